/- Fingerprints, keys, places, rows as cells; '==' and map keys over them. -/
import Derived.DeepKeys5
import Derived.KernelRfl
import Derived.Test.YtnfbchhbcinloaaGm
namespace Go.XR
open Go

structure KeyT where
  sum : Vector UInt8 32
  n : UInt32
deriving DecidableEq
structure PlaceT where
  shelf : Int
  slot : Int
deriving DecidableEq

def bV (b : UInt8) : Value := .int .u8 (b.toNat : Int)
def sumL (s : Vector UInt8 32) : List Value := s.toList.map bV
def keyL (k : KeyT) : List Value := sumL k.sum ++ [.int .u32 (k.n.toNat : Int)]
def placeL (p : PlaceT) : List Value := [.int .i64 p.shelf, .int .i64 p.slot]
def rowL (r : KeyT × PlaceT) : List Value := keyL r.1 ++ placeL r.2
def sumC (s : Vector UInt8 32) : Array Value := (sumL s).toArray
def keyC (k : KeyT) : Array Value := (keyL k).toArray
def placeC (p : PlaceT) : Array Value := (placeL p).toArray
def rowC (r : KeyT × PlaceT) : Array Value := (rowL r).toArray
abbrev sumV (s : Vector UInt8 32) : Value := .agg (sumC s)
abbrev keyV (k : KeyT) : Value := .agg (keyC k)
abbrev placeV (p : PlaceT) : Value := .agg (placeC p)
abbrev rowV (r : KeyT × PlaceT) : Value := .agg (rowC r)

theorem sumL_length (s : Vector UInt8 32) : (sumL s).length = 32 := by simp [sumL]
theorem keyL_length (k : KeyT) : (keyL k).length = 33 := by simp [keyL, sumL_length]
theorem placeL_length (p : PlaceT) : (placeL p).length = 2 := rfl
theorem rowL_length (r : KeyT × PlaceT) : (rowL r).length = 35 := by simp [rowL, keyL_length, placeL_length]
theorem sumC_size (s : Vector UInt8 32) : (sumC s).size = 32 := by simp [sumC, sumL_length]
theorem keyC_size (k : KeyT) : (keyC k).size = 33 := by simp [keyC, keyL_length]
theorem placeC_size (p : PlaceT) : (placeC p).size = 2 := rfl
theorem rowC_size (r : KeyT × PlaceT) : (rowC r).size = 35 := by simp [rowC, rowL_length]
theorem bV_inj {a b : UInt8} (h : bV a = bV b) : a = b := by
  unfold bV at h
  injection h with _ h
  exact UInt8.toNat_inj.1 (by omega)
theorem sumL_inj {a b : Vector UInt8 32} (h : sumL a = sumL b) : a = b := by
  have h1 : a.toList = b.toList := by
    unfold sumL at h
    exact List.map_inj_right (fun x y => bV_inj) |>.1 h
  exact Vector.toList_inj.1 h1
theorem keyL_inj {a b : KeyT} (h : keyL a = keyL b) : a = b := by
  obtain ⟨h1, h2⟩ := List.append_inj h (by rw [sumL_length, sumL_length])
  have h3 := sumL_inj h1
  simp at h2
  obtain ⟨s, n⟩ := a
  obtain ⟨s', n'⟩ := b
  simp at h3 h2
  subst h3
  have h4 : n = n' := UInt32.toNat_inj.1 (by omega)
  rw [h4]
theorem placeL_inj {a b : PlaceT} (h : placeL a = placeL b) : a = b := by
  unfold placeL at h
  simp at h
  obtain ⟨s, n⟩ := a
  obtain ⟨s', n'⟩ := b
  simp at h
  rw [h.1, h.2]
theorem rowL_inj {a b : KeyT × PlaceT} (h : rowL a = rowL b) : a = b := by
  obtain ⟨h1, h2⟩ := List.append_inj h (by rw [keyL_length, keyL_length])
  exact Prod.ext (keyL_inj h1) (placeL_inj h2)
theorem toArr_inj {a b : List Value} (h : a.toArray = b.toArray) : a = b := by
  have := congrArg Array.toList h; simpa using this
theorem agg_inj {a b : Array Value} (h : Value.agg a = .agg b) : a = b := by injection h
theorem keyV_inj (a b : KeyT) (h : keyV a = keyV b) : a = b := keyL_inj (toArr_inj (agg_inj h))
theorem sumV_inj (a b : Vector UInt8 32) (h : sumV a = sumV b) : a = b := sumL_inj (toArr_inj (agg_inj h))
theorem one_sumL (s : Vector UInt8 32) : ∀ v ∈ sumL s, v.oneCell' = true := by
  intro v hv
  obtain ⟨b, _, rfl⟩ := List.mem_map.1 hv
  rfl
theorem one_keyL (k : KeyT) : ∀ v ∈ keyL k, v.oneCell' = true := by
  intro v hv
  rcases List.mem_append.1 hv with h | h
  · exact one_sumL _ v h
  · rw [List.mem_singleton] at h; subst h; rfl
theorem one_placeL (p : PlaceT) : ∀ v ∈ placeL p, v.oneCell' = true := by
  intro v hv
  simp only [placeL, List.mem_cons, List.not_mem_nil, or_false] at hv
  rcases hv with rfl | rfl <;> rfl
theorem one_rowL (r : KeyT × PlaceT) : ∀ v ∈ rowL r, v.oneCell' = true := by
  intro v hv
  rcases List.mem_append.1 hv with h | h
  · exact one_keyL _ v h
  · exact one_placeL _ v h
theorem one_keyC (k : KeyT) : ∀ v ∈ (keyC k).toList, v.oneCell' = true := one_keyL k
theorem one_sumC (k : Vector UInt8 32) : ∀ v ∈ (sumC k).toList, v.oneCell' = true := one_sumL k
theorem one_rowC (k : KeyT × PlaceT) : ∀ v ∈ (rowC k).toList, v.oneCell' = true := one_rowL k

theorem sumC_get (s : Vector UInt8 32) {i : Nat} (h : i < 32) : (sumC s)[i]? = some (.int .u8 (s[i].toNat : Int)) := by
  simp [sumC, sumL, bV, h]
theorem keyC_sum (k : KeyT) : (keyC k).extract 0 (0 + 32) = sumC k.sum := by
  apply Array.ext'
  rw [Array.toList_extract, List.extract_eq_take_drop, List.drop_zero]
  exact List.take_left' (sumL_length _)
theorem keyC_n (k : KeyT) : (keyC k)[32]? = some (.int .u32 (k.n.toNat : Int)) := by
  unfold keyC
  rw [List.getElem?_toArray]
  unfold keyL
  rw [List.getElem?_append_right (by rw [sumL_length]; omega), sumL_length]; rfl
theorem rowC_key (r : KeyT × PlaceT) : (rowC r).extract 0 (0 + 33) = keyC r.1 := by
  apply Array.ext'
  rw [Array.toList_extract, List.extract_eq_take_drop, List.drop_zero]
  exact List.take_left' (keyL_length _)
theorem rowC_place (r : KeyT × PlaceT) : (rowC r).extract 33 (33 + 2) = placeC r.2 := by
  apply Array.ext'
  rw [Array.toList_extract, List.extract_eq_take_drop]
  have e : (rowL r).drop 33 = placeL r.2 := List.drop_left' (keyL_length _)
  show ((rowL r).drop 33).take (33 + 2 - 33) = _
  rw [e]
  rfl
theorem rowC_shelf (r : KeyT × PlaceT) : (rowC r)[33]? = some (.int .i64 r.2.shelf) := by
  unfold rowC
  rw [List.getElem?_toArray]
  unfold rowL
  rw [List.getElem?_append_right (by rw [keyL_length]; omega), keyL_length]; rfl
theorem rowC_slot (r : KeyT × PlaceT) : (rowC r)[34]? = some (.int .i64 r.2.slot) := by
  unfold rowC
  rw [List.getElem?_toArray]
  unfold rowL
  rw [List.getElem?_append_right (by rw [keyL_length]; omega), keyL_length]; rfl
theorem rowC_n (r : KeyT × PlaceT) : (rowC r)[32]? = some (.int .u32 (r.1.n.toNat : Int)) := by
  unfold rowC
  rw [List.getElem?_toArray]
  unfold rowL
  rw [List.getElem?_append_left (by rw [keyL_length]; omega)]
  have := keyC_n r.1
  unfold keyC at this
  rw [List.getElem?_toArray] at this
  exact this

theorem bV_wf (b : UInt8) : (Lit.int .u8 (b.toNat : Int)).wf = true := by
  have := b.toNat_lt
  simp [Lit.wf, IntKind.min, IntKind.max, IntKind.signed, IntKind.bits]
  omega
theorem u32_wf (b : UInt32) : (Lit.int .u32 (b.toNat : Int)).wf = true := by
  have := b.toNat_lt
  simp [Lit.wf, IntKind.min, IntKind.max, IntKind.signed, IntKind.bits]
  omega

section
variable {P : Program}
theorem mapM_range {f : Nat → Option (List Lit)} : ∀ (n : Nat), (∀ i, i < n → (f i).isSome = true) → ∃ as, (List.range n).mapM f = some as := by
  intro n h
  suffices H : ∀ l : List Nat, (∀ i ∈ l, (f i).isSome = true) → ∃ as, l.mapM f = some as from H _ fun i hi => h i (List.mem_range.1 hi)
  intro l
  induction l with
  | nil => intro _; exact ⟨[], rfl⟩
  | cons a l ih =>
    intro hl
    obtain ⟨b, hb⟩ := Option.isSome_iff_exists.1 (hl a (by simp))
    obtain ⟨as, ha⟩ := ih fun i hi => hl i (List.mem_cons_of_mem _ hi)
    exact ⟨b :: as, by simp [List.mapM_cons, hb, ha]⟩

theorem lits_array {d n : Nat} {t e : TypeId} {q : IntKind} (ht : P.underlying t = some (.array n e)) (he : P.underlying e = some (.int q)) (hce : P.cellsOf e = 1) (hct : P.cellsOf t = n)
    {cs : List Value} (hl : cs.length = n) (hw : ∀ v ∈ cs, ∃ z, v = .int q z ∧ (Lit.int q z).wf = true) : ∃ ls, P.keyLits (d + 2) t cs = some ls := by
  obtain ⟨as, ha⟩ := mapM_range (f := fun i => P.keyLits (d + 1) e ((cs.drop (i * P.cellsOf e)).take (P.cellsOf e))) n fun i hi => by
    rw [hce, Nat.mul_one, List.drop_eq_getElem_cons (by omega), List.take_succ_cons, List.take_zero]
    obtain ⟨z, hz, hzw⟩ := hw cs[i] (List.getElem_mem (by omega))
    rw [hz]
    simp [Program.keyLits, he, hzw]
  refine ⟨as.flatten, ?_⟩
  unfold Program.keyLits
  rw [ht]
  dsimp only
  rw [if_pos (by rw [hct]; exact hl), ha]; rfl

theorem lits_int {d : Nat} {t : TypeId} {q : IntKind} (ht : P.underlying t = some (.int q)) {z : Int} (hw : (Lit.int q z).wf = true) : ∃ ls, P.keyLits (d + 1) t [.int q z] = some ls :=
  ⟨[.int q z], by simp [Program.keyLits, ht, hw]⟩

theorem lits_pair {d : Nat} {t : TypeId} {f1 f2 : Field} (ht : P.underlying t = some (.struct #[f1, f2])) (h1 : (f1.name != "_") = true) (h2 : (f2.name != "_") = true) (o1 : f1.offset = 0)
    {xs ys : List Value} (hx : xs.length = P.cellsOf f1.type) (hy : ys.length = P.cellsOf f2.type) (o2 : f2.offset = xs.length) (hct : P.cellsOf t = xs.length + ys.length)
    (hlx : ∃ ls, P.keyLits d f1.type xs = some ls) (hly : ∃ ls, P.keyLits d f2.type ys = some ls) : ∃ ls, P.keyLits (d + 1) t (xs ++ ys) = some ls := by
  obtain ⟨a, ha⟩ := hlx
  obtain ⟨b, hb⟩ := hly
  refine ⟨[a, b].flatten, ?_⟩
  unfold Program.keyLits
  rw [ht]
  dsimp only
  rw [if_pos ⟨by rw [hct, List.length_append], by simp [h1, h2]⟩]
  have e1 : ((xs ++ ys).drop f1.offset).take (P.cellsOf f1.type) = xs := by rw [o1, List.drop_zero, ← hx]; exact List.take_left' rfl
  have e2 : ((xs ++ ys).drop f2.offset).take (P.cellsOf f2.type) = ys := by rw [o2, List.drop_left' rfl, ← hy, List.take_length]
  simp [List.mapM_cons, e1, e2, ha, hb]

theorem keyOf_of_lits {t : TypeId} (hwide : (match P.underlying t with | some (.array _ _) | some (.struct _) => true | _ => false) = true) (hk : P.keyType t = true)
    {cs : Array Value} (hs : cs.size = P.cellsOf t) (hl : ∃ ls, P.keyLits (P.types.size + 1) t cs.toList = some ls) : ∃ l, keyOf P t (.agg cs) = some l := by
  obtain ⟨ls, hl⟩ := hl
  refine ⟨.string (keyBytes ls), ?_⟩
  have hf : (Value.agg cs).formed P t = true := by
    unfold Value.formed
    split at hwide <;> simp_all
  unfold keyOf
  split
  · rw [if_pos (by simp [hk, hf])]; simp [Value.cells, hl]
  · rw [if_pos (by simp [hk, hf])]; simp [Value.cells, hl]
  · rename_i h1 h2
    split at hwide <;> simp_all

/-- '==' at a type of such cells -/
theorem equal_cells {α : Type} {t : TypeId} {c : α → Array Value} (hl : laidOutB P = true) (hsmall : P.types.size + 2 ≤ 10000) (hrow : t < P.types.size) (hk : P.keyType t = true)
    (hwide : (match P.underlying t with | some (.array _ _) | some (.struct _) => true | _ => false) = true)
    (ok : ∀ a, ∃ l, keyOf P t (.agg (c a)) = some l) (inj : ∀ a b, Value.agg (c a) = .agg (c b) → a = b) [DecidableEq α] (a b : α) (w : World) :
    (Op.equal t (.agg (c a)) (.agg (c b))).run P w = .ok (decide (a = b)) w := by
  obtain ⟨la, ha⟩ := ok a
  obtain ⟨lb, hb⟩ := ok b
  have K := deep_law_gate hl hsmall hrow hk hwide
  obtain ⟨r, hr, hiff⟩ := run_equal_deep (P := P) w (m := P.types.size + 1) (by omega) hk hwide ha hb
  rw [hr]
  congr 1
  rw [Bool.eq_iff_iff, hiff, decide_eq_true_iff]
  constructor
  · intro e
    subst e
    exact inj a b (K.inj ha hb)
  · rintro rfl
    rw [ha] at hb
    exact Option.some.inj hb
end
end Go.XR
