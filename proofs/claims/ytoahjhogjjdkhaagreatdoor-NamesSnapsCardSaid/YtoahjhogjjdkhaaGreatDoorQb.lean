/- Walks and laws that the statements of this seat share, part 2. -/
import Derived.DeepKeys5
import Derived.KernelRfl
import Derived.Laws.Rows
import Derived.Laws.CopyRow
import Derived.Below
import Derived.Laws.MakeOwn
import Derived.Test.YtoahjhogjjdkhaaGreatDoorProg
import Derived.Deep.LoopGhost
import Derived.Test.YtoahjhogjjdkhaaGreatDoorQa
/- Fingerprints, keys, places, rows as cells; '==' and map keys over them. -/
namespace Go.XR
open Go

structure KeyT where
  sum : Vector UInt8 32
  n : UInt32
deriving DecidableEq
structure PlaceT where
  shelf : Int
  slot : Int
deriving DecidableEq

def bV (b : UInt8) : Value := .int .u8 (b.toNat : Int)
def sumL (s : Vector UInt8 32) : List Value := s.toList.map bV
def keyL (k : KeyT) : List Value := sumL k.sum ++ [.int .u32 (k.n.toNat : Int)]
def placeL (p : PlaceT) : List Value := [.int .i64 p.shelf, .int .i64 p.slot]
def rowL (r : KeyT × PlaceT) : List Value := keyL r.1 ++ placeL r.2
def sumC (s : Vector UInt8 32) : Array Value := (sumL s).toArray
def keyC (k : KeyT) : Array Value := (keyL k).toArray
def placeC (p : PlaceT) : Array Value := (placeL p).toArray
def rowC (r : KeyT × PlaceT) : Array Value := (rowL r).toArray
abbrev sumV (s : Vector UInt8 32) : Value := .agg (sumC s)
abbrev keyV (k : KeyT) : Value := .agg (keyC k)
abbrev placeV (p : PlaceT) : Value := .agg (placeC p)
abbrev rowV (r : KeyT × PlaceT) : Value := .agg (rowC r)

theorem sumL_length (s : Vector UInt8 32) : (sumL s).length = 32 := by simp [sumL]
theorem keyL_length (k : KeyT) : (keyL k).length = 33 := by simp [keyL, sumL_length]
theorem placeL_length (p : PlaceT) : (placeL p).length = 2 := rfl
theorem rowL_length (r : KeyT × PlaceT) : (rowL r).length = 35 := by simp [rowL, keyL_length, placeL_length]
theorem sumC_size (s : Vector UInt8 32) : (sumC s).size = 32 := by simp [sumC, sumL_length]
theorem keyC_size (k : KeyT) : (keyC k).size = 33 := by simp [keyC, keyL_length]
theorem placeC_size (p : PlaceT) : (placeC p).size = 2 := rfl
theorem rowC_size (r : KeyT × PlaceT) : (rowC r).size = 35 := by simp [rowC, rowL_length]
theorem bV_inj {a b : UInt8} (h : bV a = bV b) : a = b := by
  unfold bV at h
  injection h with _ h
  exact UInt8.toNat_inj.1 (by omega)
theorem sumL_inj {a b : Vector UInt8 32} (h : sumL a = sumL b) : a = b := by
  have h1 : a.toList = b.toList := by
    unfold sumL at h
    exact List.map_inj_right (fun x y => bV_inj) |>.1 h
  exact Vector.toList_inj.1 h1
theorem keyL_inj {a b : KeyT} (h : keyL a = keyL b) : a = b := by
  obtain ⟨h1, h2⟩ := List.append_inj h (by rw [sumL_length, sumL_length])
  have h3 := sumL_inj h1
  simp at h2
  obtain ⟨s, n⟩ := a
  obtain ⟨s', n'⟩ := b
  simp at h3 h2
  subst h3
  have h4 : n = n' := UInt32.toNat_inj.1 (by omega)
  rw [h4]
theorem placeL_inj {a b : PlaceT} (h : placeL a = placeL b) : a = b := by
  unfold placeL at h
  simp at h
  obtain ⟨s, n⟩ := a
  obtain ⟨s', n'⟩ := b
  simp at h
  rw [h.1, h.2]
theorem rowL_inj {a b : KeyT × PlaceT} (h : rowL a = rowL b) : a = b := by
  obtain ⟨h1, h2⟩ := List.append_inj h (by rw [keyL_length, keyL_length])
  exact Prod.ext (keyL_inj h1) (placeL_inj h2)
theorem toArr_inj {a b : List Value} (h : a.toArray = b.toArray) : a = b := by
  have := congrArg Array.toList h; simpa using this
theorem agg_inj {a b : Array Value} (h : Value.agg a = .agg b) : a = b := by injection h
theorem keyV_inj (a b : KeyT) (h : keyV a = keyV b) : a = b := keyL_inj (toArr_inj (agg_inj h))
theorem sumV_inj (a b : Vector UInt8 32) (h : sumV a = sumV b) : a = b := sumL_inj (toArr_inj (agg_inj h))
theorem one_sumL (s : Vector UInt8 32) : ∀ v ∈ sumL s, v.oneCell' = true := by
  intro v hv
  obtain ⟨b, _, rfl⟩ := List.mem_map.1 hv
  rfl
theorem one_keyL (k : KeyT) : ∀ v ∈ keyL k, v.oneCell' = true := by
  intro v hv
  rcases List.mem_append.1 hv with h | h
  · exact one_sumL _ v h
  · rw [List.mem_singleton] at h; subst h; rfl
theorem one_placeL (p : PlaceT) : ∀ v ∈ placeL p, v.oneCell' = true := by
  intro v hv
  simp only [placeL, List.mem_cons, List.not_mem_nil, or_false] at hv
  rcases hv with rfl | rfl <;> rfl
theorem one_rowL (r : KeyT × PlaceT) : ∀ v ∈ rowL r, v.oneCell' = true := by
  intro v hv
  rcases List.mem_append.1 hv with h | h
  · exact one_keyL _ v h
  · exact one_placeL _ v h
theorem one_keyC (k : KeyT) : ∀ v ∈ (keyC k).toList, v.oneCell' = true := one_keyL k
theorem one_sumC (k : Vector UInt8 32) : ∀ v ∈ (sumC k).toList, v.oneCell' = true := one_sumL k
theorem one_rowC (k : KeyT × PlaceT) : ∀ v ∈ (rowC k).toList, v.oneCell' = true := one_rowL k

theorem sumC_get (s : Vector UInt8 32) {i : Nat} (h : i < 32) : (sumC s)[i]? = some (.int .u8 (s[i].toNat : Int)) := by
  simp [sumC, sumL, bV, h]
theorem keyC_sum (k : KeyT) : (keyC k).extract 0 (0 + 32) = sumC k.sum := by
  apply Array.ext'
  rw [Array.toList_extract, List.extract_eq_take_drop, List.drop_zero]
  exact List.take_left' (sumL_length _)
theorem keyC_n (k : KeyT) : (keyC k)[32]? = some (.int .u32 (k.n.toNat : Int)) := by
  unfold keyC
  rw [List.getElem?_toArray]
  unfold keyL
  rw [List.getElem?_append_right (by rw [sumL_length]; omega), sumL_length]; rfl
theorem rowC_key (r : KeyT × PlaceT) : (rowC r).extract 0 (0 + 33) = keyC r.1 := by
  apply Array.ext'
  rw [Array.toList_extract, List.extract_eq_take_drop, List.drop_zero]
  exact List.take_left' (keyL_length _)
theorem rowC_place (r : KeyT × PlaceT) : (rowC r).extract 33 (33 + 2) = placeC r.2 := by
  apply Array.ext'
  rw [Array.toList_extract, List.extract_eq_take_drop]
  have e : (rowL r).drop 33 = placeL r.2 := List.drop_left' (keyL_length _)
  show ((rowL r).drop 33).take (33 + 2 - 33) = _
  rw [e]
  rfl
theorem rowC_shelf (r : KeyT × PlaceT) : (rowC r)[33]? = some (.int .i64 r.2.shelf) := by
  unfold rowC
  rw [List.getElem?_toArray]
  unfold rowL
  rw [List.getElem?_append_right (by rw [keyL_length]; omega), keyL_length]; rfl
theorem rowC_slot (r : KeyT × PlaceT) : (rowC r)[34]? = some (.int .i64 r.2.slot) := by
  unfold rowC
  rw [List.getElem?_toArray]
  unfold rowL
  rw [List.getElem?_append_right (by rw [keyL_length]; omega), keyL_length]; rfl
theorem rowC_n (r : KeyT × PlaceT) : (rowC r)[32]? = some (.int .u32 (r.1.n.toNat : Int)) := by
  unfold rowC
  rw [List.getElem?_toArray]
  unfold rowL
  rw [List.getElem?_append_left (by rw [keyL_length]; omega)]
  have := keyC_n r.1
  unfold keyC at this
  rw [List.getElem?_toArray] at this
  exact this

theorem bV_wf (b : UInt8) : (Lit.int .u8 (b.toNat : Int)).wf = true := by
  have := b.toNat_lt
  simp [Lit.wf, IntKind.min, IntKind.max, IntKind.signed, IntKind.bits]
  omega
theorem u32_wf (b : UInt32) : (Lit.int .u32 (b.toNat : Int)).wf = true := by
  have := b.toNat_lt
  simp [Lit.wf, IntKind.min, IntKind.max, IntKind.signed, IntKind.bits]
  omega

section
variable {P : Program}
theorem mapM_range {f : Nat → Option (List Lit)} : ∀ (n : Nat), (∀ i, i < n → (f i).isSome = true) → ∃ ls9, (List.range n).mapM f = some ls9 := by
  intro n h
  suffices H : ∀ l : List Nat, (∀ i ∈ l, (f i).isSome = true) → ∃ ls9, l.mapM f = some ls9 from H _ fun i hi => h i (List.mem_range.1 hi)
  intro l
  induction l with
  | nil => intro _; exact ⟨[], rfl⟩
  | cons a l ih =>
    intro hl
    obtain ⟨b, hb⟩ := Option.isSome_iff_exists.1 (hl a (by simp))
    obtain ⟨ls9, ha⟩ := ih fun i hi => hl i (List.mem_cons_of_mem _ hi)
    exact ⟨b :: ls9, by simp [List.mapM_cons, hb, ha]⟩

theorem lits_array {d n : Nat} {t e : TypeId} {q : IntKind} (ht : P.underlying t = some (.array n e)) (he : P.underlying e = some (.int q)) (hce : P.cellsOf e = 1) (hct : P.cellsOf t = n)
    {cs : List Value} (hl : cs.length = n) (hw : ∀ v ∈ cs, ∃ z, v = .int q z ∧ (Lit.int q z).wf = true) : ∃ ls, P.keyLits (d + 2) t cs = some ls := by
  obtain ⟨ls9, ha⟩ := mapM_range (f := fun i => P.keyLits (d + 1) e ((cs.drop (i * P.cellsOf e)).take (P.cellsOf e))) n fun i hi => by
    rw [hce, Nat.mul_one, List.drop_eq_getElem_cons (by omega), List.take_succ_cons, List.take_zero]
    obtain ⟨z, hz, hzw⟩ := hw cs[i] (List.getElem_mem (by omega))
    rw [hz]
    simp [Program.keyLits, he, hzw]
  refine ⟨ls9.flatten, ?_⟩
  unfold Program.keyLits
  rw [ht]
  dsimp only
  rw [if_pos (by rw [hct]; exact hl), ha]; rfl

theorem lits_int {d : Nat} {t : TypeId} {q : IntKind} (ht : P.underlying t = some (.int q)) {z : Int} (hw : (Lit.int q z).wf = true) : ∃ ls, P.keyLits (d + 1) t [.int q z] = some ls :=
  ⟨[.int q z], by simp [Program.keyLits, ht, hw]⟩

theorem lits_pair {d : Nat} {t : TypeId} {f1 f2 : Field} (ht : P.underlying t = some (.struct #[f1, f2])) (h1 : (f1.name != "_") = true) (h2 : (f2.name != "_") = true) (o1 : f1.offset = 0)
    {xs ys : List Value} (hx : xs.length = P.cellsOf f1.type) (hy : ys.length = P.cellsOf f2.type) (o2 : f2.offset = xs.length) (hct : P.cellsOf t = xs.length + ys.length)
    (hlx : ∃ ls, P.keyLits d f1.type xs = some ls) (hly : ∃ ls, P.keyLits d f2.type ys = some ls) : ∃ ls, P.keyLits (d + 1) t (xs ++ ys) = some ls := by
  obtain ⟨a, ha⟩ := hlx
  obtain ⟨b, hb⟩ := hly
  refine ⟨[a, b].flatten, ?_⟩
  unfold Program.keyLits
  rw [ht]
  dsimp only
  rw [if_pos ⟨by rw [hct, List.length_append], by simp [h1, h2]⟩]
  have e1 : ((xs ++ ys).drop f1.offset).take (P.cellsOf f1.type) = xs := by rw [o1, List.drop_zero, ← hx]; exact List.take_left' rfl
  have e2 : ((xs ++ ys).drop f2.offset).take (P.cellsOf f2.type) = ys := by rw [o2, List.drop_left' rfl, ← hy, List.take_length]
  simp [List.mapM_cons, e1, e2, ha, hb]

theorem keyOf_of_lits {t : TypeId} (hwide : (match P.underlying t with | some (.array _ _) | some (.struct _) => true | _ => false) = true) (hk : P.keyType t = true)
    {cs : Array Value} (hs : cs.size = P.cellsOf t) (hl : ∃ ls, P.keyLits (P.types.size + 1) t cs.toList = some ls) : ∃ l, keyOf P t (.agg cs) = some l := by
  obtain ⟨ls, hl⟩ := hl
  refine ⟨.string (keyBytes ls), ?_⟩
  have hf : (Value.agg cs).formed P t = true := by
    unfold Value.formed
    split at hwide <;> simp_all
  unfold keyOf
  split
  · rw [if_pos (by simp [hk, hf])]; simp [Value.cells, hl]
  · rw [if_pos (by simp [hk, hf])]; simp [Value.cells, hl]
  · rename_i h1 h2
    split at hwide <;> simp_all

/-- '==' at a type of such cells -/
theorem equal_cells {α : Type} {t : TypeId} {c : α → Array Value} (hl : laidOutB P = true) (hsmall : P.types.size + 2 ≤ 10000) (hrow : t < P.types.size) (hk : P.keyType t = true)
    (hwide : (match P.underlying t with | some (.array _ _) | some (.struct _) => true | _ => false) = true)
    (ok : ∀ a, ∃ l, keyOf P t (.agg (c a)) = some l) (inj : ∀ a b, Value.agg (c a) = .agg (c b) → a = b) [DecidableEq α] (a b : α) (w : World) :
    (Op.equal t (.agg (c a)) (.agg (c b))).run P w = .ok (decide (a = b)) w := by
  obtain ⟨la, ha⟩ := ok a
  obtain ⟨lb, hb⟩ := ok b
  have K := deep_law_gate hl hsmall hrow hk hwide
  obtain ⟨r, hr, hiff⟩ := run_equal_deep (P := P) w (m := P.types.size + 1) (by omega) hk hwide ha hb
  rw [hr]
  congr 1
  rw [Bool.eq_iff_iff, hiff, decide_eq_true_iff]
  constructor
  · intro e
    subst e
    exact inj a b (K.inj ha hb)
  · rintro rfl
    rw [ha] at hb
    exact Option.some.inj hb
end
end Go.XR

/- Extents and their bytes: plain. -/
namespace Go.NamesPure
open Go Go.XR
/-- an extent: a key, and from where on and how much of it (as a place's two numbers) -/
abbrev Ext := KeyT × PlaceT
def extOk (x : Ext) : Bool := !(decide (x.2.shelf < 0) || (decide (x.2.slot < 1) || (decide (4096 < x.2.shelf) || decide (4096 - x.2.shelf < x.2.slot))))
def rightP (l : List Ext) : Bool := decide (l.length ≤ 16384) && l.all extOk
def sumLen (l : List Ext) : Int := (l.map (·.2.slot)).sum
def totalP (l : List Ext) : Int := if rightP l then sumLen l else 0
def extB (x : Ext) : List UInt8 := x.1.sum.toList ++ (be x.1.n.toNat 4 ++ (be x.2.shelf.toNat 2 ++ be x.2.slot.toNat 2))
def layB (l : List Ext) : List UInt8 := be l.length 4 ++ l.flatMap extB
def sumOf (b : List UInt8) : Vector UInt8 32 := Vector.ofFn fun i => b.getD i.val 0
def extOf (b : List UInt8) : Ext := (⟨sumOf b, UInt32.ofNat (num ((b.drop 32).take 4))⟩, ⟨num ((b.drop 36).take 2), num ((b.drop 38).take 2)⟩)
def rowsN : Nat → List UInt8 → List Ext
  | 0, _ => []
  | n + 1, b => extOf (b.take 40) :: rowsN n (b.drop 40)
def formP (b : List UInt8) : Bool := decide (4 ≤ b.length) && (decide ((b.length - 4) % 40 = 0) && decide (num (b.take 4) = (b.length - 4) / 40))
def takeP (b : List UInt8) : Option (List Ext) := if formP b && rightP (rowsN ((b.length - 4) / 40) (b.drop 4)) then some (rowsN ((b.length - 4) / 40) (b.drop 4)) else none

theorem extB_length (x : Ext) : (extB x).length = 40 := by
  unfold extB
  rw [List.length_append, List.length_append, List.length_append, be_length, be_length, be_length, Vector.length_toList]
theorem flat_extB (l : List Ext) : (l.flatMap extB).length = 40 * l.length := by
  induction l with
  | nil => rfl
  | cons x l ih => rw [List.flatMap_cons, List.length_append, ih, extB_length, List.length_cons]; omega
theorem layB_length (l : List Ext) : (layB l).length = 4 + 40 * l.length := by
  unfold layB
  rw [List.length_append, be_length, flat_extB]
theorem extOk_bounds {x : Ext} (h : extOk x = true) : 0 ≤ x.2.shelf ∧ x.2.shelf ≤ 4096 ∧ 1 ≤ x.2.slot ∧ x.2.slot ≤ 4096 := by
  unfold extOk at h
  simp only [Bool.not_eq_true', Bool.or_eq_false_iff, decide_eq_false_iff_not] at h
  omega
theorem sumOf_append (v : Vector UInt8 32) (r : List UInt8) : sumOf (v.toList ++ r) = v := by
  refine Vector.ext fun i hi => ?_
  unfold sumOf
  rw [Vector.getElem_ofFn, List.getD_eq_getElem?_getD, List.getElem?_append_left (by rw [Vector.length_toList]; exact hi)]
  rw [List.getElem?_eq_getElem (by rw [Vector.length_toList]; exact hi), Option.getD_some, Vector.getElem_toList]
theorem extOf_extB {x : Ext} (h : extOk x = true) : extOf (extB x) = x := by
  obtain ⟨h1, h2, h3, h4⟩ := extOk_bounds h
  obtain ⟨⟨s, n⟩, ⟨o, l⟩⟩ := x
  unfold extOf
  have e0 : extB (⟨s, n⟩, ⟨o, l⟩) = s.toList ++ (be n.toNat 4 ++ (be o.toNat 2 ++ be l.toNat 2)) := rfl
  have hs : s.toList.length = 32 := Vector.length_toList
  have e1 : (extB (⟨s, n⟩, ⟨o, l⟩)).drop 32 = be n.toNat 4 ++ (be o.toNat 2 ++ be l.toNat 2) := by rw [e0, List.drop_left' hs]
  have e2 : (extB (⟨s, n⟩, ⟨o, l⟩)).drop 36 = be o.toNat 2 ++ be l.toNat 2 := by
    rw [show 36 = 32 + 4 from rfl, ← List.drop_drop, e1, List.drop_left' (be_length _ _)]
  have e3 : (extB (⟨s, n⟩, ⟨o, l⟩)).drop 38 = be l.toNat 2 := by
    rw [show 38 = 36 + 2 from rfl, ← List.drop_drop, e2, List.drop_left' (be_length _ _)]
  rw [e1, e2, e3, e0, sumOf_append, List.take_left' (be_length _ _), List.take_left' (be_length _ _), List.take_of_length_le (by rw [be_length]; exact Nat.le_refl _), num_be, num_be, num_be]
  have hn := n.toNat_lt
  dsimp only at h1 h2 h3 h4
  have a1 : UInt32.ofNat (n.toNat % 256 ^ 4) = n := by
    rw [Nat.mod_eq_of_lt (by omega)]; exact UInt32.ofNat_toNat
  have a2 : ((o.toNat % 256 ^ 2 : Nat) : Int) = o := by rw [Nat.mod_eq_of_lt (by omega)]; omega
  have a3 : ((l.toNat % 256 ^ 2 : Nat) : Int) = l := by rw [Nat.mod_eq_of_lt (by omega)]; omega
  rw [a1, a2, a3]
theorem rowsN_flat : ∀ {l : List Ext}, (∀ x ∈ l, extOk x = true) → rowsN l.length (l.flatMap extB) = l
  | [], _ => rfl
  | x :: l, h => by
    rw [List.length_cons, rowsN, List.flatMap_cons, List.take_left' (extB_length x), List.drop_left' (extB_length x), extOf_extB (h x (List.mem_cons_self ..)), rowsN_flat fun y hy => h y (List.mem_cons_of_mem _ hy)]
theorem rightP_all {l : List Ext} (h : rightP l = true) : l.length ≤ 16384 ∧ ∀ x ∈ l, extOk x = true := by
  unfold rightP at h
  rw [Bool.and_eq_true] at h
  exact ⟨of_decide_eq_true h.1, List.all_eq_true.1 h.2⟩
theorem takeP_layB {l : List Ext} (h : rightP l = true) : takeP (layB l) = some l := by
  obtain ⟨h1, h2⟩ := rightP_all h
  have hl := layB_length l
  have e1 : ((layB l).length - 4) / 40 = l.length := by rw [hl]; omega
  have e2 : (layB l).drop 4 = l.flatMap extB := List.drop_left' (be_length _ _)
  have e3 : (layB l).take 4 = be l.length 4 := List.take_left' (be_length _ _)
  have e4 : formP (layB l) = true := by
    unfold formP
    rw [e1, e3, num_be, hl]
    simp only [Bool.and_eq_true, decide_eq_true_eq]
    omega
  unfold takeP
  rw [e1, e2, rowsN_flat h2, e4, h]
  rfl
/-- bytes are those of the number they tell -/
theorem be_num : ∀ (l : List UInt8), be (num l) l.length = l := by
  intro l
  induction l with
  | nil => rfl
  | cons x l ih =>
    have hn : num (x :: l) = x.toNat * 256 ^ l.length + num l := by
      rw [num, List.foldl_cons, num_fold, Nat.zero_mul, Nat.zero_add]
    have hl := num_lt l
    rw [List.length_cons, be]
    have e1 : num (x :: l) / 256 ^ l.length = x.toNat := by
      rw [hn, Nat.mul_comm, Nat.mul_add_div (Nat.pow_pos (by omega)), Nat.div_eq_of_lt hl, Nat.add_zero]
    rw [e1]
    congr 1
    · simp
    · rw [hn]
      conv => rhs; rw [← ih]
      exact be_mod _ _ _
where
  be_mod (a b m : Nat) : be (a * 256 ^ m + b) m = be b m := by
    have h : ∀ k, k ≤ m → be (a * 256 ^ m + b) k = be b k := by
      intro k
      induction k with
      | zero => intro _; rfl
      | succ k ih =>
        intro hk
        rw [be, be, ih (by omega)]
        congr 1
        have e : 256 ^ m = 256 ^ k * (256 * 256 ^ (m - k - 1)) := by
          rw [← Nat.mul_assoc, ← Nat.pow_succ, ← Nat.pow_add]; congr 1; omega
        rw [e, ← Nat.mul_assoc, Nat.mul_comm a, Nat.mul_assoc, Nat.mul_add_div (Nat.pow_pos (by omega))]
        apply UInt8.toNat_inj.1
        simp only [UInt8.toNat_ofNat']
        rw [Nat.mul_left_comm]
        omega
    exact h m (Nat.le_refl _)
theorem sumOf_toList {b : List UInt8} (h : 32 ≤ b.length) : (sumOf b).toList = b.take 32 := by
  refine List.ext_getElem (by rw [Vector.length_toList, List.length_take]; omega) fun i h1 h2 => ?_
  rw [Vector.length_toList] at h1
  rw [Vector.getElem_toList, List.getElem_take]
  unfold sumOf
  rw [Vector.getElem_ofFn, List.getD_eq_getElem?_getD, List.getElem?_eq_getElem (by omega), Option.getD_some]
theorem extB_extOf {b : List UInt8} (h : b.length = 40) : extB (extOf b) = b := by
  have l1 : ((b.drop 32).take 4).length = 4 := by rw [List.length_take, List.length_drop]; omega
  have l2 : ((b.drop 36).take 2).length = 2 := by rw [List.length_take, List.length_drop]; omega
  have l3 : ((b.drop 38).take 2).length = 2 := by rw [List.length_take, List.length_drop]; omega
  have n1 := num_lt ((b.drop 32).take 4)
  rw [l1] at n1
  have a1 : (UInt32.ofNat (num ((b.drop 32).take 4))).toNat = num ((b.drop 32).take 4) := by
    rw [UInt32.toNat_ofNat']; exact Nat.mod_eq_of_lt (by omega)
  have b1 := be_num ((b.drop 32).take 4)
  have b2 := be_num ((b.drop 36).take 2)
  have b3 := be_num ((b.drop 38).take 2)
  rw [l1] at b1
  rw [l2] at b2
  rw [l3] at b3
  unfold extB extOf
  show (sumOf b).toList ++ (be (UInt32.ofNat (num ((b.drop 32).take 4))).toNat 4 ++ (be ((num ((b.drop 36).take 2) : Nat) : Int).toNat 2 ++ be ((num ((b.drop 38).take 2) : Nat) : Int).toNat 2)) = b
  rw [a1, Int.toNat_natCast, Int.toNat_natCast, b1, b2, b3, sumOf_toList (by omega)]
  have c3 : (b.drop 38).take 2 = b.drop 38 := List.take_of_length_le (by rw [List.length_drop]; omega)
  have c2 : (b.drop 36).take 2 ++ b.drop 38 = b.drop 36 := by
    conv => rhs; rw [← List.take_append_drop 2 (b.drop 36), List.drop_drop]
  have c1 : (b.drop 32).take 4 ++ b.drop 36 = b.drop 32 := by
    conv => rhs; rw [← List.take_append_drop 4 (b.drop 32), List.drop_drop]
  rw [c3, c2, c1, List.take_append_drop]
theorem rowsN_length : ∀ (n : Nat) (b : List UInt8), (rowsN n b).length = n
  | 0, _ => rfl
  | n + 1, b => by rw [rowsN, List.length_cons, rowsN_length n]
theorem flat_rowsN : ∀ (n : Nat) (b : List UInt8), b.length = 40 * n → (rowsN n b).flatMap extB = b
  | 0, b, h => by
    have : b = [] := List.eq_nil_of_length_eq_zero (by omega)
    subst this; rfl
  | n + 1, b, h => by
    rw [rowsN, List.flatMap_cons, extB_extOf (by rw [List.length_take]; omega), flat_rowsN n _ (by rw [List.length_drop]; omega), List.take_append_drop]
theorem takeP_some {b : List UInt8} {l : List Ext} (h : takeP b = some l) : b = layB l ∧ rightP l = true := by
  unfold takeP at h
  split at h
  · rename_i hc
    rw [Bool.and_eq_true] at hc
    obtain ⟨hf, hr⟩ := hc
    cases h
    refine ⟨?_, hr⟩
    unfold formP at hf
    simp only [Bool.and_eq_true, decide_eq_true_eq] at hf
    obtain ⟨h1, h2, h3⟩ := hf
    have hd : (b.drop 4).length = 40 * ((b.length - 4) / 40) := by rw [List.length_drop]; omega
    unfold layB
    rw [rowsN_length, flat_rowsN _ _ hd, ← h3]
    have h4 : (b.take 4).length = 4 := by rw [List.length_take]; omega
    have h5 := be_num (b.take 4)
    rw [h4] at h5
    rw [h5, List.take_append_drop]
  · cases h
end Go.NamesPure

/- Aggregates of many cells: read and written whole, their cells never written out. -/
namespace Go.XR
open Go Go.RowKit

/-- the cells cs lie in w from block g, place off on -/
def At (w : World) (g off : Nat) (cs : Array Value) : Prop := ∀ j u, cs[j]? = some u → w.cell? ⟨g, off + j, none⟩ = some u

theorem At.new (w : World) (cs : Array Value) (T : TypeId) : At (w.alloc (.cells cs T)) w.heap.size 0 cs := fun j u h => by
  rw [World.cell?_alloc_new, Nat.zero_add]; exact h
theorem At.heap {w w' : World} {g off : Nat} {cs : Array Value} (h : At w g off cs) (hh : w'.heap[g]? = w.heap[g]?) : At w' g off cs := fun j u hj => by
  have := h j u hj
  unfold World.cell? at this ⊢
  dsimp only at this ⊢
  rw [hh]; exact this
theorem At.below {w w' : World} {g off : Nat} {cs : Array Value} (h : At w g off cs) (hne : 0 < cs.size) (hb : Below w.heap.size w w') : At w' g off cs :=
  h.heap (hb.block g (by have := cell_lt (h 0 cs[0] (Array.getElem?_eq_getElem hne)); exact this))
theorem At.alloc {w : World} {g off : Nat} {cs : Array Value} (h : At w g off cs) (o : Obj) : At (w.alloc o) g off cs := fun j u hj => by
  have h1 := h j u hj
  rw [World.cell?_alloc_old _ _ _ (Nat.ne_of_lt (cell_lt h1))]; exact h1
theorem At.drew {w : World} {g off : Nat} {cs : Array Value} (h : At w g off cs) : At w.drew g off cs := h
theorem At.sub {w : World} {g off : Nat} {cs : Array Value} (h : At w g off cs) (i n : Nat) : At w g (off + i) (cs.extract i (i + n)) := fun j u hj => by
  rw [Array.getElem?_extract] at hj
  split at hj
  · rw [Nat.add_assoc]; exact h _ u hj
  · cases hj
theorem At.lt {w : World} {g off : Nat} {cs : Array Value} (h : At w g off cs) (hne : 0 < cs.size) : g < w.heap.size := cell_lt (h 0 cs[0] (Array.getElem?_eq_getElem hne))

section
variable {P : Program} {w : World}

theorem run_isAgg {ty : TypeId} {d : TypeDesc} (hu : P.underlying ty = some d) (hd : (match d with | .struct _ | .array _ _ => true | _ => false) = true) : (isAgg ty).run P w = .ok true w := by
  unfold isAgg
  rw [Sem.run_bind, run_underlying hu w]
  cases d <;> simp_all
theorem run_sizeOf_eq {ty : TypeId} {n : Nat} (hi : (P.info? ty).map (·.size) = some n) : (sizeOf ty).run P w = .ok n w := by
  cases hq : P.info? ty with
  | none => simp [hq] at hi
  | some i =>
    have hs : i.size = n := by simpa [hq] using hi
    simp [sizeOf, typeInfo, hq, hs]

theorem run_loadVar_at {g off : Nat} {ty : TypeId} {cs : Array Value} {d : TypeDesc} (h : At w g off cs)
    (hu : P.underlying ty = some d) (hd : (match d with | .struct _ | .array _ _ => true | _ => false) = true) (hi : (P.info? ty).map (·.size) = some cs.size) :
    (loadVar ty ⟨g, off, none⟩).run P w = .ok (.agg cs) w := by
  have hl : (loadCells ⟨g, off, none⟩ cs.toList.length).run P w = .ok cs.toList.toArray w :=
    run_loadCells_list (P := P) w ⟨g, off, none⟩ cs.toList (fun j v hv => by
      have hadd : (⟨g, off, none⟩ : Addr).add j = ⟨g, off + j, none⟩ := by unfold Addr.add; split <;> simp_all
      rw [hadd]
      exact h j v (by simpa using hv))
  simp only [Array.length_toList, Array.toArray_toList] at hl
  simp [loadVar, Sem.run_bind, run_isAgg hu hd, run_sizeOf_eq hi, hl]

theorem wp_load_at {o : Oper} {a : Act} {K : Act → World → Prop} {Q : Exit → Act → World → Prop} (ty : TypeId) (x : Operand) (ho : o.op = .load ty x)
    (g off : Nat) (hx : a.eval x = .pointer (some ⟨g, off, none⟩)) (cs : Array Value) (h : At w g off cs) (d : TypeDesc)
    (hu : P.underlying ty = some d) (hd : (match d with | .struct _ | .array _ _ => true | _ => false) = true) (hi : (P.info? ty).map (·.size) = some cs.size)
    (hK : K (a.put o.dst (.agg cs)) w) : o.wp P a w K Q := by
  unfold Oper.wp execOp
  simp only [ho, hx, Instr.loadAt, Instr.sureAddr, Sem.run_bind, Sem.run_pure, Result.andThen_ok, run_loadVar_at h hu hd hi]
  exact hK
theorem wpList_load_at {ops : Array Oper} {rest : List Oper} {o : Oper} {a : Act} {Q : Exit → Act → World → Prop} (hgd : o.guard = none) (ty : TypeId) (x : Operand) (ho : o.op = .load ty x)
    (g off : Nat) (hx : a.eval x = .pointer (some ⟨g, off, none⟩)) (cs : Array Value) (h : At w g off cs) (d : TypeDesc)
    (hu : P.underlying ty = some d) (hd : (match d with | .struct _ | .array _ _ => true | _ => false) = true) (hi : (P.info? ty).map (·.size) = some cs.size)
    (hK : wpList P ops Q rest (a.put o.dst (.agg cs)) w) : wpList P ops Q (o :: rest) a w :=
  wpList_plain hgd fun _ hK' => wp_load_at ty x ho g off hx cs h d hu hd hi (hK' _ _ hK)

theorem alloc_setRow (w : World) (zs cs : Array Value) (T : TypeId) : (w.alloc (.cells zs T)).setRow w.heap.size cs = w.alloc (.cells cs T) := by
  unfold World.setRow World.alloc
  congr 1
  refine Array.ext_getElem? fun i => ?_
  simp only [Array.getElem?_modify, Array.getElem?_push]
  by_cases h : i = w.heap.size
  · subst h; simp
  · rw [if_neg (fun e => h e.symm), if_neg h, if_neg h]

theorem run_storeVar_at {g off : Nat} {ty t : TypeId} {cur cs : Array Value} (hg : w.heap[g]? = some (.cells cur t (0, 0))) (hl : off + cs.size ≤ cur.size) (h1 : ∀ v ∈ cs.toList, v.oneCell' = true)
    (hi : (P.info? ty).map (·.size) = some cs.size) :
    (storeVar ty ⟨g, off, none⟩ (.agg cs)).run P w = .ok () (w.setRow g (cur.toList.take off ++ cs.toList ++ cur.toList.drop (off + cs.size)).toArray) := by
  have h := run_storeCells_at (P := P) g off t cs.toList 0 cur w hg (by simpa using hl) h1
  simp [storeVar, Sem.run_bind, run_sizeOf_eq hi, Value.cells, h]

theorem wp_store_at {o : Oper} {a : Act} {K : Act → World → Prop} {Q : Exit → Act → World → Prop} (ty : TypeId) (x v : Operand) (ho : o.op = .store ty x v)
    (g off : Nat) (hx : a.eval x = .pointer (some ⟨g, off, none⟩)) (cs cur : Array Value) (hv : a.eval v = .agg cs) (t : TypeId) (hg : w.heap[g]? = some (.cells cur t (0, 0))) (hl : off + cs.size ≤ cur.size) (h1 : ∀ v ∈ cs.toList, v.oneCell' = true)
    (hi : (P.info? ty).map (·.size) = some cs.size)
    (hK : K (a.put o.dst undef) (w.setRow g (cur.toList.take off ++ cs.toList ++ cur.toList.drop (off + cs.size)).toArray)) : o.wp P a w K Q := by
  unfold Oper.wp execOp
  simp only [ho, hx, hv, Instr.storeAt, Instr.sureAddr, Sem.run_bind, Sem.run_pure, Result.andThen_ok, run_storeVar_at hg hl h1 hi]
  exact hK
/-- a variable of the call's own that was just made, written whole -/
theorem wpList_store_new {ops : Array Oper} {rest : List Oper} {o : Oper} {a : Act} {Q : Exit → Act → World → Prop} (hgd : o.guard = none) (ty : TypeId) (x v : Operand) (ho : o.op = .store ty x v)
    (zs cs : Array Value) (t : TypeId) (hx : a.eval x = .pointer (some ⟨w.heap.size, 0, none⟩)) (hv : a.eval v = .agg cs) (hz : zs.size = cs.size) (h1 : ∀ v ∈ cs.toList, v.oneCell' = true)
    (hi : (P.info? ty).map (·.size) = some cs.size)
    (hK : wpList P ops Q rest (a.put o.dst undef) (w.alloc (.cells cs t))) : wpList P ops Q (o :: rest) a (w.alloc (.cells zs t)) :=
  wpList_plain hgd fun _ hK' => wp_store_at ty x v ho w.heap.size 0 hx cs zs hv t (by rw [(MapKept.heap_alloc w _).1]) (by omega) h1 hi (by
    have e : (zs.toList.take 0 ++ cs.toList ++ zs.toList.drop (0 + cs.size)).toArray = cs := by
      rw [List.take_zero, List.nil_append, List.drop_eq_nil_of_le (by rw [Array.length_toList]; omega), List.append_nil]
    rw [e, alloc_setRow]
    exact hK' _ _ hK)
/-- a variable is made; its cells are not written out -/
theorem wpList_alloc_new {ops : Array Oper} {rest : List Oper} {o : Oper} {a : Act} {Q : Exit → Act → World → Prop} (hgd : o.guard = none) (ty : TypeId) (ho : o.op = .alloc ty) (zs : Array Value) (hz : (zeroValue ty).run P w = .ok (.agg zs) w)
    (hK : wpList P ops Q rest (a.put o.dst (.pointer (some ⟨w.heap.size, 0, none⟩))) (w.alloc (.cells zs ty))) : wpList P ops Q (o :: rest) a w := by
  refine wpList_plain hgd fun _ hK' => ?_
  have h := hK' _ _ hK
  have hr : (Instr.alloc ty true (.tuple #[])).run P w = .ok (.pointer (some ⟨w.heap.size, 0, none⟩)) (w.alloc (.cells zs ty)) := by
    unfold Instr.alloc
    rw [Sem.run_bind, hz]
    simp only [Result.andThen_ok, newVar, newRow, newObj, Value.cells]
    rfl
  unfold Oper.wp execOp
  simp only [ho, Sem.run_bind, hr, Result.andThen_ok, Sem.run_pure]
  exact h
end
end Go.XR

/- What stands between two worlds while some blocks of the call's own are written. -/
namespace Go.XR
open Go Go.RowKit
/-- all but the blocks S stand -/
structure But (S : List Nat) (w w' : World) : Prop where
  os : w'.os = w.os
  tape : w'.tape = w.tape
  output : w'.output = w.output
  size : w.heap.size ≤ w'.heap.size
  block : ∀ i, i < w.heap.size → i ∉ S → w'.heap[i]? = w.heap[i]?
section
variable {S T : List Nat} {w w' w'' : World}
theorem But.refl (S : List Nat) (w : World) : But S w w := ⟨rfl, rfl, rfl, Nat.le_refl _, fun _ _ _ => rfl⟩
theorem But.trans (h : But S w w') (h' : But S w' w'') : But S w w'' :=
  ⟨h'.os.trans h.os, h'.tape.trans h.tape, h'.output.trans h.output, Nat.le_trans h.size h'.size, fun i hi hn => (h'.block i (Nat.lt_of_lt_of_le hi h.size) hn).trans (h.block i hi hn)⟩
theorem But.mono (h : But S w w') (hs : ∀ i ∈ S, i < w.heap.size → i ∈ T) : But T w w' := ⟨h.os, h.tape, h.output, h.size, fun i hi hn => h.block i hi fun hm => hn (hs i hm hi)⟩
theorem But.of_below (h : Below w.heap.size w w') : But S w w' := ⟨h.os, h.tape, h.output, h.size, fun i hi _ => h.block i hi⟩
theorem But.of_grown {b : Nat} (h : w.grownBy w' (some b)) : But [b] w w' := ⟨h.os, h.tape, h.output, h.size, fun i hi hn => h.block i hi (fun e => hn (by cases e; simp))⟩
theorem But.of_grown_none (h : w.grownBy w' none) : But S w w' := ⟨h.os, h.tape, h.output, h.size, fun i hi _ => h.block i hi (fun e => by cases e)⟩
theorem But.below (h : But S w w') {B : Nat} (hB : B ≤ w.heap.size) (hS : ∀ i ∈ S, B ≤ i) : Below B w w' := ⟨h.os, h.tape, h.output, h.size, fun k hk => h.block k (Nat.lt_of_lt_of_le hk hB) fun hm => by have := hS k hm; omega⟩
theorem But.alloc (h : But S w w') (o : Obj) : But S w (w'.alloc o) := h.trans (But.of_below ((Below.refl _ _).alloc (Nat.le_refl _) _))
theorem But.drew (h : But S w w') : But S w w'.drew := ⟨h.os, h.tape, h.output, h.size, h.block⟩
theorem But.setCell (h : But S w w') {b i : Nat} (hb : b ∈ S ∨ w.heap.size ≤ b) (v : Value) : But S w (w'.setCell ⟨b, i, none⟩ v) :=
  ⟨h.os, h.tape, h.output, by have := h.size; simpa using this, fun k hk hn => by
    rw [heap_setCell_other _ _ _ _ (fun e => by
      rcases hb with hb | hb
      · exact hn (by rw [show k = b from e]; exact hb)
      · have e' : k = b := e
        omega)]
    exact h.block k hk hn⟩
theorem But.setRow (h : But S w w') {b : Nat} (hb : b ∈ S ∨ w.heap.size ≤ b) (cs : Array Value) : But S w (w'.setRow b cs) :=
  ⟨h.os, h.tape, h.output, by have := h.size; simpa using this, fun k hk hn => by
    rw [setRow_other _ _ _ _ (fun e => by
      rcases hb with hb | hb
      · exact hn (by rw [e]; exact hb)
      · subst e; omega)]
    exact h.block k hk hn⟩
theorem But.cell (h : But S w w') {g o : Nat} {v : Value} (hc : w.cell? ⟨g, o, none⟩ = some v) (hn : g ∉ S) : w'.cell? ⟨g, o, none⟩ = some v := by
  rw [World.cell?_of_block (a := ⟨g, o, none⟩) (h.block g (cell_lt hc) hn)]; exact hc
theorem At.but {g off : Nat} {cs : Array Value} (h : At w g off cs) (hb : But S w w') (hn : g ∉ S) : At w' g off cs := fun j u hj => hb.cell (h j u hj) hn
theorem Row.but {a : Option Addr} {xs : List Value} (h : Row w a xs) (hb : But S w w') (hn : ∀ g o, a = some ⟨g, o, none⟩ → g ∉ S) : Row w' a xs := by
  rcases h with rfl | ⟨g, o, ha, h⟩
  · exact .inl rfl
  · exact .inr ⟨g, o, ha, fun j u hj => hb.cell (h j u hj) (hn g o ha)⟩
theorem GM.but {κ ν : Type} {kv : κ → Value} {vv : ν → Value} {m : Nat} {D : List (κ × ν)} (h : GM kv vv w m D) (hb : But S w w') (hn : m ∉ S) : GM kv vv w' m D := h.block (hb.block m h.lt hn)
end

/-- a block of cells of the call's own, known whole -/
def Blk (w : World) (b : Nat) (cs : List Value) : Prop := ∃ T, w.heap[b]? = some (.cells cs.toArray T (0, 0))
section
variable {w w' : World} {b : Nat} {cs : List Value}
theorem Blk.lt (h : Blk w b cs) : b < w.heap.size := by obtain ⟨T, h⟩ := h; exact (Array.getElem?_eq_some_iff.1 h).1
theorem Blk.heap (h : Blk w b cs) (hh : w'.heap[b]? = w.heap[b]?) : Blk w' b cs := by obtain ⟨T, h⟩ := h; exact ⟨T, hh.trans h⟩
theorem Blk.but {S : List Nat} (h : Blk w b cs) (hb : But S w w') (hn : b ∉ S) : Blk w' b cs := h.heap (hb.block b h.lt hn)
theorem Blk.below (h : Blk w b cs) (hb : Below w.heap.size w w') : Blk w' b cs := h.heap (hb.block b h.lt)
theorem Blk.cell (h : Blk w b cs) {i : Nat} {v : Value} (hi : cs[i]? = some v) : w.cell? ⟨b, i, none⟩ = some v := by
  obtain ⟨T, h⟩ := h
  rw [cell_of_row w b i _ T _ h]; simpa using hi
theorem Blk.free (h : Blk w b cs) (i : Nat) : w.frozen? ⟨b, i, none⟩ = false := by
  obtain ⟨T, h⟩ := h; exact frozen_of_row w b i _ T h
theorem Blk.new (w : World) (cs : Array Value) (T : TypeId) : Blk (w.alloc (.cells cs T)) w.heap.size cs.toList := ⟨T, by rw [(MapKept.heap_alloc w _).1]⟩
theorem Blk.set (h : Blk w b cs) (i : Nat) (v : Value) : Blk (w.setCell ⟨b, i, none⟩ v) b (cs.set i v) := by
  obtain ⟨T, h⟩ := h
  refine ⟨T, ?_⟩
  rw [heap_setCell_same w b i _ T v h]
  simp
theorem Blk.row (h : Blk w b cs) : Row w (some ⟨b, 0, none⟩) cs := .inr ⟨b, 0, rfl, fun j u hj => by rw [Nat.zero_add]; exact h.cell hj⟩
theorem Blk.setRow (h : Blk w b cs) (ds : List Value) : Blk (w.setRow b ds.toArray) b ds := by
  obtain ⟨T, h⟩ := h
  exact ⟨T, setRow_heap w b _ _ T _ h⟩
end
end Go.XR

/- append of elements of k cells onto a row of the call's own. -/
namespace Go.XR
open Go Go.RowKit
theorem flat_len {α : Type} {enc : α → List Value} {k : Nat} (hk : ∀ x, (enc x).length = k) : ∀ l : List α, (l.flatMap enc).length = l.length * k
  | [] => by simp
  | a :: l => by rw [List.flatMap_cons, List.length_append, hk, flat_len hk l, List.length_cons, Nat.add_mul, Nat.one_mul, Nat.add_comm]
theorem flat_take {α : Type} {enc : α → List Value} {k : Nat} (hk : ∀ x, (enc x).length = k) (l : List α) {i : Nat} (hi : i ≤ l.length) : (l.flatMap enc).take (i * k) = (l.take i).flatMap enc := by
  conv => lhs; rw [← List.take_append_drop i l, List.flatMap_append]
  rw [List.take_left']
  rw [flat_len hk, List.length_take]; congr 1; omega
theorem flat_drop {α : Type} {enc : α → List Value} {k : Nat} (hk : ∀ x, (enc x).length = k) (l : List α) {i : Nat} (hi : i ≤ l.length) : (l.flatMap enc).drop (i * k) = (l.drop i).flatMap enc := by
  conv => lhs; rw [← List.take_append_drop i l, List.flatMap_append]
  rw [List.drop_left']
  rw [flat_len hk, List.length_take]; congr 1; omega
theorem flat_get {α : Type} {enc : α → List Value} {k : Nat} (hk : ∀ x, (enc x).length = k) (l : List α) {i j : Nat} (hi : i < l.length) (hj : j < k) : (l.flatMap enc)[i * k + j]? = (enc l[i])[j]? := by
  have h := flat_drop hk l (i := i) (by omega)
  rw [← List.getElem?_drop, h, List.drop_eq_getElem_cons hi, List.flatMap_cons, List.getElem?_append_left (by rw [hk]; exact hj)]
theorem flat_setk {α : Type} {enc : α → List Value} {k : Nat} (hk : ∀ x, (enc x).length = k) (l : List α) {i j : Nat} (hi : i < l.length) (hj : j < k) (v : Value) (x : α) (hx : enc x = (enc l[i]).set j v) : (l.flatMap enc).set (i * k + j) v = (l.set i x).flatMap enc := by
  refine List.ext_getElem? fun q => ?_
  have hl := flat_len hk l
  have hl2 := flat_len hk (l.set i x)
  rw [List.length_set] at hl2
  have hk0 : 0 < k := by omega
  by_cases hq : q < l.length * k
  · have h1 : q / k < l.length := Nat.div_lt_of_lt_mul (by rw [Nat.mul_comm]; exact hq)
    have h2 : q % k < k := Nat.mod_lt _ hk0
    have e : q = q / k * k + q % k := by rw [Nat.mul_comm]; exact (Nat.div_add_mod q k).symm
    have h3 : ((l.set i x).flatMap enc)[q]? = (enc (if i = q / k then x else l[q / k]))[q % k]? := by
      conv => lhs; rw [e]
      rw [flat_get hk _ (by rw [List.length_set]; exact h1) h2, List.getElem_set]
    have h4 : (l.flatMap enc)[q]? = (enc l[q / k])[q % k]? := by
      conv => lhs; rw [e]
      rw [flat_get hk _ h1 h2]
    rw [h3, List.getElem?_set]
    by_cases c : i = q / k
    · subst c
      rw [if_pos rfl, hx, List.getElem?_set]
      by_cases d : j = q % k
      · rw [if_pos d, if_pos (by omega), if_pos (by omega), if_pos (by rw [hk]; omega)]
      · rw [if_neg d, if_neg (by omega), h4]
    · have : ¬ i * k + j = q := fun e2 => c (by
        have : (i * k + j) / k = i := by rw [Nat.mul_comm, Nat.mul_add_div hk0, Nat.div_eq_of_lt hj, Nat.add_zero]
        rw [← e2, this])
      rw [if_neg c, if_neg this, h4]
  · rw [List.getElem?_eq_none (by rw [List.length_set, hl]; omega), List.getElem?_eq_none (by rw [hl2]; omega)]
theorem made_flat {α : Type} {enc : α → List Value} {k : Nat} (hk : ∀ x, (enc x).length = k) (x : α) (z : Array Value) (hz : z.toList = enc x) (n : Nat) : (madeCells z (n * k)).toList = (List.replicate n x).flatMap enc := by
  have hzs : z.size = k := by rw [← Array.length_toList, hz, hk]
  refine List.ext_getElem? fun q => ?_
  have hl := flat_len hk (List.replicate n x)
  rw [List.length_replicate] at hl
  by_cases hq : q < n * k
  · have hk0 : 0 < k := Nat.pos_of_ne_zero fun e => by subst e; omega
    have h1 : q / k < n := Nat.div_lt_of_lt_mul (by rw [Nat.mul_comm]; exact hq)
    have h2 : q % k < k := Nat.mod_lt _ hk0
    have e : q = q / k * k + q % k := by rw [Nat.mul_comm]; exact (Nat.div_add_mod q k).symm
    have h3 : ((List.replicate n x).flatMap enc)[q]? = (enc x)[q % k]? := by
      conv => lhs; rw [e]
      rw [flat_get hk _ (by rw [List.length_replicate]; exact h1) h2, List.getElem_replicate]
    rw [h3]
    unfold madeCells
    rw [Array.toList_map, List.getElem?_map, Array.toList_range, List.getElem?_range hq]
    show some (z[q % z.size]!) = _
    rw [hzs, getElem!_pos z _ (by omega), ← hz, Array.getElem?_toList, Array.getElem?_eq_getElem (by omega)]
  · rw [List.getElem?_eq_none (by rw [Array.length_toList, size_madeCells]; omega), List.getElem?_eq_none (by omega)]
theorem info_parts {P : Program} {t : TypeId} {z : Value} {n b : Nat} (h : (P.info? t).map (fun i => (i.zero, i.size, i.bytes)) = some (some z, n, b)) : ∃ i, P.info? t = some i ∧ i.zero = some z ∧ i.size = n ∧ i.bytes = b := by
  cases hi : P.info? t with
  | none => rw [hi] at h; cases h
  | some i => rw [hi] at h; simp at h; exact ⟨i, rfl, h.1, h.2.1, h.2.2⟩
theorem info_z {P : Program} {t : TypeId} {n b : Nat} (h : (P.info? t).map (fun i => (i.size, i.bytes, i.zero.isSome, (i.zero.map (·.cells.size)))) = some (n, b, true, some n)) : ∃ i z, P.info? t = some i ∧ i.zero = some z ∧ i.size = n ∧ i.bytes = b ∧ z.cells.size = n := by
  cases hi : P.info? t with
  | none => rw [hi] at h; cases h
  | some i =>
    rw [hi] at h
    simp at h
    obtain ⟨h1, h2, h3, h4⟩ := h
    cases hz : i.zero with
    | none => rw [hz] at h3; cases h3
    | some z => rw [hz] at h4; simp at h4; exact ⟨i, z, rfl, hz, h1, h2, h4⟩

theorem owns_le {w : World} {base : Nat} {e : TypeId} {size : Nat} {a : Option Addr} {n c : Nat} {xs : List Value} (h : w.ownsRow base e size (.slice a n c) n xs) : n ≤ c := by
  rcases h.2 with ⟨h1, h2⟩ | ⟨g, cap, cur, h1, h2, h3, h4, h5, h6, h7⟩
  · omega
  · cases h1; omega
theorem owns_some {w : World} {base : Nat} {e : TypeId} {size : Nat} {a : Option Addr} {n c : Nat} {xs : List Value} (h : w.ownsRow base e size (.slice a n c) n xs) (hc : c ≠ 0) : ∃ g o, a = some ⟨g, o, none⟩ := by
  rcases h.2 with ⟨h1, h2⟩ | ⟨g, cap, cur, h1, h2, h3, h4, h5, h6, h7⟩
  · injection h1 with _ _ h3; exact absurd h3 hc
  · injection h1 with h3; exact ⟨g, 0, h3⟩
theorem owns_nil {w : World} {base : Nat} {e : TypeId} {size : Nat} {n c : Nat} {xs : List Value} (h : w.ownsRow base e size (.slice none n c) n xs) : n = 0 ∧ c = 0 := by
  rcases h.2 with ⟨h1, h2⟩ | ⟨g, cap, cur, h1, h2, h3, h4, h5, h6, h7⟩
  · injection h1 with _ _ h3; exact ⟨h2, h3⟩
  · injection h1 with h3; cases h3
theorem owns_below {w w' : World} {base : Nat} {e : TypeId} {size : Nat} {v : Value} {n : Nat} {xs : List Value} (h : w.ownsRow base e size v n xs) (hb : Below w.heap.size w w') : w'.ownsRow base e size v n xs := by
  refine ⟨h.1, ?_⟩
  rcases h.2 with h2 | ⟨g, cap, cur, h1, h2, h3, h4⟩
  · exact .inl h2
  · exact .inr ⟨g, cap, cur, h1, h2, (hb.block g (Array.getElem?_eq_some_iff.1 h3).1).trans h3, h4⟩

theorem append_enc {P : Program} {α : Type} (enc : α → List Value) (k bytes : Nat) (hk : ∀ x, (enc x).length = k) (hone : ∀ x, ∀ v ∈ enc x, v.oneCell' = true)
    {w : World} {A : Act} {K : Act → World → Prop} {Q : Exit → Act → World → Prop} {dst : Option Tmp} {s x : Operand} {t ty : TypeId} {pos : String} {after : Array Edge} {guard : Option (Nat × Bool)}
    (e : TypeId) (ht : P.underlying t = some (.slice e)) (hinfo : (P.info? e).map (fun i => (i.size, i.bytes, i.zero.isSome, (i.zero.map (·.cells.size)))) = some (k, bytes, true, some k)) (hk0 : 0 < k)
    (base : Nat) (so : Option Addr) (sc : Nat) (l : List α) (hs : A.eval s = .slice so l.length sc) (hown : w.ownsRow base e k (.slice so l.length sc) l.length (l.flatMap enc))
    (xo : Option Addr) (c : Nat) (m : List α) (hx : A.eval x = .slice xo m.length c) (hrow : Row w xo (m.flatMap enc)) (hnil : xo = none → m.length = 0 ∧ c = 0)
    (hlen : (l.length + m.length) * bytes ≤ 140737488355328) (hlen2 : l.length + m.length ≤ maxLen) (hbase : base ≤ w.heap.size)
    (h : ∀ a' c' w', w'.ownsRow base e k (.slice a' (l ++ m).length c') (l ++ m).length ((l ++ m).flatMap enc) → Below base w w' → (a' = none ↔ so = none ∧ m.length = 0) → w.grownBy w' (Value.ownBlock (.slice so l.length sc)) →
      Oper.wp P ⟨dst, .move (.const (.slice a' (l ++ m).length c')), ty, "", #[], none⟩ A w' K (fun _ _ _ => False)) :
    Oper.wp P ⟨dst, .call { callee := .builtin .append, args := #[s, x], argTypes := #[t, t] }, ty, pos, after, guard⟩ A w K Q := by
  obtain ⟨i0, z, hi, hz0, hz1, hz2, hz3⟩ := info_z hinfo
  refine wp_append_src base e i0 z k bytes ht hi hz0 hz1 hz2 hz3 hk0 so l.length sc (l.flatMap enc) hs hown xo m.length c (m.flatMap enc) hx (flat_len hk m) hrow hnil (by
    intro u hu
    obtain ⟨b, _, hb⟩ := List.mem_flatMap.1 hu
    exact hone b u hb) hlen2 hlen hbase ?_
  intro a' c' w' ho hg hn
  have e1 : (l ++ m).length = l.length + m.length := List.length_append
  have := h a' c' w' (by rw [e1, List.flatMap_append]; exact ho) (grown_below hg hown hbase) hn hg
  rw [e1] at this
  exact this
/-- make of so many elements -/
theorem make_any {P : Program} {α : Type} {enc : α → List Value} {k : Nat} (hk : ∀ x, (enc x).length = k) (x : α) (t e : TypeId) (bytes : Nat) (ht : P.underlying t = some (.slice e))
    (hinfo : (P.info? e).map (fun i => (i.size, i.bytes, i.zero.map (·.cells.toList))) = some (k, bytes, some (enc x))) (n : Nat) (hn : bytes * n ≤ 281474976710656) (hn2 : n ≤ 9223372036854775807) :
    ∃ C : Array Value, C.toList = (List.replicate n x).flatMap enc ∧ ∀ w, (Instr.makeSlice t (.int .i64 n) (.int .i64 n)).run P w = .ok (.slice (some ⟨w.heap.size, 0, none⟩) n n) (w.alloc (.cells C e)) := by
  cases hi : P.info? e with
  | none => rw [hi] at hinfo; cases hinfo
  | some i =>
    rw [hi] at hinfo
    simp at hinfo
    obtain ⟨h1, h2, h3⟩ := hinfo
    obtain ⟨z, hz, hzc⟩ := h3
    refine ⟨madeCells z.cells (n * k), made_flat hk x z.cells (by simpa using hzc) n, fun w => ?_⟩
    have h := run_make (P := P) w t e i z ht hi hz .i64 .i64 n n (by omega) (by omega) (by rw [h2, ← Int.natCast_mul]; omega) (by omega)
    rw [Int.toNat_natCast, h1] at h
    exact h
end Go.XR

/- Walks over tree.Len, Height, node: what they come to. -/
namespace Go.Proofs.YtoahjhogjjdkhaaGreatDoor
open Go.RowKit Go.TreePure

theorem Tryz.mixed : Tryz.prog.follows .mixedOrders = true := by kernel_rfl

/-- p leads in w to the tree t -/
def Rep (w : World) : Option Addr → PT → Prop
  | p, .nil => p = none
  | p, .node k x l r => ∃ b lp rp, p = some ⟨b, 0, none⟩ ∧
      w.heap[b]? = some (.cells #[.string k, .string x, .pointer lp, .pointer rp, .int .i64 (PT.size (.node k x l r)), .int .i64 (PT.ht (.node k x l r))] 157 (0, 0)) ∧
      Rep w lp l ∧ Rep w rp r

theorem cells_of {w : World} {b : Nat} {cs : Array Value} {T : TypeId} {fz} (h : w.heap[b]? = some (.cells cs T fz)) (i : Nat) : w.cell? ⟨b, i, none⟩ = cs[i]? := by
  simp [World.cell?, h]

theorem blk_lt {w : World} {b : Nat} {o : Obj} (h : w.heap[b]? = some o) : b < w.heap.size := by
  rcases Nat.lt_or_ge b w.heap.size with h' | h'
  · exact h'
  · simp [Array.getElem?_eq_none h'] at h

theorem heap_new (w : World) (o : Obj) : (w.alloc o).heap[w.heap.size]? = some o := by
  show (w.heap.push o)[w.heap.size]? = _
  simp
theorem heap_new2 (w : World) (o o' : Obj) : ((w.alloc o).alloc o').heap[w.heap.size + 1]? = some o' := by
  have := heap_new (w.alloc o) o'
  rwa [show (w.alloc o).heap.size = w.heap.size + 1 from by show (w.heap.push o).size = _; simp] at this

theorem Rep.below {w w' : World} (hb : Below w.heap.size w w') : ∀ {t : PT} {v : Option Addr}, Rep w v t → Rep w' v t
  | .nil, _, h => h
  | .node _ _ _ _, _, ⟨b, lv, rv, h0, h1, h2, h3⟩ => ⟨b, lv, rv, h0, by rw [hb.block b (blk_lt h1)]; exact h1, Rep.below hb h2, Rep.below hb h3⟩

theorem Rep.alloc {w : World} {t : PT} {v : Option Addr} (h : Rep w v t) (o : Obj) : Rep (w.alloc o) v t := Rep.below ((Below.refl _ _).alloc (Nat.le_refl _) _) h
theorem Rep.drew {w : World} {t : PT} {v : Option Addr} (h : Rep w v t) : Rep w.drew v t := Rep.below (Below.refl _ _).drew h

/-- a node's cells, and its two trees -/
theorem Rep.open {w : World} {p : Option Addr} {k x : ByteArray} {l r : PT} (h : Rep w p (.node k x l r)) : ∃ b lp rp, p = some ⟨b, 0, none⟩ ∧ b < w.heap.size ∧
    w.cell? ⟨b, 0, none⟩ = some (.string k) ∧ w.cell? ⟨b, 1, none⟩ = some (.string x) ∧ w.cell? ⟨b, 2, none⟩ = some (.pointer lp) ∧ w.cell? ⟨b, 3, none⟩ = some (.pointer rp) ∧
    w.cell? ⟨b, 4, none⟩ = some (.int .i64 (PT.size (.node k x l r))) ∧ w.cell? ⟨b, 5, none⟩ = some (.int .i64 (PT.ht (.node k x l r))) ∧ Rep w lp l ∧ Rep w rp r := by
  obtain ⟨b, lp, rp, rfl, hb, hl, hr⟩ := h
  exact ⟨b, lp, rp, rfl, blk_lt hb, cells_of hb 0, cells_of hb 1, cells_of hb 2, cells_of hb 3, cells_of hb 4, cells_of hb 5, hl, hr⟩

def RetTree (w : World) (t : PT) (e : Ending) (w' : World) : Prop := ∃ p, e = .returned (.pointer p) ∧ Rep w' p t ∧ Below w.heap.size w w'

theorem len_any (w : World) (p : Option Addr) (t : PT) (h : Rep w p t) :
    Calls Tryz.prog 46 #[.pointer p] w fun e w' => e = .returned (.int .i64 t.size) ∧ w = w' := by
  cases t with
  | nil =>
    cases h
    go_enter Tryz.func46, Tryz.ntmps46
    go_wp2
    go_ret
    exact ⟨rfl, rfl⟩
  | node k x l r =>
    obtain ⟨b, lv, rv, rfl, _, _, _, _, _, c4, _, _, _⟩ := h.open
    clear h
    go_enter Tryz.func46, Tryz.ntmps46
    go_wp2
    go_ret
    exact ⟨rfl, rfl⟩
theorem height_any (w : World) (p : Option Addr) (t : PT) (h : Rep w p t) :
    Calls Tryz.prog 157 #[.pointer p] w fun e w' => e = .returned (.int .i64 t.ht) ∧ w = w' := by
  cases t with
  | nil =>
    cases h
    go_enter Tryz.func157, Tryz.ntmps157
    go_wp2
    go_ret
    exact ⟨rfl, rfl⟩
  | node k x l r =>
    obtain ⟨b, lv, rv, rfl, _, _, _, _, _, _, c5, _, _⟩ := h.open
    clear h
    go_enter Tryz.func157, Tryz.ntmps157
    go_wp2
    go_ret
    exact ⟨rfl, rfl⟩

set_option maxHeartbeats 400000 in
set_option maxRecDepth 100000 in
theorem node_any (w : World) (k x : ByteArray) (lv rv : Option Addr) (l r : PT) (hl : Rep w lv l) (hr : Rep w rv r) (hs : l.size + r.size < 2^60) :
    Calls Tryz.prog 113 #[.agg #[.string k, .string x], .pointer lv, .pointer rv] w (RetTree w (.node k x l r)) := by
  have Hl := Lib.hid hl
  have Hr := Lib.hid hr
  clear hl hr
  have hh1 := l.ht_le
  have hh2 := r.ht_le
  go_enter Tryz.func113, Tryz.ntmps113
  go_wp2
  refine Go.XR.region_sched ((· = (w.alloc (Obj.cells #[Value.string k, Value.string x] 98)).drew)) [(0, true), (1, true), (2, true), (3, true), (5, true), (9, true), (11, true), (4, false), (6, false), (7, true), (8, true), (10, false), (12, false), (13, true), (14, true), (15, false), (16, false), (17, false)] [15, 16, 17] Tryz.mixed (by kernel_rfl) (by kernel_rfl) (by kernel_rfl) ?_
  simp only [List.map_cons, List.map_nil, List.getElem?_cons_succ, List.getElem?_cons_zero]
  repeat (first | (refine Go.XR.S_light rfl rfl rfl ?_ (fun w' hS K hK => ?_) (fun K hK => ?_); rotate_left 1; (cases hS; go_step; exact hK); go_step; refine hK _ ?_; clear hK K))
  refine Go.XR.S_heavy (fun K hK => ?_)
  go_step
  ((with_reducible refine (len_any _ _ _ (Hl.out.alloc _).drew).mono ?_); rintro e w' ⟨rfl, rfl⟩)
  refine hK _ _ ⟨fun _ => rfl, ?_⟩
  clear hK K
  repeat (first | (refine Go.XR.S_light rfl rfl rfl ?_ (fun w' hS K hK => ?_) (fun K hK => ?_); rotate_left 1; (cases hS; go_step; exact hK); go_step; refine hK _ ?_; clear hK K))
  refine Go.XR.S_heavy (fun K hK => ?_)
  go_step
  ((with_reducible refine (len_any _ _ _ (Hr.out.alloc _).drew).mono ?_); rintro e w' ⟨rfl, rfl⟩)
  refine hK _ _ ⟨fun _ => rfl, ?_⟩
  clear hK K
  repeat (first | (refine Go.XR.S_light rfl rfl rfl ?_ (fun w' hS K hK => ?_) (fun K hK => ?_); rotate_left 1; (cases hS; go_step; exact hK); go_step; refine hK _ ?_; clear hK K))
  refine Go.XR.S_heavy (fun K hK => ?_)
  go_step
  ((with_reducible refine (height_any _ _ _ (Hl.out.alloc _).drew).mono ?_); rintro e w' ⟨rfl, rfl⟩)
  refine hK _ _ ⟨fun _ => rfl, ?_⟩
  clear hK K
  repeat (first | (refine Go.XR.S_light rfl rfl rfl ?_ (fun w' hS K hK => ?_) (fun K hK => ?_); rotate_left 1; (cases hS; go_step; exact hK); go_step; refine hK _ ?_; clear hK K))
  refine Go.XR.S_heavy (fun K hK => ?_)
  go_step
  ((with_reducible refine (height_any _ _ _ (Hr.out.alloc _).drew).mono ?_); rintro e w' ⟨rfl, rfl⟩)
  refine hK _ _ ⟨fun _ => rfl, ?_⟩
  clear hK K
  repeat (first | (refine Go.XR.S_light rfl rfl rfl ?_ (fun w' hS K hK => ?_) (fun K hK => ?_); rotate_left 1; (cases hS; go_step; exact hK); go_step; refine hK _ ?_; clear hK K))
  repeat (first | (refine Go.XR.S_heavy (fun K hK => ?_); go_step; refine hK _ _ ⟨fun h => by simp at h, ?_⟩; clear hK K))
  refine Go.XR.S_nil ?_
  go_wp2
  go_ret
  refine ⟨some ⟨w.heap.size + 1, 0, none⟩, rfl, ⟨w.heap.size + 1, lv, rv, rfl, ?_, ((Hl.out.alloc _).alloc _).drew, ((Hr.out.alloc _).alloc _).drew⟩, ?_⟩
  · show ((w.alloc _).alloc _).heap[w.heap.size + 1]? = _
    rw [heap_new2]
    simp only [PT.size, PT.ht]
    rw [show ((max l.ht r.ht + 1 : Nat) : Int) = max (l.ht : Int) r.ht + 1 from by omega, show ((l.size + r.size + 1 : Nat) : Int) = (l.size : Int) + r.size + 1 from by omega]
  · exact (((Below.refl _ _).alloc (Nat.le_refl _) _).alloc (by simp) _).drew
end Go.Proofs.YtoahjhogjjdkhaaGreatDoor

/- The walk over tree.join: the balanced join. -/
namespace Go.Proofs.YtoahjhogjjdkhaaGreatDoor
open Go.RowKit Go.TreePure

/-- every cell of an old block reads as it did -/
theorem bcell {W w1 : World} (hb : Below W.heap.size W w1) : ∀ b o, b < W.heap.size → w1.cell? ⟨b, o, none⟩ = W.cell? ⟨b, o, none⟩ :=
  fun b o h => hb.cell (p := ⟨b, o, none⟩) h

theorem gen_world {P : Program} {c : Code} {Q : Exit → Act → World → Prop} {a : Act} {w : World} (Facts : World → Prop) (hf : Facts w) (h : ∀ w0, Facts w0 → c.wp P Q a w0) : c.wp P Q a w := h w hf

theorem RetTree.of {w w0 w' : World} {t : PT} {p : Option Addr} (hb : Below w.heap.size w w0) (hp : Rep w' p t) (hb' : Below w0.heap.size w0 w') : RetTree w t (.returned (.pointer p)) w' :=
  ⟨p, rfl, hp, hb.trans (hb'.mono hb.size)⟩

set_option maxHeartbeats 400000 in
set_option maxRecDepth 100000 in
theorem join_0 (w : World) (k x : ByteArray) (lv rv : Option Addr) (l r : PT) (hl : Rep w lv l) (hr : Rep w rv r) (hs : l.size + r.size < 2^60)
    (c1 : ((l.ht : Int) - (r.ht : Int) == 2) = false) (c2 : ((l.ht : Int) - (r.ht : Int) == -2) = false) :
    Calls Tryz.prog 114 #[.agg #[.string k, .string x], .pointer lv, .pointer rv] w (RetTree w (.node k x l r)) := by
  have Hl := Lib.hid hl
  have Hr := Lib.hid hr
  clear hl hr
  have hh1 := l.ht_le
  have hh2 := r.ht_le
  go_enter Tryz.func114, Tryz.ntmps114
  go_wp2_with fail
  refine (height_any _ _ l (Hl.out.alloc _)).mono ?_
  rintro e w' ⟨rfl, rfl⟩
  go_wp2_with fail
  refine (height_any _ _ r (Hr.out.alloc _)).mono ?_
  rintro e w' ⟨rfl, rfl⟩
  go_wp2_with fail
  refine (node_any _ k x _ _ l r (Hl.out.alloc _) (Hr.out.alloc _) hs).mono ?_
  rintro e w' ⟨p, rfl, hp, hb⟩
  go_wp2
  go_ret
  exact RetTree.of ((Below.refl _ _).alloc (Nat.le_refl _) _) hp hb

set_option maxHeartbeats 1000000 in
set_option maxRecDepth 100000 in
theorem join_LL (w : World) (k x lk lx : ByteArray) (lv rv : Option Addr) (ll lr r : PT) (hl : Rep w lv (.node lk lx ll lr)) (hr : Rep w rv r) (hs : (PT.node lk lx ll lr).size + r.size < 2^60)
    (c1 : (((PT.node lk lx ll lr).ht : Int) - (r.ht : Int) == 2) = true) (c2 : decide (lr.ht ≤ ll.ht) = true) :
    Calls Tryz.prog 114 #[.agg #[.string k, .string x], .pointer lv, .pointer rv] w (RetTree w (.node lk lx ll (.node k x lr r))) := by
  have Hl := Lib.hid hl
  have Hr := Lib.hid hr
  obtain ⟨bl, llp, lrp, rfl, hbl, d0, d1, d2, d3, _, _, hll, hlr⟩ := hl.open
  have Hll := Lib.hid hll
  have Hlr := Lib.hid hlr
  clear hl hr hll hlr
  have hh1 := (PT.node lk lx ll lr).ht_le
  have hh2 := r.ht_le
  have hh3 : (PT.node lk lx ll lr).size = ll.size + lr.size + 1 := rfl
  have Hh3 := Lib.hid hh3
  have hh4 : ll.size + lr.size + r.size + 1 < 2^60 := by omega
  clear hh3
  go_enter Tryz.func114, Tryz.ntmps114
  go_wp2_with fail
  refine (height_any _ _ (.node lk lx ll lr) (Hl.out.alloc _)).mono ?_
  rintro e w' ⟨rfl, rfl⟩
  go_wp2_with fail
  refine (height_any _ _ r (Hr.out.alloc _)).mono ?_
  rintro e w' ⟨rfl, rfl⟩
  go_wp2_with fail
  refine gen_world (fun w0 => Below w.heap.size w w0 ∧ w.heap.size < w0.heap.size ∧ w0.cell? ⟨w.heap.size, 0, none⟩ = some (.string k) ∧ w0.cell? ⟨w.heap.size, 1, none⟩ = some (.string x))
    ⟨(Below.refl _ _).alloc (Nat.le_refl _) _, by simp, by simp, by simp⟩ ?_
  rintro w0 ⟨hb0, hn0, e0, e1⟩
  have hc0 := bcell hb0
  have hbl0 := Nat.lt_trans hbl hn0
  refine Go.XR.region_sched ((· = w0.drew)) [(0, true), (1, true), (2, true), (3, true), (5, true), (6, true), (7, true), (8, true), (4, false), (9, false), (10, false)] [9, 10] Tryz.mixed (by kernel_rfl) (by kernel_rfl) (by kernel_rfl) ?_
  simp only [List.map_cons, List.map_nil, List.getElem?_cons_succ, List.getElem?_cons_zero]
  repeat (first | (refine Go.XR.S_light rfl rfl rfl ?_ (fun w' hS K hK => ?_) (fun K hK => ?_); rotate_left 1; (cases hS; go_step; exact hK); go_step; refine hK _ ?_; clear hK K))
  refine Go.XR.S_heavy (fun K hK => ?_)
  go_step
  ((with_reducible refine (height_any _ _ ll (Hll.out.below hb0.drew)).mono ?_); rintro e w' ⟨rfl, rfl⟩)
  refine hK _ _ ⟨fun _ => rfl, ?_⟩
  clear hK K
  repeat (first | (refine Go.XR.S_light rfl rfl rfl ?_ (fun w' hS K hK => ?_) (fun K hK => ?_); rotate_left 1; (cases hS; go_step; exact hK); go_step; refine hK _ ?_; clear hK K))
  refine Go.XR.S_heavy (fun K hK => ?_)
  go_step
  ((with_reducible refine (height_any _ _ lr (Hlr.out.below hb0.drew)).mono ?_); rintro e w' ⟨rfl, rfl⟩)
  refine hK _ _ ⟨fun _ => rfl, ?_⟩
  clear hK K
  repeat (first | (refine Go.XR.S_light rfl rfl rfl ?_ (fun w' hS K hK => ?_) (fun K hK => ?_); rotate_left 1; (cases hS; go_step; exact hK); go_step; refine hK _ ?_; clear hK K))
  repeat (first | (refine Go.XR.S_heavy (fun K hK => ?_); go_step; refine hK _ _ ⟨fun h => by simp at h, ?_⟩; clear hK K))
  refine Go.XR.S_nil ?_
  go_wp2_with fail
  refine gen_world (fun w1 => Below w0.heap.size w0 w1) (Below.refl _ _).drew ?_
  rintro w1 hb1
  have hc1 := bcell hb1
  have hb01 := hb0.trans (hb1.mono hb0.size)
  have hbl1 : bl < w1.heap.size := Nat.lt_of_lt_of_le hbl0 hb1.size
  have hn1 : w.heap.size < w1.heap.size := Nat.lt_of_lt_of_le hn0 hb1.size
  have hS0 : Below w1.heap.size w1 w1.drew := (Below.refl _ _).drew
  refine Go.XR.region_sched ((Below w1.heap.size w1)) [(0, true), (1, true), (2, true), (3, true), (4, true), (5, true), (6, true), (7, true), (8, true), (9, true), (10, true), (11, true), (12, true), (13, true), (14, false), (15, false), (16, false)] [15, 16] Tryz.mixed (by kernel_rfl) (by kernel_rfl) (by kernel_rfl) ?_
  simp only [List.map_cons, List.map_nil, List.getElem?_cons_succ, List.getElem?_cons_zero]
  repeat (first | (refine Go.XR.S_light rfl rfl (by assumption) ?_ (fun w' hS K hK => ?_) (fun K hK => ?_); rotate_left 1; (have hS1 := bcell hS; go_step; exact hK); go_step; refine hK _ ?_; clear hK K))
  refine Go.XR.S_heavy (fun K hK => ?_)
  go_step
  ((with_reducible refine (node_any _ k x _ _ lr r (Hlr.out.below hb01.drew) (Hr.out.below hb01.drew) (by omega)).mono ?_); rintro e w' ⟨p, rfl, hp, hb2⟩)
  have hb2' : Below w1.heap.size w1 w' := hS0.trans hb2
  refine hK _ _ ⟨fun _ => hb2', ?_⟩
  clear hK K
  repeat (first | (refine Go.XR.S_light rfl rfl (by assumption) ?_ (fun w' hS K hK => ?_) (fun K hK => ?_); rotate_left 1; (have hS1 := bcell hS; go_step; exact hK); go_step; refine hK _ ?_; clear hK K))
  refine Go.XR.S_heavy (fun K hK => ?_)
  go_step
  ((with_reducible refine (node_any _ lk lx _ _ ll (.node k x lr r) (Hll.out.below (hb01.trans (hb2'.mono hb01.size))) hp (by simp only [PT.size]; omega)).mono ?_); rintro e w' ⟨p2, rfl, hp2, hb3⟩)
  refine hK _ _ ⟨fun _ => hb2'.trans (hb3.mono hb2'.size), ?_⟩
  clear hK K
  repeat (first | (refine Go.XR.S_light rfl rfl (by assumption) ?_ (fun w' hS K hK => ?_) (fun K hK => ?_); rotate_left 1; (have hS1 := bcell hS; go_step; exact hK); go_step; refine hK _ ?_; clear hK K))
  repeat (first | (refine Go.XR.S_heavy (fun K hK => ?_); go_step; refine hK _ _ ⟨fun h => by simp at h, ?_⟩; clear hK K))
  refine Go.XR.S_nil ?_
  go_wp2
  go_ret
  exact RetTree.of (hb01.trans (hb2'.mono hb01.size)) hp2 hb3
set_option maxHeartbeats 1000000 in
set_option maxRecDepth 100000 in
theorem join_LR (w : World) (k x lk lx mk mx : ByteArray) (lv rv : Option Addr) (ll ml mr r : PT) (hl : Rep w lv (.node lk lx ll (.node mk mx ml mr))) (hr : Rep w rv r) (hs : (PT.node lk lx ll (.node mk mx ml mr)).size + r.size < 2^60)
    (c1 : (((PT.node lk lx ll (.node mk mx ml mr)).ht : Int) - (r.ht : Int) == 2) = true) (c2 : decide ((PT.node mk mx ml mr).ht ≤ ll.ht) = false) :
    Calls Tryz.prog 114 #[.agg #[.string k, .string x], .pointer lv, .pointer rv] w (RetTree w (.node mk mx (.node lk lx ll ml) (.node k x mr r))) := by
  have Hl := Lib.hid hl
  have Hr := Lib.hid hr
  obtain ⟨bl, llp, lrp, rfl, hbl, d0, d1, d2, d3, _, _, hll, hlr⟩ := hl.open
  obtain ⟨bm, mlp, mrp, rfl, hbm, f0, f1, f2, f3, _, _, hml, hmr⟩ := hlr.open
  have Hml := Lib.hid hml
  have Hmr := Lib.hid hmr
  have Hll := Lib.hid hll
  have Hlr := Lib.hid hlr
  clear hl hr hll hlr hml hmr
  have hh1 := (PT.node lk lx ll (.node mk mx ml mr)).ht_le
  have hh2 := r.ht_le
  have hh3 : (PT.node lk lx ll (.node mk mx ml mr)).size = ll.size + (ml.size + mr.size + 1) + 1 := rfl
  have Hh3 := Lib.hid hh3
  have hh4 : ll.size + ml.size + mr.size + r.size + 2 < 2^60 := by omega
  clear hh3
  go_enter Tryz.func114, Tryz.ntmps114
  go_wp2_with fail
  refine (height_any _ _ (.node lk lx ll (.node mk mx ml mr)) (Hl.out.alloc _)).mono ?_
  rintro e w' ⟨rfl, rfl⟩
  go_wp2_with fail
  refine (height_any _ _ r (Hr.out.alloc _)).mono ?_
  rintro e w' ⟨rfl, rfl⟩
  go_wp2_with fail
  refine gen_world (fun w0 => Below w.heap.size w w0 ∧ w.heap.size < w0.heap.size ∧ w0.cell? ⟨w.heap.size, 0, none⟩ = some (.string k) ∧ w0.cell? ⟨w.heap.size, 1, none⟩ = some (.string x))
    ⟨(Below.refl _ _).alloc (Nat.le_refl _) _, by simp, by simp, by simp⟩ ?_
  rintro w0 ⟨hb0, hn0, e0, e1⟩
  have hc0 := bcell hb0
  have hbl0 := Nat.lt_trans hbl hn0
  have hbm0 := Nat.lt_trans hbm hn0
  refine Go.XR.region_sched ((· = w0.drew)) [(0, true), (1, true), (2, true), (3, true), (5, true), (6, true), (7, true), (8, true), (4, false), (9, false), (10, false)] [9, 10] Tryz.mixed (by kernel_rfl) (by kernel_rfl) (by kernel_rfl) ?_
  simp only [List.map_cons, List.map_nil, List.getElem?_cons_succ, List.getElem?_cons_zero]
  repeat (first | (refine Go.XR.S_light rfl rfl rfl ?_ (fun w' hS K hK => ?_) (fun K hK => ?_); rotate_left 1; (cases hS; go_step; exact hK); go_step; refine hK _ ?_; clear hK K))
  refine Go.XR.S_heavy (fun K hK => ?_)
  go_step
  ((with_reducible refine (height_any _ _ ll (Hll.out.below hb0.drew)).mono ?_); rintro e w' ⟨rfl, rfl⟩)
  refine hK _ _ ⟨fun _ => rfl, ?_⟩
  clear hK K
  repeat (first | (refine Go.XR.S_light rfl rfl rfl ?_ (fun w' hS K hK => ?_) (fun K hK => ?_); rotate_left 1; (cases hS; go_step; exact hK); go_step; refine hK _ ?_; clear hK K))
  refine Go.XR.S_heavy (fun K hK => ?_)
  go_step
  ((with_reducible refine (height_any _ _ (.node mk mx ml mr) (Hlr.out.below hb0.drew)).mono ?_); rintro e w' ⟨rfl, rfl⟩)
  refine hK _ _ ⟨fun _ => rfl, ?_⟩
  clear hK K
  repeat (first | (refine Go.XR.S_light rfl rfl rfl ?_ (fun w' hS K hK => ?_) (fun K hK => ?_); rotate_left 1; (cases hS; go_step; exact hK); go_step; refine hK _ ?_; clear hK K))
  repeat (first | (refine Go.XR.S_heavy (fun K hK => ?_); go_step; refine hK _ _ ⟨fun h => by simp at h, ?_⟩; clear hK K))
  refine Go.XR.S_nil ?_
  go_wp2_with fail
  refine gen_world (fun w1 => Below w0.heap.size w0 w1) (Below.refl _ _).drew ?_
  rintro w1 hb1
  have hc1 := bcell hb1
  have hb01 := hb0.trans (hb1.mono hb0.size)
  have hbl1 : bl < w1.heap.size := Nat.lt_of_lt_of_le hbl0 hb1.size
  have hbm1 : bm < w1.heap.size := Nat.lt_of_lt_of_le hbm0 hb1.size
  have hn1 : w.heap.size < w1.heap.size := Nat.lt_of_lt_of_le hn0 hb1.size
  have hS0 : Below w1.heap.size w1 w1.drew := (Below.refl _ _).drew
  refine Go.XR.region_sched ((Below w1.heap.size w1)) [(0, true), (1, true), (2, true), (3, true), (4, true), (5, true), (6, true), (7, true), (8, true), (9, true), (10, true), (11, true), (12, true), (13, true), (14, true), (15, true), (17, true), (18, true), (19, true), (20, true), (21, true), (22, true), (16, false), (23, false), (24, false), (25, false)] [24, 25] Tryz.mixed (by kernel_rfl) (by kernel_rfl) (by kernel_rfl) ?_
  simp only [List.map_cons, List.map_nil, List.getElem?_cons_succ, List.getElem?_cons_zero]
  repeat (first | (refine Go.XR.S_light rfl rfl (by assumption) ?_ (fun w' hS K hK => ?_) (fun K hK => ?_); rotate_left 1; (have hS1 := bcell hS; go_step; exact hK); go_step; refine hK _ ?_; clear hK K))
  refine Go.XR.S_heavy (fun K hK => ?_)
  go_step
  ((with_reducible refine (node_any _ lk lx _ _ ll ml (Hll.out.below hb01.drew) (Hml.out.below hb01.drew) (by omega)).mono ?_); rintro e w' ⟨p, rfl, hp, hb2⟩)
  have hb2' : Below w1.heap.size w1 w' := hS0.trans hb2
  refine hK _ _ ⟨fun _ => hb2', ?_⟩
  clear hK K
  repeat (first | (refine Go.XR.S_light rfl rfl (by assumption) ?_ (fun w' hS K hK => ?_) (fun K hK => ?_); rotate_left 1; (have hS1 := bcell hS; go_step; exact hK); go_step; refine hK _ ?_; clear hK K))
  have hb02 := hb01.trans (hb2'.mono hb01.size)
  refine Go.XR.S_heavy (fun K hK => ?_)
  go_step
  ((with_reducible refine (node_any _ k x _ _ mr r (Hmr.out.below hb02) (Hr.out.below hb02) (by omega)).mono ?_); rintro e w' ⟨p2, rfl, hp2, hb3⟩)
  have hb3' := hb2'.trans (hb3.mono hb2'.size)
  refine hK _ _ ⟨fun _ => hb3', ?_⟩
  clear hK K
  repeat (first | (refine Go.XR.S_light rfl rfl (by assumption) ?_ (fun w' hS K hK => ?_) (fun K hK => ?_); rotate_left 1; (have hS1 := bcell hS; go_step; exact hK); go_step; refine hK _ ?_; clear hK K))
  refine Go.XR.S_heavy (fun K hK => ?_)
  go_step
  ((with_reducible refine (node_any _ mk mx _ _ (.node lk lx ll ml) (.node k x mr r) (hp.below hb3) hp2 (by simp only [PT.size]; omega)).mono ?_); rintro e w' ⟨p3, rfl, hp3, hb4⟩)
  refine hK _ _ ⟨fun _ => hb3'.trans (hb4.mono hb3'.size), ?_⟩
  clear hK K
  repeat (first | (refine Go.XR.S_light rfl rfl (by assumption) ?_ (fun w' hS K hK => ?_) (fun K hK => ?_); rotate_left 1; (have hS1 := bcell hS; go_step; exact hK); go_step; refine hK _ ?_; clear hK K))
  repeat (first | (refine Go.XR.S_heavy (fun K hK => ?_); go_step; refine hK _ _ ⟨fun h => by simp at h, ?_⟩; clear hK K))
  refine Go.XR.S_nil ?_
  go_wp2
  go_ret
  exact RetTree.of (hb01.trans (hb3'.mono hb01.size)) hp3 hb4

set_option maxHeartbeats 1000000 in
set_option maxRecDepth 100000 in
theorem join_RR (w : World) (k x rk rx : ByteArray) (lv rv : Option Addr) (l rl rr : PT) (hl : Rep w lv l) (hr : Rep w rv (.node rk rx rl rr)) (hs : l.size + (PT.node rk rx rl rr).size < 2^60)
    (c0 : ((l.ht : Int) - ((PT.node rk rx rl rr).ht : Int) == 2) = false) (c1 : ((l.ht : Int) - ((PT.node rk rx rl rr).ht : Int) == -2) = true) (c2 : decide (rl.ht ≤ rr.ht) = true) :
    Calls Tryz.prog 114 #[.agg #[.string k, .string x], .pointer lv, .pointer rv] w (RetTree w (.node rk rx (.node k x l rl) rr)) := by
  have Hl := Lib.hid hl
  have Hr := Lib.hid hr
  obtain ⟨bl, rlp, rrp, rfl, hbl, d0, d1, d2, d3, _, _, hrl, hrr⟩ := hr.open
  have Hrl := Lib.hid hrl
  have Hrr := Lib.hid hrr
  clear hl hr hrl hrr
  have hh1 := l.ht_le
  have hh2 := (PT.node rk rx rl rr).ht_le
  have hh3 : (PT.node rk rx rl rr).size = rl.size + rr.size + 1 := rfl
  have Hh3 := Lib.hid hh3
  have hh4 : l.size + rl.size + rr.size + 1 < 2^60 := by omega
  clear hh3
  go_enter Tryz.func114, Tryz.ntmps114
  go_wp2_with fail
  refine (height_any _ _ l (Hl.out.alloc _)).mono ?_
  rintro e w' ⟨rfl, rfl⟩
  go_wp2_with fail
  refine (height_any _ _ (.node rk rx rl rr) (Hr.out.alloc _)).mono ?_
  rintro e w' ⟨rfl, rfl⟩
  go_wp2_with fail
  refine gen_world (fun w0 => Below w.heap.size w w0 ∧ w.heap.size < w0.heap.size ∧ w0.cell? ⟨w.heap.size, 0, none⟩ = some (.string k) ∧ w0.cell? ⟨w.heap.size, 1, none⟩ = some (.string x))
    ⟨(Below.refl _ _).alloc (Nat.le_refl _) _, by simp, by simp, by simp⟩ ?_
  rintro w0 ⟨hb0, hn0, e0, e1⟩
  have hc0 := bcell hb0
  have hbl0 := Nat.lt_trans hbl hn0
  refine Go.XR.region_sched ((· = w0.drew)) [(0, true), (1, true), (2, true), (3, true), (5, true), (6, true), (7, true), (8, true), (4, false), (9, false), (10, false)] [9, 10] Tryz.mixed (by kernel_rfl) (by kernel_rfl) (by kernel_rfl) ?_
  simp only [List.map_cons, List.map_nil, List.getElem?_cons_succ, List.getElem?_cons_zero]
  repeat (first | (refine Go.XR.S_light rfl rfl rfl ?_ (fun w' hS K hK => ?_) (fun K hK => ?_); rotate_left 1; (cases hS; go_step; exact hK); go_step; refine hK _ ?_; clear hK K))
  refine Go.XR.S_heavy (fun K hK => ?_)
  go_step
  ((with_reducible refine (height_any _ _ rr (Hrr.out.below hb0.drew)).mono ?_); rintro e w' ⟨rfl, rfl⟩)
  refine hK _ _ ⟨fun _ => rfl, ?_⟩
  clear hK K
  repeat (first | (refine Go.XR.S_light rfl rfl rfl ?_ (fun w' hS K hK => ?_) (fun K hK => ?_); rotate_left 1; (cases hS; go_step; exact hK); go_step; refine hK _ ?_; clear hK K))
  refine Go.XR.S_heavy (fun K hK => ?_)
  go_step
  ((with_reducible refine (height_any _ _ rl (Hrl.out.below hb0.drew)).mono ?_); rintro e w' ⟨rfl, rfl⟩)
  refine hK _ _ ⟨fun _ => rfl, ?_⟩
  clear hK K
  repeat (first | (refine Go.XR.S_light rfl rfl rfl ?_ (fun w' hS K hK => ?_) (fun K hK => ?_); rotate_left 1; (cases hS; go_step; exact hK); go_step; refine hK _ ?_; clear hK K))
  repeat (first | (refine Go.XR.S_heavy (fun K hK => ?_); go_step; refine hK _ _ ⟨fun h => by simp at h, ?_⟩; clear hK K))
  refine Go.XR.S_nil ?_
  go_wp2_with fail
  refine gen_world (fun w1 => Below w0.heap.size w0 w1) (Below.refl _ _).drew ?_
  rintro w1 hb1
  have hc1 := bcell hb1
  have hb01 := hb0.trans (hb1.mono hb0.size)
  have hbl1 : bl < w1.heap.size := Nat.lt_of_lt_of_le hbl0 hb1.size
  have hn1 : w.heap.size < w1.heap.size := Nat.lt_of_lt_of_le hn0 hb1.size
  have hS0 : Below w1.heap.size w1 w1.drew := (Below.refl _ _).drew
  refine Go.XR.region_sched ((Below w1.heap.size w1)) [(0, true), (1, true), (2, true), (3, true), (4, true), (5, true), (6, true), (7, true), (8, true), (9, true), (11, true), (12, true), (13, true), (14, true), (10, false), (15, false), (16, false)] [15, 16] Tryz.mixed (by kernel_rfl) (by kernel_rfl) (by kernel_rfl) ?_
  simp only [List.map_cons, List.map_nil, List.getElem?_cons_succ, List.getElem?_cons_zero]
  repeat (first | (refine Go.XR.S_light rfl rfl (by assumption) ?_ (fun w' hS K hK => ?_) (fun K hK => ?_); rotate_left 1; (have hS1 := bcell hS; go_step; exact hK); go_step; refine hK _ ?_; clear hK K))
  refine Go.XR.S_heavy (fun K hK => ?_)
  go_step
  ((with_reducible refine (node_any _ k x _ _ l rl (Hl.out.below hb01.drew) (Hrl.out.below hb01.drew) (by omega)).mono ?_); rintro e w' ⟨p, rfl, hp, hb2⟩)
  have hb2' : Below w1.heap.size w1 w' := hS0.trans hb2
  refine hK _ _ ⟨fun _ => hb2', ?_⟩
  clear hK K
  repeat (first | (refine Go.XR.S_light rfl rfl (by assumption) ?_ (fun w' hS K hK => ?_) (fun K hK => ?_); rotate_left 1; (have hS1 := bcell hS; go_step; exact hK); go_step; refine hK _ ?_; clear hK K))
  refine Go.XR.S_heavy (fun K hK => ?_)
  go_step
  ((with_reducible refine (node_any _ rk rx _ _ (.node k x l rl) rr hp (Hrr.out.below (hb01.trans (hb2'.mono hb01.size))) (by simp only [PT.size]; omega)).mono ?_); rintro e w' ⟨p2, rfl, hp2, hb3⟩)
  refine hK _ _ ⟨fun _ => hb2'.trans (hb3.mono hb2'.size), ?_⟩
  clear hK K
  repeat (first | (refine Go.XR.S_light rfl rfl (by assumption) ?_ (fun w' hS K hK => ?_) (fun K hK => ?_); rotate_left 1; (have hS1 := bcell hS; go_step; exact hK); go_step; refine hK _ ?_; clear hK K))
  repeat (first | (refine Go.XR.S_heavy (fun K hK => ?_); go_step; refine hK _ _ ⟨fun h => by simp at h, ?_⟩; clear hK K))
  refine Go.XR.S_nil ?_
  go_wp2
  go_ret
  exact RetTree.of (hb01.trans (hb2'.mono hb01.size)) hp2 hb3
set_option maxHeartbeats 1000000 in
set_option maxRecDepth 100000 in
theorem join_RL (w : World) (k x rk rx mk mx : ByteArray) (lv rv : Option Addr) (l ml mr rr : PT) (hl : Rep w lv l) (hr : Rep w rv (.node rk rx (.node mk mx ml mr) rr)) (hs : l.size + (PT.node rk rx (.node mk mx ml mr) rr).size < 2^60)
    (c0 : ((l.ht : Int) - ((PT.node rk rx (.node mk mx ml mr) rr).ht : Int) == 2) = false) (c1 : ((l.ht : Int) - ((PT.node rk rx (.node mk mx ml mr) rr).ht : Int) == -2) = true) (c2 : decide ((PT.node mk mx ml mr).ht ≤ rr.ht) = false) :
    Calls Tryz.prog 114 #[.agg #[.string k, .string x], .pointer lv, .pointer rv] w (RetTree w (.node mk mx (.node k x l ml) (.node rk rx mr rr))) := by
  have Hl := Lib.hid hl
  have Hr := Lib.hid hr
  obtain ⟨bl, rlp, rrp, rfl, hbl, d0, d1, d2, d3, _, _, hrl, hrr⟩ := hr.open
  obtain ⟨bm, mlp, mrp, rfl, hbm, f0, f1, f2, f3, _, _, hml, hmr⟩ := hrl.open
  have Hml := Lib.hid hml
  have Hmr := Lib.hid hmr
  have Hrl := Lib.hid hrl
  have Hrr := Lib.hid hrr
  clear hl hr hrl hrr hml hmr
  have hh1 := l.ht_le
  have hh2 := (PT.node rk rx (.node mk mx ml mr) rr).ht_le
  have hh3 : (PT.node rk rx (.node mk mx ml mr) rr).size = (ml.size + mr.size + 1) + rr.size + 1 := rfl
  have Hh3 := Lib.hid hh3
  have hh4 : l.size + ml.size + mr.size + rr.size + 2 < 2^60 := by omega
  clear hh3
  go_enter Tryz.func114, Tryz.ntmps114
  go_wp2_with fail
  refine (height_any _ _ l (Hl.out.alloc _)).mono ?_
  rintro e w' ⟨rfl, rfl⟩
  go_wp2_with fail
  refine (height_any _ _ (.node rk rx (.node mk mx ml mr) rr) (Hr.out.alloc _)).mono ?_
  rintro e w' ⟨rfl, rfl⟩
  go_wp2_with fail
  refine gen_world (fun w0 => Below w.heap.size w w0 ∧ w.heap.size < w0.heap.size ∧ w0.cell? ⟨w.heap.size, 0, none⟩ = some (.string k) ∧ w0.cell? ⟨w.heap.size, 1, none⟩ = some (.string x))
    ⟨(Below.refl _ _).alloc (Nat.le_refl _) _, by simp, by simp, by simp⟩ ?_
  rintro w0 ⟨hb0, hn0, e0, e1⟩
  have hc0 := bcell hb0
  have hbl0 := Nat.lt_trans hbl hn0
  have hbm0 := Nat.lt_trans hbm hn0
  refine Go.XR.region_sched ((· = w0.drew)) [(0, true), (1, true), (2, true), (3, true), (5, true), (6, true), (7, true), (8, true), (4, false), (9, false), (10, false)] [9, 10] Tryz.mixed (by kernel_rfl) (by kernel_rfl) (by kernel_rfl) ?_
  simp only [List.map_cons, List.map_nil, List.getElem?_cons_succ, List.getElem?_cons_zero]
  repeat (first | (refine Go.XR.S_light rfl rfl rfl ?_ (fun w' hS K hK => ?_) (fun K hK => ?_); rotate_left 1; (cases hS; go_step; exact hK); go_step; refine hK _ ?_; clear hK K))
  refine Go.XR.S_heavy (fun K hK => ?_)
  go_step
  ((with_reducible refine (height_any _ _ rr (Hrr.out.below hb0.drew)).mono ?_); rintro e w' ⟨rfl, rfl⟩)
  refine hK _ _ ⟨fun _ => rfl, ?_⟩
  clear hK K
  repeat (first | (refine Go.XR.S_light rfl rfl rfl ?_ (fun w' hS K hK => ?_) (fun K hK => ?_); rotate_left 1; (cases hS; go_step; exact hK); go_step; refine hK _ ?_; clear hK K))
  refine Go.XR.S_heavy (fun K hK => ?_)
  go_step
  ((with_reducible refine (height_any _ _ (.node mk mx ml mr) (Hrl.out.below hb0.drew)).mono ?_); rintro e w' ⟨rfl, rfl⟩)
  refine hK _ _ ⟨fun _ => rfl, ?_⟩
  clear hK K
  repeat (first | (refine Go.XR.S_light rfl rfl rfl ?_ (fun w' hS K hK => ?_) (fun K hK => ?_); rotate_left 1; (cases hS; go_step; exact hK); go_step; refine hK _ ?_; clear hK K))
  repeat (first | (refine Go.XR.S_heavy (fun K hK => ?_); go_step; refine hK _ _ ⟨fun h => by simp at h, ?_⟩; clear hK K))
  refine Go.XR.S_nil ?_
  go_wp2_with fail
  refine gen_world (fun w1 => Below w0.heap.size w0 w1) (Below.refl _ _).drew ?_
  rintro w1 hb1
  have hc1 := bcell hb1
  have hb01 := hb0.trans (hb1.mono hb0.size)
  have hbl1 : bl < w1.heap.size := Nat.lt_of_lt_of_le hbl0 hb1.size
  have hbm1 : bm < w1.heap.size := Nat.lt_of_lt_of_le hbm0 hb1.size
  have hn1 : w.heap.size < w1.heap.size := Nat.lt_of_lt_of_le hn0 hb1.size
  have hS0 : Below w1.heap.size w1 w1.drew := (Below.refl _ _).drew
  refine Go.XR.region_sched ((Below w1.heap.size w1)) [(0, true), (1, true), (2, true), (3, true), (4, true), (5, true), (6, true), (7, true), (8, true), (9, true), (11, true), (12, true), (13, true), (14, true), (15, true), (16, true), (17, true), (18, true), (19, true), (20, true), (21, true), (22, true), (10, false), (23, false), (24, false), (25, false)] [24, 25] Tryz.mixed (by kernel_rfl) (by kernel_rfl) (by kernel_rfl) ?_
  simp only [List.map_cons, List.map_nil, List.getElem?_cons_succ, List.getElem?_cons_zero]
  repeat (first | (refine Go.XR.S_light rfl rfl (by assumption) ?_ (fun w' hS K hK => ?_) (fun K hK => ?_); rotate_left 1; (have hS1 := bcell hS; go_step; exact hK); go_step; refine hK _ ?_; clear hK K))
  refine Go.XR.S_heavy (fun K hK => ?_)
  go_step
  ((with_reducible refine (node_any _ k x _ _ l ml (Hl.out.below hb01.drew) (Hml.out.below hb01.drew) (by omega)).mono ?_); rintro e w' ⟨p, rfl, hp, hb2⟩)
  have hb2' : Below w1.heap.size w1 w' := hS0.trans hb2
  refine hK _ _ ⟨fun _ => hb2', ?_⟩
  clear hK K
  repeat (first | (refine Go.XR.S_light rfl rfl (by assumption) ?_ (fun w' hS K hK => ?_) (fun K hK => ?_); rotate_left 1; (have hS1 := bcell hS; go_step; exact hK); go_step; refine hK _ ?_; clear hK K))
  have hb02 := hb01.trans (hb2'.mono hb01.size)
  refine Go.XR.S_heavy (fun K hK => ?_)
  go_step
  ((with_reducible refine (node_any _ rk rx _ _ mr rr (Hmr.out.below hb02) (Hrr.out.below hb02) (by omega)).mono ?_); rintro e w' ⟨p2, rfl, hp2, hb3⟩)
  have hb3' := hb2'.trans (hb3.mono hb2'.size)
  refine hK _ _ ⟨fun _ => hb3', ?_⟩
  clear hK K
  repeat (first | (refine Go.XR.S_light rfl rfl (by assumption) ?_ (fun w' hS K hK => ?_) (fun K hK => ?_); rotate_left 1; (have hS1 := bcell hS; go_step; exact hK); go_step; refine hK _ ?_; clear hK K))
  refine Go.XR.S_heavy (fun K hK => ?_)
  go_step
  ((with_reducible refine (node_any _ mk mx _ _ (.node k x l ml) (.node rk rx mr rr) (hp.below hb3) hp2 (by simp only [PT.size]; omega)).mono ?_); rintro e w' ⟨p3, rfl, hp3, hb4⟩)
  refine hK _ _ ⟨fun _ => hb3'.trans (hb4.mono hb3'.size), ?_⟩
  clear hK K
  repeat (first | (refine Go.XR.S_light rfl rfl (by assumption) ?_ (fun w' hS K hK => ?_) (fun K hK => ?_); rotate_left 1; (have hS1 := bcell hS; go_step; exact hK); go_step; refine hK _ ?_; clear hK K))
  repeat (first | (refine Go.XR.S_heavy (fun K hK => ?_); go_step; refine hK _ _ ⟨fun h => by simp at h, ?_⟩; clear hK K))
  refine Go.XR.S_nil ?_
  go_wp2
  go_ret
  exact RetTree.of (hb01.trans (hb3'.mono hb01.size)) hp3 hb4

theorem ht_zero : ∀ {t : PT}, t.ht = 0 → t = .nil
  | .nil, _ => rfl
  | .node _ _ _ _, h => by simp [PT.ht] at h

theorem join_any (w : World) (k x : ByteArray) (lv rv : Option Addr) (l r : PT) (hl : Rep w lv l) (hr : Rep w rv r) (hs : l.size + r.size < 2^60) :
    Calls Tryz.prog 114 #[.agg #[.string k, .string x], .pointer lv, .pointer rv] w (RetTree w (PT.join k x l r)) := by
  unfold PT.join
  by_cases h1 : l.ht = r.ht + 2
  · rw [if_pos h1]
    have c1 : ((l.ht : Int) - (r.ht : Int) == 2) = true := by rw [beq_iff_eq]; omega
    cases l with
    | nil => simp [PT.ht] at h1
    | node lk lx ll lr =>
      simp only [PT.joinL]
      by_cases h2 : lr.ht ≤ ll.ht
      · rw [if_pos h2]
        exact join_LL w k x lk lx lv rv ll lr r hl hr hs c1 (by simpa using h2)
      · rw [if_neg h2]
        cases lr with
        | nil => simp [PT.ht] at h2
        | node mk mx ml mr => exact join_LR w k x lk lx mk mx lv rv ll ml mr r hl hr hs c1 (by simpa using h2)
  · rw [if_neg h1]
    have c0 : ((l.ht : Int) - (r.ht : Int) == 2) = false := by rw [beq_eq_false_iff_ne]; omega
    by_cases h2 : r.ht = l.ht + 2
    · rw [if_pos h2]
      have c1 : ((l.ht : Int) - (r.ht : Int) == -2) = true := by rw [beq_iff_eq]; omega
      cases r with
      | nil => simp [PT.ht] at h2
      | node rk rx rl rr =>
        simp only [PT.joinR]
        by_cases h3 : rl.ht ≤ rr.ht
        · rw [if_pos h3]
          exact join_RR w k x rk rx lv rv l rl rr hl hr hs c0 c1 (by simpa using h3)
        · rw [if_neg h3]
          cases rl with
          | nil => simp [PT.ht] at h3
          | node mk mx ml mr => exact join_RL w k x rk rx mk mx lv rv l ml mr rr hl hr hs c0 c1 (by simpa using h3)
    · rw [if_neg h2]
      exact join_0 w k x lv rv l r hl hr hs c0 (by rw [beq_eq_false_iff_ne]; omega)
end Go.Proofs.YtoahjhogjjdkhaaGreatDoor

/- The walks over extent.wrong, Right, Total. -/
namespace Go.Proofs.YtoahjhogjjdkhaaGreatDoor
open Go.RowKit Go.XR Go.NamesPure
theorem extSize (x : Ext) : (Tryz.prog.info? 110).map (·.size) = some (rowC x).size := by rw [rowC_size]; kernel_rfl
theorem zero_ext : ∃ zs : Array Value, zs.size = 35 ∧ ∀ w, (zeroValue 110).run Tryz.prog w = .ok (.agg zs) w := ⟨_, rfl, fun w => Tryz.zeroValue110 w⟩
def RetB (w : World) (b : Bool) (e : Ending) (w' : World) : Prop := e = .returned (.bool b) ∧ Below w.heap.size w w'
def RetZ (w : World) (z : Int) (e : Ending) (w' : World) : Prop := e = .returned (.int .i64 z) ∧ Below w.heap.size w w'
set_option maxHeartbeats 1000000 in
set_option maxRecDepth 100000 in
theorem wrong_any (w : World) (x : Ext) : Calls Tryz.prog 147 #[rowV x] w (RetB w (!extOk x)) := by
  obtain ⟨W, hW⟩ : ∃ W, w.alloc (.cells (rowC x) 110) = W := ⟨_, rfl⟩
  have hA : At W w.heap.size 0 (rowC x) := by rw [← hW]; exact At.new _ _ _
  have Hb : Hid (Below w.heap.size w W) := by unfold Hid; rw [← hW]; exact (Below.refl _ _).alloc (Nat.le_refl _) _
  have d33 : W.cell? ⟨w.heap.size, 33, none⟩ = some (.int .i64 x.2.shelf) := by have := hA 33 _ (rowC_shelf x); rwa [Nat.zero_add] at this
  have d34 : W.cell? ⟨w.heap.size, 34, none⟩ = some (.int .i64 x.2.slot) := by have := hA 34 _ (rowC_slot x); rwa [Nat.zero_add] at this
  clear hA
  by_cases h1 : x.2.shelf < 0
  · have E : Hid (extOk x = false) := by unfold Hid extOk; simp [h1]
    go_enter Tryz.func147, Tryz.ntmps147
    go_wp2
    go_ret
    exact ⟨by rw [E.out]; rfl, Hb.out⟩
  · by_cases h2 : x.2.slot < 1
    · have E : Hid (extOk x = false) := by unfold Hid extOk; simp [h2]
      go_enter Tryz.func147, Tryz.ntmps147
      go_wp2
      go_ret
      exact ⟨by rw [E.out]; rfl, Hb.out⟩
    · by_cases h3 : 4096 < x.2.shelf
      · have E : Hid (extOk x = false) := by unfold Hid extOk; simp [h3]
        go_enter Tryz.func147, Tryz.ntmps147
        go_wp2
        go_ret
        exact ⟨by rw [E.out]; rfl, Hb.out⟩
      · have h0 : 0 ≤ x.2.shelf := by omega
        have h4 : x.2.shelf ≤ 4096 := by omega
        by_cases h5 : 4096 - x.2.shelf < x.2.slot
        · have E : Hid (extOk x = false) := by unfold Hid extOk; simp [h5]
          go_enter Tryz.func147, Tryz.ntmps147
          go_wp2
          go_ret
          exact ⟨by rw [E.out]; rfl, Hb.out⟩
        · have E : Hid (extOk x = true) := by unfold Hid extOk; simp [h1, h2, h3, h5]
          go_enter Tryz.func147, Tryz.ntmps147
          go_wp2
          go_ret
          exact ⟨by rw [E.out]; rfl, Hb.out⟩
theorem erow_at {α : Type} {enc : α → List Value} {k : Nat} (hk : ∀ x, (enc x).length = k) {w : World} {a : Option Addr} {l : List α} (h : Row w a (l.flatMap enc)) {i : Nat} (hi : i < l.length) (hk0 : 0 < k) : ∃ g o, a = some ⟨g, o, none⟩ ∧ At w g (o + i * k) (enc l[i]).toArray := by
  rcases h with h | ⟨g, o, he, h⟩
  · have := flat_len hk l
    rw [h] at this
    have h2 : 0 < l.length * k := Nat.mul_pos (by omega) hk0
    rw [List.length_nil] at this
    omega
  · refine ⟨g, o, he, fun j u hj => ?_⟩
    have hjk : j < k := by have := (Array.getElem?_eq_some_iff.1 hj).1; rwa [List.size_toArray, hk] at this
    rw [Nat.add_assoc]
    refine h _ u ?_
    rw [flat_get hk l hi hjk, ← hj, List.getElem?_toArray]
theorem ext_at {w : World} {a : Option Addr} {l : List Ext} (h : Row w a (l.flatMap rowL)) {i : Nat} (hi : i < l.length) : ∃ g o, a = some ⟨g, o, none⟩ ∧ At w g (o + i * 35) (rowC l[i]) := erow_at (enc := rowL) rowL_length h hi (by omega)
def RetEIdx (w : World) (l : List Ext) (e : Ending) (w' : World) : Prop := ∃ r : Int, e = .returned (.int .i64 r) ∧ decide (0 ≤ r) = (!l.all extOk) ∧ Below w.heap.size w w'
set_option maxHeartbeats 1000000 in
set_option maxRecDepth 100000 in
theorem eindex_any (w : World) (a : Option Addr) (c : Nat) (l : List Ext) (hL : Row w a (l.flatMap rowL)) (hl : l.length < 2^40) :
    Calls Tryz.prog 176 #[.slice a l.length c, .func (.func 147) #[] #[]] w (RetEIdx w l) := by
  have HL := Lib.hid hL
  clear hL
  go_enter Tryz.func176, Tryz.ntmps176
  go_wp2
  go_loopg [8, 5] l.length (fun n i _ wr => ∃ k : Nat, k ≤ l.length ∧ i = .int .i64 k ∧ Hid (Below w.heap.size w wr ∧ n = l.length - k ∧ (l.take k).all extOk = true))
  case atStart => exact ⟨0, Nat.zero_le _, rfl, Below.refl _ _, rfl, rfl⟩
  case round =>
    obtain ⟨k, hk, rfl, hn⟩ := hrel
    by_cases hlt : k < l.length
    · obtain ⟨g, o, rfl, hA⟩ := ext_at (HL.out.below hn.out.1) hlt
      have HA := Lib.hid hA
      have hi1 : (k : Int) < (l.length : Int) := by omega
      obtain ⟨x, hx⟩ : ∃ x, l[k] = x := ⟨_, rfl⟩
      have Hx := Lib.hid hx
      rw [hx] at HA
      clear hx hA
      go_wp2_with (refine wpList_load_at rfl 110 _ rfl g (o + k * 35) rfl (rowC x) HA.out _ Tryz.underlying110 rfl (extSize x) ?_)
      refine (wrong_any _ x).mono ?_
      rintro e w1 ⟨rfl, hb1⟩
      have Hb1 := Lib.hid (hn.out.1.trans (hb1.mono hn.out.1.size))
      clear hb1
      cases hv : extOk x with
      | false =>
        have Hv := Lib.hid hv
        clear hv
        go_wp2
        go_ret
        refine ⟨k, rfl, ?_, Hb1.out⟩
        rw [decide_eq_true (by omega)]
        have : l.all extOk = false := by
          rw [Bool.eq_false_iff]; intro h
          have := List.all_eq_true.1 h l[k] (List.getElem_mem hlt)
          rw [Hx.out, Hv.out] at this; cases this
        rw [this]; rfl
      | true =>
        have Hv := Lib.hid hv
        clear hv
        go_wp2
        go_roundg (l.length - (k + 1))
        case measure => have := hn.out.2.1; omega
        case rel =>
          refine ⟨k + 1, by omega, by go_num, Hb1.out, rfl, ?_⟩
          rw [List.take_succ_eq_append_getElem hlt, List.all_append, hn.out.2.2]; simp [Hx.out, Hv.out]
    · have hge : ¬ (k : Int) < (l.length : Int) := by omega
      go_wp2
      go_ret
      refine ⟨-1, rfl, ?_, hn.out.1⟩
      have := hn.out.2.2
      rw [List.take_of_length_le (by omega)] at this
      rw [this]; rfl
theorem econtains_any (w : World) (a : Option Addr) (c : Nat) (l : List Ext) (hL : Row w a (l.flatMap rowL)) (hl : l.length < 2^40) :
    Calls Tryz.prog 146 #[.slice a l.length c, .func (.func 147) #[] #[]] w (RetB w (!l.all extOk)) := by
  have HL := Lib.hid hL
  clear hL
  go_enter Tryz.func146, Tryz.ntmps146
  go_wp2_with fail
  refine (eindex_any _ a c l HL.out hl).mono ?_
  rintro e w1 ⟨r, rfl, hr, hb⟩
  have Hr := Lib.hid hr
  clear hr
  go_wp2
  go_ret
  exact ⟨by rw [← Hr.out]; rfl, hb⟩
theorem right_any (w : World) (a : Option Addr) (c : Nat) (l : List Ext) (hL : Row w a (l.flatMap rowL)) (hl : l.length < 2^40) :
    Calls Tryz.prog 104 #[.slice a l.length c] w (RetB w (rightP l)) := by
  have HL := Lib.hid hL
  clear hL
  by_cases h : l.length ≤ 16384
  · have hd2 : decide ((l.length : Int) ≤ 16384) = true := decide_eq_true (by omega)
    have E : Hid (rightP l = l.all extOk) := by unfold Hid rightP; rw [decide_eq_true h]; rfl
    clear h
    go_enter Tryz.func104, Tryz.ntmps104
    go_wp2_with fail
    refine (econtains_any _ a c l HL.out hl).mono ?_
    rintro e w1 ⟨rfl, hb⟩
    go_wp2
    go_ret
    refine ⟨?_, hb⟩
    rw [E.out]
    cases l.all extOk <;> rfl
  · have hd2 : decide ((l.length : Int) ≤ 16384) = false := decide_eq_false (by omega)
    have E : Hid (rightP l = false) := by unfold Hid rightP; rw [decide_eq_false h]; rfl
    clear h
    go_enter Tryz.func104, Tryz.ntmps104
    go_wp2
    go_ret
    exact ⟨by rw [E.out]; rfl, Below.refl _ _⟩
theorem sumLen_take (l : List Ext) {k : Nat} (h : k < l.length) : sumLen (l.take (k + 1)) = sumLen (l.take k) + l[k].2.slot := by
  unfold sumLen
  rw [List.take_succ_eq_append_getElem h, List.map_append, List.sum_append]; simp
theorem sumLen_bound : ∀ {l : List Ext}, (∀ x ∈ l, extOk x = true) → 0 ≤ sumLen l ∧ sumLen l ≤ 4096 * l.length
  | [], _ => by simp [sumLen]
  | x :: l, h => by
    have h1 := extOk_bounds (h x (List.mem_cons_self ..))
    have h2 := sumLen_bound (l := l) fun y hy => h y (List.mem_cons_of_mem _ hy)
    have e : sumLen (x :: l) = x.2.slot + sumLen l := by simp [sumLen]
    rw [e, List.length_cons]
    omega
set_option maxHeartbeats 1000000 in
set_option maxRecDepth 100000 in
theorem total_any (w : World) (a : Option Addr) (c : Nat) (l : List Ext) (hL : Row w a (l.flatMap rowL)) (hl : l.length < 2^40) :
    Calls Tryz.prog 50 #[.slice a l.length c] w (RetZ w (totalP l)) := by
  have HL := Lib.hid hL
  clear hL
  obtain ⟨zs, hzs, hz⟩ := zero_ext
  have Hz := Lib.hid hz
  clear hz
  cases hr : rightP l with
  | false =>
    have E : Hid (totalP l = 0) := by unfold Hid totalP; rw [hr]; rfl
    have Hr := Lib.hid hr
    clear hr
    go_enter Tryz.func50, Tryz.ntmps50
    go_wp2_with fail
    refine (right_any _ a c l HL.out hl).mono ?_
    rintro e w1 ⟨rfl, hb⟩
    rw [Hr.out]
    go_wp2
    go_ret
    exact ⟨by rw [E.out]; rfl, hb⟩
  | true =>
    have E : Hid (totalP l = sumLen l) := by unfold Hid totalP; rw [hr]; rfl
    have Hr := Lib.hid hr
    clear hr
    have HB : Hid (∀ k, k ≤ l.length → 0 ≤ sumLen (l.take k) ∧ sumLen (l.take k) ≤ 4096 * l.length) := fun k hk => by
      have h := sumLen_bound (l := l.take k) fun x hx => (rightP_all Hr.out).2 x (List.mem_of_mem_take hx)
      rw [List.length_take] at h
      omega
    go_enter Tryz.func50, Tryz.ntmps50
    go_wp2_with fail
    refine (right_any _ a c l HL.out hl).mono ?_
    rintro e w1 ⟨rfl, hb⟩
    rw [Hr.out]
    have Hb1 := Lib.hid hb
    clear hb
    go_wp2
    go_loopg [11, 3] l.length (fun n i s wr => ∃ k : Nat, k ≤ l.length ∧ i = .int .i64 k ∧ s = .int .i64 (sumLen (l.take k)) ∧ Hid (Below w.heap.size w wr ∧ n = l.length - k))
    case atStart => exact ⟨0, Nat.zero_le _, rfl, rfl, Hb1.out, rfl⟩
    case round =>
      obtain ⟨k, hk, rfl, rfl, hn⟩ := hrel
      have b0 := HB.out k hk
      by_cases hlt : k < l.length
      · obtain ⟨g, o, rfl, hA⟩ := ext_at (HL.out.below hn.out.1) hlt
        have HA := Lib.hid hA
        have hi1 : (k : Int) < (l.length : Int) := by omega
        have b1 := HB.out (k + 1) (by omega)
        rw [sumLen_take l hlt] at b1
        have b2 := extOk_bounds ((rightP_all Hr.out).2 l[k] (List.getElem_mem hlt))
        have Hs := Lib.hid (sumLen_take l hlt)
        obtain ⟨x, hx⟩ : ∃ x, l[k] = x := ⟨_, rfl⟩
        rw [hx] at HA b1 b2 Hs
        obtain ⟨s, hs⟩ : ∃ s, sumLen (l.take k) = s := ⟨_, rfl⟩
        rw [hs] at b0 b1 Hs ⊢
        have W1 : Hid (Below w.heap.size w (wr.alloc (.cells (rowC x) 110))) := hn.out.1.alloc hn.out.1.size _
        have c34 : (wr.alloc (.cells (rowC x) 110)).cell? ⟨wr.heap.size, 34, none⟩ = some (.int .i64 x.2.slot) := by
          have := (At.new wr (rowC x) 110) 34 _ (rowC_slot x); rwa [Nat.zero_add] at this
        clear hx hA hs
        go_wp2_with (first | (refine wpList_load_at rfl 110 _ rfl g (o + k * 35) rfl (rowC x) HA.out _ Tryz.underlying110 rfl (extSize x) ?_) | (refine wpList_alloc_new rfl 110 rfl zs (Hz.out _) ?_) | (refine wpList_store_new rfl 110 _ _ rfl zs (rowC x) 110 rfl rfl (by rw [hzs, rowC_size]) (one_rowC x) (extSize x) ?_))
        go_roundg (l.length - (k + 1))
        case measure => have := hn.out.2; omega
        case rel => exact ⟨k + 1, by omega, by go_num, by rw [Hs.out], W1.out, rfl⟩
      · have hge : ¬ (k : Int) < (l.length : Int) := by omega
        have hkl : k = l.length := by omega
        go_wp2
        go_ret
        refine ⟨?_, hn.out.1⟩
        rw [E.out]; rfl
end Go.Proofs.YtoahjhogjjdkhaaGreatDoor

/- The walks over tree.Put, first, drop, Drop, Get. -/
namespace Go.Proofs.YtoahjhogjjdkhaaGreatDoor
open Go.RowKit Go.TreePure

set_option maxHeartbeats 1000000 in
set_option maxRecDepth 100000 in
theorem put_any (k x : ByteArray) : ∀ (t : PT) (w : World) (p : Option Addr), Rep w p t → t.size < 2^59 →
    Calls Tryz.prog 57 #[.pointer p, .string k, .string x] w (RetTree w (PT.put k x t)) := by
  intro t
  induction t with
  | nil =>
    intro w p hp _
    cases hp
    go_enter Tryz.func57, Tryz.ntmps57
    go_wp2_with fail
    refine (node_any _ k x none none .nil .nil rfl rfl (by simp [PT.size])).mono ?_
    rintro e w' ⟨p, rfl, hp, hb⟩
    go_wp2
    go_ret
    exact RetTree.of ((Below.refl _ _).alloc (Nat.le_refl _) _) hp hb
  | node k' x' l r ihl ihr =>
    intro w p hp hs
    have Ihl := Lib.hid ihl
    have Ihr := Lib.hid ihr
    clear ihl ihr
    obtain ⟨b, lp, rp, rfl, hb, d0, d1, d2, d3, d4, d5, hl, hr⟩ := hp.open
    have Hl := Lib.hid hl
    have Hr := Lib.hid hr
    clear hp hl hr
    have hsz : (PT.node k' x' l r).size = l.size + r.size + 1 := rfl
    have hs' : l.size + r.size + 1 < 2^59 := by omega
    clear hs hsz
    have hn : w.heap.size < w.heap.size + 1 := by omega
    by_cases h1 : klt k k' = true
    · have hput := PT.put_size k x l
      have Hp : Hid (PT.put k x (.node k' x' l r) = PT.join k' x' (PT.put k x l) r) := by unfold Hid; rw [PT.put, if_pos h1]
      have hlt : Op.bytesLess k.toList k'.toList = true := h1
      clear h1
      go_enter Tryz.func57, Tryz.ntmps57
      go_wp2_with fail
      refine gen_world (fun w0 => Below w.heap.size w w0 ∧ w.heap.size < w0.heap.size) ⟨(Below.refl _ _).alloc (Nat.le_refl _) _, by simp⟩ ?_
      rintro w0 ⟨hb0, hn0⟩
      have hc0 := bcell hb0
      have hbl0 := Nat.lt_trans hb hn0
      have hS0 : Below w0.heap.size w0 w0.drew := (Below.refl _ _).drew
      refine Go.XR.region_sched ((Below w0.heap.size w0)) [(0, true), (1, true), (2, true), (3, true), (4, true), (5, true), (6, true), (7, true), (8, true), (9, true), (11, true), (12, true), (13, true), (14, true), (10, false), (15, false), (16, false)] [15, 16] Tryz.mixed (by kernel_rfl) (by kernel_rfl) (by kernel_rfl) ?_
      simp only [List.map_cons, List.map_nil, List.getElem?_cons_succ, List.getElem?_cons_zero]
      repeat (first | (refine Go.XR.S_light rfl rfl (by assumption) ?_ (fun w' hS K hK => ?_) (fun K hK => ?_); rotate_left 1; (have hS1 := bcell hS; go_step; exact hK); go_step; refine hK _ ?_; clear hK K))
      refine Go.XR.S_heavy (fun K hK => ?_)
      go_step
      ((with_reducible refine (Ihl.out _ _ (Hl.out.below hb0.drew) (by omega)).mono ?_); rintro e w' ⟨p, rfl, hp, hb2⟩)
      have hb2' := hS0.trans hb2
      refine hK _ _ ⟨fun _ => hb2', ?_⟩
      clear hK K
      repeat (first | (refine Go.XR.S_light rfl rfl (by assumption) ?_ (fun w' hS K hK => ?_) (fun K hK => ?_); rotate_left 1; (have hS1 := bcell hS; go_step; exact hK); go_step; refine hK _ ?_; clear hK K))
      refine Go.XR.S_heavy (fun K hK => ?_)
      go_step
      ((with_reducible refine (join_any _ k' x' _ _ (PT.put k x l) r hp (Hr.out.below (hb0.trans (hb2'.mono hb0.size))) (by omega)).mono ?_); rintro e w' ⟨p2, rfl, hp2, hb3⟩)
      refine hK _ _ ⟨fun _ => hb2'.trans (hb3.mono hb2'.size), ?_⟩
      clear hK K
      repeat (first | (refine Go.XR.S_light rfl rfl (by assumption) ?_ (fun w' hS K hK => ?_) (fun K hK => ?_); rotate_left 1; (have hS1 := bcell hS; go_step; exact hK); go_step; refine hK _ ?_; clear hK K))
      repeat (first | (refine Go.XR.S_heavy (fun K hK => ?_); go_step; refine hK _ _ ⟨fun h => by simp at h, ?_⟩; clear hK K))
      refine Go.XR.S_nil ?_
      go_wp2
      go_ret
      rw [Hp.out]
      exact RetTree.of (hb0.trans (hb2'.mono hb0.size)) hp2 hb3
    · have h1' : klt k k' = false := by simpa using h1
      by_cases h2 : klt k' k = true
      · have hput := PT.put_size k x r
        have Hp : Hid (PT.put k x (.node k' x' l r) = PT.join k' x' l (PT.put k x r)) := by unfold Hid; rw [PT.put, if_neg h1, if_pos h2]
        have hlt : Op.bytesLess k.toList k'.toList = false := h1'
        have hne : (k.toList == k'.toList) = false := by
          rw [Bool.eq_false_iff]; intro h; rw [keq_iff] at h; exact klt_ne h2 h.symm
        clear h1 h1' h2
        go_enter Tryz.func57, Tryz.ntmps57
        go_wp2_with fail
        refine gen_world (fun w0 => Below w.heap.size w w0 ∧ w.heap.size < w0.heap.size) ⟨(Below.refl _ _).alloc (Nat.le_refl _) _, by simp⟩ ?_
        rintro w0 ⟨hb0, hn0⟩
        have hc0 := bcell hb0
        have hbl0 := Nat.lt_trans hb hn0
        have hS0 : Below w0.heap.size w0 w0.drew := (Below.refl _ _).drew
        refine Go.XR.region_sched ((Below w0.heap.size w0)) [(0, true), (1, true), (2, true), (3, true), (4, true), (5, true), (6, true), (7, true), (8, true), (9, true), (10, true), (11, true), (12, true), (13, true), (14, false), (15, false), (16, false)] [15, 16] Tryz.mixed (by kernel_rfl) (by kernel_rfl) (by kernel_rfl) ?_
        simp only [List.map_cons, List.map_nil, List.getElem?_cons_succ, List.getElem?_cons_zero]
        repeat (first | (refine Go.XR.S_light rfl rfl (by assumption) ?_ (fun w' hS K hK => ?_) (fun K hK => ?_); rotate_left 1; (have hS1 := bcell hS; go_step; exact hK); go_step; refine hK _ ?_; clear hK K))
        refine Go.XR.S_heavy (fun K hK => ?_)
        go_step
        ((with_reducible refine (Ihr.out _ _ (Hr.out.below hb0.drew) (by omega)).mono ?_); rintro e w' ⟨p, rfl, hp, hb2⟩)
        have hb2' := hS0.trans hb2
        refine hK _ _ ⟨fun _ => hb2', ?_⟩
        clear hK K
        repeat (first | (refine Go.XR.S_light rfl rfl (by assumption) ?_ (fun w' hS K hK => ?_) (fun K hK => ?_); rotate_left 1; (have hS1 := bcell hS; go_step; exact hK); go_step; refine hK _ ?_; clear hK K))
        refine Go.XR.S_heavy (fun K hK => ?_)
        go_step
        ((with_reducible refine (join_any _ k' x' _ _ l (PT.put k x r) (Hl.out.below (hb0.trans (hb2'.mono hb0.size))) hp (by omega)).mono ?_); rintro e w' ⟨p2, rfl, hp2, hb3⟩)
        refine hK _ _ ⟨fun _ => hb2'.trans (hb3.mono hb2'.size), ?_⟩
        clear hK K
        repeat (first | (refine Go.XR.S_light rfl rfl (by assumption) ?_ (fun w' hS K hK => ?_) (fun K hK => ?_); rotate_left 1; (have hS1 := bcell hS; go_step; exact hK); go_step; refine hK _ ?_; clear hK K))
        repeat (first | (refine Go.XR.S_heavy (fun K hK => ?_); go_step; refine hK _ _ ⟨fun h => by simp at h, ?_⟩; clear hK K))
        refine Go.XR.S_nil ?_
        go_wp2
        go_ret
        rw [Hp.out]
        exact RetTree.of (hb0.trans (hb2'.mono hb0.size)) hp2 hb3
      · have h2' : klt k' k = false := by simpa using h2
        have Hp : Hid (PT.put k x (.node k' x' l r) = .node k x l r) := by unfold Hid; rw [PT.put, if_neg h1, if_neg h2]
        obtain rfl := klt_tri h1' h2'
        have hlt : Op.bytesLess k.toList k.toList = false := h1'
        have hne : (k.toList == k.toList) = true := by rw [keq_iff]
        clear h1 h1' h2 h2'
        go_enter Tryz.func57, Tryz.ntmps57
        go_wp2_with fail
        go_ret
        rw [Hp.out]
        exact ⟨some ⟨w.heap.size + 1, 0, none⟩, rfl, ⟨w.heap.size + 1, lp, rp, rfl, heap_new2 _ _ _, (Hl.out.alloc _).alloc _, (Hr.out.alloc _).alloc _⟩, ((Below.refl _ _).alloc (Nat.le_refl _) _).alloc (by simp) _⟩
end Go.Proofs.YtoahjhogjjdkhaaGreatDoor

/- The walks over tree.first, drop, Get, Drop. -/
namespace Go.Proofs.YtoahjhogjjdkhaaGreatDoor
open Go.RowKit Go.TreePure

theorem size_alloc (w : World) (o : Obj) : (w.alloc o).heap.size = w.heap.size + 1 := by show (w.heap.push o).size = _; simp

/-- behind a call that was made in a world with one new block more -/
theorem facts_alloc {w w1 : World} {o : Obj} (hb : Below (w.alloc o).heap.size (w.alloc o) w1) :
    Below w.heap.size w w1 ∧ w.heap.size < w1.heap.size ∧ (∀ i, w1.cell? ⟨w.heap.size, i, none⟩ = (w.alloc o).cell? ⟨w.heap.size, i, none⟩) ∧ (∀ i, w1.frozen? ⟨w.heap.size, i, none⟩ = (w.alloc o).frozen? ⟨w.heap.size, i, none⟩) ∧ w1.heap[w.heap.size]? = some o := by
  have hs := size_alloc w o
  have h2 := hb.size
  refine ⟨((Below.refl _ _).alloc (Nat.le_refl _) _).trans (hb.mono (by omega)), by omega, fun i => hb.cell (by show w.heap.size < _; omega), fun i => hb.frozen (by show w.heap.size < _; omega), by rw [hb.block _ (by omega)]; exact heap_new w o⟩

theorem bfrozen {W w1 : World} (hb : Below W.heap.size W w1) : ∀ b o, b < W.heap.size → w1.frozen? ⟨b, o, none⟩ = W.frozen? ⟨b, o, none⟩ :=
  fun b o h => hb.frozen (p := ⟨b, o, none⟩) h

theorem Rep.setCell {w : World} {n i : Nat} {u : Value} {c : Array Value} {T : TypeId} {fz : Nat × Nat} (hn : w.heap[n]? = some (.cells c T fz)) (hT : T ≠ 157) : ∀ {t : PT} {p : Option Addr}, Rep w p t → Rep (w.setCell ⟨n, i, none⟩ u) p t
  | .nil, _, h => h
  | .node _ _ _ _, _, ⟨b, lv, rv, h0, h1, h2, h3⟩ => by
    have hne : b ≠ n := fun e => by subst e; rw [hn] at h1; cases h1; exact hT rfl
    exact ⟨b, lv, rv, h0, by rw [Below.heap_setCell _ _ _ _ hne]; exact h1, Rep.setCell hn hT h2, Rep.setCell hn hT h3⟩

theorem heap_setCell_at {w : World} {n i : Nat} {u : Value} {c : Array Value} {T : TypeId} {fz : Nat × Nat} (hn : w.heap[n]? = some (.cells c T fz)) : (w.setCell ⟨n, i, none⟩ u).heap[n]? = some (.cells (c.setIfInBounds i u) T fz) := by
  simp [World.setCell, Array.getElem?_modify, hn]

def RetFirst (w : World) (t : PT) (e : Ending) (w' : World) : Prop :=
  ∃ p, e = .returned (.tuple #[.agg #[.string t.first.1.1, .string t.first.1.2], .pointer p]) ∧ Rep w' p t.first.2 ∧ Below w.heap.size w w'

set_option maxHeartbeats 1000000 in
set_option maxRecDepth 100000 in
theorem first_any : ∀ (t : PT) (w : World) (p : Option Addr), Rep w p t → t ≠ .nil → t.size < 2^59 →
    Calls Tryz.prog 152 #[.pointer p] w (RetFirst w t) := by
  intro t
  induction t with
  | nil => intro w p _ h; exact absurd rfl h
  | node k x l r ihl _ =>
    intro w p hp _ hs
    have Ihl := Lib.hid ihl
    clear ihl
    obtain ⟨b, lp, rp, rfl, hb, d0, d1, d2, d3, d4, d5, hl, hr⟩ := hp.open
    have Hl := Lib.hid hl
    have Hr := Lib.hid hr
    have hsz : (PT.node k x l r).size = l.size + r.size + 1 := rfl
    have hs' : l.size + r.size + 1 < 2^59 := by omega
    clear hs hsz hp hr
    have hn : w.heap.size < w.heap.size + 1 := by omega
    cases l with
    | nil =>
      cases hl
      clear Hl
      go_enter Tryz.func152, Tryz.ntmps152
      go_wp2_with fail
      have hbs : b < w.heap.size + 1 := by omega
      have hS0 : Below w.heap.size w (w.alloc (.cells #[.string ⟨#[]⟩, .string ⟨#[]⟩] 98)).drew := ((Below.refl _ _).alloc (Nat.le_refl _) _).drew
      refine Go.XR.region_sched ((Below w.heap.size w)) [(0, true), (1, true), (2, true), (3, true), (4, true), (5, true), (6, true), (7, true), (8, false), (9, false)] [9] Tryz.mixed (by kernel_rfl) (by kernel_rfl) (by kernel_rfl) ?_
      simp only [List.map_cons, List.map_nil, List.getElem?_cons_succ, List.getElem?_cons_zero]
      repeat (first | (refine Go.XR.S_light rfl rfl (by assumption) ?_ (fun w' hS K hK => ?_) (fun K hK => ?_); rotate_left 1; (have hS1 := bcell hS; go_step; exact hK); go_step; refine hK _ ?_; clear hK K))
      refine Go.XR.S_heavy (fun K hK => ?_)
      go_step
      refine hK _ _ ⟨fun _ => ((Below.refl _ _).alloc (Nat.le_refl _) _).drew, ?_⟩
      clear hK K
      repeat (first | (refine Go.XR.S_heavy (fun K hK => ?_); go_step; refine hK _ _ ⟨fun h => by simp at h, ?_⟩; clear hK K))
      refine Go.XR.S_nil ?_
      go_wp2
      refine bodyPost_ret (v := .tuple #[.agg #[.string k, .string x], .pointer rp]) (by simp [results, Tryz.results152, go_sem]) rfl ⟨rp, by rw [PT.first], by rw [PT.first]; exact (Hr.out.alloc _).drew, ((Below.refl _ _).alloc (Nat.le_refl _) _).drew⟩
    | node lk lx ll lr =>
      obtain ⟨bl, llp, lrp, rfl, hbl, _, _, _, _, _, _, _, _⟩ := hl.open
      clear hl
      go_enter Tryz.func152, Tryz.ntmps152
      go_wp2_with fail
      refine (Ihl.out _ _ (Hl.out.alloc _) (by simp) (by omega)).mono ?_
      rintro e w1 ⟨q, rfl, hq, hb1⟩
      obtain ⟨hb0, hn1, hc1, hf1, hk1⟩ := facts_alloc hb1
      have Hk1 := Lib.hid hk1
      clear hk1
      have hc0 := bcell hb0
      clear hb1
      go_wp2_with fail
      refine gen_world (fun w2 => Below w1.heap.size w1 w2 ∧ w1.heap.size < w2.heap.size ∧ w2.cell? ⟨w1.heap.size, 0, none⟩ = some (.string (PT.node lk lx ll lr).first.1.1) ∧ w2.cell? ⟨w1.heap.size, 1, none⟩ = some (.string (PT.node lk lx ll lr).first.1.2))
        ⟨(Below.refl _ _).alloc (Nat.le_refl _) _, by simp, by simp, by simp⟩ ?_
      rintro w2 ⟨hb2, hn2, g0, g1⟩
      have hbw1 := Nat.lt_trans hb hn1
      have hbw2 : b < w2.heap.size := by omega
      have hnw2 : w.heap.size < w2.heap.size := by omega
      have hc2 := bcell hb2
      have hf2 := bfrozen hb2
      have hb02 := hb0.trans (hb2.mono hb0.size)
      have hfs := PT.first_size (t := .node lk lx ll lr) (by simp)
      generalize hA : (PT.node lk lx ll lr).first = A at *
      have HA := Lib.hid hA
      clear hA
      have hS0 : Below w2.heap.size w2 w2.drew := (Below.refl _ _).drew
      refine Go.XR.region_sched ((Below w2.heap.size w2)) [(0, true), (1, true), (2, true), (3, true), (4, true), (5, true), (6, true), (7, true), (8, true), (9, true), (10, false), (11, false), (12, false)] [11, 12] Tryz.mixed (by kernel_rfl) (by kernel_rfl) (by kernel_rfl) ?_
      simp only [List.map_cons, List.map_nil, List.getElem?_cons_succ, List.getElem?_cons_zero]
      repeat (first | (refine Go.XR.S_light rfl rfl (by assumption) ?_ (fun w' hS K hK => ?_) (fun K hK => ?_); rotate_left 1; (have hS1 := bcell hS; go_step; exact hK); go_step; refine hK _ ?_; clear hK K))
      refine Go.XR.S_heavy (fun K hK => ?_)
      go_step
      ((with_reducible refine (join_any _ k x _ _ A.2 r (hq.below hb2.drew) (Hr.out.below hb02.drew) (by omega)).mono ?_); rintro e w' ⟨p2, rfl, hp2, hb3⟩)
      have hb3' := hS0.trans hb3
      refine hK _ _ ⟨fun _ => hb3', ?_⟩
      clear hK K
      repeat (first | (refine Go.XR.S_light rfl rfl (by assumption) ?_ (fun w' hS K hK => ?_) (fun K hK => ?_); rotate_left 1; (have hS1 := bcell hS; go_step; exact hK); go_step; refine hK _ ?_; clear hK K))
      have hc3 := bcell hb3'
      have hf3 := bfrozen hb3'
      have hnw3 := Nat.lt_of_lt_of_le hnw2 hb3'.size
      repeat (first | (refine Go.XR.S_heavy (fun K hK => ?_); go_step; refine hK _ _ ⟨fun h => by simp at h, ?_⟩; clear hK K))
      refine Go.XR.S_nil ?_
      go_wp2
      have hk3 : w'.heap[w.heap.size]? = _ := (hb3'.block _ hnw2).trans ((hb2.block _ hn1).trans Hk1.out)
      have hk4 := heap_setCell_at (i := 0) (u := .string A.1.1) hk3
      have hk5 := heap_setCell_at (i := 1) (u := .string A.1.2) hk4
      have q0 := cells_of hk5 0
      have q1 := cells_of hk5 1
      simp at q0 q1
      have hfin : RetFirst w (PT.node k x (PT.node lk lx ll lr) r) (.returned (.tuple #[.agg #[.string A.1.1, .string A.1.2], .pointer p2])) ((w'.setCell ⟨w.heap.size, 0, none⟩ (.string A.1.1)).setCell ⟨w.heap.size, 1, none⟩ (.string A.1.2)) := by
        refine ⟨p2, by rw [PT.first, HA.out], ?_, ((hb02.trans (hb3'.mono hb02.size)).setCell (Nat.le_refl _) _).setCell (Nat.le_refl _) _⟩
        rw [PT.first, HA.out]
        exact (hp2.setCell hk3 (by decide)).setCell hk4 (by decide)
      refine bodyPost_ret (v := .tuple #[.agg #[.string A.1.1, .string A.1.2], .pointer p2]) ?_ rfl hfin
      simp [results, Tryz.results152, go_sem, q0, q1]

set_option maxHeartbeats 1000000 in
set_option maxRecDepth 100000 in
theorem drop_any (k : ByteArray) : ∀ (t : PT) (w : World) (p : Option Addr), Rep w p t → (PT.get k t).isSome = true → t.size < 2^59 →
    Calls Tryz.prog 109 #[.pointer p, .string k] w (RetTree w (PT.drop k t)) := by
  intro t
  induction t with
  | nil => intro w p _ h; simp [PT.get] at h
  | node k' x' l r ihl ihr =>
    intro w p hp hg hs
    have Ihl := Lib.hid ihl
    have Ihr := Lib.hid ihr
    clear ihl ihr
    obtain ⟨b, lp, rp, rfl, hb, d0, d1, d2, d3, d4, d5, hl, hr⟩ := hp.open
    have Hl := Lib.hid hl
    have Hr := Lib.hid hr
    have hsz : (PT.node k' x' l r).size = l.size + r.size + 1 := rfl
    have hs' : l.size + r.size + 1 < 2^59 := by omega
    clear hp hl hs hsz
    by_cases h1 : klt k k' = true
    · clear hr
      have hd := PT.drop_size k l
      have hgl : Hid ((PT.get k l).isSome = true) := by unfold Hid; rw [PT.get, if_neg (klt_ne h1), if_pos h1] at hg; exact hg
      have Hp : Hid (PT.drop k (.node k' x' l r) = PT.join k' x' (PT.drop k l) r) := by unfold Hid; rw [PT.drop.eq_def]; simp only []; rw [if_pos h1]
      have hlt : Op.bytesLess k.toList k'.toList = true := h1
      clear h1 hg
      go_enter Tryz.func109, Tryz.ntmps109
      go_wp2_with fail
      have hS0 : Below w.heap.size w w.drew := (Below.refl _ _).drew
      refine Go.XR.region_sched ((Below w.heap.size w)) [(0, true), (1, true), (2, true), (3, true), (4, true), (5, true), (6, true), (7, true), (8, true), (10, true), (11, true), (12, true), (13, true), (9, false), (14, false), (15, false)] [14, 15] Tryz.mixed (by kernel_rfl) (by kernel_rfl) (by kernel_rfl) ?_
      simp only [List.map_cons, List.map_nil, List.getElem?_cons_succ, List.getElem?_cons_zero]
      repeat (first | (refine Go.XR.S_light rfl rfl (by assumption) ?_ (fun w' hS K hK => ?_) (fun K hK => ?_); rotate_left 1; (have hS1 := bcell hS; go_step; exact hK); go_step; refine hK _ ?_; clear hK K))
      refine Go.XR.S_heavy (fun K hK => ?_)
      go_step
      ((with_reducible refine (Ihl.out _ _ Hl.out.drew hgl.out (by omega)).mono ?_); rintro e w' ⟨p, rfl, hp, hb2⟩)
      have hb2' := hS0.trans hb2
      refine hK _ _ ⟨fun _ => hb2', ?_⟩
      clear hK K
      repeat (first | (refine Go.XR.S_light rfl rfl (by assumption) ?_ (fun w' hS K hK => ?_) (fun K hK => ?_); rotate_left 1; (have hS1 := bcell hS; go_step; exact hK); go_step; refine hK _ ?_; clear hK K))
      refine Go.XR.S_heavy (fun K hK => ?_)
      go_step
      ((with_reducible refine (join_any _ k' x' _ _ (PT.drop k l) r hp (Hr.out.below hb2') (by omega)).mono ?_); rintro e w' ⟨p2, rfl, hp2, hb3⟩)
      refine hK _ _ ⟨fun _ => hb2'.trans (hb3.mono hb2'.size), ?_⟩
      clear hK K
      repeat (first | (refine Go.XR.S_light rfl rfl (by assumption) ?_ (fun w' hS K hK => ?_) (fun K hK => ?_); rotate_left 1; (have hS1 := bcell hS; go_step; exact hK); go_step; refine hK _ ?_; clear hK K))
      repeat (first | (refine Go.XR.S_heavy (fun K hK => ?_); go_step; refine hK _ _ ⟨fun h => by simp at h, ?_⟩; clear hK K))
      refine Go.XR.S_nil ?_
      go_wp2
      go_ret
      rw [Hp.out]
      exact RetTree.of hb2' hp2 hb3
    · have h1' : klt k k' = false := by simpa using h1
      by_cases h2 : klt k' k = true
      · clear hr
        have hd := PT.drop_size k r
        have hgr : Hid ((PT.get k r).isSome = true) := by unfold Hid; rw [PT.get, if_neg (fun e => klt_ne h2 e.symm), if_neg h1] at hg; exact hg
        have Hp : Hid (PT.drop k (.node k' x' l r) = PT.join k' x' l (PT.drop k r)) := by unfold Hid; rw [PT.drop.eq_def]; simp only []; rw [if_neg h1, if_pos h2]
        have hlt : Op.bytesLess k.toList k'.toList = false := h1'
        have hne : (k.toList == k'.toList) = false := by
          rw [Bool.eq_false_iff]; intro h; rw [keq_iff] at h; exact klt_ne h2 h.symm
        clear h1 h1' h2 hg
        go_enter Tryz.func109, Tryz.ntmps109
        go_wp2_with fail
        have hS0 : Below w.heap.size w w.drew := (Below.refl _ _).drew
        refine Go.XR.region_sched ((Below w.heap.size w)) [(0, true), (1, true), (2, true), (3, true), (4, true), (5, true), (6, true), (7, true), (8, true), (9, true), (10, true), (11, true), (12, true), (13, false), (14, false), (15, false)] [14, 15] Tryz.mixed (by kernel_rfl) (by kernel_rfl) (by kernel_rfl) ?_
        simp only [List.map_cons, List.map_nil, List.getElem?_cons_succ, List.getElem?_cons_zero]
        repeat (first | (refine Go.XR.S_light rfl rfl (by assumption) ?_ (fun w' hS K hK => ?_) (fun K hK => ?_); rotate_left 1; (have hS1 := bcell hS; go_step; exact hK); go_step; refine hK _ ?_; clear hK K))
        refine Go.XR.S_heavy (fun K hK => ?_)
        go_step
        ((with_reducible refine (Ihr.out _ _ Hr.out.drew hgr.out (by omega)).mono ?_); rintro e w' ⟨p, rfl, hp, hb2⟩)
        have hb2' := hS0.trans hb2
        refine hK _ _ ⟨fun _ => hb2', ?_⟩
        clear hK K
        repeat (first | (refine Go.XR.S_light rfl rfl (by assumption) ?_ (fun w' hS K hK => ?_) (fun K hK => ?_); rotate_left 1; (have hS1 := bcell hS; go_step; exact hK); go_step; refine hK _ ?_; clear hK K))
        refine Go.XR.S_heavy (fun K hK => ?_)
        go_step
        ((with_reducible refine (join_any _ k' x' _ _ l (PT.drop k r) (Hl.out.below hb2') hp (by omega)).mono ?_); rintro e w' ⟨p2, rfl, hp2, hb3⟩)
        refine hK _ _ ⟨fun _ => hb2'.trans (hb3.mono hb2'.size), ?_⟩
        clear hK K
        repeat (first | (refine Go.XR.S_light rfl rfl (by assumption) ?_ (fun w' hS K hK => ?_) (fun K hK => ?_); rotate_left 1; (have hS1 := bcell hS; go_step; exact hK); go_step; refine hK _ ?_; clear hK K))
        repeat (first | (refine Go.XR.S_heavy (fun K hK => ?_); go_step; refine hK _ _ ⟨fun h => by simp at h, ?_⟩; clear hK K))
        refine Go.XR.S_nil ?_
        go_wp2
        go_ret
        rw [Hp.out]
        exact RetTree.of hb2' hp2 hb3
      · have h2' : klt k' k = false := by simpa using h2
        obtain rfl := klt_tri h1' h2'
        have hlt : Op.bytesLess k.toList k.toList = false := h1'
        have hne : (k.toList == k.toList) = true := by rw [keq_iff]
        cases r with
        | nil =>
          cases hr
          have Hp : Hid (PT.drop k (.node k x' l .nil) = l) := by unfold Hid; rw [PT.drop.eq_def]; simp only []; rw [if_neg h1, if_neg h2]
          clear h1 h1' h2 h2' hg
          go_enter Tryz.func109, Tryz.ntmps109
          go_wp2
          go_ret
          rw [Hp.out]
          exact ⟨lp, rfl, Hl.out, Below.refl _ _⟩
        | node rk rx rl rr =>
          obtain ⟨br, rlp, rrp, rfl, hbr, _, _, _, _, _, _, _, _⟩ := hr.open
          clear hr
          have hfs := PT.first_size (t := .node rk rx rl rr) (by simp)
          have Hp : Hid (PT.drop k (.node k x' l (.node rk rx rl rr)) = PT.join (PT.node rk rx rl rr).first.1.1 (PT.node rk rx rl rr).first.1.2 l (PT.node rk rx rl rr).first.2) := by unfold Hid; rw [PT.drop.eq_def]; simp only []; rw [if_neg h1, if_neg h2]
          clear h1 h1' h2 h2' hg
          go_enter Tryz.func109, Tryz.ntmps109
          go_wp2_with fail
          refine (first_any _ _ _ Hr.out (by simp) (by omega)).mono ?_
          rintro e w1 ⟨q, rfl, hq, hb1⟩
          have hc1 := bcell hb1
          generalize hA : (PT.node rk rx rl rr).first = A at *
          have HA := Lib.hid hA
          clear hA
          go_wp2_with fail
          refine gen_world (fun w2 => Below w1.heap.size w1 w2 ∧ w1.heap.size < w2.heap.size ∧ w2.cell? ⟨w1.heap.size, 0, none⟩ = some (.string A.1.1) ∧ w2.cell? ⟨w1.heap.size, 1, none⟩ = some (.string A.1.2))
            ⟨(Below.refl _ _).alloc (Nat.le_refl _) _, by simp, by simp, by simp⟩ ?_
          rintro w2 ⟨hb2, hn2, g0, g1⟩
          have hw1 := hb1.size
          have hbw1 : b < w1.heap.size := by omega
          have hbw2 : b < w2.heap.size := by omega
          have hc2 := bcell hb2
          have hb02 := hb1.trans (hb2.mono hb1.size)
          have hS0 : Below w2.heap.size w2 w2.drew := (Below.refl _ _).drew
          refine Go.XR.region_sched ((Below w2.heap.size w2)) [(0, true), (1, true), (2, true), (3, true), (4, true), (5, true), (6, false), (7, false)] [6, 7] Tryz.mixed (by kernel_rfl) (by kernel_rfl) (by kernel_rfl) ?_
          simp only [List.map_cons, List.map_nil, List.getElem?_cons_succ, List.getElem?_cons_zero]
          repeat (first | (refine Go.XR.S_light rfl rfl (by assumption) ?_ (fun w' hS K hK => ?_) (fun K hK => ?_); rotate_left 1; (have hS1 := bcell hS; go_step; exact hK); go_step; refine hK _ ?_; clear hK K))
          refine Go.XR.S_heavy (fun K hK => ?_)
          go_step
          ((with_reducible refine (join_any _ A.1.1 A.1.2 _ _ l A.2 (Hl.out.below hb02.drew) (hq.below hb2.drew) (by omega)).mono ?_); rintro e w' ⟨p2, rfl, hp2, hb3⟩)
          have hb3' := hS0.trans hb3
          refine hK _ _ ⟨fun _ => hb3', ?_⟩
          clear hK K
          repeat (first | (refine Go.XR.S_light rfl rfl (by assumption) ?_ (fun w' hS K hK => ?_) (fun K hK => ?_); rotate_left 1; (have hS1 := bcell hS; go_step; exact hK); go_step; refine hK _ ?_; clear hK K))
          repeat (first | (refine Go.XR.S_heavy (fun K hK => ?_); go_step; refine hK _ _ ⟨fun h => by simp at h, ?_⟩; clear hK K))
          refine Go.XR.S_nil ?_
          go_wp2
          go_ret
          rw [Hp.out]
          exact ⟨p2, rfl, hp2, hb02.trans (hb3'.mono hb02.size)⟩

set_option maxHeartbeats 1000000 in
set_option maxRecDepth 100000 in
theorem get_any (k : ByteArray) (t : PT) (w : World) (p : Option Addr) (hp : Rep w p t) :
    Calls Tryz.prog 49 #[.pointer p, .string k] w fun e w' => e = .returned (.tuple #[.string ((PT.get k t).getD ⟨#[]⟩), .bool (PT.get k t).isSome]) ∧ w = w' := by
  have Hp := Lib.hid hp
  clear hp
  go_enter Tryz.func49, Tryz.ntmps49
  go_wp2
  go_loopg [0] t.size (fun n v wr => wr = w ∧ ∃ (p' : Option Addr) (t' : PT), v = .pointer p' ∧ Hid (Rep w p' t') ∧ Hid (PT.get k t' = PT.get k t) ∧ t'.size ≤ n)
  case atStart => exact ⟨rfl, p, t, rfl, Hp, rfl, Nat.le_refl _⟩
  case round =>
    obtain ⟨rfl, p', t', rfl, hr, hg, hn⟩ := hrel
    cases t' with
    | nil =>
      cases hr.out
      clear hr
      go_wp2
      go_ret2
      exact ⟨by rw [← hg.out]; rfl, rfl⟩
    | node k' x' l r =>
      obtain ⟨b, lp, rp, rfl, hb, d0, d1, d2, d3, d4, d5, hl, hr'⟩ := hr.out.open
      have Hl := Lib.hid hl
      have Hr := Lib.hid hr'
      clear hr hl hr'
      have hsz : l.size < gk ∧ r.size < gk := by simp only [PT.size] at hn; omega
      obtain ⟨hsl, hsr⟩ := hsz
      clear hn
      by_cases h0 : k = k'
      · subst h0
        have hne : (k.toList == k.toList) = true := by rw [keq_iff]
        have hne' : (k.toList != k.toList) = false := by simp
        have Hg : Hid (PT.get k t = some x') := by unfold Hid; rw [← hg.out, PT.get, if_pos rfl]
        clear hg
        go_wp2
        go_ret2
        exact ⟨by rw [Hg.out]; rfl, rfl⟩
      · have hne : (k'.toList == k.toList) = false := by rw [Bool.eq_false_iff]; intro h; rw [keq_iff] at h; exact h0 h.symm
        have hne' : (k'.toList != k.toList) = true := by rw [bne, hne]; rfl
        by_cases h1 : klt k k' = true
        · have hlt : Op.bytesLess k.toList k'.toList = true := h1
          have Hg : Hid (PT.get k l = PT.get k t) := by unfold Hid; rw [← hg.out, PT.get, if_neg h0, if_pos h1]
          clear hg h1 h0
          go_wp2
          go_roundg l.size
          case measure => exact hsl
          case rel => exact ⟨rfl, lp, l, rfl, Hl, Hg, Nat.le_refl _⟩
        · have hlt : Op.bytesLess k.toList k'.toList = false := by simpa [klt] using h1
          have Hg : Hid (PT.get k r = PT.get k t) := by unfold Hid; rw [← hg.out, PT.get, if_neg h0, if_neg h1]
          clear hg h1 h0
          go_wp2
          go_roundg r.size
          case measure => exact hsr
          case rel => exact ⟨rfl, rp, r, rfl, Hr, Hg, Nat.le_refl _⟩

def RetDrop (w : World) (k : ByteArray) (t : PT) (e : Ending) (w' : World) : Prop := ∃ p, e = .returned (.tuple #[.pointer p, .bool (PT.get k t).isSome]) ∧ Rep w' p (PT.Drop k t) ∧ Below w.heap.size w w'

set_option maxHeartbeats 1000000 in
set_option maxRecDepth 100000 in
theorem Drop_any (k : ByteArray) (t : PT) (w : World) (p : Option Addr) (hp : Rep w p t) (hs : t.size < 2^59) :
    Calls Tryz.prog 55 #[.pointer p, .string k] w (RetDrop w k t) := by
  have Hp := Lib.hid hp
  clear hp
  cases hg : (PT.get k t).isSome with
  | false =>
    have Hg := Lib.hid hg
    clear hg
    go_enter Tryz.func55, Tryz.ntmps55
    go_wp2_with fail
    refine (get_any k t _ p Hp.out).mono ?_
    rintro e w1 ⟨rfl, rfl⟩
    rw [Hg.out]
    go_wp2
    go_ret2
    exact ⟨p, by rw [Hg.out]; rfl, by unfold PT.Drop; rw [Hg.out]; exact Hp.out, Below.refl _ _⟩
  | true =>
    have Hg := Lib.hid hg
    clear hg
    go_enter Tryz.func55, Tryz.ntmps55
    go_wp2_with fail
    refine (get_any k t _ p Hp.out).mono ?_
    rintro e w1 ⟨rfl, rfl⟩
    rw [Hg.out]
    go_wp2_with fail
    refine (drop_any k t _ p Hp.out Hg.out hs).mono ?_
    rintro e w1 ⟨q, rfl, hq, hb⟩
    go_wp2
    go_ret2
    exact ⟨q, by rw [Hg.out]; rfl, by unfold PT.Drop; rw [Hg.out]; exact hq, hb⟩
end Go.Proofs.YtoahjhogjjdkhaaGreatDoor

/- The walks over tree.From and its walk: pairs are told in order till there are enough. -/
namespace Go.Proofs.YtoahjhogjjdkhaaGreatDoor
open Go.RowKit Go.TreePure

/-- pairs as cells -/
def cellsOf (l : List (ByteArray × ByteArray)) : List Value := l.flatMap fun p => [.string p.1, .string p.2]

theorem Tryz.info98 : (Tryz.prog.info? 98).map (fun i => (i.zero, i.size, i.bytes)) = some (some (.agg #[.string ⟨#[]⟩, .string ⟨#[]⟩]), 2, 32) := by kernel_rfl
theorem Tryz.slice99 : Tryz.prog.underlying 99 = some (.slice 98) := by kernel_rfl

theorem cellsOf_length : ∀ l : List (ByteArray × ByteArray), (cellsOf l).length = l.length * 2
  | [] => rfl
  | p :: l => by
    show ([.string p.1, .string p.2] ++ cellsOf l : List Value).length = _
    rw [List.length_append, cellsOf_length l, List.length_cons]; simp; omega

theorem cellsOf_append (l m : List (ByteArray × ByteArray)) : cellsOf (l ++ m) = cellsOf l ++ cellsOf m := by simp [cellsOf]

/-- what From's closure holds: the pairs so far in block bo, how many are wanted in block bn -/
structure FromSt (B bo bn : Nat) (n : Int) (w : World) (acc : List (ByteArray × ByteArray)) : Prop where
  bo_ge : B ≤ bo
  bn_ge : B ≤ bn
  ne : bo ≠ bn
  wanted : w.heap[bn]? = some (.cells #[.int .i64 n] 3 (0, 0))
  held : ∃ a c, w.heap[bo]? = some (.cells #[.slice a acc.length c] 99 (0, 0)) ∧ w.ownsRow (max bo bn + 1) 98 2 (.slice a acc.length c) acc.length (cellsOf acc)

/-- a block that is not the written row -/
theorem grown_old {w w' : World} {o : Obj} {row : Option Nat} {m : Nat} (hg : (w.alloc o).drew.grownBy w' row) (hrow : ∀ k, row = some k → m < k) {j : Nat} (hj : j < w.heap.size) (hm : j ≤ m) : w'.heap[j]? = w.heap[j]? := by
  rw [hg.block j (by show j < (w.alloc o).heap.size; rw [size_alloc]; omega) (fun e => by have := hrow j e.symm; omega)]
  exact Below.heap_alloc w o j hj

def RetOne (B bo bn : Nat) (n : Int) (w : World) (acc : List (ByteArray × ByteArray)) (e : Ending) (w' : World) : Prop :=
  e = .returned (.bool (decide ((acc.length : Int) < n))) ∧ Below B w w' ∧ FromSt B bo bn n w' acc

set_option maxHeartbeats 1000000 in
set_option maxRecDepth 100000 in
theorem told_any (B bo bn : Nat) (n : Int) (w : World) (acc : List (ByteArray × ByteArray)) (p : Option Addr) (k x : ByteArray) (l r : PT)
    (hp : Rep w p (.node k x l r)) (hpB : ∀ b, p = some ⟨b, 0, none⟩ → b < B) (st : FromSt B bo bn n w acc) (hn : acc.length < 2^40) :
    Calls Tryz.prog 150 #[.pointer p, .pointer (some ⟨bo, 0, none⟩), .pointer (some ⟨bn, 0, none⟩)] w (RetOne B bo bn n w (acc ++ [(k, x)])) := by
  obtain ⟨b, lp, rp, rfl, hb, d0, d1, d2, d3, d4, d5, hl, hr⟩ := hp.open
  have hbB := hpB b rfl
  clear hpB hp hl hr d2 d3 d4 d5
  obtain ⟨g1, g2, g3, g4, so, sc, g5, g6⟩ := st
  have hbo := blk_lt g5
  have hbn := blk_lt g4
  have e0 := cells_of g5 0
  have e1 := cells_of g4 0
  simp at e0 e1
  have G4 := Lib.hid g4
  have G5 := Lib.hid g5
  have G6 := Lib.hid g6
  have hfo : w.frozen? ⟨bo, 0, none⟩ = false := by simp [World.frozen?, g5]
  clear g4 g5 g6
  obtain ⟨i0, hi, hz0, hz1, hz2⟩ := info_parts Tryz.info98
  have Hi := Lib.hid hi
  have Hz := Lib.hid (And.intro hz0 (And.intro hz1 hz2))
  clear hi hz0 hz1 hz2
  have hne1 : b ≠ bo := by omega
  go_enter Tryz.func150, Tryz.ntmps150
  go_wp2_with fail
  have hS0 : Below w.heap.size w w.drew := (Below.refl _ _).drew
  refine Go.XR.region_sched ((Below w.heap.size w)) [(0, true), (1, true), (2, true), (3, true), (4, true), (5, false), (6, false), (7, false)] [6, 7] Tryz.mixed (by kernel_rfl) (by kernel_rfl) (by kernel_rfl) ?_
  simp only [List.map_cons, List.map_nil, List.getElem?_cons_succ, List.getElem?_cons_zero]
  repeat (first | (refine Go.XR.S_light rfl rfl (by assumption) ?_ (fun w' hS K hK => ?_) (fun K hK => ?_); rotate_left 1; (have hS1 := bcell hS; go_step; exact hK); go_step; refine hK _ ?_; clear hK K))
  refine Go.XR.S_heavy (fun K hK => ?_)
  go_step
  refine hK _ _ ⟨fun _ => ((Below.refl _ _).alloc (Nat.le_refl _) _).drew, ?_⟩
  clear hK K
  refine Go.XR.S_heavy (fun K hK => ?_)
  refine Go.XR.wp_append (max bo bn + 1) 98 i0 (.agg #[.string ⟨#[]⟩, .string ⟨#[]⟩]) 2 32 Tryz.slice99 Hi.out Hz.out.1 Hz.out.2.1 Hz.out.2.2 rfl (by decide) so acc.length sc (cellsOf acc) rfl ?_ ⟨w.heap.size, 0, none⟩ 1 1 [.string k, .string x] rfl rfl ?_ ?_ ?_ ?_ ?_ ?_
  · exact G6.out.alloc _
  · intro j u hj
    match j, hj with
    | 0, hj => simpa [Addr.add] using hj
    | 1, hj => simpa [Addr.add] using hj
    | j + 2, hj => simp at hj
  · intro u hu
    simp at hu
    rcases hu with rfl | rfl <;> rfl
  · unfold maxLen; omega
  · omega
  · show _ ≤ (w.alloc _).heap.size
    rw [size_alloc]; omega
  intro a' c' w' ho hg
  go_step
  refine hK _ _ ⟨fun h => by simp at h, ?_⟩
  clear hK K
  have hrow := fun k hk => Nat.lt_of_succ_le (G6.out.lt k hk).1
  have q5 : w'.heap[bo]? = _ := (grown_old hg hrow hbo (by omega)).trans G5.out
  have q4 : w'.heap[bn]? = _ := (grown_old hg hrow hbn (by omega)).trans G4.out
  have Hbl : Hid (Below B w w') := by
    have hw := ((Below.refl B w).alloc (by omega) (.cells #[.string k, .string x] 98)).drew
    exact hw.grown hg (by show B ≤ (w.alloc _).heap.size; rw [size_alloc]; omega) (fun k hk => by have := hrow k hk; omega)
  have k0 := cells_of q5 0
  have k1 := cells_of q4 0
  simp at k0 k1
  have hfo' : w'.frozen? ⟨bo, 0, none⟩ = false := by simp [World.frozen?, q5]
  have r5 := heap_setCell_at (i := 0) (u := .slice a' (acc.length + 1) c') q5
  have r4 : (w'.setCell ⟨bo, 0, none⟩ (.slice a' (acc.length + 1) c')).heap[bn]? = _ := (Below.heap_setCell _ _ _ _ (by show bn ≠ bo; omega)).trans q4
  have l0 := cells_of r5 0
  have l1 := cells_of r4 0
  simp at l0 l1
  have Ho := Lib.hid ho
  have Q4 := Lib.hid r4
  have Q5 := Lib.hid r5
  clear ho q4 q5 hg r4 r5 hrow
  repeat (first | (refine Go.XR.S_heavy (fun K hK => ?_); go_step; refine hK _ _ ⟨fun h => by simp at h, ?_⟩; clear hK K))
  refine Go.XR.S_nil ?_
  go_wp2
  go_ret
  have el : (acc ++ [(k, x)]).length = acc.length + 1 := by simp
  refine ⟨?_, Hbl.out.setCell (p := ⟨bo, 0, none⟩) g1 _, g1, g2, g3, Q4.out, a', c', ?_, ?_⟩
  · rw [el]; rfl
  · rw [el]; exact Q5.out
  · rw [el, cellsOf_append]
    exact Go.XR.ownsRow_setCell Ho.out (by show bo < _; omega) _

theorem ret_bool {a b : Bool} (h : a = b) : Ending.returned (.bool a) = .returned (.bool b) := by rw [h]

def cut (n : Int) (acc L : List (ByteArray × ByteArray)) : List (ByteArray × ByteArray) := acc ++ L.take (n.toNat - acc.length)

theorem cut_more (n : Int) (acc A B : List (ByteArray × ByteArray)) (p : ByteArray × ByteArray) (h : (acc.length : Int) + A.length + 1 ≤ n) : cut n acc (A ++ p :: B) = cut n (acc ++ A ++ [p]) B := by
  unfold cut
  obtain ⟨m, rfl⟩ : ∃ m : Nat, n = m := ⟨n.toNat, by omega⟩
  simp only [Int.toNat_natCast, List.length_append, List.length_cons, List.length_nil]
  rw [List.take_append, List.take_of_length_le (by omega), show m - acc.length - A.length = (m - (acc.length + A.length + 1)) + 1 from by omega, List.take_succ_cons]
  simp

theorem cut_stop (n : Int) (acc A B : List (ByteArray × ByteArray)) (p : ByteArray × ByteArray) (h : (acc.length : Int) + A.length < n) (h' : ¬ (acc.length : Int) + A.length + 1 < n) : cut n acc (A ++ p :: B) = acc ++ A ++ [p] := by
  rw [cut_more n acc A B p (by omega)]
  unfold cut
  rw [show n.toNat - (acc ++ A ++ [p]).length = 0 from by simp; omega]
  simp

def RetWalk (B bo bn : Nat) (n : Int) (w : World) (acc L : List (ByteArray × ByteArray)) (e : Ending) (w' : World) : Prop :=
  e = .returned (.bool (decide ((acc.length : Int) + L.length < n))) ∧ Below B w w' ∧ FromSt B bo bn n w' (cut n acc L)

set_option maxHeartbeats 2000000 in
set_option maxRecDepth 100000 in
theorem walk_any (w0 : World) (bo bn : Nat) (n : Int) (key : ByteArray) : ∀ (t : PT) (w : World) (p : Option Addr) (acc : List (ByteArray × ByteArray)),
    Rep w0 p t → Below w0.heap.size w0 w → FromSt w0.heap.size bo bn n w acc → (acc.length : Int) < n → acc.length + t.size < 2^40 →
    Calls Tryz.prog 149 #[.pointer p, .string key, (.func (.func 150) #[] #[.pointer (some ⟨bo, 0, none⟩), .pointer (some ⟨bn, 0, none⟩)])] w (RetWalk w0.heap.size bo bn n w acc (PT.fromL key t)) := by
  intro t
  induction t with
  | nil =>
    intro w p acc hp _ st hn _
    cases hp
    have St := Lib.hid st
    have hn' : decide ((acc.length : Int) < n) = true := by simpa using hn
    clear st
    go_enter Tryz.func149, Tryz.ntmps149
    go_wp2
    go_ret
    refine ⟨?_, Below.refl _ _, ?_⟩
    · exact ret_bool (a := true) (by simp only [PT.fromL, List.length_nil]; exact (decide_eq_true (by omega)).symm)
    · simp only [PT.fromL, cut, List.take_nil, List.append_nil]; exact St.out
  | node k x l r ihl ihr =>
    intro w p acc hp hbw st hn hs
    have Ihl := Lib.hid ihl
    have Ihr := Lib.hid ihr
    clear ihl ihr
    obtain ⟨b, lp, rp, rfl, hb, d0, d1, d2, d3, d4, d5, hl, hr⟩ := (hp.below hbw).open
    have hb0 : b < w0.heap.size := by
      obtain ⟨b', _, _, he, h1, _⟩ := hp
      cases he
      exact blk_lt h1
    have Hp := Lib.hid hp
    have hpo : ∃ lp' rp', Rep w0 lp' l ∧ Rep w0 rp' r ∧ lp' = lp ∧ rp' = rp := by
      obtain ⟨b', lp', rp', he, h1, h2, h3⟩ := hp
      cases he
      have e2 := cells_of h1 2
      have e3 := cells_of h1 3
      rw [hbw.cell (p := ⟨b, 2, none⟩) hb0] at d2
      rw [hbw.cell (p := ⟨b, 3, none⟩) hb0] at d3
      rw [e2] at d2
      rw [e3] at d3
      simp at d2 d3
      exact ⟨lp', rp', h2, h3, d2, d3⟩
    obtain ⟨_, _, hl0, hr0, rfl, rfl⟩ := hpo
    have Hl := Lib.hid hl0
    have Hr := Lib.hid hr0
    have St := Lib.hid st
    have hsz : (PT.node k x l r).size = l.size + r.size + 1 := rfl
    have hs' : acc.length + l.size + r.size + 1 < 2^40 := by omega
    clear hp hl hr hl0 hr0 st hs hsz d4 d5
    by_cases h1 : klt key k = true
    · have hlt : Op.bytesLess key.toList k.toList = true := h1
      have Hf : Hid (PT.fromL key (.node k x l r) = PT.fromL key l ++ (k, x) :: PT.fromL key r) := by
        unfold Hid; rw [PT.fromL, if_pos h1, if_neg (by rw [klt_asymm h1]; simp)]; rfl
      have hll := PT.fromL_le key l
      clear h1
      by_cases g1 : (acc.length : Int) + (PT.fromL key l).length < n
      · have hg1 : decide ((acc.length : Int) + (PT.fromL key l).length < n) = true := decide_eq_true g1
        have e1 : cut n acc (PT.fromL key l) = acc ++ PT.fromL key l := by unfold cut; rw [List.take_of_length_le (by omega)]
        have E1 := Lib.hid e1
        clear e1
        go_enter Tryz.func149, Tryz.ntmps149
        go_wp2_with fail
        refine (Ihl.out _ _ acc Hl.out hbw St.out hn (by omega)).mono ?_
        rintro e w1 ⟨rfl, hb1, st1⟩
        rw [E1.out] at st1
        have St1 := Lib.hid st1
        clear st1
        have hbw1 := hbw.trans hb1
        have hc1 := fun o => hb1.cell (p := ⟨b, o, none⟩) hb0
        go_wp2_with fail
        refine (told_any w0.heap.size bo bn n _ (acc ++ PT.fromL key l) _ k x l r (Hp.out.below hbw1) (fun b' e => by cases e; exact hb0) St1.out (by simp; omega)).mono ?_
        rintro e w2 ⟨rfl, hb2, st2⟩
        have St2 := Lib.hid st2
        clear st2
        have hbw2 := hbw1.trans hb2
        have hc2 := fun o => hb2.cell (p := ⟨b, o, none⟩) hb0
        have elen : (acc ++ PT.fromL key l ++ [(k, x)]).length = acc.length + (PT.fromL key l).length + 1 := by simp only [List.length_append, List.length_cons, List.length_nil]; try omega
        by_cases g2 : (acc.length : Int) + (PT.fromL key l).length + 1 < n
        · have hg2 : decide (((acc ++ PT.fromL key l ++ [(k, x)]).length : Int) < n) = true := by rw [elen]; exact decide_eq_true (by push_cast; omega)
          rw [hg2]
          have Elen := Lib.hid elen
          clear elen hg2
          go_wp2_with fail
          refine (Ihr.out _ _ (acc ++ PT.fromL key l ++ [(k, x)]) Hr.out hbw2 St2.out (by rw [Elen.out]; push_cast; omega) (by rw [Elen.out]; omega)).mono ?_
          rintro e w3 ⟨rfl, hb3, st3⟩
          have St3 := Lib.hid st3
          clear st3
          go_wp2
          go_ret
          rw [Hf.out]
          refine ⟨?_, hb1.trans (hb2.trans hb3), ?_⟩
          · refine ret_bool (a := decide _) ?_
            have := Elen.out
            simp only [List.length_append, List.length_cons, List.length_nil] at this ⊢
            exact decide_eq_decide.2 (by push_cast; omega)
          · have e3 : cut n acc (PT.fromL key l ++ (k, x) :: PT.fromL key r) = cut n (acc ++ PT.fromL key l ++ [(k, x)]) (PT.fromL key r) := cut_more n acc _ _ _ (by omega)
            rw [e3]; exact St3.out
        · have hg2 : decide (((acc ++ PT.fromL key l ++ [(k, x)]).length : Int) < n) = false := by rw [elen]; exact decide_eq_false (by push_cast; omega)
          rw [hg2]
          clear hg2
          go_wp2
          go_ret
          rw [Hf.out]
          refine ⟨?_, hb1.trans hb2, ?_⟩
          · refine ret_bool (a := false) ?_
            simp only [List.length_append, List.length_cons]
            exact (decide_eq_false (by push_cast; omega)).symm
          · rw [cut_stop n acc _ _ _ (by omega) (by omega)]; exact St2.out
      · have hg1 : decide ((acc.length : Int) + (PT.fromL key l).length < n) = false := decide_eq_false g1
        go_enter Tryz.func149, Tryz.ntmps149
        go_wp2_with fail
        refine (Ihl.out _ _ acc Hl.out hbw St.out hn (by omega)).mono ?_
        rintro e w1 ⟨rfl, hb1, st1⟩
        have St1 := Lib.hid st1
        clear st1
        rw [hg1]
        go_wp2
        go_ret
        rw [Hf.out]
        refine ⟨?_, hb1, ?_⟩
        · refine ret_bool (a := false) ?_
          simp only [List.length_append, List.length_cons]
          exact (decide_eq_false (by push_cast; omega)).symm
        · have e3 : cut n acc (PT.fromL key l ++ (k, x) :: PT.fromL key r) = cut n acc (PT.fromL key l) := by
            unfold cut; rw [List.take_append_of_le_length (by omega)]
          rw [e3]; exact St1.out
    · have h1' : klt key k = false := by simpa using h1
      have hlt : Op.bytesLess key.toList k.toList = false := h1'
      have hlr := PT.fromL_le key r
      by_cases h2 : klt k key = true
      · have hne : (key.toList == k.toList) = false := by
          rw [Bool.eq_false_iff]; intro h; rw [keq_iff] at h; exact klt_ne h2 h.symm
        have Hf : Hid (PT.fromL key (.node k x l r) = PT.fromL key r) := by
          unfold Hid; rw [PT.fromL, if_neg h1, if_pos h2]; rfl
        clear h1 h1' h2
        go_enter Tryz.func149, Tryz.ntmps149
        go_wp2_with fail
        refine (Ihr.out _ _ acc Hr.out hbw St.out hn (by omega)).mono ?_
        rintro e w3 ⟨rfl, hb3, st3⟩
        have St3 := Lib.hid st3
        clear st3
        go_wp2
        go_ret
        rw [Hf.out]
        exact ⟨rfl, hb3, St3.out⟩
      · have hne : (key.toList == k.toList) = true := by rw [keq_iff]; exact klt_tri h1' (by simpa using h2)
        have Hf : Hid (PT.fromL key (.node k x l r) = [] ++ (k, x) :: PT.fromL key r) := by
          unfold Hid; rw [PT.fromL, if_neg h1, if_neg h2]; rfl
        clear h1 h1' h2
        have hbw1 := hbw
        have St1 : Hid (FromSt w0.heap.size bo bn n w (acc ++ [])) := by rw [List.append_nil]; exact St
        have hb1 : Below w0.heap.size w w := Below.refl _ _
        have g1 := hn
        have hnil : ([] : List (ByteArray × ByteArray)).length = 0 := rfl
        go_enter Tryz.func149, Tryz.ntmps149
        go_wp2_with fail
        refine (told_any w0.heap.size bo bn n _ (acc ++ []) _ k x l r (Hp.out.below hbw1) (fun b' e => by cases e; exact hb0) St1.out (by simp; omega)).mono ?_
        rintro e w2 ⟨rfl, hb2, st2⟩
        have St2 := Lib.hid st2
        clear st2
        have hbw2 := hbw1.trans hb2
        have hc2 := fun o => hb2.cell (p := ⟨b, o, none⟩) hb0
        have elen : (acc ++ [] ++ [(k, x)]).length = acc.length + ([] : List (ByteArray × ByteArray)).length + 1 := by simp only [List.length_append, List.length_cons, List.length_nil]; try omega
        by_cases g2 : (acc.length : Int) + ([] : List (ByteArray × ByteArray)).length + 1 < n
        · have hg2 : decide (((acc ++ [] ++ [(k, x)]).length : Int) < n) = true := by rw [elen]; exact decide_eq_true (by push_cast; omega)
          rw [hg2]
          have Elen := Lib.hid elen
          clear elen hg2
          go_wp2_with fail
          refine (Ihr.out _ _ (acc ++ [] ++ [(k, x)]) Hr.out hbw2 St2.out (by rw [Elen.out]; push_cast; omega) (by rw [Elen.out]; omega)).mono ?_
          rintro e w3 ⟨rfl, hb3, st3⟩
          have St3 := Lib.hid st3
          clear st3
          go_wp2
          go_ret
          rw [Hf.out]
          refine ⟨?_, hb1.trans (hb2.trans hb3), ?_⟩
          · refine ret_bool (a := decide _) ?_
            have := Elen.out
            simp only [List.length_append, List.length_cons, List.length_nil] at this ⊢
            exact decide_eq_decide.2 (by push_cast; omega)
          · have e3 : cut n acc ([] ++ (k, x) :: PT.fromL key r) = cut n (acc ++ [] ++ [(k, x)]) (PT.fromL key r) := cut_more n acc _ _ _ (by omega)
            rw [e3]; exact St3.out
        · have hg2 : decide (((acc ++ [] ++ [(k, x)]).length : Int) < n) = false := by rw [elen]; exact decide_eq_false (by push_cast; omega)
          rw [hg2]
          clear hg2
          go_wp2
          go_ret
          rw [Hf.out]
          refine ⟨?_, hb1.trans hb2, ?_⟩
          · refine ret_bool (a := false) ?_
            simp only [List.length_append, List.length_cons]
            exact (decide_eq_false (by push_cast; omega)).symm
          · rw [cut_stop n acc _ _ _ (by omega) (by omega)]; exact St2.out

/-- what From hands back: a slice in new memory, or nil -/
def RetFrom (w : World) (L : List (ByteArray × ByteArray)) (e : Ending) (w' : World) : Prop :=
  ∃ a c, e = .returned (.slice a L.length c) ∧ Below w.heap.size w w' ∧ w'.ownsRow w.heap.size 98 2 (.slice a L.length c) L.length (cellsOf L)

theorem ownsRow_base {w : World} {base base' : Nat} {e : TypeId} {size : Nat} {v : Value} {n : Nat} {xs : List Value} (h : w.ownsRow base e size v n xs) (hb : base' ≤ base) : w.ownsRow base' e size v n xs := by
  obtain ⟨h1, h2⟩ := h
  refine ⟨h1, ?_⟩
  rcases h2 with h2 | ⟨g, cap, cur, h3, h4, h5⟩
  · exact .inl h2
  · exact .inr ⟨g, cap, cur, h3, Nat.le_trans hb h4, h5⟩

set_option maxHeartbeats 1000000 in
set_option maxRecDepth 100000 in
theorem from_any (key : ByteArray) (n : Int) (t : PT) (w : World) (p : Option Addr) (hp : Rep w p t) (hs : t.size < 2^39) :
    Calls Tryz.prog 107 #[.pointer p, .string key, .int .i64 n] w (RetFrom w ((PT.fromL key t).take n.toNat)) := by
  have Hp := Lib.hid hp
  clear hp
  by_cases hn : n ≤ 0
  · have hd : decide (n ≤ 0) = true := decide_eq_true hn
    have hz : Hid (n.toNat = 0) := by unfold Hid; omega
    clear hn
    go_enter Tryz.func107, Tryz.ntmps107
    go_wp2
    go_ret
    rw [hz.out, List.take_zero]
    exact ⟨none, 0, rfl, ((Below.refl _ _).alloc (Nat.le_refl _) _).alloc (by simp) _, World.ownsRow_nil _ _ _ _⟩
  · have hd : decide (n ≤ 0) = false := decide_eq_false hn
    have hn' : 0 < n := by omega
    have Hn := Lib.hid hn'
    clear hn hn'
    go_enter Tryz.func107, Tryz.ntmps107
    go_wp2_with fail
    refine (walk_any w (w.heap.size + 1) w.heap.size n key t _ p [] Hp.out (((Below.refl _ _).alloc (Nat.le_refl _) _).alloc (by simp) _) ?_ (by have := Hn.out; simpa using this) (by simp; omega)).mono ?_
    · refine ⟨by omega, by omega, by omega, ?_, none, 0, heap_new2 _ _ _, World.ownsRow_nil _ _ _ _⟩
      rw [Below.heap_alloc _ _ _ (by rw [size_alloc]; omega)]
      exact heap_new _ _
    rintro e w1 ⟨rfl, hb1, g1, g2, g3, g4, so, sc, g5, g6⟩
    have e0 := cells_of g5 0
    simp at e0
    have G6 := Lib.hid g6
    have Hb := Lib.hid hb1
    clear g1 g2 g3 g4 g5 g6 hb1
    have ecut : cut n [] (PT.fromL key t) = (PT.fromL key t).take n.toNat := by unfold cut; simp
    rw [ecut] at e0
    have Ec := Lib.hid ecut
    clear ecut
    go_wp2
    go_ret
    refine ⟨so, sc, by rw [List.length_take]; rfl, (((Below.refl _ _).alloc (Nat.le_refl _) _).alloc (by simp) _).trans Hb.out, ?_⟩
    have := G6.out
    rw [Ec.out] at this
    exact ownsRow_base this (by omega)
end Go.Proofs.YtoahjhogjjdkhaaGreatDoor

/- The walk over names.within: told is asked of what stands within, in order, till it refuses. -/
namespace Go.NamesPure
open Go Go.TreePure
/-- what is told: all, or up to the first one that is refused -/
def toldL (go : List Pr → Pr → Bool) : List Pr → List Pr → List Pr
  | acc, [] => acc
  | acc, x :: xs => if go acc x = true then toldL go (acc ++ [x]) xs else acc ++ [x]
theorem toldL_all {go : List Pr → Pr → Bool} (h : ∀ a x, go a x = true) : ∀ (l acc : List Pr), toldL go acc l = acc ++ l
  | [], acc => by rw [toldL, List.append_nil]
  | x :: l, acc => by rw [toldL, if_pos (h _ _), toldL_all h l, List.append_assoc]; rfl
def trim (p : ByteArray) : ByteArray := ⟨(Lib.trimSuffix p.data.toList [47]).toArray⟩
/-- what stands ahead in all that is within -/
def front (p : ByteArray) : ByteArray := trim p ++ ⟨#[47]⟩
end Go.NamesPure
namespace Go.Proofs.YtoahjhogjjdkhaaGreatDoor
open Go.RowKit Go.XR Go.TreePure Go.NamesPure
def Gro (w : World) (F F' : List Nat) : Prop := ∀ b ∈ F', b ∈ F ∨ w.heap.size ≤ b
theorem Gro.refl (w : World) (F : List Nat) : Gro w F F := fun _ h => .inl h
theorem Gro.trans {w w' : World} {F F' F'' : List Nat} (h : Gro w F F') (h' : Gro w' F' F'') (hs : w.heap.size ≤ w'.heap.size) : Gro w F F'' := fun b hb => by
  rcases h' b hb with h1 | h1
  · exact h b h1
  · exact .inr (Nat.le_trans hs h1)
theorem But.gro {w w' w'' : World} {F F' : List Nat} (h : But F w w') (h' : But F' w' w'') (hg : Gro w F F') : But F w w'' :=
  ⟨h'.os.trans h.os, h'.tape.trans h.tape, h'.output.trans h.output, Nat.le_trans h.size h'.size, fun i hi hn => (h'.block i (Nat.lt_of_lt_of_le hi h.size) fun hm => by
    rcases hg i hm with h1 | h1
    · exact hn h1
    · omega).trans (h.block i hi hn)⟩
theorem nrow_at {α : Type} {enc : α → List Value} {k : Nat} (hk : ∀ x, (enc x).length = k) {w : World} {a : Option Addr} {l : List α} (h : Row w a (l.flatMap enc)) {i : Nat} (hi : i < l.length) (hk0 : 0 < k) : ∃ g o, a = some ⟨g, o, none⟩ ∧ At w g (o + i * k) (enc l[i]).toArray := by
  rcases h with h | ⟨g, o, he, h⟩
  · have := flat_len hk l
    rw [h] at this
    have h2 : 0 < l.length * k := Nat.mul_pos (by omega) hk0
    rw [List.length_nil] at this
    omega
  · refine ⟨g, o, he, fun j u hj => ?_⟩
    have hjk : j < k := by have := (Array.getElem?_eq_some_iff.1 hj).1; rwa [List.size_toArray, hk] at this
    rw [Nat.add_assoc]
    refine h _ u ?_
    rw [flat_get hk l hi hjk, ← hj, List.getElem?_toArray]
def pairL (p : Pr) : List Value := [.string p.1, .string p.2]
theorem pairL_length (p : Pr) : (pairL p).length = 2 := rfl
/-- a function value that is told pairs: what it does, with K its blocks -/
structure Told (f : Nat) (caps : Array Value) (St : World → List Nat → List Pr → Prop) (go : List Pr → Pr → Bool) (w0 : World) (P : Pr → Prop) : Prop where
  below : ∀ w w' K acc, St w K acc → Below w.heap.size w w' → St w' K acc
  lt : ∀ w K acc, St w K acc → ∀ b ∈ K, b < w.heap.size
  base : ∀ w K acc, St w K acc → ∀ b ∈ K, w0.heap.size ≤ b
  call : ∀ w K acc (x : Pr), St w K acc → acc.length < 4096 → P x → Calls Tryz.prog f (#[.agg #[.string x.1, .string x.2]] ++ caps) w fun e w' => e = .returned (.bool (go acc x)) ∧ ∃ K', St w' K' (acc ++ [x]) ∧ But K w w' ∧ Gro w K K'
theorem trim_any (w : World) (p : ByteArray) (hp : p.size ≤ 2^30) : Calls Tryz.prog 90 #[.string p, .string ⟨#[47]⟩] w fun e w' => e = .returned (.string (trim p)) ∧ w' = w :=
  Tryz.strings_TrimSuffix p ⟨#[47]⟩ w (by omega)
theorem pre_any (w : World) (k f : ByteArray) : Calls Tryz.prog 108 #[.string k, .string f] w fun e w' => e = .returned (.bool (pre f k)) ∧ w' = w := by
  refine (Tryz.strings_HasPrefix k f w).mono ?_
  rintro e w' ⟨rfl, rfl⟩
  refine ⟨?_, rfl⟩
  unfold pre Lib.hasPrefix
  rw [ByteArray.toList_eq, ByteArray.toList_eq]
set_option maxHeartbeats 4000000 in
set_option maxRecDepth 100000 in
theorem within_remove (w0 w : World) (tp : Option Addr) (t : PT) (hp : Rep w0 tp t) (hs : t.size ≤ 4096) (hsrt : Srt t.list) (hks : ∀ x ∈ t.list, x.1.size ≤ 2^40) (hb : Below w0.heap.size w0 w) (p : ByteArray) (hps : p.size ≤ 2^30)
    (caps : Array Value) (St : World → List Nat → List Pr → Prop) (go : List Pr → Pr → Bool) (P : Pr → Prop) (hP : ∀ x ∈ t.list, pre (front p) x.1 = true → P x) (hT : Told 96 caps St go w0 P) (K : List Nat) (hSt : St w K []) :
    Calls Tryz.prog 53 #[.pointer tp, .string p, .func (.func 96) #[] caps] w fun e w' => e = .returned (.tuple #[]) ∧ ∃ K', St w' K' (toldL go [] (within t.list (front p))) ∧ But K w w' ∧ Gro w K K' := by
  have Hp := Lib.hid hp
  have Hs := Lib.hid hs
  have Hsrt := Lib.hid hsrt
  have Hks := Lib.hid hks
  have Hb := Lib.hid hb
  have HT := Lib.hid hT
  have HSt := Lib.hid hSt
  have HP := Lib.hid hP
  clear hp hs hsrt hks hb hT hSt hP
  go_enter Tryz.func53, Tryz.ntmps53
  go_wp2_with fail
  refine (trim_any w p hps).mono ?_
  rintro e w1 ⟨rfl, hw1⟩
  rw [hw1]
  clear hw1 w1
  obtain ⟨fr, hfr⟩ : ∃ fr, front p = fr := ⟨_, rfl⟩
  have Hfr := Lib.hid hfr
  have hfr2 : trim p ++ ⟨#[47]⟩ = fr := hfr
  have htz : ¬ (9223372036854775807 < (trim p).size + 1) := by
    have h1 : (trim p).size = (Lib.trimSuffix p.data.toList [47]).length := rfl
    have h2 : (Lib.trimSuffix p.data.toList [47]).length ≤ p.data.toList.length := by
      unfold Lib.trimSuffix
      split
      · exact List.length_take_le' _ _
      · exact Nat.le_refl _
    have h3 : p.size = p.data.toList.length := (Array.length_toList (xs := p.data)).symm
    omega
  clear hfr hps
  go_wp2
  clear hfr2 htz
  go_loopg [7] (fromK t.list fr).length (fun m c wr => ∃ ck, c = .string ck ∧ Hid (m = (fromK t.list ck).length ∧ Below w0.heap.size w0 wr ∧ ∃ acc K' W R, St wr K' acc ∧ But K w wr ∧ Gro w K K' ∧ fromK t.list ck = W ++ R ∧ (∀ x ∈ W, pre fr x.1 = true) ∧ (∀ x ∈ R, pre fr x.1 = false) ∧ toldL go acc W = toldL go [] (within t.list fr) ∧ acc.length + (W ++ R).length ≤ t.size))
  case atStart =>
    obtain ⟨R, h1, h2⟩ := within_head Hsrt.out fr
    refine ⟨fr, rfl, rfl, Hb.out, [], K, within t.list fr, R, HSt.out, But.refl _ _, Gro.refl _ _, h1, fun x hx => (List.mem_filter.1 hx).2, h2, rfl, ?_⟩
    rw [← h1, ← PT.list_length]
    rw [List.length_nil, Nat.zero_add]
    exact List.length_filter_le _ _
  case round =>
    obtain ⟨ck, rfl, hr⟩ := hrel
    have Hm := Lib.hid hr.out.1
    have Hbw := Lib.hid hr.out.2.1
    obtain ⟨acc, K1, W, R, hst, hbut, hgro, hWR, hW, hR, htold, hlen⟩ := hr.out.2.2
    have HSt1 := Lib.hid hst
    have Hbut := Lib.hid hbut
    have Hgro := Lib.hid hgro
    have HWR := Lib.hid hWR
    have HW := Lib.hid hW
    have HR := Lib.hid hR
    have Htold := Lib.hid htold
    have Hlen := Lib.hid hlen
    clear hr hst hbut hgro hWR hW hR htold hlen
    go_wp2_with fail
    refine (from_any ck 64 t wr tp (Hp.out.below Hbw.out) (by have := Hs.out; omega)).mono ?_
    rintro e w2 ⟨a, c, rfl, hb2, how⟩
    have hfl : (PT.fromL ck t).take (64 : Int).toNat = (fromK t.list ck).take 64 := by rw [PT.fromL_list ck t Hsrt.out]; rfl
    rw [hfl] at how ⊢
    obtain ⟨L, hL⟩ : ∃ L, (fromK t.list ck).take 64 = L := ⟨_, rfl⟩
    rw [hL] at how ⊢
    have HL := Lib.hid hL
    have HRow := Lib.hid (Row.owned how)
    have Hak : Hid (∀ g o, a = some ⟨g, o, none⟩ → g ∉ K1) := fun g o ha hm => by
      have h1 := HT.out.lt _ _ _ HSt1.out g hm
      rcases how.2 with h2 | ⟨g', cap, cur, h2, h3, _⟩
      · cases h2.1.symm.trans (by rw [ha])
      · rw [ha] at h2
        injection h2 with h2
        injection h2 with h2
        injection h2 with h2
        omega
    have HSt2 := Lib.hid (HT.out.below _ _ _ _ HSt1.out hb2)
    have Hb2 := Lib.hid (Hbw.out.trans (hb2.mono Hbw.out.size))
    have Hbut2 := Lib.hid (Hbut.out.trans (But.of_below (S := K) hb2))
    have hL64 : L.length ≤ 64 := by rw [← hL]; exact List.length_take_le _ _
    clear hfl hL how hb2
    go_wp2
    obtain ⟨W2, hW2⟩ : ∃ W2, w2 = W2 := ⟨_, rfl⟩
    rw [hW2] at HRow HSt2 Hb2 Hbut2 ⊢
    clear hW2 w2
    clear HSt1 Hbut Hbw wr
    go_loopg [20] L.length (fun m i wr => ∃ j : Nat, j ≤ L.length ∧ i = .int .i64 j ∧ Hid (m = L.length - j ∧ Below w0.heap.size w0 wr ∧ Row wr a (cellsOf L) ∧ ∃ acc K' W', St wr K' acc ∧ But K w wr ∧ Gro w K K' ∧ (∀ g o, a = some ⟨g, o, none⟩ → g ∉ K') ∧ (fromK t.list ck).drop j = W' ++ R ∧ (∀ x ∈ W', pre fr x.1 = true) ∧ toldL go acc W' = toldL go [] (within t.list fr) ∧ acc.length + (W' ++ R).length ≤ t.size))
    case atStart => exact ⟨0, Nat.zero_le _, rfl, rfl, Hb2.out, HRow.out, acc, K1, W, HSt2.out, Hbut2.out, Hgro.out, Hak.out, HWR.out, HW.out, Htold.out, Hlen.out⟩
    case round =>
      clear HRow HSt2 Hb2 Hbut2 Hak Hgro HWR HW Htold Hlen
      clear acc K1 W
      obtain ⟨j, hj, rfl, hr⟩ := hrel
      have Hm2 := Lib.hid hr.out.1
      have Hbw := Lib.hid hr.out.2.1
      have HRow := Lib.hid hr.out.2.2.1
      obtain ⟨acc, K1, W, hst, hbut, hgro, hak, hWR, hW, htold, hlen⟩ := hr.out.2.2.2
      have HSt1 := Lib.hid hst
      have Hbut := Lib.hid hbut
      have Hgro := Lib.hid hgro
      have Hak := Lib.hid hak
      have HWR := Lib.hid hWR
      have HW := Lib.hid hW
      have Htold := Lib.hid htold
      have Hlen := Lib.hid hlen
      clear hr hst hbut hgro hak hWR hW htold hlen
      by_cases hlt : j < L.length
      · have hlt2 : (j : Int) < (L.length : Int) := by omega
        obtain ⟨g, o, rfl, hAt⟩ := nrow_at (enc := pairL) pairL_length HRow.out hlt (by omega)
        have hFj : j < (fromK t.list ck).length := by have h := HL.out; rw [← h, List.length_take] at hlt; omega
        have hLj : L[j] = (fromK t.list ck)[j] := by
          have h := HL.out
          subst h
          rw [List.getElem_take]
        have hdr : (fromK t.list ck).drop j = (fromK t.list ck)[j] :: (fromK t.list ck).drop (j + 1) := List.drop_eq_getElem_cons hFj
        rw [hLj] at hAt
        have hmem : (fromK t.list ck)[j] ∈ t.list := (List.mem_filter.1 (List.getElem_mem hFj)).1
        generalize (fromK t.list ck)[j] = x at *
        obtain ⟨k, v⟩ := x
        have Hmem := Lib.hid hmem
        clear hmem
        have c0 : wr.cell? ⟨g, o + j * 2, none⟩ = some (.string k) := hAt 0 _ rfl
        have c1 : wr.cell? ⟨g, o + j * 2 + 1, none⟩ = some (.string v) := hAt 1 _ rfl
        clear hAt hLj
        have Hgl : Hid (g < wr.heap.size) := cell_lt c0
        have HC : Hid (wr.cell? ⟨g, o + j * 2, none⟩ = some (.string k) ∧ wr.cell? ⟨g, o + j * 2 + 1, none⟩ = some (.string v)) := ⟨c0, c1⟩
        go_wp2_with fail
        clear c0 c1 HC
        obtain ⟨W3, hW3⟩ : ∃ W3, wr.alloc (.cells #[.string k, .string v] 98) = W3 := ⟨_, rfl⟩
        have hb3 : Below wr.heap.size wr W3 := by rw [← hW3]; exact (Below.refl _ _).alloc (Nat.le_refl _) _
        have HB3 : Hid (Blk W3 wr.heap.size [.string k, .string v]) := by unfold Hid; rw [← hW3]; exact Blk.new wr #[.string k, .string v] _
        have HSt3 := Lib.hid (HT.out.below _ _ _ _ HSt1.out hb3)
        have Hgl : Hid (g < W3.heap.size) := Nat.lt_of_lt_of_le Hgl.out hb3.size
        have Hb3 := Lib.hid (Hbw.out.trans (hb3.mono Hbw.out.size))
        have Hbut3 := Lib.hid (Hbut.out.trans (But.of_below (S := K) hb3))
        have HRow3 := Lib.hid (HRow.out.below hb3)
        obtain ⟨xb, hxb⟩ : ∃ xb, wr.heap.size = xb := ⟨_, rfl⟩
        rw [hW3]
        rw [hxb] at HB3 ⊢
        clear hb3 hW3 hxb HSt1 Hbw Hbut HRow
        refine (pre_any W3 k fr).mono ?_
        rintro e w3 ⟨rfl, hw3⟩
        rw [hw3]
        clear hw3 w3
        cases hpre : pre fr k with
        | false =>
          have hWn : W = [] := by
            cases hWc : W with
            | nil => rfl
            | cons y W' =>
              have h := HWR.out
              rw [hdr, hWc, List.cons_append] at h
              injection h with h1 h2
              have h3 := HW.out y (by rw [hWc]; exact List.mem_cons_self ..)
              rw [← h1, hpre] at h3; cases h3
          have Hres : Hid (acc = toldL go [] (within t.list (front p))) := by
            have h := Htold.out
            rw [hWn, toldL] at h
            unfold Hid; rw [Hfr.out]; exact h
          clear hWn hdr hpre
          go_wp2
          refine bodyPost_ret (results_none (by kernel_rfl) _ _ _) rfl ?_
          exact ⟨rfl, K1, by rw [← Hres.out]; exact HSt3.out, Hbut3.out, Hgro.out⟩
        | true =>
          obtain ⟨W', hWc⟩ : ∃ W', W = (k, v) :: W' := by
            cases hWc : W with
            | nil =>
              have h := HWR.out
              rw [hdr, hWc, List.nil_append] at h
              have h3 := HR.out (k, v) (by rw [← h]; exact List.mem_cons_self ..)
              rw [show ((k, v) : Pr).1 = k from rfl, hpre] at h3; cases h3
            | cons y W' =>
              have h := HWR.out
              rw [hdr, hWc, List.cons_append] at h
              injection h with h1 h2
              exact ⟨W', by rw [h1]⟩
          subst hWc
          have HWR' : Hid ((fromK t.list ck).drop (j + 1) = W' ++ R) := by
            have h := HWR.out
            rw [hdr, List.cons_append] at h
            injection h with h1 h2
          have hal : acc.length < 4096 := by
            have h1 := Hlen.out
            have h2 := Hs.out
            rw [List.cons_append, List.length_cons] at h1
            omega
          have b0 := HB3.out.cell (i := 0) rfl
          have b1 := HB3.out.cell (i := 1) rfl
          have Hpre := Lib.hid hpre
          clear hdr hpre HWR
          go_wp2_with fail
          refine (HT.out.call W3 K1 acc (k, v) HSt3.out hal (HP.out (k, v) Hmem.out (by rw [Hfr.out]; exact Hpre.out))).mono ?_
          rintro e w4 ⟨rfl, K4, hst4, hb4, hg4⟩
          clear b0 b1
          have HSt4 := Lib.hid hst4
          have Hbut4 := Lib.hid (But.gro Hbut3.out hb4 Hgro.out)
          have Hgro4 := Lib.hid (Hgro.out.trans hg4 Hbut3.out.size)
          cases hgo : go acc (k, v) with
          | false =>
            have Hres : Hid (acc ++ [(k, v)] = toldL go [] (within t.list (front p))) := by
              have h := Htold.out
              rw [toldL, if_neg (by rw [hgo]; simp)] at h
              unfold Hid; rw [Hfr.out]; exact h
            clear hst4 hb4 hg4 hgo
            go_wp2
            refine bodyPost_ret (results_none (by kernel_rfl) _ _ _) rfl ?_
            exact ⟨rfl, K4, by rw [← Hres.out]; exact HSt4.out, Hbut4.out, Hgro4.out⟩
          | true =>
            have Htold' : Hid (toldL go (acc ++ [(k, v)]) W' = toldL go [] (within t.list fr)) := by
              have h := Htold.out
              rw [toldL, if_pos hgo] at h
              exact h
            have Hb4 := Lib.hid (Hb3.out.trans (hb4.below Hb3.out.size (HT.out.base _ _ _ HSt3.out)))
            have HRow4 := Lib.hid (HRow3.out.but hb4 Hak.out)
            have Hak4 : Hid (∀ g' o', (some ⟨g, o, none⟩ : Option Addr) = some ⟨g', o', none⟩ → g' ∉ K4) := fun g' o' he hm => by
              cases he
              rcases hg4 g hm with h1 | h1
              · exact Hak.out g o rfl h1
              · have := Hgl.out; omega
            have Hlen4 : Hid ((acc ++ [(k, v)]).length + (W' ++ R).length ≤ t.size) := by
              have h := Hlen.out
              unfold Hid
              simp only [List.length_append, List.length_cons, List.length_nil] at h ⊢
              omega
            have HW4 : Hid (∀ x ∈ W', pre fr x.1 = true) := fun x hx => HW.out x (List.mem_cons_of_mem _ hx)
            clear hst4 hb4 hg4 hgo
            go_wp2
            go_roundg (L.length - (j + 1))
            case measure => have := Hm2.out; omega
            case rel => exact ⟨j + 1, by omega, by go_num, rfl, Hb4.out, HRow4.out, acc ++ [(k, v)], K4, W', HSt4.out, Hbut4.out, Hgro4.out, Hak4.out, HWR'.out, HW4.out, Htold'.out, Hlen4.out⟩
      · have hge : ¬ (j : Int) < (L.length : Int) := by omega
        have hjL : j = L.length := by omega
        subst hjL
        have HLl : Hid (L.length = min 64 (fromK t.list ck).length) := by unfold Hid; rw [← HL.out, List.length_take]
        by_cases h64 : L.length < 64
        · have hWn : W = [] := by
            have h := HWR.out
            rw [List.drop_eq_nil_of_le (by have := HLl.out; omega)] at h
            exact (List.append_eq_nil_iff.1 h.symm).1
          have Hres : Hid (acc = toldL go [] (within t.list (front p))) := by
            have h := Htold.out
            rw [hWn, toldL] at h
            unfold Hid; rw [Hfr.out]; exact h
          have h64i : (L.length : Int) < 64 := by omega
          clear hWn
          go_wp2
          refine bodyPost_ret (results_none (by kernel_rfl) _ _ _) rfl ?_
          exact ⟨rfl, K1, by rw [← Hres.out]; exact HSt1.out, Hbut.out, Hgro.out⟩
        · have h63i : (63 : Int) < (L.length : Int) := by omega
          have h64i : ¬ (L.length : Int) < 64 := by omega
          have HL64 : Hid (L.length = 64) := by unfold Hid; omega
          obtain ⟨g, o, rfl, hAt⟩ := nrow_at (enc := pairL) pairL_length HRow.out (i := 63) (by omega) (by omega)
          have hF63 : 63 < (fromK t.list ck).length := by have := HLl.out; omega
          have hL63 : L[63]'(by omega) = (fromK t.list ck)[63] := by
            have h := HL.out
            subst h
            rw [List.getElem_take]
          rw [hL63] at hAt
          have hnext := page_next Hsrt.out hF63
          have hkz : ((fromK t.list ck)[63]).1.size ≤ 2^40 := Hks.out _ (List.mem_filter.1 (List.getElem_mem hF63)).1
          generalize (fromK t.list ck)[63] = x at hAt hnext hkz
          obtain ⟨k, v⟩ := x
          have c0 : wr.cell? ⟨g, o + 126, none⟩ = some (.string k) := hAt 0 _ rfl
          have hnk : k ++ ⟨#[0]⟩ = next k := rfl
          have hkz2 : ¬ (9223372036854775807 < k.size + 1) := by have : k.size ≤ 2^40 := hkz; omega
          have HWR64 : Hid (fromK t.list (next k) = W ++ R) := by
            have h := HWR.out
            rw [HL64.out] at h
            unfold Hid
            rw [← h]; exact hnext
          have Hnx : Hid ((fromK t.list (next k)).length + 64 ≤ (fromK t.list ck).length) := by
            unfold Hid
            rw [show fromK t.list (next k) = (fromK t.list ck).drop (63 + 1) from hnext, List.length_drop]; omega
          clear hAt hL63 hnext hkz hlt h64 hge
          go_wp2
          go_roundg (fromK t.list (next k)).length
          case measure => have := Hm.out; have := Hnx.out; omega
          case rel => exact ⟨next k, rfl, rfl, Hbw.out, acc, K1, W, R, HSt1.out, Hbut.out, Hgro.out, HWR64.out, HW.out, HR.out, Htold.out, Hlen.out⟩
set_option maxHeartbeats 4000000 in
set_option maxRecDepth 100000 in
theorem within_rename (w0 w : World) (tp : Option Addr) (t : PT) (hp : Rep w0 tp t) (hs : t.size ≤ 4096) (hsrt : Srt t.list) (hks : ∀ x ∈ t.list, x.1.size ≤ 2^40) (hb : Below w0.heap.size w0 w) (p : ByteArray) (hps : p.size ≤ 2^30)
    (caps : Array Value) (St : World → List Nat → List Pr → Prop) (go : List Pr → Pr → Bool) (P : Pr → Prop) (hP : ∀ x ∈ t.list, pre (front p) x.1 = true → P x) (hT : Told 54 caps St go w0 P) (K : List Nat) (hSt : St w K []) :
    Calls Tryz.prog 53 #[.pointer tp, .string p, .func (.func 54) #[] caps] w fun e w' => e = .returned (.tuple #[]) ∧ ∃ K', St w' K' (toldL go [] (within t.list (front p))) ∧ But K w w' ∧ Gro w K K' := by
  have Hp := Lib.hid hp
  have Hs := Lib.hid hs
  have Hsrt := Lib.hid hsrt
  have Hks := Lib.hid hks
  have Hb := Lib.hid hb
  have HT := Lib.hid hT
  have HSt := Lib.hid hSt
  have HP := Lib.hid hP
  clear hp hs hsrt hks hb hT hSt hP
  go_enter Tryz.func53, Tryz.ntmps53
  go_wp2_with fail
  refine (trim_any w p hps).mono ?_
  rintro e w1 ⟨rfl, hw1⟩
  rw [hw1]
  clear hw1 w1
  obtain ⟨fr, hfr⟩ : ∃ fr, front p = fr := ⟨_, rfl⟩
  have Hfr := Lib.hid hfr
  have hfr2 : trim p ++ ⟨#[47]⟩ = fr := hfr
  have htz : ¬ (9223372036854775807 < (trim p).size + 1) := by
    have h1 : (trim p).size = (Lib.trimSuffix p.data.toList [47]).length := rfl
    have h2 : (Lib.trimSuffix p.data.toList [47]).length ≤ p.data.toList.length := by
      unfold Lib.trimSuffix
      split
      · exact List.length_take_le' _ _
      · exact Nat.le_refl _
    have h3 : p.size = p.data.toList.length := (Array.length_toList (xs := p.data)).symm
    omega
  clear hfr hps
  go_wp2
  clear hfr2 htz
  go_loopg [7] (fromK t.list fr).length (fun m c wr => ∃ ck, c = .string ck ∧ Hid (m = (fromK t.list ck).length ∧ Below w0.heap.size w0 wr ∧ ∃ acc K' W R, St wr K' acc ∧ But K w wr ∧ Gro w K K' ∧ fromK t.list ck = W ++ R ∧ (∀ x ∈ W, pre fr x.1 = true) ∧ (∀ x ∈ R, pre fr x.1 = false) ∧ toldL go acc W = toldL go [] (within t.list fr) ∧ acc.length + (W ++ R).length ≤ t.size))
  case atStart =>
    obtain ⟨R, h1, h2⟩ := within_head Hsrt.out fr
    refine ⟨fr, rfl, rfl, Hb.out, [], K, within t.list fr, R, HSt.out, But.refl _ _, Gro.refl _ _, h1, fun x hx => (List.mem_filter.1 hx).2, h2, rfl, ?_⟩
    rw [← h1, ← PT.list_length]
    rw [List.length_nil, Nat.zero_add]
    exact List.length_filter_le _ _
  case round =>
    obtain ⟨ck, rfl, hr⟩ := hrel
    have Hm := Lib.hid hr.out.1
    have Hbw := Lib.hid hr.out.2.1
    obtain ⟨acc, K1, W, R, hst, hbut, hgro, hWR, hW, hR, htold, hlen⟩ := hr.out.2.2
    have HSt1 := Lib.hid hst
    have Hbut := Lib.hid hbut
    have Hgro := Lib.hid hgro
    have HWR := Lib.hid hWR
    have HW := Lib.hid hW
    have HR := Lib.hid hR
    have Htold := Lib.hid htold
    have Hlen := Lib.hid hlen
    clear hr hst hbut hgro hWR hW hR htold hlen
    go_wp2_with fail
    refine (from_any ck 64 t wr tp (Hp.out.below Hbw.out) (by have := Hs.out; omega)).mono ?_
    rintro e w2 ⟨a, c, rfl, hb2, how⟩
    have hfl : (PT.fromL ck t).take (64 : Int).toNat = (fromK t.list ck).take 64 := by rw [PT.fromL_list ck t Hsrt.out]; rfl
    rw [hfl] at how ⊢
    obtain ⟨L, hL⟩ : ∃ L, (fromK t.list ck).take 64 = L := ⟨_, rfl⟩
    rw [hL] at how ⊢
    have HL := Lib.hid hL
    have HRow := Lib.hid (Row.owned how)
    have Hak : Hid (∀ g o, a = some ⟨g, o, none⟩ → g ∉ K1) := fun g o ha hm => by
      have h1 := HT.out.lt _ _ _ HSt1.out g hm
      rcases how.2 with h2 | ⟨g', cap, cur, h2, h3, _⟩
      · cases h2.1.symm.trans (by rw [ha])
      · rw [ha] at h2
        injection h2 with h2
        injection h2 with h2
        injection h2 with h2
        omega
    have HSt2 := Lib.hid (HT.out.below _ _ _ _ HSt1.out hb2)
    have Hb2 := Lib.hid (Hbw.out.trans (hb2.mono Hbw.out.size))
    have Hbut2 := Lib.hid (Hbut.out.trans (But.of_below (S := K) hb2))
    have hL64 : L.length ≤ 64 := by rw [← hL]; exact List.length_take_le _ _
    clear hfl hL how hb2
    go_wp2
    obtain ⟨W2, hW2⟩ : ∃ W2, w2 = W2 := ⟨_, rfl⟩
    rw [hW2] at HRow HSt2 Hb2 Hbut2 ⊢
    clear hW2 w2
    clear HSt1 Hbut Hbw wr
    go_loopg [20] L.length (fun m i wr => ∃ j : Nat, j ≤ L.length ∧ i = .int .i64 j ∧ Hid (m = L.length - j ∧ Below w0.heap.size w0 wr ∧ Row wr a (cellsOf L) ∧ ∃ acc K' W', St wr K' acc ∧ But K w wr ∧ Gro w K K' ∧ (∀ g o, a = some ⟨g, o, none⟩ → g ∉ K') ∧ (fromK t.list ck).drop j = W' ++ R ∧ (∀ x ∈ W', pre fr x.1 = true) ∧ toldL go acc W' = toldL go [] (within t.list fr) ∧ acc.length + (W' ++ R).length ≤ t.size))
    case atStart => exact ⟨0, Nat.zero_le _, rfl, rfl, Hb2.out, HRow.out, acc, K1, W, HSt2.out, Hbut2.out, Hgro.out, Hak.out, HWR.out, HW.out, Htold.out, Hlen.out⟩
    case round =>
      clear HRow HSt2 Hb2 Hbut2 Hak Hgro HWR HW Htold Hlen
      clear acc K1 W
      obtain ⟨j, hj, rfl, hr⟩ := hrel
      have Hm2 := Lib.hid hr.out.1
      have Hbw := Lib.hid hr.out.2.1
      have HRow := Lib.hid hr.out.2.2.1
      obtain ⟨acc, K1, W, hst, hbut, hgro, hak, hWR, hW, htold, hlen⟩ := hr.out.2.2.2
      have HSt1 := Lib.hid hst
      have Hbut := Lib.hid hbut
      have Hgro := Lib.hid hgro
      have Hak := Lib.hid hak
      have HWR := Lib.hid hWR
      have HW := Lib.hid hW
      have Htold := Lib.hid htold
      have Hlen := Lib.hid hlen
      clear hr hst hbut hgro hak hWR hW htold hlen
      by_cases hlt : j < L.length
      · have hlt2 : (j : Int) < (L.length : Int) := by omega
        obtain ⟨g, o, rfl, hAt⟩ := nrow_at (enc := pairL) pairL_length HRow.out hlt (by omega)
        have hFj : j < (fromK t.list ck).length := by have h := HL.out; rw [← h, List.length_take] at hlt; omega
        have hLj : L[j] = (fromK t.list ck)[j] := by
          have h := HL.out
          subst h
          rw [List.getElem_take]
        have hdr : (fromK t.list ck).drop j = (fromK t.list ck)[j] :: (fromK t.list ck).drop (j + 1) := List.drop_eq_getElem_cons hFj
        rw [hLj] at hAt
        have hmem : (fromK t.list ck)[j] ∈ t.list := (List.mem_filter.1 (List.getElem_mem hFj)).1
        generalize (fromK t.list ck)[j] = x at *
        obtain ⟨k, v⟩ := x
        have Hmem := Lib.hid hmem
        clear hmem
        have c0 : wr.cell? ⟨g, o + j * 2, none⟩ = some (.string k) := hAt 0 _ rfl
        have c1 : wr.cell? ⟨g, o + j * 2 + 1, none⟩ = some (.string v) := hAt 1 _ rfl
        clear hAt hLj
        have Hgl : Hid (g < wr.heap.size) := cell_lt c0
        have HC : Hid (wr.cell? ⟨g, o + j * 2, none⟩ = some (.string k) ∧ wr.cell? ⟨g, o + j * 2 + 1, none⟩ = some (.string v)) := ⟨c0, c1⟩
        go_wp2_with fail
        clear c0 c1 HC
        obtain ⟨W3, hW3⟩ : ∃ W3, wr.alloc (.cells #[.string k, .string v] 98) = W3 := ⟨_, rfl⟩
        have hb3 : Below wr.heap.size wr W3 := by rw [← hW3]; exact (Below.refl _ _).alloc (Nat.le_refl _) _
        have HB3 : Hid (Blk W3 wr.heap.size [.string k, .string v]) := by unfold Hid; rw [← hW3]; exact Blk.new wr #[.string k, .string v] _
        have HSt3 := Lib.hid (HT.out.below _ _ _ _ HSt1.out hb3)
        have Hgl : Hid (g < W3.heap.size) := Nat.lt_of_lt_of_le Hgl.out hb3.size
        have Hb3 := Lib.hid (Hbw.out.trans (hb3.mono Hbw.out.size))
        have Hbut3 := Lib.hid (Hbut.out.trans (But.of_below (S := K) hb3))
        have HRow3 := Lib.hid (HRow.out.below hb3)
        obtain ⟨xb, hxb⟩ : ∃ xb, wr.heap.size = xb := ⟨_, rfl⟩
        rw [hW3]
        rw [hxb] at HB3 ⊢
        clear hb3 hW3 hxb HSt1 Hbw Hbut HRow
        refine (pre_any W3 k fr).mono ?_
        rintro e w3 ⟨rfl, hw3⟩
        rw [hw3]
        clear hw3 w3
        cases hpre : pre fr k with
        | false =>
          have hWn : W = [] := by
            cases hWc : W with
            | nil => rfl
            | cons y W' =>
              have h := HWR.out
              rw [hdr, hWc, List.cons_append] at h
              injection h with h1 h2
              have h3 := HW.out y (by rw [hWc]; exact List.mem_cons_self ..)
              rw [← h1, hpre] at h3; cases h3
          have Hres : Hid (acc = toldL go [] (within t.list (front p))) := by
            have h := Htold.out
            rw [hWn, toldL] at h
            unfold Hid; rw [Hfr.out]; exact h
          clear hWn hdr hpre
          go_wp2
          refine bodyPost_ret (results_none (by kernel_rfl) _ _ _) rfl ?_
          exact ⟨rfl, K1, by rw [← Hres.out]; exact HSt3.out, Hbut3.out, Hgro.out⟩
        | true =>
          obtain ⟨W', hWc⟩ : ∃ W', W = (k, v) :: W' := by
            cases hWc : W with
            | nil =>
              have h := HWR.out
              rw [hdr, hWc, List.nil_append] at h
              have h3 := HR.out (k, v) (by rw [← h]; exact List.mem_cons_self ..)
              rw [show ((k, v) : Pr).1 = k from rfl, hpre] at h3; cases h3
            | cons y W' =>
              have h := HWR.out
              rw [hdr, hWc, List.cons_append] at h
              injection h with h1 h2
              exact ⟨W', by rw [h1]⟩
          subst hWc
          have HWR' : Hid ((fromK t.list ck).drop (j + 1) = W' ++ R) := by
            have h := HWR.out
            rw [hdr, List.cons_append] at h
            injection h with h1 h2
          have hal : acc.length < 4096 := by
            have h1 := Hlen.out
            have h2 := Hs.out
            rw [List.cons_append, List.length_cons] at h1
            omega
          have b0 := HB3.out.cell (i := 0) rfl
          have b1 := HB3.out.cell (i := 1) rfl
          have Hpre := Lib.hid hpre
          clear hdr hpre HWR
          go_wp2_with fail
          refine (HT.out.call W3 K1 acc (k, v) HSt3.out hal (HP.out (k, v) Hmem.out (by rw [Hfr.out]; exact Hpre.out))).mono ?_
          rintro e w4 ⟨rfl, K4, hst4, hb4, hg4⟩
          clear b0 b1
          have HSt4 := Lib.hid hst4
          have Hbut4 := Lib.hid (But.gro Hbut3.out hb4 Hgro.out)
          have Hgro4 := Lib.hid (Hgro.out.trans hg4 Hbut3.out.size)
          cases hgo : go acc (k, v) with
          | false =>
            have Hres : Hid (acc ++ [(k, v)] = toldL go [] (within t.list (front p))) := by
              have h := Htold.out
              rw [toldL, if_neg (by rw [hgo]; simp)] at h
              unfold Hid; rw [Hfr.out]; exact h
            clear hst4 hb4 hg4 hgo
            go_wp2
            refine bodyPost_ret (results_none (by kernel_rfl) _ _ _) rfl ?_
            exact ⟨rfl, K4, by rw [← Hres.out]; exact HSt4.out, Hbut4.out, Hgro4.out⟩
          | true =>
            have Htold' : Hid (toldL go (acc ++ [(k, v)]) W' = toldL go [] (within t.list fr)) := by
              have h := Htold.out
              rw [toldL, if_pos hgo] at h
              exact h
            have Hb4 := Lib.hid (Hb3.out.trans (hb4.below Hb3.out.size (HT.out.base _ _ _ HSt3.out)))
            have HRow4 := Lib.hid (HRow3.out.but hb4 Hak.out)
            have Hak4 : Hid (∀ g' o', (some ⟨g, o, none⟩ : Option Addr) = some ⟨g', o', none⟩ → g' ∉ K4) := fun g' o' he hm => by
              cases he
              rcases hg4 g hm with h1 | h1
              · exact Hak.out g o rfl h1
              · have := Hgl.out; omega
            have Hlen4 : Hid ((acc ++ [(k, v)]).length + (W' ++ R).length ≤ t.size) := by
              have h := Hlen.out
              unfold Hid
              simp only [List.length_append, List.length_cons, List.length_nil] at h ⊢
              omega
            have HW4 : Hid (∀ x ∈ W', pre fr x.1 = true) := fun x hx => HW.out x (List.mem_cons_of_mem _ hx)
            clear hst4 hb4 hg4 hgo
            go_wp2
            go_roundg (L.length - (j + 1))
            case measure => have := Hm2.out; omega
            case rel => exact ⟨j + 1, by omega, by go_num, rfl, Hb4.out, HRow4.out, acc ++ [(k, v)], K4, W', HSt4.out, Hbut4.out, Hgro4.out, Hak4.out, HWR'.out, HW4.out, Htold'.out, Hlen4.out⟩
      · have hge : ¬ (j : Int) < (L.length : Int) := by omega
        have hjL : j = L.length := by omega
        subst hjL
        have HLl : Hid (L.length = min 64 (fromK t.list ck).length) := by unfold Hid; rw [← HL.out, List.length_take]
        by_cases h64 : L.length < 64
        · have hWn : W = [] := by
            have h := HWR.out
            rw [List.drop_eq_nil_of_le (by have := HLl.out; omega)] at h
            exact (List.append_eq_nil_iff.1 h.symm).1
          have Hres : Hid (acc = toldL go [] (within t.list (front p))) := by
            have h := Htold.out
            rw [hWn, toldL] at h
            unfold Hid; rw [Hfr.out]; exact h
          have h64i : (L.length : Int) < 64 := by omega
          clear hWn
          go_wp2
          refine bodyPost_ret (results_none (by kernel_rfl) _ _ _) rfl ?_
          exact ⟨rfl, K1, by rw [← Hres.out]; exact HSt1.out, Hbut.out, Hgro.out⟩
        · have h63i : (63 : Int) < (L.length : Int) := by omega
          have h64i : ¬ (L.length : Int) < 64 := by omega
          have HL64 : Hid (L.length = 64) := by unfold Hid; omega
          obtain ⟨g, o, rfl, hAt⟩ := nrow_at (enc := pairL) pairL_length HRow.out (i := 63) (by omega) (by omega)
          have hF63 : 63 < (fromK t.list ck).length := by have := HLl.out; omega
          have hL63 : L[63]'(by omega) = (fromK t.list ck)[63] := by
            have h := HL.out
            subst h
            rw [List.getElem_take]
          rw [hL63] at hAt
          have hnext := page_next Hsrt.out hF63
          have hkz : ((fromK t.list ck)[63]).1.size ≤ 2^40 := Hks.out _ (List.mem_filter.1 (List.getElem_mem hF63)).1
          generalize (fromK t.list ck)[63] = x at hAt hnext hkz
          obtain ⟨k, v⟩ := x
          have c0 : wr.cell? ⟨g, o + 126, none⟩ = some (.string k) := hAt 0 _ rfl
          have hnk : k ++ ⟨#[0]⟩ = next k := rfl
          have hkz2 : ¬ (9223372036854775807 < k.size + 1) := by have : k.size ≤ 2^40 := hkz; omega
          have HWR64 : Hid (fromK t.list (next k) = W ++ R) := by
            have h := HWR.out
            rw [HL64.out] at h
            unfold Hid
            rw [← h]; exact hnext
          have Hnx : Hid ((fromK t.list (next k)).length + 64 ≤ (fromK t.list ck).length) := by
            unfold Hid
            rw [show fromK t.list (next k) = (fromK t.list ck).drop (63 + 1) from hnext, List.length_drop]; omega
          clear hAt hL63 hnext hkz hlt h64 hge
          go_wp2
          go_roundg (fromK t.list (next k)).length
          case measure => have := Hm.out; have := Hnx.out; omega
          case rel => exact ⟨next k, rfl, rfl, Hbw.out, acc, K1, W, R, HSt1.out, Hbut.out, Hgro.out, HWR64.out, HW.out, HR.out, Htold.out, Hlen.out⟩
set_option maxHeartbeats 4000000 in
set_option maxRecDepth 100000 in
theorem within_list (w0 w : World) (tp : Option Addr) (t : PT) (hp : Rep w0 tp t) (hs : t.size ≤ 4096) (hsrt : Srt t.list) (hks : ∀ x ∈ t.list, x.1.size ≤ 2^40) (hb : Below w0.heap.size w0 w) (p : ByteArray) (hps : p.size ≤ 2^30)
    (caps : Array Value) (St : World → List Nat → List Pr → Prop) (go : List Pr → Pr → Bool) (P : Pr → Prop) (hP : ∀ x ∈ t.list, pre (front p) x.1 = true → P x) (hT : Told 91 caps St go w0 P) (K : List Nat) (hSt : St w K []) :
    Calls Tryz.prog 53 #[.pointer tp, .string p, .func (.func 91) #[] caps] w fun e w' => e = .returned (.tuple #[]) ∧ ∃ K', St w' K' (toldL go [] (within t.list (front p))) ∧ But K w w' ∧ Gro w K K' := by
  have Hp := Lib.hid hp
  have Hs := Lib.hid hs
  have Hsrt := Lib.hid hsrt
  have Hks := Lib.hid hks
  have Hb := Lib.hid hb
  have HT := Lib.hid hT
  have HSt := Lib.hid hSt
  have HP := Lib.hid hP
  clear hp hs hsrt hks hb hT hSt hP
  go_enter Tryz.func53, Tryz.ntmps53
  go_wp2_with fail
  refine (trim_any w p hps).mono ?_
  rintro e w1 ⟨rfl, hw1⟩
  rw [hw1]
  clear hw1 w1
  obtain ⟨fr, hfr⟩ : ∃ fr, front p = fr := ⟨_, rfl⟩
  have Hfr := Lib.hid hfr
  have hfr2 : trim p ++ ⟨#[47]⟩ = fr := hfr
  have htz : ¬ (9223372036854775807 < (trim p).size + 1) := by
    have h1 : (trim p).size = (Lib.trimSuffix p.data.toList [47]).length := rfl
    have h2 : (Lib.trimSuffix p.data.toList [47]).length ≤ p.data.toList.length := by
      unfold Lib.trimSuffix
      split
      · exact List.length_take_le' _ _
      · exact Nat.le_refl _
    have h3 : p.size = p.data.toList.length := (Array.length_toList (xs := p.data)).symm
    omega
  clear hfr hps
  go_wp2
  clear hfr2 htz
  go_loopg [7] (fromK t.list fr).length (fun m c wr => ∃ ck, c = .string ck ∧ Hid (m = (fromK t.list ck).length ∧ Below w0.heap.size w0 wr ∧ ∃ acc K' W R, St wr K' acc ∧ But K w wr ∧ Gro w K K' ∧ fromK t.list ck = W ++ R ∧ (∀ x ∈ W, pre fr x.1 = true) ∧ (∀ x ∈ R, pre fr x.1 = false) ∧ toldL go acc W = toldL go [] (within t.list fr) ∧ acc.length + (W ++ R).length ≤ t.size))
  case atStart =>
    obtain ⟨R, h1, h2⟩ := within_head Hsrt.out fr
    refine ⟨fr, rfl, rfl, Hb.out, [], K, within t.list fr, R, HSt.out, But.refl _ _, Gro.refl _ _, h1, fun x hx => (List.mem_filter.1 hx).2, h2, rfl, ?_⟩
    rw [← h1, ← PT.list_length]
    rw [List.length_nil, Nat.zero_add]
    exact List.length_filter_le _ _
  case round =>
    obtain ⟨ck, rfl, hr⟩ := hrel
    have Hm := Lib.hid hr.out.1
    have Hbw := Lib.hid hr.out.2.1
    obtain ⟨acc, K1, W, R, hst, hbut, hgro, hWR, hW, hR, htold, hlen⟩ := hr.out.2.2
    have HSt1 := Lib.hid hst
    have Hbut := Lib.hid hbut
    have Hgro := Lib.hid hgro
    have HWR := Lib.hid hWR
    have HW := Lib.hid hW
    have HR := Lib.hid hR
    have Htold := Lib.hid htold
    have Hlen := Lib.hid hlen
    clear hr hst hbut hgro hWR hW hR htold hlen
    go_wp2_with fail
    refine (from_any ck 64 t wr tp (Hp.out.below Hbw.out) (by have := Hs.out; omega)).mono ?_
    rintro e w2 ⟨a, c, rfl, hb2, how⟩
    have hfl : (PT.fromL ck t).take (64 : Int).toNat = (fromK t.list ck).take 64 := by rw [PT.fromL_list ck t Hsrt.out]; rfl
    rw [hfl] at how ⊢
    obtain ⟨L, hL⟩ : ∃ L, (fromK t.list ck).take 64 = L := ⟨_, rfl⟩
    rw [hL] at how ⊢
    have HL := Lib.hid hL
    have HRow := Lib.hid (Row.owned how)
    have Hak : Hid (∀ g o, a = some ⟨g, o, none⟩ → g ∉ K1) := fun g o ha hm => by
      have h1 := HT.out.lt _ _ _ HSt1.out g hm
      rcases how.2 with h2 | ⟨g', cap, cur, h2, h3, _⟩
      · cases h2.1.symm.trans (by rw [ha])
      · rw [ha] at h2
        injection h2 with h2
        injection h2 with h2
        injection h2 with h2
        omega
    have HSt2 := Lib.hid (HT.out.below _ _ _ _ HSt1.out hb2)
    have Hb2 := Lib.hid (Hbw.out.trans (hb2.mono Hbw.out.size))
    have Hbut2 := Lib.hid (Hbut.out.trans (But.of_below (S := K) hb2))
    have hL64 : L.length ≤ 64 := by rw [← hL]; exact List.length_take_le _ _
    clear hfl hL how hb2
    go_wp2
    obtain ⟨W2, hW2⟩ : ∃ W2, w2 = W2 := ⟨_, rfl⟩
    rw [hW2] at HRow HSt2 Hb2 Hbut2 ⊢
    clear hW2 w2
    clear HSt1 Hbut Hbw wr
    go_loopg [20] L.length (fun m i wr => ∃ j : Nat, j ≤ L.length ∧ i = .int .i64 j ∧ Hid (m = L.length - j ∧ Below w0.heap.size w0 wr ∧ Row wr a (cellsOf L) ∧ ∃ acc K' W', St wr K' acc ∧ But K w wr ∧ Gro w K K' ∧ (∀ g o, a = some ⟨g, o, none⟩ → g ∉ K') ∧ (fromK t.list ck).drop j = W' ++ R ∧ (∀ x ∈ W', pre fr x.1 = true) ∧ toldL go acc W' = toldL go [] (within t.list fr) ∧ acc.length + (W' ++ R).length ≤ t.size))
    case atStart => exact ⟨0, Nat.zero_le _, rfl, rfl, Hb2.out, HRow.out, acc, K1, W, HSt2.out, Hbut2.out, Hgro.out, Hak.out, HWR.out, HW.out, Htold.out, Hlen.out⟩
    case round =>
      clear HRow HSt2 Hb2 Hbut2 Hak Hgro HWR HW Htold Hlen
      clear acc K1 W
      obtain ⟨j, hj, rfl, hr⟩ := hrel
      have Hm2 := Lib.hid hr.out.1
      have Hbw := Lib.hid hr.out.2.1
      have HRow := Lib.hid hr.out.2.2.1
      obtain ⟨acc, K1, W, hst, hbut, hgro, hak, hWR, hW, htold, hlen⟩ := hr.out.2.2.2
      have HSt1 := Lib.hid hst
      have Hbut := Lib.hid hbut
      have Hgro := Lib.hid hgro
      have Hak := Lib.hid hak
      have HWR := Lib.hid hWR
      have HW := Lib.hid hW
      have Htold := Lib.hid htold
      have Hlen := Lib.hid hlen
      clear hr hst hbut hgro hak hWR hW htold hlen
      by_cases hlt : j < L.length
      · have hlt2 : (j : Int) < (L.length : Int) := by omega
        obtain ⟨g, o, rfl, hAt⟩ := nrow_at (enc := pairL) pairL_length HRow.out hlt (by omega)
        have hFj : j < (fromK t.list ck).length := by have h := HL.out; rw [← h, List.length_take] at hlt; omega
        have hLj : L[j] = (fromK t.list ck)[j] := by
          have h := HL.out
          subst h
          rw [List.getElem_take]
        have hdr : (fromK t.list ck).drop j = (fromK t.list ck)[j] :: (fromK t.list ck).drop (j + 1) := List.drop_eq_getElem_cons hFj
        rw [hLj] at hAt
        have hmem : (fromK t.list ck)[j] ∈ t.list := (List.mem_filter.1 (List.getElem_mem hFj)).1
        generalize (fromK t.list ck)[j] = x at *
        obtain ⟨k, v⟩ := x
        have Hmem := Lib.hid hmem
        clear hmem
        have c0 : wr.cell? ⟨g, o + j * 2, none⟩ = some (.string k) := hAt 0 _ rfl
        have c1 : wr.cell? ⟨g, o + j * 2 + 1, none⟩ = some (.string v) := hAt 1 _ rfl
        clear hAt hLj
        have Hgl : Hid (g < wr.heap.size) := cell_lt c0
        have HC : Hid (wr.cell? ⟨g, o + j * 2, none⟩ = some (.string k) ∧ wr.cell? ⟨g, o + j * 2 + 1, none⟩ = some (.string v)) := ⟨c0, c1⟩
        go_wp2_with fail
        clear c0 c1 HC
        obtain ⟨W3, hW3⟩ : ∃ W3, wr.alloc (.cells #[.string k, .string v] 98) = W3 := ⟨_, rfl⟩
        have hb3 : Below wr.heap.size wr W3 := by rw [← hW3]; exact (Below.refl _ _).alloc (Nat.le_refl _) _
        have HB3 : Hid (Blk W3 wr.heap.size [.string k, .string v]) := by unfold Hid; rw [← hW3]; exact Blk.new wr #[.string k, .string v] _
        have HSt3 := Lib.hid (HT.out.below _ _ _ _ HSt1.out hb3)
        have Hgl : Hid (g < W3.heap.size) := Nat.lt_of_lt_of_le Hgl.out hb3.size
        have Hb3 := Lib.hid (Hbw.out.trans (hb3.mono Hbw.out.size))
        have Hbut3 := Lib.hid (Hbut.out.trans (But.of_below (S := K) hb3))
        have HRow3 := Lib.hid (HRow.out.below hb3)
        obtain ⟨xb, hxb⟩ : ∃ xb, wr.heap.size = xb := ⟨_, rfl⟩
        rw [hW3]
        rw [hxb] at HB3 ⊢
        clear hb3 hW3 hxb HSt1 Hbw Hbut HRow
        refine (pre_any W3 k fr).mono ?_
        rintro e w3 ⟨rfl, hw3⟩
        rw [hw3]
        clear hw3 w3
        cases hpre : pre fr k with
        | false =>
          have hWn : W = [] := by
            cases hWc : W with
            | nil => rfl
            | cons y W' =>
              have h := HWR.out
              rw [hdr, hWc, List.cons_append] at h
              injection h with h1 h2
              have h3 := HW.out y (by rw [hWc]; exact List.mem_cons_self ..)
              rw [← h1, hpre] at h3; cases h3
          have Hres : Hid (acc = toldL go [] (within t.list (front p))) := by
            have h := Htold.out
            rw [hWn, toldL] at h
            unfold Hid; rw [Hfr.out]; exact h
          clear hWn hdr hpre
          go_wp2
          refine bodyPost_ret (results_none (by kernel_rfl) _ _ _) rfl ?_
          exact ⟨rfl, K1, by rw [← Hres.out]; exact HSt3.out, Hbut3.out, Hgro.out⟩
        | true =>
          obtain ⟨W', hWc⟩ : ∃ W', W = (k, v) :: W' := by
            cases hWc : W with
            | nil =>
              have h := HWR.out
              rw [hdr, hWc, List.nil_append] at h
              have h3 := HR.out (k, v) (by rw [← h]; exact List.mem_cons_self ..)
              rw [show ((k, v) : Pr).1 = k from rfl, hpre] at h3; cases h3
            | cons y W' =>
              have h := HWR.out
              rw [hdr, hWc, List.cons_append] at h
              injection h with h1 h2
              exact ⟨W', by rw [h1]⟩
          subst hWc
          have HWR' : Hid ((fromK t.list ck).drop (j + 1) = W' ++ R) := by
            have h := HWR.out
            rw [hdr, List.cons_append] at h
            injection h with h1 h2
          have hal : acc.length < 4096 := by
            have h1 := Hlen.out
            have h2 := Hs.out
            rw [List.cons_append, List.length_cons] at h1
            omega
          have b0 := HB3.out.cell (i := 0) rfl
          have b1 := HB3.out.cell (i := 1) rfl
          have Hpre := Lib.hid hpre
          clear hdr hpre HWR
          go_wp2_with fail
          refine (HT.out.call W3 K1 acc (k, v) HSt3.out hal (HP.out (k, v) Hmem.out (by rw [Hfr.out]; exact Hpre.out))).mono ?_
          rintro e w4 ⟨rfl, K4, hst4, hb4, hg4⟩
          clear b0 b1
          have HSt4 := Lib.hid hst4
          have Hbut4 := Lib.hid (But.gro Hbut3.out hb4 Hgro.out)
          have Hgro4 := Lib.hid (Hgro.out.trans hg4 Hbut3.out.size)
          cases hgo : go acc (k, v) with
          | false =>
            have Hres : Hid (acc ++ [(k, v)] = toldL go [] (within t.list (front p))) := by
              have h := Htold.out
              rw [toldL, if_neg (by rw [hgo]; simp)] at h
              unfold Hid; rw [Hfr.out]; exact h
            clear hst4 hb4 hg4 hgo
            go_wp2
            refine bodyPost_ret (results_none (by kernel_rfl) _ _ _) rfl ?_
            exact ⟨rfl, K4, by rw [← Hres.out]; exact HSt4.out, Hbut4.out, Hgro4.out⟩
          | true =>
            have Htold' : Hid (toldL go (acc ++ [(k, v)]) W' = toldL go [] (within t.list fr)) := by
              have h := Htold.out
              rw [toldL, if_pos hgo] at h
              exact h
            have Hb4 := Lib.hid (Hb3.out.trans (hb4.below Hb3.out.size (HT.out.base _ _ _ HSt3.out)))
            have HRow4 := Lib.hid (HRow3.out.but hb4 Hak.out)
            have Hak4 : Hid (∀ g' o', (some ⟨g, o, none⟩ : Option Addr) = some ⟨g', o', none⟩ → g' ∉ K4) := fun g' o' he hm => by
              cases he
              rcases hg4 g hm with h1 | h1
              · exact Hak.out g o rfl h1
              · have := Hgl.out; omega
            have Hlen4 : Hid ((acc ++ [(k, v)]).length + (W' ++ R).length ≤ t.size) := by
              have h := Hlen.out
              unfold Hid
              simp only [List.length_append, List.length_cons, List.length_nil] at h ⊢
              omega
            have HW4 : Hid (∀ x ∈ W', pre fr x.1 = true) := fun x hx => HW.out x (List.mem_cons_of_mem _ hx)
            clear hst4 hb4 hg4 hgo
            go_wp2
            go_roundg (L.length - (j + 1))
            case measure => have := Hm2.out; omega
            case rel => exact ⟨j + 1, by omega, by go_num, rfl, Hb4.out, HRow4.out, acc ++ [(k, v)], K4, W', HSt4.out, Hbut4.out, Hgro4.out, Hak4.out, HWR'.out, HW4.out, Htold'.out, Hlen4.out⟩
      · have hge : ¬ (j : Int) < (L.length : Int) := by omega
        have hjL : j = L.length := by omega
        subst hjL
        have HLl : Hid (L.length = min 64 (fromK t.list ck).length) := by unfold Hid; rw [← HL.out, List.length_take]
        by_cases h64 : L.length < 64
        · have hWn : W = [] := by
            have h := HWR.out
            rw [List.drop_eq_nil_of_le (by have := HLl.out; omega)] at h
            exact (List.append_eq_nil_iff.1 h.symm).1
          have Hres : Hid (acc = toldL go [] (within t.list (front p))) := by
            have h := Htold.out
            rw [hWn, toldL] at h
            unfold Hid; rw [Hfr.out]; exact h
          have h64i : (L.length : Int) < 64 := by omega
          clear hWn
          go_wp2
          refine bodyPost_ret (results_none (by kernel_rfl) _ _ _) rfl ?_
          exact ⟨rfl, K1, by rw [← Hres.out]; exact HSt1.out, Hbut.out, Hgro.out⟩
        · have h63i : (63 : Int) < (L.length : Int) := by omega
          have h64i : ¬ (L.length : Int) < 64 := by omega
          have HL64 : Hid (L.length = 64) := by unfold Hid; omega
          obtain ⟨g, o, rfl, hAt⟩ := nrow_at (enc := pairL) pairL_length HRow.out (i := 63) (by omega) (by omega)
          have hF63 : 63 < (fromK t.list ck).length := by have := HLl.out; omega
          have hL63 : L[63]'(by omega) = (fromK t.list ck)[63] := by
            have h := HL.out
            subst h
            rw [List.getElem_take]
          rw [hL63] at hAt
          have hnext := page_next Hsrt.out hF63
          have hkz : ((fromK t.list ck)[63]).1.size ≤ 2^40 := Hks.out _ (List.mem_filter.1 (List.getElem_mem hF63)).1
          generalize (fromK t.list ck)[63] = x at hAt hnext hkz
          obtain ⟨k, v⟩ := x
          have c0 : wr.cell? ⟨g, o + 126, none⟩ = some (.string k) := hAt 0 _ rfl
          have hnk : k ++ ⟨#[0]⟩ = next k := rfl
          have hkz2 : ¬ (9223372036854775807 < k.size + 1) := by have : k.size ≤ 2^40 := hkz; omega
          have HWR64 : Hid (fromK t.list (next k) = W ++ R) := by
            have h := HWR.out
            rw [HL64.out] at h
            unfold Hid
            rw [← h]; exact hnext
          have Hnx : Hid ((fromK t.list (next k)).length + 64 ≤ (fromK t.list ck).length) := by
            unfold Hid
            rw [show fromK t.list (next k) = (fromK t.list ck).drop (63 + 1) from hnext, List.length_drop]; omega
          clear hAt hL63 hnext hkz hlt h64 hge
          go_wp2
          go_roundg (fromK t.list (next k)).length
          case measure => have := Hm.out; have := Hnx.out; omega
          case rel => exact ⟨next k, rfl, rfl, Hbw.out, acc, K1, W, R, HSt1.out, Hbut.out, Hgro.out, HWR64.out, HW.out, HR.out, Htold.out, Hlen.out⟩
set_option maxHeartbeats 4000000 in
set_option maxRecDepth 100000 in
theorem within_table (w0 w : World) (tp : Option Addr) (t : PT) (hp : Rep w0 tp t) (hs : t.size ≤ 4096) (hsrt : Srt t.list) (hks : ∀ x ∈ t.list, x.1.size ≤ 2^40) (hb : Below w0.heap.size w0 w) (p : ByteArray) (hps : p.size ≤ 2^30)
    (caps : Array Value) (St : World → List Nat → List Pr → Prop) (go : List Pr → Pr → Bool) (P : Pr → Prop) (hP : ∀ x ∈ t.list, pre (front p) x.1 = true → P x) (hT : Told 99 caps St go w0 P) (K : List Nat) (hSt : St w K []) :
    Calls Tryz.prog 53 #[.pointer tp, .string p, .func (.func 99) #[] caps] w fun e w' => e = .returned (.tuple #[]) ∧ ∃ K', St w' K' (toldL go [] (within t.list (front p))) ∧ But K w w' ∧ Gro w K K' := by
  have Hp := Lib.hid hp
  have Hs := Lib.hid hs
  have Hsrt := Lib.hid hsrt
  have Hks := Lib.hid hks
  have Hb := Lib.hid hb
  have HT := Lib.hid hT
  have HSt := Lib.hid hSt
  have HP := Lib.hid hP
  clear hp hs hsrt hks hb hT hSt hP
  go_enter Tryz.func53, Tryz.ntmps53
  go_wp2_with fail
  refine (trim_any w p hps).mono ?_
  rintro e w1 ⟨rfl, hw1⟩
  rw [hw1]
  clear hw1 w1
  obtain ⟨fr, hfr⟩ : ∃ fr, front p = fr := ⟨_, rfl⟩
  have Hfr := Lib.hid hfr
  have hfr2 : trim p ++ ⟨#[47]⟩ = fr := hfr
  have htz : ¬ (9223372036854775807 < (trim p).size + 1) := by
    have h1 : (trim p).size = (Lib.trimSuffix p.data.toList [47]).length := rfl
    have h2 : (Lib.trimSuffix p.data.toList [47]).length ≤ p.data.toList.length := by
      unfold Lib.trimSuffix
      split
      · exact List.length_take_le' _ _
      · exact Nat.le_refl _
    have h3 : p.size = p.data.toList.length := (Array.length_toList (xs := p.data)).symm
    omega
  clear hfr hps
  go_wp2
  clear hfr2 htz
  go_loopg [7] (fromK t.list fr).length (fun m c wr => ∃ ck, c = .string ck ∧ Hid (m = (fromK t.list ck).length ∧ Below w0.heap.size w0 wr ∧ ∃ acc K' W R, St wr K' acc ∧ But K w wr ∧ Gro w K K' ∧ fromK t.list ck = W ++ R ∧ (∀ x ∈ W, pre fr x.1 = true) ∧ (∀ x ∈ R, pre fr x.1 = false) ∧ toldL go acc W = toldL go [] (within t.list fr) ∧ acc.length + (W ++ R).length ≤ t.size))
  case atStart =>
    obtain ⟨R, h1, h2⟩ := within_head Hsrt.out fr
    refine ⟨fr, rfl, rfl, Hb.out, [], K, within t.list fr, R, HSt.out, But.refl _ _, Gro.refl _ _, h1, fun x hx => (List.mem_filter.1 hx).2, h2, rfl, ?_⟩
    rw [← h1, ← PT.list_length]
    rw [List.length_nil, Nat.zero_add]
    exact List.length_filter_le _ _
  case round =>
    obtain ⟨ck, rfl, hr⟩ := hrel
    have Hm := Lib.hid hr.out.1
    have Hbw := Lib.hid hr.out.2.1
    obtain ⟨acc, K1, W, R, hst, hbut, hgro, hWR, hW, hR, htold, hlen⟩ := hr.out.2.2
    have HSt1 := Lib.hid hst
    have Hbut := Lib.hid hbut
    have Hgro := Lib.hid hgro
    have HWR := Lib.hid hWR
    have HW := Lib.hid hW
    have HR := Lib.hid hR
    have Htold := Lib.hid htold
    have Hlen := Lib.hid hlen
    clear hr hst hbut hgro hWR hW hR htold hlen
    go_wp2_with fail
    refine (from_any ck 64 t wr tp (Hp.out.below Hbw.out) (by have := Hs.out; omega)).mono ?_
    rintro e w2 ⟨a, c, rfl, hb2, how⟩
    have hfl : (PT.fromL ck t).take (64 : Int).toNat = (fromK t.list ck).take 64 := by rw [PT.fromL_list ck t Hsrt.out]; rfl
    rw [hfl] at how ⊢
    obtain ⟨L, hL⟩ : ∃ L, (fromK t.list ck).take 64 = L := ⟨_, rfl⟩
    rw [hL] at how ⊢
    have HL := Lib.hid hL
    have HRow := Lib.hid (Row.owned how)
    have Hak : Hid (∀ g o, a = some ⟨g, o, none⟩ → g ∉ K1) := fun g o ha hm => by
      have h1 := HT.out.lt _ _ _ HSt1.out g hm
      rcases how.2 with h2 | ⟨g', cap, cur, h2, h3, _⟩
      · cases h2.1.symm.trans (by rw [ha])
      · rw [ha] at h2
        injection h2 with h2
        injection h2 with h2
        injection h2 with h2
        omega
    have HSt2 := Lib.hid (HT.out.below _ _ _ _ HSt1.out hb2)
    have Hb2 := Lib.hid (Hbw.out.trans (hb2.mono Hbw.out.size))
    have Hbut2 := Lib.hid (Hbut.out.trans (But.of_below (S := K) hb2))
    have hL64 : L.length ≤ 64 := by rw [← hL]; exact List.length_take_le _ _
    clear hfl hL how hb2
    go_wp2
    obtain ⟨W2, hW2⟩ : ∃ W2, w2 = W2 := ⟨_, rfl⟩
    rw [hW2] at HRow HSt2 Hb2 Hbut2 ⊢
    clear hW2 w2
    clear HSt1 Hbut Hbw wr
    go_loopg [20] L.length (fun m i wr => ∃ j : Nat, j ≤ L.length ∧ i = .int .i64 j ∧ Hid (m = L.length - j ∧ Below w0.heap.size w0 wr ∧ Row wr a (cellsOf L) ∧ ∃ acc K' W', St wr K' acc ∧ But K w wr ∧ Gro w K K' ∧ (∀ g o, a = some ⟨g, o, none⟩ → g ∉ K') ∧ (fromK t.list ck).drop j = W' ++ R ∧ (∀ x ∈ W', pre fr x.1 = true) ∧ toldL go acc W' = toldL go [] (within t.list fr) ∧ acc.length + (W' ++ R).length ≤ t.size))
    case atStart => exact ⟨0, Nat.zero_le _, rfl, rfl, Hb2.out, HRow.out, acc, K1, W, HSt2.out, Hbut2.out, Hgro.out, Hak.out, HWR.out, HW.out, Htold.out, Hlen.out⟩
    case round =>
      clear HRow HSt2 Hb2 Hbut2 Hak Hgro HWR HW Htold Hlen
      clear acc K1 W
      obtain ⟨j, hj, rfl, hr⟩ := hrel
      have Hm2 := Lib.hid hr.out.1
      have Hbw := Lib.hid hr.out.2.1
      have HRow := Lib.hid hr.out.2.2.1
      obtain ⟨acc, K1, W, hst, hbut, hgro, hak, hWR, hW, htold, hlen⟩ := hr.out.2.2.2
      have HSt1 := Lib.hid hst
      have Hbut := Lib.hid hbut
      have Hgro := Lib.hid hgro
      have Hak := Lib.hid hak
      have HWR := Lib.hid hWR
      have HW := Lib.hid hW
      have Htold := Lib.hid htold
      have Hlen := Lib.hid hlen
      clear hr hst hbut hgro hak hWR hW htold hlen
      by_cases hlt : j < L.length
      · have hlt2 : (j : Int) < (L.length : Int) := by omega
        obtain ⟨g, o, rfl, hAt⟩ := nrow_at (enc := pairL) pairL_length HRow.out hlt (by omega)
        have hFj : j < (fromK t.list ck).length := by have h := HL.out; rw [← h, List.length_take] at hlt; omega
        have hLj : L[j] = (fromK t.list ck)[j] := by
          have h := HL.out
          subst h
          rw [List.getElem_take]
        have hdr : (fromK t.list ck).drop j = (fromK t.list ck)[j] :: (fromK t.list ck).drop (j + 1) := List.drop_eq_getElem_cons hFj
        rw [hLj] at hAt
        have hmem : (fromK t.list ck)[j] ∈ t.list := (List.mem_filter.1 (List.getElem_mem hFj)).1
        generalize (fromK t.list ck)[j] = x at *
        obtain ⟨k, v⟩ := x
        have Hmem := Lib.hid hmem
        clear hmem
        have c0 : wr.cell? ⟨g, o + j * 2, none⟩ = some (.string k) := hAt 0 _ rfl
        have c1 : wr.cell? ⟨g, o + j * 2 + 1, none⟩ = some (.string v) := hAt 1 _ rfl
        clear hAt hLj
        have Hgl : Hid (g < wr.heap.size) := cell_lt c0
        have HC : Hid (wr.cell? ⟨g, o + j * 2, none⟩ = some (.string k) ∧ wr.cell? ⟨g, o + j * 2 + 1, none⟩ = some (.string v)) := ⟨c0, c1⟩
        go_wp2_with fail
        clear c0 c1 HC
        obtain ⟨W3, hW3⟩ : ∃ W3, wr.alloc (.cells #[.string k, .string v] 98) = W3 := ⟨_, rfl⟩
        have hb3 : Below wr.heap.size wr W3 := by rw [← hW3]; exact (Below.refl _ _).alloc (Nat.le_refl _) _
        have HB3 : Hid (Blk W3 wr.heap.size [.string k, .string v]) := by unfold Hid; rw [← hW3]; exact Blk.new wr #[.string k, .string v] _
        have HSt3 := Lib.hid (HT.out.below _ _ _ _ HSt1.out hb3)
        have Hgl : Hid (g < W3.heap.size) := Nat.lt_of_lt_of_le Hgl.out hb3.size
        have Hb3 := Lib.hid (Hbw.out.trans (hb3.mono Hbw.out.size))
        have Hbut3 := Lib.hid (Hbut.out.trans (But.of_below (S := K) hb3))
        have HRow3 := Lib.hid (HRow.out.below hb3)
        obtain ⟨xb, hxb⟩ : ∃ xb, wr.heap.size = xb := ⟨_, rfl⟩
        rw [hW3]
        rw [hxb] at HB3 ⊢
        clear hb3 hW3 hxb HSt1 Hbw Hbut HRow
        refine (pre_any W3 k fr).mono ?_
        rintro e w3 ⟨rfl, hw3⟩
        rw [hw3]
        clear hw3 w3
        cases hpre : pre fr k with
        | false =>
          have hWn : W = [] := by
            cases hWc : W with
            | nil => rfl
            | cons y W' =>
              have h := HWR.out
              rw [hdr, hWc, List.cons_append] at h
              injection h with h1 h2
              have h3 := HW.out y (by rw [hWc]; exact List.mem_cons_self ..)
              rw [← h1, hpre] at h3; cases h3
          have Hres : Hid (acc = toldL go [] (within t.list (front p))) := by
            have h := Htold.out
            rw [hWn, toldL] at h
            unfold Hid; rw [Hfr.out]; exact h
          clear hWn hdr hpre
          go_wp2
          refine bodyPost_ret (results_none (by kernel_rfl) _ _ _) rfl ?_
          exact ⟨rfl, K1, by rw [← Hres.out]; exact HSt3.out, Hbut3.out, Hgro.out⟩
        | true =>
          obtain ⟨W', hWc⟩ : ∃ W', W = (k, v) :: W' := by
            cases hWc : W with
            | nil =>
              have h := HWR.out
              rw [hdr, hWc, List.nil_append] at h
              have h3 := HR.out (k, v) (by rw [← h]; exact List.mem_cons_self ..)
              rw [show ((k, v) : Pr).1 = k from rfl, hpre] at h3; cases h3
            | cons y W' =>
              have h := HWR.out
              rw [hdr, hWc, List.cons_append] at h
              injection h with h1 h2
              exact ⟨W', by rw [h1]⟩
          subst hWc
          have HWR' : Hid ((fromK t.list ck).drop (j + 1) = W' ++ R) := by
            have h := HWR.out
            rw [hdr, List.cons_append] at h
            injection h with h1 h2
          have hal : acc.length < 4096 := by
            have h1 := Hlen.out
            have h2 := Hs.out
            rw [List.cons_append, List.length_cons] at h1
            omega
          have b0 := HB3.out.cell (i := 0) rfl
          have b1 := HB3.out.cell (i := 1) rfl
          have Hpre := Lib.hid hpre
          clear hdr hpre HWR
          go_wp2_with fail
          refine (HT.out.call W3 K1 acc (k, v) HSt3.out hal (HP.out (k, v) Hmem.out (by rw [Hfr.out]; exact Hpre.out))).mono ?_
          rintro e w4 ⟨rfl, K4, hst4, hb4, hg4⟩
          clear b0 b1
          have HSt4 := Lib.hid hst4
          have Hbut4 := Lib.hid (But.gro Hbut3.out hb4 Hgro.out)
          have Hgro4 := Lib.hid (Hgro.out.trans hg4 Hbut3.out.size)
          cases hgo : go acc (k, v) with
          | false =>
            have Hres : Hid (acc ++ [(k, v)] = toldL go [] (within t.list (front p))) := by
              have h := Htold.out
              rw [toldL, if_neg (by rw [hgo]; simp)] at h
              unfold Hid; rw [Hfr.out]; exact h
            clear hst4 hb4 hg4 hgo
            go_wp2
            refine bodyPost_ret (results_none (by kernel_rfl) _ _ _) rfl ?_
            exact ⟨rfl, K4, by rw [← Hres.out]; exact HSt4.out, Hbut4.out, Hgro4.out⟩
          | true =>
            have Htold' : Hid (toldL go (acc ++ [(k, v)]) W' = toldL go [] (within t.list fr)) := by
              have h := Htold.out
              rw [toldL, if_pos hgo] at h
              exact h
            have Hb4 := Lib.hid (Hb3.out.trans (hb4.below Hb3.out.size (HT.out.base _ _ _ HSt3.out)))
            have HRow4 := Lib.hid (HRow3.out.but hb4 Hak.out)
            have Hak4 : Hid (∀ g' o', (some ⟨g, o, none⟩ : Option Addr) = some ⟨g', o', none⟩ → g' ∉ K4) := fun g' o' he hm => by
              cases he
              rcases hg4 g hm with h1 | h1
              · exact Hak.out g o rfl h1
              · have := Hgl.out; omega
            have Hlen4 : Hid ((acc ++ [(k, v)]).length + (W' ++ R).length ≤ t.size) := by
              have h := Hlen.out
              unfold Hid
              simp only [List.length_append, List.length_cons, List.length_nil] at h ⊢
              omega
            have HW4 : Hid (∀ x ∈ W', pre fr x.1 = true) := fun x hx => HW.out x (List.mem_cons_of_mem _ hx)
            clear hst4 hb4 hg4 hgo
            go_wp2
            go_roundg (L.length - (j + 1))
            case measure => have := Hm2.out; omega
            case rel => exact ⟨j + 1, by omega, by go_num, rfl, Hb4.out, HRow4.out, acc ++ [(k, v)], K4, W', HSt4.out, Hbut4.out, Hgro4.out, Hak4.out, HWR'.out, HW4.out, Htold'.out, Hlen4.out⟩
      · have hge : ¬ (j : Int) < (L.length : Int) := by omega
        have hjL : j = L.length := by omega
        subst hjL
        have HLl : Hid (L.length = min 64 (fromK t.list ck).length) := by unfold Hid; rw [← HL.out, List.length_take]
        by_cases h64 : L.length < 64
        · have hWn : W = [] := by
            have h := HWR.out
            rw [List.drop_eq_nil_of_le (by have := HLl.out; omega)] at h
            exact (List.append_eq_nil_iff.1 h.symm).1
          have Hres : Hid (acc = toldL go [] (within t.list (front p))) := by
            have h := Htold.out
            rw [hWn, toldL] at h
            unfold Hid; rw [Hfr.out]; exact h
          have h64i : (L.length : Int) < 64 := by omega
          clear hWn
          go_wp2
          refine bodyPost_ret (results_none (by kernel_rfl) _ _ _) rfl ?_
          exact ⟨rfl, K1, by rw [← Hres.out]; exact HSt1.out, Hbut.out, Hgro.out⟩
        · have h63i : (63 : Int) < (L.length : Int) := by omega
          have h64i : ¬ (L.length : Int) < 64 := by omega
          have HL64 : Hid (L.length = 64) := by unfold Hid; omega
          obtain ⟨g, o, rfl, hAt⟩ := nrow_at (enc := pairL) pairL_length HRow.out (i := 63) (by omega) (by omega)
          have hF63 : 63 < (fromK t.list ck).length := by have := HLl.out; omega
          have hL63 : L[63]'(by omega) = (fromK t.list ck)[63] := by
            have h := HL.out
            subst h
            rw [List.getElem_take]
          rw [hL63] at hAt
          have hnext := page_next Hsrt.out hF63
          have hkz : ((fromK t.list ck)[63]).1.size ≤ 2^40 := Hks.out _ (List.mem_filter.1 (List.getElem_mem hF63)).1
          generalize (fromK t.list ck)[63] = x at hAt hnext hkz
          obtain ⟨k, v⟩ := x
          have c0 : wr.cell? ⟨g, o + 126, none⟩ = some (.string k) := hAt 0 _ rfl
          have hnk : k ++ ⟨#[0]⟩ = next k := rfl
          have hkz2 : ¬ (9223372036854775807 < k.size + 1) := by have : k.size ≤ 2^40 := hkz; omega
          have HWR64 : Hid (fromK t.list (next k) = W ++ R) := by
            have h := HWR.out
            rw [HL64.out] at h
            unfold Hid
            rw [← h]; exact hnext
          have Hnx : Hid ((fromK t.list (next k)).length + 64 ≤ (fromK t.list ck).length) := by
            unfold Hid
            rw [show fromK t.list (next k) = (fromK t.list ck).drop (63 + 1) from hnext, List.length_drop]; omega
          clear hAt hL63 hnext hkz hlt h64 hge
          go_wp2
          go_roundg (fromK t.list (next k)).length
          case measure => have := Hm.out; have := Hnx.out; omega
          case rel => exact ⟨next k, rfl, rfl, Hbw.out, acc, K1, W, R, HSt1.out, Hbut.out, Hgro.out, HWR64.out, HW.out, HR.out, Htold.out, Hlen.out⟩
set_option maxHeartbeats 4000000 in
set_option maxRecDepth 100000 in
theorem within_keys (w0 w : World) (tp : Option Addr) (t : PT) (hp : Rep w0 tp t) (hs : t.size ≤ 4096) (hsrt : Srt t.list) (hks : ∀ x ∈ t.list, x.1.size ≤ 2^40) (hb : Below w0.heap.size w0 w) (p : ByteArray) (hps : p.size ≤ 2^30)
    (caps : Array Value) (St : World → List Nat → List Pr → Prop) (go : List Pr → Pr → Bool) (P : Pr → Prop) (hP : ∀ x ∈ t.list, pre (front p) x.1 = true → P x) (hT : Told 82 caps St go w0 P) (K : List Nat) (hSt : St w K []) :
    Calls Tryz.prog 53 #[.pointer tp, .string p, .func (.func 82) #[] caps] w fun e w' => e = .returned (.tuple #[]) ∧ ∃ K', St w' K' (toldL go [] (within t.list (front p))) ∧ But K w w' ∧ Gro w K K' := by
  have Hp := Lib.hid hp
  have Hs := Lib.hid hs
  have Hsrt := Lib.hid hsrt
  have Hks := Lib.hid hks
  have Hb := Lib.hid hb
  have HT := Lib.hid hT
  have HSt := Lib.hid hSt
  have HP := Lib.hid hP
  clear hp hs hsrt hks hb hT hSt hP
  go_enter Tryz.func53, Tryz.ntmps53
  go_wp2_with fail
  refine (trim_any w p hps).mono ?_
  rintro e w1 ⟨rfl, hw1⟩
  rw [hw1]
  clear hw1 w1
  obtain ⟨fr, hfr⟩ : ∃ fr, front p = fr := ⟨_, rfl⟩
  have Hfr := Lib.hid hfr
  have hfr2 : trim p ++ ⟨#[47]⟩ = fr := hfr
  have htz : ¬ (9223372036854775807 < (trim p).size + 1) := by
    have h1 : (trim p).size = (Lib.trimSuffix p.data.toList [47]).length := rfl
    have h2 : (Lib.trimSuffix p.data.toList [47]).length ≤ p.data.toList.length := by
      unfold Lib.trimSuffix
      split
      · exact List.length_take_le' _ _
      · exact Nat.le_refl _
    have h3 : p.size = p.data.toList.length := (Array.length_toList (xs := p.data)).symm
    omega
  clear hfr hps
  go_wp2
  clear hfr2 htz
  go_loopg [7] (fromK t.list fr).length (fun m c wr => ∃ ck, c = .string ck ∧ Hid (m = (fromK t.list ck).length ∧ Below w0.heap.size w0 wr ∧ ∃ acc K' W R, St wr K' acc ∧ But K w wr ∧ Gro w K K' ∧ fromK t.list ck = W ++ R ∧ (∀ x ∈ W, pre fr x.1 = true) ∧ (∀ x ∈ R, pre fr x.1 = false) ∧ toldL go acc W = toldL go [] (within t.list fr) ∧ acc.length + (W ++ R).length ≤ t.size))
  case atStart =>
    obtain ⟨R, h1, h2⟩ := within_head Hsrt.out fr
    refine ⟨fr, rfl, rfl, Hb.out, [], K, within t.list fr, R, HSt.out, But.refl _ _, Gro.refl _ _, h1, fun x hx => (List.mem_filter.1 hx).2, h2, rfl, ?_⟩
    rw [← h1, ← PT.list_length]
    rw [List.length_nil, Nat.zero_add]
    exact List.length_filter_le _ _
  case round =>
    obtain ⟨ck, rfl, hr⟩ := hrel
    have Hm := Lib.hid hr.out.1
    have Hbw := Lib.hid hr.out.2.1
    obtain ⟨acc, K1, W, R, hst, hbut, hgro, hWR, hW, hR, htold, hlen⟩ := hr.out.2.2
    have HSt1 := Lib.hid hst
    have Hbut := Lib.hid hbut
    have Hgro := Lib.hid hgro
    have HWR := Lib.hid hWR
    have HW := Lib.hid hW
    have HR := Lib.hid hR
    have Htold := Lib.hid htold
    have Hlen := Lib.hid hlen
    clear hr hst hbut hgro hWR hW hR htold hlen
    go_wp2_with fail
    refine (from_any ck 64 t wr tp (Hp.out.below Hbw.out) (by have := Hs.out; omega)).mono ?_
    rintro e w2 ⟨a, c, rfl, hb2, how⟩
    have hfl : (PT.fromL ck t).take (64 : Int).toNat = (fromK t.list ck).take 64 := by rw [PT.fromL_list ck t Hsrt.out]; rfl
    rw [hfl] at how ⊢
    obtain ⟨L, hL⟩ : ∃ L, (fromK t.list ck).take 64 = L := ⟨_, rfl⟩
    rw [hL] at how ⊢
    have HL := Lib.hid hL
    have HRow := Lib.hid (Row.owned how)
    have Hak : Hid (∀ g o, a = some ⟨g, o, none⟩ → g ∉ K1) := fun g o ha hm => by
      have h1 := HT.out.lt _ _ _ HSt1.out g hm
      rcases how.2 with h2 | ⟨g', cap, cur, h2, h3, _⟩
      · cases h2.1.symm.trans (by rw [ha])
      · rw [ha] at h2
        injection h2 with h2
        injection h2 with h2
        injection h2 with h2
        omega
    have HSt2 := Lib.hid (HT.out.below _ _ _ _ HSt1.out hb2)
    have Hb2 := Lib.hid (Hbw.out.trans (hb2.mono Hbw.out.size))
    have Hbut2 := Lib.hid (Hbut.out.trans (But.of_below (S := K) hb2))
    have hL64 : L.length ≤ 64 := by rw [← hL]; exact List.length_take_le _ _
    clear hfl hL how hb2
    go_wp2
    obtain ⟨W2, hW2⟩ : ∃ W2, w2 = W2 := ⟨_, rfl⟩
    rw [hW2] at HRow HSt2 Hb2 Hbut2 ⊢
    clear hW2 w2
    clear HSt1 Hbut Hbw wr
    go_loopg [20] L.length (fun m i wr => ∃ j : Nat, j ≤ L.length ∧ i = .int .i64 j ∧ Hid (m = L.length - j ∧ Below w0.heap.size w0 wr ∧ Row wr a (cellsOf L) ∧ ∃ acc K' W', St wr K' acc ∧ But K w wr ∧ Gro w K K' ∧ (∀ g o, a = some ⟨g, o, none⟩ → g ∉ K') ∧ (fromK t.list ck).drop j = W' ++ R ∧ (∀ x ∈ W', pre fr x.1 = true) ∧ toldL go acc W' = toldL go [] (within t.list fr) ∧ acc.length + (W' ++ R).length ≤ t.size))
    case atStart => exact ⟨0, Nat.zero_le _, rfl, rfl, Hb2.out, HRow.out, acc, K1, W, HSt2.out, Hbut2.out, Hgro.out, Hak.out, HWR.out, HW.out, Htold.out, Hlen.out⟩
    case round =>
      clear HRow HSt2 Hb2 Hbut2 Hak Hgro HWR HW Htold Hlen
      clear acc K1 W
      obtain ⟨j, hj, rfl, hr⟩ := hrel
      have Hm2 := Lib.hid hr.out.1
      have Hbw := Lib.hid hr.out.2.1
      have HRow := Lib.hid hr.out.2.2.1
      obtain ⟨acc, K1, W, hst, hbut, hgro, hak, hWR, hW, htold, hlen⟩ := hr.out.2.2.2
      have HSt1 := Lib.hid hst
      have Hbut := Lib.hid hbut
      have Hgro := Lib.hid hgro
      have Hak := Lib.hid hak
      have HWR := Lib.hid hWR
      have HW := Lib.hid hW
      have Htold := Lib.hid htold
      have Hlen := Lib.hid hlen
      clear hr hst hbut hgro hak hWR hW htold hlen
      by_cases hlt : j < L.length
      · have hlt2 : (j : Int) < (L.length : Int) := by omega
        obtain ⟨g, o, rfl, hAt⟩ := nrow_at (enc := pairL) pairL_length HRow.out hlt (by omega)
        have hFj : j < (fromK t.list ck).length := by have h := HL.out; rw [← h, List.length_take] at hlt; omega
        have hLj : L[j] = (fromK t.list ck)[j] := by
          have h := HL.out
          subst h
          rw [List.getElem_take]
        have hdr : (fromK t.list ck).drop j = (fromK t.list ck)[j] :: (fromK t.list ck).drop (j + 1) := List.drop_eq_getElem_cons hFj
        rw [hLj] at hAt
        have hmem : (fromK t.list ck)[j] ∈ t.list := (List.mem_filter.1 (List.getElem_mem hFj)).1
        generalize (fromK t.list ck)[j] = x at *
        obtain ⟨k, v⟩ := x
        have Hmem := Lib.hid hmem
        clear hmem
        have c0 : wr.cell? ⟨g, o + j * 2, none⟩ = some (.string k) := hAt 0 _ rfl
        have c1 : wr.cell? ⟨g, o + j * 2 + 1, none⟩ = some (.string v) := hAt 1 _ rfl
        clear hAt hLj
        have Hgl : Hid (g < wr.heap.size) := cell_lt c0
        have HC : Hid (wr.cell? ⟨g, o + j * 2, none⟩ = some (.string k) ∧ wr.cell? ⟨g, o + j * 2 + 1, none⟩ = some (.string v)) := ⟨c0, c1⟩
        go_wp2_with fail
        clear c0 c1 HC
        obtain ⟨W3, hW3⟩ : ∃ W3, wr.alloc (.cells #[.string k, .string v] 98) = W3 := ⟨_, rfl⟩
        have hb3 : Below wr.heap.size wr W3 := by rw [← hW3]; exact (Below.refl _ _).alloc (Nat.le_refl _) _
        have HB3 : Hid (Blk W3 wr.heap.size [.string k, .string v]) := by unfold Hid; rw [← hW3]; exact Blk.new wr #[.string k, .string v] _
        have HSt3 := Lib.hid (HT.out.below _ _ _ _ HSt1.out hb3)
        have Hgl : Hid (g < W3.heap.size) := Nat.lt_of_lt_of_le Hgl.out hb3.size
        have Hb3 := Lib.hid (Hbw.out.trans (hb3.mono Hbw.out.size))
        have Hbut3 := Lib.hid (Hbut.out.trans (But.of_below (S := K) hb3))
        have HRow3 := Lib.hid (HRow.out.below hb3)
        obtain ⟨xb, hxb⟩ : ∃ xb, wr.heap.size = xb := ⟨_, rfl⟩
        rw [hW3]
        rw [hxb] at HB3 ⊢
        clear hb3 hW3 hxb HSt1 Hbw Hbut HRow
        refine (pre_any W3 k fr).mono ?_
        rintro e w3 ⟨rfl, hw3⟩
        rw [hw3]
        clear hw3 w3
        cases hpre : pre fr k with
        | false =>
          have hWn : W = [] := by
            cases hWc : W with
            | nil => rfl
            | cons y W' =>
              have h := HWR.out
              rw [hdr, hWc, List.cons_append] at h
              injection h with h1 h2
              have h3 := HW.out y (by rw [hWc]; exact List.mem_cons_self ..)
              rw [← h1, hpre] at h3; cases h3
          have Hres : Hid (acc = toldL go [] (within t.list (front p))) := by
            have h := Htold.out
            rw [hWn, toldL] at h
            unfold Hid; rw [Hfr.out]; exact h
          clear hWn hdr hpre
          go_wp2
          refine bodyPost_ret (results_none (by kernel_rfl) _ _ _) rfl ?_
          exact ⟨rfl, K1, by rw [← Hres.out]; exact HSt3.out, Hbut3.out, Hgro.out⟩
        | true =>
          obtain ⟨W', hWc⟩ : ∃ W', W = (k, v) :: W' := by
            cases hWc : W with
            | nil =>
              have h := HWR.out
              rw [hdr, hWc, List.nil_append] at h
              have h3 := HR.out (k, v) (by rw [← h]; exact List.mem_cons_self ..)
              rw [show ((k, v) : Pr).1 = k from rfl, hpre] at h3; cases h3
            | cons y W' =>
              have h := HWR.out
              rw [hdr, hWc, List.cons_append] at h
              injection h with h1 h2
              exact ⟨W', by rw [h1]⟩
          subst hWc
          have HWR' : Hid ((fromK t.list ck).drop (j + 1) = W' ++ R) := by
            have h := HWR.out
            rw [hdr, List.cons_append] at h
            injection h with h1 h2
          have hal : acc.length < 4096 := by
            have h1 := Hlen.out
            have h2 := Hs.out
            rw [List.cons_append, List.length_cons] at h1
            omega
          have b0 := HB3.out.cell (i := 0) rfl
          have b1 := HB3.out.cell (i := 1) rfl
          have Hpre := Lib.hid hpre
          clear hdr hpre HWR
          go_wp2_with fail
          refine (HT.out.call W3 K1 acc (k, v) HSt3.out hal (HP.out (k, v) Hmem.out (by rw [Hfr.out]; exact Hpre.out))).mono ?_
          rintro e w4 ⟨rfl, K4, hst4, hb4, hg4⟩
          clear b0 b1
          have HSt4 := Lib.hid hst4
          have Hbut4 := Lib.hid (But.gro Hbut3.out hb4 Hgro.out)
          have Hgro4 := Lib.hid (Hgro.out.trans hg4 Hbut3.out.size)
          cases hgo : go acc (k, v) with
          | false =>
            have Hres : Hid (acc ++ [(k, v)] = toldL go [] (within t.list (front p))) := by
              have h := Htold.out
              rw [toldL, if_neg (by rw [hgo]; simp)] at h
              unfold Hid; rw [Hfr.out]; exact h
            clear hst4 hb4 hg4 hgo
            go_wp2
            refine bodyPost_ret (results_none (by kernel_rfl) _ _ _) rfl ?_
            exact ⟨rfl, K4, by rw [← Hres.out]; exact HSt4.out, Hbut4.out, Hgro4.out⟩
          | true =>
            have Htold' : Hid (toldL go (acc ++ [(k, v)]) W' = toldL go [] (within t.list fr)) := by
              have h := Htold.out
              rw [toldL, if_pos hgo] at h
              exact h
            have Hb4 := Lib.hid (Hb3.out.trans (hb4.below Hb3.out.size (HT.out.base _ _ _ HSt3.out)))
            have HRow4 := Lib.hid (HRow3.out.but hb4 Hak.out)
            have Hak4 : Hid (∀ g' o', (some ⟨g, o, none⟩ : Option Addr) = some ⟨g', o', none⟩ → g' ∉ K4) := fun g' o' he hm => by
              cases he
              rcases hg4 g hm with h1 | h1
              · exact Hak.out g o rfl h1
              · have := Hgl.out; omega
            have Hlen4 : Hid ((acc ++ [(k, v)]).length + (W' ++ R).length ≤ t.size) := by
              have h := Hlen.out
              unfold Hid
              simp only [List.length_append, List.length_cons, List.length_nil] at h ⊢
              omega
            have HW4 : Hid (∀ x ∈ W', pre fr x.1 = true) := fun x hx => HW.out x (List.mem_cons_of_mem _ hx)
            clear hst4 hb4 hg4 hgo
            go_wp2
            go_roundg (L.length - (j + 1))
            case measure => have := Hm2.out; omega
            case rel => exact ⟨j + 1, by omega, by go_num, rfl, Hb4.out, HRow4.out, acc ++ [(k, v)], K4, W', HSt4.out, Hbut4.out, Hgro4.out, Hak4.out, HWR'.out, HW4.out, Htold'.out, Hlen4.out⟩
      · have hge : ¬ (j : Int) < (L.length : Int) := by omega
        have hjL : j = L.length := by omega
        subst hjL
        have HLl : Hid (L.length = min 64 (fromK t.list ck).length) := by unfold Hid; rw [← HL.out, List.length_take]
        by_cases h64 : L.length < 64
        · have hWn : W = [] := by
            have h := HWR.out
            rw [List.drop_eq_nil_of_le (by have := HLl.out; omega)] at h
            exact (List.append_eq_nil_iff.1 h.symm).1
          have Hres : Hid (acc = toldL go [] (within t.list (front p))) := by
            have h := Htold.out
            rw [hWn, toldL] at h
            unfold Hid; rw [Hfr.out]; exact h
          have h64i : (L.length : Int) < 64 := by omega
          clear hWn
          go_wp2
          refine bodyPost_ret (results_none (by kernel_rfl) _ _ _) rfl ?_
          exact ⟨rfl, K1, by rw [← Hres.out]; exact HSt1.out, Hbut.out, Hgro.out⟩
        · have h63i : (63 : Int) < (L.length : Int) := by omega
          have h64i : ¬ (L.length : Int) < 64 := by omega
          have HL64 : Hid (L.length = 64) := by unfold Hid; omega
          obtain ⟨g, o, rfl, hAt⟩ := nrow_at (enc := pairL) pairL_length HRow.out (i := 63) (by omega) (by omega)
          have hF63 : 63 < (fromK t.list ck).length := by have := HLl.out; omega
          have hL63 : L[63]'(by omega) = (fromK t.list ck)[63] := by
            have h := HL.out
            subst h
            rw [List.getElem_take]
          rw [hL63] at hAt
          have hnext := page_next Hsrt.out hF63
          have hkz : ((fromK t.list ck)[63]).1.size ≤ 2^40 := Hks.out _ (List.mem_filter.1 (List.getElem_mem hF63)).1
          generalize (fromK t.list ck)[63] = x at hAt hnext hkz
          obtain ⟨k, v⟩ := x
          have c0 : wr.cell? ⟨g, o + 126, none⟩ = some (.string k) := hAt 0 _ rfl
          have hnk : k ++ ⟨#[0]⟩ = next k := rfl
          have hkz2 : ¬ (9223372036854775807 < k.size + 1) := by have : k.size ≤ 2^40 := hkz; omega
          have HWR64 : Hid (fromK t.list (next k) = W ++ R) := by
            have h := HWR.out
            rw [HL64.out] at h
            unfold Hid
            rw [← h]; exact hnext
          have Hnx : Hid ((fromK t.list (next k)).length + 64 ≤ (fromK t.list ck).length) := by
            unfold Hid
            rw [show fromK t.list (next k) = (fromK t.list ck).drop (63 + 1) from hnext, List.length_drop]; omega
          clear hAt hL63 hnext hkz hlt h64 hge
          go_wp2
          go_roundg (fromK t.list (next k)).length
          case measure => have := Hm.out; have := Hnx.out; omega
          case rel => exact ⟨next k, rfl, rfl, Hbw.out, acc, K1, W, R, HSt1.out, Hbut.out, Hgro.out, HWR64.out, HW.out, HR.out, Htold.out, Hlen.out⟩
end Go.Proofs.YtoahjhogjjdkhaaGreatDoor
