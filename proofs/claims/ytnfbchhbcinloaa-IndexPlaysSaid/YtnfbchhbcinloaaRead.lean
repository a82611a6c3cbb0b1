/- Reading plain arguments: values of bools, integers, strings, and structs and arrays of these; slices of such. -/
import Derived.Test.YtnfbchhbcinloaaLaws
import Derived.ProofKit
import Derived.OpenShut
import Derived.ShutString
import Derived.ChangeOld
import Derived.SizedLaws
import Derived.Deep.Slices
namespace Go.XR
open Go Go.RowKit

inductive Leaf where
  | bool
  | int (k : IntKind)
  | str
def LeafOk : Leaf → Value → Prop
  | .bool, v => ∃ b, v = .bool b
  | .int k, v => ∃ n, v = .int k n ∧ (Lit.int k n).wf = true
  | .str, v => ∃ s, v = .string s ∧ s.size ≤ maxLen
inductive Fits : List Leaf → List Value → Prop where
  | nil : Fits [] []
  | cons {l : Leaf} {v : Value} {ls : List Leaf} {vs : List Value} : LeafOk l v → Fits ls vs → Fits (l :: ls) (v :: vs)

theorem Fits.length : ∀ {ls : List Leaf} {vs : List Value}, Fits ls vs → vs.length = ls.length
  | _, _, .nil => rfl
  | _, _, .cons _ h => by simp [h.length]
theorem Fits.append : ∀ {a b : List Leaf} {x y : List Value}, Fits a x → Fits b y → Fits (a ++ b) (x ++ y)
  | _, _, _, _, .nil, h => h
  | _, _, _, _, .cons h1 h2, h => .cons h1 (h2.append h)

def leafsF (P : Program) (rec : TypeId → Option (List Leaf)) : Nat → List Field → Option (List Leaf)
  | _, [] => some []
  | off, f :: fs =>
    match rec f.type with
    | none => none
    | some l => if f.offset == off && P.cellsOf f.type == l.length then (leafsF P rec (off + l.length) fs).map (l ++ ·) else none

def leafs (P : Program) : Nat → TypeId → Option (List Leaf)
  | 0, _ => none
  | f + 1, t =>
    match P.underlying t with
    | some .bool => some [.bool]
    | some (.int k) => some [.int k]
    | some .string => some [.str]
    | some (.struct fs) => (leafsF P (leafs P f) 0 fs.toList).bind fun l => if P.cellsOf t == l.length then some l else none
    | some (.array n e) => (leafs P f e).bind fun l => if P.cellsOf e == l.length && P.cellsOf t == n * l.length then some (List.replicate n l).flatten else none
    | _ => none

section
variable {H : Type} {enc : TypeId × Value → H} {P : Program} {w : World} {base : Nat} {spare : Nat → Bool} {held : Bool}

theorem fits_fields {rec : TypeId → Option (List Leaf)} {g : TypeId → List Value → Option (DataW H × List MemPlace)} (hrec : ∀ t l cs x, rec t = some l → g t cs = some x → Fits l cs) (cs : List Value) :
    ∀ (fs : List Field) (off : Nat) (ls : List Leaf), leafsF P rec off fs = some ls →
      (∀ (i : Nat) (f : Field), fs[i]? = some f → ∃ y, g f.type ((cs.drop f.offset).take (P.cellsOf f.type)) = some y) → Fits ls ((cs.drop off).take ls.length)
  | [], _, _, h, _ => by cases h; simp; exact .nil
  | f :: fs, off, ls, h, hx => by
    simp only [leafsF] at h
    cases hr : rec f.type with
    | none => rw [hr] at h; cases h
    | some l =>
      rw [hr] at h
      simp only at h
      split at h
      · rename_i hc
        simp only [Bool.and_eq_true, beq_iff_eq] at hc
        cases hl : leafsF P rec (off + l.length) fs with
        | none => rw [hl] at h; cases h
        | some ls' =>
          rw [hl] at h
          cases h
          obtain ⟨y, hy⟩ := hx 0 f rfl
          have h1 := hrec _ _ _ _ hr hy
          have h2 := fits_fields hrec cs fs _ _ hl fun i f' hf => hx (i + 1) f' hf
          rw [hc.1, hc.2] at h1
          have := h1.append h2
          rw [List.length_append, List.take_add, List.drop_drop]
          exact this
      · cases h

theorem fits_array {l : List Leaf} {g : List Value → Option (DataW H × List MemPlace)} (hrec : ∀ cs x, g cs = some x → Fits l cs) (cs : List Value) :
    ∀ (n off : Nat), (∀ i, off ≤ i → i < off + n → ∃ y, g ((cs.drop (i * l.length)).take l.length) = some y) →
      Fits (List.replicate n l).flatten ((cs.drop (off * l.length)).take (n * l.length))
  | 0, _, _ => by simp; exact .nil
  | n + 1, off, hx => by
    obtain ⟨y, hy⟩ := hx off (Nat.le_refl _) (by omega)
    have h1 := hrec _ _ hy
    have h2 := fits_array hrec cs n (off + 1) fun i h h' => hx i (by omega) (by omega)
    have := h1.append h2
    rw [List.replicate_succ, List.flatten_cons, show (n + 1) * l.length = l.length + n * l.length from by rw [Nat.add_mul]; omega, List.take_add, List.drop_drop]
    rw [show off * l.length + l.length = (off + 1) * l.length from by rw [Nat.add_mul]; omega]
    exact this

theorem trod_flat : ∀ (f fuel : Nat) (t : TypeId) (ls : List Leaf) (cs : List Value) (x : DataW H × List MemPlace), leafs P f t = some ls → DataW.trod enc P w base spare held fuel t cs = some x → Fits ls cs
  | 0, _, _, _, _, _, h, _ => by cases h
  | f + 1, fuel, t, ls, cs, x, h, hx => by
    simp only [leafs] at h
    split at h
    · rename_i hu
      cases h
      obtain ⟨b, rfl, _⟩ := DataW.trod_bool hu hx
      exact .cons ⟨_, rfl⟩ .nil
    · rename_i k hu
      cases h
      obtain ⟨n, rfl, _, hn⟩ := DataW.trod_int hu hx
      exact .cons ⟨_, rfl, hn⟩ .nil
    · rename_i hu
      cases h
      obtain ⟨n, rfl, _, hn⟩ := DataW.trod_string hu hx
      exact .cons ⟨_, rfl, hn⟩ .nil
    · rename_i fs hu
      cases hl : leafsF P (leafs P f) 0 fs.toList with
      | none => rw [hl] at h; cases h
      | some l =>
        rw [hl] at h
        simp only [Option.bind_some] at h
        split at h
        · rename_i hc
          cases h
          obtain ⟨xs, n, rfl, rfl, hlen, hxl, hall⟩ := DataW.trod_struct hu hx
          have := fits_fields (g := DataW.trod enc P w base spare held n) (fun t l cs x h1 h2 => trod_flat f n t l cs x h1 h2) cs _ _ _ hl fun i g hg => by
            have hi : i < xs.length := by
              rw [hxl]
              have := (List.getElem?_eq_some_iff.1 hg).1
              simpa using this
            exact ⟨_, (hall i g (by simpa using hg)).trans (List.getElem?_eq_getElem hi)⟩
          rw [List.drop_zero, List.take_of_length_le (by rw [hlen]; exact Nat.le_of_eq (beq_iff_eq.1 hc))] at this
          exact this
        · cases h
    · rename_i n e hu
      cases hl : leafs P f e with
      | none => rw [hl] at h; cases h
      | some l =>
        rw [hl] at h
        simp only [Option.bind_some] at h
        split at h
        · rename_i hc
          simp only [Bool.and_eq_true, beq_iff_eq] at hc
          cases h
          obtain ⟨xs, m, rfl, rfl, hlen, hxl, hall⟩ := DataW.trod_array hu hx
          have := fits_array (l := l) (g := DataW.trod enc P w base spare held m e) (fun cs x h2 => trod_flat f m e l cs x hl h2) cs n 0 fun i _ hi => by
            have hi' : i < xs.length := by omega
            have := (hall i (by omega)).trans (List.getElem?_eq_getElem hi')
            rw [hc.1] at this
            exact ⟨_, this⟩
          rw [Nat.zero_mul, List.drop_zero, List.take_of_length_le (by rw [hlen, hc.2]; exact Nat.le_refl _)] at this
          exact this
        · cases h
    · cases h

theorem flat_of {f : Nat} {t : TypeId} {ls : List Leaf} {v : Value} {d : DataW H} {ps : List MemPlace} (hl : leafs P f t = some ls) (hd : DataW.Trod enc P w base spare held t v d ps) : Fits ls v.cells.toList := by
  obtain ⟨fuel, h⟩ := hd
  exact trod_flat f fuel t ls _ _ hl h

theorem agg_of {f : Nat} {t : TypeId} {fs : Array Field} {ls : List Leaf} {v : Value} {d : DataW H} {ps : List MemPlace} {r : Reach} {b0 : Nat} (ht : P.underlying t = some (.struct fs)) (hval : Value.okWide P w r b0 t v) (hl : leafs P f t = some ls)
    (hd : DataW.Trod enc P w base spare held t v d ps) : ∃ cs : Array Value, v = .agg cs ∧ Fits ls cs.toList := by
  obtain ⟨cs, rfl, _⟩ := WideShapes.okWide_struct ht hval
  exact ⟨cs, rfl, by simpa [Value.cells] using flat_of hl hd⟩

/-- a slice of plain elements, as a list of what each reads as -/
theorem slice_of {α : Type} (cell : α → List Value) {f : Nat} {t e : TypeId} {ls : List Leaf} (hα : ∀ cs, Fits ls cs → ∃ x, cell x = cs) (hlen : ∀ x, (cell x).length = ls.length) {a : Option Addr} {len cap : Nat} {d : DataW H} {ps : List MemPlace}
    (ht : P.underlying t = some (.slice e)) (hl : leafs P f e = some ls) (hpos : 0 < ls.length) (hc : P.cellsOf e = ls.length)
    (hd : DataW.Trod enc P w base spare held t (.slice a len cap) d ps) : ∃ L : List α, L.length = len ∧ Row w a (L.flatMap cell) ∧ len ≤ cap ∧ cap ≤ maxLen := by
  obtain ⟨fuel, h⟩ := hd
  rcases Deep.open_slice ht h with ⟨hcs, _⟩ | ⟨x, len', cap', m, n, D, Pl, hcs, _, hle, hcm, hm, _, hall⟩
  · simp [Value.cells] at hcs
    obtain ⟨rfl, rfl, rfl⟩ := hcs
    exact ⟨[], rfl, .inl rfl, Nat.le_refl _, Nat.zero_le _⟩
  · simp [Value.cells] at hcs
    obtain ⟨rfl, rfl, rfl⟩ := hcs
    have hlm : len ≤ m := by rw [hm]; split <;> omega
    have hx : ∀ i, i < len → ∃ y : α, ∀ j u, (cell y)[j]? = some u → w.cell? ((x.add (i * ls.length)).add j) = some u := fun i hi => by
      obtain ⟨cs', h1, h2⟩ := hall i (by omega)
      obtain ⟨y, hy⟩ := hα cs' (trod_flat f n e ls cs' _ hl h2)
      obtain ⟨_, h4, h5⟩ := World.cells?_some h1
      refine ⟨y, fun j u hj => ?_⟩
      rw [hy] at hj
      have hjl := (List.getElem?_eq_some_iff.1 hj).1
      rw [← hc, h5 j (by omega)]
      exact hj
    have hL : ∀ k, k ≤ len → ∃ L : List α, L.length = k ∧ ∀ j u, (L.flatMap cell)[j]? = some u → w.cell? (x.add j) = some u := by
      intro k
      induction k with
      | zero => intro _; exact ⟨[], rfl, fun j u h => by simp at h⟩
      | succ k ih =>
        intro hk
        obtain ⟨L, hL1, hL2⟩ := ih (by omega)
        obtain ⟨y, hy⟩ := hx k (by omega)
        have hfl : (L.flatMap cell).length = k * ls.length := by
          rw [← hL1]
          clear hL1 hL2
          induction L with
          | nil => simp
          | cons z L ih => rw [List.flatMap_cons, List.length_append, ih, hlen, List.length_cons, Nat.add_mul]; omega
        refine ⟨L ++ [y], by simp [hL1], fun j u hj => ?_⟩
        rw [List.flatMap_append, List.flatMap_cons, List.flatMap_nil, List.append_nil] at hj
        by_cases hjl : j < (L.flatMap cell).length
        · rw [List.getElem?_append_left hjl] at hj
          exact hL2 j u hj
        · rw [List.getElem?_append_right (by omega), hfl] at hj
          have := hy _ u hj
          rw [Deep.add_add] at this
          rw [show k * ls.length + (j - k * ls.length) = j from by omega] at this
          exact this
    obtain ⟨L, hL1, hL2⟩ := hL len (Nat.le_refl _)
    refine ⟨L, hL1, ?_, hle, hcm⟩
    cases L with
    | nil => exact .inl rfl
    | cons y L =>
      right
      have hne : 0 < ((y :: L).flatMap cell).length := by rw [List.flatMap_cons, List.length_append, hlen]; omega
      obtain ⟨u0, hu0⟩ : ∃ u, ((y :: L).flatMap cell)[0]? = some u := ⟨_, List.getElem?_eq_getElem hne⟩
      have h0 := hL2 0 u0 hu0
      have hsp : x.spot = none := by
        cases hs : x.spot with
        | none => rfl
        | some _ =>
          simp only [Addr.add, if_true, World.cell?, hs] at h0
          split at h0 <;> simp at h0
      obtain ⟨g, o, sp⟩ := x
      simp only at hsp
      subst hsp
      refine ⟨g, o, rfl, fun j u hj => ?_⟩
      have := hL2 j u hj
      have hadd : (⟨g, o, none⟩ : Addr).add j = ⟨g, o + j, none⟩ := by unfold Addr.add; split <;> simp_all
      rwa [hadd] at this
end
end Go.XR
