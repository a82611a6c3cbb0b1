/- Rows in order: what a put and a drop make of them, plain. -/
import Derived.Test.YtnfbchhbcinloaaRa
namespace Go.Proofs.Ytnfbchhbcinloaa
open Go.RowKit Go.XR Go.IndexPure
/-- where the rest begins behind a key -/
def behind (R : List RowT) (k : KeyT) (i : Nat) : Nat := if k ∈ R.map (·.1) then i + 1 else i
theorem take_get {α : Type} {l : List α} {i : Nat} {x : α} : x ∈ l.take i ↔ ∃ q, ∃ h : q < l.length, q < i ∧ l[q] = x := by
  rw [List.mem_iff_getElem]
  constructor
  · rintro ⟨q, hq, rfl⟩
    rw [List.length_take] at hq
    exact ⟨q, by omega, by omega, by rw [List.getElem_take]⟩
  · rintro ⟨q, h, h2, rfl⟩
    exact ⟨q, by rw [List.length_take]; omega, by rw [List.getElem_take]⟩
theorem drop_get {α : Type} {l : List α} {i : Nat} {x : α} : x ∈ l.drop i ↔ ∃ q, ∃ h : q < l.length, i ≤ q ∧ l[q] = x := by
  rw [List.mem_iff_getElem]
  constructor
  · rintro ⟨q, hq, rfl⟩
    rw [List.length_drop] at hq
    exact ⟨i + q, by omega, by omega, by rw [List.getElem_drop]⟩
  · rintro ⟨q, h, h2, rfl⟩
    refine ⟨q - i, by rw [List.length_drop]; omega, ?_⟩
    rw [List.getElem_drop]
    congr 1; omega
theorem cut_ne {R : List RowT} (hs : SrtA R) {k : KeyT} {i : Nat} (hL : LowK R k i) {q : Nat} (hq : q < R.length) (hb : behind R k i ≤ q) : cfK k R[q].1 < 0 := by
  unfold behind at hb
  by_cases hk : k ∈ R.map (·.1)
  · rw [if_pos hk] at hb
    obtain ⟨hi, he⟩ := (low_mem hs hL).1 hk
    have := List.pairwise_iff_getElem.1 hs i q hi hq (by omega)
    unfold cfA at this
    rwa [he] at this
  · rw [if_neg hk] at hb
    have h1 := hL.2.2 q hq hb
    have h2 : cfK R[q].1 k ≠ 0 := fun e => hk (by rw [← (cfK_zero _ _).1 e]; exact List.mem_map.2 ⟨R[q], List.getElem_mem hq, rfl⟩)
    have := cfK_swap R[q].1 k
    omega
theorem mem_cut {R : List RowT} (hs : SrtA R) {k : KeyT} {i : Nat} (hL : LowK R k i) (x : RowT) : (x ∈ R.take i ∨ x ∈ R.drop (behind R k i)) ↔ x ∈ R ∧ x.1 ≠ k := by
  constructor
  · rintro (h | h)
    · obtain ⟨q, hq, h2, rfl⟩ := take_get.1 h
      refine ⟨List.getElem_mem hq, fun e => ?_⟩
      have := hL.2.1 q hq h2
      rw [e, cfK_self] at this; omega
    · obtain ⟨q, hq, h2, rfl⟩ := drop_get.1 h
      refine ⟨List.getElem_mem hq, fun e => ?_⟩
      have := cut_ne hs hL hq h2
      rw [e, cfK_self] at this; omega
  · rintro ⟨h, hne⟩
    obtain ⟨q, hq, rfl⟩ := List.getElem_of_mem h
    by_cases c : q < i
    · exact .inl (take_get.2 ⟨q, hq, c, rfl⟩)
    · right
      refine drop_get.2 ⟨q, hq, ?_, rfl⟩
      unfold behind
      split
      · rename_i hk
        obtain ⟨hi, he⟩ := (low_mem hs hL).1 hk
        by_cases d : q = i
        · subst d; exact absurd he hne
        · omega
      · omega
theorem cut_sorted {R : List RowT} (hs : SrtA R) {k : KeyT} {i : Nat} (hL : LowK R k i) : SrtA (R.take i ++ R.drop (behind R k i)) := by
  refine hs.sublist ?_
  have h1 : (R.drop (behind R k i)).Sublist (R.drop i) := by
    unfold behind
    split
    · rw [← List.drop_drop]; exact List.drop_sublist _ _
    · exact List.Sublist.refl _
  have h2 := (List.Sublist.refl (R.take i)).append h1
  rwa [List.take_append_drop] at h2
theorem put_sorted {R : List RowT} (hs : SrtA R) {k : KeyT} {i : Nat} (hL : LowK R k i) (v : PlaceT) : SrtA (R.take i ++ (k, v) :: R.drop (behind R k i)) := by
  have h := cut_sorted hs hL
  unfold SrtA at *
  rw [List.pairwise_append] at h ⊢
  refine ⟨h.1, List.pairwise_cons.2 ⟨fun x hx => ?_, h.2.1⟩, fun x hx y hy => ?_⟩
  · obtain ⟨q, hq, h2, rfl⟩ := drop_get.1 hx
    exact cut_ne hs hL hq h2
  · obtain ⟨q, hq, h2, rfl⟩ := take_get.1 hx
    have h3 : cfA R[q] (k, v) < 0 := hL.2.1 q hq h2
    rcases List.mem_cons.1 hy with rfl | hy
    · exact h3
    · obtain ⟨p, hp, h4, rfl⟩ := drop_get.1 hy
      exact cfK_trans _ _ _ h3 (cut_ne hs hL hp h4)
theorem allof_of {D R : List RowT} (hs : SrtA R) (hD : (D.map (·.1)).Nodup) (h : ∀ x, x ∈ R ↔ x ∈ D) : AllOf D R := by
  have hR : R.Nodup := hs.imp fun {x y} h => cfA_irrefl x y h
  have hD2 : D.Nodup := List.Pairwise.of_map (·.1) (fun a b h e => h (by rw [e])) hD
  exact ⟨(List.perm_ext_iff_of_nodup hR hD2).2 h, hs⟩
theorem allof_put {D R : List RowT} (hA : AllOf D R) (hD : (D.map (·.1)).Nodup) {k : KeyT} {i : Nat} (hL : LowK R k i) (v : PlaceT) : AllOf (aput (adel D k) k v) (R.take i ++ (k, v) :: R.drop (behind R k i)) := by
  have hD' := aput_nodup (adel_nodup hD k) k v
  refine allof_of (put_sorted hA.2 hL v) hD' fun x => ?_
  have h1 : x ∈ R.take i ++ (k, v) :: R.drop (behind R k i) ↔ x = (k, v) ∨ (x ∈ R ∧ x.1 ≠ k) := by
    rw [← mem_cut hA.2 hL, List.mem_append, List.mem_cons]
    constructor
    · rintro (h | h | h)
      · exact .inr (.inl h)
      · exact .inl h
      · exact .inr (.inr h)
    · rintro (h | h | h)
      · exact .inr (.inl h)
      · exact .inl h
      · exact .inr (.inr h)
  rw [h1, show x = (x.1, x.2) from rfl, ← aget_mem hD', put_get]
  by_cases e : x.1 = k
  · rw [if_pos e]
    constructor
    · rintro (h | h)
      · injection h with _ h; rw [h]
      · exact absurd e h.2
    · intro h; injection h with h; left; rw [e, h]
  · rw [if_neg e, aget_mem hD]
    constructor
    · rintro (h | h)
      · injection h with h _; exact absurd h e
      · exact hA.1.mem_iff.1 h.1
    · intro h; exact .inr ⟨hA.1.mem_iff.2 h, e⟩
theorem allof_drop {D R : List RowT} (hA : AllOf D R) (hD : (D.map (·.1)).Nodup) {k : KeyT} {i : Nat} (hL : LowK R k i) : AllOf (adel D k) (R.take i ++ R.drop (behind R k i)) := by
  refine allof_of (cut_sorted hA.2 hL) (adel_nodup hD k) fun x => ?_
  rw [List.mem_append, mem_cut hA.2 hL, mem_adel, hA.1.mem_iff]
theorem allof_some {D R : List RowT} (hA : AllOf D R) (hD : (D.map (·.1)).Nodup) (k : KeyT) : k ∈ R.map (·.1) ↔ (aget D k).isSome = true := by
  constructor
  · intro h
    obtain ⟨r, hr, rfl⟩ := List.mem_map.1 h
    rw [(aget_mem hD).2 (show (r.1, r.2) ∈ D from hA.1.mem_iff.1 hr)]; rfl
  · intro h
    obtain ⟨v, hv⟩ := Option.isSome_iff_exists.1 h
    exact List.mem_map.2 ⟨(k, v), hA.1.mem_iff.2 ((aget_mem hD).1 hv), rfl⟩
theorem allof_get {D R : List RowT} (hA : AllOf D R) (hD : (D.map (·.1)).Nodup) {k : KeyT} {i : Nat} (hL : LowK R k i) (hk : k ∈ R.map (·.1)) : ∃ hi : i < R.length, R[i].1 = k ∧ aget D k = some R[i].2 := by
  obtain ⟨hi, he⟩ := (low_mem hA.2 hL).1 hk
  refine ⟨hi, he, ?_⟩
  have := (aget_mem hD).2 (show (R[i].1, R[i].2) ∈ D from hA.1.mem_iff.1 (List.getElem_mem hi))
  rwa [he] at this
end Go.Proofs.Ytnfbchhbcinloaa
