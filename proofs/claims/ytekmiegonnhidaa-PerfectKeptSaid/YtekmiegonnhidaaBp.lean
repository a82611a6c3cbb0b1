/- Groups and their tries: plain. -/
import Derived.Test.YtekmiegonnhidaaHp
namespace Go.PerfPure
open Go.XR
def pos (d : Int) (n : Nat) (k : KeyT) : Nat := (hashF d k % n).toNat
theorem pos_lt (d : Int) {n : Nat} (h : 0 < n) (k : KeyT) : pos d n k < n := by
  unfold pos
  have h1 := Int.emod_nonneg (hashF d k) (b := (n : Int)) (by omega)
  have h2 := Int.emod_lt_of_pos (hashF d k) (b := (n : Int)) (by omega)
  omega
theorem pos_cast (d : Int) {n : Nat} (h : 0 < n) (k : KeyT) : hashF d k % (n : Int) = (pos d n k : Int) := by
  unfold pos
  have h1 := Int.emod_nonneg (hashF d k) (b := (n : Int)) (by omega)
  omega
def markB (v : Bool) (tk : List Bool) (ps : List Nat) : List Bool := ps.foldl (fun t p => t.set p v) tk
theorem markB_nil (v : Bool) (tk : List Bool) : markB v tk [] = tk := rfl
theorem markB_snoc (v : Bool) (tk : List Bool) (ps : List Nat) (p : Nat) : markB v tk (ps ++ [p]) = (markB v tk ps).set p v := by unfold markB; rw [List.foldl_append]; rfl
theorem markB_length (v : Bool) : ∀ (ps : List Nat) (tk : List Bool), (markB v tk ps).length = tk.length
  | [], _ => rfl
  | p :: ps, tk => by
    show (markB v (tk.set p v) ps).length = _
    rw [markB_length v ps, List.length_set]
theorem markB_get (v : Bool) : ∀ (ps : List Nat) (tk : List Bool) (q : Nat), (markB v tk ps)[q]? = if q ∈ ps then (tk[q]?).map (fun _ => v) else tk[q]?
  | [], tk, q => by simp [markB_nil]
  | p :: ps, tk, q => by
    show (markB v (tk.set p v) ps)[q]? = _
    rw [markB_get v ps]
    by_cases h1 : q = p
    · subst h1
      rw [if_pos (List.mem_cons_self)]
      by_cases h2 : q < tk.length
      · rw [List.getElem?_set_self h2, List.getElem?_eq_getElem h2]
        simp
      · have e : (tk.set q v)[q]? = none := List.getElem?_eq_none (by rw [List.length_set]; omega)
        rw [e, List.getElem?_eq_none (by omega : tk.length ≤ q)]
        simp
    · rw [List.getElem?_set_ne (fun e => h1 e.symm)]
      have : q ∈ p :: ps ↔ q ∈ ps := by simp [h1]
      simp only [this]
def fitsB (tk : List Bool) (ps : List Nat) : Bool := decide (ps.Nodup ∧ ∀ p ∈ ps, tk[p]? = some false)
theorem fits_nil (tk : List Bool) : fitsB tk [] = true := by simp [fitsB]
theorem fits_snoc {tk : List Bool} {ps : List Nat} {p : Nat} (h : fitsB tk ps = true) (hp : p < tk.length) : fitsB tk (ps ++ [p]) = !(markB true tk ps).getD p true := by
  unfold fitsB at *
  have h := of_decide_eq_true h
  have hg : (markB true tk ps)[p]? = some ((markB true tk ps).getD p true) := by
    rw [List.getD_eq_getElem?_getD, List.getElem?_eq_getElem (by rw [markB_length]; exact hp)]; rfl
  rw [markB_get] at hg
  rw [Bool.eq_iff_iff, decide_eq_true_iff]
  constructor
  · rintro ⟨h1, h2⟩
    rw [List.nodup_append] at h1
    have hn : p ∉ ps := fun hm => h1.2.2 p hm p (by simp) rfl
    rw [if_neg hn, h2 p (by simp)] at hg
    have := Option.some.inj hg
    rw [← this]; rfl
  · intro h1
    have h1 : (markB true tk ps).getD p true = false := by simpa using h1
    rw [h1] at hg
    have hn : p ∉ ps := fun hm => by
      rw [if_pos hm, List.getElem?_eq_getElem hp] at hg
      simp at hg
    rw [if_neg hn] at hg
    refine ⟨List.nodup_append.2 ⟨h.1, by simp, ?_⟩, ?_⟩
    · intro x hx y hy
      rw [List.mem_singleton] at hy
      subst hy
      rintro rfl
      exact hn hx
    · intro x hx
      rcases List.mem_append.1 hx with hx | hx
      · exact h.2 x hx
      · rw [List.mem_singleton] at hx; subst hx; exact hg
theorem fits_take {tk : List Bool} {ps : List Nat} (h : fitsB tk ps = true) (j : Nat) : fitsB tk (ps.take j) = true := by
  unfold fitsB at *
  have h := of_decide_eq_true h
  exact decide_eq_true ⟨h.1.sublist (List.take_sublist _ _), fun p hp => h.2 p (List.mem_of_mem_take hp)⟩
theorem fits_of_take {tk : List Bool} {ps : List Nat} {j : Nat} (h : fitsB tk (ps.take j) = false) : fitsB tk ps = false := by
  rw [Bool.eq_false_iff]
  intro h'
  rw [fits_take h' j] at h; cases h
/-- what was marked and is unmarked is as it was -/
theorem unmark {tk : List Bool} {ps : List Nat} (h : fitsB tk ps = true) : markB false (markB true tk ps) ps = tk := by
  have h := (of_decide_eq_true (show decide _ = true from h)).2
  refine List.ext_getElem? fun q => ?_
  rw [markB_get, markB_get]
  by_cases hq : q ∈ ps
  · rw [if_pos hq, if_pos hq, h q hq]; rfl
  · rw [if_neg hq, if_neg hq]
end Go.PerfPure
