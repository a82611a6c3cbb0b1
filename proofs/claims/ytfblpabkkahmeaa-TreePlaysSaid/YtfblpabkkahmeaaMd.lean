/- The walk over the reference's map: Drop. -/
import Derived.Test.YtfblpabkkahmeaaMg
namespace Go.Proofs.Ytfblpabkkahmeaa
open Go.RowKit Go.TreePure Go.XR

def RetMapDrop (w : World) (l : List Pr) (b : Bool) (e : Ending) (w' : World) : Prop := ∃ a c, e = .returned (.tuple #[.agg #[.slice a l.length c], .bool b]) ∧ MR w' a c l ∧ Below w.heap.size w w'

set_option maxHeartbeats 4000000 in
set_option maxRecDepth 100000 in
theorem refdrop_any (w : World) (a : Option Addr) (c : Nat) (l : List Pr) (key : ByteArray) (h : MR w a c l) (hl : l.length < 2^40) :
    Calls Try.prog 12 #[.agg #[.slice a l.length c], .string key] w (RetMapDrop w (refDrop key l) (isAt key l)) := by
  have hcl := h.le
  have hcap := h.cap
  have Hn := Lib.hid h.nil
  have Hsh := Lib.hid h.shape
  have H := Lib.hid h
  unfold maxLen at hcap
  clear h
  have hix := idx_le key l
  go_enter Try.func12, Try.ntmps12
  go_wp2_with fail
  refine (at_any _ a c l key (H.out.below (((Below.refl _ _).alloc (Nat.le_refl _) _).alloc (by simp) _)) hl).mono ?_
  rintro e w1 ⟨rfl, hb1⟩
  have hz1 := hb1.size
  simp at hz1
  have f0 : w1.cell? ⟨w.heap.size, 0, none⟩ = some (.slice a l.length c) := by rw [hb1.cell (by simp; omega)]; simp
  have f1 : w1.cell? ⟨w.heap.size + 1, 0, none⟩ = some (.slice none 0 0) := by rw [hb1.cell (by simp)]; simp
  have f2 : w1.frozen? ⟨w.heap.size + 1, 0, none⟩ = false := by rw [hb1.frozen (by simp)]; simp
  have Hblk : Hid (w1.heap[w.heap.size + 1]? = some (.cells #[.slice none 0 0] 27 (0, 0))) := by unfold Hid; rw [hb1.block _ (by simp)]; exact heap_new2 _ _ _
  have Hb1 : Hid (Below w.heap.size w w1) := (((Below.refl w.heap.size w).alloc (Nat.le_refl _) _).alloc (by simp) _).trans (hb1.mono (by simp; omega))
  have H1 := Lib.hid (H.out.below Hb1.out)
  clear hb1
  have hixc : idx key l ≤ c := by omega
  have hlt1 : w.heap.size < w1.heap.size := by omega
  have hlt2 : w.heap.size + 1 < w1.heap.size := by omega
  cases hat : isAt key l with
  | false =>
    have Hat := Lib.hid hat
    clear hat
    go_wp2
    have hk0 : w1.heap[w.heap.size + 1]? = some (.cells #[.slice none 0 0] 27 (0, 0)) := Hblk.out
    have hk1 := heap_setCell_at (i := 0) (u := .slice a l.length c) hk0
    have q0 := cells_of hk1 0
    simp at q0
    refine bodyPost_ret (v := .tuple #[.agg #[.slice a l.length c], .bool false]) (by simp [results, Try.results12, go_sem, q0]) rfl ?_
    have e : refDrop key l = l := by unfold refDrop; rw [Hat.out, if_neg (by simp)]
    rw [e, Hat.out]
    have hb : Below w.heap.size w1 (w1.setCell ⟨w.heap.size + 1, 0, none⟩ (.slice a l.length c)) := (Below.refl _ _).setCell (show w.heap.size ≤ w.heap.size + 1 by omega) _
    exact ⟨a, c, rfl, H.out.below (Hb1.out.trans hb), Hb1.out.trans hb⟩
  | true =>
    have hil : idx key l < l.length := by
      unfold isAt at hat
      cases hg : l[idx key l]? with
      | none => rw [hg] at hat; cases hat
      | some p => exact (List.getElem?_eq_some_iff.1 hg).1
    have Hat := Lib.hid hat
    clear hat
    have htl : (l.take (idx key l)).length = idx key l := by rw [List.length_take]; omega
    have Htl := Lib.hid htl
    clear htl
    generalize hT1 : l.take (idx key l) = T1 at *
    have h1 : T1.length = idx key l := Htl.out
    have HT1 := Lib.hid hT1
    have Hr1 : Hid (Row w1 a (cellsOf T1)) := by have := row_of_take H1.out.row (idx key l); rw [hT1] at this; exact this
    clear hT1
    have H1l := Lib.hid h1
    clear h1
    go_wp2_with (at_builtin; refine Go.XR.stop (fun X hX => ?_))
    refine hX.out ?_
    clear hX X
    refine wpList_plain rfl (fun K hK => ?_)
    refine append_pairs w1.heap.size (some ⟨w1.heap.size, 0, none⟩) 0 [] rfl (World.ownsRow_lit w1 #[] 0 (Nat.le_refl _) (by decide) rfl) a c T1 (by rw [H1l.out]; rfl) (Hr1.out.below ((Below.refl _ _).alloc (Nat.le_refl _) _)) (fun e => ⟨by have := Hn.out e; rw [H1l.out]; omega, Hn.out e⟩) (by rw [H1l.out]; simp; omega) (by simp) ?_
    intro a2 c2 w2 ho2 hb2 hn2
    rw [List.nil_append] at ho2 ⊢
    go_step
    refine hK _ _ ?_
    clear hK K
    have Ho2 := Lib.hid ho2
    have Hb2 := Lib.hid (((Below.refl w1.heap.size w1).alloc (Nat.le_refl _) _).trans hb2)
    clear ho2 hb2 hn2
    have hz2 := Hb2.out.size
    have hc2 := bcell Hb2.out
    have hf2 := bfrozen Hb2.out
    have Hr2 := Lib.hid (H1.out.row.below Hb2.out)
    have Hfin : Hid (refDrop key l = T1 ++ l.drop (idx key l + 1)) := by unfold Hid refDrop; rw [Hat.out, if_pos rfl, HT1.out]
    have hdl : (l.drop (idx key l + 1)).length = l.length - (idx key l + 1) := List.length_drop
    have Hdl := Lib.hid hdl
    clear hdl
    by_cases hcj : c = idx key l + 1
    · have hnil : l.drop (idx key l + 1) = [] := List.drop_eq_nil_of_le (by omega)
      have Hnil := Lib.hid hnil
      clear hnil
      subst hcj
      go_wp2_with (at_builtin; refine Go.XR.stop (fun X hX => ?_))
      refine hX.out ?_
      clear hX X
      refine wpList_plain rfl (fun K hK => ?_)
      refine append_pairs w1.heap.size a2 c2 T1 rfl Ho2.out a 0 (l.drop (idx key l + 1)) (by rw [Hdl.out, show l.length - (idx key l + 1) = 0 by omega]; rfl) (by rw [Hnil.out]; exact .inl rfl) (fun e => ⟨by rw [Hnil.out]; rfl, rfl⟩) (by rw [H1l.out, Hdl.out]; omega) hz2 ?_
      intro a4 c4 w4 ho4 hb4 hn4
      generalize hT3 : T1 ++ l.drop (idx key l + 1) = T3 at ho4 ⊢
      go_step
      refine hK _ _ ?_
      clear hK K
      have HT3 := Lib.hid hT3
      have Ho4 := Lib.hid ho4
      have Hb4 := Lib.hid (Hb2.out.trans hb4)
      clear ho4 hb4 hn4 hT3 hc2 hf2
      have hc4 := bcell Hb4.out
      have hf4 := bfrozen Hb4.out
      go_wp2
      have hk0 : w1.heap[w.heap.size + 1]? = some (.cells #[.slice none 0 0] 27 (0, 0)) := Hblk.out
      have hk1 := heap_setCell_at (i := 0) (u := .slice a4 T3.length c4) ((Hb4.out.block _ hlt2).trans hk0)
      have q0 := cells_of hk1 0
      simp at q0
      refine bodyPost_ret (v := .tuple #[.agg #[.slice a4 T3.length c4], .bool true]) (by simp [results, Try.results12, go_sem, q0]) rfl ?_
      rw [Hfin.out, HT3.out, Hat.out]
      exact ⟨a4, c4, rfl, MR.owned (ownsRow_setCell_ne Ho4.out (show w.heap.size + 1 < w1.heap.size from hlt2) _), (Hb1.out.trans (Hb4.out.mono Hb1.out.size)).setCell (show w.heap.size ≤ w.heap.size + 1 by omega) _⟩
    · obtain ⟨g, o, rfl⟩ := H1.out.ex (by omega)
      go_wp2_with (at_builtin; refine Go.XR.stop (fun X hX => ?_))
      refine hX.out ?_
      clear hX X
      refine wpList_plain rfl (fun K hK => ?_)
      refine append_pairs w1.heap.size a2 c2 T1 rfl Ho2.out (some ⟨g, o + (idx key l + 1) * 2, none⟩) (c - (idx key l + 1)) (l.drop (idx key l + 1)) (by rw [Hdl.out]; rfl) (row_of_drop Hr2.out _) (fun e => by cases e) (by rw [H1l.out, Hdl.out]; omega) hz2 ?_
      intro a4 c4 w4 ho4 hb4 hn4
      generalize hT3 : T1 ++ l.drop (idx key l + 1) = T3 at ho4 ⊢
      go_step
      refine hK _ _ ?_
      clear hK K
      have HT3 := Lib.hid hT3
      have Ho4 := Lib.hid ho4
      have Hb4 := Lib.hid (Hb2.out.trans hb4)
      clear ho4 hb4 hn4 hT3 hc2 hf2
      have hc4 := bcell Hb4.out
      have hf4 := bfrozen Hb4.out
      go_wp2
      have hk0 : w1.heap[w.heap.size + 1]? = some (.cells #[.slice none 0 0] 27 (0, 0)) := Hblk.out
      have hk1 := heap_setCell_at (i := 0) (u := .slice a4 T3.length c4) ((Hb4.out.block _ hlt2).trans hk0)
      have q0 := cells_of hk1 0
      simp at q0
      refine bodyPost_ret (v := .tuple #[.agg #[.slice a4 T3.length c4], .bool true]) (by simp [results, Try.results12, go_sem, q0]) rfl ?_
      rw [Hfin.out, HT3.out, Hat.out]
      exact ⟨a4, c4, rfl, MR.owned (ownsRow_setCell_ne Ho4.out (show w.heap.size + 1 < w1.heap.size from hlt2) _), (Hb1.out.trans (Hb4.out.mono Hb1.out.size)).setCell (show w.heap.size ≤ w.heap.size + 1 by omega) _⟩
end Go.Proofs.Ytfblpabkkahmeaa
