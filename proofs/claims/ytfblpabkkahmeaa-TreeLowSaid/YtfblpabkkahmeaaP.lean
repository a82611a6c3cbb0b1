/- The walks over tree.Put, first, drop, Drop, Get. -/
import Derived.Test.YtfblpabkkahmeaaJ
namespace Go.Proofs.Ytfblpabkkahmeaa
open Go.RowKit Go.TreePure

set_option maxHeartbeats 1000000 in
set_option maxRecDepth 100000 in
theorem put_any (k x : ByteArray) : ∀ (t : PT) (w : World) (p : Option Addr), Rep w p t → t.size < 2^59 →
    Calls Try.prog 13 #[.pointer p, .string k, .string x] w (RetTree w (PT.put k x t)) := by
  intro t
  induction t with
  | nil =>
    intro w p hp _
    cases hp
    go_enter Try.func13, Try.ntmps13
    go_wp2_with fail
    refine (node_any _ k x none none .nil .nil rfl rfl (by simp [PT.size])).mono ?_
    rintro e w' ⟨p, rfl, hp, hb⟩
    go_wp2
    go_ret
    exact RetTree.of ((Below.refl _ _).alloc (Nat.le_refl _) _) hp hb
  | node k' x' l r ihl ihr =>
    intro w p hp hs
    have Ihl := Lib.hid ihl
    have Ihr := Lib.hid ihr
    clear ihl ihr
    obtain ⟨b, lp, rp, rfl, hb, d0, d1, d2, d3, d4, d5, hl, hr⟩ := hp.open
    have Hl := Lib.hid hl
    have Hr := Lib.hid hr
    clear hp hl hr
    have hsz : (PT.node k' x' l r).size = l.size + r.size + 1 := rfl
    have hs' : l.size + r.size + 1 < 2^59 := by omega
    clear hs hsz
    have hn : w.heap.size < w.heap.size + 1 := by omega
    by_cases h1 : klt k k' = true
    · have hput := PT.put_size k x l
      have Hp : Hid (PT.put k x (.node k' x' l r) = PT.join k' x' (PT.put k x l) r) := by unfold Hid; rw [PT.put, if_pos h1]
      have hlt : Op.bytesLess k.toList k'.toList = true := h1
      clear h1
      go_enter Try.func13, Try.ntmps13
      go_wp2_with fail
      refine gen_world (fun w0 => Below w.heap.size w w0 ∧ w.heap.size < w0.heap.size) ⟨(Below.refl _ _).alloc (Nat.le_refl _) _, by simp⟩ ?_
      rintro w0 ⟨hb0, hn0⟩
      have hc0 := bcell hb0
      have hbl0 := Nat.lt_trans hb hn0
      have hS0 : Below w0.heap.size w0 w0.drew := (Below.refl _ _).drew
      refine Go.XR.region_sched ((Below w0.heap.size w0)) [(0, true), (1, true), (2, true), (3, true), (4, true), (5, true), (6, true), (7, true), (8, true), (9, true), (11, true), (12, true), (13, true), (14, true), (10, false), (15, false), (16, false)] [15, 16] Try.mixed (by kernel_rfl) (by kernel_rfl) (by kernel_rfl) ?_
      simp only [List.map_cons, List.map_nil, List.getElem?_cons_succ, List.getElem?_cons_zero]
      repeat (refine Go.XR.S_light rfl rfl (by assumption) ?_ (fun w' hS K hK => ?_) (fun K hK => ?_); rotate_left 1; (have hS1 := bcell hS; go_step; exact hK); go_step; refine hK _ ?_; clear hK K)
      refine Go.XR.S_heavy (fun K hK => ?_)
      go_step
      ((with_reducible refine (Ihl.out _ _ (Hl.out.below hb0.drew) (by omega)).mono ?_); rintro e w' ⟨p, rfl, hp, hb2⟩)
      have hb2' := hS0.trans hb2
      refine hK _ _ ⟨fun _ => hb2', ?_⟩
      clear hK K
      repeat (refine Go.XR.S_light rfl rfl (by assumption) ?_ (fun w' hS K hK => ?_) (fun K hK => ?_); rotate_left 1; (have hS1 := bcell hS; go_step; exact hK); go_step; refine hK _ ?_; clear hK K)
      refine Go.XR.S_heavy (fun K hK => ?_)
      go_step
      ((with_reducible refine (join_any _ k' x' _ _ (PT.put k x l) r hp (Hr.out.below (hb0.trans (hb2'.mono hb0.size))) (by omega)).mono ?_); rintro e w' ⟨p2, rfl, hp2, hb3⟩)
      refine hK _ _ ⟨fun _ => hb2'.trans (hb3.mono hb2'.size), ?_⟩
      clear hK K
      repeat (refine Go.XR.S_light rfl rfl (by assumption) ?_ (fun w' hS K hK => ?_) (fun K hK => ?_); rotate_left 1; (have hS1 := bcell hS; go_step; exact hK); go_step; refine hK _ ?_; clear hK K)
      repeat (refine Go.XR.S_heavy (fun K hK => ?_); go_step; refine hK _ _ ⟨fun h => by simp at h, ?_⟩; clear hK K)
      refine Go.XR.S_nil ?_
      go_wp2
      go_ret
      rw [Hp.out]
      exact RetTree.of (hb0.trans (hb2'.mono hb0.size)) hp2 hb3
    · have h1' : klt k k' = false := by simpa using h1
      by_cases h2 : klt k' k = true
      · have hput := PT.put_size k x r
        have Hp : Hid (PT.put k x (.node k' x' l r) = PT.join k' x' l (PT.put k x r)) := by unfold Hid; rw [PT.put, if_neg h1, if_pos h2]
        have hlt : Op.bytesLess k.toList k'.toList = false := h1'
        have hne : (k.toList == k'.toList) = false := by
          rw [Bool.eq_false_iff]; intro h; rw [keq_iff] at h; exact klt_ne h2 h.symm
        clear h1 h1' h2
        go_enter Try.func13, Try.ntmps13
        go_wp2_with fail
        refine gen_world (fun w0 => Below w.heap.size w w0 ∧ w.heap.size < w0.heap.size) ⟨(Below.refl _ _).alloc (Nat.le_refl _) _, by simp⟩ ?_
        rintro w0 ⟨hb0, hn0⟩
        have hc0 := bcell hb0
        have hbl0 := Nat.lt_trans hb hn0
        have hS0 : Below w0.heap.size w0 w0.drew := (Below.refl _ _).drew
        refine Go.XR.region_sched ((Below w0.heap.size w0)) [(0, true), (1, true), (2, true), (3, true), (4, true), (5, true), (6, true), (7, true), (8, true), (9, true), (10, true), (11, true), (12, true), (13, true), (14, false), (15, false), (16, false)] [15, 16] Try.mixed (by kernel_rfl) (by kernel_rfl) (by kernel_rfl) ?_
        simp only [List.map_cons, List.map_nil, List.getElem?_cons_succ, List.getElem?_cons_zero]
        repeat (refine Go.XR.S_light rfl rfl (by assumption) ?_ (fun w' hS K hK => ?_) (fun K hK => ?_); rotate_left 1; (have hS1 := bcell hS; go_step; exact hK); go_step; refine hK _ ?_; clear hK K)
        refine Go.XR.S_heavy (fun K hK => ?_)
        go_step
        ((with_reducible refine (Ihr.out _ _ (Hr.out.below hb0.drew) (by omega)).mono ?_); rintro e w' ⟨p, rfl, hp, hb2⟩)
        have hb2' := hS0.trans hb2
        refine hK _ _ ⟨fun _ => hb2', ?_⟩
        clear hK K
        repeat (refine Go.XR.S_light rfl rfl (by assumption) ?_ (fun w' hS K hK => ?_) (fun K hK => ?_); rotate_left 1; (have hS1 := bcell hS; go_step; exact hK); go_step; refine hK _ ?_; clear hK K)
        refine Go.XR.S_heavy (fun K hK => ?_)
        go_step
        ((with_reducible refine (join_any _ k' x' _ _ l (PT.put k x r) (Hl.out.below (hb0.trans (hb2'.mono hb0.size))) hp (by omega)).mono ?_); rintro e w' ⟨p2, rfl, hp2, hb3⟩)
        refine hK _ _ ⟨fun _ => hb2'.trans (hb3.mono hb2'.size), ?_⟩
        clear hK K
        repeat (refine Go.XR.S_light rfl rfl (by assumption) ?_ (fun w' hS K hK => ?_) (fun K hK => ?_); rotate_left 1; (have hS1 := bcell hS; go_step; exact hK); go_step; refine hK _ ?_; clear hK K)
        repeat (refine Go.XR.S_heavy (fun K hK => ?_); go_step; refine hK _ _ ⟨fun h => by simp at h, ?_⟩; clear hK K)
        refine Go.XR.S_nil ?_
        go_wp2
        go_ret
        rw [Hp.out]
        exact RetTree.of (hb0.trans (hb2'.mono hb0.size)) hp2 hb3
      · have h2' : klt k' k = false := by simpa using h2
        have Hp : Hid (PT.put k x (.node k' x' l r) = .node k x l r) := by unfold Hid; rw [PT.put, if_neg h1, if_neg h2]
        obtain rfl := klt_tri h1' h2'
        have hlt : Op.bytesLess k.toList k.toList = false := h1'
        have hne : (k.toList == k.toList) = true := by rw [keq_iff]
        clear h1 h1' h2 h2'
        go_enter Try.func13, Try.ntmps13
        go_wp2_with fail
        go_ret
        rw [Hp.out]
        exact ⟨some ⟨w.heap.size + 1, 0, none⟩, rfl, ⟨w.heap.size + 1, lp, rp, rfl, heap_new2 _ _ _, (Hl.out.alloc _).alloc _, (Hr.out.alloc _).alloc _⟩, ((Below.refl _ _).alloc (Nat.le_refl _) _).alloc (by simp) _⟩
end Go.Proofs.Ytfblpabkkahmeaa
