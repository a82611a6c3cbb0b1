/- The walk over tree.join with marked trees. -/
import Derived.Test.YtfblpabkkahmeaaTa
namespace Go.Proofs.Ytfblpabkkahmeaa
open Go.RowKit Go.TreePure
variable {S : Nat → Bool} {gg gl gm gn : Bool}

set_option maxHeartbeats 400000 in
set_option maxRecDepth 100000 in
theorem join_0m (w : World) (k x : ByteArray) (lv rv : Option Addr) (l r : FT) (hl : RepM S w lv l) (hr : RepM S w rv r) (hs : l.size + r.size < 2^60)
    (c1 : ((l.ht : Int) - (r.ht : Int) == 2) = false) (c2 : ((l.ht : Int) - (r.ht : Int) == -2) = false) :
    Calls Try.prog 29 #[.agg #[.string k, .string x], .pointer lv, .pointer rv] w (RetTreeM S w (.node true k x l r)) := by
  have Hl := Lib.hid hl
  have Hr := Lib.hid hr
  clear hl hr
  have hh1 := l.ht_le
  have hh2 := r.ht_le
  go_enter Try.func29, Try.ntmps29
  go_wp2_with fail
  refine (height_marked _ _ l (Hl.out.alloc _)).mono ?_
  rintro e w' ⟨rfl, rfl⟩
  go_wp2_with fail
  refine (height_marked _ _ r (Hr.out.alloc _)).mono ?_
  rintro e w' ⟨rfl, rfl⟩
  go_wp2_with fail
  refine (node_marked _ k x _ _ l r (Hl.out.alloc _) (Hr.out.alloc _) hs).mono ?_
  rintro e w' ⟨p, rfl, hp, hb⟩
  go_wp2
  go_ret
  exact RetTreeM.of ((Below.refl _ _).alloc (Nat.le_refl _) _) hp hb

set_option maxHeartbeats 1000000 in
set_option maxRecDepth 100000 in
theorem join_LLm (w : World) (k x lk lx : ByteArray) (lv rv : Option Addr) (ll lr r : FT) (hl : RepM S w lv (.node gl lk lx ll lr)) (hr : RepM S w rv r) (hs : (FT.node gl lk lx ll lr).size + r.size < 2^60)
    (c1 : (((FT.node gl lk lx ll lr).ht : Int) - (r.ht : Int) == 2) = true) (c2 : decide (lr.ht ≤ ll.ht) = true) :
    Calls Try.prog 29 #[.agg #[.string k, .string x], .pointer lv, .pointer rv] w (RetTreeM S w (.node true lk lx ll (.node true k x lr r))) := by
  have Hl := Lib.hid hl
  have Hr := Lib.hid hr
  obtain ⟨bl, llp, lrp, rfl, hbl, d0, d1, d2, d3, _, _, hll, hlr⟩ := hl.open
  have Hll := Lib.hid hll
  have Hlr := Lib.hid hlr
  clear hl hr hll hlr
  have hh1 := (FT.node gl lk lx ll lr).ht_le
  have hh2 := r.ht_le
  have hh3 : (FT.node gl lk lx ll lr).size = ll.size + lr.size + 1 := rfl
  have Hh3 := Lib.hid hh3
  have hh4 : ll.size + lr.size + r.size + 1 < 2^60 := by omega
  clear hh3
  go_enter Try.func29, Try.ntmps29
  go_wp2_with fail
  refine (height_marked _ _ (.node gl lk lx ll lr) (Hl.out.alloc _)).mono ?_
  rintro e w' ⟨rfl, rfl⟩
  go_wp2_with fail
  refine (height_marked _ _ r (Hr.out.alloc _)).mono ?_
  rintro e w' ⟨rfl, rfl⟩
  go_wp2_with fail
  refine gen_world (fun w0 => Below w.heap.size w w0 ∧ w.heap.size < w0.heap.size ∧ w0.cell? ⟨w.heap.size, 0, none⟩ = some (.string k) ∧ w0.cell? ⟨w.heap.size, 1, none⟩ = some (.string x))
    ⟨(Below.refl _ _).alloc (Nat.le_refl _) _, by simp, by simp, by simp⟩ ?_
  rintro w0 ⟨hb0, hn0, e0, e1⟩
  have hc0 := bcell hb0
  have hbl0 := Nat.lt_trans hbl hn0
  refine Go.XR.region_sched ((· = w0.drew)) [(0, true), (1, true), (2, true), (3, true), (5, true), (6, true), (7, true), (8, true), (4, false), (9, false), (10, false)] [9, 10] Try.mixed (by kernel_rfl) (by kernel_rfl) (by kernel_rfl) ?_
  simp only [List.map_cons, List.map_nil, List.getElem?_cons_succ, List.getElem?_cons_zero]
  repeat (first | (refine Go.XR.S_light rfl rfl rfl ?_ (fun w' hS K hK => ?_) (fun K hK => ?_); rotate_left 1; (cases hS; go_step; exact hK); go_step; refine hK _ ?_; clear hK K))
  refine Go.XR.S_heavy (fun K hK => ?_)
  go_step
  ((with_reducible refine (height_marked _ _ ll (Hll.out.below hb0.drew)).mono ?_); rintro e w' ⟨rfl, rfl⟩)
  refine hK _ _ ⟨fun _ => rfl, ?_⟩
  clear hK K
  repeat (first | (refine Go.XR.S_light rfl rfl rfl ?_ (fun w' hS K hK => ?_) (fun K hK => ?_); rotate_left 1; (cases hS; go_step; exact hK); go_step; refine hK _ ?_; clear hK K))
  refine Go.XR.S_heavy (fun K hK => ?_)
  go_step
  ((with_reducible refine (height_marked _ _ lr (Hlr.out.below hb0.drew)).mono ?_); rintro e w' ⟨rfl, rfl⟩)
  refine hK _ _ ⟨fun _ => rfl, ?_⟩
  clear hK K
  repeat (first | (refine Go.XR.S_light rfl rfl rfl ?_ (fun w' hS K hK => ?_) (fun K hK => ?_); rotate_left 1; (cases hS; go_step; exact hK); go_step; refine hK _ ?_; clear hK K))
  repeat (first | (refine Go.XR.S_heavy (fun K hK => ?_); go_step; refine hK _ _ ⟨fun h => by simp at h, ?_⟩; clear hK K))
  refine Go.XR.S_nil ?_
  go_wp2_with fail
  refine gen_world (fun w1 => Below w0.heap.size w0 w1) (Below.refl _ _).drew ?_
  rintro w1 hb1
  have hc1 := bcell hb1
  have hb01 := hb0.trans (hb1.mono hb0.size)
  have hbl1 : bl < w1.heap.size := Nat.lt_of_lt_of_le hbl0 hb1.size
  have hn1 : w.heap.size < w1.heap.size := Nat.lt_of_lt_of_le hn0 hb1.size
  have hS0 : Below w1.heap.size w1 w1.drew := (Below.refl _ _).drew
  refine Go.XR.region_sched ((Below w1.heap.size w1)) [(0, true), (1, true), (2, true), (3, true), (4, true), (5, true), (6, true), (7, true), (8, true), (9, true), (10, true), (11, true), (12, true), (13, true), (14, false), (15, false), (16, false)] [15, 16] Try.mixed (by kernel_rfl) (by kernel_rfl) (by kernel_rfl) ?_
  simp only [List.map_cons, List.map_nil, List.getElem?_cons_succ, List.getElem?_cons_zero]
  repeat (first | (refine Go.XR.S_light rfl rfl (by assumption) ?_ (fun w' hS K hK => ?_) (fun K hK => ?_); rotate_left 1; (have hS1 := bcell hS; go_step; exact hK); go_step; refine hK _ ?_; clear hK K))
  refine Go.XR.S_heavy (fun K hK => ?_)
  go_step
  ((with_reducible refine (node_marked _ k x _ _ lr r (Hlr.out.below hb01.drew) (Hr.out.below hb01.drew) (by omega)).mono ?_); rintro e w' ⟨p, rfl, hp, hb2⟩)
  have hb2' : Below w1.heap.size w1 w' := hS0.trans hb2
  refine hK _ _ ⟨fun _ => hb2', ?_⟩
  clear hK K
  repeat (first | (refine Go.XR.S_light rfl rfl (by assumption) ?_ (fun w' hS K hK => ?_) (fun K hK => ?_); rotate_left 1; (have hS1 := bcell hS; go_step; exact hK); go_step; refine hK _ ?_; clear hK K))
  refine Go.XR.S_heavy (fun K hK => ?_)
  go_step
  ((with_reducible refine (node_marked _ lk lx _ _ ll (.node true k x lr r) (Hll.out.below (hb01.trans (hb2'.mono hb01.size))) hp (by simp only [FT.size]; omega)).mono ?_); rintro e w' ⟨p2, rfl, hp2, hb3⟩)
  refine hK _ _ ⟨fun _ => hb2'.trans (hb3.mono hb2'.size), ?_⟩
  clear hK K
  repeat (first | (refine Go.XR.S_light rfl rfl (by assumption) ?_ (fun w' hS K hK => ?_) (fun K hK => ?_); rotate_left 1; (have hS1 := bcell hS; go_step; exact hK); go_step; refine hK _ ?_; clear hK K))
  repeat (first | (refine Go.XR.S_heavy (fun K hK => ?_); go_step; refine hK _ _ ⟨fun h => by simp at h, ?_⟩; clear hK K))
  refine Go.XR.S_nil ?_
  go_wp2
  go_ret
  exact RetTreeM.of (hb01.trans (hb2'.mono hb01.size)) hp2 hb3
set_option maxHeartbeats 1000000 in
set_option maxRecDepth 100000 in
theorem join_LRm (w : World) (k x lk lx mk mx : ByteArray) (lv rv : Option Addr) (ll ml mr r : FT) (hl : RepM S w lv (.node gl lk lx ll (.node gm mk mx ml mr))) (hr : RepM S w rv r) (hs : (FT.node gl lk lx ll (.node gm mk mx ml mr)).size + r.size < 2^60)
    (c1 : (((FT.node gl lk lx ll (.node gm mk mx ml mr)).ht : Int) - (r.ht : Int) == 2) = true) (c2 : decide ((FT.node gm mk mx ml mr).ht ≤ ll.ht) = false) :
    Calls Try.prog 29 #[.agg #[.string k, .string x], .pointer lv, .pointer rv] w (RetTreeM S w (.node true mk mx (.node true lk lx ll ml) (.node true k x mr r))) := by
  have Hl := Lib.hid hl
  have Hr := Lib.hid hr
  obtain ⟨bl, llp, lrp, rfl, hbl, d0, d1, d2, d3, _, _, hll, hlr⟩ := hl.open
  obtain ⟨bm, mlp, mrp, rfl, hbm, f0, f1, f2, f3, _, _, hml, hmr⟩ := hlr.open
  have Hml := Lib.hid hml
  have Hmr := Lib.hid hmr
  have Hll := Lib.hid hll
  have Hlr := Lib.hid hlr
  clear hl hr hll hlr hml hmr
  have hh1 := (FT.node gl lk lx ll (.node gm mk mx ml mr)).ht_le
  have hh2 := r.ht_le
  have hh3 : (FT.node gl lk lx ll (.node gm mk mx ml mr)).size = ll.size + (ml.size + mr.size + 1) + 1 := rfl
  have Hh3 := Lib.hid hh3
  have hh4 : ll.size + ml.size + mr.size + r.size + 2 < 2^60 := by omega
  clear hh3
  go_enter Try.func29, Try.ntmps29
  go_wp2_with fail
  refine (height_marked _ _ (.node gl lk lx ll (.node gm mk mx ml mr)) (Hl.out.alloc _)).mono ?_
  rintro e w' ⟨rfl, rfl⟩
  go_wp2_with fail
  refine (height_marked _ _ r (Hr.out.alloc _)).mono ?_
  rintro e w' ⟨rfl, rfl⟩
  go_wp2_with fail
  refine gen_world (fun w0 => Below w.heap.size w w0 ∧ w.heap.size < w0.heap.size ∧ w0.cell? ⟨w.heap.size, 0, none⟩ = some (.string k) ∧ w0.cell? ⟨w.heap.size, 1, none⟩ = some (.string x))
    ⟨(Below.refl _ _).alloc (Nat.le_refl _) _, by simp, by simp, by simp⟩ ?_
  rintro w0 ⟨hb0, hn0, e0, e1⟩
  have hc0 := bcell hb0
  have hbl0 := Nat.lt_trans hbl hn0
  have hbm0 := Nat.lt_trans hbm hn0
  refine Go.XR.region_sched ((· = w0.drew)) [(0, true), (1, true), (2, true), (3, true), (5, true), (6, true), (7, true), (8, true), (4, false), (9, false), (10, false)] [9, 10] Try.mixed (by kernel_rfl) (by kernel_rfl) (by kernel_rfl) ?_
  simp only [List.map_cons, List.map_nil, List.getElem?_cons_succ, List.getElem?_cons_zero]
  repeat (first | (refine Go.XR.S_light rfl rfl rfl ?_ (fun w' hS K hK => ?_) (fun K hK => ?_); rotate_left 1; (cases hS; go_step; exact hK); go_step; refine hK _ ?_; clear hK K))
  refine Go.XR.S_heavy (fun K hK => ?_)
  go_step
  ((with_reducible refine (height_marked _ _ ll (Hll.out.below hb0.drew)).mono ?_); rintro e w' ⟨rfl, rfl⟩)
  refine hK _ _ ⟨fun _ => rfl, ?_⟩
  clear hK K
  repeat (first | (refine Go.XR.S_light rfl rfl rfl ?_ (fun w' hS K hK => ?_) (fun K hK => ?_); rotate_left 1; (cases hS; go_step; exact hK); go_step; refine hK _ ?_; clear hK K))
  refine Go.XR.S_heavy (fun K hK => ?_)
  go_step
  ((with_reducible refine (height_marked _ _ (.node gm mk mx ml mr) (Hlr.out.below hb0.drew)).mono ?_); rintro e w' ⟨rfl, rfl⟩)
  refine hK _ _ ⟨fun _ => rfl, ?_⟩
  clear hK K
  repeat (first | (refine Go.XR.S_light rfl rfl rfl ?_ (fun w' hS K hK => ?_) (fun K hK => ?_); rotate_left 1; (cases hS; go_step; exact hK); go_step; refine hK _ ?_; clear hK K))
  repeat (first | (refine Go.XR.S_heavy (fun K hK => ?_); go_step; refine hK _ _ ⟨fun h => by simp at h, ?_⟩; clear hK K))
  refine Go.XR.S_nil ?_
  go_wp2_with fail
  refine gen_world (fun w1 => Below w0.heap.size w0 w1) (Below.refl _ _).drew ?_
  rintro w1 hb1
  have hc1 := bcell hb1
  have hb01 := hb0.trans (hb1.mono hb0.size)
  have hbl1 : bl < w1.heap.size := Nat.lt_of_lt_of_le hbl0 hb1.size
  have hbm1 : bm < w1.heap.size := Nat.lt_of_lt_of_le hbm0 hb1.size
  have hn1 : w.heap.size < w1.heap.size := Nat.lt_of_lt_of_le hn0 hb1.size
  have hS0 : Below w1.heap.size w1 w1.drew := (Below.refl _ _).drew
  refine Go.XR.region_sched ((Below w1.heap.size w1)) [(0, true), (1, true), (2, true), (3, true), (4, true), (5, true), (6, true), (7, true), (8, true), (9, true), (10, true), (11, true), (12, true), (13, true), (14, true), (15, true), (17, true), (18, true), (19, true), (20, true), (21, true), (22, true), (16, false), (23, false), (24, false), (25, false)] [24, 25] Try.mixed (by kernel_rfl) (by kernel_rfl) (by kernel_rfl) ?_
  simp only [List.map_cons, List.map_nil, List.getElem?_cons_succ, List.getElem?_cons_zero]
  repeat (first | (refine Go.XR.S_light rfl rfl (by assumption) ?_ (fun w' hS K hK => ?_) (fun K hK => ?_); rotate_left 1; (have hS1 := bcell hS; go_step; exact hK); go_step; refine hK _ ?_; clear hK K))
  refine Go.XR.S_heavy (fun K hK => ?_)
  go_step
  ((with_reducible refine (node_marked _ lk lx _ _ ll ml (Hll.out.below hb01.drew) (Hml.out.below hb01.drew) (by omega)).mono ?_); rintro e w' ⟨p, rfl, hp, hb2⟩)
  have hb2' : Below w1.heap.size w1 w' := hS0.trans hb2
  refine hK _ _ ⟨fun _ => hb2', ?_⟩
  clear hK K
  repeat (first | (refine Go.XR.S_light rfl rfl (by assumption) ?_ (fun w' hS K hK => ?_) (fun K hK => ?_); rotate_left 1; (have hS1 := bcell hS; go_step; exact hK); go_step; refine hK _ ?_; clear hK K))
  have hb02 := hb01.trans (hb2'.mono hb01.size)
  refine Go.XR.S_heavy (fun K hK => ?_)
  go_step
  ((with_reducible refine (node_marked _ k x _ _ mr r (Hmr.out.below hb02) (Hr.out.below hb02) (by omega)).mono ?_); rintro e w' ⟨p2, rfl, hp2, hb3⟩)
  have hb3' := hb2'.trans (hb3.mono hb2'.size)
  refine hK _ _ ⟨fun _ => hb3', ?_⟩
  clear hK K
  repeat (first | (refine Go.XR.S_light rfl rfl (by assumption) ?_ (fun w' hS K hK => ?_) (fun K hK => ?_); rotate_left 1; (have hS1 := bcell hS; go_step; exact hK); go_step; refine hK _ ?_; clear hK K))
  refine Go.XR.S_heavy (fun K hK => ?_)
  go_step
  ((with_reducible refine (node_marked _ mk mx _ _ (.node true lk lx ll ml) (.node true k x mr r) (hp.below hb3) hp2 (by simp only [FT.size]; omega)).mono ?_); rintro e w' ⟨p3, rfl, hp3, hb4⟩)
  refine hK _ _ ⟨fun _ => hb3'.trans (hb4.mono hb3'.size), ?_⟩
  clear hK K
  repeat (first | (refine Go.XR.S_light rfl rfl (by assumption) ?_ (fun w' hS K hK => ?_) (fun K hK => ?_); rotate_left 1; (have hS1 := bcell hS; go_step; exact hK); go_step; refine hK _ ?_; clear hK K))
  repeat (first | (refine Go.XR.S_heavy (fun K hK => ?_); go_step; refine hK _ _ ⟨fun h => by simp at h, ?_⟩; clear hK K))
  refine Go.XR.S_nil ?_
  go_wp2
  go_ret
  exact RetTreeM.of (hb01.trans (hb3'.mono hb01.size)) hp3 hb4

set_option maxHeartbeats 1000000 in
set_option maxRecDepth 100000 in
theorem join_RRm (w : World) (k x rk rx : ByteArray) (lv rv : Option Addr) (l rl rr : FT) (hl : RepM S w lv l) (hr : RepM S w rv (.node gl rk rx rl rr)) (hs : l.size + (FT.node gl rk rx rl rr).size < 2^60)
    (c0 : ((l.ht : Int) - ((FT.node gl rk rx rl rr).ht : Int) == 2) = false) (c1 : ((l.ht : Int) - ((FT.node gl rk rx rl rr).ht : Int) == -2) = true) (c2 : decide (rl.ht ≤ rr.ht) = true) :
    Calls Try.prog 29 #[.agg #[.string k, .string x], .pointer lv, .pointer rv] w (RetTreeM S w (.node true rk rx (.node true k x l rl) rr)) := by
  have Hl := Lib.hid hl
  have Hr := Lib.hid hr
  obtain ⟨bl, rlp, rrp, rfl, hbl, d0, d1, d2, d3, _, _, hrl, hrr⟩ := hr.open
  have Hrl := Lib.hid hrl
  have Hrr := Lib.hid hrr
  clear hl hr hrl hrr
  have hh1 := l.ht_le
  have hh2 := (FT.node gl rk rx rl rr).ht_le
  have hh3 : (FT.node gl rk rx rl rr).size = rl.size + rr.size + 1 := rfl
  have Hh3 := Lib.hid hh3
  have hh4 : l.size + rl.size + rr.size + 1 < 2^60 := by omega
  clear hh3
  go_enter Try.func29, Try.ntmps29
  go_wp2_with fail
  refine (height_marked _ _ l (Hl.out.alloc _)).mono ?_
  rintro e w' ⟨rfl, rfl⟩
  go_wp2_with fail
  refine (height_marked _ _ (.node gl rk rx rl rr) (Hr.out.alloc _)).mono ?_
  rintro e w' ⟨rfl, rfl⟩
  go_wp2_with fail
  refine gen_world (fun w0 => Below w.heap.size w w0 ∧ w.heap.size < w0.heap.size ∧ w0.cell? ⟨w.heap.size, 0, none⟩ = some (.string k) ∧ w0.cell? ⟨w.heap.size, 1, none⟩ = some (.string x))
    ⟨(Below.refl _ _).alloc (Nat.le_refl _) _, by simp, by simp, by simp⟩ ?_
  rintro w0 ⟨hb0, hn0, e0, e1⟩
  have hc0 := bcell hb0
  have hbl0 := Nat.lt_trans hbl hn0
  refine Go.XR.region_sched ((· = w0.drew)) [(0, true), (1, true), (2, true), (3, true), (5, true), (6, true), (7, true), (8, true), (4, false), (9, false), (10, false)] [9, 10] Try.mixed (by kernel_rfl) (by kernel_rfl) (by kernel_rfl) ?_
  simp only [List.map_cons, List.map_nil, List.getElem?_cons_succ, List.getElem?_cons_zero]
  repeat (first | (refine Go.XR.S_light rfl rfl rfl ?_ (fun w' hS K hK => ?_) (fun K hK => ?_); rotate_left 1; (cases hS; go_step; exact hK); go_step; refine hK _ ?_; clear hK K))
  refine Go.XR.S_heavy (fun K hK => ?_)
  go_step
  ((with_reducible refine (height_marked _ _ rr (Hrr.out.below hb0.drew)).mono ?_); rintro e w' ⟨rfl, rfl⟩)
  refine hK _ _ ⟨fun _ => rfl, ?_⟩
  clear hK K
  repeat (first | (refine Go.XR.S_light rfl rfl rfl ?_ (fun w' hS K hK => ?_) (fun K hK => ?_); rotate_left 1; (cases hS; go_step; exact hK); go_step; refine hK _ ?_; clear hK K))
  refine Go.XR.S_heavy (fun K hK => ?_)
  go_step
  ((with_reducible refine (height_marked _ _ rl (Hrl.out.below hb0.drew)).mono ?_); rintro e w' ⟨rfl, rfl⟩)
  refine hK _ _ ⟨fun _ => rfl, ?_⟩
  clear hK K
  repeat (first | (refine Go.XR.S_light rfl rfl rfl ?_ (fun w' hS K hK => ?_) (fun K hK => ?_); rotate_left 1; (cases hS; go_step; exact hK); go_step; refine hK _ ?_; clear hK K))
  repeat (first | (refine Go.XR.S_heavy (fun K hK => ?_); go_step; refine hK _ _ ⟨fun h => by simp at h, ?_⟩; clear hK K))
  refine Go.XR.S_nil ?_
  go_wp2_with fail
  refine gen_world (fun w1 => Below w0.heap.size w0 w1) (Below.refl _ _).drew ?_
  rintro w1 hb1
  have hc1 := bcell hb1
  have hb01 := hb0.trans (hb1.mono hb0.size)
  have hbl1 : bl < w1.heap.size := Nat.lt_of_lt_of_le hbl0 hb1.size
  have hn1 : w.heap.size < w1.heap.size := Nat.lt_of_lt_of_le hn0 hb1.size
  have hS0 : Below w1.heap.size w1 w1.drew := (Below.refl _ _).drew
  refine Go.XR.region_sched ((Below w1.heap.size w1)) [(0, true), (1, true), (2, true), (3, true), (4, true), (5, true), (6, true), (7, true), (8, true), (9, true), (11, true), (12, true), (13, true), (14, true), (10, false), (15, false), (16, false)] [15, 16] Try.mixed (by kernel_rfl) (by kernel_rfl) (by kernel_rfl) ?_
  simp only [List.map_cons, List.map_nil, List.getElem?_cons_succ, List.getElem?_cons_zero]
  repeat (first | (refine Go.XR.S_light rfl rfl (by assumption) ?_ (fun w' hS K hK => ?_) (fun K hK => ?_); rotate_left 1; (have hS1 := bcell hS; go_step; exact hK); go_step; refine hK _ ?_; clear hK K))
  refine Go.XR.S_heavy (fun K hK => ?_)
  go_step
  ((with_reducible refine (node_marked _ k x _ _ l rl (Hl.out.below hb01.drew) (Hrl.out.below hb01.drew) (by omega)).mono ?_); rintro e w' ⟨p, rfl, hp, hb2⟩)
  have hb2' : Below w1.heap.size w1 w' := hS0.trans hb2
  refine hK _ _ ⟨fun _ => hb2', ?_⟩
  clear hK K
  repeat (first | (refine Go.XR.S_light rfl rfl (by assumption) ?_ (fun w' hS K hK => ?_) (fun K hK => ?_); rotate_left 1; (have hS1 := bcell hS; go_step; exact hK); go_step; refine hK _ ?_; clear hK K))
  refine Go.XR.S_heavy (fun K hK => ?_)
  go_step
  ((with_reducible refine (node_marked _ rk rx _ _ (.node true k x l rl) rr hp (Hrr.out.below (hb01.trans (hb2'.mono hb01.size))) (by simp only [FT.size]; omega)).mono ?_); rintro e w' ⟨p2, rfl, hp2, hb3⟩)
  refine hK _ _ ⟨fun _ => hb2'.trans (hb3.mono hb2'.size), ?_⟩
  clear hK K
  repeat (first | (refine Go.XR.S_light rfl rfl (by assumption) ?_ (fun w' hS K hK => ?_) (fun K hK => ?_); rotate_left 1; (have hS1 := bcell hS; go_step; exact hK); go_step; refine hK _ ?_; clear hK K))
  repeat (first | (refine Go.XR.S_heavy (fun K hK => ?_); go_step; refine hK _ _ ⟨fun h => by simp at h, ?_⟩; clear hK K))
  refine Go.XR.S_nil ?_
  go_wp2
  go_ret
  exact RetTreeM.of (hb01.trans (hb2'.mono hb01.size)) hp2 hb3
set_option maxHeartbeats 1000000 in
set_option maxRecDepth 100000 in
theorem join_RLm (w : World) (k x rk rx mk mx : ByteArray) (lv rv : Option Addr) (l ml mr rr : FT) (hl : RepM S w lv l) (hr : RepM S w rv (.node gl rk rx (.node gm mk mx ml mr) rr)) (hs : l.size + (FT.node gl rk rx (.node gm mk mx ml mr) rr).size < 2^60)
    (c0 : ((l.ht : Int) - ((FT.node gl rk rx (.node gm mk mx ml mr) rr).ht : Int) == 2) = false) (c1 : ((l.ht : Int) - ((FT.node gl rk rx (.node gm mk mx ml mr) rr).ht : Int) == -2) = true) (c2 : decide ((FT.node gm mk mx ml mr).ht ≤ rr.ht) = false) :
    Calls Try.prog 29 #[.agg #[.string k, .string x], .pointer lv, .pointer rv] w (RetTreeM S w (.node true mk mx (.node true k x l ml) (.node true rk rx mr rr))) := by
  have Hl := Lib.hid hl
  have Hr := Lib.hid hr
  obtain ⟨bl, rlp, rrp, rfl, hbl, d0, d1, d2, d3, _, _, hrl, hrr⟩ := hr.open
  obtain ⟨bm, mlp, mrp, rfl, hbm, f0, f1, f2, f3, _, _, hml, hmr⟩ := hrl.open
  have Hml := Lib.hid hml
  have Hmr := Lib.hid hmr
  have Hrl := Lib.hid hrl
  have Hrr := Lib.hid hrr
  clear hl hr hrl hrr hml hmr
  have hh1 := l.ht_le
  have hh2 := (FT.node gl rk rx (.node gm mk mx ml mr) rr).ht_le
  have hh3 : (FT.node gl rk rx (.node gm mk mx ml mr) rr).size = (ml.size + mr.size + 1) + rr.size + 1 := rfl
  have Hh3 := Lib.hid hh3
  have hh4 : l.size + ml.size + mr.size + rr.size + 2 < 2^60 := by omega
  clear hh3
  go_enter Try.func29, Try.ntmps29
  go_wp2_with fail
  refine (height_marked _ _ l (Hl.out.alloc _)).mono ?_
  rintro e w' ⟨rfl, rfl⟩
  go_wp2_with fail
  refine (height_marked _ _ (.node gl rk rx (.node gm mk mx ml mr) rr) (Hr.out.alloc _)).mono ?_
  rintro e w' ⟨rfl, rfl⟩
  go_wp2_with fail
  refine gen_world (fun w0 => Below w.heap.size w w0 ∧ w.heap.size < w0.heap.size ∧ w0.cell? ⟨w.heap.size, 0, none⟩ = some (.string k) ∧ w0.cell? ⟨w.heap.size, 1, none⟩ = some (.string x))
    ⟨(Below.refl _ _).alloc (Nat.le_refl _) _, by simp, by simp, by simp⟩ ?_
  rintro w0 ⟨hb0, hn0, e0, e1⟩
  have hc0 := bcell hb0
  have hbl0 := Nat.lt_trans hbl hn0
  have hbm0 := Nat.lt_trans hbm hn0
  refine Go.XR.region_sched ((· = w0.drew)) [(0, true), (1, true), (2, true), (3, true), (5, true), (6, true), (7, true), (8, true), (4, false), (9, false), (10, false)] [9, 10] Try.mixed (by kernel_rfl) (by kernel_rfl) (by kernel_rfl) ?_
  simp only [List.map_cons, List.map_nil, List.getElem?_cons_succ, List.getElem?_cons_zero]
  repeat (first | (refine Go.XR.S_light rfl rfl rfl ?_ (fun w' hS K hK => ?_) (fun K hK => ?_); rotate_left 1; (cases hS; go_step; exact hK); go_step; refine hK _ ?_; clear hK K))
  refine Go.XR.S_heavy (fun K hK => ?_)
  go_step
  ((with_reducible refine (height_marked _ _ rr (Hrr.out.below hb0.drew)).mono ?_); rintro e w' ⟨rfl, rfl⟩)
  refine hK _ _ ⟨fun _ => rfl, ?_⟩
  clear hK K
  repeat (first | (refine Go.XR.S_light rfl rfl rfl ?_ (fun w' hS K hK => ?_) (fun K hK => ?_); rotate_left 1; (cases hS; go_step; exact hK); go_step; refine hK _ ?_; clear hK K))
  refine Go.XR.S_heavy (fun K hK => ?_)
  go_step
  ((with_reducible refine (height_marked _ _ (.node gm mk mx ml mr) (Hrl.out.below hb0.drew)).mono ?_); rintro e w' ⟨rfl, rfl⟩)
  refine hK _ _ ⟨fun _ => rfl, ?_⟩
  clear hK K
  repeat (first | (refine Go.XR.S_light rfl rfl rfl ?_ (fun w' hS K hK => ?_) (fun K hK => ?_); rotate_left 1; (cases hS; go_step; exact hK); go_step; refine hK _ ?_; clear hK K))
  repeat (first | (refine Go.XR.S_heavy (fun K hK => ?_); go_step; refine hK _ _ ⟨fun h => by simp at h, ?_⟩; clear hK K))
  refine Go.XR.S_nil ?_
  go_wp2_with fail
  refine gen_world (fun w1 => Below w0.heap.size w0 w1) (Below.refl _ _).drew ?_
  rintro w1 hb1
  have hc1 := bcell hb1
  have hb01 := hb0.trans (hb1.mono hb0.size)
  have hbl1 : bl < w1.heap.size := Nat.lt_of_lt_of_le hbl0 hb1.size
  have hbm1 : bm < w1.heap.size := Nat.lt_of_lt_of_le hbm0 hb1.size
  have hn1 : w.heap.size < w1.heap.size := Nat.lt_of_lt_of_le hn0 hb1.size
  have hS0 : Below w1.heap.size w1 w1.drew := (Below.refl _ _).drew
  refine Go.XR.region_sched ((Below w1.heap.size w1)) [(0, true), (1, true), (2, true), (3, true), (4, true), (5, true), (6, true), (7, true), (8, true), (9, true), (11, true), (12, true), (13, true), (14, true), (15, true), (16, true), (17, true), (18, true), (19, true), (20, true), (21, true), (22, true), (10, false), (23, false), (24, false), (25, false)] [24, 25] Try.mixed (by kernel_rfl) (by kernel_rfl) (by kernel_rfl) ?_
  simp only [List.map_cons, List.map_nil, List.getElem?_cons_succ, List.getElem?_cons_zero]
  repeat (first | (refine Go.XR.S_light rfl rfl (by assumption) ?_ (fun w' hS K hK => ?_) (fun K hK => ?_); rotate_left 1; (have hS1 := bcell hS; go_step; exact hK); go_step; refine hK _ ?_; clear hK K))
  refine Go.XR.S_heavy (fun K hK => ?_)
  go_step
  ((with_reducible refine (node_marked _ k x _ _ l ml (Hl.out.below hb01.drew) (Hml.out.below hb01.drew) (by omega)).mono ?_); rintro e w' ⟨p, rfl, hp, hb2⟩)
  have hb2' : Below w1.heap.size w1 w' := hS0.trans hb2
  refine hK _ _ ⟨fun _ => hb2', ?_⟩
  clear hK K
  repeat (first | (refine Go.XR.S_light rfl rfl (by assumption) ?_ (fun w' hS K hK => ?_) (fun K hK => ?_); rotate_left 1; (have hS1 := bcell hS; go_step; exact hK); go_step; refine hK _ ?_; clear hK K))
  have hb02 := hb01.trans (hb2'.mono hb01.size)
  refine Go.XR.S_heavy (fun K hK => ?_)
  go_step
  ((with_reducible refine (node_marked _ rk rx _ _ mr rr (Hmr.out.below hb02) (Hrr.out.below hb02) (by omega)).mono ?_); rintro e w' ⟨p2, rfl, hp2, hb3⟩)
  have hb3' := hb2'.trans (hb3.mono hb2'.size)
  refine hK _ _ ⟨fun _ => hb3', ?_⟩
  clear hK K
  repeat (first | (refine Go.XR.S_light rfl rfl (by assumption) ?_ (fun w' hS K hK => ?_) (fun K hK => ?_); rotate_left 1; (have hS1 := bcell hS; go_step; exact hK); go_step; refine hK _ ?_; clear hK K))
  refine Go.XR.S_heavy (fun K hK => ?_)
  go_step
  ((with_reducible refine (node_marked _ mk mx _ _ (.node true k x l ml) (.node true rk rx mr rr) (hp.below hb3) hp2 (by simp only [FT.size]; omega)).mono ?_); rintro e w' ⟨p3, rfl, hp3, hb4⟩)
  refine hK _ _ ⟨fun _ => hb3'.trans (hb4.mono hb3'.size), ?_⟩
  clear hK K
  repeat (first | (refine Go.XR.S_light rfl rfl (by assumption) ?_ (fun w' hS K hK => ?_) (fun K hK => ?_); rotate_left 1; (have hS1 := bcell hS; go_step; exact hK); go_step; refine hK _ ?_; clear hK K))
  repeat (first | (refine Go.XR.S_heavy (fun K hK => ?_); go_step; refine hK _ _ ⟨fun h => by simp at h, ?_⟩; clear hK K))
  refine Go.XR.S_nil ?_
  go_wp2
  go_ret
  exact RetTreeM.of (hb01.trans (hb3'.mono hb01.size)) hp3 hb4

theorem join_marked (w : World) (k x : ByteArray) (lv rv : Option Addr) (l r : FT) (hl : RepM S w lv l) (hr : RepM S w rv r) (hs : l.size + r.size < 2^60) :
    Calls Try.prog 29 #[.agg #[.string k, .string x], .pointer lv, .pointer rv] w (RetTreeM S w (FT.join k x l r)) := by
  unfold FT.join
  by_cases h1 : l.ht = r.ht + 2
  · rw [if_pos h1]
    have c1 : ((l.ht : Int) - (r.ht : Int) == 2) = true := by rw [beq_iff_eq]; omega
    cases l with
    | nil => simp [FT.ht] at h1
    | node gl lk lx ll lr =>
      simp only [FT.joinL]
      by_cases h2 : lr.ht ≤ ll.ht
      · rw [if_pos h2]
        exact join_LLm w k x lk lx lv rv ll lr r hl hr hs c1 (by simpa using h2)
      · rw [if_neg h2]
        cases lr with
        | nil => simp [FT.ht] at h2
        | node gm mk mx ml mr => exact join_LRm w k x lk lx mk mx lv rv ll ml mr r hl hr hs c1 (by simpa using h2)
  · rw [if_neg h1]
    have c0 : ((l.ht : Int) - (r.ht : Int) == 2) = false := by rw [beq_eq_false_iff_ne]; omega
    by_cases h2 : r.ht = l.ht + 2
    · rw [if_pos h2]
      have c1 : ((l.ht : Int) - (r.ht : Int) == -2) = true := by rw [beq_iff_eq]; omega
      cases r with
      | nil => simp [FT.ht] at h2
      | node gl rk rx rl rr =>
        simp only [FT.joinR]
        by_cases h3 : rl.ht ≤ rr.ht
        · rw [if_pos h3]
          exact join_RRm w k x rk rx lv rv l rl rr hl hr hs c0 c1 (by simpa using h3)
        · rw [if_neg h3]
          cases rl with
          | nil => simp [FT.ht] at h3
          | node gm mk mx ml mr => exact join_RLm w k x rk rx mk mx lv rv l ml mr rr hl hr hs c0 c1 (by simpa using h3)
    · rw [if_neg h2]
      exact join_0m w k x lv rv l r hl hr hs c0 (by rw [beq_eq_false_iff_ne]; omega)
end Go.Proofs.Ytfblpabkkahmeaa
