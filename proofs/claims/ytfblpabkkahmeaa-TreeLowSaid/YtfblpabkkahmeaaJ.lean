/- The walk over tree.join: the balanced join. -/
import Derived.Test.YtfblpabkkahmeaaA
namespace Go.Proofs.Ytfblpabkkahmeaa
open Go.RowKit Go.TreePure

/-- every cell of an old block reads as it did -/
theorem bcell {W w1 : World} (hb : Below W.heap.size W w1) : ∀ b o, b < W.heap.size → w1.cell? ⟨b, o, none⟩ = W.cell? ⟨b, o, none⟩ :=
  fun b o h => hb.cell (p := ⟨b, o, none⟩) h

theorem gen_world {P : Program} {c : Code} {Q : Exit → Act → World → Prop} {a : Act} {w : World} (Facts : World → Prop) (hf : Facts w) (h : ∀ w0, Facts w0 → c.wp P Q a w0) : c.wp P Q a w := h w hf

theorem RetTree.of {w w0 w' : World} {t : PT} {p : Option Addr} (hb : Below w.heap.size w w0) (hp : Rep w' p t) (hb' : Below w0.heap.size w0 w') : RetTree w t (.returned (.pointer p)) w' :=
  ⟨p, rfl, hp, hb.trans (hb'.mono hb.size)⟩

set_option maxHeartbeats 400000 in
set_option maxRecDepth 100000 in
theorem join_0 (w : World) (k x : ByteArray) (lv rv : Option Addr) (l r : PT) (hl : Rep w lv l) (hr : Rep w rv r) (hs : l.size + r.size < 2^60)
    (c1 : ((l.ht : Int) - (r.ht : Int) == 2) = false) (c2 : ((l.ht : Int) - (r.ht : Int) == -2) = false) :
    Calls Try.prog 29 #[.agg #[.string k, .string x], .pointer lv, .pointer rv] w (RetTree w (.node k x l r)) := by
  have Hl := Lib.hid hl
  have Hr := Lib.hid hr
  clear hl hr
  have hh1 := l.ht_le
  have hh2 := r.ht_le
  go_enter Try.func29, Try.ntmps29
  go_wp2_with fail
  refine (height_any _ _ l (Hl.out.alloc _)).mono ?_
  rintro e w' ⟨rfl, rfl⟩
  go_wp2_with fail
  refine (height_any _ _ r (Hr.out.alloc _)).mono ?_
  rintro e w' ⟨rfl, rfl⟩
  go_wp2_with fail
  refine (node_any _ k x _ _ l r (Hl.out.alloc _) (Hr.out.alloc _) hs).mono ?_
  rintro e w' ⟨p, rfl, hp, hb⟩
  go_wp2
  go_ret
  exact RetTree.of ((Below.refl _ _).alloc (Nat.le_refl _) _) hp hb

set_option maxHeartbeats 1000000 in
set_option maxRecDepth 100000 in
theorem join_LL (w : World) (k x lk lx : ByteArray) (lv rv : Option Addr) (ll lr r : PT) (hl : Rep w lv (.node lk lx ll lr)) (hr : Rep w rv r) (hs : (PT.node lk lx ll lr).size + r.size < 2^60)
    (c1 : (((PT.node lk lx ll lr).ht : Int) - (r.ht : Int) == 2) = true) (c2 : decide (lr.ht ≤ ll.ht) = true) :
    Calls Try.prog 29 #[.agg #[.string k, .string x], .pointer lv, .pointer rv] w (RetTree w (.node lk lx ll (.node k x lr r))) := by
  have Hl := Lib.hid hl
  have Hr := Lib.hid hr
  obtain ⟨bl, llp, lrp, rfl, hbl, d0, d1, d2, d3, _, _, hll, hlr⟩ := hl.open
  have Hll := Lib.hid hll
  have Hlr := Lib.hid hlr
  clear hl hr hll hlr
  have hh1 := (PT.node lk lx ll lr).ht_le
  have hh2 := r.ht_le
  have hh3 : (PT.node lk lx ll lr).size = ll.size + lr.size + 1 := rfl
  have Hh3 := Lib.hid hh3
  have hh4 : ll.size + lr.size + r.size + 1 < 2^60 := by omega
  clear hh3
  go_enter Try.func29, Try.ntmps29
  go_wp2_with fail
  refine (height_any _ _ (.node lk lx ll lr) (Hl.out.alloc _)).mono ?_
  rintro e w' ⟨rfl, rfl⟩
  go_wp2_with fail
  refine (height_any _ _ r (Hr.out.alloc _)).mono ?_
  rintro e w' ⟨rfl, rfl⟩
  go_wp2_with fail
  refine gen_world (fun w0 => Below w.heap.size w w0 ∧ w.heap.size < w0.heap.size ∧ w0.cell? ⟨w.heap.size, 0, none⟩ = some (.string k) ∧ w0.cell? ⟨w.heap.size, 1, none⟩ = some (.string x))
    ⟨(Below.refl _ _).alloc (Nat.le_refl _) _, by simp, by simp, by simp⟩ ?_
  rintro w0 ⟨hb0, hn0, e0, e1⟩
  have hc0 := bcell hb0
  have hbl0 := Nat.lt_trans hbl hn0
  refine Go.XR.region_sched ((· = w0.drew)) [(0, true), (1, true), (2, true), (3, true), (5, true), (6, true), (7, true), (8, true), (4, false), (9, false), (10, false)] [9, 10] Try.mixed (by kernel_rfl) (by kernel_rfl) (by kernel_rfl) ?_
  simp only [List.map_cons, List.map_nil, List.getElem?_cons_succ, List.getElem?_cons_zero]
  repeat (refine Go.XR.S_light rfl rfl rfl ?_ (fun w' hS K hK => ?_) (fun K hK => ?_); rotate_left 1; (cases hS; go_step; exact hK); go_step; refine hK _ ?_; clear hK K)
  refine Go.XR.S_heavy (fun K hK => ?_)
  go_step
  ((with_reducible refine (height_any _ _ ll (Hll.out.below hb0.drew)).mono ?_); rintro e w' ⟨rfl, rfl⟩)
  refine hK _ _ ⟨fun _ => rfl, ?_⟩
  clear hK K
  repeat (refine Go.XR.S_light rfl rfl rfl ?_ (fun w' hS K hK => ?_) (fun K hK => ?_); rotate_left 1; (cases hS; go_step; exact hK); go_step; refine hK _ ?_; clear hK K)
  refine Go.XR.S_heavy (fun K hK => ?_)
  go_step
  ((with_reducible refine (height_any _ _ lr (Hlr.out.below hb0.drew)).mono ?_); rintro e w' ⟨rfl, rfl⟩)
  refine hK _ _ ⟨fun _ => rfl, ?_⟩
  clear hK K
  repeat (refine Go.XR.S_light rfl rfl rfl ?_ (fun w' hS K hK => ?_) (fun K hK => ?_); rotate_left 1; (cases hS; go_step; exact hK); go_step; refine hK _ ?_; clear hK K)
  repeat (refine Go.XR.S_heavy (fun K hK => ?_); go_step; refine hK _ _ ⟨fun h => by simp at h, ?_⟩; clear hK K)
  refine Go.XR.S_nil ?_
  go_wp2_with fail
  refine gen_world (fun w1 => Below w0.heap.size w0 w1) (Below.refl _ _).drew ?_
  rintro w1 hb1
  have hc1 := bcell hb1
  have hb01 := hb0.trans (hb1.mono hb0.size)
  have hbl1 : bl < w1.heap.size := Nat.lt_of_lt_of_le hbl0 hb1.size
  have hn1 : w.heap.size < w1.heap.size := Nat.lt_of_lt_of_le hn0 hb1.size
  have hS0 : Below w1.heap.size w1 w1.drew := (Below.refl _ _).drew
  refine Go.XR.region_sched ((Below w1.heap.size w1)) [(0, true), (1, true), (2, true), (3, true), (4, true), (5, true), (6, true), (7, true), (8, true), (9, true), (10, true), (11, true), (12, true), (13, true), (14, false), (15, false), (16, false)] [15, 16] Try.mixed (by kernel_rfl) (by kernel_rfl) (by kernel_rfl) ?_
  simp only [List.map_cons, List.map_nil, List.getElem?_cons_succ, List.getElem?_cons_zero]
  repeat (refine Go.XR.S_light rfl rfl (by assumption) ?_ (fun w' hS K hK => ?_) (fun K hK => ?_); rotate_left 1; (have hS1 := bcell hS; go_step; exact hK); go_step; refine hK _ ?_; clear hK K)
  refine Go.XR.S_heavy (fun K hK => ?_)
  go_step
  ((with_reducible refine (node_any _ k x _ _ lr r (Hlr.out.below hb01.drew) (Hr.out.below hb01.drew) (by omega)).mono ?_); rintro e w' ⟨p, rfl, hp, hb2⟩)
  have hb2' : Below w1.heap.size w1 w' := hS0.trans hb2
  refine hK _ _ ⟨fun _ => hb2', ?_⟩
  clear hK K
  repeat (refine Go.XR.S_light rfl rfl (by assumption) ?_ (fun w' hS K hK => ?_) (fun K hK => ?_); rotate_left 1; (have hS1 := bcell hS; go_step; exact hK); go_step; refine hK _ ?_; clear hK K)
  refine Go.XR.S_heavy (fun K hK => ?_)
  go_step
  ((with_reducible refine (node_any _ lk lx _ _ ll (.node k x lr r) (Hll.out.below (hb01.trans (hb2'.mono hb01.size))) hp (by simp only [PT.size]; omega)).mono ?_); rintro e w' ⟨p2, rfl, hp2, hb3⟩)
  refine hK _ _ ⟨fun _ => hb2'.trans (hb3.mono hb2'.size), ?_⟩
  clear hK K
  repeat (refine Go.XR.S_light rfl rfl (by assumption) ?_ (fun w' hS K hK => ?_) (fun K hK => ?_); rotate_left 1; (have hS1 := bcell hS; go_step; exact hK); go_step; refine hK _ ?_; clear hK K)
  repeat (refine Go.XR.S_heavy (fun K hK => ?_); go_step; refine hK _ _ ⟨fun h => by simp at h, ?_⟩; clear hK K)
  refine Go.XR.S_nil ?_
  go_wp2
  go_ret
  exact RetTree.of (hb01.trans (hb2'.mono hb01.size)) hp2 hb3
set_option maxHeartbeats 1000000 in
set_option maxRecDepth 100000 in
theorem join_LR (w : World) (k x lk lx mk mx : ByteArray) (lv rv : Option Addr) (ll ml mr r : PT) (hl : Rep w lv (.node lk lx ll (.node mk mx ml mr))) (hr : Rep w rv r) (hs : (PT.node lk lx ll (.node mk mx ml mr)).size + r.size < 2^60)
    (c1 : (((PT.node lk lx ll (.node mk mx ml mr)).ht : Int) - (r.ht : Int) == 2) = true) (c2 : decide ((PT.node mk mx ml mr).ht ≤ ll.ht) = false) :
    Calls Try.prog 29 #[.agg #[.string k, .string x], .pointer lv, .pointer rv] w (RetTree w (.node mk mx (.node lk lx ll ml) (.node k x mr r))) := by
  have Hl := Lib.hid hl
  have Hr := Lib.hid hr
  obtain ⟨bl, llp, lrp, rfl, hbl, d0, d1, d2, d3, _, _, hll, hlr⟩ := hl.open
  obtain ⟨bm, mlp, mrp, rfl, hbm, f0, f1, f2, f3, _, _, hml, hmr⟩ := hlr.open
  have Hml := Lib.hid hml
  have Hmr := Lib.hid hmr
  have Hll := Lib.hid hll
  have Hlr := Lib.hid hlr
  clear hl hr hll hlr hml hmr
  have hh1 := (PT.node lk lx ll (.node mk mx ml mr)).ht_le
  have hh2 := r.ht_le
  have hh3 : (PT.node lk lx ll (.node mk mx ml mr)).size = ll.size + (ml.size + mr.size + 1) + 1 := rfl
  have Hh3 := Lib.hid hh3
  have hh4 : ll.size + ml.size + mr.size + r.size + 2 < 2^60 := by omega
  clear hh3
  go_enter Try.func29, Try.ntmps29
  go_wp2_with fail
  refine (height_any _ _ (.node lk lx ll (.node mk mx ml mr)) (Hl.out.alloc _)).mono ?_
  rintro e w' ⟨rfl, rfl⟩
  go_wp2_with fail
  refine (height_any _ _ r (Hr.out.alloc _)).mono ?_
  rintro e w' ⟨rfl, rfl⟩
  go_wp2_with fail
  refine gen_world (fun w0 => Below w.heap.size w w0 ∧ w.heap.size < w0.heap.size ∧ w0.cell? ⟨w.heap.size, 0, none⟩ = some (.string k) ∧ w0.cell? ⟨w.heap.size, 1, none⟩ = some (.string x))
    ⟨(Below.refl _ _).alloc (Nat.le_refl _) _, by simp, by simp, by simp⟩ ?_
  rintro w0 ⟨hb0, hn0, e0, e1⟩
  have hc0 := bcell hb0
  have hbl0 := Nat.lt_trans hbl hn0
  have hbm0 := Nat.lt_trans hbm hn0
  refine Go.XR.region_sched ((· = w0.drew)) [(0, true), (1, true), (2, true), (3, true), (5, true), (6, true), (7, true), (8, true), (4, false), (9, false), (10, false)] [9, 10] Try.mixed (by kernel_rfl) (by kernel_rfl) (by kernel_rfl) ?_
  simp only [List.map_cons, List.map_nil, List.getElem?_cons_succ, List.getElem?_cons_zero]
  repeat (refine Go.XR.S_light rfl rfl rfl ?_ (fun w' hS K hK => ?_) (fun K hK => ?_); rotate_left 1; (cases hS; go_step; exact hK); go_step; refine hK _ ?_; clear hK K)
  refine Go.XR.S_heavy (fun K hK => ?_)
  go_step
  ((with_reducible refine (height_any _ _ ll (Hll.out.below hb0.drew)).mono ?_); rintro e w' ⟨rfl, rfl⟩)
  refine hK _ _ ⟨fun _ => rfl, ?_⟩
  clear hK K
  repeat (refine Go.XR.S_light rfl rfl rfl ?_ (fun w' hS K hK => ?_) (fun K hK => ?_); rotate_left 1; (cases hS; go_step; exact hK); go_step; refine hK _ ?_; clear hK K)
  refine Go.XR.S_heavy (fun K hK => ?_)
  go_step
  ((with_reducible refine (height_any _ _ (.node mk mx ml mr) (Hlr.out.below hb0.drew)).mono ?_); rintro e w' ⟨rfl, rfl⟩)
  refine hK _ _ ⟨fun _ => rfl, ?_⟩
  clear hK K
  repeat (refine Go.XR.S_light rfl rfl rfl ?_ (fun w' hS K hK => ?_) (fun K hK => ?_); rotate_left 1; (cases hS; go_step; exact hK); go_step; refine hK _ ?_; clear hK K)
  repeat (refine Go.XR.S_heavy (fun K hK => ?_); go_step; refine hK _ _ ⟨fun h => by simp at h, ?_⟩; clear hK K)
  refine Go.XR.S_nil ?_
  go_wp2_with fail
  refine gen_world (fun w1 => Below w0.heap.size w0 w1) (Below.refl _ _).drew ?_
  rintro w1 hb1
  have hc1 := bcell hb1
  have hb01 := hb0.trans (hb1.mono hb0.size)
  have hbl1 : bl < w1.heap.size := Nat.lt_of_lt_of_le hbl0 hb1.size
  have hbm1 : bm < w1.heap.size := Nat.lt_of_lt_of_le hbm0 hb1.size
  have hn1 : w.heap.size < w1.heap.size := Nat.lt_of_lt_of_le hn0 hb1.size
  have hS0 : Below w1.heap.size w1 w1.drew := (Below.refl _ _).drew
  refine Go.XR.region_sched ((Below w1.heap.size w1)) [(0, true), (1, true), (2, true), (3, true), (4, true), (5, true), (6, true), (7, true), (8, true), (9, true), (10, true), (11, true), (12, true), (13, true), (14, true), (15, true), (17, true), (18, true), (19, true), (20, true), (21, true), (22, true), (16, false), (23, false), (24, false), (25, false)] [24, 25] Try.mixed (by kernel_rfl) (by kernel_rfl) (by kernel_rfl) ?_
  simp only [List.map_cons, List.map_nil, List.getElem?_cons_succ, List.getElem?_cons_zero]
  repeat (refine Go.XR.S_light rfl rfl (by assumption) ?_ (fun w' hS K hK => ?_) (fun K hK => ?_); rotate_left 1; (have hS1 := bcell hS; go_step; exact hK); go_step; refine hK _ ?_; clear hK K)
  refine Go.XR.S_heavy (fun K hK => ?_)
  go_step
  ((with_reducible refine (node_any _ lk lx _ _ ll ml (Hll.out.below hb01.drew) (Hml.out.below hb01.drew) (by omega)).mono ?_); rintro e w' ⟨p, rfl, hp, hb2⟩)
  have hb2' : Below w1.heap.size w1 w' := hS0.trans hb2
  refine hK _ _ ⟨fun _ => hb2', ?_⟩
  clear hK K
  repeat (refine Go.XR.S_light rfl rfl (by assumption) ?_ (fun w' hS K hK => ?_) (fun K hK => ?_); rotate_left 1; (have hS1 := bcell hS; go_step; exact hK); go_step; refine hK _ ?_; clear hK K)
  have hb02 := hb01.trans (hb2'.mono hb01.size)
  refine Go.XR.S_heavy (fun K hK => ?_)
  go_step
  ((with_reducible refine (node_any _ k x _ _ mr r (Hmr.out.below hb02) (Hr.out.below hb02) (by omega)).mono ?_); rintro e w' ⟨p2, rfl, hp2, hb3⟩)
  have hb3' := hb2'.trans (hb3.mono hb2'.size)
  refine hK _ _ ⟨fun _ => hb3', ?_⟩
  clear hK K
  repeat (refine Go.XR.S_light rfl rfl (by assumption) ?_ (fun w' hS K hK => ?_) (fun K hK => ?_); rotate_left 1; (have hS1 := bcell hS; go_step; exact hK); go_step; refine hK _ ?_; clear hK K)
  refine Go.XR.S_heavy (fun K hK => ?_)
  go_step
  ((with_reducible refine (node_any _ mk mx _ _ (.node lk lx ll ml) (.node k x mr r) (hp.below hb3) hp2 (by simp only [PT.size]; omega)).mono ?_); rintro e w' ⟨p3, rfl, hp3, hb4⟩)
  refine hK _ _ ⟨fun _ => hb3'.trans (hb4.mono hb3'.size), ?_⟩
  clear hK K
  repeat (refine Go.XR.S_light rfl rfl (by assumption) ?_ (fun w' hS K hK => ?_) (fun K hK => ?_); rotate_left 1; (have hS1 := bcell hS; go_step; exact hK); go_step; refine hK _ ?_; clear hK K)
  repeat (refine Go.XR.S_heavy (fun K hK => ?_); go_step; refine hK _ _ ⟨fun h => by simp at h, ?_⟩; clear hK K)
  refine Go.XR.S_nil ?_
  go_wp2
  go_ret
  exact RetTree.of (hb01.trans (hb3'.mono hb01.size)) hp3 hb4

set_option maxHeartbeats 1000000 in
set_option maxRecDepth 100000 in
theorem join_RR (w : World) (k x rk rx : ByteArray) (lv rv : Option Addr) (l rl rr : PT) (hl : Rep w lv l) (hr : Rep w rv (.node rk rx rl rr)) (hs : l.size + (PT.node rk rx rl rr).size < 2^60)
    (c0 : ((l.ht : Int) - ((PT.node rk rx rl rr).ht : Int) == 2) = false) (c1 : ((l.ht : Int) - ((PT.node rk rx rl rr).ht : Int) == -2) = true) (c2 : decide (rl.ht ≤ rr.ht) = true) :
    Calls Try.prog 29 #[.agg #[.string k, .string x], .pointer lv, .pointer rv] w (RetTree w (.node rk rx (.node k x l rl) rr)) := by
  have Hl := Lib.hid hl
  have Hr := Lib.hid hr
  obtain ⟨bl, rlp, rrp, rfl, hbl, d0, d1, d2, d3, _, _, hrl, hrr⟩ := hr.open
  have Hrl := Lib.hid hrl
  have Hrr := Lib.hid hrr
  clear hl hr hrl hrr
  have hh1 := l.ht_le
  have hh2 := (PT.node rk rx rl rr).ht_le
  have hh3 : (PT.node rk rx rl rr).size = rl.size + rr.size + 1 := rfl
  have Hh3 := Lib.hid hh3
  have hh4 : l.size + rl.size + rr.size + 1 < 2^60 := by omega
  clear hh3
  go_enter Try.func29, Try.ntmps29
  go_wp2_with fail
  refine (height_any _ _ l (Hl.out.alloc _)).mono ?_
  rintro e w' ⟨rfl, rfl⟩
  go_wp2_with fail
  refine (height_any _ _ (.node rk rx rl rr) (Hr.out.alloc _)).mono ?_
  rintro e w' ⟨rfl, rfl⟩
  go_wp2_with fail
  refine gen_world (fun w0 => Below w.heap.size w w0 ∧ w.heap.size < w0.heap.size ∧ w0.cell? ⟨w.heap.size, 0, none⟩ = some (.string k) ∧ w0.cell? ⟨w.heap.size, 1, none⟩ = some (.string x))
    ⟨(Below.refl _ _).alloc (Nat.le_refl _) _, by simp, by simp, by simp⟩ ?_
  rintro w0 ⟨hb0, hn0, e0, e1⟩
  have hc0 := bcell hb0
  have hbl0 := Nat.lt_trans hbl hn0
  refine Go.XR.region_sched ((· = w0.drew)) [(0, true), (1, true), (2, true), (3, true), (5, true), (6, true), (7, true), (8, true), (4, false), (9, false), (10, false)] [9, 10] Try.mixed (by kernel_rfl) (by kernel_rfl) (by kernel_rfl) ?_
  simp only [List.map_cons, List.map_nil, List.getElem?_cons_succ, List.getElem?_cons_zero]
  repeat (refine Go.XR.S_light rfl rfl rfl ?_ (fun w' hS K hK => ?_) (fun K hK => ?_); rotate_left 1; (cases hS; go_step; exact hK); go_step; refine hK _ ?_; clear hK K)
  refine Go.XR.S_heavy (fun K hK => ?_)
  go_step
  ((with_reducible refine (height_any _ _ rr (Hrr.out.below hb0.drew)).mono ?_); rintro e w' ⟨rfl, rfl⟩)
  refine hK _ _ ⟨fun _ => rfl, ?_⟩
  clear hK K
  repeat (refine Go.XR.S_light rfl rfl rfl ?_ (fun w' hS K hK => ?_) (fun K hK => ?_); rotate_left 1; (cases hS; go_step; exact hK); go_step; refine hK _ ?_; clear hK K)
  refine Go.XR.S_heavy (fun K hK => ?_)
  go_step
  ((with_reducible refine (height_any _ _ rl (Hrl.out.below hb0.drew)).mono ?_); rintro e w' ⟨rfl, rfl⟩)
  refine hK _ _ ⟨fun _ => rfl, ?_⟩
  clear hK K
  repeat (refine Go.XR.S_light rfl rfl rfl ?_ (fun w' hS K hK => ?_) (fun K hK => ?_); rotate_left 1; (cases hS; go_step; exact hK); go_step; refine hK _ ?_; clear hK K)
  repeat (refine Go.XR.S_heavy (fun K hK => ?_); go_step; refine hK _ _ ⟨fun h => by simp at h, ?_⟩; clear hK K)
  refine Go.XR.S_nil ?_
  go_wp2_with fail
  refine gen_world (fun w1 => Below w0.heap.size w0 w1) (Below.refl _ _).drew ?_
  rintro w1 hb1
  have hc1 := bcell hb1
  have hb01 := hb0.trans (hb1.mono hb0.size)
  have hbl1 : bl < w1.heap.size := Nat.lt_of_lt_of_le hbl0 hb1.size
  have hn1 : w.heap.size < w1.heap.size := Nat.lt_of_lt_of_le hn0 hb1.size
  have hS0 : Below w1.heap.size w1 w1.drew := (Below.refl _ _).drew
  refine Go.XR.region_sched ((Below w1.heap.size w1)) [(0, true), (1, true), (2, true), (3, true), (4, true), (5, true), (6, true), (7, true), (8, true), (9, true), (11, true), (12, true), (13, true), (14, true), (10, false), (15, false), (16, false)] [15, 16] Try.mixed (by kernel_rfl) (by kernel_rfl) (by kernel_rfl) ?_
  simp only [List.map_cons, List.map_nil, List.getElem?_cons_succ, List.getElem?_cons_zero]
  repeat (refine Go.XR.S_light rfl rfl (by assumption) ?_ (fun w' hS K hK => ?_) (fun K hK => ?_); rotate_left 1; (have hS1 := bcell hS; go_step; exact hK); go_step; refine hK _ ?_; clear hK K)
  refine Go.XR.S_heavy (fun K hK => ?_)
  go_step
  ((with_reducible refine (node_any _ k x _ _ l rl (Hl.out.below hb01.drew) (Hrl.out.below hb01.drew) (by omega)).mono ?_); rintro e w' ⟨p, rfl, hp, hb2⟩)
  have hb2' : Below w1.heap.size w1 w' := hS0.trans hb2
  refine hK _ _ ⟨fun _ => hb2', ?_⟩
  clear hK K
  repeat (refine Go.XR.S_light rfl rfl (by assumption) ?_ (fun w' hS K hK => ?_) (fun K hK => ?_); rotate_left 1; (have hS1 := bcell hS; go_step; exact hK); go_step; refine hK _ ?_; clear hK K)
  refine Go.XR.S_heavy (fun K hK => ?_)
  go_step
  ((with_reducible refine (node_any _ rk rx _ _ (.node k x l rl) rr hp (Hrr.out.below (hb01.trans (hb2'.mono hb01.size))) (by simp only [PT.size]; omega)).mono ?_); rintro e w' ⟨p2, rfl, hp2, hb3⟩)
  refine hK _ _ ⟨fun _ => hb2'.trans (hb3.mono hb2'.size), ?_⟩
  clear hK K
  repeat (refine Go.XR.S_light rfl rfl (by assumption) ?_ (fun w' hS K hK => ?_) (fun K hK => ?_); rotate_left 1; (have hS1 := bcell hS; go_step; exact hK); go_step; refine hK _ ?_; clear hK K)
  repeat (refine Go.XR.S_heavy (fun K hK => ?_); go_step; refine hK _ _ ⟨fun h => by simp at h, ?_⟩; clear hK K)
  refine Go.XR.S_nil ?_
  go_wp2
  go_ret
  exact RetTree.of (hb01.trans (hb2'.mono hb01.size)) hp2 hb3
set_option maxHeartbeats 1000000 in
set_option maxRecDepth 100000 in
theorem join_RL (w : World) (k x rk rx mk mx : ByteArray) (lv rv : Option Addr) (l ml mr rr : PT) (hl : Rep w lv l) (hr : Rep w rv (.node rk rx (.node mk mx ml mr) rr)) (hs : l.size + (PT.node rk rx (.node mk mx ml mr) rr).size < 2^60)
    (c0 : ((l.ht : Int) - ((PT.node rk rx (.node mk mx ml mr) rr).ht : Int) == 2) = false) (c1 : ((l.ht : Int) - ((PT.node rk rx (.node mk mx ml mr) rr).ht : Int) == -2) = true) (c2 : decide ((PT.node mk mx ml mr).ht ≤ rr.ht) = false) :
    Calls Try.prog 29 #[.agg #[.string k, .string x], .pointer lv, .pointer rv] w (RetTree w (.node mk mx (.node k x l ml) (.node rk rx mr rr))) := by
  have Hl := Lib.hid hl
  have Hr := Lib.hid hr
  obtain ⟨bl, rlp, rrp, rfl, hbl, d0, d1, d2, d3, _, _, hrl, hrr⟩ := hr.open
  obtain ⟨bm, mlp, mrp, rfl, hbm, f0, f1, f2, f3, _, _, hml, hmr⟩ := hrl.open
  have Hml := Lib.hid hml
  have Hmr := Lib.hid hmr
  have Hrl := Lib.hid hrl
  have Hrr := Lib.hid hrr
  clear hl hr hrl hrr hml hmr
  have hh1 := l.ht_le
  have hh2 := (PT.node rk rx (.node mk mx ml mr) rr).ht_le
  have hh3 : (PT.node rk rx (.node mk mx ml mr) rr).size = (ml.size + mr.size + 1) + rr.size + 1 := rfl
  have Hh3 := Lib.hid hh3
  have hh4 : l.size + ml.size + mr.size + rr.size + 2 < 2^60 := by omega
  clear hh3
  go_enter Try.func29, Try.ntmps29
  go_wp2_with fail
  refine (height_any _ _ l (Hl.out.alloc _)).mono ?_
  rintro e w' ⟨rfl, rfl⟩
  go_wp2_with fail
  refine (height_any _ _ (.node rk rx (.node mk mx ml mr) rr) (Hr.out.alloc _)).mono ?_
  rintro e w' ⟨rfl, rfl⟩
  go_wp2_with fail
  refine gen_world (fun w0 => Below w.heap.size w w0 ∧ w.heap.size < w0.heap.size ∧ w0.cell? ⟨w.heap.size, 0, none⟩ = some (.string k) ∧ w0.cell? ⟨w.heap.size, 1, none⟩ = some (.string x))
    ⟨(Below.refl _ _).alloc (Nat.le_refl _) _, by simp, by simp, by simp⟩ ?_
  rintro w0 ⟨hb0, hn0, e0, e1⟩
  have hc0 := bcell hb0
  have hbl0 := Nat.lt_trans hbl hn0
  have hbm0 := Nat.lt_trans hbm hn0
  refine Go.XR.region_sched ((· = w0.drew)) [(0, true), (1, true), (2, true), (3, true), (5, true), (6, true), (7, true), (8, true), (4, false), (9, false), (10, false)] [9, 10] Try.mixed (by kernel_rfl) (by kernel_rfl) (by kernel_rfl) ?_
  simp only [List.map_cons, List.map_nil, List.getElem?_cons_succ, List.getElem?_cons_zero]
  repeat (refine Go.XR.S_light rfl rfl rfl ?_ (fun w' hS K hK => ?_) (fun K hK => ?_); rotate_left 1; (cases hS; go_step; exact hK); go_step; refine hK _ ?_; clear hK K)
  refine Go.XR.S_heavy (fun K hK => ?_)
  go_step
  ((with_reducible refine (height_any _ _ rr (Hrr.out.below hb0.drew)).mono ?_); rintro e w' ⟨rfl, rfl⟩)
  refine hK _ _ ⟨fun _ => rfl, ?_⟩
  clear hK K
  repeat (refine Go.XR.S_light rfl rfl rfl ?_ (fun w' hS K hK => ?_) (fun K hK => ?_); rotate_left 1; (cases hS; go_step; exact hK); go_step; refine hK _ ?_; clear hK K)
  refine Go.XR.S_heavy (fun K hK => ?_)
  go_step
  ((with_reducible refine (height_any _ _ (.node mk mx ml mr) (Hrl.out.below hb0.drew)).mono ?_); rintro e w' ⟨rfl, rfl⟩)
  refine hK _ _ ⟨fun _ => rfl, ?_⟩
  clear hK K
  repeat (refine Go.XR.S_light rfl rfl rfl ?_ (fun w' hS K hK => ?_) (fun K hK => ?_); rotate_left 1; (cases hS; go_step; exact hK); go_step; refine hK _ ?_; clear hK K)
  repeat (refine Go.XR.S_heavy (fun K hK => ?_); go_step; refine hK _ _ ⟨fun h => by simp at h, ?_⟩; clear hK K)
  refine Go.XR.S_nil ?_
  go_wp2_with fail
  refine gen_world (fun w1 => Below w0.heap.size w0 w1) (Below.refl _ _).drew ?_
  rintro w1 hb1
  have hc1 := bcell hb1
  have hb01 := hb0.trans (hb1.mono hb0.size)
  have hbl1 : bl < w1.heap.size := Nat.lt_of_lt_of_le hbl0 hb1.size
  have hbm1 : bm < w1.heap.size := Nat.lt_of_lt_of_le hbm0 hb1.size
  have hn1 : w.heap.size < w1.heap.size := Nat.lt_of_lt_of_le hn0 hb1.size
  have hS0 : Below w1.heap.size w1 w1.drew := (Below.refl _ _).drew
  refine Go.XR.region_sched ((Below w1.heap.size w1)) [(0, true), (1, true), (2, true), (3, true), (4, true), (5, true), (6, true), (7, true), (8, true), (9, true), (11, true), (12, true), (13, true), (14, true), (15, true), (16, true), (17, true), (18, true), (19, true), (20, true), (21, true), (22, true), (10, false), (23, false), (24, false), (25, false)] [24, 25] Try.mixed (by kernel_rfl) (by kernel_rfl) (by kernel_rfl) ?_
  simp only [List.map_cons, List.map_nil, List.getElem?_cons_succ, List.getElem?_cons_zero]
  repeat (refine Go.XR.S_light rfl rfl (by assumption) ?_ (fun w' hS K hK => ?_) (fun K hK => ?_); rotate_left 1; (have hS1 := bcell hS; go_step; exact hK); go_step; refine hK _ ?_; clear hK K)
  refine Go.XR.S_heavy (fun K hK => ?_)
  go_step
  ((with_reducible refine (node_any _ k x _ _ l ml (Hl.out.below hb01.drew) (Hml.out.below hb01.drew) (by omega)).mono ?_); rintro e w' ⟨p, rfl, hp, hb2⟩)
  have hb2' : Below w1.heap.size w1 w' := hS0.trans hb2
  refine hK _ _ ⟨fun _ => hb2', ?_⟩
  clear hK K
  repeat (refine Go.XR.S_light rfl rfl (by assumption) ?_ (fun w' hS K hK => ?_) (fun K hK => ?_); rotate_left 1; (have hS1 := bcell hS; go_step; exact hK); go_step; refine hK _ ?_; clear hK K)
  have hb02 := hb01.trans (hb2'.mono hb01.size)
  refine Go.XR.S_heavy (fun K hK => ?_)
  go_step
  ((with_reducible refine (node_any _ rk rx _ _ mr rr (Hmr.out.below hb02) (Hrr.out.below hb02) (by omega)).mono ?_); rintro e w' ⟨p2, rfl, hp2, hb3⟩)
  have hb3' := hb2'.trans (hb3.mono hb2'.size)
  refine hK _ _ ⟨fun _ => hb3', ?_⟩
  clear hK K
  repeat (refine Go.XR.S_light rfl rfl (by assumption) ?_ (fun w' hS K hK => ?_) (fun K hK => ?_); rotate_left 1; (have hS1 := bcell hS; go_step; exact hK); go_step; refine hK _ ?_; clear hK K)
  refine Go.XR.S_heavy (fun K hK => ?_)
  go_step
  ((with_reducible refine (node_any _ mk mx _ _ (.node k x l ml) (.node rk rx mr rr) (hp.below hb3) hp2 (by simp only [PT.size]; omega)).mono ?_); rintro e w' ⟨p3, rfl, hp3, hb4⟩)
  refine hK _ _ ⟨fun _ => hb3'.trans (hb4.mono hb3'.size), ?_⟩
  clear hK K
  repeat (refine Go.XR.S_light rfl rfl (by assumption) ?_ (fun w' hS K hK => ?_) (fun K hK => ?_); rotate_left 1; (have hS1 := bcell hS; go_step; exact hK); go_step; refine hK _ ?_; clear hK K)
  repeat (refine Go.XR.S_heavy (fun K hK => ?_); go_step; refine hK _ _ ⟨fun h => by simp at h, ?_⟩; clear hK K)
  refine Go.XR.S_nil ?_
  go_wp2
  go_ret
  exact RetTree.of (hb01.trans (hb3'.mono hb01.size)) hp3 hb4

theorem ht_zero : ∀ {t : PT}, t.ht = 0 → t = .nil
  | .nil, _ => rfl
  | .node _ _ _ _, h => by simp [PT.ht] at h

theorem join_any (w : World) (k x : ByteArray) (lv rv : Option Addr) (l r : PT) (hl : Rep w lv l) (hr : Rep w rv r) (hs : l.size + r.size < 2^60) :
    Calls Try.prog 29 #[.agg #[.string k, .string x], .pointer lv, .pointer rv] w (RetTree w (PT.join k x l r)) := by
  unfold PT.join
  by_cases h1 : l.ht = r.ht + 2
  · rw [if_pos h1]
    have c1 : ((l.ht : Int) - (r.ht : Int) == 2) = true := by rw [beq_iff_eq]; omega
    cases l with
    | nil => simp [PT.ht] at h1
    | node lk lx ll lr =>
      simp only [PT.joinL]
      by_cases h2 : lr.ht ≤ ll.ht
      · rw [if_pos h2]
        exact join_LL w k x lk lx lv rv ll lr r hl hr hs c1 (by simpa using h2)
      · rw [if_neg h2]
        cases lr with
        | nil => simp [PT.ht] at h2
        | node mk mx ml mr => exact join_LR w k x lk lx mk mx lv rv ll ml mr r hl hr hs c1 (by simpa using h2)
  · rw [if_neg h1]
    have c0 : ((l.ht : Int) - (r.ht : Int) == 2) = false := by rw [beq_eq_false_iff_ne]; omega
    by_cases h2 : r.ht = l.ht + 2
    · rw [if_pos h2]
      have c1 : ((l.ht : Int) - (r.ht : Int) == -2) = true := by rw [beq_iff_eq]; omega
      cases r with
      | nil => simp [PT.ht] at h2
      | node rk rx rl rr =>
        simp only [PT.joinR]
        by_cases h3 : rl.ht ≤ rr.ht
        · rw [if_pos h3]
          exact join_RR w k x rk rx lv rv l rl rr hl hr hs c0 c1 (by simpa using h3)
        · rw [if_neg h3]
          cases rl with
          | nil => simp [PT.ht] at h3
          | node mk mx ml mr => exact join_RL w k x rk rx mk mx lv rv l ml mr rr hl hr hs c0 c1 (by simpa using h3)
    · rw [if_neg h2]
      exact join_0 w k x lv rv l r hl hr hs c0 (by rw [beq_eq_false_iff_ne]; omega)
end Go.Proofs.Ytfblpabkkahmeaa
