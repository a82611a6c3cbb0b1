/- The walks over Place, Len, Spilled. -/
import Derived.Test.YtekmiegonnhidaaBu
namespace Go.Proofs.Ytekmiegonnhidaa
open Go.RowKit Go.XR Go.PerfPure
theorem bcell {W w1 : World} (hb : Below W.heap.size W w1) : ∀ b o, b < W.heap.size → w1.cell? ⟨b, o, none⟩ = W.cell? ⟨b, o, none⟩ :=
  fun b o h => hb.cell (p := ⟨b, o, none⟩) h
structure OkB (b : Built) : Prop where
  pos : 0 < b.tries.length
  len : b.tries.length ≤ 16384
  n : b.n ≤ 16384
  small : ∀ x ∈ b.tries, x ≤ 256
def RetInt (w : World) (z : Int) (e : Ending) (w' : World) : Prop := e = .returned (.int .i64 z) ∧ Below w.heap.size w w'
set_option maxHeartbeats 1000000 in
set_option maxRecDepth 100000 in
theorem len_any (w : World) (p : Nat) (b : Built) (hM : MapRep w p b) : Calls Try.prog 13 #[.pointer (some ⟨p, 0, none⟩)] w (RetInt w b.n) := by
  obtain ⟨rb, sb, h1, h2, h3⟩ := hM
  have c0 := h1.cell (i := 0) rfl
  clear h1 h2 h3
  go_enter Try.func13, Try.ntmps13
  go_wp2
  go_ret
  exact ⟨rfl, Below.refl _ _⟩
set_option maxHeartbeats 1000000 in
set_option maxRecDepth 100000 in
theorem len_nil (w : World) : Calls Try.prog 13 #[.pointer none] w (RetInt w 0) := by
  go_enter Try.func13, Try.ntmps13
  go_wp2
  go_ret
  exact ⟨rfl, Below.refl _ _⟩
set_option maxHeartbeats 1000000 in
set_option maxRecDepth 100000 in
theorem spilled_nil (w : World) : Calls Try.prog 18 #[.pointer none] w (RetInt w 0) := by
  go_enter Try.func18, Try.ntmps18
  go_wp2
  go_ret
  exact ⟨rfl, Below.refl _ _⟩
set_option maxHeartbeats 1000000 in
set_option maxRecDepth 100000 in
theorem spilled_any (w : World) (p : Nat) (b : Built) (hM : MapRep w p b) : Calls Try.prog 18 #[.pointer (some ⟨p, 0, none⟩)] w (RetInt w b.spill.length) := by
  obtain ⟨rb, sb, h1, h2, es, clock, h3, h4, h5⟩ := hM
  have c0 := h1.cell (i := 2) rfl
  have hsz : es.size = b.spill.length := by have := congrArg List.length h5; simpa using this
  have hln : (Builtin.len_ #[55] 3 #[.map (some sb)]).run Try.prog w = .ok (.int .i64 es.size) w := by
    simp [Builtin.len_, run_underlying Try.underlying55, MapKept.run_getObj_map h3, goInt, Result.andThen]
  clear h1 h2 h4 h5
  go_enter Try.func18, Try.ntmps18
  go_wp2
  go_ret
  exact ⟨rfl, Below.refl _ _⟩
set_option maxHeartbeats 1000000 in
set_option maxRecDepth 100000 in
theorem place_nil (w : World) (k : KeyT) : Calls Try.prog 14 #[.pointer none, keyV k] w (RetInt w (-1)) := by
  go_enter Try.func14, Try.ntmps14
  go_wp2
  go_ret
  exact ⟨rfl, (Below.refl _ _).alloc (Nat.le_refl _) _⟩
set_option maxHeartbeats 1000000 in
set_option maxRecDepth 100000 in
theorem place_any (w : World) (p : Nat) (b : Built) (hM : MapRep w p b) (hok : OkB b) (k : KeyT) : Calls Try.prog 14 #[.pointer (some ⟨p, 0, none⟩), keyV k] w (RetInt w (placeP b k)) := by
  obtain ⟨rb, sb, h1, h2, h3⟩ := hM
  obtain ⟨ok1, ok2, ok3, ok4⟩ := hok
  have Hn : Hid (b.n = 0 → placeP b k = -1) := fun e => by unfold placeP; rw [if_pos e]
  have Hd : Hid (∀ t, 0 < b.n → b.tries.getD (pos 0 b.tries.length k) 0 = t → 0 < t → placeP b k = (pos (t : Nat) b.n k : Int)) := fun t h0 e h => by
    unfold placeP; rw [if_neg (by omega), e, if_pos h]
  have Hs : Hid (0 < b.n → b.tries.getD (pos 0 b.tries.length k) 0 = 0 → placeP b k = match aget b.spill k with | some p => (p : Int) | none => -1) := fun h0 e => by
    unfold placeP; rw [if_neg (by omega), e, if_neg (by omega)]; cases aget b.spill k <;> rfl
  obtain ⟨z, hz⟩ : ∃ z, placeP b k = z := ⟨_, rfl⟩
  rw [hz] at Hn Hd Hs ⊢
  clear hz
  obtain ⟨n, tr, sp⟩ := b
  dsimp only at *
  obtain ⟨W0, hW0⟩ : ∃ W0, w.alloc (.cells (keyC k) 27) = W0 := ⟨_, rfl⟩
  have HM0 : Hid (Blk W0 p [.int .i64 n, .slice (some ⟨rb, 0, none⟩) tr.length tr.length, .map (some sb)]) := by unfold Hid; rw [← hW0]; exact h1.below ((Below.refl _ _).alloc (Nat.le_refl _) _)
  have HR0 : Hid (Blk W0 rb (tr.flatMap u16L)) := by unfold Hid; rw [← hW0]; exact h2.below ((Below.refl _ _).alloc (Nat.le_refl _) _)
  have HG0 : Hid (GM keyV intV W0 sb sp) := by unfold Hid; rw [← hW0]; exact h3.below ((Below.refl _ _).alloc (Nat.le_refl _) _)
  have HK0 : Hid (At W0 w.heap.size 0 (keyC k)) := by unfold Hid; rw [← hW0]; exact At.new _ _ _
  have HB0 : Hid (Below w.heap.size w W0) := by unfold Hid; rw [← hW0]; exact (Below.refl _ _).alloc (Nat.le_refl _) _
  clear h1 h2 h3
  by_cases hn0 : n = 0
  · subst hn0
    have c0 := HM0.out.cell (i := 0) rfl
    go_enter Try.func14, Try.ntmps14
    go_wp2
    go_ret
    obtain rfl : z = -1 := Hn.out (by trivial)
    exact ⟨rfl, HB0.out⟩
  · have hn1 : ¬ (n : Int) = 0 := by omega
    have c0 := HM0.out.cell (i := 0) rfl
    have c1 := HM0.out.cell (i := 1) rfl
    have hpl := pos_lt 0 ok1 k
    have hpc := pos_cast 0 ok1 k
    have hbd := hashF_b 0 k
    obtain ⟨tv, htv⟩ : ∃ tv, tr.getD (pos 0 tr.length k) 0 = tv := ⟨_, rfl⟩
    have Hcr : Hid ((tr.flatMap u16L)[pos 0 tr.length k]? = some (.int .u16 (tv : Int))) := by
      have h1 := flat_get (enc := u16L) (k := 1) (fun _ => rfl) tr hpl (j := 0) (by omega)
      rw [Nat.mul_one, Nat.add_zero] at h1
      unfold Hid
      rw [h1, ← htv, List.getD_eq_getElem?_getD, List.getElem?_eq_getElem hpl]; rfl
    have htv2 : tv ≤ 256 := by
      rw [← htv, List.getD_eq_getElem?_getD, List.getElem?_eq_getElem hpl]
      exact ok4 _ (List.getElem_mem hpl)
    have Hd2 := Lib.hid (Hd.out tv (by omega) htv)
    have Hs2 : Hid (tv = 0 → z = match aget sp k with | some p => (p : Int) | none => -1) := fun e => Hs.out (by omega) (by rw [htv, e])
    clear Hd Hs Hn htv ok4
    generalize tr.length = many at *
    generalize pos 0 many k = pp at *
    have hpn : p < W0.heap.size := HM0.out.lt
    have hrn : rb < W0.heap.size := HR0.out.lt
    have hkn : w.heap.size < W0.heap.size := HK0.out.lt (by rw [keyC_size]; omega)
    go_enter Try.func14, Try.ntmps14
    go_wp2
    have hS0 : Below W0.heap.size W0 W0.drew := (Below.refl _ _).drew
    refine Go.XR.region_sched ((Below W0.heap.size W0)) [(0, true), (1, true), (2, true), (3, true), (4, true), (6, true), (7, true), (8, true), (9, true), (10, true), (11, true), (5, false), (12, true), (13, false), (14, false), (15, false)] [13, 14, 15] Try.mixed (by kernel_rfl) (by kernel_rfl) (by kernel_rfl) ?_
    simp only [List.map_cons, List.map_nil, List.getElem?_cons_succ, List.getElem?_cons_zero]
    repeat (first | (refine Go.XR.S_light rfl rfl (by assumption) ?_ (fun w' hS K hK => ?_) (fun K hK => ?_); rotate_left 1; (have hS1 := bcell hS; (first | (refine Go.XR.wp_load_at 27 _ rfl w.heap.size 0 rfl (keyC k) (At.below HK0.out (by rw [keyC_size]; omega) hS) _ Try.underlying27 rfl (keySize k) ?_) | go_step); exact hK); go_step; refine hK _ ?_; clear hK K))
    refine Go.XR.S_heavy (fun K hK => ?_)
    go_step
    ((with_reducible refine (hash_any W0.drew 0 (by omega) k).mono ?_); rintro e w' ⟨rfl, hb1⟩)
    have hS1 : Below W0.heap.size W0 w' := hS0.trans hb1
    have HR1 : Hid (Blk w' rb (tr.flatMap u16L)) := HR0.out.below hS1
    have HM1 : Hid (Blk w' p [.int .i64 n, .slice (some ⟨rb, 0, none⟩) many many, .map (some sb)]) := HM0.out.below hS1
    have HG1 : Hid (GM keyV intV w' sb sp) := HG0.out.below hS1
    have HK1 : Hid (At w' w.heap.size 0 (keyC k)) := At.below HK0.out (by rw [keyC_size]; omega) hS1
    have HB1 : Hid (Below w.heap.size w w') := HB0.out.trans (hS1.mono HB0.out.size)
    have cr := HR1.out.cell Hcr.out
    refine hK _ _ ⟨fun _ => hS1, ?_⟩
    clear hK K
    repeat (first | (refine Go.XR.S_light rfl rfl (by assumption) ?_ (fun w' hS K hK => ?_) (fun K hK => ?_); rotate_left 1; (have hS1 := bcell hS; (first | (refine Go.XR.wp_load_at 27 _ rfl w.heap.size 0 rfl (keyC k) (At.below HK0.out (by rw [keyC_size]; omega) hS) _ Try.underlying27 rfl (keySize k) ?_) | go_step); exact hK); go_step; refine hK _ ?_; clear hK K))
    refine Go.XR.S_heavy (fun K hK => ?_)
    go_step
    refine hK _ _ ⟨fun h => by simp at h, ?_⟩
    clear hK K
    repeat (first | (refine Go.XR.S_light rfl rfl (by assumption) ?_ (fun w' hS K hK => ?_) (fun K hK => ?_); rotate_left 1; (have hS1 := bcell hS; (first | (refine Go.XR.wp_load_at 27 _ rfl w.heap.size 0 rfl (keyC k) (At.below HK0.out (by rw [keyC_size]; omega) hS) _ Try.underlying27 rfl (keySize k) ?_) | go_step); exact hK); go_step; refine hK _ ?_; clear hK K))
    repeat (first | (refine Go.XR.S_heavy (fun K hK => ?_); go_step; refine hK _ _ ⟨fun h => by simp at h, ?_⟩; clear hK K))
    refine Go.XR.S_nil ?_
    clear hS0 hS1 hb1 cr hpc hbd hpl Hcr HR0 HM0 HG0 HK0 HB0 c0 c1 hrn hpn hkn
    obtain ⟨W1, rfl⟩ : ∃ W1, W1 = w' := ⟨_, rfl⟩
    clear hW0
    have hpn : p < W1.heap.size := HM1.out.lt
    have hkn : w.heap.size < W1.heap.size := HK1.out.lt (by rw [keyC_size]; omega)
    by_cases ht : 0 < tv
    · have ht2 : (0 : Int) < (tv : Int) := by omega
      have c0 := HM1.out.cell (i := 0) rfl
      have hn2 : 0 < n := by omega
      have hpc := pos_cast (tv : Int) hn2 k
      have hpl := pos_lt (tv : Int) hn2 k
      have hbd := hashF_b (tv : Int) k
      obtain rfl : z = (pos (tv : Int) n k : Int) := Hd2.out ht
      clear Hd2 Hs2
      generalize pos (tv : Int) n k = pp2 at *
      go_wp2
      have hS0 : Below W1.heap.size W1 W1.drew := (Below.refl _ _).drew
      refine Go.XR.region_sched ((Below W1.heap.size W1)) [(0, true), (1, true), (2, true), (4, true), (5, true), (6, true), (7, true), (8, true), (3, false), (9, false), (10, false), (11, false)] [9, 10, 11] Try.mixed (by kernel_rfl) (by kernel_rfl) (by kernel_rfl) ?_
      simp only [List.map_cons, List.map_nil, List.getElem?_cons_succ, List.getElem?_cons_zero]
      repeat (first | (refine Go.XR.S_light rfl rfl (by assumption) ?_ (fun w' hS K hK => ?_) (fun K hK => ?_); rotate_left 1; (have hS1 := bcell hS; (first | (refine Go.XR.wp_load_at 27 _ rfl w.heap.size 0 rfl (keyC k) (At.below HK1.out (by rw [keyC_size]; omega) hS) _ Try.underlying27 rfl (keySize k) ?_) | go_step); exact hK); go_step; refine hK _ ?_; clear hK K))
      refine Go.XR.S_heavy (fun K hK => ?_)
      go_step
      ((with_reducible refine (hash_any W1.drew (tv : Int) (by omega) k).mono ?_); rintro e w' ⟨rfl, hb2⟩)
      have hS2 : Below W1.heap.size W1 w' := hS0.trans hb2
      have HB2 : Hid (Below w.heap.size w w') := HB1.out.trans (hS2.mono HB1.out.size)
      refine hK _ _ ⟨fun _ => hS2, ?_⟩
      clear hK K
      repeat (first | (refine Go.XR.S_light rfl rfl (by assumption) ?_ (fun w' hS K hK => ?_) (fun K hK => ?_); rotate_left 1; (have hS1 := bcell hS; (first | (refine Go.XR.wp_load_at 27 _ rfl w.heap.size 0 rfl (keyC k) (At.below HK1.out (by rw [keyC_size]; omega) hS) _ Try.underlying27 rfl (keySize k) ?_) | go_step); exact hK); go_step; refine hK _ ?_; clear hK K))
      repeat (first | (refine Go.XR.S_heavy (fun K hK => ?_); go_step; refine hK _ _ ⟨fun h => by simp at h, ?_⟩; clear hK K))
      refine Go.XR.S_nil ?_
      go_wp2
      go_ret
      exact ⟨rfl, HB2.out⟩
    · obtain rfl : tv = 0 := by omega
      have c2 := HM1.out.cell (i := 2) rfl
      have Hz2 := Lib.hid (Hs2.out rfl)
      clear Hd2 Hs2 ht htv2
      have hlk := (GM.block (w' := W1.drew) HG1.out rfl).lookup_ok (P := Try.prog) keysKey Try.underlying55 (z := .int .i64 0) (Try.zeroValue3 _) k
      cases hv : aget sp k with
      | some q =>
        rw [hv] at hlk Hz2
        have hlk : (Instr.lookup 55 (.map (some sb)) (keyV k) true).run Try.prog W1.drew = .ok (.tuple #[.int .i64 (q : Int), .bool true]) W1.drew := hlk
        obtain rfl : z = (q : Int) := Hz2.out
        clear hv Hz2
        go_wp2
        refine Go.XR.region_sched ((· = W1.drew)) [(0, true), (1, true), (2, true), (3, true), (4, true), (5, false), (6, true), (7, true), (8, true), (9, true), (10, false)] [10] Try.mixed (by kernel_rfl) (by kernel_rfl) (by kernel_rfl) ?_
        simp only [List.map_cons, List.map_nil, List.getElem?_cons_succ, List.getElem?_cons_zero]
        repeat (first | (refine Go.XR.S_light rfl rfl rfl ?_ (fun w' hS K hK => ?_) (fun K hK => ?_); rotate_left 1; (cases hS; (first | (refine Go.XR.wp_load_at 27 _ rfl w.heap.size 0 rfl (keyC k) (At.drew HK1.out) _ Try.underlying27 rfl (keySize k) ?_) | go_step); exact hK); go_step; refine hK _ ?_; clear hK K))
        refine Go.XR.S_heavy (fun K hK => ?_)
        go_step
        refine hK _ _ ⟨fun _ => rfl, ?_⟩
        clear hK K
        repeat (first | (refine Go.XR.S_light rfl rfl rfl ?_ (fun w' hS K hK => ?_) (fun K hK => ?_); rotate_left 1; (cases hS; (first | (refine Go.XR.wp_load_at 27 _ rfl w.heap.size 0 rfl (keyC k) (At.drew HK1.out) _ Try.underlying27 rfl (keySize k) ?_) | go_step); exact hK); go_step; refine hK _ ?_; clear hK K))
        repeat (first | (refine Go.XR.S_heavy (fun K hK => ?_); go_step; refine hK _ _ ⟨fun h => by simp at h, ?_⟩; clear hK K))
        refine Go.XR.S_nil ?_
        go_wp2
        go_ret
        exact ⟨rfl, HB1.out.drew⟩
      | none =>
        rw [hv] at hlk Hz2
        have hlk : (Instr.lookup 55 (.map (some sb)) (keyV k) true).run Try.prog W1.drew = .ok (.tuple #[.int .i64 0, .bool false]) W1.drew := hlk
        obtain rfl : z = -1 := Hz2.out
        clear hv Hz2
        go_wp2
        refine Go.XR.region_sched ((· = W1.drew)) [(0, true), (1, true), (2, true), (3, true), (4, true), (5, false), (6, true), (7, true), (8, true), (9, true), (10, false)] [10] Try.mixed (by kernel_rfl) (by kernel_rfl) (by kernel_rfl) ?_
        simp only [List.map_cons, List.map_nil, List.getElem?_cons_succ, List.getElem?_cons_zero]
        repeat (first | (refine Go.XR.S_light rfl rfl rfl ?_ (fun w' hS K hK => ?_) (fun K hK => ?_); rotate_left 1; (cases hS; (first | (refine Go.XR.wp_load_at 27 _ rfl w.heap.size 0 rfl (keyC k) (At.drew HK1.out) _ Try.underlying27 rfl (keySize k) ?_) | go_step); exact hK); go_step; refine hK _ ?_; clear hK K))
        refine Go.XR.S_heavy (fun K hK => ?_)
        go_step
        refine hK _ _ ⟨fun _ => rfl, ?_⟩
        clear hK K
        repeat (first | (refine Go.XR.S_light rfl rfl rfl ?_ (fun w' hS K hK => ?_) (fun K hK => ?_); rotate_left 1; (cases hS; (first | (refine Go.XR.wp_load_at 27 _ rfl w.heap.size 0 rfl (keyC k) (At.drew HK1.out) _ Try.underlying27 rfl (keySize k) ?_) | go_step); exact hK); go_step; refine hK _ ?_; clear hK K))
        repeat (first | (refine Go.XR.S_heavy (fun K hK => ?_); go_step; refine hK _ _ ⟨fun h => by simp at h, ?_⟩; clear hK K))
        refine Go.XR.S_nil ?_
        go_wp2
        go_ret
        exact ⟨rfl, HB1.out.drew⟩
end Go.Proofs.Ytekmiegonnhidaa
