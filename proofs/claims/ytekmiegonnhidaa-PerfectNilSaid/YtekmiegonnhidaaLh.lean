/- The walks over the statements PerfectHashes, PerfectNil. -/
import Derived.Test.YtekmiegonnhidaaSw
namespace Go.Proofs.Ytekmiegonnhidaa
open Go.RowKit Go.XR Go.PerfPure
set_option maxHeartbeats 1000000 in
set_option maxRecDepth 100000 in
theorem hashes_walk (w : World) (s : Int) (hs : 0 ≤ s ∧ s < 18446744073709551616) (k : KeyT) : Calls Try.prog 3 #[.int .u64 s, keyV k] w (RetBool w true) := by
  obtain ⟨W0, hW0⟩ : ∃ W0, w.alloc (.cells (keyC k) 27) = W0 := ⟨_, rfl⟩
  have HK0 : Hid (At W0 w.heap.size 0 (keyC k)) := by unfold Hid; rw [← hW0]; exact At.new _ _ _
  have HB0 : Hid (Below w.heap.size w W0) := by unfold Hid; rw [← hW0]; exact (Below.refl _ _).alloc (Nat.le_refl _) _
  have hkn : w.heap.size < W0.heap.size := HK0.out.lt (by rw [keyC_size]; omega)
  go_enter Try.func3, Try.ntmps3
  go_wp2
  have hS0 : Below W0.heap.size W0 W0.drew := (Below.refl _ _).drew
  refine Go.XR.region_sched ((Below W0.heap.size W0)) [(0, false), (1, true), (2, true), (3, true), (5, true), (6, true), (4, false), (7, false), (8, false), (9, false), (10, false)] [7, 8, 9, 10] Try.mixed (by kernel_rfl) (by kernel_rfl) (by kernel_rfl) ?_
  simp only [List.map_cons, List.map_nil, List.getElem?_cons_succ, List.getElem?_cons_zero]
  repeat (first | (refine Go.XR.S_light rfl rfl (by assumption) ?_ (fun w' hS K hK => ?_) (fun K hK => ?_); rotate_left 1; (have hS1 := bcell hS; (first | (refine Go.XR.wp_load_at 27 _ rfl w.heap.size 0 rfl (keyC k) (At.below HK0.out (by rw [keyC_size]; omega) hS) _ Try.underlying27 rfl (keySize k) ?_) | go_step); exact hK); go_step; refine hK _ ?_; clear hK K) | (refine Go.XR.S_light_off rfl (by assumption) (fun K hK => ?_); go_step; refine hK _ ?_; clear hK K) | (refine Go.XR.S_light_on rfl rfl rfl (by assumption) ?_ (fun w' hS K hK => ?_) (fun K hK => ?_); rotate_left 1; (have hS1 := bcell hS; (first | (refine Go.XR.wp_load_at 27 _ rfl w.heap.size 0 rfl (keyC k) (At.below HK0.out (by rw [keyC_size]; omega) hS) _ Try.underlying27 rfl (keySize k) ?_) | go_step); exact hK); go_step; refine hK _ ?_; clear hK K))
  refine Go.XR.S_heavy (fun K hK => ?_)
  go_step
  ((with_reducible refine (shown_any W0.drew).mono ?_); rintro e w' ⟨rfl, hb1⟩)
  have hS1 : Below W0.heap.size W0 w' := hS0.trans hb1
  refine hK _ _ ⟨fun _ => hS1, ?_⟩
  clear hK K
  repeat (first | (refine Go.XR.S_light rfl rfl (by assumption) ?_ (fun w' hS K hK => ?_) (fun K hK => ?_); rotate_left 1; (have hS1 := bcell hS; (first | (refine Go.XR.wp_load_at 27 _ rfl w.heap.size 0 rfl (keyC k) (At.below HK0.out (by rw [keyC_size]; omega) hS) _ Try.underlying27 rfl (keySize k) ?_) | go_step); exact hK); go_step; refine hK _ ?_; clear hK K) | (refine Go.XR.S_light_off rfl (by assumption) (fun K hK => ?_); go_step; refine hK _ ?_; clear hK K) | (refine Go.XR.S_light_on rfl rfl rfl (by assumption) ?_ (fun w' hS K hK => ?_) (fun K hK => ?_); rotate_left 1; (have hS1 := bcell hS; (first | (refine Go.XR.wp_load_at 27 _ rfl w.heap.size 0 rfl (keyC k) (At.below HK0.out (by rw [keyC_size]; omega) hS) _ Try.underlying27 rfl (keySize k) ?_) | go_step); exact hK); go_step; refine hK _ ?_; clear hK K))
  refine Go.XR.S_heavy_on rfl (fun K hK => ?_)
  go_step
  ((with_reducible refine (hash_any _ s hs k).mono ?_); rintro e w' ⟨rfl, hb2⟩)
  have hS2 : Below W0.heap.size W0 w' := hS1.trans (hb2.mono hS1.size)
  refine hK _ _ ⟨fun _ => hS2, ?_⟩
  clear hK K
  repeat (first | (refine Go.XR.S_light rfl rfl (by assumption) ?_ (fun w' hS K hK => ?_) (fun K hK => ?_); rotate_left 1; (have hS1 := bcell hS; (first | (refine Go.XR.wp_load_at 27 _ rfl w.heap.size 0 rfl (keyC k) (At.below HK0.out (by rw [keyC_size]; omega) hS) _ Try.underlying27 rfl (keySize k) ?_) | go_step); exact hK); go_step; refine hK _ ?_; clear hK K) | (refine Go.XR.S_light_off rfl (by assumption) (fun K hK => ?_); go_step; refine hK _ ?_; clear hK K) | (refine Go.XR.S_light_on rfl rfl rfl (by assumption) ?_ (fun w' hS K hK => ?_) (fun K hK => ?_); rotate_left 1; (have hS1 := bcell hS; (first | (refine Go.XR.wp_load_at 27 _ rfl w.heap.size 0 rfl (keyC k) (At.below HK0.out (by rw [keyC_size]; omega) hS) _ Try.underlying27 rfl (keySize k) ?_) | go_step); exact hK); go_step; refine hK _ ?_; clear hK K))
  refine Go.XR.S_heavy_on rfl (fun K hK => ?_)
  go_step
  ((with_reducible refine (refhash_any _ s hs k).mono ?_); rintro e w' ⟨rfl, hb3⟩)
  have hS3 : Below W0.heap.size W0 w' := hS2.trans (hb3.mono hS2.size)
  have HBf : Hid (Below w.heap.size w w') := HB0.out.trans (hS3.mono HB0.out.size)
  refine hK _ _ ⟨fun _ => hS3, ?_⟩
  clear hK K
  repeat (first | (refine Go.XR.S_light rfl rfl (by assumption) ?_ (fun w' hS K hK => ?_) (fun K hK => ?_); rotate_left 1; (have hS1 := bcell hS; (first | (refine Go.XR.wp_load_at 27 _ rfl w.heap.size 0 rfl (keyC k) (At.below HK0.out (by rw [keyC_size]; omega) hS) _ Try.underlying27 rfl (keySize k) ?_) | go_step); exact hK); go_step; refine hK _ ?_; clear hK K) | (refine Go.XR.S_light_off rfl (by assumption) (fun K hK => ?_); go_step; refine hK _ ?_; clear hK K) | (refine Go.XR.S_light_on rfl rfl rfl (by assumption) ?_ (fun w' hS K hK => ?_) (fun K hK => ?_); rotate_left 1; (have hS1 := bcell hS; (first | (refine Go.XR.wp_load_at 27 _ rfl w.heap.size 0 rfl (keyC k) (At.below HK0.out (by rw [keyC_size]; omega) hS) _ Try.underlying27 rfl (keySize k) ?_) | go_step); exact hK); go_step; refine hK _ ?_; clear hK K))
  repeat (first | (refine Go.XR.S_heavy (fun K hK => ?_); go_step; refine hK _ _ ⟨fun h => by simp at h, ?_⟩; clear hK K) | (refine Go.XR.S_heavy_off rfl (fun h => by simp at h) (fun K hK => ?_); go_step; refine hK _ ?_; clear hK K) | (refine Go.XR.S_heavy_on rfl (fun K hK => ?_); go_step; refine hK _ _ ⟨fun h => by simp at h, ?_⟩; clear hK K))
  refine Go.XR.S_nil ?_
  go_wp2
  go_ret
  exact ⟨rfl, HBf.out⟩
set_option maxHeartbeats 1000000 in
set_option maxRecDepth 100000 in
theorem nil_walk (w : World) (k : KeyT) : Calls Try.prog 7 #[keyV k] w (RetBool w true) := by
  obtain ⟨C, hC, hmk0⟩ := make_any (P := Try.prog) (enc := keyL) (k := 33) keyL_length k0 31 27 36 Try.underlying31 (by kernel_rfl) 16385 (by omega) (by omega)
  have hmk : ∀ w, (Instr.makeSlice 31 (.int .i64 16385) (.int .i64 16385)).run Try.prog w = .ok (.slice (some ⟨w.heap.size, 0, none⟩) 16385 16385) (w.alloc (.cells C 27)) := fun w => hmk0 w
  clear hmk0
  obtain ⟨W0, hW0⟩ : ∃ W0, w.alloc (.cells (keyC k) 27) = W0 := ⟨_, rfl⟩
  have HK0 : Hid (At W0 w.heap.size 0 (keyC k)) := by unfold Hid; rw [← hW0]; exact At.new _ _ _
  have HB0 : Hid (Below w.heap.size w W0) := by unfold Hid; rw [← hW0]; exact (Below.refl _ _).alloc (Nat.le_refl _) _
  have hbl := build_any (W0.alloc (.cells C 27)) (some ⟨W0.heap.size, 0, none⟩) 16385 (List.replicate 16385 k0) (by rw [← hC]; exact (Blk.new _ _ _).row) (by rw [List.length_replicate]; decide)
  rw [List.length_replicate] at hbl
  have Hbl := Lib.hid hbl
  clear hbl hC
  go_enter Try.func7, Try.ntmps7
  go_wp2_with fail
  refine Hbl.out.mono ?_
  intro e w1 h1
  obtain ⟨hb1, rfl⟩ := h1.longE (by rw [List.length_replicate]; omega)
  have Hb1 := Lib.hid (((Below.refl W0.heap.size W0).alloc (Nat.le_refl _) _).trans (hb1.mono (by simp)))
  clear h1 hb1
  go_wp2_with fail
  refine (shown_any _).mono ?_
  rintro e w2 ⟨rfl, hb2⟩
  have Hb2 := Lib.hid (Hb1.out.trans (hb2.mono Hb1.out.size))
  clear hb2
  have HK2 : Hid (At w2 w.heap.size 0 (keyC k)) := At.below HK0.out (by rw [keyC_size]; omega) Hb2.out
  go_wp2_with (refine wpList_load_on rfl 27 _ rfl w.heap.size 0 rfl (keyC k) HK2.out _ Try.underlying27 rfl (keySize k) ?_)
  refine (place_nil _ k).mono ?_
  rintro e w3 ⟨rfl, hb3⟩
  have Hb3 := Lib.hid (Hb2.out.trans (hb3.mono Hb2.out.size))
  clear hb3
  go_wp2_with fail
  refine (len_nil _).mono ?_
  rintro e w4 ⟨rfl, hb4⟩
  have Hb4 := Lib.hid (Hb3.out.trans (hb4.mono Hb3.out.size))
  clear hb4
  go_wp2_with fail
  refine (spilled_nil _).mono ?_
  rintro e w5 ⟨rfl, hb5⟩
  have Hb5 := Lib.hid (Hb4.out.trans (hb5.mono Hb4.out.size))
  clear hb5
  go_wp2
  go_ret
  exact ⟨rfl, HB0.out.trans (Hb5.out.mono HB0.out.size)⟩
end Go.Proofs.Ytekmiegonnhidaa
