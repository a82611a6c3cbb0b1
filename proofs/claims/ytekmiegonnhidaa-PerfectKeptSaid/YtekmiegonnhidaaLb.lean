/- The walk over the statement PerfectBuilds. -/
import Derived.Test.YtekmiegonnhidaaSw
import Derived.Test.YtekmiegonnhidaaRp
namespace Go.Proofs.Ytekmiegonnhidaa
open Go.RowKit Go.XR Go.PerfPure
theorem row_takeN {w : World} {a : Option Addr} {xs : List Value} (h : Row w a xs) (n : Nat) : Row w a (xs.take n) := by
  rcases h with h | ⟨g, o, ha, h⟩
  · left; rw [h, List.take_nil]
  · right
    refine ⟨g, o, ha, fun j u hj => h j u ?_⟩
    rw [List.getElem?_take] at hj
    split at hj
    · exact hj
    · cases hj
theorem row_few {w : World} {a : Option Addr} {l : List KeyT} (h : Row w a (l.flatMap keyL)) : Row w a ((l.take 400).flatMap keyL) := by
  by_cases hl : 400 ≤ l.length
  · rw [← flat_take keyL_length l hl]
    exact row_takeN h _
  · rw [List.take_of_length_le (by omega)]; exact h
theorem few_len (l : List KeyT) : (l.take 400).length ≤ 400 := by rw [List.length_take]; omega
theorem RetRBuild.okE {w w' : World} {l : List KeyT} {e : Ending} (h : RetRBuild w l e w') (h1 : l.length ≤ 16384) (h2 : l.Nodup) : Below w.heap.size w w' ∧ ∃ v, e = .returned (.tuple #[v, .int .i64 0]) ∧ RefRep w' v (buildP l) := by
  obtain ⟨hb, h⟩ := h
  rw [if_neg (by omega), if_pos h2] at h
  exact ⟨hb, h⟩
theorem RetRBuild.twiceE {w w' : World} {l : List KeyT} {e : Ending} (h : RetRBuild w l e w') (h1 : l.length ≤ 16384) (h2 : ¬ l.Nodup) : Below w.heap.size w w' ∧ e = .returned (.tuple #[rnil, .int .i64 3]) := by
  obtain ⟨hb, h⟩ := h
  rw [if_neg (by omega), if_neg h2] at h
  exact ⟨hb, h⟩
theorem map_size {cs : Array Value} (h : cs.size = 4) : (Try.prog.info? 45).map (·.size) = some cs.size := by rw [h]; kernel_rfl
set_option maxHeartbeats 4000000 in
set_option maxRecDepth 100000 in
theorem builds_walk (w : World) (la : Option Addr) (lc : Nat) (l : List KeyT) (hL : Row w la (l.flatMap keyL)) (hl : l.length ≤ maxLen) (hc : l.length ≤ lc) (k : KeyT) :
    Calls Try.prog 6 #[.slice la l.length lc, keyV k] w (RetBool w true) := by
  obtain ⟨zs, hzs, hz⟩ := zero_key
  have Hz := Lib.hid hz
  clear hz
  obtain ⟨W0, hW0⟩ : ∃ W0, w.alloc (.cells (keyC k) 27) = W0 := ⟨_, rfl⟩
  have HK0 : Hid (At W0 w.heap.size 0 (keyC k)) := by unfold Hid; rw [← hW0]; exact At.new _ _ _
  have HB0 : Hid (Below w.heap.size w W0) := by unfold Hid; rw [← hW0]; exact (Below.refl _ _).alloc (Nat.le_refl _) _
  have HL0 := Lib.hid (row_few (hL.below HB0.out))
  have Hfew := Lib.hid (fun W => few_any W la lc l hl hc)
  have hl4 := few_len l
  clear hL hl hc
  go_enter Try.func6, Try.ntmps6
  go_wp2_with fail
  refine (shown_any _).mono ?_
  rintro e w1 ⟨rfl, hb1⟩
  have Hb1 := Lib.hid hb1
  clear hb1
  go_wp2_with fail
  refine (Hfew.out _).mono ?_
  rintro e _ ⟨rfl, rfl⟩
  obtain ⟨n0, hn0⟩ : ∃ n0, l.length = n0 := ⟨_, rfl⟩
  rw [hn0] at Hfew ⊢
  generalize l.take 400 = L at *
  clear hn0
  go_wp2_with fail
  refine (build_any _ la lc L (HL0.out.below Hb1.out) (by omega)).mono ?_
  intro e w2 h2
  have hl5 : L.length ≤ 16384 := by omega
  by_cases hnd : L.Nodup
  · obtain ⟨hb2, p, rfl, hp⟩ := h2.okE hl5 hnd
    have Hb2 := Lib.hid (Hb1.out.trans (hb2.mono Hb1.out.size))
    have Hp2 := Lib.hid hp
    clear h2 hb2 hp Hb1
    go_wp2_with fail
    refine (Hfew.out _).mono ?_
    rintro e _ ⟨rfl, rfl⟩
    go_wp2_with fail
    refine (rbuild_any _ la lc L (HL0.out.below Hb2.out) (by omega)).mono ?_
    intro e w3 h3
    obtain ⟨hb3, v, rfl, hv⟩ := h3.okE hl5 hnd
    have Hb3 := Lib.hid (Hb2.out.trans (hb3.mono Hb2.out.size))
    have Hp3 := Lib.hid (Hp2.out.below hb3)
    have Hv3 := Lib.hid hv
    obtain ⟨db, sa, ta, sc, tc, rfl, _, _, _⟩ := hv
    have hsp := build_spill_len L
    have Hok := Lib.hid (okB hl5)
    have hbn : (buildP L).n = L.length := rfl
    obtain ⟨B, hB⟩ : ∃ B, buildP L = B := ⟨_, rfl⟩
    rw [hB] at Hp3 Hv3 hsp Hok hbn ⊢
    clear h3 hb3 Hb2 Hp2 hnd hB
    obtain ⟨bn, bt, bs⟩ := B
    dsimp only at hsp hbn
    subst hbn
    dsimp only
    go_wp2_with fail
    refine (Hfew.out _).mono ?_
    rintro e _ ⟨rfl, rfl⟩
    go_wp2
    obtain ⟨W4, hW4⟩ : ∃ W4, w3.alloc (.cells #[.int .i64 L.length, .slice (some ⟨db, 0, none⟩) bt.length bt.length, .slice sa bs.length sc, .slice ta bs.length tc] 45) = W4 := ⟨_, rfl⟩
    obtain ⟨mb, hmb⟩ : ∃ mb, w3.heap.size = mb := ⟨_, rfl⟩
    have HM4 : Hid (At W4 mb 0 #[.int .i64 L.length, .slice (some ⟨db, 0, none⟩) bt.length bt.length, .slice sa bs.length sc, .slice ta bs.length tc]) := by unfold Hid; rw [← hW4, ← hmb]; exact At.new _ _ _
    have hb34 : Below w3.heap.size w3 W4 := by rw [← hW4]; exact (Below.refl _ _).alloc (Nat.le_refl _) _
    have HB4 := Lib.hid (Hb3.out.trans (hb34.mono Hb3.out.size))
    have Hp4 := Lib.hid (Hp3.out.below hb34)
    have Hv4 := Lib.hid (Hv3.out.below hb34)
    rw [hW4, hmb]
    clear hW4 hmb hb34 Hp3 Hv3 Hb3
    go_loopg [41] L.length (fun n i w5 => Below W4.heap.size W4 w5 ∧ ∃ j : Nat, j ≤ L.length ∧ i = .int .i64 j ∧ Hid (n = L.length - j))
    case atStart => exact ⟨Below.refl _ _, 0, by omega, rfl, rfl⟩
    case round =>
      obtain ⟨hb, j, hj, rfl, hr⟩ := hrel
      have Hb5 := Lib.hid hb
      have Hp5 := Lib.hid (Hp4.out.below hb)
      have Hv5 := Lib.hid (Hv4.out.below hb)
      have HM5 : Hid (At wr mb 0 #[.int .i64 L.length, .slice (some ⟨db, 0, none⟩) bt.length bt.length, .slice sa bs.length sc, .slice ta bs.length tc]) := At.below HM4.out (by show 0 < 4; omega) hb
      have HB5 := Lib.hid (HB4.out.trans (hb.mono HB4.out.size))
      clear hb
      by_cases hlt : j < L.length
      · have hlt2 : (j : Int) < (L.length : Int) := by omega
        obtain ⟨g, o, rfl⟩ := row_some HL0.out (by omega)
        have HA := Lib.hid (At.below (row_key HL0.out hlt) (by rw [keyC_size]; omega) HB5.out)
        generalize L[j] = kj at *
        go_wp2_with (first | (refine wpList_alloc_new rfl 27 rfl zs (Hz.out _) ?_) | (refine wpList_store_new rfl 27 _ _ rfl zs (keyC kj) 27 rfl rfl (by rw [hzs, keyC_size]) (one_keyC kj) (keySize kj) ?_) | (refine wpList_load_at rfl 27 _ rfl g (o + j * 33) rfl (keyC kj) HA.out _ Try.underlying27 rfl (keySize kj) ?_))
        obtain ⟨W6, hW6⟩ : ∃ W6, wr.alloc (.cells (keyC kj) 27) = W6 := ⟨_, rfl⟩
        obtain ⟨kb, hkb⟩ : ∃ kb, wr.heap.size = kb := ⟨_, rfl⟩
        have hb6 : Below wr.heap.size wr W6 := by rw [← hW6]; exact (Below.refl _ _).alloc (Nat.le_refl _) _
        have HK6 : Hid (At W6 kb 0 (keyC kj)) := by unfold Hid; rw [← hW6, ← hkb]; exact At.new _ _ _
        have Hp6 := Lib.hid (Hp5.out.below hb6)
        have Hv6 := Lib.hid (Hv5.out.below hb6)
        have HM6 : Hid (At W6 mb 0 #[.int .i64 L.length, .slice (some ⟨db, 0, none⟩) bt.length bt.length, .slice sa bs.length sc, .slice ta bs.length tc]) := At.below HM5.out (by show 0 < 4; omega) hb6
        have HB46 := Lib.hid (Hb5.out.trans (hb6.mono Hb5.out.size))
        rw [hW6, hkb]
        clear hW6 hkb hb6 Hp5 Hv5 HM5 HB5 HA Hb5
        go_frame
        have hS0 : Below W6.heap.size W6 W6.drew := (Below.refl _ _).drew
        refine Go.XR.region_sched ((Below W6.heap.size W6)) [(0, true), (1, true), (3, true), (4, true), (2, false), (5, false), (6, false)] [5, 6] Try.mixed (by kernel_rfl) (by kernel_rfl) (by kernel_rfl) ?_
        simp only [List.map_cons, List.map_nil, List.getElem?_cons_succ, List.getElem?_cons_zero]
        repeat (first | (refine Go.XR.S_light rfl rfl (by assumption) ?_ (fun w' hS K hK => ?_) (fun K hK => ?_); rotate_left 1; (have hS1 := bcell hS; (first | (first | (refine Go.XR.wp_load_at 27 _ rfl kb 0 rfl (keyC kj) (At.below HK6.out (by rw [keyC_size]; omega) hS) _ Try.underlying27 rfl (keySize kj) ?_) | (refine Go.XR.wp_load_at 45 _ rfl mb 0 rfl _ (At.below HM6.out (by show 0 < 4; omega) hS) _ Try.underlying45 rfl (map_size rfl) ?_)) | go_step); exact hK); go_step; refine hK _ ?_; clear hK K))
        refine Go.XR.S_heavy (fun K hK => ?_)
        go_step
        ((with_reducible refine (place_any W6.drew p _ (Hp6.out.below hS0) Hok.out kj).mono ?_); rintro e w' ⟨rfl, hb7⟩)
        have hS1 : Below W6.heap.size W6 w' := hS0.trans hb7
        refine hK _ _ ⟨fun _ => hS1, ?_⟩
        clear hK K
        repeat (first | (refine Go.XR.S_light rfl rfl (by assumption) ?_ (fun w' hS K hK => ?_) (fun K hK => ?_); rotate_left 1; (have hS1 := bcell hS; (first | (first | (refine Go.XR.wp_load_at 27 _ rfl kb 0 rfl (keyC kj) (At.below HK6.out (by rw [keyC_size]; omega) hS) _ Try.underlying27 rfl (keySize kj) ?_) | (refine Go.XR.wp_load_at 45 _ rfl mb 0 rfl _ (At.below HM6.out (by show 0 < 4; omega) hS) _ Try.underlying45 rfl (map_size rfl) ?_)) | go_step); exact hK); go_step; refine hK _ ?_; clear hK K))
        refine Go.XR.S_heavy (fun K hK => ?_)
        go_step
        ((with_reducible refine (refplace_any _ _ _ (Hv6.out.below hS1) Hok.out (by dsimp only; omega) kj).mono ?_); rintro e w' ⟨rfl, hb8⟩)
        have hS2 : Below W6.heap.size W6 w' := hS1.trans (hb8.mono hS1.size)
        have HB47 : Hid (Below W4.heap.size W4 w') := HB46.out.trans (hS2.mono HB46.out.size)
        refine hK _ _ ⟨fun _ => hS2, ?_⟩
        clear hK K
        repeat (first | (refine Go.XR.S_light rfl rfl (by assumption) ?_ (fun w' hS K hK => ?_) (fun K hK => ?_); rotate_left 1; (have hS1 := bcell hS; (first | (first | (refine Go.XR.wp_load_at 27 _ rfl kb 0 rfl (keyC kj) (At.below HK6.out (by rw [keyC_size]; omega) hS) _ Try.underlying27 rfl (keySize kj) ?_) | (refine Go.XR.wp_load_at 45 _ rfl mb 0 rfl _ (At.below HM6.out (by show 0 < 4; omega) hS) _ Try.underlying45 rfl (map_size rfl) ?_)) | go_step); exact hK); go_step; refine hK _ ?_; clear hK K))
        repeat (first | (refine Go.XR.S_heavy (fun K hK => ?_); go_step; refine hK _ _ ⟨fun h => by simp at h, ?_⟩; clear hK K))
        refine Go.XR.S_nil ?_
        go_wp2
        go_roundg (L.length - (j + 1))
        case measure => have := hr.out; omega
        case rel => exact ⟨HB47.out, j + 1, by omega, by go_num, rfl⟩
      · have hge : ¬ (j : Int) < (L.length : Int) := by omega
        have HK5 : Hid (At wr w.heap.size 0 (keyC k)) := At.below HK0.out (by rw [keyC_size]; omega) HB5.out
        have m0 : wr.cell? ⟨mb, 0, none⟩ = some (.int .i64 L.length) := by have h := HM5.out 0 _ rfl; rwa [Nat.add_zero] at h
        have m2 : wr.cell? ⟨mb, 2, none⟩ = some (.slice sa bs.length sc) := by have h := HM5.out 2 _ rfl; rwa [Nat.zero_add] at h
        have hmn : mb < wr.heap.size := HM5.out.lt (by show 0 < 4; omega)
        have hkn : w.heap.size < wr.heap.size := HK5.out.lt (by rw [keyC_size]; omega)
        clear hr hlt hj Hb5
        go_wp2
        have hS0 : Below wr.heap.size wr wr.drew := (Below.refl _ _).drew
        refine Go.XR.region_sched ((Below wr.heap.size wr)) [(0, true), (1, true), (2, true), (3, true), (5, true), (6, true), (4, false), (7, false), (8, true), (9, true), (10, true), (11, true), (13, true), (14, true), (12, false), (15, true), (16, true), (17, true), (18, true), (20, true), (21, true), (22, true), (19, false), (23, false), (24, false), (25, false)] [23, 24, 25] Try.mixed (by kernel_rfl) (by kernel_rfl) (by kernel_rfl) ?_
        simp only [List.map_cons, List.map_nil, List.getElem?_cons_succ, List.getElem?_cons_zero]
        repeat (first | (refine Go.XR.S_light rfl rfl (by assumption) ?_ (fun w' hS K hK => ?_) (fun K hK => ?_); rotate_left 1; (have hS1 := bcell hS; (first | (first | (refine Go.XR.wp_load_at 27 _ rfl w.heap.size 0 rfl (keyC k) (At.below HK5.out (by rw [keyC_size]; omega) hS) _ Try.underlying27 rfl (keySize k) ?_) | (refine Go.XR.wp_load_at 45 _ rfl mb 0 rfl _ (At.below HM5.out (by show 0 < 4; omega) hS) _ Try.underlying45 rfl (map_size rfl) ?_)) | go_step); exact hK); go_step; refine hK _ ?_; clear hK K) | (refine Go.XR.S_light_off rfl (by assumption) (fun K hK => ?_); go_step; refine hK _ ?_; clear hK K) | (refine Go.XR.S_light_on rfl rfl rfl (by assumption) ?_ (fun w' hS K hK => ?_) (fun K hK => ?_); rotate_left 1; (have hS1 := bcell hS; (first | (first | (refine Go.XR.wp_load_at 27 _ rfl w.heap.size 0 rfl (keyC k) (At.below HK5.out (by rw [keyC_size]; omega) hS) _ Try.underlying27 rfl (keySize k) ?_) | (refine Go.XR.wp_load_at 45 _ rfl mb 0 rfl _ (At.below HM5.out (by show 0 < 4; omega) hS) _ Try.underlying45 rfl (map_size rfl) ?_)) | go_step); exact hK); go_step; refine hK _ ?_; clear hK K))
        refine Go.XR.S_heavy_on rfl (fun K hK => ?_)
        go_step
        ((with_reducible refine (place_any wr.drew p _ (Hp5.out.below hS0) Hok.out k).mono ?_); rintro e w' ⟨rfl, hb7⟩)
        have hS1 : Below wr.heap.size wr w' := hS0.trans hb7
        refine hK _ _ ⟨fun _ => hS1, ?_⟩
        clear hK K
        repeat (first | (refine Go.XR.S_light rfl rfl (by assumption) ?_ (fun w' hS K hK => ?_) (fun K hK => ?_); rotate_left 1; (have hS1 := bcell hS; (first | (first | (refine Go.XR.wp_load_at 27 _ rfl w.heap.size 0 rfl (keyC k) (At.below HK5.out (by rw [keyC_size]; omega) hS) _ Try.underlying27 rfl (keySize k) ?_) | (refine Go.XR.wp_load_at 45 _ rfl mb 0 rfl _ (At.below HM5.out (by show 0 < 4; omega) hS) _ Try.underlying45 rfl (map_size rfl) ?_)) | go_step); exact hK); go_step; refine hK _ ?_; clear hK K) | (refine Go.XR.S_light_off rfl (by assumption) (fun K hK => ?_); go_step; refine hK _ ?_; clear hK K) | (refine Go.XR.S_light_on rfl rfl rfl (by assumption) ?_ (fun w' hS K hK => ?_) (fun K hK => ?_); rotate_left 1; (have hS1 := bcell hS; (first | (first | (refine Go.XR.wp_load_at 27 _ rfl w.heap.size 0 rfl (keyC k) (At.below HK5.out (by rw [keyC_size]; omega) hS) _ Try.underlying27 rfl (keySize k) ?_) | (refine Go.XR.wp_load_at 45 _ rfl mb 0 rfl _ (At.below HM5.out (by show 0 < 4; omega) hS) _ Try.underlying45 rfl (map_size rfl) ?_)) | go_step); exact hK); go_step; refine hK _ ?_; clear hK K))
        refine Go.XR.S_heavy_on rfl (fun K hK => ?_)
        go_step
        ((with_reducible refine (refplace_any _ _ _ (Hv5.out.below hS1) Hok.out (by dsimp only; omega) k).mono ?_); rintro e w' ⟨rfl, hb8⟩)
        have hS2 : Below wr.heap.size wr w' := hS1.trans (hb8.mono hS1.size)
        refine hK _ _ ⟨fun _ => hS2, ?_⟩
        clear hK K
        repeat (first | (refine Go.XR.S_light rfl rfl (by assumption) ?_ (fun w' hS K hK => ?_) (fun K hK => ?_); rotate_left 1; (have hS1 := bcell hS; (first | (first | (refine Go.XR.wp_load_at 27 _ rfl w.heap.size 0 rfl (keyC k) (At.below HK5.out (by rw [keyC_size]; omega) hS) _ Try.underlying27 rfl (keySize k) ?_) | (refine Go.XR.wp_load_at 45 _ rfl mb 0 rfl _ (At.below HM5.out (by show 0 < 4; omega) hS) _ Try.underlying45 rfl (map_size rfl) ?_)) | go_step); exact hK); go_step; refine hK _ ?_; clear hK K) | (refine Go.XR.S_light_off rfl (by assumption) (fun K hK => ?_); go_step; refine hK _ ?_; clear hK K) | (refine Go.XR.S_light_on rfl rfl rfl (by assumption) ?_ (fun w' hS K hK => ?_) (fun K hK => ?_); rotate_left 1; (have hS1 := bcell hS; (first | (first | (refine Go.XR.wp_load_at 27 _ rfl w.heap.size 0 rfl (keyC k) (At.below HK5.out (by rw [keyC_size]; omega) hS) _ Try.underlying27 rfl (keySize k) ?_) | (refine Go.XR.wp_load_at 45 _ rfl mb 0 rfl _ (At.below HM5.out (by show 0 < 4; omega) hS) _ Try.underlying45 rfl (map_size rfl) ?_)) | go_step); exact hK); go_step; refine hK _ ?_; clear hK K))
        refine Go.XR.S_heavy_on rfl (fun K hK => ?_)
        go_step
        ((with_reducible refine (len_any _ p _ (Hp5.out.below hS2)).mono ?_); rintro e w' ⟨rfl, hb9⟩)
        have hS3 : Below wr.heap.size wr w' := hS2.trans (hb9.mono hS2.size)
        refine hK _ _ ⟨fun _ => hS3, ?_⟩
        clear hK K
        repeat (first | (refine Go.XR.S_light rfl rfl (by assumption) ?_ (fun w' hS K hK => ?_) (fun K hK => ?_); rotate_left 1; (have hS1 := bcell hS; (first | (first | (refine Go.XR.wp_load_at 27 _ rfl w.heap.size 0 rfl (keyC k) (At.below HK5.out (by rw [keyC_size]; omega) hS) _ Try.underlying27 rfl (keySize k) ?_) | (refine Go.XR.wp_load_at 45 _ rfl mb 0 rfl _ (At.below HM5.out (by show 0 < 4; omega) hS) _ Try.underlying45 rfl (map_size rfl) ?_)) | go_step); exact hK); go_step; refine hK _ ?_; clear hK K) | (refine Go.XR.S_light_off rfl (by assumption) (fun K hK => ?_); go_step; refine hK _ ?_; clear hK K) | (refine Go.XR.S_light_on rfl rfl rfl (by assumption) ?_ (fun w' hS K hK => ?_) (fun K hK => ?_); rotate_left 1; (have hS1 := bcell hS; (first | (first | (refine Go.XR.wp_load_at 27 _ rfl w.heap.size 0 rfl (keyC k) (At.below HK5.out (by rw [keyC_size]; omega) hS) _ Try.underlying27 rfl (keySize k) ?_) | (refine Go.XR.wp_load_at 45 _ rfl mb 0 rfl _ (At.below HM5.out (by show 0 < 4; omega) hS) _ Try.underlying45 rfl (map_size rfl) ?_)) | go_step); exact hK); go_step; refine hK _ ?_; clear hK K))
        refine Go.XR.S_heavy_on rfl (fun K hK => ?_)
        go_step
        ((with_reducible refine (spilled_any _ p _ (Hp5.out.below hS3)).mono ?_); rintro e w' ⟨rfl, hb10⟩)
        have hS4 : Below wr.heap.size wr w' := hS3.trans (hb10.mono hS3.size)
        have HBf : Hid (Below w.heap.size w w') := HB0.out.trans ((HB5.out.trans (hS4.mono HB5.out.size)).mono HB0.out.size)
        refine hK _ _ ⟨fun _ => hS4, ?_⟩
        clear hK K
        repeat (first | (refine Go.XR.S_light rfl rfl (by assumption) ?_ (fun w' hS K hK => ?_) (fun K hK => ?_); rotate_left 1; (have hS1 := bcell hS; (first | (first | (refine Go.XR.wp_load_at 27 _ rfl w.heap.size 0 rfl (keyC k) (At.below HK5.out (by rw [keyC_size]; omega) hS) _ Try.underlying27 rfl (keySize k) ?_) | (refine Go.XR.wp_load_at 45 _ rfl mb 0 rfl _ (At.below HM5.out (by show 0 < 4; omega) hS) _ Try.underlying45 rfl (map_size rfl) ?_)) | go_step); exact hK); go_step; refine hK _ ?_; clear hK K) | (refine Go.XR.S_light_off rfl (by assumption) (fun K hK => ?_); go_step; refine hK _ ?_; clear hK K) | (refine Go.XR.S_light_on rfl rfl rfl (by assumption) ?_ (fun w' hS K hK => ?_) (fun K hK => ?_); rotate_left 1; (have hS1 := bcell hS; (first | (first | (refine Go.XR.wp_load_at 27 _ rfl w.heap.size 0 rfl (keyC k) (At.below HK5.out (by rw [keyC_size]; omega) hS) _ Try.underlying27 rfl (keySize k) ?_) | (refine Go.XR.wp_load_at 45 _ rfl mb 0 rfl _ (At.below HM5.out (by show 0 < 4; omega) hS) _ Try.underlying45 rfl (map_size rfl) ?_)) | go_step); exact hK); go_step; refine hK _ ?_; clear hK K))
        repeat (first | (refine Go.XR.S_heavy (fun K hK => ?_); go_step; refine hK _ _ ⟨fun h => by simp at h, ?_⟩; clear hK K) | (refine Go.XR.S_heavy_off rfl (fun h => by simp at h) (fun K hK => ?_); go_step; refine hK _ ?_; clear hK K) | (refine Go.XR.S_heavy_on rfl (fun K hK => ?_); go_step; refine hK _ _ ⟨fun h => by simp at h, ?_⟩; clear hK K))
        refine Go.XR.S_nil ?_
        go_wp2
        go_ret
        exact ⟨rfl, HBf.out⟩
  · obtain ⟨hb2, rfl⟩ := h2.twiceE hl5 hnd
    have Hb2 := Lib.hid (Hb1.out.trans (hb2.mono Hb1.out.size))
    clear h2 hb2 Hb1
    go_wp2_with fail
    refine (Hfew.out _).mono ?_
    rintro e _ ⟨rfl, rfl⟩
    go_wp2_with fail
    refine (rbuild_any _ la lc L (HL0.out.below Hb2.out) (by omega)).mono ?_
    intro e w3 h3
    obtain ⟨hb3, rfl⟩ := h3.twiceE hl5 hnd
    have Hb3 := Lib.hid (Hb2.out.trans (hb3.mono Hb2.out.size))
    clear h3 hb3 Hb2
    unfold rnil
    go_wp2
    go_ret
    exact ⟨rfl, HB0.out.trans ((Hb3.out.alloc Hb3.out.size _).mono HB0.out.size)⟩
end Go.Proofs.Ytekmiegonnhidaa
