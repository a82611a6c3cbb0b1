/- Walks and laws that the statements of this seat share, part 4. -/
import Derived.Test.YtnfbchhbcinloaaQc
/- The walk over Find. -/
namespace Go.Proofs.Ytnfbchhbcinloaa
open Go.RowKit Go.XR Go.IndexPure Go.CachePure Go.FindPure
section
variable {w0 W W' : World} {F0 Fi Fc S : List Nat} {p ip vp vq cp : Nat} {M : FinT}
theorem FSt.side (h : FSt w0 F0 W Fi Fc p ip vp vq cp M) (hb : But S W W') (hS : ∀ b ∈ S, w0.heap.size ≤ b ∧ b ∉ foot p vp vq Fi Fc) : FSt w0 F0 W' Fi Fc p ip vp vq cp M :=
  ⟨h.fin.but hb fun b h1 h2 => (hS b h2).2 h1, ⟨hb.os.trans h.but.os, hb.tape.trans h.but.tape, hb.output.trans h.but.output, Nat.le_trans h.but.size hb.size, fun i hi hn => (hb.block i (Nat.lt_of_lt_of_le hi h.but.size) fun hm => by have := (hS i hm).1; omega).trans (h.but.block i hi hn)⟩, h.grew⟩
theorem FSt.asked (h : FSt w0 F0 W Fi Fc p ip vp vq cp M) : FSt w0 F0 (W.setCell ⟨p, 3, none⟩ (.int .i64 ((M.asked : Int) + 1))) Fi Fc p ip vp vq cp { M with asked := M.asked + 1 } := by
  have hb : But [p] W (W.setCell ⟨p, 3, none⟩ (.int .i64 ((M.asked : Int) + 1))) := (But.refl _ _).setCell (.inl (by simp)) _
  refine h.trans ⟨?_, hb.mono fun b h1 _ => mem_foot.2 (by rw [List.mem_singleton] at h1; simp [h1]), Grew.refl _ _⟩
  obtain ⟨cap, hv⟩ := h.fin.vec
  obtain ⟨tb, a, cap', T, hc⟩ := h.fin.ch
  exact { h.fin with
    blk := h.fin.blk.set 3 _
    ix := h.fin.ix.but hb fun b h1 h2 => by rw [List.mem_singleton] at h2; subst h2; exact h.fin.pn.1 h1
    vec := ⟨cap, hv.but hb (by simpa using h.fin.pn.2.2.1.symm) (by simpa using h.fin.pn.2.2.2.symm)⟩
    ch := ⟨tb, a, cap', T, hc.but hb fun b h1 h2 => by rw [List.mem_singleton] at h2; subst h2; exact h.fin.pn.2.1 h1⟩ }
theorem FSt.loaded (h : FSt w0 F0 W Fi Fc p ip vp vq cp M) : FSt w0 F0 (W.setCell ⟨p, 4, none⟩ (.int .i64 ((M.loaded : Int) + 1))) Fi Fc p ip vp vq cp { M with loaded := M.loaded + 1 } := by
  have hb : But [p] W (W.setCell ⟨p, 4, none⟩ (.int .i64 ((M.loaded : Int) + 1))) := (But.refl _ _).setCell (.inl (by simp)) _
  refine h.trans ⟨?_, hb.mono fun b h1 _ => mem_foot.2 (by rw [List.mem_singleton] at h1; simp [h1]), Grew.refl _ _⟩
  obtain ⟨cap, hv⟩ := h.fin.vec
  obtain ⟨tb, a, cap', T, hc⟩ := h.fin.ch
  exact { h.fin with
    blk := h.fin.blk.set 4 _
    ix := h.fin.ix.but hb fun b h1 h2 => by rw [List.mem_singleton] at h2; subst h2; exact h.fin.pn.1 h1
    vec := ⟨cap, hv.but hb (by simpa using h.fin.pn.2.2.1.symm) (by simpa using h.fin.pn.2.2.2.symm)⟩
    ch := ⟨tb, a, cap', T, hc.but hb fun b h1 h2 => by rw [List.mem_singleton] at h2; subst h2; exact h.fin.pn.2.1 h1⟩ }
end
def RetFind (w : World) (Fi Fc : List Nat) (p ip vp vq cp : Nat) (M : FinT) (k : KeyT) (draw : Nat) (e : Ending) (w' : World) : Prop :=
  ∃ L, (mayB M.bits M.probes M.Y k = true → cGet M.C k = none → ∀ v, aget M.D k = some v → ShelfOf M.D v.shelf L) ∧ e = .returned (.tuple #[placeV ((fFind M k draw L).1.getD place0), .bool (fFind M k draw L).1.isSome]) ∧ ∃ Fi' Fc', FSt w (foot p vp vq Fi Fc) w' Fi' Fc' p ip vp vq cp (fFind M k draw L).2
set_option maxHeartbeats 4000000 in
set_option maxRecDepth 100000 in
theorem ffind_any (w : World) (Fi Fc : List Nat) (p ip vp vq cp : Nat) (M : FinT) (h : FinC w Fi Fc p ip vp vq cp M) (hlen : M.D.length ≤ 2^20) (hask : M.asked < 2^40) (hload : M.loaded < 2^40) (k : KeyT) (draw : Nat) (hd : draw < 18446744073709551616) :
    Calls Try.prog 34 #[.pointer (some ⟨p, 0, none⟩), keyV k, .int .u64 draw] w (RetFind w Fi Fc p ip vp vq cp M k draw) := by
  obtain ⟨W0, hW0⟩ : ∃ W0, (w.alloc (.cells (keyC k) 27)).alloc (.cells #[.int .i64 0, .int .i64 0] 33) = W0 := ⟨_, rfl⟩
  have hb0 : Below w.heap.size w W0 := by rw [← hW0]; exact ((Below.refl _ _).alloc (Nat.le_refl _) _).alloc (by simp) _
  have HK : Hid (At W0 w.heap.size 0 (keyC k)) := by unfold Hid; rw [← hW0]; exact (At.new _ _ _).alloc _
  have HR : Hid (Blk W0 (w.heap.size + 1) [.int .i64 0, .int .i64 0]) := by
    unfold Hid; rw [← hW0]
    have h := Blk.new (w.alloc (.cells (keyC k) 27)) #[.int .i64 0, .int .i64 0] 33
    rwa [show (w.alloc (.cells (keyC k) 27)).heap.size = w.heap.size + 1 by simp] at h
  have HF := Lib.hid (h.below hb0)
  have HW := Lib.hid ((FSt.refl h).below hb0)
  have H0 := Lib.hid (FSt.refl (h.below hb0))
  have hko : w.heap.size ∉ foot p vp vq Fi Fc := fun hm => by have := h.lt _ hm; omega
  have hro : w.heap.size ≤ w.heap.size + 1 ∧ w.heap.size + 1 ∉ foot p vp vq Fi Fc := ⟨by omega, fun hm => by have := h.lt _ hm; omega⟩
  clear h hb0
  obtain ⟨kb, hkb⟩ : ∃ kb, w.heap.size = kb := ⟨_, rfl⟩
  have Hkb := Lib.hid hkb
  obtain ⟨rb, hrb⟩ : ∃ rb, kb + 1 = rb := ⟨_, rfl⟩
  rw [hkb] at HK HR hko
  rw [hkb, hrb] at hro
  rw [hrb] at HR
  have hkn : kb < W0.heap.size := HK.out.lt (by rw [keyC_size]; omega)
  have Hro : Hid (w.heap.size ≤ rb ∧ rb ∉ foot p vp vq Fi Fc) := by unfold Hid; rw [hkb]; exact hro
  have Hko : Hid (kb ∉ foot p vp vq Fi Fc ∧ kb < W0.heap.size) := ⟨hko, hkn⟩
  have Hrl : Hid (rb ∉ foot p vp vq Fi Fc ∧ rb < W0.heap.size) := ⟨hro.2, HR.out.lt⟩
  have c1 := HF.out.blk.cell (i := 1) rfl
  have hpn := HF.out.blk.lt
  obtain ⟨vcap, hvec⟩ := HF.out.vec
  have Hmy := Lib.hid (may_any W0.drew vp vq vcap M.bits M.probes M.Y (hvec.but (But.refl [] W0).drew (by simp) (by simp)) k)
  clear hvec hko hro
  go_enter Try.func34, Try.ntmps34
  go_wp2
  clear hW0 hkb hrb
  refine Go.XR.region_sched ((· = W0.drew)) [(0, true), (1, true), (2, true), (3, true), (4, true), (5, true), (6, true), (7, true), (8, false), (9, false), (10, false)] [8, 9, 10] Try.mixed (by kernel_rfl) (by kernel_rfl) (by kernel_rfl) ?_
  simp only [List.map_cons, List.map_nil, List.getElem?_cons_succ, List.getElem?_cons_zero]
  repeat (first | (refine Go.XR.S_light rfl rfl rfl ?_ (fun w' hS K hK => ?_) (fun K hK => ?_); rotate_left 1; (cases hS; (first | (refine Go.XR.wp_load_at 27 (.tmp 4) rfl kb 0 rfl (keyC k) (At.drew HK.out) _ Try.underlying27 rfl (keySize k) ?_) | go_step); exact hK); go_step; refine hK _ ?_; clear hK K) | (refine Go.XR.S_light_off rfl rfl (fun K hK => ?_); go_step; refine hK _ ?_; clear hK K) | (refine Go.XR.S_light_on rfl rfl rfl rfl ?_ (fun w' hS K hK => ?_) (fun K hK => ?_); rotate_left 1; (cases hS; (first | (refine Go.XR.wp_load_at 27 (.tmp 4) rfl kb 0 rfl (keyC k) (At.drew HK.out) _ Try.underlying27 rfl (keySize k) ?_) | go_step); exact hK); go_step; refine hK _ ?_; clear hK K))
  refine Go.XR.S_heavy_on rfl (fun K hK => ?_)
  go_step
  ((with_reducible refine (Hmy.out).mono ?_); rintro e w' ⟨rfl, hb1⟩)
  have H1 : Hid (FSt W0 (foot p vp vq Fi Fc) w' Fi Fc p ip vp vq cp M) := (H0.out.below (Below.refl _ _).drew).below hb1
  have HR1 : Hid (Blk w' rb [.int .i64 0, .int .i64 0]) := HR.out.heap (H1.out.own Hrl.out.1 Hrl.out.2).1
  have HK1 : Hid (At w' kb 0 (keyC k)) := HK.out.heap (H1.out.own Hko.out.1 Hko.out.2).1
  have hsz : W0.heap.size ≤ w'.heap.size := hb1.size
  clear hb1
  refine hK _ _ ⟨fun h => by simp at h, ?_⟩
  clear hK K
  repeat (first | (refine Go.XR.S_light rfl rfl rfl ?_ (fun w' hS K hK => ?_) (fun K hK => ?_); rotate_left 1; (cases hS; (first | (refine Go.XR.wp_load_at 27 (.tmp 4) rfl kb 0 rfl (keyC k) (At.drew HK.out) _ Try.underlying27 rfl (keySize k) ?_) | go_step); exact hK); go_step; refine hK _ ?_; clear hK K) | (refine Go.XR.S_light_off rfl rfl (fun K hK => ?_); go_step; refine hK _ ?_; clear hK K) | (refine Go.XR.S_light_on rfl rfl rfl rfl ?_ (fun w' hS K hK => ?_) (fun K hK => ?_); rotate_left 1; (cases hS; (first | (refine Go.XR.wp_load_at 27 (.tmp 4) rfl kb 0 rfl (keyC k) (At.drew HK.out) _ Try.underlying27 rfl (keySize k) ?_) | go_step); exact hK); go_step; refine hK _ ?_; clear hK K))
  repeat (first | (refine Go.XR.S_heavy (fun K hK => ?_); go_step; refine hK _ _ ⟨fun h => by simp at h, ?_⟩; clear hK K) | (refine Go.XR.S_heavy_off rfl (fun h => by simp at h) (fun K hK => ?_); go_step; refine hK _ ?_; clear hK K) | (refine Go.XR.S_heavy_on rfl (fun K hK => ?_); go_step; refine hK _ _ ⟨fun h => by simp at h, ?_⟩; clear hK K))
  refine Go.XR.S_nil ?_
  obtain ⟨W1, hW1⟩ : ∃ W1, w' = W1 := ⟨_, rfl⟩
  rw [hW1] at H1 HR1 HK1 hsz ⊢
  clear hW1 w' c1 HF H0 Hmy
  cases hm : mayB M.bits M.probes M.Y k with
  | false =>
    have Hm := Lib.hid hm
    clear hm
    have r0 := HR1.out.cell (i := 0) rfl
    have r1 := HR1.out.cell (i := 1) rfl
    have f0 := HR1.out.free 0
    have f1 := HR1.out.free 1
    go_wp2
    (try simp only [Exit.inBlock, Exit.then])
    refine bodyPost_ret (results_at rfl (g := rb) rfl rfl (((HR1.out.set 0 (.int .i64 0)).set 1 (.int .i64 0)).toAt) Try.underlying33 rfl (placeSize place0)) rfl ?_
    have hff : fFind M k draw [] = (none, M) := by unfold fFind; rw [if_neg (by rw [Hm.out]; decide)]
    refine ⟨[], fun h => (by rw [Hm.out] at h; cases h), by rw [hff]; rfl, Fi, Fc, ?_⟩
    rw [hff]
    exact (HW.out.trans H1.out).side (((But.refl [rb] W1).setCell (.inl (by simp)) (i := 0) (.int .i64 0)).setCell (.inl (by simp)) (i := 1) (.int .i64 0)) (by intro b hb; rw [List.mem_singleton] at hb; subst hb; exact Hro.out)
  | true =>
    have Hmay := Lib.hid hm
    clear hm
    have hpn1 : p < W1.heap.size := Nat.lt_of_lt_of_le hpn hsz
    have hkn1 : kb < W1.heap.size := Nat.lt_of_lt_of_le hkn hsz
    have c2 := H1.out.fin.blk.cell (i := 2) rfl
    obtain ⟨tb, a, cap, T, hch⟩ := H1.out.fin.ch
    obtain ⟨v, hv⟩ : ∃ v, (cGet M.C k).getD place0 = v := ⟨_, rfl⟩
    obtain ⟨is, his⟩ : ∃ b, (cGet M.C k).isSome = b := ⟨_, rfl⟩
    have Hg : Hid (∀ W9, Below W1.heap.size W1 W9 → Calls Try.prog 62 #[.pointer (some ⟨cp, 0, none⟩), keyV k] W9 fun e w' => e = .returned (.tuple #[.agg #[.int .i64 v.shelf, .int .i64 v.slot], .bool is]) ∧ Below W9.heap.size W9 w') := fun W9 hb => by
      refine (cget_any W9 Fc cp tb M.room a cap M.C T (hch.below hb) k).mono ?_
      rintro e w' ⟨rfl, h2⟩
      rw [hv, his]
      exact ⟨rfl, h2⟩
    have Hv2 := Lib.hid hv
    have His := Lib.hid his
    clear hv his hch hkn hpn hsz
    go_wp2
    have hS0 : Below W1.heap.size W1 W1.drew := (Below.refl _ _).drew
    refine Go.XR.region_fork ((Below W1.heap.size W1)) [(0, true), (1, true), (2, true), (3, true), (4, true)] 5 9 [(6, true), (7, true), (8, true), (9, false), (10, false), (11, false)] [(5, false), (6, true), (7, true), (8, true), (10, false), (11, false)] [11] Try.mixed (by kernel_rfl) (by kernel_rfl) (by kernel_rfl) ?_
    simp only [List.map_cons, List.map_nil, List.getElem?_cons_succ, List.getElem?_cons_zero]
    repeat (first | (refine Go.XR.S_light rfl rfl (by assumption) ?_ (fun w' hS K hK => ?_) (fun K hK => ?_); rotate_left 1; (have hS1 := bcell hS; (first | (refine Go.XR.wp_load_at 27 _ rfl kb 0 rfl (keyC k) (At.below HK1.out (by rw [keyC_size]; omega) hS) _ Try.underlying27 rfl (keySize k) ?_) | go_step); exact hK); go_step; refine hK _ ?_; clear hK K))
    refine Go.XR.S_nil ?_
    refine Go.XR.Fork.both ?_ ?_
    · refine Go.XR.S_heavy (fun K hK => ?_)
      go_step
      ((with_reducible refine ((Hg.out W1.drew hS0)).mono ?_); rintro e w' ⟨rfl, hb1⟩)
      have hS1 : Below W1.heap.size W1 w' := hS0.trans (hb1.mono hS0.size)
      clear hb1 hS0
      refine hK _ _ ⟨fun _ => hS1, ?_⟩
      clear hK K
      repeat (first | (refine Go.XR.S_light rfl rfl (by assumption) ?_ (fun w' hS K hK => ?_) (fun K hK => ?_); rotate_left 1; (have hS1 := bcell hS; (first | (refine Go.XR.wp_load_at 27 _ rfl kb 0 rfl (keyC k) (At.below HK1.out (by rw [keyC_size]; omega) hS) _ Try.underlying27 rfl (keySize k) ?_) | go_step); exact hK); go_step; refine hK _ ?_; clear hK K))
      obtain ⟨W7, hW7⟩ : ∃ W7, w' = W7 := ⟨_, rfl⟩
      rw [hW7] at hS1 ⊢
      clear hW7 w'
      refine Go.XR.S_heavy (fun K hK => ?_)
      go_step
      have hS2 := hS1.alloc hS1.size (.cells #[.int .i64 0, .int .i64 0] 33)
      refine hK _ _ ⟨fun _ => hS2, ?_⟩
      clear hK K
      repeat (first | (refine Go.XR.S_light rfl rfl (by assumption) ?_ (fun w' hS K hK => ?_) (fun K hK => ?_); rotate_left 1; (have hS1 := bcell hS; (first | (refine Go.XR.wp_load_at 27 _ rfl kb 0 rfl (keyC k) (At.below HK1.out (by rw [keyC_size]; omega) hS) _ Try.underlying27 rfl (keySize k) ?_) | go_step); exact hK); go_step; refine hK _ ?_; clear hK K))
      refine Go.XR.S_heavy (fun K hK => ?_)
      go_step
      obtain ⟨W3, hW3⟩ : ∃ V, W7.alloc (.cells #[.int .i64 v.shelf, .int .i64 v.slot] 33) = V := ⟨_, rfl⟩
      have hS3 : Below W1.heap.size W1 W3 := by rw [← hW3]; exact hS1.alloc hS1.size _
      obtain ⟨pb, hpb⟩ : ∃ pb, W7.heap.size = pb := ⟨_, rfl⟩
      have Hpb : Hid (W1.heap.size ≤ pb) := by unfold Hid; rw [← hpb]; exact hS1.size
      have HP3 : Hid (Blk W3 pb (placeL v)) := by unfold Hid; rw [← hW3, ← hpb]; exact Blk.new W7 (placeC v) _
      rw [hW3, hpb]
      clear hW3 hpb hS2
      refine hK _ _ ⟨fun _ => hS3, ?_⟩
      clear hK K
      repeat (first | (refine Go.XR.S_light rfl rfl (by assumption) ?_ (fun w' hS K hK => ?_) (fun K hK => ?_); rotate_left 1; (have hS1 := bcell hS; (first | (refine Go.XR.wp_load_at 27 _ rfl kb 0 rfl (keyC k) (At.below HK1.out (by rw [keyC_size]; omega) hS) _ Try.underlying27 rfl (keySize k) ?_) | go_step); exact hK); go_step; refine hK _ ?_; clear hK K))
      repeat (first | (refine Go.XR.S_heavy (fun K hK => ?_); go_step; refine hK _ _ ⟨fun h => by simp at h, ?_⟩; clear hK K))
      refine Go.XR.S_nil ?_
      have Hb3 := Lib.hid hS3
      clear hS1 hS3
      have H3 := Lib.hid (H1.out.below Hb3.out)
      have HR3 : Hid (Blk W3 rb [.int .i64 0, .int .i64 0]) := HR1.out.below Hb3.out
      cases is with
      | true =>
        have d0 : W3.cell? ⟨pb, 0, none⟩ = some (.int .i64 v.shelf) := HP3.out.cell (i := 0) rfl
        have d1 : W3.cell? ⟨pb, 1, none⟩ = some (.int .i64 v.slot) := HP3.out.cell (i := 1) rfl
        have r0 := HR3.out.cell (i := 0) rfl
        have r1 := HR3.out.cell (i := 1) rfl
        have f0 := HR3.out.free 0
        have f1 := HR3.out.free 1
        go_wp2
        (try simp only [Exit.inBlock, Exit.then])
        refine bodyPost_ret (results_at rfl (g := rb) rfl rfl (((HR3.out.set 0 (.int .i64 v.shelf)).set 1 (.int .i64 v.slot)).toAt) Try.underlying33 rfl (placeSize v)) rfl ?_
        have hcg : cGet M.C k = some v := by
          have h1 := Hv2.out
          have h2 := His.out
          cases h : cGet M.C k with
          | none => rw [h] at h2; cases h2
          | some x => rw [h] at h1; exact congrArg some h1
        have hff : fFind M k draw [] = (some v, M) := by unfold fFind; rw [if_pos Hmay.out, hcg]
        refine ⟨[], fun _ h => (by rw [hcg] at h; cases h), by rw [hff]; rfl, Fi, Fc, ?_⟩
        rw [hff]
        exact (HW.out.trans H3.out).side (((But.refl [rb] W3).setCell (.inl (by simp)) (i := 0) (.int .i64 v.shelf)).setCell (.inl (by simp)) (i := 1) (.int .i64 v.slot)) (by intro b hb; rw [List.mem_singleton] at hb; subst hb; exact Hro.out)
      | false =>
        have Hcg : Hid (cGet M.C k = none) := by
          unfold Hid
          have h2 := His.out
          cases h : cGet M.C k with
          | none => rfl
          | some x => rw [h] at h2; cases h2
        clear Hv2 His Hg Hpb HP3
        have c3 := H3.out.fin.blk.cell (i := 3) rfl
        have f3 := H3.out.fin.blk.free 3
        go_wp2_with (refine opIs (X := .store 3 (.tmp 41) (.tmp 39)) rfl ?_; refine Go.XR.stop (fun X hX => ?_))
        refine hX.out ?_
        clear hX X
        obtain ⟨W4, hW4⟩ : ∃ W4, W3.setCell ⟨p, 3, none⟩ (.int .i64 ((M.asked : Int) + 1)) = W4 := ⟨_, rfl⟩
        have H4 := Lib.hid H3.out.asked
        rw [hW4] at H4
        go_wp2
        clear hW4 c3 f3 H3 HR3 c2
        have HK4 : Hid (At W4 kb 0 (keyC k)) := HK.out.heap (H4.out.own Hko.out.1 Hko.out.2).1
        have HR4 : Hid (Blk W4 rb [.int .i64 0, .int .i64 0]) := HR.out.heap (H4.out.own Hrl.out.1 Hrl.out.2).1
        have hkn4 : kb < W4.heap.size := (H4.out.own Hko.out.1 Hko.out.2).2.2
        have hpn4 : p < W4.heap.size := H4.out.fin.blk.lt
        have c0 := H4.out.fin.blk.cell (i := 0) rfl
        obtain ⟨v, hv⟩ : ∃ v, (aget M.D k).getD place0 = v := ⟨_, rfl⟩
        obtain ⟨is, his⟩ : ∃ b, (aget M.D k).isSome = b := ⟨_, rfl⟩
        have Hg : Hid (∀ W9, Below W4.heap.size W4 W9 → Calls Try.prog 17 #[.pointer (some ⟨ip, 0, none⟩), keyV k] W9 fun e w' => e = .returned (.tuple #[.agg #[.int .i64 v.shelf, .int .i64 v.slot], .bool is]) ∧ Below W9.heap.size W9 w') := fun W9 hb => by
          refine (ix_get (H4.out.fin.ix.below hb) k).mono ?_
          rintro e w' ⟨rfl, h2⟩
          rw [hv, his]
          exact ⟨rfl, h2⟩
        have Hv2 := Lib.hid hv
        have His := Lib.hid his
        clear hv his
        clear Hb3 HR1 HK1 H1 hpn1 hkn1
        have hS0 : Below W4.heap.size W4 W4.drew := (Below.refl _ _).drew
        refine Go.XR.region_fork ((Below W4.heap.size W4)) [(0, true), (1, true), (2, true), (3, true), (4, true)] 5 9 [(6, true), (7, true), (8, true), (9, false), (10, false), (11, false)] [(5, false), (6, true), (7, true), (8, true), (10, false), (11, false)] [11] Try.mixed (by kernel_rfl) (by kernel_rfl) (by kernel_rfl) ?_
        simp only [List.map_cons, List.map_nil, List.getElem?_cons_succ, List.getElem?_cons_zero]
        repeat (first | (refine Go.XR.S_light rfl rfl (by assumption) ?_ (fun w' hS K hK => ?_) (fun K hK => ?_); rotate_left 1; (have hS1 := bcell hS; (first | (refine Go.XR.wp_load_at 27 _ rfl kb 0 rfl (keyC k) (At.below HK4.out (by rw [keyC_size]; omega) hS) _ Try.underlying27 rfl (keySize k) ?_) | go_step); exact hK); go_step; refine hK _ ?_; clear hK K))
        refine Go.XR.S_nil ?_
        refine Go.XR.Fork.both ?_ ?_
        · refine Go.XR.S_heavy (fun K hK => ?_)
          go_step
          ((with_reducible refine ((Hg.out W4.drew hS0)).mono ?_); rintro e w' ⟨rfl, hb1⟩)
          have hS1 : Below W4.heap.size W4 w' := hS0.trans (hb1.mono hS0.size)
          clear hb1 hS0
          refine hK _ _ ⟨fun _ => hS1, ?_⟩
          clear hK K
          repeat (first | (refine Go.XR.S_light rfl rfl (by assumption) ?_ (fun w' hS K hK => ?_) (fun K hK => ?_); rotate_left 1; (have hS1 := bcell hS; (first | (refine Go.XR.wp_load_at 27 _ rfl kb 0 rfl (keyC k) (At.below HK4.out (by rw [keyC_size]; omega) hS) _ Try.underlying27 rfl (keySize k) ?_) | go_step); exact hK); go_step; refine hK _ ?_; clear hK K))
          obtain ⟨W7, hW7⟩ : ∃ W7, w' = W7 := ⟨_, rfl⟩
          rw [hW7] at hS1 ⊢
          clear hW7 w'
          refine Go.XR.S_heavy (fun K hK => ?_)
          go_step
          have hS2 := hS1.alloc hS1.size (.cells #[.int .i64 0, .int .i64 0] 33)
          refine hK _ _ ⟨fun _ => hS2, ?_⟩
          clear hK K
          repeat (first | (refine Go.XR.S_light rfl rfl (by assumption) ?_ (fun w' hS K hK => ?_) (fun K hK => ?_); rotate_left 1; (have hS1 := bcell hS; (first | (refine Go.XR.wp_load_at 27 _ rfl kb 0 rfl (keyC k) (At.below HK4.out (by rw [keyC_size]; omega) hS) _ Try.underlying27 rfl (keySize k) ?_) | go_step); exact hK); go_step; refine hK _ ?_; clear hK K))
          refine Go.XR.S_heavy (fun K hK => ?_)
          go_step
          obtain ⟨W5, hW3⟩ : ∃ V, W7.alloc (.cells #[.int .i64 v.shelf, .int .i64 v.slot] 33) = V := ⟨_, rfl⟩
          have hS3 : Below W4.heap.size W4 W5 := by rw [← hW3]; exact hS1.alloc hS1.size _
          obtain ⟨pb, hpb⟩ : ∃ pb, W7.heap.size = pb := ⟨_, rfl⟩
          have Hpb : Hid (W4.heap.size ≤ pb) := by unfold Hid; rw [← hpb]; exact hS1.size
          have HP3 : Hid (Blk W5 pb (placeL v)) := by unfold Hid; rw [← hW3, ← hpb]; exact Blk.new W7 (placeC v) _
          rw [hW3, hpb]
          clear hW3 hpb hS2
          refine hK _ _ ⟨fun _ => hS3, ?_⟩
          clear hK K
          repeat (first | (refine Go.XR.S_light rfl rfl (by assumption) ?_ (fun w' hS K hK => ?_) (fun K hK => ?_); rotate_left 1; (have hS1 := bcell hS; (first | (refine Go.XR.wp_load_at 27 _ rfl kb 0 rfl (keyC k) (At.below HK4.out (by rw [keyC_size]; omega) hS) _ Try.underlying27 rfl (keySize k) ?_) | go_step); exact hK); go_step; refine hK _ ?_; clear hK K))
          repeat (first | (refine Go.XR.S_heavy (fun K hK => ?_); go_step; refine hK _ _ ⟨fun h => by simp at h, ?_⟩; clear hK K))
          refine Go.XR.S_nil ?_
          have Hb3 := Lib.hid hS3
          clear hS1 hS3
          have H5 := Lib.hid (H4.out.below Hb3.out)
          have HR5 : Hid (Blk W5 rb [.int .i64 0, .int .i64 0]) := HR.out.heap (H5.out.own Hrl.out.1 Hrl.out.2).1
          have Hpf : Hid (pb ∉ foot p vp vq Fi Fc) := fun hm => by have h1 := H4.out.fin.lt _ hm; have h2 := Hpb.out; omega
          cases is with
          | false =>
            have d0 : W5.cell? ⟨pb, 0, none⟩ = some (.int .i64 v.shelf) := HP3.out.cell (i := 0) rfl
            have d1 : W5.cell? ⟨pb, 1, none⟩ = some (.int .i64 v.slot) := HP3.out.cell (i := 1) rfl
            have r0 := HR5.out.cell (i := 0) rfl
            have r1 := HR5.out.cell (i := 1) rfl
            have f0 := HR5.out.free 0
            have f1 := HR5.out.free 1
            go_wp2
            (try simp only [Exit.inBlock, Exit.then])
            refine bodyPost_ret (results_at rfl (g := rb) rfl rfl (((HR5.out.set 0 (.int .i64 v.shelf)).set 1 (.int .i64 v.slot)).toAt) Try.underlying33 rfl (placeSize v)) rfl ?_
            have hn : aget M.D k = none := by
              have h2 := His.out
              cases h : aget M.D k with
              | none => rfl
              | some x => rw [h] at h2; cases h2
            have hv0 : v = place0 := by have := Hv2.out; rw [hn] at this; exact this.symm
            have hff : fFind M k draw [] = (none, { M with asked := M.asked + 1 }) := by unfold fFind; rw [if_pos Hmay.out, Hcg.out, hn]
            refine ⟨[], fun _ _ v h => (by rw [hn] at h; cases h), by rw [hff, hv0]; rfl, Fi, Fc, ?_⟩
            rw [hff]
            exact (HW.out.trans H5.out).side (((But.refl [rb] W5).setCell (.inl (by simp)) (i := 0) (.int .i64 v.shelf)).setCell (.inl (by simp)) (i := 1) (.int .i64 v.slot)) (by intro b hb; rw [List.mem_singleton] at hb; subst hb; exact Hro.out)
          | true =>
            have Hx : Hid (aget M.D k = some v) := by
              unfold Hid
              have h1 := Hv2.out
              have h2 := His.out
              cases h : aget M.D k with
              | none => rw [h] at h2; cases h2
              | some x => rw [h] at h1; exact congrArg some h1
            have c4 := H5.out.fin.blk.cell (i := 4) rfl
            have f4 := H5.out.fin.blk.free 4
            clear Hg Hv2 His c0
            go_wp2_with (refine opIs (X := .store 3 (.tmp 58) (.tmp 56)) rfl ?_; refine Go.XR.stop (fun X hX => ?_))
            refine hX.out ?_
            clear hX X
            obtain ⟨W6, hW6⟩ : ∃ W6, W5.setCell ⟨p, 4, none⟩ (.int .i64 ((M.loaded : Int) + 1)) = W6 := ⟨_, rfl⟩
            have H6 := Lib.hid H5.out.loaded
            rw [hW6] at H6
            have HP6 : Hid (Blk W6 pb (placeL v)) := by
              unfold Hid
              rw [← hW6]
              exact HP3.out.but ((But.refl [p] W5).setCell (.inl (by simp)) _) (by rw [List.mem_singleton]; intro e; exact Hpf.out (mem_foot.2 (.inl e)))
            go_wp2
            clear hW6 c4 f4 H5 HR5 HP3 H4 HR4 HK4 Hb3 hkn4 hpn4
            obtain ⟨s, hs⟩ : ∃ s : I64, v.shelf = s.1 := ⟨⟨v.shelf, (H6.out.fin.ix.rng k v Hx.out).1⟩, rfl⟩
            have Hs := Lib.hid hs
            have hpn6 : p < W6.heap.size := H6.out.fin.blk.lt
            have hpb6 : pb < W6.heap.size := HP6.out.lt
            have c2 := H6.out.fin.blk.cell (i := 2) rfl
            have d0 : W6.cell? ⟨pb, 0, none⟩ = some (.int .i64 s.1) := by rw [← hs]; exact HP6.out.cell (i := 0) rfl
            have H6d := Lib.hid (H6.out.below (Below.refl _ _).drew)
            have Hsh := Lib.hid (fshelf_any W6.drew Fi Fc p ip vp vq cp _ H6d.out.fin hlen s.1 s.2)
            have hS0 : Below W6.heap.size W6 W6.drew := (Below.refl _ _).drew
            clear hs
            refine Go.XR.region_sched ((Below W6.heap.size W6)) [(0, true), (1, true), (2, true), (3, true), (4, true), (5, true), (6, true), (7, true), (8, true), (10, true), (9, false), (11, false)] [11] Try.mixed (by kernel_rfl) (by kernel_rfl) (by kernel_rfl) ?_
            simp only [List.map_cons, List.map_nil, List.getElem?_cons_succ, List.getElem?_cons_zero]
            repeat (first | (refine Go.XR.S_light rfl rfl (by assumption) ?_ (fun w' hS K hK => ?_) (fun K hK => ?_); rotate_left 1; (have hS1 := bcell hS; go_step; exact hK); go_step; refine hK _ ?_; clear hK K))
            refine Go.XR.S_heavy (fun K hK => ?_)
            go_step
            ((with_reducible refine (Hsh.out).mono ?_); rintro e w' ⟨L, hL, la, lc, rfl, hrow, hnew, hb7⟩)
            have HL := Lib.hid hL
            have H7 := Lib.hid (H6d.out.below hb7)
            have HP7 := Lib.hid (HP6.out.below (hS0.trans (hb7.mono hS0.size)))
            have hS7 : Below W6.heap.size W6 w' := hS0.trans (hb7.mono hS0.size)
            have hLl : L.length ≤ 2^20 := Nat.le_trans (ShelfOf.len hL) hlen
            obtain ⟨tb, a, cap, T, hch⟩ := H7.out.fin.ch
            have Hld := Lib.hid (cload_any w' Fc cp tb M.room a cap M.C T hch s la lc L hrow hLl (fun x hx hm => by
              have h1 := hnew x hx
              have h2 := H6d.out.fin.lt _ (mem_foot.2 (.inr (.inr (.inr (.inr hm)))))
              omega) draw hd)
            unfold i64V at Hld
            clear hL hrow hnew hb7 hLl hch Hsh hS0
            refine hK _ _ ⟨fun _ => hS7, ?_⟩
            clear hK K
            repeat (first | (refine Go.XR.S_light rfl rfl (by assumption) ?_ (fun w' hS K hK => ?_) (fun K hK => ?_); rotate_left 1; (have hS1 := bcell hS; go_step; exact hK); go_step; refine hK _ ?_; clear hK K))
            obtain ⟨W7, hW7⟩ : ∃ W7, w' = W7 := ⟨_, rfl⟩
            rw [hW7] at H7 HP7 Hld hS7 ⊢
            clear hW7 w'
            refine Go.XR.S_heavy (fun K hK => ?_)
            go_step
            ((with_reducible refine (Hld.out).mono ?_); rintro e w' ⟨rfl, F8, a8, cap8, T8, hC8, hb8, hg8⟩)
            have H8 := Lib.hid (H7.out.ch hC8 hb8 hg8)
            have HP8 := Lib.hid (HP7.out.but hb8 (fun hm => Hpf.out (mem_foot.2 (.inr (.inr (.inr (.inr hm)))))))
            clear hC8 hb8 hg8 c2 d0 hS7 Hld
            refine hK _ _ ⟨fun h => by simp at h, ?_⟩
            clear hK K
            repeat (first | (refine Go.XR.S_light rfl rfl (by assumption) ?_ (fun w' hS K hK => ?_) (fun K hK => ?_); rotate_left 1; (have hS1 := bcell hS; go_step; exact hK); go_step; refine hK _ ?_; clear hK K))
            obtain ⟨W8, hW8⟩ : ∃ W8, w' = W8 := ⟨_, rfl⟩
            rw [hW8] at H8 HP8 ⊢
            clear hW8 w'
            repeat (first | (refine Go.XR.S_heavy (fun K hK => ?_); go_step; refine hK _ _ ⟨fun h => by simp at h, ?_⟩; clear hK K))
            refine Go.XR.S_nil ?_
            have HR8 : Hid (Blk W8 rb [.int .i64 0, .int .i64 0]) := HR.out.heap (H8.out.own Hrl.out.1 Hrl.out.2).1
            have e0 : W8.cell? ⟨pb, 0, none⟩ = some (.int .i64 v.shelf) := HP8.out.cell (i := 0) rfl
            have e1 : W8.cell? ⟨pb, 1, none⟩ = some (.int .i64 v.slot) := HP8.out.cell (i := 1) rfl
            have r0 := HR8.out.cell (i := 0) rfl
            have r1 := HR8.out.cell (i := 1) rfl
            have f0 := HR8.out.free 0
            have f1 := HR8.out.free 1
            have hrf : rb ∉ foot p vp vq Fi F8 := (H8.out.own Hrl.out.1 Hrl.out.2).2.1
            go_wp2
            (try simp only [Exit.inBlock, Exit.then])
            refine bodyPost_ret (results_at rfl (g := rb) rfl rfl (((HR8.out.set 0 (.int .i64 v.shelf)).set 1 (.int .i64 v.slot)).toAt) Try.underlying33 rfl (placeSize v)) rfl ?_
            have hff : fFind M k draw L = (some v, { M with asked := M.asked + 1, loaded := M.loaded + 1, C := cLoad M.room M.C s L draw }) := by
              unfold fFind; rw [if_pos Hmay.out, Hcg.out, Hx.out]; simp only [Hs.out, mkI_val]
            refine ⟨L, fun _ _ x hx => (by rw [Hx.out] at hx; injection hx with hx; rw [← hx, Hs.out]; exact HL.out), by rw [hff]; rfl, Fi, F8, ?_⟩
            rw [hff]
            exact (HW.out.trans H8.out).side (((But.refl [rb] W8).setCell (.inl (by simp)) (i := 0) (.int .i64 v.shelf)).setCell (.inl (by simp)) (i := 1) (.int .i64 v.slot)) (by intro b hb; rw [List.mem_singleton] at hb; subst hb; exact ⟨Hro.out.1, hrf⟩)
        · skip
          refine Go.XR.S_heavy (fun K hK => ?_)
          go_step
          obtain ⟨W6, hW6⟩ : ∃ W6, (W4.alloc (.cells #[.int .i64 0, .int .i64 0] 33)).drew = W6 := ⟨_, rfl⟩
          have hS1 : Below W4.heap.size W4 W6 := by rw [← hW6]; exact ((Below.refl _ _).alloc (Nat.le_refl _) _).drew
          have HP1 : Hid (Blk W6 W4.heap.size [.int .i64 0, .int .i64 0]) := by unfold Hid; rw [← hW6]; exact Blk.new W4 #[.int .i64 0, .int .i64 0] _
          rw [hW6]
          refine hK _ _ ⟨fun _ => hS1, ?_⟩
          clear hK K
          repeat (first | (refine Go.XR.S_light rfl rfl (by assumption) ?_ (fun w' hS K hK => ?_) (fun K hK => ?_); rotate_left 1; (have hS1 := bcell hS; (first | (refine Go.XR.wp_load_at 27 _ rfl kb 0 rfl (keyC k) (At.below HK4.out (by rw [keyC_size]; omega) hS) _ Try.underlying27 rfl (keySize k) ?_) | go_step); exact hK); go_step; refine hK _ ?_; clear hK K))
          clear hW6 hS0
          refine Go.XR.S_heavy (fun K hK => ?_)
          go_step
          ((with_reducible refine ((Hg.out W6 hS1)).mono ?_); rintro e w' ⟨rfl, hb1⟩)
          have HP2 := Lib.hid (HP1.out.below hb1)
          have hS2 : Below W4.heap.size W4 w' := hS1.trans (hb1.mono hS1.size)
          have f0 := HP2.out.free 0
          have f1 := HP2.out.free 1
          have e0 := HP2.out.cell (i := 0) rfl
          have e1 := HP2.out.cell (i := 1) rfl
          clear hb1
          refine hK _ _ ⟨fun _ => hS2, ?_⟩
          clear hK K
          repeat (first | (refine Go.XR.S_light rfl rfl (by assumption) ?_ (fun w' hS K hK => ?_) (fun K hK => ?_); rotate_left 1; (have hS1 := bcell hS; (first | (refine Go.XR.wp_load_at 27 _ rfl kb 0 rfl (keyC k) (At.below HK4.out (by rw [keyC_size]; omega) hS) _ Try.underlying27 rfl (keySize k) ?_) | go_step); exact hK); go_step; refine hK _ ?_; clear hK K))
          obtain ⟨W7, hW7⟩ : ∃ W7, w' = W7 := ⟨_, rfl⟩
          rw [hW7] at hS2 HP2 f0 f1 e0 e1 ⊢
          clear hW7 w'
          refine Go.XR.S_heavy (fun K hK => ?_)
          go_step
          obtain ⟨W5, hW3⟩ : ∃ V, (W7.setCell ⟨W4.heap.size, 0, none⟩ (.int .i64 v.shelf)).setCell ⟨W4.heap.size, 1, none⟩ (.int .i64 v.slot) = V := ⟨_, rfl⟩
          have hS3 : Below W4.heap.size W4 W5 := by
            rw [← hW3]
            exact hS2.trans ((((But.refl [W4.heap.size] W7).setCell (.inl (by simp)) _).setCell (.inl (by simp)) _).below hS2.size (by simp))
          obtain ⟨pb, hpb⟩ : ∃ pb, W4.heap.size = pb := ⟨_, rfl⟩
          have Hpb : Hid (W4.heap.size ≤ pb) := by unfold Hid; omega
          have HP3 : Hid (Blk W5 pb (placeL v)) := by unfold Hid; rw [← hW3, ← hpb]; exact (HP2.out.set 0 (.int .i64 v.shelf)).set 1 (.int .i64 v.slot)
          have Hb3 := Lib.hid hS3
          rw [hW3]
          refine hK _ _ ⟨fun _ => hS3, ?_⟩
          clear hK K
          repeat (first | (refine Go.XR.S_light rfl rfl (by assumption) ?_ (fun w' hS K hK => ?_) (fun K hK => ?_); rotate_left 1; (have hS1 := bcell hS; (first | (refine Go.XR.wp_load_at 27 _ rfl kb 0 rfl (keyC k) (At.below HK4.out (by rw [keyC_size]; omega) hS) _ Try.underlying27 rfl (keySize k) ?_) | go_step); exact hK); go_step; refine hK _ ?_; clear hK K))
          rw [hpb]
          clear hW3 hpb f0 f1 e0 e1 HP1 HP2 hS1 hS2 hS3
          repeat (first | (refine Go.XR.S_heavy (fun K hK => ?_); go_step; refine hK _ _ ⟨fun h => by simp at h, ?_⟩; clear hK K))
          refine Go.XR.S_nil ?_
          have H5 := Lib.hid (H4.out.below Hb3.out)
          have HR5 : Hid (Blk W5 rb [.int .i64 0, .int .i64 0]) := HR.out.heap (H5.out.own Hrl.out.1 Hrl.out.2).1
          have Hpf : Hid (pb ∉ foot p vp vq Fi Fc) := fun hm => by have h1 := H4.out.fin.lt _ hm; have h2 := Hpb.out; omega
          cases is with
          | false =>
            have d0 : W5.cell? ⟨pb, 0, none⟩ = some (.int .i64 v.shelf) := HP3.out.cell (i := 0) rfl
            have d1 : W5.cell? ⟨pb, 1, none⟩ = some (.int .i64 v.slot) := HP3.out.cell (i := 1) rfl
            have r0 := HR5.out.cell (i := 0) rfl
            have r1 := HR5.out.cell (i := 1) rfl
            have f0 := HR5.out.free 0
            have f1 := HR5.out.free 1
            go_wp2
            (try simp only [Exit.inBlock, Exit.then])
            refine bodyPost_ret (results_at rfl (g := rb) rfl rfl (((HR5.out.set 0 (.int .i64 v.shelf)).set 1 (.int .i64 v.slot)).toAt) Try.underlying33 rfl (placeSize v)) rfl ?_
            have hn : aget M.D k = none := by
              have h2 := His.out
              cases h : aget M.D k with
              | none => rfl
              | some x => rw [h] at h2; cases h2
            have hv0 : v = place0 := by have := Hv2.out; rw [hn] at this; exact this.symm
            have hff : fFind M k draw [] = (none, { M with asked := M.asked + 1 }) := by unfold fFind; rw [if_pos Hmay.out, Hcg.out, hn]
            refine ⟨[], fun _ _ v h => (by rw [hn] at h; cases h), by rw [hff, hv0]; rfl, Fi, Fc, ?_⟩
            rw [hff]
            exact (HW.out.trans H5.out).side (((But.refl [rb] W5).setCell (.inl (by simp)) (i := 0) (.int .i64 v.shelf)).setCell (.inl (by simp)) (i := 1) (.int .i64 v.slot)) (by intro b hb; rw [List.mem_singleton] at hb; subst hb; exact Hro.out)
          | true =>
            have Hx : Hid (aget M.D k = some v) := by
              unfold Hid
              have h1 := Hv2.out
              have h2 := His.out
              cases h : aget M.D k with
              | none => rw [h] at h2; cases h2
              | some x => rw [h] at h1; exact congrArg some h1
            have c4 := H5.out.fin.blk.cell (i := 4) rfl
            have f4 := H5.out.fin.blk.free 4
            clear Hg Hv2 His c0
            go_wp2_with (refine opIs (X := .store 3 (.tmp 58) (.tmp 56)) rfl ?_; refine Go.XR.stop (fun X hX => ?_))
            refine hX.out ?_
            clear hX X
            obtain ⟨W6, hW6⟩ : ∃ W6, W5.setCell ⟨p, 4, none⟩ (.int .i64 ((M.loaded : Int) + 1)) = W6 := ⟨_, rfl⟩
            have H6 := Lib.hid H5.out.loaded
            rw [hW6] at H6
            have HP6 : Hid (Blk W6 pb (placeL v)) := by
              unfold Hid
              rw [← hW6]
              exact HP3.out.but ((But.refl [p] W5).setCell (.inl (by simp)) _) (by rw [List.mem_singleton]; intro e; exact Hpf.out (mem_foot.2 (.inl e)))
            go_wp2
            clear hW6 c4 f4 H5 HR5 HP3 H4 HR4 HK4 Hb3 hkn4 hpn4
            obtain ⟨s, hs⟩ : ∃ s : I64, v.shelf = s.1 := ⟨⟨v.shelf, (H6.out.fin.ix.rng k v Hx.out).1⟩, rfl⟩
            have Hs := Lib.hid hs
            have hpn6 : p < W6.heap.size := H6.out.fin.blk.lt
            have hpb6 : pb < W6.heap.size := HP6.out.lt
            have c2 := H6.out.fin.blk.cell (i := 2) rfl
            have d0 : W6.cell? ⟨pb, 0, none⟩ = some (.int .i64 s.1) := by rw [← hs]; exact HP6.out.cell (i := 0) rfl
            have H6d := Lib.hid (H6.out.below (Below.refl _ _).drew)
            have Hsh := Lib.hid (fshelf_any W6.drew Fi Fc p ip vp vq cp _ H6d.out.fin hlen s.1 s.2)
            have hS0 : Below W6.heap.size W6 W6.drew := (Below.refl _ _).drew
            clear hs
            refine Go.XR.region_sched ((Below W6.heap.size W6)) [(0, true), (1, true), (2, true), (3, true), (4, true), (5, true), (6, true), (7, true), (8, true), (10, true), (9, false), (11, false)] [11] Try.mixed (by kernel_rfl) (by kernel_rfl) (by kernel_rfl) ?_
            simp only [List.map_cons, List.map_nil, List.getElem?_cons_succ, List.getElem?_cons_zero]
            repeat (first | (refine Go.XR.S_light rfl rfl (by assumption) ?_ (fun w' hS K hK => ?_) (fun K hK => ?_); rotate_left 1; (have hS1 := bcell hS; go_step; exact hK); go_step; refine hK _ ?_; clear hK K))
            refine Go.XR.S_heavy (fun K hK => ?_)
            go_step
            ((with_reducible refine (Hsh.out).mono ?_); rintro e w' ⟨L, hL, la, lc, rfl, hrow, hnew, hb7⟩)
            have HL := Lib.hid hL
            have H7 := Lib.hid (H6d.out.below hb7)
            have HP7 := Lib.hid (HP6.out.below (hS0.trans (hb7.mono hS0.size)))
            have hS7 : Below W6.heap.size W6 w' := hS0.trans (hb7.mono hS0.size)
            have hLl : L.length ≤ 2^20 := Nat.le_trans (ShelfOf.len hL) hlen
            obtain ⟨tb, a, cap, T, hch⟩ := H7.out.fin.ch
            have Hld := Lib.hid (cload_any w' Fc cp tb M.room a cap M.C T hch s la lc L hrow hLl (fun x hx hm => by
              have h1 := hnew x hx
              have h2 := H6d.out.fin.lt _ (mem_foot.2 (.inr (.inr (.inr (.inr hm)))))
              omega) draw hd)
            unfold i64V at Hld
            clear hL hrow hnew hb7 hLl hch Hsh hS0
            refine hK _ _ ⟨fun _ => hS7, ?_⟩
            clear hK K
            repeat (first | (refine Go.XR.S_light rfl rfl (by assumption) ?_ (fun w' hS K hK => ?_) (fun K hK => ?_); rotate_left 1; (have hS1 := bcell hS; go_step; exact hK); go_step; refine hK _ ?_; clear hK K))
            obtain ⟨W7, hW7⟩ : ∃ W7, w' = W7 := ⟨_, rfl⟩
            rw [hW7] at H7 HP7 Hld hS7 ⊢
            clear hW7 w'
            refine Go.XR.S_heavy (fun K hK => ?_)
            go_step
            ((with_reducible refine (Hld.out).mono ?_); rintro e w' ⟨rfl, F8, a8, cap8, T8, hC8, hb8, hg8⟩)
            have H8 := Lib.hid (H7.out.ch hC8 hb8 hg8)
            have HP8 := Lib.hid (HP7.out.but hb8 (fun hm => Hpf.out (mem_foot.2 (.inr (.inr (.inr (.inr hm)))))))
            clear hC8 hb8 hg8 c2 d0 hS7 Hld
            refine hK _ _ ⟨fun h => by simp at h, ?_⟩
            clear hK K
            repeat (first | (refine Go.XR.S_light rfl rfl (by assumption) ?_ (fun w' hS K hK => ?_) (fun K hK => ?_); rotate_left 1; (have hS1 := bcell hS; go_step; exact hK); go_step; refine hK _ ?_; clear hK K))
            obtain ⟨W8, hW8⟩ : ∃ W8, w' = W8 := ⟨_, rfl⟩
            rw [hW8] at H8 HP8 ⊢
            clear hW8 w'
            repeat (first | (refine Go.XR.S_heavy (fun K hK => ?_); go_step; refine hK _ _ ⟨fun h => by simp at h, ?_⟩; clear hK K))
            refine Go.XR.S_nil ?_
            have HR8 : Hid (Blk W8 rb [.int .i64 0, .int .i64 0]) := HR.out.heap (H8.out.own Hrl.out.1 Hrl.out.2).1
            have e0 : W8.cell? ⟨pb, 0, none⟩ = some (.int .i64 v.shelf) := HP8.out.cell (i := 0) rfl
            have e1 : W8.cell? ⟨pb, 1, none⟩ = some (.int .i64 v.slot) := HP8.out.cell (i := 1) rfl
            have r0 := HR8.out.cell (i := 0) rfl
            have r1 := HR8.out.cell (i := 1) rfl
            have f0 := HR8.out.free 0
            have f1 := HR8.out.free 1
            have hrf : rb ∉ foot p vp vq Fi F8 := (H8.out.own Hrl.out.1 Hrl.out.2).2.1
            go_wp2
            (try simp only [Exit.inBlock, Exit.then])
            refine bodyPost_ret (results_at rfl (g := rb) rfl rfl (((HR8.out.set 0 (.int .i64 v.shelf)).set 1 (.int .i64 v.slot)).toAt) Try.underlying33 rfl (placeSize v)) rfl ?_
            have hff : fFind M k draw L = (some v, { M with asked := M.asked + 1, loaded := M.loaded + 1, C := cLoad M.room M.C s L draw }) := by
              unfold fFind; rw [if_pos Hmay.out, Hcg.out, Hx.out]; simp only [Hs.out, mkI_val]
            refine ⟨L, fun _ _ x hx => (by rw [Hx.out] at hx; injection hx with hx; rw [← hx, Hs.out]; exact HL.out), by rw [hff]; rfl, Fi, F8, ?_⟩
            rw [hff]
            exact (HW.out.trans H8.out).side (((But.refl [rb] W8).setCell (.inl (by simp)) (i := 0) (.int .i64 v.shelf)).setCell (.inl (by simp)) (i := 1) (.int .i64 v.slot)) (by intro b hb; rw [List.mem_singleton] at hb; subst hb; exact ⟨Hro.out.1, hrf⟩)
    · skip
      refine Go.XR.S_heavy (fun K hK => ?_)
      go_step
      obtain ⟨W6, hW6⟩ : ∃ W6, (W1.alloc (.cells #[.int .i64 0, .int .i64 0] 33)).drew = W6 := ⟨_, rfl⟩
      have hS1 : Below W1.heap.size W1 W6 := by rw [← hW6]; exact ((Below.refl _ _).alloc (Nat.le_refl _) _).drew
      have HP1 : Hid (Blk W6 W1.heap.size [.int .i64 0, .int .i64 0]) := by unfold Hid; rw [← hW6]; exact Blk.new W1 #[.int .i64 0, .int .i64 0] _
      rw [hW6]
      refine hK _ _ ⟨fun _ => hS1, ?_⟩
      clear hK K
      repeat (first | (refine Go.XR.S_light rfl rfl (by assumption) ?_ (fun w' hS K hK => ?_) (fun K hK => ?_); rotate_left 1; (have hS1 := bcell hS; (first | (refine Go.XR.wp_load_at 27 _ rfl kb 0 rfl (keyC k) (At.below HK1.out (by rw [keyC_size]; omega) hS) _ Try.underlying27 rfl (keySize k) ?_) | go_step); exact hK); go_step; refine hK _ ?_; clear hK K))
      clear hW6 hS0
      refine Go.XR.S_heavy (fun K hK => ?_)
      go_step
      ((with_reducible refine ((Hg.out W6 hS1)).mono ?_); rintro e w' ⟨rfl, hb1⟩)
      have HP2 := Lib.hid (HP1.out.below hb1)
      have hS2 : Below W1.heap.size W1 w' := hS1.trans (hb1.mono hS1.size)
      have f0 := HP2.out.free 0
      have f1 := HP2.out.free 1
      have e0 := HP2.out.cell (i := 0) rfl
      have e1 := HP2.out.cell (i := 1) rfl
      clear hb1
      refine hK _ _ ⟨fun _ => hS2, ?_⟩
      clear hK K
      repeat (first | (refine Go.XR.S_light rfl rfl (by assumption) ?_ (fun w' hS K hK => ?_) (fun K hK => ?_); rotate_left 1; (have hS1 := bcell hS; (first | (refine Go.XR.wp_load_at 27 _ rfl kb 0 rfl (keyC k) (At.below HK1.out (by rw [keyC_size]; omega) hS) _ Try.underlying27 rfl (keySize k) ?_) | go_step); exact hK); go_step; refine hK _ ?_; clear hK K))
      obtain ⟨W7, hW7⟩ : ∃ W7, w' = W7 := ⟨_, rfl⟩
      rw [hW7] at hS2 HP2 f0 f1 e0 e1 ⊢
      clear hW7 w'
      refine Go.XR.S_heavy (fun K hK => ?_)
      go_step
      obtain ⟨W3, hW3⟩ : ∃ V, (W7.setCell ⟨W1.heap.size, 0, none⟩ (.int .i64 v.shelf)).setCell ⟨W1.heap.size, 1, none⟩ (.int .i64 v.slot) = V := ⟨_, rfl⟩
      have hS3 : Below W1.heap.size W1 W3 := by
        rw [← hW3]
        exact hS2.trans ((((But.refl [W1.heap.size] W7).setCell (.inl (by simp)) _).setCell (.inl (by simp)) _).below hS2.size (by simp))
      obtain ⟨pb, hpb⟩ : ∃ pb, W1.heap.size = pb := ⟨_, rfl⟩
      have Hpb : Hid (W1.heap.size ≤ pb) := by unfold Hid; omega
      have HP3 : Hid (Blk W3 pb (placeL v)) := by unfold Hid; rw [← hW3, ← hpb]; exact (HP2.out.set 0 (.int .i64 v.shelf)).set 1 (.int .i64 v.slot)
      have Hb3 := Lib.hid hS3
      rw [hW3]
      refine hK _ _ ⟨fun _ => hS3, ?_⟩
      clear hK K
      repeat (first | (refine Go.XR.S_light rfl rfl (by assumption) ?_ (fun w' hS K hK => ?_) (fun K hK => ?_); rotate_left 1; (have hS1 := bcell hS; (first | (refine Go.XR.wp_load_at 27 _ rfl kb 0 rfl (keyC k) (At.below HK1.out (by rw [keyC_size]; omega) hS) _ Try.underlying27 rfl (keySize k) ?_) | go_step); exact hK); go_step; refine hK _ ?_; clear hK K))
      rw [hpb]
      clear hW3 hpb f0 f1 e0 e1 HP1 HP2 hS1 hS2 hS3
      repeat (first | (refine Go.XR.S_heavy (fun K hK => ?_); go_step; refine hK _ _ ⟨fun h => by simp at h, ?_⟩; clear hK K))
      refine Go.XR.S_nil ?_
      have H3 := Lib.hid (H1.out.below Hb3.out)
      have HR3 : Hid (Blk W3 rb [.int .i64 0, .int .i64 0]) := HR1.out.below Hb3.out
      cases is with
      | true =>
        have d0 : W3.cell? ⟨pb, 0, none⟩ = some (.int .i64 v.shelf) := HP3.out.cell (i := 0) rfl
        have d1 : W3.cell? ⟨pb, 1, none⟩ = some (.int .i64 v.slot) := HP3.out.cell (i := 1) rfl
        have r0 := HR3.out.cell (i := 0) rfl
        have r1 := HR3.out.cell (i := 1) rfl
        have f0 := HR3.out.free 0
        have f1 := HR3.out.free 1
        go_wp2
        (try simp only [Exit.inBlock, Exit.then])
        refine bodyPost_ret (results_at rfl (g := rb) rfl rfl (((HR3.out.set 0 (.int .i64 v.shelf)).set 1 (.int .i64 v.slot)).toAt) Try.underlying33 rfl (placeSize v)) rfl ?_
        have hcg : cGet M.C k = some v := by
          have h1 := Hv2.out
          have h2 := His.out
          cases h : cGet M.C k with
          | none => rw [h] at h2; cases h2
          | some x => rw [h] at h1; exact congrArg some h1
        have hff : fFind M k draw [] = (some v, M) := by unfold fFind; rw [if_pos Hmay.out, hcg]
        refine ⟨[], fun _ h => (by rw [hcg] at h; cases h), by rw [hff]; rfl, Fi, Fc, ?_⟩
        rw [hff]
        exact (HW.out.trans H3.out).side (((But.refl [rb] W3).setCell (.inl (by simp)) (i := 0) (.int .i64 v.shelf)).setCell (.inl (by simp)) (i := 1) (.int .i64 v.slot)) (by intro b hb; rw [List.mem_singleton] at hb; subst hb; exact Hro.out)
      | false =>
        have Hcg : Hid (cGet M.C k = none) := by
          unfold Hid
          have h2 := His.out
          cases h : cGet M.C k with
          | none => rfl
          | some x => rw [h] at h2; cases h2
        clear Hv2 His Hg Hpb HP3
        have c3 := H3.out.fin.blk.cell (i := 3) rfl
        have f3 := H3.out.fin.blk.free 3
        go_wp2_with (refine opIs (X := .store 3 (.tmp 41) (.tmp 39)) rfl ?_; refine Go.XR.stop (fun X hX => ?_))
        refine hX.out ?_
        clear hX X
        obtain ⟨W4, hW4⟩ : ∃ W4, W3.setCell ⟨p, 3, none⟩ (.int .i64 ((M.asked : Int) + 1)) = W4 := ⟨_, rfl⟩
        have H4 := Lib.hid H3.out.asked
        rw [hW4] at H4
        go_wp2
        clear hW4 c3 f3 H3 HR3 c2
        have HK4 : Hid (At W4 kb 0 (keyC k)) := HK.out.heap (H4.out.own Hko.out.1 Hko.out.2).1
        have HR4 : Hid (Blk W4 rb [.int .i64 0, .int .i64 0]) := HR.out.heap (H4.out.own Hrl.out.1 Hrl.out.2).1
        have hkn4 : kb < W4.heap.size := (H4.out.own Hko.out.1 Hko.out.2).2.2
        have hpn4 : p < W4.heap.size := H4.out.fin.blk.lt
        have c0 := H4.out.fin.blk.cell (i := 0) rfl
        obtain ⟨v, hv⟩ : ∃ v, (aget M.D k).getD place0 = v := ⟨_, rfl⟩
        obtain ⟨is, his⟩ : ∃ b, (aget M.D k).isSome = b := ⟨_, rfl⟩
        have Hg : Hid (∀ W9, Below W4.heap.size W4 W9 → Calls Try.prog 17 #[.pointer (some ⟨ip, 0, none⟩), keyV k] W9 fun e w' => e = .returned (.tuple #[.agg #[.int .i64 v.shelf, .int .i64 v.slot], .bool is]) ∧ Below W9.heap.size W9 w') := fun W9 hb => by
          refine (ix_get (H4.out.fin.ix.below hb) k).mono ?_
          rintro e w' ⟨rfl, h2⟩
          rw [hv, his]
          exact ⟨rfl, h2⟩
        have Hv2 := Lib.hid hv
        have His := Lib.hid his
        clear hv his
        clear Hb3 HR1 HK1 H1 hpn1 hkn1
        have hS0 : Below W4.heap.size W4 W4.drew := (Below.refl _ _).drew
        refine Go.XR.region_fork ((Below W4.heap.size W4)) [(0, true), (1, true), (2, true), (3, true), (4, true)] 5 9 [(6, true), (7, true), (8, true), (9, false), (10, false), (11, false)] [(5, false), (6, true), (7, true), (8, true), (10, false), (11, false)] [11] Try.mixed (by kernel_rfl) (by kernel_rfl) (by kernel_rfl) ?_
        simp only [List.map_cons, List.map_nil, List.getElem?_cons_succ, List.getElem?_cons_zero]
        repeat (first | (refine Go.XR.S_light rfl rfl (by assumption) ?_ (fun w' hS K hK => ?_) (fun K hK => ?_); rotate_left 1; (have hS1 := bcell hS; (first | (refine Go.XR.wp_load_at 27 _ rfl kb 0 rfl (keyC k) (At.below HK4.out (by rw [keyC_size]; omega) hS) _ Try.underlying27 rfl (keySize k) ?_) | go_step); exact hK); go_step; refine hK _ ?_; clear hK K))
        refine Go.XR.S_nil ?_
        refine Go.XR.Fork.both ?_ ?_
        · refine Go.XR.S_heavy (fun K hK => ?_)
          go_step
          ((with_reducible refine ((Hg.out W4.drew hS0)).mono ?_); rintro e w' ⟨rfl, hb1⟩)
          have hS1 : Below W4.heap.size W4 w' := hS0.trans (hb1.mono hS0.size)
          clear hb1 hS0
          refine hK _ _ ⟨fun _ => hS1, ?_⟩
          clear hK K
          repeat (first | (refine Go.XR.S_light rfl rfl (by assumption) ?_ (fun w' hS K hK => ?_) (fun K hK => ?_); rotate_left 1; (have hS1 := bcell hS; (first | (refine Go.XR.wp_load_at 27 _ rfl kb 0 rfl (keyC k) (At.below HK4.out (by rw [keyC_size]; omega) hS) _ Try.underlying27 rfl (keySize k) ?_) | go_step); exact hK); go_step; refine hK _ ?_; clear hK K))
          obtain ⟨W7, hW7⟩ : ∃ W7, w' = W7 := ⟨_, rfl⟩
          rw [hW7] at hS1 ⊢
          clear hW7 w'
          refine Go.XR.S_heavy (fun K hK => ?_)
          go_step
          have hS2 := hS1.alloc hS1.size (.cells #[.int .i64 0, .int .i64 0] 33)
          refine hK _ _ ⟨fun _ => hS2, ?_⟩
          clear hK K
          repeat (first | (refine Go.XR.S_light rfl rfl (by assumption) ?_ (fun w' hS K hK => ?_) (fun K hK => ?_); rotate_left 1; (have hS1 := bcell hS; (first | (refine Go.XR.wp_load_at 27 _ rfl kb 0 rfl (keyC k) (At.below HK4.out (by rw [keyC_size]; omega) hS) _ Try.underlying27 rfl (keySize k) ?_) | go_step); exact hK); go_step; refine hK _ ?_; clear hK K))
          refine Go.XR.S_heavy (fun K hK => ?_)
          go_step
          obtain ⟨W5, hW3⟩ : ∃ V, W7.alloc (.cells #[.int .i64 v.shelf, .int .i64 v.slot] 33) = V := ⟨_, rfl⟩
          have hS3 : Below W4.heap.size W4 W5 := by rw [← hW3]; exact hS1.alloc hS1.size _
          obtain ⟨pb, hpb⟩ : ∃ pb, W7.heap.size = pb := ⟨_, rfl⟩
          have Hpb : Hid (W4.heap.size ≤ pb) := by unfold Hid; rw [← hpb]; exact hS1.size
          have HP3 : Hid (Blk W5 pb (placeL v)) := by unfold Hid; rw [← hW3, ← hpb]; exact Blk.new W7 (placeC v) _
          rw [hW3, hpb]
          clear hW3 hpb hS2
          refine hK _ _ ⟨fun _ => hS3, ?_⟩
          clear hK K
          repeat (first | (refine Go.XR.S_light rfl rfl (by assumption) ?_ (fun w' hS K hK => ?_) (fun K hK => ?_); rotate_left 1; (have hS1 := bcell hS; (first | (refine Go.XR.wp_load_at 27 _ rfl kb 0 rfl (keyC k) (At.below HK4.out (by rw [keyC_size]; omega) hS) _ Try.underlying27 rfl (keySize k) ?_) | go_step); exact hK); go_step; refine hK _ ?_; clear hK K))
          repeat (first | (refine Go.XR.S_heavy (fun K hK => ?_); go_step; refine hK _ _ ⟨fun h => by simp at h, ?_⟩; clear hK K))
          refine Go.XR.S_nil ?_
          have Hb3 := Lib.hid hS3
          clear hS1 hS3
          have H5 := Lib.hid (H4.out.below Hb3.out)
          have HR5 : Hid (Blk W5 rb [.int .i64 0, .int .i64 0]) := HR.out.heap (H5.out.own Hrl.out.1 Hrl.out.2).1
          have Hpf : Hid (pb ∉ foot p vp vq Fi Fc) := fun hm => by have h1 := H4.out.fin.lt _ hm; have h2 := Hpb.out; omega
          cases is with
          | false =>
            have d0 : W5.cell? ⟨pb, 0, none⟩ = some (.int .i64 v.shelf) := HP3.out.cell (i := 0) rfl
            have d1 : W5.cell? ⟨pb, 1, none⟩ = some (.int .i64 v.slot) := HP3.out.cell (i := 1) rfl
            have r0 := HR5.out.cell (i := 0) rfl
            have r1 := HR5.out.cell (i := 1) rfl
            have f0 := HR5.out.free 0
            have f1 := HR5.out.free 1
            go_wp2
            (try simp only [Exit.inBlock, Exit.then])
            refine bodyPost_ret (results_at rfl (g := rb) rfl rfl (((HR5.out.set 0 (.int .i64 v.shelf)).set 1 (.int .i64 v.slot)).toAt) Try.underlying33 rfl (placeSize v)) rfl ?_
            have hn : aget M.D k = none := by
              have h2 := His.out
              cases h : aget M.D k with
              | none => rfl
              | some x => rw [h] at h2; cases h2
            have hv0 : v = place0 := by have := Hv2.out; rw [hn] at this; exact this.symm
            have hff : fFind M k draw [] = (none, { M with asked := M.asked + 1 }) := by unfold fFind; rw [if_pos Hmay.out, Hcg.out, hn]
            refine ⟨[], fun _ _ v h => (by rw [hn] at h; cases h), by rw [hff, hv0]; rfl, Fi, Fc, ?_⟩
            rw [hff]
            exact (HW.out.trans H5.out).side (((But.refl [rb] W5).setCell (.inl (by simp)) (i := 0) (.int .i64 v.shelf)).setCell (.inl (by simp)) (i := 1) (.int .i64 v.slot)) (by intro b hb; rw [List.mem_singleton] at hb; subst hb; exact Hro.out)
          | true =>
            have Hx : Hid (aget M.D k = some v) := by
              unfold Hid
              have h1 := Hv2.out
              have h2 := His.out
              cases h : aget M.D k with
              | none => rw [h] at h2; cases h2
              | some x => rw [h] at h1; exact congrArg some h1
            have c4 := H5.out.fin.blk.cell (i := 4) rfl
            have f4 := H5.out.fin.blk.free 4
            clear Hg Hv2 His c0
            go_wp2_with (refine opIs (X := .store 3 (.tmp 58) (.tmp 56)) rfl ?_; refine Go.XR.stop (fun X hX => ?_))
            refine hX.out ?_
            clear hX X
            obtain ⟨W6, hW6⟩ : ∃ W6, W5.setCell ⟨p, 4, none⟩ (.int .i64 ((M.loaded : Int) + 1)) = W6 := ⟨_, rfl⟩
            have H6 := Lib.hid H5.out.loaded
            rw [hW6] at H6
            have HP6 : Hid (Blk W6 pb (placeL v)) := by
              unfold Hid
              rw [← hW6]
              exact HP3.out.but ((But.refl [p] W5).setCell (.inl (by simp)) _) (by rw [List.mem_singleton]; intro e; exact Hpf.out (mem_foot.2 (.inl e)))
            go_wp2
            clear hW6 c4 f4 H5 HR5 HP3 H4 HR4 HK4 Hb3 hkn4 hpn4
            obtain ⟨s, hs⟩ : ∃ s : I64, v.shelf = s.1 := ⟨⟨v.shelf, (H6.out.fin.ix.rng k v Hx.out).1⟩, rfl⟩
            have Hs := Lib.hid hs
            have hpn6 : p < W6.heap.size := H6.out.fin.blk.lt
            have hpb6 : pb < W6.heap.size := HP6.out.lt
            have c2 := H6.out.fin.blk.cell (i := 2) rfl
            have d0 : W6.cell? ⟨pb, 0, none⟩ = some (.int .i64 s.1) := by rw [← hs]; exact HP6.out.cell (i := 0) rfl
            have H6d := Lib.hid (H6.out.below (Below.refl _ _).drew)
            have Hsh := Lib.hid (fshelf_any W6.drew Fi Fc p ip vp vq cp _ H6d.out.fin hlen s.1 s.2)
            have hS0 : Below W6.heap.size W6 W6.drew := (Below.refl _ _).drew
            clear hs
            refine Go.XR.region_sched ((Below W6.heap.size W6)) [(0, true), (1, true), (2, true), (3, true), (4, true), (5, true), (6, true), (7, true), (8, true), (10, true), (9, false), (11, false)] [11] Try.mixed (by kernel_rfl) (by kernel_rfl) (by kernel_rfl) ?_
            simp only [List.map_cons, List.map_nil, List.getElem?_cons_succ, List.getElem?_cons_zero]
            repeat (first | (refine Go.XR.S_light rfl rfl (by assumption) ?_ (fun w' hS K hK => ?_) (fun K hK => ?_); rotate_left 1; (have hS1 := bcell hS; go_step; exact hK); go_step; refine hK _ ?_; clear hK K))
            refine Go.XR.S_heavy (fun K hK => ?_)
            go_step
            ((with_reducible refine (Hsh.out).mono ?_); rintro e w' ⟨L, hL, la, lc, rfl, hrow, hnew, hb7⟩)
            have HL := Lib.hid hL
            have H7 := Lib.hid (H6d.out.below hb7)
            have HP7 := Lib.hid (HP6.out.below (hS0.trans (hb7.mono hS0.size)))
            have hS7 : Below W6.heap.size W6 w' := hS0.trans (hb7.mono hS0.size)
            have hLl : L.length ≤ 2^20 := Nat.le_trans (ShelfOf.len hL) hlen
            obtain ⟨tb, a, cap, T, hch⟩ := H7.out.fin.ch
            have Hld := Lib.hid (cload_any w' Fc cp tb M.room a cap M.C T hch s la lc L hrow hLl (fun x hx hm => by
              have h1 := hnew x hx
              have h2 := H6d.out.fin.lt _ (mem_foot.2 (.inr (.inr (.inr (.inr hm)))))
              omega) draw hd)
            unfold i64V at Hld
            clear hL hrow hnew hb7 hLl hch Hsh hS0
            refine hK _ _ ⟨fun _ => hS7, ?_⟩
            clear hK K
            repeat (first | (refine Go.XR.S_light rfl rfl (by assumption) ?_ (fun w' hS K hK => ?_) (fun K hK => ?_); rotate_left 1; (have hS1 := bcell hS; go_step; exact hK); go_step; refine hK _ ?_; clear hK K))
            obtain ⟨W7, hW7⟩ : ∃ W7, w' = W7 := ⟨_, rfl⟩
            rw [hW7] at H7 HP7 Hld hS7 ⊢
            clear hW7 w'
            refine Go.XR.S_heavy (fun K hK => ?_)
            go_step
            ((with_reducible refine (Hld.out).mono ?_); rintro e w' ⟨rfl, F8, a8, cap8, T8, hC8, hb8, hg8⟩)
            have H8 := Lib.hid (H7.out.ch hC8 hb8 hg8)
            have HP8 := Lib.hid (HP7.out.but hb8 (fun hm => Hpf.out (mem_foot.2 (.inr (.inr (.inr (.inr hm)))))))
            clear hC8 hb8 hg8 c2 d0 hS7 Hld
            refine hK _ _ ⟨fun h => by simp at h, ?_⟩
            clear hK K
            repeat (first | (refine Go.XR.S_light rfl rfl (by assumption) ?_ (fun w' hS K hK => ?_) (fun K hK => ?_); rotate_left 1; (have hS1 := bcell hS; go_step; exact hK); go_step; refine hK _ ?_; clear hK K))
            obtain ⟨W8, hW8⟩ : ∃ W8, w' = W8 := ⟨_, rfl⟩
            rw [hW8] at H8 HP8 ⊢
            clear hW8 w'
            repeat (first | (refine Go.XR.S_heavy (fun K hK => ?_); go_step; refine hK _ _ ⟨fun h => by simp at h, ?_⟩; clear hK K))
            refine Go.XR.S_nil ?_
            have HR8 : Hid (Blk W8 rb [.int .i64 0, .int .i64 0]) := HR.out.heap (H8.out.own Hrl.out.1 Hrl.out.2).1
            have e0 : W8.cell? ⟨pb, 0, none⟩ = some (.int .i64 v.shelf) := HP8.out.cell (i := 0) rfl
            have e1 : W8.cell? ⟨pb, 1, none⟩ = some (.int .i64 v.slot) := HP8.out.cell (i := 1) rfl
            have r0 := HR8.out.cell (i := 0) rfl
            have r1 := HR8.out.cell (i := 1) rfl
            have f0 := HR8.out.free 0
            have f1 := HR8.out.free 1
            have hrf : rb ∉ foot p vp vq Fi F8 := (H8.out.own Hrl.out.1 Hrl.out.2).2.1
            go_wp2
            (try simp only [Exit.inBlock, Exit.then])
            refine bodyPost_ret (results_at rfl (g := rb) rfl rfl (((HR8.out.set 0 (.int .i64 v.shelf)).set 1 (.int .i64 v.slot)).toAt) Try.underlying33 rfl (placeSize v)) rfl ?_
            have hff : fFind M k draw L = (some v, { M with asked := M.asked + 1, loaded := M.loaded + 1, C := cLoad M.room M.C s L draw }) := by
              unfold fFind; rw [if_pos Hmay.out, Hcg.out, Hx.out]; simp only [Hs.out, mkI_val]
            refine ⟨L, fun _ _ x hx => (by rw [Hx.out] at hx; injection hx with hx; rw [← hx, Hs.out]; exact HL.out), by rw [hff]; rfl, Fi, F8, ?_⟩
            rw [hff]
            exact (HW.out.trans H8.out).side (((But.refl [rb] W8).setCell (.inl (by simp)) (i := 0) (.int .i64 v.shelf)).setCell (.inl (by simp)) (i := 1) (.int .i64 v.slot)) (by intro b hb; rw [List.mem_singleton] at hb; subst hb; exact ⟨Hro.out.1, hrf⟩)
        · skip
          refine Go.XR.S_heavy (fun K hK => ?_)
          go_step
          obtain ⟨W6, hW6⟩ : ∃ W6, (W4.alloc (.cells #[.int .i64 0, .int .i64 0] 33)).drew = W6 := ⟨_, rfl⟩
          have hS1 : Below W4.heap.size W4 W6 := by rw [← hW6]; exact ((Below.refl _ _).alloc (Nat.le_refl _) _).drew
          have HP1 : Hid (Blk W6 W4.heap.size [.int .i64 0, .int .i64 0]) := by unfold Hid; rw [← hW6]; exact Blk.new W4 #[.int .i64 0, .int .i64 0] _
          rw [hW6]
          refine hK _ _ ⟨fun _ => hS1, ?_⟩
          clear hK K
          repeat (first | (refine Go.XR.S_light rfl rfl (by assumption) ?_ (fun w' hS K hK => ?_) (fun K hK => ?_); rotate_left 1; (have hS1 := bcell hS; (first | (refine Go.XR.wp_load_at 27 _ rfl kb 0 rfl (keyC k) (At.below HK4.out (by rw [keyC_size]; omega) hS) _ Try.underlying27 rfl (keySize k) ?_) | go_step); exact hK); go_step; refine hK _ ?_; clear hK K))
          clear hW6 hS0
          refine Go.XR.S_heavy (fun K hK => ?_)
          go_step
          ((with_reducible refine ((Hg.out W6 hS1)).mono ?_); rintro e w' ⟨rfl, hb1⟩)
          have HP2 := Lib.hid (HP1.out.below hb1)
          have hS2 : Below W4.heap.size W4 w' := hS1.trans (hb1.mono hS1.size)
          have f0 := HP2.out.free 0
          have f1 := HP2.out.free 1
          have e0 := HP2.out.cell (i := 0) rfl
          have e1 := HP2.out.cell (i := 1) rfl
          clear hb1
          refine hK _ _ ⟨fun _ => hS2, ?_⟩
          clear hK K
          repeat (first | (refine Go.XR.S_light rfl rfl (by assumption) ?_ (fun w' hS K hK => ?_) (fun K hK => ?_); rotate_left 1; (have hS1 := bcell hS; (first | (refine Go.XR.wp_load_at 27 _ rfl kb 0 rfl (keyC k) (At.below HK4.out (by rw [keyC_size]; omega) hS) _ Try.underlying27 rfl (keySize k) ?_) | go_step); exact hK); go_step; refine hK _ ?_; clear hK K))
          obtain ⟨W7, hW7⟩ : ∃ W7, w' = W7 := ⟨_, rfl⟩
          rw [hW7] at hS2 HP2 f0 f1 e0 e1 ⊢
          clear hW7 w'
          refine Go.XR.S_heavy (fun K hK => ?_)
          go_step
          obtain ⟨W5, hW3⟩ : ∃ V, (W7.setCell ⟨W4.heap.size, 0, none⟩ (.int .i64 v.shelf)).setCell ⟨W4.heap.size, 1, none⟩ (.int .i64 v.slot) = V := ⟨_, rfl⟩
          have hS3 : Below W4.heap.size W4 W5 := by
            rw [← hW3]
            exact hS2.trans ((((But.refl [W4.heap.size] W7).setCell (.inl (by simp)) _).setCell (.inl (by simp)) _).below hS2.size (by simp))
          obtain ⟨pb, hpb⟩ : ∃ pb, W4.heap.size = pb := ⟨_, rfl⟩
          have Hpb : Hid (W4.heap.size ≤ pb) := by unfold Hid; omega
          have HP3 : Hid (Blk W5 pb (placeL v)) := by unfold Hid; rw [← hW3, ← hpb]; exact (HP2.out.set 0 (.int .i64 v.shelf)).set 1 (.int .i64 v.slot)
          have Hb3 := Lib.hid hS3
          rw [hW3]
          refine hK _ _ ⟨fun _ => hS3, ?_⟩
          clear hK K
          repeat (first | (refine Go.XR.S_light rfl rfl (by assumption) ?_ (fun w' hS K hK => ?_) (fun K hK => ?_); rotate_left 1; (have hS1 := bcell hS; (first | (refine Go.XR.wp_load_at 27 _ rfl kb 0 rfl (keyC k) (At.below HK4.out (by rw [keyC_size]; omega) hS) _ Try.underlying27 rfl (keySize k) ?_) | go_step); exact hK); go_step; refine hK _ ?_; clear hK K))
          rw [hpb]
          clear hW3 hpb f0 f1 e0 e1 HP1 HP2 hS1 hS2 hS3
          repeat (first | (refine Go.XR.S_heavy (fun K hK => ?_); go_step; refine hK _ _ ⟨fun h => by simp at h, ?_⟩; clear hK K))
          refine Go.XR.S_nil ?_
          have H5 := Lib.hid (H4.out.below Hb3.out)
          have HR5 : Hid (Blk W5 rb [.int .i64 0, .int .i64 0]) := HR.out.heap (H5.out.own Hrl.out.1 Hrl.out.2).1
          have Hpf : Hid (pb ∉ foot p vp vq Fi Fc) := fun hm => by have h1 := H4.out.fin.lt _ hm; have h2 := Hpb.out; omega
          cases is with
          | false =>
            have d0 : W5.cell? ⟨pb, 0, none⟩ = some (.int .i64 v.shelf) := HP3.out.cell (i := 0) rfl
            have d1 : W5.cell? ⟨pb, 1, none⟩ = some (.int .i64 v.slot) := HP3.out.cell (i := 1) rfl
            have r0 := HR5.out.cell (i := 0) rfl
            have r1 := HR5.out.cell (i := 1) rfl
            have f0 := HR5.out.free 0
            have f1 := HR5.out.free 1
            go_wp2
            (try simp only [Exit.inBlock, Exit.then])
            refine bodyPost_ret (results_at rfl (g := rb) rfl rfl (((HR5.out.set 0 (.int .i64 v.shelf)).set 1 (.int .i64 v.slot)).toAt) Try.underlying33 rfl (placeSize v)) rfl ?_
            have hn : aget M.D k = none := by
              have h2 := His.out
              cases h : aget M.D k with
              | none => rfl
              | some x => rw [h] at h2; cases h2
            have hv0 : v = place0 := by have := Hv2.out; rw [hn] at this; exact this.symm
            have hff : fFind M k draw [] = (none, { M with asked := M.asked + 1 }) := by unfold fFind; rw [if_pos Hmay.out, Hcg.out, hn]
            refine ⟨[], fun _ _ v h => (by rw [hn] at h; cases h), by rw [hff, hv0]; rfl, Fi, Fc, ?_⟩
            rw [hff]
            exact (HW.out.trans H5.out).side (((But.refl [rb] W5).setCell (.inl (by simp)) (i := 0) (.int .i64 v.shelf)).setCell (.inl (by simp)) (i := 1) (.int .i64 v.slot)) (by intro b hb; rw [List.mem_singleton] at hb; subst hb; exact Hro.out)
          | true =>
            have Hx : Hid (aget M.D k = some v) := by
              unfold Hid
              have h1 := Hv2.out
              have h2 := His.out
              cases h : aget M.D k with
              | none => rw [h] at h2; cases h2
              | some x => rw [h] at h1; exact congrArg some h1
            have c4 := H5.out.fin.blk.cell (i := 4) rfl
            have f4 := H5.out.fin.blk.free 4
            clear Hg Hv2 His c0
            go_wp2_with (refine opIs (X := .store 3 (.tmp 58) (.tmp 56)) rfl ?_; refine Go.XR.stop (fun X hX => ?_))
            refine hX.out ?_
            clear hX X
            obtain ⟨W6, hW6⟩ : ∃ W6, W5.setCell ⟨p, 4, none⟩ (.int .i64 ((M.loaded : Int) + 1)) = W6 := ⟨_, rfl⟩
            have H6 := Lib.hid H5.out.loaded
            rw [hW6] at H6
            have HP6 : Hid (Blk W6 pb (placeL v)) := by
              unfold Hid
              rw [← hW6]
              exact HP3.out.but ((But.refl [p] W5).setCell (.inl (by simp)) _) (by rw [List.mem_singleton]; intro e; exact Hpf.out (mem_foot.2 (.inl e)))
            go_wp2
            clear hW6 c4 f4 H5 HR5 HP3 H4 HR4 HK4 Hb3 hkn4 hpn4
            obtain ⟨s, hs⟩ : ∃ s : I64, v.shelf = s.1 := ⟨⟨v.shelf, (H6.out.fin.ix.rng k v Hx.out).1⟩, rfl⟩
            have Hs := Lib.hid hs
            have hpn6 : p < W6.heap.size := H6.out.fin.blk.lt
            have hpb6 : pb < W6.heap.size := HP6.out.lt
            have c2 := H6.out.fin.blk.cell (i := 2) rfl
            have d0 : W6.cell? ⟨pb, 0, none⟩ = some (.int .i64 s.1) := by rw [← hs]; exact HP6.out.cell (i := 0) rfl
            have H6d := Lib.hid (H6.out.below (Below.refl _ _).drew)
            have Hsh := Lib.hid (fshelf_any W6.drew Fi Fc p ip vp vq cp _ H6d.out.fin hlen s.1 s.2)
            have hS0 : Below W6.heap.size W6 W6.drew := (Below.refl _ _).drew
            clear hs
            refine Go.XR.region_sched ((Below W6.heap.size W6)) [(0, true), (1, true), (2, true), (3, true), (4, true), (5, true), (6, true), (7, true), (8, true), (10, true), (9, false), (11, false)] [11] Try.mixed (by kernel_rfl) (by kernel_rfl) (by kernel_rfl) ?_
            simp only [List.map_cons, List.map_nil, List.getElem?_cons_succ, List.getElem?_cons_zero]
            repeat (first | (refine Go.XR.S_light rfl rfl (by assumption) ?_ (fun w' hS K hK => ?_) (fun K hK => ?_); rotate_left 1; (have hS1 := bcell hS; go_step; exact hK); go_step; refine hK _ ?_; clear hK K))
            refine Go.XR.S_heavy (fun K hK => ?_)
            go_step
            ((with_reducible refine (Hsh.out).mono ?_); rintro e w' ⟨L, hL, la, lc, rfl, hrow, hnew, hb7⟩)
            have HL := Lib.hid hL
            have H7 := Lib.hid (H6d.out.below hb7)
            have HP7 := Lib.hid (HP6.out.below (hS0.trans (hb7.mono hS0.size)))
            have hS7 : Below W6.heap.size W6 w' := hS0.trans (hb7.mono hS0.size)
            have hLl : L.length ≤ 2^20 := Nat.le_trans (ShelfOf.len hL) hlen
            obtain ⟨tb, a, cap, T, hch⟩ := H7.out.fin.ch
            have Hld := Lib.hid (cload_any w' Fc cp tb M.room a cap M.C T hch s la lc L hrow hLl (fun x hx hm => by
              have h1 := hnew x hx
              have h2 := H6d.out.fin.lt _ (mem_foot.2 (.inr (.inr (.inr (.inr hm)))))
              omega) draw hd)
            unfold i64V at Hld
            clear hL hrow hnew hb7 hLl hch Hsh hS0
            refine hK _ _ ⟨fun _ => hS7, ?_⟩
            clear hK K
            repeat (first | (refine Go.XR.S_light rfl rfl (by assumption) ?_ (fun w' hS K hK => ?_) (fun K hK => ?_); rotate_left 1; (have hS1 := bcell hS; go_step; exact hK); go_step; refine hK _ ?_; clear hK K))
            obtain ⟨W7, hW7⟩ : ∃ W7, w' = W7 := ⟨_, rfl⟩
            rw [hW7] at H7 HP7 Hld hS7 ⊢
            clear hW7 w'
            refine Go.XR.S_heavy (fun K hK => ?_)
            go_step
            ((with_reducible refine (Hld.out).mono ?_); rintro e w' ⟨rfl, F8, a8, cap8, T8, hC8, hb8, hg8⟩)
            have H8 := Lib.hid (H7.out.ch hC8 hb8 hg8)
            have HP8 := Lib.hid (HP7.out.but hb8 (fun hm => Hpf.out (mem_foot.2 (.inr (.inr (.inr (.inr hm)))))))
            clear hC8 hb8 hg8 c2 d0 hS7 Hld
            refine hK _ _ ⟨fun h => by simp at h, ?_⟩
            clear hK K
            repeat (first | (refine Go.XR.S_light rfl rfl (by assumption) ?_ (fun w' hS K hK => ?_) (fun K hK => ?_); rotate_left 1; (have hS1 := bcell hS; go_step; exact hK); go_step; refine hK _ ?_; clear hK K))
            obtain ⟨W8, hW8⟩ : ∃ W8, w' = W8 := ⟨_, rfl⟩
            rw [hW8] at H8 HP8 ⊢
            clear hW8 w'
            repeat (first | (refine Go.XR.S_heavy (fun K hK => ?_); go_step; refine hK _ _ ⟨fun h => by simp at h, ?_⟩; clear hK K))
            refine Go.XR.S_nil ?_
            have HR8 : Hid (Blk W8 rb [.int .i64 0, .int .i64 0]) := HR.out.heap (H8.out.own Hrl.out.1 Hrl.out.2).1
            have e0 : W8.cell? ⟨pb, 0, none⟩ = some (.int .i64 v.shelf) := HP8.out.cell (i := 0) rfl
            have e1 : W8.cell? ⟨pb, 1, none⟩ = some (.int .i64 v.slot) := HP8.out.cell (i := 1) rfl
            have r0 := HR8.out.cell (i := 0) rfl
            have r1 := HR8.out.cell (i := 1) rfl
            have f0 := HR8.out.free 0
            have f1 := HR8.out.free 1
            have hrf : rb ∉ foot p vp vq Fi F8 := (H8.out.own Hrl.out.1 Hrl.out.2).2.1
            go_wp2
            (try simp only [Exit.inBlock, Exit.then])
            refine bodyPost_ret (results_at rfl (g := rb) rfl rfl (((HR8.out.set 0 (.int .i64 v.shelf)).set 1 (.int .i64 v.slot)).toAt) Try.underlying33 rfl (placeSize v)) rfl ?_
            have hff : fFind M k draw L = (some v, { M with asked := M.asked + 1, loaded := M.loaded + 1, C := cLoad M.room M.C s L draw }) := by
              unfold fFind; rw [if_pos Hmay.out, Hcg.out, Hx.out]; simp only [Hs.out, mkI_val]
            refine ⟨L, fun _ _ x hx => (by rw [Hx.out] at hx; injection hx with hx; rw [← hx, Hs.out]; exact HL.out), by rw [hff]; rfl, Fi, F8, ?_⟩
            rw [hff]
            exact (HW.out.trans H8.out).side (((But.refl [rb] W8).setCell (.inl (by simp)) (i := 0) (.int .i64 v.shelf)).setCell (.inl (by simp)) (i := 1) (.int .i64 v.slot)) (by intro b hb; rw [List.mem_singleton] at hb; subst hb; exact ⟨Hro.out.1, hrf⟩)
end Go.Proofs.Ytnfbchhbcinloaa

/- The walks over cache.New and find.New. -/
namespace Go.Proofs.Ytnfbchhbcinloaa
open Go.RowKit Go.XR Go.IndexPure Go.CachePure Go.FindPure
def RetCNew (w : World) (room : Int) (e : Ending) (w' : World) : Prop :=
  (¬ (0 ≤ room ∧ room ≤ 4096) ∧ e = .returned (.tuple #[.pointer none, .int .i64 1]) ∧ w' = w) ∨
  (∃ m : Nat, room = m ∧ m ≤ 4096 ∧ ∃ p tb, e = .returned (.tuple #[.pointer (some ⟨p, 0, none⟩), .int .i64 0]) ∧ ChC w' [p, tb] p tb m none 0 [] [] ∧ w.heap.size ≤ tb ∧ tb < p ∧ Below w.heap.size w w')
set_option maxHeartbeats 1000000 in
set_option maxRecDepth 100000 in
theorem cnew_any (w : World) (room : Int) : Calls Try.prog 57 #[.int .i64 room] w (RetCNew w room) := by
  by_cases h1 : room < 0
  · go_enter Try.func57, Try.ntmps57
    go_wp2
    go_ret2
    exact .inl ⟨by omega, rfl, rfl⟩
  by_cases h2 : 4096 < room
  · go_enter Try.func57, Try.ntmps57
    go_wp2
    go_ret2
    exact .inl ⟨by omega, rfl, rfl⟩
  obtain ⟨m, rfl⟩ : ∃ m : Nat, room = m := ⟨room.toNat, by omega⟩
  have g1 : m ≤ 4096 := by omega
  have hmm := @run_makeMap Try.prog
  clear h1 h2
  go_enter Try.func57, Try.ntmps57
  go_wp2
  go_ret2
  refine .inr ⟨m, rfl, g1, w.heap.size + 1, w.heap.size, rfl, ?_, Nat.le_refl _, Nat.lt_succ_self _, ((Below.refl _ _).alloc (Nat.le_refl _) _).alloc (by simp) _⟩
  have h2 := Blk.new (w.alloc (.map #[] 0)) #[.int .i64 m, .slice none 0 0, .map (some w.heap.size)] 122
  rw [show (w.alloc (.map #[] 0)).heap.size = w.heap.size + 1 by simp] at h2
  have h3 : GM i64V mapV ((w.alloc (.map #[] 0)).alloc (.cells #[.int .i64 m, .slice none 0 0, .map (some w.heap.size)] 122)) w.heap.size [] := (GM.made i64V mapV w).below ((Below.refl _ _).alloc (Nat.le_refl _) _)
  exact {
    fin := fun b hb => by simp at hb; rcases hb with rfl | rfl <;> (simp; try omega)
    blk := h2
    inF := by simp
    order := ⟨rfl, .inl ⟨rfl, rfl⟩⟩
    ordF := fun x hx => by cases hx
    tables := h3
    nd := List.nodup_nil
    tab := fun s t hm => by cases hm
    dom := fun s hs => by cases hs
    len := Nat.zero_le _
    room := g1 }
def fin0 (bits probes room : Nat) : FinT := ⟨bits, probes, room, List.replicate ((bits + 7) / 8) 0, [], [], 0, 0⟩
def finOk (bits probes room : Int) : Prop := (0 ≤ bits ∧ bits ≤ 1048576) ∧ (0 ≤ probes ∧ probes ≤ 30) ∧ (0 ≤ room ∧ room ≤ 4096)
def RetFNew (w : World) (bits probes room : Int) (e : Ending) (w' : World) : Prop :=
  (¬ finOk bits probes room ∧ e = .returned (.tuple #[.pointer none, .int .i64 1]) ∧ Below w.heap.size w w') ∨
  (∃ a b c : Nat, bits = a ∧ probes = b ∧ room = c ∧ finOk bits probes room ∧ ∃ Fi Fc p ip vp vq cp, e = .returned (.tuple #[.pointer (some ⟨p, 0, none⟩), .int .i64 0]) ∧ FinC w' Fi Fc p ip vp vq cp (fin0 a b c) ∧ (∀ x ∈ foot p vp vq Fi Fc, w.heap.size ≤ x) ∧ Below w.heap.size w w')
set_option maxHeartbeats 1000000 in
set_option maxRecDepth 100000 in
theorem fnew_any (w : World) (bits probes room : Int) : Calls Try.prog 32 #[.int .i64 bits, .int .i64 probes, .int .i64 room] w (RetFNew w bits probes room) := by
  go_enter Try.func32, Try.ntmps32
  go_wp2_with fail
  refine (bnew_any w bits probes).mono ?_
  rintro e w1 (⟨hbad, rfl, hw⟩ | ⟨a, b, ha, hb, ha2, hb2, vp, vq, cap, rfl, hV, hq, hp, hp2, hb1⟩)
  · rw [hw]
    have Hbad := Lib.hid hbad
    clear hbad hw
    go_wp2
    go_ret2
    exact .inl ⟨fun h => Hbad.out ⟨h.1.1, h.1.2, h.2.1.1, h.2.1.2⟩, rfl, Below.refl _ _⟩
  · have HV := Lib.hid hV
    have Hb1 := Lib.hid hb1
    have Hab : Hid (bits = a ∧ probes = b ∧ a ≤ 1048576 ∧ b ≤ 30 ∧ w.heap.size ≤ vq ∧ vq < vp ∧ vp < w1.heap.size) := ⟨ha, hb, ha2, hb2, hq, hp, hp2⟩
    clear hV hb1 ha hb ha2 hb2 hq hp hp2
    go_wp2_with fail
    refine (cnew_any w1 room).mono ?_
    rintro e w2 (⟨hbad, rfl, hw⟩ | ⟨c, hc, hc2, cp, tb, rfl, hC, h1, h2, hb2⟩)
    · rw [hw]
      have Hbad := Lib.hid hbad
      clear hbad hw
      go_wp2
      go_ret2
      exact .inl ⟨fun h => Hbad.out h.2.2, rfl, Hb1.out⟩
    · have HC := Lib.hid hC
      have Hb2 := Lib.hid hb2
      have Hc : Hid (room = c ∧ c ≤ 4096 ∧ w1.heap.size ≤ tb ∧ tb < cp) := ⟨hc, hc2, h1, h2⟩
      clear hC hb2 hc hc2 h1 h2
      go_wp2_with fail
      refine (new_any w2).mono ?_
      rintro e w3 h
      obtain ⟨ip, Fi, rfl, hix, hnew, hb3⟩ := RetNew.ix h
      have HIx := Lib.hid hix
      have Hnew := Lib.hid hnew
      have Hb3 := Lib.hid hb3
      clear h hix hnew hb3
      go_wp2
      go_ret2
      obtain ⟨ha, hb, ha2, hb2, h1, h2, h3⟩ := Hab.out
      obtain ⟨hc, hc2, h4, h5⟩ := Hc.out
      have hV3 := (HV.out.below Hb2.out).below Hb3.out
      have hC3 := HC.out.below Hb3.out
      have s1 := Hb1.out.size
      have s2 := Hb2.out.size
      have s3 := Hb3.out.size
      have hcp := HC.out.fin cp (by simp)
      have hnew := Hnew.out
      obtain ⟨W, hW⟩ : ∃ W, w3.alloc (.cells #[.pointer (some ⟨ip, 0, none⟩), .pointer (some ⟨vp, 0, none⟩), .pointer (some ⟨cp, 0, none⟩), .int .i64 0, .int .i64 0] 104) = W := ⟨_, rfl⟩
      have hb4 : Below w3.heap.size w3 W := by rw [← hW]; exact (Below.refl _ _).alloc (Nat.le_refl _) _
      have hblk : Blk W w3.heap.size [.pointer (some ⟨ip, 0, none⟩), .pointer (some ⟨vp, 0, none⟩), .pointer (some ⟨cp, 0, none⟩), .int .i64 0, .int .i64 0] := by rw [← hW]; exact Blk.new w3 #[.pointer (some ⟨ip, 0, none⟩), .pointer (some ⟨vp, 0, none⟩), .pointer (some ⟨cp, 0, none⟩), .int .i64 0, .int .i64 0] _
      rw [hW]
      refine .inr ⟨a, b, c, ha, hb, hc, ⟨⟨by omega, by omega⟩, ⟨by omega, by omega⟩, ⟨by omega, by omega⟩⟩, Fi, [cp, tb], w3.heap.size, ip, vp, vq, cp, rfl, ?_, ?_, ?_⟩
      · exact {
          blk := hblk
          ix := HIx.out.below hb4
          vec := ⟨cap, hV3.below hb4⟩
          ch := ⟨tb, none, 0, [], hC3.below hb4⟩
          pn := ⟨fun h => (by have := HIx.out.fin _ h; omega), fun h => (by simp at h; omega), by omega, by omega⟩
          vn := ⟨fun h => (by have := hnew _ h; omega), fun h => (by simp at h; omega), fun h => (by have := hnew _ h; omega), fun h => (by simp at h; omega)⟩
          cn := fun b h1 h2 => by have := hnew _ h1; simp at h2; omega }
      · intro x hx
        rcases mem_foot.1 hx with h | h | h | h | h
        · omega
        · omega
        · omega
        · have := hnew _ h; omega
        · simp at h; omega
      · exact ((Hb1.out.trans (Hb2.out.mono s1)).trans (Hb3.out.mono (by omega))).trans (hb4.mono (by omega))
end Go.Proofs.Ytnfbchhbcinloaa

/- What keeps a finder honest: whatever the summary and the cache, what is found is what the index has; plain. -/
namespace Go.FindPure
open Go Go.XR Go.IndexPure Go.CachePure
structure Inv (M : FinT) : Prop where
  nd : (M.D.map (·.1)).Nodup
  sum : SumOk M.bits M.Y
  may : ∀ k v, aget M.D k = some v → mayB M.bits M.probes M.Y k = true
  tab : ∀ s t, (s, t) ∈ M.C → ∀ k v, aget t k = some v ↔ aget M.D k = some v ∧ v.shelf = s.1
theorem cGet_some {C : CchT} {k : KeyT} {v : PlaceT} (h : cGet C k = some v) : ∃ s t, (s, t) ∈ C ∧ aget t k = some v := by
  unfold cGet at h
  obtain ⟨l1, x, l2, h1, h2, _⟩ := List.findSome?_eq_some_iff.1 h
  exact ⟨x.1, x.2, by rw [h1]; simp, h2⟩
theorem fFind_val {M : FinT} (h : Inv M) (k : KeyT) (draw : Nat) (L : List RowT) : (fFind M k draw L).1 = aget M.D k := by
  unfold fFind
  split
  · cases hc : cGet M.C k with
    | some v =>
      obtain ⟨s, t, hm, ht⟩ := cGet_some hc
      exact ((h.tab s t hm k v).1 ht).1.symm
    | none => cases hd : aget M.D k <;> rfl
  · rename_i hm
    cases hd : aget M.D k with
    | none => rfl
    | some v => exact absurd (h.may k v hd) hm
theorem shelf_aget {D L : List RowT} {s : Int} (hD : (D.map (·.1)).Nodup) (h : ShelfOf D s L) (k : KeyT) (v : PlaceT) : aget L k = some v ↔ aget D k = some v ∧ v.shelf = s := by
  have hL : (L.map (·.1)).Nodup := by
    have h1 : ((D.filter (onS s)).map (·.1)).Nodup := hD.sublist (List.filter_sublist.map _)
    exact (h.1.map (·.1)).nodup_iff.2 h1
  rw [aget_mem hL, aget_mem hD, h.1.mem_iff, List.mem_filter]
  unfold onS
  rw [decide_eq_true_iff]
theorem fFind_inv {M : FinT} (h : Inv M) (k : KeyT) (draw : Nat) (L : List RowT) (hL : mayB M.bits M.probes M.Y k = true → cGet M.C k = none → ∀ v, aget M.D k = some v → ShelfOf M.D v.shelf L) (hr : ∀ v, aget M.D k = some v → -9223372036854775808 ≤ v.shelf ∧ v.shelf ≤ 9223372036854775807) : Inv (fFind M k draw L).2 := by
  unfold fFind
  split
  · rename_i hm
    cases hc : cGet M.C k with
    | some v => exact h
    | none =>
      cases hd : aget M.D k with
      | none => exact ⟨h.nd, h.sum, h.may, h.tab⟩
      | some v =>
        refine ⟨h.nd, h.sum, h.may, fun s t hst => ?_⟩
        obtain ⟨s0, hs0⟩ : ∃ s0 : I64, v.shelf = s0.1 := ⟨⟨v.shelf, hr v hd⟩, rfl⟩
        have hsl := hL hm hc v hd
        have hst : (s, t) ∈ cLoad M.room M.C (mkI v.shelf) L draw := hst
        rw [hs0, mkI_val] at hst
        rw [hs0] at hsl
        show ∀ k v, aget t k = some v ↔ aget M.D k = some v ∧ v.shelf = s.1
        unfold cLoad at hst
        split at hst
        · exact h.tab s t hst
        · rcases List.mem_append.1 hst with h1 | h1
          · exact h.tab s t ((cEvict_sub _ _ _).subset h1)
          · rw [List.mem_singleton] at h1
            cases h1
            intro k v
            rw [aget_tabOf]
            exact shelf_aget h.nd hsl k v
  · exact h
theorem mem_delS {C : CchT} {z : Int} {x : I64 × TabT} : x ∈ delS C z ↔ x ∈ C ∧ x.1.1 ≠ z := by
  unfold delS; rw [List.mem_filter, decide_eq_true_iff]
theorem mem_forget {C : CchT} {D : List RowT} {k : KeyT} {x : I64 × TabT} : x ∈ cForget C D k ↔ x ∈ C ∧ ∀ u, aget D k = some u → x.1.1 ≠ u.shelf := by
  unfold cForget
  cases h : aget D k with
  | none => simp
  | some u =>
    rw [mem_delS]
    constructor
    · rintro ⟨h1, h2⟩; exact ⟨h1, fun u' h3 => by injection h3 with h3; rw [← h3]; exact h2⟩
    · rintro ⟨h1, h2⟩; exact ⟨h1, h2 u rfl⟩
theorem put_nd {D : List RowT} (h : (D.map (·.1)).Nodup) (k : KeyT) (v : PlaceT) : ((aput (adel D k) k v).map (·.1)).Nodup := aput_nodup (adel_nodup h k) k v
theorem aget_putdel (D : List RowT) (k k' : KeyT) (v : PlaceT) : aget (aput (adel D k) k v) k' = if k' = k then some v else aget D k' := by
  rw [aget_put, aget_del]
  by_cases e : k' = k
  · rw [if_pos e, if_pos e]
  · rw [if_neg e, if_neg e, if_neg e]
theorem fPut_inv {M : FinT} (h : Inv M) (k : KeyT) (v : PlaceT) : Inv (fPut M k v) := by
  refine ⟨put_nd h.nd k v, h.sum.add M.probes k, fun k' u hu => ?_, fun s t hst k' u => ?_⟩
  · show mayB M.bits M.probes (addB M.bits M.probes M.Y k) k' = true
    have hu : aget (aput (adel M.D k) k v) k' = some u := hu
    rw [aget_putdel] at hu
    by_cases e : k' = k
    · subst e; exact h.sum.may_add M.probes k'
    · rw [if_neg e] at hu
      exact may_mono (fun i _ hi => by rw [h.sum.bit_add, hi]; rfl) (h.may k' u hu)
  · have hst : (s, t) ∈ delS (cForget M.C M.D k) v.shelf := hst
    obtain ⟨h1, h2⟩ := mem_delS.1 hst
    obtain ⟨h3, h4⟩ := mem_forget.1 h1
    show aget t k' = some u ↔ aget (aput (adel M.D k) k v) k' = some u ∧ u.shelf = s.1
    rw [aget_putdel, h.tab s t h3 k' u]
    by_cases e : k' = k
    · subst e
      rw [if_pos rfl]
      constructor
      · rintro ⟨h5, h6⟩; exact absurd h6.symm (h4 u h5)
      · rintro ⟨h5, h6⟩; injection h5 with h5; rw [← h5] at h6; exact absurd h6.symm h2
    · rw [if_neg e]
theorem fDrop_inv {M : FinT} (h : Inv M) (k : KeyT) : Inv (fDrop M k) := by
  refine ⟨adel_nodup h.nd k, h.sum, fun k' u hu => ?_, fun s t hst k' u => ?_⟩
  · have hu : aget (adel M.D k) k' = some u := hu
    rw [aget_del] at hu
    by_cases e : k' = k
    · rw [if_pos e] at hu; cases hu
    · rw [if_neg e] at hu; exact h.may k' u hu
  · obtain ⟨h3, h4⟩ := mem_forget.1 hst
    show aget t k' = some u ↔ aget (adel M.D k) k' = some u ∧ u.shelf = s.1
    rw [aget_del, h.tab s t h3 k' u]
    by_cases e : k' = k
    · subst e
      rw [if_pos rfl]
      constructor
      · rintro ⟨h5, h6⟩; exact absurd h6.symm (h4 u h5)
      · rintro ⟨h5, _⟩; cases h5
    · rw [if_neg e]
theorem blur_inv {M : FinT} (h : Inv M) {b : List Nat} (hb : bytesOk b) : Inv { M with Y := blurB M.bits M.Y b } :=
  ⟨h.nd, h.sum.blur hb, fun k v hv => may_mono (fun i hi h1 => by rw [h.sum.bit_blur hi, h1]; rfl) (h.may k v hv), h.tab⟩
theorem foldl_sum {bits probes : Nat} (L : List RowT) : ∀ {Y : List Nat}, SumOk bits Y → SumOk bits (L.foldl (fun Y r => addB bits probes Y r.1) Y) ∧ (∀ i, bitAt Y i = true → bitAt (L.foldl (fun Y r => addB bits probes Y r.1) Y) i = true) ∧ ∀ r ∈ L, mayB bits probes (L.foldl (fun Y r => addB bits probes Y r.1) Y) r.1 = true := by
  induction L with
  | nil => intro Y h; exact ⟨h, fun _ h => h, fun r hr => by cases hr⟩
  | cons x L ih =>
    intro Y h
    obtain ⟨h1, h2, h3⟩ := ih (h.add probes x.1)
    refine ⟨h1, fun i hi => h2 i (by rw [h.bit_add, hi]; rfl), fun r hr => ?_⟩
    rcases List.mem_cons.1 hr with rfl | hr
    · exact may_mono (fun i _ hi => h2 i hi) (h.may_add probes r.1)
    · exact h3 r hr
end Go.FindPure

/- A finder as one thing; the examples; how chunks are looked for. -/
namespace Go.FindPure
open Go Go.XR Go.IndexPure Go.CachePure
def k4 : KeyT := ⟨Vector.replicate 32 0, 4⟩
def M04 : FinT := ⟨0, 0, 0, [], [], [(k4, ⟨1, 2⟩)], 0, 0⟩
end Go.FindPure
namespace Go.Proofs.Ytnfbchhbcinloaa
open Go.RowKit Go.XR Go.IndexPure Go.CachePure Go.FindPure
def FOn (w : World) (p : Nat) (F : List Nat) (M : FinT) : Prop := ∃ Fi Fc ip vp vq cp, FinC w Fi Fc p ip vp vq cp M ∧ F = foot p vp vq Fi Fc
/-- what a call leaves of it -/
def FTo (w : World) (p : Nat) (F : List Nat) (M' : FinT) (w' : World) : Prop := ∃ F', FOn w' p F' M' ∧ But F w w' ∧ Grew w F F'
section
variable {w w' : World} {p : Nat} {F G S : List Nat} {M : FinT}
theorem FOn.lt (h : FOn w p F M) : ∀ b ∈ F, b < w.heap.size := by
  obtain ⟨Fi, Fc, ip, vp, vq, cp, h1, rfl⟩ := h; exact h1.lt
theorem FOn.but (h : FOn w p F M) (hb : But S w w') (hS : ∀ b ∈ F, b ∉ S) : FOn w' p F M := by
  obtain ⟨Fi, Fc, ip, vp, vq, cp, h1, rfl⟩ := h; exact ⟨Fi, Fc, ip, vp, vq, cp, h1.but hb hS, rfl⟩
theorem FOn.below (h : FOn w p F M) (hb : Below w.heap.size w w') : FOn w' p F M := h.but (But.of_below (S := []) hb) (fun _ _ => by simp)
theorem FOn.rng (h : FOn w p F M) : ∀ k v, aget M.D k = some v → PlaceOk v := by
  obtain ⟨Fi, Fc, ip, vp, vq, cp, h1, rfl⟩ := h; exact h1.ix.rng
theorem FOn.nd (h : FOn w p F M) : (M.D.map (·.1)).Nodup := by
  obtain ⟨Fi, Fc, ip, vp, vq, cp, h1, rfl⟩ := h; exact h1.own.nd
theorem FSt.to {Fi Fc Fi' Fc' : List Nat} {ip vp vq cp : Nat} {M' : FinT} (h : FSt w (foot p vp vq Fi Fc) w' Fi' Fc' p ip vp vq cp M') : FTo w p (foot p vp vq Fi Fc) M' w' :=
  ⟨_, ⟨Fi', Fc', ip, vp, vq, cp, h.fin, rfl⟩, h.but, h.grew⟩
theorem dis_grew {F F' G : List Nat} (hd : ∀ b ∈ F, b ∉ G) (hg : Grew w F F') (hG : ∀ b ∈ G, b < w.heap.size) : ∀ b ∈ F', b ∉ G := fun b hb hm => by
  rcases hg b hb with h1 | h1
  · exact hd b h1 hm
  · have := hG b hm; omega
theorem base_grew {F F' : List Nat} {B : Nat} (hd : ∀ b ∈ F, B ≤ b) (hg : Grew w F F') (hB : B ≤ w.heap.size) : ∀ b ∈ F', B ≤ b := fun b hb => by
  rcases hg b hb with h1 | h1
  · exact hd b h1
  · omega
theorem fo_put (h : FOn w p F M) (hlen : M.D.length ≤ 2^20) (k : KeyT) (v : PlaceT) (hv : PlaceOk v) :
    Calls Try.prog 33 #[.pointer (some ⟨p, 0, none⟩), keyV k, placeV v] w fun e w' => e = .returned (.tuple #[]) ∧ FTo w p F (fPut M k v) w' := by
  obtain ⟨Fi, Fc, ip, vp, vq, cp, h1, rfl⟩ := h
  refine (fput_any w Fi Fc p ip vp vq cp M h1 hlen k v hv).mono ?_
  rintro e w' ⟨rfl, Fi', Fc', hs⟩
  exact ⟨rfl, hs.to⟩
theorem fo_drop (h : FOn w p F M) (hlen : M.D.length ≤ 2^20) (k : KeyT) :
    Calls Try.prog 42 #[.pointer (some ⟨p, 0, none⟩), keyV k] w fun e w' => e = .returned (.bool (aget M.D k).isSome) ∧ FTo w p F (fDrop M k) w' := by
  obtain ⟨Fi, Fc, ip, vp, vq, cp, h1, rfl⟩ := h
  refine (fdrop_any w Fi Fc p ip vp vq cp M h1 hlen k).mono ?_
  rintro e w' ⟨rfl, Fi', Fc', hs⟩
  exact ⟨rfl, hs.to⟩
theorem fo_find (h : FOn w p F M) (hlen : M.D.length ≤ 2^20) (ha : M.asked < 2^40) (hl : M.loaded < 2^40) (k : KeyT) (draw : Nat) (hd : draw < 18446744073709551616) :
    Calls Try.prog 34 #[.pointer (some ⟨p, 0, none⟩), keyV k, .int .u64 draw] w fun e w' => ∃ L, (mayB M.bits M.probes M.Y k = true → cGet M.C k = none → ∀ v, aget M.D k = some v → ShelfOf M.D v.shelf L) ∧ e = .returned (.tuple #[placeV ((fFind M k draw L).1.getD place0), .bool (fFind M k draw L).1.isSome]) ∧ FTo w p F (fFind M k draw L).2 w' := by
  obtain ⟨Fi, Fc, ip, vp, vq, cp, h1, rfl⟩ := h
  refine (ffind_any w Fi Fc p ip vp vq cp M h1 hlen ha hl k draw hd).mono ?_
  rintro e w' ⟨L, hL, rfl, Fi', Fc', hs⟩
  exact ⟨L, hL, rfl, hs.to⟩
theorem fo_cost (h : FOn w p F M) :
    Calls Try.prog 35 #[.pointer (some ⟨p, 0, none⟩)] w fun e w' => e = .returned (.tuple #[.int .i64 M.asked, .int .i64 M.loaded]) ∧ Below w.heap.size w w' := by
  obtain ⟨Fi, Fc, ip, vp, vq, cp, h1, rfl⟩ := h
  exact fcost_any w Fi Fc p ip vp vq cp M h1
theorem fo_len (h : FOn w p F M) : Calls Try.prog 39 #[.pointer (some ⟨p, 0, none⟩)] w (RetInt w M.D.length) := by
  obtain ⟨Fi, Fc, ip, vp, vq, cp, h1, rfl⟩ := h
  exact flen_any w Fi Fc p ip vp vq cp M h1
theorem fo_all (h : FOn w p F M) (hlen : M.D.length ≤ 2^20) : Calls Try.prog 38 #[.pointer (some ⟨p, 0, none⟩)] w fun e w' => ∃ L, AllOf M.D L ∧ RetRows w L e w' := by
  obtain ⟨Fi, Fc, ip, vp, vq, cp, h1, rfl⟩ := h
  exact fall_any w Fi Fc p ip vp vq cp M h1 hlen
theorem fo_shelf (h : FOn w p F M) (hlen : M.D.length ≤ 2^20) (s : Int) (hs : -9223372036854775808 ≤ s ∧ s ≤ 9223372036854775807) : Calls Try.prog 44 #[.pointer (some ⟨p, 0, none⟩), .int .i64 s] w fun e w' => ∃ L, ShelfOf M.D s L ∧ RetRows w L e w' := by
  obtain ⟨Fi, Fc, ip, vp, vq, cp, h1, rfl⟩ := h
  exact fshelf_any w Fi Fc p ip vp vq cp M h1 hlen s hs
theorem fo_blur (h : FOn w p F M) (a : Option Addr) (c : Nat) (b : List Nat) (hR : Row w a (b.map byV)) (hq : 0 < b.length → ∀ g o, a = some ⟨g, o, none⟩ → g ∉ F) (hok : bytesOk b) (hbl : b.length ≤ 2^40) :
    Calls Try.prog 41 #[.pointer (some ⟨p, 0, none⟩), .slice a b.length c] w fun e w' => e = .returned (.tuple #[]) ∧ FTo w p F { M with Y := blurB M.bits M.Y b } w' := by
  obtain ⟨Fi, Fc, ip, vp, vq, cp, h1, rfl⟩ := h
  refine (fblur_any w Fi Fc p ip vp vq cp M h1 a c b hR (fun hl g o h e => hq hl g o h (by rw [e]; exact mem_foot.2 (by simp))) hok hbl).mono ?_
  rintro e w' ⟨rfl, hs⟩
  exact ⟨rfl, hs.to⟩
theorem fo_anew (h : FOn w p F M) (hlen : M.D.length ≤ 2^20) :
    Calls Try.prog 40 #[.pointer (some ⟨p, 0, none⟩)] w fun e w' => e = .returned (.tuple #[]) ∧ ∃ L, AllOf M.D L ∧ FTo w p F { M with Y := anewB M.bits M.probes L } w' := by
  obtain ⟨Fi, Fc, ip, vp, vq, cp, h1, rfl⟩ := h
  refine (fanew_any w Fi Fc p ip vp vq cp M h1 hlen).mono ?_
  rintro e w' ⟨rfl, L, hL, hs⟩
  exact ⟨rfl, L, hL, hs.to⟩
theorem RetFNew.on {bits probes room : Int} {e : Ending} (h : RetFNew w bits probes room e w') : (¬ finOk bits probes room ∧ e = .returned (.tuple #[.pointer none, .int .i64 1]) ∧ Below w.heap.size w w') ∨
    (∃ a b c : Nat, bits = a ∧ probes = b ∧ room = c ∧ finOk bits probes room ∧ ∃ p F, e = .returned (.tuple #[.pointer (some ⟨p, 0, none⟩), .int .i64 0]) ∧ FOn w' p F (fin0 a b c) ∧ (∀ x ∈ F, w.heap.size ≤ x) ∧ Below w.heap.size w w') := by
  rcases h with h | ⟨a, b, c, h1, h2, h3, h4, Fi, Fc, p, ip, vp, vq, cp, h5, h6, h7, h8⟩
  · exact .inl h
  · exact .inr ⟨a, b, c, h1, h2, h3, h4, p, _, h5, ⟨Fi, Fc, ip, vp, vq, cp, h6, rfl⟩, h7, h8⟩
theorem anew_inv (h : Inv M) {L : List RowT} (hL : AllOf M.D L) : Inv { M with Y := anewB M.bits M.probes L } := by
  have h1 := foldl_sum (probes := M.probes) L (SumOk.zero M.bits)
  have e : L.foldl (fun Y r => addB M.bits M.probes Y r.1) (List.replicate ((M.bits + 7) / 8) 0) = anewB M.bits M.probes L := rfl
  rw [e] at h1
  generalize anewB M.bits M.probes L = Y at *
  exact { nd := h.nd, sum := h1.1, may := fun k v hv => h1.2.2 (k, v) (hL.1.mem_iff.2 ((aget_mem h.nd).1 hv)), tab := h.tab }
theorem fin0_inv (a b c : Nat) : Inv (fin0 a b c) := ⟨List.nodup_nil, SumOk.zero a, fun k v h => (by cases h), fun s t h => by cases h⟩
end
theorem put04 : fPut (fin0 0 0 0) k4 ⟨1, 2⟩ = M04 := by kernel_rfl
theorem find04 (L : List RowT) : fFind M04 k4 0 L = (some ⟨1, 2⟩, { M04 with asked := 1, loaded := 1 }) := by kernel_rfl
theorem may64 : mayB 64 3 (List.replicate 8 0) k4 = false := by kernel_rfl
theorem find64 (L : List RowT) : fFind (fin0 64 3 1) k4 0 L = (none, fin0 64 3 1) := by
  unfold fFind
  rw [if_neg]
  intro h
  have h2 : mayB 64 3 (List.replicate 8 0) k4 = true := h
  rw [may64] at h2; cases h2
end Go.Proofs.Ytnfbchhbcinloaa

/- The walks over right and over the examples. -/
namespace Go.FindPure
def modF (n m : Int) : Int := (if n < 0 then -(n + 1) else n) % m
theorem modF_b (n : Int) {m : Int} (h : 0 < m) : 0 ≤ modF n m ∧ modF n m < m := by
  unfold modF
  exact ⟨Int.emod_nonneg _ (by omega), Int.emod_lt_of_pos _ h⟩
end Go.FindPure
namespace Go.Proofs.Ytnfbchhbcinloaa
open Go.RowKit Go.XR Go.IndexPure Go.CachePure Go.FindPure
set_option maxHeartbeats 1000000 in
set_option maxRecDepth 100000 in
theorem mod_any (w : World) (n m : Int) (hn : -9223372036854775808 ≤ n ∧ n ≤ 9223372036854775807) (hm : 0 < m ∧ m ≤ 100000) :
    Calls Try.prog 55 #[.int .i64 n, .int .i64 m] w fun e w' => e = .returned (.int .i64 (modF n m)) ∧ w' = w := by
  have hm0 : ¬ m = 0 := by omega
  by_cases h : n < 0
  · have e : modF n m = (-(n + 1)) % m := by unfold modF; rw [if_pos h]
    have e1 := Int.emod_lt_of_pos (-(n + 1)) hm.1
    have e2 := Int.emod_nonneg (-(n + 1)) hm0
    have e3 : (-(n + 1)).tmod m = (-(n + 1)) % m := Int.tmod_eq_emod_of_nonneg (by omega)
    have E := Lib.hid e
    clear e
    go_enter Try.func55, Try.ntmps55
    go_wp2
    go_ret
    exact ⟨by rw [E.out]; rfl, rfl⟩
  · have e : modF n m = n % m := by unfold modF; rw [if_neg h]
    have e1 := Int.emod_lt_of_pos n hm.1
    have e2 := Int.emod_nonneg n hm0
    have e3 : n.tmod m = n % m := Int.tmod_eq_emod_of_nonneg (by omega)
    have E := Lib.hid e
    clear e
    go_enter Try.func55, Try.ntmps55
    go_wp2
    go_ret
    exact ⟨by rw [E.out]; rfl, rfl⟩
def howC (a b c : Int) : Array Value := #[.int .i64 a, .int .i64 b, .int .i64 c]
set_option maxHeartbeats 1000000 in
set_option maxRecDepth 100000 in
theorem right_any (w : World) (a b c : Int) (ha : -9223372036854775808 ≤ a ∧ a ≤ 9223372036854775807) (hb : -9223372036854775808 ≤ b ∧ b ≤ 9223372036854775807) (hc : -9223372036854775808 ≤ c ∧ c ≤ 9223372036854775807) :
    Calls Try.prog 31 #[.agg (howC a b c)] w fun e w' => e = .returned (.agg (howC (modF a 2001) (modF b 31) (modF c 20))) ∧ Below w.heap.size w w' := by
  obtain ⟨W0, hW0⟩ : ∃ W0, (w.alloc (.cells #[.int .i64 a, .int .i64 b, .int .i64 c] 58)).alloc (.cells #[.int .i64 0, .int .i64 0, .int .i64 0] 58) = W0 := ⟨_, rfl⟩
  have hb0 : Below w.heap.size w W0 := by rw [← hW0]; exact ((Below.refl _ _).alloc (Nat.le_refl _) _).alloc (by simp) _
  have HH : Hid (Blk W0 w.heap.size [.int .i64 a, .int .i64 b, .int .i64 c]) := by
    unfold Hid; rw [← hW0]
    exact (Blk.new w #[.int .i64 a, .int .i64 b, .int .i64 c] 58).below ((Below.refl _ _).alloc (Nat.le_refl _) _)
  have HR : Hid (Blk W0 (w.heap.size + 1) [.int .i64 0, .int .i64 0, .int .i64 0]) := by
    unfold Hid; rw [← hW0]
    have h := Blk.new (w.alloc (.cells #[.int .i64 a, .int .i64 b, .int .i64 c] 58)) #[.int .i64 0, .int .i64 0, .int .i64 0] 58
    rwa [show (w.alloc (.cells #[.int .i64 a, .int .i64 b, .int .i64 c] 58)).heap.size = w.heap.size + 1 by simp] at h
  have Hb0 := Lib.hid hb0
  clear hb0
  obtain ⟨kb, hkb⟩ : ∃ kb, w.heap.size = kb := ⟨_, rfl⟩
  have Hkb := Lib.hid hkb
  rw [hkb] at HH HR
  obtain ⟨rb, hrb⟩ : ∃ rb, kb + 1 = rb := ⟨_, rfl⟩
  rw [hrb] at HR
  have Hrb : Hid (kb ≤ rb) := by unfold Hid; omega
  have c0 := HH.out.cell (i := 0) rfl
  have c1 := HH.out.cell (i := 1) rfl
  have c2 := HH.out.cell (i := 2) rfl
  have hkn := HH.out.lt
  unfold howC
  go_enter Try.func31, Try.ntmps31
  go_wp2
  clear hW0 hkb hrb
  have hS0 : Below W0.heap.size W0 W0.drew := (Below.refl _ _).drew
  refine Go.XR.region_sched ((Below W0.heap.size W0)) [(0, true), (1, true), (2, true), (4, true), (5, true), (6, true), (8, true), (9, true), (10, true), (3, false), (7, false), (11, false), (12, false), (13, false)] [11, 12, 13] Try.mixed (by kernel_rfl) (by kernel_rfl) (by kernel_rfl) ?_
  simp only [List.map_cons, List.map_nil, List.getElem?_cons_succ, List.getElem?_cons_zero]
  repeat (first | (refine Go.XR.S_light rfl rfl (by assumption) ?_ (fun w' hS K hK => ?_) (fun K hK => ?_); rotate_left 1; (have hS1 := bcell hS; go_step; exact hK); go_step; refine hK _ ?_; clear hK K))
  refine Go.XR.S_heavy (fun K hK => ?_)
  go_step
  ((with_reducible refine ((mod_any W0.drew a 2001 ha (by omega))).mono ?_); rintro e w' ⟨rfl, hw⟩)
  rw [hw]
  clear hw
  refine hK _ _ ⟨fun _ => hS0, ?_⟩
  clear hK K
  repeat (first | (refine Go.XR.S_light rfl rfl (by assumption) ?_ (fun w' hS K hK => ?_) (fun K hK => ?_); rotate_left 1; (have hS1 := bcell hS; go_step; exact hK); go_step; refine hK _ ?_; clear hK K))
  refine Go.XR.S_heavy (fun K hK => ?_)
  go_step
  ((with_reducible refine ((mod_any W0.drew b 31 hb (by omega))).mono ?_); rintro e w' ⟨rfl, hw⟩)
  rw [hw]
  clear hw
  refine hK _ _ ⟨fun _ => hS0, ?_⟩
  clear hK K
  repeat (first | (refine Go.XR.S_light rfl rfl (by assumption) ?_ (fun w' hS K hK => ?_) (fun K hK => ?_); rotate_left 1; (have hS1 := bcell hS; go_step; exact hK); go_step; refine hK _ ?_; clear hK K))
  refine Go.XR.S_heavy (fun K hK => ?_)
  go_step
  ((with_reducible refine ((mod_any W0.drew c 20 hc (by omega))).mono ?_); rintro e w' ⟨rfl, hw⟩)
  rw [hw]
  clear hw
  refine hK _ _ ⟨fun h => by simp at h, ?_⟩
  clear hK K
  repeat (first | (refine Go.XR.S_light rfl rfl (by assumption) ?_ (fun w' hS K hK => ?_) (fun K hK => ?_); rotate_left 1; (have hS1 := bcell hS; go_step; exact hK); go_step; refine hK _ ?_; clear hK K))
  obtain ⟨x, hx⟩ : ∃ x, modF a 2001 = x := ⟨_, rfl⟩
  obtain ⟨y, hy⟩ : ∃ x, modF b 31 = x := ⟨_, rfl⟩
  obtain ⟨z, hz⟩ : ∃ x, modF c 20 = x := ⟨_, rfl⟩
  have Hxyz : Hid (modF a 2001 = x ∧ modF b 31 = y ∧ modF c 20 = z) := ⟨hx, hy, hz⟩
  rw [hx, hy, hz]
  clear hx hy hz c0 c1 c2
  have r0 := HR.out.cell (i := 0) rfl
  have r1 := HR.out.cell (i := 1) rfl
  have r2 := HR.out.cell (i := 2) rfl
  have f0 := HR.out.free 0
  have f1 := HR.out.free 1
  have f2 := HR.out.free 2
  repeat (first | (refine Go.XR.S_heavy (fun K hK => ?_); go_step; refine hK _ _ ⟨fun h => by simp at h, ?_⟩; clear hK K))
  refine Go.XR.S_nil ?_
  go_wp2
  (try simp only [Exit.inBlock, Exit.then])
  obtain ⟨T, hT⟩ : Blk (((W0.setCell ⟨rb, 0, none⟩ (.int .i64 x)).setCell ⟨rb, 1, none⟩ (.int .i64 y)).setCell ⟨rb, 2, none⟩ (.int .i64 z)).drew rb [.int .i64 x, .int .i64 y, .int .i64 z] := (((HR.out.set 0 (.int .i64 x)).set 1 (.int .i64 y)).set 2 (.int .i64 z)).below (Below.refl _ _).drew
  refine bodyPost_ret (results_cell_row rfl _ _ rb T _ (0, 0) _ rfl hT Try.underlying58 rfl (by kernel_rfl)) rfl ?_
  obtain ⟨h1, h2, h3⟩ := Hxyz.out
  rw [h1, h2, h3]
  refine ⟨rfl, Hb0.out.trans (((((But.refl [rb] W0).setCell (.inl (by simp)) _).setCell (.inl (by simp)) _).setCell (.inl (by simp)) _).drew.below Hb0.out.size (by rw [Hkb.out]; have := Hrb.out; simpa using this))⟩
theorem ok12 : PlaceOk ⟨1, 2⟩ := by unfold PlaceOk; decide
set_option maxHeartbeats 4000000 in
set_option maxRecDepth 100000 in
theorem shown15_any (w : World) : Calls Try.prog 30 #[] w (RetBool w true) := by
  go_enter Try.func30, Try.ntmps30
  go_wp2_with fail
  refine (fnew_any w 0 0 0).mono ?_
  intro e w1 h1
  rcases h1.on with ⟨hbad, _⟩ | ⟨a, b, c, ha, hb, hc, _, p, F, rfl, hF, hFB, hb1⟩
  · exact absurd (by unfold finOk; decide) hbad
  obtain rfl : a = 0 := by omega
  obtain rfl : b = 0 := by omega
  obtain rfl : c = 0 := by omega
  have HF := Lib.hid hF
  have HFB := Lib.hid hFB
  have Hb1 := Lib.hid hb1
  clear h1 ha hb hc hF hFB hb1
  go_wp2_with fail
  refine (fnew_any w1 64 3 1).mono ?_
  intro e w2 h2
  rcases h2.on with ⟨hbad, _⟩ | ⟨a, b, c, ha, hb, hc, _, q, G, rfl, hG, hGB, hb2⟩
  · exact absurd (by unfold finOk; decide) hbad
  obtain rfl : a = 64 := by omega
  obtain rfl : b = 3 := by omega
  obtain rfl : c = 1 := by omega
  have HF2 := Lib.hid (HF.out.below hb2)
  have HG := Lib.hid hG
  have Hdis : Hid (∀ b ∈ F, b ∉ G) := fun b h1 h2 => by have := HF.out.lt b h1; have := hGB b h2; omega
  have HGB : Hid (∀ b ∈ G, w.heap.size ≤ b) := fun b h => Nat.le_trans Hb1.out.size (hGB b h)
  have Hb2 := Lib.hid (Hb1.out.trans (hb2.mono Hb1.out.size))
  clear h2 ha hb hc hG hGB hb2 HF Hb1
  go_wp2_with fail
  refine (fo_put HF2.out (by decide) k4 ⟨1, 2⟩ ok12).mono ?_
  rintro e w3 ⟨rfl, F3, hF3, hb3, hg3⟩
  rw [put04] at hF3
  have HF3 := Lib.hid hF3
  have HG3 := Lib.hid (HG.out.but hb3 (fun b h1 h2 => Hdis.out b h2 h1))
  have Hd3 := Lib.hid (dis_grew Hdis.out hg3 HG.out.lt)
  have HFB3 := Lib.hid (base_grew HFB.out hg3 Hb2.out.size)
  have Hb3 := Lib.hid (Hb2.out.trans (hb3.below Hb2.out.size HFB.out))
  clear hF3 hb3 hg3 HF2 HG Hdis HFB Hb2
  go_wp2_with fail
  refine (fo_find HF3.out (by decide) (by decide) (by decide) k4 0 (by decide)).mono ?_
  rintro e w4 ⟨L, _, rfl, hto⟩
  rw [find04] at hto ⊢
  obtain ⟨F4, hF4, hb4, hg4⟩ := hto
  rw [show placeV ((some (⟨1, 2⟩ : PlaceT)).getD place0) = .agg #[.int .i64 1, .int .i64 2] from rfl]
  have HF4 := Lib.hid hF4
  have HG4 := Lib.hid (HG3.out.but hb4 (fun b h1 h2 => Hd3.out b h2 h1))
  have Hd4 := Lib.hid (dis_grew Hd3.out hg4 HG3.out.lt)
  have HFB4 := Lib.hid (base_grew HFB3.out hg4 Hb3.out.size)
  have Hb4 := Lib.hid (Hb3.out.trans (hb4.below Hb3.out.size HFB3.out))
  clear hF4 hb4 hg4 HF3 HG3 Hd3 HFB3 Hb3
  go_wp2_with fail
  have hb5 : Below w4.heap.size w4 (w4.alloc (.cells #[.int .i64 1, .int .i64 2] 33)) := (Below.refl _ _).alloc (Nat.le_refl _) _
  have HP5 : Hid (Blk (w4.alloc (.cells #[.int .i64 1, .int .i64 2] 33)) w4.heap.size [.int .i64 1, .int .i64 2]) := Blk.new w4 #[.int .i64 1, .int .i64 2] _
  have HPG : Hid (w4.heap.size ∉ G) := fun h => by have := HG4.out.lt _ h; omega
  obtain ⟨pb, hpb⟩ : ∃ pb, w4.heap.size = pb := ⟨_, rfl⟩
  have HF5 := Lib.hid (HF4.out.below hb5)
  have HG5 := Lib.hid (HG4.out.below hb5)
  have Hb5 := Lib.hid (Hb4.out.trans (hb5.mono Hb4.out.size))
  rw [hpb] at HP5 HPG ⊢
  generalize w4.alloc (.cells #[.int .i64 1, .int .i64 2] 33) = w5 at *
  clear hb5 hpb HF4 HG4 Hb4
  refine (fo_cost HF5.out).mono ?_
  rintro e w6 ⟨rfl, hb6⟩
  have HG6 := Lib.hid (HG5.out.below hb6)
  have HP6 := Lib.hid (HP5.out.below hb6)
  have Hb6 := Lib.hid (Hb5.out.trans (hb6.mono Hb5.out.size))
  clear hb6 HF5 HG5 HP5 Hb5
  go_wp2_with fail
  refine (fo_find HG6.out (by decide) (by decide) (by decide) k4 0 (by decide)).mono ?_
  rintro e w7 ⟨L2, _, rfl, hto⟩
  rw [find64] at hto ⊢
  obtain ⟨G7, hG7, hb7, hg7⟩ := hto
  rw [show placeV ((none : Option PlaceT).getD place0) = .agg #[.int .i64 0, .int .i64 0] from rfl]
  have HG7 := Lib.hid hG7
  have HP7 := Lib.hid (HP6.out.but hb7 HPG.out)
  have Hb7 := Lib.hid (Hb6.out.trans (hb7.below Hb6.out.size HGB.out))
  clear hG7 hb7 hg7 HG6 HP6 Hb6
  go_wp2_with fail
  have hb8 : Below w7.heap.size w7 (w7.alloc (.cells #[.int .i64 0, .int .i64 0] 33)) := (Below.refl _ _).alloc (Nat.le_refl _) _
  have HG8 := Lib.hid (HG7.out.below hb8)
  have HP8 := Lib.hid (HP7.out.below hb8)
  have Hb8 := Lib.hid (Hb7.out.trans (hb8.mono Hb7.out.size))
  generalize w7.alloc (.cells #[.int .i64 0, .int .i64 0] 33) = w8 at *
  clear hb8 HG7 HP7 Hb7
  refine (fo_cost HG8.out).mono ?_
  rintro e w9 ⟨rfl, hb9⟩
  have HP9 := Lib.hid (HP8.out.below hb9)
  have Hb9 := Lib.hid (Hb8.out.trans (hb9.mono Hb8.out.size))
  clear hb9 HP8 HG8 Hb8
  have c0 := HP9.out.cell (i := 0) rfl
  have c1 := HP9.out.cell (i := 1) rfl
  go_wp2
  go_ret
  exact ⟨rfl, Hb9.out⟩
end Go.Proofs.Ytnfbchhbcinloaa

/- Opening arguments: how chunks are looked for, rows. -/
namespace Go.Proofs.Ytnfbchhbcinloaa
open Go.RowKit Go.XR Go.IndexPure Go.CachePure Go.FindPure
theorem how_leafs : (leafs Try.prog 8 58).getD [] = [.int .i64, .int .i64, .int .i64] := by kernel_rfl
theorem how_agg {cs : Array Value} (hf : Fits ((leafs Try.prog 8 58).getD []) cs.toList) : ∃ a b c : I64, cs = howC a.1 b.1 c.1 := by
  rw [how_leafs] at hf
  obtain ⟨l⟩ := cs
  simp only at hf
  obtain _ | ⟨⟨x, rfl, hx⟩, h2⟩ := hf
  obtain _ | ⟨⟨y, rfl, hy⟩, h2⟩ := h2
  obtain _ | ⟨⟨z, rfl, hz⟩, h2⟩ := h2
  cases h2
  have b1 := bounds_i64 hx
  have b2 := bounds_i64 hy
  have b3 := bounds_i64 hz
  exact ⟨⟨x, by omega⟩, ⟨y, by omega⟩, ⟨z, by omega⟩, rfl⟩
theorem row_leafs : (leafs Try.prog 8 35).getD [] = List.replicate 32 (.int .u8) ++ [.int .u32] ++ [.int .i64, .int .i64] := by kernel_rfl
theorem row_fits : ∀ cs, Fits ((leafs Try.prog 8 35).getD []) cs → ∃ r : RowS, rowL r.1 = cs := by
  rw [row_leafs]
  intro cs hf
  obtain ⟨x, y, rfl, h1, h2⟩ := fits_split hf
  rw [← key_leafs] at h1
  obtain ⟨k, rfl⟩ := key_fits _ h1
  obtain _ | ⟨⟨z, rfl, hz⟩, h2⟩ := h2
  obtain _ | ⟨⟨u, rfl, hu⟩, h2⟩ := h2
  cases h2
  have hb1 := bounds_i64 hz
  have hb2 := bounds_i64 hu
  exact ⟨⟨(k, ⟨z, u⟩), ⟨by omega, by omega⟩⟩, rfl⟩
theorem row_len (r : RowS) : (rowL r.1).length = ((leafs Try.prog 8 35).getD []).length := by
  rw [row_leafs, rowL_length]; rfl
theorem row_agg {cs : Array Value} (hf : Fits ((leafs Try.prog 8 35).getD []) cs.toList) : ∃ r : RowS, cs = rowC r.1 := by
  obtain ⟨r, hr⟩ := row_fits _ hf
  exact ⟨r, by unfold rowC; rw [hr]⟩
end Go.Proofs.Ytnfbchhbcinloaa

/- Slices whose elements hold slices, as lists of what each reads as. -/
namespace Go.XR
open Go Go.RowKit
section
variable {H : Type} {enc : TypeId × Value → H} {P : Program} {w : World} {base : Nat} {spare : Nat → Bool} {held : Bool}
/-- a slice of elements, as a list of what each reads as; Q: what else is known of an element's memory -/
theorem slice_rel {α : Type} (cell : α → List Value) (Q : α → Prop) {N : Nat} {t e : TypeId} (hα : ∀ m cs x, DataW.trod enc P w base spare held m e cs = some x → ∃ y, cell y = cs ∧ Q y) (hlen : ∀ x, (cell x).length = N) {a : Option Addr} {len cap : Nat} {d : DataW H} {ps : List MemPlace}
    (ht : P.underlying t = some (.slice e)) (hpos : 0 < N) (hc : P.cellsOf e = N)
    (hd : DataW.Trod enc P w base spare held t (.slice a len cap) d ps) : ∃ L : List α, L.length = len ∧ Row w a (L.flatMap cell) ∧ (∀ y ∈ L, Q y) ∧ len ≤ cap ∧ cap ≤ maxLen := by
  obtain ⟨fuel, h⟩ := hd
  rcases Deep.open_slice ht h with ⟨hcs, _⟩ | ⟨x, len', cap', m, n, D, Pl, hcs, _, hle, hcm, hm, _, hall⟩
  · simp [Value.cells] at hcs
    obtain ⟨rfl, rfl, rfl⟩ := hcs
    exact ⟨[], rfl, .inl rfl, (fun y hy => by cases hy), Nat.le_refl _, Nat.zero_le _⟩
  · simp [Value.cells] at hcs
    obtain ⟨rfl, rfl, rfl⟩ := hcs
    have hlm : len ≤ m := by rw [hm]; split <;> omega
    have hx : ∀ i, i < len → ∃ y : α, Q y ∧ ∀ j u, (cell y)[j]? = some u → w.cell? ((x.add (i * N)).add j) = some u := fun i hi => by
      obtain ⟨cs', h1, h2⟩ := hall i (by omega)
      obtain ⟨y, hy, hq⟩ := hα n cs' _ h2
      obtain ⟨_, h4, h5⟩ := World.cells?_some h1
      refine ⟨y, hq, fun j u hj => ?_⟩
      rw [hy] at hj
      have hjl := (List.getElem?_eq_some_iff.1 hj).1
      rw [← hc, h5 j (by omega)]
      exact hj
    have hL : ∀ k, k ≤ len → ∃ L : List α, L.length = k ∧ (∀ y ∈ L, Q y) ∧ ∀ j u, (L.flatMap cell)[j]? = some u → w.cell? (x.add j) = some u := by
      intro k
      induction k with
      | zero => intro _; exact ⟨[], rfl, (fun y hy => by cases hy), fun j u h => by simp at h⟩
      | succ k ih =>
        intro hk
        obtain ⟨L, hL1, hLq, hL2⟩ := ih (by omega)
        obtain ⟨y, hq, hy⟩ := hx k (by omega)
        have hfl : (L.flatMap cell).length = k * N := by
          rw [← hL1]
          clear hL1 hL2 hLq
          induction L with
          | nil => simp
          | cons z L ih => rw [List.flatMap_cons, List.length_append, ih, hlen, List.length_cons, Nat.add_mul]; omega
        refine ⟨L ++ [y], by simp [hL1], (fun z hz => by
          rcases List.mem_append.1 hz with h | h
          · exact hLq z h
          · rw [List.mem_singleton] at h; subst h; exact hq), fun j u hj => ?_⟩
        rw [List.flatMap_append, List.flatMap_cons, List.flatMap_nil, List.append_nil] at hj
        by_cases hjl : j < (L.flatMap cell).length
        · rw [List.getElem?_append_left hjl] at hj
          exact hL2 j u hj
        · rw [List.getElem?_append_right (by omega), hfl] at hj
          have := hy _ u hj
          rw [Deep.add_add] at this
          rw [show k * N + (j - k * N) = j from by omega] at this
          exact this
    obtain ⟨L, hL1, hLq, hL2⟩ := hL len (Nat.le_refl _)
    refine ⟨L, hL1, ?_, hLq, hle, hcm⟩
    cases L with
    | nil => exact .inl rfl
    | cons y L =>
      right
      have hne : 0 < ((y :: L).flatMap cell).length := by rw [List.flatMap_cons, List.length_append, hlen]; omega
      obtain ⟨u0, hu0⟩ : ∃ u, ((y :: L).flatMap cell)[0]? = some u := ⟨_, List.getElem?_eq_getElem hne⟩
      have h0 := hL2 0 u0 hu0
      have hsp : x.spot = none := by
        cases hs : x.spot with
        | none => rfl
        | some _ =>
          simp only [Addr.add, if_true, World.cell?, hs] at h0
          split at h0 <;> simp at h0
      obtain ⟨g, o, sp⟩ := x
      simp only at hsp
      subst hsp
      refine ⟨g, o, rfl, fun j u hj => ?_⟩
      have := hL2 j u hj
      have hadd : (⟨g, o, none⟩ : Addr).add j = ⟨g, o + j, none⟩ := by unfold Addr.add; split <;> simp_all
      rwa [hadd] at this
end
end Go.XR

/- Acts of a finder as cells; the walks over few and does. -/
namespace Go.FindPure
open Go Go.XR Go.IndexPure Go.CachePure
def dStep (D : List RowT) (kind : Nat) (k : KeyT) (v : PlaceT) : List RowT :=
  if kind % 5 = 0 then aput (adel D k) k v else if kind % 5 = 1 then adel D k else D
/-- what an act but a search does -/
structure DoesOk (M : FinT) (kind : Nat) (k : KeyT) (v : PlaceT) (M' : FinT) : Prop where
  inv : Inv M → Inv M'
  d : M'.D = dStep M.D kind k v
  asked : M'.asked = M.asked
  loaded : M'.loaded = M.loaded
end Go.FindPure
namespace Go.Proofs.Ytnfbchhbcinloaa
open Go.RowKit Go.XR Go.IndexPure Go.CachePure Go.FindPure
structure FActT where
  kind : Nat
  key : KeyT
  place : PlaceT
  draw : Nat
  ba : Option Addr
  bc : Nat
  b : List Nat
  hk : kind < 256
  ok : PlaceOk place
  hd : draw < 18446744073709551616
  hb : bytesOk b
def factL (a : FActT) : List Value := .int .u8 (a.kind : Int) :: (rowL (a.key, a.place) ++ [.int .u64 (a.draw : Int), .slice a.ba a.b.length a.bc])
def factC (a : FActT) : Array Value := (factL a).toArray
theorem factL_length (a : FActT) : (factL a).length = 38 := by unfold factL; rw [List.length_cons, List.length_append, rowL_length]; rfl
theorem factC_size (a : FActT) : (factC a).size = 38 := by unfold factC; rw [List.size_toArray, factL_length]
theorem one_factL (a : FActT) : ∀ v ∈ factL a, v.oneCell' = true := by
  intro v hv
  unfold factL at hv
  rcases List.mem_cons.1 hv with rfl | h
  · rfl
  · rcases List.mem_append.1 h with h | h
    · exact one_rowL _ v h
    · simp at h
      rcases h with rfl | rfl <;> rfl
/-- what is known of an act's bytes -/
def FActQ (W : World) (a : FActT) : Prop := Row W a.ba (a.b.map byV) ∧ a.b.length ≤ a.bc ∧ a.bc ≤ maxLen
theorem bounds_u8 {n : Int} (h : (Lit.int .u8 n).wf = true) : 0 ≤ n ∧ n ≤ 255 := by
  have h1 : IntKind.u8.min = 0 := by decide
  have h2 : IntKind.u8.max = 255 := by decide
  simp only [Lit.wf, h1, h2, Bool.and_eq_true, decide_eq_true_eq] at h
  exact h
theorem bounds_u64 {n : Int} (h : (Lit.int .u64 n).wf = true) : 0 ≤ n ∧ n ≤ 18446744073709551615 := by
  have h1 : IntKind.u64.min = 0 := by decide
  have h2 : IntKind.u64.max = 18446744073709551615 := by decide
  simp only [Lit.wf, h1, h2, Bool.and_eq_true, decide_eq_true_eq] at h
  exact h
section
variable {H : Type} {enc : TypeId × Value → H} {w : World} {base : Nat} {spare : Nat → Bool} {held : Bool}
theorem byte_read : ∀ (m : Nat) (cs : List Value) (x : DataW H × List MemPlace), DataW.trod enc Try.prog w base spare held m 5 cs = some x → ∃ y : Nat, [byV y] = cs ∧ y < 256 := by
  intro m cs x h
  obtain ⟨n, rfl, _, hn⟩ := DataW.trod_int Try.underlying5 h
  have := bounds_u8 hn
  exact ⟨n.toNat, by unfold byV; rw [Int.toNat_of_nonneg this.1], by omega⟩
theorem cells4 {cs : List Value} (h : cs.length = 38) : cs = (cs.drop 0).take 1 ++ ((cs.drop 1).take 35 ++ ((cs.drop 36).take 1 ++ (cs.drop 37).take 1)) := by
  have e1 : (cs.drop 37).take 1 = cs.drop 37 := List.take_of_length_le (by rw [List.length_drop]; omega)
  rw [e1]
  have e2 : (cs.drop 36).take 1 ++ cs.drop 37 = cs.drop 36 := by
    have := List.take_append_drop 1 (cs.drop 36)
    rwa [List.drop_drop] at this
  rw [e2]
  have e3 : (cs.drop 1).take 35 ++ cs.drop 36 = cs.drop 1 := by
    have := List.take_append_drop 35 (cs.drop 1)
    rwa [List.drop_drop] at this
  rw [e3, List.drop_zero]
  exact (List.take_append_drop 1 cs).symm
theorem fact_read : ∀ (m : Nat) (cs : List Value) (x : DataW H × List MemPlace), DataW.trod enc Try.prog w base spare held m 74 cs = some x → ∃ y, factL y = cs ∧ FActQ w y := by
  intro m cs x h
  obtain ⟨xs, n, rfl, rfl, hlen, hxl, hall⟩ := DataW.trod_struct Try.underlying74 h
  have hcs : cs.length = 38 := hlen.trans (by kernel_rfl)
  have hx4 : xs.length = 4 := hxl
  have g0 : DataW.trod enc Try.prog w base spare held n 5 ((cs.drop 0).take (Try.prog.cellsOf 5)) = some xs[0] := (hall 0 _ rfl).trans (List.getElem?_eq_getElem (by omega))
  have g1 : DataW.trod enc Try.prog w base spare held n 35 ((cs.drop 1).take (Try.prog.cellsOf 35)) = some xs[1] := (hall 1 _ rfl).trans (List.getElem?_eq_getElem (by omega))
  have g2 : DataW.trod enc Try.prog w base spare held n 66 ((cs.drop 36).take (Try.prog.cellsOf 66)) = some xs[2] := (hall 2 _ rfl).trans (List.getElem?_eq_getElem (by omega))
  have g3 : DataW.trod enc Try.prog w base spare held n 72 ((cs.drop 37).take (Try.prog.cellsOf 72)) = some xs[3] := (hall 3 _ rfl).trans (List.getElem?_eq_getElem (by omega))
  obtain ⟨k, hk, _, hkw⟩ := DataW.trod_int Try.underlying5 g0
  have hr := trod_flat 8 n _ _ _ _ (show leafs Try.prog 8 35 = some ((leafs Try.prog 8 35).getD []) by kernel_rfl) g1
  obtain ⟨r, hr⟩ := row_fits _ hr
  obtain ⟨d, hd, _, hdw⟩ := DataW.trod_int Try.underlying66 g2
  have hsl : ∃ (a : Option Addr) (l c : Nat), (cs.drop 37).take (Try.prog.cellsOf 72) = [.slice a l c] := by
    rcases Deep.open_slice Try.underlying72 g3 with ⟨h0, _⟩ | ⟨a, l, c, _, _, _, _, h0, _⟩
    · exact ⟨none, 0, 0, h0⟩
    · exact ⟨some a, l, c, h0⟩
  obtain ⟨a, l, c, hs⟩ := hsl
  obtain ⟨L, hL, hRow, hQ, hlc, hcm⟩ := slice_rel (w := w) (enc := enc) (base := base) (spare := spare) (held := held) (fun y : Nat => [byV y]) (fun y => y < 256) (N := 1) (a := a) (len := l) (cap := c) byte_read (fun _ => rfl) Try.underlying72 (by decide) (by kernel_rfl) ⟨n, (by
    rw [hs] at g3
    exact g3)⟩
  subst hL
  have b1 := bounds_u8 hkw
  have b2 := bounds_u64 hdw
  rw [flat_one] at hRow
  refine ⟨⟨k.toNat, r.1.1, r.1.2, d.toNat, a, c, L, by omega, r.2, by omega, hQ⟩, ?_, hRow, hlc, hcm⟩
  have c1 : Try.prog.cellsOf 72 = 1 := by kernel_rfl
  have c2 : Try.prog.cellsOf 66 = 1 := by kernel_rfl
  have c3 : Try.prog.cellsOf 35 = 35 := by kernel_rfl
  have c4 : Try.prog.cellsOf 5 = 1 := by kernel_rfl
  rw [cells4 hcs]
  unfold factL
  have h0 : (cs.drop 0).take 1 = [.int .u8 k] := by have := hk; rwa [c4] at this
  have h1 : (cs.drop 1).take 35 = rowL r.1 := by have := hr.symm; rwa [c3] at this
  have h2 : (cs.drop 36).take 1 = [.int .u64 d] := by have := hd; rwa [c2] at this
  have h3 : (cs.drop 37).take 1 = [.slice a L.length c] := by have := hs; rwa [c1] at this
  rw [h0, h1, h2, h3]
  show Value.int .u8 ((k.toNat : Nat) : Int) :: (rowL r.1 ++ [.int .u64 ((d.toNat : Nat) : Int), .slice a L.length c]) = _
  rw [Int.toNat_of_nonneg b1.1, Int.toNat_of_nonneg b2.1]
  rfl
end
end Go.Proofs.Ytnfbchhbcinloaa

/- The walks over few and does. -/
namespace Go.Proofs.Ytnfbchhbcinloaa
open Go.RowKit Go.XR Go.IndexPure Go.CachePure Go.FindPure
theorem fact_slice (a : FActT) : (factL a)[37]? = some (.slice a.ba a.b.length a.bc) := by
  unfold factL
  rw [List.getElem?_cons_succ, List.getElem?_append_right (by rw [rowL_length]; omega), rowL_length]; rfl
theorem fact_kind (a : FActT) : (factL a)[0]? = some (.int .u8 (a.kind : Int)) := rfl
theorem fact_draw (a : FActT) : (factL a)[36]? = some (.int .u64 (a.draw : Int)) := by
  unfold factL
  rw [List.getElem?_cons_succ, List.getElem?_append_right (by rw [rowL_length]; omega), rowL_length]; rfl
theorem fact_row {w : World} {b o : Nat} {a : FActT} (h : At w b o (factC a)) : At w b (o + 1) (rowC (a.key, a.place)) := fun j u hj => by
  rw [Nat.add_assoc]
  refine h (1 + j) u ?_
  have hj' : (rowL (a.key, a.place))[j]? = some u := by simpa [rowC] using hj
  show (factL a).toArray[1 + j]? = some u
  rw [List.getElem?_toArray, Nat.add_comm]
  show (rowL (a.key, a.place) ++ _)[j]? = some u
  rw [List.getElem?_append_left (List.getElem?_eq_some_iff.1 hj').1]; exact hj'
theorem fact_at {w : World} {b o : Nat} {a : FActT} (h : At w b o (factC a)) {i : Nat} {u : Value} (hi : (factL a)[i]? = some u) : w.cell? ⟨b, o + i, none⟩ = some u := h i u (by show (factL a).toArray[i]? = _; rw [List.getElem?_toArray]; exact hi)
def RetFew (a : Option Addr) (c : Nat) (l : List FActT) (w : World) (e : Ending) (w' : World) : Prop :=
  ∃ n, n ≤ l.length ∧ n ≤ 150 ∧ e = .returned (.slice a n c) ∧ w' = w ∧ ∀ x ∈ l.take n, x.b.length ≤ 2000
set_option maxHeartbeats 2000000 in
set_option maxRecDepth 100000 in
theorem ffew_any (w : World) (a : Option Addr) (c : Nat) (l : List FActT) (hR : Row w a (l.flatMap factL)) (hl : l.length ≤ maxLen) (hc : l.length ≤ c) (hbl : ∀ x ∈ l, x.b.length ≤ maxLen) :
    Calls Try.prog 36 #[.slice a l.length c] w (RetFew a c l w) := by
  have HR := Lib.hid hR
  have Hbl := Lib.hid hbl
  have hml : l.length ≤ 9223372036854775807 := by unfold maxLen at hl; omega
  clear hR hl hbl
  go_enter Try.func36, Try.ntmps36
  go_wp2
  go_loopg [7, 3] l.length (fun m i t wr => wr = w ∧ ∃ j left : Nat, j ≤ l.length ∧ j ≤ 150 ∧ left ≤ 2000 ∧ i = .int .i64 j ∧ t = .int .i64 left ∧ Hid (m = l.length - j ∧ ∀ x ∈ l.take j, x.b.length ≤ 2000))
  case atStart => exact ⟨rfl, 0, 2000, by omega, by omega, by omega, rfl, rfl, rfl, fun x hx => by simp at hx⟩
  case round =>
    obtain ⟨rfl, j, left, hj, hj150, hle, rfl, rfl, hr⟩ := hrel
    by_cases hlt : j < l.length
    · have hlt2 : (j : Int) < (l.length : Int) := by omega
      obtain ⟨g, o, rfl, hX⟩ := row_at factL_length HR.out hlt (by omega)
      have hcell : wr.cell? ⟨g, o + j * 38 + 37, none⟩ = some (.slice l[j].ba l[j].b.length l[j].bc) := fact_at hX (fact_slice l[j])
      have hbj := Hbl.out _ (List.getElem_mem hlt)
      have Htk : Hid (l.take (j + 1) = l.take j ++ [l[j]]) := List.take_succ_eq_append_getElem hlt
      clear hX
      generalize l[j] = x at *
      have hbm : x.b.length ≤ 9223372036854775807 := by unfold maxLen at hbj; omega
      by_cases h1 : (150 : Int) ≤ (j : Int)
      · have hjl : j ≤ c := by omega
        clear hcell
        go_wp2
        go_ret
        exact ⟨j, by omega, hj150, rfl, rfl, hr.out.2⟩
      · by_cases hb : left < x.b.length
        · have hb2 : (left : Int) < (x.b.length : Int) := by omega
          have hjl : j ≤ c := by omega
          go_wp2
          go_ret
          exact ⟨j, by omega, hj150, rfl, rfl, hr.out.2⟩
        · have hb2 : ¬ (left : Int) < (x.b.length : Int) := by omega
          go_wp2
          go_roundg (l.length - (j + 1))
          case measure => have := hr.out.1; omega
          case rel =>
            refine ⟨rfl, j + 1, left - x.b.length, by omega, by omega, by omega, by go_num, by go_num, rfl, fun y hy => ?_⟩
            rw [Htk.out] at hy
            rcases List.mem_append.1 hy with h | h
            · exact hr.out.2 y h
            · rw [List.mem_singleton] at h; subst h; omega
    · have hge : ¬ (j : Int) < (l.length : Int) := by omega
      obtain rfl : j = l.length := by omega
      go_wp2
      go_ret
      exact ⟨l.length, by omega, hj150, rfl, rfl, hr.out.2⟩
def RetDoes (w : World) (p : Nat) (F : List Nat) (M : FinT) (a : FActT) (e : Ending) (w' : World) : Prop :=
  e = .returned (.tuple #[]) ∧ ∃ M', DoesOk M a.kind a.key a.place M' ∧ FTo w p F M' w'
set_option maxHeartbeats 4000000 in
set_option maxRecDepth 100000 in
theorem does_any (w : World) (p : Nat) (F : List Nat) (M : FinT) (h : FOn w p F M) (hlen : M.D.length ≤ 2^20) (a : FActT) (hR : Row w a.ba (a.b.map byV)) (hbl : a.b.length ≤ 2000) (hq : 0 < a.b.length → ∀ g o, a.ba = some ⟨g, o, none⟩ → g ∉ F) :
    Calls Try.prog 37 #[.pointer (some ⟨p, 0, none⟩), .agg (factC a)] w (RetDoes w p F M a) := by
  obtain ⟨W0, hW0⟩ : ∃ W0, w.alloc (.cells (factC a) 74) = W0 := ⟨_, rfl⟩
  have hb0 : Below w.heap.size w W0 := by rw [← hW0]; exact (Below.refl _ _).alloc (Nat.le_refl _) _
  have HX : Hid (At W0 w.heap.size 0 (factC a)) := by unfold Hid; rw [← hW0]; exact At.new _ _ _
  have H0 := Lib.hid (h.below hb0)
  have HR0 := Lib.hid (hR.below hb0)
  have Hto : Hid (∀ {M' : FinT} {w' : World}, FTo W0 p F M' w' → FTo w p F M' w') := fun {M' w'} ht => by
    obtain ⟨F', h1, h2, h3⟩ := ht
    exact ⟨F', h1, (But.of_below hb0).trans h2, fun b hb => (h3 b hb).imp id fun h => Nat.le_trans hb0.size h⟩
  have Hq := Lib.hid hq
  have Hl := Lib.hid hlen
  clear h hR hq hb0 hlen
  obtain ⟨ab, hab⟩ : ∃ ab, w.heap.size = ab := ⟨_, rfl⟩
  rw [hab] at HX
  have HRow := Lib.hid (fact_row HX.out)
  have HK := Lib.hid (row_at_key HRow.out)
  have HP := Lib.hid (row_at_place HRow.out)
  have ck : W0.cell? ⟨ab, 0, none⟩ = some (.int .u8 (a.kind : Int)) := fact_at HX.out (fact_kind a)
  have cb : W0.cell? ⟨ab, 37, none⟩ = some (.slice a.ba a.b.length a.bc) := by have := fact_at HX.out (fact_slice a); rwa [Nat.zero_add] at this
  have hk := a.hk
  have Hd : Hid (dStep M.D a.kind a.key a.place = if a.kind % 5 = 0 then aput (adel M.D a.key) a.key a.place else if a.kind % 5 = 1 then adel M.D a.key else M.D) := rfl
  obtain ⟨q, hq5⟩ : ∃ q, a.kind % 5 = q := ⟨_, rfl⟩
  have hqi : (a.kind : Int) % 5 = (q : Int) := by omega
  have hqlt : q < 5 := by omega
  rw [hq5] at Hd
  clear HX HRow hq5
  rcases (show q = 0 ∨ q = 1 ∨ q = 2 ∨ q = 3 ∨ q = 4 by omega) with rfl | rfl | rfl | rfl | rfl
  · have hdd : dStep M.D a.kind a.key a.place = aput (adel M.D a.key) a.key a.place := by rw [Hd.out]; rfl
    have Hdd := Lib.hid hdd
    clear hdd
    go_enter Try.func37, Try.ntmps37
    go_wp2_with (first | (refine opIs (X := .load 27 (.tmp 11)) rfl ?_; refine wpList_load_at rfl 27 (.tmp 11) rfl ab (0 + 1) rfl (keyC a.key) HK.out _ Try.underlying27 rfl (keySize _) ?_) | (refine opIs (X := .load 33 (.tmp 14)) rfl ?_; refine wpList_load_at rfl 33 (.tmp 14) rfl ab (0 + 1 + 33) rfl (placeC a.place) HP.out _ Try.underlying33 rfl (placeSize _) ?_) | fail)
    refine (fo_put H0.out Hl.out a.key a.place a.ok).mono ?_
    rintro e w1 ⟨rfl, ht⟩
    have Ht := Lib.hid (Hto.out ht)
    clear ht
    go_wp2
    go_end0
    exact ⟨rfl, _, ⟨fun h => fPut_inv h _ _, Hdd.out.symm, rfl, rfl⟩, Ht.out⟩
  · have Hdd : Hid (dStep M.D a.kind a.key a.place = adel M.D a.key) := by unfold Hid; rw [Hd.out]; rfl
    go_enter Try.func37, Try.ntmps37
    go_wp2_with (first | (refine opIs (X := .load 27 (.tmp 21)) rfl ?_; refine wpList_load_at rfl 27 (.tmp 21) rfl ab (0 + 1) rfl (keyC a.key) HK.out _ Try.underlying27 rfl (keySize _) ?_) | fail)
    refine (fo_drop H0.out Hl.out a.key).mono ?_
    rintro e w1 ⟨rfl, ht⟩
    have Ht := Lib.hid (Hto.out ht)
    clear ht
    go_wp2
    go_end0
    exact ⟨rfl, _, ⟨fun h => fDrop_inv h _, Hdd.out.symm, rfl, rfl⟩, Ht.out⟩
  · have Hdd : Hid (dStep M.D a.kind a.key a.place = M.D) := by unfold Hid; rw [Hd.out]; rfl
    have Ht : Hid (FTo W0 p F M W0) := ⟨F, H0.out, But.refl _ _, Grew.refl _ _⟩
    go_enter Try.func37, Try.ntmps37
    go_wp2
    go_end0
    exact ⟨rfl, _, ⟨fun h => h, Hdd.out.symm, rfl, rfl⟩, Hto.out Ht.out⟩
  · have Hdd : Hid (dStep M.D a.kind a.key a.place = M.D) := by unfold Hid; rw [Hd.out]; rfl
    go_enter Try.func37, Try.ntmps37
    go_wp2_with fail
    refine (fo_anew H0.out Hl.out).mono ?_
    rintro e w1 ⟨rfl, L, hL, ht⟩
    have Ht := Lib.hid (Hto.out ht)
    have HL := Lib.hid hL
    clear ht hL
    go_wp2
    go_end0
    exact ⟨rfl, _, ⟨fun h => anew_inv h HL.out, Hdd.out.symm, rfl, rfl⟩, Ht.out⟩
  · have Hdd : Hid (dStep M.D a.kind a.key a.place = M.D) := by unfold Hid; rw [Hd.out]; rfl
    go_enter Try.func37, Try.ntmps37
    go_wp2_with fail
    refine (fo_blur H0.out a.ba a.bc a.b HR0.out Hq.out a.hb (by omega)).mono ?_
    rintro e w1 ⟨rfl, ht⟩
    have Ht := Lib.hid (Hto.out ht)
    clear ht
    go_wp2
    go_end0
    exact ⟨rfl, _, ⟨fun h => blur_inv h a.hb, Hdd.out.symm, rfl, rfl⟩, Ht.out⟩
end Go.Proofs.Ytnfbchhbcinloaa
