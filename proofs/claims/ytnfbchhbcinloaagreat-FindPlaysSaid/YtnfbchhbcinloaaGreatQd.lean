/- Walks and laws that the statements of this seat share, part 4. -/
import Derived.Test.YtnfbchhbcinloaaGreatQc
/- The walk over Find. -/
namespace Go.Proofs.YtnfbchhbcinloaaGreat
open Go.RowKit Go.XR Go.IndexPure Go.CachePure Go.FindPure
section
variable {w0 W W' : World} {F0 Fi Fc S : List Nat} {p ip vp vq cp : Nat} {M : FinT}
theorem FSt.side (h : FSt w0 F0 W Fi Fc p ip vp vq cp M) (hb : But S W W') (hS : ∀ b ∈ S, w0.heap.size ≤ b ∧ b ∉ foot p vp vq Fi Fc) : FSt w0 F0 W' Fi Fc p ip vp vq cp M :=
  ⟨h.fin.but hb fun b h1 h2 => (hS b h2).2 h1, ⟨hb.os.trans h.but.os, hb.tape.trans h.but.tape, hb.output.trans h.but.output, Nat.le_trans h.but.size hb.size, fun i hi hn => (hb.block i (Nat.lt_of_lt_of_le hi h.but.size) fun hm => by have := (hS i hm).1; omega).trans (h.but.block i hi hn)⟩, h.grew⟩
theorem FSt.asked (h : FSt w0 F0 W Fi Fc p ip vp vq cp M) : FSt w0 F0 (W.setCell ⟨p, 3, none⟩ (.int .i64 ((M.asked : Int) + 1))) Fi Fc p ip vp vq cp { M with asked := M.asked + 1 } := by
  have hb : But [p] W (W.setCell ⟨p, 3, none⟩ (.int .i64 ((M.asked : Int) + 1))) := (But.refl _ _).setCell (.inl (by simp)) _
  refine h.trans ⟨?_, hb.mono fun b h1 _ => mem_foot.2 (by rw [List.mem_singleton] at h1; simp [h1]), Grew.refl _ _⟩
  obtain ⟨cap, hv⟩ := h.fin.vec
  obtain ⟨tb, a, cap', T, hc⟩ := h.fin.ch
  exact { h.fin with
    blk := h.fin.blk.set 3 _
    ix := h.fin.ix.but hb fun b h1 h2 => by rw [List.mem_singleton] at h2; subst h2; exact h.fin.pn.1 h1
    vec := ⟨cap, hv.but hb (by simpa using h.fin.pn.2.2.1.symm) (by simpa using h.fin.pn.2.2.2.symm)⟩
    ch := ⟨tb, a, cap', T, hc.but hb fun b h1 h2 => by rw [List.mem_singleton] at h2; subst h2; exact h.fin.pn.2.1 h1⟩ }
theorem FSt.loaded (h : FSt w0 F0 W Fi Fc p ip vp vq cp M) : FSt w0 F0 (W.setCell ⟨p, 4, none⟩ (.int .i64 ((M.loaded : Int) + 1))) Fi Fc p ip vp vq cp { M with loaded := M.loaded + 1 } := by
  have hb : But [p] W (W.setCell ⟨p, 4, none⟩ (.int .i64 ((M.loaded : Int) + 1))) := (But.refl _ _).setCell (.inl (by simp)) _
  refine h.trans ⟨?_, hb.mono fun b h1 _ => mem_foot.2 (by rw [List.mem_singleton] at h1; simp [h1]), Grew.refl _ _⟩
  obtain ⟨cap, hv⟩ := h.fin.vec
  obtain ⟨tb, a, cap', T, hc⟩ := h.fin.ch
  exact { h.fin with
    blk := h.fin.blk.set 4 _
    ix := h.fin.ix.but hb fun b h1 h2 => by rw [List.mem_singleton] at h2; subst h2; exact h.fin.pn.1 h1
    vec := ⟨cap, hv.but hb (by simpa using h.fin.pn.2.2.1.symm) (by simpa using h.fin.pn.2.2.2.symm)⟩
    ch := ⟨tb, a, cap', T, hc.but hb fun b h1 h2 => by rw [List.mem_singleton] at h2; subst h2; exact h.fin.pn.2.1 h1⟩ }
end
def RetFind (w : World) (Fi Fc : List Nat) (p ip vp vq cp : Nat) (M : FinT) (k : KeyT) (draw : Nat) (e : Ending) (w' : World) : Prop :=
  ∃ L, (mayB M.bits M.probes M.Y k = true → cGet M.C k = none → ∀ v, aget M.D k = some v → ShelfOf M.D v.shelf L) ∧ e = .returned (.tuple #[placeV ((fFind M k draw L).1.getD place0), .bool (fFind M k draw L).1.isSome]) ∧ ∃ Fi' Fc', FSt w (foot p vp vq Fi Fc) w' Fi' Fc' p ip vp vq cp (fFind M k draw L).2
set_option maxHeartbeats 4000000 in
set_option maxRecDepth 100000 in
theorem ffind_any (w : World) (Fi Fc : List Nat) (p ip vp vq cp : Nat) (M : FinT) (h : FinC w Fi Fc p ip vp vq cp M) (hlen : M.D.length ≤ 2^20) (hask : M.asked < 2^40) (hload : M.loaded < 2^40) (k : KeyT) (draw : Nat) (hd : draw < 18446744073709551616) :
    Calls Tryz.prog 12 #[.pointer (some ⟨p, 0, none⟩), keyV k, .int .u64 draw] w (RetFind w Fi Fc p ip vp vq cp M k draw) := by
  obtain ⟨W0, hW0⟩ : ∃ W0, (w.alloc (.cells (keyC k) 29)).alloc (.cells #[.int .i64 0, .int .i64 0] 40) = W0 := ⟨_, rfl⟩
  have hb0 : Below w.heap.size w W0 := by rw [← hW0]; exact ((Below.refl _ _).alloc (Nat.le_refl _) _).alloc (by simp) _
  have HK : Hid (At W0 w.heap.size 0 (keyC k)) := by unfold Hid; rw [← hW0]; exact (At.new _ _ _).alloc _
  have HR : Hid (Blk W0 (w.heap.size + 1) [.int .i64 0, .int .i64 0]) := by
    unfold Hid; rw [← hW0]
    have h := Blk.new (w.alloc (.cells (keyC k) 29)) #[.int .i64 0, .int .i64 0] 40
    rwa [show (w.alloc (.cells (keyC k) 29)).heap.size = w.heap.size + 1 by simp] at h
  have HF := Lib.hid (h.below hb0)
  have HW := Lib.hid ((FSt.refl h).below hb0)
  have H0 := Lib.hid (FSt.refl (h.below hb0))
  have hko : w.heap.size ∉ foot p vp vq Fi Fc := fun hm => by have := h.lt _ hm; omega
  have hro : w.heap.size ≤ w.heap.size + 1 ∧ w.heap.size + 1 ∉ foot p vp vq Fi Fc := ⟨by omega, fun hm => by have := h.lt _ hm; omega⟩
  clear h hb0
  obtain ⟨kb, hkb⟩ : ∃ kb, w.heap.size = kb := ⟨_, rfl⟩
  have Hkb := Lib.hid hkb
  obtain ⟨rb, hrb⟩ : ∃ rb, kb + 1 = rb := ⟨_, rfl⟩
  rw [hkb] at HK HR hko
  rw [hkb, hrb] at hro
  rw [hrb] at HR
  have hkn : kb < W0.heap.size := HK.out.lt (by rw [keyC_size]; omega)
  have Hro : Hid (w.heap.size ≤ rb ∧ rb ∉ foot p vp vq Fi Fc) := by unfold Hid; rw [hkb]; exact hro
  have Hko : Hid (kb ∉ foot p vp vq Fi Fc ∧ kb < W0.heap.size) := ⟨hko, hkn⟩
  have Hrl : Hid (rb ∉ foot p vp vq Fi Fc ∧ rb < W0.heap.size) := ⟨hro.2, HR.out.lt⟩
  have c1 := HF.out.blk.cell (i := 1) rfl
  have hpn := HF.out.blk.lt
  obtain ⟨vcap, hvec⟩ := HF.out.vec
  have Hmy := Lib.hid (may_any W0.drew vp vq vcap M.bits M.probes M.Y (hvec.but (But.refl [] W0).drew (by simp) (by simp)) k)
  clear hvec hko hro
  go_enter Tryz.func12, Tryz.ntmps12
  go_wp2
  clear hW0 hkb hrb
  refine Go.XR.region_sched ((· = W0.drew)) [(0, true), (1, true), (2, true), (3, true), (4, true), (5, true), (6, true), (7, true), (8, false), (9, false), (10, false)] [8, 9, 10] Tryz.mixed (by kernel_rfl) (by kernel_rfl) (by kernel_rfl) ?_
  simp only [List.map_cons, List.map_nil, List.getElem?_cons_succ, List.getElem?_cons_zero]
  repeat (first | (refine Go.XR.S_light rfl rfl rfl ?_ (fun w' hS K hK => ?_) (fun K hK => ?_); rotate_left 1; (cases hS; (first | (refine Go.XR.wp_load_at 29 (.tmp 4) rfl kb 0 rfl (keyC k) (At.drew HK.out) _ Tryz.underlying29 rfl (keySize k) ?_) | go_step); exact hK); go_step; refine hK _ ?_; clear hK K) | (refine Go.XR.S_light_off rfl rfl (fun K hK => ?_); go_step; refine hK _ ?_; clear hK K) | (refine Go.XR.S_light_on rfl rfl rfl rfl ?_ (fun w' hS K hK => ?_) (fun K hK => ?_); rotate_left 1; (cases hS; (first | (refine Go.XR.wp_load_at 29 (.tmp 4) rfl kb 0 rfl (keyC k) (At.drew HK.out) _ Tryz.underlying29 rfl (keySize k) ?_) | go_step); exact hK); go_step; refine hK _ ?_; clear hK K))
  refine Go.XR.S_heavy_on rfl (fun K hK => ?_)
  go_step
  ((with_reducible refine (Hmy.out).mono ?_); rintro e w' ⟨rfl, hb1⟩)
  have H1 : Hid (FSt W0 (foot p vp vq Fi Fc) w' Fi Fc p ip vp vq cp M) := (H0.out.below (Below.refl _ _).drew).below hb1
  have HR1 : Hid (Blk w' rb [.int .i64 0, .int .i64 0]) := HR.out.heap (H1.out.own Hrl.out.1 Hrl.out.2).1
  have HK1 : Hid (At w' kb 0 (keyC k)) := HK.out.heap (H1.out.own Hko.out.1 Hko.out.2).1
  have hsz : W0.heap.size ≤ w'.heap.size := hb1.size
  clear hb1
  refine hK _ _ ⟨fun h => by simp at h, ?_⟩
  clear hK K
  repeat (first | (refine Go.XR.S_light rfl rfl rfl ?_ (fun w' hS K hK => ?_) (fun K hK => ?_); rotate_left 1; (cases hS; (first | (refine Go.XR.wp_load_at 29 (.tmp 4) rfl kb 0 rfl (keyC k) (At.drew HK.out) _ Tryz.underlying29 rfl (keySize k) ?_) | go_step); exact hK); go_step; refine hK _ ?_; clear hK K) | (refine Go.XR.S_light_off rfl rfl (fun K hK => ?_); go_step; refine hK _ ?_; clear hK K) | (refine Go.XR.S_light_on rfl rfl rfl rfl ?_ (fun w' hS K hK => ?_) (fun K hK => ?_); rotate_left 1; (cases hS; (first | (refine Go.XR.wp_load_at 29 (.tmp 4) rfl kb 0 rfl (keyC k) (At.drew HK.out) _ Tryz.underlying29 rfl (keySize k) ?_) | go_step); exact hK); go_step; refine hK _ ?_; clear hK K))
  repeat (first | (refine Go.XR.S_heavy (fun K hK => ?_); go_step; refine hK _ _ ⟨fun h => by simp at h, ?_⟩; clear hK K) | (refine Go.XR.S_heavy_off rfl (fun h => by simp at h) (fun K hK => ?_); go_step; refine hK _ ?_; clear hK K) | (refine Go.XR.S_heavy_on rfl (fun K hK => ?_); go_step; refine hK _ _ ⟨fun h => by simp at h, ?_⟩; clear hK K))
  refine Go.XR.S_nil ?_
  obtain ⟨W1, hW1⟩ : ∃ W1, w' = W1 := ⟨_, rfl⟩
  rw [hW1] at H1 HR1 HK1 hsz ⊢
  clear hW1 w' c1 HF H0 Hmy
  cases hm : mayB M.bits M.probes M.Y k with
  | false =>
    have Hm := Lib.hid hm
    clear hm
    have r0 := HR1.out.cell (i := 0) rfl
    have r1 := HR1.out.cell (i := 1) rfl
    have f0 := HR1.out.free 0
    have f1 := HR1.out.free 1
    go_wp2
    (try simp only [Exit.inBlock, Exit.then])
    refine bodyPost_ret (results_at rfl (g := rb) rfl rfl (((HR1.out.set 0 (.int .i64 0)).set 1 (.int .i64 0)).toAt) Tryz.underlying40 rfl (placeSize place0)) rfl ?_
    have hff : fFind M k draw [] = (none, M) := by unfold fFind; rw [if_neg (by rw [Hm.out]; decide)]
    refine ⟨[], fun h => (by rw [Hm.out] at h; cases h), by rw [hff]; rfl, Fi, Fc, ?_⟩
    rw [hff]
    exact (HW.out.trans H1.out).side (((But.refl [rb] W1).setCell (.inl (by simp)) (i := 0) (.int .i64 0)).setCell (.inl (by simp)) (i := 1) (.int .i64 0)) (by intro b hb; rw [List.mem_singleton] at hb; subst hb; exact Hro.out)
  | true =>
    have Hmay := Lib.hid hm
    clear hm
    have hpn1 : p < W1.heap.size := Nat.lt_of_lt_of_le hpn hsz
    have hkn1 : kb < W1.heap.size := Nat.lt_of_lt_of_le hkn hsz
    have c2 := H1.out.fin.blk.cell (i := 2) rfl
    obtain ⟨tb, a, cap, T, hch⟩ := H1.out.fin.ch
    obtain ⟨v, hv⟩ : ∃ v, (cGet M.C k).getD place0 = v := ⟨_, rfl⟩
    obtain ⟨is, his⟩ : ∃ b, (cGet M.C k).isSome = b := ⟨_, rfl⟩
    have Hg : Hid (∀ W9, Below W1.heap.size W1 W9 → Calls Tryz.prog 42 #[.pointer (some ⟨cp, 0, none⟩), keyV k] W9 fun e w' => e = .returned (.tuple #[.agg #[.int .i64 v.shelf, .int .i64 v.slot], .bool is]) ∧ Below W9.heap.size W9 w') := fun W9 hb => by
      refine (cget_any W9 Fc cp tb M.room a cap M.C T (hch.below hb) k).mono ?_
      rintro e w' ⟨rfl, h2⟩
      rw [hv, his]
      exact ⟨rfl, h2⟩
    have Hv2 := Lib.hid hv
    have His := Lib.hid his
    clear hv his hch hkn hpn hsz
    go_wp2
    have hS0 : Below W1.heap.size W1 W1.drew := (Below.refl _ _).drew
    refine Go.XR.region_fork ((Below W1.heap.size W1)) [(0, true), (1, true), (2, true), (3, true), (4, true)] 5 9 [(6, true), (7, true), (8, true), (9, false), (10, false), (11, false)] [(5, false), (6, true), (7, true), (8, true), (10, false), (11, false)] [11] Tryz.mixed (by kernel_rfl) (by kernel_rfl) (by kernel_rfl) ?_
    simp only [List.map_cons, List.map_nil, List.getElem?_cons_succ, List.getElem?_cons_zero]
    repeat (first | (refine Go.XR.S_light rfl rfl (by assumption) ?_ (fun w' hS K hK => ?_) (fun K hK => ?_); rotate_left 1; (have hS1 := bcell hS; (first | (refine Go.XR.wp_load_at 29 _ rfl kb 0 rfl (keyC k) (At.below HK1.out (by rw [keyC_size]; omega) hS) _ Tryz.underlying29 rfl (keySize k) ?_) | go_step); exact hK); go_step; refine hK _ ?_; clear hK K))
    refine Go.XR.S_nil ?_
    refine Go.XR.Fork.both ?_ ?_
    · refine Go.XR.S_heavy (fun K hK => ?_)
      go_step
      ((with_reducible refine ((Hg.out W1.drew hS0)).mono ?_); rintro e w' ⟨rfl, hb1⟩)
      have hS1 : Below W1.heap.size W1 w' := hS0.trans (hb1.mono hS0.size)
      clear hb1 hS0
      refine hK _ _ ⟨fun _ => hS1, ?_⟩
      clear hK K
      repeat (first | (refine Go.XR.S_light rfl rfl (by assumption) ?_ (fun w' hS K hK => ?_) (fun K hK => ?_); rotate_left 1; (have hS1 := bcell hS; (first | (refine Go.XR.wp_load_at 29 _ rfl kb 0 rfl (keyC k) (At.below HK1.out (by rw [keyC_size]; omega) hS) _ Tryz.underlying29 rfl (keySize k) ?_) | go_step); exact hK); go_step; refine hK _ ?_; clear hK K))
      obtain ⟨W7, hW7⟩ : ∃ W7, w' = W7 := ⟨_, rfl⟩
      rw [hW7] at hS1 ⊢
      clear hW7 w'
      refine Go.XR.S_heavy (fun K hK => ?_)
      go_step
      have hS2 := hS1.alloc hS1.size (.cells #[.int .i64 0, .int .i64 0] 40)
      refine hK _ _ ⟨fun _ => hS2, ?_⟩
      clear hK K
      repeat (first | (refine Go.XR.S_light rfl rfl (by assumption) ?_ (fun w' hS K hK => ?_) (fun K hK => ?_); rotate_left 1; (have hS1 := bcell hS; (first | (refine Go.XR.wp_load_at 29 _ rfl kb 0 rfl (keyC k) (At.below HK1.out (by rw [keyC_size]; omega) hS) _ Tryz.underlying29 rfl (keySize k) ?_) | go_step); exact hK); go_step; refine hK _ ?_; clear hK K))
      refine Go.XR.S_heavy (fun K hK => ?_)
      go_step
      obtain ⟨W3, hW3⟩ : ∃ V, W7.alloc (.cells #[.int .i64 v.shelf, .int .i64 v.slot] 40) = V := ⟨_, rfl⟩
      have hS3 : Below W1.heap.size W1 W3 := by rw [← hW3]; exact hS1.alloc hS1.size _
      obtain ⟨pb, hpb⟩ : ∃ pb, W7.heap.size = pb := ⟨_, rfl⟩
      have Hpb : Hid (W1.heap.size ≤ pb) := by unfold Hid; rw [← hpb]; exact hS1.size
      have HP3 : Hid (Blk W3 pb (placeL v)) := by unfold Hid; rw [← hW3, ← hpb]; exact Blk.new W7 (placeC v) _
      rw [hW3, hpb]
      clear hW3 hpb hS2
      refine hK _ _ ⟨fun _ => hS3, ?_⟩
      clear hK K
      repeat (first | (refine Go.XR.S_light rfl rfl (by assumption) ?_ (fun w' hS K hK => ?_) (fun K hK => ?_); rotate_left 1; (have hS1 := bcell hS; (first | (refine Go.XR.wp_load_at 29 _ rfl kb 0 rfl (keyC k) (At.below HK1.out (by rw [keyC_size]; omega) hS) _ Tryz.underlying29 rfl (keySize k) ?_) | go_step); exact hK); go_step; refine hK _ ?_; clear hK K))
      repeat (first | (refine Go.XR.S_heavy (fun K hK => ?_); go_step; refine hK _ _ ⟨fun h => by simp at h, ?_⟩; clear hK K))
      refine Go.XR.S_nil ?_
      have Hb3 := Lib.hid hS3
      clear hS1 hS3
      have H3 := Lib.hid (H1.out.below Hb3.out)
      have HR3 : Hid (Blk W3 rb [.int .i64 0, .int .i64 0]) := HR1.out.below Hb3.out
      cases is with
      | true =>
        have d0 : W3.cell? ⟨pb, 0, none⟩ = some (.int .i64 v.shelf) := HP3.out.cell (i := 0) rfl
        have d1 : W3.cell? ⟨pb, 1, none⟩ = some (.int .i64 v.slot) := HP3.out.cell (i := 1) rfl
        have r0 := HR3.out.cell (i := 0) rfl
        have r1 := HR3.out.cell (i := 1) rfl
        have f0 := HR3.out.free 0
        have f1 := HR3.out.free 1
        go_wp2
        (try simp only [Exit.inBlock, Exit.then])
        refine bodyPost_ret (results_at rfl (g := rb) rfl rfl (((HR3.out.set 0 (.int .i64 v.shelf)).set 1 (.int .i64 v.slot)).toAt) Tryz.underlying40 rfl (placeSize v)) rfl ?_
        have hcg : cGet M.C k = some v := by
          have h1 := Hv2.out
          have h2 := His.out
          cases h : cGet M.C k with
          | none => rw [h] at h2; cases h2
          | some x => rw [h] at h1; exact congrArg some h1
        have hff : fFind M k draw [] = (some v, M) := by unfold fFind; rw [if_pos Hmay.out, hcg]
        refine ⟨[], fun _ h => (by rw [hcg] at h; cases h), by rw [hff]; rfl, Fi, Fc, ?_⟩
        rw [hff]
        exact (HW.out.trans H3.out).side (((But.refl [rb] W3).setCell (.inl (by simp)) (i := 0) (.int .i64 v.shelf)).setCell (.inl (by simp)) (i := 1) (.int .i64 v.slot)) (by intro b hb; rw [List.mem_singleton] at hb; subst hb; exact Hro.out)
      | false =>
        have Hcg : Hid (cGet M.C k = none) := by
          unfold Hid
          have h2 := His.out
          cases h : cGet M.C k with
          | none => rfl
          | some x => rw [h] at h2; cases h2
        clear Hv2 His Hg Hpb HP3
        have c3 := H3.out.fin.blk.cell (i := 3) rfl
        have f3 := H3.out.fin.blk.free 3
        go_wp2_with (refine opIs (X := .store 3 (.tmp 41) (.tmp 39)) rfl ?_; refine Go.XR.stop (fun X hX => ?_))
        refine hX.out ?_
        clear hX X
        obtain ⟨W4, hW4⟩ : ∃ W4, W3.setCell ⟨p, 3, none⟩ (.int .i64 ((M.asked : Int) + 1)) = W4 := ⟨_, rfl⟩
        have H4 := Lib.hid H3.out.asked
        rw [hW4] at H4
        go_wp2
        clear hW4 c3 f3 H3 HR3 c2
        have HK4 : Hid (At W4 kb 0 (keyC k)) := HK.out.heap (H4.out.own Hko.out.1 Hko.out.2).1
        have HR4 : Hid (Blk W4 rb [.int .i64 0, .int .i64 0]) := HR.out.heap (H4.out.own Hrl.out.1 Hrl.out.2).1
        have hkn4 : kb < W4.heap.size := (H4.out.own Hko.out.1 Hko.out.2).2.2
        have hpn4 : p < W4.heap.size := H4.out.fin.blk.lt
        have c0 := H4.out.fin.blk.cell (i := 0) rfl
        obtain ⟨v, hv⟩ : ∃ v, (aget M.D k).getD place0 = v := ⟨_, rfl⟩
        obtain ⟨is, his⟩ : ∃ b, (aget M.D k).isSome = b := ⟨_, rfl⟩
        have Hg : Hid (∀ W9, Below W4.heap.size W4 W9 → Calls Tryz.prog 43 #[.pointer (some ⟨ip, 0, none⟩), keyV k] W9 fun e w' => e = .returned (.tuple #[.agg #[.int .i64 v.shelf, .int .i64 v.slot], .bool is]) ∧ Below W9.heap.size W9 w') := fun W9 hb => by
          refine (ix_get (H4.out.fin.ix.below hb) k).mono ?_
          rintro e w' ⟨rfl, h2⟩
          rw [hv, his]
          exact ⟨rfl, h2⟩
        have Hv2 := Lib.hid hv
        have His := Lib.hid his
        clear hv his
        clear Hb3 HR1 HK1 H1 hpn1 hkn1
        have hS0 : Below W4.heap.size W4 W4.drew := (Below.refl _ _).drew
        refine Go.XR.region_fork ((Below W4.heap.size W4)) [(0, true), (1, true), (2, true), (3, true), (4, true)] 5 9 [(6, true), (7, true), (8, true), (9, false), (10, false), (11, false)] [(5, false), (6, true), (7, true), (8, true), (10, false), (11, false)] [11] Tryz.mixed (by kernel_rfl) (by kernel_rfl) (by kernel_rfl) ?_
        simp only [List.map_cons, List.map_nil, List.getElem?_cons_succ, List.getElem?_cons_zero]
        repeat (first | (refine Go.XR.S_light rfl rfl (by assumption) ?_ (fun w' hS K hK => ?_) (fun K hK => ?_); rotate_left 1; (have hS1 := bcell hS; (first | (refine Go.XR.wp_load_at 29 _ rfl kb 0 rfl (keyC k) (At.below HK4.out (by rw [keyC_size]; omega) hS) _ Tryz.underlying29 rfl (keySize k) ?_) | go_step); exact hK); go_step; refine hK _ ?_; clear hK K))
        refine Go.XR.S_nil ?_
        refine Go.XR.Fork.both ?_ ?_
        · refine Go.XR.S_heavy (fun K hK => ?_)
          go_step
          ((with_reducible refine ((Hg.out W4.drew hS0)).mono ?_); rintro e w' ⟨rfl, hb1⟩)
          have hS1 : Below W4.heap.size W4 w' := hS0.trans (hb1.mono hS0.size)
          clear hb1 hS0
          refine hK _ _ ⟨fun _ => hS1, ?_⟩
          clear hK K
          repeat (first | (refine Go.XR.S_light rfl rfl (by assumption) ?_ (fun w' hS K hK => ?_) (fun K hK => ?_); rotate_left 1; (have hS1 := bcell hS; (first | (refine Go.XR.wp_load_at 29 _ rfl kb 0 rfl (keyC k) (At.below HK4.out (by rw [keyC_size]; omega) hS) _ Tryz.underlying29 rfl (keySize k) ?_) | go_step); exact hK); go_step; refine hK _ ?_; clear hK K))
          obtain ⟨W7, hW7⟩ : ∃ W7, w' = W7 := ⟨_, rfl⟩
          rw [hW7] at hS1 ⊢
          clear hW7 w'
          refine Go.XR.S_heavy (fun K hK => ?_)
          go_step
          have hS2 := hS1.alloc hS1.size (.cells #[.int .i64 0, .int .i64 0] 40)
          refine hK _ _ ⟨fun _ => hS2, ?_⟩
          clear hK K
          repeat (first | (refine Go.XR.S_light rfl rfl (by assumption) ?_ (fun w' hS K hK => ?_) (fun K hK => ?_); rotate_left 1; (have hS1 := bcell hS; (first | (refine Go.XR.wp_load_at 29 _ rfl kb 0 rfl (keyC k) (At.below HK4.out (by rw [keyC_size]; omega) hS) _ Tryz.underlying29 rfl (keySize k) ?_) | go_step); exact hK); go_step; refine hK _ ?_; clear hK K))
          refine Go.XR.S_heavy (fun K hK => ?_)
          go_step
          obtain ⟨W5, hW3⟩ : ∃ V, W7.alloc (.cells #[.int .i64 v.shelf, .int .i64 v.slot] 40) = V := ⟨_, rfl⟩
          have hS3 : Below W4.heap.size W4 W5 := by rw [← hW3]; exact hS1.alloc hS1.size _
          obtain ⟨pb, hpb⟩ : ∃ pb, W7.heap.size = pb := ⟨_, rfl⟩
          have Hpb : Hid (W4.heap.size ≤ pb) := by unfold Hid; rw [← hpb]; exact hS1.size
          have HP3 : Hid (Blk W5 pb (placeL v)) := by unfold Hid; rw [← hW3, ← hpb]; exact Blk.new W7 (placeC v) _
          rw [hW3, hpb]
          clear hW3 hpb hS2
          refine hK _ _ ⟨fun _ => hS3, ?_⟩
          clear hK K
          repeat (first | (refine Go.XR.S_light rfl rfl (by assumption) ?_ (fun w' hS K hK => ?_) (fun K hK => ?_); rotate_left 1; (have hS1 := bcell hS; (first | (refine Go.XR.wp_load_at 29 _ rfl kb 0 rfl (keyC k) (At.below HK4.out (by rw [keyC_size]; omega) hS) _ Tryz.underlying29 rfl (keySize k) ?_) | go_step); exact hK); go_step; refine hK _ ?_; clear hK K))
          repeat (first | (refine Go.XR.S_heavy (fun K hK => ?_); go_step; refine hK _ _ ⟨fun h => by simp at h, ?_⟩; clear hK K))
          refine Go.XR.S_nil ?_
          have Hb3 := Lib.hid hS3
          clear hS1 hS3
          have H5 := Lib.hid (H4.out.below Hb3.out)
          have HR5 : Hid (Blk W5 rb [.int .i64 0, .int .i64 0]) := HR.out.heap (H5.out.own Hrl.out.1 Hrl.out.2).1
          have Hpf : Hid (pb ∉ foot p vp vq Fi Fc) := fun hm => by have h1 := H4.out.fin.lt _ hm; have h2 := Hpb.out; omega
          cases is with
          | false =>
            have d0 : W5.cell? ⟨pb, 0, none⟩ = some (.int .i64 v.shelf) := HP3.out.cell (i := 0) rfl
            have d1 : W5.cell? ⟨pb, 1, none⟩ = some (.int .i64 v.slot) := HP3.out.cell (i := 1) rfl
            have r0 := HR5.out.cell (i := 0) rfl
            have r1 := HR5.out.cell (i := 1) rfl
            have f0 := HR5.out.free 0
            have f1 := HR5.out.free 1
            go_wp2
            (try simp only [Exit.inBlock, Exit.then])
            refine bodyPost_ret (results_at rfl (g := rb) rfl rfl (((HR5.out.set 0 (.int .i64 v.shelf)).set 1 (.int .i64 v.slot)).toAt) Tryz.underlying40 rfl (placeSize v)) rfl ?_
            have hn : aget M.D k = none := by
              have h2 := His.out
              cases h : aget M.D k with
              | none => rfl
              | some x => rw [h] at h2; cases h2
            have hv0 : v = place0 := by have := Hv2.out; rw [hn] at this; exact this.symm
            have hff : fFind M k draw [] = (none, { M with asked := M.asked + 1 }) := by unfold fFind; rw [if_pos Hmay.out, Hcg.out, hn]
            refine ⟨[], fun _ _ v h => (by rw [hn] at h; cases h), by rw [hff, hv0]; rfl, Fi, Fc, ?_⟩
            rw [hff]
            exact (HW.out.trans H5.out).side (((But.refl [rb] W5).setCell (.inl (by simp)) (i := 0) (.int .i64 v.shelf)).setCell (.inl (by simp)) (i := 1) (.int .i64 v.slot)) (by intro b hb; rw [List.mem_singleton] at hb; subst hb; exact Hro.out)
          | true =>
            have Hx : Hid (aget M.D k = some v) := by
              unfold Hid
              have h1 := Hv2.out
              have h2 := His.out
              cases h : aget M.D k with
              | none => rw [h] at h2; cases h2
              | some x => rw [h] at h1; exact congrArg some h1
            have c4 := H5.out.fin.blk.cell (i := 4) rfl
            have f4 := H5.out.fin.blk.free 4
            clear Hg Hv2 His c0
            go_wp2_with (refine opIs (X := .store 3 (.tmp 58) (.tmp 56)) rfl ?_; refine Go.XR.stop (fun X hX => ?_))
            refine hX.out ?_
            clear hX X
            obtain ⟨W6, hW6⟩ : ∃ W6, W5.setCell ⟨p, 4, none⟩ (.int .i64 ((M.loaded : Int) + 1)) = W6 := ⟨_, rfl⟩
            have H6 := Lib.hid H5.out.loaded
            rw [hW6] at H6
            have HP6 : Hid (Blk W6 pb (placeL v)) := by
              unfold Hid
              rw [← hW6]
              exact HP3.out.but ((But.refl [p] W5).setCell (.inl (by simp)) _) (by rw [List.mem_singleton]; intro e; exact Hpf.out (mem_foot.2 (.inl e)))
            go_wp2
            clear hW6 c4 f4 H5 HR5 HP3 H4 HR4 HK4 Hb3 hkn4 hpn4
            obtain ⟨s, hs⟩ : ∃ s : I64, v.shelf = s.1 := ⟨⟨v.shelf, (H6.out.fin.ix.rng k v Hx.out).1⟩, rfl⟩
            have Hs := Lib.hid hs
            have hpn6 : p < W6.heap.size := H6.out.fin.blk.lt
            have hpb6 : pb < W6.heap.size := HP6.out.lt
            have c2 := H6.out.fin.blk.cell (i := 2) rfl
            have d0 : W6.cell? ⟨pb, 0, none⟩ = some (.int .i64 s.1) := by rw [← hs]; exact HP6.out.cell (i := 0) rfl
            have H6d := Lib.hid (H6.out.below (Below.refl _ _).drew)
            have Hsh := Lib.hid (fshelf_any W6.drew Fi Fc p ip vp vq cp _ H6d.out.fin hlen s.1 s.2)
            have hS0 : Below W6.heap.size W6 W6.drew := (Below.refl _ _).drew
            clear hs
            refine Go.XR.region_sched ((Below W6.heap.size W6)) [(0, true), (1, true), (2, true), (3, true), (4, true), (5, true), (6, true), (7, true), (8, true), (10, true), (9, false), (11, false)] [11] Tryz.mixed (by kernel_rfl) (by kernel_rfl) (by kernel_rfl) ?_
            simp only [List.map_cons, List.map_nil, List.getElem?_cons_succ, List.getElem?_cons_zero]
            repeat (first | (refine Go.XR.S_light rfl rfl (by assumption) ?_ (fun w' hS K hK => ?_) (fun K hK => ?_); rotate_left 1; (have hS1 := bcell hS; go_step; exact hK); go_step; refine hK _ ?_; clear hK K))
            refine Go.XR.S_heavy (fun K hK => ?_)
            go_step
            ((with_reducible refine (Hsh.out).mono ?_); rintro e w' ⟨L, hL, la, lc, rfl, hrow, hnew, hb7⟩)
            have HL := Lib.hid hL
            have H7 := Lib.hid (H6d.out.below hb7)
            have HP7 := Lib.hid (HP6.out.below (hS0.trans (hb7.mono hS0.size)))
            have hS7 : Below W6.heap.size W6 w' := hS0.trans (hb7.mono hS0.size)
            have hLl : L.length ≤ 2^20 := Nat.le_trans (ShelfOf.len hL) hlen
            obtain ⟨tb, a, cap, T, hch⟩ := H7.out.fin.ch
            have Hld := Lib.hid (cload_any w' Fc cp tb M.room a cap M.C T hch s la lc L hrow hLl (fun x hx hm => by
              have h1 := hnew x hx
              have h2 := H6d.out.fin.lt _ (mem_foot.2 (.inr (.inr (.inr (.inr hm)))))
              omega) draw hd)
            unfold i64V at Hld
            clear hL hrow hnew hb7 hLl hch Hsh hS0
            refine hK _ _ ⟨fun _ => hS7, ?_⟩
            clear hK K
            repeat (first | (refine Go.XR.S_light rfl rfl (by assumption) ?_ (fun w' hS K hK => ?_) (fun K hK => ?_); rotate_left 1; (have hS1 := bcell hS; go_step; exact hK); go_step; refine hK _ ?_; clear hK K))
            obtain ⟨W7, hW7⟩ : ∃ W7, w' = W7 := ⟨_, rfl⟩
            rw [hW7] at H7 HP7 Hld hS7 ⊢
            clear hW7 w'
            refine Go.XR.S_heavy (fun K hK => ?_)
            go_step
            ((with_reducible refine (Hld.out).mono ?_); rintro e w' ⟨rfl, F8, a8, cap8, T8, hC8, hb8, hg8⟩)
            have H8 := Lib.hid (H7.out.ch hC8 hb8 hg8)
            have HP8 := Lib.hid (HP7.out.but hb8 (fun hm => Hpf.out (mem_foot.2 (.inr (.inr (.inr (.inr hm)))))))
            clear hC8 hb8 hg8 c2 d0 hS7 Hld
            refine hK _ _ ⟨fun h => by simp at h, ?_⟩
            clear hK K
            repeat (first | (refine Go.XR.S_light rfl rfl (by assumption) ?_ (fun w' hS K hK => ?_) (fun K hK => ?_); rotate_left 1; (have hS1 := bcell hS; go_step; exact hK); go_step; refine hK _ ?_; clear hK K))
            obtain ⟨W8, hW8⟩ : ∃ W8, w' = W8 := ⟨_, rfl⟩
            rw [hW8] at H8 HP8 ⊢
            clear hW8 w'
            repeat (first | (refine Go.XR.S_heavy (fun K hK => ?_); go_step; refine hK _ _ ⟨fun h => by simp at h, ?_⟩; clear hK K))
            refine Go.XR.S_nil ?_
            have HR8 : Hid (Blk W8 rb [.int .i64 0, .int .i64 0]) := HR.out.heap (H8.out.own Hrl.out.1 Hrl.out.2).1
            have e0 : W8.cell? ⟨pb, 0, none⟩ = some (.int .i64 v.shelf) := HP8.out.cell (i := 0) rfl
            have e1 : W8.cell? ⟨pb, 1, none⟩ = some (.int .i64 v.slot) := HP8.out.cell (i := 1) rfl
            have r0 := HR8.out.cell (i := 0) rfl
            have r1 := HR8.out.cell (i := 1) rfl
            have f0 := HR8.out.free 0
            have f1 := HR8.out.free 1
            have hrf : rb ∉ foot p vp vq Fi F8 := (H8.out.own Hrl.out.1 Hrl.out.2).2.1
            go_wp2
            (try simp only [Exit.inBlock, Exit.then])
            refine bodyPost_ret (results_at rfl (g := rb) rfl rfl (((HR8.out.set 0 (.int .i64 v.shelf)).set 1 (.int .i64 v.slot)).toAt) Tryz.underlying40 rfl (placeSize v)) rfl ?_
            have hff : fFind M k draw L = (some v, { M with asked := M.asked + 1, loaded := M.loaded + 1, C := cLoad M.room M.C s L draw }) := by
              unfold fFind; rw [if_pos Hmay.out, Hcg.out, Hx.out]; simp only [Hs.out, mkI_val]
            refine ⟨L, fun _ _ x hx => (by rw [Hx.out] at hx; injection hx with hx; rw [← hx, Hs.out]; exact HL.out), by rw [hff]; rfl, Fi, F8, ?_⟩
            rw [hff]
            exact (HW.out.trans H8.out).side (((But.refl [rb] W8).setCell (.inl (by simp)) (i := 0) (.int .i64 v.shelf)).setCell (.inl (by simp)) (i := 1) (.int .i64 v.slot)) (by intro b hb; rw [List.mem_singleton] at hb; subst hb; exact ⟨Hro.out.1, hrf⟩)
        · skip
          refine Go.XR.S_heavy (fun K hK => ?_)
          go_step
          obtain ⟨W6, hW6⟩ : ∃ W6, (W4.alloc (.cells #[.int .i64 0, .int .i64 0] 40)).drew = W6 := ⟨_, rfl⟩
          have hS1 : Below W4.heap.size W4 W6 := by rw [← hW6]; exact ((Below.refl _ _).alloc (Nat.le_refl _) _).drew
          have HP1 : Hid (Blk W6 W4.heap.size [.int .i64 0, .int .i64 0]) := by unfold Hid; rw [← hW6]; exact Blk.new W4 #[.int .i64 0, .int .i64 0] _
          rw [hW6]
          refine hK _ _ ⟨fun _ => hS1, ?_⟩
          clear hK K
          repeat (first | (refine Go.XR.S_light rfl rfl (by assumption) ?_ (fun w' hS K hK => ?_) (fun K hK => ?_); rotate_left 1; (have hS1 := bcell hS; (first | (refine Go.XR.wp_load_at 29 _ rfl kb 0 rfl (keyC k) (At.below HK4.out (by rw [keyC_size]; omega) hS) _ Tryz.underlying29 rfl (keySize k) ?_) | go_step); exact hK); go_step; refine hK _ ?_; clear hK K))
          clear hW6 hS0
          refine Go.XR.S_heavy (fun K hK => ?_)
          go_step
          ((with_reducible refine ((Hg.out W6 hS1)).mono ?_); rintro e w' ⟨rfl, hb1⟩)
          have HP2 := Lib.hid (HP1.out.below hb1)
          have hS2 : Below W4.heap.size W4 w' := hS1.trans (hb1.mono hS1.size)
          have f0 := HP2.out.free 0
          have f1 := HP2.out.free 1
          have e0 := HP2.out.cell (i := 0) rfl
          have e1 := HP2.out.cell (i := 1) rfl
          clear hb1
          refine hK _ _ ⟨fun _ => hS2, ?_⟩
          clear hK K
          repeat (first | (refine Go.XR.S_light rfl rfl (by assumption) ?_ (fun w' hS K hK => ?_) (fun K hK => ?_); rotate_left 1; (have hS1 := bcell hS; (first | (refine Go.XR.wp_load_at 29 _ rfl kb 0 rfl (keyC k) (At.below HK4.out (by rw [keyC_size]; omega) hS) _ Tryz.underlying29 rfl (keySize k) ?_) | go_step); exact hK); go_step; refine hK _ ?_; clear hK K))
          obtain ⟨W7, hW7⟩ : ∃ W7, w' = W7 := ⟨_, rfl⟩
          rw [hW7] at hS2 HP2 f0 f1 e0 e1 ⊢
          clear hW7 w'
          refine Go.XR.S_heavy (fun K hK => ?_)
          go_step
          obtain ⟨W5, hW3⟩ : ∃ V, (W7.setCell ⟨W4.heap.size, 0, none⟩ (.int .i64 v.shelf)).setCell ⟨W4.heap.size, 1, none⟩ (.int .i64 v.slot) = V := ⟨_, rfl⟩
          have hS3 : Below W4.heap.size W4 W5 := by
            rw [← hW3]
            exact hS2.trans ((((But.refl [W4.heap.size] W7).setCell (.inl (by simp)) _).setCell (.inl (by simp)) _).below hS2.size (by simp))
          obtain ⟨pb, hpb⟩ : ∃ pb, W4.heap.size = pb := ⟨_, rfl⟩
          have Hpb : Hid (W4.heap.size ≤ pb) := by unfold Hid; omega
          have HP3 : Hid (Blk W5 pb (placeL v)) := by unfold Hid; rw [← hW3, ← hpb]; exact (HP2.out.set 0 (.int .i64 v.shelf)).set 1 (.int .i64 v.slot)
          have Hb3 := Lib.hid hS3
          rw [hW3]
          refine hK _ _ ⟨fun _ => hS3, ?_⟩
          clear hK K
          repeat (first | (refine Go.XR.S_light rfl rfl (by assumption) ?_ (fun w' hS K hK => ?_) (fun K hK => ?_); rotate_left 1; (have hS1 := bcell hS; (first | (refine Go.XR.wp_load_at 29 _ rfl kb 0 rfl (keyC k) (At.below HK4.out (by rw [keyC_size]; omega) hS) _ Tryz.underlying29 rfl (keySize k) ?_) | go_step); exact hK); go_step; refine hK _ ?_; clear hK K))
          rw [hpb]
          clear hW3 hpb f0 f1 e0 e1 HP1 HP2 hS1 hS2 hS3
          repeat (first | (refine Go.XR.S_heavy (fun K hK => ?_); go_step; refine hK _ _ ⟨fun h => by simp at h, ?_⟩; clear hK K))
          refine Go.XR.S_nil ?_
          have H5 := Lib.hid (H4.out.below Hb3.out)
          have HR5 : Hid (Blk W5 rb [.int .i64 0, .int .i64 0]) := HR.out.heap (H5.out.own Hrl.out.1 Hrl.out.2).1
          have Hpf : Hid (pb ∉ foot p vp vq Fi Fc) := fun hm => by have h1 := H4.out.fin.lt _ hm; have h2 := Hpb.out; omega
          cases is with
          | false =>
            have d0 : W5.cell? ⟨pb, 0, none⟩ = some (.int .i64 v.shelf) := HP3.out.cell (i := 0) rfl
            have d1 : W5.cell? ⟨pb, 1, none⟩ = some (.int .i64 v.slot) := HP3.out.cell (i := 1) rfl
            have r0 := HR5.out.cell (i := 0) rfl
            have r1 := HR5.out.cell (i := 1) rfl
            have f0 := HR5.out.free 0
            have f1 := HR5.out.free 1
            go_wp2
            (try simp only [Exit.inBlock, Exit.then])
            refine bodyPost_ret (results_at rfl (g := rb) rfl rfl (((HR5.out.set 0 (.int .i64 v.shelf)).set 1 (.int .i64 v.slot)).toAt) Tryz.underlying40 rfl (placeSize v)) rfl ?_
            have hn : aget M.D k = none := by
              have h2 := His.out
              cases h : aget M.D k with
              | none => rfl
              | some x => rw [h] at h2; cases h2
            have hv0 : v = place0 := by have := Hv2.out; rw [hn] at this; exact this.symm
            have hff : fFind M k draw [] = (none, { M with asked := M.asked + 1 }) := by unfold fFind; rw [if_pos Hmay.out, Hcg.out, hn]
            refine ⟨[], fun _ _ v h => (by rw [hn] at h; cases h), by rw [hff, hv0]; rfl, Fi, Fc, ?_⟩
            rw [hff]
            exact (HW.out.trans H5.out).side (((But.refl [rb] W5).setCell (.inl (by simp)) (i := 0) (.int .i64 v.shelf)).setCell (.inl (by simp)) (i := 1) (.int .i64 v.slot)) (by intro b hb; rw [List.mem_singleton] at hb; subst hb; exact Hro.out)
          | true =>
            have Hx : Hid (aget M.D k = some v) := by
              unfold Hid
              have h1 := Hv2.out
              have h2 := His.out
              cases h : aget M.D k with
              | none => rw [h] at h2; cases h2
              | some x => rw [h] at h1; exact congrArg some h1
            have c4 := H5.out.fin.blk.cell (i := 4) rfl
            have f4 := H5.out.fin.blk.free 4
            clear Hg Hv2 His c0
            go_wp2_with (refine opIs (X := .store 3 (.tmp 58) (.tmp 56)) rfl ?_; refine Go.XR.stop (fun X hX => ?_))
            refine hX.out ?_
            clear hX X
            obtain ⟨W6, hW6⟩ : ∃ W6, W5.setCell ⟨p, 4, none⟩ (.int .i64 ((M.loaded : Int) + 1)) = W6 := ⟨_, rfl⟩
            have H6 := Lib.hid H5.out.loaded
            rw [hW6] at H6
            have HP6 : Hid (Blk W6 pb (placeL v)) := by
              unfold Hid
              rw [← hW6]
              exact HP3.out.but ((But.refl [p] W5).setCell (.inl (by simp)) _) (by rw [List.mem_singleton]; intro e; exact Hpf.out (mem_foot.2 (.inl e)))
            go_wp2
            clear hW6 c4 f4 H5 HR5 HP3 H4 HR4 HK4 Hb3 hkn4 hpn4
            obtain ⟨s, hs⟩ : ∃ s : I64, v.shelf = s.1 := ⟨⟨v.shelf, (H6.out.fin.ix.rng k v Hx.out).1⟩, rfl⟩
            have Hs := Lib.hid hs
            have hpn6 : p < W6.heap.size := H6.out.fin.blk.lt
            have hpb6 : pb < W6.heap.size := HP6.out.lt
            have c2 := H6.out.fin.blk.cell (i := 2) rfl
            have d0 : W6.cell? ⟨pb, 0, none⟩ = some (.int .i64 s.1) := by rw [← hs]; exact HP6.out.cell (i := 0) rfl
            have H6d := Lib.hid (H6.out.below (Below.refl _ _).drew)
            have Hsh := Lib.hid (fshelf_any W6.drew Fi Fc p ip vp vq cp _ H6d.out.fin hlen s.1 s.2)
            have hS0 : Below W6.heap.size W6 W6.drew := (Below.refl _ _).drew
            clear hs
            refine Go.XR.region_sched ((Below W6.heap.size W6)) [(0, true), (1, true), (2, true), (3, true), (4, true), (5, true), (6, true), (7, true), (8, true), (10, true), (9, false), (11, false)] [11] Tryz.mixed (by kernel_rfl) (by kernel_rfl) (by kernel_rfl) ?_
            simp only [List.map_cons, List.map_nil, List.getElem?_cons_succ, List.getElem?_cons_zero]
            repeat (first | (refine Go.XR.S_light rfl rfl (by assumption) ?_ (fun w' hS K hK => ?_) (fun K hK => ?_); rotate_left 1; (have hS1 := bcell hS; go_step; exact hK); go_step; refine hK _ ?_; clear hK K))
            refine Go.XR.S_heavy (fun K hK => ?_)
            go_step
            ((with_reducible refine (Hsh.out).mono ?_); rintro e w' ⟨L, hL, la, lc, rfl, hrow, hnew, hb7⟩)
            have HL := Lib.hid hL
            have H7 := Lib.hid (H6d.out.below hb7)
            have HP7 := Lib.hid (HP6.out.below (hS0.trans (hb7.mono hS0.size)))
            have hS7 : Below W6.heap.size W6 w' := hS0.trans (hb7.mono hS0.size)
            have hLl : L.length ≤ 2^20 := Nat.le_trans (ShelfOf.len hL) hlen
            obtain ⟨tb, a, cap, T, hch⟩ := H7.out.fin.ch
            have Hld := Lib.hid (cload_any w' Fc cp tb M.room a cap M.C T hch s la lc L hrow hLl (fun x hx hm => by
              have h1 := hnew x hx
              have h2 := H6d.out.fin.lt _ (mem_foot.2 (.inr (.inr (.inr (.inr hm)))))
              omega) draw hd)
            unfold i64V at Hld
            clear hL hrow hnew hb7 hLl hch Hsh hS0
            refine hK _ _ ⟨fun _ => hS7, ?_⟩
            clear hK K
            repeat (first | (refine Go.XR.S_light rfl rfl (by assumption) ?_ (fun w' hS K hK => ?_) (fun K hK => ?_); rotate_left 1; (have hS1 := bcell hS; go_step; exact hK); go_step; refine hK _ ?_; clear hK K))
            obtain ⟨W7, hW7⟩ : ∃ W7, w' = W7 := ⟨_, rfl⟩
            rw [hW7] at H7 HP7 Hld hS7 ⊢
            clear hW7 w'
            refine Go.XR.S_heavy (fun K hK => ?_)
            go_step
            ((with_reducible refine (Hld.out).mono ?_); rintro e w' ⟨rfl, F8, a8, cap8, T8, hC8, hb8, hg8⟩)
            have H8 := Lib.hid (H7.out.ch hC8 hb8 hg8)
            have HP8 := Lib.hid (HP7.out.but hb8 (fun hm => Hpf.out (mem_foot.2 (.inr (.inr (.inr (.inr hm)))))))
            clear hC8 hb8 hg8 c2 d0 hS7 Hld
            refine hK _ _ ⟨fun h => by simp at h, ?_⟩
            clear hK K
            repeat (first | (refine Go.XR.S_light rfl rfl (by assumption) ?_ (fun w' hS K hK => ?_) (fun K hK => ?_); rotate_left 1; (have hS1 := bcell hS; go_step; exact hK); go_step; refine hK _ ?_; clear hK K))
            obtain ⟨W8, hW8⟩ : ∃ W8, w' = W8 := ⟨_, rfl⟩
            rw [hW8] at H8 HP8 ⊢
            clear hW8 w'
            repeat (first | (refine Go.XR.S_heavy (fun K hK => ?_); go_step; refine hK _ _ ⟨fun h => by simp at h, ?_⟩; clear hK K))
            refine Go.XR.S_nil ?_
            have HR8 : Hid (Blk W8 rb [.int .i64 0, .int .i64 0]) := HR.out.heap (H8.out.own Hrl.out.1 Hrl.out.2).1
            have e0 : W8.cell? ⟨pb, 0, none⟩ = some (.int .i64 v.shelf) := HP8.out.cell (i := 0) rfl
            have e1 : W8.cell? ⟨pb, 1, none⟩ = some (.int .i64 v.slot) := HP8.out.cell (i := 1) rfl
            have r0 := HR8.out.cell (i := 0) rfl
            have r1 := HR8.out.cell (i := 1) rfl
            have f0 := HR8.out.free 0
            have f1 := HR8.out.free 1
            have hrf : rb ∉ foot p vp vq Fi F8 := (H8.out.own Hrl.out.1 Hrl.out.2).2.1
            go_wp2
            (try simp only [Exit.inBlock, Exit.then])
            refine bodyPost_ret (results_at rfl (g := rb) rfl rfl (((HR8.out.set 0 (.int .i64 v.shelf)).set 1 (.int .i64 v.slot)).toAt) Tryz.underlying40 rfl (placeSize v)) rfl ?_
            have hff : fFind M k draw L = (some v, { M with asked := M.asked + 1, loaded := M.loaded + 1, C := cLoad M.room M.C s L draw }) := by
              unfold fFind; rw [if_pos Hmay.out, Hcg.out, Hx.out]; simp only [Hs.out, mkI_val]
            refine ⟨L, fun _ _ x hx => (by rw [Hx.out] at hx; injection hx with hx; rw [← hx, Hs.out]; exact HL.out), by rw [hff]; rfl, Fi, F8, ?_⟩
            rw [hff]
            exact (HW.out.trans H8.out).side (((But.refl [rb] W8).setCell (.inl (by simp)) (i := 0) (.int .i64 v.shelf)).setCell (.inl (by simp)) (i := 1) (.int .i64 v.slot)) (by intro b hb; rw [List.mem_singleton] at hb; subst hb; exact ⟨Hro.out.1, hrf⟩)
    · skip
      refine Go.XR.S_heavy (fun K hK => ?_)
      go_step
      obtain ⟨W6, hW6⟩ : ∃ W6, (W1.alloc (.cells #[.int .i64 0, .int .i64 0] 40)).drew = W6 := ⟨_, rfl⟩
      have hS1 : Below W1.heap.size W1 W6 := by rw [← hW6]; exact ((Below.refl _ _).alloc (Nat.le_refl _) _).drew
      have HP1 : Hid (Blk W6 W1.heap.size [.int .i64 0, .int .i64 0]) := by unfold Hid; rw [← hW6]; exact Blk.new W1 #[.int .i64 0, .int .i64 0] _
      rw [hW6]
      refine hK _ _ ⟨fun _ => hS1, ?_⟩
      clear hK K
      repeat (first | (refine Go.XR.S_light rfl rfl (by assumption) ?_ (fun w' hS K hK => ?_) (fun K hK => ?_); rotate_left 1; (have hS1 := bcell hS; (first | (refine Go.XR.wp_load_at 29 _ rfl kb 0 rfl (keyC k) (At.below HK1.out (by rw [keyC_size]; omega) hS) _ Tryz.underlying29 rfl (keySize k) ?_) | go_step); exact hK); go_step; refine hK _ ?_; clear hK K))
      clear hW6 hS0
      refine Go.XR.S_heavy (fun K hK => ?_)
      go_step
      ((with_reducible refine ((Hg.out W6 hS1)).mono ?_); rintro e w' ⟨rfl, hb1⟩)
      have HP2 := Lib.hid (HP1.out.below hb1)
      have hS2 : Below W1.heap.size W1 w' := hS1.trans (hb1.mono hS1.size)
      have f0 := HP2.out.free 0
      have f1 := HP2.out.free 1
      have e0 := HP2.out.cell (i := 0) rfl
      have e1 := HP2.out.cell (i := 1) rfl
      clear hb1
      refine hK _ _ ⟨fun _ => hS2, ?_⟩
      clear hK K
      repeat (first | (refine Go.XR.S_light rfl rfl (by assumption) ?_ (fun w' hS K hK => ?_) (fun K hK => ?_); rotate_left 1; (have hS1 := bcell hS; (first | (refine Go.XR.wp_load_at 29 _ rfl kb 0 rfl (keyC k) (At.below HK1.out (by rw [keyC_size]; omega) hS) _ Tryz.underlying29 rfl (keySize k) ?_) | go_step); exact hK); go_step; refine hK _ ?_; clear hK K))
      obtain ⟨W7, hW7⟩ : ∃ W7, w' = W7 := ⟨_, rfl⟩
      rw [hW7] at hS2 HP2 f0 f1 e0 e1 ⊢
      clear hW7 w'
      refine Go.XR.S_heavy (fun K hK => ?_)
      go_step
      obtain ⟨W3, hW3⟩ : ∃ V, (W7.setCell ⟨W1.heap.size, 0, none⟩ (.int .i64 v.shelf)).setCell ⟨W1.heap.size, 1, none⟩ (.int .i64 v.slot) = V := ⟨_, rfl⟩
      have hS3 : Below W1.heap.size W1 W3 := by
        rw [← hW3]
        exact hS2.trans ((((But.refl [W1.heap.size] W7).setCell (.inl (by simp)) _).setCell (.inl (by simp)) _).below hS2.size (by simp))
      obtain ⟨pb, hpb⟩ : ∃ pb, W1.heap.size = pb := ⟨_, rfl⟩
      have Hpb : Hid (W1.heap.size ≤ pb) := by unfold Hid; omega
      have HP3 : Hid (Blk W3 pb (placeL v)) := by unfold Hid; rw [← hW3, ← hpb]; exact (HP2.out.set 0 (.int .i64 v.shelf)).set 1 (.int .i64 v.slot)
      have Hb3 := Lib.hid hS3
      rw [hW3]
      refine hK _ _ ⟨fun _ => hS3, ?_⟩
      clear hK K
      repeat (first | (refine Go.XR.S_light rfl rfl (by assumption) ?_ (fun w' hS K hK => ?_) (fun K hK => ?_); rotate_left 1; (have hS1 := bcell hS; (first | (refine Go.XR.wp_load_at 29 _ rfl kb 0 rfl (keyC k) (At.below HK1.out (by rw [keyC_size]; omega) hS) _ Tryz.underlying29 rfl (keySize k) ?_) | go_step); exact hK); go_step; refine hK _ ?_; clear hK K))
      rw [hpb]
      clear hW3 hpb f0 f1 e0 e1 HP1 HP2 hS1 hS2 hS3
      repeat (first | (refine Go.XR.S_heavy (fun K hK => ?_); go_step; refine hK _ _ ⟨fun h => by simp at h, ?_⟩; clear hK K))
      refine Go.XR.S_nil ?_
      have H3 := Lib.hid (H1.out.below Hb3.out)
      have HR3 : Hid (Blk W3 rb [.int .i64 0, .int .i64 0]) := HR1.out.below Hb3.out
      cases is with
      | true =>
        have d0 : W3.cell? ⟨pb, 0, none⟩ = some (.int .i64 v.shelf) := HP3.out.cell (i := 0) rfl
        have d1 : W3.cell? ⟨pb, 1, none⟩ = some (.int .i64 v.slot) := HP3.out.cell (i := 1) rfl
        have r0 := HR3.out.cell (i := 0) rfl
        have r1 := HR3.out.cell (i := 1) rfl
        have f0 := HR3.out.free 0
        have f1 := HR3.out.free 1
        go_wp2
        (try simp only [Exit.inBlock, Exit.then])
        refine bodyPost_ret (results_at rfl (g := rb) rfl rfl (((HR3.out.set 0 (.int .i64 v.shelf)).set 1 (.int .i64 v.slot)).toAt) Tryz.underlying40 rfl (placeSize v)) rfl ?_
        have hcg : cGet M.C k = some v := by
          have h1 := Hv2.out
          have h2 := His.out
          cases h : cGet M.C k with
          | none => rw [h] at h2; cases h2
          | some x => rw [h] at h1; exact congrArg some h1
        have hff : fFind M k draw [] = (some v, M) := by unfold fFind; rw [if_pos Hmay.out, hcg]
        refine ⟨[], fun _ h => (by rw [hcg] at h; cases h), by rw [hff]; rfl, Fi, Fc, ?_⟩
        rw [hff]
        exact (HW.out.trans H3.out).side (((But.refl [rb] W3).setCell (.inl (by simp)) (i := 0) (.int .i64 v.shelf)).setCell (.inl (by simp)) (i := 1) (.int .i64 v.slot)) (by intro b hb; rw [List.mem_singleton] at hb; subst hb; exact Hro.out)
      | false =>
        have Hcg : Hid (cGet M.C k = none) := by
          unfold Hid
          have h2 := His.out
          cases h : cGet M.C k with
          | none => rfl
          | some x => rw [h] at h2; cases h2
        clear Hv2 His Hg Hpb HP3
        have c3 := H3.out.fin.blk.cell (i := 3) rfl
        have f3 := H3.out.fin.blk.free 3
        go_wp2_with (refine opIs (X := .store 3 (.tmp 41) (.tmp 39)) rfl ?_; refine Go.XR.stop (fun X hX => ?_))
        refine hX.out ?_
        clear hX X
        obtain ⟨W4, hW4⟩ : ∃ W4, W3.setCell ⟨p, 3, none⟩ (.int .i64 ((M.asked : Int) + 1)) = W4 := ⟨_, rfl⟩
        have H4 := Lib.hid H3.out.asked
        rw [hW4] at H4
        go_wp2
        clear hW4 c3 f3 H3 HR3 c2
        have HK4 : Hid (At W4 kb 0 (keyC k)) := HK.out.heap (H4.out.own Hko.out.1 Hko.out.2).1
        have HR4 : Hid (Blk W4 rb [.int .i64 0, .int .i64 0]) := HR.out.heap (H4.out.own Hrl.out.1 Hrl.out.2).1
        have hkn4 : kb < W4.heap.size := (H4.out.own Hko.out.1 Hko.out.2).2.2
        have hpn4 : p < W4.heap.size := H4.out.fin.blk.lt
        have c0 := H4.out.fin.blk.cell (i := 0) rfl
        obtain ⟨v, hv⟩ : ∃ v, (aget M.D k).getD place0 = v := ⟨_, rfl⟩
        obtain ⟨is, his⟩ : ∃ b, (aget M.D k).isSome = b := ⟨_, rfl⟩
        have Hg : Hid (∀ W9, Below W4.heap.size W4 W9 → Calls Tryz.prog 43 #[.pointer (some ⟨ip, 0, none⟩), keyV k] W9 fun e w' => e = .returned (.tuple #[.agg #[.int .i64 v.shelf, .int .i64 v.slot], .bool is]) ∧ Below W9.heap.size W9 w') := fun W9 hb => by
          refine (ix_get (H4.out.fin.ix.below hb) k).mono ?_
          rintro e w' ⟨rfl, h2⟩
          rw [hv, his]
          exact ⟨rfl, h2⟩
        have Hv2 := Lib.hid hv
        have His := Lib.hid his
        clear hv his
        clear Hb3 HR1 HK1 H1 hpn1 hkn1
        have hS0 : Below W4.heap.size W4 W4.drew := (Below.refl _ _).drew
        refine Go.XR.region_fork ((Below W4.heap.size W4)) [(0, true), (1, true), (2, true), (3, true), (4, true)] 5 9 [(6, true), (7, true), (8, true), (9, false), (10, false), (11, false)] [(5, false), (6, true), (7, true), (8, true), (10, false), (11, false)] [11] Tryz.mixed (by kernel_rfl) (by kernel_rfl) (by kernel_rfl) ?_
        simp only [List.map_cons, List.map_nil, List.getElem?_cons_succ, List.getElem?_cons_zero]
        repeat (first | (refine Go.XR.S_light rfl rfl (by assumption) ?_ (fun w' hS K hK => ?_) (fun K hK => ?_); rotate_left 1; (have hS1 := bcell hS; (first | (refine Go.XR.wp_load_at 29 _ rfl kb 0 rfl (keyC k) (At.below HK4.out (by rw [keyC_size]; omega) hS) _ Tryz.underlying29 rfl (keySize k) ?_) | go_step); exact hK); go_step; refine hK _ ?_; clear hK K))
        refine Go.XR.S_nil ?_
        refine Go.XR.Fork.both ?_ ?_
        · refine Go.XR.S_heavy (fun K hK => ?_)
          go_step
          ((with_reducible refine ((Hg.out W4.drew hS0)).mono ?_); rintro e w' ⟨rfl, hb1⟩)
          have hS1 : Below W4.heap.size W4 w' := hS0.trans (hb1.mono hS0.size)
          clear hb1 hS0
          refine hK _ _ ⟨fun _ => hS1, ?_⟩
          clear hK K
          repeat (first | (refine Go.XR.S_light rfl rfl (by assumption) ?_ (fun w' hS K hK => ?_) (fun K hK => ?_); rotate_left 1; (have hS1 := bcell hS; (first | (refine Go.XR.wp_load_at 29 _ rfl kb 0 rfl (keyC k) (At.below HK4.out (by rw [keyC_size]; omega) hS) _ Tryz.underlying29 rfl (keySize k) ?_) | go_step); exact hK); go_step; refine hK _ ?_; clear hK K))
          obtain ⟨W7, hW7⟩ : ∃ W7, w' = W7 := ⟨_, rfl⟩
          rw [hW7] at hS1 ⊢
          clear hW7 w'
          refine Go.XR.S_heavy (fun K hK => ?_)
          go_step
          have hS2 := hS1.alloc hS1.size (.cells #[.int .i64 0, .int .i64 0] 40)
          refine hK _ _ ⟨fun _ => hS2, ?_⟩
          clear hK K
          repeat (first | (refine Go.XR.S_light rfl rfl (by assumption) ?_ (fun w' hS K hK => ?_) (fun K hK => ?_); rotate_left 1; (have hS1 := bcell hS; (first | (refine Go.XR.wp_load_at 29 _ rfl kb 0 rfl (keyC k) (At.below HK4.out (by rw [keyC_size]; omega) hS) _ Tryz.underlying29 rfl (keySize k) ?_) | go_step); exact hK); go_step; refine hK _ ?_; clear hK K))
          refine Go.XR.S_heavy (fun K hK => ?_)
          go_step
          obtain ⟨W5, hW3⟩ : ∃ V, W7.alloc (.cells #[.int .i64 v.shelf, .int .i64 v.slot] 40) = V := ⟨_, rfl⟩
          have hS3 : Below W4.heap.size W4 W5 := by rw [← hW3]; exact hS1.alloc hS1.size _
          obtain ⟨pb, hpb⟩ : ∃ pb, W7.heap.size = pb := ⟨_, rfl⟩
          have Hpb : Hid (W4.heap.size ≤ pb) := by unfold Hid; rw [← hpb]; exact hS1.size
          have HP3 : Hid (Blk W5 pb (placeL v)) := by unfold Hid; rw [← hW3, ← hpb]; exact Blk.new W7 (placeC v) _
          rw [hW3, hpb]
          clear hW3 hpb hS2
          refine hK _ _ ⟨fun _ => hS3, ?_⟩
          clear hK K
          repeat (first | (refine Go.XR.S_light rfl rfl (by assumption) ?_ (fun w' hS K hK => ?_) (fun K hK => ?_); rotate_left 1; (have hS1 := bcell hS; (first | (refine Go.XR.wp_load_at 29 _ rfl kb 0 rfl (keyC k) (At.below HK4.out (by rw [keyC_size]; omega) hS) _ Tryz.underlying29 rfl (keySize k) ?_) | go_step); exact hK); go_step; refine hK _ ?_; clear hK K))
          repeat (first | (refine Go.XR.S_heavy (fun K hK => ?_); go_step; refine hK _ _ ⟨fun h => by simp at h, ?_⟩; clear hK K))
          refine Go.XR.S_nil ?_
          have Hb3 := Lib.hid hS3
          clear hS1 hS3
          have H5 := Lib.hid (H4.out.below Hb3.out)
          have HR5 : Hid (Blk W5 rb [.int .i64 0, .int .i64 0]) := HR.out.heap (H5.out.own Hrl.out.1 Hrl.out.2).1
          have Hpf : Hid (pb ∉ foot p vp vq Fi Fc) := fun hm => by have h1 := H4.out.fin.lt _ hm; have h2 := Hpb.out; omega
          cases is with
          | false =>
            have d0 : W5.cell? ⟨pb, 0, none⟩ = some (.int .i64 v.shelf) := HP3.out.cell (i := 0) rfl
            have d1 : W5.cell? ⟨pb, 1, none⟩ = some (.int .i64 v.slot) := HP3.out.cell (i := 1) rfl
            have r0 := HR5.out.cell (i := 0) rfl
            have r1 := HR5.out.cell (i := 1) rfl
            have f0 := HR5.out.free 0
            have f1 := HR5.out.free 1
            go_wp2
            (try simp only [Exit.inBlock, Exit.then])
            refine bodyPost_ret (results_at rfl (g := rb) rfl rfl (((HR5.out.set 0 (.int .i64 v.shelf)).set 1 (.int .i64 v.slot)).toAt) Tryz.underlying40 rfl (placeSize v)) rfl ?_
            have hn : aget M.D k = none := by
              have h2 := His.out
              cases h : aget M.D k with
              | none => rfl
              | some x => rw [h] at h2; cases h2
            have hv0 : v = place0 := by have := Hv2.out; rw [hn] at this; exact this.symm
            have hff : fFind M k draw [] = (none, { M with asked := M.asked + 1 }) := by unfold fFind; rw [if_pos Hmay.out, Hcg.out, hn]
            refine ⟨[], fun _ _ v h => (by rw [hn] at h; cases h), by rw [hff, hv0]; rfl, Fi, Fc, ?_⟩
            rw [hff]
            exact (HW.out.trans H5.out).side (((But.refl [rb] W5).setCell (.inl (by simp)) (i := 0) (.int .i64 v.shelf)).setCell (.inl (by simp)) (i := 1) (.int .i64 v.slot)) (by intro b hb; rw [List.mem_singleton] at hb; subst hb; exact Hro.out)
          | true =>
            have Hx : Hid (aget M.D k = some v) := by
              unfold Hid
              have h1 := Hv2.out
              have h2 := His.out
              cases h : aget M.D k with
              | none => rw [h] at h2; cases h2
              | some x => rw [h] at h1; exact congrArg some h1
            have c4 := H5.out.fin.blk.cell (i := 4) rfl
            have f4 := H5.out.fin.blk.free 4
            clear Hg Hv2 His c0
            go_wp2_with (refine opIs (X := .store 3 (.tmp 58) (.tmp 56)) rfl ?_; refine Go.XR.stop (fun X hX => ?_))
            refine hX.out ?_
            clear hX X
            obtain ⟨W6, hW6⟩ : ∃ W6, W5.setCell ⟨p, 4, none⟩ (.int .i64 ((M.loaded : Int) + 1)) = W6 := ⟨_, rfl⟩
            have H6 := Lib.hid H5.out.loaded
            rw [hW6] at H6
            have HP6 : Hid (Blk W6 pb (placeL v)) := by
              unfold Hid
              rw [← hW6]
              exact HP3.out.but ((But.refl [p] W5).setCell (.inl (by simp)) _) (by rw [List.mem_singleton]; intro e; exact Hpf.out (mem_foot.2 (.inl e)))
            go_wp2
            clear hW6 c4 f4 H5 HR5 HP3 H4 HR4 HK4 Hb3 hkn4 hpn4
            obtain ⟨s, hs⟩ : ∃ s : I64, v.shelf = s.1 := ⟨⟨v.shelf, (H6.out.fin.ix.rng k v Hx.out).1⟩, rfl⟩
            have Hs := Lib.hid hs
            have hpn6 : p < W6.heap.size := H6.out.fin.blk.lt
            have hpb6 : pb < W6.heap.size := HP6.out.lt
            have c2 := H6.out.fin.blk.cell (i := 2) rfl
            have d0 : W6.cell? ⟨pb, 0, none⟩ = some (.int .i64 s.1) := by rw [← hs]; exact HP6.out.cell (i := 0) rfl
            have H6d := Lib.hid (H6.out.below (Below.refl _ _).drew)
            have Hsh := Lib.hid (fshelf_any W6.drew Fi Fc p ip vp vq cp _ H6d.out.fin hlen s.1 s.2)
            have hS0 : Below W6.heap.size W6 W6.drew := (Below.refl _ _).drew
            clear hs
            refine Go.XR.region_sched ((Below W6.heap.size W6)) [(0, true), (1, true), (2, true), (3, true), (4, true), (5, true), (6, true), (7, true), (8, true), (10, true), (9, false), (11, false)] [11] Tryz.mixed (by kernel_rfl) (by kernel_rfl) (by kernel_rfl) ?_
            simp only [List.map_cons, List.map_nil, List.getElem?_cons_succ, List.getElem?_cons_zero]
            repeat (first | (refine Go.XR.S_light rfl rfl (by assumption) ?_ (fun w' hS K hK => ?_) (fun K hK => ?_); rotate_left 1; (have hS1 := bcell hS; go_step; exact hK); go_step; refine hK _ ?_; clear hK K))
            refine Go.XR.S_heavy (fun K hK => ?_)
            go_step
            ((with_reducible refine (Hsh.out).mono ?_); rintro e w' ⟨L, hL, la, lc, rfl, hrow, hnew, hb7⟩)
            have HL := Lib.hid hL
            have H7 := Lib.hid (H6d.out.below hb7)
            have HP7 := Lib.hid (HP6.out.below (hS0.trans (hb7.mono hS0.size)))
            have hS7 : Below W6.heap.size W6 w' := hS0.trans (hb7.mono hS0.size)
            have hLl : L.length ≤ 2^20 := Nat.le_trans (ShelfOf.len hL) hlen
            obtain ⟨tb, a, cap, T, hch⟩ := H7.out.fin.ch
            have Hld := Lib.hid (cload_any w' Fc cp tb M.room a cap M.C T hch s la lc L hrow hLl (fun x hx hm => by
              have h1 := hnew x hx
              have h2 := H6d.out.fin.lt _ (mem_foot.2 (.inr (.inr (.inr (.inr hm)))))
              omega) draw hd)
            unfold i64V at Hld
            clear hL hrow hnew hb7 hLl hch Hsh hS0
            refine hK _ _ ⟨fun _ => hS7, ?_⟩
            clear hK K
            repeat (first | (refine Go.XR.S_light rfl rfl (by assumption) ?_ (fun w' hS K hK => ?_) (fun K hK => ?_); rotate_left 1; (have hS1 := bcell hS; go_step; exact hK); go_step; refine hK _ ?_; clear hK K))
            obtain ⟨W7, hW7⟩ : ∃ W7, w' = W7 := ⟨_, rfl⟩
            rw [hW7] at H7 HP7 Hld hS7 ⊢
            clear hW7 w'
            refine Go.XR.S_heavy (fun K hK => ?_)
            go_step
            ((with_reducible refine (Hld.out).mono ?_); rintro e w' ⟨rfl, F8, a8, cap8, T8, hC8, hb8, hg8⟩)
            have H8 := Lib.hid (H7.out.ch hC8 hb8 hg8)
            have HP8 := Lib.hid (HP7.out.but hb8 (fun hm => Hpf.out (mem_foot.2 (.inr (.inr (.inr (.inr hm)))))))
            clear hC8 hb8 hg8 c2 d0 hS7 Hld
            refine hK _ _ ⟨fun h => by simp at h, ?_⟩
            clear hK K
            repeat (first | (refine Go.XR.S_light rfl rfl (by assumption) ?_ (fun w' hS K hK => ?_) (fun K hK => ?_); rotate_left 1; (have hS1 := bcell hS; go_step; exact hK); go_step; refine hK _ ?_; clear hK K))
            obtain ⟨W8, hW8⟩ : ∃ W8, w' = W8 := ⟨_, rfl⟩
            rw [hW8] at H8 HP8 ⊢
            clear hW8 w'
            repeat (first | (refine Go.XR.S_heavy (fun K hK => ?_); go_step; refine hK _ _ ⟨fun h => by simp at h, ?_⟩; clear hK K))
            refine Go.XR.S_nil ?_
            have HR8 : Hid (Blk W8 rb [.int .i64 0, .int .i64 0]) := HR.out.heap (H8.out.own Hrl.out.1 Hrl.out.2).1
            have e0 : W8.cell? ⟨pb, 0, none⟩ = some (.int .i64 v.shelf) := HP8.out.cell (i := 0) rfl
            have e1 : W8.cell? ⟨pb, 1, none⟩ = some (.int .i64 v.slot) := HP8.out.cell (i := 1) rfl
            have r0 := HR8.out.cell (i := 0) rfl
            have r1 := HR8.out.cell (i := 1) rfl
            have f0 := HR8.out.free 0
            have f1 := HR8.out.free 1
            have hrf : rb ∉ foot p vp vq Fi F8 := (H8.out.own Hrl.out.1 Hrl.out.2).2.1
            go_wp2
            (try simp only [Exit.inBlock, Exit.then])
            refine bodyPost_ret (results_at rfl (g := rb) rfl rfl (((HR8.out.set 0 (.int .i64 v.shelf)).set 1 (.int .i64 v.slot)).toAt) Tryz.underlying40 rfl (placeSize v)) rfl ?_
            have hff : fFind M k draw L = (some v, { M with asked := M.asked + 1, loaded := M.loaded + 1, C := cLoad M.room M.C s L draw }) := by
              unfold fFind; rw [if_pos Hmay.out, Hcg.out, Hx.out]; simp only [Hs.out, mkI_val]
            refine ⟨L, fun _ _ x hx => (by rw [Hx.out] at hx; injection hx with hx; rw [← hx, Hs.out]; exact HL.out), by rw [hff]; rfl, Fi, F8, ?_⟩
            rw [hff]
            exact (HW.out.trans H8.out).side (((But.refl [rb] W8).setCell (.inl (by simp)) (i := 0) (.int .i64 v.shelf)).setCell (.inl (by simp)) (i := 1) (.int .i64 v.slot)) (by intro b hb; rw [List.mem_singleton] at hb; subst hb; exact ⟨Hro.out.1, hrf⟩)
        · skip
          refine Go.XR.S_heavy (fun K hK => ?_)
          go_step
          obtain ⟨W6, hW6⟩ : ∃ W6, (W4.alloc (.cells #[.int .i64 0, .int .i64 0] 40)).drew = W6 := ⟨_, rfl⟩
          have hS1 : Below W4.heap.size W4 W6 := by rw [← hW6]; exact ((Below.refl _ _).alloc (Nat.le_refl _) _).drew
          have HP1 : Hid (Blk W6 W4.heap.size [.int .i64 0, .int .i64 0]) := by unfold Hid; rw [← hW6]; exact Blk.new W4 #[.int .i64 0, .int .i64 0] _
          rw [hW6]
          refine hK _ _ ⟨fun _ => hS1, ?_⟩
          clear hK K
          repeat (first | (refine Go.XR.S_light rfl rfl (by assumption) ?_ (fun w' hS K hK => ?_) (fun K hK => ?_); rotate_left 1; (have hS1 := bcell hS; (first | (refine Go.XR.wp_load_at 29 _ rfl kb 0 rfl (keyC k) (At.below HK4.out (by rw [keyC_size]; omega) hS) _ Tryz.underlying29 rfl (keySize k) ?_) | go_step); exact hK); go_step; refine hK _ ?_; clear hK K))
          clear hW6 hS0
          refine Go.XR.S_heavy (fun K hK => ?_)
          go_step
          ((with_reducible refine ((Hg.out W6 hS1)).mono ?_); rintro e w' ⟨rfl, hb1⟩)
          have HP2 := Lib.hid (HP1.out.below hb1)
          have hS2 : Below W4.heap.size W4 w' := hS1.trans (hb1.mono hS1.size)
          have f0 := HP2.out.free 0
          have f1 := HP2.out.free 1
          have e0 := HP2.out.cell (i := 0) rfl
          have e1 := HP2.out.cell (i := 1) rfl
          clear hb1
          refine hK _ _ ⟨fun _ => hS2, ?_⟩
          clear hK K
          repeat (first | (refine Go.XR.S_light rfl rfl (by assumption) ?_ (fun w' hS K hK => ?_) (fun K hK => ?_); rotate_left 1; (have hS1 := bcell hS; (first | (refine Go.XR.wp_load_at 29 _ rfl kb 0 rfl (keyC k) (At.below HK4.out (by rw [keyC_size]; omega) hS) _ Tryz.underlying29 rfl (keySize k) ?_) | go_step); exact hK); go_step; refine hK _ ?_; clear hK K))
          obtain ⟨W7, hW7⟩ : ∃ W7, w' = W7 := ⟨_, rfl⟩
          rw [hW7] at hS2 HP2 f0 f1 e0 e1 ⊢
          clear hW7 w'
          refine Go.XR.S_heavy (fun K hK => ?_)
          go_step
          obtain ⟨W5, hW3⟩ : ∃ V, (W7.setCell ⟨W4.heap.size, 0, none⟩ (.int .i64 v.shelf)).setCell ⟨W4.heap.size, 1, none⟩ (.int .i64 v.slot) = V := ⟨_, rfl⟩
          have hS3 : Below W4.heap.size W4 W5 := by
            rw [← hW3]
            exact hS2.trans ((((But.refl [W4.heap.size] W7).setCell (.inl (by simp)) _).setCell (.inl (by simp)) _).below hS2.size (by simp))
          obtain ⟨pb, hpb⟩ : ∃ pb, W4.heap.size = pb := ⟨_, rfl⟩
          have Hpb : Hid (W4.heap.size ≤ pb) := by unfold Hid; omega
          have HP3 : Hid (Blk W5 pb (placeL v)) := by unfold Hid; rw [← hW3, ← hpb]; exact (HP2.out.set 0 (.int .i64 v.shelf)).set 1 (.int .i64 v.slot)
          have Hb3 := Lib.hid hS3
          rw [hW3]
          refine hK _ _ ⟨fun _ => hS3, ?_⟩
          clear hK K
          repeat (first | (refine Go.XR.S_light rfl rfl (by assumption) ?_ (fun w' hS K hK => ?_) (fun K hK => ?_); rotate_left 1; (have hS1 := bcell hS; (first | (refine Go.XR.wp_load_at 29 _ rfl kb 0 rfl (keyC k) (At.below HK4.out (by rw [keyC_size]; omega) hS) _ Tryz.underlying29 rfl (keySize k) ?_) | go_step); exact hK); go_step; refine hK _ ?_; clear hK K))
          rw [hpb]
          clear hW3 hpb f0 f1 e0 e1 HP1 HP2 hS1 hS2 hS3
          repeat (first | (refine Go.XR.S_heavy (fun K hK => ?_); go_step; refine hK _ _ ⟨fun h => by simp at h, ?_⟩; clear hK K))
          refine Go.XR.S_nil ?_
          have H5 := Lib.hid (H4.out.below Hb3.out)
          have HR5 : Hid (Blk W5 rb [.int .i64 0, .int .i64 0]) := HR.out.heap (H5.out.own Hrl.out.1 Hrl.out.2).1
          have Hpf : Hid (pb ∉ foot p vp vq Fi Fc) := fun hm => by have h1 := H4.out.fin.lt _ hm; have h2 := Hpb.out; omega
          cases is with
          | false =>
            have d0 : W5.cell? ⟨pb, 0, none⟩ = some (.int .i64 v.shelf) := HP3.out.cell (i := 0) rfl
            have d1 : W5.cell? ⟨pb, 1, none⟩ = some (.int .i64 v.slot) := HP3.out.cell (i := 1) rfl
            have r0 := HR5.out.cell (i := 0) rfl
            have r1 := HR5.out.cell (i := 1) rfl
            have f0 := HR5.out.free 0
            have f1 := HR5.out.free 1
            go_wp2
            (try simp only [Exit.inBlock, Exit.then])
            refine bodyPost_ret (results_at rfl (g := rb) rfl rfl (((HR5.out.set 0 (.int .i64 v.shelf)).set 1 (.int .i64 v.slot)).toAt) Tryz.underlying40 rfl (placeSize v)) rfl ?_
            have hn : aget M.D k = none := by
              have h2 := His.out
              cases h : aget M.D k with
              | none => rfl
              | some x => rw [h] at h2; cases h2
            have hv0 : v = place0 := by have := Hv2.out; rw [hn] at this; exact this.symm
            have hff : fFind M k draw [] = (none, { M with asked := M.asked + 1 }) := by unfold fFind; rw [if_pos Hmay.out, Hcg.out, hn]
            refine ⟨[], fun _ _ v h => (by rw [hn] at h; cases h), by rw [hff, hv0]; rfl, Fi, Fc, ?_⟩
            rw [hff]
            exact (HW.out.trans H5.out).side (((But.refl [rb] W5).setCell (.inl (by simp)) (i := 0) (.int .i64 v.shelf)).setCell (.inl (by simp)) (i := 1) (.int .i64 v.slot)) (by intro b hb; rw [List.mem_singleton] at hb; subst hb; exact Hro.out)
          | true =>
            have Hx : Hid (aget M.D k = some v) := by
              unfold Hid
              have h1 := Hv2.out
              have h2 := His.out
              cases h : aget M.D k with
              | none => rw [h] at h2; cases h2
              | some x => rw [h] at h1; exact congrArg some h1
            have c4 := H5.out.fin.blk.cell (i := 4) rfl
            have f4 := H5.out.fin.blk.free 4
            clear Hg Hv2 His c0
            go_wp2_with (refine opIs (X := .store 3 (.tmp 58) (.tmp 56)) rfl ?_; refine Go.XR.stop (fun X hX => ?_))
            refine hX.out ?_
            clear hX X
            obtain ⟨W6, hW6⟩ : ∃ W6, W5.setCell ⟨p, 4, none⟩ (.int .i64 ((M.loaded : Int) + 1)) = W6 := ⟨_, rfl⟩
            have H6 := Lib.hid H5.out.loaded
            rw [hW6] at H6
            have HP6 : Hid (Blk W6 pb (placeL v)) := by
              unfold Hid
              rw [← hW6]
              exact HP3.out.but ((But.refl [p] W5).setCell (.inl (by simp)) _) (by rw [List.mem_singleton]; intro e; exact Hpf.out (mem_foot.2 (.inl e)))
            go_wp2
            clear hW6 c4 f4 H5 HR5 HP3 H4 HR4 HK4 Hb3 hkn4 hpn4
            obtain ⟨s, hs⟩ : ∃ s : I64, v.shelf = s.1 := ⟨⟨v.shelf, (H6.out.fin.ix.rng k v Hx.out).1⟩, rfl⟩
            have Hs := Lib.hid hs
            have hpn6 : p < W6.heap.size := H6.out.fin.blk.lt
            have hpb6 : pb < W6.heap.size := HP6.out.lt
            have c2 := H6.out.fin.blk.cell (i := 2) rfl
            have d0 : W6.cell? ⟨pb, 0, none⟩ = some (.int .i64 s.1) := by rw [← hs]; exact HP6.out.cell (i := 0) rfl
            have H6d := Lib.hid (H6.out.below (Below.refl _ _).drew)
            have Hsh := Lib.hid (fshelf_any W6.drew Fi Fc p ip vp vq cp _ H6d.out.fin hlen s.1 s.2)
            have hS0 : Below W6.heap.size W6 W6.drew := (Below.refl _ _).drew
            clear hs
            refine Go.XR.region_sched ((Below W6.heap.size W6)) [(0, true), (1, true), (2, true), (3, true), (4, true), (5, true), (6, true), (7, true), (8, true), (10, true), (9, false), (11, false)] [11] Tryz.mixed (by kernel_rfl) (by kernel_rfl) (by kernel_rfl) ?_
            simp only [List.map_cons, List.map_nil, List.getElem?_cons_succ, List.getElem?_cons_zero]
            repeat (first | (refine Go.XR.S_light rfl rfl (by assumption) ?_ (fun w' hS K hK => ?_) (fun K hK => ?_); rotate_left 1; (have hS1 := bcell hS; go_step; exact hK); go_step; refine hK _ ?_; clear hK K))
            refine Go.XR.S_heavy (fun K hK => ?_)
            go_step
            ((with_reducible refine (Hsh.out).mono ?_); rintro e w' ⟨L, hL, la, lc, rfl, hrow, hnew, hb7⟩)
            have HL := Lib.hid hL
            have H7 := Lib.hid (H6d.out.below hb7)
            have HP7 := Lib.hid (HP6.out.below (hS0.trans (hb7.mono hS0.size)))
            have hS7 : Below W6.heap.size W6 w' := hS0.trans (hb7.mono hS0.size)
            have hLl : L.length ≤ 2^20 := Nat.le_trans (ShelfOf.len hL) hlen
            obtain ⟨tb, a, cap, T, hch⟩ := H7.out.fin.ch
            have Hld := Lib.hid (cload_any w' Fc cp tb M.room a cap M.C T hch s la lc L hrow hLl (fun x hx hm => by
              have h1 := hnew x hx
              have h2 := H6d.out.fin.lt _ (mem_foot.2 (.inr (.inr (.inr (.inr hm)))))
              omega) draw hd)
            unfold i64V at Hld
            clear hL hrow hnew hb7 hLl hch Hsh hS0
            refine hK _ _ ⟨fun _ => hS7, ?_⟩
            clear hK K
            repeat (first | (refine Go.XR.S_light rfl rfl (by assumption) ?_ (fun w' hS K hK => ?_) (fun K hK => ?_); rotate_left 1; (have hS1 := bcell hS; go_step; exact hK); go_step; refine hK _ ?_; clear hK K))
            obtain ⟨W7, hW7⟩ : ∃ W7, w' = W7 := ⟨_, rfl⟩
            rw [hW7] at H7 HP7 Hld hS7 ⊢
            clear hW7 w'
            refine Go.XR.S_heavy (fun K hK => ?_)
            go_step
            ((with_reducible refine (Hld.out).mono ?_); rintro e w' ⟨rfl, F8, a8, cap8, T8, hC8, hb8, hg8⟩)
            have H8 := Lib.hid (H7.out.ch hC8 hb8 hg8)
            have HP8 := Lib.hid (HP7.out.but hb8 (fun hm => Hpf.out (mem_foot.2 (.inr (.inr (.inr (.inr hm)))))))
            clear hC8 hb8 hg8 c2 d0 hS7 Hld
            refine hK _ _ ⟨fun h => by simp at h, ?_⟩
            clear hK K
            repeat (first | (refine Go.XR.S_light rfl rfl (by assumption) ?_ (fun w' hS K hK => ?_) (fun K hK => ?_); rotate_left 1; (have hS1 := bcell hS; go_step; exact hK); go_step; refine hK _ ?_; clear hK K))
            obtain ⟨W8, hW8⟩ : ∃ W8, w' = W8 := ⟨_, rfl⟩
            rw [hW8] at H8 HP8 ⊢
            clear hW8 w'
            repeat (first | (refine Go.XR.S_heavy (fun K hK => ?_); go_step; refine hK _ _ ⟨fun h => by simp at h, ?_⟩; clear hK K))
            refine Go.XR.S_nil ?_
            have HR8 : Hid (Blk W8 rb [.int .i64 0, .int .i64 0]) := HR.out.heap (H8.out.own Hrl.out.1 Hrl.out.2).1
            have e0 : W8.cell? ⟨pb, 0, none⟩ = some (.int .i64 v.shelf) := HP8.out.cell (i := 0) rfl
            have e1 : W8.cell? ⟨pb, 1, none⟩ = some (.int .i64 v.slot) := HP8.out.cell (i := 1) rfl
            have r0 := HR8.out.cell (i := 0) rfl
            have r1 := HR8.out.cell (i := 1) rfl
            have f0 := HR8.out.free 0
            have f1 := HR8.out.free 1
            have hrf : rb ∉ foot p vp vq Fi F8 := (H8.out.own Hrl.out.1 Hrl.out.2).2.1
            go_wp2
            (try simp only [Exit.inBlock, Exit.then])
            refine bodyPost_ret (results_at rfl (g := rb) rfl rfl (((HR8.out.set 0 (.int .i64 v.shelf)).set 1 (.int .i64 v.slot)).toAt) Tryz.underlying40 rfl (placeSize v)) rfl ?_
            have hff : fFind M k draw L = (some v, { M with asked := M.asked + 1, loaded := M.loaded + 1, C := cLoad M.room M.C s L draw }) := by
              unfold fFind; rw [if_pos Hmay.out, Hcg.out, Hx.out]; simp only [Hs.out, mkI_val]
            refine ⟨L, fun _ _ x hx => (by rw [Hx.out] at hx; injection hx with hx; rw [← hx, Hs.out]; exact HL.out), by rw [hff]; rfl, Fi, F8, ?_⟩
            rw [hff]
            exact (HW.out.trans H8.out).side (((But.refl [rb] W8).setCell (.inl (by simp)) (i := 0) (.int .i64 v.shelf)).setCell (.inl (by simp)) (i := 1) (.int .i64 v.slot)) (by intro b hb; rw [List.mem_singleton] at hb; subst hb; exact ⟨Hro.out.1, hrf⟩)
end Go.Proofs.YtnfbchhbcinloaaGreat

/- The walks over cache.New and find.New. -/
namespace Go.Proofs.YtnfbchhbcinloaaGreat
open Go.RowKit Go.XR Go.IndexPure Go.CachePure Go.FindPure
def RetCNew (w : World) (room : Int) (e : Ending) (w' : World) : Prop :=
  (¬ (0 ≤ room ∧ room ≤ 4096) ∧ e = .returned (.tuple #[.pointer none, .int .i64 1]) ∧ w' = w) ∨
  (∃ m : Nat, room = m ∧ m ≤ 4096 ∧ ∃ p tb, e = .returned (.tuple #[.pointer (some ⟨p, 0, none⟩), .int .i64 0]) ∧ ChC w' [p, tb] p tb m none 0 [] [] ∧ w.heap.size ≤ tb ∧ tb < p ∧ Below w.heap.size w w')
set_option maxHeartbeats 1000000 in
set_option maxRecDepth 100000 in
theorem cnew_any (w : World) (room : Int) : Calls Tryz.prog 28 #[.int .i64 room] w (RetCNew w room) := by
  by_cases h1 : room < 0
  · go_enter Tryz.func28, Tryz.ntmps28
    go_wp2
    go_ret2
    exact .inl ⟨by omega, rfl, rfl⟩
  by_cases h2 : 4096 < room
  · go_enter Tryz.func28, Tryz.ntmps28
    go_wp2
    go_ret2
    exact .inl ⟨by omega, rfl, rfl⟩
  obtain ⟨m, rfl⟩ : ∃ m : Nat, room = m := ⟨room.toNat, by omega⟩
  have g1 : m ≤ 4096 := by omega
  have hmm := @run_makeMap Tryz.prog
  clear h1 h2
  go_enter Tryz.func28, Tryz.ntmps28
  go_wp2
  go_ret2
  refine .inr ⟨m, rfl, g1, w.heap.size + 1, w.heap.size, rfl, ?_, Nat.le_refl _, Nat.lt_succ_self _, ((Below.refl _ _).alloc (Nat.le_refl _) _).alloc (by simp) _⟩
  have h2 := Blk.new (w.alloc (.map #[] 0)) #[.int .i64 m, .slice none 0 0, .map (some w.heap.size)] 99
  rw [show (w.alloc (.map #[] 0)).heap.size = w.heap.size + 1 by simp] at h2
  have h3 : GM i64V mapV ((w.alloc (.map #[] 0)).alloc (.cells #[.int .i64 m, .slice none 0 0, .map (some w.heap.size)] 99)) w.heap.size [] := (GM.made i64V mapV w).below ((Below.refl _ _).alloc (Nat.le_refl _) _)
  exact {
    fin := fun b hb => by simp at hb; rcases hb with rfl | rfl <;> (simp; try omega)
    blk := h2
    inF := by simp
    order := ⟨rfl, .inl ⟨rfl, rfl⟩⟩
    ordF := fun x hx => by cases hx
    tables := h3
    nd := List.nodup_nil
    tab := fun s t hm => by cases hm
    dom := fun s hs => by cases hs
    len := Nat.zero_le _
    room := g1 }
def fin0 (bits probes room : Nat) : FinT := ⟨bits, probes, room, List.replicate ((bits + 7) / 8) 0, [], [], 0, 0⟩
def finOk (bits probes room : Int) : Prop := (0 ≤ bits ∧ bits ≤ 1048576) ∧ (0 ≤ probes ∧ probes ≤ 30) ∧ (0 ≤ room ∧ room ≤ 4096)
def RetFNew (w : World) (bits probes room : Int) (e : Ending) (w' : World) : Prop :=
  (¬ finOk bits probes room ∧ e = .returned (.tuple #[.pointer none, .int .i64 1]) ∧ Below w.heap.size w w') ∨
  (∃ a b c : Nat, bits = a ∧ probes = b ∧ room = c ∧ finOk bits probes room ∧ ∃ Fi Fc p ip vp vq cp, e = .returned (.tuple #[.pointer (some ⟨p, 0, none⟩), .int .i64 0]) ∧ FinC w' Fi Fc p ip vp vq cp (fin0 a b c) ∧ (∀ x ∈ foot p vp vq Fi Fc, w.heap.size ≤ x) ∧ Below w.heap.size w w')
set_option maxHeartbeats 1000000 in
set_option maxRecDepth 100000 in
theorem fnew_any (w : World) (bits probes room : Int) : Calls Tryz.prog 5 #[.int .i64 bits, .int .i64 probes, .int .i64 room] w (RetFNew w bits probes room) := by
  go_enter Tryz.func5, Tryz.ntmps5
  go_wp2_with fail
  refine (bnew_any w bits probes).mono ?_
  rintro e w1 (⟨hbad, rfl, hw⟩ | ⟨a, b, ha, hb, ha2, hb2, vp, vq, cap, rfl, hV, hq, hp, hp2, hb1⟩)
  · rw [hw]
    have Hbad := Lib.hid hbad
    clear hbad hw
    go_wp2
    go_ret2
    exact .inl ⟨fun h => Hbad.out ⟨h.1.1, h.1.2, h.2.1.1, h.2.1.2⟩, rfl, Below.refl _ _⟩
  · have HV := Lib.hid hV
    have Hb1 := Lib.hid hb1
    have Hab : Hid (bits = a ∧ probes = b ∧ a ≤ 1048576 ∧ b ≤ 30 ∧ w.heap.size ≤ vq ∧ vq < vp ∧ vp < w1.heap.size) := ⟨ha, hb, ha2, hb2, hq, hp, hp2⟩
    clear hV hb1 ha hb ha2 hb2 hq hp hp2
    go_wp2_with fail
    refine (cnew_any w1 room).mono ?_
    rintro e w2 (⟨hbad, rfl, hw⟩ | ⟨c, hc, hc2, cp, tb, rfl, hC, h1, h2, hb2⟩)
    · rw [hw]
      have Hbad := Lib.hid hbad
      clear hbad hw
      go_wp2
      go_ret2
      exact .inl ⟨fun h => Hbad.out h.2.2, rfl, Hb1.out⟩
    · have HC := Lib.hid hC
      have Hb2 := Lib.hid hb2
      have Hc : Hid (room = c ∧ c ≤ 4096 ∧ w1.heap.size ≤ tb ∧ tb < cp) := ⟨hc, hc2, h1, h2⟩
      clear hC hb2 hc hc2 h1 h2
      go_wp2_with fail
      refine (new_any w2).mono ?_
      rintro e w3 h
      obtain ⟨ip, Fi, rfl, hix, hnew, hb3⟩ := RetNew.ix h
      have HIx := Lib.hid hix
      have Hnew := Lib.hid hnew
      have Hb3 := Lib.hid hb3
      clear h hix hnew hb3
      go_wp2
      go_ret2
      obtain ⟨ha, hb, ha2, hb2, h1, h2, h3⟩ := Hab.out
      obtain ⟨hc, hc2, h4, h5⟩ := Hc.out
      have hV3 := (HV.out.below Hb2.out).below Hb3.out
      have hC3 := HC.out.below Hb3.out
      have s1 := Hb1.out.size
      have s2 := Hb2.out.size
      have s3 := Hb3.out.size
      have hcp := HC.out.fin cp (by simp)
      have hnew := Hnew.out
      obtain ⟨W, hW⟩ : ∃ W, w3.alloc (.cells #[.pointer (some ⟨ip, 0, none⟩), .pointer (some ⟨vp, 0, none⟩), .pointer (some ⟨cp, 0, none⟩), .int .i64 0, .int .i64 0] 79) = W := ⟨_, rfl⟩
      have hb4 : Below w3.heap.size w3 W := by rw [← hW]; exact (Below.refl _ _).alloc (Nat.le_refl _) _
      have hblk : Blk W w3.heap.size [.pointer (some ⟨ip, 0, none⟩), .pointer (some ⟨vp, 0, none⟩), .pointer (some ⟨cp, 0, none⟩), .int .i64 0, .int .i64 0] := by rw [← hW]; exact Blk.new w3 #[.pointer (some ⟨ip, 0, none⟩), .pointer (some ⟨vp, 0, none⟩), .pointer (some ⟨cp, 0, none⟩), .int .i64 0, .int .i64 0] _
      rw [hW]
      refine .inr ⟨a, b, c, ha, hb, hc, ⟨⟨by omega, by omega⟩, ⟨by omega, by omega⟩, ⟨by omega, by omega⟩⟩, Fi, [cp, tb], w3.heap.size, ip, vp, vq, cp, rfl, ?_, ?_, ?_⟩
      · exact {
          blk := hblk
          ix := HIx.out.below hb4
          vec := ⟨cap, hV3.below hb4⟩
          ch := ⟨tb, none, 0, [], hC3.below hb4⟩
          pn := ⟨fun h => (by have := HIx.out.fin _ h; omega), fun h => (by simp at h; omega), by omega, by omega⟩
          vn := ⟨fun h => (by have := hnew _ h; omega), fun h => (by simp at h; omega), fun h => (by have := hnew _ h; omega), fun h => (by simp at h; omega)⟩
          cn := fun b h1 h2 => by have := hnew _ h1; simp at h2; omega }
      · intro x hx
        rcases mem_foot.1 hx with h | h | h | h | h
        · omega
        · omega
        · omega
        · have := hnew _ h; omega
        · simp at h; omega
      · exact ((Hb1.out.trans (Hb2.out.mono s1)).trans (Hb3.out.mono (by omega))).trans (hb4.mono (by omega))
end Go.Proofs.YtnfbchhbcinloaaGreat

/- What keeps a finder honest: whatever the summary and the cache, what is found is what the index has; plain. -/
namespace Go.FindPure
open Go Go.XR Go.IndexPure Go.CachePure
structure Inv (M : FinT) : Prop where
  nd : (M.D.map (·.1)).Nodup
  sum : SumOk M.bits M.Y
  may : ∀ k v, aget M.D k = some v → mayB M.bits M.probes M.Y k = true
  tab : ∀ s t, (s, t) ∈ M.C → ∀ k v, aget t k = some v ↔ aget M.D k = some v ∧ v.shelf = s.1
theorem cGet_some {C : CchT} {k : KeyT} {v : PlaceT} (h : cGet C k = some v) : ∃ s t, (s, t) ∈ C ∧ aget t k = some v := by
  unfold cGet at h
  obtain ⟨l1, x, l2, h1, h2, _⟩ := List.findSome?_eq_some_iff.1 h
  exact ⟨x.1, x.2, by rw [h1]; simp, h2⟩
theorem fFind_val {M : FinT} (h : Inv M) (k : KeyT) (draw : Nat) (L : List RowT) : (fFind M k draw L).1 = aget M.D k := by
  unfold fFind
  split
  · cases hc : cGet M.C k with
    | some v =>
      obtain ⟨s, t, hm, ht⟩ := cGet_some hc
      exact ((h.tab s t hm k v).1 ht).1.symm
    | none => cases hd : aget M.D k <;> rfl
  · rename_i hm
    cases hd : aget M.D k with
    | none => rfl
    | some v => exact absurd (h.may k v hd) hm
theorem shelf_aget {D L : List RowT} {s : Int} (hD : (D.map (·.1)).Nodup) (h : ShelfOf D s L) (k : KeyT) (v : PlaceT) : aget L k = some v ↔ aget D k = some v ∧ v.shelf = s := by
  have hL : (L.map (·.1)).Nodup := by
    have h1 : ((D.filter (onS s)).map (·.1)).Nodup := hD.sublist (List.filter_sublist.map _)
    exact (h.1.map (·.1)).nodup_iff.2 h1
  rw [aget_mem hL, aget_mem hD, h.1.mem_iff, List.mem_filter]
  unfold onS
  rw [decide_eq_true_iff]
theorem fFind_inv {M : FinT} (h : Inv M) (k : KeyT) (draw : Nat) (L : List RowT) (hL : mayB M.bits M.probes M.Y k = true → cGet M.C k = none → ∀ v, aget M.D k = some v → ShelfOf M.D v.shelf L) (hr : ∀ v, aget M.D k = some v → -9223372036854775808 ≤ v.shelf ∧ v.shelf ≤ 9223372036854775807) : Inv (fFind M k draw L).2 := by
  unfold fFind
  split
  · rename_i hm
    cases hc : cGet M.C k with
    | some v => exact h
    | none =>
      cases hd : aget M.D k with
      | none => exact ⟨h.nd, h.sum, h.may, h.tab⟩
      | some v =>
        refine ⟨h.nd, h.sum, h.may, fun s t hst => ?_⟩
        obtain ⟨s0, hs0⟩ : ∃ s0 : I64, v.shelf = s0.1 := ⟨⟨v.shelf, hr v hd⟩, rfl⟩
        have hsl := hL hm hc v hd
        have hst : (s, t) ∈ cLoad M.room M.C (mkI v.shelf) L draw := hst
        rw [hs0, mkI_val] at hst
        rw [hs0] at hsl
        show ∀ k v, aget t k = some v ↔ aget M.D k = some v ∧ v.shelf = s.1
        unfold cLoad at hst
        split at hst
        · exact h.tab s t hst
        · rcases List.mem_append.1 hst with h1 | h1
          · exact h.tab s t ((cEvict_sub _ _ _).subset h1)
          · rw [List.mem_singleton] at h1
            cases h1
            intro k v
            rw [aget_tabOf]
            exact shelf_aget h.nd hsl k v
  · exact h
theorem mem_delS {C : CchT} {z : Int} {x : I64 × TabT} : x ∈ delS C z ↔ x ∈ C ∧ x.1.1 ≠ z := by
  unfold delS; rw [List.mem_filter, decide_eq_true_iff]
theorem mem_forget {C : CchT} {D : List RowT} {k : KeyT} {x : I64 × TabT} : x ∈ cForget C D k ↔ x ∈ C ∧ ∀ u, aget D k = some u → x.1.1 ≠ u.shelf := by
  unfold cForget
  cases h : aget D k with
  | none => simp
  | some u =>
    rw [mem_delS]
    constructor
    · rintro ⟨h1, h2⟩; exact ⟨h1, fun u' h3 => by injection h3 with h3; rw [← h3]; exact h2⟩
    · rintro ⟨h1, h2⟩; exact ⟨h1, h2 u rfl⟩
theorem put_nd {D : List RowT} (h : (D.map (·.1)).Nodup) (k : KeyT) (v : PlaceT) : ((aput (adel D k) k v).map (·.1)).Nodup := aput_nodup (adel_nodup h k) k v
theorem aget_putdel (D : List RowT) (k k' : KeyT) (v : PlaceT) : aget (aput (adel D k) k v) k' = if k' = k then some v else aget D k' := by
  rw [aget_put, aget_del]
  by_cases e : k' = k
  · rw [if_pos e, if_pos e]
  · rw [if_neg e, if_neg e, if_neg e]
theorem fPut_inv {M : FinT} (h : Inv M) (k : KeyT) (v : PlaceT) : Inv (fPut M k v) := by
  refine ⟨put_nd h.nd k v, h.sum.add M.probes k, fun k' u hu => ?_, fun s t hst k' u => ?_⟩
  · show mayB M.bits M.probes (addB M.bits M.probes M.Y k) k' = true
    have hu : aget (aput (adel M.D k) k v) k' = some u := hu
    rw [aget_putdel] at hu
    by_cases e : k' = k
    · subst e; exact h.sum.may_add M.probes k'
    · rw [if_neg e] at hu
      exact may_mono (fun i _ hi => by rw [h.sum.bit_add, hi]; rfl) (h.may k' u hu)
  · have hst : (s, t) ∈ delS (cForget M.C M.D k) v.shelf := hst
    obtain ⟨h1, h2⟩ := mem_delS.1 hst
    obtain ⟨h3, h4⟩ := mem_forget.1 h1
    show aget t k' = some u ↔ aget (aput (adel M.D k) k v) k' = some u ∧ u.shelf = s.1
    rw [aget_putdel, h.tab s t h3 k' u]
    by_cases e : k' = k
    · subst e
      rw [if_pos rfl]
      constructor
      · rintro ⟨h5, h6⟩; exact absurd h6.symm (h4 u h5)
      · rintro ⟨h5, h6⟩; injection h5 with h5; rw [← h5] at h6; exact absurd h6.symm h2
    · rw [if_neg e]
theorem fDrop_inv {M : FinT} (h : Inv M) (k : KeyT) : Inv (fDrop M k) := by
  refine ⟨adel_nodup h.nd k, h.sum, fun k' u hu => ?_, fun s t hst k' u => ?_⟩
  · have hu : aget (adel M.D k) k' = some u := hu
    rw [aget_del] at hu
    by_cases e : k' = k
    · rw [if_pos e] at hu; cases hu
    · rw [if_neg e] at hu; exact h.may k' u hu
  · obtain ⟨h3, h4⟩ := mem_forget.1 hst
    show aget t k' = some u ↔ aget (adel M.D k) k' = some u ∧ u.shelf = s.1
    rw [aget_del, h.tab s t h3 k' u]
    by_cases e : k' = k
    · subst e
      rw [if_pos rfl]
      constructor
      · rintro ⟨h5, h6⟩; exact absurd h6.symm (h4 u h5)
      · rintro ⟨h5, _⟩; cases h5
    · rw [if_neg e]
theorem blur_inv {M : FinT} (h : Inv M) {b : List Nat} (hb : bytesOk b) : Inv { M with Y := blurB M.bits M.Y b } :=
  ⟨h.nd, h.sum.blur hb, fun k v hv => may_mono (fun i hi h1 => by rw [h.sum.bit_blur hi, h1]; rfl) (h.may k v hv), h.tab⟩
theorem foldl_sum {bits probes : Nat} (L : List RowT) : ∀ {Y : List Nat}, SumOk bits Y → SumOk bits (L.foldl (fun Y r => addB bits probes Y r.1) Y) ∧ (∀ i, bitAt Y i = true → bitAt (L.foldl (fun Y r => addB bits probes Y r.1) Y) i = true) ∧ ∀ r ∈ L, mayB bits probes (L.foldl (fun Y r => addB bits probes Y r.1) Y) r.1 = true := by
  induction L with
  | nil => intro Y h; exact ⟨h, fun _ h => h, fun r hr => by cases hr⟩
  | cons x L ih =>
    intro Y h
    obtain ⟨h1, h2, h3⟩ := ih (h.add probes x.1)
    refine ⟨h1, fun i hi => h2 i (by rw [h.bit_add, hi]; rfl), fun r hr => ?_⟩
    rcases List.mem_cons.1 hr with rfl | hr
    · exact may_mono (fun i _ hi => h2 i hi) (h.may_add probes r.1)
    · exact h3 r hr
end Go.FindPure

/- A finder as one thing; the examples; how chunks are looked for. -/
namespace Go.FindPure
open Go Go.XR Go.IndexPure Go.CachePure
def k4 : KeyT := ⟨Vector.replicate 32 0, 4⟩
def M04 : FinT := ⟨0, 0, 0, [], [], [(k4, ⟨1, 2⟩)], 0, 0⟩
end Go.FindPure
namespace Go.Proofs.YtnfbchhbcinloaaGreat
open Go.RowKit Go.XR Go.IndexPure Go.CachePure Go.FindPure
def FOn (w : World) (p : Nat) (F : List Nat) (M : FinT) : Prop := ∃ Fi Fc ip vp vq cp, FinC w Fi Fc p ip vp vq cp M ∧ F = foot p vp vq Fi Fc
/-- what a call leaves of it -/
def FTo (w : World) (p : Nat) (F : List Nat) (M' : FinT) (w' : World) : Prop := ∃ F', FOn w' p F' M' ∧ But F w w' ∧ Grew w F F'
section
variable {w w' : World} {p : Nat} {F G S : List Nat} {M : FinT}
theorem FOn.lt (h : FOn w p F M) : ∀ b ∈ F, b < w.heap.size := by
  obtain ⟨Fi, Fc, ip, vp, vq, cp, h1, rfl⟩ := h; exact h1.lt
theorem FOn.but (h : FOn w p F M) (hb : But S w w') (hS : ∀ b ∈ F, b ∉ S) : FOn w' p F M := by
  obtain ⟨Fi, Fc, ip, vp, vq, cp, h1, rfl⟩ := h; exact ⟨Fi, Fc, ip, vp, vq, cp, h1.but hb hS, rfl⟩
theorem FOn.below (h : FOn w p F M) (hb : Below w.heap.size w w') : FOn w' p F M := h.but (But.of_below (S := []) hb) (fun _ _ => by simp)
theorem FOn.rng (h : FOn w p F M) : ∀ k v, aget M.D k = some v → PlaceOk v := by
  obtain ⟨Fi, Fc, ip, vp, vq, cp, h1, rfl⟩ := h; exact h1.ix.rng
theorem FOn.nd (h : FOn w p F M) : (M.D.map (·.1)).Nodup := by
  obtain ⟨Fi, Fc, ip, vp, vq, cp, h1, rfl⟩ := h; exact h1.own.nd
theorem FSt.to {Fi Fc Fi' Fc' : List Nat} {ip vp vq cp : Nat} {M' : FinT} (h : FSt w (foot p vp vq Fi Fc) w' Fi' Fc' p ip vp vq cp M') : FTo w p (foot p vp vq Fi Fc) M' w' :=
  ⟨_, ⟨Fi', Fc', ip, vp, vq, cp, h.fin, rfl⟩, h.but, h.grew⟩
theorem dis_grew {F F' G : List Nat} (hd : ∀ b ∈ F, b ∉ G) (hg : Grew w F F') (hG : ∀ b ∈ G, b < w.heap.size) : ∀ b ∈ F', b ∉ G := fun b hb hm => by
  rcases hg b hb with h1 | h1
  · exact hd b h1 hm
  · have := hG b hm; omega
theorem base_grew {F F' : List Nat} {B : Nat} (hd : ∀ b ∈ F, B ≤ b) (hg : Grew w F F') (hB : B ≤ w.heap.size) : ∀ b ∈ F', B ≤ b := fun b hb => by
  rcases hg b hb with h1 | h1
  · exact hd b h1
  · omega
theorem fo_put (h : FOn w p F M) (hlen : M.D.length ≤ 2^20) (k : KeyT) (v : PlaceT) (hv : PlaceOk v) :
    Calls Tryz.prog 8 #[.pointer (some ⟨p, 0, none⟩), keyV k, placeV v] w fun e w' => e = .returned (.tuple #[]) ∧ FTo w p F (fPut M k v) w' := by
  obtain ⟨Fi, Fc, ip, vp, vq, cp, h1, rfl⟩ := h
  refine (fput_any w Fi Fc p ip vp vq cp M h1 hlen k v hv).mono ?_
  rintro e w' ⟨rfl, Fi', Fc', hs⟩
  exact ⟨rfl, hs.to⟩
theorem fo_drop (h : FOn w p F M) (hlen : M.D.length ≤ 2^20) (k : KeyT) :
    Calls Tryz.prog 10 #[.pointer (some ⟨p, 0, none⟩), keyV k] w fun e w' => e = .returned (.bool (aget M.D k).isSome) ∧ FTo w p F (fDrop M k) w' := by
  obtain ⟨Fi, Fc, ip, vp, vq, cp, h1, rfl⟩ := h
  refine (fdrop_any w Fi Fc p ip vp vq cp M h1 hlen k).mono ?_
  rintro e w' ⟨rfl, Fi', Fc', hs⟩
  exact ⟨rfl, hs.to⟩
theorem fo_find (h : FOn w p F M) (hlen : M.D.length ≤ 2^20) (ha : M.asked < 2^40) (hl : M.loaded < 2^40) (k : KeyT) (draw : Nat) (hd : draw < 18446744073709551616) :
    Calls Tryz.prog 12 #[.pointer (some ⟨p, 0, none⟩), keyV k, .int .u64 draw] w fun e w' => ∃ L, (mayB M.bits M.probes M.Y k = true → cGet M.C k = none → ∀ v, aget M.D k = some v → ShelfOf M.D v.shelf L) ∧ e = .returned (.tuple #[placeV ((fFind M k draw L).1.getD place0), .bool (fFind M k draw L).1.isSome]) ∧ FTo w p F (fFind M k draw L).2 w' := by
  obtain ⟨Fi, Fc, ip, vp, vq, cp, h1, rfl⟩ := h
  refine (ffind_any w Fi Fc p ip vp vq cp M h1 hlen ha hl k draw hd).mono ?_
  rintro e w' ⟨L, hL, rfl, Fi', Fc', hs⟩
  exact ⟨L, hL, rfl, hs.to⟩
theorem fo_cost (h : FOn w p F M) :
    Calls Tryz.prog 18 #[.pointer (some ⟨p, 0, none⟩)] w fun e w' => e = .returned (.tuple #[.int .i64 M.asked, .int .i64 M.loaded]) ∧ Below w.heap.size w w' := by
  obtain ⟨Fi, Fc, ip, vp, vq, cp, h1, rfl⟩ := h
  exact fcost_any w Fi Fc p ip vp vq cp M h1
theorem fo_len (h : FOn w p F M) : Calls Tryz.prog 21 #[.pointer (some ⟨p, 0, none⟩)] w (RetInt w M.D.length) := by
  obtain ⟨Fi, Fc, ip, vp, vq, cp, h1, rfl⟩ := h
  exact flen_any w Fi Fc p ip vp vq cp M h1
theorem fo_all (h : FOn w p F M) (hlen : M.D.length ≤ 2^20) : Calls Tryz.prog 20 #[.pointer (some ⟨p, 0, none⟩)] w fun e w' => ∃ L, AllOf M.D L ∧ RetRows w L e w' := by
  obtain ⟨Fi, Fc, ip, vp, vq, cp, h1, rfl⟩ := h
  exact fall_any w Fi Fc p ip vp vq cp M h1 hlen
theorem fo_shelf (h : FOn w p F M) (hlen : M.D.length ≤ 2^20) (s : Int) (hs : -9223372036854775808 ≤ s ∧ s ≤ 9223372036854775807) : Calls Tryz.prog 25 #[.pointer (some ⟨p, 0, none⟩), .int .i64 s] w fun e w' => ∃ L, ShelfOf M.D s L ∧ RetRows w L e w' := by
  obtain ⟨Fi, Fc, ip, vp, vq, cp, h1, rfl⟩ := h
  exact fshelf_any w Fi Fc p ip vp vq cp M h1 hlen s hs
theorem fo_blur (h : FOn w p F M) (a : Option Addr) (c : Nat) (b : List Nat) (hR : Row w a (b.map byV)) (hq : 0 < b.length → ∀ g o, a = some ⟨g, o, none⟩ → g ∉ F) (hok : bytesOk b) (hbl : b.length ≤ 2^40) :
    Calls Tryz.prog 16 #[.pointer (some ⟨p, 0, none⟩), .slice a b.length c] w fun e w' => e = .returned (.tuple #[]) ∧ FTo w p F { M with Y := blurB M.bits M.Y b } w' := by
  obtain ⟨Fi, Fc, ip, vp, vq, cp, h1, rfl⟩ := h
  refine (fblur_any w Fi Fc p ip vp vq cp M h1 a c b hR (fun hl g o h e => hq hl g o h (by rw [e]; exact mem_foot.2 (by simp))) hok hbl).mono ?_
  rintro e w' ⟨rfl, hs⟩
  exact ⟨rfl, hs.to⟩
theorem fo_anew (h : FOn w p F M) (hlen : M.D.length ≤ 2^20) :
    Calls Tryz.prog 14 #[.pointer (some ⟨p, 0, none⟩)] w fun e w' => e = .returned (.tuple #[]) ∧ ∃ L, AllOf M.D L ∧ FTo w p F { M with Y := anewB M.bits M.probes L } w' := by
  obtain ⟨Fi, Fc, ip, vp, vq, cp, h1, rfl⟩ := h
  refine (fanew_any w Fi Fc p ip vp vq cp M h1 hlen).mono ?_
  rintro e w' ⟨rfl, L, hL, hs⟩
  exact ⟨rfl, L, hL, hs.to⟩
theorem RetFNew.on {bits probes room : Int} {e : Ending} (h : RetFNew w bits probes room e w') : (¬ finOk bits probes room ∧ e = .returned (.tuple #[.pointer none, .int .i64 1]) ∧ Below w.heap.size w w') ∨
    (∃ a b c : Nat, bits = a ∧ probes = b ∧ room = c ∧ finOk bits probes room ∧ ∃ p F, e = .returned (.tuple #[.pointer (some ⟨p, 0, none⟩), .int .i64 0]) ∧ FOn w' p F (fin0 a b c) ∧ (∀ x ∈ F, w.heap.size ≤ x) ∧ Below w.heap.size w w') := by
  rcases h with h | ⟨a, b, c, h1, h2, h3, h4, Fi, Fc, p, ip, vp, vq, cp, h5, h6, h7, h8⟩
  · exact .inl h
  · exact .inr ⟨a, b, c, h1, h2, h3, h4, p, _, h5, ⟨Fi, Fc, ip, vp, vq, cp, h6, rfl⟩, h7, h8⟩
theorem anew_inv (h : Inv M) {L : List RowT} (hL : AllOf M.D L) : Inv { M with Y := anewB M.bits M.probes L } := by
  have h1 := foldl_sum (probes := M.probes) L (SumOk.zero M.bits)
  have e : L.foldl (fun Y r => addB M.bits M.probes Y r.1) (List.replicate ((M.bits + 7) / 8) 0) = anewB M.bits M.probes L := rfl
  rw [e] at h1
  generalize anewB M.bits M.probes L = Y at *
  exact { nd := h.nd, sum := h1.1, may := fun k v hv => h1.2.2 (k, v) (hL.1.mem_iff.2 ((aget_mem h.nd).1 hv)), tab := h.tab }
theorem fin0_inv (a b c : Nat) : Inv (fin0 a b c) := ⟨List.nodup_nil, SumOk.zero a, fun k v h => (by cases h), fun s t h => by cases h⟩
end
theorem put04 : fPut (fin0 0 0 0) k4 ⟨1, 2⟩ = M04 := by kernel_rfl
theorem find04 (L : List RowT) : fFind M04 k4 0 L = (some ⟨1, 2⟩, { M04 with asked := 1, loaded := 1 }) := by kernel_rfl
theorem may64 : mayB 64 3 (List.replicate 8 0) k4 = false := by kernel_rfl
theorem find64 (L : List RowT) : fFind (fin0 64 3 1) k4 0 L = (none, fin0 64 3 1) := by
  unfold fFind
  rw [if_neg]
  intro h
  have h2 : mayB 64 3 (List.replicate 8 0) k4 = true := h
  rw [may64] at h2; cases h2
end Go.Proofs.YtnfbchhbcinloaaGreat

/- The walk over the examples. -/
namespace Go.Proofs.YtnfbchhbcinloaaGreat
open Go.RowKit Go.XR Go.IndexPure Go.CachePure Go.FindPure
theorem ok12 : PlaceOk ⟨1, 2⟩ := by unfold PlaceOk; decide
set_option maxHeartbeats 4000000 in
set_option maxRecDepth 100000 in
theorem shown15_any (w : World) : Calls Tryz.prog 4 #[] w (RetBool w true) := by
  go_enter Tryz.func4, Tryz.ntmps4
  go_wp2_with fail
  refine (fnew_any w 0 0 0).mono ?_
  intro e w1 h1
  rcases h1.on with ⟨hbad, _⟩ | ⟨a, b, c, ha, hb, hc, _, p, F, rfl, hF, hFB, hb1⟩
  · exact absurd (by unfold finOk; decide) hbad
  obtain rfl : a = 0 := by omega
  obtain rfl : b = 0 := by omega
  obtain rfl : c = 0 := by omega
  have HF := Lib.hid hF
  have HFB := Lib.hid hFB
  have Hb1 := Lib.hid hb1
  clear h1 ha hb hc hF hFB hb1
  go_wp2_with fail
  refine (fnew_any w1 64 3 1).mono ?_
  intro e w2 h2
  rcases h2.on with ⟨hbad, _⟩ | ⟨a, b, c, ha, hb, hc, _, q, G, rfl, hG, hGB, hb2⟩
  · exact absurd (by unfold finOk; decide) hbad
  obtain rfl : a = 64 := by omega
  obtain rfl : b = 3 := by omega
  obtain rfl : c = 1 := by omega
  have HF2 := Lib.hid (HF.out.below hb2)
  have HG := Lib.hid hG
  have Hdis : Hid (∀ b ∈ F, b ∉ G) := fun b h1 h2 => by have := HF.out.lt b h1; have := hGB b h2; omega
  have HGB : Hid (∀ b ∈ G, w.heap.size ≤ b) := fun b h => Nat.le_trans Hb1.out.size (hGB b h)
  have Hb2 := Lib.hid (Hb1.out.trans (hb2.mono Hb1.out.size))
  clear h2 ha hb hc hG hGB hb2 HF Hb1
  go_wp2_with fail
  refine (fo_put HF2.out (by decide) k4 ⟨1, 2⟩ ok12).mono ?_
  rintro e w3 ⟨rfl, F3, hF3, hb3, hg3⟩
  rw [put04] at hF3
  have HF3 := Lib.hid hF3
  have HG3 := Lib.hid (HG.out.but hb3 (fun b h1 h2 => Hdis.out b h2 h1))
  have Hd3 := Lib.hid (dis_grew Hdis.out hg3 HG.out.lt)
  have HFB3 := Lib.hid (base_grew HFB.out hg3 Hb2.out.size)
  have Hb3 := Lib.hid (Hb2.out.trans (hb3.below Hb2.out.size HFB.out))
  clear hF3 hb3 hg3 HF2 HG Hdis HFB Hb2
  go_wp2_with fail
  refine (fo_find HF3.out (by decide) (by decide) (by decide) k4 0 (by decide)).mono ?_
  rintro e w4 ⟨L, _, rfl, hto⟩
  rw [find04] at hto ⊢
  obtain ⟨F4, hF4, hb4, hg4⟩ := hto
  rw [show placeV ((some (⟨1, 2⟩ : PlaceT)).getD place0) = .agg #[.int .i64 1, .int .i64 2] from rfl]
  have HF4 := Lib.hid hF4
  have HG4 := Lib.hid (HG3.out.but hb4 (fun b h1 h2 => Hd3.out b h2 h1))
  have Hd4 := Lib.hid (dis_grew Hd3.out hg4 HG3.out.lt)
  have HFB4 := Lib.hid (base_grew HFB3.out hg4 Hb3.out.size)
  have Hb4 := Lib.hid (Hb3.out.trans (hb4.below Hb3.out.size HFB3.out))
  clear hF4 hb4 hg4 HF3 HG3 Hd3 HFB3 Hb3
  go_wp2_with fail
  have hb5 : Below w4.heap.size w4 (w4.alloc (.cells #[.int .i64 1, .int .i64 2] 40)) := (Below.refl _ _).alloc (Nat.le_refl _) _
  have HP5 : Hid (Blk (w4.alloc (.cells #[.int .i64 1, .int .i64 2] 40)) w4.heap.size [.int .i64 1, .int .i64 2]) := Blk.new w4 #[.int .i64 1, .int .i64 2] _
  have HPG : Hid (w4.heap.size ∉ G) := fun h => by have := HG4.out.lt _ h; omega
  obtain ⟨pb, hpb⟩ : ∃ pb, w4.heap.size = pb := ⟨_, rfl⟩
  have HF5 := Lib.hid (HF4.out.below hb5)
  have HG5 := Lib.hid (HG4.out.below hb5)
  have Hb5 := Lib.hid (Hb4.out.trans (hb5.mono Hb4.out.size))
  rw [hpb] at HP5 HPG ⊢
  generalize w4.alloc (.cells #[.int .i64 1, .int .i64 2] 40) = w5 at *
  clear hb5 hpb HF4 HG4 Hb4
  refine (fo_cost HF5.out).mono ?_
  rintro e w6 ⟨rfl, hb6⟩
  have HG6 := Lib.hid (HG5.out.below hb6)
  have HP6 := Lib.hid (HP5.out.below hb6)
  have Hb6 := Lib.hid (Hb5.out.trans (hb6.mono Hb5.out.size))
  clear hb6 HF5 HG5 HP5 Hb5
  go_wp2_with fail
  refine (fo_find HG6.out (by decide) (by decide) (by decide) k4 0 (by decide)).mono ?_
  rintro e w7 ⟨L2, _, rfl, hto⟩
  rw [find64] at hto ⊢
  obtain ⟨G7, hG7, hb7, hg7⟩ := hto
  rw [show placeV ((none : Option PlaceT).getD place0) = .agg #[.int .i64 0, .int .i64 0] from rfl]
  have HG7 := Lib.hid hG7
  have HP7 := Lib.hid (HP6.out.but hb7 HPG.out)
  have Hb7 := Lib.hid (Hb6.out.trans (hb7.below Hb6.out.size HGB.out))
  clear hG7 hb7 hg7 HG6 HP6 Hb6
  go_wp2_with fail
  have hb8 : Below w7.heap.size w7 (w7.alloc (.cells #[.int .i64 0, .int .i64 0] 40)) := (Below.refl _ _).alloc (Nat.le_refl _) _
  have HG8 := Lib.hid (HG7.out.below hb8)
  have HP8 := Lib.hid (HP7.out.below hb8)
  have Hb8 := Lib.hid (Hb7.out.trans (hb8.mono Hb7.out.size))
  generalize w7.alloc (.cells #[.int .i64 0, .int .i64 0] 40) = w8 at *
  clear hb8 HG7 HP7 Hb7
  refine (fo_cost HG8.out).mono ?_
  rintro e w9 ⟨rfl, hb9⟩
  have HP9 := Lib.hid (HP8.out.below hb9)
  have Hb9 := Lib.hid (Hb8.out.trans (hb9.mono Hb8.out.size))
  clear hb9 HP8 HG8 Hb8
  have c0 := HP9.out.cell (i := 0) rfl
  have c1 := HP9.out.cell (i := 1) rfl
  go_wp2
  go_ret
  exact ⟨rfl, Hb9.out⟩
end Go.Proofs.YtnfbchhbcinloaaGreat

/- Opening arguments: how chunks are looked for, rows. -/
namespace Go.Proofs.YtnfbchhbcinloaaGreat
open Go.RowKit Go.XR Go.IndexPure Go.CachePure Go.FindPure
def howC (a b c : Int) : Array Value := #[.int .i64 a, .int .i64 b, .int .i64 c]
theorem how_leafs : (leafs Tryz.prog 8 23).getD [] = [.int .i64, .int .i64, .int .i64] := by kernel_rfl
theorem how_agg {cs : Array Value} (hf : Fits ((leafs Tryz.prog 8 23).getD []) cs.toList) : ∃ a b c : I64, cs = howC a.1 b.1 c.1 := by
  rw [how_leafs] at hf
  obtain ⟨l⟩ := cs
  simp only at hf
  obtain _ | ⟨⟨x, rfl, hx⟩, h2⟩ := hf
  obtain _ | ⟨⟨y, rfl, hy⟩, h2⟩ := h2
  obtain _ | ⟨⟨z, rfl, hz⟩, h2⟩ := h2
  cases h2
  have b1 := bounds_i64 hx
  have b2 := bounds_i64 hy
  have b3 := bounds_i64 hz
  exact ⟨⟨x, by omega⟩, ⟨y, by omega⟩, ⟨z, by omega⟩, rfl⟩
theorem row_leafs : (leafs Tryz.prog 8 42).getD [] = List.replicate 32 (.int .u8) ++ [.int .u32] ++ [.int .i64, .int .i64] := by kernel_rfl
theorem row_fits : ∀ cs, Fits ((leafs Tryz.prog 8 42).getD []) cs → ∃ r : RowS, rowL r.1 = cs := by
  rw [row_leafs]
  intro cs hf
  obtain ⟨x, y, rfl, h1, h2⟩ := fits_split hf
  rw [← key_leafs] at h1
  obtain ⟨k, rfl⟩ := key_fits _ h1
  obtain _ | ⟨⟨z, rfl, hz⟩, h2⟩ := h2
  obtain _ | ⟨⟨u, rfl, hu⟩, h2⟩ := h2
  cases h2
  have hb1 := bounds_i64 hz
  have hb2 := bounds_i64 hu
  exact ⟨⟨(k, ⟨z, u⟩), ⟨by omega, by omega⟩⟩, rfl⟩
theorem row_len (r : RowS) : (rowL r.1).length = ((leafs Tryz.prog 8 42).getD []).length := by
  rw [row_leafs, rowL_length]; rfl
theorem row_agg {cs : Array Value} (hf : Fits ((leafs Tryz.prog 8 42).getD []) cs.toList) : ∃ r : RowS, cs = rowC r.1 := by
  obtain ⟨r, hr⟩ := row_fits _ hf
  exact ⟨r, by unfold rowC; rw [hr]⟩
end Go.Proofs.YtnfbchhbcinloaaGreat

/- Slices whose elements hold slices, as lists of what each reads as. -/
namespace Go.XR
open Go Go.RowKit
section
variable {H : Type} {enc : TypeId × Value → H} {P : Program} {w : World} {base : Nat} {spare : Nat → Bool} {held : Bool}
/-- a slice of elements, as a list of what each reads as; Q: what else is known of an element's memory -/
theorem slice_rel {α : Type} (cell : α → List Value) (Q : α → Prop) {N : Nat} {t e : TypeId} (hα : ∀ m cs x, DataW.trod enc P w base spare held m e cs = some x → ∃ y, cell y = cs ∧ Q y) (hlen : ∀ x, (cell x).length = N) {a : Option Addr} {len cap : Nat} {d : DataW H} {ps : List MemPlace}
    (ht : P.underlying t = some (.slice e)) (hpos : 0 < N) (hc : P.cellsOf e = N)
    (hd : DataW.Trod enc P w base spare held t (.slice a len cap) d ps) : ∃ L : List α, L.length = len ∧ Row w a (L.flatMap cell) ∧ (∀ y ∈ L, Q y) ∧ len ≤ cap ∧ cap ≤ maxLen := by
  obtain ⟨fuel, h⟩ := hd
  rcases Deep.open_slice ht h with ⟨hcs, _⟩ | ⟨x, len', cap', m, n, D, Pl, hcs, _, hle, hcm, hm, _, hall⟩
  · simp [Value.cells] at hcs
    obtain ⟨rfl, rfl, rfl⟩ := hcs
    exact ⟨[], rfl, .inl rfl, (fun y hy => by cases hy), Nat.le_refl _, Nat.zero_le _⟩
  · simp [Value.cells] at hcs
    obtain ⟨rfl, rfl, rfl⟩ := hcs
    have hlm : len ≤ m := by rw [hm]; split <;> omega
    have hx : ∀ i, i < len → ∃ y : α, Q y ∧ ∀ j u, (cell y)[j]? = some u → w.cell? ((x.add (i * N)).add j) = some u := fun i hi => by
      obtain ⟨cs', h1, h2⟩ := hall i (by omega)
      obtain ⟨y, hy, hq⟩ := hα n cs' _ h2
      obtain ⟨_, h4, h5⟩ := World.cells?_some h1
      refine ⟨y, hq, fun j u hj => ?_⟩
      rw [hy] at hj
      have hjl := (List.getElem?_eq_some_iff.1 hj).1
      rw [← hc, h5 j (by omega)]
      exact hj
    have hL : ∀ k, k ≤ len → ∃ L : List α, L.length = k ∧ (∀ y ∈ L, Q y) ∧ ∀ j u, (L.flatMap cell)[j]? = some u → w.cell? (x.add j) = some u := by
      intro k
      induction k with
      | zero => intro _; exact ⟨[], rfl, (fun y hy => by cases hy), fun j u h => by simp at h⟩
      | succ k ih =>
        intro hk
        obtain ⟨L, hL1, hLq, hL2⟩ := ih (by omega)
        obtain ⟨y, hq, hy⟩ := hx k (by omega)
        have hfl : (L.flatMap cell).length = k * N := by
          rw [← hL1]
          clear hL1 hL2 hLq
          induction L with
          | nil => simp
          | cons z L ih => rw [List.flatMap_cons, List.length_append, ih, hlen, List.length_cons, Nat.add_mul]; omega
        refine ⟨L ++ [y], by simp [hL1], (fun z hz => by
          rcases List.mem_append.1 hz with h | h
          · exact hLq z h
          · rw [List.mem_singleton] at h; subst h; exact hq), fun j u hj => ?_⟩
        rw [List.flatMap_append, List.flatMap_cons, List.flatMap_nil, List.append_nil] at hj
        by_cases hjl : j < (L.flatMap cell).length
        · rw [List.getElem?_append_left hjl] at hj
          exact hL2 j u hj
        · rw [List.getElem?_append_right (by omega), hfl] at hj
          have := hy _ u hj
          rw [Deep.add_add] at this
          rw [show k * N + (j - k * N) = j from by omega] at this
          exact this
    obtain ⟨L, hL1, hLq, hL2⟩ := hL len (Nat.le_refl _)
    refine ⟨L, hL1, ?_, hLq, hle, hcm⟩
    cases L with
    | nil => exact .inl rfl
    | cons y L =>
      right
      have hne : 0 < ((y :: L).flatMap cell).length := by rw [List.flatMap_cons, List.length_append, hlen]; omega
      obtain ⟨u0, hu0⟩ : ∃ u, ((y :: L).flatMap cell)[0]? = some u := ⟨_, List.getElem?_eq_getElem hne⟩
      have h0 := hL2 0 u0 hu0
      have hsp : x.spot = none := by
        cases hs : x.spot with
        | none => rfl
        | some _ =>
          simp only [Addr.add, if_true, World.cell?, hs] at h0
          split at h0 <;> simp at h0
      obtain ⟨g, o, sp⟩ := x
      simp only at hsp
      subst hsp
      refine ⟨g, o, rfl, fun j u hj => ?_⟩
      have := hL2 j u hj
      have hadd : (⟨g, o, none⟩ : Addr).add j = ⟨g, o + j, none⟩ := by unfold Addr.add; split <;> simp_all
      rwa [hadd] at this
end
end Go.XR

/- Acts of a finder as cells; the walks over few and does. -/
namespace Go.FindPure
open Go Go.XR Go.IndexPure Go.CachePure
def dStep (D : List RowT) (kind : Nat) (k : KeyT) (v : PlaceT) : List RowT :=
  if kind % 5 = 0 then aput (adel D k) k v else if kind % 5 = 1 then adel D k else D
/-- what an act but a search does -/
structure DoesOk (M : FinT) (kind : Nat) (k : KeyT) (v : PlaceT) (M' : FinT) : Prop where
  inv : Inv M → Inv M'
  d : M'.D = dStep M.D kind k v
  asked : M'.asked = M.asked
  loaded : M'.loaded = M.loaded
end Go.FindPure
namespace Go.Proofs.YtnfbchhbcinloaaGreat
open Go.RowKit Go.XR Go.IndexPure Go.CachePure Go.FindPure
structure FActT where
  kind : Nat
  key : KeyT
  place : PlaceT
  draw : Nat
  ba : Option Addr
  bc : Nat
  b : List Nat
  hk : kind < 256
  ok : PlaceOk place
  hd : draw < 18446744073709551616
  hb : bytesOk b
def factL (a : FActT) : List Value := .int .u8 (a.kind : Int) :: (rowL (a.key, a.place) ++ [.int .u64 (a.draw : Int), .slice a.ba a.b.length a.bc])
def factC (a : FActT) : Array Value := (factL a).toArray
theorem factL_length (a : FActT) : (factL a).length = 38 := by unfold factL; rw [List.length_cons, List.length_append, rowL_length]; rfl
theorem factC_size (a : FActT) : (factC a).size = 38 := by unfold factC; rw [List.size_toArray, factL_length]
theorem one_factL (a : FActT) : ∀ v ∈ factL a, v.oneCell' = true := by
  intro v hv
  unfold factL at hv
  rcases List.mem_cons.1 hv with rfl | h
  · rfl
  · rcases List.mem_append.1 h with h | h
    · exact one_rowL _ v h
    · simp at h
      rcases h with rfl | rfl <;> rfl
/-- what is known of an act's bytes -/
def FActQ (W : World) (a : FActT) : Prop := Row W a.ba (a.b.map byV) ∧ a.b.length ≤ a.bc ∧ a.bc ≤ maxLen
theorem bounds_u8 {n : Int} (h : (Lit.int .u8 n).wf = true) : 0 ≤ n ∧ n ≤ 255 := by
  have h1 : IntKind.u8.min = 0 := by decide
  have h2 : IntKind.u8.max = 255 := by decide
  simp only [Lit.wf, h1, h2, Bool.and_eq_true, decide_eq_true_eq] at h
  exact h
theorem bounds_u64 {n : Int} (h : (Lit.int .u64 n).wf = true) : 0 ≤ n ∧ n ≤ 18446744073709551615 := by
  have h1 : IntKind.u64.min = 0 := by decide
  have h2 : IntKind.u64.max = 18446744073709551615 := by decide
  simp only [Lit.wf, h1, h2, Bool.and_eq_true, decide_eq_true_eq] at h
  exact h
section
variable {H : Type} {enc : TypeId × Value → H} {w : World} {base : Nat} {spare : Nat → Bool} {held : Bool}
theorem byte_read : ∀ (m : Nat) (cs : List Value) (x : DataW H × List MemPlace), DataW.trod enc Tryz.prog w base spare held m 5 cs = some x → ∃ y : Nat, [byV y] = cs ∧ y < 256 := by
  intro m cs x h
  obtain ⟨n, rfl, _, hn⟩ := DataW.trod_int Tryz.underlying5 h
  have := bounds_u8 hn
  exact ⟨n.toNat, by unfold byV; rw [Int.toNat_of_nonneg this.1], by omega⟩
theorem cells4 {cs : List Value} (h : cs.length = 38) : cs = (cs.drop 0).take 1 ++ ((cs.drop 1).take 35 ++ ((cs.drop 36).take 1 ++ (cs.drop 37).take 1)) := by
  have e1 : (cs.drop 37).take 1 = cs.drop 37 := List.take_of_length_le (by rw [List.length_drop]; omega)
  rw [e1]
  have e2 : (cs.drop 36).take 1 ++ cs.drop 37 = cs.drop 36 := by
    have := List.take_append_drop 1 (cs.drop 36)
    rwa [List.drop_drop] at this
  rw [e2]
  have e3 : (cs.drop 1).take 35 ++ cs.drop 36 = cs.drop 1 := by
    have := List.take_append_drop 35 (cs.drop 1)
    rwa [List.drop_drop] at this
  rw [e3, List.drop_zero]
  exact (List.take_append_drop 1 cs).symm
theorem fact_read : ∀ (m : Nat) (cs : List Value) (x : DataW H × List MemPlace), DataW.trod enc Tryz.prog w base spare held m 46 cs = some x → ∃ y, factL y = cs ∧ FActQ w y := by
  intro m cs x h
  obtain ⟨xs, n, rfl, rfl, hlen, hxl, hall⟩ := DataW.trod_struct Tryz.underlying46 h
  have hcs : cs.length = 38 := hlen.trans (by kernel_rfl)
  have hx4 : xs.length = 4 := hxl
  have g0 : DataW.trod enc Tryz.prog w base spare held n 5 ((cs.drop 0).take (Tryz.prog.cellsOf 5)) = some xs[0] := (hall 0 _ rfl).trans (List.getElem?_eq_getElem (by omega))
  have g1 : DataW.trod enc Tryz.prog w base spare held n 42 ((cs.drop 1).take (Tryz.prog.cellsOf 42)) = some xs[1] := (hall 1 _ rfl).trans (List.getElem?_eq_getElem (by omega))
  have g2 : DataW.trod enc Tryz.prog w base spare held n 43 ((cs.drop 36).take (Tryz.prog.cellsOf 43)) = some xs[2] := (hall 2 _ rfl).trans (List.getElem?_eq_getElem (by omega))
  have g3 : DataW.trod enc Tryz.prog w base spare held n 44 ((cs.drop 37).take (Tryz.prog.cellsOf 44)) = some xs[3] := (hall 3 _ rfl).trans (List.getElem?_eq_getElem (by omega))
  obtain ⟨k, hk, _, hkw⟩ := DataW.trod_int Tryz.underlying5 g0
  have hr := trod_flat 8 n _ _ _ _ (show leafs Tryz.prog 8 42 = some ((leafs Tryz.prog 8 42).getD []) by kernel_rfl) g1
  obtain ⟨r, hr⟩ := row_fits _ hr
  obtain ⟨d, hd, _, hdw⟩ := DataW.trod_int Tryz.underlying43 g2
  have hsl : ∃ (a : Option Addr) (l c : Nat), (cs.drop 37).take (Tryz.prog.cellsOf 44) = [.slice a l c] := by
    rcases Deep.open_slice Tryz.underlying44 g3 with ⟨h0, _⟩ | ⟨a, l, c, _, _, _, _, h0, _⟩
    · exact ⟨none, 0, 0, h0⟩
    · exact ⟨some a, l, c, h0⟩
  obtain ⟨a, l, c, hs⟩ := hsl
  obtain ⟨L, hL, hRow, hQ, hlc, hcm⟩ := slice_rel (w := w) (enc := enc) (base := base) (spare := spare) (held := held) (fun y : Nat => [byV y]) (fun y => y < 256) (N := 1) (a := a) (len := l) (cap := c) byte_read (fun _ => rfl) Tryz.underlying44 (by decide) (by kernel_rfl) ⟨n, (by
    rw [hs] at g3
    exact g3)⟩
  subst hL
  have b1 := bounds_u8 hkw
  have b2 := bounds_u64 hdw
  rw [flat_one] at hRow
  refine ⟨⟨k.toNat, r.1.1, r.1.2, d.toNat, a, c, L, by omega, r.2, by omega, hQ⟩, ?_, hRow, hlc, hcm⟩
  have c1 : Tryz.prog.cellsOf 44 = 1 := by kernel_rfl
  have c2 : Tryz.prog.cellsOf 43 = 1 := by kernel_rfl
  have c3 : Tryz.prog.cellsOf 42 = 35 := by kernel_rfl
  have c4 : Tryz.prog.cellsOf 5 = 1 := by kernel_rfl
  rw [cells4 hcs]
  unfold factL
  have h0 : (cs.drop 0).take 1 = [.int .u8 k] := by have := hk; rwa [c4] at this
  have h1 : (cs.drop 1).take 35 = rowL r.1 := by have := hr.symm; rwa [c3] at this
  have h2 : (cs.drop 36).take 1 = [.int .u64 d] := by have := hd; rwa [c2] at this
  have h3 : (cs.drop 37).take 1 = [.slice a L.length c] := by have := hs; rwa [c1] at this
  rw [h0, h1, h2, h3]
  show Value.int .u8 ((k.toNat : Nat) : Int) :: (rowL r.1 ++ [.int .u64 ((d.toNat : Nat) : Int), .slice a L.length c]) = _
  rw [Int.toNat_of_nonneg b1.1, Int.toNat_of_nonneg b2.1]
  rfl
end
end Go.Proofs.YtnfbchhbcinloaaGreat

/- The walk over few. -/
namespace Go.Proofs.YtnfbchhbcinloaaGreat
open Go.RowKit Go.XR Go.IndexPure Go.CachePure Go.FindPure
theorem fact_slice (a : FActT) : (factL a)[37]? = some (.slice a.ba a.b.length a.bc) := by
  unfold factL
  rw [List.getElem?_cons_succ, List.getElem?_append_right (by rw [rowL_length]; omega), rowL_length]; rfl
theorem fact_kind (a : FActT) : (factL a)[0]? = some (.int .u8 (a.kind : Int)) := rfl
theorem fact_draw (a : FActT) : (factL a)[36]? = some (.int .u64 (a.draw : Int)) := by
  unfold factL
  rw [List.getElem?_cons_succ, List.getElem?_append_right (by rw [rowL_length]; omega), rowL_length]; rfl
theorem fact_row {w : World} {b o : Nat} {a : FActT} (h : At w b o (factC a)) : At w b (o + 1) (rowC (a.key, a.place)) := fun j u hj => by
  rw [Nat.add_assoc]
  refine h (1 + j) u ?_
  have hj' : (rowL (a.key, a.place))[j]? = some u := by simpa [rowC] using hj
  show (factL a).toArray[1 + j]? = some u
  rw [List.getElem?_toArray, Nat.add_comm]
  show (rowL (a.key, a.place) ++ _)[j]? = some u
  rw [List.getElem?_append_left (List.getElem?_eq_some_iff.1 hj').1]; exact hj'
theorem fact_at {w : World} {b o : Nat} {a : FActT} (h : At w b o (factC a)) {i : Nat} {u : Value} (hi : (factL a)[i]? = some u) : w.cell? ⟨b, o + i, none⟩ = some u := h i u (by show (factL a).toArray[i]? = _; rw [List.getElem?_toArray]; exact hi)
def RetFew (a : Option Addr) (c : Nat) (l : List FActT) (w : World) (e : Ending) (w' : World) : Prop :=
  ∃ n, n ≤ l.length ∧ n ≤ 150 ∧ e = .returned (.slice a n c) ∧ w' = w ∧ ∀ x ∈ l.take n, x.b.length ≤ 2000
set_option maxHeartbeats 2000000 in
set_option maxRecDepth 100000 in
theorem ffew_any (w : World) (a : Option Addr) (c : Nat) (l : List FActT) (hR : Row w a (l.flatMap factL)) (hl : l.length ≤ maxLen) (hc : l.length ≤ c) (hbl : ∀ x ∈ l, x.b.length ≤ maxLen) :
    Calls Tryz.prog 7 #[.slice a l.length c] w (RetFew a c l w) := by
  have HR := Lib.hid hR
  have Hbl := Lib.hid hbl
  have hml : l.length ≤ 9223372036854775807 := by unfold maxLen at hl; omega
  clear hR hl hbl
  go_enter Tryz.func7, Tryz.ntmps7
  go_wp2
  go_loopg [7, 3] l.length (fun m i t wr => wr = w ∧ ∃ j left : Nat, j ≤ l.length ∧ j ≤ 150 ∧ left ≤ 2000 ∧ i = .int .i64 j ∧ t = .int .i64 left ∧ Hid (m = l.length - j ∧ ∀ x ∈ l.take j, x.b.length ≤ 2000))
  case atStart => exact ⟨rfl, 0, 2000, by omega, by omega, by omega, rfl, rfl, rfl, fun x hx => by simp at hx⟩
  case round =>
    obtain ⟨rfl, j, left, hj, hj150, hle, rfl, rfl, hr⟩ := hrel
    by_cases hlt : j < l.length
    · have hlt2 : (j : Int) < (l.length : Int) := by omega
      obtain ⟨g, o, rfl, hX⟩ := row_at factL_length HR.out hlt (by omega)
      have hcell : wr.cell? ⟨g, o + j * 38 + 37, none⟩ = some (.slice l[j].ba l[j].b.length l[j].bc) := fact_at hX (fact_slice l[j])
      have hbj := Hbl.out _ (List.getElem_mem hlt)
      have Htk : Hid (l.take (j + 1) = l.take j ++ [l[j]]) := List.take_succ_eq_append_getElem hlt
      clear hX
      generalize l[j] = x at *
      have hbm : x.b.length ≤ 9223372036854775807 := by unfold maxLen at hbj; omega
      by_cases h1 : (150 : Int) ≤ (j : Int)
      · have hjl : j ≤ c := by omega
        clear hcell
        go_wp2
        go_ret
        exact ⟨j, by omega, hj150, rfl, rfl, hr.out.2⟩
      · by_cases hb : left < x.b.length
        · have hb2 : (left : Int) < (x.b.length : Int) := by omega
          have hjl : j ≤ c := by omega
          go_wp2
          go_ret
          exact ⟨j, by omega, hj150, rfl, rfl, hr.out.2⟩
        · have hb2 : ¬ (left : Int) < (x.b.length : Int) := by omega
          go_wp2
          go_roundg (l.length - (j + 1))
          case measure => have := hr.out.1; omega
          case rel =>
            refine ⟨rfl, j + 1, left - x.b.length, by omega, by omega, by omega, by go_num, by go_num, rfl, fun y hy => ?_⟩
            rw [Htk.out] at hy
            rcases List.mem_append.1 hy with h | h
            · exact hr.out.2 y h
            · rw [List.mem_singleton] at h; subst h; omega
    · have hge : ¬ (j : Int) < (l.length : Int) := by omega
      obtain rfl : j = l.length := by omega
      go_wp2
      go_ret
      exact ⟨l.length, by omega, hj150, rfl, rfl, hr.out.2⟩
end Go.Proofs.YtnfbchhbcinloaaGreat

/- The reference's summary: the walks over four and Places. -/
namespace Go.FindPure
open Go Go.XR
def ptN (s : Vector UInt8 32) (o : Nat) : Nat → Nat
  | 0 => 0
  | j + 1 => ptN s o j * 256 + sb s (o + j)
theorem ptN_lt (s : Vector UInt8 32) (o : Nat) : ∀ j, ptN s o j < 256 ^ j
  | 0 => by show 0 < 256 ^ 0; decide
  | j + 1 => by
    have h1 := ptN_lt s o j
    have h2 := sb_lt s (o + j)
    unfold ptN
    rw [Nat.pow_succ]
    omega
theorem ptN_four (s : Vector UInt8 32) (o : Nat) : ptN s o 4 = w4 s o := by
  unfold w4
  show ((((0 * 256 + sb s (o + 0)) * 256 + sb s (o + 1)) * 256 + sb s (o + 2)) * 256 + sb s (o + 3)) = _
  rw [Nat.add_zero]; omega
theorem stp_odd (k : KeyT) : stp k = if w4 k.sum 4 % 2 = 0 then w4 k.sum 4 + 1 else w4 k.sum 4 := by
  unfold stp
  have h := nat_join 1 (w4 k.sum 4 - w4 k.sum 4 % 2) (w4 k.sum 4 % 2) (by omega) (by omega)
  have e : w4 k.sum 4 ||| 1 = (w4 k.sum 4 - w4 k.sum 4 % 2) + 1 := by
    rcases Nat.mod_two_eq_zero_or_one (w4 k.sum 4) with h0 | h0
    · have := nat_join 1 (w4 k.sum 4) 1 (by omega) (by decide)
      rw [this, h0]; omega
    · have h1 := nat_join 1 (w4 k.sum 4 - 1) 1 (by omega) (by decide)
      have h2 : w4 k.sum 4 = (w4 k.sum 4 - 1) ||| 1 := by rw [h1]; omega
      rw [h2, Nat.or_assoc, Nat.or_self, h1]
      omega
  rw [e]
  split <;> omega
end Go.FindPure
namespace Go.Proofs.YtnfbchhbcinloaaGreat
open Go.RowKit Go.XR Go.IndexPure Go.FindPure
theorem sum_byte {w : World} {b : Nat} {s : Vector UInt8 32} (h : At w b 0 (sumC s)) {j : Nat} (hj : j < 32) : w.cell? ⟨b, j, none⟩ = some (.int .u8 (sb s j : Int)) := by
  have h1 := h j (bV s[j]) (by
    show (sumL s).toArray[j]? = _
    rw [List.getElem?_toArray]
    unfold sumL
    rw [List.getElem?_map, List.getElem?_eq_getElem (by simpa using hj)]; simp)
  rw [Nat.zero_add] at h1
  rw [h1]
  unfold bV sb
  rw [List.getD_eq_getElem?_getD, List.getElem?_eq_getElem (by simpa using hj)]; simp
set_option maxHeartbeats 1000000 in
set_option maxRecDepth 100000 in
theorem four_any (w : World) (s : Vector UInt8 32) (o : Nat) (ho : o ≤ 28) : Calls Tryz.prog 81 #[sumV s, .int .i64 o] w fun e w' => e = .returned (.int .u32 (w4 s o : Int)) ∧ Below w.heap.size w w' := by
  obtain ⟨W0, hW0⟩ : ∃ W0, w.alloc (.cells (sumC s) 26) = W0 := ⟨_, rfl⟩
  have hb0 : Below w.heap.size w W0 := by rw [← hW0]; exact (Below.refl _ _).alloc (Nat.le_refl _) _
  have HS : Hid (At W0 w.heap.size 0 (sumC s)) := by unfold Hid; rw [← hW0]; exact At.new _ _ _
  have Hb0 := Lib.hid hb0
  clear hb0
  obtain ⟨kb, hkb⟩ : ∃ kb, w.heap.size = kb := ⟨_, rfl⟩
  rw [hkb] at HS
  have Hkb := Lib.hid hkb
  go_enter Tryz.func81, Tryz.ntmps81
  go_wp2
  clear hW0 hkb
  go_loopg [6, 5] 4 (fun m i n wr => wr = W0 ∧ ∃ j : Nat, j ≤ 4 ∧ i = .int .i64 j ∧ n = .int .u32 (ptN s o j : Int) ∧ Hid (m = 4 - j))
  case atStart => exact ⟨rfl, 0, by omega, rfl, rfl, rfl⟩
  case round =>
    obtain ⟨rfl, j, hj, rfl, rfl, hm⟩ := hrel
    by_cases hlt : j < 4
    · have hlt2 : (j : Int) < 4 := by omega
      have hc := sum_byte HS.out (j := o + j) (by omega)
      have hb := sb_lt s (o + j)
      have hp : ptN s o j < 16777216 := Nat.lt_of_lt_of_le (ptN_lt s o j) (Nat.le_trans (Nat.pow_le_pow_right (by decide) (show j ≤ 3 by omega)) (by decide))
      have Hs : Hid (ptN s o (j + 1) = ptN s o j * 256 + sb s (o + j)) := rfl
      have hix : (o : Int) + (j : Int) = ((o + j : Nat) : Int) := by omega
      have hoj : o + j < 32 := by omega
      generalize o + j = q at *
      generalize ptN s o j = n at *
      generalize sb s q = b at *
      go_wp2
      go_roundg (4 - (j + 1))
      case measure => have := hm.out; omega
      case rel => exact ⟨rfl, j + 1, by omega, by go_num, by rw [Hs.out]; go_num, rfl⟩
    · have hge : ¬ (j : Int) < 4 := by omega
      obtain rfl : j = 4 := by omega
      have H4 := Lib.hid (ptN_four s o)
      rw [H4.out]
      go_wp2
      go_ret
      exact ⟨rfl, by rw [Hkb.out] at *; exact Hb0.out⟩
theorem four_at (w : World) (s : Vector UInt8 32) (z : Int) (o : Nat) (ho : o ≤ 28) (hz : z = (o : Int)) : Calls Tryz.prog 81 #[.agg (sumC s), .int .i64 z] w fun e w' => e = .returned (.int .u32 (w4 s o : Int)) ∧ Below w.heap.size w w' := by
  subst hz; exact four_any w s o ho
/-- how the reference's summary lies -/
structure RVec (w : World) (p q cap probes : Nat) (B : List Bool) : Prop where
  blk : Blk w p [.slice (some ⟨q, 0, none⟩) B.length cap, .int .i64 probes]
  row : Blk w q (B.map .bool)
  ne : p ≠ q
  cap : B.length ≤ cap
  bits : B.length ≤ 1048576
  probes : probes ≤ 30
theorem RVec.but {w w' : World} {S : List Nat} {p q cap probes : Nat} {B : List Bool} (h : RVec w p q cap probes B) (hb : But S w w') (hp : p ∉ S) (hq : q ∉ S) : RVec w' p q cap probes B :=
  { h with blk := h.blk.but hb hp, row := h.row.but hb hq }
theorem RVec.below {w w' : World} {p q cap probes : Nat} {B : List Bool} (h : RVec w p q cap probes B) (hb : Below w.heap.size w w') : RVec w' p q cap probes B :=
  { h with blk := h.blk.below hb, row := h.row.below hb }
def nI (n : Nat) : List Value := [.int .i64 (n : Int)]
theorem nI_one (n : Nat) : ∀ v ∈ nI n, v.oneCell' = true := by
  intro v hv
  unfold nI at hv
  rw [List.mem_singleton] at hv
  subst hv; rfl
theorem owns_len {w : World} {base : Nat} {e : TypeId} {size : Nat} {a : Option Addr} {n c : Nat} {xs : List Value} (h : w.ownsRow base e size (.slice a n c) n xs) : n ≤ c := by
  rcases h.2 with ⟨h1, h2⟩ | ⟨g, cap, cur, h1, _, _, h2, _⟩
  · omega
  · injection h1 with _ _ h3; omega
def RetPlc (w : World) (l : List Nat) (e : Ending) (w' : World) : Prop :=
  ∃ a c, e = .returned (.slice a l.length c) ∧ Row w' a (l.flatMap nI) ∧ (∀ x, a = some x → w.heap.size ≤ x.block) ∧ l.length ≤ c ∧ Below w.heap.size w w'
theorem placesN_length (bits n : Nat) (k : KeyT) : (placesN bits n k).length = n := by unfold placesN; rw [List.length_map, List.length_range]
set_option maxHeartbeats 2000000 in
set_option maxRecDepth 100000 in
theorem places_any (w : World) (p q cap probes : Nat) (B : List Bool) (hV : RVec w p q cap probes B) (k : KeyT) :
    Calls Tryz.prog 64 #[.pointer (some ⟨p, 0, none⟩), keyV k] w (RetPlc w (places B.length probes k)) := by
  obtain ⟨W0, hW0⟩ : ∃ W0, w.alloc (.cells (keyC k) 29) = W0 := ⟨_, rfl⟩
  have hb0 : Below w.heap.size w W0 := by rw [← hW0]; exact (Below.refl _ _).alloc (Nat.le_refl _) _
  have HK : Hid (At W0 w.heap.size 0 (keyC k)) := by unfold Hid; rw [← hW0]; exact At.new _ _ _
  have HV := Lib.hid (hV.below hb0)
  have Hb0 := Lib.hid hb0
  have hbb := hV.bits
  have hpp := hV.probes
  obtain ⟨bits, hbits⟩ : ∃ bits, B.length = bits := ⟨_, rfl⟩
  have c0 : W0.cell? ⟨p, 0, none⟩ = some (.slice (some ⟨q, 0, none⟩) bits cap) := by rw [← hbits]; exact HV.out.blk.cell (i := 0) rfl
  have HVb : Hid (∀ W, Below W0.heap.size W0 W → W.cell? ⟨p, 0, none⟩ = some (.slice (some ⟨q, 0, none⟩) bits cap) ∧ W.cell? ⟨p, 1, none⟩ = some (.int .i64 probes)) := fun W hW => by
    have h := HV.out.below hW
    exact ⟨by rw [← hbits]; exact h.blk.cell (i := 0) rfl, h.blk.cell (i := 1) rfl⟩
  rw [hbits] at hbb ⊢
  clear hV hb0 hbits
  by_cases h0 : bits = 0
  · subst h0
    go_enter Tryz.func64, Tryz.ntmps64
    go_wp2
    go_ret
    exact ⟨none, 0, rfl, .inl rfl, (fun x h => by cases h), Nat.le_refl _, Hb0.out⟩
  have hbi : ¬ (bits : Int) = 0 := by omega
  have hbz : ((bits : Int) == 0) = false := by rw [beq_eq_false_iff_ne]; exact hbi
  obtain ⟨kb, hkb⟩ : ∃ kb, w.heap.size = kb := ⟨_, rfl⟩
  rw [hkb] at HK
  have HKs := Lib.hid (key_at_sum HK.out)
  have cn : W0.cell? ⟨kb, 32, none⟩ = some (.int .u32 (k.n.toNat : Int)) := by have := key_at_n HK.out; rwa [Nat.zero_add] at this
  have hkn : kb < W0.heap.size := HK.out.lt (by rw [keyC_size]; omega)
  have hxa := add_u32 (w4 k.sum 0) k.n.toNat
  rw [← xat_zero] at hxa
  have hnl := k.n.toNat_lt
  have h40 := w4_lt k.sum 0
  have h44 := w4_lt k.sum 4
  have Hst := Lib.hid (stp_odd k)
  have hsl := stp_lt k
  go_enter Tryz.func64, Tryz.ntmps64
  go_wp2
  clear hW0 hkb
  have hS0 : Below W0.heap.size W0 W0.drew := (Below.refl _ _).drew
  refine Go.XR.region_sched ((Below W0.heap.size W0)) [(0, true), (1, true), (3, true), (4, true), (2, false), (5, false), (6, false)] [5, 6] Tryz.mixed (by kernel_rfl) (by kernel_rfl) (by kernel_rfl) ?_
  simp only [List.map_cons, List.map_nil, List.getElem?_cons_succ, List.getElem?_cons_zero]
  repeat (first | (refine Go.XR.S_light rfl rfl (by assumption) ?_ (fun w' hS K hK => ?_) (fun K hK => ?_); rotate_left 1; (have hS1 := bcell hS; (first | (refine Go.XR.wp_load_at 26 (.tmp 16) rfl kb 0 rfl (sumC k.sum) (At.below HKs.out (by rw [sumC_size]; omega) hS) _ Tryz.underlying26 rfl (sumSize k.sum) ?_) | go_step); exact hK); go_step; refine hK _ ?_; clear hK K))
  refine Go.XR.S_heavy (fun K hK => ?_)
  go_step
  ((with_reducible refine ((four_at W0.drew k.sum 0 0 (by omega) rfl)).mono ?_); rintro e w' ⟨rfl, hb1⟩)
  have hS1 : Below W0.heap.size W0 w' := hS0.trans (hb1.mono hS0.size)
  clear hb1
  refine hK _ _ ⟨fun _ => hS1, ?_⟩
  clear hK K
  repeat (first | (refine Go.XR.S_light rfl rfl (by assumption) ?_ (fun w' hS K hK => ?_) (fun K hK => ?_); rotate_left 1; (have hS1 := bcell hS; (first | (refine Go.XR.wp_load_at 26 (.tmp 16) rfl kb 0 rfl (sumC k.sum) (At.below HKs.out (by rw [sumC_size]; omega) hS) _ Tryz.underlying26 rfl (sumSize k.sum) ?_) | go_step); exact hK); go_step; refine hK _ ?_; clear hK K))
  repeat (first | (refine Go.XR.S_heavy (fun K hK => ?_); go_step; refine hK _ _ ⟨fun h => by simp at h, ?_⟩; clear hK K))
  refine Go.XR.S_nil ?_
  obtain ⟨W1, hW1⟩ : ∃ W1, w' = W1 := ⟨_, rfl⟩
  rw [hW1] at hS1 ⊢
  have HKs1 := Lib.hid (HKs.out.below (by rw [sumC_size]; omega) hS1)
  have HS1 := Lib.hid hS1
  clear hW1 w' c0 cn hS0 hS1
  go_wp2_with (first | (refine wpList_load_at rfl 26 (.tmp 22) rfl kb 0 (by kernel_rfl) (sumC k.sum) HKs1.out _ Tryz.underlying26 rfl (sumSize _) ?_) | fail)
  refine (four_at W1 k.sum 4 4 (by omega) rfl).mono ?_
  rintro e W2 ⟨rfl, hb2⟩
  have HS2 := Lib.hid (HS1.out.trans (hb2.mono HS1.out.size))
  clear hb2 HS1 HKs1
  have Hc2 := Lib.hid (HVb.out W2 HS2.out)
  obtain ⟨st, hst⟩ : ∃ st, stp k = st := ⟨_, rfl⟩
  have Hxs : Hid (∀ j, xat k (j + 1) = (xat k j + st) % 4294967296) := fun j => by rw [← hst]; exact xat_succ k j
  rw [hst] at Hst hsl
  obtain ⟨b4, hb4⟩ : ∃ b4, w4 k.sum 4 = b4 := ⟨_, rfl⟩
  rw [hb4] at Hst h44 ⊢
  have hpl : places bits probes k = placesN bits probes k := by unfold places; rw [if_neg h0]
  have Hpl := Lib.hid hpl
  have HbW := Lib.hid (Hb0.out.trans (HS2.out.mono Hb0.out.size))
  have hsz2 := HS2.out.size
  clear hst hb4 hpl HKs HK HV hkn hxa hnl h40
  by_cases he : b4 % 2 = 0
  · have hes : st = b4 + 1 := by rw [Hst.out, if_pos he]
    have hei : (b4 : Int) % 2 = 0 := by omega
    subst hes
    clear Hst he
    go_wp2
    go_loopg [8, 6, 5] probes (fun m i x l wr => Below W2.heap.size W2 wr ∧ ∃ (j : Nat) (la : Option Addr) (lc : Nat) (o : List Nat), i = .int .i64 j ∧ x = .int .u32 (xat k j : Int) ∧ l = .slice la o.length lc ∧ j ≤ probes ∧ Hid (m = probes - j ∧ o = placesN bits j k ∧ wr.ownsRow W2.heap.size 3 1 (.slice la o.length lc) o.length (o.flatMap nI)))
    case atStart => exact ⟨Below.refl _ _, 0, none, 0, [], rfl, rfl, rfl, Nat.zero_le _, rfl, rfl, World.ownsRow_nil _ _ _ _⟩
    case round =>
      obtain ⟨hb, j, la, lc, o, rfl, rfl, rfl, hj, hr⟩ := hrel
      have Hb := Lib.hid hb
      obtain ⟨c0, c1⟩ := HVb.out wr (HS2.out.trans (hb.mono HS2.out.size))
      have Ho := Lib.hid hr.out.2.1
      have Hown := Lib.hid hr.out.2.2
      have hgn := hr.out.1
      have hol : o.length = j := by rw [Ho.out, placesN_length]
      have hsz := hb.size
      clear hr hb
      by_cases hlt : j < probes
      · have hlt2 : (j : Int) < (probes : Int) := by omega
        have hxl := xat_lt k j
        have Hx1 := Lib.hid (Hxs.out j)
        have Hps := Lib.hid (placesN_succ bits j k)
        generalize xat k j = x at *
        have hwx : wrap64 ((x : Int) % (bits : Int)) = ((x % bits : Nat) : Int) := by
          have h1 : x % bits < bits := Nat.mod_lt _ (by omega)
          rw [show ((x : Int) % (bits : Int)) = ((x % bits : Nat) : Int) from rfl]
          generalize x % bits = y at h1 ⊢
          unfold wrap64; omega
        go_wp2_with (first | (at_builtin; refine Go.XR.stop (fun X hX => ?_)) | fail)
        refine hX.out ?_
        clear hX X
        rw [hwx]
        refine wpList_plain rfl (fun K hK => ?_)
        refine append_enc (P := Tryz.prog) nI 1 8 (fun _ => rfl) nI_one 3 Tryz.underlying97 (by kernel_rfl) (by decide) W2.heap.size la lc o rfl (Hown.out.alloc _) (some ⟨wr.heap.size, 0, none⟩) 1 [x % bits] rfl (by rw [List.flatMap_cons, List.flatMap_nil, List.append_nil]; exact Row.new wr _ _) (fun e => by cases e) (by simp; omega) (by unfold maxLen; simp; omega) (by simp; omega) ?_
        intro a3 c3 w3 ho3 hb3 _ _
        have Ho3 := Lib.hid ho3
        have Hb3 := Lib.hid ((Hb.out.trans ((Below.refl _ wr).alloc hsz _)).trans hb3)
        clear ho3 hb3
        obtain ⟨o3, hoo⟩ : ∃ o3, o ++ [x % bits] = o3 := ⟨_, rfl⟩
        have Hn : Hid (o3 = placesN bits (j + 1) k) := by unfold Hid; rw [Hps.out, ← Ho.out, hoo]
        rw [hoo] at Ho3 ⊢
        clear hoo
        go_wp2
        go_roundg (probes - (j + 1))
        case measure => omega
        case rel => exact ⟨Hb3.out, j + 1, a3, c3, o3, by go_num, by rw [Hx1.out]; go_num, rfl, by omega, rfl, Hn.out, Ho3.out⟩
      · have hge : ¬ (j : Int) < (probes : Int) := by omega
        obtain rfl : j = probes := by omega
        go_wp2
        go_ret
        refine ⟨la, lc, ?_, ?_, (fun x hx => by subst hx; exact Nat.le_trans HbW.out.size (Hown.out.lt x.block rfl).1), ?_, HbW.out.trans (Hb.out.mono HbW.out.size)⟩
        · rw [Hpl.out, ← Ho.out, hol]; rfl
        · rw [Hpl.out, ← Ho.out]; exact Row.owned Hown.out
        · rw [Hpl.out, ← Ho.out]; exact owns_len Hown.out
  · have hes : st = b4 := by rw [Hst.out, if_neg he]
    have hei : ¬ (b4 : Int) % 2 = 0 := by omega
    subst hes
    clear Hst he
    go_wp2
    go_loopg [8, 6, 5] probes (fun m i x l wr => Below W2.heap.size W2 wr ∧ ∃ (j : Nat) (la : Option Addr) (lc : Nat) (o : List Nat), i = .int .i64 j ∧ x = .int .u32 (xat k j : Int) ∧ l = .slice la o.length lc ∧ j ≤ probes ∧ Hid (m = probes - j ∧ o = placesN bits j k ∧ wr.ownsRow W2.heap.size 3 1 (.slice la o.length lc) o.length (o.flatMap nI)))
    case atStart => exact ⟨Below.refl _ _, 0, none, 0, [], rfl, rfl, rfl, Nat.zero_le _, rfl, rfl, World.ownsRow_nil _ _ _ _⟩
    case round =>
      obtain ⟨hb, j, la, lc, o, rfl, rfl, rfl, hj, hr⟩ := hrel
      have Hb := Lib.hid hb
      obtain ⟨c0, c1⟩ := HVb.out wr (HS2.out.trans (hb.mono HS2.out.size))
      have Ho := Lib.hid hr.out.2.1
      have Hown := Lib.hid hr.out.2.2
      have hgn := hr.out.1
      have hol : o.length = j := by rw [Ho.out, placesN_length]
      have hsz := hb.size
      clear hr hb
      by_cases hlt : j < probes
      · have hlt2 : (j : Int) < (probes : Int) := by omega
        have hxl := xat_lt k j
        have Hx1 := Lib.hid (Hxs.out j)
        have Hps := Lib.hid (placesN_succ bits j k)
        generalize xat k j = x at *
        have hwx : wrap64 ((x : Int) % (bits : Int)) = ((x % bits : Nat) : Int) := by
          have h1 : x % bits < bits := Nat.mod_lt _ (by omega)
          rw [show ((x : Int) % (bits : Int)) = ((x % bits : Nat) : Int) from rfl]
          generalize x % bits = y at h1 ⊢
          unfold wrap64; omega
        go_wp2_with (first | (at_builtin; refine Go.XR.stop (fun X hX => ?_)) | fail)
        refine hX.out ?_
        clear hX X
        rw [hwx]
        refine wpList_plain rfl (fun K hK => ?_)
        refine append_enc (P := Tryz.prog) nI 1 8 (fun _ => rfl) nI_one 3 Tryz.underlying97 (by kernel_rfl) (by decide) W2.heap.size la lc o rfl (Hown.out.alloc _) (some ⟨wr.heap.size, 0, none⟩) 1 [x % bits] rfl (by rw [List.flatMap_cons, List.flatMap_nil, List.append_nil]; exact Row.new wr _ _) (fun e => by cases e) (by simp; omega) (by unfold maxLen; simp; omega) (by simp; omega) ?_
        intro a3 c3 w3 ho3 hb3 _ _
        have Ho3 := Lib.hid ho3
        have Hb3 := Lib.hid ((Hb.out.trans ((Below.refl _ wr).alloc hsz _)).trans hb3)
        clear ho3 hb3
        obtain ⟨o3, hoo⟩ : ∃ o3, o ++ [x % bits] = o3 := ⟨_, rfl⟩
        have Hn : Hid (o3 = placesN bits (j + 1) k) := by unfold Hid; rw [Hps.out, ← Ho.out, hoo]
        rw [hoo] at Ho3 ⊢
        clear hoo
        go_wp2
        go_roundg (probes - (j + 1))
        case measure => omega
        case rel => exact ⟨Hb3.out, j + 1, a3, c3, o3, by go_num, by rw [Hx1.out]; go_num, rfl, by omega, rfl, Hn.out, Ho3.out⟩
      · have hge : ¬ (j : Int) < (probes : Int) := by omega
        obtain rfl : j = probes := by omega
        go_wp2
        go_ret
        refine ⟨la, lc, ?_, ?_, (fun x hx => by subst hx; exact Nat.le_trans HbW.out.size (Hown.out.lt x.block rfl).1), ?_, HbW.out.trans (Hb.out.mono HbW.out.size)⟩
        · rw [Hpl.out, ← Ho.out, hol]; rfl
        · rw [Hpl.out, ← Ho.out]; exact Row.owned Hown.out
        · rw [Hpl.out, ← Ho.out]; exact owns_len Hown.out
end Go.Proofs.YtnfbchhbcinloaaGreat

/- The reference's summary: New, Add, May, Or. -/
namespace Go.FindPure
open Go Go.XR
def bg (B : List Bool) (i : Nat) : Bool := B.getD i false
theorem bg_set {B : List Bool} {p : Nat} (h : p < B.length) (v : Bool) (i : Nat) : bg (B.set p v) i = if i = p then v else bg B i := by
  unfold bg
  rw [List.getD_eq_getElem?_getD, List.getD_eq_getElem?_getD]
  by_cases e : i = p
  · subst e; rw [if_pos rfl, List.getElem?_set_self h]; rfl
  · rw [if_neg e, List.getElem?_set_ne (fun h => e h.symm)]
theorem bg_rep (n i : Nat) : bg (List.replicate n false) i = false := by
  unfold bg
  rw [List.getD_eq_getElem?_getD]
  cases h : (List.replicate n false)[i]? with
  | none => rfl
  | some x => exact (List.mem_replicate.1 (List.mem_of_getElem? h)).2
end Go.FindPure
namespace Go.Proofs.YtnfbchhbcinloaaGreat
open Go.RowKit Go.XR Go.IndexPure Go.FindPure
theorem RVec.bit {w : World} {p q cap probes : Nat} {B : List Bool} (h : RVec w p q cap probes B) {i : Nat} (hi : i < B.length) : w.cell? ⟨q, i, none⟩ = some (.bool (bg B i)) :=
  h.row.cell (by unfold bg; rw [List.getElem?_map, List.getD_eq_getElem?_getD, List.getElem?_eq_getElem hi]; rfl)
theorem RVec.setBit {w : World} {p q cap probes : Nat} {B : List Bool} (h : RVec w p q cap probes B) (i : Nat) (v : Bool) : RVec (w.setCell ⟨q, i, none⟩ (.bool v)) p q cap probes (B.set i v) := by
  have hbut : But [q] w (w.setCell ⟨q, i, none⟩ (.bool v)) := (But.refl _ _).setCell (.inl (by simp)) _
  refine { blk := ?_, row := ?_, ne := h.ne, cap := by rw [List.length_set]; exact h.cap, bits := by rw [List.length_set]; exact h.bits, probes := h.probes }
  · rw [List.length_set]; exact h.blk.but hbut (by simpa using h.ne)
  · rw [List.map_set]; exact h.row.set _ _
def RetRSet (w : World) (p q cap probes n : Nat) (f : Nat → Bool) (e : Ending) (w' : World) : Prop :=
  e = .returned (.tuple #[]) ∧ ∃ B', B'.length = n ∧ (∀ i, i < n → bg B' i = f i) ∧ RVec w' p q cap probes B' ∧ But [q] w w'
theorem places_len (bits probes : Nat) (k : KeyT) : (places bits probes k).length ≤ probes := by
  unfold places
  split
  · exact Nat.zero_le _
  · rw [placesN_length]; exact Nat.le_refl _
set_option maxHeartbeats 2000000 in
set_option maxRecDepth 100000 in
theorem radd_any (w : World) (p q cap probes : Nat) (B : List Bool) (hV : RVec w p q cap probes B) (k : KeyT) :
    Calls Tryz.prog 37 #[.pointer (some ⟨p, 0, none⟩), keyV k] w (RetRSet w p q cap probes B.length fun i => bg B i || decide (i ∈ places B.length probes k)) := by
  obtain ⟨W0, hW0⟩ : ∃ W0, w.alloc (.cells (keyC k) 29) = W0 := ⟨_, rfl⟩
  have hb0 : Below w.heap.size w W0 := by rw [← hW0]; exact (Below.refl _ _).alloc (Nat.le_refl _) _
  have HK : Hid (At W0 w.heap.size 0 (keyC k)) := by unfold Hid; rw [← hW0]; exact At.new _ _ _
  have HV := Lib.hid (hV.below hb0)
  have Hb0 := Lib.hid hb0
  have hqw := hV.row.lt
  clear hV hb0
  obtain ⟨kb, hkb⟩ : ∃ kb, w.heap.size = kb := ⟨_, rfl⟩
  rw [hkb] at HK
  go_enter Tryz.func37, Tryz.ntmps37
  go_wp2_with (first | (refine wpList_load_at rfl 29 (.tmp 3) rfl kb 0 (by kernel_rfl) (keyC k) HK.out _ Tryz.underlying29 rfl (keySize _) ?_) | fail)
  refine (places_any W0 p q cap probes B HV.out k).mono ?_
  rintro e W1 ⟨a, c, rfl, hR, ha, hlc, hb1⟩
  have hll := places_len B.length probes k
  have hlt : ∀ x ∈ places B.length probes k, x < B.length := fun x hx => places_lt hx
  have Hlt := Lib.hid hlt
  obtain ⟨l, hl⟩ : ∃ l, places B.length probes k = l := ⟨_, rfl⟩
  rw [hl] at hR hlc hll hlt Hlt ⊢
  have Hl := Lib.hid hl
  have HR1 := Lib.hid hR
  have Hq : Hid (∀ x, a = some x → x.block ≠ q) := fun x hx h => by have := ha x hx; have := Hb0.out.size; omega
  have HV1 := Lib.hid (HV.out.below hb1)
  have Hb1 := Lib.hid (Hb0.out.trans (hb1.mono Hb0.out.size))
  have hpr := HV1.out.probes
  have hbb := HV1.out.bits
  clear hl hR ha hb1 hlt HV HK hW0 hkb
  go_wp2
  go_loopg [5] l.length (fun m i wr => ∃ j : Nat, j ≤ l.length ∧ i = .int .i64 j ∧ Hid (m = l.length - j ∧ Row wr a (l.flatMap nI) ∧ But [q] w wr ∧ ∃ B', B'.length = B.length ∧ (∀ i, i < B.length → bg B' i = (bg B i || decide (i ∈ l.take j))) ∧ RVec wr p q cap probes B'))
  case atStart => exact ⟨0, Nat.zero_le _, rfl, rfl, HR1.out, But.of_below Hb1.out, B, rfl, (fun i _ => by simp), HV1.out⟩
  case round =>
    obtain ⟨j, hj, rfl, hr⟩ := hrel
    have hgn := hr.out.1
    have HRr := Lib.hid hr.out.2.1
    have Hbr := Lib.hid hr.out.2.2.1
    obtain ⟨B', hBl, hBb, hV⟩ := hr.out.2.2.2
    have HBb := Lib.hid hBb
    have HV := Lib.hid hV
    have c0 := HV.out.blk.cell (i := 0) rfl
    rw [hBl] at c0
    clear hr hBb hV
    by_cases hjl : j < l.length
    · have hlt2 : (j : Int) < (l.length : Int) := by omega
      have hx := Hlt.out _ (List.getElem_mem hjl)
      obtain ⟨g, o, ha, hc⟩ := HRr.out.get (j := j) (u := .int .i64 (l[j] : Int)) (by
        have := flat_get (enc := nI) (k := 1) (fun _ => rfl) l hjl (j := 0) (by omega)
        rw [Nat.mul_one, Nat.add_zero] at this
        rw [this]; rfl)
      have Htk : Hid (l.take (j + 1) = l.take j ++ [l[j]]) := List.take_succ_eq_append_getElem hjl
      generalize l[j] = x at *
      have hfr := HV.out.row.free x
      have cx := HV.out.bit (i := x) (by omega)
      subst ha
      go_wp2
      refine Go.XR.region_sched ((· = wr.drew)) [(0, true), (1, true), (2, true), (3, true), (4, true), (5, true), (6, true), (7, true), (8, false), (9, false)] [8, 9] Tryz.mixed (by kernel_rfl) (by kernel_rfl) (by kernel_rfl) ?_
      simp only [List.map_cons, List.map_nil, List.getElem?_cons_succ, List.getElem?_cons_zero]
      repeat (first | (refine Go.XR.S_light rfl rfl rfl ?_ (fun w' hS K hK => ?_) (fun K hK => ?_); rotate_left 1; (cases hS; go_step; exact hK); go_step; refine hK _ ?_; clear hK K))
      repeat (first | (refine Go.XR.S_heavy (fun K hK => ?_); go_step; refine hK _ _ ⟨fun h => by simp at h, ?_⟩; clear hK K))
      refine Go.XR.S_nil ?_
      have Hbut : Hid (But [q] wr (wr.setCell ⟨q, x, none⟩ (.bool true)).drew) := ((But.refl [q] wr).setCell (.inl (by simp)) _).drew
      have HB := Lib.hid ((HV.out.setBit x true).below (Below.refl _ _).drew)
      have HRn : Hid (Row (wr.setCell ⟨q, x, none⟩ (.bool true)).drew (some ⟨g, o, none⟩) (l.flatMap nI)) := HRr.out.but Hbut.out fun g2 o2 h2 => by
        have := Hq.out _ h2
        simpa using this
      clear c0 cx hc hfr
      go_wp2
      go_roundg (l.length - (j + 1))
      case measure => omega
      case rel =>
        refine ⟨j + 1, by omega, by go_num, rfl, HRn.out, Hbr.out.trans Hbut.out, _, by rw [List.length_set]; exact hBl, fun i hi => ?_, HB.out⟩
        rw [bg_set (by omega), Htk.out]
        by_cases e : i = x
        · rw [if_pos e, e]; simp
        · rw [if_neg e, HBb.out i hi]; simp [e]
    · have hge : ¬ (j : Int) < (l.length : Int) := by omega
      obtain rfl : j = l.length := by omega
      go_wp2
      go_end0
      refine ⟨rfl, B', hBl, fun i hi => ?_, HV.out, Hbr.out⟩
      have := HBb.out i hi
      rw [List.take_length] at this
      show _ = (bg B i || decide (i ∈ places B.length probes k))
      rw [Hl.out]; exact this
set_option maxHeartbeats 2000000 in
set_option maxRecDepth 100000 in
theorem rmay_any (w : World) (p q cap probes : Nat) (B : List Bool) (hV : RVec w p q cap probes B) (k : KeyT) :
    Calls Tryz.prog 45 #[.pointer (some ⟨p, 0, none⟩), keyV k] w (RetBit w ((places B.length probes k).all (bg B))) := by
  obtain ⟨W0, hW0⟩ : ∃ W0, w.alloc (.cells (keyC k) 29) = W0 := ⟨_, rfl⟩
  have hb0 : Below w.heap.size w W0 := by rw [← hW0]; exact (Below.refl _ _).alloc (Nat.le_refl _) _
  have HK : Hid (At W0 w.heap.size 0 (keyC k)) := by unfold Hid; rw [← hW0]; exact At.new _ _ _
  have HV := Lib.hid (hV.below hb0)
  have Hb0 := Lib.hid hb0
  have hqw := hV.row.lt
  clear hV hb0
  obtain ⟨kb, hkb⟩ : ∃ kb, w.heap.size = kb := ⟨_, rfl⟩
  rw [hkb] at HK
  go_enter Tryz.func45, Tryz.ntmps45
  go_wp2_with (first | (refine wpList_load_at rfl 29 (.tmp 3) rfl kb 0 (by kernel_rfl) (keyC k) HK.out _ Tryz.underlying29 rfl (keySize _) ?_) | fail)
  refine (places_any W0 p q cap probes B HV.out k).mono ?_
  rintro e W1 ⟨a, c, rfl, hR, ha, hlc, hb1⟩
  have hll := places_len B.length probes k
  have hlt : ∀ x ∈ places B.length probes k, x < B.length := fun x hx => places_lt hx
  have Hlt := Lib.hid hlt
  obtain ⟨l, hl⟩ : ∃ l, places B.length probes k = l := ⟨_, rfl⟩
  rw [hl] at hR hlc hll hlt Hlt ⊢
  have Hl := Lib.hid hl
  have HR1 := Lib.hid hR
  have Hq : Hid (∀ x, a = some x → x.block ≠ q) := fun x hx h => by have := ha x hx; have := Hb0.out.size; omega
  have HV1 := Lib.hid (HV.out.below hb1)
  have Hb1 := Lib.hid (Hb0.out.trans (hb1.mono Hb0.out.size))
  have hpr := HV1.out.probes
  have hbb := HV1.out.bits
  clear hl hR ha hb1 hlt HV HK hW0 hkb
  have HBl : Hid (∀ x, x < B.length → W1.cell? ⟨q, x, none⟩ = some (.bool (bg B x))) := fun x hx => HV1.out.bit hx
  have c0 := HV1.out.blk.cell (i := 0) rfl
  have hb1 := HV1.out.blk.lt
  go_wp2
  go_loopg [6] l.length (fun m i wr => Below W1.heap.size W1 wr ∧ ∃ j : Nat, j ≤ l.length ∧ i = .int .i64 j ∧ Hid (m = l.length - j ∧ (l.take j).all (bg B) = true))
  case atStart => exact ⟨Below.refl _ _, 0, Nat.zero_le _, rfl, rfl, rfl⟩
  case round =>
    obtain ⟨hb, j, hj, rfl, hr⟩ := hrel
    have hgn := hr.out.1
    have HAl := Lib.hid hr.out.2
    have Hb := Lib.hid hb
    have HV := Lib.hid (HV1.out.below hb)
    have HRr := Lib.hid (HR1.out.below hb)
    have c0 := HV.out.blk.cell (i := 0) rfl
    clear hr hb
    by_cases hjl : j < l.length
    · have hlt2 : (j : Int) < (l.length : Int) := by omega
      have hx := Hlt.out _ (List.getElem_mem hjl)
      obtain ⟨g, o, ha, hc⟩ := HRr.out.get (j := j) (u := .int .i64 (l[j] : Int)) (by
        have := flat_get (enc := nI) (k := 1) (fun _ => rfl) l hjl (j := 0) (by omega)
        rw [Nat.mul_one, Nat.add_zero] at this
        rw [this]; rfl)
      have Htk : Hid (l.take (j + 1) = l.take j ++ [l[j]]) := List.take_succ_eq_append_getElem hjl
      have Hmem := Lib.hid (List.getElem_mem hjl)
      generalize l[j] = x at *
      have cx := HV.out.bit (i := x) (by omega)
      subst ha
      cases hbx : bg B x with
      | true =>
        have Hbx := Lib.hid hbx
        rw [hbx] at cx
        clear hbx
        go_wp2
        refine Go.XR.region_sched ((· = wr.drew)) [(0, true), (1, true), (2, true), (3, true), (4, true), (5, true), (6, true), (7, true), (8, false), (9, false), (10, false)] [8, 9, 10] Tryz.mixed (by kernel_rfl) (by kernel_rfl) (by kernel_rfl) ?_
        simp only [List.map_cons, List.map_nil, List.getElem?_cons_succ, List.getElem?_cons_zero]
        repeat (first | (refine Go.XR.S_light rfl rfl rfl ?_ (fun w' hS K hK => ?_) (fun K hK => ?_); rotate_left 1; (cases hS; go_step; exact hK); go_step; refine hK _ ?_; clear hK K))
        repeat (first | (refine Go.XR.S_heavy (fun K hK => ?_); go_step; refine hK _ _ ⟨fun h => by simp at h, ?_⟩; clear hK K))
        refine Go.XR.S_nil ?_
        clear c0 cx hc
        go_wp2
        go_roundg (l.length - (j + 1))
        case measure => omega
        case rel => exact ⟨Hb.out.drew, j + 1, by omega, by go_num, rfl, by rw [Htk.out, List.all_append, HAl.out]; simp [Hbx.out]⟩
      | false =>
        have Hbx := Lib.hid hbx
        rw [hbx] at cx
        clear hbx
        go_wp2
        refine Go.XR.region_sched ((· = wr.drew)) [(0, true), (1, true), (2, true), (3, true), (4, true), (5, true), (6, true), (7, true), (8, false), (9, false), (10, false)] [8, 9, 10] Tryz.mixed (by kernel_rfl) (by kernel_rfl) (by kernel_rfl) ?_
        simp only [List.map_cons, List.map_nil, List.getElem?_cons_succ, List.getElem?_cons_zero]
        repeat (first | (refine Go.XR.S_light rfl rfl rfl ?_ (fun w' hS K hK => ?_) (fun K hK => ?_); rotate_left 1; (cases hS; go_step; exact hK); go_step; refine hK _ ?_; clear hK K))
        repeat (first | (refine Go.XR.S_heavy (fun K hK => ?_); go_step; refine hK _ _ ⟨fun h => by simp at h, ?_⟩; clear hK K))
        refine Go.XR.S_nil ?_
        clear c0 cx hc
        go_wp2
        go_ret
        refine ⟨?_, Hb1.out.trans (Hb.out.drew.mono Hb1.out.size)⟩
        have : l.all (bg B) = false := by
          rw [Bool.eq_false_iff]
          intro h
          rw [List.all_eq_true] at h
          have := h _ Hmem.out
          rw [Hbx.out] at this; cases this
        rw [Hl.out, this]; rfl
    · have hge : ¬ (j : Int) < (l.length : Int) := by omega
      obtain rfl : j = l.length := by omega
      have ha : l.all (bg B) = true := by have := HAl.out; rwa [List.take_length] at this
      have Ha := Lib.hid ha
      clear ha
      go_wp2
      go_ret
      exact ⟨by rw [Hl.out, Ha.out]; rfl, Hb1.out.trans (Hb.out.mono Hb1.out.size)⟩
theorem bit_div {y m : Nat} : y.testBit m = decide (y / 2 ^ m % 2 = 1) := by rw [Nat.testBit_eq_decide_div_mod_eq]
set_option maxHeartbeats 2000000 in
set_option maxRecDepth 100000 in
theorem ror_any (w : World) (p q cap probes : Nat) (B : List Bool) (hV : RVec w p q cap probes B) (a : Option Addr) (c : Nat) (b : List Nat) (hR : Row w a (b.map byV)) (hq : 0 < b.length → ∀ g o, a = some ⟨g, o, none⟩ → g ≠ q) (hok : bytesOk b) (hbl : b.length ≤ 2^40) :
    Calls Tryz.prog 17 #[.pointer (some ⟨p, 0, none⟩), .slice a b.length c] w (RetRSet w p q cap probes B.length fun i => bg B i || bitAt b i) := by
  have hbb := hV.bits
  have HV0 := Lib.hid hV
  clear hV
  go_enter Tryz.func17, Tryz.ntmps17
  go_wp2
  go_loopg [4] B.length (fun m i wr => ∃ j : Nat, j ≤ B.length ∧ i = .int .i64 j ∧ Hid (m = B.length - j ∧ But [q] w wr ∧ ∃ B', B'.length = B.length ∧ (∀ i, i < B.length → bg B' i = (bg B i || (decide (i < j) && bitAt b i))) ∧ RVec wr p q cap probes B'))
  case atStart => exact ⟨0, Nat.zero_le _, rfl, rfl, But.refl _ _, B, rfl, (fun i _ => by simp), HV0.out⟩
  case round =>
    obtain ⟨j, hj, rfl, hr⟩ := hrel
    have hgn := hr.out.1
    have Hbr := Lib.hid hr.out.2.1
    obtain ⟨B', hBl, hBb, hV⟩ := hr.out.2.2
    have HBb := Lib.hid hBb
    have HV := Lib.hid hV
    have c0 := HV.out.blk.cell (i := 0) rfl
    rw [hBl] at c0
    clear hr hBb hV
    by_cases hjl : j < B.length
    · have hlt2 : (j : Int) < (B.length : Int) := by omega
      by_cases hj8 : j / 8 < b.length
      · have hlt8 : (j : Int) / 8 < (b.length : Int) := by omega
        obtain ⟨g, o, ha, hcb⟩ := hR.get (j := j / 8) (u := byV (b.getD (j / 8) 0)) (by rw [List.getElem?_map, List.getD_eq_getElem?_getD, List.getElem?_eq_getElem hj8]; rfl)
        have cb := Hbr.out.cell hcb (by simpa using hq (by omega) g o ha)
        have hfr := HV.out.row.free j
        have cj := HV.out.bit (i := j) (by omega)
        have hy := hok.get (j / 8)
        have Hbt : Hid (bitAt b j = decide (b.getD (j / 8) 0 / 2 ^ (j % 8) % 2 = 1)) := bit_div
        unfold byV at cb
        generalize b.getD (j / 8) 0 = y at *
        have hm8 : j % 8 < 8 := Nat.mod_lt _ (by decide)
        have hm0 : 0 ≤ (j : Int) % 8 := by omega
        subst ha
        clear hcb
        cases hbx : bg B' j with
        | true =>
          have Hbx := Lib.hid hbx
          rw [hbx] at cj
          clear hbx
          go_wp2
          refine Go.XR.region_sched ((· = wr.drew)) [(0, true), (1, true), (2, true), (3, true), (4, true), (5, true), (6, true), (7, true), (8, true), (9, true), (10, true), (11, true), (12, true), (13, true), (14, true), (15, true), (16, true), (17, true), (18, true), (19, true), (20, true), (21, true), (22, true), (23, true), (24, false), (25, false)] [24, 25] Tryz.mixed (by kernel_rfl) (by kernel_rfl) (by kernel_rfl) ?_
          simp only [List.map_cons, List.map_nil, List.getElem?_cons_succ, List.getElem?_cons_zero]
          repeat (first | (refine Go.XR.S_light rfl rfl rfl ?_ (fun w' hS K hK => ?_) (fun K hK => ?_); rotate_left 1; (cases hS; go_step; exact hK); go_step; refine hK _ ?_; clear hK K) | (refine Go.XR.S_light_off rfl rfl (fun K hK => ?_); go_step; refine hK _ ?_; clear hK K) | (refine Go.XR.S_light_on rfl rfl rfl rfl ?_ (fun w' hS K hK => ?_) (fun K hK => ?_); rotate_left 1; (cases hS; go_step; exact hK); go_step; refine hK _ ?_; clear hK K))
          repeat (first | (refine Go.XR.S_heavy (fun K hK => ?_); go_step; refine hK _ _ ⟨fun h => by simp at h, ?_⟩; clear hK K) | (refine Go.XR.S_heavy_off rfl (fun h => by simp at h) (fun K hK => ?_); go_step; refine hK _ ?_; clear hK K) | (refine Go.XR.S_heavy_on rfl (fun K hK => ?_); go_step; refine hK _ _ ⟨fun h => by simp at h, ?_⟩; clear hK K))
          refine Go.XR.S_nil ?_
          have hv : true = (bg B' j || bitAt b j) := by
            rw [Hbx.out, Bool.true_or]
          rw [hv]
          have Hv := Lib.hid hv
          clear hv
          obtain ⟨v, hvv⟩ : ∃ v, (bg B' j || bitAt b j) = v := ⟨_, rfl⟩
          rw [hvv]
          have Hvv := Lib.hid hvv
          clear hvv
          have Hbut : Hid (But [q] wr (wr.setCell ⟨q, j, none⟩ (.bool v)).drew) := ((But.refl [q] wr).setCell (.inl (by simp)) _).drew
          have HB := Lib.hid ((HV.out.setBit j v).below (Below.refl _ _).drew)
          clear c0 cj cb hfr
          go_wp2
          go_roundg (B.length - (j + 1))
          case measure => omega
          case rel =>
            refine ⟨j + 1, by omega, by go_num, rfl, Hbr.out.trans Hbut.out, _, by rw [List.length_set]; exact hBl, fun i hi => ?_, HB.out⟩
            rw [bg_set (by omega)]
            by_cases e : i = j
            · subst e
              rw [if_pos rfl, ← Hvv.out, HBb.out i hi]
              have e1 : decide (i < i) = false := decide_eq_false (by omega)
              have e2 : decide (i < i + 1) = true := decide_eq_true (by omega)
              rw [e1, e2, Bool.false_and, Bool.or_false, Bool.true_and]
            · rw [if_neg e, HBb.out i hi]
              have : decide (i < j + 1) = decide (i < j) := decide_eq_decide.2 (by omega)
              rw [this]
        | false =>
          have Hbx := Lib.hid hbx
          rw [hbx] at cj
          clear hbx
          go_wp2
          refine Go.XR.region_sched ((· = wr.drew)) [(0, true), (1, true), (2, true), (3, true), (4, true), (5, true), (6, true), (7, true), (8, true), (9, true), (10, true), (11, true), (12, true), (13, true), (14, true), (15, true), (16, true), (17, true), (18, true), (19, true), (20, true), (21, true), (22, true), (23, true), (24, false), (25, false)] [24, 25] Tryz.mixed (by kernel_rfl) (by kernel_rfl) (by kernel_rfl) ?_
          simp only [List.map_cons, List.map_nil, List.getElem?_cons_succ, List.getElem?_cons_zero]
          repeat (first | (refine Go.XR.S_light rfl rfl rfl ?_ (fun w' hS K hK => ?_) (fun K hK => ?_); rotate_left 1; (cases hS; go_step; exact hK); go_step; refine hK _ ?_; clear hK K) | (refine Go.XR.S_light_off rfl rfl (fun K hK => ?_); go_step; refine hK _ ?_; clear hK K) | (refine Go.XR.S_light_on rfl rfl rfl rfl ?_ (fun w' hS K hK => ?_) (fun K hK => ?_); rotate_left 1; (cases hS; go_step; exact hK); go_step; refine hK _ ?_; clear hK K))
          repeat (first | (refine Go.XR.S_heavy (fun K hK => ?_); go_step; refine hK _ _ ⟨fun h => by simp at h, ?_⟩; clear hK K) | (refine Go.XR.S_heavy_off rfl (fun h => by simp at h) (fun K hK => ?_); go_step; refine hK _ ?_; clear hK K) | (refine Go.XR.S_heavy_on rfl (fun K hK => ?_); go_step; refine hK _ _ ⟨fun h => by simp at h, ?_⟩; clear hK K))
          refine Go.XR.S_nil ?_
          have hv : (((y : Int) / 2 ^ (j % 8)).tmod 2 == 1) = (bg B' j || bitAt b j) := by
            rw [Hbx.out, Bool.false_or, Hbt.out, show ((y : Int) / 2 ^ (j % 8)) = ((y / 2 ^ (j % 8) : Nat) : Int) by simp]
            generalize y / 2 ^ (j % 8) = n
            rw [Int.tmod_eq_emod_of_nonneg (by omega), Bool.eq_iff_iff, beq_iff_eq, decide_eq_true_iff]
            omega
          rw [hv]
          have Hv := Lib.hid hv
          clear hv
          obtain ⟨v, hvv⟩ : ∃ v, (bg B' j || bitAt b j) = v := ⟨_, rfl⟩
          rw [hvv]
          have Hvv := Lib.hid hvv
          clear hvv
          have Hbut : Hid (But [q] wr (wr.setCell ⟨q, j, none⟩ (.bool v)).drew) := ((But.refl [q] wr).setCell (.inl (by simp)) _).drew
          have HB := Lib.hid ((HV.out.setBit j v).below (Below.refl _ _).drew)
          clear c0 cj cb hfr
          go_wp2
          go_roundg (B.length - (j + 1))
          case measure => omega
          case rel =>
            refine ⟨j + 1, by omega, by go_num, rfl, Hbr.out.trans Hbut.out, _, by rw [List.length_set]; exact hBl, fun i hi => ?_, HB.out⟩
            rw [bg_set (by omega)]
            by_cases e : i = j
            · subst e
              rw [if_pos rfl, ← Hvv.out, HBb.out i hi]
              have e1 : decide (i < i) = false := decide_eq_false (by omega)
              have e2 : decide (i < i + 1) = true := decide_eq_true (by omega)
              rw [e1, e2, Bool.false_and, Bool.or_false, Bool.true_and]
            · rw [if_neg e, HBb.out i hi]
              have : decide (i < j + 1) = decide (i < j) := decide_eq_decide.2 (by omega)
              rw [this]
      · have hge8 : ¬ (j : Int) / 8 < (b.length : Int) := by omega
        go_wp2
        go_end0
        refine ⟨rfl, B', hBl, fun i hi => ?_, HV.out, Hbr.out⟩
        rw [HBb.out i hi]
        show (bg B i || (decide (i < j) && bitAt b i)) = (bg B i || bitAt b i)
        by_cases h : i < j
        · simp [h]
        · have : bitAt b i = false := by
            unfold bitAt
            rw [List.getD_eq_getElem?_getD, List.getElem?_eq_none (by omega)]; simp
          rw [this]; simp
    · have hge : ¬ (j : Int) < (B.length : Int) := by omega
      obtain rfl : j = B.length := by omega
      go_wp2
      go_end0
      refine ⟨rfl, B', hBl, fun i hi => ?_, HV.out, Hbr.out⟩
      rw [HBb.out i hi]
      simp [hi]
/-- what New makes: nothing, or a summary without keys -/
def RetRNew (w : World) (bits probes : Int) (e : Ending) (w' : World) : Prop :=
  (¬ (0 ≤ bits ∧ bits ≤ 1048576 ∧ 0 ≤ probes ∧ probes ≤ 30) ∧ e = .returned (.tuple #[.pointer none, .int .i64 1]) ∧ w' = w) ∨
  (∃ m n : Nat, bits = m ∧ probes = n ∧ m ≤ 1048576 ∧ n ≤ 30 ∧ ∃ p q cap, e = .returned (.tuple #[.pointer (some ⟨p, 0, none⟩), .int .i64 0]) ∧ RVec w' p q cap n (List.replicate m false) ∧ w.heap.size ≤ q ∧ q < p ∧ p < w'.heap.size ∧ Below w.heap.size w w')
def boL (b : Bool) : List Value := [.bool b]
set_option maxHeartbeats 1000000 in
set_option maxRecDepth 100000 in
theorem rnew_any (w : World) (bits probes : Int) : Calls Tryz.prog 30 #[.int .i64 bits, .int .i64 probes] w (RetRNew w bits probes) := by
  by_cases h1 : bits < 0
  · go_enter Tryz.func30, Tryz.ntmps30
    go_wp2
    go_ret2
    exact .inl ⟨by omega, rfl, rfl⟩
  by_cases h2 : 1048576 < bits
  · go_enter Tryz.func30, Tryz.ntmps30
    go_wp2
    go_ret2
    exact .inl ⟨by omega, rfl, rfl⟩
  by_cases h3 : probes < 0
  · go_enter Tryz.func30, Tryz.ntmps30
    go_wp2
    go_ret2
    exact .inl ⟨by omega, rfl, rfl⟩
  by_cases h4 : 30 < probes
  · go_enter Tryz.func30, Tryz.ntmps30
    go_wp2
    go_ret2
    exact .inl ⟨by omega, rfl, rfl⟩
  obtain ⟨m, rfl⟩ : ∃ m : Nat, bits = m := ⟨bits.toNat, by omega⟩
  obtain ⟨n, rfl⟩ : ∃ n : Nat, probes = n := ⟨probes.toNat, by omega⟩
  have g1 : m ≤ 1048576 := by omega
  have g2 : n ≤ 30 := by omega
  clear h1 h2 h3 h4
  obtain ⟨C, hC, hmk⟩ := make_any (P := Tryz.prog) (enc := boL) (k := 1) (fun _ => rfl) false 90 4 1 Tryz.underlying90 (by kernel_rfl) m (by omega) (by omega)
  have hC2 : C.toList = (List.replicate m false).map .bool := by rw [hC]; exact flat_one .bool _
  have HC := Lib.hid hC2
  clear hC hC2
  go_enter Tryz.func30, Tryz.ntmps30
  go_wp2
  go_ret2
  refine .inr ⟨m, n, rfl, rfl, g1, g2, w.heap.size + 1, w.heap.size, m, rfl, ?_, Nat.le_refl _, Nat.lt_succ_self _, by simp, ((Below.refl _ _).alloc (Nat.le_refl _) _).alloc (by simp) _⟩
  have h1 := (Blk.new w C 4).below (((Below.refl _ _).alloc (Nat.le_refl _) (.cells #[.slice (some ⟨w.heap.size, 0, none⟩) m m, .int .i64 n] 92)))
  rw [HC.out] at h1
  have h2 := Blk.new (w.alloc (.cells C 4)) #[.slice (some ⟨w.heap.size, 0, none⟩) m m, .int .i64 n] 92
  rw [show (w.alloc (.cells C 4)).heap.size = w.heap.size + 1 by simp] at h2
  exact { blk := by rw [List.length_replicate]; exact h2, row := h1, ne := by omega, cap := by rw [List.length_replicate]; omega, bits := by rw [List.length_replicate]; exact g1, probes := g2 }
end Go.Proofs.YtnfbchhbcinloaaGreat

/- Laws of pairs and of rows that the statements on an index share. -/
namespace Go.Proofs.YtnfbchhbcinloaaGreat
open Go.RowKit Go.XR Go.IndexPure
/-- a step at one of two indexes that stand apart -/
theorem two_step {B : Nat} {w w' : World} {px py : Nat} {Dy Dx' : List RowT} {Fx Fx' Fy : List Nat} (_ : Ix w' Fx' px Dx') (hb : But Fx w w') (hg : Grew w Fx Fx') (hy : Ix w Fy py Dy) (hd : ∀ b ∈ Fx, b ∉ Fy) (hBx : ∀ b ∈ Fx, B ≤ b) (hB : B ≤ w.heap.size) :
    Ix w' Fy py Dy ∧ (∀ b ∈ Fx', b ∉ Fy) ∧ (∀ b ∈ Fx', B ≤ b) ∧ Below B w w' := by
  refine ⟨hy.but hb fun b h1 h2 => hd b h2 h1, fun b h1 h2 => ?_, fun b h1 => ?_, hb.below hB hBx⟩
  · rcases hg b h1 with h3 | h3
    · exact hd b h3 h2
    · have := hy.fin b h2; omega
  · rcases hg b h1 with h3 | h3
    · exact hBx b h3
    · omega
theorem keepRow {w w' : World} {S : List Nat} {a : Option Addr} {L : List RowT} (h : Row w a (L.flatMap rowL)) (hb : But S w w') (hn : ∀ x, a = some x → L ≠ [] → x.block ∉ S) : Row w' a (L.flatMap rowL) := by
  by_cases hL : L = []
  · subst hL; exact .inl rfl
  · exact h.but hb fun g o ha => hn _ ha hL
theorem place_sh {v : PlaceT} (h : PlaceOk v) : -9223372036854775808 ≤ v.shelf ∧ v.shelf ≤ 9223372036854775807 := h.1
/-- the same pairs -/
def SameD (D E : List RowT) : Prop := ∀ k, aget E k = aget D k
theorem SameD.mem {D E : List RowT} (h : SameD D E) (hD : (D.map (·.1)).Nodup) (hE : (E.map (·.1)).Nodup) (r : RowT) : r ∈ E ↔ r ∈ D := by
  rw [show r = (r.1, r.2) from rfl, ← aget_mem hD, ← aget_mem hE, h r.1]
theorem AllOf.same {D E L M : List RowT} (hL : AllOf D L) (hM : AllOf E M) (h : SameD D E) (hD : (D.map (·.1)).Nodup) (hE : (E.map (·.1)).Nodup) : M = L :=
  eq_of_strict (r := fun x y => cfA x y < 0) (fun x y h1 h2 => by have := cfK_swap x.1 y.1; unfold cfA at *; omega) M L hM.2 hL.2 fun r => by
    rw [hM.1.mem_iff, hL.1.mem_iff, h.mem hD hE]
theorem ShelfOf.same {D E L M : List RowT} {s : Int} (hL : ShelfOf D s L) (hM : ShelfOf E s M) (h : SameD D E) (hD : (D.map (·.1)).Nodup) (hE : (E.map (·.1)).Nodup) : L = M :=
  eq_of_strict (r := fun x y => cfS x y < 0) (fun x y h1 h2 => by have := cfS_swap x y; omega) L M hL.2 hM.2 fun r => by
    rw [hM.1.mem_iff, hL.1.mem_iff, List.mem_filter, List.mem_filter, h.mem hD hE]
theorem SameD.len {D E : List RowT} (h : SameD D E) (hD : (D.map (·.1)).Nodup) (hE : (E.map (·.1)).Nodup) : E.length = D.length := by
  have hn1 : D.Nodup := List.Pairwise.of_map (·.1) (fun a b h e => h (by rw [e])) hD
  have hn2 : E.Nodup := List.Pairwise.of_map (·.1) (fun a b h e => h (by rw [e])) hE
  exact Nat.le_antisymm (hn2.length_le_of_subset fun r hr => (h.mem hD hE r).1 hr) (hn1.length_le_of_subset fun r hr => (h.mem hD hE r).2 hr)
/-- pairs whose keys are of a list are not more than these -/
theorem len_keys {D : List RowT} {K : List KeyT} (hD : (D.map (·.1)).Nodup) (h : ∀ k, (aget D k).isSome = true → k ∈ K) : D.length ≤ K.length := by
  have := hD.length_le_of_subset (l₂ := K) fun k hk => by
    obtain ⟨⟨k', v⟩, h1, rfl⟩ := List.mem_map.1 hk
    exact h k' (by rw [(aget_mem hD).2 h1]; rfl)
  simpa using this
theorem put_isSome (D : List RowT) (k c : KeyT) (v : PlaceT) : (aget (aput (adel D k) k v) c).isSome = true ↔ c = k ∨ (aget D c).isSome = true := by
  rw [aget_put]
  by_cases h : c = k
  · rw [if_pos h]; simp [h]
  · rw [if_neg h, aget_del, if_neg h]; simp [h]
theorem put_get (D : List RowT) (k c : KeyT) (v : PlaceT) : aget (aput (adel D k) k v) c = if c = k then some v else aget D c := by
  rw [aget_put]
  by_cases h : c = k
  · rw [if_pos h, if_pos h]
  · rw [if_neg h, if_neg h, aget_del, if_neg h]
end Go.Proofs.YtnfbchhbcinloaaGreat

/- The reference's index: how it lies; the walk over at. -/
namespace Go.IndexPure
open Go.XR
/-- where a key stands in rows in order, or would -/
def LowK (R : List RowT) (k : KeyT) (i : Nat) : Prop := i ≤ R.length ∧ (∀ q (h : q < R.length), q < i → cfK R[q].1 k < 0) ∧ (∀ q (h : q < R.length), i ≤ q → ¬ cfK R[q].1 k < 0)
def SrtA (R : List RowT) : Prop := R.Pairwise (fun x y => cfA x y < 0)
theorem cfK_self (k : KeyT) : cfK k k = 0 := (cfK_zero k k).2 rfl
theorem low_mem {R : List RowT} (hs : SrtA R) {k : KeyT} {i : Nat} (h : LowK R k i) : k ∈ R.map (·.1) ↔ ∃ hi : i < R.length, R[i].1 = k := by
  constructor
  · intro hm
    obtain ⟨r, hr, he⟩ := List.mem_map.1 hm
    obtain ⟨q, hq, rfl⟩ := List.getElem_of_mem hr
    have he' : R[q].1 = k := he
    by_cases c : q < i
    · have := h.2.1 q hq c; rw [he', cfK_self] at this; omega
    · have hi : i < R.length := by omega
      refine ⟨hi, ?_⟩
      by_cases d : i = q
      · subst d; exact he'
      · have h1 := List.pairwise_iff_getElem.1 hs i q hi hq (by omega)
        have h2 := h.2.2 i hi (Nat.le_refl _)
        unfold cfA at h1
        rw [he'] at h1
        exact absurd h1 h2
  · rintro ⟨hi, he⟩
    exact List.mem_map.2 ⟨R[i], List.getElem_mem hi, he⟩
end Go.IndexPure
namespace Go.Proofs.YtnfbchhbcinloaaGreat
open Go.RowKit Go.XR Go.IndexPure
/-- the reference's index: one cell, the slice of its rows; apart from the blocks F -/
def RefIx (w : World) (b : Nat) (R : List RowT) (F : List Nat) : Prop :=
  ∃ a c, Blk w b [.slice a R.length c] ∧ Row w a (R.flatMap rowL) ∧ R.length ≤ c ∧ c ≤ maxLen ∧ b ∉ F ∧ (a = none → c = 0) ∧ (∀ x, a = some x → x.block ≠ b ∧ x.block ∉ F ∧ x.block < w.heap.size ∧ x = ⟨x.block, 0, none⟩)
theorem RefIx.but {w w' : World} {b : Nat} {R : List RowT} {F S : List Nat} (h : RefIx w b R F) (hb : But S w w') (hS : ∀ i ∈ S, i ∈ F ∨ w.heap.size ≤ i) : RefIx w' b R F := by
  obtain ⟨a, c, h1, h2, h3, h4, h5, h7', h6⟩ := h
  have hn : ∀ i, i < w.heap.size → i ∉ F → i ∉ S := fun i h7 h8 h9 => by
    rcases hS i h9 with h | h
    · exact h8 h
    · omega
  refine ⟨a, c, h1.but hb (hn b h1.lt h5), h2.but hb fun g o ha => ?_, h3, h4, h5, h7', fun x hx => ⟨(h6 x hx).1, (h6 x hx).2.1, Nat.lt_of_lt_of_le (h6 x hx).2.2.1 hb.size, (h6 x hx).2.2.2⟩⟩
  have := h6 _ ha
  exact hn g this.2.2.1 this.2.1
theorem RefIx.below {w w' : World} {b : Nat} {R : List RowT} {F : List Nat} (h : RefIx w b R F) (hb : Below w.heap.size w w') : RefIx w' b R F := h.but (S := []) (But.of_below hb) (fun i hi => by cases hi)
theorem RefIx.grew {w : World} {b : Nat} {R : List RowT} {F F' : List Nat} (h : RefIx w b R F) (hg : Grew w F F') : RefIx w b R F' := by
  obtain ⟨a, c, h1, h2, h3, h4, h5, h7', h6⟩ := h
  have hn : ∀ i, i < w.heap.size → i ∉ F → i ∉ F' := fun i h7 h8 h9 => by
    rcases hg i h9 with h | h
    · exact h8 h
    · omega
  exact ⟨a, c, h1, h2, h3, h4, hn b h1.lt h5, h7', fun x hx => ⟨(h6 x hx).1, hn _ (h6 x hx).2.2.1 (h6 x hx).2.1, (h6 x hx).2.2⟩⟩
def RetAt (w : World) (R : List RowT) (k : KeyT) (e : Ending) (w' : World) : Prop :=
  ∃ i : Nat, LowK R k i ∧ e = .returned (.tuple #[.int .i64 i, .bool (decide (k ∈ R.map (·.1)))]) ∧ Below w.heap.size w w'
set_option maxHeartbeats 2000000 in
set_option maxRecDepth 100000 in
theorem refat_any (w : World) (b : Nat) (a : Option Addr) (c : Nat) (R : List RowT) (hB : Blk w b [.slice a R.length c]) (hRow : Row w a (R.flatMap rowL)) (hs : SrtA R) (hlen : R.length ≤ 2^40) (k : KeyT) :
    Calls Tryz.prog 63 #[.pointer (some ⟨b, 0, none⟩), keyV k] w (RetAt w R k) := by
  obtain ⟨W0, hW0⟩ : ∃ W0, w.alloc (.cells (keyC k) 29) = W0 := ⟨_, rfl⟩
  have hb0 : Below w.heap.size w W0 := by rw [← hW0]; exact (Below.refl _ _).alloc (Nat.le_refl _) _
  have HB := Lib.hid (hB.below hb0)
  have HR := Lib.hid (hRow.below hb0)
  have HS := Lib.hid hs
  have HK : Hid (At W0 w.heap.size 0 (keyC k)) := by unfold Hid; rw [← hW0]; exact At.new _ _ _
  have Hb0 := Lib.hid hb0
  clear hB hRow hs hb0
  obtain ⟨kb, hkb⟩ : ∃ kb, w.heap.size = kb := ⟨_, rfl⟩
  rw [hkb] at HK
  go_enter Tryz.func63, Tryz.ntmps63
  go_wp2
  clear hW0 hkb
  go_loopg [6] R.length (fun m x wr => Below W0.heap.size W0 wr ∧ ∃ i : Nat, x = .int .i64 i ∧ Hid (m = R.length - i ∧ i ≤ R.length ∧ ∀ q (h : q < R.length), q < i → cfK R[q].1 k < 0))
  case atStart => exact ⟨Below.refl _ _, 0, rfl, rfl, Nat.zero_le _, fun q h h2 => by omega⟩
  case round =>
    obtain ⟨hb, i, rfl, hr⟩ := hrel
    have hgn := hr.out.1
    have hi := hr.out.2.1
    have Hlo := Lib.hid hr.out.2.2
    have Hb := Lib.hid hb
    have c0 := (HB.out.below hb).cell (i := 0) rfl
    have hbl : b < wr.heap.size := (HB.out.below hb).lt
    have hS0 : Below wr.heap.size wr wr.drew := (Below.refl _ _).drew
    have HKr := Lib.hid (HK.out.below (by rw [keyC_size]; omega) hb)
    clear hr hb
    by_cases hlt : i < R.length
    · have hlt2 : (i : Int) < (R.length : Int) := by omega
      obtain ⟨g, o, rfl, hX⟩ := row_at rowL_length (HR.out.below Hb.out) hlt (by omega)
      have HX : Hid (At wr g (o + i * 35) (rowC R[i])) := hX
      have HLo1 : Hid (cfK R[i].1 k < 0 → ∀ q (h : q < R.length), q < i + 1 → cfK R[q].1 k < 0) := fun h1 q h h2 => by
        by_cases e : q = i
        · subst e; exact h1
        · exact Hlo.out q h (by omega)
      have HLow : Hid (¬ cfK R[i].1 k < 0 → LowK R k i) := fun h1 => by
        refine ⟨hi, Hlo.out, fun q h h2 h3 => ?_⟩
        by_cases e : q = i
        · subst e; exact h1 h3
        · have h4 := List.pairwise_iff_getElem.1 HS.out i q hlt h (by omega)
          exact h1 (cfK_trans _ _ _ h4 h3)
      have HIs : Hid (LowK R k i → decide (k ∈ R.map (·.1)) = decide (R[i].1 = k)) := fun h1 => by
        refine decide_eq_decide.2 ((low_mem HS.out h1).trans ⟨fun ⟨_, h⟩ => h, fun h => ⟨hlt, h⟩⟩)
      clear hX Hlo
      generalize R[i] = r at *
      go_wp2
      refine Go.XR.region_sched ((Below wr.heap.size wr)) [(0, true), (1, true), (2, true), (3, true), (4, true), (5, true), (6, true), (7, true), (8, true), (9, true), (10, true), (11, true), (12, true), (13, true), (14, true), (15, true), (16, true), (17, false), (18, false)] [17, 18] Tryz.mixed (by kernel_rfl) (by kernel_rfl) (by kernel_rfl) ?_
      simp only [List.map_cons, List.map_nil, List.getElem?_cons_succ, List.getElem?_cons_zero]
      repeat (first | (refine Go.XR.S_light rfl rfl (by assumption) ?_ (fun w' hS K hK => ?_) (fun K hK => ?_); rotate_left 1; (have hS1 := bcell hS; (first | (first | (refine Go.XR.wp_load_at 29 (.tmp 21) rfl g (o + i * 35) rfl (keyC r.1) ((row_at_key HX.out).below (by rw [keyC_size]; omega) hS) _ Tryz.underlying29 rfl (keySize r.1) ?_) | (refine Go.XR.wp_load_at 29 (.tmp 3) rfl kb 0 rfl (keyC k) (HKr.out.below (by rw [keyC_size]; omega) hS) _ Tryz.underlying29 rfl (keySize k) ?_)) | go_step); exact hK); go_step; refine hK _ ?_; clear hK K) | (refine Go.XR.S_light_off rfl (by assumption) (fun K hK => ?_); go_step; refine hK _ ?_; clear hK K) | (refine Go.XR.S_light_on rfl rfl rfl (by assumption) ?_ (fun w' hS K hK => ?_) (fun K hK => ?_); rotate_left 1; (have hS1 := bcell hS; (first | (first | (refine Go.XR.wp_load_at 29 (.tmp 21) rfl g (o + i * 35) rfl (keyC r.1) ((row_at_key HX.out).below (by rw [keyC_size]; omega) hS) _ Tryz.underlying29 rfl (keySize r.1) ?_) | (refine Go.XR.wp_load_at 29 (.tmp 3) rfl kb 0 rfl (keyC k) (HKr.out.below (by rw [keyC_size]; omega) hS) _ Tryz.underlying29 rfl (keySize k) ?_)) | go_step); exact hK); go_step; refine hK _ ?_; clear hK K))
      refine Go.XR.S_heavy_on rfl (fun K hK => ?_)
      go_step
      ((with_reducible refine (less_any wr.drew r.1 k).mono ?_); rintro e w3 ⟨rfl, hb3⟩)
      have Hb3 := Lib.hid (hS0.trans hb3)
      refine hK _ _ ⟨fun h => by simp at h, ?_⟩
      clear hK K hb3
      by_cases hc : cfK r.1 k < 0
      · rw [decide_eq_true hc]
        have Hc := Lib.hid hc
        clear hc
        repeat (first | (refine Go.XR.S_heavy (fun K hK => ?_); go_step; refine hK _ _ ⟨fun h => by simp at h, ?_⟩; clear hK K) | (refine Go.XR.S_heavy_off rfl (fun h => by simp at h) (fun K hK => ?_); go_step; refine hK _ ?_; clear hK K) | (refine Go.XR.S_heavy_on rfl (fun K hK => ?_); go_step; refine hK _ _ ⟨fun h => by simp at h, ?_⟩; clear hK K))
        refine Go.XR.S_nil ?_
        go_wp2
        go_roundg (R.length - (i + 1))
        case measure => omega
        case rel => exact ⟨Hb.out.trans (Hb3.out.mono Hb.out.size), i + 1, by go_num, rfl, by omega, HLo1.out Hc.out⟩
      · rw [decide_eq_false hc]
        have Hlow := Lib.hid (HLow.out (by omega))
        have His := Lib.hid (HIs.out Hlow.out)
        clear hc hS0 c0 hbl
        repeat (first | (refine Go.XR.S_heavy (fun K hK => ?_); go_step; refine hK _ _ ⟨fun h => by simp at h, ?_⟩; clear hK K) | (refine Go.XR.S_heavy_off rfl (fun h => by simp at h) (fun K hK => ?_); go_step; refine hK _ ?_; clear hK K) | (refine Go.XR.S_heavy_on rfl (fun K hK => ?_); go_step; refine hK _ _ ⟨fun h => by simp at h, ?_⟩; clear hK K))
        refine Go.XR.S_nil ?_
        have c0 := ((HB.out.below Hb.out).below Hb3.out).cell (i := 0) rfl
        have HX3 := Lib.hid (HX.out.below (by rw [rowC_size]; omega) Hb3.out)
        have HK3 := Lib.hid (HKr.out.below (by rw [keyC_size]; omega) Hb3.out)
        have Heq := Lib.hid (key_eq r.1 k w3.drew)
        go_wp2
        refine Go.XR.region_sched ((· = w3.drew)) [(0, true), (1, true), (2, true), (3, true), (4, true), (5, true), (6, true), (7, true), (8, true), (9, true), (10, true), (11, true), (12, true), (13, true), (14, true), (15, true), (16, true), (17, true), (18, true), (19, true), (20, true), (21, false)] [21] Tryz.mixed (by kernel_rfl) (by kernel_rfl) (by kernel_rfl) ?_
        simp only [List.map_cons, List.map_nil, List.getElem?_cons_succ, List.getElem?_cons_zero]
        repeat (first | (refine Go.XR.S_light rfl rfl rfl ?_ (fun w' hS K hK => ?_) (fun K hK => ?_); rotate_left 1; (cases hS; (first | (first | (refine Go.XR.wp_load_at 29 (.tmp 43) rfl g (o + i * 35) rfl (keyC r.1) (At.drew (row_at_key HX3.out)) _ Tryz.underlying29 rfl (keySize r.1) ?_) | (refine Go.XR.wp_load_at 29 (.tmp 3) rfl kb 0 rfl (keyC k) (At.drew HK3.out) _ Tryz.underlying29 rfl (keySize k) ?_) | (refine Go.XR.wp_agg_eql 29 (.tmp 44) (.tmp 45) _ rfl (keyC r.1) (keyC k) rfl rfl keyGuard _ Heq.out ?_)) | go_step); exact hK); go_step; refine hK _ ?_; clear hK K) | (refine Go.XR.S_light_off rfl rfl (fun K hK => ?_); go_step; refine hK _ ?_; clear hK K) | (refine Go.XR.S_light_on rfl rfl rfl rfl ?_ (fun w' hS K hK => ?_) (fun K hK => ?_); rotate_left 1; (cases hS; (first | (first | (refine Go.XR.wp_load_at 29 (.tmp 43) rfl g (o + i * 35) rfl (keyC r.1) (At.drew (row_at_key HX3.out)) _ Tryz.underlying29 rfl (keySize r.1) ?_) | (refine Go.XR.wp_load_at 29 (.tmp 3) rfl kb 0 rfl (keyC k) (At.drew HK3.out) _ Tryz.underlying29 rfl (keySize k) ?_) | (refine Go.XR.wp_agg_eql 29 (.tmp 44) (.tmp 45) _ rfl (keyC r.1) (keyC k) rfl rfl keyGuard _ Heq.out ?_)) | go_step); exact hK); go_step; refine hK _ ?_; clear hK K))
        repeat (first | (refine Go.XR.S_heavy (fun K hK => ?_); go_step; refine hK _ _ ⟨fun h => by simp at h, ?_⟩; clear hK K) | (refine Go.XR.S_heavy_off rfl (fun h => by simp at h) (fun K hK => ?_); go_step; refine hK _ ?_; clear hK K) | (refine Go.XR.S_heavy_on rfl (fun K hK => ?_); go_step; refine hK _ _ ⟨fun h => by simp at h, ?_⟩; clear hK K))
        refine Go.XR.S_nil ?_
        have HbE := Lib.hid (Hb0.out.trans ((Hb.out.trans (Hb3.out.mono Hb.out.size)).mono Hb0.out.size))
        rw [← His.out]
        go_wp2
        go_ret2
        exact ⟨i, Hlow.out, rfl, HbE.out.drew⟩
    · have hge : ¬ (i : Int) < (R.length : Int) := by omega
      have Hlow : Hid (LowK R k i) := ⟨hi, Hlo.out, fun q h h2 => by omega⟩
      have His : Hid (decide (k ∈ R.map (·.1)) = false) := decide_eq_false fun h => by
        obtain ⟨h1, _⟩ := (low_mem HS.out Hlow.out).1 h
        omega
      clear hS0
      have HbE := Lib.hid (Hb0.out.trans (Hb.out.mono Hb0.out.size))
      go_wp2
      refine Go.XR.region_sched ((· = wr.drew)) [(0, true), (1, true), (2, true), (3, true), (4, true), (5, true), (6, true), (7, true), (8, true), (9, true), (10, true), (11, true), (12, true), (13, true), (14, true), (15, true), (16, true), (17, false), (18, false)] [17, 18] Tryz.mixed (by kernel_rfl) (by kernel_rfl) (by kernel_rfl) ?_
      simp only [List.map_cons, List.map_nil, List.getElem?_cons_succ, List.getElem?_cons_zero]
      repeat (first | (refine Go.XR.S_light rfl rfl rfl ?_ (fun w' hS K hK => ?_) (fun K hK => ?_); rotate_left 1; (cases hS; go_step; exact hK); go_step; refine hK _ ?_; clear hK K) | (refine Go.XR.S_light_off rfl rfl (fun K hK => ?_); go_step; refine hK _ ?_; clear hK K) | (refine Go.XR.S_light_on rfl rfl rfl rfl ?_ (fun w' hS K hK => ?_) (fun K hK => ?_); rotate_left 1; (cases hS; go_step; exact hK); go_step; refine hK _ ?_; clear hK K))
      repeat (first | (refine Go.XR.S_heavy (fun K hK => ?_); go_step; refine hK _ _ ⟨fun h => by simp at h, ?_⟩; clear hK K) | (refine Go.XR.S_heavy_off rfl (fun h => by simp at h) (fun K hK => ?_); go_step; refine hK _ ?_; clear hK K) | (refine Go.XR.S_heavy_on rfl (fun K hK => ?_); go_step; refine hK _ _ ⟨fun h => by simp at h, ?_⟩; clear hK K))
      refine Go.XR.S_nil ?_
      go_wp2
      refine Go.XR.region_sched ((· = wr.drew.drew)) [(0, true), (1, true), (2, true), (3, true), (4, true), (5, true), (6, true), (7, true), (8, true), (9, true), (10, true), (11, true), (12, true), (13, true), (14, true), (15, true), (16, true), (17, true), (18, true), (19, true), (20, true), (21, false)] [21] Tryz.mixed (by kernel_rfl) (by kernel_rfl) (by kernel_rfl) ?_
      simp only [List.map_cons, List.map_nil, List.getElem?_cons_succ, List.getElem?_cons_zero]
      repeat (first | (refine Go.XR.S_light rfl rfl rfl ?_ (fun w' hS K hK => ?_) (fun K hK => ?_); rotate_left 1; (cases hS; go_step; exact hK); go_step; refine hK _ ?_; clear hK K) | (refine Go.XR.S_light_off rfl rfl (fun K hK => ?_); go_step; refine hK _ ?_; clear hK K) | (refine Go.XR.S_light_on rfl rfl rfl rfl ?_ (fun w' hS K hK => ?_) (fun K hK => ?_); rotate_left 1; (cases hS; go_step; exact hK); go_step; refine hK _ ?_; clear hK K))
      repeat (first | (refine Go.XR.S_heavy (fun K hK => ?_); go_step; refine hK _ _ ⟨fun h => by simp at h, ?_⟩; clear hK K) | (refine Go.XR.S_heavy_off rfl (fun h => by simp at h) (fun K hK => ?_); go_step; refine hK _ ?_; clear hK K) | (refine Go.XR.S_heavy_on rfl (fun K hK => ?_); go_step; refine hK _ _ ⟨fun h => by simp at h, ?_⟩; clear hK K))
      refine Go.XR.S_nil ?_
      go_wp2
      go_ret2
      exact ⟨i, Hlow.out, by rw [His.out]; rfl, HbE.out.drew.drew⟩
end Go.Proofs.YtnfbchhbcinloaaGreat

/- Rows in order: what a put and a drop make of them, plain. -/
namespace Go.Proofs.YtnfbchhbcinloaaGreat
open Go.RowKit Go.XR Go.IndexPure
/-- where the rest begins behind a key -/
def behind (R : List RowT) (k : KeyT) (i : Nat) : Nat := if k ∈ R.map (·.1) then i + 1 else i
theorem take_get {α : Type} {l : List α} {i : Nat} {x : α} : x ∈ l.take i ↔ ∃ q, ∃ h : q < l.length, q < i ∧ l[q] = x := by
  rw [List.mem_iff_getElem]
  constructor
  · rintro ⟨q, hq, rfl⟩
    rw [List.length_take] at hq
    exact ⟨q, by omega, by omega, by rw [List.getElem_take]⟩
  · rintro ⟨q, h, h2, rfl⟩
    exact ⟨q, by rw [List.length_take]; omega, by rw [List.getElem_take]⟩
theorem drop_get {α : Type} {l : List α} {i : Nat} {x : α} : x ∈ l.drop i ↔ ∃ q, ∃ h : q < l.length, i ≤ q ∧ l[q] = x := by
  rw [List.mem_iff_getElem]
  constructor
  · rintro ⟨q, hq, rfl⟩
    rw [List.length_drop] at hq
    exact ⟨i + q, by omega, by omega, by rw [List.getElem_drop]⟩
  · rintro ⟨q, h, h2, rfl⟩
    refine ⟨q - i, by rw [List.length_drop]; omega, ?_⟩
    rw [List.getElem_drop]
    congr 1; omega
theorem cut_ne {R : List RowT} (hs : SrtA R) {k : KeyT} {i : Nat} (hL : LowK R k i) {q : Nat} (hq : q < R.length) (hb : behind R k i ≤ q) : cfK k R[q].1 < 0 := by
  unfold behind at hb
  by_cases hk : k ∈ R.map (·.1)
  · rw [if_pos hk] at hb
    obtain ⟨hi, he⟩ := (low_mem hs hL).1 hk
    have := List.pairwise_iff_getElem.1 hs i q hi hq (by omega)
    unfold cfA at this
    rwa [he] at this
  · rw [if_neg hk] at hb
    have h1 := hL.2.2 q hq hb
    have h2 : cfK R[q].1 k ≠ 0 := fun e => hk (by rw [← (cfK_zero _ _).1 e]; exact List.mem_map.2 ⟨R[q], List.getElem_mem hq, rfl⟩)
    have := cfK_swap R[q].1 k
    omega
theorem mem_cut {R : List RowT} (hs : SrtA R) {k : KeyT} {i : Nat} (hL : LowK R k i) (x : RowT) : (x ∈ R.take i ∨ x ∈ R.drop (behind R k i)) ↔ x ∈ R ∧ x.1 ≠ k := by
  constructor
  · rintro (h | h)
    · obtain ⟨q, hq, h2, rfl⟩ := take_get.1 h
      refine ⟨List.getElem_mem hq, fun e => ?_⟩
      have := hL.2.1 q hq h2
      rw [e, cfK_self] at this; omega
    · obtain ⟨q, hq, h2, rfl⟩ := drop_get.1 h
      refine ⟨List.getElem_mem hq, fun e => ?_⟩
      have := cut_ne hs hL hq h2
      rw [e, cfK_self] at this; omega
  · rintro ⟨h, hne⟩
    obtain ⟨q, hq, rfl⟩ := List.getElem_of_mem h
    by_cases c : q < i
    · exact .inl (take_get.2 ⟨q, hq, c, rfl⟩)
    · right
      refine drop_get.2 ⟨q, hq, ?_, rfl⟩
      unfold behind
      split
      · rename_i hk
        obtain ⟨hi, he⟩ := (low_mem hs hL).1 hk
        by_cases d : q = i
        · subst d; exact absurd he hne
        · omega
      · omega
theorem cut_sorted {R : List RowT} (hs : SrtA R) {k : KeyT} {i : Nat} (hL : LowK R k i) : SrtA (R.take i ++ R.drop (behind R k i)) := by
  refine hs.sublist ?_
  have h1 : (R.drop (behind R k i)).Sublist (R.drop i) := by
    unfold behind
    split
    · rw [← List.drop_drop]; exact List.drop_sublist _ _
    · exact List.Sublist.refl _
  have h2 := (List.Sublist.refl (R.take i)).append h1
  rwa [List.take_append_drop] at h2
theorem put_sorted {R : List RowT} (hs : SrtA R) {k : KeyT} {i : Nat} (hL : LowK R k i) (v : PlaceT) : SrtA (R.take i ++ (k, v) :: R.drop (behind R k i)) := by
  have h := cut_sorted hs hL
  unfold SrtA at *
  rw [List.pairwise_append] at h ⊢
  refine ⟨h.1, List.pairwise_cons.2 ⟨fun x hx => ?_, h.2.1⟩, fun x hx y hy => ?_⟩
  · obtain ⟨q, hq, h2, rfl⟩ := drop_get.1 hx
    exact cut_ne hs hL hq h2
  · obtain ⟨q, hq, h2, rfl⟩ := take_get.1 hx
    have h3 : cfA R[q] (k, v) < 0 := hL.2.1 q hq h2
    rcases List.mem_cons.1 hy with rfl | hy
    · exact h3
    · obtain ⟨p, hp, h4, rfl⟩ := drop_get.1 hy
      exact cfK_trans _ _ _ h3 (cut_ne hs hL hp h4)
theorem allof_of {D R : List RowT} (hs : SrtA R) (hD : (D.map (·.1)).Nodup) (h : ∀ x, x ∈ R ↔ x ∈ D) : AllOf D R := by
  have hR : R.Nodup := hs.imp fun {x y} h => cfA_irrefl x y h
  have hD2 : D.Nodup := List.Pairwise.of_map (·.1) (fun a b h e => h (by rw [e])) hD
  exact ⟨(List.perm_ext_iff_of_nodup hR hD2).2 h, hs⟩
theorem allof_put {D R : List RowT} (hA : AllOf D R) (hD : (D.map (·.1)).Nodup) {k : KeyT} {i : Nat} (hL : LowK R k i) (v : PlaceT) : AllOf (aput (adel D k) k v) (R.take i ++ (k, v) :: R.drop (behind R k i)) := by
  have hD' := aput_nodup (adel_nodup hD k) k v
  refine allof_of (put_sorted hA.2 hL v) hD' fun x => ?_
  have h1 : x ∈ R.take i ++ (k, v) :: R.drop (behind R k i) ↔ x = (k, v) ∨ (x ∈ R ∧ x.1 ≠ k) := by
    rw [← mem_cut hA.2 hL, List.mem_append, List.mem_cons]
    constructor
    · rintro (h | h | h)
      · exact .inr (.inl h)
      · exact .inl h
      · exact .inr (.inr h)
    · rintro (h | h | h)
      · exact .inr (.inl h)
      · exact .inl h
      · exact .inr (.inr h)
  rw [h1, show x = (x.1, x.2) from rfl, ← aget_mem hD', put_get]
  by_cases e : x.1 = k
  · rw [if_pos e]
    constructor
    · rintro (h | h)
      · injection h with _ h; rw [h]
      · exact absurd e h.2
    · intro h; injection h with h; left; rw [e, h]
  · rw [if_neg e, aget_mem hD]
    constructor
    · rintro (h | h)
      · injection h with h _; exact absurd h e
      · exact hA.1.mem_iff.1 h.1
    · intro h; exact .inr ⟨hA.1.mem_iff.2 h, e⟩
theorem allof_drop {D R : List RowT} (hA : AllOf D R) (hD : (D.map (·.1)).Nodup) {k : KeyT} {i : Nat} (hL : LowK R k i) : AllOf (adel D k) (R.take i ++ R.drop (behind R k i)) := by
  refine allof_of (cut_sorted hA.2 hL) (adel_nodup hD k) fun x => ?_
  rw [List.mem_append, mem_cut hA.2 hL, mem_adel, hA.1.mem_iff]
theorem allof_some {D R : List RowT} (hA : AllOf D R) (hD : (D.map (·.1)).Nodup) (k : KeyT) : k ∈ R.map (·.1) ↔ (aget D k).isSome = true := by
  constructor
  · intro h
    obtain ⟨r, hr, rfl⟩ := List.mem_map.1 h
    rw [(aget_mem hD).2 (show (r.1, r.2) ∈ D from hA.1.mem_iff.1 hr)]; rfl
  · intro h
    obtain ⟨v, hv⟩ := Option.isSome_iff_exists.1 h
    exact List.mem_map.2 ⟨(k, v), hA.1.mem_iff.2 ((aget_mem hD).1 hv), rfl⟩
theorem allof_get {D R : List RowT} (hA : AllOf D R) (hD : (D.map (·.1)).Nodup) {k : KeyT} {i : Nat} (hL : LowK R k i) (hk : k ∈ R.map (·.1)) : ∃ hi : i < R.length, R[i].1 = k ∧ aget D k = some R[i].2 := by
  obtain ⟨hi, he⟩ := (low_mem hA.2 hL).1 hk
  refine ⟨hi, he, ?_⟩
  have := (aget_mem hD).2 (show (R[i].1, R[i].2) ∈ D from hA.1.mem_iff.1 (List.getElem_mem hi))
  rwa [he] at this
end Go.Proofs.YtnfbchhbcinloaaGreat

/- The walks over the reference's Put and Drop. -/
namespace Go.Proofs.YtnfbchhbcinloaaGreat
open Go.RowKit Go.XR Go.IndexPure
theorem append_encN {α : Type} (enc : α → List Value) (k bytes : Nat) (hk : ∀ x, (enc x).length = k) (hone : ∀ x, ∀ v ∈ enc x, v.oneCell' = true)
    {P : Program} {w : World} {A : Act} {K : Act → World → Prop} {Q : Exit → Act → World → Prop} {dst : Option Tmp} {s x : Operand} {t ty : TypeId} {pos : String} {after : Array Edge} {guard : Option (Nat × Bool)}
    (e : TypeId) (ht : P.underlying t = some (.slice e)) (hinfo : (P.info? e).map (fun i => (i.size, i.bytes, i.zero.isSome, (i.zero.map (·.cells.size)))) = some (k, bytes, true, some k)) (hk0 : 0 < k)
    (base : Nat) (so : Option Addr) (sc : Nat) (l : List α) (hs : A.eval s = .slice so l.length sc) (hown : w.ownsRow base e k (.slice so l.length sc) l.length (l.flatMap enc))
    (xo : Option Addr) (n c : Nat) (m : List α) (hx : A.eval x = .slice xo n c) (hn : n = m.length) (hrow : Row w xo (m.flatMap enc)) (hnil : xo = none → m.length = 0 ∧ c = 0)
    (hlen : (l.length + m.length) * bytes ≤ 140737488355328) (hlen2 : l.length + m.length ≤ maxLen) (hbase : base ≤ w.heap.size)
    (h : ∀ a' c' w', w'.ownsRow base e k (.slice a' (l ++ m).length c') (l ++ m).length ((l ++ m).flatMap enc) → Below base w w' →
      Oper.wp P ⟨dst, .move (.const (.slice a' (l ++ m).length c')), ty, "", #[], none⟩ A w' K (fun _ _ _ => False)) :
    Oper.wp P ⟨dst, .call { callee := .builtin .append, args := #[s, x], argTypes := #[t, t] }, ty, pos, after, guard⟩ A w K Q := by
  subst hn
  exact append_enc enc k bytes hk hone e ht hinfo hk0 base so sc l hs hown xo c m hx hrow hnil hlen hlen2 hbase (fun a' c' w' h1 h2 _ _ => h a' c' w' h1 h2)
theorem own_shape {w : World} {B : Nat} {a : Option Addr} {n c : Nat} {xs : List Value} (h : w.ownsRow B 42 35 (.slice a n c) n xs) : n ≤ c ∧ c ≤ maxLen ∧ (a = none → c = 0) ∧ ∀ x, a = some x → B ≤ x.block ∧ x.block < w.heap.size ∧ x = ⟨x.block, 0, none⟩ := by
  rcases h.2 with ⟨h1, h2⟩ | ⟨g, cap, cur, h1, h2, h3, h4, h5, _⟩
  · injection h1 with e1 e2 e3
    exact ⟨by omega, by unfold maxLen; omega, fun _ => e3, (fun x hx => by rw [e1] at hx; cases hx)⟩
  · injection h1 with e1 e2 e3
    subst e3
    refine ⟨h4, h5, (fun e => by rw [e] at e1; cases e1), fun x hx => ?_⟩
    rw [hx] at e1
    injection e1 with e1
    subst e1
    exact ⟨h2, (Array.getElem?_eq_some_iff.1 h3).1, rfl⟩
def RetRPut (w : World) (b : Nat) (R : List RowT) (F : List Nat) (k : KeyT) (v : PlaceT) (e : Ending) (w' : World) : Prop :=
  ∃ i, LowK R k i ∧ e = .returned (.bool (decide (k ∈ R.map (·.1)))) ∧ RefIx w' b (R.take i ++ (k, v) :: R.drop (behind R k i)) F ∧ But [b] w w'
set_option maxHeartbeats 2000000 in
set_option maxRecDepth 100000 in
theorem refput_any (w : World) (b : Nat) (R : List RowT) (F : List Nat) (h : RefIx w b R F) (hF : ∀ i ∈ F, i < w.heap.size) (hs : SrtA R) (hlen : R.length ≤ 2^20) (k : KeyT) (v : PlaceT) :
    Calls Tryz.prog 36 #[.pointer (some ⟨b, 0, none⟩), keyV k, placeV v] w (RetRPut w b R F k v) := by
  obtain ⟨zr, hzr, hzr2⟩ := zero_row
  have Hzr := Lib.hid hzr2
  clear hzr2
  obtain ⟨a, c, hB, hR, hc, hcm, hbF, hnil, hx⟩ := h
  obtain ⟨W0, hW0⟩ : ∃ W0, (w.alloc (.cells (keyC k) 29)).alloc (.cells (placeC v) 40) = W0 := ⟨_, rfl⟩
  have hb0 : Below w.heap.size w W0 := by rw [← hW0]; exact ((Below.refl _ _).alloc (Nat.le_refl _) _).alloc (by simp) _
  have HK : Hid (At W0 w.heap.size 0 (keyC k)) := by unfold Hid; rw [← hW0]; exact (At.new _ _ _).alloc _
  have HP : Hid (Blk W0 (w.heap.size + 1) (placeL v)) := by
    unfold Hid; rw [← hW0]
    have h := Blk.new (w.alloc (.cells (keyC k) 29)) (placeC v) 40
    rwa [show (w.alloc (.cells (keyC k) 29)).heap.size = w.heap.size + 1 by simp] at h
  have HB := Lib.hid (hB.below hb0)
  have HR := Lib.hid (hR.below hb0)
  have Hb0 := Lib.hid hb0
  have hbl := hB.lt
  clear hB hR hb0
  obtain ⟨kb, hkb⟩ : ∃ kb, w.heap.size = kb := ⟨_, rfl⟩
  obtain ⟨vb, hvb⟩ : ∃ vb, kb + 1 = vb := ⟨_, rfl⟩
  have Hkb := Lib.hid hkb
  rw [hkb] at HK HP
  rw [hvb] at HP
  go_enter Tryz.func36, Tryz.ntmps36
  go_wp2_with (first | (refine wpList_load_at rfl 29 (.tmp 4) rfl kb 0 (by kernel_rfl) (keyC k) HK.out _ Tryz.underlying29 rfl (keySize k) ?_) | fail)
  refine (refat_any W0 b a c R HB.out HR.out hs (by omega) k).mono ?_
  rintro e w1 ⟨i, hL, rfl, hb1⟩
  have HK1 := Lib.hid (HK.out.below (by rw [keyC_size]; omega) hb1)
  have HP1 := Lib.hid (HP.out.below hb1)
  have HB1 := Lib.hid (HB.out.below hb1)
  have HR1 := Lib.hid (HR.out.below hb1)
  have Hb1 := Lib.hid (Hb0.out.trans (hb1.mono Hb0.out.size))
  have HL := Lib.hid hL
  have hi := hL.1
  have hic : (i : Int) ≤ (c : Int) := by omega
  have c0 := HB1.out.cell (i := 0) rfl
  have hvl : vb < w1.heap.size := HP1.out.lt
  clear hkb hvb hW0 hb1 hL HK HP HB HR
  have hbl1 : b < w1.heap.size := HB1.out.lt
  have hti : (R.take i).length = i := by rw [List.length_take]; omega
  have Hti := Lib.hid hti
  have HRt : Hid (Row w1 a ((R.take i).flatMap rowL)) := by
    have h1 := HR1.out.take (i * 35)
    rwa [flat_take rowL_length R hi] at h1
  clear hti
  go_wp2_with (at_builtin; refine Go.XR.stop (fun X hX => ?_))
  refine hX.out ?_
  clear hX X
  obtain ⟨T1, hT1⟩ : ∃ T1, R.take i = T1 := ⟨_, rfl⟩
  have HT1 := Lib.hid hT1
  rw [hT1] at HRt Hti
  clear hT1
  obtain ⟨nb, hnb⟩ : ∃ nb, w1.heap.size = nb := ⟨_, rfl⟩
  have Hnb := Lib.hid hnb
  obtain ⟨w2, hw2⟩ : ∃ w2, w1.alloc (.cells #[] 42) = w2 := ⟨_, rfl⟩
  have hb2 : Below nb w1 w2 := by rw [← hw2, ← hnb]; exact (Below.refl _ _).alloc (Nat.le_refl _) _
  have ho2 : w2.ownsRow nb 42 35 (.slice (some ⟨nb, 0, none⟩) ([] : List RowT).length 0) ([] : List RowT).length (([] : List RowT).flatMap rowL) := by
    rw [← hw2, ← hnb]
    exact ⟨rfl, .inr ⟨w1.heap.size, 0, #[], rfl, Nat.le_refl _, (MapKept.heap_alloc w1 _).1, Nat.le_refl _, by unfold maxLen; omega, rfl, rfl⟩⟩
  have hs2 : nb ≤ w2.heap.size := by rw [← hw2, ← hnb]; simp
  rw [hw2, hnb]
  have Ho2 := Lib.hid ho2
  have HR2 := Lib.hid (HRt.out.below (by rw [hnb]; exact hb2))
  have Hb2 := Lib.hid hb2
  clear hw2 ho2 hb2 HRt hnb c0
  refine wpList_plain rfl (fun K hK => ?_)
  refine append_enc (P := Tryz.prog) rowL 35 56 rowL_length one_rowL 42 Tryz.underlying60 (by kernel_rfl) (by decide) nb (some ⟨nb, 0, none⟩) 0 [] rfl Ho2.out a c T1 (by rw [Hti.out]; rfl) HR2.out (fun e => by
    have h1 := hnil e
    have := Hti.out
    omega) (by have := Hti.out; simp; omega) (by have := Hti.out; unfold maxLen; simp; omega) hs2 ?_
  intro a3 c3 w3 ho3 hb3 _ _
  rw [List.nil_append] at ho3 ⊢
  have Ho3 := Lib.hid ho3
  have Hb3 := Lib.hid (Hb2.out.trans hb3)
  have hs3 : nb ≤ w3.heap.size := Nat.le_trans hs2 hb3.size
  have HK3 := Lib.hid (HK1.out.below (by rw [keyC_size]; omega) (by rw [Hnb.out]; exact Hb3.out))
  have HP3 := Lib.hid ((HP1.out.below (by rw [Hnb.out]; exact Hb3.out)).toAt)
  clear ho3 hb3 Ho2 HR2 Hb2 HK1 HP1 hs2
  go_wp2_with (first | (refine wpList_load_at rfl 29 (.tmp 4) rfl kb 0 (by kernel_rfl) (keyC k) HK3.out _ Tryz.underlying29 rfl (keySize k) ?_) | (refine wpList_load_at rfl 40 (.tmp 5) rfl vb 0 (by kernel_rfl) (placeC v) HP3.out _ Tryz.underlying40 rfl (placeSize v) ?_) | (refine wpList_build_row rfl (.tmp 25) (.tmp 26) rfl k v rfl rfl ?_) | (refine wpList_build_one rfl 60 (.tmp 27) rfl 42 35 Tryz.underlying60 (by kernel_rfl) (by omega) (by omega) _ (Hzr.out _) (rowC (k, v)) rfl (rowC_size _) ?_) | (at_builtin; refine Go.XR.stop (fun X hX => ?_)))
  refine hX.out ?_
  clear hX X
  refine wpList_plain rfl (fun K hK => ?_)
  refine append_enc (P := Tryz.prog) rowL 35 56 rowL_length one_rowL 42 Tryz.underlying60 (by kernel_rfl) (by decide) nb a3 c3 T1 rfl (Ho3.out.alloc _) (some ⟨w3.heap.size, 0, none⟩) 1 [(k, v)] rfl (by rw [List.flatMap_cons, List.flatMap_nil, List.append_nil]; exact Row.new _ _ _) (fun e => by cases e) (by have := Hti.out; simp; omega) (by have := Hti.out; unfold maxLen; simp; omega) (by simp; omega) ?_
  intro a4 c4 w4 ho4 hb4 _ _
  have Ho4 := Lib.hid ho4
  have Hb4 := Lib.hid (Hb3.out.trans (((Below.refl nb w3).alloc hs3 _).trans hb4))
  have hs4 : nb ≤ w4.heap.size := Nat.le_trans hs3 (Nat.le_trans (by simp) hb4.size)
  clear ho4 hb4 Ho3 Hb3 HK3 HP3 hs3
  obtain ⟨T2, hT2⟩ : ∃ T2, T1 ++ [(k, v)] = T2 := ⟨_, rfl⟩
  have HT2 := Lib.hid hT2
  have Ht2 : Hid (T2.length ≤ R.length + 1) := by unfold Hid; rw [← hT2, List.length_append]; have := Hti.out; simp; omega
  rw [hT2] at Ho4 ⊢
  clear hT2
  have HB4 := Lib.hid (HB1.out.below (by rw [Hnb.out]; exact Hb4.out))
  have HR4 := Lib.hid (HR1.out.below (by rw [Hnb.out]; exact Hb4.out))
  have c0 := HB4.out.cell (i := 0) rfl
  have f0 := HB4.out.free 0
  have Hx := Lib.hid hx
  clear HB1 HR1 hx
  by_cases hk : k ∈ R.map (·.1)
  · have Hbh : Hid (behind R k i = i + 1) := if_pos hk
    have hil : i + 1 ≤ R.length := by
      obtain ⟨h1, _⟩ := (low_mem hs HL.out).1 hk
      omega
    have Hk : Hid (decide (k ∈ R.map (·.1)) = true) := decide_eq_true hk
    rw [Hk.out]
    clear hk hs
    obtain ⟨j, hj⟩ : ∃ j, i + 1 = j := ⟨_, rfl⟩
    have hjI : (i : Int) + 1 = (j : Int) := by omega
    rw [hj] at Hbh hil
    clear hj
    have hjc : (j : Int) ≤ (c : Int) := by omega
    have hjl : (j : Int) ≤ (R.length : Int) := by omega
    have hdl : (R.drop j).length = R.length - j := List.length_drop
    by_cases hcj : c = j
    · have hd0 : R.drop j = [] := List.drop_eq_nil_of_le (by omega)
      have Hdr : Hid (Row w4 a ((R.drop j).flatMap rowL)) := .inl (by rw [hd0]; rfl)
      have Hdl : Hid (R.length - j = (R.drop j).length ∧ c - j = 0) := ⟨hdl.symm, by omega⟩
      clear hd0 hdl
      go_wp2_with (at_builtin; refine Go.XR.stop (fun X hX => ?_))
      refine hX.out ?_
      clear hX X
      refine wpList_plain rfl (fun K hK => ?_)
      refine append_encN (P := Tryz.prog) rowL 35 56 rowL_length one_rowL 42 Tryz.underlying60 (by kernel_rfl) (by decide) nb a4 c4 T2 rfl Ho4.out _ _ _ (R.drop j) rfl Hdl.out.1 Hdr.out (fun _ => ⟨(by have := Hdl.out; omega), (by have := Hdl.out; omega)⟩) (by have := Ht2.out; rw [List.length_drop]; omega) (by have := Ht2.out; unfold maxLen; rw [List.length_drop]; omega) hs4 ?_
      intro a5 c5 w5 ho5 hb5
      obtain ⟨hs1, hs2, hs3, hs4'⟩ := own_shape ho5
      have hT : T2 ++ R.drop j = R.take i ++ (k, v) :: R.drop (behind R k i) := by rw [← HT2.out, ← HT1.out, Hbh.out, List.append_assoc]; rfl
      rw [hT] at ho5 hs1 ⊢
      have HRow5 := Lib.hid (Row.owned ho5)
      have HB5 := Lib.hid (HB4.out.heap (hb5.block b (by have := Hnb.out; omega)))
      have Hown := Lib.hid ho5
      have HbE := Lib.hid (Hb1.out.trans ((Hb4.out.trans hb5).mono (by rw [← Hnb.out]; exact Hb1.out.size)))
      have HX5 : Hid (∀ x, a5 = some x → x.block ≠ b ∧ x.block ∉ F ∧ x.block < w5.heap.size ∧ x = ⟨x.block, 0, none⟩) := fun x hx => by
        obtain ⟨h1, h2, h3⟩ := hs4' x hx
        refine ⟨?_, fun h => ?_, h2, h3⟩
        · have := Hnb.out; omega
        · have := hF _ h; have := Hnb.out; have := Hb1.out.size; omega
      have hbl5 : b < w5.heap.size := HB5.out.lt
      have f5 := HB5.out.free 0
      have c5' := HB5.out.cell (i := 0) rfl
      clear ho5 hb5 hT hs4' c0 f0
      obtain ⟨R', hR'⟩ : ∃ R', R.take i ++ (k, v) :: R.drop (behind R k i) = R' := ⟨_, rfl⟩
      have HR' := Lib.hid hR'
      rw [hR'] at HRow5 Hown hs1 ⊢
      clear hR'
      go_wp2
      go_ret
      refine ⟨i, HL.out, by rw [Hk.out]; rfl, ?_, ?_⟩
      · rw [HR'.out]
        have hb6 : But [b] w5 (w5.setCell ⟨b, 0, none⟩ (.slice a5 R'.length c5)) := (But.refl [b] w5).setCell (.inl (by simp)) _
        exact ⟨a5, c5, HB5.out.set 0 _, HRow5.out.but hb6 (fun g o e => by have := (HX5.out _ e).1; simpa using this), hs1, hs2, hbF, hs3, fun x hx => ⟨(HX5.out x hx).1, (HX5.out x hx).2.1, Nat.lt_of_lt_of_le (HX5.out x hx).2.2.1 hb6.size, (HX5.out x hx).2.2.2⟩⟩
      · exact (But.of_below HbE.out).trans ((But.refl [b] w5).setCell (.inl (by simp)) _)
    · obtain ⟨g, hag⟩ : ∃ g, a = some ⟨g, 0, none⟩ := by
        cases ha : a with
        | none => have := hnil ha; omega
        | some x => exact ⟨x.block, by rw [← (Hx.out x ha).2.2.2]⟩
      have Hdr : Hid (Row w4 (some ⟨g, j * 35, none⟩) ((R.drop j).flatMap rowL)) := by
        rcases HR4.out with h1 | ⟨g', o', he, h1⟩
        · have := flat_len rowL_length R
          rw [h1] at this
          have h2 : R = [] := List.eq_nil_of_length_eq_zero (by rw [List.length_nil] at this; omega)
          rw [h2]; exact .inl (by simp)
        · rw [hag] at he
          injection he with he
          injection he with e1 e2
          subst e1 e2
          refine .inr ⟨g, j * 35, rfl, fun q u hq => ?_⟩
          have h3 := flat_drop rowL_length R hil
          rw [← h3, List.getElem?_drop] at hq
          have := h1 _ u hq
          rwa [Nat.zero_add] at this
      have Hag := Lib.hid hag
      subst hag
      go_wp2_with (at_builtin; refine Go.XR.stop (fun X hX => ?_))
      refine hX.out ?_
      clear hX X
      refine wpList_plain rfl (fun K hK => ?_)
      refine append_encN (P := Tryz.prog) rowL 35 56 rowL_length one_rowL 42 Tryz.underlying60 (by kernel_rfl) (by decide) nb a4 c4 T2 rfl Ho4.out _ _ _ (R.drop j) rfl hdl.symm Hdr.out (fun e => by cases e) (by have := Ht2.out; rw [List.length_drop]; omega) (by have := Ht2.out; unfold maxLen; rw [List.length_drop]; omega) hs4 ?_
      intro a5 c5 w5 ho5 hb5
      obtain ⟨hs1, hs2, hs3, hs4'⟩ := own_shape ho5
      have hT : T2 ++ R.drop j = R.take i ++ (k, v) :: R.drop (behind R k i) := by rw [← HT2.out, ← HT1.out, Hbh.out, List.append_assoc]; rfl
      rw [hT] at ho5 hs1 ⊢
      have HRow5 := Lib.hid (Row.owned ho5)
      have HB5 := Lib.hid (HB4.out.heap (hb5.block b (by have := Hnb.out; omega)))
      have Hown := Lib.hid ho5
      have HbE := Lib.hid (Hb1.out.trans ((Hb4.out.trans hb5).mono (by rw [← Hnb.out]; exact Hb1.out.size)))
      have HX5 : Hid (∀ x, a5 = some x → x.block ≠ b ∧ x.block ∉ F ∧ x.block < w5.heap.size ∧ x = ⟨x.block, 0, none⟩) := fun x hx => by
        obtain ⟨h1, h2, h3⟩ := hs4' x hx
        refine ⟨?_, fun h => ?_, h2, h3⟩
        · have := Hnb.out; omega
        · have := hF _ h; have := Hnb.out; have := Hb1.out.size; omega
      have hbl5 : b < w5.heap.size := HB5.out.lt
      have f5 := HB5.out.free 0
      have c5' := HB5.out.cell (i := 0) rfl
      clear ho5 hb5 hT hs4' c0 f0
      obtain ⟨R', hR'⟩ : ∃ R', R.take i ++ (k, v) :: R.drop (behind R k i) = R' := ⟨_, rfl⟩
      have HR' := Lib.hid hR'
      rw [hR'] at HRow5 Hown hs1 ⊢
      clear hR'
      go_wp2
      go_ret
      refine ⟨i, HL.out, by rw [Hk.out]; rfl, ?_, ?_⟩
      · rw [HR'.out]
        have hb6 : But [b] w5 (w5.setCell ⟨b, 0, none⟩ (.slice a5 R'.length c5)) := (But.refl [b] w5).setCell (.inl (by simp)) _
        exact ⟨a5, c5, HB5.out.set 0 _, HRow5.out.but hb6 (fun g o e => by have := (HX5.out _ e).1; simpa using this), hs1, hs2, hbF, hs3, fun x hx => ⟨(HX5.out x hx).1, (HX5.out x hx).2.1, Nat.lt_of_lt_of_le (HX5.out x hx).2.2.1 hb6.size, (HX5.out x hx).2.2.2⟩⟩
      · exact (But.of_below HbE.out).trans ((But.refl [b] w5).setCell (.inl (by simp)) _)
  · have hbh : behind R k i = i := if_neg hk
    have Hk : Hid (decide (k ∈ R.map (·.1)) = false) := decide_eq_false hk
    rw [Hk.out]
    clear hk hs
    obtain ⟨j, hj⟩ : ∃ j, i = j := ⟨_, rfl⟩
    have hil : j ≤ R.length := by omega
    have hjI : (i : Int) = (j : Int) := by omega
    have Hbh : Hid (behind R k i = j) := hbh.trans hj
    clear hj hbh
    have hjc : (j : Int) ≤ (c : Int) := by omega
    have hjl : (j : Int) ≤ (R.length : Int) := by omega
    have hdl : (R.drop j).length = R.length - j := List.length_drop
    by_cases hcj : c = j
    · have hd0 : R.drop j = [] := List.drop_eq_nil_of_le (by omega)
      have Hdr : Hid (Row w4 a ((R.drop j).flatMap rowL)) := .inl (by rw [hd0]; rfl)
      have Hdl : Hid (R.length - j = (R.drop j).length ∧ c - j = 0) := ⟨hdl.symm, by omega⟩
      clear hd0 hdl
      go_wp2_with (at_builtin; refine Go.XR.stop (fun X hX => ?_))
      refine hX.out ?_
      clear hX X
      refine wpList_plain rfl (fun K hK => ?_)
      refine append_encN (P := Tryz.prog) rowL 35 56 rowL_length one_rowL 42 Tryz.underlying60 (by kernel_rfl) (by decide) nb a4 c4 T2 rfl Ho4.out _ _ _ (R.drop j) rfl Hdl.out.1 Hdr.out (fun _ => ⟨(by have := Hdl.out; omega), (by have := Hdl.out; omega)⟩) (by have := Ht2.out; rw [List.length_drop]; omega) (by have := Ht2.out; unfold maxLen; rw [List.length_drop]; omega) hs4 ?_
      intro a5 c5 w5 ho5 hb5
      obtain ⟨hs1, hs2, hs3, hs4'⟩ := own_shape ho5
      have hT : T2 ++ R.drop j = R.take i ++ (k, v) :: R.drop (behind R k i) := by rw [← HT2.out, ← HT1.out, Hbh.out, List.append_assoc]; rfl
      rw [hT] at ho5 hs1 ⊢
      have HRow5 := Lib.hid (Row.owned ho5)
      have HB5 := Lib.hid (HB4.out.heap (hb5.block b (by have := Hnb.out; omega)))
      have Hown := Lib.hid ho5
      have HbE := Lib.hid (Hb1.out.trans ((Hb4.out.trans hb5).mono (by rw [← Hnb.out]; exact Hb1.out.size)))
      have HX5 : Hid (∀ x, a5 = some x → x.block ≠ b ∧ x.block ∉ F ∧ x.block < w5.heap.size ∧ x = ⟨x.block, 0, none⟩) := fun x hx => by
        obtain ⟨h1, h2, h3⟩ := hs4' x hx
        refine ⟨?_, fun h => ?_, h2, h3⟩
        · have := Hnb.out; omega
        · have := hF _ h; have := Hnb.out; have := Hb1.out.size; omega
      have hbl5 : b < w5.heap.size := HB5.out.lt
      have f5 := HB5.out.free 0
      have c5' := HB5.out.cell (i := 0) rfl
      clear ho5 hb5 hT hs4' c0 f0
      obtain ⟨R', hR'⟩ : ∃ R', R.take i ++ (k, v) :: R.drop (behind R k i) = R' := ⟨_, rfl⟩
      have HR' := Lib.hid hR'
      rw [hR'] at HRow5 Hown hs1 ⊢
      clear hR'
      go_wp2
      go_ret
      refine ⟨i, HL.out, by rw [Hk.out]; rfl, ?_, ?_⟩
      · rw [HR'.out]
        have hb6 : But [b] w5 (w5.setCell ⟨b, 0, none⟩ (.slice a5 R'.length c5)) := (But.refl [b] w5).setCell (.inl (by simp)) _
        exact ⟨a5, c5, HB5.out.set 0 _, HRow5.out.but hb6 (fun g o e => by have := (HX5.out _ e).1; simpa using this), hs1, hs2, hbF, hs3, fun x hx => ⟨(HX5.out x hx).1, (HX5.out x hx).2.1, Nat.lt_of_lt_of_le (HX5.out x hx).2.2.1 hb6.size, (HX5.out x hx).2.2.2⟩⟩
      · exact (But.of_below HbE.out).trans ((But.refl [b] w5).setCell (.inl (by simp)) _)
    · obtain ⟨g, hag⟩ : ∃ g, a = some ⟨g, 0, none⟩ := by
        cases ha : a with
        | none => have := hnil ha; omega
        | some x => exact ⟨x.block, by rw [← (Hx.out x ha).2.2.2]⟩
      have Hdr : Hid (Row w4 (some ⟨g, j * 35, none⟩) ((R.drop j).flatMap rowL)) := by
        rcases HR4.out with h1 | ⟨g', o', he, h1⟩
        · have := flat_len rowL_length R
          rw [h1] at this
          have h2 : R = [] := List.eq_nil_of_length_eq_zero (by rw [List.length_nil] at this; omega)
          rw [h2]; exact .inl (by simp)
        · rw [hag] at he
          injection he with he
          injection he with e1 e2
          subst e1 e2
          refine .inr ⟨g, j * 35, rfl, fun q u hq => ?_⟩
          have h3 := flat_drop rowL_length R hil
          rw [← h3, List.getElem?_drop] at hq
          have := h1 _ u hq
          rwa [Nat.zero_add] at this
      have Hag := Lib.hid hag
      subst hag
      go_wp2_with (at_builtin; refine Go.XR.stop (fun X hX => ?_))
      refine hX.out ?_
      clear hX X
      refine wpList_plain rfl (fun K hK => ?_)
      refine append_encN (P := Tryz.prog) rowL 35 56 rowL_length one_rowL 42 Tryz.underlying60 (by kernel_rfl) (by decide) nb a4 c4 T2 rfl Ho4.out _ _ _ (R.drop j) rfl hdl.symm Hdr.out (fun e => by cases e) (by have := Ht2.out; rw [List.length_drop]; omega) (by have := Ht2.out; unfold maxLen; rw [List.length_drop]; omega) hs4 ?_
      intro a5 c5 w5 ho5 hb5
      obtain ⟨hs1, hs2, hs3, hs4'⟩ := own_shape ho5
      have hT : T2 ++ R.drop j = R.take i ++ (k, v) :: R.drop (behind R k i) := by rw [← HT2.out, ← HT1.out, Hbh.out, List.append_assoc]; rfl
      rw [hT] at ho5 hs1 ⊢
      have HRow5 := Lib.hid (Row.owned ho5)
      have HB5 := Lib.hid (HB4.out.heap (hb5.block b (by have := Hnb.out; omega)))
      have Hown := Lib.hid ho5
      have HbE := Lib.hid (Hb1.out.trans ((Hb4.out.trans hb5).mono (by rw [← Hnb.out]; exact Hb1.out.size)))
      have HX5 : Hid (∀ x, a5 = some x → x.block ≠ b ∧ x.block ∉ F ∧ x.block < w5.heap.size ∧ x = ⟨x.block, 0, none⟩) := fun x hx => by
        obtain ⟨h1, h2, h3⟩ := hs4' x hx
        refine ⟨?_, fun h => ?_, h2, h3⟩
        · have := Hnb.out; omega
        · have := hF _ h; have := Hnb.out; have := Hb1.out.size; omega
      have hbl5 : b < w5.heap.size := HB5.out.lt
      have f5 := HB5.out.free 0
      have c5' := HB5.out.cell (i := 0) rfl
      clear ho5 hb5 hT hs4' c0 f0
      obtain ⟨R', hR'⟩ : ∃ R', R.take i ++ (k, v) :: R.drop (behind R k i) = R' := ⟨_, rfl⟩
      have HR' := Lib.hid hR'
      rw [hR'] at HRow5 Hown hs1 ⊢
      clear hR'
      go_wp2
      go_ret
      refine ⟨i, HL.out, by rw [Hk.out]; rfl, ?_, ?_⟩
      · rw [HR'.out]
        have hb6 : But [b] w5 (w5.setCell ⟨b, 0, none⟩ (.slice a5 R'.length c5)) := (But.refl [b] w5).setCell (.inl (by simp)) _
        exact ⟨a5, c5, HB5.out.set 0 _, HRow5.out.but hb6 (fun g o e => by have := (HX5.out _ e).1; simpa using this), hs1, hs2, hbF, hs3, fun x hx => ⟨(HX5.out x hx).1, (HX5.out x hx).2.1, Nat.lt_of_lt_of_le (HX5.out x hx).2.2.1 hb6.size, (HX5.out x hx).2.2.2⟩⟩
      · exact (But.of_below HbE.out).trans ((But.refl [b] w5).setCell (.inl (by simp)) _)
end Go.Proofs.YtnfbchhbcinloaaGreat

/- The walk over the reference's Drop. -/
namespace Go.Proofs.YtnfbchhbcinloaaGreat
open Go.RowKit Go.XR Go.IndexPure
def RetRDrop (w : World) (b : Nat) (R : List RowT) (F : List Nat) (k : KeyT) (e : Ending) (w' : World) : Prop :=
  e = .returned (.bool (decide (k ∈ R.map (·.1)))) ∧ ∃ i, LowK R k i ∧ RefIx w' b (if k ∈ R.map (·.1) then R.take i ++ R.drop (behind R k i) else R) F ∧ But [b] w w'
set_option maxHeartbeats 2000000 in
set_option maxRecDepth 100000 in
theorem refdrop_any (w : World) (b : Nat) (R : List RowT) (F : List Nat) (h : RefIx w b R F) (hF : ∀ i ∈ F, i < w.heap.size) (hs : SrtA R) (hlen : R.length ≤ 2^20) (k : KeyT) :
    Calls Tryz.prog 40 #[.pointer (some ⟨b, 0, none⟩), keyV k] w (RetRDrop w b R F k) := by
  obtain ⟨zr, hzr, hzr2⟩ := zero_row
  have Hzr := Lib.hid hzr2
  clear hzr2
  obtain ⟨a, c, hB, hR, hc, hcm, hbF, hnil, hx⟩ := h
  obtain ⟨W0, hW0⟩ : ∃ W0, w.alloc (.cells (keyC k) 29) = W0 := ⟨_, rfl⟩
  have hb0 : Below w.heap.size w W0 := by rw [← hW0]; exact (Below.refl _ _).alloc (Nat.le_refl _) _
  have HK : Hid (At W0 w.heap.size 0 (keyC k)) := by unfold Hid; rw [← hW0]; exact At.new _ _ _
  have HB := Lib.hid (hB.below hb0)
  have HR := Lib.hid (hR.below hb0)
  have Hb0 := Lib.hid hb0
  have hbl := hB.lt
  clear hB hR hb0
  obtain ⟨kb, hkb⟩ : ∃ kb, w.heap.size = kb := ⟨_, rfl⟩
  have Hkb := Lib.hid hkb
  rw [hkb] at HK
  go_enter Tryz.func40, Tryz.ntmps40
  go_wp2_with (first | (refine wpList_load_at rfl 29 (.tmp 3) rfl kb 0 (by kernel_rfl) (keyC k) HK.out _ Tryz.underlying29 rfl (keySize k) ?_) | fail)
  refine (refat_any W0 b a c R HB.out HR.out hs (by omega) k).mono ?_
  rintro e w1 ⟨i, hL, rfl, hb1⟩
  have HK1 := Lib.hid (HK.out.below (by rw [keyC_size]; omega) hb1)
  have HB1 := Lib.hid (HB.out.below hb1)
  have HR1 := Lib.hid (HR.out.below hb1)
  have Hb1 := Lib.hid (Hb0.out.trans (hb1.mono Hb0.out.size))
  have HL := Lib.hid hL
  have hi := hL.1
  have hic : (i : Int) ≤ (c : Int) := by omega
  have c0 := HB1.out.cell (i := 0) rfl
  clear hkb hW0 hb1 hL HK HB HR
  by_cases hk : k ∈ R.map (·.1)
  · have Hbh : Hid (behind R k i = i + 1) := if_pos hk
    have hil : i + 1 ≤ R.length := by
      obtain ⟨h1, _⟩ := (low_mem hs HL.out).1 hk
      omega
    have Hk : Hid (decide (k ∈ R.map (·.1)) = true) := decide_eq_true hk
    rw [Hk.out]
    clear hk hs
    have hbl1 : b < w1.heap.size := HB1.out.lt
    have hti : (R.take i).length = i := by rw [List.length_take]; omega
    have Hti := Lib.hid hti
    have HRt : Hid (Row w1 a ((R.take i).flatMap rowL)) := by
      have h1 := HR1.out.take (i * 35)
      rwa [flat_take rowL_length R hi] at h1
    clear hti
    go_wp2_with (at_builtin; refine Go.XR.stop (fun X hX => ?_))
    refine hX.out ?_
    clear hX X
    obtain ⟨T1, hT1⟩ : ∃ T1, R.take i = T1 := ⟨_, rfl⟩
    have HT1 := Lib.hid hT1
    rw [hT1] at HRt Hti
    clear hT1
    obtain ⟨nb, hnb⟩ : ∃ nb, w1.heap.size = nb := ⟨_, rfl⟩
    have Hnb := Lib.hid hnb
    obtain ⟨w2, hw2⟩ : ∃ w2, w1.alloc (.cells #[] 42) = w2 := ⟨_, rfl⟩
    have hb2 : Below nb w1 w2 := by rw [← hw2, ← hnb]; exact (Below.refl _ _).alloc (Nat.le_refl _) _
    have ho2 : w2.ownsRow nb 42 35 (.slice (some ⟨nb, 0, none⟩) ([] : List RowT).length 0) ([] : List RowT).length (([] : List RowT).flatMap rowL) := by
      rw [← hw2, ← hnb]
      exact ⟨rfl, .inr ⟨w1.heap.size, 0, #[], rfl, Nat.le_refl _, (MapKept.heap_alloc w1 _).1, Nat.le_refl _, by unfold maxLen; omega, rfl, rfl⟩⟩
    have hs2 : nb ≤ w2.heap.size := by rw [← hw2, ← hnb]; simp
    rw [hw2, hnb]
    have Ho2 := Lib.hid ho2
    have HR2 := Lib.hid (HRt.out.below (by rw [hnb]; exact hb2))
    have Hb2 := Lib.hid hb2
    clear hw2 ho2 hb2 HRt hnb c0
    refine wpList_plain rfl (fun K hK => ?_)
    refine append_enc (P := Tryz.prog) rowL 35 56 rowL_length one_rowL 42 Tryz.underlying60 (by kernel_rfl) (by decide) nb (some ⟨nb, 0, none⟩) 0 [] rfl Ho2.out a c T1 (by rw [Hti.out]; rfl) HR2.out (fun e => by
      have h1 := hnil e
      have := Hti.out
      omega) (by have := Hti.out; simp; omega) (by have := Hti.out; unfold maxLen; simp; omega) hs2 ?_
    intro a3 c3 w3 ho3 hb3 _ _
    rw [List.nil_append] at ho3 ⊢
    have Ho3 := Lib.hid ho3
    have Hb3 := Lib.hid (Hb2.out.trans hb3)
    have hs3n : nb ≤ w3.heap.size := Nat.le_trans hs2 hb3.size
    have Ht1 : Hid (T1.length ≤ R.length) := by unfold Hid; have := Hti.out; omega
    clear ho3 hb3 Ho2 HR2 Hb2 HK1 hs2
    have HB3 := Lib.hid (HB1.out.below (by rw [Hnb.out]; exact Hb3.out))
    have HR3 := Lib.hid (HR1.out.below (by rw [Hnb.out]; exact Hb3.out))
    have c0 := HB3.out.cell (i := 0) rfl
    have f0 := HB3.out.free 0
    have Hx := Lib.hid hx
    clear HB1 HR1 hx
    obtain ⟨j, hj⟩ : ∃ j, i + 1 = j := ⟨_, rfl⟩
    have hjI : (i : Int) + 1 = (j : Int) := by omega
    rw [hj] at Hbh hil
    clear hj
    have hjc : (j : Int) ≤ (c : Int) := by omega
    have hjl : (j : Int) ≤ (R.length : Int) := by omega
    have hdl : (R.drop j).length = R.length - j := List.length_drop
    by_cases hcj : c = j
    · have hd0 : R.drop j = [] := List.drop_eq_nil_of_le (by omega)
      have Hdr : Hid (Row w3 a ((R.drop j).flatMap rowL)) := .inl (by rw [hd0]; rfl)
      have Hdl : Hid (R.length - j = (R.drop j).length ∧ c - j = 0) := ⟨hdl.symm, by omega⟩
      clear hd0 hdl
      go_wp2_with (at_builtin; refine Go.XR.stop (fun X hX => ?_))
      refine hX.out ?_
      clear hX X
      refine wpList_plain rfl (fun K hK => ?_)
      refine append_encN (P := Tryz.prog) rowL 35 56 rowL_length one_rowL 42 Tryz.underlying60 (by kernel_rfl) (by decide) nb a3 c3 T1 rfl Ho3.out _ _ _ (R.drop j) rfl Hdl.out.1 Hdr.out (fun _ => ⟨(by have := Hdl.out; omega), (by have := Hdl.out; omega)⟩) (by have := Ht1.out; rw [List.length_drop]; omega) (by have := Ht1.out; unfold maxLen; rw [List.length_drop]; omega) hs3n ?_
      intro a5 c5 w5 ho5 hb5
      obtain ⟨hs1, hs2, hs3, hs4'⟩ := own_shape ho5
      have hT : T1 ++ R.drop j = R.take i ++ R.drop (behind R k i) := by rw [← HT1.out, Hbh.out]
      rw [hT] at ho5 hs1 ⊢
      have HRow5 := Lib.hid (Row.owned ho5)
      have HB5 := Lib.hid (HB3.out.heap (hb5.block b (by have := Hnb.out; omega)))
      have Hown := Lib.hid ho5
      have HbE := Lib.hid (Hb1.out.trans ((Hb3.out.trans hb5).mono (by rw [← Hnb.out]; exact Hb1.out.size)))
      have HX5 : Hid (∀ x, a5 = some x → x.block ≠ b ∧ x.block ∉ F ∧ x.block < w5.heap.size ∧ x = ⟨x.block, 0, none⟩) := fun x hx => by
        obtain ⟨h1, h2, h3⟩ := hs4' x hx
        refine ⟨?_, fun h => ?_, h2, h3⟩
        · have := Hnb.out; omega
        · have := hF _ h; have := Hnb.out; have := Hb1.out.size; omega
      have hbl5 : b < w5.heap.size := HB5.out.lt
      have f5 := HB5.out.free 0
      have c5' := HB5.out.cell (i := 0) rfl
      clear ho5 hb5 hT hs4' c0 f0
      obtain ⟨R', hR'⟩ : ∃ R', R.take i ++ R.drop (behind R k i) = R' := ⟨_, rfl⟩
      have HR' := Lib.hid hR'
      rw [hR'] at HRow5 Hown hs1 ⊢
      clear hR'
      go_wp2
      go_ret
      refine ⟨by rw [Hk.out]; rfl, i, HL.out, ?_, ?_⟩
      · rw [if_pos (by have := Hk.out; simpa using this), HR'.out]
        have hb6 : But [b] w5 (w5.setCell ⟨b, 0, none⟩ (.slice a5 R'.length c5)) := (But.refl [b] w5).setCell (.inl (by simp)) _
        exact ⟨a5, c5, HB5.out.set 0 _, HRow5.out.but hb6 (fun g o e => by have := (HX5.out _ e).1; simpa using this), hs1, hs2, hbF, hs3, fun x hx => ⟨(HX5.out x hx).1, (HX5.out x hx).2.1, Nat.lt_of_lt_of_le (HX5.out x hx).2.2.1 hb6.size, (HX5.out x hx).2.2.2⟩⟩
      · exact (But.of_below HbE.out).trans ((But.refl [b] w5).setCell (.inl (by simp)) _)
    · obtain ⟨g, hag⟩ : ∃ g, a = some ⟨g, 0, none⟩ := by
        cases ha : a with
        | none => have := hnil ha; omega
        | some x => exact ⟨x.block, by rw [← (Hx.out x ha).2.2.2]⟩
      have Hdr : Hid (Row w3 (some ⟨g, j * 35, none⟩) ((R.drop j).flatMap rowL)) := by
        rcases HR3.out with h1 | ⟨g', o', he, h1⟩
        · have := flat_len rowL_length R
          rw [h1] at this
          have h2 : R = [] := List.eq_nil_of_length_eq_zero (by rw [List.length_nil] at this; omega)
          rw [h2]; exact .inl (by simp)
        · rw [hag] at he
          injection he with he
          injection he with e1 e2
          subst e1 e2
          refine .inr ⟨g, j * 35, rfl, fun q u hq => ?_⟩
          have h3 := flat_drop rowL_length R hil
          rw [← h3, List.getElem?_drop] at hq
          have := h1 _ u hq
          rwa [Nat.zero_add] at this
      have Hag := Lib.hid hag
      subst hag
      go_wp2_with (at_builtin; refine Go.XR.stop (fun X hX => ?_))
      refine hX.out ?_
      clear hX X
      refine wpList_plain rfl (fun K hK => ?_)
      refine append_encN (P := Tryz.prog) rowL 35 56 rowL_length one_rowL 42 Tryz.underlying60 (by kernel_rfl) (by decide) nb a3 c3 T1 rfl Ho3.out _ _ _ (R.drop j) rfl hdl.symm Hdr.out (fun e => by cases e) (by have := Ht1.out; rw [List.length_drop]; omega) (by have := Ht1.out; unfold maxLen; rw [List.length_drop]; omega) hs3n ?_
      intro a5 c5 w5 ho5 hb5
      obtain ⟨hs1, hs2, hs3, hs4'⟩ := own_shape ho5
      have hT : T1 ++ R.drop j = R.take i ++ R.drop (behind R k i) := by rw [← HT1.out, Hbh.out]
      rw [hT] at ho5 hs1 ⊢
      have HRow5 := Lib.hid (Row.owned ho5)
      have HB5 := Lib.hid (HB3.out.heap (hb5.block b (by have := Hnb.out; omega)))
      have Hown := Lib.hid ho5
      have HbE := Lib.hid (Hb1.out.trans ((Hb3.out.trans hb5).mono (by rw [← Hnb.out]; exact Hb1.out.size)))
      have HX5 : Hid (∀ x, a5 = some x → x.block ≠ b ∧ x.block ∉ F ∧ x.block < w5.heap.size ∧ x = ⟨x.block, 0, none⟩) := fun x hx => by
        obtain ⟨h1, h2, h3⟩ := hs4' x hx
        refine ⟨?_, fun h => ?_, h2, h3⟩
        · have := Hnb.out; omega
        · have := hF _ h; have := Hnb.out; have := Hb1.out.size; omega
      have hbl5 : b < w5.heap.size := HB5.out.lt
      have f5 := HB5.out.free 0
      have c5' := HB5.out.cell (i := 0) rfl
      clear ho5 hb5 hT hs4' c0 f0
      obtain ⟨R', hR'⟩ : ∃ R', R.take i ++ R.drop (behind R k i) = R' := ⟨_, rfl⟩
      have HR' := Lib.hid hR'
      rw [hR'] at HRow5 Hown hs1 ⊢
      clear hR'
      go_wp2
      go_ret
      refine ⟨by rw [Hk.out]; rfl, i, HL.out, ?_, ?_⟩
      · rw [if_pos (by have := Hk.out; simpa using this), HR'.out]
        have hb6 : But [b] w5 (w5.setCell ⟨b, 0, none⟩ (.slice a5 R'.length c5)) := (But.refl [b] w5).setCell (.inl (by simp)) _
        exact ⟨a5, c5, HB5.out.set 0 _, HRow5.out.but hb6 (fun g o e => by have := (HX5.out _ e).1; simpa using this), hs1, hs2, hbF, hs3, fun x hx => ⟨(HX5.out x hx).1, (HX5.out x hx).2.1, Nat.lt_of_lt_of_le (HX5.out x hx).2.2.1 hb6.size, (HX5.out x hx).2.2.2⟩⟩
      · exact (But.of_below HbE.out).trans ((But.refl [b] w5).setCell (.inl (by simp)) _)
  · have Hk : Hid (decide (k ∈ R.map (·.1)) = false) := decide_eq_false hk
    rw [Hk.out]
    clear hk hs
    go_wp2
    go_ret
    exact ⟨by rw [Hk.out]; rfl, i, HL.out, by rw [if_neg (by have := Hk.out; simpa using this)]; exact ⟨a, c, HB1.out, HR1.out, hc, hcm, hbF, hnil, fun x hx2 => ⟨(hx x hx2).1, (hx x hx2).2.1, Nat.lt_of_lt_of_le (hx x hx2).2.2.1 Hb1.out.size, (hx x hx2).2.2.2⟩⟩, But.of_below Hb1.out⟩
end Go.Proofs.YtnfbchhbcinloaaGreat

/- The walks over SameKeys and the reference's Get and Twins. -/
namespace Go.Proofs.YtnfbchhbcinloaaGreat
open Go.RowKit Go.XR Go.IndexPure
set_option maxHeartbeats 2000000 in
set_option maxRecDepth 100000 in
theorem samek_any (w : World) (a b : Option Addr) (c d : Nat) (l m : List KeyT) (ha : Row w a (l.flatMap keyL)) (hb : Row w b (m.flatMap keyL)) (hl : l.length ≤ 2^40) (hm : m.length ≤ 2^40) :
    Calls Tryz.prog 22 #[.slice a l.length c, .slice b m.length d] w (RetBool w (decide (l = m))) := by
  have HA := Lib.hid ha
  have HB := Lib.hid hb
  clear ha hb
  by_cases hne : l.length = m.length
  · have Hne := Lib.hid hne
    rw [← hne]
    clear hne
    go_enter Tryz.func22, Tryz.ntmps22
    go_wp2
    go_loopg [5] l.length (fun n i wr => Below w.heap.size w wr ∧ ∃ j : Nat, j ≤ l.length ∧ i = .int .i64 j ∧ Hid (n = l.length - j ∧ l.take j = m.take j))
    case atStart => exact ⟨Below.refl _ _, 0, by omega, rfl, rfl, rfl⟩
    case round =>
      obtain ⟨hbw, j, hj, rfl, hr⟩ := hrel
      have Hbw := Lib.hid hbw
      have hgn := hr.out.1
      have Htk := Lib.hid hr.out.2
      clear hbw hr
      by_cases hlt : j < l.length
      · have hlt2 : (j : Int) < (l.length : Int) := by omega
        have hltm : j < m.length := by have := Hne.out; omega
        obtain ⟨g1, o1, rfl, hX⟩ := row_at keyL_length (HA.out.below Hbw.out) hlt (by omega)
        obtain ⟨g2, o2, rfl, hY⟩ := row_at keyL_length (HB.out.below Hbw.out) hltm (by omega)
        have HX : Hid (At wr g1 (o1 + j * 33) (keyC l[j])) := hX
        have HY : Hid (At wr g2 (o2 + j * 33) (keyC m[j])) := hY
        have Heq := Lib.hid (key_eq l[j] m[j] wr.drew)
        have Htk2 : Hid (l.take (j + 1) = m.take (j + 1) ↔ l[j] = m[j]) := by
          unfold Hid
          rw [List.take_succ_eq_append_getElem hlt, List.take_succ_eq_append_getElem hltm, Htk.out]
          constructor
          · intro h
            have := List.append_cancel_left h
            injection this
          · intro h; rw [h]
        have Hne2 : Hid (l = m → l[j] = m[j]) := fun e => by subst e; rfl
        clear hX hY
        generalize l[j] = x at *
        generalize m[j] = y at *
        go_wp2
        refine Go.XR.region_sched ((· = wr.drew)) [(0, true), (1, true), (2, true), (3, true), (4, true), (5, true), (6, true), (7, true), (8, false)] [8] Tryz.mixed (by kernel_rfl) (by kernel_rfl) (by kernel_rfl) ?_
        simp only [List.map_cons, List.map_nil, List.getElem?_cons_succ, List.getElem?_cons_zero]
        repeat (first | (refine Go.XR.S_light rfl rfl rfl ?_ (fun w' hS K hK => ?_) (fun K hK => ?_); rotate_left 1; (cases hS; (first | (first | (refine Go.XR.wp_load_at 29 (.tmp 19) rfl g1 (o1 + j * 33) rfl (keyC x) (At.drew HX.out) _ Tryz.underlying29 rfl (keySize x) ?_) | (refine Go.XR.wp_load_at 29 (.tmp 23) rfl g2 (o2 + j * 33) rfl (keyC y) (At.drew HY.out) _ Tryz.underlying29 rfl (keySize y) ?_)) | go_step); exact hK); go_step; refine hK _ ?_; clear hK K))
        refine Go.XR.S_heavy (fun K hK => ?_)
        refine Go.XR.wp_agg_neq 29 _ _ _ rfl (keyC x) (keyC y) rfl rfl keyGuard _ Heq.out ?_
        refine hK _ _ ⟨fun h => by simp at h, ?_⟩
        clear hK K
        refine Go.XR.S_nil ?_
        by_cases hxy : x = y
        · rw [decide_eq_true hxy]
          have Hxy := Lib.hid hxy
          clear hxy
          go_wp2
          go_roundg (l.length - (j + 1))
          case measure => omega
          case rel => exact ⟨Hbw.out.drew, j + 1, by omega, by go_num, rfl, Htk2.out.2 Hxy.out⟩
        · rw [decide_eq_false hxy]
          have Hxy := Lib.hid hxy
          clear hxy
          go_wp2
          go_ret
          exact ⟨by rw [decide_eq_false (fun e => Hxy.out (Hne2.out e))]; rfl, Hbw.out.drew⟩
      · have hge : ¬ (j : Int) < (l.length : Int) := by omega
        go_wp2
        go_ret
        refine ⟨?_, Hbw.out⟩
        have h1 := Htk.out
        rw [List.take_of_length_le (by omega), List.take_of_length_le (by have := Hne.out; omega)] at h1
        rw [decide_eq_true h1]; rfl
  · have hneI : ¬ ((l.length : Int) = (m.length : Int)) := by omega
    have Hd : Hid (decide (l = m) = false) := decide_eq_false fun e => hne (by rw [e])
    go_enter Tryz.func22, Tryz.ntmps22
    go_wp2
    go_ret
    exact ⟨by rw [Hd.out]; rfl, Below.refl _ _⟩
set_option maxHeartbeats 2000000 in
set_option maxRecDepth 100000 in
theorem refget_any (w : World) (b : Nat) (R : List RowT) (F : List Nat) (D : List RowT) (h : RefIx w b R F) (hA : AllOf D R) (hD : (D.map (·.1)).Nodup) (hlen : R.length ≤ 2^20) (k : KeyT) :
    Calls Tryz.prog 47 #[.pointer (some ⟨b, 0, none⟩), keyV k] w (RetGet w D k) := by
  obtain ⟨a, c, hB, hR, hc, hcm, hbF, hnil, hx⟩ := h
  clear hx
  obtain ⟨W0, hW0⟩ : ∃ W0, (w.alloc (.cells (keyC k) 29)).alloc (.cells #[.int .i64 0, .int .i64 0] 40) = W0 := ⟨_, rfl⟩
  have hb0 : Below w.heap.size w W0 := by rw [← hW0]; exact ((Below.refl _ _).alloc (Nat.le_refl _) _).alloc (by simp) _
  have HK : Hid (At W0 w.heap.size 0 (keyC k)) := by unfold Hid; rw [← hW0]; exact (At.new _ _ _).alloc _
  have HP : Hid (Blk W0 (w.heap.size + 1) [.int .i64 0, .int .i64 0]) := by
    unfold Hid; rw [← hW0]
    have h := Blk.new (w.alloc (.cells (keyC k) 29)) #[.int .i64 0, .int .i64 0] 40
    rwa [show (w.alloc (.cells (keyC k) 29)).heap.size = w.heap.size + 1 by simp] at h
  have HB := Lib.hid (hB.below hb0)
  have HR := Lib.hid (hR.below hb0)
  have Hb0 := Lib.hid hb0
  clear hB hR hb0
  obtain ⟨kb, hkb⟩ : ∃ kb, w.heap.size = kb := ⟨_, rfl⟩
  obtain ⟨vb, hvb⟩ : ∃ vb, kb + 1 = vb := ⟨_, rfl⟩
  have Hkb := Lib.hid hkb
  have Hvb := Lib.hid hvb
  rw [hkb] at HK HP
  rw [hvb] at HP
  go_enter Tryz.func47, Tryz.ntmps47
  go_wp2_with (first | (refine wpList_load_at rfl 29 (.tmp 3) rfl kb 0 (by kernel_rfl) (keyC k) HK.out _ Tryz.underlying29 rfl (keySize k) ?_) | fail)
  refine (refat_any W0 b a c R HB.out HR.out hA.2 (by omega) k).mono ?_
  rintro e w1 ⟨i, hL, rfl, hb1⟩
  have HP1 := Lib.hid (HP.out.below hb1)
  have HB1 := Lib.hid (HB.out.below hb1)
  have HR1 := Lib.hid (HR.out.below hb1)
  have Hb1 := Lib.hid (Hb0.out.trans (hb1.mono Hb0.out.size))
  have f0 := HP1.out.free 0
  have f1 := HP1.out.free 1
  have p0 := HP1.out.cell (i := 0) rfl
  have p1 := HP1.out.cell (i := 1) rfl
  have hvl : vb < w1.heap.size := HP1.out.lt
  have hvw : w.heap.size ≤ vb := by have := Hkb.out; have := Hvb.out; omega
  clear hkb hvb hW0 hb1 HK HB HR HP
  by_cases hk : k ∈ R.map (·.1)
  · obtain ⟨hi, he, hg⟩ := allof_get hA hD hL hk
    have hiI : (i : Int) < (R.length : Int) := by omega
    obtain ⟨g, o, rfl, hX⟩ := row_at rowL_length HR1.out hi (by omega)
    have HX : Hid (At w1 g (o + i * 35) (rowC R[i])) := hX
    have Hg := Lib.hid hg
    have c0 := HB1.out.cell (i := 0) rfl
    rw [decide_eq_true hk]
    clear hk hX he hg hA hD hL HR1 HB1
    generalize R[i] = r at *
    go_wp2_with (first | (refine wpList_load_at rfl 40 (.tmp 23) rfl g (o + i * 35 + 33) (by kernel_rfl) #[.int .i64 r.2.shelf, .int .i64 r.2.slot] (row_at_place HX.out) _ Tryz.underlying40 rfl (by kernel_rfl) ?_) | fail)
    (try simp only [Exit.inBlock, Exit.then])
    refine bodyPost_ret (results_at rfl (g := vb) rfl rfl (((HP1.out.set 0 (.int .i64 r.2.shelf)).set 1 (.int .i64 r.2.slot)).toAt) Tryz.underlying40 rfl (placeSize r.2)) rfl ?_
    exact ⟨by rw [Hg.out]; rfl, Hb1.out.trans ((((But.refl [vb] w1).setCell (.inl (by simp)) _).setCell (.inl (by simp)) _).below Hb1.out.size (by simp; omega))⟩
  · have hg : aget D k = none := by
      cases h : aget D k with
      | none => rfl
      | some v => exact absurd ((allof_some hA hD k).2 (by rw [h]; rfl)) hk
    rw [decide_eq_false hk]
    have Hg := Lib.hid hg
    clear hk hg hA hD hL
    go_wp2
    (try simp only [Exit.inBlock, Exit.then])
    refine bodyPost_ret (results_at rfl (g := vb) rfl rfl (((HP1.out.set 0 (.int .i64 0)).set 1 (.int .i64 0)).toAt) Tryz.underlying40 rfl (placeSize place0)) rfl ?_
    exact ⟨by rw [Hg.out]; rfl, Hb1.out.trans ((((But.refl [vb] w1).setCell (.inl (by simp)) _).setCell (.inl (by simp)) _).below Hb1.out.size (by simp; omega))⟩
end Go.Proofs.YtnfbchhbcinloaaGreat
