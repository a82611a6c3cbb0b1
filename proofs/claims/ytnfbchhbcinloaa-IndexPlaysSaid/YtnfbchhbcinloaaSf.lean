/- The walk over Shelf. -/
import Derived.Test.YtnfbchhbcinloaaAl
namespace Go.Proofs.Ytnfbchhbcinloaa
open Go.RowKit Go.XR Go.IndexPure
/-- what the rows of a shelf come to, of its own map's keys -/
theorem shelf_perm {D : List RowT} {K : List (KeyT × Unit)} {R : List RowT} (s : Int) (hD : (D.map (·.1)).Nodup) (hK : (K.map (·.1)).Nodup) (hKD : ∀ k, (aget K k).isSome = true ↔ ∃ v, aget D k = some v ∧ v.shelf = s)
    (hR : (R.map (·.1)).Perm (K.map (·.1))) (hv : ∀ r ∈ R, aget D r.1 = some r.2) : R.Perm (D.filter (onS s)) := by
  have hRn : (R.map (·.1)).Nodup := hR.nodup_iff.2 hK
  have hRn2 : R.Nodup := List.Pairwise.of_map (·.1) (fun a b h e => h (by rw [e])) hRn
  have hDn2 : D.Nodup := List.Pairwise.of_map (·.1) (fun a b h e => h (by rw [e])) hD
  refine (List.perm_ext_iff_of_nodup hRn2 (hDn2.sublist List.filter_sublist)).2 fun r => ?_
  have hmem : ∀ k, k ∈ K.map (·.1) ↔ (aget K k).isSome = true := fun k => by
    constructor
    · intro h
      obtain ⟨⟨k', u⟩, h1, rfl⟩ := List.mem_map.1 h
      rw [(aget_mem hK).2 h1]; rfl
    · intro h
      obtain ⟨u, hu⟩ := Option.isSome_iff_exists.1 h
      exact List.mem_map.2 ⟨(k, u), (aget_mem hK).1 hu, rfl⟩
  rw [List.mem_filter]
  constructor
  · intro h
    have h1 := hv r h
    have h2 : r.1 ∈ K.map (·.1) := hR.mem_iff.1 (List.mem_map.2 ⟨r, h, rfl⟩)
    obtain ⟨v, h3, h4⟩ := (hKD r.1).1 ((hmem r.1).1 h2)
    rw [h1] at h3
    injection h3 with h3
    refine ⟨(aget_mem hD).1 h1, ?_⟩
    unfold onS
    rw [h3]
    exact decide_eq_true h4
  · rintro ⟨h1, h2⟩
    have h3 := (aget_mem hD).2 (show (r.1, r.2) ∈ D from h1)
    have h4 : (aget K r.1).isSome = true := (hKD r.1).2 ⟨r.2, h3, of_decide_eq_true h2⟩
    have h5 : r.1 ∈ R.map (·.1) := hR.mem_iff.2 ((hmem r.1).2 h4)
    obtain ⟨q, hq, he⟩ := List.mem_map.1 h5
    have h6 := hv q hq
    have he' : q.1 = r.1 := he
    rw [he', h3] at h6
    injection h6 with h6
    have : q = r := Prod.ext he' h6.symm
    rw [← this]; exact hq
theorem keys_le {D : List RowT} {K : List (KeyT × Unit)} {s : Int} (hK : (K.map (·.1)).Nodup) (hKD : ∀ k, (aget K k).isSome = true ↔ ∃ v, aget D k = some v ∧ v.shelf = s) (hD : (D.map (·.1)).Nodup) : K.length ≤ D.length := by
  have h := hK.length_le_of_subset (l₂ := D.map (·.1)) fun k hk => by
    obtain ⟨⟨k', u⟩, h1, rfl⟩ := List.mem_map.1 hk
    have h2 : (aget K k').isSome = true := by rw [(aget_mem hK).2 h1]; rfl
    obtain ⟨v, hv, _⟩ := (hKD k').1 h2
    exact List.mem_map.2 ⟨(k', v), (aget_mem hD).1 hv, rfl⟩
  simpa using h
structure ShR (p pb kb : Nat) (k : KeyT) (W : World) : Prop where
  c0 : W.cell? ⟨p, 0, none⟩ = some (.map (some pb))
  key : At W kb 0 (keyC k)
set_option maxHeartbeats 1000000 in
set_option maxRecDepth 100000 in
theorem shelf_none (w : World) (p pb tb sb : Nat) (Sh : List (I64 × Nat)) (hB : Blk w p [.map (some pb), .map (some tb), .map (some sb)]) (hS : GM i64V mapV w sb Sh) (s : I64) (hs : aget Sh s = none) :
    Calls Try.prog 23 #[.pointer (some ⟨p, 0, none⟩), .int .i64 s.1] w (RetRows w []) := by
  have c2 := hB.cell (i := 2) rfl
  have HS := Lib.hid hS
  have Hv : Hid (((aget Sh s).map mapV).getD (.map none) = .map none) := by unfold Hid; rw [hs]; rfl
  clear hB hS hs
  go_enter Try.func23, Try.ntmps23
  go_wp2_with (first | (refine wpList_plain rfl (fun K hK => ?_); refine Go.XR.wp_gm_lookup (.tmp 12) (.tmp 13) 82 rfl keysI64 Try.underlying82 (.map none) (fun w => Try.zeroValue89 w) s _ rfl rfl HS.out Hv.out ?_; refine hK _ _ ?_; clear hK K) | (refine wpList_range_none rfl (.tmp 14) 89 rfl Try.underlying89 rfl ?_))
  obtain ⟨W1, hW1⟩ : ∃ W1, w.alloc (.mapIter none 0 #[] 0) = W1 := ⟨_, rfl⟩
  obtain ⟨ib, hib⟩ : ∃ ib, w.heap.size = ib := ⟨_, rfl⟩
  have Hit : Hid (W1.heap[ib]? = some (.mapIter none 0 #[] 0)) := by unfold Hid; rw [← hW1, ← hib]; exact (MapKept.heap_alloc w _).1
  have Hb : Hid (Below w.heap.size w W1) := by unfold Hid; rw [← hW1]; exact (Below.refl _ _).alloc (Nat.le_refl _) _
  rw [hW1, hib]
  clear hW1 hib c2
  go_frame
  go_loopg [5] 0 (fun n out wr => wr = W1 ∧ out = .slice none 0 0)
  case atStart => exact ⟨rfl, rfl⟩
  case round =>
    obtain ⟨rfl, rfl⟩ := hrel
    go_wp2_with (first | (refine wpList_next_none rfl (.tmp 15) rfl ib rfl Hit.out ?_) | fail)
    refine (sort_none wr none 0 _).mono ?_
    rintro e w3 ⟨rfl, rfl⟩
    go_wp2
    go_ret
    exact ⟨none, 0, rfl, .inl rfl, (fun x hx => by cases hx), Hb.out⟩
set_option maxHeartbeats 1000000 in
set_option maxRecDepth 100000 in
theorem shelf_some (w : World) (p pb tb sb m : Nat) (D : List RowT) (Sh : List (I64 × Nat)) (K0 : List (KeyT × Unit)) (hB : Blk w p [.map (some pb), .map (some tb), .map (some sb)]) (hG : GM keyV placeV w pb D) (hS : GM i64V mapV w sb Sh) (s : I64) (hs : aget Sh s = some m) (hM : GM keyV unitV w m K0)
    (hKD : ∀ k, (aget K0 k).isSome = true ↔ ∃ v, aget D k = some v ∧ v.shelf = s.1) (hlen : D.length ≤ 2^20) :
    Calls Try.prog 23 #[.pointer (some ⟨p, 0, none⟩), .int .i64 s.1] w fun e w' => ∃ L, ShelfOf D s.1 L ∧ RetRows w L e w' := by
  have c2 := hB.cell (i := 2) rfl
  have HS := Lib.hid hS
  have HM := Lib.hid hM
  have HG := Lib.hid hG
  have HBk := Lib.hid hB
  have Hv : Hid (((aget Sh s).map mapV).getD (.map none) = .map (some m)) := by unfold Hid; rw [hs]; rfl
  have Hnd := Lib.hid (GM.nodupK hG)
  have Hnk : Hid ((K0.map (·.1)).Nodup) := GM.nodup (P := Try.prog) keysKey hM
  have HKD := Lib.hid hKD
  have hKl : K0.length ≤ 2^20 := Nat.le_trans (keys_le Hnk.out hKD Hnd.out) hlen
  have hml := hM.lt
  have hpbl := hG.lt
  have hppl := hB.lt
  obtain ⟨zk, hzk, hzk2⟩ := zero_key
  obtain ⟨zr, hzr, hzr2⟩ := zero_row
  have Hzk := Lib.hid hzk2
  have Hzr := Lib.hid hzr2
  have Hzp : Hid (∀ w, (zeroValue 33).run Try.prog w = .ok (.agg #[.int .i64 0, .int .i64 0]) w) := fun w => Try.zeroValue33 w
  clear hB hS hs hG hM hKD hzk2 hzr2
  go_enter Try.func23, Try.ntmps23
  go_wp2_with (first | (refine wpList_plain rfl (fun K hK => ?_); refine Go.XR.wp_gm_lookup (.tmp 12) (.tmp 13) 82 rfl keysI64 Try.underlying82 (.map none) (fun w => Try.zeroValue89 w) s _ rfl rfl HS.out Hv.out ?_; refine hK _ _ ?_; clear hK K) | (refine wpList_gm_range rfl (.tmp 14) 89 rfl Try.underlying89 rfl HM.out (fun w1 hgr hb1 hsz => Go.XR.stop (fun X hX => ?_))))
  refine hX.out ?_
  clear hX X
  have HGR1 := Lib.hid hgr
  have Hb1 := Lib.hid hb1
  clear hgr hb1
  obtain ⟨ib, hib⟩ : ∃ ib, w.heap.size = ib := ⟨_, rfl⟩
  have Hib := Lib.hid hib
  rw [hib] at HGR1 hml hpbl hppl hsz ⊢
  clear hib c2
  go_wp2
  go_frame
  go_loopg [5] K0.length (fun n out wr => ∃ (L : List RowT) (left : List (KeyT × Unit)) (a : Option Addr) (c : Nat), out = .slice a L.length c ∧ Hid (n = left.length ∧ Below ib w wr ∧ GR keyV unitV wr m ib K0 left ∧ (L.map (·.1) ++ left.map (·.1)).Perm (K0.map (·.1)) ∧ (∀ r ∈ L, aget D r.1 = some r.2) ∧ w1.heap.size ≤ wr.heap.size ∧ wr.ownsRow w1.heap.size 35 35 (.slice a L.length c) L.length (L.flatMap rowL)))
  case atStart => exact ⟨[], K0, none, 0, rfl, rfl, by have := Hb1.out; rwa [Hib.out] at this, HGR1.out, List.Perm.refl _, (fun r hr => by cases hr), Nat.le_refl _, rfl, .inl ⟨rfl, rfl⟩⟩
  case round =>
    obtain ⟨L, left, a, c, rfl, hr⟩ := hrel
    have hgn := hr.out.1
    have Hb := Lib.hid hr.out.2.1
    have HGR := Lib.hid hr.out.2.2.1
    have HP := Lib.hid hr.out.2.2.2.1
    have HV := Lib.hid hr.out.2.2.2.2.1
    have hsz1 := hr.out.2.2.2.2.2.1
    have HO := Lib.hid hr.out.2.2.2.2.2.2
    have hLl : L.length ≤ 2^20 := by have := HP.out.length_eq; rw [List.length_append, List.length_map, List.length_map, List.length_map] at this; omega
    clear hr
    go_wp2_with (refine wpList_gr_next rfl (.tmp 15) rfl keysKey ib left rfl HGR.out (fun hdone => Go.XR.stop (fun X hX => ?_)) (fun k v w2 hm hgr2 hgb hsz2 hen => Go.XR.stop (fun X hX => ?_)))
    · refine hX.out ?_
      clear hX X
      have HP2 : Hid ((L.map (·.1)).Perm (K0.map (·.1))) := by have := HP.out; rwa [hdone, List.map_nil, List.append_nil] at this
      have HP3 : Hid (L.Perm (D.filter (onS s.1))) := shelf_perm s.1 Hnd.out Hnk.out HKD.out HP2.out HV.out
      clear hdone HGR HP
      have HndL : Hid ((L.map (·.1)).Nodup) := HP2.out.nodup_iff.2 Hnk.out
      cases a with
      | none =>
        obtain ⟨hL0, hc0⟩ := owns_nil HO.out
        obtain rfl := List.eq_nil_of_length_eq_zero hL0
        clear hL0
        subst hc0
        go_wp2_with fail
        refine (sort_none wr none 0 _).mono ?_
        rintro e w3 ⟨rfl, rfl⟩
        go_wp2
        go_ret
        exact ⟨[], ⟨HP3.out, List.Pairwise.nil⟩, none, 0, rfl, .inl rfl, (fun x hx => by cases hx), by rw [Hib.out]; exact Hb.out⟩
      | some a =>
        obtain ⟨g, rfl⟩ : ∃ g, a = ⟨g, 0, none⟩ := by
          rcases HO.out.2 with ⟨h1, _⟩ | ⟨g', cap, cur, h1, _⟩
          · cases h1
          · injection h1 with h5; injection h5 with h6; exact ⟨g', h6⟩
        obtain ⟨rest, hblk, hg⟩ := own_blk HO.out
        have Hblk := Lib.hid hblk
        clear hblk
        go_wp2_with fail
        refine (sortS_any wr g c L rest Hblk.out (by omega)).mono ?_
        rintro e w3 ⟨rfl, L', hp, hs, hrow, hbut⟩
        have hnd' : (L'.map (·.1)).Nodup := (hp.map (fun r : RowT => r.1)).nodup_iff.2 HndL.out
        have hll := hp.length_eq
        have Hend : Hid (∃ M, ShelfOf D s.1 M ∧ RetRows w M (.returned (.slice (some ⟨g, 0, none⟩) L.length c)) w3) := by
          refine ⟨L', ⟨hp.trans HP3.out, strict_of (·.1) cfS cfS_swap (fun x y h => ((cfS_zero x y).1 h).2) hnd' hs⟩, some ⟨g, 0, none⟩, c, by rw [hll], hrow, fun x hx => ?_, ?_⟩
          · injection hx with hx; subst hx; rw [Hib.out]; show ib ≤ g; omega
          · rw [Hib.out]
            exact Hb.out.trans (hbut.below (by omega) (by intro i hi; rw [List.mem_singleton] at hi; subst hi; omega))
        clear hp hs hrow hbut hnd' hll
        go_wp2
        go_ret
        exact Hend.out
    · refine hX.out ?_
      clear hX X
      have Hen := Lib.hid hen
      have HGR2 := Lib.hid hgr2
      have Hb2 : Hid (Below ib w w2) := Hb.out.grown hgb (by omega) (fun k hk => by cases hk; exact Nat.le_refl _)
      have HO2 : Hid (w2.ownsRow w1.heap.size 35 35 (.slice a L.length c) L.length (L.flatMap rowL)) := HO.out.kept hgb (by
        cases ha : a with
        | none => exact .inl rfl
        | some x =>
          right
          intro e
          have e1 : x.block = ib := by simpa [Value.ownBlock] using e
          obtain ⟨h1, _⟩ := HO.out.lt x.block (by rw [ha]; rfl)
          omega)
      have hperm := adel_perm (HGR.out.sub.map (·.1) |>.nodup Hnk.out) hm
      have Hmeas : Hid ((adel left k).length < left.length) := by
        have := hperm.length_eq; rw [List.length_cons] at this; unfold Hid; omega
      obtain ⟨pv, hpv, _⟩ : ∃ v, aget D k = some v ∧ v.shelf = s.1 := (HKD.out k).1 (by
        have : (k, v) ∈ K0 := HGR.out.sub.subset hm
        rw [(aget_mem Hnk.out).2 this]; rfl)
      have Hpv : Hid (((aget D k).map placeV).getD (.agg #[.int .i64 0, .int .i64 0]) = placeV pv) := by unfold Hid; rw [hpv]; rfl
      have HPn : Hid (((L ++ [(k, pv)]).map (·.1) ++ (adel left k).map (·.1)).Perm (K0.map (·.1))) := by
        refine List.Perm.trans ?_ HP.out
        rw [List.map_append, List.append_assoc]
        exact List.Perm.append_left _ (hperm.map (fun q : KeyT × Unit => q.1)).symm
      have HVn : Hid (∀ r ∈ L ++ [(k, pv)], aget D r.1 = some r.2) := fun r hr => by
        rcases List.mem_append.1 hr with h | h
        · exact HV.out r h
        · rw [List.mem_singleton] at h; subst h; exact hpv
      have hsz3 : w1.heap.size ≤ w2.heap.size := by omega
      have hiw : ib ≤ w1.heap.size := by omega
      have hmw : m < w1.heap.size := by omega
      have hgn2 := Lib.hid hgn
      clear hen hgr2 hm hperm hgb HGR HO Hb hsz2 hgn hpv
      go_wp2_with (first | (refine wpList_entry rfl (.tmp 15) rfl ib rfl _ Hen.out ?_) | (refine wpList_alloc_new rfl 27 rfl zk (Hzk.out _) ?_) | (refine opIs (X := .store 27 (.tmp 6) (.tmp 19)) rfl ?_; refine wpList_store_new rfl 27 (.tmp 6) (.tmp 19) rfl zk (keyC k) 27 rfl rfl (by rw [hzk, keyC_size]) (one_keyC k) (keySize k) ?_) | fail)
      have hbA : Below w1.heap.size w2 (w2.alloc (.cells (keyC k) 27)).drew := ((Below.refl _ _).alloc hsz3 _).drew
      have hkA : At (w2.alloc (.cells (keyC k) 27)).drew w2.heap.size 0 (keyC k) := At.drew (At.new _ _ _)
      obtain ⟨kb, hkb⟩ : ∃ kb, w2.heap.size = kb := ⟨_, rfl⟩
      rw [hkb] at hkA ⊢
      have HO3 : Hid ((w2.alloc (.cells (keyC k) 27)).drew.ownsRow w1.heap.size 35 35 (.slice a L.length c) L.length (L.flatMap rowL)) := (HO2.out.alloc _).drew
      have hsd : (w2.alloc (.cells (keyC k) 27)).drew.heap.size = w2.heap.size + 1 := by show (w2.alloc _).heap.size = _; simp
      have hwr : ∃ W3, (w2.alloc (.cells (keyC k) 27)) = W3 := ⟨_, rfl⟩
      obtain ⟨W3, hW3⟩ := hwr
      rw [hW3] at hbA hkA HO3 hsd ⊢
      clear hW3
      have hsz4 : w1.heap.size ≤ W3.drew.heap.size := by omega
      have hsz5 : w1.heap.size ≤ W3.heap.size := hsz4
      have HbA := Lib.hid hbA
      have HbI : Hid (Below ib w W3.drew) := Hb2.out.trans (hbA.mono hiw)
      have HGd : Hid (GM keyV placeV W3.drew pb D) := HG.out.block (HbI.out.block pb hpbl)
      have HShR : Hid (ShR p pb kb k W3.drew) := ⟨HbI.out.cell (p := ⟨p, 0, none⟩) hppl |>.trans (HBk.out.cell (i := 0) rfl), hkA⟩
      have hkl : kb < W3.drew.heap.size := by omega
      have hplt : p < W3.drew.heap.size := by omega
      clear hbA hkA hsd hkb
      refine Go.XR.region_sched ((ShR p pb kb k)) [(0, true), (1, true), (2, true), (3, true), (4, true), (5, true), (6, true), (7, false), (8, true), (9, false), (10, false), (11, false)] [10, 11] Try.mixed (by kernel_rfl) (by kernel_rfl) (by kernel_rfl) ?_
      simp only [List.map_cons, List.map_nil, List.getElem?_cons_succ, List.getElem?_cons_zero]
      repeat (first | (refine Go.XR.S_light rfl rfl HShR.out ?_ (fun w' hS K hK => ?_) (fun K hK => ?_); rotate_left 1; (have s0 := hS.c0; (first | (first | (refine Go.XR.wp_load_at 27 (.tmp 6) rfl kb 0 rfl (keyC k) hS.key _ Try.underlying27 rfl (keySize k) ?_) | (refine wp_build_row (.tmp 21) (.tmp 27) rfl k pv rfl rfl ?_)) | go_step); exact hK); go_step; refine hK _ ?_; clear hK K))
      refine Go.XR.S_heavy (fun K hK => ?_)
      refine Go.XR.wp_gm_lookup _ _ 80 rfl keysKey Try.underlying80 (.agg #[.int .i64 0, .int .i64 0]) Hzp.out k _ rfl rfl HGd.out Hpv.out ?_
      refine hK _ _ ⟨fun _ => HShR.out, ?_⟩
      clear hK K
      repeat (first | (refine Go.XR.S_light rfl rfl HShR.out ?_ (fun w' hS K hK => ?_) (fun K hK => ?_); rotate_left 1; (have s0 := hS.c0; (first | (first | (refine Go.XR.wp_load_at 27 (.tmp 6) rfl kb 0 rfl (keyC k) hS.key _ Try.underlying27 rfl (keySize k) ?_) | (refine wp_build_row (.tmp 21) (.tmp 27) rfl k pv rfl rfl ?_)) | go_step); exact hK); go_step; refine hK _ ?_; clear hK K))
      refine Go.XR.S_heavy (fun K hK => ?_)
      refine wp_build_one 46 (.tmp 28) rfl 35 35 Try.underlying46 (by kernel_rfl) (by omega) (by omega) _ (Hzr.out _) (rowC (k, pv)) rfl (rowC_size _) ?_
      refine hK _ _ ⟨fun _ => ⟨by rw [World.cell?_alloc_old _ _ _ (Nat.ne_of_lt hplt)]; exact HShR.out.c0, HShR.out.key.alloc _⟩, ?_⟩
      clear hK K
      refine Go.XR.S_heavy (fun K hK => ?_)
      refine append_enc (P := Try.prog) rowL 35 56 rowL_length one_rowL 35 Try.underlying46 (by kernel_rfl) (by decide) w1.heap.size a c L rfl (HO3.out.alloc _) (some ⟨W3.drew.heap.size, 0, none⟩) 1 [(k, pv)] rfl (by rw [List.flatMap_cons, List.flatMap_nil, List.append_nil]; exact Row.new _ _ _) (fun e => by cases e) (by simp; omega) (by unfold maxLen; simp; omega) (by simp; omega) ?_
      intro a3 c3 w3 ho3 hb3 _ hg3
      have Ho3 := Lib.hid ho3
      have hbw : Below w1.heap.size w2 w3 := HbA.out.trans (((Below.refl _ _).alloc hsz4 _).trans hb3)
      have Hbw := Lib.hid hbw
      clear ho3 hb3 hg3 hbw
      obtain ⟨L3, hL3⟩ : ∃ L3, L ++ [(k, pv)] = L3 := ⟨_, rfl⟩
      rw [hL3] at HPn HVn Ho3 ⊢
      clear hL3
      go_step
      refine hK _ _ ⟨fun h => by simp at h, ?_⟩
      clear hK K
      repeat (first | (refine Go.XR.S_heavy (fun K hK => ?_); go_step; refine hK _ _ ⟨fun h => by simp at h, ?_⟩; clear hK K))
      refine Go.XR.S_nil ?_
      go_wp2
      go_roundg (adel left k).length
      case measure => have := hgn2.out; have := Hmeas.out; omega
      case rel => exact ⟨L3, adel left k, a3, c3, rfl, rfl, Hb2.out.trans (Hbw.out.mono hiw), HGR2.out.block (Hbw.out.block m hmw) (Hbw.out.block ib (by omega)), HPn.out, HVn.out, Nat.le_trans hsz3 Hbw.out.size, Ho3.out⟩
end Go.Proofs.Ytnfbchhbcinloaa
