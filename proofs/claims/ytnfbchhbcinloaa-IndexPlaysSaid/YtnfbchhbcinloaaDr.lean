/- The walk over Drop. -/
import Derived.Test.YtnfbchhbcinloaaSt
namespace Go.Proofs.Ytnfbchhbcinloaa
open Go.RowKit Go.XR Go.IndexPure
set_option maxHeartbeats 1000000 in
set_option maxRecDepth 100000 in
theorem drop_none (w : World) (F : List Nat) (p : Nat) (D : List (KeyT × PlaceT)) (hI : Ix w F p D) (k : KeyT) (hk : aget D k = none) :
    Calls Try.prog 15 #[.pointer (some ⟨p, 0, none⟩), keyV k] w (RetDrop w F p D k) := by
  obtain ⟨pb, tb, sb, T, Sh, L, hC, hCo⟩ := hI
  obtain ⟨W0, hW0⟩ : ∃ W0, w.alloc (.cells (keyC k) 27) = W0 := ⟨_, rfl⟩
  have hb0 : Below w.heap.size w W0 := by rw [← hW0]; exact (Below.refl _ _).alloc (Nat.le_refl _) _
  have HK : Hid (At W0 w.heap.size 0 (keyC k)) := by unfold Hid; rw [← hW0]; exact At.new _ _ _
  have HC := Lib.hid (hC.below hb0)
  have Hb0 := Lib.hid hb0
  clear hC hb0
  obtain ⟨kb, hkb⟩ : ∃ kb, w.heap.size = kb := ⟨_, rfl⟩
  have Hkb := Lib.hid hkb
  rw [hkb] at HK
  go_enter Try.func15, Try.ntmps15
  go_wp2_with (first | (refine wpList_load_at rfl 27 _ rfl kb 0 rfl (keyC k) HK.out _ Try.underlying27 rfl (keySize k) ?_) | fail)
  refine (get_any W0 p pb tb sb D HC.out.blk HC.out.places k).mono ?_
  rintro e w1 ⟨rfl, hb1⟩
  rw [hk]
  have Hb1 := Lib.hid hb1
  clear hb1 hkb
  generalize (none : Option PlaceT).getD place0 = v0
  go_wp2_with (refine wpList_store_new rfl 33 _ _ rfl _ (placeC v0) _ rfl rfl rfl (one_placeL v0) (placeSize v0) ?_)
  go_ret
  have hb2 : Below W0.heap.size W0 (w1.alloc (.cells (placeC v0) 33)) := Hb1.out.alloc Hb1.out.size _
  exact ⟨by rw [hk]; rfl, F, ⟨pb, tb, sb, T, Sh, L, by rw [adel_none _ hk]; exact HC.out.below hb2, by rw [adel_none _ hk]; exact hCo⟩, But.of_below (Hb0.out.trans (hb2.mono Hb0.out.size)), Grew.refl _ _⟩
theorem mapV_val (Sh : List (I64 × Nat)) (s : I64) (m : Nat) (h : aget Sh s = some m) : ((aget Sh s).map mapV).getD (.map none) = .map (some m) := by rw [h]; rfl
theorem numV_val (T : List (SumT × NumRow)) (d : SumT) (r : NumRow) (h : aget T d = some r) : ((aget T d).map numV).getD (.slice none 0 0) = .slice r.a r.l.length r.c := by rw [h]; rfl
set_option maxHeartbeats 4000000 in
set_option maxRecDepth 100000 in
theorem drop_some (w : World) (F : List Nat) (p : Nat) (D : List (KeyT × PlaceT)) (hI : Ix w F p D) (hlen : D.length ≤ 2^20) (k : KeyT) (v : PlaceT) (hk : aget D k = some v) :
    Calls Try.prog 15 #[.pointer (some ⟨p, 0, none⟩), keyV k] w (RetDrop w F p D k) := by
  obtain ⟨pb, tb, sb, T, Sh, L, hC, hCo⟩ := hI
  obtain ⟨r, hr⟩ : ∃ r, aget T k.sum = some r := by
    have := (hCo.mem k.sum k.n).2 (by rw [key_eta, hk]; rfl)
    cases h : aget T k.sum with
    | some r => exact ⟨r, rfl⟩
    | none => rw [numsOf_eq, h] at this; cases this
  have hrl : numsOf T k.sum = r.l := by rw [numsOf_eq, hr]; rfl
  have hmem : k.n ∈ r.l := by rw [← hrl, hCo.mem, key_eta, hk]; rfl
  have hsorted := hCo.sorted k.sum
  rw [hrl] at hsorted
  have hll : r.l.length ≤ 2^20 := by have := hCo.nums_le k.sum; rw [hrl] at this; omega
  obtain ⟨s, hs⟩ : ∃ s : I64, v.shelf = s.1 := ⟨⟨v.shelf, (hCo.rng k v hk).1⟩, rfl⟩
  obtain ⟨m, hm, hkm⟩ := (hCo.sh s k).2 ⟨v, hk, hs⟩
  obtain ⟨ra, rc, rl⟩ := r
  obtain ⟨g, rfl⟩ : ∃ g, ra = some ⟨g, 0, none⟩ := by
    rcases (hC.row _ _ hr).1.2 with ⟨h1, h2⟩ | ⟨g, cap, cur, h1, _⟩
    · rw [List.eq_nil_of_length_eq_zero h2] at hmem; cases hmem
    · injection h1 with h5; exact ⟨g, h5⟩
  have hrc : rc ≤ 9223372036854775807 := by
    rcases (hC.row _ _ hr).1.2 with ⟨h1, h2⟩ | ⟨g, cap, cur, h1, _, _, _, h6, _⟩
    · cases h1
    · injection h1 with h5 h6' h7; subst h7; unfold maxLen at h6; omega
  have Hr := Lib.hid hr
  have Hmem := Lib.hid hmem
  have Hso := Lib.hid hsorted
  have Hs := Lib.hid hs
  have Hm := Lib.hid hm
  have HCo := Lib.hid hCo
  have Hk := Lib.hid hk
  clear hr hrl hmem hsorted hm hkm hCo hk hlen
  obtain ⟨W0, hW0⟩ : ∃ W0, w.alloc (.cells (keyC k) 27) = W0 := ⟨_, rfl⟩
  have hb0 : Below w.heap.size w W0 := by rw [← hW0]; exact (Below.refl _ _).alloc (Nat.le_refl _) _
  have HK : Hid (At W0 w.heap.size 0 (keyC k)) := by unfold Hid; rw [← hW0]; exact At.new _ _ _
  have HC0 := Lib.hid hC
  have HC := Lib.hid (hC.below hb0)
  have Hb0 := Lib.hid hb0
  clear hC hb0
  obtain ⟨kb, hkb⟩ : ∃ kb, w.heap.size = kb := ⟨_, rfl⟩
  have Hkb := Lib.hid hkb
  rw [hkb] at HK
  go_enter Try.func15, Try.ntmps15
  go_wp2_with (first | (refine wpList_load_at rfl 27 _ rfl kb 0 rfl (keyC k) HK.out _ Try.underlying27 rfl (keySize k) ?_) | fail)
  refine (get_any W0 p pb tb sb D HC.out.blk HC.out.places k).mono ?_
  rintro e w1 ⟨rfl, hb1⟩
  rw [Hk.out]
  rw [show (some v).getD place0 = v from rfl, show (some v).isSome = true from rfl]
  have Hb1 := Lib.hid hb1
  clear hb1 hkb
  obtain ⟨vb, hvb⟩ : ∃ vb, w1.heap.size = vb := ⟨_, rfl⟩
  obtain ⟨W1, hW1⟩ : ∃ W1, w1.alloc (.cells (placeC v) 33) = W1 := ⟨_, rfl⟩
  have HS : Hid (St w F kb k vb v W1 F p pb tb sb D T Sh L) := by
    have hb2 : Below W0.heap.size W0 W1 := by rw [← hW1]; exact Hb1.out.alloc Hb1.out.size _
    have hkl := HK.out.lt (by rw [keyC_size]; omega)
    refine ⟨HC.out.below hb2, HK.out.below (by rw [keyC_size]; omega) hb2, ?_, ⟨fun h => ?_, fun h => ?_⟩, But.of_below (Hb0.out.trans (hb2.mono Hb0.out.size)), Grew.refl _ _⟩
    · rw [← hW1, ← hvb]; exact Blk.new w1 (placeC v) _
    · have := HC0.out.fin _ h
      rw [Hkb.out] at this; omega
    · have := HC.out.fin _ h
      have h3 := Hb1.out.size
      omega
  have HvB := Lib.hid hvb
  have HW1 := Lib.hid hW1
  clear HK HC0 HC Hb0 Hb1 hvb hW1
  go_wp2_with (refine wpList_store_new rfl 33 _ _ rfl _ (placeC v) _ rfl rfl rfl (one_placeL v) (placeSize v) ?_)
  rw [HW1.out]
  rw [HvB.out]
  clear HW1 HvB hW0
  have c0 := HS.out.ix.blk.cell (i := 0) rfl
  have c1 := HS.out.ix.blk.cell (i := 1) rfl
  have c2 := HS.out.ix.blk.cell (i := 2) rfl
  have kn := HS.out.kn
  have vs := HS.out.vs
  rw [hs] at vs
  have HKa := Lib.hid HS.out.key
  refine Go.XR.region_sched ((· = W1.drew)) [(0, true), (1, true), (2, true), (3, true), (4, true), (5, false)] [5] Try.mixed (by kernel_rfl) (by kernel_rfl) (by kernel_rfl) ?_
  simp only [List.map_cons, List.map_nil, List.getElem?_cons_succ, List.getElem?_cons_zero]
  repeat (first | (refine Go.XR.S_light rfl rfl rfl ?_ (fun w' hS K hK => ?_) (fun K hK => ?_); rotate_left 1; (cases hS; (first | (first | (refine Go.XR.wp_load_at 27 _ rfl kb 0 rfl (keyC k) (At.drew HKa.out) _ Try.underlying27 rfl (keySize k) ?_) | (refine Go.XR.wp_load_at 24 _ rfl kb 0 rfl (sumC k.sum) (At.drew (key_at_sum HKa.out)) _ Try.underlying24 rfl (sumSize k.sum) ?_)) | go_step); exact hK); go_step; refine hK _ ?_; clear hK K))
  refine Go.XR.S_heavy (fun K hK => ?_)
  refine Go.XR.wp_gm_delete _ _ 80 rfl keysKey Try.underlying80 k rfl rfl (GM.block (w' := W1.drew) HS.out.ix.places rfl) ?_
  intro W2 hG2 hb2
  have HS2 := Lib.hid (HS.out.drew.step hb2 (by intro b hb; rw [List.mem_singleton] at hb; subst hb; exact .inl HS.out.ix.inF.2.1) (HS.out.drew.ix.places_to hb2 hG2) (Grew.refl _ _))
  refine hK _ _ ⟨fun h => by simp at h, ?_⟩
  clear hK K hG2 hb2
  clear c0 c1 c2 kn vs HKa
  clear HS
  have HS := HS2
  clear HS2
  have c0 := HS.out.ix.blk.cell (i := 0) rfl
  have c1 := HS.out.ix.blk.cell (i := 1) rfl
  have c2 := HS.out.ix.blk.cell (i := 2) rfl
  have kn := HS.out.kn
  have vs := HS.out.vs
  rw [hs] at vs
  have HKa := Lib.hid HS.out.key
  refine Go.XR.S_nil ?_
  go_wp2
  have Hv5 := Lib.hid (numV_val T k.sum _ Hr.out)
  refine Go.XR.region_sched ((· = W2.drew)) [(0, true), (1, true), (2, true), (3, true), (4, true), (5, true), (6, false), (7, false)] [6, 7] Try.mixed (by kernel_rfl) (by kernel_rfl) (by kernel_rfl) ?_
  simp only [List.map_cons, List.map_nil, List.getElem?_cons_succ, List.getElem?_cons_zero]
  repeat (first | (refine Go.XR.S_light rfl rfl rfl ?_ (fun w' hS K hK => ?_) (fun K hK => ?_); rotate_left 1; (cases hS; (first | (first | (refine Go.XR.wp_load_at 27 _ rfl kb 0 rfl (keyC k) (At.drew HKa.out) _ Try.underlying27 rfl (keySize k) ?_) | (refine Go.XR.wp_load_at 24 _ rfl kb 0 rfl (sumC k.sum) (At.drew (key_at_sum HKa.out)) _ Try.underlying24 rfl (sumSize k.sum) ?_)) | go_step); exact hK); go_step; refine hK _ ?_; clear hK K))
  refine Go.XR.S_heavy (fun K hK => ?_)
  refine Go.XR.wp_gm_lookup _ _ 81 rfl keysSum Try.underlying81 (.slice none 0 0) (fun w => Try.zeroValue85 w) k.sum _ rfl rfl (GM.block (w' := W2.drew) HS.out.ix.twins rfl) Hv5.out ?_
  refine hK _ _ ⟨fun _ => rfl, ?_⟩
  clear hK K
  repeat (first | (refine Go.XR.S_light rfl rfl rfl ?_ (fun w' hS K hK => ?_) (fun K hK => ?_); rotate_left 1; (cases hS; (first | (first | (refine Go.XR.wp_load_at 27 _ rfl kb 0 rfl (keyC k) (At.drew HKa.out) _ Try.underlying27 rfl (keySize k) ?_) | (refine Go.XR.wp_load_at 24 _ rfl kb 0 rfl (sumC k.sum) (At.drew (key_at_sum HKa.out)) _ Try.underlying24 rfl (sumSize k.sum) ?_)) | go_step); exact hK); go_step; refine hK _ ?_; clear hK K))
  refine Go.XR.S_heavy (fun K hK => ?_)
  go_step
  refine hK _ _ ⟨fun h => by simp at h, ?_⟩
  clear hK K Hv5
  refine Go.XR.S_nil ?_
  have HS2 := Lib.hid HS.out.drew
  clear HS
  clear c0 c1 c2 kn vs HKa
  generalize W2.drew = W3 at *
  have HS := HS2
  clear HS2
  have c0 := HS.out.ix.blk.cell (i := 0) rfl
  have c1 := HS.out.ix.blk.cell (i := 1) rfl
  have c2 := HS.out.ix.blk.cell (i := 2) rfl
  have kn := HS.out.kn
  have vs := HS.out.vs
  rw [hs] at vs
  have HKa := Lib.hid HS.out.key
  go_wp2_with fail
  refine (bsearch_any W3 (some ⟨g, 0, none⟩) rc rl (Row.owned (HS.out.ix.row _ _ Hr.out).1) (by omega) Hso.out k.n).mono ?_
  rintro e w4 ⟨⟨i, hlow, rfl⟩, hw4⟩
  rw [hw4]
  clear hw4 w4
  obtain ⟨hi, hni⟩ := low_at Hso.out hlow Hmem.out
  have Hni : Hid (∃ hi : i < rl.length, rl[i] = k.n) := ⟨hi, hni⟩
  clear hlow hni
  go_wp2
  obtain ⟨rl', hrl'⟩ : ∃ rl', rl.take i ++ rl.drop (i + 1) = rl' := ⟨_, rfl⟩
  have Hrl' := Lib.hid hrl'
  clear hrl'
  have HStd := Lib.hid HS.out.drew.std
  have hgF := ((HS.out.drew.ix.row _ _ Hr.out).2 _ rfl)
  refine Go.XR.region_sched ((Std p pb tb sb kb k vb v.shelf)) [(0, true), (1, true), (2, true), (3, true), (4, true), (5, true), (6, true), (7, true), (8, true), (9, true), (10, false), (11, false)] [11] Try.mixed (by kernel_rfl) (by kernel_rfl) (by kernel_rfl) ?_
  simp only [List.map_cons, List.map_nil, List.getElem?_cons_succ, List.getElem?_cons_zero]
  repeat (first | (refine Go.XR.S_light rfl rfl HStd.out ?_ (fun w' hS K hK => ?_) (fun K hK => ?_); rotate_left 1; (have s0 := hS.c1; (first | (refine Go.XR.wp_load_at 24 _ rfl kb 0 rfl (sumC k.sum) (key_at_sum hS.key) _ Try.underlying24 rfl (sumSize k.sum) ?_) | go_step); exact hK); go_step; refine hK _ ?_; clear hK K))
  refine Go.XR.S_heavy (fun K hK => ?_)
  go_step
  ((with_reducible refine (delete_any W3.drew 0 g rc rl (HS.out.drew.ix.row _ _ Hr.out).1 (by omega) hrc i hi).mono ?_); rintro e w4 ⟨rfl, ho4, hb4⟩)
  rw [Hrl'.out] at ho4 ⊢
  refine hK _ _ ⟨fun _ => HStd.out.but hb4 (fun h => hgF.2 (by rw [List.mem_singleton] at h; exact h.symm)) (fun h => HS.out.out.1 (by rw [List.mem_singleton] at h; rw [h]; exact hgF.1)) (fun h => HS.out.out.2 (by rw [List.mem_singleton] at h; rw [h]; exact hgF.1)), ?_⟩
  clear hK K
  refine Go.XR.S_heavy (fun K hK => ?_)
  refine wp_gm_update _ _ _ 81 rfl keysSum Try.underlying81 numV tb T k.sum ⟨some ⟨g, 0, none⟩, rc, rl'⟩ rfl rfl rfl (HS.out.drew.ix.twins.but hb4 (by have := (HS.out.drew.ix.row_ne Hr.out rfl).2.1; simpa using this)) ?_
  intro W5 hG5 hg5 _
  have HS2 : Hid (∃ F', St w F kb k vb v W5 F' p pb tb sb (adel D k) (aput T k.sum ⟨some ⟨g, 0, none⟩, rc, rl'⟩) Sh L) := by
    have h3 := HS.out.drew
    have hro : rowOf T k.sum = ⟨some ⟨g, 0, none⟩, rc, rl⟩ := by unfold rowOf; rw [Hr.out]; rfl
    obtain ⟨F', hix, hgr⟩ := h3.ix.row_to (d := k.sum) (r := ⟨some ⟨g, 0, none⟩, rc, rl'⟩) (w1 := w4) ⟨hb4.os, hb4.tape, hb4.output, hb4.size, fun b hb hne => hb4.block b hb (fun h => by rw [List.mem_singleton] at h; subst h; rw [hro] at hne; exact hne rfl)⟩ (.inl (by rw [hro])) ho4 (But.of_grown hg5) hG5
    refine ⟨F', h3.step (S := [g, tb]) ((hb4.mono (by simp)).trans ((But.of_grown hg5).mono (by simp))) (fun b hb => ?_) hix hgr⟩
    rcases List.mem_cons.1 hb with rfl | hb
    · exact .inl hgF.1
    · rw [List.mem_singleton] at hb; subst hb; exact .inl h3.ix.inF.2.2.1
  refine hK _ _ ⟨fun h => by simp at h, ?_⟩
  clear hK K hG5 hg5 ho4 hb4
  clear c0 c1 c2 kn vs HKa
  clear HS HStd hgF
  obtain ⟨F1, hS2⟩ := HS2
  have HS := Lib.hid hS2
  clear hS2
  have c0 := HS.out.ix.blk.cell (i := 0) rfl
  have c1 := HS.out.ix.blk.cell (i := 1) rfl
  have c2 := HS.out.ix.blk.cell (i := 2) rfl
  have kn := HS.out.kn
  have vs := HS.out.vs
  rw [hs] at vs
  have HKa := Lib.hid HS.out.key
  refine Go.XR.S_nil ?_
  go_wp2
  have hrl2 : rl'.length ≤ 2^20 := by
    have := congrArg List.length Hrl'.out
    rw [List.length_append, List.length_take, List.length_drop] at this
    omega
  have hrs : numV ⟨some ⟨g, 0, none⟩, rc, rl'⟩ = .slice (some ⟨g, 0, none⟩) rl'.length rc := rfl
  clear hrs
  by_cases hz : rl' = []
  · have hz0 : (rl'.length : Int) = 0 := by rw [hz]; rfl
    have Hz := Lib.hid hz
    clear hz
    have Hv8 := Lib.hid (numV_val (aput T k.sum ⟨some ⟨g, 0, none⟩, rc, rl'⟩) k.sum ⟨some ⟨g, 0, none⟩, rc, rl'⟩ (by rw [aget_put, if_pos rfl]))
    refine Go.XR.region_sched ((· = W5.drew)) [(0, true), (1, true), (2, true), (3, true), (4, true), (5, true), (6, false), (7, false), (8, false)] [6, 7, 8] Try.mixed (by kernel_rfl) (by kernel_rfl) (by kernel_rfl) ?_
    simp only [List.map_cons, List.map_nil, List.getElem?_cons_succ, List.getElem?_cons_zero]
    repeat (first | (refine Go.XR.S_light rfl rfl rfl ?_ (fun w' hS K hK => ?_) (fun K hK => ?_); rotate_left 1; (cases hS; (first | (first | (refine Go.XR.wp_load_at 27 _ rfl kb 0 rfl (keyC k) (At.drew HKa.out) _ Try.underlying27 rfl (keySize k) ?_) | (refine Go.XR.wp_load_at 24 _ rfl kb 0 rfl (sumC k.sum) (At.drew (key_at_sum HKa.out)) _ Try.underlying24 rfl (sumSize k.sum) ?_)) | go_step); exact hK); go_step; refine hK _ ?_; clear hK K))
    refine Go.XR.S_heavy (fun K hK => ?_)
    refine Go.XR.wp_gm_lookup _ _ 81 rfl keysSum Try.underlying81 (.slice none 0 0) (fun w => Try.zeroValue85 w) k.sum _ rfl rfl (GM.block (w' := W5.drew) HS.out.ix.twins rfl) Hv8.out ?_
    refine hK _ _ ⟨fun _ => rfl, ?_⟩
    clear hK K
    repeat (first | (refine Go.XR.S_light rfl rfl rfl ?_ (fun w' hS K hK => ?_) (fun K hK => ?_); rotate_left 1; (cases hS; (first | (first | (refine Go.XR.wp_load_at 27 _ rfl kb 0 rfl (keyC k) (At.drew HKa.out) _ Try.underlying27 rfl (keySize k) ?_) | (refine Go.XR.wp_load_at 24 _ rfl kb 0 rfl (sumC k.sum) (At.drew (key_at_sum HKa.out)) _ Try.underlying24 rfl (sumSize k.sum) ?_)) | go_step); exact hK); go_step; refine hK _ ?_; clear hK K))
    repeat (first | (refine Go.XR.S_heavy (fun K hK => ?_); go_step; refine hK _ _ ⟨fun h => by simp at h, ?_⟩; clear hK K))
    refine Go.XR.S_nil ?_
    have HS2 := Lib.hid HS.out.drew
    clear HS Hv8
    clear c0 c1 c2 kn vs HKa
    generalize W5.drew = W5 at *
    have HS := HS2
    clear HS2
    have c0 := HS.out.ix.blk.cell (i := 0) rfl
    have c1 := HS.out.ix.blk.cell (i := 1) rfl
    have c2 := HS.out.ix.blk.cell (i := 2) rfl
    have kn := HS.out.kn
    have vs := HS.out.vs
    rw [hs] at vs
    have HKa := Lib.hid HS.out.key
    go_wp2
    refine Go.XR.region_sched ((· = W5.drew)) [(0, true), (1, true), (2, true), (3, true), (4, true), (5, true), (6, false)] [6] Try.mixed (by kernel_rfl) (by kernel_rfl) (by kernel_rfl) ?_
    simp only [List.map_cons, List.map_nil, List.getElem?_cons_succ, List.getElem?_cons_zero]
    repeat (first | (refine Go.XR.S_light rfl rfl rfl ?_ (fun w' hS K hK => ?_) (fun K hK => ?_); rotate_left 1; (cases hS; (first | (first | (refine Go.XR.wp_load_at 27 _ rfl kb 0 rfl (keyC k) (At.drew HKa.out) _ Try.underlying27 rfl (keySize k) ?_) | (refine Go.XR.wp_load_at 24 _ rfl kb 0 rfl (sumC k.sum) (At.drew (key_at_sum HKa.out)) _ Try.underlying24 rfl (sumSize k.sum) ?_)) | go_step); exact hK); go_step; refine hK _ ?_; clear hK K))
    refine Go.XR.S_heavy (fun K hK => ?_)
    refine Go.XR.wp_gm_delete _ _ 81 rfl keysSum Try.underlying81 k.sum rfl rfl (GM.block (w' := W5.drew) HS.out.ix.twins rfl) ?_
    intro W6 hG6 hb6
    obtain ⟨T', hT'⟩ : ∃ T', adel (aput T k.sum ⟨some ⟨g, 0, none⟩, rc, rl'⟩) k.sum = T' := ⟨_, rfl⟩
    have HT : Hid (∀ d, aget T' d = if d = k.sum then (if rl' = [] then none else some (⟨some ⟨g, 0, none⟩, rc, rl'⟩ : NumRow)) else aget T d) := fun d => by
      rw [← hT', aget_del, aget_put]
      by_cases e : d = k.sum
      · rw [if_pos e, if_pos e, if_pos Hz.out]
      · rw [if_neg e, if_neg e, if_neg e]
    rw [hT'] at hG6
    have HS2 := Lib.hid (HS.out.drew.step hb6 (by intro b hb; rw [List.mem_singleton] at hb; subst hb; exact .inl HS.out.ix.inF.2.2.1) (HS.out.drew.ix.twins_less hb6 hG6 (fun d r hr => by
      rw [← hT', aget_del] at hr
      split at hr
      · cases hr
      · exact hr)) (Grew.refl _ _))
    refine hK _ _ ⟨fun h => by simp at h, ?_⟩
    clear hK K hG6 hb6 hT'
    clear c0 c1 c2 kn vs HKa
    clear HS
    have HS := HS2
    clear HS2
    refine Go.XR.S_nil ?_
    have c0 := HS.out.ix.blk.cell (i := 0) rfl
    have c1 := HS.out.ix.blk.cell (i := 1) rfl
    have c2 := HS.out.ix.blk.cell (i := 2) rfl
    have kn := HS.out.kn
    have vs := HS.out.vs
    rw [hs] at vs
    have HKa := Lib.hid HS.out.key
    go_wp2
    have Hv10 := Lib.hid (mapV_val Sh s m Hm.out)
    refine Go.XR.region_sched ((· = W6.drew)) [(0, true), (1, true), (2, true), (3, true), (4, true), (5, true), (7, true), (6, false), (8, false)] [8] Try.mixed (by kernel_rfl) (by kernel_rfl) (by kernel_rfl) ?_
    simp only [List.map_cons, List.map_nil, List.getElem?_cons_succ, List.getElem?_cons_zero]
    repeat (first | (refine Go.XR.S_light rfl rfl rfl ?_ (fun w' hS K hK => ?_) (fun K hK => ?_); rotate_left 1; (cases hS; (first | (first | (refine Go.XR.wp_load_at 27 _ rfl kb 0 rfl (keyC k) (At.drew HKa.out) _ Try.underlying27 rfl (keySize k) ?_) | (refine Go.XR.wp_load_at 24 _ rfl kb 0 rfl (sumC k.sum) (At.drew (key_at_sum HKa.out)) _ Try.underlying24 rfl (sumSize k.sum) ?_)) | go_step); exact hK); go_step; refine hK _ ?_; clear hK K))
    refine Go.XR.S_heavy (fun K hK => ?_)
    refine Go.XR.wp_gm_lookup _ _ 82 rfl keysI64 Try.underlying82 (.map none) (fun w => Try.zeroValue89 w) s _ rfl rfl (GM.block (w' := W6.drew) HS.out.ix.shelves rfl) Hv10.out ?_
    refine hK _ _ ⟨fun _ => rfl, ?_⟩
    clear hK K
    repeat (first | (refine Go.XR.S_light rfl rfl rfl ?_ (fun w' hS K hK => ?_) (fun K hK => ?_); rotate_left 1; (cases hS; (first | (first | (refine Go.XR.wp_load_at 27 _ rfl kb 0 rfl (keyC k) (At.drew HKa.out) _ Try.underlying27 rfl (keySize k) ?_) | (refine Go.XR.wp_load_at 24 _ rfl kb 0 rfl (sumC k.sum) (At.drew (key_at_sum HKa.out)) _ Try.underlying24 rfl (sumSize k.sum) ?_)) | go_step); exact hK); go_step; refine hK _ ?_; clear hK K))
    refine Go.XR.S_heavy (fun K hK => ?_)
    refine Go.XR.wp_gm_delete _ _ 89 rfl keysKey Try.underlying89 k rfl rfl (GM.block (w' := W6.drew) (HS.out.ix.shelf s m Hm.out).2.1 rfl) ?_
    intro W7 hG7 hb7
    have HS2 := Lib.hid (HS.out.drew.step hb7 (by intro b hb; rw [List.mem_singleton] at hb; subst hb; exact .inl (HS.out.ix.shelf s _ Hm.out).1) (HS.out.drew.ix.shelf_to Hm.out hb7 hG7) (Grew.refl _ _))
    refine hK _ _ ⟨fun h => by simp at h, ?_⟩
    clear hK K hG7 hb7
    clear c0 c1 c2 kn vs HKa
    clear HS
    have HS := HS2
    clear HS2
    refine Go.XR.S_nil ?_
    have c0 := HS.out.ix.blk.cell (i := 0) rfl
    have c1 := HS.out.ix.blk.cell (i := 1) rfl
    have c2 := HS.out.ix.blk.cell (i := 2) rfl
    have kn := HS.out.kn
    have vs := HS.out.vs
    rw [hs] at vs
    have HKa := Lib.hid HS.out.key
    go_wp2
    have HL7 : Hid (GM keyV unitV W7.drew m (adel (L m) k)) := by
      have := (HS.out.drew.ix.shelf s m Hm.out).2.1
      rw [if_pos rfl] at this
      exact this
    by_cases hq : adel (L m) k = []
    · have hq0 : ((adel (L m) k).length : Int) = 0 := by rw [hq]; rfl
      have Hq := Lib.hid hq
      clear hq
      have Hv11 := Lib.hid (mapV_val Sh s m Hm.out)
      refine Go.XR.region_sched ((· = W7.drew)) [(0, true), (1, true), (2, true), (3, true), (4, true), (5, true), (6, false), (7, false), (8, false)] [6, 7, 8] Try.mixed (by kernel_rfl) (by kernel_rfl) (by kernel_rfl) ?_
      simp only [List.map_cons, List.map_nil, List.getElem?_cons_succ, List.getElem?_cons_zero]
      repeat (first | (refine Go.XR.S_light rfl rfl rfl ?_ (fun w' hS K hK => ?_) (fun K hK => ?_); rotate_left 1; (cases hS; (first | (first | (refine Go.XR.wp_load_at 27 _ rfl kb 0 rfl (keyC k) (At.drew HKa.out) _ Try.underlying27 rfl (keySize k) ?_) | (refine Go.XR.wp_load_at 24 _ rfl kb 0 rfl (sumC k.sum) (At.drew (key_at_sum HKa.out)) _ Try.underlying24 rfl (sumSize k.sum) ?_)) | go_step); exact hK); go_step; refine hK _ ?_; clear hK K))
      refine Go.XR.S_heavy (fun K hK => ?_)
      refine Go.XR.wp_gm_lookup _ _ 82 rfl keysI64 Try.underlying82 (.map none) (fun w => Try.zeroValue89 w) s _ rfl rfl (GM.block (w' := W7.drew) HS.out.ix.shelves rfl) Hv11.out ?_
      refine hK _ _ ⟨fun _ => rfl, ?_⟩
      clear hK K
      repeat (first | (refine Go.XR.S_light rfl rfl rfl ?_ (fun w' hS K hK => ?_) (fun K hK => ?_); rotate_left 1; (cases hS; (first | (first | (refine Go.XR.wp_load_at 27 _ rfl kb 0 rfl (keyC k) (At.drew HKa.out) _ Try.underlying27 rfl (keySize k) ?_) | (refine Go.XR.wp_load_at 24 _ rfl kb 0 rfl (sumC k.sum) (At.drew (key_at_sum HKa.out)) _ Try.underlying24 rfl (sumSize k.sum) ?_)) | go_step); exact hK); go_step; refine hK _ ?_; clear hK K))
      refine Go.XR.S_heavy (fun K hK => ?_)
      refine Go.XR.wp_gm_len _ 89 rfl Try.underlying89 rfl HL7.out ?_
      refine hK _ _ ⟨fun h => by simp at h, ?_⟩
      clear hK K
      repeat (first | (refine Go.XR.S_heavy (fun K hK => ?_); go_step; refine hK _ _ ⟨fun h => by simp at h, ?_⟩; clear hK K))
      refine Go.XR.S_nil ?_
      have HS2 := Lib.hid HS.out.drew
      clear HS Hv11 HL7
      clear c0 c1 c2 kn vs HKa
      generalize W7.drew = W7 at *
      have HS := HS2
      clear HS2
      have c0 := HS.out.ix.blk.cell (i := 0) rfl
      have c1 := HS.out.ix.blk.cell (i := 1) rfl
      have c2 := HS.out.ix.blk.cell (i := 2) rfl
      have kn := HS.out.kn
      have vs := HS.out.vs
      rw [hs] at vs
      have HKa := Lib.hid HS.out.key
      go_wp2
      refine Go.XR.region_sched ((· = W7.drew)) [(0, true), (1, true), (2, true), (3, true), (4, true), (5, true), (6, false)] [6] Try.mixed (by kernel_rfl) (by kernel_rfl) (by kernel_rfl) ?_
      simp only [List.map_cons, List.map_nil, List.getElem?_cons_succ, List.getElem?_cons_zero]
      repeat (first | (refine Go.XR.S_light rfl rfl rfl ?_ (fun w' hS K hK => ?_) (fun K hK => ?_); rotate_left 1; (cases hS; (first | (first | (refine Go.XR.wp_load_at 27 _ rfl kb 0 rfl (keyC k) (At.drew HKa.out) _ Try.underlying27 rfl (keySize k) ?_) | (refine Go.XR.wp_load_at 24 _ rfl kb 0 rfl (sumC k.sum) (At.drew (key_at_sum HKa.out)) _ Try.underlying24 rfl (sumSize k.sum) ?_)) | go_step); exact hK); go_step; refine hK _ ?_; clear hK K))
      refine Go.XR.S_heavy (fun K hK => ?_)
      refine Go.XR.wp_gm_delete _ _ 82 rfl keysI64 Try.underlying82 s rfl rfl (GM.block (w' := W7.drew) HS.out.ix.shelves rfl) ?_
      intro W8 hG8 hb8
      have HS2 := Lib.hid (HS.out.drew.step hb8 (by intro b hb; rw [List.mem_singleton] at hb; subst hb; exact .inl HS.out.ix.inF.2.2.2) (HS.out.drew.ix.shelves_to hb8 hG8 (fun t n hn => by
        rw [aget_del] at hn
        split at hn
        · cases hn
        · exact hn)) (Grew.refl _ _))
      refine hK _ _ ⟨fun h => by simp at h, ?_⟩
      clear hK K hG8 hb8
      clear c0 c1 c2 kn vs HKa
      refine Go.XR.S_nil ?_
      go_wp2
      go_ret
      obtain ⟨hi', hni'⟩ := Hni.out
      refine ⟨by rw [Hk.out]; rfl, F1, ⟨pb, tb, sb, T', _, _, HS2.out.ix, HCo.out.drop HS.out.ix.shelfApart Hk.out Hs.out Hm.out Hr.out hi' hni' (r' := ⟨some ⟨g, 0, none⟩, rc, rl'⟩) Hrl'.out.symm HT.out (fun t => ?_)⟩, HS2.out.but, HS2.out.grew⟩
      rw [aget_del]
      by_cases e : t = s
      · rw [if_pos e, if_pos ⟨e, Hq.out⟩]
      · rw [if_neg e, if_neg (fun h => e h.1)]
    · have hq0 : ¬ ((adel (L m) k).length : Int) = 0 := by
        have := List.length_pos_iff.2 hq
        omega
      have hbq : (((adel (L m) k).length : Int) == 0) = false := by rw [beq_eq_false_iff_ne]; exact hq0
      have Hq := Lib.hid hq
      clear hq
      have Hv11 := Lib.hid (mapV_val Sh s m Hm.out)
      refine Go.XR.region_sched ((· = W7.drew)) [(0, true), (1, true), (2, true), (3, true), (4, true), (5, true), (6, false), (7, false), (8, false)] [6, 7, 8] Try.mixed (by kernel_rfl) (by kernel_rfl) (by kernel_rfl) ?_
      simp only [List.map_cons, List.map_nil, List.getElem?_cons_succ, List.getElem?_cons_zero]
      repeat (first | (refine Go.XR.S_light rfl rfl rfl ?_ (fun w' hS K hK => ?_) (fun K hK => ?_); rotate_left 1; (cases hS; (first | (first | (refine Go.XR.wp_load_at 27 _ rfl kb 0 rfl (keyC k) (At.drew HKa.out) _ Try.underlying27 rfl (keySize k) ?_) | (refine Go.XR.wp_load_at 24 _ rfl kb 0 rfl (sumC k.sum) (At.drew (key_at_sum HKa.out)) _ Try.underlying24 rfl (sumSize k.sum) ?_)) | go_step); exact hK); go_step; refine hK _ ?_; clear hK K))
      refine Go.XR.S_heavy (fun K hK => ?_)
      refine Go.XR.wp_gm_lookup _ _ 82 rfl keysI64 Try.underlying82 (.map none) (fun w => Try.zeroValue89 w) s _ rfl rfl (GM.block (w' := W7.drew) HS.out.ix.shelves rfl) Hv11.out ?_
      refine hK _ _ ⟨fun _ => rfl, ?_⟩
      clear hK K
      repeat (first | (refine Go.XR.S_light rfl rfl rfl ?_ (fun w' hS K hK => ?_) (fun K hK => ?_); rotate_left 1; (cases hS; (first | (first | (refine Go.XR.wp_load_at 27 _ rfl kb 0 rfl (keyC k) (At.drew HKa.out) _ Try.underlying27 rfl (keySize k) ?_) | (refine Go.XR.wp_load_at 24 _ rfl kb 0 rfl (sumC k.sum) (At.drew (key_at_sum HKa.out)) _ Try.underlying24 rfl (sumSize k.sum) ?_)) | go_step); exact hK); go_step; refine hK _ ?_; clear hK K))
      refine Go.XR.S_heavy (fun K hK => ?_)
      refine Go.XR.wp_gm_len _ 89 rfl Try.underlying89 rfl HL7.out ?_
      refine hK _ _ ⟨fun h => by simp at h, ?_⟩
      clear hK K
      repeat (first | (refine Go.XR.S_heavy (fun K hK => ?_); go_step; refine hK _ _ ⟨fun h => by simp at h, ?_⟩; clear hK K))
      refine Go.XR.S_nil ?_
      have HS2 := Lib.hid HS.out.drew
      clear HS Hv11 HL7
      clear c0 c1 c2 kn vs HKa
      generalize W7.drew = W7 at *
      have HS := HS2
      clear HS2
      have c0 := HS.out.ix.blk.cell (i := 0) rfl
      have c1 := HS.out.ix.blk.cell (i := 1) rfl
      have c2 := HS.out.ix.blk.cell (i := 2) rfl
      have kn := HS.out.kn
      have vs := HS.out.vs
      rw [hs] at vs
      have HKa := Lib.hid HS.out.key
      go_wp2
      go_ret
      obtain ⟨hi', hni'⟩ := Hni.out
      refine ⟨by rw [Hk.out]; rfl, F1, ⟨pb, tb, sb, T', _, _, HS.out.ix, HCo.out.drop HS.out.ix.shelfApart Hk.out Hs.out Hm.out Hr.out hi' hni' (r' := ⟨some ⟨g, 0, none⟩, rc, rl'⟩) Hrl'.out.symm HT.out (fun t => ?_)⟩, HS.out.but, HS.out.grew⟩
      rw [if_neg (fun h => Hq.out h.2)]
  · have hz0 : ¬ (rl'.length : Int) = 0 := by
      have := List.length_pos_iff.2 hz
      omega
    have hbz : ((rl'.length : Int) == 0) = false := by rw [beq_eq_false_iff_ne]; exact hz0
    have Hz := Lib.hid hz
    clear hz
    have Hv8 := Lib.hid (numV_val (aput T k.sum ⟨some ⟨g, 0, none⟩, rc, rl'⟩) k.sum ⟨some ⟨g, 0, none⟩, rc, rl'⟩ (by rw [aget_put, if_pos rfl]))
    refine Go.XR.region_sched ((· = W5.drew)) [(0, true), (1, true), (2, true), (3, true), (4, true), (5, true), (6, false), (7, false), (8, false)] [6, 7, 8] Try.mixed (by kernel_rfl) (by kernel_rfl) (by kernel_rfl) ?_
    simp only [List.map_cons, List.map_nil, List.getElem?_cons_succ, List.getElem?_cons_zero]
    repeat (first | (refine Go.XR.S_light rfl rfl rfl ?_ (fun w' hS K hK => ?_) (fun K hK => ?_); rotate_left 1; (cases hS; (first | (first | (refine Go.XR.wp_load_at 27 _ rfl kb 0 rfl (keyC k) (At.drew HKa.out) _ Try.underlying27 rfl (keySize k) ?_) | (refine Go.XR.wp_load_at 24 _ rfl kb 0 rfl (sumC k.sum) (At.drew (key_at_sum HKa.out)) _ Try.underlying24 rfl (sumSize k.sum) ?_)) | go_step); exact hK); go_step; refine hK _ ?_; clear hK K))
    refine Go.XR.S_heavy (fun K hK => ?_)
    refine Go.XR.wp_gm_lookup _ _ 81 rfl keysSum Try.underlying81 (.slice none 0 0) (fun w => Try.zeroValue85 w) k.sum _ rfl rfl (GM.block (w' := W5.drew) HS.out.ix.twins rfl) Hv8.out ?_
    refine hK _ _ ⟨fun _ => rfl, ?_⟩
    clear hK K
    repeat (first | (refine Go.XR.S_light rfl rfl rfl ?_ (fun w' hS K hK => ?_) (fun K hK => ?_); rotate_left 1; (cases hS; (first | (first | (refine Go.XR.wp_load_at 27 _ rfl kb 0 rfl (keyC k) (At.drew HKa.out) _ Try.underlying27 rfl (keySize k) ?_) | (refine Go.XR.wp_load_at 24 _ rfl kb 0 rfl (sumC k.sum) (At.drew (key_at_sum HKa.out)) _ Try.underlying24 rfl (sumSize k.sum) ?_)) | go_step); exact hK); go_step; refine hK _ ?_; clear hK K))
    repeat (first | (refine Go.XR.S_heavy (fun K hK => ?_); go_step; refine hK _ _ ⟨fun h => by simp at h, ?_⟩; clear hK K))
    refine Go.XR.S_nil ?_
    have HS2 := Lib.hid HS.out.drew
    clear HS Hv8
    clear c0 c1 c2 kn vs HKa
    generalize W5.drew = W5 at *
    have HS := HS2
    clear HS2
    have c0 := HS.out.ix.blk.cell (i := 0) rfl
    have c1 := HS.out.ix.blk.cell (i := 1) rfl
    have c2 := HS.out.ix.blk.cell (i := 2) rfl
    have kn := HS.out.kn
    have vs := HS.out.vs
    rw [hs] at vs
    have HKa := Lib.hid HS.out.key
    obtain ⟨T', hT'⟩ : ∃ T', aput T k.sum ⟨some ⟨g, 0, none⟩, rc, rl'⟩ = T' := ⟨_, rfl⟩
    have HT : Hid (∀ d, aget T' d = if d = k.sum then (if rl' = [] then none else some (⟨some ⟨g, 0, none⟩, rc, rl'⟩ : NumRow)) else aget T d) := fun d => by
      rw [← hT', aget_put, if_neg Hz.out]
    rw [hT'] at HS
    clear hT' hbz
    generalize W5 = W6 at *
    have c0 := HS.out.ix.blk.cell (i := 0) rfl
    have c1 := HS.out.ix.blk.cell (i := 1) rfl
    have c2 := HS.out.ix.blk.cell (i := 2) rfl
    have kn := HS.out.kn
    have vs := HS.out.vs
    rw [hs] at vs
    have HKa := Lib.hid HS.out.key
    go_wp2
    have Hv10 := Lib.hid (mapV_val Sh s m Hm.out)
    refine Go.XR.region_sched ((· = W6.drew)) [(0, true), (1, true), (2, true), (3, true), (4, true), (5, true), (7, true), (6, false), (8, false)] [8] Try.mixed (by kernel_rfl) (by kernel_rfl) (by kernel_rfl) ?_
    simp only [List.map_cons, List.map_nil, List.getElem?_cons_succ, List.getElem?_cons_zero]
    repeat (first | (refine Go.XR.S_light rfl rfl rfl ?_ (fun w' hS K hK => ?_) (fun K hK => ?_); rotate_left 1; (cases hS; (first | (first | (refine Go.XR.wp_load_at 27 _ rfl kb 0 rfl (keyC k) (At.drew HKa.out) _ Try.underlying27 rfl (keySize k) ?_) | (refine Go.XR.wp_load_at 24 _ rfl kb 0 rfl (sumC k.sum) (At.drew (key_at_sum HKa.out)) _ Try.underlying24 rfl (sumSize k.sum) ?_)) | go_step); exact hK); go_step; refine hK _ ?_; clear hK K))
    refine Go.XR.S_heavy (fun K hK => ?_)
    refine Go.XR.wp_gm_lookup _ _ 82 rfl keysI64 Try.underlying82 (.map none) (fun w => Try.zeroValue89 w) s _ rfl rfl (GM.block (w' := W6.drew) HS.out.ix.shelves rfl) Hv10.out ?_
    refine hK _ _ ⟨fun _ => rfl, ?_⟩
    clear hK K
    repeat (first | (refine Go.XR.S_light rfl rfl rfl ?_ (fun w' hS K hK => ?_) (fun K hK => ?_); rotate_left 1; (cases hS; (first | (first | (refine Go.XR.wp_load_at 27 _ rfl kb 0 rfl (keyC k) (At.drew HKa.out) _ Try.underlying27 rfl (keySize k) ?_) | (refine Go.XR.wp_load_at 24 _ rfl kb 0 rfl (sumC k.sum) (At.drew (key_at_sum HKa.out)) _ Try.underlying24 rfl (sumSize k.sum) ?_)) | go_step); exact hK); go_step; refine hK _ ?_; clear hK K))
    refine Go.XR.S_heavy (fun K hK => ?_)
    refine Go.XR.wp_gm_delete _ _ 89 rfl keysKey Try.underlying89 k rfl rfl (GM.block (w' := W6.drew) (HS.out.ix.shelf s m Hm.out).2.1 rfl) ?_
    intro W7 hG7 hb7
    have HS2 := Lib.hid (HS.out.drew.step hb7 (by intro b hb; rw [List.mem_singleton] at hb; subst hb; exact .inl (HS.out.ix.shelf s _ Hm.out).1) (HS.out.drew.ix.shelf_to Hm.out hb7 hG7) (Grew.refl _ _))
    refine hK _ _ ⟨fun h => by simp at h, ?_⟩
    clear hK K hG7 hb7
    clear c0 c1 c2 kn vs HKa
    clear HS
    have HS := HS2
    clear HS2
    refine Go.XR.S_nil ?_
    have c0 := HS.out.ix.blk.cell (i := 0) rfl
    have c1 := HS.out.ix.blk.cell (i := 1) rfl
    have c2 := HS.out.ix.blk.cell (i := 2) rfl
    have kn := HS.out.kn
    have vs := HS.out.vs
    rw [hs] at vs
    have HKa := Lib.hid HS.out.key
    go_wp2
    have HL7 : Hid (GM keyV unitV W7.drew m (adel (L m) k)) := by
      have := (HS.out.drew.ix.shelf s m Hm.out).2.1
      rw [if_pos rfl] at this
      exact this
    by_cases hq : adel (L m) k = []
    · have hq0 : ((adel (L m) k).length : Int) = 0 := by rw [hq]; rfl
      have Hq := Lib.hid hq
      clear hq
      have Hv11 := Lib.hid (mapV_val Sh s m Hm.out)
      refine Go.XR.region_sched ((· = W7.drew)) [(0, true), (1, true), (2, true), (3, true), (4, true), (5, true), (6, false), (7, false), (8, false)] [6, 7, 8] Try.mixed (by kernel_rfl) (by kernel_rfl) (by kernel_rfl) ?_
      simp only [List.map_cons, List.map_nil, List.getElem?_cons_succ, List.getElem?_cons_zero]
      repeat (first | (refine Go.XR.S_light rfl rfl rfl ?_ (fun w' hS K hK => ?_) (fun K hK => ?_); rotate_left 1; (cases hS; (first | (first | (refine Go.XR.wp_load_at 27 _ rfl kb 0 rfl (keyC k) (At.drew HKa.out) _ Try.underlying27 rfl (keySize k) ?_) | (refine Go.XR.wp_load_at 24 _ rfl kb 0 rfl (sumC k.sum) (At.drew (key_at_sum HKa.out)) _ Try.underlying24 rfl (sumSize k.sum) ?_)) | go_step); exact hK); go_step; refine hK _ ?_; clear hK K))
      refine Go.XR.S_heavy (fun K hK => ?_)
      refine Go.XR.wp_gm_lookup _ _ 82 rfl keysI64 Try.underlying82 (.map none) (fun w => Try.zeroValue89 w) s _ rfl rfl (GM.block (w' := W7.drew) HS.out.ix.shelves rfl) Hv11.out ?_
      refine hK _ _ ⟨fun _ => rfl, ?_⟩
      clear hK K
      repeat (first | (refine Go.XR.S_light rfl rfl rfl ?_ (fun w' hS K hK => ?_) (fun K hK => ?_); rotate_left 1; (cases hS; (first | (first | (refine Go.XR.wp_load_at 27 _ rfl kb 0 rfl (keyC k) (At.drew HKa.out) _ Try.underlying27 rfl (keySize k) ?_) | (refine Go.XR.wp_load_at 24 _ rfl kb 0 rfl (sumC k.sum) (At.drew (key_at_sum HKa.out)) _ Try.underlying24 rfl (sumSize k.sum) ?_)) | go_step); exact hK); go_step; refine hK _ ?_; clear hK K))
      refine Go.XR.S_heavy (fun K hK => ?_)
      refine Go.XR.wp_gm_len _ 89 rfl Try.underlying89 rfl HL7.out ?_
      refine hK _ _ ⟨fun h => by simp at h, ?_⟩
      clear hK K
      repeat (first | (refine Go.XR.S_heavy (fun K hK => ?_); go_step; refine hK _ _ ⟨fun h => by simp at h, ?_⟩; clear hK K))
      refine Go.XR.S_nil ?_
      have HS2 := Lib.hid HS.out.drew
      clear HS Hv11 HL7
      clear c0 c1 c2 kn vs HKa
      generalize W7.drew = W7 at *
      have HS := HS2
      clear HS2
      have c0 := HS.out.ix.blk.cell (i := 0) rfl
      have c1 := HS.out.ix.blk.cell (i := 1) rfl
      have c2 := HS.out.ix.blk.cell (i := 2) rfl
      have kn := HS.out.kn
      have vs := HS.out.vs
      rw [hs] at vs
      have HKa := Lib.hid HS.out.key
      go_wp2
      refine Go.XR.region_sched ((· = W7.drew)) [(0, true), (1, true), (2, true), (3, true), (4, true), (5, true), (6, false)] [6] Try.mixed (by kernel_rfl) (by kernel_rfl) (by kernel_rfl) ?_
      simp only [List.map_cons, List.map_nil, List.getElem?_cons_succ, List.getElem?_cons_zero]
      repeat (first | (refine Go.XR.S_light rfl rfl rfl ?_ (fun w' hS K hK => ?_) (fun K hK => ?_); rotate_left 1; (cases hS; (first | (first | (refine Go.XR.wp_load_at 27 _ rfl kb 0 rfl (keyC k) (At.drew HKa.out) _ Try.underlying27 rfl (keySize k) ?_) | (refine Go.XR.wp_load_at 24 _ rfl kb 0 rfl (sumC k.sum) (At.drew (key_at_sum HKa.out)) _ Try.underlying24 rfl (sumSize k.sum) ?_)) | go_step); exact hK); go_step; refine hK _ ?_; clear hK K))
      refine Go.XR.S_heavy (fun K hK => ?_)
      refine Go.XR.wp_gm_delete _ _ 82 rfl keysI64 Try.underlying82 s rfl rfl (GM.block (w' := W7.drew) HS.out.ix.shelves rfl) ?_
      intro W8 hG8 hb8
      have HS2 := Lib.hid (HS.out.drew.step hb8 (by intro b hb; rw [List.mem_singleton] at hb; subst hb; exact .inl HS.out.ix.inF.2.2.2) (HS.out.drew.ix.shelves_to hb8 hG8 (fun t n hn => by
        rw [aget_del] at hn
        split at hn
        · cases hn
        · exact hn)) (Grew.refl _ _))
      refine hK _ _ ⟨fun h => by simp at h, ?_⟩
      clear hK K hG8 hb8
      clear c0 c1 c2 kn vs HKa
      refine Go.XR.S_nil ?_
      go_wp2
      go_ret
      obtain ⟨hi', hni'⟩ := Hni.out
      refine ⟨by rw [Hk.out]; rfl, F1, ⟨pb, tb, sb, T', _, _, HS2.out.ix, HCo.out.drop HS.out.ix.shelfApart Hk.out Hs.out Hm.out Hr.out hi' hni' (r' := ⟨some ⟨g, 0, none⟩, rc, rl'⟩) Hrl'.out.symm HT.out (fun t => ?_)⟩, HS2.out.but, HS2.out.grew⟩
      rw [aget_del]
      by_cases e : t = s
      · rw [if_pos e, if_pos ⟨e, Hq.out⟩]
      · rw [if_neg e, if_neg (fun h => e h.1)]
    · have hq0 : ¬ ((adel (L m) k).length : Int) = 0 := by
        have := List.length_pos_iff.2 hq
        omega
      have hbq : (((adel (L m) k).length : Int) == 0) = false := by rw [beq_eq_false_iff_ne]; exact hq0
      have Hq := Lib.hid hq
      clear hq
      have Hv11 := Lib.hid (mapV_val Sh s m Hm.out)
      refine Go.XR.region_sched ((· = W7.drew)) [(0, true), (1, true), (2, true), (3, true), (4, true), (5, true), (6, false), (7, false), (8, false)] [6, 7, 8] Try.mixed (by kernel_rfl) (by kernel_rfl) (by kernel_rfl) ?_
      simp only [List.map_cons, List.map_nil, List.getElem?_cons_succ, List.getElem?_cons_zero]
      repeat (first | (refine Go.XR.S_light rfl rfl rfl ?_ (fun w' hS K hK => ?_) (fun K hK => ?_); rotate_left 1; (cases hS; (first | (first | (refine Go.XR.wp_load_at 27 _ rfl kb 0 rfl (keyC k) (At.drew HKa.out) _ Try.underlying27 rfl (keySize k) ?_) | (refine Go.XR.wp_load_at 24 _ rfl kb 0 rfl (sumC k.sum) (At.drew (key_at_sum HKa.out)) _ Try.underlying24 rfl (sumSize k.sum) ?_)) | go_step); exact hK); go_step; refine hK _ ?_; clear hK K))
      refine Go.XR.S_heavy (fun K hK => ?_)
      refine Go.XR.wp_gm_lookup _ _ 82 rfl keysI64 Try.underlying82 (.map none) (fun w => Try.zeroValue89 w) s _ rfl rfl (GM.block (w' := W7.drew) HS.out.ix.shelves rfl) Hv11.out ?_
      refine hK _ _ ⟨fun _ => rfl, ?_⟩
      clear hK K
      repeat (first | (refine Go.XR.S_light rfl rfl rfl ?_ (fun w' hS K hK => ?_) (fun K hK => ?_); rotate_left 1; (cases hS; (first | (first | (refine Go.XR.wp_load_at 27 _ rfl kb 0 rfl (keyC k) (At.drew HKa.out) _ Try.underlying27 rfl (keySize k) ?_) | (refine Go.XR.wp_load_at 24 _ rfl kb 0 rfl (sumC k.sum) (At.drew (key_at_sum HKa.out)) _ Try.underlying24 rfl (sumSize k.sum) ?_)) | go_step); exact hK); go_step; refine hK _ ?_; clear hK K))
      refine Go.XR.S_heavy (fun K hK => ?_)
      refine Go.XR.wp_gm_len _ 89 rfl Try.underlying89 rfl HL7.out ?_
      refine hK _ _ ⟨fun h => by simp at h, ?_⟩
      clear hK K
      repeat (first | (refine Go.XR.S_heavy (fun K hK => ?_); go_step; refine hK _ _ ⟨fun h => by simp at h, ?_⟩; clear hK K))
      refine Go.XR.S_nil ?_
      have HS2 := Lib.hid HS.out.drew
      clear HS Hv11 HL7
      clear c0 c1 c2 kn vs HKa
      generalize W7.drew = W7 at *
      have HS := HS2
      clear HS2
      have c0 := HS.out.ix.blk.cell (i := 0) rfl
      have c1 := HS.out.ix.blk.cell (i := 1) rfl
      have c2 := HS.out.ix.blk.cell (i := 2) rfl
      have kn := HS.out.kn
      have vs := HS.out.vs
      rw [hs] at vs
      have HKa := Lib.hid HS.out.key
      go_wp2
      go_ret
      obtain ⟨hi', hni'⟩ := Hni.out
      refine ⟨by rw [Hk.out]; rfl, F1, ⟨pb, tb, sb, T', _, _, HS.out.ix, HCo.out.drop HS.out.ix.shelfApart Hk.out Hs.out Hm.out Hr.out hi' hni' (r' := ⟨some ⟨g, 0, none⟩, rc, rl'⟩) Hrl'.out.symm HT.out (fun t => ?_)⟩, HS.out.but, HS.out.grew⟩
      rw [if_neg (fun h => Hq.out h.2)]
theorem drop_any (w : World) (F : List Nat) (p : Nat) (D : List (KeyT × PlaceT)) (hI : Ix w F p D) (hlen : D.length ≤ 2^20) (k : KeyT) :
    Calls Try.prog 15 #[.pointer (some ⟨p, 0, none⟩), keyV k] w (RetDrop w F p D k) := by
  cases h : aget D k with
  | none => exact drop_none w F p D hI k h
  | some v => exact drop_some w F p D hI hlen k v h
end Go.Proofs.Ytnfbchhbcinloaa
