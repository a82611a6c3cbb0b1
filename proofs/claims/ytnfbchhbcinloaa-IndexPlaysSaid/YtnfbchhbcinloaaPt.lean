/- The walk over Put. -/
import Derived.Test.YtnfbchhbcinloaaDr
namespace Go.Proofs.Ytnfbchhbcinloaa
open Go.RowKit Go.XR Go.IndexPure
/-- what Put answers, and leaves -/
def RetPut (w : World) (F : List Nat) (p : Nat) (D : List (KeyT × PlaceT)) (k : KeyT) (v : PlaceT) (e : Ending) (w' : World) : Prop :=
  e = .returned (.bool (aget D k).isSome) ∧ ∃ F', Ix w' F' p (aput (adel D k) k v) ∧ But F w w' ∧ Grew w F F'
theorem adel_len (D : List (KeyT × PlaceT)) (k : KeyT) : (adel D k).length ≤ D.length := List.length_filter_le _ _
set_option maxHeartbeats 4000000 in
set_option maxRecDepth 100000 in
theorem put_any (w : World) (F : List Nat) (p : Nat) (D : List (KeyT × PlaceT)) (hI : Ix w F p D) (hlen : D.length ≤ 2^20) (k : KeyT) (v : PlaceT) (hv : PlaceOk v) :
    Calls Try.prog 16 #[.pointer (some ⟨p, 0, none⟩), keyV k, placeV v] w (RetPut w F p D k v) := by
  obtain ⟨s, hs⟩ : ∃ s : I64, v.shelf = s.1 := ⟨⟨v.shelf, hv.1⟩, rfl⟩
  have Hv := Lib.hid hv
  obtain ⟨W0, hW0⟩ : ∃ W0, (w.alloc (.cells (keyC k) 27)).alloc (.cells (placeC v) 33) = W0 := ⟨_, rfl⟩
  have hb0 : Below w.heap.size w W0 := by rw [← hW0]; exact ((Below.refl _ _).alloc (Nat.le_refl _) _).alloc (by simp) _
  have HK : Hid (At W0 w.heap.size 0 (keyC k)) := by unfold Hid; rw [← hW0]; exact (At.new _ _ _).alloc _
  have HP : Hid (Blk W0 (w.heap.size + 1) (placeL v)) := by
    unfold Hid; rw [← hW0]
    have h := Blk.new (w.alloc (.cells (keyC k) 27)) (placeC v) 33
    rwa [show (w.alloc (.cells (keyC k) 27)).heap.size = w.heap.size + 1 by simp] at h
  have HI0 : Hid (Ix W0 F p D) := by
    obtain ⟨pb, tb, sb, T, Sh, L, hC, hCo⟩ := hI
    exact ⟨pb, tb, sb, T, Sh, L, hC.below hb0, hCo⟩
  have Hfin : Hid (∀ b ∈ F, b < w.heap.size) := by
    obtain ⟨pb, tb, sb, T, Sh, L, hC, hCo⟩ := hI
    exact hC.fin
  have Hb0 := Lib.hid hb0
  have Hlen := Lib.hid hlen
  clear hI hb0 hlen hv
  obtain ⟨kb, hkb⟩ : ∃ kb, w.heap.size = kb := ⟨_, rfl⟩
  obtain ⟨vb, hvb⟩ : ∃ vb, kb + 1 = vb := ⟨_, rfl⟩
  have Hkb := Lib.hid hkb
  have Hvb := Lib.hid hvb
  rw [hkb] at HK HP
  rw [hvb] at HP
  go_enter Try.func16, Try.ntmps16
  go_wp2_with (first | (refine wpList_load_at rfl 27 _ rfl kb 0 rfl (keyC k) HK.out _ Try.underlying27 rfl (keySize k) ?_) | fail)
  refine (drop_any W0 F p D HI0.out Hlen.out k).mono ?_
  rintro e w1 ⟨rfl, F1, hI1, hb1, hg1⟩
  have hkl : kb < W0.heap.size := HK.out.lt (by rw [keyC_size]; omega)
  have hvl : vb < W0.heap.size := HP.out.lt
  have hkF : kb ∉ F := fun h => by have := Hfin.out _ h; rw [Hkb.out] at this; omega
  have hvF : vb ∉ F := fun h => by have := Hfin.out _ h; rw [Hkb.out] at this; omega
  obtain ⟨pb, tb, sb, T, Sh, L, hC, hCo⟩ := hI1
  have HS : Hid (St w F kb k vb v w1 F1 p pb tb sb (adel D k) T Sh L) := by
    refine ⟨hC, HK.out.but hb1 hkF, HP.out.but hb1 hvF, ⟨fun h => ?_, fun h => ?_⟩, (But.of_below Hb0.out).trans hb1, fun b hb => ?_⟩
    · rcases hg1 _ h with h2 | h2
      · exact hkF h2
      · omega
    · rcases hg1 _ h with h2 | h2
      · exact hvF h2
      · omega
    · rcases hg1 _ hb with h2 | h2
      · exact .inl h2
      · exact .inr (Nat.le_trans Hb0.out.size h2)
  have hLen1 : (adel D k).length ≤ 2^20 := Nat.le_trans (adel_len D k) Hlen.out
  have hk1 : aget (adel D k) k = none := by rw [aget_del, if_pos rfl]
  obtain ⟨D1, hD1⟩ : ∃ D1, adel D k = D1 := ⟨_, rfl⟩
  have HD1 := Lib.hid hD1
  rw [hD1] at HS hCo hLen1 hk1
  obtain ⟨ra, rc, rl, hro⟩ : ∃ ra rc rl, rowOf T k.sum = ⟨ra, rc, rl⟩ := ⟨_, _, _, rfl⟩
  have hrl : numsOf T k.sum = rl := by rw [← rowOf_l, hro]
  have hll : rl.length ≤ 2^20 := by have := hCo.nums_le k.sum; rw [hrl] at this; omega
  have Hso : Hid (rl.Pairwise (fun x y => x.toNat < y.toNat)) := by unfold Hid; rw [← hrl]; exact hCo.sorted k.sum
  have Hown : Hid (∀ W F D Sh L, IxC W F p pb tb sb D T Sh L → ownNums W ⟨ra, rc, rl⟩ ∧ ∀ a, ra = some a → a.block ∈ F ∧ a.block ≠ p ∧ tb ≠ a.block ∧ a = ⟨a.block, 0, none⟩) := fun W F D Sh L h => by
    cases hr : aget T k.sum with
    | none =>
      unfold rowOf at hro
      rw [hr] at hro
      injection hro with h1 h2 h3
      subst h1 h2 h3
      exact ⟨⟨rfl, .inl ⟨rfl, rfl⟩⟩, fun a ha => by cases ha⟩
    | some r =>
      unfold rowOf at hro
      rw [hr] at hro
      have hro2 : r = ⟨ra, rc, rl⟩ := hro
      subst hro2
      exact ⟨(h.row _ _ hr).1, fun a ha => ⟨((h.row _ _ hr).2 a ha).1, ((h.row _ _ hr).2 a ha).2, (h.row_ne hr ha).2.1, (own_cells (h.row _ _ hr).1 ha).2⟩⟩
  have Hro := Lib.hid hro
  have Hrl := Lib.hid hrl
  have HCo := Lib.hid hCo
  have Hk1 := Lib.hid hk1
  clear hb1 hg1 hkl hvl hkF hvF hC hCo hD1 hk1 hro hrl hkb hvb hLen1
  clear Hb0 HI0 HK HP Hfin
  go_wp2
  clear hW0
  have c0 := HS.out.ix.blk.cell (i := 0) rfl
  have c1 := HS.out.ix.blk.cell (i := 1) rfl
  have c2 := HS.out.ix.blk.cell (i := 2) rfl
  have kn := HS.out.kn
  have vs := HS.out.vs
  rw [hs] at vs
  have HKa := Lib.hid HS.out.key
  have HVa := Lib.hid HS.out.place.toAt
  refine Go.XR.region_sched ((· = w1.drew)) [(0, true), (1, true), (2, true), (3, true), (4, true), (5, true), (6, false)] [6] Try.mixed (by kernel_rfl) (by kernel_rfl) (by kernel_rfl) ?_
  simp only [List.map_cons, List.map_nil, List.getElem?_cons_succ, List.getElem?_cons_zero]
  repeat (first | (refine Go.XR.S_light rfl rfl rfl ?_ (fun w' hS K hK => ?_) (fun K hK => ?_); rotate_left 1; (cases hS; (first | (first | (refine Go.XR.wp_load_at 27 _ rfl kb 0 rfl (keyC k) (At.drew HKa.out) _ Try.underlying27 rfl (keySize k) ?_) | (refine Go.XR.wp_load_at 24 _ rfl kb 0 rfl (sumC k.sum) (At.drew (key_at_sum HKa.out)) _ Try.underlying24 rfl (sumSize k.sum) ?_) | (refine Go.XR.wp_load_at 33 _ rfl vb 0 rfl (placeC v) (At.drew HVa.out) _ Try.underlying33 rfl (placeSize v) ?_)) | go_step); exact hK); go_step; refine hK _ ?_; clear hK K))
  refine Go.XR.S_heavy (fun K hK => ?_)
  refine wp_gm_update _ _ _ 80 rfl keysKey Try.underlying80 placeV pb D1 k v rfl rfl rfl (GM.block (w' := w1.drew) HS.out.ix.places rfl) ?_
  intro W2 hG2 hg2 _
  have hb2 := But.of_grown hg2
  have HS2 := Lib.hid (HS.out.drew.step hb2 (by intro b hb; rw [List.mem_singleton] at hb; subst hb; exact .inl HS.out.ix.inF.2.1) (HS.out.drew.ix.places_to hb2 hG2) (Grew.refl _ _))
  refine hK _ _ ⟨fun h => by simp at h, ?_⟩
  clear hK K hG2 hb2 hg2
  clear c0 c1 c2 kn vs HKa HVa
  clear HS
  have HS := HS2
  clear HS2
  have c0 := HS.out.ix.blk.cell (i := 0) rfl
  have c1 := HS.out.ix.blk.cell (i := 1) rfl
  have c2 := HS.out.ix.blk.cell (i := 2) rfl
  have kn := HS.out.kn
  have vs := HS.out.vs
  rw [hs] at vs
  have HKa := Lib.hid HS.out.key
  have HVa := Lib.hid HS.out.place.toAt
  refine Go.XR.S_nil ?_
  go_wp2
  have Hv5 : Hid (((aget T k.sum).map numV).getD (.slice none 0 0) = .slice ra rl.length rc) := by unfold Hid; rw [rowSl_get, Hro.out]
  refine Go.XR.region_sched ((· = W2.drew)) [(0, true), (1, true), (2, true), (3, true), (4, true), (5, true), (6, false), (7, false)] [6, 7] Try.mixed (by kernel_rfl) (by kernel_rfl) (by kernel_rfl) ?_
  simp only [List.map_cons, List.map_nil, List.getElem?_cons_succ, List.getElem?_cons_zero]
  repeat (first | (refine Go.XR.S_light rfl rfl rfl ?_ (fun w' hS K hK => ?_) (fun K hK => ?_); rotate_left 1; (cases hS; (first | (first | (refine Go.XR.wp_load_at 27 _ rfl kb 0 rfl (keyC k) (At.drew HKa.out) _ Try.underlying27 rfl (keySize k) ?_) | (refine Go.XR.wp_load_at 24 _ rfl kb 0 rfl (sumC k.sum) (At.drew (key_at_sum HKa.out)) _ Try.underlying24 rfl (sumSize k.sum) ?_) | (refine Go.XR.wp_load_at 33 _ rfl vb 0 rfl (placeC v) (At.drew HVa.out) _ Try.underlying33 rfl (placeSize v) ?_)) | go_step); exact hK); go_step; refine hK _ ?_; clear hK K))
  refine Go.XR.S_heavy (fun K hK => ?_)
  refine Go.XR.wp_gm_lookup _ _ 81 rfl keysSum Try.underlying81 (.slice none 0 0) (fun w => Try.zeroValue85 w) k.sum _ rfl rfl (GM.block (w' := W2.drew) HS.out.ix.twins rfl) Hv5.out ?_
  refine hK _ _ ⟨fun _ => rfl, ?_⟩
  clear hK K
  repeat (first | (refine Go.XR.S_light rfl rfl rfl ?_ (fun w' hS K hK => ?_) (fun K hK => ?_); rotate_left 1; (cases hS; (first | (first | (refine Go.XR.wp_load_at 27 _ rfl kb 0 rfl (keyC k) (At.drew HKa.out) _ Try.underlying27 rfl (keySize k) ?_) | (refine Go.XR.wp_load_at 24 _ rfl kb 0 rfl (sumC k.sum) (At.drew (key_at_sum HKa.out)) _ Try.underlying24 rfl (sumSize k.sum) ?_) | (refine Go.XR.wp_load_at 33 _ rfl vb 0 rfl (placeC v) (At.drew HVa.out) _ Try.underlying33 rfl (placeSize v) ?_)) | go_step); exact hK); go_step; refine hK _ ?_; clear hK K))
  repeat (first | (refine Go.XR.S_heavy (fun K hK => ?_); go_step; refine hK _ _ ⟨fun h => by simp at h, ?_⟩; clear hK K))
  refine Go.XR.S_nil ?_
  have HS2 := Lib.hid HS.out.drew
  clear HS Hv5
  clear c0 c1 c2 kn vs HKa HVa
  generalize W2.drew = W3 at *
  have HS := HS2
  clear HS2
  have c0 := HS.out.ix.blk.cell (i := 0) rfl
  have c1 := HS.out.ix.blk.cell (i := 1) rfl
  have c2 := HS.out.ix.blk.cell (i := 2) rfl
  have kn := HS.out.kn
  have vs := HS.out.vs
  rw [hs] at vs
  have HKa := Lib.hid HS.out.key
  have HVa := Lib.hid HS.out.place.toAt
  go_wp2_with fail
  refine (bsearch_any W3 ra rc rl (Row.owned (Hown.out _ _ _ _ _ HS.out.ix).1) (by omega) Hso.out k.n).mono ?_
  rintro e w4 ⟨⟨i, hlow, rfl⟩, hw4⟩
  rw [hw4]
  clear hw4 w4
  have hi := hlow.1
  have Hlow := Lib.hid hlow
  clear hlow
  go_wp2
  have HStd := Lib.hid HS.out.drew.std
  refine Go.XR.region_sched ((Std p pb tb sb kb k vb v.shelf)) [(0, true), (1, true), (2, true), (3, true), (4, true), (5, true), (6, true), (7, true), (8, true), (9, true), (10, false), (11, false), (12, false)] [12] Try.mixed (by kernel_rfl) (by kernel_rfl) (by kernel_rfl) ?_
  simp only [List.map_cons, List.map_nil, List.getElem?_cons_succ, List.getElem?_cons_zero]
  repeat (first | (refine Go.XR.S_light rfl rfl HStd.out ?_ (fun w' hS K hK => ?_) (fun K hK => ?_); rotate_left 1; (have s0 := hS.c1; have s1 := hS.kn; (first | (refine Go.XR.wp_load_at 24 _ rfl kb 0 rfl (sumC k.sum) (key_at_sum hS.key) _ Try.underlying24 rfl (sumSize k.sum) ?_) | go_step); exact hK); go_step; refine hK _ ?_; clear hK K))
  refine Go.XR.S_heavy (fun K hK => ?_)
  go_step
  obtain ⟨W4, hW4⟩ : ∃ W4, (W3.alloc (.cells #[.int .u32 (k.n.toNat : Int)] 25)).drew = W4 := ⟨_, rfl⟩
  have hbA : Below W3.drew.heap.size W3.drew W4 := by rw [← hW4]; exact (Below.refl W3.drew.heap.size W3.drew).alloc (Nat.le_refl _) _
  have HS4 := Lib.hid (HS.out.drew.below hbA)
  have hv4 : W4.heap[W3.heap.size]? = some (.cells #[.int .u32 (k.n.toNat : Int)] 25 (0, 0)) := by rw [← hW4]; exact (MapKept.heap_alloc W3.drew _).1
  have HbA := Lib.hid hbA
  have Hv4 := Lib.hid hv4
  rw [hW4]
  clear hbA hv4
  refine hK _ _ ⟨fun _ => HS4.out.std, ?_⟩
  clear hK K hW4
  refine Go.XR.S_heavy (fun K hK => ?_)
  go_step
  ((with_reducible refine (insert_any W4 ra rc rl (Hown.out _ _ _ _ _ HS4.out.ix).1 (by omega) i hi W3.heap.size 1 (fun g hg h => by
    obtain ⟨h1, _⟩ := (Hown.out _ _ _ _ _ HS.out.ix).2 _ hg
    have := HS.out.ix.fin _ h1
    have h2 : (⟨g, 0, none⟩ : Addr).block = g := rfl
    omega) k.n 25 Hv4.out).mono ?_); rintro e w5 ⟨a', c', rfl, ho5, hg5, hn5⟩)
  have hgo : ∀ a, ra = some a → a.block ∈ F1 ∧ a.block ≠ p ∧ tb ≠ a.block ∧ a = ⟨a.block, 0, none⟩ := (Hown.out _ _ _ _ _ HS4.out.ix).2
  obtain ⟨S5, hS5, hb5⟩ : ∃ S5 : List Nat, (∀ b ∈ S5, b ∈ F1 ∧ b ≠ p ∧ tb ≠ b) ∧ But S5 W4 w5 := by
    cases hra : ra with
    | none =>
      rw [hra] at hg5
      exact ⟨[], (fun b h => absurd h (by simp)), But.of_grown_none hg5⟩
    | some a =>
      rw [hra] at hg5
      exact ⟨[a.block], fun b h => by rw [List.mem_singleton] at h; subst h; exact ⟨(hgo a hra).1, (hgo a hra).2.1, (hgo a hra).2.2.1⟩, But.of_grown hg5⟩
  refine hK _ _ ⟨fun _ => HS4.out.std.but hb5 (fun h => (hS5 _ h).2.1 rfl) (fun h => HS.out.out.1 (hS5 _ h).1) (fun h => HS.out.out.2 (hS5 _ h).1), ?_⟩
  clear hK K
  refine Go.XR.S_heavy (fun K hK => ?_)
  refine wp_gm_update _ _ _ 81 rfl keysSum Try.underlying81 numV tb T k.sum ⟨a', c', insAt rl i k.n⟩ rfl rfl rfl (HS4.out.ix.twins.but hb5 (fun h => (hS5 _ h).2.2 rfl)) ?_
  intro W6 hG6 hg6 _
  have HS2 : Hid (∃ F', St w F kb k vb v W6 F' p pb tb sb (aput D1 k v) (aput T k.sum ⟨a', c', insAt rl i k.n⟩) Sh L) := by
    have h3 := HS4.out
    obtain ⟨F', hix, hgr⟩ := h3.ix.row_to (d := k.sum) (r := ⟨a', c', insAt rl i k.n⟩) (w1 := w5) (by rw [Hro.out]; exact hg5) (by rw [Hro.out]; exact hn5) ho5 (But.of_grown hg6) hG6
    refine ⟨F', h3.step (S := tb :: S5) ((hb5.mono (by simp; intro i h _; exact .inr h)).trans ((But.of_grown hg6).mono (by simp))) (fun b hb => ?_) hix hgr⟩
    rcases List.mem_cons.1 hb with rfl | hb
    · exact .inl h3.ix.inF.2.2.1
    · exact .inl (hS5 _ hb).1
  refine hK _ _ ⟨fun h => by simp at h, ?_⟩
  clear hK K hG6 hg6 ho5 hg5 hn5 hgo hS5 hb5 HbA HS4 Hv4
  clear c0 c1 c2 kn vs HKa HVa
  clear HS HStd
  obtain ⟨F2, hS2⟩ := HS2
  have HS := Lib.hid hS2
  clear hS2
  obtain ⟨T', hT'⟩ : ∃ T', aput T k.sum ⟨a', c', insAt rl i k.n⟩ = T' := ⟨_, rfl⟩
  have HT : Hid (∀ d, aget T' d = if d = k.sum then some (⟨a', c', insAt rl i k.n⟩ : NumRow) else aget T d) := fun d => by rw [← hT', aget_put]
  rw [hT'] at HS
  clear hT'
  have c0 := HS.out.ix.blk.cell (i := 0) rfl
  have c1 := HS.out.ix.blk.cell (i := 1) rfl
  have c2 := HS.out.ix.blk.cell (i := 2) rfl
  have kn := HS.out.kn
  have vs := HS.out.vs
  rw [hs] at vs
  have HKa := Lib.hid HS.out.key
  have HVa := Lib.hid HS.out.place.toAt
  refine Go.XR.S_nil ?_
  go_wp2
  cases hsh : aget Sh s with
  | some m =>
    have Hm := Lib.hid hsh
    clear hsh
    have Hv8 := Lib.hid (mapV_val Sh s m Hm.out)
    refine Go.XR.region_sched ((· = W6.drew)) [(0, true), (1, true), (2, true), (3, true), (4, true), (5, true), (6, false), (7, false)] [6, 7] Try.mixed (by kernel_rfl) (by kernel_rfl) (by kernel_rfl) ?_
    simp only [List.map_cons, List.map_nil, List.getElem?_cons_succ, List.getElem?_cons_zero]
    repeat (first | (refine Go.XR.S_light rfl rfl rfl ?_ (fun w' hS K hK => ?_) (fun K hK => ?_); rotate_left 1; (cases hS; (first | (first | (refine Go.XR.wp_load_at 27 _ rfl kb 0 rfl (keyC k) (At.drew HKa.out) _ Try.underlying27 rfl (keySize k) ?_) | (refine Go.XR.wp_load_at 24 _ rfl kb 0 rfl (sumC k.sum) (At.drew (key_at_sum HKa.out)) _ Try.underlying24 rfl (sumSize k.sum) ?_) | (refine Go.XR.wp_load_at 33 _ rfl vb 0 rfl (placeC v) (At.drew HVa.out) _ Try.underlying33 rfl (placeSize v) ?_)) | go_step); exact hK); go_step; refine hK _ ?_; clear hK K))
    refine Go.XR.S_heavy (fun K hK => ?_)
    refine Go.XR.wp_gm_lookup _ _ 82 rfl keysI64 Try.underlying82 (.map none) (fun w => Try.zeroValue89 w) s _ rfl rfl (GM.block (w' := W6.drew) HS.out.ix.shelves rfl) Hv8.out ?_
    refine hK _ _ ⟨fun _ => rfl, ?_⟩
    clear hK K
    repeat (first | (refine Go.XR.S_light rfl rfl rfl ?_ (fun w' hS K hK => ?_) (fun K hK => ?_); rotate_left 1; (cases hS; (first | (first | (refine Go.XR.wp_load_at 27 _ rfl kb 0 rfl (keyC k) (At.drew HKa.out) _ Try.underlying27 rfl (keySize k) ?_) | (refine Go.XR.wp_load_at 24 _ rfl kb 0 rfl (sumC k.sum) (At.drew (key_at_sum HKa.out)) _ Try.underlying24 rfl (sumSize k.sum) ?_) | (refine Go.XR.wp_load_at 33 _ rfl vb 0 rfl (placeC v) (At.drew HVa.out) _ Try.underlying33 rfl (placeSize v) ?_)) | go_step); exact hK); go_step; refine hK _ ?_; clear hK K))
    repeat (first | (refine Go.XR.S_heavy (fun K hK => ?_); go_step; refine hK _ _ ⟨fun h => by simp at h, ?_⟩; clear hK K))
    refine Go.XR.S_nil ?_
    have HS2 := Lib.hid HS.out.drew
    clear HS Hv8
    clear c0 c1 c2 kn vs HKa HVa
    generalize W6.drew = W6 at *
    have HS := HS2
    clear HS2
    obtain ⟨Sh', hSh'⟩ : ∃ Sh', Sh = Sh' := ⟨_, rfl⟩
    have Hm' : Hid (aget Sh' s = some m) := by unfold Hid; rw [← hSh']; exact Hm.out
    rw [hSh'] at HS
    have HSh := Lib.hid hSh'
    clear hSh'
    have c0 := HS.out.ix.blk.cell (i := 0) rfl
    have c1 := HS.out.ix.blk.cell (i := 1) rfl
    have c2 := HS.out.ix.blk.cell (i := 2) rfl
    have kn := HS.out.kn
    have vs := HS.out.vs
    rw [hs] at vs
    have HKa := Lib.hid HS.out.key
    have HVa := Lib.hid HS.out.place.toAt
    go_wp2
    have Hv10 := Lib.hid (mapV_val Sh' s m Hm'.out)
    refine Go.XR.region_sched ((· = W6.drew)) [(0, true), (1, true), (2, true), (3, true), (4, true), (5, true), (7, true), (6, false), (8, false)] [8] Try.mixed (by kernel_rfl) (by kernel_rfl) (by kernel_rfl) ?_
    simp only [List.map_cons, List.map_nil, List.getElem?_cons_succ, List.getElem?_cons_zero]
    repeat (first | (refine Go.XR.S_light rfl rfl rfl ?_ (fun w' hS K hK => ?_) (fun K hK => ?_); rotate_left 1; (cases hS; (first | (first | (refine Go.XR.wp_load_at 27 _ rfl kb 0 rfl (keyC k) (At.drew HKa.out) _ Try.underlying27 rfl (keySize k) ?_) | (refine Go.XR.wp_load_at 24 _ rfl kb 0 rfl (sumC k.sum) (At.drew (key_at_sum HKa.out)) _ Try.underlying24 rfl (sumSize k.sum) ?_) | (refine Go.XR.wp_load_at 33 _ rfl vb 0 rfl (placeC v) (At.drew HVa.out) _ Try.underlying33 rfl (placeSize v) ?_)) | go_step); exact hK); go_step; refine hK _ ?_; clear hK K))
    refine Go.XR.S_heavy (fun K hK => ?_)
    refine Go.XR.wp_gm_lookup _ _ 82 rfl keysI64 Try.underlying82 (.map none) (fun w => Try.zeroValue89 w) s _ rfl rfl (GM.block (w' := W6.drew) HS.out.ix.shelves rfl) Hv10.out ?_
    refine hK _ _ ⟨fun _ => rfl, ?_⟩
    clear hK K
    repeat (first | (refine Go.XR.S_light rfl rfl rfl ?_ (fun w' hS K hK => ?_) (fun K hK => ?_); rotate_left 1; (cases hS; (first | (first | (refine Go.XR.wp_load_at 27 _ rfl kb 0 rfl (keyC k) (At.drew HKa.out) _ Try.underlying27 rfl (keySize k) ?_) | (refine Go.XR.wp_load_at 24 _ rfl kb 0 rfl (sumC k.sum) (At.drew (key_at_sum HKa.out)) _ Try.underlying24 rfl (sumSize k.sum) ?_) | (refine Go.XR.wp_load_at 33 _ rfl vb 0 rfl (placeC v) (At.drew HVa.out) _ Try.underlying33 rfl (placeSize v) ?_)) | go_step); exact hK); go_step; refine hK _ ?_; clear hK K))
    refine Go.XR.S_heavy (fun K hK => ?_)
    refine wp_gm_update _ _ _ 89 rfl keysKey Try.underlying89 unitV m _ k () rfl rfl rfl (GM.block (w' := W6.drew) (HS.out.ix.shelf s m Hm'.out).2.1 rfl) ?_
    intro W7 hG7 hg7 _
    have hb7 := But.of_grown hg7
    have HS2 := Lib.hid (HS.out.drew.step hb7 (by intro b hb; rw [List.mem_singleton] at hb; subst hb; exact .inl (HS.out.ix.shelf s _ Hm'.out).1) (HS.out.drew.ix.shelf_to Hm'.out hb7 hG7) (Grew.refl _ _))
    refine hK _ _ ⟨fun h => by simp at h, ?_⟩
    clear hK K hG7 hb7 hg7
    clear c0 c1 c2 kn vs HKa HVa
    refine Go.XR.S_nil ?_
    go_wp2
    go_ret
    refine ⟨rfl, F2, ⟨pb, tb, sb, T', Sh', _, by rw [HD1.out]; exact HS2.out.ix, ?_⟩, HS2.out.but, HS2.out.grew⟩
    rw [HD1.out]
    refine HCo.out.put Hk1.out Hv.out hs (i := i) (by rw [Hrl.out]; exact Hlow.out) (r' := ⟨a', c', insAt rl i k.n⟩) (by rw [Hrl.out]) HT.out Hm'.out (fun t _ => by rw [HSh.out]) (fun t ht => HS2.out.ix.shelfApart t s m ht Hm'.out) (fun i hi => if_neg hi) (if_pos rfl) (.inl ⟨Hm.out, rfl⟩)
  | none =>
    have Hm := Lib.hid hsh
    have Hv8 : Hid (((aget Sh s).map mapV).getD (.map none) = .map none) := by unfold Hid; rw [hsh]; rfl
    clear hsh
    refine Go.XR.region_sched ((· = W6.drew)) [(0, true), (1, true), (2, true), (3, true), (4, true), (5, true), (6, false), (7, false)] [6, 7] Try.mixed (by kernel_rfl) (by kernel_rfl) (by kernel_rfl) ?_
    simp only [List.map_cons, List.map_nil, List.getElem?_cons_succ, List.getElem?_cons_zero]
    repeat (first | (refine Go.XR.S_light rfl rfl rfl ?_ (fun w' hS K hK => ?_) (fun K hK => ?_); rotate_left 1; (cases hS; (first | (first | (refine Go.XR.wp_load_at 27 _ rfl kb 0 rfl (keyC k) (At.drew HKa.out) _ Try.underlying27 rfl (keySize k) ?_) | (refine Go.XR.wp_load_at 24 _ rfl kb 0 rfl (sumC k.sum) (At.drew (key_at_sum HKa.out)) _ Try.underlying24 rfl (sumSize k.sum) ?_) | (refine Go.XR.wp_load_at 33 _ rfl vb 0 rfl (placeC v) (At.drew HVa.out) _ Try.underlying33 rfl (placeSize v) ?_)) | go_step); exact hK); go_step; refine hK _ ?_; clear hK K))
    refine Go.XR.S_heavy (fun K hK => ?_)
    refine Go.XR.wp_gm_lookup _ _ 82 rfl keysI64 Try.underlying82 (.map none) (fun w => Try.zeroValue89 w) s _ rfl rfl (GM.block (w' := W6.drew) HS.out.ix.shelves rfl) Hv8.out ?_
    refine hK _ _ ⟨fun _ => rfl, ?_⟩
    clear hK K
    repeat (first | (refine Go.XR.S_light rfl rfl rfl ?_ (fun w' hS K hK => ?_) (fun K hK => ?_); rotate_left 1; (cases hS; (first | (first | (refine Go.XR.wp_load_at 27 _ rfl kb 0 rfl (keyC k) (At.drew HKa.out) _ Try.underlying27 rfl (keySize k) ?_) | (refine Go.XR.wp_load_at 24 _ rfl kb 0 rfl (sumC k.sum) (At.drew (key_at_sum HKa.out)) _ Try.underlying24 rfl (sumSize k.sum) ?_) | (refine Go.XR.wp_load_at 33 _ rfl vb 0 rfl (placeC v) (At.drew HVa.out) _ Try.underlying33 rfl (placeSize v) ?_)) | go_step); exact hK); go_step; refine hK _ ?_; clear hK K))
    repeat (first | (refine Go.XR.S_heavy (fun K hK => ?_); go_step; refine hK _ _ ⟨fun h => by simp at h, ?_⟩; clear hK K))
    refine Go.XR.S_nil ?_
    have HS2 := Lib.hid HS.out.drew
    clear HS Hv8
    clear c0 c1 c2 kn vs HKa HVa
    generalize W6.drew = W6 at *
    have HS := HS2
    clear HS2
    have c0 := HS.out.ix.blk.cell (i := 0) rfl
    have c1 := HS.out.ix.blk.cell (i := 1) rfl
    have c2 := HS.out.ix.blk.cell (i := 2) rfl
    have kn := HS.out.kn
    have vs := HS.out.vs
    rw [hs] at vs
    have HKa := Lib.hid HS.out.key
    have HVa := Lib.hid HS.out.place.toAt
    go_wp2
    have HStd := Lib.hid HS.out.drew.std
    refine Go.XR.region_sched ((Std p pb tb sb kb k vb v.shelf)) [(0, true), (1, true), (2, true), (3, true), (4, true), (5, true), (6, false), (7, false)] [7] Try.mixed (by kernel_rfl) (by kernel_rfl) (by kernel_rfl) ?_
    simp only [List.map_cons, List.map_nil, List.getElem?_cons_succ, List.getElem?_cons_zero]
    repeat (first | (refine Go.XR.S_light rfl rfl HStd.out ?_ (fun w' hS K hK => ?_) (fun K hK => ?_); rotate_left 1; (have s0 := hS.c2; have s1 := hS.vs; rw [hs] at s1; go_step; exact hK); go_step; refine hK _ ?_; clear hK K))
    have hmm := @run_makeMap Try.prog
    refine Go.XR.S_heavy (fun K hK => ?_)
    go_step
    clear hmm
    obtain ⟨W7, hW7⟩ : ∃ W7, (W6.alloc (.map #[] 0)).drew = W7 := ⟨_, rfl⟩
    have hbA : Below W6.drew.heap.size W6.drew W7 := by rw [← hW7]; exact (Below.refl W6.drew.heap.size W6.drew).alloc (Nat.le_refl _) _
    have HS4 := Lib.hid (HS.out.drew.below hbA)
    have hG1 : GM keyV unitV W7 W6.heap.size [] := by rw [← hW7]; exact (GM.made keyV unitV W6).block rfl
    have hsz : W7.heap.size = W6.heap.size + 1 := by rw [← hW7]; exact Array.size_push _
    rw [hW7]
    refine hK _ _ ⟨fun _ => HS4.out.std, ?_⟩
    clear hK K hW7
    obtain ⟨m, hm⟩ : ∃ m, W6.heap.size = m := ⟨_, rfl⟩
    rw [hm] at hG1 hsz ⊢
    refine Go.XR.S_heavy (fun K hK => ?_)
    refine wp_gm_update _ _ _ 82 rfl keysI64 Try.underlying82 mapV sb Sh s m rfl rfl rfl HS4.out.ix.shelves ?_
    intro W8 hG8 hg8 _
    have hix := HS.out.drew.ix.shelf_new Hm.out (But.of_below hbA) (m := m) (Nat.le_of_eq hm) (by omega) hG1 (But.of_grown hg8) hG8
    have HS2 := Lib.hid (HS.out.drew.step (S := [sb]) ((But.of_below hbA).trans (But.of_grown hg8)) (by intro b hb; rw [List.mem_singleton] at hb; subst hb; exact .inl HS.out.ix.inF.2.2.2) hix (fun b hb => by
      rcases List.mem_cons.1 hb with rfl | hb
      · exact .inr (Nat.le_of_eq hm)
      · exact .inl hb))
    refine hK _ _ ⟨fun h => by simp at h, ?_⟩
    clear hK K hG8 hg8 hix hG1 hbA HS4 HStd
    clear c0 c1 c2 kn vs HKa HVa
    clear HS
    obtain ⟨Sh', hSh'⟩ : ∃ Sh', aput Sh s m = Sh' := ⟨_, rfl⟩
    have Hm' : Hid (aget Sh' s = some m) := by unfold Hid; rw [← hSh', aget_put, if_pos rfl]
    rw [hSh'] at HS2
    have HSh := Lib.hid hSh'
    have HS := HS2
    clear hSh' HS2 hm hsz
    refine Go.XR.S_nil ?_
    have c0 := HS.out.ix.blk.cell (i := 0) rfl
    have c1 := HS.out.ix.blk.cell (i := 1) rfl
    have c2 := HS.out.ix.blk.cell (i := 2) rfl
    have kn := HS.out.kn
    have vs := HS.out.vs
    rw [hs] at vs
    have HKa := Lib.hid HS.out.key
    have HVa := Lib.hid HS.out.place.toAt
    go_wp2
    have Hv10 := Lib.hid (mapV_val Sh' s m Hm'.out)
    refine Go.XR.region_sched ((· = W8.drew)) [(0, true), (1, true), (2, true), (3, true), (4, true), (5, true), (7, true), (6, false), (8, false)] [8] Try.mixed (by kernel_rfl) (by kernel_rfl) (by kernel_rfl) ?_
    simp only [List.map_cons, List.map_nil, List.getElem?_cons_succ, List.getElem?_cons_zero]
    repeat (first | (refine Go.XR.S_light rfl rfl rfl ?_ (fun w' hS K hK => ?_) (fun K hK => ?_); rotate_left 1; (cases hS; (first | (first | (refine Go.XR.wp_load_at 27 _ rfl kb 0 rfl (keyC k) (At.drew HKa.out) _ Try.underlying27 rfl (keySize k) ?_)) | go_step); exact hK); go_step; refine hK _ ?_; clear hK K))
    refine Go.XR.S_heavy (fun K hK => ?_)
    refine Go.XR.wp_gm_lookup _ _ 82 rfl keysI64 Try.underlying82 (.map none) (fun w => Try.zeroValue89 w) s _ rfl rfl (GM.block (w' := W8.drew) HS.out.ix.shelves rfl) Hv10.out ?_
    refine hK _ _ ⟨fun _ => rfl, ?_⟩
    clear hK K
    repeat (first | (refine Go.XR.S_light rfl rfl rfl ?_ (fun w' hS K hK => ?_) (fun K hK => ?_); rotate_left 1; (cases hS; (first | (first | (refine Go.XR.wp_load_at 27 _ rfl kb 0 rfl (keyC k) (At.drew HKa.out) _ Try.underlying27 rfl (keySize k) ?_)) | go_step); exact hK); go_step; refine hK _ ?_; clear hK K))
    refine Go.XR.S_heavy (fun K hK => ?_)
    refine wp_gm_update _ _ _ 89 rfl keysKey Try.underlying89 unitV m _ k () rfl rfl rfl (GM.block (w' := W8.drew) (HS.out.ix.shelf s m Hm'.out).2.1 rfl) ?_
    intro W7 hG7 hg7 _
    have hb7 := But.of_grown hg7
    have HS2 := Lib.hid (HS.out.drew.step hb7 (by intro b hb; rw [List.mem_singleton] at hb; subst hb; exact .inl (HS.out.ix.shelf s _ Hm'.out).1) (HS.out.drew.ix.shelf_to Hm'.out hb7 hG7) (Grew.refl _ _))
    refine hK _ _ ⟨fun h => by simp at h, ?_⟩
    clear hK K hG7 hb7 hg7
    clear c0 c1 c2 kn vs HKa HVa
    refine Go.XR.S_nil ?_
    go_wp2
    go_ret
    refine ⟨rfl, m :: F2, ⟨pb, tb, sb, T', Sh', _, by rw [HD1.out]; exact HS2.out.ix, ?_⟩, HS2.out.but, HS2.out.grew⟩
    rw [HD1.out]
    refine HCo.out.put Hk1.out Hv.out hs (i := i) (by rw [Hrl.out]; exact Hlow.out) (r' := ⟨a', c', insAt rl i k.n⟩) (by rw [Hrl.out]) HT.out Hm'.out (fun t ht => by rw [← HSh.out, aget_put, if_neg ht]) (fun t ht => HS2.out.ix.shelfApart t s m ht Hm'.out) (fun i hi => by rw [if_neg hi, if_neg hi]) (by simp) (.inr ⟨Hm.out, rfl⟩)
end Go.Proofs.Ytnfbchhbcinloaa
