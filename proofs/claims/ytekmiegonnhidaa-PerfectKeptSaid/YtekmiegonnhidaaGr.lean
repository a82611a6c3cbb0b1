/- The walk over groups. -/
import Derived.Test.YtekmiegonnhidaaGp
import Derived.Test.YtekmiegonnhidaaBld
namespace Go.Proofs.Ytekmiegonnhidaa
open Go.RowKit Go.XR Go.PerfPure

def grp0 : GrpT := ⟨0, none, 0, 0⟩
def numbered (many j : Nat) : List GrpT := (List.range many).map fun i => ⟨if i < j then i else 0, none, 0, 0⟩
theorem numbered_length (many j : Nat) : (numbered many j).length = many := by simp [numbered]
theorem numbered_zero (many : Nat) : numbered many 0 = List.replicate many grp0 := by
  refine List.ext_getElem (by simp [numbered]) fun i h1 h2 => ?_
  simp [numbered, grp0]
theorem numbered_get {many j i : Nat} (h : i < (numbered many j).length) : (numbered many j)[i] = ⟨if i < j then i else 0, none, 0, 0⟩ := by simp [numbered]
theorem numbered_set {many j : Nat} (h : j < many) : (numbered many j).set j ⟨j, none, 0, 0⟩ = numbered many (j + 1) := by
  refine List.ext_getElem (by simp [numbered]) fun i h1 h2 => ?_
  rw [List.getElem_set, numbered_get, numbered_get]
  by_cases c : j = i
  · subst c; rw [if_pos rfl, if_pos (by omega)]
  · rw [if_neg c]
    congr 1
    by_cases d : i < j
    · rw [if_pos d, if_pos (by omega)]
    · rw [if_neg d, if_neg (by omega)]

theorem cfG_neg (x y : GrpT) : cfG x y < 0 ↔ y.len < x.len ∨ (y.len = x.len ∧ x.at_ < y.at_) := by
  unfold cfG or2 Lib.compareInt
  by_cases h1 : y.len < x.len
  · have : (y.len : Int) < (x.len : Int) := by omega
    simp [this, h1]
  · by_cases h2 : x.len < y.len
    · have h3 : ¬ (y.len : Int) < (x.len : Int) := by omega
      have h4 : (x.len : Int) < (y.len : Int) := by omega
      have h5 : ¬ y.len = x.len := by omega
      simp [h3, h4, h1, h5]
    · have h3 : ¬ (y.len : Int) < (x.len : Int) := by omega
      have h4 : ¬ (x.len : Int) < (y.len : Int) := by omega
      have h5 : y.len = x.len := by omega
      by_cases h6 : x.at_ < y.at_
      · have : (x.at_ : Int) < (y.at_ : Int) := by omega
        simp [h3, h4, h1, h5, h6, this]
      · have h7 : ¬ (x.at_ : Int) < (y.at_ : Int) := by omega
        simp only [h3, h4, h1, h5, h6, h7, if_false, false_or, and_false, iff_false]
        by_cases h8 : (y.at_ : Int) < (x.at_ : Int)
        · simp [h5, h8, h7]
        · have h9 : (x.at_ : Int) = y.at_ := by omega
          simp [h5, h9]
theorem swoG : Sort.SWO (Go.Proofs.ltOf cfG) where
  irrefl x := by unfold Go.Proofs.ltOf; rw [decide_eq_false_iff_not, cfG_neg]; omega
  trans x y z h1 h2 := by
    unfold Go.Proofs.ltOf at *
    rw [decide_eq_true_iff, cfG_neg] at *
    omega
  ntrans x y z h1 h2 := by
    unfold Go.Proofs.ltOf at *
    rw [decide_eq_false_iff_not, cfG_neg] at *
    omega
/-- what groups answers -/
def RetGroups (w : World) (l : List KeyT) (many : Nat) (e : Ending) (w' : World) : Prop :=
  ∃ (G : List GrpT) (cap : Nat), e = .returned (.slice (some ⟨w.heap.size, 0, none⟩) G.length cap) ∧ Row w' (some ⟨w.heap.size, 0, none⟩) (G.flatMap grpL) ∧ Below w.heap.size w w' ∧
    (G.map (·.at_)).Pairwise (ltC fun i => (keysOf l many i).length) ∧ (∀ i, i ∈ G.map (·.at_) ↔ i < many ∧ keysOf l many i ≠ []) ∧
    (∀ g ∈ G, g.len = (keysOf l many g.at_).length ∧ g.len ≤ g.cap ∧ Row w' g.sl ((keysOf l many g.at_).flatMap keyL) ∧ ∀ x, g.sl = some x → w.heap.size ≤ x.block ∧ x.block < w'.heap.size) ∧ G.length ≤ many
theorem nums {w : World} {B : Nat} {T : TypeId} {gs : List GrpT} {ks : Nat → List KeyT} (h : Gs w B T gs ks) : gs.map (·.at_) = List.range gs.length := by
  refine List.ext_getElem (by simp) fun i h1 h2 => ?_
  rw [List.getElem_map, List.getElem_range, h.num i (by simpa using h1)]
theorem groups_end {w wr w2 w' : World} {l : List KeyT} {many : Nat} {gs G : List GrpT} {T : TypeId} (hgl : gs.length = many) (hG : Gs wr (w.heap.size + 1) T gs (fun i => keysOf l many i)) (hwz : w.heap.size < wr.heap.size)
    (hperm : G.Perm (gs.filter fullB)) (hs : G.Pairwise (fun x y => ¬ cfG y x < 0)) (hrow : Row w' (some ⟨w.heap.size, 0, none⟩) (G.flatMap grpL)) (hb : Below w.heap.size w w') (hbut : But [w.heap.size] wr w') :
    RetGroups w l many (.returned (.slice (some ⟨w.heap.size, 0, none⟩) (gs.filter fullB).length many)) w' := by
  have hlen : G.length = (gs.filter fullB).length := hperm.length_eq
  have hmem : ∀ g, g ∈ G ↔ g ∈ gs ∧ fullB g = true := fun g => by rw [hperm.mem_iff, List.mem_filter]
  have hat : ∀ g ∈ gs, ∃ i, ∃ h : i < gs.length, gs[i] = g ∧ g.at_ = i := fun g hg => by
    obtain ⟨i, hi, he⟩ := List.getElem_of_mem hg
    exact ⟨i, hi, he, by rw [← he]; exact hG.num i hi⟩
  have hl : ∀ g ∈ gs, g.len = (keysOf l many g.at_).length := fun g hg => by
    obtain ⟨i, hi, he, ha⟩ := hat g hg
    rw [ha, ← he]; exact hG.len i hi
  have hnd : (G.map (·.at_)).Nodup := by
    refine (hperm.map (·.at_)).nodup_iff.2 ?_
    refine List.Nodup.sublist (l₂ := gs.map (·.at_)) ((List.filter_sublist).map _) ?_
    rw [nums hG]; exact List.nodup_range
  refine ⟨G, many, by rw [hlen], hrow, hb, ?_, fun i => ?_, fun g hg => ?_, by rw [hlen, ← hgl]; exact List.length_filter_le _ _⟩
  · rw [List.pairwise_map]
    have h2 : G.Pairwise (fun x y => x.at_ ≠ y.at_) := by
      unfold List.Nodup at hnd
      rwa [List.pairwise_map] at hnd
    refine ((hs.and h2).imp_of_mem ?_)
    intro x y hx hy hxy
    rw [cfG_neg] at hxy
    have h3 := hl x ((hmem x).1 hx).1
    have h4 := hl y ((hmem y).1 hy).1
    unfold ltC
    dsimp only
    omega
  · rw [List.mem_map]
    constructor
    · rintro ⟨g, hg, rfl⟩
      obtain ⟨h1, h2⟩ := (hmem g).1 hg
      obtain ⟨i, hi, he, ha⟩ := hat g h1
      refine ⟨by rw [ha, ← hgl]; exact hi, fun e => ?_⟩
      have h3 := hl g h1
      rw [e] at h3
      unfold fullB at h2
      simp [h3] at h2
    · rintro ⟨hi, hne⟩
      have hi' : i < gs.length := by rw [hgl]; exact hi
      refine ⟨gs[i], (hmem _).2 ⟨List.getElem_mem hi', ?_⟩, hG.num i hi'⟩
      have h3 := hG.len i hi'
      have h4 := List.length_pos_iff.2 hne
      unfold fullB
      simp; omega
  · obtain ⟨h1, h2⟩ := (hmem g).1 hg
    obtain ⟨i, hi, he, ha⟩ := hat g h1
    have ho := hG.own i hi
    rw [he] at ho
    refine ⟨hl g h1, owns_le ho, ?_, fun x hx => ?_⟩
    · rw [ha]
      refine (Row.owned ho).but hbut fun g' o' e => ?_
      rw [e] at ho
      have := (owns_lt ho).1
      simp
      show g' ≠ _
      have h5 : w.heap.size + 1 ≤ g' := this
      omega
    · rw [hx] at ho
      obtain ⟨h5, h6⟩ := owns_lt ho
      exact ⟨by omega, Nat.lt_of_lt_of_le h6 hbut.size⟩
/-- what the light ones of a region read -/
def SGr (b o : Nat) (v : Value) (kb : Nat) (k : KeyT) (w' : World) : Prop := w'.cell? ⟨b, o, none⟩ = some v ∧ At w' kb 0 (keyC k)

set_option maxHeartbeats 4000000 in
set_option maxRecDepth 100000 in
theorem groups_walk (w : World) (la : Option Addr) (lc : Nat) (l : List KeyT) (hL : Row w la (l.flatMap keyL)) (hl : l.length ≤ 16384) (many : Nat) (hm : 0 < many) (hm2 : many ≤ 16384) :
    Calls Try.prog 20 #[.slice la l.length lc, .int .i64 many] w (RetGroups w l many) := by
  obtain ⟨zs, hzs, hz⟩ := zero_key
  have Hz := Lib.hid hz
  clear hz
  have HL := Lib.hid hL
  clear hL
  obtain ⟨i0, z0, hi0, hz0, hs0, hb0, hzs0⟩ := info_z (P := Try.prog) (t := 61) (n := 2) (b := 32) (by kernel_rfl)
  have hz0' : z0 = .agg #[.int .i64 0, .slice none 0 0] := by
    have h1 : (Try.prog.info? 61).map (·.zero) = some (some (.agg #[.int .i64 0, .slice none 0 0])) := by kernel_rfl
    rw [hi0] at h1
    simp [hz0] at h1
    exact h1
  have hmk := run_make (P := Try.prog) w 58 61 i0 z0 Try.underlying58 hi0 hz0 .i64 .i64 many many (by omega) (by omega) (by rw [hb0]; omega) (by omega)
  rw [hs0, Int.toNat_natCast] at hmk
  obtain ⟨cells, hcells⟩ : ∃ c, madeCells z0.cells (many * 2) = c := ⟨_, rfl⟩
  have Hmade : Hid (cells.toList = (numbered many 0).flatMap grpL) := by
    unfold Hid
    rw [← hcells, numbered_zero]
    exact made_flat grpL_len grp0 z0.cells (by rw [hz0']; rfl) many
  rw [hcells] at hmk
  clear hi0 hz0 hs0 hb0 hzs0 hz0' hcells
  have Hmk := Lib.hid hmk
  clear hmk
  go_enter Try.func20, Try.ntmps20
  have hmk := Hmk.out
  go_wp2
  clear hmk
  go_loopg [14] many (fun n i wr => But [w.heap.size] (w.alloc (.cells cells 61)) wr ∧ ∃ j : Nat, j ≤ many ∧ i = .int .i64 j ∧ Hid (n = many - j ∧ Blk wr w.heap.size ((numbered many j).flatMap grpL)))
  case atStart => exact ⟨But.refl _ _, 0, by omega, rfl, rfl, by rw [← Hmade.out]; exact Blk.new _ _ _⟩
  case round =>
    obtain ⟨hb, j, hj, rfl, hr⟩ := hrel
    have Hb := Lib.hid hb
    clear hb
    by_cases hlt : j < many
    · have hlt2 : (j : Int) < (many : Int) := by omega
      obtain ⟨q, c0⟩ : ∃ q : Int, wr.cell? ⟨w.heap.size, j * 2, none⟩ = some (.int .i64 q) := ⟨_, (grp_cells (rest := []) (i := j) (by rw [List.append_nil]; exact hr.out.2) (by rw [numbered_length]; exact hlt)).1⟩
      have f0 := hr.out.2.free (j * 2)
      go_wp2
      go_roundg (many - (j + 1))
      case measure => have := hr.out.1; omega
      case rel =>
        refine ⟨Hb.out.setCell (.inl (by simp)) _, j + 1, by omega, by go_num, rfl, ?_⟩
        have hjn : j < (numbered many j).length := by rw [numbered_length]; exact hlt
        rw [← numbered_set hlt, ← flat_setk grpL_len (numbered many j) hjn (j := 0) (by omega) (.int .i64 j) ⟨j, none, 0, 0⟩ (by rw [numbered_get]; rfl)]
        exact hr.out.2.set _ _
    · have hge : ¬ (j : Int) < (many : Int) := by omega
      have HG : Hid (Gs wr (w.heap.size + 1) 27 (numbered many many) (fun i => keysOf [] many i)) :=
        ⟨fun i hi => by rw [numbered_get, if_pos (by rw [numbered_length] at hi; exact hi)], fun i hi => by rw [numbered_get]; rfl, fun i hi => by rw [numbered_get]; exact ⟨rfl, .inl ⟨rfl, rfl⟩⟩, fun i j hi hj hne a b ha _ => by rw [numbered_get] at ha; cases ha⟩
      have HB : Hid (Blk wr w.heap.size ((numbered many many).flatMap grpL)) := by
        have := hr.out.2
        rwa [show j = many by omega] at this
      have Hgl : Hid ((numbered many many).length = many) := numbered_length _ _
      clear hr
      generalize numbered many many = gs0 at *
      go_wp2
      clear hlt hge hj
      have hzw := Hb.out.size
      have hzw : w.heap.size + 1 ≤ wr.heap.size := by simpa using hzw
      go_loopg [25] l.length (fun n i wr => But [w.heap.size] (w.alloc (.cells cells 61)) wr ∧ ∃ (j : Nat) (gs : List GrpT), j ≤ l.length ∧ i = .int .i64 j ∧ Hid (n = l.length - j ∧ gs.length = many ∧ Blk wr w.heap.size (gs.flatMap grpL) ∧ Gs wr (w.heap.size + 1) 27 gs (fun i => keysOf (l.take j) many i)))
      case atStart => exact ⟨Hb.out, 0, gs0, by omega, rfl, rfl, Hgl.out, HB.out, HG.out⟩
      case round =>
        clear HG HB Hgl Hb hzw
        obtain ⟨hb, j, gs, hj, rfl, hr⟩ := hrel
        have Hb := Lib.hid hb
        clear hb
        by_cases hlt : j < l.length
        · have hlt2 : (j : Int) < (l.length : Int) := by omega
          obtain ⟨g, o, rfl⟩ := row_some HL.out (by omega)
          have hgw : g < w.heap.size := (row_key HL.out hlt).lt (by rw [keyC_size]; omega)
          have HA := Lib.hid (((row_key HL.out hlt).alloc _).but Hb.out (by simp; omega))
          have Hpl := Lib.hid (pos_lt 0 hm l[j])
          have hpc := pos_cast 0 hm l[j]
          have hbd := hashF_b 0 l[j]
          have HT : Hid (l.take (j + 1) = l.take j ++ [l[j]]) := List.take_succ_eq_append_getElem hlt
          have HK : Hid (∀ i, keysOf (l.take (j + 1)) many i = if i = pos 0 many l[j] then keysOf (l.take j) many i ++ [l[j]] else keysOf (l.take j) many i) := fun i => by rw [HT.out]; exact keysOf_snoc _ _ _ _
          clear HT
          generalize hp : pos 0 many l[j] = p at *
          generalize l[j] = kj at *
          clear hp
          have Hpc := Lib.hid hpc
          clear hpc
          have hzw := Hb.out.size
          have hzw : w.heap.size + 1 ≤ wr.heap.size := by simpa using hzw
          go_wp2_with (first | (refine wpList_alloc_new rfl 27 rfl zs (Hz.out _) ?_) | (refine wpList_store_new rfl 27 _ _ rfl zs (keyC kj) 27 rfl rfl (by rw [hzs, keyC_size]) (one_keyC kj) (keySize kj) ?_) | (refine wpList_load_at rfl 27 _ rfl g (o + j * 33) rfl (keyC kj) HA.out _ Try.underlying27 rfl (keySize kj) ?_) | (refine wpList_load_at rfl 27 _ rfl wr.heap.size 0 rfl (keyC kj) (At.new _ _ _) _ Try.underlying27 rfl (keySize kj) ?_))
          refine (hash_any _ 0 (by omega) kj).mono ?_
          rintro e w1 ⟨rfl, hb1⟩
          have Hb1 : Hid (Below wr.heap.size wr w1) := ((Below.refl _ _).alloc (Nat.le_refl _) _).trans (hb1.mono (by simp))
          have HA1 : Hid (At w1 wr.heap.size 0 (keyC kj)) := (At.new _ _ _).below (by rw [keyC_size]; omega) hb1
          clear hb1
          have HB1 : Hid (Blk w1 w.heap.size (gs.flatMap grpL)) := hr.out.2.2.1.below Hb1.out
          have hpg : p < gs.length := by rw [hr.out.2.1]; exact Hpl.out
          obtain ⟨_, c1⟩ := grp_cells (rest := []) (by rw [List.append_nil]; exact HB1.out) hpg
          have hpm := Hpl.out
          have hpc := Hpc.out
          go_wp2
          have hS0 : SGr w.heap.size (p * 2 + 1) (.slice gs[p].sl gs[p].len gs[p].cap) wr.heap.size kj w1.drew := ⟨c1, HA1.out.drew⟩
          have HG1 : Hid (Gs w1 (w.heap.size + 1) 27 gs (fun i => keysOf (l.take j) many i)) := hr.out.2.2.2.below Hb1.out
          have hlen : gs[p].len = (keysOf (l.take j) many p).length := HG1.out.len p hpg
          have hkl : (keysOf (l.take j) many p).length ≤ 16384 := Nat.le_trans (List.length_filter_le _ _) (by rw [List.length_take]; omega)
          have hown := HG1.out.own p hpg
          obtain ⟨x, hx⟩ : ∃ x, gs[p] = x := ⟨_, rfl⟩
          obtain ⟨ks, hks⟩ : ∃ ks, keysOf (l.take j) many p = ks := ⟨_, rfl⟩
          rw [hx] at hS0 hlen hown c1
          rw [hks] at hlen hkl hown
          obtain ⟨xa, xs, xl, xc⟩ := x
          dsimp only at hS0 hlen hown c1
          subst hlen
          have Hx := Lib.hid hx
          have Hks := Lib.hid hks
          have Hown := Lib.hid hown
          clear hx hks hown
          have hw1z : wr.heap.size + 1 ≤ w1.heap.size := HA1.out.lt (by rw [keyC_size]; omega)
          refine Go.XR.region_sched ((SGr w.heap.size (p * 2 + 1) (.slice xs ks.length xc) wr.heap.size kj)) [(0, true), (1, true), (2, true), (3, true), (4, true), (5, true), (6, false), (7, false), (8, false), (9, false), (10, false)] [8, 9, 10] Try.mixed (by kernel_rfl) (by kernel_rfl) (by kernel_rfl) ?_
          simp only [List.map_cons, List.map_nil, List.getElem?_cons_succ, List.getElem?_cons_zero]
          repeat (first | (refine Go.XR.S_light rfl rfl (by assumption) ?_ (fun w' hS K hK => ?_) (fun K hK => ?_); rotate_left 1; (obtain ⟨hS1, hS2⟩ := hS; (first | (refine Go.XR.wp_load_at 27 _ rfl wr.heap.size 0 rfl (keyC kj) hS2 _ Try.underlying27 rfl (keySize kj) ?_) | go_step); exact hK); go_step; refine hK _ ?_; clear hK K))
          refine Go.XR.S_heavy (fun K hK => ?_)
          refine Go.XR.wp_build_one 31 _ rfl 27 33 Try.underlying31 (by kernel_rfl) (by omega) (by omega) _ (Hz.out _) (keyC kj) rfl (keyC_size kj) ?_
          have hS0' : SGr w.heap.size (p * 2 + 1) (.slice xs ks.length xc) wr.heap.size kj (w1.drew.alloc (.cells (keyC kj) 27)) := ⟨by rw [World.cell?_alloc_old _ _ _ (by show w.heap.size ≠ w1.heap.size; omega)]; exact hS0.1, hS0.2.alloc _⟩
          refine hK _ _ ⟨fun _ => hS0', ?_⟩
          clear hK K
          refine Go.XR.S_heavy (fun K hK => ?_)
          refine append_enc2 (P := Try.prog) keyL 33 36 keyL_length one_keyL 27 Try.underlying31 (by kernel_rfl) (by decide) (w.heap.size + 1) xs xc ks rfl (Hown.out.drew.alloc _) w1.heap.size 0 1 [kj] rfl (by rw [List.flatMap_cons, List.flatMap_nil, List.append_nil]; exact Row.new _ _ _) (by simp; omega) (by unfold maxLen; simp; omega) (by simp; omega) ?_
          intro a' c' w2 ho2 hg2 hn2
          have HGb : Hid (Gs (w1.drew.alloc (.cells (keyC kj) 27)) (w.heap.size + 1) 27 gs (fun i => keysOf (l.take j) many i)) := HG1.out.below ((Below.refl _ _).drew.alloc (Nat.le_refl _) _)
          have Hxb : Hid (∀ y, xs = some y → w.heap.size + 1 ≤ y.block ∧ y.block < wr.heap.size) := fun y hy => by
            have h1 := hr.out.2.2.2.own p hpg
            rw [Hx.out] at h1
            dsimp only at h1
            rw [hy] at h1
            exact owns_lt h1
          have Hst : Hid (∀ q, q < w1.heap.size + 1 → (∀ y, xs = some y → y.block ≠ q) → w2.heap[q]? = (w1.drew.alloc (.cells (keyC kj) 27)).heap[q]?) := fun q hq hy => hg2.block q (by simpa using hq) (fun e => by
            cases xs with
            | none => cases e
            | some y => exact hy y rfl (by simpa [Value.ownBlock] using e.symm))
          have hst1 : w2.heap[w.heap.size]? = (w1.drew.alloc (.cells (keyC kj) 27)).heap[w.heap.size]? := Hst.out _ (by omega) (fun y hy => by have := Hxb.out y hy; omega)
          have hst2 : w2.heap[wr.heap.size]? = (w1.drew.alloc (.cells (keyC kj) 27)).heap[wr.heap.size]? := Hst.out _ (by omega) (fun y hy => by have := Hxb.out y hy; omega)
          have hS2' : SGr w.heap.size (p * 2 + 1) (.slice xs ks.length xc) wr.heap.size kj w2 := ⟨by rw [World.cell?_of_block (a := ⟨w.heap.size, p * 2 + 1, none⟩) hst1]; exact hS0'.1, hS0'.2.heap hst2⟩
          have HB2 : Hid (Blk w2 w.heap.size (gs.flatMap grpL)) := (HB1.out.below ((Below.refl _ _).drew.alloc (Nat.le_refl _) _)).heap hst1
          have Hbt : Hid (But [w.heap.size] (w.alloc (.cells cells 61)) w2) := by
            have h1 : But [w.heap.size] (w.alloc (.cells cells 61)) (w1.drew.alloc (.cells (keyC kj) 27)) := ((Hb.out.trans (But.of_below Hb1.out)).drew).alloc _
            refine ⟨hg2.os.trans h1.os, hg2.tape.trans h1.tape, hg2.output.trans h1.output, Nat.le_trans h1.size hg2.size, fun i hi hni => ?_⟩
            have hi' : i < w.heap.size + 1 := by simpa using hi
            rw [Hst.out i (by omega) (fun y hy => by have := Hxb.out y hy; omega)]
            exact h1.block i hi hni
          have HG2 : Hid (Gs w2 (w.heap.size + 1) 27 (gs.set p ⟨p, a', (ks ++ [kj]).length, c'⟩) (fun i => if i = p then keysOf (l.take j) many i ++ [kj] else keysOf (l.take j) many i)) := by
            have h1 := HGb.out.push hpg (k := kj) (a' := a') (c' := c') (w' := w2)
            rw [Hx.out] at h1
            simp only [Hks.out] at h1
            exact h1 ho2 hg2 hn2
          have Hnum := Lib.hid (HGb.out.num p hpg)
          clear ho2 hg2 hn2 hst1 hst2 hS0'
          obtain ⟨nl, hnl⟩ : ∃ nl, (ks ++ [kj]).length = nl := ⟨_, rfl⟩
          have hnl2 : nl ≤ 16385 := by rw [← hnl]; simp; omega
          rw [hnl] at HG2 ⊢
          clear hnl
          go_step
          refine hK _ _ ⟨fun _ => hS2', ?_⟩
          clear hK K
          have f1 := HB2.out.free (p * 2 + 1)
          have c2 := hS2'.1
          repeat (first | (refine Go.XR.S_heavy (fun K hK => ?_); go_step; refine hK _ _ ⟨fun h => by simp at h, ?_⟩; clear hK K))
          refine Go.XR.S_nil ?_
          go_wp2
          go_roundg (l.length - (j + 1))
          case measure => have := hr.out.1; omega
          case rel =>
            refine ⟨Hbt.out.setCell (.inl (by simp)) _, j + 1, gs.set p ⟨p, a', nl, c'⟩, by omega, by go_num, rfl, by rw [List.length_set]; exact hr.out.2.1, ?_, ?_⟩
            · rw [← flat_setk grpL_len gs hpg (j := 1) (by omega) (.slice a' nl c') ⟨p, a', nl, c'⟩ (by rw [Hx.out]; have h1 := Hnum.out; rw [Hx.out] at h1; dsimp only at h1; rw [h1]; rfl)]
              exact HB2.out.set _ _
            · have h1 := HG2.out
              rw [show (fun i => if i = p then keysOf (l.take j) many i ++ [kj] else keysOf (l.take j) many i) = fun i => keysOf (l.take (j + 1)) many i from funext fun i => (HK.out i).symm] at h1
              exact h1.but ((But.refl [w.heap.size] w2).setCell (.inl (by simp)) _) (by simp)
        · have hge : ¬ (j : Int) < (l.length : Int) := by omega
          have HBf := Lib.hid hr.out.2.2.1
          have HGf : Hid (Gs wr (w.heap.size + 1) 27 gs (fun i => keysOf l many i)) := by
            have h1 := hr.out.2.2.2
            rw [List.take_of_length_le (by omega : l.length ≤ j)] at h1
            exact h1
          have hgl := hr.out.2.1
          have Hgl := Lib.hid hgl
          have hzw := Hb.out.size
          have hzw : w.heap.size + 1 ≤ wr.heap.size := by simpa using hzw
          have hdel := gdelete_any wr w.heap.size many gs HBf.out (by omega) (by omega) (by omega)
          rw [hgl] at hdel
          have Hdel := Lib.hid hdel
          clear hdel hgl hr
          go_wp2_with fail
          refine Hdel.out.mono ?_
          rintro e w2 ⟨rfl, ⟨rest, hB2⟩, hbut2⟩
          have HB2 := Lib.hid hB2
          have Hbut2 := Lib.hid hbut2
          have Hfl : Hid ((gs.filter fullB).length ≤ many) := by unfold Hid; rw [← Hgl.out]; exact List.length_filter_le _ _
          have hsort := sort_any (w := w2) (b := w.heap.size) Try.sortGroup Try.isAgg61 Try.sizeOf61 grpL_len grpL_one cfG swoG 29 (fun args w => enters_of Try.func29 (by kernel_rfl) rfl args w) (fun x y W => cmpg_any x y W) many (gs.filter fullB) rest HB2.out (by have := Hfl.out; omega)
          change Calls Try.prog 28 _ _ _ at hsort
          have Hsort := Lib.hid hsort
          have hfl := Hfl.out
          clear hsort hB2 hbut2
          obtain ⟨nf, hnf⟩ : ∃ nf, (gs.filter fullB).length = nf := ⟨_, rfl⟩
          rw [hnf] at Hsort hfl ⊢
          have Hnf := Lib.hid hnf
          clear hnf
          go_wp2_with fail
          refine Hsort.out.mono ?_
          rintro e w3 ⟨rfl, G, hperm, hs, hrow, hbut3⟩
          have HR := groups_end (w := w) (w2 := w2) Hgl.out HGf.out (by omega) hperm hs hrow (((But.refl _ w).alloc _).trans ((Hb.out.trans (Hbut2.out.trans hbut3))) |>.below (Nat.le_refl _) (by simp)) (Hbut2.out.trans hbut3)
          rw [Hnf.out] at HR
          have HR := Lib.hid HR
          clear hperm hs hrow hbut3
          go_wp2
          go_ret
          exact HR.out
end Go.Proofs.Ytekmiegonnhidaa
