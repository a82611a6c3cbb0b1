/- The reference's index: how it lies; the walk over at. -/
import Derived.Test.YtnfbchhbcinloaaIo
namespace Go.IndexPure
open Go.XR
/-- where a key stands in rows in order, or would -/
def LowK (R : List RowT) (k : KeyT) (i : Nat) : Prop := i ≤ R.length ∧ (∀ q (h : q < R.length), q < i → cfK R[q].1 k < 0) ∧ (∀ q (h : q < R.length), i ≤ q → ¬ cfK R[q].1 k < 0)
def SrtA (R : List RowT) : Prop := R.Pairwise (fun x y => cfA x y < 0)
theorem cfK_self (k : KeyT) : cfK k k = 0 := (cfK_zero k k).2 rfl
theorem low_mem {R : List RowT} (hs : SrtA R) {k : KeyT} {i : Nat} (h : LowK R k i) : k ∈ R.map (·.1) ↔ ∃ hi : i < R.length, R[i].1 = k := by
  constructor
  · intro hm
    obtain ⟨r, hr, he⟩ := List.mem_map.1 hm
    obtain ⟨q, hq, rfl⟩ := List.getElem_of_mem hr
    have he' : R[q].1 = k := he
    by_cases c : q < i
    · have := h.2.1 q hq c; rw [he', cfK_self] at this; omega
    · have hi : i < R.length := by omega
      refine ⟨hi, ?_⟩
      by_cases d : i = q
      · subst d; exact he'
      · have h1 := List.pairwise_iff_getElem.1 hs i q hi hq (by omega)
        have h2 := h.2.2 i hi (Nat.le_refl _)
        unfold cfA at h1
        rw [he'] at h1
        exact absurd h1 h2
  · rintro ⟨hi, he⟩
    exact List.mem_map.2 ⟨R[i], List.getElem_mem hi, he⟩
end Go.IndexPure
namespace Go.Proofs.Ytnfbchhbcinloaa
open Go.RowKit Go.XR Go.IndexPure
/-- the reference's index: one cell, the slice of its rows; apart from the blocks F -/
def RefIx (w : World) (b : Nat) (R : List RowT) (F : List Nat) : Prop :=
  ∃ a c, Blk w b [.slice a R.length c] ∧ Row w a (R.flatMap rowL) ∧ R.length ≤ c ∧ c ≤ maxLen ∧ b ∉ F ∧ (a = none → c = 0) ∧ (∀ x, a = some x → x.block ≠ b ∧ x.block ∉ F ∧ x.block < w.heap.size ∧ x = ⟨x.block, 0, none⟩)
theorem RefIx.but {w w' : World} {b : Nat} {R : List RowT} {F S : List Nat} (h : RefIx w b R F) (hb : But S w w') (hS : ∀ i ∈ S, i ∈ F ∨ w.heap.size ≤ i) : RefIx w' b R F := by
  obtain ⟨a, c, h1, h2, h3, h4, h5, h7', h6⟩ := h
  have hn : ∀ i, i < w.heap.size → i ∉ F → i ∉ S := fun i h7 h8 h9 => by
    rcases hS i h9 with h | h
    · exact h8 h
    · omega
  refine ⟨a, c, h1.but hb (hn b h1.lt h5), h2.but hb fun g o ha => ?_, h3, h4, h5, h7', fun x hx => ⟨(h6 x hx).1, (h6 x hx).2.1, Nat.lt_of_lt_of_le (h6 x hx).2.2.1 hb.size, (h6 x hx).2.2.2⟩⟩
  have := h6 _ ha
  exact hn g this.2.2.1 this.2.1
theorem RefIx.below {w w' : World} {b : Nat} {R : List RowT} {F : List Nat} (h : RefIx w b R F) (hb : Below w.heap.size w w') : RefIx w' b R F := h.but (S := []) (But.of_below hb) (fun i hi => by cases hi)
theorem RefIx.grew {w : World} {b : Nat} {R : List RowT} {F F' : List Nat} (h : RefIx w b R F) (hg : Grew w F F') : RefIx w b R F' := by
  obtain ⟨a, c, h1, h2, h3, h4, h5, h7', h6⟩ := h
  have hn : ∀ i, i < w.heap.size → i ∉ F → i ∉ F' := fun i h7 h8 h9 => by
    rcases hg i h9 with h | h
    · exact h8 h
    · omega
  exact ⟨a, c, h1, h2, h3, h4, hn b h1.lt h5, h7', fun x hx => ⟨(h6 x hx).1, hn _ (h6 x hx).2.2.1 (h6 x hx).2.1, (h6 x hx).2.2⟩⟩
def RetAt (w : World) (R : List RowT) (k : KeyT) (e : Ending) (w' : World) : Prop :=
  ∃ i : Nat, LowK R k i ∧ e = .returned (.tuple #[.int .i64 i, .bool (decide (k ∈ R.map (·.1)))]) ∧ Below w.heap.size w w'
set_option maxHeartbeats 2000000 in
set_option maxRecDepth 100000 in
theorem refat_any (w : World) (b : Nat) (a : Option Addr) (c : Nat) (R : List RowT) (hB : Blk w b [.slice a R.length c]) (hRow : Row w a (R.flatMap rowL)) (hs : SrtA R) (hlen : R.length ≤ 2^40) (k : KeyT) :
    Calls Try.prog 54 #[.pointer (some ⟨b, 0, none⟩), keyV k] w (RetAt w R k) := by
  obtain ⟨W0, hW0⟩ : ∃ W0, w.alloc (.cells (keyC k) 27) = W0 := ⟨_, rfl⟩
  have hb0 : Below w.heap.size w W0 := by rw [← hW0]; exact (Below.refl _ _).alloc (Nat.le_refl _) _
  have HB := Lib.hid (hB.below hb0)
  have HR := Lib.hid (hRow.below hb0)
  have HS := Lib.hid hs
  have HK : Hid (At W0 w.heap.size 0 (keyC k)) := by unfold Hid; rw [← hW0]; exact At.new _ _ _
  have Hb0 := Lib.hid hb0
  clear hB hRow hs hb0
  obtain ⟨kb, hkb⟩ : ∃ kb, w.heap.size = kb := ⟨_, rfl⟩
  rw [hkb] at HK
  go_enter Try.func54, Try.ntmps54
  go_wp2
  clear hW0 hkb
  go_loopg [6] R.length (fun m x wr => Below W0.heap.size W0 wr ∧ ∃ i : Nat, x = .int .i64 i ∧ Hid (m = R.length - i ∧ i ≤ R.length ∧ ∀ q (h : q < R.length), q < i → cfK R[q].1 k < 0))
  case atStart => exact ⟨Below.refl _ _, 0, rfl, rfl, Nat.zero_le _, fun q h h2 => by omega⟩
  case round =>
    obtain ⟨hb, i, rfl, hr⟩ := hrel
    have hgn := hr.out.1
    have hi := hr.out.2.1
    have Hlo := Lib.hid hr.out.2.2
    have Hb := Lib.hid hb
    have c0 := (HB.out.below hb).cell (i := 0) rfl
    have hbl : b < wr.heap.size := (HB.out.below hb).lt
    have hS0 : Below wr.heap.size wr wr.drew := (Below.refl _ _).drew
    have HKr := Lib.hid (HK.out.below (by rw [keyC_size]; omega) hb)
    clear hr hb
    by_cases hlt : i < R.length
    · have hlt2 : (i : Int) < (R.length : Int) := by omega
      obtain ⟨g, o, rfl, hX⟩ := row_at rowL_length (HR.out.below Hb.out) hlt (by omega)
      have HX : Hid (At wr g (o + i * 35) (rowC R[i])) := hX
      have HLo1 : Hid (cfK R[i].1 k < 0 → ∀ q (h : q < R.length), q < i + 1 → cfK R[q].1 k < 0) := fun h1 q h h2 => by
        by_cases e : q = i
        · subst e; exact h1
        · exact Hlo.out q h (by omega)
      have HLow : Hid (¬ cfK R[i].1 k < 0 → LowK R k i) := fun h1 => by
        refine ⟨hi, Hlo.out, fun q h h2 h3 => ?_⟩
        by_cases e : q = i
        · subst e; exact h1 h3
        · have h4 := List.pairwise_iff_getElem.1 HS.out i q hlt h (by omega)
          exact h1 (cfK_trans _ _ _ h4 h3)
      have HIs : Hid (LowK R k i → decide (k ∈ R.map (·.1)) = decide (R[i].1 = k)) := fun h1 => by
        refine decide_eq_decide.2 ((low_mem HS.out h1).trans ⟨fun ⟨_, h⟩ => h, fun h => ⟨hlt, h⟩⟩)
      clear hX Hlo
      generalize R[i] = r at *
      go_wp2
      refine Go.XR.region_sched ((Below wr.heap.size wr)) [(0, true), (1, true), (2, true), (3, true), (4, true), (5, true), (6, true), (7, true), (8, true), (9, true), (10, true), (11, true), (12, true), (13, true), (14, true), (15, true), (16, true), (17, false), (18, false)] [17, 18] Try.mixed (by kernel_rfl) (by kernel_rfl) (by kernel_rfl) ?_
      simp only [List.map_cons, List.map_nil, List.getElem?_cons_succ, List.getElem?_cons_zero]
      repeat (first | (refine Go.XR.S_light rfl rfl (by assumption) ?_ (fun w' hS K hK => ?_) (fun K hK => ?_); rotate_left 1; (have hS1 := bcell hS; (first | (first | (refine Go.XR.wp_load_at 27 (.tmp 21) rfl g (o + i * 35) rfl (keyC r.1) ((row_at_key HX.out).below (by rw [keyC_size]; omega) hS) _ Try.underlying27 rfl (keySize r.1) ?_) | (refine Go.XR.wp_load_at 27 (.tmp 3) rfl kb 0 rfl (keyC k) (HKr.out.below (by rw [keyC_size]; omega) hS) _ Try.underlying27 rfl (keySize k) ?_)) | go_step); exact hK); go_step; refine hK _ ?_; clear hK K) | (refine Go.XR.S_light_off rfl (by assumption) (fun K hK => ?_); go_step; refine hK _ ?_; clear hK K) | (refine Go.XR.S_light_on rfl rfl rfl (by assumption) ?_ (fun w' hS K hK => ?_) (fun K hK => ?_); rotate_left 1; (have hS1 := bcell hS; (first | (first | (refine Go.XR.wp_load_at 27 (.tmp 21) rfl g (o + i * 35) rfl (keyC r.1) ((row_at_key HX.out).below (by rw [keyC_size]; omega) hS) _ Try.underlying27 rfl (keySize r.1) ?_) | (refine Go.XR.wp_load_at 27 (.tmp 3) rfl kb 0 rfl (keyC k) (HKr.out.below (by rw [keyC_size]; omega) hS) _ Try.underlying27 rfl (keySize k) ?_)) | go_step); exact hK); go_step; refine hK _ ?_; clear hK K))
      refine Go.XR.S_heavy_on rfl (fun K hK => ?_)
      go_step
      ((with_reducible refine (less_any wr.drew r.1 k).mono ?_); rintro e w3 ⟨rfl, hb3⟩)
      have Hb3 := Lib.hid (hS0.trans hb3)
      refine hK _ _ ⟨fun h => by simp at h, ?_⟩
      clear hK K hb3
      by_cases hc : cfK r.1 k < 0
      · rw [decide_eq_true hc]
        have Hc := Lib.hid hc
        clear hc
        repeat (first | (refine Go.XR.S_heavy (fun K hK => ?_); go_step; refine hK _ _ ⟨fun h => by simp at h, ?_⟩; clear hK K) | (refine Go.XR.S_heavy_off rfl (fun h => by simp at h) (fun K hK => ?_); go_step; refine hK _ ?_; clear hK K) | (refine Go.XR.S_heavy_on rfl (fun K hK => ?_); go_step; refine hK _ _ ⟨fun h => by simp at h, ?_⟩; clear hK K))
        refine Go.XR.S_nil ?_
        go_wp2
        go_roundg (R.length - (i + 1))
        case measure => omega
        case rel => exact ⟨Hb.out.trans (Hb3.out.mono Hb.out.size), i + 1, by go_num, rfl, by omega, HLo1.out Hc.out⟩
      · rw [decide_eq_false hc]
        have Hlow := Lib.hid (HLow.out (by omega))
        have His := Lib.hid (HIs.out Hlow.out)
        clear hc hS0 c0 hbl
        repeat (first | (refine Go.XR.S_heavy (fun K hK => ?_); go_step; refine hK _ _ ⟨fun h => by simp at h, ?_⟩; clear hK K) | (refine Go.XR.S_heavy_off rfl (fun h => by simp at h) (fun K hK => ?_); go_step; refine hK _ ?_; clear hK K) | (refine Go.XR.S_heavy_on rfl (fun K hK => ?_); go_step; refine hK _ _ ⟨fun h => by simp at h, ?_⟩; clear hK K))
        refine Go.XR.S_nil ?_
        have c0 := ((HB.out.below Hb.out).below Hb3.out).cell (i := 0) rfl
        have HX3 := Lib.hid (HX.out.below (by rw [rowC_size]; omega) Hb3.out)
        have HK3 := Lib.hid (HKr.out.below (by rw [keyC_size]; omega) Hb3.out)
        have Heq := Lib.hid (key_eq r.1 k w3.drew)
        go_wp2
        refine Go.XR.region_sched ((· = w3.drew)) [(0, true), (1, true), (2, true), (3, true), (4, true), (5, true), (6, true), (7, true), (8, true), (9, true), (10, true), (11, true), (12, true), (13, true), (14, true), (15, true), (16, true), (17, true), (18, true), (19, true), (20, true), (21, false)] [21] Try.mixed (by kernel_rfl) (by kernel_rfl) (by kernel_rfl) ?_
        simp only [List.map_cons, List.map_nil, List.getElem?_cons_succ, List.getElem?_cons_zero]
        repeat (first | (refine Go.XR.S_light rfl rfl rfl ?_ (fun w' hS K hK => ?_) (fun K hK => ?_); rotate_left 1; (cases hS; (first | (first | (refine Go.XR.wp_load_at 27 (.tmp 43) rfl g (o + i * 35) rfl (keyC r.1) (At.drew (row_at_key HX3.out)) _ Try.underlying27 rfl (keySize r.1) ?_) | (refine Go.XR.wp_load_at 27 (.tmp 3) rfl kb 0 rfl (keyC k) (At.drew HK3.out) _ Try.underlying27 rfl (keySize k) ?_) | (refine Go.XR.wp_agg_eql 27 (.tmp 44) (.tmp 45) _ rfl (keyC r.1) (keyC k) rfl rfl keyGuard _ Heq.out ?_)) | go_step); exact hK); go_step; refine hK _ ?_; clear hK K) | (refine Go.XR.S_light_off rfl rfl (fun K hK => ?_); go_step; refine hK _ ?_; clear hK K) | (refine Go.XR.S_light_on rfl rfl rfl rfl ?_ (fun w' hS K hK => ?_) (fun K hK => ?_); rotate_left 1; (cases hS; (first | (first | (refine Go.XR.wp_load_at 27 (.tmp 43) rfl g (o + i * 35) rfl (keyC r.1) (At.drew (row_at_key HX3.out)) _ Try.underlying27 rfl (keySize r.1) ?_) | (refine Go.XR.wp_load_at 27 (.tmp 3) rfl kb 0 rfl (keyC k) (At.drew HK3.out) _ Try.underlying27 rfl (keySize k) ?_) | (refine Go.XR.wp_agg_eql 27 (.tmp 44) (.tmp 45) _ rfl (keyC r.1) (keyC k) rfl rfl keyGuard _ Heq.out ?_)) | go_step); exact hK); go_step; refine hK _ ?_; clear hK K))
        repeat (first | (refine Go.XR.S_heavy (fun K hK => ?_); go_step; refine hK _ _ ⟨fun h => by simp at h, ?_⟩; clear hK K) | (refine Go.XR.S_heavy_off rfl (fun h => by simp at h) (fun K hK => ?_); go_step; refine hK _ ?_; clear hK K) | (refine Go.XR.S_heavy_on rfl (fun K hK => ?_); go_step; refine hK _ _ ⟨fun h => by simp at h, ?_⟩; clear hK K))
        refine Go.XR.S_nil ?_
        have HbE := Lib.hid (Hb0.out.trans ((Hb.out.trans (Hb3.out.mono Hb.out.size)).mono Hb0.out.size))
        rw [← His.out]
        go_wp2
        go_ret2
        exact ⟨i, Hlow.out, rfl, HbE.out.drew⟩
    · have hge : ¬ (i : Int) < (R.length : Int) := by omega
      have Hlow : Hid (LowK R k i) := ⟨hi, Hlo.out, fun q h h2 => by omega⟩
      have His : Hid (decide (k ∈ R.map (·.1)) = false) := decide_eq_false fun h => by
        obtain ⟨h1, _⟩ := (low_mem HS.out Hlow.out).1 h
        omega
      clear hS0
      have HbE := Lib.hid (Hb0.out.trans (Hb.out.mono Hb0.out.size))
      go_wp2
      refine Go.XR.region_sched ((· = wr.drew)) [(0, true), (1, true), (2, true), (3, true), (4, true), (5, true), (6, true), (7, true), (8, true), (9, true), (10, true), (11, true), (12, true), (13, true), (14, true), (15, true), (16, true), (17, false), (18, false)] [17, 18] Try.mixed (by kernel_rfl) (by kernel_rfl) (by kernel_rfl) ?_
      simp only [List.map_cons, List.map_nil, List.getElem?_cons_succ, List.getElem?_cons_zero]
      repeat (first | (refine Go.XR.S_light rfl rfl rfl ?_ (fun w' hS K hK => ?_) (fun K hK => ?_); rotate_left 1; (cases hS; go_step; exact hK); go_step; refine hK _ ?_; clear hK K) | (refine Go.XR.S_light_off rfl rfl (fun K hK => ?_); go_step; refine hK _ ?_; clear hK K) | (refine Go.XR.S_light_on rfl rfl rfl rfl ?_ (fun w' hS K hK => ?_) (fun K hK => ?_); rotate_left 1; (cases hS; go_step; exact hK); go_step; refine hK _ ?_; clear hK K))
      repeat (first | (refine Go.XR.S_heavy (fun K hK => ?_); go_step; refine hK _ _ ⟨fun h => by simp at h, ?_⟩; clear hK K) | (refine Go.XR.S_heavy_off rfl (fun h => by simp at h) (fun K hK => ?_); go_step; refine hK _ ?_; clear hK K) | (refine Go.XR.S_heavy_on rfl (fun K hK => ?_); go_step; refine hK _ _ ⟨fun h => by simp at h, ?_⟩; clear hK K))
      refine Go.XR.S_nil ?_
      go_wp2
      refine Go.XR.region_sched ((· = wr.drew.drew)) [(0, true), (1, true), (2, true), (3, true), (4, true), (5, true), (6, true), (7, true), (8, true), (9, true), (10, true), (11, true), (12, true), (13, true), (14, true), (15, true), (16, true), (17, true), (18, true), (19, true), (20, true), (21, false)] [21] Try.mixed (by kernel_rfl) (by kernel_rfl) (by kernel_rfl) ?_
      simp only [List.map_cons, List.map_nil, List.getElem?_cons_succ, List.getElem?_cons_zero]
      repeat (first | (refine Go.XR.S_light rfl rfl rfl ?_ (fun w' hS K hK => ?_) (fun K hK => ?_); rotate_left 1; (cases hS; go_step; exact hK); go_step; refine hK _ ?_; clear hK K) | (refine Go.XR.S_light_off rfl rfl (fun K hK => ?_); go_step; refine hK _ ?_; clear hK K) | (refine Go.XR.S_light_on rfl rfl rfl rfl ?_ (fun w' hS K hK => ?_) (fun K hK => ?_); rotate_left 1; (cases hS; go_step; exact hK); go_step; refine hK _ ?_; clear hK K))
      repeat (first | (refine Go.XR.S_heavy (fun K hK => ?_); go_step; refine hK _ _ ⟨fun h => by simp at h, ?_⟩; clear hK K) | (refine Go.XR.S_heavy_off rfl (fun h => by simp at h) (fun K hK => ?_); go_step; refine hK _ ?_; clear hK K) | (refine Go.XR.S_heavy_on rfl (fun K hK => ?_); go_step; refine hK _ _ ⟨fun h => by simp at h, ?_⟩; clear hK K))
      refine Go.XR.S_nil ?_
      go_wp2
      go_ret2
      exact ⟨i, Hlow.out, by rw [His.out]; rfl, HbE.out.drew.drew⟩
end Go.Proofs.Ytnfbchhbcinloaa
