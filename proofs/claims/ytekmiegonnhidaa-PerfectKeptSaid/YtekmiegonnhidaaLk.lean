/- The walk over the statement PerfectKept. -/
import Derived.Test.YtekmiegonnhidaaLu
namespace Go.Proofs.Ytekmiegonnhidaa
open Go.RowKit Go.XR Go.PerfPure
def k99 : KeyT := ⟨Vector.replicate 32 0, 99⟩
/-- the list that is written over, from j on as it was -/
def Own (w : World) (b : Nat) (U : List KeyT) (j : Nat) : Prop :=
  ∃ cur : Array Value, w.heap[b]? = some (.cells cur 27 (0, 0)) ∧ U.length * 33 ≤ cur.size ∧ ∀ i (h : i < U.length), j ≤ i → ∀ q, q < 33 → cur[i * 33 + q]? = (keyC U[i])[q]?
theorem Own.at_ {w : World} {b : Nat} {U : List KeyT} {j : Nat} (h : Own w b U j) {i : Nat} (hi : i < U.length) (hj : j ≤ i) : At w b (i * 33) (keyC U[i]) := by
  obtain ⟨cur, h1, h2, h3⟩ := h
  intro q u hq
  have hq33 : q < 33 := by have := (Array.getElem?_eq_some_iff.1 hq).1; rwa [keyC_size] at this
  rw [cell_of_row w b _ cur 27 _ h1, h3 i hi hj q hq33]
  exact hq
theorem Own.of {w : World} {base : Nat} {b c : Nat} {U : List KeyT} (h : w.ownsRow base 27 33 (.slice (some ⟨b, 0, none⟩) U.length c) U.length (U.flatMap keyL)) : Own w b U 0 := by
  rcases h.2 with ⟨h1, _⟩ | ⟨g, cap, cur, h1, h2, h3, h4, h5, h6, h7⟩
  · cases h1
  · cases h1
    refine ⟨cur, h3, by rw [h6]; exact Nat.mul_le_mul_right _ h4, fun i hi _ q hq => ?_⟩
    have h8 := flat_get keyL_length U hi hq
    have hlt : i * 33 + q < U.length * 33 := by
      have := Nat.mul_le_mul_right 33 (show i + 1 ≤ U.length by omega)
      omega
    rw [← h7, List.getElem?_take, if_pos hlt] at h8
    rw [← Array.getElem?_toList, h8]
    unfold keyC
    rw [List.getElem?_toArray]
theorem Own.heap {w w' : World} {b : Nat} {U : List KeyT} {j : Nat} (h : Own w b U j) (hh : w'.heap[b]? = w.heap[b]?) : Own w' b U j := by
  obtain ⟨cur, h1, h2⟩ := h
  exact ⟨cur, hh.trans h1, h2⟩
theorem Own.lt {w : World} {b : Nat} {U : List KeyT} {j : Nat} (h : Own w b U j) : b < w.heap.size := by
  obtain ⟨cur, h1, h2⟩ := h
  exact (Array.getElem?_eq_some_iff.1 h1).1
theorem Own.next {w : World} {b : Nat} {U : List KeyT} {j : Nat} {cur : Array Value} (h1 : w.heap[b]? = some (.cells cur 27 (0, 0))) (h2 : U.length * 33 ≤ cur.size) (h3 : ∀ i (h : i < U.length), j ≤ i → ∀ q, q < 33 → cur[i * 33 + q]? = (keyC U[i])[q]?) (hj : j < U.length) (cs : Array Value) (hc : cs.size = 33) :
    Own (w.setRow b (cur.toList.take (j * 33) ++ cs.toList ++ cur.toList.drop (j * 33 + cs.size)).toArray) b U (j + 1) := by
  have hjl : (j + 1) * 33 ≤ cur.size := Nat.le_trans (Nat.mul_le_mul_right 33 hj) h2
  refine ⟨_, setRow_heap w b _ _ _ _ h1, ?_, fun i hi hji q hq => ?_⟩
  · simp [hc]; omega
  · rw [← h3 i hi (by omega) q hq, List.getElem?_toArray]
    have hlt : (j + 1) * 33 ≤ i * 33 := Nat.mul_le_mul_right 33 hji
    rw [List.append_assoc, List.getElem?_append_right (by simp; omega), List.getElem?_append_right (by simp [hc]; omega), List.getElem?_drop, Array.getElem?_toList]
    congr 1
    simp [hc]; omega
theorem keyC_first (k : KeyT) : (keyC k)[0]? = some (bV k.sum[0]) := by
  unfold keyC
  rw [List.getElem?_toArray]
  unfold keyL
  rw [List.getElem?_append_left (by rw [sumL_length]; omega)]
  have h := sumC_get k.sum (i := 0) (by omega)
  unfold sumC at h
  rw [List.getElem?_toArray] at h
  exact h
/-- a map of places is no list of keys: what is written into that list leaves it -/
theorem map_apart {w w' : World} {p ob : Nat} {b : Built} {U : List KeyT} {S : List Nat} (h : MapRep w p b) (hO : Own w ob U 0) (ht : 0 < b.tries.length) (hS : ∀ i ∈ S, i = ob ∧ 0 < U.length) (hb : But S w w') : MapRep w' p b := by
  obtain ⟨rb, sb, h1, h2, h3⟩ := h
  obtain ⟨cur, q1, q2, q3⟩ := hO
  refine ⟨rb, sb, h1.but hb fun hm => ?_, h2.but hb fun hm => ?_, h3.but hb fun hm => ?_⟩
  · obtain ⟨rfl, hU⟩ := hS _ hm
    obtain ⟨T, h1⟩ := h1
    rw [q1] at h1
    injection h1 with h1
    injection h1 with h4 _ _
    subst h4
    simp at q2; omega
  · obtain ⟨rfl, hU⟩ := hS _ hm
    have h4 := h2.cell (i := 0) (v := .int .u16 (b.tries[0] : Nat)) (by
      have h := flat_get (enc := u16L) (k := 1) (fun _ => rfl) b.tries (i := 0) (j := 0) ht (by omega)
      rw [Nat.zero_mul, Nat.add_zero] at h
      rw [h]; rfl)
    rw [cell_of_row w _ _ cur 27 _ q1] at h4
    have h5 := q3 0 hU (Nat.le_refl _) 0 (by omega)
    rw [Nat.zero_mul, Nat.add_zero, h4, keyC_first] at h5
    unfold bV at h5
    cases h5
  · obtain ⟨rfl, hU⟩ := hS _ hm
    obtain ⟨es, clock, h4, _⟩ := h3
    rw [q1] at h4
    injection h4 with h4
    cases h4
set_option maxHeartbeats 4000000 in
set_option maxRecDepth 100000 in
theorem kept_walk (w : World) (la : Option Addr) (lc : Nat) (l : List KeyT) (hL : Row w la (l.flatMap keyL)) (hl : l.length ≤ maxLen) (hc : l.length ≤ lc) :
    Calls Try.prog 5 #[.slice la l.length lc] w (RetBool w true) := by
  obtain ⟨zs, hzs, hz⟩ := zero_key
  have Hz := Lib.hid hz
  clear hz
  have HL := Lib.hid hL
  have Hun := Lib.hid (fun W (h : Row W la (l.flatMap keyL)) => unlike_any W la lc l h hl hc)
  have Hul : Hid ((unlikeP (l.take 400)).length ≤ 400) := Nat.le_trans (unlike_len _) (few_len l)
  have Hud := Lib.hid (unlike_nodup (l.take 400))
  clear hL hl hc
  go_enter Try.func5, Try.ntmps5
  go_wp2_with fail
  refine (shown_any _).mono ?_
  rintro e w1 ⟨rfl, hb1⟩
  have Hb1 := Lib.hid hb1
  clear hb1
  go_wp2_with fail
  refine (Hun.out _ (HL.out.below Hb1.out)).mono ?_
  rintro e w2 ⟨ua, uc, rfl, hown, hb2⟩
  have Hb2 := Lib.hid (Hb1.out.trans (hb2.mono Hb1.out.size))
  have HU2 := Lib.hid (Row.owned hown)
  have Hun2 : Hid (ua = none → (unlikeP (l.take 400)).length = 0 ∧ uc = 0) := fun e => by subst e; exact owns_nil hown
  have Hub : Hid (∀ g o, ua = some ⟨g, o, none⟩ → g < w2.heap.size) := fun g o e => by subst e; exact (owns_lt hown).2
  clear hown hb2 Hun Hb1 HL
  generalize unlikeP (l.take 400) = U at *
  generalize l.length = n0 at *
  have hul := Hul.out
  go_wp2_with (at_builtin; refine Go.XR.stop (fun X hX => ?_))
  refine hX.out ?_
  clear hX X
  refine wpList_plain rfl (fun K hK => ?_)
  refine append_enc (P := Try.prog) keyL 33 36 keyL_length one_keyL 27 Try.underlying31 (by kernel_rfl) (by decide) w2.heap.size (some ⟨w2.heap.size, 0, none⟩) 0 [] rfl (World.ownsRow_lit w2 #[] 0 (Nat.le_refl _) (by decide) rfl) ua uc U rfl (HU2.out.below ((Below.refl _ _).alloc (Nat.le_refl _) _)) Hun2.out (by simp; omega) (by unfold maxLen; simp; omega) (by simp) ?_
  intro a3 c3 w3 ho3 hb3 hn3 _
  rw [List.nil_append] at ho3 ⊢
  obtain ⟨ob, rfl⟩ : ∃ ob, a3 = some ⟨ob, 0, none⟩ := by
    rcases ho3.2 with ⟨h1, h2⟩ | ⟨g, cap, cur, h1, h2, h3, h4, h5, h6, h7⟩
    · injection h1 with h1 _ _
      exact absurd (hn3.1 h1).1 (by simp)
    · injection h1 with h1 _ _
      exact ⟨g, h1⟩
  have hob := owns_lt ho3
  dsimp only at hob
  have hwob : w.heap.size ≤ ob := Nat.le_trans Hb2.out.size hob.1
  have Hr3 := Lib.hid (Row.owned ho3)
  have HO3 := Lib.hid (Own.of ho3)
  have hb23 : Below w2.heap.size w2 w3 := ((Below.refl _ _).alloc (Nat.le_refl _) _).trans hb3
  have Hb3 := Lib.hid (Hb2.out.trans (hb23.mono Hb2.out.size))
  have HU3 := Lib.hid (HU2.out.below hb23)
  clear ho3 hb3 hn3 hb23 Hb2 HU2 Hun2
  go_wp2_with fail
  refine (build_any _ (some ⟨ob, 0, none⟩) c3 U Hr3.out (by omega)).mono ?_
  intro e w4 h4
  obtain ⟨hb4, p, rfl, hp⟩ := h4.okE (by omega) Hud.out
  have Hp4 := Lib.hid hp
  have Hb4 := Lib.hid (Hb3.out.trans (hb4.mono Hb3.out.size))
  have HU4 := Lib.hid (HU3.out.below hb4)
  have HO4 : Hid (Own w4 ob U 0) := HO3.out.heap (hb4.block ob hob.2)
  have hz4 := hb4.size
  clear h4 hb4 hp Hb3 HU3 HO3 Hr3
  obtain ⟨S, hS1, hS2⟩ : ∃ S : List Nat, (∀ i ∈ S, i = ob ∧ 0 < U.length) ∧ (0 < U.length → ob ∈ S) := by
    by_cases c : 0 < U.length
    · exact ⟨[ob], fun i hi => ⟨List.mem_singleton.1 hi, c⟩, fun _ => by simp⟩
    · exact ⟨[], fun i hi => (by cases hi), fun h => absurd h c⟩
  have HS1 := Lib.hid hS1
  have HS2 := Lib.hid hS2
  clear hS1 hS2
  have HO4' := HO4
  go_wp2
  go_loopg [26, 8] U.length (fun n i _ w5 => But S w4 w5 ∧ ∃ j : Nat, j ≤ U.length ∧ i = .int .i64 j ∧ Hid (n = U.length - j ∧ Own w5 ob U j))
  case atStart => exact ⟨But.refl _ _, 0, by omega, rfl, rfl, HO4.out⟩
  case round =>
    clear HO4
    obtain ⟨hb5, j, hj, rfl, hr⟩ := hrel
    have Hb5 := Lib.hid hb5
    have HO5 := Lib.hid hr.out.2
    have hgn := hr.out.1
    clear hb5 hr
    have HU5 := Lib.hid (HU4.out.but Hb5.out (fun g o e hm => by have := Hub.out g o e; have := (HS1.out _ hm).1; omega))
    by_cases hlt : j < U.length
    · have hlt2 : (j : Int) < (U.length : Int) := by omega
      obtain ⟨g, o, rfl⟩ := row_some HU5.out (by omega)
      have HX := Lib.hid (row_key HU5.out hlt)
      have HY := Lib.hid (HO5.out.at_ hlt (Nat.le_refl _))
      obtain ⟨cur, q1, q2, q3⟩ := HO5.out
      have HN := Lib.hid (Own.next (w := wr.drew) q1 q2 q3 hlt (keyC k99) (keyC_size _))
      have Hq1 : Hid (wr.drew.heap[ob]? = some (.cells cur 27 (0, 0))) := q1
      have hq2 : j * 33 + 33 ≤ cur.size := Nat.le_trans (by have := Nat.mul_le_mul_right 33 (show j + 1 ≤ U.length by omega); omega) q2
      clear q1 q2 q3
      generalize U[j] = kj at *
      have heq : (Op.equal 27 (keyV kj) (keyV kj)).run Try.prog wr.drew = .ok true wr.drew := by have h := key_eq kj kj wr.drew; rwa [decide_eq_true rfl] at h
      have Heq := Lib.hid heq
      clear heq
      go_wp2
      refine Go.XR.region_sched ((· = wr.drew)) [(0, true), (1, true), (2, true), (3, true), (4, true), (5, true), (6, true), (7, true), (8, false)] [8] Try.mixed (by kernel_rfl) (by kernel_rfl) (by kernel_rfl) ?_
      simp only [List.map_cons, List.map_nil, List.getElem?_cons_succ, List.getElem?_cons_zero]
      repeat (first | (refine Go.XR.S_light rfl rfl rfl ?_ (fun w' hS K hK => ?_) (fun K hK => ?_); rotate_left 1; (cases hS; (first | (first | (refine Go.XR.wp_load_at 27 _ rfl g (o + j * 33) rfl (keyC kj) (At.drew HX.out) _ Try.underlying27 rfl (keySize kj) ?_) | (refine Go.XR.wp_load_at 27 _ rfl ob (j * 33) rfl (keyC kj) (At.drew HY.out) _ Try.underlying27 rfl (keySize kj) ?_)) | go_step); exact hK); go_step; refine hK _ ?_; clear hK K))
      refine Go.XR.S_heavy (fun K hK => ?_)
      refine Go.XR.wp_agg_neq 27 _ _ _ rfl (keyC kj) (keyC kj) rfl rfl keyGuard _ Heq.out ?_
      refine hK _ _ ⟨fun h => by simp at h, ?_⟩
      clear hK K
      refine Go.XR.S_nil ?_
      go_wp2_with (refine wpList_plain rfl (fun K hK => ?_); refine Go.XR.wp_store_at 27 _ _ rfl ob (j * 33) rfl (keyC k99) cur rfl 27 Hq1.out (by rw [keyC_size]; omega) (one_keyC k99) (keySize k99) ?_; refine hK _ _ ?_; clear hK K)
      try go_frame
      go_wp2
      go_roundg (U.length - (j + 1))
      case measure => omega
      case rel => exact ⟨Hb5.out.drew.setRow (.inl (HS2.out (by omega))) _, j + 1, by omega, by go_num, rfl, by have h := HN.out; rw [List.append_assoc] at h; exact h⟩
    · have hge : ¬ (j : Int) < (U.length : Int) := by omega
      have HB5 := Lib.hid (Hb4.out.trans (Hb5.out.below (B := w.heap.size) (by have := Hb4.out.size; omega) (fun i hi => by have := (HS1.out _ hi).1; omega)))
      have Hp5 := Lib.hid (map_apart Hp4.out HO4'.out (by rw [build_tries]; omega) HS1.out Hb5.out)
      clear HO5 Hb5 HU4 Hp4 Hb4 hlt hj
      go_wp2_with fail
      refine (build_any _ ua uc U HU5.out (by omega)).mono ?_
      intro e w6 h6
      obtain ⟨hb6, p2, rfl, hp2⟩ := h6.okE (by omega) Hud.out
      have HB6 := Lib.hid (HB5.out.trans (hb6.mono HB5.out.size))
      have Hp6 := Lib.hid (Hp5.out.below hb6)
      have Hn6 := Lib.hid hp2
      have HU6 := Lib.hid (HU5.out.below hb6)
      have Hok := Lib.hid (okB (l := U) (by omega))
      clear h6 hb6 hp2 HB5 Hp5 HU5 hge
      generalize buildP U = B at *
      go_wp2
      go_loopg [64] U.length (fun n i w7 => Below w6.heap.size w6 w7 ∧ ∃ j : Nat, j ≤ U.length ∧ i = .int .i64 j ∧ Hid (n = U.length - j))
      case atStart => exact ⟨Below.refl _ _, 0, by omega, rfl, rfl⟩
      case round =>
        obtain ⟨hb7, q, hq, rfl, hr⟩ := hrel
        have Hb7 := Lib.hid hb7
        have Hp7 := Lib.hid (Hp6.out.below hb7)
        have Hn7 := Lib.hid (Hn6.out.below hb7)
        clear hb7
        by_cases hlt : q < U.length
        · have hlt2 : (q : Int) < (U.length : Int) := by omega
          obtain ⟨g, o, rfl⟩ := row_some HU6.out (by omega)
          have HA := Lib.hid (At.below (row_key HU6.out hlt) (by rw [keyC_size]; omega) Hb7.out)
          generalize U[q] = kj at *
          go_wp2_with (first | (refine wpList_alloc_new rfl 27 rfl zs (Hz.out _) ?_) | (refine wpList_store_new rfl 27 _ _ rfl zs (keyC kj) 27 rfl rfl (by rw [hzs, keyC_size]) (one_keyC kj) (keySize kj) ?_) | (refine wpList_load_at rfl 27 _ rfl g (o + q * 33) rfl (keyC kj) HA.out _ Try.underlying27 rfl (keySize kj) ?_))
          obtain ⟨W8, hW8⟩ : ∃ W8, wr.alloc (.cells (keyC kj) 27) = W8 := ⟨_, rfl⟩
          obtain ⟨kb, hkb⟩ : ∃ kb, wr.heap.size = kb := ⟨_, rfl⟩
          have hb8 : Below wr.heap.size wr W8 := by rw [← hW8]; exact (Below.refl _ _).alloc (Nat.le_refl _) _
          have HK8 : Hid (At W8 kb 0 (keyC kj)) := by unfold Hid; rw [← hW8, ← hkb]; exact At.new _ _ _
          have Hp8 := Lib.hid (Hp7.out.below hb8)
          have Hn8 := Lib.hid (Hn7.out.below hb8)
          have HB8 := Lib.hid (Hb7.out.trans (hb8.mono Hb7.out.size))
          rw [hW8, hkb]
          clear hW8 hkb hb8 Hp7 Hn7 HA
          try go_frame
          have hS0 : Below W8.heap.size W8 W8.drew := (Below.refl _ _).drew
          refine Go.XR.region_sched ((Below W8.heap.size W8)) [(0, true), (1, true), (3, true), (4, true), (2, false), (5, false), (6, false)] [5, 6] Try.mixed (by kernel_rfl) (by kernel_rfl) (by kernel_rfl) ?_
          simp only [List.map_cons, List.map_nil, List.getElem?_cons_succ, List.getElem?_cons_zero]
          repeat (first | (refine Go.XR.S_light rfl rfl (by assumption) ?_ (fun w' hS K hK => ?_) (fun K hK => ?_); rotate_left 1; (have hS1 := bcell hS; (first | (refine Go.XR.wp_load_at 27 _ rfl kb 0 rfl (keyC kj) (At.below HK8.out (by rw [keyC_size]; omega) hS) _ Try.underlying27 rfl (keySize kj) ?_) | go_step); exact hK); go_step; refine hK _ ?_; clear hK K))
          refine Go.XR.S_heavy (fun K hK => ?_)
          go_step
          ((with_reducible refine (place_any W8.drew p _ (Hp8.out.below hS0) Hok.out kj).mono ?_); rintro e w' ⟨rfl, hb9⟩)
          have hS1 : Below W8.heap.size W8 w' := hS0.trans hb9
          refine hK _ _ ⟨fun _ => hS1, ?_⟩
          clear hK K
          repeat (first | (refine Go.XR.S_light rfl rfl (by assumption) ?_ (fun w' hS K hK => ?_) (fun K hK => ?_); rotate_left 1; (have hS1 := bcell hS; (first | (refine Go.XR.wp_load_at 27 _ rfl kb 0 rfl (keyC kj) (At.below HK8.out (by rw [keyC_size]; omega) hS) _ Try.underlying27 rfl (keySize kj) ?_) | go_step); exact hK); go_step; refine hK _ ?_; clear hK K))
          refine Go.XR.S_heavy (fun K hK => ?_)
          go_step
          ((with_reducible refine (place_any _ p2 _ (Hn8.out.below hS1) Hok.out kj).mono ?_); rintro e w' ⟨rfl, hb10⟩)
          have hS2 : Below W8.heap.size W8 w' := hS1.trans (hb10.mono hS1.size)
          have HBf : Hid (Below w6.heap.size w6 w') := HB8.out.trans (hS2.mono HB8.out.size)
          refine hK _ _ ⟨fun _ => hS2, ?_⟩
          clear hK K
          repeat (first | (refine Go.XR.S_light rfl rfl (by assumption) ?_ (fun w' hS K hK => ?_) (fun K hK => ?_); rotate_left 1; (have hS1 := bcell hS; (first | (refine Go.XR.wp_load_at 27 _ rfl kb 0 rfl (keyC kj) (At.below HK8.out (by rw [keyC_size]; omega) hS) _ Try.underlying27 rfl (keySize kj) ?_) | go_step); exact hK); go_step; refine hK _ ?_; clear hK K))
          repeat (first | (refine Go.XR.S_heavy (fun K hK => ?_); go_step; refine hK _ _ ⟨fun h => by simp at h, ?_⟩; clear hK K))
          refine Go.XR.S_nil ?_
          go_wp2
          go_roundg (U.length - (q + 1))
          case measure => have := hr.out; omega
          case rel => exact ⟨HBf.out, q + 1, by omega, by go_num, rfl⟩
        · have hge : ¬ (q : Int) < (U.length : Int) := by omega
          go_wp2
          go_ret
          exact ⟨rfl, HB6.out.trans (Hb7.out.mono HB6.out.size)⟩
end Go.Proofs.Ytekmiegonnhidaa
