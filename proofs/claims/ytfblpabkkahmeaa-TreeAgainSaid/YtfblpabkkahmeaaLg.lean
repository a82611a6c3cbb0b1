/- The walk over the statement TreeAgain. -/
import Derived.Test.YtfblpabkkahmeaaLc
namespace Go.Proofs.Ytfblpabkkahmeaa
open Go.RowKit Go.TreePure Go.XR

/-- the two pairs in their blocks -/
structure PQ (n : Nat) (pk px qk qx : ByteArray) (w : World) : Prop where
  lt : n + 1 < w.heap.size
  c0 : w.cell? ⟨n, 0, none⟩ = some (.string pk)
  c1 : w.cell? ⟨n, 1, none⟩ = some (.string px)
  c2 : w.cell? ⟨n + 1, 0, none⟩ = some (.string qk)
  c3 : w.cell? ⟨n + 1, 1, none⟩ = some (.string qx)
theorem PQ.below {n : Nat} {pk px qk qx : ByteArray} {w w' : World} (h : PQ n pk px qk qx w) (hb : Below w.heap.size w w') : PQ n pk px qk qx w' := by
  obtain ⟨h0, h1, h2, h3, h4⟩ := h
  have hs := hb.size
  exact ⟨by omega, (hb.cell (by show n < _; omega)).trans h1, (hb.cell (by show n < _; omega)).trans h2, (hb.cell (by show n + 1 < _; omega)).trans h3, (hb.cell (by show n + 1 < _; omega)).trans h4⟩

/-- the closure: all pairs -/
def RetAll (w : World) (L : List (ByteArray × ByteArray)) (e : Ending) (w' : World) : Prop :=
  ∃ a c, e = .returned (.slice a L.length c) ∧ Below w.heap.size w w' ∧ Row w' a (cellsOf L)

set_option maxHeartbeats 1000000 in
theorem all_any (T : PT) (w : World) (p : Option Addr) (hp : Rep w p T) (hs : T.size < 2^39) (hT : Srt T.list) :
    Calls Try.prog 23 #[.pointer p] w (RetAll w T.list) := by
  have Hp := Lib.hid hp
  have HT := Lib.hid hT
  clear hp hT
  go_enter Try.func23, Try.ntmps23
  go_wp2_with fail
  refine (from_any ⟨#[]⟩ 4611686018427387904 T _ p Hp.out hs).mono ?_
  rintro e w3 ⟨a3, c3, rfl, hb3, ho3⟩
  rw [all_pairs HT.out (by omega)] at ho3 ⊢
  have Ho := Lib.hid (Row.owned ho3)
  have Hb := Lib.hid hb3
  clear ho3 hb3
  go_wp2
  go_ret
  exact ⟨a3, c3, rfl, Hb.out, Ho.out⟩

set_option maxHeartbeats 8000000 in
set_option maxRecDepth 100000 in
theorem again_walk (w : World) (a : Option Addr) (c : Nat) (L : List Deed) (hL : Row w a (cellsA L)) (hl : L.length ≤ maxLen) (hc : L.length ≤ c) (pk px qk qx : ByteArray) :
    Calls Try.prog 7 #[.slice a L.length c, .agg #[.string pk, .string px], .agg #[.string qk, .string qx]] w fun e w' => e = .returned (.bool true) ∧ Below w.heap.size w w' := by
  have HL := Lib.hid hL
  clear hL
  go_enter Try.func7, Try.ntmps7
  go_wp2_with fail
  refine (shown_any _).mono ?_
  rintro e w1 ⟨rfl, hb1⟩
  have hz := hb1.size
  simp at hz
  have Hq : Hid (PQ w.heap.size pk px qk qx w1) := by
    refine ⟨by omega, ?_, ?_, ?_, ?_⟩ <;> (rw [hb1.cell (by simp; try omega)]; simp)
  replace hb1 := (((Below.refl w.heap.size w).alloc (Nat.le_refl _) (.cells #[.string pk, .string px] 30)).alloc (by simp) (.cells #[.string qk, .string qx] 30)).trans (hb1.mono (by simp; omega))
  go_wp2_with fail
  refine (few_any _ a c L (HL.out.below hb1) hl hc).mono ?_
  rintro e w2 ⟨m, hm1, hm2, rfl, hb2⟩
  have Hb2 := Lib.hid (hb1.trans (hb2.mono hb1.size))
  have Hq2 := Lib.hid (Hq.out.below hb2)
  clear hb1 hb2
  have Hl := Lib.hid hl
  clear hl
  go_wp2_with fail
  go_loopg [23, 8, 10] m (fun n i p _ wr => Below w.heap.size w wr ∧ Hid (PQ w.heap.size pk px qk qx wr) ∧ ∃ (k : Nat) (q : Option Addr) (T : PT), k ≤ m ∧ i = .int .i64 k ∧ p = .pointer q ∧ Hid (n = m - k ∧ Rep wr q T ∧ Srt T.list ∧ T.size ≤ k))
  case atStart => exact ⟨Hb2.out, Hq2, 0, none, .nil, Nat.zero_le _, rfl, rfl, rfl, rfl, srt_nil, Nat.le_refl _⟩
  case round =>
    obtain ⟨hb, hq, k, q, T, hk, rfl, rfl, hT⟩ := hrel
    by_cases hlt : k < m
    · have hltL : k < L.length := by omega
      obtain ⟨g, o, rfl, c0, c1, c2⟩ := act_at (HL.out.below hb) hltL
      have Hb := Lib.hid hb
      have hi1 : (k : Int) < (m : Int) := by omega
      clear hb
      go_wp2_with fail
      refine (does_any _ q T L[k] (hT.out.2.1.alloc _) (by have := hT.out.2.2.2; omega)).mono ?_
      rintro e w3 ⟨p3, rfl, hp3, hb3⟩
      have Hp3 := Lib.hid hp3
      have Hb3 := Lib.hid ((Hb.out.alloc Hb.out.size _).trans (hb3.mono (by have := Hb.out.size; simp; omega)))
      have Hq3 := Lib.hid (hq.out.below (((Below.refl _ _).alloc (Nat.le_refl _) _).trans (hb3.mono (by simp))))
      clear hp3 hb3 c0 c1 c2
      go_wp2
      go_roundg (m - (k + 1))
      case measure => have := hT.out.1; omega
      case rel => exact ⟨Hb3.out, Hq3, k + 1, p3, PT.does T L[k], by omega, by go_num, rfl, rfl, Hp3.out, PT.does_srt hT.out.2.2.1 _, by have := PT.does_size T L[k]; have := hT.out.2.2.2; omega⟩
    · have hge : ¬ (k : Int) < (m : Int) := by omega
      have Hb := Lib.hid hb
      clear hb
      have Hsr := Lib.hid hT.out.2.2.1
      have hty : T.size ≤ 200 := by have := hT.out.2.2.2; omega
      have Hp := Lib.hid hT.out.2.1
      have Hk := Lib.hid hk
      clear hk hm1 hm2 hT
      obtain ⟨e4, e0, e1, e2, e3⟩ := hq.out
      go_wp2_with fail
      refine (put_any pk px T _ q Hp.out (by omega)).mono ?_
      rintro e w3 ⟨p1, rfl, hp1, hb3⟩
      have hs1 := PT.put_size pk px T
      have Hp3 := Lib.hid (Hp.out.below hb3)
      have Hq3 := Lib.hid (hq.out.below hb3)
      have H1 := Lib.hid hp1
      have Hb3 := Lib.hid (Hb.out.trans (hb3.mono Hb.out.size))
      clear hp1 hb3 e0 e1 e2 e3 e4
      obtain ⟨e4, e0, e1, e2, e3⟩ := Hq3.out
      go_wp2_with fail
      refine (Drop_any pk T _ q Hp3.out (by omega)).mono ?_
      rintro e w4 ⟨p0, rfl, hp0, hb4⟩
      have H1' := Lib.hid (H1.out.below hb4)
      have Hp4 := Lib.hid (Hp3.out.below hb4)
      have Hq4 := Lib.hid (Hq3.out.below hb4)
      have H0 := Lib.hid hp0
      have Hb4 := Lib.hid (Hb3.out.trans (hb4.mono Hb3.out.size))
      clear hp0 hb4 e0 e1 e2 e3 e4 H1 Hp3
      obtain ⟨e4, e0, e1, e2, e3⟩ := Hq4.out
      go_wp2_with fail
      refine (Drop_any pk _ _ p1 H1'.out (by omega)).mono ?_
      rintro e w5 ⟨pg, rfl, hpg, hb5⟩
      rw [PT.get_put Hsr.out]
      have H1 := Lib.hid (H1'.out.below hb5)
      have Hp5 := Lib.hid (Hp4.out.below hb5)
      have Hq5 := Lib.hid (Hq4.out.below hb5)
      have H0' := Lib.hid (H0.out.below hb5)
      have Hg := Lib.hid hpg
      have Hb5 := Lib.hid (Hb4.out.trans (hb5.mono Hb4.out.size))
      clear hpg hb5 e0 e1 e2 e3 e4 H1' Hp4 H0
      obtain ⟨e4, e0, e1, e2, e3⟩ := Hq5.out
      go_wp2_with fail
      refine (put_any pk px _ _ p1 H1.out (by omega)).mono ?_
      rintro e w6 ⟨p2, rfl, hp2, hb6⟩
      have hs2 := PT.put_size pk px (PT.put pk px T)
      have H1' := Lib.hid (H1.out.below hb6)
      have Hp6 := Lib.hid (Hp5.out.below hb6)
      have Hq6 := Lib.hid (Hq5.out.below hb6)
      have H0 := Lib.hid (H0'.out.below hb6)
      have Hg' := Lib.hid (Hg.out.below hb6)
      have H2 := Lib.hid hp2
      have Hb6 := Lib.hid (Hb5.out.trans (hb6.mono Hb5.out.size))
      clear hp2 hb6 e0 e1 e2 e3 e4 H1 Hp5 H0' Hg
      go_wp2_with fail
      refine (all_any _ _ p2 H2.out (by omega) (PT.put_srt (PT.put_srt Hsr.out _ _) _ _)).mono ?_
      rintro e w7 ⟨a7, c7, rfl, hb7, hr7⟩
      rw [PT.put_put Hsr.out] at hr7 ⊢
      have H1 := Lib.hid (H1'.out.below hb7)
      have Hp7 := Lib.hid (Hp6.out.below hb7)
      have Hq7 := Lib.hid (Hq6.out.below hb7)
      have H0' := Lib.hid (H0.out.below hb7)
      have Hg := Lib.hid (Hg'.out.below hb7)
      have R7 := Lib.hid hr7
      have Hb7 := Lib.hid (Hb6.out.trans (hb7.mono Hb6.out.size))
      clear hr7 hb7 H1' Hp6 H0 Hg' H2
      go_wp2_with fail
      refine (all_any _ _ p1 H1.out (by omega) (PT.put_srt Hsr.out _ _)).mono ?_
      rintro e w8 ⟨a8, c8, rfl, hb8, hr8⟩
      have H1' := Lib.hid (H1.out.below hb8)
      have Hp8 := Lib.hid (Hp7.out.below hb8)
      have Hq8 := Lib.hid (Hq7.out.below hb8)
      have H0 := Lib.hid (H0'.out.below hb8)
      have Hg' := Lib.hid (Hg.out.below hb8)
      have R7' := Lib.hid (R7.out.below hb8)
      have R8 := Lib.hid hr8
      have Hb8 := Lib.hid (Hb7.out.trans (hb8.mono Hb7.out.size))
      have hl1 : (PT.put pk px T).list.length < 2^60 := by rw [PT.list_length]; omega
      clear hr8 hb8 H1 Hp7 H0' Hg R7
      go_wp2_with fail
      refine (same_any _ a7 a8 c7 c8 _ _ R7'.out R8.out hl1).mono ?_
      rintro e w9 ⟨rfl, hb9⟩
      rw [show decide ((PT.put pk px T).list = (PT.put pk px T).list) = true from decide_eq_true rfl]
      have H1 := Lib.hid (H1'.out.below hb9)
      have Hp9 := Lib.hid (Hp8.out.below hb9)
      have Hq9 := Lib.hid (Hq8.out.below hb9)
      have H0' := Lib.hid (H0.out.below hb9)
      have Hg := Lib.hid (Hg'.out.below hb9)
      have Hb9 := Lib.hid (Hb8.out.trans (hb9.mono Hb8.out.size))
      clear hb9 H1' Hp8 H0 Hg' R7' R8
      go_wp2_with fail
      have hsg := PT.Drop_size pk (PT.put pk px T)
      have hs0 := PT.Drop_size pk T
      refine (all_any _ _ pg Hg.out (by omega) (PT.Drop_srt (PT.put_srt Hsr.out _ _) _)).mono ?_
      rintro e w10 ⟨a10, c10, rfl, hb10, hr10⟩
      rw [PT.Drop_put Hsr.out] at hr10 ⊢
      have H1' := Lib.hid (H1.out.below hb10)
      have Hp10 := Lib.hid (Hp9.out.below hb10)
      have Hq10 := Lib.hid (Hq9.out.below hb10)
      have H0 := Lib.hid (H0'.out.below hb10)
      have R10 := Lib.hid hr10
      have Hb10 := Lib.hid (Hb9.out.trans (hb10.mono Hb9.out.size))
      clear hr10 hb10 H1 Hp9 H0' Hg
      go_wp2_with fail
      refine (all_any _ _ p0 H0.out (by omega) (PT.Drop_srt Hsr.out _)).mono ?_
      rintro e w11 ⟨a11, c11, rfl, hb11, hr11⟩
      have H1 := Lib.hid (H1'.out.below hb11)
      have Hp11 := Lib.hid (Hp10.out.below hb11)
      have Hq11 := Lib.hid (Hq10.out.below hb11)
      have R10' := Lib.hid (R10.out.below hb11)
      have R11 := Lib.hid hr11
      have Hb11 := Lib.hid (Hb10.out.trans (hb11.mono Hb10.out.size))
      have hl0 : (PT.Drop pk T).list.length < 2^60 := by rw [PT.list_length]; omega
      clear hr11 hb11 H1' Hp10 H0 R10
      go_wp2_with fail
      refine (same_any _ a10 a11 c10 c11 _ _ R10'.out R11.out hl0).mono ?_
      rintro e w12 ⟨rfl, hb12⟩
      rw [show decide ((PT.Drop pk T).list = (PT.Drop pk T).list) = true from decide_eq_true rfl]
      have H1' := Lib.hid (H1.out.below hb12)
      have Hp12 := Lib.hid (Hp11.out.below hb12)
      have Hq12 := Lib.hid (Hq11.out.below hb12)
      have Hb12 := Lib.hid (Hb11.out.trans (hb12.mono Hb11.out.size))
      clear hb12 H1 Hp11 R10' R11
      go_wp2_with fail
      obtain ⟨e4, e0, e1, e2, e3⟩ := Hq12.out
      have e5 : w.heap.size < w12.heap.size := by omega
      have hS0 : Below w12.heap.size w12 w12.drew := (Below.refl _ _).drew
      refine Go.XR.region_sched ((Below w12.heap.size w12)) [(0, true), (1, true), (2, true), (3, true), (4, true), (6, true), (7, true), (8, true), (9, true), (10, true), (12, true), (13, true), (14, true), (15, true), (5, false), (11, false), (16, false), (17, false), (18, false)] [16, 17, 18] Try.mixed (by kernel_rfl) (by kernel_rfl) (by kernel_rfl) ?_
      simp only [List.map_cons, List.map_nil, List.getElem?_cons_succ, List.getElem?_cons_zero]
      repeat (first | (refine Go.XR.S_light rfl rfl (by assumption) ?_ (fun w' hS K hK => ?_) (fun K hK => ?_); rotate_left 1; (have hS1 := bcell hS; go_step; exact hK); go_step; refine hK _ ?_; clear hK K))
      refine Go.XR.S_heavy (fun K hK => ?_)
      go_step
      ((with_reducible refine (put_any qk qx _ _ p1 H1'.out.drew (by omega)).mono ?_); rintro e w' ⟨pa, rfl, hpa, hb13⟩)
      have hs3 := PT.put_size qk qx (PT.put pk px T)
      have hb13' := hS0.trans hb13
      have Ha := Lib.hid hpa
      have Hp13 := Lib.hid (Hp12.out.below hb13')
      have Hq13 := Lib.hid (Hq12.out.below hb13')
      have Hb13 := Lib.hid hb13'
      clear hpa hb13 hb13'
      refine hK _ _ ⟨fun _ => Hb13.out, ?_⟩
      clear hK K
      repeat (first | (refine Go.XR.S_light rfl rfl (by assumption) ?_ (fun w' hS K hK => ?_) (fun K hK => ?_); rotate_left 1; (have hS1 := bcell hS; go_step; exact hK); go_step; refine hK _ ?_; clear hK K))
      refine Go.XR.S_heavy (fun K hK => ?_)
      go_step
      ((with_reducible refine (put_any qk qx _ _ q Hp13.out (by omega)).mono ?_); rintro e w' ⟨pb0, rfl, hpb0, hb14⟩)
      have hs4 := PT.put_size qk qx T
      have Ha' := Lib.hid (Ha.out.below hb14)
      have Hb0 := Lib.hid hpb0
      have Hb14 := Lib.hid (Hb13.out.trans (hb14.mono Hb13.out.size))
      clear hpb0 hb14 Ha
      refine hK _ _ ⟨fun _ => Hb14.out, ?_⟩
      clear hK K
      repeat (first | (refine Go.XR.S_light rfl rfl (by assumption) ?_ (fun w' hS K hK => ?_) (fun K hK => ?_); rotate_left 1; (have hS1 := bcell hS; go_step; exact hK); go_step; refine hK _ ?_; clear hK K))
      refine Go.XR.S_heavy (fun K hK => ?_)
      go_step
      ((with_reducible refine (put_any pk px _ _ pb0 Hb0.out (by omega)).mono ?_); rintro e w' ⟨pb, rfl, hpb, hb15⟩)
      have hs5 := PT.put_size pk px (PT.put qk qx T)
      have Ha := Lib.hid (Ha'.out.below hb15)
      have HB := Lib.hid hpb
      have Hb15 := Lib.hid (Hb14.out.trans (hb15.mono Hb14.out.size))
      clear hpb hb15 Ha'
      refine hK _ _ ⟨fun _ => Hb15.out, ?_⟩
      clear hK K
      repeat (first | (refine Go.XR.S_light rfl rfl (by assumption) ?_ (fun w' hS K hK => ?_) (fun K hK => ?_); rotate_left 1; (have hS1 := bcell hS; go_step; exact hK); go_step; refine hK _ ?_; clear hK K))
      repeat (first | (refine Go.XR.S_heavy (fun K hK => ?_); go_step; refine hK _ _ ⟨fun h => by simp at h, ?_⟩; clear hK K))
      refine Go.XR.S_nil ?_
      have HF := Lib.hid (Hb12.out.trans (Hb15.out.mono Hb12.out.size))
      have Hq15 := Lib.hid (Hq12.out.below Hb15.out)
      clear hS0 e0 e1 e2 e3 e4 e5
      obtain ⟨e4, e0, e1, e2, e3⟩ := Hq15.out
      by_cases hd : pk = qk ∧ px ≠ qx
      · obtain ⟨rfl, hx⟩ := hd
        have g1 : (pk.toList == pk.toList) = true := by rw [keq_iff]
        have g2 : (px.toList == qx.toList) = false := by rw [Bool.eq_false_iff]; intro h; exact hx ((keq_iff _ _).1 h)
        have g3 : (px.toList != qx.toList) = true := by rw [bne, g2]; rfl
        clear hx
        go_wp2
        go_ret
        exact ⟨rfl, HF.out⟩
      · have Hc := Lib.hid (PT.put_comm Hsr.out hd)
        have Hd := Lib.hid hd
        have hl3 : (PT.put pk px (PT.put qk qx T)).list.length < 2^60 := by rw [PT.list_length]; omega
        by_cases hk : pk = qk
        · have hx : px = qx := Classical.byContradiction fun h => Hd.out ⟨hk, h⟩
          subst hk hx
          have g1 : (pk.toList == pk.toList) = true := by rw [keq_iff]
          have g3 : (px.toList != px.toList) = false := by simp
          have g2 : (px.toList == px.toList) = true := by rw [keq_iff]
          clear hd
          go_wp2_with fail
          refine (all_any _ _ pa Ha.out (by omega) (PT.put_srt (PT.put_srt Hsr.out _ _) _ _)).mono ?_
          rintro e w16 ⟨a16, c16, rfl, hb16, hr16⟩
          have HB' := Lib.hid (HB.out.below hb16)
          have R16 := Lib.hid hr16
          have HF16 := Lib.hid (HF.out.trans (hb16.mono HF.out.size))
          clear hb16 hr16 HB e0 e1 e2 e3 e4
          go_wp2_with fail
          refine (all_any _ _ pb HB'.out (by omega) (PT.put_srt (PT.put_srt Hsr.out _ _) _ _)).mono ?_
          rintro e w17 ⟨a17, c17, rfl, hb17, hr17⟩
          have R16' := Lib.hid (R16.out.below hb17)
          have R17 := Lib.hid hr17
          have HF17 := Lib.hid (HF16.out.trans (hb17.mono HF16.out.size))
          clear hb17 hr17 R16
          go_wp2_with fail
          refine (same_any _ a16 a17 c16 c17 _ _ R16'.out R17.out hl3).mono ?_
          rintro e w18 ⟨rfl, hb18⟩
          rw [decide_eq_true rfl]
          have HF18 := Lib.hid (HF17.out.trans (hb18.mono HF17.out.size))
          clear hb18
          go_wp2
          go_ret
          exact ⟨rfl, HF18.out⟩
        · have g1 : (pk.toList == qk.toList) = false := by rw [Bool.eq_false_iff]; intro h; exact hk ((keq_iff _ _).1 h)
          clear hd hk
          go_wp2_with fail
          refine (all_any _ _ pa Ha.out (by omega) (PT.put_srt (PT.put_srt Hsr.out _ _) _ _)).mono ?_
          rintro e w16 ⟨a16, c16, rfl, hb16, hr16⟩
          rw [Hc.out] at hr16 ⊢
          have HB' := Lib.hid (HB.out.below hb16)
          have R16 := Lib.hid hr16
          have HF16 := Lib.hid (HF.out.trans (hb16.mono HF.out.size))
          clear hb16 hr16 HB e0 e1 e2 e3 e4
          go_wp2_with fail
          refine (all_any _ _ pb HB'.out (by omega) (PT.put_srt (PT.put_srt Hsr.out _ _) _ _)).mono ?_
          rintro e w17 ⟨a17, c17, rfl, hb17, hr17⟩
          have R16' := Lib.hid (R16.out.below hb17)
          have R17 := Lib.hid hr17
          have HF17 := Lib.hid (HF16.out.trans (hb17.mono HF16.out.size))
          clear hb17 hr17 R16
          go_wp2_with fail
          refine (same_any _ a16 a17 c16 c17 _ _ R16'.out R17.out hl3).mono ?_
          rintro e w18 ⟨rfl, hb18⟩
          rw [decide_eq_true rfl]
          have HF18 := Lib.hid (HF17.out.trans (hb18.mono HF17.out.size))
          clear hb18
          go_wp2
          go_ret
          exact ⟨rfl, HF18.out⟩
end Go.Proofs.Ytfblpabkkahmeaa
