/- The walk over the statement TreePlays. -/
import Derived.Test.YtfblpabkkahmeaaMd
namespace Go.Proofs.Ytfblpabkkahmeaa
open Go.RowKit Go.TreePure Go.XR

/-- an act in its block n, the reference's map in its block B -/
structure PA (B n : Nat) (g : Bool) (k x : ByteArray) (a : Option Addr) (c : Nat) (l : List Pr) (w : World) : Prop where
  ne : B < n
  lt : n < w.heap.size
  ltB : B < w.heap.size
  c0 : w.cell? ⟨n, 0, none⟩ = some (.bool g)
  c1 : w.cell? ⟨n, 1, none⟩ = some (.string k)
  c2 : w.cell? ⟨n, 2, none⟩ = some (.string x)
  blk : w.heap[B]? = some (.cells #[.slice a l.length c] 27 (0, 0))
  map : MR w a c l
theorem PA.below {B n : Nat} {g : Bool} {k x : ByteArray} {a : Option Addr} {c : Nat} {l : List Pr} {w w' : World} (h : PA B n g k x a c l w) (hb : Below w.heap.size w w') : PA B n g k x a c l w' := by
  obtain ⟨hn, h0, h0', h1, h2, h3, h4, h5⟩ := h
  have hs := hb.size
  exact ⟨hn, by omega, by omega, (hb.cell (by show n < _; omega)).trans h1, (hb.cell (by show n < _; omega)).trans h2, (hb.cell (by show n < _; omega)).trans h3, (hb.block B h0').trans h4, h5.below hb⟩
theorem PA.b0 {B n : Nat} {g : Bool} {k x : ByteArray} {a : Option Addr} {c : Nat} {l : List Pr} {w : World} (h : PA B n g k x a c l w) : w.cell? ⟨B, 0, none⟩ = some (.slice a l.length c) := by
  rw [cells_of h.blk 0]; rfl
theorem PA.bf {B n : Nat} {g : Bool} {k x : ByteArray} {a : Option Addr} {c : Nat} {l : List Pr} {w : World} (h : PA B n g k x a c l w) : w.frozen? ⟨B, 0, none⟩ = false := by
  simp [World.frozen?, h.blk]

theorem get_is {T : PT} (h : Srt T.list) (k : ByteArray) : isAt k T.list = (PT.get k T).isSome := by rw [isAt_look h, PT.get_look k T h]

/-- the reference's map is written anew -/
theorem PA.store {B n : Nat} {g : Bool} {k x : ByteArray} {a a' : Option Addr} {c c' : Nat} {l l' : List Pr} {w : World} (h : PA B n g k x a c l w) (hm : MR w a' c' l') : PA B n g k x a' c' l' (w.setCell ⟨B, 0, none⟩ (.slice a' l'.length c')) := by
  obtain ⟨hn, h0, h0', h1, h2, h3, h4, h5⟩ := h
  have hne : ∀ i, (w.setCell ⟨B, 0, none⟩ (.slice a' l'.length c')).cell? ⟨n, i, none⟩ = w.cell? ⟨n, i, none⟩ := fun i => by
    simp only [World.cell?, Below.heap_setCell w ⟨B, 0, none⟩ (.slice a' l'.length c') n (by show n ≠ B; omega)]
  have hs : (w.setCell ⟨B, 0, none⟩ (.slice a' l'.length c')).heap.size = w.heap.size := by simp [World.setCell]
  exact ⟨hn, by omega, by omega, (hne 0).trans h1, (hne 1).trans h2, (hne 2).trans h3, heap_setCell_at h4, hm.setCell h4 (by decide)⟩

theorem gen_then {K : Act → World → Prop} {Q : Exit → Act → World → Prop} {x : Exit} {a : Act} {w : World} (Facts : World → Prop) (hf : Facts w) (h : ∀ w0, Facts w0 → Exit.then K Q x a w0) : Exit.then K Q x a w := h w hf


set_option maxHeartbeats 8000000 in
set_option maxRecDepth 100000 in
theorem plays_walk (w : World) (a : Option Addr) (c : Nat) (L : List Deed) (hL : Row w a (cellsA L)) (hl : L.length ≤ maxLen) (hc : L.length ≤ c) (key : ByteArray) (n : Int) (hn0 : -2^63 ≤ n) (hn1 : n < 2^63) :
    Calls Try.prog 3 #[.slice a L.length c, .string key, .int .i64 n] w fun e w' => e = .returned (.bool true) ∧ Below w.heap.size w w' := by
  have HL := Lib.hid hL
  clear hL
  go_enter Try.func3, Try.ntmps3
  go_wp2_with fail
  refine (shown_any _).mono ?_
  rintro e w1 ⟨rfl, hb1⟩
  go_wp2_with fail
  refine (few_any _ a c L (HL.out.below (hb1.alloc hb1.size _)) hl hc).mono ?_
  rintro e w2 ⟨m, hm1, hm2, rfl, hb2⟩
  have hltB : w1.heap.size < w2.heap.size := by have := hb2.size; simp at this; omega
  have hgeB : w.heap.size ≤ w1.heap.size := hb1.size
  have HB2 : Hid (w2.heap[w1.heap.size]? = some (.cells #[.slice none 0 0] 27 (0, 0))) := by
    unfold Hid; rw [hb2.block _ (by simp)]; exact heap_new _ _
  have Hb2 : Hid (Below w.heap.size w w2) := (hb1.alloc hb1.size _).trans (hb2.mono (by simp; omega))
  clear hb1 hb2
  have Hl := Lib.hid hl
  clear hl
  go_wp2_with fail
  generalize w1.heap.size = B at *
  go_loopg [28, 8] m (fun n i p wr => Below w.heap.size w wr ∧ ∃ (k : Nat) (q : Option Addr) (T : PT) (ma : Option Addr) (mc : Nat), k ≤ m ∧ i = .int .i64 k ∧ p = .pointer q ∧ B < wr.heap.size ∧ Hid (n = m - k ∧ Rep wr q T ∧ Srt T.list ∧ T.size ≤ k ∧ MR wr ma mc T.list ∧ wr.heap[B]? = some (.cells #[.slice ma T.list.length mc] 27 (0, 0))))
  case atStart => exact ⟨Hb2.out, 0, none, .nil, none, 0, Nat.zero_le _, rfl, rfl, hltB, rfl, rfl, srt_nil, Nat.le_refl _, MR.zero _, HB2.out⟩
  case round =>
    obtain ⟨hb, k, q, T, ma, mc, hk, rfl, rfl, hBr, hT⟩ := hrel
    have hsz : T.size ≤ k := hT.out.2.2.2.1
    have hls : T.list.length ≤ k := by rw [PT.list_length]; exact hsz
    have HT := Lib.hid hT.out.2.1
    have Hsr := Lib.hid hT.out.2.2.1
    have HM := Lib.hid hT.out.2.2.2.2.1
    have HB := Lib.hid hT.out.2.2.2.2.2
    have hwr : Below wr.heap.size wr wr := Below.refl _ _
    by_cases hlt : k < m
    · have hltL : k < L.length := by omega
      obtain ⟨g, o, rfl, c0, c1, c2⟩ := act_at (HL.out.below hb) hltL
      have Hb := Lib.hid hb
      have hi1 : (k : Int) < (m : Int) := by omega
      clear hb
      cases hg : L[k].gone with
      | true =>
        rw [hg] at c0
        have Hg := Lib.hid hg
        clear hg
        go_wp2_with fail
        refine (Drop_any L[k].k T _ q (HT.out.alloc _) (by omega)).mono ?_
        rintro e w3 ⟨p5, rfl, hp3, hb3⟩
        have Hpa : Hid (PA B wr.heap.size true L[k].k L[k].x ma mc T.list w3) := PA.below ⟨hBr, by simp, by simp; omega, by simp, by simp, by simp, (hwr.alloc (Nat.le_refl _) _).block B hBr |>.trans HB.out, HM.out.below (hwr.alloc (Nat.le_refl _) _)⟩ hb3
        have Hb3 := Lib.hid ((Hb.out.alloc Hb.out.size _).trans (hb3.mono (by have := Hb.out.size; simp; omega)))
        have Hp3 := Lib.hid hp3
        clear hp3 hb3 c0 c1 c2
        have hcx := refdrop_any w3 ma mc T.list L[k].k Hpa.out.map (by omega)
        rw [refDrop_rem Hsr.out, ← PT.Drop_list Hsr.out, get_is Hsr.out] at hcx
        have Hcx := Lib.hid hcx
        clear hcx
        generalize (PT.get L[k].k T).isSome = gb at *
        have hus : (PT.Drop L[k].k T).size ≤ k + 1 := by have := PT.Drop_size L[k].k T; omega
        have HsU := Lib.hid (PT.Drop_srt Hsr.out L[k].k)
        generalize PT.Drop L[k].k T = U at *
        obtain ⟨z0, z1, z2, d0, d1, d2, _, _⟩ := Hpa.out
        have b0 := Hpa.out.b0
        go_wp2_with fail
        refine Hcx.out.mono ?_
        rintro e w4 ⟨a5, c5, rfl, hm4, hb4⟩
        have Hpa4 := Lib.hid (Hpa.out.below hb4)
        have Hb4 := Lib.hid (Hb3.out.trans (hb4.mono Hb3.out.size))
        have Hp4 := Lib.hid (Hp3.out.below hb4)
        have Hm4 := Lib.hid hm4
        clear hm4 hb4 z1 z2 d0 d1 d2 b0
        obtain ⟨_, z1, z2, d0, d1, d2, _, _⟩ := Hpa4.out
        have b0 := Hpa4.out.b0
        go_wp2_with fail
        refine gen_world (fun w0 => PA B wr.heap.size true L[k].k L[k].x ma mc T.list w0 ∧ Rep w0 p5 U ∧ MR w0 a5 c5 U.list ∧ Below w.heap.size w w0 ∧ w0.cell? ⟨w4.heap.size, 0, none⟩ = some (.slice a5 U.list.length c5)) ⟨Hpa4.out.below ((Below.refl _ _).alloc (Nat.le_refl _) _), Hp4.out.alloc _, Hm4.out.below ((Below.refl _ _).alloc (Nat.le_refl _) _), Hb4.out.alloc Hb4.out.size _, by simp⟩ ?_
        rintro w0 ⟨hpa0, hp0, hm0, hb0, g0⟩
        have Hpa0 := Lib.hid hpa0
        have Hp0 := Lib.hid hp0
        have Hm0 := Lib.hid hm0
        have Hb0 := Lib.hid hb0
        clear hpa0 hp0 hm0 hb0 z1 z2
        obtain ⟨_, z1, z2, _, _, _, _, _⟩ := Hpa0.out
        have bf := Hpa0.out.bf
        have b0 := Hpa0.out.b0
        refine Go.XR.region_sched ((· = w0.drew)) [(0, true), (1, true), (2, true), (3, false)] [3] Try.mixed (by kernel_rfl) (by kernel_rfl) (by kernel_rfl) ?_
        simp only [List.map_cons, List.map_nil, List.getElem?_cons_succ, List.getElem?_cons_zero]
        repeat (first | (refine Go.XR.S_light rfl rfl rfl ?_ (fun w' hS K hK => ?_) (fun K hK => ?_); rotate_left 1; (cases hS; go_step; exact hK); go_step; refine hK _ ?_; clear hK K))
        repeat (first | (refine Go.XR.S_heavy (fun K hK => ?_); go_step; refine hK _ _ ⟨fun h => by simp at h, ?_⟩; clear hK K))
        refine Go.XR.S_nil ?_
        refine gen_then (fun w5 => PA B wr.heap.size true L[k].k L[k].x a5 c5 U.list w5 ∧ Rep w5 p5 U ∧ Below w.heap.size w w5) ⟨(Hpa0.out.below (Below.refl _ _).drew).store (Hm0.out.below (Below.refl _ _).drew), (Hp0.out.below (Below.refl _ _).drew).setCell (Hpa0.out.below (Below.refl _ _).drew).blk (by decide), Hb0.out.drew.setCell (by show w.heap.size ≤ B; omega) _⟩ ?_
        rintro w5 ⟨hpa5, hU5, hb5⟩
        have Hpa5 := Lib.hid hpa5
        have HU5 := Lib.hid hU5
        have Hb5 := Lib.hid hb5
        clear hpa5 hU5 hb5 z1 z2 bf b0 g0
        have hul : U.list.length ≤ k + 1 := by rw [PT.list_length]; exact hus
        obtain ⟨z0, z1, z2, d0, d1, d2, _, _⟩ := Hpa5.out
        have b0 := Hpa5.out.b0
        go_wp2_with fail
        refine (get_any L[k].k U w5 p5 HU5.out).mono ?_
        rintro e w6 ⟨rfl, rfl⟩
        rw [PT.get_look _ _ HsU.out]
        generalize hgv : (TreePure.look L[k].k U.list).getD ⟨#[]⟩ = gv
        generalize hgs : (TreePure.look L[k].k U.list).isSome = gs
        have Hgv := Lib.hid hgv
        have Hgs := Lib.hid hgs
        clear hgv hgs
        go_wp2_with fail
        refine (refget_any w5 a5 c5 U.list L[k].k Hpa5.out.map HsU.out (by omega)).mono ?_
        rintro e w6 ⟨rfl, hb6⟩
        rw [Hgv.out, Hgs.out]
        have Hpa6 := Lib.hid (Hpa5.out.below hb6)
        have HU6 := Lib.hid (HU5.out.below hb6)
        have Hb6 := Lib.hid (Hb5.out.trans (hb6.mono Hb5.out.size))
        clear hb6 z1 z2 d0 d1 d2 b0
        obtain ⟨_, z1, z2, _, _, _, _, _⟩ := Hpa6.out
        have b0 := Hpa6.out.b0
        have e1 : ((U.size : Int) != (U.list.length : Int)) = false := by rw [bne_eq_false_iff_eq, PT.list_length]
        go_wp2_with fail
        refine Go.XR.region_sched ((· = w6.drew)) [(0, true), (1, true), (2, true), (3, true), (4, true), (5, true), (6, true), (7, true), (8, true), (9, true), (11, true), (12, true), (13, true), (10, false), (14, false), (15, false)] [14, 15] Try.mixed (by kernel_rfl) (by kernel_rfl) (by kernel_rfl) ?_
        simp only [List.map_cons, List.map_nil, List.getElem?_cons_succ, List.getElem?_cons_zero]
        repeat (first | (refine Go.XR.S_light rfl rfl rfl ?_ (fun w' hS K hK => ?_) (fun K hK => ?_); rotate_left 1; (cases hS; go_step; exact hK); go_step; refine hK _ ?_; clear hK K) | (refine Go.XR.S_light_off rfl rfl (fun K hK => ?_); go_step; refine hK _ ?_; clear hK K) | (refine Go.XR.S_light_on rfl rfl rfl rfl ?_ (fun w' hS K hK => ?_) (fun K hK => ?_); rotate_left 1; (cases hS; go_step; exact hK); go_step; refine hK _ ?_; clear hK K))
        refine Go.XR.S_heavy_on rfl (fun K hK => ?_)
        go_step
        ((with_reducible refine (len_any _ p5 U (HU6.out.below (Below.refl _ _).drew)).mono ?_); rintro e w' ⟨rfl, rfl⟩)
        refine hK _ _ ⟨fun _ => rfl, ?_⟩
        clear hK K
        repeat (first | (refine Go.XR.S_light rfl rfl rfl ?_ (fun w' hS K hK => ?_) (fun K hK => ?_); rotate_left 1; (cases hS; go_step; exact hK); go_step; refine hK _ ?_; clear hK K) | (refine Go.XR.S_light_off rfl rfl (fun K hK => ?_); go_step; refine hK _ ?_; clear hK K) | (refine Go.XR.S_light_on rfl rfl rfl rfl ?_ (fun w' hS K hK => ?_) (fun K hK => ?_); rotate_left 1; (cases hS; go_step; exact hK); go_step; refine hK _ ?_; clear hK K))
        repeat (first | (refine Go.XR.S_heavy (fun K hK => ?_); go_step; refine hK _ _ ⟨fun h => by simp at h, ?_⟩; clear hK K) | (refine Go.XR.S_heavy_off rfl (fun h => by simp at h) (fun K hK => ?_); go_step; refine hK _ ?_; clear hK K) | (refine Go.XR.S_heavy_on rfl (fun K hK => ?_); go_step; refine hK _ _ ⟨fun h => by simp at h, ?_⟩; clear hK K))
        refine Go.XR.S_nil ?_
        go_wp2
        go_roundg (m - (k + 1))
        case measure => have := hT.out.1; omega
        case rel => exact ⟨Hb6.out.drew, k + 1, p5, U, a5, c5, by omega, by go_num, rfl, z2, rfl, HU6.out.below (Below.refl _ _).drew, HsU.out, hus, Hpa6.out.map.below (Below.refl _ _).drew, Hpa6.out.blk⟩
      | false =>
        rw [hg] at c0
        have Hg := Lib.hid hg
        clear hg
        go_wp2_with fail
        refine gen_world (fun w3 => PA B wr.heap.size false L[k].k L[k].x ma mc T.list w3 ∧ Rep w3 q T ∧ Below w.heap.size w w3) ⟨⟨hBr, by simp, by simp; omega, by simp, by simp, by simp, (hwr.alloc (Nat.le_refl _) _).block B hBr |>.trans HB.out, HM.out.below (hwr.alloc (Nat.le_refl _) _)⟩, HT.out.alloc _, Hb.out.alloc Hb.out.size _⟩ ?_
        rintro w3 ⟨hpa, hq3, hb3⟩
        have Hpa := Lib.hid hpa
        have Hq3 := Lib.hid hq3
        have Hb3 := Lib.hid hb3
        clear hpa hq3 hb3 c0 c1 c2
        have hpc := put_any L[k].k L[k].x T w3.drew q (Hq3.out.below (Below.refl _ _).drew) (by omega)
        have Hpc := Lib.hid hpc
        clear hpc
        have hus : (PT.put L[k].k L[k].x T).size ≤ k + 1 := by have := PT.put_size L[k].k L[k].x T; omega
        have HsU := Lib.hid (PT.put_srt Hsr.out L[k].k L[k].x)
        have Hrp : Hid (refPut L[k].k L[k].x T.list = (PT.put L[k].k L[k].x T).list) := by unfold Hid; rw [refPut_ins Hsr.out, ← PT.put_list _ _ _ Hsr.out]
        generalize PT.put L[k].k L[k].x T = U at *
        obtain ⟨z0, z1, z2, d0, d1, d2, _, _⟩ := Hpa.out
        have b0 := Hpa.out.b0
        have hS0 : Below w3.heap.size w3 w3.drew := (Below.refl _ _).drew
        refine Go.XR.region_sched ((Below w3.heap.size w3)) [(0, true), (1, true), (2, true), (3, true), (4, true), (5, true), (6, true), (8, true), (9, true), (10, true), (11, true), (12, true), (13, true), (14, true), (7, false), (15, false), (16, false), (17, false)] [15, 16, 17] Try.mixed (by kernel_rfl) (by kernel_rfl) (by kernel_rfl) ?_
        simp only [List.map_cons, List.map_nil, List.getElem?_cons_succ, List.getElem?_cons_zero]
        repeat (first | (refine Go.XR.S_light rfl rfl (by assumption) ?_ (fun w' hS K hK => ?_) (fun K hK => ?_); rotate_left 1; (have hS1 := bcell hS; go_step; exact hK); go_step; refine hK _ ?_; clear hK K))
        refine Go.XR.S_heavy (fun K hK => ?_)
        go_step
        ((with_reducible refine (Hpc.out).mono ?_); rintro e w' ⟨p5, rfl, hp5, hb4⟩)
        have Hp5 := Lib.hid hp5
        have Hpa4 := Lib.hid (Hpa.out.below (hS0.trans hb4))
        have Hb4 := Lib.hid (Hb3.out.trans ((hS0.trans hb4).mono Hb3.out.size))
        refine hK _ _ ⟨fun _ => hS0.trans hb4, ?_⟩
        clear hK K hp5
        refine Go.XR.S_heavy (fun K hK => ?_)
        go_step
        have hcx := refput_any w' ma mc T.list L[k].k L[k].x Hpa4.out.map (by omega)
        rw [Hrp.out] at hcx
        refine hcx.mono ?_
        rintro e w4 ⟨a5, c5, rfl, hm5, hb5⟩
        clear hcx
        have Hm5 := Lib.hid hm5
        have Hpa5 := Lib.hid (Hpa4.out.below hb5)
        have HU4 := Lib.hid (Hp5.out.below hb5)
        have Hb5 := Lib.hid (Hb4.out.trans (hb5.mono Hb4.out.size))
        refine hK _ _ ⟨fun h => by simp at h, ?_⟩
        clear hK K hm5 hb5 hb4 z1 z2 d0 d1 d2 b0
        have Hpa4 := Lib.hid Hpa5.out
        have Hb4 := Lib.hid Hb5.out
        obtain ⟨_, z1, z2, _, _, _, _, _⟩ := Hpa4.out
        have bf := Hpa4.out.bf
        have b0 := Hpa4.out.b0
        repeat (first | (refine Go.XR.S_heavy (fun K hK => ?_); go_step; refine hK _ _ ⟨fun h => by simp at h, ?_⟩; clear hK K))
        refine Go.XR.S_nil ?_
        refine gen_then (fun w5 => PA B wr.heap.size false L[k].k L[k].x a5 c5 U.list w5 ∧ Rep w5 p5 U ∧ Below w.heap.size w w5) ⟨Hpa4.out.store Hm5.out, HU4.out.setCell Hpa4.out.blk (by decide), Hb4.out.setCell (by show w.heap.size ≤ B; omega) _⟩ ?_
        rintro w5 ⟨hpa5, hU5, hb5⟩
        have Hpa5 := Lib.hid hpa5
        have HU5 := Lib.hid hU5
        have Hb5 := Lib.hid hb5
        clear hpa5 hU5 hb5 z1 z2 bf b0
        have hul : U.list.length ≤ k + 1 := by rw [PT.list_length]; exact hus
        obtain ⟨z0, z1, z2, d0, d1, d2, _, _⟩ := Hpa5.out
        have b0 := Hpa5.out.b0
        go_wp2_with fail
        refine (get_any L[k].k U w5 p5 HU5.out).mono ?_
        rintro e w6 ⟨rfl, rfl⟩
        rw [PT.get_look _ _ HsU.out]
        generalize hgv : (TreePure.look L[k].k U.list).getD ⟨#[]⟩ = gv
        generalize hgs : (TreePure.look L[k].k U.list).isSome = gs
        have Hgv := Lib.hid hgv
        have Hgs := Lib.hid hgs
        clear hgv hgs
        go_wp2_with fail
        refine (refget_any w5 a5 c5 U.list L[k].k Hpa5.out.map HsU.out (by omega)).mono ?_
        rintro e w6 ⟨rfl, hb6⟩
        rw [Hgv.out, Hgs.out]
        have Hpa6 := Lib.hid (Hpa5.out.below hb6)
        have HU6 := Lib.hid (HU5.out.below hb6)
        have Hb6 := Lib.hid (Hb5.out.trans (hb6.mono Hb5.out.size))
        clear hb6 z1 z2 d0 d1 d2 b0
        obtain ⟨_, z1, z2, _, _, _, _, _⟩ := Hpa6.out
        have b0 := Hpa6.out.b0
        have e1 : ((U.size : Int) != (U.list.length : Int)) = false := by rw [bne_eq_false_iff_eq, PT.list_length]
        go_wp2_with fail
        refine Go.XR.region_sched ((· = w6.drew)) [(0, true), (1, true), (2, true), (3, true), (4, true), (5, true), (6, true), (7, true), (8, true), (9, true), (11, true), (12, true), (13, true), (10, false), (14, false), (15, false)] [14, 15] Try.mixed (by kernel_rfl) (by kernel_rfl) (by kernel_rfl) ?_
        simp only [List.map_cons, List.map_nil, List.getElem?_cons_succ, List.getElem?_cons_zero]
        repeat (first | (refine Go.XR.S_light rfl rfl rfl ?_ (fun w' hS K hK => ?_) (fun K hK => ?_); rotate_left 1; (cases hS; go_step; exact hK); go_step; refine hK _ ?_; clear hK K) | (refine Go.XR.S_light_off rfl rfl (fun K hK => ?_); go_step; refine hK _ ?_; clear hK K) | (refine Go.XR.S_light_on rfl rfl rfl rfl ?_ (fun w' hS K hK => ?_) (fun K hK => ?_); rotate_left 1; (cases hS; go_step; exact hK); go_step; refine hK _ ?_; clear hK K))
        refine Go.XR.S_heavy_on rfl (fun K hK => ?_)
        go_step
        ((with_reducible refine (len_any _ p5 U (HU6.out.below (Below.refl _ _).drew)).mono ?_); rintro e w' ⟨rfl, rfl⟩)
        refine hK _ _ ⟨fun _ => rfl, ?_⟩
        clear hK K
        repeat (first | (refine Go.XR.S_light rfl rfl rfl ?_ (fun w' hS K hK => ?_) (fun K hK => ?_); rotate_left 1; (cases hS; go_step; exact hK); go_step; refine hK _ ?_; clear hK K) | (refine Go.XR.S_light_off rfl rfl (fun K hK => ?_); go_step; refine hK _ ?_; clear hK K) | (refine Go.XR.S_light_on rfl rfl rfl rfl ?_ (fun w' hS K hK => ?_) (fun K hK => ?_); rotate_left 1; (cases hS; go_step; exact hK); go_step; refine hK _ ?_; clear hK K))
        repeat (first | (refine Go.XR.S_heavy (fun K hK => ?_); go_step; refine hK _ _ ⟨fun h => by simp at h, ?_⟩; clear hK K) | (refine Go.XR.S_heavy_off rfl (fun h => by simp at h) (fun K hK => ?_); go_step; refine hK _ ?_; clear hK K) | (refine Go.XR.S_heavy_on rfl (fun K hK => ?_); go_step; refine hK _ _ ⟨fun h => by simp at h, ?_⟩; clear hK K))
        refine Go.XR.S_nil ?_
        go_wp2
        go_roundg (m - (k + 1))
        case measure => have := hT.out.1; omega
        case rel => exact ⟨Hb6.out.drew, k + 1, p5, U, a5, c5, by omega, by go_num, rfl, z2, rfl, HU6.out.below (Below.refl _ _).drew, HsU.out, hus, Hpa6.out.map.below (Below.refl _ _).drew, Hpa6.out.blk⟩
    · have hge : ¬ (k : Int) < (m : Int) := by omega
      have Hb := Lib.hid hb
      have hts : T.size ≤ 200 := by omega
      have htl : T.list.length ≤ 200 := by omega
      have b0 : wr.cell? ⟨B, 0, none⟩ = some (.slice ma T.list.length mc) := by rw [cells_of HB.out 0]; rfl
      clear hb hT hsz hls
      go_wp2_with fail
      refine (get_any key T wr q HT.out).mono ?_
      rintro e w6 ⟨rfl, rfl⟩
      rw [PT.get_look _ _ Hsr.out]
      generalize hgv : (TreePure.look key T.list).getD ⟨#[]⟩ = gv
      generalize hgs : (TreePure.look key T.list).isSome = gs
      have Hgv := Lib.hid hgv
      have Hgs := Lib.hid hgs
      clear hgv hgs
      go_wp2_with fail
      refine (refget_any wr ma mc T.list key HM.out Hsr.out (by omega)).mono ?_
      rintro e w6 ⟨rfl, hb6⟩
      rw [Hgv.out, Hgs.out]
      have HB6 : Hid (w6.heap[B]? = some (.cells #[.slice ma T.list.length mc] 27 (0, 0))) := (hb6.block B hBr).trans HB.out
      have HM6 := Lib.hid (HM.out.below hb6)
      have HT6 := Lib.hid (HT.out.below hb6)
      have Hb6 := Lib.hid (Hb.out.trans (hb6.mono Hb.out.size))
      have hB6 : B < w6.heap.size := by have := hb6.size; omega
      clear hb6 b0
      have b0 : w6.cell? ⟨B, 0, none⟩ = some (.slice ma T.list.length mc) := by rw [cells_of HB6.out 0]; rfl
      have hf1 := from_any key n T w6.drew q (HT6.out.below (Below.refl _ _).drew) (by omega)
      rw [PT.fromL_list key T Hsr.out] at hf1
      have Hf1 := Lib.hid hf1
      have Hf2 : Hid (∀ w', Below w6.heap.size w6 w' → Calls Try.prog 20 #[.agg #[.slice ma T.list.length mc], .string key, .int .i64 n] w' (RetRow w' ((T.list.filter fun p => !klt p.1 key).take n.toNat))) := fun w' h => reffrom_any w' ma mc T.list key n (HM6.out.below h) Hsr.out (by omega) hn0 hn1
      have hFl : ((T.list.filter fun p => !klt p.1 key).take n.toNat).length ≤ 200 := by
        have h1 := List.length_filter_le (fun p : Pr => !klt p.1 key) T.list
        exact Nat.le_trans (List.length_take_le' _ _) (Nat.le_trans h1 htl)
      clear hf1
      generalize (T.list.filter fun p => !klt p.1 key).take n.toNat = F at *
      go_wp2_with fail
      have hS0 : Below w6.heap.size w6 w6.drew := (Below.refl _ _).drew
      refine Go.XR.region_sched ((Below w6.heap.size w6)) [(0, true), (1, true), (2, true), (3, true), (4, true), (5, true), (6, true), (7, true), (8, true), (9, true), (10, true), (11, true), (12, true), (13, true), (14, true), (16, true), (17, true), (18, true), (15, false), (19, false), (20, false), (21, true), (22, true), (23, true), (25, true), (26, true), (24, false), (27, false), (28, false), (29, false)] [27, 28, 29] Try.mixed (by kernel_rfl) (by kernel_rfl) (by kernel_rfl) ?_
      simp only [List.map_cons, List.map_nil, List.getElem?_cons_succ, List.getElem?_cons_zero]
      repeat (first | (refine Go.XR.S_light rfl rfl (by assumption) ?_ (fun w' hS K hK => ?_) (fun K hK => ?_); rotate_left 1; (have hS1 := bcell hS; go_step; exact hK); go_step; refine hK _ ?_; clear hK K) | (refine Go.XR.S_light_off rfl (by assumption) (fun K hK => ?_); go_step; refine hK _ ?_; clear hK K) | (refine Go.XR.S_light_on rfl rfl rfl (by assumption) ?_ (fun w' hS K hK => ?_) (fun K hK => ?_); rotate_left 1; (have hS1 := bcell hS; go_step; exact hK); go_step; refine hK _ ?_; clear hK K))
      refine Go.XR.S_heavy_on rfl (fun K hK => ?_)
      go_step
      ((with_reducible refine (Hf1.out).mono ?_); rintro e w' ⟨a7, c7, rfl, hb7, ho7⟩)
      have Hr7 := Lib.hid (Row.owned ho7)
      have Hb7 := Lib.hid (hS0.trans hb7)
      refine hK _ _ ⟨fun _ => Hb7.out, ?_⟩
      clear hK K ho7 hb7
      refine Go.XR.S_heavy_on rfl (fun K hK => ?_)
      go_step
      refine (Hf2.out _ Hb7.out).mono ?_
      rintro e w8 ⟨a8, c8, rfl, hr8, hb8⟩
      have Hr8 := Lib.hid hr8
      have Hr78 := Lib.hid (Hr7.out.below hb8)
      have Hb8 := Lib.hid (Hb7.out.trans (hb8.mono Hb7.out.size))
      refine hK _ _ ⟨fun _ => Hb8.out, ?_⟩
      clear hK K hr8 hb8
      refine Go.XR.S_heavy_on rfl (fun K hK => ?_)
      go_step
      refine (same_any _ a7 a8 c7 c8 F F Hr78.out Hr8.out (by omega)).mono ?_
      rintro e w9 ⟨rfl, hb9⟩
      rw [show decide (F = F) = true from decide_eq_true rfl]
      have Hb9 := Lib.hid (Hb8.out.trans (hb9.mono Hb8.out.size))
      refine hK _ _ ⟨fun _ => Hb9.out, ?_⟩
      clear hK K hb9
      repeat (first | (refine Go.XR.S_light rfl rfl (by assumption) ?_ (fun w' hS K hK => ?_) (fun K hK => ?_); rotate_left 1; (have hS1 := bcell hS; go_step; exact hK); go_step; refine hK _ ?_; clear hK K) | (refine Go.XR.S_light_off rfl (by assumption) (fun K hK => ?_); go_step; refine hK _ ?_; clear hK K) | (refine Go.XR.S_light_on rfl rfl rfl (by assumption) ?_ (fun w' hS K hK => ?_) (fun K hK => ?_); rotate_left 1; (have hS1 := bcell hS; go_step; exact hK); go_step; refine hK _ ?_; clear hK K))
      refine Go.XR.S_heavy_on rfl (fun K hK => ?_)
      go_step
      have hfa := from_any ⟨#[]⟩ 4611686018427387904 T w9 q (HT6.out.below Hb9.out) (by omega)
      rw [all_pairs Hsr.out (by omega)] at hfa
      refine hfa.mono ?_
      rintro e w10 ⟨a10, c10, rfl, hb10, ho10⟩
      have Hr10 := Lib.hid (Row.owned ho10)
      have Hb10 := Lib.hid (Hb9.out.trans (hb10.mono Hb9.out.size))
      refine hK _ _ ⟨fun _ => Hb10.out, ?_⟩
      clear hK K hfa ho10 hb10
      refine Go.XR.S_heavy_on rfl (fun K hK => ?_)
      go_step
      refine (same_any _ a10 ma c10 mc T.list T.list Hr10.out (HM6.out.row.below Hb10.out) (by omega)).mono ?_
      rintro e w11 ⟨rfl, hb11⟩
      rw [show decide (T.list = T.list) = true from decide_eq_true rfl]
      have Hb11 := Lib.hid (Hb10.out.trans (hb11.mono Hb10.out.size))
      refine hK _ _ ⟨fun h => by simp at h, ?_⟩
      clear hK K hb11
      repeat (first | (refine Go.XR.S_heavy (fun K hK => ?_); go_step; refine hK _ _ ⟨fun h => by simp at h, ?_⟩; clear hK K) | (refine Go.XR.S_heavy_off rfl (fun h => by simp at h) (fun K hK => ?_); go_step; refine hK _ ?_; clear hK K) | (refine Go.XR.S_heavy_on rfl (fun K hK => ?_); go_step; refine hK _ _ ⟨fun h => by simp at h, ?_⟩; clear hK K))
      refine Go.XR.S_nil ?_
      go_wp2
      go_ret
      exact ⟨rfl, Hb6.out.trans (Hb11.out.mono Hb6.out.size)⟩
end Go.Proofs.Ytfblpabkkahmeaa
