/- The statement NamesSnaps: it holds for every input.  No conditions. -/
import Derived.Test.YtoahjhogjjdkhaaGreatDoorRows
import Derived.Test.YtoahjhogjjdkhaaGreatDoorCards
import Derived.Test.YtoahjhogjjdkhaaGreatDoorTie
import Derived.Deep.DeepHandedRow
import Derived.Deep.DeepWitnessRowRef
import Derived.Lib.LaidIn
import Derived.WalkKit
import Derived.ProofKit
import Derived.OpenShut
import Derived.ShutString
import Derived.ChangeOld
import Derived.Below
import Derived.SizedLaws
import Derived.Test.YtoahjhogjjdkhaaGreatDoorQd
/- NamesSnaps. -/
namespace Go.Proofs.YtoahjhogjjdkhaaGreatDoor
open Go Go.RowKit Go.XR Go.TreePure Go.PathPure Go.NamesPure
def keptS : ByteArray := ⟨#[107, 101, 112, 116]⟩
def kept : SK := ⟨keptS, by decide⟩
theorem kept_name : isName keptS = true := by rw [isName_eq]; kernel_rfl
theorem kept_snapE (D : List SnapT) : snapE D kept = 0 ∨ snapE D kept = 3 ∨ snapE D kept = 4 := by
  unfold snapE
  rw [if_neg (by show ¬ isName keptS = false; rw [kept_name]; simp)]
  split
  · exact .inr (.inl rfl)
  · split
    · exact .inr (.inr rfl)
    · exact .inl rfl
theorem snapE_some {D : List SnapT} {k : SK} {q : Option Addr × PT} (h : aget D k = some q) : snapE D k ≠ 0 := by
  unfold snapE
  split
  · decide
  · rw [h]; show (3 : Int) ≠ 0; decide
theorem keeps {s s' : NSt} {a : NActT} {r : Int} {q : Option Addr × PT} (h6 : a.kind % 7 ≠ 6) (h5 : a.kind % 7 = 5 → a.p ≠ keptS) (hq : aget s.D kept = some q) (h : DoesP s a s' r) : aget s'.D kept = some q := by
  unfold DoesP at h
  by_cases h4 : a.kind % 7 < 4
  · rw [if_pos h4] at h; rw [h.2.1]; exact hq
  · rw [if_neg h4] at h
    obtain ⟨k, hk, h⟩ := h
    by_cases e4 : a.kind % 7 = 4
    · rw [if_pos e4] at h
      rw [h.2.1]
      unfold snapD
      split
      · rename_i h0
        rw [aget_put, if_neg]
        · exact hq
        · intro e; subst e; exact snapE_some hq h0
      · exact hq
    · rw [if_neg e4] at h
      have hmod : a.kind % 7 < 7 := Nat.mod_lt _ (by decide)
      have e5 : a.kind % 7 = 5 := by omega
      rw [if_pos e5] at h
      rw [h.2.1, aget_del, if_neg]
      · exact hq
      · intro e; exact h5 e5 (by rw [← hk, ← e]; rfl)
section
variable {w w' : World} {nb xb : Nat} {s sx : NSt}
theorem NAt.neb (h : NAt w nb s) (hx : NAt w xb sx) : nb ≠ sx.m := fun e => by
  obtain ⟨es, clock, h1, _⟩ := hx.gm
  rw [← e, h.blk] at h1; cases h1
theorem NAt.apart (h : NAt w nb s) (hx : NAt w xb sx) (hb : But [nb, s.m] w w') (h1 : nb ≠ xb) (h2 : s.m ≠ sx.m) : NAt w' xb sx := by
  refine hx.but hb ?_ ?_ ?_
  · simp only [List.mem_cons, List.not_mem_nil, or_false]
    rintro (rfl | e)
    · exact h1 rfl
    · exact hx.neb h e
  · simp only [List.mem_cons, List.not_mem_nil, or_false]
    rintro (e | e)
    · exact h.neb hx e.symm
    · exact h2 e.symm
  · intro b hb
    simp only [List.mem_cons, List.not_mem_nil, or_false] at hb
    rcases hb with rfl | rfl
    · exact h.notree_nb _ (by simp)
    · exact h.notree_m _ (by simp)
end
/-- what there is, and what was made of the snapshot that is kept -/
structure Two (W : World) (t0 : PT) (m xm nb xb : Nat) (w : World) (sn sx : NSt) : Prop where
  n : NAt w nb sn
  x : NAt w xb sx
  mn : sn.m = m
  mx : sx.m = xm
  q : ∃ q, aget sn.D kept = some q ∧ q.2 = t0
  b : Below W.heap.size W w
structure Far (W : World) (m xm nb xb : Nat) : Prop where
  lnb : W.heap.size ≤ nb
  lm : W.heap.size ≤ m
  lxb : W.heap.size ≤ xb
  lxm : W.heap.size ≤ xm
  bb : nb ≠ xb
  mm : m ≠ xm
section
variable {W w w' : World} {t0 : PT} {m xm nb xb : Nat} {sn sx : NSt} {a : NActT} {e : Ending}
theorem Two.below (h : Two W t0 m xm nb xb w sn sx) (hb : Below w.heap.size w w') : Two W t0 m xm nb xb w' sn sx :=
  ⟨h.n.below hb, h.x.below hb, h.mn, h.mx, h.q, h.b.trans (hb.mono h.b.size)⟩
theorem Two.stepN (h : Two W t0 m xm nb xb w sn sx) (hf : Far W m xm nb xb) (h6 : a.kind % 7 ≠ 6) (h5 : a.kind % 7 = 5 → a.p ≠ keptS) (hr : RetDoes w nb sn a e w') :
    (∃ v, e = .returned v) ∧ But [nb, m] w w' ∧ ∃ sn', Two W t0 m xm nb xb w' sn' sx := by
  obtain ⟨nb', s', r, rfl, hn, hd, hb, hor⟩ := hr
  rcases hor with ⟨rfl, hm⟩ | ⟨h, _⟩
  · obtain ⟨q, hq, hqt⟩ := h.q
    have hbe := below_two h.b hb hf.lnb (by rw [h.mn]; exact hf.lm)
    refine ⟨⟨_, rfl⟩, by rw [← h.mn]; exact hb, s', hn, h.n.apart h.x hb hf.bb (by rw [h.mn, h.mx]; exact hf.mm), by rw [hm, h.mn], h.mx, ⟨q, keeps h6 h5 hq hd, hqt⟩, hbe⟩
  · exact absurd h h6
theorem Two.stepX (h : Two W t0 m xm nb xb w sn sx) (hf : Far W m xm nb xb) (h6 : a.kind % 7 ≠ 6) (hr : RetDoes w xb sx a e w') :
    (∃ v, e = .returned v) ∧ But [xb, xm] w w' ∧ ∃ sx', Two W t0 m xm nb xb w' sn sx' := by
  obtain ⟨nb', s', r, rfl, hn, hd, hb, hor⟩ := hr
  rcases hor with ⟨rfl, hm⟩ | ⟨h, _⟩
  · have hbe := below_two h.b hb hf.lxb (by rw [h.mx]; exact hf.lxm)
    refine ⟨⟨_, rfl⟩, by rw [← h.mx]; exact hb, s', h.x.apart h.n hb (Ne.symm hf.bb) (by rw [h.mn, h.mx]; exact Ne.symm hf.mm), hn, h.mn, by rw [hm, h.mx], h.q, hbe⟩
  · exact absurd h h6
end
set_option maxHeartbeats 4000000 in
set_option maxRecDepth 100000 in
theorem snaps_walk (W : World) (hE : Env W) (a : Option Addr) (c : Nat) (l : List NActT) (hR : Row W a (l.flatMap nactL)) (hq : ∀ x ∈ l, NActQ W x) (hc : l.length ≤ c) (hcm : c ≤ maxLen)
    (a2 : Option Addr) (c2 : Nat) (l2 : List NActT) (hR2 : Row W a2 (l2.flatMap nactL)) (hq2 : ∀ x ∈ l2, NActQ W x) (hc2 : l2.length ≤ c2) (hcm2 : c2 ≤ maxLen) :
    Calls Tryz.prog 3 #[.slice a l.length c, .slice a2 l2.length c2] W fun e w' => e = .returned (.bool true) ∧ Below W.heap.size W w' := by
  have HE := Lib.hid hE
  have HR := Lib.hid hR
  have Hq := Lib.hid hq
  have HRm := Lib.hid hR2
  have Hqm := Lib.hid hq2
  have Hc := Lib.hid (And.intro hc (Nat.le_trans hc hcm))
  have Hcm := Lib.hid (And.intro hc2 (Nat.le_trans hc2 hcm2))
  clear hE hR hq hR2 hq2 hc hcm hc2 hcm2
  go_enter Tryz.func3, Tryz.ntmps3
  go_wp2_with fail
  refine (shown_any W HE.out).mono ?_
  rintro e w1 ⟨rfl, hb1⟩
  have Hb1 := Lib.hid hb1
  clear hb1
  go_wp2_with fail
  refine (played_any (fun _ => True) (fun _ => trivial) (fun _ _ _ _ _ _ _ _ _ => trivial) w1 (HE.out.based Hb1.out) a c l (HR.out.below Hb1.out) Hc.out.2 Hc.out.1 (fun x hx => (Hq.out x hx).below Hb1.out)).mono ?_
  rintro e w2 ⟨nb, s, rfl, hn, _, hnb, hm, hb2⟩
  have Hb2 := Lib.hid (Hb1.out.trans (hb2.mono Hb1.out.size))
  have HN := Lib.hid hn
  have hnb' : W.heap.size ≤ nb := Nat.le_trans Hb1.out.size hnb
  have hm' : W.heap.size ≤ s.m := Nat.le_trans Hb1.out.size hm
  clear hn hnb hm hb2
  go_wp2_with fail
  refine (snap_any w2 (HE.out.based Hb2.out) nb s HN.out kept).mono ?_
  rintro e w3 ⟨rfl, hn3, hb3⟩
  have hb3' : Below W.heap.size W w3 := Hb2.out.trans (hb3.below Hb2.out.size (fun i hi => by rw [List.mem_singleton] at hi; rw [hi]; exact hm'))
  have HN3 := Lib.hid hn3
  have Hb3 := Lib.hid hb3'
  clear hn3 hb3 hb3' HN
  rcases kept_snapE s.D with he | he | he
  · rw [he]
    have He := Lib.hid he
    clear he
    have hag : aget (snapD s kept) kept = some (s.tp, s.t) := by unfold snapD; rw [if_pos He.out, aget_put, if_pos rfl]
    have Hag := Lib.hid hag
    clear hag
    go_wp2_with fail
    refine (at_any w3 nb _ HN3.out kept).mono ?_
    rw [show aget _ kept = some (s.tp, s.t) from Hag.out]
    rintro e w4 ⟨xb, xm, rfl, hx4, hxb, hxm, hb4⟩
    have HN4 := Lib.hid (HN3.out.below hb4)
    have HX4 := Lib.hid hx4
    have Hb4 := Lib.hid (Hb3.out.trans (hb4.mono Hb3.out.size))
    have hnx : nb ≠ xb := by have := HN3.out.lt; omega
    have hmx : s.m ≠ xm := by have : s.m < w3.heap.size := HN3.out.gm.lt; omega
    have Hf : Hid (Far W s.m xm nb xb) := ⟨hnb', hm', Nat.le_trans Hb3.out.size hxb, Nat.le_trans Hb3.out.size hxm, hnx, hmx⟩
    clear hx4 hb4 HN3 hxb hxm
    go_wp2_with fail
    refine (layn_any w4 xb _ HX4.out).mono ?_
    rintro e w5 hret
    obtain ⟨L, hL⟩ : ∃ L, layN [] s.t = L := ⟨_, rfl⟩
    have HL := Lib.hid hL
    rw [show layN _ _ = L from hL] at hret
    obtain ⟨la, lc, rfl, hr5, _, _, _, hb5⟩ := hret.open
    have HN5 := Lib.hid (HN4.out.below hb5)
    have HX5 := Lib.hid (HX4.out.below hb5)
    have Hb5 := Lib.hid (Hb4.out.trans (hb5.mono Hb4.out.size))
    have hs5 := run_str_of_row w5 la lc L hr5
    clear hret hr5 hb5 HN4 HX4 hL
    go_wp2_with fail
    refine (few_any w5 a2 c2 l2 (HRm.out.below Hb5.out) Hcm.out.2 Hcm.out.1 (fun x hx => (Hqm.out x hx).below Hb5.out)).mono ?_
    rintro e w6 ⟨n, hnl, hn60, rfl, hb6, hfew⟩
    have HN6 := Lib.hid (HN5.out.below hb6)
    have HX6 := Lib.hid (HX5.out.below hb6)
    have Hb6 := Lib.hid (Hb5.out.trans (hb6.mono Hb5.out.size))
    have Hfew := Lib.hid hfew
    clear hb6 hfew HN5 HX5 hs5
    go_wp2
    go_loopg [50] n (fun k i wr => ∃ (j : Nat) (sn sx : NSt), j ≤ n ∧ i = .int .i64 j ∧ Hid (k = n - j ∧ Two W s.t s.m xm nb xb wr sn sx))
    case atStart => exact ⟨0, _, _, by omega, rfl, rfl, HN6.out, HX6.out, rfl, rfl, ⟨_, Hag.out, rfl⟩, Hb6.out⟩
    case round =>
      obtain ⟨j, sn, sx, hj, rfl, hr⟩ := hrel
      have Hgk := Lib.hid hr.out.1
      have HT := Lib.hid hr.out.2
      clear hr
      by_cases hlt : j < n
      · have hlt2 : (j : Int) < (n : Int) := by omega
        obtain ⟨g, o, rfl, hX⟩ := erow_at nactL_length (HRm.out.below HT.out.b) (show j < l2.length by omega) (by omega)
        obtain ⟨c0, c1, c2, c3⟩ := nact_at hX
        have hqx := (Hqm.out _ (List.getElem_mem (show j < l2.length by omega)))
        have hfx := Hfew.out _ (List.mem_take_iff_getElem.2 ⟨j, by omega, rfl⟩)
        rw [Nat.add_zero] at c0
        clear hX
        generalize l2[j] = x at *
        have Hqx := Lib.hid hqx
        have Hfx := Lib.hid hfx
        have hgl := cell_lt c0
        have hk := x.hk
        clear hqx hfx
        obtain ⟨q, hq7⟩ : ∃ q, x.kind % 7 = q := ⟨_, rfl⟩
        have hqi : (x.kind : Int) % 7 = (q : Int) := by omega
        have hqlt : q < 7 := by omega
        have Hq7 := Lib.hid hq7
        clear hq7
        obtain ⟨ab, hab⟩ : ∃ ab, wr.heap.size = ab := ⟨_, rfl⟩
        obtain ⟨wa, hwa⟩ : ∃ wa, wr.alloc (.cells #[.int .u8 x.kind, .string x.p, .string x.q, .slice x.la x.l.length x.lc] 35) = wa := ⟨_, rfl⟩
        have hba : Below wr.heap.size wr wa := by rw [← hwa]; exact (Below.refl _ _).alloc (Nat.le_refl _) _
        have hx : wa.heap[ab]? = some (.cells #[.int .u8 x.kind, .string x.p, .string x.q, .slice x.la x.l.length x.lc] 35 (0, 0)) := by rw [← hwa, ← hab]; exact heap_new _ _
        have Hx := Lib.hid hx
        have habl := blk_lt hx
        have HTa := Lib.hid (HT.out.below hba)
        have hnab : nb ≠ ab ∧ s.m ≠ ab ∧ xb ≠ ab ∧ xm ≠ ab := by
          have h1 := HT.out.n.lt
          have h2 := HT.out.x.lt
          have h3 : sn.m < wr.heap.size := HT.out.n.gm.lt
          have h4 : sx.m < wr.heap.size := HT.out.x.gm.lt
          have h5 := HT.out.mn
          have h6 := HT.out.mx
          omega
        clear hba hx
        have d0 : wa.cell? ⟨ab, 0, none⟩ = some (.int .u8 x.kind) := cells_of Hx.out 0
        have d1 : wa.cell? ⟨ab, 1, none⟩ = some (.string x.p) := cells_of Hx.out 1
        have d2 : wa.cell? ⟨ab, 2, none⟩ = some (.string x.q) := cells_of Hx.out 2
        have d3 : wa.cell? ⟨ab, 3, none⟩ = some (.slice x.la x.l.length x.lc) := cells_of Hx.out 3
        rcases (show q < 4 ∨ q = 4 ∨ q = 5 ∨ q = 6 by omega) with h4 | rfl | rfl | rfl
        · have h4' : decide ((q : Int) < 4) = true := decide_eq_true (by omega)
          have h4e : decide ((q : Int) = 4) = false := decide_eq_false (by omega)
          have h5e : decide ((q : Int) = 5) = false := decide_eq_false (by omega)
          go_wp2_with fail
          refine (does_any wa (HE.out.based HTa.out.b) nb _ HTa.out.n x (Hqx.out.below HTa.out.b) Hfx.out).mono ?_
          rintro e wb hret
          obtain ⟨⟨v, rfl⟩, hbt, sn2, ht⟩ := HTa.out.stepN Hf.out (by have := Hq7.out; omega) (fun h => by have := Hq7.out; omega) hret
          have HTb := Lib.hid ht
          have Hxb : Hid (wb.heap[ab]? = some (.cells #[.int .u8 x.kind, .string x.p, .string x.q, .slice x.la x.l.length x.lc] 35 (0, 0))) := (hbt.block ab (blk_lt Hx.out) (by simp; exact ⟨hnab.1.symm, hnab.2.1.symm⟩)).trans Hx.out
          clear hret hbt ht
          clear d0 d1 d2 d3
          have d0 : wb.cell? ⟨ab, 0, none⟩ = some (.int .u8 x.kind) := cells_of Hxb.out 0
          have d1 : wb.cell? ⟨ab, 1, none⟩ = some (.string x.p) := cells_of Hxb.out 1
          have d2 : wb.cell? ⟨ab, 2, none⟩ = some (.string x.q) := cells_of Hxb.out 2
          have d3 : wb.cell? ⟨ab, 3, none⟩ = some (.slice x.la x.l.length x.lc) := cells_of Hxb.out 3
          clear c0 c1 c2 c3 hwa
          go_wp2_with fail
          refine (does_any wb (HE.out.based HTb.out.b) xb _ HTb.out.x x (Hqx.out.below HTb.out.b) Hfx.out).mono ?_
          rintro e wc hret
          obtain ⟨⟨v2, rfl⟩, hbt, sx2, ht⟩ := HTb.out.stepX Hf.out (by have := Hq7.out; omega) hret
          have HTc := Lib.hid ht
          have Hxc : Hid (wc.heap[ab]? = some (.cells #[.int .u8 x.kind, .string x.p, .string x.q, .slice x.la x.l.length x.lc] 35 (0, 0))) := (hbt.block ab (blk_lt Hxb.out) (by simp; exact ⟨hnab.2.2.1.symm, hnab.2.2.2.symm⟩)).trans Hxb.out
          clear hret hbt ht d0 d1 d2 d3
          have e0 : wc.cell? ⟨ab, 0, none⟩ = some (.int .u8 x.kind) := cells_of Hxc.out 0
          have e1 : wc.cell? ⟨ab, 1, none⟩ = some (.string x.p) := cells_of Hxc.out 1
          have e2 : wc.cell? ⟨ab, 2, none⟩ = some (.string x.q) := cells_of Hxc.out 2
          have e3 : wc.cell? ⟨ab, 3, none⟩ = some (.slice x.la x.l.length x.lc) := cells_of Hxc.out 3
          go_wp2
          go_roundg (n - (j + 1))
          case measure => have := Hgk.out; omega
          case rel => exact ⟨j + 1, _, _, by omega, by go_num, rfl, HTc.out⟩
        · go_wp2_with fail
          refine (does_any wa (HE.out.based HTa.out.b) nb _ HTa.out.n x (Hqx.out.below HTa.out.b) Hfx.out).mono ?_
          rintro e wb hret
          obtain ⟨⟨v, rfl⟩, hbt, sn2, ht⟩ := HTa.out.stepN Hf.out (by have := Hq7.out; omega) (fun h => by have := Hq7.out; omega) hret
          have HTb := Lib.hid ht
          have Hxb : Hid (wb.heap[ab]? = some (.cells #[.int .u8 x.kind, .string x.p, .string x.q, .slice x.la x.l.length x.lc] 35 (0, 0))) := (hbt.block ab (blk_lt Hx.out) (by simp; exact ⟨hnab.1.symm, hnab.2.1.symm⟩)).trans Hx.out
          clear hret hbt ht
          clear c0 c1 c2 c3 hwa d0 d1 d2 d3
          go_wp2
          go_roundg (n - (j + 1))
          case measure => have := Hgk.out; omega
          case rel => exact ⟨j + 1, _, _, by omega, by go_num, rfl, HTb.out⟩
        · by_cases hp : x.p = keptS
          · have hp1 : (x.p.toList == [107, 101, 112, 116]) = true := by rw [hp, ByteArray.toList_eq]; decide
            clear hp
            go_wp2_with fail
            clear c0 c1 c2 c3 hwa d0 d1 d2 d3
            go_wp2
            go_roundg (n - (j + 1))
            case measure => have := Hgk.out; omega
            case rel => exact ⟨j + 1, _, _, by omega, by go_num, rfl, HTa.out⟩
          · have hp1 : (x.p.toList == [107, 101, 112, 116]) = false := by rw [beq_eq_false_iff_ne, ByteArray.toList_eq]; exact fun e => hp (by have : x.p.data = keptS.data := Array.toList_inj.1 e; cases hx : x.p; rw [hx] at this; rw [show keptS = ⟨keptS.data⟩ from rfl, ← this])
            go_wp2_with fail
            refine (does_any wa (HE.out.based HTa.out.b) nb _ HTa.out.n x (Hqx.out.below HTa.out.b) Hfx.out).mono ?_
            rintro e wb hret
            obtain ⟨⟨v, rfl⟩, hbt, sn2, ht⟩ := HTa.out.stepN Hf.out (by have := Hq7.out; omega) (fun _ => hp) hret
            have HTb := Lib.hid ht
            have Hxb : Hid (wb.heap[ab]? = some (.cells #[.int .u8 x.kind, .string x.p, .string x.q, .slice x.la x.l.length x.lc] 35 (0, 0))) := (hbt.block ab (blk_lt Hx.out) (by simp; exact ⟨hnab.1.symm, hnab.2.1.symm⟩)).trans Hx.out
            clear hret hbt ht
            clear c0 c1 c2 c3 hwa d0 d1 d2 d3
            go_wp2
            go_roundg (n - (j + 1))
            case measure => have := Hgk.out; omega
            case rel => exact ⟨j + 1, _, _, by omega, by go_num, rfl, HTb.out⟩
        · go_wp2_with fail
          clear c0 c1 c2 c3 hwa d0 d1 d2 d3
          go_wp2
          go_roundg (n - (j + 1))
          case measure => have := Hgk.out; omega
          case rel => exact ⟨j + 1, _, _, by omega, by go_num, rfl, HTa.out⟩
      · have hge : ¬ (j : Int) < (n : Int) := by omega
        obtain ⟨q, hq, hqt⟩ := HT.out.q
        have Hqq := Lib.hid hq
        have Hqt := Lib.hid hqt
        clear hq hqt
        go_wp2_with fail
        refine (at_any wr nb _ HT.out.n kept).mono ?_
        rw [show aget _ kept = some q from Hqq.out]
        rintro e w7 ⟨yb, ym, rfl, hy7, hyb, hym, hb7⟩
        have HY7 := Lib.hid hy7
        have Hb7 := Lib.hid (HT.out.b.trans (hb7.mono HT.out.b.size))
        clear hy7 hb7 hyb hym
        go_wp2_with fail
        refine (layn_any w7 yb _ HY7.out).mono ?_
        rintro e w8 hret
        rw [show layN _ _ = L from (by show layN [] q.2 = L; rw [Hqt.out]; exact HL.out)] at hret
        obtain ⟨ya, yc, rfl, hr8, _, _, _, hb8⟩ := hret.open
        have HY8 := Lib.hid (HY7.out.below hb8)
        have Hb8 := Lib.hid (Hb7.out.trans (hb8.mono Hb7.out.size))
        have hs8 := run_str_of_row w8 ya yc L hr8
        clear hret hr8 hb8 HY7
        have hse : ((strOf L).toList == (strOf L).toList) = true := beq_self_eq_true _
        go_wp2_with fail
        refine (snaps_any w8 yb _ HY8.out).mono ?_
        rintro e w9 ⟨sa, sc, rfl, _, _, hb9⟩
        have hsl : (snapsL ([] : List SnapT)).length = 0 := by rw [snapsL_length]; rfl
        rw [show (snapsL _).length = 0 from hsl]
        have Hb9 := Lib.hid (Hb8.out.trans (hb9.mono Hb8.out.size))
        clear hb9 hs8
        go_wp2
        go_ret
        exact ⟨rfl, Hb9.out⟩
  · rw [he]
    go_wp2
    go_ret
    exact ⟨rfl, Hb3.out⟩
  · rw [he]
    go_wp2
    go_ret
    exact ⟨rfl, Hb3.out⟩
end Go.Proofs.YtoahjhogjjdkhaaGreatDoor

/- The statement NamesSnaps: it holds for every input.  No conditions. -/
namespace Go.Proofs.YtoahjhogjjdkhaaGreatDoor.namesSnaps
open Go.ChangeShapes Go.WideShapes Go.ChangeAt Go.RowKit Go.XR
open Go.ChangeMaps (open_string shut_string)
theorem own : ownKnob Tryz.prog.godebug = none := by kernel_rfl
theorem laidOut : laidOutB Tryz.prog = true := by kernel_rfl
theorem laid_met (os : Os) (args : Array Value) : laidMet Tryz.prog Rows.namesSnapsRow.laid ((laidWorld os).forCall (fun _ _ => 0) ⟨#[], args, []⟩).memory :=
  (LaidIn.of_run (l := Rows.namesSnapsRow.laid) [1, 0] 8 (by kernel_rfl) (by kernel_rfl) (by kernel_rfl) (by kernel_rfl)).met
theorem witness_row (os : Os) {H : Type} (enc : TypeId × Value → H) :
    (OpenSpec.ofChange Rows.namesSnapsSpec).preRow enc Tryz.prog Tryz.f3 Rows.namesSnapsRow.domain false Rows.namesSnapsRow.laid ((laidWorld os).forCall (fun _ _ => 0) ⟨#[], #[.slice none 0 0, .slice none 0 0], []⟩).memory #[.slice none 0 0, .slice none 0 0] := by
  have hw : (DataW.whole enc Tryz.prog ((laidWorld os).forCall (fun _ _ => 0) ⟨#[], #[.slice none 0 0, .slice none 0 0], []⟩).memory Tryz.f3.params.toList Rows.namesSnapsSpec.vars false (#[.slice none 0 0, .slice none 0 0] : Array Value).toList 8).map (fun x => (x.1, x.2.1)) =
      some ([.nil, .nil], []) := by kernel_rfl
  obtain ⟨⟨x1, x2, x3⟩, hx, hx1⟩ := Option.map_eq_some_iff.1 hw
  simp only [Prod.mk.injEq] at hx1
  obtain ⟨rfl, rfl⟩ := hx1
  exact OpenSpec.preRow_of_cond 8 hx (by kernel_rfl) (fun k hk => by cases hk) (by kernel_rfl) (laid_met os _)
set_option maxRecDepth 100000 in
set_option maxHeartbeats 2000000 in
theorem lifted (os : Os) (started : os.Started) (H : Type) (enc : TypeId × Value → H) (F : Stop.Interp) :
    ReturnsInHanded {} Tryz.checked os 3 .any ((OpenSpec.ofChange Rows.namesSnapsSpec).preRow enc Tryz.prog Tryz.f3 Rows.namesSnapsRow.domain false Rows.namesSnapsRow.laid) (((OpenSpec.ofChange Rows.namesSnapsSpec).at F).post enc Tryz.prog Tryz.f3 false true false false) := by
  refine returnsInHanded_of_row (C := Tryz.checked) (s := OpenSpec.ofChange Rows.namesSnapsSpec) own started (by kernel_rfl) Tryz.func3
    (witness_row_atRef (enc := enc) (C := Tryz.checked) false (laidWorld os) #[.slice none 0 0, .slice none 0 0] rfl (by kernel_rfl) (by kernel_rfl) (by kernel_rfl) (witness_row os enc)) ?_
  intro W base args ds gs before hval0 hW _ _ _ hL hsh _
  have hEnv : Env W := env_of hL hsh
  have hval : ∀ (j : Nat) t v, Tryz.f3.params[j]? = some t → args[j]? = some v → Value.okWide Tryz.prog W .any base t v := hval0
  have hW' := hW
  obtain ⟨p, q, hA0, hV, rfl, _, _⟩ := hW
  have hA : DataW.TrodAll enc Tryz.prog W 0 (fun _ => true) true Tryz.f3.params.toList args.toList ds p := hA0
  rw [Tryz.params3] at hA hval
  obtain ⟨v0, vs0, d0, ds0, p0, q0, hargs, rfl, rfl, h0, r0⟩ := trodAll_cons hA
  obtain ⟨v1, vs1, d1, ds1, p1, q1, rfl, rfl, rfl, h1, r1⟩ := trodAll_cons r0
  obtain ⟨rfl, rfl, rfl⟩ := trodAll_nil r1
  obtain rfl : args = #[v0, v1] := by cases args; simp_all
  obtain ⟨rfl, rfl⟩ := trodVars_none hV
  have k0 := h0
  have lt0 : ∀ x ∈ p0, x.block < W.heap.size := by obtain ⟨m, hm⟩ := k0; exact DataW.trod_lt m _ _ _ hm
  obtain ⟨o0, len0, c0, rfl⟩ := okWide_slice Tryz.underlying22 (hval 0 22 v0 rfl rfl)
  obtain ⟨a0, hn0, hr0, hq0, hl0, hm0⟩ := slice_rel (w := W) (enc := enc) (base := 0) (spare := fun _ => true) (held := true) nactL (NActQ W) nact_read nactL_length Tryz.underlying22 (by decide) (by kernel_rfl) h0
  subst hn0
  have k1 := h1
  have lt1 : ∀ x ∈ p1, x.block < W.heap.size := by obtain ⟨m, hm⟩ := k1; exact DataW.trod_lt m _ _ _ hm
  obtain ⟨o1, len1, c1, rfl⟩ := okWide_slice Tryz.underlying22 (hval 1 22 v1 rfl rfl)
  obtain ⟨a1, hn1, hr1, hq1, hl1, hm1⟩ := slice_rel (w := W) (enc := enc) (base := 0) (spare := fun _ => true) (held := true) nactL (NActQ W) nact_read nactL_length Tryz.underlying22 (by decide) (by kernel_rfl) h1
  subst hn1
  clear hA0 hval0
  refine (snaps_walk W hEnv o0 c0 a0 hr0 hq0 (And.intro hl0 hm0).1 (And.intro hl0 hm0).2 o1 c1 a1 hr1 hq1 (And.intro hl1 hm1).1 (And.intro hl1 hm1).2).mono fun e W' ⟨he, bel⟩ => ?_
  subst he
  exact ⟨_, rfl, _, _, _, [], _, [], hW', trodAll_mk1 (shut_bool Tryz.underlying4 _), (trodAll_cons_mk (Below.trod laidOut (by kernel_rfl) (of_decide_eq_true (by kernel_rfl)) k0 bel lt0) (trodAll_cons_mk (Below.trod laidOut (by kernel_rfl) (of_decide_eq_true (by kernel_rfl)) k1 bel lt1) trodAll_mk0)), rfl, bel.frame _, fun h => by cases h⟩
theorem said : Rows.NamesSnapsSaid :=
  OpenClaim.holds_of_cond 3 Tryz.f3 rfl rfl rfl rfl rfl rfl rfl ⟨rfl, rfl, rfl, rfl, rfl⟩ rfl rfl rfl rfl rfl (by kernel_rfl) Tryz.func3 (by kernel_rfl)
    (of_decide_eq_true (by kernel_rfl)) (by unfold Func.isWrapper; first | (rw [if_pos (by decide +kernel)]; kernel_rfl) | (rw [if_neg (by decide +kernel)]; exact ⟨rfl, rfl⟩))
    (fun os started H enc _ F => by rw [OpenClaim.pre_eq_preRow]; exact lifted os started H enc F)
theorem plain (f : FuncId) (fn : Func) (hf : Tryz.pinned.checked.prog.funcNamed "cellarage/cellaragelaw19.NamesSnaps" = some f) (hfn : Tryz.pinned.checked.prog.funcs[f]? = some fn) :
    false = Tryz.pinned.checked.prog.looks [] ∧ ∀ (j : Nat) t, fn.params[j]? = some t → Tryz.pinned.checked.prog.wantsStandIn t = false := by
  obtain rfl : f = 3 := Option.some.inj ((show Tryz.prog.funcNamed "cellarage/cellaragelaw19.NamesSnaps" = some 3 by kernel_rfl).symm.trans hf) |>.symm
  obtain rfl : fn = Tryz.f3 := (Option.some.inj (Tryz.func3.symm.trans hfn)).symm
  refine ⟨by kernel_rfl, fun j t ht => ?_⟩
  rw [Tryz.params3] at ht
  have hm := Array.mem_of_getElem? ht
  simp only [List.mem_toArray, List.mem_cons, List.not_mem_nil, or_false] at hm
  rcases hm with rfl | rfl
  · exact (show Tryz.prog.wantsStandIn 22 = false by kernel_rfl)
  · exact (show Tryz.prog.wantsStandIn 22 = false by kernel_rfl)
theorem proved : Rows.NamesSnapsCardSaid :=
  Claim7.holds_tied_plain_at .later [] _ _ _ _ said (fun _ h => by cases h) (by kernel_rfl) (fun _ h => by cases h) namesSnaps_row_tie rfl ⟨rfl, rfl⟩ (by kernel_rfl) rfl plain (by kernel_rfl)
#print axioms proved
end Go.Proofs.YtoahjhogjjdkhaaGreatDoor.namesSnaps
namespace Go.Proofs.YtoahjhogjjdkhaaGreatDoor
/-- the statement, under a short name -/
theorem namesSnaps_holds : Rows.NamesSnapsCardSaid := namesSnaps.proved
end Go.Proofs.YtoahjhogjjdkhaaGreatDoor
