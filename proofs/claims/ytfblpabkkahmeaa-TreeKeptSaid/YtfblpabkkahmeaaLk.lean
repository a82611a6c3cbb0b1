/- The walk over the statement TreeKept. -/
import Derived.Test.YtfblpabkkahmeaaLc
namespace Go.Proofs.Ytfblpabkkahmeaa
open Go.RowKit Go.TreePure Go.XR

/-- an act in its block -/
structure AC (n : Nat) (g : Bool) (k x : ByteArray) (w : World) : Prop where
  lt : n < w.heap.size
  c0 : w.cell? ⟨n, 0, none⟩ = some (.bool g)
  c1 : w.cell? ⟨n, 1, none⟩ = some (.string k)
  c2 : w.cell? ⟨n, 2, none⟩ = some (.string x)
theorem AC.below {n : Nat} {g : Bool} {k x : ByteArray} {w w' : World} (h : AC n g k x w) (hb : Below w.heap.size w w') : AC n g k x w' := by
  obtain ⟨h0, h1, h2, h3⟩ := h
  have hs := hb.size
  exact ⟨by omega, (hb.cell (by show n < _; omega)).trans h1, (hb.cell (by show n < _; omega)).trans h2, (hb.cell (by show n < _; omega)).trans h3⟩

/-- the slice that is written over: its block is the call's own -/
def Was (B : Nat) (a : Option Addr) (n : Nat) (w : World) : Prop :=
  0 < n → ∃ g cs, a = some ⟨g, 0, none⟩ ∧ B ≤ g ∧ w.heap[g]? = some (.cells cs 30 (0, 0)) ∧ n * 2 ≤ cs.size
theorem Was.of {w : World} {B : Nat} {a : Option Addr} {n c : Nat} {xs : List Value} (h : w.ownsRow B 30 2 (.slice a n c) n xs) : Was B a n w := by
  intro hn
  rcases h.2 with ⟨h1, h2⟩ | ⟨g, cap, cur, h1, h2, h3, h4, h5, h6, h7⟩
  · omega
  · cases h1; exact ⟨g, cur, rfl, h2, h3, by omega⟩
theorem Was.below {w w' : World} {B : Nat} {a : Option Addr} {n : Nat} (h : Was B a n w) (hb : Below w.heap.size w w') : Was B a n w' := by
  intro hn
  obtain ⟨g, cs, h1, h2, h3, h4⟩ := h hn
  exact ⟨g, cs, h1, h2, (hb.block g (blk_lt h3)).trans h3, h4⟩

set_option maxHeartbeats 8000000 in
set_option maxRecDepth 100000 in
theorem kept_walk (w : World) (a : Option Addr) (c : Nat) (L : List Deed) (hL : Row w a (cellsA L)) (hl : L.length ≤ maxLen) (hc : L.length ≤ c)
    (b : Option Addr) (d : Nat) (M : List Deed) (hM : Row w b (cellsA M)) (hm : M.length ≤ maxLen) (hd : M.length ≤ d) (hcm : c ≤ maxLen) (hdm : d ≤ maxLen) :
    Calls Try.prog 4 #[.slice a L.length c, .slice b M.length d] w fun e w' => e = .returned (.bool true) ∧ Below w.heap.size w w' := by
  have HL := Lib.hid hL
  have HM := Lib.hid hM
  clear hL hM
  unfold maxLen at hcm hdm
  go_enter Try.func4, Try.ntmps4
  go_wp2_with fail
  refine (shown_any _).mono ?_
  rintro e w1 ⟨rfl, hb1⟩
  go_wp2_with fail
  refine (few_any _ a c L (HL.out.below hb1) hl hc).mono ?_
  rintro e w2 ⟨m, hm1, hm2, rfl, hb2⟩
  have Hb2 := Lib.hid (hb1.trans (hb2.mono hb1.size))
  clear hb1 hb2
  go_wp2_with fail
  refine (few_any _ b d M (HM.out.below Hb2.out) hm hd).mono ?_
  rintro e w3 ⟨m', hm3, hm4, rfl, hb3⟩
  have Hb3 := Lib.hid (Hb2.out.trans (hb3.mono Hb2.out.size))
  have hmc : m ≤ c := Nat.le_trans hm1 hc
  have hmd : m' ≤ d := Nat.le_trans hm3 hd
  have Hl := Lib.hid hl
  have Hm := Lib.hid hm
  clear hb3 hl hm
  have e1 : (min (m : Int) 60) = ((min m 60 : Nat) : Int) := by omega
  have h1 : min m 60 ≤ m := by omega
  have h2 : min m 60 ≤ 60 := by omega
  go_wp2_with fail
  have h1' : min m 60 ≤ L.length := by omega
  generalize min m 60 = mm at *
  clear e1 hm1 hm2 hmc h1
  have e2 : (min (m' : Int) 20) = ((min m' 20 : Nat) : Int) := by omega
  have h3 : min m' 20 ≤ m' := by omega
  have h4 : min m' 20 ≤ M.length := by omega
  have h5 : min m' 20 ≤ 20 := by omega
  generalize min m' 20 = mn at *
  go_loopg [29, 6] mm (fun n i p wr => Below w.heap.size w wr ∧ ∃ (k : Nat) (q : Option Addr) (T : PT), k ≤ mm ∧ i = .int .i64 k ∧ p = .pointer q ∧ Hid (n = mm - k ∧ Rep wr q T ∧ Srt T.list ∧ T.size ≤ k))
  case atStart => exact ⟨Hb3.out, 0, none, .nil, Nat.zero_le _, rfl, rfl, rfl, rfl, srt_nil, Nat.le_refl _⟩
  case round =>
    obtain ⟨hb, k, q, T, hk, rfl, rfl, hT⟩ := hrel
    by_cases hlt : k < mm
    · have hltL : k < L.length := by omega
      obtain ⟨g, o, rfl, c0, c1, c2⟩ := act_at (HL.out.below hb) hltL
      have Hb := Lib.hid hb
      have hi1 : (k : Int) < (mm : Int) := by omega
      have hty : T.size ≤ 60 := by have := hT.out.2.2.2; omega
      have Hsr := Lib.hid hT.out.2.2.1
      have Hgk := Lib.hid hT.out.1
      have Htk := Lib.hid hT.out.2.2.2
      have HT := Lib.hid hT.out.2.1
      clear hb hT
      go_wp2_with fail
      refine (from_any ⟨#[]⟩ 4611686018427387904 T _ q (HT.out.alloc _) (by omega)).mono ?_
      rintro e w4 ⟨a4, c4, rfl, hb4, ho4⟩
      rw [all_pairs Hsr.out (by omega)] at ho4 ⊢
      have hz4 := hb4.size
      simp at hz4
      have Hac : Hid (AC wr.heap.size L[k].gone L[k].k L[k].x w4) := by
        refine ⟨by omega, ?_, ?_, ?_⟩ <;> (rw [hb4.cell (by simp)]; simp)
      have Hb4 := Lib.hid ((Hb.out.alloc Hb.out.size _).trans (hb4.mono (by have := Hb.out.size; simp; omega)))
      have HT4 := Lib.hid (HT.out.below (((Below.refl _ _).alloc (Nat.le_refl _) _).trans (hb4.mono (by simp))))
      have Ho4 := Lib.hid ho4
      clear hb4 ho4 hz4 c0 c1 c2
      go_wp2_with fail
      refine (len_any _ q T HT4.out).mono ?_
      rintro e w5 ⟨rfl, rfl⟩
      go_wp2_with fail
      refine (height_any _ q T HT4.out).mono ?_
      rintro e w5 ⟨rfl, rfl⟩
      go_wp2_with fail
      go_loopg [46, 14, 16] mn (fun n i p _ wr2 => Below w4.heap.size w4 wr2 ∧ ∃ (k : Nat) (q : Option Addr) (U : PT), k ≤ mn ∧ i = .int .i64 k ∧ p = .pointer q ∧ Hid (n = mn - k ∧ Rep wr2 q U ∧ U.size ≤ T.size + k))
      case atStart => exact ⟨Below.refl _ _, 0, q, T, Nat.zero_le _, rfl, rfl, rfl, HT4.out, Nat.le_refl _⟩
      case round =>
        obtain ⟨hb, k2, q2, U, hk2, rfl, rfl, hU⟩ := hrel
        by_cases hlt2 : k2 < mn
        · have hltM : k2 < M.length := by omega
          obtain ⟨g2, o2, rfl, c0, c1, c2⟩ := act_at (HM.out.below (Hb4.out.trans (hb.mono Hb4.out.size))) hltM
          have hi2 : (k2 : Int) < (mn : Int) := by omega
          have Hbb := Lib.hid hb
          clear hb
          go_wp2_with fail
          refine (does_any _ q2 U M[k2] (hU.out.2.1.alloc _) (by have := hU.out.2.2; omega)).mono ?_
          rintro e w6 ⟨p6, rfl, hp6, hb6⟩
          have Hp6 := Lib.hid hp6
          have Hb6 := Lib.hid ((Hbb.out.alloc Hbb.out.size _).trans (hb6.mono (by have := Hbb.out.size; simp; omega)))
          clear hp6 hb6 c0 c1 c2
          go_wp2
          go_roundg (mn - (k2 + 1))
          case measure => have := hU.out.1; omega
          case rel => exact ⟨Hb6.out, k2 + 1, p6, PT.does U M[k2], by omega, by go_num, rfl, rfl, Hp6.out, by have := PT.does_size U M[k2]; have := hU.out.2.2; omega⟩
        · have hge2 : ¬ (k2 : Int) < (mn : Int) := by omega
          have Hbb := Lib.hid hb
          have Hac2 := Lib.hid (Hac.out.below hb)
          have HT5 := Lib.hid (HT4.out.below hb)
          clear hb hU hk2 hlt2
          obtain ⟨f4, f0, f1, f2⟩ := Hac2.out
          go_wp2_with fail
          refine (does_any _ q T L[k] HT5.out (by omega)).mono ?_
          rintro e w7 ⟨p7, rfl, hp7, hb7⟩
          have Hb7 := Lib.hid (Hbb.out.trans (hb7.mono Hbb.out.size))
          have HT7 := Lib.hid (HT5.out.below hb7)
          have HU7 := Lib.hid hp7
          clear hp7 hb7 f0 f1 f2 f4 Hac2 Hbb HT5
          go_wp2_with fail
          refine (from_any ⟨#[]⟩ 4611686018427387904 T _ q HT7.out (by omega)).mono ?_
          rintro e w8 ⟨a8, c8, rfl, hb8, ho8⟩
          rw [all_pairs Hsr.out (by omega)] at ho8 ⊢
          have Hr8 := Lib.hid (Row.owned ho8)
          have HT8 := Lib.hid (HT7.out.below hb8)
          have HU8 := Lib.hid (HU7.out.below hb8)
          have Hb8 := Lib.hid (Hb7.out.trans (hb8.mono Hb7.out.size))
          have hll : T.list.length = T.size := PT.list_length T
          have hls : T.list.length < 2^60 := by omega
          have Hll := Lib.hid hll
          clear hb8 ho8 HT7 HU7 hll
          go_wp2_with fail
          refine (same_any _ a8 a4 c8 c4 _ _ Hr8.out ((Row.owned Ho4.out).below Hb8.out) hls).mono ?_
          rintro e w9 ⟨rfl, hb9⟩
          rw [show decide (T.list = T.list) = true from decide_eq_true rfl]
          have HT9 := Lib.hid (HT8.out.below hb9)
          have HU9 := Lib.hid (HU8.out.below hb9)
          have Hb9 := Lib.hid (Hb8.out.trans (hb9.mono Hb8.out.size))
          clear hb9 Hr8 HT8 HU8
          go_wp2_with fail
          refine (len_any _ q T HT9.out).mono ?_
          rintro e w10 ⟨rfl, rfl⟩
          go_wp2_with fail
          refine (height_any _ q T HT9.out).mono ?_
          rintro e w10 ⟨rfl, rfl⟩
          have g1 : ((T.list.length : Int) != (T.size : Int)) = false := by rw [bne_eq_false_iff_eq, Hll.out]
          go_wp2_with fail
          have HF9 := Lib.hid (Hb4.out.trans (Hb9.out.mono Hb4.out.size))
          have Hw9 : Hid (Was w.heap.size a4 T.list.length w9) := Was.below (Was.of (ownsRow_base Ho4.out (by
            have := Hb.out.size
            rw [size_alloc]; omega))) Hb9.out
          go_loopg [82, 17] T.list.length (fun n i _ wr3 => Below w.heap.size w wr3 ∧ ∃ (k3 : Nat), k3 ≤ T.list.length ∧ i = .int .i64 k3 ∧ Hid (n = T.list.length - k3 ∧ Rep wr3 p7 (PT.does T L[k]) ∧ Was w.heap.size a4 T.list.length wr3))
          case atStart => exact ⟨HF9.out, 0, Nat.zero_le _, rfl, by omega, HU9.out, Hw9.out⟩
          case round =>
            clear HF9 Hw9
            obtain ⟨hb, k3, hk3, rfl, hW⟩ := hrel
            by_cases hlt3 : k3 < T.list.length
            · obtain ⟨g4, cs, rfl, hg4, hcs, hcz⟩ := hW.out.2.2 (by omega)
              have i0 : k3 * 2 < cs.size := by omega
              have i1 : k3 * 2 + 1 < cs.size := by omega
              have d0 := cells_of hcs (k3 * 2)
              have d1 := cells_of hcs (k3 * 2 + 1)
              rw [Array.getElem?_eq_getElem i0] at d0
              rw [Array.getElem?_eq_getElem i1] at d1
              have z0 : ∀ i, wr.frozen? ⟨g4, i, none⟩ = false := fun i => by simp [World.frozen?, hcs]
              have Hcs := Lib.hid hcs
              have hi3 : (k3 : Int) < (T.list.length : Int) := by omega
              have Hb3 := Lib.hid hb
              clear hb hcs
              go_wp2
              have q1 := heap_setCell_at (i := k3 * 2) (u := .string ⟨#[111, 116, 104, 101, 114]⟩) Hcs.out
              have q2 := heap_setCell_at (i := k3 * 2 + 1) (u := .string ⟨#[]⟩) q1
              go_roundg (T.list.length - (k3 + 1))
              case measure => have := hW.out.1; omega
              case rel =>
                refine ⟨(Hb3.out.setCell hg4 _).setCell hg4 _, k3 + 1, by omega, by go_num, rfl, (hW.out.2.1.setCell Hcs.out (by decide)).setCell q1 (by decide), fun _ => ⟨g4, _, rfl, hg4, q2, by simpa using hcz⟩⟩
            · have hge3 : ¬ (k3 : Int) < (T.list.length : Int) := by omega
              have Hb3 := Lib.hid hb
              clear hb
              go_wp2
              go_roundg (mm - (k + 1))
              case measure => have := Hgk.out; omega
              case rel => exact ⟨Hb3.out, k + 1, p7, PT.does T L[k], by omega, by go_num, rfl, rfl, hW.out.2.1, PT.does_srt Hsr.out _, by have := PT.does_size T L[k]; have := Htk.out; omega⟩
    · have hge : ¬ (k : Int) < (mm : Int) := by omega
      have Hb := Lib.hid hb
      clear hb
      go_wp2
      go_ret
      exact ⟨rfl, Hb.out⟩
end Go.Proofs.Ytfblpabkkahmeaa
