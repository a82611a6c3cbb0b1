/- The walks over few and does. -/
import Derived.Test.YtfblpabkkahmeaaS
namespace Go.Proofs.Ytfblpabkkahmeaa
open Go.RowKit Go.TreePure Go.XR

def cellsA (l : List Deed) : List Value := l.flatMap fun p => [.bool p.gone, .string p.k, .string p.x]

theorem cellsA_get : ∀ (L : List Deed) (i : Nat) (h : i < L.length), (cellsA L)[i * 3]? = some (.bool L[i].gone) ∧ (cellsA L)[i * 3 + 1]? = some (.string L[i].k) ∧ (cellsA L)[i * 3 + 2]? = some (.string L[i].x)
  | p :: L, 0, _ => by simp [cellsA]
  | p :: L, i + 1, h => by
    have := cellsA_get L i (by simpa using h)
    rw [show (i + 1) * 3 = i * 3 + 1 + 1 + 1 from by omega, show cellsA (p :: L) = .bool p.gone :: .string p.k :: .string p.x :: cellsA L from rfl]
    simpa using this

theorem act_at {w : World} {a : Option Addr} {L : List Deed} (h : Row w a (cellsA L)) {i : Nat} (hi : i < L.length) :
    ∃ g o, a = some ⟨g, o, none⟩ ∧ w.cell? ⟨g, o + i * 3, none⟩ = some (.bool L[i].gone) ∧ w.cell? ⟨g, o + i * 3 + 1, none⟩ = some (.string L[i].k) ∧ w.cell? ⟨g, o + i * 3 + 2, none⟩ = some (.string L[i].x) := by
  obtain ⟨h0, h1, h2⟩ := cellsA_get L i hi
  obtain ⟨g, o, ha, c0⟩ := h.get h0
  obtain ⟨g', o', ha', c1⟩ := h.get h1
  obtain ⟨g'', o'', ha'', c2⟩ := h.get h2
  rw [ha] at ha' ha''
  cases ha'
  cases ha''
  exact ⟨g, o, ha, c0, c1, c2⟩

def RetFew (w : World) (a : Option Addr) (c : Nat) (len : Nat) (e : Ending) (w' : World) : Prop := ∃ m, m ≤ len ∧ m ≤ 200 ∧ e = .returned (.slice a m c) ∧ Below w.heap.size w w'

set_option maxHeartbeats 2000000 in
set_option maxRecDepth 100000 in
theorem few_any (w : World) (a : Option Addr) (c : Nat) (L : List Deed) (hL : Row w a (cellsA L)) (hl : L.length ≤ maxLen) (hc : L.length ≤ c) :
    Calls Try.prog 10 #[.slice a L.length c] w (RetFew w a c L.length) := by
  have HL := Lib.hid hL
  unfold maxLen at hl
  clear hL
  go_enter Try.func10, Try.ntmps10
  go_wp2
  go_loopg [7, 4, 3] L.length (fun n i _ lf wr => Below w.heap.size w wr ∧ ∃ (k : Nat) (left : Int), k ≤ L.length ∧ k ≤ 200 ∧ i = .int .i64 k ∧ lf = .int .i64 left ∧ 0 ≤ left ∧ left ≤ 20000 ∧ Hid (n = L.length - k))
  case atStart => exact ⟨Below.refl _ _, 0, 20000, Nat.zero_le _, by omega, rfl, rfl, by omega, by omega, rfl⟩
  case round =>
    obtain ⟨hb, k, left, hk, hk2, rfl, rfl, h0, h1, hn⟩ := hrel
    by_cases hlt : k < L.length
    · obtain ⟨g, o, rfl, c0, c1, c2⟩ := act_at (HL.out.below hb) hlt
      have hi1 : (k : Int) < (L.length : Int) := by omega
      have Hb := Lib.hid hb
      clear hb c0
      by_cases h200 : 200 ≤ (k : Int)
      · have hd : decide (200 ≤ (k : Int)) = true := decide_eq_true h200
        go_wp2
        go_quiet (fail)
        go_wp2
        go_ret
        exact ⟨k, hk, hk2, rfl, below_drewN Hb.out _⟩
      · have hd : decide (200 ≤ (k : Int)) = false := decide_eq_false h200
        by_cases hx : left < (L[k].k.size : Int)
        · have hd2 : decide (left < (L[k].k.size : Int)) = true := decide_eq_true hx
          go_wp2
          go_quiet (fail)
          go_wp2
          go_ret
          exact ⟨k, hk, hk2, rfl, below_drewN Hb.out _⟩
        · have hd2 : decide (left < (L[k].k.size : Int)) = false := decide_eq_false hx
          have hx' : (L[k].k.size : Int) ≤ left := by omega
          by_cases hy : left - (L[k].k.size : Int) < (L[k].x.size : Int)
          · have hd3 : decide (left - (L[k].k.size : Int) < (L[k].x.size : Int)) = true := decide_eq_true hy
            go_wp2
            go_quiet (fail)
            go_wp2
            go_ret
            exact ⟨k, hk, hk2, rfl, below_drewN Hb.out _⟩
          · have hd3 : decide (left - (L[k].k.size : Int) < (L[k].x.size : Int)) = false := decide_eq_false hy
            have hy' : (L[k].x.size : Int) ≤ left - (L[k].k.size : Int) := by omega
            go_wp2
            go_quiet (fail)
            go_wp2
            go_quiet (fail)
            go_wp2
            go_roundg (L.length - (k + 1))
            case measure => have := hn.out; omega
            case rel => exact ⟨below_drewN Hb.out _, k + 1, _, by omega, by omega, by go_num, rfl, by omega, by omega, rfl⟩
    · have hge : ¬ (k : Int) < (L.length : Int) := by omega
      have Hb := Lib.hid hb
      clear hb
      go_wp2
      go_ret
      exact ⟨L.length, Nat.le_refl _, by omega, rfl, Hb.out⟩

set_option maxHeartbeats 1000000 in
theorem does_any (w : World) (p : Option Addr) (t : PT) (a : Deed) (hp : Rep w p t) (hs : t.size < 2^58) :
    Calls Try.prog 22 #[.pointer p, .agg #[.bool a.gone, .string a.k, .string a.x]] w (RetTree w (PT.does t a)) := by
  have Hp := Lib.hid hp
  clear hp
  obtain ⟨g, k, x⟩ := a
  cases g with
  | true =>
    go_enter Try.func22, Try.ntmps22
    go_wp2_with fail
    refine (Drop_any k t _ p (Hp.out.alloc _) (by omega)).mono ?_
    rintro e w1 ⟨q, rfl, hq, hb⟩
    go_wp2
    go_ret
    exact RetTree.of ((Below.refl _ _).alloc (Nat.le_refl _) _) hq hb
  | false =>
    go_enter Try.func22, Try.ntmps22
    go_wp2_with fail
    refine (put_any k x t _ p (Hp.out.alloc _) (by omega)).mono ?_
    rintro e w1 ⟨q, rfl, hq, hb⟩
    go_wp2
    go_ret
    exact RetTree.of ((Below.refl _ _).alloc (Nat.le_refl _) _) hq hb
end Go.Proofs.Ytfblpabkkahmeaa
