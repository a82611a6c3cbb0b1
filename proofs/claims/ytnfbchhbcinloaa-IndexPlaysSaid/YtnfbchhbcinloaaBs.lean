/- The walk over slices.BinarySearch at numbers of 32 bits. -/
import Derived.Test.YtnfbchhbcinloaaKf
import Derived.Test.YtnfbchhbcinloaaBut
import Derived.Test.YtnfbchhbcinloaaBld
import Derived.Test.YtnfbchhbcinloaaEql
import Derived.Deep.LoopGhost
namespace Go.IndexPure
/-- how many numbers of a rising list lie below n -/
def LowAt (l : List UInt32) (n : UInt32) (i : Nat) : Prop := i ≤ l.length ∧ (∀ q (h : q < l.length), q < i → l[q].toNat < n.toNat) ∧ (∀ q (h : q < l.length), i ≤ q → n.toNat ≤ l[q].toNat)
end Go.IndexPure
namespace Go.Proofs.Ytnfbchhbcinloaa
open Go.RowKit Go.XR Go.IndexPure
def nL (x : UInt32) : List Value := [.int .u32 (x.toNat : Int)]
theorem row_num {w : World} {a : Option Addr} {l : List UInt32} (h : Row w a (l.flatMap nL)) {q : Nat} (hq : q < l.length) : ∃ g o, a = some ⟨g, o, none⟩ ∧ w.cell? ⟨g, o + q, none⟩ = some (.int .u32 (l[q].toNat : Int)) := by
  have h2 := flat_get (enc := nL) (k := 1) (fun _ => rfl) l (j := 0) hq (by omega)
  rw [Nat.mul_one, Nat.add_zero] at h2
  obtain ⟨g, o, he, h3⟩ := h.get (j := q) (u := .int .u32 (l[q].toNat : Int)) (by rw [h2]; rfl)
  exact ⟨g, o, he, h3⟩
set_option maxHeartbeats 1000000 in
set_option maxRecDepth 100000 in
theorem bsearch_any (w : World) (a : Option Addr) (c : Nat) (l : List UInt32) (hR : Row w a (l.flatMap nL)) (hl : l.length < 2^40) (hs : l.Pairwise (fun x y => x.toNat < y.toNat)) (n : UInt32) :
    Calls Try.prog 45 #[.slice a l.length c, .int .u32 (n.toNat : Int)] w fun e w' => (∃ i, LowAt l n i ∧ e = .returned (.tuple #[.int .i64 i, .bool (decide (n ∈ l))])) ∧ w' = w := by
  have HR := Lib.hid hR
  have HS := Lib.hid (List.pairwise_iff_getElem.1 hs)
  clear hR hs
  have hn := n.toNat_lt
  go_enter Try.func45, Try.ntmps45
  go_wp2
  go_loopg [7, 8] l.length (fun m x y w1 => w = w1 ∧ ∃ i j : Nat, i ≤ j ∧ j ≤ l.length ∧ x = .int .i64 i ∧ y = .int .i64 j ∧ Hid (m = j - i ∧ (∀ q (h : q < l.length), q < i → l[q].toNat < n.toNat) ∧ (∀ q (h : q < l.length), j ≤ q → n.toNat ≤ l[q].toNat)))
  case atStart => exact ⟨rfl, 0, l.length, by omega, by omega, rfl, rfl, rfl, fun q _ h => by omega, fun q h h' => by omega⟩
  case round =>
    obtain ⟨rfl, i, j, hij, hj, rfl, rfl, hr⟩ := hrel
    by_cases hlt : i < j
    · have hlt2 : (i : Int) < (j : Int) := by omega
      obtain ⟨h, hh⟩ : ∃ h, (i + j) / 2 = h := ⟨_, rfl⟩
      have hq1 : i ≤ h := by omega
      have hq2 : h < j := by omega
      have hq3 : ((i : Int) + (j : Int)) / 2 = (h : Int) := by omega
      have hhl : h < l.length := by omega
      clear hh
      obtain ⟨g, o, rfl, c0⟩ := row_num HR.out hhl
      have hbx := l[h].toNat_lt
      have Hx : Hid (∀ q (h' : q < l.length), q ≤ h → l[q].toNat ≤ l[h].toNat) := fun q h' hle => by
        by_cases c : q = h
        · subst c; exact Nat.le_refl _
        · exact Nat.le_of_lt (HS.out q h h' hhl (by omega))
      have Hy : Hid (∀ q (h' : q < l.length), h ≤ q → l[h].toNat ≤ l[q].toNat) := fun q h' hle => by
        by_cases c : h = q
        · subst c; exact Nat.le_refl _
        · exact Nat.le_of_lt (HS.out h q hhl h' (by omega))
      generalize l[h].toNat = x at *
      by_cases hc : x < n.toNat
      · have hc2 : (x : Int) < (n.toNat : Int) := by omega
        go_wp2
        go_roundg (j - (h + 1))
        case measure => have := hr.out.1; omega
        case rel => exact ⟨rfl, h + 1, j, by omega, by omega, by go_num, rfl, rfl, fun q h' hle => by have := Hx.out q h' (by omega); omega, hr.out.2.2⟩
      · have hc2 : ¬ (x : Int) < (n.toNat : Int) := by omega
        go_wp2
        go_roundg (h - i)
        case measure => have := hr.out.1; omega
        case rel => exact ⟨rfl, i, h, by omega, by omega, rfl, rfl, rfl, hr.out.2.1, fun q h' hle => by have := Hy.out q h' hle; omega⟩
    · have hge : ¬ (i : Int) < (j : Int) := by omega
      have hLow : Hid (LowAt l n i) := ⟨by omega, hr.out.2.1, fun q h h' => hr.out.2.2 q h (by omega)⟩
      clear hr
      by_cases hil : i < l.length
      · have hil2 : (i : Int) < (l.length : Int) := by omega
        obtain ⟨g, o, rfl, c0⟩ := row_num HR.out hil
        have hbx := l[i].toNat_lt
        have Hin : Hid (n ∈ l ↔ l[i].toNat = n.toNat) := by
          constructor
          · intro hm
            obtain ⟨q, hq, he⟩ := List.getElem_of_mem hm
            by_cases c : q < i
            · have := hLow.out.2.1 q hq c; rw [he] at this; omega
            · by_cases d : q = i
              · subst d; rw [he]
              · have h1 := HS.out i q hil hq (by omega)
                have h2 := hLow.out.2.2 i hil (Nat.le_refl _)
                rw [he] at h1; omega
          · intro he
            rw [← UInt32.toNat_inj.1 he]; exact List.getElem_mem hil
        generalize l[i].toNat = x at *
        by_cases he : x = n.toNat
        · have he2 : (x : Int) = (n.toNat : Int) := by omega
          have Hd : Hid (decide (n ∈ l) = true) := decide_eq_true (Hin.out.2 he)
          subst he
          go_wp2
          go_ret2
          exact ⟨⟨i, hLow.out, by rw [Hd.out]; rfl⟩, rfl⟩
        · have he2 : ¬ (x : Int) = (n.toNat : Int) := by omega
          have hbz : ((x : Int) == (n.toNat : Int)) = false := by rw [beq_eq_false_iff_ne]; exact he2
          have Hd : Hid (decide (n ∈ l) = false) := decide_eq_false fun h => he (Hin.out.1 h)
          go_wp2
          go_ret2
          exact ⟨⟨i, hLow.out, by rw [Hd.out]; rfl⟩, rfl⟩
      · have hil2 : ¬ (i : Int) < (l.length : Int) := by omega
        have Hd : Hid (decide (n ∈ l) = false) := decide_eq_false fun hm => by
          obtain ⟨q, hq, he⟩ := List.getElem_of_mem hm
          have := hLow.out.2.1 q hq (by omega)
          rw [he] at this; omega
        go_wp2
        go_ret2
        exact ⟨⟨i, hLow.out, by rw [Hd.out]; rfl⟩, rfl⟩
end Go.Proofs.Ytnfbchhbcinloaa
