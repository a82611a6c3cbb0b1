/- The walks over the reference's map: Get, From. -/
import Derived.Test.YtfblpabkkahmeaaM
namespace Go.Proofs.Ytfblpabkkahmeaa
open Go.RowKit Go.TreePure Go.XR

theorem MR.ex {w : World} {a : Option Addr} {c : Nat} {l : List Pr} (h : MR w a c l) (hc : c ≠ 0) : ∃ g o, a = some ⟨g, o, none⟩ := by
  rcases h.shape with e | e
  · exact absurd (h.nil e) hc
  · exact e

set_option maxHeartbeats 2000000 in
set_option maxRecDepth 100000 in
theorem refget_any (w : World) (a : Option Addr) (c : Nat) (l : List Pr) (key : ByteArray) (h : MR w a c l) (hs : Srt l) (hl : l.length < 2^40) :
    Calls Try.prog 16 #[.agg #[.slice a l.length c], .string key] w fun e w' => e = .returned (.tuple #[.string ((TreePure.look key l).getD ⟨#[]⟩), .bool (TreePure.look key l).isSome]) ∧ Below w.heap.size w w' := by
  have H := Lib.hid h
  clear h
  go_enter Try.func16, Try.ntmps16
  go_wp2_with fail
  refine (at_any _ a c l key (H.out.below ((Below.refl _ _).alloc (Nat.le_refl _) _)) hl).mono ?_
  rintro e w1 ⟨rfl, hb1⟩
  have hz1 := hb1.size
  simp at hz1
  have f0 : w1.cell? ⟨w.heap.size, 0, none⟩ = some (.slice a l.length c) := by rw [hb1.cell (by simp)]; simp
  have Hb1 : Hid (Below w.heap.size w w1) := ((Below.refl w.heap.size w).alloc (Nat.le_refl _) _).trans (hb1.mono (by simp))
  clear hb1
  have H1 := Lib.hid (H.out.row.below Hb1.out)
  cases hat : isAt key l with
  | true =>
    obtain ⟨hlt, hk, hlk, _⟩ := drop_idx_succ hs key hat
    obtain ⟨g, o, rfl, _, d1⟩ := pair_at H1.out hlt
    have hlt2 : (idx key l : Int) < (l.length : Int) := by omega
    have Hlk := Lib.hid hlk
    have Hat := Lib.hid hat
    clear hlk hk hat
    go_wp2
    go_ret2
    refine ⟨?_, Hb1.out⟩
    rw [Hlk.out]; rfl
  | false =>
    have Hlk : Hid (TreePure.look key l = none) := by
      have := isAt_look hs key
      rw [hat] at this
      cases hq : TreePure.look key l with
      | none => rfl
      | some x => rw [hq] at this; cases this
    have Hat := Lib.hid hat
    clear hat
    go_wp2
    go_ret2
    refine ⟨?_, Hb1.out⟩
    rw [Hlk.out]; rfl

def RetRow (w : World) (L : List Pr) (e : Ending) (w' : World) : Prop := ∃ a c, e = .returned (.slice a L.length c) ∧ Row w' a (cellsOf L) ∧ Below w.heap.size w w'

set_option maxHeartbeats 2000000 in
set_option maxRecDepth 100000 in
theorem reffrom_any (w : World) (a : Option Addr) (c : Nat) (l : List Pr) (key : ByteArray) (n : Int) (h : MR w a c l) (hs : Srt l) (hl : l.length < 2^40) (hn0 : -2^63 ≤ n) (hn1 : n < 2^63) :
    Calls Try.prog 20 #[.agg #[.slice a l.length c], .string key, .int .i64 n] w (RetRow w ((l.filter fun p => !klt p.1 key).take n.toNat)) := by
  have hcl := h.le
  have hcap := h.cap
  unfold maxLen at hcap
  have H := Lib.hid h
  clear h
  have hix := idx_le key l
  go_enter Try.func20, Try.ntmps20
  go_wp2_with fail
  refine (at_any _ a c l key (H.out.below ((Below.refl _ _).alloc (Nat.le_refl _) _)) hl).mono ?_
  rintro e w1 ⟨rfl, hb1⟩
  have hz1 := hb1.size
  simp at hz1
  have f0 : w1.cell? ⟨w.heap.size, 0, none⟩ = some (.slice a l.length c) := by rw [hb1.cell (by simp)]; simp
  have Hb1 : Hid (Below w.heap.size w w1) := ((Below.refl w.heap.size w).alloc (Nat.le_refl _) _).trans (hb1.mono (by simp))
  clear hb1
  have H1 := Lib.hid (H.out.below Hb1.out)
  have Hdr := Lib.hid (drop_idx hs key)
  clear hs
  have hm : (max 0 (min n ((l.length : Int) - (idx key l : Int)))) = ((min n.toNat (l.length - idx key l) : Nat) : Int) := by omega
  have hmle : min n.toNat (l.length - idx key l) ≤ l.length - idx key l := by omega
  have hlen : ((l.drop (idx key l)).take n.toNat).length = min n.toNat (l.length - idx key l) := by rw [List.length_take, List.length_drop]
  have Hlen := Lib.hid hlen
  clear hlen
  generalize hM : min n.toNat (l.length - idx key l) = mm at *
  have HM := Lib.hid hM
  clear hM
  by_cases hc : c = idx key l
  · have hm0 : mm = 0 := by omega
    subst hm0
    go_wp2
    go_ret
    have e : (l.drop (idx key l)).take n.toNat = [] := List.eq_nil_of_length_eq_zero Hlen.out
    rw [← Hdr.out, e]
    exact ⟨a, 0, rfl, .inl rfl, Hb1.out⟩
  · obtain ⟨g, o, rfl⟩ := H1.out.ex (by omega)
    go_wp2
    go_ret
    rw [← Hdr.out]
    refine ⟨some ⟨g, o + idx key l * 2, none⟩, c - idx key l, ?_, row_of_take (row_of_drop H1.out.row _) _, Hb1.out⟩
    have e2 : idx key l + mm - idx key l = mm := by omega
    rw [Hlen.out]
    show Ending.returned (.slice _ (idx key l + mm - idx key l) _) = _
    rw [e2]
end Go.Proofs.Ytfblpabkkahmeaa
