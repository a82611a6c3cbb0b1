/- The walks over IndexFunc and ContainsFunc with names' closure, names, Parse. -/
import Derived.Test.YtdillaedlpplhaaDoorNv
import Derived.Test.YtdillaedlpplhaaDoorPp
namespace Go.Proofs.YtdillaedlpplhaaDoor
open Go.RowKit Go.PathPure Go.XR

def strs (l : List ByteArray) : List Value := l.map Value.string
theorem strs_get {l : List ByteArray} {i : Nat} (h : i < l.length) : (strs l)[i]? = some (.string l[i]) := by simp [strs, h]
theorem str_at {w : World} {a : Option Addr} {l : List ByteArray} (h : Row w a (strs l)) {i : Nat} (hi : i < l.length) : ∃ g o, a = some ⟨g, o, none⟩ ∧ w.cell? ⟨g, o + i, none⟩ = some (.string l[i]) := h.get (strs_get hi)

theorem not_any (w : World) (hT : Lib.Utf8Tabs 0 1 w) (s : ByteArray) : Calls Tryd.prog 33 #[.string s] w fun e w' => e = .returned (.bool (!isName s)) ∧ Below w.heap.size w w' := by
  have HT := Lib.hid hT
  clear hT
  go_enter Tryd.func33, Tryd.ntmps33
  go_wp2_with fail
  refine (name_any _ HT.out s).mono ?_
  rintro e w1 ⟨rfl, hb⟩
  go_wp2
  go_ret
  exact ⟨rfl, hb⟩

def RetIdx (w : World) (l : List ByteArray) (e : Ending) (w' : World) : Prop := ∃ r : Int, e = .returned (.int .i64 r) ∧ decide (0 ≤ r) = (!l.all isName) ∧ Below w.heap.size w w'

set_option maxHeartbeats 1000000 in
theorem index_any (w : World) (hT : Lib.Utf8Tabs 0 1 w) (a : Option Addr) (c : Nat) (l : List ByteArray) (hL : Row w a (strs l)) (hl : l.length < 2^40) :
    Calls Tryd.prog 43 #[.slice a l.length c, .func (.func 33) #[] #[]] w (RetIdx w l) := by
  have HL := Lib.hid hL
  have HT := Lib.hid hT
  clear hL hT
  go_enter Tryd.func43, Tryd.ntmps43
  go_wp2
  go_loopg [8, 5] l.length (fun n i _ wr => Below w.heap.size w wr ∧ ∃ k : Nat, k ≤ l.length ∧ i = .int .i64 k ∧ Hid (n = l.length - k ∧ (l.take k).all isName = true))
  case atStart => exact ⟨Below.refl _ _, 0, Nat.zero_le _, rfl, rfl, rfl⟩
  case round =>
    obtain ⟨hb, k, hk, rfl, hn⟩ := hrel
    by_cases hlt : k < l.length
    · obtain ⟨g, o, rfl, c0⟩ := str_at (HL.out.below hb) hlt
      have Hb := Lib.hid hb
      have hi1 : (k : Int) < (l.length : Int) := by omega
      clear hb
      go_wp2_with fail
      refine (not_any _ (Go.Proofs.Utf8Tabs_below HT.out Hb.out) l[k]).mono ?_
      rintro e w1 ⟨rfl, hb1⟩
      have Hb1 := Lib.hid (Hb.out.trans (hb1.mono Hb.out.size))
      clear hb1
      cases hv : isName l[k] with
      | false =>
        have Hv := Lib.hid hv
        clear hv c0
        go_wp2
        go_ret
        refine ⟨k, rfl, ?_, Hb1.out⟩
        rw [decide_eq_true (by omega)]
        have : l.all isName = false := by
          rw [Bool.eq_false_iff]; intro h
          have := List.all_eq_true.1 h l[k] (List.getElem_mem hlt)
          rw [Hv.out] at this; cases this
        rw [this]; rfl
      | true =>
        have Hv := Lib.hid hv
        clear hv c0
        go_wp2
        go_roundg (l.length - (k + 1))
        case measure => have := hn.out.1; omega
        case rel =>
          refine ⟨Hb1.out, k + 1, by omega, by go_num, rfl, ?_⟩
          rw [List.take_succ_eq_append_getElem hlt, List.all_append, hn.out.2]; simp [Hv.out]
    · have hge : ¬ (k : Int) < (l.length : Int) := by omega
      have Hb := Lib.hid hb
      clear hb
      go_wp2
      go_ret
      refine ⟨-1, rfl, ?_, Hb.out⟩
      have := hn.out.2
      rw [List.take_of_length_le (by omega)] at this
      rw [this]; rfl

theorem contains_any (w : World) (hT : Lib.Utf8Tabs 0 1 w) (a : Option Addr) (c : Nat) (l : List ByteArray) (hL : Row w a (strs l)) (hl : l.length < 2^40) :
    Calls Tryd.prog 32 #[.slice a l.length c, .func (.func 33) #[] #[]] w fun e w' => e = .returned (.bool (!l.all isName)) ∧ Below w.heap.size w w' := by
  have HL := Lib.hid hL
  have HT := Lib.hid hT
  clear hL hT
  go_enter Tryd.func32, Tryd.ntmps32
  go_wp2_with fail
  refine (index_any _ HT.out a c l HL.out hl).mono ?_
  rintro e w1 ⟨r, rfl, hr, hb⟩
  have Hr := Lib.hid hr
  clear hr
  go_wp2
  go_ret
  exact ⟨by rw [← Hr.out]; rfl, hb⟩

def okNames (l : List ByteArray) : Bool := decide (l.length ≤ 16) && l.all isName
theorem names_any (w : World) (hT : Lib.Utf8Tabs 0 1 w) (a : Option Addr) (c : Nat) (l : List ByteArray) (hL : Row w a (strs l)) (hl : l.length < 2^40) :
    Calls Tryd.prog 25 #[.slice a l.length c] w fun e w' => e = .returned (.bool (okNames l)) ∧ Below w.heap.size w w' := by
  have HL := Lib.hid hL
  have HT := Lib.hid hT
  clear hL hT
  by_cases h : l.length ≤ 16
  · have hd : decide (l.length ≤ 16) = true := decide_eq_true h
    have hd2 : decide ((l.length : Int) ≤ 16) = true := decide_eq_true (by omega)
    have E : Hid (okNames l = l.all isName) := by unfold Hid okNames; rw [hd]; rfl
    clear h
    go_enter Tryd.func25, Tryd.ntmps25
    go_wp2_with fail
    refine (contains_any _ HT.out a c l HL.out hl).mono ?_
    rintro e w1 ⟨rfl, hb⟩
    go_wp2
    go_ret
    refine ⟨?_, hb⟩
    rw [E.out]
    cases l.all isName <;> rfl
  · have hd : decide (l.length ≤ 16) = false := decide_eq_false h
    have hd2 : decide ((l.length : Int) ≤ 16) = false := decide_eq_false (by omega)
    have E : Hid (okNames l = false) := by unfold Hid okNames; rw [hd]; rfl
    clear h
    go_enter Tryd.func25, Tryd.ntmps25
    go_wp2
    go_ret
    exact ⟨by rw [E.out]; rfl, Below.refl _ _⟩
end Go.Proofs.YtdillaedlpplhaaDoor
