/- The walk over Parse. -/
import Derived.Test.YtdillaedlpplhaaDoorPa
namespace Go.Proofs.YtdillaedlpplhaaDoor
open Go.RowKit Go.PathPure Go.XR

/-- what the library's functions read of the world -/
structure Env (w : World) : Prop where
  tabs : Lib.Utf8Tabs 0 1 w
  max : ∃ m : Int, w.cell? ⟨2, 0, none⟩ = some (.int .i64 m)
theorem Env.below {w w' : World} (h : Env w) (hb : Below w.heap.size w w') : Env w' := by
  obtain ⟨h1, m, h2⟩ := h
  exact ⟨Go.Proofs.Utf8Tabs_below h1 hb, m, by rw [hb.cell (cell_lt h2)]; exact h2⟩

def isP (s : ByteArray) : Bool := Lib.hasPrefix s.data.toList [47]
def rest (s : ByteArray) : ByteArray := B (Lib.trimPrefix s.data.toList [47])

theorem cut_any (w : World) (s : ByteArray) : Calls Tryd.prog 23 #[.string s, .string ⟨#[47]⟩] w fun e w' => e = .returned (.tuple #[.string (rest s), .bool (isP s)]) ∧ w = w' :=
  (Tryd.strings_CutPrefix s ⟨#[47]⟩ w).mono fun e w' h => ⟨h.1, h.2.symm⟩
theorem rest_size (s : ByteArray) : (rest s).size ≤ s.size := by
  have h1 : (rest s).size = (Lib.trimPrefix s.data.toList [47]).length := rfl
  have h2 : s.size = s.data.toList.length := (Array.length_toList (xs := s.data)).symm
  rw [h1, h2]
  unfold Lib.trimPrefix
  split
  · rw [List.length_drop]; omega
  · exact Nat.le_refl _

theorem pieces_length : ∀ l : List UInt8, (pieces l).length = l.count 47 + 1
  | [] => rfl
  | b :: l => by
    have ih := pieces_length l
    by_cases c : b = 47
    · subst c
      unfold pieces
      rw [if_pos rfl, List.length_cons, ih, List.count_cons_self]
    · have hne := pieces_ne l
      unfold pieces
      rw [if_neg c, List.count_cons_of_ne c]
      cases hp : pieces l with
      | nil => exact absurd hp hne
      | cons p ps => rw [hp] at ih; simpa using ih

def names (s : ByteArray) : List ByteArray := (pieces s.data.toList).map B

theorem split_any (w : World) (hE : Env w) (s : ByteArray) (hs : s.size ≤ 2^30) : Calls Tryd.prog 24 #[.string s, .string ⟨#[47]⟩] w fun e w' => e = .returned (.slice (some ⟨w.heap.size, 0, none⟩) (names s).length (names s).length) ∧ w' = w.alloc (.cells (strs (names s)).toArray 9) := by
  obtain ⟨_, m, hm⟩ := hE
  have h := Tryd.strings_Split s ⟨#[47]⟩ m w (by omega) hm (by decide)
  have e1 : Lib.splitB ⟨#[47]⟩ 0 (Lib.countB s ⟨#[47]⟩) s = names s := split_B s
  have e2 : Lib.countB s ⟨#[47]⟩ + 1 = (names s).length := by
    show Lib.count s.data.toList [47] + 1 = _
    rw [Lib.count_one, names, List.length_map, pieces_length]
  rw [e1, e2] at h
  exact h

/-- a path's names, if it is one -/
def parse (s : ByteArray) : Option (List ByteArray) :=
  if isP s then (if ((rest s).toList == []) then some [] else if okNames (names (rest s)) then some (names (rest s)) else none) else none

def RetParse (w : World) (s : ByteArray) (e : Ending) (w' : World) : Prop := ∃ a c, e = .returned (.tuple #[.slice a ((parse s).getD []).length c, .int .i64 (if (parse s).isSome then 0 else 170)]) ∧ Row w' a (strs ((parse s).getD [])) ∧ ((parse s).getD []).length ≤ c ∧ (c ≠ 0 → ∃ g o, a = some ⟨g, o, none⟩) ∧ Below w.heap.size w w'

theorem names_length (s : ByteArray) : (names s).length ≤ s.size + 1 := by
  rw [names, List.length_map, pieces_length]
  have := List.count_le_length (a := (47 : UInt8)) (l := s.data.toList)
  have h2 : s.size = s.data.toList.length := (Array.length_toList (xs := s.data)).symm
  omega

set_option maxHeartbeats 2000000 in
theorem parse_any (w : World) (hE : Env w) (s : ByteArray) (hs : s.size ≤ 2^30) : Calls Tryd.prog 10 #[.string s] w (RetParse w s) := by
  have HE := Lib.hid hE
  clear hE
  have hrs := rest_size s
  have hnl := names_length (rest s)
  cases hp : isP s with
  | true =>
    cases hr : (rest s).toList == [] with
    | true =>
      have E : Hid (parse s = some []) := by unfold Hid parse; rw [hp, hr]; rfl
      have Hp := Lib.hid hp
      clear hp
      go_enter Tryd.func10, Tryd.ntmps10
      go_wp2_with fail
      refine (cut_any _ s).mono ?_
      rintro e w1 ⟨rfl, rfl⟩
      rw [Hp.out]
      go_wp2
      go_ret2
      unfold RetParse
      rw [E.out]
      exact ⟨none, 0, rfl, .inl rfl, Nat.le_refl _, fun h => absurd rfl h, Below.refl _ _⟩
    | false =>
      have E : Hid (parse s = if okNames (names (rest s)) then some (names (rest s)) else none) := by unfold Hid parse; rw [hp, hr]; rfl
      have Hp := Lib.hid hp
      clear hp
      go_enter Tryd.func10, Tryd.ntmps10
      go_wp2_with fail
      refine (cut_any _ s).mono ?_
      rintro e w1 ⟨rfl, rfl⟩
      rw [Hp.out]
      go_wp2_with fail
      refine (split_any _ HE.out (rest s) (by omega)).mono ?_
      rintro e w1 ⟨rfl, rfl⟩
      generalize hL : names (rest s) = L at *
      go_wp2_with fail
      refine (names_any _ (HE.out.below ((Below.refl _ _).alloc (Nat.le_refl _) _)).tabs (some ⟨w.heap.size, 0, none⟩) L.length L (Row.new _ _ _) (by omega)).mono ?_
      rintro e w2 ⟨rfl, hb2⟩
      have Hrow : Hid (Row w2 (some ⟨w.heap.size, 0, none⟩) (strs L)) := Row.below hb2 (Row.new _ _ _)
      have Hb2 := Lib.hid (((Below.refl w.heap.size w).alloc (Nat.le_refl _) _).trans (hb2.mono (by simp)))
      clear hb2
      cases ho : okNames L with
      | true =>
        have Ho := Lib.hid ho
        clear ho
        go_wp2
        go_ret2
        unfold RetParse
        rw [E.out, Ho.out]
        exact ⟨_, L.length, rfl, Hrow.out, Nat.le_refl _, fun _ => ⟨_, _, rfl⟩, Hb2.out⟩
      | false =>
        have Ho := Lib.hid ho
        clear ho
        go_wp2
        go_ret2
        unfold RetParse
        rw [E.out, Ho.out]
        exact ⟨none, 0, rfl, .inl rfl, Nat.le_refl _, fun h => absurd rfl h, Hb2.out⟩
  | false =>
    have E : Hid (parse s = none) := by unfold Hid parse; rw [hp]; rfl
    have Hp := Lib.hid hp
    clear hp
    go_enter Tryd.func10, Tryd.ntmps10
    go_wp2_with fail
    refine (cut_any _ s).mono ?_
    rintro e w1 ⟨rfl, rfl⟩
    rw [Hp.out]
    go_wp2_with fail
    refine (split_any _ HE.out (rest s) (by omega)).mono ?_
    rintro e w1 ⟨rfl, rfl⟩
    generalize hL : names (rest s) = L at *
    go_wp2
    go_ret2
    unfold RetParse
    rw [E.out]
    exact ⟨none, 0, rfl, .inl rfl, Nat.le_refl _, fun h => absurd rfl h, (Below.refl _ _).alloc (Nat.le_refl _) _⟩
end Go.Proofs.YtdillaedlpplhaaDoor
