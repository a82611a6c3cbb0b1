/- The text of names: plain. -/
import Derived.Test.YtdillaedlpplhaaDoorPi
import Derived.Lib.Join
namespace Go.PathPure
open Go.Lib

/-- what the decoder took: one sign below 128 is itself; more have all their other bytes at 128 and above -/
theorem dec_in {x0 x1 x2 x3 : Nat} {k1 k2 k3 : Bool} :
    ((dec x0 x1 x2 x3 k1 k2 k3).2 = 1 ∧ (x0 < 128 → (dec x0 x1 x2 x3 k1 k2 k3).1 = x0)) ∨ ((dec x0 x1 x2 x3 k1 k2 k3).2 = 2 ∧ 128 ≤ x0 ∧ k1 = true) ∨
    ((dec x0 x1 x2 x3 k1 k2 k3).2 = 3 ∧ 128 ≤ x0 ∧ k1 = true ∧ k2 = true) ∨ ((dec x0 x1 x2 x3 k1 k2 k3).2 = 4 ∧ 128 ≤ x0 ∧ k1 = true ∧ k2 = true ∧ k3 = true) := by
  unfold dec
  by_cases c0 : x0 < 0x80
  · rw [if_pos c0]; exact .inl ⟨rfl, fun _ => rfl⟩
  rw [if_neg c0]
  by_cases c1 : (x0 / 32 == 6 && k1) = true
  · rw [if_pos c1]
    by_cases d : (x0 % 32) * 64 + x1 % 64 ≥ 0x80
    · rw [if_pos d]; rw [Bool.and_eq_true] at c1; exact .inr (.inl ⟨rfl, by omega, c1.2⟩)
    · rw [if_neg d]; exact .inl ⟨rfl, fun h => absurd h c0⟩
  rw [if_neg c1]
  by_cases c2 : (x0 / 16 == 14 && k1 && k2) = true
  · rw [if_pos c2]
    generalize hc : (x0 % 16) * 4096 + (x1 % 64) * 64 + x2 % 64 = c
    rw [Bool.and_eq_true, Bool.and_eq_true] at c2
    by_cases d : (decide (c ≥ 0x800) && Utf8.valid c) = true
    · rw [if_pos d]; exact .inr (.inr (.inl ⟨rfl, by omega, c2.1.2, c2.2⟩))
    · rw [if_neg d]; exact .inl ⟨rfl, fun h => absurd h c0⟩
  rw [if_neg c2]
  by_cases c3 : (x0 / 8 == 30 && k1 && k2 && k3) = true
  · rw [if_pos c3]
    generalize hc : (x0 % 8) * 262144 + (x1 % 64) * 4096 + (x2 % 64) * 64 + x3 % 64 = c
    rw [Bool.and_eq_true, Bool.and_eq_true, Bool.and_eq_true] at c3
    by_cases d : (decide (c ≥ 0x10000) && Utf8.valid c) = true
    · rw [if_pos d]; exact .inr (.inr (.inr ⟨rfl, by omega, c3.1.1.2, c3.1.2, c3.2⟩))
    · rw [if_neg d]; exact .inl ⟨rfl, fun h => absurd h c0⟩
  rw [if_neg c3]; exact .inl ⟨rfl, fun h => absurd h c0⟩

theorem high_ne {p : Bool} {b : UInt8} (h : (p && b.toNat / 64 == 2) = true) : b ≠ 47 := by
  rw [Bool.and_eq_true, beq_iff_eq] at h
  rintro rfl
  exact absurd h.2 (by decide)

theorem dec_no47 (s : ByteArray) (pos : Nat) (hb : badR (Utf8.decode s pos).1 = false) (i : Nat) (h1 : pos ≤ i) (h2 : i < pos + (Utf8.decode s pos).2) : s.get! i ≠ 47 := by
  rw [decode_dec] at hb h2
  have h0 : 128 ≤ (s.get! pos).toNat → s.get! pos ≠ 47 := fun h e => by rw [e] at h; exact absurd h (by decide)
  rcases dec_in (x0 := (s.get! pos).toNat) (x1 := (s.get! (pos + 1)).toNat) (x2 := (s.get! (pos + 2)).toNat) (x3 := (s.get! (pos + 3)).toNat) (k1 := (decide (pos + 1 < s.size) && (s.get! (pos + 1)).toNat / 64 == 2)) (k2 := (decide (pos + 2 < s.size) && (s.get! (pos + 2)).toNat / 64 == 2)) (k3 := (decide (pos + 3 < s.size) && (s.get! (pos + 3)).toNat / 64 == 2)) with ⟨e, hx⟩ | ⟨e, hx, k1⟩ | ⟨e, hx, k1, k2⟩ | ⟨e, hx, k1, k2, k3⟩
  · rw [e] at h2
    obtain rfl : i = pos := by omega
    intro e1
    have := hx (by rw [e1]; decide)
    rw [this, e1] at hb
    exact absurd hb (by decide)
  all_goals
    rw [e] at h2
  · rcases (show i = pos ∨ i = pos + 1 by omega) with rfl | rfl
    · exact h0 hx
    · exact high_ne k1
  · rcases (show i = pos ∨ i = pos + 1 ∨ i = pos + 2 by omega) with rfl | rfl | rfl
    · exact h0 hx
    · exact high_ne k1
    · exact high_ne k2
  · rcases (show i = pos ∨ i = pos + 1 ∨ i = pos + 2 ∨ i = pos + 3 by omega) with rfl | rfl | rfl | rfl
    · exact h0 hx
    · exact high_ne k1
    · exact high_ne k2
    · exact high_ne k3

theorem scan_no47 (s : ByteArray) : ∀ (n pos : Nat), s.size - pos ≤ n → scan s n pos = true → ∀ i, pos ≤ i → i < s.size → s.get! i ≠ 47
  | 0, pos, h, _, i, h1, h2 => by omega
  | n + 1, pos, h, hs, i, h1, h2 => by
    unfold scan at hs
    have hp : pos < s.size := by omega
    rw [if_pos hp, Bool.and_eq_true] at hs
    by_cases hi : i < pos + (Utf8.decode s pos).2
    · exact dec_no47 s pos (by simpa using hs.1) i h1 hi
    · have := decode_pos s pos
      exact scan_no47 s n _ (by omega) hs.2 i (by omega) h2

theorem isName_no47 {s : ByteArray} (h : isName s = true) : (47 : UInt8) ∉ s.data.toList := by
  unfold isName at h
  simp only [Bool.and_eq_true] at h
  intro hm
  obtain ⟨i, hi⟩ := List.mem_iff_getElem?.1 hm
  have hlt : i < s.data.toList.length := (List.getElem?_eq_some_iff.1 hi).1
  have hsz : s.data.toList.length = s.size := Array.length_toList
  have h1 := get_lt s i (by omega)
  rw [hi] at h1
  exact scan_no47 s s.size 0 (by omega) h.2.2.2.2.2 i (by omega) (by omega) (Option.some.inj h1).symm
theorem isName_ne {s : ByteArray} (h : isName s = true) : s.data.toList ≠ [] := by
  unfold isName at h
  simp only [Bool.and_eq_true] at h
  intro e
  have := h.1
  rw [ByteArray.toList_eq, e] at this
  cases this
theorem isName_size {s : ByteArray} (h : isName s = true) : s.size ≤ 100 := by
  unfold isName at h
  simp only [Bool.and_eq_true] at h
  exact of_decide_eq_true h.2.2.2.1

theorem join_one (a : List UInt8) : Lib.join [a] [47] = a := by simp [Lib.join, List.intercalate]
theorem join_cons (a : List UInt8) {l : List (List UInt8)} (h : l ≠ []) : Lib.join (a :: l) [47] = a ++ 47 :: Lib.join l [47] := by
  cases l with
  | nil => exact absurd rfl h
  | cons b l => simp [Lib.join, List.intercalate, List.intersperse]
theorem join_head (b : UInt8) (p : List UInt8) : ∀ ps : List (List UInt8), Lib.join ((b :: p) :: ps) [47] = b :: Lib.join (p :: ps) [47]
  | [] => by rw [join_one, join_one]
  | q :: ps => by rw [join_cons (b :: p) (l := q :: ps) (by simp), join_cons p (l := q :: ps) (by simp)]; rfl

theorem pieces_join : ∀ l : List (List UInt8), l ≠ [] → (∀ x ∈ l, (47 : UInt8) ∉ x) → pieces (Lib.join l [47]) = l
  | [], h, _ => absurd rfl h
  | [a], _, h => by rw [join_one]; exact pieces_none (h a (by simp))
  | a :: b :: l, _, h => by
    rw [join_cons a (by simp), pieces_hit _ (h a (by simp)), pieces_join (b :: l) (by simp) fun x hx => h x (List.mem_cons_of_mem _ hx)]
theorem join_pieces : ∀ l : List UInt8, Lib.join (pieces l) [47] = l
  | [] => by unfold pieces; rw [join_one]
  | b :: l => by
    have ih := join_pieces l
    unfold pieces
    by_cases c : b = 47
    · rw [if_pos c, join_cons _ (pieces_ne l), ih, c]; rfl
    · rw [if_neg c]
      cases hp : pieces l with
      | nil => exact absurd hp (pieces_ne l)
      | cons p ps => rw [hp] at ih; show Lib.join ((b :: p) :: ps) [47] = _; rw [join_head, ih]
end Go.PathPure
namespace Go.Proofs.YtdillaedlpplhaaDoor
open Go.PathPure

/-- names with a stroke ahead of each -/
def fl (l : List ByteArray) : List UInt8 := (l.map fun b => 47 :: b.data.toList).flatten
/-- the text of names -/
def tx (l : List ByteArray) : List UInt8 := if l = [] then [47] else fl l
theorem fl_nil : fl [] = [] := rfl
theorem fl_cons (a : ByteArray) (l : List ByteArray) : fl (a :: l) = 47 :: (a.data.toList ++ fl l) := rfl
theorem fl_append (l m : List ByteArray) : fl (l ++ m) = fl l ++ fl m := by simp [fl]
theorem fl_join : ∀ l : List ByteArray, l ≠ [] → fl l = 47 :: Lib.join (l.map (·.data.toList)) [47]
  | [], h => absurd rfl h
  | [a], _ => by simp [fl, join_one]
  | a :: b :: l, _ => by
    rw [fl_cons, fl_join (b :: l) (by simp)]
    exact congrArg (47 :: ·) (join_cons (l := (b :: l).map (·.data.toList)) a.data.toList (by simp)).symm
theorem tx_join (l : List ByteArray) : tx l = 47 :: Lib.join (l.map (·.data.toList)) [47] := by
  unfold tx
  by_cases h : l = []
  · subst h; rfl
  · rw [if_neg h, fl_join l h]
theorem fl_ne {l : List ByteArray} (h : l ≠ []) : fl l ≠ [] := by rw [fl_join l h]; simp

theorem ok_all {l : List ByteArray} (h : okNames l = true) : l.length ≤ 16 ∧ ∀ x ∈ l, isName x = true := by
  unfold okNames at h
  rw [Bool.and_eq_true] at h
  exact ⟨of_decide_eq_true h.1, List.all_eq_true.1 h.2⟩
theorem ok_take {l : List ByteArray} (h : okNames l = true) (k : Nat) : okNames (l.take k) = true := by
  obtain ⟨h1, h2⟩ := ok_all h
  unfold okNames
  rw [Bool.and_eq_true]
  exact ⟨decide_eq_true (by rw [List.length_take]; omega), List.all_eq_true.2 fun x hx => h2 x (List.mem_of_mem_take hx)⟩
theorem fl_le : ∀ {l : List ByteArray}, (∀ x ∈ l, isName x = true) → (fl l).length ≤ 101 * l.length
  | [], _ => by simp [fl]
  | a :: l, h => by
    have h1 := isName_size (h a (by simp))
    have h2 := fl_le (l := l) fun x hx => h x (List.mem_cons_of_mem _ hx)
    have h3 : a.data.toList.length = a.size := Array.length_toList
    rw [fl_cons, List.length_cons, List.length_append, List.length_cons]
    omega

theorem parse_tx {l : List ByteArray} (h : okNames l = true) : parse (B (tx l)) = some l := by
  obtain ⟨_, hn⟩ := ok_all h
  have hd : (B (tx l)).data.toList = 47 :: Lib.join (l.map (·.data.toList)) [47] := by rw [B_data, tx_join]
  have h1 : isP (B (tx l)) = true := by unfold isP; rw [hd]; simp [Lib.hasPrefix, List.isPrefixOf]
  have h2 : rest (B (tx l)) = B (Lib.join (l.map (·.data.toList)) [47]) := by
    unfold rest Lib.trimPrefix; rw [hd]; simp [Lib.hasPrefix, List.isPrefixOf]
  unfold parse
  rw [h1, h2]
  by_cases h0 : l = []
  · subst h0
    have : ((B (Lib.join (([] : List ByteArray).map (·.data.toList)) [47])).toList == []) = true := by rw [ByteArray.toList_eq, B_data]; rfl
    rw [this]; rfl
  · have h3 : ((B (Lib.join (l.map (·.data.toList)) [47])).toList == []) = false := by
      rw [ByteArray.toList_eq, B_data, beq_eq_false_iff_ne]
      intro e
      cases l with
      | nil => exact h0 rfl
      | cons a l =>
        have ha := isName_ne (hn a (by simp))
        cases hda : a.data.toList with
        | nil => exact ha hda
        | cons b t => rw [List.map_cons, hda, join_head] at e; cases e
    have h4 : names (B (Lib.join (l.map (·.data.toList)) [47])) = l := by
      unfold names
      rw [B_data, pieces_join _ (by simpa using h0) (fun x hx => by
        obtain ⟨y, hy, rfl⟩ := List.mem_map.1 hx
        exact isName_no47 (hn y hy)), List.map_map]
      have : (B ∘ fun x : ByteArray => x.data.toList) = id := by funext x; exact B_eta x
      rw [this, List.map_id]
    rw [h3, h4]
    simp [h]

theorem parse_some {s : ByteArray} {l : List ByteArray} (h : parse s = some l) : okNames l = true ∧ s = B (tx l) := by
  unfold parse at h
  by_cases hp : isP s = true
  · rw [if_pos hp] at h
    have hd : ∃ t, s.data.toList = 47 :: t := by
      unfold isP Lib.hasPrefix at hp
      cases hs : s.data.toList with
      | nil => rw [hs] at hp; cases hp
      | cons b t => rw [hs] at hp; simp [List.isPrefixOf] at hp; exact ⟨t, by rw [hp]⟩
    obtain ⟨t, hd⟩ := hd
    have hr : rest s = B t := by unfold rest Lib.trimPrefix; rw [hd]; simp [Lib.hasPrefix, List.isPrefixOf]
    rw [hr] at h
    by_cases h3 : ((B t).toList == []) = true
    · rw [if_pos h3] at h
      cases h
      rw [ByteArray.toList_eq, B_data, beq_iff_eq] at h3
      subst h3
      refine ⟨rfl, ?_⟩
      rw [← B_eta s, hd]; rfl
    · rw [if_neg h3] at h
      by_cases ho : okNames (names (B t)) = true
      · rw [if_pos ho] at h
        cases h
        refine ⟨ho, ?_⟩
        rw [← B_eta s, hd, tx_join]
        congr 2
        unfold names
        rw [B_data, List.map_map]
        have : ((fun x : ByteArray => x.data.toList) ∘ B) = id := by funext x; exact B_data x
        rw [this, List.map_id, join_pieces]
      · rw [if_neg ho] at h; cases h
  · rw [if_neg hp] at h; cases h

theorem parse_inj {s t : ByteArray} {l : List ByteArray} (h1 : parse s = some l) (h2 : parse t = some l) : s = t := by
  rw [(parse_some h1).2, (parse_some h2).2]

theorem behindP_some {s t : ByteArray} : (behindP s t).isSome = true ↔ ∃ l m, parse s = some l ∧ parse t = some m ∧ m <+: l := by
  unfold behindP
  constructor
  · intro h
    cases hs : parse s with
    | none => rw [hs] at h; cases h
    | some l =>
      cases ht : parse t with
      | none => rw [hs, ht] at h; cases h
      | some m =>
        rw [hs, ht] at h
        dsimp only at h
        split at h
        · rename_i hc
          exact ⟨l, m, rfl, rfl, by rw [List.prefix_iff_eq_take]; exact hc.2.symm⟩
        · cases h
  · rintro ⟨l, m, hs, ht, hp⟩
    rw [hs, ht]
    dsimp only
    rw [if_pos ⟨hp.length_le, (List.prefix_iff_eq_take.1 hp).symm⟩]; rfl

theorem within_refl (s : ByteArray) : (behindP s s).isSome = (parse s).isSome := by
  rw [Bool.eq_iff_iff, behindP_some]
  constructor
  · rintro ⟨l, _, h, _⟩; rw [h]; rfl
  · intro h
    obtain ⟨l, hl⟩ := Option.isSome_iff_exists.1 h
    exact ⟨l, l, hl, hl, List.prefix_rfl⟩
theorem within_trans {a b c : ByteArray} (h1 : (behindP a b).isSome = true) (h2 : (behindP b c).isSome = true) : (behindP a c).isSome = true := by
  rw [behindP_some] at *
  obtain ⟨l, m, ha, hb, hp⟩ := h1
  obtain ⟨m', n, hb', hc, hq⟩ := h2
  rw [hb] at hb'; cases hb'
  exact ⟨l, n, ha, hc, hq.trans hp⟩
theorem within_anti {a b : ByteArray} (h1 : (behindP a b).isSome = true) (h2 : (behindP b a).isSome = true) : a = b := by
  rw [behindP_some] at *
  obtain ⟨l, m, ha, hb, hp⟩ := h1
  obtain ⟨m', l', hb', ha', hq⟩ := h2
  rw [hb] at hb'; cases hb'
  rw [ha] at ha'; cases ha'
  have : l = m := hq.eq_of_length (by have := hp.length_le; have := hq.length_le; omega)
  subst this
  exact parse_inj ha hb
/-- the parent's text -/
theorem parent_tx {s : ByteArray} {l : List ByteArray} {n : ByteArray} (h : parse s = some (l ++ [n])) : s.extract 0 (max 1 (s.size - n.size - 1)) = B (tx l) ∧ n.size + 1 ≤ s.size := by
  obtain ⟨_, h2⟩ := parse_some h
  have hsz : s.data.toList.length = s.size := Array.length_toList
  have hnz : n.data.toList.length = n.size := Array.length_toList
  have hd : s.data.toList = fl l ++ 47 :: n.data.toList := by
    rw [h2, B_data]
    unfold tx
    rw [if_neg (by simp), fl_append, fl_cons, fl_nil, List.append_nil]
  have hlen : s.size = (fl l).length + (1 + n.size) := by rw [← hsz, hd]; simp; omega
  refine ⟨?_, by omega⟩
  rw [extract_B, List.drop_zero, Nat.sub_zero, hd]
  congr 1
  unfold tx
  by_cases h0 : l = []
  · subst h0
    rw [if_pos rfl, fl_nil] at *
    simp only [List.length_nil] at hlen
    rw [show max 1 (s.size - n.size - 1) = 1 by omega]
    rfl
  · rw [if_neg h0]
    have h1 : 0 < (fl l).length := List.length_pos_iff.2 (fl_ne h0)
    rw [show max 1 (s.size - n.size - 1) = (fl l).length by omega, List.take_left']
    rfl
end Go.Proofs.YtdillaedlpplhaaDoor
