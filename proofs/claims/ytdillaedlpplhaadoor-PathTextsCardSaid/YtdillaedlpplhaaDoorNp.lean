/- What a name is: plain, over the model's decoder. -/
import Derived.Lib.ValidLaws
import Derived.Lib.TrimUEq
namespace Go.PathPure
open Go.Lib

def badR (r : Nat) : Bool := decide (r < 32) || (r == 127 || r == 47)
/-- no bad sign from a place on -/
def scan (s : ByteArray) : Nat → Nat → Bool
  | 0, _ => true
  | n + 1, pos => if pos < s.size then !badR (Utf8.decode s pos).1 && scan s n (pos + (Utf8.decode s pos).2) else true
def vscan (s : ByteArray) : Nat → Nat → Bool
  | 0, _ => true
  | n + 1, pos => if pos < s.size then !((Utf8.decode s pos).1 == 65533 && (Utf8.decode s pos).2 == 1) && vscan s n (pos + (Utf8.decode s pos).2) else true
/-- a wrong sign as the reference tells it -/
def wrong (s : ByteArray) (pos : Nat) : Bool := (Utf8.decode s pos).1 == 65533 && (decide (s.size < pos + 3) || !((s.extract pos (pos + 3)).toList == [239, 191, 189]))
def rscan (s : ByteArray) : Nat → Nat → Bool
  | 0, _ => true
  | n + 1, pos => if pos < s.size then !(badR (Utf8.decode s pos).1 || wrong s pos) && rscan s n (pos + (Utf8.decode s pos).2) else true

theorem decode_pos (s : ByteArray) (pos : Nat) : 1 ≤ (Utf8.decode s pos).2 := by
  rw [← decodeL_drop]; exact decodeL_width _

theorem vscan_valid (s : ByteArray) : ∀ (n pos : Nat), s.size - pos ≤ n → vscan s n pos = validD (s.data.toList.drop pos)
  | 0, pos, h => by
    have hl : s.data.toList.length = s.size := by rw [Array.length_toList]; rfl
    have : s.data.toList.drop pos = [] := List.drop_eq_nil_of_le (by omega)
    rw [this]; rfl
  | n + 1, pos, h => by
    have hl : s.data.toList.length = s.size := by rw [Array.length_toList]; rfl
    unfold vscan
    by_cases hp : pos < s.size
    · rw [if_pos hp]
      have hne : s.data.toList.drop pos ≠ [] := fun e => by have := congrArg List.length e; simp at this; omega
      have hw := decode_pos s pos
      rw [validD_step _ hne, decodeL_drop, List.drop_drop, vscan_valid s n _ (by omega)]
      by_cases c : (Utf8.decode s pos).1 = 65533 ∧ (Utf8.decode s pos).2 = 1
      · rw [if_pos c]; simp [c.1, c.2]
      · rw [if_neg c]
        have : ((Utf8.decode s pos).1 == 65533 && (Utf8.decode s pos).2 == 1) = false := by
          rw [Bool.eq_false_iff]; intro h; simp at h; exact c h
        rw [this]; rfl
    · rw [if_neg hp]
      have : s.data.toList.drop pos = [] := List.drop_eq_nil_of_le (by omega)
      rw [this]; rfl

theorem get_lt (s : ByteArray) (i : Nat) (h : i < s.size) : s.data.toList[i]? = some (s.get! i) := by
  have h' : i < s.data.size := h
  rw [Array.getElem?_toList, Array.getElem?_eq_getElem h']
  congr 1
  show _ = s.data[i]!
  rw [getElem!_pos s.data i h']

theorem take3 (s : ByteArray) (pos : Nat) (h : pos + 3 ≤ s.size) : (s.extract pos (pos + 3)).toList = [s.get! pos, s.get! (pos + 1), s.get! (pos + 2)] := by
  rw [ByteArray.toList_eq, ByteArray.data_extract, Array.toList_extract]
  have h0 := get_lt s pos (by omega)
  have h1 := get_lt s (pos + 1) (by omega)
  have h2 := get_lt s (pos + 2) (by omega)
  refine List.ext_getElem? fun i => ?_
  rw [List.extract_eq_take_drop, List.getElem?_take, List.getElem?_drop]
  match i with
  | 0 => simpa using h0
  | 1 => simpa using h1
  | 2 => simpa using h2
  | i + 3 => simp; omega

/-- the decoder over its bytes -/
def dec (x0 x1 x2 x3 : Nat) (k1 k2 k3 : Bool) : Nat × Nat :=
  if x0 < 0x80 then (x0, 1)
  else if (x0 / 32 == 6 && k1) = true then (if (x0 % 32) * 64 + x1 % 64 ≥ 0x80 then ((x0 % 32) * 64 + x1 % 64, 2) else (65533, 1))
  else if (x0 / 16 == 14 && k1 && k2) = true then (if ((x0 % 16) * 4096 + (x1 % 64) * 64 + x2 % 64 ≥ 0x800 && Utf8.valid (((x0 % 16) * 4096 + (x1 % 64) * 64 + x2 % 64 : Nat) : Int)) = true then ((x0 % 16) * 4096 + (x1 % 64) * 64 + x2 % 64, 3) else (65533, 1))
  else if (x0 / 8 == 30 && k1 && k2 && k3) = true then (if ((x0 % 8) * 262144 + (x1 % 64) * 4096 + (x2 % 64) * 64 + x3 % 64 ≥ 0x10000 && Utf8.valid (((x0 % 8) * 262144 + (x1 % 64) * 4096 + (x2 % 64) * 64 + x3 % 64 : Nat) : Int)) = true then ((x0 % 8) * 262144 + (x1 % 64) * 4096 + (x2 % 64) * 64 + x3 % 64, 4) else (65533, 1))
  else (65533, 1)
theorem decode_dec (s : ByteArray) (pos : Nat) : Utf8.decode s pos = dec (s.get! pos).toNat (s.get! (pos + 1)).toNat (s.get! (pos + 2)).toNat (s.get! (pos + 3)).toNat (decide (pos + 1 < s.size) && (s.get! (pos + 1)).toNat / 64 == 2) (decide (pos + 2 < s.size) && (s.get! (pos + 2)).toNat / 64 == 2) (decide (pos + 3 < s.size) && (s.get! (pos + 3)).toNat / 64 == 2) := rfl

theorem dec_wrong {x0 x1 x2 x3 : Nat} {k1 k2 k3 : Bool} (l0 : x0 < 256) (h : (dec x0 x1 x2 x3 k1 k2 k3).1 = 65533) : (dec x0 x1 x2 x3 k1 k2 k3).2 = 1 ∨ ((dec x0 x1 x2 x3 k1 k2 k3).2 = 3 ∧ k1 = true ∧ k2 = true ∧ x0 = 239 ∧ x1 % 64 = 63 ∧ x2 % 64 = 61) := by
  unfold dec at h ⊢
  by_cases c0 : x0 < 0x80
  · rw [if_pos c0] at h; dsimp only at h; omega
  rw [if_neg c0] at h ⊢
  by_cases c1 : (x0 / 32 == 6 && k1) = true
  · rw [if_pos c1] at h ⊢
    by_cases d : (x0 % 32) * 64 + x1 % 64 ≥ 0x80
    · rw [if_pos d] at h; dsimp only at h; omega
    · rw [if_neg d]; exact .inl rfl
  rw [if_neg c1] at h ⊢
  by_cases c2 : (x0 / 16 == 14 && k1 && k2) = true
  · rw [if_pos c2] at h ⊢
    have c3 : x0 / 16 = 14 ∧ k1 = true ∧ k2 = true := by
      rw [Bool.and_eq_true, Bool.and_eq_true, beq_iff_eq] at c2; exact ⟨c2.1.1, c2.1.2, c2.2⟩
    obtain ⟨e0, e1, e2⟩ := c3
    generalize hc : (x0 % 16) * 4096 + (x1 % 64) * 64 + x2 % 64 = c at h ⊢
    by_cases d : (decide (c ≥ 0x800) && Utf8.valid c) = true
    · rw [if_pos d] at h ⊢
      dsimp only at h
      exact .inr ⟨rfl, e1, e2, by omega, by omega, by omega⟩
    · rw [if_neg d]; exact .inl rfl
  rw [if_neg c2] at h ⊢
  by_cases c3 : (x0 / 8 == 30 && k1 && k2 && k3) = true
  · rw [if_pos c3] at h ⊢
    generalize hc : (x0 % 8) * 262144 + (x1 % 64) * 4096 + (x2 % 64) * 64 + x3 % 64 = c at h ⊢
    by_cases d : (decide (c ≥ 0x10000) && Utf8.valid c) = true
    · rw [if_pos d] at h
      dsimp only at h
      rw [Bool.and_eq_true] at d
      have := of_decide_eq_true d.1
      omega
    · rw [if_neg d]; exact .inl rfl
  rw [if_neg c3]; exact .inl rfl

theorem decode_wrong (s : ByteArray) (pos : Nat) (h : (Utf8.decode s pos).1 = 65533) : (Utf8.decode s pos).2 = 1 ∨ ((Utf8.decode s pos).2 = 3 ∧ pos + 3 ≤ s.size ∧ (s.get! pos).toNat = 239 ∧ (s.get! (pos + 1)).toNat = 191 ∧ (s.get! (pos + 2)).toNat = 189) := by
  rw [decode_dec] at h ⊢
  rcases dec_wrong (s.get! pos).toNat_lt h with h | ⟨h1, h2, h3, h4, h5, h6⟩
  · exact .inl h
  · rw [Bool.and_eq_true, beq_iff_eq] at h2 h3
    have := of_decide_eq_true h3.1
    exact .inr ⟨h1, by omega, h4, by omega, by omega⟩

theorem decode_fffd (s : ByteArray) (pos : Nat) (h : pos + 3 ≤ s.size) (h0 : (s.get! pos).toNat = 239) (h1 : (s.get! (pos + 1)).toNat = 191) (h2 : (s.get! (pos + 2)).toNat = 189) : (Utf8.decode s pos).2 = 3 := by
  have e1 : (decide (pos + 1 < s.size)) = true := decide_eq_true (by omega)
  have e2 : (decide (pos + 2 < s.size)) = true := decide_eq_true (by omega)
  rw [decode_dec, h0, h1, h2, e1, e2]
  rfl

set_option maxRecDepth 100000 in
theorem wrong_iff (s : ByteArray) (pos : Nat) (h : pos < s.size) : wrong s pos = ((Utf8.decode s pos).1 == 65533 && (Utf8.decode s pos).2 == 1) := by
  unfold wrong
  by_cases c : (Utf8.decode s pos).1 = 65533
  · rw [c]
    simp only [beq_self_eq_true, Bool.true_and]
    by_cases h3 : pos + 3 ≤ s.size
    · rw [decide_eq_false (by omega), Bool.false_or, take3 s pos h3]
      by_cases e : s.get! pos = 239 ∧ s.get! (pos + 1) = 191 ∧ s.get! (pos + 2) = 189
      · obtain ⟨e0, e1, e2⟩ := e
        have := decode_fffd s pos h3 (by rw [e0]; rfl) (by rw [e1]; rfl) (by rw [e2]; rfl)
        rw [e0, e1, e2, this]; rfl
      · have hw : (Utf8.decode s pos).2 = 1 := by
          rcases decode_wrong s pos c with h | ⟨_, _, a0, a1, a2⟩
          · exact h
          · exact absurd ⟨UInt8.toNat_inj.1 a0, UInt8.toNat_inj.1 a1, UInt8.toNat_inj.1 a2⟩ e
        rw [hw]
        have : ([s.get! pos, s.get! (pos + 1), s.get! (pos + 2)] == [239, 191, 189]) = false := by
          rw [Bool.eq_false_iff]; intro h'; rw [beq_iff_eq] at h'; simp at h'; exact e h'
        rw [this]; rfl
    · rw [decide_eq_true (by omega)]
      have hw : (Utf8.decode s pos).2 = 1 := by
        rcases decode_wrong s pos c with h | ⟨_, h, _⟩
        · exact h
        · exact absurd h h3
      rw [hw]; rfl
  · have : ((Utf8.decode s pos).1 == 65533) = false := by rw [beq_eq_false_iff_ne]; exact c
    rw [this]; rfl

theorem rscan_eq (s : ByteArray) : ∀ (n pos : Nat), rscan s n pos = (vscan s n pos && scan s n pos)
  | 0, _ => rfl
  | n + 1, pos => by
    unfold rscan vscan scan
    by_cases hp : pos < s.size
    · rw [if_pos hp, if_pos hp, if_pos hp, rscan_eq s n, wrong_iff s pos hp]
      cases badR (Utf8.decode s pos).1 <;> cases ((Utf8.decode s pos).1 == 65533 && (Utf8.decode s pos).2 == 1) <;> simp
    · rw [if_neg hp, if_neg hp, if_neg hp]; rfl

/-- is it a name? -/
def isName (s : ByteArray) : Bool := !(s.toList == []) && (!(s.toList == [46]) && (!(s.toList == [46, 46]) && (decide (s.size ≤ 100) && (validD s.data.toList && scan s s.size 0))))
end Go.PathPure
