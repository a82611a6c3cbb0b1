/- Walks and laws that the statements of this seat share, part 1. -/
import Derived.Lib.ValidLaws
import Derived.Lib.TrimUEq
import Derived.OrdersHeld
import Derived.Tactics
import Derived.Deep.RegionHeld3
import Derived.WalkKit
import Derived.Laws.StructEq
import Derived.KernelRfl
import Derived.WalkLawsBesides
import Derived.WalkSpells
import Derived.BigQuiet
import Derived.Lib.Hide
import Derived.Test.YtoahjhogjjdkhaaGreatDoorProg
import Derived.Deep.LoopGhost
import Derived.Laws.RangeAny
import Derived.Shelf.Small.Bits
import Derived.Shelf.Small.Wraps
import Derived.Shelf.Utf8.RuneCount
import Derived.Shelf.Strconv.Itoa0
import Derived.Shelf.Strings.Search1
import Derived.Shelf.Strings.Search2
import Derived.Shelf.Strings.Search3
import Derived.Shelf.Strings.Count
import Derived.Shelf.LaysM
import Derived.Shelf.Strings.Shaped
import Derived.Shelf.Sort.Plain
import Derived.Shelf.Strings.Prefix
import Derived.Shelf.Strings.Split
import Derived.Shelf.Strings.SplitShaped
import Derived.Shelf.Unicode.Decode
import Derived.Shelf.Strings.RuneCount
import Derived.Shelf.Strings.Explode
import Derived.Shelf.Unicode.DecodeSlow
import Derived.Shelf.Unicode.DecodeAny
import Derived.Shelf.Slices.Equal
import Derived.Shelf.Slices.In.SortNone
import Derived.Shelf.Slices.Empties2
import Derived.Shelf.Unicode.ValidAny
import Derived.Lib.SplitLaws
import Derived.Laws.OwnMore
import Derived.Lib.Join
import Derived.Outline
import Derived.Laws.Strings
import Derived.Maps.RangeRun
import Derived.Maps.OwnOps
import Derived.Below
/- What a name is: plain, over the model's decoder. -/
namespace Go.PathPure
open Go.Lib

def badR (r : Nat) : Bool := decide (r < 32) || (r == 127 || r == 47)
/-- no bad sign from a place on -/
def scan (s : ByteArray) : Nat → Nat → Bool
  | 0, _ => true
  | n + 1, pos => if pos < s.size then !badR (Utf8.decode s pos).1 && scan s n (pos + (Utf8.decode s pos).2) else true
def vscan (s : ByteArray) : Nat → Nat → Bool
  | 0, _ => true
  | n + 1, pos => if pos < s.size then !((Utf8.decode s pos).1 == 65533 && (Utf8.decode s pos).2 == 1) && vscan s n (pos + (Utf8.decode s pos).2) else true
/-- a wrong sign as the reference tells it -/
def wrong (s : ByteArray) (pos : Nat) : Bool := (Utf8.decode s pos).1 == 65533 && (decide (s.size < pos + 3) || !((s.extract pos (pos + 3)).toList == [239, 191, 189]))
def rscan (s : ByteArray) : Nat → Nat → Bool
  | 0, _ => true
  | n + 1, pos => if pos < s.size then !(badR (Utf8.decode s pos).1 || wrong s pos) && rscan s n (pos + (Utf8.decode s pos).2) else true

theorem decode_pos (s : ByteArray) (pos : Nat) : 1 ≤ (Utf8.decode s pos).2 := by
  rw [← decodeL_drop]; exact decodeL_width _

theorem vscan_valid (s : ByteArray) : ∀ (n pos : Nat), s.size - pos ≤ n → vscan s n pos = validD (s.data.toList.drop pos)
  | 0, pos, h => by
    have hl : s.data.toList.length = s.size := by rw [Array.length_toList]; rfl
    have : s.data.toList.drop pos = [] := List.drop_eq_nil_of_le (by omega)
    rw [this]; rfl
  | n + 1, pos, h => by
    have hl : s.data.toList.length = s.size := by rw [Array.length_toList]; rfl
    unfold vscan
    by_cases hp : pos < s.size
    · rw [if_pos hp]
      have hne : s.data.toList.drop pos ≠ [] := fun e => by have := congrArg List.length e; simp at this; omega
      have hw := decode_pos s pos
      rw [validD_step _ hne, decodeL_drop, List.drop_drop, vscan_valid s n _ (by omega)]
      by_cases c : (Utf8.decode s pos).1 = 65533 ∧ (Utf8.decode s pos).2 = 1
      · rw [if_pos c]; simp [c.1, c.2]
      · rw [if_neg c]
        have : ((Utf8.decode s pos).1 == 65533 && (Utf8.decode s pos).2 == 1) = false := by
          rw [Bool.eq_false_iff]; intro h; simp at h; exact c h
        rw [this]; rfl
    · rw [if_neg hp]
      have : s.data.toList.drop pos = [] := List.drop_eq_nil_of_le (by omega)
      rw [this]; rfl

theorem get_lt (s : ByteArray) (i : Nat) (h : i < s.size) : s.data.toList[i]? = some (s.get! i) := by
  have h' : i < s.data.size := h
  rw [Array.getElem?_toList, Array.getElem?_eq_getElem h']
  congr 1
  show _ = s.data[i]!
  rw [getElem!_pos s.data i h']

theorem take3 (s : ByteArray) (pos : Nat) (h : pos + 3 ≤ s.size) : (s.extract pos (pos + 3)).toList = [s.get! pos, s.get! (pos + 1), s.get! (pos + 2)] := by
  rw [ByteArray.toList_eq, ByteArray.data_extract, Array.toList_extract]
  have h0 := get_lt s pos (by omega)
  have h1 := get_lt s (pos + 1) (by omega)
  have h2 := get_lt s (pos + 2) (by omega)
  refine List.ext_getElem? fun i => ?_
  rw [List.extract_eq_take_drop, List.getElem?_take, List.getElem?_drop]
  match i with
  | 0 => simpa using h0
  | 1 => simpa using h1
  | 2 => simpa using h2
  | i + 3 => simp; omega

/-- the decoder over its bytes -/
def dec (x0 x1 x2 x3 : Nat) (k1 k2 k3 : Bool) : Nat × Nat :=
  if x0 < 0x80 then (x0, 1)
  else if (x0 / 32 == 6 && k1) = true then (if (x0 % 32) * 64 + x1 % 64 ≥ 0x80 then ((x0 % 32) * 64 + x1 % 64, 2) else (65533, 1))
  else if (x0 / 16 == 14 && k1 && k2) = true then (if ((x0 % 16) * 4096 + (x1 % 64) * 64 + x2 % 64 ≥ 0x800 && Utf8.valid (((x0 % 16) * 4096 + (x1 % 64) * 64 + x2 % 64 : Nat) : Int)) = true then ((x0 % 16) * 4096 + (x1 % 64) * 64 + x2 % 64, 3) else (65533, 1))
  else if (x0 / 8 == 30 && k1 && k2 && k3) = true then (if ((x0 % 8) * 262144 + (x1 % 64) * 4096 + (x2 % 64) * 64 + x3 % 64 ≥ 0x10000 && Utf8.valid (((x0 % 8) * 262144 + (x1 % 64) * 4096 + (x2 % 64) * 64 + x3 % 64 : Nat) : Int)) = true then ((x0 % 8) * 262144 + (x1 % 64) * 4096 + (x2 % 64) * 64 + x3 % 64, 4) else (65533, 1))
  else (65533, 1)
theorem decode_dec (s : ByteArray) (pos : Nat) : Utf8.decode s pos = dec (s.get! pos).toNat (s.get! (pos + 1)).toNat (s.get! (pos + 2)).toNat (s.get! (pos + 3)).toNat (decide (pos + 1 < s.size) && (s.get! (pos + 1)).toNat / 64 == 2) (decide (pos + 2 < s.size) && (s.get! (pos + 2)).toNat / 64 == 2) (decide (pos + 3 < s.size) && (s.get! (pos + 3)).toNat / 64 == 2) := rfl

theorem dec_wrong {x0 x1 x2 x3 : Nat} {k1 k2 k3 : Bool} (l0 : x0 < 256) (h : (dec x0 x1 x2 x3 k1 k2 k3).1 = 65533) : (dec x0 x1 x2 x3 k1 k2 k3).2 = 1 ∨ ((dec x0 x1 x2 x3 k1 k2 k3).2 = 3 ∧ k1 = true ∧ k2 = true ∧ x0 = 239 ∧ x1 % 64 = 63 ∧ x2 % 64 = 61) := by
  unfold dec at h ⊢
  by_cases c0 : x0 < 0x80
  · rw [if_pos c0] at h; dsimp only at h; omega
  rw [if_neg c0] at h ⊢
  by_cases c1 : (x0 / 32 == 6 && k1) = true
  · rw [if_pos c1] at h ⊢
    by_cases d : (x0 % 32) * 64 + x1 % 64 ≥ 0x80
    · rw [if_pos d] at h; dsimp only at h; omega
    · rw [if_neg d]; exact .inl rfl
  rw [if_neg c1] at h ⊢
  by_cases c2 : (x0 / 16 == 14 && k1 && k2) = true
  · rw [if_pos c2] at h ⊢
    have c3 : x0 / 16 = 14 ∧ k1 = true ∧ k2 = true := by
      rw [Bool.and_eq_true, Bool.and_eq_true, beq_iff_eq] at c2; exact ⟨c2.1.1, c2.1.2, c2.2⟩
    obtain ⟨e0, e1, e2⟩ := c3
    generalize hc : (x0 % 16) * 4096 + (x1 % 64) * 64 + x2 % 64 = c at h ⊢
    by_cases d : (decide (c ≥ 0x800) && Utf8.valid c) = true
    · rw [if_pos d] at h ⊢
      dsimp only at h
      exact .inr ⟨rfl, e1, e2, by omega, by omega, by omega⟩
    · rw [if_neg d]; exact .inl rfl
  rw [if_neg c2] at h ⊢
  by_cases c3 : (x0 / 8 == 30 && k1 && k2 && k3) = true
  · rw [if_pos c3] at h ⊢
    generalize hc : (x0 % 8) * 262144 + (x1 % 64) * 4096 + (x2 % 64) * 64 + x3 % 64 = c at h ⊢
    by_cases d : (decide (c ≥ 0x10000) && Utf8.valid c) = true
    · rw [if_pos d] at h
      dsimp only at h
      rw [Bool.and_eq_true] at d
      have := of_decide_eq_true d.1
      omega
    · rw [if_neg d]; exact .inl rfl
  rw [if_neg c3]; exact .inl rfl

theorem decode_wrong (s : ByteArray) (pos : Nat) (h : (Utf8.decode s pos).1 = 65533) : (Utf8.decode s pos).2 = 1 ∨ ((Utf8.decode s pos).2 = 3 ∧ pos + 3 ≤ s.size ∧ (s.get! pos).toNat = 239 ∧ (s.get! (pos + 1)).toNat = 191 ∧ (s.get! (pos + 2)).toNat = 189) := by
  rw [decode_dec] at h ⊢
  rcases dec_wrong (s.get! pos).toNat_lt h with h | ⟨h1, h2, h3, h4, h5, h6⟩
  · exact .inl h
  · rw [Bool.and_eq_true, beq_iff_eq] at h2 h3
    have := of_decide_eq_true h3.1
    exact .inr ⟨h1, by omega, h4, by omega, by omega⟩

theorem decode_fffd (s : ByteArray) (pos : Nat) (h : pos + 3 ≤ s.size) (h0 : (s.get! pos).toNat = 239) (h1 : (s.get! (pos + 1)).toNat = 191) (h2 : (s.get! (pos + 2)).toNat = 189) : (Utf8.decode s pos).2 = 3 := by
  have e1 : (decide (pos + 1 < s.size)) = true := decide_eq_true (by omega)
  have e2 : (decide (pos + 2 < s.size)) = true := decide_eq_true (by omega)
  rw [decode_dec, h0, h1, h2, e1, e2]
  rfl

set_option maxRecDepth 100000 in
theorem wrong_iff (s : ByteArray) (pos : Nat) (h : pos < s.size) : wrong s pos = ((Utf8.decode s pos).1 == 65533 && (Utf8.decode s pos).2 == 1) := by
  unfold wrong
  by_cases c : (Utf8.decode s pos).1 = 65533
  · rw [c]
    simp only [beq_self_eq_true, Bool.true_and]
    by_cases h3 : pos + 3 ≤ s.size
    · rw [decide_eq_false (by omega), Bool.false_or, take3 s pos h3]
      by_cases e : s.get! pos = 239 ∧ s.get! (pos + 1) = 191 ∧ s.get! (pos + 2) = 189
      · obtain ⟨e0, e1, e2⟩ := e
        have := decode_fffd s pos h3 (by rw [e0]; rfl) (by rw [e1]; rfl) (by rw [e2]; rfl)
        rw [e0, e1, e2, this]; rfl
      · have hw : (Utf8.decode s pos).2 = 1 := by
          rcases decode_wrong s pos c with h | ⟨_, _, a0, a1, a2⟩
          · exact h
          · exact absurd ⟨UInt8.toNat_inj.1 a0, UInt8.toNat_inj.1 a1, UInt8.toNat_inj.1 a2⟩ e
        rw [hw]
        have : ([s.get! pos, s.get! (pos + 1), s.get! (pos + 2)] == [239, 191, 189]) = false := by
          rw [Bool.eq_false_iff]; intro h'; rw [beq_iff_eq] at h'; simp at h'; exact e h'
        rw [this]; rfl
    · rw [decide_eq_true (by omega)]
      have hw : (Utf8.decode s pos).2 = 1 := by
        rcases decode_wrong s pos c with h | ⟨_, h, _⟩
        · exact h
        · exact absurd h h3
      rw [hw]; rfl
  · have : ((Utf8.decode s pos).1 == 65533) = false := by rw [beq_eq_false_iff_ne]; exact c
    rw [this]; rfl

theorem rscan_eq (s : ByteArray) : ∀ (n pos : Nat), rscan s n pos = (vscan s n pos && scan s n pos)
  | 0, _ => rfl
  | n + 1, pos => by
    unfold rscan vscan scan
    by_cases hp : pos < s.size
    · rw [if_pos hp, if_pos hp, if_pos hp, rscan_eq s n, wrong_iff s pos hp]
      cases badR (Utf8.decode s pos).1 <;> cases ((Utf8.decode s pos).1 == 65533 && (Utf8.decode s pos).2 == 1) <;> simp
    · rw [if_neg hp, if_neg hp, if_neg hp]; rfl

/-- is it a name? -/
def isName (s : ByteArray) : Bool := !(s.toList == []) && (!(s.toList == [46]) && (!(s.toList == [46, 46]) && (decide (s.size ≤ 100) && (validD s.data.toList && scan s s.size 0))))
end Go.PathPure

/- A region whose order is drawn, walked once: what is light (it yields its value in every world that meets S) is taken first; what is heavy comes in one forced order. -/
namespace Go.XR
section
variable {P : Program} {ops : Array Oper} {Q : Exit → Act → World → Prop} {md : Region.Mode} {S : World → Prop} {sd : List Nat}

/-- does number j wait for number i, itself or through others? -/
def reach (md : Region.Mode) (ops : Array Oper) : Nat → Nat → Nat → Bool
  | 0, _, _ => false
  | f + 1, j, i =>
    match ops[j]? with
    | some oj => (oj.after.any fun e => Region.binds md e && e.on == i) || oj.after.any fun e => Region.binds md e && reach md ops f e.on i
    | none => false

def Closed (md : Region.Mode) (ops : Array Oper) (listed : Array Bool) : Prop :=
  ∀ j oj, ops[j]? = some oj → listed.getD j false = true → ∀ e ∈ oj.after, Region.binds md e = true → listed.getD e.on false = true

theorem Closed.set {listed : Array Bool} {i : Nat} (h : Closed md ops listed) (hi : i ∈ Region.ready md ops listed) : Closed md ops (listed.setIfInBounds i true) := by
  obtain ⟨_, oi, hoi, hall⟩ := mem_ready.1 hi
  intro j oj hj hl e he hb
  by_cases hij : i = j
  · subst hij
    have : oj = oi := Option.some.inj (hj.symm.trans hoi)
    subst this
    exact getD_set_true (hall e he hb)
  · rw [getD_set_ne false hij] at hl
    exact getD_set_true (h j oj hj hl e he hb)

theorem reach_spec {listed : Array Bool} {i : Nat} (hc : Closed md ops listed) : ∀ (f j : Nat) (oj : Oper), ops[j]? = some oj →
    (∀ e ∈ oj.after, Region.binds md e = true → listed.getD e.on false = true) → reach md ops f j i = true → listed.getD i false = true
  | 0, _, _, _, _, h => by cases h
  | f + 1, j, oj, hj, hall, h => by
    simp only [reach, hj, Bool.or_eq_true] at h
    rcases h with h | h
    · obtain ⟨e, he, hb⟩ := Array.any_eq_true'.1 h
      simp only [Bool.and_eq_true, beq_iff_eq] at hb
      rw [← hb.2]; exact hall e he hb.1
    · obtain ⟨e, he, hb⟩ := Array.any_eq_true'.1 h
      simp only [Bool.and_eq_true] at hb
      cases ho : ops[e.on]? with
      | none =>
        cases f with
        | zero => simp [reach] at hb
        | succ f => simp [reach, ho] at hb
      | some o' => exact reach_spec hc f e.on o' ho (fun e' he' hb' => hc e.on o' ho (hall e he hb.1) e' he' hb') hb.2

/-- whatever order comes; S is shown behind each operation that is not among sd -/
def wpAnyX (P : Program) (md : Region.Mode) (ops : Array Oper) (Q : Exit → Act → World → Prop) (S : World → Prop) (sd : List Nat) : Nat → Array Bool → Act → World → Prop
  | 0, listed, a, w => Region.ready md ops listed = [] ∧ Q .normal a w
  | fuel + 1, listed, a, w =>
    (Region.ready md ops listed = [] → Q .normal a w) ∧
    ∀ i ∈ Region.ready md ops listed, wpOp P ops Q i (fun a' w' => (sd.contains i = false → S w') ∧ wpAnyX P md ops Q S sd fuel (listed.setIfInBounds i true) a' w') a w

theorem wpAny_of_X : ∀ (fuel : Nat) (listed : Array Bool) (a : Act) (w : World), wpAnyX P md ops Q S sd fuel listed a w → wpAny P md ops Q fuel listed a w
  | 0, _, _, _, h => h
  | fuel + 1, _, _, _, h => ⟨h.1, fun i hi => wpOp_mono (fun a' w' h' => wpAny_of_X fuel _ a' w' h'.2) (h.2 i hi)⟩

theorem wpAnyX_first {i : Nat} {oi : Oper} {v : Value} (hi : ops[i]? = some oi) (hsel : ∀ (j : Nat) (o : Oper) cs b, ops[j]? = some o → o.op ≠ .select cs b)
    (hQ : ∀ c a w, Q (.panic c) (a.put oi.dst v) w → Q (.panic c) a w) (hsd : ∀ j, sd.contains j = true → reach md ops 12 j i = true) :
    ∀ (fuel : Nat) (listed : Array Bool) (a : Act) (w : World),
      (∀ j oj, ops[j]? = some oj → j ≠ i → listed.getD j true = false → (∀ e ∈ oj.after, Region.binds md e = true → e.on ≠ i) → oi.apart ops oj = true) →
      Closed md ops listed → i ∈ Region.ready md ops listed → YieldsIf P ops S oi v a → S w →
      wpAnyX P md ops Q S sd fuel (listed.setIfInBounds i true) (a.put oi.dst v) w → wpAnyX P md ops Q S sd (fuel + 1) listed a w := by
  intro fuel
  induction fuel with
  | zero =>
    intro listed a w _ _ hr hy hS H
    refine ⟨fun h => (by rw [h] at hr; cases hr), fun j hj => ?_⟩
    by_cases hji : j = i
    · subst hji; exact hy.wpOp hi hS ⟨fun _ => hS, H⟩
    · have := ready_mono hj hji
      rw [H.1] at this
      cases this
  | succ fuel ih =>
    intro listed a w hfree hcl hr hy hS H
    refine ⟨fun h => (by rw [h] at hr; cases hr), fun j hj => ?_⟩
    by_cases hji : j = i
    · subst hji; exact hy.wpOp hi hS ⟨fun _ => hS, H⟩
    · have h1 := H.2 j (ready_mono hj hji)
      obtain ⟨hjun, oj, hoj, hall⟩ := mem_ready.1 hj
      have hnot : ∀ e ∈ oj.after, Region.binds md e = true → e.on ≠ i := fun e he hb heq => by
        have h1 := hall e he hb
        have h0 := (mem_ready.1 hr).1
        rw [heq] at h1
        rcases Nat.lt_or_ge i listed.size with h' | h'
        · simp [h'] at h0 h1; rw [h0] at h1; cases h1
        · simp [Array.getElem?_eq_none h'] at h1
      have hns : sd.contains j = false := by
        cases hc : sd.contains j with
        | false => rfl
        | true =>
          have h1 := reach_spec hcl 12 j oj hoj hall (hsd j hc)
          have h0 := (mem_ready.1 hr).1
          rcases Nat.lt_or_ge i listed.size with h' | h'
          · simp [h'] at h0 h1; rw [h0] at h1; cases h1
          · simp [Array.getElem?_eq_none h'] at h1
      have h2 := wpOp_putIf hoj (hfree j oj hoj hji hjun hnot) (fun cs b => hsel i oi cs b hi) (fun cs b => hsel j oj cs b hoj) hQ hy h1
      have hfree' : ∀ k ok, ops[k]? = some ok → k ≠ i → (listed.setIfInBounds j true).getD k true = false →
          (∀ e ∈ ok.after, Region.binds md e = true → e.on ≠ i) → oi.apart ops ok = true := fun k ok hk hki hun hno => by
        refine hfree k ok hk hki ?_ hno
        by_cases hjk : j = k
        · subst hjk; exact hjun
        · rw [getD_set_ne true hjk] at hun; exact hun
      refine wpOp_mono (fun a' w' h3 => ⟨fun _ => h3.2.1 hns, ih (listed.setIfInBounds j true) a' w' hfree' (hcl.set hj) (ready_mono hr (Ne.symm hji)) h3.1 (h3.2.1 hns) ?_⟩) h2
      rw [Array.setIfInBounds_comm _ _ hji]
      exact h3.2.2

/-- a schedule: number and whether it is light -/
def schedB (md : Region.Mode) (ops : Array Oper) (sd : List Nat) : List (Nat × Bool) → Array Bool → Bool
  | [], listed => (Region.ready md ops listed).isEmpty
  | (i, true) :: r, listed => (Region.ready md ops listed).contains i && (Region.free md ops listed i && ((sd.all fun j => reach md ops 12 j i) && schedB md ops sd r (listed.setIfInBounds i true)))
  | (i, false) :: r, listed => (Region.ready md ops listed == [i]) && schedB md ops sd r (listed.setIfInBounds i true)

def wpT (P : Program) (ops : Array Oper) (Q : Exit → Act → World → Prop) (S : World → Prop) (sd : List Nat) : List (Nat × Bool × Option Oper) → Act → World → Prop
  | [], a, w => Q .normal a w
  | (_, true, some o) :: r, a, w => ∃ v, YieldsIf P ops S o v a ∧ S w ∧ wpT P ops Q S sd r (a.put o.dst v) w
  | (i, false, some o) :: r, a, w => if Region.wanted o (yielded ops a.tmps) then o.wp P a w (fun a' w' => (sd.contains i = false → S w') ∧ wpT P ops Q S sd r a' w') Q else (sd.contains i = false → S w) ∧ wpT P ops Q S sd r (a.put o.dst undef) w
  | (_, _, none) :: _, _, _ => False

theorem X_of_T (hsel : Region.noSelect ops = true) (hQ : ∀ c a a' w, Q (.panic c) a w → Q (.panic c) a' w) : ∀ (l : List (Nat × Bool)) (listed : Array Bool) (a : Act) (w : World),
    Closed md ops listed → schedB md ops sd l listed = true → wpT P ops Q S sd (l.map fun p => (p.1, p.2, ops[p.1]?)) a w → wpAnyX P md ops Q S sd l.length listed a w
  | [], listed, a, w, _, hb, h => by
    simp only [schedB, List.isEmpty_iff] at hb
    exact ⟨hb, h⟩
  | (i, true) :: r, listed, a, w, hcl, hb, h => by
    simp only [schedB, Bool.and_eq_true] at hb
    obtain ⟨hr, hf, hs, hrest⟩ := hb
    simp only [List.map_cons] at h
    cases ho : ops[i]? with
    | none => rw [ho] at h; exact h.elim
    | some o =>
      rw [ho] at h
      obtain ⟨v, hy, hS, hn⟩ := h
      refine wpAnyX_first ho (Region.noSelect_spec hsel) (fun c a w h => hQ c _ _ w h) (fun j hj => ?_) _ _ _ _ (Region.free_spec ho hf) hcl (by simpa using hr) hy hS (X_of_T hsel hQ r _ _ _ (hcl.set (by simpa using hr)) hrest hn)
      exact List.all_eq_true.1 hs j (by simpa using hj)
  | (i, false) :: r, listed, a, w, hcl, hb, h => by
    simp only [schedB, Bool.and_eq_true, beq_iff_eq] at hb
    obtain ⟨hr, hrest⟩ := hb
    refine ⟨fun h0 => absurd (hr ▸ h0 : [i] = []) (by simp), fun j hj => ?_⟩
    rw [hr] at hj
    obtain rfl : j = i := by simpa using hj
    simp only [List.map_cons] at h
    have hm := hcl.set (i := j) (by rw [hr]; simp)
    unfold wpOp
    cases ho : ops[j]? with
    | none => rw [ho] at h; exact h.elim
    | some o =>
      rw [ho] at h
      simp only [wpT] at h ⊢
      split
      · rename_i hw
        rw [if_pos hw] at h
        exact .inl (Oper.wp_mono (fun a' w' h' => ⟨h'.1, X_of_T hsel hQ r _ _ _ hm hrest h'.2⟩) h)
      · rename_i hw
        rw [if_neg hw] at h
        exact ⟨h.1, X_of_T hsel hQ r _ _ _ hm hrest h.2⟩

/-- the region, walked by a schedule -/
theorem region_sched {id : Nat} {ops : List Oper} {a : Act} {w : World} (S : World → Prop) (l : List (Nat × Bool)) (sd : List Nat)
    (hm : P.follows .mixedOrders = true) (hsel : Region.noSelect ops.toArray = true) (hn : (l.length == ops.length) = true)
    (hb : schedB .any ops.toArray sd l (Array.replicate ops.toArray.size false) = true)
    (h : wpT P ops.toArray (NoPanic Q) S sd (l.map fun p => (p.1, p.2, ops[p.1]?)) a w.drew) : (Code.region id ops.toArray true).wp P Q a w := by
  refine wp_region_noPanic (wp_region_any hm (wpAny_of_X (S := S) (sd := sd) _ _ _ _ ?_))
  have e : ops.toArray.size = l.length := by simpa using (beq_iff_eq.1 hn).symm
  have := X_of_T (P := P) (Q := NoPanic Q) (S := S) (w := w.drew) hsel (fun _ _ _ _ h => h.elim) l _ a (fun j oj _ hl => by simp [Array.getD] at hl) hb (by simpa using h)
  rw [e] at this ⊢
  exact this

section
variable {r : List (Nat × Bool × Option Oper)} {a : Act} {w : World} {o : Oper} {i : Nat}
theorem S_nil (h : Q .normal a w) : wpT P ops (NoPanic Q) S sd [] a w := h

theorem S_lightV (hg : o.guard = none) (hS : S w) (v : Value)
    (hy : ∀ w', S w' → (execOp a.eval o).run P w' = .ok (.value v) w') (h : wpT P ops Q S sd r (a.put o.dst v) w) : wpT P ops Q S sd ((i, true, some o) :: r) a w :=
  ⟨v, .inl ⟨by simp [Region.wanted, hg], hy⟩, hS, h⟩

theorem S_lightV_on (hg : Region.wanted o (yielded ops a.tmps) = true) (hS : S w) (v : Value)
    (hy : ∀ w', S w' → (execOp a.eval o).run P w' = .ok (.value v) w') (h : wpT P ops Q S sd r (a.put o.dst v) w) : wpT P ops Q S sd ((i, true, some o) :: r) a w :=
  ⟨v, .inl ⟨hg, hy⟩, hS, h⟩

/-- operations that yield a value, and do nothing else -/
def lightOp : Op → Bool
  | .move _ | .assign _ | .build .. | .load .. | .binOp .. | .unOp .. | .convert .. | .makeInterface .. | .makeFunc .. | .slice .. | .fieldAddr .. | .field .. | .indexAddr .. | .index .. | .lookup .. | .extract .. | .nilCheck .. | .sliceToArrayPointer .. | .pick .. => true
  | .call { callee := .builtin b, .. } => match b with | .max | .min | .len | .cap => true | _ => false
  | _ => false

theorem bind_value {e : Sem Value} {P : Program} {w w' : World} {n : Next} (h : (do pure (Next.value (← e)) : Sem Next).run P w = .ok n w') : ∃ v, n = .value v := by
  rw [Sem.run_bind] at h
  cases hr : e.run P w with
  | ok v w1 => rw [hr] at h; simp at h; exact ⟨v, h.1.symm⟩
  | halt x w1 => rw [hr] at h; simp at h

theorem pure_value {v : Value} {P : Program} {w w' : World} {n : Next} (h : (pure (Next.value v) : Sem Next).run P w = .ok n w') : ∃ v, n = .value v := by
  simp at h; exact ⟨v, h.1.symm⟩

theorem light_value {ρ : Operand → Value} {o : Oper} (hl : lightOp o.op = true) {P : Program} {w w' : World} {n : Next} (h : (execOp ρ o).run P w = .ok n w') : ∃ v, n = .value v := by
  obtain ⟨dst, op, ty, pos, after, guard⟩ := o
  cases op <;> first | (simp [lightOp] at hl; done) | exact bind_value h | exact pure_value h | skip
  case pick c x y => exact bind_value (e := do pure (if ← asBool (ρ c) then ρ x else ρ y)) (by simpa [execOp] using h)
  case nilCheck x =>
    simp only [execOp] at h
    split at h
    · simp [runtimePanic] at h
    · simp [runtimePanic] at h
    · simp [runtimePanic] at h
    · split at h
      · simp [runtimePanic] at h
      · rw [Sem.run_bind] at h
        simp only [run_program, Result.andThen] at h
        rw [Sem.run_bind] at h
        generalize Sem.run P (nilAhead _ _ _ _) w = r at h
        cases r with
        | halt x w1 => simp [Result.andThen] at h
        | ok b w1 =>
          simp only [Result.andThen] at h
          split at h
          · simp [unsupported] at h
          · exact pure_value h
      · exact pure_value h
    · exact pure_value h
  case call c =>
    obtain ⟨callee, args, ats⟩ := c
    cases callee with
    | builtin b => cases b <;> first | (simp [lightOp] at hl; done) | exact bind_value h
    | _ => simp [lightOp] at hl

def dstOk (dst : Option Tmp) (a : Act) : Bool := match dst with | some d => decide (d < a.tmps.size) | none => false

theorem put_inj {a : Act} {d : Nat} {u v : Value} (hd : d < a.tmps.size) (h : a.put (some d) u = a.put (some d) v) : u = v := by
  have h1 := congrArg (fun x : Act => x.tmps[d]?) h
  simpa [Act.put, hd] using h1

theorem yields_of_wp {dst : Option Tmp} {op : Op} {ty : TypeId} {pos : String} {after : Array Edge} {guard : Option (Nat × Bool)} {v : Value}
    (hl : lightOp op = true) (hd : dstOk dst a = true)
    (hy : ∀ K : Act → World → Prop, K (a.put dst v) w → Oper.wp P ⟨dst, op, ty, pos, after, guard⟩ a w K (fun _ _ _ => False)) :
    (execOp a.eval ⟨dst, op, ty, pos, after, guard⟩).run P w = .ok (.value v) w := by
  replace hy := hy (fun a' w' => a' = a.put dst v ∧ w' = w) ⟨rfl, rfl⟩
  unfold Oper.wp at hy
  cases hr : (execOp a.eval ⟨dst, op, ty, pos, after, guard⟩).run P w with
  | ok n w1 =>
    obtain ⟨u, rfl⟩ := light_value (o := ⟨dst, op, ty, pos, after, guard⟩) hl hr
    rw [hr] at hy
    simp only [Oper.upon] at hy
    obtain ⟨h1, rfl⟩ := hy
    cases dst with
    | none => simp [dstOk] at hd
    | some d => rw [put_inj (by simpa [dstOk] using hd) h1]
  | halt x w1 =>
    rw [hr] at hy
    cases x <;> simp [Oper.upon] at hy

/-- light: its value is the same in every world that meets S -/
theorem S_light {dst : Option Tmp} {op : Op} {ty : TypeId} {pos : String} {after : Array Edge}
    (hl : lightOp op = true) (hd : dstOk dst a = true) (hS : S w) (v : Value)
    (hy : ∀ w', S w' → ∀ K : Act → World → Prop, K (a.put dst v) w' → Oper.wp P ⟨dst, op, ty, pos, after, none⟩ a w' K (fun _ _ _ => False))
    (h : ∀ K : Act → World → Prop, (∀ a', wpT P ops Q S sd r a' w → K a' w) → Oper.wp P ⟨dst, .move (.const v), ty, "", #[], none⟩ a w K (fun _ _ _ => False)) :
    wpT P ops Q S sd ((i, true, some ⟨dst, op, ty, pos, after, none⟩) :: r) a w :=
  S_lightV rfl hS v (fun w' hS' => yields_of_wp hl hd (hy w' hS')) (by
    have := h (fun a' w' => wpT P ops Q S sd r a' w) (fun _ h => h)
    simpa [Oper.wp, execOp, Oper.upon, Act.eval] using this)

theorem S_light_on {dst : Option Tmp} {op : Op} {ty : TypeId} {pos : String} {after : Array Edge} {g : Nat × Bool}
    (hg : Region.wanted ⟨dst, op, ty, pos, after, some g⟩ (yielded ops a.tmps) = true)
    (hl : lightOp op = true) (hd : dstOk dst a = true) (hS : S w) (v : Value)
    (hy : ∀ w', S w' → ∀ K : Act → World → Prop, K (a.put dst v) w' → Oper.wp P ⟨dst, op, ty, pos, after, none⟩ a w' K (fun _ _ _ => False))
    (h : ∀ K : Act → World → Prop, (∀ a', wpT P ops Q S sd r a' w → K a' w) → Oper.wp P ⟨dst, .move (.const v), ty, "", #[], none⟩ a w K (fun _ _ _ => False)) :
    wpT P ops Q S sd ((i, true, some ⟨dst, op, ty, pos, after, some g⟩) :: r) a w :=
  S_lightV_on hg hS v (fun w' hS' => yields_of_wp (guard := some g) hl hd (hy w' hS')) (by
    have := h (fun a' w' => wpT P ops Q S sd r a' w) (fun _ h => h)
    simpa [Oper.wp, execOp, Oper.upon, Act.eval] using this)

theorem S_light_off {dst : Option Tmp} {op : Op} {ty : TypeId} {pos : String} {after : Array Edge} {g : Nat × Bool}
    (hg : Region.wanted ⟨dst, op, ty, pos, after, some g⟩ (yielded ops a.tmps) = false) (hS : S w)
    (h : ∀ K : Act → World → Prop, (∀ a', wpT P ops Q S sd r a' w → K a' w) → Oper.wp P ⟨dst, .move (.const undef), ty, "", #[], none⟩ a w K (fun _ _ _ => False)) :
    wpT P ops Q S sd ((i, true, some ⟨dst, op, ty, pos, after, some g⟩) :: r) a w :=
  ⟨undef, .inr ⟨hg, rfl⟩, hS, by
    have := h (fun a' w' => wpT P ops Q S sd r a' w) (fun _ h => h)
    simpa [Oper.wp, execOp, Oper.upon, Act.eval] using this⟩

theorem S_heavy {dst : Option Tmp} {op : Op} {ty : TypeId} {pos : String} {after : Array Edge}
    (h : ∀ K : Act → World → Prop, (∀ a' w', ((sd.contains i = false → S w') ∧ wpT P ops Q S sd r a' w') → K a' w') → Oper.wp P ⟨dst, op, ty, pos, after, none⟩ a w K Q) :
    wpT P ops Q S sd ((i, false, some ⟨dst, op, ty, pos, after, none⟩) :: r) a w := by
  unfold wpT
  rw [if_pos (by simp [Region.wanted])]
  exact h _ (fun _ _ h => h)

theorem S_heavy_on {dst : Option Tmp} {op : Op} {ty : TypeId} {pos : String} {after : Array Edge} {g : Nat × Bool}
    (hg : Region.wanted ⟨dst, op, ty, pos, after, some g⟩ (yielded ops a.tmps) = true)
    (h : ∀ K : Act → World → Prop, (∀ a' w', ((sd.contains i = false → S w') ∧ wpT P ops Q S sd r a' w') → K a' w') → Oper.wp P ⟨dst, op, ty, pos, after, none⟩ a w K Q) :
    wpT P ops Q S sd ((i, false, some ⟨dst, op, ty, pos, after, some g⟩) :: r) a w := by
  unfold wpT
  rw [if_pos hg]
  exact h _ (fun _ _ h => h)

theorem S_heavy_off {dst : Option Tmp} {op : Op} {ty : TypeId} {pos : String} {after : Array Edge} {g : Nat × Bool}
    (hg : Region.wanted ⟨dst, op, ty, pos, after, some g⟩ (yielded ops a.tmps) = false)
    (hS : sd.contains i = false → S w) (h : ∀ K : Act → World → Prop, (∀ a', wpT P ops Q S sd r a' w → K a' w) → Oper.wp P ⟨dst, .move (.const undef), ty, "", #[], none⟩ a w K (fun _ _ _ => False)) :
    wpT P ops Q S sd ((i, false, some ⟨dst, op, ty, pos, after, some g⟩) :: r) a w := by
  unfold wpT
  rw [if_neg (by simp [hg])]
  refine ⟨hS, ?_⟩
  have := h (fun a' w' => wpT P ops Q S sd r a' w) (fun _ h => h)
  simpa [Oper.wp, execOp, Oper.upon, Act.eval] using this
end
end
end Go.XR

/- Small laws for the walk: max and min of whole numbers. -/
namespace Go.XR
open Go
theorem max2_int (k k' : IntKind) (x y : Int) : Builtin.max2 (.int k x) (.int k' y) = pure (.int k (max x y)) := by
  simp only [Builtin.max2, gt_iff_lt]; congr 2; omega
theorem min2_int (k k' : IntKind) (x y : Int) : Builtin.min2 (.int k x) (.int k' y) = pure (.int k (min x y)) := by
  simp only [Builtin.min2]; congr 2; omega
theorem max_two (ats : Array TypeId) (ty : TypeId) (a b : Value) : Builtin.max_ ats ty #[a, b] = (Builtin.max2 a b >>= fun s => pure s) := by simp only [Builtin.max_, List.foldlM_cons, List.foldlM_nil]
theorem min_two (ats : Array TypeId) (ty : TypeId) (a b : Value) : Builtin.min_ ats ty #[a, b] = (Builtin.min2 a b >>= fun s => pure s) := by simp only [Builtin.min_, List.foldlM_cons, List.foldlM_nil]
theorem max_three (ats : Array TypeId) (ty : TypeId) (a b c : Value) : Builtin.max_ ats ty #[a, b, c] = (Builtin.max2 a b >>= fun s => Builtin.max2 s c >>= fun s => pure s) := by simp only [Builtin.max_, List.foldlM_cons, List.foldlM_nil]
theorem min_three (ats : Array TypeId) (ty : TypeId) (a b c : Value) : Builtin.min_ ats ty #[a, b, c] = (Builtin.min2 a b >>= fun s => Builtin.min2 s c >>= fun s => pure s) := by simp only [Builtin.min_, List.foldlM_cons, List.foldlM_nil]
@[go_sem ↓ high] theorem execOp_max2 (ρ : Operand → Value) (dst : Option Tmp) (x y : Operand) (ats : Array TypeId) (ty : TypeId) (pos : String) (after : Array Edge) (guard : Option (Nat × Bool)) :
    execOp ρ { dst, op := .call { callee := .builtin .max, args := #[x, y], argTypes := ats }, type := ty, pos, after, guard } = (do pure (.value (← Builtin.max2 (ρ x) (ρ y)))) := by
  rw [Go.BigFrame.execOp_builtin, Go.BigFrame.builtin_max]; simp [max_two]
@[go_sem ↓ high] theorem execOp_min2 (ρ : Operand → Value) (dst : Option Tmp) (x y : Operand) (ats : Array TypeId) (ty : TypeId) (pos : String) (after : Array Edge) (guard : Option (Nat × Bool)) :
    execOp ρ { dst, op := .call { callee := .builtin .min, args := #[x, y], argTypes := ats }, type := ty, pos, after, guard } = (do pure (.value (← Builtin.min2 (ρ x) (ρ y)))) := by
  rw [Go.BigFrame.execOp_builtin, Go.BigFrame.builtin_min]; simp [min_two]
@[go_sem ↓ high] theorem execOp_max3 (ρ : Operand → Value) (dst : Option Tmp) (x y z : Operand) (ats : Array TypeId) (ty : TypeId) (pos : String) (after : Array Edge) (guard : Option (Nat × Bool)) :
    execOp ρ { dst, op := .call { callee := .builtin .max, args := #[x, y, z], argTypes := ats }, type := ty, pos, after, guard } = (do pure (.value (← Builtin.max2 (ρ x) (ρ y) >>= fun s => Builtin.max2 s (ρ z)))) := by
  rw [Go.BigFrame.execOp_builtin, Go.BigFrame.builtin_max]; simp [max_three]
@[go_sem ↓ high] theorem execOp_min3 (ρ : Operand → Value) (dst : Option Tmp) (x y z : Operand) (ats : Array TypeId) (ty : TypeId) (pos : String) (after : Array Edge) (guard : Option (Nat × Bool)) :
    execOp ρ { dst, op := .call { callee := .builtin .min, args := #[x, y, z], argTypes := ats }, type := ty, pos, after, guard } = (do pure (.value (← Builtin.min2 (ρ x) (ρ y) >>= fun s => Builtin.min2 s (ρ z)))) := by
  rw [Go.BigFrame.execOp_builtin, Go.BigFrame.builtin_min]; simp [min_three]
attribute [go_sem high] max2_int min2_int

theorem ownsRow_shape {w : World} {base : Nat} {e : TypeId} {size : Nat} {v : Value} {n : Nat} {xs : List Value} (h : w.ownsRow base e size v n xs) : ∃ a c, v = .slice a n c := by
  rcases h.2 with ⟨rfl, rfl⟩ | ⟨g, cap, cur, rfl, _⟩
  · exact ⟨none, 0, rfl⟩
  · exact ⟨_, _, rfl⟩

/-- append to a row of the call's own, at one operation; the value that comes shows its shape -/
theorem wp_append {P : Program} {w : World} {A : Act} {K : Act → World → Prop} {Q : Exit → Act → World → Prop} {dst : Option Tmp} {s x : Operand} {t ty : TypeId} {pos : String} {after : Array Edge} {guard : Option (Nat × Bool)}
    (base : Nat) (e : TypeId) (i : TypeInfo) (z : Value) (size bytes : Nat) (ht : P.underlying t = some (.slice e)) (hi : P.info? e = some i) (hz : i.zero = some z)
    (hsize : i.size = size) (hby : i.bytes = bytes) (hzs : z.cells.size = size) (hsz : 0 < size)
    (so : Option Addr) (n sc : Nat) (xs : List Value) (hs : A.eval s = .slice so n sc) (hown : w.ownsRow base e size (.slice so n sc) n xs)
    (ad : Addr) (m c : Nat) (news : List Value) (hx : A.eval x = .slice (some ad) m c) (hl : news.length = m * size) (hnews : ∀ j u, news[j]? = some u → w.cell? (ad.add j) = some u) (h1 : ∀ u ∈ news, u.oneCell' = true)
    (h63 : n + m ≤ maxLen) (hbytes : (n + m) * bytes ≤ 140737488355328) (hbase : base ≤ w.heap.size)
    (h : ∀ a' c' w', w'.ownsRow base e size (.slice a' (n + m) c') (n + m) (xs ++ news) → w.grownBy w' (Value.ownBlock (.slice so n sc)) →
      Oper.wp P ⟨dst, .move (.const (.slice a' (n + m) c')), ty, "", #[], none⟩ A w' K (fun _ _ _ => False)) :
    Oper.wp P ⟨dst, .call { callee := .builtin .append, args := #[s, x], argTypes := #[t, t] }, ty, pos, after, guard⟩ A w K Q := by
  refine wp_append_own w s x t rfl base e i z size bytes ht hi hz hsize hby hzs hsz _ n xs hs hown ad m c news hx hl hnews h1 h63 hbytes hbase ?_
  intro v' w' h2 h3 _
  obtain ⟨a', c', rfl⟩ := ownsRow_shape h2
  have := h a' c' w' h2 h3
  simpa [Oper.wp, execOp, Oper.upon, Act.eval] using this

/-- what a row of the call's own keeps while another block is written -/
theorem ownsRow_setCell {w : World} {base : Nat} {e : TypeId} {size : Nat} {v : Value} {n : Nat} {xs : List Value} (h : w.ownsRow base e size v n xs) {a : Addr} (ha : a.block < base) (u : Value) : (w.setCell a u).ownsRow base e size v n xs :=
  RowKit.ownsRow_setCell_below h ha u

/-! ### '==' of structs, field by field -/
section
variable {P : Program} {d : Nat} {xs ys : Array Value} {f : Field} {fs : List Field} {a b : Value} {r s : Bool} {w : World}
theorem eqs_last (hn : (f.name == "_") = false) (ha : (part f.type xs f.offset).run P w = .ok a w) (hb : (part f.type ys f.offset).run P w = .ok b w) (he : (Op.equalIn d f.type a b).run P w = .ok r w) : (Op.eqFields d xs ys [f]).run P w = .ok r w := by
  have hn' : f.name ≠ "_" := by simpa using hn
  simp only [Op.eqFields, if_pos hn', Sem.run_bind, ha, hb, he, Result.andThen_ok]
  cases r <;> simp
theorem eqs_cons (hn : (f.name == "_") = false) (ha : (part f.type xs f.offset).run P w = .ok a w) (hb : (part f.type ys f.offset).run P w = .ok b w) (he : (Op.equalIn d f.type a b).run P w = .ok r w) (hr : (Op.eqFields d xs ys fs).run P w = .ok s w) : (Op.eqFields d xs ys (f :: fs)).run P w = .ok (r && s) w := by
  have hn' : f.name ≠ "_" := by simpa using hn
  rw [Op.eqFields]
  simp only [if_pos hn', Sem.run_bind, ha, hb, he, Result.andThen_ok]
  cases r
  · simp
  · simpa using hr
theorem eqs_of {t : TypeId} {fs : Array Field} (hu : P.underlying t = some (.struct fs)) (hp : P.stoodInHeld t = false) (h : (Op.eqFields d xs ys fs.toList).run P w = .ok r w) : (Op.equalIn (d + 1) t (.agg xs) (.agg ys)).run P w = .ok r w := by
  have hf : P.fieldsOf t = fs := by simp [Program.fieldsOf, hu]
  rw [run_equalIn_struct (P := P) w d t xs ys (by rw [hf]; exact hu) hp, hf]
  exact h
end

/-! ### a row of cells -/
/-- the cells xs lie in w from a on -/
def Row (w : World) (a : Option Addr) (xs : List Value) : Prop :=
  xs = [] ∨ ∃ g o, a = some ⟨g, o, none⟩ ∧ ∀ j u, xs[j]? = some u → w.cell? ⟨g, o + j, none⟩ = some u

theorem Row.get {w : World} {a : Option Addr} {xs : List Value} (h : Row w a xs) {j : Nat} {u : Value} (hj : xs[j]? = some u) : ∃ g o, a = some ⟨g, o, none⟩ ∧ w.cell? ⟨g, o + j, none⟩ = some u := by
  rcases h with rfl | ⟨g, o, ha, h⟩
  · simp at hj
  · exact ⟨g, o, ha, h j u hj⟩

theorem cell_lt {w : World} {a : Addr} {v : Value} (h : w.cell? a = some v) : a.block < w.heap.size := World.block_lt_of_cell? w a h

theorem Row.below {w w' : World} (hb : RowKit.Below w.heap.size w w') {a : Option Addr} {xs : List Value} (h : Row w a xs) : Row w' a xs := by
  rcases h with rfl | ⟨g, o, ha, h⟩
  · exact .inl rfl
  · refine .inr ⟨g, o, ha, fun j u hj => ?_⟩
    have := h j u hj
    rw [hb.cell (p := ⟨g, o + j, none⟩) (cell_lt this)]
    exact this

theorem Row.owned {w : World} {base : Nat} {e : TypeId} {size : Nat} {a : Option Addr} {n c : Nat} {xs : List Value} (h : w.ownsRow base e size (.slice a n c) n xs) : Row w a xs := by
  rcases h.2 with ⟨h1, h2⟩ | ⟨g, cap, cur, h1, h2, h3, h4, h5, h6, h7⟩
  · left
    have := h.1
    subst h2
    simpa using this
  · right
    cases h1
    refine ⟨g, 0, rfl, fun j u hj => ?_⟩
    have := h.cells (g := g) rfl j u hj
    have hadd : (⟨g, 0, none⟩ : Addr).add j = ⟨g, 0 + j, none⟩ := by unfold Addr.add; split <;> simp_all
    rwa [hadd] at this

theorem Row.new (w : World) (cs : Array Value) (T : TypeId) : Row (w.alloc (.cells cs T)) (some ⟨w.heap.size, 0, none⟩) cs.toList := by
  refine .inr ⟨_, 0, rfl, fun j u hj => ?_⟩
  rw [World.cell?_alloc_new, Nat.zero_add]
  simpa using hj

theorem Row.take {w : World} {a : Option Addr} {xs : List Value} (h : Row w a xs) (n : Nat) : Row w a (xs.take n) := by
  rcases h with rfl | ⟨g, o, ha, h⟩
  · simp [Row]
  · refine .inr ⟨g, o, ha, fun j u hj => h j u ?_⟩
    rw [List.getElem?_take] at hj
    split at hj
    · exact hj
    · cases hj
end Go.XR

/- The walks over bad and the reference's Name. -/
namespace Go.Proofs.YtoahjhogjjdkhaaGreatDoor
open Go.RowKit Go.PathPure Go.XR

theorem rune_le (s : ByteArray) (pos : Nat) : (Utf8.decode s pos).1 ≤ 1114111 := by
  rw [← Go.Lib.decodeL_drop]; exact Go.Lib.decodeL_rune _

set_option maxHeartbeats 1000000 in
set_option maxRecDepth 100000 in
theorem bad_any (w : World) (r : Nat) (hr : r ≤ 1114111) : Calls Tryz.prog 98 #[.int .i32 r] w fun e w' => e = .returned (.bool (badR r)) ∧ w' = w := by
  by_cases h1 : r < 32
  · have e : badR r = true := by simp [badR, h1]
    have E := Lib.hid e
    have c1 : decide (r < 32) = true := decide_eq_true h1
    clear e
    go_enter Tryz.func98, Tryz.ntmps98
    go_wp2
    go_ret
    exact ⟨by rw [E.out]; rfl, rfl⟩
  · have c1 : decide (r < 32) = false := decide_eq_false h1
    by_cases h2 : r = 127
    · have e : badR r = true := by simp [badR, h2]
      subst h2
      have E := Lib.hid e
      clear e h1
      go_enter Tryz.func98, Tryz.ntmps98
      go_wp2
      go_ret
      exact ⟨by rw [E.out]; rfl, rfl⟩
    · by_cases h3 : r = 47
      · have e : badR r = true := by simp [badR, h3]
        subst h3
        have E := Lib.hid e
        clear e h1 h2
        go_enter Tryz.func98, Tryz.ntmps98
        go_wp2
        go_ret
        exact ⟨by rw [E.out]; rfl, rfl⟩
      · have e : badR r = false := by simp [badR, h1, h2, h3]
        have E := Lib.hid e
        have c2 : ((r : Int) == 127) = false := by rw [beq_eq_false_iff_ne]; omega
        have c3 : ((r : Int) == 47) = false := by rw [beq_eq_false_iff_ne]; omega
        clear e
        go_enter Tryz.func98, Tryz.ntmps98
        go_wp2
        go_ret
        exact ⟨by rw [E.out]; exact congrArg (fun b => Ending.returned (.bool b)) (decide_eq_false (by omega : ¬ (r : Int) < 32)), rfl⟩


set_option maxHeartbeats 4000000 in
set_option maxRecDepth 100000 in
theorem refname_loop (w : World) (s : ByteArray) (hs : s.size ≤ 100) (e0 : (s.toList == []) = false) (e2 : (s.toList == [46]) = false) (e3 : (s.toList == [46, 46]) = false) : Calls Tryz.prog 122 #[.string s] w fun e w' => e = .returned (.bool (rscan s s.size 0)) ∧ Below w.heap.size w w' := by
  have hs2 : ¬ 100 < s.size := by omega
  obtain ⟨ANS, hA⟩ : ∃ A, rscan s s.size 0 = A := ⟨_, rfl⟩
  rw [hA]
  have HA := Lib.hid hA
  clear hA
  go_enter Tryz.func122, Tryz.ntmps122
  go_wp2
  go_loopg [3] s.size (fun n _ wr => ∃ pos : Nat, Hid (wr = w.iter s pos) ∧ Hid (rscan s n pos = ANS) ∧ s.size - pos ≤ n)
  case atStart => exact ⟨0, rfl, HA.out, by omega⟩
  case round =>
    obtain ⟨pos, hw, hr, hn⟩ := hrel
    cases hw.out
    have Hr := hr
    clear hr hw
    by_cases hp : pos < s.size
    · have hnx := fun ty => run_next_any (P := Tryz.prog) w s pos ty hp
      have hle := rune_le s pos
      have hwd := decode_pos s pos
      obtain ⟨n', rfl⟩ : ∃ n', gk = n' + 1 := ⟨gk - 1, by omega⟩
      have hp2 : (pos : Int) < (s.size : Int) := by omega
      have hr2 := Hr.out
      unfold rscan at hr2
      rw [if_pos hp] at hr2
      have Hr := Lib.hid hr2
      clear hr2
      have hwr : Hid (wrong s pos = ((Utf8.decode s pos).1 == 65533 && (decide (s.size < pos + 3) || !((s.extract pos (pos + 3)).toList == [239, 191, 189])))) := rfl
      generalize (Utf8.decode s pos).1 = r at *
      generalize (Utf8.decode s pos).2 = wd at *
      by_cases h1 : r < 32
      · have c1 : decide (r < 32) = true := decide_eq_true h1
        have E : Hid ((!(badR r || wrong s pos) && rscan s n' (pos + wd)) = false) := by unfold Hid; simp [badR, h1]
        go_wp2
        go_ret
        exact ⟨by rw [← Hr.out, E.out]; rfl, (Below.refl w.heap.size w).alloc (Nat.le_refl _) _⟩
      have c1 : decide (r < 32) = false := decide_eq_false h1
      by_cases h2 : r = 127
      · subst h2
        have E : Hid ((!(badR 127 || wrong s pos) && rscan s n' (pos + wd)) = false) := by unfold Hid; simp [badR]
        clear h1
        go_wp2
        go_ret
        exact ⟨by rw [← Hr.out, E.out]; rfl, (Below.refl w.heap.size w).alloc (Nat.le_refl _) _⟩
      by_cases h3 : r = 47
      · subst h3
        have E : Hid ((!(badR 47 || wrong s pos) && rscan s n' (pos + wd)) = false) := by unfold Hid; simp [badR]
        clear h1 h2
        go_wp2
        go_ret
        exact ⟨by rw [← Hr.out, E.out]; rfl, (Below.refl w.heap.size w).alloc (Nat.le_refl _) _⟩
      have c2 : ((r : Int) == 127) = false := by rw [beq_eq_false_iff_ne]; omega
      have c3 : ((r : Int) == 47) = false := by rw [beq_eq_false_iff_ne]; omega
      have Hb : Hid (badR r = false) := by unfold Hid; simp [badR, h1, h2, h3]
      by_cases h4 : r = 65533
      · subst h4
        have Hw : Hid (wrong s pos = (decide (s.size < pos + 3) || !((s.extract pos (pos + 3)).toList == [239, 191, 189]))) := by unfold Hid; rw [hwr.out]; rfl
        clear hwr h1 h2 h3 c1 c2 c3
        by_cases h5 : s.size < pos + 3
        · have c5 : decide (s.size < pos + 3) = true := decide_eq_true h5
          have E : Hid ((!(badR 65533 || wrong s pos) && rscan s n' (pos + wd)) = false) := by unfold Hid; rw [Hw.out, c5]; simp
          have c6 : decide ((s.size : Int) < (pos : Int) + 3) = true := decide_eq_true (by omega)
          go_wp2
          go_ret
          exact ⟨by rw [← Hr.out, E.out]; rfl, (Below.refl w.heap.size w).alloc (Nat.le_refl _) _⟩
        · have c5 : decide (s.size < pos + 3) = false := decide_eq_false h5
          have c6 : decide ((s.size : Int) < (pos : Int) + 3) = false := decide_eq_false (by omega)
          have c7 : (pos : Int) + 3 ≤ (s.size : Int) := by omega
          cases h6 : (s.extract pos (pos + 3)).toList == [239, 191, 189] with
          | false =>
            have E : Hid ((!(badR 65533 || wrong s pos) && rscan s n' (pos + wd)) = false) := by unfold Hid; rw [Hw.out, c5, h6]; simp
            go_wp2
            go_ret
            exact ⟨by rw [← Hr.out, E.out]; rfl, (Below.refl w.heap.size w).alloc (Nat.le_refl _) _⟩
          | true =>
            have E : Hid ((badR 65533 || wrong s pos) = false) := by unfold Hid; rw [Hw.out, c5, h6]; rfl
            go_wp2
            go_roundg n'
            case measure => omega
            case rel => exact ⟨pos + wd, rfl, by unfold Hid; rw [← Hr.out, E.out, Bool.not_false, Bool.true_and], by omega⟩
      · have c4 : ((r : Int) == 65533) = false := by rw [beq_eq_false_iff_ne]; omega
        have E : Hid ((badR r || wrong s pos) = false) := by
          unfold Hid
          rw [Hb.out, hwr.out, show (r == 65533) = false from by rw [beq_eq_false_iff_ne]; exact h4]; rfl
        go_wp2
        go_roundg n'
        case measure => omega
        case rel => exact ⟨pos + wd, rfl, by unfold Hid; rw [← Hr.out, E.out, Bool.not_false, Bool.true_and], by omega⟩
    · have hnx := fun ty => run_next_end (P := Tryz.prog) w s pos ty hp
      have E : Hid (rscan s gk pos = true) := by
        unfold Hid
        cases gk with
        | zero => rfl
        | succ k => unfold rscan; rw [if_neg hp]
      go_wp2
      go_ret
      exact ⟨by rw [← Hr.out, E.out]; rfl, (Below.refl w.heap.size w).alloc (Nat.le_refl _) _⟩

theorem isName_of {s : ByteArray} (e0 : (s.toList == []) = false) (e2 : (s.toList == [46]) = false) (e3 : (s.toList == [46, 46]) = false) (hs : s.size ≤ 100) : isName s = (vscan s s.size 0 && scan s s.size 0) := by
  unfold isName
  rw [e0, e2, e3, decide_eq_true hs, vscan_valid s s.size 0 (by omega)]; rfl

set_option maxHeartbeats 2000000 in
set_option maxRecDepth 100000 in
theorem refname_any (w : World) (s : ByteArray) : Calls Tryz.prog 122 #[.string s] w fun e w' => e = .returned (.bool (isName s)) ∧ Below w.heap.size w w' := by
  cases e0 : s.toList == [] with
  | true =>
    have E : Hid (isName s = false) := by unfold Hid isName; rw [e0]; rfl
    go_enter Tryz.func122, Tryz.ntmps122
    go_wp2
    go_ret
    exact ⟨by rw [E.out]; rfl, Below.refl _ _⟩
  | false =>
    by_cases e1 : 100 < s.size
    · have E : Hid (isName s = false) := by unfold Hid isName; rw [decide_eq_false (by omega : ¬ s.size ≤ 100)]; simp
      have c1 : decide (100 < s.size) = true := decide_eq_true e1
      go_enter Tryz.func122, Tryz.ntmps122
      go_wp2
      go_ret
      exact ⟨by rw [E.out]; rfl, Below.refl _ _⟩
    · cases e2 : s.toList == [46] with
      | true =>
        have E : Hid (isName s = false) := by unfold Hid isName; rw [e2]; simp
        go_enter Tryz.func122, Tryz.ntmps122
        go_wp2
        go_ret
        exact ⟨by rw [E.out]; rfl, Below.refl _ _⟩
      | false =>
        cases e3 : s.toList == [46, 46] with
        | true =>
          have E : Hid (isName s = false) := by unfold Hid isName; rw [e3]; simp
          go_enter Tryz.func122, Tryz.ntmps122
          go_wp2
          go_ret
          exact ⟨by rw [E.out]; rfl, Below.refl _ _⟩
        | false =>
          rw [isName_of e0 e2 e3 (by omega), ← rscan_eq]
          exact refname_loop w s (by omega) e0 e2 e3
end Go.Proofs.YtoahjhogjjdkhaaGreatDoor

/-
  DERIVED: THE SHELF's CONTRACTS AT THIS DUMP, IN PLAIN WORDS (tools/lay-plain.mjs out of 'TryzMini.lean', which tools/lay-shelf.mjs wrote): THE SAME DECLARATIONS UNDER THE SAME NAMES: 'import', 'namespace', 'open', 'def', 'theorem' AND NOTHING ELSE: no command of the shelf's: FOR A HAND-IN. Each laying: the table of numbers ('.._ren') and one theorem, a field a fact of the dump's own or the kernel's comparison; each contract: ONE APPLICATION.
-/
namespace Go.Proofs
open Go.Shelf
def Tryz.lays103_ren : Go.Shelf.Ren := ⟨fun | 103 => 110 | 210 => 153 | 206 => 151 | n => n, fun | 9 => 9 | 4 => 4 | 24 => 92 | 3 => 3 | n => n, fun | n => n⟩
theorem Tryz.lays103 : Go.Proofs.Lays.n103 Tryz.prog Tryz.lays103_ren := {
  mixed := by kernel_rfl
  f103 := Tryz.func110.trans (congrArg some (by kernel_rfl))
  f206 := Tryz.func151.trans (congrArg some (by kernel_rfl))
  f210 := Tryz.func153.trans (congrArg some (by kernel_rfl))
  t3 := Tryz.underlying3
  a3 := Tryz.isAgg3
  z3 := Tryz.sizeOf3
  v3 := Tryz.zeroValue3
  t4 := Tryz.underlying4
  a4 := Tryz.isAgg4
  z4 := Tryz.sizeOf4
  v4 := Tryz.zeroValue4
  t9 := Tryz.underlying9
  a9 := Tryz.isAgg9
  z9 := Tryz.sizeOf9
  v9 := Tryz.zeroValue9
  t24 := Tryz.underlying92
  a24 := Tryz.isAgg92
  z24 := Tryz.sizeOf92
  v24 := Tryz.zeroValue92 }
open Go.RowKit in
/-- strings.CutPrefix: "CutPrefix returns s without the provided leading prefix string and reports whether it found the prefix. If s doesn't start with prefix, CutPrefix returns s, false. If prefix is the empty string, CutPrefix returns s, true.": IT RETURNS '(Lib.trimPrefix s p, Lib.hasPrefix s p)'; the world is as it was. (LAID: no walk: one application.) -/
theorem Tryz.strings_CutPrefix (s p : ByteArray) (w : World) :
    Calls Tryz.prog 110 #[.string s, .string p] w fun e w' => e = .returned (.tuple #[.string ⟨(Lib.trimPrefix s.data.toList p.data.toList).toArray⟩, .bool (Lib.hasPrefix s.data.toList p.data.toList)]) ∧ w' = w := Any.strings_CutPrefix Tryz.lays103 s p w
def Tryz.lays144_ren : Go.Shelf.Ren := ⟨fun | 144 => 92 | 143 => 140 | 219 => 164 | 217 => 190 | 225 => 191 | 224 => 192 | 267 => 193 | 266 => 206 | 314 => 207 | n => n, fun | 9 => 9 | 4 => 4 | 3 => 3 | 5 => 5 | 46 => 191 | 146 => 240 | 51 => 106 | n => n, fun | 1 => 2 | n => n⟩
theorem Tryz.lays144 : Go.Proofs.Lays.n144 Tryz.prog Tryz.lays144_ren := {
  mixed := by kernel_rfl
  f143 := Tryz.func140.trans (congrArg some (by kernel_rfl))
  f144 := Tryz.func92.trans (congrArg some (by kernel_rfl))
  f217 := Tryz.func190.trans (congrArg some (by kernel_rfl))
  f219 := Tryz.func164.trans (congrArg some (by kernel_rfl))
  f224 := Tryz.func192.trans (congrArg some (by kernel_rfl))
  f225 := Tryz.func191.trans (congrArg some (by kernel_rfl))
  f266 := Tryz.func206.trans (congrArg some (by kernel_rfl))
  f267 := Tryz.func193.trans (congrArg some (by kernel_rfl))
  f314 := Tryz.func207.trans (congrArg some (by kernel_rfl))
  t3 := Tryz.underlying3
  a3 := Tryz.isAgg3
  z3 := Tryz.sizeOf3
  v3 := Tryz.zeroValue3
  t4 := Tryz.underlying4
  a4 := Tryz.isAgg4
  z4 := Tryz.sizeOf4
  v4 := Tryz.zeroValue4
  t5 := Tryz.underlying5
  a5 := Tryz.isAgg5
  z5 := Tryz.sizeOf5
  v5 := Tryz.zeroValue5
  t9 := Tryz.underlying9
  a9 := Tryz.isAgg9
  z9 := Tryz.sizeOf9
  v9 := Tryz.zeroValue9
  t46 := Tryz.underlying191
  a46 := Tryz.isAgg191
  z46 := Tryz.sizeOf191
  v46 := Tryz.zeroValue191
  t51 := Tryz.underlying106
  a51 := Tryz.isAgg106
  z51 := Tryz.sizeOf106
  v51 := Tryz.zeroValue106
  t146 := Tryz.underlying240
  a146 := Tryz.isAgg240
  z146 := Tryz.sizeOf240
  v146 := Tryz.zeroValue240
  g1 := by kernel_rfl }
open Go.RowKit Go.Lib in
/-- strings.Contains: "Contains reports whether substr is within s.": IT RETURNS 'Lib.contains s substr'; the world is as it was. (LAID: no walk: one application.) -/
theorem Tryz.strings_Contains (s sub : ByteArray) (m : Int) (w : World) (hs : s.size < 4294967281) (hm : w.cell? ⟨2, 0, none⟩ = some (.int .i64 m)) :
    Calls Tryz.prog 92 #[.string s, .string sub] w fun e w' => e = .returned (.bool (Lib.contains s.data.toList sub.data.toList)) ∧ w' = w := Any.strings_Contains Tryz.lays144 s sub m w hs hm
def Tryz.lays99_ren : Go.Shelf.Ren := ⟨fun | 99 => 108 | 206 => 151 | n => n, fun | 9 => 9 | 4 => 4 | 3 => 3 | n => n, fun | n => n⟩
theorem Tryz.lays99 : Go.Proofs.Lays.n99 Tryz.prog Tryz.lays99_ren := {
  mixed := by kernel_rfl
  f99 := Tryz.func108.trans (congrArg some (by kernel_rfl))
  f206 := Tryz.func151.trans (congrArg some (by kernel_rfl))
  t3 := Tryz.underlying3
  a3 := Tryz.isAgg3
  z3 := Tryz.sizeOf3
  v3 := Tryz.zeroValue3
  t4 := Tryz.underlying4
  a4 := Tryz.isAgg4
  z4 := Tryz.sizeOf4
  v4 := Tryz.zeroValue4
  t9 := Tryz.underlying9
  a9 := Tryz.isAgg9
  z9 := Tryz.sizeOf9
  v9 := Tryz.zeroValue9 }
open Go.RowKit Go.Lib in
/-- strings.HasPrefix: "HasPrefix reports whether the string s begins with prefix.": IT RETURNS 'Lib.hasPrefix s prefix'; the world is as it was. (LAID: no walk: one application.) -/
theorem Tryz.strings_HasPrefix (s p : ByteArray) (w : World) :
    Calls Tryz.prog 108 #[.string s, .string p] w fun e w' => e = .returned (.bool (Lib.hasPrefix s.data.toList p.data.toList)) ∧ w' = w := Any.strings_HasPrefix Tryz.lays99 s p w
def Tryz.lays102_ren : Go.Shelf.Ren := ⟨fun | 102 => 90 | 209 => 139 | 207 => 163 | n => n, fun | 9 => 9 | 4 => 4 | 3 => 3 | n => n, fun | n => n⟩
theorem Tryz.lays102 : Go.Proofs.Lays.n102 Tryz.prog Tryz.lays102_ren := {
  mixed := by kernel_rfl
  f102 := Tryz.func90.trans (congrArg some (by kernel_rfl))
  f207 := Tryz.func163.trans (congrArg some (by kernel_rfl))
  f209 := Tryz.func139.trans (congrArg some (by kernel_rfl))
  t3 := Tryz.underlying3
  a3 := Tryz.isAgg3
  z3 := Tryz.sizeOf3
  v3 := Tryz.zeroValue3
  t4 := Tryz.underlying4
  a4 := Tryz.isAgg4
  z4 := Tryz.sizeOf4
  v4 := Tryz.zeroValue4
  t9 := Tryz.underlying9
  a9 := Tryz.isAgg9
  z9 := Tryz.sizeOf9
  v9 := Tryz.zeroValue9 }
open Go.RowKit Go.Lib in
/-- strings.TrimSuffix: "TrimSuffix returns s without the provided trailing suffix string. If s doesn't end with suffix, s is returned unchanged.": IT RETURNS 'Lib.trimSuffix s suffix'; the world is as it was. (LAID: no walk: one application.) -/
theorem Tryz.strings_TrimSuffix (s p : ByteArray) (w : World) (hs : s.size ≤ 9223372036854775807) :
    Calls Tryz.prog 90 #[.string s, .string p] w fun e w' => e = .returned (.string ⟨(Lib.trimSuffix s.data.toList p.data.toList).toArray⟩) ∧ w' = w := Any.strings_TrimSuffix Tryz.lays102 s p w hs
def Tryz.lays146_ren : Go.Shelf.Ren := ⟨fun | 146 => 111 | 221 => 154 | 268 => 178 | 138 => 179 | 143 => 140 | 195 => 200 | 197 => 201 | 218 => 202 | 219 => 164 | 260 => 209 | 217 => 190 | 225 => 191 | 224 => 192 | 267 => 193 | 266 => 206 | 314 => 207 | n => n, fun | 9 => 9 | 31 => 37 | 3 => 3 | 4 => 4 | 0 => 0 | 105 => 236 | 21 => 21 | 5 => 5 | 46 => 191 | 119 => 187 | 139 => 190 | 138 => 189 | 146 => 240 | 51 => 106 | n => n, fun | 1 => 2 | 3 => 0 | 4 => 1 | n => n⟩
theorem Tryz.lays146 : Go.Proofs.Lays.n146 Tryz.prog Tryz.lays146_ren := {
  mixed := by kernel_rfl
  f138 := Tryz.func179.trans (congrArg some (by kernel_rfl))
  f143 := Tryz.func140.trans (congrArg some (by kernel_rfl))
  f146 := Tryz.func111.trans (congrArg some (by kernel_rfl))
  f195 := Tryz.func200.trans (congrArg some (by kernel_rfl))
  f197 := Tryz.func201.trans (congrArg some (by kernel_rfl))
  f217 := Tryz.func190.trans (congrArg some (by kernel_rfl))
  f218 := Tryz.func202.trans (congrArg some (by kernel_rfl))
  f219 := Tryz.func164.trans (congrArg some (by kernel_rfl))
  f221 := Tryz.func154.trans (congrArg some (by kernel_rfl))
  f224 := Tryz.func192.trans (congrArg some (by kernel_rfl))
  f225 := Tryz.func191.trans (congrArg some (by kernel_rfl))
  f260 := Tryz.func209.trans (congrArg some (by kernel_rfl))
  f266 := Tryz.func206.trans (congrArg some (by kernel_rfl))
  f267 := Tryz.func193.trans (congrArg some (by kernel_rfl))
  f268 := Tryz.func178.trans (congrArg some (by kernel_rfl))
  f314 := Tryz.func207.trans (congrArg some (by kernel_rfl))
  t0 := Tryz.underlying0
  a0 := Tryz.isAgg0
  z0 := Tryz.sizeOf0
  v0 := Tryz.zeroValue0
  t3 := Tryz.underlying3
  a3 := Tryz.isAgg3
  z3 := Tryz.sizeOf3
  v3 := Tryz.zeroValue3
  t4 := Tryz.underlying4
  a4 := Tryz.isAgg4
  z4 := Tryz.sizeOf4
  v4 := Tryz.zeroValue4
  t5 := Tryz.underlying5
  a5 := Tryz.isAgg5
  z5 := Tryz.sizeOf5
  v5 := Tryz.zeroValue5
  t9 := Tryz.underlying9
  a9 := Tryz.isAgg9
  z9 := Tryz.sizeOf9
  v9 := Tryz.zeroValue9
  t21 := Tryz.underlying21
  a21 := Tryz.isAgg21
  z21 := Tryz.sizeOf21
  v21 := Tryz.zeroValue21
  t31 := Tryz.underlying37
  a31 := Tryz.isAgg37
  z31 := Tryz.sizeOf37
  v31 := Tryz.zeroValue37
  t46 := Tryz.underlying191
  a46 := Tryz.isAgg191
  z46 := Tryz.sizeOf191
  v46 := Tryz.zeroValue191
  t51 := Tryz.underlying106
  a51 := Tryz.isAgg106
  z51 := Tryz.sizeOf106
  v51 := Tryz.zeroValue106
  t105 := Tryz.underlying236
  a105 := Tryz.isAgg236
  z105 := Tryz.sizeOf236
  v105 := Tryz.zeroValue236
  t119 := Tryz.underlying187
  a119 := Tryz.isAgg187
  z119 := Tryz.sizeOf187
  t138 := Tryz.underlying189
  a138 := Tryz.isAgg189
  z138 := Tryz.sizeOf189
  v138 := Tryz.zeroValue189
  t139 := Tryz.underlying190
  a139 := Tryz.isAgg190
  z139 := Tryz.sizeOf190
  v139 := Tryz.zeroValue190
  t146 := Tryz.underlying240
  a146 := Tryz.isAgg240
  z146 := Tryz.sizeOf240
  v146 := Tryz.zeroValue240
  g1 := by kernel_rfl
  g3 := by kernel_rfl
  g4 := by kernel_rfl }
open Go.RowKit Go.Lib in
/-- strings.Split. (LAID: no walk: one application.) -/
theorem Tryz.strings_Split (s sep : ByteArray) (m : Int) (w : World) (hs : s.size < 4294967281) (hm : w.cell? ⟨2, 0, none⟩ = some (.int .i64 m)) (h1 : 1 ≤ sep.size) :
    Calls Tryz.prog 111 #[.string s, .string sep] w fun e w' =>
      e = .returned (.slice (some ⟨w.heap.size, 0, none⟩) (Lib.countB s sep + 1) (Lib.countB s sep + 1)) ∧ w' = w.alloc (.cells ((Lib.splitB sep 0 (Lib.countB s sep) s).map Value.string).toArray 9) := Any.strings_Split Tryz.lays146 (by kernel_rfl) s sep m w hs hm h1
def Tryz.lays193_ren : Go.Shelf.Ren := ⟨fun | 193 => 177 | n => n, fun | 31 => 37 | 9 => 9 | 4 => 4 | 3 => 3 | 0 => 0 | n => n, fun | n => n⟩
theorem Tryz.lays193 : Go.Proofs.Lays.n193 Tryz.prog Tryz.lays193_ren := {
  mixed := by kernel_rfl
  f193 := Tryz.func177.trans (congrArg some (by kernel_rfl))
  t0 := Tryz.underlying0
  a0 := Tryz.isAgg0
  z0 := Tryz.sizeOf0
  v0 := Tryz.zeroValue0
  t3 := Tryz.underlying3
  a3 := Tryz.isAgg3
  z3 := Tryz.sizeOf3
  v3 := Tryz.zeroValue3
  t4 := Tryz.underlying4
  a4 := Tryz.isAgg4
  z4 := Tryz.sizeOf4
  v4 := Tryz.zeroValue4
  t9 := Tryz.underlying9
  a9 := Tryz.isAgg9
  z9 := Tryz.sizeOf9
  v9 := Tryz.zeroValue9
  t31 := Tryz.underlying37
  a31 := Tryz.isAgg37
  z31 := Tryz.sizeOf37
  v31 := Tryz.zeroValue37 }
open Go.RowKit Go.Lib in
/-- slices.Equal at []string: "Equal reports whether two slices are equal: the same length and all elements equal. If the lengths are different, Equal returns false. Otherwise, the elements are compared in increasing index order, and the comparison stops at the first unequal pair. Empty and nil slices are considered equal.": IT RETURNS WHETHER THE TWO LISTS OF ELEMENTS ARE ONE; the world is as it was but for the count of draws (the test 's1[i] != s2[i]' has two reads, whose order the model draws, once a round). 'xs', 'ys': what the cells behind the two addresses hold (the spare capacity too, if you have it); 'xs.take n', 'ys.take m': the elements. THE TWO SLICES MAY OVERLAP. (LAID: no walk: one application.) -/
theorem Tryz.slices_Equal_string (b1 o1 n c b2 o2 m d : Nat) (xs ys : List ByteArray) (w : World) (hx : n ≤ xs.length) (hy : m ≤ ys.length) (hbig : n ≤ 9223372036854775807) (hbig2 : m ≤ 9223372036854775807) (hc1 : ∀ j, j < xs.length → w.cell? ⟨b1, o1 + j, none⟩ = some (.string (xs.getD j ByteArray.empty))) (hc2 : ∀ j, j < ys.length → w.cell? ⟨b2, o2 + j, none⟩ = some (.string (ys.getD j ByteArray.empty))) :
    Calls Tryz.prog 177 #[.slice (some ⟨b1, o1, none⟩) n c, .slice (some ⟨b2, o2, none⟩) m d] w fun e w' => e = .returned (.bool (decide (xs.take n = ys.take m))) ∧ ∃ q, w' = w.drewN q := Any.slices_Equal_string Tryz.lays193 b1 o1 n c b2 o2 m d xs ys w hx hy hbig hbig2 hc1 hc2
open Go.RowKit Go.Lib in
/-- The same where the first is of length 0 (a nil one too): no cell is asked for. (LAID: no walk: one application.) -/
theorem Tryz.slices_Equal_string_empty (a1 a2 : Option Addr) (c m d : Nat) (w : World) (hbig2 : m ≤ 9223372036854775807) :
    Calls Tryz.prog 177 #[.slice a1 0 c, .slice a2 m d] w fun e w' => e = .returned (.bool (decide (m = 0))) ∧ w' = w := Any.slices_Equal_string_empty Tryz.lays193 a1 a2 c m d w hbig2
def Tryz.lays196_ren : Go.Shelf.Ren := ⟨fun | 196 => 97 | 259 => 142 | n => n, fun | 9 => 9 | 4 => 4 | 3 => 3 | 5 => 5 | 12 => 12 | 119 => 187 | 0 => 0 | 46 => 191 | 139 => 190 | 138 => 189 | 53 => 82 | n => n, fun | 3 => 0 | 4 => 1 | n => n⟩
theorem Tryz.lays196 : Go.Proofs.Lays.n196 Tryz.prog Tryz.lays196_ren := {
  mixed := by kernel_rfl
  f196 := Tryz.func97.trans (congrArg some (by kernel_rfl))
  f259 := Tryz.func142.trans (congrArg some (by kernel_rfl))
  t0 := Tryz.underlying0
  a0 := Tryz.isAgg0
  z0 := Tryz.sizeOf0
  v0 := Tryz.zeroValue0
  t3 := Tryz.underlying3
  a3 := Tryz.isAgg3
  z3 := Tryz.sizeOf3
  v3 := Tryz.zeroValue3
  t4 := Tryz.underlying4
  a4 := Tryz.isAgg4
  z4 := Tryz.sizeOf4
  v4 := Tryz.zeroValue4
  t5 := Tryz.underlying5
  a5 := Tryz.isAgg5
  z5 := Tryz.sizeOf5
  v5 := Tryz.zeroValue5
  t9 := Tryz.underlying9
  a9 := Tryz.isAgg9
  z9 := Tryz.sizeOf9
  v9 := Tryz.zeroValue9
  t12 := Tryz.underlying12
  a12 := Tryz.isAgg12
  z12 := Tryz.sizeOf12
  v12 := Tryz.zeroValue12
  t46 := Tryz.underlying191
  a46 := Tryz.isAgg191
  z46 := Tryz.sizeOf191
  v46 := Tryz.zeroValue191
  t53 := Tryz.underlying82
  a53 := Tryz.isAgg82
  z53 := Tryz.sizeOf82
  v53 := Tryz.zeroValue82
  t119 := Tryz.underlying187
  a119 := Tryz.isAgg187
  z119 := Tryz.sizeOf187
  t138 := Tryz.underlying189
  a138 := Tryz.isAgg189
  z138 := Tryz.sizeOf189
  v138 := Tryz.zeroValue189
  t139 := Tryz.underlying190
  a139 := Tryz.isAgg190
  z139 := Tryz.sizeOf190
  v139 := Tryz.zeroValue190
  g3 := by kernel_rfl
  g4 := by kernel_rfl }
open Go.RowKit Go.Lib in
theorem Tryz.utf8_ValidString (s : ByteArray) (w : World) (hs : s.size ≤ 9223372036854775807) (hT : Lib.Utf8Tabs 0 1 w) :
    Calls Tryz.prog 97 #[.string s] w fun e w' => e = .returned (.bool (Lib.validD s.data.toList)) ∧ Below w.heap.size w w' := Any.utf8_ValidString Tryz.lays196 s w hs hT
end Go.Proofs

/- The walk over Name. -/
namespace Go.Proofs.YtoahjhogjjdkhaaGreatDoor
open Go.RowKit Go.PathPure Go.XR

set_option maxHeartbeats 4000000 in
set_option maxRecDepth 100000 in
theorem name_loop (w : World) (hT : Lib.Utf8Tabs 0 1 w) (s : ByteArray) (hs : s.size ≤ 100) (e0 : (s.toList == []) = false) (e2 : (s.toList == [46]) = false) (e3 : (s.toList == [46, 46]) = false) : Calls Tryz.prog 38 #[.string s] w fun e w' => e = .returned (.bool (vscan s s.size 0 && scan s s.size 0)) ∧ Below w.heap.size w w' := by
  have hs2 : ¬ 100 < s.size := by omega
  obtain ⟨ANS, hA⟩ : ∃ A, scan s s.size 0 = A := ⟨_, rfl⟩
  rw [hA, vscan_valid s s.size 0 (by omega), List.drop_zero]
  have HA := Lib.hid hA
  clear hA
  have HT := Lib.hid hT
  clear hT
  go_enter Tryz.func38, Tryz.ntmps38
  go_wp2_with fail
  refine (Tryz.utf8_ValidString s w (by omega) HT.out).mono ?_
  rintro e w1 ⟨rfl, hb1⟩
  have Hb1 := Lib.hid hb1
  clear hb1
  cases hv : Lib.validD s.data.toList with
  | false =>
    have Hv := Lib.hid hv
    clear hv
    go_wp2
    go_ret
    exact ⟨by rw [Hv.out]; rfl, Hb1.out⟩
  | true =>
    have Hv := Lib.hid hv
    clear hv
    go_wp2_with fail
    go_loopg [4] s.size (fun n _ wr => ∃ pos : Nat, Hid (wr = w1.iter s pos) ∧ Hid (scan s n pos = ANS) ∧ s.size - pos ≤ n)
    case atStart => exact ⟨0, rfl, HA.out, by omega⟩
    case round =>
      obtain ⟨pos, hw, hr, hn⟩ := hrel
      cases hw.out
      have Hr := hr
      clear hr hw
      by_cases hp : pos < s.size
      · have hnx := fun ty => run_next_any (P := Tryz.prog) w1 s pos ty hp
        have hle := rune_le s pos
        have hwd := decode_pos s pos
        obtain ⟨n', rfl⟩ : ∃ n', gk = n' + 1 := ⟨gk - 1, by omega⟩
        have hr2 := Hr.out
        unfold scan at hr2
        rw [if_pos hp] at hr2
        have Hr := Lib.hid hr2
        clear hr2
        generalize (Utf8.decode s pos).1 = r at *
        generalize (Utf8.decode s pos).2 = wd at *
        go_wp2_with fail
        refine (bad_any _ r hle).mono ?_
        rintro e w2 ⟨rfl, rfl⟩
        cases hb : badR r with
        | true =>
          have E : Hid ((!badR r && scan s n' (pos + wd)) = false) := by unfold Hid; rw [hb]; rfl
          clear hb
          go_wp2
          go_ret
          exact ⟨by rw [← Hr.out, E.out, Hv.out]; rfl, Hb1.out.alloc Hb1.out.size _⟩
        | false =>
          have E : Hid (badR r = false) := hb
          clear hb
          go_wp2
          go_roundg n'
          case measure => omega
          case rel => exact ⟨pos + wd, rfl, by unfold Hid; rw [← Hr.out, E.out, Bool.not_false, Bool.true_and], by omega⟩
      · have hnx := fun ty => run_next_end (P := Tryz.prog) w1 s pos ty hp
        have E : Hid (scan s gk pos = true) := by
          unfold Hid
          cases gk with
          | zero => rfl
          | succ k => unfold scan; rw [if_neg hp]
        go_wp2
        go_ret
        exact ⟨by rw [← Hr.out, E.out, Hv.out]; rfl, Hb1.out.alloc Hb1.out.size _⟩

set_option maxHeartbeats 2000000 in
set_option maxRecDepth 100000 in
theorem name_any (w : World) (hT : Lib.Utf8Tabs 0 1 w) (s : ByteArray) : Calls Tryz.prog 38 #[.string s] w fun e w' => e = .returned (.bool (isName s)) ∧ Below w.heap.size w w' := by
  cases e0 : s.toList == [] with
  | true =>
    have E : Hid (isName s = false) := by unfold Hid isName; rw [e0]; rfl
    clear hT
    go_enter Tryz.func38, Tryz.ntmps38
    go_wp2
    go_ret
    exact ⟨by rw [E.out]; rfl, Below.refl _ _⟩
  | false =>
    cases e2 : s.toList == [46] with
    | true =>
      have E : Hid (isName s = false) := by unfold Hid isName; rw [e2]; simp
      clear hT
      go_enter Tryz.func38, Tryz.ntmps38
      go_wp2
      go_ret
      exact ⟨by rw [E.out]; rfl, Below.refl _ _⟩
    | false =>
      cases e3 : s.toList == [46, 46] with
      | true =>
        have E : Hid (isName s = false) := by unfold Hid isName; rw [e3]; simp
        clear hT
        go_enter Tryz.func38, Tryz.ntmps38
        go_wp2
        go_ret
        exact ⟨by rw [E.out]; rfl, Below.refl _ _⟩
      | false =>
        by_cases e1 : 100 < s.size
        · have E : Hid (isName s = false) := by unfold Hid isName; rw [decide_eq_false (by omega : ¬ s.size ≤ 100)]; simp
          have c1 : decide (100 < s.size) = true := decide_eq_true e1
          clear hT
          go_enter Tryz.func38, Tryz.ntmps38
          go_wp2
          go_ret
          exact ⟨by rw [E.out]; rfl, Below.refl _ _⟩
        · rw [isName_of e0 e2 e3 (by omega)]
          exact name_loop w hT s (by omega) e0 e2 e3
end Go.Proofs.YtoahjhogjjdkhaaGreatDoor

/- What a path's names are: plain. -/
namespace Go.PathPure
open Go.Lib

def B (l : List UInt8) : ByteArray := ⟨l.toArray⟩
theorem B_data (l : List UInt8) : (B l).data.toList = l := by simp [B]
theorem B_eta (s : ByteArray) : B s.data.toList = s := by cases s; simp [B]

/-- what stands between the strokes -/
def pieces : List UInt8 → List (List UInt8)
  | [] => [[]]
  | b :: l => if b = 47 then [] :: pieces l else match pieces l with
    | p :: ps => (b :: p) :: ps
    | [] => [[b]]

theorem pieces_ne : ∀ l, pieces l ≠ []
  | [] => by simp [pieces]
  | b :: l => by
    unfold pieces
    split
    · simp
    · split <;> simp

theorem pieces_none : ∀ {l : List UInt8}, 47 ∉ l → pieces l = [l]
  | [], _ => rfl
  | b :: l, h => by
    have h1 : b ≠ 47 := fun e => h (by simp [e])
    have h2 := pieces_none (l := l) fun e => h (by simp [e])
    unfold pieces
    rw [if_neg h1, h2]

theorem pieces_hit : ∀ {a : List UInt8} (b : List UInt8), 47 ∉ a → pieces (a ++ 47 :: b) = a :: pieces b
  | [], b, _ => by simp [pieces]
  | x :: a, b, h => by
    have h1 : x ≠ 47 := fun e => h (by simp [e])
    have h2 := pieces_hit (a := a) b fun e => h (by simp [e])
    rw [List.cons_append]
    conv => lhs; unfold pieces
    rw [if_neg h1, h2]

theorem split_pieces : ∀ (k : Nat) (l : List UInt8), l.count 47 = k → splitK [47] 0 k l = pieces l
  | 0, l, h => by
    rw [pieces_none (List.count_eq_zero.1 h)]; rfl
  | k + 1, l, h => by
    have hm : (47 : UInt8) ∈ l := List.count_pos_iff.1 (by omega)
    have hi := index_one l 47
    have hne : indexByte l 47 ≠ -1 := fun e => by
      obtain ⟨j, hj⟩ := List.mem_iff_getElem?.1 hm
      exact indexByte_none e j hj
    have hge := indexByte_ge l 47
    obtain ⟨i, hi2⟩ : ∃ i : Nat, indexByte l 47 = i := ⟨(indexByte l 47).toNat, by omega⟩
    obtain ⟨h1, h2⟩ := indexByte_some hi2
    have hlt : i < l.length := (List.getElem?_eq_some_iff.1 h1).1
    have hsp : l = l.take i ++ 47 :: l.drop (i + 1) := by
      have := List.take_append_drop i l
      rw [List.drop_eq_getElem_cons hlt, (List.getElem?_eq_some_iff.1 h1).2] at this
      exact this.symm
    have hno : (47 : UInt8) ∉ l.take i := fun e => by
      obtain ⟨j, hj⟩ := List.mem_iff_getElem?.1 e
      rw [List.getElem?_take] at hj
      split at hj
      · rename_i c; exact h2 j c hj
      · cases hj
    have hc : (l.drop (i + 1)).count 47 = k := by
      have := congrArg (List.count 47) hsp
      rw [List.count_append, List.count_cons, List.count_eq_zero.2 hno, h] at this
      simp at this; omega
    have hidx : (index l [47] == -1) = false := by rw [hi, hi2]; rw [beq_eq_false_iff_ne]; omega
    conv => rhs; rw [hsp, pieces_hit _ hno]
    unfold splitK
    rw [hidx, if_neg (by simp), hi, hi2]
    have e : ((i : Int)).toNat = i := by omega
    rw [e]
    show l.take (i + 0) :: splitK [47] 0 k (l.drop (i + [(47 : UInt8)].length)) = _
    rw [Nat.add_zero]
    show _ :: splitK [47] 0 k (l.drop (i + 1)) = _
    rw [split_pieces k _ hc]

theorem split_B (s : ByteArray) : (splitB (B [47]) 0 (countB s (B [47])) s) = (pieces s.data.toList).map B := by
  have h := splitB_data (B [47]) 0 (countB s (B [47])) s
  have hc : countB s (B [47]) = s.data.toList.count 47 := by
    show count s.data.toList (B [47]).data.toList = _
    rw [B_data, count_one]
  rw [B_data, split_pieces _ _ hc.symm] at h
  have := congrArg (List.map B) h
  rw [List.map_map] at this
  have e : (B ∘ fun x : ByteArray => x.data.toList) = id := by funext x; exact B_eta x
  rw [e, List.map_id] at this
  exact this

end Go.PathPure

/- The walks over IndexFunc and ContainsFunc with names' closure, names, Parse. -/
namespace Go.Proofs.YtoahjhogjjdkhaaGreatDoor
open Go.RowKit Go.PathPure Go.XR

def strs (l : List ByteArray) : List Value := l.map Value.string
theorem strs_get {l : List ByteArray} {i : Nat} (h : i < l.length) : (strs l)[i]? = some (.string l[i]) := by simp [strs, h]
theorem str_at {w : World} {a : Option Addr} {l : List ByteArray} (h : Row w a (strs l)) {i : Nat} (hi : i < l.length) : ∃ g o, a = some ⟨g, o, none⟩ ∧ w.cell? ⟨g, o + i, none⟩ = some (.string l[i]) := h.get (strs_get hi)

theorem not_any (w : World) (hT : Lib.Utf8Tabs 0 1 w) (s : ByteArray) : Calls Tryz.prog 156 #[.string s] w fun e w' => e = .returned (.bool (!isName s)) ∧ Below w.heap.size w w' := by
  have HT := Lib.hid hT
  clear hT
  go_enter Tryz.func156, Tryz.ntmps156
  go_wp2_with fail
  refine (name_any _ HT.out s).mono ?_
  rintro e w1 ⟨rfl, hb⟩
  go_wp2
  go_ret
  exact ⟨rfl, hb⟩

def RetIdx (w : World) (l : List ByteArray) (e : Ending) (w' : World) : Prop := ∃ r : Int, e = .returned (.int .i64 r) ∧ decide (0 ≤ r) = (!l.all isName) ∧ Below w.heap.size w w'

set_option maxHeartbeats 1000000 in
set_option maxRecDepth 100000 in
theorem index_any (w : World) (hT : Lib.Utf8Tabs 0 1 w) (a : Option Addr) (c : Nat) (l : List ByteArray) (hL : Row w a (strs l)) (hl : l.length < 2^40) :
    Calls Tryz.prog 180 #[.slice a l.length c, .func (.func 156) #[] #[]] w (RetIdx w l) := by
  have HL := Lib.hid hL
  have HT := Lib.hid hT
  clear hL hT
  go_enter Tryz.func180, Tryz.ntmps180
  go_wp2
  go_loopg [8, 5] l.length (fun n i _ wr => Below w.heap.size w wr ∧ ∃ k : Nat, k ≤ l.length ∧ i = .int .i64 k ∧ Hid (n = l.length - k ∧ (l.take k).all isName = true))
  case atStart => exact ⟨Below.refl _ _, 0, Nat.zero_le _, rfl, rfl, rfl⟩
  case round =>
    obtain ⟨hb, k, hk, rfl, hn⟩ := hrel
    by_cases hlt : k < l.length
    · obtain ⟨g, o, rfl, c0⟩ := str_at (HL.out.below hb) hlt
      have Hb := Lib.hid hb
      have hi1 : (k : Int) < (l.length : Int) := by omega
      clear hb
      go_wp2_with fail
      refine (not_any _ (Go.Proofs.Utf8Tabs_below HT.out Hb.out) l[k]).mono ?_
      rintro e w1 ⟨rfl, hb1⟩
      have Hb1 := Lib.hid (Hb.out.trans (hb1.mono Hb.out.size))
      clear hb1
      cases hv : isName l[k] with
      | false =>
        have Hv := Lib.hid hv
        clear hv c0
        go_wp2
        go_ret
        refine ⟨k, rfl, ?_, Hb1.out⟩
        rw [decide_eq_true (by omega)]
        have : l.all isName = false := by
          rw [Bool.eq_false_iff]; intro h
          have := List.all_eq_true.1 h l[k] (List.getElem_mem hlt)
          rw [Hv.out] at this; cases this
        rw [this]; rfl
      | true =>
        have Hv := Lib.hid hv
        clear hv c0
        go_wp2
        go_roundg (l.length - (k + 1))
        case measure => have := hn.out.1; omega
        case rel =>
          refine ⟨Hb1.out, k + 1, by omega, by go_num, rfl, ?_⟩
          rw [List.take_succ_eq_append_getElem hlt, List.all_append, hn.out.2]; simp [Hv.out]
    · have hge : ¬ (k : Int) < (l.length : Int) := by omega
      have Hb := Lib.hid hb
      clear hb
      go_wp2
      go_ret
      refine ⟨-1, rfl, ?_, Hb.out⟩
      have := hn.out.2
      rw [List.take_of_length_le (by omega)] at this
      rw [this]; rfl

theorem contains_any (w : World) (hT : Lib.Utf8Tabs 0 1 w) (a : Option Addr) (c : Nat) (l : List ByteArray) (hL : Row w a (strs l)) (hl : l.length < 2^40) :
    Calls Tryz.prog 155 #[.slice a l.length c, .func (.func 156) #[] #[]] w fun e w' => e = .returned (.bool (!l.all isName)) ∧ Below w.heap.size w w' := by
  have HL := Lib.hid hL
  have HT := Lib.hid hT
  clear hL hT
  go_enter Tryz.func155, Tryz.ntmps155
  go_wp2_with fail
  refine (index_any _ HT.out a c l HL.out hl).mono ?_
  rintro e w1 ⟨r, rfl, hr, hb⟩
  have Hr := Lib.hid hr
  clear hr
  go_wp2
  go_ret
  exact ⟨by rw [← Hr.out]; rfl, hb⟩

def okNames (l : List ByteArray) : Bool := decide (l.length ≤ 16) && l.all isName
theorem names_any (w : World) (hT : Lib.Utf8Tabs 0 1 w) (a : Option Addr) (c : Nat) (l : List ByteArray) (hL : Row w a (strs l)) (hl : l.length < 2^40) :
    Calls Tryz.prog 112 #[.slice a l.length c] w fun e w' => e = .returned (.bool (okNames l)) ∧ Below w.heap.size w w' := by
  have HL := Lib.hid hL
  have HT := Lib.hid hT
  clear hL hT
  by_cases h : l.length ≤ 16
  · have hd : decide (l.length ≤ 16) = true := decide_eq_true h
    have hd2 : decide ((l.length : Int) ≤ 16) = true := decide_eq_true (by omega)
    have E : Hid (okNames l = l.all isName) := by unfold Hid okNames; rw [hd]; rfl
    clear h
    go_enter Tryz.func112, Tryz.ntmps112
    go_wp2_with fail
    refine (contains_any _ HT.out a c l HL.out hl).mono ?_
    rintro e w1 ⟨rfl, hb⟩
    go_wp2
    go_ret
    refine ⟨?_, hb⟩
    rw [E.out]
    cases l.all isName <;> rfl
  · have hd : decide (l.length ≤ 16) = false := decide_eq_false h
    have hd2 : decide ((l.length : Int) ≤ 16) = false := decide_eq_false (by omega)
    have E : Hid (okNames l = false) := by unfold Hid okNames; rw [hd]; rfl
    clear h
    go_enter Tryz.func112, Tryz.ntmps112
    go_wp2
    go_ret
    exact ⟨by rw [E.out]; rfl, Below.refl _ _⟩
end Go.Proofs.YtoahjhogjjdkhaaGreatDoor

/- The walk over Parse. -/
namespace Go.Proofs.YtoahjhogjjdkhaaGreatDoor
open Go.RowKit Go.PathPure Go.XR

/-- what the library's functions read of the world -/
structure Env (w : World) : Prop where
  tabs : Lib.Utf8Tabs 0 1 w
  max : ∃ m : Int, w.cell? ⟨2, 0, none⟩ = some (.int .i64 m)
theorem Env.below {w w' : World} (h : Env w) (hb : Below w.heap.size w w') : Env w' := by
  obtain ⟨h1, m, h2⟩ := h
  exact ⟨Go.Proofs.Utf8Tabs_below h1 hb, m, by rw [hb.cell (cell_lt h2)]; exact h2⟩

def isP (s : ByteArray) : Bool := Lib.hasPrefix s.data.toList [47]
def rest (s : ByteArray) : ByteArray := B (Lib.trimPrefix s.data.toList [47])

theorem cut_any (w : World) (s : ByteArray) : Calls Tryz.prog 110 #[.string s, .string ⟨#[47]⟩] w fun e w' => e = .returned (.tuple #[.string (rest s), .bool (isP s)]) ∧ w = w' :=
  (Tryz.strings_CutPrefix s ⟨#[47]⟩ w).mono fun e w' h => ⟨h.1, h.2.symm⟩
theorem rest_size (s : ByteArray) : (rest s).size ≤ s.size := by
  have h1 : (rest s).size = (Lib.trimPrefix s.data.toList [47]).length := rfl
  have h2 : s.size = s.data.toList.length := (Array.length_toList (xs := s.data)).symm
  rw [h1, h2]
  unfold Lib.trimPrefix
  split
  · rw [List.length_drop]; omega
  · exact Nat.le_refl _

theorem pieces_length : ∀ l : List UInt8, (pieces l).length = l.count 47 + 1
  | [] => rfl
  | b :: l => by
    have ih := pieces_length l
    by_cases c : b = 47
    · subst c
      unfold pieces
      rw [if_pos rfl, List.length_cons, ih, List.count_cons_self]
    · have hne := pieces_ne l
      unfold pieces
      rw [if_neg c, List.count_cons_of_ne c]
      cases hp : pieces l with
      | nil => exact absurd hp hne
      | cons p ps => rw [hp] at ih; simpa using ih

def names (s : ByteArray) : List ByteArray := (pieces s.data.toList).map B

theorem split_any (w : World) (hE : Env w) (s : ByteArray) (hs : s.size ≤ 2^30) : Calls Tryz.prog 111 #[.string s, .string ⟨#[47]⟩] w fun e w' => e = .returned (.slice (some ⟨w.heap.size, 0, none⟩) (names s).length (names s).length) ∧ w' = w.alloc (.cells (strs (names s)).toArray 9) := by
  obtain ⟨_, m, hm⟩ := hE
  have h := Tryz.strings_Split s ⟨#[47]⟩ m w (by omega) hm (by decide)
  have e1 : Lib.splitB ⟨#[47]⟩ 0 (Lib.countB s ⟨#[47]⟩) s = names s := split_B s
  have e2 : Lib.countB s ⟨#[47]⟩ + 1 = (names s).length := by
    show Lib.count s.data.toList [47] + 1 = _
    rw [Lib.count_one, names, List.length_map, pieces_length]
  rw [e1, e2] at h
  exact h

/-- a path's names, if it is one -/
def parse (s : ByteArray) : Option (List ByteArray) :=
  if isP s then (if ((rest s).toList == []) then some [] else if okNames (names (rest s)) then some (names (rest s)) else none) else none

def RetParse (w : World) (s : ByteArray) (e : Ending) (w' : World) : Prop := ∃ a c, e = .returned (.tuple #[.slice a ((parse s).getD []).length c, .int .i64 (if (parse s).isSome then 0 else 170)]) ∧ Row w' a (strs ((parse s).getD [])) ∧ ((parse s).getD []).length ≤ c ∧ (c ≠ 0 → ∃ g o, a = some ⟨g, o, none⟩) ∧ Below w.heap.size w w'

theorem names_length (s : ByteArray) : (names s).length ≤ s.size + 1 := by
  rw [names, List.length_map, pieces_length]
  have := List.count_le_length (a := (47 : UInt8)) (l := s.data.toList)
  have h2 : s.size = s.data.toList.length := (Array.length_toList (xs := s.data)).symm
  omega

set_option maxHeartbeats 2000000 in
set_option maxRecDepth 100000 in
theorem parse_any (w : World) (hE : Env w) (s : ByteArray) (hs : s.size ≤ 2^30) : Calls Tryz.prog 56 #[.string s] w (RetParse w s) := by
  have HE := Lib.hid hE
  clear hE
  have hrs := rest_size s
  have hnl := names_length (rest s)
  cases hp : isP s with
  | true =>
    cases hr : (rest s).toList == [] with
    | true =>
      have E : Hid (parse s = some []) := by unfold Hid parse; rw [hp, hr]; rfl
      have Hp := Lib.hid hp
      clear hp
      go_enter Tryz.func56, Tryz.ntmps56
      go_wp2_with fail
      refine (cut_any _ s).mono ?_
      rintro e w1 ⟨rfl, rfl⟩
      rw [Hp.out]
      go_wp2
      go_ret2
      unfold RetParse
      rw [E.out]
      exact ⟨none, 0, rfl, .inl rfl, Nat.le_refl _, fun h => absurd rfl h, Below.refl _ _⟩
    | false =>
      have E : Hid (parse s = if okNames (names (rest s)) then some (names (rest s)) else none) := by unfold Hid parse; rw [hp, hr]; rfl
      have Hp := Lib.hid hp
      clear hp
      go_enter Tryz.func56, Tryz.ntmps56
      go_wp2_with fail
      refine (cut_any _ s).mono ?_
      rintro e w1 ⟨rfl, rfl⟩
      rw [Hp.out]
      go_wp2_with fail
      refine (split_any _ HE.out (rest s) (by omega)).mono ?_
      rintro e w1 ⟨rfl, rfl⟩
      generalize hL : names (rest s) = L at *
      go_wp2_with fail
      refine (names_any _ (HE.out.below ((Below.refl _ _).alloc (Nat.le_refl _) _)).tabs (some ⟨w.heap.size, 0, none⟩) L.length L (Row.new _ _ _) (by omega)).mono ?_
      rintro e w2 ⟨rfl, hb2⟩
      have Hrow : Hid (Row w2 (some ⟨w.heap.size, 0, none⟩) (strs L)) := Row.below hb2 (Row.new _ _ _)
      have Hb2 := Lib.hid (((Below.refl w.heap.size w).alloc (Nat.le_refl _) _).trans (hb2.mono (by simp)))
      clear hb2
      cases ho : okNames L with
      | true =>
        have Ho := Lib.hid ho
        clear ho
        go_wp2
        go_ret2
        unfold RetParse
        rw [E.out, Ho.out]
        exact ⟨_, L.length, rfl, Hrow.out, Nat.le_refl _, fun _ => ⟨_, _, rfl⟩, Hb2.out⟩
      | false =>
        have Ho := Lib.hid ho
        clear ho
        go_wp2
        go_ret2
        unfold RetParse
        rw [E.out, Ho.out]
        exact ⟨none, 0, rfl, .inl rfl, Nat.le_refl _, fun h => absurd rfl h, Hb2.out⟩
  | false =>
    have E : Hid (parse s = none) := by unfold Hid parse; rw [hp]; rfl
    have Hp := Lib.hid hp
    clear hp
    go_enter Tryz.func56, Tryz.ntmps56
    go_wp2_with fail
    refine (cut_any _ s).mono ?_
    rintro e w1 ⟨rfl, rfl⟩
    rw [Hp.out]
    go_wp2_with fail
    refine (split_any _ HE.out (rest s) (by omega)).mono ?_
    rintro e w1 ⟨rfl, rfl⟩
    generalize hL : names (rest s) = L at *
    go_wp2
    go_ret2
    unfold RetParse
    rw [E.out]
    exact ⟨none, 0, rfl, .inl rfl, Nat.le_refl _, fun h => absurd rfl h, (Below.refl _ _).alloc (Nat.le_refl _) _⟩
end Go.Proofs.YtoahjhogjjdkhaaGreatDoor

/- The reference's Parse, piece by piece: plain. -/
namespace Go.Proofs.YtoahjhogjjdkhaaGreatDoor
open Go.PathPure

def chk (d : List ByteArray) : List ByteArray → Option (List ByteArray)
  | [] => some d
  | p :: ps => if isName p && !(d.length == 16) then chk (d ++ [p]) ps else none

theorem chk_eq : ∀ (ps d : List ByteArray), d.length ≤ 16 → chk d ps = if decide (d.length + ps.length ≤ 16) && ps.all isName then some (d ++ ps) else none
  | [], d, h => by simp [chk, h]
  | p :: ps, d, h => by
    unfold chk
    by_cases hn : isName p = true
    · by_cases hl : d.length = 16
      · rw [hl]; simp; omega
      · have : (d.length == 16) = false := by rw [beq_eq_false_iff_ne]; exact hl
        rw [hn, this]
        simp only [Bool.not_false, Bool.and_self, if_true]
        rw [chk_eq ps (d ++ [p]) (by simp; omega)]
        simp only [List.length_append, List.length_cons, List.length_nil, List.all_cons, hn, Bool.true_and, List.append_assoc, List.singleton_append]
        rw [show d.length + (0 + 1) + ps.length = d.length + (ps.length + 1) by omega]
    · have hn' : isName p = false := by simpa using hn
      simp [hn']

theorem chk_names (ps : List ByteArray) : chk [] ps = if okNames ps then some ps else none := by
  rw [chk_eq ps [] (by simp)]
  simp [okNames]

/-- at a stroke, or at the end, a piece is whole -/
theorem piece_mid {l : List UInt8} {f i : Nat} (hf : f ≤ i) (hi : l[i]? = some 47) (hno : (47 : UInt8) ∉ (l.drop f).take (i - f)) : pieces (l.drop f) = (l.drop f).take (i - f) :: pieces (l.drop (i + 1)) := by
  have hlt : i < l.length := (List.getElem?_eq_some_iff.1 hi).1
  have h1 : l.drop f = (l.drop f).take (i - f) ++ 47 :: l.drop (i + 1) := by
    have h2 := List.take_append_drop (i - f) (l.drop f)
    rw [List.drop_drop, show f + (i - f) = i by omega, List.drop_eq_getElem_cons hlt, (List.getElem?_eq_some_iff.1 hi).2] at h2
    exact h2.symm
  conv => lhs; rw [h1]
  exact pieces_hit _ hno
theorem piece_end {l : List UInt8} {f : Nat} (hno : (47 : UInt8) ∉ (l.drop f).take (l.length - f)) : pieces (l.drop f) = [(l.drop f).take (l.length - f)] := by
  have : (l.drop f).take (l.length - f) = l.drop f := List.take_of_length_le (by rw [List.length_drop]; omega)
  rw [this] at hno ⊢
  exact pieces_none hno
theorem no_step {l : List UInt8} {f i : Nat} (hf : f ≤ i) {b : UInt8} (hi : l[i]? = some b) (hb : b ≠ 47) (hno : (47 : UInt8) ∉ (l.drop f).take (i - f)) : (47 : UInt8) ∉ (l.drop f).take (i + 1 - f) := by
  have hlt : i - f < (l.drop f).length := by rw [List.length_drop]; have := (List.getElem?_eq_some_iff.1 hi).1; omega
  rw [show i + 1 - f = (i - f) + 1 by omega, List.take_succ_eq_append_getElem hlt]
  intro h
  rcases List.mem_append.1 h with h | h
  · exact hno h
  · have h1 : (l.drop f)[i - f]? = some b := by rw [List.getElem?_drop, show f + (i - f) = i by omega]; exact hi
    have h2 := (List.getElem?_eq_some_iff.1 h1).2
    rw [List.mem_singleton, h2] at h
    exact hb h.symm

theorem extract_B (s : ByteArray) (f i : Nat) : s.extract f i = B ((s.data.toList.drop f).take (i - f)) := by
  rw [← B_eta (s.extract f i)]
  congr 1
  rw [ByteArray.data_extract, Array.toList_extract, List.extract_eq_take_drop]
end Go.Proofs.YtoahjhogjjdkhaaGreatDoor

/- append of whatever slice onto a row of the call's own. -/
namespace Go.XR
/-- append of whatever slice onto a row of the call's own -/
theorem wp_append_src {P : Program} {w : World} {A : Act} {K : Act → World → Prop} {Q : Exit → Act → World → Prop} {dst : Option Tmp} {s x : Operand} {t ty : TypeId} {pos : String} {after : Array Edge} {guard : Option (Nat × Bool)}
    (base : Nat) (e : TypeId) (i : TypeInfo) (z : Value) (size bytes : Nat) (ht : P.underlying t = some (.slice e)) (hi : P.info? e = some i) (hz : i.zero = some z)
    (hsize : i.size = size) (hby : i.bytes = bytes) (hzs : z.cells.size = size) (hsz : 0 < size)
    (so : Option Addr) (n sc : Nat) (xs : List Value) (hs : A.eval s = .slice so n sc) (hown : w.ownsRow base e size (.slice so n sc) n xs)
    (xo : Option Addr) (m c : Nat) (news : List Value) (hx : A.eval x = .slice xo m c) (hl : news.length = m * size) (hrow : Row w xo news) (hnil : xo = none → m = 0 ∧ c = 0) (h1 : ∀ u ∈ news, u.oneCell' = true)
    (h63 : n + m ≤ maxLen) (hbytes : (n + m) * bytes ≤ 140737488355328) (hbase : base ≤ w.heap.size)
    (h : ∀ a' c' w', w'.ownsRow base e size (.slice a' (n + m) c') (n + m) (xs ++ news) → w.grownBy w' (Value.ownBlock (.slice so n sc)) → (a' = none ↔ so = none ∧ m = 0) →
      Oper.wp P ⟨dst, .move (.const (.slice a' (n + m) c')), ty, "", #[], none⟩ A w' K (fun _ _ _ => False)) :
    Oper.wp P ⟨dst, .call { callee := .builtin .append, args := #[s, x], argTypes := #[t, t] }, ty, pos, after, guard⟩ A w K Q := by
  cases xo with
  | some ad =>
    refine wp_append_own w s x t rfl base e i z size bytes ht hi hz hsize hby hzs hsz _ n xs hs hown ad m c news hx hl ?_ h1 h63 hbytes hbase ?_
    · intro j u hj
      rcases hrow with rfl | ⟨g, o, ha, hr⟩
      · simp at hj
      · cases ha
        have := hr j u hj
        have hadd : (⟨g, o, none⟩ : Addr).add j = ⟨g, o + j, none⟩ := by unfold Addr.add; split <;> simp_all
        rwa [hadd]
    · intro v' w' h2 h3 h4
      obtain ⟨a', c', rfl⟩ := ownsRow_shape h2
      have hnn : a' = none ↔ so = none ∧ m = 0 := by
        constructor
        · rintro rfl
          have h0 : n + m = 0 ∧ c' = 0 := by
            rcases h2.2 with ⟨h5, h6⟩ | ⟨g, cap, cur, h5, _⟩
            · injection h5 with _ _ h7; exact ⟨h6, h7⟩
            · injection h5 with h7; cases h7
          have h5 := h4.1 (by rw [h0.1, h0.2])
          have h6 := h5.1
          injection h6 with h7
          exact ⟨h7, h5.2⟩
        · rintro ⟨rfl, rfl⟩
          have hn0 : n = 0 ∧ sc = 0 := by
            rcases hown.2 with ⟨h5, h6⟩ | ⟨g, cap, cur, h5, _⟩
            · injection h5 with _ _ h7; exact ⟨h6, h7⟩
            · injection h5 with h7; cases h7
          have h6 := h4.2 ⟨by rw [hn0.1, hn0.2], rfl⟩
          injection h6
      have := h a' c' w' h2 h3 hnn
      simpa [Oper.wp, execOp, Oper.upon, Act.eval] using this
  | none =>
    obtain ⟨rfl, rfl⟩ := hnil rfl
    have hn : news = [] := List.eq_nil_of_length_eq_zero (by simpa using hl)
    subst hn
    have hr := run_append_owned_none (P := P) w base t ty e i size ht hi (.slice so n sc) n xs hown
    have := h so sc w (by simpa using hown) ⟨rfl, rfl, rfl, Nat.le_refl _, fun _ _ _ => rfl⟩ (by simp)
    unfold Oper.wp execOp at this ⊢
    simp only [resolve, invoke, builtin, Sem.run_bind, Sem.run_pure, Result.andThen_ok, List.map_toArray, List.map_cons, List.map_nil, hs, hx, hr]
    simpa [Oper.upon, Act.eval] using this

/-- the walk stops here -/
theorem stop {p : Prop} (h : ∀ X : Prop, RowKit.Hid (p → X) → X) : p := h p id

theorem grown_below {w w' : World} {base n c : Nat} {so : Option Addr} {e : TypeId} {size : Nat} {xs : List Value} (hg : w.grownBy w' (Value.ownBlock (.slice so n c))) (hown : w.ownsRow base e size (.slice so n c) n xs) (hb : base ≤ w.heap.size) : RowKit.Below base w w' :=
  (RowKit.Below.refl base w).grown hg hb fun k hk => (hown.lt k hk).1
end Go.XR

/- The walk over the reference's Parse. -/
namespace Go.Proofs.YtoahjhogjjdkhaaGreatDoor
open Go.RowKit Go.PathPure Go.XR

theorem Tryz.info9p : (Tryz.prog.info? 9).map (fun i => (i.zero, i.size, i.bytes)) = some (some (.string ⟨#[]⟩), 1, 16) := by kernel_rfl
theorem Tryz.sl37 : Tryz.prog.underlying 37 = some (.slice 9) := by kernel_rfl

theorem info_parts {P : Program} {t : TypeId} {z : Value} {n b : Nat} (h : (P.info? t).map (fun i => (i.zero, i.size, i.bytes)) = some (some z, n, b)) : ∃ i, P.info? t = some i ∧ i.zero = some z ∧ i.size = n ∧ i.bytes = b := by
  cases hi : P.info? t with
  | none => rw [hi] at h; cases h
  | some i => rw [hi] at h; simp at h; exact ⟨i, rfl, h.1, h.2.1, h.2.2⟩

theorem owns_le {w : World} {base : Nat} {e : TypeId} {size : Nat} {a : Option Addr} {n c : Nat} {xs : List Value} (h : w.ownsRow base e size (.slice a n c) n xs) : n ≤ c := by
  rcases h.2 with ⟨h1, h2⟩ | ⟨g, cap, cur, h1, h2, h3, h4, h5, h6, h7⟩
  · omega
  · cases h1; omega

theorem owns_some {w : World} {base : Nat} {e : TypeId} {size : Nat} {a : Option Addr} {n c : Nat} {xs : List Value} (h : w.ownsRow base e size (.slice a n c) n xs) (hc : c ≠ 0) : ∃ g o, a = some ⟨g, o, none⟩ := by
  rcases h.2 with ⟨h1, h2⟩ | ⟨g, cap, cur, h1, h2, h3, h4, h5, h6, h7⟩
  · injection h1 with _ _ h3; exact absurd h3 hc
  · injection h1 with h3; exact ⟨g, 0, h3⟩
theorem owns_below {w w' : World} {base : Nat} {e : TypeId} {size : Nat} {v : Value} {n : Nat} {xs : List Value} (h : w.ownsRow base e size v n xs) (hb : Below w.heap.size w w') : w'.ownsRow base e size v n xs := by
  refine ⟨h.1, ?_⟩
  rcases h.2 with h2 | ⟨g, cap, cur, h1, h2, h3, h4⟩
  · exact .inl h2
  · exact .inr ⟨g, cap, cur, h1, h2, (hb.block g (Array.getElem?_eq_some_iff.1 h3).1).trans h3, h4⟩

/-- append of texts onto texts of the call's own -/
theorem append_strs {w : World} {A : Act} {K : Act → World → Prop} {Q : Exit → Act → World → Prop} {dst : Option Tmp} {s x : Operand} {pos : String} {after : Array Edge} {guard : Option (Nat × Bool)}
    (base : Nat) (so : Option Addr) (sc : Nat) (l : List ByteArray) (hs : A.eval s = .slice so l.length sc) (hown : w.ownsRow base 9 1 (.slice so l.length sc) l.length (strs l))
    (xo : Option Addr) (c : Nat) (m : List ByteArray) (hx : A.eval x = .slice xo m.length c) (hrow : Row w xo (strs m)) (hnil : xo = none → m.length = 0 ∧ c = 0) (hlen : l.length + m.length < 2^42) (hbase : base ≤ w.heap.size)
    (h : ∀ a' c' w', w'.ownsRow base 9 1 (.slice a' (l ++ m).length c') (l ++ m).length (strs (l ++ m)) → Below base w w' →
      Oper.wp Tryz.prog ⟨dst, .move (.const (.slice a' (l ++ m).length c')), 37, "", #[], none⟩ A w' K (fun _ _ _ => False)) :
    Oper.wp Tryz.prog ⟨dst, .call { callee := .builtin .append, args := #[s, x], argTypes := #[37, 37] }, 37, pos, after, guard⟩ A w K Q := by
  obtain ⟨i0, hi, hz0, hz1, hz2⟩ := info_parts Tryz.info9p
  refine wp_append_src base 9 i0 (.string ⟨#[]⟩) 1 16 Tryz.sl37 hi hz0 hz1 hz2 rfl (by decide) so l.length sc (strs l) hs hown xo m.length c (strs m) hx (by simp [strs]) hrow hnil (by intro u hu; simp only [strs, List.mem_map] at hu; obtain ⟨b, _, rfl⟩ := hu; rfl) (by unfold maxLen; omega) (by omega) hbase ?_
  intro a' c' w' ho hg hn
  have e : (l ++ m).length = l.length + m.length := List.length_append
  have := h a' c' w' (by rw [e, show strs (l ++ m) = strs l ++ strs m from List.map_append]; exact ho) (grown_below hg hown hbase)
  rw [e] at this
  exact this

def RetOpt (w : World) (r : Option (List ByteArray)) (e : Ending) (w' : World) : Prop := ∃ a c, e = .returned (.tuple #[.slice a (r.getD []).length c, .int .i64 (if r.isSome then 0 else 170)]) ∧ Row w' a (strs (r.getD [])) ∧ (r.getD []).length ≤ c ∧ (c ≠ 0 → ∃ g o, a = some ⟨g, o, none⟩) ∧ Below w.heap.size w w'

set_option maxHeartbeats 4000000 in
set_option maxRecDepth 100000 in
theorem refparse_loop (w : World) (s : ByteArray) (hs : s.size ≤ 2^30) (l : List UInt8) (hd : s.data.toList = 47 :: l) (hl : l ≠ []) (e0 : (s.toList == [47]) = false) (e1 : (s.toList == []) = false) :
    Calls Tryz.prog 158 #[.string s] w (RetOpt w (chk [] ((pieces l).map B))) := by
  have hz : s.size = l.length + 1 := by
    have h2 : s.size = s.data.toList.length := (Array.length_toList (xs := s.data)).symm
    rw [h2, hd]; rfl
  have hz0 : 0 < s.size := by omega
  have h0 : s[0] = 47 := by
    have h1 : s.data.toList[0]? = some 47 := by rw [hd]; rfl
    rw [Array.getElem?_toList] at h1
    exact (Array.getElem?_eq_some_iff.1 h1).2
  have c0 : ((s[0].toNat : Int) != 47) = false := by rw [h0]; rfl
  have Hd := Lib.hid hd
  have hat : Hid (∀ i (h : i < s.size), s.data.toList[i]? = some s[i]) := fun i h => by rw [Array.getElem?_toList]; exact Array.getElem?_eq_getElem h
  have Hsz : Hid (s.data.toList.length = s.size) := Array.length_toList
  clear hd hl hz h0
  obtain ⟨ANS, hA⟩ : ∃ A, chk [] ((pieces l).map B) = A := ⟨_, rfl⟩
  rw [hA]
  have HA : Hid (chk [] ((pieces (s.data.toList.drop 1)).map B) = ANS) := by unfold Hid; rw [Hd.out]; exact hA
  clear hA
  obtain ⟨i0, hi, hz0', hz1, hz2⟩ := info_parts Tryz.info9p
  have Hi := Lib.hid (And.intro hi (And.intro hz0' (And.intro hz1 hz2)))
  clear hi hz0' hz1 hz2
  go_enter Tryz.func158, Tryz.ntmps158
  go_wp2
  go_loopg [6, 4, 5] s.size (fun n v6 v4 v5 wr => Below w.heap.size w wr ∧ ∃ (i f : Nat) (a : Option Addr) (c : Nat) (d : List ByteArray), v6 = .int .i64 i ∧ v5 = .int .i64 f ∧ v4 = .slice a d.length c ∧ i ≤ s.size + 1 ∧ d.length ≤ 16 ∧ (i ≤ s.size → f ≤ i) ∧ Hid (n = s.size + 1 - i ∧ wr.ownsRow w.heap.size 9 1 (.slice a d.length c) d.length (strs d)) ∧ Hid ((i ≤ s.size ∧ (47 : UInt8) ∉ (s.data.toList.drop f).take (i - f) ∧ chk d ((pieces (s.data.toList.drop f)).map B) = ANS) ∨ (i = s.size + 1 ∧ some d = ANS)))
  case atStart => exact ⟨Below.refl _ _, 1, 1, none, 0, [], rfl, rfl, rfl, by omega, by simp, fun _ => Nat.le_refl _, ⟨by omega, rfl, .inl ⟨rfl, rfl⟩⟩, .inl ⟨by omega, by simp, HA.out⟩⟩
  case round =>
    obtain ⟨hb, i, f, a, c, d, rfl, rfl, rfl, hi1, hdl, hfi, hn, hc⟩ := hrel
    by_cases hlt : i ≤ s.size
    · have hf := hfi hlt
      have hlt2 : (i : Int) ≤ (s.size : Int) := by omega
      have Hc : Hid ((47 : UInt8) ∉ (s.data.toList.drop f).take (i - f) ∧ chk d ((pieces (s.data.toList.drop f)).map B) = ANS) := by
        rcases hc.out with ⟨_, h⟩ | ⟨h, _⟩
        · exact h
        · omega
      clear hc hfi
      by_cases hi : i < s.size
      · have hi2 : (i : Int) < (s.size : Int) := by omega
        have hid : decide (i < s.size) = true := decide_eq_true hi
        by_cases hb47 : s[i] = 47
        · have c1 : ((s[i].toNat : Int) != 47) = false := by rw [hb47]; rfl
          have hat2 := hat.out i hi
          rw [hb47] at hat2
          obtain ⟨ps, hps⟩ : ∃ ps, (pieces (s.data.toList.drop (i + 1))).map B = ps := ⟨_, rfl⟩
          have Hk : Hid (chk d (s.extract f i :: ps) = ANS) := by
            unfold Hid
            rw [extract_B, ← hps, ← Hc.out.2, piece_mid hf hat2 Hc.out.1]; rfl
          have Hnx : Hid (chk (d ++ [s.extract f i]) ps = ANS → (i + 1 ≤ s.size ∧ (47 : UInt8) ∉ (s.data.toList.drop (i + 1)).take (i + 1 - (i + 1)) ∧ chk (d ++ [s.extract f i]) ((pieces (s.data.toList.drop (i + 1))).map B) = ANS) ∨ (i + 1 = s.size + 1 ∧ some (d ++ [s.extract f i]) = ANS)) := fun h => .inl ⟨by omega, by simp, by rw [hps]; exact h⟩
          clear hat2 hps hb47
          have Hb := Lib.hid hb
          have hf2 : (f : Int) ≤ (i : Int) := by omega
          clear hb
          go_wp2_with fail
          refine (refname_any _ (s.extract f i)).mono ?_
          rintro e w1 ⟨rfl, hb1⟩
          have Hb1 := Lib.hid (Hb.out.trans (hb1.mono Hb.out.size))
          have Hown1 : Hid (w1.ownsRow w.heap.size 9 1 (.slice a d.length c) d.length (strs d)) := owns_below hn.out.2 hb1
          clear hb1
          cases hnm : isName (s.extract f i) with
          | false =>
            have E : Hid (ANS = none) := by unfold Hid; rw [← Hk.out]; unfold chk; rw [hnm]; rfl
            clear hnm
            go_wp2
            go_ret2
            unfold RetOpt
            rw [E.out]
            exact ⟨none, 0, rfl, .inl rfl, Nat.le_refl _, fun h => absurd rfl h, Hb1.out⟩
          | true =>
            by_cases h16 : d.length = 16
            · have E : Hid (ANS = none) := by unfold Hid; rw [← Hk.out]; unfold chk; rw [hnm, h16]; rfl
              have c16 : ((d.length : Int) == 16) = true := by rw [beq_iff_eq]; omega
              have H16 := Lib.hid h16
              clear hnm h16
              go_wp2
              go_ret2
              unfold RetOpt
              rw [E.out]
              exact ⟨none, 0, rfl, .inl rfl, Nat.le_refl _, fun h => absurd rfl h, Hb1.out⟩
            · have E : Hid (chk (d ++ [(s.extract f i)]) ps = ANS) := by
                unfold Hid; rw [← Hk.out]
                conv => rhs; unfold chk
                rw [hnm, show (d.length == 16) = false from by rw [beq_eq_false_iff_ne]; exact h16]; rfl
              have c16 : ((d.length : Int) == 16) = false := by rw [beq_eq_false_iff_ne]; omega
              have hz1 := Hb1.out.size
              have Hdl := Lib.hid (show (d ++ [(s.extract f i)]).length ≤ 16 by rw [List.length_append, List.length_cons, List.length_nil]; omega)
              clear hnm
              go_wp2_with (at_builtin; refine Go.XR.stop (fun X hX => ?_))
              refine hX.out ?_
              clear hX X
              refine wpList_plain rfl (fun K hK => ?_)
              refine append_strs w.heap.size a c d rfl (Hown1.out.alloc _) (some ⟨w1.heap.size, 0, none⟩) 1 [(s.extract f i)] rfl (Row.new _ _ _) (fun e => by cases e) (by simp; omega) (by simp; omega) ?_
              intro a' c' w2 ho2 hb2
              generalize hd2 : d ++ [(s.extract f i)] = d2 at ho2 ⊢
              rw [hd2] at Hdl E
              have Hnx2 := Hnx
              rw [hd2] at Hnx2
              go_step
              refine hK _ _ ?_
              clear hK K
              have Ho2 := Lib.hid ho2
              have Hb2 := Lib.hid ((Hb1.out.alloc hz1 _).trans hb2)
              clear ho2 hb2 hd2
              go_wp2
              go_roundg (s.size + 1 - (i + 1))
              case measure => have := hn.out.1; omega
              case rel => exact ⟨Hb2.out, i + 1, i + 1, a', c', d2, by go_num, by go_num, rfl, by omega, Hdl.out, fun _ => Nat.le_refl _, ⟨rfl, Ho2.out⟩, Hnx2.out E.out⟩
        · have c1 : ((s[i].toNat : Int) != 47) = true := by
            rw [bne_iff_ne]
            intro h
            exact hb47 (UInt8.toNat_inj.1 (by show s[i].toNat = 47; omega))
          have Hb := Lib.hid hb
          have Hno := Lib.hid (no_step hf (hat.out i hi) hb47 Hc.out.1)
          clear hb hb47
          go_wp2
          go_roundg (s.size + 1 - (i + 1))
          case measure => have := hn.out.1; omega
          case rel => exact ⟨Hb.out, i + 1, f, a, c, d, by go_num, rfl, rfl, by omega, hdl, fun _ => by omega, ⟨rfl, hn.out.2⟩, .inl ⟨by omega, Hno.out, Hc.out.2⟩⟩
      · have hie : i = s.size := by omega
        have hid : decide (i < s.size) = false := decide_eq_false hi
        have hi3 : ¬ (i : Int) < (s.size : Int) := by omega
        obtain ⟨ps, hps⟩ : ∃ ps, ([] : List ByteArray) = ps := ⟨_, rfl⟩
        have Hk : Hid (chk d (s.extract f i :: ps) = ANS) := by
          unfold Hid
          have hno := Hc.out.1
          rw [hie, ← Hsz.out] at hno
          rw [extract_B, ← hps, ← Hc.out.2, piece_end hno, hie, Hsz.out]; rfl
        have Hnx : Hid (chk (d ++ [s.extract f i]) ps = ANS → (i + 1 ≤ s.size ∧ (47 : UInt8) ∉ (s.data.toList.drop (i + 1)).take (i + 1 - (i + 1)) ∧ chk (d ++ [s.extract f i]) ((pieces (s.data.toList.drop (i + 1))).map B) = ANS) ∨ (i + 1 = s.size + 1 ∧ some (d ++ [s.extract f i]) = ANS)) := fun h => .inr ⟨by omega, by rw [← h, ← hps]; rfl⟩
        clear hps hie
        have Hb := Lib.hid hb
        have hf2 : (f : Int) ≤ (i : Int) := by omega
        clear hb
        go_wp2_with fail
        refine (refname_any _ (s.extract f i)).mono ?_
        rintro e w1 ⟨rfl, hb1⟩
        have Hb1 := Lib.hid (Hb.out.trans (hb1.mono Hb.out.size))
        have Hown1 : Hid (w1.ownsRow w.heap.size 9 1 (.slice a d.length c) d.length (strs d)) := owns_below hn.out.2 hb1
        clear hb1
        cases hnm : isName (s.extract f i) with
        | false =>
          have E : Hid (ANS = none) := by unfold Hid; rw [← Hk.out]; unfold chk; rw [hnm]; rfl
          clear hnm
          go_wp2
          go_ret2
          unfold RetOpt
          rw [E.out]
          exact ⟨none, 0, rfl, .inl rfl, Nat.le_refl _, fun h => absurd rfl h, Hb1.out⟩
        | true =>
          by_cases h16 : d.length = 16
          · have E : Hid (ANS = none) := by unfold Hid; rw [← Hk.out]; unfold chk; rw [hnm, h16]; rfl
            have c16 : ((d.length : Int) == 16) = true := by rw [beq_iff_eq]; omega
            have H16 := Lib.hid h16
            clear hnm h16
            go_wp2
            go_ret2
            unfold RetOpt
            rw [E.out]
            exact ⟨none, 0, rfl, .inl rfl, Nat.le_refl _, fun h => absurd rfl h, Hb1.out⟩
          · have E : Hid (chk (d ++ [(s.extract f i)]) ps = ANS) := by
              unfold Hid; rw [← Hk.out]
              conv => rhs; unfold chk
              rw [hnm, show (d.length == 16) = false from by rw [beq_eq_false_iff_ne]; exact h16]; rfl
            have c16 : ((d.length : Int) == 16) = false := by rw [beq_eq_false_iff_ne]; omega
            have hz1 := Hb1.out.size
            have Hdl := Lib.hid (show (d ++ [(s.extract f i)]).length ≤ 16 by rw [List.length_append, List.length_cons, List.length_nil]; omega)
            clear hnm
            go_wp2_with (at_builtin; refine Go.XR.stop (fun X hX => ?_))
            refine hX.out ?_
            clear hX X
            refine wpList_plain rfl (fun K hK => ?_)
            refine append_strs w.heap.size a c d rfl (Hown1.out.alloc _) (some ⟨w1.heap.size, 0, none⟩) 1 [(s.extract f i)] rfl (Row.new _ _ _) (fun e => by cases e) (by simp; omega) (by simp; omega) ?_
            intro a' c' w2 ho2 hb2
            generalize hd2 : d ++ [(s.extract f i)] = d2 at ho2 ⊢
            rw [hd2] at Hdl E
            have Hnx2 := Hnx
            rw [hd2] at Hnx2
            go_step
            refine hK _ _ ?_
            clear hK K
            have Ho2 := Lib.hid ho2
            have Hb2 := Lib.hid ((Hb1.out.alloc hz1 _).trans hb2)
            clear ho2 hb2 hd2
            go_wp2
            go_roundg (s.size + 1 - (i + 1))
            case measure => have := hn.out.1; omega
            case rel => exact ⟨Hb2.out, i + 1, i + 1, a', c', d2, by go_num, by go_num, rfl, by omega, Hdl.out, fun _ => Nat.le_refl _, ⟨rfl, Ho2.out⟩, Hnx2.out E.out⟩
    · have hge : ¬ (i : Int) ≤ (s.size : Int) := by omega
      have E : Hid (some d = ANS) := by
        rcases hc.out with ⟨h, _⟩ | ⟨_, h⟩
        · omega
        · exact h
      have Hb := Lib.hid hb
      clear hb hc hfi
      go_wp2
      go_ret2
      unfold RetOpt
      rw [← E.out]
      exact ⟨a, c, rfl, Row.owned hn.out.2, owns_le hn.out.2, owns_some hn.out.2, Hb.out⟩
end Go.Proofs.YtoahjhogjjdkhaaGreatDoor

/- The walk over the reference's Parse, whole; SameTexts. -/
namespace Go.Proofs.YtoahjhogjjdkhaaGreatDoor
open Go.RowKit Go.PathPure Go.XR

theorem parse_body {s : ByteArray} {l : List UInt8} (hd : s.data.toList = 47 :: l) (hl : l ≠ []) : parse s = chk [] ((pieces l).map B) := by
  have h1 : isP s = true := by unfold isP; rw [hd]; rfl
  have h2 : rest s = B l := by unfold rest Lib.trimPrefix; rw [hd]; rfl
  have h3 : ((B l).toList == []) = false := by
    rw [ByteArray.toList_eq, B_data, beq_eq_false_iff_ne]; exact hl
  unfold parse
  rw [h1, h2, h3, chk_names, names, B_data]; rfl

set_option maxHeartbeats 2000000 in
set_option maxRecDepth 100000 in
theorem refparse_any (w : World) (s : ByteArray) (hs : s.size ≤ 2^30) : Calls Tryz.prog 158 #[.string s] w (RetParse w s) := by
  have hsz : s.data.toList.length = s.size := Array.length_toList
  cases e0 : s.toList == [47] with
  | true =>
    have E : Hid (parse s = some []) := by
      unfold Hid parse
      have hd : s.data.toList = [47] := by rw [← ByteArray.toList_eq]; exact beq_iff_eq.1 e0
      have h1 : isP s = true := by unfold isP; rw [hd]; rfl
      have h2 : rest s = B [] := by unfold rest Lib.trimPrefix; rw [hd]; rfl
      have h3 : ((B []).toList == []) = true := by rw [ByteArray.toList_eq, B_data]; rfl
      rw [h1, h2, h3]; rfl
    clear hsz
    go_enter Tryz.func158, Tryz.ntmps158
    go_wp2
    go_ret2
    unfold RetParse
    rw [E.out]
    exact ⟨none, 0, rfl, .inl rfl, Nat.le_refl _, fun h => absurd rfl h, Below.refl _ _⟩
  | false =>
    cases e1 : s.toList == [] with
    | true =>
      have E : Hid (parse s = none) := by
        unfold Hid parse
        have hd : s.data.toList = [] := by rw [← ByteArray.toList_eq]; exact beq_iff_eq.1 e1
        have h1 : isP s = false := by unfold isP; rw [hd]; rfl
        rw [h1]; rfl
      clear hsz
      go_enter Tryz.func158, Tryz.ntmps158
      go_wp2
      go_ret2
      unfold RetParse
      rw [E.out]
      exact ⟨none, 0, rfl, .inl rfl, Nat.le_refl _, fun h => absurd rfl h, Below.refl _ _⟩
    | false =>
      cases hd : s.data.toList with
      | nil => rw [ByteArray.toList_eq, hd] at e1; cases e1
      | cons b l =>
        have hz : 0 < s.size := by rw [← hsz, hd]; simp
        by_cases c : b = 47
        · subst c
          have hl : l ≠ [] := fun e => by rw [ByteArray.toList_eq, hd, e] at e0; cases e0
          have := refparse_loop w s hs l hd hl e0 e1
          rw [← parse_body hd hl] at this
          exact this
        · have E : Hid (parse s = none) := by
            unfold Hid parse
            have h1 : isP s = false := by
              unfold isP Lib.hasPrefix; rw [hd]
              simp [List.isPrefixOf, Ne.symm c]
            rw [h1]; rfl
          have h0 : s[0] = b := by
            have h1 : s.data.toList[0]? = some b := by rw [hd]; rfl
            rw [Array.getElem?_toList] at h1
            exact (Array.getElem?_eq_some_iff.1 h1).2
          have c0 : ((s[0].toNat : Int) != 47) = true := by
            rw [bne_iff_ne, h0]
            intro h
            exact c (UInt8.toNat_inj.1 (by show b.toNat = 47; omega))
          clear hsz hd h0 c
          go_enter Tryz.func158, Tryz.ntmps158
          go_wp2
          go_ret2
          unfold RetParse
          rw [E.out]
          exact ⟨none, 0, rfl, .inl rfl, Nat.le_refl _, fun h => absurd rfl h, Below.refl _ _⟩

theorem ret_boolp {a b : Bool} (h : a = b) : Ending.returned (.bool a) = .returned (.bool b) := by rw [h]
theorem keq_iff (a b : ByteArray) : (a.toList == b.toList) = true ↔ a = b := by
  rw [beq_iff_eq, ByteArray.toList_eq, ByteArray.toList_eq]
  constructor
  · intro h; rw [← B_eta a, ← B_eta b, h]
  · rintro rfl; rfl

set_option maxHeartbeats 2000000 in
set_option maxRecDepth 100000 in
theorem texts_any (w : World) (a b : Option Addr) (c d : Nat) (L M : List ByteArray) (hL : Row w a (strs L)) (hM : Row w b (strs M)) (hl : L.length < 2^60) :
    Calls Tryz.prog 27 #[.slice a L.length c, .slice b M.length d] w fun e w' => e = .returned (.bool (decide (L = M))) ∧ Below w.heap.size w w' := by
  have HL := Lib.hid hL
  have HM := Lib.hid hM
  clear hL hM
  by_cases hlen : L.length = M.length
  · have c1 : ((L.length : Int) != (M.length : Int)) = false := by rw [bne_eq_false_iff_eq]; omega
    have c2 : (L.length == M.length) = true := by rw [beq_iff_eq]; exact hlen
    have Hlen := Lib.hid hlen
    clear hlen
    go_enter Tryz.func27, Tryz.ntmps27
    go_wp2
    go_loopg [5] L.length (fun n i wr => Below w.heap.size w wr ∧ ∃ k : Nat, k ≤ L.length ∧ i = .int .i64 k ∧ n = L.length - k ∧ Hid (L.take k = M.take k))
    case atStart => exact ⟨Below.refl _ _, 0, Nat.zero_le _, rfl, by omega, by unfold Hid; simp⟩
    case round =>
      obtain ⟨hb, k, hk, rfl, hn, ht⟩ := hrel
      by_cases hlt : k < L.length
      · have hltM : k < M.length := by have := Hlen.out; omega
        obtain ⟨g, o, rfl, c3⟩ := str_at (HL.out.below hb) hlt
        obtain ⟨g', o', rfl, c5⟩ := str_at (HM.out.below hb) hltM
        have hi1 : (k : Int) < (L.length : Int) := by omega
        have hi2 : (k : Int) < (M.length : Int) := by omega
        have Hn := Lib.hid hn
        clear hn
        have Hb := Lib.hid hb
        clear hb
        by_cases he : L[k] = M[k]
        · have hs : (L[k].toList == M[k].toList) = true := (keq_iff _ _).2 he
          have He := Lib.hid he
          clear he
          go_wp2
          go_quiet (fail)
          go_wp2
          go_roundg (L.length - (k + 1))
          case measure => have := Hn.out; omega
          case rel => exact ⟨below_drewN Hb.out _, k + 1, by omega, by go_num, rfl, by unfold Hid; rw [List.take_succ_eq_append_getElem hlt, List.take_succ_eq_append_getElem hltM, ht.out, He.out]⟩
        · have hs : (L[k].toList == M[k].toList) = false := by rw [Bool.eq_false_iff]; intro h; exact he ((keq_iff _ _).1 h)
          have He := Lib.hid he
          clear he
          go_wp2
          go_quiet (fail)
          go_wp2
          go_ret
          refine ⟨ret_boolp (a := false) ?_, below_drewN Hb.out _⟩
          exact (decide_eq_false (fun e => He.out (by subst e; rfl))).symm
      · have hge : ¬ (k : Int) < (L.length : Int) := by omega
        have Hb := Lib.hid hb
        have Hn := Lib.hid hn
        clear hb hn
        go_wp2
        go_ret
        refine ⟨ret_boolp (a := true) ?_, Hb.out⟩
        have h := ht.out
        rw [List.take_of_length_le (by omega), List.take_of_length_le (by have := Hlen.out; omega)] at h
        exact (decide_eq_true h).symm
  · have c1 : ((L.length : Int) != (M.length : Int)) = true := by rw [bne_iff_ne]; omega
    have c2 : (L.length == M.length) = false := by rw [beq_eq_false_iff_ne]; exact hlen
    have Hlen := Lib.hid hlen
    clear hlen
    go_enter Tryz.func27, Tryz.ntmps27
    go_wp2
    go_ret
    exact ⟨ret_boolp (a := false) (decide_eq_false (fun e => Hlen.out (by rw [e]))).symm, Below.refl _ _⟩
end Go.Proofs.YtoahjhogjjdkhaaGreatDoor

/- The walks over slices.Equal at rows of texts, behind, Within. -/
namespace Go.Proofs
open Go.RowKit
theorem Tryz.slices_Equal_string_lens (a1 a2 : Option Addr) (n c m d : Nat) (w : World) (hnm : n ≠ m) :
    Calls Tryz.prog 177 #[.slice a1 n c, .slice a2 m d] w fun e w' => e = .returned (.bool false) ∧ w' = w := Any.slices_Equal_string_lens Tryz.lays193 a1 a2 n c m d w hnm
end Go.Proofs
namespace Go.Proofs.YtoahjhogjjdkhaaGreatDoor
open Go.RowKit Go.PathPure Go.XR

theorem row_cells {w : World} {a : Option Addr} {L : List ByteArray} (h : Row w a (strs L)) (hne : L ≠ []) : ∃ g o, a = some ⟨g, o, none⟩ ∧ ∀ j, j < L.length → w.cell? ⟨g, o + j, none⟩ = some (.string (L.getD j ByteArray.empty)) := by
  rcases h with h | ⟨g, o, ha, h⟩
  · exact absurd (by simpa [strs] using h) hne
  · refine ⟨g, o, ha, fun j hj => h j _ ?_⟩
    rw [strs_get hj, List.getD_eq_getElem?_getD, List.getElem?_eq_getElem hj]; rfl

theorem equal_any (w : World) (a b : Option Addr) (c d : Nat) (L M : List ByteArray) (hL : Row w a (strs L)) (hM : Row w b (strs M)) (hl : L.length < 2^40) (hm : M.length < 2^40) :
    Calls Tryz.prog 177 #[.slice a L.length c, .slice b M.length d] w fun e w' => e = .returned (.bool (decide (L = M))) ∧ Below w.heap.size w w' := by
  by_cases hlen : L.length = M.length
  · by_cases h0 : L = []
    · have hM0 : M = [] := List.eq_nil_of_length_eq_zero (by rw [← hlen, h0]; rfl)
      subst h0 hM0
      refine (Tryz.slices_Equal_string_empty a b c 0 d w (by omega)).mono ?_
      rintro e w' ⟨rfl, rfl⟩
      exact ⟨rfl, Below.refl _ _⟩
    · have hM0 : M ≠ [] := fun e => h0 (List.eq_nil_of_length_eq_zero (by rw [hlen, e]; rfl))
      obtain ⟨g, o, rfl, h1⟩ := row_cells hL h0
      obtain ⟨g', o', rfl, h2⟩ := row_cells hM hM0
      refine (Tryz.slices_Equal_string g o L.length c g' o' M.length d L M w (Nat.le_refl _) (Nat.le_refl _) (by omega) (by omega) h1 h2).mono ?_
      rintro e w' ⟨rfl, q, rfl⟩
      refine ⟨?_, below_drewN (Below.refl _ _) q⟩
      rw [List.take_length, List.take_length]
  · refine (Tryz.slices_Equal_string_lens a b L.length c M.length d w hlen).mono ?_
    rintro e w' ⟨rfl, rfl⟩
    exact ⟨ret_boolp (decide_eq_false (fun e => hlen (by rw [e]))).symm, Below.refl _ _⟩

/-- the names behind a directory's -/
def behindP (s dir : ByteArray) : Option (List ByteArray) := match parse s, parse dir with
  | some l, some m => if m.length ≤ l.length ∧ l.take m.length = m then some (l.drop m.length) else none
  | _, _ => none
def RetBehind (w : World) (r : Option (List ByteArray)) (e : Ending) (w' : World) : Prop := ∃ a c, e = .returned (.tuple #[.slice a (r.getD []).length c, .bool r.isSome]) ∧ Row w' a (strs (r.getD [])) ∧ Below w.heap.size w w'

theorem parse_len {s : ByteArray} {l : List ByteArray} (h : parse s = some l) : l.length ≤ 16 := by
  unfold parse at h
  split at h
  · split at h
    · cases h; simp
    · split at h
      · rename_i ho
        cases h
        unfold okNames at ho
        rw [Bool.and_eq_true] at ho
        exact of_decide_eq_true ho.1
      · cases h
  · cases h

def RetNo (w : World) (e : Ending) (w' : World) : Prop := ∃ a c, e = .returned (.tuple #[.slice a 0 c, .int .i64 170]) ∧ Below w.heap.size w w'
def RetSome (w : World) (l : List ByteArray) (e : Ending) (w' : World) : Prop := ∃ a c, e = .returned (.tuple #[.slice a l.length c, .int .i64 0]) ∧ Row w' a (strs l) ∧ l.length ≤ c ∧ (c ≠ 0 → ∃ g o, a = some ⟨g, o, none⟩) ∧ Below w.heap.size w w'
theorem RetParse.no {w : World} {s : ByteArray} {e : Ending} {w' : World} (h : RetParse w s e w') (hp : parse s = none) : RetNo w e w' := by
  unfold RetParse at h
  rw [hp] at h
  obtain ⟨a, c, h1, h2, h3, _, h4⟩ := h
  exact ⟨a, c, h1, h4⟩
theorem RetParse.yes {w : World} {s : ByteArray} {e : Ending} {w' : World} {l : List ByteArray} (h : RetParse w s e w') (hp : parse s = some l) : RetSome w l e w' := by
  unfold RetParse at h
  rw [hp] at h
  exact h

set_option maxHeartbeats 2000000 in
set_option maxRecDepth 100000 in
theorem behind_any (w : World) (hE : Env w) (s dir : ByteArray) (hs : s.size ≤ 2^30) (hd : dir.size ≤ 2^30) : Calls Tryz.prog 148 #[.string s, .string dir] w (RetBehind w (behindP s dir)) := by
  have HE := Lib.hid hE
  clear hE
  cases hp : parse s with
  | none =>
    have E : Hid (behindP s dir = none) := by unfold Hid behindP; rw [hp]
    have Hp := Lib.hid hp
    clear hp
    cases hq : parse dir with
    | none =>
      have Hq := Lib.hid hq
      clear hq
      go_enter Tryz.func148, Tryz.ntmps148
      go_wp2_with fail
      refine (parse_any _ HE.out s hs).mono ?_
      rintro e w1 h1
      obtain ⟨a1, c1, rfl, hb1⟩ := h1.no Hp.out
      have Hb1 := Lib.hid hb1
      clear h1 hb1
      go_wp2_with fail
      refine (parse_any _ (HE.out.below Hb1.out) dir hd).mono ?_
      rintro e w2 h2
      obtain ⟨a2, c2, rfl, hb2⟩ := h2.no Hq.out
      have Hb2 := Lib.hid (Hb1.out.trans (hb2.mono Hb1.out.size))
      clear h2 hb2
      go_wp2
      go_ret2
      unfold RetBehind
      rw [E.out]
      exact ⟨none, 0, rfl, .inl rfl, Hb2.out⟩
    | some m =>
      have Hq := Lib.hid hq
      clear hq
      go_enter Tryz.func148, Tryz.ntmps148
      go_wp2_with fail
      refine (parse_any _ HE.out s hs).mono ?_
      rintro e w1 h1
      obtain ⟨a1, c1, rfl, hb1⟩ := h1.no Hp.out
      have Hb1 := Lib.hid hb1
      clear h1 hb1
      go_wp2_with fail
      refine (parse_any _ (HE.out.below Hb1.out) dir hd).mono ?_
      rintro e w2 h2
      obtain ⟨a2, c2, rfl, hr2, hc2, _, hb2⟩ := h2.yes Hq.out
      have Hb2 := Lib.hid (Hb1.out.trans (hb2.mono Hb1.out.size))
      clear h2 hb2 hr2
      go_wp2
      go_ret2
      unfold RetBehind
      rw [E.out]
      exact ⟨none, 0, rfl, .inl rfl, Hb2.out⟩
  | some l =>
    have hl := parse_len hp
    have Hp := Lib.hid hp
    cases hq : parse dir with
    | none =>
      have E : Hid (behindP s dir = none) := by unfold Hid behindP; rw [hp, hq]
      have Hq := Lib.hid hq
      clear hp hq
      go_enter Tryz.func148, Tryz.ntmps148
      go_wp2_with fail
      refine (parse_any _ HE.out s hs).mono ?_
      rintro e w1 h1
      obtain ⟨a1, c1, rfl, hr1, hc1, hsh, hb1⟩ := h1.yes Hp.out
      have Hb1 := Lib.hid hb1
      clear h1 hb1 hr1
      go_wp2_with fail
      refine (parse_any _ (HE.out.below Hb1.out) dir hd).mono ?_
      rintro e w2 h2
      obtain ⟨a2, c2, rfl, hb2⟩ := h2.no Hq.out
      have Hb2 := Lib.hid (Hb1.out.trans (hb2.mono Hb1.out.size))
      clear h2 hb2
      go_wp2
      go_ret2
      unfold RetBehind
      rw [E.out]
      exact ⟨none, 0, rfl, .inl rfl, Hb2.out⟩
    | some m =>
      have hm := parse_len hq
      have E : Hid (behindP s dir = if m.length ≤ l.length ∧ l.take m.length = m then some (l.drop m.length) else none) := by unfold Hid behindP; rw [hp, hq]
      have Hq := Lib.hid hq
      clear hp hq
      go_enter Tryz.func148, Tryz.ntmps148
      go_wp2_with fail
      refine (parse_any _ HE.out s hs).mono ?_
      rintro e w1 h1
      obtain ⟨a1, c1, rfl, hr1, hc1, hsh, hb1⟩ := h1.yes Hp.out
      have Hb1 := Lib.hid hb1
      have Hr1 := Lib.hid hr1
      have Hsh := Lib.hid hsh
      clear h1 hb1 hr1 hsh
      go_wp2_with fail
      refine (parse_any _ (HE.out.below Hb1.out) dir hd).mono ?_
      rintro e w2 h2
      obtain ⟨a2, c2, rfl, hr2, hc2, _, hb2⟩ := h2.yes Hq.out
      have Hb2 := Lib.hid (Hb1.out.trans (hb2.mono Hb1.out.size))
      have Hr12 := Lib.hid (Row.below hb2 Hr1.out)
      have Hr2 := Lib.hid hr2
      clear h2 hb2 hr2
      by_cases hle : m.length ≤ l.length
      · have hle2 : ¬ (l.length : Int) < (m.length : Int) := by omega
        have hle3 : decide (l.length < m.length) = false := decide_eq_false (by omega)
        have hcm : m.length ≤ c1 := by omega
        have htl : (l.take m.length).length = m.length := by rw [List.length_take]; omega
        have hrt : Row w2 a1 (strs (l.take m.length)) := by
          have := Hr12.out.take m.length
          rw [show strs (l.take m.length) = (strs l).take m.length from List.map_take]
          exact this
        have heq := equal_any w2 a1 a2 c1 c2 (l.take m.length) m hrt Hr2.out (by omega) (by omega)
        rw [htl] at heq
        have Heq := Lib.hid heq
        clear heq htl hrt
        go_wp2_with fail
        refine Heq.out.mono ?_
        rintro e w3 ⟨rfl, hb3⟩
        have Hb3 := Lib.hid (Hb2.out.trans (hb3.mono Hb2.out.size))
        have Hr3 := Lib.hid (Row.below hb3 Hr12.out)
        clear hb3
        cases ht : decide (l.take m.length = m) with
        | false =>
          have E2 : Hid (behindP s dir = none) := by unfold Hid; rw [E.out, if_neg (fun h => of_decide_eq_false ht h.2)]
          clear ht
          go_wp2
          go_ret2
          unfold RetBehind
          rw [E2.out]
          exact ⟨none, 0, rfl, .inl rfl, Hb3.out⟩
        | true =>
          have E2 : Hid (behindP s dir = some (l.drop m.length)) := by unfold Hid; rw [E.out, if_pos ⟨hle, of_decide_eq_true ht⟩]
          have hdl : (l.drop m.length).length = l.length - m.length := List.length_drop
          have Hdl := Lib.hid hdl
          clear ht hdl
          by_cases hcj : c1 = m.length
          · have hll : l.length - m.length = 0 := by omega
            have hnil : l.drop m.length = [] := List.drop_eq_nil_of_le (by omega)
            have Hnil := Lib.hid hnil
            clear hnil
            have Hll := Lib.hid hll
            clear hll
            go_wp2
            go_ret2
            unfold RetBehind
            rw [E2.out, show ((some (l.drop m.length)).getD []) = [] from Hnil.out]
            refine ⟨a1, 0, ?_, .inl rfl, Hb3.out⟩
            show Ending.returned (.tuple #[.slice a1 (l.length - m.length) 0, .bool true]) = _
            rw [Hll.out]; rfl
          · have hcne : c1 ≠ 0 := by omega
            obtain ⟨g, o, rfl⟩ := Hsh.out hcne
            · have Hrd : Hid (Row w3 (some ⟨g, o + m.length, none⟩) (strs (l.drop m.length))) := by
                unfold Hid
                rcases Hr3.out with h | ⟨g', o', ha, h⟩
                · left; rw [show strs (l.drop m.length) = (strs l).drop m.length from List.map_drop, h, List.drop_nil]
                cases ha
                refine .inr ⟨g, o + m.length, rfl, fun j u hj => ?_⟩
                rw [show strs (l.drop m.length) = (strs l).drop m.length from List.map_drop, List.getElem?_drop] at hj
                rw [Nat.add_assoc]
                exact h _ u hj
              go_wp2
              go_ret2
              unfold RetBehind
              rw [E2.out]
              refine ⟨some ⟨g, o + m.length, none⟩, c1 - m.length, ?_, Hrd.out, Hb3.out⟩
              show Ending.returned (.tuple #[.slice (some ⟨g, o + m.length, none⟩) (l.length - m.length) (c1 - m.length), .bool true]) = Ending.returned (.tuple #[.slice (some ⟨g, o + m.length, none⟩) (l.drop m.length).length (c1 - m.length), .bool true])
              rw [Hdl.out]
      · have hle2 : (l.length : Int) < (m.length : Int) := by omega
        have hle3 : decide (l.length < m.length) = true := decide_eq_true (by omega)
        have E2 : Hid (behindP s dir = none) := by unfold Hid; rw [E.out, if_neg (fun h => hle h.1)]
        go_wp2
        go_ret2
        unfold RetBehind
        rw [E2.out]
        exact ⟨none, 0, rfl, .inl rfl, Hb2.out⟩
end Go.Proofs.YtoahjhogjjdkhaaGreatDoor

/- The walks over Within, Child. -/
namespace Go.Proofs.YtoahjhogjjdkhaaGreatDoor
open Go.RowKit Go.PathPure Go.XR

theorem within_any (w : World) (hE : Env w) (s dir : ByteArray) (hs : s.size ≤ 2^30) (hd : dir.size ≤ 2^30) : Calls Tryz.prog 106 #[.string s, .string dir] w fun e w' => e = .returned (.bool (behindP s dir).isSome) ∧ Below w.heap.size w w' := by
  have HE := Lib.hid hE
  clear hE
  go_enter Tryz.func106, Tryz.ntmps106
  go_wp2_with fail
  refine (behind_any _ HE.out s dir hs hd).mono ?_
  rintro e w1 ⟨a, c, rfl, _, hb⟩
  have Hb := Lib.hid hb
  clear hb
  go_wp2
  go_ret
  exact ⟨rfl, Hb.out⟩
end Go.Proofs.YtoahjhogjjdkhaaGreatDoor

/- The walks over the reference's Within. -/
namespace Go.Proofs.YtoahjhogjjdkhaaGreatDoor
open Go.RowKit Go.PathPure Go.XR

set_option maxHeartbeats 4000000 in
set_option maxRecDepth 100000 in
theorem refwithin_any (w : World) (s dir : ByteArray) (hs : s.size ≤ 2^30) (hd : dir.size ≤ 2^30) : Calls Tryz.prog 130 #[.string s, .string dir] w fun e w' => e = .returned (.bool (behindP s dir).isSome) ∧ Below w.heap.size w w' := by
  cases hp : parse s with
  | none =>
    have E : Hid ((behindP s dir).isSome = false) := by unfold Hid behindP; rw [hp]; rfl
    have Hp := Lib.hid hp
    clear hp
    go_enter Tryz.func130, Tryz.ntmps130
    go_wp2_with fail
    refine (refparse_any _ s hs).mono ?_
    rintro e w1 h1
    obtain ⟨a1, c1, rfl, hb1⟩ := h1.no Hp.out
    have Hb1 := Lib.hid hb1
    clear h1 hb1
    go_wp2_with fail
    refine (refparse_any _ dir hd).mono ?_
    rintro e w2 ⟨a2, c2, rfl, _, _, _, hb2⟩
    have Hb2 := Lib.hid (Hb1.out.trans (hb2.mono Hb1.out.size))
    clear hb2
    generalize (Value.int .i64 (if (parse dir).isSome = true then 0 else 170)) = v2
    go_wp2
    go_ret
    exact ⟨by rw [E.out]; rfl, Hb2.out⟩
  | some l =>
    have hl := parse_len hp
    have Hp := Lib.hid hp
    cases hq : parse dir with
    | none =>
      have E : Hid ((behindP s dir).isSome = false) := by unfold Hid behindP; rw [hp, hq]; rfl
      have Hq := Lib.hid hq
      clear hp hq
      go_enter Tryz.func130, Tryz.ntmps130
      go_wp2_with fail
      refine (refparse_any _ s hs).mono ?_
      rintro e w1 h1
      obtain ⟨a1, c1, rfl, hr1, hc1, _, hb1⟩ := h1.yes Hp.out
      have Hb1 := Lib.hid hb1
      clear h1 hb1 hr1
      go_wp2_with fail
      refine (refparse_any _ dir hd).mono ?_
      rintro e w2 h2
      obtain ⟨a2, c2, rfl, hb2⟩ := h2.no Hq.out
      have Hb2 := Lib.hid (Hb1.out.trans (hb2.mono Hb1.out.size))
      clear h2 hb2
      go_wp2
      go_ret
      exact ⟨by rw [E.out]; rfl, Hb2.out⟩
    | some m =>
      have hm := parse_len hq
      have E0 : Hid (behindP s dir = if m.length ≤ l.length ∧ l.take m.length = m then some (l.drop m.length) else none) := by unfold Hid behindP; rw [hp, hq]
      have Hq := Lib.hid hq
      clear hp hq
      go_enter Tryz.func130, Tryz.ntmps130
      go_wp2_with fail
      refine (refparse_any _ s hs).mono ?_
      rintro e w1 h1
      obtain ⟨a1, c1, rfl, hr1, hc1, _, hb1⟩ := h1.yes Hp.out
      have Hb1 := Lib.hid hb1
      have Hr1 := Lib.hid hr1
      clear h1 hb1 hr1
      go_wp2_with fail
      refine (refparse_any _ dir hd).mono ?_
      rintro e w2 h2
      obtain ⟨a2, c2, rfl, hr2, hc2, _, hb2⟩ := h2.yes Hq.out
      have Hb2 := Lib.hid (Hb1.out.trans (hb2.mono Hb1.out.size))
      have Hr12 := Lib.hid (Row.below hb2 Hr1.out)
      have Hr2 := Lib.hid hr2
      clear h2 hb2 hr2
      by_cases hle : m.length ≤ l.length
      · have hle2 : ¬ (l.length : Int) < (m.length : Int) := by omega
        have hle3 : decide (l.length < m.length) = false := decide_eq_false (by omega)
        go_wp2
        go_loopg [9] m.length (fun n i wr => Below w.heap.size w wr ∧ Below w2.heap.size w2 wr ∧ ∃ k : Nat, k ≤ m.length ∧ i = .int .i64 k ∧ Hid (n = m.length - k) ∧ Hid (l.take k = m.take k))
        case atStart => exact ⟨Hb2.out, Below.refl _ _, 0, Nat.zero_le _, rfl, rfl, rfl⟩
        case round =>
          obtain ⟨hb, hb', k, hk, rfl, hn, ht⟩ := hrel
          by_cases hlt : k < m.length
          · have hltL : k < l.length := by omega
            obtain ⟨g, o, rfl, c3⟩ := str_at (Hr12.out.below hb') hltL
            obtain ⟨g', o', rfl, c5⟩ := str_at (Hr2.out.below hb') hlt
            have hi1 : (k : Int) < (l.length : Int) := by omega
            have hi2 : (k : Int) < (m.length : Int) := by omega
            have Hb := Lib.hid hb
            have Hb' := Lib.hid hb'
            clear hb hb'
            by_cases he : l[k] = m[k]
            · have hs : (l[k].toList == m[k].toList) = true := (keq_iff _ _).2 he
              have He := Lib.hid he
              clear he
              go_wp2
              go_quiet (fail)
              go_wp2
              go_roundg (m.length - (k + 1))
              case measure => have := hn.out; omega
              case rel => exact ⟨below_drewN Hb.out _, below_drewN Hb'.out _, k + 1, by omega, by go_num, rfl, by unfold Hid; rw [List.take_succ_eq_append_getElem hlt, List.take_succ_eq_append_getElem hltL, ht.out, He.out]⟩
            · have hs : (l[k].toList == m[k].toList) = false := by rw [Bool.eq_false_iff]; intro h; exact he ((keq_iff _ _).1 h)
              have E : Hid ((behindP s dir).isSome = false) := by
                unfold Hid; rw [E0.out, if_neg (fun h => ?_)]; rfl
                apply he
                have h1 : (l.take m.length)[k]? = m[k]? := by rw [h.2]
                rw [List.getElem?_take, if_pos hlt, List.getElem?_eq_getElem hltL, List.getElem?_eq_getElem hlt] at h1
                exact Option.some.inj h1
              clear he
              go_wp2
              go_quiet (fail)
              go_wp2
              go_ret
              exact ⟨by rw [E.out]; rfl, below_drewN Hb.out _⟩
          · have hge : ¬ (k : Int) < (m.length : Int) := by omega
            have E : Hid ((behindP s dir).isSome = true) := by
              have h := ht.out
              rw [show k = m.length by omega, List.take_length] at h
              unfold Hid
              rw [E0.out, if_pos ⟨hle, h⟩]
              rfl
            have Hb := Lib.hid hb
            clear hb hb'
            go_wp2
            go_ret
            exact ⟨by rw [E.out]; rfl, Hb.out⟩
      · have hle2 : (l.length : Int) < (m.length : Int) := by omega
        have hle3 : decide (l.length < m.length) = true := decide_eq_true (by omega)
        have E : Hid ((behindP s dir).isSome = false) := by unfold Hid; rw [E0.out, if_neg (fun h => hle h.1)]; rfl
        go_wp2
        go_ret
        exact ⟨by rw [E.out]; rfl, Hb2.out⟩
end Go.Proofs.YtoahjhogjjdkhaaGreatDoor

/- The text of names: plain. -/
namespace Go.PathPure
open Go.Lib

/-- what the decoder took: one sign below 128 is itself; more have all their other bytes at 128 and above -/
theorem dec_in {x0 x1 x2 x3 : Nat} {k1 k2 k3 : Bool} :
    ((dec x0 x1 x2 x3 k1 k2 k3).2 = 1 ∧ (x0 < 128 → (dec x0 x1 x2 x3 k1 k2 k3).1 = x0)) ∨ ((dec x0 x1 x2 x3 k1 k2 k3).2 = 2 ∧ 128 ≤ x0 ∧ k1 = true) ∨
    ((dec x0 x1 x2 x3 k1 k2 k3).2 = 3 ∧ 128 ≤ x0 ∧ k1 = true ∧ k2 = true) ∨ ((dec x0 x1 x2 x3 k1 k2 k3).2 = 4 ∧ 128 ≤ x0 ∧ k1 = true ∧ k2 = true ∧ k3 = true) := by
  unfold dec
  by_cases c0 : x0 < 0x80
  · rw [if_pos c0]; exact .inl ⟨rfl, fun _ => rfl⟩
  rw [if_neg c0]
  by_cases c1 : (x0 / 32 == 6 && k1) = true
  · rw [if_pos c1]
    by_cases d : (x0 % 32) * 64 + x1 % 64 ≥ 0x80
    · rw [if_pos d]; rw [Bool.and_eq_true] at c1; exact .inr (.inl ⟨rfl, by omega, c1.2⟩)
    · rw [if_neg d]; exact .inl ⟨rfl, fun h => absurd h c0⟩
  rw [if_neg c1]
  by_cases c2 : (x0 / 16 == 14 && k1 && k2) = true
  · rw [if_pos c2]
    generalize hc : (x0 % 16) * 4096 + (x1 % 64) * 64 + x2 % 64 = c
    rw [Bool.and_eq_true, Bool.and_eq_true] at c2
    by_cases d : (decide (c ≥ 0x800) && Utf8.valid c) = true
    · rw [if_pos d]; exact .inr (.inr (.inl ⟨rfl, by omega, c2.1.2, c2.2⟩))
    · rw [if_neg d]; exact .inl ⟨rfl, fun h => absurd h c0⟩
  rw [if_neg c2]
  by_cases c3 : (x0 / 8 == 30 && k1 && k2 && k3) = true
  · rw [if_pos c3]
    generalize hc : (x0 % 8) * 262144 + (x1 % 64) * 4096 + (x2 % 64) * 64 + x3 % 64 = c
    rw [Bool.and_eq_true, Bool.and_eq_true, Bool.and_eq_true] at c3
    by_cases d : (decide (c ≥ 0x10000) && Utf8.valid c) = true
    · rw [if_pos d]; exact .inr (.inr (.inr ⟨rfl, by omega, c3.1.1.2, c3.1.2, c3.2⟩))
    · rw [if_neg d]; exact .inl ⟨rfl, fun h => absurd h c0⟩
  rw [if_neg c3]; exact .inl ⟨rfl, fun h => absurd h c0⟩

theorem high_ne {p : Bool} {b : UInt8} (h : (p && b.toNat / 64 == 2) = true) : b ≠ 47 := by
  rw [Bool.and_eq_true, beq_iff_eq] at h
  rintro rfl
  exact absurd h.2 (by decide)

theorem dec_no47 (s : ByteArray) (pos : Nat) (hb : badR (Utf8.decode s pos).1 = false) (i : Nat) (h1 : pos ≤ i) (h2 : i < pos + (Utf8.decode s pos).2) : s.get! i ≠ 47 := by
  rw [decode_dec] at hb h2
  have h0 : 128 ≤ (s.get! pos).toNat → s.get! pos ≠ 47 := fun h e => by rw [e] at h; exact absurd h (by decide)
  rcases dec_in (x0 := (s.get! pos).toNat) (x1 := (s.get! (pos + 1)).toNat) (x2 := (s.get! (pos + 2)).toNat) (x3 := (s.get! (pos + 3)).toNat) (k1 := (decide (pos + 1 < s.size) && (s.get! (pos + 1)).toNat / 64 == 2)) (k2 := (decide (pos + 2 < s.size) && (s.get! (pos + 2)).toNat / 64 == 2)) (k3 := (decide (pos + 3 < s.size) && (s.get! (pos + 3)).toNat / 64 == 2)) with ⟨e, hx⟩ | ⟨e, hx, k1⟩ | ⟨e, hx, k1, k2⟩ | ⟨e, hx, k1, k2, k3⟩
  · rw [e] at h2
    obtain rfl : i = pos := by omega
    intro e1
    have := hx (by rw [e1]; decide)
    rw [this, e1] at hb
    exact absurd hb (by decide)
  all_goals
    rw [e] at h2
  · rcases (show i = pos ∨ i = pos + 1 by omega) with rfl | rfl
    · exact h0 hx
    · exact high_ne k1
  · rcases (show i = pos ∨ i = pos + 1 ∨ i = pos + 2 by omega) with rfl | rfl | rfl
    · exact h0 hx
    · exact high_ne k1
    · exact high_ne k2
  · rcases (show i = pos ∨ i = pos + 1 ∨ i = pos + 2 ∨ i = pos + 3 by omega) with rfl | rfl | rfl | rfl
    · exact h0 hx
    · exact high_ne k1
    · exact high_ne k2
    · exact high_ne k3

theorem scan_no47 (s : ByteArray) : ∀ (n pos : Nat), s.size - pos ≤ n → scan s n pos = true → ∀ i, pos ≤ i → i < s.size → s.get! i ≠ 47
  | 0, pos, h, _, i, h1, h2 => by omega
  | n + 1, pos, h, hs, i, h1, h2 => by
    unfold scan at hs
    have hp : pos < s.size := by omega
    rw [if_pos hp, Bool.and_eq_true] at hs
    by_cases hi : i < pos + (Utf8.decode s pos).2
    · exact dec_no47 s pos (by simpa using hs.1) i h1 hi
    · have := decode_pos s pos
      exact scan_no47 s n _ (by omega) hs.2 i (by omega) h2

theorem isName_no47 {s : ByteArray} (h : isName s = true) : (47 : UInt8) ∉ s.data.toList := by
  unfold isName at h
  simp only [Bool.and_eq_true] at h
  intro hm
  obtain ⟨i, hi⟩ := List.mem_iff_getElem?.1 hm
  have hlt : i < s.data.toList.length := (List.getElem?_eq_some_iff.1 hi).1
  have hsz : s.data.toList.length = s.size := Array.length_toList
  have h1 := get_lt s i (by omega)
  rw [hi] at h1
  exact scan_no47 s s.size 0 (by omega) h.2.2.2.2.2 i (by omega) (by omega) (Option.some.inj h1).symm
theorem isName_ne {s : ByteArray} (h : isName s = true) : s.data.toList ≠ [] := by
  unfold isName at h
  simp only [Bool.and_eq_true] at h
  intro e
  have := h.1
  rw [ByteArray.toList_eq, e] at this
  cases this
theorem isName_size {s : ByteArray} (h : isName s = true) : s.size ≤ 100 := by
  unfold isName at h
  simp only [Bool.and_eq_true] at h
  exact of_decide_eq_true h.2.2.2.1

theorem join_one (a : List UInt8) : Lib.join [a] [47] = a := by simp [Lib.join, List.intercalate]
theorem join_cons (a : List UInt8) {l : List (List UInt8)} (h : l ≠ []) : Lib.join (a :: l) [47] = a ++ 47 :: Lib.join l [47] := by
  cases l with
  | nil => exact absurd rfl h
  | cons b l => simp [Lib.join, List.intercalate, List.intersperse]
theorem join_head (b : UInt8) (p : List UInt8) : ∀ ps : List (List UInt8), Lib.join ((b :: p) :: ps) [47] = b :: Lib.join (p :: ps) [47]
  | [] => by rw [join_one, join_one]
  | q :: ps => by rw [join_cons (b :: p) (l := q :: ps) (by simp), join_cons p (l := q :: ps) (by simp)]; rfl

theorem pieces_join : ∀ l : List (List UInt8), l ≠ [] → (∀ x ∈ l, (47 : UInt8) ∉ x) → pieces (Lib.join l [47]) = l
  | [], h, _ => absurd rfl h
  | [a], _, h => by rw [join_one]; exact pieces_none (h a (by simp))
  | a :: b :: l, _, h => by
    rw [join_cons a (by simp), pieces_hit _ (h a (by simp)), pieces_join (b :: l) (by simp) fun x hx => h x (List.mem_cons_of_mem _ hx)]
theorem join_pieces : ∀ l : List UInt8, Lib.join (pieces l) [47] = l
  | [] => by unfold pieces; rw [join_one]
  | b :: l => by
    have ih := join_pieces l
    unfold pieces
    by_cases c : b = 47
    · rw [if_pos c, join_cons _ (pieces_ne l), ih, c]; rfl
    · rw [if_neg c]
      cases hp : pieces l with
      | nil => exact absurd hp (pieces_ne l)
      | cons p ps => rw [hp] at ih; show Lib.join ((b :: p) :: ps) [47] = _; rw [join_head, ih]
end Go.PathPure
namespace Go.Proofs.YtoahjhogjjdkhaaGreatDoor
open Go.PathPure

/-- names with a stroke ahead of each -/
def fl (l : List ByteArray) : List UInt8 := (l.map fun b => 47 :: b.data.toList).flatten
/-- the text of names -/
def tx (l : List ByteArray) : List UInt8 := if l = [] then [47] else fl l
theorem fl_nil : fl [] = [] := rfl
theorem fl_cons (a : ByteArray) (l : List ByteArray) : fl (a :: l) = 47 :: (a.data.toList ++ fl l) := rfl
theorem fl_append (l m : List ByteArray) : fl (l ++ m) = fl l ++ fl m := by simp [fl]
theorem fl_join : ∀ l : List ByteArray, l ≠ [] → fl l = 47 :: Lib.join (l.map (·.data.toList)) [47]
  | [], h => absurd rfl h
  | [a], _ => by simp [fl, join_one]
  | a :: b :: l, _ => by
    rw [fl_cons, fl_join (b :: l) (by simp)]
    exact congrArg (47 :: ·) (join_cons (l := (b :: l).map (·.data.toList)) a.data.toList (by simp)).symm
theorem tx_join (l : List ByteArray) : tx l = 47 :: Lib.join (l.map (·.data.toList)) [47] := by
  unfold tx
  by_cases h : l = []
  · subst h; rfl
  · rw [if_neg h, fl_join l h]
theorem fl_ne {l : List ByteArray} (h : l ≠ []) : fl l ≠ [] := by rw [fl_join l h]; simp

theorem ok_all {l : List ByteArray} (h : okNames l = true) : l.length ≤ 16 ∧ ∀ x ∈ l, isName x = true := by
  unfold okNames at h
  rw [Bool.and_eq_true] at h
  exact ⟨of_decide_eq_true h.1, List.all_eq_true.1 h.2⟩
theorem ok_take {l : List ByteArray} (h : okNames l = true) (k : Nat) : okNames (l.take k) = true := by
  obtain ⟨h1, h2⟩ := ok_all h
  unfold okNames
  rw [Bool.and_eq_true]
  exact ⟨decide_eq_true (by rw [List.length_take]; omega), List.all_eq_true.2 fun x hx => h2 x (List.mem_of_mem_take hx)⟩
theorem fl_le : ∀ {l : List ByteArray}, (∀ x ∈ l, isName x = true) → (fl l).length ≤ 101 * l.length
  | [], _ => by simp [fl]
  | a :: l, h => by
    have h1 := isName_size (h a (by simp))
    have h2 := fl_le (l := l) fun x hx => h x (List.mem_cons_of_mem _ hx)
    have h3 : a.data.toList.length = a.size := Array.length_toList
    rw [fl_cons, List.length_cons, List.length_append, List.length_cons]
    omega

theorem parse_tx {l : List ByteArray} (h : okNames l = true) : parse (B (tx l)) = some l := by
  obtain ⟨_, hn⟩ := ok_all h
  have hd : (B (tx l)).data.toList = 47 :: Lib.join (l.map (·.data.toList)) [47] := by rw [B_data, tx_join]
  have h1 : isP (B (tx l)) = true := by unfold isP; rw [hd]; simp [Lib.hasPrefix, List.isPrefixOf]
  have h2 : rest (B (tx l)) = B (Lib.join (l.map (·.data.toList)) [47]) := by
    unfold rest Lib.trimPrefix; rw [hd]; simp [Lib.hasPrefix, List.isPrefixOf]
  unfold parse
  rw [h1, h2]
  by_cases h0 : l = []
  · subst h0
    have : ((B (Lib.join (([] : List ByteArray).map (·.data.toList)) [47])).toList == []) = true := by rw [ByteArray.toList_eq, B_data]; rfl
    rw [this]; rfl
  · have h3 : ((B (Lib.join (l.map (·.data.toList)) [47])).toList == []) = false := by
      rw [ByteArray.toList_eq, B_data, beq_eq_false_iff_ne]
      intro e
      cases l with
      | nil => exact h0 rfl
      | cons a l =>
        have ha := isName_ne (hn a (by simp))
        cases hda : a.data.toList with
        | nil => exact ha hda
        | cons b t => rw [List.map_cons, hda, join_head] at e; cases e
    have h4 : names (B (Lib.join (l.map (·.data.toList)) [47])) = l := by
      unfold names
      rw [B_data, pieces_join _ (by simpa using h0) (fun x hx => by
        obtain ⟨y, hy, rfl⟩ := List.mem_map.1 hx
        exact isName_no47 (hn y hy)), List.map_map]
      have : (B ∘ fun x : ByteArray => x.data.toList) = id := by funext x; exact B_eta x
      rw [this, List.map_id]
    rw [h3, h4]
    simp [h]

theorem parse_some {s : ByteArray} {l : List ByteArray} (h : parse s = some l) : okNames l = true ∧ s = B (tx l) := by
  unfold parse at h
  by_cases hp : isP s = true
  · rw [if_pos hp] at h
    have hd : ∃ t, s.data.toList = 47 :: t := by
      unfold isP Lib.hasPrefix at hp
      cases hs : s.data.toList with
      | nil => rw [hs] at hp; cases hp
      | cons b t => rw [hs] at hp; simp [List.isPrefixOf] at hp; exact ⟨t, by rw [hp]⟩
    obtain ⟨t, hd⟩ := hd
    have hr : rest s = B t := by unfold rest Lib.trimPrefix; rw [hd]; simp [Lib.hasPrefix, List.isPrefixOf]
    rw [hr] at h
    by_cases h3 : ((B t).toList == []) = true
    · rw [if_pos h3] at h
      cases h
      rw [ByteArray.toList_eq, B_data, beq_iff_eq] at h3
      subst h3
      refine ⟨rfl, ?_⟩
      rw [← B_eta s, hd]; rfl
    · rw [if_neg h3] at h
      by_cases ho : okNames (names (B t)) = true
      · rw [if_pos ho] at h
        cases h
        refine ⟨ho, ?_⟩
        rw [← B_eta s, hd, tx_join]
        congr 2
        unfold names
        rw [B_data, List.map_map]
        have : ((fun x : ByteArray => x.data.toList) ∘ B) = id := by funext x; exact B_data x
        rw [this, List.map_id, join_pieces]
      · rw [if_neg ho] at h; cases h
  · rw [if_neg hp] at h; cases h

theorem parse_inj {s t : ByteArray} {l : List ByteArray} (h1 : parse s = some l) (h2 : parse t = some l) : s = t := by
  rw [(parse_some h1).2, (parse_some h2).2]

theorem behindP_some {s t : ByteArray} : (behindP s t).isSome = true ↔ ∃ l m, parse s = some l ∧ parse t = some m ∧ m <+: l := by
  unfold behindP
  constructor
  · intro h
    cases hs : parse s with
    | none => rw [hs] at h; cases h
    | some l =>
      cases ht : parse t with
      | none => rw [hs, ht] at h; cases h
      | some m =>
        rw [hs, ht] at h
        dsimp only at h
        split at h
        · rename_i hc
          exact ⟨l, m, rfl, rfl, by rw [List.prefix_iff_eq_take]; exact hc.2.symm⟩
        · cases h
  · rintro ⟨l, m, hs, ht, hp⟩
    rw [hs, ht]
    dsimp only
    rw [if_pos ⟨hp.length_le, (List.prefix_iff_eq_take.1 hp).symm⟩]; rfl

theorem within_refl (s : ByteArray) : (behindP s s).isSome = (parse s).isSome := by
  rw [Bool.eq_iff_iff, behindP_some]
  constructor
  · rintro ⟨l, _, h, _⟩; rw [h]; rfl
  · intro h
    obtain ⟨l, hl⟩ := Option.isSome_iff_exists.1 h
    exact ⟨l, l, hl, hl, List.prefix_rfl⟩
theorem within_trans {a b c : ByteArray} (h1 : (behindP a b).isSome = true) (h2 : (behindP b c).isSome = true) : (behindP a c).isSome = true := by
  rw [behindP_some] at *
  obtain ⟨l, m, ha, hb, hp⟩ := h1
  obtain ⟨m', n, hb', hc, hq⟩ := h2
  rw [hb] at hb'; cases hb'
  exact ⟨l, n, ha, hc, hq.trans hp⟩
theorem within_anti {a b : ByteArray} (h1 : (behindP a b).isSome = true) (h2 : (behindP b a).isSome = true) : a = b := by
  rw [behindP_some] at *
  obtain ⟨l, m, ha, hb, hp⟩ := h1
  obtain ⟨m', l', hb', ha', hq⟩ := h2
  rw [hb] at hb'; cases hb'
  rw [ha] at ha'; cases ha'
  have : l = m := hq.eq_of_length (by have := hp.length_le; have := hq.length_le; omega)
  subst this
  exact parse_inj ha hb
/-- the parent's text -/
theorem parent_tx {s : ByteArray} {l : List ByteArray} {n : ByteArray} (h : parse s = some (l ++ [n])) : s.extract 0 (max 1 (s.size - n.size - 1)) = B (tx l) ∧ n.size + 1 ≤ s.size := by
  obtain ⟨_, h2⟩ := parse_some h
  have hsz : s.data.toList.length = s.size := Array.length_toList
  have hnz : n.data.toList.length = n.size := Array.length_toList
  have hd : s.data.toList = fl l ++ 47 :: n.data.toList := by
    rw [h2, B_data]
    unfold tx
    rw [if_neg (by simp), fl_append, fl_cons, fl_nil, List.append_nil]
  have hlen : s.size = (fl l).length + (1 + n.size) := by rw [← hsz, hd]; simp; omega
  refine ⟨?_, by omega⟩
  rw [extract_B, List.drop_zero, Nat.sub_zero, hd]
  congr 1
  unfold tx
  by_cases h0 : l = []
  · subst h0
    rw [if_pos rfl, fl_nil] at *
    simp only [List.length_nil] at hlen
    rw [show max 1 (s.size - n.size - 1) = 1 by omega]
    rfl
  · rw [if_neg h0]
    have h1 : 0 < (fl l).length := List.length_pos_iff.2 (fl_ne h0)
    rw [show max 1 (s.size - n.size - 1) = (fl l).length by omega, List.take_left']
    rfl
end Go.Proofs.YtoahjhogjjdkhaaGreatDoor

/- The walks over Text and the reference's Text. -/
namespace Go.Proofs.YtoahjhogjjdkhaaGreatDoor
open Go.RowKit Go.PathPure Go.XR

def textB (l : List ByteArray) : ByteArray := if okNames l then B (tx l) else ⟨#[]⟩
def textE (l : List ByteArray) : Int := if okNames l then 0 else 1
theorem textB_ok {l : List ByteArray} (h : okNames l = true) : textB l = B (tx l) := by unfold textB; rw [if_pos h]
theorem textE_ok {l : List ByteArray} (h : okNames l = true) : textE l = 0 := by unfold textE; rw [if_pos h]
theorem textB_no {l : List ByteArray} (h : okNames l = false) : textB l = ⟨#[]⟩ := by unfold textB; rw [h]; rfl
theorem textE_no {l : List ByteArray} (h : okNames l = false) : textE l = 1 := by unfold textE; rw [h]; rfl

theorem fl_take {l : List ByteArray} {k : Nat} (h : k < l.length) : (B (fl (l.take k)) ++ ⟨#[47]⟩) ++ l[k] = B (fl (l.take (k + 1))) := by
  rw [List.take_succ_eq_append_getElem h, fl_append, ← B_eta (_ ++ _)]
  congr 1
  rw [ByteArray.data_append, Array.toList_append, ByteArray.data_append, Array.toList_append, B_data]
  simp [fl]
theorem okNames_pos {l : List ByteArray} (h1 : l.length ≤ 16) (h2 : l.all isName = true) : okNames l = true := by
  unfold okNames; rw [decide_eq_true h1, h2]; rfl

set_option maxHeartbeats 2000000 in
set_option maxRecDepth 100000 in
theorem reftext_any (w : World) (a : Option Addr) (c : Nat) (l : List ByteArray) (hL : Row w a (strs l)) :
    Calls Tryz.prog 181 #[.slice a l.length c] w fun e w' => e = .returned (.tuple #[.string (textB l), .int .i64 (textE l)]) ∧ Below w.heap.size w w' := by
  have HL := Lib.hid hL
  clear hL
  by_cases h16 : l.length ≤ 16
  · have hge : ¬ (16 : Int) < (l.length : Int) := by omega
    go_enter Tryz.func181, Tryz.ntmps181
    go_wp2
    go_loopg [5, 4] l.length (fun n i s wr => Below w.heap.size w wr ∧ ∃ (k : Nat) (S : ByteArray), k ≤ l.length ∧ i = .int .i64 k ∧ s = .string S ∧ S.size ≤ 101 * k ∧ Hid (n = l.length - k ∧ (l.take k).all isName = true ∧ S = B (fl (l.take k))))
    case atStart => exact ⟨Below.refl _ _, 0, ⟨#[]⟩, Nat.zero_le _, rfl, rfl, Nat.le_refl _, rfl, rfl, rfl⟩
    case round =>
      obtain ⟨hb, k, S, hk, rfl, rfl, hS, hn⟩ := hrel
      have Hb := Lib.hid hb
      clear hb
      by_cases hlt : k < l.length
      · obtain ⟨g, o, rfl, c0⟩ := str_at (HL.out.below Hb.out) hlt
        have hi1 : (k : Int) < (l.length : Int) := by omega
        go_wp2_with fail
        refine (refname_any _ l[k]).mono ?_
        rintro e w1 ⟨rfl, hb1⟩
        obtain ⟨g', o', he, c1⟩ := str_at (HL.out.below (Hb.out.trans (hb1.mono Hb.out.size))) hlt
        cases he
        have Hb1 := Lib.hid (Hb.out.trans (hb1.mono Hb.out.size))
        clear hb1 c0
        cases hv : isName l[k] with
        | false =>
          have E : Hid (okNames l = false) := by
            unfold Hid okNames
            have : l.all isName = false := by
              rw [Bool.eq_false_iff]; intro h
              have := List.all_eq_true.1 h l[k] (List.getElem_mem hlt)
              rw [hv] at this; cases this
            rw [this, Bool.and_false]
          clear hv
          go_wp2
          go_ret2
          exact ⟨by rw [textB_no E.out, textE_no E.out]; rfl, Hb1.out⟩
        | true =>
          have hsz := isName_size hv
          have Hv := Lib.hid hv
          clear hv
          go_wp2
          go_roundg (l.length - (k + 1))
          case measure => have := hn.out.1; omega
          case rel =>
            refine ⟨Hb1.out, k + 1, _, by omega, by go_num, rfl, ?_, rfl, ?_, ?_⟩
            · simp only [ByteArray.size_append]; show S.size + 1 + l[k].size ≤ _; omega
            · rw [List.take_succ_eq_append_getElem hlt, List.all_append, hn.out.2.1]; simp [Hv.out]
            · rw [hn.out.2.2]; exact fl_take hlt
      · have hge : ¬ (k : Int) < (l.length : Int) := by omega
        have E : Hid (okNames l = true) := by
          have := hn.out.2.1
          rw [List.take_of_length_le (by omega)] at this
          exact okNames_pos h16 this
        have ES : Hid (S = B (fl l)) := by
          have := hn.out.2.2
          rw [List.take_of_length_le (by omega)] at this
          exact this
        by_cases h0 : l = []
        · have e0 : (S.toList == []) = true := by rw [ES.out, h0, ByteArray.toList_eq, B_data]; rfl
          have E2 : Hid (textB l = ⟨#[47]⟩) := by unfold Hid; rw [textB_ok E.out, h0]; rfl
          clear h0
          go_wp2
          go_ret2
          exact ⟨by rw [E2.out, textE_ok E.out]; rfl, Hb.out⟩
        · have e0 : (S.toList == []) = false := by
            rw [ES.out, ByteArray.toList_eq, B_data, beq_eq_false_iff_ne]; exact fl_ne h0
          have E2 : Hid (textB l = S) := by
            unfold Hid; rw [textB_ok E.out, ES.out]; unfold tx; rw [if_neg h0]
          clear h0
          go_wp2
          go_ret2
          exact ⟨by rw [E2.out, textE_ok E.out]; rfl, Hb.out⟩
  · have hge : (16 : Int) < (l.length : Int) := by omega
    have E : Hid (okNames l = false) := by unfold Hid okNames; rw [decide_eq_false h16]; rfl
    go_enter Tryz.func181, Tryz.ntmps181
    go_wp2
    go_ret2
    exact ⟨by rw [textB_no E.out, textE_no E.out]; rfl, Below.refl _ _⟩
end Go.Proofs.YtoahjhogjjdkhaaGreatDoor

/- The walks over Parent and the reference's Parent. -/
namespace Go.Proofs.YtoahjhogjjdkhaaGreatDoor
open Go.RowKit Go.PathPure Go.XR

/-- the parent's text, the last name, the error -/
def parB (s : ByteArray) : ByteArray := match parse s with
  | some l => if l = [] then ⟨#[]⟩ else B (tx l.dropLast)
  | none => ⟨#[]⟩
def parN (s : ByteArray) : ByteArray := match parse s with
  | some l => l.getLast?.getD ⟨#[]⟩
  | none => ⟨#[]⟩
def parE (s : ByteArray) : Int := match parse s with
  | some l => if l = [] then 2 else 0
  | none => 170
theorem par_none {s : ByteArray} (h : parse s = none) : parB s = ⟨#[]⟩ ∧ parN s = ⟨#[]⟩ ∧ parE s = 170 := by unfold parB parN parE; rw [h]; exact ⟨rfl, rfl, rfl⟩
theorem par_nil {s : ByteArray} (h : parse s = some []) : parB s = ⟨#[]⟩ ∧ parN s = ⟨#[]⟩ ∧ parE s = 2 := by unfold parB parN parE; rw [h]; exact ⟨rfl, rfl, rfl⟩
theorem par_some {s : ByteArray} {l : List ByteArray} {n : ByteArray} (h : parse s = some (l ++ [n])) : parB s = B (tx l) ∧ parN s = n ∧ parE s = 0 := by
  unfold parB parN parE; rw [h]
  refine ⟨?_, ?_, ?_⟩
  · show (if l ++ [n] = [] then _ else _) = _
    rw [if_neg (by simp), List.dropLast_concat]
  · simp
  · simp

set_option maxHeartbeats 2000000 in
set_option maxRecDepth 100000 in
theorem parent_any (w : World) (hE : Env w) (s : ByteArray) (hs : s.size ≤ 2^30) :
    Calls Tryz.prog 141 #[.string s] w fun e w' => e = .returned (.tuple #[.string (parB s), .string (parN s), .int .i64 (parE s)]) ∧ Below w.heap.size w w' := by
  have HE := Lib.hid hE
  clear hE
  cases hp : parse s with
  | none =>
    have E := Lib.hid (par_none hp)
    have Hp := Lib.hid hp
    clear hp
    go_enter Tryz.func141, Tryz.ntmps141
    go_wp2_with fail
    refine (parse_any _ HE.out s hs).mono ?_
    rintro e w1 h1
    obtain ⟨a1, c1, rfl, hb1⟩ := h1.no Hp.out
    clear h1
    go_wp2
    go_ret3
    exact ⟨by rw [E.out.1, E.out.2.1, E.out.2.2]; rfl, hb1⟩
  | some l =>
    have hl := parse_len hp
    have Hp := Lib.hid hp
    by_cases h0 : l = []
    · subst h0
      have E := Lib.hid (par_nil hp)
      clear hp
      go_enter Tryz.func141, Tryz.ntmps141
      go_wp2_with fail
      refine (parse_any _ HE.out s hs).mono ?_
      rintro e w1 h1
      obtain ⟨a1, c1, rfl, hr1, hc1, _, hb1⟩ := h1.yes Hp.out
      clear h1 hr1
      go_wp2
      go_ret3
      exact ⟨by rw [E.out.1, E.out.2.1, E.out.2.2]; rfl, hb1⟩
    · obtain ⟨l, n, rfl⟩ : ∃ l' n, l = l' ++ [n] := ⟨_, _, (List.dropLast_concat_getLast h0).symm⟩
      have E := Lib.hid (par_some hp)
      have ET := Lib.hid (parent_tx hp)
      have hnz := (parent_tx hp).2
      have hnn : 0 < n.size := by
        have h1 := isName_ne ((ok_all (parse_some hp).1).2 n (by simp))
        have h2 : n.data.toList.length = n.size := Array.length_toList
        have := List.length_pos_iff.2 h1
        omega
      have hl15 : l.length ≤ 15 := by rw [List.length_append] at hl; simp at hl; omega
      have hlen : (l ++ [n]).length = l.length + 1 := by simp
      have Hlen := Lib.hid hlen
      clear hp h0 hl hlen
      go_enter Tryz.func141, Tryz.ntmps141
      go_wp2_with fail
      refine (parse_any _ HE.out s hs).mono ?_
      rintro e w1 h1
      obtain ⟨a1, c1, rfl, hr1, hc1, _, hb1⟩ := h1.yes Hp.out
      have hlt : l.length < (l ++ [n]).length := by simp
      obtain ⟨g, o, rfl, c0⟩ := str_at hr1 hlt
      rw [List.getElem_append_right (Nat.le_refl _)] at c0
      simp only [Nat.sub_self, List.getElem_cons_zero] at c0
      rw [Hlen.out] at hc1 ⊢
      have Hb := Lib.hid hb1
      have hz : (((l.length + 1 : Nat) : Int) == 0) = false := by rw [beq_eq_false_iff_ne]; omega
      have hmx : max (1 : Int) ((s.size : Int) - (n.size : Int) - 1) = ((max 1 (s.size - n.size - 1) : Nat) : Int) := by omega
      have Hmx := Lib.hid hmx
      clear h1 hr1 hlt hb1 hmx
      go_wp2
      go_ret3
      refine ⟨?_, Hb.out⟩
      rw [E.out.1, E.out.2.1, E.out.2.2, ← ET.out.1]
      show Ending.returned (.tuple #[.string (s.extract 0 (max (1 : Int) ((s.size : Int) - (n.size : Int) - 1)).toNat), .string n, .int .i64 0]) = _
      rw [Hmx.out]; rfl

set_option maxHeartbeats 2000000 in
set_option maxRecDepth 100000 in
theorem refparent_any (w : World) (s : ByteArray) (hs : s.size ≤ 2^30) :
    Calls Tryz.prog 159 #[.string s] w fun e w' => e = .returned (.tuple #[.string (parB s), .string (parN s), .int .i64 (parE s)]) ∧ Below w.heap.size w w' := by
  cases hp : parse s with
  | none =>
    have E := Lib.hid (par_none hp)
    have Hp := Lib.hid hp
    clear hp
    go_enter Tryz.func159, Tryz.ntmps159
    go_wp2_with fail
    refine (refparse_any _ s hs).mono ?_
    rintro e w1 h1
    obtain ⟨a1, c1, rfl, hb1⟩ := h1.no Hp.out
    clear h1
    go_wp2
    go_ret3
    exact ⟨by rw [E.out.1, E.out.2.1, E.out.2.2]; rfl, hb1⟩
  | some l =>
    have hl := parse_len hp
    have Hp := Lib.hid hp
    by_cases h0 : l = []
    · subst h0
      have E := Lib.hid (par_nil hp)
      clear hp
      go_enter Tryz.func159, Tryz.ntmps159
      go_wp2_with fail
      refine (refparse_any _ s hs).mono ?_
      rintro e w1 h1
      obtain ⟨a1, c1, rfl, hr1, hc1, _, hb1⟩ := h1.yes Hp.out
      clear h1 hr1
      go_wp2
      go_ret3
      exact ⟨by rw [E.out.1, E.out.2.1, E.out.2.2]; rfl, hb1⟩
    · obtain ⟨l, n, rfl⟩ : ∃ l' n, l = l' ++ [n] := ⟨_, _, (List.dropLast_concat_getLast h0).symm⟩
      have E := Lib.hid (par_some hp)
      have Hok : Hid (okNames l = true) := by
        have := ok_take (parse_some hp).1 l.length
        rwa [List.take_left'] at this
        rfl
      have hl15 : l.length ≤ 15 := by rw [List.length_append] at hl; simp at hl; omega
      have hlen : (l ++ [n]).length = l.length + 1 := by simp
      have Hlen := Lib.hid hlen
      clear hp h0 hl hlen
      go_enter Tryz.func159, Tryz.ntmps159
      go_wp2_with fail
      refine (refparse_any _ s hs).mono ?_
      rintro e w1 h1
      obtain ⟨a1, c1, rfl, hr1, hc1, _, hb1⟩ := h1.yes Hp.out
      have hlt : l.length < (l ++ [n]).length := by simp
      have Hr1 := Lib.hid hr1
      obtain ⟨g, o, rfl, c0⟩ := str_at hr1 hlt
      have Hrl : Hid (Row w1 (some ⟨g, o, none⟩) (strs l)) := by
        have := hr1.take l.length
        unfold Hid
        rw [show strs l = (strs (l ++ [n])).take l.length from ?_]
        · exact this
        · unfold strs; rw [← List.map_take, List.take_left']; rfl
      rw [Hlen.out] at hc1 ⊢
      have Hb := Lib.hid hb1
      have hz : (((l.length + 1 : Nat) : Int) == 0) = false := by rw [beq_eq_false_iff_ne]; omega
      clear h1 hr1 hlt hb1 c0
      go_wp2_with fail
      refine (reftext_any _ (some ⟨g, o, none⟩) c1 l Hrl.out).mono ?_
      rintro e w2 ⟨rfl, hb2⟩
      obtain ⟨g', o', he, c0⟩ := str_at (Row.below hb2 Hr1.out) (show l.length < (l ++ [n]).length by simp)
      cases he
      rw [List.getElem_append_right (Nat.le_refl _)] at c0
      simp only [Nat.sub_self, List.getElem_cons_zero] at c0
      rw [textB_ok Hok.out, textE_ok Hok.out]
      have Hb2 := Lib.hid (Hb.out.trans (hb2.mono Hb.out.size))
      clear hb2
      go_wp2
      go_quiet (fail)
      go_wp2
      go_ret3
      exact ⟨by rw [E.out.1, E.out.2.1, E.out.2.2]; rfl, below_drewN Hb2.out _⟩
end Go.Proofs.YtoahjhogjjdkhaaGreatDoor

/- The plain tree, its balanced join, put, drop: without any program. -/
namespace Go.TreePure
/-- a tree of pairs -/
inductive PT where
  | nil
  | node (k v : ByteArray) (l r : PT)

def PT.size : PT → Nat
  | .nil => 0
  | .node _ _ l r => l.size + r.size + 1
def PT.ht : PT → Nat
  | .nil => 0
  | .node _ _ l r => max l.ht r.ht + 1

def PT.joinL (k x : ByteArray) (l r : PT) : PT :=
  match l with
  | .nil => .nil
  | .node lk lx ll lr =>
    if lr.ht ≤ ll.ht then .node lk lx ll (.node k x lr r) else
    match lr with
    | .nil => .nil
    | .node mk mx ml mr => .node mk mx (.node lk lx ll ml) (.node k x mr r)
def PT.joinR (k x : ByteArray) (l r : PT) : PT :=
  match r with
  | .nil => .nil
  | .node rk rx rl rr =>
    if rl.ht ≤ rr.ht then .node rk rx (.node k x l rl) rr else
    match rl with
    | .nil => .nil
    | .node mk mx ml mr => .node mk mx (.node k x l ml) (.node rk rx mr rr)
def PT.join (k x : ByteArray) (l r : PT) : PT :=
  if l.ht = r.ht + 2 then PT.joinL k x l r else if r.ht = l.ht + 2 then PT.joinR k x l r else .node k x l r

theorem PT.ht_le : ∀ t : PT, t.ht ≤ t.size
  | .nil => Nat.le_refl _
  | .node _ _ l r => by have := ht_le l; have := ht_le r; simp only [PT.ht, PT.size]; omega

/-! ### keys -/
def klt (a b : ByteArray) : Bool := Op.bytesLess a.toList b.toList

theorem bytesLess_iff : ∀ (x y : List UInt8), Op.bytesLess x y = decide (x < y)
  | [], [] => by simp [Op.bytesLess]
  | _ :: _, [] => by simp [Op.bytesLess]
  | [], _ :: _ => by simp [Op.bytesLess]
  | a :: x, b :: y => by
    rw [Op.bytesLess, bytesLess_iff x y]
    simp only [List.cons_lt_cons_iff]
    by_cases h1 : a < b <;> by_cases h2 : a = b <;> by_cases h3 : x < y <;> simp [h1, h2, h3]

theorem klt_iff (a b : ByteArray) : klt a b = true ↔ a.toList < b.toList := by
  unfold klt; rw [bytesLess_iff]; simp
theorem toList_inj {a b : ByteArray} (h : a.toList = b.toList) : a = b := by
  rw [ByteArray.toList_eq, ByteArray.toList_eq] at h
  have := Array.toList_inj.1 h
  cases a; cases b; simp_all
theorem klt_irrefl (a : ByteArray) : klt a a = false := by
  cases h : klt a a with
  | false => rfl
  | true => exact absurd ((klt_iff _ _).1 h) (List.lt_irrefl _)
theorem klt_trans {a b c : ByteArray} (h : klt a b = true) (h' : klt b c = true) : klt a c = true :=
  (klt_iff _ _).2 (List.lt_trans ((klt_iff _ _).1 h) ((klt_iff _ _).1 h'))
theorem klt_asymm {a b : ByteArray} (h : klt a b = true) : klt b a = false := by
  cases h' : klt b a with
  | false => rfl
  | true => have := klt_trans h h'; rw [klt_irrefl] at this; cases this
theorem klt_tri {a b : ByteArray} (h : klt a b = false) (h' : klt b a = false) : a = b := by
  have h1 : ¬ a.toList < b.toList := fun x => by rw [(klt_iff _ _).2 x] at h; cases h
  have h2 : ¬ b.toList < a.toList := fun x => by rw [(klt_iff _ _).2 x] at h'; cases h'
  exact toList_inj (List.le_antisymm h2 h1)
/-- Go's '==' on strings, as the walk spells it -/
theorem keq_iff (a b : ByteArray) : (a.toList == b.toList) = true ↔ a = b := by
  rw [beq_iff_eq]; exact ⟨toList_inj, fun h => h ▸ rfl⟩
theorem klt_ne {a b : ByteArray} (h : klt a b = true) : a ≠ b := fun e => by subst e; rw [klt_irrefl] at h; cases h

/-! ### put, first, drop, get -/
def PT.put (k x : ByteArray) : PT → PT
  | .nil => .node k x .nil .nil
  | .node k' x' l r => if klt k k' then PT.join k' x' (PT.put k x l) r else if klt k' k then PT.join k' x' l (PT.put k x r) else .node k x l r

def PT.first : PT → (ByteArray × ByteArray) × PT
  | .nil => ((.empty, .empty), .nil)
  | .node k x .nil r => ((k, x), r)
  | .node k x l@(.node ..) r => (l.first.1, PT.join k x l.first.2 r)

def PT.drop (k : ByteArray) : PT → PT
  | .nil => .nil
  | .node k' x' l r =>
    if klt k k' then PT.join k' x' (PT.drop k l) r else if klt k' k then PT.join k' x' l (PT.drop k r) else
    match r with
    | .nil => l
    | .node .. => PT.join r.first.1.1 r.first.1.2 l r.first.2

def PT.get (k : ByteArray) : PT → Option ByteArray
  | .nil => none
  | .node k' x' l r => if k = k' then some x' else if klt k k' then PT.get k l else PT.get k r

def PT.list : PT → List (ByteArray × ByteArray)
  | .nil => []
  | .node k x l r => l.list ++ (k, x) :: r.list

/-! ### what they come to in the list of the pairs -/
theorem PT.list_length : ∀ t : PT, t.list.length = t.size
  | .nil => rfl
  | .node _ _ l r => by simp [PT.list, PT.size, list_length l, list_length r]; omega

theorem PT.join_list (k x : ByteArray) (l r : PT) : (PT.join k x l r).list = l.list ++ (k, x) :: r.list := by
  unfold PT.join
  split
  · rename_i h
    cases l with
    | nil => simp [PT.ht] at h
    | node lk lx ll lr =>
      simp only [PT.joinL]
      split
      · simp [PT.list]
      · cases lr with
        | nil => rename_i h2; simp [PT.ht] at h2
        | node mk mx ml mr => simp [PT.list]
  · split
    · rename_i h
      cases r with
      | nil => simp [PT.ht] at h
      | node rk rx rl rr =>
        simp only [PT.joinR]
        split
        · simp [PT.list]
        · cases rl with
          | nil => rename_i h2; simp [PT.ht] at h2
          | node mk mx ml mr => simp [PT.list]
    · rfl

theorem PT.join_size (k x : ByteArray) (l r : PT) : (PT.join k x l r).size = l.size + r.size + 1 := by
  rw [← PT.list_length, PT.join_list, List.length_append, List.length_cons, PT.list_length, PT.list_length]; omega

theorem PT.put_size (k x : ByteArray) : ∀ t : PT, (PT.put k x t).size ≤ t.size + 1
  | .nil => by simp [PT.put, PT.size]
  | .node k' x' l r => by
    have h1 := put_size k x l
    have h2 := put_size k x r
    simp only [PT.put]
    split
    · rw [PT.join_size]; simp only [PT.size]; omega
    · split
      · rw [PT.join_size]; simp only [PT.size]; omega
      · simp only [PT.size]; omega

theorem PT.first_list : ∀ t : PT, t ≠ .nil → t.list = t.first.1 :: t.first.2.list
  | .nil, h => absurd rfl h
  | .node k x .nil r, _ => by simp [PT.first, PT.list]
  | .node k x (.node a b c d) r, _ => by
    have ih := first_list (.node a b c d) (by simp)
    rw [PT.first, PT.join_list, PT.list, ih]; simp

theorem PT.first_size {t : PT} (h : t ≠ .nil) : t.first.2.size + 1 = t.size := by
  have := congrArg List.length (PT.first_list t h)
  rw [List.length_cons, PT.list_length, PT.list_length] at this
  exact this.symm

theorem PT.drop_size (k : ByteArray) : ∀ t : PT, (PT.drop k t).size ≤ t.size
  | .nil => by simp [PT.drop]
  | .node k' x' l r => by
    have h1 := drop_size k l
    have h2 := drop_size k r
    simp only [PT.drop]
    split
    · rw [PT.join_size]; simp only [PT.size]; omega
    · split
      · rw [PT.join_size]; simp only [PT.size]; omega
      · cases r with
        | nil => simp only [PT.size]; omega
        | node a b c d =>
          simp only []
          rw [PT.join_size]
          have := PT.first_size (t := .node a b c d) (by simp)
          simp only [PT.size] at *; omega

/-- the pairs from a key on -/
def PT.fromL (key : ByteArray) : PT → List (ByteArray × ByteArray)
  | .nil => []
  | .node k x l r => (if klt key k then PT.fromL key l else []) ++ ((if klt k key then [] else [(k, x)]) ++ PT.fromL key r)

theorem PT.fromL_le (key : ByteArray) : ∀ t : PT, (PT.fromL key t).length ≤ t.size
  | .nil => Nat.le_refl _
  | .node k x l r => by
    have h1 := fromL_le key l
    have h2 := fromL_le key r
    simp only [PT.fromL, PT.size, List.length_append]
    split <;> split <;> simp <;> omega

/-- the map without a key, and whether it was in it -/
def PT.Drop (k : ByteArray) (t : PT) : PT := if (PT.get k t).isSome then PT.drop k t else t

/-- what is done: gone, a key, a value -/
structure Deed where
  gone : Bool
  k : ByteArray
  x : ByteArray

/-- an act done -/
def PT.does (t : PT) (a : Deed) : PT := if a.gone then PT.Drop a.k t else PT.put a.k a.x t

theorem PT.Drop_size (k : ByteArray) (t : PT) : (PT.Drop k t).size ≤ t.size := by
  unfold PT.Drop; split
  · exact PT.drop_size k t
  · exact Nat.le_refl _
theorem PT.does_size (t : PT) (a : Deed) : (PT.does t a).size ≤ t.size + 1 := by
  unfold PT.does; split
  · have := PT.Drop_size a.k t; omega
  · exact PT.put_size _ _ _

end Go.TreePure

/- What the tree's calls come to, in sorted lists of pairs: plain laws. -/
namespace Go.TreePure

abbrev Pr := ByteArray × ByteArray
/-- strictly rising by keys -/
def Srt (l : List Pr) : Prop := l.Pairwise fun p q => klt p.1 q.1 = true
def ins (k x : ByteArray) (l : List Pr) : List Pr := l.filter (fun p => klt p.1 k) ++ (k, x) :: l.filter (fun p => klt k p.1)
def rem (k : ByteArray) (l : List Pr) : List Pr := l.filter fun p => klt p.1 k || klt k p.1
def look (k : ByteArray) : List Pr → Option ByteArray
  | [] => none
  | p :: l => if k = p.1 then some p.2 else look k l

theorem klt_cases (a b : ByteArray) : klt a b = true ∨ a = b ∨ klt b a = true := by
  cases h : klt a b with
  | true => exact .inl rfl
  | false =>
    cases h' : klt b a with
    | true => exact .inr (.inr rfl)
    | false => exact .inr (.inl (klt_tri h h'))

theorem filter_all {l : List Pr} {q : Pr → Bool} (h : ∀ p ∈ l, q p = true) : l.filter q = l := List.filter_eq_self.2 h
theorem filter_none {l : List Pr} {q : Pr → Bool} (h : ∀ p ∈ l, q p = false) : l.filter q = [] := by
  rw [List.filter_eq_nil_iff]; intro p hp; simp [h p hp]

section
variable {l r : List Pr} {k x : ByteArray}
theorem Srt.parts (h : Srt (l ++ (k, x) :: r)) : Srt l ∧ Srt r ∧ (∀ p ∈ l, klt p.1 k = true) ∧ (∀ p ∈ r, klt k p.1 = true) := by
  obtain ⟨h1, h2, h3⟩ := List.pairwise_append.1 h
  obtain ⟨h4, h5⟩ := List.pairwise_cons.1 h2
  exact ⟨h1, h5, fun p hp => h3 p hp _ List.mem_cons_self, fun p hp => h4 p hp⟩
theorem Srt.mk (h1 : Srt l) (h2 : Srt r) (h3 : ∀ p ∈ l, klt p.1 k = true) (h4 : ∀ p ∈ r, klt k p.1 = true) : Srt (l ++ (k, x) :: r) := by
  refine List.pairwise_append.2 ⟨h1, List.pairwise_cons.2 ⟨h4, h2⟩, fun p hp q hq => ?_⟩
  rcases List.mem_cons.1 hq with rfl | hq
  · exact h3 p hp
  · exact klt_trans (h3 p hp) (h4 q hq)
end

theorem Srt.filter {l : List Pr} (h : Srt l) (q : Pr → Bool) : Srt (l.filter q) := List.Pairwise.filter q h

theorem ins_srt {l : List Pr} (h : Srt l) (k x : ByteArray) : Srt (ins k x l) :=
  Srt.mk (h.filter _) (h.filter _) (fun p hp => (List.mem_filter.1 hp).2) (fun p hp => (List.mem_filter.1 hp).2)
theorem rem_srt {l : List Pr} (h : Srt l) (k : ByteArray) : Srt (rem k l) := h.filter _

theorem PT.put_list (k x : ByteArray) : ∀ t : PT, Srt t.list → (PT.put k x t).list = ins k x t.list
  | .nil, _ => by simp [PT.put, PT.list, ins]
  | .node k' x' l r, h => by
    obtain ⟨hl, hr, h1, h2⟩ := Srt.parts h
    have ihl := put_list k x l hl
    have ihr := put_list k x r hr
    simp only [PT.put]
    by_cases c1 : klt k k' = true
    · rw [if_pos c1, PT.join_list, ihl]
      simp only [PT.list, ins, List.filter_append, List.filter_cons]
      rw [if_neg (by simp [klt_asymm c1]), if_pos (by simpa using c1), filter_none (l := r.list) (q := fun p => klt p.1 k) (fun p hp => klt_asymm (klt_trans c1 (h2 p hp))), filter_all (l := r.list) (q := fun p => klt k p.1) (fun p hp => klt_trans c1 (h2 p hp))]
      simp
    · rw [if_neg c1]
      by_cases c2 : klt k' k = true
      · rw [if_pos c2, PT.join_list, ihr]
        simp only [PT.list, ins, List.filter_append, List.filter_cons]
        rw [if_pos (by simpa using c2), if_neg (by simp [klt_asymm c2]), filter_all (l := l.list) (q := fun p => klt p.1 k) (fun p hp => klt_trans (h1 p hp) c2), filter_none (l := l.list) (q := fun p => klt k p.1) (fun p hp => klt_asymm (klt_trans (h1 p hp) c2))]
        simp
      · rw [if_neg c2]
        obtain rfl := klt_tri (by simpa using c1) (by simpa using c2)
        simp only [PT.list, ins, List.filter_append, List.filter_cons]
        rw [if_neg (by simp [klt_irrefl]), if_neg (by simp [klt_irrefl]), filter_all (l := l.list) (q := fun p => klt p.1 k) h1, filter_none (l := l.list) (q := fun p => klt k p.1) (fun p hp => klt_asymm (h1 p hp)), filter_all (l := r.list) (q := fun p => klt k p.1) h2, filter_none (l := r.list) (q := fun p => klt p.1 k) (fun p hp => klt_asymm (h2 p hp))]
        simp

theorem PT.drop_list (k : ByteArray) : ∀ t : PT, Srt t.list → (PT.drop k t).list = rem k t.list
  | .nil, _ => by simp [PT.drop, PT.list, rem]
  | .node k' x' l r, h => by
    obtain ⟨hl, hr, h1, h2⟩ := Srt.parts h
    have ihl := drop_list k l hl
    have ihr := drop_list k r hr
    rw [PT.drop.eq_def]
    simp only []
    by_cases c1 : klt k k' = true
    · rw [if_pos c1, PT.join_list, ihl]
      simp only [PT.list, rem, List.filter_append, List.filter_cons]
      rw [if_pos (by simp [c1]), filter_all (l := r.list) (fun p hp => by simp [klt_trans c1 (h2 p hp)])]
    · rw [if_neg c1]
      by_cases c2 : klt k' k = true
      · rw [if_pos c2, PT.join_list, ihr]
        simp only [PT.list, rem, List.filter_append, List.filter_cons]
        rw [if_pos (by simp [c2]), filter_all (l := l.list) (fun p hp => by simp [klt_trans (h1 p hp) c2])]
      · rw [if_neg c2]
        obtain rfl := klt_tri (by simpa using c1) (by simpa using c2)
        simp only [PT.list, rem, List.filter_append, List.filter_cons]
        rw [if_neg (by simp [klt_irrefl]), filter_all (l := l.list) (fun p hp => by simp [h1 p hp]), filter_all (l := r.list) (fun p hp => by simp [h2 p hp])]
        cases r with
        | nil => simp [PT.list]
        | node a b c d =>
          simp only []
          rw [PT.join_list, PT.first_list (.node a b c d) (by simp)]

theorem look_append {k : ByteArray} : ∀ {l m : List Pr}, (∀ p ∈ l, k ≠ p.1) → look k (l ++ m) = look k m
  | [], _, _ => rfl
  | p :: l, m, h => by
    rw [List.cons_append, look, if_neg (h p List.mem_cons_self)]
    exact look_append fun q hq => h q (List.mem_cons_of_mem _ hq)
theorem look_append_left {k : ByteArray} : ∀ {l m : List Pr}, (∀ p ∈ m, k ≠ p.1) → look k (l ++ m) = look k l
  | [], m, h => by
    rw [List.nil_append]
    induction m with
    | nil => rfl
    | cons p m ih => show (if k = p.1 then some p.2 else look k m) = none; rw [if_neg (h p List.mem_cons_self)]; exact ih fun q hq => h q (List.mem_cons_of_mem _ hq)
  | p :: l, m, h => by
    rw [List.cons_append, look, look, look_append_left h]

theorem PT.get_look (k : ByteArray) : ∀ t : PT, Srt t.list → PT.get k t = look k t.list
  | .nil, _ => rfl
  | .node k' x' l r, h => by
    obtain ⟨hl, hr, h1, h2⟩ := Srt.parts h
    rw [PT.get, PT.list]
    by_cases c0 : k = k'
    · subst c0
      rw [if_pos rfl, look_append (fun p hp e => by have := h1 p hp; rw [← e, klt_irrefl] at this; cases this), look, if_pos rfl]
    · rw [if_neg c0]
      by_cases c1 : klt k k' = true
      · rw [if_pos c1, get_look k l hl]
        refine (look_append_left fun p hp e => ?_).symm
        rcases List.mem_cons.1 hp with rfl | hp
        · exact c0 e
        · have := h2 p hp; rw [← e] at this; exact absurd c1 (by rw [klt_asymm this]; simp)
      · rw [if_neg c1, get_look k r hr]
        have c2 : klt k' k = true := by
          rcases klt_cases k k' with h | h | h
          · exact absurd h c1
          · exact absurd h c0
          · exact h
        rw [look_append (fun p hp e => by have := klt_trans (h1 p hp) c2; rw [← e, klt_irrefl] at this; cases this), look, if_neg c0]

/-! ### sorted lists are told by what they have -/
theorem look_mem {k x : ByteArray} : ∀ {l : List Pr}, Srt l → (look k l = some x ↔ (k, x) ∈ l)
  | [], _ => by simp [look]
  | p :: l, h => by
    obtain ⟨h1, h2⟩ := List.pairwise_cons.1 h
    rw [look, List.mem_cons]
    by_cases c : k = p.1
    · subst c
      rw [if_pos rfl]
      constructor
      · intro e; left; cases e; rfl
      · rintro (e | e)
        · rw [← e]
        · have := h1 _ e; rw [klt_irrefl] at this; cases this
    · rw [if_neg c, look_mem h2]
      constructor
      · exact .inr
      · rintro (e | e)
        · rw [← e] at c; exact absurd rfl c
        · exact e

theorem srt_ext : ∀ {l m : List Pr}, Srt l → Srt m → (∀ k, look k l = look k m) → l = m
  | [], [], _, _, _ => rfl
  | [], q :: m, _, _, h => by have := h q.1; simp [look] at this
  | p :: l, [], _, _, h => by have := h p.1; simp [look] at this
  | p :: l, q :: m, hl, hm, h => by
    obtain ⟨h1, h2⟩ := List.pairwise_cons.1 hl
    obtain ⟨h3, h4⟩ := List.pairwise_cons.1 hm
    have hp : p ∈ q :: m := (look_mem hm).1 (by rw [← h]; simp [look])
    have hq : q ∈ p :: l := (look_mem hl).1 (by rw [h]; simp [look])
    have e : p = q := by
      rcases List.mem_cons.1 hp with e | hp
      · exact e
      · rcases List.mem_cons.1 hq with e | hq
        · exact e.symm
        · have := klt_trans (h1 q hq) (h3 p hp); rw [klt_irrefl] at this; cases this
    subst e
    rw [srt_ext h2 h4 fun k => ?_]
    by_cases c : k = p.1
    · subst c
      have n1 : ∀ x, look p.1 l ≠ some x := fun x e => by have := h1 _ ((look_mem h2).1 e); rw [klt_irrefl] at this; cases this
      have n2 : ∀ x, look p.1 m ≠ some x := fun x e => by have := h3 _ ((look_mem h4).1 e); rw [klt_irrefl] at this; cases this
      rw [Option.eq_none_iff_forall_ne_some.2 n1, Option.eq_none_iff_forall_ne_some.2 n2]
    · have := h k
      rwa [look, look, if_neg c, if_neg c] at this

theorem look_filter {k : ByteArray} {q : ByteArray → Bool} : ∀ {l : List Pr}, look k (l.filter fun p => q p.1) = if q k then look k l else none
  | [] => by simp [look]
  | p :: l => by
    rw [List.filter_cons]
    by_cases c : k = p.1
    · subst c
      cases hq : q p.1 with
      | true => rw [if_pos rfl, if_pos rfl, look, look, if_pos rfl, if_pos rfl]
      | false =>
        rw [if_neg (by simp), look_filter, hq]; simp
    · cases hq : q p.1 with
      | true => rw [if_pos rfl, look, look, if_neg c, if_neg c, look_filter]
      | false => rw [if_neg (by simp), look_filter, look, if_neg c]

theorem look_ins (k k' x : ByteArray) (l : List Pr) : look k (ins k' x l) = if k = k' then some x else look k l := by
  unfold ins
  by_cases c : k = k'
  · subst c
    rw [if_pos rfl, look_append (fun p hp e => by have := (List.mem_filter.1 hp).2; rw [← e, klt_irrefl] at this; cases this), look, if_pos rfl]
  · rw [if_neg c]
    rcases klt_cases k k' with h | h | h
    · rw [look_append_left (l := l.filter _) (fun p hp e => ?_), look_filter (q := fun a => klt a k'), if_pos h]
      rcases List.mem_cons.1 hp with rfl | hp
      · exact c e
      · have := (List.mem_filter.1 hp).2; rw [← e] at this; rw [klt_asymm h] at this; cases this
    · exact absurd h c
    · rw [look_append (fun p hp e => by have := (List.mem_filter.1 hp).2; rw [← e] at this; rw [klt_asymm h] at this; cases this), look, if_neg c, look_filter (q := fun a => klt k' a), if_pos h]
theorem look_rem (k k' : ByteArray) (l : List Pr) : look k (rem k' l) = if k = k' then none else look k l := by
  unfold rem
  rw [look_filter (q := fun a => klt a k' || klt k' a)]
  by_cases c : k = k'
  · subst c; simp [klt_irrefl]
  · rw [if_neg c]
    rcases klt_cases k k' with h | h | h
    · simp [h]
    · exact absurd h c
    · simp [h]

/-! ### from a key on -/
theorem PT.fromL_list (key : ByteArray) : ∀ t : PT, Srt t.list → PT.fromL key t = t.list.filter fun p => !klt p.1 key
  | .nil, _ => rfl
  | .node k x l r, h => by
    obtain ⟨hl, hr, h1, h2⟩ := Srt.parts h
    rw [PT.fromL, fromL_list key l hl, fromL_list key r hr]
    simp only [PT.list, List.filter_append, List.filter_cons]
    by_cases c1 : klt key k = true
    · rw [if_pos c1, klt_asymm c1]; simp
    · rw [if_neg c1]
      have hn : l.list.filter (fun p => !klt p.1 key) = [] := filter_none fun p hp => by
        rcases klt_cases key k with h | h | h
        · exact absurd h c1
        · subst h; simp [h1 p hp]
        · simp [klt_trans (h1 p hp) h]
      rw [hn]
      cases c2 : klt k key <;> simp

theorem klt_empty (k : ByteArray) : klt k ⟨#[]⟩ = false := by
  unfold klt
  rw [ByteArray.toList_eq ⟨#[]⟩]
  show Op.bytesLess _ [] = false
  cases k.toList <;> rfl

theorem PT.fromL_all {t : PT} (h : Srt t.list) : PT.fromL ⟨#[]⟩ t = t.list := by
  rw [PT.fromL_list _ t h]
  exact filter_all fun p _ => by rw [klt_empty]; rfl

theorem PT.Drop_list {t : PT} (h : Srt t.list) (k : ByteArray) : (PT.Drop k t).list = rem k t.list := by
  unfold PT.Drop
  cases hg : PT.get k t with
  | some x => rw [if_pos (by rfl)]; exact PT.drop_list k t h
  | none =>
    rw [if_neg (by simp)]
    rw [PT.get_look k t h] at hg
    refine srt_ext h (rem_srt h k) fun k' => ?_
    rw [look_rem]
    split
    · rename_i e; rw [e, hg]
    · rfl

theorem PT.does_srt {t : PT} (h : Srt t.list) (a : Deed) : Srt (PT.does t a).list := by
  unfold PT.does
  split
  · rw [PT.Drop_list h]; exact rem_srt h _
  · rw [PT.put_list _ _ _ h]; exact ins_srt h _ _
theorem PT.put_srt {t : PT} (h : Srt t.list) (k x : ByteArray) : Srt (PT.put k x t).list := by rw [PT.put_list _ _ _ h]; exact ins_srt h _ _

theorem srt_nil : Srt PT.nil.list := List.Pairwise.nil

theorem srt_get {l : List Pr} (h : Srt l) {i j : Nat} (hij : i < j) (hj : j < l.length) : klt l[i].1 l[j].1 = true :=
  List.pairwise_iff_getElem.1 h i j (by omega) hj hij

/-! ### TreeAgain -/
section
variable {T : PT} (h : Srt T.list)
include h
theorem PT.put_look (k k' x : ByteArray) : look k (PT.put k' x T).list = if k = k' then some x else look k T.list := by rw [PT.put_list _ _ _ h, look_ins]
theorem PT.get_put (k x : ByteArray) : PT.get k (PT.put k x T) = some x := by
  rw [PT.get_look _ _ (PT.put_srt h k x), PT.put_look h, if_pos rfl]
theorem PT.put_put (k x : ByteArray) : (PT.put k x (PT.put k x T)).list = (PT.put k x T).list :=
  srt_ext (PT.put_srt (PT.put_srt h k x) k x) (PT.put_srt h k x) fun k' => by
    rw [PT.put_look (PT.put_srt h k x), PT.put_look h]; split <;> rfl
theorem PT.Drop_srt (k : ByteArray) : Srt (PT.Drop k T).list := by rw [PT.Drop_list h]; exact rem_srt h k
theorem PT.Drop_put (k x : ByteArray) : (PT.Drop k (PT.put k x T)).list = (PT.Drop k T).list :=
  srt_ext (PT.Drop_srt (PT.put_srt h k x) k) (PT.Drop_srt h k) fun k' => by
    rw [PT.Drop_list (PT.put_srt h k x), PT.Drop_list h, look_rem, look_rem, PT.put_look h]; split <;> rfl
theorem PT.put_comm {k x k' x' : ByteArray} (hne : ¬ (k = k' ∧ x ≠ x')) : (PT.put k' x' (PT.put k x T)).list = (PT.put k x (PT.put k' x' T)).list :=
  srt_ext (PT.put_srt (PT.put_srt h k x) k' x') (PT.put_srt (PT.put_srt h k' x') k x) fun j => by
    rw [PT.put_look (PT.put_srt h k x), PT.put_look (PT.put_srt h k' x'), PT.put_look h, PT.put_look h]
    by_cases c1 : j = k'
    · by_cases c2 : j = k
      · have hk : k = k' := c2.symm.trans c1
        have hx : x = x' := Classical.byContradiction fun e => hne ⟨hk, e⟩
        rw [if_pos c1, if_pos c2, hx]
      · rw [if_pos c1, if_neg c2, if_pos c1]
    · by_cases c2 : j = k
      · rw [if_neg c1, if_pos c2, if_pos c2]
      · rw [if_neg c1, if_neg c2, if_neg c2, if_neg c1]
end

/-! ### TreePages -/
theorem filter_drop {F : List Pr} (hF : Srt F) {m : Nat} (hm : m < F.length) : (F.filter fun p => !klt p.1 F[m].1) = F.drop m := by
  have e := (List.take_append_drop m F).symm
  have h1 : (F.take m).filter (fun p => !klt p.1 F[m].1) = [] := filter_none fun p hp => by
    obtain ⟨i, hi, rfl⟩ := List.mem_iff_getElem.1 hp
    rw [List.getElem_take, srt_get hF (by rw [List.length_take] at hi; omega) hm]; rfl
  have h2 : (F.drop m).filter (fun p => !klt p.1 F[m].1) = F.drop m := filter_all fun p hp => by
    obtain ⟨i, hi, rfl⟩ := List.mem_iff_getElem.1 hp
    rw [List.getElem_drop]
    rw [List.length_drop] at hi
    rcases Nat.eq_zero_or_pos i with h | h
    · subst h; simp [klt_irrefl]
    · rw [klt_asymm (srt_get hF (show m < m + i by omega) (by omega))]; rfl
  have h3 := List.filter_append (p := fun p => !klt p.1 F[m].1) (F.take m) (F.drop m)
  rw [← e, h1, h2, List.nil_append] at h3
  exact h3

theorem PT.fromL_srt {t : PT} (h : Srt t.list) (key : ByteArray) : Srt (PT.fromL key t) := by rw [PT.fromL_list key t h]; exact h.filter _

theorem PT.fromL_drop {t : PT} (h : Srt t.list) {key : ByteArray} {F : List Pr} (hF : PT.fromL key t = F) {m : Nat} (hm : m < F.length) : PT.fromL F[m].1 t = F.drop m := by
  have hs := PT.fromL_srt h key
  have hl := PT.fromL_list key t h
  rw [hF] at hs hl
  rw [← filter_drop hs hm]
  have hge : klt F[m].1 key = false := by
    have hmem : F[m] ∈ t.list.filter fun p => !klt p.1 key := hl ▸ List.getElem_mem hm
    simpa using (List.mem_filter.1 hmem).2
  generalize F[m].1 = k' at hge ⊢
  rw [PT.fromL_list _ t h, hl, List.filter_filter]
  refine List.filter_congr fun p _ => ?_
  cases c : klt p.1 k' with
  | true => simp
  | false =>
    have : klt p.1 key = false := by
      cases c2 : klt p.1 key with
      | false => rfl
      | true =>
        rcases klt_cases k' key with h | h | h
        · rw [h] at hge; cases hge
        · subst h; rw [c2] at c; cases c
        · rw [klt_trans c2 h] at c; cases c
    rw [this]; rfl

/-! ### TreeOrder -/
def Sub (U A : List Pr) : Prop := ∀ k, look k A = none → look k U = none
def Has (U A : List Pr) (n : Nat) : Prop := ∀ j (h : j < A.length), n ≤ j → look A[j].1 U = some A[j].2

theorem look_at {A : List Pr} (h : Srt A) {j : Nat} (hj : j < A.length) : look A[j].1 A = some A[j].2 := (look_mem h).2 (List.getElem_mem hj)

theorem Sub.ins {U A : List Pr} (h : Sub U A) (hA : Srt A) {j : Nat} (hj : j < A.length) (x : ByteArray) : Sub (ins A[j].1 x U) A := by
  intro k hk
  rw [look_ins]
  split
  · rename_i e; subst e; rw [look_at hA hj] at hk; cases hk
  · exact h k hk
theorem Has.ins {U A : List Pr} (hA : Srt A) {j : Nat} (hj : j < A.length) (h : Has U A (j + 1)) : Has (ins A[j].1 A[j].2 U) A j := by
  intro i hi hij
  rw [look_ins]
  by_cases e : i = j
  · subst e; rw [if_pos rfl]
  · rw [if_neg (fun e' => by have := srt_get hA (show j < i by omega) hi; rw [e', klt_irrefl] at this; cases this)]
    exact h i hi (by omega)
theorem order_eq {U A : List Pr} (hU : Srt U) (hA : Srt A) (hs : Sub U A) (hh : Has U A 0) : U = A := by
  refine srt_ext hU hA fun k => ?_
  cases hk : look k A with
  | none => exact hs k hk
  | some x =>
    obtain ⟨j, hj, e⟩ := List.mem_iff_getElem.1 ((look_mem hA).1 hk)
    have := hh j hj (Nat.zero_le _)
    rw [e] at this
    exact this
end Go.TreePure

/- What stands within a directory: page by page; plain. -/
namespace Go.NamesPure
open Go Go.TreePure
/-- f stands ahead in k -/
def pre (f k : ByteArray) : Bool := f.toList.isPrefixOf k.toList
theorem lt_zero : ∀ (k x : List UInt8), (x < k ++ [0]) ↔ ¬ k < x
  | [], [] => by simp
  | [], y :: ys => by
    constructor
    · intro h _
      rcases List.cons_lt_cons_iff.1 (show y :: ys < 0 :: [] from h) with h | ⟨h, h2⟩
      · exact absurd h (by simp)
      · exact absurd h2 (by simp)
    · intro h; exact absurd (List.nil_lt_cons y ys) h
  | a :: k, [] => by simp
  | a :: k, y :: ys => by
    rw [List.cons_append, List.cons_lt_cons_iff, List.cons_lt_cons_iff, lt_zero k ys]
    constructor
    · rintro (h | ⟨rfl, h⟩) (h2 | ⟨h2, h3⟩)
      · exact absurd (UInt8.lt_trans h h2) (UInt8.lt_irrefl _)
      · subst h2; exact absurd h (UInt8.lt_irrefl _)
      · exact absurd h2 (UInt8.lt_irrefl _)
      · exact h h3
    · intro h
      by_cases h1 : y < a
      · exact .inl h1
      · by_cases h2 : a < y
        · exact absurd (.inl h2) h
        · have e : y = a := UInt8.le_antisymm (UInt8.not_lt.1 h2) (UInt8.not_lt.1 h1)
          exact .inr ⟨e, fun h3 => h (.inr ⟨e.symm, h3⟩)⟩
theorem pre_iff {f k : ByteArray} : pre f k = true ↔ ∃ t, k.toList = f.toList ++ t := by
  unfold pre
  rw [List.isPrefixOf_iff_prefix]
  exact ⟨fun ⟨t, h⟩ => ⟨t, h.symm⟩, fun ⟨t, h⟩ => ⟨t, h.symm⟩⟩
theorem pre_ge {f : List UInt8} : ∀ {t : List UInt8}, ¬ (f ++ t < f) := by
  induction f with
  | nil => intro t h; exact absurd h (by simp)
  | cons a f ih =>
    intro t h
    rw [List.cons_append, List.cons_lt_cons_iff] at h
    rcases h with h | ⟨_, h⟩
    · exact absurd h (UInt8.lt_irrefl _)
    · exact ih h
/-- what has not f ahead, but stands behind f, stands behind all that has f ahead -/
theorem beyond : ∀ {f x t : List UInt8}, ¬ x < f → (¬ ∃ s, x = f ++ s) → f ++ t < x
  | [], x, _, _, h => absurd ⟨x, rfl⟩ h
  | a :: f, [], _, h, _ => absurd (List.nil_lt_cons a f) h
  | a :: f, y :: x, t, h, h2 => by
    rw [List.cons_append, List.cons_lt_cons_iff]
    rw [List.cons_lt_cons_iff] at h
    by_cases h3 : a < y
    · exact .inl h3
    · have h4 : ¬ y < a := fun h5 => h (.inl h5)
      have e : y = a := UInt8.le_antisymm (UInt8.not_lt.1 h3) (UInt8.not_lt.1 h4)
      subst e
      refine .inr ⟨rfl, beyond (fun h5 => h (.inr ⟨rfl, h5⟩)) ?_⟩
      rintro ⟨s, rfl⟩
      exact h2 ⟨s, rfl⟩
/-- all from a key on -/
def fromK (l : List Pr) (c : ByteArray) : List Pr := l.filter fun p => !klt p.1 c
def within (l : List Pr) (f : ByteArray) : List Pr := l.filter fun p => pre f p.1
theorem fromK_srt {l : List Pr} (h : Srt l) (c : ByteArray) : Srt (fromK l c) := h.filter _
theorem pre_not_lt {f k : ByteArray} (h : pre f k = true) : klt k f = false := by
  obtain ⟨t, ht⟩ := pre_iff.1 h
  rw [← Bool.not_eq_true, klt_iff, ht]
  exact pre_ge
/-- what is within stands at the head of what comes from f on -/
theorem within_head {l : List Pr} (h : Srt l) (f : ByteArray) : ∃ R, fromK l f = within l f ++ R ∧ ∀ p ∈ R, pre f p.1 = false := by
  have hs := fromK_srt h f
  have e : within l f = (fromK l f).filter fun p => pre f p.1 := by
    unfold within fromK
    rw [List.filter_filter]
    refine List.filter_congr fun p _ => ?_
    cases hp : pre f p.1 with
    | false => rfl
    | true => rw [pre_not_lt hp]; rfl
  have hall : ∀ p ∈ fromK l f, klt p.1 f = false := fun p hp => by
    have := (List.mem_filter.1 hp).2
    simpa using this
  rw [e]
  clear e
  generalize fromK l f = M at *
  clear h
  induction M with
  | nil => exact ⟨[], rfl, fun p hp => by cases hp⟩
  | cons p M ih =>
    have hs2 : Srt M := (List.pairwise_cons.1 hs).2
    have hlt := (List.pairwise_cons.1 hs).1
    cases hp : pre f p.1 with
    | true =>
      obtain ⟨R, h1, h2⟩ := ih hs2 (fun q hq => hall q (List.mem_cons_of_mem _ hq))
      refine ⟨R, ?_, h2⟩
      have e : (p :: M).filter (fun p => pre f p.1) = p :: M.filter (fun p => pre f p.1) := List.filter_cons_of_pos (by simpa using hp)
      rw [e, List.cons_append, ← h1]
    | false =>
      have hno : ∀ q ∈ M, pre f q.1 = false := fun q hq => by
        cases hq2 : pre f q.1 with
        | false => rfl
        | true =>
          obtain ⟨t, ht⟩ := pre_iff.1 hq2
          have h1 := (klt_iff _ _).1 (hlt q hq)
          have h2 : ¬ p.1.toList < f.toList := fun h3 => by
            have := (klt_iff _ _).2 h3
            rw [hall p (List.mem_cons_self ..)] at this; cases this
          have h3 := beyond (t := t) h2 (fun ⟨s, hs⟩ => by
            have := pre_iff.2 ⟨s, hs⟩
            rw [hp] at this; cases this)
          rw [ht] at h1
          exact absurd (List.lt_trans h1 h3) (List.lt_irrefl _)
      refine ⟨p :: M, ?_, ?_⟩
      · rw [List.filter_cons_of_neg (by rw [hp]; simp)]
        have : M.filter (fun p => pre f p.1) = [] := filter_none hno
        rw [this]; rfl
      · intro q hq
        rcases List.mem_cons.1 hq with rfl | hq
        · exact hp
        · exact hno q hq
/-- a key with one sign more: the next one -/
def next (k : ByteArray) : ByteArray := k ++ ⟨#[0]⟩
theorem next_list (k : ByteArray) : (next k).toList = k.toList ++ [0] := by
  unfold next
  rw [ByteArray.toList_eq, ByteArray.toList_eq, ByteArray.data_append, Array.toList_append]
theorem klt_next (a k : ByteArray) : klt a (next k) = !klt k a := by
  rw [Bool.eq_iff_iff, klt_iff, next_list, lt_zero, ← klt_iff]
  simp
/-- the next page -/
theorem page_next {l : List Pr} (h : Srt l) {c : ByteArray} {m : Nat} (hm : m < (fromK l c).length) : fromK l (next (fromK l c)[m].1) = (fromK l c).drop (m + 1) := by
  have e : fromK l (next (fromK l c)[m].1) = (fromK l c).filter fun p => klt (fromK l c)[m].1 p.1 := by
    unfold fromK
    rw [List.filter_filter]
    refine List.filter_congr fun p _ => ?_
    rw [klt_next, Bool.not_not]
    cases h1 : klt ((l.filter fun p => !klt p.1 c)[m].1) p.1 with
    | false => rfl
    | true =>
      have hc : klt (l.filter fun p => !klt p.1 c)[m].1 c = false := by
        have hm2 : m < (l.filter fun p => !klt p.1 c).length := hm
        have := (List.mem_filter.1 (List.getElem_mem hm2)).2
        exact (Bool.not_eq_true' _).mp this
      have : klt p.1 c = false := by
        rw [← Bool.not_eq_true]
        intro h2
        rw [klt_trans h1 h2] at hc; cases hc
      rw [this]; rfl
  rw [e]
  have hs := fromK_srt h c
  generalize fromK l c = M at *
  have h0 : ∀ q : Pr → Bool, M.filter q = (M.take (m + 1)).filter q ++ (M.drop (m + 1)).filter q := fun q => by rw [← List.filter_append, List.take_append_drop]
  rw [h0]
  have h2 : (M.take (m + 1)).filter (fun p => klt M[m].1 p.1) = [] := by
    refine filter_none fun p hp => ?_
    obtain ⟨i, hi, rfl⟩ := List.getElem_of_mem hp
    rw [List.getElem_take]
    rw [List.length_take] at hi
    by_cases e : i = m
    · subst e; exact klt_irrefl _
    · exact klt_asymm (srt_get hs (by omega) hm)
  have h3 : (M.drop (m + 1)).filter (fun p => klt M[m].1 p.1) = M.drop (m + 1) := by
    refine filter_all fun p hp => ?_
    obtain ⟨i, hi, rfl⟩ := List.getElem_of_mem hp
    rw [List.getElem_drop]
    rw [List.length_drop] at hi
    exact srt_get hs (by omega) (by omega)
  rw [h2, h3, List.nil_append]
end Go.NamesPure

/- Numbers and texts as bytes; plain. -/
namespace Go.NamesPure
open Go Go.TreePure
/-- the lowest m bytes of a number, the highest of them first -/
def be (n : Nat) : Nat → List UInt8
  | 0 => []
  | m + 1 => UInt8.ofNat (n / 256 ^ m) :: be n m
theorem be_length (n : Nat) : ∀ m, (be n m).length = m
  | 0 => rfl
  | m + 1 => by rw [be, List.length_cons, be_length n m]
theorem be_get (n : Nat) : ∀ (m j : Nat) (h : j < (be n m).length), (be n m)[j] = UInt8.ofNat (n / 256 ^ (m - 1 - j))
  | 0, j, h => by rw [be_length] at h; omega
  | m + 1, 0, h => by
    show UInt8.ofNat (n / 256 ^ m) = _
    rw [show m + 1 - 1 - 0 = m by omega]
  | m + 1, j + 1, h => by
    show (be n m)[j]'(by rw [be_length] at h ⊢; omega) = _
    rw [be_get n m j, show m - 1 - j = m + 1 - 1 - (j + 1) by omega]
theorem be_take (n m j : Nat) (h : j < m) : (be n m).take (j + 1) = (be n m).take j ++ [UInt8.ofNat (n / 256 ^ (m - 1 - j))] := by
  have hl : j < (be n m).length := by rw [be_length]; exact h
  rw [List.take_succ_eq_append_getElem hl, be_get]
/-- a text behind its length -/
def textB (s : ByteArray) : List UInt8 := be s.size 4 ++ s.data.toList
theorem textB_length (s : ByteArray) : (textB s).length = s.size + 4 := by
  have h2 : s.size = s.data.toList.length := (Array.length_toList (xs := s.data)).symm
  unfold textB
  rw [List.length_append, be_length, ← h2]; omega
/-- bytes as a number -/
def num (l : List UInt8) : Nat := l.foldl (fun n c => n * 256 + c.toNat) 0
theorem num_fold (l : List UInt8) : ∀ a : Nat, l.foldl (fun n c => n * 256 + c.toNat) a = a * 256 ^ l.length + num l := by
  induction l with
  | nil => intro a; simp [num]
  | cons x l ih =>
    intro a
    have h1 := ih (a * 256 + x.toNat)
    have h2 := ih (0 * 256 + x.toNat)
    unfold num
    rw [List.foldl_cons, List.foldl_cons, h1, h2, List.length_cons, Nat.pow_succ]
    simp only [Nat.zero_mul, Nat.zero_add, Nat.add_mul]
    rw [Nat.mul_assoc, Nat.mul_comm 256]
    omega
theorem num_be (n : Nat) : ∀ m, num (be n m) = n % 256 ^ m
  | 0 => by simp [be, num, Nat.mod_one]
  | m + 1 => by
    rw [be, num, List.foldl_cons, num_fold, be_length, num_be n m, Nat.zero_mul, Nat.zero_add]
    have e : (UInt8.ofNat (n / 256 ^ m)).toNat = n / 256 ^ m % 256 := by simp
    rw [e, Nat.pow_succ, Nat.mod_mul, Nat.mul_comm, Nat.add_comm]
theorem num_lt (l : List UInt8) : num l < 256 ^ l.length := by
  induction l with
  | nil => simp [num]
  | cons x l ih =>
    rw [num, List.foldl_cons, num_fold, List.length_cons, Nat.pow_succ, Nat.zero_mul, Nat.zero_add]
    have hx := x.toNat_lt
    have : x.toNat * 256 ^ l.length ≤ 255 * 256 ^ l.length := Nat.mul_le_mul_right _ (by omega)
    omega
end Go.NamesPure

/- Maps known entry by entry: a block is a map that has just the pairs of a list, in the order in which they came. -/
namespace Go.XR
open Go.ChangeMaps Go.MapKept Go.RowKit
open Go.Maps (Keyed)

section
variable {κ ν : Type} [DecidableEq κ]
def aget (D : List (κ × ν)) (a : κ) : Option ν := (D.find? fun p => decide (p.1 = a)).map (·.2)
def aput (D : List (κ × ν)) (a : κ) (b : ν) : List (κ × ν) := if (aget D a).isSome then D.map fun p => if p.1 = a then (a, b) else p else D ++ [(a, b)]
def adel (D : List (κ × ν)) (a : κ) : List (κ × ν) := D.filter fun p => decide (p.1 ≠ a)

theorem aget_none {D : List (κ × ν)} {a : κ} : aget D a = none ↔ ∀ p ∈ D, p.1 ≠ a := by
  unfold aget
  rw [Option.map_eq_none_iff, List.find?_eq_none]
  simp
theorem aget_nil (a : κ) : aget ([] : List (κ × ν)) a = none := rfl
theorem aget_cons (p : κ × ν) (D : List (κ × ν)) (a : κ) : aget (p :: D) a = if p.1 = a then some p.2 else aget D a := by
  unfold aget
  rw [List.find?_cons]
  by_cases h : p.1 = a <;> simp [h]
theorem aget_mem {D : List (κ × ν)} (hD : (D.map (·.1)).Nodup) {a : κ} {b : ν} : aget D a = some b ↔ (a, b) ∈ D := by
  induction D with
  | nil => simp [aget_nil]
  | cons p D ih =>
    rw [List.map_cons, List.nodup_cons] at hD
    rw [aget_cons, List.mem_cons]
    by_cases h : p.1 = a
    · rw [if_pos h]
      constructor
      · intro e; cases e; left; rw [← h]
      · rintro (e | e)
        · rw [← e]
        · exact absurd (List.mem_map.2 ⟨(a, b), e, rfl⟩) (h ▸ hD.1)
    · rw [if_neg h, ih hD.2]
      constructor
      · exact .inr
      · rintro (e | e)
        · exact absurd (by rw [← e]) h
        · exact e
theorem aput_keys_old {D : List (κ × ν)} {a : κ} {b : ν} : (D.map fun p => if p.1 = a then (a, b) else p).map (·.1) = D.map (·.1) := by
  rw [List.map_map]
  refine List.map_congr_left fun p _ => ?_
  show (if p.1 = a then (a, b) else p).1 = p.1
  split
  · rename_i h; exact h.symm
  · rfl
theorem aput_nodup {D : List (κ × ν)} (hD : (D.map (·.1)).Nodup) (a : κ) (b : ν) : ((aput D a b).map (·.1)).Nodup := by
  unfold aput
  split
  · rw [aput_keys_old]; exact hD
  · rename_i h
    have hn : aget D a = none := by simpa using h
    rw [aget_none] at hn
    rw [List.map_append, List.nodup_append]
    refine ⟨hD, by simp, ?_⟩
    intro x hx y hy
    obtain ⟨p, hp, rfl⟩ := List.mem_map.1 hx
    simp at hy
    subst hy
    exact hn p hp
theorem adel_nodup {D : List (κ × ν)} (hD : (D.map (·.1)).Nodup) (a : κ) : ((adel D a).map (·.1)).Nodup :=
  hD.sublist ((List.filter_sublist).map _)
theorem aget_put (D : List (κ × ν)) (a c : κ) (b : ν) : aget (aput D a b) c = if c = a then some b else aget D c := by
  unfold aput
  by_cases h : (aget D a).isSome = true
  · rw [if_pos h]
    induction D with
    | nil => rw [aget_nil] at h; cases h
    | cons p D ih =>
      rw [List.map_cons, aget_cons, aget_cons]
      rw [aget_cons] at h
      by_cases hp : p.1 = a
      · rw [if_pos hp]
        by_cases hc : c = a
        · subst hc; rw [if_pos rfl, if_pos rfl]
        · have h1 : ¬ a = c := fun e => hc e.symm
          have h2 : ¬ p.1 = c := fun e => hc (by rw [← e, hp])
          rw [if_neg h1, if_neg hc, if_neg h2]
          clear ih h
          induction D with
          | nil => rfl
          | cons q D ih =>
            rw [List.map_cons, aget_cons, aget_cons, ih]
            by_cases hq : q.1 = a
            · rw [if_pos hq, if_neg h1, if_neg (fun e => hc (by rw [← e, hq]))]
            · rw [if_neg hq]
      · rw [if_neg hp]
        rw [if_neg hp] at h
        rw [ih h]
        by_cases hc : p.1 = c
        · rw [if_pos hc, if_pos hc, if_neg (fun e => hp (by rw [hc, e]))]
        · rw [if_neg hc, if_neg hc]
  · rw [if_neg h]
    have hn : aget D a = none := by simpa using h
    clear h
    induction D with
    | nil =>
      rw [List.nil_append, aget_cons, aget_nil]
      by_cases hc : c = a
      · subst hc; simp
      · rw [if_neg (fun e => hc e.symm), if_neg hc]
    | cons p D ih =>
      rw [aget_none] at hn
      have h1 := hn p (by simp)
      rw [List.cons_append, aget_cons, aget_cons, ih (aget_none.2 fun q hq => hn q (List.mem_cons_of_mem _ hq))]
      by_cases hc : p.1 = c
      · rw [if_pos hc, if_pos hc, if_neg (fun e => h1 (by rw [hc, e]))]
      · rw [if_neg hc, if_neg hc]
theorem aget_del (D : List (κ × ν)) (a c : κ) : aget (adel D a) c = if c = a then none else aget D c := by
  unfold adel
  induction D with
  | nil => simp [aget_nil]
  | cons p D ih =>
    rw [List.filter_cons, aget_cons]
    by_cases hp : p.1 = a
    · rw [if_neg (by simp [hp]), ih]
      by_cases hc : c = a
      · rw [if_pos hc, if_pos hc]
      · rw [if_neg hc, if_neg hc, if_neg (fun e => hc (by rw [← e, hp]))]
    · rw [if_pos (by simp [hp]), aget_cons, ih]
      by_cases hc : p.1 = c
      · rw [if_pos hc, if_pos hc, if_neg (fun e => hp (by rw [hc, e]))]
      · rw [if_neg hc, if_neg hc]
theorem aput_length (D : List (κ × ν)) (a : κ) (b : ν) : (aput D a b).length = if (aget D a).isSome then D.length else D.length + 1 := by
  unfold aput
  split
  · rw [List.length_map]
  · rw [List.length_append]; rfl
theorem aput_le (D : List (κ × ν)) (a : κ) (b : ν) : (aput D a b).length ≤ D.length + 1 := by
  rw [aput_length]; split <;> omega
theorem mem_adel {D : List (κ × ν)} {a : κ} {p : κ × ν} : p ∈ adel D a ↔ p ∈ D ∧ p.1 ≠ a := by
  unfold adel; rw [List.mem_filter]; simp
end

/-- the keys of a kind: how their values look -/
structure KeysOk {κ : Type} (P : Program) (k : TypeId) (kv : κ → Value) : Prop where
  keyed : Keyed P k
  ok : ∀ a, ∃ l, keyOf P k (kv a) = some l
  inj : ∀ a b, kv a = kv b → a = b

/-- block m of w is a map that has just the pairs D -/
def GM {κ ν : Type} (kv : κ → Value) (vv : ν → Value) (w : World) (m : Nat) (D : List (κ × ν)) : Prop :=
  ∃ es clock, w.heap[m]? = some (.map es clock) ∧ Stamped es clock ∧ es.toList.map (fun x => (x.key, x.val)) = D.map (fun p => (kv p.1, vv p.2))

section
variable {κ ν : Type} [DecidableEq κ] {kv : κ → Value} {vv : ν → Value} {P : Program} {k t e : TypeId} {w : World} {m : Nat} {D : List (κ × ν)}

omit [DecidableEq κ] in
theorem GM.lt (h : GM kv vv w m D) : m < w.heap.size := by
  obtain ⟨es, clock, hb, _⟩ := h
  exact (Array.getElem?_eq_some_iff.1 hb).1
omit [DecidableEq κ] in
theorem GM.block (h : GM kv vv w m D) {w' : World} (hb : w'.heap[m]? = w.heap[m]?) : GM kv vv w' m D := by
  obtain ⟨es, clock, h1, h2⟩ := h
  exact ⟨es, clock, hb.trans h1, h2⟩
omit [DecidableEq κ] in
theorem GM.below (h : GM kv vv w m D) {w' : World} (hb : Below w.heap.size w w') : GM kv vv w' m D := h.block (hb.block m h.lt)
omit [DecidableEq κ] in
theorem GM.kept (h : GM kv vv w m D) {w' : World} {row : Option Nat} (hg : w.grownBy w' row) (hne : some m ≠ row) : GM kv vv w' m D := h.block (hg.block m h.lt hne)
omit [DecidableEq κ] in
theorem GM.made (kv : κ → Value) (vv : ν → Value) (w : World) : GM kv vv (w.alloc (.map #[] 0)) w.heap.size [] :=
  ⟨#[], 0, (MapKept.heap_alloc w _).1, stamped_empty 0, rfl⟩
omit [DecidableEq κ] in
theorem GM.nodup (_ : KeysOk P k kv) (h : GM kv vv w m D) : (D.map (·.1)).Nodup := by
  obtain ⟨es, clock, _, h2, h3⟩ := h
  have h4 := ((stamped_iff es clock).1 h2).2.2
  have h5 : (es.toList.map (·.key)).Nodup := by
    unfold List.Nodup
    rw [List.pairwise_map]
    exact h4.imp fun h e => h e
  have h6 : es.toList.map (·.key) = (D.map (·.1)).map kv := by
    have := congrArg (List.map Prod.fst) h3
    rw [List.map_map, List.map_map] at this
    rw [List.map_map]
    exact this
  rw [h6] at h5
  exact List.Pairwise.of_map kv (fun a b h e => h (by rw [e])) h5

omit [DecidableEq κ] in
theorem gm_at {es : Array MapEntry} (h : es.toList.map (fun x => (x.key, x.val)) = D.map (fun p => (kv p.1, vv p.2))) {j : Nat} {e0 : MapEntry} (hj : es.toList[j]? = some e0) : ∃ a b, D[j]? = some (a, b) ∧ e0.key = kv a ∧ e0.val = vv b := by
  have h1 : (es.toList.map (fun x => (x.key, x.val)))[j]? = some (e0.key, e0.val) := by rw [List.getElem?_map, hj]; rfl
  rw [h, List.getElem?_map] at h1
  cases hd : D[j]? with
  | none => rw [hd] at h1; cases h1
  | some p =>
    rw [hd] at h1
    simp only [Option.map_some, Option.some.injEq, Prod.mk.injEq] at h1
    exact ⟨p.1, p.2, rfl, h1.1.symm, h1.2.symm⟩
omit [DecidableEq κ] in
theorem gm_mem {es : Array MapEntry} (h : es.toList.map (fun x => (x.key, x.val)) = D.map (fun p => (kv p.1, vv p.2))) {p : κ × ν} (hp : p ∈ D) : ∃ x ∈ es.toList, x.key = kv p.1 ∧ x.val = vv p.2 := by
  have h1 : (kv p.1, vv p.2) ∈ es.toList.map (fun x => (x.key, x.val)) := by rw [h]; exact List.mem_map.2 ⟨p, hp, rfl⟩
  obtain ⟨x, hx, he⟩ := List.mem_map.1 h1
  simp only [Prod.mk.injEq] at he
  exact ⟨x, hx, he.1, he.2⟩

/-- where a key stands -/
theorem gm_find (K : KeysOk P k kv) {es : Array MapEntry} {clock : Nat} (_ : Stamped es clock) (h : es.toList.map (fun x => (x.key, x.val)) = D.map (fun p => (kv p.1, vv p.2))) (hD : (D.map (·.1)).Nodup) (w : World) (a : κ) :
    ((Instr.findKey k (kv a) es.toList).run P w = .ok none w ∧ (∀ x ∈ es.toList, x.key ≠ kv a) ∧ aget D a = none) ∨
    ∃ j e0 b, (Instr.findKey k (kv a) es.toList).run P w = .ok (some (j, vv b)) w ∧ es.toList[j]? = some e0 ∧ e0.key = kv a ∧ e0.val = vv b ∧ D[j]? = some (a, b) ∧ aget D a = some b := by
  obtain ⟨l, hl⟩ := K.ok a
  rcases K.keyed.find w hl es.toList (fun x hx => by
      obtain ⟨j, hj⟩ := List.mem_iff_getElem?.1 hx
      obtain ⟨a', b', _, h2, _⟩ := gm_at h hj
      rw [h2]; exact K.ok a') with ⟨h1, h2⟩ | ⟨j, e0, h1, h2, h3⟩
  · refine .inl ⟨h1, h2, aget_none.2 fun p hp e => ?_⟩
    obtain ⟨x, hx, hk, _⟩ := gm_mem h hp
    exact h2 x hx (by rw [hk, e])
  · obtain ⟨a', b', hd, hk, hv⟩ := gm_at h h2
    have : a' = a := K.inj _ _ (hk ▸ h3)
    subst this
    exact .inr ⟨j, e0, b', by rw [← hv]; exact h1, h2, h3, hv, hd, (aget_mem hD).2 (List.mem_of_getElem? hd)⟩

theorem GM.lookup (h : GM kv vv w m D) (K : KeysOk P k kv) (ht : P.underlying t = some (.map k e)) {z : Value} (hz : (zeroValue e).run P w = .ok z w) (a : κ) :
    (Instr.lookup t (.map (some m)) (kv a) false).run P w = .ok (((aget D a).map vv).getD z) w := by
  have hD := h.nodup K
  obtain ⟨es, clock, hb, hs, h3⟩ := h
  obtain ⟨l, hl⟩ := K.ok a
  rcases gm_find K hs h3 hD w a with ⟨f1, f2, f3⟩ | ⟨j, e0, b, f1, f2, f3, f4, f5, f6⟩
  · rw [f3]
    simp [Instr.lookup, run_underlying ht, MapKept.run_getObj_map hb, K.keyed.check w _ hl, f1, hz, Result.andThen]
  · rw [f6]
    simp [Instr.lookup, run_underlying ht, MapKept.run_getObj_map hb, K.keyed.check w _ hl, f1, Result.andThen]
theorem GM.lookup_ok (h : GM kv vv w m D) (K : KeysOk P k kv) (ht : P.underlying t = some (.map k e)) {z : Value} (hz : (zeroValue e).run P w = .ok z w) (a : κ) :
    (Instr.lookup t (.map (some m)) (kv a) true).run P w = .ok (.tuple #[((aget D a).map vv).getD z, .bool (aget D a).isSome]) w := by
  have hD := h.nodup K
  obtain ⟨es, clock, hb, hs, h3⟩ := h
  obtain ⟨l, hl⟩ := K.ok a
  rcases gm_find K hs h3 hD w a with ⟨f1, f2, f3⟩ | ⟨j, e0, b, f1, f2, f3, f4, f5, f6⟩
  · rw [f3]
    simp [Instr.lookup, run_underlying ht, MapKept.run_getObj_map hb, K.keyed.check w _ hl, f1, hz, Result.andThen]
  · rw [f6]
    simp [Instr.lookup, run_underlying ht, MapKept.run_getObj_map hb, K.keyed.check w _ hl, f1, Result.andThen]
omit [DecidableEq κ] in
theorem lookup_nil (K : KeysOk P k kv) (ht : P.underlying t = some (.map k e)) {z : Value} (hz : (zeroValue e).run P w = .ok z w) (a : κ) (c : Bool) :
    (Instr.lookup t (.map none) (kv a) c).run P w = .ok (if c then .tuple #[z, .bool false] else z) w := by
  obtain ⟨l, hl⟩ := K.ok a
  have hf : (Instr.findKey k (kv a) []).run P w = .ok none w := by
    rcases K.keyed.find w hl [] (fun x hx => by cases hx) with ⟨h, _⟩ | ⟨j, e0, _, h, _⟩
    · exact h
    · cases h
  cases c <;> simp [Instr.lookup, run_underlying ht, K.keyed.check w _ hl, hf, hz, Result.andThen]

theorem set_aput (D : List (κ × ν)) (hD : (D.map (·.1)).Nodup) {j : Nat} {a : κ} {b c : ν} (hj : D[j]? = some (a, b)) : D.set j (a, c) = aput D a c := by
  unfold aput
  rw [if_pos (by rw [(aget_mem hD).2 (List.mem_of_getElem? hj)]; rfl)]
  refine List.ext_getElem? fun i => ?_
  rw [List.getElem?_set, List.getElem?_map]
  by_cases hij : j = i
  · subst hij
    rw [if_pos rfl, if_pos (List.getElem?_eq_some_iff.1 hj).1, hj]
    simp
  · rw [if_neg hij]
    cases hi : D[i]? with
    | none => rfl
    | some p =>
      rw [Option.map_some, if_neg]
      intro hp
      apply hij
      have h1 := (List.getElem?_eq_some_iff.1 hj)
      have h2 := (List.getElem?_eq_some_iff.1 hi)
      obtain ⟨l1, e1⟩ := h1
      obtain ⟨l2, e2⟩ := h2
      refine (List.getElem_inj (xs := D.map (·.1)) (h₀ := by simpa using l1) (h₁ := by simpa using l2) hD).1 ?_
      rw [List.getElem_map, List.getElem_map, e1, e2, hp]

theorem GM.update (h : GM kv vv w m D) (K : KeysOk P k kv) (ht : P.underlying t = some (.map k e)) (a : κ) (b : ν) :
    ∃ w', (Instr.mapUpdate t (.map (some m)) (kv a) (vv b)).run P w = .ok () w' ∧ GM kv vv w' m (aput D a b) ∧ w.grownBy w' (some m) ∧ w'.heap.size = w.heap.size := by
  have hD := h.nodup K
  obtain ⟨es, clock, hb, hs, h3⟩ := h
  obtain ⟨l, hl⟩ := K.ok a
  have hg : ∀ o, w.grownBy (setBlock w m o) (some m) := fun o => ⟨rfl, rfl, rfl, by simp [setBlock], fun i _ hi => heap_setBlock_other hb _ (fun e => hi (by rw [e]))⟩
  rcases gm_find K hs h3 hD w a with ⟨f1, f2, f3⟩ | ⟨j, e0, b0, f1, f2, f3, f4, f5, f6⟩
  · refine ⟨setBlock w m (.map (es.push ⟨kv a, vv b, clock⟩) (clock + 1)), ?_, ⟨_, _, heap_setBlock_same hb _, stamped_push hs f2, ?_⟩, hg _, by simp [setBlock]⟩
    · simp [Instr.mapUpdate, run_underlying ht, MapKept.run_getObj_map hb, K.keyed.check w _ hl, f1, MapKept.run_setObj_map _ hb, Result.andThen, setBlock]
    · unfold aput
      rw [f3]
      simp [h3]
  · have hj : es[j]? = some e0 := by simpa using f2
    have hkeyf : ∀ e', es[j]? = some e' → ({ e' with key := kv a, val := vv b } : MapEntry).key = e'.key := fun e' he' => by rw [hj] at he'; cases he'; exact f3.symm
    refine ⟨setBlock w m (.map (es.modify j (fun e' => { e' with key := kv a, val := vv b })) clock), ?_, ⟨_, _, heap_setBlock_same hb _, stamped_modify hs _ _ (fun _ _ => rfl) (fun e' _ he' => hkeyf e' he'), ?_⟩, hg _, by simp [setBlock]⟩
    · simp [Instr.mapUpdate, run_underlying ht, MapKept.run_getObj_map hb, K.keyed.check w _ hl, f1, hj, f3, K.keyed.stays w hl, MapKept.run_setObj_map _ hb, Result.andThen, setBlock]
    · have hlist : (es.modify j (fun e' => { e' with key := kv a, val := vv b })).toList = es.toList.set j { e0 with key := kv a, val := vv b } := by
        rw [Array.toList_modify]
        refine List.ext_getElem? fun i => ?_
        rw [List.getElem?_modify, List.getElem?_set]
        by_cases c : j = i
        · subst c
          rw [f2, if_pos rfl, if_pos (List.getElem?_eq_some_iff.1 f2).1]
          simp
        · rw [if_neg c]
          cases hi : es.toList[i]? <;> simp [c]
      rw [hlist, List.map_set, h3, ← set_aput D hD f5, List.map_set]

omit [DecidableEq κ] in
theorem map_erase {α β : Type} (f : α → β) : ∀ (l : List α) (j : Nat), (l.eraseIdx j).map f = (l.map f).eraseIdx j
  | [], j => by simp
  | x :: l, 0 => rfl
  | x :: l, j + 1 => by rw [List.eraseIdx_cons_succ, List.map_cons, List.map_cons, List.eraseIdx_cons_succ, map_erase f l j]
theorem erase_adel (hD : (D.map (·.1)).Nodup) {j : Nat} {a : κ} {b : ν} (hj : D[j]? = some (a, b)) : D.eraseIdx j = adel D a := by
  induction D generalizing j with
  | nil => simp at hj
  | cons p D ih =>
    rw [List.map_cons, List.nodup_cons] at hD
    cases j with
    | zero =>
      simp at hj
      subst hj
      rw [List.eraseIdx_cons_zero]
      unfold adel
      rw [List.filter_cons, if_neg (by simp)]
      refine (List.filter_eq_self.2 fun q hq => ?_).symm
      refine decide_eq_true fun e => hD.1 ?_
      show a ∈ _
      rw [← e]; exact List.mem_map.2 ⟨q, hq, rfl⟩
    | succ j =>
      rw [List.getElem?_cons_succ] at hj
      rw [List.eraseIdx_cons_succ, ih hD.2 hj]
      unfold adel
      rw [List.filter_cons, if_pos]
      refine decide_eq_true fun e => hD.1 ?_
      rw [e]; exact List.mem_map.2 ⟨(a, b), List.mem_of_getElem? hj, rfl⟩

theorem GM.delete {ty : TypeId} (h : GM kv vv w m D) (K : KeysOk P k kv) (ht : P.underlying t = some (.map k e)) (a : κ) :
    ∃ w', (Builtin.delete_ #[t, k] ty #[.map (some m), kv a]).run P w = .ok (.tuple #[]) w' ∧ GM kv vv w' m (adel D a) ∧ w.grownBy w' (some m) ∧ w'.heap.size = w.heap.size := by
  have hD := h.nodup K
  obtain ⟨es, clock, hb, hs, h3⟩ := h
  obtain ⟨l, hl⟩ := K.ok a
  have hg : ∀ o, w.grownBy (setBlock w m o) (some m) := fun o => ⟨rfl, rfl, rfl, by simp [setBlock], fun i _ hi => heap_setBlock_other hb _ (fun e => hi (by rw [e]))⟩
  rcases gm_find K hs h3 hD w a with ⟨f1, f2, f3⟩ | ⟨j, e0, b0, f1, f2, f3, f4, f5, f6⟩
  · refine ⟨setBlock w m (.map es clock), ?_, ⟨_, _, heap_setBlock_same hb _, hs, ?_⟩, hg _, by simp [setBlock]⟩
    · simp [Builtin.delete_, run_underlying ht, MapKept.run_getObj_map hb, K.keyed.check w _ hl, f1, MapKept.run_setObj_map _ hb, Result.andThen, setBlock]
    · rw [h3]
      unfold adel
      rw [List.filter_eq_self.2]
      intro p hp
      exact decide_eq_true (aget_none.1 f3 p hp)
  · have hjl : j < es.toList.length := (List.getElem?_eq_some_iff.1 f2).1
    have hjs : j < es.size := by simpa using hjl
    have hsub : (es.eraseIdxIfInBounds j).toList = es.toList.eraseIdx j := by
      unfold Array.eraseIdxIfInBounds
      rw [dif_pos hjs]
      simp
    refine ⟨setBlock w m (.map (es.eraseIdxIfInBounds j) clock), ?_, ⟨_, _, heap_setBlock_same hb _, stamped_erase hs j, ?_⟩, hg _, by simp [setBlock]⟩
    · simp [Builtin.delete_, run_underlying ht, MapKept.run_getObj_map hb, K.keyed.check w _ hl, f1, MapKept.run_setObj_map _ hb, Result.andThen, setBlock]
    · rw [hsub, map_erase, h3, ← erase_adel hD f5, map_erase]
omit [DecidableEq κ] in
theorem delete_nil {ty : TypeId} (K : KeysOk P k kv) (ht : P.underlying t = some (.map k e)) (a : κ) :
    (Builtin.delete_ #[t, k] ty #[.map none, kv a]).run P w = .ok (.tuple #[]) w := by
  obtain ⟨l, hl⟩ := K.ok a
  simp [Builtin.delete_, run_underlying ht, K.keyed.check w _ hl, Result.andThen]

/-- a range over a map is under way: the iterator's block r; the pairs that are still to come -/
def GR (kv : κ → Value) (vv : ν → Value) (w : World) (m r : Nat) (D left : List (κ × ν)) : Prop :=
  ∃ es clock since seen c0, w.heap[m]? = some (.map es clock) ∧ Stamped es clock ∧ es.toList.map (fun x => (x.key, x.val)) = D.map (fun p => (kv p.1, vv p.2)) ∧
    w.heap[r]? = some (.mapIter (some m) since seen c0) ∧ (∀ x ∈ es.toList, x.born < since) ∧ since ≤ c0 ∧ since ≤ clock ∧
    (es.toList.filter fun x => !seen.contains x.born).map (fun x => (x.key, x.val)) = left.map (fun p => (kv p.1, vv p.2)) ∧ left.Sublist D
omit [DecidableEq κ] in
theorem GR.map {r : Nat} {left : List (κ × ν)} (h : GR kv vv w m r D left) : GM kv vv w m D := by
  obtain ⟨es, clock, _, _, _, h1, h2, h3, _⟩ := h
  exact ⟨es, clock, h1, h2, h3⟩
omit [DecidableEq κ] in
theorem GR.sub {r : Nat} {left : List (κ × ν)} (h : GR kv vv w m r D left) : left.Sublist D := by
  obtain ⟨es, clock, _, _, _, _, _, _, _, _, _, _, _, h⟩ := h; exact h
omit [DecidableEq κ] in
theorem GR.lt {r : Nat} {left : List (κ × ν)} (h : GR kv vv w m r D left) : r < w.heap.size := by
  obtain ⟨es, clock, _, _, _, _, _, _, h, _⟩ := h
  exact (Array.getElem?_eq_some_iff.1 h).1
omit [DecidableEq κ] in
theorem GR.block {r : Nat} {left : List (κ × ν)} (h : GR kv vv w m r D left) {w' : World} (hb : w'.heap[m]? = w.heap[m]?) (hr : w'.heap[r]? = w.heap[r]?) : GR kv vv w' m r D left := by
  obtain ⟨es, clock, since, seen, c0, h1, h2, h3, h4, h5⟩ := h
  exact ⟨es, clock, since, seen, c0, hb.trans h1, h2, h3, hr.trans h4, h5⟩
omit [DecidableEq κ] in
theorem GR.below {r : Nat} {left : List (κ × ν)} (h : GR kv vv w m r D left) {w' : World} (hb : Below w.heap.size w w') : GR kv vv w' m r D left := h.block (hb.block m h.map.lt) (hb.block r h.lt)
omit [DecidableEq κ] in
theorem GR.kept {r : Nat} {left : List (κ × ν)} (h : GR kv vv w m r D left) {w' : World} {row : Option Nat} (hg : w.grownBy w' row) (hne : some m ≠ row) (hnr : some r ≠ row) : GR kv vv w' m r D left := h.block (hg.block m h.map.lt hne) (hg.block r h.lt hnr)

omit [DecidableEq κ] in
theorem GM.range (h : GM kv vv w m D) (ht : P.underlying t = some (.map k e)) :
    ∃ w', (Instr.range t (.map (some m))).run P w = .ok (.pointer (some ⟨w.heap.size, 0, none⟩)) w' ∧ GR kv vv w' m w.heap.size D D ∧ Below w.heap.size w w' ∧ w'.heap.size = w.heap.size + 1 := by
  have hlt := h.lt
  obtain ⟨es, clock, hb, hs, h3⟩ := h
  refine ⟨_, run_range_map w t k e m es clock ht hb, ⟨es, clock, clock, #[], clock, ((MapKept.heap_alloc w _).2 m hlt).trans hb, hs, h3, (MapKept.heap_alloc w _).1, hs.1, Nat.le_refl _, Nat.le_refl _, ?_, List.Sublist.refl _⟩, (Below.refl _ _).alloc (Nat.le_refl _) _, by simp⟩
  rw [← h3]
  congr 1
  exact List.filter_eq_self.2 fun x _ => by simp

theorem GR.next {r : Nat} {left : List (κ × ν)} (h : GR kv vv w m r D left) (K : KeysOk P k kv) (ty : TypeId) :
    (left = [] ∧ (Instr.next (.pointer (some ⟨r, 0, none⟩)) false ty).run P w = .ok (.tuple #[.bool false]) w) ∨
    ∃ a b w', (a, b) ∈ left ∧ (Instr.next (.pointer (some ⟨r, 0, none⟩)) false ty).run P w = .ok (.tuple #[.bool true, kv a, vv b]) w' ∧ GR kv vv w' m r D (adel left a) ∧ w.grownBy w' (some r) ∧ w'.heap.size = w.heap.size ∧
      (Instr.entry (.pointer (some ⟨r, 0, none⟩))).run P w' = .ok (.tuple #[kv a, vv b]) w' := by
  have hD := h.map.nodup K
  obtain ⟨es, clock, since, seen, c0, hb, hs, h3, hr, hold, hsc, hsk, hl, hsub⟩ := h
  have hne : r ≠ m := by intro e; rw [e, hb] at hr; cases hr
  have hleft : (leftOf es seen).toList = es.toList.filter fun x => !seen.contains x.born := by unfold leftOf; rw [Array.toList_filter]
  rcases run_next_at (P := P) w ty r m since c0 seen es clock hr hb hold hsc with ⟨h0, hrun⟩ | ⟨x, hx, w1, hal, hrun⟩
  · refine .inl ⟨?_, hrun⟩
    have h1 : (leftOf es seen).toList = [] := by rw [← List.length_eq_zero_iff, Array.length_toList]; exact h0
    rw [← hleft, h1] at hl
    cases left with
    | nil => rfl
    | cons p l => simp at hl
  · rw [hleft] at hx
    obtain ⟨hxm, hxs⟩ := List.mem_filter.1 hx
    have hx2 : (x.key, x.val) ∈ left.map (fun p => (kv p.1, vv p.2)) := by rw [← hl]; exact List.mem_map.2 ⟨x, hx, rfl⟩
    obtain ⟨p, hp, he⟩ := List.mem_map.1 hx2
    simp only [Prod.mk.injEq] at he
    have hr1 : w1.heap[r]? = some (.mapIter (some m) since seen c0) := by rcases hal with rfl | rfl <;> exact hr
    have hb1 : w1.heap[m]? = some (.map es clock) := by rcases hal with rfl | rfl <;> exact hb
    have hset := heap_set (o' := .mapIter (some m) since (seen.push x.born) clock) hr1
    have hb' : (setBlock w1 r (.mapIter (some m) since (seen.push x.born) clock)).heap[m]? = some (.map es clock) := (hset.2 m (fun e1 => hne e1.symm)).trans hb1
    have hst := (stamped_iff es clock).1 hs
    refine .inr ⟨p.1, p.2, _, hp, by rw [he.1, he.2]; exact hrun, ⟨es, clock, since, seen.push x.born, clock, hb', hs, h3, hset.1, hold, hsk, hsk, ?_, (List.filter_sublist).trans hsub⟩, ?_, ?_, ?_⟩
    · -- the entries that are left: the ones of other keys
      have h4 : (es.toList.filter fun y => !(seen.push x.born).contains y.born) = (es.toList.filter fun y => !seen.contains y.born).filter fun y => decide (y.born ≠ x.born) := by
        rw [List.filter_filter]
        refine List.filter_congr fun y _ => ?_
        by_cases c : y.born = x.born <;> simp [c]
      rw [h4]
      have h5 : ∀ (E : List MapEntry) (L : List (κ × ν)), E.map (fun x => (x.key, x.val)) = L.map (fun p => (kv p.1, vv p.2)) → (∀ y ∈ E, (y.born = x.born ↔ y.key = x.key)) →
          (E.filter fun y => decide (y.born ≠ x.born)).map (fun x => (x.key, x.val)) = (adel L p.1).map (fun p => (kv p.1, vv p.2)) := by
        intro E
        induction E with
        | nil => intro L hL _; cases L with
          | nil => rfl
          | cons q L => simp at hL
        | cons y E ih =>
          intro L hL hy
          cases L with
          | nil => simp at hL
          | cons q L =>
            rw [List.map_cons, List.map_cons, List.cons.injEq] at hL
            have hq := hL.1
            simp only [Prod.mk.injEq] at hq
            have ih' := ih L hL.2 fun z hz => hy z (List.mem_cons_of_mem _ hz)
            unfold adel at ih' ⊢
            rw [List.filter_cons, List.filter_cons]
            have hiff : y.born = x.born ↔ q.1 = p.1 := by
              rw [hy y (by simp), hq.1, ← he.1]
              exact ⟨K.inj _ _, fun e => by rw [e]⟩
            by_cases c : q.1 = p.1
            · rw [if_neg (by simp [hiff.2 c]), if_neg (by simp [c])]; exact ih'
            · rw [if_pos (by simpa using fun e => c (hiff.1 e)), if_pos (by simpa using c), List.map_cons, List.map_cons, ih', hq.1, hq.2]
      refine h5 _ _ hl fun y hy => ?_
      have hym := (List.mem_filter.1 hy).1
      constructor
      · intro e; rw [born_inj hst.2.1 hym hxm e]
      · intro e; rw [entry_key hst.2.2 hym hxm e]
    · rcases hal with rfl | rfl <;> exact ⟨rfl, rfl, rfl, by simp [setBlock], fun i _ hi => hset.2 i (fun e1 => hi (by rw [e1]))⟩
    · rcases hal with rfl | rfl <;> simp [setBlock]
    · rw [he.1, he.2]
      exact run_entry_at _ r m since seen es clock x hset.1 hb' hxm hst.2.1
where
  entry_key : ∀ {l : List MapEntry}, l.Pairwise (fun x y => x.key ≠ y.key) → ∀ {x y : MapEntry}, x ∈ l → y ∈ l → x.key = y.key → x = y
  | [], _, _, _, hx, _, _ => by simp at hx
  | a :: r, hp, x, y, hx, hy, h => by
    obtain ⟨h1, h2⟩ := List.pairwise_cons.1 hp
    rcases List.mem_cons.1 hx with ex | hx'
    · rcases List.mem_cons.1 hy with ey | hy'
      · rw [ex, ey]
      · exact absurd (ex ▸ h) (h1 y hy')
    · rcases List.mem_cons.1 hy with ey | hy'
      · exact absurd (ey ▸ h).symm (h1 x hx')
      · exact entry_key h2 hx' hy' h
/-- the store, at the operation -/
theorem wpList_gm_update {ops : Array Oper} {rest : List Oper} {o : Oper} {a : Act} {Q : Exit → Act → World → Prop}
    (hg : o.guard = none) (x y v : Operand) (t : TypeId) (hop : o.op = Op.mapUpdate t x y v) {k e : TypeId} (K : KeysOk P k kv) (ht : P.underlying t = some (.map k e)) (vv : ν → Value) (m : Nat) (D : List (κ × ν)) (c : κ) (b : ν)
    (hm : a.eval x = .map (some m)) (hx : a.eval y = kv c) (hv : a.eval v = vv b) (h : GM kv vv w m D)
    (hK : ∀ w', GM kv vv w' m (aput D c b) → w.grownBy w' (some m) → w'.heap.size = w.heap.size → wpList P ops Q rest (a.put o.dst undef) w') : wpList P ops Q (o :: rest) a w := by
  refine wpList_plain hg fun K' hK' => ?_
  obtain ⟨w', hrun, r1, r2, r3⟩ := h.update (P := P) K ht c b
  unfold Oper.wp execOp
  simp only [hop, hm, hx, hv, Sem.run_bind, hrun, Result.andThen_ok, Sem.run_pure]
  exact hK' _ _ (hK w' r1 r2 r3)
theorem wp_gm_update {o : Oper} {a : Act} {K : Act → World → Prop} {Q : Exit → Act → World → Prop}
    (x y v : Operand) (t : TypeId) (hop : o.op = Op.mapUpdate t x y v) {k e : TypeId} (KK : KeysOk P k kv) (ht : P.underlying t = some (.map k e)) (vv : ν → Value) (m : Nat) (D : List (κ × ν)) (c : κ) (b : ν)
    (hm : a.eval x = .map (some m)) (hx : a.eval y = kv c) (hv : a.eval v = vv b) (h : GM kv vv w m D)
    (hK : ∀ w', GM kv vv w' m (aput D c b) → w.grownBy w' (some m) → w'.heap.size = w.heap.size → K (a.put o.dst undef) w') : o.wp P a w K Q := by
  obtain ⟨w', hrun, r1, r2, r3⟩ := h.update (P := P) KK ht c b
  unfold Oper.wp execOp
  simp only [hop, hm, hx, hv, Sem.run_bind, hrun, Result.andThen_ok, Sem.run_pure]
  exact hK w' r1 r2 r3
omit [DecidableEq κ] in
theorem run_makeMap_hint {k e : TypeId} (ht : P.underlying t = some (.map k e)) (h : Int) (w : World) : (Instr.makeMap t (some (.int .i64 h))).run P w = .ok (.map (some w.heap.size)) (w.alloc (.map #[] 0)) := by
  unfold Instr.makeMap
  simp only [Sem.run_bind, run_underlying ht, Result.andThen_ok, asInt, Sem.run_pure]
  rfl
end
end Go.XR
