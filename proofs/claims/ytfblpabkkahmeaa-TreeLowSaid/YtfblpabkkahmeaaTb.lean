/- Balance: put and drop keep it; a balanced tree is low. Plain laws. -/
import Derived.Test.YtfblpabkkahmeaaPl
namespace Go.TreePure
def PT.Bal : PT → Prop
  | .nil => True
  | .node _ _ l r => l.Bal ∧ r.Bal ∧ l.ht ≤ r.ht + 1 ∧ r.ht ≤ l.ht + 1

theorem sq (a b : Nat) : (a + b) * (a + b) = a * a + 2 * (a * b) + b * b := by
  rw [Nat.add_mul, Nat.mul_add, Nat.mul_add, Nat.mul_comm b a]; omega
theorem PT.low : ∀ {t : PT}, t.Bal → 2 ^ t.ht ≤ (t.size + 1) * (t.size + 1)
  | .nil, _ => by simp [PT.ht, PT.size]
  | .node _ _ l r, ⟨hl, hr, h1, h2⟩ => by
    have il := low hl
    have ir := low hr
    simp only [PT.ht, PT.size]
    have e : (l.size + r.size + 1 + 1) * (l.size + r.size + 1 + 1) = (l.size + 1) * (l.size + 1) + 2 * ((l.size + 1) * (r.size + 1)) + (r.size + 1) * (r.size + 1) := by
      rw [show l.size + r.size + 1 + 1 = (l.size + 1) + (r.size + 1) by omega]; exact sq _ _
    rw [e]
    generalize l.size + 1 = a at *
    generalize r.size + 1 = b at *
    have hab : a * a ≤ a * b ∨ b * b ≤ a * b := by
      rcases Nat.le_total a b with h | h
      · exact .inl (Nat.mul_le_mul_left _ h)
      · exact .inr (Nat.mul_le_mul_right _ h)
    rw [Nat.pow_succ]
    by_cases c : r.ht ≤ l.ht
    · rw [Nat.max_eq_left c]
      have h3 : 2 ^ l.ht ≤ 2 * 2 ^ r.ht := by
        rw [Nat.mul_comm, ← Nat.pow_succ]
        exact Nat.pow_le_pow_right (by omega) (by omega)
      rcases hab with h | h <;> omega
    · rw [Nat.max_eq_right (by omega)]
      have h3 : 2 ^ r.ht ≤ 2 * 2 ^ l.ht := by
        rw [Nat.mul_comm, ← Nat.pow_succ]
        exact Nat.pow_le_pow_right (by omega) (by omega)
      rcases hab with h | h <;> omega

theorem PT.join_bal (k x : ByteArray) {l r : PT} (hl : l.Bal) (hr : r.Bal) (h1 : l.ht ≤ r.ht + 2) (h2 : r.ht ≤ l.ht + 2) :
    (PT.join k x l r).Bal ∧ max l.ht r.ht ≤ (PT.join k x l r).ht ∧ (PT.join k x l r).ht ≤ max l.ht r.ht + 1 ∧ (l.ht ≤ r.ht + 1 → r.ht ≤ l.ht + 1 → (PT.join k x l r).ht = max l.ht r.ht + 1) := by
  unfold PT.join
  split
  · cases l with
    | nil => simp [PT.ht] at *
    | node lk lx ll lr =>
      obtain ⟨a1, a2, a3, a4⟩ := hl
      simp only [PT.joinL]
      split
      · simp only [PT.Bal, PT.ht] at *
        refine ⟨⟨a1, ⟨a2, hr, ?_, ?_⟩, ?_, ?_⟩, ?_, ?_, ?_⟩ <;> omega
      · cases lr with
        | nil => simp [PT.ht] at *
        | node mk mx ml mr =>
          obtain ⟨b1, b2, b3, b4⟩ := a2
          simp only [PT.Bal, PT.ht] at *
          refine ⟨⟨⟨a1, b1, ?_, ?_⟩, ⟨b2, hr, ?_, ?_⟩, ?_, ?_⟩, ?_, ?_, ?_⟩ <;> omega
  · split
    · cases r with
      | nil => simp [PT.ht] at *
      | node rk rx rl rr =>
        obtain ⟨a1, a2, a3, a4⟩ := hr
        simp only [PT.joinR]
        split
        · simp only [PT.Bal, PT.ht] at *
          refine ⟨⟨⟨hl, a1, ?_, ?_⟩, a2, ?_, ?_⟩, ?_, ?_, ?_⟩ <;> omega
        · cases rl with
          | nil => simp [PT.ht] at *
          | node mk mx ml mr =>
            obtain ⟨b1, b2, b3, b4⟩ := a1
            simp only [PT.Bal, PT.ht] at *
            refine ⟨⟨⟨hl, b1, ?_, ?_⟩, ⟨b2, a2, ?_, ?_⟩, ?_, ?_⟩, ?_, ?_, ?_⟩ <;> omega
    · simp only [PT.Bal, PT.ht]
      refine ⟨⟨hl, hr, ?_, ?_⟩, ?_, ?_, ?_⟩ <;> first | omega | (intros; trivial)

theorem PT.put_bal (k x : ByteArray) : ∀ {t : PT}, t.Bal → (PT.put k x t).Bal ∧ t.ht ≤ (PT.put k x t).ht ∧ (PT.put k x t).ht ≤ t.ht + 1
  | .nil, _ => by simp [PT.put, PT.Bal, PT.ht]
  | .node k' x' l r, ⟨hl, hr, h1, h2⟩ => by
    obtain ⟨l1, l2, l3⟩ := put_bal k x hl
    obtain ⟨r1, r2, r3⟩ := put_bal k x hr
    simp only [PT.put]
    split
    · obtain ⟨j1, j2, j3, j4⟩ := PT.join_bal k' x' l1 hr (by omega) (by omega)
      simp only [PT.ht]
      refine ⟨j1, ?_, ?_⟩ <;> omega
    · split
      · obtain ⟨j1, j2, j3, j4⟩ := PT.join_bal k' x' hl r1 (by omega) (by omega)
        simp only [PT.ht]
        refine ⟨j1, ?_, ?_⟩ <;> omega
      · simp only [PT.ht, PT.Bal]
        exact ⟨⟨hl, hr, h1, h2⟩, by omega, by omega⟩

theorem PT.first_bal : ∀ {t : PT}, t ≠ .nil → t.Bal → t.first.2.Bal ∧ t.ht ≤ t.first.2.ht + 1 ∧ t.first.2.ht ≤ t.ht
  | .nil, h, _ => absurd rfl h
  | .node k x .nil r, _, ⟨_, hr, h1, h2⟩ => by
    simp only [PT.first, PT.ht] at *
    refine ⟨hr, ?_, ?_⟩ <;> omega
  | .node k x (.node a b c d) r, _, ⟨hl, hr, h1, h2⟩ => by
    obtain ⟨f1, f2, f3⟩ := first_bal (t := .node a b c d) (by simp) hl
    obtain ⟨j1, j2, j3, j4⟩ := PT.join_bal k x f1 hr (by omega) (by omega)
    rw [PT.first]
    rw [show (PT.node k x (PT.node a b c d) r).ht = max (PT.node a b c d).ht r.ht + 1 from rfl]
    simp only []
    refine ⟨j1, ?_, ?_⟩ <;> omega

theorem PT.drop_bal (k : ByteArray) : ∀ {t : PT}, t.Bal → (PT.drop k t).Bal ∧ t.ht ≤ (PT.drop k t).ht + 1 ∧ (PT.drop k t).ht ≤ t.ht
  | .nil, _ => by simp [PT.drop, PT.Bal, PT.ht]
  | .node k' x' l r, ⟨hl, hr, h1, h2⟩ => by
    obtain ⟨l1, l2, l3⟩ := drop_bal k hl
    obtain ⟨r1, r2, r3⟩ := drop_bal k hr
    rw [PT.drop.eq_def]
    simp only [PT.ht]
    split
    · obtain ⟨j1, j2, j3, j4⟩ := PT.join_bal k' x' l1 hr (by omega) (by omega)
      refine ⟨j1, ?_, ?_⟩ <;> omega
    · split
      · obtain ⟨j1, j2, j3, j4⟩ := PT.join_bal k' x' hl r1 (by omega) (by omega)
        refine ⟨j1, ?_, ?_⟩ <;> omega
      · cases r with
        | nil => simp only [PT.ht] at *; refine ⟨hl, ?_, ?_⟩ <;> omega
        | node a b c d =>
          obtain ⟨f1, f2, f3⟩ := PT.first_bal (t := .node a b c d) (by simp) hr
          obtain ⟨j1, j2, j3, j4⟩ := PT.join_bal (PT.node a b c d).first.1.1 (PT.node a b c d).first.1.2 hl f1 (by omega) (by omega)
          simp only []
          refine ⟨j1, ?_, ?_⟩ <;> omega

theorem PT.does_bal {t : PT} (h : t.Bal) (a : Deed) : (PT.does t a).Bal := by
  unfold PT.does
  split
  · unfold PT.Drop
    split
    · exact (PT.drop_bal a.k h).1
    · exact h
  · exact (PT.put_bal a.k a.x h).1

theorem PT.size_ht : ∀ t : PT, 0 < t.size ↔ 0 < t.ht
  | .nil => by simp [PT.size, PT.ht]
  | .node _ _ l r => by simp [PT.size, PT.ht]

theorem PT.low16 {t : PT} (h : t.Bal) (hs : t.size ≤ 200) : t.ht < 16 := by
  have h1 := PT.low h
  rcases Nat.lt_or_ge t.ht 16 with c | c
  · exact c
  · have h2 : 2 ^ 16 ≤ 2 ^ t.ht := Nat.pow_le_pow_right (by omega) c
    have h3 : (t.size + 1) * (t.size + 1) ≤ 201 * 201 := Nat.mul_le_mul (by omega) (by omega)
    omega
end Go.TreePure
