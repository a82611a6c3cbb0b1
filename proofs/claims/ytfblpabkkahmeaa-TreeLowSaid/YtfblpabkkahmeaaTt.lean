/- The plain tree with a mark on each node: true where the node is fresh. Its join, put, drop; how many marks come of each; without any program. -/
import Derived.Test.YtfblpabkkahmeaaPl
namespace Go.TreePure
/-- a tree of pairs, each with a mark -/
inductive FT where
  | nil
  | node (f : Bool) (k v : ByteArray) (l r : FT)

def FT.er : FT → PT
  | .nil => .nil
  | .node _ k x l r => .node k x l.er r.er
def FT.old : PT → FT
  | .nil => .nil
  | .node k x l r => .node false k x (FT.old l) (FT.old r)
def FT.marks : FT → Nat
  | .nil => 0
  | .node f _ _ l r => l.marks + r.marks + (if f then 1 else 0)

def FT.size : FT → Nat
  | .nil => 0
  | .node _ _ _ l r => l.size + r.size + 1
def FT.ht : FT → Nat
  | .nil => 0
  | .node _ _ _ l r => max l.ht r.ht + 1

def FT.joinL (k x : ByteArray) (l r : FT) : FT :=
  match l with
  | .nil => .nil
  | .node _ lk lx ll lr =>
    if lr.ht ≤ ll.ht then .node true lk lx ll (.node true k x lr r) else
    match lr with
    | .nil => .nil
    | .node _ mk mx ml mr => .node true mk mx (.node true lk lx ll ml) (.node true k x mr r)
def FT.joinR (k x : ByteArray) (l r : FT) : FT :=
  match r with
  | .nil => .nil
  | .node _ rk rx rl rr =>
    if rl.ht ≤ rr.ht then .node true rk rx (.node true k x l rl) rr else
    match rl with
    | .nil => .nil
    | .node _ mk mx ml mr => .node true mk mx (.node true k x l ml) (.node true rk rx mr rr)
def FT.join (k x : ByteArray) (l r : FT) : FT :=
  if l.ht = r.ht + 2 then FT.joinL k x l r else if r.ht = l.ht + 2 then FT.joinR k x l r else .node true k x l r

theorem FT.ht_le : ∀ t : FT, t.ht ≤ t.size
  | .nil => Nat.le_refl _
  | .node _ _ _ l r => by have := ht_le l; have := ht_le r; simp only [FT.ht, FT.size]; omega

def FT.put (k x : ByteArray) : FT → FT
  | .nil => .node true k x .nil .nil
  | .node _ k' x' l r => if klt k k' then FT.join k' x' (FT.put k x l) r else if klt k' k then FT.join k' x' l (FT.put k x r) else .node true k x l r

def FT.first : FT → (ByteArray × ByteArray) × FT
  | .nil => ((.empty, .empty), .nil)
  | .node _ k x .nil r => ((k, x), r)
  | .node _ k x l@(.node ..) r => (l.first.1, FT.join k x l.first.2 r)

def FT.drop (k : ByteArray) : FT → FT
  | .nil => .nil
  | .node _ k' x' l r =>
    if klt k k' then FT.join k' x' (FT.drop k l) r else if klt k' k then FT.join k' x' l (FT.drop k r) else
    match r with
    | .nil => l
    | .node .. => FT.join r.first.1.1 r.first.1.2 l r.first.2

def FT.get (k : ByteArray) : FT → Option ByteArray
  | .nil => none
  | .node _ k' x' l r => if k = k' then some x' else if klt k k' then FT.get k l else FT.get k r

def FT.Drop (k : ByteArray) (t : FT) : FT := if (FT.get k t).isSome then FT.drop k t else t
def FT.does (t : FT) (a : Deed) : FT := if a.gone then FT.Drop a.k t else FT.put a.k a.x t

/-! ### without the marks -/
theorem FT.er_ht : ∀ t : FT, t.er.ht = t.ht
  | .nil => rfl
  | .node _ _ _ l r => by simp only [FT.er, PT.ht, FT.ht, er_ht l, er_ht r]
theorem FT.er_size : ∀ t : FT, t.er.size = t.size
  | .nil => rfl
  | .node _ _ _ l r => by simp only [FT.er, PT.size, FT.size, er_size l, er_size r]
theorem FT.er_old : ∀ t : PT, (FT.old t).er = t
  | .nil => rfl
  | .node _ _ l r => by simp only [FT.old, FT.er, er_old l, er_old r]
theorem FT.marks_old : ∀ t : PT, (FT.old t).marks = 0
  | .nil => rfl
  | .node _ _ l r => by simp [FT.old, FT.marks, marks_old l, marks_old r]
theorem FT.er_join (k x : ByteArray) (l r : FT) : (FT.join k x l r).er = PT.join k x l.er r.er := by
  unfold FT.join PT.join
  rw [FT.er_ht, FT.er_ht]
  split
  · cases l with
    | nil => rfl
    | node f lk lx ll lr =>
      simp only [FT.joinL, PT.joinL, FT.er, FT.er_ht]
      split
      · rfl
      · cases lr <;> rfl
  · split
    · cases r with
      | nil => rfl
      | node f rk rx rl rr =>
        simp only [FT.joinR, PT.joinR, FT.er, FT.er_ht]
        split
        · rfl
        · cases rl <;> rfl
    · rfl
theorem FT.er_put (k x : ByteArray) : ∀ t : FT, (FT.put k x t).er = PT.put k x t.er
  | .nil => rfl
  | .node _ k' x' l r => by
    simp only [FT.put, FT.er, PT.put]
    split
    · rw [FT.er_join, er_put k x l]
    · split
      · rw [FT.er_join, er_put k x r]
      · rfl
theorem FT.er_first : ∀ t : FT, t.er.first = (t.first.1, t.first.2.er)
  | .nil => by simp [FT.er, FT.first, PT.first]
  | .node _ k x .nil r => by simp [FT.er, FT.first, PT.first]
  | .node _ k x (.node f a b c d) r => by
    have ih := er_first (.node f a b c d)
    simp only [FT.er] at ih ⊢
    rw [PT.first, ih, FT.first]
    simp only [FT.er_join]
theorem FT.er_drop (k : ByteArray) : ∀ t : FT, (FT.drop k t).er = PT.drop k t.er
  | .nil => rfl
  | .node _ k' x' l r => by
    rw [FT.drop.eq_def, FT.er, PT.drop.eq_def]
    simp only []
    split
    · rw [FT.er_join, er_drop k l]
    · split
      · rw [FT.er_join, er_drop k r]
      · cases r with
        | nil => rfl
        | node f a b c d =>
          have h := FT.er_first (.node f a b c d)
          simp only [FT.er] at h ⊢
          rw [FT.er_join, h]
theorem FT.er_get (k : ByteArray) : ∀ t : FT, PT.get k t.er = FT.get k t
  | .nil => rfl
  | .node _ k' x' l r => by simp only [FT.er, PT.get, FT.get, er_get k l, er_get k r]
theorem FT.er_Drop (k : ByteArray) (t : FT) : (FT.Drop k t).er = PT.Drop k t.er := by
  unfold FT.Drop PT.Drop
  rw [FT.er_get]
  split
  · exact FT.er_drop k t
  · rfl
theorem FT.er_does (t : FT) (a : Deed) : (FT.does t a).er = PT.does t.er a := by
  unfold FT.does PT.does
  split
  · exact FT.er_Drop _ _
  · exact FT.er_put _ _ _

theorem FT.put_size (k x : ByteArray) (t : FT) : (FT.put k x t).size ≤ t.size + 1 := by
  have := PT.put_size k x t.er
  rwa [← FT.er_put, FT.er_size, FT.er_size] at this
theorem FT.first_size {t : FT} (h : t ≠ .nil) : t.first.2.size + 1 = t.size := by
  have := PT.first_size (t := t.er) (by cases t with | nil => exact absurd rfl h | node => simp [FT.er])
  rwa [FT.er_first, FT.er_size, FT.er_size] at this
theorem FT.drop_size (k : ByteArray) (t : FT) : (FT.drop k t).size ≤ t.size := by
  have := PT.drop_size k t.er
  rwa [← FT.er_drop, FT.er_size, FT.er_size] at this

/-! ### how many marks -/
theorem FT.join_marks (k x : ByteArray) (l r : FT) : (FT.join k x l r).marks ≤ l.marks + r.marks + 3 := by
  unfold FT.join
  split
  · cases l with
    | nil => simp [FT.joinL, FT.marks]
    | node f lk lx ll lr =>
      simp only [FT.joinL]
      split
      · simp only [FT.marks]; simp; try omega
      · cases lr with
        | nil => simp [FT.marks]
        | node g mk mx ml mr => simp only [FT.marks]; simp; try omega
  · split
    · cases r with
      | nil => simp [FT.joinR, FT.marks]
      | node f rk rx rl rr =>
        simp only [FT.joinR]
        split
        · simp only [FT.marks]; simp; try omega
        · cases rl with
          | nil => simp [FT.marks]
          | node g mk mx ml mr => simp only [FT.marks]; simp; try omega
    · simp only [FT.marks]; simp; try omega
theorem FT.put_marks (k x : ByteArray) : ∀ t : FT, (FT.put k x t).marks ≤ t.marks + 3 * t.ht + 1
  | .nil => by simp [FT.put, FT.marks, FT.ht]
  | .node f k' x' l r => by
    have h1 := put_marks k x l
    have h2 := put_marks k x r
    have j1 := FT.join_marks k' x' (FT.put k x l) r
    have j2 := FT.join_marks k' x' l (FT.put k x r)
    simp only [FT.put, FT.ht]
    split
    · simp only [FT.marks]; omega
    · split
      · simp only [FT.marks]; omega
      · simp only [FT.marks]; simp; try omega
theorem FT.first_marks : ∀ t : FT, t.first.2.marks ≤ t.marks + 3 * t.ht
  | .nil => by simp [FT.first, FT.marks]
  | .node _ k x .nil r => by simp only [FT.first, FT.marks]; omega
  | .node f k x (.node g a b c d) r => by
    have h := first_marks (.node g a b c d)
    have j := FT.join_marks k x (FT.node g a b c d).first.2 r
    rw [FT.first]
    simp only [FT.marks, FT.ht] at *
    omega
theorem FT.drop_marks (k : ByteArray) : ∀ t : FT, (FT.drop k t).marks ≤ t.marks + 3 * t.ht
  | .nil => by simp [FT.drop, FT.marks]
  | .node f k' x' l r => by
    have h1 := drop_marks k l
    have h2 := drop_marks k r
    have j1 := FT.join_marks k' x' (FT.drop k l) r
    have j2 := FT.join_marks k' x' l (FT.drop k r)
    rw [FT.drop.eq_def]
    simp only [FT.ht]
    split
    · simp only [FT.marks]; omega
    · split
      · simp only [FT.marks]; omega
      · cases r with
        | nil => simp only [FT.marks]; omega
        | node g a b c d =>
          have h := FT.first_marks (.node g a b c d)
          have j := FT.join_marks (FT.node g a b c d).first.1.1 (FT.node g a b c d).first.1.2 l (FT.node g a b c d).first.2
          simp only [FT.marks, FT.ht] at *
          omega
theorem FT.does_marks (t : FT) (a : Deed) : (FT.does t a).marks ≤ t.marks + 3 * t.ht + 1 := by
  unfold FT.does
  split
  · unfold FT.Drop
    split
    · have := FT.drop_marks a.k t; omega
    · omega
  · exact FT.put_marks _ _ _
end Go.TreePure
