/- The plain tree, its balanced join, put, drop: without any program. -/
import Derived.Laws.Strings
namespace Go.TreePure
/-- a tree of pairs -/
inductive PT where
  | nil
  | node (k v : ByteArray) (l r : PT)

def PT.size : PT → Nat
  | .nil => 0
  | .node _ _ l r => l.size + r.size + 1
def PT.ht : PT → Nat
  | .nil => 0
  | .node _ _ l r => max l.ht r.ht + 1

def PT.joinL (k x : ByteArray) (l r : PT) : PT :=
  match l with
  | .nil => .nil
  | .node lk lx ll lr =>
    if lr.ht ≤ ll.ht then .node lk lx ll (.node k x lr r) else
    match lr with
    | .nil => .nil
    | .node mk mx ml mr => .node mk mx (.node lk lx ll ml) (.node k x mr r)
def PT.joinR (k x : ByteArray) (l r : PT) : PT :=
  match r with
  | .nil => .nil
  | .node rk rx rl rr =>
    if rl.ht ≤ rr.ht then .node rk rx (.node k x l rl) rr else
    match rl with
    | .nil => .nil
    | .node mk mx ml mr => .node mk mx (.node k x l ml) (.node rk rx mr rr)
def PT.join (k x : ByteArray) (l r : PT) : PT :=
  if l.ht = r.ht + 2 then PT.joinL k x l r else if r.ht = l.ht + 2 then PT.joinR k x l r else .node k x l r

theorem PT.ht_le : ∀ t : PT, t.ht ≤ t.size
  | .nil => Nat.le_refl _
  | .node _ _ l r => by have := ht_le l; have := ht_le r; simp only [PT.ht, PT.size]; omega

/-! ### keys -/
def klt (a b : ByteArray) : Bool := Op.bytesLess a.toList b.toList

theorem bytesLess_iff : ∀ (x y : List UInt8), Op.bytesLess x y = decide (x < y)
  | [], [] => by simp [Op.bytesLess]
  | _ :: _, [] => by simp [Op.bytesLess]
  | [], _ :: _ => by simp [Op.bytesLess]
  | a :: x, b :: y => by
    rw [Op.bytesLess, bytesLess_iff x y]
    simp only [List.cons_lt_cons_iff]
    by_cases h1 : a < b <;> by_cases h2 : a = b <;> by_cases h3 : x < y <;> simp [h1, h2, h3]

theorem klt_iff (a b : ByteArray) : klt a b = true ↔ a.toList < b.toList := by
  unfold klt; rw [bytesLess_iff]; simp
theorem toList_inj {a b : ByteArray} (h : a.toList = b.toList) : a = b := by
  rw [ByteArray.toList_eq, ByteArray.toList_eq] at h
  have := Array.toList_inj.1 h
  cases a; cases b; simp_all
theorem klt_irrefl (a : ByteArray) : klt a a = false := by
  cases h : klt a a with
  | false => rfl
  | true => exact absurd ((klt_iff _ _).1 h) (List.lt_irrefl _)
theorem klt_trans {a b c : ByteArray} (h : klt a b = true) (h' : klt b c = true) : klt a c = true :=
  (klt_iff _ _).2 (List.lt_trans ((klt_iff _ _).1 h) ((klt_iff _ _).1 h'))
theorem klt_asymm {a b : ByteArray} (h : klt a b = true) : klt b a = false := by
  cases h' : klt b a with
  | false => rfl
  | true => have := klt_trans h h'; rw [klt_irrefl] at this; cases this
theorem klt_tri {a b : ByteArray} (h : klt a b = false) (h' : klt b a = false) : a = b := by
  have h1 : ¬ a.toList < b.toList := fun x => by rw [(klt_iff _ _).2 x] at h; cases h
  have h2 : ¬ b.toList < a.toList := fun x => by rw [(klt_iff _ _).2 x] at h'; cases h'
  exact toList_inj (List.le_antisymm h2 h1)
/-- Go's '==' on strings, as the walk spells it -/
theorem keq_iff (a b : ByteArray) : (a.toList == b.toList) = true ↔ a = b := by
  rw [beq_iff_eq]; exact ⟨toList_inj, fun h => h ▸ rfl⟩
theorem klt_ne {a b : ByteArray} (h : klt a b = true) : a ≠ b := fun e => by subst e; rw [klt_irrefl] at h; cases h

/-! ### put, first, drop, get -/
def PT.put (k x : ByteArray) : PT → PT
  | .nil => .node k x .nil .nil
  | .node k' x' l r => if klt k k' then PT.join k' x' (PT.put k x l) r else if klt k' k then PT.join k' x' l (PT.put k x r) else .node k x l r

def PT.first : PT → (ByteArray × ByteArray) × PT
  | .nil => ((.empty, .empty), .nil)
  | .node k x .nil r => ((k, x), r)
  | .node k x l@(.node ..) r => (l.first.1, PT.join k x l.first.2 r)

def PT.drop (k : ByteArray) : PT → PT
  | .nil => .nil
  | .node k' x' l r =>
    if klt k k' then PT.join k' x' (PT.drop k l) r else if klt k' k then PT.join k' x' l (PT.drop k r) else
    match r with
    | .nil => l
    | .node .. => PT.join r.first.1.1 r.first.1.2 l r.first.2

def PT.get (k : ByteArray) : PT → Option ByteArray
  | .nil => none
  | .node k' x' l r => if k = k' then some x' else if klt k k' then PT.get k l else PT.get k r

def PT.list : PT → List (ByteArray × ByteArray)
  | .nil => []
  | .node k x l r => l.list ++ (k, x) :: r.list

/-! ### what they come to in the list of the pairs -/
theorem PT.list_length : ∀ t : PT, t.list.length = t.size
  | .nil => rfl
  | .node _ _ l r => by simp [PT.list, PT.size, list_length l, list_length r]; omega

theorem PT.join_list (k x : ByteArray) (l r : PT) : (PT.join k x l r).list = l.list ++ (k, x) :: r.list := by
  unfold PT.join
  split
  · rename_i h
    cases l with
    | nil => simp [PT.ht] at h
    | node lk lx ll lr =>
      simp only [PT.joinL]
      split
      · simp [PT.list]
      · cases lr with
        | nil => rename_i h2; simp [PT.ht] at h2
        | node mk mx ml mr => simp [PT.list]
  · split
    · rename_i h
      cases r with
      | nil => simp [PT.ht] at h
      | node rk rx rl rr =>
        simp only [PT.joinR]
        split
        · simp [PT.list]
        · cases rl with
          | nil => rename_i h2; simp [PT.ht] at h2
          | node mk mx ml mr => simp [PT.list]
    · rfl

theorem PT.join_size (k x : ByteArray) (l r : PT) : (PT.join k x l r).size = l.size + r.size + 1 := by
  rw [← PT.list_length, PT.join_list, List.length_append, List.length_cons, PT.list_length, PT.list_length]; omega

theorem PT.put_size (k x : ByteArray) : ∀ t : PT, (PT.put k x t).size ≤ t.size + 1
  | .nil => by simp [PT.put, PT.size]
  | .node k' x' l r => by
    have h1 := put_size k x l
    have h2 := put_size k x r
    simp only [PT.put]
    split
    · rw [PT.join_size]; simp only [PT.size]; omega
    · split
      · rw [PT.join_size]; simp only [PT.size]; omega
      · simp only [PT.size]; omega

theorem PT.first_list : ∀ t : PT, t ≠ .nil → t.list = t.first.1 :: t.first.2.list
  | .nil, h => absurd rfl h
  | .node k x .nil r, _ => by simp [PT.first, PT.list]
  | .node k x (.node a b c d) r, _ => by
    have ih := first_list (.node a b c d) (by simp)
    rw [PT.first, PT.join_list, PT.list, ih]; simp

theorem PT.first_size {t : PT} (h : t ≠ .nil) : t.first.2.size + 1 = t.size := by
  have := congrArg List.length (PT.first_list t h)
  rw [List.length_cons, PT.list_length, PT.list_length] at this
  exact this.symm

theorem PT.drop_size (k : ByteArray) : ∀ t : PT, (PT.drop k t).size ≤ t.size
  | .nil => by simp [PT.drop]
  | .node k' x' l r => by
    have h1 := drop_size k l
    have h2 := drop_size k r
    simp only [PT.drop]
    split
    · rw [PT.join_size]; simp only [PT.size]; omega
    · split
      · rw [PT.join_size]; simp only [PT.size]; omega
      · cases r with
        | nil => simp only [PT.size]; omega
        | node a b c d =>
          simp only []
          rw [PT.join_size]
          have := PT.first_size (t := .node a b c d) (by simp)
          simp only [PT.size] at *; omega

/-- the pairs from a key on -/
def PT.fromL (key : ByteArray) : PT → List (ByteArray × ByteArray)
  | .nil => []
  | .node k x l r => (if klt key k then PT.fromL key l else []) ++ ((if klt k key then [] else [(k, x)]) ++ PT.fromL key r)

theorem PT.fromL_le (key : ByteArray) : ∀ t : PT, (PT.fromL key t).length ≤ t.size
  | .nil => Nat.le_refl _
  | .node k x l r => by
    have h1 := fromL_le key l
    have h2 := fromL_le key r
    simp only [PT.fromL, PT.size, List.length_append]
    split <;> split <;> simp <;> omega

/-- the map without a key, and whether it was in it -/
def PT.Drop (k : ByteArray) (t : PT) : PT := if (PT.get k t).isSome then PT.drop k t else t

/-- what is done: gone, a key, a value -/
structure Deed where
  gone : Bool
  k : ByteArray
  x : ByteArray

/-- an act done -/
def PT.does (t : PT) (a : Deed) : PT := if a.gone then PT.Drop a.k t else PT.put a.k a.x t

theorem PT.Drop_size (k : ByteArray) (t : PT) : (PT.Drop k t).size ≤ t.size := by
  unfold PT.Drop; split
  · exact PT.drop_size k t
  · exact Nat.le_refl _
theorem PT.does_size (t : PT) (a : Deed) : (PT.does t a).size ≤ t.size + 1 := by
  unfold PT.does; split
  · have := PT.Drop_size a.k t; omega
  · exact PT.put_size _ _ _

end Go.TreePure
