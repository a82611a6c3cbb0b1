/- The reference's map as a list of pairs: where a key stands, and what put, drop, from come to. Plain laws. -/
import Derived.Test.YtfblpabkkahmeaaPl
namespace Go.TreePure
def idx (key : ByteArray) : List Pr → Nat
  | [] => 0
  | p :: l => if klt p.1 key then idx key l + 1 else 0
def isAt (key : ByteArray) (l : List Pr) : Bool := match l[idx key l]? with
  | some p => decide (p.1 = key)
  | none => false

theorem idx_le (key : ByteArray) : ∀ l : List Pr, idx key l ≤ l.length
  | [] => Nat.le_refl _
  | p :: l => by have := idx_le key l; simp only [idx, List.length_cons]; split <;> omega

theorem idx_lt {key : ByteArray} : ∀ {l : List Pr} {j : Nat} (h : j < l.length), j < idx key l → klt l[j].1 key = true
  | [], _, h, _ => by simp at h
  | p :: l, 0, _, h => by
    simp only [idx] at h
    split at h
    · rename_i c; exact c
    · omega
  | p :: l, j + 1, h, h' => by
    simp only [idx] at h'
    split at h'
    · rw [List.getElem_cons_succ]; exact idx_lt (by simpa using h) (by omega)
    · omega

theorem idx_at {key : ByteArray} : ∀ {l : List Pr} (h : idx key l < l.length), klt l[idx key l].1 key = false
  | [], h => by simp at h
  | p :: l, h => by
    by_cases c : klt p.1 key = true
    · have e : idx key (p :: l) = idx key l + 1 := by simp only [idx]; rw [if_pos c]
      have h' : idx key l < l.length := by rw [e] at h; simpa using h
      have := idx_at (key := key) h'
      simp only [e, List.getElem_cons_succ]
      exact this
    · have e : idx key (p :: l) = 0 := by simp only [idx]; rw [if_neg c]
      simp only [e, List.getElem_cons_zero]
      simpa using c

/-- where the search stands still it has found the place -/
theorem idx_of {key : ByteArray} {l : List Pr} {k : Nat} (hk : k ≤ l.length) (h1 : k ≤ idx key l) (h2 : ∀ h : k < l.length, klt l[k].1 key = false) : k = idx key l := by
  rcases Nat.lt_or_ge k (idx key l) with h | h
  · have hl : k < l.length := Nat.lt_of_lt_of_le h (idx_le key l)
    have := idx_lt hl h
    rw [h2 hl] at this; cases this
  · omega

theorem mem_key {l : List Pr} {i : Nat} {key : ByteArray} (hlt : i < l.length) (c : l[i].1 = key) : (key, l[i].2) ∈ l := by
  have := List.getElem_mem hlt
  rwa [show l[i] = (key, l[i].2) from by rw [← c]] at this

section
variable {l : List Pr} (h : Srt l) (key : ByteArray)
include h
theorem take_idx : l.take (idx key l) = l.filter fun p => klt p.1 key := by
  induction l with
  | nil => rfl
  | cons p l ih =>
    obtain ⟨h1, h2⟩ := List.pairwise_cons.1 h
    simp only [idx, List.filter_cons]
    by_cases c : klt p.1 key = true
    · rw [if_pos c, if_pos c, List.take_succ_cons, ih h2]
    · rw [if_neg c, if_neg c, List.take_zero]
      refine (filter_none fun q hq => ?_).symm
      rcases klt_cases p.1 key with e | e | e
      · exact absurd e c
      · subst e; exact klt_asymm (h1 q hq)
      · exact klt_asymm (klt_trans e (h1 q hq))
theorem drop_idx : l.drop (idx key l) = l.filter fun p => !klt p.1 key := by
  induction l with
  | nil => rfl
  | cons p l ih =>
    obtain ⟨h1, h2⟩ := List.pairwise_cons.1 h
    simp only [idx, List.filter_cons]
    by_cases c : klt p.1 key = true
    · rw [if_pos c, c, if_neg (by simp), List.drop_succ_cons, ih h2]
    · rw [if_neg c, if_pos (by simpa using c), List.drop_zero]
      rw [filter_all fun q hq => ?_]
      rcases klt_cases p.1 key with e | e | e
      · exact absurd e c
      · subst e; rw [klt_asymm (h1 q hq)]; rfl
      · rw [klt_asymm (klt_trans e (h1 q hq))]; rfl
theorem isAt_look : isAt key l = (look key l).isSome := by
  unfold isAt
  cases hg : l[idx key l]? with
  | none =>
    have hle := List.getElem?_eq_none_iff.1 hg
    have hd := drop_idx h key
    rw [List.drop_eq_nil_of_le hle] at hd
    cases hl : look key l with
    | none => rfl
    | some x =>
      have hm := (look_mem h).1 hl
      have := (List.mem_filter (p := fun p : Pr => !klt p.1 key)).2 ⟨hm, by simp [klt_irrefl]⟩
      rw [← hd] at this; cases this
  | some p =>
    obtain ⟨hlt, rfl⟩ := List.getElem?_eq_some_iff.1 hg
    by_cases c : l[idx key l].1 = key
    · have hm : (key, l[idx key l].2) ∈ l := mem_key hlt c
      simp only [decide_eq_true c, (look_mem h).2 hm]; rfl
    · simp only [decide_eq_false c]
      cases hl : look key l with
      | none => rfl
      | some x =>
        have hm := (look_mem h).1 hl
        have hd := drop_idx h key
        have hmf := (List.mem_filter (p := fun p : Pr => !klt p.1 key)).2 ⟨hm, by simp [klt_irrefl]⟩
        rw [← hd, List.drop_eq_getElem_cons hlt, List.mem_cons] at hmf
        rcases hmf with e | e
        · exact absurd (by rw [← e]) c
        · obtain ⟨j, hj, he⟩ := List.mem_iff_getElem.1 e
          rw [List.getElem_drop] at he
          rw [List.length_drop] at hj
          have h1 := srt_get h (show idx key l < idx key l + 1 + j by omega) (by omega)
          rw [he] at h1
          have h2 := idx_at hlt
          rw [h2] at h1; cases h1
theorem drop_idx_succ (hi : isAt key l = true) : ∃ hlt : idx key l < l.length, l[idx key l].1 = key ∧ look key l = some l[idx key l].2 ∧ l.drop (idx key l + 1) = l.filter fun p => klt key p.1 := by
  unfold isAt at hi
  cases hg : l[idx key l]? with
  | none => rw [hg] at hi; cases hi
  | some p =>
    rw [hg] at hi
    obtain ⟨hlt, rfl⟩ := List.getElem?_eq_some_iff.1 hg
    have c : l[idx key l].1 = key := of_decide_eq_true hi
    refine ⟨hlt, c, ?_, ?_⟩
    · refine (look_mem h).2 ?_
      exact mem_key hlt c
    · have hd := drop_idx h key
      rw [List.drop_eq_getElem_cons hlt] at hd
      have e : (l.filter fun p => klt key p.1) = (l.filter fun p => !klt p.1 key).filter fun p => klt key p.1 := by
        rw [List.filter_filter]
        refine List.filter_congr fun p _ => ?_
        cases c : klt key p.1 with
        | false => rfl
        | true => rw [klt_asymm c]; rfl
      rw [e, ← hd, List.filter_cons, c, klt_irrefl, if_neg (by simp)]
      refine (filter_all fun q hq => ?_).symm
      obtain ⟨j, hj, he⟩ := List.mem_iff_getElem.1 hq
      rw [List.getElem_drop] at he
      rw [List.length_drop] at hj
      have h1 := srt_get h (show idx key l < idx key l + 1 + j by omega) (by omega)
      rw [he, c] at h1
      exact h1
theorem drop_idx_not (hi : isAt key l = false) : l.drop (idx key l) = l.filter fun p => klt key p.1 := by
  rw [drop_idx h key]
  refine List.filter_congr fun p hp => ?_
  rcases klt_cases p.1 key with c | c | c
  · rw [c, klt_asymm c]; rfl
  · exfalso
    rw [isAt_look h] at hi
    have : look key l = some p.2 := (look_mem h).2 (by rw [← c]; exact hp)
    rw [this] at hi; cases hi
  · rw [c, klt_asymm c]; rfl
end
/-- the reference's Put -/
def refPut (k x : ByteArray) (l : List Pr) : List Pr := l.take (idx k l) ++ (k, x) :: (if isAt k l then l.drop (idx k l + 1) else l.drop (idx k l))
theorem refPut_ins {l : List Pr} (h : Srt l) (k x : ByteArray) : refPut k x l = ins k x l := by
  unfold refPut ins
  rw [take_idx h]
  cases c : isAt k l with
  | true => obtain ⟨_, _, _, e⟩ := drop_idx_succ h k c; rw [if_pos rfl, e]
  | false => rw [if_neg (by simp), drop_idx_not h k c]
/-- the reference's Drop -/
def refDrop (k : ByteArray) (l : List Pr) : List Pr := if isAt k l then l.take (idx k l) ++ l.drop (idx k l + 1) else l
theorem refDrop_rem {l : List Pr} (h : Srt l) (k : ByteArray) : refDrop k l = rem k l := by
  unfold refDrop
  cases c : isAt k l with
  | true =>
    obtain ⟨_, _, _, e⟩ := drop_idx_succ h k c
    rw [if_pos rfl, e, take_idx h]
    have hs : Srt ((l.filter fun p => klt p.1 k) ++ l.filter fun p => klt k p.1) := by
      refine List.pairwise_append.2 ⟨h.filter _, h.filter _, fun p hp q hq => klt_trans (List.mem_filter.1 hp).2 (List.mem_filter.1 hq).2⟩
    refine srt_ext hs (rem_srt h k) fun k' => ?_
    rw [look_rem]
    by_cases e' : k' = k
    · subst e'
      rw [if_pos rfl, look_append (fun p hp e => by have := (List.mem_filter.1 hp).2; rw [← e, klt_irrefl] at this; cases this), look_filter (q := fun a => klt k' a), klt_irrefl, if_neg (by simp)]
    · rw [if_neg e']
      rcases klt_cases k' k with c | c | c
      · rw [look_append_left (fun p hp e => by have := (List.mem_filter.1 hp).2; rw [← e] at this; rw [klt_asymm c] at this; cases this), look_filter (q := fun a => klt a k), if_pos c]
      · exact absurd c e'
      · rw [look_append (fun p hp e => by have := (List.mem_filter.1 hp).2; rw [← e] at this; rw [klt_asymm c] at this; cases this), look_filter (q := fun a => klt k a), if_pos c]
  | false =>
    rw [if_neg (by simp)]
    refine srt_ext h (rem_srt h k) fun k' => ?_
    rw [look_rem]
    split
    · rename_i e; subst e
      rw [isAt_look h] at c
      cases hl : look k' l with
      | none => rfl
      | some x => rw [hl] at c; cases c
    · rfl
end Go.TreePure
