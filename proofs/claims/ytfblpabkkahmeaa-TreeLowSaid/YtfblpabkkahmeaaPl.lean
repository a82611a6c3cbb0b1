/- What the tree's calls come to, in sorted lists of pairs: plain laws. -/
import Derived.Test.YtfblpabkkahmeaaPt
namespace Go.TreePure

abbrev Pr := ByteArray × ByteArray
/-- strictly rising by keys -/
def Srt (l : List Pr) : Prop := l.Pairwise fun p q => klt p.1 q.1 = true
def ins (k x : ByteArray) (l : List Pr) : List Pr := l.filter (fun p => klt p.1 k) ++ (k, x) :: l.filter (fun p => klt k p.1)
def rem (k : ByteArray) (l : List Pr) : List Pr := l.filter fun p => klt p.1 k || klt k p.1
def look (k : ByteArray) : List Pr → Option ByteArray
  | [] => none
  | p :: l => if k = p.1 then some p.2 else look k l

theorem klt_cases (a b : ByteArray) : klt a b = true ∨ a = b ∨ klt b a = true := by
  cases h : klt a b with
  | true => exact .inl rfl
  | false =>
    cases h' : klt b a with
    | true => exact .inr (.inr rfl)
    | false => exact .inr (.inl (klt_tri h h'))

theorem filter_all {l : List Pr} {q : Pr → Bool} (h : ∀ p ∈ l, q p = true) : l.filter q = l := List.filter_eq_self.2 h
theorem filter_none {l : List Pr} {q : Pr → Bool} (h : ∀ p ∈ l, q p = false) : l.filter q = [] := by
  rw [List.filter_eq_nil_iff]; intro p hp; simp [h p hp]

section
variable {l r : List Pr} {k x : ByteArray}
theorem Srt.parts (h : Srt (l ++ (k, x) :: r)) : Srt l ∧ Srt r ∧ (∀ p ∈ l, klt p.1 k = true) ∧ (∀ p ∈ r, klt k p.1 = true) := by
  obtain ⟨h1, h2, h3⟩ := List.pairwise_append.1 h
  obtain ⟨h4, h5⟩ := List.pairwise_cons.1 h2
  exact ⟨h1, h5, fun p hp => h3 p hp _ List.mem_cons_self, fun p hp => h4 p hp⟩
theorem Srt.mk (h1 : Srt l) (h2 : Srt r) (h3 : ∀ p ∈ l, klt p.1 k = true) (h4 : ∀ p ∈ r, klt k p.1 = true) : Srt (l ++ (k, x) :: r) := by
  refine List.pairwise_append.2 ⟨h1, List.pairwise_cons.2 ⟨h4, h2⟩, fun p hp q hq => ?_⟩
  rcases List.mem_cons.1 hq with rfl | hq
  · exact h3 p hp
  · exact klt_trans (h3 p hp) (h4 q hq)
end

theorem Srt.filter {l : List Pr} (h : Srt l) (q : Pr → Bool) : Srt (l.filter q) := List.Pairwise.filter q h

theorem ins_srt {l : List Pr} (h : Srt l) (k x : ByteArray) : Srt (ins k x l) :=
  Srt.mk (h.filter _) (h.filter _) (fun p hp => (List.mem_filter.1 hp).2) (fun p hp => (List.mem_filter.1 hp).2)
theorem rem_srt {l : List Pr} (h : Srt l) (k : ByteArray) : Srt (rem k l) := h.filter _

theorem PT.put_list (k x : ByteArray) : ∀ t : PT, Srt t.list → (PT.put k x t).list = ins k x t.list
  | .nil, _ => by simp [PT.put, PT.list, ins]
  | .node k' x' l r, h => by
    obtain ⟨hl, hr, h1, h2⟩ := Srt.parts h
    have ihl := put_list k x l hl
    have ihr := put_list k x r hr
    simp only [PT.put]
    by_cases c1 : klt k k' = true
    · rw [if_pos c1, PT.join_list, ihl]
      simp only [PT.list, ins, List.filter_append, List.filter_cons]
      rw [if_neg (by simp [klt_asymm c1]), if_pos (by simpa using c1), filter_none (l := r.list) (q := fun p => klt p.1 k) (fun p hp => klt_asymm (klt_trans c1 (h2 p hp))), filter_all (l := r.list) (q := fun p => klt k p.1) (fun p hp => klt_trans c1 (h2 p hp))]
      simp
    · rw [if_neg c1]
      by_cases c2 : klt k' k = true
      · rw [if_pos c2, PT.join_list, ihr]
        simp only [PT.list, ins, List.filter_append, List.filter_cons]
        rw [if_pos (by simpa using c2), if_neg (by simp [klt_asymm c2]), filter_all (l := l.list) (q := fun p => klt p.1 k) (fun p hp => klt_trans (h1 p hp) c2), filter_none (l := l.list) (q := fun p => klt k p.1) (fun p hp => klt_asymm (klt_trans (h1 p hp) c2))]
        simp
      · rw [if_neg c2]
        obtain rfl := klt_tri (by simpa using c1) (by simpa using c2)
        simp only [PT.list, ins, List.filter_append, List.filter_cons]
        rw [if_neg (by simp [klt_irrefl]), if_neg (by simp [klt_irrefl]), filter_all (l := l.list) (q := fun p => klt p.1 k) h1, filter_none (l := l.list) (q := fun p => klt k p.1) (fun p hp => klt_asymm (h1 p hp)), filter_all (l := r.list) (q := fun p => klt k p.1) h2, filter_none (l := r.list) (q := fun p => klt p.1 k) (fun p hp => klt_asymm (h2 p hp))]
        simp

theorem PT.drop_list (k : ByteArray) : ∀ t : PT, Srt t.list → (PT.drop k t).list = rem k t.list
  | .nil, _ => by simp [PT.drop, PT.list, rem]
  | .node k' x' l r, h => by
    obtain ⟨hl, hr, h1, h2⟩ := Srt.parts h
    have ihl := drop_list k l hl
    have ihr := drop_list k r hr
    rw [PT.drop.eq_def]
    simp only []
    by_cases c1 : klt k k' = true
    · rw [if_pos c1, PT.join_list, ihl]
      simp only [PT.list, rem, List.filter_append, List.filter_cons]
      rw [if_pos (by simp [c1]), filter_all (l := r.list) (fun p hp => by simp [klt_trans c1 (h2 p hp)])]
    · rw [if_neg c1]
      by_cases c2 : klt k' k = true
      · rw [if_pos c2, PT.join_list, ihr]
        simp only [PT.list, rem, List.filter_append, List.filter_cons]
        rw [if_pos (by simp [c2]), filter_all (l := l.list) (fun p hp => by simp [klt_trans (h1 p hp) c2])]
      · rw [if_neg c2]
        obtain rfl := klt_tri (by simpa using c1) (by simpa using c2)
        simp only [PT.list, rem, List.filter_append, List.filter_cons]
        rw [if_neg (by simp [klt_irrefl]), filter_all (l := l.list) (fun p hp => by simp [h1 p hp]), filter_all (l := r.list) (fun p hp => by simp [h2 p hp])]
        cases r with
        | nil => simp [PT.list]
        | node a b c d =>
          simp only []
          rw [PT.join_list, PT.first_list (.node a b c d) (by simp)]

theorem look_append {k : ByteArray} : ∀ {l m : List Pr}, (∀ p ∈ l, k ≠ p.1) → look k (l ++ m) = look k m
  | [], _, _ => rfl
  | p :: l, m, h => by
    rw [List.cons_append, look, if_neg (h p List.mem_cons_self)]
    exact look_append fun q hq => h q (List.mem_cons_of_mem _ hq)
theorem look_append_left {k : ByteArray} : ∀ {l m : List Pr}, (∀ p ∈ m, k ≠ p.1) → look k (l ++ m) = look k l
  | [], m, h => by
    rw [List.nil_append]
    induction m with
    | nil => rfl
    | cons p m ih => show (if k = p.1 then some p.2 else look k m) = none; rw [if_neg (h p List.mem_cons_self)]; exact ih fun q hq => h q (List.mem_cons_of_mem _ hq)
  | p :: l, m, h => by
    rw [List.cons_append, look, look, look_append_left h]

theorem PT.get_look (k : ByteArray) : ∀ t : PT, Srt t.list → PT.get k t = look k t.list
  | .nil, _ => rfl
  | .node k' x' l r, h => by
    obtain ⟨hl, hr, h1, h2⟩ := Srt.parts h
    rw [PT.get, PT.list]
    by_cases c0 : k = k'
    · subst c0
      rw [if_pos rfl, look_append (fun p hp e => by have := h1 p hp; rw [← e, klt_irrefl] at this; cases this), look, if_pos rfl]
    · rw [if_neg c0]
      by_cases c1 : klt k k' = true
      · rw [if_pos c1, get_look k l hl]
        refine (look_append_left fun p hp e => ?_).symm
        rcases List.mem_cons.1 hp with rfl | hp
        · exact c0 e
        · have := h2 p hp; rw [← e] at this; exact absurd c1 (by rw [klt_asymm this]; simp)
      · rw [if_neg c1, get_look k r hr]
        have c2 : klt k' k = true := by
          rcases klt_cases k k' with h | h | h
          · exact absurd h c1
          · exact absurd h c0
          · exact h
        rw [look_append (fun p hp e => by have := klt_trans (h1 p hp) c2; rw [← e, klt_irrefl] at this; cases this), look, if_neg c0]

/-! ### sorted lists are told by what they have -/
theorem look_mem {k x : ByteArray} : ∀ {l : List Pr}, Srt l → (look k l = some x ↔ (k, x) ∈ l)
  | [], _ => by simp [look]
  | p :: l, h => by
    obtain ⟨h1, h2⟩ := List.pairwise_cons.1 h
    rw [look, List.mem_cons]
    by_cases c : k = p.1
    · subst c
      rw [if_pos rfl]
      constructor
      · intro e; left; cases e; rfl
      · rintro (e | e)
        · rw [← e]
        · have := h1 _ e; rw [klt_irrefl] at this; cases this
    · rw [if_neg c, look_mem h2]
      constructor
      · exact .inr
      · rintro (e | e)
        · rw [← e] at c; exact absurd rfl c
        · exact e

theorem srt_ext : ∀ {l m : List Pr}, Srt l → Srt m → (∀ k, look k l = look k m) → l = m
  | [], [], _, _, _ => rfl
  | [], q :: m, _, _, h => by have := h q.1; simp [look] at this
  | p :: l, [], _, _, h => by have := h p.1; simp [look] at this
  | p :: l, q :: m, hl, hm, h => by
    obtain ⟨h1, h2⟩ := List.pairwise_cons.1 hl
    obtain ⟨h3, h4⟩ := List.pairwise_cons.1 hm
    have hp : p ∈ q :: m := (look_mem hm).1 (by rw [← h]; simp [look])
    have hq : q ∈ p :: l := (look_mem hl).1 (by rw [h]; simp [look])
    have e : p = q := by
      rcases List.mem_cons.1 hp with e | hp
      · exact e
      · rcases List.mem_cons.1 hq with e | hq
        · exact e.symm
        · have := klt_trans (h1 q hq) (h3 p hp); rw [klt_irrefl] at this; cases this
    subst e
    rw [srt_ext h2 h4 fun k => ?_]
    by_cases c : k = p.1
    · subst c
      have n1 : ∀ x, look p.1 l ≠ some x := fun x e => by have := h1 _ ((look_mem h2).1 e); rw [klt_irrefl] at this; cases this
      have n2 : ∀ x, look p.1 m ≠ some x := fun x e => by have := h3 _ ((look_mem h4).1 e); rw [klt_irrefl] at this; cases this
      rw [Option.eq_none_iff_forall_ne_some.2 n1, Option.eq_none_iff_forall_ne_some.2 n2]
    · have := h k
      rwa [look, look, if_neg c, if_neg c] at this

theorem look_filter {k : ByteArray} {q : ByteArray → Bool} : ∀ {l : List Pr}, look k (l.filter fun p => q p.1) = if q k then look k l else none
  | [] => by simp [look]
  | p :: l => by
    rw [List.filter_cons]
    by_cases c : k = p.1
    · subst c
      cases hq : q p.1 with
      | true => rw [if_pos rfl, if_pos rfl, look, look, if_pos rfl, if_pos rfl]
      | false =>
        rw [if_neg (by simp), look_filter, hq]; simp
    · cases hq : q p.1 with
      | true => rw [if_pos rfl, look, look, if_neg c, if_neg c, look_filter]
      | false => rw [if_neg (by simp), look_filter, look, if_neg c]

theorem look_ins (k k' x : ByteArray) (l : List Pr) : look k (ins k' x l) = if k = k' then some x else look k l := by
  unfold ins
  by_cases c : k = k'
  · subst c
    rw [if_pos rfl, look_append (fun p hp e => by have := (List.mem_filter.1 hp).2; rw [← e, klt_irrefl] at this; cases this), look, if_pos rfl]
  · rw [if_neg c]
    rcases klt_cases k k' with h | h | h
    · rw [look_append_left (l := l.filter _) (fun p hp e => ?_), look_filter (q := fun a => klt a k'), if_pos h]
      rcases List.mem_cons.1 hp with rfl | hp
      · exact c e
      · have := (List.mem_filter.1 hp).2; rw [← e] at this; rw [klt_asymm h] at this; cases this
    · exact absurd h c
    · rw [look_append (fun p hp e => by have := (List.mem_filter.1 hp).2; rw [← e] at this; rw [klt_asymm h] at this; cases this), look, if_neg c, look_filter (q := fun a => klt k' a), if_pos h]
theorem look_rem (k k' : ByteArray) (l : List Pr) : look k (rem k' l) = if k = k' then none else look k l := by
  unfold rem
  rw [look_filter (q := fun a => klt a k' || klt k' a)]
  by_cases c : k = k'
  · subst c; simp [klt_irrefl]
  · rw [if_neg c]
    rcases klt_cases k k' with h | h | h
    · simp [h]
    · exact absurd h c
    · simp [h]

/-! ### from a key on -/
theorem PT.fromL_list (key : ByteArray) : ∀ t : PT, Srt t.list → PT.fromL key t = t.list.filter fun p => !klt p.1 key
  | .nil, _ => rfl
  | .node k x l r, h => by
    obtain ⟨hl, hr, h1, h2⟩ := Srt.parts h
    rw [PT.fromL, fromL_list key l hl, fromL_list key r hr]
    simp only [PT.list, List.filter_append, List.filter_cons]
    by_cases c1 : klt key k = true
    · rw [if_pos c1, klt_asymm c1]; simp
    · rw [if_neg c1]
      have hn : l.list.filter (fun p => !klt p.1 key) = [] := filter_none fun p hp => by
        rcases klt_cases key k with h | h | h
        · exact absurd h c1
        · subst h; simp [h1 p hp]
        · simp [klt_trans (h1 p hp) h]
      rw [hn]
      cases c2 : klt k key <;> simp

theorem klt_empty (k : ByteArray) : klt k ⟨#[]⟩ = false := by
  unfold klt
  rw [ByteArray.toList_eq ⟨#[]⟩]
  show Op.bytesLess _ [] = false
  cases k.toList <;> rfl

theorem PT.fromL_all {t : PT} (h : Srt t.list) : PT.fromL ⟨#[]⟩ t = t.list := by
  rw [PT.fromL_list _ t h]
  exact filter_all fun p _ => by rw [klt_empty]; rfl

theorem PT.Drop_list {t : PT} (h : Srt t.list) (k : ByteArray) : (PT.Drop k t).list = rem k t.list := by
  unfold PT.Drop
  cases hg : PT.get k t with
  | some x => rw [if_pos (by rfl)]; exact PT.drop_list k t h
  | none =>
    rw [if_neg (by simp)]
    rw [PT.get_look k t h] at hg
    refine srt_ext h (rem_srt h k) fun k' => ?_
    rw [look_rem]
    split
    · rename_i e; rw [e, hg]
    · rfl

theorem PT.does_srt {t : PT} (h : Srt t.list) (a : Deed) : Srt (PT.does t a).list := by
  unfold PT.does
  split
  · rw [PT.Drop_list h]; exact rem_srt h _
  · rw [PT.put_list _ _ _ h]; exact ins_srt h _ _
theorem PT.put_srt {t : PT} (h : Srt t.list) (k x : ByteArray) : Srt (PT.put k x t).list := by rw [PT.put_list _ _ _ h]; exact ins_srt h _ _

theorem srt_nil : Srt PT.nil.list := List.Pairwise.nil

theorem srt_get {l : List Pr} (h : Srt l) {i j : Nat} (hij : i < j) (hj : j < l.length) : klt l[i].1 l[j].1 = true :=
  List.pairwise_iff_getElem.1 h i j (by omega) hj hij

/-! ### TreeAgain -/
section
variable {T : PT} (h : Srt T.list)
include h
theorem PT.put_look (k k' x : ByteArray) : look k (PT.put k' x T).list = if k = k' then some x else look k T.list := by rw [PT.put_list _ _ _ h, look_ins]
theorem PT.get_put (k x : ByteArray) : PT.get k (PT.put k x T) = some x := by
  rw [PT.get_look _ _ (PT.put_srt h k x), PT.put_look h, if_pos rfl]
theorem PT.put_put (k x : ByteArray) : (PT.put k x (PT.put k x T)).list = (PT.put k x T).list :=
  srt_ext (PT.put_srt (PT.put_srt h k x) k x) (PT.put_srt h k x) fun k' => by
    rw [PT.put_look (PT.put_srt h k x), PT.put_look h]; split <;> rfl
theorem PT.Drop_srt (k : ByteArray) : Srt (PT.Drop k T).list := by rw [PT.Drop_list h]; exact rem_srt h k
theorem PT.Drop_put (k x : ByteArray) : (PT.Drop k (PT.put k x T)).list = (PT.Drop k T).list :=
  srt_ext (PT.Drop_srt (PT.put_srt h k x) k) (PT.Drop_srt h k) fun k' => by
    rw [PT.Drop_list (PT.put_srt h k x), PT.Drop_list h, look_rem, look_rem, PT.put_look h]; split <;> rfl
theorem PT.put_comm {k x k' x' : ByteArray} (hne : ¬ (k = k' ∧ x ≠ x')) : (PT.put k' x' (PT.put k x T)).list = (PT.put k x (PT.put k' x' T)).list :=
  srt_ext (PT.put_srt (PT.put_srt h k x) k' x') (PT.put_srt (PT.put_srt h k' x') k x) fun j => by
    rw [PT.put_look (PT.put_srt h k x), PT.put_look (PT.put_srt h k' x'), PT.put_look h, PT.put_look h]
    by_cases c1 : j = k'
    · by_cases c2 : j = k
      · have hk : k = k' := c2.symm.trans c1
        have hx : x = x' := Classical.byContradiction fun e => hne ⟨hk, e⟩
        rw [if_pos c1, if_pos c2, hx]
      · rw [if_pos c1, if_neg c2, if_pos c1]
    · by_cases c2 : j = k
      · rw [if_neg c1, if_pos c2, if_pos c2]
      · rw [if_neg c1, if_neg c2, if_neg c2, if_neg c1]
end

/-! ### TreePages -/
theorem filter_drop {F : List Pr} (hF : Srt F) {m : Nat} (hm : m < F.length) : (F.filter fun p => !klt p.1 F[m].1) = F.drop m := by
  have e := (List.take_append_drop m F).symm
  have h1 : (F.take m).filter (fun p => !klt p.1 F[m].1) = [] := filter_none fun p hp => by
    obtain ⟨i, hi, rfl⟩ := List.mem_iff_getElem.1 hp
    rw [List.getElem_take, srt_get hF (by rw [List.length_take] at hi; omega) hm]; rfl
  have h2 : (F.drop m).filter (fun p => !klt p.1 F[m].1) = F.drop m := filter_all fun p hp => by
    obtain ⟨i, hi, rfl⟩ := List.mem_iff_getElem.1 hp
    rw [List.getElem_drop]
    rw [List.length_drop] at hi
    rcases Nat.eq_zero_or_pos i with h | h
    · subst h; simp [klt_irrefl]
    · rw [klt_asymm (srt_get hF (show m < m + i by omega) (by omega))]; rfl
  have h3 := List.filter_append (p := fun p => !klt p.1 F[m].1) (F.take m) (F.drop m)
  rw [← e, h1, h2, List.nil_append] at h3
  exact h3

theorem PT.fromL_srt {t : PT} (h : Srt t.list) (key : ByteArray) : Srt (PT.fromL key t) := by rw [PT.fromL_list key t h]; exact h.filter _

theorem PT.fromL_drop {t : PT} (h : Srt t.list) {key : ByteArray} {F : List Pr} (hF : PT.fromL key t = F) {m : Nat} (hm : m < F.length) : PT.fromL F[m].1 t = F.drop m := by
  have hs := PT.fromL_srt h key
  have hl := PT.fromL_list key t h
  rw [hF] at hs hl
  rw [← filter_drop hs hm]
  have hge : klt F[m].1 key = false := by
    have hmem : F[m] ∈ t.list.filter fun p => !klt p.1 key := hl ▸ List.getElem_mem hm
    simpa using (List.mem_filter.1 hmem).2
  generalize F[m].1 = k' at hge ⊢
  rw [PT.fromL_list _ t h, hl, List.filter_filter]
  refine List.filter_congr fun p _ => ?_
  cases c : klt p.1 k' with
  | true => simp
  | false =>
    have : klt p.1 key = false := by
      cases c2 : klt p.1 key with
      | false => rfl
      | true =>
        rcases klt_cases k' key with h | h | h
        · rw [h] at hge; cases hge
        · subst h; rw [c2] at c; cases c
        · rw [klt_trans c2 h] at c; cases c
    rw [this]; rfl

/-! ### TreeOrder -/
def Sub (U A : List Pr) : Prop := ∀ k, look k A = none → look k U = none
def Has (U A : List Pr) (n : Nat) : Prop := ∀ j (h : j < A.length), n ≤ j → look A[j].1 U = some A[j].2

theorem look_at {A : List Pr} (h : Srt A) {j : Nat} (hj : j < A.length) : look A[j].1 A = some A[j].2 := (look_mem h).2 (List.getElem_mem hj)

theorem Sub.ins {U A : List Pr} (h : Sub U A) (hA : Srt A) {j : Nat} (hj : j < A.length) (x : ByteArray) : Sub (ins A[j].1 x U) A := by
  intro k hk
  rw [look_ins]
  split
  · rename_i e; subst e; rw [look_at hA hj] at hk; cases hk
  · exact h k hk
theorem Has.ins {U A : List Pr} (hA : Srt A) {j : Nat} (hj : j < A.length) (h : Has U A (j + 1)) : Has (ins A[j].1 A[j].2 U) A j := by
  intro i hi hij
  rw [look_ins]
  by_cases e : i = j
  · subst e; rw [if_pos rfl]
  · rw [if_neg (fun e' => by have := srt_get hA (show j < i by omega) hi; rw [e', klt_irrefl] at this; cases this)]
    exact h i hi (by omega)
theorem order_eq {U A : List Pr} (hU : Srt U) (hA : Srt A) (hs : Sub U A) (hh : Has U A 0) : U = A := by
  refine srt_ext hU hA fun k => ?_
  cases hk : look k A with
  | none => exact hs k hk
  | some x =>
    obtain ⟨j, hj, e⟩ := List.mem_iff_getElem.1 ((look_mem hA).1 hk)
    have := hh j hj (Nat.zero_le _)
    rw [e] at this
    exact this
end Go.TreePure
