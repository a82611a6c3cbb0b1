/- What is built of keys: plain. -/
import Derived.Test.YtekmiegonnhidaaGp
namespace Go.PerfPure
open Go.XR
/-- keys, the greatest groups first -/
def mostC (c : Nat → Nat) : Nat → Nat
  | 0 => 0
  | m + 1 => max (mostC c m) (c m)
theorem mostC_le (c : Nat → Nat) : ∀ (m i : Nat), i < m → c i ≤ mostC c m
  | 0, _, h => by omega
  | m + 1, i, h => by
    unfold mostC
    by_cases e : i = m
    · subst e; omega
    · have := mostC_le c m i (by omega); omega
def orderD (c : Nat → Nat) (many : Nat) : List Nat := (List.range (mostC c many)).flatMap fun j => (List.range many).filter fun i => c i == mostC c many - j
theorem orderD_mem (c : Nat → Nat) (many i : Nat) : i ∈ orderD c many ↔ i < many ∧ 0 < c i := by
  unfold orderD
  rw [List.mem_flatMap]
  constructor
  · rintro ⟨j, hj, hi⟩
    rw [List.mem_range] at hj
    rw [List.mem_filter, List.mem_range] at hi
    have := beq_iff_eq.1 hi.2
    exact ⟨hi.1, by omega⟩
  · rintro ⟨h1, h2⟩
    have := mostC_le c many i h1
    refine ⟨mostC c many - c i, List.mem_range.2 (by omega), List.mem_filter.2 ⟨List.mem_range.2 h1, ?_⟩⟩
    rw [beq_iff_eq]; omega
theorem orderD_sorted (c : Nat → Nat) (many : Nat) : (orderD c many).Pairwise (ltC c) := by
  unfold orderD
  rw [List.flatMap_def, List.pairwise_flatten]
  constructor
  · intro l hl
    obtain ⟨j, _, rfl⟩ := List.mem_map.1 hl
    refine (List.Pairwise.filter _ List.pairwise_lt_range).imp_of_mem ?_
    intro a b ha hb hab
    have h1 := beq_iff_eq.1 (List.mem_filter.1 ha).2
    have h2 := beq_iff_eq.1 (List.mem_filter.1 hb).2
    unfold ltC
    omega
  · rw [List.pairwise_map]
    refine List.pairwise_lt_range.imp_of_mem ?_
    intro a b ha hb hab x hx y hy
    rw [List.mem_range] at ha hb
    have h1 := beq_iff_eq.1 (List.mem_filter.1 hx).2
    have h2 := beq_iff_eq.1 (List.mem_filter.1 hy).2
    unfold ltC
    omega
theorem order_eq {c : Nat → Nat} {many : Nat} {l : List Nat} (h1 : l.Pairwise (ltC c)) (h2 : ∀ i, i ∈ l ↔ i < many ∧ 0 < c i) : l = orderD c many :=
  eq_of_strict (ltC_asymm c) _ _ h1 (orderD_sorted c many) fun x => by rw [h2, orderD_mem]

structure St where
  tries : List Nat
  taken : List Bool
  late : List KeyT
def tryD (tk : List Bool) (keys : List KeyT) (d : Nat) : Bool := fitsB tk (keys.map (pos d tk.length))
def findD (tk : List Bool) (keys : List KeyT) : Option Nat := (List.range 256).find? fun j => tryD tk keys (j + 1)
def stepS (ks : Nat → List KeyT) (st : St) (i : Nat) : St :=
  match findD st.taken (ks i) with
  | some j => ⟨st.tries.set i (j + 1), markB true st.taken ((ks i).map (pos ((j + 1 : Nat) : Int) st.taken.length)), st.late⟩
  | none => ⟨st.tries, st.taken, st.late ++ ks i⟩
theorem findD_some {tk : List Bool} {keys : List KeyT} {j : Nat} (h1 : j < 256) (h2 : ∀ i, i < j → tryD tk keys (i + 1) = false) (h3 : tryD tk keys (j + 1) = true) : findD tk keys = some j := by
  unfold findD
  rw [List.find?_range_eq_some]
  refine ⟨h3, List.mem_range.2 h1, fun i hi => by rw [h2 i hi]; rfl⟩
theorem findD_none {tk : List Bool} {keys : List KeyT} (h2 : ∀ i, i < 256 → tryD tk keys (i + 1) = false) : findD tk keys = none := by
  unfold findD
  rw [List.find?_range_eq_none]
  intro i hi
  rw [h2 i hi]; rfl
def startS (n many : Nat) : St := ⟨List.replicate many 0, List.replicate n false, []⟩
def runS (l : List KeyT) (many : Nat) : St := (orderD (fun i => (keysOf l many i).length) many).foldl (stepS (keysOf l many)) (startS l.length many)
theorem stepS_len (ks : Nat → List KeyT) (st : St) (i : Nat) : (stepS ks st i).taken.length = st.taken.length ∧ (stepS ks st i).tries.length = st.tries.length := by
  unfold stepS
  split
  · exact ⟨markB_length _ _ _, List.length_set⟩
  · exact ⟨rfl, rfl⟩
theorem fold_len (ks : Nat → List KeyT) : ∀ (o : List Nat) (st : St), (o.foldl (stepS ks) st).taken.length = st.taken.length ∧ (o.foldl (stepS ks) st).tries.length = st.tries.length
  | [], _ => ⟨rfl, rfl⟩
  | i :: o, st => by
    have h1 := stepS_len ks st i
    have h2 := fold_len ks o (stepS ks st i)
    exact ⟨h2.1.trans h1.1, h2.2.trans h1.2⟩
/-- what is free -/
theorem count_mark : ∀ {ps : List Nat} {tk : List Bool}, fitsB tk ps = true → (markB true tk ps).count false + ps.length = tk.count false
  | [], tk, _ => rfl
  | p :: ps, tk, h => by
    have h := of_decide_eq_true (show decide _ = true from h)
    have hp := h.2 p (by simp)
    have hlt : p < tk.length := (List.getElem?_eq_some_iff.1 hp).1
    have hpe : tk[p] = false := (List.getElem?_eq_some_iff.1 hp).2
    have h1 := List.nodup_cons.1 h.1
    have hf : fitsB (tk.set p true) ps = true := decide_eq_true ⟨h1.2, fun q hq => by
      rw [List.getElem?_set_ne (fun e => h1.1 (by rw [e]; exact hq))]
      exact h.2 q (List.mem_cons_of_mem _ hq)⟩
    have ih := count_mark hf
    have hc : (tk.set p true).count false + 1 = tk.count false := by
      have h0 : 0 < tk.count false := List.count_pos_iff.2 (by rw [← hpe]; exact List.getElem_mem hlt)
      rw [List.count_set hlt, hpe]
      simp; omega
    show (markB true (tk.set p true) ps).count false + (ps.length + 1) = _
    omega
theorem fold_count (ks : Nat → List KeyT) : ∀ (o : List Nat) (st : St), (o.foldl (stepS ks) st).taken.count false + (o.map fun i => (ks i).length).sum + st.late.length = st.taken.count false + (o.foldl (stepS ks) st).late.length
  | [], _ => rfl
  | i :: o, st => by
    have ih := fold_count ks o (stepS ks st i)
    rw [List.foldl_cons, List.map_cons, List.sum_cons]
    cases hj : findD st.taken (ks i) with
    | some j =>
      have hs : stepS ks st i = ⟨st.tries.set i (j + 1), markB true st.taken ((ks i).map (pos ((j + 1 : Nat) : Int) st.taken.length)), st.late⟩ := by unfold stepS; rw [hj]
      have hfit : tryD st.taken (ks i) (j + 1) = true := by
        unfold findD at hj
        have := (List.find?_range_eq_some.1 hj).1
        simpa using this
      have hc := count_mark (show fitsB st.taken ((ks i).map (pos ((j + 1 : Nat) : Int) st.taken.length)) = true from hfit)
      rw [List.length_map] at hc
      rw [hs] at ih ⊢
      dsimp only at ih
      omega
    | none =>
      have hs : stepS ks st i = ⟨st.tries, st.taken, st.late ++ ks i⟩ := by unfold stepS; rw [hj]
      rw [hs] at ih ⊢
      dsimp only at ih
      rw [List.length_append] at ih
      omega
theorem sum_filter (f : KeyT → Nat) (many : Nat) : ∀ (l : List KeyT), (∀ k, f k < many) → ((List.range many).map fun i => (l.filter fun k => f k == i).length).sum = l.length
  | [], _ => by
    have : ∀ m : Nat, ((List.range m).map fun _ => 0).sum = 0 := fun m => by
      induction m with
      | zero => rfl
      | succ m ih => rw [List.range_succ, List.map_append, List.sum_append, ih]; rfl
    simpa using this many
  | k :: l, h => by
    have ih := sum_filter f many l h
    have h1 : ∀ m, (((List.range m).map fun i => ((k :: l).filter fun k => f k == i).length).sum) = (((List.range m).map fun i => (l.filter fun k => f k == i).length).sum) + if f k < m then 1 else 0 := fun m => by
      induction m with
      | zero => simp
      | succ m ihm =>
        rw [List.range_succ, List.map_append, List.map_append, List.sum_append, List.sum_append, ihm]
        simp only [List.map_cons, List.map_nil, List.sum_cons, List.sum_nil, Nat.add_zero, List.filter_cons]
        by_cases c : f k = m
        · subst c
          simp; omega
        · have hb : (f k == m) = false := by simpa using c
          rw [hb]
          simp only [Bool.false_eq_true, if_false]
          by_cases d : f k < m
          · rw [if_pos d, if_pos (show f k < m + 1 by omega)]; omega
          · rw [if_neg d, if_neg (show ¬ f k < m + 1 by omega)]; omega
    rw [h1 many, ih, if_pos (h k), List.length_cons]
/-- sums over the order are sums over all groups -/
theorem sum_order (c : Nat → Nat) (many : Nat) : ((orderD c many).map c).sum = ((List.range many).map c).sum := by
  have hnd : (orderD c many).Nodup := (orderD_sorted c many).imp fun h e => by subst e; exact ltC_asymm c _ _ h h
  have hp : (orderD c many).Perm ((List.range many).filter fun i => decide (0 < c i)) := by
    rw [List.perm_ext_iff_of_nodup hnd (List.nodup_range.sublist List.filter_sublist)]
    intro i
    rw [orderD_mem, List.mem_filter, List.mem_range]; simp
  rw [(hp.map c).sum_nat]
  generalize List.range many = r
  induction r with
  | nil => rfl
  | cons i r ih =>
    rw [List.filter_cons]
    by_cases h : 0 < c i
    · rw [if_pos (by simpa using h), List.map_cons, List.map_cons, List.sum_cons, List.sum_cons, ih]
    · rw [if_neg (by simpa using h), List.map_cons, List.sum_cons, ih]; omega
theorem run_count (l : List KeyT) {many : Nat} (hm : 0 < many) : (runS l many).taken.count false = (runS l many).late.length := by
  have h1 := fold_count (keysOf l many) (orderD (fun i => (keysOf l many i).length) many) (startS l.length many)
  have h2 := sum_order (fun i => (keysOf l many i).length) many
  have h3 := sum_filter (pos 0 many) many l fun k => pos_lt 0 hm k
  have h4 : (startS l.length many).taken.count false = l.length := by simp [startS]
  have h5 : (startS l.length many).late.length = 0 := rfl
  have h6 : ((List.range many).map fun i => (keysOf l many i).length).sum = l.length := h3
  unfold runS
  omega
/-- what is late: whole groups, each once -/
theorem fold_late (ks : Nat → List KeyT) : ∀ (o : List Nat) (st : St), ∃ o' : List Nat, o'.Sublist o ∧ (o.foldl (stepS ks) st).late = st.late ++ o'.flatMap ks
  | [], st => ⟨[], List.Sublist.refl _, by simp⟩
  | i :: o, st => by
    obtain ⟨o', h1, h2⟩ := fold_late ks o (stepS ks st i)
    rw [List.foldl_cons, h2]
    cases hj : findD st.taken (ks i) with
    | some j => exact ⟨o', h1.cons _, by unfold stepS; rw [hj]⟩
    | none => exact ⟨i :: o', h1.cons_cons _, by unfold stepS; rw [hj]; simp⟩
theorem mem_keysOf {l : List KeyT} {many i : Nat} {k : KeyT} : k ∈ keysOf l many i ↔ k ∈ l ∧ pos 0 many k = i := by
  unfold keysOf; rw [List.mem_filter, beq_iff_eq]
theorem nodup_groups {l : List KeyT} (h : l.Nodup) (many : Nat) : ∀ {o : List Nat}, o.Nodup → (o.flatMap (keysOf l many)).Nodup
  | [], _ => List.nodup_nil
  | i :: o, ho => by
    have ho := List.nodup_cons.1 ho
    rw [List.flatMap_cons, List.nodup_append]
    refine ⟨h.sublist List.filter_sublist, nodup_groups h many ho.2, fun a ha b hb e => ?_⟩
    subst e
    obtain ⟨j, hj, hb⟩ := List.mem_flatMap.1 hb
    have h1 := (mem_keysOf.1 ha).2
    have h2 := (mem_keysOf.1 hb).2
    exact ho.1 (by rw [← h1, h2]; exact hj)
theorem order_nodup (c : Nat → Nat) (many : Nat) : (orderD c many).Nodup := (orderD_sorted c many).imp fun h e => by subst e; exact ltC_asymm c _ _ h h
theorem run_late (l : List KeyT) (many : Nat) : ∃ o' : List Nat, o'.Sublist (orderD (fun i => (keysOf l many i).length) many) ∧ (runS l many).late = o'.flatMap (keysOf l many) := by
  obtain ⟨o', h1, h2⟩ := fold_late (keysOf l many) (orderD (fun i => (keysOf l many i).length) many) (startS l.length many)
  exact ⟨o', h1, h2⟩
theorem run_nodup {l : List KeyT} (h : l.Nodup) (many : Nat) : (runS l many).late.Nodup := by
  obtain ⟨o', h1, h2⟩ := run_late l many
  rw [h2]
  exact nodup_groups h many ((order_nodup _ _).sublist h1)
theorem run_taken (l : List KeyT) (many : Nat) : (runS l many).taken.length = l.length := by
  have h1 := (fold_len (keysOf l many) (orderD (fun i => (keysOf l many i).length) many) (startS l.length many)).1
  exact h1.trans (by simp [startS])
theorem run_tries (l : List KeyT) (many : Nat) : (runS l many).tries.length = many := by
  have h1 := (fold_len (keysOf l many) (orderD (fun i => (keysOf l many i).length) many) (startS l.length many)).2
  exact h1.trans (by simp [startS])
/-- the next free place from one on -/
def nextF (tk : List Bool) (a : Nat) : Nat := a + (tk.drop a).idxOf false
def freeF (tk : List Bool) (a : Nat) : Nat := (tk.drop a).count false
theorem next_spec {tk : List Bool} {a : Nat} (h : 0 < freeF tk a) : nextF tk a < tk.length ∧ tk[nextF tk a]? = some false ∧ (∀ i, a ≤ i → i < nextF tk a → tk[i]? = some true) ∧ freeF tk (nextF tk a + 1) + 1 = freeF tk a := by
  unfold freeF at h
  have hm : false ∈ tk.drop a := List.count_pos_iff.1 h
  have hlt : (tk.drop a).idxOf false < (tk.drop a).length := List.idxOf_lt_length_of_mem hm
  have hd : (tk.drop a).length = tk.length - a := List.length_drop
  have hg : (tk.drop a)[(tk.drop a).idxOf false] = false := List.getElem_idxOf hlt
  have h0 : nextF tk a < tk.length := by unfold nextF; omega
  have hge : tk[nextF tk a] = false := by
    rw [List.getElem_drop] at hg; exact hg
  have hbefore : ∀ i, a ≤ i → i < nextF tk a → tk[i]? = some true := fun i h1 h2 => by
    have h3 : i - a < (tk.drop a).idxOf false := by unfold nextF at h2; omega
    have h4 : i < tk.length := by omega
    rw [List.getElem?_eq_getElem h4]
    cases hv : tk[i] with
    | true => rfl
    | false =>
      exfalso
      have h5 : (tk.drop a)[i - a]'(by omega) = false := by rw [List.getElem_drop]; simp only [show a + (i - a) = i by omega]; exact hv
      have := List.not_of_lt_findIdx (p := (· == false)) (xs := tk.drop a) h3
      simp [h5] at this
  refine ⟨h0, by rw [List.getElem?_eq_getElem h0, hge], hbefore, ?_⟩
  unfold freeF
  have e : tk.drop a = (tk.drop a).take ((tk.drop a).idxOf false) ++ false :: tk.drop (nextF tk a + 1) := by
    have h6 := List.take_append_drop ((tk.drop a).idxOf false) (tk.drop a)
    rw [List.drop_eq_getElem_cons hlt, hg, List.drop_drop] at h6
    rw [← h6]
    congr 1
    · rw [h6]
  have hz : ((tk.drop a).take ((tk.drop a).idxOf false)).count false = 0 := by
    rw [List.count_eq_zero]
    intro hm2
    obtain ⟨i, hi, hv⟩ := List.getElem_of_mem hm2
    rw [List.getElem_take] at hv
    rw [List.length_take] at hi
    have := List.not_of_lt_findIdx (p := (· == false)) (xs := tk.drop a) (i := i) (show i < (tk.drop a).idxOf false by omega)
    simp [hv] at this
  conv => rhs; rw [e, List.count_append, hz]
  simp
def spillF (tk : List Bool) : Nat → List KeyT → List (KeyT × Nat)
  | _, [] => []
  | a, k :: r => (k, nextF tk a) :: spillF tk (nextF tk a + 1) r
theorem spillF_keys (tk : List Bool) : ∀ (r : List KeyT) (a : Nat), (spillF tk a r).map (·.1) = r
  | [], _ => rfl
  | k :: r, a => by rw [spillF, List.map_cons, spillF_keys tk r]
/-- where the search goes on behind j keys -/
def atF (tk : List Bool) : Nat → List KeyT → Nat
  | a, [] => a
  | a, _ :: r => atF tk (nextF tk a + 1) r
theorem spillF_append (tk : List Bool) : ∀ (r s : List KeyT) (a : Nat), spillF tk a (r ++ s) = spillF tk a r ++ spillF tk (atF tk a r) s
  | [], _, _ => rfl
  | k :: r, s, a => by rw [List.cons_append, spillF, spillF, spillF_append tk r s]; rfl
theorem atF_append (tk : List Bool) : ∀ (r s : List KeyT) (a : Nat), atF tk a (r ++ s) = atF tk (atF tk a r) s
  | [], _, _ => rfl
  | k :: r, s, a => by rw [List.cons_append, atF, atF, atF_append tk r s]
theorem atF_free (tk : List Bool) : ∀ (r : List KeyT) (a : Nat), r.length ≤ freeF tk a → freeF tk (atF tk a r) + r.length = freeF tk a
  | [], _, _ => rfl
  | k :: r, a, h => by
    rw [List.length_cons] at h
    have h1 := (next_spec (tk := tk) (a := a) (by omega)).2.2.2
    have h2 := atF_free tk r (nextF tk a + 1) (by omega)
    rw [atF, List.length_cons]; omega
/-- all that is built -/
structure Built where
  n : Nat
  tries : List Nat
  spill : List (KeyT × Nat)
def buildP (l : List KeyT) : Built := ⟨l.length, (runS l (l.length / 4 + 1)).tries, spillF (runS l (l.length / 4 + 1)).taken 0 (runS l (l.length / 4 + 1)).late⟩
def placeP (b : Built) (k : KeyT) : Int :=
  if b.n = 0 then -1 else if 0 < b.tries.getD (pos 0 b.tries.length k) 0 then (pos (b.tries.getD (pos 0 b.tries.length k) 0 : Nat) b.n k : Int) else match aget b.spill k with
    | some p => p
    | none => -1
end Go.PerfPure
