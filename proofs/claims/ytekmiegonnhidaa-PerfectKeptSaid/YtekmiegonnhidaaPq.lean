/- Each key has a place of its own: plain. -/
import Derived.Test.YtekmiegonnhidaaBq
namespace Go.PerfPure
open Go.XR
theorem nodup_map_inj {α β : Type} {f : α → β} : ∀ {l : List α}, (l.map f).Nodup → ∀ {a b}, a ∈ l → b ∈ l → f a = f b → a = b
  | [], _, _, _, h, _, _ => absurd h (by simp)
  | x :: l, h, a, b, ha, hb, e => by
    rw [List.map_cons, List.nodup_cons] at h
    rcases List.mem_cons.1 ha with ha' | ha'
    · rcases List.mem_cons.1 hb with hb' | hb'
      · rw [ha', hb']
      · exact absurd (List.mem_map.2 ⟨b, hb', by rw [← e, ha']⟩) h.1
    · rcases List.mem_cons.1 hb with hb' | hb'
      · exact absurd (List.mem_map.2 ⟨a, ha', by rw [e, hb']⟩) h.1
      · exact nodup_map_inj h.2 ha' hb' e
theorem getD_set {l : List Nat} {i v x : Nat} (hi : i < l.length) : (l.set i v).getD x 0 = if x = i then v else l.getD x 0 := by
  rw [List.getD_eq_getElem?_getD, List.getElem?_set, List.getD_eq_getElem?_getD]
  by_cases h : i = x
  · subst h; rw [if_pos rfl, if_pos rfl, if_pos hi]; rfl
  · rw [if_neg h, if_neg fun e => h e.symm]
/-- what holds of the keys whose groups were gone through -/
structure Inv (l : List KeyT) (many : Nat) (S : Nat → Prop) (st : St) : Prop where
  small : ∀ x ∈ st.tries, x ≤ 256
  zero : ∀ i, ¬ S i → st.tries.getD i 0 = 0
  put : ∀ k ∈ l, S (pos 0 many k) → (0 < st.tries.getD (pos 0 many k) 0 ∧ st.taken[pos ((st.tries.getD (pos 0 many k) 0 : Nat) : Int) st.taken.length k]? = some true) ∨ (st.tries.getD (pos 0 many k) 0 = 0 ∧ k ∈ st.late)
  apart : ∀ k ∈ l, ∀ k' ∈ l, S (pos 0 many k) → S (pos 0 many k') → 0 < st.tries.getD (pos 0 many k) 0 → 0 < st.tries.getD (pos 0 many k') 0 →
    pos ((st.tries.getD (pos 0 many k) 0 : Nat) : Int) st.taken.length k = pos ((st.tries.getD (pos 0 many k') 0 : Nat) : Int) st.taken.length k' → k = k'
theorem Inv.step {l : List KeyT} {many : Nat} {S : Nat → Prop} {st : St} (h : Inv l many S st) {i : Nat} (hi : ¬ S i) (hl : i < st.tries.length) : Inv l many (fun x => x = i ∨ S x) (stepS (keysOf l many) st i) := by
  cases hj : findD st.taken (keysOf l many i) with
  | none =>
    have hs : stepS (keysOf l many) st i = ⟨st.tries, st.taken, st.late ++ keysOf l many i⟩ := by unfold stepS; rw [hj]
    rw [hs]
    refine ⟨h.small, fun x hx => h.zero x fun e => hx (.inr e), fun k hk hS => ?_, fun k hk k' hk' hS hS' h1 h2 e => ?_⟩
    · dsimp only
      rcases hS with hS | hS
      · right
        exact ⟨by rw [hS]; exact h.zero i hi, List.mem_append.2 (.inr (mem_keysOf.2 ⟨hk, hS⟩))⟩
      · rcases h.put k hk hS with h1 | h1
        · exact .inl h1
        · exact .inr ⟨h1.1, List.mem_append.2 (.inl h1.2)⟩
    · dsimp only at h1 h2 e
      rcases hS with hS | hS
      · rw [hS, h.zero i hi] at h1; omega
      · rcases hS' with hS' | hS'
        · rw [hS', h.zero i hi] at h2; omega
        · exact h.apart k hk k' hk' hS hS' h1 h2 e
  | some j =>
    have hs : stepS (keysOf l many) st i = ⟨st.tries.set i (j + 1), markB true st.taken ((keysOf l many i).map (pos ((j + 1 : Nat) : Int) st.taken.length)), st.late⟩ := by unfold stepS; rw [hj]
    have hj2 : j < 256 := by
      unfold findD at hj
      exact List.mem_range.1 (List.find?_range_eq_some.1 hj).2.1
    have hfit : tryD st.taken (keysOf l many i) (j + 1) = true := by
      unfold findD at hj
      have := (List.find?_range_eq_some.1 hj).1
      simpa using this
    have hf := of_decide_eq_true (show decide _ = true from hfit)
    rw [hs]
    have hin : ∀ k ∈ l, pos 0 many k = i → pos ((j + 1 : Nat) : Int) st.taken.length k ∈ (keysOf l many i).map (pos ((j + 1 : Nat) : Int) st.taken.length) := fun k hk e => List.mem_map.2 ⟨k, mem_keysOf.2 ⟨hk, e⟩, rfl⟩
    refine ⟨fun x hx => ?_, fun x hx => ?_, fun k hk hS => ?_, fun k hk k' hk' hS hS' h1 h2 e => ?_⟩
    · rcases List.mem_or_eq_of_mem_set hx with hx | rfl
      · exact h.small x hx
      · omega
    · dsimp only
      rw [getD_set hl, if_neg fun e => hx (.inl e)]
      exact h.zero x fun e => hx (.inr e)
    · dsimp only
      rw [getD_set hl, markB_length, markB_get]
      by_cases c : pos 0 many k = i
      · left
        rw [if_pos c, if_pos (hin k hk c), hf.2 _ (hin k hk c)]
        exact ⟨by omega, rfl⟩
      · rw [if_neg c]
        rcases h.put k hk (hS.resolve_left c) with h1 | h1
        · left
          refine ⟨h1.1, ?_⟩
          rw [h1.2]
          split <;> rfl
        · exact .inr h1
    · dsimp only at h1 h2 e
      rw [getD_set hl] at h1 h2
      rw [getD_set hl, getD_set hl, markB_length] at e
      by_cases c : pos 0 many k = i
      · rw [if_pos c] at e
        by_cases c' : pos 0 many k' = i
        · rw [if_pos c'] at e
          exact nodup_map_inj hf.1 (mem_keysOf.2 ⟨hk, c⟩) (mem_keysOf.2 ⟨hk', c'⟩) e
        · rw [if_neg c'] at e h2
          have h3 := hf.2 _ (hin k hk c)
          rcases h.put k' hk' (hS'.resolve_left c') with h4 | h4
          · rw [e, h4.2] at h3; cases h3
          · omega
      · rw [if_neg c] at e h1
        by_cases c' : pos 0 many k' = i
        · rw [if_pos c'] at e
          have h3 := hf.2 _ (hin k' hk' c')
          rcases h.put k hk (hS.resolve_left c) with h4 | h4
          · rw [← e, h4.2] at h3; cases h3
          · omega
        · rw [if_neg c'] at e h2
          exact h.apart k hk k' hk' (hS.resolve_left c) (hS'.resolve_left c') h1 h2 e
theorem Inv.fold {l : List KeyT} {many : Nat} : ∀ (r : List Nat) (S : Nat → Prop) (st : St), Inv l many S st → r.Nodup → (∀ i ∈ r, ¬ S i ∧ i < st.tries.length) → Inv l many (fun x => x ∈ r ∨ S x) (r.foldl (stepS (keysOf l many)) st)
  | [], S, st, h, _, _ => by
    have e : (fun x => x ∈ ([] : List Nat) ∨ S x) = S := funext fun x => by simp
    rw [e]; exact h
  | i :: r, S, st, h, hn, hr => by
    have hn := List.nodup_cons.1 hn
    have h1 := Inv.fold r _ _ (h.step (hr i (by simp)).1 (hr i (by simp)).2) hn.2 fun x hx => ⟨fun e => by
      rcases e with rfl | e
      · exact hn.1 hx
      · exact (hr x (List.mem_cons_of_mem _ hx)).1 e, by rw [(stepS_len _ _ _).2]; exact (hr x (List.mem_cons_of_mem _ hx)).2⟩
    have e : (fun x => x ∈ r ∨ x = i ∨ S x) = fun x => x ∈ i :: r ∨ S x := funext fun x => propext ⟨fun h => by
      rcases h with h | h | h
      · exact .inl (List.mem_cons_of_mem _ h)
      · exact .inl (by rw [h]; simp)
      · exact .inr h, fun h => by
      rcases h with h | h
      · rcases List.mem_cons.1 h with h | h
        · exact .inr (.inl h)
        · exact .inl h
      · exact .inr (.inr h)⟩
    rw [← e]; exact h1
theorem run_inv (l : List KeyT) {many : Nat} (hm : 0 < many) : Inv l many (fun x => x ∈ orderD (fun i => (keysOf l many i).length) many ∨ False) (runS l many) := by
  refine Inv.fold _ _ _ ⟨fun x hx => ?_, fun i _ => ?_, fun _ _ h => h.elim, fun _ _ _ _ h => h.elim⟩ (order_nodup _ _) fun i hi => ⟨id, ?_⟩
  · have := (List.mem_replicate.1 hx).2; omega
  · simp only [startS, List.getD_eq_getElem?_getD, List.getElem?_replicate]
    split <;> rfl
  · simp only [startS, List.length_replicate]
    exact ((orderD_mem _ _ _).1 hi).1
theorem in_order {l : List KeyT} {many : Nat} (hm : 0 < many) {k : KeyT} (hk : k ∈ l) : pos 0 many k ∈ orderD (fun i => (keysOf l many i).length) many :=
  (orderD_mem _ _ _).2 ⟨pos_lt 0 hm k, List.length_pos_iff.2 fun e => by
    have h1 : k ∈ keysOf l many (pos 0 many k) := mem_keysOf.2 ⟨hk, rfl⟩
    rw [e] at h1; simp at h1⟩
theorem spill_facts (tk : List Bool) : ∀ (r : List KeyT) (a : Nat), r.length ≤ freeF tk a → (∀ x ∈ spillF tk a r, a ≤ x.2 ∧ x.2 < tk.length ∧ tk[x.2]? = some false) ∧ ((spillF tk a r).map (·.2)).Nodup
  | [], _, _ => ⟨fun x hx => (by cases hx), List.nodup_nil⟩
  | k :: r, a, h => by
    rw [List.length_cons] at h
    obtain ⟨h1, h2, _, h4⟩ := next_spec (tk := tk) (a := a) (by omega)
    obtain ⟨i1, i2⟩ := spill_facts tk r (nextF tk a + 1) (by omega)
    have ha : a ≤ nextF tk a := by unfold nextF; omega
    rw [spillF]
    refine ⟨fun x hx => ?_, ?_⟩
    · rcases List.mem_cons.1 hx with rfl | hx
      · exact ⟨ha, h1, h2⟩
      · have := i1 x hx
        exact ⟨by omega, this.2⟩
    · rw [List.map_cons, List.nodup_cons]
      refine ⟨fun hm => ?_, i2⟩
      obtain ⟨x, hx, e⟩ := List.mem_map.1 hm
      have := (i1 x hx).1
      dsimp only at e
      omega
theorem build_spill (l : List KeyT) : (∀ x ∈ (buildP l).spill, x.2 < l.length ∧ (runS l (l.length / 4 + 1)).taken[x.2]? = some false) ∧ ((buildP l).spill.map (·.2)).Nodup := by
  have h := spill_facts (runS l (l.length / 4 + 1)).taken (runS l (l.length / 4 + 1)).late 0 (by rw [← run_count l (by omega)]; unfold freeF; rw [List.drop_zero]; exact Nat.le_refl _)
  rw [run_taken] at h
  exact ⟨fun x hx => (h.1 x hx).2, h.2⟩
theorem build_keys (l : List KeyT) : (buildP l).spill.map (·.1) = (runS l (l.length / 4 + 1)).late := spillF_keys _ _ _
/-- where a key lies -/
theorem place_cases {l : List KeyT} (hnd : l.Nodup) {k : KeyT} (hk : k ∈ l) :
    (0 < (runS l (l.length / 4 + 1)).tries.getD (pos 0 (l.length / 4 + 1) k) 0 ∧ placeP (buildP l) k = (pos (((runS l (l.length / 4 + 1)).tries.getD (pos 0 (l.length / 4 + 1) k) 0 : Nat) : Int) l.length k : Int) ∧ (runS l (l.length / 4 + 1)).taken[pos (((runS l (l.length / 4 + 1)).tries.getD (pos 0 (l.length / 4 + 1) k) 0 : Nat) : Int) l.length k]? = some true) ∨
    (∃ p, (k, p) ∈ (buildP l).spill ∧ placeP (buildP l) k = (p : Int)) := by
  have hl : 0 < l.length := List.length_pos_of_mem hk
  have hn : ¬ (buildP l).n = 0 := by show ¬ l.length = 0; omega
  have ht : (buildP l).tries.length = l.length / 4 + 1 := run_tries l _
  have hI := run_inv l (many := l.length / 4 + 1) (by omega)
  have hp := hI.put k hk (.inl (in_order (by omega) hk))
  rw [run_taken] at hp
  rcases hp with hp | hp
  · left
    refine ⟨hp.1, ?_, hp.2⟩
    unfold placeP
    rw [if_neg hn, ht]
    rw [if_pos (show 0 < (buildP l).tries.getD (pos 0 (l.length / 4 + 1) k) 0 from hp.1)]
    rfl
  · right
    have h1 : k ∈ (buildP l).spill.map (·.1) := by rw [build_keys]; exact hp.2
    obtain ⟨⟨k', p⟩, hx, rfl⟩ := List.mem_map.1 h1
    refine ⟨p, hx, ?_⟩
    have hnd2 : ((buildP l).spill.map (·.1)).Nodup := by rw [build_keys]; exact run_nodup hnd _
    unfold placeP
    rw [if_neg hn, ht, if_neg (by show ¬ 0 < (runS l (l.length / 4 + 1)).tries.getD _ 0; rw [hp.1]; omega), (aget_mem hnd2).2 hx]
theorem place_in {l : List KeyT} (hnd : l.Nodup) {k : KeyT} (hk : k ∈ l) : 0 ≤ placeP (buildP l) k ∧ placeP (buildP l) k < l.length := by
  have hl : 0 < l.length := List.length_pos_of_mem hk
  rcases place_cases hnd hk with ⟨_, e, _⟩ | ⟨p, hp, e⟩
  · rw [e]
    have := pos_lt (((runS l (l.length / 4 + 1)).tries.getD (pos 0 (l.length / 4 + 1) k) 0 : Nat) : Int) hl k
    omega
  · rw [e]
    have := ((build_spill l).1 _ hp).1
    dsimp only at this
    omega
theorem place_inj {l : List KeyT} (hnd : l.Nodup) {k k' : KeyT} (hk : k ∈ l) (hk' : k' ∈ l) (he : placeP (buildP l) k = placeP (buildP l) k') : k = k' := by
  have hI := run_inv l (many := l.length / 4 + 1) (by omega)
  rcases place_cases hnd hk with ⟨h1, e, h2⟩ | ⟨p, hp, e⟩
  · rcases place_cases hnd hk' with ⟨h1', e', h2'⟩ | ⟨p', hp', e'⟩
    · refine hI.apart k hk k' hk' (.inl (in_order (by omega) hk)) (.inl (in_order (by omega) hk')) h1 h1' ?_
      rw [run_taken]
      omega
    · have h3 := ((build_spill l).1 _ hp').2
      dsimp only at h3
      rw [show p' = pos (((runS l (l.length / 4 + 1)).tries.getD (pos 0 (l.length / 4 + 1) k) 0 : Nat) : Int) l.length k by omega, h2] at h3
      cases h3
  · rcases place_cases hnd hk' with ⟨h1', e', h2'⟩ | ⟨p', hp', e'⟩
    · have h3 := ((build_spill l).1 _ hp).2
      dsimp only at h3
      rw [show p = pos (((runS l (l.length / 4 + 1)).tries.getD (pos 0 (l.length / 4 + 1) k') 0 : Nat) : Int) l.length k' by omega, h2'] at h3
      cases h3
    · have := nodup_map_inj (build_spill l).2 hp hp' (show p = p' by omega)
      exact congrArg Prod.fst this
theorem place_range (l : List KeyT) (hnd : l.Nodup) (k : KeyT) : -1 ≤ placeP (buildP l) k ∧ placeP (buildP l) k < l.length := by
  unfold placeP
  by_cases h0 : (buildP l).n = 0
  · rw [if_pos h0]
    omega
  · rw [if_neg h0]
    have hl : 0 < l.length := by have : ¬ l.length = 0 := h0; omega
    split
    · have := pos_lt (((buildP l).tries.getD (pos 0 (buildP l).tries.length k) 0 : Nat) : Int) hl k
      have e : (buildP l).n = l.length := rfl
      rw [e]; omega
    · split
      · rename_i p hp
        have hnd2 : ((buildP l).spill.map (·.1)).Nodup := by rw [build_keys]; exact run_nodup hnd _
        have := ((build_spill l).1 _ ((aget_mem hnd2).1 hp)).1
        dsimp only at this
        omega
      · omega
theorem build_small (l : List KeyT) : ∀ x ∈ (buildP l).tries, x ≤ 256 := (run_inv l (many := l.length / 4 + 1) (by omega)).small
theorem build_tries (l : List KeyT) : (buildP l).tries.length = l.length / 4 + 1 := run_tries l _
theorem build_spill_len (l : List KeyT) : (buildP l).spill.length ≤ l.length := by
  have h1 := congrArg List.length (build_keys l)
  rw [List.length_map] at h1
  rw [h1, ← run_count l (many := l.length / 4 + 1) (by omega)]
  have h2 := run_taken l (l.length / 4 + 1)
  exact Nat.le_trans List.count_le_length (Nat.le_of_eq h2)
end Go.PerfPure
