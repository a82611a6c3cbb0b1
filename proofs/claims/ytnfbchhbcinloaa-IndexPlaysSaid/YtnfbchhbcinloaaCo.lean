/- What an index's three maps have to do with each other; what a chunk's going and coming does to that. -/
import Derived.Test.YtnfbchhbcinloaaIn
namespace Go.Proofs.Ytnfbchhbcinloaa
open Go.RowKit Go.XR Go.IndexPure
def PlaceOk (v : PlaceT) : Prop := (-9223372036854775808 ≤ v.shelf ∧ v.shelf ≤ 9223372036854775807) ∧ (-9223372036854775808 ≤ v.slot ∧ v.slot ≤ 9223372036854775807)
structure Coh (D : List (KeyT × PlaceT)) (T : List (SumT × NumRow)) (Sh : List (I64 × Nat)) (L : Nat → List (KeyT × Unit)) : Prop where
  nd : (D.map (·.1)).Nodup
  sorted : ∀ d, (numsOf T d).Pairwise (fun x y => x.toNat < y.toNat)
  ne : ∀ d r, aget T d = some r → r.l ≠ []
  mem : ∀ d n, n ∈ numsOf T d ↔ (aget D ⟨d, n⟩).isSome = true
  rng : ∀ k v, aget D k = some v → PlaceOk v
  sh : ∀ (s : I64) k, (∃ m, aget Sh s = some m ∧ (aget (L m) k).isSome = true) ↔ ∃ v, aget D k = some v ∧ v.shelf = s.1
  shNe : ∀ s m, aget Sh s = some m → L m ≠ []
theorem key_eta (k : KeyT) : (⟨k.sum, k.n⟩ : KeyT) = k := by cases k; rfl
section
variable {D : List (KeyT × PlaceT)} {T : List (SumT × NumRow)} {Sh : List (I64 × Nat)} {L : Nat → List (KeyT × Unit)}
theorem Coh.nums_le (h : Coh D T Sh L) (d : SumT) : (numsOf T d).length ≤ D.length := by
  have h1 : ((numsOf T d).map fun n => (⟨d, n⟩ : KeyT)).Nodup := by
    have := h.sorted d
    unfold List.Nodup
    rw [List.pairwise_map]
    exact this.imp fun {a b} hab e => by injection e with _ e2; subst e2; omega
  have h2 := h1.length_le_of_subset (l₂ := D.map (·.1)) (fun k hk => by
    obtain ⟨n, hn, rfl⟩ := List.mem_map.1 hk
    have := (h.mem d n).1 hn
    obtain ⟨v, hv⟩ := Option.isSome_iff_exists.1 this
    exact List.mem_map.2 ⟨(⟨d, n⟩, v), (aget_mem h.nd).1 hv, rfl⟩)
  simpa using h2
theorem low_at {l : List UInt32} (hs : l.Pairwise (fun x y => x.toNat < y.toNat)) {n : UInt32} {i : Nat} (h : LowAt l n i) (hm : n ∈ l) : ∃ hi : i < l.length, l[i] = n := by
  have HS := List.pairwise_iff_getElem.1 hs
  obtain ⟨q, hq, he⟩ := List.getElem_of_mem hm
  by_cases c : q < i
  · have := h.2.1 q hq c; rw [he] at this; omega
  · have hi : i < l.length := by omega
    refine ⟨hi, ?_⟩
    by_cases d : i = q
    · subst d; exact he
    · have h1 := HS i q hi hq (by omega)
      have h2 := h.2.2 i hi (Nat.le_refl _)
      rw [he] at h1; omega
theorem del_mem {l : List UInt32} (hs : l.Pairwise (fun x y => x.toNat < y.toNat)) {i : Nat} (hi : i < l.length) (x : UInt32) : x ∈ l.take i ++ l.drop (i + 1) ↔ x ∈ l ∧ x ≠ l[i] := by
  have HS := List.pairwise_iff_getElem.1 hs
  rw [← List.eraseIdx_eq_take_drop_succ, List.mem_eraseIdx_iff_getElem]
  constructor
  · rintro ⟨j, hj, hne, rfl⟩
    refine ⟨List.getElem_mem _, fun e => ?_⟩
    rcases Nat.lt_or_gt_of_ne hne with h | h
    · have := HS j i hj hi h; rw [e] at this; omega
    · have := HS i j hi hj h; rw [e] at this; omega
  · rintro ⟨hm, hne⟩
    obtain ⟨j, hj, rfl⟩ := List.getElem_of_mem hm
    exact ⟨j, hj, fun e => hne (by subst e; rfl), rfl⟩
theorem del_sorted {l : List UInt32} (hs : l.Pairwise (fun x y => x.toNat < y.toNat)) (i : Nat) : (l.take i ++ l.drop (i + 1)).Pairwise (fun x y => x.toNat < y.toNat) := by
  rw [← List.eraseIdx_eq_take_drop_succ]; exact hs.sublist (List.eraseIdx_sublist l i)
theorem ins_mem (l : List UInt32) (i : Nat) (n x : UInt32) : x ∈ insAt l i n ↔ x = n ∨ x ∈ l := by
  unfold insAt
  have : x ∈ l ↔ x ∈ l.take i ∨ x ∈ l.drop i := by rw [← List.mem_append, List.take_append_drop]
  rw [List.mem_append, List.mem_cons, this]
  constructor
  · rintro (h | h | h)
    · exact .inr (.inl h)
    · exact .inl h
    · exact .inr (.inr h)
  · rintro (h | h | h)
    · exact .inr (.inl h)
    · exact .inl h
    · exact .inr (.inr h)
theorem ins_sorted {l : List UInt32} (hs : l.Pairwise (fun x y => x.toNat < y.toNat)) {n : UInt32} {i : Nat} (h : LowAt l n i) (hn : n ∉ l) : (insAt l i n).Pairwise (fun x y => x.toNat < y.toNat) := by
  unfold insAt
  have hlo : ∀ x ∈ l.take i, x.toNat < n.toNat := fun x hx => by
    obtain ⟨j, hj, rfl⟩ := List.getElem_of_mem hx
    rw [List.length_take] at hj
    rw [List.getElem_take]
    exact h.2.1 j (by omega) (by omega)
  have hhi : ∀ x ∈ l.drop i, n.toNat < x.toNat := fun x hx => by
    have hxl := List.mem_of_mem_drop hx
    obtain ⟨j, hj, rfl⟩ := List.getElem_of_mem hx
    rw [List.length_drop] at hj
    rw [List.getElem_drop] at hxl ⊢
    have h1 := h.2.2 (i + j) (by omega) (by omega)
    rcases Nat.lt_or_eq_of_le h1 with h2 | h2
    · exact h2
    · rw [← UInt32.toNat_inj.1 h2] at hxl; exact absurd hxl hn
  rw [List.pairwise_append, List.pairwise_cons]
  refine ⟨hs.sublist (List.take_sublist _ _), ⟨hhi, hs.sublist (List.drop_sublist _ _)⟩, fun x hx y hy => ?_⟩
  rcases List.mem_cons.1 hy with rfl | hy
  · exact hlo x hx
  · exact Nat.lt_trans (hlo x hx) (hhi y hy)
theorem numsOf_eq (T : List (SumT × NumRow)) (d : SumT) : numsOf T d = ((aget T d).map (·.l)).getD [] := by unfold numsOf; cases aget T d <;> rfl
theorem adel_none (D : List (KeyT × PlaceT)) {k : KeyT} (h : aget D k = none) : adel D k = D := by
  unfold adel
  rw [List.filter_eq_self]
  intro p hp
  exact decide_eq_true (aget_none.1 h p hp)
theorem Coh.drop (h : Coh D T Sh L) (hinj : ∀ s t m, aget Sh s = some m → aget Sh t = some m → s = t) {k : KeyT} {v : PlaceT} (hk : aget D k = some v) {s : I64} (hs : v.shelf = s.1) {m : Nat} (hm : aget Sh s = some m)
    {r : NumRow} (hr : aget T k.sum = some r) {i : Nat} (hi : i < r.l.length) (hni : r.l[i] = k.n) {r' : NumRow} (hr' : r'.l = r.l.take i ++ r.l.drop (i + 1)) {T' : List (SumT × NumRow)} (hT' : ∀ d, aget T' d = if d = k.sum then (if r'.l = [] then none else some r') else aget T d)
    {Sh' : List (I64 × Nat)} (hSh' : ∀ t, aget Sh' t = if t = s ∧ adel (L m) k = [] then none else aget Sh t) : Coh (adel D k) T' Sh' (fun i => if i = m then adel (L m) k else L i) := by
  have hrl : numsOf T k.sum = r.l := by rw [numsOf_eq, hr]; rfl
  have hnums : ∀ d, numsOf T' d = if d = k.sum then r.l.take i ++ r.l.drop (i + 1) else numsOf T d := fun d => by
    rw [numsOf_eq, hT']
    by_cases e : d = k.sum
    · rw [if_pos e, if_pos e]
      by_cases e2 : r'.l = []
      · rw [if_pos e2, ← hr', e2]; rfl
      · rw [if_neg e2, ← hr']; rfl
    · rw [if_neg e, if_neg e, numsOf_eq]
  have hsr := h.sorted k.sum
  rw [hrl] at hsr
  exact {
    nd := adel_nodup h.nd k
    sorted := fun d => by
      rw [hnums]
      split
      · exact del_sorted hsr i
      · exact h.sorted d
    ne := fun d r0 h0 => by
      rw [hT'] at h0
      split at h0
      · split at h0
        · cases h0
        · rename_i h2; injection h0 with h0; subst h0; exact h2
      · exact h.ne d r0 h0
    mem := fun d n => by
      rw [hnums, aget_del]
      by_cases e : d = k.sum
      · rw [if_pos e, del_mem hsr hi, hni, ← hrl, h.mem]
        subst e
        by_cases e2 : n = k.n
        · subst e2
          rw [if_pos (key_eta k)]; simp
        · rw [if_neg (fun e3 => e2 (by rw [← e3]))]
          exact ⟨fun hx => hx.1, fun hx => ⟨hx, e2⟩⟩
      · rw [if_neg e, if_neg (fun e3 => e (by rw [← e3])), h.mem]
    rng := fun k0 v0 h0 => by
      rw [aget_del] at h0
      split at h0
      · cases h0
      · exact h.rng k0 v0 h0
    sh := fun t c => by
      rw [aget_del]
      constructor
      · rintro ⟨n, hn, hc⟩
        rw [hSh'] at hn
        split at hn
        · cases hn
        · by_cases e : n = m
          · subst e
            rw [if_pos rfl, aget_del] at hc
            split at hc
            · cases hc
            · rename_i hne
              rw [if_neg hne]
              exact (h.sh t c).1 ⟨n, hn, hc⟩
          · rw [if_neg e] at hc
            obtain ⟨v0, h1, h2⟩ := (h.sh t c).1 ⟨n, hn, hc⟩
            refine ⟨v0, ?_, h2⟩
            rw [if_neg]
            · exact h1
            · rintro rfl
              rw [hk] at h1
              injection h1 with h1
              subst h1
              have : t = s := Subtype.ext (h2.symm.trans hs)
              subst this
              rw [hm] at hn
              injection hn with hn
              exact e hn.symm
      · rintro ⟨v0, h1, h2⟩
        split at h1
        · cases h1
        · rename_i hne
          obtain ⟨n, hn, hc⟩ := (h.sh t c).2 ⟨v0, h1, h2⟩
          refine ⟨n, ?_, ?_⟩
          · rw [hSh', if_neg]
            · exact hn
            · rintro ⟨rfl, h3⟩
              rw [hm] at hn
              injection hn with hn
              subst hn
              have : (aget (adel (L m) k) c).isSome = true := by rw [aget_del, if_neg hne]; exact hc
              rw [h3] at this
              cases this
          · by_cases e : n = m
            · subst e
              rw [if_pos rfl, aget_del, if_neg hne]; exact hc
            · rw [if_neg e]; exact hc
    shNe := fun t n hn => by
      rw [hSh'] at hn
      split at hn
      · cases hn
      · rename_i h3
        by_cases e : n = m
        · subst e
          rw [if_pos rfl]
          exact fun h4 => h3 ⟨hinj t s n hn hm, h4⟩
        · rw [if_neg e]; exact h.shNe t n hn }
theorem Coh.put (h : Coh D T Sh L) {k : KeyT} {v : PlaceT} (hk : aget D k = none) (hv : PlaceOk v) {s : I64} (hs : v.shelf = s.1) {i : Nat} (hl : LowAt (numsOf T k.sum) k.n i)
    {r' : NumRow} (hr' : r'.l = insAt (numsOf T k.sum) i k.n) {T' : List (SumT × NumRow)} (hT' : ∀ d, aget T' d = if d = k.sum then some r' else aget T d)
    {Sh' : List (I64 × Nat)} {L' : Nat → List (KeyT × Unit)} {m : Nat} (hm : aget Sh' s = some m) (hold : ∀ t, t ≠ s → aget Sh' t = aget Sh t) (hinj : ∀ t, aget Sh' t = some m → t = s) (hL' : ∀ i, i ≠ m → L' i = L i) {l0 : List (KeyT × Unit)} (hLm : L' m = aput l0 k ())
    (hl0 : (aget Sh s = some m ∧ l0 = L m) ∨ (aget Sh s = none ∧ l0 = [])) : Coh (aput D k v) T' Sh' L' := by
  have hnums : ∀ d, numsOf T' d = if d = k.sum then insAt (numsOf T k.sum) i k.n else numsOf T d := fun d => by
    rw [numsOf_eq, hT']
    by_cases e : d = k.sum
    · rw [if_pos e, if_pos e, ← hr']; rfl
    · rw [if_neg e, if_neg e, numsOf_eq]
  have hnk : k.n ∉ numsOf T k.sum := fun hx => by
    have := (h.mem k.sum k.n).1 hx
    rw [key_eta, hk] at this; cases this
  have hl0mem : ∀ c, (aget l0 c).isSome = true ↔ ∃ v0, aget D c = some v0 ∧ v0.shelf = s.1 := fun c => by
    rw [← h.sh s c]
    rcases hl0 with ⟨h1, rfl⟩ | ⟨h1, rfl⟩
    · constructor
      · exact fun hx => ⟨m, h1, hx⟩
      · rintro ⟨n, hn, hc⟩
        rw [h1] at hn; injection hn with hn; subst hn; exact hc
    · constructor
      · intro hx; cases hx
      · rintro ⟨n, hn, hc⟩
        rw [h1] at hn; cases hn
  exact {
    nd := aput_nodup h.nd k v
    sorted := fun d => by
      rw [hnums]
      split
      · exact ins_sorted (h.sorted _) hl hnk
      · exact h.sorted d
    ne := fun d r0 h0 => by
      rw [hT'] at h0
      split at h0
      · injection h0 with h0
        subst h0
        rw [hr']
        unfold insAt
        simp
      · exact h.ne d r0 h0
    mem := fun d n => by
      rw [hnums, aget_put]
      by_cases e : d = k.sum
      · rw [if_pos e, ins_mem, h.mem]
        subst e
        by_cases e2 : n = k.n
        · subst e2
          rw [if_pos (key_eta k)]; simp
        · rw [if_neg (fun e3 => e2 (by rw [← e3]))]
          exact ⟨fun hx => hx.resolve_left e2, .inr⟩
      · rw [if_neg e, if_neg (fun e3 => e (by rw [← e3])), h.mem]
    rng := fun k0 v0 h0 => by
      rw [aget_put] at h0
      split at h0
      · injection h0 with h0; subst h0; exact hv
      · exact h.rng k0 v0 h0
    sh := fun t c => by
      rw [aget_put]
      by_cases et : t = s
      · subst et
        have h1 : (∃ n, aget Sh' t = some n ∧ (aget (L' n) c).isSome = true) ↔ (aget (aput l0 k ()) c).isSome = true := by
          rw [← hLm]
          constructor
          · rintro ⟨n, hn, hc⟩
            rw [hm] at hn; injection hn with hn; subst hn; exact hc
          · exact fun hc => ⟨m, hm, hc⟩
        rw [h1, aget_put]
        by_cases ec : c = k
        · rw [if_pos ec, if_pos ec]
          exact ⟨fun _ => ⟨v, rfl, hs⟩, fun _ => rfl⟩
        · rw [if_neg ec, if_neg ec, hl0mem]
      · rw [hold t et]
        have h1 : (∃ n, aget Sh t = some n ∧ (aget (L' n) c).isSome = true) ↔ (∃ n, aget Sh t = some n ∧ (aget (L n) c).isSome = true) := by
          have key : ∀ n, aget Sh t = some n → L' n = L n := fun n hn => hL' n fun e => by
            subst e
            exact et (hinj t (by rw [hold t et]; exact hn))
          constructor
          · rintro ⟨n, hn, hc⟩; exact ⟨n, hn, by rw [← key n hn]; exact hc⟩
          · rintro ⟨n, hn, hc⟩; exact ⟨n, hn, by rw [key n hn]; exact hc⟩
        rw [h1, h.sh]
        by_cases ec : c = k
        · subst ec
          rw [if_pos rfl, hk]
          constructor
          · rintro ⟨v0, h2, _⟩; cases h2
          · rintro ⟨v0, h2, h3⟩
            injection h2 with h2
            subst h2
            exact absurd (Subtype.ext (h3.symm.trans hs)) et
        · rw [if_neg ec]
    shNe := fun t n hn => by
      by_cases e : n = m
      · subst e
        rw [hLm]
        intro h4
        have : (aget (aput l0 k ()) k).isSome = true := by rw [aget_put, if_pos rfl]; rfl
        rw [h4] at this
        cases this
      · rw [hL' n e]
        by_cases et : t = s
        · subst et
          rw [hm] at hn; injection hn with hn; exact absurd hn.symm e
        · rw [hold t et] at hn
          exact h.shNe t n hn }
end
end Go.Proofs.Ytnfbchhbcinloaa
