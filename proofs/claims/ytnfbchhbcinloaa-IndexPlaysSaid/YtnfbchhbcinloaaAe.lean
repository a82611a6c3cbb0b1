/- append of elements of k cells onto a row of the call's own. -/
import Derived.Test.YtnfbchhbcinloaaApp
import Derived.Laws.MakeOwn
namespace Go.XR
open Go Go.RowKit
theorem flat_len {α : Type} {enc : α → List Value} {k : Nat} (hk : ∀ x, (enc x).length = k) : ∀ l : List α, (l.flatMap enc).length = l.length * k
  | [] => by simp
  | a :: l => by rw [List.flatMap_cons, List.length_append, hk, flat_len hk l, List.length_cons, Nat.add_mul, Nat.one_mul, Nat.add_comm]
theorem flat_take {α : Type} {enc : α → List Value} {k : Nat} (hk : ∀ x, (enc x).length = k) (l : List α) {i : Nat} (hi : i ≤ l.length) : (l.flatMap enc).take (i * k) = (l.take i).flatMap enc := by
  conv => lhs; rw [← List.take_append_drop i l, List.flatMap_append]
  rw [List.take_left']
  rw [flat_len hk, List.length_take]; congr 1; omega
theorem flat_drop {α : Type} {enc : α → List Value} {k : Nat} (hk : ∀ x, (enc x).length = k) (l : List α) {i : Nat} (hi : i ≤ l.length) : (l.flatMap enc).drop (i * k) = (l.drop i).flatMap enc := by
  conv => lhs; rw [← List.take_append_drop i l, List.flatMap_append]
  rw [List.drop_left']
  rw [flat_len hk, List.length_take]; congr 1; omega
theorem flat_get {α : Type} {enc : α → List Value} {k : Nat} (hk : ∀ x, (enc x).length = k) (l : List α) {i j : Nat} (hi : i < l.length) (hj : j < k) : (l.flatMap enc)[i * k + j]? = (enc l[i])[j]? := by
  have h := flat_drop hk l (i := i) (by omega)
  rw [← List.getElem?_drop, h, List.drop_eq_getElem_cons hi, List.flatMap_cons, List.getElem?_append_left (by rw [hk]; exact hj)]
theorem flat_setk {α : Type} {enc : α → List Value} {k : Nat} (hk : ∀ x, (enc x).length = k) (l : List α) {i j : Nat} (hi : i < l.length) (hj : j < k) (v : Value) (x : α) (hx : enc x = (enc l[i]).set j v) : (l.flatMap enc).set (i * k + j) v = (l.set i x).flatMap enc := by
  refine List.ext_getElem? fun q => ?_
  have hl := flat_len hk l
  have hl2 := flat_len hk (l.set i x)
  rw [List.length_set] at hl2
  have hk0 : 0 < k := by omega
  by_cases hq : q < l.length * k
  · have h1 : q / k < l.length := Nat.div_lt_of_lt_mul (by rw [Nat.mul_comm]; exact hq)
    have h2 : q % k < k := Nat.mod_lt _ hk0
    have e : q = q / k * k + q % k := by rw [Nat.mul_comm]; exact (Nat.div_add_mod q k).symm
    have h3 : ((l.set i x).flatMap enc)[q]? = (enc (if i = q / k then x else l[q / k]))[q % k]? := by
      conv => lhs; rw [e]
      rw [flat_get hk _ (by rw [List.length_set]; exact h1) h2, List.getElem_set]
    have h4 : (l.flatMap enc)[q]? = (enc l[q / k])[q % k]? := by
      conv => lhs; rw [e]
      rw [flat_get hk _ h1 h2]
    rw [h3, List.getElem?_set]
    by_cases c : i = q / k
    · subst c
      rw [if_pos rfl, hx, List.getElem?_set]
      by_cases d : j = q % k
      · rw [if_pos d, if_pos (by omega), if_pos (by omega), if_pos (by rw [hk]; omega)]
      · rw [if_neg d, if_neg (by omega), h4]
    · have : ¬ i * k + j = q := fun e2 => c (by
        have : (i * k + j) / k = i := by rw [Nat.mul_comm, Nat.mul_add_div hk0, Nat.div_eq_of_lt hj, Nat.add_zero]
        rw [← e2, this])
      rw [if_neg c, if_neg this, h4]
  · rw [List.getElem?_eq_none (by rw [List.length_set, hl]; omega), List.getElem?_eq_none (by rw [hl2]; omega)]
theorem made_flat {α : Type} {enc : α → List Value} {k : Nat} (hk : ∀ x, (enc x).length = k) (x : α) (z : Array Value) (hz : z.toList = enc x) (n : Nat) : (madeCells z (n * k)).toList = (List.replicate n x).flatMap enc := by
  have hzs : z.size = k := by rw [← Array.length_toList, hz, hk]
  refine List.ext_getElem? fun q => ?_
  have hl := flat_len hk (List.replicate n x)
  rw [List.length_replicate] at hl
  by_cases hq : q < n * k
  · have hk0 : 0 < k := Nat.pos_of_ne_zero fun e => by subst e; omega
    have h1 : q / k < n := Nat.div_lt_of_lt_mul (by rw [Nat.mul_comm]; exact hq)
    have h2 : q % k < k := Nat.mod_lt _ hk0
    have e : q = q / k * k + q % k := by rw [Nat.mul_comm]; exact (Nat.div_add_mod q k).symm
    have h3 : ((List.replicate n x).flatMap enc)[q]? = (enc x)[q % k]? := by
      conv => lhs; rw [e]
      rw [flat_get hk _ (by rw [List.length_replicate]; exact h1) h2, List.getElem_replicate]
    rw [h3]
    unfold madeCells
    rw [Array.toList_map, List.getElem?_map, Array.toList_range, List.getElem?_range hq]
    show some (z[q % z.size]!) = _
    rw [hzs, getElem!_pos z _ (by omega), ← hz, Array.getElem?_toList, Array.getElem?_eq_getElem (by omega)]
  · rw [List.getElem?_eq_none (by rw [Array.length_toList, size_madeCells]; omega), List.getElem?_eq_none (by omega)]
theorem info_parts {P : Program} {t : TypeId} {z : Value} {n b : Nat} (h : (P.info? t).map (fun i => (i.zero, i.size, i.bytes)) = some (some z, n, b)) : ∃ i, P.info? t = some i ∧ i.zero = some z ∧ i.size = n ∧ i.bytes = b := by
  cases hi : P.info? t with
  | none => rw [hi] at h; cases h
  | some i => rw [hi] at h; simp at h; exact ⟨i, rfl, h.1, h.2.1, h.2.2⟩
theorem info_z {P : Program} {t : TypeId} {n b : Nat} (h : (P.info? t).map (fun i => (i.size, i.bytes, i.zero.isSome, (i.zero.map (·.cells.size)))) = some (n, b, true, some n)) : ∃ i z, P.info? t = some i ∧ i.zero = some z ∧ i.size = n ∧ i.bytes = b ∧ z.cells.size = n := by
  cases hi : P.info? t with
  | none => rw [hi] at h; cases h
  | some i =>
    rw [hi] at h
    simp at h
    obtain ⟨h1, h2, h3, h4⟩ := h
    cases hz : i.zero with
    | none => rw [hz] at h3; cases h3
    | some z => rw [hz] at h4; simp at h4; exact ⟨i, z, rfl, hz, h1, h2, h4⟩

theorem owns_le {w : World} {base : Nat} {e : TypeId} {size : Nat} {a : Option Addr} {n c : Nat} {xs : List Value} (h : w.ownsRow base e size (.slice a n c) n xs) : n ≤ c := by
  rcases h.2 with ⟨h1, h2⟩ | ⟨g, cap, cur, h1, h2, h3, h4, h5, h6, h7⟩
  · omega
  · cases h1; omega
theorem owns_some {w : World} {base : Nat} {e : TypeId} {size : Nat} {a : Option Addr} {n c : Nat} {xs : List Value} (h : w.ownsRow base e size (.slice a n c) n xs) (hc : c ≠ 0) : ∃ g o, a = some ⟨g, o, none⟩ := by
  rcases h.2 with ⟨h1, h2⟩ | ⟨g, cap, cur, h1, h2, h3, h4, h5, h6, h7⟩
  · injection h1 with _ _ h3; exact absurd h3 hc
  · injection h1 with h3; exact ⟨g, 0, h3⟩
theorem owns_nil {w : World} {base : Nat} {e : TypeId} {size : Nat} {n c : Nat} {xs : List Value} (h : w.ownsRow base e size (.slice none n c) n xs) : n = 0 ∧ c = 0 := by
  rcases h.2 with ⟨h1, h2⟩ | ⟨g, cap, cur, h1, h2, h3, h4, h5, h6, h7⟩
  · injection h1 with _ _ h3; exact ⟨h2, h3⟩
  · injection h1 with h3; cases h3
theorem owns_below {w w' : World} {base : Nat} {e : TypeId} {size : Nat} {v : Value} {n : Nat} {xs : List Value} (h : w.ownsRow base e size v n xs) (hb : Below w.heap.size w w') : w'.ownsRow base e size v n xs := by
  refine ⟨h.1, ?_⟩
  rcases h.2 with h2 | ⟨g, cap, cur, h1, h2, h3, h4⟩
  · exact .inl h2
  · exact .inr ⟨g, cap, cur, h1, h2, (hb.block g (Array.getElem?_eq_some_iff.1 h3).1).trans h3, h4⟩

theorem append_enc {P : Program} {α : Type} (enc : α → List Value) (k bytes : Nat) (hk : ∀ x, (enc x).length = k) (hone : ∀ x, ∀ v ∈ enc x, v.oneCell' = true)
    {w : World} {A : Act} {K : Act → World → Prop} {Q : Exit → Act → World → Prop} {dst : Option Tmp} {s x : Operand} {t ty : TypeId} {pos : String} {after : Array Edge} {guard : Option (Nat × Bool)}
    (e : TypeId) (ht : P.underlying t = some (.slice e)) (hinfo : (P.info? e).map (fun i => (i.size, i.bytes, i.zero.isSome, (i.zero.map (·.cells.size)))) = some (k, bytes, true, some k)) (hk0 : 0 < k)
    (base : Nat) (so : Option Addr) (sc : Nat) (l : List α) (hs : A.eval s = .slice so l.length sc) (hown : w.ownsRow base e k (.slice so l.length sc) l.length (l.flatMap enc))
    (xo : Option Addr) (c : Nat) (m : List α) (hx : A.eval x = .slice xo m.length c) (hrow : Row w xo (m.flatMap enc)) (hnil : xo = none → m.length = 0 ∧ c = 0)
    (hlen : (l.length + m.length) * bytes ≤ 140737488355328) (hlen2 : l.length + m.length ≤ maxLen) (hbase : base ≤ w.heap.size)
    (h : ∀ a' c' w', w'.ownsRow base e k (.slice a' (l ++ m).length c') (l ++ m).length ((l ++ m).flatMap enc) → Below base w w' → (a' = none ↔ so = none ∧ m.length = 0) → w.grownBy w' (Value.ownBlock (.slice so l.length sc)) →
      Oper.wp P ⟨dst, .move (.const (.slice a' (l ++ m).length c')), ty, "", #[], none⟩ A w' K (fun _ _ _ => False)) :
    Oper.wp P ⟨dst, .call { callee := .builtin .append, args := #[s, x], argTypes := #[t, t] }, ty, pos, after, guard⟩ A w K Q := by
  obtain ⟨i0, z, hi, hz0, hz1, hz2, hz3⟩ := info_z hinfo
  refine wp_append_src base e i0 z k bytes ht hi hz0 hz1 hz2 hz3 hk0 so l.length sc (l.flatMap enc) hs hown xo m.length c (m.flatMap enc) hx (flat_len hk m) hrow hnil (by
    intro u hu
    obtain ⟨b, _, hb⟩ := List.mem_flatMap.1 hu
    exact hone b u hb) hlen2 hlen hbase ?_
  intro a' c' w' ho hg hn
  have e1 : (l ++ m).length = l.length + m.length := List.length_append
  have := h a' c' w' (by rw [e1, List.flatMap_append]; exact ho) (grown_below hg hown hbase) hn hg
  rw [e1] at this
  exact this
/-- make of so many elements -/
theorem make_any {P : Program} {α : Type} {enc : α → List Value} {k : Nat} (hk : ∀ x, (enc x).length = k) (x : α) (t e : TypeId) (bytes : Nat) (ht : P.underlying t = some (.slice e))
    (hinfo : (P.info? e).map (fun i => (i.size, i.bytes, i.zero.map (·.cells.toList))) = some (k, bytes, some (enc x))) (n : Nat) (hn : bytes * n ≤ 281474976710656) (hn2 : n ≤ 9223372036854775807) :
    ∃ C : Array Value, C.toList = (List.replicate n x).flatMap enc ∧ ∀ w, (Instr.makeSlice t (.int .i64 n) (.int .i64 n)).run P w = .ok (.slice (some ⟨w.heap.size, 0, none⟩) n n) (w.alloc (.cells C e)) := by
  cases hi : P.info? e with
  | none => rw [hi] at hinfo; cases hinfo
  | some i =>
    rw [hi] at hinfo
    simp at hinfo
    obtain ⟨h1, h2, h3⟩ := hinfo
    obtain ⟨z, hz, hzc⟩ := h3
    refine ⟨madeCells z.cells (n * k), made_flat hk x z.cells (by simpa using hzc) n, fun w => ?_⟩
    have h := run_make (P := P) w t e i z ht hi hz .i64 .i64 n n (by omega) (by omega) (by rw [h2, ← Int.natCast_mul]; omega) (by omega)
    rw [Int.toNat_natCast, h1] at h
    exact h
end Go.XR
