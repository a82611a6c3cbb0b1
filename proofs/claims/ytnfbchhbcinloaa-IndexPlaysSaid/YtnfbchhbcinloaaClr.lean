/- 'clear' of a slice whose block is known whole. -/
import Derived.Test.YtnfbchhbcinloaaBut
namespace Go.XR
open Go Go.RowKit
theorem zeros_length (z : Array Value) (n : Nat) : (Builtin.zeroCells z n).toList.length = n * z.size := by rw [Array.length_toList, size_zeroCells]
theorem zeros_one {z : Array Value} (h : ∀ v ∈ z.toList, v.oneCell' = true) (n : Nat) : ∀ v ∈ (Builtin.zeroCells z n).toList, v.oneCell' = true := by
  intro v hv
  unfold Builtin.zeroCells at hv
  rw [Array.toList_map, List.mem_map] at hv
  obtain ⟨i, hi, rfl⟩ := hv
  rw [Array.toList_range, List.mem_range] at hi
  have hz : 0 < z.size := Nat.pos_of_ne_zero fun e => by rw [e] at hi; omega
  have hm : i % z.size < z.size := Nat.mod_lt _ hz
  rw [getElem!_pos z _ hm]
  exact h _ (by rw [Array.mem_toList_iff]; exact Array.getElem_mem hm)
section
variable {P : Program} {w : World}
theorem wp_clear {a : Act} {K : Act → World → Prop} {Q : Exit → Act → World → Prop} {dst : Option Tmp} {x : Operand} {t e ty : TypeId} {pos : String} {after : Array Edge} {guard : Option (Nat × Bool)}
    (g off n c : Nat) (hx : a.eval x = .slice (some ⟨g, off, none⟩) n c) (ht : P.underlying t = some (.slice e)) (z : Value) (hz : (zeroValue e).run P w = .ok z w) (h1 : ∀ v ∈ z.cells.toList, v.oneCell' = true)
    (cur : List Value) (hb : Blk w g cur) (hl : off + n * z.cells.size ≤ cur.length)
    (hK : ∀ zs : List Value, zs.length = n * z.cells.size → (∀ v ∈ zs, v.oneCell' = true) → ∀ w', Blk w' g (cur.take off ++ zs ++ cur.drop (off + n * z.cells.size)) → But [g] w w' → K (a.put dst (.tuple #[])) w') :
    Oper.wp P ⟨dst, .call { callee := .builtin .clear, args := #[x], argTypes := #[t] }, ty, pos, after, guard⟩ a w K Q := by
  by_cases h0 : n = 0
  · subst h0
    have hr : (Builtin.clear_ #[t] ty #[a.eval x]).run P w = .ok (.tuple #[]) w := by
      rw [hx]; simp [Builtin.clear_, run_underlying ht, Result.andThen]
    have := hK [] (by simp) (by simp) w (by simpa using hb) (But.refl _ _)
    unfold Oper.wp execOp
    simp only [resolve, invoke, builtin, Sem.run_bind, Sem.run_pure, Result.andThen_ok, List.map_toArray, List.map_cons, List.map_nil, hr]
    exact this
  · have hzl := zeros_length z.cells n
    obtain ⟨T, hg⟩ := hb
    have hs := run_storeCells_at (P := P) g off T (Builtin.zeroCells z.cells n).toList 0 cur.toArray w hg (by rw [hzl]; simpa using hl) (zeros_one h1 n)
    have hr : (Builtin.clear_ #[t] ty #[a.eval x]).run P w = .ok (.tuple #[]) (w.setRow g (cur.take off ++ (Builtin.zeroCells z.cells n).toList ++ cur.drop (off + n * z.cells.size)).toArray) := by
      rw [hx]
      rw [hzl] at hs
      unfold Builtin.clear_
      simp only [List.size_toArray, List.length_cons, List.length_nil, List.getElem?_toArray, List.getElem?_cons_zero, Sem.run_bind, run_underlying ht, Result.andThen_ok]
      cases n with
      | zero => exact absurd rfl h0
      | succ n =>
        simp only [Sem.run_bind, hz, Result.andThen_ok, Sem.run_pure]
        simp only [Nat.add_zero] at hs
        rw [hs]
        rfl
    have hbk : Blk w g cur := ⟨T, hg⟩
    have := hK _ hzl (zeros_one h1 n) _ (hbk.setRow _) ((But.refl [g] w).setRow (.inl (by simp)) _)
    unfold Oper.wp execOp
    simp only [resolve, invoke, builtin, Sem.run_bind, Sem.run_pure, Result.andThen_ok, List.map_toArray, List.map_cons, List.map_nil, hr]
    exact this
theorem wpList_clear {ops : Array Oper} {rest : List Oper} {o : Oper} {a : Act} {Q : Exit → Act → World → Prop} (hgd : o.guard = none) (x : Operand) (t e : TypeId)
    (ho : o.op = .call { callee := .builtin .clear, args := #[x], argTypes := #[t] })
    (g off n c : Nat) (hx : a.eval x = .slice (some ⟨g, off, none⟩) n c) (ht : P.underlying t = some (.slice e)) (z : Value) (hz : (zeroValue e).run P w = .ok z w) (h1 : ∀ v ∈ z.cells.toList, v.oneCell' = true)
    (cur : List Value) (hb : Blk w g cur) (hl : off + n * z.cells.size ≤ cur.length)
    (hK : ∀ zs : List Value, zs.length = n * z.cells.size → (∀ v ∈ zs, v.oneCell' = true) → ∀ w', Blk w' g (cur.take off ++ zs ++ cur.drop (off + n * z.cells.size)) → But [g] w w' → wpList P ops Q rest (a.put o.dst (.tuple #[])) w') :
    wpList P ops Q (o :: rest) a w := by
  refine wpList_plain hgd fun _ hK' => ?_
  obtain ⟨dst, op, ty, pos, after, guard⟩ := o
  cases ho
  exact wp_clear g off n c hx ht z hz h1 cur hb hl fun zs a1 a2 w' a3 a4 => hK' _ _ (hK zs a1 a2 w' a3 a4)
end
end Go.XR
