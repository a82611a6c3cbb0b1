/- append onto a row of the call's own: the block is the old one or a new one. -/
import Derived.Test.YtnfbchhbcinloaaAe
namespace Go.XR
open Go Go.RowKit
/-- where the row lies behind an append -/
def SameOrNew (w w' : World) (so a' : Option Addr) : Prop := a' = so ∨ ∃ g, a' = some ⟨g, 0, none⟩ ∧ w.heap.size ≤ g ∧ g < w'.heap.size
section
variable {P : Program}
theorem run_append_where (w : World) (base : Nat) (t ty e : TypeId) (i : TypeInfo) (z : Value) (size bytes : Nat) (ht : P.underlying t = some (.slice e)) (hi : P.info? e = some i) (hz : i.zero = some z)
    (hsize : i.size = size) (hby : i.bytes = bytes) (hzs : z.cells.size = size) (hsz : 0 < size)
    (so : Option Addr) (n sc : Nat) (xs : List Value) (hown : w.ownsRow base e size (.slice so n sc) n xs)
    (ad : Addr) (m c : Nat) (news : List Value) (hl : news.length = m * size) (hnews : ∀ j u, news[j]? = some u → w.cell? (ad.add j) = some u) (h1 : ∀ u ∈ news, u.oneCell' = true)
    (h63 : n + m ≤ maxLen) (hbytes : (n + m) * bytes ≤ 140737488355328) (hbase : base ≤ w.heap.size) :
    ∃ a' c' w', (Builtin.append_ #[t, t] ty #[.slice so n sc, .slice (some ad) m c]).run P w = .ok (.slice a' (n + m) c') w' ∧ w'.ownsRow base e size (.slice a' (n + m) c') (n + m) (xs ++ news) ∧ w.grownBy w' (Value.ownBlock (.slice so n sc)) ∧
      SameOrNew w w' so a' := by
  obtain ⟨v', w', hr, ho, hg, _⟩ := run_append_own (P := P) w base t ty e i z size bytes ht hi hz hsize hby hzs hsz (.slice so n sc) n xs hown ad m c news hl hnews h1 h63 hbytes hbase
  obtain ⟨a', c', rfl⟩ := ownsRow_shape ho
  refine ⟨a', c', w', hr, ho, hg, ?_⟩
  have hsmall : n + m ≤ 9223372036854775807 := by simp only [maxLen] at h63; omega
  rcases hown.2 with ⟨h2, h3⟩ | ⟨g, cap, cur, h2, hbg, hgb, hnc, hcm, hcs, htake⟩
  · cases h2
    by_cases hm : m = 0
    · left
      subst hm
      have hn : news = [] := List.eq_nil_of_length_eq_zero (by simpa using hl)
      have hr2 : (Builtin.append_ #[t, t] ty #[.slice none 0 0, .slice (some ad) 0 c]).run P w = .ok (.slice none 0 0) w := by
        simp [Builtin.append_, run_underlying ht, sizeOf, typeInfo, hi, Builtin.lenOf, Builtin.firstCells, loadCells, loadCellsFrom]
      have := hr.symm.trans hr2
      injection this with h4 _
      injection h4
    · right
      subst hsize hby
      have hr2 := run_append_nil (P := P) w t ty e i z ht hi hz ad m c news hl hnews (by omega) (by omega) (by have hb := hbytes; rw [Nat.zero_add] at hb; omega)
      have := hr.symm.trans hr2
      injection this with h4 h5
      injection h4 with h6
      exact ⟨w.heap.size, h6, Nat.le_refl _, by rw [h5]; simp⟩
  · cases h2
    by_cases hroom : n + m ≤ sc
    · left
      obtain ⟨w2, hr2, _⟩ := run_append_fits (P := P) w base t ty e i size ht hi hsize g n sc xs hown ad m c news hl hnews h1 hroom
      have := hr.symm.trans hr2
      injection this with h4 _
      injection h4
    · right
      subst hsize hby
      have holds : ∀ j u, xs[j]? = some u → w.cell? ((⟨g, 0, none⟩ : Addr).add j) = some u := hown.cells (g := g) rfl
      have hr2 := run_append_grow (P := P) w t ty e i z ht hi hz ⟨g, 0, none⟩ n sc xs hown.1 holds ad m c news hl hnews (by omega) (by omega) (growslice_fits (by omega) hbytes)
      have := hr.symm.trans hr2
      injection this with h4 h5
      injection h4 with h6
      exact ⟨w.heap.size, h6, Nat.le_refl _, by rw [h5]; simp⟩

theorem append_enc2 {α : Type} (enc : α → List Value) (k bytes : Nat) (hk : ∀ x, (enc x).length = k) (hone : ∀ x, ∀ v ∈ enc x, v.oneCell' = true)
    {w : World} {A : Act} {K : Act → World → Prop} {Q : Exit → Act → World → Prop} {dst : Option Tmp} {s x : Operand} {t ty : TypeId} {pos : String} {after : Array Edge} {guard : Option (Nat × Bool)}
    (e : TypeId) (ht : P.underlying t = some (.slice e)) (hinfo : (P.info? e).map (fun i => (i.size, i.bytes, i.zero.isSome, (i.zero.map (·.cells.size)))) = some (k, bytes, true, some k)) (hk0 : 0 < k)
    (base : Nat) (so : Option Addr) (sc : Nat) (l : List α) (hs : A.eval s = .slice so l.length sc) (hown : w.ownsRow base e k (.slice so l.length sc) l.length (l.flatMap enc))
    (g o c : Nat) (m : List α) (hx : A.eval x = .slice (some ⟨g, o, none⟩) m.length c) (hrow : Row w (some ⟨g, o, none⟩) (m.flatMap enc))
    (hlen : (l.length + m.length) * bytes ≤ 140737488355328) (hlen2 : l.length + m.length ≤ maxLen) (hbase : base ≤ w.heap.size)
    (h : ∀ a' c' w', w'.ownsRow base e k (.slice a' (l ++ m).length c') (l ++ m).length ((l ++ m).flatMap enc) → w.grownBy w' (Value.ownBlock (.slice so l.length sc)) → SameOrNew w w' so a' →
      Oper.wp P ⟨dst, .move (.const (.slice a' (l ++ m).length c')), ty, "", #[], none⟩ A w' K (fun _ _ _ => False)) :
    Oper.wp P ⟨dst, .call { callee := .builtin .append, args := #[s, x], argTypes := #[t, t] }, ty, pos, after, guard⟩ A w K Q := by
  obtain ⟨i0, z, hi, hz0, hz1, hz2, hz3⟩ := info_z hinfo
  obtain ⟨a', c', w', hr, ho, hg, hn⟩ := run_append_where (P := P) w base t ty e i0 z k bytes ht hi hz0 hz1 hz2 hz3 hk0 so l.length sc (l.flatMap enc) hown ⟨g, o, none⟩ m.length c (m.flatMap enc) (flat_len hk m) (by
    intro j u hj
    rcases hrow with h0 | ⟨g', o', ha, hrw⟩
    · rw [h0] at hj; simp at hj
    · cases ha
      have hadd : (⟨g, o, none⟩ : Addr).add j = ⟨g, o + j, none⟩ := by unfold Addr.add; split <;> simp_all
      rw [hadd]; exact hrw j u hj) (by
    intro u hu
    obtain ⟨b, _, hb⟩ := List.mem_flatMap.1 hu
    exact hone b u hb) hlen2 hlen hbase
  have e1 : (l ++ m).length = l.length + m.length := List.length_append
  have := h a' c' w' (by rw [e1, List.flatMap_append]; exact ho) hg hn
  rw [e1] at this
  unfold Oper.wp execOp at this ⊢
  simp only [resolve, invoke, builtin, Sem.run_bind, Sem.run_pure, Result.andThen_ok, List.map_toArray, List.map_cons, List.map_nil, hs, hx, hr]
  simpa [Oper.upon, Act.eval] using this
end
end Go.XR
