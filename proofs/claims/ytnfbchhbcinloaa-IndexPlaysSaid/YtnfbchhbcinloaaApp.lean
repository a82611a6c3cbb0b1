/- append of whatever slice onto a row of the call's own. -/
import Derived.Test.YtnfbchhbcinloaaLaws
import Derived.Laws.OwnMore
namespace Go.XR
/-- append of whatever slice onto a row of the call's own -/
theorem wp_append_src {P : Program} {w : World} {A : Act} {K : Act → World → Prop} {Q : Exit → Act → World → Prop} {dst : Option Tmp} {s x : Operand} {t ty : TypeId} {pos : String} {after : Array Edge} {guard : Option (Nat × Bool)}
    (base : Nat) (e : TypeId) (i : TypeInfo) (z : Value) (size bytes : Nat) (ht : P.underlying t = some (.slice e)) (hi : P.info? e = some i) (hz : i.zero = some z)
    (hsize : i.size = size) (hby : i.bytes = bytes) (hzs : z.cells.size = size) (hsz : 0 < size)
    (so : Option Addr) (n sc : Nat) (xs : List Value) (hs : A.eval s = .slice so n sc) (hown : w.ownsRow base e size (.slice so n sc) n xs)
    (xo : Option Addr) (m c : Nat) (news : List Value) (hx : A.eval x = .slice xo m c) (hl : news.length = m * size) (hrow : Row w xo news) (hnil : xo = none → m = 0 ∧ c = 0) (h1 : ∀ u ∈ news, u.oneCell' = true)
    (h63 : n + m ≤ maxLen) (hbytes : (n + m) * bytes ≤ 140737488355328) (hbase : base ≤ w.heap.size)
    (h : ∀ a' c' w', w'.ownsRow base e size (.slice a' (n + m) c') (n + m) (xs ++ news) → w.grownBy w' (Value.ownBlock (.slice so n sc)) → (a' = none ↔ so = none ∧ m = 0) →
      Oper.wp P ⟨dst, .move (.const (.slice a' (n + m) c')), ty, "", #[], none⟩ A w' K (fun _ _ _ => False)) :
    Oper.wp P ⟨dst, .call { callee := .builtin .append, args := #[s, x], argTypes := #[t, t] }, ty, pos, after, guard⟩ A w K Q := by
  cases xo with
  | some ad =>
    refine wp_append_own w s x t rfl base e i z size bytes ht hi hz hsize hby hzs hsz _ n xs hs hown ad m c news hx hl ?_ h1 h63 hbytes hbase ?_
    · intro j u hj
      rcases hrow with rfl | ⟨g, o, ha, hr⟩
      · simp at hj
      · cases ha
        have := hr j u hj
        have hadd : (⟨g, o, none⟩ : Addr).add j = ⟨g, o + j, none⟩ := by unfold Addr.add; split <;> simp_all
        rwa [hadd]
    · intro v' w' h2 h3 h4
      obtain ⟨a', c', rfl⟩ := ownsRow_shape h2
      have hnn : a' = none ↔ so = none ∧ m = 0 := by
        constructor
        · rintro rfl
          have h0 : n + m = 0 ∧ c' = 0 := by
            rcases h2.2 with ⟨h5, h6⟩ | ⟨g, cap, cur, h5, _⟩
            · injection h5 with _ _ h7; exact ⟨h6, h7⟩
            · injection h5 with h7; cases h7
          have h5 := h4.1 (by rw [h0.1, h0.2])
          have h6 := h5.1
          injection h6 with h7
          exact ⟨h7, h5.2⟩
        · rintro ⟨rfl, rfl⟩
          have hn0 : n = 0 ∧ sc = 0 := by
            rcases hown.2 with ⟨h5, h6⟩ | ⟨g, cap, cur, h5, _⟩
            · injection h5 with _ _ h7; exact ⟨h6, h7⟩
            · injection h5 with h7; cases h7
          have h6 := h4.2 ⟨by rw [hn0.1, hn0.2], rfl⟩
          injection h6
      have := h a' c' w' h2 h3 hnn
      simpa [Oper.wp, execOp, Oper.upon, Act.eval] using this
  | none =>
    obtain ⟨rfl, rfl⟩ := hnil rfl
    have hn : news = [] := List.eq_nil_of_length_eq_zero (by simpa using hl)
    subst hn
    have hr := run_append_owned_none (P := P) w base t ty e i size ht hi (.slice so n sc) n xs hown
    have := h so sc w (by simpa using hown) ⟨rfl, rfl, rfl, Nat.le_refl _, fun _ _ _ => rfl⟩ (by simp)
    unfold Oper.wp execOp at this ⊢
    simp only [resolve, invoke, builtin, Sem.run_bind, Sem.run_pure, Result.andThen_ok, List.map_toArray, List.map_cons, List.map_nil, hs, hx, hr]
    simpa [Oper.upon, Act.eval] using this

/-- the walk stops here -/
theorem stop {p : Prop} (h : ∀ X : Prop, RowKit.Hid (p → X) → X) : p := h p id

theorem grown_below {w w' : World} {base n c : Nat} {so : Option Addr} {e : TypeId} {size : Nat} {xs : List Value} (hg : w.grownBy w' (Value.ownBlock (.slice so n c))) (hown : w.ownsRow base e size (.slice so n c) n xs) (hb : base ≤ w.heap.size) : RowKit.Below base w w' :=
  (RowKit.Below.refl base w).grown hg hb fun k hk => (hown.lt k hk).1
end Go.XR
