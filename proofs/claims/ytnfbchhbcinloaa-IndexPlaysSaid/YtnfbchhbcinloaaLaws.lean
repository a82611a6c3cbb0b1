/- Small laws for the walk: max and min of whole numbers. -/
import Derived.WalkKit
import Derived.Laws.StructEq
import Derived.KernelRfl
import Derived.WalkLawsBesides
import Derived.WalkSpells
import Derived.BigQuiet
import Derived.Lib.Hide
namespace Go.XR
open Go
theorem max2_int (k k' : IntKind) (x y : Int) : Builtin.max2 (.int k x) (.int k' y) = pure (.int k (max x y)) := by
  simp only [Builtin.max2, gt_iff_lt]; congr 2; omega
theorem min2_int (k k' : IntKind) (x y : Int) : Builtin.min2 (.int k x) (.int k' y) = pure (.int k (min x y)) := by
  simp only [Builtin.min2]; congr 2; omega
theorem max_two (ats : Array TypeId) (ty : TypeId) (a b : Value) : Builtin.max_ ats ty #[a, b] = (Builtin.max2 a b >>= fun s => pure s) := by simp only [Builtin.max_, List.foldlM_cons, List.foldlM_nil]
theorem min_two (ats : Array TypeId) (ty : TypeId) (a b : Value) : Builtin.min_ ats ty #[a, b] = (Builtin.min2 a b >>= fun s => pure s) := by simp only [Builtin.min_, List.foldlM_cons, List.foldlM_nil]
theorem max_three (ats : Array TypeId) (ty : TypeId) (a b c : Value) : Builtin.max_ ats ty #[a, b, c] = (Builtin.max2 a b >>= fun s => Builtin.max2 s c >>= fun s => pure s) := by simp only [Builtin.max_, List.foldlM_cons, List.foldlM_nil]
theorem min_three (ats : Array TypeId) (ty : TypeId) (a b c : Value) : Builtin.min_ ats ty #[a, b, c] = (Builtin.min2 a b >>= fun s => Builtin.min2 s c >>= fun s => pure s) := by simp only [Builtin.min_, List.foldlM_cons, List.foldlM_nil]
@[go_sem ↓ high] theorem execOp_max2 (ρ : Operand → Value) (dst : Option Tmp) (x y : Operand) (ats : Array TypeId) (ty : TypeId) (pos : String) (after : Array Edge) (guard : Option (Nat × Bool)) :
    execOp ρ { dst, op := .call { callee := .builtin .max, args := #[x, y], argTypes := ats }, type := ty, pos, after, guard } = (do pure (.value (← Builtin.max2 (ρ x) (ρ y)))) := by
  rw [Go.BigFrame.execOp_builtin, Go.BigFrame.builtin_max]; simp [max_two]
@[go_sem ↓ high] theorem execOp_min2 (ρ : Operand → Value) (dst : Option Tmp) (x y : Operand) (ats : Array TypeId) (ty : TypeId) (pos : String) (after : Array Edge) (guard : Option (Nat × Bool)) :
    execOp ρ { dst, op := .call { callee := .builtin .min, args := #[x, y], argTypes := ats }, type := ty, pos, after, guard } = (do pure (.value (← Builtin.min2 (ρ x) (ρ y)))) := by
  rw [Go.BigFrame.execOp_builtin, Go.BigFrame.builtin_min]; simp [min_two]
@[go_sem ↓ high] theorem execOp_max3 (ρ : Operand → Value) (dst : Option Tmp) (x y z : Operand) (ats : Array TypeId) (ty : TypeId) (pos : String) (after : Array Edge) (guard : Option (Nat × Bool)) :
    execOp ρ { dst, op := .call { callee := .builtin .max, args := #[x, y, z], argTypes := ats }, type := ty, pos, after, guard } = (do pure (.value (← Builtin.max2 (ρ x) (ρ y) >>= fun s => Builtin.max2 s (ρ z)))) := by
  rw [Go.BigFrame.execOp_builtin, Go.BigFrame.builtin_max]; simp [max_three]
@[go_sem ↓ high] theorem execOp_min3 (ρ : Operand → Value) (dst : Option Tmp) (x y z : Operand) (ats : Array TypeId) (ty : TypeId) (pos : String) (after : Array Edge) (guard : Option (Nat × Bool)) :
    execOp ρ { dst, op := .call { callee := .builtin .min, args := #[x, y, z], argTypes := ats }, type := ty, pos, after, guard } = (do pure (.value (← Builtin.min2 (ρ x) (ρ y) >>= fun s => Builtin.min2 s (ρ z)))) := by
  rw [Go.BigFrame.execOp_builtin, Go.BigFrame.builtin_min]; simp [min_three]
attribute [go_sem high] max2_int min2_int

theorem ownsRow_shape {w : World} {base : Nat} {e : TypeId} {size : Nat} {v : Value} {n : Nat} {xs : List Value} (h : w.ownsRow base e size v n xs) : ∃ a c, v = .slice a n c := by
  rcases h.2 with ⟨rfl, rfl⟩ | ⟨g, cap, cur, rfl, _⟩
  · exact ⟨none, 0, rfl⟩
  · exact ⟨_, _, rfl⟩

/-- append to a row of the call's own, at one operation; the value that comes shows its shape -/
theorem wp_append {P : Program} {w : World} {A : Act} {K : Act → World → Prop} {Q : Exit → Act → World → Prop} {dst : Option Tmp} {s x : Operand} {t ty : TypeId} {pos : String} {after : Array Edge} {guard : Option (Nat × Bool)}
    (base : Nat) (e : TypeId) (i : TypeInfo) (z : Value) (size bytes : Nat) (ht : P.underlying t = some (.slice e)) (hi : P.info? e = some i) (hz : i.zero = some z)
    (hsize : i.size = size) (hby : i.bytes = bytes) (hzs : z.cells.size = size) (hsz : 0 < size)
    (so : Option Addr) (n sc : Nat) (xs : List Value) (hs : A.eval s = .slice so n sc) (hown : w.ownsRow base e size (.slice so n sc) n xs)
    (ad : Addr) (m c : Nat) (news : List Value) (hx : A.eval x = .slice (some ad) m c) (hl : news.length = m * size) (hnews : ∀ j u, news[j]? = some u → w.cell? (ad.add j) = some u) (h1 : ∀ u ∈ news, u.oneCell' = true)
    (h63 : n + m ≤ maxLen) (hbytes : (n + m) * bytes ≤ 140737488355328) (hbase : base ≤ w.heap.size)
    (h : ∀ a' c' w', w'.ownsRow base e size (.slice a' (n + m) c') (n + m) (xs ++ news) → w.grownBy w' (Value.ownBlock (.slice so n sc)) →
      Oper.wp P ⟨dst, .move (.const (.slice a' (n + m) c')), ty, "", #[], none⟩ A w' K (fun _ _ _ => False)) :
    Oper.wp P ⟨dst, .call { callee := .builtin .append, args := #[s, x], argTypes := #[t, t] }, ty, pos, after, guard⟩ A w K Q := by
  refine wp_append_own w s x t rfl base e i z size bytes ht hi hz hsize hby hzs hsz _ n xs hs hown ad m c news hx hl hnews h1 h63 hbytes hbase ?_
  intro v' w' h2 h3 _
  obtain ⟨a', c', rfl⟩ := ownsRow_shape h2
  have := h a' c' w' h2 h3
  simpa [Oper.wp, execOp, Oper.upon, Act.eval] using this

/-- what a row of the call's own keeps while another block is written -/
theorem ownsRow_setCell {w : World} {base : Nat} {e : TypeId} {size : Nat} {v : Value} {n : Nat} {xs : List Value} (h : w.ownsRow base e size v n xs) {a : Addr} (ha : a.block < base) (u : Value) : (w.setCell a u).ownsRow base e size v n xs :=
  RowKit.ownsRow_setCell_below h ha u

/-! ### '==' of structs, field by field -/
section
variable {P : Program} {d : Nat} {xs ys : Array Value} {f : Field} {fs : List Field} {a b : Value} {r s : Bool} {w : World}
theorem eqs_last (hn : (f.name == "_") = false) (ha : (part f.type xs f.offset).run P w = .ok a w) (hb : (part f.type ys f.offset).run P w = .ok b w) (he : (Op.equalIn d f.type a b).run P w = .ok r w) : (Op.eqFields d xs ys [f]).run P w = .ok r w := by
  have hn' : f.name ≠ "_" := by simpa using hn
  simp only [Op.eqFields, if_pos hn', Sem.run_bind, ha, hb, he, Result.andThen_ok]
  cases r <;> simp
theorem eqs_cons (hn : (f.name == "_") = false) (ha : (part f.type xs f.offset).run P w = .ok a w) (hb : (part f.type ys f.offset).run P w = .ok b w) (he : (Op.equalIn d f.type a b).run P w = .ok r w) (hr : (Op.eqFields d xs ys fs).run P w = .ok s w) : (Op.eqFields d xs ys (f :: fs)).run P w = .ok (r && s) w := by
  have hn' : f.name ≠ "_" := by simpa using hn
  rw [Op.eqFields]
  simp only [if_pos hn', Sem.run_bind, ha, hb, he, Result.andThen_ok]
  cases r
  · simp
  · simpa using hr
theorem eqs_of {t : TypeId} {fs : Array Field} (hu : P.underlying t = some (.struct fs)) (hp : P.stoodInHeld t = false) (h : (Op.eqFields d xs ys fs.toList).run P w = .ok r w) : (Op.equalIn (d + 1) t (.agg xs) (.agg ys)).run P w = .ok r w := by
  have hf : P.fieldsOf t = fs := by simp [Program.fieldsOf, hu]
  rw [run_equalIn_struct (P := P) w d t xs ys (by rw [hf]; exact hu) hp, hf]
  exact h
end

/-! ### a row of cells -/
/-- the cells xs lie in w from a on -/
def Row (w : World) (a : Option Addr) (xs : List Value) : Prop :=
  xs = [] ∨ ∃ g o, a = some ⟨g, o, none⟩ ∧ ∀ j u, xs[j]? = some u → w.cell? ⟨g, o + j, none⟩ = some u

theorem Row.get {w : World} {a : Option Addr} {xs : List Value} (h : Row w a xs) {j : Nat} {u : Value} (hj : xs[j]? = some u) : ∃ g o, a = some ⟨g, o, none⟩ ∧ w.cell? ⟨g, o + j, none⟩ = some u := by
  rcases h with rfl | ⟨g, o, ha, h⟩
  · simp at hj
  · exact ⟨g, o, ha, h j u hj⟩

theorem cell_lt {w : World} {a : Addr} {v : Value} (h : w.cell? a = some v) : a.block < w.heap.size := World.block_lt_of_cell? w a h

theorem Row.below {w w' : World} (hb : RowKit.Below w.heap.size w w') {a : Option Addr} {xs : List Value} (h : Row w a xs) : Row w' a xs := by
  rcases h with rfl | ⟨g, o, ha, h⟩
  · exact .inl rfl
  · refine .inr ⟨g, o, ha, fun j u hj => ?_⟩
    have := h j u hj
    rw [hb.cell (p := ⟨g, o + j, none⟩) (cell_lt this)]
    exact this

theorem Row.owned {w : World} {base : Nat} {e : TypeId} {size : Nat} {a : Option Addr} {n c : Nat} {xs : List Value} (h : w.ownsRow base e size (.slice a n c) n xs) : Row w a xs := by
  rcases h.2 with ⟨h1, h2⟩ | ⟨g, cap, cur, h1, h2, h3, h4, h5, h6, h7⟩
  · left
    have := h.1
    subst h2
    simpa using this
  · right
    cases h1
    refine ⟨g, 0, rfl, fun j u hj => ?_⟩
    have := h.cells (g := g) rfl j u hj
    have hadd : (⟨g, 0, none⟩ : Addr).add j = ⟨g, 0 + j, none⟩ := by unfold Addr.add; split <;> simp_all
    rwa [hadd] at this

theorem Row.new (w : World) (cs : Array Value) (T : TypeId) : Row (w.alloc (.cells cs T)) (some ⟨w.heap.size, 0, none⟩) cs.toList := by
  refine .inr ⟨_, 0, rfl, fun j u hj => ?_⟩
  rw [World.cell?_alloc_new, Nat.zero_add]
  simpa using hj

theorem Row.take {w : World} {a : Option Addr} {xs : List Value} (h : Row w a xs) (n : Nat) : Row w a (xs.take n) := by
  rcases h with rfl | ⟨g, o, ha, h⟩
  · simp [Row]
  · refine .inr ⟨g, o, ha, fun j u hj => h j u ?_⟩
    rw [List.getElem?_take] at hj
    split at hj
    · exact hj
    · cases hj
end Go.XR
