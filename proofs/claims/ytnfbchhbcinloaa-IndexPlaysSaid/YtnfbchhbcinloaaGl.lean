/- Look-ups in maps known pair by pair, as steps of a walk. -/
import Derived.Test.YtnfbchhbcinloaaBut
import Derived.Laws.ResultCell
namespace Go.XR
open Go Go.RowKit
section
variable {κ ν : Type} [DecidableEq κ] {kv : κ → Value} {vv : ν → Value} {P : Program} {k t e : TypeId} {w : World} {m : Nat} {D : List (κ × ν)}
theorem wp_gm_lookup {o : Oper} {a : Act} {K : Act → World → Prop} {Q : Exit → Act → World → Prop} (x y : Operand) (t : TypeId) (hop : o.op = .lookup t x y false)
    (KK : KeysOk P k kv) (ht : P.underlying t = some (.map k e)) (z : Value) (hz : ∀ w, (zeroValue e).run P w = .ok z w) (c : κ) (v : Value) (hm : a.eval x = .map (some m)) (hx : a.eval y = kv c) (h : GM kv vv w m D)
    (hv : ((aget D c).map vv).getD z = v) (hK : K (a.put o.dst v) w) : o.wp P a w K Q := by
  have hr := h.lookup (P := P) KK ht (hz w) c
  rw [hv] at hr
  unfold Oper.wp execOp
  simp only [hop, hm, hx, Sem.run_bind, hr, Result.andThen_ok, Sem.run_pure]
  exact hK
theorem wp_gm_lookup_ok {o : Oper} {a : Act} {K : Act → World → Prop} {Q : Exit → Act → World → Prop} (x y : Operand) (t : TypeId) (hop : o.op = .lookup t x y true)
    (KK : KeysOk P k kv) (ht : P.underlying t = some (.map k e)) (z : Value) (hz : ∀ w, (zeroValue e).run P w = .ok z w) (c : κ) (v : Value) (b : Bool) (hm : a.eval x = .map (some m)) (hx : a.eval y = kv c) (h : GM kv vv w m D)
    (hv : ((aget D c).map vv).getD z = v) (hb : (aget D c).isSome = b) (hK : K (a.put o.dst (.tuple #[v, .bool b])) w) : o.wp P a w K Q := by
  have hr := h.lookup_ok (P := P) KK ht (hz w) c
  rw [hv, hb] at hr
  unfold Oper.wp execOp
  simp only [hop, hm, hx, Sem.run_bind, hr, Result.andThen_ok, Sem.run_pure]
  exact hK
theorem Blk.toAt {w : World} {b : Nat} {cs : List Value} (h : Blk w b cs) : At w b 0 cs.toArray := fun j u hj => by
  rw [Nat.zero_add]; exact h.cell (by simpa using hj)
/-- a result variable that is a struct, and one that is a temporary -/
theorem results_at {fn : Func} {p u : Tmp} {ty : TypeId} (hf : fn.results = #[.cell p ty, .tmp u]) {w' : World} {g : Nat} {cs : Array Value} {tmps : Array Value} {v : Value} {d : TypeDesc} (hp : tmps.getD p undef = .pointer (some ⟨g, 0, none⟩)) (hv : tmps.getD u undef = v) (h : At w' g 0 cs)
    (hu : P.underlying ty = some d) (hd : (match d with | .struct _ | .array _ _ => true | _ => false) = true) (hi : (P.info? ty).map (·.size) = some cs.size) :
    (results fn tmps).run P w' = .ok (.tuple #[.agg cs, v]) w' := by
  rw [results_cell_tmp hf, hp, hv]
  have h1 := run_loadVar_at (P := P) h hu hd hi
  simp [asAddr, Result.andThen, h1]
end
end Go.XR
