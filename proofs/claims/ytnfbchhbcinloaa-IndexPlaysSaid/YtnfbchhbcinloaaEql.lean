/- '==' at aggregates whose cells are not written out. -/
import Derived.Test.YtnfbchhbcinloaaAgg
import Derived.Laws.StructEq
import Derived.BigFrame
namespace Go.XR
open Go Go.RowKit
section
variable {P : Program} {w : World}
theorem wp_agg_eql {o : Oper} {a : Act} {K : Act → World → Prop} {Q : Exit → Act → World → Prop} (t : TypeId) (x y : Operand) (t2 : TypeId) (ho : o.op = .binOp .eql t x y t2)
    (cs ds : Array Value) (hx : a.eval x = .agg cs) (hy : a.eval y = .agg ds) (hm : P.eqGuardType P.depth t = false) (b : Bool) (he : (Op.equal t (.agg cs) (.agg ds)).run P w = .ok b w)
    (hK : K (a.put o.dst (.bool b)) w) : o.wp P a w K Q := by
  unfold Oper.wp execOp
  simp only [ho, hx, hy, Sem.run_bind, run_eqGuard_agg (hm := hm), binOp, he, Result.andThen_ok, Sem.run_pure]
  exact hK
theorem wpList_agg_eql {ops : Array Oper} {rest : List Oper} {o : Oper} {a : Act} {Q : Exit → Act → World → Prop} (hgd : o.guard = none) (t : TypeId) (x y : Operand) (t2 : TypeId) (ho : o.op = .binOp .eql t x y t2)
    (cs ds : Array Value) (hx : a.eval x = .agg cs) (hy : a.eval y = .agg ds) (hm : P.eqGuardType P.depth t = false) (b : Bool) (he : (Op.equal t (.agg cs) (.agg ds)).run P w = .ok b w)
    (hK : wpList P ops Q rest (a.put o.dst (.bool b)) w) : wpList P ops Q (o :: rest) a w :=
  wpList_plain hgd fun _ hK' => wp_agg_eql t x y t2 ho cs ds hx hy hm b he (hK' _ _ hK)
theorem wpList_load_on {ops : Array Oper} {rest : List Oper} {o : Oper} {a : Act} {Q : Exit → Act → World → Prop} (hw : Region.wanted o (yielded ops a.tmps) = true) (ty : TypeId) (x : Operand) (ho : o.op = .load ty x)
    (g off : Nat) (hx : a.eval x = .pointer (some ⟨g, off, none⟩)) (cs : Array Value) (h : At w g off cs) (d : TypeDesc)
    (hu : P.underlying ty = some d) (hd : (match d with | .struct _ | .array _ _ => true | _ => false) = true) (hi : (P.info? ty).map (·.size) = some cs.size)
    (hK : wpList P ops Q rest (a.put o.dst (.agg cs)) w) : wpList P ops Q (o :: rest) a w :=
  BigFrame.wpList_want hw fun _ hK' => wp_load_at ty x ho g off hx cs h d hu hd hi (hK' _ _ hK)
theorem wpList_eql_on {ops : Array Oper} {rest : List Oper} {o : Oper} {a : Act} {Q : Exit → Act → World → Prop} (hw : Region.wanted o (yielded ops a.tmps) = true) (t : TypeId) (x y : Operand) (t2 : TypeId) (ho : o.op = .binOp .eql t x y t2)
    (cs ds : Array Value) (hx : a.eval x = .agg cs) (hy : a.eval y = .agg ds) (hm : P.eqGuardType P.depth t = false) (b : Bool) (he : (Op.equal t (.agg cs) (.agg ds)).run P w = .ok b w)
    (hK : wpList P ops Q rest (a.put o.dst (.bool b)) w) : wpList P ops Q (o :: rest) a w :=
  BigFrame.wpList_want hw fun _ hK' => wp_agg_eql t x y t2 ho cs ds hx hy hm b he (hK' _ _ hK)
theorem wp_agg_neq {o : Oper} {a : Act} {K : Act → World → Prop} {Q : Exit → Act → World → Prop} (t : TypeId) (x y : Operand) (t2 : TypeId) (ho : o.op = .binOp .neq t x y t2)
    (cs ds : Array Value) (hx : a.eval x = .agg cs) (hy : a.eval y = .agg ds) (hm : P.eqGuardType P.depth t = false) (b : Bool) (he : (Op.equal t (.agg cs) (.agg ds)).run P w = .ok b w)
    (hK : K (a.put o.dst (.bool (!b))) w) : o.wp P a w K Q := by
  unfold Oper.wp execOp
  simp only [ho, hx, hy, Sem.run_bind, run_eqGuard_agg (hm := hm), binOp, he, Result.andThen_ok, Sem.run_pure]
  exact hK
end
end Go.XR
