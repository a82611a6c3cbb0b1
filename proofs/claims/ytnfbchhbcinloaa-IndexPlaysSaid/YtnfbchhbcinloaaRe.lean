/- Rows of an index: '==', built of a key and a place; the walks over Less and SameRows. -/
import Derived.Test.YtnfbchhbcinloaaCm
import Derived.Test.YtnfbchhbcinloaaNl
namespace Go.Proofs.Ytnfbchhbcinloaa
open Go.RowKit Go.XR Go.IndexPure
/-- places that fit -/
def PlaceS := {p : PlaceT // PlaceOk p}
instance : DecidableEq PlaceS := inferInstanceAs (DecidableEq (Subtype _))
def RowS := {r : KeyT × PlaceT // PlaceOk r.2}
instance : DecidableEq RowS := inferInstanceAs (DecidableEq (Subtype _))
set_option maxRecDepth 100000 in
theorem place_lits (d : Nat) (p : PlaceT) (hp : PlaceOk p) : ∃ ls, Try.prog.keyLits (d + 2) 33 (placeL p) = some ls := by
  obtain ⟨f1, f2, ht, a1, a2, a3, a4, a5, a6⟩ : ∃ f1 f2, Try.prog.underlying 33 = some (.struct #[f1, f2]) ∧ (f1.name != "_") = true ∧ (f2.name != "_") = true ∧ f1.offset = 0 ∧ f2.offset = 1 ∧ f1.type = 3 ∧ f2.type = 3 :=
    ⟨_, _, Try.underlying33, rfl, rfl, rfl, rfl, rfl, rfl⟩
  refine lits_pair ht a1 a2 a3 (xs := [.int .i64 p.shelf]) (ys := [.int .i64 p.slot]) ?_ ?_ ?_ ?_ ?_ ?_
  · rw [a5]; exact (by kernel_rfl : (1 : Nat) = Try.prog.cellsOf 3)
  · rw [a6]; exact (by kernel_rfl : (1 : Nat) = Try.prog.cellsOf 3)
  · rw [a4]; rfl
  · exact (by kernel_rfl : Try.prog.cellsOf 33 = 2)
  · rw [a5]; exact lits_int (by kernel_rfl) (i64_wf ⟨p.shelf, hp.1⟩)
  · rw [a6]; exact lits_int (by kernel_rfl) (i64_wf ⟨p.slot, hp.2⟩)
set_option maxRecDepth 100000 in
theorem row_lits (d : Nat) (r : KeyT × PlaceT) (hp : PlaceOk r.2) : ∃ ls, Try.prog.keyLits (d + 4) 35 (rowL r) = some ls := by
  obtain ⟨f1, f2, ht, a1, a2, a3, a4, a5, a6⟩ : ∃ f1 f2, Try.prog.underlying 35 = some (.struct #[f1, f2]) ∧ (f1.name != "_") = true ∧ (f2.name != "_") = true ∧ f1.offset = 0 ∧ f2.offset = 33 ∧ f1.type = 27 ∧ f2.type = 33 :=
    ⟨_, _, Try.underlying35, rfl, rfl, rfl, rfl, rfl, rfl⟩
  refine lits_pair ht a1 a2 a3 (xs := keyL r.1) (ys := placeL r.2) ?_ ?_ ?_ ?_ ?_ ?_
  · rw [a5, keyL_length]; exact (by kernel_rfl : (33 : Nat) = Try.prog.cellsOf 27)
  · rw [a6]; exact (by kernel_rfl : (2 : Nat) = Try.prog.cellsOf 33)
  · rw [a4, keyL_length]
  · rw [keyL_length]; exact (by kernel_rfl : Try.prog.cellsOf 35 = 35)
  · rw [a5]; exact key_lits d r.1
  · rw [a6]; exact place_lits (d + 1) r.2 hp
set_option maxRecDepth 100000 in
theorem place_eq (a b : PlaceT) (ha : PlaceOk a) (hb : PlaceOk b) (w : World) : (Op.equal 33 (placeV a) (placeV b)).run Try.prog w = .ok (decide (a = b)) w := by
  have h := equal_cells (P := Try.prog) (t := 33) (c := fun p : PlaceS => placeC p.1) laidOut typesSmall (of_decide_eq_true (by kernel_rfl)) (by kernel_rfl) (by kernel_rfl)
    (fun p => keyOf_of_lits (by kernel_rfl) (by kernel_rfl) (by rw [placeC_size]; kernel_rfl) (by rw [typesSize]; exact place_lits _ p.1 p.2))
    (fun p q h => Subtype.ext (placeL_inj (toArr_inj (agg_inj h)))) ⟨a, ha⟩ ⟨b, hb⟩ w
  exact h.trans (congrArg (fun x => Result.ok x w) (decide_eq_decide.2 ⟨fun e => congrArg Subtype.val e, fun e => Subtype.ext e⟩))
set_option maxRecDepth 100000 in
theorem row_eq (a b : KeyT × PlaceT) (ha : PlaceOk a.2) (hb : PlaceOk b.2) (w : World) : (Op.equal 35 (rowV a) (rowV b)).run Try.prog w = .ok (decide (a = b)) w := by
  have h := equal_cells (P := Try.prog) (t := 35) (c := fun p : RowS => rowC p.1) laidOut typesSmall (of_decide_eq_true (by kernel_rfl)) (by kernel_rfl) (by kernel_rfl)
    (fun p => keyOf_of_lits (by kernel_rfl) (by kernel_rfl) (by rw [rowC_size]; kernel_rfl) (by rw [typesSize]; exact row_lits _ p.1 p.2))
    (fun p q h => Subtype.ext (rowL_inj (toArr_inj (agg_inj h)))) ⟨a, ha⟩ ⟨b, hb⟩ w
  exact h.trans (congrArg (fun x => Result.ok x w) (decide_eq_decide.2 ⟨fun e => congrArg Subtype.val e, fun e => Subtype.ext e⟩))
theorem rowGuard : Try.prog.eqGuardType Try.prog.depth 35 = false := by kernel_rfl
theorem placeGuard : Try.prog.eqGuardType Try.prog.depth 33 = false := by kernel_rfl
theorem rowSize (r : KeyT × PlaceT) : (Try.prog.info? 35).map (·.size) = some (rowC r).size := by rw [rowC_size]; kernel_rfl
theorem run_build_row (k : KeyT) (p : PlaceT) (w : World) : (Instr.build 35 #[(0, keyV k), (1, placeV p)]).run Try.prog w = .ok (rowV (k, p)) w := by
  obtain ⟨zs, hzs, hz⟩ : ∃ zs : Array Value, zs.size = 35 ∧ ∀ w, (zeroValue 35).run Try.prog w = .ok (.agg zs) w := ⟨_, rfl, fun w => Try.zeroValue35 w⟩
  obtain ⟨f1, f2, ht, o1, o2, t1, t2⟩ : ∃ f1 f2, Try.prog.underlying 35 = some (.struct #[f1, f2]) ∧ f1.offset = 0 ∧ f2.offset = 33 ∧ f1.type = 27 ∧ f2.type = 33 :=
    ⟨_, _, Try.underlying35, rfl, rfl, rfl, rfl⟩
  have hs1 : (sizeOf f1.type).run Try.prog w = .ok 33 w := by rw [t1]; exact run_sizeOf_eq (by kernel_rfl)
  have hs2 : (sizeOf f2.type).run Try.prog w = .ok 2 w := by rw [t2]; exact run_sizeOf_eq (by kernel_rfl)
  have hm : ((#[f1, f2] : Array Field).mapM fun (f : Field) => do pure (f.offset, ← sizeOf f.type) : Sem (Array (Nat × Nat))).run Try.prog w = .ok #[(0, 33), (33, 2)] w := by
    rw [Array.mapM_eq_mapM_toList]
    simp [Sem.run_bind, hs1, hs2, o1, o2, Result.andThen]
  have hfill : Instr.fill ((#[(0, 33), (33, 2)] : Array (Nat × Nat))[·]?) zs [(0, keyV k), (1, placeV p)] = some (rowC (k, p)) := by
    rw [fill_step (i := 0) (off := 0) (size := 33) (v := keyV k) ((#[(0, 33), (33, 2)] : Array (Nat × Nat))[·]?) zs _ rfl (keyC_size k) (by omega)]
    rw [fill_step (i := 1) (off := 33) (size := 2) (v := placeV p) ((#[(0, 33), (33, 2)] : Array (Nat × Nat))[·]?) _ [] rfl rfl (by simp [Value.cells, keyC_size, hzs])]
    unfold Instr.fill
    refine congrArg some ?_
    apply Array.ext'
    have e1 : (keyC k).toList = keyL k := rfl
    have e2 : (placeC p).toList = placeL p := rfl
    simp [Value.cells, rowC, rowL, e1, e2, keyL_length, placeL_length, hzs]
  unfold Instr.build
  simp only [Sem.run_bind, hz, Result.andThen_ok, run_underlying ht, hm]
  have hz2 : (Value.agg zs).cells = zs := rfl
  rw [hz2]
  simp only [hfill, Sem.run_pure]
theorem wp_build_row {w : World} {o : Oper} {a : Act} {K : Act → World → Prop} {Q : Exit → Act → World → Prop} (x y : Operand) (ho : o.op = .build 35 #[(0, x), (1, y)]) (k : KeyT) (p : PlaceT)
    (hx : a.eval x = keyV k) (hy : a.eval y = placeV p) (hK : K (a.put o.dst (rowV (k, p))) w) : o.wp Try.prog a w K Q := by
  have hr := run_build_row k p w
  unfold Oper.wp execOp
  simp only [ho, List.map_toArray, List.map_cons, List.map_nil, hx, hy, Sem.run_bind, hr, Result.andThen_ok, Sem.run_pure]
  exact hK
theorem wpList_build_row {w : World} {ops : Array Oper} {rest : List Oper} {o : Oper} {a : Act} {Q : Exit → Act → World → Prop} (hgd : o.guard = none) (x y : Operand) (ho : o.op = .build 35 #[(0, x), (1, y)]) (k : KeyT) (p : PlaceT)
    (hx : a.eval x = keyV k) (hy : a.eval y = placeV p) (hK : wpList Try.prog ops Q rest (a.put o.dst (rowV (k, p))) w) : wpList Try.prog ops Q (o :: rest) a w :=
  wpList_plain hgd fun _ hK' => wp_build_row x y ho k p hx hy (hK' _ _ hK)
theorem zero_row : ∃ zs : Array Value, zs.size = 35 ∧ ∀ w, (zeroValue 35).run Try.prog w = .ok (.agg zs) w := ⟨_, rfl, fun w => Try.zeroValue35 w⟩
/-- rows that may be compared -/
def RowsOk (l : List (KeyT × PlaceT)) : Prop := ∀ r ∈ l, PlaceOk r.2
set_option maxHeartbeats 2000000 in
set_option maxRecDepth 100000 in
theorem same_any (w : World) (a b : Option Addr) (c d : Nat) (l m : List (KeyT × PlaceT)) (ha : Row w a (l.flatMap rowL)) (hb : Row w b (m.flatMap rowL)) (hl : l.length ≤ 2^40) (hm : m.length ≤ 2^40) (hol : RowsOk l) (hom : RowsOk m) :
    Calls Try.prog 22 #[.slice a l.length c, .slice b m.length d] w (RetBool w (decide (l = m))) := by
  have HA := Lib.hid ha
  have HB := Lib.hid hb
  have HOL := Lib.hid hol
  have HOM := Lib.hid hom
  clear ha hb hol hom
  by_cases hne : l.length = m.length
  · have Hne := Lib.hid hne
    rw [← hne]
    clear hne
    go_enter Try.func22, Try.ntmps22
    go_wp2
    go_loopg [5] l.length (fun n i wr => Below w.heap.size w wr ∧ ∃ j : Nat, j ≤ l.length ∧ i = .int .i64 j ∧ Hid (n = l.length - j ∧ l.take j = m.take j))
    case atStart => exact ⟨Below.refl _ _, 0, by omega, rfl, rfl, rfl⟩
    case round =>
      obtain ⟨hbw, j, hj, rfl, hr⟩ := hrel
      have Hbw := Lib.hid hbw
      have hgn := hr.out.1
      have Htk := Lib.hid hr.out.2
      clear hbw hr
      by_cases hlt : j < l.length
      · have hlt2 : (j : Int) < (l.length : Int) := by omega
        have hltm : j < m.length := by have := Hne.out; omega
        obtain ⟨g1, o1, rfl, hX⟩ := row_at rowL_length (HA.out.below Hbw.out) hlt (by omega)
        obtain ⟨g2, o2, rfl, hY⟩ := row_at rowL_length (HB.out.below Hbw.out) hltm (by omega)
        have HX : Hid (At wr g1 (o1 + j * 35) (rowC l[j])) := hX
        have HY : Hid (At wr g2 (o2 + j * 35) (rowC m[j])) := hY
        have Heq := Lib.hid (row_eq l[j] m[j] (HOL.out _ (List.getElem_mem hlt)) (HOM.out _ (List.getElem_mem hltm)) wr.drew)
        have Htk2 : Hid (l.take (j + 1) = m.take (j + 1) ↔ l[j] = m[j]) := by
          unfold Hid
          rw [List.take_succ_eq_append_getElem hlt, List.take_succ_eq_append_getElem hltm, Htk.out]
          constructor
          · intro h
            have := List.append_cancel_left h
            injection this
          · intro h; rw [h]
        have Hne2 : Hid (l = m → l[j] = m[j]) := fun e => by subst e; rfl
        clear hX hY
        generalize l[j] = x at *
        generalize m[j] = y at *
        go_wp2
        refine Go.XR.region_sched ((· = wr.drew)) [(0, true), (1, true), (2, true), (3, true), (4, true), (5, true), (6, true), (7, true), (8, false)] [8] Try.mixed (by kernel_rfl) (by kernel_rfl) (by kernel_rfl) ?_
        simp only [List.map_cons, List.map_nil, List.getElem?_cons_succ, List.getElem?_cons_zero]
        repeat (first | (refine Go.XR.S_light rfl rfl rfl ?_ (fun w' hS K hK => ?_) (fun K hK => ?_); rotate_left 1; (cases hS; (first | (first | (refine Go.XR.wp_load_at 35 (.tmp 19) rfl g1 (o1 + j * 35) rfl (rowC x) (At.drew HX.out) _ Try.underlying35 rfl (rowSize x) ?_) | (refine Go.XR.wp_load_at 35 (.tmp 23) rfl g2 (o2 + j * 35) rfl (rowC y) (At.drew HY.out) _ Try.underlying35 rfl (rowSize y) ?_)) | go_step); exact hK); go_step; refine hK _ ?_; clear hK K))
        refine Go.XR.S_heavy (fun K hK => ?_)
        refine Go.XR.wp_agg_neq 35 _ _ _ rfl (rowC x) (rowC y) rfl rfl rowGuard _ Heq.out ?_
        refine hK _ _ ⟨fun h => by simp at h, ?_⟩
        clear hK K
        refine Go.XR.S_nil ?_
        by_cases hxy : x = y
        · rw [decide_eq_true hxy]
          have Hxy := Lib.hid hxy
          clear hxy
          go_wp2
          go_roundg (l.length - (j + 1))
          case measure => omega
          case rel => exact ⟨Hbw.out.drew, j + 1, by omega, by go_num, rfl, Htk2.out.2 Hxy.out⟩
        · rw [decide_eq_false hxy]
          have Hxy := Lib.hid hxy
          clear hxy
          go_wp2
          go_ret
          exact ⟨by rw [decide_eq_false (fun e => Hxy.out (Hne2.out e))]; rfl, Hbw.out.drew⟩
      · have hge : ¬ (j : Int) < (l.length : Int) := by omega
        go_wp2
        go_ret
        refine ⟨?_, Hbw.out⟩
        have h1 := Htk.out
        rw [List.take_of_length_le (by omega), List.take_of_length_le (by have := Hne.out; omega)] at h1
        rw [decide_eq_true h1]; rfl
  · have hneI : ¬ ((l.length : Int) = (m.length : Int)) := by omega
    have Hd : Hid (decide (l = m) = false) := decide_eq_false fun e => hne (by rw [e])
    go_enter Try.func22, Try.ntmps22
    go_wp2
    go_ret
    exact ⟨by rw [Hd.out]; rfl, Below.refl _ _⟩
end Go.Proofs.Ytnfbchhbcinloaa
