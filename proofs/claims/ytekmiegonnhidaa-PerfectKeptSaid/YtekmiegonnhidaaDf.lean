/- The walks over IndexFunc and DeleteFunc at groups. -/
import Derived.Test.YtekmiegonnhidaaCl
import Derived.Test.YtekmiegonnhidaaClr
namespace Go.PerfPure
theorem grpL_len (g : GrpT) : (grpL g).length = 2 := rfl
theorem grpL_one (g : GrpT) : ∀ v ∈ grpL g, v.oneCell' = true := by
  intro v hv
  simp only [grpL, List.mem_cons, List.not_mem_nil, or_false] at hv
  rcases hv with rfl | rfl <;> rfl
open Go.XR
theorem flat_set2 (l : List GrpT) {i : Nat} (hi : i < l.length) (x : GrpT) : ((l.flatMap grpL).set (i * 2) (.int .i64 x.at_)).set (i * 2 + 1) (.slice x.sl x.len x.cap) = (l.set i x).flatMap grpL := by
  refine List.ext_getElem? fun q => ?_
  have hl := Go.XR.flat_len grpL_len l
  have hl2 := Go.XR.flat_len grpL_len (l.set i x)
  rw [List.length_set] at hl2
  by_cases hq : q < l.length * 2
  · have e : q = (q / 2) * 2 + q % 2 := by omega
    have h1 : (q / 2) < l.length := by omega
    have h3 : ((l.set i x).flatMap grpL)[q]? = (grpL (if i = q / 2 then x else l[q / 2]))[q % 2]? := by
      conv => lhs; rw [e]
      rw [flat_get grpL_len _ (by rw [List.length_set]; exact h1) (by omega), List.getElem_set]
    have h4 : (l.flatMap grpL)[q]? = (grpL l[q / 2])[q % 2]? := by
      conv => lhs; rw [e]
      rw [flat_get grpL_len _ h1 (by omega)]
    rw [h3, List.getElem?_set, List.getElem?_set]
    by_cases c : i = q / 2
    · rw [if_pos c]
      rcases (show q % 2 = 0 ∨ q % 2 = 1 by omega) with r | r
      · rw [if_neg (by omega), if_pos (by omega), if_pos (by rw [hl]; omega), r]; rfl
      · rw [if_pos (by omega), if_pos (by rw [List.length_set, hl]; omega), r]; rfl
    · rw [if_neg c, if_neg (by omega), if_neg (by omega), h4]
  · rw [List.getElem?_eq_none (by rw [List.length_set, List.length_set, hl]; omega), List.getElem?_eq_none (by rw [hl2]; omega)]
/-- groups that have keys -/
def fullB (g : GrpT) : Bool := !decide (g.len = 0)
end Go.PerfPure
namespace Go.Proofs.Ytekmiegonnhidaa
open Go.RowKit Go.XR Go.PerfPure

theorem grp_cells {w : World} {ab : Nat} {gs : List GrpT} {rest : List Value} (h : Blk w ab (gs.flatMap grpL ++ rest)) {i : Nat} (hi : i < gs.length) :
    w.cell? ⟨ab, i * 2, none⟩ = some (.int .i64 gs[i].at_) ∧ w.cell? ⟨ab, i * 2 + 1, none⟩ = some (.slice gs[i].sl gs[i].len gs[i].cap) := by
  have hl := flat_len grpL_len gs
  constructor
  · refine h.cell ?_
    rw [List.getElem?_append_left (by omega)]
    exact flat_get grpL_len gs hi (j := 0) (by omega)
  · refine h.cell ?_
    rw [List.getElem?_append_left (by omega)]
    exact flat_get grpL_len gs hi (j := 1) (by omega)

def RetIdx (w : World) (gs : List GrpT) (e : Ending) (w' : World) : Prop :=
  Below w.heap.size w w' ∧ ((e = .returned (.int .i64 (-1)) ∧ gs.filter fullB = gs) ∨ ∃ i, i < gs.length ∧ e = .returned (.int .i64 (i : Int)) ∧ (gs.take i).filter fullB = gs.take i ∧ ∀ h : i < gs.length, fullB gs[i] = false)

set_option maxHeartbeats 1000000 in
theorem gindex_any (w : World) (ab cap : Nat) (gs : List GrpT) (hB : Blk w ab (gs.flatMap grpL)) (hlen : gs.length < 2^40) :
    Calls Try.prog 32 #[.slice (some ⟨ab, 0, none⟩) gs.length cap, .func (.func 27) #[] #[]] w (RetIdx w gs) := by
  have HB := Lib.hid hB
  clear hB
  go_enter Try.func32, Try.ntmps32
  go_wp2
  go_loopg [8, 5] gs.length (fun n i _ wr => Below w.heap.size w wr ∧ ∃ j : Nat, j ≤ gs.length ∧ i = .int .i64 j ∧ Hid (n = gs.length - j ∧ (gs.take j).filter fullB = gs.take j))
  case atStart => exact ⟨Below.refl _ _, 0, by omega, rfl, rfl, rfl⟩
  case round =>
    obtain ⟨hb, j, hj, rfl, hr⟩ := hrel
    by_cases hlt : j < gs.length
    · have hlt2 : (j : Int) < (gs.length : Int) := by omega
      obtain ⟨c0, c1⟩ := grp_cells (rest := []) (by rw [List.append_nil]; exact HB.out.below hb) hlt
      have hl1 := gs[j].len
      have Hfj : Hid (fullB gs[j] = !decide (gs[j].len = 0)) := rfl
      have Hgj : Hid (gs.take (j + 1) = gs.take j ++ [gs[j]]) := List.take_succ_eq_append_getElem hlt
      obtain ⟨x, hx⟩ : ∃ x, gs[j] = x := ⟨_, rfl⟩
      rw [hx] at c0 c1 Hfj Hgj
      have Hx := Lib.hid hx
      have Hb := Lib.hid hb
      clear hx hb
      go_wp2_with fail
      refine (empty_any _ x).mono ?_
      rintro e w1 ⟨rfl, hb1⟩
      have Hb1 := Lib.hid (Hb.out.trans (hb1.mono Hb.out.size))
      clear hb1 c0 c1
      cases hv : decide (x.len = 0) with
      | true =>
        have Hv := Lib.hid hv
        clear hv
        go_wp2
        go_ret
        refine ⟨Hb1.out, .inr ⟨j, hlt, rfl, hr.out.2, fun h => ?_⟩⟩
        rw [Hx.out, Hfj.out, Hv.out]; rfl
      | false =>
        have Hv := Lib.hid hv
        clear hv
        go_wp2
        go_roundg (gs.length - (j + 1))
        case measure => have := hr.out.1; omega
        case rel => exact ⟨Hb1.out, j + 1, by omega, by go_num, rfl, by rw [Hgj.out, List.filter_append, hr.out.2, List.filter_cons, Hfj.out, Hv.out]; rfl⟩
    · have hge : ¬ (j : Int) < (gs.length : Int) := by omega
      have Hb := Lib.hid hb
      clear hb
      go_wp2
      go_ret
      refine ⟨Hb.out, .inl ⟨rfl, ?_⟩⟩
      have := hr.out.2
      rwa [List.take_of_length_le (by omega)] at this

def RetDel (w : World) (ab : Nat) (gs : List GrpT) (cap : Nat) (e : Ending) (w' : World) : Prop :=
  e = .returned (.slice (some ⟨ab, 0, none⟩) (gs.filter fullB).length cap) ∧ (∃ rest, Blk w' ab ((gs.filter fullB).flatMap grpL ++ rest)) ∧ But [ab] w w'

set_option maxHeartbeats 2000000 in
set_option maxRecDepth 100000 in
theorem gdelete_any (w : World) (ab cap : Nat) (gs : List GrpT) (hB : Blk w ab (gs.flatMap grpL)) (hlen : gs.length < 2^40) (hcap : gs.length ≤ cap) (hcap2 : cap < 2^60) :
    Calls Try.prog 26 #[.slice (some ⟨ab, 0, none⟩) gs.length cap, .func (.func 27) #[] #[]] w (RetDel w ab gs cap) := by
  have HB := Lib.hid hB
  have hab := hB.lt
  clear hB
  have hzg : ∀ w, (zeroValue 61).run Try.prog w = .ok (.agg #[.int .i64 0, .slice none 0 0]) w := fun w => Try.zeroValue61 w
  have Hzg := Lib.hid hzg
  clear hzg
  go_enter Try.func26, Try.ntmps26
  go_wp2_with fail
  refine (gindex_any _ ab cap gs HB.out hlen).mono ?_
  rintro e w1 ⟨hb1, ⟨rfl, hf⟩ | ⟨i0, hi0, rfl, hf, hg⟩⟩
  · have Hf := Lib.hid hf
    have Hb1 := Lib.hid hb1
    clear hf hb1
    go_wp2
    go_ret
    refine ⟨by rw [Hf.out]; rfl, ⟨[], ?_⟩, But.of_below Hb1.out⟩
    rw [Hf.out, List.append_nil]; exact HB.out.below Hb1.out
  · have Hf := Lib.hid hf
    have Hg := Lib.hid (hg hi0)
    have Hb1 := Lib.hid hb1
    clear hf hg hb1
    have hm1 : ((i0 : Int) == -1) = false := by rw [beq_eq_false_iff_ne]; omega
    go_wp2
    go_loopg [6, 5] (gs.length - (i0 + 1)) (fun n j i wr => But [ab] w wr ∧ ∃ (q p : Nat) (cur : List GrpT), q ≤ gs.length ∧ p < q ∧ j = .int .i64 q ∧ i = .int .i64 p ∧ cur.length = gs.length ∧ Hid (n = gs.length - q ∧ cur.take p = (gs.take q).filter fullB ∧ cur.drop q = gs.drop q ∧ Blk wr ab (cur.flatMap grpL)))
    case atStart =>
      refine ⟨But.of_below Hb1.out, i0 + 1, i0, gs, by omega, by omega, by go_num, rfl, rfl, rfl, ?_, rfl, HB.out.below Hb1.out⟩
      · rw [List.take_succ_eq_append_getElem hi0, List.filter_append, Hf.out, List.filter_cons, Hg.out]; simp
    case round =>
      obtain ⟨hb, q, p, cur, hq, hpq, rfl, rfl, hcl, hr⟩ := hrel
      have hpc : p ≤ cur.length := by omega
      have Hb := Lib.hid hb
      have Hcl := Lib.hid hcl
      clear hb hcl
      have hz2 := Hb.out.size
      by_cases hlt : q < gs.length
      · have hlt2 : (q : Int) < (gs.length : Int) := by omega
        have hqc : q < cur.length := by have := Hcl.out; omega
        obtain ⟨c0, c1⟩ := grp_cells (rest := []) (by rw [List.append_nil]; exact hr.out.2.2.2) hqc
        have hxx : cur[q] = gs[q] := by
          have h1 := congrArg (·[0]?) hr.out.2.2.1
          simp only [List.getElem?_drop, Nat.add_zero, List.getElem?_eq_getElem hqc, List.getElem?_eq_getElem hlt] at h1
          exact Option.some.inj h1
        rw [hxx] at c0 c1
        obtain ⟨x, hx⟩ : ∃ x, gs[q] = x := ⟨_, rfl⟩
        have Hdq : Hid (cur.drop (q + 1) = gs.drop (q + 1)) := by
          have h1 := congrArg (List.drop 1) hr.out.2.2.1
          rw [List.drop_drop, List.drop_drop] at h1
          exact h1
        have Hgq : Hid ((gs.take (q + 1)).filter fullB = (gs.take q).filter fullB ++ [x].filter fullB) := by
          unfold Hid; rw [List.take_succ_eq_append_getElem hlt, List.filter_append, hx]
        have Hfx : Hid (fullB x = !decide (x.len = 0)) := rfl
        rw [hx] at c0 c1
        clear hx hxx
        have hab2 : ab ≠ wr.heap.size := by omega
        go_wp2_with fail
        refine (empty_any _ x).mono ?_
        rintro e w2 ⟨rfl, hb2⟩
        have Hbr : Hid (But [ab] w w2) := (Hb.out.alloc _).trans (But.of_below hb2)
        have HB2 : Hid (Blk w2 ab (cur.flatMap grpL)) := (hr.out.2.2.2.below ((Below.refl _ _).alloc (Nat.le_refl _) _)).below hb2
        have d0 : w2.cell? ⟨wr.heap.size, 0, none⟩ = some (.int .i64 x.at_) := by rw [hb2.cell (p := ⟨wr.heap.size, 0, none⟩) (by simp)]; simp
        have d1 : w2.cell? ⟨wr.heap.size, 1, none⟩ = some (.slice x.sl x.len x.cap) := by rw [hb2.cell (p := ⟨wr.heap.size, 1, none⟩) (by simp)]; simp
        clear hb2
        cases hv : decide (x.len = 0) with
        | true =>
          have Hv := Lib.hid hv
          clear hv
          go_wp2
          go_roundg (gs.length - (q + 1))
          case measure => have := hr.out.1; omega
          case rel => exact ⟨Hbr.out, q + 1, p, cur, by omega, by omega, by go_num, rfl, Hcl.out, rfl, by rw [Hgq.out, ← hr.out.2.1, List.filter_cons, Hfx.out, Hv.out]; simp, Hdq.out, HB2.out⟩
        | false =>
          have Hv := Lib.hid hv
          clear hv c0 c1
          have hp1 : p < gs.length := by omega
          have hp2 : (p : Int) < (gs.length : Int) := by omega
          have hpcl : p < cur.length := by have := Hcl.out; omega
          obtain ⟨e0, e1⟩ := grp_cells (rest := []) (by rw [List.append_nil]; exact HB2.out) hpcl
          have f0 := HB2.out.free (p * 2)
          have f1 := HB2.out.free (p * 2 + 1)
          generalize cur[p].at_ = y0 at *
          generalize cur[p].sl = y1 at *
          generalize cur[p].len = y2 at *
          generalize cur[p].cap = y3 at *
          go_wp2
          go_roundg (gs.length - (q + 1))
          case measure => have := hr.out.1; omega
          case rel =>
            refine ⟨(Hbr.out.setCell (.inl (by simp)) _).setCell (.inl (by simp)) _, q + 1, p + 1, cur.set p x, by omega, by omega, by go_num, by go_num, by rw [List.length_set]; exact Hcl.out, rfl, ?_, ?_, ?_⟩
            · rw [Hgq.out, ← hr.out.2.1, List.filter_cons, Hfx.out, Hv.out]
              rw [List.take_succ_eq_append_getElem (by rw [List.length_set]; exact hpcl), List.take_set_of_le (Nat.le_refl _)]
              simp
            · rw [List.drop_set_of_lt (by omega)]; exact Hdq.out
            · rw [← flat_set2 cur hpcl x]
              exact (HB2.out.set _ _).set _ _
      · have hge : ¬ (q : Int) < (gs.length : Int) := by omega
        have Hfin : Hid (cur.take p = gs.filter fullB) := by
          have := hr.out.2.1
          rw [List.take_of_length_le (by omega : gs.length ≤ q)] at this
          exact this
        have hpl : p ≤ gs.length := by omega
        have hpl2 : (p : Int) ≤ (gs.length : Int) := by omega
        have HB2 := Lib.hid hr.out.2.2.2
        clear hr
        have hl2 := flat_len grpL_len cur
        have HL2 := Lib.hid hl2
        clear hl2
        have HfinT := Lib.hid (flat_take grpL_len cur (i := p) hpc)
        have hplt : p < gs.length := by omega
        have hcp : ¬ cap = p := by omega
        have hlt3 : p * 2 + (gs.length - p) * 2 ≤ (cur.flatMap grpL).length := by rw [HL2.out, Hcl.out]; omega
        have Hlt3 := Lib.hid hlt3
        clear hlt3
        go_wp2_with (refine wpList_clear rfl _ 58 61 rfl ab (p * 2) (gs.length - p) (cap - p) rfl Try.underlying58 _ (Hzg.out _) (by simp [Value.cells]; exact ⟨rfl, rfl⟩) (cur.flatMap grpL) HB2.out Hlt3.out (fun zs hzs1 hzs2 w2 hB2 hbut => ?_))
        have Hbf := Lib.hid (Hb.out.trans hbut)
        have HBf := Lib.hid hB2
        clear hzs1 hzs2 hB2 hbut
        go_wp2
        go_ret
        have hpf : p = (gs.filter fullB).length := by rw [← Hfin.out, List.length_take]; have := Hcl.out; omega
        refine ⟨by rw [← hpf]; rfl, ⟨zs ++ (cur.flatMap grpL).drop (p * 2 + (gs.length - p) * 2), ?_⟩, Hbf.out⟩
        rw [← Hfin.out, ← HfinT.out, ← List.append_assoc]
        exact HBf.out
end Go.Proofs.Ytekmiegonnhidaa
