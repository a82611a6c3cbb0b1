/- The walk over slices.Insert of one number. -/
import Derived.Test.YtnfbchhbcinloaaIx
import Derived.Lib.Overlaps
import Derived.Lib.AppendZerosOnto
namespace Go.Proofs.Ytnfbchhbcinloaa
open Go.RowKit Go.XR Go.IndexPure
theorem wp_copy_run {P : Program} (w : World) {o : Oper} {a : Act} {K : Act → World → Prop} {Q : Exit → Act → World → Prop} (d s : Operand) (t t' : TypeId)
    (ho : o.op = .call { callee := .builtin .copy, args := #[d, s], argTypes := #[t, t'] }) (v u : Value) (hd : a.eval d = v) (hs : a.eval s = u) {v' : Value} {w' : World}
    (hr : (Builtin.copy_ #[t, t'] o.type #[v, u]).run P w = .ok v' w') (h : K (a.put o.dst v') w') : o.wp P a w K Q := by
  unfold Oper.wp execOp
  simp only [ho, resolve, invoke, builtin, Sem.run_bind, Sem.run_pure, Result.andThen_ok, List.map_toArray, List.map_cons, List.map_nil, hd, hs, hr]
  exact h
theorem wpList_copy_run {P : Program} (w : World) {ops : Array Oper} {rest : List Oper} {o : Oper} {a : Act} {Q : Exit → Act → World → Prop} (hgd : o.guard = none) (d s : Operand) (t t' : TypeId)
    (ho : o.op = .call { callee := .builtin .copy, args := #[d, s], argTypes := #[t, t'] }) (v u : Value) (hd : a.eval d = v) (hs : a.eval s = u) {v' : Value} {w' : World}
    (hr : (Builtin.copy_ #[t, t'] o.type #[v, u]).run P w = .ok v' w') (h : wpList P ops Q rest (a.put o.dst v') w') : wpList P ops Q (o :: rest) a w :=
  wpList_plain hgd fun _ hK => wp_copy_run w d s t t' ho v u hd hs hr (hK _ _ h)
theorem wp_copy_ex {P : Program} (w : World) {o : Oper} {a : Act} {K : Act → World → Prop} {Q : Exit → Act → World → Prop} (d s : Operand) (t t' : TypeId)
    (ho : o.op = .call { callee := .builtin .copy, args := #[d, s], argTypes := #[t, t'] }) (A B : Option Addr) (dl dc sl sc : Nat) (hd : a.eval d = .slice A dl dc) (hs : a.eval s = .slice B sl sc) (v' : Value) (R : World → Prop)
    (hr : ∀ ty, ∃ w', (Builtin.copy_ #[t, t'] ty #[.slice A dl dc, .slice B sl sc]).run P w = .ok v' w' ∧ R w') (h : ∀ w', R w' → K (a.put o.dst v') w') : o.wp P a w K Q := by
  obtain ⟨w', h1, h2⟩ := hr o.type
  exact wp_copy_run w d s t t' ho _ _ hd hs h1 (h w' h2)
theorem wpList_copy_ex {P : Program} (w : World) {ops : Array Oper} {rest : List Oper} {o : Oper} {a : Act} {Q : Exit → Act → World → Prop} (hgd : o.guard = none) (d s : Operand) (t t' : TypeId)
    (ho : o.op = .call { callee := .builtin .copy, args := #[d, s], argTypes := #[t, t'] }) (A B : Option Addr) (dl dc sl sc : Nat) (hd : a.eval d = .slice A dl dc) (hs : a.eval s = .slice B sl sc) (v' : Value) (R : World → Prop)
    (hr : ∀ ty, ∃ w', (Builtin.copy_ #[t, t'] ty #[.slice A dl dc, .slice B sl sc]).run P w = .ok v' w' ∧ R w') (h : ∀ w', R w' → wpList P ops Q rest (a.put o.dst v') w') : wpList P ops Q (o :: rest) a w :=
  wpList_plain hgd fun _ hK => wp_copy_ex w d s t t' ho A B dl dc sl sc hd hs v' R hr fun w' hw => hK _ _ (h w' hw)
/-- what an insertion makes -/
def insAt (l : List UInt32) (i : Nat) (n : UInt32) : List UInt32 := l.take i ++ n :: l.drop i
theorem insAt_length (l : List UInt32) (i : Nat) (n : UInt32) (h : i ≤ l.length) : (insAt l i n).length = l.length + 1 := by
  unfold insAt; rw [List.length_append, List.length_cons, List.length_take, List.length_drop]; omega
theorem insAt_end (l : List UInt32) (n : UInt32) : insAt l l.length n = l ++ [n] := by unfold insAt; rw [List.take_length, List.drop_length]
def insC (l : List UInt32) (i : Nat) (n : UInt32) : List Value := (l.take i).flatMap nL ++ nL n ++ (l.drop i).flatMap nL
theorem insC_eq (l : List UInt32) (i : Nat) (n : UInt32) : insC l i n = (insAt l i n).flatMap nL := by
  unfold insC insAt; rw [List.flatMap_append, List.flatMap_cons, List.append_assoc]
def RetIns (w : World) (a : Option Addr) (n c : Nat) (L : List UInt32) (e : Ending) (w' : World) : Prop :=
  ∃ a' c', e = .returned (.slice a' L.length c') ∧ w'.ownsRow 0 25 1 (.slice a' L.length c') L.length (L.flatMap nL) ∧ w.grownBy w' (Value.ownBlock (.slice a n c)) ∧ SameOrNew w w' a a'
theorem add_lit (g o j : Nat) : (⟨g, o, none⟩ : Addr).add j = ⟨g, o + j, none⟩ := by unfold Addr.add; split <;> simp_all
theorem flat1_len (l : List UInt32) : (l.flatMap nL).length = l.length := by rw [flat_len (enc := nL) (k := 1) (fun _ => rfl), Nat.mul_one]
/-- the cells of a row, two copies later: room -/
theorem ins_cells (cur : List Value) (l : List UInt32) (i : Nat) (n : UInt32) (hi : i ≤ l.length) (hc : l.length + 1 ≤ cur.length) (ht : cur.take l.length = l.flatMap nL) :
    (((cur.take (i + 1) ++ (l.drop i).flatMap nL ++ cur.drop (i + 1 + ((l.drop i).flatMap nL).length)).take i ++ nL n ++ (cur.take (i + 1) ++ (l.drop i).flatMap nL ++ cur.drop (i + 1 + ((l.drop i).flatMap nL).length)).drop (i + 1))).take (l.length + 1) = (insAt l i n).flatMap nL := by
  have hd : ((l.drop i).flatMap nL).length = l.length - i := by rw [flat1_len, List.length_drop]
  have h1 : (cur.take (i + 1) ++ (l.drop i).flatMap nL ++ cur.drop (i + 1 + ((l.drop i).flatMap nL).length)).take i = (l.take i).flatMap nL := by
    rw [List.append_assoc, List.take_append_of_le_length (by rw [List.length_take]; omega), List.take_take, Nat.min_eq_left (by omega)]
    have h2 := flat_take (enc := nL) (k := 1) (fun _ => rfl) l hi
    rw [Nat.mul_one, ← ht, List.take_take, Nat.min_eq_left hi] at h2
    exact h2
  have h3 : (cur.take (i + 1) ++ (l.drop i).flatMap nL ++ cur.drop (i + 1 + ((l.drop i).flatMap nL).length)).drop (i + 1) = (l.drop i).flatMap nL ++ cur.drop (i + 1 + ((l.drop i).flatMap nL).length) := by
    rw [List.append_assoc, List.drop_left' (by rw [List.length_take]; omega)]
  rw [h1, h3, ← insC_eq]
  unfold insC
  have ht2 : ((l.take i).flatMap nL).length = i := by rw [flat1_len, List.length_take]; omega
  have hn1 : (nL n).length = 1 := rfl
  rw [← List.append_assoc, List.take_left' (by rw [List.length_append, List.length_append, ht2, hn1, hd]; omega)]
theorem copy_row (w : World) (ty : TypeId) (g o dLen dCap : Nat) (a : Addr) (sLen sCap : Nat) (cur : Array Value) (cs : List Value)
    (hg : w.heap[g]? = some (.cells cur 25 (0, 0))) (hn : cs.length = Nat.min sLen dLen)
    (hsrc : ∀ j v, cs[j]? = some v → w.cell? (a.add j) = some v) (hfit : o + cs.length ≤ cur.size) (h1 : ∀ v ∈ cs, v.oneCell' = true) :
    ∃ w', (Builtin.copy_ #[85, 85] ty #[.slice (some ⟨g, o, none⟩) dLen dCap, .slice (some a) sLen sCap]).run Try.prog w = .ok (goInt cs.length) w' ∧ w'.heap[g]? = some (.cells (cur.toList.take o ++ cs ++ cur.toList.drop (o + cs.length)).toArray 25 (0, 0)) ∧ But [g] w w' :=
  ⟨_, run_copy_row (P := Try.prog) w 85 85 ty 25 g o dLen dCap a sLen sCap cur 25 cs Try.underlying85 (by kernel_rfl) hg hn hsrc hfit h1, setRow_heap w g cur _ _ _ hg, (But.refl [g] w).setRow (.inl (by simp)) _⟩
theorem flatn_one (l : List UInt32) : ∀ v ∈ l.flatMap nL, v.oneCell' = true := fun u hu => by
  obtain ⟨b, _, hb⟩ := List.mem_flatMap.1 hu
  exact nL_one b u hb
set_option maxHeartbeats 1000000 in
set_option maxRecDepth 100000 in
theorem insert_end (w : World) (a : Option Addr) (c : Nat) (l : List UInt32) (hown : w.ownsRow 0 25 1 (.slice a l.length c) l.length (l.flatMap nL)) (hl : l.length < 2^40) (vb vc : Nat) (n : UInt32) (hv : w.cell? ⟨vb, 0, none⟩ = some (.int .u32 (n.toNat : Int))) :
    Calls Try.prog 47 #[.slice a l.length c, .int .i64 (l.length : Int), .slice (some ⟨vb, 0, none⟩) 1 vc] w (RetIns w a l.length c (l ++ [n])) := by
  have Hown := Lib.hid hown
  have Hv : Hid (Row w (some ⟨vb, 0, none⟩) ([n].flatMap nL)) := by
    refine .inr ⟨vb, 0, rfl, fun j u hj => ?_⟩
    cases j with
    | zero => cases hj; exact hv
    | succ j => cases hj
  clear hown hv
  obtain ⟨L, hL⟩ : ∃ L, l ++ [n] = L := ⟨_, rfl⟩
  rw [hL]
  go_enter Try.func47, Try.ntmps47
  go_wp2_with (at_builtin; refine Go.XR.stop (fun X hX => ?_))
  refine hX.out ?_
  clear hX X
  refine wpList_plain rfl (fun K hK => ?_)
  refine append_enc2 (P := Try.prog) nL 1 4 (fun _ => rfl) nL_one 25 Try.underlying85 (by kernel_rfl) (by decide) 0 a c l rfl Hown.out vb 0 vc [n] rfl Hv.out (by simp; omega) (by unfold maxLen; simp; omega) (Nat.zero_le _) ?_
  intro a3 c3 w3 ho3 hg3 hn3
  rw [hL] at ho3 ⊢
  have Hend : Hid (RetIns w a l.length c L (.returned (.slice a3 L.length c3)) w3) := ⟨a3, c3, rfl, ho3, hg3, hn3⟩
  clear ho3 hg3 hn3
  go_wp2
  all_goals go_ret
  · have h1 := Hend.out
    rw [h] at h1
    exact h1
  · exact Hend.out
theorem shape_of (w : World) (b : Nat) (cs : Array Value) (T : TypeId) (h : w.heap[b]? = some (.cells cs T (0, 0))) : w.shape? b = some (T, cs.size) := by simp [World.shape?, h]
set_option maxHeartbeats 1000000 in
set_option maxRecDepth 100000 in
theorem insert_room (w : World) (g c : Nat) (l : List UInt32) (hown : w.ownsRow 0 25 1 (.slice (some ⟨g, 0, none⟩) l.length c) l.length (l.flatMap nL)) (hl : l.length < 2^40) (hc : l.length < c) (i : Nat) (hi : i < l.length) (vb vc : Nat) (hvb : vb ≠ g) (n : UInt32) (T : TypeId) (hv : w.heap[vb]? = some (.cells #[.int .u32 (n.toNat : Int)] T (0, 0))) :
    Calls Try.prog 47 #[.slice (some ⟨g, 0, none⟩) l.length c, .int .i64 (i : Int), .slice (some ⟨vb, 0, none⟩) 1 vc] w (RetIns w (some ⟨g, 0, none⟩) l.length c (insAt l i n)) := by
  obtain ⟨cur, hcur, hcs, htk, hcm⟩ : ∃ cur : Array Value, w.heap[g]? = some (.cells cur 25 (0, 0)) ∧ cur.size = c ∧ cur.toList.take l.length = l.flatMap nL ∧ c ≤ maxLen := by
    rcases hown.2 with ⟨h1, _⟩ | ⟨g', cap, cur, h1, h2, h3, h4, h5, h6, h7⟩
    · cases h1
    · cases h1
      exact ⟨cur, h3, by rw [h6, Nat.mul_one], by rw [Nat.mul_one] at h7; exact h7, h5⟩
  have hcl : cur.toList.length = c := by rw [Array.length_toList, hcs]
  have hmx : c ≤ 9223372036854775807 := by unfold maxLen at hcm; omega
  have hov : ∀ lb cb, (callFunc 69 #[.slice (some ⟨vb, 0, none⟩) 1 vc, .slice (some ⟨g, i + 1, none⟩) lb cb]).run Try.prog w = .ok (.value (.bool false)) w := fun lb cb => by
    rw [run_callFunc_extern Try.func69 (by kernel_rfl) (by kernel_rfl) (by kernel_rfl) (e := Extern.SlicesOverlaps.overlaps #[85, 85] #[4]) (by kernel_rfl),
      Lib.run_overlaps_apart w 85 4 25 Try.underlying85 1 (fun w => run_sizeOf_eq (by kernel_rfl)) ⟨vb, 0, none⟩ ⟨g, i + 1, none⟩ 1 vc lb cb hvb T 25 1 cur.size (shape_of w vb _ _ hv) (shape_of w g _ _ hcur) (by omega) (frozen_of_row w vb 0 _ T hv) (frozen_of_row w vb 1 _ T hv)]
    rfl
  have hd : ((l.drop i).flatMap nL).length = l.length - i := by rw [flat1_len, List.length_drop]
  have hne1 : ¬ c = i + 1 := by omega
  have hne2 : ¬ c = i := by omega
  have hne3 : ¬ (i : Int) = (l.length : Int) := by omega
  have hnc : ¬ (c : Int) < (l.length : Int) + 1 := by omega
  have hsrc : ∀ j v, ((l.drop i).flatMap nL)[j]? = some v → w.drew.cell? ((⟨g, i, none⟩ : Addr).add j) = some v := fun j v hj => by
    have h1 := flat_drop (enc := nL) (k := 1) (fun _ => rfl) l (i := i) (by omega)
    rw [Nat.mul_one] at h1
    rw [← h1, List.getElem?_drop, ← htk, List.getElem?_take] at hj
    split at hj
    · rw [add_lit]
      show w.cell? _ = _
      rw [cell_of_row w g _ cur _ _ hcur]
      simpa using hj
    · cases hj
  have hcp1 : ∀ dl dc sl sc, Nat.min sl dl = l.length - i → ∀ ty, ∃ w1, (Builtin.copy_ #[85, 85] ty #[.slice (some ⟨g, i + 1, none⟩) dl dc, .slice (some ⟨g, i, none⟩) sl sc]).run Try.prog w.drew = .ok (goInt ((l.drop i).flatMap nL).length) w1 ∧ w1.heap[g]? = some (.cells (cur.toList.take (i + 1) ++ (l.drop i).flatMap nL ++ cur.toList.drop (i + 1 + ((l.drop i).flatMap nL).length)).toArray 25 (0, 0)) ∧ But [g] w.drew w1 := fun dl dc sl sc hm ty =>
    copy_row w.drew ty g (i + 1) _ _ ⟨g, i, none⟩ _ _ cur ((l.drop i).flatMap nL) hcur (by rw [hd, hm]) hsrc (by rw [hd]; omega) (flatn_one _)
  obtain ⟨cu2, hcu2⟩ : ∃ cu2, cur.toList.take (i + 1) ++ (l.drop i).flatMap nL ++ cur.toList.drop (i + 1 + ((l.drop i).flatMap nL).length) = cu2 := ⟨_, rfl⟩
  have hfin := ins_cells cur.toList l i n (by omega) (by omega) htk
  rw [hcu2] at hcp1 hfin
  have hl2 : cu2.length = c := by rw [← hcu2, List.length_append, List.length_append, List.length_take, List.length_drop, hd]; omega
  have hcp2 : ∀ w1, w1.heap[g]? = some (.cells cu2.toArray 25 (0, 0)) → But [g] w.drew w1 → ∀ dl dc, Nat.min 1 dl = 1 → ∀ ty, ∃ w2, (Builtin.copy_ #[85, 85] ty #[.slice (some ⟨g, i, none⟩) dl dc, .slice (some ⟨vb, 0, none⟩) 1 vc]).run Try.prog w1 = .ok (goInt (nL n).length) w2 ∧ w2.heap[g]? = some (.cells (cu2.toArray.toList.take i ++ nL n ++ cu2.toArray.toList.drop (i + (nL n).length)).toArray 25 (0, 0)) ∧ But [g] w1 w2 := fun w1 h1 hb1 dl dc hm ty =>
    copy_row w1 ty g i _ _ ⟨vb, 0, none⟩ _ _ cu2.toArray (nL n) h1 hm.symm (fun j v hj => by
      rw [add_lit]
      cases j with
      | zero =>
        cases hj
        have h2 : w1.heap[vb]? = _ := (hb1.block vb (Array.getElem?_eq_some_iff.1 hv).1 (by simpa using hvb)).trans hv
        rw [cell_of_row w1 vb _ _ _ _ h2]; rfl
      | succ j => cases hj) (by have : (nL n).length = 1 := rfl; rw [List.size_toArray]; omega) (nL_one n)
  have Hcur := Lib.hid hcur
  have Hcp1 := Lib.hid hcp1
  have Hcp2 := Lib.hid hcp2
  have Hend : Hid (∀ w1 w2 : World, But [g] w.drew w1 → But [g] w1 w2 → w2.heap[g]? = some (.cells (cu2.toArray.toList.take i ++ nL n ++ cu2.toArray.toList.drop (i + (nL n).length)).toArray 25 (0, 0)) → RetIns w (some ⟨g, 0, none⟩) l.length c (insAt l i n) (.returned (.slice (some ⟨g, 0, none⟩) (l.length + 1) c)) w2) := fun w1 w2 hb1 hb2 h2 => by
    have hb : But [g] w w2 := ((But.refl [g] w).drew.trans hb1).trans hb2
    have hn1 : (nL n).length = 1 := rfl
    refine ⟨some ⟨g, 0, none⟩, c, by rw [insAt_length l i n (by omega)], ⟨flat1_len _ ▸ (Nat.mul_one _).symm, .inr ⟨g, c, _, rfl, Nat.zero_le _, h2, by rw [insAt_length l i n (by omega)]; omega, hcm, ?_, ?_⟩⟩, ⟨hb.os, hb.tape, hb.output, hb.size, fun k hk hne => hb.block k hk (fun hm => hne (by rw [List.mem_singleton] at hm; subst hm; rfl))⟩, .inl rfl⟩
    · rw [List.size_toArray, List.length_append, List.length_append, List.length_take, List.length_drop, List.toList_toArray, hn1]; omega
    · rw [insAt_length l i n (by omega), Nat.mul_one]
      show ((cu2.toArray.toList.take i ++ nL n ++ cu2.toArray.toList.drop (i + (nL n).length))).take (l.length + 1) = _
      rw [List.toList_toArray, hn1]
      exact hfin
  clear hcur hcp1 hcp2 hfin hcu2 hl2 hsrc hd htk hcl hcs hown hv hcm
  go_enter Try.func47, Try.ntmps47
  go_wp2_with (simp only [hov])
  refine Go.XR.region_sched ((· = w.drew)) [(0, true), (1, true), (2, true), (3, true), (4, true), (5, true), (6, true), (7, true), (8, false)] [8] Try.mixed (by kernel_rfl) (by kernel_rfl) (by kernel_rfl) ?_
  simp only [List.map_cons, List.map_nil, List.getElem?_cons_succ, List.getElem?_cons_zero]
  repeat (first | (refine Go.XR.S_light rfl rfl rfl ?_ (fun w' hS K hK => ?_) (fun K hK => ?_); rotate_left 1; (cases hS; go_step; exact hK); go_step; refine hK _ ?_; clear hK K))
  refine Go.XR.S_heavy (fun K hK => ?_)
  refine wp_copy_ex _ _ _ 85 85 rfl _ _ _ _ _ _ rfl rfl _ _ (Hcp1.out _ _ _ _ (by simp only [Nat.min_def]; split <;> omega)) ?_
  rintro w1 ⟨hg1, hb1⟩
  refine hK _ _ ⟨fun h => by simp at h, ?_⟩
  clear hK K
  have Hb1 := Lib.hid hb1
  have Hg1 := Lib.hid hg1
  clear hb1 hg1
  repeat (first | (refine Go.XR.S_heavy (fun K hK => ?_); go_step; refine hK _ _ ⟨fun h => by simp at h, ?_⟩; clear hK K))
  refine Go.XR.S_nil ?_
  go_wp2_with (refine wpList_copy_ex _ rfl _ _ 85 85 rfl _ _ _ _ _ _ rfl rfl _ _ (Hcp2.out w1 Hg1.out Hb1.out _ _ (by simp only [Nat.min_def]; split <;> omega)) (fun w2 h2 => Go.XR.stop (fun X hX => ?_)))
  obtain ⟨hg2, hb2⟩ := h2
  refine hX.out ?_
  clear hX X
  have Hfin := Lib.hid (Hend.out w1 w2 Hb1.out hb2 hg2)
  clear hg2 hb2
  go_wp2
  go_ret
  exact Hfin.out
theorem wpList_append_ex {P : Program} (w : World) {ops : Array Oper} {rest : List Oper} {o : Oper} {a : Act} {Q : Exit → Act → World → Prop} (hgd : o.guard = none) (d s : Operand) (t t' : TypeId)
    (ho : o.op = .call { callee := .builtin .append, args := #[d, s], argTypes := #[t, t'] }) (A : Option Addr) (dl dc : Nat) (k : IntKind) (z : Int) (hd : a.eval d = .slice A dl dc) (hs : a.eval s = .int k z) (R : Value → World → Prop)
    (hr : ∀ ty, ∃ v' w', (Builtin.append_ #[t, t'] ty #[.slice A dl dc, .int k z]).run P w = .ok v' w' ∧ R v' w') (h : ∀ v' w', R v' w' → wpList P ops Q rest (a.put o.dst v') w') : wpList P ops Q (o :: rest) a w := by
  obtain ⟨v', w', h1, h2⟩ := hr o.type
  exact wpList_plain hgd fun _ hK => Lib.wp_append_run w d s t t' ho _ _ hd hs v' w' h1 (hK _ _ (h v' w' h2))
theorem firstCells_own (w : World) (g : Nat) (l : List UInt32) (c : Nat) (cur : Array Value) (hcur : w.heap[g]? = some (.cells cur 25 (0, 0))) (htk : cur.toList.take l.length = l.flatMap nL) (i : Nat) (hi : i ≤ l.length) (c2 : Nat) :
    (Builtin.firstCells 1 i (.slice (some ⟨g, 0, none⟩) i c2)).run Try.prog w = .ok ((l.take i).flatMap nL).toArray w := by
  refine run_firstCells_some w 1 i ⟨g, 0, none⟩ i c2 ((l.take i).flatMap nL) (by rw [flat1_len, List.length_take]; omega) (fun j v hj => ?_)
  have h2 := flat_take (enc := nL) (k := 1) (fun _ => rfl) l hi
  rw [Nat.mul_one, ← htk, List.take_take, Nat.min_eq_left hi] at h2
  rw [← h2, List.getElem?_take] at hj
  split at hj
  · rw [add_lit, Nat.zero_add, cell_of_row w g _ cur _ _ hcur]
    simpa using hj
  · cases hj
theorem insg_cells (cur : List Value) (l : List UInt32) (i : Nat) (n : UInt32) (hi : i ≤ l.length) (hc : l.length + 1 ≤ cur.length) (ht : cur.take i = (l.take i).flatMap nL) :
    ((cur.take i ++ nL n ++ cur.drop (i + (nL n).length)).take (i + 1) ++ (l.drop i).flatMap nL ++ (cur.take i ++ nL n ++ cur.drop (i + (nL n).length)).drop (i + 1 + ((l.drop i).flatMap nL).length)).take (l.length + 1) = (insAt l i n).flatMap nL := by
  have hd : ((l.drop i).flatMap nL).length = l.length - i := by rw [flat1_len, List.length_drop]
  have hn1 : (nL n).length = 1 := rfl
  have h1 : (cur.take i ++ nL n ++ cur.drop (i + (nL n).length)).take (i + 1) = cur.take i ++ nL n := List.take_left' (by rw [List.length_append, List.length_take, hn1]; omega)
  rw [h1, ht, ← insC_eq]
  unfold insC
  have ht2 : ((l.take i).flatMap nL).length = i := by rw [flat1_len, List.length_take]; omega
  rw [List.take_left' (by rw [List.length_append, List.length_append, ht2, hn1, hd]; omega)]
set_option maxHeartbeats 1000000 in
set_option maxRecDepth 100000 in
theorem insert_grow (w : World) (g : Nat) (l : List UInt32) (hown : w.ownsRow 0 25 1 (.slice (some ⟨g, 0, none⟩) l.length l.length) l.length (l.flatMap nL)) (hl : l.length < 2^40) (i : Nat) (hi : i < l.length) (vb vc : Nat) (n : UInt32) (hv : w.cell? ⟨vb, 0, none⟩ = some (.int .u32 (n.toNat : Int))) :
    Calls Try.prog 47 #[.slice (some ⟨g, 0, none⟩) l.length l.length, .int .i64 (i : Int), .slice (some ⟨vb, 0, none⟩) 1 vc] w (RetIns w (some ⟨g, 0, none⟩) l.length l.length (insAt l i n)) := by
  obtain ⟨cur, hcur, htk⟩ : ∃ cur : Array Value, w.heap[g]? = some (.cells cur 25 (0, 0)) ∧ cur.toList.take l.length = l.flatMap nL := by
    rcases hown.2 with ⟨h1, _⟩ | ⟨g', cap, cur, h1, h2, h3, h4, h5, h6, h7⟩
    · cases h1
    · cases h1
      exact ⟨cur, h3, by rw [Nat.mul_one] at h7; exact h7⟩
  have hgl : g < w.heap.size := (Array.getElem?_eq_some_iff.1 hcur).1
  have hvl : vb < w.heap.size := cell_lt hv
  have hn1 : (nL n).length = 1 := rfl
  have hd : ((l.drop i).flatMap nL).length = l.length - i := by rw [flat1_len, List.length_drop]
  have ht2 : ((l.take i).flatMap nL).length = i := by rw [flat1_len, List.length_take]; omega
  obtain ⟨i0, z0, hi0, hz0, hs0, hb0, hzs0⟩ := info_z (P := Try.prog) (t := 25) (n := 1) (b := 4) (by kernel_rfl)
  have hap : ∀ z : Int, z = (l.length : Int) + 1 - i → ∀ ty, ∃ v' w', (Builtin.append_ #[85, 3] ty #[.slice (some ⟨g, 0, none⟩) i l.length, .int .i64 z]).run Try.prog w = .ok v' w' ∧
      (∃ c1 cur1, v' = .slice (some ⟨w.heap.size, 0, none⟩) (l.length + 1) c1 ∧ l.length + 1 ≤ c1 ∧ c1 ≤ maxLen ∧ w'.heap[w.heap.size]? = some (.cells cur1 25 (0, 0)) ∧ cur1.size = c1 ∧ cur1.toList.take i = (l.take i).flatMap nL ∧ Below w.heap.size w w' ∧ w'.heap.size = w.heap.size + 1) := fun z hz ty => by
    have hz2 : z = ((l.length + 1 - i : Nat) : Int) := by omega
    have hsum : i + (l.length + 1 - i) = l.length + 1 := by omega
    have hle := grownCap_ge w (l.length + 1) l.length 25
    have h := Lib.run_append_grow_zeros (P := Try.prog) w 85 3 ty 25 i0 z0 .i64 .i64 Try.underlying85 Try.underlying3 hi0 hz0 (some ⟨g, 0, none⟩) i l.length ((l.take i).flatMap nL) (by rw [hs0]; exact firstCells_own w.drew g l l.length cur hcur htk i (by omega) _) (l.length + 1 - i) (by omega) (by omega) (by omega) (by rw [hsum]; omega) (by rw [hb0]; omega) (by rw [hb0, hsum]; exact growslice_fits (by omega) (by omega))
    rw [hsum] at h
    refine ⟨_, _, by rw [hz2]; exact h, _, _, rfl, hle, grownCap_le_maxLen _ _ _ _ (by unfold maxLen; omega), (MapKept.heap_alloc w.drew _).1, ?_, ?_, ((Below.refl _ _).drew).alloc (Nat.le_refl _) _, by simp⟩
    · rw [Array.size_append, Array.size_append, List.size_toArray, ht2, size_zeroCells, size_zeroCells, hzs0]; omega
    · rw [Array.toList_append, Array.toList_append, List.append_assoc, List.toList_toArray, List.take_left' ht2]
  have hsrc : ∀ w1 : World, w1.heap[g]? = w.heap[g]? → ∀ j v, ((l.drop i).flatMap nL)[j]? = some v → w1.cell? ((⟨g, i, none⟩ : Addr).add j) = some v := fun w1 hw1 j v hj => by
    have h1 := flat_drop (enc := nL) (k := 1) (fun _ => rfl) l (i := i) (by omega)
    rw [Nat.mul_one] at h1
    rw [← h1, List.getElem?_drop, ← htk, List.getElem?_take] at hj
    split at hj
    · rw [add_lit, cell_of_row w1 g _ cur _ _ (hw1.trans hcur)]
      simpa using hj
    · cases hj
  have Hap := Lib.hid hap
  have Hsrc := Lib.hid hsrc
  have Hv := Lib.hid hv
  have hne2 : ¬ l.length = i := by omega
  have hne3 : ¬ (i : Int) = (l.length : Int) := by omega
  have hnc : (l.length : Int) < (l.length : Int) + 1 := by omega
  clear hap hsrc hv hown hcur htk hi0 hz0 hs0 hb0 hzs0
  go_enter Try.func47, Try.ntmps47
  go_wp2_with (refine wpList_append_ex _ rfl _ _ 85 3 rfl _ _ _ _ _ rfl rfl _ (Hap.out _ (by omega)) (fun v1 w1 h1 => Go.XR.stop (fun X hX => ?_)))
  obtain ⟨c1, cur1, rfl, hc1, hc2, hg1, hs1, ht1, hb1, hz1⟩ := h1
  refine hX.out ?_
  clear hX X
  have Hg1 := Lib.hid hg1
  have Ht1 := Lib.hid ht1
  have Hb1 := Lib.hid hb1
  clear hg1 ht1 hb1
  have hd1 : ¬ c1 = i := by omega
  have hd2 : ¬ c1 = i + 1 := by omega
  obtain ⟨nb, hnb⟩ : ∃ nb, w.heap.size = nb := ⟨_, rfl⟩
  have Hnb := Lib.hid hnb
  rw [hnb] at Hg1 hz1 hgl hvl ⊢
  have hgn : g ≠ nb := by omega
  have Hcp1 : Hid (∀ dl dc, Nat.min 1 dl = 1 → ∀ ty, ∃ w2, (Builtin.copy_ #[85, 85] ty #[.slice (some ⟨nb, i, none⟩) dl dc, .slice (some ⟨vb, 0, none⟩) 1 vc]).run Try.prog w1 = .ok (goInt (nL n).length) w2 ∧ w2.heap[nb]? = some (.cells (cur1.toList.take i ++ nL n ++ cur1.toList.drop (i + (nL n).length)).toArray 25 (0, 0)) ∧ But [nb] w1 w2) := fun dl dc hm ty =>
    copy_row w1 ty nb i _ _ ⟨vb, 0, none⟩ _ _ cur1 (nL n) Hg1.out hm.symm (fun j v hj => by
      rw [add_lit]
      cases j with
      | zero =>
        cases hj
        rw [Hb1.out.cell (by rw [Hnb.out]; exact hvl)]
        exact Hv.out
      | succ j => cases hj) (by omega) (nL_one n)
  clear hnb
  go_wp2_with (refine wpList_copy_ex _ rfl _ _ 85 85 rfl _ _ _ _ _ _ rfl rfl _ _ (Hcp1.out _ _ (by simp only [Nat.min_def]; split <;> omega)) (fun w2 h2 => Go.XR.stop (fun X hX => ?_)))
  obtain ⟨hg2, hb2⟩ := h2
  refine hX.out ?_
  clear hX X
  have Hg2 := Lib.hid hg2
  have Hb2 := Lib.hid hb2
  clear hg2 hb2
  have Hcp2 : Hid (∀ dl dc sl sc, Nat.min sl dl = l.length - i → ∀ ty, ∃ w3, (Builtin.copy_ #[85, 85] ty #[.slice (some ⟨nb, i + 1, none⟩) dl dc, .slice (some ⟨g, i, none⟩) sl sc]).run Try.prog w2.drew = .ok (goInt ((l.drop i).flatMap nL).length) w3 ∧ RetIns w (some ⟨g, 0, none⟩) l.length l.length (insAt l i n) (.returned (.slice (some ⟨nb, 0, none⟩) (l.length + 1) c1)) w3) := fun dl dc sl sc hm ty => by
    have e1 : w2.drew.heap[g]? = w.heap[g]? := (Hb2.out.block g (by omega) (by simpa using hgn)).trans (Hb1.out.block g (by rw [Hnb.out]; exact hgl))
    have hc2l : (cur1.toList.take i ++ nL n ++ cur1.toList.drop (i + (nL n).length)).length = c1 := by
      rw [List.length_append, List.length_append, List.length_take, List.length_drop, Array.length_toList, hn1]; omega
    have hcl1 : cur1.toList.length = c1 := by rw [Array.length_toList, hs1]
    have hfin := insg_cells cur1.toList l i n (by omega) (by omega) Ht1.out
    have hG2 := Hg2.out
    generalize cur1.toList.take i ++ nL n ++ cur1.toList.drop (i + (nL n).length) = cu2 at hc2l hfin hG2
    obtain ⟨w3, h1, h2, h3⟩ := copy_row w2.drew ty nb (i + 1) dl dc ⟨g, i, none⟩ sl sc _ ((l.drop i).flatMap nL) hG2 (by rw [hd, hm]) (Hsrc.out _ e1) (by rw [hd, List.size_toArray, hc2l]; omega) (flatn_one _)
    refine ⟨w3, h1, some ⟨nb, 0, none⟩, c1, by rw [insAt_length l i n (by omega)], ⟨flat1_len _ ▸ (Nat.mul_one _).symm, .inr ⟨nb, c1, _, rfl, Nat.zero_le _, h2, by rw [insAt_length l i n (by omega)]; omega, hc2, ?_, ?_⟩⟩, ?_, .inr ⟨nb, rfl, by rw [Hnb.out]; exact Nat.le_refl _, ?_⟩⟩
    · rw [List.size_toArray, List.length_append, List.length_append, List.length_take, List.length_drop, List.toList_toArray, hd, hc2l]; omega
    · rw [insAt_length l i n (by omega), Nat.mul_one, List.toList_toArray, List.toList_toArray]
      exact hfin
    · have hb : Below w.heap.size w w3 := Hb1.out.trans (((Hb2.out.drew).trans h3).below (by rw [Hnb.out]; omega) (by intro k hk; rw [List.mem_singleton] at hk; subst hk; rw [Hnb.out]; exact Nat.le_refl _))
      exact ⟨hb.os, hb.tape, hb.output, hb.size, fun k hk _ => hb.block k hk⟩
    · have := h3.size
      have h4 := Hb2.out.size
      show nb < w3.heap.size
      have h5 : w2.drew.heap.size = w2.heap.size := rfl
      omega
  go_wp2
  refine Go.XR.region_sched ((· = w2.drew)) [(0, true), (1, true), (2, true), (3, true), (4, true), (5, true), (6, true), (7, true), (8, false)] [8] Try.mixed (by kernel_rfl) (by kernel_rfl) (by kernel_rfl) ?_
  simp only [List.map_cons, List.map_nil, List.getElem?_cons_succ, List.getElem?_cons_zero]
  repeat (first | (refine Go.XR.S_light rfl rfl rfl ?_ (fun w' hS K hK => ?_) (fun K hK => ?_); rotate_left 1; (cases hS; go_step; exact hK); go_step; refine hK _ ?_; clear hK K))
  refine Go.XR.S_heavy (fun K hK => ?_)
  refine wp_copy_ex _ _ _ 85 85 rfl _ _ _ _ _ _ rfl rfl _ _ (Hcp2.out _ _ _ _ (by simp only [Nat.min_def]; split <;> omega)) ?_
  intro w3 h3
  refine hK _ _ ⟨fun h => by simp at h, ?_⟩
  clear hK K
  have Hend := Lib.hid h3
  clear h3
  repeat (first | (refine Go.XR.S_heavy (fun K hK => ?_); go_step; refine hK _ _ ⟨fun h => by simp at h, ?_⟩; clear hK K))
  refine Go.XR.S_nil ?_
  go_wp2
  go_ret
  exact Hend.out
theorem insert_any (w : World) (a : Option Addr) (c : Nat) (l : List UInt32) (hown : w.ownsRow 0 25 1 (.slice a l.length c) l.length (l.flatMap nL)) (hl : l.length < 2^40) (i : Nat) (hi : i ≤ l.length) (vb vc : Nat) (hvb : ∀ g, a = some ⟨g, 0, none⟩ → vb ≠ g) (n : UInt32) (T : TypeId) (hv : w.heap[vb]? = some (.cells #[.int .u32 (n.toNat : Int)] T (0, 0))) :
    Calls Try.prog 47 #[.slice a l.length c, .int .i64 (i : Int), .slice (some ⟨vb, 0, none⟩) 1 vc] w (RetIns w a l.length c (insAt l i n)) := by
  have hcell : w.cell? ⟨vb, 0, none⟩ = some (.int .u32 (n.toNat : Int)) := by rw [cell_of_row w vb 0 _ T _ hv]; rfl
  rcases Nat.lt_or_eq_of_le hi with h | rfl
  · have hc := owns_le hown
    cases a with
    | none => have := owns_nil hown; omega
    | some a =>
      obtain ⟨g, rfl⟩ : ∃ g, a = ⟨g, 0, none⟩ := by
        rcases hown.2 with ⟨h1, _⟩ | ⟨g', cap, cur, h1, _⟩
        · cases h1
        · injection h1 with h5; injection h5 with h6; exact ⟨g', h6⟩
      rcases Nat.lt_or_eq_of_le hc with h2 | rfl
      · exact insert_room w g c l hown hl h2 i h vb vc (hvb g rfl) n T hv
      · exact insert_grow w g l hown hl i h vb vc n hcell
  · rw [insAt_end]
    exact insert_end w a c l hown hl vb vc n hcell
end Go.Proofs.Ytnfbchhbcinloaa
