/- Walks and laws that the statements of this seat share, part 2. -/
import Derived.Lib.Overlaps
import Derived.Lib.AppendZerosOnto
import Derived.Lib.Bytealg
import Derived.Lib.Small
import Derived.Sort.Statements
import Derived.Shelf.SlSortCmp.Insertion
import Derived.Lib.BytesEntry
import Derived.Laws.BytesArg
import Derived.Sort.Grow
import Derived.Laws.IdiomRangeMap
import Derived.Shelf.SlSortCmp.WholeK
import Derived.Ground.SlsfProg
import Derived.Test.YtnfbchhbcinloaaGreatProg
import Derived.Test.YtnfbchhbcinloaaGreatQa
/- The walks over slices.Index and slices.Delete at whole numbers, and over Has. -/
namespace Go.CachePure
open Go Go.XR Go.IndexPure
def iL (s : I64) : List Value := [i64V s]
theorem iL_len (s : I64) : (iL s).length = 1 := rfl
theorem iL_one (s : I64) : ∀ v ∈ iL s, v.oneCell' = true := by
  intro v hv
  unfold iL at hv
  rw [List.mem_singleton] at hv
  subst hv; rfl
end Go.CachePure
namespace Go.Proofs.YtnfbchhbcinloaaGreat
open Go.RowKit Go.XR Go.IndexPure Go.CachePure
theorem z64_one : ∀ v ∈ (Value.int .i64 0).cells.toList, v.oneCell' = true := by
  intro v hv
  simp [Value.cells] at hv
  subst hv; rfl
/-- where a number stands first -/
def RetIndexI (w : World) (l : List I64) (s : I64) (e : Ending) (w' : World) : Prop :=
  Below w.heap.size w w' ∧ ∃ i, ∃ h : i < l.length, l[i] = s ∧ e = .returned (.int .i64 (i : Int)) ∧ ∀ j, (hj : j < l.length) → j < i → l[j] ≠ s
set_option maxHeartbeats 1000000 in
set_option maxRecDepth 100000 in
theorem indexI_any (w : World) (a : Option Addr) (c : Nat) (l : List I64) (s : I64) (hR : Row w a (l.flatMap iL)) (hl : l.length ≤ 2^40) (hm : s ∈ l) :
    Calls Tryz.prog 57 #[.slice a l.length c, i64V s] w (RetIndexI w l s) := by
  unfold i64V
  go_enter Tryz.func57, Tryz.ntmps57
  go_wp2
  go_loopg [8] l.length (fun n i wr => wr = w ∧ ∃ j : Nat, j ≤ l.length ∧ i = .int .i64 j ∧ Hid (n = l.length - j ∧ ∀ q, (hq : q < l.length) → q < j → l[q] ≠ s))
  case atStart => exact ⟨rfl, 0, by omega, rfl, rfl, fun q hq h => absurd h (by omega)⟩
  case round =>
    obtain ⟨rfl, j, hj, rfl, hn⟩ := hrel
    by_cases hlt : j < l.length
    · have hlt2 : (j : Int) < (l.length : Int) := by omega
      obtain ⟨g, o, ha, hc⟩ := hR.get (j := j) (u := i64V l[j]) (by
        have := flat_get iL_len l hlt (j := 0) (by omega)
        rw [Nat.mul_one, Nat.add_zero] at this
        rw [this]; rfl)
      unfold i64V at hc
      subst ha
      by_cases e : l[j] = s
      · have e2 : (s.1 == l[j].1) = true := by rw [e]; exact beq_self_eq_true _
        have E := Lib.hid e
        clear e
        go_wp2
        go_ret
        exact ⟨Below.refl _ _, j, hlt, E.out, rfl, hn.out.2⟩
      · have e2 : (s.1 == l[j].1) = false := by rw [beq_eq_false_iff_ne]; exact fun h => e (Subtype.ext h.symm)
        have e3 : ¬ s.1 = l[j].1 := fun h => e (Subtype.ext h.symm)
        have E := Lib.hid e
        clear e
        go_wp2
        go_roundg (l.length - (j + 1))
        case measure => have := hn.out.1; omega
        case rel =>
          refine ⟨rfl, j + 1, by omega, by go_num, rfl, fun q hq h => ?_⟩
          by_cases hqj : q = j
          · subst hqj; exact E.out
          · exact hn.out.2 q hq (by omega)
    · exfalso
      obtain ⟨q, hq, he⟩ := List.getElem_of_mem hm
      exact hn.out.2 q hq (by omega) he
def RetDelI (w : World) (B g c : Nat) (l : List I64) (e : Ending) (w' : World) : Prop :=
  e = .returned (.slice (some ⟨g, 0, none⟩) l.length c) ∧ w'.ownsRow B 3 1 (.slice (some ⟨g, 0, none⟩) l.length c) l.length (l.flatMap iL) ∧ But [g] w w'
set_option maxHeartbeats 1000000 in
set_option maxRecDepth 100000 in
theorem deleteI_any (w : World) (B g c : Nat) (l : List I64) (hown : w.ownsRow B 3 1 (.slice (some ⟨g, 0, none⟩) l.length c) l.length (l.flatMap iL)) (_hl : l.length < 2^40) (_hcm : c ≤ 9223372036854775807) (i : Nat) (hi : i < l.length) :
    Calls Tryz.prog 58 #[.slice (some ⟨g, 0, none⟩) l.length c, .int .i64 i, .int .i64 ((i : Int) + 1)] w (RetDelI w B g c (l.take i ++ l.drop (i + 1))) := by
  have hlc := owns_le hown
  have Hown := Lib.hid hown
  have hrow := Row.owned hown
  have Hrow := Lib.hid hrow
  clear hown hrow
  have hne : ¬ (i : Int) = (i : Int) + 1 := by omega
  obtain ⟨L, hL⟩ : ∃ L, l.take i ++ l.drop (i + 1) = L := ⟨_, rfl⟩
  have HLl : Hid (L.length = i + (l.length - (i + 1))) := by unfold Hid; rw [← hL, List.length_append, List.length_take, List.length_drop]; omega
  have HLf : Hid ((l.take i).flatMap iL ++ (l.drop (i + 1)).flatMap iL = L.flatMap iL) := by unfold Hid; rw [← hL, List.flatMap_append]
  rw [hL]
  clear hL
  go_enter Tryz.func58, Tryz.ntmps58
  go_wp2
  have Hd1 : Hid (((l.drop (i + 1)).flatMap iL).length = (l.length - (i + 1)) * 1) := by unfold Hid; rw [flat_len (enc := iL) (k := 1) (fun _ => rfl), List.length_drop]
  obtain ⟨ad, had, hd2⟩ : ∃ ad : Addr, (if c = i + 1 then some (⟨g, 0, none⟩ : Addr) else some ⟨g, i + 1, none⟩) = some ad ∧ ∀ j u, ((l.drop (i + 1)).flatMap iL)[j]? = some u → w.drew.cell? (ad.add j) = some u := by
    by_cases hce : c = i + 1
    · refine ⟨⟨g, 0, none⟩, by rw [if_pos hce], fun j u hj => ?_⟩
      rw [List.drop_eq_nil_of_le (by omega)] at hj
      simp at hj
    · refine ⟨⟨g, i + 1, none⟩, by rw [if_neg hce], fun j u hj => ?_⟩
      have h1 := flat_drop (enc := iL) (k := 1) (fun _ => rfl) l (i := i + 1) (by omega)
      rw [Nat.mul_one] at h1
      rw [← h1, List.getElem?_drop] at hj
      obtain ⟨_, _, he, h3⟩ := Hrow.out.get hj
      cases he
      have hadd : (⟨g, i + 1, none⟩ : Addr).add j = ⟨g, i + 1 + j, none⟩ := by unfold Addr.add; split <;> simp_all
      rw [hadd]
      rw [show 0 + (i + 1 + j) = i + 1 + j by omega] at h3
      exact h3
  have Had := Lib.hid had
  have Hd2 := Lib.hid hd2
  clear had hd2
  have Hsh : Hid (w.drew.ownsRow B 3 1 (.slice (some ⟨g, 0, none⟩) i c) i ((l.take i).flatMap iL)) := by
    have h1 := owns_shorter Hown.out (m := i) (by omega)
    rw [flat_take (enc := iL) (k := 1) (fun _ => rfl) l (by omega)] at h1
    exact h1.drew
  obtain ⟨i0, z0, hi0, hz0, hs0, hb0, hzs0⟩ := info_z (P := Tryz.prog) (t := 3) (n := 1) (b := 8) (by kernel_rfl)
  have Hi0 := Lib.hid hi0
  have Hs0 := Lib.hid hs0
  clear hi0 hz0 hs0 hb0 hzs0
  refine Go.XR.region_sched ((· = w.drew)) [(0, true), (1, true), (2, true), (3, true), (4, true), (5, true), (6, false), (7, false)] [6, 7] Tryz.mixed (by kernel_rfl) (by kernel_rfl) (by kernel_rfl) ?_
  simp only [List.map_cons, List.map_nil, List.getElem?_cons_succ, List.getElem?_cons_zero]
  repeat (first | (refine Go.XR.S_light rfl rfl rfl ?_ (fun w' hS K hK => ?_) (fun K hK => ?_); rotate_left 1; (cases hS; go_step; exact hK); go_step; refine hK _ ?_; clear hK K))
  refine Go.XR.S_heavy (fun K hK => ?_)
  refine wp_append_fits B 3 i0 1 Tryz.underlying97 Hi0.out Hs0.out g i c ((l.take i).flatMap iL) rfl Hsh.out ad (l.length - (i + 1)) (c - (i + 1)) (congrArg (fun x => Value.slice x (l.length - (i + 1)) (c - (i + 1))) Had.out) ((l.drop (i + 1)).flatMap iL) Hd1.out Hd2.out (fun u hu => ?_) (by omega) ?_
  · obtain ⟨b, _, hb⟩ := List.mem_flatMap.1 hu
    exact iL_one b u hb
  intro w2 ho2 hg2
  rw [← HLl.out, HLf.out] at ho2
  rw [← HLl.out]
  refine hK _ _ ⟨fun h => by simp at h, ?_⟩
  clear hK K
  repeat (first | (refine Go.XR.S_heavy (fun K hK => ?_); go_step; refine hK _ _ ⟨fun h => by simp at h, ?_⟩; clear hK K))
  refine Go.XR.S_nil ?_
  have hLl := HLl.out
  have hLlt : L.length < l.length := by omega
  have hcne : ¬ c = L.length := by omega
  clear HLl hLl
  have Hb2 : Hid (But [g] w w2) := (But.refl [g] w).drew.trans (But.of_grown hg2)
  obtain ⟨cur, hcur, hcs, htk⟩ : ∃ cur : Array Value, w2.heap[g]? = some (.cells cur 3 (0, 0)) ∧ cur.size = c ∧ cur.toList.take L.length = L.flatMap iL := by
    rcases ho2.2 with ⟨h1, _⟩ | ⟨g', cap, cur, h1, h2, h3, h4, h5, h6, h7⟩
    · cases h1
    · cases h1
      exact ⟨cur, h3, by rw [h6, Nat.mul_one], by rw [Nat.mul_one] at h7; exact h7⟩
  have HC2 : Hid (w2.heap[g]? = some (.cells cur 3 (0, 0))) := hcur
  have Hcs := Lib.hid hcs
  have Htk := Lib.hid htk
  have Hlen := Lib.hid ho2.1
  obtain ⟨hB, hcm2⟩ : B ≤ g ∧ c ≤ maxLen := by
    rcases ho2.2 with ⟨h1, _⟩ | ⟨g', cap, cur, h1, h2, h3, h4, h5, h6, h7⟩
    · cases h1
    · cases h1; exact ⟨h2, h5⟩
  have Hend : Hid (∀ zs : List Value, zs.length = l.length - L.length → RetDelI w B g c L (.returned (.slice (some ⟨g, 0, none⟩) L.length c)) (w2.setRow g (cur.toList.take L.length ++ (zs ++ cur.toList.drop (L.length + (l.length - L.length)))).toArray)) := fun zs hz => by
    refine ⟨rfl, ⟨Hlen.out, .inr ⟨g, c, _, rfl, hB, setRow_heap w2 g _ _ _ _ HC2.out, by omega, hcm2, ?_, ?_⟩⟩, Hb2.out.trans ((But.refl [g] w2).setRow (.inl (by simp)) _)⟩
    · have := Hcs.out
      simp [hz]; omega
    · have e : (cur.toList.take L.length).length = L.length := by
        have e1 : cur.toList.length = cur.size := Array.length_toList
        have e2 := Hcs.out
        rw [List.length_take]; omega
      rw [Nat.mul_one]
      show (cur.toList.take L.length ++ (zs ++ cur.toList.drop (L.length + (l.length - L.length)))).take L.length = _
      rw [List.take_left' e, Htk.out]
  have Hc0 : Hid (l.length - L.length ≠ 0) := by unfold Hid; omega
  clear hcur hcs htk ho2 hg2 hB hcm2
  go_wp2_with (refine wpList_clear_t rfl _ 97 3 rfl g L.length (l.length - L.length) _ rfl Tryz.underlying97 (.int .i64 0) (Tryz.zeroValue3 _) z64_one 3 cur HC2.out (by have := Hcs.out; show L.length + (l.length - L.length) * 1 ≤ cur.size; omega) Hc0.out ?_)
  all_goals go_ret
  · have h1 := Hend.out (Builtin.zeroCells #[Value.int .i64 0] (l.length - L.length)).toList (by rw [zeros_length]; show (l.length - L.length) * 1 = _; omega)
    rw [h] at h1
    exact h1
  · exact Hend.out (Builtin.zeroCells #[Value.int .i64 0] (l.length - L.length)).toList (by rw [zeros_length]; show (l.length - L.length) * 1 = _; omega)
set_option maxHeartbeats 1000000 in
set_option maxRecDepth 100000 in
theorem has_any (w : World) (p tb room n cap : Nat) (a : Option Addr) (T : List (I64 × Nat)) (hB : Blk w p [.int .i64 room, .slice a n cap, .map (some tb)]) (hG : GM i64V mapV w tb T) (s : I64) :
    Calls Tryz.prog 56 #[.pointer (some ⟨p, 0, none⟩), i64V s] w fun e w' => e = .returned (.bool (aget T s).isSome) ∧ w' = w := by
  have c2 := hB.cell (i := 2) rfl
  have HG := Lib.hid hG
  clear hB hG
  obtain ⟨v, hv⟩ : ∃ v, ((aget T s).map mapV).getD (.map none) = v := ⟨_, rfl⟩
  obtain ⟨b, hb⟩ : ∃ b, (aget T s).isSome = b := ⟨_, rfl⟩
  have Hv := Lib.hid hv
  have Hb := Lib.hid hb
  rw [hb]
  clear hv hb
  go_enter Tryz.func56, Tryz.ntmps56
  go_wp2_with (first | (refine wpList_plain rfl (fun K hK => ?_); refine Go.XR.wp_gm_lookup_ok (.tmp 13) (.tmp 14) 96 rfl keysI64 Tryz.underlying96 (.map none) (fun w => Tryz.zeroValue100 w) s v b rfl rfl HG.out Hv.out Hb.out ?_; refine hK _ _ ?_; clear hK K) | fail)
  go_ret
  exact ⟨rfl, rfl⟩
end Go.Proofs.YtnfbchhbcinloaaGreat

/- The walk over slices.Insert of one number. -/
namespace Go.Proofs.YtnfbchhbcinloaaGreat
open Go.RowKit Go.XR Go.IndexPure
theorem wp_copy_run {P : Program} (w : World) {o : Oper} {a : Act} {K : Act → World → Prop} {Q : Exit → Act → World → Prop} (d s : Operand) (t t' : TypeId)
    (ho : o.op = .call { callee := .builtin .copy, args := #[d, s], argTypes := #[t, t'] }) (v u : Value) (hd : a.eval d = v) (hs : a.eval s = u) {v' : Value} {w' : World}
    (hr : (Builtin.copy_ #[t, t'] o.type #[v, u]).run P w = .ok v' w') (h : K (a.put o.dst v') w') : o.wp P a w K Q := by
  unfold Oper.wp execOp
  simp only [ho, resolve, invoke, builtin, Sem.run_bind, Sem.run_pure, Result.andThen_ok, List.map_toArray, List.map_cons, List.map_nil, hd, hs, hr]
  exact h
theorem wpList_copy_run {P : Program} (w : World) {ops : Array Oper} {rest : List Oper} {o : Oper} {a : Act} {Q : Exit → Act → World → Prop} (hgd : o.guard = none) (d s : Operand) (t t' : TypeId)
    (ho : o.op = .call { callee := .builtin .copy, args := #[d, s], argTypes := #[t, t'] }) (v u : Value) (hd : a.eval d = v) (hs : a.eval s = u) {v' : Value} {w' : World}
    (hr : (Builtin.copy_ #[t, t'] o.type #[v, u]).run P w = .ok v' w') (h : wpList P ops Q rest (a.put o.dst v') w') : wpList P ops Q (o :: rest) a w :=
  wpList_plain hgd fun _ hK => wp_copy_run w d s t t' ho v u hd hs hr (hK _ _ h)
theorem wp_copy_ex {P : Program} (w : World) {o : Oper} {a : Act} {K : Act → World → Prop} {Q : Exit → Act → World → Prop} (d s : Operand) (t t' : TypeId)
    (ho : o.op = .call { callee := .builtin .copy, args := #[d, s], argTypes := #[t, t'] }) (A B : Option Addr) (dl dc sl sc : Nat) (hd : a.eval d = .slice A dl dc) (hs : a.eval s = .slice B sl sc) (v' : Value) (R : World → Prop)
    (hr : ∀ ty, ∃ w', (Builtin.copy_ #[t, t'] ty #[.slice A dl dc, .slice B sl sc]).run P w = .ok v' w' ∧ R w') (h : ∀ w', R w' → K (a.put o.dst v') w') : o.wp P a w K Q := by
  obtain ⟨w', h1, h2⟩ := hr o.type
  exact wp_copy_run w d s t t' ho _ _ hd hs h1 (h w' h2)
theorem wpList_copy_ex {P : Program} (w : World) {ops : Array Oper} {rest : List Oper} {o : Oper} {a : Act} {Q : Exit → Act → World → Prop} (hgd : o.guard = none) (d s : Operand) (t t' : TypeId)
    (ho : o.op = .call { callee := .builtin .copy, args := #[d, s], argTypes := #[t, t'] }) (A B : Option Addr) (dl dc sl sc : Nat) (hd : a.eval d = .slice A dl dc) (hs : a.eval s = .slice B sl sc) (v' : Value) (R : World → Prop)
    (hr : ∀ ty, ∃ w', (Builtin.copy_ #[t, t'] ty #[.slice A dl dc, .slice B sl sc]).run P w = .ok v' w' ∧ R w') (h : ∀ w', R w' → wpList P ops Q rest (a.put o.dst v') w') : wpList P ops Q (o :: rest) a w :=
  wpList_plain hgd fun _ hK => wp_copy_ex w d s t t' ho A B dl dc sl sc hd hs v' R hr fun w' hw => hK _ _ (h w' hw)
/-- what an insertion makes -/
def insAt (l : List UInt32) (i : Nat) (n : UInt32) : List UInt32 := l.take i ++ n :: l.drop i
theorem insAt_length (l : List UInt32) (i : Nat) (n : UInt32) (h : i ≤ l.length) : (insAt l i n).length = l.length + 1 := by
  unfold insAt; rw [List.length_append, List.length_cons, List.length_take, List.length_drop]; omega
theorem insAt_end (l : List UInt32) (n : UInt32) : insAt l l.length n = l ++ [n] := by unfold insAt; rw [List.take_length, List.drop_length]
def insC (l : List UInt32) (i : Nat) (n : UInt32) : List Value := (l.take i).flatMap nL ++ nL n ++ (l.drop i).flatMap nL
theorem insC_eq (l : List UInt32) (i : Nat) (n : UInt32) : insC l i n = (insAt l i n).flatMap nL := by
  unfold insC insAt; rw [List.flatMap_append, List.flatMap_cons, List.append_assoc]
def RetIns (w : World) (a : Option Addr) (n c : Nat) (L : List UInt32) (e : Ending) (w' : World) : Prop :=
  ∃ a' c', e = .returned (.slice a' L.length c') ∧ w'.ownsRow 0 27 1 (.slice a' L.length c') L.length (L.flatMap nL) ∧ w.grownBy w' (Value.ownBlock (.slice a n c)) ∧ SameOrNew w w' a a'
theorem add_lit (g o j : Nat) : (⟨g, o, none⟩ : Addr).add j = ⟨g, o + j, none⟩ := by unfold Addr.add; split <;> simp_all
theorem flat1_len (l : List UInt32) : (l.flatMap nL).length = l.length := by rw [flat_len (enc := nL) (k := 1) (fun _ => rfl), Nat.mul_one]
/-- the cells of a row, two copies later: room -/
theorem ins_cells (cur : List Value) (l : List UInt32) (i : Nat) (n : UInt32) (hi : i ≤ l.length) (hc : l.length + 1 ≤ cur.length) (ht : cur.take l.length = l.flatMap nL) :
    (((cur.take (i + 1) ++ (l.drop i).flatMap nL ++ cur.drop (i + 1 + ((l.drop i).flatMap nL).length)).take i ++ nL n ++ (cur.take (i + 1) ++ (l.drop i).flatMap nL ++ cur.drop (i + 1 + ((l.drop i).flatMap nL).length)).drop (i + 1))).take (l.length + 1) = (insAt l i n).flatMap nL := by
  have hd : ((l.drop i).flatMap nL).length = l.length - i := by rw [flat1_len, List.length_drop]
  have h1 : (cur.take (i + 1) ++ (l.drop i).flatMap nL ++ cur.drop (i + 1 + ((l.drop i).flatMap nL).length)).take i = (l.take i).flatMap nL := by
    rw [List.append_assoc, List.take_append_of_le_length (by rw [List.length_take]; omega), List.take_take, Nat.min_eq_left (by omega)]
    have h2 := flat_take (enc := nL) (k := 1) (fun _ => rfl) l hi
    rw [Nat.mul_one, ← ht, List.take_take, Nat.min_eq_left hi] at h2
    exact h2
  have h3 : (cur.take (i + 1) ++ (l.drop i).flatMap nL ++ cur.drop (i + 1 + ((l.drop i).flatMap nL).length)).drop (i + 1) = (l.drop i).flatMap nL ++ cur.drop (i + 1 + ((l.drop i).flatMap nL).length) := by
    rw [List.append_assoc, List.drop_left' (by rw [List.length_take]; omega)]
  rw [h1, h3, ← insC_eq]
  unfold insC
  have ht2 : ((l.take i).flatMap nL).length = i := by rw [flat1_len, List.length_take]; omega
  have hn1 : (nL n).length = 1 := rfl
  rw [← List.append_assoc, List.take_left' (by rw [List.length_append, List.length_append, ht2, hn1, hd]; omega)]
theorem copy_row (w : World) (ty : TypeId) (g o dLen dCap : Nat) (a : Addr) (sLen sCap : Nat) (cur : Array Value) (cs : List Value)
    (hg : w.heap[g]? = some (.cells cur 27 (0, 0))) (hn : cs.length = Nat.min sLen dLen)
    (hsrc : ∀ j v, cs[j]? = some v → w.cell? (a.add j) = some v) (hfit : o + cs.length ≤ cur.size) (h1 : ∀ v ∈ cs, v.oneCell' = true) :
    ∃ w', (Builtin.copy_ #[109, 109] ty #[.slice (some ⟨g, o, none⟩) dLen dCap, .slice (some a) sLen sCap]).run Tryz.prog w = .ok (goInt cs.length) w' ∧ w'.heap[g]? = some (.cells (cur.toList.take o ++ cs ++ cur.toList.drop (o + cs.length)).toArray 27 (0, 0)) ∧ But [g] w w' :=
  ⟨_, run_copy_row (P := Tryz.prog) w 109 109 ty 27 g o dLen dCap a sLen sCap cur 27 cs Tryz.underlying109 (by kernel_rfl) hg hn hsrc hfit h1, setRow_heap w g cur _ _ _ hg, (But.refl [g] w).setRow (.inl (by simp)) _⟩
theorem flatn_one (l : List UInt32) : ∀ v ∈ l.flatMap nL, v.oneCell' = true := fun u hu => by
  obtain ⟨b, _, hb⟩ := List.mem_flatMap.1 hu
  exact nL_one b u hb
set_option maxHeartbeats 1000000 in
set_option maxRecDepth 100000 in
theorem insert_end (w : World) (a : Option Addr) (c : Nat) (l : List UInt32) (hown : w.ownsRow 0 27 1 (.slice a l.length c) l.length (l.flatMap nL)) (hl : l.length < 2^40) (vb vc : Nat) (n : UInt32) (hv : w.cell? ⟨vb, 0, none⟩ = some (.int .u32 (n.toNat : Int))) :
    Calls Tryz.prog 62 #[.slice a l.length c, .int .i64 (l.length : Int), .slice (some ⟨vb, 0, none⟩) 1 vc] w (RetIns w a l.length c (l ++ [n])) := by
  have Hown := Lib.hid hown
  have Hv : Hid (Row w (some ⟨vb, 0, none⟩) ([n].flatMap nL)) := by
    refine .inr ⟨vb, 0, rfl, fun j u hj => ?_⟩
    cases j with
    | zero => cases hj; exact hv
    | succ j => cases hj
  clear hown hv
  obtain ⟨L, hL⟩ : ∃ L, l ++ [n] = L := ⟨_, rfl⟩
  rw [hL]
  go_enter Tryz.func62, Tryz.ntmps62
  go_wp2_with (at_builtin; refine Go.XR.stop (fun X hX => ?_))
  refine hX.out ?_
  clear hX X
  refine wpList_plain rfl (fun K hK => ?_)
  refine append_enc2 (P := Tryz.prog) nL 1 4 (fun _ => rfl) nL_one 27 Tryz.underlying109 (by kernel_rfl) (by decide) 0 a c l rfl Hown.out vb 0 vc [n] rfl Hv.out (by simp; omega) (by unfold maxLen; simp; omega) (Nat.zero_le _) ?_
  intro a3 c3 w3 ho3 hg3 hn3
  rw [hL] at ho3 ⊢
  have Hend : Hid (RetIns w a l.length c L (.returned (.slice a3 L.length c3)) w3) := ⟨a3, c3, rfl, ho3, hg3, hn3⟩
  clear ho3 hg3 hn3
  go_wp2
  all_goals go_ret
  · have h1 := Hend.out
    rw [h] at h1
    exact h1
  · exact Hend.out
theorem shape_of (w : World) (b : Nat) (cs : Array Value) (T : TypeId) (h : w.heap[b]? = some (.cells cs T (0, 0))) : w.shape? b = some (T, cs.size) := by simp [World.shape?, h]
set_option maxHeartbeats 1000000 in
set_option maxRecDepth 100000 in
theorem insert_room (w : World) (g c : Nat) (l : List UInt32) (hown : w.ownsRow 0 27 1 (.slice (some ⟨g, 0, none⟩) l.length c) l.length (l.flatMap nL)) (hl : l.length < 2^40) (hc : l.length < c) (i : Nat) (hi : i < l.length) (vb vc : Nat) (hvb : vb ≠ g) (n : UInt32) (T : TypeId) (hv : w.heap[vb]? = some (.cells #[.int .u32 (n.toNat : Int)] T (0, 0))) :
    Calls Tryz.prog 62 #[.slice (some ⟨g, 0, none⟩) l.length c, .int .i64 (i : Int), .slice (some ⟨vb, 0, none⟩) 1 vc] w (RetIns w (some ⟨g, 0, none⟩) l.length c (insAt l i n)) := by
  obtain ⟨cur, hcur, hcs, htk, hcm⟩ : ∃ cur : Array Value, w.heap[g]? = some (.cells cur 27 (0, 0)) ∧ cur.size = c ∧ cur.toList.take l.length = l.flatMap nL ∧ c ≤ maxLen := by
    rcases hown.2 with ⟨h1, _⟩ | ⟨g', cap, cur, h1, h2, h3, h4, h5, h6, h7⟩
    · cases h1
    · cases h1
      exact ⟨cur, h3, by rw [h6, Nat.mul_one], by rw [Nat.mul_one] at h7; exact h7, h5⟩
  have hcl : cur.toList.length = c := by rw [Array.length_toList, hcs]
  have hmx : c ≤ 9223372036854775807 := by unfold maxLen at hcm; omega
  have hov : ∀ lb cb, (callFunc 78 #[.slice (some ⟨vb, 0, none⟩) 1 vc, .slice (some ⟨g, i + 1, none⟩) lb cb]).run Tryz.prog w = .ok (.value (.bool false)) w := fun lb cb => by
    rw [run_callFunc_extern Tryz.func78 (by kernel_rfl) (by kernel_rfl) (by kernel_rfl) (e := Extern.SlicesOverlaps.overlaps #[109, 109] #[4]) (by kernel_rfl),
      Lib.run_overlaps_apart w 109 4 27 Tryz.underlying109 1 (fun w => run_sizeOf_eq (by kernel_rfl)) ⟨vb, 0, none⟩ ⟨g, i + 1, none⟩ 1 vc lb cb hvb T 27 1 cur.size (shape_of w vb _ _ hv) (shape_of w g _ _ hcur) (by omega) (frozen_of_row w vb 0 _ T hv) (frozen_of_row w vb 1 _ T hv)]
    rfl
  have hd : ((l.drop i).flatMap nL).length = l.length - i := by rw [flat1_len, List.length_drop]
  have hne1 : ¬ c = i + 1 := by omega
  have hne2 : ¬ c = i := by omega
  have hne3 : ¬ (i : Int) = (l.length : Int) := by omega
  have hnc : ¬ (c : Int) < (l.length : Int) + 1 := by omega
  have hsrc : ∀ j v, ((l.drop i).flatMap nL)[j]? = some v → w.drew.cell? ((⟨g, i, none⟩ : Addr).add j) = some v := fun j v hj => by
    have h1 := flat_drop (enc := nL) (k := 1) (fun _ => rfl) l (i := i) (by omega)
    rw [Nat.mul_one] at h1
    rw [← h1, List.getElem?_drop, ← htk, List.getElem?_take] at hj
    split at hj
    · rw [add_lit]
      show w.cell? _ = _
      rw [cell_of_row w g _ cur _ _ hcur]
      simpa using hj
    · cases hj
  have hcp1 : ∀ dl dc sl sc, Nat.min sl dl = l.length - i → ∀ ty, ∃ w1, (Builtin.copy_ #[109, 109] ty #[.slice (some ⟨g, i + 1, none⟩) dl dc, .slice (some ⟨g, i, none⟩) sl sc]).run Tryz.prog w.drew = .ok (goInt ((l.drop i).flatMap nL).length) w1 ∧ w1.heap[g]? = some (.cells (cur.toList.take (i + 1) ++ (l.drop i).flatMap nL ++ cur.toList.drop (i + 1 + ((l.drop i).flatMap nL).length)).toArray 27 (0, 0)) ∧ But [g] w.drew w1 := fun dl dc sl sc hm ty =>
    copy_row w.drew ty g (i + 1) _ _ ⟨g, i, none⟩ _ _ cur ((l.drop i).flatMap nL) hcur (by rw [hd, hm]) hsrc (by rw [hd]; omega) (flatn_one _)
  obtain ⟨cu2, hcu2⟩ : ∃ cu2, cur.toList.take (i + 1) ++ (l.drop i).flatMap nL ++ cur.toList.drop (i + 1 + ((l.drop i).flatMap nL).length) = cu2 := ⟨_, rfl⟩
  have hfin := ins_cells cur.toList l i n (by omega) (by omega) htk
  rw [hcu2] at hcp1 hfin
  have hl2 : cu2.length = c := by rw [← hcu2, List.length_append, List.length_append, List.length_take, List.length_drop, hd]; omega
  have hcp2 : ∀ w1, w1.heap[g]? = some (.cells cu2.toArray 27 (0, 0)) → But [g] w.drew w1 → ∀ dl dc, Nat.min 1 dl = 1 → ∀ ty, ∃ w2, (Builtin.copy_ #[109, 109] ty #[.slice (some ⟨g, i, none⟩) dl dc, .slice (some ⟨vb, 0, none⟩) 1 vc]).run Tryz.prog w1 = .ok (goInt (nL n).length) w2 ∧ w2.heap[g]? = some (.cells (cu2.toArray.toList.take i ++ nL n ++ cu2.toArray.toList.drop (i + (nL n).length)).toArray 27 (0, 0)) ∧ But [g] w1 w2 := fun w1 h1 hb1 dl dc hm ty =>
    copy_row w1 ty g i _ _ ⟨vb, 0, none⟩ _ _ cu2.toArray (nL n) h1 hm.symm (fun j v hj => by
      rw [add_lit]
      cases j with
      | zero =>
        cases hj
        have h2 : w1.heap[vb]? = _ := (hb1.block vb (Array.getElem?_eq_some_iff.1 hv).1 (by simpa using hvb)).trans hv
        rw [cell_of_row w1 vb _ _ _ _ h2]; rfl
      | succ j => cases hj) (by have : (nL n).length = 1 := rfl; rw [List.size_toArray]; omega) (nL_one n)
  have Hcur := Lib.hid hcur
  have Hcp1 := Lib.hid hcp1
  have Hcp2 := Lib.hid hcp2
  have Hend : Hid (∀ w1 w2 : World, But [g] w.drew w1 → But [g] w1 w2 → w2.heap[g]? = some (.cells (cu2.toArray.toList.take i ++ nL n ++ cu2.toArray.toList.drop (i + (nL n).length)).toArray 27 (0, 0)) → RetIns w (some ⟨g, 0, none⟩) l.length c (insAt l i n) (.returned (.slice (some ⟨g, 0, none⟩) (l.length + 1) c)) w2) := fun w1 w2 hb1 hb2 h2 => by
    have hb : But [g] w w2 := ((But.refl [g] w).drew.trans hb1).trans hb2
    have hn1 : (nL n).length = 1 := rfl
    refine ⟨some ⟨g, 0, none⟩, c, by rw [insAt_length l i n (by omega)], ⟨flat1_len _ ▸ (Nat.mul_one _).symm, .inr ⟨g, c, _, rfl, Nat.zero_le _, h2, by rw [insAt_length l i n (by omega)]; omega, hcm, ?_, ?_⟩⟩, ⟨hb.os, hb.tape, hb.output, hb.size, fun k hk hne => hb.block k hk (fun hm => hne (by rw [List.mem_singleton] at hm; subst hm; rfl))⟩, .inl rfl⟩
    · rw [List.size_toArray, List.length_append, List.length_append, List.length_take, List.length_drop, List.toList_toArray, hn1]; omega
    · rw [insAt_length l i n (by omega), Nat.mul_one]
      show ((cu2.toArray.toList.take i ++ nL n ++ cu2.toArray.toList.drop (i + (nL n).length))).take (l.length + 1) = _
      rw [List.toList_toArray, hn1]
      exact hfin
  clear hcur hcp1 hcp2 hfin hcu2 hl2 hsrc hd htk hcl hcs hown hv hcm
  go_enter Tryz.func62, Tryz.ntmps62
  go_wp2_with (simp only [hov])
  refine Go.XR.region_sched ((· = w.drew)) [(0, true), (1, true), (2, true), (3, true), (4, true), (5, true), (6, true), (7, true), (8, false)] [8] Tryz.mixed (by kernel_rfl) (by kernel_rfl) (by kernel_rfl) ?_
  simp only [List.map_cons, List.map_nil, List.getElem?_cons_succ, List.getElem?_cons_zero]
  repeat (first | (refine Go.XR.S_light rfl rfl rfl ?_ (fun w' hS K hK => ?_) (fun K hK => ?_); rotate_left 1; (cases hS; go_step; exact hK); go_step; refine hK _ ?_; clear hK K))
  refine Go.XR.S_heavy (fun K hK => ?_)
  refine wp_copy_ex _ _ _ 109 109 rfl _ _ _ _ _ _ rfl rfl _ _ (Hcp1.out _ _ _ _ (by simp only [Nat.min_def]; split <;> omega)) ?_
  rintro w1 ⟨hg1, hb1⟩
  refine hK _ _ ⟨fun h => by simp at h, ?_⟩
  clear hK K
  have Hb1 := Lib.hid hb1
  have Hg1 := Lib.hid hg1
  clear hb1 hg1
  repeat (first | (refine Go.XR.S_heavy (fun K hK => ?_); go_step; refine hK _ _ ⟨fun h => by simp at h, ?_⟩; clear hK K))
  refine Go.XR.S_nil ?_
  go_wp2_with (refine wpList_copy_ex _ rfl _ _ 109 109 rfl _ _ _ _ _ _ rfl rfl _ _ (Hcp2.out w1 Hg1.out Hb1.out _ _ (by simp only [Nat.min_def]; split <;> omega)) (fun w2 h2 => Go.XR.stop (fun X hX => ?_)))
  obtain ⟨hg2, hb2⟩ := h2
  refine hX.out ?_
  clear hX X
  have Hfin := Lib.hid (Hend.out w1 w2 Hb1.out hb2 hg2)
  clear hg2 hb2
  go_wp2
  go_ret
  exact Hfin.out
theorem wpList_append_ex {P : Program} (w : World) {ops : Array Oper} {rest : List Oper} {o : Oper} {a : Act} {Q : Exit → Act → World → Prop} (hgd : o.guard = none) (d s : Operand) (t t' : TypeId)
    (ho : o.op = .call { callee := .builtin .append, args := #[d, s], argTypes := #[t, t'] }) (A : Option Addr) (dl dc : Nat) (k : IntKind) (z : Int) (hd : a.eval d = .slice A dl dc) (hs : a.eval s = .int k z) (R : Value → World → Prop)
    (hr : ∀ ty, ∃ v' w', (Builtin.append_ #[t, t'] ty #[.slice A dl dc, .int k z]).run P w = .ok v' w' ∧ R v' w') (h : ∀ v' w', R v' w' → wpList P ops Q rest (a.put o.dst v') w') : wpList P ops Q (o :: rest) a w := by
  obtain ⟨v', w', h1, h2⟩ := hr o.type
  exact wpList_plain hgd fun _ hK => Lib.wp_append_run w d s t t' ho _ _ hd hs v' w' h1 (hK _ _ (h v' w' h2))
theorem firstCells_own (w : World) (g : Nat) (l : List UInt32) (_c : Nat) (cur : Array Value) (hcur : w.heap[g]? = some (.cells cur 27 (0, 0))) (htk : cur.toList.take l.length = l.flatMap nL) (i : Nat) (hi : i ≤ l.length) (c2 : Nat) :
    (Builtin.firstCells 1 i (.slice (some ⟨g, 0, none⟩) i c2)).run Tryz.prog w = .ok ((l.take i).flatMap nL).toArray w := by
  refine run_firstCells_some w 1 i ⟨g, 0, none⟩ i c2 ((l.take i).flatMap nL) (by rw [flat1_len, List.length_take]; omega) (fun j v hj => ?_)
  have h2 := flat_take (enc := nL) (k := 1) (fun _ => rfl) l hi
  rw [Nat.mul_one, ← htk, List.take_take, Nat.min_eq_left hi] at h2
  rw [← h2, List.getElem?_take] at hj
  split at hj
  · rw [add_lit, Nat.zero_add, cell_of_row w g _ cur _ _ hcur]
    simpa using hj
  · cases hj
theorem insg_cells (cur : List Value) (l : List UInt32) (i : Nat) (n : UInt32) (hi : i ≤ l.length) (hc : l.length + 1 ≤ cur.length) (ht : cur.take i = (l.take i).flatMap nL) :
    ((cur.take i ++ nL n ++ cur.drop (i + (nL n).length)).take (i + 1) ++ (l.drop i).flatMap nL ++ (cur.take i ++ nL n ++ cur.drop (i + (nL n).length)).drop (i + 1 + ((l.drop i).flatMap nL).length)).take (l.length + 1) = (insAt l i n).flatMap nL := by
  have hd : ((l.drop i).flatMap nL).length = l.length - i := by rw [flat1_len, List.length_drop]
  have hn1 : (nL n).length = 1 := rfl
  have h1 : (cur.take i ++ nL n ++ cur.drop (i + (nL n).length)).take (i + 1) = cur.take i ++ nL n := List.take_left' (by rw [List.length_append, List.length_take, hn1]; omega)
  rw [h1, ht, ← insC_eq]
  unfold insC
  have ht2 : ((l.take i).flatMap nL).length = i := by rw [flat1_len, List.length_take]; omega
  rw [List.take_left' (by rw [List.length_append, List.length_append, ht2, hn1, hd]; omega)]
set_option maxHeartbeats 1000000 in
set_option maxRecDepth 100000 in
theorem insert_grow (w : World) (g : Nat) (l : List UInt32) (hown : w.ownsRow 0 27 1 (.slice (some ⟨g, 0, none⟩) l.length l.length) l.length (l.flatMap nL)) (hl : l.length < 2^40) (i : Nat) (hi : i < l.length) (vb vc : Nat) (n : UInt32) (hv : w.cell? ⟨vb, 0, none⟩ = some (.int .u32 (n.toNat : Int))) :
    Calls Tryz.prog 62 #[.slice (some ⟨g, 0, none⟩) l.length l.length, .int .i64 (i : Int), .slice (some ⟨vb, 0, none⟩) 1 vc] w (RetIns w (some ⟨g, 0, none⟩) l.length l.length (insAt l i n)) := by
  obtain ⟨cur, hcur, htk⟩ : ∃ cur : Array Value, w.heap[g]? = some (.cells cur 27 (0, 0)) ∧ cur.toList.take l.length = l.flatMap nL := by
    rcases hown.2 with ⟨h1, _⟩ | ⟨g', cap, cur, h1, h2, h3, h4, h5, h6, h7⟩
    · cases h1
    · cases h1
      exact ⟨cur, h3, by rw [Nat.mul_one] at h7; exact h7⟩
  have hgl : g < w.heap.size := (Array.getElem?_eq_some_iff.1 hcur).1
  have hvl : vb < w.heap.size := cell_lt hv
  have hn1 : (nL n).length = 1 := rfl
  have hd : ((l.drop i).flatMap nL).length = l.length - i := by rw [flat1_len, List.length_drop]
  have ht2 : ((l.take i).flatMap nL).length = i := by rw [flat1_len, List.length_take]; omega
  obtain ⟨i0, z0, hi0, hz0, hs0, hb0, hzs0⟩ := info_z (P := Tryz.prog) (t := 27) (n := 1) (b := 4) (by kernel_rfl)
  have hap : ∀ z : Int, z = (l.length : Int) + 1 - i → ∀ ty, ∃ v' w', (Builtin.append_ #[109, 3] ty #[.slice (some ⟨g, 0, none⟩) i l.length, .int .i64 z]).run Tryz.prog w = .ok v' w' ∧
      (∃ c1 cur1, v' = .slice (some ⟨w.heap.size, 0, none⟩) (l.length + 1) c1 ∧ l.length + 1 ≤ c1 ∧ c1 ≤ maxLen ∧ w'.heap[w.heap.size]? = some (.cells cur1 27 (0, 0)) ∧ cur1.size = c1 ∧ cur1.toList.take i = (l.take i).flatMap nL ∧ Below w.heap.size w w' ∧ w'.heap.size = w.heap.size + 1) := fun z hz ty => by
    have hz2 : z = ((l.length + 1 - i : Nat) : Int) := by omega
    have hsum : i + (l.length + 1 - i) = l.length + 1 := by omega
    have hle := grownCap_ge w (l.length + 1) l.length 27
    have h := Lib.run_append_grow_zeros (P := Tryz.prog) w 109 3 ty 27 i0 z0 .i64 .i64 Tryz.underlying109 Tryz.underlying3 hi0 hz0 (some ⟨g, 0, none⟩) i l.length ((l.take i).flatMap nL) (by rw [hs0]; exact firstCells_own w.drew g l l.length cur hcur htk i (by omega) _) (l.length + 1 - i) (by omega) (by omega) (by omega) (by rw [hsum]; omega) (by rw [hb0]; omega) (by rw [hb0, hsum]; exact growslice_fits (by omega) (by omega))
    rw [hsum] at h
    refine ⟨_, _, by rw [hz2]; exact h, _, _, rfl, hle, grownCap_le_maxLen _ _ _ _ (by unfold maxLen; omega), (MapKept.heap_alloc w.drew _).1, ?_, ?_, ((Below.refl _ _).drew).alloc (Nat.le_refl _) _, by simp⟩
    · rw [Array.size_append, Array.size_append, List.size_toArray, ht2, size_zeroCells, size_zeroCells, hzs0]; omega
    · rw [Array.toList_append, Array.toList_append, List.append_assoc, List.toList_toArray, List.take_left' ht2]
  have hsrc : ∀ w1 : World, w1.heap[g]? = w.heap[g]? → ∀ j v, ((l.drop i).flatMap nL)[j]? = some v → w1.cell? ((⟨g, i, none⟩ : Addr).add j) = some v := fun w1 hw1 j v hj => by
    have h1 := flat_drop (enc := nL) (k := 1) (fun _ => rfl) l (i := i) (by omega)
    rw [Nat.mul_one] at h1
    rw [← h1, List.getElem?_drop, ← htk, List.getElem?_take] at hj
    split at hj
    · rw [add_lit, cell_of_row w1 g _ cur _ _ (hw1.trans hcur)]
      simpa using hj
    · cases hj
  have Hap := Lib.hid hap
  have Hsrc := Lib.hid hsrc
  have Hv := Lib.hid hv
  have hne2 : ¬ l.length = i := by omega
  have hne3 : ¬ (i : Int) = (l.length : Int) := by omega
  have hnc : (l.length : Int) < (l.length : Int) + 1 := by omega
  clear hap hsrc hv hown hcur htk hi0 hz0 hs0 hb0 hzs0
  go_enter Tryz.func62, Tryz.ntmps62
  go_wp2_with (refine wpList_append_ex _ rfl _ _ 109 3 rfl _ _ _ _ _ rfl rfl _ (Hap.out _ (by omega)) (fun v1 w1 h1 => Go.XR.stop (fun X hX => ?_)))
  obtain ⟨c1, cur1, rfl, hc1, hc2, hg1, hs1, ht1, hb1, hz1⟩ := h1
  refine hX.out ?_
  clear hX X
  have Hg1 := Lib.hid hg1
  have Ht1 := Lib.hid ht1
  have Hb1 := Lib.hid hb1
  clear hg1 ht1 hb1
  have hd1 : ¬ c1 = i := by omega
  have hd2 : ¬ c1 = i + 1 := by omega
  obtain ⟨nb, hnb⟩ : ∃ nb, w.heap.size = nb := ⟨_, rfl⟩
  have Hnb := Lib.hid hnb
  rw [hnb] at Hg1 hz1 hgl hvl ⊢
  have hgn : g ≠ nb := by omega
  have Hcp1 : Hid (∀ dl dc, Nat.min 1 dl = 1 → ∀ ty, ∃ w2, (Builtin.copy_ #[109, 109] ty #[.slice (some ⟨nb, i, none⟩) dl dc, .slice (some ⟨vb, 0, none⟩) 1 vc]).run Tryz.prog w1 = .ok (goInt (nL n).length) w2 ∧ w2.heap[nb]? = some (.cells (cur1.toList.take i ++ nL n ++ cur1.toList.drop (i + (nL n).length)).toArray 27 (0, 0)) ∧ But [nb] w1 w2) := fun dl dc hm ty =>
    copy_row w1 ty nb i _ _ ⟨vb, 0, none⟩ _ _ cur1 (nL n) Hg1.out hm.symm (fun j v hj => by
      rw [add_lit]
      cases j with
      | zero =>
        cases hj
        rw [Hb1.out.cell (by rw [Hnb.out]; exact hvl)]
        exact Hv.out
      | succ j => cases hj) (by omega) (nL_one n)
  clear hnb
  go_wp2_with (refine wpList_copy_ex _ rfl _ _ 109 109 rfl _ _ _ _ _ _ rfl rfl _ _ (Hcp1.out _ _ (by simp only [Nat.min_def]; split <;> omega)) (fun w2 h2 => Go.XR.stop (fun X hX => ?_)))
  obtain ⟨hg2, hb2⟩ := h2
  refine hX.out ?_
  clear hX X
  have Hg2 := Lib.hid hg2
  have Hb2 := Lib.hid hb2
  clear hg2 hb2
  have Hcp2 : Hid (∀ dl dc sl sc, Nat.min sl dl = l.length - i → ∀ ty, ∃ w3, (Builtin.copy_ #[109, 109] ty #[.slice (some ⟨nb, i + 1, none⟩) dl dc, .slice (some ⟨g, i, none⟩) sl sc]).run Tryz.prog w2.drew = .ok (goInt ((l.drop i).flatMap nL).length) w3 ∧ RetIns w (some ⟨g, 0, none⟩) l.length l.length (insAt l i n) (.returned (.slice (some ⟨nb, 0, none⟩) (l.length + 1) c1)) w3) := fun dl dc sl sc hm ty => by
    have e1 : w2.drew.heap[g]? = w.heap[g]? := (Hb2.out.block g (by omega) (by simpa using hgn)).trans (Hb1.out.block g (by rw [Hnb.out]; exact hgl))
    have hc2l : (cur1.toList.take i ++ nL n ++ cur1.toList.drop (i + (nL n).length)).length = c1 := by
      rw [List.length_append, List.length_append, List.length_take, List.length_drop, Array.length_toList, hn1]; omega
    have hcl1 : cur1.toList.length = c1 := by rw [Array.length_toList, hs1]
    have hfin := insg_cells cur1.toList l i n (by omega) (by omega) Ht1.out
    have hG2 := Hg2.out
    generalize cur1.toList.take i ++ nL n ++ cur1.toList.drop (i + (nL n).length) = cu2 at hc2l hfin hG2
    obtain ⟨w3, h1, h2, h3⟩ := copy_row w2.drew ty nb (i + 1) dl dc ⟨g, i, none⟩ sl sc _ ((l.drop i).flatMap nL) hG2 (by rw [hd, hm]) (Hsrc.out _ e1) (by rw [hd, List.size_toArray, hc2l]; omega) (flatn_one _)
    refine ⟨w3, h1, some ⟨nb, 0, none⟩, c1, by rw [insAt_length l i n (by omega)], ⟨flat1_len _ ▸ (Nat.mul_one _).symm, .inr ⟨nb, c1, _, rfl, Nat.zero_le _, h2, by rw [insAt_length l i n (by omega)]; omega, hc2, ?_, ?_⟩⟩, ?_, .inr ⟨nb, rfl, by rw [Hnb.out]; exact Nat.le_refl _, ?_⟩⟩
    · rw [List.size_toArray, List.length_append, List.length_append, List.length_take, List.length_drop, List.toList_toArray, hd, hc2l]; omega
    · rw [insAt_length l i n (by omega), Nat.mul_one, List.toList_toArray, List.toList_toArray]
      exact hfin
    · have hb : Below w.heap.size w w3 := Hb1.out.trans (((Hb2.out.drew).trans h3).below (by rw [Hnb.out]; omega) (by intro k hk; rw [List.mem_singleton] at hk; subst hk; rw [Hnb.out]; exact Nat.le_refl _))
      exact ⟨hb.os, hb.tape, hb.output, hb.size, fun k hk _ => hb.block k hk⟩
    · have := h3.size
      have h4 := Hb2.out.size
      show nb < w3.heap.size
      have h5 : w2.drew.heap.size = w2.heap.size := rfl
      omega
  go_wp2
  refine Go.XR.region_sched ((· = w2.drew)) [(0, true), (1, true), (2, true), (3, true), (4, true), (5, true), (6, true), (7, true), (8, false)] [8] Tryz.mixed (by kernel_rfl) (by kernel_rfl) (by kernel_rfl) ?_
  simp only [List.map_cons, List.map_nil, List.getElem?_cons_succ, List.getElem?_cons_zero]
  repeat (first | (refine Go.XR.S_light rfl rfl rfl ?_ (fun w' hS K hK => ?_) (fun K hK => ?_); rotate_left 1; (cases hS; go_step; exact hK); go_step; refine hK _ ?_; clear hK K))
  refine Go.XR.S_heavy (fun K hK => ?_)
  refine wp_copy_ex _ _ _ 109 109 rfl _ _ _ _ _ _ rfl rfl _ _ (Hcp2.out _ _ _ _ (by simp only [Nat.min_def]; split <;> omega)) ?_
  intro w3 h3
  refine hK _ _ ⟨fun h => by simp at h, ?_⟩
  clear hK K
  have Hend := Lib.hid h3
  clear h3
  repeat (first | (refine Go.XR.S_heavy (fun K hK => ?_); go_step; refine hK _ _ ⟨fun h => by simp at h, ?_⟩; clear hK K))
  refine Go.XR.S_nil ?_
  go_wp2
  go_ret
  exact Hend.out
theorem insert_any (w : World) (a : Option Addr) (c : Nat) (l : List UInt32) (hown : w.ownsRow 0 27 1 (.slice a l.length c) l.length (l.flatMap nL)) (hl : l.length < 2^40) (i : Nat) (hi : i ≤ l.length) (vb vc : Nat) (hvb : ∀ g, a = some ⟨g, 0, none⟩ → vb ≠ g) (n : UInt32) (T : TypeId) (hv : w.heap[vb]? = some (.cells #[.int .u32 (n.toNat : Int)] T (0, 0))) :
    Calls Tryz.prog 62 #[.slice a l.length c, .int .i64 (i : Int), .slice (some ⟨vb, 0, none⟩) 1 vc] w (RetIns w a l.length c (insAt l i n)) := by
  have hcell : w.cell? ⟨vb, 0, none⟩ = some (.int .u32 (n.toNat : Int)) := by rw [cell_of_row w vb 0 _ T _ hv]; rfl
  rcases Nat.lt_or_eq_of_le hi with h | rfl
  · have hc := owns_le hown
    cases a with
    | none => have := owns_nil hown; omega
    | some a =>
      obtain ⟨g, rfl⟩ : ∃ g, a = ⟨g, 0, none⟩ := by
        rcases hown.2 with ⟨h1, _⟩ | ⟨g', cap, cur, h1, _⟩
        · cases h1
        · injection h1 with h5; injection h5 with h6; exact ⟨g', h6⟩
      rcases Nat.lt_or_eq_of_le hc with h2 | rfl
      · exact insert_room w g c l hown hl h2 i h vb vc (hvb g rfl) n T hv
      · exact insert_grow w g l hown hl i h vb vc n hcell
  · rw [insAt_end]
    exact insert_end w a c l hown hl vb vc n hcell
end Go.Proofs.YtnfbchhbcinloaaGreat

/- What an index's three maps have to do with each other; what a chunk's going and coming does to that. -/
namespace Go.Proofs.YtnfbchhbcinloaaGreat
open Go.RowKit Go.XR Go.IndexPure
def PlaceOk (v : PlaceT) : Prop := (-9223372036854775808 ≤ v.shelf ∧ v.shelf ≤ 9223372036854775807) ∧ (-9223372036854775808 ≤ v.slot ∧ v.slot ≤ 9223372036854775807)
structure Coh (D : List (KeyT × PlaceT)) (T : List (SumT × NumRow)) (Sh : List (I64 × Nat)) (L : Nat → List (KeyT × Unit)) : Prop where
  nd : (D.map (·.1)).Nodup
  sorted : ∀ d, (numsOf T d).Pairwise (fun x y => x.toNat < y.toNat)
  ne : ∀ d r, aget T d = some r → r.l ≠ []
  mem : ∀ d n, n ∈ numsOf T d ↔ (aget D ⟨d, n⟩).isSome = true
  rng : ∀ k v, aget D k = some v → PlaceOk v
  sh : ∀ (s : I64) k, (∃ m, aget Sh s = some m ∧ (aget (L m) k).isSome = true) ↔ ∃ v, aget D k = some v ∧ v.shelf = s.1
  shNe : ∀ s m, aget Sh s = some m → L m ≠ []
theorem key_eta (k : KeyT) : (⟨k.sum, k.n⟩ : KeyT) = k := by cases k; rfl
section
variable {D : List (KeyT × PlaceT)} {T : List (SumT × NumRow)} {Sh : List (I64 × Nat)} {L : Nat → List (KeyT × Unit)}
theorem Coh.nums_le (h : Coh D T Sh L) (d : SumT) : (numsOf T d).length ≤ D.length := by
  have h1 : ((numsOf T d).map fun n => (⟨d, n⟩ : KeyT)).Nodup := by
    have := h.sorted d
    unfold List.Nodup
    rw [List.pairwise_map]
    exact this.imp fun {a b} hab e => by injection e with _ e2; subst e2; omega
  have h2 := h1.length_le_of_subset (l₂ := D.map (·.1)) (fun k hk => by
    obtain ⟨n, hn, rfl⟩ := List.mem_map.1 hk
    have := (h.mem d n).1 hn
    obtain ⟨v, hv⟩ := Option.isSome_iff_exists.1 this
    exact List.mem_map.2 ⟨(⟨d, n⟩, v), (aget_mem h.nd).1 hv, rfl⟩)
  simpa using h2
theorem low_at {l : List UInt32} (hs : l.Pairwise (fun x y => x.toNat < y.toNat)) {n : UInt32} {i : Nat} (h : LowAt l n i) (hm : n ∈ l) : ∃ hi : i < l.length, l[i] = n := by
  have HS := List.pairwise_iff_getElem.1 hs
  obtain ⟨q, hq, he⟩ := List.getElem_of_mem hm
  by_cases c : q < i
  · have := h.2.1 q hq c; rw [he] at this; omega
  · have hi : i < l.length := by omega
    refine ⟨hi, ?_⟩
    by_cases d : i = q
    · subst d; exact he
    · have h1 := HS i q hi hq (by omega)
      have h2 := h.2.2 i hi (Nat.le_refl _)
      rw [he] at h1; omega
theorem del_mem {l : List UInt32} (hs : l.Pairwise (fun x y => x.toNat < y.toNat)) {i : Nat} (hi : i < l.length) (x : UInt32) : x ∈ l.take i ++ l.drop (i + 1) ↔ x ∈ l ∧ x ≠ l[i] := by
  have HS := List.pairwise_iff_getElem.1 hs
  rw [← List.eraseIdx_eq_take_drop_succ, List.mem_eraseIdx_iff_getElem]
  constructor
  · rintro ⟨j, hj, hne, rfl⟩
    refine ⟨List.getElem_mem _, fun e => ?_⟩
    rcases Nat.lt_or_gt_of_ne hne with h | h
    · have := HS j i hj hi h; rw [e] at this; omega
    · have := HS i j hi hj h; rw [e] at this; omega
  · rintro ⟨hm, hne⟩
    obtain ⟨j, hj, rfl⟩ := List.getElem_of_mem hm
    exact ⟨j, hj, fun e => hne (by subst e; rfl), rfl⟩
theorem del_sorted {l : List UInt32} (hs : l.Pairwise (fun x y => x.toNat < y.toNat)) (i : Nat) : (l.take i ++ l.drop (i + 1)).Pairwise (fun x y => x.toNat < y.toNat) := by
  rw [← List.eraseIdx_eq_take_drop_succ]; exact hs.sublist (List.eraseIdx_sublist l i)
theorem ins_mem (l : List UInt32) (i : Nat) (n x : UInt32) : x ∈ insAt l i n ↔ x = n ∨ x ∈ l := by
  unfold insAt
  have : x ∈ l ↔ x ∈ l.take i ∨ x ∈ l.drop i := by rw [← List.mem_append, List.take_append_drop]
  rw [List.mem_append, List.mem_cons, this]
  constructor
  · rintro (h | h | h)
    · exact .inr (.inl h)
    · exact .inl h
    · exact .inr (.inr h)
  · rintro (h | h | h)
    · exact .inr (.inl h)
    · exact .inl h
    · exact .inr (.inr h)
theorem ins_sorted {l : List UInt32} (hs : l.Pairwise (fun x y => x.toNat < y.toNat)) {n : UInt32} {i : Nat} (h : LowAt l n i) (hn : n ∉ l) : (insAt l i n).Pairwise (fun x y => x.toNat < y.toNat) := by
  unfold insAt
  have hlo : ∀ x ∈ l.take i, x.toNat < n.toNat := fun x hx => by
    obtain ⟨j, hj, rfl⟩ := List.getElem_of_mem hx
    rw [List.length_take] at hj
    rw [List.getElem_take]
    exact h.2.1 j (by omega) (by omega)
  have hhi : ∀ x ∈ l.drop i, n.toNat < x.toNat := fun x hx => by
    have hxl := List.mem_of_mem_drop hx
    obtain ⟨j, hj, rfl⟩ := List.getElem_of_mem hx
    rw [List.length_drop] at hj
    rw [List.getElem_drop] at hxl ⊢
    have h1 := h.2.2 (i + j) (by omega) (by omega)
    rcases Nat.lt_or_eq_of_le h1 with h2 | h2
    · exact h2
    · rw [← UInt32.toNat_inj.1 h2] at hxl; exact absurd hxl hn
  rw [List.pairwise_append, List.pairwise_cons]
  refine ⟨hs.sublist (List.take_sublist _ _), ⟨hhi, hs.sublist (List.drop_sublist _ _)⟩, fun x hx y hy => ?_⟩
  rcases List.mem_cons.1 hy with rfl | hy
  · exact hlo x hx
  · exact Nat.lt_trans (hlo x hx) (hhi y hy)
theorem numsOf_eq (T : List (SumT × NumRow)) (d : SumT) : numsOf T d = ((aget T d).map (·.l)).getD [] := by unfold numsOf; cases aget T d <;> rfl
theorem adel_none (D : List (KeyT × PlaceT)) {k : KeyT} (h : aget D k = none) : adel D k = D := by
  unfold adel
  rw [List.filter_eq_self]
  intro p hp
  exact decide_eq_true (aget_none.1 h p hp)
theorem Coh.drop (h : Coh D T Sh L) (hinj : ∀ s t m, aget Sh s = some m → aget Sh t = some m → s = t) {k : KeyT} {v : PlaceT} (hk : aget D k = some v) {s : I64} (hs : v.shelf = s.1) {m : Nat} (hm : aget Sh s = some m)
    {r : NumRow} (hr : aget T k.sum = some r) {i : Nat} (hi : i < r.l.length) (hni : r.l[i] = k.n) {r' : NumRow} (hr' : r'.l = r.l.take i ++ r.l.drop (i + 1)) {T' : List (SumT × NumRow)} (hT' : ∀ d, aget T' d = if d = k.sum then (if r'.l = [] then none else some r') else aget T d)
    {Sh' : List (I64 × Nat)} (hSh' : ∀ t, aget Sh' t = if t = s ∧ adel (L m) k = [] then none else aget Sh t) : Coh (adel D k) T' Sh' (fun i => if i = m then adel (L m) k else L i) := by
  have hrl : numsOf T k.sum = r.l := by rw [numsOf_eq, hr]; rfl
  have hnums : ∀ d, numsOf T' d = if d = k.sum then r.l.take i ++ r.l.drop (i + 1) else numsOf T d := fun d => by
    rw [numsOf_eq, hT']
    by_cases e : d = k.sum
    · rw [if_pos e, if_pos e]
      by_cases e2 : r'.l = []
      · rw [if_pos e2, ← hr', e2]; rfl
      · rw [if_neg e2, ← hr']; rfl
    · rw [if_neg e, if_neg e, numsOf_eq]
  have hsr := h.sorted k.sum
  rw [hrl] at hsr
  exact {
    nd := adel_nodup h.nd k
    sorted := fun d => by
      rw [hnums]
      split
      · exact del_sorted hsr i
      · exact h.sorted d
    ne := fun d r0 h0 => by
      rw [hT'] at h0
      split at h0
      · split at h0
        · cases h0
        · rename_i h2; injection h0 with h0; subst h0; exact h2
      · exact h.ne d r0 h0
    mem := fun d n => by
      rw [hnums, aget_del]
      by_cases e : d = k.sum
      · rw [if_pos e, del_mem hsr hi, hni, ← hrl, h.mem]
        subst e
        by_cases e2 : n = k.n
        · subst e2
          rw [if_pos (key_eta k)]; simp
        · rw [if_neg (fun e3 => e2 (by rw [← e3]))]
          exact ⟨fun hx => hx.1, fun hx => ⟨hx, e2⟩⟩
      · rw [if_neg e, if_neg (fun e3 => e (by rw [← e3])), h.mem]
    rng := fun k0 v0 h0 => by
      rw [aget_del] at h0
      split at h0
      · cases h0
      · exact h.rng k0 v0 h0
    sh := fun t c => by
      rw [aget_del]
      constructor
      · rintro ⟨n, hn, hc⟩
        rw [hSh'] at hn
        split at hn
        · cases hn
        · by_cases e : n = m
          · subst e
            rw [if_pos rfl, aget_del] at hc
            split at hc
            · cases hc
            · rename_i hne
              rw [if_neg hne]
              exact (h.sh t c).1 ⟨n, hn, hc⟩
          · rw [if_neg e] at hc
            obtain ⟨v0, h1, h2⟩ := (h.sh t c).1 ⟨n, hn, hc⟩
            refine ⟨v0, ?_, h2⟩
            rw [if_neg]
            · exact h1
            · rintro rfl
              rw [hk] at h1
              injection h1 with h1
              subst h1
              have : t = s := Subtype.ext (h2.symm.trans hs)
              subst this
              rw [hm] at hn
              injection hn with hn
              exact e hn.symm
      · rintro ⟨v0, h1, h2⟩
        split at h1
        · cases h1
        · rename_i hne
          obtain ⟨n, hn, hc⟩ := (h.sh t c).2 ⟨v0, h1, h2⟩
          refine ⟨n, ?_, ?_⟩
          · rw [hSh', if_neg]
            · exact hn
            · rintro ⟨rfl, h3⟩
              rw [hm] at hn
              injection hn with hn
              subst hn
              have : (aget (adel (L m) k) c).isSome = true := by rw [aget_del, if_neg hne]; exact hc
              rw [h3] at this
              cases this
          · by_cases e : n = m
            · subst e
              rw [if_pos rfl, aget_del, if_neg hne]; exact hc
            · rw [if_neg e]; exact hc
    shNe := fun t n hn => by
      rw [hSh'] at hn
      split at hn
      · cases hn
      · rename_i h3
        by_cases e : n = m
        · subst e
          rw [if_pos rfl]
          exact fun h4 => h3 ⟨hinj t s n hn hm, h4⟩
        · rw [if_neg e]; exact h.shNe t n hn }
theorem Coh.put (h : Coh D T Sh L) {k : KeyT} {v : PlaceT} (hk : aget D k = none) (hv : PlaceOk v) {s : I64} (hs : v.shelf = s.1) {i : Nat} (hl : LowAt (numsOf T k.sum) k.n i)
    {r' : NumRow} (hr' : r'.l = insAt (numsOf T k.sum) i k.n) {T' : List (SumT × NumRow)} (hT' : ∀ d, aget T' d = if d = k.sum then some r' else aget T d)
    {Sh' : List (I64 × Nat)} {L' : Nat → List (KeyT × Unit)} {m : Nat} (hm : aget Sh' s = some m) (hold : ∀ t, t ≠ s → aget Sh' t = aget Sh t) (hinj : ∀ t, aget Sh' t = some m → t = s) (hL' : ∀ i, i ≠ m → L' i = L i) {l0 : List (KeyT × Unit)} (hLm : L' m = aput l0 k ())
    (hl0 : (aget Sh s = some m ∧ l0 = L m) ∨ (aget Sh s = none ∧ l0 = [])) : Coh (aput D k v) T' Sh' L' := by
  have hnums : ∀ d, numsOf T' d = if d = k.sum then insAt (numsOf T k.sum) i k.n else numsOf T d := fun d => by
    rw [numsOf_eq, hT']
    by_cases e : d = k.sum
    · rw [if_pos e, if_pos e, ← hr']; rfl
    · rw [if_neg e, if_neg e, numsOf_eq]
  have hnk : k.n ∉ numsOf T k.sum := fun hx => by
    have := (h.mem k.sum k.n).1 hx
    rw [key_eta, hk] at this; cases this
  have hl0mem : ∀ c, (aget l0 c).isSome = true ↔ ∃ v0, aget D c = some v0 ∧ v0.shelf = s.1 := fun c => by
    rw [← h.sh s c]
    rcases hl0 with ⟨h1, rfl⟩ | ⟨h1, rfl⟩
    · constructor
      · exact fun hx => ⟨m, h1, hx⟩
      · rintro ⟨n, hn, hc⟩
        rw [h1] at hn; injection hn with hn; subst hn; exact hc
    · constructor
      · intro hx; cases hx
      · rintro ⟨n, hn, hc⟩
        rw [h1] at hn; cases hn
  exact {
    nd := aput_nodup h.nd k v
    sorted := fun d => by
      rw [hnums]
      split
      · exact ins_sorted (h.sorted _) hl hnk
      · exact h.sorted d
    ne := fun d r0 h0 => by
      rw [hT'] at h0
      split at h0
      · injection h0 with h0
        subst h0
        rw [hr']
        unfold insAt
        simp
      · exact h.ne d r0 h0
    mem := fun d n => by
      rw [hnums, aget_put]
      by_cases e : d = k.sum
      · rw [if_pos e, ins_mem, h.mem]
        subst e
        by_cases e2 : n = k.n
        · subst e2
          rw [if_pos (key_eta k)]; simp
        · rw [if_neg (fun e3 => e2 (by rw [← e3]))]
          exact ⟨fun hx => hx.resolve_left e2, .inr⟩
      · rw [if_neg e, if_neg (fun e3 => e (by rw [← e3])), h.mem]
    rng := fun k0 v0 h0 => by
      rw [aget_put] at h0
      split at h0
      · injection h0 with h0; subst h0; exact hv
      · exact h.rng k0 v0 h0
    sh := fun t c => by
      rw [aget_put]
      by_cases et : t = s
      · subst et
        have h1 : (∃ n, aget Sh' t = some n ∧ (aget (L' n) c).isSome = true) ↔ (aget (aput l0 k ()) c).isSome = true := by
          rw [← hLm]
          constructor
          · rintro ⟨n, hn, hc⟩
            rw [hm] at hn; injection hn with hn; subst hn; exact hc
          · exact fun hc => ⟨m, hm, hc⟩
        rw [h1, aget_put]
        by_cases ec : c = k
        · rw [if_pos ec, if_pos ec]
          exact ⟨fun _ => ⟨v, rfl, hs⟩, fun _ => rfl⟩
        · rw [if_neg ec, if_neg ec, hl0mem]
      · rw [hold t et]
        have h1 : (∃ n, aget Sh t = some n ∧ (aget (L' n) c).isSome = true) ↔ (∃ n, aget Sh t = some n ∧ (aget (L n) c).isSome = true) := by
          have key : ∀ n, aget Sh t = some n → L' n = L n := fun n hn => hL' n fun e => by
            subst e
            exact et (hinj t (by rw [hold t et]; exact hn))
          constructor
          · rintro ⟨n, hn, hc⟩; exact ⟨n, hn, by rw [← key n hn]; exact hc⟩
          · rintro ⟨n, hn, hc⟩; exact ⟨n, hn, by rw [key n hn]; exact hc⟩
        rw [h1, h.sh]
        by_cases ec : c = k
        · subst ec
          rw [if_pos rfl, hk]
          constructor
          · rintro ⟨v0, h2, _⟩; cases h2
          · rintro ⟨v0, h2, h3⟩
            injection h2 with h2
            subst h2
            exact absurd (Subtype.ext (h3.symm.trans hs)) et
        · rw [if_neg ec]
    shNe := fun t n hn => by
      by_cases e : n = m
      · subst e
        rw [hLm]
        intro h4
        have : (aget (aput l0 k ()) k).isSome = true := by rw [aget_put, if_pos rfl]; rfl
        rw [h4] at this
        cases this
      · rw [hL' n e]
        by_cases et : t = s
        · subst et
          rw [hm] at hn; injection hn with hn; exact absurd hn.symm e
        · rw [hold t et] at hn
          exact h.shNe t n hn }
end
end Go.Proofs.YtnfbchhbcinloaaGreat

/- What stands while an index is written: the index, the key and the place of the call's own. -/
namespace Go.XR
open Go Go.RowKit
section
variable {κ ν : Type} [DecidableEq κ] {kv : κ → Value} {vv : ν → Value} {P : Program} {k t e : TypeId} {w : World} {m : Nat} {D : List (κ × ν)}
theorem wp_gm_delete {o : Oper} {a : Act} {K : Act → World → Prop} {Q : Exit → Act → World → Prop} (x y : Operand) (t : TypeId) (hop : o.op = .call { callee := .builtin .delete, args := #[x, y], argTypes := #[t, k] })
    (KK : KeysOk P k kv) (ht : P.underlying t = some (.map k e)) (c : κ) (hm : a.eval x = .map (some m)) (hx : a.eval y = kv c) (h : GM kv vv w m D)
    (hK : ∀ w', GM kv vv w' m (adel D c) → But [m] w w' → K (a.put o.dst (.tuple #[])) w') : o.wp P a w K Q := by
  obtain ⟨w', hr, h1, h2, h3⟩ := h.delete (P := P) (ty := o.type) KK ht c
  unfold Oper.wp execOp
  simp only [hop, resolve, invoke, builtin, Sem.run_bind, Sem.run_pure, Result.andThen_ok, List.map_toArray, List.map_cons, List.map_nil, hm, hx, hr]
  exact hK w' h1 (But.of_grown h2)
omit [DecidableEq κ] in
theorem wp_gm_len {o : Oper} {a : Act} {K : Act → World → Prop} {Q : Exit → Act → World → Prop} (x : Operand) (t : TypeId) (hop : o.op = .call { callee := .builtin .len, args := #[x], argTypes := #[t] })
    (ht : P.underlying t = some (.map k e)) (hm : a.eval x = .map (some m)) (h : GM kv vv w m D) (hK : K (a.put o.dst (.int .i64 D.length)) w) : o.wp P a w K Q := by
  obtain ⟨es, clock, h3, h4, h5⟩ := h
  have hsz : es.size = D.length := by have := congrArg List.length h5; simpa using this
  have hln : (Builtin.len_ #[t] o.type #[.map (some m)]).run P w = .ok (.int .i64 es.size) w := by
    simp [Builtin.len_, run_underlying ht, MapKept.run_getObj_map h3, goInt, Result.andThen]
  rw [hsz] at hln
  unfold Oper.wp execOp
  simp only [hop, resolve, invoke, builtin, Sem.run_bind, Sem.run_pure, Result.andThen_ok, List.map_toArray, List.map_cons, List.map_nil, hm, hln]
  exact hK
end
end Go.XR
namespace Go.Proofs.YtnfbchhbcinloaaGreat
open Go.RowKit Go.XR Go.IndexPure
theorem key_at_sum {w : World} {b o : Nat} {k : KeyT} (h : At w b o (keyC k)) : At w b o (sumC k.sum) := fun j u hj => by
  refine h j u ?_
  have hj' : (sumL k.sum)[j]? = some u := by simpa [sumC] using hj
  have hl := (List.getElem?_eq_some_iff.1 hj').1
  show (keyL k).toArray[j]? = some u
  rw [List.getElem?_toArray]
  unfold keyL
  rw [List.getElem?_append_left hl]; exact hj'
theorem key_at_n {w : World} {b o : Nat} {k : KeyT} (h : At w b o (keyC k)) : w.cell? ⟨b, o + 32, none⟩ = some (.int .u32 (k.n.toNat : Int)) := by
  refine h 32 _ ?_
  show (keyL k).toArray[32]? = _
  rw [List.getElem?_toArray]
  unfold keyL
  rw [List.getElem?_append_right (by rw [sumL_length]; omega), sumL_length]; rfl
def Ix (w : World) (F : List Nat) (p : Nat) (D : List (KeyT × PlaceT)) : Prop := ∃ pb tb sb T Sh L, IxC w F p pb tb sb D T Sh L ∧ Coh D T Sh L
structure St (w0 : World) (F0 : List Nat) (kb : Nat) (k : KeyT) (vb : Nat) (v : PlaceT) (W : World) (F : List Nat) (p pb tb sb : Nat) (D : List (KeyT × PlaceT)) (T : List (SumT × NumRow)) (Sh : List (I64 × Nat)) (L : Nat → List (KeyT × Unit)) : Prop where
  ix : IxC W F p pb tb sb D T Sh L
  key : At W kb 0 (keyC k)
  place : Blk W vb (placeL v)
  out : kb ∉ F ∧ vb ∉ F
  but : But F0 w0 W
  grew : Grew w0 F0 F
section
variable {w0 : World} {F0 : List Nat} {kb : Nat} {k : KeyT} {vb : Nat} {v : PlaceT} {W W' : World} {F F' S : List Nat} {p pb tb sb : Nat} {D D' : List (KeyT × PlaceT)} {T T' : List (SumT × NumRow)} {Sh Sh' : List (I64 × Nat)} {L L' : Nat → List (KeyT × Unit)}
theorem St.kn (h : St w0 F0 kb k vb v W F p pb tb sb D T Sh L) : W.cell? ⟨kb, 32, none⟩ = some (.int .u32 (k.n.toNat : Int)) := by
  have := key_at_n h.key; rwa [Nat.zero_add] at this
theorem St.vs (h : St w0 F0 kb k vb v W F p pb tb sb D T Sh L) : W.cell? ⟨vb, 0, none⟩ = some (.int .i64 v.shelf) := h.place.cell (i := 0) rfl
theorem St.step (h : St w0 F0 kb k vb v W F p pb tb sb D T Sh L) (hb : But S W W') (hS : ∀ b ∈ S, b ∈ F ∨ W.heap.size ≤ b) (hix : IxC W' F' p pb tb sb D' T' Sh' L') (hg : Grew W F F') : St w0 F0 kb k vb v W' F' p pb tb sb D' T' Sh' L' := by
  have hkl : kb < W.heap.size := h.key.lt (by rw [keyC_size]; omega)
  have hvl := h.place.lt
  have hns : ∀ b, b < W.heap.size → b ∉ F → b ∉ S := fun b h1 h2 h3 => by
    rcases hS b h3 with h4 | h4
    · exact h2 h4
    · omega
  have hnf : ∀ b, b < W.heap.size → b ∉ F → b ∉ F' := fun b h1 h2 h3 => by
    rcases hg b h3 with h4 | h4
    · exact h2 h4
    · omega
  refine ⟨hix, h.key.but hb (hns _ hkl h.out.1), h.place.but hb (hns _ hvl h.out.2), ⟨hnf _ hkl h.out.1, hnf _ hvl h.out.2⟩, h.but.grew (F' := F) (hb.mono fun i hi hl => ?_) h.grew, h.grew.trans hg h.but.size⟩
  rcases hS i hi with h4 | h4
  · exact h4
  · omega
theorem St.drew (h : St w0 F0 kb k vb v W F p pb tb sb D T Sh L) : St w0 F0 kb k vb v W.drew F p pb tb sb D T Sh L :=
  h.step (S := []) (But.refl [] W).drew (fun _ hb => by cases hb) (h.ix.but (But.refl [] W).drew fun _ _ => by simp) (Grew.refl _ _)
theorem St.below (h : St w0 F0 kb k vb v W F p pb tb sb D T Sh L) (hb : Below W.heap.size W W') : St w0 F0 kb k vb v W' F p pb tb sb D T Sh L :=
  h.step (S := []) (But.of_below hb) (fun _ hb => by cases hb) (h.ix.below hb) (Grew.refl _ _)
end
/-- what a light step of Drop or Put reads -/
structure Std (p pb tb sb kb : Nat) (k : KeyT) (vb : Nat) (s : Int) (W : World) : Prop where
  c0 : W.cell? ⟨p, 0, none⟩ = some (.map (some pb))
  c1 : W.cell? ⟨p, 1, none⟩ = some (.map (some tb))
  c2 : W.cell? ⟨p, 2, none⟩ = some (.map (some sb))
  key : At W kb 0 (keyC k)
  kn : W.cell? ⟨kb, 32, none⟩ = some (.int .u32 (k.n.toNat : Int))
  vs : W.cell? ⟨vb, 0, none⟩ = some (.int .i64 s)
theorem Std.but {p pb tb sb kb : Nat} {k : KeyT} {vb : Nat} {s : Int} {W W' : World} {S : List Nat} (h : Std p pb tb sb kb k vb s W) (hb : But S W W') (hp : p ∉ S) (hk : kb ∉ S) (hv : vb ∉ S) : Std p pb tb sb kb k vb s W' :=
  ⟨hb.cell h.c0 hp, hb.cell h.c1 hp, hb.cell h.c2 hp, h.key.but hb hk, hb.cell h.kn hk, hb.cell h.vs hv⟩
theorem St.std {w0 : World} {F0 : List Nat} {kb : Nat} {k : KeyT} {vb : Nat} {v : PlaceT} {W : World} {F : List Nat} {p pb tb sb : Nat} {D : List (KeyT × PlaceT)} {T : List (SumT × NumRow)} {Sh : List (I64 × Nat)} {L : Nat → List (KeyT × Unit)}
    (h : St w0 F0 kb k vb v W F p pb tb sb D T Sh L) : Std p pb tb sb kb k vb v.shelf W :=
  ⟨h.ix.blk.cell (i := 0) rfl, h.ix.blk.cell (i := 1) rfl, h.ix.blk.cell (i := 2) rfl, h.key, h.kn, h.vs⟩
/-- what Drop answers, and leaves -/
def RetDrop (w : World) (F : List Nat) (p : Nat) (D : List (KeyT × PlaceT)) (k : KeyT) (e : Ending) (w' : World) : Prop :=
  e = .returned (.bool (aget D k).isSome) ∧ ∃ F', Ix w' F' p (adel D k) ∧ But F w w' ∧ Grew w F F'
theorem row_keys : ∀ v : PlaceT, (Value.agg (placeC v)) = .agg #[.int .i64 v.shelf, .int .i64 v.slot] := fun _ => rfl
end Go.Proofs.YtnfbchhbcinloaaGreat

/- How a cache lies in memory; the walk over its Get. -/
namespace Go.Proofs.YtnfbchhbcinloaaGreat
open Go.RowKit Go.XR Go.IndexPure Go.CachePure
abbrev ownInts (w : World) (a : Option Addr) (c : Nat) (l : List I64) : Prop := w.ownsRow 0 3 1 (.slice a l.length c) l.length (l.flatMap iL)
theorem ints_heap {w w' : World} {a : Option Addr} {c : Nat} {l : List I64} (h : ownInts w a c l) (hb : ∀ x, a = some x → w'.heap[x.block]? = w.heap[x.block]?) : ownInts w' a c l := by
  refine ⟨h.1, ?_⟩
  rcases h.2 with h2 | ⟨g, cap, cur, h1, h2, h3, h4⟩
  · exact .inl h2
  · have h1' := h1
    injection h1' with h5
    exact .inr ⟨g, cap, cur, h1, h2, (hb _ h5).trans h3, h4⟩
theorem ints_cells {w : World} {a : Option Addr} {c : Nat} {l : List I64} (h : ownInts w a c l) {x : Addr} (ha : a = some x) : (∃ cs, w.heap[x.block]? = some (.cells cs 3 (0, 0))) ∧ x = ⟨x.block, 0, none⟩ := by
  rcases h.2 with ⟨h2, _⟩ | ⟨g, cap, cur, h1, _, h3, _⟩
  · rw [ha] at h2; cases h2
  · rw [ha] at h1
    injection h1 with h5
    injection h5 with h6
    subst h6
    exact ⟨⟨cur, h3⟩, rfl⟩
structure ChC (w : World) (F : List Nat) (p tb room : Nat) (a : Option Addr) (cap : Nat) (C : CchT) (T : List (I64 × Nat)) : Prop where
  fin : ∀ b ∈ F, b < w.heap.size
  blk : Blk w p [.int .i64 room, .slice a C.length cap, .map (some tb)]
  inF : p ∈ F ∧ tb ∈ F
  order : ownInts w a cap (C.map (·.1))
  ordF : ∀ x, a = some x → x.block ∈ F ∧ x.block ≠ p
  tables : GM i64V mapV w tb T
  nd : (C.map (·.1)).Nodup
  tab : ∀ s t, (s, t) ∈ C → ∃ m, aget T s = some m ∧ m ∈ F ∧ GM keyV placeV w m t ∧ m ≠ tb
  dom : ∀ s, (aget T s).isSome = true → s ∈ C.map (·.1)
  len : C.length ≤ room
  room : room ≤ 4096
section
variable {w w' : World} {F S : List Nat} {p tb room cap : Nat} {a : Option Addr} {C : CchT} {T : List (I64 × Nat)}
theorem ChC.ne_p (h : ChC w F p tb room a cap C T) : tb ≠ p ∧ ∀ s t m, (s, t) ∈ C → aget T s = some m → m ≠ p := by
  obtain ⟨t, hp⟩ := h.blk
  refine ⟨h.tables.ne_cells hp, fun s t m hm hs => ?_⟩
  obtain ⟨m', h1, _, h2, _⟩ := h.tab s t hm
  rw [hs] at h1
  injection h1 with h1
  subst h1
  exact h2.ne_cells hp
theorem ChC.but (h : ChC w F p tb room a cap C T) (hb : But S w w') (hS : ∀ b ∈ F, b ∉ S) : ChC w' F p tb room a cap C T where
  fin b hf := Nat.lt_of_lt_of_le (h.fin b hf) hb.size
  blk := h.blk.but hb (hS _ h.inF.1)
  inF := h.inF
  order := ints_heap h.order fun x ha => hb.block _ (h.fin _ (h.ordF x ha).1) (hS _ (h.ordF x ha).1)
  ordF := h.ordF
  tables := h.tables.but hb (hS _ h.inF.2)
  nd := h.nd
  tab s t hm := by
    obtain ⟨m, h1, h2, h3, h4⟩ := h.tab s t hm
    exact ⟨m, h1, h2, h3.but hb (hS _ h2), h4⟩
  dom := h.dom
  len := h.len
  room := h.room
theorem ChC.below (h : ChC w F p tb room a cap C T) (hb : Below w.heap.size w w') : ChC w' F p tb room a cap C T := h.but (But.of_below (S := []) hb) (fun _ _ => by simp)
theorem ChC.has (h : ChC w F p tb room a cap C T) (s : I64) : (aget T s).isSome = (aget C s).isSome := by
  cases hT : (aget T s).isSome with
  | true => exact ((mem_aget h.nd).2 (h.dom s hT)).symm
  | false =>
    cases hC : (aget C s).isSome with
    | false => rfl
    | true =>
      obtain ⟨t, ht⟩ := Option.isSome_iff_exists.1 hC
      obtain ⟨m, h1, _⟩ := h.tab s t ((aget_mem h.nd).1 ht)
      rw [h1] at hT; cases hT
end
def RetOpt (w : World) (o : Option PlaceT) (e : Ending) (w' : World) : Prop :=
  e = .returned (.tuple #[placeV (o.getD place0), .bool o.isSome]) ∧ Below w.heap.size w w'
theorem opt_val (o : Option PlaceT) : (o.map placeV).getD (.agg #[.int .i64 0, .int .i64 0]) = placeV (o.getD place0) := by cases o <;> rfl
set_option maxHeartbeats 2000000 in
set_option maxRecDepth 100000 in
theorem cget_any (w : World) (F : List Nat) (p tb room : Nat) (a : Option Addr) (cap : Nat) (C : CchT) (T : List (I64 × Nat)) (hC : ChC w F p tb room a cap C T) (k : KeyT) :
    Calls Tryz.prog 42 #[.pointer (some ⟨p, 0, none⟩), keyV k] w (RetOpt w (cGet C k)) := by
  obtain ⟨W2, hW2⟩ : ∃ W2, (w.alloc (.cells (keyC k) 29)).alloc (.cells #[.int .i64 0, .int .i64 0] 40) = W2 := ⟨_, rfl⟩
  have hb2 : Below w.heap.size w W2 := by rw [← hW2]; exact ((Below.refl _ _).alloc (Nat.le_refl _) _).alloc (by simp) _
  have HB2 := Lib.hid hb2
  have HC2 := Lib.hid (hC.below hb2)
  have HK2 : Hid (At W2 w.heap.size 0 (keyC k)) := by unfold Hid; rw [← hW2]; exact (At.new _ _ _).alloc _
  have HR2 : Hid (Blk W2 (w.heap.size + 1) [.int .i64 0, .int .i64 0]) := by
    unfold Hid; rw [← hW2]
    have h := Blk.new (w.alloc (.cells (keyC k) 29)) #[.int .i64 0, .int .i64 0] 40
    rwa [show (w.alloc (.cells (keyC k) 29)).heap.size = w.heap.size + 1 by simp] at h
  have hcl : C.length ≤ 4096 := Nat.le_trans hC.len hC.room
  clear hC hb2
  obtain ⟨kb, hkb⟩ : ∃ kb, w.heap.size = kb := ⟨_, rfl⟩
  obtain ⟨rb, hrb⟩ : ∃ rb, kb + 1 = rb := ⟨_, rfl⟩
  have Hrb : Hid (kb ≤ rb) := by unfold Hid; omega
  have c0 := HC2.out.blk.cell (i := 1) rfl
  rw [hkb] at HK2 HR2
  rw [hrb] at HR2
  have Hkb := Lib.hid hkb
  go_enter Tryz.func42, Tryz.ntmps42
  go_wp2
  clear c0 hW2 hkb hrb
  go_loopg [18] C.length (fun n i wr => ∃ j : Nat, j ≤ C.length ∧ i = .int .i64 j ∧ Hid (n = C.length - j ∧ Below W2.heap.size W2 wr ∧ ∀ q, (hq : q < C.length) → q < j → aget C[q].2 k = none))
  case atStart => exact ⟨0, by omega, rfl, rfl, Below.refl _ _, fun q hq h => absurd h (by omega)⟩
  case round =>
    obtain ⟨j, hj, rfl, hn⟩ := hrel
    have HCr := Lib.hid (HC2.out.below hn.out.2.1)
    have HRr := Lib.hid (HR2.out.below hn.out.2.1)
    have HKr := Lib.hid (HK2.out.below (by rw [keyC_size]; omega) hn.out.2.1)
    have hkn : kb < wr.heap.size := HKr.out.lt (by rw [keyC_size]; omega)
    by_cases hlt : j < C.length
    · have hlt2 : (j : Int) < (C.length : Int) := by omega
      obtain ⟨g, o, ha, hc⟩ := (Row.owned HCr.out.order).get (j := j) (u := i64V C[j].1) (by
        have := flat_get iL_len (C.map (·.1)) (i := j) (by rw [List.length_map]; exact hlt) (j := 0) (by omega)
        rw [Nat.mul_one, Nat.add_zero] at this
        rw [this, List.getElem_map]; rfl)
      obtain ⟨m, hm, _, hGM, _⟩ := HCr.out.tab C[j].1 C[j].2 (List.getElem_mem hlt)
      have HGM := Lib.hid hGM
      have Hm : Hid (((aget T C[j].1).map mapV).getD (.map none) = .map (some m)) := by unfold Hid; rw [hm]; rfl
      have Hc0 : Hid (cGet C k = (cGet (C.take j) k).or ((aget C[j].2 k).or (cGet (C.drop (j + 1)) k))) := by
        unfold Hid cGet
        conv => lhs; rw [← List.take_append_drop j C, List.drop_eq_getElem_cons hlt]
        rw [List.findSome?_append, List.findSome?_cons]
        cases aget C[j].2 k <;> rfl
      have Hc1 : Hid (cGet (C.take j) k = none) := by
        unfold Hid cGet
        rw [List.findSome?_eq_none_iff]
        intro x hx
        obtain ⟨q, hq, rfl⟩ := List.getElem_of_mem hx
        rw [List.length_take] at hq
        rw [List.getElem_take]
        exact hn.out.2.2 q (by omega) (by omega)
      obtain ⟨s, hs⟩ : ∃ s, C[j].1 = s := ⟨_, rfl⟩
      have Ht := Lib.hid (rfl : C[j].2 = C[j].2)
      obtain ⟨t, ht⟩ : ∃ t, C[j].2 = t := ⟨_, rfl⟩
      rw [hs] at hc Hm
      rw [ht] at HGM Hc0
      have Hq := Lib.hid ht
      unfold i64V at hc
      subst ha
      have c2 := HCr.out.blk.cell (i := 2) rfl
      have hpn := HCr.out.blk.lt
      have HG := Lib.hid HCr.out.tables
      obtain ⟨v, hv⟩ : ∃ v, (aget t k).getD place0 = v := ⟨_, rfl⟩
      have Hv : Hid (((aget t k).map placeV).getD (.agg #[.int .i64 0, .int .i64 0]) = .agg #[.int .i64 v.shelf, .int .i64 v.slot]) := by unfold Hid; rw [opt_val, hv]; rfl
      obtain ⟨is, his⟩ : ∃ b, (aget t k).isSome = b := ⟨_, rfl⟩
      have Hv2 := Lib.hid hv
      have His := Lib.hid his
      clear hm hGM Ht hs ht hv his
      go_wp2
      have hS0 : Below wr.heap.size wr wr.drew := (Below.refl _ _).drew
      refine Go.XR.region_sched ((Below wr.heap.size wr)) [(0, true), (1, true), (2, true), (3, true), (4, true), (5, true), (6, true), (7, true), (8, true), (9, true), (10, true), (11, false), (12, false), (13, false)] [13] Tryz.mixed (by kernel_rfl) (by kernel_rfl) (by kernel_rfl) ?_
      simp only [List.map_cons, List.map_nil, List.getElem?_cons_succ, List.getElem?_cons_zero]
      repeat (first | (refine Go.XR.S_light rfl rfl (by assumption) ?_ (fun w' hS K hK => ?_) (fun K hK => ?_); rotate_left 1; (have hS1 := bcell hS; (first | (first | (refine Go.XR.wp_load_at 29 _ rfl kb 0 rfl (keyC k) (At.below HKr.out (by rw [keyC_size]; omega) hS) _ Tryz.underlying29 rfl (keySize k) ?_) | (refine Go.XR.wp_gm_lookup_ok (.tmp 28) (.tmp 29) 100 rfl keysKey Tryz.underlying100 (.agg #[.int .i64 0, .int .i64 0]) (Tryz.zeroValue40) k _ is rfl rfl (HGM.out.below hS) Hv.out His.out ?_) | (refine Go.XR.wp_gm_lookup (.tmp 26) (.tmp 27) 96 rfl keysI64 Tryz.underlying96 (.map none) (fun w => Tryz.zeroValue100 w) s (.map (some m)) rfl rfl (HG.out.below hS) Hm.out ?_)) | go_step); exact hK); go_step; refine hK _ ?_; clear hK K))
      refine Go.XR.S_heavy (fun K hK => ?_)
      go_step
      refine hK _ _ ⟨fun _ => hS0.alloc (Nat.le_refl _) _, ?_⟩
      clear hK K
      repeat (first | (refine Go.XR.S_light rfl rfl (by assumption) ?_ (fun w' hS K hK => ?_) (fun K hK => ?_); rotate_left 1; (have hS1 := bcell hS; (first | (first | (refine Go.XR.wp_load_at 29 _ rfl kb 0 rfl (keyC k) (At.below HKr.out (by rw [keyC_size]; omega) hS) _ Tryz.underlying29 rfl (keySize k) ?_) | (refine Go.XR.wp_gm_lookup_ok (.tmp 28) (.tmp 29) 100 rfl keysKey Tryz.underlying100 (.agg #[.int .i64 0, .int .i64 0]) (Tryz.zeroValue40) k _ is rfl rfl (HGM.out.below hS) Hv.out His.out ?_) | (refine Go.XR.wp_gm_lookup (.tmp 26) (.tmp 27) 96 rfl keysI64 Tryz.underlying96 (.map none) (fun w => Tryz.zeroValue100 w) s (.map (some m)) rfl rfl (HG.out.below hS) Hm.out ?_)) | go_step); exact hK); go_step; refine hK _ ?_; clear hK K))
      refine Go.XR.S_heavy (fun K hK => ?_)
      go_step
      obtain ⟨W3, hW3⟩ : ∃ W3, (wr.alloc (.cells #[.int .i64 v.shelf, .int .i64 v.slot] 40)).drew = W3 := ⟨_, rfl⟩
      have hS3 : Below wr.heap.size wr W3 := by rw [← hW3]; exact ((Below.refl _ _).alloc (Nat.le_refl _) _).drew
      have HR3 := Lib.hid (HRr.out.below hS3)
      have HB3 := Lib.hid (hn.out.2.1.trans (hS3.mono hn.out.2.1.size))
      have d0 : W3.cell? ⟨wr.heap.size, 0, none⟩ = some (.int .i64 v.shelf) := by rw [← hW3]; simp
      have d1 : W3.cell? ⟨wr.heap.size, 1, none⟩ = some (.int .i64 v.slot) := by rw [← hW3]; simp
      rw [hW3]
      clear hW3 hS0 c2 hc
      refine hK _ _ ⟨fun _ => hS3, ?_⟩
      clear hK K
      repeat (first | (refine Go.XR.S_light rfl rfl (by assumption) ?_ (fun w' hS K hK => ?_) (fun K hK => ?_); rotate_left 1; (have hS1 := bcell hS; (first | (first | (refine Go.XR.wp_load_at 29 _ rfl kb 0 rfl (keyC k) (At.below HKr.out (by rw [keyC_size]; omega) hS) _ Tryz.underlying29 rfl (keySize k) ?_) | (refine Go.XR.wp_gm_lookup_ok (.tmp 28) (.tmp 29) 100 rfl keysKey Tryz.underlying100 (.agg #[.int .i64 0, .int .i64 0]) (Tryz.zeroValue40) k _ is rfl rfl (HGM.out.below hS) Hv.out His.out ?_) | (refine Go.XR.wp_gm_lookup (.tmp 26) (.tmp 27) 96 rfl keysI64 Tryz.underlying96 (.map none) (fun w => Tryz.zeroValue100 w) s (.map (some m)) rfl rfl (HG.out.below hS) Hm.out ?_)) | go_step); exact hK); go_step; refine hK _ ?_; clear hK K))
      repeat (first | (refine Go.XR.S_heavy (fun K hK => ?_); go_step; refine hK _ _ ⟨fun h => by simp at h, ?_⟩; clear hK K))
      refine Go.XR.S_nil ?_
      have Hx : Hid (aget t k = if is then some v else none) := by
        unfold Hid
        have h1 := Hv2.out
        have h2 := His.out
        cases h : aget t k with
        | none => rw [h] at h2; rw [← h2]; rfl
        | some x => rw [h] at h1 h2; rw [← h2, ← h1]; rfl
      cases is with
      | true =>
        have r0 := HR3.out.cell (i := 0) rfl
        have r1 := HR3.out.cell (i := 1) rfl
        have f0 := HR3.out.free 0
        have f1 := HR3.out.free 1
        go_wp2
        (try simp only [Exit.inBlock, Exit.then])
        refine bodyPost_ret (results_at rfl (g := rb) rfl rfl (((HR3.out.set 0 (.int .i64 v.shelf)).set 1 (.int .i64 v.slot)).toAt) Tryz.underlying40 rfl (placeSize v)) rfl ?_
        have hfin : Below w.heap.size w ((W3.setCell ⟨rb, 0, none⟩ (.int .i64 v.shelf)).setCell ⟨rb, 1, none⟩ (.int .i64 v.slot)) := by
          have h1 := HB2.out.trans (HB3.out.mono HB2.out.size)
          exact h1.trans ((((But.refl [rb] W3).setCell (.inl (by simp)) _).setCell (.inl (by simp)) _).below h1.size (by rw [Hkb.out]; have := Hrb.out; simpa using this))
        refine ⟨?_, hfin⟩
        rw [Hc0.out, Hc1.out, Hx.out]
        rfl
      | false =>
        go_wp2
        go_roundg (C.length - (j + 1))
        case measure => have := hn.out.1; omega
        case rel =>
          refine ⟨j + 1, by omega, by go_num, rfl, HB3.out, fun q hq h => ?_⟩
          by_cases hqj : q = j
          · subst hqj; rw [Hq.out, Hx.out]; rfl
          · exact hn.out.2.2 q hq (by omega)
    · have hge : ¬ (j : Int) < (C.length : Int) := by omega
      have hno : cGet C k = none := by
        unfold cGet
        rw [List.findSome?_eq_none_iff]
        intro x hx
        obtain ⟨q, hq, rfl⟩ := List.getElem_of_mem hx
        exact hn.out.2.2 q hq (by omega)
      have Hno := Lib.hid hno
      have HB3 := Lib.hid hn.out.2.1
      have r0 := HRr.out.cell (i := 0) rfl
      have r1 := HRr.out.cell (i := 1) rfl
      have f0 := HRr.out.free 0
      have f1 := HRr.out.free 1
      clear hno
      go_wp2
      (try simp only [Exit.inBlock, Exit.then])
      refine bodyPost_ret (results_at rfl (g := rb) rfl rfl (((HRr.out.set 0 (.int .i64 0)).set 1 (.int .i64 0)).toAt) Tryz.underlying40 rfl (placeSize place0)) rfl ?_
      have hfin : Below w.heap.size w ((wr.setCell ⟨rb, 0, none⟩ (.int .i64 0)).setCell ⟨rb, 1, none⟩ (.int .i64 0)) := by
        have h1 := HB2.out.trans (HB3.out.mono HB2.out.size)
        exact h1.trans ((((But.refl [rb] wr).setCell (.inl (by simp)) _).setCell (.inl (by simp)) _).below h1.size (by rw [Hkb.out]; have := Hrb.out; simpa using this))
      refine ⟨?_, hfin⟩
      rw [Hno.out]
      rfl
end Go.Proofs.YtnfbchhbcinloaaGreat

/- The walk over a cache's Drop. -/
namespace Go.Proofs.YtnfbchhbcinloaaGreat
open Go.RowKit Go.XR Go.IndexPure Go.CachePure
def RetCDrop (w : World) (F : List Nat) (p tb room : Nat) (C : CchT) (s : I64) (e : Ending) (w' : World) : Prop :=
  e = .returned (.bool (aget C s).isSome) ∧ ∃ a cap T, ChC w' F p tb room a cap (adel C s) T ∧ But F w w'
theorem cadel_none (C : CchT) {s : I64} (h : aget C s = none) : adel C s = C := by
  unfold adel
  rw [List.filter_eq_self]
  intro p hp
  exact decide_eq_true (aget_none.1 h p hp)
section
variable {w w1 w2 : World} {F : List Nat} {p tb room cap : Nat} {a : Option Addr} {C : CchT} {T : List (I64 × Nat)}
theorem ChC.drop (h : ChC w F p tb room a cap C T) {g : Nat} (ha : a = some ⟨g, 0, none⟩) {s : I64} (hb1 : But [tb] w w1) (hG : GM i64V mapV w1 tb (adel T s)) (hb2 : But [g] w1 w2) (ho : ownInts w2 (some ⟨g, 0, none⟩) cap ((adel C s).map (·.1))) :
    ChC (w2.setCell ⟨p, 1, none⟩ (.slice (some ⟨g, 0, none⟩) (adel C s).length cap)) F p tb room (some ⟨g, 0, none⟩) cap (adel C s) (adel T s) ∧ But F w (w2.setCell ⟨p, 1, none⟩ (.slice (some ⟨g, 0, none⟩) (adel C s).length cap)) := by
  have hne := h.ne_p
  have hg := h.ordF _ ha
  obtain ⟨⟨cs, hcs⟩, _⟩ := ints_cells h.order ha
  have htg : tb ≠ g := h.tables.ne_cells hcs
  have hmg : ∀ t u m, (t, u) ∈ C → aget T t = some m → m ≠ g := fun t u m hm hs => by
    obtain ⟨m', h1, _, h2, _⟩ := h.tab t u hm
    rw [hs] at h1
    injection h1 with h1
    subst h1
    exact h2.ne_cells hcs
  have hb3 : But [p] w2 (w2.setCell ⟨p, 1, none⟩ (.slice (some ⟨g, 0, none⟩) (adel C s).length cap)) := (But.refl _ _).setCell (.inl (by simp)) _
  have hbf : But F w (w2.setCell ⟨p, 1, none⟩ (.slice (some ⟨g, 0, none⟩) (adel C s).length cap)) :=
    ((hb1.mono (T := F) (by intro i hi _; rw [List.mem_singleton] at hi; subst hi; exact h.inF.2)).trans (hb2.mono (by intro i hi _; rw [List.mem_singleton] at hi; subst hi; exact hg.1))).trans (hb3.mono (by intro i hi _; rw [List.mem_singleton] at hi; subst hi; exact h.inF.1))
  refine ⟨{ fin := fun b hf => Nat.lt_of_lt_of_le (h.fin b hf) hbf.size, blk := ?_, inF := h.inF, order := ?_, ordF := fun x hx => by cases hx; exact hg, tables := ?_, nd := adel_nodup h.nd s, tab := fun t u hm => ?_, dom := fun t ht => ?_, len := Nat.le_trans (List.length_filter_le _ _) h.len, room := h.room }, hbf⟩
  · have := ((h.blk.but hb1 (by simpa using hne.1.symm)).but hb2 (by simpa using hg.2.symm)).set 1 (.slice (some ⟨g, 0, none⟩) (adel C s).length cap)
    exact this
  · refine ints_heap ho fun x hx => ?_
    cases hx
    exact hb3.block g (by have h1 := h.fin _ hg.1; have h2 := hb1.size; have h3 := hb2.size; exact Nat.lt_of_lt_of_le h1 (Nat.le_trans h2 h3)) (by simpa using hg.2)
  · exact (hG.but hb2 (by simpa using htg)).but hb3 (by simpa using hne.1)
  · have hmC := (mem_adel.1 hm).1
    have hts := (mem_adel.1 hm).2
    obtain ⟨m, h1, h2, h3, h4⟩ := h.tab t u hmC
    refine ⟨m, by rw [aget_del, if_neg hts]; exact h1, h2, ((h3.but hb1 (by simpa using h4)).but hb2 (by simpa using hmg t u m hmC h1)).but hb3 (by simpa using hne.2 t u m hmC h1), h4⟩
  · rw [aget_del] at ht
    by_cases e : t = s
    · rw [if_pos e] at ht; cases ht
    · rw [if_neg e] at ht
      obtain ⟨x, hx, rfl⟩ := List.mem_map.1 (h.dom t ht)
      exact List.mem_map.2 ⟨x, mem_adel.2 ⟨hx, e⟩, rfl⟩
end
set_option maxHeartbeats 2000000 in
set_option maxRecDepth 100000 in
theorem cdrop_any (w : World) (F : List Nat) (p tb room : Nat) (a : Option Addr) (cap : Nat) (C : CchT) (T : List (I64 × Nat)) (hC : ChC w F p tb room a cap C T) (s : I64) :
    Calls Tryz.prog 32 #[.pointer (some ⟨p, 0, none⟩), i64V s] w (RetCDrop w F p tb room C s) := by
  have HC := Lib.hid hC
  have hcl : C.length ≤ 4096 := Nat.le_trans hC.len hC.room
  have Hhas := Lib.hid (hC.has s)
  clear hC
  have Hg : Hid ((aget C s).isSome = true → ∃ g i, a = some ⟨g, 0, none⟩ ∧ cap ≤ 9223372036854775807 ∧ (∃ hi : i < C.length, C[i].1 = s)) := fun h => by
    have hm := (mem_aget HC.out.nd).1 h
    obtain ⟨i, hi, he⟩ := List.getElem_of_mem hm
    rw [List.getElem_map] at he
    rw [List.length_map] at hi
    rcases HC.out.order.2 with ⟨h1, h2⟩ | ⟨g, cp, cur, h1, _, _, _, h6, _⟩
    · rw [List.length_map] at h2; omega
    · injection h1 with h5 h6' h7
      subst h7
      refine ⟨g, i, h5, by unfold maxLen at h6; omega, hi, he⟩
  go_enter Tryz.func32, Tryz.ntmps32
  go_wp2_with fail
  refine (has_any w p tb room C.length cap a T HC.out.blk HC.out.tables s).mono ?_
  rintro e w1 ⟨rfl, hw1⟩
  rw [hw1, Hhas.out]
  clear hw1
  cases hs : (aget C s).isSome with
  | false =>
    have Hs := Lib.hid hs
    clear hs Hg
    go_wp2
    go_ret
    have hn : aget C s = none := by cases h : aget C s with
      | none => rfl
      | some v => have := Hs.out; rw [h] at this; cases this
    refine ⟨by rw [Hs.out]; rfl, a, cap, T, by rw [cadel_none C hn]; exact HC.out, But.refl _ _⟩
  | true =>
    obtain ⟨g, i, rfl, hcap, hi, his⟩ := Hg.out hs
    have Hs := Lib.hid hs
    have Hm : Hid (s ∈ C.map (·.1)) := (mem_aget HC.out.nd).1 hs
    clear hs Hg
    have c2 := HC.out.blk.cell (i := 2) rfl
    have Htp := Lib.hid HC.out.ne_p.1
    obtain ⟨⟨cs, hcs⟩, _⟩ := ints_cells HC.out.order rfl
    have Htg : Hid (tb ≠ g) := HC.out.tables.ne_cells hcs
    have Hgp := Lib.hid (HC.out.ordF _ rfl).2
    clear hcs his hi
    go_wp2_with (first | (refine wpList_plain rfl (fun K hK => ?_); refine Go.XR.wp_gm_delete (.tmp 13) (.tmp 14) 96 rfl keysI64 Tryz.underlying96 s rfl rfl HC.out.tables ?_; intro w2 hG2 hb2; refine hK _ _ ?_; clear hK K; refine Go.XR.stop (fun X hX => ?_)) | fail)
    refine hX.out ?_
    clear hX X
    have HG2 := Lib.hid hG2
    have Hb2 := Lib.hid hb2
    have c1 : w2.cell? ⟨p, 1, none⟩ = some (.slice (some ⟨g, 0, none⟩) C.length cap) := (HC.out.blk.but hb2 (by simpa using Htp.out.symm)).cell (i := 1) rfl
    have HO2 : Hid (ownInts w2 (some ⟨g, 0, none⟩) cap (C.map (·.1))) := ints_heap HC.out.order fun x hx => by
      cases hx
      exact hb2.block g (HC.out.fin _ (HC.out.ordF _ rfl).1) (by simpa using Htg.out.symm)
    have Hlm : Hid ((C.map (·.1)).length = C.length) := List.length_map ..
    clear hG2 hb2 c2
    go_wp2_with fail
    have hix := indexI_any w2 (some ⟨g, 0, none⟩) cap (C.map (·.1)) s (Row.owned HO2.out) (by rw [Hlm.out]; omega) Hm.out
    rw [Hlm.out] at hix
    refine hix.mono ?_
    clear hix
    rintro e w3 ⟨hb3, i, hi, his, rfl, _⟩
    have Hb3 := Lib.hid hb3
    have hi2 : i < C.length := by rw [Hlm.out] at hi; exact hi
    have Hdel : Hid ((C.map (·.1)).take i ++ (C.map (·.1)).drop (i + 1) = (adel C s).map (·.1)) := by
      unfold Hid
      rw [← List.eraseIdx_eq_take_drop_succ, ← map_erase, erase_adel HC.out.nd (j := i) (a := s) (b := C[i].2)]
      rw [List.getElem?_eq_getElem hi2]
      rw [List.getElem_map] at his
      rw [← his]
    have HO3 : Hid (ownInts w3 (some ⟨g, 0, none⟩) cap (C.map (·.1))) := ints_heap HO2.out fun x hx => by
      cases hx
      exact hb3.block g (Nat.lt_of_lt_of_le (HC.out.fin _ (HC.out.ordF _ rfl).1) Hb2.out.size)
    have c3 : w3.cell? ⟨p, 1, none⟩ = some (.slice (some ⟨g, 0, none⟩) C.length cap) := by
      rw [hb3.cell (p := ⟨p, 1, none⟩) (cell_lt c1)]; exact c1
    clear hb3 his c1
    go_wp2_with fail
    have hdl := deleteI_any w3 0 g cap (C.map (·.1)) HO3.out (by rw [Hlm.out]; omega) hcap i hi
    rw [Hlm.out] at hdl
    refine hdl.mono ?_
    clear hdl
    rintro e w4 ⟨rfl, ho4, hb4⟩
    rw [Hdel.out] at ho4 ⊢
    have Hend := Lib.hid (HC.out.drop rfl Hb2.out HG2.out ((But.of_below Hb3.out).trans hb4) ho4)
    have hfr : w4.frozen? ⟨p, 1, none⟩ = false := (((HC.out.blk.but Hb2.out (by simpa using Htp.out.symm)).below Hb3.out).but hb4 (by simpa using Hgp.out.symm)).free 1
    have hc4 : w4.cell? ⟨p, 1, none⟩ = some (.slice (some ⟨g, 0, none⟩) C.length cap) := hb4.cell c3 (by simpa using Hgp.out.symm)
    rw [List.length_map]
    clear ho4 hb4 c3
    go_wp2
    go_ret
    exact ⟨by rw [Hs.out]; rfl, _, _, _, Hend.out.1, Hend.out.2⟩
end Go.Proofs.YtnfbchhbcinloaaGreat

/- The walk over Drop. -/
namespace Go.Proofs.YtnfbchhbcinloaaGreat
open Go.RowKit Go.XR Go.IndexPure
set_option maxHeartbeats 1000000 in
set_option maxRecDepth 100000 in
theorem drop_none (w : World) (F : List Nat) (p : Nat) (D : List (KeyT × PlaceT)) (hI : Ix w F p D) (k : KeyT) (hk : aget D k = none) :
    Calls Tryz.prog 39 #[.pointer (some ⟨p, 0, none⟩), keyV k] w (RetDrop w F p D k) := by
  obtain ⟨pb, tb, sb, T, Sh, L, hC, hCo⟩ := hI
  obtain ⟨W0, hW0⟩ : ∃ W0, w.alloc (.cells (keyC k) 29) = W0 := ⟨_, rfl⟩
  have hb0 : Below w.heap.size w W0 := by rw [← hW0]; exact (Below.refl _ _).alloc (Nat.le_refl _) _
  have HK : Hid (At W0 w.heap.size 0 (keyC k)) := by unfold Hid; rw [← hW0]; exact At.new _ _ _
  have HC := Lib.hid (hC.below hb0)
  have Hb0 := Lib.hid hb0
  clear hC hb0
  obtain ⟨kb, hkb⟩ : ∃ kb, w.heap.size = kb := ⟨_, rfl⟩
  have Hkb := Lib.hid hkb
  rw [hkb] at HK
  go_enter Tryz.func39, Tryz.ntmps39
  go_wp2_with (first | (refine wpList_load_at rfl 29 _ rfl kb 0 rfl (keyC k) HK.out _ Tryz.underlying29 rfl (keySize k) ?_) | fail)
  refine (get_any W0 p pb tb sb D HC.out.blk HC.out.places k).mono ?_
  rintro e w1 ⟨rfl, hb1⟩
  rw [hk]
  have Hb1 := Lib.hid hb1
  clear hb1 hkb
  generalize (none : Option PlaceT).getD place0 = v0
  go_wp2_with (refine wpList_store_new rfl 40 _ _ rfl _ (placeC v0) _ rfl rfl rfl (one_placeL v0) (placeSize v0) ?_)
  go_ret
  have hb2 : Below W0.heap.size W0 (w1.alloc (.cells (placeC v0) 40)) := Hb1.out.alloc Hb1.out.size _
  exact ⟨by rw [hk]; rfl, F, ⟨pb, tb, sb, T, Sh, L, by rw [adel_none _ hk]; exact HC.out.below hb2, by rw [adel_none _ hk]; exact hCo⟩, But.of_below (Hb0.out.trans (hb2.mono Hb0.out.size)), Grew.refl _ _⟩
theorem mapV_val (Sh : List (I64 × Nat)) (s : I64) (m : Nat) (h : aget Sh s = some m) : ((aget Sh s).map mapV).getD (.map none) = .map (some m) := by rw [h]; rfl
theorem numV_val (T : List (SumT × NumRow)) (d : SumT) (r : NumRow) (h : aget T d = some r) : ((aget T d).map numV).getD (.slice none 0 0) = .slice r.a r.l.length r.c := by rw [h]; rfl
set_option maxHeartbeats 4000000 in
set_option maxRecDepth 100000 in
theorem drop_some (w : World) (F : List Nat) (p : Nat) (D : List (KeyT × PlaceT)) (hI : Ix w F p D) (hlen : D.length ≤ 2^20) (k : KeyT) (v : PlaceT) (hk : aget D k = some v) :
    Calls Tryz.prog 39 #[.pointer (some ⟨p, 0, none⟩), keyV k] w (RetDrop w F p D k) := by
  obtain ⟨pb, tb, sb, T, Sh, L, hC, hCo⟩ := hI
  obtain ⟨r, hr⟩ : ∃ r, aget T k.sum = some r := by
    have := (hCo.mem k.sum k.n).2 (by rw [key_eta, hk]; rfl)
    cases h : aget T k.sum with
    | some r => exact ⟨r, rfl⟩
    | none => rw [numsOf_eq, h] at this; cases this
  have hrl : numsOf T k.sum = r.l := by rw [numsOf_eq, hr]; rfl
  have hmem : k.n ∈ r.l := by rw [← hrl, hCo.mem, key_eta, hk]; rfl
  have hsorted := hCo.sorted k.sum
  rw [hrl] at hsorted
  have hll : r.l.length ≤ 2^20 := by have := hCo.nums_le k.sum; rw [hrl] at this; omega
  obtain ⟨s, hs⟩ : ∃ s : I64, v.shelf = s.1 := ⟨⟨v.shelf, (hCo.rng k v hk).1⟩, rfl⟩
  obtain ⟨m, hm, hkm⟩ := (hCo.sh s k).2 ⟨v, hk, hs⟩
  obtain ⟨ra, rc, rl⟩ := r
  obtain ⟨g, rfl⟩ : ∃ g, ra = some ⟨g, 0, none⟩ := by
    rcases (hC.row _ _ hr).1.2 with ⟨h1, h2⟩ | ⟨g, cap, cur, h1, _⟩
    · rw [List.eq_nil_of_length_eq_zero h2] at hmem; cases hmem
    · injection h1 with h5; exact ⟨g, h5⟩
  have hrc : rc ≤ 9223372036854775807 := by
    rcases (hC.row _ _ hr).1.2 with ⟨h1, h2⟩ | ⟨g, cap, cur, h1, _, _, _, h6, _⟩
    · cases h1
    · injection h1 with h5 h6' h7; subst h7; unfold maxLen at h6; omega
  have Hr := Lib.hid hr
  have Hmem := Lib.hid hmem
  have Hso := Lib.hid hsorted
  have Hs := Lib.hid hs
  have Hm := Lib.hid hm
  have HCo := Lib.hid hCo
  have Hk := Lib.hid hk
  clear hr hrl hmem hsorted hm hkm hCo hk hlen
  obtain ⟨W0, hW0⟩ : ∃ W0, w.alloc (.cells (keyC k) 29) = W0 := ⟨_, rfl⟩
  have hb0 : Below w.heap.size w W0 := by rw [← hW0]; exact (Below.refl _ _).alloc (Nat.le_refl _) _
  have HK : Hid (At W0 w.heap.size 0 (keyC k)) := by unfold Hid; rw [← hW0]; exact At.new _ _ _
  have HC0 := Lib.hid hC
  have HC := Lib.hid (hC.below hb0)
  have Hb0 := Lib.hid hb0
  clear hC hb0
  obtain ⟨kb, hkb⟩ : ∃ kb, w.heap.size = kb := ⟨_, rfl⟩
  have Hkb := Lib.hid hkb
  rw [hkb] at HK
  go_enter Tryz.func39, Tryz.ntmps39
  go_wp2_with (first | (refine wpList_load_at rfl 29 _ rfl kb 0 rfl (keyC k) HK.out _ Tryz.underlying29 rfl (keySize k) ?_) | fail)
  refine (get_any W0 p pb tb sb D HC.out.blk HC.out.places k).mono ?_
  rintro e w1 ⟨rfl, hb1⟩
  rw [Hk.out]
  rw [show (some v).getD place0 = v from rfl, show (some v).isSome = true from rfl]
  have Hb1 := Lib.hid hb1
  clear hb1 hkb
  obtain ⟨vb, hvb⟩ : ∃ vb, w1.heap.size = vb := ⟨_, rfl⟩
  obtain ⟨W1, hW1⟩ : ∃ W1, w1.alloc (.cells (placeC v) 40) = W1 := ⟨_, rfl⟩
  have HS : Hid (St w F kb k vb v W1 F p pb tb sb D T Sh L) := by
    have hb2 : Below W0.heap.size W0 W1 := by rw [← hW1]; exact Hb1.out.alloc Hb1.out.size _
    have hkl := HK.out.lt (by rw [keyC_size]; omega)
    refine ⟨HC.out.below hb2, HK.out.below (by rw [keyC_size]; omega) hb2, ?_, ⟨fun h => ?_, fun h => ?_⟩, But.of_below (Hb0.out.trans (hb2.mono Hb0.out.size)), Grew.refl _ _⟩
    · rw [← hW1, ← hvb]; exact Blk.new w1 (placeC v) _
    · have := HC0.out.fin _ h
      rw [Hkb.out] at this; omega
    · have := HC.out.fin _ h
      have h3 := Hb1.out.size
      omega
  have HvB := Lib.hid hvb
  have HW1 := Lib.hid hW1
  clear HK HC0 HC Hb0 Hb1 hvb hW1
  go_wp2_with (refine wpList_store_new rfl 40 _ _ rfl _ (placeC v) _ rfl rfl rfl (one_placeL v) (placeSize v) ?_)
  rw [HW1.out]
  rw [HvB.out]
  clear HW1 HvB hW0
  have c0 := HS.out.ix.blk.cell (i := 0) rfl
  have c1 := HS.out.ix.blk.cell (i := 1) rfl
  have c2 := HS.out.ix.blk.cell (i := 2) rfl
  have kn := HS.out.kn
  have vs := HS.out.vs
  rw [hs] at vs
  have HKa := Lib.hid HS.out.key
  refine Go.XR.region_sched ((· = W1.drew)) [(0, true), (1, true), (2, true), (3, true), (4, true), (5, false)] [5] Tryz.mixed (by kernel_rfl) (by kernel_rfl) (by kernel_rfl) ?_
  simp only [List.map_cons, List.map_nil, List.getElem?_cons_succ, List.getElem?_cons_zero]
  repeat (first | (refine Go.XR.S_light rfl rfl rfl ?_ (fun w' hS K hK => ?_) (fun K hK => ?_); rotate_left 1; (cases hS; (first | (first | (refine Go.XR.wp_load_at 29 _ rfl kb 0 rfl (keyC k) (At.drew HKa.out) _ Tryz.underlying29 rfl (keySize k) ?_) | (refine Go.XR.wp_load_at 26 _ rfl kb 0 rfl (sumC k.sum) (At.drew (key_at_sum HKa.out)) _ Tryz.underlying26 rfl (sumSize k.sum) ?_)) | go_step); exact hK); go_step; refine hK _ ?_; clear hK K))
  refine Go.XR.S_heavy (fun K hK => ?_)
  refine Go.XR.wp_gm_delete _ _ 100 rfl keysKey Tryz.underlying100 k rfl rfl (GM.block (w' := W1.drew) HS.out.ix.places rfl) ?_
  intro W2 hG2 hb2
  have HS2 := Lib.hid (HS.out.drew.step hb2 (by intro b hb; rw [List.mem_singleton] at hb; subst hb; exact .inl HS.out.ix.inF.2.1) (HS.out.drew.ix.places_to hb2 hG2) (Grew.refl _ _))
  refine hK _ _ ⟨fun h => by simp at h, ?_⟩
  clear hK K hG2 hb2
  clear c0 c1 c2 kn vs HKa
  clear HS
  have HS := HS2
  clear HS2
  have c0 := HS.out.ix.blk.cell (i := 0) rfl
  have c1 := HS.out.ix.blk.cell (i := 1) rfl
  have c2 := HS.out.ix.blk.cell (i := 2) rfl
  have kn := HS.out.kn
  have vs := HS.out.vs
  rw [hs] at vs
  have HKa := Lib.hid HS.out.key
  refine Go.XR.S_nil ?_
  go_wp2
  have Hv5 := Lib.hid (numV_val T k.sum _ Hr.out)
  refine Go.XR.region_sched ((· = W2.drew)) [(0, true), (1, true), (2, true), (3, true), (4, true), (5, true), (6, false), (7, false)] [6, 7] Tryz.mixed (by kernel_rfl) (by kernel_rfl) (by kernel_rfl) ?_
  simp only [List.map_cons, List.map_nil, List.getElem?_cons_succ, List.getElem?_cons_zero]
  repeat (first | (refine Go.XR.S_light rfl rfl rfl ?_ (fun w' hS K hK => ?_) (fun K hK => ?_); rotate_left 1; (cases hS; (first | (first | (refine Go.XR.wp_load_at 29 _ rfl kb 0 rfl (keyC k) (At.drew HKa.out) _ Tryz.underlying29 rfl (keySize k) ?_) | (refine Go.XR.wp_load_at 26 _ rfl kb 0 rfl (sumC k.sum) (At.drew (key_at_sum HKa.out)) _ Tryz.underlying26 rfl (sumSize k.sum) ?_)) | go_step); exact hK); go_step; refine hK _ ?_; clear hK K))
  refine Go.XR.S_heavy (fun K hK => ?_)
  refine Go.XR.wp_gm_lookup _ _ 101 rfl keysSum Tryz.underlying101 (.slice none 0 0) (fun w => Tryz.zeroValue109 w) k.sum _ rfl rfl (GM.block (w' := W2.drew) HS.out.ix.twins rfl) Hv5.out ?_
  refine hK _ _ ⟨fun _ => rfl, ?_⟩
  clear hK K
  repeat (first | (refine Go.XR.S_light rfl rfl rfl ?_ (fun w' hS K hK => ?_) (fun K hK => ?_); rotate_left 1; (cases hS; (first | (first | (refine Go.XR.wp_load_at 29 _ rfl kb 0 rfl (keyC k) (At.drew HKa.out) _ Tryz.underlying29 rfl (keySize k) ?_) | (refine Go.XR.wp_load_at 26 _ rfl kb 0 rfl (sumC k.sum) (At.drew (key_at_sum HKa.out)) _ Tryz.underlying26 rfl (sumSize k.sum) ?_)) | go_step); exact hK); go_step; refine hK _ ?_; clear hK K))
  refine Go.XR.S_heavy (fun K hK => ?_)
  go_step
  refine hK _ _ ⟨fun h => by simp at h, ?_⟩
  clear hK K Hv5
  refine Go.XR.S_nil ?_
  have HS2 := Lib.hid HS.out.drew
  clear HS
  clear c0 c1 c2 kn vs HKa
  generalize W2.drew = W3 at *
  have HS := HS2
  clear HS2
  have c0 := HS.out.ix.blk.cell (i := 0) rfl
  have c1 := HS.out.ix.blk.cell (i := 1) rfl
  have c2 := HS.out.ix.blk.cell (i := 2) rfl
  have kn := HS.out.kn
  have vs := HS.out.vs
  rw [hs] at vs
  have HKa := Lib.hid HS.out.key
  go_wp2_with fail
  refine (bsearch_any W3 (some ⟨g, 0, none⟩) rc rl (Row.owned (HS.out.ix.row _ _ Hr.out).1) (by omega) Hso.out k.n).mono ?_
  rintro e w4 ⟨⟨i, hlow, rfl⟩, hw4⟩
  rw [hw4]
  clear hw4 w4
  obtain ⟨hi, hni⟩ := low_at Hso.out hlow Hmem.out
  have Hni : Hid (∃ hi : i < rl.length, rl[i] = k.n) := ⟨hi, hni⟩
  clear hlow hni
  go_wp2
  obtain ⟨rl', hrl'⟩ : ∃ rl', rl.take i ++ rl.drop (i + 1) = rl' := ⟨_, rfl⟩
  have Hrl' := Lib.hid hrl'
  clear hrl'
  have HStd := Lib.hid HS.out.drew.std
  have hgF := ((HS.out.drew.ix.row _ _ Hr.out).2 _ rfl)
  refine Go.XR.region_sched ((Std p pb tb sb kb k vb v.shelf)) [(0, true), (1, true), (2, true), (3, true), (4, true), (5, true), (6, true), (7, true), (8, true), (9, true), (10, false), (11, false)] [11] Tryz.mixed (by kernel_rfl) (by kernel_rfl) (by kernel_rfl) ?_
  simp only [List.map_cons, List.map_nil, List.getElem?_cons_succ, List.getElem?_cons_zero]
  repeat (first | (refine Go.XR.S_light rfl rfl HStd.out ?_ (fun w' hS K hK => ?_) (fun K hK => ?_); rotate_left 1; (have s0 := hS.c1; (first | (refine Go.XR.wp_load_at 26 _ rfl kb 0 rfl (sumC k.sum) (key_at_sum hS.key) _ Tryz.underlying26 rfl (sumSize k.sum) ?_) | go_step); exact hK); go_step; refine hK _ ?_; clear hK K))
  refine Go.XR.S_heavy (fun K hK => ?_)
  go_step
  ((with_reducible refine (delete_any W3.drew 0 g rc rl (HS.out.drew.ix.row _ _ Hr.out).1 (by omega) hrc i hi).mono ?_); rintro e w4 ⟨rfl, ho4, hb4⟩)
  rw [Hrl'.out] at ho4 ⊢
  refine hK _ _ ⟨fun _ => HStd.out.but hb4 (fun h => hgF.2 (by rw [List.mem_singleton] at h; exact h.symm)) (fun h => HS.out.out.1 (by rw [List.mem_singleton] at h; rw [h]; exact hgF.1)) (fun h => HS.out.out.2 (by rw [List.mem_singleton] at h; rw [h]; exact hgF.1)), ?_⟩
  clear hK K
  refine Go.XR.S_heavy (fun K hK => ?_)
  refine wp_gm_update _ _ _ 101 rfl keysSum Tryz.underlying101 numV tb T k.sum ⟨some ⟨g, 0, none⟩, rc, rl'⟩ rfl rfl rfl (HS.out.drew.ix.twins.but hb4 (by have := (HS.out.drew.ix.row_ne Hr.out rfl).2.1; simpa using this)) ?_
  intro W5 hG5 hg5 _
  have HS2 : Hid (∃ F', St w F kb k vb v W5 F' p pb tb sb (adel D k) (aput T k.sum ⟨some ⟨g, 0, none⟩, rc, rl'⟩) Sh L) := by
    have h3 := HS.out.drew
    have hro : rowOf T k.sum = ⟨some ⟨g, 0, none⟩, rc, rl⟩ := by unfold rowOf; rw [Hr.out]; rfl
    obtain ⟨F', hix, hgr⟩ := h3.ix.row_to (d := k.sum) (r := ⟨some ⟨g, 0, none⟩, rc, rl'⟩) (w1 := w4) ⟨hb4.os, hb4.tape, hb4.output, hb4.size, fun b hb hne => hb4.block b hb (fun h => by rw [List.mem_singleton] at h; subst h; rw [hro] at hne; exact hne rfl)⟩ (.inl (by rw [hro])) ho4 (But.of_grown hg5) hG5
    refine ⟨F', h3.step (S := [g, tb]) ((hb4.mono (by simp)).trans ((But.of_grown hg5).mono (by simp))) (fun b hb => ?_) hix hgr⟩
    rcases List.mem_cons.1 hb with rfl | hb
    · exact .inl hgF.1
    · rw [List.mem_singleton] at hb; subst hb; exact .inl h3.ix.inF.2.2.1
  refine hK _ _ ⟨fun h => by simp at h, ?_⟩
  clear hK K hG5 hg5 ho4 hb4
  clear c0 c1 c2 kn vs HKa
  clear HS HStd hgF
  obtain ⟨F1, hS2⟩ := HS2
  have HS := Lib.hid hS2
  clear hS2
  have c0 := HS.out.ix.blk.cell (i := 0) rfl
  have c1 := HS.out.ix.blk.cell (i := 1) rfl
  have c2 := HS.out.ix.blk.cell (i := 2) rfl
  have kn := HS.out.kn
  have vs := HS.out.vs
  rw [hs] at vs
  have HKa := Lib.hid HS.out.key
  refine Go.XR.S_nil ?_
  go_wp2
  have hrl2 : rl'.length ≤ 2^20 := by
    have := congrArg List.length Hrl'.out
    rw [List.length_append, List.length_take, List.length_drop] at this
    omega
  have hrs : numV ⟨some ⟨g, 0, none⟩, rc, rl'⟩ = .slice (some ⟨g, 0, none⟩) rl'.length rc := rfl
  clear hrs
  by_cases hz : rl' = []
  · have hz0 : (rl'.length : Int) = 0 := by rw [hz]; rfl
    have Hz := Lib.hid hz
    clear hz
    have Hv8 := Lib.hid (numV_val (aput T k.sum ⟨some ⟨g, 0, none⟩, rc, rl'⟩) k.sum ⟨some ⟨g, 0, none⟩, rc, rl'⟩ (by rw [aget_put, if_pos rfl]))
    refine Go.XR.region_sched ((· = W5.drew)) [(0, true), (1, true), (2, true), (3, true), (4, true), (5, true), (6, false), (7, false), (8, false)] [6, 7, 8] Tryz.mixed (by kernel_rfl) (by kernel_rfl) (by kernel_rfl) ?_
    simp only [List.map_cons, List.map_nil, List.getElem?_cons_succ, List.getElem?_cons_zero]
    repeat (first | (refine Go.XR.S_light rfl rfl rfl ?_ (fun w' hS K hK => ?_) (fun K hK => ?_); rotate_left 1; (cases hS; (first | (first | (refine Go.XR.wp_load_at 29 _ rfl kb 0 rfl (keyC k) (At.drew HKa.out) _ Tryz.underlying29 rfl (keySize k) ?_) | (refine Go.XR.wp_load_at 26 _ rfl kb 0 rfl (sumC k.sum) (At.drew (key_at_sum HKa.out)) _ Tryz.underlying26 rfl (sumSize k.sum) ?_)) | go_step); exact hK); go_step; refine hK _ ?_; clear hK K))
    refine Go.XR.S_heavy (fun K hK => ?_)
    refine Go.XR.wp_gm_lookup _ _ 101 rfl keysSum Tryz.underlying101 (.slice none 0 0) (fun w => Tryz.zeroValue109 w) k.sum _ rfl rfl (GM.block (w' := W5.drew) HS.out.ix.twins rfl) Hv8.out ?_
    refine hK _ _ ⟨fun _ => rfl, ?_⟩
    clear hK K
    repeat (first | (refine Go.XR.S_light rfl rfl rfl ?_ (fun w' hS K hK => ?_) (fun K hK => ?_); rotate_left 1; (cases hS; (first | (first | (refine Go.XR.wp_load_at 29 _ rfl kb 0 rfl (keyC k) (At.drew HKa.out) _ Tryz.underlying29 rfl (keySize k) ?_) | (refine Go.XR.wp_load_at 26 _ rfl kb 0 rfl (sumC k.sum) (At.drew (key_at_sum HKa.out)) _ Tryz.underlying26 rfl (sumSize k.sum) ?_)) | go_step); exact hK); go_step; refine hK _ ?_; clear hK K))
    repeat (first | (refine Go.XR.S_heavy (fun K hK => ?_); go_step; refine hK _ _ ⟨fun h => by simp at h, ?_⟩; clear hK K))
    refine Go.XR.S_nil ?_
    have HS2 := Lib.hid HS.out.drew
    clear HS Hv8
    clear c0 c1 c2 kn vs HKa
    generalize W5.drew = W5 at *
    have HS := HS2
    clear HS2
    have c0 := HS.out.ix.blk.cell (i := 0) rfl
    have c1 := HS.out.ix.blk.cell (i := 1) rfl
    have c2 := HS.out.ix.blk.cell (i := 2) rfl
    have kn := HS.out.kn
    have vs := HS.out.vs
    rw [hs] at vs
    have HKa := Lib.hid HS.out.key
    go_wp2
    refine Go.XR.region_sched ((· = W5.drew)) [(0, true), (1, true), (2, true), (3, true), (4, true), (5, true), (6, false)] [6] Tryz.mixed (by kernel_rfl) (by kernel_rfl) (by kernel_rfl) ?_
    simp only [List.map_cons, List.map_nil, List.getElem?_cons_succ, List.getElem?_cons_zero]
    repeat (first | (refine Go.XR.S_light rfl rfl rfl ?_ (fun w' hS K hK => ?_) (fun K hK => ?_); rotate_left 1; (cases hS; (first | (first | (refine Go.XR.wp_load_at 29 _ rfl kb 0 rfl (keyC k) (At.drew HKa.out) _ Tryz.underlying29 rfl (keySize k) ?_) | (refine Go.XR.wp_load_at 26 _ rfl kb 0 rfl (sumC k.sum) (At.drew (key_at_sum HKa.out)) _ Tryz.underlying26 rfl (sumSize k.sum) ?_)) | go_step); exact hK); go_step; refine hK _ ?_; clear hK K))
    refine Go.XR.S_heavy (fun K hK => ?_)
    refine Go.XR.wp_gm_delete _ _ 101 rfl keysSum Tryz.underlying101 k.sum rfl rfl (GM.block (w' := W5.drew) HS.out.ix.twins rfl) ?_
    intro W6 hG6 hb6
    obtain ⟨T', hT'⟩ : ∃ T', adel (aput T k.sum ⟨some ⟨g, 0, none⟩, rc, rl'⟩) k.sum = T' := ⟨_, rfl⟩
    have HT : Hid (∀ d, aget T' d = if d = k.sum then (if rl' = [] then none else some (⟨some ⟨g, 0, none⟩, rc, rl'⟩ : NumRow)) else aget T d) := fun d => by
      rw [← hT', aget_del, aget_put]
      by_cases e : d = k.sum
      · rw [if_pos e, if_pos e, if_pos Hz.out]
      · rw [if_neg e, if_neg e, if_neg e]
    rw [hT'] at hG6
    have HS2 := Lib.hid (HS.out.drew.step hb6 (by intro b hb; rw [List.mem_singleton] at hb; subst hb; exact .inl HS.out.ix.inF.2.2.1) (HS.out.drew.ix.twins_less hb6 hG6 (fun d r hr => by
      rw [← hT', aget_del] at hr
      split at hr
      · cases hr
      · exact hr)) (Grew.refl _ _))
    refine hK _ _ ⟨fun h => by simp at h, ?_⟩
    clear hK K hG6 hb6 hT'
    clear c0 c1 c2 kn vs HKa
    clear HS
    have HS := HS2
    clear HS2
    refine Go.XR.S_nil ?_
    have c0 := HS.out.ix.blk.cell (i := 0) rfl
    have c1 := HS.out.ix.blk.cell (i := 1) rfl
    have c2 := HS.out.ix.blk.cell (i := 2) rfl
    have kn := HS.out.kn
    have vs := HS.out.vs
    rw [hs] at vs
    have HKa := Lib.hid HS.out.key
    go_wp2
    have Hv10 := Lib.hid (mapV_val Sh s m Hm.out)
    refine Go.XR.region_sched ((· = W6.drew)) [(0, true), (1, true), (2, true), (3, true), (4, true), (5, true), (7, true), (6, false), (8, false)] [8] Tryz.mixed (by kernel_rfl) (by kernel_rfl) (by kernel_rfl) ?_
    simp only [List.map_cons, List.map_nil, List.getElem?_cons_succ, List.getElem?_cons_zero]
    repeat (first | (refine Go.XR.S_light rfl rfl rfl ?_ (fun w' hS K hK => ?_) (fun K hK => ?_); rotate_left 1; (cases hS; (first | (first | (refine Go.XR.wp_load_at 29 _ rfl kb 0 rfl (keyC k) (At.drew HKa.out) _ Tryz.underlying29 rfl (keySize k) ?_) | (refine Go.XR.wp_load_at 26 _ rfl kb 0 rfl (sumC k.sum) (At.drew (key_at_sum HKa.out)) _ Tryz.underlying26 rfl (sumSize k.sum) ?_)) | go_step); exact hK); go_step; refine hK _ ?_; clear hK K))
    refine Go.XR.S_heavy (fun K hK => ?_)
    refine Go.XR.wp_gm_lookup _ _ 102 rfl keysI64 Tryz.underlying102 (.map none) (fun w => Tryz.zeroValue113 w) s _ rfl rfl (GM.block (w' := W6.drew) HS.out.ix.shelves rfl) Hv10.out ?_
    refine hK _ _ ⟨fun _ => rfl, ?_⟩
    clear hK K
    repeat (first | (refine Go.XR.S_light rfl rfl rfl ?_ (fun w' hS K hK => ?_) (fun K hK => ?_); rotate_left 1; (cases hS; (first | (first | (refine Go.XR.wp_load_at 29 _ rfl kb 0 rfl (keyC k) (At.drew HKa.out) _ Tryz.underlying29 rfl (keySize k) ?_) | (refine Go.XR.wp_load_at 26 _ rfl kb 0 rfl (sumC k.sum) (At.drew (key_at_sum HKa.out)) _ Tryz.underlying26 rfl (sumSize k.sum) ?_)) | go_step); exact hK); go_step; refine hK _ ?_; clear hK K))
    refine Go.XR.S_heavy (fun K hK => ?_)
    refine Go.XR.wp_gm_delete _ _ 113 rfl keysKey Tryz.underlying113 k rfl rfl (GM.block (w' := W6.drew) (HS.out.ix.shelf s m Hm.out).2.1 rfl) ?_
    intro W7 hG7 hb7
    have HS2 := Lib.hid (HS.out.drew.step hb7 (by intro b hb; rw [List.mem_singleton] at hb; subst hb; exact .inl (HS.out.ix.shelf s _ Hm.out).1) (HS.out.drew.ix.shelf_to Hm.out hb7 hG7) (Grew.refl _ _))
    refine hK _ _ ⟨fun h => by simp at h, ?_⟩
    clear hK K hG7 hb7
    clear c0 c1 c2 kn vs HKa
    clear HS
    have HS := HS2
    clear HS2
    refine Go.XR.S_nil ?_
    have c0 := HS.out.ix.blk.cell (i := 0) rfl
    have c1 := HS.out.ix.blk.cell (i := 1) rfl
    have c2 := HS.out.ix.blk.cell (i := 2) rfl
    have kn := HS.out.kn
    have vs := HS.out.vs
    rw [hs] at vs
    have HKa := Lib.hid HS.out.key
    go_wp2
    have HL7 : Hid (GM keyV unitV W7.drew m (adel (L m) k)) := by
      have := (HS.out.drew.ix.shelf s m Hm.out).2.1
      rw [if_pos rfl] at this
      exact this
    by_cases hq : adel (L m) k = []
    · have hq0 : ((adel (L m) k).length : Int) = 0 := by rw [hq]; rfl
      have Hq := Lib.hid hq
      clear hq
      have Hv11 := Lib.hid (mapV_val Sh s m Hm.out)
      refine Go.XR.region_sched ((· = W7.drew)) [(0, true), (1, true), (2, true), (3, true), (4, true), (5, true), (6, false), (7, false), (8, false)] [6, 7, 8] Tryz.mixed (by kernel_rfl) (by kernel_rfl) (by kernel_rfl) ?_
      simp only [List.map_cons, List.map_nil, List.getElem?_cons_succ, List.getElem?_cons_zero]
      repeat (first | (refine Go.XR.S_light rfl rfl rfl ?_ (fun w' hS K hK => ?_) (fun K hK => ?_); rotate_left 1; (cases hS; (first | (first | (refine Go.XR.wp_load_at 29 _ rfl kb 0 rfl (keyC k) (At.drew HKa.out) _ Tryz.underlying29 rfl (keySize k) ?_) | (refine Go.XR.wp_load_at 26 _ rfl kb 0 rfl (sumC k.sum) (At.drew (key_at_sum HKa.out)) _ Tryz.underlying26 rfl (sumSize k.sum) ?_)) | go_step); exact hK); go_step; refine hK _ ?_; clear hK K))
      refine Go.XR.S_heavy (fun K hK => ?_)
      refine Go.XR.wp_gm_lookup _ _ 102 rfl keysI64 Tryz.underlying102 (.map none) (fun w => Tryz.zeroValue113 w) s _ rfl rfl (GM.block (w' := W7.drew) HS.out.ix.shelves rfl) Hv11.out ?_
      refine hK _ _ ⟨fun _ => rfl, ?_⟩
      clear hK K
      repeat (first | (refine Go.XR.S_light rfl rfl rfl ?_ (fun w' hS K hK => ?_) (fun K hK => ?_); rotate_left 1; (cases hS; (first | (first | (refine Go.XR.wp_load_at 29 _ rfl kb 0 rfl (keyC k) (At.drew HKa.out) _ Tryz.underlying29 rfl (keySize k) ?_) | (refine Go.XR.wp_load_at 26 _ rfl kb 0 rfl (sumC k.sum) (At.drew (key_at_sum HKa.out)) _ Tryz.underlying26 rfl (sumSize k.sum) ?_)) | go_step); exact hK); go_step; refine hK _ ?_; clear hK K))
      refine Go.XR.S_heavy (fun K hK => ?_)
      refine Go.XR.wp_gm_len _ 113 rfl Tryz.underlying113 rfl HL7.out ?_
      refine hK _ _ ⟨fun h => by simp at h, ?_⟩
      clear hK K
      repeat (first | (refine Go.XR.S_heavy (fun K hK => ?_); go_step; refine hK _ _ ⟨fun h => by simp at h, ?_⟩; clear hK K))
      refine Go.XR.S_nil ?_
      have HS2 := Lib.hid HS.out.drew
      clear HS Hv11 HL7
      clear c0 c1 c2 kn vs HKa
      generalize W7.drew = W7 at *
      have HS := HS2
      clear HS2
      have c0 := HS.out.ix.blk.cell (i := 0) rfl
      have c1 := HS.out.ix.blk.cell (i := 1) rfl
      have c2 := HS.out.ix.blk.cell (i := 2) rfl
      have kn := HS.out.kn
      have vs := HS.out.vs
      rw [hs] at vs
      have HKa := Lib.hid HS.out.key
      go_wp2
      refine Go.XR.region_sched ((· = W7.drew)) [(0, true), (1, true), (2, true), (3, true), (4, true), (5, true), (6, false)] [6] Tryz.mixed (by kernel_rfl) (by kernel_rfl) (by kernel_rfl) ?_
      simp only [List.map_cons, List.map_nil, List.getElem?_cons_succ, List.getElem?_cons_zero]
      repeat (first | (refine Go.XR.S_light rfl rfl rfl ?_ (fun w' hS K hK => ?_) (fun K hK => ?_); rotate_left 1; (cases hS; (first | (first | (refine Go.XR.wp_load_at 29 _ rfl kb 0 rfl (keyC k) (At.drew HKa.out) _ Tryz.underlying29 rfl (keySize k) ?_) | (refine Go.XR.wp_load_at 26 _ rfl kb 0 rfl (sumC k.sum) (At.drew (key_at_sum HKa.out)) _ Tryz.underlying26 rfl (sumSize k.sum) ?_)) | go_step); exact hK); go_step; refine hK _ ?_; clear hK K))
      refine Go.XR.S_heavy (fun K hK => ?_)
      refine Go.XR.wp_gm_delete _ _ 102 rfl keysI64 Tryz.underlying102 s rfl rfl (GM.block (w' := W7.drew) HS.out.ix.shelves rfl) ?_
      intro W8 hG8 hb8
      have HS2 := Lib.hid (HS.out.drew.step hb8 (by intro b hb; rw [List.mem_singleton] at hb; subst hb; exact .inl HS.out.ix.inF.2.2.2) (HS.out.drew.ix.shelves_to hb8 hG8 (fun t n hn => by
        rw [aget_del] at hn
        split at hn
        · cases hn
        · exact hn)) (Grew.refl _ _))
      refine hK _ _ ⟨fun h => by simp at h, ?_⟩
      clear hK K hG8 hb8
      clear c0 c1 c2 kn vs HKa
      refine Go.XR.S_nil ?_
      go_wp2
      go_ret
      obtain ⟨hi', hni'⟩ := Hni.out
      refine ⟨by rw [Hk.out]; rfl, F1, ⟨pb, tb, sb, T', _, _, HS2.out.ix, HCo.out.drop HS.out.ix.shelfApart Hk.out Hs.out Hm.out Hr.out hi' hni' (r' := ⟨some ⟨g, 0, none⟩, rc, rl'⟩) Hrl'.out.symm HT.out (fun t => ?_)⟩, HS2.out.but, HS2.out.grew⟩
      rw [aget_del]
      by_cases e : t = s
      · rw [if_pos e, if_pos ⟨e, Hq.out⟩]
      · rw [if_neg e, if_neg (fun h => e h.1)]
    · have hq0 : ¬ ((adel (L m) k).length : Int) = 0 := by
        have := List.length_pos_iff.2 hq
        omega
      have hbq : (((adel (L m) k).length : Int) == 0) = false := by rw [beq_eq_false_iff_ne]; exact hq0
      have Hq := Lib.hid hq
      clear hq
      have Hv11 := Lib.hid (mapV_val Sh s m Hm.out)
      refine Go.XR.region_sched ((· = W7.drew)) [(0, true), (1, true), (2, true), (3, true), (4, true), (5, true), (6, false), (7, false), (8, false)] [6, 7, 8] Tryz.mixed (by kernel_rfl) (by kernel_rfl) (by kernel_rfl) ?_
      simp only [List.map_cons, List.map_nil, List.getElem?_cons_succ, List.getElem?_cons_zero]
      repeat (first | (refine Go.XR.S_light rfl rfl rfl ?_ (fun w' hS K hK => ?_) (fun K hK => ?_); rotate_left 1; (cases hS; (first | (first | (refine Go.XR.wp_load_at 29 _ rfl kb 0 rfl (keyC k) (At.drew HKa.out) _ Tryz.underlying29 rfl (keySize k) ?_) | (refine Go.XR.wp_load_at 26 _ rfl kb 0 rfl (sumC k.sum) (At.drew (key_at_sum HKa.out)) _ Tryz.underlying26 rfl (sumSize k.sum) ?_)) | go_step); exact hK); go_step; refine hK _ ?_; clear hK K))
      refine Go.XR.S_heavy (fun K hK => ?_)
      refine Go.XR.wp_gm_lookup _ _ 102 rfl keysI64 Tryz.underlying102 (.map none) (fun w => Tryz.zeroValue113 w) s _ rfl rfl (GM.block (w' := W7.drew) HS.out.ix.shelves rfl) Hv11.out ?_
      refine hK _ _ ⟨fun _ => rfl, ?_⟩
      clear hK K
      repeat (first | (refine Go.XR.S_light rfl rfl rfl ?_ (fun w' hS K hK => ?_) (fun K hK => ?_); rotate_left 1; (cases hS; (first | (first | (refine Go.XR.wp_load_at 29 _ rfl kb 0 rfl (keyC k) (At.drew HKa.out) _ Tryz.underlying29 rfl (keySize k) ?_) | (refine Go.XR.wp_load_at 26 _ rfl kb 0 rfl (sumC k.sum) (At.drew (key_at_sum HKa.out)) _ Tryz.underlying26 rfl (sumSize k.sum) ?_)) | go_step); exact hK); go_step; refine hK _ ?_; clear hK K))
      refine Go.XR.S_heavy (fun K hK => ?_)
      refine Go.XR.wp_gm_len _ 113 rfl Tryz.underlying113 rfl HL7.out ?_
      refine hK _ _ ⟨fun h => by simp at h, ?_⟩
      clear hK K
      repeat (first | (refine Go.XR.S_heavy (fun K hK => ?_); go_step; refine hK _ _ ⟨fun h => by simp at h, ?_⟩; clear hK K))
      refine Go.XR.S_nil ?_
      have HS2 := Lib.hid HS.out.drew
      clear HS Hv11 HL7
      clear c0 c1 c2 kn vs HKa
      generalize W7.drew = W7 at *
      have HS := HS2
      clear HS2
      have c0 := HS.out.ix.blk.cell (i := 0) rfl
      have c1 := HS.out.ix.blk.cell (i := 1) rfl
      have c2 := HS.out.ix.blk.cell (i := 2) rfl
      have kn := HS.out.kn
      have vs := HS.out.vs
      rw [hs] at vs
      have HKa := Lib.hid HS.out.key
      go_wp2
      go_ret
      obtain ⟨hi', hni'⟩ := Hni.out
      refine ⟨by rw [Hk.out]; rfl, F1, ⟨pb, tb, sb, T', _, _, HS.out.ix, HCo.out.drop HS.out.ix.shelfApart Hk.out Hs.out Hm.out Hr.out hi' hni' (r' := ⟨some ⟨g, 0, none⟩, rc, rl'⟩) Hrl'.out.symm HT.out (fun t => ?_)⟩, HS.out.but, HS.out.grew⟩
      rw [if_neg (fun h => Hq.out h.2)]
  · have hz0 : ¬ (rl'.length : Int) = 0 := by
      have := List.length_pos_iff.2 hz
      omega
    have hbz : ((rl'.length : Int) == 0) = false := by rw [beq_eq_false_iff_ne]; exact hz0
    have Hz := Lib.hid hz
    clear hz
    have Hv8 := Lib.hid (numV_val (aput T k.sum ⟨some ⟨g, 0, none⟩, rc, rl'⟩) k.sum ⟨some ⟨g, 0, none⟩, rc, rl'⟩ (by rw [aget_put, if_pos rfl]))
    refine Go.XR.region_sched ((· = W5.drew)) [(0, true), (1, true), (2, true), (3, true), (4, true), (5, true), (6, false), (7, false), (8, false)] [6, 7, 8] Tryz.mixed (by kernel_rfl) (by kernel_rfl) (by kernel_rfl) ?_
    simp only [List.map_cons, List.map_nil, List.getElem?_cons_succ, List.getElem?_cons_zero]
    repeat (first | (refine Go.XR.S_light rfl rfl rfl ?_ (fun w' hS K hK => ?_) (fun K hK => ?_); rotate_left 1; (cases hS; (first | (first | (refine Go.XR.wp_load_at 29 _ rfl kb 0 rfl (keyC k) (At.drew HKa.out) _ Tryz.underlying29 rfl (keySize k) ?_) | (refine Go.XR.wp_load_at 26 _ rfl kb 0 rfl (sumC k.sum) (At.drew (key_at_sum HKa.out)) _ Tryz.underlying26 rfl (sumSize k.sum) ?_)) | go_step); exact hK); go_step; refine hK _ ?_; clear hK K))
    refine Go.XR.S_heavy (fun K hK => ?_)
    refine Go.XR.wp_gm_lookup _ _ 101 rfl keysSum Tryz.underlying101 (.slice none 0 0) (fun w => Tryz.zeroValue109 w) k.sum _ rfl rfl (GM.block (w' := W5.drew) HS.out.ix.twins rfl) Hv8.out ?_
    refine hK _ _ ⟨fun _ => rfl, ?_⟩
    clear hK K
    repeat (first | (refine Go.XR.S_light rfl rfl rfl ?_ (fun w' hS K hK => ?_) (fun K hK => ?_); rotate_left 1; (cases hS; (first | (first | (refine Go.XR.wp_load_at 29 _ rfl kb 0 rfl (keyC k) (At.drew HKa.out) _ Tryz.underlying29 rfl (keySize k) ?_) | (refine Go.XR.wp_load_at 26 _ rfl kb 0 rfl (sumC k.sum) (At.drew (key_at_sum HKa.out)) _ Tryz.underlying26 rfl (sumSize k.sum) ?_)) | go_step); exact hK); go_step; refine hK _ ?_; clear hK K))
    repeat (first | (refine Go.XR.S_heavy (fun K hK => ?_); go_step; refine hK _ _ ⟨fun h => by simp at h, ?_⟩; clear hK K))
    refine Go.XR.S_nil ?_
    have HS2 := Lib.hid HS.out.drew
    clear HS Hv8
    clear c0 c1 c2 kn vs HKa
    generalize W5.drew = W5 at *
    have HS := HS2
    clear HS2
    have c0 := HS.out.ix.blk.cell (i := 0) rfl
    have c1 := HS.out.ix.blk.cell (i := 1) rfl
    have c2 := HS.out.ix.blk.cell (i := 2) rfl
    have kn := HS.out.kn
    have vs := HS.out.vs
    rw [hs] at vs
    have HKa := Lib.hid HS.out.key
    obtain ⟨T', hT'⟩ : ∃ T', aput T k.sum ⟨some ⟨g, 0, none⟩, rc, rl'⟩ = T' := ⟨_, rfl⟩
    have HT : Hid (∀ d, aget T' d = if d = k.sum then (if rl' = [] then none else some (⟨some ⟨g, 0, none⟩, rc, rl'⟩ : NumRow)) else aget T d) := fun d => by
      rw [← hT', aget_put, if_neg Hz.out]
    rw [hT'] at HS
    clear hT' hbz
    generalize W5 = W6 at *
    have c0 := HS.out.ix.blk.cell (i := 0) rfl
    have c1 := HS.out.ix.blk.cell (i := 1) rfl
    have c2 := HS.out.ix.blk.cell (i := 2) rfl
    have kn := HS.out.kn
    have vs := HS.out.vs
    rw [hs] at vs
    have HKa := Lib.hid HS.out.key
    go_wp2
    have Hv10 := Lib.hid (mapV_val Sh s m Hm.out)
    refine Go.XR.region_sched ((· = W6.drew)) [(0, true), (1, true), (2, true), (3, true), (4, true), (5, true), (7, true), (6, false), (8, false)] [8] Tryz.mixed (by kernel_rfl) (by kernel_rfl) (by kernel_rfl) ?_
    simp only [List.map_cons, List.map_nil, List.getElem?_cons_succ, List.getElem?_cons_zero]
    repeat (first | (refine Go.XR.S_light rfl rfl rfl ?_ (fun w' hS K hK => ?_) (fun K hK => ?_); rotate_left 1; (cases hS; (first | (first | (refine Go.XR.wp_load_at 29 _ rfl kb 0 rfl (keyC k) (At.drew HKa.out) _ Tryz.underlying29 rfl (keySize k) ?_) | (refine Go.XR.wp_load_at 26 _ rfl kb 0 rfl (sumC k.sum) (At.drew (key_at_sum HKa.out)) _ Tryz.underlying26 rfl (sumSize k.sum) ?_)) | go_step); exact hK); go_step; refine hK _ ?_; clear hK K))
    refine Go.XR.S_heavy (fun K hK => ?_)
    refine Go.XR.wp_gm_lookup _ _ 102 rfl keysI64 Tryz.underlying102 (.map none) (fun w => Tryz.zeroValue113 w) s _ rfl rfl (GM.block (w' := W6.drew) HS.out.ix.shelves rfl) Hv10.out ?_
    refine hK _ _ ⟨fun _ => rfl, ?_⟩
    clear hK K
    repeat (first | (refine Go.XR.S_light rfl rfl rfl ?_ (fun w' hS K hK => ?_) (fun K hK => ?_); rotate_left 1; (cases hS; (first | (first | (refine Go.XR.wp_load_at 29 _ rfl kb 0 rfl (keyC k) (At.drew HKa.out) _ Tryz.underlying29 rfl (keySize k) ?_) | (refine Go.XR.wp_load_at 26 _ rfl kb 0 rfl (sumC k.sum) (At.drew (key_at_sum HKa.out)) _ Tryz.underlying26 rfl (sumSize k.sum) ?_)) | go_step); exact hK); go_step; refine hK _ ?_; clear hK K))
    refine Go.XR.S_heavy (fun K hK => ?_)
    refine Go.XR.wp_gm_delete _ _ 113 rfl keysKey Tryz.underlying113 k rfl rfl (GM.block (w' := W6.drew) (HS.out.ix.shelf s m Hm.out).2.1 rfl) ?_
    intro W7 hG7 hb7
    have HS2 := Lib.hid (HS.out.drew.step hb7 (by intro b hb; rw [List.mem_singleton] at hb; subst hb; exact .inl (HS.out.ix.shelf s _ Hm.out).1) (HS.out.drew.ix.shelf_to Hm.out hb7 hG7) (Grew.refl _ _))
    refine hK _ _ ⟨fun h => by simp at h, ?_⟩
    clear hK K hG7 hb7
    clear c0 c1 c2 kn vs HKa
    clear HS
    have HS := HS2
    clear HS2
    refine Go.XR.S_nil ?_
    have c0 := HS.out.ix.blk.cell (i := 0) rfl
    have c1 := HS.out.ix.blk.cell (i := 1) rfl
    have c2 := HS.out.ix.blk.cell (i := 2) rfl
    have kn := HS.out.kn
    have vs := HS.out.vs
    rw [hs] at vs
    have HKa := Lib.hid HS.out.key
    go_wp2
    have HL7 : Hid (GM keyV unitV W7.drew m (adel (L m) k)) := by
      have := (HS.out.drew.ix.shelf s m Hm.out).2.1
      rw [if_pos rfl] at this
      exact this
    by_cases hq : adel (L m) k = []
    · have hq0 : ((adel (L m) k).length : Int) = 0 := by rw [hq]; rfl
      have Hq := Lib.hid hq
      clear hq
      have Hv11 := Lib.hid (mapV_val Sh s m Hm.out)
      refine Go.XR.region_sched ((· = W7.drew)) [(0, true), (1, true), (2, true), (3, true), (4, true), (5, true), (6, false), (7, false), (8, false)] [6, 7, 8] Tryz.mixed (by kernel_rfl) (by kernel_rfl) (by kernel_rfl) ?_
      simp only [List.map_cons, List.map_nil, List.getElem?_cons_succ, List.getElem?_cons_zero]
      repeat (first | (refine Go.XR.S_light rfl rfl rfl ?_ (fun w' hS K hK => ?_) (fun K hK => ?_); rotate_left 1; (cases hS; (first | (first | (refine Go.XR.wp_load_at 29 _ rfl kb 0 rfl (keyC k) (At.drew HKa.out) _ Tryz.underlying29 rfl (keySize k) ?_) | (refine Go.XR.wp_load_at 26 _ rfl kb 0 rfl (sumC k.sum) (At.drew (key_at_sum HKa.out)) _ Tryz.underlying26 rfl (sumSize k.sum) ?_)) | go_step); exact hK); go_step; refine hK _ ?_; clear hK K))
      refine Go.XR.S_heavy (fun K hK => ?_)
      refine Go.XR.wp_gm_lookup _ _ 102 rfl keysI64 Tryz.underlying102 (.map none) (fun w => Tryz.zeroValue113 w) s _ rfl rfl (GM.block (w' := W7.drew) HS.out.ix.shelves rfl) Hv11.out ?_
      refine hK _ _ ⟨fun _ => rfl, ?_⟩
      clear hK K
      repeat (first | (refine Go.XR.S_light rfl rfl rfl ?_ (fun w' hS K hK => ?_) (fun K hK => ?_); rotate_left 1; (cases hS; (first | (first | (refine Go.XR.wp_load_at 29 _ rfl kb 0 rfl (keyC k) (At.drew HKa.out) _ Tryz.underlying29 rfl (keySize k) ?_) | (refine Go.XR.wp_load_at 26 _ rfl kb 0 rfl (sumC k.sum) (At.drew (key_at_sum HKa.out)) _ Tryz.underlying26 rfl (sumSize k.sum) ?_)) | go_step); exact hK); go_step; refine hK _ ?_; clear hK K))
      refine Go.XR.S_heavy (fun K hK => ?_)
      refine Go.XR.wp_gm_len _ 113 rfl Tryz.underlying113 rfl HL7.out ?_
      refine hK _ _ ⟨fun h => by simp at h, ?_⟩
      clear hK K
      repeat (first | (refine Go.XR.S_heavy (fun K hK => ?_); go_step; refine hK _ _ ⟨fun h => by simp at h, ?_⟩; clear hK K))
      refine Go.XR.S_nil ?_
      have HS2 := Lib.hid HS.out.drew
      clear HS Hv11 HL7
      clear c0 c1 c2 kn vs HKa
      generalize W7.drew = W7 at *
      have HS := HS2
      clear HS2
      have c0 := HS.out.ix.blk.cell (i := 0) rfl
      have c1 := HS.out.ix.blk.cell (i := 1) rfl
      have c2 := HS.out.ix.blk.cell (i := 2) rfl
      have kn := HS.out.kn
      have vs := HS.out.vs
      rw [hs] at vs
      have HKa := Lib.hid HS.out.key
      go_wp2
      refine Go.XR.region_sched ((· = W7.drew)) [(0, true), (1, true), (2, true), (3, true), (4, true), (5, true), (6, false)] [6] Tryz.mixed (by kernel_rfl) (by kernel_rfl) (by kernel_rfl) ?_
      simp only [List.map_cons, List.map_nil, List.getElem?_cons_succ, List.getElem?_cons_zero]
      repeat (first | (refine Go.XR.S_light rfl rfl rfl ?_ (fun w' hS K hK => ?_) (fun K hK => ?_); rotate_left 1; (cases hS; (first | (first | (refine Go.XR.wp_load_at 29 _ rfl kb 0 rfl (keyC k) (At.drew HKa.out) _ Tryz.underlying29 rfl (keySize k) ?_) | (refine Go.XR.wp_load_at 26 _ rfl kb 0 rfl (sumC k.sum) (At.drew (key_at_sum HKa.out)) _ Tryz.underlying26 rfl (sumSize k.sum) ?_)) | go_step); exact hK); go_step; refine hK _ ?_; clear hK K))
      refine Go.XR.S_heavy (fun K hK => ?_)
      refine Go.XR.wp_gm_delete _ _ 102 rfl keysI64 Tryz.underlying102 s rfl rfl (GM.block (w' := W7.drew) HS.out.ix.shelves rfl) ?_
      intro W8 hG8 hb8
      have HS2 := Lib.hid (HS.out.drew.step hb8 (by intro b hb; rw [List.mem_singleton] at hb; subst hb; exact .inl HS.out.ix.inF.2.2.2) (HS.out.drew.ix.shelves_to hb8 hG8 (fun t n hn => by
        rw [aget_del] at hn
        split at hn
        · cases hn
        · exact hn)) (Grew.refl _ _))
      refine hK _ _ ⟨fun h => by simp at h, ?_⟩
      clear hK K hG8 hb8
      clear c0 c1 c2 kn vs HKa
      refine Go.XR.S_nil ?_
      go_wp2
      go_ret
      obtain ⟨hi', hni'⟩ := Hni.out
      refine ⟨by rw [Hk.out]; rfl, F1, ⟨pb, tb, sb, T', _, _, HS2.out.ix, HCo.out.drop HS.out.ix.shelfApart Hk.out Hs.out Hm.out Hr.out hi' hni' (r' := ⟨some ⟨g, 0, none⟩, rc, rl'⟩) Hrl'.out.symm HT.out (fun t => ?_)⟩, HS2.out.but, HS2.out.grew⟩
      rw [aget_del]
      by_cases e : t = s
      · rw [if_pos e, if_pos ⟨e, Hq.out⟩]
      · rw [if_neg e, if_neg (fun h => e h.1)]
    · have hq0 : ¬ ((adel (L m) k).length : Int) = 0 := by
        have := List.length_pos_iff.2 hq
        omega
      have hbq : (((adel (L m) k).length : Int) == 0) = false := by rw [beq_eq_false_iff_ne]; exact hq0
      have Hq := Lib.hid hq
      clear hq
      have Hv11 := Lib.hid (mapV_val Sh s m Hm.out)
      refine Go.XR.region_sched ((· = W7.drew)) [(0, true), (1, true), (2, true), (3, true), (4, true), (5, true), (6, false), (7, false), (8, false)] [6, 7, 8] Tryz.mixed (by kernel_rfl) (by kernel_rfl) (by kernel_rfl) ?_
      simp only [List.map_cons, List.map_nil, List.getElem?_cons_succ, List.getElem?_cons_zero]
      repeat (first | (refine Go.XR.S_light rfl rfl rfl ?_ (fun w' hS K hK => ?_) (fun K hK => ?_); rotate_left 1; (cases hS; (first | (first | (refine Go.XR.wp_load_at 29 _ rfl kb 0 rfl (keyC k) (At.drew HKa.out) _ Tryz.underlying29 rfl (keySize k) ?_) | (refine Go.XR.wp_load_at 26 _ rfl kb 0 rfl (sumC k.sum) (At.drew (key_at_sum HKa.out)) _ Tryz.underlying26 rfl (sumSize k.sum) ?_)) | go_step); exact hK); go_step; refine hK _ ?_; clear hK K))
      refine Go.XR.S_heavy (fun K hK => ?_)
      refine Go.XR.wp_gm_lookup _ _ 102 rfl keysI64 Tryz.underlying102 (.map none) (fun w => Tryz.zeroValue113 w) s _ rfl rfl (GM.block (w' := W7.drew) HS.out.ix.shelves rfl) Hv11.out ?_
      refine hK _ _ ⟨fun _ => rfl, ?_⟩
      clear hK K
      repeat (first | (refine Go.XR.S_light rfl rfl rfl ?_ (fun w' hS K hK => ?_) (fun K hK => ?_); rotate_left 1; (cases hS; (first | (first | (refine Go.XR.wp_load_at 29 _ rfl kb 0 rfl (keyC k) (At.drew HKa.out) _ Tryz.underlying29 rfl (keySize k) ?_) | (refine Go.XR.wp_load_at 26 _ rfl kb 0 rfl (sumC k.sum) (At.drew (key_at_sum HKa.out)) _ Tryz.underlying26 rfl (sumSize k.sum) ?_)) | go_step); exact hK); go_step; refine hK _ ?_; clear hK K))
      refine Go.XR.S_heavy (fun K hK => ?_)
      refine Go.XR.wp_gm_len _ 113 rfl Tryz.underlying113 rfl HL7.out ?_
      refine hK _ _ ⟨fun h => by simp at h, ?_⟩
      clear hK K
      repeat (first | (refine Go.XR.S_heavy (fun K hK => ?_); go_step; refine hK _ _ ⟨fun h => by simp at h, ?_⟩; clear hK K))
      refine Go.XR.S_nil ?_
      have HS2 := Lib.hid HS.out.drew
      clear HS Hv11 HL7
      clear c0 c1 c2 kn vs HKa
      generalize W7.drew = W7 at *
      have HS := HS2
      clear HS2
      have c0 := HS.out.ix.blk.cell (i := 0) rfl
      have c1 := HS.out.ix.blk.cell (i := 1) rfl
      have c2 := HS.out.ix.blk.cell (i := 2) rfl
      have kn := HS.out.kn
      have vs := HS.out.vs
      rw [hs] at vs
      have HKa := Lib.hid HS.out.key
      go_wp2
      go_ret
      obtain ⟨hi', hni'⟩ := Hni.out
      refine ⟨by rw [Hk.out]; rfl, F1, ⟨pb, tb, sb, T', _, _, HS.out.ix, HCo.out.drop HS.out.ix.shelfApart Hk.out Hs.out Hm.out Hr.out hi' hni' (r' := ⟨some ⟨g, 0, none⟩, rc, rl'⟩) Hrl'.out.symm HT.out (fun t => ?_)⟩, HS.out.but, HS.out.grew⟩
      rw [if_neg (fun h => Hq.out h.2)]
theorem drop_any (w : World) (F : List Nat) (p : Nat) (D : List (KeyT × PlaceT)) (hI : Ix w F p D) (hlen : D.length ≤ 2^20) (k : KeyT) :
    Calls Tryz.prog 39 #[.pointer (some ⟨p, 0, none⟩), keyV k] w (RetDrop w F p D k) := by
  cases h : aget D k with
  | none => exact drop_none w F p D hI k h
  | some v => exact drop_some w F p D hI hlen k v h
end Go.Proofs.YtnfbchhbcinloaaGreat

/- The walk over Put. -/
namespace Go.Proofs.YtnfbchhbcinloaaGreat
open Go.RowKit Go.XR Go.IndexPure
/-- what Put answers, and leaves -/
def RetPut (w : World) (F : List Nat) (p : Nat) (D : List (KeyT × PlaceT)) (k : KeyT) (v : PlaceT) (e : Ending) (w' : World) : Prop :=
  e = .returned (.bool (aget D k).isSome) ∧ ∃ F', Ix w' F' p (aput (adel D k) k v) ∧ But F w w' ∧ Grew w F F'
theorem adel_len (D : List (KeyT × PlaceT)) (k : KeyT) : (adel D k).length ≤ D.length := List.length_filter_le _ _
set_option maxHeartbeats 4000000 in
set_option maxRecDepth 100000 in
theorem put_any (w : World) (F : List Nat) (p : Nat) (D : List (KeyT × PlaceT)) (hI : Ix w F p D) (hlen : D.length ≤ 2^20) (k : KeyT) (v : PlaceT) (hv : PlaceOk v) :
    Calls Tryz.prog 34 #[.pointer (some ⟨p, 0, none⟩), keyV k, placeV v] w (RetPut w F p D k v) := by
  obtain ⟨s, hs⟩ : ∃ s : I64, v.shelf = s.1 := ⟨⟨v.shelf, hv.1⟩, rfl⟩
  have Hv := Lib.hid hv
  obtain ⟨W0, hW0⟩ : ∃ W0, (w.alloc (.cells (keyC k) 29)).alloc (.cells (placeC v) 40) = W0 := ⟨_, rfl⟩
  have hb0 : Below w.heap.size w W0 := by rw [← hW0]; exact ((Below.refl _ _).alloc (Nat.le_refl _) _).alloc (by simp) _
  have HK : Hid (At W0 w.heap.size 0 (keyC k)) := by unfold Hid; rw [← hW0]; exact (At.new _ _ _).alloc _
  have HP : Hid (Blk W0 (w.heap.size + 1) (placeL v)) := by
    unfold Hid; rw [← hW0]
    have h := Blk.new (w.alloc (.cells (keyC k) 29)) (placeC v) 40
    rwa [show (w.alloc (.cells (keyC k) 29)).heap.size = w.heap.size + 1 by simp] at h
  have HI0 : Hid (Ix W0 F p D) := by
    obtain ⟨pb, tb, sb, T, Sh, L, hC, hCo⟩ := hI
    exact ⟨pb, tb, sb, T, Sh, L, hC.below hb0, hCo⟩
  have Hfin : Hid (∀ b ∈ F, b < w.heap.size) := by
    obtain ⟨pb, tb, sb, T, Sh, L, hC, hCo⟩ := hI
    exact hC.fin
  have Hb0 := Lib.hid hb0
  have Hlen := Lib.hid hlen
  clear hI hb0 hlen hv
  obtain ⟨kb, hkb⟩ : ∃ kb, w.heap.size = kb := ⟨_, rfl⟩
  obtain ⟨vb, hvb⟩ : ∃ vb, kb + 1 = vb := ⟨_, rfl⟩
  have Hkb := Lib.hid hkb
  have Hvb := Lib.hid hvb
  rw [hkb] at HK HP
  rw [hvb] at HP
  go_enter Tryz.func34, Tryz.ntmps34
  go_wp2_with (first | (refine wpList_load_at rfl 29 _ rfl kb 0 rfl (keyC k) HK.out _ Tryz.underlying29 rfl (keySize k) ?_) | fail)
  refine (drop_any W0 F p D HI0.out Hlen.out k).mono ?_
  rintro e w1 ⟨rfl, F1, hI1, hb1, hg1⟩
  have hkl : kb < W0.heap.size := HK.out.lt (by rw [keyC_size]; omega)
  have hvl : vb < W0.heap.size := HP.out.lt
  have hkF : kb ∉ F := fun h => by have := Hfin.out _ h; rw [Hkb.out] at this; omega
  have hvF : vb ∉ F := fun h => by have := Hfin.out _ h; rw [Hkb.out] at this; omega
  obtain ⟨pb, tb, sb, T, Sh, L, hC, hCo⟩ := hI1
  have HS : Hid (St w F kb k vb v w1 F1 p pb tb sb (adel D k) T Sh L) := by
    refine ⟨hC, HK.out.but hb1 hkF, HP.out.but hb1 hvF, ⟨fun h => ?_, fun h => ?_⟩, (But.of_below Hb0.out).trans hb1, fun b hb => ?_⟩
    · rcases hg1 _ h with h2 | h2
      · exact hkF h2
      · omega
    · rcases hg1 _ h with h2 | h2
      · exact hvF h2
      · omega
    · rcases hg1 _ hb with h2 | h2
      · exact .inl h2
      · exact .inr (Nat.le_trans Hb0.out.size h2)
  have hLen1 : (adel D k).length ≤ 2^20 := Nat.le_trans (adel_len D k) Hlen.out
  have hk1 : aget (adel D k) k = none := by rw [aget_del, if_pos rfl]
  obtain ⟨D1, hD1⟩ : ∃ D1, adel D k = D1 := ⟨_, rfl⟩
  have HD1 := Lib.hid hD1
  rw [hD1] at HS hCo hLen1 hk1
  obtain ⟨ra, rc, rl, hro⟩ : ∃ ra rc rl, rowOf T k.sum = ⟨ra, rc, rl⟩ := ⟨_, _, _, rfl⟩
  have hrl : numsOf T k.sum = rl := by rw [← rowOf_l, hro]
  have hll : rl.length ≤ 2^20 := by have := hCo.nums_le k.sum; rw [hrl] at this; omega
  have Hso : Hid (rl.Pairwise (fun x y => x.toNat < y.toNat)) := by unfold Hid; rw [← hrl]; exact hCo.sorted k.sum
  have Hown : Hid (∀ W F D Sh L, IxC W F p pb tb sb D T Sh L → ownNums W ⟨ra, rc, rl⟩ ∧ ∀ a, ra = some a → a.block ∈ F ∧ a.block ≠ p ∧ tb ≠ a.block ∧ a = ⟨a.block, 0, none⟩) := fun W F D Sh L h => by
    cases hr : aget T k.sum with
    | none =>
      unfold rowOf at hro
      rw [hr] at hro
      injection hro with h1 h2 h3
      subst h1 h2 h3
      exact ⟨⟨rfl, .inl ⟨rfl, rfl⟩⟩, fun a ha => by cases ha⟩
    | some r =>
      unfold rowOf at hro
      rw [hr] at hro
      have hro2 : r = ⟨ra, rc, rl⟩ := hro
      subst hro2
      exact ⟨(h.row _ _ hr).1, fun a ha => ⟨((h.row _ _ hr).2 a ha).1, ((h.row _ _ hr).2 a ha).2, (h.row_ne hr ha).2.1, (own_cells (h.row _ _ hr).1 ha).2⟩⟩
  have Hro := Lib.hid hro
  have Hrl := Lib.hid hrl
  have HCo := Lib.hid hCo
  have Hk1 := Lib.hid hk1
  clear hb1 hg1 hkl hvl hkF hvF hC hCo hD1 hk1 hro hrl hkb hvb hLen1
  clear Hb0 HI0 HK HP Hfin
  go_wp2
  clear hW0
  have c0 := HS.out.ix.blk.cell (i := 0) rfl
  have c1 := HS.out.ix.blk.cell (i := 1) rfl
  have c2 := HS.out.ix.blk.cell (i := 2) rfl
  have kn := HS.out.kn
  have vs := HS.out.vs
  rw [hs] at vs
  have HKa := Lib.hid HS.out.key
  have HVa := Lib.hid HS.out.place.toAt
  refine Go.XR.region_sched ((· = w1.drew)) [(0, true), (1, true), (2, true), (3, true), (4, true), (5, true), (6, false)] [6] Tryz.mixed (by kernel_rfl) (by kernel_rfl) (by kernel_rfl) ?_
  simp only [List.map_cons, List.map_nil, List.getElem?_cons_succ, List.getElem?_cons_zero]
  repeat (first | (refine Go.XR.S_light rfl rfl rfl ?_ (fun w' hS K hK => ?_) (fun K hK => ?_); rotate_left 1; (cases hS; (first | (first | (refine Go.XR.wp_load_at 29 _ rfl kb 0 rfl (keyC k) (At.drew HKa.out) _ Tryz.underlying29 rfl (keySize k) ?_) | (refine Go.XR.wp_load_at 26 _ rfl kb 0 rfl (sumC k.sum) (At.drew (key_at_sum HKa.out)) _ Tryz.underlying26 rfl (sumSize k.sum) ?_) | (refine Go.XR.wp_load_at 40 _ rfl vb 0 rfl (placeC v) (At.drew HVa.out) _ Tryz.underlying40 rfl (placeSize v) ?_)) | go_step); exact hK); go_step; refine hK _ ?_; clear hK K))
  refine Go.XR.S_heavy (fun K hK => ?_)
  refine wp_gm_update _ _ _ 100 rfl keysKey Tryz.underlying100 placeV pb D1 k v rfl rfl rfl (GM.block (w' := w1.drew) HS.out.ix.places rfl) ?_
  intro W2 hG2 hg2 _
  have hb2 := But.of_grown hg2
  have HS2 := Lib.hid (HS.out.drew.step hb2 (by intro b hb; rw [List.mem_singleton] at hb; subst hb; exact .inl HS.out.ix.inF.2.1) (HS.out.drew.ix.places_to hb2 hG2) (Grew.refl _ _))
  refine hK _ _ ⟨fun h => by simp at h, ?_⟩
  clear hK K hG2 hb2 hg2
  clear c0 c1 c2 kn vs HKa HVa
  clear HS
  have HS := HS2
  clear HS2
  have c0 := HS.out.ix.blk.cell (i := 0) rfl
  have c1 := HS.out.ix.blk.cell (i := 1) rfl
  have c2 := HS.out.ix.blk.cell (i := 2) rfl
  have kn := HS.out.kn
  have vs := HS.out.vs
  rw [hs] at vs
  have HKa := Lib.hid HS.out.key
  have HVa := Lib.hid HS.out.place.toAt
  refine Go.XR.S_nil ?_
  go_wp2
  have Hv5 : Hid (((aget T k.sum).map numV).getD (.slice none 0 0) = .slice ra rl.length rc) := by unfold Hid; rw [rowSl_get, Hro.out]
  refine Go.XR.region_sched ((· = W2.drew)) [(0, true), (1, true), (2, true), (3, true), (4, true), (5, true), (6, false), (7, false)] [6, 7] Tryz.mixed (by kernel_rfl) (by kernel_rfl) (by kernel_rfl) ?_
  simp only [List.map_cons, List.map_nil, List.getElem?_cons_succ, List.getElem?_cons_zero]
  repeat (first | (refine Go.XR.S_light rfl rfl rfl ?_ (fun w' hS K hK => ?_) (fun K hK => ?_); rotate_left 1; (cases hS; (first | (first | (refine Go.XR.wp_load_at 29 _ rfl kb 0 rfl (keyC k) (At.drew HKa.out) _ Tryz.underlying29 rfl (keySize k) ?_) | (refine Go.XR.wp_load_at 26 _ rfl kb 0 rfl (sumC k.sum) (At.drew (key_at_sum HKa.out)) _ Tryz.underlying26 rfl (sumSize k.sum) ?_) | (refine Go.XR.wp_load_at 40 _ rfl vb 0 rfl (placeC v) (At.drew HVa.out) _ Tryz.underlying40 rfl (placeSize v) ?_)) | go_step); exact hK); go_step; refine hK _ ?_; clear hK K))
  refine Go.XR.S_heavy (fun K hK => ?_)
  refine Go.XR.wp_gm_lookup _ _ 101 rfl keysSum Tryz.underlying101 (.slice none 0 0) (fun w => Tryz.zeroValue109 w) k.sum _ rfl rfl (GM.block (w' := W2.drew) HS.out.ix.twins rfl) Hv5.out ?_
  refine hK _ _ ⟨fun _ => rfl, ?_⟩
  clear hK K
  repeat (first | (refine Go.XR.S_light rfl rfl rfl ?_ (fun w' hS K hK => ?_) (fun K hK => ?_); rotate_left 1; (cases hS; (first | (first | (refine Go.XR.wp_load_at 29 _ rfl kb 0 rfl (keyC k) (At.drew HKa.out) _ Tryz.underlying29 rfl (keySize k) ?_) | (refine Go.XR.wp_load_at 26 _ rfl kb 0 rfl (sumC k.sum) (At.drew (key_at_sum HKa.out)) _ Tryz.underlying26 rfl (sumSize k.sum) ?_) | (refine Go.XR.wp_load_at 40 _ rfl vb 0 rfl (placeC v) (At.drew HVa.out) _ Tryz.underlying40 rfl (placeSize v) ?_)) | go_step); exact hK); go_step; refine hK _ ?_; clear hK K))
  repeat (first | (refine Go.XR.S_heavy (fun K hK => ?_); go_step; refine hK _ _ ⟨fun h => by simp at h, ?_⟩; clear hK K))
  refine Go.XR.S_nil ?_
  have HS2 := Lib.hid HS.out.drew
  clear HS Hv5
  clear c0 c1 c2 kn vs HKa HVa
  generalize W2.drew = W3 at *
  have HS := HS2
  clear HS2
  have c0 := HS.out.ix.blk.cell (i := 0) rfl
  have c1 := HS.out.ix.blk.cell (i := 1) rfl
  have c2 := HS.out.ix.blk.cell (i := 2) rfl
  have kn := HS.out.kn
  have vs := HS.out.vs
  rw [hs] at vs
  have HKa := Lib.hid HS.out.key
  have HVa := Lib.hid HS.out.place.toAt
  go_wp2_with fail
  refine (bsearch_any W3 ra rc rl (Row.owned (Hown.out _ _ _ _ _ HS.out.ix).1) (by omega) Hso.out k.n).mono ?_
  rintro e w4 ⟨⟨i, hlow, rfl⟩, hw4⟩
  rw [hw4]
  clear hw4 w4
  have hi := hlow.1
  have Hlow := Lib.hid hlow
  clear hlow
  go_wp2
  have HStd := Lib.hid HS.out.drew.std
  refine Go.XR.region_sched ((Std p pb tb sb kb k vb v.shelf)) [(0, true), (1, true), (2, true), (3, true), (4, true), (5, true), (6, true), (7, true), (8, true), (9, true), (10, false), (11, false), (12, false)] [12] Tryz.mixed (by kernel_rfl) (by kernel_rfl) (by kernel_rfl) ?_
  simp only [List.map_cons, List.map_nil, List.getElem?_cons_succ, List.getElem?_cons_zero]
  repeat (first | (refine Go.XR.S_light rfl rfl HStd.out ?_ (fun w' hS K hK => ?_) (fun K hK => ?_); rotate_left 1; (have s0 := hS.c1; have s1 := hS.kn; (first | (refine Go.XR.wp_load_at 26 _ rfl kb 0 rfl (sumC k.sum) (key_at_sum hS.key) _ Tryz.underlying26 rfl (sumSize k.sum) ?_) | go_step); exact hK); go_step; refine hK _ ?_; clear hK K))
  refine Go.XR.S_heavy (fun K hK => ?_)
  go_step
  obtain ⟨W4, hW4⟩ : ∃ W4, (W3.alloc (.cells #[.int .u32 (k.n.toNat : Int)] 27)).drew = W4 := ⟨_, rfl⟩
  have hbA : Below W3.drew.heap.size W3.drew W4 := by rw [← hW4]; exact (Below.refl W3.drew.heap.size W3.drew).alloc (Nat.le_refl _) _
  have HS4 := Lib.hid (HS.out.drew.below hbA)
  have hv4 : W4.heap[W3.heap.size]? = some (.cells #[.int .u32 (k.n.toNat : Int)] 27 (0, 0)) := by rw [← hW4]; exact (MapKept.heap_alloc W3.drew _).1
  have HbA := Lib.hid hbA
  have Hv4 := Lib.hid hv4
  rw [hW4]
  clear hbA hv4
  refine hK _ _ ⟨fun _ => HS4.out.std, ?_⟩
  clear hK K hW4
  refine Go.XR.S_heavy (fun K hK => ?_)
  go_step
  ((with_reducible refine (insert_any W4 ra rc rl (Hown.out _ _ _ _ _ HS4.out.ix).1 (by omega) i hi W3.heap.size 1 (fun g hg h => by
    obtain ⟨h1, _⟩ := (Hown.out _ _ _ _ _ HS.out.ix).2 _ hg
    have := HS.out.ix.fin _ h1
    have h2 : (⟨g, 0, none⟩ : Addr).block = g := rfl
    omega) k.n 27 Hv4.out).mono ?_); rintro e w5 ⟨a', c', rfl, ho5, hg5, hn5⟩)
  have hgo : ∀ a, ra = some a → a.block ∈ F1 ∧ a.block ≠ p ∧ tb ≠ a.block ∧ a = ⟨a.block, 0, none⟩ := (Hown.out _ _ _ _ _ HS4.out.ix).2
  obtain ⟨S5, hS5, hb5⟩ : ∃ S5 : List Nat, (∀ b ∈ S5, b ∈ F1 ∧ b ≠ p ∧ tb ≠ b) ∧ But S5 W4 w5 := by
    cases hra : ra with
    | none =>
      rw [hra] at hg5
      exact ⟨[], (fun b h => absurd h (by simp)), But.of_grown_none hg5⟩
    | some a =>
      rw [hra] at hg5
      exact ⟨[a.block], fun b h => by rw [List.mem_singleton] at h; subst h; exact ⟨(hgo a hra).1, (hgo a hra).2.1, (hgo a hra).2.2.1⟩, But.of_grown hg5⟩
  refine hK _ _ ⟨fun _ => HS4.out.std.but hb5 (fun h => (hS5 _ h).2.1 rfl) (fun h => HS.out.out.1 (hS5 _ h).1) (fun h => HS.out.out.2 (hS5 _ h).1), ?_⟩
  clear hK K
  refine Go.XR.S_heavy (fun K hK => ?_)
  refine wp_gm_update _ _ _ 101 rfl keysSum Tryz.underlying101 numV tb T k.sum ⟨a', c', insAt rl i k.n⟩ rfl rfl rfl (HS4.out.ix.twins.but hb5 (fun h => (hS5 _ h).2.2 rfl)) ?_
  intro W6 hG6 hg6 _
  have HS2 : Hid (∃ F', St w F kb k vb v W6 F' p pb tb sb (aput D1 k v) (aput T k.sum ⟨a', c', insAt rl i k.n⟩) Sh L) := by
    have h3 := HS4.out
    obtain ⟨F', hix, hgr⟩ := h3.ix.row_to (d := k.sum) (r := ⟨a', c', insAt rl i k.n⟩) (w1 := w5) (by rw [Hro.out]; exact hg5) (by rw [Hro.out]; exact hn5) ho5 (But.of_grown hg6) hG6
    refine ⟨F', h3.step (S := tb :: S5) ((hb5.mono (by simp; intro i h _; exact .inr h)).trans ((But.of_grown hg6).mono (by simp))) (fun b hb => ?_) hix hgr⟩
    rcases List.mem_cons.1 hb with rfl | hb
    · exact .inl h3.ix.inF.2.2.1
    · exact .inl (hS5 _ hb).1
  refine hK _ _ ⟨fun h => by simp at h, ?_⟩
  clear hK K hG6 hg6 ho5 hg5 hn5 hgo hS5 hb5 HbA HS4 Hv4
  clear c0 c1 c2 kn vs HKa HVa
  clear HS HStd
  obtain ⟨F2, hS2⟩ := HS2
  have HS := Lib.hid hS2
  clear hS2
  obtain ⟨T', hT'⟩ : ∃ T', aput T k.sum ⟨a', c', insAt rl i k.n⟩ = T' := ⟨_, rfl⟩
  have HT : Hid (∀ d, aget T' d = if d = k.sum then some (⟨a', c', insAt rl i k.n⟩ : NumRow) else aget T d) := fun d => by rw [← hT', aget_put]
  rw [hT'] at HS
  clear hT'
  have c0 := HS.out.ix.blk.cell (i := 0) rfl
  have c1 := HS.out.ix.blk.cell (i := 1) rfl
  have c2 := HS.out.ix.blk.cell (i := 2) rfl
  have kn := HS.out.kn
  have vs := HS.out.vs
  rw [hs] at vs
  have HKa := Lib.hid HS.out.key
  have HVa := Lib.hid HS.out.place.toAt
  refine Go.XR.S_nil ?_
  go_wp2
  cases hsh : aget Sh s with
  | some m =>
    have Hm := Lib.hid hsh
    clear hsh
    have Hv8 := Lib.hid (mapV_val Sh s m Hm.out)
    refine Go.XR.region_sched ((· = W6.drew)) [(0, true), (1, true), (2, true), (3, true), (4, true), (5, true), (6, false), (7, false)] [6, 7] Tryz.mixed (by kernel_rfl) (by kernel_rfl) (by kernel_rfl) ?_
    simp only [List.map_cons, List.map_nil, List.getElem?_cons_succ, List.getElem?_cons_zero]
    repeat (first | (refine Go.XR.S_light rfl rfl rfl ?_ (fun w' hS K hK => ?_) (fun K hK => ?_); rotate_left 1; (cases hS; (first | (first | (refine Go.XR.wp_load_at 29 _ rfl kb 0 rfl (keyC k) (At.drew HKa.out) _ Tryz.underlying29 rfl (keySize k) ?_) | (refine Go.XR.wp_load_at 26 _ rfl kb 0 rfl (sumC k.sum) (At.drew (key_at_sum HKa.out)) _ Tryz.underlying26 rfl (sumSize k.sum) ?_) | (refine Go.XR.wp_load_at 40 _ rfl vb 0 rfl (placeC v) (At.drew HVa.out) _ Tryz.underlying40 rfl (placeSize v) ?_)) | go_step); exact hK); go_step; refine hK _ ?_; clear hK K))
    refine Go.XR.S_heavy (fun K hK => ?_)
    refine Go.XR.wp_gm_lookup _ _ 102 rfl keysI64 Tryz.underlying102 (.map none) (fun w => Tryz.zeroValue113 w) s _ rfl rfl (GM.block (w' := W6.drew) HS.out.ix.shelves rfl) Hv8.out ?_
    refine hK _ _ ⟨fun _ => rfl, ?_⟩
    clear hK K
    repeat (first | (refine Go.XR.S_light rfl rfl rfl ?_ (fun w' hS K hK => ?_) (fun K hK => ?_); rotate_left 1; (cases hS; (first | (first | (refine Go.XR.wp_load_at 29 _ rfl kb 0 rfl (keyC k) (At.drew HKa.out) _ Tryz.underlying29 rfl (keySize k) ?_) | (refine Go.XR.wp_load_at 26 _ rfl kb 0 rfl (sumC k.sum) (At.drew (key_at_sum HKa.out)) _ Tryz.underlying26 rfl (sumSize k.sum) ?_) | (refine Go.XR.wp_load_at 40 _ rfl vb 0 rfl (placeC v) (At.drew HVa.out) _ Tryz.underlying40 rfl (placeSize v) ?_)) | go_step); exact hK); go_step; refine hK _ ?_; clear hK K))
    repeat (first | (refine Go.XR.S_heavy (fun K hK => ?_); go_step; refine hK _ _ ⟨fun h => by simp at h, ?_⟩; clear hK K))
    refine Go.XR.S_nil ?_
    have HS2 := Lib.hid HS.out.drew
    clear HS Hv8
    clear c0 c1 c2 kn vs HKa HVa
    generalize W6.drew = W6 at *
    have HS := HS2
    clear HS2
    obtain ⟨Sh', hSh'⟩ : ∃ Sh', Sh = Sh' := ⟨_, rfl⟩
    have Hm' : Hid (aget Sh' s = some m) := by unfold Hid; rw [← hSh']; exact Hm.out
    rw [hSh'] at HS
    have HSh := Lib.hid hSh'
    clear hSh'
    have c0 := HS.out.ix.blk.cell (i := 0) rfl
    have c1 := HS.out.ix.blk.cell (i := 1) rfl
    have c2 := HS.out.ix.blk.cell (i := 2) rfl
    have kn := HS.out.kn
    have vs := HS.out.vs
    rw [hs] at vs
    have HKa := Lib.hid HS.out.key
    have HVa := Lib.hid HS.out.place.toAt
    go_wp2
    have Hv10 := Lib.hid (mapV_val Sh' s m Hm'.out)
    refine Go.XR.region_sched ((· = W6.drew)) [(0, true), (1, true), (2, true), (3, true), (4, true), (5, true), (7, true), (6, false), (8, false)] [8] Tryz.mixed (by kernel_rfl) (by kernel_rfl) (by kernel_rfl) ?_
    simp only [List.map_cons, List.map_nil, List.getElem?_cons_succ, List.getElem?_cons_zero]
    repeat (first | (refine Go.XR.S_light rfl rfl rfl ?_ (fun w' hS K hK => ?_) (fun K hK => ?_); rotate_left 1; (cases hS; (first | (first | (refine Go.XR.wp_load_at 29 _ rfl kb 0 rfl (keyC k) (At.drew HKa.out) _ Tryz.underlying29 rfl (keySize k) ?_) | (refine Go.XR.wp_load_at 26 _ rfl kb 0 rfl (sumC k.sum) (At.drew (key_at_sum HKa.out)) _ Tryz.underlying26 rfl (sumSize k.sum) ?_) | (refine Go.XR.wp_load_at 40 _ rfl vb 0 rfl (placeC v) (At.drew HVa.out) _ Tryz.underlying40 rfl (placeSize v) ?_)) | go_step); exact hK); go_step; refine hK _ ?_; clear hK K))
    refine Go.XR.S_heavy (fun K hK => ?_)
    refine Go.XR.wp_gm_lookup _ _ 102 rfl keysI64 Tryz.underlying102 (.map none) (fun w => Tryz.zeroValue113 w) s _ rfl rfl (GM.block (w' := W6.drew) HS.out.ix.shelves rfl) Hv10.out ?_
    refine hK _ _ ⟨fun _ => rfl, ?_⟩
    clear hK K
    repeat (first | (refine Go.XR.S_light rfl rfl rfl ?_ (fun w' hS K hK => ?_) (fun K hK => ?_); rotate_left 1; (cases hS; (first | (first | (refine Go.XR.wp_load_at 29 _ rfl kb 0 rfl (keyC k) (At.drew HKa.out) _ Tryz.underlying29 rfl (keySize k) ?_) | (refine Go.XR.wp_load_at 26 _ rfl kb 0 rfl (sumC k.sum) (At.drew (key_at_sum HKa.out)) _ Tryz.underlying26 rfl (sumSize k.sum) ?_) | (refine Go.XR.wp_load_at 40 _ rfl vb 0 rfl (placeC v) (At.drew HVa.out) _ Tryz.underlying40 rfl (placeSize v) ?_)) | go_step); exact hK); go_step; refine hK _ ?_; clear hK K))
    refine Go.XR.S_heavy (fun K hK => ?_)
    refine wp_gm_update _ _ _ 113 rfl keysKey Tryz.underlying113 unitV m _ k () rfl rfl rfl (GM.block (w' := W6.drew) (HS.out.ix.shelf s m Hm'.out).2.1 rfl) ?_
    intro W7 hG7 hg7 _
    have hb7 := But.of_grown hg7
    have HS2 := Lib.hid (HS.out.drew.step hb7 (by intro b hb; rw [List.mem_singleton] at hb; subst hb; exact .inl (HS.out.ix.shelf s _ Hm'.out).1) (HS.out.drew.ix.shelf_to Hm'.out hb7 hG7) (Grew.refl _ _))
    refine hK _ _ ⟨fun h => by simp at h, ?_⟩
    clear hK K hG7 hb7 hg7
    clear c0 c1 c2 kn vs HKa HVa
    refine Go.XR.S_nil ?_
    go_wp2
    go_ret
    refine ⟨rfl, F2, ⟨pb, tb, sb, T', Sh', _, by rw [HD1.out]; exact HS2.out.ix, ?_⟩, HS2.out.but, HS2.out.grew⟩
    rw [HD1.out]
    refine HCo.out.put Hk1.out Hv.out hs (i := i) (by rw [Hrl.out]; exact Hlow.out) (r' := ⟨a', c', insAt rl i k.n⟩) (by rw [Hrl.out]) HT.out Hm'.out (fun t _ => by rw [HSh.out]) (fun t ht => HS2.out.ix.shelfApart t s m ht Hm'.out) (fun i hi => if_neg hi) (if_pos rfl) (.inl ⟨Hm.out, rfl⟩)
  | none =>
    have Hm := Lib.hid hsh
    have Hv8 : Hid (((aget Sh s).map mapV).getD (.map none) = .map none) := by unfold Hid; rw [hsh]; rfl
    clear hsh
    refine Go.XR.region_sched ((· = W6.drew)) [(0, true), (1, true), (2, true), (3, true), (4, true), (5, true), (6, false), (7, false)] [6, 7] Tryz.mixed (by kernel_rfl) (by kernel_rfl) (by kernel_rfl) ?_
    simp only [List.map_cons, List.map_nil, List.getElem?_cons_succ, List.getElem?_cons_zero]
    repeat (first | (refine Go.XR.S_light rfl rfl rfl ?_ (fun w' hS K hK => ?_) (fun K hK => ?_); rotate_left 1; (cases hS; (first | (first | (refine Go.XR.wp_load_at 29 _ rfl kb 0 rfl (keyC k) (At.drew HKa.out) _ Tryz.underlying29 rfl (keySize k) ?_) | (refine Go.XR.wp_load_at 26 _ rfl kb 0 rfl (sumC k.sum) (At.drew (key_at_sum HKa.out)) _ Tryz.underlying26 rfl (sumSize k.sum) ?_) | (refine Go.XR.wp_load_at 40 _ rfl vb 0 rfl (placeC v) (At.drew HVa.out) _ Tryz.underlying40 rfl (placeSize v) ?_)) | go_step); exact hK); go_step; refine hK _ ?_; clear hK K))
    refine Go.XR.S_heavy (fun K hK => ?_)
    refine Go.XR.wp_gm_lookup _ _ 102 rfl keysI64 Tryz.underlying102 (.map none) (fun w => Tryz.zeroValue113 w) s _ rfl rfl (GM.block (w' := W6.drew) HS.out.ix.shelves rfl) Hv8.out ?_
    refine hK _ _ ⟨fun _ => rfl, ?_⟩
    clear hK K
    repeat (first | (refine Go.XR.S_light rfl rfl rfl ?_ (fun w' hS K hK => ?_) (fun K hK => ?_); rotate_left 1; (cases hS; (first | (first | (refine Go.XR.wp_load_at 29 _ rfl kb 0 rfl (keyC k) (At.drew HKa.out) _ Tryz.underlying29 rfl (keySize k) ?_) | (refine Go.XR.wp_load_at 26 _ rfl kb 0 rfl (sumC k.sum) (At.drew (key_at_sum HKa.out)) _ Tryz.underlying26 rfl (sumSize k.sum) ?_) | (refine Go.XR.wp_load_at 40 _ rfl vb 0 rfl (placeC v) (At.drew HVa.out) _ Tryz.underlying40 rfl (placeSize v) ?_)) | go_step); exact hK); go_step; refine hK _ ?_; clear hK K))
    repeat (first | (refine Go.XR.S_heavy (fun K hK => ?_); go_step; refine hK _ _ ⟨fun h => by simp at h, ?_⟩; clear hK K))
    refine Go.XR.S_nil ?_
    have HS2 := Lib.hid HS.out.drew
    clear HS Hv8
    clear c0 c1 c2 kn vs HKa HVa
    generalize W6.drew = W6 at *
    have HS := HS2
    clear HS2
    have c0 := HS.out.ix.blk.cell (i := 0) rfl
    have c1 := HS.out.ix.blk.cell (i := 1) rfl
    have c2 := HS.out.ix.blk.cell (i := 2) rfl
    have kn := HS.out.kn
    have vs := HS.out.vs
    rw [hs] at vs
    have HKa := Lib.hid HS.out.key
    have HVa := Lib.hid HS.out.place.toAt
    go_wp2
    have HStd := Lib.hid HS.out.drew.std
    refine Go.XR.region_sched ((Std p pb tb sb kb k vb v.shelf)) [(0, true), (1, true), (2, true), (3, true), (4, true), (5, true), (6, false), (7, false)] [7] Tryz.mixed (by kernel_rfl) (by kernel_rfl) (by kernel_rfl) ?_
    simp only [List.map_cons, List.map_nil, List.getElem?_cons_succ, List.getElem?_cons_zero]
    repeat (first | (refine Go.XR.S_light rfl rfl HStd.out ?_ (fun w' hS K hK => ?_) (fun K hK => ?_); rotate_left 1; (have s0 := hS.c2; have s1 := hS.vs; rw [hs] at s1; go_step; exact hK); go_step; refine hK _ ?_; clear hK K))
    have hmm := @run_makeMap Tryz.prog
    refine Go.XR.S_heavy (fun K hK => ?_)
    go_step
    clear hmm
    obtain ⟨W7, hW7⟩ : ∃ W7, (W6.alloc (.map #[] 0)).drew = W7 := ⟨_, rfl⟩
    have hbA : Below W6.drew.heap.size W6.drew W7 := by rw [← hW7]; exact (Below.refl W6.drew.heap.size W6.drew).alloc (Nat.le_refl _) _
    have HS4 := Lib.hid (HS.out.drew.below hbA)
    have hG1 : GM keyV unitV W7 W6.heap.size [] := by rw [← hW7]; exact (GM.made keyV unitV W6).block rfl
    have hsz : W7.heap.size = W6.heap.size + 1 := by rw [← hW7]; exact Array.size_push _
    rw [hW7]
    refine hK _ _ ⟨fun _ => HS4.out.std, ?_⟩
    clear hK K hW7
    obtain ⟨m, hm⟩ : ∃ m, W6.heap.size = m := ⟨_, rfl⟩
    rw [hm] at hG1 hsz ⊢
    refine Go.XR.S_heavy (fun K hK => ?_)
    refine wp_gm_update _ _ _ 102 rfl keysI64 Tryz.underlying102 mapV sb Sh s m rfl rfl rfl HS4.out.ix.shelves ?_
    intro W8 hG8 hg8 _
    have hix := HS.out.drew.ix.shelf_new Hm.out (But.of_below hbA) (m := m) (Nat.le_of_eq hm) (by omega) hG1 (But.of_grown hg8) hG8
    have HS2 := Lib.hid (HS.out.drew.step (S := [sb]) ((But.of_below hbA).trans (But.of_grown hg8)) (by intro b hb; rw [List.mem_singleton] at hb; subst hb; exact .inl HS.out.ix.inF.2.2.2) hix (fun b hb => by
      rcases List.mem_cons.1 hb with rfl | hb
      · exact .inr (Nat.le_of_eq hm)
      · exact .inl hb))
    refine hK _ _ ⟨fun h => by simp at h, ?_⟩
    clear hK K hG8 hg8 hix hG1 hbA HS4 HStd
    clear c0 c1 c2 kn vs HKa HVa
    clear HS
    obtain ⟨Sh', hSh'⟩ : ∃ Sh', aput Sh s m = Sh' := ⟨_, rfl⟩
    have Hm' : Hid (aget Sh' s = some m) := by unfold Hid; rw [← hSh', aget_put, if_pos rfl]
    rw [hSh'] at HS2
    have HSh := Lib.hid hSh'
    have HS := HS2
    clear hSh' HS2 hm hsz
    refine Go.XR.S_nil ?_
    have c0 := HS.out.ix.blk.cell (i := 0) rfl
    have c1 := HS.out.ix.blk.cell (i := 1) rfl
    have c2 := HS.out.ix.blk.cell (i := 2) rfl
    have kn := HS.out.kn
    have vs := HS.out.vs
    rw [hs] at vs
    have HKa := Lib.hid HS.out.key
    have HVa := Lib.hid HS.out.place.toAt
    go_wp2
    have Hv10 := Lib.hid (mapV_val Sh' s m Hm'.out)
    refine Go.XR.region_sched ((· = W8.drew)) [(0, true), (1, true), (2, true), (3, true), (4, true), (5, true), (7, true), (6, false), (8, false)] [8] Tryz.mixed (by kernel_rfl) (by kernel_rfl) (by kernel_rfl) ?_
    simp only [List.map_cons, List.map_nil, List.getElem?_cons_succ, List.getElem?_cons_zero]
    repeat (first | (refine Go.XR.S_light rfl rfl rfl ?_ (fun w' hS K hK => ?_) (fun K hK => ?_); rotate_left 1; (cases hS; (first | (first | (refine Go.XR.wp_load_at 29 _ rfl kb 0 rfl (keyC k) (At.drew HKa.out) _ Tryz.underlying29 rfl (keySize k) ?_)) | go_step); exact hK); go_step; refine hK _ ?_; clear hK K))
    refine Go.XR.S_heavy (fun K hK => ?_)
    refine Go.XR.wp_gm_lookup _ _ 102 rfl keysI64 Tryz.underlying102 (.map none) (fun w => Tryz.zeroValue113 w) s _ rfl rfl (GM.block (w' := W8.drew) HS.out.ix.shelves rfl) Hv10.out ?_
    refine hK _ _ ⟨fun _ => rfl, ?_⟩
    clear hK K
    repeat (first | (refine Go.XR.S_light rfl rfl rfl ?_ (fun w' hS K hK => ?_) (fun K hK => ?_); rotate_left 1; (cases hS; (first | (first | (refine Go.XR.wp_load_at 29 _ rfl kb 0 rfl (keyC k) (At.drew HKa.out) _ Tryz.underlying29 rfl (keySize k) ?_)) | go_step); exact hK); go_step; refine hK _ ?_; clear hK K))
    refine Go.XR.S_heavy (fun K hK => ?_)
    refine wp_gm_update _ _ _ 113 rfl keysKey Tryz.underlying113 unitV m _ k () rfl rfl rfl (GM.block (w' := W8.drew) (HS.out.ix.shelf s m Hm'.out).2.1 rfl) ?_
    intro W7 hG7 hg7 _
    have hb7 := But.of_grown hg7
    have HS2 := Lib.hid (HS.out.drew.step hb7 (by intro b hb; rw [List.mem_singleton] at hb; subst hb; exact .inl (HS.out.ix.shelf s _ Hm'.out).1) (HS.out.drew.ix.shelf_to Hm'.out hb7 hG7) (Grew.refl _ _))
    refine hK _ _ ⟨fun h => by simp at h, ?_⟩
    clear hK K hG7 hb7 hg7
    clear c0 c1 c2 kn vs HKa HVa
    refine Go.XR.S_nil ?_
    go_wp2
    go_ret
    refine ⟨rfl, m :: F2, ⟨pb, tb, sb, T', Sh', _, by rw [HD1.out]; exact HS2.out.ix, ?_⟩, HS2.out.but, HS2.out.grew⟩
    rw [HD1.out]
    refine HCo.out.put Hk1.out Hv.out hs (i := i) (by rw [Hrl.out]; exact Hlow.out) (r' := ⟨a', c', insAt rl i k.n⟩) (by rw [Hrl.out]) HT.out Hm'.out (fun t ht => by rw [← HSh.out, aget_put, if_neg ht]) (fun t ht => HS2.out.ix.shelfApart t s m ht Hm'.out) (fun i hi => by rw [if_neg hi, if_neg hi]) (by simp) (.inr ⟨Hm.out, rfl⟩)
end Go.Proofs.YtnfbchhbcinloaaGreat

/- An index of the call's own: its methods by contract. -/
namespace Go.Proofs.YtnfbchhbcinloaaGreat
open Go.RowKit Go.XR Go.IndexPure
def RetBool (w : World) (b : Bool) (e : Ending) (w' : World) : Prop := e = .returned (.bool b) ∧ Below w.heap.size w w'
/-- a new index is one -/
theorem RetNew.ix {w w' : World} {e : Ending} (h : RetNew w e w') : ∃ p F, e = .returned (.pointer (some ⟨p, 0, none⟩)) ∧ Ix w' F p [] ∧ (∀ b ∈ F, w.heap.size ≤ b) ∧ Below w.heap.size w w' := by
  obtain ⟨p, pb, tb, sb, rfl, h1, h2, h3, h4, h5, h6, h7, h8, h9, h10⟩ := h
  refine ⟨p, [p, pb, tb, sb], rfl, ⟨pb, tb, sb, [], [], fun _ => [], ?_, ?_⟩, ?_, h10⟩
  · refine ⟨?_, h1, by simp, by omega, ⟨#[], 0, h2, MapKept.stamped_empty 0, rfl⟩, ⟨#[], 0, h3, MapKept.stamped_empty 0, rfl⟩, ⟨#[], 0, h4, MapKept.stamped_empty 0, rfl⟩, ?_, ?_, ?_, ?_⟩
    · intro b hb
      simp at hb
      omega
    · intro d r hr; cases hr
    · intro d e r s a b hr; cases hr
    · intro s m hm; cases hm
    · intro s t m hm; cases hm
  · refine ⟨List.nodup_nil, fun d => List.Pairwise.nil, fun d r hr => (by cases hr), fun d n => ?_, fun k v hv => (by cases hv), fun s k => ?_, fun s m hm => (by cases hm)⟩
    · constructor
      · intro h; cases h
      · intro h; cases h
    · constructor
      · rintro ⟨m, hm, _⟩; cases hm
      · rintro ⟨v, hv, _⟩; cases hv
  · intro b hb
    simp at hb
    omega
theorem Ix.below {w w' : World} {F : List Nat} {p : Nat} {D : List (KeyT × PlaceT)} (h : Ix w F p D) (hb : Below w.heap.size w w') : Ix w' F p D := by
  obtain ⟨pb, tb, sb, T, Sh, L, h1, h2⟩ := h
  exact ⟨pb, tb, sb, T, Sh, L, h1.below hb, h2⟩
theorem Ix.but {w w' : World} {F S : List Nat} {p : Nat} {D : List (KeyT × PlaceT)} (h : Ix w F p D) (hb : But S w w') (hS : ∀ b ∈ F, b ∉ S) : Ix w' F p D := by
  obtain ⟨pb, tb, sb, T, Sh, L, h1, h2⟩ := h
  exact ⟨pb, tb, sb, T, Sh, L, h1.but hb hS, h2⟩
/-- an index of the call's own: it stands from block B on -/
def Own (B : Nat) (w : World) (p : Nat) (D : List (KeyT × PlaceT)) : Prop := ∃ F, Ix w F p D ∧ ∀ b ∈ F, B ≤ b
theorem Own.below {B : Nat} {w w' : World} {p : Nat} {D : List (KeyT × PlaceT)} (h : Own B w p D) (hb : Below w.heap.size w w') : Own B w' p D := by
  obtain ⟨F, h1, h2⟩ := h
  exact ⟨F, h1.below hb, h2⟩
theorem own_put {B : Nat} {w : World} {p : Nat} {D : List (KeyT × PlaceT)} (h : Own B w p D) (hB : B ≤ w.heap.size) (hlen : D.length ≤ 2^20) (k : KeyT) (v : PlaceT) (hv : PlaceOk v) :
    Calls Tryz.prog 34 #[.pointer (some ⟨p, 0, none⟩), keyV k, placeV v] w fun e w' => e = .returned (.bool (aget D k).isSome) ∧ Own B w' p (aput (adel D k) k v) ∧ Below B w w' := by
  obtain ⟨F, h1, h2⟩ := h
  refine (put_any w F p D h1 hlen k v hv).mono ?_
  rintro e w' ⟨rfl, F', h3, h4, h5⟩
  refine ⟨rfl, ⟨F', h3, fun b hb => ?_⟩, h4.below hB h2⟩
  rcases h5 b hb with h6 | h6
  · exact h2 b h6
  · omega
theorem own_drop {B : Nat} {w : World} {p : Nat} {D : List (KeyT × PlaceT)} (h : Own B w p D) (hB : B ≤ w.heap.size) (hlen : D.length ≤ 2^20) (k : KeyT) :
    Calls Tryz.prog 39 #[.pointer (some ⟨p, 0, none⟩), keyV k] w fun e w' => e = .returned (.bool (aget D k).isSome) ∧ Own B w' p (adel D k) ∧ Below B w w' := by
  obtain ⟨F, h1, h2⟩ := h
  refine (drop_any w F p D h1 hlen k).mono ?_
  rintro e w' ⟨rfl, F', h3, h4, h5⟩
  refine ⟨rfl, ⟨F', h3, fun b hb => ?_⟩, h4.below hB h2⟩
  rcases h5 b hb with h6 | h6
  · exact h2 b h6
  · omega
theorem own_get {B : Nat} {w : World} {p : Nat} {D : List (KeyT × PlaceT)} (h : Own B w p D) (k : KeyT) :
    Calls Tryz.prog 43 #[.pointer (some ⟨p, 0, none⟩), keyV k] w (RetGet w D k) := by
  obtain ⟨F, ⟨pb, tb, sb, T, Sh, L, h1, h2⟩, h3⟩ := h
  exact get_any w p pb tb sb D h1.blk h1.places k
theorem own_len {B : Nat} {w : World} {p : Nat} {D : List (KeyT × PlaceT)} (h : Own B w p D) :
    Calls Tryz.prog 53 #[.pointer (some ⟨p, 0, none⟩)] w (RetInt w D.length) := by
  obtain ⟨F, ⟨pb, tb, sb, T, Sh, L, h1, h2⟩, h3⟩ := h
  exact len_any w p pb tb sb D h1.blk h1.places
/-- the twins of a fingerprint: rising, and just those that are there -/
def TwinsOf (D : List (KeyT × PlaceT)) (d : SumT) (ns : List UInt32) : Prop := ns.Pairwise (fun x y => x.toNat < y.toNat) ∧ (∀ n, n ∈ ns ↔ (aget D ⟨d, n⟩).isSome = true) ∧ ns.length ≤ D.length
theorem own_twins {B : Nat} {w : World} {p : Nat} {D : List (KeyT × PlaceT)} (h : Own B w p D) (hlen : D.length ≤ 2^20) (d : SumT) :
    Calls Tryz.prog 54 #[.pointer (some ⟨p, 0, none⟩), sumV d] w fun e w' => ∃ ns, TwinsOf D d ns ∧ RetTwins w (ns.map fun n => ⟨d, n⟩) e w' := by
  obtain ⟨F, ⟨pb, tb, sb, T, Sh, L, h1, h2⟩, h3⟩ := h
  refine (twins_any w p pb tb sb T h1.blk h1.twins (fun d r hr => ⟨Row.owned (h1.row d r hr).1, ?_⟩) d).mono ?_
  · have := h2.nums_le d
    rw [numsOf_eq, hr] at this
    exact Nat.le_trans this hlen
  · intro e w' h
    exact ⟨numsOf T d, ⟨h2.sorted d, h2.mem d, h2.nums_le d⟩, h⟩
end Go.Proofs.YtnfbchhbcinloaaGreat

/- The order of keys, plain. -/
namespace Go.IndexPure
open Go.XR Go.Lib
theorem cb_self : ∀ a : List UInt8, compareBytes a a = 0
  | [] => rfl
  | x :: a => by unfold compareBytes; rw [if_neg (UInt8.lt_irrefl x), if_neg (UInt8.lt_irrefl x)]; exact cb_self a
theorem cb_zero : ∀ a b : List UInt8, compareBytes a b = 0 → a = b
  | [], [], _ => rfl
  | [], _ :: _, h => by simp [compareBytes] at h
  | _ :: _, [], h => by simp [compareBytes] at h
  | x :: a, y :: b, h => by
    unfold compareBytes at h
    split at h
    · omega
    · split at h
      · omega
      · rename_i h1 h2
        rw [cb_zero a b h, UInt8.le_antisymm (UInt8.not_lt.1 h2) (UInt8.not_lt.1 h1)]
theorem cb_swap : ∀ a b : List UInt8, compareBytes b a = - compareBytes a b
  | [], [] => rfl
  | [], _ :: _ => rfl
  | _ :: _, [] => rfl
  | x :: a, y :: b => by
    unfold compareBytes
    by_cases h1 : x < y
    · have h2 : ¬ y < x := UInt8.lt_asymm h1
      simp [h1, h2]
    · by_cases h2 : y < x
      · simp [h1, h2]
      · simp only [h1, h2, if_false]
        exact cb_swap a b
theorem cb_trans : ∀ a b c : List UInt8, compareBytes a b < 0 → compareBytes b c < 0 → compareBytes a c < 0
  | [], [], _, h, _ => by simp [compareBytes] at h
  | [], _ :: _, [], _, h => by simp [compareBytes] at h
  | [], _ :: _, _ :: _, _, _ => by simp [compareBytes]
  | _ :: _, [], _, h, _ => by simp [compareBytes] at h
  | _ :: _, _ :: _, [], _, h => by simp [compareBytes] at h
  | x :: a, y :: b, z :: c, h1, h2 => by
    unfold compareBytes at h1 h2 ⊢
    simp only [UInt8.lt_iff_toNat_lt] at *
    by_cases c1 : x.toNat < y.toNat
    · by_cases c2 : y.toNat < z.toNat
      · rw [if_pos (by omega)]; decide
      · by_cases c3 : z.toNat < y.toNat
        · rw [if_neg c2, if_pos c3] at h2; omega
        · rw [if_pos (by omega)]; decide
    · by_cases c4 : y.toNat < x.toNat
      · rw [if_neg c1, if_pos c4] at h1; omega
      · rw [if_neg c1, if_neg c4] at h1
        by_cases c2 : y.toNat < z.toNat
        · rw [if_pos (by omega)]; decide
        · by_cases c3 : z.toNat < y.toNat
          · rw [if_neg c2, if_pos c3] at h2; omega
          · rw [if_neg c2, if_neg c3] at h2
            rw [if_neg (by omega), if_neg (by omega)]
            exact cb_trans a b c h1 h2
theorem less_cb : ∀ a b : List UInt8, Op.bytesLess a b = decide (compareBytes a b < 0)
  | [], [] => by simp [Op.bytesLess, compareBytes]
  | [], _ :: _ => by simp [Op.bytesLess, compareBytes]
  | _ :: _, [] => by simp [Op.bytesLess, compareBytes]
  | x :: a, y :: b => by
    have ih := less_cb a b
    unfold Op.bytesLess compareBytes
    by_cases h1 : x < y
    · have h2 : ¬ x = y := fun e => UInt8.lt_irrefl x (e ▸ h1)
      simp [h1]
    · by_cases h2 : y < x
      · have h3 : ¬ x = y := fun e => UInt8.lt_irrefl x (e ▸ h2)
        simp [h1, h2, h3]
      · have h3 : x = y := UInt8.le_antisymm (UInt8.not_lt.1 h2) (UInt8.not_lt.1 h1)
        simp [h3, ih]
def sumB (s : Vector UInt8 32) : List UInt8 := s.toList
/-- how keys compare -/
def cfK (a b : KeyT) : Int := or2 (compareBytes (sumB a.sum) (sumB b.sum)) (compareInt (a.n.toNat : Int) (b.n.toNat : Int))
theorem ci_lt (x y : Int) : compareInt x y < 0 ↔ x < y := by unfold compareInt; split <;> (try split) <;> omega
theorem ci_zero (x y : Int) : compareInt x y = 0 ↔ x = y := by unfold compareInt; split <;> (try split) <;> omega
theorem ci_swap (x y : Int) : compareInt y x = - compareInt x y := by unfold compareInt; split <;> split <;> (try split) <;> (try split) <;> omega
theorem or2_swap (a b : Int) : or2 (-a) (-b) = - or2 a b := by unfold or2; split <;> split <;> omega
theorem cfK_swap (a b : KeyT) : cfK b a = - cfK a b := by unfold cfK; rw [cb_swap, ci_swap, or2_swap]
theorem cfK_zero (a b : KeyT) : cfK a b = 0 ↔ a = b := by
  unfold cfK or2
  constructor
  · intro h
    split at h
    · rename_i h1
      have h2 := cb_zero _ _ h1
      have h3 : a.sum = b.sum := Vector.toList_inj.1 h2
      have h4 := (ci_zero _ _).1 h
      have h5 : a.n = b.n := UInt32.toNat_inj.1 (by omega)
      cases a; cases b; simp_all
    · rename_i h1; exact absurd h h1
  · rintro rfl
    rw [if_pos (cb_self _)]
    exact (ci_zero _ _).2 rfl
theorem cfK_trans (a b c : KeyT) (h1 : cfK a b < 0) (h2 : cfK b c < 0) : cfK a c < 0 := by
  unfold cfK or2 at *
  by_cases e1 : compareBytes (sumB a.sum) (sumB b.sum) = 0
  · rw [if_pos e1] at h1
    rw [cb_zero _ _ e1]
    by_cases e2 : compareBytes (sumB b.sum) (sumB c.sum) = 0
    · rw [if_pos e2] at h2 ⊢
      rw [ci_lt] at *
      omega
    · rw [if_neg e2] at h2 ⊢
      exact h2
  · rw [if_neg e1] at h1
    by_cases e2 : compareBytes (sumB b.sum) (sumB c.sum) = 0
    · rw [← cb_zero _ _ e2, if_neg e1]
      exact h1
    · rw [if_neg e2] at h2
      have h3 := cb_trans _ _ _ h1 h2
      rw [if_neg (by omega)]
      exact h3
/-- how rows compare in a whole index, and on a shelf -/
def cfA (x y : KeyT × PlaceT) : Int := cfK x.1 y.1
def cfS (x y : KeyT × PlaceT) : Int := or2 (compareInt x.2.slot y.2.slot) (cfK x.1 y.1)
theorem cfS_swap (x y : KeyT × PlaceT) : cfS y x = - cfS x y := by unfold cfS; rw [ci_swap, cfK_swap, or2_swap]
theorem cfS_neg (x y : KeyT × PlaceT) : cfS x y < 0 ↔ x.2.slot < y.2.slot ∨ (x.2.slot = y.2.slot ∧ cfK x.1 y.1 < 0) := by
  unfold cfS or2
  have h1 := ci_lt x.2.slot y.2.slot
  have h2 := ci_zero x.2.slot y.2.slot
  split <;> omega
theorem cfS_trans (x y z : KeyT × PlaceT) (h1 : cfS x y < 0) (h2 : cfS y z < 0) : cfS x z < 0 := by
  rw [cfS_neg] at *
  rcases h1 with h1 | ⟨h1, h3⟩ <;> rcases h2 with h2 | ⟨h2, h4⟩
  · exact .inl (by omega)
  · exact .inl (by omega)
  · exact .inl (by omega)
  · exact .inr ⟨by omega, cfK_trans _ _ _ h3 h4⟩
theorem cfS_zero (x y : KeyT × PlaceT) : cfS x y = 0 ↔ x.2.slot = y.2.slot ∧ x.1 = y.1 := by
  unfold cfS or2
  have h2 := ci_zero x.2.slot y.2.slot
  have h3 := cfK_zero x.1 y.1
  split
  · rename_i h; rw [h3]; exact ⟨fun e => ⟨h2.1 h, e⟩, fun e => e.2⟩
  · rename_i h; exact ⟨fun e => absurd e h, fun e => absurd (h2.2 e.1) h⟩
theorem swo_of {α : Type} (cf : α → α → Int) (hs : ∀ x y, cf y x = - cf x y) (ht : ∀ x y z, cf x y < 0 → cf y z < 0 → cf x z < 0) (h0 : ∀ x y z, cf x y = 0 → cf y z = cf x z) : Sort.SWO (Go.Proofs.ltOf cf) where
  irrefl x := by unfold Go.Proofs.ltOf; rw [decide_eq_false_iff_not]; have := hs x x; omega
  trans x y z h1 h2 := by
    unfold Go.Proofs.ltOf at *
    rw [decide_eq_true_iff] at *
    exact ht x y z h1 h2
  ntrans x y z h1 h2 := by
    unfold Go.Proofs.ltOf at *
    rw [decide_eq_false_iff_not] at *
    intro h3
    by_cases e : cf x y = 0
    · rw [h0 x y z e] at h2; omega
    · have h4 : cf y x < 0 := by have := hs x y; omega
      have h5 := ht _ _ _ h4 h3
      omega
theorem swoA : Sort.SWO (Go.Proofs.ltOf cfA) := swo_of cfA (fun x y => cfK_swap x.1 y.1) (fun x y z => cfK_trans x.1 y.1 z.1) (fun x y z h => by
  unfold cfA at *
  rw [(cfK_zero _ _).1 h])
theorem swoS : Sort.SWO (Go.Proofs.ltOf cfS) := swo_of cfS cfS_swap cfS_trans (fun x y z h => by
  obtain ⟨h1, h2⟩ := (cfS_zero _ _).1 h
  unfold cfS
  rw [h1, h2])
/-- a strictly rising list is known by what is in it -/
theorem eq_of_strict {α : Type} {r : α → α → Prop} (asymm : ∀ a b, r a b → ¬ r b a) : ∀ (l m : List α), l.Pairwise r → m.Pairwise r → (∀ x, x ∈ l ↔ x ∈ m) → l = m
  | [], [], _, _, _ => rfl
  | [], b :: m, _, _, h => absurd ((h b).2 (by simp)) (by simp)
  | a :: l, [], _, _, h => absurd ((h a).1 (by simp)) (by simp)
  | a :: l, b :: m, h1, h2, h => by
    rw [List.pairwise_cons] at h1 h2
    have hab : a = b := Classical.byContradiction fun hne => by
      have ha : a ∈ m := by
        rcases List.mem_cons.1 ((h a).1 (by simp)) with e | e
        · exact absurd e hne
        · exact e
      have hb : b ∈ l := by
        rcases List.mem_cons.1 ((h b).2 (by simp)) with e | e
        · exact absurd e.symm hne
        · exact e
      exact asymm _ _ (h1.1 b hb) (h2.1 a ha)
    subst hab
    have irr : ∀ x, ¬ r x x := fun x hx => asymm x x hx hx
    rw [eq_of_strict asymm l m h1.2 h2.2 fun x => ?_]
    constructor
    · intro hx
      rcases List.mem_cons.1 ((h x).1 (List.mem_cons_of_mem _ hx)) with e | e
      · subst e; exact absurd (h1.1 _ hx) (irr _)
      · exact e
    · intro hx
      rcases List.mem_cons.1 ((h x).2 (List.mem_cons_of_mem _ hx)) with e | e
      · subst e; exact absurd (h2.1 _ hx) (irr _)
      · exact e
/-- a list that is sorted, whose keys are unlike, is strictly so -/
theorem strict_of {α κ : Type} (key : α → κ) (cf : α → α → Int) (hs : ∀ x y, cf y x = - cf x y) (h0 : ∀ x y, cf x y = 0 → key x = key y) {l : List α} (hnd : (l.map key).Nodup) (h : l.Pairwise (fun x y => ¬ cf y x < 0)) : l.Pairwise (fun x y => cf x y < 0) := by
  have h1 : l.Pairwise (fun x y => key x ≠ key y) := by
    unfold List.Nodup at hnd
    rwa [List.pairwise_map] at hnd
  refine (h1.and h).imp fun {x y} ⟨hk, hn⟩ => ?_
  have := hs x y
  have h2 : cf x y ≠ 0 := fun e => hk (h0 x y e)
  omega
end Go.IndexPure

/- The walks over bytes.Compare, cmp.Compare, order, Less, and the comparisons of the two sorts. -/
namespace Go.Proofs.YtnfbchhbcinloaaGreat
open Go.RowKit Go.XR Go.IndexPure
theorem sum_nums (s : SumT) : Lib.bytesOf (s.toList.map fun b => (b.toNat : Int)) = sumB s := by
  unfold Lib.bytesOf sumB
  rw [List.map_map]
  conv => rhs; rw [← List.map_id s.toList]
  refine List.map_congr_left fun b _ => ?_
  show ((b.toNat : Int)).toNat.toUInt8 = b
  simp
theorem sum_bytes (s : SumT) : ((s.toList.map fun b => (b.toNat : Int)).map fun n => UInt8.ofNat n.toNat) = sumB s := by
  unfold sumB
  rw [List.map_map]
  conv => rhs; rw [← List.map_id s.toList]
  refine List.map_congr_left fun b _ => ?_
  show UInt8.ofNat ((b.toNat : Int)).toNat = b
  simp
theorem sum_len (s : SumT) : (s.toList.map fun b => (b.toNat : Int)).length = 32 := by simp
theorem sum_cell {w : World} {b o : Nat} {s : SumT} (h : At w b o (sumC s)) {i : Nat} (hi : i < 32) : w.cell? ⟨b, o + i, none⟩ = some (.int .u8 ((s.toList.map fun b => (b.toNat : Int)).getD i 0)) := by
  refine h i _ ?_
  show (sumL s).toArray[i]? = _
  rw [List.getElem?_toArray]
  unfold sumL
  rw [List.getElem?_map, List.getElem?_eq_getElem (by simpa using hi), List.getD_eq_getElem?_getD, List.getElem?_map, List.getElem?_eq_getElem (by simpa using hi)]
  rfl
theorem run_bytes_sum {w : World} {b o c : Nat} {s : SumT} (h : At w b o (sumC s)) : (Extern.Bytes.bytesOf (.slice (some ⟨b, o, none⟩) 32 c)).run Tryz.prog w = .ok ⟨(sumB s).toArray⟩ w := by
  have hl := Lib.run_loadBytesX (P := Tryz.prog) w (s.toList.map fun b => (b.toNat : Int)) ⟨b, o, none⟩ .empty (fun j x hj => by
    have hjl := (List.getElem?_eq_some_iff.1 hj).1
    rw [sum_len] at hjl
    rw [add_lit, sum_cell h hjl, List.getD_eq_getElem?_getD, hj]; rfl)
  rw [sum_len, sum_nums] at hl
  have he : (⟨ByteArray.empty.data ++ (sumB s).toArray⟩ : ByteArray) = ⟨(sumB s).toArray⟩ := by
    apply ByteArray.ext
    show (#[] : Array UInt8) ++ (sumB s).toArray = (sumB s).toArray
    simp
  rw [he] at hl
  exact hl
set_option maxHeartbeats 1000000 in
set_option maxRecDepth 100000 in
theorem bcmp_any (w : World) (b1 o1 c1 b2 o2 c2 : Nat) (s t : SumT) (h1 : At w b1 o1 (sumC s)) (h2 : At w b2 o2 (sumC t)) :
    Calls Tryz.prog 84 #[.slice (some ⟨b1, o1, none⟩) 32 c1, .slice (some ⟨b2, o2, none⟩) 32 c2] w fun e w' => e = .returned (.int .i64 (Lib.compareBytes (sumB s) (sumB t))) ∧ w' = w := by
  have hc : (callFunc 99 #[.slice (some ⟨b1, o1, none⟩) 32 c1, .slice (some ⟨b2, o2, none⟩) 32 c2]).run Tryz.prog w = .ok (.value (.int .i64 (Lib.compareBytes (sumB s) (sumB t)))) w := by
    rw [run_callFunc_extern Tryz.func99 (by kernel_rfl) (by kernel_rfl) (by kernel_rfl) (e := Extern.BytealgCompare.compare) (by kernel_rfl)]
    have hr : (Extern.BytealgCompare.compare #[.slice (some ⟨b1, o1, none⟩) 32 c1, .slice (some ⟨b2, o2, none⟩) 32 c2]).run Tryz.prog w = .ok (.int .i64 (Lib.compareBytes (sumB s) (sumB t))) w := by
      change Sem.run Tryz.prog (do pure (goInt (Extern.BytealgCompare.cmp (← Extern.Bytes.bytesOf (.slice (some ⟨b1, o1, none⟩) 32 c1)) (← Extern.Bytes.bytesOf (.slice (some ⟨b2, o2, none⟩) 32 c2))))) w = _
      simp only [Sem.run_bind, run_bytes_sum h1, run_bytes_sum h2, Result.andThen_ok, Sem.run_pure, Lib.cmp_eq]
      rfl
    rw [hr]; rfl
  have Hc := Lib.hid hc
  clear hc h1 h2
  generalize Lib.compareBytes (sumB s) (sumB t) = z at *
  have hc := Hc.out
  go_enter Tryz.func84, Tryz.ntmps84
  go_wp2_with (simp only [hc])
  go_ret
  exact ⟨rfl, rfl⟩
set_option maxHeartbeats 1000000 in
set_option maxRecDepth 100000 in
theorem cmp32_any (w : World) (x y : UInt32) :
    Calls Tryz.prog 85 #[.int .u32 (x.toNat : Int), .int .u32 (y.toNat : Int)] w fun e w' => e = .returned (.int .i64 (Lib.compareInt (x.toNat : Int) (y.toNat : Int))) ∧ w' = w := by
  have hx := x.toNat_lt
  have hy := y.toNat_lt
  generalize x.toNat = x at *
  generalize y.toNat = y at *
  rcases Nat.lt_trichotomy x y with h | h | h
  · have h1 : (x : Int) < (y : Int) := by omega
    have e1 : Lib.compareInt (x : Int) (y : Int) = -1 := by unfold Lib.compareInt; rw [if_pos h1]
    rw [e1]
    go_enter Tryz.func85, Tryz.ntmps85
    go_wp2
    go_ret
    exact ⟨rfl, rfl⟩
  · subst h
    have e1 : Lib.compareInt (x : Int) (x : Int) = 0 := (ci_zero _ _).2 rfl
    rw [e1]
    go_enter Tryz.func85, Tryz.ntmps85
    go_wp2
    go_ret
    exact ⟨rfl, rfl⟩
  · have h1 : ¬ (x : Int) < (y : Int) := by omega
    have h2 : (y : Int) < (x : Int) := by omega
    have h3 : ¬ x < y := by omega
    have e1 : Lib.compareInt (x : Int) (y : Int) = 1 := by unfold Lib.compareInt; rw [if_neg h1, if_pos h2]
    rw [e1]
    go_enter Tryz.func85, Tryz.ntmps85
    go_wp2
    go_ret
    exact ⟨rfl, rfl⟩
set_option maxHeartbeats 1000000 in
set_option maxRecDepth 100000 in
theorem cmpI_any (w : World) (x y : Int) :
    Calls Tryz.prog 74 #[.int .i64 x, .int .i64 y] w fun e w' => e = .returned (.int .i64 (Lib.compareInt x y)) ∧ w' = w := by
  rcases Int.lt_trichotomy x y with h1 | h | h2
  · have e1 : Lib.compareInt x y = -1 := by unfold Lib.compareInt; rw [if_pos h1]
    rw [e1]
    go_enter Tryz.func74, Tryz.ntmps74
    go_wp2
    go_ret
    exact ⟨rfl, rfl⟩
  · subst h
    have e1 : Lib.compareInt x x = 0 := (ci_zero _ _).2 rfl
    rw [e1]
    go_enter Tryz.func74, Tryz.ntmps74
    go_wp2
    go_ret
    exact ⟨rfl, rfl⟩
  · have h1 : ¬ x < y := by omega
    have e1 : Lib.compareInt x y = 1 := by unfold Lib.compareInt; rw [if_neg h1, if_pos h2]
    rw [e1]
    go_enter Tryz.func74, Tryz.ntmps74
    go_wp2
    go_ret
    exact ⟨rfl, rfl⟩
/-- a world that only grew -/
def Grown (w w' : World) : Prop := ∃ q os, w' = Sort.grow (w.drewN q) os
set_option maxHeartbeats 1000000 in
set_option maxRecDepth 100000 in
theorem order_any (w : World) (a b : KeyT) :
    Calls Tryz.prog 71 #[keyV a, keyV b] w fun e w' => e = .returned (.int .i64 (cfK a b)) ∧ Grown w w' := by
  obtain ⟨W0, hW0⟩ : ∃ W0, (w.alloc (.cells (keyC a) 29)).alloc (.cells (keyC b) 29) = W0 := ⟨_, rfl⟩
  have HA : Hid (At W0 w.heap.size 0 (keyC a)) := by unfold Hid; rw [← hW0]; exact (At.new _ _ _).alloc _
  have HB : Hid (At W0 (w.heap.size + 1) 0 (keyC b)) := by
    unfold Hid; rw [← hW0]
    have h := At.new (w.alloc (.cells (keyC a) 29)) (keyC b) 29
    rwa [show (w.alloc (.cells (keyC a) 29)).heap.size = w.heap.size + 1 by simp] at h
  obtain ⟨z1, hz1⟩ : ∃ z, Lib.compareBytes (sumB a.sum) (sumB b.sum) = z := ⟨_, rfl⟩
  obtain ⟨z2, hz2⟩ : ∃ z, Lib.compareInt (a.n.toNat : Int) (b.n.toNat : Int) = z := ⟨_, rfl⟩
  have hz : cfK a b = or2 z1 z2 := by unfold cfK; rw [hz1, hz2]
  rw [hz]
  obtain ⟨z3, hz3⟩ : ∃ z, or2 z1 z2 = z := ⟨_, rfl⟩
  have K3 : Hid (∀ w b n, w.cell? ⟨b, 0, none⟩ = some (.int .i64 z1) → w.cell? ⟨b, 1, none⟩ = some (.int .i64 z2) → Calls Tryz.prog 73 #[.slice (some ⟨b, 0, none⟩) 2 n] w fun e w' => e = .returned (.int .i64 z3) ∧ w' = w) := fun w b n cx cy => by rw [← hz3]; exact or_any w b n z1 z2 cx cy
  rw [hz3]
  have K1 : Hid (Calls Tryz.prog 84 #[.slice (some ⟨w.heap.size, 0, none⟩) 32 32, .slice (some ⟨w.heap.size + 1, 0, none⟩) 32 32] W0.drew fun e w' => e = .returned (.int .i64 z1) ∧ w' = W0.drew) := by
    rw [← hz1]; exact bcmp_any W0.drew _ _ _ _ _ _ a.sum b.sum (key_at_sum HA.out) (key_at_sum HB.out)
  have K2 : Hid (∀ W, Calls Tryz.prog 85 #[.int .u32 (a.n.toNat : Int), .int .u32 (b.n.toNat : Int)] W fun e w' => e = .returned (.int .i64 z2) ∧ w' = W) := fun W => by rw [← hz2]; exact cmp32_any W a.n b.n
  have na : W0.cell? ⟨w.heap.size, 32, none⟩ = some (.int .u32 (a.n.toNat : Int)) := by have := key_at_n HA.out; rwa [Nat.zero_add] at this
  have nb : W0.cell? ⟨w.heap.size + 1, 32, none⟩ = some (.int .u32 (b.n.toNat : Int)) := by have := key_at_n HB.out; rwa [Nat.zero_add] at this
  clear hz hz1 hz2 hz3 HA HB
  go_enter Tryz.func71, Tryz.ntmps71
  go_wp2
  refine Go.XR.region_sched ((· = W0.drew)) [(0, true), (1, true), (2, true), (3, true), (5, true), (6, true), (7, true), (8, true), (4, false), (9, false), (10, false), (11, false), (12, false)] [9, 10, 11, 12] Tryz.mixed (by kernel_rfl) (by kernel_rfl) (by kernel_rfl) ?_
  simp only [List.map_cons, List.map_nil, List.getElem?_cons_succ, List.getElem?_cons_zero]
  repeat (first | (refine Go.XR.S_light rfl rfl rfl ?_ (fun w' hS K hK => ?_) (fun K hK => ?_); rotate_left 1; (cases hS; go_step; exact hK); go_step; refine hK _ ?_; clear hK K))
  refine Go.XR.S_heavy (fun K hK => ?_)
  go_step
  ((with_reducible refine (K1.out).mono ?_); rintro e w' ⟨rfl, rfl⟩)
  refine hK _ _ ⟨fun _ => rfl, ?_⟩
  clear hK K
  repeat (first | (refine Go.XR.S_light rfl rfl rfl ?_ (fun w' hS K hK => ?_) (fun K hK => ?_); rotate_left 1; (cases hS; go_step; exact hK); go_step; refine hK _ ?_; clear hK K))
  refine Go.XR.S_heavy (fun K hK => ?_)
  go_step
  ((with_reducible refine (K2.out _).mono ?_); rintro e w' ⟨rfl, rfl⟩)
  refine hK _ _ ⟨fun _ => rfl, ?_⟩
  clear hK K
  repeat (first | (refine Go.XR.S_light rfl rfl rfl ?_ (fun w' hS K hK => ?_) (fun K hK => ?_); rotate_left 1; (cases hS; go_step; exact hK); go_step; refine hK _ ?_; clear hK K))
  refine Go.XR.S_heavy (fun K hK => ?_)
  go_step
  refine hK _ _ ⟨fun h => by simp at h, ?_⟩
  clear hK K
  refine Go.XR.S_heavy (fun K hK => ?_)
  go_step
  ((with_reducible refine (K3.out _ _ _ (by simp) (by simp)).mono ?_); rintro e w' ⟨rfl, rfl⟩)
  refine hK _ _ ⟨fun h => by simp at h, ?_⟩
  clear hK K
  repeat (first | (refine Go.XR.S_heavy (fun K hK => ?_); go_step; refine hK _ _ ⟨fun h => by simp at h, ?_⟩; clear hK K))
  refine Go.XR.S_nil ?_
  go_wp2
  go_ret
  refine ⟨rfl, 1, #[.cells (keyC a) 29, .cells (keyC b) 29, .cells #[.int .i64 z1, .int .i64 z2] 3], ?_⟩
  rw [← hW0, Sort.alloc_eq_grow, Sort.alloc_eq_grow, Sort.alloc_eq_grow, Sort.grow_grow, Sort.grow_grow]
  rfl
theorem Grown.trans {a b c : World} (h : Grown a b) (h' : Grown b c) : Grown a c := by
  obtain ⟨q, os, rfl⟩ := h
  obtain ⟨q', os', rfl⟩ := h'
  refine ⟨q + q', os ++ os', ?_⟩
  have e : (Sort.grow (a.drewN q) os).drewN q' = Sort.grow (a.drewN (q + q')) os := by
    simp [Sort.grow, World.drewN, Nat.add_assoc]
  rw [e, Sort.grow_grow]
theorem Grown.alloc (w : World) (o : Obj) : Grown w (w.alloc o) := ⟨0, #[o], by rw [Sort.alloc_eq_grow]; rfl⟩
theorem Grown.drew (w : World) : Grown w w.drew := ⟨1, #[], by rw [Sort.grow_empty]; rfl⟩
theorem Grown.below {w w' : World} (h : Grown w w') : Below w.heap.size w w' := by
  obtain ⟨q, os, rfl⟩ := h
  exact ⟨rfl, rfl, rfl, by rw [Sort.size_grow]; exact Nat.le_add_right _ _, fun k hk => Sort.heap_grow_old _ _ hk⟩
theorem row_at_key {w : World} {b o : Nat} {r : KeyT × PlaceT} (h : At w b o (rowC r)) : At w b o (keyC r.1) := by
  have := h.sub 0 33
  rwa [rowC_key, Nat.add_zero] at this
theorem row_at_place {w : World} {b o : Nat} {r : KeyT × PlaceT} (h : At w b o (rowC r)) : At w b (o + 33) (placeC r.2) := by
  have := h.sub 33 2
  rwa [rowC_place] at this
theorem row_at_slot {w : World} {b o : Nat} {r : KeyT × PlaceT} (h : At w b o (rowC r)) : w.cell? ⟨b, o + 34, none⟩ = some (.int .i64 r.2.slot) := h 34 _ (rowC_slot r)
theorem row_at_shelf {w : World} {b o : Nat} {r : KeyT × PlaceT} (h : At w b o (rowC r)) : w.cell? ⟨b, o + 33, none⟩ = some (.int .i64 r.2.shelf) := h 33 _ (rowC_shelf r)
set_option maxHeartbeats 1000000 in
set_option maxRecDepth 100000 in
theorem cmpA_any (x y : KeyT × PlaceT) (w : World) :
    Calls Tryz.prog 70 #[rowV x, rowV y] w fun e w' => e = .returned (.int .i64 (cfA x y)) ∧ Grown w w' := by
  obtain ⟨W0, hW0⟩ : ∃ W0, (w.alloc (.cells (rowC x) 42)).alloc (.cells (rowC y) 42) = W0 := ⟨_, rfl⟩
  have HA : Hid (At W0 w.heap.size 0 (keyC x.1)) := by unfold Hid; rw [← hW0]; exact row_at_key ((At.new _ _ _).alloc _)
  have HB : Hid (At W0 (w.heap.size + 1) 0 (keyC y.1)) := by
    unfold Hid; rw [← hW0]
    have h := At.new (w.alloc (.cells (rowC x) 42)) (rowC y) 42
    rw [show (w.alloc (.cells (rowC x) 42)).heap.size = w.heap.size + 1 by simp] at h
    exact row_at_key h
  have hg : Grown w W0 := by rw [← hW0]; exact (Grown.alloc _ _).trans (Grown.alloc _ _)
  have Hg := Lib.hid hg
  clear hg
  go_enter Tryz.func70, Tryz.ntmps70
  go_wp2_with (first | (refine wpList_load_at rfl 29 (.tmp 5) rfl w.heap.size 0 rfl (keyC x.1) HA.out _ Tryz.underlying29 rfl (keySize x.1) ?_) | (refine wpList_load_at rfl 29 (.tmp 7) rfl (w.heap.size + 1) 0 rfl (keyC y.1) HB.out _ Tryz.underlying29 rfl (keySize y.1) ?_) | fail)
  refine (order_any W0 x.1 y.1).mono ?_
  rintro e w2 ⟨rfl, hg2⟩
  have Hg2 := Lib.hid (Hg.out.trans hg2)
  clear hg2
  go_wp2
  go_ret
  exact ⟨rfl, Hg2.out⟩
set_option maxHeartbeats 1000000 in
set_option maxRecDepth 100000 in
theorem cmpS_any (x y : KeyT × PlaceT) (w : World) :
    Calls Tryz.prog 72 #[rowV x, rowV y] w fun e w' => e = .returned (.int .i64 (cfS x y)) ∧ Grown w w' := by
  obtain ⟨W0, hW0⟩ : ∃ W0, (w.alloc (.cells (rowC x) 42)).alloc (.cells (rowC y) 42) = W0 := ⟨_, rfl⟩
  have hA : At W0 w.heap.size 0 (rowC x) := by rw [← hW0]; exact (At.new _ _ _).alloc _
  have hB : At W0 (w.heap.size + 1) 0 (rowC y) := by
    rw [← hW0]
    have h := At.new (w.alloc (.cells (rowC x) 42)) (rowC y) 42
    rwa [show (w.alloc (.cells (rowC x) 42)).heap.size = w.heap.size + 1 by simp] at h
  have HA := Lib.hid (row_at_key hA)
  have HB := Lib.hid (row_at_key hB)
  have sa : W0.cell? ⟨w.heap.size, 34, none⟩ = some (.int .i64 x.2.slot) := by have := row_at_slot hA; rwa [Nat.zero_add] at this
  have sb : W0.cell? ⟨w.heap.size + 1, 34, none⟩ = some (.int .i64 y.2.slot) := by have := row_at_slot hB; rwa [Nat.zero_add] at this
  have Hg : Hid (Grown w W0.drew) := by
    have : Grown w W0 := by rw [← hW0]; exact (Grown.alloc _ _).trans (Grown.alloc _ _)
    exact this.trans (Grown.drew _)
  obtain ⟨z1, hz1⟩ : ∃ z, Lib.compareInt x.2.slot y.2.slot = z := ⟨_, rfl⟩
  obtain ⟨z2, hz2⟩ : ∃ z, cfK x.1 y.1 = z := ⟨_, rfl⟩
  have hz : cfS x y = or2 z1 z2 := by unfold cfS; rw [hz1, hz2]
  rw [hz]
  obtain ⟨z3, hz3⟩ : ∃ z, or2 z1 z2 = z := ⟨_, rfl⟩
  have K3 : Hid (∀ w b n, w.cell? ⟨b, 0, none⟩ = some (.int .i64 z1) → w.cell? ⟨b, 1, none⟩ = some (.int .i64 z2) → Calls Tryz.prog 73 #[.slice (some ⟨b, 0, none⟩) 2 n] w fun e w' => e = .returned (.int .i64 z3) ∧ w' = w) := fun w b n cx cy => by rw [← hz3]; exact or_any w b n z1 z2 cx cy
  rw [hz3]
  have K1 : Hid (∀ W, Calls Tryz.prog 74 #[.int .i64 x.2.slot, .int .i64 y.2.slot] W fun e w' => e = .returned (.int .i64 z1) ∧ w' = W) := fun W => by rw [← hz1]; exact cmpI_any W _ _
  have K2 : Hid (∀ W, Calls Tryz.prog 71 #[keyV x.1, keyV y.1] W fun e w' => e = .returned (.int .i64 z2) ∧ Grown W w') := fun W => by rw [← hz2]; exact order_any W x.1 y.1
  clear hz hz1 hz2 hz3 hA hB
  go_enter Tryz.func72, Tryz.ntmps72
  go_wp2
  refine Go.XR.region_sched ((· = W0.drew)) [(0, true), (1, true), (2, true), (3, true), (4, true), (5, true), (7, true), (8, true), (9, true), (10, true), (6, false), (11, false), (12, false), (13, false), (14, false)] [11, 12, 13, 14] Tryz.mixed (by kernel_rfl) (by kernel_rfl) (by kernel_rfl) ?_
  simp only [List.map_cons, List.map_nil, List.getElem?_cons_succ, List.getElem?_cons_zero]
  repeat (first | (refine Go.XR.S_light rfl rfl rfl ?_ (fun w' hS K hK => ?_) (fun K hK => ?_); rotate_left 1; (cases hS; (first | (first | (refine Go.XR.wp_load_at 29 (.tmp 12) rfl w.heap.size 0 rfl (keyC x.1) (At.drew HA.out) _ Tryz.underlying29 rfl (keySize x.1) ?_) | (refine Go.XR.wp_load_at 29 (.tmp 14) rfl (w.heap.size + 1) 0 rfl (keyC y.1) (At.drew HB.out) _ Tryz.underlying29 rfl (keySize y.1) ?_)) | go_step); exact hK); go_step; refine hK _ ?_; clear hK K))
  refine Go.XR.S_heavy (fun K hK => ?_)
  go_step
  ((with_reducible refine (K1.out _).mono ?_); rintro e w' ⟨rfl, rfl⟩)
  refine hK _ _ ⟨fun _ => rfl, ?_⟩
  clear hK K
  repeat (first | (refine Go.XR.S_light rfl rfl rfl ?_ (fun w' hS K hK => ?_) (fun K hK => ?_); rotate_left 1; (cases hS; (first | (first | (refine Go.XR.wp_load_at 29 (.tmp 12) rfl w.heap.size 0 rfl (keyC x.1) (At.drew HA.out) _ Tryz.underlying29 rfl (keySize x.1) ?_) | (refine Go.XR.wp_load_at 29 (.tmp 14) rfl (w.heap.size + 1) 0 rfl (keyC y.1) (At.drew HB.out) _ Tryz.underlying29 rfl (keySize y.1) ?_)) | go_step); exact hK); go_step; refine hK _ ?_; clear hK K))
  refine Go.XR.S_heavy (fun K hK => ?_)
  go_step
  ((with_reducible refine (K2.out W0.drew).mono ?_); rintro e w2 ⟨rfl, hg2⟩)
  have Hg2 := Lib.hid (Hg.out.trans hg2)
  clear hg2
  refine hK _ _ ⟨fun h => by simp at h, ?_⟩
  clear hK K
  refine Go.XR.S_heavy (fun K hK => ?_)
  go_step
  refine hK _ _ ⟨fun h => by simp at h, ?_⟩
  clear hK K
  refine Go.XR.S_heavy (fun K hK => ?_)
  go_step
  ((with_reducible refine (K3.out _ _ _ (by simp) (by simp)).mono ?_); rintro e w' ⟨rfl, rfl⟩)
  refine hK _ _ ⟨fun h => by simp at h, ?_⟩
  clear hK K
  repeat (first | (refine Go.XR.S_heavy (fun K hK => ?_); go_step; refine hK _ _ ⟨fun h => by simp at h, ?_⟩; clear hK K))
  refine Go.XR.S_nil ?_
  go_wp2
  go_ret
  exact ⟨rfl, Hg2.out.trans (Grown.alloc _ _)⟩
set_option maxHeartbeats 1000000 in
set_option maxRecDepth 100000 in
theorem less_any (w : World) (a b : KeyT) :
    Calls Tryz.prog 80 #[keyV a, keyV b] w (RetBool w (decide (cfK a b < 0))) := by
  obtain ⟨W0, hW0⟩ : ∃ W0, (w.alloc (.cells (keyC a) 29)).alloc (.cells (keyC b) 29) = W0 := ⟨_, rfl⟩
  have HA : Hid (At W0 w.heap.size 0 (keyC a)) := by unfold Hid; rw [← hW0]; exact (At.new _ _ _).alloc _
  have HB : Hid (At W0 (w.heap.size + 1) 0 (keyC b)) := by
    unfold Hid; rw [← hW0]
    have h := At.new (w.alloc (.cells (keyC a) 29)) (keyC b) 29
    rwa [show (w.alloc (.cells (keyC a) 29)).heap.size = w.heap.size + 1 by simp] at h
  have hb0 : Below w.heap.size w W0 := by rw [← hW0]; exact ((Below.refl _ _).alloc (Nat.le_refl _) _).alloc (by simp) _
  have Hb0 := Lib.hid hb0
  have na : W0.cell? ⟨w.heap.size, 32, none⟩ = some (.int .u32 (a.n.toNat : Int)) := by have := key_at_n HA.out; rwa [Nat.zero_add] at this
  have nb : W0.cell? ⟨w.heap.size + 1, 32, none⟩ = some (.int .u32 (b.n.toNat : Int)) := by have := key_at_n HB.out; rwa [Nat.zero_add] at this
  obtain ⟨S1, hS1⟩ : ∃ S, strOfNums (a.sum.toList.map fun b => (b.toNat : Int)) = S := ⟨_, rfl⟩
  obtain ⟨S2, hS2⟩ : ∃ S, strOfNums (b.sum.toList.map fun b => (b.toNat : Int)) = S := ⟨_, rfl⟩
  have k1 : ∀ dst, Tryz.prog.underlying dst = some .string → (convert 44 dst (.slice (some ⟨w.heap.size, 0, none⟩) 32 32)).run Tryz.prog W0 = .ok (.string S1) W0 := by
    rw [← hS1]
    exact run_convert_bytes_arg W0 44 5 Tryz.underlying44 Tryz.underlying5 _ 0 32 32 _ (sum_len a.sum) (fun i hi => sum_cell (key_at_sum HA.out) hi)
  have k2 : ∀ dst, Tryz.prog.underlying dst = some .string → (convert 44 dst (.slice (some ⟨w.heap.size + 1, 0, none⟩) 32 32)).run Tryz.prog W0 = .ok (.string S2) W0 := by
    rw [← hS2]
    exact run_convert_bytes_arg W0 44 5 Tryz.underlying44 Tryz.underlying5 _ 0 32 32 _ (sum_len b.sum) (fun i hi => sum_cell (key_at_sum HB.out) hi)
  have k1' := k1 9 Tryz.underlying9
  have k2' := k2 9 Tryz.underlying9
  clear hb0 HA HB k1 k2
  go_enter Tryz.func80, Tryz.ntmps80
  have e1 : S1.toList = sumB a.sum := by rw [← hS1, Lib.toList_data, strOfNums_data]; exact sum_bytes a.sum
  have e2 : S2.toList = sumB b.sum := by rw [← hS2, Lib.toList_data, strOfNums_data]; exact sum_bytes b.sum
  have E1 := Lib.hid e1
  have E2 := Lib.hid e2
  clear e1 e2 hS1 hS2
  go_wp2
  all_goals go_ret
  · rename_i h1
    rw [E1.out, E2.out, less_cb, decide_eq_true_iff] at h1
    have h2 : cfK a b < 0 := by unfold cfK; rw [or2_ne _ (by omega)]; exact h1
    exact ⟨by rw [decide_eq_true h2]; rfl, Hb0.out⟩
  · rename_i h2 h1
    rw [E1.out, E2.out] at h1 h2
    have h3 : sumB a.sum = sumB b.sum := h1
    have h4 : cfK a b < 0 ↔ a.n.toNat < b.n.toNat := by
      unfold cfK
      rw [h3, cb_self, or2_zero, ci_lt]; omega
    exact ⟨by rw [decide_eq_decide.2 h4]; rfl, Hb0.out⟩
  · rename_i h2 h1
    rw [E1.out, E2.out] at h1 h2
    rw [less_cb, Bool.not_eq_true, decide_eq_false_iff_not] at h2
    have h3 : Lib.compareBytes (sumB a.sum) (sumB b.sum) ≠ 0 := fun e => h1 (by rw [cb_zero _ _ e])
    have h4 : ¬ cfK a b < 0 := by unfold cfK; rw [or2_ne _ h3]; exact h2
    exact ⟨by rw [decide_eq_false h4]; rfl, Hb0.out⟩
end Go.Proofs.YtnfbchhbcinloaaGreat

/- Helpers of walks over what holds an index. -/
namespace Go.XR
open Go
/-- an arm of the walk asks first which operation stands next -/
theorem opIs {P : Program} {w : World} {ops : Array Oper} {rest : List Oper} {o : Oper} {a : Act} {Q : Exit → Act → World → Prop} {X : Op} (_ : o.op = X) (h : wpList P ops Q (o :: rest) a w) : wpList P ops Q (o :: rest) a w := h
end Go.XR
namespace Go.Proofs.YtnfbchhbcinloaaGreat
open Go.RowKit Go.XR Go.IndexPure
theorem row_at {α : Type} {enc : α → List Value} {k : Nat} (hk : ∀ x, (enc x).length = k) {w : World} {a : Option Addr} {l : List α} (h : Row w a (l.flatMap enc)) {i : Nat} (hi : i < l.length) (hk0 : 0 < k) : ∃ g o, a = some ⟨g, o, none⟩ ∧ At w g (o + i * k) (enc l[i]).toArray := by
  rcases h with h | ⟨g, o, he, h⟩
  · have := flat_len hk l
    rw [h] at this
    have h2 : 0 < l.length * k := Nat.mul_pos (by omega) hk0
    rw [List.length_nil] at this
    omega
  · refine ⟨g, o, he, fun j u hj => ?_⟩
    have hjk : j < k := by have := (Array.getElem?_eq_some_iff.1 hj).1; rwa [List.size_toArray, hk] at this
    rw [Nat.add_assoc]
    refine h _ u ?_
    rw [flat_get hk l hi hjk, ← hj, List.getElem?_toArray]
theorem dec_of {p : Prop} [Decidable p] {b : Bool} (h : p ↔ b = true) : decide p = b := by cases b <;> simp_all
/-- a variable of the call's own that was just made, written in part -/
theorem wpList_store_part {P : Program} {w : World} {ops : Array Oper} {rest : List Oper} {o : Oper} {a : Act} {Q : Exit → Act → World → Prop} (hgd : o.guard = none) (ty : TypeId) (x v : Operand) (ho : o.op = .store ty x v)
    (off : Nat) (cur cs new : Array Value) (t : TypeId) (hx : a.eval x = .pointer (some ⟨w.heap.size, off, none⟩)) (hv : a.eval v = .agg cs) (hl : off + cs.size ≤ cur.size) (h1 : ∀ v ∈ cs.toList, v.oneCell' = true)
    (hi : (P.info? ty).map (·.size) = some cs.size) (hnew : (cur.toList.take off ++ cs.toList ++ cur.toList.drop (off + cs.size)).toArray = new)
    (hK : wpList P ops Q rest (a.put o.dst undef) (w.alloc (.cells new t))) : wpList P ops Q (o :: rest) a (w.alloc (.cells cur t)) :=
  wpList_plain hgd fun _ hK' => wp_store_at ty x v ho w.heap.size off hx cs cur hv t (by rw [(MapKept.heap_alloc w _).1]) hl h1 hi (by
    rw [hnew, alloc_setRow]
    exact hK' _ _ hK)
theorem keyGuard : Tryz.prog.eqGuardType Tryz.prog.depth 29 = false := by kernel_rfl
theorem sumGuard : Tryz.prog.eqGuardType Tryz.prog.depth 26 = false := by kernel_rfl
/-- all keys of a list that have one fingerprint are as many as the twins -/
theorem twins_all {D : List (KeyT × PlaceT)} {d : SumT} {ns : List UInt32} (hD : (D.map (·.1)).Nodup) (h : TwinsOf D d ns) (hall : ∀ k v, aget D k = some v → k.sum = d) : ns.length = D.length := by
  refine Nat.le_antisymm h.2.2 ?_
  have h1 : ((D.map (·.1))).length ≤ (ns.map fun n => (⟨d, n⟩ : KeyT)).length := hD.length_le_of_subset fun k hk => by
    obtain ⟨⟨k', v⟩, hm, rfl⟩ := List.mem_map.1 hk
    have h2 := (aget_mem hD).2 hm
    refine List.mem_map.2 ⟨k'.n, (h.2.1 _).2 ?_, ?_⟩
    · rw [← hall _ _ h2, key_eta, h2]; rfl
    · rw [← hall _ _ h2, key_eta]
  simpa using h1
theorem Ix.nd {w : World} {F : List Nat} {p : Nat} {D : List (KeyT × PlaceT)} (h : Ix w F p D) : (D.map (·.1)).Nodup := by
  obtain ⟨pb, tb, sb, T, Sh, L, h1, h2⟩ := h; exact h2.nd
theorem Ix.fin {w : World} {F : List Nat} {p : Nat} {D : List (KeyT × PlaceT)} (h : Ix w F p D) : ∀ b ∈ F, b < w.heap.size := by
  obtain ⟨pb, tb, sb, T, Sh, L, h1, h2⟩ := h; exact h1.fin
end Go.Proofs.YtnfbchhbcinloaaGreat

/- A nil index. -/
namespace Go.Proofs.YtnfbchhbcinloaaGreat
open Go.RowKit Go.XR Go.IndexPure
set_option maxHeartbeats 1000000 in
set_option maxRecDepth 100000 in
theorem put_nil (w : World) (k : KeyT) (v : PlaceT) : Calls Tryz.prog 34 #[.pointer none, keyV k, placeV v] w (RetBool w false) := by
  go_enter Tryz.func34, Tryz.ntmps34
  go_wp2
  go_ret
  exact ⟨rfl, ((Below.refl _ _).alloc (Nat.le_refl _) _).alloc (by simp) _⟩
set_option maxHeartbeats 1000000 in
set_option maxRecDepth 100000 in
theorem drop_nil (w : World) (k : KeyT) : Calls Tryz.prog 39 #[.pointer none, keyV k] w (RetBool w false) := by
  obtain ⟨W0, hW0⟩ : ∃ W0, w.alloc (.cells (keyC k) 29) = W0 := ⟨_, rfl⟩
  have hb0 : Below w.heap.size w W0 := by rw [← hW0]; exact (Below.refl _ _).alloc (Nat.le_refl _) _
  have HK : Hid (At W0 w.heap.size 0 (keyC k)) := by unfold Hid; rw [← hW0]; exact At.new _ _ _
  have Hb0 := Lib.hid hb0
  clear hb0
  obtain ⟨kb, hkb⟩ : ∃ kb, w.heap.size = kb := ⟨_, rfl⟩
  rw [hkb] at HK
  go_enter Tryz.func39, Tryz.ntmps39
  go_wp2_with (first | (refine wpList_load_at rfl 29 _ rfl kb 0 rfl (keyC k) HK.out _ Tryz.underlying29 rfl (keySize k) ?_) | fail)
  refine (get_nil W0 k).mono ?_
  rintro e w1 ⟨rfl, hb1⟩
  rw [show (aget ([] : List (KeyT × PlaceT)) k).isSome = false from rfl]
  have Hb1 := Lib.hid hb1
  clear hb1 hkb
  generalize (aget ([] : List (KeyT × PlaceT)) k).getD place0 = v0
  go_wp2_with (refine wpList_store_new rfl 40 _ _ rfl _ (placeC v0) _ rfl rfl rfl (one_placeL v0) (placeSize v0) ?_)
  go_ret
  have hb2 : Below W0.heap.size W0 (w1.alloc (.cells (placeC v0) 40)) := Hb1.out.alloc Hb1.out.size _
  exact ⟨rfl, Hb0.out.trans (hb2.mono Hb0.out.size)⟩
def RetNone (w : World) (e : Ending) (w' : World) : Prop := e = .returned (.slice none 0 0) ∧ Below w.heap.size w w'
set_option maxHeartbeats 1000000 in
set_option maxRecDepth 100000 in
theorem shelf_nil (w : World) (n : Int) : Calls Tryz.prog 55 #[.pointer none, .int .i64 n] w (RetNone w) := by
  go_enter Tryz.func55, Tryz.ntmps55
  go_wp2
  go_ret
  exact ⟨rfl, Below.refl _ _⟩
set_option maxHeartbeats 1000000 in
set_option maxRecDepth 100000 in
theorem all_nil (w : World) : Calls Tryz.prog 52 #[.pointer none] w (RetNone w) := by
  go_enter Tryz.func52, Tryz.ntmps52
  go_wp2
  go_ret
  exact ⟨rfl, Below.refl _ _⟩
theorem place_leafs : (leafs Tryz.prog 8 40).getD [] = [.int .i64, .int .i64] := by kernel_rfl
theorem place_agg {cs : Array Value} (hf : Fits ((leafs Tryz.prog 8 40).getD []) cs.toList) : ∃ p : PlaceT, cs = placeC p := by
  rw [place_leafs] at hf
  obtain ⟨l⟩ := cs
  simp only at hf
  obtain _ | ⟨⟨z, rfl, hz⟩, h2⟩ := hf
  obtain _ | ⟨⟨u, rfl, hu⟩, h2⟩ := h2
  cases h2
  exact ⟨⟨z, u⟩, rfl⟩
end Go.Proofs.YtnfbchhbcinloaaGreat

/- Rows of an index: '==', built of a key and a place; the walks over Less and SameRows. -/
namespace Go.Proofs.YtnfbchhbcinloaaGreat
open Go.RowKit Go.XR Go.IndexPure
/-- places that fit -/
def PlaceS := {p : PlaceT // PlaceOk p}
instance : DecidableEq PlaceS := inferInstanceAs (DecidableEq (Subtype _))
def RowS := {r : KeyT × PlaceT // PlaceOk r.2}
instance : DecidableEq RowS := inferInstanceAs (DecidableEq (Subtype _))
set_option maxRecDepth 100000 in
theorem place_lits (d : Nat) (p : PlaceT) (hp : PlaceOk p) : ∃ ls, Tryz.prog.keyLits (d + 2) 40 (placeL p) = some ls := by
  obtain ⟨f1, f2, ht, a1, a2, a3, a4, a5, a6⟩ : ∃ f1 f2, Tryz.prog.underlying 40 = some (.struct #[f1, f2]) ∧ (f1.name != "_") = true ∧ (f2.name != "_") = true ∧ f1.offset = 0 ∧ f2.offset = 1 ∧ f1.type = 3 ∧ f2.type = 3 :=
    ⟨_, _, Tryz.underlying40, rfl, rfl, rfl, rfl, rfl, rfl⟩
  refine lits_pair ht a1 a2 a3 (xs := [.int .i64 p.shelf]) (ys := [.int .i64 p.slot]) ?_ ?_ ?_ ?_ ?_ ?_
  · rw [a5]; exact (by kernel_rfl : (1 : Nat) = Tryz.prog.cellsOf 3)
  · rw [a6]; exact (by kernel_rfl : (1 : Nat) = Tryz.prog.cellsOf 3)
  · rw [a4]; rfl
  · exact (by kernel_rfl : Tryz.prog.cellsOf 40 = 2)
  · rw [a5]; exact lits_int (by kernel_rfl) (i64_wf ⟨p.shelf, hp.1⟩)
  · rw [a6]; exact lits_int (by kernel_rfl) (i64_wf ⟨p.slot, hp.2⟩)
set_option maxRecDepth 100000 in
theorem row_lits (d : Nat) (r : KeyT × PlaceT) (hp : PlaceOk r.2) : ∃ ls, Tryz.prog.keyLits (d + 4) 42 (rowL r) = some ls := by
  obtain ⟨f1, f2, ht, a1, a2, a3, a4, a5, a6⟩ : ∃ f1 f2, Tryz.prog.underlying 42 = some (.struct #[f1, f2]) ∧ (f1.name != "_") = true ∧ (f2.name != "_") = true ∧ f1.offset = 0 ∧ f2.offset = 33 ∧ f1.type = 29 ∧ f2.type = 40 :=
    ⟨_, _, Tryz.underlying42, rfl, rfl, rfl, rfl, rfl, rfl⟩
  refine lits_pair ht a1 a2 a3 (xs := keyL r.1) (ys := placeL r.2) ?_ ?_ ?_ ?_ ?_ ?_
  · rw [a5, keyL_length]; exact (by kernel_rfl : (33 : Nat) = Tryz.prog.cellsOf 29)
  · rw [a6]; exact (by kernel_rfl : (2 : Nat) = Tryz.prog.cellsOf 40)
  · rw [a4, keyL_length]
  · rw [keyL_length]; exact (by kernel_rfl : Tryz.prog.cellsOf 42 = 35)
  · rw [a5]; exact key_lits d r.1
  · rw [a6]; exact place_lits (d + 1) r.2 hp
set_option maxRecDepth 100000 in
theorem place_eq (a b : PlaceT) (ha : PlaceOk a) (hb : PlaceOk b) (w : World) : (Op.equal 40 (placeV a) (placeV b)).run Tryz.prog w = .ok (decide (a = b)) w := by
  have h := equal_cells (P := Tryz.prog) (t := 40) (c := fun p : PlaceS => placeC p.1) laidOut typesSmall (of_decide_eq_true (by kernel_rfl)) (by kernel_rfl) (by kernel_rfl)
    (fun p => keyOf_of_lits (by kernel_rfl) (by kernel_rfl) (by rw [placeC_size]; kernel_rfl) (by rw [typesSize]; exact place_lits _ p.1 p.2))
    (fun p q h => Subtype.ext (placeL_inj (toArr_inj (agg_inj h)))) ⟨a, ha⟩ ⟨b, hb⟩ w
  exact h.trans (congrArg (fun x => Result.ok x w) (decide_eq_decide.2 ⟨fun e => congrArg Subtype.val e, fun e => Subtype.ext e⟩))
set_option maxRecDepth 100000 in
theorem row_eq (a b : KeyT × PlaceT) (ha : PlaceOk a.2) (hb : PlaceOk b.2) (w : World) : (Op.equal 42 (rowV a) (rowV b)).run Tryz.prog w = .ok (decide (a = b)) w := by
  have h := equal_cells (P := Tryz.prog) (t := 42) (c := fun p : RowS => rowC p.1) laidOut typesSmall (of_decide_eq_true (by kernel_rfl)) (by kernel_rfl) (by kernel_rfl)
    (fun p => keyOf_of_lits (by kernel_rfl) (by kernel_rfl) (by rw [rowC_size]; kernel_rfl) (by rw [typesSize]; exact row_lits _ p.1 p.2))
    (fun p q h => Subtype.ext (rowL_inj (toArr_inj (agg_inj h)))) ⟨a, ha⟩ ⟨b, hb⟩ w
  exact h.trans (congrArg (fun x => Result.ok x w) (decide_eq_decide.2 ⟨fun e => congrArg Subtype.val e, fun e => Subtype.ext e⟩))
theorem rowGuard : Tryz.prog.eqGuardType Tryz.prog.depth 42 = false := by kernel_rfl
theorem placeGuard : Tryz.prog.eqGuardType Tryz.prog.depth 40 = false := by kernel_rfl
theorem rowSize (r : KeyT × PlaceT) : (Tryz.prog.info? 42).map (·.size) = some (rowC r).size := by rw [rowC_size]; kernel_rfl
theorem run_build_row (k : KeyT) (p : PlaceT) (w : World) : (Instr.build 42 #[(0, keyV k), (1, placeV p)]).run Tryz.prog w = .ok (rowV (k, p)) w := by
  obtain ⟨zs, hzs, hz⟩ : ∃ zs : Array Value, zs.size = 35 ∧ ∀ w, (zeroValue 42).run Tryz.prog w = .ok (.agg zs) w := ⟨_, rfl, fun w => Tryz.zeroValue42 w⟩
  obtain ⟨f1, f2, ht, o1, o2, t1, t2⟩ : ∃ f1 f2, Tryz.prog.underlying 42 = some (.struct #[f1, f2]) ∧ f1.offset = 0 ∧ f2.offset = 33 ∧ f1.type = 29 ∧ f2.type = 40 :=
    ⟨_, _, Tryz.underlying42, rfl, rfl, rfl, rfl⟩
  have hs1 : (sizeOf f1.type).run Tryz.prog w = .ok 33 w := by rw [t1]; exact run_sizeOf_eq (by kernel_rfl)
  have hs2 : (sizeOf f2.type).run Tryz.prog w = .ok 2 w := by rw [t2]; exact run_sizeOf_eq (by kernel_rfl)
  have hm : ((#[f1, f2] : Array Field).mapM fun (f : Field) => do pure (f.offset, ← sizeOf f.type) : Sem (Array (Nat × Nat))).run Tryz.prog w = .ok #[(0, 33), (33, 2)] w := by
    rw [Array.mapM_eq_mapM_toList]
    simp [Sem.run_bind, hs1, hs2, o1, o2, Result.andThen]
  have hfill : Instr.fill ((#[(0, 33), (33, 2)] : Array (Nat × Nat))[·]?) zs [(0, keyV k), (1, placeV p)] = some (rowC (k, p)) := by
    rw [fill_step (i := 0) (off := 0) (size := 33) (v := keyV k) ((#[(0, 33), (33, 2)] : Array (Nat × Nat))[·]?) zs _ rfl (keyC_size k) (by omega)]
    rw [fill_step (i := 1) (off := 33) (size := 2) (v := placeV p) ((#[(0, 33), (33, 2)] : Array (Nat × Nat))[·]?) _ [] rfl rfl (by simp [Value.cells, keyC_size, hzs])]
    unfold Instr.fill
    refine congrArg some ?_
    apply Array.ext'
    have e1 : (keyC k).toList = keyL k := rfl
    have e2 : (placeC p).toList = placeL p := rfl
    simp [Value.cells, rowC, rowL, e1, e2, keyL_length, hzs]
  unfold Instr.build
  simp only [Sem.run_bind, hz, Result.andThen_ok, run_underlying ht, hm]
  have hz2 : (Value.agg zs).cells = zs := rfl
  rw [hz2]
  simp only [hfill, Sem.run_pure]
theorem wp_build_row {w : World} {o : Oper} {a : Act} {K : Act → World → Prop} {Q : Exit → Act → World → Prop} (x y : Operand) (ho : o.op = .build 42 #[(0, x), (1, y)]) (k : KeyT) (p : PlaceT)
    (hx : a.eval x = keyV k) (hy : a.eval y = placeV p) (hK : K (a.put o.dst (rowV (k, p))) w) : o.wp Tryz.prog a w K Q := by
  have hr := run_build_row k p w
  unfold Oper.wp execOp
  simp only [ho, List.map_toArray, List.map_cons, List.map_nil, hx, hy, Sem.run_bind, hr, Result.andThen_ok, Sem.run_pure]
  exact hK
theorem wpList_build_row {w : World} {ops : Array Oper} {rest : List Oper} {o : Oper} {a : Act} {Q : Exit → Act → World → Prop} (hgd : o.guard = none) (x y : Operand) (ho : o.op = .build 42 #[(0, x), (1, y)]) (k : KeyT) (p : PlaceT)
    (hx : a.eval x = keyV k) (hy : a.eval y = placeV p) (hK : wpList Tryz.prog ops Q rest (a.put o.dst (rowV (k, p))) w) : wpList Tryz.prog ops Q (o :: rest) a w :=
  wpList_plain hgd fun _ hK' => wp_build_row x y ho k p hx hy (hK' _ _ hK)
theorem zero_row : ∃ zs : Array Value, zs.size = 35 ∧ ∀ w, (zeroValue 42).run Tryz.prog w = .ok (.agg zs) w := ⟨_, rfl, fun w => Tryz.zeroValue42 w⟩
/-- rows that may be compared -/
def RowsOk (l : List (KeyT × PlaceT)) : Prop := ∀ r ∈ l, PlaceOk r.2
set_option maxHeartbeats 2000000 in
set_option maxRecDepth 100000 in
theorem same_any (w : World) (a b : Option Addr) (c d : Nat) (l m : List (KeyT × PlaceT)) (ha : Row w a (l.flatMap rowL)) (hb : Row w b (m.flatMap rowL)) (hl : l.length ≤ 2^40) (hm : m.length ≤ 2^40) (hol : RowsOk l) (hom : RowsOk m) :
    Calls Tryz.prog 19 #[.slice a l.length c, .slice b m.length d] w (RetBool w (decide (l = m))) := by
  have HA := Lib.hid ha
  have HB := Lib.hid hb
  have HOL := Lib.hid hol
  have HOM := Lib.hid hom
  clear ha hb hol hom
  by_cases hne : l.length = m.length
  · have Hne := Lib.hid hne
    rw [← hne]
    clear hne
    go_enter Tryz.func19, Tryz.ntmps19
    go_wp2
    go_loopg [5] l.length (fun n i wr => Below w.heap.size w wr ∧ ∃ j : Nat, j ≤ l.length ∧ i = .int .i64 j ∧ Hid (n = l.length - j ∧ l.take j = m.take j))
    case atStart => exact ⟨Below.refl _ _, 0, by omega, rfl, rfl, rfl⟩
    case round =>
      obtain ⟨hbw, j, hj, rfl, hr⟩ := hrel
      have Hbw := Lib.hid hbw
      have hgn := hr.out.1
      have Htk := Lib.hid hr.out.2
      clear hbw hr
      by_cases hlt : j < l.length
      · have hlt2 : (j : Int) < (l.length : Int) := by omega
        have hltm : j < m.length := by have := Hne.out; omega
        obtain ⟨g1, o1, rfl, hX⟩ := row_at rowL_length (HA.out.below Hbw.out) hlt (by omega)
        obtain ⟨g2, o2, rfl, hY⟩ := row_at rowL_length (HB.out.below Hbw.out) hltm (by omega)
        have HX : Hid (At wr g1 (o1 + j * 35) (rowC l[j])) := hX
        have HY : Hid (At wr g2 (o2 + j * 35) (rowC m[j])) := hY
        have Heq := Lib.hid (row_eq l[j] m[j] (HOL.out _ (List.getElem_mem hlt)) (HOM.out _ (List.getElem_mem hltm)) wr.drew)
        have Htk2 : Hid (l.take (j + 1) = m.take (j + 1) ↔ l[j] = m[j]) := by
          unfold Hid
          rw [List.take_succ_eq_append_getElem hlt, List.take_succ_eq_append_getElem hltm, Htk.out]
          constructor
          · intro h
            have := List.append_cancel_left h
            injection this
          · intro h; rw [h]
        have Hne2 : Hid (l = m → l[j] = m[j]) := fun e => by subst e; rfl
        clear hX hY
        generalize l[j] = x at *
        generalize m[j] = y at *
        go_wp2
        refine Go.XR.region_sched ((· = wr.drew)) [(0, true), (1, true), (2, true), (3, true), (4, true), (5, true), (6, true), (7, true), (8, false)] [8] Tryz.mixed (by kernel_rfl) (by kernel_rfl) (by kernel_rfl) ?_
        simp only [List.map_cons, List.map_nil, List.getElem?_cons_succ, List.getElem?_cons_zero]
        repeat (first | (refine Go.XR.S_light rfl rfl rfl ?_ (fun w' hS K hK => ?_) (fun K hK => ?_); rotate_left 1; (cases hS; (first | (first | (refine Go.XR.wp_load_at 42 (.tmp 19) rfl g1 (o1 + j * 35) rfl (rowC x) (At.drew HX.out) _ Tryz.underlying42 rfl (rowSize x) ?_) | (refine Go.XR.wp_load_at 42 (.tmp 23) rfl g2 (o2 + j * 35) rfl (rowC y) (At.drew HY.out) _ Tryz.underlying42 rfl (rowSize y) ?_)) | go_step); exact hK); go_step; refine hK _ ?_; clear hK K))
        refine Go.XR.S_heavy (fun K hK => ?_)
        refine Go.XR.wp_agg_neq 42 _ _ _ rfl (rowC x) (rowC y) rfl rfl rowGuard _ Heq.out ?_
        refine hK _ _ ⟨fun h => by simp at h, ?_⟩
        clear hK K
        refine Go.XR.S_nil ?_
        by_cases hxy : x = y
        · rw [decide_eq_true hxy]
          have Hxy := Lib.hid hxy
          clear hxy
          go_wp2
          go_roundg (l.length - (j + 1))
          case measure => omega
          case rel => exact ⟨Hbw.out.drew, j + 1, by omega, by go_num, rfl, Htk2.out.2 Hxy.out⟩
        · rw [decide_eq_false hxy]
          have Hxy := Lib.hid hxy
          clear hxy
          go_wp2
          go_ret
          exact ⟨by rw [decide_eq_false (fun e => Hxy.out (Hne2.out e))]; rfl, Hbw.out.drew⟩
      · have hge : ¬ (j : Int) < (l.length : Int) := by omega
        go_wp2
        go_ret
        refine ⟨?_, Hbw.out⟩
        have h1 := Htk.out
        rw [List.take_of_length_le (by omega), List.take_of_length_le (by have := Hne.out; omega)] at h1
        rw [decide_eq_true h1]; rfl
  · have hneI : ¬ ((l.length : Int) = (m.length : Int)) := by omega
    have Hd : Hid (decide (l = m) = false) := decide_eq_false fun e => hne (by rw [e])
    go_enter Tryz.func19, Tryz.ntmps19
    go_wp2
    go_ret
    exact ⟨by rw [Hd.out]; rfl, Below.refl _ _⟩
end Go.Proofs.YtnfbchhbcinloaaGreat

/- A range over a map known pair by pair, as steps of a walk. -/
namespace Go.XR
open Go Go.RowKit
section
variable {κ ν : Type} [DecidableEq κ] {kv : κ → Value} {vv : ν → Value} {P : Program} {k t e : TypeId} {w : World} {m : Nat} {D : List (κ × ν)} {ops : Array Oper} {rest : List Oper} {o : Oper} {a : Act} {Q : Exit → Act → World → Prop}
omit [DecidableEq κ] in
theorem wpList_gm_range (hg : o.guard = none) (x : Operand) (t : TypeId) (hop : o.op = .range t x) (ht : P.underlying t = some (.map k e)) (hm : a.eval x = .map (some m)) (h : GM kv vv w m D)
    (hK : ∀ w', GR kv vv w' m w.heap.size D D → Below w.heap.size w w' → w'.heap.size = w.heap.size + 1 → wpList P ops Q rest (a.put o.dst (.pointer (some ⟨w.heap.size, 0, none⟩))) w') : wpList P ops Q (o :: rest) a w := by
  refine wpList_plain hg fun K' hK' => ?_
  obtain ⟨w', hrun, r1, r2, r3⟩ := h.range (P := P) ht
  unfold Oper.wp execOp
  simp only [hop, hm, Sem.run_bind, hrun, Result.andThen_ok, Sem.run_pure]
  exact hK' _ _ (hK w' r1 r2 r3)
theorem wpList_gr_next (hg : o.guard = none) (it : Operand) (hop : o.op = .next it false) (K : KeysOk P k kv) (r : Nat) (left : List (κ × ν)) (hit : a.eval it = .pointer (some ⟨r, 0, none⟩)) (h : GR kv vv w m r D left)
    (hDone : left = [] → wpList P ops Q rest (a.put o.dst (.tuple #[.bool false])) w)
    (hMore : ∀ c b w', (c, b) ∈ left → GR kv vv w' m r D (adel left c) → w.grownBy w' (some r) → w'.heap.size = w.heap.size → (Instr.entry (.pointer (some ⟨r, 0, none⟩))).run P w' = .ok (.tuple #[kv c, vv b]) w' → wpList P ops Q rest (a.put o.dst (.tuple #[.bool true, kv c, vv b])) w') :
    wpList P ops Q (o :: rest) a w := by
  refine wpList_plain hg fun K' hK' => ?_
  unfold Oper.wp execOp
  rcases h.next K o.type with ⟨h0, hrun⟩ | ⟨c, b, w', hm, hrun, hgr, hgb, hsz, hen⟩
  · simp only [hop, hit, Sem.run_bind, hrun, Result.andThen_ok, Sem.run_pure]
    exact hK' _ _ (hDone h0)
  · simp only [hop, hit, Sem.run_bind, hrun, Result.andThen_ok, Sem.run_pure]
    exact hK' _ _ (hMore c b w' hm hgr hgb hsz hen)
theorem wpList_entry (hg : o.guard = none) (it : Operand) (hop : o.op = .entry it) (r : Nat) (hit : a.eval it = .pointer (some ⟨r, 0, none⟩)) (v : Value) (hen : (Instr.entry (.pointer (some ⟨r, 0, none⟩))).run P w = .ok v w)
    (hK : wpList P ops Q rest (a.put o.dst v) w) : wpList P ops Q (o :: rest) a w := by
  refine wpList_plain hg fun K' hK' => ?_
  unfold Oper.wp execOp
  simp only [hop, hit, Sem.run_bind, hen, Result.andThen_ok, Sem.run_pure]
  exact hK' _ _ hK
theorem run_next_none {r : Nat} {a b : Nat} {s : Array Nat} (h : w.heap[r]? = some (.mapIter none a s b)) (ty : TypeId) :
    (Instr.next (.pointer (some ⟨r, 0, none⟩)) false ty).run P w = .ok (.tuple #[.bool false]) w := by
  simp only [Instr.next, getObj, Sem.run_bind, Sem.run, h, Result.andThen]
  rfl
theorem wpList_next_none (hg : o.guard = none) (it : Operand) (hop : o.op = .next it false) (r : Nat) (hit : a.eval it = .pointer (some ⟨r, 0, none⟩)) {x y : Nat} {s : Array Nat} (h : w.heap[r]? = some (.mapIter none x s y))
    (hK : wpList P ops Q rest (a.put o.dst (.tuple #[.bool false])) w) : wpList P ops Q (o :: rest) a w := by
  refine wpList_plain hg fun K' hK' => ?_
  unfold Oper.wp execOp
  have hrun := run_next_none (P := P) h o.type
  simp only [hop, hit, Sem.run_bind, hrun, Result.andThen_ok, Sem.run_pure]
  exact hK' _ _ hK
theorem wpList_range_none (hg : o.guard = none) (x : Operand) (t : TypeId) (hop : o.op = .range t x) (ht : P.underlying t = some (.map k e)) (hm : a.eval x = .map none)
    (hK : wpList P ops Q rest (a.put o.dst (.pointer (some ⟨w.heap.size, 0, none⟩))) (w.alloc (.mapIter none 0 #[] 0))) : wpList P ops Q (o :: rest) a w := by
  refine wpList_plain hg fun K' hK' => ?_
  have hrun := run_range_nilMap (P := P) w t k e ht
  unfold Oper.wp execOp
  simp only [hop, hm, Sem.run_bind, hrun, Result.andThen_ok, Sem.run_pure]
  exact hK' _ _ hK
/-- one pair taken out -/
theorem adel_perm {left : List (κ × ν)} (hnd : (left.map (·.1)).Nodup) {c : κ} {b : ν} (hm : (c, b) ∈ left) : left.Perm ((c, b) :: adel left c) := by
  induction left with
  | nil => cases hm
  | cons q left ih =>
    rw [List.map_cons, List.nodup_cons] at hnd
    unfold adel
    rcases List.mem_cons.1 hm with rfl | hm'
    · rw [List.filter_cons_of_neg (by simp)]
      have : left.filter (fun p => decide (p.1 ≠ c)) = left := by
        rw [List.filter_eq_self]
        intro p hp
        refine decide_eq_true fun e => hnd.1 ?_
        exact List.mem_map.2 ⟨p, hp, e⟩
      rw [this]
    · have hne : q.1 ≠ c := fun e => hnd.1 (List.mem_map.2 ⟨(c, b), hm', e.symm⟩)
      rw [List.filter_cons_of_pos (by simpa using hne)]
      exact (List.Perm.cons q (ih hnd.2 hm')).trans (List.Perm.swap _ _ _)
end
end Go.XR

/- Sorting a row by a closure: what comes is a permutation, in order; all other blocks stand. -/
namespace Go.XR
open Go Go.RowKit Go.Shelf Go.Sort Go.Proofs
section
variable {α : Type} [Inhabited α] {enc : α → List Value} {k : Nat} {w : World} {b : Nat}
theorem flatK_get (hk : ∀ x, (enc x).length = k) (l : List α) {j : Nat} (hj : j < l.length * k) : (l.flatMap enc)[j]? = some (flatK enc k l.toArray)[j]! := by
  have hk0 : 0 < k := Nat.pos_of_ne_zero fun e => by subst e; omega
  rw [get_flatK enc k l.toArray j (by simpa using hj)]
  have h1 : j / k < l.length := Nat.div_lt_of_lt_mul (by rw [Nat.mul_comm]; exact hj)
  have h2 : j % k < k := Nat.mod_lt _ hk0
  have e : j = j / k * k + j % k := by rw [Nat.mul_comm]; exact (Nat.div_add_mod j k).symm
  conv => lhs; rw [e]
  rw [flat_get hk l h1 h2]
  have e2 : l.toArray[j / k]! = l[j / k] := by rw [getElem!_pos l.toArray _ (by simpa using h1)]; simp
  rw [e2, getElem!_pos (enc l[j / k]) _ (by rw [hk]; exact h2), List.getElem?_eq_getElem (by rw [hk]; exact h2)]
theorem holdsK_of (hk : ∀ x, (enc x).length = k) {l : List α} {rest : List Value} (h : Blk w b (l.flatMap enc ++ rest)) : HoldsK enc k w b 0 l.toArray := by
  intro j hj
  rw [size_flatK] at hj
  have hj' : j < l.length * k := by simpa using hj
  rw [Nat.zero_add]
  refine ⟨h.cell ?_, h.free j⟩
  rw [List.getElem?_append_left (by rw [flat_len hk]; exact hj'), flatK_get hk l hj']
  rfl
theorem row_of_holds (hk : ∀ x, (enc x).length = k) {d : Array α} (h : HoldsK enc k w b 0 d) : Row w (some ⟨b, 0, none⟩) (d.toList.flatMap enc) := by
  refine .inr ⟨b, 0, rfl, fun j u hj => ?_⟩
  have hl : j < d.toList.length * k := by rw [← flat_len hk]; exact (List.getElem?_eq_some_iff.1 hj).1
  rw [flatK_get hk d.toList hl] at hj
  have h1 := (h j (by rw [size_flatK]; simpa using hl)).1
  rw [h1]
  have := Option.some.inj hj
  simp only [Array.toArray_toList] at this
  rw [← this]; rfl
theorem sorted_list {lt : α → α → Bool} {d : Array α} (hs : SortedIn lt 0 d.size d) : d.toList.Pairwise (fun x y => lt y x = false) := by
  rw [List.pairwise_iff_getElem]
  intro i j hi hj hij
  have := hs i j (Nat.zero_le _) hij (by simpa using hj)
  rw [getElem!_pos d j (by simpa using hj), getElem!_pos d i (by simpa using hi)] at this
  simpa using this
theorem perm_list {d d' : Array α} (h : PermIn 0 d.size d d') : d'.toList.Perm d.toList := by
  obtain ⟨h1, _, h3⟩ := h
  rw [show d.size = d'.size from h1.symm] at h3
  have e1 : d'.extract 0 d'.size = d' := by simp
  have e2 : d.extract 0 d'.size = d := by rw [h1]; simp
  rwa [e1, e2] at h3
theorem but_sort {off n : Nat} {d : Array α} {os : Array Obj} : But [b] w (sortWorldK enc k w b off n d os) := by
  refine ⟨rfl, rfl, rfl, size_sortWorldK_c enc k w b off n d os, fun i hi hn => ?_⟩
  have hb : i ≠ b := by simpa using hn
  unfold sortWorldK
  rw [heap_grow_old _ _ (by rw [size_putRowK]; exact hi)]
  unfold putRowK putRow mapBlock
  simp only [Array.getElem?_modify]
  rw [if_neg (fun e => hb e.symm)]
  rfl
def RetSort (enc : α → List Value) (cf : α → α → Int) (w : World) (b : Nat) (l : List α) (e : Ending) (w' : World) : Prop :=
  e = .returned (.tuple #[]) ∧ ∃ l' : List α, l'.Perm l ∧ l'.Pairwise (fun x y => ¬ cf y x < 0) ∧ Row w' (some ⟨b, 0, none⟩) (l'.flatMap enc) ∧ But [b] w w'
theorem sort_any {P : Program} {ρ : Ren} (L : SlLaysF0.n6 P ρ) (aE : ∀ w, (isAgg (ρ.t 24)).run P w = .ok true w) (zE : ∀ w, (Go.sizeOf (ρ.t 24)).run P w = .ok k w) (hk : ∀ x, (enc x).length = k)
    (h1 : ∀ x, ∀ v ∈ enc x, v.oneCell' = true) (cf : α → α → Int) (hO : SWO (ltOf cf)) (g : Nat) (eg : ∀ args w, (callFunc g args).run P w = .ok (.enter g args) w)
    (hcmp : ∀ (x y : α) (W : World), Calls P g #[.agg (enc x).toArray, .agg (enc y).toArray] W fun e w' => e = .returned (.int .i64 (cf x y)) ∧ ∃ q os', w' = grow (W.drewN q) os')
    (cap : Nat) (l : List α) (rest : List Value) (hB : Blk w b (l.flatMap enc ++ rest)) (hl : l.length < 4611686018427387904) :
    Calls P (ρ.f 6) #[.slice (some ⟨b, 0, none⟩) l.length cap, .func (.func g) #[] #[]] w (RetSort enc cf w b l) := by
  have hcon := AnyQ.slices_SortFunc L k aE zE enc hk h1 cf hO g #[] b 0 cap l.toArray w eg (fun _ _ _ _ x y => hcmp x y _) (holdsK_of hk hB) hB.lt (by simpa using hl)
  have e1 : l.toArray.size = l.length := by simp
  rw [e1] at hcon
  refine hcon.mono fun e w' h => ?_
  obtain ⟨he, d', n, os, hp, hs, hw⟩ := h
  have hsz : d'.size = l.toArray.size := hp.1
  subst hw
  refine ⟨he, d'.toList, ?_, ?_, ?_, but_sort⟩
  · rw [← e1] at hp
    exact perm_list hp
  · rw [show l.length = d'.size by rw [hsz, e1]] at hs
    refine (sorted_list hs).imp fun h => ?_
    unfold ltOf at h
    simpa using h
  · exact row_of_holds hk (holdsK_sortWorldK_c enc k w b 0 l.toArray d' n os (holdsK_of hk hB) hB.lt hsz)
end
end Go.XR

/-
  DERIVED: THE SHELF's CONTRACTS AT THIS DUMP, IN PLAIN WORDS (tools/lay-plain.mjs out of 'TryzMini.lean', which tools/lay-shelf.mjs wrote): THE SAME DECLARATIONS UNDER THE SAME NAMES: 'import', 'namespace', 'open', 'def', 'theorem' AND NOTHING ELSE: no command of the shelf's: FOR A HAND-IN. Each laying: the table of numbers ('.._ren') and one theorem, a field a fact of the dump's own or the kernel's comparison; each contract: ONE APPLICATION.
-/
namespace Go.Proofs
open Go.Shelf
def Tryz.sortRow_ren : Go.Shelf.Ren := ⟨fun | 6 => 69 | 15 => 83 | 14 => 82 | 28 => 97 | 29 => 98 | 20 => 89 | 21 => 90 | 22 => 91 | 23 => 92 | 24 => 93 | 25 => 94 | 26 => 95 | 27 => 96 | 46 => 101 | 47 => 102 | 48 => 103 | 49 => 104 | 50 => 105 | 57 => 106 | n => n, fun | 22 => 60 | 24 => 42 | 25 => 123 | 3 => 3 | 39 => 93 | 0 => 0 | 53 => 27 | 55 => 43 | 4 => 4 | 46 => 139 | 45 => 138 | 50 => 110 | 5 => 5 | 9 => 9 | 66 => 147 | 70 => 151 | 76 => 153 | 77 => 57 | n => n, fun | n => n⟩
theorem Tryz.sortRow : Go.Proofs.SlLaysF0.n6 Tryz.prog Tryz.sortRow_ren := {
  mixed := by kernel_rfl
  f6 := ⟨Tryz.f69.name, by decide, Tryz.func69.trans (congrArg some (by kernel_rfl))⟩
  f14 := ⟨Tryz.f82.name, by decide, Tryz.func82.trans (congrArg some (by kernel_rfl))⟩
  f15 := Tryz.func83.trans (congrArg some (by kernel_rfl))
  f20 := ⟨Tryz.f89.name, by decide, Tryz.func89.trans (congrArg some (by kernel_rfl))⟩
  f21 := ⟨Tryz.f90.name, by decide, Tryz.func90.trans (congrArg some (by kernel_rfl))⟩
  f22 := ⟨Tryz.f91.name, by decide, Tryz.func91.trans (congrArg some (by kernel_rfl))⟩
  f23 := ⟨Tryz.f92.name, by decide, Tryz.func92.trans (congrArg some (by kernel_rfl))⟩
  f24 := ⟨Tryz.f93.name, by decide, Tryz.func93.trans (congrArg some (by kernel_rfl))⟩
  f25 := ⟨Tryz.f94.name, by decide, Tryz.func94.trans (congrArg some (by kernel_rfl))⟩
  f26 := ⟨Tryz.f95.name, by decide, Tryz.func95.trans (congrArg some (by kernel_rfl))⟩
  f27 := ⟨Tryz.f96.name, by decide, Tryz.func96.trans (congrArg some (by kernel_rfl))⟩
  f28 := Tryz.func97.trans (congrArg some (by kernel_rfl))
  f29 := Tryz.func98.trans (congrArg some (by kernel_rfl))
  f46 := ⟨Tryz.f101.name, by decide, Tryz.func101.trans (congrArg some (by kernel_rfl))⟩
  f47 := Tryz.func102.trans (congrArg some (by kernel_rfl))
  f48 := Tryz.func103.trans (congrArg some (by kernel_rfl))
  f49 := ⟨Tryz.f104.name, by decide, Tryz.func104.trans (congrArg some (by kernel_rfl))⟩
  f50 := ⟨Tryz.f105.name, by decide, Tryz.func105.trans (congrArg some (by kernel_rfl))⟩
  f57 := ⟨Tryz.f106.name, by decide, Tryz.func106.trans (congrArg some (by kernel_rfl))⟩
  t0 := Tryz.underlying0
  a0 := Tryz.isAgg0
  z0 := Tryz.sizeOf0
  v0 := Tryz.zeroValue0
  t3 := Tryz.underlying3
  a3 := Tryz.isAgg3
  z3 := Tryz.sizeOf3
  v3 := Tryz.zeroValue3
  t4 := Tryz.underlying4
  a4 := Tryz.isAgg4
  z4 := Tryz.sizeOf4
  v4 := Tryz.zeroValue4
  t5 := Tryz.underlying5
  a5 := Tryz.isAgg5
  z5 := Tryz.sizeOf5
  v5 := Tryz.zeroValue5
  t9 := Tryz.underlying9
  a9 := Tryz.isAgg9
  z9 := Tryz.sizeOf9
  v9 := Tryz.zeroValue9
  t22 := Tryz.underlying60
  a22 := Tryz.isAgg60
  z22 := Tryz.sizeOf60
  v22 := Tryz.zeroValue60
  t25 := Tryz.underlying123
  a25 := Tryz.isAgg123
  z25 := Tryz.sizeOf123
  v25 := Tryz.zeroValue123
  t39 := Tryz.underlying93
  a39 := Tryz.isAgg93
  z39 := Tryz.sizeOf93
  v39 := Tryz.zeroValue93
  t45 := Tryz.underlying138
  a45 := Tryz.isAgg138
  z45 := Tryz.sizeOf138
  v45 := Tryz.zeroValue138
  t46 := Tryz.underlying139
  a46 := Tryz.isAgg139
  z46 := Tryz.sizeOf139
  v46 := Tryz.zeroValue139
  t50 := Tryz.underlying110
  a50 := Tryz.isAgg110
  z50 := Tryz.sizeOf110
  v50 := Tryz.zeroValue110
  t53 := Tryz.underlying27
  a53 := Tryz.isAgg27
  z53 := Tryz.sizeOf27
  v53 := Tryz.zeroValue27
  t55 := Tryz.underlying43
  a55 := Tryz.isAgg43
  z55 := Tryz.sizeOf43
  v55 := Tryz.zeroValue43
  t66 := Tryz.underlying147
  a66 := Tryz.isAgg147
  z66 := Tryz.sizeOf147
  v66 := Tryz.zeroValue147
  t70 := Tryz.underlying151
  a70 := Tryz.isAgg151
  z70 := Tryz.sizeOf151
  v70 := Tryz.zeroValue151
  t76 := Tryz.underlying153
  a76 := Tryz.isAgg153
  z76 := Tryz.sizeOf153
  v76 := Tryz.zeroValue153
  t77 := Tryz.underlying57
  a77 := Tryz.isAgg57
  z77 := Tryz.sizeOf57
  v77 := Tryz.zeroValue57 }
end Go.Proofs
