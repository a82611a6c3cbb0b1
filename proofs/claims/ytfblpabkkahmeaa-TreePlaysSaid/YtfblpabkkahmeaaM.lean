/- The walks over the reference's map: at, Get, Put, Drop, From. -/
import Derived.Test.YtfblpabkkahmeaaLc
import Derived.Test.YtfblpabkkahmeaaPm
import Derived.Test.YtfblpabkkahmeaaApp
namespace Go.Proofs.Ytfblpabkkahmeaa
open Go.RowKit Go.TreePure Go.XR
attribute [local go_sem high] eq_pair

/-- a slice that holds the pairs l -/
structure MR (w : World) (a : Option Addr) (c : Nat) (l : List Pr) : Prop where
  row : Row w a (cellsOf l)
  le : l.length ≤ c
  cap : c ≤ maxLen
  nil : a = none → c = 0
  blk : a = none ∨ ∃ g o cs fz, a = some ⟨g, o, none⟩ ∧ w.heap[g]? = some (.cells cs 30 fz)
theorem MR.shape {w : World} {a : Option Addr} {c : Nat} {l : List Pr} (h : MR w a c l) : a = none ∨ ∃ g o, a = some ⟨g, o, none⟩ := by
  rcases h.blk with e | ⟨g, o, _, _, e, _⟩
  · exact .inl e
  · exact .inr ⟨g, o, e⟩
theorem MR.below {w w' : World} {a : Option Addr} {c : Nat} {l : List Pr} (h : MR w a c l) (hb : Below w.heap.size w w') : MR w' a c l := by
  refine ⟨h.row.below hb, h.le, h.cap, h.nil, ?_⟩
  rcases h.blk with e | ⟨g, o, cs, fz, e, hg⟩
  · exact .inl e
  · exact .inr ⟨g, o, cs, fz, e, (hb.block g (blk_lt hg)).trans hg⟩
theorem MR.setCell {w : World} {n i : Nat} {u : Value} {ds : Array Value} {T : TypeId} {fy : Nat × Nat} (hn : w.heap[n]? = some (.cells ds T fy)) (hT : T ≠ 30) {a : Option Addr} {c : Nat} {l : List Pr} (h : MR w a c l) : MR (w.setCell ⟨n, i, none⟩ u) a c l := by
  have hne : ∀ g o, a = some ⟨g, o, none⟩ → g ≠ n := by
    rintro g o rfl rfl
    rcases h.blk with e | ⟨g', o', cs, fz, e, hg⟩
    · cases e
    · cases e; rw [hn] at hg; cases hg; exact hT rfl
  refine ⟨?_, h.le, h.cap, h.nil, ?_⟩
  · rcases h.row with e | ⟨g, o, e, hc⟩
    · exact .inl e
    · refine .inr ⟨g, o, e, fun j x hj => ?_⟩
      rw [← hc j x hj]
      have := Below.heap_setCell w ⟨n, i, none⟩ u g (hne g o e)
      simp only [World.cell?, this]
  · rcases h.blk with e | ⟨g, o, cs, fz, e, hg⟩
    · exact .inl e
    · exact .inr ⟨g, o, cs, fz, e, by rw [Below.heap_setCell _ _ _ _ (hne g o e)]; exact hg⟩
theorem MR.owned {w : World} {base : Nat} {a : Option Addr} {c : Nat} {l : List Pr} (h : w.ownsRow base 30 2 (.slice a l.length c) l.length (cellsOf l)) : MR w a c l := by
  refine ⟨Row.owned h, (owns_cap h).1, (owns_cap h).2, ?_, ?_⟩
  · rintro rfl
    rcases h.2 with ⟨h1, _⟩ | ⟨g, cap, cur, h1, _⟩
    · injection h1
    · injection h1 with h2; cases h2
  · rcases h.2 with ⟨h1, _⟩ | ⟨g, cap, cur, h1, _, h3, _⟩
    · injection h1 with h2; exact .inl h2
    · injection h1 with h2; exact .inr ⟨g, 0, _, _, h2, h3⟩
theorem MR.zero (w : World) : MR w none 0 [] := ⟨.inl rfl, Nat.le_refl _, Nat.zero_le _, fun _ => rfl, .inl rfl⟩

def RetMap (w : World) (l : List Pr) (e : Ending) (w' : World) : Prop := ∃ a c, e = .returned (.agg #[.slice a l.length c]) ∧ MR w' a c l ∧ Below w.heap.size w w'

set_option maxHeartbeats 2000000 in
set_option maxRecDepth 100000 in
theorem at_any (w : World) (a : Option Addr) (c : Nat) (l : List Pr) (key : ByteArray) (h : MR w a c l) (hl : l.length < 2^40) :
    Calls Try.prog 27 #[.agg #[.slice a l.length c], .string key] w fun e w' => e = .returned (.tuple #[.int .i64 (idx key l), .bool (isAt key l)]) ∧ Below w.heap.size w w' := by
  have Hr := Lib.hid h.row
  clear h
  go_enter Try.func27, Try.ntmps27
  go_wp2
  refine gen_world (fun w0 => Below w.heap.size w w0 ∧ w0.cell? ⟨w.heap.size, 0, none⟩ = some (.slice a l.length c)) ⟨(Below.refl _ _).alloc (Nat.le_refl _) _, by simp⟩ ?_
  rintro w0 ⟨hb0, hm⟩
  have Hr0 := Lib.hid (Hr.out.below hb0)
  have Hb0 := Lib.hid hb0
  clear hb0
  have hix := idx_le key l
  go_loopg [6] l.length (fun n i wr => Hid (wr = w0) ∧ ∃ k : Nat, k ≤ l.length ∧ i = .int .i64 k ∧ Hid (n = l.length - k ∧ k ≤ idx key l))
  case atStart => exact ⟨rfl, 0, Nat.zero_le _, rfl, rfl, Nat.zero_le _⟩
  case round =>
    obtain ⟨hw, k, hk, rfl, hi⟩ := hrel
    cases hw.out
    by_cases hlt : k < l.length
    · obtain ⟨g, o, rfl, c0, _⟩ := pair_at Hr0.out hlt
      have hi1 : (k : Int) < (l.length : Int) := by omega
      have hi2 : decide (k < l.length) = true := decide_eq_true hlt
      by_cases hc : klt l[k].1 key = true
      · have hc' : Op.bytesLess (l[k].1).toList key.toList = true := hc
        have hlt2 : k < idx key l := by
          rcases Nat.lt_or_ge k (idx key l) with h | h
          · exact h
          · have e : k = idx key l := by have := hi.out.2; omega
            subst e
            rw [idx_at hlt] at hc; cases hc
        go_wp2
        go_roundg (l.length - (k + 1))
        case measure => have := hi.out.1; omega
        case rel => exact ⟨rfl, k + 1, by omega, by go_num, rfl, by omega⟩
      · have hc' : Op.bytesLess (l[k].1).toList key.toList = false := by simpa [klt] using hc
        have he : k = idx key l := idx_of hk hi.out.2 fun _ => by simpa using hc
        have He := Lib.hid he
        have Hat : Hid (isAt key l = (l[k].1.toList == key.toList)) := by
          unfold Hid isAt
          rw [← he, List.getElem?_eq_getElem hlt]
          show decide (l[k].1 = key) = _
          by_cases c : l[k].1 = key
          · rw [decide_eq_true c, (keq_iff _ _).2 c]
          · rw [decide_eq_false c]
            exact (Bool.eq_false_iff.2 fun h => c ((keq_iff _ _).1 h)).symm
        clear he hix
        go_wp2
        refine Go.XR.region_sched ((· = w0.drew)) [(0, true), (1, true), (2, true), (3, true), (4, true), (5, true), (6, true), (7, true), (8, true), (9, true), (10, true), (11, true), (12, true), (13, true), (14, true), (15, true), (16, true), (17, false)] [17] Try.mixed (by kernel_rfl) (by kernel_rfl) (by kernel_rfl) ?_
        simp only [List.map_cons, List.map_nil, List.getElem?_cons_succ, List.getElem?_cons_zero]
        repeat (first | (refine Go.XR.S_light rfl rfl rfl ?_ (fun w' hS K hK => ?_) (fun K hK => ?_); rotate_left 1; (cases hS; go_step; exact hK); go_step; refine hK _ ?_; clear hK K) | (refine Go.XR.S_light_off rfl rfl (fun K hK => ?_); go_step; refine hK _ ?_; clear hK K) | (refine Go.XR.S_light_on rfl rfl rfl rfl ?_ (fun w' hS K hK => ?_) (fun K hK => ?_); rotate_left 1; (cases hS; go_step; exact hK); go_step; refine hK _ ?_; clear hK K))
        repeat (first | (refine Go.XR.S_heavy (fun K hK => ?_); go_step; refine hK _ _ ⟨fun h => by simp at h, ?_⟩; clear hK K) | (refine Go.XR.S_heavy_off rfl (fun h => by simp at h) (fun K hK => ?_); go_step; refine hK _ ?_; clear hK K) | (refine Go.XR.S_heavy_on rfl (fun K hK => ?_); go_step; refine hK _ _ ⟨fun h => by simp at h, ?_⟩; clear hK K))
        refine Go.XR.S_nil ?_
        go_wp2
        go_ret2
        refine ⟨?_, Hb0.out.drew⟩
        rw [← He.out, Hat.out]; rfl
    · have hge : ¬ (k : Int) < (l.length : Int) := by omega
      have hi2 : decide (k < l.length) = false := decide_eq_false hlt
      have he : k = idx key l := idx_of hk hi.out.2 fun h => absurd h hlt
      have He := Lib.hid he
      have Hat : Hid (isAt key l = false) := by
        unfold Hid isAt
        rw [← he, List.getElem?_eq_none (by omega)]
      clear he hix
      go_wp2
      refine Go.XR.region_sched ((· = w0.drew)) [(0, true), (1, true), (2, true), (3, true), (4, true), (5, true), (6, true), (7, true), (8, true), (9, true), (10, true), (11, true), (12, true), (13, true), (14, true), (15, true), (16, true), (17, false)] [17] Try.mixed (by kernel_rfl) (by kernel_rfl) (by kernel_rfl) ?_
      simp only [List.map_cons, List.map_nil, List.getElem?_cons_succ, List.getElem?_cons_zero]
      repeat (first | (refine Go.XR.S_light rfl rfl rfl ?_ (fun w' hS K hK => ?_) (fun K hK => ?_); rotate_left 1; (cases hS; go_step; exact hK); go_step; refine hK _ ?_; clear hK K) | (refine Go.XR.S_light_off rfl rfl (fun K hK => ?_); go_step; refine hK _ ?_; clear hK K) | (refine Go.XR.S_light_on rfl rfl rfl rfl ?_ (fun w' hS K hK => ?_) (fun K hK => ?_); rotate_left 1; (cases hS; go_step; exact hK); go_step; refine hK _ ?_; clear hK K))
      repeat (first | (refine Go.XR.S_heavy (fun K hK => ?_); go_step; refine hK _ _ ⟨fun h => by simp at h, ?_⟩; clear hK K) | (refine Go.XR.S_heavy_off rfl (fun h => by simp at h) (fun K hK => ?_); go_step; refine hK _ ?_; clear hK K) | (refine Go.XR.S_heavy_on rfl (fun K hK => ?_); go_step; refine hK _ _ ⟨fun h => by simp at h, ?_⟩; clear hK K))
      refine Go.XR.S_nil ?_
      go_wp2
      go_ret2
      refine ⟨?_, Hb0.out.drew⟩
      rw [← He.out, Hat.out]; rfl

/-- an own row while a block below it is written -/
theorem ownsRow_setCell_ne {w : World} {base : Nat} {e : TypeId} {size : Nat} {v : Value} {n : Nat} {xs : List Value} (h : w.ownsRow base e size v n xs) {b i : Nat} (hb : b < base) (u : Value) : (w.setCell ⟨b, i, none⟩ u).ownsRow base e size v n xs :=
  ownsRow_setCell h (a := ⟨b, i, none⟩) hb u

theorem cellsOf_one (l : List Pr) : ∀ u ∈ cellsOf l, u.oneCell' = true := by
  intro u hu
  simp only [cellsOf, List.mem_flatMap] at hu
  obtain ⟨p, _, hu⟩ := hu
  simp at hu
  rcases hu with rfl | rfl <;> rfl

/-- append of pairs onto pairs of the call's own -/
theorem append_pairs {w : World} {A : Act} {K : Act → World → Prop} {Q : Exit → Act → World → Prop} {dst : Option Tmp} {s x : Operand} {pos : String} {after : Array Edge} {guard : Option (Nat × Bool)}
    (base : Nat) (so : Option Addr) (sc : Nat) (l : List Pr) (hs : A.eval s = .slice so l.length sc) (hown : w.ownsRow base 30 2 (.slice so l.length sc) l.length (cellsOf l))
    (xo : Option Addr) (c : Nat) (m : List Pr) (hx : A.eval x = .slice xo m.length c) (hrow : Row w xo (cellsOf m)) (hnil : xo = none → m.length = 0 ∧ c = 0) (hlen : l.length + m.length < 2^42) (hbase : base ≤ w.heap.size)
    (h : ∀ a' c' w', w'.ownsRow base 30 2 (.slice a' (l ++ m).length c') (l ++ m).length (cellsOf (l ++ m)) → Below base w w' → (a' = none ↔ so = none ∧ m.length = 0) →
      Oper.wp Try.prog ⟨dst, .move (.const (.slice a' (l ++ m).length c')), 25, "", #[], none⟩ A w' K (fun _ _ _ => False)) :
    Oper.wp Try.prog ⟨dst, .call { callee := .builtin .append, args := #[s, x], argTypes := #[25, 25] }, 25, pos, after, guard⟩ A w K Q := by
  obtain ⟨i0, hi, hz0, hz1, hz2⟩ := info_parts Try.info30
  refine wp_append_src base 30 i0 (.agg #[.string ⟨#[]⟩, .string ⟨#[]⟩]) 2 32 Try.slice25 hi hz0 hz1 hz2 rfl (by decide) so l.length sc (cellsOf l) hs hown xo m.length c (cellsOf m) hx (cellsOf_length m) hrow hnil (cellsOf_one m) (by unfold maxLen; omega) (by omega) hbase ?_
  intro a' c' w' ho hg hn
  have e : (l ++ m).length = l.length + m.length := List.length_append
  have := h a' c' w' (by rw [e, cellsOf_append]; exact ho) (grown_below hg hown hbase) hn
  rw [e] at this
  exact this

theorem row_of_drop {w : World} {g o : Nat} {l : List Pr} (h : Row w (some ⟨g, o, none⟩) (cellsOf l)) (j : Nat) : Row w (some ⟨g, o + j * 2, none⟩) (cellsOf (l.drop j)) := by
  rw [cellsOf_drop]; exact row_drop h _
theorem row_of_take {w : World} {a : Option Addr} {l : List Pr} (h : Row w a (cellsOf l)) (j : Nat) : Row w a (cellsOf (l.take j)) := by
  rw [cellsOf_take]; exact h.take _

set_option maxHeartbeats 4000000 in
set_option maxRecDepth 100000 in
theorem refput_any (w : World) (a : Option Addr) (c : Nat) (l : List Pr) (key x : ByteArray) (h : MR w a c l) (hl : l.length < 2^40) :
    Calls Try.prog 14 #[.agg #[.slice a l.length c], .string key, .string x] w (RetMap w (refPut key x l)) := by
  have hcl := h.le
  have hcap := h.cap
  have Hn := Lib.hid h.nil
  have Hsh := Lib.hid h.shape
  have H := Lib.hid h
  unfold maxLen at hcap
  clear h
  have hix := idx_le key l
  go_enter Try.func14, Try.ntmps14
  go_wp2_with fail
  refine (at_any _ a c l key (H.out.below (((Below.refl _ _).alloc (Nat.le_refl _) _).alloc (by simp) _)) hl).mono ?_
  rintro e w1 ⟨rfl, hb1⟩
  have hz1 := hb1.size
  simp at hz1
  have f0 : w1.cell? ⟨w.heap.size, 0, none⟩ = some (.slice a l.length c) := by rw [hb1.cell (by simp; omega)]; simp
  have f1 : w1.cell? ⟨w.heap.size + 1, 0, none⟩ = some (.slice none 0 0) := by rw [hb1.cell (by simp)]; simp
  have f2 : w1.frozen? ⟨w.heap.size + 1, 0, none⟩ = false := by rw [hb1.frozen (by simp)]; simp
  have Hblk : Hid (w1.heap[w.heap.size + 1]? = some (.cells #[.slice none 0 0] 27 (0, 0))) := by unfold Hid; rw [hb1.block _ (by simp)]; exact heap_new2 _ _ _
  have Hb1 : Hid (Below w.heap.size w w1) := (((Below.refl w.heap.size w).alloc (Nat.le_refl _) _).alloc (by simp) _).trans (hb1.mono (by simp; omega))
  have H1 := Lib.hid (H.out.row.below Hb1.out)
  clear hb1
  have hixc : idx key l ≤ c := by omega
  have hlt1 : w.heap.size < w1.heap.size := by omega
  have hlt2 : w.heap.size + 1 < w1.heap.size := by omega
  have htl : (l.take (idx key l)).length = idx key l := by rw [List.length_take]; omega
  have Htl := Lib.hid htl
  clear htl
  generalize hT1 : l.take (idx key l) = T1 at *
  have h1 : T1.length = idx key l := Htl.out
  have HT1 := Lib.hid hT1
  have Hr1 : Hid (Row w1 a (cellsOf T1)) := by have := row_of_take H1.out (idx key l); rw [hT1] at this; exact this
  clear hT1
  have H1l := Lib.hid h1
  clear h1
  go_wp2_with (at_builtin; refine Go.XR.stop (fun X hX => ?_))
  refine hX.out ?_
  clear hX X
  refine wpList_plain rfl (fun K hK => ?_)
  refine append_pairs w1.heap.size (some ⟨w1.heap.size, 0, none⟩) 0 [] rfl (World.ownsRow_lit w1 #[] 0 (Nat.le_refl _) (by decide) rfl) a c T1 (by rw [H1l.out]; rfl) (Hr1.out.below ((Below.refl _ _).alloc (Nat.le_refl _) _)) (fun e => ⟨by have := Hn.out e; rw [H1l.out]; omega, Hn.out e⟩) (by rw [H1l.out]; simp; omega) (by simp) ?_
  intro a2 c2 w2 ho2 hb2 hn2
  rw [List.nil_append] at ho2 ⊢
  go_step
  refine hK _ _ ?_
  clear hK K
  have Ho2 := Lib.hid ho2
  have Hb2 := Lib.hid (((Below.refl w1.heap.size w1).alloc (Nat.le_refl _) _).trans hb2)
  have Hn2 : Hid (a2 ≠ none) := fun e => by have := hn2.1 e; simp at this
  clear ho2 hb2 hn2
  have hz2 := Hb2.out.size
  go_wp2_with (at_builtin; refine Go.XR.stop (fun X hX => ?_))
  refine hX.out ?_
  clear hX X
  refine wpList_plain rfl (fun K hK => ?_)
  refine append_pairs w1.heap.size a2 c2 T1 rfl (Ho2.out.alloc _) (some ⟨w2.heap.size, 0, none⟩) 1 [(key, x)] rfl (Row.new _ _ _) (fun e => by cases e) (by rw [H1l.out]; simp; omega) (by simp; omega) ?_
  intro a3 c3 w3 ho3 hb3 hn3
  generalize hT2 : T1 ++ [(key, x)] = T2 at ho3 ⊢
  go_step
  refine hK _ _ ?_
  clear hK K
  have H2l : Hid (T2.length = idx key l + 1) := by unfold Hid; rw [← hT2, List.length_append, H1l.out]; rfl
  have HT2 := Lib.hid hT2
  have Ho3 := Lib.hid ho3
  have Hb3 := Lib.hid (Hb2.out.trans (((Below.refl w1.heap.size w2).alloc hz2 _).trans hb3))
  have Hn3 : Hid (a3 ≠ none) := fun e => by have := hn3.1 e; simp at this
  clear ho3 hb3 hn3 hT2
  have hz3 := Hb3.out.size
  have hc3 := bcell Hb3.out
  have hf3 := bfrozen Hb3.out
  have Hr3 := Lib.hid (H1.out.below Hb3.out)
  cases hat : isAt key l with
  | true =>
    have hil : idx key l < l.length := by
      unfold isAt at hat
      cases hg : l[idx key l]? with
      | none => rw [hg] at hat; cases hat
      | some p => exact (List.getElem?_eq_some_iff.1 hg).1
    have Hat := Lib.hid hat
    clear hat
    have Hfin : Hid (refPut key x l = T2 ++ l.drop (idx key l + 1)) := by unfold Hid refPut; rw [Hat.out, if_pos rfl, HT1.out, ← HT2.out, List.append_assoc]; rfl
    have hdl : (l.drop (idx key l + 1)).length = l.length - (idx key l + 1) := List.length_drop
    have Hdl := Lib.hid hdl
    clear hdl
    by_cases hcj : c = idx key l + 1
    · have hnil : l.drop (idx key l + 1) = [] := List.drop_eq_nil_of_le (by omega)
      have Hnil := Lib.hid hnil
      clear hnil
      subst hcj
      go_wp2_with (at_builtin; refine Go.XR.stop (fun X hX => ?_))
      refine hX.out ?_
      clear hX X
      refine wpList_plain rfl (fun K hK => ?_)
      refine append_pairs w1.heap.size a3 c3 T2 rfl Ho3.out a 0 (l.drop (idx key l + 1)) (by rw [Hdl.out, show l.length - (idx key l + 1) = 0 by omega]; rfl) (by rw [Hnil.out]; exact .inl rfl) (fun e => ⟨by rw [Hnil.out]; rfl, rfl⟩) (by rw [H2l.out, Hdl.out]; omega) hz3 ?_
      intro a4 c4 w4 ho4 hb4 hn4
      generalize hT3 : T2 ++ l.drop (idx key l + 1) = T3 at ho4 ⊢
      go_step
      refine hK _ _ ?_
      clear hK K
      have HT3 := Lib.hid hT3
      have Ho4 := Lib.hid ho4
      have Hb4 := Lib.hid (Hb3.out.trans hb4)
      clear ho4 hb4 hn4 hT3 hc3 hf3
      have hc4 := bcell Hb4.out
      have hf4 := bfrozen Hb4.out
      go_wp2
      have hk0 : w1.heap[w.heap.size + 1]? = some (.cells #[.slice none 0 0] 27 (0, 0)) := Hblk.out
      have hk1 := heap_setCell_at (i := 0) (u := .slice a4 T3.length c4) ((Hb4.out.block _ hlt2).trans hk0)
      have q0 := cells_of hk1 0
      simp at q0
      refine bodyPost_ret (v := .agg #[.slice a4 T3.length c4]) (by simp [results, Try.results14, go_sem, q0]) rfl ?_
      rw [Hfin.out, HT3.out]
      exact ⟨a4, c4, rfl, MR.owned (ownsRow_setCell_ne Ho4.out (show w.heap.size + 1 < w1.heap.size from hlt2) _), (Hb1.out.trans (Hb4.out.mono Hb1.out.size)).setCell (show w.heap.size ≤ w.heap.size + 1 by omega) _⟩
    · have ha : ∃ g o, a = some ⟨g, o, none⟩ := by
        rcases Hsh.out with e | e
        · have := Hn.out e; omega
        · exact e
      obtain ⟨g, o, rfl⟩ := ha
      go_wp2_with (at_builtin; refine Go.XR.stop (fun X hX => ?_))
      refine hX.out ?_
      clear hX X
      refine wpList_plain rfl (fun K hK => ?_)
      refine append_pairs w1.heap.size a3 c3 T2 rfl Ho3.out (some ⟨g, o + (idx key l + 1) * 2, none⟩) (c - (idx key l + 1)) (l.drop (idx key l + 1)) (by rw [Hdl.out]; rfl) (row_of_drop Hr3.out _) (fun e => by cases e) (by rw [H2l.out, Hdl.out]; omega) hz3 ?_
      intro a4 c4 w4 ho4 hb4 hn4
      generalize hT3 : T2 ++ l.drop (idx key l + 1) = T3 at ho4 ⊢
      go_step
      refine hK _ _ ?_
      clear hK K
      have HT3 := Lib.hid hT3
      have Ho4 := Lib.hid ho4
      have Hb4 := Lib.hid (Hb3.out.trans hb4)
      clear ho4 hb4 hn4 hT3 hc3 hf3
      have hc4 := bcell Hb4.out
      have hf4 := bfrozen Hb4.out
      go_wp2
      have hk0 : w1.heap[w.heap.size + 1]? = some (.cells #[.slice none 0 0] 27 (0, 0)) := Hblk.out
      have hk1 := heap_setCell_at (i := 0) (u := .slice a4 T3.length c4) ((Hb4.out.block _ hlt2).trans hk0)
      have q0 := cells_of hk1 0
      simp at q0
      refine bodyPost_ret (v := .agg #[.slice a4 T3.length c4]) (by simp [results, Try.results14, go_sem, q0]) rfl ?_
      rw [Hfin.out, HT3.out]
      exact ⟨a4, c4, rfl, MR.owned (ownsRow_setCell_ne Ho4.out (show w.heap.size + 1 < w1.heap.size from hlt2) _), (Hb1.out.trans (Hb4.out.mono Hb1.out.size)).setCell (show w.heap.size ≤ w.heap.size + 1 by omega) _⟩
  | false =>
    have Hat := Lib.hid hat
    clear hat
    have Hfin : Hid (refPut key x l = T2 ++ l.drop (idx key l)) := by unfold Hid refPut; rw [Hat.out, if_neg (by simp), HT1.out, ← HT2.out, List.append_assoc]; rfl
    have hdl : (l.drop (idx key l)).length = l.length - idx key l := List.length_drop
    have Hdl := Lib.hid hdl
    clear hdl
    by_cases hcj : c = idx key l
    · have hnil : l.drop (idx key l) = [] := List.drop_eq_nil_of_le (by omega)
      have Hnil := Lib.hid hnil
      clear hnil
      subst hcj
      go_wp2_with (at_builtin; refine Go.XR.stop (fun X hX => ?_))
      refine hX.out ?_
      clear hX X
      refine wpList_plain rfl (fun K hK => ?_)
      refine append_pairs w1.heap.size a3 c3 T2 rfl Ho3.out a 0 (l.drop (idx key l)) (by rw [Hdl.out, show l.length - idx key l = 0 by omega]; rfl) (by rw [Hnil.out]; exact .inl rfl) (fun e => ⟨by rw [Hnil.out]; rfl, rfl⟩) (by rw [H2l.out, Hdl.out]; omega) hz3 ?_
      intro a4 c4 w4 ho4 hb4 hn4
      generalize hT3 : T2 ++ l.drop (idx key l) = T3 at ho4 ⊢
      go_step
      refine hK _ _ ?_
      clear hK K
      have HT3 := Lib.hid hT3
      have Ho4 := Lib.hid ho4
      have Hb4 := Lib.hid (Hb3.out.trans hb4)
      clear ho4 hb4 hn4 hT3 hc3 hf3
      have hc4 := bcell Hb4.out
      have hf4 := bfrozen Hb4.out
      go_wp2
      have hk0 : w1.heap[w.heap.size + 1]? = some (.cells #[.slice none 0 0] 27 (0, 0)) := Hblk.out
      have hk1 := heap_setCell_at (i := 0) (u := .slice a4 T3.length c4) ((Hb4.out.block _ hlt2).trans hk0)
      have q0 := cells_of hk1 0
      simp at q0
      refine bodyPost_ret (v := .agg #[.slice a4 T3.length c4]) (by simp [results, Try.results14, go_sem, q0]) rfl ?_
      rw [Hfin.out, HT3.out]
      exact ⟨a4, c4, rfl, MR.owned (ownsRow_setCell_ne Ho4.out (show w.heap.size + 1 < w1.heap.size from hlt2) _), (Hb1.out.trans (Hb4.out.mono Hb1.out.size)).setCell (show w.heap.size ≤ w.heap.size + 1 by omega) _⟩
    · have ha : ∃ g o, a = some ⟨g, o, none⟩ := by
        rcases Hsh.out with e | e
        · have := Hn.out e; omega
        · exact e
      obtain ⟨g, o, rfl⟩ := ha
      go_wp2_with (at_builtin; refine Go.XR.stop (fun X hX => ?_))
      refine hX.out ?_
      clear hX X
      refine wpList_plain rfl (fun K hK => ?_)
      refine append_pairs w1.heap.size a3 c3 T2 rfl Ho3.out (some ⟨g, o + (idx key l) * 2, none⟩) (c - (idx key l)) (l.drop (idx key l)) (by rw [Hdl.out]; rfl) (row_of_drop Hr3.out _) (fun e => by cases e) (by rw [H2l.out, Hdl.out]; omega) hz3 ?_
      intro a4 c4 w4 ho4 hb4 hn4
      generalize hT3 : T2 ++ l.drop (idx key l) = T3 at ho4 ⊢
      go_step
      refine hK _ _ ?_
      clear hK K
      have HT3 := Lib.hid hT3
      have Ho4 := Lib.hid ho4
      have Hb4 := Lib.hid (Hb3.out.trans hb4)
      clear ho4 hb4 hn4 hT3 hc3 hf3
      have hc4 := bcell Hb4.out
      have hf4 := bfrozen Hb4.out
      go_wp2
      have hk0 : w1.heap[w.heap.size + 1]? = some (.cells #[.slice none 0 0] 27 (0, 0)) := Hblk.out
      have hk1 := heap_setCell_at (i := 0) (u := .slice a4 T3.length c4) ((Hb4.out.block _ hlt2).trans hk0)
      have q0 := cells_of hk1 0
      simp at q0
      refine bodyPost_ret (v := .agg #[.slice a4 T3.length c4]) (by simp [results, Try.results14, go_sem, q0]) rfl ?_
      rw [Hfin.out, HT3.out]
      exact ⟨a4, c4, rfl, MR.owned (ownsRow_setCell_ne Ho4.out (show w.heap.size + 1 < w1.heap.size from hlt2) _), (Hb1.out.trans (Hb4.out.mono Hb1.out.size)).setCell (show w.heap.size ≤ w.heap.size + 1 by omega) _⟩
end Go.Proofs.Ytfblpabkkahmeaa
