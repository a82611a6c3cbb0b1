/- The walks over tree.first, drop, Drop with marked trees. -/
import Derived.Test.YtfblpabkkahmeaaTp
namespace Go.Proofs.Ytfblpabkkahmeaa
open Go.RowKit Go.TreePure
variable {S : Nat → Bool} {gg gl gm gn : Bool}

theorem RepM.setCell {w : World} {n i : Nat} {u : Value} {c : Array Value} {T : TypeId} {fz : Nat × Nat} (hn : w.heap[n]? = some (.cells c T fz)) (hT : T ≠ 58) : ∀ {t : FT} {p : Option Addr}, RepM S w p t → RepM S (w.setCell ⟨n, i, none⟩ u) p t
  | .nil, _, h => h
  | .node _ _ _ _ _, _, ⟨b, lv, rv, h0, h1, hS, h2, h3⟩ => by
    have hne : b ≠ n := fun e => by subst e; rw [hn] at h1; cases h1; exact hT rfl
    exact ⟨b, lv, rv, h0, by rw [Below.heap_setCell _ _ _ _ hne]; exact h1, hS, RepM.setCell hn hT h2, RepM.setCell hn hT h3⟩

def RetFirstM (S : Nat → Bool) (w : World) (t : FT) (e : Ending) (w' : World) : Prop :=
  ∃ p, e = .returned (.tuple #[.agg #[.string t.first.1.1, .string t.first.1.2], .pointer p]) ∧ RepM S w' p t.first.2 ∧ Below w.heap.size w w'

set_option maxHeartbeats 1000000 in
set_option maxRecDepth 100000 in
theorem first_marked : ∀ (t : FT) (w : World) (p : Option Addr), RepM S w p t → t ≠ .nil → t.size < 2^59 →
    Calls Try.prog 34 #[.pointer p] w (RetFirstM S w t) := by
  intro t
  induction t with
  | nil => intro w p _ h; exact absurd rfl h
  | node gg k x l r ihl _ =>
    intro w p hp _ hs
    have Ihl := Lib.hid ihl
    clear ihl
    obtain ⟨b, lp, rp, rfl, hb, d0, d1, d2, d3, d4, d5, hl, hr⟩ := hp.open
    have Hl := Lib.hid hl
    have Hr := Lib.hid hr
    have hsz : (FT.node gg k x l r).size = l.size + r.size + 1 := rfl
    have hs' : l.size + r.size + 1 < 2^59 := by omega
    clear hs hsz hp hr
    have hn : w.heap.size < w.heap.size + 1 := by omega
    cases l with
    | nil =>
      cases hl
      clear Hl
      go_enter Try.func34, Try.ntmps34
      go_wp2_with fail
      have hbs : b < w.heap.size + 1 := by omega
      have hS0 : Below w.heap.size w (w.alloc (.cells #[.string ⟨#[]⟩, .string ⟨#[]⟩] 30)).drew := ((Below.refl _ _).alloc (Nat.le_refl _) _).drew
      refine Go.XR.region_sched ((Below w.heap.size w)) [(0, true), (1, true), (2, true), (3, true), (4, true), (5, true), (6, true), (7, true), (8, false), (9, false)] [9] Try.mixed (by kernel_rfl) (by kernel_rfl) (by kernel_rfl) ?_
      simp only [List.map_cons, List.map_nil, List.getElem?_cons_succ, List.getElem?_cons_zero]
      repeat (first | (refine Go.XR.S_light rfl rfl (by assumption) ?_ (fun w' hS K hK => ?_) (fun K hK => ?_); rotate_left 1; (have hS1 := bcell hS; go_step; exact hK); go_step; refine hK _ ?_; clear hK K))
      refine Go.XR.S_heavy (fun K hK => ?_)
      go_step
      refine hK _ _ ⟨fun _ => ((Below.refl _ _).alloc (Nat.le_refl _) _).drew, ?_⟩
      clear hK K
      repeat (first | (refine Go.XR.S_heavy (fun K hK => ?_); go_step; refine hK _ _ ⟨fun h => by simp at h, ?_⟩; clear hK K))
      refine Go.XR.S_nil ?_
      go_wp2
      refine bodyPost_ret (v := .tuple #[.agg #[.string k, .string x], .pointer rp]) (by simp [results, Try.results34, go_sem]) rfl ⟨rp, by rw [FT.first], by rw [FT.first]; exact (Hr.out.alloc _).drew, ((Below.refl _ _).alloc (Nat.le_refl _) _).drew⟩
    | node gl lk lx ll lr =>
      obtain ⟨bl, llp, lrp, rfl, hbl, _, _, _, _, _, _, _, _⟩ := hl.open
      clear hl
      go_enter Try.func34, Try.ntmps34
      go_wp2_with fail
      refine (Ihl.out _ _ (Hl.out.alloc _) (by simp) (by omega)).mono ?_
      rintro e w1 ⟨q, rfl, hq, hb1⟩
      obtain ⟨hb0, hn1, hc1, hf1, hk1⟩ := facts_alloc hb1
      have Hk1 := Lib.hid hk1
      clear hk1
      have hc0 := bcell hb0
      clear hb1
      go_wp2_with fail
      refine gen_world (fun w2 => Below w1.heap.size w1 w2 ∧ w1.heap.size < w2.heap.size ∧ w2.cell? ⟨w1.heap.size, 0, none⟩ = some (.string (FT.node gl lk lx ll lr).first.1.1) ∧ w2.cell? ⟨w1.heap.size, 1, none⟩ = some (.string (FT.node gl lk lx ll lr).first.1.2))
        ⟨(Below.refl _ _).alloc (Nat.le_refl _) _, by simp, by simp, by simp⟩ ?_
      rintro w2 ⟨hb2, hn2, g0, g1⟩
      have hbw1 := Nat.lt_trans hb hn1
      have hbw2 : b < w2.heap.size := by omega
      have hnw2 : w.heap.size < w2.heap.size := by omega
      have hc2 := bcell hb2
      have hf2 := bfrozen hb2
      have hb02 := hb0.trans (hb2.mono hb0.size)
      have hfs := FT.first_size (t := .node gl lk lx ll lr) (by simp)
      generalize hA : (FT.node gl lk lx ll lr).first = A at *
      have HA := Lib.hid hA
      clear hA
      have hS0 : Below w2.heap.size w2 w2.drew := (Below.refl _ _).drew
      refine Go.XR.region_sched ((Below w2.heap.size w2)) [(0, true), (1, true), (2, true), (3, true), (4, true), (5, true), (6, true), (7, true), (8, true), (9, true), (10, false), (11, false), (12, false)] [11, 12] Try.mixed (by kernel_rfl) (by kernel_rfl) (by kernel_rfl) ?_
      simp only [List.map_cons, List.map_nil, List.getElem?_cons_succ, List.getElem?_cons_zero]
      repeat (first | (refine Go.XR.S_light rfl rfl (by assumption) ?_ (fun w' hS K hK => ?_) (fun K hK => ?_); rotate_left 1; (have hS1 := bcell hS; go_step; exact hK); go_step; refine hK _ ?_; clear hK K))
      refine Go.XR.S_heavy (fun K hK => ?_)
      go_step
      ((with_reducible refine (join_marked _ k x _ _ A.2 r (hq.below hb2.drew) (Hr.out.below hb02.drew) (by omega)).mono ?_); rintro e w' ⟨p2, rfl, hp2, hb3⟩)
      have hb3' := hS0.trans hb3
      refine hK _ _ ⟨fun _ => hb3', ?_⟩
      clear hK K
      repeat (first | (refine Go.XR.S_light rfl rfl (by assumption) ?_ (fun w' hS K hK => ?_) (fun K hK => ?_); rotate_left 1; (have hS1 := bcell hS; go_step; exact hK); go_step; refine hK _ ?_; clear hK K))
      have hc3 := bcell hb3'
      have hf3 := bfrozen hb3'
      have hnw3 := Nat.lt_of_lt_of_le hnw2 hb3'.size
      repeat (first | (refine Go.XR.S_heavy (fun K hK => ?_); go_step; refine hK _ _ ⟨fun h => by simp at h, ?_⟩; clear hK K))
      refine Go.XR.S_nil ?_
      go_wp2
      have hk3 : w'.heap[w.heap.size]? = _ := (hb3'.block _ hnw2).trans ((hb2.block _ hn1).trans Hk1.out)
      have hk4 := heap_setCell_at (i := 0) (u := .string A.1.1) hk3
      have hk5 := heap_setCell_at (i := 1) (u := .string A.1.2) hk4
      have q0 := cells_of hk5 0
      have q1 := cells_of hk5 1
      simp at q0 q1
      have hfin : RetFirstM S w (FT.node gg k x (FT.node gl lk lx ll lr) r) (.returned (.tuple #[.agg #[.string A.1.1, .string A.1.2], .pointer p2])) ((w'.setCell ⟨w.heap.size, 0, none⟩ (.string A.1.1)).setCell ⟨w.heap.size, 1, none⟩ (.string A.1.2)) := by
        refine ⟨p2, by rw [FT.first, HA.out], ?_, ((hb02.trans (hb3'.mono hb02.size)).setCell (Nat.le_refl _) _).setCell (Nat.le_refl _) _⟩
        rw [FT.first, HA.out]
        exact (hp2.setCell hk3 (by decide)).setCell hk4 (by decide)
      refine bodyPost_ret (v := .tuple #[.agg #[.string A.1.1, .string A.1.2], .pointer p2]) ?_ rfl hfin
      simp [results, Try.results34, go_sem, q0, q1]

set_option maxHeartbeats 1000000 in
set_option maxRecDepth 100000 in
theorem drop_marked (k : ByteArray) : ∀ (t : FT) (w : World) (p : Option Addr), RepM S w p t → (FT.get k t).isSome = true → t.size < 2^59 →
    Calls Try.prog 26 #[.pointer p, .string k] w (RetTreeM S w (FT.drop k t)) := by
  intro t
  induction t with
  | nil => intro w p _ h; simp [FT.get] at h
  | node gg k' x' l r ihl ihr =>
    intro w p hp hg hs
    have Ihl := Lib.hid ihl
    have Ihr := Lib.hid ihr
    clear ihl ihr
    obtain ⟨b, lp, rp, rfl, hb, d0, d1, d2, d3, d4, d5, hl, hr⟩ := hp.open
    have Hl := Lib.hid hl
    have Hr := Lib.hid hr
    have hsz : (FT.node gg k' x' l r).size = l.size + r.size + 1 := rfl
    have hs' : l.size + r.size + 1 < 2^59 := by omega
    clear hp hl hs hsz
    by_cases h1 : klt k k' = true
    · clear hr
      have hd := FT.drop_size k l
      have hgl : Hid ((FT.get k l).isSome = true) := by unfold Hid; rw [FT.get, if_neg (klt_ne h1), if_pos h1] at hg; exact hg
      have Hp : Hid (FT.drop k (.node gg k' x' l r) = FT.join k' x' (FT.drop k l) r) := by unfold Hid; rw [FT.drop.eq_def]; simp only []; rw [if_pos h1]
      have hlt : Op.bytesLess k.toList k'.toList = true := h1
      clear h1 hg
      go_enter Try.func26, Try.ntmps26
      go_wp2_with fail
      have hS0 : Below w.heap.size w w.drew := (Below.refl _ _).drew
      refine Go.XR.region_sched ((Below w.heap.size w)) [(0, true), (1, true), (2, true), (3, true), (4, true), (5, true), (6, true), (7, true), (8, true), (10, true), (11, true), (12, true), (13, true), (9, false), (14, false), (15, false)] [14, 15] Try.mixed (by kernel_rfl) (by kernel_rfl) (by kernel_rfl) ?_
      simp only [List.map_cons, List.map_nil, List.getElem?_cons_succ, List.getElem?_cons_zero]
      repeat (first | (refine Go.XR.S_light rfl rfl (by assumption) ?_ (fun w' hS K hK => ?_) (fun K hK => ?_); rotate_left 1; (have hS1 := bcell hS; go_step; exact hK); go_step; refine hK _ ?_; clear hK K))
      refine Go.XR.S_heavy (fun K hK => ?_)
      go_step
      ((with_reducible refine (Ihl.out _ _ Hl.out.drew hgl.out (by omega)).mono ?_); rintro e w' ⟨p, rfl, hp, hb2⟩)
      have hb2' := hS0.trans hb2
      refine hK _ _ ⟨fun _ => hb2', ?_⟩
      clear hK K
      repeat (first | (refine Go.XR.S_light rfl rfl (by assumption) ?_ (fun w' hS K hK => ?_) (fun K hK => ?_); rotate_left 1; (have hS1 := bcell hS; go_step; exact hK); go_step; refine hK _ ?_; clear hK K))
      refine Go.XR.S_heavy (fun K hK => ?_)
      go_step
      ((with_reducible refine (join_marked _ k' x' _ _ (FT.drop k l) r hp (Hr.out.below hb2') (by omega)).mono ?_); rintro e w' ⟨p2, rfl, hp2, hb3⟩)
      refine hK _ _ ⟨fun _ => hb2'.trans (hb3.mono hb2'.size), ?_⟩
      clear hK K
      repeat (first | (refine Go.XR.S_light rfl rfl (by assumption) ?_ (fun w' hS K hK => ?_) (fun K hK => ?_); rotate_left 1; (have hS1 := bcell hS; go_step; exact hK); go_step; refine hK _ ?_; clear hK K))
      repeat (first | (refine Go.XR.S_heavy (fun K hK => ?_); go_step; refine hK _ _ ⟨fun h => by simp at h, ?_⟩; clear hK K))
      refine Go.XR.S_nil ?_
      go_wp2
      go_ret
      rw [Hp.out]
      exact RetTreeM.of hb2' hp2 hb3
    · have h1' : klt k k' = false := by simpa using h1
      by_cases h2 : klt k' k = true
      · clear hr
        have hd := FT.drop_size k r
        have hgr : Hid ((FT.get k r).isSome = true) := by unfold Hid; rw [FT.get, if_neg (fun e => klt_ne h2 e.symm), if_neg h1] at hg; exact hg
        have Hp : Hid (FT.drop k (.node gg k' x' l r) = FT.join k' x' l (FT.drop k r)) := by unfold Hid; rw [FT.drop.eq_def]; simp only []; rw [if_neg h1, if_pos h2]
        have hlt : Op.bytesLess k.toList k'.toList = false := h1'
        have hne : (k.toList == k'.toList) = false := by
          rw [Bool.eq_false_iff]; intro h; rw [keq_iff] at h; exact klt_ne h2 h.symm
        clear h1 h1' h2 hg
        go_enter Try.func26, Try.ntmps26
        go_wp2_with fail
        have hS0 : Below w.heap.size w w.drew := (Below.refl _ _).drew
        refine Go.XR.region_sched ((Below w.heap.size w)) [(0, true), (1, true), (2, true), (3, true), (4, true), (5, true), (6, true), (7, true), (8, true), (9, true), (10, true), (11, true), (12, true), (13, false), (14, false), (15, false)] [14, 15] Try.mixed (by kernel_rfl) (by kernel_rfl) (by kernel_rfl) ?_
        simp only [List.map_cons, List.map_nil, List.getElem?_cons_succ, List.getElem?_cons_zero]
        repeat (first | (refine Go.XR.S_light rfl rfl (by assumption) ?_ (fun w' hS K hK => ?_) (fun K hK => ?_); rotate_left 1; (have hS1 := bcell hS; go_step; exact hK); go_step; refine hK _ ?_; clear hK K))
        refine Go.XR.S_heavy (fun K hK => ?_)
        go_step
        ((with_reducible refine (Ihr.out _ _ Hr.out.drew hgr.out (by omega)).mono ?_); rintro e w' ⟨p, rfl, hp, hb2⟩)
        have hb2' := hS0.trans hb2
        refine hK _ _ ⟨fun _ => hb2', ?_⟩
        clear hK K
        repeat (first | (refine Go.XR.S_light rfl rfl (by assumption) ?_ (fun w' hS K hK => ?_) (fun K hK => ?_); rotate_left 1; (have hS1 := bcell hS; go_step; exact hK); go_step; refine hK _ ?_; clear hK K))
        refine Go.XR.S_heavy (fun K hK => ?_)
        go_step
        ((with_reducible refine (join_marked _ k' x' _ _ l (FT.drop k r) (Hl.out.below hb2') hp (by omega)).mono ?_); rintro e w' ⟨p2, rfl, hp2, hb3⟩)
        refine hK _ _ ⟨fun _ => hb2'.trans (hb3.mono hb2'.size), ?_⟩
        clear hK K
        repeat (first | (refine Go.XR.S_light rfl rfl (by assumption) ?_ (fun w' hS K hK => ?_) (fun K hK => ?_); rotate_left 1; (have hS1 := bcell hS; go_step; exact hK); go_step; refine hK _ ?_; clear hK K))
        repeat (first | (refine Go.XR.S_heavy (fun K hK => ?_); go_step; refine hK _ _ ⟨fun h => by simp at h, ?_⟩; clear hK K))
        refine Go.XR.S_nil ?_
        go_wp2
        go_ret
        rw [Hp.out]
        exact RetTreeM.of hb2' hp2 hb3
      · have h2' : klt k' k = false := by simpa using h2
        obtain rfl := klt_tri h1' h2'
        have hlt : Op.bytesLess k.toList k.toList = false := h1'
        have hne : (k.toList == k.toList) = true := by rw [keq_iff]
        cases r with
        | nil =>
          cases hr
          have Hp : Hid (FT.drop k (.node gg k x' l .nil) = l) := by unfold Hid; rw [FT.drop.eq_def]; simp only []; rw [if_neg h1, if_neg h2]
          clear h1 h1' h2 h2' hg
          go_enter Try.func26, Try.ntmps26
          go_wp2
          go_ret
          rw [Hp.out]
          exact ⟨lp, rfl, Hl.out, Below.refl _ _⟩
        | node gl rk rx rl rr =>
          obtain ⟨br, rlp, rrp, rfl, hbr, _, _, _, _, _, _, _, _⟩ := hr.open
          clear hr
          have hfs := FT.first_size (t := .node gl rk rx rl rr) (by simp)
          have Hp : Hid (FT.drop k (.node gg k x' l (.node gl rk rx rl rr)) = FT.join (FT.node gl rk rx rl rr).first.1.1 (FT.node gl rk rx rl rr).first.1.2 l (FT.node gl rk rx rl rr).first.2) := by unfold Hid; rw [FT.drop.eq_def]; simp only []; rw [if_neg h1, if_neg h2]
          clear h1 h1' h2 h2' hg
          go_enter Try.func26, Try.ntmps26
          go_wp2_with fail
          refine (first_marked _ _ _ Hr.out (by simp) (by omega)).mono ?_
          rintro e w1 ⟨q, rfl, hq, hb1⟩
          have hc1 := bcell hb1
          generalize hA : (FT.node gl rk rx rl rr).first = A at *
          have HA := Lib.hid hA
          clear hA
          go_wp2_with fail
          refine gen_world (fun w2 => Below w1.heap.size w1 w2 ∧ w1.heap.size < w2.heap.size ∧ w2.cell? ⟨w1.heap.size, 0, none⟩ = some (.string A.1.1) ∧ w2.cell? ⟨w1.heap.size, 1, none⟩ = some (.string A.1.2))
            ⟨(Below.refl _ _).alloc (Nat.le_refl _) _, by simp, by simp, by simp⟩ ?_
          rintro w2 ⟨hb2, hn2, g0, g1⟩
          have hw1 := hb1.size
          have hbw1 : b < w1.heap.size := by omega
          have hbw2 : b < w2.heap.size := by omega
          have hc2 := bcell hb2
          have hb02 := hb1.trans (hb2.mono hb1.size)
          have hS0 : Below w2.heap.size w2 w2.drew := (Below.refl _ _).drew
          refine Go.XR.region_sched ((Below w2.heap.size w2)) [(0, true), (1, true), (2, true), (3, true), (4, true), (5, true), (6, false), (7, false)] [6, 7] Try.mixed (by kernel_rfl) (by kernel_rfl) (by kernel_rfl) ?_
          simp only [List.map_cons, List.map_nil, List.getElem?_cons_succ, List.getElem?_cons_zero]
          repeat (first | (refine Go.XR.S_light rfl rfl (by assumption) ?_ (fun w' hS K hK => ?_) (fun K hK => ?_); rotate_left 1; (have hS1 := bcell hS; go_step; exact hK); go_step; refine hK _ ?_; clear hK K))
          refine Go.XR.S_heavy (fun K hK => ?_)
          go_step
          ((with_reducible refine (join_marked _ A.1.1 A.1.2 _ _ l A.2 (Hl.out.below hb02.drew) (hq.below hb2.drew) (by omega)).mono ?_); rintro e w' ⟨p2, rfl, hp2, hb3⟩)
          have hb3' := hS0.trans hb3
          refine hK _ _ ⟨fun _ => hb3', ?_⟩
          clear hK K
          repeat (first | (refine Go.XR.S_light rfl rfl (by assumption) ?_ (fun w' hS K hK => ?_) (fun K hK => ?_); rotate_left 1; (have hS1 := bcell hS; go_step; exact hK); go_step; refine hK _ ?_; clear hK K))
          repeat (first | (refine Go.XR.S_heavy (fun K hK => ?_); go_step; refine hK _ _ ⟨fun h => by simp at h, ?_⟩; clear hK K))
          refine Go.XR.S_nil ?_
          go_wp2
          go_ret
          rw [Hp.out]
          exact ⟨p2, rfl, hp2, hb02.trans (hb3'.mono hb02.size)⟩

def RetDropM (S : Nat → Bool) (w : World) (k : ByteArray) (t : FT) (e : Ending) (w' : World) : Prop := ∃ p, e = .returned (.tuple #[.pointer p, .bool (FT.get k t).isSome]) ∧ RepM S w' p (FT.Drop k t) ∧ Below w.heap.size w w'

set_option maxHeartbeats 1000000 in
theorem Drop_marked (k : ByteArray) (t : FT) (w : World) (p : Option Addr) (hp : RepM S w p t) (hs : t.size < 2^59) :
    Calls Try.prog 11 #[.pointer p, .string k] w (RetDropM S w k t) := by
  have Hp := Lib.hid hp
  clear hp
  cases hg : (FT.get k t).isSome with
  | false =>
    have Hg := Lib.hid hg
    clear hg
    go_enter Try.func11, Try.ntmps11
    go_wp2_with fail
    refine (get_any k t.er _ p Hp.out.rep).mono ?_
    rintro e w1 ⟨rfl, rfl⟩
    rw [FT.er_get, Hg.out]
    go_wp2
    go_ret2
    exact ⟨p, by rw [Hg.out]; rfl, by unfold FT.Drop; rw [Hg.out]; exact Hp.out, Below.refl _ _⟩
  | true =>
    have Hg := Lib.hid hg
    clear hg
    go_enter Try.func11, Try.ntmps11
    go_wp2_with fail
    refine (get_any k t.er _ p Hp.out.rep).mono ?_
    rintro e w1 ⟨rfl, rfl⟩
    rw [FT.er_get, Hg.out]
    go_wp2_with fail
    refine (drop_marked k t _ p Hp.out Hg.out hs).mono ?_
    rintro e w1 ⟨q, rfl, hq, hb⟩
    go_wp2
    go_ret2
    exact ⟨q, by rw [Hg.out]; rfl, by unfold FT.Drop; rw [Hg.out]; exact hq, hb⟩
end Go.Proofs.Ytfblpabkkahmeaa
