/- The walks over tree.From and its walk: pairs are told in order till there are enough. -/
import Derived.Test.YtfblpabkkahmeaaD
namespace Go.Proofs.Ytfblpabkkahmeaa
open Go.RowKit Go.TreePure

/-- pairs as cells -/
def cellsOf (l : List (ByteArray × ByteArray)) : List Value := l.flatMap fun p => [.string p.1, .string p.2]

theorem Try.info30 : (Try.prog.info? 30).map (fun i => (i.zero, i.size, i.bytes)) = some (some (.agg #[.string ⟨#[]⟩, .string ⟨#[]⟩]), 2, 32) := by kernel_rfl
theorem Try.slice25 : Try.prog.underlying 25 = some (.slice 30) := by kernel_rfl

theorem cellsOf_length : ∀ l : List (ByteArray × ByteArray), (cellsOf l).length = l.length * 2
  | [] => rfl
  | p :: l => by
    show ([.string p.1, .string p.2] ++ cellsOf l : List Value).length = _
    rw [List.length_append, cellsOf_length l, List.length_cons]; simp; omega

theorem cellsOf_append (l m : List (ByteArray × ByteArray)) : cellsOf (l ++ m) = cellsOf l ++ cellsOf m := by simp [cellsOf]

/-- what From's closure holds: the pairs so far in block bo, how many are wanted in block bn -/
structure FromSt (B bo bn : Nat) (n : Int) (w : World) (acc : List (ByteArray × ByteArray)) : Prop where
  bo_ge : B ≤ bo
  bn_ge : B ≤ bn
  ne : bo ≠ bn
  wanted : w.heap[bn]? = some (.cells #[.int .i64 n] 3 (0, 0))
  held : ∃ a c, w.heap[bo]? = some (.cells #[.slice a acc.length c] 25 (0, 0)) ∧ w.ownsRow (max bo bn + 1) 30 2 (.slice a acc.length c) acc.length (cellsOf acc)

/-- a block that is not the written row -/
theorem grown_old {w w' : World} {o : Obj} {row : Option Nat} {m : Nat} (hg : (w.alloc o).drew.grownBy w' row) (hrow : ∀ k, row = some k → m < k) {j : Nat} (hj : j < w.heap.size) (hm : j ≤ m) : w'.heap[j]? = w.heap[j]? := by
  rw [hg.block j (by show j < (w.alloc o).heap.size; rw [size_alloc]; omega) (fun e => by have := hrow j e.symm; omega)]
  exact Below.heap_alloc w o j hj

def RetOne (B bo bn : Nat) (n : Int) (w : World) (acc : List (ByteArray × ByteArray)) (e : Ending) (w' : World) : Prop :=
  e = .returned (.bool (decide ((acc.length : Int) < n))) ∧ Below B w w' ∧ FromSt B bo bn n w' acc

set_option maxHeartbeats 1000000 in
set_option maxRecDepth 100000 in
theorem told_any (B bo bn : Nat) (n : Int) (w : World) (acc : List (ByteArray × ByteArray)) (p : Option Addr) (k x : ByteArray) (l r : PT)
    (hp : Rep w p (.node k x l r)) (hpB : ∀ b, p = some ⟨b, 0, none⟩ → b < B) (st : FromSt B bo bn n w acc) (hn : acc.length < 2^40) :
    Calls Try.prog 31 #[.pointer p, .pointer (some ⟨bo, 0, none⟩), .pointer (some ⟨bn, 0, none⟩)] w (RetOne B bo bn n w (acc ++ [(k, x)])) := by
  obtain ⟨b, lp, rp, rfl, hb, d0, d1, d2, d3, d4, d5, hl, hr⟩ := hp.open
  have hbB := hpB b rfl
  clear hpB hp hl hr d2 d3 d4 d5
  obtain ⟨g1, g2, g3, g4, so, sc, g5, g6⟩ := st
  have hbo := blk_lt g5
  have hbn := blk_lt g4
  have e0 := cells_of g5 0
  have e1 := cells_of g4 0
  simp at e0 e1
  have G4 := Lib.hid g4
  have G5 := Lib.hid g5
  have G6 := Lib.hid g6
  have hfo : w.frozen? ⟨bo, 0, none⟩ = false := by simp [World.frozen?, g5]
  clear g4 g5 g6
  obtain ⟨i0, hi, hz0, hz1, hz2⟩ := info_parts Try.info30
  have Hi := Lib.hid hi
  have Hz := Lib.hid (And.intro hz0 (And.intro hz1 hz2))
  clear hi hz0 hz1 hz2
  have hne1 : b ≠ bo := by omega
  go_enter Try.func31, Try.ntmps31
  go_wp2_with fail
  have hS0 : Below w.heap.size w w.drew := (Below.refl _ _).drew
  refine Go.XR.region_sched ((Below w.heap.size w)) [(0, true), (1, true), (2, true), (3, true), (4, true), (5, false), (6, false), (7, false)] [6, 7] Try.mixed (by kernel_rfl) (by kernel_rfl) (by kernel_rfl) ?_
  simp only [List.map_cons, List.map_nil, List.getElem?_cons_succ, List.getElem?_cons_zero]
  repeat (refine Go.XR.S_light rfl rfl (by assumption) ?_ (fun w' hS K hK => ?_) (fun K hK => ?_); rotate_left 1; (have hS1 := bcell hS; go_step; exact hK); go_step; refine hK _ ?_; clear hK K)
  refine Go.XR.S_heavy (fun K hK => ?_)
  go_step
  refine hK _ _ ⟨fun _ => ((Below.refl _ _).alloc (Nat.le_refl _) _).drew, ?_⟩
  clear hK K
  refine Go.XR.S_heavy (fun K hK => ?_)
  refine Go.XR.wp_append (max bo bn + 1) 30 i0 (.agg #[.string ⟨#[]⟩, .string ⟨#[]⟩]) 2 32 Try.slice25 Hi.out Hz.out.1 Hz.out.2.1 Hz.out.2.2 rfl (by decide) so acc.length sc (cellsOf acc) rfl ?_ ⟨w.heap.size, 0, none⟩ 1 1 [.string k, .string x] rfl rfl ?_ ?_ ?_ ?_ ?_ ?_
  · exact G6.out.alloc _
  · intro j u hj
    match j, hj with
    | 0, hj => simpa [Addr.add] using hj
    | 1, hj => simpa [Addr.add] using hj
    | j + 2, hj => simp at hj
  · intro u hu
    simp at hu
    rcases hu with rfl | rfl <;> rfl
  · unfold maxLen; omega
  · omega
  · show _ ≤ (w.alloc _).heap.size
    rw [size_alloc]; omega
  intro a' c' w' ho hg
  go_step
  refine hK _ _ ⟨fun h => by simp at h, ?_⟩
  clear hK K
  have hrow := fun k hk => Nat.lt_of_succ_le (G6.out.lt k hk).1
  have q5 : w'.heap[bo]? = _ := (grown_old hg hrow hbo (by omega)).trans G5.out
  have q4 : w'.heap[bn]? = _ := (grown_old hg hrow hbn (by omega)).trans G4.out
  have Hbl : Hid (Below B w w') := by
    have hw := ((Below.refl B w).alloc (by omega) (.cells #[.string k, .string x] 30)).drew
    exact hw.grown hg (by show B ≤ (w.alloc _).heap.size; rw [size_alloc]; omega) (fun k hk => by have := hrow k hk; omega)
  have k0 := cells_of q5 0
  have k1 := cells_of q4 0
  simp at k0 k1
  have hfo' : w'.frozen? ⟨bo, 0, none⟩ = false := by simp [World.frozen?, q5]
  have r5 := heap_setCell_at (i := 0) (u := .slice a' (acc.length + 1) c') q5
  have r4 : (w'.setCell ⟨bo, 0, none⟩ (.slice a' (acc.length + 1) c')).heap[bn]? = _ := (Below.heap_setCell _ _ _ _ (by show bn ≠ bo; omega)).trans q4
  have l0 := cells_of r5 0
  have l1 := cells_of r4 0
  simp at l0 l1
  have Ho := Lib.hid ho
  have Q4 := Lib.hid r4
  have Q5 := Lib.hid r5
  clear ho q4 q5 hg r4 r5 hrow
  repeat (refine Go.XR.S_heavy (fun K hK => ?_); go_step; refine hK _ _ ⟨fun h => by simp at h, ?_⟩; clear hK K)
  refine Go.XR.S_nil ?_
  go_wp2
  go_ret
  have el : (acc ++ [(k, x)]).length = acc.length + 1 := by simp
  refine ⟨?_, Hbl.out.setCell (p := ⟨bo, 0, none⟩) g1 _, g1, g2, g3, Q4.out, a', c', ?_, ?_⟩
  · rw [el]; rfl
  · rw [el]; exact Q5.out
  · rw [el, cellsOf_append]
    exact Go.XR.ownsRow_setCell Ho.out (by show bo < _; omega) _

theorem ret_bool {a b : Bool} (h : a = b) : Ending.returned (.bool a) = .returned (.bool b) := by rw [h]

def cut (n : Int) (acc L : List (ByteArray × ByteArray)) : List (ByteArray × ByteArray) := acc ++ L.take (n.toNat - acc.length)

theorem cut_more (n : Int) (acc A B : List (ByteArray × ByteArray)) (p : ByteArray × ByteArray) (h : (acc.length : Int) + A.length + 1 ≤ n) : cut n acc (A ++ p :: B) = cut n (acc ++ A ++ [p]) B := by
  unfold cut
  obtain ⟨m, rfl⟩ : ∃ m : Nat, n = m := ⟨n.toNat, by omega⟩
  simp only [Int.toNat_natCast, List.length_append, List.length_cons, List.length_nil]
  rw [List.take_append, List.take_of_length_le (by omega), show m - acc.length - A.length = (m - (acc.length + A.length + 1)) + 1 from by omega, List.take_succ_cons]
  simp

theorem cut_stop (n : Int) (acc A B : List (ByteArray × ByteArray)) (p : ByteArray × ByteArray) (h : (acc.length : Int) + A.length < n) (h' : ¬ (acc.length : Int) + A.length + 1 < n) : cut n acc (A ++ p :: B) = acc ++ A ++ [p] := by
  rw [cut_more n acc A B p (by omega)]
  unfold cut
  rw [show n.toNat - (acc ++ A ++ [p]).length = 0 from by simp; omega]
  simp

def RetWalk (B bo bn : Nat) (n : Int) (w : World) (acc L : List (ByteArray × ByteArray)) (e : Ending) (w' : World) : Prop :=
  e = .returned (.bool (decide ((acc.length : Int) + L.length < n))) ∧ Below B w w' ∧ FromSt B bo bn n w' (cut n acc L)

set_option maxHeartbeats 2000000 in
set_option maxRecDepth 100000 in
theorem walk_any (w0 : World) (bo bn : Nat) (n : Int) (key : ByteArray) : ∀ (t : PT) (w : World) (p : Option Addr) (acc : List (ByteArray × ByteArray)),
    Rep w0 p t → Below w0.heap.size w0 w → FromSt w0.heap.size bo bn n w acc → (acc.length : Int) < n → acc.length + t.size < 2^40 →
    Calls Try.prog 30 #[.pointer p, .string key, (.func (.func 31) #[] #[.pointer (some ⟨bo, 0, none⟩), .pointer (some ⟨bn, 0, none⟩)])] w (RetWalk w0.heap.size bo bn n w acc (PT.fromL key t)) := by
  intro t
  induction t with
  | nil =>
    intro w p acc hp _ st hn _
    cases hp
    have St := Lib.hid st
    have hn' : decide ((acc.length : Int) < n) = true := by simpa using hn
    clear st
    go_enter Try.func30, Try.ntmps30
    go_wp2
    go_ret
    refine ⟨?_, Below.refl _ _, ?_⟩
    · exact ret_bool (a := true) (by simp only [PT.fromL, List.length_nil]; exact (decide_eq_true (by omega)).symm)
    · simp only [PT.fromL, cut, List.take_nil, List.append_nil]; exact St.out
  | node k x l r ihl ihr =>
    intro w p acc hp hbw st hn hs
    have Ihl := Lib.hid ihl
    have Ihr := Lib.hid ihr
    clear ihl ihr
    obtain ⟨b, lp, rp, rfl, hb, d0, d1, d2, d3, d4, d5, hl, hr⟩ := (hp.below hbw).open
    have hb0 : b < w0.heap.size := by
      obtain ⟨b', _, _, he, h1, _⟩ := hp
      cases he
      exact blk_lt h1
    have Hp := Lib.hid hp
    have hpo : ∃ lp' rp', Rep w0 lp' l ∧ Rep w0 rp' r ∧ lp' = lp ∧ rp' = rp := by
      obtain ⟨b', lp', rp', he, h1, h2, h3⟩ := hp
      cases he
      have e2 := cells_of h1 2
      have e3 := cells_of h1 3
      rw [hbw.cell (p := ⟨b, 2, none⟩) hb0] at d2
      rw [hbw.cell (p := ⟨b, 3, none⟩) hb0] at d3
      rw [e2] at d2
      rw [e3] at d3
      simp at d2 d3
      exact ⟨lp', rp', h2, h3, d2, d3⟩
    obtain ⟨_, _, hl0, hr0, rfl, rfl⟩ := hpo
    have Hl := Lib.hid hl0
    have Hr := Lib.hid hr0
    have St := Lib.hid st
    have hsz : (PT.node k x l r).size = l.size + r.size + 1 := rfl
    have hs' : acc.length + l.size + r.size + 1 < 2^40 := by omega
    clear hp hl hr hl0 hr0 st hs hsz d4 d5
    by_cases h1 : klt key k = true
    · have hlt : Op.bytesLess key.toList k.toList = true := h1
      have Hf : Hid (PT.fromL key (.node k x l r) = PT.fromL key l ++ (k, x) :: PT.fromL key r) := by
        unfold Hid; rw [PT.fromL, if_pos h1, if_neg (by rw [klt_asymm h1]; simp)]; rfl
      have hll := PT.fromL_le key l
      clear h1
      by_cases g1 : (acc.length : Int) + (PT.fromL key l).length < n
      · have hg1 : decide ((acc.length : Int) + (PT.fromL key l).length < n) = true := decide_eq_true g1
        have e1 : cut n acc (PT.fromL key l) = acc ++ PT.fromL key l := by unfold cut; rw [List.take_of_length_le (by omega)]
        have E1 := Lib.hid e1
        clear e1
        go_enter Try.func30, Try.ntmps30
        go_wp2_with fail
        refine (Ihl.out _ _ acc Hl.out hbw St.out hn (by omega)).mono ?_
        rintro e w1 ⟨rfl, hb1, st1⟩
        rw [E1.out] at st1
        have St1 := Lib.hid st1
        clear st1
        have hbw1 := hbw.trans hb1
        have hc1 := fun o => hb1.cell (p := ⟨b, o, none⟩) hb0
        go_wp2_with fail
        refine (told_any w0.heap.size bo bn n _ (acc ++ PT.fromL key l) _ k x l r (Hp.out.below hbw1) (fun b' e => by cases e; exact hb0) St1.out (by simp; omega)).mono ?_
        rintro e w2 ⟨rfl, hb2, st2⟩
        have St2 := Lib.hid st2
        clear st2
        have hbw2 := hbw1.trans hb2
        have hc2 := fun o => hb2.cell (p := ⟨b, o, none⟩) hb0
        have elen : (acc ++ PT.fromL key l ++ [(k, x)]).length = acc.length + (PT.fromL key l).length + 1 := by simp only [List.length_append, List.length_cons, List.length_nil]; try omega
        by_cases g2 : (acc.length : Int) + (PT.fromL key l).length + 1 < n
        · have hg2 : decide (((acc ++ PT.fromL key l ++ [(k, x)]).length : Int) < n) = true := by rw [elen]; exact decide_eq_true (by push_cast; omega)
          rw [hg2]
          have Elen := Lib.hid elen
          clear elen hg2
          go_wp2_with fail
          refine (Ihr.out _ _ (acc ++ PT.fromL key l ++ [(k, x)]) Hr.out hbw2 St2.out (by rw [Elen.out]; push_cast; omega) (by rw [Elen.out]; omega)).mono ?_
          rintro e w3 ⟨rfl, hb3, st3⟩
          have St3 := Lib.hid st3
          clear st3
          go_wp2
          go_ret
          rw [Hf.out]
          refine ⟨?_, hb1.trans (hb2.trans hb3), ?_⟩
          · refine ret_bool (a := decide _) ?_
            have := Elen.out
            simp only [List.length_append, List.length_cons, List.length_nil] at this ⊢
            exact decide_eq_decide.2 (by push_cast; omega)
          · have e3 : cut n acc (PT.fromL key l ++ (k, x) :: PT.fromL key r) = cut n (acc ++ PT.fromL key l ++ [(k, x)]) (PT.fromL key r) := cut_more n acc _ _ _ (by omega)
            rw [e3]; exact St3.out
        · have hg2 : decide (((acc ++ PT.fromL key l ++ [(k, x)]).length : Int) < n) = false := by rw [elen]; exact decide_eq_false (by push_cast; omega)
          rw [hg2]
          clear hg2
          go_wp2
          go_ret
          rw [Hf.out]
          refine ⟨?_, hb1.trans hb2, ?_⟩
          · refine ret_bool (a := false) ?_
            simp only [List.length_append, List.length_cons]
            exact (decide_eq_false (by push_cast; omega)).symm
          · rw [cut_stop n acc _ _ _ (by omega) (by omega)]; exact St2.out
      · have hg1 : decide ((acc.length : Int) + (PT.fromL key l).length < n) = false := decide_eq_false g1
        go_enter Try.func30, Try.ntmps30
        go_wp2_with fail
        refine (Ihl.out _ _ acc Hl.out hbw St.out hn (by omega)).mono ?_
        rintro e w1 ⟨rfl, hb1, st1⟩
        have St1 := Lib.hid st1
        clear st1
        rw [hg1]
        go_wp2
        go_ret
        rw [Hf.out]
        refine ⟨?_, hb1, ?_⟩
        · refine ret_bool (a := false) ?_
          simp only [List.length_append, List.length_cons]
          exact (decide_eq_false (by push_cast; omega)).symm
        · have e3 : cut n acc (PT.fromL key l ++ (k, x) :: PT.fromL key r) = cut n acc (PT.fromL key l) := by
            unfold cut; rw [List.take_append_of_le_length (by omega)]
          rw [e3]; exact St1.out
    · have h1' : klt key k = false := by simpa using h1
      have hlt : Op.bytesLess key.toList k.toList = false := h1'
      have hlr := PT.fromL_le key r
      by_cases h2 : klt k key = true
      · have hne : (key.toList == k.toList) = false := by
          rw [Bool.eq_false_iff]; intro h; rw [keq_iff] at h; exact klt_ne h2 h.symm
        have Hf : Hid (PT.fromL key (.node k x l r) = PT.fromL key r) := by
          unfold Hid; rw [PT.fromL, if_neg h1, if_pos h2]; rfl
        clear h1 h1' h2
        go_enter Try.func30, Try.ntmps30
        go_wp2_with fail
        refine (Ihr.out _ _ acc Hr.out hbw St.out hn (by omega)).mono ?_
        rintro e w3 ⟨rfl, hb3, st3⟩
        have St3 := Lib.hid st3
        clear st3
        go_wp2
        go_ret
        rw [Hf.out]
        exact ⟨rfl, hb3, St3.out⟩
      · have hne : (key.toList == k.toList) = true := by rw [keq_iff]; exact klt_tri h1' (by simpa using h2)
        have Hf : Hid (PT.fromL key (.node k x l r) = [] ++ (k, x) :: PT.fromL key r) := by
          unfold Hid; rw [PT.fromL, if_neg h1, if_neg h2]; rfl
        clear h1 h1' h2
        have hbw1 := hbw
        have St1 : Hid (FromSt w0.heap.size bo bn n w (acc ++ [])) := by rw [List.append_nil]; exact St
        have hb1 : Below w0.heap.size w w := Below.refl _ _
        have g1 := hn
        have hnil : ([] : List (ByteArray × ByteArray)).length = 0 := rfl
        go_enter Try.func30, Try.ntmps30
        go_wp2_with fail
        refine (told_any w0.heap.size bo bn n _ (acc ++ []) _ k x l r (Hp.out.below hbw1) (fun b' e => by cases e; exact hb0) St1.out (by simp; omega)).mono ?_
        rintro e w2 ⟨rfl, hb2, st2⟩
        have St2 := Lib.hid st2
        clear st2
        have hbw2 := hbw1.trans hb2
        have hc2 := fun o => hb2.cell (p := ⟨b, o, none⟩) hb0
        have elen : (acc ++ [] ++ [(k, x)]).length = acc.length + ([] : List (ByteArray × ByteArray)).length + 1 := by simp only [List.length_append, List.length_cons, List.length_nil]; try omega
        by_cases g2 : (acc.length : Int) + ([] : List (ByteArray × ByteArray)).length + 1 < n
        · have hg2 : decide (((acc ++ [] ++ [(k, x)]).length : Int) < n) = true := by rw [elen]; exact decide_eq_true (by push_cast; omega)
          rw [hg2]
          have Elen := Lib.hid elen
          clear elen hg2
          go_wp2_with fail
          refine (Ihr.out _ _ (acc ++ [] ++ [(k, x)]) Hr.out hbw2 St2.out (by rw [Elen.out]; push_cast; omega) (by rw [Elen.out]; omega)).mono ?_
          rintro e w3 ⟨rfl, hb3, st3⟩
          have St3 := Lib.hid st3
          clear st3
          go_wp2
          go_ret
          rw [Hf.out]
          refine ⟨?_, hb1.trans (hb2.trans hb3), ?_⟩
          · refine ret_bool (a := decide _) ?_
            have := Elen.out
            simp only [List.length_append, List.length_cons, List.length_nil] at this ⊢
            exact decide_eq_decide.2 (by push_cast; omega)
          · have e3 : cut n acc ([] ++ (k, x) :: PT.fromL key r) = cut n (acc ++ [] ++ [(k, x)]) (PT.fromL key r) := cut_more n acc _ _ _ (by omega)
            rw [e3]; exact St3.out
        · have hg2 : decide (((acc ++ [] ++ [(k, x)]).length : Int) < n) = false := by rw [elen]; exact decide_eq_false (by push_cast; omega)
          rw [hg2]
          clear hg2
          go_wp2
          go_ret
          rw [Hf.out]
          refine ⟨?_, hb1.trans hb2, ?_⟩
          · refine ret_bool (a := false) ?_
            simp only [List.length_append, List.length_cons]
            exact (decide_eq_false (by push_cast; omega)).symm
          · rw [cut_stop n acc _ _ _ (by omega) (by omega)]; exact St2.out

/-- what From hands back: a slice in new memory, or nil -/
def RetFrom (w : World) (L : List (ByteArray × ByteArray)) (e : Ending) (w' : World) : Prop :=
  ∃ a c, e = .returned (.slice a L.length c) ∧ Below w.heap.size w w' ∧ w'.ownsRow w.heap.size 30 2 (.slice a L.length c) L.length (cellsOf L)

theorem ownsRow_base {w : World} {base base' : Nat} {e : TypeId} {size : Nat} {v : Value} {n : Nat} {xs : List Value} (h : w.ownsRow base e size v n xs) (hb : base' ≤ base) : w.ownsRow base' e size v n xs := by
  obtain ⟨h1, h2⟩ := h
  refine ⟨h1, ?_⟩
  rcases h2 with h2 | ⟨g, cap, cur, h3, h4, h5⟩
  · exact .inl h2
  · exact .inr ⟨g, cap, cur, h3, Nat.le_trans hb h4, h5⟩

set_option maxHeartbeats 1000000 in
theorem from_any (key : ByteArray) (n : Int) (t : PT) (w : World) (p : Option Addr) (hp : Rep w p t) (hs : t.size < 2^39) :
    Calls Try.prog 19 #[.pointer p, .string key, .int .i64 n] w (RetFrom w ((PT.fromL key t).take n.toNat)) := by
  have Hp := Lib.hid hp
  clear hp
  by_cases hn : n ≤ 0
  · have hd : decide (n ≤ 0) = true := decide_eq_true hn
    have hz : Hid (n.toNat = 0) := by unfold Hid; omega
    clear hn
    go_enter Try.func19, Try.ntmps19
    go_wp2
    go_ret
    rw [hz.out, List.take_zero]
    exact ⟨none, 0, rfl, ((Below.refl _ _).alloc (Nat.le_refl _) _).alloc (by simp) _, World.ownsRow_nil _ _ _ _⟩
  · have hd : decide (n ≤ 0) = false := decide_eq_false hn
    have hn' : 0 < n := by omega
    have Hn := Lib.hid hn'
    clear hn hn'
    go_enter Try.func19, Try.ntmps19
    go_wp2_with fail
    refine (walk_any w (w.heap.size + 1) w.heap.size n key t _ p [] Hp.out (((Below.refl _ _).alloc (Nat.le_refl _) _).alloc (by simp) _) ?_ (by have := Hn.out; simpa using this) (by simp; omega)).mono ?_
    · refine ⟨by omega, by omega, by omega, ?_, none, 0, heap_new2 _ _ _, World.ownsRow_nil _ _ _ _⟩
      rw [Below.heap_alloc _ _ _ (by rw [size_alloc]; omega)]
      exact heap_new _ _
    rintro e w1 ⟨rfl, hb1, g1, g2, g3, g4, so, sc, g5, g6⟩
    have e0 := cells_of g5 0
    simp at e0
    have G6 := Lib.hid g6
    have Hb := Lib.hid hb1
    clear g1 g2 g3 g4 g5 g6 hb1
    have ecut : cut n [] (PT.fromL key t) = (PT.fromL key t).take n.toNat := by unfold cut; simp
    rw [ecut] at e0
    have Ec := Lib.hid ecut
    clear ecut
    go_wp2
    go_ret
    refine ⟨so, sc, by rw [List.length_take]; rfl, (((Below.refl _ _).alloc (Nat.le_refl _) _).alloc (by simp) _).trans Hb.out, ?_⟩
    have := G6.out
    rw [Ec.out] at this
    exact ownsRow_base this (by omega)
end Go.Proofs.Ytfblpabkkahmeaa
