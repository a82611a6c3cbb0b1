/- The walk over the reference's Build. -/
import Derived.Test.YtekmiegonnhidaaRf
namespace Go.Proofs.Ytekmiegonnhidaa
open Go.RowKit Go.XR Go.PerfPure
def u64L (n : Nat) : List Value := [.int .u64 n]
def grpS (g : GrpT) : List Value := [.slice g.sl g.len g.cap]
def rnil : Value := .agg #[.int .i64 0, .slice none 0 0, .slice none 0 0, .slice none 0 0]
/-- the reference's map, in memory -/
def RefRep (w : World) (v : Value) (b : Built) : Prop :=
  ∃ (db : Nat) (sa ta : Option Addr) (sc tc : Nat), v = .agg #[.int .i64 b.n, .slice (some ⟨db, 0, none⟩) b.tries.length b.tries.length, .slice sa b.spill.length sc, .slice ta b.spill.length tc] ∧
    Row w (some ⟨db, 0, none⟩) (b.tries.flatMap u64L) ∧ Row w sa ((b.spill.map (·.1)).flatMap keyL) ∧ Row w ta ((b.spill.map (·.2)).flatMap intL)
theorem RefRep.below {w w' : World} {v : Value} {b : Built} (h : RefRep w v b) (hb : Below w.heap.size w w') : RefRep w' v b := by
  obtain ⟨db, sa, ta, sc, tc, h0, h1, h2, h3⟩ := h
  exact ⟨db, sa, ta, sc, tc, h0, h1.below hb, h2.below hb, h3.below hb⟩
def RetRBuild (w : World) (l : List KeyT) (e : Ending) (w' : World) : Prop :=
  Below w.heap.size w w' ∧ if 16384 < l.length then e = .returned (.tuple #[rnil, .int .i64 4]) else if l.Nodup then ∃ v, e = .returned (.tuple #[v, .int .i64 0]) ∧ RefRep w' v (buildP l) else e = .returned (.tuple #[rnil, .int .i64 3])
theorem RetRBuild.long {w w' : World} {l : List KeyT} (h : 16384 < l.length) (hb : Below w.heap.size w w') : RetRBuild w l (.returned (.tuple #[rnil, .int .i64 4])) w' := ⟨hb, by rw [if_pos h]⟩
theorem RetRBuild.twice {w w' : World} {l : List KeyT} (h : ¬ 16384 < l.length) (h2 : ¬ l.Nodup) (hb : Below w.heap.size w w') : RetRBuild w l (.returned (.tuple #[rnil, .int .i64 3])) w' := ⟨hb, by rw [if_neg h, if_neg h2]⟩
theorem RetRBuild.ok {w w' : World} {l : List KeyT} (h : ¬ 16384 < l.length) (h2 : l.Nodup) (hb : Below w.heap.size w w') {v : Value} (hp : RefRep w' v (buildP l)) : RetRBuild w l (.returned (.tuple #[v, .int .i64 0])) w' := ⟨hb, by rw [if_neg h, if_pos h2]; exact ⟨v, rfl, hp⟩⟩

theorem rres {fn : Func} (hf : fn.results = #[.cell 2 45, .tmp 3]) {w' : World} {g : Nat} {cs : Array Value} {tmps : Array Value} {v : Value} (hp : tmps.getD 2 undef = .pointer (some ⟨g, 0, none⟩)) (hv : tmps.getD 3 undef = v) (h : At w' g 0 cs) (hs : cs.size = 4) :
    (results fn tmps).run Try.prog w' = .ok (.tuple #[.agg cs, v]) w' := by
  rw [results_cell_tmp hf, hp, hv]
  have h1 := run_loadVar_at (P := Try.prog) h Try.underlying45 rfl (by rw [hs]; kernel_rfl)
  simp [asAddr, Result.andThen, h1]
theorem _root_.Go.XR.Blk.toAt {w : World} {b : Nat} {cs : List Value} (h : Blk w b cs) : At w b 0 cs.toArray := fun j u hj => by
  rw [Nat.zero_add]; exact h.cell (by simpa using hj)
theorem numbered_flat (many j : Nat) : (numbered many j).flatMap grpS = (List.replicate many grp0).flatMap grpS := by
  unfold numbered
  rw [List.flatMap_map]
  induction many with
  | zero => rfl
  | succ m ih => rw [List.range_succ, List.flatMap_append, ih, List.replicate_succ', List.flatMap_append]; rfl
/-- what the reference makes ahead of its groups -/
theorem rbuild_world (w : World) (C1 M C2 : Array Value) (T1 T2 T3 : TypeId) :
    ∃ wA, wA = ((w.alloc (.cells C1 T1)).alloc (.cells M T2)).alloc (.cells C2 T3) ∧ Below w.heap.size w wA ∧ wA.heap.size = w.heap.size + 3 ∧ Blk wA w.heap.size C1.toList ∧ Blk wA (w.heap.size + 1) M.toList ∧ Blk wA (w.heap.size + 1 + 1) C2.toList := by
  refine ⟨_, rfl, ?_, by simp, ?_, ?_, ?_⟩
  · exact (((Below.refl w.heap.size w).alloc (Nat.le_refl _) _).alloc (by simp) _).alloc (by simp; omega) _
  · exact ((Blk.new w C1 T1).below ((Below.refl _ _).alloc (Nat.le_refl _) _)).below ((Below.refl _ _).alloc (Nat.le_refl _) _)
  · have h := Blk.new (w.alloc (.cells C1 T1)) M T2
    rw [show (w.alloc (.cells C1 T1)).heap.size = w.heap.size + 1 by simp] at h
    exact h.below ((Below.refl _ _).alloc (Nat.le_refl _) _)
  · have h := Blk.new ((w.alloc (.cells C1 T1)).alloc (.cells M T2)) C2 T3
    rwa [show ((w.alloc (.cells C1 T1)).alloc (.cells M T2)).heap.size = w.heap.size + 1 + 1 by simp] at h
theorem nodup_le : ∀ {n : Nat} {o : List Nat}, o.Nodup → (∀ i ∈ o, i < n) → o.length ≤ n := fun {n o} h1 h2 => by
  have h3 : o.Perm ((List.range n).filter fun i => decide (i ∈ o)) := by
    rw [List.perm_ext_iff_of_nodup h1 (List.nodup_range.sublist List.filter_sublist)]
    intro i
    rw [List.mem_filter, List.mem_range, decide_eq_true_iff]
    exact ⟨fun hi => ⟨h2 i hi, hi⟩, fun hi => hi.2⟩
  have h4 := List.length_filter_le (fun i => decide (i ∈ o)) (List.range n)
  rw [h3.length_eq]
  rwa [List.length_range] at h4
theorem not_mem_take {O : List Nat} (h : O.Nodup) {j : Nat} (hj : j < O.length) : O[j] ∉ O.take j := fun hm => by
  have h1 := h.sublist (List.take_sublist (j + 1) O)
  rw [List.take_succ_eq_append_getElem hj, List.nodup_append] at h1
  exact h1.2.2 _ hm O[j] (by simp) rfl
theorem fold_other (ks : Nat → List KeyT) : ∀ (o : List Nat) (st : St) (i : Nat), i ∉ o → (o.foldl (stepS ks) st).tries[i]? = st.tries[i]?
  | [], _, _, _ => rfl
  | a :: o, st, i, h => by
    rw [List.mem_cons, not_or] at h
    rw [List.foldl_cons, fold_other ks o _ i h.2]
    unfold stepS
    split
    · rw [List.getElem?_set_ne fun e => h.1 e.symm]
    · rfl
/-- what the light ones read while a group grows -/
def SGq (b o : Nat) (v : Value) (kb ko : Nat) (k : KeyT) (w' : World) : Prop := w'.cell? ⟨b, o, none⟩ = some v ∧ At w' kb ko (keyC k)
theorem grpS_one (g : GrpT) : ∀ v ∈ grpS g, v.oneCell' = true := by
  intro v hv
  unfold grpS at hv
  rw [List.mem_singleton] at hv
  subst hv; rfl

set_option maxHeartbeats 8000000 in
set_option maxRecDepth 100000 in
theorem rbuild_any (w : World) (la : Option Addr) (lc : Nat) (l : List KeyT) (hL : Row w la (l.flatMap keyL)) (hl : l.length < 2^40) :
    Calls Try.prog 16 #[.slice la l.length lc] w (RetRBuild w l) := by
  by_cases hlong : 16384 < l.length
  · have hl2 : (16384 : Int) < (l.length : Int) := by omega
    go_enter Try.func16, Try.ntmps16
    go_wp2
    (try simp only [Exit.inBlock, Exit.then])
    refine bodyPost_ret (rres rfl (g := w.heap.size) rfl rfl (At.new _ _ _) rfl) rfl ?_
    exact RetRBuild.long hlong ((Below.refl _ _).alloc (Nat.le_refl _) _)
  · have hl2 : ¬ (16384 : Int) < (l.length : Int) := by omega
    have HL := Lib.hid hL
    clear hL
    obtain ⟨zs, hzs, hz⟩ := zero_key
    have Hz := Lib.hid hz
    clear hz
    have Hlong := Lib.hid hlong
    clear hlong
    have htw := twice_any (w.alloc (.cells #[.int .i64 0, .slice none 0 0, .slice none 0 0, .slice none 0 0] 45)) la lc l (HL.out.below ((Below.refl _ _).alloc (Nat.le_refl _) _)) hl
    have Htw := Lib.hid htw
    clear htw
    go_enter Try.func16, Try.ntmps16
    go_wp2_with fail
    refine Htw.out.mono ?_
    rintro e w1 ⟨rfl, hb1⟩
    have Hb1 : Hid (Below w.heap.size w w1) := ((Below.refl _ _).alloc (Nat.le_refl _) _).trans (hb1.mono (by simp))
    have HV1 : Hid (Blk w1 w.heap.size [.int .i64 0, .slice none 0 0, .slice none 0 0, .slice none 0 0]) := (Blk.new _ _ _).below hb1
    clear hb1
    by_cases hnd : l.Nodup
    · have Hnd := Lib.hid hnd
      rw [show decide (¬ l.Nodup) = false by simp [hnd]]
      clear hnd
      have hl3 : l.length ≤ 16384 := by have := Hlong.out; omega
      obtain ⟨many, hmany⟩ : ∃ m : Nat, l.length / 4 + 1 = m := ⟨_, rfl⟩
      have hmq : (l.length : Int) / 4 + 1 = (many : Int) := by omega
      have hmp : 0 < many := by omega
      have hml : many ≤ 16384 := by omega
      obtain ⟨C1, hC1, hmk1⟩ := make_any (P := Try.prog) (enc := u64L) (k := 1) (fun _ => rfl) 0 42 22 8 Try.underlying42 (by kernel_rfl) many (by omega) (by omega)
      obtain ⟨C2, hC2, hmk2⟩ := make_any (P := Try.prog) (enc := grpS) (k := 1) (fun _ => rfl) grp0 65 31 24 Try.underlying65 (by kernel_rfl) many (by omega) (by omega)
      have HC1 := Lib.hid hC1
      have HC2 := Lib.hid hC2
      have Hmany := Lib.hid hmany
      clear hC1 hC2 hmany
      go_wp2_with fail
      clear hmk1 hmk2
      obtain ⟨wA, hwA, hA1, hA2, hA3, hA4, hA5⟩ := rbuild_world w1 C1 #[.int .i64 l.length, .slice (some ⟨w1.heap.size, 0, none⟩) many many, .slice none 0 0, .slice none 0 0] C2 22 45 31
      rw [← hwA]
      rw [HC1.out] at hA3
      rw [HC2.out, ← numbered_flat many many] at hA5
      have HD0 := Lib.hid hA3
      have HM0 := Lib.hid hA4
      have HA0 := Lib.hid hA5
      have HbA := Lib.hid (Hb1.out.trans (hA1.mono Hb1.out.size))
      have HVA := Lib.hid (HV1.out.below hA1)
      have hszw := Hb1.out.size
      have hvb := HV1.out.lt
      clear hwA hA1 hA3 hA4 hA5 HC1 HC2 Hb1 HV1
      obtain ⟨db, hdb⟩ : ∃ db, w1.heap.size = db := ⟨_, rfl⟩
      rw [hdb] at HD0 HM0 HA0 hA2 hszw hvb ⊢
      clear hdb
      obtain ⟨mb, hmb⟩ : ∃ mb, db + 1 = mb := ⟨_, rfl⟩
      rw [hmb] at HM0 HA0 ⊢
      obtain ⟨ab, hab⟩ : ∃ ab, mb + 1 = ab := ⟨_, rfl⟩
      rw [hab] at HA0 ⊢
      have o1 : db < mb := by omega
      have o2 : mb < ab := by omega
      have o3 : wA.heap.size = ab + 1 := by omega
      have O3 := Lib.hid o3
      obtain ⟨vb, hvb2⟩ : ∃ vb, w.heap.size = vb := ⟨_, rfl⟩
      have Hvb := Lib.hid hvb2
      rw [hvb2] at hvb hszw HVA ⊢
      clear hA2 hmb hab o3 hvb2
      have HG0 : Hid (Gs wA (ab + 1) 27 (numbered many many) (fun i => keysOf [] many i)) :=
        ⟨fun i hi => by rw [numbered_get, if_pos (by rw [numbered_length] at hi; exact hi)], fun i hi => by rw [numbered_get]; rfl, fun i hi => by rw [numbered_get]; exact ⟨rfl, .inl ⟨rfl, rfl⟩⟩, fun i j hi hj hne a b ha _ => by rw [numbered_get] at ha; cases ha⟩
      have Hgl : Hid ((numbered many many).length = many) := numbered_length _ _
      generalize numbered many many = gs0 at *
      go_loopg [7] l.length (fun n i wr => But [ab] wA wr ∧ ∃ (j : Nat) (gs : List GrpT), j ≤ l.length ∧ i = .int .i64 j ∧ Hid (n = l.length - j ∧ gs.length = many ∧ Blk wr ab (gs.flatMap grpS) ∧ Gs wr (ab + 1) 27 gs (fun i => keysOf (l.take j) many i)))
      case atStart => exact ⟨But.refl _ _, 0, gs0, by omega, rfl, rfl, Hgl.out, HA0.out, HG0.out⟩
      case round =>
        clear HG0 HA0 Hgl
        obtain ⟨hb, j, gs, hj, rfl, hr⟩ := hrel
        have Hb := Lib.hid hb
        clear hb
        by_cases hlt : j < l.length
        · have hlt2 : (j : Int) < (l.length : Int) := by omega
          obtain ⟨g, o, rfl⟩ := row_some HL.out (by omega)
          have hgw : g < vb := by have := (row_key HL.out hlt).lt (by rw [keyC_size]; omega); rw [Hvb.out] at this; exact this
          have HA := Lib.hid ((At.below (row_key HL.out hlt) (by rw [keyC_size]; omega) HbA.out).but Hb.out (by simp; omega))
          have Hpl := Lib.hid (pos_lt 0 hmp l[j])
          have HT : Hid (l.take (j + 1) = l.take j ++ [l[j]]) := List.take_succ_eq_append_getElem hlt
          have HK : Hid (∀ i, keysOf (l.take (j + 1)) many i = if i = pos 0 many l[j] then keysOf (l.take j) many i ++ [l[j]] else keysOf (l.take j) many i) := fun i => by rw [HT.out]; exact keysOf_snoc _ _ _ _
          clear HT
          have hga := group_any wr l[j] many hmp (by omega)
          generalize hp : pos 0 many l[j] = p at *
          generalize l[j] = kj at *
          clear hp
          have Hga := Lib.hid hga
          clear hga
          have hzw := Hb.out.size
          rw [O3.out] at hzw
          go_wp2_with (refine wpList_load_at rfl 27 _ rfl g (o + j * 33) rfl (keyC kj) HA.out _ Try.underlying27 rfl (keySize kj) ?_)
          refine Hga.out.mono ?_
          rintro e w2 ⟨rfl, hb2⟩
          have Hb2 := Lib.hid hb2
          have HA2 := Lib.hid (At.below HA.out (by rw [keyC_size]; omega) hb2)
          have HB2 := Lib.hid (hr.out.2.2.1.below hb2)
          have HG2 := Lib.hid (hr.out.2.2.2.below hb2)
          have hz2 := hb2.size
          clear hb2
          have hpm := Hpl.out
          have hpg : p < gs.length := by rw [hr.out.2.1]; exact hpm
          have hlen : gs[p].len = (keysOf (l.take j) many p).length := HG2.out.len p hpg
          have hkl : (keysOf (l.take j) many p).length ≤ 16384 := Nat.le_trans (List.length_filter_le _ _) (by rw [List.length_take]; omega)
          have hown := HG2.out.own p hpg
          have c1 : w2.cell? ⟨ab, p, none⟩ = some (.slice gs[p].sl gs[p].len gs[p].cap) := HB2.out.cell (by
            have h1 := flat_get (enc := grpS) (k := 1) (fun _ => rfl) gs (j := 0) hpg (by omega)
            rw [Nat.mul_one, Nat.add_zero] at h1
            rw [h1]; rfl)
          obtain ⟨x, hx⟩ : ∃ x, gs[p] = x := ⟨_, rfl⟩
          obtain ⟨ks, hks⟩ : ∃ ks, keysOf (l.take j) many p = ks := ⟨_, rfl⟩
          rw [hx] at hlen hown c1
          rw [hks] at hlen hkl hown
          obtain ⟨xa, xs, xl, xc⟩ := x
          dsimp only at hlen hown c1
          subst hlen
          have Hx := Lib.hid hx
          have Hks := Lib.hid hks
          have Hown := Lib.hid hown
          clear hx hks hown
          go_wp2
          have hS0 : SGq ab p (.slice xs ks.length xc) g (o + j * 33) kj w2.drew := ⟨c1, HA2.out.drew⟩
          refine Go.XR.region_sched ((SGq ab p (.slice xs ks.length xc) g (o + j * 33) kj)) [(0, true), (1, true), (2, true), (3, true), (4, true), (5, true), (6, true), (7, true), (8, true), (9, true), (10, false), (11, false), (12, false), (13, false)] [12, 13] Try.mixed (by kernel_rfl) (by kernel_rfl) (by kernel_rfl) ?_
          simp only [List.map_cons, List.map_nil, List.getElem?_cons_succ, List.getElem?_cons_zero]
          repeat (first | (refine Go.XR.S_light rfl rfl (by assumption) ?_ (fun w' hS K hK => ?_) (fun K hK => ?_); rotate_left 1; (obtain ⟨hS1, hS2⟩ := hS; (first | (refine Go.XR.wp_load_at 27 _ rfl g (o + j * 33) rfl (keyC kj) hS2 _ Try.underlying27 rfl (keySize kj) ?_) | go_step); exact hK); go_step; refine hK _ ?_; clear hK K))
          refine Go.XR.S_heavy (fun K hK => ?_)
          refine Go.XR.wp_build_one 31 _ rfl 27 33 Try.underlying31 (by kernel_rfl) (by omega) (by omega) _ (Hz.out _) (keyC kj) rfl (keyC_size kj) ?_
          have hS0' : SGq ab p (.slice xs ks.length xc) g (o + j * 33) kj (w2.drew.alloc (.cells (keyC kj) 27)) := ⟨by rw [World.cell?_alloc_old _ _ _ (by show ab ≠ w2.heap.size; omega)]; exact hS0.1, hS0.2.alloc _⟩
          refine hK _ _ ⟨fun _ => hS0', ?_⟩
          clear hK K
          refine Go.XR.S_heavy (fun K hK => ?_)
          refine append_enc2 (P := Try.prog) keyL 33 36 keyL_length one_keyL 27 Try.underlying31 (by kernel_rfl) (by decide) (ab + 1) xs xc ks rfl (Hown.out.drew.alloc _) w2.heap.size 0 1 [kj] rfl (by rw [List.flatMap_cons, List.flatMap_nil, List.append_nil]; exact Row.new _ _ _) (by simp; omega) (by unfold maxLen; simp; omega) (by simp; omega) ?_
          intro a' c' w3 ho3 hg3 hn3
          have HGb : Hid (Gs (w2.drew.alloc (.cells (keyC kj) 27)) (ab + 1) 27 gs (fun i => keysOf (l.take j) many i)) := HG2.out.below ((Below.refl _ _).drew.alloc (Nat.le_refl _) _)
          have Hxb : Hid (∀ y, xs = some y → ab + 1 ≤ y.block ∧ y.block < w2.heap.size) := fun y hy => by
            have h1 := HG2.out.own p hpg
            rw [Hx.out] at h1
            dsimp only at h1
            rw [hy] at h1
            exact owns_lt h1
          have Hst : Hid (∀ q, q < w2.heap.size + 1 → (∀ y, xs = some y → y.block ≠ q) → w3.heap[q]? = (w2.drew.alloc (.cells (keyC kj) 27)).heap[q]?) := fun q hq hy => hg3.block q (by simpa using hq) (fun e => by
            cases xs with
            | none => cases e
            | some y => exact hy y rfl (by simpa [Value.ownBlock] using e.symm))
          have hst1 : w3.heap[ab]? = (w2.drew.alloc (.cells (keyC kj) 27)).heap[ab]? := Hst.out _ (by omega) (fun y hy => by have := Hxb.out y hy; omega)
          have hst2 : w3.heap[g]? = (w2.drew.alloc (.cells (keyC kj) 27)).heap[g]? := Hst.out _ (by omega) (fun y hy => by have := Hxb.out y hy; omega)
          have hS2' : SGq ab p (.slice xs ks.length xc) g (o + j * 33) kj w3 := ⟨by rw [World.cell?_of_block (a := ⟨ab, p, none⟩) hst1]; exact hS0'.1, hS0'.2.heap hst2⟩
          have HB3 : Hid (Blk w3 ab (gs.flatMap grpS)) := (HB2.out.below ((Below.refl _ _).drew.alloc (Nat.le_refl _) _)).heap hst1
          have Hbt : Hid (But [ab] wA w3) := by
            have h1 : But [ab] wA (w2.drew.alloc (.cells (keyC kj) 27)) := ((Hb.out.trans (But.of_below Hb2.out)).drew).alloc _
            refine ⟨hg3.os.trans h1.os, hg3.tape.trans h1.tape, hg3.output.trans h1.output, Nat.le_trans h1.size hg3.size, fun i hi hni => ?_⟩
            rw [O3.out] at hi
            rw [Hst.out i (by omega) (fun y hy => by have := Hxb.out y hy; omega)]
            exact h1.block i (by rw [O3.out]; exact hi) hni
          have HG3 : Hid (Gs w3 (ab + 1) 27 (gs.set p ⟨p, a', (ks ++ [kj]).length, c'⟩) (fun i => if i = p then keysOf (l.take j) many i ++ [kj] else keysOf (l.take j) many i)) := by
            have h1 := HGb.out.push hpg (k := kj) (a' := a') (c' := c') (w' := w3)
            rw [Hx.out] at h1
            simp only [Hks.out] at h1
            exact h1 ho3 hg3 hn3
          clear ho3 hg3 hn3 hst1 hst2 hS0'
          obtain ⟨nl, hnl⟩ : ∃ nl, (ks ++ [kj]).length = nl := ⟨_, rfl⟩
          have hnl2 : nl ≤ 16385 := by rw [← hnl]; simp; omega
          rw [hnl] at HG3 ⊢
          clear hnl
          go_step
          refine hK _ _ ⟨fun _ => hS2', ?_⟩
          clear hK K
          have f1 := HB3.out.free p
          have c2 := hS2'.1
          repeat (first | (refine Go.XR.S_heavy (fun K hK => ?_); go_step; refine hK _ _ ⟨fun h => by simp at h, ?_⟩; clear hK K))
          refine Go.XR.S_nil ?_
          go_wp2
          go_roundg (l.length - (j + 1))
          case measure => have := hr.out.1; omega
          case rel =>
            refine ⟨Hbt.out.setCell (.inl (by simp)) _, j + 1, gs.set p ⟨p, a', nl, c'⟩, by omega, by go_num, rfl, by rw [List.length_set]; exact hr.out.2.1, ?_, ?_⟩
            · have h1 := HB3.out.set p (.slice a' nl c')
              conv at h1 => arg 3; rw [show p = p * 1 + 0 by omega]
              rw [flat_setk (enc := grpS) (k := 1) (fun _ => rfl) gs hpg (by omega) (.slice a' nl c') ⟨p, a', nl, c'⟩ rfl] at h1
              exact h1
            · have h1 := HG3.out
              rw [show (fun i => if i = p then keysOf (l.take j) many i ++ [kj] else keysOf (l.take j) many i) = fun i => keysOf (l.take (j + 1)) many i from funext fun i => (HK.out i).symm] at h1
              exact h1.but ((But.refl [ab] w3).setCell (.inl (by simp)) _) (by simp)
        · have hge : ¬ (j : Int) < (l.length : Int) := by omega
          have HBf := Lib.hid hr.out.2.2.1
          have HGf : Hid (Gs wr (ab + 1) 27 gs (fun i => keysOf l many i)) := by
            have h1 := hr.out.2.2.2
            rw [List.take_of_length_le (by omega : l.length ≤ j)] at h1
            exact h1
          have Hgl := Lib.hid hr.out.2.1
          clear hr hlt hj
          obtain ⟨C3, hC3, hmk3⟩ := make_any (P := Try.prog) (enc := fun b : Bool => [Value.bool b]) (k := 1) (fun _ => rfl) false 38 4 1 Try.underlying38 (by kernel_rfl) l.length (by omega) (by omega)
          have HC3 : Hid (C3.toList = boolsL (List.replicate l.length false)) := by
            unfold Hid; rw [hC3]; unfold boolsL
            generalize List.replicate l.length false = q
            induction q with
            | nil => rfl
            | cons a q ih => rw [List.flatMap_cons, List.map_cons, ih]; rfl
          clear hC3
          go_wp2_with fail
          clear hmk3
          have hzw := Hb.out.size
          rw [O3.out] at hzw
          have hba : Below wr.heap.size wr (wr.alloc (.cells C3 4)) := (Below.refl _ _).alloc (Nat.le_refl _) _
          have HTa : Hid (Blk (wr.alloc (.cells C3 4)) wr.heap.size (boolsL (startS l.length many).taken)) := by have h := Blk.new wr C3 4; rw [HC3.out] at h; exact h
          have hord := order_any (wr.alloc (.cells C3 4)) ab many many (gs.map fun g => (g.sl, g.len, g.cap)) (by rw [List.flatMap_map]; exact HBf.out.below hba) (by rw [List.length_map]; exact Hgl.out) (by omega) (fun i => (keysOf l many i).length) (fun i h => by rw [List.getElem_map]; exact HGf.out.len i (by simpa using h)) (fun i => Nat.le_trans (List.length_filter_le _ _) hl3)
          refine hord.mono ?_
          rintro e W4 ⟨oa, oc, rfl, hown, hb4⟩
          have hs4 := hb4.size
          have Hb4 := Lib.hid (hba.trans (hb4.mono (by simp)))
          have HX : Hid (∀ i, i < many → ∃ xs xc, (gs.flatMap grpS)[i]? = some (.slice xs (keysOf l many i).length xc) ∧ (keysOf l many i).length ≤ xc ∧ Row W4 xs ((keysOf l many i).flatMap keyL) ∧ ∀ x, xs = some x → ab < x.block ∧ x.block < wr.heap.size) := fun i hi => by
            have hi' : i < gs.length := by rw [Hgl.out]; exact hi
            have ho := HGf.out.own i hi'
            have hle := HGf.out.len i hi'
            refine ⟨gs[i].sl, gs[i].cap, ?_, ?_, ?_, fun x hx => ?_⟩
            · have h1 := flat_get (enc := grpS) (k := 1) (fun _ => rfl) gs (j := 0) hi' (by omega)
              rw [Nat.mul_one, Nat.add_zero] at h1
              rw [h1, ← hle]; rfl
            · have := owns_le ho; rw [hle] at this; exact this
            · exact (Row.owned ho).below Hb4.out
            · rw [hx] at ho
              obtain ⟨h5, h6⟩ := owns_lt ho
              exact ⟨by omega, h6⟩
          have HB4 := Lib.hid (HBf.out.below Hb4.out)
          have HT4 := Lib.hid (HTa.out.below hb4)
          have HD4 : Hid (Blk W4 db ((startS l.length many).tries.flatMap u64L)) := (HD0.out.but Hb.out (by simp; omega)).below Hb4.out
          have HM4 := Lib.hid ((HM0.out.but Hb.out (by simp; omega)).below Hb4.out)
          have HV4 := Lib.hid ((HVA.out.but Hb.out (by simp; omega)).below Hb4.out)
          have HbW := Lib.hid (HbA.out.trans ((Hb.out.below (B := w.heap.size) (by rw [O3.out, Hvb.out]; omega) (by rw [Hvb.out]; simp; omega)).trans (Hb4.out.mono (by rw [Hvb.out]; omega))))
          have hown1 := hown
          rw [show (wr.alloc (.cells C3 4)).heap.size = wr.heap.size + 1 by simp] at hown1 hs4
          have HOw := Lib.hid hown1
          clear hown hown1 hb4 hord hba HC3 HTa HBf HGf Hgl HM0 HD0 HVA HbA Hb Hb4
          obtain ⟨tb, htb⟩ : ∃ tb, wr.heap.size = tb := ⟨_, rfl⟩
          rw [htb] at HOw HT4 HX hs4 hzw ⊢
          clear htb
          have HO := Lib.hid (Row.owned HOw.out)
          have HOb : Hid (∀ x, oa = some x → tb < x.block ∧ x.block < W4.heap.size) := fun x hx => by
            have h1 := HOw.out
            rw [hx] at h1
            have := owns_lt h1
            exact ⟨by omega, this.2⟩
          have Hond : Hid (orderD (fun i => (keysOf l many i).length) many).Nodup := order_nodup _ _
          have Homem : Hid (∀ i, i ∈ orderD (fun i => (keysOf l many i).length) many → i < many ∧ keysOf l many i ≠ []) := fun i hi => by
            have h1 := (orderD_mem _ _ _).1 hi
            exact ⟨h1.1, List.length_pos_iff.1 h1.2⟩
          have Hole : Hid ((orderD (fun i => (keysOf l many i).length) many).length ≤ many) := nodup_le Hond.out fun i hi => (Homem.out i hi).1
          have Hrn : Hid (runS l many = (orderD (fun i => (keysOf l many i).length) many).foldl (stepS (keysOf l many)) (startS l.length many)) := rfl
          generalize orderD (fun i => (keysOf l many i).length) many = O at *
          have hol := Hole.out
          have Hst0 := Lib.hid (fold_len (keysOf l many))
          clear HOw
          go_wp2_with fail
          go_loopg [11] O.length (fun n i w1 => But [db, mb, tb] W4 w1 ∧ ∃ (j : Nat) (st : St) (sa : Option Addr) (sc : Nat), j ≤ O.length ∧ i = .int .i64 j ∧ Hid (n = O.length - j ∧ st = (O.take j).foldl (stepS (keysOf l many)) (startS l.length many) ∧ Blk w1 db (st.tries.flatMap u64L) ∧ Blk w1 mb [.int .i64 l.length, .slice (some ⟨db, 0, none⟩) many many, .slice sa st.late.length sc, .slice none 0 0] ∧ Blk w1 tb (boolsL st.taken) ∧ w1.ownsRow W4.heap.size 27 33 (.slice sa st.late.length sc) st.late.length (st.late.flatMap keyL) ∧ st.late.length ≤ j * 16384))
          case atStart => exact ⟨But.refl _ _, 0, startS l.length many, none, 0, by omega, rfl, rfl, rfl, HD4.out, HM4.out, HT4.out, ⟨rfl, .inl ⟨rfl, rfl⟩⟩, Nat.zero_le _⟩
          case round =>
            clear HD4 HT4
            obtain ⟨hb, j, st, sa, sc, hj, rfl, hr⟩ := hrel
            have Hb := Lib.hid hb
            clear hb
            have hzg := Hb.out.size
            have Hst := Lib.hid hr.out.2.1
            have HD1 := Lib.hid hr.out.2.2.1
            have HM1 := Lib.hid hr.out.2.2.2.1
            have HT1 := Lib.hid hr.out.2.2.2.2.1
            have HL1 := Lib.hid hr.out.2.2.2.2.2.1
            have hlb := hr.out.2.2.2.2.2.2
            have hgn := hr.out.1
            have Htl : Hid (st.taken.length = l.length ∧ st.tries.length = many) := by
              have h1 := Hst0.out (O.take j) (startS l.length many)
              rw [← Hst.out] at h1
              exact ⟨h1.1.trans (by simp [startS]), h1.2.trans (by simp [startS])⟩
            clear hr
            by_cases hlt : j < O.length
            · have hlt2 : (j : Int) < (O.length : Int) := by omega
              have Htk : Hid (O.take (j + 1) = O.take j ++ [O[j]]) := List.take_succ_eq_append_getElem hlt
              have Hmx := Lib.hid (Homem.out O[j] (List.getElem_mem hlt))
              have Ht0 : Hid (st.tries[O[j]]? = some 0) := by
                unfold Hid
                rw [Hst.out, fold_other (keysOf l many) (O.take j) (startS l.length many) O[j] (not_mem_take Hond.out hlt)]
                simp [startS, Hmx.out.1]
              obtain ⟨og, oo, rfl⟩ : ∃ og oo, oa = some ⟨og, oo, none⟩ := by
                rcases HO.out with h | ⟨g, o, h, _⟩
                · have h2 := flat_len (enc := intL) (k := 1) (fun _ => rfl) O
                  rw [h] at h2; simp at h2; omega
                · exact ⟨g, o, h⟩
              have hog := HOb.out _ rfl
              dsimp only at hog
              have Hoc : Hid (W4.cell? ⟨og, oo + j, none⟩ = some (.int .i64 (O[j] : Nat))) := by
                obtain ⟨_, _, he, h3⟩ := HO.out.get (j := j) (u := .int .i64 (O[j] : Nat)) (by
                  have h2 := flat_get (enc := intL) (k := 1) (fun _ => rfl) O (j := 0) hlt (by omega)
                  rw [Nat.mul_one, Nat.add_zero] at h2
                  rw [h2]; rfl)
                cases he
                exact h3
              obtain ⟨xa, hxa⟩ : ∃ xa, O[j] = xa := ⟨_, rfl⟩
              rw [hxa] at Htk Hmx Ht0 Hoc
              clear hxa
              obtain ⟨xs, xc, hx1, hx2, hx3, hx4⟩ := HX.out xa Hmx.out.1
              have Hxc : Hid (W4.cell? ⟨ab, xa, none⟩ = some (.slice xs (keysOf l many xa).length xc)) := HB4.out.cell hx1
              have Hxr := Lib.hid hx3
              have Hxb := Lib.hid hx4
              have hkl : (keysOf l many xa).length ≤ 16384 := Nat.le_trans (List.length_filter_le _ _) hl3
              obtain ⟨ks, hks⟩ : ∃ ks, keysOf l many xa = ks := ⟨_, rfl⟩
              have Hkn : Hid (0 < l.length) := by
                have h2 := List.length_pos_iff.2 Hmx.out.2
                have h3 : (keysOf l many xa).length ≤ l.length := List.length_filter_le _ _
                unfold Hid; omega
              rw [hks] at Hxc Hxr hkl Hmx hx2
              have Hks := Lib.hid hks
              clear hx1 hx3 hx4 hks
              have c1 := Hb.out.cell Hoc.out (by simp; omega)
              have c2 := Hb.out.cell Hxc.out (by simp; omega)
              have hxm := Hmx.out.1
              go_wp2
              have HBb := Hb
              clear c1 c2
              obtain ⟨W5, hW5⟩ : ∃ W5, W5 = wr := ⟨_, rfl⟩
              rw [← hW5] at Hb hzg HD1 HM1 HT1 HL1 HBb ⊢
              clear hW5
              have Hz0 : Hid (st.tries.set xa 0 = st.tries) := by
                unfold Hid
                refine List.ext_getElem? fun i => ?_
                rw [List.getElem?_set]
                by_cases c : xa = i
                · subst c; rw [if_pos rfl, if_pos (by rw [Htl.out.2]; exact Hmx.out.1)]; exact Ht0.out.symm
                · rw [if_neg c]
              have Hxl : Hid (∀ v, (st.tries.set xa v).flatMap u64L = (st.tries.flatMap u64L).set xa (.int .u64 v)) := fun v => by
                have h1 := flat_setk (enc := u64L) (k := 1) (fun _ => rfl) st.tries (i := xa) (j := 0) (by rw [Htl.out.2]; exact Hmx.out.1) (by omega) (.int .u64 v) v rfl
                rw [Nat.mul_one, Nat.add_zero] at h1
                exact h1.symm
              have Hxg : Hid (∀ v : Nat, ((st.tries.set xa v).flatMap u64L)[xa]? = some (.int .u64 (v : Int))) := fun v => by
                rw [Hxl.out, List.getElem?_set_self (by rw [flat_len (enc := u64L) (k := 1) (fun _ => rfl), Htl.out.2, Nat.mul_one]; exact Hmx.out.1)]
              have HD1' : Hid (Blk W5 db ((st.tries.set xa 0).flatMap u64L)) := by unfold Hid; rw [Hz0.out]; exact HD1.out
              go_loopg [13] 256 (fun n d w5 => But [db, tb] W5 w5 ∧ ∃ (dd tv : Nat) (tk2 : List Bool), 1 ≤ dd ∧ dd ≤ 257 ∧ tv ≤ 256 ∧ d = .int .u64 dd ∧ Hid (n = 257 - dd ∧ Blk w5 db ((st.tries.set xa tv).flatMap u64L) ∧ Blk w5 tb (boolsL tk2) ∧ ((tv = 0 ∧ tk2 = st.taken ∧ ∀ i, i + 1 < dd → tryD st.taken ks (i + 1) = false) ∨ (0 < tv ∧ stepS (keysOf l many) st xa = ⟨st.tries.set xa tv, tk2, st.late⟩))))
              case atStart => exact ⟨But.refl _ _, 1, 0, st.taken, by omega, by omega, by omega, by go_num, rfl, HD1'.out, HT1.out, .inl ⟨rfl, rfl, fun i hi => by omega⟩⟩
              case round =>
                clear HBb HD1'
                obtain ⟨hb5, dd, tv, tk2, hd1, hd2, htv, rfl, hr⟩ := hrel
                have Hb5 := Lib.hid hb5
                clear hb5
                have Hb45 : Hid (But [db, mb, tb] W4 wr) := Hb.out.trans (Hb5.out.mono (by simp))
                have HM5 : Hid (Blk wr mb [.int .i64 l.length, .slice (some ⟨db, 0, none⟩) many many, .slice sa st.late.length sc, .slice none 0 0]) := HM1.out.but Hb5.out (by simp; omega)
                have HL5 := Lib.hid (owns_but HL1.out Hb5.out (by simp; omega))
                have HD5 := Lib.hid hr.out.2.1
                have HT5 := Lib.hid hr.out.2.2.1
                have Hdis := Lib.hid hr.out.2.2.2
                have hgd := hr.out.1
                clear hr
                have o1 := Hb45.out.cell Hoc.out (by simp; omega)
                have m1 := HM5.out.cell (i := 1) rfl
                have t1 := HD5.out.cell (Hxg.out tv)
                have hz5 := Hb45.out.size
                by_cases hlt3 : dd ≤ 256
                · have hlt4 : (dd : Int) ≤ 256 := by omega
                  have hlt5 : decide ((dd : Int) ≤ 256) = true := decide_eq_true hlt4
                  by_cases htv0 : tv = 0
                  · subst htv0
                    obtain ⟨rfl, htf⟩ : tk2 = st.taken ∧ ∀ i, i + 1 < dd → tryD st.taken ks (i + 1) = false := by
                      rcases Hdis.out with h | h
                      · exact h.2
                      · omega
                    have Htf := Lib.hid htf
                    clear htf Hdis
                    have hlf : st.taken.length < 2^40 := by have := Htl.out.1; omega
                    have hfit := fits_any wr.drew xs xc ks (Hxr.out.but Hb45.out.drew (fun g' o' e => by have h : ab < g' ∧ g' < tb := Hxb.out _ e; simp; omega)) hkl (dd : Int) (by omega) tb l.length st.taken (HT5.out.heap rfl) hlf (fun _ => by rw [Htl.out.1]; exact Hkn.out)
                    clear hlf
                    rw [Htl.out.1] at hfit
                    have Hfit := Lib.hid hfit
                    have Hfd : Hid (fitsB st.taken (ks.map (pos (dd : Int) l.length)) = tryD st.taken ks (dd - 1 + 1)) := by
                      unfold Hid tryD; rw [Htl.out.1, show dd - 1 + 1 = dd by omega]
                    clear hfit
                    go_wp2
                    refine Go.XR.region_sched ((· = wr.drew)) [(0, true), (1, true), (2, true), (3, true), (4, true), (5, true), (6, true), (7, true), (8, true), (9, false), (10, false), (11, false), (12, false)] [9, 10, 11, 12] Try.mixed (by kernel_rfl) (by kernel_rfl) (by kernel_rfl) ?_
                    simp only [List.map_cons, List.map_nil, List.getElem?_cons_succ, List.getElem?_cons_zero]
                    repeat (first | (refine Go.XR.S_light rfl rfl rfl ?_ (fun w' hS K hK => ?_) (fun K hK => ?_); rotate_left 1; (cases hS; (first | (refine Go.XR.wp_load_at 27 _ rfl g (o + j * 33) rfl (keyC kj) hS2 _ Try.underlying27 rfl (keySize kj) ?_) | go_step); exact hK); go_step; refine hK _ ?_; clear hK K) | (refine Go.XR.S_light_off rfl rfl (fun K hK => ?_); go_step; refine hK _ ?_; clear hK K) | (refine Go.XR.S_light_on rfl rfl rfl rfl ?_ (fun w' hS K hK => ?_) (fun K hK => ?_); rotate_left 1; (cases hS; (first | (refine Go.XR.wp_load_at 27 _ rfl g (o + j * 33) rfl (keyC kj) hS2 _ Try.underlying27 rfl (keySize kj) ?_) | go_step); exact hK); go_step; refine hK _ ?_; clear hK K))
                    repeat (first | (refine Go.XR.S_heavy (fun K hK => ?_); go_step; refine hK _ _ ⟨fun h => by simp at h, ?_⟩; clear hK K) | (refine Go.XR.S_heavy_off rfl (fun h => by simp at h) (fun K hK => ?_); go_step; refine hK _ ?_; clear hK K) | (refine Go.XR.S_heavy_on rfl (fun K hK => ?_); go_step; refine hK _ _ ⟨fun h => by simp at h, ?_⟩; clear hK K))
                    refine Go.XR.S_nil ?_
                    go_wp2_with fail
                    refine Hfit.out.mono ?_
                    rintro e w6 ⟨hb6, h6⟩
                    rw [Hfd.out] at h6
                    have Hb6 : Hid (But [db, tb] W5 w6) := (Hb5.out.drew).trans (But.of_below hb6)
                    have Hb46 : Hid (But [db, mb, tb] W4 w6) := (Hb45.out.drew).trans (But.of_below hb6)
                    have HM6 := Lib.hid ((HM5.out.heap (w' := wr.drew) rfl).below hb6)
                    have HD6 := Lib.hid ((HD5.out.heap (w' := wr.drew) rfl).below hb6)
                    have HT6 := Lib.hid ((HT5.out.heap (w' := wr.drew) rfl).below hb6)
                    have hz6 := hb6.size
                    have Hbb6 := Lib.hid hb6
                    clear hb6 o1 m1 t1
                    cases hv : tryD st.taken ks (dd - 1 + 1) with
                    | false =>
                      rw [hv] at h6
                      obtain rfl : e = _ := h6
                      have Hv := Lib.hid hv
                      clear hv
                      go_wp2
                      go_loopg [16] 0 (fun n i w7 => w6 = w7 ∧ i = .int .i64 0)
                      case atStart => exact ⟨rfl, rfl⟩
                      case round =>
                        obtain ⟨rfl, rfl⟩ := hrel
                        go_wp2
                        go_roundg (257 - (dd + 1))
                        case measure => omega
                        case rel => exact ⟨Hb6.out, dd + 1, 0, st.taken, by omega, by omega, by omega, by go_num, rfl, HD6.out, HT6.out, .inl ⟨rfl, rfl, fun i hi => by
                          by_cases c : i + 1 < dd
                          · exact Htf.out i c
                          · rw [show i = dd - 1 by omega]; exact Hv.out⟩⟩
                    | true =>
                      rw [hv] at h6
                      obtain ⟨pa, pc, rfl, hown6⟩ : ∃ a c, e = _ ∧ w6.ownsRow wr.drew.heap.size 3 1 (.slice a (ks.map (pos (dd : Int) l.length)).length c) (ks.map (pos (dd : Int) l.length)).length ((ks.map (pos (dd : Int) l.length)).flatMap intL) := h6
                      have Hfs : Hid (stepS (keysOf l many) st xa = ⟨st.tries.set xa dd, markB true st.taken (ks.map (pos (dd : Int) l.length)), st.late⟩) := by
                        have h1 := findD_some (tk := st.taken) (keys := ks) (j := dd - 1) (by omega) (fun i hi => Htf.out i (by omega)) hv
                        unfold Hid stepS
                        rw [Hks.out, h1, Htl.out.1]
                        dsimp only
                        rw [show dd - 1 + 1 = dd by omega]
                      have Hpl : Hid (∀ p ∈ ks.map (pos (dd : Int) l.length), p < l.length) := fun p hp => by
                        obtain ⟨k, _, rfl⟩ := List.mem_map.1 hp
                        exact pos_lt _ Hkn.out _
                      have hpsl : (ks.map (pos (dd : Int) l.length)).length ≤ 16384 := by rw [List.length_map]; exact hkl
                      generalize ks.map (pos (dd : Int) l.length) = ps at *
                      have Hown6 := Lib.hid hown6
                      clear hown6 hv
                      have o2 := Hb46.out.cell Hoc.out (by simp; omega)
                      have m2 := HM6.out.cell (i := 1) rfl
                      have t2 := HD6.out.cell (Hxg.out 0)
                      have f2 := HD6.out.free xa
                      go_wp2
                      refine Go.XR.region_sched ((· = w6.drew)) [(0, true), (1, true), (2, true), (3, true), (4, true), (5, true), (6, true), (7, false), (8, false)] [7, 8] Try.mixed (by kernel_rfl) (by kernel_rfl) (by kernel_rfl) ?_
                      simp only [List.map_cons, List.map_nil, List.getElem?_cons_succ, List.getElem?_cons_zero]
                      repeat (first | (refine Go.XR.S_light rfl rfl rfl ?_ (fun w' hS K hK => ?_) (fun K hK => ?_); rotate_left 1; (cases hS; (first | (refine Go.XR.wp_load_at 27 _ rfl g (o + j * 33) rfl (keyC kj) hS2 _ Try.underlying27 rfl (keySize kj) ?_) | go_step); exact hK); go_step; refine hK _ ?_; clear hK K))
                      repeat (first | (refine Go.XR.S_heavy (fun K hK => ?_); go_step; refine hK _ _ ⟨fun h => by simp at h, ?_⟩; clear hK K))
                      refine Go.XR.S_nil ?_
                      clear o2 m2 t2 f2
                      go_wp2
                      obtain ⟨W7, hW7⟩ : ∃ W7, (w6.setCell ⟨db, xa, none⟩ (.int .u64 dd)).drew = W7 := ⟨_, rfl⟩
                      have HD7 : Hid (Blk W7 db ((st.tries.set xa dd).flatMap u64L)) := by
                        unfold Hid
                        rw [← hW7, Hxl.out]
                        have h1 := HD6.out.set xa (.int .u64 dd)
                        rw [Hz0.out] at h1
                        exact h1.heap rfl
                      have HB7 : Hid (But [db, tb] W5 W7) := by unfold Hid; rw [← hW7]; exact (Hb6.out.setCell (.inl (by simp)) _).drew
                      have HT7 : Hid (Blk W7 tb (boolsL st.taken)) := by unfold Hid; rw [← hW7]; exact HT6.out.but ((But.refl [db] _).setCell (.inl (by simp)) _).drew (by simp; omega)
                      have HP7 : Hid (Row W7 pa (ps.flatMap intL)) := by
                        unfold Hid; rw [← hW7]
                        have h1 := Row.owned Hown6.out
                        rcases h1 with h1 | ⟨g', o', he, h1⟩
                        · exact .inl h1
                        · subst he
                          have h2 := (owns_lt Hown6.out).1
                          exact (Row.but (.inr ⟨g', o', rfl, h1⟩) ((But.refl [db] w6).setCell (.inl (by simp)) _).drew (fun g'' o'' e => by cases e; have h3 : wr.heap.size ≤ g' := h2; simp; omega))
                      have HPb : Hid (∀ x, pa = some x → W4.heap.size ≤ x.block) := fun x hx => by
                        have h1 := Hown6.out
                        rw [hx] at h1
                        have h2 : wr.heap.size ≤ x.block := (owns_lt h1).1
                        omega
                      rw [hW7]
                      clear hW7 Hown6 HD6 HT6
                      go_loopg [16] ps.length (fun n i w8 => But [tb] W7 w8 ∧ ∃ q : Nat, q ≤ ps.length ∧ i = .int .i64 q ∧ Hid (n = ps.length - q ∧ Blk w8 tb (boolsL (markB true st.taken (ps.take q)))))
                      case atStart => exact ⟨But.refl _ _, 0, by omega, rfl, rfl, HT7.out⟩
                      case round =>
                        clear HT7
                        obtain ⟨hb8, q, hq, rfl, hr8⟩ := hrel
                        have Hb8 := Lib.hid hb8
                        clear hb8
                        by_cases hlq : q < ps.length
                        · have hlq2 : (q : Int) < (ps.length : Int) := by omega
                          obtain ⟨pg, po, rfl⟩ : ∃ pg po, pa = some ⟨pg, po, none⟩ := by
                            rcases HP7.out with h | ⟨g, o, h, _⟩
                            · have h2 := flat_len (enc := intL) (k := 1) (fun _ => rfl) ps
                              rw [h] at h2; simp at h2; omega
                            · exact ⟨g, o, h⟩
                          have hpb : W4.heap.size ≤ pg := HPb.out _ rfl
                          have hpq := Hpl.out ps[q] (List.getElem_mem hlq)
                          have Htq : Hid (ps.take (q + 1) = ps.take q ++ [ps[q]]) := List.take_succ_eq_append_getElem hlq
                          have p1 : wr.cell? ⟨pg, po + q, none⟩ = some (.int .i64 (ps[q] : Nat)) := by
                            obtain ⟨_, _, he, h3⟩ := HP7.out.get (j := q) (u := .int .i64 (ps[q] : Nat)) (by
                              have h2 := flat_get (enc := intL) (k := 1) (fun _ => rfl) ps (j := 0) hlq (by omega)
                              rw [Nat.mul_one, Nat.add_zero] at h2
                              rw [h2]; rfl)
                            cases he
                            exact Hb8.out.cell h3 (by simp; omega)
                          have hml8 : (markB true st.taken (ps.take q)).length = l.length := (markB_length _ _ _).trans Htl.out.1
                          obtain ⟨tq, htq⟩ : ∃ tq, markB true st.taken (ps.take q) = tq := ⟨_, rfl⟩
                          rw [htq] at hml8
                          have HTq : Hid (Blk wr tb (boolsL tq)) := by have := hr8.out.2; rw [htq] at this; exact this
                          have Hmk : Hid (markB true st.taken (ps.take (q + 1)) = tq.set ps[q] true) := by unfold Hid; rw [Htq.out, markB_snoc, htq]
                          have hgq := hr8.out.1
                          clear htq hr8
                          generalize ps[q] = pq at *
                          have c8 := HTq.out.cell (boolsL_get (i := pq) (by rw [hml8]; exact hpq))
                          have f8 := HTq.out.free pq
                          clear hml8
                          go_wp2
                          go_roundg (ps.length - (q + 1))
                          case measure => omega
                          case rel => exact ⟨Hb8.out.setCell (.inl (by simp)) _, q + 1, by omega, by go_num, rfl, by rw [Hmk.out, ← boolsL_set]; exact HTq.out.set _ _⟩
                        · have hge8 : ¬ (q : Int) < (ps.length : Int) := by omega
                          have HTf : Hid (Blk wr tb (boolsL (markB true st.taken ps))) := by
                            have h1 := hr8.out.2
                            rw [List.take_of_length_le (by omega)] at h1
                            exact h1
                          go_wp2
                          go_roundg (257 - (dd + 1))
                          case measure => omega
                          case rel => exact ⟨HB7.out.trans (Hb8.out.mono (by simp)), dd + 1, dd, markB true st.taken ps, by omega, by omega, by omega, by go_num, rfl, HD7.out.but Hb8.out (by simp; omega), HTf.out, .inr ⟨by omega, Hfs.out⟩⟩
                  · skip
                    have Hfs : Hid (stepS (keysOf l many) st xa = ⟨st.tries.set xa tv, tk2, st.late⟩) := by
                      rcases Hdis.out with h | h
                      · exact absurd h.1 htv0
                      · exact h.2
                    have htv1 : ¬ (tv : Int) = 0 := by omega
                    clear Hdis
                    go_wp2
                    refine Go.XR.region_sched ((· = wr.drew)) [(0, true), (1, true), (2, true), (3, true), (4, true), (5, true), (6, true), (7, true), (8, true), (9, false), (10, false), (11, false), (12, false)] [9, 10, 11, 12] Try.mixed (by kernel_rfl) (by kernel_rfl) (by kernel_rfl) ?_
                    simp only [List.map_cons, List.map_nil, List.getElem?_cons_succ, List.getElem?_cons_zero]
                    repeat (first | (refine Go.XR.S_light rfl rfl rfl ?_ (fun w' hS K hK => ?_) (fun K hK => ?_); rotate_left 1; (cases hS; (first | (refine Go.XR.wp_load_at 27 _ rfl g (o + j * 33) rfl (keyC kj) hS2 _ Try.underlying27 rfl (keySize kj) ?_) | go_step); exact hK); go_step; refine hK _ ?_; clear hK K) | (refine Go.XR.S_light_off rfl rfl (fun K hK => ?_); go_step; refine hK _ ?_; clear hK K) | (refine Go.XR.S_light_on rfl rfl rfl rfl ?_ (fun w' hS K hK => ?_) (fun K hK => ?_); rotate_left 1; (cases hS; (first | (refine Go.XR.wp_load_at 27 _ rfl g (o + j * 33) rfl (keyC kj) hS2 _ Try.underlying27 rfl (keySize kj) ?_) | go_step); exact hK); go_step; refine hK _ ?_; clear hK K))
                    repeat (first | (refine Go.XR.S_heavy (fun K hK => ?_); go_step; refine hK _ _ ⟨fun h => by simp at h, ?_⟩; clear hK K) | (refine Go.XR.S_heavy_off rfl (fun h => by simp at h) (fun K hK => ?_); go_step; refine hK _ ?_; clear hK K) | (refine Go.XR.S_heavy_on rfl (fun K hK => ?_); go_step; refine hK _ _ ⟨fun h => by simp at h, ?_⟩; clear hK K))
                    refine Go.XR.S_nil ?_
                    go_wp2
                    refine Go.XR.region_sched ((· = wr.drew.drew)) [(0, true), (1, true), (2, true), (3, true), (4, true), (5, true), (6, false), (7, false), (8, false)] [6, 7, 8] Try.mixed (by kernel_rfl) (by kernel_rfl) (by kernel_rfl) ?_
                    simp only [List.map_cons, List.map_nil, List.getElem?_cons_succ, List.getElem?_cons_zero]
                    repeat (first | (refine Go.XR.S_light rfl rfl rfl ?_ (fun w' hS K hK => ?_) (fun K hK => ?_); rotate_left 1; (cases hS; (first | (refine Go.XR.wp_load_at 27 _ rfl g (o + j * 33) rfl (keyC kj) hS2 _ Try.underlying27 rfl (keySize kj) ?_) | go_step); exact hK); go_step; refine hK _ ?_; clear hK K))
                    repeat (first | (refine Go.XR.S_heavy (fun K hK => ?_); go_step; refine hK _ _ ⟨fun h => by simp at h, ?_⟩; clear hK K))
                    refine Go.XR.S_nil ?_
                    go_wp2
                    go_roundg (O.length - (j + 1))
                    case measure => omega
                    case rel =>
                      refine ⟨Hb45.out.drew.drew, j + 1, ⟨st.tries.set xa tv, tk2, st.late⟩, sa, sc, by omega, by go_num, rfl, ?_, HD5.out.heap rfl, HM5.out.heap rfl, HT5.out.heap rfl, HL5.out.drew.drew, by show st.late.length ≤ _; omega⟩
                      rw [Htk.out, List.foldl_append, ← Hst.out]; exact Hfs.out.symm
                · have hge3 : ¬ (dd : Int) ≤ 256 := by omega
                  have hlt5 : decide ((dd : Int) ≤ 256) = false := decide_eq_false hge3
                  by_cases htv0 : tv = 0
                  · subst htv0
                    obtain ⟨rfl, htf⟩ : tk2 = st.taken ∧ ∀ i, i + 1 < dd → tryD st.taken ks (i + 1) = false := by
                      rcases Hdis.out with h | h
                      · exact h.2
                      · omega
                    have Hfs : Hid (stepS (keysOf l many) st xa = ⟨st.tries, st.taken, st.late ++ ks⟩) := by
                      have h1 := findD_none (tk := st.taken) (keys := ks) (fun i hi => htf i (by omega))
                      unfold Hid stepS
                      rw [Hks.out, h1]
                    clear htf Hdis
                    obtain ⟨g2, o2, rfl⟩ := row_some Hxr.out (List.length_pos_iff.2 Hmx.out.2)
                    have HX5 := Lib.hid (Hxr.out.but Hb45.out.drew.drew (fun g' o' e => by have h : ab < g' ∧ g' < tb := Hxb.out _ e; simp; omega))
                    have m3 := HM5.out.cell (i := 2) rfl
                    go_wp2
                    refine Go.XR.region_sched ((· = wr.drew)) [(0, true), (1, true), (2, true), (3, true), (4, true), (5, true), (6, true), (7, true), (8, true), (9, false), (10, false), (11, false), (12, false)] [9, 10, 11, 12] Try.mixed (by kernel_rfl) (by kernel_rfl) (by kernel_rfl) ?_
                    simp only [List.map_cons, List.map_nil, List.getElem?_cons_succ, List.getElem?_cons_zero]
                    repeat (first | (refine Go.XR.S_light rfl rfl rfl ?_ (fun w' hS K hK => ?_) (fun K hK => ?_); rotate_left 1; (cases hS; (first | (refine Go.XR.wp_load_at 27 _ rfl g (o + j * 33) rfl (keyC kj) hS2 _ Try.underlying27 rfl (keySize kj) ?_) | go_step); exact hK); go_step; refine hK _ ?_; clear hK K) | (refine Go.XR.S_light_off rfl rfl (fun K hK => ?_); go_step; refine hK _ ?_; clear hK K) | (refine Go.XR.S_light_on rfl rfl rfl rfl ?_ (fun w' hS K hK => ?_) (fun K hK => ?_); rotate_left 1; (cases hS; (first | (refine Go.XR.wp_load_at 27 _ rfl g (o + j * 33) rfl (keyC kj) hS2 _ Try.underlying27 rfl (keySize kj) ?_) | go_step); exact hK); go_step; refine hK _ ?_; clear hK K))
                    repeat (first | (refine Go.XR.S_heavy (fun K hK => ?_); go_step; refine hK _ _ ⟨fun h => by simp at h, ?_⟩; clear hK K) | (refine Go.XR.S_heavy_off rfl (fun h => by simp at h) (fun K hK => ?_); go_step; refine hK _ ?_; clear hK K) | (refine Go.XR.S_heavy_on rfl (fun K hK => ?_); go_step; refine hK _ _ ⟨fun h => by simp at h, ?_⟩; clear hK K))
                    refine Go.XR.S_nil ?_
                    go_wp2
                    refine Go.XR.region_sched ((· = wr.drew.drew)) [(0, true), (1, true), (2, true), (3, true), (4, true), (5, true), (6, false), (7, false), (8, false)] [6, 7, 8] Try.mixed (by kernel_rfl) (by kernel_rfl) (by kernel_rfl) ?_
                    simp only [List.map_cons, List.map_nil, List.getElem?_cons_succ, List.getElem?_cons_zero]
                    repeat (first | (refine Go.XR.S_light rfl rfl rfl ?_ (fun w' hS K hK => ?_) (fun K hK => ?_); rotate_left 1; (cases hS; (first | (refine Go.XR.wp_load_at 27 _ rfl g (o + j * 33) rfl (keyC kj) hS2 _ Try.underlying27 rfl (keySize kj) ?_) | go_step); exact hK); go_step; refine hK _ ?_; clear hK K))
                    repeat (first | (refine Go.XR.S_heavy (fun K hK => ?_); go_step; refine hK _ _ ⟨fun h => by simp at h, ?_⟩; clear hK K))
                    refine Go.XR.S_nil ?_
                    go_wp2_with (at_builtin; refine Go.XR.stop (fun X hX => ?_))
                    refine hX.out ?_
                    clear hX X
                    refine wpList_plain rfl (fun K hK => ?_)
                    refine append_enc (P := Try.prog) keyL 33 36 keyL_length one_keyL 27 Try.underlying31 (by kernel_rfl) (by decide) W4.heap.size sa sc st.late rfl HL5.out.drew.drew (some ⟨g2, o2, none⟩) xc ks rfl HX5.out (fun e => by cases e) (by omega) (by unfold maxLen; omega) hz5 ?_
                    intro a' c' w6 ho6 hb6 hnil6 hg6
                    have HB6 : Hid (But [db, mb, tb] W4 w6) := Hb45.out.drew.drew.trans_below hb6
                    have HD6 : Hid (Blk w6 db (st.tries.flatMap u64L)) := by
                      have h1 := HD5.out
                      rw [Hz0.out] at h1
                      exact (h1.heap (w' := wr.drew.drew) rfl).heap (hb6.block db (by omega))
                    have HT6 : Hid (Blk w6 tb (boolsL st.taken)) := (HT5.out.heap (w' := wr.drew.drew) rfl).heap (hb6.block tb (by omega))
                    have HM6 : Hid (Blk w6 mb [.int .i64 l.length, .slice (some ⟨db, 0, none⟩) many many, .slice sa st.late.length sc, .slice none 0 0]) := (HM5.out.heap (w' := wr.drew.drew) rfl).heap (hb6.block mb (by omega))
                    have Ho6 := Lib.hid ho6
                    have Hll : Hid ((st.late ++ ks).length ≤ (j + 1) * 16384) := by unfold Hid; rw [List.length_append]; omega
                    clear ho6 hb6 hnil6 hg6 o1 m1 t1 m3
                    obtain ⟨L6, hL6⟩ : ∃ L6, st.late ++ ks = L6 := ⟨_, rfl⟩
                    rw [hL6] at Hfs Ho6 Hll ⊢
                    clear hL6
                    have m4 := HM6.out.cell (i := 2) rfl
                    have f4 := HM6.out.free 2
                    go_wp2
                    go_roundg (O.length - (j + 1))
                    case measure => omega
                    case rel =>
                      refine ⟨HB6.out.setCell (.inl (by simp)) _, j + 1, ⟨st.tries, st.taken, L6⟩, a', c', by omega, by go_num, rfl, ?_, ?_, HM6.out.set 2 _, ?_, ?_, Hll.out⟩
                      · rw [Htk.out, List.foldl_append, ← Hst.out]; exact Hfs.out.symm
                      · exact HD6.out.but ((But.refl [mb] w6).setCell (.inl (by simp)) _) (by simp; omega)
                      · exact HT6.out.but ((But.refl [mb] w6).setCell (.inl (by simp)) _) (by simp; omega)
                      · exact owns_but Ho6.out ((But.refl [mb] w6).setCell (.inl (by simp)) _) (by simp; omega)
                  · skip
                    have Hfs : Hid (stepS (keysOf l many) st xa = ⟨st.tries.set xa tv, tk2, st.late⟩) := by
                      rcases Hdis.out with h | h
                      · exact absurd h.1 htv0
                      · exact h.2
                    have htv1 : ¬ (tv : Int) = 0 := by omega
                    clear Hdis
                    go_wp2
                    refine Go.XR.region_sched ((· = wr.drew)) [(0, true), (1, true), (2, true), (3, true), (4, true), (5, true), (6, true), (7, true), (8, true), (9, false), (10, false), (11, false), (12, false)] [9, 10, 11, 12] Try.mixed (by kernel_rfl) (by kernel_rfl) (by kernel_rfl) ?_
                    simp only [List.map_cons, List.map_nil, List.getElem?_cons_succ, List.getElem?_cons_zero]
                    repeat (first | (refine Go.XR.S_light rfl rfl rfl ?_ (fun w' hS K hK => ?_) (fun K hK => ?_); rotate_left 1; (cases hS; (first | (refine Go.XR.wp_load_at 27 _ rfl g (o + j * 33) rfl (keyC kj) hS2 _ Try.underlying27 rfl (keySize kj) ?_) | go_step); exact hK); go_step; refine hK _ ?_; clear hK K) | (refine Go.XR.S_light_off rfl rfl (fun K hK => ?_); go_step; refine hK _ ?_; clear hK K) | (refine Go.XR.S_light_on rfl rfl rfl rfl ?_ (fun w' hS K hK => ?_) (fun K hK => ?_); rotate_left 1; (cases hS; (first | (refine Go.XR.wp_load_at 27 _ rfl g (o + j * 33) rfl (keyC kj) hS2 _ Try.underlying27 rfl (keySize kj) ?_) | go_step); exact hK); go_step; refine hK _ ?_; clear hK K))
                    repeat (first | (refine Go.XR.S_heavy (fun K hK => ?_); go_step; refine hK _ _ ⟨fun h => by simp at h, ?_⟩; clear hK K) | (refine Go.XR.S_heavy_off rfl (fun h => by simp at h) (fun K hK => ?_); go_step; refine hK _ ?_; clear hK K) | (refine Go.XR.S_heavy_on rfl (fun K hK => ?_); go_step; refine hK _ _ ⟨fun h => by simp at h, ?_⟩; clear hK K))
                    refine Go.XR.S_nil ?_
                    go_wp2
                    refine Go.XR.region_sched ((· = wr.drew.drew)) [(0, true), (1, true), (2, true), (3, true), (4, true), (5, true), (6, false), (7, false), (8, false)] [6, 7, 8] Try.mixed (by kernel_rfl) (by kernel_rfl) (by kernel_rfl) ?_
                    simp only [List.map_cons, List.map_nil, List.getElem?_cons_succ, List.getElem?_cons_zero]
                    repeat (first | (refine Go.XR.S_light rfl rfl rfl ?_ (fun w' hS K hK => ?_) (fun K hK => ?_); rotate_left 1; (cases hS; (first | (refine Go.XR.wp_load_at 27 _ rfl g (o + j * 33) rfl (keyC kj) hS2 _ Try.underlying27 rfl (keySize kj) ?_) | go_step); exact hK); go_step; refine hK _ ?_; clear hK K))
                    repeat (first | (refine Go.XR.S_heavy (fun K hK => ?_); go_step; refine hK _ _ ⟨fun h => by simp at h, ?_⟩; clear hK K))
                    refine Go.XR.S_nil ?_
                    go_wp2
                    go_roundg (O.length - (j + 1))
                    case measure => omega
                    case rel =>
                      refine ⟨Hb45.out.drew.drew, j + 1, ⟨st.tries.set xa tv, tk2, st.late⟩, sa, sc, by omega, by go_num, rfl, ?_, HD5.out.heap rfl, HM5.out.heap rfl, HT5.out.heap rfl, HL5.out.drew.drew, by show st.late.length ≤ _; omega⟩
                      rw [Htk.out, List.foldl_append, ← Hst.out]; exact Hfs.out.symm
            · have hge2 : ¬ (j : Int) < (O.length : Int) := by omega
              have Hrun : Hid (st = runS l many) := by
                unfold Hid; rw [Hst.out, List.take_of_length_le (by omega)]; exact Hrn.out.symm
              have HVx := Lib.hid (HV4.out.but Hb.out (by simp; omega))
              have HBx := Lib.hid (HbW.out.trans (Hb.out.below (B := w.heap.size) (by rw [Hvb.out]; omega) (by rw [Hvb.out]; simp; omega)))
              have Hnd2 : Hid (st.late.Nodup ∧ st.taken.count false = st.late.length ∧ st.taken.length = l.length ∧ st.tries.length = many) := ⟨by rw [Hrun.out]; exact run_nodup Hnd.out _, by rw [Hrun.out]; exact run_count l hmp, Htl.out⟩
              clear HV4 HbW HX HB4 HO HOb Hond Homem Hole Hrn Hst0 Hst Htl hge hlt
              obtain ⟨tr, tk, lt⟩ := st
              dsimp only at *
              generalize hll : lt.length = ll at *
              have Hll := Lib.hid hll
              clear hll
              go_wp2
              clear hge2
              obtain ⟨W8, hW8⟩ : ∃ W8, W8 = wr := ⟨_, rfl⟩
              rw [← hW8] at Hb hzg HD1 HM1 HT1 HL1 HVx HBx ⊢
              clear hW8
              go_loopg [18, 17] ll (fun n i p w9 => But [mb] W8 w9 ∧ ∃ (j : Nat) (P : List Nat) (ta : Option Addr) (tc : Nat), j ≤ ll ∧ i = .int .i64 j ∧ p = .int .i64 (atF tk 0 (lt.take j) : Nat) ∧ Hid (n = ll - j ∧ P = (spillF tk 0 (lt.take j)).map (·.2) ∧ P.length = j ∧ Blk w9 mb [.int .i64 l.length, .slice (some ⟨db, 0, none⟩) many many, .slice sa ll sc, .slice ta P.length tc] ∧ w9.ownsRow W8.heap.size 3 1 (.slice ta P.length tc) P.length (P.flatMap intL)))
              case atStart => exact ⟨But.refl _ _, 0, [], none, 0, by omega, rfl, rfl, rfl, rfl, rfl, HM1.out, rfl, .inl ⟨rfl, rfl⟩⟩
              case round =>
                obtain ⟨hb9, j3, P, ta, tc, hj3, rfl, rfl, hr⟩ := hrel
                have Hb9 := Lib.hid hb9
                clear hb9
                obtain ⟨a, ha⟩ : ∃ a, atF tk 0 (lt.take j3) = a := ⟨_, rfl⟩
                rw [ha]
                have Ha := Lib.hid ha
                clear ha
                have HP := Lib.hid hr.out.2.1
                have HPl := Lib.hid hr.out.2.2.1
                have HM9 := Lib.hid hr.out.2.2.2.1
                have HO9 := Lib.hid hr.out.2.2.2.2
                have hg9 := hr.out.1
                clear hr
                have hz9 := Hb9.out.size
                have m2 := HM9.out.cell (i := 2) rfl
                by_cases hlt : j3 < ll
                · have hlt2 : (j3 : Int) < (ll : Int) := by omega
                  have hlt3 : j3 < lt.length := by rw [Hll.out]; exact hlt
                  have HT3 : Hid (lt.take (j3 + 1) = lt.take j3 ++ [lt[j3]]) := List.take_succ_eq_append_getElem hlt3
                  have Hnew : Hid (P ++ [nextF tk a] = (spillF tk 0 (lt.take (j3 + 1))).map (·.2)) := by
                    unfold Hid
                    rw [HT3.out, spillF_append, Ha.out, List.map_append, HP.out]; rfl
                  have Hat : Hid (atF tk 0 (lt.take (j3 + 1)) = nextF tk a + 1) := by
                    unfold Hid
                    rw [HT3.out, atF_append, Ha.out]; rfl
                  have hfree : 0 < freeF tk a := by
                    have h1 := atF_free tk (lt.take j3) 0 (by rw [List.length_take]; have := Hnd2.out.2.1; unfold freeF; rw [List.drop_zero]; omega)
                    rw [Ha.out, List.length_take] at h1
                    have h2 : freeF tk 0 = lt.length := by unfold freeF; rw [List.drop_zero]; exact Hnd2.out.2.1.trans Hll.out.symm
                    omega
                  have Hnx := Lib.hid (next_spec hfree)
                  have hxa : a ≤ nextF tk a := by unfold nextF; omega
                  obtain ⟨nx, hnx⟩ : ∃ nx, nextF tk a = nx := ⟨_, rfl⟩
                  rw [hnx] at Hnew Hat Hnx hxa
                  have hnl : nx < l.length := by have := Hnx.out.1; rw [Hnd2.out.2.2.1] at this; exact this
                  clear hnx hfree
                  have HT9 : Hid (Blk wr tb (boolsL tk)) := HT1.out.but Hb9.out (by simp; omega)
                  have hPb : P.length ≤ 2^29 := by rw [HPl.out]; omega
                  have HPn : Hid ((P ++ [nx]).length = j3 + 1) := by unfold Hid; rw [List.length_append, HPl.out]; rfl
                  clear HP HPl
                  go_wp2
                  clear m2
                  obtain ⟨W9, hW9⟩ : ∃ W9, W9 = wr := ⟨_, rfl⟩
                  rw [← hW9] at Hb9 hz9 HM9 HO9 HT9 ⊢
                  clear hW9
                  go_loopg [17] (nx - a) (fun n p w5 => W9 = w5 ∧ ∃ q : Nat, a ≤ q ∧ q ≤ nx ∧ p = .int .i64 q ∧ Hid (n = nx - q))
                  case atStart => exact ⟨rfl, a, by omega, by omega, rfl, rfl⟩
                  case round =>
                    obtain ⟨rfl, q, hq1, hq2, rfl, hr2⟩ := hrel
                    by_cases hqx : q < nx
                    · have hql : q < l.length := by omega
                      have cT := HT9.out.cell (i := q) (v := .bool true) (by rw [boolsL, List.getElem?_map, Hnx.out.2.2.1 q hq1 hqx]; rfl)
                      go_wp2
                      go_roundg (nx - (q + 1))
                      case measure => have := hr2.out; omega
                      case rel => exact ⟨rfl, q + 1, by omega, by omega, by go_num, rfl⟩
                    · have hqe : q = nx := by omega
                      subst hqe
                      have cT := HT9.out.cell (i := q) (v := .bool false) (by rw [boolsL, List.getElem?_map, Hnx.out.2.1]; rfl)
                      have m3 := HM9.out.cell (i := 3) rfl
                      go_wp2_with (at_builtin; refine Go.XR.stop (fun X hX => ?_))
                      refine hX.out ?_
                      clear hX X
                      refine wpList_plain rfl (fun K hK => ?_)
                      refine append_enc (P := Try.prog) intL 1 8 (fun _ => rfl) intL_one 3 Try.underlying43 (by kernel_rfl) (by decide) W8.heap.size ta tc P rfl (HO9.out.alloc _) (some ⟨W9.heap.size, 0, none⟩) 1 [q] rfl (by show Row _ _ [Value.int .i64 q]; exact Row.new _ _ _) (fun e => by cases e) (by simp; omega) (by unfold maxLen; simp; omega) (by simp; omega) ?_
                      intro a3 c3 w3 ho3 hb3 _ _
                      have HBz := Lib.hid ((Hb9.out.alloc (.cells #[.int .i64 q] 3)).trans_below hb3)
                      have HMz : Hid (Blk w3 mb [.int .i64 l.length, .slice (some ⟨db, 0, none⟩) many many, .slice sa ll sc, .slice ta P.length tc]) := (HM9.out.below ((Below.refl _ _).alloc (Nat.le_refl _) _)).heap (hb3.block mb (by omega))
                      have Hoz := Lib.hid ho3
                      clear ho3 hb3 cT m3
                      obtain ⟨P3, hP3⟩ : ∃ P3, P ++ [q] = P3 := ⟨_, rfl⟩
                      rw [hP3] at Hnew HPn Hoz ⊢
                      clear hP3
                      have m4 := HMz.out.cell (i := 3) rfl
                      have f4 := HMz.out.free 3
                      go_wp2
                      go_roundg (ll - (j3 + 1))
                      case measure => omega
                      case rel => exact ⟨HBz.out.setCell (.inl (by simp)) _, j3 + 1, P3, a3, c3, by omega, by go_num, by rw [Hat.out]; go_num, rfl, Hnew.out, HPn.out, HMz.out.set 3 _, owns_but Hoz.out ((But.refl [mb] w3).setCell (.inl (by simp)) _) (by simp; omega)⟩
                · have hge : ¬ (j3 : Int) < (ll : Int) := by omega
                  have Hlk : Hid (lt.take j3 = lt) := List.take_of_length_le (by rw [Hll.out]; omega)
                  have Hbp : Hid (buildP l = ⟨l.length, tr, spillF tk 0 lt⟩) := by
                    unfold Hid buildP
                    rw [Hmany.out, ← Hrun.out]
                  have Hsl : Hid ((spillF tk 0 lt).length = ll) := by
                    have h1 := congrArg List.length (spillF_keys tk lt 0)
                    rw [List.length_map, Hll.out] at h1
                    exact h1
                  have HPf : Hid (P = (spillF tk 0 lt).map (·.2)) := by have h1 := HP.out; rw [Hlk.out] at h1; exact h1
                  have HPl2 : Hid (P.length = ll) := by unfold Hid; rw [HPl.out]; omega
                  have m0 := HM9.out.cell (i := 0) rfl
                  have m1 := HM9.out.cell (i := 1) rfl
                  have m3 := HM9.out.cell (i := 3) rfl
                  have HV9 : Hid (Blk wr vb [.int .i64 0, .slice none 0 0, .slice none 0 0, .slice none 0 0]) := HVx.out.but Hb9.out (by simp; omega)
                  have v0 := HV9.out.cell (i := 0) rfl
                  have v1 := HV9.out.cell (i := 1) rfl
                  have v2 := HV9.out.cell (i := 2) rfl
                  have v3 := HV9.out.cell (i := 3) rfl
                  have f0 := HV9.out.free 0
                  have f1 := HV9.out.free 1
                  have f2 := HV9.out.free 2
                  have f3 := HV9.out.free 3
                  have HDf := Lib.hid (HD1.out.but Hb9.out (by simp; omega))
                  have HLf := Lib.hid ((Row.owned HL1.out).but Hb9.out (fun g' o' e => by
                    have h1 := HL1.out
                    rw [e] at h1
                    have h2 : W4.heap.size ≤ g' := (owns_lt h1).1
                    simp; omega))
                  have HLb : Hid (∀ g' o', sa = some ⟨g', o', none⟩ → g' ∉ [vb]) := fun g' o' e => by
                    have h1 := HL1.out
                    rw [e] at h1
                    have h2 : W4.heap.size ≤ g' := (owns_lt h1).1
                    simp; omega
                  have HTb : Hid (∀ g' o', ta = some ⟨g', o', none⟩ → g' ∉ [vb]) := fun g' o' e => by
                    have h1 := HO9.out
                    rw [e] at h1
                    have h2 : W8.heap.size ≤ g' := (owns_lt h1).1
                    simp; omega
                  have HBf := Lib.hid (HBx.out.trans (Hb9.out.below HBx.out.size (by rw [Hvb.out]; simp; omega)))
                  have HOr := Lib.hid (Row.owned HO9.out)
                  clear HO9 HP HPl
                  go_wp2
                  (try simp only [Exit.inBlock, Exit.then])
                  refine bodyPost_ret (rres rfl (g := vb) rfl rfl (((((HV9.out.set 0 _).set 1 _).set 2 _).set 3 _).toAt) rfl) rfl ?_
                  have hbv := ((((But.refl [vb] wr).setCell (b := vb) (i := 0) (.inl (by simp)) (.int .i64 l.length)).setCell (b := vb) (i := 1) (.inl (by simp)) (.slice (some ⟨db, 0, none⟩) many many)).setCell (b := vb) (i := 2) (.inl (by simp)) (.slice sa ll sc)).setCell (b := vb) (i := 3) (.inl (by simp)) (.slice ta P.length tc)
                  refine RetRBuild.ok Hlong.out Hnd.out (HBf.out.trans (hbv.below HBf.out.size (by rw [Hvb.out]; simp))) ?_
                  rw [Hbp.out]
                  refine ⟨db, sa, ta, sc, tc, ?_, ?_, ?_, ?_⟩
                  · have e1 := Hnd2.out.2.2.2
                    have e2 := HPl2.out
                    dsimp only
                    rw [e1, Hsl.out, ← e2]; rfl
                  · exact (HDf.out.row).but hbv (fun g' o' e => by cases e; simp; omega)
                  · dsimp only
                    rw [spillF_keys]
                    exact HLf.out.but hbv HLb.out
                  · dsimp only
                    rw [← HPf.out]
                    exact HOr.out.but hbv HTb.out
    · have Hnd := Lib.hid hnd
      rw [show decide (¬ l.Nodup) = true by simp [hnd]]
      clear hnd
      have c0 := HV1.out.cell (i := 0) rfl
      have c1 := HV1.out.cell (i := 1) rfl
      have c2 := HV1.out.cell (i := 2) rfl
      have c3 := HV1.out.cell (i := 3) rfl
      have f0 := HV1.out.free 0
      have f1 := HV1.out.free 1
      have f2 := HV1.out.free 2
      have f3 := HV1.out.free 3
      have hvs := HV1.out.lt
      go_wp2
      (try simp only [Exit.inBlock, Exit.then])
      refine bodyPost_ret (rres rfl (g := w.heap.size) rfl rfl (((((HV1.out.set 0 _).set 1 _).set 2 _).set 3 _).toAt) rfl) rfl ?_
      exact RetRBuild.twice Hlong.out Hnd.out (Hb1.out.trans (((((((But.refl [w.heap.size] w1).setCell (.inl (by simp)) _).setCell (.inl (by simp)) _).setCell (.inl (by simp)) _).setCell (.inl (by simp)) _).below Hb1.out.size (by simp))))
end Go.Proofs.Ytekmiegonnhidaa
