/- The walk over Build. -/
import Derived.Test.YtekmiegonnhidaaGr
import Derived.Test.YtekmiegonnhidaaBq
import Derived.Carry
namespace Go.Proofs.Ytekmiegonnhidaa
open Go.RowKit Go.XR Go.PerfPure

def u16L (n : Nat) : List Value := [.int .u16 n]
def intV (n : Nat) : Value := .int .i64 n
def seenV (_ : Unit) : Value := .bool true
/-- a map of places, in memory -/
def MapRep (w : World) (p : Nat) (b : Built) : Prop :=
  ∃ (rb sb : Nat), Blk w p [.int .i64 b.n, .slice (some ⟨rb, 0, none⟩) b.tries.length b.tries.length, .map (some sb)] ∧ Blk w rb (b.tries.flatMap u16L) ∧ GM keyV intV w sb b.spill
theorem MapRep.below {w w' : World} {p : Nat} {b : Built} (h : MapRep w p b) (hb : Below w.heap.size w w') : MapRep w' p b := by
  obtain ⟨rb, sb, h1, h2, h3⟩ := h
  exact ⟨rb, sb, h1.below hb, h2.below hb, h3.below hb⟩
def RetBuild (w : World) (l : List KeyT) (e : Ending) (w' : World) : Prop :=
  Below w.heap.size w w' ∧ if 16384 < l.length then e = .returned (.tuple #[.pointer none, .int .i64 4]) else if l.Nodup then ∃ p, e = .returned (.tuple #[.pointer (some ⟨p, 0, none⟩), .int .i64 0]) ∧ MapRep w' p (buildP l) else e = .returned (.tuple #[.pointer none, .int .i64 3])
theorem RetBuild.long {w w' : World} {l : List KeyT} (h : 16384 < l.length) (hb : Below w.heap.size w w') : RetBuild w l (.returned (.tuple #[.pointer none, .int .i64 4])) w' := ⟨hb, by rw [if_pos h]⟩
theorem RetBuild.twice {w w' : World} {l : List KeyT} (h : ¬ 16384 < l.length) (h2 : ¬ l.Nodup) (hb : Below w.heap.size w w') : RetBuild w l (.returned (.tuple #[.pointer none, .int .i64 3])) w' := ⟨hb, by rw [if_neg h, if_neg h2]⟩
theorem RetBuild.ok {w w' : World} {l : List KeyT} (h : ¬ 16384 < l.length) (h2 : l.Nodup) (hb : Below w.heap.size w w') {p : Nat} (hp : MapRep w' p (buildP l)) : RetBuild w l (.returned (.tuple #[.pointer (some ⟨p, 0, none⟩), .int .i64 0])) w' := ⟨hb, by rw [if_neg h, if_pos h2]; exact ⟨p, rfl, hp⟩⟩

theorem owns_but {S : List Nat} {w w' : World} {base : Nat} {e : TypeId} {size : Nat} {a : Option Addr} {n c : Nat} {xs : List Value} (h : w.ownsRow base e size (.slice a n c) n xs) (hb : But S w w') (hS : ∀ i ∈ S, i < base) : w'.ownsRow base e size (.slice a n c) n xs :=
  owns_heap h fun x hx => by
    subst hx
    have h1 := owns_lt h
    exact hb.block _ h1.2 fun hm => by have := hS _ hm; omega
theorem _root_.Go.XR.But.trans_below {S : List Nat} {w w' w'' : World} (h : But S w w') (hb : Below w.heap.size w' w'') : But S w w'' := ⟨hb.os.trans h.os, hb.tape.trans h.tape, hb.output.trans h.output, Nat.le_trans h.size hb.size, fun i hi hn => (hb.block i hi).trans (h.block i hi hn)⟩

/-- what Build makes ahead of the groups -/
theorem build_world (w : World) (C1 C2 : Array Value) (n many : Nat) (T1 T2 T3 : TypeId) :
    ∃ wA, wA = (((w.alloc (.cells C1 T1)).alloc (.map #[] 0)).alloc (.cells #[.int .i64 n, .slice (some ⟨w.heap.size, 0, none⟩) many many, .map (some (w.heap.size + 1))] T2)).alloc (.cells C2 T3) ∧
      Below w.heap.size w wA ∧ wA.heap.size = w.heap.size + 4 ∧ Blk wA w.heap.size C1.toList ∧ GM keyV intV wA (w.heap.size + 1) [] ∧
      Blk wA (w.heap.size + 1 + 1) [.int .i64 n, .slice (some ⟨w.heap.size, 0, none⟩) many many, .map (some (w.heap.size + 1))] ∧ Blk wA (w.heap.size + 1 + 1 + 1) C2.toList := by
  refine ⟨_, rfl, ?_, by simp, ?_, ?_, ?_, ?_⟩
  · exact ((((Below.refl w.heap.size w).alloc (Nat.le_refl _) _).alloc (by simp) _).alloc (by simp; omega) _).alloc (by simp; omega) _
  · exact (((Blk.new w C1 T1).below ((Below.refl _ _).alloc (Nat.le_refl _) _)).below ((Below.refl _ _).alloc (Nat.le_refl _) _)).below ((Below.refl _ _).alloc (Nat.le_refl _) _)
  · have h := GM.made keyV intV (w.alloc (.cells C1 T1))
    rw [show (w.alloc (.cells C1 T1)).heap.size = w.heap.size + 1 by simp] at h
    exact (h.below ((Below.refl _ _).alloc (Nat.le_refl _) _)).below ((Below.refl _ _).alloc (Nat.le_refl _) _)
  · have h := Blk.new ((w.alloc (.cells C1 T1)).alloc (.map #[] 0)) #[.int .i64 n, .slice (some ⟨w.heap.size, 0, none⟩) many many, .map (some (w.heap.size + 1))] T2
    rw [show ((w.alloc (.cells C1 T1)).alloc (.map #[] 0)).heap.size = w.heap.size + 1 + 1 by simp] at h
    exact h.below ((Below.refl _ _).alloc (Nat.le_refl _) _)
  · have h := Blk.new (((w.alloc (.cells C1 T1)).alloc (.map #[] 0)).alloc (.cells #[.int .i64 n, .slice (some ⟨w.heap.size, 0, none⟩) many many, .map (some (w.heap.size + 1))] T2)) C2 T3
    rwa [show (((w.alloc (.cells C1 T1)).alloc (.map #[] 0)).alloc (.cells #[.int .i64 n, .slice (some ⟨w.heap.size, 0, none⟩) many many, .map (some (w.heap.size + 1))] T2)).heap.size = w.heap.size + 1 + 1 + 1 by simp] at h

set_option maxHeartbeats 4000000 in
set_option maxRecDepth 100000 in
theorem build_any (w : World) (la : Option Addr) (lc : Nat) (l : List KeyT) (hL : Row w la (l.flatMap keyL)) (hl : l.length < 2^40) :
    Calls Try.prog 12 #[.slice la l.length lc] w (RetBuild w l) := by
  by_cases hlong : 16384 < l.length
  · have hl2 : (16384 : Int) < (l.length : Int) := by omega
    go_enter Try.func12, Try.ntmps12
    go_wp2
    go_ret2
    exact RetBuild.long hlong (Below.refl _ _)
  · have hl2 : ¬ (16384 : Int) < (l.length : Int) := by omega
    obtain ⟨zs, hzs, hz⟩ := zero_key
    have Hz := Lib.hid hz
    clear hz
    have HL := Lib.hid hL
    clear hL
    have hmm2 := fun h w => run_makeMap_hint (P := Try.prog) (t := 53) Try.underlying53 h w
    have Hseen := Lib.hid (GM.made keyV seenV w)
    go_enter Try.func12, Try.ntmps12
    go_wp2
    clear hmm2
    have Hlong := Lib.hid hlong
    clear hlong
    go_loopg [24] l.length (fun n i wr => Below w.heap.size w wr ∧ w.heap.size < wr.heap.size ∧ ∃ (j : Nat) (D : List (KeyT × Unit)), j ≤ l.length ∧ i = .int .i64 j ∧ Hid (n = l.length - j ∧ GM keyV seenV wr w.heap.size D ∧ (l.take j).Nodup ∧ ∀ k, (aget D k).isSome = true ↔ k ∈ l.take j))
    case atStart => exact ⟨(Below.refl _ _).alloc (Nat.le_refl _) _, by simp, 0, [], by omega, rfl, rfl, Hseen.out, List.nodup_nil, fun k => by simp [aget_nil]⟩
    case round =>
      obtain ⟨hb, hsz, j, D, hj, rfl, hr⟩ := hrel
      have Hb := Lib.hid hb
      clear hb
      by_cases hlt : j < l.length
      · have hlt2 : (j : Int) < (l.length : Int) := by omega
        obtain ⟨g, o, rfl⟩ := row_some HL.out (by omega)
        have HA := Lib.hid ((row_key HL.out hlt).below (by rw [keyC_size]; omega) Hb.out)
        have HT : Hid (l.take (j + 1) = l.take j ++ [l[j]]) := List.take_succ_eq_append_getElem hlt
        have Hlj := Lib.hid (show l[j] = l[j] from rfl)
        obtain ⟨kj, hkj⟩ : ∃ kj, l[j] = kj := ⟨_, rfl⟩
        rw [hkj] at HA HT
        clear Hlj hkj
        have hlk := (hr.out.2.1.below ((Below.refl _ _).alloc (Nat.le_refl _) (.cells (keyC kj) 27))).lookup (P := Try.prog) keysKey Try.underlying53 (z := .bool false) (Try.zeroValue4 _) kj
        have hgm := Lib.hid (hr.out.2.1.below ((Below.refl _ _).alloc (Nat.le_refl _) (.cells (keyC kj) 27)))
        cases hv : aget D kj with
        | some u =>
          rw [hv] at hlk
          have Hdup : Hid (¬ l.Nodup) := fun h => by
            have h1 := (hr.out.2.2.2 kj).1 (by rw [hv]; rfl)
            have h2 : (l.take (j + 1)).Nodup := h.sublist (List.take_sublist _ _)
            rw [HT.out, List.nodup_append] at h2
            exact h2.2.2 kj h1 kj (by simp) rfl
          clear hv
          have hlk : (Instr.lookup 53 (.map (some w.heap.size)) (keyV kj) false).run Try.prog (wr.alloc (.cells (keyC kj) 27)) = .ok (.bool true) (wr.alloc (.cells (keyC kj) 27)) := hlk
          go_wp2_with (first | (refine wpList_alloc_new rfl 27 rfl zs (Hz.out _) ?_) | (refine wpList_store_new rfl 27 _ _ rfl zs (keyC kj) 27 rfl rfl (by rw [hzs, keyC_size]) (one_keyC kj) (keySize kj) ?_) | (refine wpList_load_at rfl 27 _ rfl g (o + j * 33) rfl (keyC kj) HA.out _ Try.underlying27 rfl (keySize kj) ?_) | (refine wpList_load_at rfl 27 _ rfl wr.heap.size 0 rfl (keyC kj) (At.new _ _ _) _ Try.underlying27 rfl (keySize kj) ?_))
          go_ret2
          exact RetBuild.twice Hlong.out Hdup.out (Hb.out.alloc Hb.out.size _)
        | none =>
          rw [hv] at hlk
          have Hv := Lib.hid hv
          clear hv
          have hlk : (Instr.lookup 53 (.map (some w.heap.size)) (keyV kj) false).run Try.prog (wr.alloc (.cells (keyC kj) 27)) = .ok (.bool false) (wr.alloc (.cells (keyC kj) 27)) := hlk
          go_wp2_with (first | (refine wpList_alloc_new rfl 27 rfl zs (Hz.out _) ?_) | (refine wpList_store_new rfl 27 _ _ rfl zs (keyC kj) 27 rfl rfl (by rw [hzs, keyC_size]) (one_keyC kj) (keySize kj) ?_) | (refine wpList_load_at rfl 27 _ rfl g (o + j * 33) rfl (keyC kj) HA.out _ Try.underlying27 rfl (keySize kj) ?_) | (refine wpList_load_at rfl 27 _ rfl wr.heap.size 0 rfl (keyC kj) (At.new _ _ _) _ Try.underlying27 rfl (keySize kj) ?_) | (refine wpList_gm_update rfl _ _ _ 53 rfl keysKey Try.underlying53 seenV w.heap.size D kj () rfl rfl rfl hgm.out (fun w2 hg2 hgr hs2 => ?_)))
          have Hb2 : Hid (Below w.heap.size w w2) := Hb.out.trans (((Below.refl w.heap.size wr).alloc Hb.out.size _).trans ((But.of_grown hgr).below (by have := Hb.out.size; simp; omega) (by simp)))
          have hsz2 : w.heap.size < w2.heap.size := by rw [hs2]; simp; omega
          have Hg2 := Lib.hid hg2
          clear hg2 hgr hs2 hlk
          go_wp2
          go_roundg (l.length - (j + 1))
          case measure => have := hr.out.1; omega
          case rel =>
            refine ⟨Hb2.out, hsz2, j + 1, aput D kj (), by omega, by go_num, rfl, Hg2.out, ?_, fun k => ?_⟩
            · rw [HT.out, List.nodup_append]
              refine ⟨hr.out.2.2.1, by simp, fun a ha b hb => ?_⟩
              rw [List.mem_singleton] at hb
              subst hb
              rintro rfl
              have h1 := (hr.out.2.2.2 a).2 ha
              rw [Hv.out] at h1; cases h1
            · rw [aget_put, HT.out, List.mem_append, List.mem_singleton, ← hr.out.2.2.2 k]
              by_cases c : k = kj
              · subst c; simp
              · simp [c]
      · have hge : ¬ (j : Int) < (l.length : Int) := by omega
        have Hnd : Hid l.Nodup := by
          have := hr.out.2.2.1
          rwa [List.take_of_length_le (by omega)] at this
        clear hr hj hlt
        have hl3 : l.length ≤ 16384 := by have := Hlong.out; omega
        obtain ⟨many, hmany⟩ : ∃ m : Nat, l.length / 4 + 1 = m := ⟨_, rfl⟩
        have hmq : (l.length : Int) / 4 + 1 = (many : Int) := by omega
        have hmp : 0 < many := by omega
        have hml : many ≤ 16384 := by omega
        obtain ⟨C1, hC1, hmk1⟩ := make_any (P := Try.prog) (enc := u16L) (k := 1) (fun _ => rfl) 0 54 62 2 Try.underlying54 (by kernel_rfl) many (by omega) (by omega)
        obtain ⟨C2, hC2, hmk2⟩ := make_any (P := Try.prog) (enc := fun b : Bool => [Value.bool b]) (k := 1) (fun _ => rfl) false 38 4 1 Try.underlying38 (by kernel_rfl) l.length (by omega) (by omega)
        have HC1 := Lib.hid hC1
        have HC2 : Hid (C2.toList = boolsL (List.replicate l.length false)) := by
          unfold Hid; rw [hC2]; unfold boolsL
          generalize List.replicate l.length false = q
          induction q with
          | nil => rfl
          | cons a q ih => rw [List.flatMap_cons, List.map_cons, ih]; rfl
        have hmm := @run_makeMap Try.prog
        have Hmany := Lib.hid hmany
        clear hC1 hC2 hmany
        go_wp2_with fail
        obtain ⟨wA, hwA, hA1, hA2, hA3, hA4, hA5, hA6⟩ := build_world wr C1 C2 l.length many 62 57 4
        rw [← hwA]
        have Hbm := Lib.hid (Hb.out.trans (hA1.mono Hb.out.size))
        have HrA := Lib.hid hA3
        have HsA := Lib.hid hA4
        have HmA := Lib.hid hA5
        have HtA := Lib.hid hA6
        clear hwA hA1 hA3 hA4 hA5 hA6 hmm hmk1 hmk2 Hb
        refine (groups_walk wA la lc l (HL.out.below Hbm.out) hl3 many hmp hml).mono ?_
        rintro e wg ⟨G, gc, rfl, hrow, hbg, hsrt, hmem, hG, hGl⟩
        obtain ⟨rb, hrb⟩ : ∃ rb, wr.heap.size = rb := ⟨_, rfl⟩
        rw [hrb] at HrA HsA HmA HtA hA2 ⊢
        obtain ⟨sb, hsb⟩ : ∃ sb, rb + 1 = sb := ⟨_, rfl⟩
        rw [hsb] at HsA HmA HtA ⊢
        obtain ⟨mb, hmb⟩ : ∃ mb, sb + 1 = mb := ⟨_, rfl⟩
        rw [hmb] at HmA HtA ⊢
        obtain ⟨tb, htb⟩ : ∃ tb, mb + 1 = tb := ⟨_, rfl⟩
        rw [htb] at HtA ⊢
        have o1 : rb < sb := by omega
        have o2 : sb < mb := by omega
        have o3 : mb < tb := by omega
        have o4 : tb < wA.heap.size := by omega
        have o5 : w.heap.size < rb := by omega
        clear hA2 hsb hmb htb
        have HBA := Lib.hid hbg
        have hszg := hbg.size
        have Hrg : Hid (Blk wg rb ((startS l.length many).tries.flatMap u16L)) := by have h := HrA.out.below hbg; rw [HC1.out] at h; exact h
        have Htg : Hid (Blk wg tb (boolsL (startS l.length many).taken)) := by have h := HtA.out.below hbg; rw [HC2.out] at h; exact h
        have Hmg := Lib.hid (HmA.out.below hbg)
        have Hsg := Lib.hid (HsA.out.below hbg)
        have Hbw := Lib.hid (Hbm.out.trans (hbg.mono Hbm.out.size))
        have Hrow := Lib.hid hrow
        have HG := Lib.hid hG
        have Hord : Hid (G.map (·.at_) = orderD (fun i => (keysOf l many i).length) many) := order_eq hsrt fun i => by rw [hmem]; simp [List.length_pos_iff]
        have Hmem := Lib.hid hmem
        obtain ⟨ab, hab⟩ : ∃ ab, wA.heap.size = ab := ⟨_, rfl⟩
        rw [hab] at o4 hszg Hrow HG ⊢
        clear hab
        clear hrow hbg hsrt hmem hG HrA HtA HmA HsA HC1 HC2 hrb Hbm
        have Hst0 := Lib.hid (fold_len (keysOf l many))
        go_wp2_with fail
        go_loopg [55, 9] G.length (fun n i lt wr => But [rb, tb] wg wr ∧ ∃ (j : Nat) (st : St) (a : Option Addr) (c : Nat), j ≤ G.length ∧ i = .int .i64 j ∧ lt = .slice a st.late.length c ∧ Hid (n = G.length - j ∧ st = ((G.map (·.at_)).take j).foldl (stepS (keysOf l many)) (startS l.length many) ∧ Blk wr rb (st.tries.flatMap u16L) ∧ Blk wr tb (boolsL st.taken) ∧ wr.ownsRow wg.heap.size 27 33 (.slice a st.late.length c) st.late.length (st.late.flatMap keyL) ∧ st.late.length ≤ j * 16384))
        case atStart => exact ⟨But.refl _ _, 0, startS l.length many, none, 0, by omega, rfl, rfl, rfl, rfl, Hrg.out, Htg.out, ⟨rfl, .inl ⟨rfl, rfl⟩⟩, Nat.zero_le _⟩
        case round =>
          obtain ⟨hb, j2, st, sa, sc, hj2, rfl, rfl, hr⟩ := hrel
          have Hb := Lib.hid hb
          clear hb
          have hzg := Hb.out.size
          by_cases hlt : j2 < G.length
          · have hlt2 : (j2 : Int) < (G.length : Int) := by omega
            have hgx := HG.out G[j2] (List.getElem_mem hlt)
            have hrow2 := Hrow.out.but Hb.out (fun g' o' e => by cases e; simp; omega)
            obtain ⟨g', o', he, c0⟩ := hrow2.get (flat_get grpL_len G hlt (j := 0) (by omega))
            cases he
            obtain ⟨g', o', he, c1⟩ := hrow2.get (flat_get grpL_len G hlt (j := 1) (by omega))
            cases he
            have Htk : Hid ((G.map (·.at_)).take (j2 + 1) = (G.map (·.at_)).take j2 ++ [G[j2].at_]) := by
              unfold Hid
              rw [List.take_succ_eq_append_getElem (by simpa using hlt), List.getElem_map]
            have Hmx : Hid (G[j2].at_ < many ∧ keysOf l many G[j2].at_ ≠ []) := (Hmem.out G[j2].at_).1 (List.mem_map.2 ⟨_, List.getElem_mem hlt, rfl⟩)
            obtain ⟨x, hx⟩ : ∃ x, G[j2] = x := ⟨_, rfl⟩
            rw [hx] at hgx c0 c1 Htk Hmx
            obtain ⟨xa, xs, xl, xc⟩ := x
            dsimp only [grpL, List.getElem?_cons_zero, List.getElem?_cons_succ] at hgx c0 c1 Htk Hmx
            rw [Nat.zero_add, Nat.add_zero] at c0
            rw [Nat.zero_add] at c1
            obtain ⟨ks, hks⟩ : ∃ ks, keysOf l many xa = ks := ⟨_, rfl⟩
            rw [hks] at hgx Hmx
            obtain ⟨hxl, hxc, hxr, hxb⟩ := hgx
            subst hxl
            have Hks := Lib.hid hks
            have Hxr := Lib.hid hxr
            have Hxb := Lib.hid hxb
            have hkl : ks.length ≤ 16384 := by rw [← hks]; exact Nat.le_trans (List.length_filter_le _ _) hl3
            have hl0 : 0 < l.length := by
              have h1 := Hmx.out.2
              have h2 := List.length_pos_iff.2 h1
              have h3 : ks.length ≤ l.length := by rw [← hks]; exact List.length_filter_le _ _
              omega
            have Htl : Hid (st.taken.length = l.length ∧ st.tries.length = many) := by
              have h1 := Hst0.out ((G.map (·.at_)).take j2) (startS l.length many)
              rw [← hr.out.2.1] at h1
              exact ⟨h1.1.trans (by simp [startS]), h1.2.trans (by simp [startS])⟩
            clear hx hks hxr hxb hrow2
            go_wp2
            obtain ⟨vb, hvb⟩ : ∃ vb, wr.heap.size = vb := ⟨_, rfl⟩
            obtain ⟨W3, hW3⟩ : ∃ W3, wr.alloc (.cells #[.int .i64 xa, .slice xs ks.length xc] 61) = W3 := ⟨_, rfl⟩
            rw [hW3, hvb]
            have D0 : Hid (W3.cell? ⟨vb, 0, none⟩ = some (.int .i64 xa)) := by unfold Hid; rw [← hW3, ← hvb]; simp
            have D1 : Hid (W3.cell? ⟨vb, 1, none⟩ = some (.slice xs ks.length xc)) := by unfold Hid; rw [← hW3, ← hvb]; simp
            have HB3 : Hid (But [rb, tb] wg W3) := by unfold Hid; rw [← hW3]; exact Hb.out.alloc _
            have HR3 : Hid (Blk W3 rb (st.tries.flatMap u16L)) := by unfold Hid; rw [← hW3]; exact hr.out.2.2.1.below ((Below.refl _ _).alloc (Nat.le_refl _) _)
            have HT3 : Hid (Blk W3 tb (boolsL st.taken)) := by unfold Hid; rw [← hW3]; exact hr.out.2.2.2.1.below ((Below.refl _ _).alloc (Nat.le_refl _) _)
            have HO3 : Hid (W3.ownsRow wg.heap.size 27 33 (.slice sa st.late.length sc) st.late.length (st.late.flatMap keyL)) := by unfold Hid; rw [← hW3]; exact hr.out.2.2.2.2.1.alloc _
            have hlb := hr.out.2.2.2.2.2
            have hvt : tb < vb ∧ rb < vb ∧ wg.heap.size ≤ vb := by omega
            have hv3 : vb < W3.heap.size := by rw [← hW3]; simp; omega
            have Hst := Lib.hid hr.out.2.1
            have hgk := hr.out.1
            clear hvb hW3 hr c0 c1 Hb
            go_loopg [12] 256 (fun n d w4 => But [tb] W3 w4 ∧ ∃ dd : Nat, 1 ≤ dd ∧ dd ≤ 257 ∧ d = .int .u16 dd ∧ Hid (n = 257 - dd ∧ (∀ i, i + 1 < dd → tryD st.taken ks (i + 1) = false) ∧ Blk w4 tb (boolsL st.taken)))
            case atStart => exact ⟨But.refl _ _, 1, by omega, by omega, by go_num, rfl, fun i hi => by omega, HT3.out⟩
            case round =>
              obtain ⟨hb, dd, hd1, hd2, rfl, hr⟩ := hrel
              have Hb := Lib.hid hb
              clear hb
              by_cases hlt3 : dd ≤ 256
              · have hlt4 : (dd : Int) ≤ 256 := by omega
                have hlt5 : decide ((dd : Int) ≤ 256) = true := decide_eq_true hlt4
                have e0 := Hb.out.cell D0.out (by simp; omega)
                have e1 := Hb.out.cell D1.out (by simp; omega)
                have htry := try_any _ xa xs xc ks ((Hxr.out.but HB3.out (fun g' o' e => by have h : ab ≤ g' := (Hxb.out _ e).1; simp; omega)).but Hb.out (fun g' o' e => by have h : ab ≤ g' := (Hxb.out _ e).1; simp; omega)) hxc (dd : Int) (by omega) tb l.length st.taken hr.out.2.2 (fun g' o' e => by have h : ab ≤ g' := (Hxb.out _ e).1; omega) (by omega) (by rw [Htl.out.1]; omega) (fun _ => by rw [Htl.out.1]; exact hl0)
                rw [Htl.out.1] at htry
                have Htry := Lib.hid htry
                have Hfd : Hid (fitsB st.taken (ks.map (pos (dd : Int) l.length)) = tryD st.taken ks (dd - 1 + 1)) := by
                  unfold Hid tryD; rw [Htl.out.1, show dd - 1 + 1 = dd by omega]
                clear htry
                go_wp2_with fail
                refine Htry.out.mono ?_
                rintro e w5 h5
                obtain ⟨rfl, hB5, hbut5⟩ := h5
                rw [Hfd.out]
                have Hb5 := Lib.hid (Hb.out.trans hbut5)
                cases hv : tryD st.taken ks (dd - 1 + 1) with
                | false =>
                  rw [Hfd.out, hv] at hB5
                  have HB5 : Hid (Blk w5 tb (boolsL st.taken)) := hB5
                  have Hv := Lib.hid hv
                  clear hv hB5 hbut5 e0 e1
                  go_wp2
                  go_roundg (257 - (dd + 1))
                  case measure => have := hr.out.1; omega
                  case rel => exact ⟨Hb5.out, dd + 1, by omega, by omega, by go_num, rfl, fun i hi => by
                    by_cases c : i + 1 < dd
                    · exact hr.out.2.1 i c
                    · rw [show i = dd - 1 by omega]; exact Hv.out, HB5.out⟩
                | true =>
                  rw [Hfd.out, hv] at hB5
                  have HB5 : Hid (Blk w5 tb (boolsL (markB true st.taken (ks.map (pos (dd : Int) l.length))))) := hB5
                  have Hfs : Hid (stepS (keysOf l many) st xa = ⟨st.tries.set xa dd, markB true st.taken (ks.map (pos (dd : Int) l.length)), st.late⟩) := by
                    have h1 := findD_some (tk := st.taken) (keys := ks) (j := dd - 1) (by omega) (fun i hi => hr.out.2.1 i (by omega)) hv
                    unfold Hid stepS
                    rw [Hks.out, h1, Htl.out.1]
                    dsimp only
                    rw [show dd - 1 + 1 = dd by omega]
                  have hlt6 : ¬ (256 : Int) < (dd : Int) := by omega
                  have Hbw5 : Hid (But [rb, tb] wg w5) := HB3.out.trans (Hb5.out.mono (by simp))
                  have HR5 : Hid (Blk w5 rb (st.tries.flatMap u16L)) := HR3.out.but Hb5.out (by simp; omega)
                  have m1 := Lib.hid ((Hmg.out.but Hbw5.out (by simp; omega)).cell (i := 1) rfl)
                  have q0 := Lib.hid (Hb5.out.cell D0.out (by simp; omega))
                  have hxm := Hmx.out.1
                  have hxt : xa < (st.tries.flatMap u16L).length := by rw [flat_len (enc := u16L) (k := 1) (fun _ => rfl), Htl.out.2]; omega
                  clear hv hB5 hbut5 e0 e1
                  go_wp2
                  have m1 := m1.out
                  have q0 := q0.out
                  have f0 := HR5.out.free xa
                  have c0 := HR5.out.cell (i := xa) (v := (st.tries.flatMap u16L)[xa]) (List.getElem?_eq_getElem hxt)
                  refine Go.XR.region_sched ((· = w5.drew)) [(0, true), (1, true), (2, true), (3, true), (4, true), (5, true), (6, true), (7, false), (8, false)] [7, 8] Try.mixed (by kernel_rfl) (by kernel_rfl) (by kernel_rfl) ?_
                  simp only [List.map_cons, List.map_nil, List.getElem?_cons_succ, List.getElem?_cons_zero]
                  repeat (first | (refine Go.XR.S_light rfl rfl rfl ?_ (fun w' hS K hK => ?_) (fun K hK => ?_); rotate_left 1; (cases hS; go_step; exact hK); go_step; refine hK _ ?_; clear hK K))
                  refine Go.XR.S_heavy (fun K hK => ?_)
                  go_step
                  refine hK _ _ ⟨fun _ => rfl, ?_⟩
                  clear hK K
                  repeat (first | (refine Go.XR.S_light rfl rfl rfl ?_ (fun w' hS K hK => ?_) (fun K hK => ?_); rotate_left 1; (cases hS; go_step; exact hK); go_step; refine hK _ ?_; clear hK K))
                  repeat (first | (refine Go.XR.S_heavy (fun K hK => ?_); go_step; refine hK _ _ ⟨fun h => by simp at h, ?_⟩; clear hK K))
                  refine Go.XR.S_nil ?_
                  go_wp2
                  go_roundg (G.length - (j2 + 1))
                  case measure => have := hgk; omega
                  case rel =>
                    refine ⟨Hbw5.out.drew.setCell (.inl (by simp)) _, j2 + 1, ⟨st.tries.set xa dd, markB true st.taken (ks.map (pos (dd : Int) l.length)), st.late⟩, sa, sc, by omega, by go_num, rfl, rfl, ?_, ?_, ?_, ?_, by show st.late.length ≤ _; omega⟩
                    · rw [Htk.out, List.foldl_append, ← Hst.out]; exact Hfs.out.symm
                    · have h1 := (HR5.out.heap (w' := w5.drew) rfl).set xa (.int .u16 dd)
                      conv at h1 => arg 3; rw [show xa = xa * 1 + 0 by omega]
                      rw [flat_setk (enc := u16L) (k := 1) (fun _ => rfl) st.tries (by rw [Htl.out.2]; omega) (by omega) (.int .u16 dd) dd rfl] at h1
                      exact h1
                    · exact (HB5.out.heap (w' := w5.drew) rfl).but ((But.refl [rb] _).setCell (.inl (by simp)) _) (by simp; omega)
                    · exact owns_but HO3.out (((Hb5.out.mono (T := [rb, tb]) (by simp)).drew).setCell (.inl (by simp)) _) (by simp; omega)
              · have hge3 : ¬ (dd : Int) ≤ 256 := by omega
                have hge4 : decide ((dd : Int) ≤ 256) = false := decide_eq_false hge3
                have hgt5 : (256 : Int) < (dd : Int) := by omega
                have Hfs : Hid (stepS (keysOf l many) st xa = ⟨st.tries, st.taken, st.late ++ ks⟩) := by
                  have h1 := findD_none (tk := st.taken) (keys := ks) (fun i hi => hr.out.2.1 i (by omega))
                  unfold Hid stepS
                  rw [Hks.out, h1]
                obtain ⟨g, o, rfl⟩ := row_some Hxr.out (List.length_pos_iff.2 Hmx.out.2)
                have Hbw4 := Lib.hid (HB3.out.trans (Hb.out.mono (T := [rb, tb]) (by simp)))
                have HO4 := Lib.hid (owns_but HO3.out Hb.out (by simp; omega))
                have HX4 := Lib.hid (Hxr.out.but Hbw4.out (fun g' o' e => by have h : ab ≤ g' := (Hxb.out _ e).1; simp; omega))
                have HR4 := Lib.hid (HR3.out.but Hb.out (by simp; omega))
                have HT4 := Lib.hid hr.out.2.2
                have e1 := Hb.out.cell D1.out (by simp; omega)
                have hz4 := Hb.out.size
                go_wp2_with (at_builtin; refine Go.XR.stop (fun X hX => ?_))
                refine hX.out ?_
                clear hX X
                refine wpList_plain rfl (fun K hK => ?_)
                refine append_enc (P := Try.prog) keyL 33 36 keyL_length one_keyL 27 Try.underlying31 (by kernel_rfl) (by decide) wg.heap.size sa sc st.late rfl HO4.out (some ⟨g, o, none⟩) xc ks rfl HX4.out (fun e => by cases e) (by omega) (by unfold maxLen; omega) (by omega) ?_
                intro a' c' w6 ho6 hb6 hnil6 hg6
                have HB6 : Hid (But [rb, tb] wg w6) := Hbw4.out.trans_below hb6
                have HR6 : Hid (Blk w6 rb (st.tries.flatMap u16L)) := HR4.out.heap (hb6.block rb (by omega))
                have HT6 : Hid (Blk w6 tb (boolsL st.taken)) := HT4.out.heap (hb6.block tb (by omega))
                have Ho6 := Lib.hid ho6
                have Hll : Hid ((st.late ++ ks).length ≤ (j2 + 1) * 16384) := by unfold Hid; rw [List.length_append]; omega
                clear ho6 hb6 hnil6 hg6 e1
                obtain ⟨L6, hL6⟩ : ∃ L6, st.late ++ ks = L6 := ⟨_, rfl⟩
                rw [hL6] at Hfs Ho6 Hll ⊢
                clear hL6
                go_wp2
                go_roundg (G.length - (j2 + 1))
                case measure => have := hgk; omega
                case rel =>
                  refine ⟨HB6.out, j2 + 1, ⟨st.tries, st.taken, L6⟩, a', c', by omega, by go_num, rfl, rfl, ?_, HR6.out, HT6.out, Ho6.out, Hll.out⟩
                  rw [Htk.out, List.foldl_append, ← Hst.out]; exact Hfs.out.symm
          · have hge2 : ¬ (j2 : Int) < (G.length : Int) := by omega
            have hjG : j2 = G.length := by omega
            have Hrun : Hid (st = runS l many) := by
              have h1 := hr.out.2.1
              rw [List.take_of_length_le (by rw [List.length_map]; omega), Hord.out] at h1
              exact h1
            have HT := Lib.hid hr.out.2.2.2.1
            have HR := Lib.hid hr.out.2.2.1
            have HO := Lib.hid (Row.owned hr.out.2.2.2.2.1)
            have HOw := Lib.hid hr.out.2.2.2.2.1
            have hlb := hr.out.2.2.2.2.2
            have HM := Lib.hid (Hmg.out.but Hb.out (by simp; omega))
            have HS := Lib.hid (Hsg.out.but Hb.out (by simp; omega))
            have HBx := Lib.hid (Hbw.out.trans (Hb.out.below (by have := Hbw.out.size; omega) (by simp; omega)))
            have Hnd2 : Hid (st.late.Nodup ∧ st.taken.count false = st.late.length ∧ st.taken.length = l.length ∧ st.tries.length = many) := ⟨by rw [Hrun.out]; exact run_nodup Hnd.out _, by rw [Hrun.out]; exact run_count l hmp, by rw [Hrun.out]; exact run_taken l many, by rw [Hrun.out]; exact run_tries l many⟩
            clear hr hge hlt Hb Hrow HG Hord Hmem Hst0 Hrg Htg Hmg Hsg Hbw HBA
            obtain ⟨tr, tk, lt⟩ := st
            dsimp only at *
            generalize hll : lt.length = ll at *
            have Hll := Lib.hid hll
            clear hll
            go_wp2
            go_loopg [88, 13] ll (fun n i p w9 => But [sb] wr w9 ∧ ∃ j : Nat, j ≤ ll ∧ i = .int .i64 j ∧ p = .int .i64 (atF tk 0 (lt.take j) : Nat) ∧ Hid (n = ll - j ∧ GM keyV intV w9 sb (spillF tk 0 (lt.take j))))
            case atStart => exact ⟨But.refl _ _, 0, by omega, rfl, rfl, rfl, HS.out⟩
            case round =>
              obtain ⟨hb, j3, hj3, rfl, rfl, hr⟩ := hrel
              have Hb := Lib.hid hb
              clear hb
              obtain ⟨a, ha⟩ : ∃ a, atF tk 0 (lt.take j3) = a := ⟨_, rfl⟩
              rw [ha]
              have Ha := Lib.hid ha
              clear ha
              by_cases hlt : j3 < ll
              · have hlt2 : (j3 : Int) < (ll : Int) := by omega
                have hlt3 : j3 < lt.length := by rw [Hll.out]; exact hlt
                obtain ⟨g, o, rfl⟩ := row_some HO.out (by omega)
                have hgb : wg.heap.size ≤ g := (owns_lt HOw.out).1
                have HA := Lib.hid ((row_key HO.out hlt3).but Hb.out (by simp; omega))
                have HT1 : Hid (lt.take (j3 + 1) = lt.take j3 ++ [lt[j3]]) := List.take_succ_eq_append_getElem hlt3
                have Hnew : Hid (aput (spillF tk 0 (lt.take j3)) lt[j3] (nextF tk a) = spillF tk 0 (lt.take (j3 + 1))) := by
                  have h1 : aget (spillF tk 0 (lt.take j3)) lt[j3] = none := aget_none.2 fun p hp e => by
                    have h2 : p.1 ∈ lt.take j3 := by rw [← spillF_keys tk (lt.take j3) 0]; exact List.mem_map.2 ⟨p, hp, rfl⟩
                    have h3 := Hnd2.out.1.sublist (List.take_sublist (j3 + 1) lt)
                    rw [HT1.out, List.nodup_append] at h3
                    exact h3.2.2 _ h2 lt[j3] (by simp) e
                  unfold Hid aput
                  rw [h1, HT1.out, spillF_append, Ha.out]; rfl
                have Hat : Hid (atF tk 0 (lt.take (j3 + 1)) = nextF tk a + 1) := by
                  unfold Hid
                  rw [HT1.out, atF_append, Ha.out]; rfl
                have hfree : 0 < freeF tk a := by
                  have h1 := atF_free tk (lt.take j3) 0 (by rw [List.length_take]; have := Hnd2.out.2.1; unfold freeF; rw [List.drop_zero]; omega)
                  rw [Ha.out, List.length_take] at h1
                  have h2 : freeF tk 0 = lt.length := by unfold freeF; rw [List.drop_zero]; exact Hnd2.out.2.1.trans Hll.out.symm
                  omega
                have Hnx := Lib.hid (next_spec hfree)
                have hxa : a ≤ nextF tk a := by unfold nextF; omega
                obtain ⟨nx, hnx⟩ : ∃ nx, nextF tk a = nx := ⟨_, rfl⟩
                rw [hnx] at Hnew Hat Hnx hxa
                have hnl : nx < l.length := by have := Hnx.out.1; rw [Hnd2.out.2.2.1] at this; exact this
                generalize lt[j3] = kj at *
                clear hnx hfree
                have hszb := Hb.out.size
                go_wp2_with (first | (refine wpList_alloc_new rfl 27 rfl zs (Hz.out _) ?_) | (refine wpList_store_new rfl 27 _ _ rfl zs (keyC kj) 27 rfl rfl (by rw [hzs, keyC_size]) (one_keyC kj) (keySize kj) ?_) | (refine wpList_load_at rfl 27 _ rfl g (o + j3 * 33) rfl (keyC kj) HA.out _ Try.underlying27 rfl (keySize kj) ?_) | (refine wpList_load_at rfl 27 _ rfl wr.heap.size 0 rfl (keyC kj) (At.new _ _ _) _ Try.underlying27 rfl (keySize kj) ?_))
                have HK9 : Hid (At (wr.alloc (.cells (keyC kj) 27)) wr.heap.size 0 (keyC kj)) := At.new _ _ _
                have HT9 : Hid (Blk (wr.alloc (.cells (keyC kj) 27)) tb (boolsL tk)) := (HT.out.but Hb.out (by simp; omega)).below ((Below.refl _ _).alloc (Nat.le_refl _) _)
                have HM9 : Hid (Blk (wr.alloc (.cells (keyC kj) 27)) mb [.int .i64 l.length, .slice (some ⟨rb, 0, none⟩) many many, .map (some sb)]) := (HM.out.but Hb.out (by simp; omega)).below ((Below.refl _ _).alloc (Nat.le_refl _) _)
                have HG9 : Hid (GM keyV intV (wr.alloc (.cells (keyC kj) 27)) sb (spillF tk 0 (lt.take j3))) := hr.out.2.below ((Below.refl _ _).alloc (Nat.le_refl _) _)
                have HB9 := Lib.hid (Hb.out.alloc (.cells (keyC kj) 27))
                have hg1 := hr.out.1
                obtain ⟨D3, hD3⟩ : ∃ D3, spillF tk 0 (lt.take j3) = D3 := ⟨_, rfl⟩
                rw [hD3] at Hnew HG9
                clear hr hD3 Hb HA
                generalize wr.alloc (.cells (keyC kj) 27) = W9 at *
                generalize wr.heap.size = vb at *
                go_frame
                go_loopg [13] (nx - a) (fun n p w5 => w5 = W9 ∧ ∃ q : Nat, a ≤ q ∧ q ≤ nx ∧ p = .int .i64 q ∧ Hid (n = nx - q))
                case atStart => exact ⟨rfl, a, by omega, by omega, rfl, rfl⟩
                case round =>
                  obtain ⟨rfl, q, hq1, hq2, rfl, hr2⟩ := hrel
                  by_cases hqx : q < nx
                  · have hql : q < l.length := by omega
                    have cT := HT9.out.cell (i := q) (v := .bool true) (by rw [boolsL, List.getElem?_map, Hnx.out.2.2.1 q hq1 hqx]; rfl)
                    go_wp2
                    go_roundg (nx - (q + 1))
                    case measure => have := hr2.out; omega
                    case rel => exact ⟨rfl, q + 1, by omega, by omega, by go_num, rfl⟩
                  · have hqe : q = nx := by omega
                    subst hqe
                    have cT := HT9.out.cell (i := q) (v := .bool false) (by rw [boolsL, List.getElem?_map, Hnx.out.2.1]; rfl)
                    go_wp2
                    have m2 := HM9.out.cell (i := 2) rfl
                    refine Go.XR.region_sched ((· = wr.drew)) [(0, true), (1, true), (2, true), (3, true), (4, true), (5, true), (6, false)] [6] Try.mixed (by kernel_rfl) (by kernel_rfl) (by kernel_rfl) ?_
                    simp only [List.map_cons, List.map_nil, List.getElem?_cons_succ, List.getElem?_cons_zero]
                    repeat (first | (refine Go.XR.S_light rfl rfl rfl ?_ (fun w' hS K hK => ?_) (fun K hK => ?_); rotate_left 1; (cases hS; (first | (refine Go.XR.wp_load_at 27 _ rfl vb 0 rfl (keyC kj) (At.drew HK9.out) _ Try.underlying27 rfl (keySize kj) ?_) | go_step); exact hK); go_step; refine hK _ ?_; clear hK K))
                    refine Go.XR.S_heavy (fun K hK => ?_)
                    refine wp_gm_update (KK := keysKey) (P := Try.prog) _ _ _ 55 rfl Try.underlying55 intV sb D3 kj q rfl rfl rfl (GM.block (w' := wr.drew) HG9.out rfl) (fun w2 hg2 hgr hs2 => ?_)
                    refine hK _ _ ⟨fun h => by simp at h, ?_⟩
                    clear hK K
                    refine Go.XR.S_nil ?_
                    rw [Hnew.out] at hg2
                    have HB2 := Lib.hid (HB9.out.drew.trans (But.of_grown hgr))
                    have Hg2 := Lib.hid hg2
                    clear hg2 hgr hs2
                    go_wp2
                    go_roundg (ll - (j3 + 1))
                    case measure => have := hg1; omega
                    case rel =>
                      exact ⟨HB2.out, j3 + 1, by omega, by go_num, by rw [Hat.out]; go_num, rfl, Hg2.out⟩
              · have hge : ¬ (j3 : Int) < (ll : Int) := by omega
                have Hgf : Hid (GM keyV intV wr sb (spillF tk 0 lt)) := by
                  have h1 := hr.out.2
                  rw [List.take_of_length_le (by rw [Hll.out]; omega)] at h1
                  exact h1
                have Hbp : Hid (buildP l = ⟨l.length, tr, spillF tk 0 lt⟩) := by
                  unfold Hid buildP
                  rw [Hmany.out, ← Hrun.out]
                have HMf := Lib.hid (HM.out.but Hb.out (by simp; omega))
                have HRf := Lib.hid (HR.out.but Hb.out (by simp; omega))
                have HBf := Lib.hid (HBx.out.trans (Hb.out.below HBx.out.size (by simp; omega)))
                clear hr Hb
                go_wp2
                go_ret2
                refine RetBuild.ok Hlong.out Hnd.out HBf.out ?_
                rw [Hbp.out]
                refine ⟨rb, sb, ?_, HRf.out, Hgf.out⟩
                have h1 := HMf.out
                rw [← Hnd2.out.2.2.2] at h1
                exact h1
end Go.Proofs.Ytekmiegonnhidaa
