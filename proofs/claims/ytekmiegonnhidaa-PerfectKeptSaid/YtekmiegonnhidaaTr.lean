/- The walk over try. -/
import Derived.Test.YtekmiegonnhidaaHa
import Derived.Test.YtekmiegonnhidaaBp
import Derived.Test.YtekmiegonnhidaaBut
import Derived.Test.YtekmiegonnhidaaAe
namespace Go.Proofs.Ytekmiegonnhidaa
open Go.RowKit Go.XR Go.PerfPure

theorem gen_world {P : Program} {c : Code} {Q : Exit → Act → World → Prop} {a : Act} {w : World} (Facts : World → Prop) (hf : Facts w) (h : ∀ w0, Facts w0 → c.wp P Q a w0) : c.wp P Q a w := h w hf
theorem zero_key : ∃ zs : Array Value, zs.size = 33 ∧ ∀ w, (zeroValue 27).run Try.prog w = .ok (.agg zs) w := ⟨_, rfl, fun w => Try.zeroValue27 w⟩
theorem row_key {w : World} {g o : Nat} {l : List KeyT} (h : Row w (some ⟨g, o, none⟩) (l.flatMap keyL)) {i : Nat} (hi : i < l.length) : At w g (o + i * 33) (keyC l[i]) := by
  rcases h with h | ⟨g', o', he, h⟩
  · have := flat_len keyL_length l
    rw [h] at this; simp at this; omega
  · cases he
    intro j u hj
    rw [Nat.add_assoc]
    refine h _ u ?_
    have hj33 : j < 33 := by have := (Array.getElem?_eq_some_iff.1 hj).1; rwa [keyC_size] at this
    rw [← hj]
    have e : l = l.take i ++ l[i] :: l.drop (i + 1) := by
      rw [← List.drop_eq_getElem_cons hi, List.take_append_drop]
    have hl : ((l.take i).flatMap keyL).length = i * 33 := by rw [flat_len keyL_length, List.length_take]; congr 1; omega
    conv => lhs; rw [e, List.flatMap_append, List.flatMap_cons]
    rw [List.getElem?_append_right (by omega), hl, Nat.add_sub_cancel_left, List.getElem?_append_left (by rw [keyL_length]; exact hj33)]
    show _ = (keyL l[i]).toArray[j]?
    rw [List.getElem?_toArray]
theorem row_some {w : World} {a : Option Addr} {l : List KeyT} (h : Row w a (l.flatMap keyL)) (hne : 0 < l.length) : ∃ g o, a = some ⟨g, o, none⟩ := by
  rcases h with h | ⟨g, o, h, _⟩
  · have := flat_len keyL_length l
    rw [h] at this; simp at this; omega
  · exact ⟨g, o, h⟩
def boolsL (l : List Bool) : List Value := l.map Value.bool
theorem boolsL_get {l : List Bool} {i : Nat} (h : i < l.length) : (boolsL l)[i]? = some (.bool (l.getD i true)) := by
  rw [boolsL, List.getElem?_map, List.getD_eq_getElem?_getD, List.getElem?_eq_getElem h]; rfl
theorem boolsL_set (l : List Bool) (i : Nat) (b : Bool) : (boolsL l).set i (.bool b) = boolsL (l.set i b) := by rw [boolsL, boolsL, List.map_set]

def RetTry (w : World) (tb : Nat) (tk : List Bool) (ps : List Nat) (e : Ending) (w' : World) : Prop :=
  e = .returned (.bool (fitsB tk ps)) ∧ Blk w' tb (boolsL (if fitsB tk ps = true then markB true tk ps else tk)) ∧ But [tb] w w'
set_option maxHeartbeats 4000000 in
set_option maxRecDepth 100000 in
theorem try_any (w : World) (at' : Int) (a : Option Addr) (c : Nat) (l : List KeyT) (hK : Row w a (l.flatMap keyL)) (hc : l.length ≤ c) (d : Int) (hd : 0 ≤ d ∧ d < 18446744073709551616) (tb tc : Nat) (tk : List Bool) (hT : Blk w tb (boolsL tk))
    (hne : ∀ g o, a = some ⟨g, o, none⟩ → g ≠ tb) (hlen : l.length < 2^40) (htk : tk.length < 2^40) (h0 : 0 < l.length → 0 < tk.length) :
    Calls Try.prog 21 #[.agg #[.int .i64 at', .slice a l.length c], .int .u64 d, .slice (some ⟨tb, 0, none⟩) tk.length tc] w
      (RetTry w tb tk (l.map (pos d tk.length))) := by
  obtain ⟨zs, hzs, hz⟩ := zero_key
  have Hz := Lib.hid hz
  clear hz
  have HK := Lib.hid hK
  have HT := Lib.hid hT
  have Hne := Lib.hid hne
  clear hK hT hne
  have hlp : (l.map (pos d tk.length)).length = l.length := List.length_map ..
  have Hlp := Lib.hid hlp
  clear hlp
  have hpk : ∀ i (h : i < l.length), (l.map (pos d tk.length))[i]? = some (pos d tk.length l[i]) := fun i h => by rw [List.getElem?_map, List.getElem?_eq_getElem h]; rfl
  have Hpk := Lib.hid hpk
  clear hpk
  obtain ⟨ps, hps⟩ : ∃ ps, l.map (pos d tk.length) = ps := ⟨_, rfl⟩
  rw [hps] at Hlp Hpk ⊢
  clear hps
  have hps' : ∀ i (h : i < l.length), ps.take (i + 1) = ps.take i ++ [pos d tk.length l[i]] := fun i h => by
    have hi : i < ps.length := by rw [Hlp.out]; exact h
    rw [List.take_succ_eq_append_getElem hi]
    have := Hpk.out i h
    rw [List.getElem?_eq_getElem hi] at this
    rw [Option.some.inj this]
  have HS := Lib.hid hps'
  clear hps'
  have hbt := HT.out.lt
  obtain ⟨W0, hW0⟩ : ∃ W0, w.alloc (.cells #[.int .i64 at', .slice a l.length c] 61) = W0 := ⟨_, rfl⟩
  have HW0 : Hid (But [tb] w W0) := by unfold Hid; rw [← hW0]; exact (But.refl _ _).alloc _
  have HC : Hid (W0.cell? ⟨w.heap.size, 1, none⟩ = some (.slice a l.length c)) := by unfold Hid; rw [← hW0]; simp
  have HT0 : Hid (Blk W0 tb (boolsL tk)) := by unfold Hid; rw [← hW0]; exact HT.out.below ((Below.refl _ _).alloc (Nat.le_refl _) _)
  have Hn0 : Hid (w.heap.size ∉ [tb]) := by unfold Hid; simp; omega
  have HK0 : Hid (Row W0 a (l.flatMap keyL)) := by unfold Hid; rw [← hW0]; exact HK.out.below ((Below.refl _ _).alloc (Nat.le_refl _) _)
  go_enter Try.func21, Try.ntmps21
  have HW0' := Lib.hid hW0
  clear hW0
  go_wp2
  rw [HW0'.out]
  clear HW0'
  go_loopg [15] l.length (fun n i wr => But [tb] W0 wr ∧ ∃ (j : Nat), j ≤ l.length ∧ i = .int .i64 j ∧ Hid (n = l.length - j ∧ fitsB tk (ps.take j) = true ∧ Blk wr tb (boolsL (markB true tk (ps.take j)))))
  case atStart => exact ⟨But.refl _ _, 0, by omega, rfl, rfl, by rw [List.take_zero]; exact fits_nil _, by rw [List.take_zero]; exact HT0.out⟩
  case round =>
    obtain ⟨hb, j, hj, rfl, hr⟩ := hrel
    have Hb := Lib.hid hb
    clear hb
    by_cases hlt : j < l.length
    · have hlt2 : (j : Int) < (l.length : Int) := by omega
      obtain ⟨g, o, rfl⟩ := row_some HK.out (by omega)
      have htp : 0 < tk.length := h0 (by omega)
      have hgt : g ∉ [tb] := by have := Hne.out g o rfl; simpa using this
      have Hgt := Lib.hid hgt
      have HA := Lib.hid ((row_key HK0.out hlt).but Hb.out hgt)
      have Hpl := Lib.hid (pos_lt d htp l[j])
      have hpc := pos_cast d htp l[j]
      have hbd := hashF_b d l[j]
      have HSj := Lib.hid (HS.out j hlt)
      have Hfs : Hid (fitsB tk (ps.take (j + 1)) = !(markB true tk (ps.take j)).getD (pos d tk.length l[j]) true) := by unfold Hid; rw [HSj.out]; exact fits_snoc hr.out.2.1 Hpl.out
      obtain ⟨cur, hcur⟩ : ∃ cur, markB true tk (ps.take j) = cur := ⟨_, rfl⟩
      rw [hcur] at Hfs
      have Hcl : Hid (cur.length = tk.length) := by unfold Hid; rw [← hcur]; exact markB_length _ _ _
      have Hcur : Hid (markB true tk (ps.take j) = cur) := hcur
      have HBl := hr.out.2.2
      rw [hcur] at HBl
      have HBl := Lib.hid HBl
      clear hgt hcur
      generalize hp : pos d tk.length l[j] = p at *
      generalize l[j] = kj at *
      clear hp
      have Hpc := Lib.hid hpc
      clear hpc
      go_wp2_with (first | (refine wpList_alloc_new rfl 27 rfl zs (Hz.out _) ?_) | (refine wpList_store_new rfl 27 _ _ rfl zs (keyC kj) 27 rfl rfl (by rw [hzs, keyC_size]) (one_keyC kj) (keySize kj) ?_) | (refine wpList_load_at rfl 27 _ rfl g (o + j * 33) rfl (keyC kj) HA.out _ Try.underlying27 rfl (keySize kj) ?_) | (refine wpList_load_at rfl 27 _ rfl wr.heap.size 0 rfl (keyC kj) (At.new _ _ _) _ Try.underlying27 rfl (keySize kj) ?_))
      refine (hash_any _ d hd kj).mono ?_
      rintro e w1 ⟨rfl, hb1⟩
      have Hbr : Hid (But [tb] W0 w1) := (Hb.out.alloc _).trans (But.of_below hb1)
      have HB1 : Hid (Blk w1 tb (boolsL cur)) := (HBl.out.below ((Below.refl _ _).alloc (Nat.le_refl _) _)).below hb1
      have c5 := Hbr.out.cell HC.out Hn0.out
      clear hb1
      have cT : w1.cell? ⟨tb, p, none⟩ = some (.bool (cur.getD p true)) := HB1.out.cell (boolsL_get (by rw [Hcl.out]; exact Hpl.out))
      have cF : w1.frozen? ⟨tb, p, none⟩ = false := HB1.out.free p
      have hpl := Hpl.out
      have hpc := Hpc.out
      cases hv : cur.getD p true with
      | false =>
        rw [hv] at cT
        have Hv := Lib.hid hv
        clear hv
        go_wp2
        go_roundg (l.length - (j + 1))
        case measure => have := hr.out.1; omega
        case rel => exact ⟨Hbr.out.setCell (.inl (by simp)) _, j + 1, by omega, by go_num, rfl, by rw [Hfs.out, Hv.out]; rfl, by
          rw [HSj.out, markB_snoc, Hcur.out, ← boolsL_set]
          exact HB1.out.set p _⟩
      | true =>
        rw [hv] at cT
        have Hv := Lib.hid hv
        clear hv
        have hjc : j ≤ c := by omega
        go_wp2
        clear cT cF hpc c5 HA Hpl hpl
        generalize hwz : w1 = wz at *
        clear hwz
        clear Hb HBl
        go_loopg [40] j (fun n i wr => But [tb] W0 wr ∧ ∃ (q : Nat), q ≤ j ∧ i = .int .i64 q ∧ Hid (n = j - q ∧ Blk wr tb (boolsL (markB false cur (ps.take q)))))
        case atStart => exact ⟨Hbr.out, 0, by omega, rfl, rfl, by rw [List.take_zero]; exact HB1.out⟩
        case round =>
          clear Hbr HB1
          obtain ⟨hb, q, hq, rfl, hr2⟩ := hrel
          have Hb := Lib.hid hb
          clear hb
          by_cases hlq : q < j
          · have hlq2 : (q : Int) < (j : Int) := by omega
            have hql : q < l.length := by omega
            have HA := Lib.hid ((row_key HK0.out hql).but Hb.out Hgt.out)
            have Hpl := Lib.hid (pos_lt d htp l[q])
            have hpc := pos_cast d htp l[q]
            have hbd := hashF_b d l[q]
            have HSq := Lib.hid (HS.out q hql)
            obtain ⟨cu2, hcu2⟩ : ∃ cu2, markB false cur (ps.take q) = cu2 := ⟨_, rfl⟩
            have Hcl2 : Hid (cu2.length = tk.length) := by unfold Hid; rw [← hcu2, markB_length]; exact Hcl.out
            have Hcu2 : Hid (markB false cur (ps.take q) = cu2) := hcu2
            have HBl := hr2.out.2
            rw [hcu2] at HBl
            have HBl := Lib.hid HBl
            clear hcu2
            generalize hp : pos d tk.length l[q] = p at *
            generalize l[q] = kj at *
            clear hp
            have Hpc := Lib.hid hpc
            clear hpc
            go_wp2_with (first | (refine wpList_alloc_new rfl 27 rfl zs (Hz.out _) ?_) | (refine wpList_store_new rfl 27 _ _ rfl zs (keyC kj) 27 rfl rfl (by rw [hzs, keyC_size]) (one_keyC kj) (keySize kj) ?_) | (refine wpList_load_at rfl 27 _ rfl g (o + q * 33) rfl (keyC kj) HA.out _ Try.underlying27 rfl (keySize kj) ?_) | (refine wpList_load_at rfl 27 _ rfl wr.heap.size 0 rfl (keyC kj) (At.new _ _ _) _ Try.underlying27 rfl (keySize kj) ?_))
            refine (hash_any _ d hd kj).mono ?_
            rintro e w1 ⟨rfl, hb1⟩
            have Hbr : Hid (But [tb] W0 w1) := (Hb.out.alloc _).trans (But.of_below hb1)
            have HB1 : Hid (Blk w1 tb (boolsL cu2)) := (HBl.out.below ((Below.refl _ _).alloc (Nat.le_refl _) _)).below hb1
            have c5 := Hbr.out.cell HC.out Hn0.out
            clear hb1
            have cT : w1.cell? ⟨tb, p, none⟩ = some (.bool (cu2.getD p true)) := HB1.out.cell (boolsL_get (by rw [Hcl2.out]; exact Hpl.out))
            have cF : w1.frozen? ⟨tb, p, none⟩ = false := HB1.out.free p
            have hpl := Hpl.out
            have hpc := Hpc.out
            clear c5
            go_wp2
            go_roundg (j - (q + 1))
            case measure => have := hr2.out.1; omega
            case rel => exact ⟨Hbr.out.setCell (.inl (by simp)) _, q + 1, by omega, by go_num, rfl, by
              rw [HSq.out, markB_snoc, Hcu2.out, ← boolsL_set]
              exact HB1.out.set p _⟩
          · have hge : ¬ (q : Int) < (j : Int) := by omega
            have Hf : Hid (fitsB tk ps = false) := fits_of_take (j := j + 1) (by rw [Hfs.out, Hv.out]; rfl)
            have HBf : Hid (Blk wr tb (boolsL tk)) := by
              have := hr2.out.2
              rw [show q = j by omega, ← Hcur.out, unmark hr.out.2.1] at this
              exact this
            go_wp2
            go_ret
            unfold RetTry
            rw [Hf.out]
            exact ⟨rfl, HBf.out, HW0.out.trans Hb.out⟩
    · have hge : ¬ (j : Int) < (l.length : Int) := by omega
      have Hf : Hid (fitsB tk ps = true) := by
        have := hr.out.2.1
        rwa [List.take_of_length_le (by have := Hlp.out; omega)] at this
      have HBf : Hid (Blk wr tb (boolsL (markB true tk ps))) := by
        have := hr.out.2.2
        rwa [List.take_of_length_le (by have := Hlp.out; omega)] at this
      go_wp2
      go_ret
      unfold RetTry
      rw [Hf.out]
      exact ⟨rfl, HBf.out, HW0.out.trans Hb.out⟩
end Go.Proofs.Ytekmiegonnhidaa
