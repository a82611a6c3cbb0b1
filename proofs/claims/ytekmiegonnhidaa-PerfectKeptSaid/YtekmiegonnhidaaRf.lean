/- The walk over the reference's fits. -/
import Derived.Test.YtekmiegonnhidaaRo
namespace Go.PerfPure
theorem fits_add {tk : List Bool} {o : List Nat} {p : Nat} (h : fitsB tk o = true) : fitsB tk (o ++ [p]) = decide (tk[p]? = some false ∧ p ∉ o) := by
  have h := of_decide_eq_true (show decide _ = true from h)
  unfold fitsB
  rw [decide_eq_decide]
  constructor
  · rintro ⟨h1, h2⟩
    rw [List.nodup_append] at h1
    exact ⟨h2 p (by simp), fun hp => h1.2.2 p hp p (by simp) rfl⟩
  · rintro ⟨h1, h2⟩
    refine ⟨?_, fun q hq => ?_⟩
    · rw [List.nodup_append]
      refine ⟨h.1, by simp, fun a ha b hb e => ?_⟩
      rw [List.mem_singleton] at hb
      subst hb; subst e
      exact h2 ha
    · rw [List.mem_append, List.mem_singleton] at hq
      rcases hq with hq | rfl
      · exact h.2 q hq
      · exact h1
end Go.PerfPure
namespace Go.Proofs.Ytekmiegonnhidaa
open Go.RowKit Go.XR Go.PerfPure
def RetFits (w : World) (tk : List Bool) (ps : List Nat) (e : Ending) (w' : World) : Prop :=
  Below w.heap.size w w' ∧ if fitsB tk ps = true then ∃ a c, e = .returned (.tuple #[.slice a ps.length c, .bool true]) ∧ w'.ownsRow w.heap.size 3 1 (.slice a ps.length c) ps.length (ps.flatMap intL) else e = .returned (.tuple #[.slice none 0 0, .bool false])
theorem RetFits.no {w w' : World} {tk : List Bool} {ps : List Nat} (h : fitsB tk ps = false) (hb : Below w.heap.size w w') : RetFits w tk ps (.returned (.tuple #[.slice none 0 0, .bool false])) w' := ⟨hb, by rw [if_neg (by rw [h]; simp)]⟩
theorem RetFits.yes {w w' : World} {tk : List Bool} {ps : List Nat} (h : fitsB tk ps = true) (hb : Below w.heap.size w w') {a : Option Addr} {c : Nat} (ho : w'.ownsRow w.heap.size 3 1 (.slice a ps.length c) ps.length (ps.flatMap intL)) :
    RetFits w tk ps (.returned (.tuple #[.slice a ps.length c, .bool true])) w' := ⟨hb, by rw [if_pos h]; exact ⟨a, c, rfl, ho⟩⟩
set_option maxHeartbeats 1000000 in
set_option maxRecDepth 100000 in
theorem fits_any (w : World) (la : Option Addr) (lc : Nat) (l : List KeyT) (hL : Row w la (l.flatMap keyL)) (hl : l.length ≤ 16384) (d : Int) (hd : 0 ≤ d ∧ d < 18446744073709551616) (tb tc : Nat) (tk : List Bool) (hT : Blk w tb (boolsL tk)) (htk : tk.length < 2^40) (h0 : 0 < l.length → 0 < tk.length) :
    Calls Try.prog 25 #[.slice la l.length lc, .int .u64 d, .int .i64 tk.length, .slice (some ⟨tb, 0, none⟩) tk.length tc] w (RetFits w tk (l.map (pos d tk.length))) := by
  have HL := Lib.hid hL
  have HT := Lib.hid hT
  clear hL hT
  have Hlp : Hid ((l.map (pos d tk.length)).length = l.length) := List.length_map ..
  have Hpk : Hid (∀ i (h : i < l.length), (l.map (pos d tk.length)).take (i + 1) = (l.map (pos d tk.length)).take i ++ [pos d tk.length l[i]]) := fun i h => by
    rw [List.take_succ_eq_append_getElem (by rw [List.length_map]; exact h), List.getElem_map]
  obtain ⟨ps, hps⟩ : ∃ ps, l.map (pos d tk.length) = ps := ⟨_, rfl⟩
  rw [hps] at Hlp Hpk ⊢
  clear hps
  go_enter Try.func25, Try.ntmps25
  go_wp2
  go_loopg [11, 10] l.length (fun n i out w1 => Below w.heap.size w w1 ∧ ∃ (j : Nat) (o : List Nat) (a : Option Addr) (c : Nat), j ≤ l.length ∧ i = .int .i64 j ∧ out = .slice a o.length c ∧ Hid (n = l.length - j ∧ o = ps.take j ∧ fitsB tk o = true ∧ w1.ownsRow w.heap.size 3 1 (.slice a o.length c) o.length (o.flatMap intL)))
  case atStart => exact ⟨Below.refl _ _, 0, [], none, 0, by omega, rfl, rfl, rfl, rfl, fits_nil _, rfl, .inl ⟨rfl, rfl⟩⟩
  case round =>
    obtain ⟨hb, j, o, a, c, hj, rfl, rfl, hr⟩ := hrel
    have Hb := Lib.hid hb
    clear hb
    have Ho := Lib.hid hr.out.2.1
    have Hf := Lib.hid hr.out.2.2.1
    have Hown := Lib.hid hr.out.2.2.2
    have hgn := hr.out.1
    clear hr
    by_cases hlt : j < l.length
    · have hlt2 : (j : Int) < (l.length : Int) := by omega
      obtain ⟨g, oo, rfl⟩ := row_some HL.out (by omega)
      have htp : 0 < tk.length := h0 (by omega)
      have hol : o.length ≤ 16384 := by rw [Ho.out, List.length_take, Hlp.out]; omega
      have HA := Lib.hid (At.below (row_key HL.out hlt) (by rw [keyC_size]; omega) Hb.out)
      have Hpl := Lib.hid (pos_lt d htp l[j])
      have hpc := pos_cast d htp l[j]
      have hbd := hashF_b d l[j]
      have Hnx : Hid (o ++ [pos d tk.length l[j]] = ps.take (j + 1)) := by unfold Hid; rw [Hpk.out j hlt, Ho.out]
      generalize pos d tk.length l[j] = p at *
      generalize l[j] = kj at *
      have hpl := Hpl.out
      go_wp2_with (refine wpList_load_at rfl 27 _ rfl g (oo + j * 33) rfl (keyC kj) HA.out _ Try.underlying27 rfl (keySize kj) ?_)
      refine (refhash_any _ d hd kj).mono ?_
      rintro e w1 ⟨rfl, hb1⟩
      have Hb1 := Lib.hid (Hb.out.trans (hb1.mono Hb.out.size))
      have Hown1 := Lib.hid (owns_below Hown.out hb1)
      have hsz1 := hb1.size
      clear hb1 Hb Hown HA
      have cT : w1.cell? ⟨tb, p, none⟩ = some (.bool (tk.getD p true)) := (HT.out.below Hb1.out).cell (boolsL_get hpl)
      have HF : Hid (fitsB tk (ps.take (j + 1)) = decide (tk[p]? = some false ∧ p ∉ o)) := by unfold Hid; rw [← Hnx.out]; exact fits_add Hf.out
      cases hv : tk.getD p true with
      | true =>
        rw [hv] at cT
        have HN : Hid (fitsB tk ps = false) := fits_of_take (j := j + 1) (by
          rw [HF.out]
          refine decide_eq_false fun h => ?_
          rw [List.getD_eq_getElem?_getD, h.1] at hv; cases hv)
        clear hv
        go_wp2
        go_ret2
        exact RetFits.no HN.out Hb1.out
      | false =>
        rw [hv] at cT
        have Hv : Hid (tk[p]? = some false) := by
          unfold Hid
          rw [List.getD_eq_getElem?_getD] at hv
          rw [List.getElem?_eq_getElem hpl] at hv ⊢
          exact congrArg some hv
        clear hv
        go_wp2
        clear cT hpc
        have Hbx := Hb1
        have Hbo := Hown1
        go_loopg [13] o.length (fun n i w2 => w1 = w2 ∧ ∃ q : Nat, q ≤ o.length ∧ i = .int .i64 q ∧ Hid (n = o.length - q ∧ ∀ r (h : r < o.length), r < q → o[r] ≠ p))
        case atStart => exact ⟨rfl, 0, by omega, rfl, rfl, fun r _ h => by omega⟩
        case round =>
          obtain ⟨rfl, q, hq, rfl, hr⟩ := hrel
          by_cases hlq : q < o.length
          · have hlq2 : (q : Int) < (o.length : Int) := by omega
            obtain ⟨g2, o2, rfl⟩ : ∃ g2 o2, a = some ⟨g2, o2, none⟩ := owns_some Hown1.out (by have := owns_le Hown1.out; omega)
            have c1 : w1.cell? ⟨g2, o2 + q, none⟩ = some (.int .i64 (o[q] : Nat)) := by
              have h1 := (Row.owned Hown1.out).get (j := q) (u := .int .i64 (o[q] : Nat)) (by
                have h2 := flat_get (enc := intL) (k := 1) (fun _ => rfl) o (j := 0) hlq (by omega)
                rw [Nat.mul_one, Nat.add_zero] at h2
                rw [h2]; rfl)
              obtain ⟨_, _, he, h3⟩ := h1
              cases he
              exact h3
            obtain ⟨oq, hoq⟩ : ∃ oq, o[q] = oq := ⟨_, rfl⟩
            rw [hoq] at c1
            have Hoq := Lib.hid hoq
            clear hoq
            by_cases he : oq = p
            · subst he
              have HN : Hid (fitsB tk ps = false) := fits_of_take (j := j + 1) (by
                rw [HF.out]
                exact decide_eq_false fun h => h.2 (by rw [← Hoq.out]; exact List.getElem_mem hlq))
              go_wp2
              go_ret2
              exact RetFits.no HN.out Hb1.out
            · have hne : ¬ (oq : Int) = (p : Int) := by omega
              go_wp2
              go_roundg (o.length - (q + 1))
              case measure => have := hr.out.1; omega
              case rel => exact ⟨rfl, q + 1, by omega, by go_num, rfl, fun r h1 h2 => by
                by_cases cc : r < q
                · exact hr.out.2 r h1 cc
                · obtain rfl : r = q := by omega
                  rw [Hoq.out]; exact he⟩
          · have hge : ¬ (q : Int) < (o.length : Int) := by omega
            have HN : Hid (fitsB tk (o ++ [p]) = true) := by
              unfold Hid
              rw [Hnx.out, HF.out]
              refine decide_eq_true ⟨Hv.out, fun hm => ?_⟩
              obtain ⟨r, hr1, hr2⟩ := List.getElem_of_mem hm
              exact hr.out.2 r hr1 (by omega) hr2
            have hszb := Hb1.out.size
            go_wp2_with (at_builtin; refine Go.XR.stop (fun X hX => ?_))
            refine hX.out ?_
            clear hX X
            refine wpList_plain rfl (fun K hK => ?_)
            refine append_enc (P := Try.prog) intL 1 8 (fun _ => rfl) intL_one 3 Try.underlying43 (by kernel_rfl) (by decide) w.heap.size a c o rfl (Hown1.out.alloc _) (some ⟨w1.heap.size, 0, none⟩) 1 [p] rfl (by show Row _ _ [Value.int .i64 p]; exact Row.new _ _ _) (fun e => by cases e) (by simp; omega) (by unfold maxLen; simp; omega) (by simp; omega) ?_
            intro a3 c3 w3 ho3 hb3 _ _
            have Ho3 := Lib.hid ho3
            have Hb3 := Lib.hid ((Hb1.out.alloc Hb1.out.size _).trans hb3)
            clear ho3 hb3
            obtain ⟨o3, hoo⟩ : ∃ o3, o ++ [p] = o3 := ⟨_, rfl⟩
            rw [hoo] at HN Hnx Ho3 ⊢
            clear hoo
            go_wp2
            go_roundg (l.length - (j + 1))
            case measure => omega
            case rel => exact ⟨Hb3.out, j + 1, o3, a3, c3, by omega, by go_num, rfl, rfl, Hnx.out, HN.out, Ho3.out⟩
    · have hge : ¬ (j : Int) < (l.length : Int) := by omega
      obtain rfl : o = ps := by rw [Ho.out, List.take_of_length_le (by rw [Hlp.out]; omega)]
      go_wp2
      go_ret2
      exact RetFits.yes Hf.out Hb.out Hown.out
end Go.Proofs.Ytekmiegonnhidaa
