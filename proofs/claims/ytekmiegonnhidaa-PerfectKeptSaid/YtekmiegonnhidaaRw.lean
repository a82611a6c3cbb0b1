/- The walks over the reference's twice, group. -/
import Derived.Test.YtekmiegonnhidaaPl
import Derived.Test.YtekmiegonnhidaaHb
import Derived.Test.YtekmiegonnhidaaEql
namespace Go.Proofs.Ytekmiegonnhidaa
open Go.RowKit Go.XR Go.PerfPure
theorem keyGuard : Try.prog.eqGuardType Try.prog.depth 27 = false := by kernel_rfl
def RetBool (w : World) (b : Bool) (e : Ending) (w' : World) : Prop := e = .returned (.bool b) ∧ Below w.heap.size w w'
theorem nodup_take {l : List KeyT} {j : Nat} (hj : j < l.length) : (l.take (j + 1)).Nodup ↔ (l.take j).Nodup ∧ ∀ q (h : q < j), l[q] ≠ l[j] := by
  rw [List.take_succ_eq_append_getElem hj, List.nodup_append]
  constructor
  · rintro ⟨h1, _, h3⟩
    refine ⟨h1, fun q hq => h3 l[q] ?_ l[j] (by simp)⟩
    rw [List.mem_take_iff_getElem]
    exact ⟨q, by omega, rfl⟩
  · rintro ⟨h1, h2⟩
    refine ⟨h1, by simp, fun a ha b hb => ?_⟩
    rw [List.mem_singleton] at hb
    subst hb
    rw [List.mem_take_iff_getElem] at ha
    obtain ⟨q, hq, rfl⟩ := ha
    exact h2 q (by omega)
set_option maxHeartbeats 1000000 in
set_option maxRecDepth 100000 in
theorem twice_any (w : World) (la : Option Addr) (lc : Nat) (l : List KeyT) (hL : Row w la (l.flatMap keyL)) (hl : l.length < 2^40) :
    Calls Try.prog 22 #[.slice la l.length lc] w (RetBool w (decide ¬ l.Nodup)) := by
  have HL := Lib.hid hL
  clear hL
  obtain ⟨z, hz⟩ : ∃ z, decide (¬ l.Nodup) = z := ⟨_, rfl⟩
  rw [hz]
  have Hz : Hid (decide (¬ l.Nodup) = z) := hz
  clear hz
  go_enter Try.func22, Try.ntmps22
  go_wp2
  go_loopg [3] l.length (fun n i w1 => Below w.heap.size w w1 ∧ ∃ j : Nat, j ≤ l.length ∧ i = .int .i64 j ∧ Hid (n = l.length - j ∧ (l.take j).Nodup))
  case atStart => exact ⟨Below.refl _ _, 0, by omega, rfl, rfl, List.nodup_nil⟩
  case round =>
    obtain ⟨hb, j, hj, rfl, hr⟩ := hrel
    have Hb := Lib.hid hb
    clear hb
    by_cases hlt : j < l.length
    · have hlt2 : (j : Int) < (l.length : Int) := by omega
      obtain ⟨g, o, rfl⟩ := row_some HL.out (by omega)
      have HN : Hid ((l.take (j + 1)).Nodup ↔ (l.take j).Nodup ∧ ∀ q (h : q < j), l[q] ≠ l[j]) := nodup_take hlt
      have HAj := Lib.hid (row_key HL.out hlt)
      have Hbx := Hb
      obtain ⟨kj, hkj⟩ : ∃ kj, l[j] = kj := ⟨_, rfl⟩
      rw [hkj] at HN HAj
      clear hkj
      go_wp2
      go_loopg [4] j (fun n i w1 => Below w.heap.size w w1 ∧ ∃ q : Nat, q ≤ j ∧ i = .int .i64 q ∧ Hid (n = j - q ∧ ∀ r (h : r < q) (h2 : r < j), l[r] ≠ kj))
      case atStart => exact ⟨Hbx.out, 0, by omega, rfl, rfl, fun r h => by omega⟩
      case round =>
        clear Hb Hbx
        obtain ⟨hb, q, hq, rfl, hr2⟩ := hrel
        have Hb := Lib.hid hb
        clear hb
        by_cases hlq : q < j
        · have hlq2 : (q : Int) < (j : Int) := by omega
          have hql : q < l.length := by omega
          have hql2 : (q : Int) < (l.length : Int) := by omega
          have HJ := Lib.hid (At.below HAj.out (by rw [keyC_size]; omega) Hb.out)
          have HQ := Lib.hid (At.below (row_key HL.out hql) (by rw [keyC_size]; omega) Hb.out)
          obtain ⟨kq, hkq⟩ : ∃ kq, l[q] = kq := ⟨_, rfl⟩
          rw [hkq] at HQ
          have Hkq := Lib.hid hkq
          clear hkq
          have heq := key_eq kj kq wr.drew
          go_wp2
          refine Go.XR.region_sched ((· = wr.drew)) [(0, true), (1, true), (2, true), (3, true), (4, true), (5, true), (6, true), (7, true), (8, false)] [8] Try.mixed (by kernel_rfl) (by kernel_rfl) (by kernel_rfl) ?_
          simp only [List.map_cons, List.map_nil, List.getElem?_cons_succ, List.getElem?_cons_zero]
          repeat (first | (refine Go.XR.S_light rfl rfl rfl ?_ (fun w' hS K hK => ?_) (fun K hK => ?_); rotate_left 1; (cases hS; (first | (first | (refine Go.XR.wp_load_at 27 _ rfl g (o + j * 33) rfl (keyC kj) (At.drew HJ.out) _ Try.underlying27 rfl (keySize kj) ?_) | (refine Go.XR.wp_load_at 27 _ rfl g (o + q * 33) rfl (keyC kq) (At.drew HQ.out) _ Try.underlying27 rfl (keySize kq) ?_)) | go_step); exact hK); go_step; refine hK _ ?_; clear hK K))
          refine Go.XR.S_heavy (fun K hK => ?_)
          refine Go.XR.wp_agg_eql 27 _ _ _ rfl (keyC kj) (keyC kq) rfl rfl keyGuard _ heq ?_
          refine hK _ _ ⟨fun h => by simp at h, ?_⟩
          clear hK K heq
          refine Go.XR.S_nil ?_
          by_cases hk : kj = kq
          · subst hk
            go_wp2
            obtain rfl : z = true := by
              rw [← Hz.out]
              refine decide_eq_true fun h => ?_
              have h1 := HN.out.1 (h.sublist (List.take_sublist _ _))
              exact h1.2 q hlq Hkq.out
            go_ret
            exact ⟨rfl, Hb.out.drew⟩
          · go_wp2
            go_roundg (j - (q + 1))
            case measure => have := hr2.out.1; omega
            case rel => exact ⟨Hb.out.drew, q + 1, by omega, by go_num, rfl, fun r h1 h2 => by
              by_cases c : r < q
              · exact hr2.out.2 r c h2
              · obtain rfl : r = q := by omega
                rw [Hkq.out]; exact fun e => hk e.symm⟩
        · have hge : ¬ (q : Int) < (j : Int) := by omega
          go_wp2
          go_roundg (l.length - (j + 1))
          case measure => have := hr.out.1; omega
          case rel => exact ⟨Hb.out, j + 1, by omega, by go_num, rfl, HN.out.2 ⟨hr.out.2, fun r h => hr2.out.2 r (by omega) h⟩⟩
    · have hge : ¬ (j : Int) < (l.length : Int) := by omega
      obtain rfl : z = false := by
        rw [← Hz.out]
        have h1 := hr.out.2
        rw [List.take_of_length_le (by omega)] at h1
        exact decide_eq_false fun h => h h1
      go_wp2
      go_ret
      exact ⟨rfl, Hb.out⟩
set_option maxHeartbeats 1000000 in
set_option maxRecDepth 100000 in
theorem group_any (w : World) (k : KeyT) (many : Nat) (hm : 0 < many) (hm2 : many < 2^40) :
    Calls Try.prog 23 #[keyV k, .int .i64 many] w (RetInt w (pos 0 many k)) := by
  have hpl := pos_lt 0 hm k
  have hpc := pos_cast 0 hm k
  have hbd := hashF_b 0 k
  have hK : At (w.alloc (.cells (keyC k) 27)) w.heap.size 0 (keyC k) := At.new _ _ _
  have HK := Lib.hid hK
  clear hK
  generalize pos 0 many k = p at *
  go_enter Try.func23, Try.ntmps23
  go_wp2_with (refine wpList_load_at rfl 27 _ rfl w.heap.size 0 rfl (keyC k) HK.out _ Try.underlying27 rfl (keySize k) ?_)
  refine (refhash_any _ 0 (by omega) k).mono ?_
  rintro e w1 ⟨rfl, hb1⟩
  have Hb1 : Hid (Below w.heap.size w w1) := ((Below.refl _ _).alloc (Nat.le_refl _) _).trans (hb1.mono (by simp))
  clear hb1
  go_wp2
  go_ret
  exact ⟨rfl, Hb1.out⟩
end Go.Proofs.Ytekmiegonnhidaa
