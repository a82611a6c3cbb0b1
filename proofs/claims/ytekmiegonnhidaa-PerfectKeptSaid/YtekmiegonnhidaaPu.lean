/- The walk over the reference's Put: the lowest bytes of a number, the highest first. -/
import Derived.Test.YtekmiegonnhidaaProg
import Derived.Test.YtekmiegonnhidaaKp
import Derived.Test.YtekmiegonnhidaaAe
import Derived.Deep.LoopGhost
namespace Go.XR
def byteL (b : UInt8) : List Value := [bV b]
theorem byteL_len (b : UInt8) : (byteL b).length = 1 := rfl
theorem byteL_one (b : UInt8) : ∀ v ∈ byteL b, v.oneCell' = true := by
  intro v hv; rw [byteL, List.mem_singleton] at hv; subst hv; rfl
/-- the m lowest bytes of n, the highest first -/
def putB (n m : Nat) : List UInt8 := (List.range m).map fun j => UInt8.ofNat (n / 256 ^ (m - 1 - j))
theorem putB_length (n m : Nat) : (putB n m).length = m := by simp [putB]
theorem putB_take (n m : Nat) {j : Nat} (h : j < m) : (putB n m).take (j + 1) = (putB n m).take j ++ [UInt8.ofNat (n / 256 ^ (m - 1 - j))] := by
  rw [List.take_succ_eq_append_getElem (by rw [putB_length]; exact h)]
  simp [putB]
theorem ofNat_mod (x : Nat) : ((x : Int) % 256) = ((UInt8.ofNat x).toNat : Int) := by
  rw [UInt8.toNat_ofNat']; omega
theorem byte_of (x : Nat) : Value.int .u8 ((x : Int) % 256) = bV (UInt8.ofNat x) := by unfold bV; rw [ofNat_mod]
end Go.XR
namespace Go.Proofs.Ytekmiegonnhidaa
open Go.RowKit Go.XR

set_option maxHeartbeats 1000000 in
set_option maxRecDepth 100000 in
theorem put_any (w : World) (n : Nat) (hn : n < 18446744073709551616) (many : Int) (m : Nat) (hm : (min (max many 0) 8) = (m : Int)) :
    Calls Try.prog 19 #[.int .u64 n, .int .i64 many] w fun e w' => ∃ a c, e = .returned (.slice a (putB n m).length c) ∧ w'.ownsRow w.heap.size 5 1 (.slice a (putB n m).length c) (putB n m).length ((putB n m).flatMap byteL) ∧ Below w.heap.size w w' := by
  have hm8 : m ≤ 8 := by omega
  have HL := Lib.hid (putB_length n m)
  have HT := fun j (h : j < m) => Lib.hid (putB_take n m h)
  have HT := Lib.hid HT
  obtain ⟨L, hL⟩ : ∃ L, putB n m = L := ⟨_, rfl⟩
  rw [hL] at HL HT ⊢
  clear hL
  go_enter Try.func19, Try.ntmps19
  go_wp2
  go_loopg [6, 5] m (fun q i b wr => Below w.heap.size w wr ∧ ∃ (j : Nat) (z : Int) (a : Option Addr) (c : Nat) (d : List UInt8), j ≤ m ∧ i = .int .i64 z ∧ Hid (z = (m : Int) - 1 - j) ∧ -1 ≤ z ∧ z < 8 ∧ b = .slice a d.length c ∧ Hid (q = m - j ∧ d = L.take j ∧ wr.ownsRow w.heap.size 5 1 (.slice a d.length c) d.length (d.flatMap byteL)))
  case atStart => exact ⟨Below.refl _ _, 0, m - 1, none, 0, [], by omega, rfl, by unfold Hid; omega, by omega, by omega, rfl, rfl, rfl, rfl, .inl ⟨rfl, rfl⟩⟩
  case round =>
    obtain ⟨hb, j, z, a, c, d, hj, rfl, hz, hz1, hz2, rfl, hr⟩ := hrel
    have Hb := Lib.hid hb
    clear hb
    by_cases hlt : j < m
    · have hz3 : 0 ≤ z := by have := hz.out; omega
      obtain ⟨i, hi⟩ : ∃ i : Nat, z = (i : Int) := ⟨z.toNat, by omega⟩
      subst hi
      have Hi : Hid (i = m - 1 - j) := by have := hz.out; unfold Hid; omega
      have Hm := Lib.hid hm
      clear hm
      obtain ⟨wo, rfl⟩ : ∃ wo : World, wo = wr := ⟨_, rfl⟩
      go_wp2
      go_loopg [8, 7] i (fun q2 k x wr => wr = wo ∧ ∃ (p X : Nat), p ≤ i ∧ k = .int .i64 p ∧ x = .int .u64 X ∧ X < 18446744073709551616 ∧ Hid (q2 = i - p ∧ X = n / 256 ^ p))
      case atStart => exact ⟨rfl, 0, n, by omega, rfl, rfl, hn, by omega, by simp⟩
      case round =>
        obtain ⟨rfl, p, X, hp, rfl, rfl, hX, hq⟩ := hrel
        by_cases hlt2 : p < i
        · have hlt3 : (p : Int) < (i : Int) := by omega
          go_wp2
          go_roundg (i - (p + 1))
          case measure => have := hq.out.1; omega
          case rel => exact ⟨rfl, p + 1, X / 256, by omega, by go_num, by go_num, by omega, rfl, by rw [hq.out.2, Nat.div_div_eq_div_mul, Nat.pow_succ]⟩
        · have hge : ¬ (p : Int) < (i : Int) := by omega
          have HX : Hid (X = n / 256 ^ (m - 1 - j)) := by
            unfold Hid
            rw [hq.out.2, ← Hi.out, show p = i by omega]
          have hd : d.length ≤ 8 := by rw [hr.out.2.1, List.length_take]; omega
          have Hr := Lib.hid hr.out.2.2
          have hz4 := Hb.out.size
          go_wp2_with (at_builtin; refine Go.XR.stop (fun X hX => ?_))
          refine hX.out ?_
          clear hX X
          refine wpList_plain rfl (fun K hK => ?_)
          refine append_enc (P := Try.prog) byteL 1 1 byteL_len byteL_one 5 Try.underlying51 (by kernel_rfl) (by decide) w.heap.size a c d rfl (Hr.out.alloc _) (some ⟨wr.heap.size, 0, none⟩) 1 [UInt8.ofNat X] rfl (by show Row _ _ [bV (UInt8.ofNat X)]; rw [← byte_of]; exact Row.new _ _ _) (fun e => by cases e) (by simp; omega) (by unfold maxLen; simp; omega) (by simp; omega) ?_
          intro a' c' w2 ho2 hb2 _ _
          obtain ⟨d2, hd2⟩ : ∃ d2, d ++ [UInt8.ofNat X] = d2 := ⟨_, rfl⟩
          have Hd2 : Hid (d2 = L.take (j + 1)) := by
            unfold Hid
            rw [(HT.out j hlt).out, ← hd2, hr.out.2.1, HX.out]
          rw [hd2] at ho2 ⊢
          have Ho2 := Lib.hid ho2
          have Hb2 := Lib.hid ((Hb.out.alloc hz4 _).trans hb2)
          clear ho2 hb2 hd2
          go_step
          refine hK _ _ ?_
          clear hK K
          go_wp2
          go_roundg (m - (j + 1))
          case measure => have := hr.out.1; omega
          case rel => exact ⟨Hb2.out, j + 1, (i : Int) - 1, a', c', d2, by omega, rfl, by have := Hi.out; unfold Hid; omega, by omega, by omega, rfl, rfl, Hd2.out, Ho2.out⟩
    · have hz3 : ¬ 0 ≤ z := by have := hz.out; omega
      have Hd : Hid (d = L) := by
        unfold Hid
        rw [hr.out.2.1, List.take_of_length_le]
        have := HL.out; omega
      have Hr := Lib.hid hr.out.2.2
      clear hr
      go_wp2
      go_ret
      refine ⟨a, c, ?_, ?_, Hb.out⟩
      · rw [← Hd.out]; rfl
      · rw [← Hd.out]; exact Hr.out
end Go.Proofs.Ytekmiegonnhidaa
