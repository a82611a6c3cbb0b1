/- The walks over Hash. -/
import Derived.Test.YtekmiegonnhidaaKy
import Derived.Test.YtekmiegonnhidaaHp
import Derived.Deep.LoopGhost
import Derived.Outline
namespace Go.Proofs.Ytekmiegonnhidaa
open Go.RowKit Go.XR Go.PerfPure

set_option maxHeartbeats 1000000 in
set_option maxRecDepth 100000 in
theorem hash_any (w : World) (s : Int) (hs : 0 ≤ s ∧ s < 18446744073709551616) (k : KeyT) : Calls Try.prog 9 #[.int .u64 s, keyV k] w fun e w' => e = .returned (.int .u64 (hashF s k)) ∧ Below w.heap.size w w' := by
  have hK : At (w.alloc (.cells (keyC k) 27)) w.heap.size 0 (keyC k) := At.new _ _ _
  have hS : At (w.alloc (.cells (keyC k) 27)) w.heap.size 0 (sumC k.sum) := by have := hK.sub 0 32; rwa [keyC_sum] at this
  have hN : (w.alloc (.cells (keyC k) 27)).cell? ⟨w.heap.size, 32, none⟩ = some (.int .u32 (k.n.toNat : Int)) := by have := hK _ _ (keyC_n k); rwa [Nat.zero_add] at this
  have HS := Lib.hid hS
  have HN := Lib.hid hN
  have Hn := k.n.toNat_lt
  have HF : Hid (hashF s k = bits .xor .u64 (hashI s k) (hashI s k / 4294967296)) := rfl
  have HI : Hid (hashI s k = (nb k.n.toNat).foldl stepH ((k.sum.toList.map (·.toNat)).foldl stepH (hash0 s))) := by unfold Hid hashI keyB; rw [List.foldl_append]
  obtain ⟨h0, hh0⟩ : ∃ h0, hash0 s = h0 := ⟨_, rfl⟩
  have hb0 := hash0_b s
  rw [hh0] at hb0
  have Hh0 : Hid (bits .xor .u64 14695981039346656037 s = h0) := hh0
  have HT := fun j (h : j < 32) => Lib.hid (sum_take k.sum h)
  have HT := Lib.hid HT
  rw [hh0] at HI
  have Hln : Hid ((k.sum.toList.map (·.toNat)).length = 32) := by unfold Hid; simp
  generalize hL : k.sum.toList.map (·.toNat) = L at *
  clear hK hS hN hh0 hL
  go_enter Try.func9, Try.ntmps9
  go_wp2_with (refine wpList_load_at rfl 24 _ rfl w.heap.size 0 rfl (sumC k.sum) HS.out _ Try.underlying24 rfl (sumSize _) ?_)
  rw [Hh0.out]
  go_loopg [13, 5] 32 (fun n i h wr => wr = w.alloc (.cells (keyC k) 27) ∧ ∃ (j : Nat) (H : Int), j ≤ 32 ∧ i = .int .i64 j ∧ h = .int .u64 H ∧ 0 ≤ H ∧ H < 18446744073709551616 ∧ Hid (n = 32 - j ∧ H = (L.take j).foldl stepH h0))
  case atStart => exact ⟨rfl, 0, h0, by omega, rfl, rfl, hb0.1, hb0.2, rfl, rfl⟩
  case round =>
    obtain ⟨rfl, j, H, hj, rfl, rfl, h1, h2, hn⟩ := hrel
    by_cases hlt : j < 32
    · have hlt2 : (j : Int) < 32 := by omega
      have hx := sum_index k.sum hlt (w.alloc (.cells (keyC k) 27))
      have hb := k.sum[j].toNat_lt
      have HT := Lib.hid (HT.out j hlt).out
      generalize k.sum[j].toNat = b at *
      go_wp2
      go_roundg (32 - (j + 1))
      case measure => have := hn.out.1; omega
      case rel => exact ⟨rfl, j + 1, stepH H b, by omega, by go_num, rfl, (stepH_b H b).1, (stepH_b H b).2, rfl, by rw [HT.out, List.foldl_append, ← hn.out.2]; rfl⟩
    · have hge : ¬ (j : Int) < 32 := by omega
      have HH : Hid (hashI s k = (nb k.n.toNat).foldl stepH H) := by
        unfold Hid
        have := hn.out.2
        rw [List.take_of_length_le (by have := Hln.out; omega)] at this
        rw [this]; exact HI.out
      go_wp2
      clear hn HI HT Hln hb0 Hh0
      go_loopg [8, 5] 4 (fun n i h wr => wr = w.alloc (.cells (keyC k) 27) ∧ ∃ (j : Nat) (z H' : Int), j ≤ 4 ∧ i = .int .i64 z ∧ z = 24 - 8 * j ∧ h = .int .u64 H' ∧ 0 ≤ H' ∧ H' < 18446744073709551616 ∧ Hid (n = 4 - j ∧ H' = ((nb k.n.toNat).take j).foldl stepH H))
      case atStart => exact ⟨rfl, 0, 24, H, by omega, rfl, by omega, rfl, h1, h2, rfl, rfl⟩
      case round =>
        clear h1 h2
        obtain ⟨rfl, j, z, H', hj, rfl, hz, rfl, h1, h2, hn⟩ := hrel
        have cN := HN.out
        by_cases hlt : j < 4
        · have HT := Lib.hid (nb_take k.n.toNat hlt)
          rcases (show j = 0 ∨ j = 1 ∨ j = 2 ∨ j = 3 by omega) with rfl | rfl | rfl | rfl
          · obtain rfl : z = 24 := by omega
            clear hz
            go_wp2
            go_roundg (4 - (0 + 1))
            case measure => have := hn.out.1; omega
            case rel => exact ⟨rfl, 0 + 1, 16, stepH H' (k.n.toNat / 16777216), by omega, by go_num, by omega, by unfold stepH; congr 4, (stepH_b H' _).1, (stepH_b H' _).2, rfl, by rw [HT.out, List.foldl_append, ← hn.out.2]; rfl⟩
          · obtain rfl : z = 16 := by omega
            clear hz
            go_wp2
            go_roundg (4 - (1 + 1))
            case measure => have := hn.out.1; omega
            case rel => exact ⟨rfl, 1 + 1, 8, stepH H' (k.n.toNat / 65536 % 256), by omega, by go_num, by omega, by unfold stepH; congr 4, (stepH_b H' _).1, (stepH_b H' _).2, rfl, by rw [HT.out, List.foldl_append, ← hn.out.2]; rfl⟩
          · obtain rfl : z = 8 := by omega
            clear hz
            go_wp2
            go_roundg (4 - (2 + 1))
            case measure => have := hn.out.1; omega
            case rel => exact ⟨rfl, 2 + 1, 0, stepH H' (k.n.toNat / 256 % 256), by omega, by go_num, by omega, by unfold stepH; congr 4, (stepH_b H' _).1, (stepH_b H' _).2, rfl, by rw [HT.out, List.foldl_append, ← hn.out.2]; rfl⟩
          · obtain rfl : z = 0 := by omega
            clear hz
            go_wp2
            go_roundg (4 - (3 + 1))
            case measure => have := hn.out.1; omega
            case rel => exact ⟨rfl, 3 + 1, -8, stepH H' (k.n.toNat % 256), by omega, by go_num, by omega, by unfold stepH; congr 4, (stepH_b H' _).1, (stepH_b H' _).2, rfl, by rw [HT.out, List.foldl_append, ← hn.out.2]; rfl⟩
        · have hz2 : ¬ 0 ≤ z := by omega
          go_wp2
          go_ret
          refine ⟨?_, (Below.refl _ _).alloc (Nat.le_refl _) _⟩
          have e := hn.out.2
          rw [List.take_of_length_le (by show 4 ≤ j; omega)] at e
          rw [HF.out, HH.out, ← e]
          rfl
end Go.Proofs.Ytekmiegonnhidaa
