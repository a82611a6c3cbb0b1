/- The walk over the reference's Hash, and group. -/
import Derived.Test.YtekmiegonnhidaaHa
import Derived.Test.YtekmiegonnhidaaPu
namespace Go.Proofs.Ytekmiegonnhidaa
open Go.RowKit Go.XR Go.PerfPure

theorem put_nb (n : Nat) (h : n < 4294967296) : (putB n 4).map (·.toNat) = nb n := by
  have e : putB n 4 = [UInt8.ofNat (n / 256 ^ 3), UInt8.ofNat (n / 256 ^ 2), UInt8.ofNat (n / 256 ^ 1), UInt8.ofNat (n / 256 ^ 0)] := rfl
  rw [e]
  simp only [List.map_cons, List.map_nil, UInt8.toNat_ofNat', nb]
  congr 1
  · omega
  · simp
theorem key_bytes (k : KeyT) : (k.sum.toList ++ putB k.n.toNat 4).map (·.toNat) = keyB k := by
  rw [List.map_append, put_nb _ k.n.toNat_lt]; rfl
theorem sum_flat (s : Vector UInt8 32) : s.toList.flatMap byteL = (sumC s).toList := by
  show _ = sumL s
  unfold sumL
  generalize s.toList = l
  induction l with
  | nil => rfl
  | cons a l ih => rw [List.flatMap_cons, List.map_cons, ih]; rfl
theorem bytes_get {l : List UInt8} {i : Nat} (h : i < l.length) : (l.flatMap byteL)[i]? = some (.int .u8 (l[i].toNat : Int)) := by
  have e : l.flatMap byteL = l.map bV := by
    clear h i
    induction l with
    | nil => rfl
    | cons a l ih => rw [List.flatMap_cons, List.map_cons, ih]; rfl
  rw [e, List.getElem?_map, List.getElem?_eq_getElem h]; rfl
theorem fold_take (L : List UInt8) (H : Int) {j : Nat} (h : j < L.length) : ((L.take (j + 1)).map (·.toNat)).foldl stepH H = stepH (((L.take j).map (·.toNat)).foldl stepH H) L[j].toNat := by
  rw [List.take_succ_eq_append_getElem h, List.map_append, List.foldl_append]; rfl
theorem at_row {w : World} {g o : Nat} {cs : Array Value} (h : At w g o cs) : Row w (some ⟨g, o, none⟩) cs.toList := .inr ⟨g, o, rfl, fun j u hj => h j u (by simpa using hj)⟩

set_option maxHeartbeats 1000000 in
set_option maxRecDepth 100000 in
theorem refhash_any (w : World) (s : Int) (hs : 0 ≤ s ∧ s < 18446744073709551616) (k : KeyT) : Calls Try.prog 10 #[.int .u64 s, keyV k] w fun e w' => e = .returned (.int .u64 (hashF s k)) ∧ Below w.heap.size w w' := by
  have hK : At (w.alloc (.cells (keyC k) 27)) w.heap.size 0 (keyC k) := At.new _ _ _
  have hS : At (w.alloc (.cells (keyC k) 27)) w.heap.size 0 (sumC k.sum) := by have := hK.sub 0 32; rwa [keyC_sum] at this
  have HS := Lib.hid (at_row hS)
  have HN : Hid (∀ w', Below (w.heap.size + 1) (w.alloc (.cells (keyC k) 27)) w' → w'.cell? ⟨w.heap.size, 32, none⟩ = some (.int .u32 (k.n.toNat : Int))) := fun w' hb => by
    have h := hK _ _ (keyC_n k)
    rw [Nat.zero_add] at h
    rw [hb.cell (p := ⟨w.heap.size, 32, none⟩) (by simp)]; exact h
  have Hn := k.n.toNat_lt
  have HF : Hid (hashF s k = bits .xor .u64 (hashI s k) (hashI s k / 4294967296)) := rfl
  obtain ⟨h0, hh0⟩ : ∃ h0, hash0 s = h0 := ⟨_, rfl⟩
  have hb0 := hash0_b s
  rw [hh0] at hb0
  have Hh0 : Hid (bits .xor .u64 14695981039346656037 s = h0) := hh0
  have HI : Hid (hashI s k = ((k.sum.toList ++ putB k.n.toNat 4).map (·.toNat)).foldl stepH h0) := by unfold Hid hashI; rw [key_bytes, hh0]
  clear hK hS hh0
  have hl32 : k.sum.toList.length = 32 := by simp
  have Hl32 := Lib.hid hl32
  have hl4 := Lib.hid (putB_length k.n.toNat 4)
  clear hl32
  have hM : (min (max (4 : Int) 0) 8) = ((4 : Nat) : Int) := by decide
  have HM := Lib.hid hM
  clear hM
  go_enter Try.func10, Try.ntmps10
  go_wp2_with (at_builtin; refine Go.XR.stop (fun X hX => ?_))
  refine hX.out ?_
  clear hX X
  refine wpList_plain rfl (fun K hK => ?_)
  refine append_enc (P := Try.prog) byteL 1 1 byteL_len byteL_one 5 Try.underlying51 (by kernel_rfl) (by decide) (w.heap.size + 1) none 0 [] rfl ⟨rfl, .inl ⟨rfl, rfl⟩⟩ (some ⟨w.heap.size, 0, none⟩) 32 k.sum.toList (by rw [Hl32.out]; rfl) (by rw [sum_flat]; exact HS.out) (fun e => by cases e) (by rw [Hl32.out]; simp) (by rw [Hl32.out]; unfold maxLen; simp) (by simp) ?_
  intro a' c' w2 ho2 hb2 _ _
  rw [List.nil_append] at ho2 ⊢
  rw [Hl32.out] at ho2 ⊢
  have Ho2 := Lib.hid ho2
  have Hb2 := Lib.hid hb2
  have cN := HN.out _ hb2
  have hz2 : w.heap.size + 1 ≤ w2.heap.size := by have := hb2.size; simpa using this
  clear ho2 hb2
  go_step
  refine hK _ _ ?_
  clear hK K
  go_wp2_with fail
  refine (put_any _ k.n.toNat (by omega) 4 4 HM.out).mono ?_
  rintro e w3 ⟨a3, c3, rfl, ho3, hb3⟩
  rw [hl4.out] at ho3 ⊢
  have Ho3 := Lib.hid (Row.owned ho3)
  have Hnil3 : Hid (a3 = none → (4 : Nat) = 0 ∧ c3 = 0) := by
    rintro rfl; exact owns_nil ho3
  have Ho23 := Lib.hid (owns_below Ho2.out hb3)
  have Hb3 := Lib.hid (Hb2.out.trans (hb3.mono hz2))
  have hz3 : w.heap.size + 1 ≤ w3.heap.size := Nat.le_trans hz2 hb3.size
  clear ho3 hb3 cN
  go_wp2_with (at_builtin; refine Go.XR.stop (fun X hX => ?_))
  refine hX.out ?_
  clear hX X
  refine wpList_plain rfl (fun K hK => ?_)
  refine append_enc (P := Try.prog) byteL 1 1 byteL_len byteL_one 5 Try.underlying51 (by kernel_rfl) (by decide) (w.heap.size + 1) a' c' k.sum.toList (by rw [Hl32.out]; rfl) (by rw [Hl32.out]; exact Ho23.out) a3 c3 (putB k.n.toNat 4) (by rw [hl4.out]; rfl) Ho3.out (by rw [hl4.out]; exact Hnil3.out) (by rw [Hl32.out, hl4.out]; simp) (by rw [Hl32.out, hl4.out]; unfold maxLen; simp) hz3 ?_
  intro a4 c4 w4 ho4 hb4 _ _
  have hl36 : (k.sum.toList ++ putB k.n.toNat 4).length = 36 := by rw [List.length_append, Hl32.out, hl4.out]
  generalize k.sum.toList ++ putB k.n.toNat 4 = L at ho4 hl36 HI ⊢
  rw [hl36] at ho4 ⊢
  have Hl36 := Lib.hid hl36
  have Hr4 := Lib.hid (Row.owned ho4)
  have Hb4 := Lib.hid (((Below.refl w.heap.size w).alloc (Nat.le_refl _) _).trans ((Hb3.out.trans hb4).mono (by simp)))
  clear ho4 hb4 hl36
  go_step
  refine hK _ _ ?_
  clear hK K
  go_wp2
  rw [Hh0.out]
  go_loopg [7, 6] 36 (fun n i h wr => wr = w4 ∧ ∃ (j : Nat) (H : Int), j ≤ 36 ∧ i = .int .i64 j ∧ h = .int .u64 H ∧ 0 ≤ H ∧ H < 18446744073709551616 ∧ Hid (n = 36 - j ∧ H = ((L.take j).map (·.toNat)).foldl stepH h0))
  case atStart => exact ⟨rfl, 0, h0, by omega, rfl, rfl, hb0.1, hb0.2, rfl, rfl⟩
  case round =>
    obtain ⟨rfl, j, H, hj, rfl, rfl, h1, h2, hn⟩ := hrel
    by_cases hlt : j < 36
    · have hlt2 : (j : Int) < 36 := by omega
      have hltL : j < L.length := by have := Hl36.out; omega
      obtain ⟨g, o, rfl, c0⟩ := Hr4.out.get (bytes_get hltL)
      have HT := Lib.hid (fold_take L h0 hltL)
      have hb := L[j].toNat_lt
      generalize L[j].toNat = b at *
      go_wp2
      go_roundg (36 - (j + 1))
      case measure => have := hn.out.1; omega
      case rel => exact ⟨rfl, j + 1, stepH H b, by omega, by go_num, rfl, (stepH_b H b).1, (stepH_b H b).2, rfl, by rw [HT.out, ← hn.out.2]⟩
    · have hge : ¬ (j : Int) < 36 := by omega
      have HH : Hid (hashI s k = H) := by
        unfold Hid
        rw [HI.out, hn.out.2, List.take_of_length_le (by have := Hl36.out; omega)]
      go_wp2
      go_ret
      exact ⟨by rw [HF.out, HH.out]; rfl, Hb4.out⟩
end Go.Proofs.Ytekmiegonnhidaa
