/- The walk over unlike. -/
import Derived.Test.YtekmiegonnhidaaLb
namespace Go.PerfPure
open Go.XR
def unlikeP (L : List KeyT) : List KeyT := L.foldl (fun o k => if k ∈ o then o else o ++ [k]) []
theorem unlike_snoc (L : List KeyT) (k : KeyT) : unlikeP (L ++ [k]) = if k ∈ unlikeP L then unlikeP L else unlikeP L ++ [k] := by unfold unlikeP; rw [List.foldl_append]; rfl
theorem unlike_facts : ∀ (L o : List KeyT), o.Nodup → (L.foldl (fun o k => if k ∈ o then o else o ++ [k]) o).Nodup ∧ (L.foldl (fun o k => if k ∈ o then o else o ++ [k]) o).length ≤ o.length + L.length
  | [], _, h => ⟨h, by simp⟩
  | k :: L, o, h => by
    rw [List.foldl_cons]
    by_cases c : k ∈ o
    · rw [if_pos c]
      have := unlike_facts L o h
      exact ⟨this.1, by rw [List.length_cons]; omega⟩
    · rw [if_neg c]
      have := unlike_facts L (o ++ [k]) (by
        rw [List.nodup_append]
        refine ⟨h, by simp, fun a ha b hb e => ?_⟩
        rw [List.mem_singleton] at hb
        subst hb; subst e; exact c ha)
      refine ⟨this.1, ?_⟩
      have h2 := this.2
      rw [List.length_append] at h2
      simp at h2
      rw [List.length_cons]; omega
theorem unlike_nodup (L : List KeyT) : (unlikeP L).Nodup := (unlike_facts L [] List.nodup_nil).1
theorem unlike_len (L : List KeyT) : (unlikeP L).length ≤ L.length := by have := (unlike_facts L [] List.nodup_nil).2; unfold unlikeP; simpa using this
end Go.PerfPure
namespace Go.Proofs.Ytekmiegonnhidaa
open Go.RowKit Go.XR Go.PerfPure
def RetUnlike (w : World) (U : List KeyT) (e : Ending) (w' : World) : Prop :=
  ∃ a c, e = .returned (.slice a U.length c) ∧ w'.ownsRow w.heap.size 27 33 (.slice a U.length c) U.length (U.flatMap keyL) ∧ Below w.heap.size w w'
set_option maxHeartbeats 4000000 in
set_option maxRecDepth 100000 in
theorem unlike_any (w : World) (la : Option Addr) (lc : Nat) (l : List KeyT) (hL : Row w la (l.flatMap keyL)) (hl : l.length ≤ maxLen) (hc : l.length ≤ lc) :
    Calls Try.prog 11 #[.slice la l.length lc] w (RetUnlike w (unlikeP (l.take 400))) := by
  obtain ⟨zs, hzs, hz⟩ := zero_key
  have Hz := Lib.hid hz
  clear hz
  have HL := Lib.hid (row_few hL)
  have Hfew := Lib.hid (fun W => few_any W la lc l hl hc)
  have hl4 := few_len l
  clear hL hl hc
  go_enter Try.func11, Try.ntmps11
  go_wp2_with fail
  refine (Hfew.out _).mono ?_
  rintro e w' ⟨rfl, hw⟩
  rw [hw]
  clear hw Hfew
  generalize l.take 400 = L at *
  generalize l.length = n0 at *
  go_wp2
  go_loopg [12, 3] L.length (fun n i out w1 => Below w.heap.size w w1 ∧ ∃ (j : Nat) (o : List KeyT) (a : Option Addr) (c : Nat), j ≤ L.length ∧ i = .int .i64 j ∧ out = .slice a o.length c ∧ Hid (n = L.length - j ∧ o = unlikeP (L.take j) ∧ w1.ownsRow w.heap.size 27 33 (.slice a o.length c) o.length (o.flatMap keyL)))
  case atStart => exact ⟨Below.refl _ _, 0, [], none, 0, by omega, rfl, rfl, rfl, rfl, rfl, .inl ⟨rfl, rfl⟩⟩
  case round =>
    obtain ⟨hb, j, o, a, c, hj, rfl, rfl, hr⟩ := hrel
    have Hb := Lib.hid hb
    clear hb
    have Ho := Lib.hid hr.out.2.1
    have Hown := Lib.hid hr.out.2.2
    have hgn := hr.out.1
    clear hr
    by_cases hlt : j < L.length
    · have hlt2 : (j : Int) < (L.length : Int) := by omega
      obtain ⟨g, oo, rfl⟩ := row_some HL.out (by omega)
      have HA := Lib.hid (At.below (row_key HL.out hlt) (by rw [keyC_size]; omega) Hb.out)
      have hol : o.length ≤ 400 := by rw [Ho.out]; refine Nat.le_trans (unlike_len _) ?_; rw [List.length_take]; omega
      have Hsn : Hid (unlikeP (L.take (j + 1)) = if L[j] ∈ o then o else o ++ [L[j]]) := by
        unfold Hid
        rw [List.take_succ_eq_append_getElem hlt, unlike_snoc, ← Ho.out]
      generalize L[j] = kj at *
      go_wp2_with (first | (refine wpList_alloc_new rfl 27 rfl zs (Hz.out _) ?_) | (refine wpList_store_new rfl 27 _ _ rfl zs (keyC kj) 27 rfl rfl (by rw [hzs, keyC_size]) (one_keyC kj) (keySize kj) ?_) | (refine wpList_load_at rfl 27 _ rfl g (oo + j * 33) rfl (keyC kj) HA.out _ Try.underlying27 rfl (keySize kj) ?_))
      obtain ⟨W1, hW1⟩ : ∃ W1, wr.alloc (.cells (keyC kj) 27) = W1 := ⟨_, rfl⟩
      obtain ⟨kb, hkb⟩ : ∃ kb, wr.heap.size = kb := ⟨_, rfl⟩
      have hb1 : Below wr.heap.size wr W1 := by rw [← hW1]; exact (Below.refl _ _).alloc (Nat.le_refl _) _
      have HK1 : Hid (At W1 kb 0 (keyC kj)) := by unfold Hid; rw [← hW1, ← hkb]; exact At.new _ _ _
      have HB1 := Lib.hid (Hb.out.trans (hb1.mono Hb.out.size))
      have HO1 := Lib.hid (owns_below Hown.out hb1)
      rw [hW1, hkb]
      clear hW1 hkb hb1 HA Hb Hown
      try go_frame
      go_loopg [18, 6] o.length (fun n i is w2 => Below W1.heap.size W1 w2 ∧ ∃ q : Nat, q ≤ o.length ∧ i = .int .i64 q ∧ is = .bool (decide (kj ∈ o.take q)) ∧ Hid (n = o.length - q))
      case atStart => exact ⟨Below.refl _ _, 0, by omega, rfl, by simp, rfl⟩
      case round =>
        obtain ⟨hb, q, hq, rfl, rfl, hr2⟩ := hrel
        have Hb := Lib.hid hb
        clear hb
        have hgn2 := hr2.out
        clear hr2
        have HK2 : Hid (At wr kb 0 (keyC kj)) := At.below HK1.out (by rw [keyC_size]; omega) Hb.out
        have HO2 := Lib.hid (owns_below HO1.out Hb.out)
        by_cases hlq : q < o.length
        · have hlq2 : (q : Int) < (o.length : Int) := by omega
          obtain ⟨xg, xo, rfl⟩ := row_some (Row.owned HO2.out) (by omega)
          have HX := Lib.hid (row_key (Row.owned HO2.out) hlq)
          have Htq : Hid (o.take (q + 1) = o.take q ++ [o[q]]) := List.take_succ_eq_append_getElem hlq
          generalize o[q] = oq at *
          cases hv : decide (kj ∈ o.take q) with
          | true =>
            have Hn : Hid (decide (kj ∈ o.take (q + 1)) = true) := by
              refine decide_eq_true ?_
              rw [Htq.out]
              exact List.mem_append.2 (.inl (of_decide_eq_true hv))
            clear hv
            go_wp2_with (first | (refine wpList_alloc_new rfl 27 rfl zs (Hz.out _) ?_) | (refine wpList_store_new rfl 27 _ _ rfl zs (keyC oq) 27 rfl rfl (by rw [hzs, keyC_size]) (one_keyC oq) (keySize oq) ?_) | (refine wpList_load_at rfl 27 _ rfl xg (xo + q * 33) rfl (keyC oq) HX.out _ Try.underlying27 rfl (keySize oq) ?_))
            go_wp2
            go_roundg (o.length - (q + 1))
            case measure => omega
            case rel => exact ⟨Hb.out.alloc Hb.out.size _, q + 1, by omega, by go_num, by rw [Hn.out], rfl⟩
          | false =>
            have Hn : Hid (decide (kj ∈ o.take (q + 1)) = decide (oq = kj)) := by
              have h1 := of_decide_eq_false hv
              unfold Hid
              rw [decide_eq_decide, Htq.out, List.mem_append, List.mem_singleton]
              exact ⟨fun h => (h.resolve_left h1).symm, fun h => .inr h.symm⟩
            clear hv
            have heq := key_eq oq kj (wr.alloc (.cells (keyC oq) 27))
            obtain ⟨bq, hbq⟩ : ∃ bq, decide (oq = kj) = bq := ⟨_, rfl⟩
            rw [hbq] at heq Hn
            clear hbq
            have Heq := Lib.hid heq
            clear heq
            go_wp2_with (first | (refine wpList_alloc_new rfl 27 rfl zs (Hz.out _) ?_) | (refine wpList_store_new rfl 27 _ _ rfl zs (keyC oq) 27 rfl rfl (by rw [hzs, keyC_size]) (one_keyC oq) (keySize oq) ?_) | (refine wpList_load_at rfl 27 _ rfl xg (xo + q * 33) rfl (keyC oq) HX.out _ Try.underlying27 rfl (keySize oq) ?_) | (refine wpList_load_on rfl 27 _ rfl wr.heap.size 0 rfl (keyC oq) (At.new _ _ _) _ Try.underlying27 rfl (keySize oq) ?_) | (refine wpList_load_on rfl 27 _ rfl kb 0 rfl (keyC kj) (HK2.out.alloc _) _ Try.underlying27 rfl (keySize kj) ?_) | (refine wpList_eql_on rfl 27 _ _ _ rfl (keyC oq) (keyC kj) rfl rfl keyGuard _ Heq.out ?_))
            go_wp2
            go_roundg (o.length - (q + 1))
            case measure => omega
            case rel => exact ⟨Hb.out.alloc Hb.out.size _, q + 1, by omega, by go_num, by rw [Hn.out], rfl⟩
        · have hge : ¬ (q : Int) < (o.length : Int) := by omega
          rw [List.take_of_length_le (by omega : o.length ≤ q)]
          have HB2 := Lib.hid (HB1.out.trans (Hb.out.mono HB1.out.size))
          have hz2 := HB2.out.size
          cases hv : decide (kj ∈ o) with
          | true =>
            have Hn : Hid (o = unlikeP (L.take (j + 1))) := by unfold Hid; rw [Hsn.out, if_pos (of_decide_eq_true hv)]
            clear hv
            go_wp2
            go_roundg (L.length - (j + 1))
            case measure => omega
            case rel => exact ⟨HB2.out, j + 1, o, a, c, by omega, by go_num, rfl, rfl, Hn.out, HO2.out⟩
          | false =>
            have Hn : Hid (o ++ [kj] = unlikeP (L.take (j + 1))) := by unfold Hid; rw [Hsn.out, if_neg (of_decide_eq_false hv)]
            clear hv
            go_wp2_with (first | (refine wpList_load_at rfl 27 _ rfl kb 0 rfl (keyC kj) HK2.out _ Try.underlying27 rfl (keySize kj) ?_) | (refine wpList_build_one rfl 31 _ rfl 27 33 Try.underlying31 (by kernel_rfl) (by omega) (by omega) _ (Hz.out _) (keyC kj) rfl (keyC_size kj) ?_) | (at_builtin; refine Go.XR.stop (fun X hX => ?_)))
            refine hX.out ?_
            clear hX X
            refine wpList_plain rfl (fun K hK => ?_)
            refine append_enc (P := Try.prog) keyL 33 36 keyL_length one_keyL 27 Try.underlying31 (by kernel_rfl) (by decide) w.heap.size a c o rfl (HO2.out.alloc _) (some ⟨wr.heap.size, 0, none⟩) 1 [kj] rfl (by rw [List.flatMap_cons, List.flatMap_nil, List.append_nil]; exact Row.new _ _ _) (fun e => by cases e) (by simp; omega) (by unfold maxLen; simp; omega) (by simp; omega) ?_
            intro a3 c3 w3 ho3 hb3 _ _
            have Ho3 := Lib.hid ho3
            have Hb3 := Lib.hid ((HB2.out.alloc HB2.out.size _).trans hb3)
            clear ho3 hb3
            obtain ⟨o3, hoo⟩ : ∃ o3, o ++ [kj] = o3 := ⟨_, rfl⟩
            rw [hoo] at Hn Ho3 ⊢
            clear hoo
            go_wp2
            go_roundg (L.length - (j + 1))
            case measure => omega
            case rel => exact ⟨Hb3.out, j + 1, o3, a3, c3, by omega, by go_num, rfl, rfl, Hn.out, Ho3.out⟩
    · have hge : ¬ (j : Int) < (L.length : Int) := by omega
      obtain rfl : o = unlikeP L := by rw [Ho.out, List.take_of_length_le (by omega)]
      go_wp2
      go_ret
      exact ⟨a, c, rfl, Hown.out, Hb.out⟩
end Go.Proofs.Ytekmiegonnhidaa
