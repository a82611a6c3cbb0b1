/- The walk over the statement IndexTwins. -/
import Derived.Test.YtnfbchhbcinloaaAc
namespace Go.XR
open Go
/-- an arm of the walk asks first which operation stands next -/
theorem opIs {P : Program} {w : World} {ops : Array Oper} {rest : List Oper} {o : Oper} {a : Act} {Q : Exit → Act → World → Prop} {X : Op} (_ : o.op = X) (h : wpList P ops Q (o :: rest) a w) : wpList P ops Q (o :: rest) a w := h
end Go.XR
namespace Go.Proofs.Ytnfbchhbcinloaa
open Go.RowKit Go.XR Go.IndexPure
theorem row_at {α : Type} {enc : α → List Value} {k : Nat} (hk : ∀ x, (enc x).length = k) {w : World} {a : Option Addr} {l : List α} (h : Row w a (l.flatMap enc)) {i : Nat} (hi : i < l.length) (hk0 : 0 < k) : ∃ g o, a = some ⟨g, o, none⟩ ∧ At w g (o + i * k) (enc l[i]).toArray := by
  rcases h with h | ⟨g, o, he, h⟩
  · have := flat_len hk l
    rw [h] at this
    have h2 : 0 < l.length * k := Nat.mul_pos (by omega) hk0
    rw [List.length_nil] at this
    omega
  · refine ⟨g, o, he, fun j u hj => ?_⟩
    have hjk : j < k := by have := (Array.getElem?_eq_some_iff.1 hj).1; rwa [List.size_toArray, hk] at this
    rw [Nat.add_assoc]
    refine h _ u ?_
    rw [flat_get hk l hi hjk, ← hj, List.getElem?_toArray]
theorem dec_of {p : Prop} [Decidable p] {b : Bool} (h : p ↔ b = true) : decide p = b := by cases b <;> simp_all
theorem act_at_gone {w : World} {b o : Nat} {a : ActT} (h : At w b o (actC a)) : w.cell? ⟨b, o, none⟩ = some (.bool a.gone) := h 0 _ rfl
theorem act_at_key {w : World} {b o : Nat} {a : ActT} (h : At w b o (actC a)) : At w b (o + 1) (keyC a.key) := fun j u hj => by
  rw [Nat.add_assoc]
  refine h (1 + j) u ?_
  have hj' : (keyL a.key)[j]? = some u := by simpa [keyC] using hj
  show (actL a).toArray[1 + j]? = some u
  rw [List.getElem?_toArray, Nat.add_comm]
  show (keyL a.key ++ placeL a.place)[j]? = some u
  rw [List.getElem?_append_left (List.getElem?_eq_some_iff.1 hj').1]; exact hj'
theorem act_at_place {w : World} {b o : Nat} {a : ActT} (h : At w b o (actC a)) : At w b (o + 34) (placeC a.place) := fun j u hj => by
  rw [Nat.add_assoc]
  refine h (34 + j) u ?_
  have hj' : (placeL a.place)[j]? = some u := by simpa [placeC] using hj
  show (actL a).toArray[34 + j]? = some u
  rw [List.getElem?_toArray, show 34 + j = (33 + j) + 1 by omega]
  show (keyL a.key ++ placeL a.place)[33 + j]? = some u
  rw [List.getElem?_append_right (by rw [keyL_length]; omega), keyL_length, show 33 + j - 33 = j by omega]; exact hj'
/-- the act with the asked fingerprint -/
def setSum (a : ActT) (d : SumT) : ActT := { a with key := ⟨d, a.key.n⟩ }
theorem setSum_cells (a : ActT) (d : SumT) : ((actC a).toList.take 1 ++ (sumC d).toList ++ (actC a).toList.drop (1 + (sumC d).size)).toArray = actC (setSum a d) := by
  rw [sumC_size]
  unfold actC
  congr 1
  show [Value.bool a.gone] ++ sumL d ++ (sumL a.key.sum ++ [Value.int .u32 (a.key.n.toNat : Int)] ++ placeL a.place).drop 32 = Value.bool a.gone :: (sumL d ++ [Value.int .u32 (a.key.n.toNat : Int)] ++ placeL a.place)
  rw [List.append_assoc (sumL a.key.sum), List.drop_left' (sumL_length _)]
  simp
/-- a variable of the call's own that was just made, written in part -/
theorem wpList_store_part {P : Program} {w : World} {ops : Array Oper} {rest : List Oper} {o : Oper} {a : Act} {Q : Exit → Act → World → Prop} (hgd : o.guard = none) (ty : TypeId) (x v : Operand) (ho : o.op = .store ty x v)
    (off : Nat) (cur cs new : Array Value) (t : TypeId) (hx : a.eval x = .pointer (some ⟨w.heap.size, off, none⟩)) (hv : a.eval v = .agg cs) (hl : off + cs.size ≤ cur.size) (h1 : ∀ v ∈ cs.toList, v.oneCell' = true)
    (hi : (P.info? ty).map (·.size) = some cs.size) (hnew : (cur.toList.take off ++ cs.toList ++ cur.toList.drop (off + cs.size)).toArray = new)
    (hK : wpList P ops Q rest (a.put o.dst undef) (w.alloc (.cells new t))) : wpList P ops Q (o :: rest) a (w.alloc (.cells cur t)) :=
  wpList_plain hgd fun _ hK' => wp_store_at ty x v ho w.heap.size off hx cs cur hv t (by rw [(MapKept.heap_alloc w _).1]) hl h1 hi (by
    rw [hnew, alloc_setRow]
    exact hK' _ _ hK)
theorem actSize (a : ActT) : (Try.prog.info? 37).map (·.size) = some (actC a).size := by rw [actC_size]; kernel_rfl
theorem zero_act : ∃ zs : Array Value, zs.size = 36 ∧ ∀ w, (zeroValue 37).run Try.prog w = .ok (.agg zs) w := ⟨_, rfl, fun w => Try.zeroValue37 w⟩
theorem keyGuard : Try.prog.eqGuardType Try.prog.depth 27 = false := by kernel_rfl
theorem sumGuard : Try.prog.eqGuardType Try.prog.depth 24 = false := by kernel_rfl
/-- all keys of a list that have one fingerprint are as many as the twins -/
theorem twins_all {D : List (KeyT × PlaceT)} {d : SumT} {ns : List UInt32} (hD : (D.map (·.1)).Nodup) (h : TwinsOf D d ns) (hall : ∀ k v, aget D k = some v → k.sum = d) : ns.length = D.length := by
  refine Nat.le_antisymm h.2.2 ?_
  have h1 : ((D.map (·.1))).length ≤ (ns.map fun n => (⟨d, n⟩ : KeyT)).length := hD.length_le_of_subset fun k hk => by
    obtain ⟨⟨k', v⟩, hm, rfl⟩ := List.mem_map.1 hk
    have h2 := (aget_mem hD).2 hm
    refine List.mem_map.2 ⟨k'.n, (h.2.1 _).2 ?_, ?_⟩
    · rw [← hall _ _ h2, key_eta, h2]; rfl
    · rw [← hall _ _ h2, key_eta]
  simpa using h1
theorem Ix.nd {w : World} {F : List Nat} {p : Nat} {D : List (KeyT × PlaceT)} (h : Ix w F p D) : (D.map (·.1)).Nodup := by
  obtain ⟨pb, tb, sb, T, Sh, L, h1, h2⟩ := h; exact h2.nd
theorem Ix.fin {w : World} {F : List Nat} {p : Nat} {D : List (KeyT × PlaceT)} (h : Ix w F p D) : ∀ b ∈ F, b < w.heap.size := by
  obtain ⟨pb, tb, sb, T, Sh, L, h1, h2⟩ := h; exact h1.fin
set_option maxHeartbeats 8000000 in
set_option maxRecDepth 100000 in
theorem twins_walk (w : World) (a : Option Addr) (c : Nat) (l : List ActT) (hR : Row w a (l.flatMap actL)) (hl : l.length ≤ maxLen) (hc : l.length ≤ c) (k : KeyT) :
    Calls Try.prog 3 #[.slice a l.length c, keyV k] w (RetBool w true) := by
  obtain ⟨zs, hzs, hz⟩ := zero_act
  have Hz := Lib.hid hz
  obtain ⟨zp, hzp, hzq⟩ : ∃ zp : Array Value, zp.size = 2 ∧ ∀ w, (zeroValue 33).run Try.prog w = .ok (.agg zp) w := ⟨_, rfl, fun w => Try.zeroValue33 w⟩
  have Hzq := Lib.hid hzq
  clear hz hzq
  obtain ⟨W0, hW0⟩ : ∃ W0, w.alloc (.cells (keyC k) 27) = W0 := ⟨_, rfl⟩
  have hb0 : Below w.heap.size w W0 := by rw [← hW0]; exact (Below.refl _ _).alloc (Nat.le_refl _) _
  have hK0 : At W0 w.heap.size 0 (keyC k) := by rw [← hW0]; exact At.new _ _ _
  have Hb0 := Lib.hid hb0
  have HK0 := Lib.hid hK0
  have HR := Lib.hid hR
  clear hb0 hK0 hR
  obtain ⟨kb, hkb⟩ : ∃ kb, w.heap.size = kb := ⟨_, rfl⟩
  have Hkb := Lib.hid hkb
  rw [hkb] at HK0
  go_enter Try.func3, Try.ntmps3
  go_wp2_with fail
  refine (shown_any W0).mono ?_
  rintro e w1 ⟨rfl, hb1⟩
  have Hb1 := Lib.hid (Hb0.out.trans (hb1.mono Hb0.out.size))
  have HK1 := Lib.hid (HK0.out.below (by rw [keyC_size]; omega) hb1)
  clear hb1 Hb0 HK0
  go_wp2_with fail
  refine (new_any w1).mono ?_
  intro e w2 h2
  obtain ⟨p, F, rfl, hI, hF, hb2⟩ := h2.ix
  clear h2
  have HI := Lib.hid hI
  have HF := Lib.hid hF
  have Hb2 := Lib.hid hb2
  clear hI hF hb2
  go_wp2_with fail
  refine (few_any w2 a c l hl hc).mono ?_
  rintro e w3 ⟨rfl, hw3⟩
  rw [hw3]
  clear hw3 w3
  obtain ⟨l', hl'⟩ : ∃ l', l.take 200 = l' := ⟨_, rfl⟩
  have hll : l'.length ≤ 200 := by rw [← hl', List.length_take]; omega
  have HR' : Hid (Row w a (l'.flatMap actL)) := by
    unfold Hid
    rw [← hl']
    have h1 := HR.out.take ((min 200 l.length) * 36)
    rw [flat_take actL_length l (Nat.min_le_right _ _)] at h1
    rwa [show l.take (min 200 l.length) = l.take 200 by rw [List.take_eq_take_iff]; omega] at h1
  rw [hl']
  clear hl' HR hl hc
  obtain ⟨B, hB⟩ : ∃ B, w1.heap.size = B := ⟨_, rfl⟩
  have HBw := Lib.hid hB
  rw [hB] at HF Hb2
  have hB2 : B ≤ w2.heap.size := by have := Hb2.out.size; rw [hB] at this; exact this
  have hkB : kb < B := by rw [← hB]; exact HK1.out.lt (by rw [keyC_size]; omega)
  clear hB hkb hW0
  go_wp2
  go_loopg [21] l'.length (fun m x wr => ∃ (j : Nat) (F : List Nat) (D : List (KeyT × PlaceT)), x = .int .i64 j ∧ j ≤ l'.length ∧ Hid (m = l'.length - j ∧ Below B w1 wr ∧ Ix wr F p D ∧ (∀ b ∈ F, B ≤ b) ∧ D.length ≤ j ∧ (∀ k' v, aget D k' = some v → k'.sum = k.sum)))
  case atStart => exact ⟨0, F, [], rfl, by omega, rfl, Hb2.out, HI.out, HF.out, Nat.le_refl _, fun k' v h => by cases h⟩
  case round =>
    clear HI HF Hb2 hB2
    obtain ⟨j, F, D, rfl, hj, hr⟩ := hrel
    have hgn := hr.out.1
    have Hb := Lib.hid hr.out.2.1
    have HI := Lib.hid hr.out.2.2.1
    have HF := Lib.hid hr.out.2.2.2.1
    have Hall := Lib.hid hr.out.2.2.2.2.2
    have hDj := hr.out.2.2.2.2.1
    clear hr
    have hBr : B ≤ wr.heap.size := by have := Hb.out.size; rw [HBw.out] at this; exact this
    have HW := Lib.hid (Hb1.out.trans (Hb.out.mono (by rw [← HBw.out]; exact Hb1.out.size)))
    have HK := Lib.hid (HK1.out.below (by rw [keyC_size]; omega) (by rw [HBw.out]; exact Hb.out))
    by_cases hlt : j < l'.length
    · have hlt2 : (j : Int) < (l'.length : Int) := by omega
      obtain ⟨g, o, rfl, hX⟩ := row_at actL_length (HR'.out.below HW.out) hlt (by omega)
      have HX : Hid (At wr g (o + j * 36) (actC l'[j])) := hX
      clear hX
      generalize l'[j] = act at *
      obtain ⟨act', hact⟩ : ∃ a', setSum act k.sum = a' := ⟨_, rfl⟩
      have hsum : act'.key.sum = k.sum := by rw [← hact]; rfl
      have Hset : Hid (((actC act).toList.take 1 ++ (sumC k.sum).toList ++ (actC act).toList.drop (1 + (sumC k.sum).size)).toArray = actC act') := by unfold Hid; rw [setSum_cells, hact]
      clear hact
      have Hsum := Lib.hid hsum
      clear hsum
      have ho := act'.ok
      have Hok := Lib.hid ho
      clear ho
      cases hgo : act'.gone with
      | true =>
        have hq0 : (actC act')[0]? = some (.bool true) := by rw [← hgo]; rfl
        go_wp2_with (first | (refine wpList_load_at rfl 37 (.tmp 23) rfl g (o + j * 36) (by kernel_rfl) (actC act) HX.out _ Try.underlying37 rfl (actSize act) ?_) | (refine wpList_alloc_new rfl 37 rfl zs (Hz.out _) ?_) | (refine opIs (X := .store 37 (.tmp 8) (.tmp 24)) rfl ?_; refine wpList_store_new rfl 37 (.tmp 8) (.tmp 24) rfl zs (actC act) 37 (by kernel_rfl) (by kernel_rfl) (by rw [hzs, actC_size]) (one_actL act) (actSize act) ?_) | (refine wpList_load_at rfl 24 (.tmp 25) rfl kb 0 (by kernel_rfl) (sumC k.sum) ((key_at_sum HK.out).alloc _) _ Try.underlying24 rfl (sumSize k.sum) ?_) | (refine opIs (X := .store 24 (.tmp 29) (.tmp 26)) rfl ?_; refine wpList_store_part rfl 24 (.tmp 29) (.tmp 26) rfl 1 (actC act) (sumC k.sum) (actC act') 37 (by kernel_rfl) (by kernel_rfl) (by rw [actC_size, sumC_size]; omega) (one_sumL k.sum) (sumSize k.sum) Hset.out ?_) | (refine wpList_load_at rfl 27 (.tmp 34) rfl wr.heap.size 1 (by kernel_rfl) (keyC act'.key) (by have := act_at_key (At.new wr (actC act') 37); rwa [Nat.zero_add] at this) _ Try.underlying27 rfl (keySize act'.key) ?_) | fail)
        have hbA : Below wr.heap.size wr (wr.alloc (.cells (actC act') 37)) := (Below.refl _ _).alloc (Nat.le_refl _) _
        refine (drop_any _ F p D (HI.out.below hbA) (by omega) act'.key).mono ?_
        rintro e w5 ⟨rfl, F5, hI5, hb5, hg5⟩
        have hD5 : (adel D act'.key).length ≤ 2^20 := by have := adel_len D act'.key; omega
        have hD5j : (adel D act'.key).length ≤ j + 1 := by have := adel_len D act'.key; omega
        have Hall5 : Hid (∀ k' v, aget (adel D act'.key) k' = some v → k'.sum = k.sum) := fun k' v h => by
          rw [aget_del] at h
          split at h
          · cases h
          · exact Hall.out k' v h
        have Hget : Hid ((aget (adel D act'.key) act'.key).isSome = false) := by unfold Hid; rw [aget_del, if_pos rfl]; rfl
        generalize adel D act'.key = D5 at *
        have hkF : kb ∉ F := fun h => by have := HF.out _ h; omega
        have hab : wr.heap.size ∉ F := fun h => by have := HI.out.fin _ h; omega
        have HK5 := Lib.hid ((HK.out.alloc (.cells (actC act') 37)).but hb5 hkF)
        have HA5 := Lib.hid ((At.new wr (actC act') 37).but hb5 hab)
        have hbA2 : Below B wr (wr.alloc (.cells (actC act') 37)) := (Below.refl _ _).alloc hBr _
        have Hb5 := Lib.hid ((Hb.out.trans hbA2).trans (hb5.below (by have := hbA2.size; omega) HF.out))
        have HF5 : Hid (∀ b ∈ F5, B ≤ b) := fun b hbF => by
          rcases hg5 b hbF with h1 | h1
          · exact HF.out b h1
          · have := hbA2.size
            omega
        have HI5 := Lib.hid hI5
        clear hb5 hg5 hbA hbA2 hI5 hkF hab HX
        obtain ⟨ab, hab⟩ : ∃ ab, wr.heap.size = ab := ⟨_, rfl⟩
        rw [hab] at HA5 ⊢
        clear hab
        go_wp2_with (first | (refine wpList_load_at rfl 27 (.tmp 48) rfl ab 1 (by kernel_rfl) (keyC act'.key) (by have := act_at_key HA5.out; rwa [Nat.zero_add] at this) _ Try.underlying27 rfl (keySize act'.key) ?_) | fail)
        refine (own_get (B := B) ⟨F5, HI5.out, HF5.out⟩ act'.key).mono ?_
        rintro e w6 ⟨rfl, hb6⟩
        rw [Hget.out]
        generalize (aget D5 act'.key).getD place0 = v6
        have HK6 := Lib.hid (HK5.out.below (by rw [keyC_size]; omega) hb6)
        have HA6 := Lib.hid (HA5.out.below (by rw [actC_size]; omega) hb6)
        have HI6 := Lib.hid (HI5.out.below hb6)
        have hB5 : B ≤ w5.heap.size := by have := Hb5.out.size; rw [HBw.out] at this; exact this
        have Hb6 := Lib.hid (Hb5.out.trans (hb6.mono hB5))
        have hB6 : B ≤ w6.heap.size := Nat.le_trans hB5 hb6.size
        clear hb6 HK5 HA5 HI5 Hb5 hB5
        go_wp2_with (first | (refine wpList_alloc_new rfl 33 rfl zp (Hzq.out _) ?_) | (refine opIs (X := .store 33 (.tmp 9) (.tmp 51)) rfl ?_; refine wpList_store_new rfl 33 (.tmp 9) (.tmp 51) rfl zp (placeC v6) 33 (by kernel_rfl) (by kernel_rfl) (by rw [hzp]; rfl) (one_placeL v6) (placeSize v6) ?_) | (refine wpList_load_at rfl 24 (.tmp 54) rfl kb 0 (by kernel_rfl) (sumC k.sum) ((key_at_sum HK6.out).alloc _) _ Try.underlying24 rfl (sumSize k.sum) ?_) | fail)
        have hb7 : Below w6.heap.size w6 (w6.alloc (.cells (placeC v6) 33)) := (Below.refl _ _).alloc (Nat.le_refl _) _
        refine (own_twins (B := B) ⟨F5, HI6.out.below hb7, HF5.out⟩ hD5 k.sum).mono ?_
        rintro e w8 ⟨ns, htw, a8, c8, rfl, ho8, hb8⟩
        have hb68 : Below w6.heap.size w6 w8 := hb7.trans (hb8.mono hb7.size)
        have HK8 := Lib.hid (HK6.out.below (by rw [keyC_size]; omega) hb68)
        have HA8 := Lib.hid (HA6.out.below (by rw [actC_size]; omega) hb68)
        have HI8 := Lib.hid (HI6.out.below hb68)
        have Hb8 := Lib.hid (Hb6.out.trans (hb68.mono hB6))
        have hB8 : B ≤ w8.heap.size := Nat.le_trans hB6 hb68.size
        obtain ⟨ks, hks⟩ : ∃ ks, ns.map (fun n => (⟨k.sum, n⟩ : KeyT)) = ks := ⟨_, rfl⟩
        rw [hks] at ho8 ⊢
        have HR8 := Lib.hid (Row.owned ho8)
        have hkl : ks.length = ns.length := by rw [← hks, List.length_map]
        have hkD : ks.length = D5.length := by rw [hkl]; exact twins_all HI8.out.nd htw Hall5.out
        have Hkq : Hid (∀ q (h : q < ks.length), ks[q].sum = k.sum) := fun q h => by
          subst hks
          rw [List.getElem_map]
        have Hso : Hid (∀ q r (hq : q < ks.length) (hr : r < ks.length), q < r → ks[q].n.toNat < ks[r].n.toNat) := fun q r hq hr hlt => by
          subst hks
          rw [List.getElem_map, List.getElem_map]
          exact List.pairwise_iff_getElem.1 htw.1 q r (by simpa using hq) (by simpa using hr) hlt
        have Hmem : Hid (decide (act'.key ∈ ks) = false) := by
          have h1 : act'.key ∈ ks ↔ (aget D5 act'.key).isSome = true := by
            rw [← hks, List.mem_map]
            constructor
            · rintro ⟨n, hn, he⟩
              rw [← he]; exact (htw.2.1 n).1 hn
            · intro h
              refine ⟨act'.key.n, (htw.2.1 _).2 ?_, ?_⟩
              · rw [← Hsum.out, key_eta]; exact h
              · rw [← Hsum.out, key_eta]
          rw [Hget.out] at h1
          exact dec_of h1
        have Hsq : Hid (∀ w, (Op.equal 24 (sumV k.sum) (sumV k.sum)).run Try.prog w = .ok true w) := fun w => by have h := sum_eq k.sum k.sum w; rwa [decide_eq_true rfl] at h
        clear hb7 hb8 hb68 HK6 HA6 HI6 Hb6 htw hks ho8 hkl hB6
        go_wp2
        go_loopg [59, 11] ks.length (fun m i b w2 => Below w8.heap.size w8 w2 ∧ ∃ q : Nat, i = .int .i64 q ∧ q ≤ ks.length ∧ b = .bool (decide (act'.key ∈ ks.take q)) ∧ Hid (m = ks.length - q))
        case atStart => exact ⟨Below.refl _ _, 0, rfl, Nat.zero_le _, rfl, rfl⟩
        case round =>
          obtain ⟨hb9, q, rfl, hq, rfl, hm9⟩ := hrel
          have Hb9 := Lib.hid hb9
          have HK9 := Lib.hid (HK8.out.below (by rw [keyC_size]; omega) hb9)
          have HA9 := Lib.hid (HA8.out.below (by rw [actC_size]; omega) hb9)
          have hm10 := hm9.out
          clear hb9 hm9
          by_cases hql : q < ks.length
          · have hql2 : (q : Int) < (ks.length : Int) := by omega
            obtain ⟨g8, o8, rfl, hX9⟩ := row_at keyL_length (HR8.out.below Hb9.out) hql (by omega)
            have HX9 : Hid (At wr g8 (o8 + q * 33) (keyC ks[q])) := hX9
            have Hnx : Hid (act'.key ∈ ks.take (q + 1) ↔ act'.key ∈ ks.take q ∨ ks[q] = act'.key) := by
              unfold Hid
              rw [List.take_succ_eq_append_getElem hql, List.mem_append, List.mem_singleton]
              constructor
              · rintro (h | h)
                · exact .inl h
                · exact .inr h.symm
              · rintro (h | h)
                · exact .inl h
                · exact .inr h.symm
            have hks9 := Hkq.out q hql
            have Hsr : Hid (∀ r, q = r + 1 → ∃ kr : KeyT, At wr g8 (o8 + r * 33) (keyC kr) ∧ kr.n.toNat < ks[q].n.toNat) := fun r hr => by
              obtain ⟨g, o, he, hX⟩ := row_at keyL_length (HR8.out.below Hb9.out) (i := r) (by omega) (by omega)
              injection he with he
              injection he with h1 h2
              subst h1 h2
              exact ⟨ks[r], hX, Hso.out r q (by omega) hql (by omega)⟩
            clear hX9
            generalize ks[q] = kq at *
            have HXs : Hid (At wr g8 (o8 + q * 33) (sumC k.sum)) := by unfold Hid; rw [← hks9]; exact key_at_sum HX9.out
            have kn9 : wr.cell? ⟨g8, o8 + q * 33 + 32, none⟩ = some (.int .u32 (kq.n.toNat : Int)) := key_at_n HX9.out
            have HA1 : Hid (At wr ab 1 (keyC act'.key)) := by have := act_at_key HA9.out; rwa [Nat.zero_add] at this
            clear hks9
            by_cases hin : act'.key ∈ ks.take q
            · have Hb' : Hid (decide (act'.key ∈ ks.take (q + 1)) = true) := decide_eq_true (Hnx.out.2 (.inl hin))
              rw [decide_eq_true hin]
              clear hin
              go_wp2
              refine Go.XR.region_sched ((· = wr.drew)) [(0, true), (1, true), (2, true), (3, true), (4, true), (5, true), (6, true), (7, true), (8, true), (9, false), (10, false), (11, false)] [9, 10, 11] Try.mixed (by kernel_rfl) (by kernel_rfl) (by kernel_rfl) ?_
              simp only [List.map_cons, List.map_nil, List.getElem?_cons_succ, List.getElem?_cons_zero]
              repeat (first | (refine Go.XR.S_light rfl rfl rfl ?_ (fun w' hS K hK => ?_) (fun K hK => ?_); rotate_left 1; (cases hS; go_step; exact hK); go_step; refine hK _ ?_; clear hK K) | (refine Go.XR.S_light_off rfl rfl (fun K hK => ?_); go_step; refine hK _ ?_; clear hK K) | (refine Go.XR.S_light_on rfl rfl rfl rfl ?_ (fun w' hS K hK => ?_) (fun K hK => ?_); rotate_left 1; (cases hS; go_step; exact hK); go_step; refine hK _ ?_; clear hK K))
              repeat (first | (refine Go.XR.S_heavy (fun K hK => ?_); go_step; refine hK _ _ ⟨fun h => by simp at h, ?_⟩; clear hK K) | (refine Go.XR.S_heavy_off rfl (fun h => by simp at h) (fun K hK => ?_); go_step; refine hK _ ?_; clear hK K) | (refine Go.XR.S_heavy_on rfl (fun K hK => ?_); go_step; refine hK _ _ ⟨fun h => by simp at h, ?_⟩; clear hK K))
              refine Go.XR.S_nil ?_
              go_wp2
              rcases Nat.eq_zero_or_pos q with hq0 | hq0
              · have hqz : ¬ (0 : Int) < (q : Int) := by omega
                have hqn : ¬ 0 < q := by omega
                have Hq0 := Lib.hid hq0
                clear hq0
                refine Go.XR.region_sched ((· = wr.drew.drew)) [(0, true), (1, true), (2, true), (3, true), (4, true), (5, true), (6, true), (7, true), (8, true), (9, true), (10, true), (11, true), (12, true), (13, true), (14, true), (15, true), (16, true), (17, true), (18, true), (19, true), (20, true), (21, true), (22, true), (23, false), (24, false), (25, false)] [23, 24, 25] Try.mixed (by kernel_rfl) (by kernel_rfl) (by kernel_rfl) ?_
                simp only [List.map_cons, List.map_nil, List.getElem?_cons_succ, List.getElem?_cons_zero]
                repeat (first | (refine Go.XR.S_light rfl rfl rfl ?_ (fun w' hS K hK => ?_) (fun K hK => ?_); rotate_left 1; (cases hS; (first | (first | (refine Go.XR.wp_load_at 24 _ rfl g8 (o8 + q * 33) rfl (sumC k.sum) (At.drew HXs.out) _ Try.underlying24 rfl (sumSize k.sum) ?_) | (refine Go.XR.wp_load_at 24 _ rfl kb 0 rfl (sumC k.sum) (At.drew (key_at_sum HK9.out)) _ Try.underlying24 rfl (sumSize k.sum) ?_) | (refine Go.XR.wp_agg_neq 24 _ _ _ rfl (sumC k.sum) (sumC k.sum) rfl rfl sumGuard true (Hsq.out _) ?_)) | go_step); exact hK); go_step; refine hK _ ?_; clear hK K) | (refine Go.XR.S_light_off rfl rfl (fun K hK => ?_); go_step; refine hK _ ?_; clear hK K) | (refine Go.XR.S_light_on rfl rfl rfl rfl ?_ (fun w' hS K hK => ?_) (fun K hK => ?_); rotate_left 1; (cases hS; (first | (first | (refine Go.XR.wp_load_at 24 _ rfl g8 (o8 + q * 33) rfl (sumC k.sum) (At.drew HXs.out) _ Try.underlying24 rfl (sumSize k.sum) ?_) | (refine Go.XR.wp_load_at 24 _ rfl kb 0 rfl (sumC k.sum) (At.drew (key_at_sum HK9.out)) _ Try.underlying24 rfl (sumSize k.sum) ?_) | (refine Go.XR.wp_agg_neq 24 _ _ _ rfl (sumC k.sum) (sumC k.sum) rfl rfl sumGuard true (Hsq.out _) ?_)) | go_step); exact hK); go_step; refine hK _ ?_; clear hK K))
                repeat (first | (refine Go.XR.S_heavy (fun K hK => ?_); go_step; refine hK _ _ ⟨fun h => by simp at h, ?_⟩; clear hK K) | (refine Go.XR.S_heavy_off rfl (fun h => by simp at h) (fun K hK => ?_); go_step; refine hK _ ?_; clear hK K) | (refine Go.XR.S_heavy_on rfl (fun K hK => ?_); go_step; refine hK _ _ ⟨fun h => by simp at h, ?_⟩; clear hK K))
                refine Go.XR.S_nil ?_
                go_wp2
                go_roundg (ks.length - (q + 1))
                case measure => omega
                case rel => exact ⟨Hb9.out.drew.drew, q + 1, by go_num, by omega, by rw [Hb'.out], rfl⟩
              · obtain ⟨r, hr⟩ : ∃ r, q = r + 1 := ⟨q - 1, by omega⟩
                obtain ⟨kr, hXr, hltr⟩ := Hsr.out r hr
                have hqz : (0 : Int) < (q : Int) := by omega
                have hqn : 0 < q := hq0
                have hqr : (q : Int) - 1 = (r : Int) := by omega
                have hrl : (r : Int) < (ks.length : Int) := by omega
                have hrl2 : r < ks.length := by omega
                have knr : wr.cell? ⟨g8, o8 + r * 33 + 32, none⟩ = some (.int .u32 (kr.n.toNat : Int)) := key_at_n hXr
                have hng : ¬ (kq.n.toNat : Int) ≤ (kr.n.toNat : Int) := by omega
                have hng2 : ¬ kq.n.toNat ≤ kr.n.toNat := by omega
                have Hr := Lib.hid hr
                clear hr hXr hq0
                refine Go.XR.region_sched ((· = wr.drew.drew)) [(0, true), (1, true), (2, true), (3, true), (4, true), (5, true), (6, true), (7, true), (8, true), (9, true), (10, true), (11, true), (12, true), (13, true), (14, true), (15, true), (16, true), (17, true), (18, true), (19, true), (20, true), (21, true), (22, true), (23, false), (24, false), (25, false)] [23, 24, 25] Try.mixed (by kernel_rfl) (by kernel_rfl) (by kernel_rfl) ?_
                simp only [List.map_cons, List.map_nil, List.getElem?_cons_succ, List.getElem?_cons_zero]
                repeat (first | (refine Go.XR.S_light rfl rfl rfl ?_ (fun w' hS K hK => ?_) (fun K hK => ?_); rotate_left 1; (cases hS; (first | (first | (refine Go.XR.wp_load_at 24 _ rfl g8 (o8 + q * 33) rfl (sumC k.sum) (At.drew HXs.out) _ Try.underlying24 rfl (sumSize k.sum) ?_) | (refine Go.XR.wp_load_at 24 _ rfl kb 0 rfl (sumC k.sum) (At.drew (key_at_sum HK9.out)) _ Try.underlying24 rfl (sumSize k.sum) ?_) | (refine Go.XR.wp_agg_neq 24 _ _ _ rfl (sumC k.sum) (sumC k.sum) rfl rfl sumGuard true (Hsq.out _) ?_)) | go_step); exact hK); go_step; refine hK _ ?_; clear hK K) | (refine Go.XR.S_light_off rfl rfl (fun K hK => ?_); go_step; refine hK _ ?_; clear hK K) | (refine Go.XR.S_light_on rfl rfl rfl rfl ?_ (fun w' hS K hK => ?_) (fun K hK => ?_); rotate_left 1; (cases hS; (first | (first | (refine Go.XR.wp_load_at 24 _ rfl g8 (o8 + q * 33) rfl (sumC k.sum) (At.drew HXs.out) _ Try.underlying24 rfl (sumSize k.sum) ?_) | (refine Go.XR.wp_load_at 24 _ rfl kb 0 rfl (sumC k.sum) (At.drew (key_at_sum HK9.out)) _ Try.underlying24 rfl (sumSize k.sum) ?_) | (refine Go.XR.wp_agg_neq 24 _ _ _ rfl (sumC k.sum) (sumC k.sum) rfl rfl sumGuard true (Hsq.out _) ?_)) | go_step); exact hK); go_step; refine hK _ ?_; clear hK K))
                repeat (first | (refine Go.XR.S_heavy (fun K hK => ?_); go_step; refine hK _ _ ⟨fun h => by simp at h, ?_⟩; clear hK K) | (refine Go.XR.S_heavy_off rfl (fun h => by simp at h) (fun K hK => ?_); go_step; refine hK _ ?_; clear hK K) | (refine Go.XR.S_heavy_on rfl (fun K hK => ?_); go_step; refine hK _ _ ⟨fun h => by simp at h, ?_⟩; clear hK K))
                refine Go.XR.S_nil ?_
                go_wp2
                go_roundg (ks.length - (q + 1))
                case measure => omega
                case rel => exact ⟨Hb9.out.drew.drew, q + 1, by go_num, by omega, by rw [Hb'.out], rfl⟩
            · have Hb' : Hid (decide (act'.key ∈ ks.take (q + 1)) = decide (kq = act'.key)) := dec_of (by
                rw [decide_eq_true_eq, Hnx.out]
                exact ⟨fun h => h.resolve_left hin, .inr⟩)
              rw [decide_eq_false hin]
              clear hin
              have Heq := Lib.hid (key_eq kq act'.key wr.drew)
              go_wp2
              refine Go.XR.region_sched ((· = wr.drew)) [(0, true), (1, true), (2, true), (3, true), (4, true), (5, true), (6, true), (7, true), (8, true), (9, false), (10, false), (11, false)] [9, 10, 11] Try.mixed (by kernel_rfl) (by kernel_rfl) (by kernel_rfl) ?_
              simp only [List.map_cons, List.map_nil, List.getElem?_cons_succ, List.getElem?_cons_zero]
              repeat (first | (refine Go.XR.S_light rfl rfl rfl ?_ (fun w' hS K hK => ?_) (fun K hK => ?_); rotate_left 1; (cases hS; (first | (first | (refine Go.XR.wp_load_at 27 _ rfl g8 (o8 + q * 33) rfl (keyC kq) (At.drew HX9.out) _ Try.underlying27 rfl (keySize kq) ?_) | (refine Go.XR.wp_load_at 27 _ rfl ab 1 rfl (keyC act'.key) (At.drew HA1.out) _ Try.underlying27 rfl (keySize act'.key) ?_)) | go_step); exact hK); go_step; refine hK _ ?_; clear hK K) | (refine Go.XR.S_light_off rfl rfl (fun K hK => ?_); go_step; refine hK _ ?_; clear hK K) | (refine Go.XR.S_light_on rfl rfl rfl rfl ?_ (fun w' hS K hK => ?_) (fun K hK => ?_); rotate_left 1; (cases hS; (first | (first | (refine Go.XR.wp_load_at 27 _ rfl g8 (o8 + q * 33) rfl (keyC kq) (At.drew HX9.out) _ Try.underlying27 rfl (keySize kq) ?_) | (refine Go.XR.wp_load_at 27 _ rfl ab 1 rfl (keyC act'.key) (At.drew HA1.out) _ Try.underlying27 rfl (keySize act'.key) ?_)) | go_step); exact hK); go_step; refine hK _ ?_; clear hK K))
              refine Go.XR.S_heavy_on rfl (fun K hK => ?_)
              refine Go.XR.wp_agg_eql 27 _ _ _ rfl (keyC kq) (keyC act'.key) rfl rfl keyGuard _ Heq.out ?_
              refine hK _ _ ⟨fun h => by simp at h, ?_⟩
              clear hK K
              repeat (first | (refine Go.XR.S_heavy (fun K hK => ?_); go_step; refine hK _ _ ⟨fun h => by simp at h, ?_⟩; clear hK K) | (refine Go.XR.S_heavy_off rfl (fun h => by simp at h) (fun K hK => ?_); go_step; refine hK _ ?_; clear hK K) | (refine Go.XR.S_heavy_on rfl (fun K hK => ?_); go_step; refine hK _ _ ⟨fun h => by simp at h, ?_⟩; clear hK K))
              refine Go.XR.S_nil ?_
              generalize decide (kq = act'.key) = b9 at *
              go_wp2
              rcases Nat.eq_zero_or_pos q with hq0 | hq0
              · have hqz : ¬ (0 : Int) < (q : Int) := by omega
                have hqn : ¬ 0 < q := by omega
                have Hq0 := Lib.hid hq0
                clear hq0
                refine Go.XR.region_sched ((· = wr.drew.drew)) [(0, true), (1, true), (2, true), (3, true), (4, true), (5, true), (6, true), (7, true), (8, true), (9, true), (10, true), (11, true), (12, true), (13, true), (14, true), (15, true), (16, true), (17, true), (18, true), (19, true), (20, true), (21, true), (22, true), (23, false), (24, false), (25, false)] [23, 24, 25] Try.mixed (by kernel_rfl) (by kernel_rfl) (by kernel_rfl) ?_
                simp only [List.map_cons, List.map_nil, List.getElem?_cons_succ, List.getElem?_cons_zero]
                repeat (first | (refine Go.XR.S_light rfl rfl rfl ?_ (fun w' hS K hK => ?_) (fun K hK => ?_); rotate_left 1; (cases hS; (first | (first | (refine Go.XR.wp_load_at 24 _ rfl g8 (o8 + q * 33) rfl (sumC k.sum) (At.drew HXs.out) _ Try.underlying24 rfl (sumSize k.sum) ?_) | (refine Go.XR.wp_load_at 24 _ rfl kb 0 rfl (sumC k.sum) (At.drew (key_at_sum HK9.out)) _ Try.underlying24 rfl (sumSize k.sum) ?_) | (refine Go.XR.wp_agg_neq 24 _ _ _ rfl (sumC k.sum) (sumC k.sum) rfl rfl sumGuard true (Hsq.out _) ?_)) | go_step); exact hK); go_step; refine hK _ ?_; clear hK K) | (refine Go.XR.S_light_off rfl rfl (fun K hK => ?_); go_step; refine hK _ ?_; clear hK K) | (refine Go.XR.S_light_on rfl rfl rfl rfl ?_ (fun w' hS K hK => ?_) (fun K hK => ?_); rotate_left 1; (cases hS; (first | (first | (refine Go.XR.wp_load_at 24 _ rfl g8 (o8 + q * 33) rfl (sumC k.sum) (At.drew HXs.out) _ Try.underlying24 rfl (sumSize k.sum) ?_) | (refine Go.XR.wp_load_at 24 _ rfl kb 0 rfl (sumC k.sum) (At.drew (key_at_sum HK9.out)) _ Try.underlying24 rfl (sumSize k.sum) ?_) | (refine Go.XR.wp_agg_neq 24 _ _ _ rfl (sumC k.sum) (sumC k.sum) rfl rfl sumGuard true (Hsq.out _) ?_)) | go_step); exact hK); go_step; refine hK _ ?_; clear hK K))
                repeat (first | (refine Go.XR.S_heavy (fun K hK => ?_); go_step; refine hK _ _ ⟨fun h => by simp at h, ?_⟩; clear hK K) | (refine Go.XR.S_heavy_off rfl (fun h => by simp at h) (fun K hK => ?_); go_step; refine hK _ ?_; clear hK K) | (refine Go.XR.S_heavy_on rfl (fun K hK => ?_); go_step; refine hK _ _ ⟨fun h => by simp at h, ?_⟩; clear hK K))
                refine Go.XR.S_nil ?_
                go_wp2
                go_roundg (ks.length - (q + 1))
                case measure => omega
                case rel => exact ⟨Hb9.out.drew.drew, q + 1, by go_num, by omega, by rw [Hb'.out], rfl⟩
              · obtain ⟨r, hr⟩ : ∃ r, q = r + 1 := ⟨q - 1, by omega⟩
                obtain ⟨kr, hXr, hltr⟩ := Hsr.out r hr
                have hqz : (0 : Int) < (q : Int) := by omega
                have hqn : 0 < q := hq0
                have hqr : (q : Int) - 1 = (r : Int) := by omega
                have hrl : (r : Int) < (ks.length : Int) := by omega
                have hrl2 : r < ks.length := by omega
                have knr : wr.cell? ⟨g8, o8 + r * 33 + 32, none⟩ = some (.int .u32 (kr.n.toNat : Int)) := key_at_n hXr
                have hng : ¬ (kq.n.toNat : Int) ≤ (kr.n.toNat : Int) := by omega
                have hng2 : ¬ kq.n.toNat ≤ kr.n.toNat := by omega
                have Hr := Lib.hid hr
                clear hr hXr hq0
                refine Go.XR.region_sched ((· = wr.drew.drew)) [(0, true), (1, true), (2, true), (3, true), (4, true), (5, true), (6, true), (7, true), (8, true), (9, true), (10, true), (11, true), (12, true), (13, true), (14, true), (15, true), (16, true), (17, true), (18, true), (19, true), (20, true), (21, true), (22, true), (23, false), (24, false), (25, false)] [23, 24, 25] Try.mixed (by kernel_rfl) (by kernel_rfl) (by kernel_rfl) ?_
                simp only [List.map_cons, List.map_nil, List.getElem?_cons_succ, List.getElem?_cons_zero]
                repeat (first | (refine Go.XR.S_light rfl rfl rfl ?_ (fun w' hS K hK => ?_) (fun K hK => ?_); rotate_left 1; (cases hS; (first | (first | (refine Go.XR.wp_load_at 24 _ rfl g8 (o8 + q * 33) rfl (sumC k.sum) (At.drew HXs.out) _ Try.underlying24 rfl (sumSize k.sum) ?_) | (refine Go.XR.wp_load_at 24 _ rfl kb 0 rfl (sumC k.sum) (At.drew (key_at_sum HK9.out)) _ Try.underlying24 rfl (sumSize k.sum) ?_) | (refine Go.XR.wp_agg_neq 24 _ _ _ rfl (sumC k.sum) (sumC k.sum) rfl rfl sumGuard true (Hsq.out _) ?_)) | go_step); exact hK); go_step; refine hK _ ?_; clear hK K) | (refine Go.XR.S_light_off rfl rfl (fun K hK => ?_); go_step; refine hK _ ?_; clear hK K) | (refine Go.XR.S_light_on rfl rfl rfl rfl ?_ (fun w' hS K hK => ?_) (fun K hK => ?_); rotate_left 1; (cases hS; (first | (first | (refine Go.XR.wp_load_at 24 _ rfl g8 (o8 + q * 33) rfl (sumC k.sum) (At.drew HXs.out) _ Try.underlying24 rfl (sumSize k.sum) ?_) | (refine Go.XR.wp_load_at 24 _ rfl kb 0 rfl (sumC k.sum) (At.drew (key_at_sum HK9.out)) _ Try.underlying24 rfl (sumSize k.sum) ?_) | (refine Go.XR.wp_agg_neq 24 _ _ _ rfl (sumC k.sum) (sumC k.sum) rfl rfl sumGuard true (Hsq.out _) ?_)) | go_step); exact hK); go_step; refine hK _ ?_; clear hK K))
                repeat (first | (refine Go.XR.S_heavy (fun K hK => ?_); go_step; refine hK _ _ ⟨fun h => by simp at h, ?_⟩; clear hK K) | (refine Go.XR.S_heavy_off rfl (fun h => by simp at h) (fun K hK => ?_); go_step; refine hK _ ?_; clear hK K) | (refine Go.XR.S_heavy_on rfl (fun K hK => ?_); go_step; refine hK _ _ ⟨fun h => by simp at h, ?_⟩; clear hK K))
                refine Go.XR.S_nil ?_
                go_wp2
                go_roundg (ks.length - (q + 1))
                case measure => omega
                case rel => exact ⟨Hb9.out.drew.drew, q + 1, by go_num, by omega, by rw [Hb'.out], rfl⟩
          · have hqe : q = ks.length := by omega
            have hge9 : ¬ (q : Int) < (ks.length : Int) := by omega
            have ha0 : wr.cell? ⟨ab, 0, none⟩ = some (.bool true) := by rw [← hgo]; exact act_at_gone HA9.out
            rw [hqe, List.take_length, Hmem.out]
            rw [hqe] at hge9
            clear hqe hq
            go_wp2_with fail
            refine (own_len (B := B) ⟨F5, HI8.out.below Hb9.out, HF5.out⟩).mono ?_
            rintro e w10 ⟨rfl, hb10⟩
            rw [← hkD]
            have Hb10 := Lib.hid (Hb9.out.trans (hb10.mono Hb9.out.size))
            clear hb10
            go_wp2
            go_roundg (l'.length - (j + 1))
            case measure => omega
            case rel => exact ⟨j + 1, F5, D5, by go_num, by omega, rfl, Hb8.out.trans (Hb10.out.mono hB8), HI8.out.below Hb10.out, HF5.out, hD5j, Hall5.out⟩
      | false =>
        have hq0 : (actC act')[0]? = some (.bool false) := by rw [← hgo]; rfl
        go_wp2_with (first | (refine wpList_load_at rfl 37 (.tmp 23) rfl g (o + j * 36) (by kernel_rfl) (actC act) HX.out _ Try.underlying37 rfl (actSize act) ?_) | (refine wpList_alloc_new rfl 37 rfl zs (Hz.out _) ?_) | (refine opIs (X := .store 37 (.tmp 8) (.tmp 24)) rfl ?_; refine wpList_store_new rfl 37 (.tmp 8) (.tmp 24) rfl zs (actC act) 37 (by kernel_rfl) (by kernel_rfl) (by rw [hzs, actC_size]) (one_actL act) (actSize act) ?_) | (refine wpList_load_at rfl 24 (.tmp 25) rfl kb 0 (by kernel_rfl) (sumC k.sum) ((key_at_sum HK.out).alloc _) _ Try.underlying24 rfl (sumSize k.sum) ?_) | (refine opIs (X := .store 24 (.tmp 29) (.tmp 26)) rfl ?_; refine wpList_store_part rfl 24 (.tmp 29) (.tmp 26) rfl 1 (actC act) (sumC k.sum) (actC act') 37 (by kernel_rfl) (by kernel_rfl) (by rw [actC_size, sumC_size]; omega) (one_sumL k.sum) (sumSize k.sum) Hset.out ?_) | (refine wpList_load_at rfl 27 (.tmp 39) rfl wr.heap.size 1 (by kernel_rfl) (keyC act'.key) (by have := act_at_key (At.new wr (actC act') 37); rwa [Nat.zero_add] at this) _ Try.underlying27 rfl (keySize act'.key) ?_) | (refine wpList_load_at rfl 33 (.tmp 42) rfl wr.heap.size 34 (by kernel_rfl) (placeC act'.place) (by have := act_at_place (At.new wr (actC act') 37); rwa [Nat.zero_add] at this) _ Try.underlying33 rfl (placeSize act'.place) ?_) | fail)
        have hbA : Below wr.heap.size wr (wr.alloc (.cells (actC act') 37)) := (Below.refl _ _).alloc (Nat.le_refl _) _
        refine (put_any _ F p D (HI.out.below hbA) (by omega) act'.key act'.place Hok.out).mono ?_
        rintro e w5 ⟨rfl, F5, hI5, hb5, hg5⟩
        have hle5 := aput_le (adel D act'.key) act'.key act'.place
        have hle6 := adel_len D act'.key
        have hD5 : (aput (adel D act'.key) act'.key act'.place).length ≤ 2^20 := by omega
        have hD5j : (aput (adel D act'.key) act'.key act'.place).length ≤ j + 1 := by omega
        have Hall5 : Hid (∀ k' v, aget (aput (adel D act'.key) act'.key act'.place) k' = some v → k'.sum = k.sum) := fun k' v h => by
          rw [aget_put] at h
          split at h
          · rename_i he; rw [he]; exact Hsum.out
          · rw [aget_del] at h
            split at h
            · cases h
            · exact Hall.out k' v h
        have Hget : Hid ((aget (aput (adel D act'.key) act'.key act'.place) act'.key).isSome = true) := by unfold Hid; rw [aget_put, if_pos rfl]; rfl
        clear hle5 hle6
        generalize aput (adel D act'.key) act'.key act'.place = D5 at *
        have hkF : kb ∉ F := fun h => by have := HF.out _ h; omega
        have hab : wr.heap.size ∉ F := fun h => by have := HI.out.fin _ h; omega
        have HK5 := Lib.hid ((HK.out.alloc (.cells (actC act') 37)).but hb5 hkF)
        have HA5 := Lib.hid ((At.new wr (actC act') 37).but hb5 hab)
        have hbA2 : Below B wr (wr.alloc (.cells (actC act') 37)) := (Below.refl _ _).alloc hBr _
        have Hb5 := Lib.hid ((Hb.out.trans hbA2).trans (hb5.below (by have := hbA2.size; omega) HF.out))
        have HF5 : Hid (∀ b ∈ F5, B ≤ b) := fun b hbF => by
          rcases hg5 b hbF with h1 | h1
          · exact HF.out b h1
          · have := hbA2.size
            omega
        have HI5 := Lib.hid hI5
        clear hb5 hg5 hbA hbA2 hI5 hkF hab HX
        obtain ⟨ab, hab⟩ : ∃ ab, wr.heap.size = ab := ⟨_, rfl⟩
        rw [hab] at HA5 ⊢
        clear hab
        go_wp2_with (first | (refine wpList_load_at rfl 27 (.tmp 48) rfl ab 1 (by kernel_rfl) (keyC act'.key) (by have := act_at_key HA5.out; rwa [Nat.zero_add] at this) _ Try.underlying27 rfl (keySize act'.key) ?_) | fail)
        refine (own_get (B := B) ⟨F5, HI5.out, HF5.out⟩ act'.key).mono ?_
        rintro e w6 ⟨rfl, hb6⟩
        rw [Hget.out]
        generalize (aget D5 act'.key).getD place0 = v6
        have HK6 := Lib.hid (HK5.out.below (by rw [keyC_size]; omega) hb6)
        have HA6 := Lib.hid (HA5.out.below (by rw [actC_size]; omega) hb6)
        have HI6 := Lib.hid (HI5.out.below hb6)
        have hB5 : B ≤ w5.heap.size := by have := Hb5.out.size; rw [HBw.out] at this; exact this
        have Hb6 := Lib.hid (Hb5.out.trans (hb6.mono hB5))
        have hB6 : B ≤ w6.heap.size := Nat.le_trans hB5 hb6.size
        clear hb6 HK5 HA5 HI5 Hb5 hB5
        go_wp2_with (first | (refine wpList_alloc_new rfl 33 rfl zp (Hzq.out _) ?_) | (refine opIs (X := .store 33 (.tmp 9) (.tmp 51)) rfl ?_; refine wpList_store_new rfl 33 (.tmp 9) (.tmp 51) rfl zp (placeC v6) 33 (by kernel_rfl) (by kernel_rfl) (by rw [hzp]; rfl) (one_placeL v6) (placeSize v6) ?_) | (refine wpList_load_at rfl 24 (.tmp 54) rfl kb 0 (by kernel_rfl) (sumC k.sum) ((key_at_sum HK6.out).alloc _) _ Try.underlying24 rfl (sumSize k.sum) ?_) | fail)
        have hb7 : Below w6.heap.size w6 (w6.alloc (.cells (placeC v6) 33)) := (Below.refl _ _).alloc (Nat.le_refl _) _
        refine (own_twins (B := B) ⟨F5, HI6.out.below hb7, HF5.out⟩ hD5 k.sum).mono ?_
        rintro e w8 ⟨ns, htw, a8, c8, rfl, ho8, hb8⟩
        have hb68 : Below w6.heap.size w6 w8 := hb7.trans (hb8.mono hb7.size)
        have HK8 := Lib.hid (HK6.out.below (by rw [keyC_size]; omega) hb68)
        have HA8 := Lib.hid (HA6.out.below (by rw [actC_size]; omega) hb68)
        have HI8 := Lib.hid (HI6.out.below hb68)
        have Hb8 := Lib.hid (Hb6.out.trans (hb68.mono hB6))
        have hB8 : B ≤ w8.heap.size := Nat.le_trans hB6 hb68.size
        obtain ⟨ks, hks⟩ : ∃ ks, ns.map (fun n => (⟨k.sum, n⟩ : KeyT)) = ks := ⟨_, rfl⟩
        rw [hks] at ho8 ⊢
        have HR8 := Lib.hid (Row.owned ho8)
        have hkl : ks.length = ns.length := by rw [← hks, List.length_map]
        have hkD : ks.length = D5.length := by rw [hkl]; exact twins_all HI8.out.nd htw Hall5.out
        have Hkq : Hid (∀ q (h : q < ks.length), ks[q].sum = k.sum) := fun q h => by
          subst hks
          rw [List.getElem_map]
        have Hso : Hid (∀ q r (hq : q < ks.length) (hr : r < ks.length), q < r → ks[q].n.toNat < ks[r].n.toNat) := fun q r hq hr hlt => by
          subst hks
          rw [List.getElem_map, List.getElem_map]
          exact List.pairwise_iff_getElem.1 htw.1 q r (by simpa using hq) (by simpa using hr) hlt
        have Hmem : Hid (decide (act'.key ∈ ks) = true) := by
          have h1 : act'.key ∈ ks ↔ (aget D5 act'.key).isSome = true := by
            rw [← hks, List.mem_map]
            constructor
            · rintro ⟨n, hn, he⟩
              rw [← he]; exact (htw.2.1 n).1 hn
            · intro h
              refine ⟨act'.key.n, (htw.2.1 _).2 ?_, ?_⟩
              · rw [← Hsum.out, key_eta]; exact h
              · rw [← Hsum.out, key_eta]
          rw [Hget.out] at h1
          exact dec_of h1
        have Hsq : Hid (∀ w, (Op.equal 24 (sumV k.sum) (sumV k.sum)).run Try.prog w = .ok true w) := fun w => by have h := sum_eq k.sum k.sum w; rwa [decide_eq_true rfl] at h
        clear hb7 hb8 hb68 HK6 HA6 HI6 Hb6 htw hks ho8 hkl hB6
        go_wp2
        go_loopg [59, 11] ks.length (fun m i b w2 => Below w8.heap.size w8 w2 ∧ ∃ q : Nat, i = .int .i64 q ∧ q ≤ ks.length ∧ b = .bool (decide (act'.key ∈ ks.take q)) ∧ Hid (m = ks.length - q))
        case atStart => exact ⟨Below.refl _ _, 0, rfl, Nat.zero_le _, rfl, rfl⟩
        case round =>
          obtain ⟨hb9, q, rfl, hq, rfl, hm9⟩ := hrel
          have Hb9 := Lib.hid hb9
          have HK9 := Lib.hid (HK8.out.below (by rw [keyC_size]; omega) hb9)
          have HA9 := Lib.hid (HA8.out.below (by rw [actC_size]; omega) hb9)
          have hm10 := hm9.out
          clear hb9 hm9
          by_cases hql : q < ks.length
          · have hql2 : (q : Int) < (ks.length : Int) := by omega
            obtain ⟨g8, o8, rfl, hX9⟩ := row_at keyL_length (HR8.out.below Hb9.out) hql (by omega)
            have HX9 : Hid (At wr g8 (o8 + q * 33) (keyC ks[q])) := hX9
            have Hnx : Hid (act'.key ∈ ks.take (q + 1) ↔ act'.key ∈ ks.take q ∨ ks[q] = act'.key) := by
              unfold Hid
              rw [List.take_succ_eq_append_getElem hql, List.mem_append, List.mem_singleton]
              constructor
              · rintro (h | h)
                · exact .inl h
                · exact .inr h.symm
              · rintro (h | h)
                · exact .inl h
                · exact .inr h.symm
            have hks9 := Hkq.out q hql
            have Hsr : Hid (∀ r, q = r + 1 → ∃ kr : KeyT, At wr g8 (o8 + r * 33) (keyC kr) ∧ kr.n.toNat < ks[q].n.toNat) := fun r hr => by
              obtain ⟨g, o, he, hX⟩ := row_at keyL_length (HR8.out.below Hb9.out) (i := r) (by omega) (by omega)
              injection he with he
              injection he with h1 h2
              subst h1 h2
              exact ⟨ks[r], hX, Hso.out r q (by omega) hql (by omega)⟩
            clear hX9
            generalize ks[q] = kq at *
            have HXs : Hid (At wr g8 (o8 + q * 33) (sumC k.sum)) := by unfold Hid; rw [← hks9]; exact key_at_sum HX9.out
            have kn9 : wr.cell? ⟨g8, o8 + q * 33 + 32, none⟩ = some (.int .u32 (kq.n.toNat : Int)) := key_at_n HX9.out
            have HA1 : Hid (At wr ab 1 (keyC act'.key)) := by have := act_at_key HA9.out; rwa [Nat.zero_add] at this
            clear hks9
            by_cases hin : act'.key ∈ ks.take q
            · have Hb' : Hid (decide (act'.key ∈ ks.take (q + 1)) = true) := decide_eq_true (Hnx.out.2 (.inl hin))
              rw [decide_eq_true hin]
              clear hin
              go_wp2
              refine Go.XR.region_sched ((· = wr.drew)) [(0, true), (1, true), (2, true), (3, true), (4, true), (5, true), (6, true), (7, true), (8, true), (9, false), (10, false), (11, false)] [9, 10, 11] Try.mixed (by kernel_rfl) (by kernel_rfl) (by kernel_rfl) ?_
              simp only [List.map_cons, List.map_nil, List.getElem?_cons_succ, List.getElem?_cons_zero]
              repeat (first | (refine Go.XR.S_light rfl rfl rfl ?_ (fun w' hS K hK => ?_) (fun K hK => ?_); rotate_left 1; (cases hS; (first | (first | (refine Go.XR.wp_load_at 24 _ rfl g8 (o8 + q * 33) rfl (sumC k.sum) (At.drew HXs.out) _ Try.underlying24 rfl (sumSize k.sum) ?_) | (refine Go.XR.wp_load_at 24 _ rfl kb 0 rfl (sumC k.sum) (At.drew (key_at_sum HK9.out)) _ Try.underlying24 rfl (sumSize k.sum) ?_) | (refine Go.XR.wp_agg_neq 24 _ _ _ rfl (sumC k.sum) (sumC k.sum) rfl rfl sumGuard true (Hsq.out _) ?_)) | go_step); exact hK); go_step; refine hK _ ?_; clear hK K) | (refine Go.XR.S_light_off rfl rfl (fun K hK => ?_); go_step; refine hK _ ?_; clear hK K) | (refine Go.XR.S_light_on rfl rfl rfl rfl ?_ (fun w' hS K hK => ?_) (fun K hK => ?_); rotate_left 1; (cases hS; (first | (first | (refine Go.XR.wp_load_at 24 _ rfl g8 (o8 + q * 33) rfl (sumC k.sum) (At.drew HXs.out) _ Try.underlying24 rfl (sumSize k.sum) ?_) | (refine Go.XR.wp_load_at 24 _ rfl kb 0 rfl (sumC k.sum) (At.drew (key_at_sum HK9.out)) _ Try.underlying24 rfl (sumSize k.sum) ?_) | (refine Go.XR.wp_agg_neq 24 _ _ _ rfl (sumC k.sum) (sumC k.sum) rfl rfl sumGuard true (Hsq.out _) ?_)) | go_step); exact hK); go_step; refine hK _ ?_; clear hK K))
              repeat (first | (refine Go.XR.S_heavy (fun K hK => ?_); go_step; refine hK _ _ ⟨fun h => by simp at h, ?_⟩; clear hK K) | (refine Go.XR.S_heavy_off rfl (fun h => by simp at h) (fun K hK => ?_); go_step; refine hK _ ?_; clear hK K) | (refine Go.XR.S_heavy_on rfl (fun K hK => ?_); go_step; refine hK _ _ ⟨fun h => by simp at h, ?_⟩; clear hK K))
              refine Go.XR.S_nil ?_
              go_wp2
              rcases Nat.eq_zero_or_pos q with hq0 | hq0
              · have hqz : ¬ (0 : Int) < (q : Int) := by omega
                have hqn : ¬ 0 < q := by omega
                have Hq0 := Lib.hid hq0
                clear hq0
                refine Go.XR.region_sched ((· = wr.drew.drew)) [(0, true), (1, true), (2, true), (3, true), (4, true), (5, true), (6, true), (7, true), (8, true), (9, true), (10, true), (11, true), (12, true), (13, true), (14, true), (15, true), (16, true), (17, true), (18, true), (19, true), (20, true), (21, true), (22, true), (23, false), (24, false), (25, false)] [23, 24, 25] Try.mixed (by kernel_rfl) (by kernel_rfl) (by kernel_rfl) ?_
                simp only [List.map_cons, List.map_nil, List.getElem?_cons_succ, List.getElem?_cons_zero]
                repeat (first | (refine Go.XR.S_light rfl rfl rfl ?_ (fun w' hS K hK => ?_) (fun K hK => ?_); rotate_left 1; (cases hS; (first | (first | (refine Go.XR.wp_load_at 24 _ rfl g8 (o8 + q * 33) rfl (sumC k.sum) (At.drew HXs.out) _ Try.underlying24 rfl (sumSize k.sum) ?_) | (refine Go.XR.wp_load_at 24 _ rfl kb 0 rfl (sumC k.sum) (At.drew (key_at_sum HK9.out)) _ Try.underlying24 rfl (sumSize k.sum) ?_) | (refine Go.XR.wp_agg_neq 24 _ _ _ rfl (sumC k.sum) (sumC k.sum) rfl rfl sumGuard true (Hsq.out _) ?_)) | go_step); exact hK); go_step; refine hK _ ?_; clear hK K) | (refine Go.XR.S_light_off rfl rfl (fun K hK => ?_); go_step; refine hK _ ?_; clear hK K) | (refine Go.XR.S_light_on rfl rfl rfl rfl ?_ (fun w' hS K hK => ?_) (fun K hK => ?_); rotate_left 1; (cases hS; (first | (first | (refine Go.XR.wp_load_at 24 _ rfl g8 (o8 + q * 33) rfl (sumC k.sum) (At.drew HXs.out) _ Try.underlying24 rfl (sumSize k.sum) ?_) | (refine Go.XR.wp_load_at 24 _ rfl kb 0 rfl (sumC k.sum) (At.drew (key_at_sum HK9.out)) _ Try.underlying24 rfl (sumSize k.sum) ?_) | (refine Go.XR.wp_agg_neq 24 _ _ _ rfl (sumC k.sum) (sumC k.sum) rfl rfl sumGuard true (Hsq.out _) ?_)) | go_step); exact hK); go_step; refine hK _ ?_; clear hK K))
                repeat (first | (refine Go.XR.S_heavy (fun K hK => ?_); go_step; refine hK _ _ ⟨fun h => by simp at h, ?_⟩; clear hK K) | (refine Go.XR.S_heavy_off rfl (fun h => by simp at h) (fun K hK => ?_); go_step; refine hK _ ?_; clear hK K) | (refine Go.XR.S_heavy_on rfl (fun K hK => ?_); go_step; refine hK _ _ ⟨fun h => by simp at h, ?_⟩; clear hK K))
                refine Go.XR.S_nil ?_
                go_wp2
                go_roundg (ks.length - (q + 1))
                case measure => omega
                case rel => exact ⟨Hb9.out.drew.drew, q + 1, by go_num, by omega, by rw [Hb'.out], rfl⟩
              · obtain ⟨r, hr⟩ : ∃ r, q = r + 1 := ⟨q - 1, by omega⟩
                obtain ⟨kr, hXr, hltr⟩ := Hsr.out r hr
                have hqz : (0 : Int) < (q : Int) := by omega
                have hqn : 0 < q := hq0
                have hqr : (q : Int) - 1 = (r : Int) := by omega
                have hrl : (r : Int) < (ks.length : Int) := by omega
                have hrl2 : r < ks.length := by omega
                have knr : wr.cell? ⟨g8, o8 + r * 33 + 32, none⟩ = some (.int .u32 (kr.n.toNat : Int)) := key_at_n hXr
                have hng : ¬ (kq.n.toNat : Int) ≤ (kr.n.toNat : Int) := by omega
                have hng2 : ¬ kq.n.toNat ≤ kr.n.toNat := by omega
                have Hr := Lib.hid hr
                clear hr hXr hq0
                refine Go.XR.region_sched ((· = wr.drew.drew)) [(0, true), (1, true), (2, true), (3, true), (4, true), (5, true), (6, true), (7, true), (8, true), (9, true), (10, true), (11, true), (12, true), (13, true), (14, true), (15, true), (16, true), (17, true), (18, true), (19, true), (20, true), (21, true), (22, true), (23, false), (24, false), (25, false)] [23, 24, 25] Try.mixed (by kernel_rfl) (by kernel_rfl) (by kernel_rfl) ?_
                simp only [List.map_cons, List.map_nil, List.getElem?_cons_succ, List.getElem?_cons_zero]
                repeat (first | (refine Go.XR.S_light rfl rfl rfl ?_ (fun w' hS K hK => ?_) (fun K hK => ?_); rotate_left 1; (cases hS; (first | (first | (refine Go.XR.wp_load_at 24 _ rfl g8 (o8 + q * 33) rfl (sumC k.sum) (At.drew HXs.out) _ Try.underlying24 rfl (sumSize k.sum) ?_) | (refine Go.XR.wp_load_at 24 _ rfl kb 0 rfl (sumC k.sum) (At.drew (key_at_sum HK9.out)) _ Try.underlying24 rfl (sumSize k.sum) ?_) | (refine Go.XR.wp_agg_neq 24 _ _ _ rfl (sumC k.sum) (sumC k.sum) rfl rfl sumGuard true (Hsq.out _) ?_)) | go_step); exact hK); go_step; refine hK _ ?_; clear hK K) | (refine Go.XR.S_light_off rfl rfl (fun K hK => ?_); go_step; refine hK _ ?_; clear hK K) | (refine Go.XR.S_light_on rfl rfl rfl rfl ?_ (fun w' hS K hK => ?_) (fun K hK => ?_); rotate_left 1; (cases hS; (first | (first | (refine Go.XR.wp_load_at 24 _ rfl g8 (o8 + q * 33) rfl (sumC k.sum) (At.drew HXs.out) _ Try.underlying24 rfl (sumSize k.sum) ?_) | (refine Go.XR.wp_load_at 24 _ rfl kb 0 rfl (sumC k.sum) (At.drew (key_at_sum HK9.out)) _ Try.underlying24 rfl (sumSize k.sum) ?_) | (refine Go.XR.wp_agg_neq 24 _ _ _ rfl (sumC k.sum) (sumC k.sum) rfl rfl sumGuard true (Hsq.out _) ?_)) | go_step); exact hK); go_step; refine hK _ ?_; clear hK K))
                repeat (first | (refine Go.XR.S_heavy (fun K hK => ?_); go_step; refine hK _ _ ⟨fun h => by simp at h, ?_⟩; clear hK K) | (refine Go.XR.S_heavy_off rfl (fun h => by simp at h) (fun K hK => ?_); go_step; refine hK _ ?_; clear hK K) | (refine Go.XR.S_heavy_on rfl (fun K hK => ?_); go_step; refine hK _ _ ⟨fun h => by simp at h, ?_⟩; clear hK K))
                refine Go.XR.S_nil ?_
                go_wp2
                go_roundg (ks.length - (q + 1))
                case measure => omega
                case rel => exact ⟨Hb9.out.drew.drew, q + 1, by go_num, by omega, by rw [Hb'.out], rfl⟩
            · have Hb' : Hid (decide (act'.key ∈ ks.take (q + 1)) = decide (kq = act'.key)) := dec_of (by
                rw [decide_eq_true_eq, Hnx.out]
                exact ⟨fun h => h.resolve_left hin, .inr⟩)
              rw [decide_eq_false hin]
              clear hin
              have Heq := Lib.hid (key_eq kq act'.key wr.drew)
              go_wp2
              refine Go.XR.region_sched ((· = wr.drew)) [(0, true), (1, true), (2, true), (3, true), (4, true), (5, true), (6, true), (7, true), (8, true), (9, false), (10, false), (11, false)] [9, 10, 11] Try.mixed (by kernel_rfl) (by kernel_rfl) (by kernel_rfl) ?_
              simp only [List.map_cons, List.map_nil, List.getElem?_cons_succ, List.getElem?_cons_zero]
              repeat (first | (refine Go.XR.S_light rfl rfl rfl ?_ (fun w' hS K hK => ?_) (fun K hK => ?_); rotate_left 1; (cases hS; (first | (first | (refine Go.XR.wp_load_at 27 _ rfl g8 (o8 + q * 33) rfl (keyC kq) (At.drew HX9.out) _ Try.underlying27 rfl (keySize kq) ?_) | (refine Go.XR.wp_load_at 27 _ rfl ab 1 rfl (keyC act'.key) (At.drew HA1.out) _ Try.underlying27 rfl (keySize act'.key) ?_)) | go_step); exact hK); go_step; refine hK _ ?_; clear hK K) | (refine Go.XR.S_light_off rfl rfl (fun K hK => ?_); go_step; refine hK _ ?_; clear hK K) | (refine Go.XR.S_light_on rfl rfl rfl rfl ?_ (fun w' hS K hK => ?_) (fun K hK => ?_); rotate_left 1; (cases hS; (first | (first | (refine Go.XR.wp_load_at 27 _ rfl g8 (o8 + q * 33) rfl (keyC kq) (At.drew HX9.out) _ Try.underlying27 rfl (keySize kq) ?_) | (refine Go.XR.wp_load_at 27 _ rfl ab 1 rfl (keyC act'.key) (At.drew HA1.out) _ Try.underlying27 rfl (keySize act'.key) ?_)) | go_step); exact hK); go_step; refine hK _ ?_; clear hK K))
              refine Go.XR.S_heavy_on rfl (fun K hK => ?_)
              refine Go.XR.wp_agg_eql 27 _ _ _ rfl (keyC kq) (keyC act'.key) rfl rfl keyGuard _ Heq.out ?_
              refine hK _ _ ⟨fun h => by simp at h, ?_⟩
              clear hK K
              repeat (first | (refine Go.XR.S_heavy (fun K hK => ?_); go_step; refine hK _ _ ⟨fun h => by simp at h, ?_⟩; clear hK K) | (refine Go.XR.S_heavy_off rfl (fun h => by simp at h) (fun K hK => ?_); go_step; refine hK _ ?_; clear hK K) | (refine Go.XR.S_heavy_on rfl (fun K hK => ?_); go_step; refine hK _ _ ⟨fun h => by simp at h, ?_⟩; clear hK K))
              refine Go.XR.S_nil ?_
              generalize decide (kq = act'.key) = b9 at *
              go_wp2
              rcases Nat.eq_zero_or_pos q with hq0 | hq0
              · have hqz : ¬ (0 : Int) < (q : Int) := by omega
                have hqn : ¬ 0 < q := by omega
                have Hq0 := Lib.hid hq0
                clear hq0
                refine Go.XR.region_sched ((· = wr.drew.drew)) [(0, true), (1, true), (2, true), (3, true), (4, true), (5, true), (6, true), (7, true), (8, true), (9, true), (10, true), (11, true), (12, true), (13, true), (14, true), (15, true), (16, true), (17, true), (18, true), (19, true), (20, true), (21, true), (22, true), (23, false), (24, false), (25, false)] [23, 24, 25] Try.mixed (by kernel_rfl) (by kernel_rfl) (by kernel_rfl) ?_
                simp only [List.map_cons, List.map_nil, List.getElem?_cons_succ, List.getElem?_cons_zero]
                repeat (first | (refine Go.XR.S_light rfl rfl rfl ?_ (fun w' hS K hK => ?_) (fun K hK => ?_); rotate_left 1; (cases hS; (first | (first | (refine Go.XR.wp_load_at 24 _ rfl g8 (o8 + q * 33) rfl (sumC k.sum) (At.drew HXs.out) _ Try.underlying24 rfl (sumSize k.sum) ?_) | (refine Go.XR.wp_load_at 24 _ rfl kb 0 rfl (sumC k.sum) (At.drew (key_at_sum HK9.out)) _ Try.underlying24 rfl (sumSize k.sum) ?_) | (refine Go.XR.wp_agg_neq 24 _ _ _ rfl (sumC k.sum) (sumC k.sum) rfl rfl sumGuard true (Hsq.out _) ?_)) | go_step); exact hK); go_step; refine hK _ ?_; clear hK K) | (refine Go.XR.S_light_off rfl rfl (fun K hK => ?_); go_step; refine hK _ ?_; clear hK K) | (refine Go.XR.S_light_on rfl rfl rfl rfl ?_ (fun w' hS K hK => ?_) (fun K hK => ?_); rotate_left 1; (cases hS; (first | (first | (refine Go.XR.wp_load_at 24 _ rfl g8 (o8 + q * 33) rfl (sumC k.sum) (At.drew HXs.out) _ Try.underlying24 rfl (sumSize k.sum) ?_) | (refine Go.XR.wp_load_at 24 _ rfl kb 0 rfl (sumC k.sum) (At.drew (key_at_sum HK9.out)) _ Try.underlying24 rfl (sumSize k.sum) ?_) | (refine Go.XR.wp_agg_neq 24 _ _ _ rfl (sumC k.sum) (sumC k.sum) rfl rfl sumGuard true (Hsq.out _) ?_)) | go_step); exact hK); go_step; refine hK _ ?_; clear hK K))
                repeat (first | (refine Go.XR.S_heavy (fun K hK => ?_); go_step; refine hK _ _ ⟨fun h => by simp at h, ?_⟩; clear hK K) | (refine Go.XR.S_heavy_off rfl (fun h => by simp at h) (fun K hK => ?_); go_step; refine hK _ ?_; clear hK K) | (refine Go.XR.S_heavy_on rfl (fun K hK => ?_); go_step; refine hK _ _ ⟨fun h => by simp at h, ?_⟩; clear hK K))
                refine Go.XR.S_nil ?_
                go_wp2
                go_roundg (ks.length - (q + 1))
                case measure => omega
                case rel => exact ⟨Hb9.out.drew.drew, q + 1, by go_num, by omega, by rw [Hb'.out], rfl⟩
              · obtain ⟨r, hr⟩ : ∃ r, q = r + 1 := ⟨q - 1, by omega⟩
                obtain ⟨kr, hXr, hltr⟩ := Hsr.out r hr
                have hqz : (0 : Int) < (q : Int) := by omega
                have hqn : 0 < q := hq0
                have hqr : (q : Int) - 1 = (r : Int) := by omega
                have hrl : (r : Int) < (ks.length : Int) := by omega
                have hrl2 : r < ks.length := by omega
                have knr : wr.cell? ⟨g8, o8 + r * 33 + 32, none⟩ = some (.int .u32 (kr.n.toNat : Int)) := key_at_n hXr
                have hng : ¬ (kq.n.toNat : Int) ≤ (kr.n.toNat : Int) := by omega
                have hng2 : ¬ kq.n.toNat ≤ kr.n.toNat := by omega
                have Hr := Lib.hid hr
                clear hr hXr hq0
                refine Go.XR.region_sched ((· = wr.drew.drew)) [(0, true), (1, true), (2, true), (3, true), (4, true), (5, true), (6, true), (7, true), (8, true), (9, true), (10, true), (11, true), (12, true), (13, true), (14, true), (15, true), (16, true), (17, true), (18, true), (19, true), (20, true), (21, true), (22, true), (23, false), (24, false), (25, false)] [23, 24, 25] Try.mixed (by kernel_rfl) (by kernel_rfl) (by kernel_rfl) ?_
                simp only [List.map_cons, List.map_nil, List.getElem?_cons_succ, List.getElem?_cons_zero]
                repeat (first | (refine Go.XR.S_light rfl rfl rfl ?_ (fun w' hS K hK => ?_) (fun K hK => ?_); rotate_left 1; (cases hS; (first | (first | (refine Go.XR.wp_load_at 24 _ rfl g8 (o8 + q * 33) rfl (sumC k.sum) (At.drew HXs.out) _ Try.underlying24 rfl (sumSize k.sum) ?_) | (refine Go.XR.wp_load_at 24 _ rfl kb 0 rfl (sumC k.sum) (At.drew (key_at_sum HK9.out)) _ Try.underlying24 rfl (sumSize k.sum) ?_) | (refine Go.XR.wp_agg_neq 24 _ _ _ rfl (sumC k.sum) (sumC k.sum) rfl rfl sumGuard true (Hsq.out _) ?_)) | go_step); exact hK); go_step; refine hK _ ?_; clear hK K) | (refine Go.XR.S_light_off rfl rfl (fun K hK => ?_); go_step; refine hK _ ?_; clear hK K) | (refine Go.XR.S_light_on rfl rfl rfl rfl ?_ (fun w' hS K hK => ?_) (fun K hK => ?_); rotate_left 1; (cases hS; (first | (first | (refine Go.XR.wp_load_at 24 _ rfl g8 (o8 + q * 33) rfl (sumC k.sum) (At.drew HXs.out) _ Try.underlying24 rfl (sumSize k.sum) ?_) | (refine Go.XR.wp_load_at 24 _ rfl kb 0 rfl (sumC k.sum) (At.drew (key_at_sum HK9.out)) _ Try.underlying24 rfl (sumSize k.sum) ?_) | (refine Go.XR.wp_agg_neq 24 _ _ _ rfl (sumC k.sum) (sumC k.sum) rfl rfl sumGuard true (Hsq.out _) ?_)) | go_step); exact hK); go_step; refine hK _ ?_; clear hK K))
                repeat (first | (refine Go.XR.S_heavy (fun K hK => ?_); go_step; refine hK _ _ ⟨fun h => by simp at h, ?_⟩; clear hK K) | (refine Go.XR.S_heavy_off rfl (fun h => by simp at h) (fun K hK => ?_); go_step; refine hK _ ?_; clear hK K) | (refine Go.XR.S_heavy_on rfl (fun K hK => ?_); go_step; refine hK _ _ ⟨fun h => by simp at h, ?_⟩; clear hK K))
                refine Go.XR.S_nil ?_
                go_wp2
                go_roundg (ks.length - (q + 1))
                case measure => omega
                case rel => exact ⟨Hb9.out.drew.drew, q + 1, by go_num, by omega, by rw [Hb'.out], rfl⟩
          · have hqe : q = ks.length := by omega
            have hge9 : ¬ (q : Int) < (ks.length : Int) := by omega
            have ha0 : wr.cell? ⟨ab, 0, none⟩ = some (.bool false) := by rw [← hgo]; exact act_at_gone HA9.out
            rw [hqe, List.take_length, Hmem.out]
            rw [hqe] at hge9
            clear hqe hq
            go_wp2_with fail
            refine (own_len (B := B) ⟨F5, HI8.out.below Hb9.out, HF5.out⟩).mono ?_
            rintro e w10 ⟨rfl, hb10⟩
            rw [← hkD]
            have Hb10 := Lib.hid (Hb9.out.trans (hb10.mono Hb9.out.size))
            clear hb10
            go_wp2
            go_roundg (l'.length - (j + 1))
            case measure => omega
            case rel => exact ⟨j + 1, F5, D5, by go_num, by omega, rfl, Hb8.out.trans (Hb10.out.mono hB8), HI8.out.below Hb10.out, HF5.out, hD5j, Hall5.out⟩
    · have hge : ¬ (j : Int) < (l'.length : Int) := by omega
      go_wp2
      go_ret
      exact ⟨rfl, HW.out⟩
end Go.Proofs.Ytnfbchhbcinloaa
