/- Walks and laws that the statements of this seat share, part 6. -/
import Derived.Test.YtnfbchhbcinloaaGreatQe
/- The walk over a finder's Twins; twins alike, plain; two finders at the start. -/
namespace Go.Proofs.YtnfbchhbcinloaaGreat
open Go.RowKit Go.XR Go.IndexPure Go.CachePure Go.FindPure
theorem fFind_same (M : FinT) (k : KeyT) (d : Nat) (L : List RowT) : (fFind M k d L).2.D = M.D ∧ (fFind M k d L).2.asked ≤ M.asked + 1 ∧ (fFind M k d L).2.loaded ≤ M.loaded + 1 := by
  unfold fFind
  split
  · cases cGet M.C k with
    | some v => exact ⟨rfl, Nat.le_succ _, Nat.le_succ _⟩
    | none =>
      cases aget M.D k with
      | none => exact ⟨rfl, Nat.le_refl _, Nat.le_succ _⟩
      | some v => exact ⟨rfl, Nat.le_refl _, Nat.le_refl _⟩
  · exact ⟨rfl, Nat.le_succ _, Nat.le_succ _⟩
theorem twins_alike {D R : List RowT} {d : SumT} {ns : List UInt32} (hT : TwinsOf D d ns) (hA : AllOf D R) (hD : (D.map (·.1)).Nodup) : ns.map (fun n => (⟨d, n⟩ : KeyT)) = twinsL R d := by
  refine eq_of_strict (r := fun x y => cfK x y < 0) (fun x y h1 h2 => by have := cfK_swap x y; omega) _ _ ?_ ?_ fun k => ?_
  · rw [List.pairwise_map]
    refine hT.1.imp fun {x y} h => ?_
    unfold cfK
    rw [cb_self, or2_zero, ci_lt]
    show (x.toNat : Int) < (y.toNat : Int)
    omega
  · unfold twinsL
    rw [List.pairwise_map]
    exact (hA.2.sublist List.filter_sublist).imp fun h => h
  · unfold twinsL
    rw [List.mem_map, List.mem_map]
    constructor
    · rintro ⟨n, hn, rfl⟩
      have h1 := (hT.2.1 n).1 hn
      obtain ⟨v, hv⟩ := Option.isSome_iff_exists.1 h1
      exact ⟨(⟨d, n⟩, v), List.mem_filter.2 ⟨hA.1.mem_iff.2 ((aget_mem hD).1 hv), decide_eq_true rfl⟩, rfl⟩
    · rintro ⟨r, hr, rfl⟩
      obtain ⟨h1, h2⟩ := List.mem_filter.1 hr
      have h3 : r.1.sum = d := of_decide_eq_true h2
      refine ⟨r.1.n, (hT.2.1 _).2 ?_, by rw [← h3, key_eta]⟩
      rw [← h3, key_eta, (aget_mem hD).2 (show (r.1, r.2) ∈ D from hA.1.mem_iff.1 h1)]; rfl
set_option maxHeartbeats 1000000 in
set_option maxRecDepth 100000 in
theorem ftwins_any (w : World) (Fi Fc : List Nat) (p ip vp vq cp : Nat) (M : FinT) (h : FinC w Fi Fc p ip vp vq cp M) (hlen : M.D.length ≤ 2^20) (d : SumT) :
    Calls Tryz.prog 23 #[.pointer (some ⟨p, 0, none⟩), sumV d] w fun e w' => ∃ ns, TwinsOf M.D d ns ∧ ∃ a c, e = .returned (.slice a (ns.map fun n => (⟨d, n⟩ : KeyT)).length c) ∧ Row w' a ((ns.map fun n => (⟨d, n⟩ : KeyT)).flatMap keyL) ∧ Below w.heap.size w w' := by
  obtain ⟨W0, hW0⟩ : ∃ W0, w.alloc (.cells (sumC d) 26) = W0 := ⟨_, rfl⟩
  have hb0 : Below w.heap.size w W0 := by rw [← hW0]; exact (Below.refl _ _).alloc (Nat.le_refl _) _
  have HS0 : Hid (At W0 w.heap.size 0 (sumC d)) := by unfold Hid; rw [← hW0]; exact At.new _ _ _
  have H0 := Lib.hid (h.below hb0)
  have Hl := Lib.hid hlen
  have Hb0 := Lib.hid hb0
  clear hb0 h hlen
  go_enter Tryz.func23, Tryz.ntmps23
  obtain ⟨kb, hkb⟩ : ∃ kb, w.heap.size = kb := ⟨_, rfl⟩
  rw [hkb] at HS0
  go_wp2
  clear hW0
  have Hkb := Lib.hid hkb
  clear hkb
  have hD : Below W0.heap.size W0 W0.drew := (Below.refl _ _).drew
  have Hrows := Lib.hid (rows_any W0.drew p ip _ (H0.out.blk.below hD))
  have Htw := Lib.hid (own_twins ((H0.out.below hD).own) Hl.out d)
  clear hD
  refine Go.XR.region_sched ((· = W0.drew)) [(0, true), (2, true), (1, false), (3, false), (4, false)] [3, 4] Tryz.mixed (by kernel_rfl) (by kernel_rfl) (by kernel_rfl) ?_
  simp only [List.map_cons, List.map_nil, List.getElem?_cons_succ, List.getElem?_cons_zero]
  repeat (first | (refine Go.XR.S_light rfl rfl rfl ?_ (fun w' hS K hK => ?_) (fun K hK => ?_); rotate_left 1; (cases hS; (first | (refine Go.XR.wp_load_at 26 (.tmp 3) rfl kb 0 rfl (sumC d) (At.drew HS0.out) _ Tryz.underlying26 rfl (sumSize d) ?_) | go_step); exact hK); go_step; refine hK _ ?_; clear hK K))
  refine Go.XR.S_heavy (fun K hK => ?_)
  go_step
  ((with_reducible refine (Hrows.out).mono ?_); rintro e w' ⟨rfl, hw⟩)
  rw [hw]
  clear hw
  refine hK _ _ ⟨fun _ => rfl, ?_⟩
  clear hK K
  repeat (first | (refine Go.XR.S_light rfl rfl rfl ?_ (fun w' hS K hK => ?_) (fun K hK => ?_); rotate_left 1; (cases hS; (first | (refine Go.XR.wp_load_at 26 (.tmp 3) rfl kb 0 rfl (sumC d) (At.drew HS0.out) _ Tryz.underlying26 rfl (sumSize d) ?_) | go_step); exact hK); go_step; refine hK _ ?_; clear hK K))
  refine Go.XR.S_heavy (fun K hK => ?_)
  go_step
  ((with_reducible refine (Htw.out).mono ?_); rintro e w' ⟨ns, hT, a, c, rfl, ho, hb⟩)
  have Hb1 := Lib.hid (Hb0.out.trans ((Below.drew (Below.refl W0.heap.size W0)).trans (hb.mono (Nat.le_refl _)) |>.mono Hb0.out.size))
  have HT := Lib.hid hT
  have HR := Lib.hid (Row.owned ho)
  clear hb hT ho
  refine hK _ _ ⟨fun h => by simp at h, ?_⟩
  clear hK K
  repeat (first | (refine Go.XR.S_light rfl rfl rfl ?_ (fun w' hS K hK => ?_) (fun K hK => ?_); rotate_left 1; (cases hS; (first | (refine Go.XR.wp_load_at 26 (.tmp 3) rfl kb 0 rfl (sumC d) (At.drew HS0.out) _ Tryz.underlying26 rfl (sumSize d) ?_) | go_step); exact hK); go_step; refine hK _ ?_; clear hK K))
  repeat (first | (refine Go.XR.S_heavy (fun K hK => ?_); go_step; refine hK _ _ ⟨fun h => by simp at h, ?_⟩; clear hK K))
  refine Go.XR.S_nil ?_
  go_wp2
  go_ret
  exact ⟨ns, HT.out, a, c, rfl, HR.out, Hb1.out⟩
theorem fo_twins {w : World} {p : Nat} {F : List Nat} {M : FinT} (h : FOn w p F M) (hlen : M.D.length ≤ 2^20) (d : SumT) :
    Calls Tryz.prog 23 #[.pointer (some ⟨p, 0, none⟩), sumV d] w fun e w' => ∃ ns, TwinsOf M.D d ns ∧ ∃ a c, e = .returned (.slice a (ns.map fun n => (⟨d, n⟩ : KeyT)).length c) ∧ Row w' a ((ns.map fun n => (⟨d, n⟩ : KeyT)).flatMap keyL) ∧ Below w.heap.size w w' := by
  obtain ⟨Fi, Fc, ip, vp, vq, cp, h1, rfl⟩ := h
  exact ftwins_any w Fi Fc p ip vp vq cp M h1 hlen d
theorem zero_fact : ∃ zs : Array Value, zs.size = 38 ∧ ∀ w, (zeroValue 46).run Tryz.prog w = .ok (.agg zs) w := ⟨_, rfl, fun w => Tryz.zeroValue46 w⟩
theorem factSize (a : FActT) : (Tryz.prog.info? 46).map (·.size) = some (factC a).size := by rw [factC_size]; kernel_rfl
section
variable {w w' w1 : World} {p fp ip vp vq cp : Nat} {F G : List Nat} {M : FinT} {N : RefT}
theorem DTo.after (h : DTo w1 p fp ip vp vq cp F G M N w') (hb : Below w.heap.size w w1) : DTo w p fp ip vp vq cp F G M N w' := by
  obtain ⟨vq', F', G', h1, h2, h3⟩ := h
  exact ⟨vq', F', G', h1, (But.of_below hb).trans h2, fun b h => (h3 b h).imp id (fun h4 => Nat.le_trans hb.size h4)⟩
theorem DTo.below (h : DTo w p fp ip vp vq cp F G M N w') (hb : Below w'.heap.size w' w1) : DTo w p fp ip vp vq cp F G M N w1 := by
  obtain ⟨vq', F', G', h1, h2, h3⟩ := h
  exact ⟨vq', F', G', h1.below hb, h2.trans (But.of_below hb), h3⟩
end
/-- both at the start -/
theorem step0 (m n r : Nat) : InStep (fin0 m n r) (ref0 m n r) where
  len := by show (List.replicate m false).length = m; rw [List.length_replicate]
  bits := fun i _ => (bg_rep m i).trans (bit_rep _ i).symm
  probes := rfl
  room := rfl
  tabs := TabsIn.nil
  rows := ⟨List.Perm.refl _, List.Pairwise.nil⟩
  asked := rfl
  loaded := rfl
theorem fput_len (M : FinT) (k : KeyT) (v : PlaceT) : (fPut M k v).D.length ≤ M.D.length + 1 ∧ (fPut M k v).asked = M.asked ∧ (fPut M k v).loaded = M.loaded := by
  refine ⟨?_, rfl, rfl⟩
  show (aput (adel M.D k) k v).length ≤ _
  have h2 := aput_le (adel M.D k) k v
  have h3 := adel_len M.D k
  omega
theorem fdrop_len (M : FinT) (k : KeyT) : (fDrop M k).D.length ≤ M.D.length + 1 ∧ (fDrop M k).asked = M.asked ∧ (fDrop M k).loaded = M.loaded := by
  refine ⟨?_, rfl, rfl⟩
  show (adel M.D k).length ≤ _
  have h3 := adel_len M.D k
  omega
end Go.Proofs.YtnfbchhbcinloaaGreat
