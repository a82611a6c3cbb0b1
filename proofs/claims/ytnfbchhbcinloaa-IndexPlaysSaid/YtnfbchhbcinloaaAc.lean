/- Acts as cells; the walks over few and shown. -/
import Derived.Test.YtnfbchhbcinloaaPt
namespace Go.Proofs.Ytnfbchhbcinloaa
open Go.RowKit Go.XR Go.IndexPure
/-- what is done -/
structure ActT where
  gone : Bool
  key : KeyT
  place : PlaceT
  ok : PlaceOk place
def actL (a : ActT) : List Value := .bool a.gone :: rowL (a.key, a.place)
theorem actL_length (a : ActT) : (actL a).length = 36 := by unfold actL; rw [List.length_cons, rowL_length]
def actC (a : ActT) : Array Value := (actL a).toArray
theorem actC_size (a : ActT) : (actC a).size = 36 := by unfold actC; rw [List.size_toArray, actL_length]
theorem one_actL (a : ActT) : ∀ v ∈ actL a, v.oneCell' = true := by
  intro v hv
  unfold actL at hv
  rcases List.mem_cons.1 hv with rfl | h
  · rfl
  · exact one_rowL _ v h
theorem act_leafs : (leafs Try.prog 8 37).getD [] = .bool :: (List.replicate 32 (.int .u8) ++ [.int .u32] ++ [.int .i64, .int .i64]) := by kernel_rfl
theorem act_fits : ∀ cs, Fits ((leafs Try.prog 8 37).getD []) cs → ∃ a : ActT, actL a = cs := by
  rw [act_leafs]
  intro cs hf
  obtain _ | ⟨⟨b, rfl⟩, hf⟩ := hf
  obtain ⟨x, y, rfl, h1, h2⟩ := fits_split hf
  rw [← key_leafs] at h1
  obtain ⟨k, rfl⟩ := key_fits _ h1
  obtain _ | ⟨⟨z, rfl, hz⟩, h2⟩ := h2
  obtain _ | ⟨⟨u, rfl, hu⟩, h2⟩ := h2
  cases h2
  have hb1 := bounds_i64 hz
  have hb2 := bounds_i64 hu
  exact ⟨⟨b, k, ⟨z, u⟩, ⟨by omega, by omega⟩⟩, rfl⟩
theorem act_len (a : ActT) : (actL a).length = ((leafs Try.prog 8 37).getD []).length := by
  rw [act_leafs, actL_length]; rfl
set_option maxHeartbeats 1000000 in
set_option maxRecDepth 100000 in
theorem few_any (w : World) (a : Option Addr) (c : Nat) (l : List ActT) (hl : l.length ≤ maxLen) (hc : l.length ≤ c) :
    Calls Try.prog 14 #[.slice a l.length c] w fun e w' => e = .returned (.slice a (l.take 200).length c) ∧ w' = w := by
  unfold maxLen at hl
  have e1 : (min (l.length : Int) 200) = ((l.take 200).length : Int) := by rw [List.length_take]; omega
  have e2 : (l.take 200).length ≤ l.length := by rw [List.length_take]; omega
  have e3 : (min 200 l.length) = (l.take 200).length := by rw [List.length_take]
  generalize (l.take 200).length = m at *
  generalize l.length = n at *
  go_enter Try.func14, Try.ntmps14
  go_wp2
  go_ret
  exact ⟨rfl, rfl⟩
def RetBool (w : World) (b : Bool) (e : Ending) (w' : World) : Prop := e = .returned (.bool b) ∧ Below w.heap.size w w'
/-- a new index is one -/
theorem RetNew.ix {w w' : World} {e : Ending} (h : RetNew w e w') : ∃ p F, e = .returned (.pointer (some ⟨p, 0, none⟩)) ∧ Ix w' F p [] ∧ (∀ b ∈ F, w.heap.size ≤ b) ∧ Below w.heap.size w w' := by
  obtain ⟨p, pb, tb, sb, rfl, h1, h2, h3, h4, h5, h6, h7, h8, h9, h10⟩ := h
  refine ⟨p, [p, pb, tb, sb], rfl, ⟨pb, tb, sb, [], [], fun _ => [], ?_, ?_⟩, ?_, h10⟩
  · refine ⟨?_, h1, by simp, by omega, ⟨#[], 0, h2, MapKept.stamped_empty 0, rfl⟩, ⟨#[], 0, h3, MapKept.stamped_empty 0, rfl⟩, ⟨#[], 0, h4, MapKept.stamped_empty 0, rfl⟩, ?_, ?_, ?_, ?_⟩
    · intro b hb
      simp at hb
      omega
    · intro d r hr; cases hr
    · intro d e r s a b hr; cases hr
    · intro s m hm; cases hm
    · intro s t m hm; cases hm
  · refine ⟨List.nodup_nil, fun d => List.Pairwise.nil, fun d r hr => (by cases hr), fun d n => ?_, fun k v hv => (by cases hv), fun s k => ?_, fun s m hm => (by cases hm)⟩
    · constructor
      · intro h; cases h
      · intro h; cases h
    · constructor
      · rintro ⟨m, hm, _⟩; cases hm
      · rintro ⟨v, hv, _⟩; cases hv
  · intro b hb
    simp at hb
    omega
theorem Ix.below {w w' : World} {F : List Nat} {p : Nat} {D : List (KeyT × PlaceT)} (h : Ix w F p D) (hb : Below w.heap.size w w') : Ix w' F p D := by
  obtain ⟨pb, tb, sb, T, Sh, L, h1, h2⟩ := h
  exact ⟨pb, tb, sb, T, Sh, L, h1.below hb, h2⟩
theorem Ix.but {w w' : World} {F S : List Nat} {p : Nat} {D : List (KeyT × PlaceT)} (h : Ix w F p D) (hb : But S w w') (hS : ∀ b ∈ F, b ∉ S) : Ix w' F p D := by
  obtain ⟨pb, tb, sb, T, Sh, L, h1, h2⟩ := h
  exact ⟨pb, tb, sb, T, Sh, L, h1.but hb hS, h2⟩
/-- an index of the call's own: it stands from block B on -/
def Own (B : Nat) (w : World) (p : Nat) (D : List (KeyT × PlaceT)) : Prop := ∃ F, Ix w F p D ∧ ∀ b ∈ F, B ≤ b
theorem Own.below {B : Nat} {w w' : World} {p : Nat} {D : List (KeyT × PlaceT)} (h : Own B w p D) (hb : Below w.heap.size w w') : Own B w' p D := by
  obtain ⟨F, h1, h2⟩ := h
  exact ⟨F, h1.below hb, h2⟩
theorem own_put {B : Nat} {w : World} {p : Nat} {D : List (KeyT × PlaceT)} (h : Own B w p D) (hB : B ≤ w.heap.size) (hlen : D.length ≤ 2^20) (k : KeyT) (v : PlaceT) (hv : PlaceOk v) :
    Calls Try.prog 16 #[.pointer (some ⟨p, 0, none⟩), keyV k, placeV v] w fun e w' => e = .returned (.bool (aget D k).isSome) ∧ Own B w' p (aput (adel D k) k v) ∧ Below B w w' := by
  obtain ⟨F, h1, h2⟩ := h
  refine (put_any w F p D h1 hlen k v hv).mono ?_
  rintro e w' ⟨rfl, F', h3, h4, h5⟩
  refine ⟨rfl, ⟨F', h3, fun b hb => ?_⟩, h4.below hB h2⟩
  rcases h5 b hb with h6 | h6
  · exact h2 b h6
  · omega
theorem own_drop {B : Nat} {w : World} {p : Nat} {D : List (KeyT × PlaceT)} (h : Own B w p D) (hB : B ≤ w.heap.size) (hlen : D.length ≤ 2^20) (k : KeyT) :
    Calls Try.prog 15 #[.pointer (some ⟨p, 0, none⟩), keyV k] w fun e w' => e = .returned (.bool (aget D k).isSome) ∧ Own B w' p (adel D k) ∧ Below B w w' := by
  obtain ⟨F, h1, h2⟩ := h
  refine (drop_any w F p D h1 hlen k).mono ?_
  rintro e w' ⟨rfl, F', h3, h4, h5⟩
  refine ⟨rfl, ⟨F', h3, fun b hb => ?_⟩, h4.below hB h2⟩
  rcases h5 b hb with h6 | h6
  · exact h2 b h6
  · omega
theorem own_get {B : Nat} {w : World} {p : Nat} {D : List (KeyT × PlaceT)} (h : Own B w p D) (k : KeyT) :
    Calls Try.prog 17 #[.pointer (some ⟨p, 0, none⟩), keyV k] w (RetGet w D k) := by
  obtain ⟨F, ⟨pb, tb, sb, T, Sh, L, h1, h2⟩, h3⟩ := h
  exact get_any w p pb tb sb D h1.blk h1.places k
theorem own_len {B : Nat} {w : World} {p : Nat} {D : List (KeyT × PlaceT)} (h : Own B w p D) :
    Calls Try.prog 19 #[.pointer (some ⟨p, 0, none⟩)] w (RetInt w D.length) := by
  obtain ⟨F, ⟨pb, tb, sb, T, Sh, L, h1, h2⟩, h3⟩ := h
  exact len_any w p pb tb sb D h1.blk h1.places
/-- the twins of a fingerprint: rising, and just those that are there -/
def TwinsOf (D : List (KeyT × PlaceT)) (d : SumT) (ns : List UInt32) : Prop := ns.Pairwise (fun x y => x.toNat < y.toNat) ∧ (∀ n, n ∈ ns ↔ (aget D ⟨d, n⟩).isSome = true) ∧ ns.length ≤ D.length
theorem own_twins {B : Nat} {w : World} {p : Nat} {D : List (KeyT × PlaceT)} (h : Own B w p D) (hlen : D.length ≤ 2^20) (d : SumT) :
    Calls Try.prog 18 #[.pointer (some ⟨p, 0, none⟩), sumV d] w fun e w' => ∃ ns, TwinsOf D d ns ∧ RetTwins w (ns.map fun n => ⟨d, n⟩) e w' := by
  obtain ⟨F, ⟨pb, tb, sb, T, Sh, L, h1, h2⟩, h3⟩ := h
  refine (twins_any w p pb tb sb T h1.blk h1.twins (fun d r hr => ⟨Row.owned (h1.row d r hr).1, ?_⟩) d).mono ?_
  · have := h2.nums_le d
    rw [numsOf_eq, hr] at this
    exact Nat.le_trans this hlen
  · intro e w' h
    exact ⟨numsOf T d, ⟨h2.sorted d, h2.mem d, h2.nums_le d⟩, h⟩
def k5 : KeyT := ⟨Vector.replicate 32 0, 5⟩
theorem ok12 : PlaceOk ⟨1, 2⟩ := by unfold PlaceOk; decide
theorem ok34 : PlaceOk ⟨3, 4⟩ := by unfold PlaceOk; decide
set_option maxHeartbeats 4000000 in
set_option maxRecDepth 100000 in
theorem shown_any (w : World) : Calls Try.prog 12 #[] w (RetBool w true) := by
  go_enter Try.func12, Try.ntmps12
  go_wp2_with fail
  refine (new_any w).mono ?_
  intro e w1 h1
  obtain ⟨p, F, rfl, hI, hF, hb1⟩ := h1.ix
  clear h1
  have Hb1 := Lib.hid hb1
  have HO : Hid (Own w.heap.size w1 p []) := ⟨F, hI, hF⟩
  clear hI hF hb1
  go_wp2_with fail
  refine (own_put HO.out Hb1.out.size (by decide) k5 ⟨1, 2⟩ ok12).mono ?_
  rintro e w2 ⟨rfl, hO2, hb2⟩
  rw [show (aget ([] : List (KeyT × PlaceT)) k5).isSome = false from rfl]
  have HO2 := Lib.hid hO2
  have Hb2 := Lib.hid (Hb1.out.trans hb2)
  clear hO2 hb2 HO Hb1
  go_wp2_with fail
  refine (own_put HO2.out Hb2.out.size (by decide) k5 ⟨3, 4⟩ ok34).mono ?_
  rintro e w3 ⟨rfl, hO3, hb3⟩
  rw [show (aget (aput (adel ([] : List (KeyT × PlaceT)) k5) k5 ⟨1, 2⟩) k5).isSome = true by rw [aget_put, if_pos rfl]; rfl]
  obtain ⟨D, hD⟩ : ∃ D, aput (adel (aput (adel ([] : List (KeyT × PlaceT)) k5) k5 ⟨1, 2⟩) k5) k5 ⟨3, 4⟩ = D := ⟨_, rfl⟩
  have hg : aget D k5 = some ⟨3, 4⟩ := by rw [← hD, aget_put, if_pos rfl]
  have hl : D.length ≤ 2 := by
    rw [← hD]
    refine Nat.le_trans (aput_le _ _ _) ?_
    have h1 := adel_len (aput (adel ([] : List (KeyT × PlaceT)) k5) k5 ⟨1, 2⟩) k5
    have h2 := aput_le (adel ([] : List (KeyT × PlaceT)) k5) k5 (⟨1, 2⟩ : PlaceT)
    have h3 : (adel ([] : List (KeyT × PlaceT)) k5).length = 0 := rfl
    omega
  rw [hD] at hO3
  have Hg := Lib.hid hg
  have HO3 := Lib.hid hO3
  have Hb3 := Lib.hid (Hb2.out.trans hb3)
  clear hO3 hb3 HO2 Hb2 hD hg
  go_wp2_with fail
  refine (own_get HO3.out k5).mono ?_
  rintro e w4 ⟨rfl, hb4⟩
  rw [Hg.out, show (some (⟨3, 4⟩ : PlaceT)).getD place0 = ⟨3, 4⟩ from rfl, show (some (⟨3, 4⟩ : PlaceT)).isSome = true from rfl]
  rw [show (placeV ⟨3, 4⟩) = .agg #[.int .i64 3, .int .i64 4] from rfl]
  have HO4 := Lib.hid (HO3.out.below hb4)
  have Hb4 := Lib.hid (Hb3.out.trans (hb4.mono Hb3.out.size))
  clear hb4 HO3 Hb3
  go_wp2_with fail
  have hb5 : Below w4.heap.size w4 (w4.alloc (.cells #[.int .i64 3, .int .i64 4] 33)) := (Below.refl _ _).alloc (Nat.le_refl _) _
  have HO5 := Lib.hid (HO4.out.below hb5)
  have Hb5 := Lib.hid (Hb4.out.trans (hb5.mono Hb4.out.size))
  clear hb5 HO4 Hb4
  refine (own_drop HO5.out Hb5.out.size (by omega) k5).mono ?_
  rintro e w6 ⟨rfl, hO6, hb6⟩
  rw [Hg.out, show (some (⟨3, 4⟩ : PlaceT)).isSome = true from rfl]
  have HO6 := Lib.hid hO6
  have Hb6 := Lib.hid (Hb5.out.trans hb6)
  have hl6 : (adel D k5).length ≤ 2 := Nat.le_trans (adel_len D k5) hl
  clear hO6 hb6 HO5 Hb5
  go_wp2_with fail
  refine (own_drop HO6.out Hb6.out.size (by omega) k5).mono ?_
  rintro e w7 ⟨rfl, hO7, hb7⟩
  rw [aget_del, if_pos rfl, show (none : Option PlaceT).isSome = false from rfl]
  have Hb7 := Lib.hid (Hb6.out.trans hb7)
  clear hO7 hb7
  go_wp2
  go_ret
  exact ⟨rfl, Hb7.out⟩
end Go.Proofs.Ytnfbchhbcinloaa
