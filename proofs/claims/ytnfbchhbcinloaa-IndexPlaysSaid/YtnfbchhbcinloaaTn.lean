/- The walk over Twins. -/
import Derived.Test.YtnfbchhbcinloaaBk
namespace Go.IndexPure
open Go.XR
abbrev SumT := Vector UInt8 32
/-- the numbers of a fingerprint, where they lie -/
structure NumRow where
  a : Option Addr
  c : Nat
  l : List UInt32
def numV (r : NumRow) : Value := .slice r.a r.l.length r.c
def numsOf (T : List (SumT × NumRow)) (d : SumT) : List UInt32 := match aget T d with | some r => r.l | none => []
end Go.IndexPure
namespace Go.Proofs.Ytnfbchhbcinloaa
open Go.RowKit Go.XR Go.IndexPure
theorem zero_key : ∃ zs : Array Value, zs.size = 33 ∧ ∀ w, (zeroValue 27).run Try.prog w = .ok (.agg zs) w := ⟨_, rfl, fun w => Try.zeroValue27 w⟩
theorem owns_base {w : World} {B B' : Nat} {e : TypeId} {size : Nat} {v : Value} {n : Nat} {xs : List Value} (h : w.ownsRow B' e size v n xs) (hb : B ≤ B') : w.ownsRow B e size v n xs := by
  refine ⟨h.1, ?_⟩
  rcases h.2 with h2 | ⟨g, cap, cur, h1, h2, h3⟩
  · exact .inl h2
  · exact .inr ⟨g, cap, cur, h1, Nat.le_trans hb h2, h3⟩
def RetTwins (w : World) (l : List KeyT) (e : Ending) (w' : World) : Prop :=
  ∃ a c, e = .returned (.slice a l.length c) ∧ w'.ownsRow w.heap.size 27 33 (.slice a l.length c) l.length (l.flatMap keyL) ∧ Below w.heap.size w w'
set_option maxHeartbeats 1000000 in
set_option maxRecDepth 100000 in
theorem twins_nil (w : World) (d : SumT) : Calls Try.prog 18 #[.pointer none, sumV d] w (RetTwins w []) := by
  go_enter Try.func18, Try.ntmps18
  go_wp2
  go_ret
  exact ⟨none, 0, rfl, ⟨rfl, .inl ⟨rfl, rfl⟩⟩, (Below.refl _ _).alloc (Nat.le_refl _) _⟩
set_option maxHeartbeats 1000000 in
set_option maxRecDepth 100000 in
theorem twins_any (w : World) (p pb tb sb : Nat) (T : List (SumT × NumRow)) (hB : Blk w p [.map (some pb), .map (some tb), .map (some sb)]) (hG : GM sumV numV w tb T) (hR : ∀ d r, aget T d = some r → Row w r.a (r.l.flatMap nL) ∧ r.l.length ≤ 2^20) (d : SumT) :
    Calls Try.prog 18 #[.pointer (some ⟨p, 0, none⟩), sumV d] w (RetTwins w ((numsOf T d).map fun n => ⟨d, n⟩)) := by
  obtain ⟨zs, hzs, hz⟩ := zero_key
  have Hz := Lib.hid hz
  clear hz
  obtain ⟨W0, hW0⟩ : ∃ W0, w.alloc (.cells (sumC d) 24) = W0 := ⟨_, rfl⟩
  have hb0 : Below w.heap.size w W0 := by rw [← hW0]; exact (Below.refl _ _).alloc (Nat.le_refl _) _
  have HB0 := Lib.hid hb0
  have HM0 := Lib.hid (hB.below hb0)
  have HG0 := Lib.hid (hG.below hb0)
  have HK0 : Hid (At W0 w.heap.size 0 (sumC d)) := by unfold Hid; rw [← hW0]; exact At.new _ _ _
  obtain ⟨xa, xc, l, hv, hl, hrow, hlen⟩ : ∃ xa xc l, ((aget T d).map numV).getD (.slice none 0 0) = .slice xa l.length xc ∧ numsOf T d = l ∧ Row W0 xa (l.flatMap nL) ∧ l.length ≤ 2^20 := by
    cases h : aget T d with
    | some r => exact ⟨r.a, r.c, r.l, rfl, by unfold numsOf; rw [h], (hR d r h).1.below hb0, (hR d r h).2⟩
    | none => exact ⟨none, 0, [], rfl, by unfold numsOf; rw [h], .inl rfl, by decide⟩
  have Hv := Lib.hid hv
  have Hrow := Lib.hid hrow
  rw [hl]
  clear hB hG hR hb0 hv hrow hl
  have c1 := HM0.out.cell (i := 1) rfl
  obtain ⟨db, hdb⟩ : ∃ db, w.heap.size = db := ⟨_, rfl⟩
  have Hdb := Lib.hid hdb
  rw [hdb] at HK0
  go_enter Try.func18, Try.ntmps18
  go_wp2
  refine Go.XR.region_sched ((· = W0.drew)) [(0, true), (1, true), (2, true), (3, true), (4, true), (7, true), (5, false), (6, true)] [] Try.mixed (by kernel_rfl) (by kernel_rfl) (by kernel_rfl) ?_
  simp only [List.map_cons, List.map_nil, List.getElem?_cons_succ, List.getElem?_cons_zero]
  repeat (first | (refine Go.XR.S_light rfl rfl rfl ?_ (fun w' hS K hK => ?_) (fun K hK => ?_); rotate_left 1; (cases hS; (first | (refine Go.XR.wp_load_at 24 _ rfl db 0 rfl (sumC d) (At.drew HK0.out) _ Try.underlying24 rfl (sumSize d) ?_) | go_step); exact hK); go_step; refine hK _ ?_; clear hK K))
  refine Go.XR.S_heavy (fun K hK => ?_)
  refine Go.XR.wp_gm_lookup _ _ 81 rfl keysSum Try.underlying81 (.slice none 0 0) (fun w => Try.zeroValue85 w) d _ rfl rfl (GM.block (w' := W0.drew) HG0.out rfl) Hv.out ?_
  refine hK _ _ ⟨fun _ => rfl, ?_⟩
  clear hK K
  repeat (first | (refine Go.XR.S_light rfl rfl rfl ?_ (fun w' hS K hK => ?_) (fun K hK => ?_); rotate_left 1; (cases hS; (first | (refine Go.XR.wp_load_at 24 _ rfl db 0 rfl (sumC d) (At.drew HK0.out) _ Try.underlying24 rfl (sumSize d) ?_) | go_step); exact hK); go_step; refine hK _ ?_; clear hK K))
  refine Go.XR.S_nil ?_
  go_wp2
  have hzd : db ≤ W0.heap.size := by have := HB0.out.size; omega
  go_loopg [17, 5] l.length (fun n i out w1 => Below W0.heap.size W0 w1 ∧ ∃ (j : Nat) (o : List KeyT) (a : Option Addr) (c : Nat), j ≤ l.length ∧ i = .int .i64 j ∧ out = .slice a o.length c ∧ Hid (n = l.length - j ∧ o = (l.take j).map (fun n => ⟨d, n⟩) ∧ w1.ownsRow W0.heap.size 27 33 (.slice a o.length c) o.length (o.flatMap keyL)))
  case atStart => exact ⟨(Below.refl _ _).drew, 0, [], none, 0, by omega, rfl, rfl, rfl, rfl, rfl, .inl ⟨rfl, rfl⟩⟩
  case round =>
    obtain ⟨hb, j, o, a, c, hj, rfl, rfl, hr⟩ := hrel
    have Hb := Lib.hid hb
    clear hb
    have Ho := Lib.hid hr.out.2.1
    have Hown := Lib.hid hr.out.2.2
    have hgn := hr.out.1
    clear hr
    by_cases hlt : j < l.length
    · have hlt2 : (j : Int) < (l.length : Int) := by omega
      obtain ⟨g, oo, rfl, c0⟩ := row_num (Hrow.out.below Hb.out) hlt
      have hol : o.length ≤ 2^20 := by rw [Ho.out, List.length_map, List.length_take]; omega
      have Hsn : Hid (o ++ [⟨d, l[j]⟩] = (l.take (j + 1)).map (fun n => ⟨d, n⟩)) := by
        unfold Hid
        rw [List.take_succ_eq_append_getElem hlt, List.map_append, ← Ho.out]; rfl
      have HK := Lib.hid (At.below HK0.out (by rw [sumC_size]; omega) Hb.out)
      have hzb := Hb.out.size
      generalize l[j] = nj at *
      go_wp2_with (first | (refine wpList_load_at rfl 24 _ rfl db 0 rfl (sumC d) HK.out _ Try.underlying24 rfl (sumSize d) ?_) | (refine wpList_build_key rfl _ _ rfl d nj rfl rfl ?_) | (refine wpList_build_one rfl 42 _ rfl 27 33 Try.underlying42 (by kernel_rfl) (by omega) (by omega) _ (Hz.out _) (keyC ⟨d, nj⟩) rfl (keyC_size _) ?_) | (at_builtin; refine Go.XR.stop (fun X hX => ?_)))
      refine hX.out ?_
      clear hX X
      refine wpList_plain rfl (fun K hK => ?_)
      refine append_enc (P := Try.prog) keyL 33 36 keyL_length one_keyL 27 Try.underlying42 (by kernel_rfl) (by decide) W0.heap.size a c o rfl (Hown.out.alloc _) (some ⟨wr.heap.size, 0, none⟩) 1 [⟨d, nj⟩] rfl (by rw [List.flatMap_cons, List.flatMap_nil, List.append_nil]; exact Row.new _ _ _) (fun e => by cases e) (by simp; omega) (by unfold maxLen; simp; omega) (by simp; omega) ?_
      intro a3 c3 w3 ho3 hb3 _ hg3
      have Ho3 := Lib.hid ho3
      have Hb3 := Lib.hid ((Hb.out.alloc Hb.out.size _).trans hb3)
      clear ho3 hb3 hg3
      obtain ⟨o3, hoo⟩ : ∃ o3, o ++ [(⟨d, nj⟩ : KeyT)] = o3 := ⟨_, rfl⟩
      rw [hoo] at Hsn Ho3 ⊢
      clear hoo
      go_wp2
      go_roundg (l.length - (j + 1))
      case measure => omega
      case rel => exact ⟨Hb3.out, j + 1, o3, a3, c3, by omega, by go_num, rfl, rfl, Hsn.out, Ho3.out⟩
    · have hge : ¬ (j : Int) < (l.length : Int) := by omega
      have Hoe : Hid (o = l.map (fun n => ⟨d, n⟩)) := by unfold Hid; rw [Ho.out, List.take_of_length_le (by omega)]
      go_wp2
      go_ret
      unfold RetTwins
      rw [← Hoe.out]
      exact ⟨a, c, rfl, owns_base Hown.out HB0.out.size, HB0.out.trans (Hb.out.mono HB0.out.size)⟩
end Go.Proofs.Ytnfbchhbcinloaa
