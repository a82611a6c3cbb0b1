/- The walks over All and Shelf. -/
import Derived.Test.YtnfbchhbcinloaaRe
import Derived.Test.YtnfbchhbcinloaaRg
import Derived.Test.YtnfbchhbcinloaaSort
import Derived.Test.YtnfbchhbcinloaaSh
import Derived.Shelf.SlSortCmp.NoneTotal
namespace Go.XR
open Go Go.RowKit
theorem alloc2_setRow (w : World) (zs cs : Array Value) (T : TypeId) (o : Obj) : ((w.alloc (.cells zs T)).alloc o).setRow w.heap.size cs = (w.alloc (.cells cs T)).alloc o := by
  unfold World.setRow World.alloc
  congr 1
  refine Array.ext_getElem? fun i => ?_
  simp only [Array.getElem?_modify, Array.getElem?_push, Array.size_push]
  by_cases h : i = w.heap.size
  · subst h; simp
  · rw [if_neg (fun e => h e.symm), if_neg h, if_neg h]
/-- the elder of two variables that were just made, written whole -/
theorem wpList_store_new2 {P : Program} {w : World} {ops : Array Oper} {rest : List Oper} {o : Oper} {a : Act} {Q : Exit → Act → World → Prop} (hgd : o.guard = none) (ty : TypeId) (x v : Operand) (ho : o.op = .store ty x v)
    (zs cs : Array Value) (t : TypeId) (ob : Obj) (hx : a.eval x = .pointer (some ⟨w.heap.size, 0, none⟩)) (hv : a.eval v = .agg cs) (hz : zs.size = cs.size) (h1 : ∀ v ∈ cs.toList, v.oneCell' = true)
    (hi : (P.info? ty).map (·.size) = some cs.size)
    (hK : wpList P ops Q rest (a.put o.dst undef) ((w.alloc (.cells cs t)).alloc ob)) : wpList P ops Q (o :: rest) a ((w.alloc (.cells zs t)).alloc ob) :=
  wpList_plain hgd fun _ hK' => wp_store_at ty x v ho w.heap.size 0 hx cs zs hv t (by
    rw [Below.heap_alloc (w.alloc (.cells zs t)) ob w.heap.size (by simp), (MapKept.heap_alloc w _).1]) (by omega) h1 hi (by
    have e : (zs.toList.take 0 ++ cs.toList ++ zs.toList.drop (0 + cs.size)).toArray = cs := by
      rw [List.take_zero, List.nil_append, List.drop_eq_nil_of_le (by rw [Array.length_toList]; omega), List.append_nil]
    rw [e, alloc2_setRow]
    exact hK' _ _ hK)
theorem wpList_store_newN {P : Program} {w : World} {ops : Array Oper} {rest : List Oper} {o : Oper} {a : Act} {Q : Exit → Act → World → Prop} (hgd : o.guard = none) (ty : TypeId) (x v : Operand) (ho : o.op = .store ty x v)
    (zs cs : Array Value) (t : TypeId) (n : Nat) (hn : w.heap.size = n) (hx : a.eval x = .pointer (some ⟨n, 0, none⟩)) (hv : a.eval v = .agg cs) (hz : zs.size = cs.size) (h1 : ∀ v ∈ cs.toList, v.oneCell' = true)
    (hi : (P.info? ty).map (·.size) = some cs.size)
    (hK : wpList P ops Q rest (a.put o.dst undef) (w.alloc (.cells cs t))) : wpList P ops Q (o :: rest) a (w.alloc (.cells zs t)) :=
  wpList_store_new hgd ty x v ho zs cs t (by rw [hn]; exact hx) hv hz h1 hi hK
end Go.XR
namespace Go.IndexPure
open Go.XR
abbrev RowT := KeyT × PlaceT
instance : Inhabited (KeyT × PlaceT) := ⟨(⟨Vector.replicate 32 0, 0⟩, ⟨0, 0⟩)⟩
/-- all rows, in order; those of a shelf -/
def AllOf (D L : List RowT) : Prop := L.Perm D ∧ L.Pairwise (fun x y => cfA x y < 0)
def onS (s : Int) (r : RowT) : Bool := decide (r.2.shelf = s)
def ShelfOf (D : List RowT) (s : Int) (L : List RowT) : Prop := L.Perm (D.filter (onS s)) ∧ L.Pairwise (fun x y => cfS x y < 0)
end Go.IndexPure
namespace Go.Proofs.Ytnfbchhbcinloaa
open Go.RowKit Go.XR Go.IndexPure
def RetRows (w : World) (L : List RowT) (e : Ending) (w' : World) : Prop :=
  ∃ a c, e = .returned (.slice a L.length c) ∧ Row w' a (L.flatMap rowL) ∧ (∀ x, a = some x → w.heap.size ≤ x.block) ∧ Below w.heap.size w w'
theorem own_blk {w : World} {B g c : Nat} {L : List RowT} (h : w.ownsRow B 35 35 (.slice (some ⟨g, 0, none⟩) L.length c) L.length (L.flatMap rowL)) : ∃ rest, Blk w g (L.flatMap rowL ++ rest) ∧ B ≤ g := by
  rcases h.2 with ⟨h1, _⟩ | ⟨g', cap, cur, h1, h2, h3, h4, h5, h6, h7⟩
  · cases h1
  · cases h1
    refine ⟨cur.toList.drop (L.length * 35), ⟨35, ?_⟩, h2⟩
    rw [← h7, List.take_append_drop, Array.toArray_toList]
    exact h3
theorem sortA_any (w : World) (b cap : Nat) (l : List RowT) (rest : List Value) (hB : Blk w b (l.flatMap rowL ++ rest)) (hl : l.length < 4611686018427387904) :
    Calls Try.prog 48 #[.slice (some ⟨b, 0, none⟩) l.length cap, .func (.func 49) #[] #[]] w (RetSort rowL cfA w b l) :=
  sort_any (w := w) (b := b) Try.sortRow Try.isAgg35 Try.sizeOf35 rowL_length one_rowL cfA swoA 49 (fun args w => enters_of Try.func49 (by kernel_rfl) rfl args w) (fun x y W => cmpA_any x y W) cap l rest hB hl
theorem sortS_any (w : World) (b cap : Nat) (l : List RowT) (rest : List Value) (hB : Blk w b (l.flatMap rowL ++ rest)) (hl : l.length < 4611686018427387904) :
    Calls Try.prog 48 #[.slice (some ⟨b, 0, none⟩) l.length cap, .func (.func 51) #[] #[]] w (RetSort rowL cfS w b l) :=
  sort_any (w := w) (b := b) Try.sortRow Try.isAgg35 Try.sizeOf35 rowL_length one_rowL cfS swoS 51 (fun args w => enters_of Try.func51 (by kernel_rfl) rfl args w) (fun x y W => cmpS_any x y W) cap l rest hB hl
theorem sort_none (w : World) (p : Option Addr) (cap : Nat) (fv : Value) : Calls Try.prog 48 #[.slice p 0 cap, fv] w fun e w' => e = .returned (.tuple #[]) ∧ w' = w :=
  AnyF.slices_SortFunc_none Try.sortRow p cap fv w
theorem GM.nodupK {w : World} {pb : Nat} {D : List RowT} (h : GM keyV placeV w pb D) : (D.map (·.1)).Nodup := GM.nodup (P := Try.prog) keysKey h
set_option maxHeartbeats 1000000 in
set_option maxRecDepth 100000 in
theorem all_any (w : World) (p pb tb sb : Nat) (D : List RowT) (hB : Blk w p [.map (some pb), .map (some tb), .map (some sb)]) (hG : GM keyV placeV w pb D) (hlen : D.length ≤ 2^20) :
    Calls Try.prog 20 #[.pointer (some ⟨p, 0, none⟩)] w fun e w' => ∃ L, AllOf D L ∧ RetRows w L e w' := by
  have c0 := hB.cell (i := 0) rfl
  have hnd := GM.nodupK hG
  have Hnd := Lib.hid hnd
  have HG := Lib.hid hG
  have hpl := hG.lt
  obtain ⟨zk, hzk, hzk2⟩ := zero_key
  obtain ⟨zp, hzp, hzp2⟩ : ∃ zp : Array Value, zp.size = 2 ∧ ∀ w, (zeroValue 33).run Try.prog w = .ok (.agg zp) w := ⟨_, rfl, fun w => Try.zeroValue33 w⟩
  obtain ⟨zr, hzr, hzr2⟩ := zero_row
  have Hzk := Lib.hid hzk2
  have Hzp := Lib.hid hzp2
  have Hzr := Lib.hid hzr2
  clear hB hG hnd hzk2 hzp2 hzr2
  go_enter Try.func20, Try.ntmps20
  go_wp2_with (refine wpList_gm_range rfl (.tmp 11) 80 rfl Try.underlying80 rfl HG.out (fun w1 hgr hb1 hsz => Go.XR.stop (fun X hX => ?_)))
  refine hX.out ?_
  clear hX X
  have HGR1 := Lib.hid hgr
  have Hb1 := Lib.hid hb1
  clear hgr hb1
  obtain ⟨ib, hib⟩ : ∃ ib, w.heap.size = ib := ⟨_, rfl⟩
  have Hib := Lib.hid hib
  rw [hib] at HGR1 hpl hsz ⊢
  clear hib c0
  go_wp2
  go_frame
  go_loopg [3] D.length (fun n out wr => ∃ (L left : List RowT) (a : Option Addr) (c : Nat), out = .slice a L.length c ∧ Hid (n = left.length ∧ Below ib w wr ∧ GR keyV placeV wr pb ib D left ∧ (L ++ left).Perm D ∧ w1.heap.size ≤ wr.heap.size ∧ wr.ownsRow w1.heap.size 35 35 (.slice a L.length c) L.length (L.flatMap rowL)))
  case atStart => exact ⟨[], D, none, 0, rfl, rfl, by have := Hb1.out; rwa [Hib.out] at this, HGR1.out, List.Perm.refl _, Nat.le_refl _, rfl, .inl ⟨rfl, rfl⟩⟩
  case round =>
    obtain ⟨L, left, a, c, rfl, hr⟩ := hrel
    have hgn := hr.out.1
    have Hb := Lib.hid hr.out.2.1
    have HGR := Lib.hid hr.out.2.2.1
    have HP := Lib.hid hr.out.2.2.2.1
    have hsz1 := hr.out.2.2.2.2.1
    have HO := Lib.hid hr.out.2.2.2.2.2
    have hLl : L.length ≤ 2^20 := by have := HP.out.length_eq; rw [List.length_append] at this; omega
    clear hr
    go_wp2_with (refine wpList_gr_next rfl (.tmp 12) rfl keysKey ib left rfl HGR.out (fun hdone => Go.XR.stop (fun X hX => ?_)) (fun k v w2 hm hgr2 hgb hsz2 hen => Go.XR.stop (fun X hX => ?_)))
    · refine hX.out ?_
      clear hX X
      have HP2 : Hid (L.Perm D) := by have := HP.out; rwa [hdone, List.append_nil] at this
      clear hdone HGR HP
      have HndL : Hid ((L.map (·.1)).Nodup) := (HP2.out.map (fun r : RowT => r.1)).nodup_iff.2 Hnd.out
      cases a with
      | none =>
        obtain ⟨hL0, hc0⟩ := owns_nil HO.out
        obtain rfl := List.eq_nil_of_length_eq_zero hL0
        clear hL0
        subst hc0
        go_wp2_with fail
        refine (sort_none wr none 0 _).mono ?_
        rintro e w3 ⟨rfl, rfl⟩
        go_wp2
        go_ret
        exact ⟨[], ⟨HP2.out, List.Pairwise.nil⟩, none, 0, rfl, .inl rfl, (fun x hx => by cases hx), by rw [Hib.out]; exact Hb.out⟩
      | some a =>
        obtain ⟨g, rfl⟩ : ∃ g, a = ⟨g, 0, none⟩ := by
          rcases HO.out.2 with ⟨h1, _⟩ | ⟨g', cap, cur, h1, _⟩
          · cases h1
          · injection h1 with h5; injection h5 with h6; exact ⟨g', h6⟩
        obtain ⟨rest, hblk, hg⟩ := own_blk HO.out
        have Hblk := Lib.hid hblk
        clear hblk
        go_wp2_with fail
        refine (sortA_any wr g c L rest Hblk.out (by omega)).mono ?_
        rintro e w3 ⟨rfl, L', hp, hs, hrow, hbut⟩
        have hnd' : (L'.map (·.1)).Nodup := (hp.map (fun r : RowT => r.1)).nodup_iff.2 HndL.out
        have hll := hp.length_eq
        have Hend : Hid (∃ M, AllOf D M ∧ RetRows w M (.returned (.slice (some ⟨g, 0, none⟩) L.length c)) w3) := by
          refine ⟨L', ⟨hp.trans HP2.out, strict_of (·.1) cfA (fun x y => cfK_swap x.1 y.1) (fun x y h => (cfK_zero x.1 y.1).1 h) hnd' hs⟩, some ⟨g, 0, none⟩, c, by rw [hll], hrow, fun x hx => ?_, ?_⟩
          · injection hx with hx; subst hx; rw [Hib.out]; show ib ≤ g; omega
          · rw [Hib.out]
            exact Hb.out.trans (hbut.below (by omega) (by intro i hi; rw [List.mem_singleton] at hi; subst hi; omega))
        clear hp hs hrow hbut hnd' hll
        go_wp2
        go_ret
        exact Hend.out
    · refine hX.out ?_
      clear hX X
      have Hen := Lib.hid hen
      have HGR2 := Lib.hid hgr2
      have Hb2 : Hid (Below ib w w2) := Hb.out.grown hgb (by omega) (fun k hk => by cases hk; exact Nat.le_refl _)
      have HO2 : Hid (w2.ownsRow w1.heap.size 35 35 (.slice a L.length c) L.length (L.flatMap rowL)) := HO.out.kept hgb (by
        cases ha : a with
        | none => exact .inl rfl
        | some x =>
          right
          intro e
          have e1 : x.block = ib := by simpa [Value.ownBlock] using e
          obtain ⟨h1, _⟩ := HO.out.lt x.block (by rw [ha]; rfl)
          omega)
      have hperm := adel_perm (HGR.out.sub.map (·.1) |>.nodup Hnd.out) hm
      have Hmeas : Hid ((adel left k).length < left.length) := by
        have := hperm.length_eq; rw [List.length_cons] at this; unfold Hid; omega
      have HPn : Hid (((L ++ [(k, v)]) ++ adel left k).Perm D) := by
        refine List.Perm.trans ?_ HP.out
        rw [List.append_assoc]
        exact List.Perm.append_left L hperm.symm
      have hsz3 : w1.heap.size ≤ w2.heap.size := by omega
      have hiw : ib ≤ w1.heap.size := by omega
      have hpw : pb < w1.heap.size := by omega
      have hgn2 := Lib.hid hgn
      clear hen hgr2 hm hperm hgb HGR HO Hb hsz2 hgn
      go_wp2_with (first | (refine wpList_entry rfl (.tmp 12) rfl ib rfl _ Hen.out ?_) | (refine wpList_alloc_new rfl 27 rfl zk (Hzk.out _) ?_) | (refine wpList_alloc_new rfl 33 rfl zp (Hzp.out _) ?_) | (refine opIs (X := .store 27 (.tmp 4) (.tmp 16)) rfl ?_; refine wpList_store_new2 rfl 27 (.tmp 4) (.tmp 16) rfl zk (keyC k) 27 _ rfl rfl (by rw [hzk, keyC_size]) (one_keyC k) (keySize k) ?_) | (refine opIs (X := .store 33 (.tmp 5) (.tmp 17)) rfl ?_; refine wpList_store_newN rfl 33 (.tmp 5) (.tmp 17) rfl zp (placeC v) 33 (w2.heap.size + 1) (by simp) (by simp [Act.eval, Act.put]) rfl (by rw [hzp]; rfl) (one_placeL v) (placeSize v) ?_) | (refine wpList_load_at rfl 27 (.tmp 4) rfl w2.heap.size 0 rfl (keyC k) ((At.new _ _ _).alloc _) _ Try.underlying27 rfl (keySize k) ?_) | (refine wpList_load_at rfl 33 (.tmp 5) rfl (w2.heap.size + 1) 0 (by simp [Act.eval, Act.put]) (placeC v) (by have h := At.new (w2.alloc (.cells (keyC k) 27)) (placeC v) 33; rwa [show (w2.alloc (.cells (keyC k) 27)).heap.size = w2.heap.size + 1 by simp] at h) _ Try.underlying33 rfl (placeSize v) ?_) | (refine wpList_build_row rfl (.tmp 19) (.tmp 20) rfl k v rfl rfl ?_) | (refine wpList_build_one rfl 46 (.tmp 21) rfl 35 35 Try.underlying46 (by kernel_rfl) (by omega) (by omega) _ (Hzr.out _) (rowC (k, v)) rfl (rowC_size _) ?_) | (at_builtin; refine Go.XR.stop (fun X hX => ?_)))
      refine hX.out ?_
      clear hX X
      have hbA : Below w1.heap.size w2 ((w2.alloc (.cells (keyC k) 27)).alloc (.cells (placeC v) 33)) := ((Below.refl _ _).alloc hsz3 _).alloc (by simp; omega) _
      obtain ⟨W3, hW3⟩ : ∃ W3, (w2.alloc (.cells (keyC k) 27)).alloc (.cells (placeC v) 33) = W3 := ⟨_, rfl⟩
      rw [hW3] at hbA ⊢
      have hsz4 : w1.heap.size ≤ W3.heap.size := Nat.le_trans hsz3 hbA.size
      have HO3 : Hid (W3.ownsRow w1.heap.size 35 35 (.slice a L.length c) L.length (L.flatMap rowL)) := by unfold Hid; rw [← hW3]; exact (HO2.out.alloc _).alloc _
      have HbA := Lib.hid hbA
      clear hbA hW3
      refine wpList_plain rfl (fun K hK => ?_)
      refine append_enc (P := Try.prog) rowL 35 56 rowL_length one_rowL 35 Try.underlying46 (by kernel_rfl) (by decide) w1.heap.size a c L rfl (HO3.out.alloc _) (some ⟨W3.heap.size, 0, none⟩) 1 [(k, v)] rfl (by rw [List.flatMap_cons, List.flatMap_nil, List.append_nil]; exact Row.new _ _ _) (fun e => by cases e) (by simp; omega) (by unfold maxLen; simp; omega) (by simp; omega) ?_
      intro a3 c3 w3 ho3 hb3 _ hg3
      have Ho3 := Lib.hid ho3
      have hbw : Below w1.heap.size w2 w3 := HbA.out.trans (((Below.refl _ _).alloc hsz4 _).trans hb3)
      have Hbw := Lib.hid hbw
      clear ho3 hb3 hg3 hbw
      obtain ⟨L3, hL3⟩ : ∃ L3, L ++ [(k, v)] = L3 := ⟨_, rfl⟩
      rw [hL3] at HPn Ho3 ⊢
      clear hL3
      go_wp2
      go_roundg (adel left k).length
      case measure => have := hgn2.out; have := Hmeas.out; omega
      case rel => exact ⟨L3, adel left k, a3, c3, rfl, rfl, Hb2.out.trans (Hbw.out.mono hiw), HGR2.out.block (Hbw.out.block pb hpw) (Hbw.out.block ib (by omega)), HPn.out, Nat.le_trans hsz3 Hbw.out.size, Ho3.out⟩
end Go.Proofs.Ytnfbchhbcinloaa
