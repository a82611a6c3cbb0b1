/- Walks and laws that the statements of this seat share, part 3. -/
import Derived.Shelf.SlSortCmp.NoneTotal
import Derived.Test.YtnfbchhbcinloaaGreatQb
/- The walks over All and Shelf. -/
namespace Go.XR
open Go Go.RowKit
theorem alloc2_setRow (w : World) (zs cs : Array Value) (T : TypeId) (o : Obj) : ((w.alloc (.cells zs T)).alloc o).setRow w.heap.size cs = (w.alloc (.cells cs T)).alloc o := by
  unfold World.setRow World.alloc
  congr 1
  refine Array.ext_getElem? fun i => ?_
  simp only [Array.getElem?_modify, Array.getElem?_push, Array.size_push]
  by_cases h : i = w.heap.size
  · subst h; simp
  · rw [if_neg (fun e => h e.symm), if_neg h, if_neg h]
/-- the elder of two variables that were just made, written whole -/
theorem wpList_store_new2 {P : Program} {w : World} {ops : Array Oper} {rest : List Oper} {o : Oper} {a : Act} {Q : Exit → Act → World → Prop} (hgd : o.guard = none) (ty : TypeId) (x v : Operand) (ho : o.op = .store ty x v)
    (zs cs : Array Value) (t : TypeId) (ob : Obj) (hx : a.eval x = .pointer (some ⟨w.heap.size, 0, none⟩)) (hv : a.eval v = .agg cs) (hz : zs.size = cs.size) (h1 : ∀ v ∈ cs.toList, v.oneCell' = true)
    (hi : (P.info? ty).map (·.size) = some cs.size)
    (hK : wpList P ops Q rest (a.put o.dst undef) ((w.alloc (.cells cs t)).alloc ob)) : wpList P ops Q (o :: rest) a ((w.alloc (.cells zs t)).alloc ob) :=
  wpList_plain hgd fun _ hK' => wp_store_at ty x v ho w.heap.size 0 hx cs zs hv t (by
    rw [Below.heap_alloc (w.alloc (.cells zs t)) ob w.heap.size (by simp), (MapKept.heap_alloc w _).1]) (by omega) h1 hi (by
    have e : (zs.toList.take 0 ++ cs.toList ++ zs.toList.drop (0 + cs.size)).toArray = cs := by
      rw [List.take_zero, List.nil_append, List.drop_eq_nil_of_le (by rw [Array.length_toList]; omega), List.append_nil]
    rw [e, alloc2_setRow]
    exact hK' _ _ hK)
theorem wpList_store_newN {P : Program} {w : World} {ops : Array Oper} {rest : List Oper} {o : Oper} {a : Act} {Q : Exit → Act → World → Prop} (hgd : o.guard = none) (ty : TypeId) (x v : Operand) (ho : o.op = .store ty x v)
    (zs cs : Array Value) (t : TypeId) (n : Nat) (hn : w.heap.size = n) (hx : a.eval x = .pointer (some ⟨n, 0, none⟩)) (hv : a.eval v = .agg cs) (hz : zs.size = cs.size) (h1 : ∀ v ∈ cs.toList, v.oneCell' = true)
    (hi : (P.info? ty).map (·.size) = some cs.size)
    (hK : wpList P ops Q rest (a.put o.dst undef) (w.alloc (.cells cs t))) : wpList P ops Q (o :: rest) a (w.alloc (.cells zs t)) :=
  wpList_store_new hgd ty x v ho zs cs t (by rw [hn]; exact hx) hv hz h1 hi hK
end Go.XR
namespace Go.IndexPure
open Go.XR
abbrev RowT := KeyT × PlaceT
instance : Inhabited (KeyT × PlaceT) := ⟨(⟨Vector.replicate 32 0, 0⟩, ⟨0, 0⟩)⟩
/-- all rows, in order; those of a shelf -/
def AllOf (D L : List RowT) : Prop := L.Perm D ∧ L.Pairwise (fun x y => cfA x y < 0)
def onS (s : Int) (r : RowT) : Bool := decide (r.2.shelf = s)
def ShelfOf (D : List RowT) (s : Int) (L : List RowT) : Prop := L.Perm (D.filter (onS s)) ∧ L.Pairwise (fun x y => cfS x y < 0)
end Go.IndexPure
namespace Go.Proofs.YtnfbchhbcinloaaGreat
open Go.RowKit Go.XR Go.IndexPure
def RetRows (w : World) (L : List RowT) (e : Ending) (w' : World) : Prop :=
  ∃ a c, e = .returned (.slice a L.length c) ∧ Row w' a (L.flatMap rowL) ∧ (∀ x, a = some x → w.heap.size ≤ x.block) ∧ Below w.heap.size w w'
theorem own_blk {w : World} {B g c : Nat} {L : List RowT} (h : w.ownsRow B 42 35 (.slice (some ⟨g, 0, none⟩) L.length c) L.length (L.flatMap rowL)) : ∃ rest, Blk w g (L.flatMap rowL ++ rest) ∧ B ≤ g := by
  rcases h.2 with ⟨h1, _⟩ | ⟨g', cap, cur, h1, h2, h3, h4, h5, h6, h7⟩
  · cases h1
  · cases h1
    refine ⟨cur.toList.drop (L.length * 35), ⟨42, ?_⟩, h2⟩
    rw [← h7, List.take_append_drop, Array.toArray_toList]
    exact h3
theorem sortA_any (w : World) (b cap : Nat) (l : List RowT) (rest : List Value) (hB : Blk w b (l.flatMap rowL ++ rest)) (hl : l.length < 4611686018427387904) :
    Calls Tryz.prog 69 #[.slice (some ⟨b, 0, none⟩) l.length cap, .func (.func 70) #[] #[]] w (RetSort rowL cfA w b l) :=
  sort_any (w := w) (b := b) Tryz.sortRow Tryz.isAgg42 Tryz.sizeOf42 rowL_length one_rowL cfA swoA 70 (fun args w => enters_of Tryz.func70 (by kernel_rfl) rfl args w) (fun x y W => cmpA_any x y W) cap l rest hB hl
theorem sortS_any (w : World) (b cap : Nat) (l : List RowT) (rest : List Value) (hB : Blk w b (l.flatMap rowL ++ rest)) (hl : l.length < 4611686018427387904) :
    Calls Tryz.prog 69 #[.slice (some ⟨b, 0, none⟩) l.length cap, .func (.func 72) #[] #[]] w (RetSort rowL cfS w b l) :=
  sort_any (w := w) (b := b) Tryz.sortRow Tryz.isAgg42 Tryz.sizeOf42 rowL_length one_rowL cfS swoS 72 (fun args w => enters_of Tryz.func72 (by kernel_rfl) rfl args w) (fun x y W => cmpS_any x y W) cap l rest hB hl
theorem sort_none (w : World) (p : Option Addr) (cap : Nat) (fv : Value) : Calls Tryz.prog 69 #[.slice p 0 cap, fv] w fun e w' => e = .returned (.tuple #[]) ∧ w' = w :=
  AnyF.slices_SortFunc_none Tryz.sortRow p cap fv w
theorem GM.nodupK {w : World} {pb : Nat} {D : List RowT} (h : GM keyV placeV w pb D) : (D.map (·.1)).Nodup := GM.nodup (P := Tryz.prog) keysKey h
set_option maxHeartbeats 1000000 in
set_option maxRecDepth 100000 in
theorem all_any (w : World) (p pb tb sb : Nat) (D : List RowT) (hB : Blk w p [.map (some pb), .map (some tb), .map (some sb)]) (hG : GM keyV placeV w pb D) (hlen : D.length ≤ 2^20) :
    Calls Tryz.prog 52 #[.pointer (some ⟨p, 0, none⟩)] w fun e w' => ∃ L, AllOf D L ∧ RetRows w L e w' := by
  have c0 := hB.cell (i := 0) rfl
  have hnd := GM.nodupK hG
  have Hnd := Lib.hid hnd
  have HG := Lib.hid hG
  have hpl := hG.lt
  obtain ⟨zk, hzk, hzk2⟩ := zero_key
  obtain ⟨zp, hzp, hzp2⟩ : ∃ zp : Array Value, zp.size = 2 ∧ ∀ w, (zeroValue 40).run Tryz.prog w = .ok (.agg zp) w := ⟨_, rfl, fun w => Tryz.zeroValue40 w⟩
  obtain ⟨zr, hzr, hzr2⟩ := zero_row
  have Hzk := Lib.hid hzk2
  have Hzp := Lib.hid hzp2
  have Hzr := Lib.hid hzr2
  clear hB hG hnd hzk2 hzp2 hzr2
  go_enter Tryz.func52, Tryz.ntmps52
  go_wp2_with (refine wpList_gm_range rfl (.tmp 11) 100 rfl Tryz.underlying100 rfl HG.out (fun w1 hgr hb1 hsz => Go.XR.stop (fun X hX => ?_)))
  refine hX.out ?_
  clear hX X
  have HGR1 := Lib.hid hgr
  have Hb1 := Lib.hid hb1
  clear hgr hb1
  obtain ⟨ib, hib⟩ : ∃ ib, w.heap.size = ib := ⟨_, rfl⟩
  have Hib := Lib.hid hib
  rw [hib] at HGR1 hpl hsz ⊢
  clear hib c0
  go_wp2
  go_frame
  go_loopg [3] D.length (fun n out wr => ∃ (L left : List RowT) (a : Option Addr) (c : Nat), out = .slice a L.length c ∧ Hid (n = left.length ∧ Below ib w wr ∧ GR keyV placeV wr pb ib D left ∧ (L ++ left).Perm D ∧ w1.heap.size ≤ wr.heap.size ∧ wr.ownsRow w1.heap.size 42 35 (.slice a L.length c) L.length (L.flatMap rowL)))
  case atStart => exact ⟨[], D, none, 0, rfl, rfl, by have := Hb1.out; rwa [Hib.out] at this, HGR1.out, List.Perm.refl _, Nat.le_refl _, rfl, .inl ⟨rfl, rfl⟩⟩
  case round =>
    obtain ⟨L, left, a, c, rfl, hr⟩ := hrel
    have hgn := hr.out.1
    have Hb := Lib.hid hr.out.2.1
    have HGR := Lib.hid hr.out.2.2.1
    have HP := Lib.hid hr.out.2.2.2.1
    have hsz1 := hr.out.2.2.2.2.1
    have HO := Lib.hid hr.out.2.2.2.2.2
    have hLl : L.length ≤ 2^20 := by have := HP.out.length_eq; rw [List.length_append] at this; omega
    clear hr
    go_wp2_with (refine wpList_gr_next rfl (.tmp 12) rfl keysKey ib left rfl HGR.out (fun hdone => Go.XR.stop (fun X hX => ?_)) (fun k v w2 hm hgr2 hgb hsz2 hen => Go.XR.stop (fun X hX => ?_)))
    · refine hX.out ?_
      clear hX X
      have HP2 : Hid (L.Perm D) := by have := HP.out; rwa [hdone, List.append_nil] at this
      clear hdone HGR HP
      have HndL : Hid ((L.map (·.1)).Nodup) := (HP2.out.map (fun r : RowT => r.1)).nodup_iff.2 Hnd.out
      cases a with
      | none =>
        obtain ⟨hL0, hc0⟩ := owns_nil HO.out
        obtain rfl := List.eq_nil_of_length_eq_zero hL0
        clear hL0
        subst hc0
        go_wp2_with fail
        refine (sort_none wr none 0 _).mono ?_
        rintro e w3 ⟨rfl, rfl⟩
        go_wp2
        go_ret
        exact ⟨[], ⟨HP2.out, List.Pairwise.nil⟩, none, 0, rfl, .inl rfl, (fun x hx => by cases hx), by rw [Hib.out]; exact Hb.out⟩
      | some a =>
        obtain ⟨g, rfl⟩ : ∃ g, a = ⟨g, 0, none⟩ := by
          rcases HO.out.2 with ⟨h1, _⟩ | ⟨g', cap, cur, h1, _⟩
          · cases h1
          · injection h1 with h5; injection h5 with h6; exact ⟨g', h6⟩
        obtain ⟨rest, hblk, hg⟩ := own_blk HO.out
        have Hblk := Lib.hid hblk
        clear hblk
        go_wp2_with fail
        refine (sortA_any wr g c L rest Hblk.out (by omega)).mono ?_
        rintro e w3 ⟨rfl, L', hp, hs, hrow, hbut⟩
        have hnd' : (L'.map (·.1)).Nodup := (hp.map (fun r : RowT => r.1)).nodup_iff.2 HndL.out
        have hll := hp.length_eq
        have Hend : Hid (∃ M, AllOf D M ∧ RetRows w M (.returned (.slice (some ⟨g, 0, none⟩) L.length c)) w3) := by
          refine ⟨L', ⟨hp.trans HP2.out, strict_of (·.1) cfA (fun x y => cfK_swap x.1 y.1) (fun x y h => (cfK_zero x.1 y.1).1 h) hnd' hs⟩, some ⟨g, 0, none⟩, c, by rw [hll], hrow, fun x hx => ?_, ?_⟩
          · injection hx with hx; subst hx; rw [Hib.out]; show ib ≤ g; omega
          · rw [Hib.out]
            exact Hb.out.trans (hbut.below (by omega) (by intro i hi; rw [List.mem_singleton] at hi; subst hi; omega))
        clear hp hs hrow hbut hnd' hll
        go_wp2
        go_ret
        exact Hend.out
    · refine hX.out ?_
      clear hX X
      have Hen := Lib.hid hen
      have HGR2 := Lib.hid hgr2
      have Hb2 : Hid (Below ib w w2) := Hb.out.grown hgb (by omega) (fun k hk => by cases hk; exact Nat.le_refl _)
      have HO2 : Hid (w2.ownsRow w1.heap.size 42 35 (.slice a L.length c) L.length (L.flatMap rowL)) := HO.out.kept hgb (by
        cases ha : a with
        | none => exact .inl rfl
        | some x =>
          right
          intro e
          have e1 : x.block = ib := by simpa [Value.ownBlock] using e
          obtain ⟨h1, _⟩ := HO.out.lt x.block (by rw [ha]; rfl)
          omega)
      have hperm := adel_perm (HGR.out.sub.map (·.1) |>.nodup Hnd.out) hm
      have Hmeas : Hid ((adel left k).length < left.length) := by
        have := hperm.length_eq; rw [List.length_cons] at this; unfold Hid; omega
      have HPn : Hid (((L ++ [(k, v)]) ++ adel left k).Perm D) := by
        refine List.Perm.trans ?_ HP.out
        rw [List.append_assoc]
        exact List.Perm.append_left L hperm.symm
      have hsz3 : w1.heap.size ≤ w2.heap.size := by omega
      have hiw : ib ≤ w1.heap.size := by omega
      have hpw : pb < w1.heap.size := by omega
      have hgn2 := Lib.hid hgn
      clear hen hgr2 hm hperm hgb HGR HO Hb hsz2 hgn
      go_wp2_with (first | (refine wpList_entry rfl (.tmp 12) rfl ib rfl _ Hen.out ?_) | (refine wpList_alloc_new rfl 29 rfl zk (Hzk.out _) ?_) | (refine wpList_alloc_new rfl 40 rfl zp (Hzp.out _) ?_) | (refine opIs (X := .store 29 (.tmp 4) (.tmp 16)) rfl ?_; refine wpList_store_new2 rfl 29 (.tmp 4) (.tmp 16) rfl zk (keyC k) 29 _ rfl rfl (by rw [hzk, keyC_size]) (one_keyC k) (keySize k) ?_) | (refine opIs (X := .store 40 (.tmp 5) (.tmp 17)) rfl ?_; refine wpList_store_newN rfl 40 (.tmp 5) (.tmp 17) rfl zp (placeC v) 40 (w2.heap.size + 1) (by simp) (by simp [Act.eval, Act.put]) rfl (by rw [hzp]; rfl) (one_placeL v) (placeSize v) ?_) | (refine wpList_load_at rfl 29 (.tmp 4) rfl w2.heap.size 0 rfl (keyC k) ((At.new _ _ _).alloc _) _ Tryz.underlying29 rfl (keySize k) ?_) | (refine wpList_load_at rfl 40 (.tmp 5) rfl (w2.heap.size + 1) 0 (by simp [Act.eval, Act.put]) (placeC v) (by have h := At.new (w2.alloc (.cells (keyC k) 29)) (placeC v) 40; rwa [show (w2.alloc (.cells (keyC k) 29)).heap.size = w2.heap.size + 1 by simp] at h) _ Tryz.underlying40 rfl (placeSize v) ?_) | (refine wpList_build_row rfl (.tmp 19) (.tmp 20) rfl k v rfl rfl ?_) | (refine wpList_build_one rfl 60 (.tmp 21) rfl 42 35 Tryz.underlying60 (by kernel_rfl) (by omega) (by omega) _ (Hzr.out _) (rowC (k, v)) rfl (rowC_size _) ?_) | (at_builtin; refine Go.XR.stop (fun X hX => ?_)))
      refine hX.out ?_
      clear hX X
      have hbA : Below w1.heap.size w2 ((w2.alloc (.cells (keyC k) 29)).alloc (.cells (placeC v) 40)) := ((Below.refl _ _).alloc hsz3 _).alloc (by simp; omega) _
      obtain ⟨W3, hW3⟩ : ∃ W3, (w2.alloc (.cells (keyC k) 29)).alloc (.cells (placeC v) 40) = W3 := ⟨_, rfl⟩
      rw [hW3] at hbA ⊢
      have hsz4 : w1.heap.size ≤ W3.heap.size := Nat.le_trans hsz3 hbA.size
      have HO3 : Hid (W3.ownsRow w1.heap.size 42 35 (.slice a L.length c) L.length (L.flatMap rowL)) := by unfold Hid; rw [← hW3]; exact (HO2.out.alloc _).alloc _
      have HbA := Lib.hid hbA
      clear hbA hW3
      refine wpList_plain rfl (fun K hK => ?_)
      refine append_enc (P := Tryz.prog) rowL 35 56 rowL_length one_rowL 42 Tryz.underlying60 (by kernel_rfl) (by decide) w1.heap.size a c L rfl (HO3.out.alloc _) (some ⟨W3.heap.size, 0, none⟩) 1 [(k, v)] rfl (by rw [List.flatMap_cons, List.flatMap_nil, List.append_nil]; exact Row.new _ _ _) (fun e => by cases e) (by simp; omega) (by unfold maxLen; simp; omega) (by simp; omega) ?_
      intro a3 c3 w3 ho3 hb3 _ hg3
      have Ho3 := Lib.hid ho3
      have hbw : Below w1.heap.size w2 w3 := HbA.out.trans (((Below.refl _ _).alloc hsz4 _).trans hb3)
      have Hbw := Lib.hid hbw
      clear ho3 hb3 hg3 hbw
      obtain ⟨L3, hL3⟩ : ∃ L3, L ++ [(k, v)] = L3 := ⟨_, rfl⟩
      rw [hL3] at HPn Ho3 ⊢
      clear hL3
      go_wp2
      go_roundg (adel left k).length
      case measure => have := hgn2.out; have := Hmeas.out; omega
      case rel => exact ⟨L3, adel left k, a3, c3, rfl, rfl, Hb2.out.trans (Hbw.out.mono hiw), HGR2.out.block (Hbw.out.block pb hpw) (Hbw.out.block ib (by omega)), HPn.out, Nat.le_trans hsz3 Hbw.out.size, Ho3.out⟩
end Go.Proofs.YtnfbchhbcinloaaGreat

/- The walk over a cache's Load. -/
namespace Go.Proofs.YtnfbchhbcinloaaGreat
open Go.RowKit Go.XR Go.IndexPure Go.CachePure
def oB : Option Addr → List Nat
  | some x => [x.block]
  | none => []
theorem mem_oB {a : Option Addr} {b : Nat} : b ∈ oB a ↔ ∃ x, a = some x ∧ b = x.block := by
  cases a with
  | none => simp [oB]
  | some x => simp [oB]
section
variable {w w1 w2 w3 : World} {F : List Nat} {p tb room cap : Nat} {a : Option Addr} {C : CchT} {T : List (I64 × Nat)}
/-- what stands when a new table has come into the map, and the order does not know of it yet -/
structure ChN (w : World) (F : List Nat) (p tb room : Nat) (a : Option Addr) (cap : Nat) (C : CchT) (s : I64) (t : TabT) (T : List (I64 × Nat)) : Prop where
  fin : ∀ b ∈ F, b < w.heap.size
  blk : Blk w p [.int .i64 room, .slice a C.length cap, .map (some tb)]
  inF : p ∈ F ∧ tb ∈ F
  order : ownInts w a cap (C.map (·.1))
  ordF : ∀ x, a = some x → x.block ∈ F ∧ x.block ≠ p
  tables : GM i64V mapV w tb T
  nd : ((C ++ [(s, t)]).map (·.1)).Nodup
  tab : ∀ s' t', (s', t') ∈ C ++ [(s, t)] → ∃ m, aget T s' = some m ∧ m ∈ F ∧ GM keyV placeV w m t' ∧ m ≠ tb
  dom : ∀ s', (aget T s').isSome = true → s' ∈ (C ++ [(s, t)]).map (·.1)
  len : C.length < room
  room : room ≤ 4096
theorem ChC.put (h : ChC w1 F p tb room a cap C T) {s : I64} {t : TabT} (hno : aget C s = none) (hlt : C.length < room) (hb : Below w1.heap.size w1 w2) (hG : GM keyV placeV w2 w1.heap.size t) (hb2 : But [tb] w2 w3) (hT : GM i64V mapV w3 tb (aput T s w1.heap.size)) :
    ChN w3 (w1.heap.size :: F) p tb room a cap C s t (aput T s w1.heap.size) := by
  have htl := h.fin _ h.inF.2
  have hns : s ∉ C.map (·.1) := fun hm => by
    have := (mem_aget h.nd).2 hm
    rw [hno] at this; cases this
  have h2 := h.below hb
  have hne := h2.ne_p
  have hfin : ∀ b ∈ w1.heap.size :: F, b < w3.heap.size := fun b hb3 => by
    rcases List.mem_cons.1 hb3 with rfl | hb3
    · exact Nat.lt_of_lt_of_le hG.lt hb2.size
    · exact Nat.lt_of_lt_of_le (h2.fin b hb3) hb2.size
  refine { fin := hfin, blk := h2.blk.but hb2 (by simpa using hne.1.symm), inF := ⟨List.mem_cons_of_mem _ h.inF.1, List.mem_cons_of_mem _ h.inF.2⟩, order := ?_, ordF := fun x hx => ⟨List.mem_cons_of_mem _ (h.ordF x hx).1, (h.ordF x hx).2⟩, tables := hT, nd := ?_, tab := fun s' t' hm => ?_, dom := fun s' hs' => ?_, len := hlt, room := h.room }
  · refine ints_heap h2.order fun x hx => ?_
    obtain ⟨⟨cs, hcs⟩, _⟩ := ints_cells h2.order hx
    exact hb2.block _ (h2.fin _ (h2.ordF x hx).1) (by simpa using (h2.tables.ne_cells hcs).symm)
  · rw [List.map_append, List.nodup_append]
    refine ⟨h.nd, by simp, fun x hx y hy e => ?_⟩
    simp at hy
    subst hy; subst e
    exact hns hx
  · rcases List.mem_append.1 hm with hm | hm
    · obtain ⟨m, g1, g2, g3, g4⟩ := h2.tab s' t' hm
      refine ⟨m, ?_, List.mem_cons_of_mem _ g2, g3.but hb2 (by simpa using g4), g4⟩
      rw [aget_put, if_neg (fun e => hns (by rw [← e]; exact List.mem_map.2 ⟨(s', t'), hm, rfl⟩))]; exact g1
    · rw [List.mem_singleton] at hm
      cases hm
      have hmt : w1.heap.size ≠ tb := by omega
      exact ⟨w1.heap.size, by rw [aget_put, if_pos rfl], by simp, hG.but hb2 (by simpa using hmt), hmt⟩
  · rw [aget_put] at hs'
    by_cases e : s' = s
    · subst e; simp
    · rw [if_neg e] at hs'
      rw [List.map_append]
      exact List.mem_append_left _ (h.dom s' hs')
theorem ChN.fin_ {s : I64} {t : TabT} {w0 : World} {a3 : Option Addr} {c3 : Nat} (h : ChN w F p tb room a cap C s t T) (hb : Below w.heap.size w w0) (ho : w1.ownsRow 0 3 1 (.slice a3 (C.map (·.1) ++ [s]).length c3) (C.map (·.1) ++ [s]).length ((C.map (·.1) ++ [s]).flatMap iL))
    (hg : w0.grownBy w1 (Value.ownBlock (.slice a (C.map (·.1)).length cap))) (hsn : SameOrNew w0 w1 a a3) :
    w1.cell? ⟨p, 1, none⟩ = some (.slice a C.length cap) ∧ w1.frozen? ⟨p, 1, none⟩ = false ∧
    ∃ F', ChC (w1.setCell ⟨p, 1, none⟩ (.slice a3 (C ++ [(s, t)]).length c3)) F' p tb room a3 c3 (C ++ [(s, t)]) T ∧ But F w (w1.setCell ⟨p, 1, none⟩ (.slice a3 (C ++ [(s, t)]).length c3)) ∧ Grew w F F' := by
  have hold : ∀ b, b < w.heap.size → (∀ x, a = some x → b ≠ x.block) → w1.heap[b]? = w.heap[b]? := fun b hbs hne => (hg.block b (Nat.lt_of_lt_of_le hbs hb.size) (fun e => by
    cases ha : a with
    | none => rw [ha] at e; cases e
    | some x =>
      rw [ha] at e
      exact hne x ha (by simpa [Value.ownBlock] using e))).trans (hb.block b hbs)
  obtain ⟨tp, hp⟩ := h.blk
  have hpl := h.fin _ h.inF.1
  have hpa : ∀ x, a = some x → p ≠ x.block := fun x hx => (h.ordF x hx).2.symm
  have hB1 : Blk w1 p [.int .i64 room, .slice a C.length cap, .map (some tb)] := h.blk.heap (hold p hpl hpa)
  have hnew : ∀ x, a3 = some x → (x.block ∈ F ∧ x.block ≠ p) ∨ (w.heap.size ≤ x.block ∧ x.block < w1.heap.size) := fun x hx => by
    rcases hsn with e | ⟨g, e, g1, g2⟩
    · exact .inl (h.ordF x (by rw [← e]; exact hx))
    · rw [hx] at e
      injection e with e
      subst e
      exact .inr ⟨Nat.le_trans hb.size g1, g2⟩
  have hsz : w.heap.size ≤ w1.heap.size := Nat.le_trans hb.size hg.size
  obtain ⟨W, hW⟩ : ∃ W, w1.setCell ⟨p, 1, none⟩ (.slice a3 (C ++ [(s, t)]).length c3) = W := ⟨_, rfl⟩
  have hbW : But [p] w1 W := by rw [← hW]; exact (But.refl _ _).setCell (.inl (by simp)) _
  have hBW : Blk W p [.int .i64 room, .slice a3 (C ++ [(s, t)]).length c3, .map (some tb)] := by rw [← hW]; exact hB1.set 1 _
  have keep : ∀ b, b < w.heap.size → (∀ x, a = some x → b ≠ x.block) → b ≠ p → W.heap[b]? = w.heap[b]? := fun b h1 h2 h3 =>
    (hbW.block b (Nat.lt_of_lt_of_le h1 hsz) (by simpa using h3)).trans (hold b h1 h2)
  have gmk : ∀ {κ ν : Type} {kv : κ → Value} {vv : ν → Value} {m : Nat} {E : List (κ × ν)}, GM kv vv w m E → GM kv vv W m E := fun {κ ν kv vv m E} hm =>
    hm.block (keep m hm.lt (fun x hx => by
      obtain ⟨⟨cs, hcs⟩, _⟩ := ints_cells h.order hx
      exact hm.ne_cells hcs) (hm.ne_cells hp))
  rw [hW]
  refine ⟨hB1.cell (i := 1) rfl, hB1.free 1, oB a3 ++ F, ?_, ?_, ?_⟩
  · exact {
      fin := fun b hf => by
        rcases List.mem_append.1 hf with h2 | h2
        · obtain ⟨x, ha, rfl⟩ := mem_oB.1 h2
          rcases hnew x ha with h3 | h3
          · exact Nat.lt_of_lt_of_le (h.fin _ h3.1) (Nat.le_trans hsz hbW.size)
          · exact Nat.lt_of_lt_of_le h3.2 hbW.size
        · exact Nat.lt_of_lt_of_le (h.fin _ h2) (Nat.le_trans hsz hbW.size)
      blk := hBW
      inF := ⟨List.mem_append_right _ h.inF.1, List.mem_append_right _ h.inF.2⟩
      order := by
        rw [List.map_append]
        show ownInts W a3 c3 (C.map (·.1) ++ [s])
        refine ints_heap ho fun x hx => ?_
        have hx1 : x.block < w1.heap.size := by
          obtain ⟨⟨cs, hcs⟩, _⟩ := ints_cells ho hx
          exact (Array.getElem?_eq_some_iff.1 hcs).1
        refine hbW.block _ hx1 ?_
        rcases hnew x hx with h3 | h3
        · simpa using h3.2
        · have := hpl
          simp; omega
      ordF := fun x hx => by
        refine ⟨List.mem_append_left _ (mem_oB.2 ⟨x, hx, rfl⟩), ?_⟩
        rcases hnew x hx with h3 | h3
        · exact h3.2
        · omega
      tables := gmk h.tables
      nd := h.nd
      tab := fun s' t' hm => by
        obtain ⟨m, g1, g2, g3, g4⟩ := h.tab s' t' hm
        exact ⟨m, g1, List.mem_append_right _ g2, gmk g3, g4⟩
      dom := h.dom
      len := by rw [List.length_append]; exact h.len
      room := h.room }
  · refine ⟨hbW.os.trans (hg.os.trans hb.os), hbW.tape.trans (hg.tape.trans hb.tape), hbW.output.trans (hg.output.trans hb.output), Nat.le_trans hsz hbW.size, fun i hi hn => keep i hi (fun x hx e => hn (by rw [e]; exact (h.ordF x hx).1)) (fun e => hn (by rw [e]; exact h.inF.1))⟩
  · intro b hf
    rcases List.mem_append.1 hf with h2 | h2
    · obtain ⟨x, ha, rfl⟩ := mem_oB.1 h2
      rcases hnew x ha with h3 | h3
      · exact .inl h3.1
      · exact .inr h3.1
    · exact .inl h2
end
def RetCLoad (w : World) (F : List Nat) (p tb room : Nat) (C : CchT) (s : I64) (l : List RowT) (draw : Nat) (e : Ending) (w' : World) : Prop :=
  e = .returned (.tuple #[]) ∧ ∃ F' a cap T, ChC w' F' p tb room a cap (cLoad room C s l draw) T ∧ But F w w' ∧ Grew w F F'
set_option maxHeartbeats 2000000 in
set_option maxRecDepth 100000 in
theorem cload_any (w : World) (F : List Nat) (p tb room : Nat) (a : Option Addr) (cap : Nat) (C : CchT) (T : List (I64 × Nat)) (hC : ChC w F p tb room a cap C T) (s : I64) (la : Option Addr) (lc : Nat) (l : List RowT) (hR : Row w la (l.flatMap rowL)) (hl : l.length ≤ 2^20) (hF : ∀ x, la = some x → x.block ∉ F) (draw : Nat) (hd : draw < 18446744073709551616) :
    Calls Tryz.prog 44 #[.pointer (some ⟨p, 0, none⟩), i64V s, .slice la l.length lc, .int .u64 draw] w (RetCLoad w F p tb room C s l draw) := by
  have HC := Lib.hid hC
  have hcl : C.length ≤ 4096 := Nat.le_trans hC.len hC.room
  have hrm := hC.room
  have Hhas := Lib.hid (hC.has s)
  have HR := Lib.hid hR
  have hmm : ∀ (h : Int) w, (Instr.makeMap 100 (some (.int .i64 h))).run Tryz.prog w = .ok (.map (some w.heap.size)) (w.alloc (.map #[] 0)) := fun h w => run_makeMap_hint Tryz.underlying100 h w
  have c0 := hC.blk.cell (i := 0) rfl
  clear hC hR
  unfold i64V
  by_cases h0 : room = 0
  · subst h0
    go_enter Tryz.func44, Tryz.ntmps44
    go_wp2
    (try simp only [Exit.inBlock, Exit.then]); refine bodyPost_ret (results_none rfl _ _ _) rfl ?_
    exact ⟨rfl, F, a, cap, T, by unfold cLoad; rw [if_pos (.inl rfl)]; exact HC.out, But.refl _ _, Grew.refl _ _⟩
  have hr0 : ¬ (room : Int) = 0 := by omega
  have hrz : ((room : Int) == 0) = false := by rw [beq_eq_false_iff_ne]; exact hr0
  go_enter Tryz.func44, Tryz.ntmps44
  go_wp2_with fail
  refine (has_any w p tb room C.length cap a T HC.out.blk HC.out.tables s).mono ?_
  rintro e w1 ⟨rfl, hw1⟩
  rw [hw1, Hhas.out]
  clear hw1
  cases hs : (aget C s).isSome with
  | true =>
    have Hs := Lib.hid hs
    clear hs
    go_wp2
    (try simp only [Exit.inBlock, Exit.then]); refine bodyPost_ret (results_none rfl _ _ _) rfl ?_
    exact ⟨rfl, F, a, cap, T, by unfold cLoad; rw [if_pos (.inr Hs.out)]; exact HC.out, But.refl _ _, Grew.refl _ _⟩
  | false =>
    have Hs := Lib.hid hs
    clear hs
    have Hcl : Hid (cLoad room C s l draw = cEvict room C draw ++ [(s, tabOf l)]) := by
      unfold Hid cLoad
      rw [if_neg (by rintro (h | h)
                     · exact h0 h
                     · rw [Hs.out] at h; cases h)]
    have c1 := HC.out.blk.cell (i := 1) rfl
    by_cases hfull : C.length = room
    · have hnz : ((C.length : Int) == (room : Int)) = true := by rw [hfull]; exact beq_self_eq_true _
      have hl0 : ¬ (C.length : Int) = 0 := by omega
      obtain ⟨q, hq⟩ : ∃ q, draw % C.length = q := ⟨_, rfl⟩
      have hql : q < C.length := by rw [← hq]; exact Nat.mod_lt _ (by omega)
      have hqi : (draw : Int) % (C.length : Int) = (q : Int) := by rw [← hq]; rfl
      have hqi2 : (q : Int) < (C.length : Int) := by omega
      have Hev : Hid (cEvict room C draw = adel C C[q].1) := by unfold Hid cEvict; rw [if_pos hfull, hq, List.getElem?_eq_getElem hql]
      obtain ⟨g, o, rfl, hc⟩ := (Row.owned HC.out.order).get (j := q) (u := i64V C[q].1) (by
        have := flat_get iL_len (C.map (·.1)) (i := q) (by rw [List.length_map]; exact hql) (j := 0) (by omega)
        rw [Nat.mul_one, Nat.add_zero] at this
        rw [this, List.getElem_map]; rfl)
      have HC0 : Hid (ChC w.drew.drew F p tb room (some ⟨g, o, none⟩) cap C T) := HC.out.but ((But.refl [] w).drew.drew) (by simp)
      have Hno : Hid (aget (cEvict room C draw) s = none) := by
        unfold Hid
        rw [Hev.out, aget_del]
        split
        · rfl
        · cases h : aget C s with
          | none => rfl
          | some v => have := Hs.out; rw [h] at this; cases this
      have Hlt : Hid ((cEvict room C draw).length < room) := cEvict_lt HC.out.nd HC.out.len h0 draw
      have hcd := cdrop_any w.drew.drew F p tb room (some ⟨g, o, none⟩) cap C T HC0.out C[q].1
      unfold RetCDrop at hcd
      rw [← Hev.out] at hcd
      unfold i64V at hcd hc
      have Hcd := Lib.hid hcd
      clear hcd hq Hhas hfull
      go_wp2
      refine Go.XR.region_sched ((· = w.drew)) [(0, true), (1, true), (2, true), (3, true), (4, true), (5, true), (6, true), (7, true), (8, true), (9, false)] [9] Tryz.mixed (by kernel_rfl) (by kernel_rfl) (by kernel_rfl) ?_
      simp only [List.map_cons, List.map_nil, List.getElem?_cons_succ, List.getElem?_cons_zero]
      repeat (first | (refine Go.XR.S_light rfl rfl rfl ?_ (fun w' hS K hK => ?_) (fun K hK => ?_); rotate_left 1; (cases hS; go_step; exact hK); go_step; refine hK _ ?_; clear hK K))
      repeat (first | (refine Go.XR.S_heavy (fun K hK => ?_); go_step; refine hK _ _ ⟨fun h => by simp at h, ?_⟩; clear hK K))
      refine Go.XR.S_nil ?_
      go_wp2
      refine Go.XR.region_sched ((· = w.drew.drew)) [(0, true), (1, true), (2, true), (3, true), (4, true), (5, true), (6, true), (7, true), (8, true), (9, true), (10, true), (11, true), (12, true), (13, true), (14, true), (15, false)] [15] Tryz.mixed (by kernel_rfl) (by kernel_rfl) (by kernel_rfl) ?_
      simp only [List.map_cons, List.map_nil, List.getElem?_cons_succ, List.getElem?_cons_zero]
      repeat (first | (refine Go.XR.S_light rfl rfl rfl ?_ (fun w' hS K hK => ?_) (fun K hK => ?_); rotate_left 1; (cases hS; go_step; exact hK); go_step; refine hK _ ?_; clear hK K))
      refine Go.XR.S_heavy (fun K hK => ?_)
      go_step
      ((with_reducible refine (Hcd.out).mono ?_); rintro e w' ⟨rfl, a1, cap1, T1, hC1, hb1⟩)
      have HC1 := Lib.hid hC1
      have Hb1 : Hid (But F w w') := (But.refl F w).drew.drew.trans hb1
      have HR1 : Hid (Row w' la (l.flatMap rowL)) := Row.but (w := w.drew.drew) HR.out hb1 (fun g' o' h => hF _ h)
      clear hC1 hb1 c0 c1 hc
      refine hK _ _ ⟨fun h => by simp at h, ?_⟩
      clear hK K
      repeat (first | (refine Go.XR.S_light rfl rfl rfl ?_ (fun w' hS K hK => ?_) (fun K hK => ?_); rotate_left 1; (cases hS; go_step; exact hK); go_step; refine hK _ ?_; clear hK K))
      generalize w' = w1 at *
      repeat (first | (refine Go.XR.S_heavy (fun K hK => ?_); go_step; refine hK _ _ ⟨fun h => by simp at h, ?_⟩; clear hK K))
      refine Go.XR.S_nil ?_
      rw [hqi]
      clear Hcd HC HC0 HR Hev
      generalize cEvict room C draw = C1 at *
      go_wp2
      go_loopg [58] l.length (fun n i wr => ∃ j : Nat, j ≤ l.length ∧ i = .int .i64 j ∧ Hid (n = l.length - j ∧ Below w1.heap.size w1 wr ∧ GM keyV placeV wr w1.heap.size (tabOf (l.take j))))
      case atStart => exact ⟨0, by omega, rfl, rfl, (Below.refl _ _).alloc (Nat.le_refl _) _, GM.made keyV placeV w1⟩
      case round =>
        obtain ⟨j, hj, rfl, hn⟩ := hrel
        have HRr := Lib.hid (HR1.out.below hn.out.2.1)
        have hsz := hn.out.2.1.size
        by_cases hlt : j < l.length
        · have hlt2 : (j : Int) < (l.length : Int) := by omega
          obtain ⟨g, o, rfl, hX⟩ := row_at rowL_length HRr.out hlt (by omega)
          have HX : Hid (At wr g (o + j * 35) (rowC l[j])) := hX
          have Htk : Hid (tabOf (l.take (j + 1)) = tabStep (tabOf (l.take j)) l[j]) := by
            unfold Hid; rw [List.take_succ_eq_append_getElem hlt, tabOf_snoc]
          clear hX
          generalize l[j] = r at *
          obtain ⟨t, ht⟩ : ∃ t, tabOf (l.take j) = t := ⟨_, rfl⟩
          rw [ht] at Htk
          have HG := Lib.hid hn.out.2.2
          rw [ht] at HG
          have Hb := Lib.hid hn.out.2.1
          have Hn1 := Lib.hid hn.out.1
          clear hn ht
          obtain ⟨zr, hzr, hzr2⟩ := zero_row
          go_wp2_with (first | (refine wpList_load_at rfl 42 (.tmp 60) rfl g (o + j * 35) (by kernel_rfl) (rowC r) HX.out _ Tryz.underlying42 rfl (rowSize r) ?_) | (refine wpList_alloc_new rfl 42 rfl zr (hzr2 _) ?_) | (refine opIs (X := .store 42 (.tmp 10) (.tmp 61)) rfl ?_; refine wpList_store_new rfl 42 (.tmp 10) (.tmp 61) rfl zr (rowC r) 42 (by kernel_rfl) (by kernel_rfl) (by rw [hzr, rowC_size]) (one_rowL r) (rowSize r) ?_; refine Go.XR.stop (fun X hX => ?_)) | fail)
          refine hX.out ?_
          clear hX X
          obtain ⟨W3, hW3⟩ : ∃ W3, wr.alloc (.cells (rowC r) 42) = W3 := ⟨_, rfl⟩
          have hb3 : Below wr.heap.size wr W3 := by rw [← hW3]; exact (Below.refl _ _).alloc (Nat.le_refl _) _
          have HR3 : Hid (At W3 wr.heap.size 0 (rowC r)) := by unfold Hid; rw [← hW3]; exact At.new _ _ _
          have HG3 := Lib.hid (HG.out.below hb3)
          have Hb3 : Hid (Below w1.heap.size w1 W3) := Hb.out.trans (hb3.mono hsz)
          obtain ⟨rb, hrb⟩ : ∃ rb, wr.heap.size = rb := ⟨_, rfl⟩
          rw [hrb] at HR3 ⊢
          rw [hW3]
          clear hb3 hW3 hrb HRr HX hzr2 hzr
          have hsz3 := Hb3.out.size
          obtain ⟨v, hv⟩ : ∃ v, (aget t r.1).getD place0 = v := ⟨_, rfl⟩
          have Hv : Hid (((aget t r.1).map placeV).getD (.agg #[.int .i64 0, .int .i64 0]) = .agg #[.int .i64 v.shelf, .int .i64 v.slot]) := by unfold Hid; rw [opt_val, hv]; rfl
          obtain ⟨is, his⟩ : ∃ b, (aget t r.1).isSome = b := ⟨_, rfl⟩
          have His := Lib.hid his
          clear hv his
          have HRk := Lib.hid (row_at_key HR3.out)
          go_wp2_with (first | (refine opIs (X := .load 29 (.tmp 64)) rfl ?_; refine wpList_load_at rfl 29 (.tmp 64) rfl rb 0 rfl (keyC r.1) HRk.out _ Tryz.underlying29 rfl (keySize _) ?_) | (refine opIs (X := .lookup 100 (.tmp 63) (.tmp 65) true) rfl ?_; refine wpList_plain rfl (fun K hK => ?_); refine Go.XR.wp_gm_lookup_ok (.tmp 63) (.tmp 65) 100 rfl keysKey Tryz.underlying100 (.agg #[.int .i64 0, .int .i64 0]) (Tryz.zeroValue40) r.1 _ is rfl rfl HG3.out Hv.out His.out ?_; refine hK _ _ ?_; clear hK K) | (refine opIs (X := .unOp .not 4 (.tmp 69)) rfl ?_; refine Go.XR.stop (fun X hX => ?_)) | fail)
          refine hX.out ?_
          clear hX X
          obtain ⟨W4, hW4⟩ : ∃ W4, W3.alloc (.cells #[.int .i64 v.shelf, .int .i64 v.slot] 40) = W4 := ⟨_, rfl⟩
          have hb4 : Below W3.heap.size W3 W4 := by rw [← hW4]; exact (Below.refl _ _).alloc (Nat.le_refl _) _
          have HG4 := Lib.hid (HG3.out.below hb4)
          have Hb4 : Hid (Below w1.heap.size w1 W4) := Hb3.out.trans (hb4.mono hsz3)
          have HR4 := Lib.hid (HR3.out.below (by rw [rowC_size]; omega) hb4)
          rw [hW4]
          clear hb4 hW4 HR3 HG3 Hb3 HRk Hv
          cases is with
          | true =>
            have Hts : Hid (tabStep t r = t) := by unfold Hid tabStep; rw [if_pos His.out]
            go_wp2
            go_roundg (l.length - (j + 1))
            case measure => have := Hn1.out; omega
            case rel => exact ⟨j + 1, by omega, by go_num, rfl, Hb4.out, by rw [Htk.out, Hts.out]; exact HG4.out⟩
          | false =>
            have Hts : Hid (tabStep t r = aput t r.1 r.2) := by unfold Hid tabStep; rw [if_neg (by rw [His.out]; decide)]
            have HK4 := Lib.hid (row_at_key HR4.out)
            have HP4 := Lib.hid (row_at_place HR4.out)
            go_wp2_with (first | (refine opIs (X := .load 29 (.tmp 72)) rfl ?_; refine wpList_load_at rfl 29 (.tmp 72) rfl rb 0 rfl (keyC r.1) HK4.out _ Tryz.underlying29 rfl (keySize _) ?_) | (refine opIs (X := .load 40 (.tmp 74)) rfl ?_; refine wpList_load_at rfl 40 (.tmp 74) rfl rb (0 + 33) rfl (placeC r.2) HP4.out _ Tryz.underlying40 rfl (placeSize _) ?_) | (refine opIs (X := .mapUpdate 100 (.tmp 71) (.tmp 73) (.tmp 75)) rfl ?_; refine wpList_gm_update rfl (.tmp 71) (.tmp 73) (.tmp 75) 100 rfl keysKey Tryz.underlying100 placeV w1.heap.size t r.1 r.2 rfl rfl rfl HG4.out (fun w5 hG5 hg5 hs5 => Go.XR.stop (fun X hX => ?_))) | fail)
            refine hX.out ?_
            clear hX X
            have HG5 := Lib.hid hG5
            have Hb5 : Hid (Below w1.heap.size w1 w5) := Hb4.out.trans ((But.of_grown hg5).below Hb4.out.size (by simp))
            clear hG5 hg5 hs5
            go_wp2
            go_roundg (l.length - (j + 1))
            case measure => have := Hn1.out; omega
            case rel => exact ⟨j + 1, by omega, by go_num, rfl, Hb5.out, by rw [Htk.out, Hts.out]; exact HG5.out⟩
        · have hge : ¬ (j : Int) < (l.length : Int) := by omega
          have HG : Hid (GM keyV placeV wr w1.heap.size (tabOf l)) := by
            have := hn.out.2.2
            rw [List.take_of_length_le (by omega)] at this
            exact this
          have Hb := Lib.hid hn.out.2.1
          have HC2 := Lib.hid (HC1.out.below Hb.out)
          have c2 := HC2.out.blk.cell (i := 2) rfl
          clear hn
          go_wp2_with (first | (refine opIs (X := .mapUpdate 96 (.tmp 80) (.tmp 81) (.tmp 82)) rfl ?_; refine wpList_gm_update rfl (.tmp 80) (.tmp 81) (.tmp 82) 96 rfl keysI64 Tryz.underlying96 mapV tb T1 s w1.heap.size rfl rfl rfl HC2.out.tables (fun w5 hG5 hg5 hs5 => Go.XR.stop (fun X hX => ?_))) | fail)
          refine hX.out ?_
          clear hX X
          have Hput := Lib.hid (HC1.out.put (s := s) Hno.out Hlt.out Hb.out HG.out (But.of_grown hg5) hG5)
          have Hb5 : Hid (But F w w5) := (Hb1.out.trans (But.of_below Hb.out)).trans ((But.of_grown hg5).mono (by intro i hi _; rw [List.mem_singleton] at hi; subst hi; exact HC1.out.inF.2))
          have c1 : w5.cell? ⟨p, 1, none⟩ = some (.slice a1 C1.length cap1) := ((HC2.out.blk.but (But.of_grown hg5) (by simpa using HC2.out.ne_p.1.symm)).cell (i := 1) rfl)
          clear hG5 hg5 hs5 c2
          go_wp2_with (at_builtin; refine Go.XR.stop (fun X hX => ?_))
          refine hX.out ?_
          clear hX X
          refine wpList_plain rfl (fun K hK => ?_)
          have Hlm : Hid ((C1.map (·.1)).length = C1.length) := List.length_map ..
          have hc1l := Nat.lt_of_lt_of_le Hlt.out hrm
          refine append_enc2 (P := Tryz.prog) iL 1 8 iL_len iL_one 3 Tryz.underlying97 (by kernel_rfl) (by decide) 0 a1 cap1 (C1.map (·.1)) (by rw [Hlm.out]; rfl) (owns_below Hput.out.order ((Below.refl _ _).alloc (Nat.le_refl _) _)) w5.heap.size 0 1 [s] rfl (by rw [List.flatMap_cons, List.flatMap_nil, List.append_nil]; exact Row.new _ _ _) (by rw [Hlm.out]; simp; omega) (by rw [Hlm.out]; unfold maxLen; simp; omega) (Nat.zero_le _) ?_
          intro a3 c3 w6 ho6 hg6 hn6
          have hfin := Hput.out.fin_ (Below.refl _ _ |>.alloc (Nat.le_refl _) _) ho6 hg6 hn6
          rw [show (C1.map (·.1) ++ [s]).length = (C1 ++ [(s, tabOf l)]).length by simp]
          obtain ⟨N, hN⟩ : ∃ N, (C1 ++ [(s, tabOf l)]).length = N := ⟨_, rfl⟩
          rw [hN] at hfin ⊢
          clear hN
          have hp6 := Hput.out.blk.lt
          have c6 : w6.cell? ⟨p, 1, none⟩ = some (.slice a1 C1.length cap1) := hfin.1
          have f6 := hfin.2.1
          have Hfin := Lib.hid hfin.2.2
          clear hfin ho6 hg6 hn6 c1
          go_wp2
          go_end0
          obtain ⟨F2, h1, h2, h3⟩ := Hfin.out
          refine ⟨rfl, F2, a3, c3, _, by rw [Hcl.out]; exact h1, ?_, ?_⟩
          · have hgr : Grew w F (w1.heap.size :: F) := fun b hb => by
              rcases List.mem_cons.1 hb with rfl | hb
              · exact .inr Hb1.out.size
              · exact .inl hb
            exact But.grew Hb5.out h2 hgr
          · intro b hb
            rcases h3 b hb with h4 | h4
            · rcases List.mem_cons.1 h4 with rfl | h4
              · exact .inr Hb1.out.size
              · exact .inl h4
            · exact .inr (Nat.le_trans Hb5.out.size h4)
    · have hne : ¬ (C.length : Int) = (room : Int) := by omega
      have hnz : ((C.length : Int) == (room : Int)) = false := by rw [beq_eq_false_iff_ne]; exact hne
      go_wp2
      refine Go.XR.region_sched ((· = w.drew)) [(0, true), (1, true), (2, true), (3, true), (4, true), (5, true), (6, true), (7, true), (8, true), (9, false)] [9] Tryz.mixed (by kernel_rfl) (by kernel_rfl) (by kernel_rfl) ?_
      simp only [List.map_cons, List.map_nil, List.getElem?_cons_succ, List.getElem?_cons_zero]
      repeat (first | (refine Go.XR.S_light rfl rfl rfl ?_ (fun w' hS K hK => ?_) (fun K hK => ?_); rotate_left 1; (cases hS; go_step; exact hK); go_step; refine hK _ ?_; clear hK K))
      repeat (first | (refine Go.XR.S_heavy (fun K hK => ?_); go_step; refine hK _ _ ⟨fun h => by simp at h, ?_⟩; clear hK K))
      refine Go.XR.S_nil ?_
      have Hev : Hid (cEvict room C draw = C) := by unfold Hid cEvict; rw [if_neg hfull]
      have HC1 : Hid (ChC w.drew F p tb room a cap (cEvict room C draw) T) := by unfold Hid; rw [Hev.out]; exact HC.out.but ((But.refl [] w).drew) (by simp)
      have Hb1 : Hid (But F w w.drew) := (But.refl F w).drew
      have HR1 : Hid (Row w.drew la (l.flatMap rowL)) := HR.out
      have Hno : Hid (aget (cEvict room C draw) s = none) := by
        unfold Hid
        rw [Hev.out]
        cases h : aget C s with
        | none => rfl
        | some v => have := Hs.out; rw [h] at this; cases this
      have Hlt : Hid ((cEvict room C draw).length < room) := cEvict_lt HC.out.nd HC.out.len h0 draw
      generalize w.drew = w1 at *
      clear c0 c1 HC HR Hhas Hev
      generalize cEvict room C draw = C1 at *
      obtain ⟨a1, ha1⟩ : ∃ a1, a = a1 := ⟨_, rfl⟩
      obtain ⟨cap1, hcap1⟩ : ∃ cap1, cap = cap1 := ⟨_, rfl⟩
      obtain ⟨T1, hT1⟩ : ∃ T1, T = T1 := ⟨_, rfl⟩
      rw [ha1, hcap1, hT1] at HC1
      clear ha1 hcap1 hT1
      go_wp2
      go_loopg [58] l.length (fun n i wr => ∃ j : Nat, j ≤ l.length ∧ i = .int .i64 j ∧ Hid (n = l.length - j ∧ Below w1.heap.size w1 wr ∧ GM keyV placeV wr w1.heap.size (tabOf (l.take j))))
      case atStart => exact ⟨0, by omega, rfl, rfl, (Below.refl _ _).alloc (Nat.le_refl _) _, GM.made keyV placeV w1⟩
      case round =>
        obtain ⟨j, hj, rfl, hn⟩ := hrel
        have HRr := Lib.hid (HR1.out.below hn.out.2.1)
        have hsz := hn.out.2.1.size
        by_cases hlt : j < l.length
        · have hlt2 : (j : Int) < (l.length : Int) := by omega
          obtain ⟨g, o, rfl, hX⟩ := row_at rowL_length HRr.out hlt (by omega)
          have HX : Hid (At wr g (o + j * 35) (rowC l[j])) := hX
          have Htk : Hid (tabOf (l.take (j + 1)) = tabStep (tabOf (l.take j)) l[j]) := by
            unfold Hid; rw [List.take_succ_eq_append_getElem hlt, tabOf_snoc]
          clear hX
          generalize l[j] = r at *
          obtain ⟨t, ht⟩ : ∃ t, tabOf (l.take j) = t := ⟨_, rfl⟩
          rw [ht] at Htk
          have HG := Lib.hid hn.out.2.2
          rw [ht] at HG
          have Hb := Lib.hid hn.out.2.1
          have Hn1 := Lib.hid hn.out.1
          clear hn ht
          obtain ⟨zr, hzr, hzr2⟩ := zero_row
          go_wp2_with (first | (refine wpList_load_at rfl 42 (.tmp 60) rfl g (o + j * 35) (by kernel_rfl) (rowC r) HX.out _ Tryz.underlying42 rfl (rowSize r) ?_) | (refine wpList_alloc_new rfl 42 rfl zr (hzr2 _) ?_) | (refine opIs (X := .store 42 (.tmp 10) (.tmp 61)) rfl ?_; refine wpList_store_new rfl 42 (.tmp 10) (.tmp 61) rfl zr (rowC r) 42 (by kernel_rfl) (by kernel_rfl) (by rw [hzr, rowC_size]) (one_rowL r) (rowSize r) ?_; refine Go.XR.stop (fun X hX => ?_)) | fail)
          refine hX.out ?_
          clear hX X
          obtain ⟨W3, hW3⟩ : ∃ W3, wr.alloc (.cells (rowC r) 42) = W3 := ⟨_, rfl⟩
          have hb3 : Below wr.heap.size wr W3 := by rw [← hW3]; exact (Below.refl _ _).alloc (Nat.le_refl _) _
          have HR3 : Hid (At W3 wr.heap.size 0 (rowC r)) := by unfold Hid; rw [← hW3]; exact At.new _ _ _
          have HG3 := Lib.hid (HG.out.below hb3)
          have Hb3 : Hid (Below w1.heap.size w1 W3) := Hb.out.trans (hb3.mono hsz)
          obtain ⟨rb, hrb⟩ : ∃ rb, wr.heap.size = rb := ⟨_, rfl⟩
          rw [hrb] at HR3 ⊢
          rw [hW3]
          clear hb3 hW3 hrb HRr HX hzr2 hzr
          have hsz3 := Hb3.out.size
          obtain ⟨v, hv⟩ : ∃ v, (aget t r.1).getD place0 = v := ⟨_, rfl⟩
          have Hv : Hid (((aget t r.1).map placeV).getD (.agg #[.int .i64 0, .int .i64 0]) = .agg #[.int .i64 v.shelf, .int .i64 v.slot]) := by unfold Hid; rw [opt_val, hv]; rfl
          obtain ⟨is, his⟩ : ∃ b, (aget t r.1).isSome = b := ⟨_, rfl⟩
          have His := Lib.hid his
          clear hv his
          have HRk := Lib.hid (row_at_key HR3.out)
          go_wp2_with (first | (refine opIs (X := .load 29 (.tmp 64)) rfl ?_; refine wpList_load_at rfl 29 (.tmp 64) rfl rb 0 rfl (keyC r.1) HRk.out _ Tryz.underlying29 rfl (keySize _) ?_) | (refine opIs (X := .lookup 100 (.tmp 63) (.tmp 65) true) rfl ?_; refine wpList_plain rfl (fun K hK => ?_); refine Go.XR.wp_gm_lookup_ok (.tmp 63) (.tmp 65) 100 rfl keysKey Tryz.underlying100 (.agg #[.int .i64 0, .int .i64 0]) (Tryz.zeroValue40) r.1 _ is rfl rfl HG3.out Hv.out His.out ?_; refine hK _ _ ?_; clear hK K) | (refine opIs (X := .unOp .not 4 (.tmp 69)) rfl ?_; refine Go.XR.stop (fun X hX => ?_)) | fail)
          refine hX.out ?_
          clear hX X
          obtain ⟨W4, hW4⟩ : ∃ W4, W3.alloc (.cells #[.int .i64 v.shelf, .int .i64 v.slot] 40) = W4 := ⟨_, rfl⟩
          have hb4 : Below W3.heap.size W3 W4 := by rw [← hW4]; exact (Below.refl _ _).alloc (Nat.le_refl _) _
          have HG4 := Lib.hid (HG3.out.below hb4)
          have Hb4 : Hid (Below w1.heap.size w1 W4) := Hb3.out.trans (hb4.mono hsz3)
          have HR4 := Lib.hid (HR3.out.below (by rw [rowC_size]; omega) hb4)
          rw [hW4]
          clear hb4 hW4 HR3 HG3 Hb3 HRk Hv
          cases is with
          | true =>
            have Hts : Hid (tabStep t r = t) := by unfold Hid tabStep; rw [if_pos His.out]
            go_wp2
            go_roundg (l.length - (j + 1))
            case measure => have := Hn1.out; omega
            case rel => exact ⟨j + 1, by omega, by go_num, rfl, Hb4.out, by rw [Htk.out, Hts.out]; exact HG4.out⟩
          | false =>
            have Hts : Hid (tabStep t r = aput t r.1 r.2) := by unfold Hid tabStep; rw [if_neg (by rw [His.out]; decide)]
            have HK4 := Lib.hid (row_at_key HR4.out)
            have HP4 := Lib.hid (row_at_place HR4.out)
            go_wp2_with (first | (refine opIs (X := .load 29 (.tmp 72)) rfl ?_; refine wpList_load_at rfl 29 (.tmp 72) rfl rb 0 rfl (keyC r.1) HK4.out _ Tryz.underlying29 rfl (keySize _) ?_) | (refine opIs (X := .load 40 (.tmp 74)) rfl ?_; refine wpList_load_at rfl 40 (.tmp 74) rfl rb (0 + 33) rfl (placeC r.2) HP4.out _ Tryz.underlying40 rfl (placeSize _) ?_) | (refine opIs (X := .mapUpdate 100 (.tmp 71) (.tmp 73) (.tmp 75)) rfl ?_; refine wpList_gm_update rfl (.tmp 71) (.tmp 73) (.tmp 75) 100 rfl keysKey Tryz.underlying100 placeV w1.heap.size t r.1 r.2 rfl rfl rfl HG4.out (fun w5 hG5 hg5 hs5 => Go.XR.stop (fun X hX => ?_))) | fail)
            refine hX.out ?_
            clear hX X
            have HG5 := Lib.hid hG5
            have Hb5 : Hid (Below w1.heap.size w1 w5) := Hb4.out.trans ((But.of_grown hg5).below Hb4.out.size (by simp))
            clear hG5 hg5 hs5
            go_wp2
            go_roundg (l.length - (j + 1))
            case measure => have := Hn1.out; omega
            case rel => exact ⟨j + 1, by omega, by go_num, rfl, Hb5.out, by rw [Htk.out, Hts.out]; exact HG5.out⟩
        · have hge : ¬ (j : Int) < (l.length : Int) := by omega
          have HG : Hid (GM keyV placeV wr w1.heap.size (tabOf l)) := by
            have := hn.out.2.2
            rw [List.take_of_length_le (by omega)] at this
            exact this
          have Hb := Lib.hid hn.out.2.1
          have HC2 := Lib.hid (HC1.out.below Hb.out)
          have c2 := HC2.out.blk.cell (i := 2) rfl
          clear hn
          go_wp2_with (first | (refine opIs (X := .mapUpdate 96 (.tmp 80) (.tmp 81) (.tmp 82)) rfl ?_; refine wpList_gm_update rfl (.tmp 80) (.tmp 81) (.tmp 82) 96 rfl keysI64 Tryz.underlying96 mapV tb T1 s w1.heap.size rfl rfl rfl HC2.out.tables (fun w5 hG5 hg5 hs5 => Go.XR.stop (fun X hX => ?_))) | fail)
          refine hX.out ?_
          clear hX X
          have Hput := Lib.hid (HC1.out.put (s := s) Hno.out Hlt.out Hb.out HG.out (But.of_grown hg5) hG5)
          have Hb5 : Hid (But F w w5) := (Hb1.out.trans (But.of_below Hb.out)).trans ((But.of_grown hg5).mono (by intro i hi _; rw [List.mem_singleton] at hi; subst hi; exact HC1.out.inF.2))
          have c1 : w5.cell? ⟨p, 1, none⟩ = some (.slice a1 C1.length cap1) := ((HC2.out.blk.but (But.of_grown hg5) (by simpa using HC2.out.ne_p.1.symm)).cell (i := 1) rfl)
          clear hG5 hg5 hs5 c2
          go_wp2_with (at_builtin; refine Go.XR.stop (fun X hX => ?_))
          refine hX.out ?_
          clear hX X
          refine wpList_plain rfl (fun K hK => ?_)
          have Hlm : Hid ((C1.map (·.1)).length = C1.length) := List.length_map ..
          have hc1l := Nat.lt_of_lt_of_le Hlt.out hrm
          refine append_enc2 (P := Tryz.prog) iL 1 8 iL_len iL_one 3 Tryz.underlying97 (by kernel_rfl) (by decide) 0 a1 cap1 (C1.map (·.1)) (by rw [Hlm.out]; rfl) (owns_below Hput.out.order ((Below.refl _ _).alloc (Nat.le_refl _) _)) w5.heap.size 0 1 [s] rfl (by rw [List.flatMap_cons, List.flatMap_nil, List.append_nil]; exact Row.new _ _ _) (by rw [Hlm.out]; simp; omega) (by rw [Hlm.out]; unfold maxLen; simp; omega) (Nat.zero_le _) ?_
          intro a3 c3 w6 ho6 hg6 hn6
          have hfin := Hput.out.fin_ (Below.refl _ _ |>.alloc (Nat.le_refl _) _) ho6 hg6 hn6
          rw [show (C1.map (·.1) ++ [s]).length = (C1 ++ [(s, tabOf l)]).length by simp]
          obtain ⟨N, hN⟩ : ∃ N, (C1 ++ [(s, tabOf l)]).length = N := ⟨_, rfl⟩
          rw [hN] at hfin ⊢
          clear hN
          have hp6 := Hput.out.blk.lt
          have c6 : w6.cell? ⟨p, 1, none⟩ = some (.slice a1 C1.length cap1) := hfin.1
          have f6 := hfin.2.1
          have Hfin := Lib.hid hfin.2.2
          clear hfin ho6 hg6 hn6 c1
          go_wp2
          go_end0
          obtain ⟨F2, h1, h2, h3⟩ := Hfin.out
          refine ⟨rfl, F2, a3, c3, _, by rw [Hcl.out]; exact h1, ?_, ?_⟩
          · have hgr : Grew w F (w1.heap.size :: F) := fun b hb => by
              rcases List.mem_cons.1 hb with rfl | hb
              · exact .inr Hb1.out.size
              · exact .inl hb
            exact But.grew Hb5.out h2 hgr
          · intro b hb
            rcases h3 b hb with h4 | h4
            · rcases List.mem_cons.1 h4 with rfl | h4
              · exact .inr Hb1.out.size
              · exact .inl h4
            · exact .inr (Nat.le_trans Hb5.out.size h4)
end Go.Proofs.YtnfbchhbcinloaaGreat

/- The walk over word. -/
namespace Go.Proofs.YtnfbchhbcinloaaGreat
open Go.RowKit Go.XR Go.FindPure
set_option maxHeartbeats 1000000 in
set_option maxRecDepth 100000 in
theorem word_any (w : World) (g o c : Nat) (b0 b1 b2 b3 : Nat) (_hc : 4 ≤ c) (h0 : w.cell? ⟨g, o, none⟩ = some (.int .u8 b0)) (h1 : w.cell? ⟨g, o + 1, none⟩ = some (.int .u8 b1)) (h2 : w.cell? ⟨g, o + 2, none⟩ = some (.int .u8 b2)) (h3 : w.cell? ⟨g, o + 3, none⟩ = some (.int .u8 b3))
    (g0 : b0 < 256) (g1 : b1 < 256) (g2 : b2 < 256) (g3 : b3 < 256) :
    Calls Tryz.prog 75 #[.slice (some ⟨g, o, none⟩) 4 c] w fun e w' => e = .returned (.int .u32 ((b0 * 16777216 + b1 * 65536 + b2 * 256 + b3 : Nat) : Int)) ∧ Below w.heap.size w w' := by
  go_enter Tryz.func75, Tryz.ntmps75
  go_wp2
  refine Go.XR.region_sched ((· = w.drew)) [(0, true), (1, true), (2, true), (3, true), (4, true), (5, true), (6, true), (7, true), (8, true), (9, true), (10, true), (11, true), (12, true), (13, true), (14, true), (15, true), (16, true), (17, true), (18, true), (19, true), (20, true), (21, false), (22, false)] [21, 22] Tryz.mixed (by kernel_rfl) (by kernel_rfl) (by kernel_rfl) ?_
  simp only [List.map_cons, List.map_nil, List.getElem?_cons_succ, List.getElem?_cons_zero]
  repeat (first | (refine Go.XR.S_light rfl rfl rfl ?_ (fun w' hS K hK => ?_) (fun K hK => ?_); rotate_left 1; (cases hS; go_step; exact hK); go_step; refine hK _ ?_; clear hK K))
  repeat (first | (refine Go.XR.S_heavy (fun K hK => ?_); go_step; refine hK _ _ ⟨fun h => by simp at h, ?_⟩; clear hK K))
  refine Go.XR.S_nil ?_
  go_wp2
  go_ret
  refine ⟨?_, (Below.refl _ _).drew⟩
  rw [← word_or g0 g1 g2 g3]; rfl
/-- how a summary lies in memory -/
structure Vec (w : World) (p q cap bits probes : Nat) (Y : List Nat) : Prop where
  blk : Blk w p [.slice (some ⟨q, 0, none⟩) Y.length cap, .int .i64 bits, .int .i64 probes]
  row : Blk w q (Y.map byV)
  ne : p ≠ q
  cap : Y.length ≤ cap
  ok : SumOk bits Y
  bits : bits ≤ 1048576
  probes : probes ≤ 30
theorem Vec.but {w w' : World} {S : List Nat} {p q cap bits probes : Nat} {Y : List Nat} (h : Vec w p q cap bits probes Y) (hb : But S w w') (hp : p ∉ S) (hq : q ∉ S) : Vec w' p q cap bits probes Y :=
  { h with blk := h.blk.but hb hp, row := h.row.but hb hq }
theorem Vec.below {w w' : World} {p q cap bits probes : Nat} {Y : List Nat} (h : Vec w p q cap bits probes Y) (hb : Below w.heap.size w w') : Vec w' p q cap bits probes Y :=
  { h with blk := h.blk.below hb, row := h.row.below hb }
/-- one place is marked -/
def RetSet (w : World) (p q cap bits probes : Nat) (Y : List Nat) (e : Ending) (w' : World) : Prop :=
  e = .returned (.bool true) ∧ Vec w' p q cap bits probes Y ∧ But [q] w w'
set_option maxHeartbeats 1000000 in
set_option maxRecDepth 100000 in
theorem set_any (w : World) (p q cap bits probes : Nat) (Y : List Nat) (hV : Vec w p q cap bits probes Y) (x : Nat) (hx : x < bits) :
    Calls Tryz.prog 59 #[.pointer (some ⟨p, 0, none⟩), .int .u32 x] w (RetSet w p q cap bits probes (setB Y x)) := by
  have hbb := hV.bits
  have hx8 := hV.ok.at_ hx
  have hx8i : (x : Int) / 8 < (Y.length : Int) := by omega
  have c0 := hV.blk.cell (i := 0) rfl
  have cy : w.cell? ⟨q, x / 8, none⟩ = some (byV (Y.getD (x / 8) 0)) := hV.row.cell (by rw [List.getElem?_map, List.getD_eq_getElem?_getD, List.getElem?_eq_getElem hx8]; rfl)
  unfold byV at cy
  have hy := hV.ok.ok.get (x / 8)
  have hfr := hV.row.free (x / 8)
  have Hset : Hid ((Y.map byV).set (x / 8) (byV (Y.getD (x / 8) 0 ||| 2 ^ (x % 8))) = (setB Y x).map byV) := map_setB
  generalize Y.getD (x / 8) 0 = y at *
  have HV := Lib.hid hV
  have ha7 := and7 (x := x) (by omega)
  have hm8 : x % 8 < 8 := Nat.mod_lt _ (by decide)
  generalize x % 8 = m at *
  clear hV
  go_enter Tryz.func59, Tryz.ntmps59
  go_wp2
  have Hor := or_pow hy hm8
  go_ret
  have hbut : But [q] w (w.setCell ⟨q, x / 8, none⟩ (.int .u8 (Go.bits .or .u8 (y : Int) (2 ^ m % 256)))) := (But.refl _ _).setCell (.inl (by simp)) _
  have h2 := HV.out.blk.but hbut (by simpa using HV.out.ne)
  refine ⟨rfl, { HV.out with blk := by rw [setB_length]; exact h2, row := ?_, cap := by rw [setB_length]; exact HV.out.cap, ok := ⟨by rw [setB_length]; exact HV.out.ok.len, HV.out.ok.ok.setB x⟩ }, hbut⟩
  rw [← Hset.out, Hor]
  exact HV.out.row.set _ _
/-- is a place marked? -/
def RetBit (w : World) (b : Bool) (e : Ending) (w' : World) : Prop := e = .returned (.bool b) ∧ Below w.heap.size w w'
set_option maxHeartbeats 1000000 in
set_option maxRecDepth 100000 in
theorem is_any (w : World) (p q cap bits probes : Nat) (Y : List Nat) (hV : Vec w p q cap bits probes Y) (x : Nat) (hx : x < bits) :
    Calls Tryz.prog 68 #[.pointer (some ⟨p, 0, none⟩), .int .u32 x] w (RetBit w (bitAt Y x)) := by
  have hbb := hV.bits
  have hx8 := hV.ok.at_ hx
  have hx8i : (x : Int) / 8 < (Y.length : Int) := by omega
  have c0 := hV.blk.cell (i := 0) rfl
  have cy : w.cell? ⟨q, x / 8, none⟩ = some (byV (Y.getD (x / 8) 0)) := hV.row.cell (by rw [List.getElem?_map, List.getD_eq_getElem?_getD, List.getElem?_eq_getElem hx8]; rfl)
  unfold byV at cy
  have hy := hV.ok.ok.get (x / 8)
  have Hb : Hid (bitAt Y x = (Y.getD (x / 8) 0).testBit (x % 8)) := rfl
  generalize Y.getD (x / 8) 0 = y at *
  have ha7 := and7 (x := x) (by omega)
  have hm8 : x % 8 < 8 := Nat.mod_lt _ (by decide)
  generalize x % 8 = m at *
  have hb1 := and_bit (m := m) hy
  rw [Hb.out]
  clear Hb
  generalize y.testBit m = b at *
  clear hV
  cases b with
  | true =>
    rw [if_pos rfl] at hb1
    go_enter Tryz.func68, Tryz.ntmps68
    go_wp2
    go_ret
    exact ⟨rfl, Below.refl _ _⟩
  | false =>
    rw [if_neg (by decide)] at hb1
    go_enter Tryz.func68, Tryz.ntmps68
    go_wp2
    go_ret
    exact ⟨rfl, Below.refl _ _⟩
end Go.Proofs.YtnfbchhbcinloaaGreat

/- The walks over a key's places: Add, May. -/
namespace Go.Proofs.YtnfbchhbcinloaaGreat
open Go.RowKit Go.XR Go.FindPure
theorem key_byte {w : World} {b : Nat} {k : KeyT} (h : At w b 0 (keyC k)) {j : Nat} (hj : j < 32) : w.cell? ⟨b, j, none⟩ = some (.int .u8 (sb k.sum j : Int)) := by
  have h1 := h j (bV k.sum[j]) (by
    show (keyL k).toArray[j]? = _
    rw [List.getElem?_toArray]
    unfold keyL
    rw [List.getElem?_append_left (by rw [sumL_length]; exact hj)]
    unfold sumL
    rw [List.getElem?_map, List.getElem?_eq_getElem (by simpa using hj)]; simp)
  rw [Nat.zero_add] at h1
  rw [h1]
  unfold bV sb
  rw [List.getD_eq_getElem?_getD, List.getElem?_eq_getElem (by simpa using hj)]; simp
set_option maxHeartbeats 1000000 in
set_option maxRecDepth 100000 in
theorem each_zero (w : World) (p q cap probes : Nat) (Y : List Nat) (hV : Vec w p q cap 0 probes Y) (k : KeyT) (f : Value) :
    Calls Tryz.prog 60 #[.pointer (some ⟨p, 0, none⟩), keyV k, f] w (RetBit w true) := by
  have c1 := hV.blk.cell (i := 1) rfl
  have hp := hV.blk.lt
  go_enter Tryz.func60, Tryz.ntmps60
  go_wp2
  go_ret
  exact ⟨rfl, (Below.refl _ _).alloc (Nat.le_refl _) _⟩
set_option maxHeartbeats 1000000 in
set_option maxRecDepth 100000 in
theorem each_set (w : World) (p q cap bits probes : Nat) (Y : List Nat) (hV : Vec w p q cap bits probes Y) (h0 : bits ≠ 0) (k : KeyT) :
    Calls Tryz.prog 60 #[.pointer (some ⟨p, 0, none⟩), keyV k, .func (.func 59) #[.pointer (some ⟨p, 0, none⟩)] #[]] w (RetSet w p q cap bits probes (addB bits probes Y k)) := by
  obtain ⟨W0, hW0⟩ : ∃ W0, w.alloc (.cells (keyC k) 29) = W0 := ⟨_, rfl⟩
  have hb0 : Below w.heap.size w W0 := by rw [← hW0]; exact (Below.refl _ _).alloc (Nat.le_refl _) _
  have HK : Hid (At W0 w.heap.size 0 (keyC k)) := by unfold Hid; rw [← hW0]; exact At.new _ _ _
  have HV := Lib.hid (hV.below hb0)
  have Hb0 := Lib.hid hb0
  have hb00 : ¬ (bits : Int) = 0 := by omega
  have hbz : ((bits : Int) == 0) = false := by rw [beq_eq_false_iff_ne]; exact hb00
  have hbb := hV.bits
  have hpp := hV.probes
  obtain ⟨kb, hkb⟩ : ∃ kb, w.heap.size = kb := ⟨_, rfl⟩
  have Hkb := Lib.hid hkb
  rw [hkb] at HK
  have c0 := HV.out.blk.cell (i := 1) rfl
  have cn : W0.cell? ⟨kb, 32, none⟩ = some (.int .u32 (k.n.toNat : Int)) := by have := HK.out _ _ (keyC_n k); rwa [Nat.zero_add] at this
  have hkn : kb < W0.heap.size := HK.out.lt (by rw [keyC_size]; omega)
  have hxa := add_u32 (w4 k.sum 0) k.n.toNat
  rw [← xat_zero] at hxa
  have hor := stp_or k
  have Hw0 : Hid (sb k.sum 0 * 16777216 + sb k.sum 1 * 65536 + sb k.sum 2 * 256 + sb k.sum 3 = w4 k.sum 0) := rfl
  have Hw4 : Hid (sb k.sum 4 * 16777216 + sb k.sum 5 * 65536 + sb k.sum 6 * 256 + sb k.sum 7 = w4 k.sum 4) := rfl
  clear hV hb0
  go_enter Tryz.func60, Tryz.ntmps60
  go_wp2
  clear hW0 hkb
  have hS0 : Below W0.heap.size W0 W0.drew := (Below.refl _ _).drew
  have HK1 := Lib.hid (At.drew HK.out)
  refine Go.XR.region_sched ((Below W0.heap.size W0)) [(0, true), (1, true), (3, true), (4, true), (6, true), (7, true), (2, false), (5, true), (8, false), (9, true), (10, true), (11, false)] [11] Tryz.mixed (by kernel_rfl) (by kernel_rfl) (by kernel_rfl) ?_
  simp only [List.map_cons, List.map_nil, List.getElem?_cons_succ, List.getElem?_cons_zero]
  repeat (first | (refine Go.XR.S_light rfl rfl (by assumption) ?_ (fun w' hS K hK => ?_) (fun K hK => ?_); rotate_left 1; (have hS1 := bcell hS; go_step; exact hK); go_step; refine hK _ ?_; clear hK K))
  refine Go.XR.S_heavy (fun K hK => ?_)
  go_step
  ((with_reducible refine ((word_any W0.drew kb 0 32 _ _ _ _ (by omega) (key_byte (j := 0) HK1.out (by omega)) (key_byte (j := 1) HK1.out (by omega)) (key_byte (j := 2) HK1.out (by omega)) (key_byte (j := 3) HK1.out (by omega)) (sb_lt _ _) (sb_lt _ _) (sb_lt _ _) (sb_lt _ _))).mono ?_); rintro e w' ⟨rfl, hb1⟩)
  rw [Hw0.out]
  have hS1 : Below W0.heap.size W0 w' := hS0.trans (hb1.mono hS0.size)
  have HK2 := Lib.hid (HK.out.below (by rw [keyC_size]; omega) hS1)
  clear hb1 hS0
  refine hK _ _ ⟨fun _ => hS1, ?_⟩
  clear hK K
  repeat (first | (refine Go.XR.S_light rfl rfl (by assumption) ?_ (fun w' hS K hK => ?_) (fun K hK => ?_); rotate_left 1; (have hS1 := bcell hS; go_step; exact hK); go_step; refine hK _ ?_; clear hK K))
  generalize w' = W1 at *
  refine Go.XR.S_heavy (fun K hK => ?_)
  go_step
  ((with_reducible refine ((word_any W1 kb 4 28 _ _ _ _ (by omega) (key_byte (j := 4) HK2.out (by omega)) (key_byte (j := 5) HK2.out (by omega)) (key_byte (j := 6) HK2.out (by omega)) (key_byte (j := 7) HK2.out (by omega)) (sb_lt _ _) (sb_lt _ _) (sb_lt _ _) (sb_lt _ _))).mono ?_); rintro e w' ⟨rfl, hb2⟩)
  rw [Hw4.out]
  have hS2 : Below W0.heap.size W0 w' := hS1.trans (hb2.mono hS1.size)
  clear hb2
  refine hK _ _ ⟨fun _ => hS2, ?_⟩
  clear hK K
  repeat (first | (refine Go.XR.S_light rfl rfl (by assumption) ?_ (fun w' hS K hK => ?_) (fun K hK => ?_); rotate_left 1; (have hS1 := bcell hS; go_step; exact hK); go_step; refine hK _ ?_; clear hK K))
  generalize w' = W2 at *
  repeat (first | (refine Go.XR.S_heavy (fun K hK => ?_); go_step; refine hK _ _ ⟨fun h => by simp at h, ?_⟩; clear hK K))
  refine Go.XR.S_nil ?_
  have HV2 := Lib.hid (HV.out.below hS2)
  have HB2 := Lib.hid (Hb0.out.trans (hS2.mono Hb0.out.size))
  have c1 := HV2.out.blk.cell (i := 1) rfl
  have c2 := HV2.out.blk.cell (i := 2) rfl
  clear HK1 HK2 hS1 hS2 HK HV Hb0 c0 cn hkn hxa hor Hw0 Hw4
  go_wp2
  go_loopg [32, 7] probes (fun n i x wr => ∃ j : Nat, j ≤ probes ∧ i = .int .i64 j ∧ x = .int .u32 (xat k j) ∧ Hid (n = probes - j ∧ Vec wr p q cap bits probes ((placesN bits j k).foldl setB Y) ∧ But [q] w wr))
  case atStart => exact ⟨0, by omega, rfl, rfl, rfl, HV2.out, But.of_below HB2.out⟩
  case round =>
    obtain ⟨j, hj, rfl, rfl, hn⟩ := hrel
    have hV := hn.out.2.1
    have c1 := hV.blk.cell (i := 1) rfl
    have hxl := xat_lt k j
    by_cases hlt : j < probes
    · have hlt2 : (j : Int) < (probes : Int) := by omega
      have HV := Lib.hid hV
      have Hnx := xat_succ k j
      clear hV
      go_wp2_with fail
      refine (set_any wr p q cap bits probes _ HV.out (xat k j % bits) (Nat.mod_lt _ (by omega))).mono ?_
      rintro e w3 ⟨rfl, hV3, hb3⟩
      have HV3 := Lib.hid hV3
      have Hb3 := Lib.hid hb3
      clear hV3 hb3
      go_wp2
      go_roundg (probes - (j + 1))
      case measure => have := hn.out.1; omega
      case rel => exact ⟨j + 1, by omega, by go_num, by rw [Hnx]; rfl, rfl, by rw [placesN_succ, List.foldl_append]; exact HV3.out, hn.out.2.2.trans Hb3.out⟩
    · have hge : ¬ (j : Int) < (probes : Int) := by omega
      obtain rfl : j = probes := by omega
      clear c1
      go_wp2
      go_ret
      refine ⟨rfl, ?_, hn.out.2.2⟩
      unfold addB places
      rw [if_neg h0]; exact hn.out.2.1
set_option maxHeartbeats 1000000 in
set_option maxRecDepth 100000 in
theorem each_is (w : World) (p q cap bits probes : Nat) (Y : List Nat) (hV : Vec w p q cap bits probes Y) (h0 : bits ≠ 0) (k : KeyT) :
    Calls Tryz.prog 60 #[.pointer (some ⟨p, 0, none⟩), keyV k, .func (.func 68) #[.pointer (some ⟨p, 0, none⟩)] #[]] w (RetBit w (mayB bits probes Y k)) := by
  have HV0 := Lib.hid hV
  obtain ⟨W0, hW0⟩ : ∃ W0, w.alloc (.cells (keyC k) 29) = W0 := ⟨_, rfl⟩
  have hb0 : Below w.heap.size w W0 := by rw [← hW0]; exact (Below.refl _ _).alloc (Nat.le_refl _) _
  have HK : Hid (At W0 w.heap.size 0 (keyC k)) := by unfold Hid; rw [← hW0]; exact At.new _ _ _
  have HV := Lib.hid (hV.below hb0)
  have Hb0 := Lib.hid hb0
  have hb00 : ¬ (bits : Int) = 0 := by omega
  have hbz : ((bits : Int) == 0) = false := by rw [beq_eq_false_iff_ne]; exact hb00
  have hbb := hV.bits
  have hpp := hV.probes
  obtain ⟨kb, hkb⟩ : ∃ kb, w.heap.size = kb := ⟨_, rfl⟩
  have Hkb := Lib.hid hkb
  rw [hkb] at HK
  have c0 := HV.out.blk.cell (i := 1) rfl
  have cn : W0.cell? ⟨kb, 32, none⟩ = some (.int .u32 (k.n.toNat : Int)) := by have := HK.out _ _ (keyC_n k); rwa [Nat.zero_add] at this
  have hkn : kb < W0.heap.size := HK.out.lt (by rw [keyC_size]; omega)
  have hxa := add_u32 (w4 k.sum 0) k.n.toNat
  rw [← xat_zero] at hxa
  have hor := stp_or k
  have Hw0 : Hid (sb k.sum 0 * 16777216 + sb k.sum 1 * 65536 + sb k.sum 2 * 256 + sb k.sum 3 = w4 k.sum 0) := rfl
  have Hw4 : Hid (sb k.sum 4 * 16777216 + sb k.sum 5 * 65536 + sb k.sum 6 * 256 + sb k.sum 7 = w4 k.sum 4) := rfl
  clear hV hb0
  go_enter Tryz.func60, Tryz.ntmps60
  go_wp2
  clear hW0 hkb
  have hS0 : Below W0.heap.size W0 W0.drew := (Below.refl _ _).drew
  have HK1 := Lib.hid (At.drew HK.out)
  refine Go.XR.region_sched ((Below W0.heap.size W0)) [(0, true), (1, true), (3, true), (4, true), (6, true), (7, true), (2, false), (5, true), (8, false), (9, true), (10, true), (11, false)] [11] Tryz.mixed (by kernel_rfl) (by kernel_rfl) (by kernel_rfl) ?_
  simp only [List.map_cons, List.map_nil, List.getElem?_cons_succ, List.getElem?_cons_zero]
  repeat (first | (refine Go.XR.S_light rfl rfl (by assumption) ?_ (fun w' hS K hK => ?_) (fun K hK => ?_); rotate_left 1; (have hS1 := bcell hS; go_step; exact hK); go_step; refine hK _ ?_; clear hK K))
  refine Go.XR.S_heavy (fun K hK => ?_)
  go_step
  ((with_reducible refine ((word_any W0.drew kb 0 32 _ _ _ _ (by omega) (key_byte (j := 0) HK1.out (by omega)) (key_byte (j := 1) HK1.out (by omega)) (key_byte (j := 2) HK1.out (by omega)) (key_byte (j := 3) HK1.out (by omega)) (sb_lt _ _) (sb_lt _ _) (sb_lt _ _) (sb_lt _ _))).mono ?_); rintro e w' ⟨rfl, hb1⟩)
  rw [Hw0.out]
  have hS1 : Below W0.heap.size W0 w' := hS0.trans (hb1.mono hS0.size)
  have HK2 := Lib.hid (HK.out.below (by rw [keyC_size]; omega) hS1)
  clear hb1 hS0
  refine hK _ _ ⟨fun _ => hS1, ?_⟩
  clear hK K
  repeat (first | (refine Go.XR.S_light rfl rfl (by assumption) ?_ (fun w' hS K hK => ?_) (fun K hK => ?_); rotate_left 1; (have hS1 := bcell hS; go_step; exact hK); go_step; refine hK _ ?_; clear hK K))
  generalize w' = W1 at *
  refine Go.XR.S_heavy (fun K hK => ?_)
  go_step
  ((with_reducible refine ((word_any W1 kb 4 28 _ _ _ _ (by omega) (key_byte (j := 4) HK2.out (by omega)) (key_byte (j := 5) HK2.out (by omega)) (key_byte (j := 6) HK2.out (by omega)) (key_byte (j := 7) HK2.out (by omega)) (sb_lt _ _) (sb_lt _ _) (sb_lt _ _) (sb_lt _ _))).mono ?_); rintro e w' ⟨rfl, hb2⟩)
  rw [Hw4.out]
  have hS2 : Below W0.heap.size W0 w' := hS1.trans (hb2.mono hS1.size)
  clear hb2
  refine hK _ _ ⟨fun _ => hS2, ?_⟩
  clear hK K
  repeat (first | (refine Go.XR.S_light rfl rfl (by assumption) ?_ (fun w' hS K hK => ?_) (fun K hK => ?_); rotate_left 1; (have hS1 := bcell hS; go_step; exact hK); go_step; refine hK _ ?_; clear hK K))
  generalize w' = W2 at *
  repeat (first | (refine Go.XR.S_heavy (fun K hK => ?_); go_step; refine hK _ _ ⟨fun h => by simp at h, ?_⟩; clear hK K))
  refine Go.XR.S_nil ?_
  have HV2 := Lib.hid (HV.out.below hS2)
  have HB2 := Lib.hid (Hb0.out.trans (hS2.mono Hb0.out.size))
  have c1 := HV2.out.blk.cell (i := 1) rfl
  have c2 := HV2.out.blk.cell (i := 2) rfl
  clear HK1 HK2 hS1 hS2 HK HV Hb0 c0 cn hkn hxa hor Hw0 Hw4
  go_wp2
  go_loopg [32, 7] probes (fun n i x wr => ∃ j : Nat, j ≤ probes ∧ i = .int .i64 j ∧ x = .int .u32 (xat k j) ∧ Hid (n = probes - j ∧ (placesN bits j k).all (bitAt Y) = true ∧ Below w.heap.size w wr))
  case atStart => exact ⟨0, by omega, rfl, rfl, rfl, rfl, HB2.out⟩
  case round =>
    obtain ⟨j, hj, rfl, rfl, hn⟩ := hrel
    have hV := HV0.out.below hn.out.2.2
    have c1 := hV.blk.cell (i := 1) rfl
    have hxl := xat_lt k j
    by_cases hlt : j < probes
    · have hlt2 : (j : Int) < (probes : Int) := by omega
      have HV := Lib.hid hV
      have Hnx := xat_succ k j
      clear hV
      go_wp2_with fail
      refine (is_any wr p q cap bits probes _ HV.out (xat k j % bits) (Nat.mod_lt _ (by omega))).mono ?_
      rintro e w3 ⟨rfl, hb3⟩
      have Hb3 := Lib.hid (hn.out.2.2.trans (hb3.mono hn.out.2.2.size))
      clear hb3
      have Hnew : Hid ((placesN bits (j + 1) k).all (bitAt Y) = bitAt Y (xat k j % bits)) := by
        unfold Hid; rw [placesN_succ, List.all_append, hn.out.2.1]; simp
      generalize bitAt Y (xat k j % bits) = b at *
      cases b with
      | true =>
        go_wp2
        go_roundg (probes - (j + 1))
        case measure => have := hn.out.1; omega
        case rel => exact ⟨j + 1, by omega, by go_num, by rw [Hnx]; rfl, rfl, Hnew.out, Hb3.out⟩
      | false =>
        go_wp2
        go_ret
        refine ⟨?_, Hb3.out⟩
        have : mayB bits probes Y k = false := by
          unfold mayB places
          rw [if_neg h0]
          cases hh : (placesN bits probes k).all (bitAt Y) with
          | false => rfl
          | true =>
            rw [List.all_eq_true] at hh
            have h3 : (placesN bits (j + 1) k).all (bitAt Y) = true := by
              rw [List.all_eq_true]
              intro p hp
              refine hh p ?_
              obtain ⟨i, hi, rfl⟩ := List.mem_map.1 hp
              rw [List.mem_range] at hi
              exact List.mem_map.2 ⟨i, by rw [List.mem_range]; omega, rfl⟩
            rw [Hnew.out] at h3; cases h3
        rw [this]; rfl
    · have hge : ¬ (j : Int) < (probes : Int) := by omega
      obtain rfl : j = probes := by omega
      clear c1
      go_wp2
      go_ret
      refine ⟨?_, hn.out.2.2⟩
      unfold mayB places
      rw [if_neg h0, hn.out.2.1]; rfl
end Go.Proofs.YtnfbchhbcinloaaGreat

/- The walks over Add, May, Or, Clear, New of a summary. -/
namespace Go.XR
open Go Go.RowKit
theorem wpList_clear_z {P : Program} {w : World} {ops : Array Oper} {rest : List Oper} {o : Oper} {a : Act} {Q : Exit → Act → World → Prop} (hgd : o.guard = none) (x : Operand) (t e : TypeId)
    (ho : o.op = .call { callee := .builtin .clear, args := #[x], argTypes := #[t] })
    (g n c : Nat) (hx : a.eval x = .slice (some ⟨g, 0, none⟩) n c) (ht : P.underlying t = some (.slice e)) (z : Value) (hz : (zeroValue e).run P w = .ok z w) (h1 : ∀ v ∈ z.cells.toList, v.oneCell' = true)
    (cur : List Value) (hb : Blk w g cur) (hl : n * z.cells.size = cur.length)
    (hK : ∀ w', Blk w' g (Builtin.zeroCells z.cells n).toList → But [g] w w' → wpList P ops Q rest (a.put o.dst (.tuple #[])) w') :
    wpList P ops Q (o :: rest) a w := by
  refine wpList_plain hgd fun _ hK' => ?_
  obtain ⟨dst, op, ty, pos, after, guard⟩ := o
  cases ho
  have hzl := zeros_length z.cells n
  by_cases h0 : n = 0
  · subst h0
    have hr : (Builtin.clear_ #[t] ty #[a.eval x]).run P w = .ok (.tuple #[]) w := by
      rw [hx]; simp [Builtin.clear_, run_underlying ht, Result.andThen]
    have hc : cur = [] := List.eq_nil_of_length_eq_zero (by omega)
    subst hc
    have := hK' _ _ (hK w (by rw [List.eq_nil_of_length_eq_zero (l := (Builtin.zeroCells z.cells 0).toList) (by rw [hzl]; omega)]; exact hb) (But.refl _ _))
    unfold Oper.wp execOp
    simp only [resolve, invoke, builtin, Sem.run_bind, Sem.run_pure, Result.andThen_ok, List.map_toArray, List.map_cons, List.map_nil, hr]
    exact this
  · obtain ⟨T, hg⟩ := hb
    have hs := run_storeCells_at (P := P) g 0 T (Builtin.zeroCells z.cells n).toList 0 cur.toArray w hg (by rw [hzl]; simp; omega) (zeros_one h1 n)
    rw [hzl] at hs
    have hr : (Builtin.clear_ #[t] ty #[a.eval x]).run P w = .ok (.tuple #[]) (w.setRow g ((Builtin.zeroCells z.cells n).toList).toArray) := by
      rw [hx]
      unfold Builtin.clear_
      simp only [List.getElem?_toArray, List.getElem?_cons_zero, Sem.run_bind, run_underlying ht, Result.andThen_ok]
      cases n with
      | zero => exact absurd rfl h0
      | succ n =>
        simp only [hz, Result.andThen_ok, Sem.run_pure]
        simp only [Nat.add_zero] at hs
        rw [hs]
        simp [Result.andThen, hl]
    have hbk : Blk w g cur := ⟨T, hg⟩
    have := hK' _ _ (hK _ (hbk.setRow _) ((But.refl [g] w).setRow (.inl (by simp)) _))
    unfold Oper.wp execOp
    simp only [resolve, invoke, builtin, Sem.run_bind, Sem.run_pure, Result.andThen_ok, List.map_toArray, List.map_cons, List.map_nil, hr]
    exact this
theorem zeros_u8 (n : Nat) : (Builtin.zeroCells #[Value.int .u8 0] n).toList = List.replicate n (.int .u8 0) := by
  unfold Builtin.zeroCells
  rw [Array.toList_map, Array.toList_range]
  refine List.ext_getElem (by simp) fun i h1 h2 => ?_
  simp [Nat.mod_one]
end Go.XR
namespace Go.Proofs.YtnfbchhbcinloaaGreat
open Go.RowKit Go.XR Go.FindPure
theorem flat_one {α : Type} (f : α → Value) (l : List α) : (l.flatMap fun y => [f y]) = l.map f := by
  induction l with
  | nil => rfl
  | cons x l ih => rw [List.flatMap_cons, ih]; rfl
def RetVec (w : World) (p q cap bits probes : Nat) (Y : List Nat) (e : Ending) (w' : World) : Prop :=
  e = .returned (.tuple #[]) ∧ Vec w' p q cap bits probes Y ∧ But [q] w w'
set_option maxHeartbeats 1000000 in
set_option maxRecDepth 100000 in
theorem add_any (w : World) (p q cap bits probes : Nat) (Y : List Nat) (hV : Vec w p q cap bits probes Y) (k : KeyT) :
    Calls Tryz.prog 33 #[.pointer (some ⟨p, 0, none⟩), keyV k] w (RetVec w p q cap bits probes (addB bits probes Y k)) := by
  obtain ⟨W0, hW0⟩ : ∃ W0, w.alloc (.cells (keyC k) 29) = W0 := ⟨_, rfl⟩
  have hb0 : Below w.heap.size w W0 := by rw [← hW0]; exact (Below.refl _ _).alloc (Nat.le_refl _) _
  have HK : Hid (At W0 w.heap.size 0 (keyC k)) := by unfold Hid; rw [← hW0]; exact At.new _ _ _
  have HV := Lib.hid (hV.below hb0)
  have Hb0 := Lib.hid hb0
  clear hV hb0
  go_enter Tryz.func33, Tryz.ntmps33
  go_wp2_with (first | (refine wpList_load_at rfl 29 _ rfl w.heap.size 0 rfl (keyC k) HK.out _ Tryz.underlying29 rfl (keySize k) ?_) | fail)
  by_cases h0 : bits = 0
  · subst h0
    refine (each_zero W0 p q cap probes Y HV.out k _).mono ?_
    rintro e w1 ⟨rfl, hb1⟩
    have Hb1 := Lib.hid (Hb0.out.trans (hb1.mono Hb0.out.size))
    have HV1 := Lib.hid (HV.out.below hb1)
    clear hb1
    go_wp2
    go_end0
    exact ⟨rfl, HV1.out, But.of_below Hb1.out⟩
  · refine (each_set W0 p q cap bits probes Y HV.out h0 k).mono ?_
    rintro e w1 ⟨rfl, hV1, hb1⟩
    have HV1 := Lib.hid hV1
    have Hb1 : Hid (But [q] w w1) := (But.of_below Hb0.out).trans hb1
    clear hb1 hV1
    go_wp2
    go_end0
    exact ⟨rfl, HV1.out, Hb1.out⟩
set_option maxHeartbeats 1000000 in
set_option maxRecDepth 100000 in
theorem may_any (w : World) (p q cap bits probes : Nat) (Y : List Nat) (hV : Vec w p q cap bits probes Y) (k : KeyT) :
    Calls Tryz.prog 41 #[.pointer (some ⟨p, 0, none⟩), keyV k] w (RetBit w (mayB bits probes Y k)) := by
  obtain ⟨W0, hW0⟩ : ∃ W0, w.alloc (.cells (keyC k) 29) = W0 := ⟨_, rfl⟩
  have hb0 : Below w.heap.size w W0 := by rw [← hW0]; exact (Below.refl _ _).alloc (Nat.le_refl _) _
  have HK : Hid (At W0 w.heap.size 0 (keyC k)) := by unfold Hid; rw [← hW0]; exact At.new _ _ _
  have HV := Lib.hid (hV.below hb0)
  have Hb0 := Lib.hid hb0
  clear hV hb0
  go_enter Tryz.func41, Tryz.ntmps41
  go_wp2_with (first | (refine wpList_load_at rfl 29 _ rfl w.heap.size 0 rfl (keyC k) HK.out _ Tryz.underlying29 rfl (keySize k) ?_) | fail)
  by_cases h0 : bits = 0
  · subst h0
    refine (each_zero W0 p q cap probes Y HV.out k _).mono ?_
    rintro e w1 ⟨rfl, hb1⟩
    have Hb1 := Lib.hid (Hb0.out.trans (hb1.mono Hb0.out.size))
    clear hb1
    go_wp2
    go_ret
    exact ⟨rfl, Hb1.out⟩
  · refine (each_is W0 p q cap bits probes Y HV.out h0 k).mono ?_
    rintro e w1 ⟨rfl, hb1⟩
    have Hb1 := Lib.hid (Hb0.out.trans (hb1.mono Hb0.out.size))
    clear hb1
    go_wp2
    go_ret
    exact ⟨rfl, Hb1.out⟩
set_option maxHeartbeats 1000000 in
set_option maxRecDepth 100000 in
theorem clear_any (w : World) (p q cap bits probes : Nat) (Y : List Nat) (hV : Vec w p q cap bits probes Y) :
    Calls Tryz.prog 49 #[.pointer (some ⟨p, 0, none⟩)] w (RetVec w p q cap bits probes (List.replicate ((bits + 7) / 8) 0)) := by
  have c0 := hV.blk.cell (i := 0) rfl
  have HV := Lib.hid hV
  clear hV
  go_enter Tryz.func49, Tryz.ntmps49
  go_wp2_with (refine wpList_clear_z rfl _ 44 5 rfl q Y.length cap rfl Tryz.underlying44 (.int .u8 0) (Tryz.zeroValue5 _) (by intro v hv; simp [Value.cells] at hv; subst hv; rfl) _ HV.out.row (by rw [List.length_map]; exact Nat.mul_one _) (fun w2 hB2 hb2 => ?_))
  have HB2 := Lib.hid hB2
  have Hb2 := Lib.hid hb2
  clear hB2 hb2
  go_wp2
  go_end0
  have hl := HV.out.ok.len
  refine ⟨rfl, { HV.out with blk := ?_, row := ?_, cap := ?_, ok := SumOk.zero bits }, Hb2.out⟩
  · have := HV.out.blk.but Hb2.out (by simpa using HV.out.ne)
    rw [List.length_replicate, ← hl]; exact this
  · have := HB2.out
    rw [show (Value.int IntKind.u8 0).cells = #[Value.int IntKind.u8 0] from rfl, zeros_u8, hl] at this
    rw [List.map_replicate]; exact this
  · rw [List.length_replicate, ← hl]; exact HV.out.cap
set_option maxHeartbeats 1000000 in
set_option maxRecDepth 100000 in
theorem blur_any (w : World) (p q cap bits probes : Nat) (Y : List Nat) (hV : Vec w p q cap bits probes Y) (a : Option Addr) (c : Nat) (b : List Nat) (hR : Row w a (b.map byV)) (hq : 0 < b.length → ∀ g o, a = some ⟨g, o, none⟩ → g ≠ q) (hok : bytesOk b) (hbl : b.length ≤ 2^40) :
    Calls Tryz.prog 50 #[.pointer (some ⟨p, 0, none⟩), .slice a b.length c] w (RetVec w p q cap bits probes (blurB bits Y b)) := by
  have c0 := hV.blk.cell (i := 0) rfl
  have hbb := hV.bits
  have hyl : Y.length ≤ 131072 := by rw [hV.ok.len]; omega
  have HV := Lib.hid hV
  clear hV
  obtain ⟨m, hm⟩ : ∃ m, min b.length Y.length = m := ⟨_, rfl⟩
  have hmi : min (b.length : Int) (Y.length : Int) = (m : Int) := by omega
  have hmb : m ≤ b.length := by omega
  have hmy : m ≤ Y.length := by omega
  have Hm := Lib.hid hm
  clear hm
  go_enter Tryz.func50, Tryz.ntmps50
  go_wp2
  clear c0
  go_loopg [16] m (fun n i wr => ∃ j : Nat, j ≤ m ∧ i = .int .i64 j ∧ Hid (n = m - j ∧ Vec wr p q cap bits probes (orN Y b j) ∧ But [q] w wr))
  case atStart => exact ⟨0, by omega, rfl, rfl, by rw [orN_zero]; exact HV.out, But.refl _ _⟩
  case round =>
    obtain ⟨j, hj, rfl, hn⟩ := hrel
    have hV := hn.out.2.1
    have c0 := hV.blk.cell (i := 0) rfl
    rw [orN_length] at c0
    by_cases hlt : j < m
    · have hlt2 : (j : Int) < (m : Int) := by omega
      have hjy : j < Y.length := by omega
      have hjb : j < b.length := by omega
      have cy : wr.cell? ⟨q, j, none⟩ = some (byV (Y.getD j 0)) := hV.row.cell (by rw [List.getElem?_map, ← orN_get Y b hjy, List.getD_eq_getElem?_getD, List.getElem?_eq_getElem (by rw [orN_length]; exact hjy)]; rfl)
      obtain ⟨g, o, ha, hcb⟩ := hR.get (j := j) (u := byV (b.getD j 0)) (by rw [List.getElem?_map, List.getD_eq_getElem?_getD, List.getElem?_eq_getElem hjb]; rfl)
      have cb := hn.out.2.2.cell hcb (by simpa using hq (by omega) g o ha)
      have hfr := hV.row.free j
      unfold byV at cy cb
      have Hor := bits_or8 (HV.out.ok.ok.get j) (hok.get j)
      have Hs := Lib.hid (orN_succ Y b (j := j))
      generalize Y.getD j 0 = y at *
      generalize b.getD j 0 = z at *
      have HV2 := Lib.hid hV
      subst ha
      clear hV hcb
      go_wp2
      refine Go.XR.region_sched ((· = wr.drew)) [(0, true), (1, true), (2, true), (3, true), (4, true), (5, true), (6, true), (7, true), (8, true), (9, true), (10, true), (11, false), (12, false), (13, false)] [11, 12, 13] Tryz.mixed (by kernel_rfl) (by kernel_rfl) (by kernel_rfl) ?_
      simp only [List.map_cons, List.map_nil, List.getElem?_cons_succ, List.getElem?_cons_zero]
      repeat (first | (refine Go.XR.S_light rfl rfl rfl ?_ (fun w' hS K hK => ?_) (fun K hK => ?_); rotate_left 1; (cases hS; go_step; exact hK); go_step; refine hK _ ?_; clear hK K))
      repeat (first | (refine Go.XR.S_heavy (fun K hK => ?_); go_step; refine hK _ _ ⟨fun h => by simp at h, ?_⟩; clear hK K))
      refine Go.XR.S_nil ?_
      have Hbut : Hid (But [q] wr (wr.setCell ⟨q, j, none⟩ (.int .u8 ((y ||| z : Nat) : Int))).drew) := ((But.refl [q] wr).setCell (.inl (by simp)) _).drew
      have HB := Lib.hid ((HV2.out.row.set j (.int .u8 ((y ||| z : Nat) : Int))).below (Below.refl _ _).drew)
      clear c0 cy cb hfr
      go_wp2
      go_roundg (m - (j + 1))
      case measure => have := hn.out.1; omega
      case rel =>
        refine ⟨j + 1, by omega, by go_num, rfl, ?_, hn.out.2.2.trans Hbut.out⟩
        refine { HV2.out with blk := ?_, row := ?_, cap := by rw [orN_length]; exact HV.out.cap, ok := ⟨by rw [orN_length]; exact HV.out.ok.len, orN_ok HV.out.ok.ok hok _⟩ }
        · have := HV2.out.blk.but Hbut.out (by simpa using HV.out.ne)
          rw [orN_length] at this ⊢; exact this
        · have := HB.out
          rw [show Value.int IntKind.u8 ((y ||| z : Nat) : Int) = byV (y ||| z) from rfl, ← List.map_set, Hs.out] at this
          exact this
    · have hge : ¬ (j : Int) < (m : Int) := by omega
      obtain rfl : j = m := by omega
      have Hend := Lib.hid (orN_end Y b Hm.out.symm)
      have HV3 : Hid (Vec wr p q cap bits probes (orB Y b)) := by have := hn.out.2.1; rw [Hend.out] at this; exact this
      have HB3 := Lib.hid hn.out.2.2
      have c1 := hV.blk.cell (i := 1) rfl
      have ha7 := and7_i hbb
      have hm8 : bits % 8 < 8 := Nat.mod_lt _ (by decide)
      have Hlen := Lib.hid HV.out.ok.len
      clear hV hn Hend Hm hmi hmb hmy hlt hge hj
      by_cases hz : bits % 8 = 0
      · have Hz := Lib.hid hz
        have ha7 : Go.bits .and .i64 (bits : Int) 7 = 0 := by rw [ha7, hz]; rfl
        clear hz hm8
        go_wp2
        go_end0
        refine ⟨rfl, ?_, HB3.out⟩
        unfold blurB cutB
        rw [if_pos Hz.out]; exact HV3.out
      · have Hz := Lib.hid hz
        have hy1 : 1 ≤ Y.length := by rw [Hlen.out]; omega
        have hyq : Y.length - 1 < Y.length := by omega
        have hzz : (0 : Int) < ((bits % 8 : Nat) : Int) := by omega
        have Hbl : Hid (blurB bits Y b = (orB Y b).set (Y.length - 1) ((orB Y b).getD (Y.length - 1) 0 % 2 ^ (bits % 8))) := by
          unfold Hid blurB cutB; rw [if_neg hz, orB_length]
        have cy : wr.cell? ⟨q, Y.length - 1, none⟩ = some (byV ((orB Y b).getD (Y.length - 1) 0)) := HV3.out.row.cell (by rw [List.getElem?_map, List.getD_eq_getElem?_getD, List.getElem?_eq_getElem (by rw [orB_length]; exact hyq)]; rfl)
        have hfr := HV3.out.row.free (Y.length - 1)
        unfold byV at cy
        have Hy := Lib.hid (HV3.out.ok.ok.get (Y.length - 1))
        have hi1 : (Y.length : Int) - 1 = ((Y.length - 1 : Nat) : Int) := by omega
        generalize bits % 8 = mm at *
        generalize (orB Y b).getD (Y.length - 1) 0 = y at *
        have hmask := mask_u8 Hy.out hm8
        go_wp2
        clear c1 ha7 hzz hz
        refine Go.XR.region_sched ((· = wr.drew)) [(0, true), (1, true), (2, true), (3, true), (4, true), (5, true), (6, true), (7, true), (8, true), (9, true), (10, true), (11, true), (12, true), (13, true), (14, true), (15, false), (16, false), (17, false)] [15, 16, 17] Tryz.mixed (by kernel_rfl) (by kernel_rfl) (by kernel_rfl) ?_
        simp only [List.map_cons, List.map_nil, List.getElem?_cons_succ, List.getElem?_cons_zero]
        repeat (first | (refine Go.XR.S_light rfl rfl rfl ?_ (fun w' hS K hK => ?_) (fun K hK => ?_); rotate_left 1; (cases hS; go_step; exact hK); go_step; refine hK _ ?_; clear hK K))
        repeat (first | (refine Go.XR.S_heavy (fun K hK => ?_); go_step; refine hK _ _ ⟨fun h => by simp at h, ?_⟩; clear hK K))
        refine Go.XR.S_nil ?_
        have Hbut : Hid (But [q] wr (wr.setCell ⟨q, Y.length - 1, none⟩ (.int .u8 ((y : Int) % 2 ^ mm))).drew) := ((But.refl [q] wr).setCell (.inl (by simp)) _).drew
        have HB := Lib.hid ((HV3.out.row.set (Y.length - 1) (.int .u8 ((y : Int) % 2 ^ mm))).below (Below.refl _ _).drew)
        clear c0 cy hfr
        go_wp2
        go_end0
        refine ⟨rfl, ?_, HB3.out.trans Hbut.out⟩
        rw [Hbl.out]
        refine { HV3.out with blk := ?_, row := ?_, cap := by rw [List.length_set]; exact HV3.out.cap, ok := ⟨by rw [List.length_set]; exact HV3.out.ok.len, HV3.out.ok.ok.set _ (Nat.lt_of_le_of_lt (Nat.mod_le _ _) Hy.out)⟩ }
        · have := HV3.out.blk.but Hbut.out (by simpa using HV.out.ne)
          rw [List.length_set]; exact this
        · have := HB.out
          rw [pow_mod_cast] at this
          rw [List.map_set, show byV (y % 2 ^ mm) = Value.int IntKind.u8 ((y % 2 ^ mm : Nat) : Int) from rfl, ← pow_mod_cast, pow_mod_cast]
          exact this
/-- what New makes: nothing, or a summary without keys -/
def RetBNew (w : World) (bits probes : Int) (e : Ending) (w' : World) : Prop :=
  (¬ (0 ≤ bits ∧ bits ≤ 1048576 ∧ 0 ≤ probes ∧ probes ≤ 30) ∧ e = .returned (.tuple #[.pointer none, .int .i64 1]) ∧ w' = w) ∨
  (∃ m n : Nat, bits = m ∧ probes = n ∧ m ≤ 1048576 ∧ n ≤ 30 ∧ ∃ p q cap, e = .returned (.tuple #[.pointer (some ⟨p, 0, none⟩), .int .i64 0]) ∧ Vec w' p q cap m n (List.replicate ((m + 7) / 8) 0) ∧ w.heap.size ≤ q ∧ q < p ∧ p < w'.heap.size ∧ Below w.heap.size w w')
set_option maxHeartbeats 1000000 in
set_option maxRecDepth 100000 in
theorem bnew_any (w : World) (bits probes : Int) : Calls Tryz.prog 27 #[.int .i64 bits, .int .i64 probes] w (RetBNew w bits probes) := by
  by_cases h1 : bits < 0
  · go_enter Tryz.func27, Tryz.ntmps27
    go_wp2
    go_ret2
    exact .inl ⟨by omega, rfl, rfl⟩
  by_cases h2 : 1048576 < bits
  · go_enter Tryz.func27, Tryz.ntmps27
    go_wp2
    go_ret2
    exact .inl ⟨by omega, rfl, rfl⟩
  by_cases h3 : probes < 0
  · go_enter Tryz.func27, Tryz.ntmps27
    go_wp2
    go_ret2
    exact .inl ⟨by omega, rfl, rfl⟩
  by_cases h4 : 30 < probes
  · go_enter Tryz.func27, Tryz.ntmps27
    go_wp2
    go_ret2
    exact .inl ⟨by omega, rfl, rfl⟩
  obtain ⟨m, rfl⟩ : ∃ m : Nat, bits = m := ⟨bits.toNat, by omega⟩
  obtain ⟨n, rfl⟩ : ∃ n : Nat, probes = n := ⟨probes.toNat, by omega⟩
  have g1 : m ≤ 1048576 := by omega
  have g2 : n ≤ 30 := by omega
  clear h1 h2 h3 h4
  obtain ⟨C, hC, hmk⟩ := make_any (P := Tryz.prog) (enc := fun y : Nat => [byV y]) (k := 1) (fun _ => rfl) 0 44 5 1 Tryz.underlying44 (by kernel_rfl) ((m + 7) / 8) (by omega) (by omega)
  have hdv : ((m : Int) + 7) / 8 = (((m + 7) / 8 : Nat) : Int) := by omega
  have hC2 : C.toList = (List.replicate ((m + 7) / 8) 0).map byV := by rw [hC]; exact flat_one byV _
  have HC := Lib.hid hC2
  generalize hz : (m + 7) / 8 = z at *
  have Hz := Lib.hid hz
  clear hz hC hC2
  go_enter Tryz.func27, Tryz.ntmps27
  go_wp2
  go_ret2
  refine .inr ⟨m, n, rfl, rfl, g1, g2, w.heap.size + 1, w.heap.size, z, rfl, ?_, Nat.le_refl _, Nat.lt_succ_self _, by simp, ((Below.refl _ _).alloc (Nat.le_refl _) _).alloc (by simp) _⟩
  have hok := SumOk.zero m
  rw [Hz.out] at hok ⊢
  have h1 := (Blk.new w C 5).below (((Below.refl _ _).alloc (Nat.le_refl _) (.cells #[.slice (some ⟨w.heap.size, 0, none⟩) z z, .int .i64 m, .int .i64 n] 95)))
  rw [HC.out] at h1
  have h2 := Blk.new (w.alloc (.cells C 5)) #[.slice (some ⟨w.heap.size, 0, none⟩) z z, .int .i64 m, .int .i64 n] 95
  rw [show (w.alloc (.cells C 5)).heap.size = w.heap.size + 1 by simp] at h2
  exact { blk := by rw [List.length_replicate]; exact h2, row := h1, ne := by omega, cap := by rw [List.length_replicate]; omega, ok := hok, bits := g1, probes := g2 }
end Go.Proofs.YtnfbchhbcinloaaGreat

/- The walk over Shelf. -/
namespace Go.Proofs.YtnfbchhbcinloaaGreat
open Go.RowKit Go.XR Go.IndexPure
/-- what the rows of a shelf come to, of its own map's keys -/
theorem shelf_perm {D : List RowT} {K : List (KeyT × Unit)} {R : List RowT} (s : Int) (hD : (D.map (·.1)).Nodup) (hK : (K.map (·.1)).Nodup) (hKD : ∀ k, (aget K k).isSome = true ↔ ∃ v, aget D k = some v ∧ v.shelf = s)
    (hR : (R.map (·.1)).Perm (K.map (·.1))) (hv : ∀ r ∈ R, aget D r.1 = some r.2) : R.Perm (D.filter (onS s)) := by
  have hRn : (R.map (·.1)).Nodup := hR.nodup_iff.2 hK
  have hRn2 : R.Nodup := List.Pairwise.of_map (·.1) (fun a b h e => h (by rw [e])) hRn
  have hDn2 : D.Nodup := List.Pairwise.of_map (·.1) (fun a b h e => h (by rw [e])) hD
  refine (List.perm_ext_iff_of_nodup hRn2 (hDn2.sublist List.filter_sublist)).2 fun r => ?_
  have hmem : ∀ k, k ∈ K.map (·.1) ↔ (aget K k).isSome = true := fun k => by
    constructor
    · intro h
      obtain ⟨⟨k', u⟩, h1, rfl⟩ := List.mem_map.1 h
      rw [(aget_mem hK).2 h1]; rfl
    · intro h
      obtain ⟨u, hu⟩ := Option.isSome_iff_exists.1 h
      exact List.mem_map.2 ⟨(k, u), (aget_mem hK).1 hu, rfl⟩
  rw [List.mem_filter]
  constructor
  · intro h
    have h1 := hv r h
    have h2 : r.1 ∈ K.map (·.1) := hR.mem_iff.1 (List.mem_map.2 ⟨r, h, rfl⟩)
    obtain ⟨v, h3, h4⟩ := (hKD r.1).1 ((hmem r.1).1 h2)
    rw [h1] at h3
    injection h3 with h3
    refine ⟨(aget_mem hD).1 h1, ?_⟩
    unfold onS
    rw [h3]
    exact decide_eq_true h4
  · rintro ⟨h1, h2⟩
    have h3 := (aget_mem hD).2 (show (r.1, r.2) ∈ D from h1)
    have h4 : (aget K r.1).isSome = true := (hKD r.1).2 ⟨r.2, h3, of_decide_eq_true h2⟩
    have h5 : r.1 ∈ R.map (·.1) := hR.mem_iff.2 ((hmem r.1).2 h4)
    obtain ⟨q, hq, he⟩ := List.mem_map.1 h5
    have h6 := hv q hq
    have he' : q.1 = r.1 := he
    rw [he', h3] at h6
    injection h6 with h6
    have : q = r := Prod.ext he' h6.symm
    rw [← this]; exact hq
theorem keys_le {D : List RowT} {K : List (KeyT × Unit)} {s : Int} (hK : (K.map (·.1)).Nodup) (hKD : ∀ k, (aget K k).isSome = true ↔ ∃ v, aget D k = some v ∧ v.shelf = s) (hD : (D.map (·.1)).Nodup) : K.length ≤ D.length := by
  have h := hK.length_le_of_subset (l₂ := D.map (·.1)) fun k hk => by
    obtain ⟨⟨k', u⟩, h1, rfl⟩ := List.mem_map.1 hk
    have h2 : (aget K k').isSome = true := by rw [(aget_mem hK).2 h1]; rfl
    obtain ⟨v, hv, _⟩ := (hKD k').1 h2
    exact List.mem_map.2 ⟨(k', v), (aget_mem hD).1 hv, rfl⟩
  simpa using h
structure ShR (p pb kb : Nat) (k : KeyT) (W : World) : Prop where
  c0 : W.cell? ⟨p, 0, none⟩ = some (.map (some pb))
  key : At W kb 0 (keyC k)
set_option maxHeartbeats 1000000 in
set_option maxRecDepth 100000 in
theorem shelf_none (w : World) (p pb tb sb : Nat) (Sh : List (I64 × Nat)) (hB : Blk w p [.map (some pb), .map (some tb), .map (some sb)]) (hS : GM i64V mapV w sb Sh) (s : I64) (hs : aget Sh s = none) :
    Calls Tryz.prog 55 #[.pointer (some ⟨p, 0, none⟩), .int .i64 s.1] w (RetRows w []) := by
  have c2 := hB.cell (i := 2) rfl
  have HS := Lib.hid hS
  have Hv : Hid (((aget Sh s).map mapV).getD (.map none) = .map none) := by unfold Hid; rw [hs]; rfl
  clear hB hS hs
  go_enter Tryz.func55, Tryz.ntmps55
  go_wp2_with (first | (refine wpList_plain rfl (fun K hK => ?_); refine Go.XR.wp_gm_lookup (.tmp 12) (.tmp 13) 102 rfl keysI64 Tryz.underlying102 (.map none) (fun w => Tryz.zeroValue113 w) s _ rfl rfl HS.out Hv.out ?_; refine hK _ _ ?_; clear hK K) | (refine wpList_range_none rfl (.tmp 14) 113 rfl Tryz.underlying113 rfl ?_))
  obtain ⟨W1, hW1⟩ : ∃ W1, w.alloc (.mapIter none 0 #[] 0) = W1 := ⟨_, rfl⟩
  obtain ⟨ib, hib⟩ : ∃ ib, w.heap.size = ib := ⟨_, rfl⟩
  have Hit : Hid (W1.heap[ib]? = some (.mapIter none 0 #[] 0)) := by unfold Hid; rw [← hW1, ← hib]; exact (MapKept.heap_alloc w _).1
  have Hb : Hid (Below w.heap.size w W1) := by unfold Hid; rw [← hW1]; exact (Below.refl _ _).alloc (Nat.le_refl _) _
  rw [hW1, hib]
  clear hW1 hib c2
  go_frame
  go_loopg [5] 0 (fun n out wr => wr = W1 ∧ out = .slice none 0 0)
  case atStart => exact ⟨rfl, rfl⟩
  case round =>
    obtain ⟨rfl, rfl⟩ := hrel
    go_wp2_with (first | (refine wpList_next_none rfl (.tmp 15) rfl ib rfl Hit.out ?_) | fail)
    refine (sort_none wr none 0 _).mono ?_
    rintro e w3 ⟨rfl, rfl⟩
    go_wp2
    go_ret
    exact ⟨none, 0, rfl, .inl rfl, (fun x hx => by cases hx), Hb.out⟩
set_option maxHeartbeats 1000000 in
set_option maxRecDepth 100000 in
theorem shelf_some (w : World) (p pb tb sb m : Nat) (D : List RowT) (Sh : List (I64 × Nat)) (K0 : List (KeyT × Unit)) (hB : Blk w p [.map (some pb), .map (some tb), .map (some sb)]) (hG : GM keyV placeV w pb D) (hS : GM i64V mapV w sb Sh) (s : I64) (hs : aget Sh s = some m) (hM : GM keyV unitV w m K0)
    (hKD : ∀ k, (aget K0 k).isSome = true ↔ ∃ v, aget D k = some v ∧ v.shelf = s.1) (hlen : D.length ≤ 2^20) :
    Calls Tryz.prog 55 #[.pointer (some ⟨p, 0, none⟩), .int .i64 s.1] w fun e w' => ∃ L, ShelfOf D s.1 L ∧ RetRows w L e w' := by
  have c2 := hB.cell (i := 2) rfl
  have HS := Lib.hid hS
  have HM := Lib.hid hM
  have HG := Lib.hid hG
  have HBk := Lib.hid hB
  have Hv : Hid (((aget Sh s).map mapV).getD (.map none) = .map (some m)) := by unfold Hid; rw [hs]; rfl
  have Hnd := Lib.hid (GM.nodupK hG)
  have Hnk : Hid ((K0.map (·.1)).Nodup) := GM.nodup (P := Tryz.prog) keysKey hM
  have HKD := Lib.hid hKD
  have hKl : K0.length ≤ 2^20 := Nat.le_trans (keys_le Hnk.out hKD Hnd.out) hlen
  have hml := hM.lt
  have hpbl := hG.lt
  have hppl := hB.lt
  obtain ⟨zk, hzk, hzk2⟩ := zero_key
  obtain ⟨zr, hzr, hzr2⟩ := zero_row
  have Hzk := Lib.hid hzk2
  have Hzr := Lib.hid hzr2
  have Hzp : Hid (∀ w, (zeroValue 40).run Tryz.prog w = .ok (.agg #[.int .i64 0, .int .i64 0]) w) := fun w => Tryz.zeroValue40 w
  clear hB hS hs hG hM hKD hzk2 hzr2
  go_enter Tryz.func55, Tryz.ntmps55
  go_wp2_with (first | (refine wpList_plain rfl (fun K hK => ?_); refine Go.XR.wp_gm_lookup (.tmp 12) (.tmp 13) 102 rfl keysI64 Tryz.underlying102 (.map none) (fun w => Tryz.zeroValue113 w) s _ rfl rfl HS.out Hv.out ?_; refine hK _ _ ?_; clear hK K) | (refine wpList_gm_range rfl (.tmp 14) 113 rfl Tryz.underlying113 rfl HM.out (fun w1 hgr hb1 hsz => Go.XR.stop (fun X hX => ?_))))
  refine hX.out ?_
  clear hX X
  have HGR1 := Lib.hid hgr
  have Hb1 := Lib.hid hb1
  clear hgr hb1
  obtain ⟨ib, hib⟩ : ∃ ib, w.heap.size = ib := ⟨_, rfl⟩
  have Hib := Lib.hid hib
  rw [hib] at HGR1 hml hpbl hppl hsz ⊢
  clear hib c2
  go_wp2
  go_frame
  go_loopg [5] K0.length (fun n out wr => ∃ (L : List RowT) (left : List (KeyT × Unit)) (a : Option Addr) (c : Nat), out = .slice a L.length c ∧ Hid (n = left.length ∧ Below ib w wr ∧ GR keyV unitV wr m ib K0 left ∧ (L.map (·.1) ++ left.map (·.1)).Perm (K0.map (·.1)) ∧ (∀ r ∈ L, aget D r.1 = some r.2) ∧ w1.heap.size ≤ wr.heap.size ∧ wr.ownsRow w1.heap.size 42 35 (.slice a L.length c) L.length (L.flatMap rowL)))
  case atStart => exact ⟨[], K0, none, 0, rfl, rfl, by have := Hb1.out; rwa [Hib.out] at this, HGR1.out, List.Perm.refl _, (fun r hr => by cases hr), Nat.le_refl _, rfl, .inl ⟨rfl, rfl⟩⟩
  case round =>
    obtain ⟨L, left, a, c, rfl, hr⟩ := hrel
    have hgn := hr.out.1
    have Hb := Lib.hid hr.out.2.1
    have HGR := Lib.hid hr.out.2.2.1
    have HP := Lib.hid hr.out.2.2.2.1
    have HV := Lib.hid hr.out.2.2.2.2.1
    have hsz1 := hr.out.2.2.2.2.2.1
    have HO := Lib.hid hr.out.2.2.2.2.2.2
    have hLl : L.length ≤ 2^20 := by have := HP.out.length_eq; rw [List.length_append, List.length_map, List.length_map, List.length_map] at this; omega
    clear hr
    go_wp2_with (refine wpList_gr_next rfl (.tmp 15) rfl keysKey ib left rfl HGR.out (fun hdone => Go.XR.stop (fun X hX => ?_)) (fun k v w2 hm hgr2 hgb hsz2 hen => Go.XR.stop (fun X hX => ?_)))
    · refine hX.out ?_
      clear hX X
      have HP2 : Hid ((L.map (·.1)).Perm (K0.map (·.1))) := by have := HP.out; rwa [hdone, List.map_nil, List.append_nil] at this
      have HP3 : Hid (L.Perm (D.filter (onS s.1))) := shelf_perm s.1 Hnd.out Hnk.out HKD.out HP2.out HV.out
      clear hdone HGR HP
      have HndL : Hid ((L.map (·.1)).Nodup) := HP2.out.nodup_iff.2 Hnk.out
      cases a with
      | none =>
        obtain ⟨hL0, hc0⟩ := owns_nil HO.out
        obtain rfl := List.eq_nil_of_length_eq_zero hL0
        clear hL0
        subst hc0
        go_wp2_with fail
        refine (sort_none wr none 0 _).mono ?_
        rintro e w3 ⟨rfl, rfl⟩
        go_wp2
        go_ret
        exact ⟨[], ⟨HP3.out, List.Pairwise.nil⟩, none, 0, rfl, .inl rfl, (fun x hx => by cases hx), by rw [Hib.out]; exact Hb.out⟩
      | some a =>
        obtain ⟨g, rfl⟩ : ∃ g, a = ⟨g, 0, none⟩ := by
          rcases HO.out.2 with ⟨h1, _⟩ | ⟨g', cap, cur, h1, _⟩
          · cases h1
          · injection h1 with h5; injection h5 with h6; exact ⟨g', h6⟩
        obtain ⟨rest, hblk, hg⟩ := own_blk HO.out
        have Hblk := Lib.hid hblk
        clear hblk
        go_wp2_with fail
        refine (sortS_any wr g c L rest Hblk.out (by omega)).mono ?_
        rintro e w3 ⟨rfl, L', hp, hs, hrow, hbut⟩
        have hnd' : (L'.map (·.1)).Nodup := (hp.map (fun r : RowT => r.1)).nodup_iff.2 HndL.out
        have hll := hp.length_eq
        have Hend : Hid (∃ M, ShelfOf D s.1 M ∧ RetRows w M (.returned (.slice (some ⟨g, 0, none⟩) L.length c)) w3) := by
          refine ⟨L', ⟨hp.trans HP3.out, strict_of (·.1) cfS cfS_swap (fun x y h => ((cfS_zero x y).1 h).2) hnd' hs⟩, some ⟨g, 0, none⟩, c, by rw [hll], hrow, fun x hx => ?_, ?_⟩
          · injection hx with hx; subst hx; rw [Hib.out]; show ib ≤ g; omega
          · rw [Hib.out]
            exact Hb.out.trans (hbut.below (by omega) (by intro i hi; rw [List.mem_singleton] at hi; subst hi; omega))
        clear hp hs hrow hbut hnd' hll
        go_wp2
        go_ret
        exact Hend.out
    · refine hX.out ?_
      clear hX X
      have Hen := Lib.hid hen
      have HGR2 := Lib.hid hgr2
      have Hb2 : Hid (Below ib w w2) := Hb.out.grown hgb (by omega) (fun k hk => by cases hk; exact Nat.le_refl _)
      have HO2 : Hid (w2.ownsRow w1.heap.size 42 35 (.slice a L.length c) L.length (L.flatMap rowL)) := HO.out.kept hgb (by
        cases ha : a with
        | none => exact .inl rfl
        | some x =>
          right
          intro e
          have e1 : x.block = ib := by simpa [Value.ownBlock] using e
          obtain ⟨h1, _⟩ := HO.out.lt x.block (by rw [ha]; rfl)
          omega)
      have hperm := adel_perm (HGR.out.sub.map (·.1) |>.nodup Hnk.out) hm
      have Hmeas : Hid ((adel left k).length < left.length) := by
        have := hperm.length_eq; rw [List.length_cons] at this; unfold Hid; omega
      obtain ⟨pv, hpv, _⟩ : ∃ v, aget D k = some v ∧ v.shelf = s.1 := (HKD.out k).1 (by
        have : (k, v) ∈ K0 := HGR.out.sub.subset hm
        rw [(aget_mem Hnk.out).2 this]; rfl)
      have Hpv : Hid (((aget D k).map placeV).getD (.agg #[.int .i64 0, .int .i64 0]) = placeV pv) := by unfold Hid; rw [hpv]; rfl
      have HPn : Hid (((L ++ [(k, pv)]).map (·.1) ++ (adel left k).map (·.1)).Perm (K0.map (·.1))) := by
        refine List.Perm.trans ?_ HP.out
        rw [List.map_append, List.append_assoc]
        exact List.Perm.append_left _ (hperm.map (fun q : KeyT × Unit => q.1)).symm
      have HVn : Hid (∀ r ∈ L ++ [(k, pv)], aget D r.1 = some r.2) := fun r hr => by
        rcases List.mem_append.1 hr with h | h
        · exact HV.out r h
        · rw [List.mem_singleton] at h; subst h; exact hpv
      have hsz3 : w1.heap.size ≤ w2.heap.size := by omega
      have hiw : ib ≤ w1.heap.size := by omega
      have hmw : m < w1.heap.size := by omega
      have hgn2 := Lib.hid hgn
      clear hen hgr2 hm hperm hgb HGR HO Hb hsz2 hgn hpv
      go_wp2_with (first | (refine wpList_entry rfl (.tmp 15) rfl ib rfl _ Hen.out ?_) | (refine wpList_alloc_new rfl 29 rfl zk (Hzk.out _) ?_) | (refine opIs (X := .store 29 (.tmp 6) (.tmp 19)) rfl ?_; refine wpList_store_new rfl 29 (.tmp 6) (.tmp 19) rfl zk (keyC k) 29 rfl rfl (by rw [hzk, keyC_size]) (one_keyC k) (keySize k) ?_) | fail)
      have hbA : Below w1.heap.size w2 (w2.alloc (.cells (keyC k) 29)).drew := ((Below.refl _ _).alloc hsz3 _).drew
      have hkA : At (w2.alloc (.cells (keyC k) 29)).drew w2.heap.size 0 (keyC k) := At.drew (At.new _ _ _)
      obtain ⟨kb, hkb⟩ : ∃ kb, w2.heap.size = kb := ⟨_, rfl⟩
      rw [hkb] at hkA ⊢
      have HO3 : Hid ((w2.alloc (.cells (keyC k) 29)).drew.ownsRow w1.heap.size 42 35 (.slice a L.length c) L.length (L.flatMap rowL)) := (HO2.out.alloc _).drew
      have hsd : (w2.alloc (.cells (keyC k) 29)).drew.heap.size = w2.heap.size + 1 := by show (w2.alloc _).heap.size = _; simp
      have hwr : ∃ W3, (w2.alloc (.cells (keyC k) 29)) = W3 := ⟨_, rfl⟩
      obtain ⟨W3, hW3⟩ := hwr
      rw [hW3] at hbA hkA HO3 hsd ⊢
      clear hW3
      have hsz4 : w1.heap.size ≤ W3.drew.heap.size := by omega
      have hsz5 : w1.heap.size ≤ W3.heap.size := hsz4
      have HbA := Lib.hid hbA
      have HbI : Hid (Below ib w W3.drew) := Hb2.out.trans (hbA.mono hiw)
      have HGd : Hid (GM keyV placeV W3.drew pb D) := HG.out.block (HbI.out.block pb hpbl)
      have HShR : Hid (ShR p pb kb k W3.drew) := ⟨HbI.out.cell (p := ⟨p, 0, none⟩) hppl |>.trans (HBk.out.cell (i := 0) rfl), hkA⟩
      have hkl : kb < W3.drew.heap.size := by omega
      have hplt : p < W3.drew.heap.size := by omega
      clear hbA hkA hsd hkb
      refine Go.XR.region_sched ((ShR p pb kb k)) [(0, true), (1, true), (2, true), (3, true), (4, true), (5, true), (6, true), (7, false), (8, true), (9, false), (10, false), (11, false)] [10, 11] Tryz.mixed (by kernel_rfl) (by kernel_rfl) (by kernel_rfl) ?_
      simp only [List.map_cons, List.map_nil, List.getElem?_cons_succ, List.getElem?_cons_zero]
      repeat (first | (refine Go.XR.S_light rfl rfl HShR.out ?_ (fun w' hS K hK => ?_) (fun K hK => ?_); rotate_left 1; (have s0 := hS.c0; (first | (first | (refine Go.XR.wp_load_at 29 (.tmp 6) rfl kb 0 rfl (keyC k) hS.key _ Tryz.underlying29 rfl (keySize k) ?_) | (refine wp_build_row (.tmp 21) (.tmp 27) rfl k pv rfl rfl ?_)) | go_step); exact hK); go_step; refine hK _ ?_; clear hK K))
      refine Go.XR.S_heavy (fun K hK => ?_)
      refine Go.XR.wp_gm_lookup _ _ 100 rfl keysKey Tryz.underlying100 (.agg #[.int .i64 0, .int .i64 0]) Hzp.out k _ rfl rfl HGd.out Hpv.out ?_
      refine hK _ _ ⟨fun _ => HShR.out, ?_⟩
      clear hK K
      repeat (first | (refine Go.XR.S_light rfl rfl HShR.out ?_ (fun w' hS K hK => ?_) (fun K hK => ?_); rotate_left 1; (have s0 := hS.c0; (first | (first | (refine Go.XR.wp_load_at 29 (.tmp 6) rfl kb 0 rfl (keyC k) hS.key _ Tryz.underlying29 rfl (keySize k) ?_) | (refine wp_build_row (.tmp 21) (.tmp 27) rfl k pv rfl rfl ?_)) | go_step); exact hK); go_step; refine hK _ ?_; clear hK K))
      refine Go.XR.S_heavy (fun K hK => ?_)
      refine wp_build_one 60 (.tmp 28) rfl 42 35 Tryz.underlying60 (by kernel_rfl) (by omega) (by omega) _ (Hzr.out _) (rowC (k, pv)) rfl (rowC_size _) ?_
      refine hK _ _ ⟨fun _ => ⟨by rw [World.cell?_alloc_old _ _ _ (Nat.ne_of_lt hplt)]; exact HShR.out.c0, HShR.out.key.alloc _⟩, ?_⟩
      clear hK K
      refine Go.XR.S_heavy (fun K hK => ?_)
      refine append_enc (P := Tryz.prog) rowL 35 56 rowL_length one_rowL 42 Tryz.underlying60 (by kernel_rfl) (by decide) w1.heap.size a c L rfl (HO3.out.alloc _) (some ⟨W3.drew.heap.size, 0, none⟩) 1 [(k, pv)] rfl (by rw [List.flatMap_cons, List.flatMap_nil, List.append_nil]; exact Row.new _ _ _) (fun e => by cases e) (by simp; omega) (by unfold maxLen; simp; omega) (by simp; omega) ?_
      intro a3 c3 w3 ho3 hb3 _ hg3
      have Ho3 := Lib.hid ho3
      have hbw : Below w1.heap.size w2 w3 := HbA.out.trans (((Below.refl _ _).alloc hsz4 _).trans hb3)
      have Hbw := Lib.hid hbw
      clear ho3 hb3 hg3 hbw
      obtain ⟨L3, hL3⟩ : ∃ L3, L ++ [(k, pv)] = L3 := ⟨_, rfl⟩
      rw [hL3] at HPn HVn Ho3 ⊢
      clear hL3
      go_step
      refine hK _ _ ⟨fun h => by simp at h, ?_⟩
      clear hK K
      repeat (first | (refine Go.XR.S_heavy (fun K hK => ?_); go_step; refine hK _ _ ⟨fun h => by simp at h, ?_⟩; clear hK K))
      refine Go.XR.S_nil ?_
      go_wp2
      go_roundg (adel left k).length
      case measure => have := hgn2.out; have := Hmeas.out; omega
      case rel => exact ⟨L3, adel left k, a3, c3, rfl, rfl, Hb2.out.trans (Hbw.out.mono hiw), HGR2.out.block (Hbw.out.block m hmw) (Hbw.out.block ib (by omega)), HPn.out, HVn.out, Nat.le_trans hsz3 Hbw.out.size, Ho3.out⟩
end Go.Proofs.YtnfbchhbcinloaaGreat

/- All rows, and those of a shelf, of an index of the call's own. -/
namespace Go.Proofs.YtnfbchhbcinloaaGreat
open Go.RowKit Go.XR Go.IndexPure
theorem own_all {B : Nat} {w : World} {p : Nat} {D : List RowT} (h : Own B w p D) (hlen : D.length ≤ 2^20) :
    Calls Tryz.prog 52 #[.pointer (some ⟨p, 0, none⟩)] w fun e w' => ∃ L, AllOf D L ∧ RetRows w L e w' := by
  obtain ⟨F, ⟨pb, tb, sb, T, Sh, L, h1, h2⟩, h3⟩ := h
  exact all_any w p pb tb sb D h1.blk h1.places hlen
theorem own_shelf {B : Nat} {w : World} {p : Nat} {D : List RowT} (h : Own B w p D) (hlen : D.length ≤ 2^20) (s : Int) (hs : -9223372036854775808 ≤ s ∧ s ≤ 9223372036854775807) :
    Calls Tryz.prog 55 #[.pointer (some ⟨p, 0, none⟩), .int .i64 s] w fun e w' => ∃ L, ShelfOf D s L ∧ RetRows w L e w' := by
  obtain ⟨F, ⟨pb, tb, sb, T, Sh, L, h1, h2⟩, h3⟩ := h
  cases hsh : aget Sh ⟨s, hs⟩ with
  | none =>
    refine (shelf_none w p pb tb sb Sh h1.blk h1.shelves ⟨s, hs⟩ hsh).mono ?_
    intro e w' h
    refine ⟨[], ⟨?_, List.Pairwise.nil⟩, h⟩
    have : D.filter (onS s) = [] := by
      rw [List.filter_eq_nil_iff]
      intro r hr hon
      have h4 := (aget_mem h2.nd).2 (show (r.1, r.2) ∈ D from hr)
      obtain ⟨m, hm, _⟩ := (h2.sh ⟨s, hs⟩ r.1).2 ⟨r.2, h4, of_decide_eq_true hon⟩
      rw [hsh] at hm; cases hm
    rw [this]
  | some m =>
    refine shelf_some w p pb tb sb m D Sh (L m) h1.blk h1.places h1.shelves ⟨s, hs⟩ hsh (h1.shelf _ _ hsh).2.1 (fun k => ?_) hlen
    rw [← h2.sh ⟨s, hs⟩ k]
    constructor
    · exact fun h => ⟨m, hsh, h⟩
    · rintro ⟨n, hn, hc⟩
      rw [hsh] at hn; injection hn with hn; subst hn; exact hc
theorem Own.rng {B : Nat} {w : World} {p : Nat} {D : List RowT} (h : Own B w p D) : ∀ k v, aget D k = some v → PlaceOk v := by
  obtain ⟨F, ⟨pb, tb, sb, T, Sh, L, h1, h2⟩, h3⟩ := h; exact h2.rng
theorem Own.nd {B : Nat} {w : World} {p : Nat} {D : List RowT} (h : Own B w p D) : (D.map (·.1)).Nodup := by
  obtain ⟨F, h1, h3⟩ := h; exact h1.nd
theorem AllOf.ok {D L : List RowT} (h : AllOf D L) (hD : (D.map (·.1)).Nodup) (hr : ∀ k v, aget D k = some v → PlaceOk v) : RowsOk L := fun r hm => hr r.1 r.2 ((aget_mem hD).2 (h.1.mem_iff.1 hm))
theorem ShelfOf.ok {D L : List RowT} {s : Int} (h : ShelfOf D s L) (hD : (D.map (·.1)).Nodup) (hr : ∀ k v, aget D k = some v → PlaceOk v) : RowsOk L := fun r hm => hr r.1 r.2 ((aget_mem hD).2 (List.mem_filter.1 (h.1.mem_iff.1 hm)).1)
theorem ShelfOf.len {D L : List RowT} {s : Int} (h : ShelfOf D s L) : L.length ≤ D.length := by rw [h.1.length_eq]; exact List.length_filter_le _ _
theorem cfA_irrefl (x y : RowT) (h : cfA x y < 0) : x ≠ y := by
  rintro rfl
  have := cfK_swap x.1 x.1
  unfold cfA at h; omega
theorem AllOf.nodup {D L : List RowT} (h : AllOf D L) : L.Nodup := h.2.imp fun {x y} h => cfA_irrefl x y h
theorem ShelfOf.nodup {D L : List RowT} {s : Int} (h : ShelfOf D s L) : L.Nodup := h.2.imp fun {x y} h => by
  rintro rfl
  have := cfS_swap x x
  omega
/-- how often something stands in a list -/
def cnt {α : Type} [DecidableEq α] (l : List α) (x : α) : Nat := (l.filter fun y => decide (y = x)).length
theorem cnt_step {α : Type} [DecidableEq α] (l : List α) (x : α) {q : Nat} (hq : q < l.length) : cnt (l.take (q + 1)) x = cnt (l.take q) x + if l[q] = x then 1 else 0 := by
  unfold cnt
  rw [List.take_succ_eq_append_getElem hq, List.filter_append, List.length_append]
  congr 1
  by_cases h : l[q] = x
  · rw [if_pos h, List.filter_cons_of_pos (by simpa using h)]; rfl
  · rw [if_neg h, List.filter_cons_of_neg (by simpa using h)]; rfl
theorem cnt_le {α : Type} [DecidableEq α] (l : List α) (x : α) : cnt l x ≤ l.length := List.length_filter_le _ _
theorem cnt_one {α : Type} [DecidableEq α] {l : List α} {x : α} (h : l.Nodup) (hm : x ∈ l) : cnt l x = 1 := by
  induction l with
  | nil => cases hm
  | cons y l ih =>
    rw [List.nodup_cons] at h
    unfold cnt
    by_cases e : y = x
    · rw [List.filter_cons_of_pos (by simpa using e), List.length_cons]
      have : l.filter (fun y => decide (y = x)) = [] := by
        rw [List.filter_eq_nil_iff]
        intro z hz hzx
        have : z = x := by simpa using hzx
        exact h.1 (by rw [e, ← this]; exact hz)
      rw [this]; rfl
    · rw [List.filter_cons_of_neg (by simpa using e)]
      exact ih h.2 (by rcases List.mem_cons.1 hm with h1 | h1; exact absurd h1.symm e; exact h1)
end Go.Proofs.YtnfbchhbcinloaaGreat

/- A region whose order is drawn, where two operations that change the world stand ready at once: both orders are walked. -/
namespace Go.XR
section
variable {P : Program} {ops : Array Oper} {Q Q' : Exit → Act → World → Prop} {md : Region.Mode} {S : World → Prop} {sd : List Nat}
theorem wp_monoQ {o : Oper} {a : Act} {w : World} {K K' : Act → World → Prop} (h : ∀ a w, K a w → K' a w) (hp : ∀ c a w, Q (.panic c) a w → Q' (.panic c) a w) (ho : ∀ a w, Q .outgrown a w → Q' .outgrown a w)
    (hh : o.wp P a w K Q) : o.wp P a w K' Q' := by
  unfold Oper.wp at *
  generalize (execOp a.eval o).run P w = r at *
  cases r with
  | ok n w' =>
    cases n <;> simp only [Oper.upon] at hh ⊢ <;>
      first
        | exact h _ _ hh
        | exact hh
        | (refine hh.mono ?_
           intro e w'' he
           cases e with
           | returned v => exact h _ _ he
           | panicked c => exact hp _ _ _ he
           | outgrown => obtain ⟨a, w, h1⟩ := he; exact ⟨a, w, ho _ _ h1⟩)
        | exact hh.mono fun v w'' he => h _ _ he
  | halt x w' =>
    cases x <;> simp only [Oper.upon] at hh ⊢ <;> first | exact hp _ _ _ hh | exact hh

/-- what stands where two are ready -/
def Fork (Q : Exit → Act → World → Prop) (A B : Act → World → Prop) : Exit → Act → World → Prop
  | .normal, a, w => A a w ∧ B a w
  | e, a, w => Q e a w

/-- a schedule up to a fork -/
def schedF (md : Region.Mode) (ops : Array Oper) (sd : List Nat) (i j : Nat) (r1 r2 : List (Nat × Bool)) : List (Nat × Bool) → Array Bool → Bool
  | [], listed => (Region.ready md ops listed == [i, j]) && (schedB md ops sd r1 (listed.setIfInBounds i true) && schedB md ops sd r2 (listed.setIfInBounds j true))
  | (i', true) :: r, listed => (Region.ready md ops listed).contains i' && (Region.free md ops listed i' && ((sd.all fun j => reach md ops 12 j i') && schedF md ops sd i j r1 r2 r (listed.setIfInBounds i' true)))
  | (i', false) :: r, listed => (Region.ready md ops listed == [i']) && schedF md ops sd i j r1 r2 r (listed.setIfInBounds i' true)

theorem X_of_F (hsel : Region.noSelect ops = true) {i j : Nat} {r1 r2 : List (Nat × Bool)} (hlen : r1.length = r2.length) : ∀ (l : List (Nat × Bool)) (listed : Array Bool) (a : Act) (w : World),
    Closed md ops listed → schedF md ops sd i j r1 r2 l listed = true →
    wpT P ops (NoPanic (Fork Q (fun a w => wpT P ops (NoPanic Q) S sd (((i, false) :: r1).map fun p => (p.1, p.2, ops[p.1]?)) a w) (fun a w => wpT P ops (NoPanic Q) S sd (((j, false) :: r2).map fun p => (p.1, p.2, ops[p.1]?)) a w))) S sd (l.map fun p => (p.1, p.2, ops[p.1]?)) a w →
    wpAnyX P md ops (NoPanic Q) S sd (l.length + (r1.length + 1)) listed a w
  | [], listed, a, w, hcl, hb, h => by
    simp only [schedF, Bool.and_eq_true, beq_iff_eq] at hb
    obtain ⟨hr, h1, h2⟩ := hb
    obtain ⟨hA, hB⟩ : _ ∧ _ := h
    rw [List.length_nil, Nat.zero_add]
    refine ⟨fun h0 => absurd (hr ▸ h0 : [i, j] = []) (by simp), fun q hq => ?_⟩
    have hmq := hcl.set hq
    rw [hr] at hq
    have one : ∀ (k : Nat) (r : List (Nat × Bool)), r.length = r1.length → Closed md ops (listed.setIfInBounds k true) → schedB md ops sd r (listed.setIfInBounds k true) = true → wpT P ops (NoPanic Q) S sd (((k, false) :: r).map fun p => (p.1, p.2, ops[p.1]?)) a w →
        wpOp P ops (NoPanic Q) k (fun a' w' => (sd.contains k = false → S w') ∧ wpAnyX P md ops (NoPanic Q) S sd r1.length (listed.setIfInBounds k true) a' w') a w := fun k r hl hm hs h => by
      simp only [List.map_cons] at h
      unfold wpOp
      cases ho : ops[k]? with
      | none => rw [ho] at h; exact h.elim
      | some o =>
        rw [ho] at h
        simp only [wpT] at h ⊢
        rw [← hl]
        split
        · rename_i hw
          rw [if_pos hw] at h
          exact .inl (Oper.wp_mono (fun a' w' h' => ⟨h'.1, X_of_T hsel (fun _ _ _ _ h => h.elim) r _ _ _ hm hs h'.2⟩) h)
        · rename_i hw
          rw [if_neg hw] at h
          exact ⟨h.1, X_of_T hsel (fun _ _ _ _ h => h.elim) r _ _ _ hm hs h.2⟩
    rcases List.mem_cons.1 hq with rfl | hq
    · exact one _ r1 rfl hmq h1 hA
    · rw [List.mem_singleton] at hq
      subst hq
      exact one _ r2 hlen.symm hmq h2 hB
  | (i', true) :: r, listed, a, w, hcl, hb, h => by
    simp only [schedF, Bool.and_eq_true] at hb
    obtain ⟨hr, hf, hs, hrest⟩ := hb
    simp only [List.map_cons] at h
    cases ho : ops[i']? with
    | none => rw [ho] at h; exact h.elim
    | some o =>
      rw [ho] at h
      obtain ⟨v, hy, hS, hn⟩ := h
      rw [List.length_cons, Nat.add_right_comm]
      refine wpAnyX_first ho (Region.noSelect_spec hsel) (fun c a w h => h.elim) (fun j hj => ?_) _ _ _ _ (Region.free_spec ho hf) hcl (by simpa using hr) hy hS (X_of_F hsel hlen r _ _ _ (hcl.set (by simpa using hr)) hrest hn)
      exact List.all_eq_true.1 hs j (by simpa using hj)
  | (i', false) :: r, listed, a, w, hcl, hb, h => by
    simp only [schedF, Bool.and_eq_true, beq_iff_eq] at hb
    obtain ⟨hr, hrest⟩ := hb
    rw [List.length_cons, Nat.add_right_comm]
    refine ⟨fun h0 => absurd (hr ▸ h0 : [i'] = []) (by simp), fun q hq => ?_⟩
    rw [hr] at hq
    obtain rfl : q = i' := by simpa using hq
    simp only [List.map_cons] at h
    have hm := hcl.set (i := q) (by rw [hr]; simp)
    unfold wpOp
    cases ho : ops[q]? with
    | none => rw [ho] at h; exact h.elim
    | some o =>
      rw [ho] at h
      simp only [wpT] at h ⊢
      split
      · rename_i hw
        rw [if_pos hw] at h
        refine .inl (wp_monoQ ?_ ?_ ?_ h)
        · intro a' w' h'
          exact ⟨h'.1, X_of_F hsel hlen r _ _ _ hm hrest h'.2⟩
        · intro c a w h; exact h.elim
        · intro a w h; exact h
      · rename_i hw
        rw [if_neg hw] at h
        exact ⟨h.1, X_of_F hsel hlen r _ _ _ hm hrest h.2⟩

/-- the region, walked by a schedule up to a fork, and by two behind it -/
theorem region_fork {id : Nat} {ops : List Oper} {a : Act} {w : World} (S : World → Prop) (l : List (Nat × Bool)) (i j : Nat) (r1 r2 : List (Nat × Bool)) (sd : List Nat)
    (hm : P.follows .mixedOrders = true) (hsel : Region.noSelect ops.toArray = true) (hn : (l.length + (r1.length + 1) == ops.length && r1.length == r2.length) = true)
    (hb : schedF .any ops.toArray sd i j r1 r2 l (Array.replicate ops.toArray.size false) = true)
    (h : wpT P ops.toArray (NoPanic (Fork Q (fun a w => wpT P ops.toArray (NoPanic Q) S sd (((i, false) :: r1).map fun p => (p.1, p.2, ops[p.1]?)) a w) (fun a w => wpT P ops.toArray (NoPanic Q) S sd (((j, false) :: r2).map fun p => (p.1, p.2, ops[p.1]?)) a w))) S sd (l.map fun p => (p.1, p.2, ops[p.1]?)) a w.drew) : (Code.region id ops.toArray true).wp P Q a w := by
  refine wp_region_noPanic (wp_region_any hm (wpAny_of_X (S := S) (sd := sd) _ _ _ _ ?_))
  rw [Bool.and_eq_true, beq_iff_eq, beq_iff_eq] at hn
  have e : ops.toArray.size = l.length + (r1.length + 1) := by simpa using hn.1.symm
  have := X_of_F (P := P) (Q := Q) (S := S) (w := w.drew) (md := .any) (sd := sd) hsel hn.2 l _ a (fun j oj _ hl => by simp [Array.getD] at hl) hb (by simpa using h)
  rw [e] at this ⊢
  exact this
theorem Fork.both {A B : Act → World → Prop} {a : Act} {w : World} (hA : A a w) (hB : B a w) : Fork Q A B .normal a w := ⟨hA, hB⟩
end
end Go.XR

/- How a finder lies in memory; the walk over forget. -/
namespace Go.Proofs.YtnfbchhbcinloaaGreat
open Go.RowKit Go.XR Go.IndexPure Go.CachePure Go.FindPure
theorem Ix.rng {w : World} {F : List Nat} {p : Nat} {D : List RowT} (h : Ix w F p D) : ∀ k v, aget D k = some v → PlaceOk v := by
  obtain ⟨pb, tb, sb, T, Sh, L, h1, h2⟩ := h; exact h2.rng
theorem ix_get {w : World} {F : List Nat} {p : Nat} {D : List RowT} (h : Ix w F p D) (k : KeyT) :
    Calls Tryz.prog 43 #[.pointer (some ⟨p, 0, none⟩), keyV k] w (RetOpt w (aget D k)) := by
  obtain ⟨pb, tb, sb, T, Sh, L, h1, h2⟩ := h
  exact get_any w p pb tb sb D h1.blk h1.places k
structure FinC (w : World) (Fi Fc : List Nat) (p ip vp vq cp : Nat) (M : FinT) : Prop where
  blk : Blk w p [.pointer (some ⟨ip, 0, none⟩), .pointer (some ⟨vp, 0, none⟩), .pointer (some ⟨cp, 0, none⟩), .int .i64 M.asked, .int .i64 M.loaded]
  ix : Ix w Fi ip M.D
  vec : ∃ cap, Vec w vp vq cap M.bits M.probes M.Y
  ch : ∃ tb a cap T, ChC w Fc cp tb M.room a cap M.C T
  pn : p ∉ Fi ∧ p ∉ Fc ∧ p ≠ vp ∧ p ≠ vq
  vn : vp ∉ Fi ∧ vp ∉ Fc ∧ vq ∉ Fi ∧ vq ∉ Fc
  cn : ∀ b ∈ Fi, b ∉ Fc
def foot (p vp vq : Nat) (Fi Fc : List Nat) : List Nat := p :: vp :: vq :: (Fi ++ Fc)
theorem mem_foot {p vp vq b : Nat} {Fi Fc : List Nat} : b ∈ foot p vp vq Fi Fc ↔ b = p ∨ b = vp ∨ b = vq ∨ b ∈ Fi ∨ b ∈ Fc := by
  unfold foot; simp
/-- a finder, and what was written on the way to it -/
structure FSt (w0 : World) (F0 : List Nat) (W : World) (Fi Fc : List Nat) (p ip vp vq cp : Nat) (M : FinT) : Prop where
  fin : FinC W Fi Fc p ip vp vq cp M
  but : But F0 w0 W
  grew : Grew w0 F0 (foot p vp vq Fi Fc)
section
variable {w w' w0 W W' : World} {F0 Fi Fc Fi' Fc' S : List Nat} {p ip vp vq cp : Nat} {M : FinT}
theorem FinC.lt (h : FinC w Fi Fc p ip vp vq cp M) : ∀ b ∈ foot p vp vq Fi Fc, b < w.heap.size := fun b hb => by
  obtain ⟨cap, hv⟩ := h.vec
  obtain ⟨tb, a, cap', T, hc⟩ := h.ch
  rcases mem_foot.1 hb with rfl | rfl | rfl | hb | hb
  · exact h.blk.lt
  · exact hv.blk.lt
  · exact hv.row.lt
  · exact h.ix.fin b hb
  · exact hc.fin b hb
theorem FinC.but (h : FinC w Fi Fc p ip vp vq cp M) (hb : But S w w') (hS : ∀ b ∈ foot p vp vq Fi Fc, b ∉ S) : FinC w' Fi Fc p ip vp vq cp M where
  blk := h.blk.but hb (hS _ (mem_foot.2 (.inl rfl)))
  ix := h.ix.but hb fun b hb => hS _ (mem_foot.2 (by simp [hb]))
  vec := by
    obtain ⟨cap, hv⟩ := h.vec
    exact ⟨cap, hv.but hb (hS _ (mem_foot.2 (by simp))) (hS _ (mem_foot.2 (by simp)))⟩
  ch := by
    obtain ⟨tb, a, cap', T, hc⟩ := h.ch
    exact ⟨tb, a, cap', T, hc.but hb fun b hb => hS _ (mem_foot.2 (by simp [hb]))⟩
  pn := h.pn
  vn := h.vn
  cn := h.cn
theorem FinC.below (h : FinC w Fi Fc p ip vp vq cp M) (hb : Below w.heap.size w w') : FinC w' Fi Fc p ip vp vq cp M := h.but (But.of_below (S := []) hb) (fun _ _ => by simp)
theorem FSt.refl (h : FinC w Fi Fc p ip vp vq cp M) : FSt w (foot p vp vq Fi Fc) w Fi Fc p ip vp vq cp M := ⟨h, But.refl _ _, Grew.refl _ _⟩
theorem FSt.trans {M' : FinT} (h : FSt w0 F0 W Fi Fc p ip vp vq cp M) (h' : FSt W (foot p vp vq Fi Fc) W' Fi' Fc' p ip vp vq cp M') : FSt w0 F0 W' Fi' Fc' p ip vp vq cp M' :=
  ⟨h'.fin, h.but.grew h'.but h.grew, h.grew.trans h'.grew h.but.size⟩
theorem FSt.below (h : FSt w0 F0 W Fi Fc p ip vp vq cp M) (hb : Below W.heap.size W W') : FSt w0 F0 W' Fi Fc p ip vp vq cp M :=
  ⟨h.fin.below hb, h.but.trans (But.of_below hb), h.grew⟩
theorem FSt.own (h : FSt w0 F0 W Fi Fc p ip vp vq cp M) {b : Nat} (hb : b ∉ F0) (hl : b < w0.heap.size) : W.heap[b]? = w0.heap[b]? ∧ b ∉ foot p vp vq Fi Fc ∧ b < W.heap.size := by
  refine ⟨h.but.block b hl hb, fun hf => ?_, Nat.lt_of_lt_of_le hl h.but.size⟩
  rcases h.grew b hf with h1 | h1
  · exact hb h1
  · omega
theorem FSt.ix (h : FSt w0 F0 W Fi Fc p ip vp vq cp M) {D' : List RowT} (hix : Ix W' Fi' ip D') (hb : But Fi W W') (hg : Grew W Fi Fi') : FSt w0 F0 W' Fi' Fc p ip vp vq cp { M with D := D' } := by
  refine h.trans ⟨?_, hb.mono fun b h1 _ => mem_foot.2 (by simp [h1]), fun b hb => ?_⟩
  · have nw : ∀ b, b < W.heap.size → b ∉ Fi → b ∉ Fi' := fun b h1 h2 h3 => by
      rcases hg b h3 with h4 | h4
      · exact h2 h4
      · omega
    obtain ⟨cap, hv⟩ := h.fin.vec
    obtain ⟨tb, a, cap', T, hc⟩ := h.fin.ch
    exact {
      blk := h.fin.blk.but hb h.fin.pn.1
      ix := hix
      vec := ⟨cap, hv.but hb h.fin.vn.1 h.fin.vn.2.2.1⟩
      ch := ⟨tb, a, cap', T, hc.but hb fun b h1 h2 => h.fin.cn b h2 h1⟩
      pn := ⟨nw p h.fin.blk.lt h.fin.pn.1, h.fin.pn.2⟩
      vn := ⟨nw vp hv.blk.lt h.fin.vn.1, h.fin.vn.2.1, nw vq hv.row.lt h.fin.vn.2.2.1, h.fin.vn.2.2.2⟩
      cn := fun b h1 h2 => by
        rcases hg b h1 with h3 | h3
        · exact h.fin.cn b h3 h2
        · have := hc.fin b h2
          omega }
  · rcases mem_foot.1 hb with h1 | h1 | h1 | h1 | h1
    · exact .inl (mem_foot.2 (by simp [h1]))
    · exact .inl (mem_foot.2 (by simp [h1]))
    · exact .inl (mem_foot.2 (by simp [h1]))
    · rcases hg b h1 with h2 | h2
      · exact .inl (mem_foot.2 (by simp [h2]))
      · exact .inr h2
    · exact .inl (mem_foot.2 (by simp [h1]))
theorem FSt.vec (h : FSt w0 F0 W Fi Fc p ip vp vq cp M) {cap : Nat} {Y' : List Nat} (hv : Vec W' vp vq cap M.bits M.probes Y') (hb : But [vq] W W') : FSt w0 F0 W' Fi Fc p ip vp vq cp { M with Y := Y' } := by
  refine h.trans ⟨?_, hb.mono fun b h1 _ => mem_foot.2 (by rw [List.mem_singleton] at h1; simp [h1]), Grew.refl _ _⟩
  obtain ⟨tb, a, cap', T, hc⟩ := h.fin.ch
  exact {
    blk := h.fin.blk.but hb (by simpa using h.fin.pn.2.2.2)
    ix := h.fin.ix.but hb fun b h1 h2 => by rw [List.mem_singleton] at h2; subst h2; exact h.fin.vn.2.2.1 h1
    vec := ⟨cap, hv⟩
    ch := ⟨tb, a, cap', T, hc.but hb fun b h1 h2 => by rw [List.mem_singleton] at h2; subst h2; exact h.fin.vn.2.2.2 h1⟩
    pn := h.fin.pn
    vn := h.fin.vn
    cn := h.fin.cn }
theorem FSt.ch (h : FSt w0 F0 W Fi Fc p ip vp vq cp M) {tb cap : Nat} {a : Option Addr} {C' : CchT} {T : List (I64 × Nat)} (hc : ChC W' Fc' cp tb M.room a cap C' T) (hb : But Fc W W') (hg : Grew W Fc Fc') : FSt w0 F0 W' Fi Fc' p ip vp vq cp { M with C := C' } := by
  refine h.trans ⟨?_, hb.mono fun b h1 _ => mem_foot.2 (by simp [h1]), fun b hb => ?_⟩
  · have nw : ∀ b, b < W.heap.size → b ∉ Fc → b ∉ Fc' := fun b h1 h2 h3 => by
      rcases hg b h3 with h4 | h4
      · exact h2 h4
      · omega
    obtain ⟨cap, hv⟩ := h.fin.vec
    exact {
      blk := h.fin.blk.but hb h.fin.pn.2.1
      ix := h.fin.ix.but hb h.fin.cn
      vec := ⟨cap, hv.but hb h.fin.vn.2.1 h.fin.vn.2.2.2⟩
      ch := ⟨tb, a, _, T, hc⟩
      pn := ⟨h.fin.pn.1, nw p h.fin.blk.lt h.fin.pn.2.1, h.fin.pn.2.2⟩
      vn := ⟨h.fin.vn.1, nw vp hv.blk.lt h.fin.vn.2.1, h.fin.vn.2.2.1, nw vq hv.row.lt h.fin.vn.2.2.2⟩
      cn := fun b h1 h2 => nw b (h.fin.ix.fin b h1) (h.fin.cn b h1) h2 }
  · rcases mem_foot.1 hb with h1 | h1 | h1 | h1 | h1
    · exact .inl (mem_foot.2 (by simp [h1]))
    · exact .inl (mem_foot.2 (by simp [h1]))
    · exact .inl (mem_foot.2 (by simp [h1]))
    · exact .inl (mem_foot.2 (by simp [h1]))
    · rcases hg b h1 with h2 | h2
      · exact .inl (mem_foot.2 (by simp [h2]))
      · exact .inr h2
end
set_option maxHeartbeats 2000000 in
set_option maxRecDepth 100000 in
theorem forget_any (w : World) (Fi Fc : List Nat) (p ip vp vq cp : Nat) (M : FinT) (h : FinC w Fi Fc p ip vp vq cp M) (k : KeyT) :
    Calls Tryz.prog 31 #[.pointer (some ⟨p, 0, none⟩), keyV k] w fun e w' => e = .returned (.tuple #[]) ∧ ∃ Fi' Fc', FSt w (foot p vp vq Fi Fc) w' Fi' Fc' p ip vp vq cp { M with C := cForget M.C M.D k } := by
  obtain ⟨W0, hW0⟩ : ∃ W0, w.alloc (.cells (keyC k) 29) = W0 := ⟨_, rfl⟩
  have hb0 : Below w.heap.size w W0 := by rw [← hW0]; exact (Below.refl _ _).alloc (Nat.le_refl _) _
  have HK : Hid (At W0 w.heap.size 0 (keyC k)) := by unfold Hid; rw [← hW0]; exact At.new _ _ _
  have HF := Lib.hid (h.below hb0)
  have Hb0 := Lib.hid hb0
  have H0 := Lib.hid h
  clear h hb0
  obtain ⟨kb, hkb⟩ : ∃ kb, w.heap.size = kb := ⟨_, rfl⟩
  rw [hkb] at HK
  have c0 := HF.out.blk.cell (i := 0) rfl
  have hpn := HF.out.blk.lt
  have HIx : Hid (Ix W0.drew Fi ip M.D) := HF.out.ix.but ((But.refl [] W0).drew) (by simp)
  obtain ⟨v, hv⟩ : ∃ v, (aget M.D k).getD place0 = v := ⟨_, rfl⟩
  obtain ⟨is, his⟩ : ∃ b, (aget M.D k).isSome = b := ⟨_, rfl⟩
  have Hg : Hid (∀ W1, Below W0.heap.size W0 W1 → Calls Tryz.prog 43 #[.pointer (some ⟨ip, 0, none⟩), keyV k] W1 fun e w' => e = .returned (.tuple #[.agg #[.int .i64 v.shelf, .int .i64 v.slot], .bool is]) ∧ Below W1.heap.size W1 w') := fun W1 hb => by
    refine (ix_get (HF.out.ix.below hb) k).mono ?_
    rintro e w' ⟨rfl, h2⟩
    rw [hv, his]
    exact ⟨rfl, h2⟩
  have Hv2 := Lib.hid hv
  have His := Lib.hid his
  have hkn : kb < W0.heap.size := HK.out.lt (by rw [keyC_size]; omega)
  clear hv his
  go_enter Tryz.func31, Tryz.ntmps31
  go_wp2
  clear hW0 hkb
  have hS0 : Below W0.heap.size W0 W0.drew := (Below.refl _ _).drew
  refine Go.XR.region_fork ((Below W0.heap.size W0)) [(0, true), (1, true), (2, true), (3, true), (4, true)] 5 9 [(6, true), (7, true), (8, true), (9, false), (10, false), (11, false)] [(5, false), (6, true), (7, true), (8, true), (10, false), (11, false)] [11] Tryz.mixed (by kernel_rfl) (by kernel_rfl) (by kernel_rfl) ?_
  simp only [List.map_cons, List.map_nil, List.getElem?_cons_succ, List.getElem?_cons_zero]
  repeat (first | (refine Go.XR.S_light rfl rfl (by assumption) ?_ (fun w' hS K hK => ?_) (fun K hK => ?_); rotate_left 1; (have hS1 := bcell hS; (first | (refine Go.XR.wp_load_at 29 _ rfl kb 0 rfl (keyC k) (At.below HK.out (by rw [keyC_size]; omega) hS) _ Tryz.underlying29 rfl (keySize k) ?_) | go_step); exact hK); go_step; refine hK _ ?_; clear hK K))
  refine Go.XR.S_nil ?_
  refine Go.XR.Fork.both ?_ ?_
  · refine Go.XR.S_heavy (fun K hK => ?_)
    go_step
    ((with_reducible refine ((Hg.out W0.drew hS0)).mono ?_); rintro e w' ⟨rfl, hb1⟩)
    have hS1 : Below W0.heap.size W0 w' := hS0.trans (hb1.mono hS0.size)
    clear hb1 hS0
    refine hK _ _ ⟨fun _ => hS1, ?_⟩
    clear hK K
    repeat (first | (refine Go.XR.S_light rfl rfl (by assumption) ?_ (fun w' hS K hK => ?_) (fun K hK => ?_); rotate_left 1; (have hS1 := bcell hS; (first | (refine Go.XR.wp_load_at 29 _ rfl kb 0 rfl (keyC k) (At.below HK.out (by rw [keyC_size]; omega) hS) _ Tryz.underlying29 rfl (keySize k) ?_) | go_step); exact hK); go_step; refine hK _ ?_; clear hK K))
    generalize w' = W1 at *
    refine Go.XR.S_heavy (fun K hK => ?_)
    go_step
    have hS2 := hS1.alloc hS1.size (.cells #[.int .i64 0, .int .i64 0] 40)
    refine hK _ _ ⟨fun _ => hS2, ?_⟩
    clear hK K
    repeat (first | (refine Go.XR.S_light rfl rfl (by assumption) ?_ (fun w' hS K hK => ?_) (fun K hK => ?_); rotate_left 1; (have hS1 := bcell hS; (first | (refine Go.XR.wp_load_at 29 _ rfl kb 0 rfl (keyC k) (At.below HK.out (by rw [keyC_size]; omega) hS) _ Tryz.underlying29 rfl (keySize k) ?_) | go_step); exact hK); go_step; refine hK _ ?_; clear hK K))
    refine Go.XR.S_heavy (fun K hK => ?_)
    go_step
    obtain ⟨W3, hW3⟩ : ∃ W3, W1.alloc (.cells #[.int .i64 v.shelf, .int .i64 v.slot] 40) = W3 := ⟨_, rfl⟩
    have hS3 : Below W0.heap.size W0 W3 := by rw [← hW3]; exact hS1.alloc hS1.size _
    obtain ⟨pb, hpb⟩ : ∃ pb, W1.heap.size = pb := ⟨_, rfl⟩
    have HP3 : Hid (Blk W3 pb (placeL v)) := by unfold Hid; rw [← hW3, ← hpb]; exact Blk.new W1 (placeC v) _
    rw [hW3, hpb]
    clear hW3 hpb hS2
    refine hK _ _ ⟨fun _ => hS3, ?_⟩
    clear hK K
    repeat (first | (refine Go.XR.S_light rfl rfl (by assumption) ?_ (fun w' hS K hK => ?_) (fun K hK => ?_); rotate_left 1; (have hS1 := bcell hS; (first | (refine Go.XR.wp_load_at 29 _ rfl kb 0 rfl (keyC k) (At.below HK.out (by rw [keyC_size]; omega) hS) _ Tryz.underlying29 rfl (keySize k) ?_) | go_step); exact hK); go_step; refine hK _ ?_; clear hK K))
    repeat (first | (refine Go.XR.S_heavy (fun K hK => ?_); go_step; refine hK _ _ ⟨fun h => by simp at h, ?_⟩; clear hK K))
    refine Go.XR.S_nil ?_
    have Hb3 := Lib.hid hS3
    clear hS1 hS3 c0
    have HFp := Lib.hid (HF.out.below Hb3.out)
    have d0 : W3.cell? ⟨pb, 0, none⟩ = some (.int .i64 v.shelf) := HP3.out.cell (i := 0) rfl
    cases is with
    | false =>
      go_wp2
      go_end0
      have hn : aget M.D k = none := by
        cases h : aget M.D k with
        | none => rfl
        | some x => have := His.out; rw [h] at this; cases this
      have hcf : cForget M.C M.D k = M.C := by unfold cForget; rw [hn]
      refine ⟨rfl, Fi, Fc, ?_⟩
      rw [hcf]
      exact (FSt.refl H0.out).below (Hb0.out.trans (Hb3.out.mono Hb0.out.size))
    | true =>
      obtain ⟨x, hx⟩ := Option.isSome_iff_exists.1 His.out
      have hv : x = v := by have := Hv2.out; rw [hx] at this; exact this
      obtain rfl := hv
      obtain ⟨s, hs⟩ : ∃ s : I64, x.shelf = s.1 := ⟨⟨x.shelf, (HF.out.ix.rng k x hx).1⟩, rfl⟩
      have hcf : Hid (cForget M.C M.D k = adel M.C s) := by unfold Hid cForget; rw [hx, ← delS_adel, ← hs]
      obtain ⟨tb, a, cap, T, hch⟩ := HFp.out.ch
      have Hcd := Lib.hid (cdrop_any W3.drew Fc cp tb M.room a cap M.C T (hch.but ((But.refl [] W3).drew) (by simp)) s)
      have c2 := HFp.out.blk.cell (i := 2) rfl
      unfold i64V at Hcd
      rw [hs] at d0
      clear hch hx hs
      go_wp2
      refine Go.XR.region_sched ((· = W3.drew)) [(0, true), (1, true), (2, true), (3, true), (4, true), (5, true), (6, false)] [6] Tryz.mixed (by kernel_rfl) (by kernel_rfl) (by kernel_rfl) ?_
      simp only [List.map_cons, List.map_nil, List.getElem?_cons_succ, List.getElem?_cons_zero]
      repeat (first | (refine Go.XR.S_light rfl rfl rfl ?_ (fun w' hS K hK => ?_) (fun K hK => ?_); rotate_left 1; (cases hS; (first | (refine Go.XR.wp_load_at 29 _ rfl kb 0 rfl (keyC k) (At.below HK.out (by rw [keyC_size]; omega) hS) _ Tryz.underlying29 rfl (keySize k) ?_) | go_step); exact hK); go_step; refine hK _ ?_; clear hK K))
      refine Go.XR.S_heavy (fun K hK => ?_)
      go_step
      ((with_reducible refine (Hcd.out).mono ?_); rintro e w' ⟨rfl, a1, cap1, T1, hC1, hb1⟩)
      have Hend : Hid (FSt w (foot p vp vq Fi Fc) w' Fi Fc p ip vp vq cp { M with C := cForget M.C M.D k }) := by
        unfold Hid
        rw [hcf.out]
        exact ((FSt.refl H0.out).below (Hb0.out.trans (Hb3.out.drew.mono Hb0.out.size))).ch hC1 hb1 (Grew.refl _ _)
      clear hC1 hb1 c2 d0
      refine hK _ _ ⟨fun h => by simp at h, ?_⟩
      clear hK K
      repeat (first | (refine Go.XR.S_light rfl rfl rfl ?_ (fun w' hS K hK => ?_) (fun K hK => ?_); rotate_left 1; (cases hS; (first | (refine Go.XR.wp_load_at 29 _ rfl kb 0 rfl (keyC k) (At.below HK.out (by rw [keyC_size]; omega) hS) _ Tryz.underlying29 rfl (keySize k) ?_) | go_step); exact hK); go_step; refine hK _ ?_; clear hK K))
      repeat (first | (refine Go.XR.S_heavy (fun K hK => ?_); go_step; refine hK _ _ ⟨fun h => by simp at h, ?_⟩; clear hK K))
      refine Go.XR.S_nil ?_
      go_wp2
      go_end0
      exact ⟨rfl, Fi, Fc, Hend.out⟩
  · refine Go.XR.S_heavy (fun K hK => ?_)
    go_step
    obtain ⟨W1, hW1⟩ : ∃ W1, (W0.alloc (.cells #[.int .i64 0, .int .i64 0] 40)).drew = W1 := ⟨_, rfl⟩
    have hS1 : Below W0.heap.size W0 W1 := by rw [← hW1]; exact ((Below.refl _ _).alloc (Nat.le_refl _) _).drew
    have HP1 : Hid (Blk W1 W0.heap.size [.int .i64 0, .int .i64 0]) := by unfold Hid; rw [← hW1]; exact Blk.new W0 #[.int .i64 0, .int .i64 0] _
    rw [hW1]
    refine hK _ _ ⟨fun _ => hS1, ?_⟩
    clear hK K
    repeat (first | (refine Go.XR.S_light rfl rfl (by assumption) ?_ (fun w' hS K hK => ?_) (fun K hK => ?_); rotate_left 1; (have hS1 := bcell hS; (first | (refine Go.XR.wp_load_at 29 _ rfl kb 0 rfl (keyC k) (At.below HK.out (by rw [keyC_size]; omega) hS) _ Tryz.underlying29 rfl (keySize k) ?_) | go_step); exact hK); go_step; refine hK _ ?_; clear hK K))
    clear hW1 hS0
    refine Go.XR.S_heavy (fun K hK => ?_)
    go_step
    ((with_reducible refine ((Hg.out W1 hS1)).mono ?_); rintro e w' ⟨rfl, hb1⟩)
    have HP2 := Lib.hid (HP1.out.below hb1)
    have hS2 : Below W0.heap.size W0 w' := hS1.trans (hb1.mono hS1.size)
    have f0 := HP2.out.free 0
    have f1 := HP2.out.free 1
    have e0 := HP2.out.cell (i := 0) rfl
    have e1 := HP2.out.cell (i := 1) rfl
    clear hb1
    refine hK _ _ ⟨fun _ => hS2, ?_⟩
    clear hK K
    repeat (first | (refine Go.XR.S_light rfl rfl (by assumption) ?_ (fun w' hS K hK => ?_) (fun K hK => ?_); rotate_left 1; (have hS1 := bcell hS; (first | (refine Go.XR.wp_load_at 29 _ rfl kb 0 rfl (keyC k) (At.below HK.out (by rw [keyC_size]; omega) hS) _ Tryz.underlying29 rfl (keySize k) ?_) | go_step); exact hK); go_step; refine hK _ ?_; clear hK K))
    generalize w' = W2 at *
    refine Go.XR.S_heavy (fun K hK => ?_)
    go_step
    obtain ⟨W3, hW3⟩ : ∃ W3, (W2.setCell ⟨W0.heap.size, 0, none⟩ (.int .i64 v.shelf)).setCell ⟨W0.heap.size, 1, none⟩ (.int .i64 v.slot) = W3 := ⟨_, rfl⟩
    have hS3 : Below W0.heap.size W0 W3 := by
      rw [← hW3]
      exact hS2.trans ((((But.refl [W0.heap.size] W2).setCell (.inl (by simp)) _).setCell (.inl (by simp)) _).below hS2.size (by simp))
    obtain ⟨pb, hpb⟩ : ∃ pb, W0.heap.size = pb := ⟨_, rfl⟩
    have HP3 : Hid (Blk W3 pb (placeL v)) := by unfold Hid; rw [← hW3, ← hpb]; exact (HP2.out.set 0 (.int .i64 v.shelf)).set 1 (.int .i64 v.slot)
    have Hb3 := Lib.hid hS3
    rw [hW3]
    refine hK _ _ ⟨fun _ => hS3, ?_⟩
    clear hK K
    repeat (first | (refine Go.XR.S_light rfl rfl (by assumption) ?_ (fun w' hS K hK => ?_) (fun K hK => ?_); rotate_left 1; (have hS1 := bcell hS; (first | (refine Go.XR.wp_load_at 29 _ rfl kb 0 rfl (keyC k) (At.below HK.out (by rw [keyC_size]; omega) hS) _ Tryz.underlying29 rfl (keySize k) ?_) | go_step); exact hK); go_step; refine hK _ ?_; clear hK K))
    rw [hpb]
    clear hW3 hpb f0 f1 e0 e1 HP1 HP2 hS1 hS2 hS3
    repeat (first | (refine Go.XR.S_heavy (fun K hK => ?_); go_step; refine hK _ _ ⟨fun h => by simp at h, ?_⟩; clear hK K))
    refine Go.XR.S_nil ?_
    clear c0
    have HFp := Lib.hid (HF.out.below Hb3.out)
    have d0 : W3.cell? ⟨pb, 0, none⟩ = some (.int .i64 v.shelf) := HP3.out.cell (i := 0) rfl
    cases is with
    | false =>
      go_wp2
      go_end0
      have hn : aget M.D k = none := by
        cases h : aget M.D k with
        | none => rfl
        | some x => have := His.out; rw [h] at this; cases this
      have hcf : cForget M.C M.D k = M.C := by unfold cForget; rw [hn]
      refine ⟨rfl, Fi, Fc, ?_⟩
      rw [hcf]
      exact (FSt.refl H0.out).below (Hb0.out.trans (Hb3.out.mono Hb0.out.size))
    | true =>
      obtain ⟨x, hx⟩ := Option.isSome_iff_exists.1 His.out
      have hv : x = v := by have := Hv2.out; rw [hx] at this; exact this
      obtain rfl := hv
      obtain ⟨s, hs⟩ : ∃ s : I64, x.shelf = s.1 := ⟨⟨x.shelf, (HF.out.ix.rng k x hx).1⟩, rfl⟩
      have hcf : Hid (cForget M.C M.D k = adel M.C s) := by unfold Hid cForget; rw [hx, ← delS_adel, ← hs]
      obtain ⟨tb, a, cap, T, hch⟩ := HFp.out.ch
      have Hcd := Lib.hid (cdrop_any W3.drew Fc cp tb M.room a cap M.C T (hch.but ((But.refl [] W3).drew) (by simp)) s)
      have c2 := HFp.out.blk.cell (i := 2) rfl
      unfold i64V at Hcd
      rw [hs] at d0
      clear hch hx hs
      go_wp2
      refine Go.XR.region_sched ((· = W3.drew)) [(0, true), (1, true), (2, true), (3, true), (4, true), (5, true), (6, false)] [6] Tryz.mixed (by kernel_rfl) (by kernel_rfl) (by kernel_rfl) ?_
      simp only [List.map_cons, List.map_nil, List.getElem?_cons_succ, List.getElem?_cons_zero]
      repeat (first | (refine Go.XR.S_light rfl rfl rfl ?_ (fun w' hS K hK => ?_) (fun K hK => ?_); rotate_left 1; (cases hS; (first | (refine Go.XR.wp_load_at 29 _ rfl kb 0 rfl (keyC k) (At.below HK.out (by rw [keyC_size]; omega) hS) _ Tryz.underlying29 rfl (keySize k) ?_) | go_step); exact hK); go_step; refine hK _ ?_; clear hK K))
      refine Go.XR.S_heavy (fun K hK => ?_)
      go_step
      ((with_reducible refine (Hcd.out).mono ?_); rintro e w' ⟨rfl, a1, cap1, T1, hC1, hb1⟩)
      have Hend : Hid (FSt w (foot p vp vq Fi Fc) w' Fi Fc p ip vp vq cp { M with C := cForget M.C M.D k }) := by
        unfold Hid
        rw [hcf.out]
        exact ((FSt.refl H0.out).below (Hb0.out.trans (Hb3.out.drew.mono Hb0.out.size))).ch hC1 hb1 (Grew.refl _ _)
      clear hC1 hb1 c2 d0
      refine hK _ _ ⟨fun h => by simp at h, ?_⟩
      clear hK K
      repeat (first | (refine Go.XR.S_light rfl rfl rfl ?_ (fun w' hS K hK => ?_) (fun K hK => ?_); rotate_left 1; (cases hS; (first | (refine Go.XR.wp_load_at 29 _ rfl kb 0 rfl (keyC k) (At.below HK.out (by rw [keyC_size]; omega) hS) _ Tryz.underlying29 rfl (keySize k) ?_) | go_step); exact hK); go_step; refine hK _ ?_; clear hK K))
      repeat (first | (refine Go.XR.S_heavy (fun K hK => ?_); go_step; refine hK _ _ ⟨fun h => by simp at h, ?_⟩; clear hK K))
      refine Go.XR.S_nil ?_
      go_wp2
      go_end0
      exact ⟨rfl, Fi, Fc, Hend.out⟩
end Go.Proofs.YtnfbchhbcinloaaGreat

/- The walks over a finder's Put and Drop. -/
namespace Go.Proofs.YtnfbchhbcinloaaGreat
open Go.RowKit Go.XR Go.IndexPure Go.CachePure Go.FindPure
set_option maxHeartbeats 2000000 in
set_option maxRecDepth 100000 in
theorem fput_any (w : World) (Fi Fc : List Nat) (p ip vp vq cp : Nat) (M : FinT) (h : FinC w Fi Fc p ip vp vq cp M) (hlen : M.D.length ≤ 2^20) (k : KeyT) (v : PlaceT) (hv : PlaceOk v) :
    Calls Tryz.prog 8 #[.pointer (some ⟨p, 0, none⟩), keyV k, placeV v] w fun e w' => e = .returned (.tuple #[]) ∧ ∃ Fi' Fc', FSt w (foot p vp vq Fi Fc) w' Fi' Fc' p ip vp vq cp (fPut M k v) := by
  obtain ⟨W0, hW0⟩ : ∃ W0, (w.alloc (.cells (keyC k) 29)).alloc (.cells (placeC v) 40) = W0 := ⟨_, rfl⟩
  have hb0 : Below w.heap.size w W0 := by rw [← hW0]; exact ((Below.refl _ _).alloc (Nat.le_refl _) _).alloc (by simp) _
  have HK : Hid (At W0 w.heap.size 0 (keyC k)) := by unfold Hid; rw [← hW0]; exact (At.new _ _ _).alloc _
  have HP : Hid (Blk W0 (w.heap.size + 1) (placeL v)) := by
    unfold Hid; rw [← hW0]
    have h := Blk.new (w.alloc (.cells (keyC k) 29)) (placeC v) 40
    rwa [show (w.alloc (.cells (keyC k) 29)).heap.size = w.heap.size + 1 by simp] at h
  have HF := Lib.hid (h.below hb0)
  have Hb0 := Lib.hid hb0
  have H0 := Lib.hid h
  have hko : w.heap.size ∉ foot p vp vq Fi Fc := fun hm => by have := h.lt _ hm; omega
  have hvo : w.heap.size + 1 ∉ foot p vp vq Fi Fc := fun hm => by have := h.lt _ hm; omega
  clear h hb0
  obtain ⟨kb, hkb⟩ : ∃ kb, w.heap.size = kb := ⟨_, rfl⟩
  rw [hkb] at HK HP hko hvo
  obtain ⟨vb, hvb⟩ : ∃ vb, kb + 1 = vb := ⟨_, rfl⟩
  rw [hvb] at HP hvo
  have hkl : kb < W0.heap.size := HK.out.lt (by rw [keyC_size]; omega)
  have Hko : Hid (kb ∉ foot p vp vq Fi Fc ∧ kb < W0.heap.size) := ⟨hko, hkl⟩
  have Hvo : Hid (vb ∉ foot p vp vq Fi Fc ∧ vb < W0.heap.size) := ⟨hvo, HP.out.lt⟩
  obtain ⟨s, hs⟩ : ∃ s : I64, v.shelf = s.1 := ⟨⟨v.shelf, hv.1⟩, rfl⟩
  have Hs := Lib.hid hs
  have Hv := Lib.hid hv
  have Hl := Lib.hid hlen
  have hpk : placeV v = .agg #[.int .i64 v.shelf, .int .i64 v.slot] := rfl
  clear hko hvo hkl hs hv hlen hpk
  go_enter Tryz.func8, Tryz.ntmps8
  go_wp2_with (first | (refine wpList_load_at rfl 29 _ rfl kb 0 rfl (keyC k) HK.out _ Tryz.underlying29 rfl (keySize k) ?_) | fail)
  clear hW0 hkb hvb
  refine (forget_any W0 Fi Fc p ip vp vq cp M HF.out k).mono ?_
  rintro e w1 ⟨rfl, Fi1, Fc1, hst⟩
  have H1 := Lib.hid hst
  clear hst
  have HK1 : Hid (At w1 kb 0 (keyC k)) := HK.out.heap (H1.out.own Hko.out.1 Hko.out.2).1
  have HP1 : Hid (Blk w1 vb (placeL v)) := HP.out.heap (H1.out.own Hvo.out.1 Hvo.out.2).1
  have c2 := H1.out.fin.blk.cell (i := 2) rfl
  have d0 : w1.cell? ⟨vb, 0, none⟩ = some (.int .i64 v.shelf) := HP1.out.cell (i := 0) rfl
  obtain ⟨tb, a, cap, T, hch⟩ := H1.out.fin.ch
  have Hcd := Lib.hid (cdrop_any w1.drew Fc1 cp tb M.room a cap (cForget M.C M.D k) T (hch.but ((But.refl [] w1).drew) (by simp)) s)
  unfold i64V at Hcd
  rw [Hs.out] at d0
  clear hch
  go_wp2
  refine Go.XR.region_sched ((· = w1.drew)) [(0, true), (1, true), (2, true), (3, true), (4, true), (5, true), (6, false)] [6] Tryz.mixed (by kernel_rfl) (by kernel_rfl) (by kernel_rfl) ?_
  simp only [List.map_cons, List.map_nil, List.getElem?_cons_succ, List.getElem?_cons_zero]
  repeat (first | (refine Go.XR.S_light rfl rfl rfl ?_ (fun w' hS K hK => ?_) (fun K hK => ?_); rotate_left 1; (cases hS; go_step; exact hK); go_step; refine hK _ ?_; clear hK K))
  refine Go.XR.S_heavy (fun K hK => ?_)
  go_step
  ((with_reducible refine (Hcd.out).mono ?_); rintro e w' ⟨rfl, a1, cap1, T1, hC1, hb1⟩)
  have H2 := Lib.hid ((H1.out.below (Below.refl _ _).drew).ch hC1 hb1 (Grew.refl _ _))
  clear hC1 hb1 c2 d0 Hcd
  refine hK _ _ ⟨fun h => by simp at h, ?_⟩
  clear hK K
  repeat (first | (refine Go.XR.S_light rfl rfl rfl ?_ (fun w' hS K hK => ?_) (fun K hK => ?_); rotate_left 1; (cases hS; go_step; exact hK); go_step; refine hK _ ?_; clear hK K))
  generalize w' = w2 at *
  repeat (first | (refine Go.XR.S_heavy (fun K hK => ?_); go_step; refine hK _ _ ⟨fun h => by simp at h, ?_⟩; clear hK K))
  refine Go.XR.S_nil ?_
  have HK2 : Hid (At w2 kb 0 (keyC k)) := HK.out.heap (H2.out.own Hko.out.1 Hko.out.2).1
  have HP2 : Hid (Blk w2 vb (placeL v)) := HP.out.heap (H2.out.own Hvo.out.1 Hvo.out.2).1
  have c1 := H2.out.fin.blk.cell (i := 1) rfl
  obtain ⟨vcap, hvec⟩ := H2.out.fin.vec
  have Had := Lib.hid (add_any w2.drew vp vq vcap M.bits M.probes M.Y (hvec.but (But.refl [] w2).drew (by simp) (by simp)) k)
  clear hvec
  go_wp2
  refine Go.XR.region_sched ((· = w2.drew)) [(0, true), (1, true), (2, true), (3, true), (4, true), (5, false)] [5] Tryz.mixed (by kernel_rfl) (by kernel_rfl) (by kernel_rfl) ?_
  simp only [List.map_cons, List.map_nil, List.getElem?_cons_succ, List.getElem?_cons_zero]
  repeat (first | (refine Go.XR.S_light rfl rfl rfl ?_ (fun w' hS K hK => ?_) (fun K hK => ?_); rotate_left 1; (cases hS; (first | (refine Go.XR.wp_load_at 29 _ rfl kb 0 rfl (keyC k) (At.drew HK2.out) _ Tryz.underlying29 rfl (keySize k) ?_) | go_step); exact hK); go_step; refine hK _ ?_; clear hK K))
  refine Go.XR.S_heavy (fun K hK => ?_)
  go_step
  ((with_reducible refine (Had.out).mono ?_); rintro e w' ⟨rfl, hV2, hb2⟩)
  have H3 := Lib.hid ((H2.out.below (Below.refl _ _).drew).vec hV2 hb2)
  clear hV2 hb2 c1 Had
  refine hK _ _ ⟨fun h => by simp at h, ?_⟩
  clear hK K
  repeat (first | (refine Go.XR.S_light rfl rfl rfl ?_ (fun w' hS K hK => ?_) (fun K hK => ?_); rotate_left 1; (cases hS; (first | (refine Go.XR.wp_load_at 29 _ rfl kb 0 rfl (keyC k) (At.drew HK2.out) _ Tryz.underlying29 rfl (keySize k) ?_) | go_step); exact hK); go_step; refine hK _ ?_; clear hK K))
  generalize w' = w3 at *
  repeat (first | (refine Go.XR.S_heavy (fun K hK => ?_); go_step; refine hK _ _ ⟨fun h => by simp at h, ?_⟩; clear hK K))
  refine Go.XR.S_nil ?_
  have HK3 : Hid (At w3 kb 0 (keyC k)) := HK.out.heap (H3.out.own Hko.out.1 Hko.out.2).1
  have HP3 : Hid (Blk w3 vb (placeL v)) := HP.out.heap (H3.out.own Hvo.out.1 Hvo.out.2).1
  have c0 := H3.out.fin.blk.cell (i := 0) rfl
  have Hpu := Lib.hid (put_any w3.drew Fi1 ip M.D (H3.out.fin.ix.but (But.refl [] w3).drew (by simp)) Hl.out k v Hv.out)
  go_wp2
  refine Go.XR.region_sched ((· = w3.drew)) [(0, true), (1, true), (2, true), (3, true), (4, true), (5, true), (6, false)] [6] Tryz.mixed (by kernel_rfl) (by kernel_rfl) (by kernel_rfl) ?_
  simp only [List.map_cons, List.map_nil, List.getElem?_cons_succ, List.getElem?_cons_zero]
  repeat (first | (refine Go.XR.S_light rfl rfl rfl ?_ (fun w' hS K hK => ?_) (fun K hK => ?_); rotate_left 1; (cases hS; (first | (first | (refine Go.XR.wp_load_at 29 (.tmp 4) rfl kb 0 rfl (keyC k) (At.drew HK3.out) _ Tryz.underlying29 rfl (keySize k) ?_) | (refine Go.XR.wp_load_at 40 (.tmp 5) rfl vb 0 rfl (placeC v) (At.drew HP3.out.toAt) _ Tryz.underlying40 rfl (placeSize v) ?_)) | go_step); exact hK); go_step; refine hK _ ?_; clear hK K))
  refine Go.XR.S_heavy (fun K hK => ?_)
  go_step
  ((with_reducible refine (Hpu.out).mono ?_); rintro e w' ⟨rfl, F4, hix, hb4, hg4⟩)
  have H4 := Lib.hid ((H3.out.below (Below.refl _ _).drew).ix hix hb4 hg4)
  clear hix hb4 hg4 c0 Hpu
  refine hK _ _ ⟨fun h => by simp at h, ?_⟩
  clear hK K
  repeat (first | (refine Go.XR.S_light rfl rfl rfl ?_ (fun w' hS K hK => ?_) (fun K hK => ?_); rotate_left 1; (cases hS; (first | (first | (refine Go.XR.wp_load_at 29 (.tmp 4) rfl kb 0 rfl (keyC k) (At.drew HK3.out) _ Tryz.underlying29 rfl (keySize k) ?_) | (refine Go.XR.wp_load_at 40 (.tmp 5) rfl vb 0 rfl (placeC v) (At.drew HP3.out.toAt) _ Tryz.underlying40 rfl (placeSize v) ?_)) | go_step); exact hK); go_step; refine hK _ ?_; clear hK K))
  generalize w' = w4 at *
  repeat (first | (refine Go.XR.S_heavy (fun K hK => ?_); go_step; refine hK _ _ ⟨fun h => by simp at h, ?_⟩; clear hK K))
  refine Go.XR.S_nil ?_
  go_wp2
  go_end0
  refine ⟨rfl, F4, Fc1, ?_⟩
  have h5 := ((FSt.refl H0.out).below Hb0.out).trans H4.out
  unfold fPut
  rw [Hs.out, delS_adel]
  exact h5
set_option maxHeartbeats 2000000 in
set_option maxRecDepth 100000 in
theorem fdrop_any (w : World) (Fi Fc : List Nat) (p ip vp vq cp : Nat) (M : FinT) (h : FinC w Fi Fc p ip vp vq cp M) (hlen : M.D.length ≤ 2^20) (k : KeyT) :
    Calls Tryz.prog 10 #[.pointer (some ⟨p, 0, none⟩), keyV k] w fun e w' => e = .returned (.bool (aget M.D k).isSome) ∧ ∃ Fi' Fc', FSt w (foot p vp vq Fi Fc) w' Fi' Fc' p ip vp vq cp (fDrop M k) := by
  obtain ⟨W0, hW0⟩ : ∃ W0, w.alloc (.cells (keyC k) 29) = W0 := ⟨_, rfl⟩
  have hb0 : Below w.heap.size w W0 := by rw [← hW0]; exact (Below.refl _ _).alloc (Nat.le_refl _) _
  have HK : Hid (At W0 w.heap.size 0 (keyC k)) := by unfold Hid; rw [← hW0]; exact At.new _ _ _
  have HF := Lib.hid (h.below hb0)
  have Hb0 := Lib.hid hb0
  have H0 := Lib.hid h
  have hko : w.heap.size ∉ foot p vp vq Fi Fc := fun hm => by have := h.lt _ hm; omega
  clear h hb0
  obtain ⟨kb, hkb⟩ : ∃ kb, w.heap.size = kb := ⟨_, rfl⟩
  rw [hkb] at HK hko
  have hkl : kb < W0.heap.size := HK.out.lt (by rw [keyC_size]; omega)
  have Hko : Hid (kb ∉ foot p vp vq Fi Fc ∧ kb < W0.heap.size) := ⟨hko, hkl⟩
  have Hl := Lib.hid hlen
  clear hko hkl hlen
  go_enter Tryz.func10, Tryz.ntmps10
  go_wp2_with (first | (refine wpList_load_at rfl 29 _ rfl kb 0 rfl (keyC k) HK.out _ Tryz.underlying29 rfl (keySize k) ?_) | fail)
  clear hW0 hkb
  refine (forget_any W0 Fi Fc p ip vp vq cp M HF.out k).mono ?_
  rintro e w1 ⟨rfl, Fi1, Fc1, hst⟩
  have H1 := Lib.hid hst
  clear hst
  have HK1 : Hid (At w1 kb 0 (keyC k)) := HK.out.heap (H1.out.own Hko.out.1 Hko.out.2).1
  have c0 := H1.out.fin.blk.cell (i := 0) rfl
  have Hdr := Lib.hid (drop_any w1.drew Fi1 ip M.D (H1.out.fin.ix.but (But.refl [] w1).drew (by simp)) Hl.out k)
  go_wp2
  refine Go.XR.region_sched ((· = w1.drew)) [(0, true), (1, true), (2, true), (3, true), (4, true), (5, false), (6, false)] [5, 6] Tryz.mixed (by kernel_rfl) (by kernel_rfl) (by kernel_rfl) ?_
  simp only [List.map_cons, List.map_nil, List.getElem?_cons_succ, List.getElem?_cons_zero]
  repeat (first | (refine Go.XR.S_light rfl rfl rfl ?_ (fun w' hS K hK => ?_) (fun K hK => ?_); rotate_left 1; (cases hS; (first | (refine Go.XR.wp_load_at 29 _ rfl kb 0 rfl (keyC k) (At.drew HK1.out) _ Tryz.underlying29 rfl (keySize k) ?_) | go_step); exact hK); go_step; refine hK _ ?_; clear hK K))
  refine Go.XR.S_heavy (fun K hK => ?_)
  go_step
  ((with_reducible refine (Hdr.out).mono ?_); rintro e w' ⟨rfl, F4, hix, hb4, hg4⟩)
  have H4 := Lib.hid ((H1.out.below (Below.refl _ _).drew).ix hix hb4 hg4)
  clear hix hb4 hg4 c0 Hdr
  refine hK _ _ ⟨fun h => by simp at h, ?_⟩
  clear hK K
  repeat (first | (refine Go.XR.S_light rfl rfl rfl ?_ (fun w' hS K hK => ?_) (fun K hK => ?_); rotate_left 1; (cases hS; (first | (refine Go.XR.wp_load_at 29 _ rfl kb 0 rfl (keyC k) (At.drew HK1.out) _ Tryz.underlying29 rfl (keySize k) ?_) | go_step); exact hK); go_step; refine hK _ ?_; clear hK K))
  generalize w' = w4 at *
  repeat (first | (refine Go.XR.S_heavy (fun K hK => ?_); go_step; refine hK _ _ ⟨fun h => by simp at h, ?_⟩; clear hK K))
  refine Go.XR.S_nil ?_
  go_wp2
  go_ret
  exact ⟨rfl, F4, Fc1, ((FSt.refl H0.out).below Hb0.out).trans H4.out⟩
end Go.Proofs.YtnfbchhbcinloaaGreat

/- The walks over a finder's rows, Shelf, All, Len, Cost, Blur, Anew. -/
namespace Go.Proofs.YtnfbchhbcinloaaGreat
open Go.RowKit Go.XR Go.IndexPure Go.CachePure Go.FindPure
section
variable {w : World} {Fi Fc : List Nat} {p ip vp vq cp : Nat} {M : FinT}
theorem FinC.own (h : FinC w Fi Fc p ip vp vq cp M) : Own 0 w ip M.D := ⟨Fi, h.ix, fun _ _ => Nat.zero_le _⟩
end
set_option maxHeartbeats 1000000 in
set_option maxRecDepth 100000 in
theorem rows_any (w : World) (p ip : Nat) (l : List Value) (h : Blk w p (.pointer (some ⟨ip, 0, none⟩) :: l)) :
    Calls Tryz.prog 51 #[.pointer (some ⟨p, 0, none⟩)] w fun e w' => e = .returned (.pointer (some ⟨ip, 0, none⟩)) ∧ w' = w := by
  have c0 := h.cell (i := 0) rfl
  go_enter Tryz.func51, Tryz.ntmps51
  go_wp2
  go_ret
  exact ⟨rfl, rfl⟩
set_option maxHeartbeats 1000000 in
set_option maxRecDepth 100000 in
theorem fshelf_any (w : World) (Fi Fc : List Nat) (p ip vp vq cp : Nat) (M : FinT) (h : FinC w Fi Fc p ip vp vq cp M) (hlen : M.D.length ≤ 2^20) (s : Int) (hs : -9223372036854775808 ≤ s ∧ s ≤ 9223372036854775807) :
    Calls Tryz.prog 25 #[.pointer (some ⟨p, 0, none⟩), .int .i64 s] w fun e w' => ∃ L, ShelfOf M.D s L ∧ RetRows w L e w' := by
  have H := Lib.hid h
  have Hl := Lib.hid hlen
  have Hs := Lib.hid hs
  clear h hlen hs
  go_enter Tryz.func25, Tryz.ntmps25
  go_wp2_with fail
  refine (rows_any w p ip _ H.out.blk).mono ?_
  rintro e w1 ⟨rfl, hw⟩
  rw [hw]
  clear hw
  go_wp2_with fail
  refine (own_shelf H.out.own Hl.out s Hs.out).mono ?_
  rintro e w2 ⟨L, hL, a, c, rfl, hr⟩
  have HL := Lib.hid hL
  have Hr := Lib.hid hr
  clear hL hr
  go_wp2
  go_ret
  exact ⟨L, HL.out, a, c, rfl, Hr.out⟩
set_option maxHeartbeats 1000000 in
set_option maxRecDepth 100000 in
theorem fall_any (w : World) (Fi Fc : List Nat) (p ip vp vq cp : Nat) (M : FinT) (h : FinC w Fi Fc p ip vp vq cp M) (hlen : M.D.length ≤ 2^20) :
    Calls Tryz.prog 20 #[.pointer (some ⟨p, 0, none⟩)] w fun e w' => ∃ L, AllOf M.D L ∧ RetRows w L e w' := by
  have H := Lib.hid h
  have Hl := Lib.hid hlen
  clear h hlen
  go_enter Tryz.func20, Tryz.ntmps20
  go_wp2_with fail
  refine (rows_any w p ip _ H.out.blk).mono ?_
  rintro e w1 ⟨rfl, hw⟩
  rw [hw]
  clear hw
  go_wp2_with fail
  refine (own_all H.out.own Hl.out).mono ?_
  rintro e w2 ⟨L, hL, a, c, rfl, hr⟩
  have HL := Lib.hid hL
  have Hr := Lib.hid hr
  clear hL hr
  go_wp2
  go_ret
  exact ⟨L, HL.out, a, c, rfl, Hr.out⟩
set_option maxHeartbeats 1000000 in
set_option maxRecDepth 100000 in
theorem flen_any (w : World) (Fi Fc : List Nat) (p ip vp vq cp : Nat) (M : FinT) (h : FinC w Fi Fc p ip vp vq cp M) :
    Calls Tryz.prog 21 #[.pointer (some ⟨p, 0, none⟩)] w (RetInt w M.D.length) := by
  have H := Lib.hid h
  clear h
  go_enter Tryz.func21, Tryz.ntmps21
  go_wp2_with fail
  refine (rows_any w p ip _ H.out.blk).mono ?_
  rintro e w1 ⟨rfl, hw⟩
  rw [hw]
  clear hw
  go_wp2_with fail
  refine (own_len H.out.own).mono ?_
  rintro e w2 ⟨rfl, hb⟩
  go_wp2
  go_ret
  exact ⟨rfl, hb⟩
set_option maxHeartbeats 1000000 in
set_option maxRecDepth 100000 in
theorem fcost_any (w : World) (Fi Fc : List Nat) (p ip vp vq cp : Nat) (M : FinT) (h : FinC w Fi Fc p ip vp vq cp M) :
    Calls Tryz.prog 18 #[.pointer (some ⟨p, 0, none⟩)] w fun e w' => e = .returned (.tuple #[.int .i64 M.asked, .int .i64 M.loaded]) ∧ Below w.heap.size w w' := by
  have c3 := h.blk.cell (i := 3) rfl
  have c4 := h.blk.cell (i := 4) rfl
  clear h
  go_enter Tryz.func18, Tryz.ntmps18
  go_wp2
  refine Go.XR.region_sched ((· = w.drew)) [(0, true), (1, true), (2, true), (3, true), (4, true), (5, true), (6, true), (7, true), (8, true), (9, false)] [9] Tryz.mixed (by kernel_rfl) (by kernel_rfl) (by kernel_rfl) ?_
  simp only [List.map_cons, List.map_nil, List.getElem?_cons_succ, List.getElem?_cons_zero]
  repeat (first | (refine Go.XR.S_light rfl rfl rfl ?_ (fun w' hS K hK => ?_) (fun K hK => ?_); rotate_left 1; (cases hS; go_step; exact hK); go_step; refine hK _ ?_; clear hK K))
  repeat (first | (refine Go.XR.S_heavy (fun K hK => ?_); go_step; refine hK _ _ ⟨fun h => by simp at h, ?_⟩; clear hK K))
  refine Go.XR.S_nil ?_
  go_wp2
  go_ret2
  exact ⟨rfl, (Below.refl _ _).drew⟩
set_option maxHeartbeats 1000000 in
set_option maxRecDepth 100000 in
theorem fblur_any (w : World) (Fi Fc : List Nat) (p ip vp vq cp : Nat) (M : FinT) (h : FinC w Fi Fc p ip vp vq cp M) (a : Option Addr) (c : Nat) (b : List Nat) (hR : Row w a (b.map byV)) (hq : 0 < b.length → ∀ g o, a = some ⟨g, o, none⟩ → g ≠ vq) (hok : bytesOk b) (hbl : b.length ≤ 2^40) :
    Calls Tryz.prog 16 #[.pointer (some ⟨p, 0, none⟩), .slice a b.length c] w fun e w' => e = .returned (.tuple #[]) ∧ FSt w (foot p vp vq Fi Fc) w' Fi Fc p ip vp vq cp { M with Y := blurB M.bits M.Y b } := by
  have c1 := h.blk.cell (i := 1) rfl
  have H := Lib.hid h
  obtain ⟨vcap, hvec⟩ := h.vec
  have Hor := Lib.hid (blur_any w vp vq vcap M.bits M.probes M.Y hvec a c b hR hq hok hbl)
  clear h hvec hR hq hok hbl
  go_enter Tryz.func16, Tryz.ntmps16
  go_wp2_with fail
  refine Hor.out.mono ?_
  rintro e w1 ⟨rfl, hV, hb⟩
  have H1 := Lib.hid ((FSt.refl H.out).vec hV hb)
  clear hV hb c1 Hor
  go_wp2
  go_end0
  exact ⟨rfl, H1.out⟩
def anewB (bits probes : Nat) (L : List RowT) : List Nat := L.foldl (fun Y r => addB bits probes Y r.1) (List.replicate ((bits + 7) / 8) 0)
set_option maxHeartbeats 2000000 in
set_option maxRecDepth 100000 in
theorem fanew_any (w : World) (Fi Fc : List Nat) (p ip vp vq cp : Nat) (M : FinT) (h : FinC w Fi Fc p ip vp vq cp M) (hlen : M.D.length ≤ 2^20) :
    Calls Tryz.prog 14 #[.pointer (some ⟨p, 0, none⟩)] w fun e w' => e = .returned (.tuple #[]) ∧ ∃ L, AllOf M.D L ∧ FSt w (foot p vp vq Fi Fc) w' Fi Fc p ip vp vq cp { M with Y := anewB M.bits M.probes L } := by
  have c1 := h.blk.cell (i := 1) rfl
  have H := Lib.hid h
  obtain ⟨vcap, hvec⟩ := h.vec
  have Hcl := Lib.hid (clear_any w vp vq vcap M.bits M.probes M.Y hvec)
  have Hl := Lib.hid hlen
  clear h hvec
  obtain ⟨zr, hzr, hzr2⟩ := zero_row
  have Hzr := Lib.hid hzr2
  clear hzr2
  go_enter Tryz.func14, Tryz.ntmps14
  go_wp2_with fail
  refine Hcl.out.mono ?_
  rintro e w1 ⟨rfl, hV, hb⟩
  have H1 := Lib.hid ((FSt.refl H.out).vec hV hb)
  clear hV hb c1 Hcl
  go_wp2_with fail
  refine (fall_any w1 Fi Fc p ip vp vq cp _ H1.out.fin Hl.out).mono ?_
  rintro e w2 ⟨L, hL, a, c, rfl, hr, hn, hb⟩
  have HL := Lib.hid hL
  have HR := Lib.hid hr
  have Hn := Lib.hid hn
  have H2 := Lib.hid (H1.out.below hb)
  have HbL := Lib.hid hb.size
  have hLl : L.length ≤ 2^20 := by rw [hL.1.length_eq]; exact hlen
  clear hL hr hb hlen hn
  go_wp2
  go_loopg [14] L.length (fun n i wr => ∃ j : Nat, j ≤ L.length ∧ i = .int .i64 j ∧ Hid (n = L.length - j ∧ FSt w (foot p vp vq Fi Fc) wr Fi Fc p ip vp vq cp { M with Y := anewB M.bits M.probes (L.take j) } ∧ But (foot p vp vq Fi Fc) w2 wr))
  case atStart => exact ⟨0, by omega, rfl, rfl, H2.out, But.refl _ _⟩
  case round =>
    obtain ⟨j, hj, rfl, hn⟩ := hrel
    have Hst := Lib.hid hn.out.2.1
    have Hbu := Lib.hid hn.out.2.2
    have hRr := HR.out.but Hbu.out (fun g o hg hm => by
      have h1 := Hn.out ⟨g, o, none⟩ hg
      have h2 := H1.out.fin.lt g hm
      have h3 : w1.heap.size ≤ g := h1
      omega)
    by_cases hlt : j < L.length
    · have hlt2 : (j : Int) < (L.length : Int) := by omega
      obtain ⟨g, o, rfl, hX⟩ := row_at rowL_length hRr hlt (by omega)
      have HX : Hid (At wr g (o + j * 35) (rowC L[j])) := hX
      have Htk : Hid (anewB M.bits M.probes (L.take (j + 1)) = addB M.bits M.probes (anewB M.bits M.probes (L.take j)) L[j].1) := by
        unfold Hid anewB; rw [List.take_succ_eq_append_getElem hlt, List.foldl_append]; rfl
      clear hX hRr
      generalize L[j] = r at *
      go_wp2_with (first | (refine wpList_load_at rfl 42 (.tmp 16) rfl g (o + j * 35) (by kernel_rfl) (rowC r) HX.out _ Tryz.underlying42 rfl (rowSize r) ?_) | (refine wpList_alloc_new rfl 42 rfl zr (Hzr.out _) ?_) | (refine opIs (X := .store 42 (.tmp 3) (.tmp 17)) rfl ?_; refine wpList_store_new rfl 42 (.tmp 3) (.tmp 17) rfl zr (rowC r) 42 (by kernel_rfl) (by kernel_rfl) (by rw [hzr, rowC_size]) (one_rowL r) (rowSize r) ?_; refine Go.XR.stop (fun X hX => ?_)) | fail)
      refine hX.out ?_
      clear hX X
      obtain ⟨W3, hW3⟩ : ∃ W3, wr.alloc (.cells (rowC r) 42) = W3 := ⟨_, rfl⟩
      have hb3 : Below wr.heap.size wr W3 := by rw [← hW3]; exact (Below.refl _ _).alloc (Nat.le_refl _) _
      have HR3 : Hid (At W3 wr.heap.size 0 (rowC r)) := by unfold Hid; rw [← hW3]; exact At.new _ _ _
      obtain ⟨rb, hrb⟩ : ∃ rb, wr.heap.size = rb := ⟨_, rfl⟩
      rw [hrb] at HR3 ⊢
      rw [hW3]
      have H3 := Lib.hid (Hst.out.below hb3)
      have Hbu3 : Hid (But (foot p vp vq Fi Fc) w2 W3) := Hbu.out.trans (But.of_below hb3)
      have HRk := Lib.hid (row_at_key HR3.out)
      have Hmeas := Lib.hid hn.out.1
      clear hb3 hW3 hrb HX hn Hst Hbu
      have c1 := H3.out.fin.blk.cell (i := 1) rfl
      obtain ⟨vc, hvec⟩ := H3.out.fin.vec
      have Had := Lib.hid (add_any W3.drew vp vq vc M.bits M.probes _ (hvec.but (But.refl [] W3).drew (by simp) (by simp)) r.1)
      clear hvec
      go_wp2
      refine Go.XR.region_sched ((· = W3.drew)) [(0, true), (1, true), (2, true), (3, true), (4, true), (5, true), (6, false)] [6] Tryz.mixed (by kernel_rfl) (by kernel_rfl) (by kernel_rfl) ?_
      simp only [List.map_cons, List.map_nil, List.getElem?_cons_succ, List.getElem?_cons_zero]
      repeat (first | (refine Go.XR.S_light rfl rfl rfl ?_ (fun w' hS K hK => ?_) (fun K hK => ?_); rotate_left 1; (cases hS; (first | (refine Go.XR.wp_load_at 29 (.tmp 22) rfl rb 0 rfl (keyC r.1) (At.drew HRk.out) _ Tryz.underlying29 rfl (keySize _) ?_) | go_step); exact hK); go_step; refine hK _ ?_; clear hK K))
      refine Go.XR.S_heavy (fun K hK => ?_)
      go_step
      ((with_reducible refine (Had.out).mono ?_); rintro e w' ⟨rfl, hV2, hb2⟩)
      have H4 := Lib.hid ((H3.out.below (Below.refl _ _).drew).vec hV2 hb2)
      have Hbu4 : Hid (But (foot p vp vq Fi Fc) w2 w') := (Hbu3.out.drew).trans (hb2.mono (by intro i hi _; rw [List.mem_singleton] at hi; subst hi; exact mem_foot.2 (by simp)))
      clear hV2 hb2 c1 Had
      refine hK _ _ ⟨fun h => by simp at h, ?_⟩
      clear hK K
      repeat (first | (refine Go.XR.S_light rfl rfl rfl ?_ (fun w' hS K hK => ?_) (fun K hK => ?_); rotate_left 1; (cases hS; (first | (refine Go.XR.wp_load_at 29 (.tmp 22) rfl rb 0 rfl (keyC r.1) (At.drew HRk.out) _ Tryz.underlying29 rfl (keySize _) ?_) | go_step); exact hK); go_step; refine hK _ ?_; clear hK K))
      repeat (first | (refine Go.XR.S_heavy (fun K hK => ?_); go_step; refine hK _ _ ⟨fun h => by simp at h, ?_⟩; clear hK K))
      refine Go.XR.S_nil ?_
      go_wp2
      go_roundg (L.length - (j + 1))
      case measure => have := Hmeas.out; omega
      case rel => exact ⟨j + 1, by omega, by go_num, rfl, by rw [Htk.out]; exact H4.out, Hbu4.out⟩
    · have hge : ¬ (j : Int) < (L.length : Int) := by omega
      clear hRr
      go_wp2
      go_end0
      refine ⟨rfl, L, HL.out, ?_⟩
      have := Hst.out
      rw [List.take_of_length_le (by omega)] at this
      exact this
end Go.Proofs.YtnfbchhbcinloaaGreat
