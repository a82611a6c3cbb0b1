/- The walk over the reference's Shelf. -/
import Derived.Test.YtnfbchhbcinloaaRt
namespace Go.Proofs.Ytnfbchhbcinloaa
open Go.RowKit Go.XR Go.IndexPure
/-- a shelf's rows out of the first rows -/
def ShM (R : List RowT) (s : Int) (j : Nat) (l : List RowT) : Prop := l.Pairwise (fun x y => cfS x y < 0) ∧ ∀ x, x ∈ l ↔ x ∈ R.take j ∧ x.2.shelf = s
theorem shelf_skip {R : List RowT} {s : Int} {j : Nat} {l : List RowT} (h : j < R.length) (hm : ShM R s j l) (hs : R[j].2.shelf ≠ s) : ShM R s (j + 1) l := by
  refine ⟨hm.1, fun x => ?_⟩
  rw [hm.2, List.take_succ_eq_append_getElem h, List.mem_append, List.mem_singleton]
  constructor
  · rintro ⟨h1, h2⟩; exact ⟨.inl h1, h2⟩
  · rintro ⟨h1 | h1, h2⟩
    · exact ⟨h1, h2⟩
    · rw [h1] at h2; exact absurd h2 hs
theorem shelf_step {R : List RowT} {s : Int} {j : Nat} {l : List RowT} {r : RowT} {q : Nat} (hR : SrtA R) (h : j < R.length) (hm : ShM R s j l) (hr : R[j] = r) (hs : r.2.shelf = s) (hlo : q ≤ l.length ∧ ∀ p (hp : p < l.length), p < q → l[p].2.slot ≤ r.2.slot) (hhi : ∀ p (hp : p < l.length), p = q → r.2.slot < l[p].2.slot) :
    ShM R s (j + 1) (l.take q ++ r :: l.drop q) := by
  have hkey : ∀ x ∈ l, cfK x.1 r.1 < 0 := fun x hx => by
    obtain ⟨p, hp, h2, rfl⟩ := take_get.1 ((hm.2 x).1 hx).1
    have := List.pairwise_iff_getElem.1 hR p j hp h h2
    rw [hr] at this; exact this
  have hgt : ∀ p (hp : p < l.length), q ≤ p → r.2.slot < l[p].2.slot := fun p hp hqp => by
    by_cases e : p = q
    · exact hhi p hp e
    · have h1 := hhi q (by omega) rfl
      have h2 := List.pairwise_iff_getElem.1 hm.1 q p (by omega) hp (by omega)
      rw [cfS_neg] at h2
      omega
  refine ⟨?_, fun x => ?_⟩
  · have h1 : (l.take q ++ l.drop q).Pairwise (fun x y => cfS x y < 0) := by rw [List.take_append_drop]; exact hm.1
    rw [List.pairwise_append] at h1 ⊢
    refine ⟨h1.1, List.pairwise_cons.2 ⟨fun x hx => ?_, h1.2.1⟩, fun x hx y hy => ?_⟩
    · obtain ⟨p, hp, h2, rfl⟩ := drop_get.1 hx
      rw [cfS_neg]; exact .inl (hgt p hp h2)
    · rcases List.mem_cons.1 hy with rfl | hy
      · obtain ⟨p, hp, h2, rfl⟩ := take_get.1 hx
        have h3 := hlo.2 p hp h2
        have h4 := hkey _ (List.getElem_mem hp)
        rw [cfS_neg]
        rcases Int.lt_or_eq_of_le h3 with h5 | h5
        · exact .inl h5
        · exact .inr ⟨h5, h4⟩
      · exact h1.2.2 x hx y hy
  · rw [List.take_succ_eq_append_getElem h, hr, List.mem_append (s := R.take j), List.mem_singleton]
    have : x ∈ l.take q ++ r :: l.drop q ↔ x = r ∨ x ∈ l := by
      have e : x ∈ l ↔ x ∈ l.take q ∨ x ∈ l.drop q := by rw [← List.mem_append, List.take_append_drop]
      rw [e, List.mem_append, List.mem_cons]
      constructor
      · rintro (h | h | h)
        · exact .inr (.inl h)
        · exact .inl h
        · exact .inr (.inr h)
      · rintro (h | h | h)
        · exact .inr (.inl h)
        · exact .inl h
        · exact .inr (.inr h)
    rw [this, hm.2]
    constructor
    · rintro (h1 | ⟨h1, h2⟩)
      · exact ⟨.inr h1, by rw [h1]; exact hs⟩
      · exact ⟨.inl h1, h2⟩
    · rintro ⟨h1 | h1, h2⟩
      · exact .inr ⟨h1, h2⟩
      · exact .inl h1
theorem shelf_done {D R : List RowT} (hA : AllOf D R) (hD : (D.map (·.1)).Nodup) {s : Int} {l : List RowT} (hm : ShM R s R.length l) : ShelfOf D s l := by
  have hD2 : D.Nodup := List.Pairwise.of_map (·.1) (fun a b h e => h (by rw [e])) hD
  have hl : l.Nodup := hm.1.imp fun {x y} h => by
    rintro rfl
    have := cfS_swap x x
    omega
  refine ⟨(List.perm_ext_iff_of_nodup hl (hD2.sublist List.filter_sublist)).2 fun x => ?_, hm.1⟩
  rw [hm.2, List.take_length, List.mem_filter, hA.1.mem_iff]
  unfold onS
  rw [decide_eq_true_iff]
theorem shm_len {R : List RowT} {s : Int} {j : Nat} {l : List RowT} (h : ShM R s j l) : l.length ≤ R.length := by
  have hl : l.Nodup := h.1.imp fun {x y} h => by
    rintro rfl
    have := cfS_swap x x
    omega
  exact hl.length_le_of_subset fun x hx => List.mem_of_mem_take ((h.2 x).1 hx).1
set_option maxHeartbeats 4000000 in
set_option maxRecDepth 100000 in
theorem refshelf_any (w : World) (b : Nat) (R : List RowT) (F : List Nat) (h : RefIx w b R F) (hR0 : SrtA R) (hlen : R.length ≤ 2^20) (s : I64) :
    Calls Try.prog 29 #[.pointer (some ⟨b, 0, none⟩), .int .i64 s.1] w fun e w' => ∃ L, ShM R s.1 R.length L ∧ RetRows w L e w' := by
  obtain ⟨zr, hzr, hzr2⟩ := zero_row
  have Hzr := Lib.hid hzr2
  obtain ⟨a, c, hB, hR, hc, hcm, hbF, hnil, hx⟩ := h
  have HB := Lib.hid hB
  have HR := Lib.hid hR
  have HR0 := Lib.hid hR0
  clear hB hR hx hnil hzr2 hR0
  go_enter Try.func29, Try.ntmps29
  go_wp2
  go_loopg [6, 5] R.length (fun n i out wr => Below w.heap.size w wr ∧ ∃ (j : Nat) (l : List RowT) (la : Option Addr) (lc : Nat), i = .int .i64 j ∧ out = .slice la l.length lc ∧ Hid (n = R.length - j ∧ j ≤ R.length ∧ ShM R s.1 j l ∧ wr.ownsRow w.heap.size 35 35 (.slice la l.length lc) l.length (l.flatMap rowL)))
  case atStart => exact ⟨Below.refl _ _, 0, [], none, 0, rfl, rfl, rfl, Nat.zero_le _, ⟨List.Pairwise.nil, fun x => by simp⟩, rfl, .inl ⟨rfl, rfl⟩⟩
  case round =>
    obtain ⟨hb, j, l, la, lc, rfl, rfl, hr⟩ := hrel
    have hgn := hr.out.1
    have hj := hr.out.2.1
    have Hm := Lib.hid hr.out.2.2.1
    have Hown := Lib.hid hr.out.2.2.2
    have Hb := Lib.hid hb
    have c0 := (HB.out.below hb).cell (i := 0) rfl
    have hbl : b < wr.heap.size := (HB.out.below hb).lt
    have hll : l.length ≤ 2^20 := Nat.le_trans (shm_len Hm.out) hlen
    have hsz := hb.size
    clear hr hb
    by_cases hlt : j < R.length
    · have hlt2 : (j : Int) < (R.length : Int) := by omega
      obtain ⟨g, oo, rfl, hX⟩ := row_at rowL_length (HR.out.below Hb.out) hlt (by omega)
      have HX : Hid (At wr g (oo + j * 35) (rowC R[j])) := hX
      clear hX
      obtain ⟨r, hr⟩ : ∃ r, R[j] = r := ⟨_, rfl⟩
      have Hsr := Lib.hid hr
      rw [hr] at HX
      clear hr
      have s33 : wr.cell? ⟨g, oo + j * 35 + 33, none⟩ = some (.int .i64 r.2.shelf) := row_at_shelf HX.out
      have hgl : g < wr.heap.size := HX.out.lt (by rw [rowC_size]; omega)
      by_cases hs : r.2.shelf = s.1
      · have Hrs := Lib.hid hs
        rw [hs] at s33
        clear hs
        go_wp2
        go_loopg [7] l.length (fun n i w2 => Below wr.heap.size wr w2 ∧ ∃ q : Nat, i = .int .i64 q ∧ Hid (n = l.length - q ∧ q ≤ l.length ∧ ∀ p (hp : p < l.length), p < q → l[p].2.slot ≤ r.2.slot))
        case atStart => exact ⟨Below.refl _ _, 0, rfl, rfl, Nat.zero_le _, fun p hp h => by omega⟩
        case round =>
          obtain ⟨hbw, q, rfl, hr2⟩ := hrel
          have hgn2 := hr2.out.1
          have Hlo := Lib.hid hr2.out.2
          have HbR := hbw.drew
          have HbRh := Lib.hid HbR
          have Hbw := Lib.hid (Hb.out.trans (hbw.mono hsz))
          have HX2 := Lib.hid (HX.out.below (by rw [rowC_size]; omega) hbw)
          have HB2 := Lib.hid ((HB.out.below Hb.out).below hbw)
          have HownW := Lib.hid (owns_below Hown.out hbw)
          have hszw : w.heap.size ≤ wr.heap.size := Nat.le_trans hsz hbw.size
          have hq := Hlo.out.1
          have c0 := HB2.out.cell (i := 0) rfl
          have f0 := HB2.out.free 0
          have hbl2 : b < wr.heap.size := HB2.out.lt
          have hgl2 : g < wr.heap.size := HX2.out.lt (by rw [rowC_size]; omega)
          have rsl : wr.cell? ⟨g, oo + j * 35 + 34, none⟩ = some (.int .i64 r.2.slot) := row_at_slot HX2.out
          have hlc := (own_shape HownW.out).1
          clear hbw hr2 HX Hown s33 HbR
          by_cases hql : q < l.length
          · have hql2 : (q : Int) < (l.length : Int) := by omega
            obtain ⟨lg, hla⟩ : ∃ lg, la = some ⟨lg, 0, none⟩ := by
              cases h : la with
              | none => have := (own_shape HownW.out).2.2.1 h; omega
              | some x => exact ⟨x.block, by rw [← ((own_shape HownW.out).2.2.2 x h).2.2]⟩
            obtain ⟨lg', lo', he, hY⟩ := row_at rowL_length (Row.owned HownW.out) hql (by omega)
            rw [hla] at he
            injection he with he
            injection he with e1 e2
            subst e1 e2 hla
            have lsl : wr.cell? ⟨lg, q * 35 + 34, none⟩ = some (.int .i64 l[q].2.slot) := by
              have := row_at_slot hY
              rwa [Nat.zero_add] at this
            have hlgl : lg < wr.heap.size := hY.lt (by rw [List.size_toArray, rowL_length]; omega)
            clear hY
            obtain ⟨sx, hsx⟩ : ∃ sx, l[q].2.slot = sx := ⟨_, rfl⟩
            have Hsx := Lib.hid hsx
            rw [hsx] at lsl
            clear hsx
            by_cases hle : sx ≤ r.2.slot
            · have Hlo2 : Hid (∀ p (hp : p < l.length), p < q + 1 → l[p].2.slot ≤ r.2.slot) := fun p hp h => by
                by_cases e : p = q
                · subst e; rw [Hsx.out]; exact hle
                · exact Hlo.out.2 p hp (by omega)
              go_wp2
              refine Go.XR.region_sched ((· = wr.drew)) [(0, true), (1, true), (2, true), (3, true), (4, true), (5, true), (6, true), (7, true), (8, true), (9, true), (10, true), (11, true), (12, true), (13, true), (14, true), (15, true), (16, true), (17, true), (18, true), (19, true), (20, false), (21, false)] [20, 21] Try.mixed (by kernel_rfl) (by kernel_rfl) (by kernel_rfl) ?_
              simp only [List.map_cons, List.map_nil, List.getElem?_cons_succ, List.getElem?_cons_zero]
              repeat (first | (refine Go.XR.S_light rfl rfl rfl ?_ (fun w' hS K hK => ?_) (fun K hK => ?_); rotate_left 1; (cases hS; go_step; exact hK); go_step; refine hK _ ?_; clear hK K) | (refine Go.XR.S_light_off rfl rfl (fun K hK => ?_); go_step; refine hK _ ?_; clear hK K) | (refine Go.XR.S_light_on rfl rfl rfl rfl ?_ (fun w' hS K hK => ?_) (fun K hK => ?_); rotate_left 1; (cases hS; go_step; exact hK); go_step; refine hK _ ?_; clear hK K))
              repeat (first | (refine Go.XR.S_heavy (fun K hK => ?_); go_step; refine hK _ _ ⟨fun h => by simp at h, ?_⟩; clear hK K) | (refine Go.XR.S_heavy_off rfl (fun h => by simp at h) (fun K hK => ?_); go_step; refine hK _ ?_; clear hK K) | (refine Go.XR.S_heavy_on rfl (fun K hK => ?_); go_step; refine hK _ _ ⟨fun h => by simp at h, ?_⟩; clear hK K))
              refine Go.XR.S_nil ?_
              go_wp2
              go_roundg (l.length - (q + 1))
              case measure => omega
              case rel => exact ⟨HbRh.out, q + 1, by go_num, rfl, by omega, Hlo2.out⟩
            · have Hhi : Hid (∀ p (hp : p < l.length), p = q → r.2.slot < l[p].2.slot) := fun p hp e => by subst e; rw [Hsx.out]; omega
              go_wp2
              refine Go.XR.region_sched ((· = wr.drew)) [(0, true), (1, true), (2, true), (3, true), (4, true), (5, true), (6, true), (7, true), (8, true), (9, true), (10, true), (11, true), (12, true), (13, true), (14, true), (15, true), (16, true), (17, true), (18, true), (19, true), (20, false), (21, false)] [20, 21] Try.mixed (by kernel_rfl) (by kernel_rfl) (by kernel_rfl) ?_
              simp only [List.map_cons, List.map_nil, List.getElem?_cons_succ, List.getElem?_cons_zero]
              repeat (first | (refine Go.XR.S_light rfl rfl rfl ?_ (fun w' hS K hK => ?_) (fun K hK => ?_); rotate_left 1; (cases hS; go_step; exact hK); go_step; refine hK _ ?_; clear hK K) | (refine Go.XR.S_light_off rfl rfl (fun K hK => ?_); go_step; refine hK _ ?_; clear hK K) | (refine Go.XR.S_light_on rfl rfl rfl rfl ?_ (fun w' hS K hK => ?_) (fun K hK => ?_); rotate_left 1; (cases hS; go_step; exact hK); go_step; refine hK _ ?_; clear hK K))
              repeat (first | (refine Go.XR.S_heavy (fun K hK => ?_); go_step; refine hK _ _ ⟨fun h => by simp at h, ?_⟩; clear hK K) | (refine Go.XR.S_heavy_off rfl (fun h => by simp at h) (fun K hK => ?_); go_step; refine hK _ ?_; clear hK K) | (refine Go.XR.S_heavy_on rfl (fun K hK => ?_); go_step; refine hK _ _ ⟨fun h => by simp at h, ?_⟩; clear hK K))
              refine Go.XR.S_nil ?_
              have hti : (l.take q).length = q := by rw [List.length_take]; omega
              have Hti := Lib.hid hti
              have HRt : Hid (Row wr (some (⟨lg, 0, none⟩ : Addr)) ((l.take q).flatMap rowL)) := by
                have h1 := (Row.owned HownW.out).take (q * 35)
                rwa [flat_take rowL_length l hq] at h1
              have hqc : (q : Int) ≤ (lc : Int) := by omega
              have hqll : (q : Int) ≤ (l.length : Int) := by omega
              clear hti
              go_wp2_with (at_builtin; refine Go.XR.stop (fun X hX => ?_))
              refine hX.out ?_
              clear hX X
              obtain ⟨T1, hT1⟩ : ∃ T1, l.take q = T1 := ⟨_, rfl⟩
              have HT1 := Lib.hid hT1
              rw [hT1] at HRt Hti
              clear hT1
              obtain ⟨nb, hnb⟩ : ∃ nb, wr.heap.size = nb := ⟨_, rfl⟩
              have Hnb := Lib.hid hnb
              have hnbW : w.heap.size ≤ nb := by rw [← hnb]; exact hszw
              obtain ⟨w2, hw2⟩ : ∃ w2, (wr.alloc (.cells #[] 35)).drew = w2 := ⟨_, rfl⟩
              have hb2 : Below nb wr w2 := by rw [← hw2, ← hnb]; exact ((Below.refl _ _).alloc (Nat.le_refl _) _).drew
              have ho2 : w2.ownsRow nb 35 35 (.slice (some ⟨nb, 0, none⟩) ([] : List RowT).length 0) ([] : List RowT).length (([] : List RowT).flatMap rowL) := by
                rw [← hw2, ← hnb]
                exact ⟨rfl, .inr ⟨wr.heap.size, 0, #[], rfl, Nat.le_refl _, (MapKept.heap_alloc wr _).1, Nat.le_refl _, by unfold maxLen; omega, rfl, rfl⟩⟩
              have hs2 : nb ≤ w2.heap.size := by rw [← hw2, ← hnb]; show wr.heap.size ≤ (wr.alloc _).heap.size; simp
              rw [hw2, hnb]
              have Ho2 := Lib.hid ho2
              have HR2 := Lib.hid (HRt.out.below (by rw [hnb]; exact hb2))
              have Hb2 := Lib.hid hb2
              have hnilA := (own_shape HownW.out).2.2.1
              clear hw2 ho2 hb2 HRt hnb c0 f0
              refine wpList_plain rfl (fun K hK => ?_)
              refine append_enc (P := Try.prog) rowL 35 56 rowL_length one_rowL 35 Try.underlying46 (by kernel_rfl) (by decide) nb (some ⟨nb, 0, none⟩) 0 [] rfl Ho2.out (some (⟨lg, 0, none⟩ : Addr)) lc T1 (by rw [Hti.out]; rfl) HR2.out (fun e => by
                have h1 := hnilA e
                have := Hti.out
                omega) (by have := Hti.out; simp; omega) (by have := Hti.out; unfold maxLen; simp; omega) hs2 ?_
              intro a3 c3 w3 ho3 hb3 _ _
              rw [List.nil_append] at ho3 ⊢
              have Ho3 := Lib.hid ho3
              have Hb3 := Lib.hid (Hb2.out.trans hb3)
              have hs3 : nb ≤ w3.heap.size := Nat.le_trans hs2 hb3.size
              have HX3 := Lib.hid (HX2.out.below (by rw [rowC_size]; omega) (by rw [Hnb.out]; exact Hb3.out))
              have HB3 := Lib.hid (HB2.out.below (by rw [Hnb.out]; exact Hb3.out))
              have c0 := HB3.out.cell (i := 0) rfl
              clear ho3 hb3 Ho2 HR2 Hb2 hs2 hnilA
              go_wp2_with (first | (refine wpList_load_at rfl 35 (.tmp 64) rfl g (oo + j * 35) (by kernel_rfl) (rowC r) HX3.out _ Try.underlying35 rfl (rowSize r) ?_) | (refine wpList_build_one rfl 46 (.tmp 65) rfl 35 35 Try.underlying46 (by kernel_rfl) (by omega) (by omega) _ (Hzr.out _) (rowC r) rfl (rowC_size _) ?_) | (at_builtin; refine Go.XR.stop (fun X hX => ?_)))
              refine hX.out ?_
              clear hX X
              refine wpList_plain rfl (fun K hK => ?_)
              refine append_enc (P := Try.prog) rowL 35 56 rowL_length one_rowL 35 Try.underlying46 (by kernel_rfl) (by decide) nb a3 c3 T1 rfl (Ho3.out.alloc _) (some ⟨w3.heap.size, 0, none⟩) 1 [r] rfl (by rw [List.flatMap_cons, List.flatMap_nil, List.append_nil]; exact Row.new _ _ _) (fun e => by cases e) (by have := Hti.out; simp; omega) (by have := Hti.out; unfold maxLen; simp; omega) (by simp; omega) ?_
              intro a4 c4 w4 ho4 hb4 _ _
              have Ho4 := Lib.hid ho4
              have Hb4 := Lib.hid (Hb3.out.trans (((Below.refl nb w3).alloc hs3 _).trans hb4))
              have hs4 : nb ≤ w4.heap.size := Nat.le_trans hs3 (Nat.le_trans (by simp) hb4.size)
              clear ho4 hb4 Ho3 Hb3 HX3 HB3 hs3 c0
              obtain ⟨T2, hT2⟩ : ∃ T2, T1 ++ [r] = T2 := ⟨_, rfl⟩
              have HT2 := Lib.hid hT2
              have Ht2 : Hid (T2.length ≤ l.length + 1) := by unfold Hid; rw [← hT2, List.length_append]; have := Hti.out; simp; omega
              rw [hT2] at Ho4 ⊢
              clear hT2
              have HR4 := Lib.hid ((Row.owned HownW.out).below (by rw [Hnb.out]; exact Hb4.out))
              have hshp := (own_shape HownW.out).2.2
              have hdl : (l.drop q).length = l.length - q := List.length_drop
              by_cases hcj : lc = q
              · have hd0 : l.drop q = [] := List.drop_eq_nil_of_le (by omega)
                have Hdr : Hid (Row w4 (some (⟨lg, 0, none⟩ : Addr)) ((l.drop q).flatMap rowL)) := .inl (by rw [hd0]; rfl)
                have Hdl : Hid (l.length - q = (l.drop q).length ∧ lc - q = 0) := ⟨hdl.symm, by omega⟩
                clear hd0 hdl hshp
                go_wp2_with (at_builtin; refine Go.XR.stop (fun X hX => ?_))
                refine hX.out ?_
                clear hX X
                refine wpList_plain rfl (fun K hK => ?_)
                refine append_encN (P := Try.prog) rowL 35 56 rowL_length one_rowL 35 Try.underlying46 (by kernel_rfl) (by decide) nb a4 c4 T2 rfl Ho4.out _ _ _ (l.drop q) rfl Hdl.out.1 Hdr.out (fun _ => ⟨(by have := Hdl.out; omega), (by have := Hdl.out; omega)⟩) (by have := Ht2.out; rw [List.length_drop]; omega) (by have := Ht2.out; unfold maxLen; rw [List.length_drop]; omega) hs4 ?_
                intro a5 c5 w5 ho5 hb5
                have hT : T2 ++ l.drop q = l.take q ++ r :: l.drop q := by rw [← HT2.out, ← HT1.out, List.append_assoc]; rfl
                rw [hT] at ho5 ⊢
                have Hown5 := Lib.hid (owns_base ho5 hnbW)
                have HbE := Lib.hid (Hbw.out.trans (((Hb4.out.trans hb5)).mono hnbW))
                have Hmn := Lib.hid (shelf_step (s := s.1) HR0.out hlt Hm.out Hsr.out Hrs.out Hlo.out Hhi.out)
                clear ho5 hb5 hT
                obtain ⟨l2, hl2⟩ : ∃ l2, l.take q ++ r :: l.drop q = l2 := ⟨_, rfl⟩
                rw [hl2] at Hown5 Hmn ⊢
                clear hl2
                go_wp2
                go_roundg (R.length - (j + 1))
                case measure => omega
                case rel => exact ⟨HbE.out, j + 1, l2, a5, c5, by go_num, rfl, rfl, by omega, Hmn.out, Hown5.out⟩
              · obtain ⟨lg2, hag⟩ : ∃ lg2, (some (⟨lg, 0, none⟩ : Addr)) = some (⟨lg2, 0, none⟩ : Addr) := by
                  cases ha : (some (⟨lg, 0, none⟩ : Addr)) with
                  | none => have := hshp.1 ha; omega
                  | some x => exact ⟨x.block, by rw [← (hshp.2 x ha).2.2]⟩
                have Hdr : Hid (Row w4 (some ⟨lg2, q * 35, none⟩) ((l.drop q).flatMap rowL)) := by
                  rcases HR4.out with h1 | ⟨g', o', he, h1⟩
                  · have := flat_len rowL_length l
                    rw [h1] at this
                    have h2 : l = [] := List.eq_nil_of_length_eq_zero (by rw [List.length_nil] at this; omega)
                    rw [h2]; exact .inl (by simp)
                  · rw [hag] at he
                    injection he with he
                    injection he with e1 e2
                    subst e1 e2
                    refine .inr ⟨_, q * 35, rfl, fun p u hp => ?_⟩
                    have h3 := flat_drop rowL_length l hq
                    rw [← h3, List.getElem?_drop] at hp
                    have := h1 _ u hp
                    rwa [Nat.zero_add] at this
                clear hshp
                (injection hag with hag; injection hag with hag; subst hag)
                go_wp2_with (at_builtin; refine Go.XR.stop (fun X hX => ?_))
                refine hX.out ?_
                clear hX X
                refine wpList_plain rfl (fun K hK => ?_)
                refine append_encN (P := Try.prog) rowL 35 56 rowL_length one_rowL 35 Try.underlying46 (by kernel_rfl) (by decide) nb a4 c4 T2 rfl Ho4.out _ _ _ (l.drop q) rfl hdl.symm Hdr.out (fun e => by cases e) (by have := Ht2.out; rw [List.length_drop]; omega) (by have := Ht2.out; unfold maxLen; rw [List.length_drop]; omega) hs4 ?_
                intro a5 c5 w5 ho5 hb5
                have hT : T2 ++ l.drop q = l.take q ++ r :: l.drop q := by rw [← HT2.out, ← HT1.out, List.append_assoc]; rfl
                rw [hT] at ho5 ⊢
                have Hown5 := Lib.hid (owns_base ho5 hnbW)
                have HbE := Lib.hid (Hbw.out.trans (((Hb4.out.trans hb5)).mono hnbW))
                have Hmn := Lib.hid (shelf_step (s := s.1) HR0.out hlt Hm.out Hsr.out Hrs.out Hlo.out Hhi.out)
                clear ho5 hb5 hT
                obtain ⟨l2, hl2⟩ : ∃ l2, l.take q ++ r :: l.drop q = l2 := ⟨_, rfl⟩
                rw [hl2] at Hown5 Hmn ⊢
                clear hl2
                go_wp2
                go_roundg (R.length - (j + 1))
                case measure => omega
                case rel => exact ⟨HbE.out, j + 1, l2, a5, c5, by go_num, rfl, rfl, by omega, Hmn.out, Hown5.out⟩
          · have hge2 : ¬ (q : Int) < (l.length : Int) := by omega
            have Hhi : Hid (∀ p (hp : p < l.length), p = q → r.2.slot < l[p].2.slot) := fun p hp e => by omega
            go_wp2
            refine Go.XR.region_sched ((· = wr.drew)) [(0, true), (1, true), (2, true), (3, true), (4, true), (5, true), (6, true), (7, true), (8, true), (9, true), (10, true), (11, true), (12, true), (13, true), (14, true), (15, true), (16, true), (17, true), (18, true), (19, true), (20, false), (21, false)] [20, 21] Try.mixed (by kernel_rfl) (by kernel_rfl) (by kernel_rfl) ?_
            simp only [List.map_cons, List.map_nil, List.getElem?_cons_succ, List.getElem?_cons_zero]
            repeat (first | (refine Go.XR.S_light rfl rfl rfl ?_ (fun w' hS K hK => ?_) (fun K hK => ?_); rotate_left 1; (cases hS; go_step; exact hK); go_step; refine hK _ ?_; clear hK K) | (refine Go.XR.S_light_off rfl rfl (fun K hK => ?_); go_step; refine hK _ ?_; clear hK K) | (refine Go.XR.S_light_on rfl rfl rfl rfl ?_ (fun w' hS K hK => ?_) (fun K hK => ?_); rotate_left 1; (cases hS; go_step; exact hK); go_step; refine hK _ ?_; clear hK K))
            repeat (first | (refine Go.XR.S_heavy (fun K hK => ?_); go_step; refine hK _ _ ⟨fun h => by simp at h, ?_⟩; clear hK K) | (refine Go.XR.S_heavy_off rfl (fun h => by simp at h) (fun K hK => ?_); go_step; refine hK _ ?_; clear hK K) | (refine Go.XR.S_heavy_on rfl (fun K hK => ?_); go_step; refine hK _ _ ⟨fun h => by simp at h, ?_⟩; clear hK K))
            refine Go.XR.S_nil ?_
            have hti : (l.take q).length = q := by rw [List.length_take]; omega
            have Hti := Lib.hid hti
            have HRt : Hid (Row wr la ((l.take q).flatMap rowL)) := by
              have h1 := (Row.owned HownW.out).take (q * 35)
              rwa [flat_take rowL_length l hq] at h1
            have hqc : (q : Int) ≤ (lc : Int) := by omega
            have hqll : (q : Int) ≤ (l.length : Int) := by omega
            clear hti
            go_wp2_with (at_builtin; refine Go.XR.stop (fun X hX => ?_))
            refine hX.out ?_
            clear hX X
            obtain ⟨T1, hT1⟩ : ∃ T1, l.take q = T1 := ⟨_, rfl⟩
            have HT1 := Lib.hid hT1
            rw [hT1] at HRt Hti
            clear hT1
            obtain ⟨nb, hnb⟩ : ∃ nb, wr.heap.size = nb := ⟨_, rfl⟩
            have Hnb := Lib.hid hnb
            have hnbW : w.heap.size ≤ nb := by rw [← hnb]; exact hszw
            obtain ⟨w2, hw2⟩ : ∃ w2, (wr.alloc (.cells #[] 35)).drew = w2 := ⟨_, rfl⟩
            have hb2 : Below nb wr w2 := by rw [← hw2, ← hnb]; exact ((Below.refl _ _).alloc (Nat.le_refl _) _).drew
            have ho2 : w2.ownsRow nb 35 35 (.slice (some ⟨nb, 0, none⟩) ([] : List RowT).length 0) ([] : List RowT).length (([] : List RowT).flatMap rowL) := by
              rw [← hw2, ← hnb]
              exact ⟨rfl, .inr ⟨wr.heap.size, 0, #[], rfl, Nat.le_refl _, (MapKept.heap_alloc wr _).1, Nat.le_refl _, by unfold maxLen; omega, rfl, rfl⟩⟩
            have hs2 : nb ≤ w2.heap.size := by rw [← hw2, ← hnb]; show wr.heap.size ≤ (wr.alloc _).heap.size; simp
            rw [hw2, hnb]
            have Ho2 := Lib.hid ho2
            have HR2 := Lib.hid (HRt.out.below (by rw [hnb]; exact hb2))
            have Hb2 := Lib.hid hb2
            have hnilA := (own_shape HownW.out).2.2.1
            clear hw2 ho2 hb2 HRt hnb c0 f0
            refine wpList_plain rfl (fun K hK => ?_)
            refine append_enc (P := Try.prog) rowL 35 56 rowL_length one_rowL 35 Try.underlying46 (by kernel_rfl) (by decide) nb (some ⟨nb, 0, none⟩) 0 [] rfl Ho2.out la lc T1 (by rw [Hti.out]; rfl) HR2.out (fun e => by
              have h1 := hnilA e
              have := Hti.out
              omega) (by have := Hti.out; simp; omega) (by have := Hti.out; unfold maxLen; simp; omega) hs2 ?_
            intro a3 c3 w3 ho3 hb3 _ _
            rw [List.nil_append] at ho3 ⊢
            have Ho3 := Lib.hid ho3
            have Hb3 := Lib.hid (Hb2.out.trans hb3)
            have hs3 : nb ≤ w3.heap.size := Nat.le_trans hs2 hb3.size
            have HX3 := Lib.hid (HX2.out.below (by rw [rowC_size]; omega) (by rw [Hnb.out]; exact Hb3.out))
            have HB3 := Lib.hid (HB2.out.below (by rw [Hnb.out]; exact Hb3.out))
            have c0 := HB3.out.cell (i := 0) rfl
            clear ho3 hb3 Ho2 HR2 Hb2 hs2 hnilA
            go_wp2_with (first | (refine wpList_load_at rfl 35 (.tmp 64) rfl g (oo + j * 35) (by kernel_rfl) (rowC r) HX3.out _ Try.underlying35 rfl (rowSize r) ?_) | (refine wpList_build_one rfl 46 (.tmp 65) rfl 35 35 Try.underlying46 (by kernel_rfl) (by omega) (by omega) _ (Hzr.out _) (rowC r) rfl (rowC_size _) ?_) | (at_builtin; refine Go.XR.stop (fun X hX => ?_)))
            refine hX.out ?_
            clear hX X
            refine wpList_plain rfl (fun K hK => ?_)
            refine append_enc (P := Try.prog) rowL 35 56 rowL_length one_rowL 35 Try.underlying46 (by kernel_rfl) (by decide) nb a3 c3 T1 rfl (Ho3.out.alloc _) (some ⟨w3.heap.size, 0, none⟩) 1 [r] rfl (by rw [List.flatMap_cons, List.flatMap_nil, List.append_nil]; exact Row.new _ _ _) (fun e => by cases e) (by have := Hti.out; simp; omega) (by have := Hti.out; unfold maxLen; simp; omega) (by simp; omega) ?_
            intro a4 c4 w4 ho4 hb4 _ _
            have Ho4 := Lib.hid ho4
            have Hb4 := Lib.hid (Hb3.out.trans (((Below.refl nb w3).alloc hs3 _).trans hb4))
            have hs4 : nb ≤ w4.heap.size := Nat.le_trans hs3 (Nat.le_trans (by simp) hb4.size)
            clear ho4 hb4 Ho3 Hb3 HX3 HB3 hs3 c0
            obtain ⟨T2, hT2⟩ : ∃ T2, T1 ++ [r] = T2 := ⟨_, rfl⟩
            have HT2 := Lib.hid hT2
            have Ht2 : Hid (T2.length ≤ l.length + 1) := by unfold Hid; rw [← hT2, List.length_append]; have := Hti.out; simp; omega
            rw [hT2] at Ho4 ⊢
            clear hT2
            have HR4 := Lib.hid ((Row.owned HownW.out).below (by rw [Hnb.out]; exact Hb4.out))
            have hshp := (own_shape HownW.out).2.2
            have hdl : (l.drop q).length = l.length - q := List.length_drop
            by_cases hcj : lc = q
            · have hd0 : l.drop q = [] := List.drop_eq_nil_of_le (by omega)
              have Hdr : Hid (Row w4 la ((l.drop q).flatMap rowL)) := .inl (by rw [hd0]; rfl)
              have Hdl : Hid (l.length - q = (l.drop q).length ∧ lc - q = 0) := ⟨hdl.symm, by omega⟩
              clear hd0 hdl hshp
              go_wp2_with (at_builtin; refine Go.XR.stop (fun X hX => ?_))
              refine hX.out ?_
              clear hX X
              refine wpList_plain rfl (fun K hK => ?_)
              refine append_encN (P := Try.prog) rowL 35 56 rowL_length one_rowL 35 Try.underlying46 (by kernel_rfl) (by decide) nb a4 c4 T2 rfl Ho4.out _ _ _ (l.drop q) rfl Hdl.out.1 Hdr.out (fun _ => ⟨(by have := Hdl.out; omega), (by have := Hdl.out; omega)⟩) (by have := Ht2.out; rw [List.length_drop]; omega) (by have := Ht2.out; unfold maxLen; rw [List.length_drop]; omega) hs4 ?_
              intro a5 c5 w5 ho5 hb5
              have hT : T2 ++ l.drop q = l.take q ++ r :: l.drop q := by rw [← HT2.out, ← HT1.out, List.append_assoc]; rfl
              rw [hT] at ho5 ⊢
              have Hown5 := Lib.hid (owns_base ho5 hnbW)
              have HbE := Lib.hid (Hbw.out.trans (((Hb4.out.trans hb5)).mono hnbW))
              have Hmn := Lib.hid (shelf_step (s := s.1) HR0.out hlt Hm.out Hsr.out Hrs.out Hlo.out Hhi.out)
              clear ho5 hb5 hT
              obtain ⟨l2, hl2⟩ : ∃ l2, l.take q ++ r :: l.drop q = l2 := ⟨_, rfl⟩
              rw [hl2] at Hown5 Hmn ⊢
              clear hl2
              go_wp2
              go_roundg (R.length - (j + 1))
              case measure => omega
              case rel => exact ⟨HbE.out, j + 1, l2, a5, c5, by go_num, rfl, rfl, by omega, Hmn.out, Hown5.out⟩
            · obtain ⟨lg2, hag⟩ : ∃ lg2, la = some (⟨lg2, 0, none⟩ : Addr) := by
                cases ha : la with
                | none => have := hshp.1 ha; omega
                | some x => exact ⟨x.block, by rw [← (hshp.2 x ha).2.2]⟩
              have Hdr : Hid (Row w4 (some ⟨lg2, q * 35, none⟩) ((l.drop q).flatMap rowL)) := by
                rcases HR4.out with h1 | ⟨g', o', he, h1⟩
                · have := flat_len rowL_length l
                  rw [h1] at this
                  have h2 : l = [] := List.eq_nil_of_length_eq_zero (by rw [List.length_nil] at this; omega)
                  rw [h2]; exact .inl (by simp)
                · rw [hag] at he
                  injection he with he
                  injection he with e1 e2
                  subst e1 e2
                  refine .inr ⟨_, q * 35, rfl, fun p u hp => ?_⟩
                  have h3 := flat_drop rowL_length l hq
                  rw [← h3, List.getElem?_drop] at hp
                  have := h1 _ u hp
                  rwa [Nat.zero_add] at this
              clear hshp
              subst hag
              go_wp2_with (at_builtin; refine Go.XR.stop (fun X hX => ?_))
              refine hX.out ?_
              clear hX X
              refine wpList_plain rfl (fun K hK => ?_)
              refine append_encN (P := Try.prog) rowL 35 56 rowL_length one_rowL 35 Try.underlying46 (by kernel_rfl) (by decide) nb a4 c4 T2 rfl Ho4.out _ _ _ (l.drop q) rfl hdl.symm Hdr.out (fun e => by cases e) (by have := Ht2.out; rw [List.length_drop]; omega) (by have := Ht2.out; unfold maxLen; rw [List.length_drop]; omega) hs4 ?_
              intro a5 c5 w5 ho5 hb5
              have hT : T2 ++ l.drop q = l.take q ++ r :: l.drop q := by rw [← HT2.out, ← HT1.out, List.append_assoc]; rfl
              rw [hT] at ho5 ⊢
              have Hown5 := Lib.hid (owns_base ho5 hnbW)
              have HbE := Lib.hid (Hbw.out.trans (((Hb4.out.trans hb5)).mono hnbW))
              have Hmn := Lib.hid (shelf_step (s := s.1) HR0.out hlt Hm.out Hsr.out Hrs.out Hlo.out Hhi.out)
              clear ho5 hb5 hT
              obtain ⟨l2, hl2⟩ : ∃ l2, l.take q ++ r :: l.drop q = l2 := ⟨_, rfl⟩
              rw [hl2] at Hown5 Hmn ⊢
              clear hl2
              go_wp2
              go_roundg (R.length - (j + 1))
              case measure => omega
              case rel => exact ⟨HbE.out, j + 1, l2, a5, c5, by go_num, rfl, rfl, by omega, Hmn.out, Hown5.out⟩
      · have hne : ¬ r.2.shelf = s.1 := hs
        have Hsk : Hid (ShM R s.1 (j + 1) l) := shelf_skip hlt Hm.out (by rw [Hsr.out]; exact hs)
        clear hs
        go_wp2
        go_roundg (R.length - (j + 1))
        case measure => omega
        case rel => exact ⟨Hb.out, j + 1, l, la, lc, by go_num, rfl, rfl, by omega, Hsk.out, Hown.out⟩
    · have hge : ¬ (j : Int) < (R.length : Int) := by omega
      have Hme : Hid (ShM R s.1 R.length l) := by have := Hm.out; rwa [show j = R.length by omega] at this
      have Hos : Hid (∀ x, la = some x → w.heap.size ≤ x.block) := fun x hx => ((own_shape Hown.out).2.2.2 x hx).1
      go_wp2
      go_ret
      exact ⟨l, Hme.out, la, lc, rfl, Row.owned Hown.out, Hos.out, Hb.out⟩
end Go.Proofs.Ytnfbchhbcinloaa
