/- The walk over the statement IndexParts. -/
import Derived.Test.YtnfbchhbcinloaaSf
namespace Go.Proofs.Ytnfbchhbcinloaa
open Go.RowKit Go.XR Go.IndexPure
theorem own_all {B : Nat} {w : World} {p : Nat} {D : List RowT} (h : Own B w p D) (hlen : D.length ≤ 2^20) :
    Calls Try.prog 20 #[.pointer (some ⟨p, 0, none⟩)] w fun e w' => ∃ L, AllOf D L ∧ RetRows w L e w' := by
  obtain ⟨F, ⟨pb, tb, sb, T, Sh, L, h1, h2⟩, h3⟩ := h
  exact all_any w p pb tb sb D h1.blk h1.places hlen
theorem own_shelf {B : Nat} {w : World} {p : Nat} {D : List RowT} (h : Own B w p D) (hlen : D.length ≤ 2^20) (s : Int) (hs : -9223372036854775808 ≤ s ∧ s ≤ 9223372036854775807) :
    Calls Try.prog 23 #[.pointer (some ⟨p, 0, none⟩), .int .i64 s] w fun e w' => ∃ L, ShelfOf D s L ∧ RetRows w L e w' := by
  obtain ⟨F, ⟨pb, tb, sb, T, Sh, L, h1, h2⟩, h3⟩ := h
  cases hsh : aget Sh ⟨s, hs⟩ with
  | none =>
    refine (shelf_none w p pb tb sb Sh h1.blk h1.shelves ⟨s, hs⟩ hsh).mono ?_
    intro e w' h
    refine ⟨[], ⟨?_, List.Pairwise.nil⟩, h⟩
    have : D.filter (onS s) = [] := by
      rw [List.filter_eq_nil_iff]
      intro r hr hon
      have h4 := (aget_mem h2.nd).2 (show (r.1, r.2) ∈ D from hr)
      obtain ⟨m, hm, _⟩ := (h2.sh ⟨s, hs⟩ r.1).2 ⟨r.2, h4, of_decide_eq_true hon⟩
      rw [hsh] at hm; cases hm
    rw [this]
  | some m =>
    refine shelf_some w p pb tb sb m D Sh (L m) h1.blk h1.places h1.shelves ⟨s, hs⟩ hsh (h1.shelf _ _ hsh).2.1 (fun k => ?_) hlen
    rw [← h2.sh ⟨s, hs⟩ k]
    constructor
    · exact fun h => ⟨m, hsh, h⟩
    · rintro ⟨n, hn, hc⟩
      rw [hsh] at hn; injection hn with hn; subst hn; exact hc
theorem Own.rng {B : Nat} {w : World} {p : Nat} {D : List RowT} (h : Own B w p D) : ∀ k v, aget D k = some v → PlaceOk v := by
  obtain ⟨F, ⟨pb, tb, sb, T, Sh, L, h1, h2⟩, h3⟩ := h; exact h2.rng
theorem Own.nd {B : Nat} {w : World} {p : Nat} {D : List RowT} (h : Own B w p D) : (D.map (·.1)).Nodup := by
  obtain ⟨F, h1, h3⟩ := h; exact h1.nd
theorem AllOf.ok {D L : List RowT} (h : AllOf D L) (hD : (D.map (·.1)).Nodup) (hr : ∀ k v, aget D k = some v → PlaceOk v) : RowsOk L := fun r hm => hr r.1 r.2 ((aget_mem hD).2 (h.1.mem_iff.1 hm))
theorem ShelfOf.ok {D L : List RowT} {s : Int} (h : ShelfOf D s L) (hD : (D.map (·.1)).Nodup) (hr : ∀ k v, aget D k = some v → PlaceOk v) : RowsOk L := fun r hm => hr r.1 r.2 ((aget_mem hD).2 (List.mem_filter.1 (h.1.mem_iff.1 hm)).1)
theorem ShelfOf.len {D L : List RowT} {s : Int} (h : ShelfOf D s L) : L.length ≤ D.length := by rw [h.1.length_eq]; exact List.length_filter_le _ _
theorem cfA_irrefl (x y : RowT) (h : cfA x y < 0) : x ≠ y := by
  rintro rfl
  have := cfK_swap x.1 x.1
  unfold cfA at h; omega
theorem AllOf.nodup {D L : List RowT} (h : AllOf D L) : L.Nodup := h.2.imp fun {x y} h => cfA_irrefl x y h
theorem ShelfOf.nodup {D L : List RowT} {s : Int} (h : ShelfOf D s L) : L.Nodup := h.2.imp fun {x y} h => by
  rintro rfl
  have := cfS_swap x x
  omega
/-- how often something stands in a list -/
def cnt {α : Type} [DecidableEq α] (l : List α) (x : α) : Nat := (l.filter fun y => decide (y = x)).length
theorem cnt_step {α : Type} [DecidableEq α] (l : List α) (x : α) {q : Nat} (hq : q < l.length) : cnt (l.take (q + 1)) x = cnt (l.take q) x + if l[q] = x then 1 else 0 := by
  unfold cnt
  rw [List.take_succ_eq_append_getElem hq, List.filter_append, List.length_append]
  congr 1
  by_cases h : l[q] = x
  · rw [if_pos h, List.filter_cons_of_pos (by simpa using h)]; rfl
  · rw [if_neg h, List.filter_cons_of_neg (by simpa using h)]; rfl
theorem cnt_le {α : Type} [DecidableEq α] (l : List α) (x : α) : cnt l x ≤ l.length := List.length_filter_le _ _
theorem cnt_one {α : Type} [DecidableEq α] {l : List α} {x : α} (h : l.Nodup) (hm : x ∈ l) : cnt l x = 1 := by
  induction l with
  | nil => cases hm
  | cons y l ih =>
    rw [List.nodup_cons] at h
    unfold cnt
    by_cases e : y = x
    · rw [List.filter_cons_of_pos (by simpa using e), List.length_cons]
      have : l.filter (fun y => decide (y = x)) = [] := by
        rw [List.filter_eq_nil_iff]
        intro z hz hzx
        have : z = x := by simpa using hzx
        exact h.1 (by rw [e, ← this]; exact hz)
      rw [this]; rfl
    · rw [List.filter_cons_of_neg (by simpa using e)]
      exact ih h.2 (by rcases List.mem_cons.1 hm with h1 | h1; exact absurd h1.symm e; exact h1)
set_option maxHeartbeats 8000000 in
set_option maxRecDepth 100000 in
theorem parts_walk (w : World) (a : Option Addr) (c : Nat) (l : List ActT) (hR : Row w a (l.flatMap actL)) (hl : l.length ≤ maxLen) (hc : l.length ≤ c) :
    Calls Try.prog 6 #[.slice a l.length c] w (RetBool w true) := by
  obtain ⟨zs, hzs, hz⟩ := zero_act
  have Hz := Lib.hid hz
  obtain ⟨zp, hzp, hzq⟩ : ∃ zp : Array Value, zp.size = 2 ∧ ∀ w, (zeroValue 33).run Try.prog w = .ok (.agg zp) w := ⟨_, rfl, fun w => Try.zeroValue33 w⟩
  have Hzq := Lib.hid hzq
  obtain ⟨zr, hzr, hzr2⟩ := zero_row
  have Hzr := Lib.hid hzr2
  obtain ⟨zk, hzk, hzk2⟩ := zero_key
  have Hzk := Lib.hid hzk2
  clear hz hzq hzr2 hzk2
  have HR := Lib.hid hR
  clear hR
  go_enter Try.func6, Try.ntmps6
  go_wp2_with fail
  refine (shown_any w).mono ?_
  rintro e w1 ⟨rfl, hb1⟩
  have Hb1 := Lib.hid hb1
  clear hb1
  go_wp2_with fail
  refine (new_any w1).mono ?_
  intro e w2 h2
  obtain ⟨p, F, rfl, hI, hF, hb2⟩ := h2.ix
  clear h2
  have HI := Lib.hid hI
  have HF := Lib.hid hF
  have Hb2 := Lib.hid hb2
  clear hI hF hb2
  go_wp2_with fail
  refine (few_any w2 a c l hl hc).mono ?_
  rintro e w3 ⟨rfl, hw3⟩
  rw [hw3]
  clear hw3 w3
  obtain ⟨l', hl'⟩ : ∃ l', l.take 200 = l' := ⟨_, rfl⟩
  have hll : l'.length ≤ 200 := by rw [← hl', List.length_take]; omega
  have HR' : Hid (Row w a (l'.flatMap actL)) := by
    unfold Hid
    rw [← hl']
    have h1 := HR.out.take ((min 200 l.length) * 36)
    rw [flat_take actL_length l (Nat.min_le_right _ _)] at h1
    rwa [show l.take (min 200 l.length) = l.take 200 by rw [List.take_eq_take_iff]; omega] at h1
  rw [hl']
  clear hl' HR hl hc
  obtain ⟨B, hB⟩ : ∃ B, w1.heap.size = B := ⟨_, rfl⟩
  have HBw := Lib.hid hB
  rw [hB] at HF Hb2
  have hB2 : B ≤ w2.heap.size := by have := Hb2.out.size; rw [hB] at this; exact this
  clear hB
  go_wp2
  go_loopg [25] l'.length (fun m x wr => ∃ (j : Nat) (F : List Nat) (D : List RowT), x = .int .i64 j ∧ j ≤ l'.length ∧ Hid (m = l'.length - j ∧ Below B w1 wr ∧ Ix wr F p D ∧ (∀ b ∈ F, B ≤ b) ∧ D.length ≤ j))
  case atStart => exact ⟨0, F, [], rfl, by omega, rfl, Hb2.out, HI.out, HF.out, Nat.le_refl _⟩
  case round =>
    clear HI HF Hb2 hB2
    obtain ⟨j, F, D, rfl, hj, hr⟩ := hrel
    have hgn := hr.out.1
    have Hb := Lib.hid hr.out.2.1
    have HI := Lib.hid hr.out.2.2.1
    have HF := Lib.hid hr.out.2.2.2.1
    have hDj := hr.out.2.2.2.2
    clear hr
    have hBr : B ≤ wr.heap.size := by have := Hb.out.size; rw [HBw.out] at this; exact this
    have HW := Lib.hid (Hb1.out.trans (Hb.out.mono (by rw [← HBw.out]; exact Hb1.out.size)))
    by_cases hlt : j < l'.length
    · have hlt2 : (j : Int) < (l'.length : Int) := by omega
      obtain ⟨g, o, rfl, hX⟩ := row_at actL_length (HR'.out.below HW.out) hlt (by omega)
      have HX : Hid (At wr g (o + j * 36) (actC l'[j])) := hX
      clear hX
      generalize l'[j] = act at *
      have ho := act.ok
      have Hok := Lib.hid ho
      clear ho
      go_wp2_with (first | (refine wpList_load_at rfl 37 (.tmp 27) rfl g (o + j * 36) (by kernel_rfl) (actC act) HX.out _ Try.underlying37 rfl (actSize act) ?_) | (refine wpList_alloc_new rfl 37 rfl zs (Hz.out _) ?_) | (refine opIs (X := .store 37 (.tmp 6) (.tmp 28)) rfl ?_; refine wpList_store_new rfl 37 (.tmp 6) (.tmp 28) rfl zs (actC act) 37 (by kernel_rfl) (by kernel_rfl) (by rw [hzs, actC_size]) (one_actL act) (actSize act) ?_) | (refine wpList_load_at rfl 27 (.tmp 31) rfl wr.heap.size 1 (by kernel_rfl) (keyC act.key) (by have := act_at_key (At.new wr (actC act) 37); rwa [Nat.zero_add] at this) _ Try.underlying27 rfl (keySize act.key) ?_) | (refine wpList_load_at rfl 33 (.tmp 34) rfl wr.heap.size 34 (by kernel_rfl) (placeC act.place) (by have := act_at_place (At.new wr (actC act) 37); rwa [Nat.zero_add] at this) _ Try.underlying33 rfl (placeSize act.place) ?_) | fail)
      have hbA : Below wr.heap.size wr (wr.alloc (.cells (actC act) 37)) := (Below.refl _ _).alloc (Nat.le_refl _) _
      refine (put_any _ F p D (HI.out.below hbA) (by omega) act.key act.place Hok.out).mono ?_
      rintro e w5 ⟨rfl, F5, hI5, hb5, hg5⟩
      have hle5 := aput_le (adel D act.key) act.key act.place
      have hle6 := adel_len D act.key
      have hD5j : (aput (adel D act.key) act.key act.place).length ≤ j + 1 := by omega
      clear hle5 hle6
      generalize (aget D act.key).isSome = was
      generalize aput (adel D act.key) act.key act.place = D5 at *
      have hab : wr.heap.size ∉ F := fun h => by have := HI.out.fin _ h; omega
      have HA5 := Lib.hid ((At.new wr (actC act) 37).but hb5 hab)
      have hbA2 : Below B wr (wr.alloc (.cells (actC act) 37)) := (Below.refl _ _).alloc hBr _
      have Hb5 := Lib.hid ((Hb.out.trans hbA2).trans (hb5.below (by have := hbA2.size; omega) HF.out))
      have HF5 : Hid (∀ b ∈ F5, B ≤ b) := fun b hbF => by
        rcases hg5 b hbF with h1 | h1
        · exact HF.out b h1
        · have := hbA2.size
          omega
      have HI5 := Lib.hid hI5
      have hB5 : B ≤ w5.heap.size := by have := Hb5.out.size; rw [HBw.out] at this; exact this
      clear hb5 hg5 hbA hbA2 hI5 hab HX
      obtain ⟨ab, hab⟩ : ∃ ab, wr.heap.size = ab := ⟨_, rfl⟩
      rw [hab] at HA5 ⊢
      clear hab
      cases hgo : act.gone with
      | true =>
        have ha0 : w5.cell? ⟨ab, 0, none⟩ = some (.bool true) := by rw [← hgo]; exact act_at_gone HA5.out
        go_wp2_with (first | (refine wpList_load_at rfl 27 (.tmp 41) rfl ab 1 (by kernel_rfl) (keyC act.key) (by have := act_at_key HA5.out; rwa [Nat.zero_add] at this) _ Try.underlying27 rfl (keySize act.key) ?_) | fail)
        refine (drop_any w5 F5 p D5 HI5.out (by omega) act.key).mono ?_
        rintro e w6 ⟨rfl, F6, hI6, hb6, hg6⟩
        have hle7 := adel_len D5 act.key
        have HF6 : Hid (∀ b ∈ F6, B ≤ b) := fun b hbF => by
          rcases hg6 b hbF with h1 | h1
          · exact HF5.out b h1
          · omega
        have Hb6 := Lib.hid (Hb5.out.trans (hb6.below hB5 HF5.out))
        have HI6 := Lib.hid hI6
        clear hb6 hg6 hI6
        go_wp2
        go_roundg (l'.length - (j + 1))
        case measure => omega
        case rel => exact ⟨j + 1, F6, adel D5 act.key, by go_num, by omega, rfl, Hb6.out, HI6.out, HF6.out, by omega⟩
      | false =>
        have ha0 : w5.cell? ⟨ab, 0, none⟩ = some (.bool false) := by rw [← hgo]; exact act_at_gone HA5.out
        go_wp2
        go_roundg (l'.length - (j + 1))
        case measure => omega
        case rel => exact ⟨j + 1, F5, D5, by go_num, by omega, rfl, Hb5.out, HI5.out, HF5.out, hD5j⟩
    · have hge : ¬ (j : Int) < (l'.length : Int) := by omega
      have HO : Hid (Own B wr p D) := ⟨F, HI.out, HF.out⟩
      have hD20 : D.length ≤ 2^20 := by omega
      clear HI HF Hb hj hlt
      go_wp2_with fail
      refine (own_all HO.out hD20).mono ?_
      rintro e w7 ⟨L, hL, a7, c7, rfl, hr7, ha7, hb7⟩
      have HR7 := Lib.hid hr7
      have HL := Lib.hid hL
      have HO7 := Lib.hid (HO.out.below hb7)
      have HW7 := Lib.hid (HW.out.trans (hb7.mono HW.out.size))
      have hB7 : B ≤ w7.heap.size := Nat.le_trans hBr hb7.size
      have hLD : L.length = D.length := hL.1.length_eq
      have HLr : Hid (∀ r ∈ L, aget D r.1 = some r.2) := fun r hr => (aget_mem HO7.out.nd).2 (hL.1.mem_iff.1 hr)
      clear hL hr7 ha7 hb7 HO HW HR' Hb1 HBw hge hgn hDj hBr
      go_wp2
      go_loopg [48, 7] L.length (fun m i n w2 => Below w7.heap.size w7 w2 ∧ ∃ j : Nat, i = .int .i64 j ∧ n = .int .i64 j ∧ j ≤ L.length ∧ Hid (m = L.length - j))
      case atStart => exact ⟨Below.refl _ _, 0, rfl, rfl, Nat.zero_le _, rfl⟩
      case round =>
        obtain ⟨hb8, j, rfl, rfl, hj, hgn⟩ := hrel
        have Hb8 := Lib.hid hb8
        clear hb8
        by_cases hlt : j < L.length
        · have hlt2 : (j : Int) < (L.length : Int) := by omega
          obtain ⟨g, o, rfl, hX⟩ := row_at rowL_length (HR7.out.below Hb8.out) hlt (by omega)
          have HX : Hid (At wr g (o + j * 35) (rowC L[j])) := hX
          have Hrm := Lib.hid (List.getElem_mem hlt)
          have Hget := Lib.hid (HLr.out L[j] (List.getElem_mem hlt))
          clear hX
          generalize L[j] = r at *
          have hok := HO7.out.rng _ _ Hget.out
          have Hok := Lib.hid hok
          clear hok
          have hq33 := rowC_shelf r
          go_wp2_with (first | (refine wpList_load_at rfl 35 (.tmp 51) rfl g (o + j * 35) (by kernel_rfl) (rowC r) HX.out _ Try.underlying35 rfl (rowSize r) ?_) | (refine wpList_alloc_new rfl 35 rfl zr (Hzr.out _) ?_) | (refine opIs (X := .store 35 (.tmp 9) (.tmp 52)) rfl ?_; refine wpList_store_new rfl 35 (.tmp 9) (.tmp 52) rfl zr (rowC r) 35 (by kernel_rfl) (by kernel_rfl) (by rw [hzr, rowC_size]) (one_rowL r) (rowSize r) ?_) | fail)
          clear hq33
          have hb9 : Below wr.heap.size wr (wr.alloc (.cells (rowC r) 35)) := (Below.refl _ _).alloc (Nat.le_refl _) _
          have hb79 : Below w7.heap.size w7 (wr.alloc (.cells (rowC r) 35)) := Hb8.out.trans (hb9.mono Hb8.out.size)
          refine (own_shelf (B := B) (HO7.out.below hb79) hD20 r.2.shelf Hok.out.1).mono ?_
          rintro e w10 ⟨R, hRs, a10, c10, rfl, hr10, ha10, hb10⟩
          have HRr := Lib.hid ((At.new wr (rowC r) 35).below (by rw [rowC_size]; omega) hb10)
          have Hb10 := Lib.hid (hb79.trans (hb10.mono hb79.size))
          have HR10 := Lib.hid hr10
          have hRl : R.length ≤ 2^20 := Nat.le_trans (ShelfOf.len hRs) hD20
          have HRsh : Hid (∀ s ∈ R, s.2.shelf = r.2.shelf ∧ PlaceOk s.2) := fun s hs => by
            have h1 := List.mem_filter.1 (hRs.1.mem_iff.1 hs)
            exact ⟨of_decide_eq_true h1.2, ShelfOf.ok hRs HO7.out.nd HO7.out.rng s hs⟩
          have HRc : Hid (cnt R r = 1) := by
            have h1 : r ∈ R := hRs.1.mem_iff.2 (List.mem_filter.2 ⟨(aget_mem HO7.out.nd).1 Hget.out, decide_eq_true rfl⟩)
            exact cnt_one (ShelfOf.nodup hRs) h1
          clear hb9 hb79 hRs hr10 ha10 hb10 HX
          obtain ⟨rb, hrb⟩ : ∃ rb, wr.heap.size = rb := ⟨_, rfl⟩
          rw [hrb] at HRr ⊢
          have HSet := Lib.hid Hb8.out
          clear hrb Hb8 HSet
          go_wp2
          go_loopg [59, 10] R.length (fun m i n w2 => Below w10.heap.size w10 w2 ∧ ∃ q : Nat, i = .int .i64 q ∧ n = .int .i64 (cnt (R.take q) r : Nat) ∧ q ≤ R.length ∧ Hid (m = R.length - q))
          case atStart => exact ⟨Below.refl _ _, 0, rfl, rfl, Nat.zero_le _, rfl⟩
          case round =>
            obtain ⟨hb11, q, rfl, rfl, hq, hgn11⟩ := hrel
            have Hb11 := Lib.hid hb11
            have HRr11 := Lib.hid (HRr.out.below (by rw [rowC_size]; omega) hb11)
            have hcnt : cnt (R.take q) r ≤ 2^20 := by
              have := cnt_le (R.take q) r
              rw [List.length_take] at this; omega
            clear hb11
            by_cases hql : q < R.length
            · have hql2 : (q : Int) < (R.length : Int) := by omega
              obtain ⟨g2, o2, rfl, hY⟩ := row_at rowL_length (HR10.out.below Hb11.out) hql (by omega)
              have HY : Hid (At wr g2 (o2 + q * 35) (rowC R[q])) := hY
              have Hsm := Lib.hid (HRsh.out R[q] (List.getElem_mem hql))
              have Hcs := Lib.hid (cnt_step R r hql)
              clear hY
              generalize R[q] = s at *
              have hs33 : (rowC s)[33]? = some (.int .i64 r.2.shelf) := by rw [rowC_shelf, Hsm.out.1]
              have hr33 : wr.cell? ⟨rb, 33, none⟩ = some (.int .i64 r.2.shelf) := by have := row_at_shelf HRr11.out; rwa [Nat.zero_add] at this
              have hrl : rb < wr.heap.size := HRr11.out.lt (by rw [rowC_size]; omega)
              have Heq := Lib.hid (row_eq s r Hsm.out.2 Hok.out (wr.alloc (.cells (rowC s) 35)))
              have hbS : Below w10.heap.size w10 (wr.alloc (.cells (rowC s) 35)) := Hb11.out.trans (((Below.refl _ _).alloc (Nat.le_refl _) _).mono Hb11.out.size)
              have HbS := Lib.hid hbS
              clear hbS
              obtain ⟨cn, hcn⟩ : ∃ cn, cnt (R.take q) r = cn := ⟨_, rfl⟩
              rw [hcn] at hcnt Hcs ⊢
              clear hcn
              by_cases hsr : s = r
              · have Hcs1 : Hid (cnt (R.take (q + 1)) r = cn + 1) := by unfold Hid; rw [Hcs.out, if_pos hsr]
                rw [decide_eq_true hsr] at Heq
                clear hsr Hcs
                go_wp2_with (first | (refine wpList_load_at rfl 35 (.tmp 61) rfl g2 (o2 + q * 35) (by kernel_rfl) (rowC s) HY.out _ Try.underlying35 rfl (rowSize s) ?_) | (refine wpList_alloc_new rfl 35 rfl zr (Hzr.out _) ?_) | (refine opIs (X := .store 35 (.tmp 12) (.tmp 62)) rfl ?_; refine wpList_store_new rfl 35 (.tmp 12) (.tmp 62) rfl zr (rowC s) 35 (by kernel_rfl) (by kernel_rfl) (by rw [hzr, rowC_size]) (one_rowL s) (rowSize s) ?_) | (refine wpList_load_at rfl 35 (.tmp 12) rfl wr.heap.size 0 (by kernel_rfl) (rowC s) (At.new _ _ _) _ Try.underlying35 rfl (rowSize s) ?_) | (refine wpList_load_at rfl 35 (.tmp 9) rfl rb 0 (by kernel_rfl) (rowC r) (HRr11.out.alloc _) _ Try.underlying35 rfl (rowSize r) ?_) | (refine wpList_agg_eql rfl 35 (.tmp 70) (.tmp 71) 35 rfl (rowC s) (rowC r) (by kernel_rfl) (by kernel_rfl) rowGuard _ Heq.out ?_) | fail)
                go_wp2
                go_roundg (R.length - (q + 1))
                case measure => have := hgn11.out; omega
                case rel => exact ⟨HbS.out, q + 1, by go_num, by rw [Hcs1.out]; go_num, by omega, rfl⟩
              · have Hcs1 : Hid (cnt (R.take (q + 1)) r = cn) := by unfold Hid; rw [Hcs.out, if_neg hsr]; rfl
                rw [decide_eq_false hsr] at Heq
                clear hsr Hcs
                go_wp2_with (first | (refine wpList_load_at rfl 35 (.tmp 61) rfl g2 (o2 + q * 35) (by kernel_rfl) (rowC s) HY.out _ Try.underlying35 rfl (rowSize s) ?_) | (refine wpList_alloc_new rfl 35 rfl zr (Hzr.out _) ?_) | (refine opIs (X := .store 35 (.tmp 12) (.tmp 62)) rfl ?_; refine wpList_store_new rfl 35 (.tmp 12) (.tmp 62) rfl zr (rowC s) 35 (by kernel_rfl) (by kernel_rfl) (by rw [hzr, rowC_size]) (one_rowL s) (rowSize s) ?_) | (refine wpList_load_at rfl 35 (.tmp 12) rfl wr.heap.size 0 (by kernel_rfl) (rowC s) (At.new _ _ _) _ Try.underlying35 rfl (rowSize s) ?_) | (refine wpList_load_at rfl 35 (.tmp 9) rfl rb 0 (by kernel_rfl) (rowC r) (HRr11.out.alloc _) _ Try.underlying35 rfl (rowSize r) ?_) | (refine wpList_agg_eql rfl 35 (.tmp 70) (.tmp 71) 35 rfl (rowC s) (rowC r) (by kernel_rfl) (by kernel_rfl) rowGuard _ Heq.out ?_) | fail)
                go_wp2
                go_roundg (R.length - (q + 1))
                case measure => have := hgn11.out; omega
                case rel => exact ⟨HbS.out, q + 1, by go_num, by rw [Hcs1.out], by omega, rfl⟩
            · have hge11 : ¬ (q : Int) < (R.length : Int) := by omega
              rw [show R.take q = R from List.take_of_length_le (by omega), HRc.out]
              have HO11 := Lib.hid ((HO7.out.below Hb10.out).below (Hb11.out.mono (Nat.le_refl _)))
              have HbE := Lib.hid (Hb10.out.trans (Hb11.out.mono Hb10.out.size))
              clear hql hq HRc HRsh HR10 Hb11 HRr Hb10 hgn11 hcnt hRl
              go_wp2_with (first | (refine wpList_load_at rfl 24 (.tmp 78) rfl rb 0 (by kernel_rfl) (sumC r.1.sum) (key_at_sum (row_at_key HRr11.out)) _ Try.underlying24 rfl (sumSize r.1.sum) ?_) | fail)
              refine (own_twins HO11.out hD20 r.1.sum).mono ?_
              rintro e w12 ⟨ns, htw, a12, c12, rfl, ho12, hb12⟩
              obtain ⟨ks, hks⟩ : ∃ ks, ns.map (fun n => (⟨r.1.sum, n⟩ : KeyT)) = ks := ⟨_, rfl⟩
              rw [hks] at ho12 ⊢
              have HR12 := Lib.hid (Row.owned ho12)
              have HKc : Hid (cnt ks r.1 = 1) := by
                refine cnt_one ?_ ?_
                · rw [← hks]
                  unfold List.Nodup
                  rw [List.pairwise_map]
                  exact htw.1.imp fun {x y} hxy e => by injection e with _ e2; subst e2; omega
                · rw [← hks]
                  refine List.mem_map.2 ⟨r.1.n, (htw.2.1 _).2 ?_, key_eta _⟩
                  rw [key_eta, Hget.out]; rfl
              have hkl : ks.length ≤ 2^20 := by rw [← hks, List.length_map]; exact Nat.le_trans htw.2.2 hD20
              have HRr12 := Lib.hid (HRr11.out.below (by rw [rowC_size]; omega) hb12)
              have Hb12 := Lib.hid (HbE.out.trans (hb12.mono HbE.out.size))
              have HO12 := Lib.hid (HO11.out.below hb12)
              clear htw hks ho12 hb12 HRr11 HbE HO11
              go_wp2
              go_loopg [82, 13] ks.length (fun m i n w2 => Below w12.heap.size w12 w2 ∧ ∃ q : Nat, i = .int .i64 q ∧ n = .int .i64 (cnt (ks.take q) r.1 : Nat) ∧ q ≤ ks.length ∧ Hid (m = ks.length - q))
              case atStart => exact ⟨Below.refl _ _, 0, rfl, rfl, Nat.zero_le _, rfl⟩
              case round =>
                obtain ⟨hb13, q, rfl, rfl, hq, hgn13⟩ := hrel
                have Hb13 := Lib.hid hb13
                have HRr13 := Lib.hid (HRr12.out.below (by rw [rowC_size]; omega) hb13)
                have hcnt : cnt (ks.take q) r.1 ≤ 2^20 := by
                  have := cnt_le (ks.take q) r.1
                  rw [List.length_take] at this; omega
                clear hb13
                by_cases hql : q < ks.length
                · have hql2 : (q : Int) < (ks.length : Int) := by omega
                  obtain ⟨g3, o3, rfl, hY⟩ := row_at keyL_length (HR12.out.below Hb13.out) hql (by omega)
                  have HY : Hid (At wr g3 (o3 + q * 33) (keyC ks[q])) := hY
                  have Hcs := Lib.hid (cnt_step ks r.1 hql)
                  clear hY
                  generalize ks[q] = kq at *
                  have Heq := Lib.hid (key_eq kq r.1 (wr.alloc (.cells (keyC kq) 27)))
                  have hbS : Below w12.heap.size w12 (wr.alloc (.cells (keyC kq) 27)) := Hb13.out.trans (((Below.refl _ _).alloc (Nat.le_refl _) _).mono Hb13.out.size)
                  have HbS := Lib.hid hbS
                  clear hbS
                  obtain ⟨cn, hcn⟩ : ∃ cn, cnt (ks.take q) r.1 = cn := ⟨_, rfl⟩
                  rw [hcn] at hcnt Hcs ⊢
                  clear hcn
                  by_cases hsr : kq = r.1
                  · have Hcs1 : Hid (cnt (ks.take (q + 1)) r.1 = cn + 1) := by unfold Hid; rw [Hcs.out, if_pos hsr]
                    rw [decide_eq_true hsr] at Heq
                    clear hsr Hcs
                    go_wp2_with (first | (refine wpList_load_at rfl 27 (.tmp 84) rfl g3 (o3 + q * 33) (by kernel_rfl) (keyC kq) HY.out _ Try.underlying27 rfl (keySize kq) ?_) | (refine wpList_alloc_new rfl 27 rfl zk (Hzk.out _) ?_) | (refine opIs (X := .store 27 (.tmp 15) (.tmp 85)) rfl ?_; refine wpList_store_new rfl 27 (.tmp 15) (.tmp 85) rfl zk (keyC kq) 27 (by kernel_rfl) (by kernel_rfl) (by rw [hzk, keyC_size]) (one_keyL kq) (keySize kq) ?_) | (refine wpList_load_at rfl 27 (.tmp 15) rfl wr.heap.size 0 (by kernel_rfl) (keyC kq) (At.new _ _ _) _ Try.underlying27 rfl (keySize kq) ?_) | (refine wpList_load_at rfl 27 (.tmp 87) rfl rb 0 (by kernel_rfl) (keyC r.1) (row_at_key (HRr13.out.alloc _)) _ Try.underlying27 rfl (keySize r.1) ?_) | (refine wpList_agg_eql rfl 27 (.tmp 86) (.tmp 88) 27 rfl (keyC kq) (keyC r.1) (by kernel_rfl) (by kernel_rfl) keyGuard _ Heq.out ?_) | fail)
                    go_wp2
                    go_roundg (ks.length - (q + 1))
                    case measure => have := hgn13.out; omega
                    case rel => exact ⟨HbS.out, q + 1, by go_num, by rw [Hcs1.out]; go_num, by omega, rfl⟩
                  · have Hcs1 : Hid (cnt (ks.take (q + 1)) r.1 = cn) := by unfold Hid; rw [Hcs.out, if_neg hsr]; rfl
                    rw [decide_eq_false hsr] at Heq
                    clear hsr Hcs
                    go_wp2_with (first | (refine wpList_load_at rfl 27 (.tmp 84) rfl g3 (o3 + q * 33) (by kernel_rfl) (keyC kq) HY.out _ Try.underlying27 rfl (keySize kq) ?_) | (refine wpList_alloc_new rfl 27 rfl zk (Hzk.out _) ?_) | (refine opIs (X := .store 27 (.tmp 15) (.tmp 85)) rfl ?_; refine wpList_store_new rfl 27 (.tmp 15) (.tmp 85) rfl zk (keyC kq) 27 (by kernel_rfl) (by kernel_rfl) (by rw [hzk, keyC_size]) (one_keyL kq) (keySize kq) ?_) | (refine wpList_load_at rfl 27 (.tmp 15) rfl wr.heap.size 0 (by kernel_rfl) (keyC kq) (At.new _ _ _) _ Try.underlying27 rfl (keySize kq) ?_) | (refine wpList_load_at rfl 27 (.tmp 87) rfl rb 0 (by kernel_rfl) (keyC r.1) (row_at_key (HRr13.out.alloc _)) _ Try.underlying27 rfl (keySize r.1) ?_) | (refine wpList_agg_eql rfl 27 (.tmp 86) (.tmp 88) 27 rfl (keyC kq) (keyC r.1) (by kernel_rfl) (by kernel_rfl) keyGuard _ Heq.out ?_) | fail)
                    go_wp2
                    go_roundg (ks.length - (q + 1))
                    case measure => have := hgn13.out; omega
                    case rel => exact ⟨HbS.out, q + 1, by go_num, by rw [Hcs1.out], by omega, rfl⟩
                · have hge13 : ¬ (q : Int) < (ks.length : Int) := by omega
                  rw [show ks.take q = ks from List.take_of_length_le (by omega), HKc.out]
                  have HO13 := Lib.hid (HO12.out.below Hb13.out)
                  have HbF := Lib.hid (Hb12.out.trans (Hb13.out.mono Hb12.out.size))
                  clear hql hq HKc HR12 Hb13 HRr12 Hb12 hgn13 hcnt hkl HO12
                  go_wp2_with (first | (refine wpList_load_at rfl 27 (.tmp 95) rfl rb 0 (by kernel_rfl) (keyC r.1) (row_at_key HRr13.out) _ Try.underlying27 rfl (keySize r.1) ?_) | fail)
                  refine (own_get HO13.out r.1).mono ?_
                  rintro e w14 ⟨rfl, hb14⟩
                  rw [Hget.out, show (some r.2).getD place0 = r.2 from rfl, show (some r.2).isSome = true from rfl]
                  have HRr14 := Lib.hid (HRr13.out.below (by rw [rowC_size]; omega) hb14)
                  have Hb14 := Lib.hid (HbF.out.trans (hb14.mono HbF.out.size))
                  clear hb14 HRr13 HbF HO13
                  have Heq := Lib.hid (place_eq r.2 r.2 Hok.out Hok.out (w14.alloc (.cells (placeC r.2) 33)))
                  rw [decide_eq_true rfl] at Heq
                  go_wp2_with (first | (refine wpList_alloc_new rfl 33 rfl zp (Hzq.out _) ?_) | (refine opIs (X := .store 33 (.tmp 16) (.tmp 98)) rfl ?_; refine wpList_store_new rfl 33 (.tmp 16) (.tmp 98) rfl zp (placeC r.2) 33 (by kernel_rfl) (by kernel_rfl) (by rw [hzp]; rfl) (one_placeL r.2) (placeSize r.2) ?_) | (refine wpList_load_on rfl 33 (.tmp 16) rfl w14.heap.size 0 (by kernel_rfl) (placeC r.2) (At.new _ _ _) _ Try.underlying33 rfl (placeSize r.2) ?_) | (refine wpList_load_on rfl 33 (.tmp 112) rfl rb 33 (by kernel_rfl) (placeC r.2) (by have := row_at_place (HRr14.out.alloc (.cells (placeC r.2) 33)); rwa [Nat.zero_add] at this) _ Try.underlying33 rfl (placeSize r.2) ?_) | (refine BigFrame.wpList_want rfl (fun K hK => ?_); refine Go.XR.wp_agg_neq 33 (.tmp 111) (.tmp 113) _ rfl (placeC r.2) (placeC r.2) (by kernel_rfl) (by kernel_rfl) placeGuard _ Heq.out ?_; refine hK _ _ ?_; clear hK K) | fail)
                  go_roundg (L.length - (j + 1))
                  case measure => have := hgn.out; omega
                  case rel => exact ⟨Hb14.out.alloc Hb14.out.size _, j + 1, by go_num, by go_num, by omega, rfl⟩
        · have hge : ¬ (j : Int) < (L.length : Int) := by omega
          have hje : j = D.length := by omega
          go_wp2_with fail
          refine (own_len (B := B) (HO7.out.below Hb8.out)).mono ?_
          rintro e w20 ⟨rfl, hb20⟩
          rw [← hje]
          have Hb20 := Lib.hid (HW7.out.trans ((Hb8.out.trans (hb20.mono Hb8.out.size)).mono HW7.out.size))
          clear hb20
          go_wp2
          go_ret
          exact ⟨rfl, Hb20.out⟩
end Go.Proofs.Ytnfbchhbcinloaa
