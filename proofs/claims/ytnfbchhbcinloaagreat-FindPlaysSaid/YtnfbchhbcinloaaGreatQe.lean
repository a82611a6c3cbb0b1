/- Walks and laws that the statements of this seat share, part 5. -/
import Derived.Test.YtnfbchhbcinloaaGreatQd
/- The walk over the reference's Twins. -/
namespace Go.Proofs.YtnfbchhbcinloaaGreat
open Go.RowKit Go.XR Go.IndexPure
def ofSum (d : SumT) (r : RowT) : Bool := decide (r.1.sum = d)
def twinsL (R : List RowT) (d : SumT) : List KeyT := (R.filter (ofSum d)).map (·.1)
theorem twinsL_step (R : List RowT) (d : SumT) {j : Nat} (h : j < R.length) : twinsL (R.take (j + 1)) d = twinsL (R.take j) d ++ if R[j].1.sum = d then [R[j].1] else [] := by
  unfold twinsL
  rw [List.take_succ_eq_append_getElem h, List.filter_append, List.map_append]
  congr 1
  by_cases c : R[j].1.sum = d
  · rw [if_pos c, List.filter_cons_of_pos (by unfold ofSum; exact decide_eq_true c)]; rfl
  · rw [if_neg c, List.filter_cons_of_neg (by unfold ofSum; rw [decide_eq_false c]; simp)]; rfl
theorem twinsL_len (R : List RowT) (d : SumT) : (twinsL R d).length ≤ R.length := by unfold twinsL; rw [List.length_map]; exact List.length_filter_le _ _
set_option maxHeartbeats 2000000 in
set_option maxRecDepth 100000 in
theorem reftwins_any (w : World) (b : Nat) (R : List RowT) (F : List Nat) (h : RefIx w b R F) (hlen : R.length ≤ 2^20) (d : SumT) :
    Calls Tryz.prog 24 #[.pointer (some ⟨b, 0, none⟩), sumV d] w (RetTwins w (twinsL R d)) := by
  obtain ⟨zk, hzk, hzk2⟩ := zero_key
  have Hzk := Lib.hid hzk2
  obtain ⟨a, c, hB, hR, hc, hcm, hbF, hnil, hx⟩ := h
  obtain ⟨W0, hW0⟩ : ∃ W0, w.alloc (.cells (sumC d) 26) = W0 := ⟨_, rfl⟩
  have hb0 : Below w.heap.size w W0 := by rw [← hW0]; exact (Below.refl _ _).alloc (Nat.le_refl _) _
  have HK : Hid (At W0 w.heap.size 0 (sumC d)) := by unfold Hid; rw [← hW0]; exact At.new _ _ _
  have HB := Lib.hid (hB.below hb0)
  have HR := Lib.hid (hR.below hb0)
  have Hb0 := Lib.hid hb0
  clear hB hR hb0 hx hnil hzk2
  obtain ⟨kb, hkb⟩ : ∃ kb, w.heap.size = kb := ⟨_, rfl⟩
  rw [hkb] at HK
  go_enter Tryz.func24, Tryz.ntmps24
  go_wp2
  clear hkb hW0
  go_loopg [6, 5] R.length (fun n i out wr => Below W0.heap.size W0 wr ∧ ∃ (j : Nat) (o : List KeyT) (ka : Option Addr) (kc : Nat), i = .int .i64 j ∧ out = .slice ka o.length kc ∧ Hid (n = R.length - j ∧ j ≤ R.length ∧ o = twinsL (R.take j) d ∧ wr.ownsRow W0.heap.size 29 33 (.slice ka o.length kc) o.length (o.flatMap keyL)))
  case atStart => exact ⟨Below.refl _ _, 0, [], none, 0, rfl, rfl, rfl, Nat.zero_le _, rfl, rfl, .inl ⟨rfl, rfl⟩⟩
  case round =>
    obtain ⟨hb, j, o, ka, kc, rfl, rfl, hr⟩ := hrel
    have hgn := hr.out.1
    have hj := hr.out.2.1
    have Ho := Lib.hid hr.out.2.2.1
    have Hown := Lib.hid hr.out.2.2.2
    have Hb := Lib.hid hb
    have c0 := (HB.out.below hb).cell (i := 0) rfl
    have hbl : b < wr.heap.size := (HB.out.below hb).lt
    have HKr := Lib.hid (HK.out.below (by rw [sumC_size]; omega) hb)
    have hol : o.length ≤ 2^20 := by rw [Ho.out]; exact Nat.le_trans (twinsL_len _ _) (by rw [List.length_take]; omega)
    have hsz := hb.size
    clear hr hb
    by_cases hlt : j < R.length
    · have hlt2 : (j : Int) < (R.length : Int) := by omega
      obtain ⟨g, oo, rfl, hX⟩ := row_at rowL_length (HR.out.below Hb.out) hlt (by omega)
      have HX : Hid (At wr g (oo + j * 35) (rowC R[j])) := hX
      have Hst := Lib.hid (twinsL_step R d hlt)
      clear hX
      generalize R[j] = r at *
      have Heq := Lib.hid (sum_eq r.1.sum d wr.drew)
      go_wp2
      refine Go.XR.region_sched ((· = wr.drew)) [(0, true), (1, true), (2, true), (3, true), (4, true), (5, true), (6, true), (7, true), (8, true), (9, true), (10, false)] [10] Tryz.mixed (by kernel_rfl) (by kernel_rfl) (by kernel_rfl) ?_
      simp only [List.map_cons, List.map_nil, List.getElem?_cons_succ, List.getElem?_cons_zero]
      repeat (first | (refine Go.XR.S_light rfl rfl rfl ?_ (fun w' hS K hK => ?_) (fun K hK => ?_); rotate_left 1; (cases hS; (first | (first | (refine Go.XR.wp_load_at 26 (.tmp 23) rfl g (oo + j * 35) rfl (sumC r.1.sum) (At.drew (key_at_sum (row_at_key HX.out))) _ Tryz.underlying26 rfl (sumSize r.1.sum) ?_) | (refine Go.XR.wp_load_at 26 (.tmp 3) rfl kb 0 rfl (sumC d) (At.drew HKr.out) _ Tryz.underlying26 rfl (sumSize d) ?_)) | go_step); exact hK); go_step; refine hK _ ?_; clear hK K))
      refine Go.XR.S_heavy (fun K hK => ?_)
      refine Go.XR.wp_agg_eql 26 _ _ _ rfl (sumC r.1.sum) (sumC d) rfl rfl sumGuard _ Heq.out ?_
      refine hK _ _ ⟨fun h => by simp at h, ?_⟩
      clear hK K
      refine Go.XR.S_nil ?_
      by_cases hs : r.1.sum = d
      · rw [decide_eq_true hs]
        have Hn : Hid (o ++ [r.1] = twinsL (R.take (j + 1)) d) := by unfold Hid; rw [Hst.out, if_pos hs, Ho.out]
        clear hs
        go_wp2_with (first | (refine wpList_load_at rfl 29 (.tmp 34) rfl g (oo + j * 35) (by kernel_rfl) (keyC r.1) (At.drew (row_at_key HX.out)) _ Tryz.underlying29 rfl (keySize r.1) ?_) | (refine wpList_build_one rfl 66 (.tmp 35) rfl 29 33 Tryz.underlying66 (by kernel_rfl) (by omega) (by omega) _ (Hzk.out _) (keyC r.1) rfl (keyC_size _) ?_) | (at_builtin; refine Go.XR.stop (fun X hX => ?_)))
        refine hX.out ?_
        clear hX X
        have hsz2 : W0.heap.size ≤ wr.drew.heap.size := hsz
        refine wpList_plain rfl (fun K hK => ?_)
        refine append_enc (P := Tryz.prog) keyL 33 36 keyL_length one_keyL 29 Tryz.underlying66 (by kernel_rfl) (by decide) W0.heap.size ka kc o rfl (Hown.out.drew.alloc _) (some ⟨wr.drew.heap.size, 0, none⟩) 1 [r.1] rfl (by rw [List.flatMap_cons, List.flatMap_nil, List.append_nil]; exact Row.new wr.drew _ _) (fun e => by cases e) (by simp; omega) (by unfold maxLen; simp; omega) (by simp; omega) ?_
        intro a3 c3 w3 ho3 hb3 _ _
        have Ho3 := Lib.hid ho3
        have Hb3 := Lib.hid ((Hb.out.drew.trans ((Below.refl _ wr.drew).alloc hsz2 _)).trans hb3)
        clear ho3 hb3
        obtain ⟨o3, hoo⟩ : ∃ o3, o ++ [r.1] = o3 := ⟨_, rfl⟩
        rw [hoo] at Hn Ho3 ⊢
        clear hoo
        go_wp2
        go_roundg (R.length - (j + 1))
        case measure => omega
        case rel => exact ⟨Hb3.out, j + 1, o3, a3, c3, by go_num, rfl, rfl, by omega, Hn.out, Ho3.out⟩
      · rw [decide_eq_false hs]
        have Hn : Hid (o = twinsL (R.take (j + 1)) d) := by unfold Hid; rw [Hst.out, if_neg hs, List.append_nil, Ho.out]
        clear hs
        go_wp2
        go_roundg (R.length - (j + 1))
        case measure => omega
        case rel => exact ⟨Hb.out.drew, j + 1, o, ka, kc, by go_num, rfl, rfl, by omega, Hn.out, Hown.out.drew⟩
    · have hge : ¬ (j : Int) < (R.length : Int) := by omega
      have Hoe : Hid (o = twinsL R d) := by unfold Hid; rw [Ho.out, List.take_of_length_le (by omega)]
      go_wp2
      go_ret
      unfold RetTwins
      rw [← Hoe.out]
      exact ⟨ka, kc, rfl, owns_base Hown.out Hb0.out.size, Hb0.out.trans (Hb.out.mono Hb0.out.size)⟩
end Go.Proofs.YtnfbchhbcinloaaGreat

/- The walk over the reference's Shelf. -/
namespace Go.Proofs.YtnfbchhbcinloaaGreat
open Go.RowKit Go.XR Go.IndexPure
/-- a shelf's rows out of the first rows -/
def ShM (R : List RowT) (s : Int) (j : Nat) (l : List RowT) : Prop := l.Pairwise (fun x y => cfS x y < 0) ∧ ∀ x, x ∈ l ↔ x ∈ R.take j ∧ x.2.shelf = s
theorem shelf_skip {R : List RowT} {s : Int} {j : Nat} {l : List RowT} (h : j < R.length) (hm : ShM R s j l) (hs : R[j].2.shelf ≠ s) : ShM R s (j + 1) l := by
  refine ⟨hm.1, fun x => ?_⟩
  rw [hm.2, List.take_succ_eq_append_getElem h, List.mem_append, List.mem_singleton]
  constructor
  · rintro ⟨h1, h2⟩; exact ⟨.inl h1, h2⟩
  · rintro ⟨h1 | h1, h2⟩
    · exact ⟨h1, h2⟩
    · rw [h1] at h2; exact absurd h2 hs
theorem shelf_step {R : List RowT} {s : Int} {j : Nat} {l : List RowT} {r : RowT} {q : Nat} (hR : SrtA R) (h : j < R.length) (hm : ShM R s j l) (hr : R[j] = r) (hs : r.2.shelf = s) (hlo : q ≤ l.length ∧ ∀ p (hp : p < l.length), p < q → l[p].2.slot ≤ r.2.slot) (hhi : ∀ p (hp : p < l.length), p = q → r.2.slot < l[p].2.slot) :
    ShM R s (j + 1) (l.take q ++ r :: l.drop q) := by
  have hkey : ∀ x ∈ l, cfK x.1 r.1 < 0 := fun x hx => by
    obtain ⟨p, hp, h2, rfl⟩ := take_get.1 ((hm.2 x).1 hx).1
    have := List.pairwise_iff_getElem.1 hR p j hp h h2
    rw [hr] at this; exact this
  have hgt : ∀ p (hp : p < l.length), q ≤ p → r.2.slot < l[p].2.slot := fun p hp hqp => by
    by_cases e : p = q
    · exact hhi p hp e
    · have h1 := hhi q (by omega) rfl
      have h2 := List.pairwise_iff_getElem.1 hm.1 q p (by omega) hp (by omega)
      rw [cfS_neg] at h2
      omega
  refine ⟨?_, fun x => ?_⟩
  · have h1 : (l.take q ++ l.drop q).Pairwise (fun x y => cfS x y < 0) := by rw [List.take_append_drop]; exact hm.1
    rw [List.pairwise_append] at h1 ⊢
    refine ⟨h1.1, List.pairwise_cons.2 ⟨fun x hx => ?_, h1.2.1⟩, fun x hx y hy => ?_⟩
    · obtain ⟨p, hp, h2, rfl⟩ := drop_get.1 hx
      rw [cfS_neg]; exact .inl (hgt p hp h2)
    · rcases List.mem_cons.1 hy with rfl | hy
      · obtain ⟨p, hp, h2, rfl⟩ := take_get.1 hx
        have h3 := hlo.2 p hp h2
        have h4 := hkey _ (List.getElem_mem hp)
        rw [cfS_neg]
        rcases Int.lt_or_eq_of_le h3 with h5 | h5
        · exact .inl h5
        · exact .inr ⟨h5, h4⟩
      · exact h1.2.2 x hx y hy
  · rw [List.take_succ_eq_append_getElem h, hr, List.mem_append (s := R.take j), List.mem_singleton]
    have : x ∈ l.take q ++ r :: l.drop q ↔ x = r ∨ x ∈ l := by
      have e : x ∈ l ↔ x ∈ l.take q ∨ x ∈ l.drop q := by rw [← List.mem_append, List.take_append_drop]
      rw [e, List.mem_append, List.mem_cons]
      constructor
      · rintro (h | h | h)
        · exact .inr (.inl h)
        · exact .inl h
        · exact .inr (.inr h)
      · rintro (h | h | h)
        · exact .inr (.inl h)
        · exact .inl h
        · exact .inr (.inr h)
    rw [this, hm.2]
    constructor
    · rintro (h1 | ⟨h1, h2⟩)
      · exact ⟨.inr h1, by rw [h1]; exact hs⟩
      · exact ⟨.inl h1, h2⟩
    · rintro ⟨h1 | h1, h2⟩
      · exact .inr ⟨h1, h2⟩
      · exact .inl h1
theorem shelf_done {D R : List RowT} (hA : AllOf D R) (hD : (D.map (·.1)).Nodup) {s : Int} {l : List RowT} (hm : ShM R s R.length l) : ShelfOf D s l := by
  have hD2 : D.Nodup := List.Pairwise.of_map (·.1) (fun a b h e => h (by rw [e])) hD
  have hl : l.Nodup := hm.1.imp fun {x y} h => by
    rintro rfl
    have := cfS_swap x x
    omega
  refine ⟨(List.perm_ext_iff_of_nodup hl (hD2.sublist List.filter_sublist)).2 fun x => ?_, hm.1⟩
  rw [hm.2, List.take_length, List.mem_filter, hA.1.mem_iff]
  unfold onS
  rw [decide_eq_true_iff]
theorem shm_len {R : List RowT} {s : Int} {j : Nat} {l : List RowT} (h : ShM R s j l) : l.length ≤ R.length := by
  have hl : l.Nodup := h.1.imp fun {x y} h => by
    rintro rfl
    have := cfS_swap x x
    omega
  exact hl.length_le_of_subset fun x hx => List.mem_of_mem_take ((h.2 x).1 hx).1
set_option maxHeartbeats 4000000 in
set_option maxRecDepth 100000 in
theorem refshelf_cap (w : World) (b : Nat) (R : List RowT) (F : List Nat) (h : RefIx w b R F) (hR0 : SrtA R) (hlen : R.length ≤ 2^20) (s : I64) :
    Calls Tryz.prog 26 #[.pointer (some ⟨b, 0, none⟩), .int .i64 s.1] w fun e w' => ∃ L, ShM R s.1 R.length L ∧ ∃ a c, e = .returned (.slice a L.length c) ∧ Row w' a (L.flatMap rowL) ∧ (∀ x, a = some x → w.heap.size ≤ x.block) ∧ L.length ≤ c ∧ (a = none → c = 0) ∧ Below w.heap.size w w' := by
  obtain ⟨zr, hzr, hzr2⟩ := zero_row
  have Hzr := Lib.hid hzr2
  obtain ⟨a, c, hB, hR, hc, hcm, hbF, hnil, hx⟩ := h
  have HB := Lib.hid hB
  have HR := Lib.hid hR
  have HR0 := Lib.hid hR0
  clear hB hR hx hnil hzr2 hR0
  go_enter Tryz.func26, Tryz.ntmps26
  go_wp2
  go_loopg [6, 5] R.length (fun n i out wr => Below w.heap.size w wr ∧ ∃ (j : Nat) (l : List RowT) (la : Option Addr) (lc : Nat), i = .int .i64 j ∧ out = .slice la l.length lc ∧ Hid (n = R.length - j ∧ j ≤ R.length ∧ ShM R s.1 j l ∧ wr.ownsRow w.heap.size 42 35 (.slice la l.length lc) l.length (l.flatMap rowL)))
  case atStart => exact ⟨Below.refl _ _, 0, [], none, 0, rfl, rfl, rfl, Nat.zero_le _, ⟨List.Pairwise.nil, fun x => by simp⟩, rfl, .inl ⟨rfl, rfl⟩⟩
  case round =>
    obtain ⟨hb, j, l, la, lc, rfl, rfl, hr⟩ := hrel
    have hgn := hr.out.1
    have hj := hr.out.2.1
    have Hm := Lib.hid hr.out.2.2.1
    have Hown := Lib.hid hr.out.2.2.2
    have Hb := Lib.hid hb
    have c0 := (HB.out.below hb).cell (i := 0) rfl
    have hbl : b < wr.heap.size := (HB.out.below hb).lt
    have hll : l.length ≤ 2^20 := Nat.le_trans (shm_len Hm.out) hlen
    have hsz := hb.size
    clear hr hb
    by_cases hlt : j < R.length
    · have hlt2 : (j : Int) < (R.length : Int) := by omega
      obtain ⟨g, oo, rfl, hX⟩ := row_at rowL_length (HR.out.below Hb.out) hlt (by omega)
      have HX : Hid (At wr g (oo + j * 35) (rowC R[j])) := hX
      clear hX
      obtain ⟨r, hr⟩ : ∃ r, R[j] = r := ⟨_, rfl⟩
      have Hsr := Lib.hid hr
      rw [hr] at HX
      clear hr
      have s33 : wr.cell? ⟨g, oo + j * 35 + 33, none⟩ = some (.int .i64 r.2.shelf) := row_at_shelf HX.out
      have hgl : g < wr.heap.size := HX.out.lt (by rw [rowC_size]; omega)
      by_cases hs : r.2.shelf = s.1
      · have Hrs := Lib.hid hs
        rw [hs] at s33
        clear hs
        go_wp2
        go_loopg [7] l.length (fun n i w2 => Below wr.heap.size wr w2 ∧ ∃ q : Nat, i = .int .i64 q ∧ Hid (n = l.length - q ∧ q ≤ l.length ∧ ∀ p (hp : p < l.length), p < q → l[p].2.slot ≤ r.2.slot))
        case atStart => exact ⟨Below.refl _ _, 0, rfl, rfl, Nat.zero_le _, fun p hp h => by omega⟩
        case round =>
          obtain ⟨hbw, q, rfl, hr2⟩ := hrel
          have hgn2 := hr2.out.1
          have Hlo := Lib.hid hr2.out.2
          have HbR := hbw.drew
          have HbRh := Lib.hid HbR
          have Hbw := Lib.hid (Hb.out.trans (hbw.mono hsz))
          have HX2 := Lib.hid (HX.out.below (by rw [rowC_size]; omega) hbw)
          have HB2 := Lib.hid ((HB.out.below Hb.out).below hbw)
          have HownW := Lib.hid (owns_below Hown.out hbw)
          have hszw : w.heap.size ≤ wr.heap.size := Nat.le_trans hsz hbw.size
          have hq := Hlo.out.1
          have c0 := HB2.out.cell (i := 0) rfl
          have f0 := HB2.out.free 0
          have hbl2 : b < wr.heap.size := HB2.out.lt
          have hgl2 : g < wr.heap.size := HX2.out.lt (by rw [rowC_size]; omega)
          have rsl : wr.cell? ⟨g, oo + j * 35 + 34, none⟩ = some (.int .i64 r.2.slot) := row_at_slot HX2.out
          have hlc := (own_shape HownW.out).1
          clear hbw hr2 HX Hown s33 HbR
          by_cases hql : q < l.length
          · have hql2 : (q : Int) < (l.length : Int) := by omega
            obtain ⟨lg, hla⟩ : ∃ lg, la = some ⟨lg, 0, none⟩ := by
              cases h : la with
              | none => have := (own_shape HownW.out).2.2.1 h; omega
              | some x => exact ⟨x.block, by rw [← ((own_shape HownW.out).2.2.2 x h).2.2]⟩
            obtain ⟨lg', lo', he, hY⟩ := row_at rowL_length (Row.owned HownW.out) hql (by omega)
            rw [hla] at he
            injection he with he
            injection he with e1 e2
            subst e1 e2 hla
            have lsl : wr.cell? ⟨lg, q * 35 + 34, none⟩ = some (.int .i64 l[q].2.slot) := by
              have := row_at_slot hY
              rwa [Nat.zero_add] at this
            have hlgl : lg < wr.heap.size := hY.lt (by rw [List.size_toArray, rowL_length]; omega)
            clear hY
            obtain ⟨sx, hsx⟩ : ∃ sx, l[q].2.slot = sx := ⟨_, rfl⟩
            have Hsx := Lib.hid hsx
            rw [hsx] at lsl
            clear hsx
            by_cases hle : sx ≤ r.2.slot
            · have Hlo2 : Hid (∀ p (hp : p < l.length), p < q + 1 → l[p].2.slot ≤ r.2.slot) := fun p hp h => by
                by_cases e : p = q
                · subst e; rw [Hsx.out]; exact hle
                · exact Hlo.out.2 p hp (by omega)
              go_wp2
              refine Go.XR.region_sched ((· = wr.drew)) [(0, true), (1, true), (2, true), (3, true), (4, true), (5, true), (6, true), (7, true), (8, true), (9, true), (10, true), (11, true), (12, true), (13, true), (14, true), (15, true), (16, true), (17, true), (18, true), (19, true), (20, false), (21, false)] [20, 21] Tryz.mixed (by kernel_rfl) (by kernel_rfl) (by kernel_rfl) ?_
              simp only [List.map_cons, List.map_nil, List.getElem?_cons_succ, List.getElem?_cons_zero]
              repeat (first | (refine Go.XR.S_light rfl rfl rfl ?_ (fun w' hS K hK => ?_) (fun K hK => ?_); rotate_left 1; (cases hS; go_step; exact hK); go_step; refine hK _ ?_; clear hK K) | (refine Go.XR.S_light_off rfl rfl (fun K hK => ?_); go_step; refine hK _ ?_; clear hK K) | (refine Go.XR.S_light_on rfl rfl rfl rfl ?_ (fun w' hS K hK => ?_) (fun K hK => ?_); rotate_left 1; (cases hS; go_step; exact hK); go_step; refine hK _ ?_; clear hK K))
              repeat (first | (refine Go.XR.S_heavy (fun K hK => ?_); go_step; refine hK _ _ ⟨fun h => by simp at h, ?_⟩; clear hK K) | (refine Go.XR.S_heavy_off rfl (fun h => by simp at h) (fun K hK => ?_); go_step; refine hK _ ?_; clear hK K) | (refine Go.XR.S_heavy_on rfl (fun K hK => ?_); go_step; refine hK _ _ ⟨fun h => by simp at h, ?_⟩; clear hK K))
              refine Go.XR.S_nil ?_
              go_wp2
              go_roundg (l.length - (q + 1))
              case measure => omega
              case rel => exact ⟨HbRh.out, q + 1, by go_num, rfl, by omega, Hlo2.out⟩
            · have Hhi : Hid (∀ p (hp : p < l.length), p = q → r.2.slot < l[p].2.slot) := fun p hp e => by subst e; rw [Hsx.out]; omega
              go_wp2
              refine Go.XR.region_sched ((· = wr.drew)) [(0, true), (1, true), (2, true), (3, true), (4, true), (5, true), (6, true), (7, true), (8, true), (9, true), (10, true), (11, true), (12, true), (13, true), (14, true), (15, true), (16, true), (17, true), (18, true), (19, true), (20, false), (21, false)] [20, 21] Tryz.mixed (by kernel_rfl) (by kernel_rfl) (by kernel_rfl) ?_
              simp only [List.map_cons, List.map_nil, List.getElem?_cons_succ, List.getElem?_cons_zero]
              repeat (first | (refine Go.XR.S_light rfl rfl rfl ?_ (fun w' hS K hK => ?_) (fun K hK => ?_); rotate_left 1; (cases hS; go_step; exact hK); go_step; refine hK _ ?_; clear hK K) | (refine Go.XR.S_light_off rfl rfl (fun K hK => ?_); go_step; refine hK _ ?_; clear hK K) | (refine Go.XR.S_light_on rfl rfl rfl rfl ?_ (fun w' hS K hK => ?_) (fun K hK => ?_); rotate_left 1; (cases hS; go_step; exact hK); go_step; refine hK _ ?_; clear hK K))
              repeat (first | (refine Go.XR.S_heavy (fun K hK => ?_); go_step; refine hK _ _ ⟨fun h => by simp at h, ?_⟩; clear hK K) | (refine Go.XR.S_heavy_off rfl (fun h => by simp at h) (fun K hK => ?_); go_step; refine hK _ ?_; clear hK K) | (refine Go.XR.S_heavy_on rfl (fun K hK => ?_); go_step; refine hK _ _ ⟨fun h => by simp at h, ?_⟩; clear hK K))
              refine Go.XR.S_nil ?_
              have hti : (l.take q).length = q := by rw [List.length_take]; omega
              have Hti := Lib.hid hti
              have HRt : Hid (Row wr (some (⟨lg, 0, none⟩ : Addr)) ((l.take q).flatMap rowL)) := by
                have h1 := (Row.owned HownW.out).take (q * 35)
                rwa [flat_take rowL_length l hq] at h1
              have hqc : (q : Int) ≤ (lc : Int) := by omega
              have hqll : (q : Int) ≤ (l.length : Int) := by omega
              clear hti
              go_wp2_with (at_builtin; refine Go.XR.stop (fun X hX => ?_))
              refine hX.out ?_
              clear hX X
              obtain ⟨T1, hT1⟩ : ∃ T1, l.take q = T1 := ⟨_, rfl⟩
              have HT1 := Lib.hid hT1
              rw [hT1] at HRt Hti
              clear hT1
              obtain ⟨nb, hnb⟩ : ∃ nb, wr.heap.size = nb := ⟨_, rfl⟩
              have Hnb := Lib.hid hnb
              have hnbW : w.heap.size ≤ nb := by rw [← hnb]; exact hszw
              obtain ⟨w2, hw2⟩ : ∃ w2, (wr.alloc (.cells #[] 42)).drew = w2 := ⟨_, rfl⟩
              have hb2 : Below nb wr w2 := by rw [← hw2, ← hnb]; exact ((Below.refl _ _).alloc (Nat.le_refl _) _).drew
              have ho2 : w2.ownsRow nb 42 35 (.slice (some ⟨nb, 0, none⟩) ([] : List RowT).length 0) ([] : List RowT).length (([] : List RowT).flatMap rowL) := by
                rw [← hw2, ← hnb]
                exact ⟨rfl, .inr ⟨wr.heap.size, 0, #[], rfl, Nat.le_refl _, (MapKept.heap_alloc wr _).1, Nat.le_refl _, by unfold maxLen; omega, rfl, rfl⟩⟩
              have hs2 : nb ≤ w2.heap.size := by rw [← hw2, ← hnb]; show wr.heap.size ≤ (wr.alloc _).heap.size; simp
              rw [hw2, hnb]
              have Ho2 := Lib.hid ho2
              have HR2 := Lib.hid (HRt.out.below (by rw [hnb]; exact hb2))
              have Hb2 := Lib.hid hb2
              have hnilA := (own_shape HownW.out).2.2.1
              clear hw2 ho2 hb2 HRt hnb c0 f0
              refine wpList_plain rfl (fun K hK => ?_)
              refine append_enc (P := Tryz.prog) rowL 35 56 rowL_length one_rowL 42 Tryz.underlying60 (by kernel_rfl) (by decide) nb (some ⟨nb, 0, none⟩) 0 [] rfl Ho2.out (some (⟨lg, 0, none⟩ : Addr)) lc T1 (by rw [Hti.out]; rfl) HR2.out (fun e => by
                have h1 := hnilA e
                have := Hti.out
                omega) (by have := Hti.out; simp; omega) (by have := Hti.out; unfold maxLen; simp; omega) hs2 ?_
              intro a3 c3 w3 ho3 hb3 _ _
              rw [List.nil_append] at ho3 ⊢
              have Ho3 := Lib.hid ho3
              have Hb3 := Lib.hid (Hb2.out.trans hb3)
              have hs3 : nb ≤ w3.heap.size := Nat.le_trans hs2 hb3.size
              have HX3 := Lib.hid (HX2.out.below (by rw [rowC_size]; omega) (by rw [Hnb.out]; exact Hb3.out))
              have HB3 := Lib.hid (HB2.out.below (by rw [Hnb.out]; exact Hb3.out))
              have c0 := HB3.out.cell (i := 0) rfl
              clear ho3 hb3 Ho2 HR2 Hb2 hs2 hnilA
              go_wp2_with (first | (refine wpList_load_at rfl 42 (.tmp 64) rfl g (oo + j * 35) (by kernel_rfl) (rowC r) HX3.out _ Tryz.underlying42 rfl (rowSize r) ?_) | (refine wpList_build_one rfl 60 (.tmp 65) rfl 42 35 Tryz.underlying60 (by kernel_rfl) (by omega) (by omega) _ (Hzr.out _) (rowC r) rfl (rowC_size _) ?_) | (at_builtin; refine Go.XR.stop (fun X hX => ?_)))
              refine hX.out ?_
              clear hX X
              refine wpList_plain rfl (fun K hK => ?_)
              refine append_enc (P := Tryz.prog) rowL 35 56 rowL_length one_rowL 42 Tryz.underlying60 (by kernel_rfl) (by decide) nb a3 c3 T1 rfl (Ho3.out.alloc _) (some ⟨w3.heap.size, 0, none⟩) 1 [r] rfl (by rw [List.flatMap_cons, List.flatMap_nil, List.append_nil]; exact Row.new _ _ _) (fun e => by cases e) (by have := Hti.out; simp; omega) (by have := Hti.out; unfold maxLen; simp; omega) (by simp; omega) ?_
              intro a4 c4 w4 ho4 hb4 _ _
              have Ho4 := Lib.hid ho4
              have Hb4 := Lib.hid (Hb3.out.trans (((Below.refl nb w3).alloc hs3 _).trans hb4))
              have hs4 : nb ≤ w4.heap.size := Nat.le_trans hs3 (Nat.le_trans (by simp) hb4.size)
              clear ho4 hb4 Ho3 Hb3 HX3 HB3 hs3 c0
              obtain ⟨T2, hT2⟩ : ∃ T2, T1 ++ [r] = T2 := ⟨_, rfl⟩
              have HT2 := Lib.hid hT2
              have Ht2 : Hid (T2.length ≤ l.length + 1) := by unfold Hid; rw [← hT2, List.length_append]; have := Hti.out; simp; omega
              rw [hT2] at Ho4 ⊢
              clear hT2
              have HR4 := Lib.hid ((Row.owned HownW.out).below (by rw [Hnb.out]; exact Hb4.out))
              have hshp := (own_shape HownW.out).2.2
              have hdl : (l.drop q).length = l.length - q := List.length_drop
              by_cases hcj : lc = q
              · have hd0 : l.drop q = [] := List.drop_eq_nil_of_le (by omega)
                have Hdr : Hid (Row w4 (some (⟨lg, 0, none⟩ : Addr)) ((l.drop q).flatMap rowL)) := .inl (by rw [hd0]; rfl)
                have Hdl : Hid (l.length - q = (l.drop q).length ∧ lc - q = 0) := ⟨hdl.symm, by omega⟩
                clear hd0 hdl hshp
                go_wp2_with (at_builtin; refine Go.XR.stop (fun X hX => ?_))
                refine hX.out ?_
                clear hX X
                refine wpList_plain rfl (fun K hK => ?_)
                refine append_encN (P := Tryz.prog) rowL 35 56 rowL_length one_rowL 42 Tryz.underlying60 (by kernel_rfl) (by decide) nb a4 c4 T2 rfl Ho4.out _ _ _ (l.drop q) rfl Hdl.out.1 Hdr.out (fun _ => ⟨(by have := Hdl.out; omega), (by have := Hdl.out; omega)⟩) (by have := Ht2.out; rw [List.length_drop]; omega) (by have := Ht2.out; unfold maxLen; rw [List.length_drop]; omega) hs4 ?_
                intro a5 c5 w5 ho5 hb5
                have hT : T2 ++ l.drop q = l.take q ++ r :: l.drop q := by rw [← HT2.out, ← HT1.out, List.append_assoc]; rfl
                rw [hT] at ho5 ⊢
                have Hown5 := Lib.hid (owns_base ho5 hnbW)
                have HbE := Lib.hid (Hbw.out.trans (((Hb4.out.trans hb5)).mono hnbW))
                have Hmn := Lib.hid (shelf_step (s := s.1) HR0.out hlt Hm.out Hsr.out Hrs.out Hlo.out Hhi.out)
                clear ho5 hb5 hT
                obtain ⟨l2, hl2⟩ : ∃ l2, l.take q ++ r :: l.drop q = l2 := ⟨_, rfl⟩
                rw [hl2] at Hown5 Hmn ⊢
                clear hl2
                go_wp2
                go_roundg (R.length - (j + 1))
                case measure => omega
                case rel => exact ⟨HbE.out, j + 1, l2, a5, c5, by go_num, rfl, rfl, by omega, Hmn.out, Hown5.out⟩
              · obtain ⟨lg2, hag⟩ : ∃ lg2, (some (⟨lg, 0, none⟩ : Addr)) = some (⟨lg2, 0, none⟩ : Addr) := by
                  cases ha : (some (⟨lg, 0, none⟩ : Addr)) with
                  | none => have := hshp.1 ha; omega
                  | some x => exact ⟨x.block, by rw [← (hshp.2 x ha).2.2]⟩
                have Hdr : Hid (Row w4 (some ⟨lg2, q * 35, none⟩) ((l.drop q).flatMap rowL)) := by
                  rcases HR4.out with h1 | ⟨g', o', he, h1⟩
                  · have := flat_len rowL_length l
                    rw [h1] at this
                    have h2 : l = [] := List.eq_nil_of_length_eq_zero (by rw [List.length_nil] at this; omega)
                    rw [h2]; exact .inl (by simp)
                  · rw [hag] at he
                    injection he with he
                    injection he with e1 e2
                    subst e1 e2
                    refine .inr ⟨_, q * 35, rfl, fun p u hp => ?_⟩
                    have h3 := flat_drop rowL_length l hq
                    rw [← h3, List.getElem?_drop] at hp
                    have := h1 _ u hp
                    rwa [Nat.zero_add] at this
                clear hshp
                (injection hag with hag; injection hag with hag; subst hag)
                go_wp2_with (at_builtin; refine Go.XR.stop (fun X hX => ?_))
                refine hX.out ?_
                clear hX X
                refine wpList_plain rfl (fun K hK => ?_)
                refine append_encN (P := Tryz.prog) rowL 35 56 rowL_length one_rowL 42 Tryz.underlying60 (by kernel_rfl) (by decide) nb a4 c4 T2 rfl Ho4.out _ _ _ (l.drop q) rfl hdl.symm Hdr.out (fun e => by cases e) (by have := Ht2.out; rw [List.length_drop]; omega) (by have := Ht2.out; unfold maxLen; rw [List.length_drop]; omega) hs4 ?_
                intro a5 c5 w5 ho5 hb5
                have hT : T2 ++ l.drop q = l.take q ++ r :: l.drop q := by rw [← HT2.out, ← HT1.out, List.append_assoc]; rfl
                rw [hT] at ho5 ⊢
                have Hown5 := Lib.hid (owns_base ho5 hnbW)
                have HbE := Lib.hid (Hbw.out.trans (((Hb4.out.trans hb5)).mono hnbW))
                have Hmn := Lib.hid (shelf_step (s := s.1) HR0.out hlt Hm.out Hsr.out Hrs.out Hlo.out Hhi.out)
                clear ho5 hb5 hT
                obtain ⟨l2, hl2⟩ : ∃ l2, l.take q ++ r :: l.drop q = l2 := ⟨_, rfl⟩
                rw [hl2] at Hown5 Hmn ⊢
                clear hl2
                go_wp2
                go_roundg (R.length - (j + 1))
                case measure => omega
                case rel => exact ⟨HbE.out, j + 1, l2, a5, c5, by go_num, rfl, rfl, by omega, Hmn.out, Hown5.out⟩
          · have hge2 : ¬ (q : Int) < (l.length : Int) := by omega
            have Hhi : Hid (∀ p (hp : p < l.length), p = q → r.2.slot < l[p].2.slot) := fun p hp e => by omega
            go_wp2
            refine Go.XR.region_sched ((· = wr.drew)) [(0, true), (1, true), (2, true), (3, true), (4, true), (5, true), (6, true), (7, true), (8, true), (9, true), (10, true), (11, true), (12, true), (13, true), (14, true), (15, true), (16, true), (17, true), (18, true), (19, true), (20, false), (21, false)] [20, 21] Tryz.mixed (by kernel_rfl) (by kernel_rfl) (by kernel_rfl) ?_
            simp only [List.map_cons, List.map_nil, List.getElem?_cons_succ, List.getElem?_cons_zero]
            repeat (first | (refine Go.XR.S_light rfl rfl rfl ?_ (fun w' hS K hK => ?_) (fun K hK => ?_); rotate_left 1; (cases hS; go_step; exact hK); go_step; refine hK _ ?_; clear hK K) | (refine Go.XR.S_light_off rfl rfl (fun K hK => ?_); go_step; refine hK _ ?_; clear hK K) | (refine Go.XR.S_light_on rfl rfl rfl rfl ?_ (fun w' hS K hK => ?_) (fun K hK => ?_); rotate_left 1; (cases hS; go_step; exact hK); go_step; refine hK _ ?_; clear hK K))
            repeat (first | (refine Go.XR.S_heavy (fun K hK => ?_); go_step; refine hK _ _ ⟨fun h => by simp at h, ?_⟩; clear hK K) | (refine Go.XR.S_heavy_off rfl (fun h => by simp at h) (fun K hK => ?_); go_step; refine hK _ ?_; clear hK K) | (refine Go.XR.S_heavy_on rfl (fun K hK => ?_); go_step; refine hK _ _ ⟨fun h => by simp at h, ?_⟩; clear hK K))
            refine Go.XR.S_nil ?_
            have hti : (l.take q).length = q := by rw [List.length_take]; omega
            have Hti := Lib.hid hti
            have HRt : Hid (Row wr la ((l.take q).flatMap rowL)) := by
              have h1 := (Row.owned HownW.out).take (q * 35)
              rwa [flat_take rowL_length l hq] at h1
            have hqc : (q : Int) ≤ (lc : Int) := by omega
            have hqll : (q : Int) ≤ (l.length : Int) := by omega
            clear hti
            go_wp2_with (at_builtin; refine Go.XR.stop (fun X hX => ?_))
            refine hX.out ?_
            clear hX X
            obtain ⟨T1, hT1⟩ : ∃ T1, l.take q = T1 := ⟨_, rfl⟩
            have HT1 := Lib.hid hT1
            rw [hT1] at HRt Hti
            clear hT1
            obtain ⟨nb, hnb⟩ : ∃ nb, wr.heap.size = nb := ⟨_, rfl⟩
            have Hnb := Lib.hid hnb
            have hnbW : w.heap.size ≤ nb := by rw [← hnb]; exact hszw
            obtain ⟨w2, hw2⟩ : ∃ w2, (wr.alloc (.cells #[] 42)).drew = w2 := ⟨_, rfl⟩
            have hb2 : Below nb wr w2 := by rw [← hw2, ← hnb]; exact ((Below.refl _ _).alloc (Nat.le_refl _) _).drew
            have ho2 : w2.ownsRow nb 42 35 (.slice (some ⟨nb, 0, none⟩) ([] : List RowT).length 0) ([] : List RowT).length (([] : List RowT).flatMap rowL) := by
              rw [← hw2, ← hnb]
              exact ⟨rfl, .inr ⟨wr.heap.size, 0, #[], rfl, Nat.le_refl _, (MapKept.heap_alloc wr _).1, Nat.le_refl _, by unfold maxLen; omega, rfl, rfl⟩⟩
            have hs2 : nb ≤ w2.heap.size := by rw [← hw2, ← hnb]; show wr.heap.size ≤ (wr.alloc _).heap.size; simp
            rw [hw2, hnb]
            have Ho2 := Lib.hid ho2
            have HR2 := Lib.hid (HRt.out.below (by rw [hnb]; exact hb2))
            have Hb2 := Lib.hid hb2
            have hnilA := (own_shape HownW.out).2.2.1
            clear hw2 ho2 hb2 HRt hnb c0 f0
            refine wpList_plain rfl (fun K hK => ?_)
            refine append_enc (P := Tryz.prog) rowL 35 56 rowL_length one_rowL 42 Tryz.underlying60 (by kernel_rfl) (by decide) nb (some ⟨nb, 0, none⟩) 0 [] rfl Ho2.out la lc T1 (by rw [Hti.out]; rfl) HR2.out (fun e => by
              have h1 := hnilA e
              have := Hti.out
              omega) (by have := Hti.out; simp; omega) (by have := Hti.out; unfold maxLen; simp; omega) hs2 ?_
            intro a3 c3 w3 ho3 hb3 _ _
            rw [List.nil_append] at ho3 ⊢
            have Ho3 := Lib.hid ho3
            have Hb3 := Lib.hid (Hb2.out.trans hb3)
            have hs3 : nb ≤ w3.heap.size := Nat.le_trans hs2 hb3.size
            have HX3 := Lib.hid (HX2.out.below (by rw [rowC_size]; omega) (by rw [Hnb.out]; exact Hb3.out))
            have HB3 := Lib.hid (HB2.out.below (by rw [Hnb.out]; exact Hb3.out))
            have c0 := HB3.out.cell (i := 0) rfl
            clear ho3 hb3 Ho2 HR2 Hb2 hs2 hnilA
            go_wp2_with (first | (refine wpList_load_at rfl 42 (.tmp 64) rfl g (oo + j * 35) (by kernel_rfl) (rowC r) HX3.out _ Tryz.underlying42 rfl (rowSize r) ?_) | (refine wpList_build_one rfl 60 (.tmp 65) rfl 42 35 Tryz.underlying60 (by kernel_rfl) (by omega) (by omega) _ (Hzr.out _) (rowC r) rfl (rowC_size _) ?_) | (at_builtin; refine Go.XR.stop (fun X hX => ?_)))
            refine hX.out ?_
            clear hX X
            refine wpList_plain rfl (fun K hK => ?_)
            refine append_enc (P := Tryz.prog) rowL 35 56 rowL_length one_rowL 42 Tryz.underlying60 (by kernel_rfl) (by decide) nb a3 c3 T1 rfl (Ho3.out.alloc _) (some ⟨w3.heap.size, 0, none⟩) 1 [r] rfl (by rw [List.flatMap_cons, List.flatMap_nil, List.append_nil]; exact Row.new _ _ _) (fun e => by cases e) (by have := Hti.out; simp; omega) (by have := Hti.out; unfold maxLen; simp; omega) (by simp; omega) ?_
            intro a4 c4 w4 ho4 hb4 _ _
            have Ho4 := Lib.hid ho4
            have Hb4 := Lib.hid (Hb3.out.trans (((Below.refl nb w3).alloc hs3 _).trans hb4))
            have hs4 : nb ≤ w4.heap.size := Nat.le_trans hs3 (Nat.le_trans (by simp) hb4.size)
            clear ho4 hb4 Ho3 Hb3 HX3 HB3 hs3 c0
            obtain ⟨T2, hT2⟩ : ∃ T2, T1 ++ [r] = T2 := ⟨_, rfl⟩
            have HT2 := Lib.hid hT2
            have Ht2 : Hid (T2.length ≤ l.length + 1) := by unfold Hid; rw [← hT2, List.length_append]; have := Hti.out; simp; omega
            rw [hT2] at Ho4 ⊢
            clear hT2
            have HR4 := Lib.hid ((Row.owned HownW.out).below (by rw [Hnb.out]; exact Hb4.out))
            have hshp := (own_shape HownW.out).2.2
            have hdl : (l.drop q).length = l.length - q := List.length_drop
            by_cases hcj : lc = q
            · have hd0 : l.drop q = [] := List.drop_eq_nil_of_le (by omega)
              have Hdr : Hid (Row w4 la ((l.drop q).flatMap rowL)) := .inl (by rw [hd0]; rfl)
              have Hdl : Hid (l.length - q = (l.drop q).length ∧ lc - q = 0) := ⟨hdl.symm, by omega⟩
              clear hd0 hdl hshp
              go_wp2_with (at_builtin; refine Go.XR.stop (fun X hX => ?_))
              refine hX.out ?_
              clear hX X
              refine wpList_plain rfl (fun K hK => ?_)
              refine append_encN (P := Tryz.prog) rowL 35 56 rowL_length one_rowL 42 Tryz.underlying60 (by kernel_rfl) (by decide) nb a4 c4 T2 rfl Ho4.out _ _ _ (l.drop q) rfl Hdl.out.1 Hdr.out (fun _ => ⟨(by have := Hdl.out; omega), (by have := Hdl.out; omega)⟩) (by have := Ht2.out; rw [List.length_drop]; omega) (by have := Ht2.out; unfold maxLen; rw [List.length_drop]; omega) hs4 ?_
              intro a5 c5 w5 ho5 hb5
              have hT : T2 ++ l.drop q = l.take q ++ r :: l.drop q := by rw [← HT2.out, ← HT1.out, List.append_assoc]; rfl
              rw [hT] at ho5 ⊢
              have Hown5 := Lib.hid (owns_base ho5 hnbW)
              have HbE := Lib.hid (Hbw.out.trans (((Hb4.out.trans hb5)).mono hnbW))
              have Hmn := Lib.hid (shelf_step (s := s.1) HR0.out hlt Hm.out Hsr.out Hrs.out Hlo.out Hhi.out)
              clear ho5 hb5 hT
              obtain ⟨l2, hl2⟩ : ∃ l2, l.take q ++ r :: l.drop q = l2 := ⟨_, rfl⟩
              rw [hl2] at Hown5 Hmn ⊢
              clear hl2
              go_wp2
              go_roundg (R.length - (j + 1))
              case measure => omega
              case rel => exact ⟨HbE.out, j + 1, l2, a5, c5, by go_num, rfl, rfl, by omega, Hmn.out, Hown5.out⟩
            · obtain ⟨lg2, hag⟩ : ∃ lg2, la = some (⟨lg2, 0, none⟩ : Addr) := by
                cases ha : la with
                | none => have := hshp.1 ha; omega
                | some x => exact ⟨x.block, by rw [← (hshp.2 x ha).2.2]⟩
              have Hdr : Hid (Row w4 (some ⟨lg2, q * 35, none⟩) ((l.drop q).flatMap rowL)) := by
                rcases HR4.out with h1 | ⟨g', o', he, h1⟩
                · have := flat_len rowL_length l
                  rw [h1] at this
                  have h2 : l = [] := List.eq_nil_of_length_eq_zero (by rw [List.length_nil] at this; omega)
                  rw [h2]; exact .inl (by simp)
                · rw [hag] at he
                  injection he with he
                  injection he with e1 e2
                  subst e1 e2
                  refine .inr ⟨_, q * 35, rfl, fun p u hp => ?_⟩
                  have h3 := flat_drop rowL_length l hq
                  rw [← h3, List.getElem?_drop] at hp
                  have := h1 _ u hp
                  rwa [Nat.zero_add] at this
              clear hshp
              subst hag
              go_wp2_with (at_builtin; refine Go.XR.stop (fun X hX => ?_))
              refine hX.out ?_
              clear hX X
              refine wpList_plain rfl (fun K hK => ?_)
              refine append_encN (P := Tryz.prog) rowL 35 56 rowL_length one_rowL 42 Tryz.underlying60 (by kernel_rfl) (by decide) nb a4 c4 T2 rfl Ho4.out _ _ _ (l.drop q) rfl hdl.symm Hdr.out (fun e => by cases e) (by have := Ht2.out; rw [List.length_drop]; omega) (by have := Ht2.out; unfold maxLen; rw [List.length_drop]; omega) hs4 ?_
              intro a5 c5 w5 ho5 hb5
              have hT : T2 ++ l.drop q = l.take q ++ r :: l.drop q := by rw [← HT2.out, ← HT1.out, List.append_assoc]; rfl
              rw [hT] at ho5 ⊢
              have Hown5 := Lib.hid (owns_base ho5 hnbW)
              have HbE := Lib.hid (Hbw.out.trans (((Hb4.out.trans hb5)).mono hnbW))
              have Hmn := Lib.hid (shelf_step (s := s.1) HR0.out hlt Hm.out Hsr.out Hrs.out Hlo.out Hhi.out)
              clear ho5 hb5 hT
              obtain ⟨l2, hl2⟩ : ∃ l2, l.take q ++ r :: l.drop q = l2 := ⟨_, rfl⟩
              rw [hl2] at Hown5 Hmn ⊢
              clear hl2
              go_wp2
              go_roundg (R.length - (j + 1))
              case measure => omega
              case rel => exact ⟨HbE.out, j + 1, l2, a5, c5, by go_num, rfl, rfl, by omega, Hmn.out, Hown5.out⟩
      · have hne : ¬ r.2.shelf = s.1 := hs
        have Hsk : Hid (ShM R s.1 (j + 1) l) := shelf_skip hlt Hm.out (by rw [Hsr.out]; exact hs)
        clear hs
        go_wp2
        go_roundg (R.length - (j + 1))
        case measure => omega
        case rel => exact ⟨Hb.out, j + 1, l, la, lc, by go_num, rfl, rfl, by omega, Hsk.out, Hown.out⟩
    · have hge : ¬ (j : Int) < (R.length : Int) := by omega
      have Hme : Hid (ShM R s.1 R.length l) := by have := Hm.out; rwa [show j = R.length by omega] at this
      have Hos : Hid (∀ x, la = some x → w.heap.size ≤ x.block) := fun x hx => ((own_shape Hown.out).2.2.2 x hx).1
      go_wp2
      go_ret
      exact ⟨l, Hme.out, la, lc, rfl, Row.owned Hown.out, Hos.out, (own_shape Hown.out).1, (own_shape Hown.out).2.2.1, Hb.out⟩
theorem refshelf_any (w : World) (b : Nat) (R : List RowT) (F : List Nat) (h : RefIx w b R F) (hR0 : SrtA R) (hlen : R.length ≤ 2^20) (s : I64) :
    Calls Tryz.prog 26 #[.pointer (some ⟨b, 0, none⟩), .int .i64 s.1] w fun e w' => ∃ L, ShM R s.1 R.length L ∧ RetRows w L e w' := by
  refine (refshelf_cap w b R F h hR0 hlen s).mono ?_
  rintro e w' ⟨L, h1, a, c, h2, h3, h4, _, _, h5⟩
  exact ⟨L, h1, a, c, h2, h3, h4, h5⟩
end Go.Proofs.YtnfbchhbcinloaaGreat

/- The reference's cache: how it lies; the walks over at and cut. -/
namespace Go.Proofs.YtnfbchhbcinloaaGreat
open Go.RowKit Go.XR Go.IndexPure Go.CachePure Go.FindPure
/-- a table of the reference's cache -/
structure TabE where
  sh : I64
  a : Option Addr
  c : Nat
  L : List RowT
def tcL (e : TabE) : List Value := [.int .i64 e.sh.1, .slice e.a e.L.length e.c]
theorem tcL_length (e : TabE) : (tcL e).length = 2 := rfl
theorem one_tcL (e : TabE) : ∀ v ∈ tcL e, v.oneCell' = true := by
  intro v hv
  unfold tcL at hv
  rcases List.mem_cons.1 hv with rfl | h
  · rfl
  · rw [List.mem_singleton] at h; subst h; rfl
structure TabOk (w : World) (G F : List Nat) (e : TabE) : Prop where
  row : Row w e.a (e.L.flatMap rowL)
  cap : e.L.length ≤ e.c
  len : e.L.length ≤ 2^20
  ap : ∀ x, e.a = some x → x.block ∉ G ∧ x.block ∉ F ∧ x.block < w.heap.size
/-- the reference's cache: tables and room; its own blocks G; apart from the blocks F -/
def RCch (w : World) (b : Nat) (G : List Nat) (room : Nat) (T : List TabE) (F : List Nat) : Prop :=
  ∃ a c, G = b :: oB a ∧ Blk w b [.slice a T.length c, .int .i64 room] ∧ w.ownsRow 0 120 2 (.slice a T.length c) T.length (T.flatMap tcL) ∧ (∀ i ∈ G, i ∉ F) ∧ (∀ x, a = some x → x.block ≠ b) ∧ ∀ e ∈ T, TabOk w G F e
theorem TabOk.but {w w' : World} {G : List Nat} {e : TabE} {F S : List Nat} (h : TabOk w G F e) (hb : But S w w') (hS : ∀ i ∈ S, i ∈ G ∨ i ∈ F ∨ w.heap.size ≤ i) : TabOk w' G F e where
  row := h.row.but hb fun g o ha hm => by
    have := h.ap _ ha
    rcases hS g hm with h1 | h1 | h1
    · exact this.1 h1
    · exact this.2.1 h1
    · have h2 : g < w.heap.size := this.2.2
      omega
  cap := h.cap
  len := h.len
  ap := fun x hx => ⟨(h.ap x hx).1, (h.ap x hx).2.1, Nat.lt_of_lt_of_le (h.ap x hx).2.2 hb.size⟩
theorem TabOk.below {w w' : World} {G : List Nat} {e : TabE} {F : List Nat} (h : TabOk w G F e) (hb : Below w.heap.size w w') : TabOk w' G F e := h.but (S := []) (But.of_below hb) (fun i hi => by cases hi)
theorem TabOk.to {w : World} {G G' : List Nat} {e : TabE} {F F' : List Nat} (h : TabOk w G F e) (hG : ∀ i, i < w.heap.size → i ∉ G → i ∉ F → i ∉ G' ∧ i ∉ F') : TabOk w G' F' e :=
  ⟨h.row, h.cap, h.len, fun x hx => ⟨(hG _ (h.ap x hx).2.2 (h.ap x hx).1 (h.ap x hx).2.1).1, (hG _ (h.ap x hx).2.2 (h.ap x hx).1 (h.ap x hx).2.1).2, (h.ap x hx).2.2⟩⟩
theorem owns_out {S : List Nat} {w w' : World} {base : Nat} {e : TypeId} {size : Nat} {a : Option Addr} {n c : Nat} {xs : List Value} (h : w.ownsRow base e size (.slice a n c) n xs) (hb : But S w w') (hS : ∀ i ∈ oB a, i ∉ S) : w'.ownsRow base e size (.slice a n c) n xs := by
  refine ⟨h.1, ?_⟩
  rcases h.2 with h2 | ⟨g, cap, cur, h1, h2, h3, h4⟩
  · exact .inl h2
  · have h5 := h1
    injection h5 with e1 _ _
    subst e1
    exact .inr ⟨g, cap, cur, h1, h2, (hb.block g (Array.getElem?_eq_some_iff.1 h3).1 (hS g (by simp [oB]))).trans h3, h4⟩
theorem owns_in {w : World} {base : Nat} {e : TypeId} {size : Nat} {a : Option Addr} {n c : Nat} {xs : List Value} (h : w.ownsRow base e size (.slice a n c) n xs) : ∀ i ∈ oB a, base ≤ i ∧ i < w.heap.size := fun i hi => by
  obtain ⟨x, rfl, rfl⟩ := mem_oB.1 hi
  exact h.lt x.block rfl
theorem RCch.lt {w : World} {b room : Nat} {G : List Nat} {T : List TabE} {F : List Nat} (h : RCch w b G room T F) : ∀ i ∈ G, i < w.heap.size := fun i hi => by
  obtain ⟨a, c, rfl, h1, h2, _⟩ := h
  rcases List.mem_cons.1 hi with rfl | hi
  · exact h1.lt
  · exact (owns_in h2 i hi).2
theorem RCch.out {w : World} {b room : Nat} {G : List Nat} {T : List TabE} {F : List Nat} (h : RCch w b G room T F) : ∀ i ∈ G, i ∉ F := by
  obtain ⟨a, c, rfl, h1, h2, h3, _⟩ := h
  exact h3
theorem RCch.but {w w' : World} {b room : Nat} {G : List Nat} {T : List TabE} {F S : List Nat} (h : RCch w b G room T F) (hb : But S w w') (hS : ∀ i ∈ S, i ∈ F ∨ w.heap.size ≤ i) : RCch w' b G room T F := by
  have hlt := h.lt
  obtain ⟨a, c, rfl, h1, h2, h3, h4, h5⟩ := h
  have hn : ∀ i ∈ b :: oB a, i ∉ S := fun i hi hm => by
    have := hlt i hi
    rcases hS i hm with h | h
    · exact h3 i hi h
    · omega
  exact ⟨a, c, rfl, h1.but hb (hn b (by simp)), owns_out h2 hb (fun i hi => hn i (by simp [hi])), h3, h4, fun e he => (h5 e he).but hb fun i hi => .inr (hS i hi)⟩
theorem RCch.below {w w' : World} {b room : Nat} {G : List Nat} {T : List TabE} {F : List Nat} (h : RCch w b G room T F) (hb : Below w.heap.size w w') : RCch w' b G room T F := h.but (S := []) (But.of_below hb) (fun i hi => by cases hi)
theorem RCch.grew {w : World} {b room : Nat} {G : List Nat} {T : List TabE} {F F' : List Nat} (h : RCch w b G room T F) (hg : Grew w F F') : RCch w b G room T F' := by
  have hlt := h.lt
  obtain ⟨a, c, rfl, h1, h2, h3, h4, h5⟩ := h
  have hn : ∀ i, i < w.heap.size → i ∉ F → i ∉ F' := fun i h7 h8 h9 => by
    rcases hg i h9 with h | h
    · exact h8 h
    · omega
  exact ⟨a, c, rfl, h1, h2, fun i hi => hn i (hlt i hi) (h3 i hi), h4, fun e he => (h5 e he).to fun i h1 h2 h3 => ⟨h2, hn i h1 h3⟩⟩
theorem owns_shape {w : World} {B : Nat} {t : TypeId} {k : Nat} {a : Option Addr} {n c : Nat} {xs : List Value} (h : w.ownsRow B t k (.slice a n c) n xs) : n ≤ c ∧ c ≤ maxLen ∧ (a = none → c = 0) ∧ ∀ x, a = some x → B ≤ x.block ∧ x.block < w.heap.size ∧ x = ⟨x.block, 0, none⟩ := by
  rcases h.2 with ⟨h1, h2⟩ | ⟨g, cap, cur, h1, h2, h3, h4, h5, _⟩
  · injection h1 with e1 e2 e3
    exact ⟨by omega, by unfold maxLen; omega, fun _ => e3, (fun x hx => by rw [e1] at hx; cases hx)⟩
  · injection h1 with e1 e2 e3
    subst e3
    refine ⟨h4, h5, (fun e => by rw [e] at e1; cases e1), fun x hx => ?_⟩
    rw [hx] at e1
    injection e1 with e1
    subst e1
    exact ⟨h2, (Array.getElem?_eq_some_iff.1 h3).1, rfl⟩
/-- a table's two cells -/
theorem tab_at {w : World} {a : Option Addr} {T : List TabE} (h : Row w a (T.flatMap tcL)) {i : Nat} (hi : i < T.length) : ∃ g o, a = some ⟨g, o, none⟩ ∧ w.cell? ⟨g, o + i * 2, none⟩ = some (.int .i64 T[i].sh.1) ∧ w.cell? ⟨g, o + i * 2 + 1, none⟩ = some (.slice T[i].a T[i].L.length T[i].c) := by
  obtain ⟨g, o, ha, hX⟩ := row_at tcL_length h hi (by omega)
  exact ⟨g, o, ha, hX 0 _ rfl, hX 1 _ rfl⟩
/-- where a shelf's table stands first, or -1 -/
def AtR (T : List TabE) (s : Int) (r : Int) : Prop := (∃ i : Nat, ∃ h : i < T.length, r = i ∧ T[i].sh.1 = s) ∨ (r = -1 ∧ ∀ e ∈ T, e.sh.1 ≠ s)
def RetRAt (w : World) (T : List TabE) (s : Int) (e : Ending) (w' : World) : Prop := ∃ r, AtR T s r ∧ e = .returned (.int .i64 r) ∧ w' = w
set_option maxHeartbeats 2000000 in
set_option maxRecDepth 100000 in
theorem rcat_any (w : World) (b room : Nat) (G : List Nat) (T : List TabE) (F : List Nat) (h : RCch w b G room T F) (hlen : T.length ≤ 2^20) (s : Int) (hs : -9223372036854775808 ≤ s ∧ s ≤ 9223372036854775807) :
    Calls Tryz.prog 65 #[.pointer (some ⟨b, 0, none⟩), .int .i64 s] w (RetRAt w T s) := by
  obtain ⟨a, c, -, hB, hO, -⟩ := h
  have hc := (owns_shape hO).1
  have HB := Lib.hid hB
  have hR := Row.owned hO
  have HR := Lib.hid hR
  clear hO
  have c0 := hB.cell (i := 0) rfl
  clear hB hR
  go_enter Tryz.func65, Tryz.ntmps65
  go_wp2
  go_loopg [5] T.length (fun m i wr => wr = w ∧ ∃ j : Nat, j ≤ T.length ∧ i = .int .i64 j ∧ Hid (m = T.length - j ∧ ∀ q (h : q < T.length), q < j → T[q].sh.1 ≠ s))
  case atStart => exact ⟨rfl, 0, Nat.zero_le _, rfl, rfl, fun q h h2 => by omega⟩
  case round =>
    obtain ⟨rfl, j, hj, rfl, hr⟩ := hrel
    have hgn := hr.out.1
    have Hne := Lib.hid hr.out.2
    clear hr
    by_cases hjl : j < T.length
    · have hlt2 : (j : Int) < (T.length : Int) := by omega
      obtain ⟨g, o, rfl, e0, e1⟩ := tab_at HR.out hjl
      clear e1
      have hsh := T[j].sh.2
      obtain ⟨t, ht⟩ : ∃ t, T[j].sh.1 = t := ⟨_, rfl⟩
      have Ht := Lib.hid ht
      rw [ht] at e0 hsh
      clear ht
      by_cases he : t = s
      · subst he
        have hee : (t == t) = true := beq_self_eq_true _
        go_wp2
        go_ret
        exact ⟨j, .inl ⟨j, hjl, rfl, Ht.out⟩, rfl, rfl⟩
      · have hee : (t == s) = false := by rw [beq_eq_false_iff_ne]; exact he
        have He : Hid (t ≠ s) := he
        clear he
        go_wp2
        go_roundg (T.length - (j + 1))
        case measure => omega
        case rel =>
          refine ⟨rfl, j + 1, by omega, by go_num, rfl, fun q h h2 => ?_⟩
          by_cases e : q = j
          · subst e; rw [Ht.out]; exact He.out
          · exact Hne.out q h (by omega)
    · have hge : ¬ (j : Int) < (T.length : Int) := by omega
      go_wp2
      go_ret
      refine ⟨-1, .inr ⟨rfl, fun e he => ?_⟩, rfl, rfl⟩
      obtain ⟨q, hq, rfl⟩ := List.getElem_of_mem he
      exact Hne.out q hq (by omega)
end Go.Proofs.YtnfbchhbcinloaaGreat

/- The walks over the reference's cut and Drop. -/
namespace Go.Proofs.YtnfbchhbcinloaaGreat
open Go.RowKit Go.XR Go.IndexPure Go.CachePure Go.FindPure
def RetCut (w : World) (b room : Nat) (G : List Nat) (T : List TabE) (i : Nat) (F : List Nat) (e : Ending) (w' : World) : Prop :=
  e = .returned (.tuple #[]) ∧ ∃ G', RCch w' b G' room (T.take i ++ T.drop (i + 1)) F ∧ But G w w' ∧ Grew w G G'
set_option maxHeartbeats 2000000 in
set_option maxRecDepth 100000 in
theorem rcut_any (w : World) (b room : Nat) (G : List Nat) (T : List TabE) (F : List Nat) (h : RCch w b G room T F) (hF : ∀ i ∈ F, i < w.heap.size) (hlen : T.length ≤ 2^20) (i : Nat) (hi : i < T.length) (z : Int) (hz : z = (i : Int)) :
    Calls Tryz.prog 66 #[.pointer (some ⟨b, 0, none⟩), .int .i64 z] w (RetCut w b room G T i F) := by
  subst hz
  obtain ⟨a, c, rfl, hB, hO, hGF, hab, htab⟩ := h
  have hR := Row.owned hO
  obtain ⟨hc, hcm, hnil, hx⟩ := owns_shape hO
  have HGF := Lib.hid hGF
  clear hO hGF hab
  have HB := Lib.hid hB
  have HR := Lib.hid hR
  have Htab := Lib.hid htab
  have Hx := Lib.hid hx
  have hbl := hB.lt
  have hic : (i : Int) ≤ (c : Int) := by omega
  have c0 := HB.out.cell (i := 0) rfl
  have hti : (T.take i).length = i := by rw [List.length_take]; omega
  have Hti := Lib.hid hti
  have HRt : Hid (Row w a ((T.take i).flatMap tcL)) := by
    have h1 := HR.out.take (i * 2)
    rwa [flat_take tcL_length T (by omega)] at h1
  clear hti hB hR hx htab
  go_enter Tryz.func66, Tryz.ntmps66
  go_wp2_with (at_builtin; refine Go.XR.stop (fun X hX => ?_))
  refine hX.out ?_
  clear hX X
  obtain ⟨T1, hT1⟩ : ∃ T1, T.take i = T1 := ⟨_, rfl⟩
  have HT1 := Lib.hid hT1
  rw [hT1] at HRt Hti
  clear hT1
  obtain ⟨nb, hnb⟩ : ∃ nb, w.heap.size = nb := ⟨_, rfl⟩
  have Hnb := Lib.hid hnb
  obtain ⟨w2, hw2⟩ : ∃ w2, w.alloc (.cells #[] 120) = w2 := ⟨_, rfl⟩
  have hb2 : Below nb w w2 := by rw [← hw2, ← hnb]; exact (Below.refl _ _).alloc (Nat.le_refl _) _
  have ho2 : w2.ownsRow nb 120 2 (.slice (some ⟨nb, 0, none⟩) ([] : List TabE).length 0) ([] : List TabE).length (([] : List TabE).flatMap tcL) := by
    rw [← hw2, ← hnb]
    exact ⟨rfl, .inr ⟨w.heap.size, 0, #[], rfl, Nat.le_refl _, (MapKept.heap_alloc w _).1, Nat.le_refl _, by unfold maxLen; omega, rfl, rfl⟩⟩
  have hs2 : nb ≤ w2.heap.size := by rw [← hw2, ← hnb]; simp
  rw [hw2, hnb]
  have Ho2 := Lib.hid ho2
  have HR2 := Lib.hid (HRt.out.below (by rw [hnb]; exact hb2))
  have Hb2 := Lib.hid hb2
  clear hw2 ho2 hb2 HRt hnb c0
  refine wpList_plain rfl (fun K hK => ?_)
  refine append_enc (P := Tryz.prog) tcL 2 32 tcL_length one_tcL 120 Tryz.underlying82 (by kernel_rfl) (by decide) nb (some ⟨nb, 0, none⟩) 0 [] rfl Ho2.out a c T1 (by rw [Hti.out]; rfl) HR2.out (fun e => by
    have h1 := hnil e
    have := Hti.out
    omega) (by have := Hti.out; simp; omega) (by have := Hti.out; unfold maxLen; simp; omega) hs2 ?_
  intro a3 c3 w3 ho3 hb3 _ _
  rw [List.nil_append] at ho3 ⊢
  have Ho3 := Lib.hid ho3
  have Hb3 := Lib.hid (Hb2.out.trans hb3)
  have hs3n : nb ≤ w3.heap.size := Nat.le_trans hs2 hb3.size
  clear ho3 hb3 Ho2 HR2 Hb2 hs2
  have HB3 := Lib.hid (HB.out.below (by rw [Hnb.out]; exact Hb3.out))
  have HR3 := Lib.hid (HR.out.below (by rw [Hnb.out]; exact Hb3.out))
  have Ht1 : Hid (T1.length ≤ T.length) := by unfold Hid; have := Hti.out; omega
  have c0 := HB3.out.cell (i := 0) rfl
  have f0 := HB3.out.free 0
  obtain ⟨j, hj⟩ : ∃ j, i + 1 = j := ⟨_, rfl⟩
  have hjI : (i : Int) + 1 = (j : Int) := by omega
  have Hj : Hid (j = i + 1) := hj.symm
  have hil : j ≤ T.length := by omega
  clear hj HB HR
  have hjc : (j : Int) ≤ (c : Int) := by omega
  have hjl : (j : Int) ≤ (T.length : Int) := by omega
  have hdl : (T.drop j).length = T.length - j := List.length_drop
  have hb3l : b < w3.heap.size := HB3.out.lt
  by_cases hcj : c = j
  · have hd0 : T.drop j = [] := List.drop_eq_nil_of_le (by omega)
    have Hdr : Hid (Row w3 a ((T.drop j).flatMap tcL)) := .inl (by rw [hd0]; rfl)
    have Hdl : Hid (T.length - j = (T.drop j).length ∧ c - j = 0) := ⟨hdl.symm, by omega⟩
    clear hd0 hdl
    go_wp2_with (at_builtin; refine Go.XR.stop (fun X hX => ?_))
    refine hX.out ?_
    clear hX X
    refine wpList_plain rfl (fun K hK => ?_)
    refine append_encN (P := Tryz.prog) tcL 2 32 tcL_length one_tcL 120 Tryz.underlying82 (by kernel_rfl) (by decide) nb a3 c3 T1 rfl Ho3.out _ _ _ (T.drop j) rfl Hdl.out.1 Hdr.out (fun _ => ⟨(by have := Hdl.out; omega), (by have := Hdl.out; omega)⟩) (by have := Ht1.out; rw [List.length_drop]; omega) (by have := Ht1.out; unfold maxLen; rw [List.length_drop]; omega) hs3n ?_
    intro a5 c5 w5 ho5 hb5
    obtain ⟨hs1, hs2, hs3, hs4'⟩ := owns_shape ho5
    have hT : T1 ++ T.drop j = T.take i ++ T.drop (i + 1) := by rw [← HT1.out, Hj.out]
    rw [hT] at ho5 hs1 ⊢
    have HRow5 := Lib.hid (Row.owned ho5)
    have HB5 := Lib.hid (HB3.out.heap (hb5.block b (by have := Hnb.out; omega)))
    have HbE : Hid (Below w.heap.size w w5) := by unfold Hid; have := Hb3.out.trans hb5; rwa [← Hnb.out] at this
    have HX5 : Hid (∀ i ∈ oB a5, nb ≤ i) := fun i hi => (owns_in ho5 i hi).1
    have HO5 := Lib.hid ho5
    have f5 := HB5.out.free 0
    have c5' := HB5.out.cell (i := 0) rfl
    have hbl5 : b < w5.heap.size := HB5.out.lt
    clear ho5 hb5 hT hs4' hs3 hs2 HRow5 c0 f0
    obtain ⟨R', hR'⟩ : ∃ R', T.take i ++ T.drop (i + 1) = R' := ⟨_, rfl⟩
    have HR' := Lib.hid hR'
    rw [hR'] at HO5 hs1 ⊢
    clear hR'
    go_wp2
    go_end0
    have hb6 : But [b] w5 (w5.setCell ⟨b, 0, none⟩ (.slice a5 R'.length c5)) := (But.refl [b] w5).setCell (.inl (by simp)) _
    have hg : Grew w (b :: oB a) (b :: oB a5) := fun i hi => by
      rcases List.mem_cons.1 hi with h | h
      · exact .inl (by rw [h]; simp)
      · right; have := HX5.out i h; rw [Hnb.out]; exact this
    refine ⟨rfl, b :: oB a5, ?_, (But.of_below HbE.out).trans (hb6.mono fun i hi _ => by rw [List.mem_singleton] at hi; rw [hi]; simp), hg⟩
    rw [HR'.out]
    refine ⟨a5, c5, rfl, HB5.out.set 0 _, owns_base (ownsRow_setCell HO5.out (show b < nb by have := Hnb.out; omega) _) (Nat.zero_le _), fun i hi => ?_, fun x hx h => ?_, fun e he => ?_⟩
    · rcases hg i hi with h | h
      · exact HGF.out i h
      · exact fun h2 => by have := hF i h2; omega
    · have := HX5.out x.block (mem_oB.2 ⟨x, hx, rfl⟩)
      have := Hnb.out
      omega
    · have hm : e ∈ T := by
        rw [← HR'.out, List.mem_append] at he
        rcases he with h | h
        · exact List.mem_of_mem_take h
        · exact List.mem_of_mem_drop h
      have h1 := (((Htab.out e hm).to (G' := b :: oB a5) (F' := F) fun i h1 h2 h3 => ⟨fun h4 => by
        rcases hg i h4 with h5 | h5
        · exact h2 h5
        · omega, h3⟩).below HbE.out)
      exact h1.but hb6 fun q hq => .inl (by rw [List.mem_singleton] at hq; rw [hq]; simp)
  · obtain ⟨g, hag⟩ : ∃ g, a = some ⟨g, 0, none⟩ := by
      cases ha : a with
      | none => have := hnil ha; omega
      | some x => exact ⟨x.block, by rw [← (Hx.out x ha).2.2]⟩
    have Hdr : Hid (Row w3 (some ⟨g, j * 2, none⟩) ((T.drop j).flatMap tcL)) := by
      rcases HR3.out with h1 | ⟨g', o', he, h1⟩
      · have := flat_len tcL_length T
        rw [h1] at this
        have h2 : T = [] := List.eq_nil_of_length_eq_zero (by rw [List.length_nil] at this; omega)
        rw [h2]; exact .inl (by simp)
      · rw [hag] at he
        injection he with he
        injection he with e1 e2
        subst e1 e2
        refine .inr ⟨g, j * 2, rfl, fun q u hq => ?_⟩
        have h3 := flat_drop tcL_length T hil
        rw [← h3, List.getElem?_drop] at hq
        have := h1 _ u hq
        rwa [Nat.zero_add] at this
    subst hag
    go_wp2_with (at_builtin; refine Go.XR.stop (fun X hX => ?_))
    refine hX.out ?_
    clear hX X
    refine wpList_plain rfl (fun K hK => ?_)
    refine append_encN (P := Tryz.prog) tcL 2 32 tcL_length one_tcL 120 Tryz.underlying82 (by kernel_rfl) (by decide) nb a3 c3 T1 rfl Ho3.out _ _ _ (T.drop j) rfl hdl.symm Hdr.out (fun e => by cases e) (by have := Ht1.out; rw [List.length_drop]; omega) (by have := Ht1.out; unfold maxLen; rw [List.length_drop]; omega) hs3n ?_
    intro a5 c5 w5 ho5 hb5
    obtain ⟨hs1, hs2, hs3, hs4'⟩ := owns_shape ho5
    have hT : T1 ++ T.drop j = T.take i ++ T.drop (i + 1) := by rw [← HT1.out, Hj.out]
    rw [hT] at ho5 hs1 ⊢
    have HRow5 := Lib.hid (Row.owned ho5)
    have HB5 := Lib.hid (HB3.out.heap (hb5.block b (by have := Hnb.out; omega)))
    have HbE : Hid (Below w.heap.size w w5) := by unfold Hid; have := Hb3.out.trans hb5; rwa [← Hnb.out] at this
    have HX5 : Hid (∀ i ∈ oB a5, nb ≤ i) := fun i hi => (owns_in ho5 i hi).1
    have HO5 := Lib.hid ho5
    have f5 := HB5.out.free 0
    have c5' := HB5.out.cell (i := 0) rfl
    have hbl5 : b < w5.heap.size := HB5.out.lt
    clear ho5 hb5 hT hs4' hs3 hs2 HRow5 c0 f0
    obtain ⟨R', hR'⟩ : ∃ R', T.take i ++ T.drop (i + 1) = R' := ⟨_, rfl⟩
    have HR' := Lib.hid hR'
    rw [hR'] at HO5 hs1 ⊢
    clear hR'
    go_wp2
    go_end0
    have hb6 : But [b] w5 (w5.setCell ⟨b, 0, none⟩ (.slice a5 R'.length c5)) := (But.refl [b] w5).setCell (.inl (by simp)) _
    have hg : Grew w (b :: oB (some (⟨g, 0, none⟩ : Addr))) (b :: oB a5) := fun i hi => by
      rcases List.mem_cons.1 hi with h | h
      · exact .inl (by rw [h]; simp)
      · right; have := HX5.out i h; rw [Hnb.out]; exact this
    refine ⟨rfl, b :: oB a5, ?_, (But.of_below HbE.out).trans (hb6.mono fun i hi _ => by rw [List.mem_singleton] at hi; rw [hi]; simp), hg⟩
    rw [HR'.out]
    refine ⟨a5, c5, rfl, HB5.out.set 0 _, owns_base (ownsRow_setCell HO5.out (show b < nb by have := Hnb.out; omega) _) (Nat.zero_le _), fun i hi => ?_, fun x hx h => ?_, fun e he => ?_⟩
    · rcases hg i hi with h | h
      · exact HGF.out i h
      · exact fun h2 => by have := hF i h2; omega
    · have := HX5.out x.block (mem_oB.2 ⟨x, hx, rfl⟩)
      have := Hnb.out
      omega
    · have hm : e ∈ T := by
        rw [← HR'.out, List.mem_append] at he
        rcases he with h | h
        · exact List.mem_of_mem_take h
        · exact List.mem_of_mem_drop h
      have h1 := (((Htab.out e hm).to (G' := b :: oB a5) (F' := F) fun i h1 h2 h3 => ⟨fun h4 => by
        rcases hg i h4 with h5 | h5
        · exact h2 h5
        · omega, h3⟩).below HbE.out)
      exact h1.but hb6 fun q hq => .inl (by rw [List.mem_singleton] at hq; rw [hq]; simp)
end Go.Proofs.YtnfbchhbcinloaaGreat

/- The walks over the reference's Drop and Load. -/
namespace Go.Proofs.YtnfbchhbcinloaaGreat
open Go.RowKit Go.XR Go.IndexPure Go.CachePure Go.FindPure
/-- the tables without a shelf's -/
def delE (T : List TabE) (s : Int) : List TabE := T.filter fun e => decide (e.sh.1 ≠ s)
theorem cutE {T : List TabE} (hnd : (T.map (·.sh)).Nodup) {i : Nat} (hi : i < T.length) {s : Int} (h : T[i].sh.1 = s) : T.take i ++ T.drop (i + 1) = delE T s := by
  have e : T = T.take i ++ T[i] :: T.drop (i + 1) := by rw [List.getElem_cons_drop, List.take_append_drop]
  generalize T.take i = A at *
  generalize T.drop (i + 1) = B at *
  generalize T[i] = x at *
  subst e
  rw [List.map_append, List.map_cons] at hnd
  have h1 := List.nodup_append.1 hnd
  have h2 := List.nodup_cons.1 h1.2.1
  have hA : ∀ y ∈ A, y.sh.1 ≠ s := fun y hy e => h1.2.2 y.sh (List.mem_map.2 ⟨y, hy, rfl⟩) x.sh (by simp) (Subtype.ext (e.trans h.symm))
  have hB : ∀ y ∈ B, y.sh.1 ≠ s := fun y hy e => h2.1 (by rw [← Subtype.ext (e.trans h.symm)]; exact List.mem_map.2 ⟨y, hy, rfl⟩)
  unfold delE
  rw [List.filter_append, List.filter_cons_of_neg (by simpa using h), List.filter_eq_self.2 (fun y hy => by simpa using hA y hy), List.filter_eq_self.2 (fun y hy => by simpa using hB y hy)]
theorem delE_none {T : List TabE} {s : Int} (h : ∀ e ∈ T, e.sh.1 ≠ s) : delE T s = T := List.filter_eq_self.2 fun y hy => by simpa using h y hy
def RetRDel (w : World) (b room : Nat) (G : List Nat) (T : List TabE) (s : Int) (F : List Nat) (e : Ending) (w' : World) : Prop :=
  (∃ is, e = .returned (.bool is)) ∧ ∃ G', RCch w' b G' room (delE T s) F ∧ But G w w' ∧ Grew w G G'
set_option maxHeartbeats 2000000 in
set_option maxRecDepth 100000 in
theorem rcdrop_any (w : World) (b room : Nat) (G : List Nat) (T : List TabE) (F : List Nat) (h : RCch w b G room T F) (hF : ∀ i ∈ F, i < w.heap.size) (hlen : T.length ≤ 2^20) (hnd : (T.map (·.sh)).Nodup) (s : Int) (hs : -9223372036854775808 ≤ s ∧ s ≤ 9223372036854775807) :
    Calls Tryz.prog 38 #[.pointer (some ⟨b, 0, none⟩), .int .i64 s] w (RetRDel w b room G T s F) := by
  have H := Lib.hid h
  have HF := Lib.hid hF
  have Hnd := Lib.hid hnd
  clear h hF hnd
  go_enter Tryz.func38, Tryz.ntmps38
  go_wp2_with fail
  refine (rcat_any w b room G T F H.out hlen s hs).mono ?_
  rintro e w1 ⟨r, hr, rfl, rfl⟩
  rcases hr with ⟨i, hi, rfl, he⟩ | ⟨rfl, hn⟩
  · have Hcut := Lib.hid (cutE Hnd.out hi he)
    have hge : ¬ (i : Int) < 0 := by omega
    clear he
    go_wp2_with fail
    refine (rcut_any w1 b room G T F H.out HF.out hlen i hi i rfl).mono ?_
    rintro e w2 ⟨rfl, G2, hC2, hb2, hg2⟩
    rw [Hcut.out] at hC2
    have Hg2 := Lib.hid hg2
    have HC2 := Lib.hid hC2
    have Hb2 := Lib.hid hb2
    clear hC2 hb2 hg2
    go_wp2
    go_ret
    exact ⟨⟨true, rfl⟩, G2, HC2.out, Hb2.out, Hg2.out⟩
  · have Hn := Lib.hid (delE_none hn)
    clear hn
    go_wp2
    go_ret
    exact ⟨⟨false, rfl⟩, G, by rw [Hn.out]; exact H.out, But.refl _ _, Grew.refl _ _⟩
theorem But.of_own {w w' : World} {a : Option Addr} {n c : Nat} (h : w.grownBy w' (Value.ownBlock (.slice a n c))) : But (oB a) w w' := by
  cases a with
  | none => exact But.of_grown_none h
  | some x => exact But.of_grown h
def evE (room : Nat) (T : List TabE) (draw : Nat) : List TabE := if T.length = room then T.take (draw % T.length) ++ T.drop (draw % T.length + 1) else T
def LoadE (room : Nat) (T : List TabE) (s : Int) (L : List RowT) (draw : Nat) (T' : List TabE) : Prop :=
  ((room = 0 ∨ s ∈ T.map (·.sh.1)) ∧ T' = T) ∨ ((¬ (room = 0 ∨ s ∈ T.map (·.sh.1))) ∧ ∃ e : TabE, e.sh.1 = s ∧ e.L = L ∧ T' = evE room T draw ++ [e])
def RetRLoad (w : World) (b room : Nat) (G : List Nat) (T : List TabE) (s : Int) (L : List RowT) (draw : Nat) (F : List Nat) (e : Ending) (w' : World) : Prop :=
  e = .returned (.tuple #[]) ∧ ∃ T' G', RCch w' b G' room T' F ∧ But G w w' ∧ Grew w G G' ∧ LoadE room T s L draw T'
set_option maxHeartbeats 2000000 in
set_option maxRecDepth 100000 in
theorem rload_any (w : World) (b room : Nat) (G : List Nat) (T : List TabE) (F : List Nat) (h : RCch w b G room T F) (hF : ∀ i ∈ F, i < w.heap.size) (hroom : room ≤ 4096) (hlen : T.length ≤ room) (s : I64) (a : Option Addr) (c : Nat) (L : List RowT) (hR : Row w a (L.flatMap rowL)) (hLc : L.length ≤ c) (hLn : a = none → c = 0) (hL : L.length ≤ 2^20) (hrg : ∀ g o, a = some ⟨g, o, none⟩ → g ∉ G) (draw : Nat) (hd : draw < 18446744073709551616) :
    Calls Tryz.prog 48 #[.pointer (some ⟨b, 0, none⟩), .int .i64 s.1, .slice a L.length c, .int .u64 draw] w (RetRLoad w b room G T s.1 L draw F) := by
  have H := Lib.hid h
  have HF := Lib.hid hF
  have HR := Lib.hid hR
  have HLn := Lib.hid hLn
  have Hrg := Lib.hid hrg
  have hss := s.2
  obtain ⟨s, hs0⟩ := s
  dsimp only at hss ⊢
  obtain ⟨a0, c0, -, hB0, -, -⟩ := h
  have cr := hB0.cell (i := 1) rfl
  have cs := hB0.cell (i := 0) rfl
  have hbl := hB0.lt
  clear hB0 hF hR hLn hrg
  by_cases h0 : room = 0
  · subst h0
    go_enter Tryz.func48, Tryz.ntmps48
    go_wp2
    (try simp only [Exit.inBlock, Exit.then])
    refine bodyPost_ret (results_none rfl _ _ _) rfl ?_
    exact ⟨rfl, T, G, H.out, But.refl _ _, Grew.refl _ _, .inl ⟨.inl rfl, rfl⟩⟩
  have hr0 : ((room : Int) == 0) = false := by rw [beq_eq_false_iff_ne]; omega
  have hr1 : ¬ (room : Int) = 0 := by omega
  go_enter Tryz.func48, Tryz.ntmps48
  go_wp2_with fail
  refine (rcat_any w b room G T F H.out (by omega) s hss).mono ?_
  rintro e w1 ⟨r, hr, rfl, rfl⟩
  rcases hr with ⟨i, hi, rfl, he⟩ | ⟨rfl, hn⟩
  · have He := Lib.hid he
    have hge : (0 : Int) ≤ (i : Int) := by omega
    clear he
    go_wp2
    (try simp only [Exit.inBlock, Exit.then])
    refine bodyPost_ret (results_none rfl _ _ _) rfl ?_
    exact ⟨rfl, T, G, H.out, But.refl _ _, Grew.refl _ _, .inl ⟨.inr (List.mem_map.2 ⟨T[i], List.getElem_mem hi, He.out⟩), rfl⟩⟩
  · have Hnot : Hid (¬ (room = 0 ∨ s ∈ T.map (·.sh.1))) := fun h => by
      rcases h with h | h
      · exact h0 h
      · obtain ⟨x, hx, rfl⟩ := List.mem_map.1 h
        exact hn x hx rfl
    clear hn
    go_wp2
    by_cases hfull : T.length = room
    · have hlp : ¬ ((T.length : Int) = 0) := by omega
      have hfi : ((T.length : Int) == (room : Int)) = true := by rw [hfull]; exact beq_self_eq_true _
      have Hev : Hid (evE room T draw = T.take (draw % T.length) ++ T.drop (draw % T.length + 1)) := if_pos hfull
      refine Go.XR.region_sched ((· = w1.drew)) [(0, true), (1, true), (2, true), (3, true), (4, true), (5, true), (6, true), (7, true), (8, true), (9, false)] [9] Tryz.mixed (by kernel_rfl) (by kernel_rfl) (by kernel_rfl) ?_
      simp only [List.map_cons, List.map_nil, List.getElem?_cons_succ, List.getElem?_cons_zero]
      repeat (first | (refine Go.XR.S_light rfl rfl rfl ?_ (fun w' hS K hK => ?_) (fun K hK => ?_); rotate_left 1; (cases hS; go_step; exact hK); go_step; refine hK _ ?_; clear hK K))
      repeat (first | (refine Go.XR.S_heavy (fun K hK => ?_); go_step; refine hK _ _ ⟨fun h => by simp at h, ?_⟩; clear hK K))
      refine Go.XR.S_nil ?_
      have hl20 : T.length ≤ 2^20 := by omega
      have hil : draw % T.length < T.length := Nat.mod_lt _ (by omega)
      have hzz : wrap64 ((draw : Int) % (room : Int)) = ((draw % T.length : Nat) : Int) := by
        rw [hfull] at hil ⊢
        rw [show ((draw : Int) % (room : Int)) = ((draw % room : Nat) : Int) from by simp]
        clear hd hLc hL hlen
        generalize draw % room = y at hil ⊢
        unfold wrap64; omega
      have Hzz := Lib.hid hzz
      have Hil := Lib.hid hil
      clear hzz hil
      have H2 : Hid (RCch w1.drew b G room T F) := H.out.below (Below.refl _ _).drew
      go_wp2_with fail
      rw [Hzz.out]
      refine (rcut_any w1.drew b room G T F H2.out HF.out hl20 (draw % T.length) Hil.out _ rfl).mono ?_
      rintro e W3 ⟨rfl, G3, hC3, hb3, hg3⟩
      rw [← Hev.out] at hC3
      obtain ⟨T3, hT3⟩ : ∃ T3, evE room T draw = T3 := ⟨_, rfl⟩
      have HTe := Lib.hid hT3
      rw [hT3] at hC3
      have HC3 := Lib.hid hC3
      have Hb3 : Hid (But G w1 W3) := (But.refl G w1).drew.trans hb3
      have Hg3 : Hid (Grew w1 G G3) := hg3
      have HR3 : Hid (Row W3 a (L.flatMap rowL)) := (HR.out.below (Below.refl _ _).drew).but hb3 (fun g o h1 h2 => Hrg.out g o h1 h2)
      have hl3 : T3.length ≤ 4096 := by
        rw [← hT3, Hev.out, List.length_append, List.length_take, List.length_drop]; omega
      clear hT3 cr cs hC3 hb3 hg3 hfi hlp
      go_wp2
      obtain ⟨a3, c3, hG3, hB3, hO3, hGF3, hab3, htab3⟩ := HC3.out
      have hlt3 := HC3.out.lt
      have HB3 := Lib.hid hB3
      have HO3 := Lib.hid hO3
      have HGF3 := Lib.hid hGF3
      have HG3 := Lib.hid hG3
      have Hab3 := Lib.hid hab3
      have Htab3 := Lib.hid htab3
      have Hlt3 := Lib.hid hlt3
      have c0 := hB3.cell (i := 0) rfl
      have hnb3 : b < W3.heap.size := hB3.lt
      have hS0 : Below W3.heap.size W3 W3.drew := (Below.refl _ _).drew
      clear hB3 hO3 hGF3 hG3 hab3 htab3 hlt3
      go_wp2
      have cd : W3.drew.cell? ⟨b, 0, none⟩ = some (.slice a3 T3.length c3) := c0
      refine Go.XR.region_sched ((fun x => x.cell? ⟨b, 0, none⟩ = some (.slice a3 T3.length c3))) [(0, true), (1, true), (2, true), (3, true), (4, true), (5, true), (7, true), (6, false), (8, false), (9, true), (10, false), (11, false), (12, false), (13, false), (14, false)] [12, 13, 14] Tryz.mixed (by kernel_rfl) (by kernel_rfl) (by kernel_rfl) ?_
      simp only [List.map_cons, List.map_nil, List.getElem?_cons_succ, List.getElem?_cons_zero]
      repeat (first | (refine Go.XR.S_light rfl rfl (by assumption) ?_ (fun w' hS K hK => ?_) (fun K hK => ?_); rotate_left 1; (have hS1 : w'.cell? ⟨b, 0, none⟩ = some (.slice a3 T3.length c3) := hS; go_step; exact hK); go_step; refine hK _ ?_; clear hK K))
      refine Go.XR.S_heavy (fun K hK => ?_)
      go_step
      obtain ⟨W4, hW4⟩ : ∃ W4, (W3.alloc (.cells #[] 42)).drew = W4 := ⟨_, rfl⟩
      obtain ⟨nb, hnb⟩ : ∃ nb, W3.heap.size = nb := ⟨_, rfl⟩
      have Hnb := Lib.hid hnb
      have hS4 : Below W3.heap.size W3 W4 := by rw [← hW4]; exact ((Below.refl _ _).alloc (Nat.le_refl _) _).drew
      have ho4 : W4.ownsRow nb 42 35 (.slice (some ⟨nb, 0, none⟩) ([] : List RowT).length 0) ([] : List RowT).length (([] : List RowT).flatMap rowL) := by
        rw [← hW4, ← hnb]
        exact World.ownsRow_lit W3 #[] 0 (Nat.le_refl _) (by decide) rfl
      rw [hW4, hnb]
      have cd4 := (HB3.out.below hS4).cell (i := 0) rfl
      refine hK _ _ ⟨fun _ => cd4, ?_⟩
      clear hK K
      repeat (first | (refine Go.XR.S_light rfl rfl (by assumption) ?_ (fun w' hS K hK => ?_) (fun K hK => ?_); rotate_left 1; (have hS1 : w'.cell? ⟨b, 0, none⟩ = some (.slice a3 T3.length c3) := hS; go_step; exact hK); go_step; refine hK _ ?_; clear hK K))
      refine Go.XR.S_heavy (fun K hK => ?_)
      refine append_enc (P := Tryz.prog) rowL 35 56 rowL_length one_rowL 42 Tryz.underlying60 (by kernel_rfl) (by decide) nb (some ⟨nb, 0, none⟩) 0 [] rfl ho4 a c L rfl (HR3.out.below hS4) (fun e => by have := HLn.out e; omega) (by simp; omega) (by unfold maxLen; simp; omega) (by rw [← hnb]; exact hS4.size) ?_
      intro a5 c5 w5 ho5 hb5 _ _
      rw [List.nil_append] at ho5 ⊢
      have hS5 : Below W3.heap.size W3 w5 := hS4.trans (by rw [hnb]; exact hb5)
      have Ho5 := Lib.hid ho5
      go_step
      have cd5 := (HB3.out.below hS5).cell (i := 0) rfl
      refine hK _ _ ⟨fun _ => cd5, ?_⟩
      clear hK K
      repeat (first | (refine Go.XR.S_light rfl rfl (by assumption) ?_ (fun w' hS K hK => ?_) (fun K hK => ?_); rotate_left 1; (have hS1 : w'.cell? ⟨b, 0, none⟩ = some (.slice a3 T3.length c3) := hS; go_step; exact hK); go_step; refine hK _ ?_; clear hK K))
      clear cd4
      clear ho4 hW4 hS4 hS0
      obtain ⟨W6, hW6⟩ : ∃ W6, w5.alloc (.cells #[.int .i64 s, .slice a5 L.length c5] 120) = W6 := ⟨_, rfl⟩
      have hS6 : Below W3.heap.size W3 W6 := by rw [← hW6]; exact hS5.alloc hS5.size _
      have h56 : Below w5.heap.size w5 W6 := by rw [← hW6]; exact (Below.refl _ _).alloc (Nat.le_refl _) _
      obtain ⟨tb, htb⟩ : ∃ tb, w5.heap.size = tb := ⟨_, rfl⟩
      obtain ⟨e, he⟩ : ∃ e : TabE, e = ⟨⟨s, hs0⟩, a5, c5, L⟩ := ⟨_, rfl⟩
      have hRn : Row W6 (some ⟨tb, 0, none⟩) ([e].flatMap tcL) := by
        rw [← hW6, ← htb, he]; exact Row.new _ _ _
      refine Go.XR.S_heavy (fun K hK => ?_)
      go_step
      (try rw [hW6])
      (try rw [htb])
      have cd6 := (HB3.out.below hS6).cell (i := 0) rfl
      refine hK _ _ ⟨fun _ => cd6, ?_⟩
      clear hK K
      repeat (first | (refine Go.XR.S_light rfl rfl (by assumption) ?_ (fun w' hS K hK => ?_) (fun K hK => ?_); rotate_left 1; (have hS1 : w'.cell? ⟨b, 0, none⟩ = some (.slice a3 T3.length c3) := hS; go_step; exact hK); go_step; refine hK _ ?_; clear hK K))
      clear cd5
      refine Go.XR.S_heavy (fun K hK => ?_)
      refine append_enc2 (P := Tryz.prog) tcL 2 32 tcL_length one_tcL 120 Tryz.underlying82 (by kernel_rfl) (by decide) 0 a3 c3 T3 rfl (owns_below HO3.out hS6) tb 0 1 [e] rfl hRn (by simp; omega) (by unfold maxLen; simp; omega) (Nat.zero_le _) ?_
      intro a7 c7 w7 ho7 hg7 hn7
      have Hown7 := Lib.hid ho7
      have Hb67 := Lib.hid (But.of_own hg7)
      have Hn7 := Lib.hid hn7
      have HB7 : Hid (Blk w7 b [.slice a3 T3.length c3, .int .i64 room]) := (HB3.out.below hS6).but Hb67.out fun h => by
        obtain ⟨x, h1, h2⟩ := mem_oB.1 h
        exact Hab3.out x h1 h2.symm
      have HS6 := Lib.hid hS6
      have HS5 := Lib.hid hS5
      have H56 := Lib.hid h56
      have He := Lib.hid he
      go_step
      have cd7 := HB7.out.cell (i := 0) rfl
      refine hK _ _ ⟨fun _ => cd7, ?_⟩
      clear hK K
      repeat (first | (refine Go.XR.S_light rfl rfl (by assumption) ?_ (fun w' hS K hK => ?_) (fun K hK => ?_); rotate_left 1; (have hS1 : w'.cell? ⟨b, 0, none⟩ = some (.slice a3 T3.length c3) := hS; go_step; exact hK); go_step; refine hK _ ?_; clear hK K))
      clear cd6
      clear ho7 hg7 hn7 hRn hS6 hS5 h56 he hb5 ho5
      have f7 := HB7.out.free 0
      repeat (first | (refine Go.XR.S_heavy (fun K hK => ?_); go_step; refine hK _ _ ⟨fun h => by simp at h, ?_⟩; clear hK K))
      refine Go.XR.S_nil ?_
      go_end0
      rw [show T3.length + 1 = (T3 ++ [e]).length by simp]
      have hsz : w1.heap.size ≤ W3.heap.size := Hb3.out.size
      have hs36 := HS6.out.size
      have hs35 := HS5.out.size
      have hbG : b ∈ G3 := by rw [HG3.out]; simp
      have haG : ∀ i ∈ oB a3, i ∈ G3 := fun i hi => by rw [HG3.out]; simp [hi]
      have h67 : ∀ i ∈ oB a7, i ∈ oB a3 ∨ W6.heap.size ≤ i := fun i hi => by
        rcases Hn7.out with h | ⟨g, h, h1, _⟩
        · left; rwa [h] at hi
        · right
          obtain ⟨x, h2, rfl⟩ := mem_oB.1 hi
          rw [h] at h2; injection h2 with h2; rw [← h2]; exact h1
      have hg37 : ∀ i ∈ b :: oB a7, i ∈ G3 ∨ W6.heap.size ≤ i := fun i hi => by
        rcases List.mem_cons.1 hi with h | h
        · left; rw [h]; exact hbG
        · exact (h67 i h).imp (haG i) id
      have hb8 : But [b] w7 (w7.setCell ⟨b, 0, none⟩ (.slice a7 (T3 ++ [e]).length c7)) := (But.refl [b] w7).setCell (.inl (by simp)) _
      have hb38 : But G3 W3 (w7.setCell ⟨b, 0, none⟩ (.slice a7 (T3 ++ [e]).length c7)) := ((But.of_below HS6.out).trans (Hb67.out.mono fun i hi _ => haG i hi)).trans (hb8.mono fun i hi _ => by rw [List.mem_singleton] at hi; rw [hi]; exact hbG)
      have hbl3 := Hlt3.out b hbG
      have ho5 := owns_in Ho5.out
      refine ⟨rfl, T3 ++ [e], b :: oB a7, ⟨a7, c7, rfl, HB7.out.set 0 _, owns_out Hown7.out hb8 (fun i hi h => ?_), fun i hi => ?_, fun x hx h => ?_, fun e' he' => ?_⟩, Hb3.out.grew hb38 Hg3.out, fun i hi => ?_, .inr ⟨Hnot.out, e, by rw [He.out], by rw [He.out], by rw [HTe.out]⟩⟩
      · rw [List.mem_singleton] at h
        subst h
        rcases h67 i hi with h1 | h1
        · obtain ⟨x, h2, h3⟩ := mem_oB.1 h1
          exact Hab3.out x h2 h3.symm
        · omega
      · rcases hg37 i hi with h1 | h1
        · exact HGF3.out i h1
        · exact fun h2 => by have := HF.out i h2; omega
      · have h0 : b ∈ oB a7 := mem_oB.2 ⟨x, hx, h.symm⟩
        rcases h67 b h0 with h1 | h1
        · obtain ⟨y, h2, h3⟩ := mem_oB.1 h1
          exact Hab3.out y h2 h3.symm
        · omega
      · rcases List.mem_append.1 he' with h | h
        · have h1 := (Htab3.out e' h).to (G' := G3 ++ oB a7) (F' := F) (fun i h1 h2 h3 => ⟨fun h4 => by
            rcases List.mem_append.1 h4 with h5 | h5
            · exact h2 h5
            · rcases h67 i h5 with h6 | h6
              · exact h2 (haG i h6)
              · omega, h3⟩)
          have h2 := ((h1.below HS6.out).but Hb67.out (fun i hi => .inl (List.mem_append_left _ (haG i hi)))).but hb8 (fun i hi => .inl (List.mem_append_left _ (by rw [List.mem_singleton] at hi; rw [hi]; exact hbG)))
          exact h2.to fun i _ h3 h4 => ⟨fun h5 => h3 (by
            rcases List.mem_cons.1 h5 with h6 | h6
            · rw [h6]; exact List.mem_append_left _ hbG
            · exact List.mem_append_right _ h6), h4⟩
        · rw [List.mem_singleton] at h
          have h5n : ∀ i ∈ oB a5, W3.heap.size ≤ i ∧ i < W6.heap.size := fun i hi => ⟨by have := (ho5 i hi).1; rw [Hnb.out]; exact this, Nat.lt_of_lt_of_le (ho5 i hi).2 H56.out.size⟩
          have hrow : Row W6 a5 (L.flatMap rowL) := (Row.owned Ho5.out).below H56.out
          have hq : e'.a = a5 ∧ e'.c = c5 ∧ e'.L = L := by rw [h, He.out]; exact ⟨rfl, rfl, rfl⟩
          have hrow8 := (hrow.but Hb67.out (fun g o h1 h2 => by
            have h3 := (h5n g (mem_oB.2 ⟨_, h1, rfl⟩)).1
            have h4 := Hlt3.out g (haG g h2)
            omega)).but hb8 (fun g o h1 h2 => by
            rw [List.mem_singleton] at h2
            have h3 := (h5n g (mem_oB.2 ⟨_, h1, rfl⟩)).1
            omega)
          refine ⟨by rw [hq.1, hq.2.2]; exact hrow8, by rw [hq.2.1, hq.2.2]; exact (owns_shape Ho5.out).1, by rw [hq.2.2]; exact hL, fun x hx => ?_⟩
          rw [hq.1] at hx
          refine ⟨fun h1 => ?_, fun h1 => ?_, ?_⟩
          · have h3 := h5n x.block (mem_oB.2 ⟨x, hx, rfl⟩)
            rcases hg37 _ h1 with h4 | h4
            · have := Hlt3.out _ h4; omega
            · omega
          · have h3 := (h5n x.block (mem_oB.2 ⟨x, hx, rfl⟩)).1
            have := HF.out _ h1
            omega
          · have h3 := (h5n x.block (mem_oB.2 ⟨x, hx, rfl⟩)).2
            exact Nat.lt_of_lt_of_le h3 (Nat.le_trans Hb67.out.size hb8.size)
      · rcases hg37 i hi with h1 | h1
        · exact Hg3.out i h1
        · right; omega
    · have hfi : ((T.length : Int) == (room : Int)) = false := by rw [beq_eq_false_iff_ne]; omega
      have Hev : Hid (evE room T draw = T) := if_neg hfull
      refine Go.XR.region_sched ((· = w1.drew)) [(0, true), (1, true), (2, true), (3, true), (4, true), (5, true), (6, true), (7, true), (8, true), (9, false)] [9] Tryz.mixed (by kernel_rfl) (by kernel_rfl) (by kernel_rfl) ?_
      simp only [List.map_cons, List.map_nil, List.getElem?_cons_succ, List.getElem?_cons_zero]
      repeat (first | (refine Go.XR.S_light rfl rfl rfl ?_ (fun w' hS K hK => ?_) (fun K hK => ?_); rotate_left 1; (cases hS; go_step; exact hK); go_step; refine hK _ ?_; clear hK K))
      repeat (first | (refine Go.XR.S_heavy (fun K hK => ?_); go_step; refine hK _ _ ⟨fun h => by simp at h, ?_⟩; clear hK K))
      refine Go.XR.S_nil ?_
      obtain ⟨W3, hW3⟩ : ∃ W3, w1.drew = W3 := ⟨_, rfl⟩
      have HC3 : Hid (RCch W3 b G room T F) := by unfold Hid; rw [← hW3]; exact H.out.below (Below.refl _ _).drew
      have Hb3 : Hid (But G w1 W3) := by unfold Hid; rw [← hW3]; exact (But.refl _ _).drew
      have HR3 : Hid (Row W3 a (L.flatMap rowL)) := by unfold Hid; rw [← hW3]; exact HR.out.below (Below.refl _ _).drew
      rw [hW3]
      obtain ⟨T3, hT3⟩ : ∃ T3, evE room T draw = T3 := ⟨_, rfl⟩
      have HTe := Lib.hid hT3
      obtain ⟨G3, hG3⟩ : ∃ G3, G = G3 := ⟨_, rfl⟩
      have Hg3 : Hid (Grew w1 G G3) := by unfold Hid; rw [← hG3]; exact Grew.refl _ _
      rw [hG3] at HC3
      clear hG3
      rw [← Hev.out, hT3] at HC3
      have hl3 : T3.length ≤ 4096 := by rw [← hT3, Hev.out]; omega
      clear hW3 hT3 cr cs
      obtain ⟨a3, c3, hG3, hB3, hO3, hGF3, hab3, htab3⟩ := HC3.out
      have hlt3 := HC3.out.lt
      have HB3 := Lib.hid hB3
      have HO3 := Lib.hid hO3
      have HGF3 := Lib.hid hGF3
      have HG3 := Lib.hid hG3
      have Hab3 := Lib.hid hab3
      have Htab3 := Lib.hid htab3
      have Hlt3 := Lib.hid hlt3
      have c0 := hB3.cell (i := 0) rfl
      have hnb3 : b < W3.heap.size := hB3.lt
      have hS0 : Below W3.heap.size W3 W3.drew := (Below.refl _ _).drew
      clear hB3 hO3 hGF3 hG3 hab3 htab3 hlt3
      go_wp2
      have cd : W3.drew.cell? ⟨b, 0, none⟩ = some (.slice a3 T3.length c3) := c0
      refine Go.XR.region_sched ((fun x => x.cell? ⟨b, 0, none⟩ = some (.slice a3 T3.length c3))) [(0, true), (1, true), (2, true), (3, true), (4, true), (5, true), (7, true), (6, false), (8, false), (9, true), (10, false), (11, false), (12, false), (13, false), (14, false)] [12, 13, 14] Tryz.mixed (by kernel_rfl) (by kernel_rfl) (by kernel_rfl) ?_
      simp only [List.map_cons, List.map_nil, List.getElem?_cons_succ, List.getElem?_cons_zero]
      repeat (first | (refine Go.XR.S_light rfl rfl (by assumption) ?_ (fun w' hS K hK => ?_) (fun K hK => ?_); rotate_left 1; (have hS1 : w'.cell? ⟨b, 0, none⟩ = some (.slice a3 T3.length c3) := hS; go_step; exact hK); go_step; refine hK _ ?_; clear hK K))
      refine Go.XR.S_heavy (fun K hK => ?_)
      go_step
      obtain ⟨W4, hW4⟩ : ∃ W4, (W3.alloc (.cells #[] 42)).drew = W4 := ⟨_, rfl⟩
      obtain ⟨nb, hnb⟩ : ∃ nb, W3.heap.size = nb := ⟨_, rfl⟩
      have Hnb := Lib.hid hnb
      have hS4 : Below W3.heap.size W3 W4 := by rw [← hW4]; exact ((Below.refl _ _).alloc (Nat.le_refl _) _).drew
      have ho4 : W4.ownsRow nb 42 35 (.slice (some ⟨nb, 0, none⟩) ([] : List RowT).length 0) ([] : List RowT).length (([] : List RowT).flatMap rowL) := by
        rw [← hW4, ← hnb]
        exact World.ownsRow_lit W3 #[] 0 (Nat.le_refl _) (by decide) rfl
      rw [hW4, hnb]
      have cd4 := (HB3.out.below hS4).cell (i := 0) rfl
      refine hK _ _ ⟨fun _ => cd4, ?_⟩
      clear hK K
      repeat (first | (refine Go.XR.S_light rfl rfl (by assumption) ?_ (fun w' hS K hK => ?_) (fun K hK => ?_); rotate_left 1; (have hS1 : w'.cell? ⟨b, 0, none⟩ = some (.slice a3 T3.length c3) := hS; go_step; exact hK); go_step; refine hK _ ?_; clear hK K))
      refine Go.XR.S_heavy (fun K hK => ?_)
      refine append_enc (P := Tryz.prog) rowL 35 56 rowL_length one_rowL 42 Tryz.underlying60 (by kernel_rfl) (by decide) nb (some ⟨nb, 0, none⟩) 0 [] rfl ho4 a c L rfl (HR3.out.below hS4) (fun e => by have := HLn.out e; omega) (by simp; omega) (by unfold maxLen; simp; omega) (by rw [← hnb]; exact hS4.size) ?_
      intro a5 c5 w5 ho5 hb5 _ _
      rw [List.nil_append] at ho5 ⊢
      have hS5 : Below W3.heap.size W3 w5 := hS4.trans (by rw [hnb]; exact hb5)
      have Ho5 := Lib.hid ho5
      go_step
      have cd5 := (HB3.out.below hS5).cell (i := 0) rfl
      refine hK _ _ ⟨fun _ => cd5, ?_⟩
      clear hK K
      repeat (first | (refine Go.XR.S_light rfl rfl (by assumption) ?_ (fun w' hS K hK => ?_) (fun K hK => ?_); rotate_left 1; (have hS1 : w'.cell? ⟨b, 0, none⟩ = some (.slice a3 T3.length c3) := hS; go_step; exact hK); go_step; refine hK _ ?_; clear hK K))
      clear cd4
      clear ho4 hW4 hS4 hS0
      obtain ⟨W6, hW6⟩ : ∃ W6, w5.alloc (.cells #[.int .i64 s, .slice a5 L.length c5] 120) = W6 := ⟨_, rfl⟩
      have hS6 : Below W3.heap.size W3 W6 := by rw [← hW6]; exact hS5.alloc hS5.size _
      have h56 : Below w5.heap.size w5 W6 := by rw [← hW6]; exact (Below.refl _ _).alloc (Nat.le_refl _) _
      obtain ⟨tb, htb⟩ : ∃ tb, w5.heap.size = tb := ⟨_, rfl⟩
      obtain ⟨e, he⟩ : ∃ e : TabE, e = ⟨⟨s, hs0⟩, a5, c5, L⟩ := ⟨_, rfl⟩
      have hRn : Row W6 (some ⟨tb, 0, none⟩) ([e].flatMap tcL) := by
        rw [← hW6, ← htb, he]; exact Row.new _ _ _
      refine Go.XR.S_heavy (fun K hK => ?_)
      go_step
      (try rw [hW6])
      (try rw [htb])
      have cd6 := (HB3.out.below hS6).cell (i := 0) rfl
      refine hK _ _ ⟨fun _ => cd6, ?_⟩
      clear hK K
      repeat (first | (refine Go.XR.S_light rfl rfl (by assumption) ?_ (fun w' hS K hK => ?_) (fun K hK => ?_); rotate_left 1; (have hS1 : w'.cell? ⟨b, 0, none⟩ = some (.slice a3 T3.length c3) := hS; go_step; exact hK); go_step; refine hK _ ?_; clear hK K))
      clear cd5
      refine Go.XR.S_heavy (fun K hK => ?_)
      refine append_enc2 (P := Tryz.prog) tcL 2 32 tcL_length one_tcL 120 Tryz.underlying82 (by kernel_rfl) (by decide) 0 a3 c3 T3 rfl (owns_below HO3.out hS6) tb 0 1 [e] rfl hRn (by simp; omega) (by unfold maxLen; simp; omega) (Nat.zero_le _) ?_
      intro a7 c7 w7 ho7 hg7 hn7
      have Hown7 := Lib.hid ho7
      have Hb67 := Lib.hid (But.of_own hg7)
      have Hn7 := Lib.hid hn7
      have HB7 : Hid (Blk w7 b [.slice a3 T3.length c3, .int .i64 room]) := (HB3.out.below hS6).but Hb67.out fun h => by
        obtain ⟨x, h1, h2⟩ := mem_oB.1 h
        exact Hab3.out x h1 h2.symm
      have HS6 := Lib.hid hS6
      have HS5 := Lib.hid hS5
      have H56 := Lib.hid h56
      have He := Lib.hid he
      go_step
      have cd7 := HB7.out.cell (i := 0) rfl
      refine hK _ _ ⟨fun _ => cd7, ?_⟩
      clear hK K
      repeat (first | (refine Go.XR.S_light rfl rfl (by assumption) ?_ (fun w' hS K hK => ?_) (fun K hK => ?_); rotate_left 1; (have hS1 : w'.cell? ⟨b, 0, none⟩ = some (.slice a3 T3.length c3) := hS; go_step; exact hK); go_step; refine hK _ ?_; clear hK K))
      clear cd6
      clear ho7 hg7 hn7 hRn hS6 hS5 h56 he hb5 ho5
      have f7 := HB7.out.free 0
      repeat (first | (refine Go.XR.S_heavy (fun K hK => ?_); go_step; refine hK _ _ ⟨fun h => by simp at h, ?_⟩; clear hK K))
      refine Go.XR.S_nil ?_
      go_end0
      rw [show T3.length + 1 = (T3 ++ [e]).length by simp]
      have hsz : w1.heap.size ≤ W3.heap.size := Hb3.out.size
      have hs36 := HS6.out.size
      have hs35 := HS5.out.size
      have hbG : b ∈ G3 := by rw [HG3.out]; simp
      have haG : ∀ i ∈ oB a3, i ∈ G3 := fun i hi => by rw [HG3.out]; simp [hi]
      have h67 : ∀ i ∈ oB a7, i ∈ oB a3 ∨ W6.heap.size ≤ i := fun i hi => by
        rcases Hn7.out with h | ⟨g, h, h1, _⟩
        · left; rwa [h] at hi
        · right
          obtain ⟨x, h2, rfl⟩ := mem_oB.1 hi
          rw [h] at h2; injection h2 with h2; rw [← h2]; exact h1
      have hg37 : ∀ i ∈ b :: oB a7, i ∈ G3 ∨ W6.heap.size ≤ i := fun i hi => by
        rcases List.mem_cons.1 hi with h | h
        · left; rw [h]; exact hbG
        · exact (h67 i h).imp (haG i) id
      have hb8 : But [b] w7 (w7.setCell ⟨b, 0, none⟩ (.slice a7 (T3 ++ [e]).length c7)) := (But.refl [b] w7).setCell (.inl (by simp)) _
      have hb38 : But G3 W3 (w7.setCell ⟨b, 0, none⟩ (.slice a7 (T3 ++ [e]).length c7)) := ((But.of_below HS6.out).trans (Hb67.out.mono fun i hi _ => haG i hi)).trans (hb8.mono fun i hi _ => by rw [List.mem_singleton] at hi; rw [hi]; exact hbG)
      have hbl3 := Hlt3.out b hbG
      have ho5 := owns_in Ho5.out
      refine ⟨rfl, T3 ++ [e], b :: oB a7, ⟨a7, c7, rfl, HB7.out.set 0 _, owns_out Hown7.out hb8 (fun i hi h => ?_), fun i hi => ?_, fun x hx h => ?_, fun e' he' => ?_⟩, Hb3.out.grew hb38 Hg3.out, fun i hi => ?_, .inr ⟨Hnot.out, e, by rw [He.out], by rw [He.out], by rw [HTe.out]⟩⟩
      · rw [List.mem_singleton] at h
        subst h
        rcases h67 i hi with h1 | h1
        · obtain ⟨x, h2, h3⟩ := mem_oB.1 h1
          exact Hab3.out x h2 h3.symm
        · omega
      · rcases hg37 i hi with h1 | h1
        · exact HGF3.out i h1
        · exact fun h2 => by have := HF.out i h2; omega
      · have h0 : b ∈ oB a7 := mem_oB.2 ⟨x, hx, h.symm⟩
        rcases h67 b h0 with h1 | h1
        · obtain ⟨y, h2, h3⟩ := mem_oB.1 h1
          exact Hab3.out y h2 h3.symm
        · omega
      · rcases List.mem_append.1 he' with h | h
        · have h1 := (Htab3.out e' h).to (G' := G3 ++ oB a7) (F' := F) (fun i h1 h2 h3 => ⟨fun h4 => by
            rcases List.mem_append.1 h4 with h5 | h5
            · exact h2 h5
            · rcases h67 i h5 with h6 | h6
              · exact h2 (haG i h6)
              · omega, h3⟩)
          have h2 := ((h1.below HS6.out).but Hb67.out (fun i hi => .inl (List.mem_append_left _ (haG i hi)))).but hb8 (fun i hi => .inl (List.mem_append_left _ (by rw [List.mem_singleton] at hi; rw [hi]; exact hbG)))
          exact h2.to fun i _ h3 h4 => ⟨fun h5 => h3 (by
            rcases List.mem_cons.1 h5 with h6 | h6
            · rw [h6]; exact List.mem_append_left _ hbG
            · exact List.mem_append_right _ h6), h4⟩
        · rw [List.mem_singleton] at h
          have h5n : ∀ i ∈ oB a5, W3.heap.size ≤ i ∧ i < W6.heap.size := fun i hi => ⟨by have := (ho5 i hi).1; rw [Hnb.out]; exact this, Nat.lt_of_lt_of_le (ho5 i hi).2 H56.out.size⟩
          have hrow : Row W6 a5 (L.flatMap rowL) := (Row.owned Ho5.out).below H56.out
          have hq : e'.a = a5 ∧ e'.c = c5 ∧ e'.L = L := by rw [h, He.out]; exact ⟨rfl, rfl, rfl⟩
          have hrow8 := (hrow.but Hb67.out (fun g o h1 h2 => by
            have h3 := (h5n g (mem_oB.2 ⟨_, h1, rfl⟩)).1
            have h4 := Hlt3.out g (haG g h2)
            omega)).but hb8 (fun g o h1 h2 => by
            rw [List.mem_singleton] at h2
            have h3 := (h5n g (mem_oB.2 ⟨_, h1, rfl⟩)).1
            omega)
          refine ⟨by rw [hq.1, hq.2.2]; exact hrow8, by rw [hq.2.1, hq.2.2]; exact (owns_shape Ho5.out).1, by rw [hq.2.2]; exact hL, fun x hx => ?_⟩
          rw [hq.1] at hx
          refine ⟨fun h1 => ?_, fun h1 => ?_, ?_⟩
          · have h3 := h5n x.block (mem_oB.2 ⟨x, hx, rfl⟩)
            rcases hg37 _ h1 with h4 | h4
            · have := Hlt3.out _ h4; omega
            · omega
          · have h3 := (h5n x.block (mem_oB.2 ⟨x, hx, rfl⟩)).1
            have := HF.out _ h1
            omega
          · have h3 := (h5n x.block (mem_oB.2 ⟨x, hx, rfl⟩)).2
            exact Nat.lt_of_lt_of_le h3 (Nat.le_trans Hb67.out.size hb8.size)
      · rcases hg37 i hi with h1 | h1
        · exact Hg3.out i h1
        · right; omega
end Go.Proofs.YtnfbchhbcinloaaGreat

/- The walk over the reference cache's Get. -/
namespace Go.Proofs.YtnfbchhbcinloaaGreat
open Go.RowKit Go.XR Go.IndexPure Go.CachePure Go.FindPure
def tabGet (T : List TabE) (k : KeyT) : Option PlaceT := T.findSome? fun e => aget e.L k
theorem tabGet_some {T : List TabE} {k : KeyT} {i : Nat} (hi : i < T.length) (hn : ∀ q (h : q < T.length), q < i → aget T[q].L k = none) {v : PlaceT} (h : aget T[i].L k = some v) : tabGet T k = some v := by
  have e : T = T.take i ++ T[i] :: T.drop (i + 1) := by rw [List.getElem_cons_drop, List.take_append_drop]
  unfold tabGet
  rw [e, List.findSome?_append, List.findSome?_cons]
  have h1 : (T.take i).findSome? (fun e => aget e.L k) = none := List.findSome?_eq_none_iff.2 fun x hx => by
    obtain ⟨q, hq, h2, rfl⟩ := take_get.1 hx
    exact hn q hq h2
  rw [h1, h]; rfl
theorem tabGet_none {T : List TabE} {k : KeyT} (hn : ∀ q (h : q < T.length), aget T[q].L k = none) : tabGet T k = none := List.findSome?_eq_none_iff.2 fun x hx => by
  obtain ⟨q, hq, rfl⟩ := List.getElem_of_mem hx
  exact hn q hq
theorem aget_take_eq {L : List RowT} {k : KeyT} {p : Nat} (hp : p < L.length) (hn : aget (L.take p) k = none) (h : L[p].1 = k) : aget L k = some L[p].2 := by
  have e : L = L.take p ++ L[p] :: L.drop (p + 1) := by rw [List.getElem_cons_drop, List.take_append_drop]
  unfold aget at hn ⊢
  have h1 : (L.take p).find? (fun q => decide (q.1 = k)) = none := by
    cases hh : (L.take p).find? (fun q => decide (q.1 = k)) with
    | none => rfl
    | some x => rw [hh] at hn; cases hn
  conv => lhs; rw [e]
  rw [List.find?_append, h1, List.find?_cons_of_pos (by simpa using h)]; rfl
theorem aget_take_ne {L : List RowT} {k : KeyT} {p : Nat} (hp : p < L.length) (hn : aget (L.take p) k = none) (h : L[p].1 ≠ k) : aget (L.take (p + 1)) k = none := by
  rw [aget_none] at hn ⊢
  intro x hx
  rw [List.take_succ_eq_append_getElem hp] at hx
  rcases List.mem_append.1 hx with h1 | h1
  · exact hn x h1
  · rw [List.mem_singleton] at h1; rw [h1]; exact h
set_option maxHeartbeats 2000000 in
set_option maxRecDepth 100000 in
theorem rcget_any (w : World) (b room : Nat) (G : List Nat) (T : List TabE) (F : List Nat) (h : RCch w b G room T F) (hlen : T.length ≤ 2^20) (k : KeyT) :
    Calls Tryz.prog 46 #[.pointer (some ⟨b, 0, none⟩), keyV k] w (RetOpt w (tabGet T k)) := by
  obtain ⟨W0, hW0⟩ : ∃ W0, (w.alloc (.cells (keyC k) 29)).alloc (.cells #[.int .i64 0, .int .i64 0] 40) = W0 := ⟨_, rfl⟩
  have hb0 : Below w.heap.size w W0 := by rw [← hW0]; exact ((Below.refl _ _).alloc (Nat.le_refl _) _).alloc (by simp) _
  have HK : Hid (At W0 w.heap.size 0 (keyC k)) := by unfold Hid; rw [← hW0]; exact (At.new _ _ _).alloc _
  have HP : Hid (Blk W0 (w.heap.size + 1) [.int .i64 0, .int .i64 0]) := by
    unfold Hid; rw [← hW0]
    have h := Blk.new (w.alloc (.cells (keyC k) 29)) #[.int .i64 0, .int .i64 0] 40
    rwa [show (w.alloc (.cells (keyC k) 29)).heap.size = w.heap.size + 1 by simp] at h
  have HC0 := Lib.hid (h.below hb0)
  have Hb0 := Lib.hid hb0
  clear h hb0
  obtain ⟨kb, hkb⟩ : ∃ kb, w.heap.size = kb := ⟨_, rfl⟩
  obtain ⟨vb, hvb⟩ : ∃ vb, kb + 1 = vb := ⟨_, rfl⟩
  have Hkb := Lib.hid hkb
  have Hvb := Lib.hid hvb
  rw [hkb] at HK HP
  rw [hvb] at HP
  have hvw : w.heap.size ≤ vb := by omega
  obtain ⟨a, c, -, hB, hO, -, -, htab⟩ := HC0.out
  have HB := Lib.hid hB
  have HR := Lib.hid (Row.owned hO)
  have hc := (owns_shape hO).1
  have Htab := Lib.hid htab
  clear hB hO htab
  go_enter Tryz.func46, Tryz.ntmps46
  go_wp2
  clear hkb hvb hW0
  go_loopg [6] T.length (fun m i wr => Below W0.heap.size W0 wr ∧ ∃ j : Nat, j ≤ T.length ∧ i = .int .i64 j ∧ Hid (m = T.length - j ∧ ∀ q (h : q < T.length), q < j → aget T[q].L k = none))
  case atStart => exact ⟨Below.refl _ _, 0, Nat.zero_le _, rfl, rfl, fun q h h2 => by omega⟩
  case round =>
    obtain ⟨hb, j, hj, rfl, hr⟩ := hrel
    have hgn := hr.out.1
    have Hne := Lib.hid hr.out.2
    have Hb := Lib.hid hb
    have c0 := (HB.out.below hb).cell (i := 0) rfl
    have hbl : b < wr.heap.size := (HB.out.below hb).lt
    clear hr
    by_cases hjl : j < T.length
    · have hlt2 : (j : Int) < (T.length : Int) := by omega
      obtain ⟨g, o, rfl, e0, e1⟩ := tab_at (HR.out.below hb) hjl
      have HT := Lib.hid ((Htab.out T[j] (List.getElem_mem hjl)).below hb)
      have Hsome : Hid (∀ v, aget T[j].L k = some v → tabGet T k = some v) := fun v hv => tabGet_some hjl Hne.out hv
      have Hnext : Hid (aget T[j].L k = none → ∀ q (h : q < T.length), q < j + 1 → aget T[q].L k = none) := fun hn q h h2 => by
        by_cases e : q = j
        · subst e; exact hn
        · exact Hne.out q h (by omega)
      clear e0 hb
      generalize T[j] = t at *
      have htl := HT.out.len
      have htc := HT.out.cap
      have He1 := Lib.hid e1
      have Hc0 := Lib.hid c0
      have hgl : g < wr.heap.size := cell_lt e1
      obtain ⟨W1, rfl⟩ : ∃ W1, W1 = wr := ⟨_, rfl⟩
      go_wp2
      go_loopg [7] t.L.length (fun m i wr => Below W1.heap.size W1 wr ∧ ∃ p : Nat, p ≤ t.L.length ∧ i = .int .i64 p ∧ Hid (m = t.L.length - p ∧ aget (t.L.take p) k = none))
      case atStart => exact ⟨Below.refl _ _, 0, Nat.zero_le _, rfl, rfl, rfl⟩
      case round =>
        obtain ⟨hb2, p, hp, rfl, hr2⟩ := hrel
        have hgn2 := hr2.out.1
        have Hpn := Lib.hid hr2.out.2
        clear c0 e1 hr2
        have c0 : wr.cell? ⟨b, 0, none⟩ = some (.slice (some ⟨g, o, none⟩) T.length c) := (hb2.cell (p := ⟨b, 0, none⟩) hbl).trans Hc0.out
        have e1 : wr.cell? ⟨g, o + j * 2 + 1, none⟩ = some (.slice t.a t.L.length t.c) := (hb2.cell (p := ⟨g, o + j * 2 + 1, none⟩) hgl).trans He1.out
        have Hb2 := Lib.hid hb2
        have hW2 : Below W0.heap.size W0 wr := Hb.out.trans (hb2.mono Hb.out.size)
        have HW2 := Lib.hid hW2
        have HK2 := Lib.hid (HK.out.below (by rw [keyC_size]; omega) hW2)
        clear hb2 hW2
        by_cases hpl : p < t.L.length
        · have hlt3 : (p : Int) < (t.L.length : Int) := by omega
          obtain ⟨g2, o2, hta, hX⟩ := row_at rowL_length (HT.out.row.below Hb2.out) hpl (by omega)
          have HX : Hid (At wr g2 (o2 + p * 35) (rowC t.L[p])) := hX
          have Hhit : Hid (t.L[p].1 = k → tabGet T k = some t.L[p].2) := fun h => Hsome.out _ (aget_take_eq hpl Hpn.out h)
          have Hmiss : Hid (t.L[p].1 ≠ k → aget (t.L.take (p + 1)) k = none) := fun h => aget_take_ne hpl Hpn.out h
          clear hX
          generalize t.L[p] = r at *
          rw [hta] at e1
          have Heq := Lib.hid (key_eq r.1 k wr.drew)
          go_wp2
          refine Go.XR.region_sched ((· = wr.drew)) [(0, true), (1, true), (2, true), (3, true), (4, true), (5, true), (6, true), (7, true), (8, true), (9, true), (10, true), (11, true), (12, true), (13, false)] [13] Tryz.mixed (by kernel_rfl) (by kernel_rfl) (by kernel_rfl) ?_
          simp only [List.map_cons, List.map_nil, List.getElem?_cons_succ, List.getElem?_cons_zero]
          repeat (first | (refine Go.XR.S_light rfl rfl rfl ?_ (fun w' hS K hK => ?_) (fun K hK => ?_); rotate_left 1; (cases hS; (first | (first | (refine Go.XR.wp_load_at 29 (.tmp 40) rfl g2 (o2 + p * 35) rfl (keyC r.1) (At.drew (row_at_key HX.out)) _ Tryz.underlying29 rfl (keySize r.1) ?_) | (refine Go.XR.wp_load_at 29 (.tmp 3) rfl kb 0 rfl (keyC k) (At.drew HK2.out) _ Tryz.underlying29 rfl (keySize k) ?_)) | go_step); exact hK); go_step; refine hK _ ?_; clear hK K))
          refine Go.XR.S_heavy (fun K hK => ?_)
          refine Go.XR.wp_agg_eql 29 _ _ _ rfl (keyC r.1) (keyC k) rfl rfl keyGuard _ Heq.out ?_
          refine hK _ _ ⟨fun h => by simp at h, ?_⟩
          clear hK K
          refine Go.XR.S_nil ?_
          by_cases hs : r.1 = k
          · rw [decide_eq_true hs]
            have Hg := Lib.hid (Hhit.out hs)
            have HX3 := Lib.hid (At.drew (row_at_place HX.out))
            have HP2 := Lib.hid (HP.out.below HW2.out)
            have f0 := HP2.out.free 0
            have f1 := HP2.out.free 1
            have p0 := HP2.out.cell (i := 0) rfl
            have p1 := HP2.out.cell (i := 1) rfl
            have Hb1 := Lib.hid (Hb0.out.trans (HW2.out.mono Hb0.out.size))
            have hvl : vb < wr.heap.size := HP2.out.lt
            clear hs
            go_wp2_with (first | (refine wpList_load_at rfl 40 (.tmp 54) rfl g2 (o2 + p * 35 + 33) (by kernel_rfl) #[.int .i64 r.2.shelf, .int .i64 r.2.slot] HX3.out _ Tryz.underlying40 rfl (by kernel_rfl) ?_) | fail)
            (try simp only [Exit.inBlock, Exit.then])
            refine bodyPost_ret (results_at rfl (g := vb) rfl rfl (At.drew (((HP2.out.set 0 (.int .i64 r.2.shelf)).set 1 (.int .i64 r.2.slot)).toAt)) Tryz.underlying40 rfl (placeSize r.2)) rfl ?_
            exact ⟨by rw [Hg.out]; rfl, (Hb1.out.trans ((((But.refl [vb] wr).setCell (.inl (by simp)) _).setCell (.inl (by simp)) _).below Hb1.out.size (by simp; omega))).drew⟩
          · rw [decide_eq_false hs]
            have Hm := Lib.hid (Hmiss.out hs)
            clear hs
            go_wp2
            go_roundg (t.L.length - (p + 1))
            case measure => omega
            case rel => exact ⟨Hb2.out.drew, p + 1, by omega, by go_num, rfl, Hm.out⟩
        · have hge3 : ¬ (p : Int) < (t.L.length : Int) := by omega
          have hpe : p = t.L.length := by omega
          have Hn : Hid (aget t.L k = none) := by have := Hpn.out; rwa [hpe, List.take_length] at this
          clear hpe
          go_wp2
          go_roundg (T.length - (j + 1))
          case measure => omega
          case rel => exact ⟨HW2.out, j + 1, by omega, by go_num, rfl, Hnext.out Hn.out⟩
    · have hge : ¬ (j : Int) < (T.length : Int) := by omega
      have Hn : Hid (tabGet T k = none) := tabGet_none fun q h => Hne.out q h (by omega)
      have HP2 := Lib.hid (HP.out.below hb)
      have f0 := HP2.out.free 0
      have f1 := HP2.out.free 1
      have p0 := HP2.out.cell (i := 0) rfl
      have p1 := HP2.out.cell (i := 1) rfl
      have Hb1 := Lib.hid (Hb0.out.trans (Hb.out.mono Hb0.out.size))
      have hvl : vb < wr.heap.size := HP2.out.lt
      clear hb
      go_wp2
      (try simp only [Exit.inBlock, Exit.then])
      refine bodyPost_ret (results_at rfl (g := vb) rfl rfl (((HP2.out.set 0 (.int .i64 0)).set 1 (.int .i64 0)).toAt) Tryz.underlying40 rfl (placeSize place0)) rfl ?_
      exact ⟨by rw [Hn.out]; rfl, Hb1.out.trans ((((But.refl [vb] wr).setCell (.inl (by simp)) _).setCell (.inl (by simp)) _).below Hb1.out.size (by simp; omega))⟩
end Go.Proofs.YtnfbchhbcinloaaGreat

/- The reference's finder: how it lies. -/
namespace Go.FindPure
open Go Go.XR Go.IndexPure Go.CachePure
end Go.FindPure
namespace Go.Proofs.YtnfbchhbcinloaaGreat
open Go.RowKit Go.XR Go.IndexPure Go.CachePure Go.FindPure
structure RefT where
  B : List Bool
  probes : Nat
  room : Nat
  T : List TabE
  R : List RowT
  asked : Nat
  loaded : Nat
structure RFin (w : World) (fp ip vp vq cp : Nat) (G F : List Nat) (N : RefT) : Prop where
  blk : Blk w fp [.pointer (some ⟨vp, 0, none⟩), .pointer (some ⟨cp, 0, none⟩), .pointer (some ⟨ip, 0, none⟩), .int .i64 N.asked, .int .i64 N.loaded]
  vec : ∃ cap, RVec w vp vq cap N.probes N.B
  ch : RCch w cp G N.room N.T (fp :: vp :: vq :: ip :: F)
  ix : RefIx w ip N.R (fp :: vp :: vq :: (G ++ F))
  fn : fp ≠ vp ∧ fp ≠ vq ∧ fp ∉ F ∧ vp ∉ F ∧ vq ∉ F
  lt : ∀ b ∈ F, b < w.heap.size
def mine (fp ip vp vq : Nat) (G : List Nat) : List Nat := fp :: vp :: vq :: ip :: G
theorem mem_mine {fp ip vp vq b : Nat} {G : List Nat} : b ∈ mine fp ip vp vq G ↔ b = fp ∨ b = vp ∨ b = vq ∨ b = ip ∨ b ∈ G := by unfold mine; simp
section
variable {w w' w0 W W' : World} {M0 F F' G G' S : List Nat} {fp ip vp vq cp : Nat} {N : RefT}
theorem RefIx.notin {b : Nat} {R : List RowT} (h : RefIx w b R F) : b ∉ F := by obtain ⟨a, c, h1, h2, h3, h4, h5, _⟩ := h; exact h5
theorem RefIx.lt {b : Nat} {R : List RowT} (h : RefIx w b R F) : b < w.heap.size := by obtain ⟨a, c, h1, _⟩ := h; exact h1.lt
theorem RFin.mineLt (h : RFin w fp ip vp vq cp G F N) : ∀ b ∈ mine fp ip vp vq G, b < w.heap.size := fun b hb => by
  obtain ⟨cap, hv⟩ := h.vec
  rcases mem_mine.1 hb with rfl | rfl | rfl | rfl | hb
  · exact h.blk.lt
  · exact hv.blk.lt
  · exact hv.row.lt
  · exact h.ix.lt
  · exact h.ch.lt b hb
theorem RFin.mineOut (h : RFin w fp ip vp vq cp G F N) : ∀ b ∈ mine fp ip vp vq G, b ∉ F := fun b hb => by
  rcases mem_mine.1 hb with rfl | rfl | rfl | rfl | hb
  · exact h.fn.2.2.1
  · exact h.fn.2.2.2.1
  · exact h.fn.2.2.2.2
  · exact fun h1 => h.ix.notin (by simp [h1])
  · exact fun h1 => h.ch.out b hb (by simp [h1])
theorem RFin.listLt (h : RFin w fp ip vp vq cp G F N) : ∀ i ∈ fp :: vp :: vq :: ip :: F, i < w.heap.size := fun i hi => by
  simp only [List.mem_cons] at hi
  rcases hi with h1 | h1 | h1 | h1 | h1
  · exact h.mineLt i (mem_mine.2 (by simp [h1]))
  · exact h.mineLt i (mem_mine.2 (by simp [h1]))
  · exact h.mineLt i (mem_mine.2 (by simp [h1]))
  · exact h.mineLt i (mem_mine.2 (by simp [h1]))
  · exact h.lt i h1
theorem RFin.ixLt (h : RFin w fp ip vp vq cp G F N) : ∀ i ∈ fp :: vp :: vq :: (G ++ F), i < w.heap.size := fun i hi => by
  simp only [List.mem_cons, List.mem_append] at hi
  rcases hi with h1 | h1 | h1 | h1 | h1
  · exact h.mineLt i (mem_mine.2 (by simp [h1]))
  · exact h.mineLt i (mem_mine.2 (by simp [h1]))
  · exact h.mineLt i (mem_mine.2 (by simp [h1]))
  · exact h.mineLt i (mem_mine.2 (by simp [h1]))
  · exact h.lt i h1
/-- what others write leaves it as it is -/
theorem RFin.but (h : RFin w fp ip vp vq cp G F N) (hb : But S w w') (hS : ∀ i ∈ S, i ∈ F ∨ w.heap.size ≤ i) : RFin w' fp ip vp vq cp G F N := by
  have hn : ∀ b ∈ mine fp ip vp vq G, b ∉ S := fun b h1 h2 => by
    rcases hS b h2 with h3 | h3
    · exact h.mineOut b h1 h3
    · have := h.mineLt b h1; omega
  obtain ⟨cap, hv⟩ := h.vec
  exact {
    blk := h.blk.but hb (hn _ (mem_mine.2 (by simp)))
    vec := ⟨cap, hv.but hb (hn _ (mem_mine.2 (by simp))) (hn _ (mem_mine.2 (by simp)))⟩
    ch := h.ch.but hb fun i hi => (hS i hi).imp (fun h => by simp [h]) id
    ix := h.ix.but hb fun i hi => (hS i hi).imp (fun h => by simp [h]) id
    fn := h.fn
    lt := fun b hb' => Nat.lt_of_lt_of_le (h.lt b hb') hb.size }
theorem RFin.below (h : RFin w fp ip vp vq cp G F N) (hb : Below w.heap.size w w') : RFin w' fp ip vp vq cp G F N := h.but (S := []) (But.of_below hb) (fun i hi => by cases hi)
/-- the others' blocks may grow -/
theorem RFin.grew (h : RFin w fp ip vp vq cp G F N) (hb : But F w w') (hg : Grew w F F') (hlt : ∀ b ∈ F', b < w'.heap.size) : RFin w' fp ip vp vq cp G F' N := by
  have h0 := h.but hb fun i hi => .inl hi
  have hn : ∀ b ∈ mine fp ip vp vq G, b ∉ F' := fun b h1 h2 => by
    rcases hg b h2 with h3 | h3
    · exact h.mineOut b h1 h3
    · have := h.mineLt b h1; omega
  have hmid : ∀ L : List Nat, Grew w (L ++ F) (L ++ (F ++ F')) := fun L b hb => by
    simp only [List.mem_append] at hb ⊢
    rcases hb with h | h | h
    · simp [h]
    · simp [h]
    · exact (hg b h).imp (fun h => by simp [h]) id
  have hend : ∀ L : List Nat, Grew w' (L ++ (F ++ F')) (L ++ F') := fun L b hb => .inl (by
    simp only [List.mem_append] at hb ⊢
    rcases hb with h | h <;> simp [h])
  have h1 := ((h.ch.grew (hmid [fp, vp, vq, ip])).but hb fun i hi => .inl (by simp [hi])).grew (hend [fp, vp, vq, ip])
  have h2' : RefIx w ip N.R ((fp :: vp :: vq :: G) ++ F) := h.ix
  have h2 := ((h2'.grew (hmid (fp :: vp :: vq :: G))).but hb fun i hi => .inl (by simp [hi])).grew (hend (fp :: vp :: vq :: G))
  exact { h0 with ch := h1, ix := h2, fn := ⟨h.fn.1, h.fn.2.1, hn _ (mem_mine.2 (by simp)), hn _ (mem_mine.2 (by simp)), hn _ (mem_mine.2 (by simp))⟩, lt := hlt }
/-- the reference's finder, and what was written on the way to it -/
structure RSt (w0 : World) (M0 : List Nat) (W : World) (fp ip vp vq cp : Nat) (G F : List Nat) (N : RefT) : Prop where
  fin : RFin W fp ip vp vq cp G F N
  but : But M0 w0 W
  grew : Grew w0 M0 (mine fp ip vp vq G)
theorem RSt.refl (h : RFin w fp ip vp vq cp G F N) : RSt w (mine fp ip vp vq G) w fp ip vp vq cp G F N := ⟨h, But.refl _ _, Grew.refl _ _⟩
theorem RSt.below (h : RSt w0 M0 W fp ip vp vq cp G F N) (hb : Below W.heap.size W W') : RSt w0 M0 W' fp ip vp vq cp G F N := ⟨h.fin.below hb, h.but.trans (But.of_below hb), h.grew⟩
theorem RSt.trans {vq' : Nat} {N' : RefT} (h : RSt w0 M0 W fp ip vp vq cp G F N) (h' : RSt W (mine fp ip vp vq G) W' fp ip vp vq' cp G' F N') : RSt w0 M0 W' fp ip vp vq' cp G' F N' :=
  ⟨h'.fin, h.but.grew h'.but h.grew, h.grew.trans h'.grew h.but.size⟩
theorem RSt.ix {R' : List RowT} (h : RSt w0 M0 W fp ip vp vq cp G F N) (hx : RefIx W' ip R' (fp :: vp :: vq :: (G ++ F))) (hb : But [ip] W W') : RSt w0 M0 W' fp ip vp vq cp G F { N with R := R' } := by
  obtain ⟨cap, hv⟩ := h.fin.vec
  have hn := hx.notin
  simp only [List.mem_cons, List.mem_append, not_or] at hn
  exact h.trans ⟨{
    blk := h.fin.blk.but hb (by simpa using fun e => hn.1 e.symm)
    vec := ⟨cap, hv.but hb (by simpa using fun e => hn.2.1 e.symm) (by simpa using fun e => hn.2.2.1 e.symm)⟩
    ch := h.fin.ch.but hb fun i hi => .inl (by rw [List.mem_singleton] at hi; simp [hi])
    ix := hx
    fn := h.fin.fn
    lt := fun b hb' => Nat.lt_of_lt_of_le (h.fin.lt b hb') hb.size }, hb.mono fun i hi _ => by rw [List.mem_singleton] at hi; exact mem_mine.2 (by simp [hi]), Grew.refl _ _⟩
theorem RSt.ch {T' : List TabE} (h : RSt w0 M0 W fp ip vp vq cp G F N) (hc : RCch W' cp G' N.room T' (fp :: vp :: vq :: ip :: F)) (hb : But G W W') (hg : Grew W G G') : RSt w0 M0 W' fp ip vp vq cp G' F { N with T := T' } := by
  obtain ⟨cap, hv⟩ := h.fin.vec
  have hn : ∀ i ∈ [fp, vp, vq, ip], i ∉ G := fun i hi hm => h.fin.ch.out i hm (by simp at hi ⊢; rcases hi with h | h | h | h <;> simp [h])
  have h1 := h.fin.ix.but hb fun i hi => .inl (by simp [hi])
  have h2 := h.fin.ix.grew (F' := fp :: vp :: vq :: ((G ++ G') ++ F)) (fun b hb' => by
    simp only [List.mem_cons, List.mem_append] at hb' ⊢
    rcases hb' with h | h | h | (h | h) | h
    · simp [h]
    · simp [h]
    · simp [h]
    · simp [h]
    · exact (hg b h).imp (fun h => by simp [h]) id
    · simp [h])
  have h3 := (h2.but hb fun i hi => .inl (by simp [hi])).grew (F' := fp :: vp :: vq :: (G' ++ F)) (fun b hb' => .inl (by
    simp only [List.mem_cons, List.mem_append] at hb' ⊢
    rcases hb' with h | h | h | h | h <;> simp [h]))
  exact h.trans ⟨{
    blk := h.fin.blk.but hb (hn fp (by simp))
    vec := ⟨cap, hv.but hb (hn vp (by simp)) (hn vq (by simp))⟩
    ch := hc
    ix := h3
    fn := h.fin.fn
    lt := fun b hb' => Nat.lt_of_lt_of_le (h.fin.lt b hb') hb.size }, hb.mono fun i hi _ => mem_mine.2 (by simp [hi]), fun b hb' => by
      rcases mem_mine.1 hb' with h1 | h1 | h1 | h1 | h1
      · exact .inl (mem_mine.2 (by simp [h1]))
      · exact .inl (mem_mine.2 (by simp [h1]))
      · exact .inl (mem_mine.2 (by simp [h1]))
      · exact .inl (mem_mine.2 (by simp [h1]))
      · exact (hg b h1).imp (fun h => mem_mine.2 (by simp [h])) id⟩
theorem RSt.vec {cap : Nat} {B' : List Bool} (h : RSt w0 M0 W fp ip vp vq cp G F N) (hv : RVec W' vp vq cap N.probes B') (hb : But [vq] W W') : RSt w0 M0 W' fp ip vp vq cp G F { N with B := B' } := by
  have hs : ∀ i ∈ [vq], i = vq := fun i hi => by rwa [List.mem_singleton] at hi
  exact h.trans ⟨{
    blk := h.fin.blk.but hb (by simpa using h.fin.fn.2.1)
    vec := ⟨cap, hv⟩
    ch := h.fin.ch.but hb fun i hi => .inl (by simp [hs i hi])
    ix := h.fin.ix.but hb fun i hi => .inl (by simp [hs i hi])
    fn := h.fin.fn
    lt := fun b hb' => Nat.lt_of_lt_of_le (h.fin.lt b hb') hb.size }, hb.mono fun i hi _ => mem_mine.2 (by simp [hs i hi]), Grew.refl _ _⟩
theorem RSt.cells {a' l' : Nat} (h : RSt w0 M0 W fp ip vp vq cp G F N) (hB : Blk W' fp [.pointer (some ⟨vp, 0, none⟩), .pointer (some ⟨cp, 0, none⟩), .pointer (some ⟨ip, 0, none⟩), .int .i64 a', .int .i64 l']) (hb : But [fp] W W') : RSt w0 M0 W' fp ip vp vq cp G F { N with asked := a', loaded := l' } := by
  have hs : ∀ i ∈ [fp], i = fp := fun i hi => by rwa [List.mem_singleton] at hi
  obtain ⟨cap, hv⟩ := h.fin.vec
  exact h.trans ⟨{
    blk := hB
    vec := ⟨cap, hv.but hb (by simpa using h.fin.fn.1.symm) (by simpa using h.fin.fn.2.1.symm)⟩
    ch := h.fin.ch.but hb fun i hi => .inl (by simp [hs i hi])
    ix := h.fin.ix.but hb fun i hi => .inl (by simp [hs i hi])
    fn := h.fin.fn
    lt := fun b hb' => Nat.lt_of_lt_of_le (h.fin.lt b hb') hb.size }, hb.mono fun i hi _ => mem_mine.2 (by simp [hs i hi]), Grew.refl _ _⟩
/-- fewer blocks of others -/
theorem RFin.fewer (h : RFin w fp ip vp vq cp G F N) (hs : ∀ b ∈ F', b ∈ F) : RFin w fp ip vp vq cp G F' N where
  blk := h.blk
  vec := h.vec
  ch := h.ch.grew fun b hb => .inl (by
    simp only [List.mem_cons] at hb ⊢
    rcases hb with h1 | h1 | h1 | h1 | h1
    · simp [h1]
    · simp [h1]
    · simp [h1]
    · simp [h1]
    · simp [hs b h1])
  ix := h.ix.grew fun b hb => .inl (by
    simp only [List.mem_cons, List.mem_append] at hb ⊢
    rcases hb with h1 | h1 | h1 | h1 | h1
    · simp [h1]
    · simp [h1]
    · simp [h1]
    · simp [h1]
    · simp [hs b h1])
  fn := ⟨h.fn.1, h.fn.2.1, fun h1 => h.fn.2.2.1 (hs _ h1), fun h1 => h.fn.2.2.2.1 (hs _ h1), fun h1 => h.fn.2.2.2.2 (hs _ h1)⟩
  lt := fun b hb => h.lt b (hs b hb)
theorem RSt.fewer (h : RSt w0 M0 W fp ip vp vq cp G F N) (hs : ∀ b ∈ F', b ∈ F) : RSt w0 M0 W fp ip vp vq cp G F' N := ⟨h.fin.fewer hs, h.but, h.grew⟩
/-- a box of the walk's own is taken for a block of others -/
theorem RSt.box (h : RSt w0 M0 W fp ip vp vq cp G F N) (hb : Below W.heap.size W W') {b : Nat} (h1 : W.heap.size ≤ b) (h2 : b < W'.heap.size) : RSt w0 M0 W' fp ip vp vq cp G (b :: F) N :=
  ⟨h.fin.grew (But.of_below hb) (fun x hx => by
    rcases List.mem_cons.1 hx with rfl | hx
    · exact .inr h1
    · exact .inl hx) (fun x hx => by
    rcases List.mem_cons.1 hx with rfl | hx
    · exact h2
    · exact Nat.lt_of_lt_of_le (h.fin.lt x hx) hb.size), h.but.trans (But.of_below hb), h.grew⟩
/-- writes into blocks of others (boxes behind w0) -/
theorem RSt.side (h : RSt w0 M0 W fp ip vp vq cp G F N) (hb : But S W W') (hS : ∀ b ∈ S, w0.heap.size ≤ b ∧ b ∈ F) : RSt w0 M0 W' fp ip vp vq cp G F N :=
  ⟨h.fin.but hb fun b h1 => .inl (hS b h1).2, ⟨hb.os.trans h.but.os, hb.tape.trans h.but.tape, hb.output.trans h.but.output, Nat.le_trans h.but.size hb.size, fun i hi hn => (hb.block i (Nat.lt_of_lt_of_le hi h.but.size) fun hm => by have := (hS i hm).1; omega).trans (h.but.block i hi hn)⟩, h.grew⟩
theorem RSt.own (h : RSt w0 M0 W fp ip vp vq cp G F N) {b : Nat} (hb : b ∉ M0) (hl : b < w0.heap.size) : W.heap[b]? = w0.heap[b]? ∧ b ∉ mine fp ip vp vq G ∧ b < W.heap.size := by
  refine ⟨h.but.block b hl hb, fun hf => ?_, Nat.lt_of_lt_of_le hl h.but.size⟩
  rcases h.grew b hf with h1 | h1
  · exact hb h1
  · omega
end
end Go.Proofs.YtnfbchhbcinloaaGreat

/- The walk over the reference's forget. -/
namespace Go.Proofs.YtnfbchhbcinloaaGreat
open Go.RowKit Go.XR Go.IndexPure Go.CachePure Go.FindPure
def tForget (T : List TabE) (D : List RowT) (k : KeyT) : List TabE := match aget D k with
  | some v => delE T v.shelf
  | none => T
set_option maxHeartbeats 2000000 in
set_option maxRecDepth 100000 in
theorem rforget_any (w : World) (G F : List Nat) (fp ip vp vq cp : Nat) (N : RefT) (h : RFin w fp ip vp vq cp G F N) (D : List RowT) (hA : AllOf D N.R) (hD : (D.map (·.1)).Nodup) (hrng : ∀ k v, aget D k = some v → PlaceOk v) (hlen : N.R.length ≤ 2^20) (hT : N.T.length ≤ 2^20) (hnd : (N.T.map (·.sh)).Nodup) (k : KeyT) :
    Calls Tryz.prog 35 #[.pointer (some ⟨fp, 0, none⟩), keyV k] w fun e w' => e = .returned (.tuple #[]) ∧ ∃ G', RSt w (mine fp ip vp vq G) w' fp ip vp vq cp G' F { N with T := tForget N.T D k } := by
  obtain ⟨W0, hW0⟩ : ∃ W0, w.alloc (.cells (keyC k) 29) = W0 := ⟨_, rfl⟩
  have hb0 : Below w.heap.size w W0 := by rw [← hW0]; exact (Below.refl _ _).alloc (Nat.le_refl _) _
  have HK : Hid (At W0 w.heap.size 0 (keyC k)) := by unfold Hid; rw [← hW0]; exact At.new _ _ _
  have HF := Lib.hid (h.below hb0)
  have Hb0 := Lib.hid hb0
  have H0 := Lib.hid h
  have Hrng := Lib.hid hrng
  clear h hb0
  obtain ⟨kb, hkb⟩ : ∃ kb, w.heap.size = kb := ⟨_, rfl⟩
  rw [hkb] at HK
  have c0 := HF.out.blk.cell (i := 2) rfl
  have hpn := HF.out.blk.lt
  obtain ⟨v, hv⟩ : ∃ v, (aget D k).getD place0 = v := ⟨_, rfl⟩
  obtain ⟨is, his⟩ : ∃ b, (aget D k).isSome = b := ⟨_, rfl⟩
  have Hg : Hid (∀ W1, Below W0.heap.size W0 W1 → Calls Tryz.prog 47 #[.pointer (some ⟨ip, 0, none⟩), keyV k] W1 fun e w' => e = .returned (.tuple #[.agg #[.int .i64 v.shelf, .int .i64 v.slot], .bool is]) ∧ Below W1.heap.size W1 w') := fun W1 hb => by
    refine (refget_any W1 ip N.R _ D (HF.out.ix.below hb) hA hD hlen k).mono ?_
    rintro e w' ⟨rfl, h2⟩
    rw [hv, his]
    exact ⟨rfl, h2⟩
  have Hv2 := Lib.hid hv
  have His := Lib.hid his
  have hkn : kb < W0.heap.size := HK.out.lt (by rw [keyC_size]; omega)
  clear hv his
  go_enter Tryz.func35, Tryz.ntmps35
  go_wp2
  clear hW0 hkb
  have hS0 : Below W0.heap.size W0 W0.drew := (Below.refl _ _).drew
  refine Go.XR.region_fork ((Below W0.heap.size W0)) [(0, true), (1, true), (2, true), (3, true), (4, true)] 5 9 [(6, true), (7, true), (8, true), (9, false), (10, false), (11, false)] [(5, false), (6, true), (7, true), (8, true), (10, false), (11, false)] [11] Tryz.mixed (by kernel_rfl) (by kernel_rfl) (by kernel_rfl) ?_
  simp only [List.map_cons, List.map_nil, List.getElem?_cons_succ, List.getElem?_cons_zero]
  repeat (first | (refine Go.XR.S_light rfl rfl (by assumption) ?_ (fun w' hS K hK => ?_) (fun K hK => ?_); rotate_left 1; (have hS1 := bcell hS; (first | (refine Go.XR.wp_load_at 29 _ rfl kb 0 rfl (keyC k) (At.below HK.out (by rw [keyC_size]; omega) hS) _ Tryz.underlying29 rfl (keySize k) ?_) | go_step); exact hK); go_step; refine hK _ ?_; clear hK K))
  refine Go.XR.S_nil ?_
  refine Go.XR.Fork.both ?_ ?_
  · refine Go.XR.S_heavy (fun K hK => ?_)
    go_step
    ((with_reducible refine ((Hg.out W0.drew hS0)).mono ?_); rintro e w' ⟨rfl, hb1⟩)
    have hS1 : Below W0.heap.size W0 w' := hS0.trans (hb1.mono hS0.size)
    clear hb1 hS0
    refine hK _ _ ⟨fun _ => hS1, ?_⟩
    clear hK K
    repeat (first | (refine Go.XR.S_light rfl rfl (by assumption) ?_ (fun w' hS K hK => ?_) (fun K hK => ?_); rotate_left 1; (have hS1 := bcell hS; (first | (refine Go.XR.wp_load_at 29 _ rfl kb 0 rfl (keyC k) (At.below HK.out (by rw [keyC_size]; omega) hS) _ Tryz.underlying29 rfl (keySize k) ?_) | go_step); exact hK); go_step; refine hK _ ?_; clear hK K))
    generalize w' = W1 at *
    refine Go.XR.S_heavy (fun K hK => ?_)
    go_step
    have hS2 := hS1.alloc hS1.size (.cells #[.int .i64 0, .int .i64 0] 40)
    refine hK _ _ ⟨fun _ => hS2, ?_⟩
    clear hK K
    repeat (first | (refine Go.XR.S_light rfl rfl (by assumption) ?_ (fun w' hS K hK => ?_) (fun K hK => ?_); rotate_left 1; (have hS1 := bcell hS; (first | (refine Go.XR.wp_load_at 29 _ rfl kb 0 rfl (keyC k) (At.below HK.out (by rw [keyC_size]; omega) hS) _ Tryz.underlying29 rfl (keySize k) ?_) | go_step); exact hK); go_step; refine hK _ ?_; clear hK K))
    refine Go.XR.S_heavy (fun K hK => ?_)
    go_step
    obtain ⟨W3, hW3⟩ : ∃ W3, W1.alloc (.cells #[.int .i64 v.shelf, .int .i64 v.slot] 40) = W3 := ⟨_, rfl⟩
    have hS3 : Below W0.heap.size W0 W3 := by rw [← hW3]; exact hS1.alloc hS1.size _
    obtain ⟨pb, hpb⟩ : ∃ pb, W1.heap.size = pb := ⟨_, rfl⟩
    have HP3 : Hid (Blk W3 pb (placeL v)) := by unfold Hid; rw [← hW3, ← hpb]; exact Blk.new W1 (placeC v) _
    rw [hW3, hpb]
    clear hW3 hpb hS2
    refine hK _ _ ⟨fun _ => hS3, ?_⟩
    clear hK K
    repeat (first | (refine Go.XR.S_light rfl rfl (by assumption) ?_ (fun w' hS K hK => ?_) (fun K hK => ?_); rotate_left 1; (have hS1 := bcell hS; (first | (refine Go.XR.wp_load_at 29 _ rfl kb 0 rfl (keyC k) (At.below HK.out (by rw [keyC_size]; omega) hS) _ Tryz.underlying29 rfl (keySize k) ?_) | go_step); exact hK); go_step; refine hK _ ?_; clear hK K))
    repeat (first | (refine Go.XR.S_heavy (fun K hK => ?_); go_step; refine hK _ _ ⟨fun h => by simp at h, ?_⟩; clear hK K))
    refine Go.XR.S_nil ?_
    have Hb3 := Lib.hid hS3
    clear hS1 hS3 c0
    have HFp := Lib.hid (HF.out.below Hb3.out)
    have d0 : W3.cell? ⟨pb, 0, none⟩ = some (.int .i64 v.shelf) := HP3.out.cell (i := 0) rfl
    cases is with
    | false =>
      go_wp2
      go_end0
      have hn : aget D k = none := by
        cases h : aget D k with
        | none => rfl
        | some x => have := His.out; rw [h] at this; cases this
      have hcf : tForget N.T D k = N.T := by unfold tForget; rw [hn]
      refine ⟨rfl, G, ?_⟩
      rw [hcf]
      exact (RSt.refl H0.out).below (Hb0.out.trans (Hb3.out.mono Hb0.out.size))
    | true =>
      obtain ⟨x, hx⟩ := Option.isSome_iff_exists.1 His.out
      have hv : x = v := by have := Hv2.out; rw [hx] at this; exact this
      obtain rfl := hv
      have hxs := (Hrng.out k x hx).1
      have hcf : Hid (tForget N.T D k = delE N.T x.shelf) := by unfold Hid tForget; rw [hx]
      have Hcd := Lib.hid (rcdrop_any W3.drew cp N.room G N.T _ (HFp.out.ch.below (Below.refl _ _).drew) (fun i hi => HFp.out.listLt i hi) hT hnd x.shelf hxs)
      have c2 := HFp.out.blk.cell (i := 1) rfl
      clear hx
      go_wp2
      refine Go.XR.region_sched ((· = W3.drew)) [(0, true), (1, true), (2, true), (3, true), (4, true), (5, true), (6, false)] [6] Tryz.mixed (by kernel_rfl) (by kernel_rfl) (by kernel_rfl) ?_
      simp only [List.map_cons, List.map_nil, List.getElem?_cons_succ, List.getElem?_cons_zero]
      repeat (first | (refine Go.XR.S_light rfl rfl rfl ?_ (fun w' hS K hK => ?_) (fun K hK => ?_); rotate_left 1; (cases hS; (first | (refine Go.XR.wp_load_at 29 _ rfl kb 0 rfl (keyC k) (At.below HK.out (by rw [keyC_size]; omega) hS) _ Tryz.underlying29 rfl (keySize k) ?_) | go_step); exact hK); go_step; refine hK _ ?_; clear hK K))
      refine Go.XR.S_heavy (fun K hK => ?_)
      go_step
      ((with_reducible refine (Hcd.out).mono ?_); rintro e w' ⟨⟨is, rfl⟩, G1, hC1, hb1, hg1⟩)
      have Hend : Hid (RSt w (mine fp ip vp vq G) w' fp ip vp vq cp G1 F { N with T := tForget N.T D k }) := by
        unfold Hid
        rw [hcf.out]
        exact ((RSt.refl H0.out).below (Hb0.out.trans (Hb3.out.drew.mono Hb0.out.size))).ch hC1 hb1 hg1
      clear hC1 hb1 hg1 c2 d0
      refine hK _ _ ⟨fun h => by simp at h, ?_⟩
      clear hK K
      repeat (first | (refine Go.XR.S_light rfl rfl rfl ?_ (fun w' hS K hK => ?_) (fun K hK => ?_); rotate_left 1; (cases hS; (first | (refine Go.XR.wp_load_at 29 _ rfl kb 0 rfl (keyC k) (At.below HK.out (by rw [keyC_size]; omega) hS) _ Tryz.underlying29 rfl (keySize k) ?_) | go_step); exact hK); go_step; refine hK _ ?_; clear hK K))
      repeat (first | (refine Go.XR.S_heavy (fun K hK => ?_); go_step; refine hK _ _ ⟨fun h => by simp at h, ?_⟩; clear hK K))
      refine Go.XR.S_nil ?_
      go_wp2
      go_end0
      exact ⟨rfl, G1, Hend.out⟩
  · refine Go.XR.S_heavy (fun K hK => ?_)
    go_step
    obtain ⟨W1, hW1⟩ : ∃ W1, (W0.alloc (.cells #[.int .i64 0, .int .i64 0] 40)).drew = W1 := ⟨_, rfl⟩
    have hS1 : Below W0.heap.size W0 W1 := by rw [← hW1]; exact ((Below.refl _ _).alloc (Nat.le_refl _) _).drew
    have HP1 : Hid (Blk W1 W0.heap.size [.int .i64 0, .int .i64 0]) := by unfold Hid; rw [← hW1]; exact Blk.new W0 #[.int .i64 0, .int .i64 0] _
    rw [hW1]
    refine hK _ _ ⟨fun _ => hS1, ?_⟩
    clear hK K
    repeat (first | (refine Go.XR.S_light rfl rfl (by assumption) ?_ (fun w' hS K hK => ?_) (fun K hK => ?_); rotate_left 1; (have hS1 := bcell hS; (first | (refine Go.XR.wp_load_at 29 _ rfl kb 0 rfl (keyC k) (At.below HK.out (by rw [keyC_size]; omega) hS) _ Tryz.underlying29 rfl (keySize k) ?_) | go_step); exact hK); go_step; refine hK _ ?_; clear hK K))
    clear hW1 hS0
    refine Go.XR.S_heavy (fun K hK => ?_)
    go_step
    ((with_reducible refine ((Hg.out W1 hS1)).mono ?_); rintro e w' ⟨rfl, hb1⟩)
    have HP2 := Lib.hid (HP1.out.below hb1)
    have hS2 : Below W0.heap.size W0 w' := hS1.trans (hb1.mono hS1.size)
    have f0 := HP2.out.free 0
    have f1 := HP2.out.free 1
    have e0 := HP2.out.cell (i := 0) rfl
    have e1 := HP2.out.cell (i := 1) rfl
    clear hb1
    refine hK _ _ ⟨fun _ => hS2, ?_⟩
    clear hK K
    repeat (first | (refine Go.XR.S_light rfl rfl (by assumption) ?_ (fun w' hS K hK => ?_) (fun K hK => ?_); rotate_left 1; (have hS1 := bcell hS; (first | (refine Go.XR.wp_load_at 29 _ rfl kb 0 rfl (keyC k) (At.below HK.out (by rw [keyC_size]; omega) hS) _ Tryz.underlying29 rfl (keySize k) ?_) | go_step); exact hK); go_step; refine hK _ ?_; clear hK K))
    generalize w' = W2 at *
    refine Go.XR.S_heavy (fun K hK => ?_)
    go_step
    obtain ⟨W3, hW3⟩ : ∃ W3, (W2.setCell ⟨W0.heap.size, 0, none⟩ (.int .i64 v.shelf)).setCell ⟨W0.heap.size, 1, none⟩ (.int .i64 v.slot) = W3 := ⟨_, rfl⟩
    have hS3 : Below W0.heap.size W0 W3 := by
      rw [← hW3]
      exact hS2.trans ((((But.refl [W0.heap.size] W2).setCell (.inl (by simp)) _).setCell (.inl (by simp)) _).below hS2.size (by simp))
    obtain ⟨pb, hpb⟩ : ∃ pb, W0.heap.size = pb := ⟨_, rfl⟩
    have HP3 : Hid (Blk W3 pb (placeL v)) := by unfold Hid; rw [← hW3, ← hpb]; exact (HP2.out.set 0 (.int .i64 v.shelf)).set 1 (.int .i64 v.slot)
    have Hb3 := Lib.hid hS3
    rw [hW3]
    refine hK _ _ ⟨fun _ => hS3, ?_⟩
    clear hK K
    repeat (first | (refine Go.XR.S_light rfl rfl (by assumption) ?_ (fun w' hS K hK => ?_) (fun K hK => ?_); rotate_left 1; (have hS1 := bcell hS; (first | (refine Go.XR.wp_load_at 29 _ rfl kb 0 rfl (keyC k) (At.below HK.out (by rw [keyC_size]; omega) hS) _ Tryz.underlying29 rfl (keySize k) ?_) | go_step); exact hK); go_step; refine hK _ ?_; clear hK K))
    rw [hpb]
    clear hW3 hpb f0 f1 e0 e1 HP1 HP2 hS1 hS2 hS3
    repeat (first | (refine Go.XR.S_heavy (fun K hK => ?_); go_step; refine hK _ _ ⟨fun h => by simp at h, ?_⟩; clear hK K))
    refine Go.XR.S_nil ?_
    clear c0
    have HFp := Lib.hid (HF.out.below Hb3.out)
    have d0 : W3.cell? ⟨pb, 0, none⟩ = some (.int .i64 v.shelf) := HP3.out.cell (i := 0) rfl
    cases is with
    | false =>
      go_wp2
      go_end0
      have hn : aget D k = none := by
        cases h : aget D k with
        | none => rfl
        | some x => have := His.out; rw [h] at this; cases this
      have hcf : tForget N.T D k = N.T := by unfold tForget; rw [hn]
      refine ⟨rfl, G, ?_⟩
      rw [hcf]
      exact (RSt.refl H0.out).below (Hb0.out.trans (Hb3.out.mono Hb0.out.size))
    | true =>
      obtain ⟨x, hx⟩ := Option.isSome_iff_exists.1 His.out
      have hv : x = v := by have := Hv2.out; rw [hx] at this; exact this
      obtain rfl := hv
      have hxs := (Hrng.out k x hx).1
      have hcf : Hid (tForget N.T D k = delE N.T x.shelf) := by unfold Hid tForget; rw [hx]
      have Hcd := Lib.hid (rcdrop_any W3.drew cp N.room G N.T _ (HFp.out.ch.below (Below.refl _ _).drew) (fun i hi => HFp.out.listLt i hi) hT hnd x.shelf hxs)
      have c2 := HFp.out.blk.cell (i := 1) rfl
      clear hx
      go_wp2
      refine Go.XR.region_sched ((· = W3.drew)) [(0, true), (1, true), (2, true), (3, true), (4, true), (5, true), (6, false)] [6] Tryz.mixed (by kernel_rfl) (by kernel_rfl) (by kernel_rfl) ?_
      simp only [List.map_cons, List.map_nil, List.getElem?_cons_succ, List.getElem?_cons_zero]
      repeat (first | (refine Go.XR.S_light rfl rfl rfl ?_ (fun w' hS K hK => ?_) (fun K hK => ?_); rotate_left 1; (cases hS; (first | (refine Go.XR.wp_load_at 29 _ rfl kb 0 rfl (keyC k) (At.below HK.out (by rw [keyC_size]; omega) hS) _ Tryz.underlying29 rfl (keySize k) ?_) | go_step); exact hK); go_step; refine hK _ ?_; clear hK K))
      refine Go.XR.S_heavy (fun K hK => ?_)
      go_step
      ((with_reducible refine (Hcd.out).mono ?_); rintro e w' ⟨⟨is, rfl⟩, G1, hC1, hb1, hg1⟩)
      have Hend : Hid (RSt w (mine fp ip vp vq G) w' fp ip vp vq cp G1 F { N with T := tForget N.T D k }) := by
        unfold Hid
        rw [hcf.out]
        exact ((RSt.refl H0.out).below (Hb0.out.trans (Hb3.out.drew.mono Hb0.out.size))).ch hC1 hb1 hg1
      clear hC1 hb1 hg1 c2 d0
      refine hK _ _ ⟨fun h => by simp at h, ?_⟩
      clear hK K
      repeat (first | (refine Go.XR.S_light rfl rfl rfl ?_ (fun w' hS K hK => ?_) (fun K hK => ?_); rotate_left 1; (cases hS; (first | (refine Go.XR.wp_load_at 29 _ rfl kb 0 rfl (keyC k) (At.below HK.out (by rw [keyC_size]; omega) hS) _ Tryz.underlying29 rfl (keySize k) ?_) | go_step); exact hK); go_step; refine hK _ ?_; clear hK K))
      repeat (first | (refine Go.XR.S_heavy (fun K hK => ?_); go_step; refine hK _ _ ⟨fun h => by simp at h, ?_⟩; clear hK K))
      refine Go.XR.S_nil ?_
      go_wp2
      go_end0
      exact ⟨rfl, G1, Hend.out⟩
end Go.Proofs.YtnfbchhbcinloaaGreat

/- The walks over the reference's Put and Drop. -/
namespace Go.Proofs.YtnfbchhbcinloaaGreat
open Go.RowKit Go.XR Go.IndexPure Go.CachePure Go.FindPure
theorem tForget_len (T : List TabE) (D : List RowT) (k : KeyT) : (tForget T D k).length ≤ T.length := by
  unfold tForget
  split
  · exact List.length_filter_le _ _
  · exact Nat.le_refl _
theorem tForget_sub (T : List TabE) (D : List RowT) (k : KeyT) : (tForget T D k).Sublist T := by
  unfold tForget
  split
  · exact List.filter_sublist
  · exact List.Sublist.refl _
theorem tForget_nodup {T : List TabE} (h : (T.map (·.sh)).Nodup) (D : List RowT) (k : KeyT) : ((tForget T D k).map (·.sh)).Nodup := h.sublist ((tForget_sub T D k).map _)
/-- what Put makes of the reference's finder -/
structure RPutOk (N : RefT) (D : List RowT) (k : KeyT) (v : PlaceT) (N' : RefT) : Prop where
  probes : N'.probes = N.probes
  room : N'.room = N.room
  asked : N'.asked = N.asked
  loaded : N'.loaded = N.loaded
  T : N'.T = delE (tForget N.T D k) v.shelf
  R : ∃ i, LowK N.R k i ∧ N'.R = N.R.take i ++ (k, v) :: N.R.drop (behind N.R k i)
  len : N'.B.length = N.B.length
  bits : ∀ i, i < N.B.length → bg N'.B i = (bg N.B i || decide (i ∈ places N.B.length N.probes k))
set_option maxHeartbeats 2000000 in
set_option maxRecDepth 100000 in
theorem rfput_any (w : World) (G F : List Nat) (fp ip vp vq cp : Nat) (N : RefT) (h : RFin w fp ip vp vq cp G F N) (D : List RowT) (hA : AllOf D N.R) (hD : (D.map (·.1)).Nodup) (hrng : ∀ k v, aget D k = some v → PlaceOk v) (hlen : N.R.length ≤ 2^20) (hT : N.T.length ≤ 2^20) (hnd : (N.T.map (·.sh)).Nodup) (k : KeyT) (v : PlaceT) (hv : PlaceOk v) :
    Calls Tryz.prog 9 #[.pointer (some ⟨fp, 0, none⟩), keyV k, placeV v] w fun e w' => e = .returned (.tuple #[]) ∧ ∃ G' N', RPutOk N D k v N' ∧ RSt w (mine fp ip vp vq G) w' fp ip vp vq cp G' F N' := by
  obtain ⟨W0, hW0⟩ : ∃ W0, (w.alloc (.cells (keyC k) 29)).alloc (.cells (placeC v) 40) = W0 := ⟨_, rfl⟩
  have hb0 : Below w.heap.size w W0 := by rw [← hW0]; exact ((Below.refl _ _).alloc (Nat.le_refl _) _).alloc (by simp) _
  have HK : Hid (At W0 w.heap.size 0 (keyC k)) := by unfold Hid; rw [← hW0]; exact (At.new _ _ _).alloc _
  have HP : Hid (Blk W0 (w.heap.size + 1) (placeL v)) := by
    unfold Hid; rw [← hW0]
    have h := Blk.new (w.alloc (.cells (keyC k) 29)) (placeC v) 40
    rwa [show (w.alloc (.cells (keyC k) 29)).heap.size = w.heap.size + 1 by simp] at h
  have HF := Lib.hid (h.below hb0)
  have H0 : Hid (RSt w (mine fp ip vp vq G) W0 fp ip vp vq cp G F N) := (RSt.refl h).below hb0
  have hml := h.mineLt
  have hk1 : w.heap.size ∉ mine fp ip vp vq G := fun h1 => by have := hml _ h1; omega
  have hk2 : w.heap.size + 1 ∉ mine fp ip vp vq G := fun h1 => by have := hml _ h1; omega
  clear h hb0 hml
  obtain ⟨kb, hkb⟩ : ∃ kb, w.heap.size = kb := ⟨_, rfl⟩
  obtain ⟨pb, hpb⟩ : ∃ pb, kb + 1 = pb := ⟨_, rfl⟩
  rw [hkb] at HK HP hk1 hk2
  rw [hpb] at HP hk2
  have Hk1 := Lib.hid hk1
  have Hk2 := Lib.hid hk2
  clear hk1 hk2
  go_enter Tryz.func9, Tryz.ntmps9
  go_wp2_with (first | (refine wpList_load_at rfl 29 (.tmp 4) rfl kb 0 (by kernel_rfl) (keyC k) HK.out _ Tryz.underlying29 rfl (keySize _) ?_) | fail)
  clear hW0 hkb hpb
  refine (rforget_any W0 G F fp ip vp vq cp N HF.out D hA hD hrng hlen hT hnd k).mono ?_
  rintro e w1 ⟨rfl, G1, hs1⟩
  have HS1 := Lib.hid (H0.out.trans hs1)
  have HK1 := Lib.hid (HK.out.but hs1.but Hk1.out)
  have HP1 := Lib.hid (HP.out.but hs1.but Hk2.out)
  have Hm1 : Hid (∀ b ∈ mine fp ip vp vq G1, b ≠ kb ∧ b ≠ pb) := fun b hb => by
    have hkl := HK.out.lt (by rw [keyC_size]; omega)
    have hpl := HP.out.lt
    refine ⟨fun e => ?_, fun e => ?_⟩
    · rcases hs1.grew b hb with h1 | h1
      · rw [e] at h1; exact Hk1.out h1
      · omega
    · rcases hs1.grew b hb with h1 | h1
      · rw [e] at h1; exact Hk2.out h1
      · omega
  clear hs1 HK HP HF H0
  have c2 := HS1.out.fin.blk.cell (i := 2) rfl
  have Hcall := Lib.hid (refput_any w1.drew ip N.R _ (HS1.out.fin.ix.below (Below.refl _ _).drew) (fun i hi => HS1.out.fin.ixLt i hi) hA.2 hlen k v)
  go_wp2
  refine Go.XR.region_sched ((· = w1.drew)) [(0, true), (1, true), (2, true), (3, true), (4, true), (5, true), (6, false)] [6] Tryz.mixed (by kernel_rfl) (by kernel_rfl) (by kernel_rfl) ?_
  simp only [List.map_cons, List.map_nil, List.getElem?_cons_succ, List.getElem?_cons_zero]
  repeat (first | (refine Go.XR.S_light rfl rfl rfl ?_ (fun w' hS K hK => ?_) (fun K hK => ?_); rotate_left 1; (cases hS; (first | (first | (refine Go.XR.wp_load_at 29 (.tmp 4) rfl kb 0 rfl (keyC k) (At.drew HK1.out) _ Tryz.underlying29 rfl (keySize k) ?_) | (refine Go.XR.wp_load_at 40 (.tmp 5) rfl pb 0 rfl (placeC v) (At.drew HP1.out.toAt) _ Tryz.underlying40 rfl (placeSize v) ?_)) | go_step); exact hK); go_step; refine hK _ ?_; clear hK K))
  refine Go.XR.S_heavy (fun K hK => ?_)
  go_step
  ((with_reducible refine (Hcall.out).mono ?_); rintro e w' ⟨i, hL, rfl, hx2, hb2⟩)
  have Hb2 : Hid (But [ip] w1 w') := (But.refl _ _).drew.trans hb2
  have HS2 := Lib.hid (HS1.out.ix hx2 Hb2.out)
  have HL := Lib.hid hL
  have HK2 := Lib.hid (HK1.out.but Hb2.out (by simpa using fun e => (Hm1.out ip (mem_mine.2 (by simp))).1 e.symm))
  have HP2 := Lib.hid (HP1.out.but Hb2.out (by simpa using fun e => (Hm1.out ip (mem_mine.2 (by simp))).2 e.symm))
  clear hx2 hb2 hL c2 Hcall HK1 HP1
  refine hK _ _ ⟨fun h => by simp at h, ?_⟩
  clear hK K
  repeat (first | (refine Go.XR.S_light rfl rfl rfl ?_ (fun w' hS K hK => ?_) (fun K hK => ?_); rotate_left 1; (cases hS; (first | (first | (refine Go.XR.wp_load_at 29 (.tmp 4) rfl kb 0 rfl (keyC k) (At.drew HK1.out) _ Tryz.underlying29 rfl (keySize k) ?_) | (refine Go.XR.wp_load_at 40 (.tmp 5) rfl pb 0 rfl (placeC v) (At.drew HP1.out.toAt) _ Tryz.underlying40 rfl (placeSize v) ?_)) | go_step); exact hK); go_step; refine hK _ ?_; clear hK K))
  repeat (first | (refine Go.XR.S_heavy (fun K hK => ?_); go_step; refine hK _ _ ⟨fun h => by simp at h, ?_⟩; clear hK K))
  refine Go.XR.S_nil ?_
  generalize w' = w2 at *
  clear HS1 Hb2
  obtain ⟨vcap, hvec⟩ := HS2.out.fin.vec
  have c0 := HS2.out.fin.blk.cell (i := 0) rfl
  have Hcall := Lib.hid (radd_any w2.drew vp vq vcap N.probes N.B (hvec.below (Below.refl _ _).drew) k)
  clear hvec
  go_wp2
  refine Go.XR.region_sched ((· = w2.drew)) [(0, true), (1, true), (2, true), (3, true), (4, true), (5, false)] [5] Tryz.mixed (by kernel_rfl) (by kernel_rfl) (by kernel_rfl) ?_
  simp only [List.map_cons, List.map_nil, List.getElem?_cons_succ, List.getElem?_cons_zero]
  repeat (first | (refine Go.XR.S_light rfl rfl rfl ?_ (fun w' hS K hK => ?_) (fun K hK => ?_); rotate_left 1; (cases hS; (first | (first | (refine Go.XR.wp_load_at 29 (.tmp 4) rfl kb 0 rfl (keyC k) (At.drew HK2.out) _ Tryz.underlying29 rfl (keySize k) ?_)) | go_step); exact hK); go_step; refine hK _ ?_; clear hK K))
  refine Go.XR.S_heavy (fun K hK => ?_)
  go_step
  ((with_reducible refine (Hcall.out).mono ?_); rintro e w' ⟨rfl, B', hBl, hBb, hv3, hb3⟩)
  have Hb3 : Hid (But [vq] w2 w') := (But.refl _ _).drew.trans hb3
  have HS3 := Lib.hid (HS2.out.vec hv3 Hb3.out)
  have HP3 := Lib.hid (HP2.out.but Hb3.out (by simpa using fun e => (Hm1.out vq (mem_mine.2 (by simp))).2 e.symm))
  have HBl := Lib.hid hBl
  have HBb := Lib.hid hBb
  clear hBl hBb hv3 hb3 c0 Hcall HK2 HP2
  refine hK _ _ ⟨fun h => by simp at h, ?_⟩
  clear hK K
  repeat (first | (refine Go.XR.S_light rfl rfl rfl ?_ (fun w' hS K hK => ?_) (fun K hK => ?_); rotate_left 1; (cases hS; (first | (first | (refine Go.XR.wp_load_at 29 (.tmp 4) rfl kb 0 rfl (keyC k) (At.drew HK2.out) _ Tryz.underlying29 rfl (keySize k) ?_)) | go_step); exact hK); go_step; refine hK _ ?_; clear hK K))
  repeat (first | (refine Go.XR.S_heavy (fun K hK => ?_); go_step; refine hK _ _ ⟨fun h => by simp at h, ?_⟩; clear hK K))
  refine Go.XR.S_nil ?_
  generalize w' = w3 at *
  clear HS2 Hb3
  have c1 := HS3.out.fin.blk.cell (i := 1) rfl
  have d0 : w3.cell? ⟨pb, 0, none⟩ = some (.int .i64 v.shelf) := HP3.out.cell (i := 0) rfl
  have Hcall := Lib.hid (rcdrop_any w3.drew cp N.room G1 (tForget N.T D k) _ (HS3.out.fin.ch.below (Below.refl _ _).drew) (fun i hi => HS3.out.fin.listLt i hi) (Nat.le_trans (tForget_len _ _ _) hT) (tForget_nodup hnd D k) v.shelf hv.1)
  go_wp2
  refine Go.XR.region_sched ((· = w3.drew)) [(0, true), (1, true), (2, true), (3, true), (4, true), (5, true), (6, false)] [6] Tryz.mixed (by kernel_rfl) (by kernel_rfl) (by kernel_rfl) ?_
  simp only [List.map_cons, List.map_nil, List.getElem?_cons_succ, List.getElem?_cons_zero]
  repeat (first | (refine Go.XR.S_light rfl rfl rfl ?_ (fun w' hS K hK => ?_) (fun K hK => ?_); rotate_left 1; (cases hS; go_step; exact hK); go_step; refine hK _ ?_; clear hK K))
  refine Go.XR.S_heavy (fun K hK => ?_)
  go_step
  ((with_reducible refine (Hcall.out).mono ?_); rintro e w' ⟨⟨is, rfl⟩, G4, hC4, hb4, hg4⟩)
  have HS4 := Lib.hid ((HS3.out.below (Below.refl _ _).drew).ch hC4 hb4 hg4)
  clear hC4 hb4 hg4 c1 d0 Hcall HP3
  refine hK _ _ ⟨fun h => by simp at h, ?_⟩
  clear hK K
  repeat (first | (refine Go.XR.S_light rfl rfl rfl ?_ (fun w' hS K hK => ?_) (fun K hK => ?_); rotate_left 1; (cases hS; go_step; exact hK); go_step; refine hK _ ?_; clear hK K))
  repeat (first | (refine Go.XR.S_heavy (fun K hK => ?_); go_step; refine hK _ _ ⟨fun h => by simp at h, ?_⟩; clear hK K))
  refine Go.XR.S_nil ?_
  go_wp2
  go_end0
  exact ⟨rfl, G4, { N with T := delE (tForget N.T D k) v.shelf, R := N.R.take i ++ (k, v) :: N.R.drop (behind N.R k i), B := B' }, ⟨rfl, rfl, rfl, rfl, rfl, ⟨i, HL.out, rfl⟩, HBl.out, HBb.out⟩, HS4.out⟩
/-- what Drop makes of the reference's finder -/
structure RDropOk (N : RefT) (D : List RowT) (k : KeyT) (N' : RefT) : Prop where
  same : N'.probes = N.probes ∧ N'.room = N.room ∧ N'.asked = N.asked ∧ N'.loaded = N.loaded ∧ N'.B = N.B
  T : N'.T = tForget N.T D k
  R : ∃ i, LowK N.R k i ∧ N'.R = if k ∈ N.R.map (·.1) then N.R.take i ++ N.R.drop (behind N.R k i) else N.R
set_option maxHeartbeats 2000000 in
set_option maxRecDepth 100000 in
theorem rfdrop_any (w : World) (G F : List Nat) (fp ip vp vq cp : Nat) (N : RefT) (h : RFin w fp ip vp vq cp G F N) (D : List RowT) (hA : AllOf D N.R) (hD : (D.map (·.1)).Nodup) (hrng : ∀ k v, aget D k = some v → PlaceOk v) (hlen : N.R.length ≤ 2^20) (hT : N.T.length ≤ 2^20) (hnd : (N.T.map (·.sh)).Nodup) (k : KeyT) :
    Calls Tryz.prog 11 #[.pointer (some ⟨fp, 0, none⟩), keyV k] w fun e w' => e = .returned (.bool (decide (k ∈ N.R.map (·.1)))) ∧ ∃ G' N', RDropOk N D k N' ∧ RSt w (mine fp ip vp vq G) w' fp ip vp vq cp G' F N' := by
  obtain ⟨W0, hW0⟩ : ∃ W0, w.alloc (.cells (keyC k) 29) = W0 := ⟨_, rfl⟩
  have hb0 : Below w.heap.size w W0 := by rw [← hW0]; exact (Below.refl _ _).alloc (Nat.le_refl _) _
  have HK : Hid (At W0 w.heap.size 0 (keyC k)) := by unfold Hid; rw [← hW0]; exact At.new _ _ _
  have HF := Lib.hid (h.below hb0)
  have H0 : Hid (RSt w (mine fp ip vp vq G) W0 fp ip vp vq cp G F N) := (RSt.refl h).below hb0
  have hml := h.mineLt
  have hk1 : w.heap.size ∉ mine fp ip vp vq G := fun h1 => by have := hml _ h1; omega
  clear h hb0 hml
  obtain ⟨kb, hkb⟩ : ∃ kb, w.heap.size = kb := ⟨_, rfl⟩
  rw [hkb] at HK hk1
  have Hk1 := Lib.hid hk1
  clear hk1
  go_enter Tryz.func11, Tryz.ntmps11
  go_wp2_with (first | (refine wpList_load_at rfl 29 (.tmp 3) rfl kb 0 (by kernel_rfl) (keyC k) HK.out _ Tryz.underlying29 rfl (keySize _) ?_) | fail)
  clear hW0 hkb
  refine (rforget_any W0 G F fp ip vp vq cp N HF.out D hA hD hrng hlen hT hnd k).mono ?_
  rintro e w1 ⟨rfl, G1, hs1⟩
  have HS1 := Lib.hid (H0.out.trans hs1)
  have HK1 := Lib.hid (HK.out.but hs1.but Hk1.out)
  clear hs1 HK HF H0
  have c2 := HS1.out.fin.blk.cell (i := 2) rfl
  have Hcall := Lib.hid (refdrop_any w1.drew ip N.R _ (HS1.out.fin.ix.below (Below.refl _ _).drew) (fun i hi => HS1.out.fin.ixLt i hi) hA.2 hlen k)
  go_wp2
  refine Go.XR.region_sched ((· = w1.drew)) [(0, true), (1, true), (2, true), (3, true), (4, true), (5, false), (6, false)] [5, 6] Tryz.mixed (by kernel_rfl) (by kernel_rfl) (by kernel_rfl) ?_
  simp only [List.map_cons, List.map_nil, List.getElem?_cons_succ, List.getElem?_cons_zero]
  repeat (first | (refine Go.XR.S_light rfl rfl rfl ?_ (fun w' hS K hK => ?_) (fun K hK => ?_); rotate_left 1; (cases hS; (first | (first | (refine Go.XR.wp_load_at 29 (.tmp 3) rfl kb 0 rfl (keyC k) (At.drew HK1.out) _ Tryz.underlying29 rfl (keySize k) ?_)) | go_step); exact hK); go_step; refine hK _ ?_; clear hK K))
  refine Go.XR.S_heavy (fun K hK => ?_)
  go_step
  ((with_reducible refine (Hcall.out).mono ?_); rintro e w' ⟨rfl, i, hL, hx2, hb2⟩)
  have Hb2 : Hid (But [ip] w1 w') := (But.refl _ _).drew.trans hb2
  have HS2 := Lib.hid (HS1.out.ix hx2 Hb2.out)
  have HL := Lib.hid hL
  clear hx2 hb2 hL c2 Hcall HK1
  refine hK _ _ ⟨fun h => by simp at h, ?_⟩
  clear hK K
  repeat (first | (refine Go.XR.S_light rfl rfl rfl ?_ (fun w' hS K hK => ?_) (fun K hK => ?_); rotate_left 1; (cases hS; (first | (first | (refine Go.XR.wp_load_at 29 (.tmp 3) rfl kb 0 rfl (keyC k) (At.drew HK1.out) _ Tryz.underlying29 rfl (keySize k) ?_)) | go_step); exact hK); go_step; refine hK _ ?_; clear hK K))
  repeat (first | (refine Go.XR.S_heavy (fun K hK => ?_); go_step; refine hK _ _ ⟨fun h => by simp at h, ?_⟩; clear hK K))
  refine Go.XR.S_nil ?_
  generalize w' = w2 at *
  clear HS1 Hb2
  go_wp2
  go_ret
  exact ⟨rfl, G1, { N with T := tForget N.T D k, R := if k ∈ N.R.map (·.1) then N.R.take i ++ N.R.drop (behind N.R k i) else N.R }, ⟨⟨rfl, rfl, rfl, rfl, rfl⟩, rfl, ⟨i, HL.out, rfl⟩⟩, HS2.out⟩
end Go.Proofs.YtnfbchhbcinloaaGreat

/- The walk over the reference's Find. -/
namespace Go.Proofs.YtnfbchhbcinloaaGreat
open Go.RowKit Go.XR Go.IndexPure Go.CachePure Go.FindPure
/-- what the reference's Find tells, and what the finder is then -/
def RFindOk (N : RefT) (D : List RowT) (k : KeyT) (draw : Nat) (o : Option PlaceT) (N' : RefT) : Prop :=
  if (places N.B.length N.probes k).all (bg N.B) = true then
    match tabGet N.T k with
    | some v => o = some v ∧ N' = N
    | none => match aget D k with
      | none => o = none ∧ N' = { N with asked := N.asked + 1 }
      | some v => o = some v ∧ ∃ L T', ShelfOf D v.shelf L ∧ LoadE N.room N.T v.shelf L draw T' ∧ N' = { N with asked := N.asked + 1, loaded := N.loaded + 1, T := T' }
  else o = none ∧ N' = N
def RetRFind (w : World) (fp ip vp vq cp : Nat) (G F : List Nat) (N : RefT) (D : List RowT) (k : KeyT) (draw : Nat) (e : Ending) (w' : World) : Prop :=
  ∃ o N' G', RFindOk N D k draw o N' ∧ e = .returned (.tuple #[placeV (o.getD place0), .bool o.isSome]) ∧ RSt w (mine fp ip vp vq G) w' fp ip vp vq cp G' F N'
set_option maxHeartbeats 4000000 in
set_option maxRecDepth 100000 in
theorem rffind_any (w : World) (G F : List Nat) (fp ip vp vq cp : Nat) (N : RefT) (h : RFin w fp ip vp vq cp G F N) (D : List RowT) (hA : AllOf D N.R) (hD : (D.map (·.1)).Nodup) (hrng : ∀ k v, aget D k = some v → PlaceOk v) (hlen : N.R.length ≤ 2^20) (hroom : N.room ≤ 4096) (hT : N.T.length ≤ N.room) (hask : N.asked < 2^40) (hload : N.loaded < 2^40) (k : KeyT) (draw : Nat) (hd : draw < 18446744073709551616) :
    Calls Tryz.prog 13 #[.pointer (some ⟨fp, 0, none⟩), keyV k, .int .u64 draw] w (RetRFind w fp ip vp vq cp G F N D k draw) := by
  obtain ⟨W0, hW0⟩ : ∃ W0, (w.alloc (.cells (keyC k) 29)).alloc (.cells #[.int .i64 0, .int .i64 0] 40) = W0 := ⟨_, rfl⟩
  have hb0 : Below w.heap.size w W0 := by rw [← hW0]; exact ((Below.refl _ _).alloc (Nat.le_refl _) _).alloc (by simp) _
  have hs0 : W0.heap.size = w.heap.size + 2 := by rw [← hW0]; simp
  have HK : Hid (At W0 w.heap.size 0 (keyC k)) := by unfold Hid; rw [← hW0]; exact (At.new _ _ _).alloc _
  have HR : Hid (Blk W0 (w.heap.size + 1) [.int .i64 0, .int .i64 0]) := by
    unfold Hid; rw [← hW0]
    have h := Blk.new (w.alloc (.cells (keyC k) 29)) #[.int .i64 0, .int .i64 0] 40
    rwa [show (w.alloc (.cells (keyC k) 29)).heap.size = w.heap.size + 1 by simp] at h
  have hml := h.mineLt
  have hko : w.heap.size ∉ mine fp ip vp vq G := fun hm => by have := hml _ hm; omega
  have hro : w.heap.size + 1 ∉ mine fp ip vp vq G := fun hm => by have := hml _ hm; omega
  have HW : Hid (RSt w (mine fp ip vp vq G) W0 fp ip vp vq cp G (w.heap.size :: (w.heap.size + 1) :: F) N) := by
    have h1 := h.grew (F' := w.heap.size :: (w.heap.size + 1) :: F) (But.of_below hb0) (fun b hb => by
      simp only [List.mem_cons] at hb
      rcases hb with h1 | h1 | h1
      · exact .inr (by omega)
      · exact .inr (by omega)
      · exact .inl h1) (fun b hb => by
      simp only [List.mem_cons] at hb
      rcases hb with h1 | h1 | h1
      · omega
      · omega
      · have := h.lt b h1; omega)
    exact ⟨h1, But.of_below hb0, Grew.refl _ _⟩
  clear h hb0 hml
  obtain ⟨kb, hkb⟩ : ∃ kb, w.heap.size = kb := ⟨_, rfl⟩
  have Hkb := Lib.hid hkb
  obtain ⟨rb, hrb⟩ : ∃ rb, kb + 1 = rb := ⟨_, rfl⟩
  rw [hkb] at HK HR hko hro HW
  rw [hrb] at hro HR HW
  have H0 := Lib.hid (RSt.refl HW.out.fin)
  have hkn : kb < W0.heap.size := HK.out.lt (by rw [keyC_size]; omega)
  have Hro : Hid (w.heap.size ≤ rb) := by unfold Hid; omega
  have Hko : Hid (kb ∉ mine fp ip vp vq G ∧ kb < W0.heap.size) := ⟨hko, hkn⟩
  have Hrl : Hid (rb ∉ mine fp ip vp vq G ∧ rb < W0.heap.size) := ⟨hro, HR.out.lt⟩
  have c1 := H0.out.fin.blk.cell (i := 0) rfl
  have hpn := H0.out.fin.blk.lt
  obtain ⟨vcap, hvec⟩ := H0.out.fin.vec
  have Hmy := Lib.hid (rmay_any W0.drew vp vq vcap N.probes N.B (hvec.but (But.refl [] W0).drew (by simp) (by simp)) k)
  clear hvec hko hro hs0
  go_enter Tryz.func13, Tryz.ntmps13
  go_wp2
  clear hW0 hkb hrb
  refine Go.XR.region_sched ((· = W0.drew)) [(0, true), (1, true), (2, true), (3, true), (4, true), (5, false), (6, false)] [5, 6] Tryz.mixed (by kernel_rfl) (by kernel_rfl) (by kernel_rfl) ?_
  simp only [List.map_cons, List.map_nil, List.getElem?_cons_succ, List.getElem?_cons_zero]
  repeat (first | (refine Go.XR.S_light rfl rfl rfl ?_ (fun w' hS K hK => ?_) (fun K hK => ?_); rotate_left 1; (cases hS; (first | (refine Go.XR.wp_load_at 29 (.tmp 4) rfl kb 0 rfl (keyC k) (At.drew HK.out) _ Tryz.underlying29 rfl (keySize k) ?_) | go_step); exact hK); go_step; refine hK _ ?_; clear hK K))
  refine Go.XR.S_heavy (fun K hK => ?_)
  go_step
  ((with_reducible refine (Hmy.out).mono ?_); rintro e w' ⟨rfl, hb1⟩)
  have H1 : Hid (RSt W0 (mine fp ip vp vq G) w' fp ip vp vq cp G (kb :: rb :: F) N) := (H0.out.below (Below.refl _ _).drew).below hb1
  have HR1 : Hid (Blk w' rb [.int .i64 0, .int .i64 0]) := HR.out.heap (H1.out.own Hrl.out.1 Hrl.out.2).1
  have HK1 : Hid (At w' kb 0 (keyC k)) := HK.out.heap (H1.out.own Hko.out.1 Hko.out.2).1
  have hsz : W0.heap.size ≤ w'.heap.size := hb1.size
  clear hb1
  refine hK _ _ ⟨fun h => by simp at h, ?_⟩
  clear hK K
  repeat (first | (refine Go.XR.S_light rfl rfl rfl ?_ (fun w' hS K hK => ?_) (fun K hK => ?_); rotate_left 1; (cases hS; (first | (refine Go.XR.wp_load_at 29 (.tmp 4) rfl kb 0 rfl (keyC k) (At.drew HK.out) _ Tryz.underlying29 rfl (keySize k) ?_) | go_step); exact hK); go_step; refine hK _ ?_; clear hK K))
  repeat (first | (refine Go.XR.S_heavy (fun K hK => ?_); go_step; refine hK _ _ ⟨fun h => by simp at h, ?_⟩; clear hK K))
  refine Go.XR.S_nil ?_
  obtain ⟨W1, hW1⟩ : ∃ W1, w' = W1 := ⟨_, rfl⟩
  rw [hW1] at H1 HR1 HK1 hsz ⊢
  clear hW1 w' c1 H0 Hmy
  cases hm : (places N.B.length N.probes k).all (bg N.B) with
  | false =>
    have Hm := Lib.hid hm
    clear hm
    have r0 := HR1.out.cell (i := 0) rfl
    have r1 := HR1.out.cell (i := 1) rfl
    have f0 := HR1.out.free 0
    have f1 := HR1.out.free 1
    go_wp2
    (try simp only [Exit.inBlock, Exit.then])
    refine bodyPost_ret (results_at rfl (g := rb) rfl rfl (((HR1.out.set 0 (.int .i64 0)).set 1 (.int .i64 0)).toAt) Tryz.underlying40 rfl (placeSize place0)) rfl ?_
    refine ⟨none, N, G, by unfold RFindOk; rw [if_neg (by rw [Hm.out]; decide)]; exact ⟨rfl, rfl⟩, rfl, ?_⟩
    exact ((HW.out.trans H1.out).side (((But.refl [rb] W1).setCell (.inl (by simp)) (i := 0) (.int .i64 0)).setCell (.inl (by simp)) (i := 1) (.int .i64 0)) (by intro b hb; rw [List.mem_singleton] at hb; subst hb; exact ⟨Hro.out, by simp⟩)).fewer (fun b hb => by simp [hb])
  | true =>
    have Hmay := Lib.hid hm
    clear hm
    have hpn1 : fp < W1.heap.size := Nat.lt_of_lt_of_le hpn hsz
    have hkn1 : kb < W1.heap.size := Nat.lt_of_lt_of_le hkn hsz
    have c2 := H1.out.fin.blk.cell (i := 1) rfl
    obtain ⟨v, hv⟩ : ∃ v, (tabGet N.T k).getD place0 = v := ⟨_, rfl⟩
    obtain ⟨is, his⟩ : ∃ b, (tabGet N.T k).isSome = b := ⟨_, rfl⟩
    have hch := H1.out.fin.ch
    have hT2 : N.T.length ≤ 2^20 := by omega
    have Hg : Hid (∀ W9, Below W1.heap.size W1 W9 → Calls Tryz.prog 46 #[.pointer (some ⟨cp, 0, none⟩), keyV k] W9 fun e w' => e = .returned (.tuple #[.agg #[.int .i64 v.shelf, .int .i64 v.slot], .bool is]) ∧ Below W9.heap.size W9 w') := fun W9 hb => by
      refine (rcget_any W9 cp N.room G N.T _ (hch.below hb) hT2 k).mono ?_
      rintro e w' ⟨rfl, h2⟩
      rw [hv, his]
      exact ⟨rfl, h2⟩
    have Hv2 := Lib.hid hv
    have His := Lib.hid his
    clear hv his hch hkn hpn hsz hT2
    go_wp2
    have hS0 : Below W1.heap.size W1 W1.drew := (Below.refl _ _).drew
    refine Go.XR.region_fork ((Below W1.heap.size W1)) [(0, true), (1, true), (2, true), (3, true), (4, true)] 5 9 [(6, true), (7, true), (8, true), (9, false), (10, false), (11, false)] [(5, false), (6, true), (7, true), (8, true), (10, false), (11, false)] [11] Tryz.mixed (by kernel_rfl) (by kernel_rfl) (by kernel_rfl) ?_
    simp only [List.map_cons, List.map_nil, List.getElem?_cons_succ, List.getElem?_cons_zero]
    repeat (first | (refine Go.XR.S_light rfl rfl (by assumption) ?_ (fun w' hS K hK => ?_) (fun K hK => ?_); rotate_left 1; (have hS1 := bcell hS; (first | (refine Go.XR.wp_load_at 29 _ rfl kb 0 rfl (keyC k) (At.below HK1.out (by rw [keyC_size]; omega) hS) _ Tryz.underlying29 rfl (keySize k) ?_) | go_step); exact hK); go_step; refine hK _ ?_; clear hK K))
    refine Go.XR.S_nil ?_
    refine Go.XR.Fork.both ?_ ?_
    · refine Go.XR.S_heavy (fun K hK => ?_)
      go_step
      ((with_reducible refine ((Hg.out W1.drew hS0)).mono ?_); rintro e w' ⟨rfl, hb1⟩)
      have hS1 : Below W1.heap.size W1 w' := hS0.trans (hb1.mono hS0.size)
      clear hb1 hS0
      refine hK _ _ ⟨fun _ => hS1, ?_⟩
      clear hK K
      repeat (first | (refine Go.XR.S_light rfl rfl (by assumption) ?_ (fun w' hS K hK => ?_) (fun K hK => ?_); rotate_left 1; (have hS1 := bcell hS; (first | (refine Go.XR.wp_load_at 29 _ rfl kb 0 rfl (keyC k) (At.below HK1.out (by rw [keyC_size]; omega) hS) _ Tryz.underlying29 rfl (keySize k) ?_) | go_step); exact hK); go_step; refine hK _ ?_; clear hK K))
      obtain ⟨W7, hW7⟩ : ∃ W7, w' = W7 := ⟨_, rfl⟩
      rw [hW7] at hS1 ⊢
      clear hW7 w'
      refine Go.XR.S_heavy (fun K hK => ?_)
      go_step
      have hS2 := hS1.alloc hS1.size (.cells #[.int .i64 0, .int .i64 0] 40)
      refine hK _ _ ⟨fun _ => hS2, ?_⟩
      clear hK K
      repeat (first | (refine Go.XR.S_light rfl rfl (by assumption) ?_ (fun w' hS K hK => ?_) (fun K hK => ?_); rotate_left 1; (have hS1 := bcell hS; (first | (refine Go.XR.wp_load_at 29 _ rfl kb 0 rfl (keyC k) (At.below HK1.out (by rw [keyC_size]; omega) hS) _ Tryz.underlying29 rfl (keySize k) ?_) | go_step); exact hK); go_step; refine hK _ ?_; clear hK K))
      refine Go.XR.S_heavy (fun K hK => ?_)
      go_step
      obtain ⟨W3, hW3⟩ : ∃ V, W7.alloc (.cells #[.int .i64 v.shelf, .int .i64 v.slot] 40) = V := ⟨_, rfl⟩
      have hS3 : Below W1.heap.size W1 W3 := by rw [← hW3]; exact hS1.alloc hS1.size _
      obtain ⟨pb, hpb⟩ : ∃ pb, W7.heap.size = pb := ⟨_, rfl⟩
      have Hpb : Hid (W1.heap.size ≤ pb) := by unfold Hid; rw [← hpb]; exact hS1.size
      have HP3 : Hid (Blk W3 pb (placeL v)) := by unfold Hid; rw [← hW3, ← hpb]; exact Blk.new W7 (placeC v) _
      rw [hW3, hpb]
      clear hW3 hpb hS2
      refine hK _ _ ⟨fun _ => hS3, ?_⟩
      clear hK K
      repeat (first | (refine Go.XR.S_light rfl rfl (by assumption) ?_ (fun w' hS K hK => ?_) (fun K hK => ?_); rotate_left 1; (have hS1 := bcell hS; (first | (refine Go.XR.wp_load_at 29 _ rfl kb 0 rfl (keyC k) (At.below HK1.out (by rw [keyC_size]; omega) hS) _ Tryz.underlying29 rfl (keySize k) ?_) | go_step); exact hK); go_step; refine hK _ ?_; clear hK K))
      repeat (first | (refine Go.XR.S_heavy (fun K hK => ?_); go_step; refine hK _ _ ⟨fun h => by simp at h, ?_⟩; clear hK K))
      refine Go.XR.S_nil ?_
      have Hb3 := Lib.hid hS3
      clear hS1 hS3
      have H3 := Lib.hid (H1.out.below Hb3.out)
      have HR3 : Hid (Blk W3 rb [.int .i64 0, .int .i64 0]) := HR1.out.below Hb3.out
      cases is with
      | true =>
        have d0 : W3.cell? ⟨pb, 0, none⟩ = some (.int .i64 v.shelf) := HP3.out.cell (i := 0) rfl
        have d1 : W3.cell? ⟨pb, 1, none⟩ = some (.int .i64 v.slot) := HP3.out.cell (i := 1) rfl
        have r0 := HR3.out.cell (i := 0) rfl
        have r1 := HR3.out.cell (i := 1) rfl
        have f0 := HR3.out.free 0
        have f1 := HR3.out.free 1
        go_wp2
        (try simp only [Exit.inBlock, Exit.then])
        refine bodyPost_ret (results_at rfl (g := rb) rfl rfl (((HR3.out.set 0 (.int .i64 v.shelf)).set 1 (.int .i64 v.slot)).toAt) Tryz.underlying40 rfl (placeSize v)) rfl ?_
        have hcg : tabGet N.T k = some v := by
          have h1 := Hv2.out
          have h2 := His.out
          cases h : tabGet N.T k with
          | none => rw [h] at h2; cases h2
          | some x => rw [h] at h1; exact congrArg some h1
        refine ⟨some v, N, G, by unfold RFindOk; rw [if_pos Hmay.out, hcg]; exact ⟨rfl, rfl⟩, rfl, ?_⟩
        exact ((HW.out.trans H3.out).side (((But.refl [rb] W3).setCell (.inl (by simp)) (i := 0) (.int .i64 v.shelf)).setCell (.inl (by simp)) (i := 1) (.int .i64 v.slot)) (by intro b hb; rw [List.mem_singleton] at hb; subst hb; exact ⟨Hro.out, by simp⟩)).fewer (fun b hb => by simp [hb])
      | false =>
        have Hcg : Hid (tabGet N.T k = none) := by
          unfold Hid
          have h2 := His.out
          cases h : tabGet N.T k with
          | none => rfl
          | some x => rw [h] at h2; cases h2
        have H3b : Hid (RSt W0 (mine fp ip vp vq G) W3 fp ip vp vq cp G (pb :: kb :: rb :: F) N) := H1.out.box Hb3.out Hpb.out HP3.out.lt
        clear Hv2 His Hg H3
        have c3 := H3b.out.fin.blk.cell (i := 3) rfl
        have f3 := H3b.out.fin.blk.free 3
        go_wp2_with (refine opIs (X := .store 3 (.tmp 35) (.tmp 33)) rfl ?_; refine Go.XR.stop (fun X hX => ?_))
        refine hX.out ?_
        clear hX X
        have hb4 : But [fp] W3 (W3.setCell ⟨fp, 3, none⟩ (.int .i64 ((N.asked : Int) + 1))) := (But.refl _ _).setCell (.inl (by simp)) _
        have H4' : RSt W0 (mine fp ip vp vq G) (W3.setCell ⟨fp, 3, none⟩ (.int .i64 ((N.asked : Int) + 1))) fp ip vp vq cp G (pb :: kb :: rb :: F) { N with asked := N.asked + 1, loaded := N.loaded } := H3b.out.cells (H3b.out.fin.blk.set 3 _) hb4
        obtain ⟨W4, hW4⟩ : ∃ W4, W3.setCell ⟨fp, 3, none⟩ (.int .i64 ((N.asked : Int) + 1)) = W4 := ⟨_, rfl⟩
        rw [hW4] at H4' hb4
        have H4 := Lib.hid H4'
        have HP4 : Hid (Blk W4 pb (placeL v)) := HP3.out.but hb4 fun h => H3b.out.fin.fn.2.2.1 (by rw [List.mem_singleton] at h; rw [← h]; simp)
        clear H4' hb4
        go_wp2
        clear hW4 c3 f3 HR3 H3b HP3
        have HK4 : Hid (At W4 kb 0 (keyC k)) := HK.out.heap (H4.out.own Hko.out.1 Hko.out.2).1
        have HR4 : Hid (Blk W4 rb [.int .i64 0, .int .i64 0]) := HR.out.heap (H4.out.own Hrl.out.1 Hrl.out.2).1
        have c2 := H4.out.fin.blk.cell (i := 2) rfl
        obtain ⟨u, hu⟩ : ∃ u, (aget D k).getD place0 = u := ⟨_, rfl⟩
        obtain ⟨iu, hiu⟩ : ∃ b, (aget D k).isSome = b := ⟨_, rfl⟩
        have Hg : Hid (Calls Tryz.prog 47 #[.pointer (some ⟨ip, 0, none⟩), keyV k] W4.drew fun e w' => e = .returned (.tuple #[.agg #[.int .i64 u.shelf, .int .i64 u.slot], .bool iu]) ∧ Below W4.drew.heap.size W4.drew w') := by
          refine (refget_any W4.drew ip N.R _ D (H4.out.fin.ix.below (Below.refl _ _).drew) hA hD hlen k).mono ?_
          rintro e w' ⟨rfl, h2⟩
          rw [hu, hiu]
          exact ⟨rfl, h2⟩
        have Hu := Lib.hid hu
        have Hiu := Lib.hid hiu
        have Hpw : Hid (W0.heap.size ≤ pb) := Nat.le_trans H1.out.but.size Hpb.out
        have hS0 : W4.drew.cell? ⟨fp, 2, none⟩ = some (.pointer (some ⟨ip, 0, none⟩)) ∧ At W4.drew kb 0 (keyC k) := ⟨c2, HK4.out⟩
        clear hu hiu hkn1 hpn1
        refine Go.XR.region_sched ((fun x => x.cell? ⟨fp, 2, none⟩ = some (.pointer (some ⟨ip, 0, none⟩)) ∧ At x kb 0 (keyC k))) [(0, true), (1, true), (2, true), (3, true), (4, true), (5, false), (6, true), (7, true), (8, true), (9, false), (10, false)] [10] Tryz.mixed (by kernel_rfl) (by kernel_rfl) (by kernel_rfl) ?_
        simp only [List.map_cons, List.map_nil, List.getElem?_cons_succ, List.getElem?_cons_zero]
        repeat (first | (refine Go.XR.S_light rfl rfl (by assumption) ?_ (fun w' hS K hK => ?_) (fun K hK => ?_); rotate_left 1; (have hS1 : w'.cell? ⟨fp, 2, none⟩ = some (.pointer (some ⟨ip, 0, none⟩)) := hS.1; have hS2 : At w' kb 0 (keyC k) := hS.2; (first | (refine Go.XR.wp_load_at 29 _ rfl kb 0 rfl (keyC k) hS2 _ Tryz.underlying29 rfl (keySize k) ?_) | go_step); exact hK); go_step; refine hK _ ?_; clear hK K))
        refine Go.XR.S_heavy (fun K hK => ?_)
        go_step
        ((with_reducible refine (Hg.out).mono ?_); rintro e w' ⟨rfl, hb5⟩)
        have hb45 : Below W4.heap.size W4 w' := ((Below.refl _ W4).drew).trans hb5
        have H5 := Lib.hid (H4.out.below hb45)
        have HP5 := Lib.hid (HP4.out.below hb45)
        have HK5 : Hid (At w' kb 0 (keyC k)) := HK.out.heap (H5.out.own Hko.out.1 Hko.out.2).1
        have HR5 : Hid (Blk w' rb [.int .i64 0, .int .i64 0]) := HR.out.heap (H5.out.own Hrl.out.1 Hrl.out.2).1
        have f0 := HP5.out.free 0
        have f1 := HP5.out.free 1
        have p0 := HP5.out.cell (i := 0) rfl
        have p1 := HP5.out.cell (i := 1) rfl
        have hS5 : w'.cell? ⟨fp, 2, none⟩ = some (.pointer (some ⟨ip, 0, none⟩)) ∧ At w' kb 0 (keyC k) := ⟨H5.out.fin.blk.cell (i := 2) rfl, HK5.out⟩
        clear hb5 hb45
        refine hK _ _ ⟨fun _ => hS5, ?_⟩
        clear hK K
        repeat (first | (refine Go.XR.S_light rfl rfl (by assumption) ?_ (fun w' hS K hK => ?_) (fun K hK => ?_); rotate_left 1; (have hS1 : w'.cell? ⟨fp, 2, none⟩ = some (.pointer (some ⟨ip, 0, none⟩)) := hS.1; have hS2 : At w' kb 0 (keyC k) := hS.2; (first | (refine Go.XR.wp_load_at 29 _ rfl kb 0 rfl (keyC k) hS2 _ Tryz.underlying29 rfl (keySize k) ?_) | go_step); exact hK); go_step; refine hK _ ?_; clear hK K))
        obtain ⟨W5, hW5⟩ : ∃ W5, w' = W5 := ⟨_, rfl⟩
        rw [hW5] at H5 HP5 HK5 HR5 f0 f1 p0 p1 hS5 ⊢
        clear hW5 w' hS0
        refine Go.XR.S_heavy (fun K hK => ?_)
        go_step
        obtain ⟨W6, hW6⟩ : ∃ W6, (W5.setCell ⟨pb, 0, none⟩ (.int .i64 u.shelf)).setCell ⟨pb, 1, none⟩ (.int .i64 u.slot) = W6 := ⟨_, rfl⟩
        have hb56 : But [pb] W5 W6 := by rw [← hW6]; exact ((But.refl [pb] W5).setCell (.inl (by simp)) _).setCell (.inl (by simp)) _
        have HP6 : Hid (Blk W6 pb (placeL u)) := by unfold Hid; rw [← hW6]; exact (HP5.out.set 0 (.int .i64 u.shelf)).set 1 (.int .i64 u.slot)
        have H6 := Lib.hid (H5.out.side hb56 (fun b hb => by rw [List.mem_singleton] at hb; rw [hb]; exact ⟨Hpw.out, by simp⟩))
        have hS6 : W6.cell? ⟨fp, 2, none⟩ = some (.pointer (some ⟨ip, 0, none⟩)) ∧ At W6 kb 0 (keyC k) := ⟨H6.out.fin.blk.cell (i := 2) rfl, HK.out.heap (H6.out.own Hko.out.1 Hko.out.2).1⟩
        rw [hW6]
        refine hK _ _ ⟨fun _ => hS6, ?_⟩
        clear hK K
        repeat (first | (refine Go.XR.S_light rfl rfl (by assumption) ?_ (fun w' hS K hK => ?_) (fun K hK => ?_); rotate_left 1; (have hS1 : w'.cell? ⟨fp, 2, none⟩ = some (.pointer (some ⟨ip, 0, none⟩)) := hS.1; have hS2 : At w' kb 0 (keyC k) := hS.2; (first | (refine Go.XR.wp_load_at 29 _ rfl kb 0 rfl (keyC k) hS2 _ Tryz.underlying29 rfl (keySize k) ?_) | go_step); exact hK); go_step; refine hK _ ?_; clear hK K))
        clear hS5 hW6 f0 f1 p0 p1 HP5 HK5 HR5 H5 hb56 HP4 HK4 HR4 H4 c2
        repeat (first | (refine Go.XR.S_heavy (fun K hK => ?_); go_step; refine hK _ _ ⟨fun h => by simp at h, ?_⟩; clear hK K))
        refine Go.XR.S_nil ?_
        clear hS6
        have HR6 : Hid (Blk W6 rb [.int .i64 0, .int .i64 0]) := HR.out.heap (H6.out.own Hrl.out.1 Hrl.out.2).1
        cases iu with
        | false =>
          have d0 : W6.cell? ⟨pb, 0, none⟩ = some (.int .i64 u.shelf) := HP6.out.cell (i := 0) rfl
          have d1 : W6.cell? ⟨pb, 1, none⟩ = some (.int .i64 u.slot) := HP6.out.cell (i := 1) rfl
          have r0 := HR6.out.cell (i := 0) rfl
          have r1 := HR6.out.cell (i := 1) rfl
          have f0 := HR6.out.free 0
          have f1 := HR6.out.free 1
          go_wp2
          (try simp only [Exit.inBlock, Exit.then])
          refine bodyPost_ret (results_at rfl (g := rb) rfl rfl (((HR6.out.set 0 (.int .i64 u.shelf)).set 1 (.int .i64 u.slot)).toAt) Tryz.underlying40 rfl (placeSize u)) rfl ?_
          have hn : aget D k = none := by
            have h2 := Hiu.out
            cases h : aget D k with
            | none => rfl
            | some x => rw [h] at h2; cases h2
          have hv0 : u = place0 := by have := Hu.out; rw [hn] at this; exact this.symm
          refine ⟨none, { N with asked := N.asked + 1 }, G, by unfold RFindOk; rw [if_pos Hmay.out, Hcg.out, hn]; exact ⟨rfl, rfl⟩, by rw [hv0]; rfl, ?_⟩
          exact ((HW.out.trans (H6.out.fewer (fun b hb => List.mem_cons_of_mem _ hb))).side (((But.refl [rb] W6).setCell (.inl (by simp)) (i := 0) (.int .i64 u.shelf)).setCell (.inl (by simp)) (i := 1) (.int .i64 u.slot)) (by intro b hb; rw [List.mem_singleton] at hb; subst hb; exact ⟨Hro.out, by simp⟩)).fewer (fun b hb => by simp [hb])
        | true =>
          have Hx : Hid (aget D k = some u) := by
            unfold Hid
            have h1 := Hu.out
            have h2 := Hiu.out
            cases h : aget D k with
            | none => rw [h] at h2; cases h2
            | some x => rw [h] at h1; exact congrArg some h1
          have c4 := H6.out.fin.blk.cell (i := 4) rfl
          have f4 := H6.out.fin.blk.free 4
          clear Hg Hu Hiu HR6
          go_wp2_with (refine opIs (X := .store 3 (.tmp 52) (.tmp 50)) rfl ?_; refine Go.XR.stop (fun X hX => ?_))
          refine hX.out ?_
          clear hX X
          have hb7 : But [fp] W6 (W6.setCell ⟨fp, 4, none⟩ (.int .i64 ((N.loaded : Int) + 1))) := (But.refl _ _).setCell (.inl (by simp)) _
          have H7' : RSt W0 (mine fp ip vp vq G) (W6.setCell ⟨fp, 4, none⟩ (.int .i64 ((N.loaded : Int) + 1))) fp ip vp vq cp G (pb :: kb :: rb :: F) { N with asked := N.asked + 1, loaded := N.loaded + 1 } := H6.out.cells (H6.out.fin.blk.set 4 _) hb7
          obtain ⟨W7, hW7⟩ : ∃ W7, W6.setCell ⟨fp, 4, none⟩ (.int .i64 ((N.loaded : Int) + 1)) = W7 := ⟨_, rfl⟩
          rw [hW7] at H7' hb7
          have H7 := Lib.hid H7'
          have HP7 : Hid (Blk W7 pb (placeL u)) := HP6.out.but hb7 fun h => H6.out.fin.fn.2.2.1 (by rw [List.mem_singleton] at h; rw [← h]; simp)
          clear H7' hb7
          go_wp2
          clear hW7 c4 f4 H6 HP6
          obtain ⟨s, hs⟩ : ∃ s : I64, u.shelf = s.1 := ⟨⟨u.shelf, (hrng k u Hx.out).1⟩, rfl⟩
          have Hs := Lib.hid hs
          have hpn7 : fp < W7.heap.size := H7.out.fin.blk.lt
          have hpb7 : pb < W7.heap.size := HP7.out.lt
          have c1 := H7.out.fin.blk.cell (i := 1) rfl
          have c2 := H7.out.fin.blk.cell (i := 2) rfl
          have d0 : W7.cell? ⟨pb, 0, none⟩ = some (.int .i64 s.1) := by rw [← hs]; exact HP7.out.cell (i := 0) rfl
          have H7d := Lib.hid (H7.out.below (Below.refl _ _).drew)
          have Hsh := Lib.hid (refshelf_cap W7.drew ip N.R _ H7d.out.fin.ix hA.2 hlen s)
          have hS0 : Below W7.heap.size W7 W7.drew := (Below.refl _ _).drew
          clear hs
          refine Go.XR.region_sched ((Below W7.heap.size W7)) [(0, true), (1, true), (2, true), (3, true), (4, true), (5, true), (6, true), (7, true), (8, true), (9, true), (10, true), (11, true), (13, true), (12, false), (14, false)] [14] Tryz.mixed (by kernel_rfl) (by kernel_rfl) (by kernel_rfl) ?_
          simp only [List.map_cons, List.map_nil, List.getElem?_cons_succ, List.getElem?_cons_zero]
          repeat (first | (refine Go.XR.S_light rfl rfl (by assumption) ?_ (fun w' hS K hK => ?_) (fun K hK => ?_); rotate_left 1; (have hS1 := bcell hS; go_step; exact hK); go_step; refine hK _ ?_; clear hK K))
          refine Go.XR.S_heavy (fun K hK => ?_)
          go_step
          ((with_reducible refine (Hsh.out).mono ?_); rintro e w' ⟨L, hL, la, lc, rfl, hrow, hnew, hcap, hnil, hb8⟩)
          have HL := Lib.hid (shelf_done hA hD hL)
          have H8 := Lib.hid (H7d.out.below hb8)
          have HP8 := Lib.hid (HP7.out.below (hS0.trans (hb8.mono hS0.size)))
          have hS8 : Below W7.heap.size W7 w' := hS0.trans (hb8.mono hS0.size)
          have hLl : L.length ≤ 2^20 := Nat.le_trans (shm_len hL) hlen
          have Hld := Lib.hid (rload_any w' cp N.room G N.T _ H8.out.fin.ch (fun i hi => H8.out.fin.listLt i hi) hroom hT s la lc L hrow hcap hnil hLl (fun g o hg hm => by
            have h1 := hnew _ hg
            have h2 := H7d.out.fin.ch.lt _ hm
            exact absurd h2 (Nat.not_lt.2 h1)) draw hd)
          clear hL hrow hnew hcap hnil hb8 hLl Hsh hS0
          refine hK _ _ ⟨fun _ => hS8, ?_⟩
          clear hK K
          repeat (first | (refine Go.XR.S_light rfl rfl (by assumption) ?_ (fun w' hS K hK => ?_) (fun K hK => ?_); rotate_left 1; (have hS1 := bcell hS; go_step; exact hK); go_step; refine hK _ ?_; clear hK K))
          obtain ⟨W8, hW8⟩ : ∃ W8, w' = W8 := ⟨_, rfl⟩
          rw [hW8] at H8 HP8 Hld hS8 ⊢
          clear hW8 w'
          refine Go.XR.S_heavy (fun K hK => ?_)
          go_step
          ((with_reducible refine (Hld.out).mono ?_); rintro e w' ⟨rfl, T', G9, hC9, hb9, hg9, hLd⟩)
          have H9 := Lib.hid (H8.out.ch hC9 hb9 hg9)
          have HP9 := Lib.hid (HP8.out.but hb9 (fun hm => H8.out.fin.ch.out pb hm (by simp)))
          have HLd := Lib.hid hLd
          clear hC9 hb9 hg9 c1 c2 d0 hS8 Hld hLd
          refine hK _ _ ⟨fun h => by simp at h, ?_⟩
          clear hK K
          repeat (first | (refine Go.XR.S_light rfl rfl (by assumption) ?_ (fun w' hS K hK => ?_) (fun K hK => ?_); rotate_left 1; (have hS1 := bcell hS; go_step; exact hK); go_step; refine hK _ ?_; clear hK K))
          obtain ⟨W9, hW9⟩ : ∃ W9, w' = W9 := ⟨_, rfl⟩
          rw [hW9] at H9 HP9 ⊢
          clear hW9 w'
          repeat (first | (refine Go.XR.S_heavy (fun K hK => ?_); go_step; refine hK _ _ ⟨fun h => by simp at h, ?_⟩; clear hK K))
          refine Go.XR.S_nil ?_
          have HR9 : Hid (Blk W9 rb [.int .i64 0, .int .i64 0]) := HR.out.heap (H9.out.own Hrl.out.1 Hrl.out.2).1
          have d0 : W9.cell? ⟨pb, 0, none⟩ = some (.int .i64 u.shelf) := HP9.out.cell (i := 0) rfl
          have d1 : W9.cell? ⟨pb, 1, none⟩ = some (.int .i64 u.slot) := HP9.out.cell (i := 1) rfl
          have r0 := HR9.out.cell (i := 0) rfl
          have r1 := HR9.out.cell (i := 1) rfl
          have f0 := HR9.out.free 0
          have f1 := HR9.out.free 1
          go_wp2
          (try simp only [Exit.inBlock, Exit.then])
          refine bodyPost_ret (results_at rfl (g := rb) rfl rfl (((HR9.out.set 0 (.int .i64 u.shelf)).set 1 (.int .i64 u.slot)).toAt) Tryz.underlying40 rfl (placeSize u)) rfl ?_
          refine ⟨some u, { N with asked := N.asked + 1, loaded := N.loaded + 1, T := T' }, G9, by unfold RFindOk; rw [if_pos Hmay.out, Hcg.out, Hx.out]; exact ⟨rfl, L, T', by rw [Hs.out]; exact HL.out, by rw [Hs.out]; exact HLd.out, rfl⟩, rfl, ?_⟩
          exact ((HW.out.trans (H9.out.fewer (fun b hb => List.mem_cons_of_mem _ hb))).side (((But.refl [rb] W9).setCell (.inl (by simp)) (i := 0) (.int .i64 u.shelf)).setCell (.inl (by simp)) (i := 1) (.int .i64 u.slot)) (by intro b hb; rw [List.mem_singleton] at hb; subst hb; exact ⟨Hro.out, by simp⟩)).fewer (fun b hb => by simp [hb])
    · skip
      refine Go.XR.S_heavy (fun K hK => ?_)
      go_step
      obtain ⟨W6, hW6⟩ : ∃ W6, (W1.alloc (.cells #[.int .i64 0, .int .i64 0] 40)).drew = W6 := ⟨_, rfl⟩
      have hS1 : Below W1.heap.size W1 W6 := by rw [← hW6]; exact ((Below.refl _ _).alloc (Nat.le_refl _) _).drew
      have HP1 : Hid (Blk W6 W1.heap.size [.int .i64 0, .int .i64 0]) := by unfold Hid; rw [← hW6]; exact Blk.new W1 #[.int .i64 0, .int .i64 0] _
      rw [hW6]
      refine hK _ _ ⟨fun _ => hS1, ?_⟩
      clear hK K
      repeat (first | (refine Go.XR.S_light rfl rfl (by assumption) ?_ (fun w' hS K hK => ?_) (fun K hK => ?_); rotate_left 1; (have hS1 := bcell hS; (first | (refine Go.XR.wp_load_at 29 _ rfl kb 0 rfl (keyC k) (At.below HK1.out (by rw [keyC_size]; omega) hS) _ Tryz.underlying29 rfl (keySize k) ?_) | go_step); exact hK); go_step; refine hK _ ?_; clear hK K))
      clear hW6 hS0
      refine Go.XR.S_heavy (fun K hK => ?_)
      go_step
      ((with_reducible refine ((Hg.out W6 hS1)).mono ?_); rintro e w' ⟨rfl, hb1⟩)
      have HP2 := Lib.hid (HP1.out.below hb1)
      have hS2 : Below W1.heap.size W1 w' := hS1.trans (hb1.mono hS1.size)
      have f0 := HP2.out.free 0
      have f1 := HP2.out.free 1
      have e0 := HP2.out.cell (i := 0) rfl
      have e1 := HP2.out.cell (i := 1) rfl
      clear hb1
      refine hK _ _ ⟨fun _ => hS2, ?_⟩
      clear hK K
      repeat (first | (refine Go.XR.S_light rfl rfl (by assumption) ?_ (fun w' hS K hK => ?_) (fun K hK => ?_); rotate_left 1; (have hS1 := bcell hS; (first | (refine Go.XR.wp_load_at 29 _ rfl kb 0 rfl (keyC k) (At.below HK1.out (by rw [keyC_size]; omega) hS) _ Tryz.underlying29 rfl (keySize k) ?_) | go_step); exact hK); go_step; refine hK _ ?_; clear hK K))
      obtain ⟨W7, hW7⟩ : ∃ W7, w' = W7 := ⟨_, rfl⟩
      rw [hW7] at hS2 HP2 f0 f1 e0 e1 ⊢
      clear hW7 w'
      refine Go.XR.S_heavy (fun K hK => ?_)
      go_step
      obtain ⟨W3, hW3⟩ : ∃ V, (W7.setCell ⟨W1.heap.size, 0, none⟩ (.int .i64 v.shelf)).setCell ⟨W1.heap.size, 1, none⟩ (.int .i64 v.slot) = V := ⟨_, rfl⟩
      have hS3 : Below W1.heap.size W1 W3 := by
        rw [← hW3]
        exact hS2.trans ((((But.refl [W1.heap.size] W7).setCell (.inl (by simp)) _).setCell (.inl (by simp)) _).below hS2.size (by simp))
      obtain ⟨pb, hpb⟩ : ∃ pb, W1.heap.size = pb := ⟨_, rfl⟩
      have Hpb : Hid (W1.heap.size ≤ pb) := by unfold Hid; omega
      have HP3 : Hid (Blk W3 pb (placeL v)) := by unfold Hid; rw [← hW3, ← hpb]; exact (HP2.out.set 0 (.int .i64 v.shelf)).set 1 (.int .i64 v.slot)
      have Hb3 := Lib.hid hS3
      rw [hW3]
      refine hK _ _ ⟨fun _ => hS3, ?_⟩
      clear hK K
      repeat (first | (refine Go.XR.S_light rfl rfl (by assumption) ?_ (fun w' hS K hK => ?_) (fun K hK => ?_); rotate_left 1; (have hS1 := bcell hS; (first | (refine Go.XR.wp_load_at 29 _ rfl kb 0 rfl (keyC k) (At.below HK1.out (by rw [keyC_size]; omega) hS) _ Tryz.underlying29 rfl (keySize k) ?_) | go_step); exact hK); go_step; refine hK _ ?_; clear hK K))
      rw [hpb]
      clear hW3 hpb f0 f1 e0 e1 HP1 HP2 hS1 hS2 hS3
      repeat (first | (refine Go.XR.S_heavy (fun K hK => ?_); go_step; refine hK _ _ ⟨fun h => by simp at h, ?_⟩; clear hK K))
      refine Go.XR.S_nil ?_
      have H3 := Lib.hid (H1.out.below Hb3.out)
      have HR3 : Hid (Blk W3 rb [.int .i64 0, .int .i64 0]) := HR1.out.below Hb3.out
      cases is with
      | true =>
        have d0 : W3.cell? ⟨pb, 0, none⟩ = some (.int .i64 v.shelf) := HP3.out.cell (i := 0) rfl
        have d1 : W3.cell? ⟨pb, 1, none⟩ = some (.int .i64 v.slot) := HP3.out.cell (i := 1) rfl
        have r0 := HR3.out.cell (i := 0) rfl
        have r1 := HR3.out.cell (i := 1) rfl
        have f0 := HR3.out.free 0
        have f1 := HR3.out.free 1
        go_wp2
        (try simp only [Exit.inBlock, Exit.then])
        refine bodyPost_ret (results_at rfl (g := rb) rfl rfl (((HR3.out.set 0 (.int .i64 v.shelf)).set 1 (.int .i64 v.slot)).toAt) Tryz.underlying40 rfl (placeSize v)) rfl ?_
        have hcg : tabGet N.T k = some v := by
          have h1 := Hv2.out
          have h2 := His.out
          cases h : tabGet N.T k with
          | none => rw [h] at h2; cases h2
          | some x => rw [h] at h1; exact congrArg some h1
        refine ⟨some v, N, G, by unfold RFindOk; rw [if_pos Hmay.out, hcg]; exact ⟨rfl, rfl⟩, rfl, ?_⟩
        exact ((HW.out.trans H3.out).side (((But.refl [rb] W3).setCell (.inl (by simp)) (i := 0) (.int .i64 v.shelf)).setCell (.inl (by simp)) (i := 1) (.int .i64 v.slot)) (by intro b hb; rw [List.mem_singleton] at hb; subst hb; exact ⟨Hro.out, by simp⟩)).fewer (fun b hb => by simp [hb])
      | false =>
        have Hcg : Hid (tabGet N.T k = none) := by
          unfold Hid
          have h2 := His.out
          cases h : tabGet N.T k with
          | none => rfl
          | some x => rw [h] at h2; cases h2
        have H3b : Hid (RSt W0 (mine fp ip vp vq G) W3 fp ip vp vq cp G (pb :: kb :: rb :: F) N) := H1.out.box Hb3.out Hpb.out HP3.out.lt
        clear Hv2 His Hg H3
        have c3 := H3b.out.fin.blk.cell (i := 3) rfl
        have f3 := H3b.out.fin.blk.free 3
        go_wp2_with (refine opIs (X := .store 3 (.tmp 35) (.tmp 33)) rfl ?_; refine Go.XR.stop (fun X hX => ?_))
        refine hX.out ?_
        clear hX X
        have hb4 : But [fp] W3 (W3.setCell ⟨fp, 3, none⟩ (.int .i64 ((N.asked : Int) + 1))) := (But.refl _ _).setCell (.inl (by simp)) _
        have H4' : RSt W0 (mine fp ip vp vq G) (W3.setCell ⟨fp, 3, none⟩ (.int .i64 ((N.asked : Int) + 1))) fp ip vp vq cp G (pb :: kb :: rb :: F) { N with asked := N.asked + 1, loaded := N.loaded } := H3b.out.cells (H3b.out.fin.blk.set 3 _) hb4
        obtain ⟨W4, hW4⟩ : ∃ W4, W3.setCell ⟨fp, 3, none⟩ (.int .i64 ((N.asked : Int) + 1)) = W4 := ⟨_, rfl⟩
        rw [hW4] at H4' hb4
        have H4 := Lib.hid H4'
        have HP4 : Hid (Blk W4 pb (placeL v)) := HP3.out.but hb4 fun h => H3b.out.fin.fn.2.2.1 (by rw [List.mem_singleton] at h; rw [← h]; simp)
        clear H4' hb4
        go_wp2
        clear hW4 c3 f3 HR3 H3b HP3
        have HK4 : Hid (At W4 kb 0 (keyC k)) := HK.out.heap (H4.out.own Hko.out.1 Hko.out.2).1
        have HR4 : Hid (Blk W4 rb [.int .i64 0, .int .i64 0]) := HR.out.heap (H4.out.own Hrl.out.1 Hrl.out.2).1
        have c2 := H4.out.fin.blk.cell (i := 2) rfl
        obtain ⟨u, hu⟩ : ∃ u, (aget D k).getD place0 = u := ⟨_, rfl⟩
        obtain ⟨iu, hiu⟩ : ∃ b, (aget D k).isSome = b := ⟨_, rfl⟩
        have Hg : Hid (Calls Tryz.prog 47 #[.pointer (some ⟨ip, 0, none⟩), keyV k] W4.drew fun e w' => e = .returned (.tuple #[.agg #[.int .i64 u.shelf, .int .i64 u.slot], .bool iu]) ∧ Below W4.drew.heap.size W4.drew w') := by
          refine (refget_any W4.drew ip N.R _ D (H4.out.fin.ix.below (Below.refl _ _).drew) hA hD hlen k).mono ?_
          rintro e w' ⟨rfl, h2⟩
          rw [hu, hiu]
          exact ⟨rfl, h2⟩
        have Hu := Lib.hid hu
        have Hiu := Lib.hid hiu
        have Hpw : Hid (W0.heap.size ≤ pb) := Nat.le_trans H1.out.but.size Hpb.out
        have hS0 : W4.drew.cell? ⟨fp, 2, none⟩ = some (.pointer (some ⟨ip, 0, none⟩)) ∧ At W4.drew kb 0 (keyC k) := ⟨c2, HK4.out⟩
        clear hu hiu hkn1 hpn1
        refine Go.XR.region_sched ((fun x => x.cell? ⟨fp, 2, none⟩ = some (.pointer (some ⟨ip, 0, none⟩)) ∧ At x kb 0 (keyC k))) [(0, true), (1, true), (2, true), (3, true), (4, true), (5, false), (6, true), (7, true), (8, true), (9, false), (10, false)] [10] Tryz.mixed (by kernel_rfl) (by kernel_rfl) (by kernel_rfl) ?_
        simp only [List.map_cons, List.map_nil, List.getElem?_cons_succ, List.getElem?_cons_zero]
        repeat (first | (refine Go.XR.S_light rfl rfl (by assumption) ?_ (fun w' hS K hK => ?_) (fun K hK => ?_); rotate_left 1; (have hS1 : w'.cell? ⟨fp, 2, none⟩ = some (.pointer (some ⟨ip, 0, none⟩)) := hS.1; have hS2 : At w' kb 0 (keyC k) := hS.2; (first | (refine Go.XR.wp_load_at 29 _ rfl kb 0 rfl (keyC k) hS2 _ Tryz.underlying29 rfl (keySize k) ?_) | go_step); exact hK); go_step; refine hK _ ?_; clear hK K))
        refine Go.XR.S_heavy (fun K hK => ?_)
        go_step
        ((with_reducible refine (Hg.out).mono ?_); rintro e w' ⟨rfl, hb5⟩)
        have hb45 : Below W4.heap.size W4 w' := ((Below.refl _ W4).drew).trans hb5
        have H5 := Lib.hid (H4.out.below hb45)
        have HP5 := Lib.hid (HP4.out.below hb45)
        have HK5 : Hid (At w' kb 0 (keyC k)) := HK.out.heap (H5.out.own Hko.out.1 Hko.out.2).1
        have HR5 : Hid (Blk w' rb [.int .i64 0, .int .i64 0]) := HR.out.heap (H5.out.own Hrl.out.1 Hrl.out.2).1
        have f0 := HP5.out.free 0
        have f1 := HP5.out.free 1
        have p0 := HP5.out.cell (i := 0) rfl
        have p1 := HP5.out.cell (i := 1) rfl
        have hS5 : w'.cell? ⟨fp, 2, none⟩ = some (.pointer (some ⟨ip, 0, none⟩)) ∧ At w' kb 0 (keyC k) := ⟨H5.out.fin.blk.cell (i := 2) rfl, HK5.out⟩
        clear hb5 hb45
        refine hK _ _ ⟨fun _ => hS5, ?_⟩
        clear hK K
        repeat (first | (refine Go.XR.S_light rfl rfl (by assumption) ?_ (fun w' hS K hK => ?_) (fun K hK => ?_); rotate_left 1; (have hS1 : w'.cell? ⟨fp, 2, none⟩ = some (.pointer (some ⟨ip, 0, none⟩)) := hS.1; have hS2 : At w' kb 0 (keyC k) := hS.2; (first | (refine Go.XR.wp_load_at 29 _ rfl kb 0 rfl (keyC k) hS2 _ Tryz.underlying29 rfl (keySize k) ?_) | go_step); exact hK); go_step; refine hK _ ?_; clear hK K))
        obtain ⟨W5, hW5⟩ : ∃ W5, w' = W5 := ⟨_, rfl⟩
        rw [hW5] at H5 HP5 HK5 HR5 f0 f1 p0 p1 hS5 ⊢
        clear hW5 w' hS0
        refine Go.XR.S_heavy (fun K hK => ?_)
        go_step
        obtain ⟨W6, hW6⟩ : ∃ W6, (W5.setCell ⟨pb, 0, none⟩ (.int .i64 u.shelf)).setCell ⟨pb, 1, none⟩ (.int .i64 u.slot) = W6 := ⟨_, rfl⟩
        have hb56 : But [pb] W5 W6 := by rw [← hW6]; exact ((But.refl [pb] W5).setCell (.inl (by simp)) _).setCell (.inl (by simp)) _
        have HP6 : Hid (Blk W6 pb (placeL u)) := by unfold Hid; rw [← hW6]; exact (HP5.out.set 0 (.int .i64 u.shelf)).set 1 (.int .i64 u.slot)
        have H6 := Lib.hid (H5.out.side hb56 (fun b hb => by rw [List.mem_singleton] at hb; rw [hb]; exact ⟨Hpw.out, by simp⟩))
        have hS6 : W6.cell? ⟨fp, 2, none⟩ = some (.pointer (some ⟨ip, 0, none⟩)) ∧ At W6 kb 0 (keyC k) := ⟨H6.out.fin.blk.cell (i := 2) rfl, HK.out.heap (H6.out.own Hko.out.1 Hko.out.2).1⟩
        rw [hW6]
        refine hK _ _ ⟨fun _ => hS6, ?_⟩
        clear hK K
        repeat (first | (refine Go.XR.S_light rfl rfl (by assumption) ?_ (fun w' hS K hK => ?_) (fun K hK => ?_); rotate_left 1; (have hS1 : w'.cell? ⟨fp, 2, none⟩ = some (.pointer (some ⟨ip, 0, none⟩)) := hS.1; have hS2 : At w' kb 0 (keyC k) := hS.2; (first | (refine Go.XR.wp_load_at 29 _ rfl kb 0 rfl (keyC k) hS2 _ Tryz.underlying29 rfl (keySize k) ?_) | go_step); exact hK); go_step; refine hK _ ?_; clear hK K))
        clear hS5 hW6 f0 f1 p0 p1 HP5 HK5 HR5 H5 hb56 HP4 HK4 HR4 H4 c2
        repeat (first | (refine Go.XR.S_heavy (fun K hK => ?_); go_step; refine hK _ _ ⟨fun h => by simp at h, ?_⟩; clear hK K))
        refine Go.XR.S_nil ?_
        clear hS6
        have HR6 : Hid (Blk W6 rb [.int .i64 0, .int .i64 0]) := HR.out.heap (H6.out.own Hrl.out.1 Hrl.out.2).1
        cases iu with
        | false =>
          have d0 : W6.cell? ⟨pb, 0, none⟩ = some (.int .i64 u.shelf) := HP6.out.cell (i := 0) rfl
          have d1 : W6.cell? ⟨pb, 1, none⟩ = some (.int .i64 u.slot) := HP6.out.cell (i := 1) rfl
          have r0 := HR6.out.cell (i := 0) rfl
          have r1 := HR6.out.cell (i := 1) rfl
          have f0 := HR6.out.free 0
          have f1 := HR6.out.free 1
          go_wp2
          (try simp only [Exit.inBlock, Exit.then])
          refine bodyPost_ret (results_at rfl (g := rb) rfl rfl (((HR6.out.set 0 (.int .i64 u.shelf)).set 1 (.int .i64 u.slot)).toAt) Tryz.underlying40 rfl (placeSize u)) rfl ?_
          have hn : aget D k = none := by
            have h2 := Hiu.out
            cases h : aget D k with
            | none => rfl
            | some x => rw [h] at h2; cases h2
          have hv0 : u = place0 := by have := Hu.out; rw [hn] at this; exact this.symm
          refine ⟨none, { N with asked := N.asked + 1 }, G, by unfold RFindOk; rw [if_pos Hmay.out, Hcg.out, hn]; exact ⟨rfl, rfl⟩, by rw [hv0]; rfl, ?_⟩
          exact ((HW.out.trans (H6.out.fewer (fun b hb => List.mem_cons_of_mem _ hb))).side (((But.refl [rb] W6).setCell (.inl (by simp)) (i := 0) (.int .i64 u.shelf)).setCell (.inl (by simp)) (i := 1) (.int .i64 u.slot)) (by intro b hb; rw [List.mem_singleton] at hb; subst hb; exact ⟨Hro.out, by simp⟩)).fewer (fun b hb => by simp [hb])
        | true =>
          have Hx : Hid (aget D k = some u) := by
            unfold Hid
            have h1 := Hu.out
            have h2 := Hiu.out
            cases h : aget D k with
            | none => rw [h] at h2; cases h2
            | some x => rw [h] at h1; exact congrArg some h1
          have c4 := H6.out.fin.blk.cell (i := 4) rfl
          have f4 := H6.out.fin.blk.free 4
          clear Hg Hu Hiu HR6
          go_wp2_with (refine opIs (X := .store 3 (.tmp 52) (.tmp 50)) rfl ?_; refine Go.XR.stop (fun X hX => ?_))
          refine hX.out ?_
          clear hX X
          have hb7 : But [fp] W6 (W6.setCell ⟨fp, 4, none⟩ (.int .i64 ((N.loaded : Int) + 1))) := (But.refl _ _).setCell (.inl (by simp)) _
          have H7' : RSt W0 (mine fp ip vp vq G) (W6.setCell ⟨fp, 4, none⟩ (.int .i64 ((N.loaded : Int) + 1))) fp ip vp vq cp G (pb :: kb :: rb :: F) { N with asked := N.asked + 1, loaded := N.loaded + 1 } := H6.out.cells (H6.out.fin.blk.set 4 _) hb7
          obtain ⟨W7, hW7⟩ : ∃ W7, W6.setCell ⟨fp, 4, none⟩ (.int .i64 ((N.loaded : Int) + 1)) = W7 := ⟨_, rfl⟩
          rw [hW7] at H7' hb7
          have H7 := Lib.hid H7'
          have HP7 : Hid (Blk W7 pb (placeL u)) := HP6.out.but hb7 fun h => H6.out.fin.fn.2.2.1 (by rw [List.mem_singleton] at h; rw [← h]; simp)
          clear H7' hb7
          go_wp2
          clear hW7 c4 f4 H6 HP6
          obtain ⟨s, hs⟩ : ∃ s : I64, u.shelf = s.1 := ⟨⟨u.shelf, (hrng k u Hx.out).1⟩, rfl⟩
          have Hs := Lib.hid hs
          have hpn7 : fp < W7.heap.size := H7.out.fin.blk.lt
          have hpb7 : pb < W7.heap.size := HP7.out.lt
          have c1 := H7.out.fin.blk.cell (i := 1) rfl
          have c2 := H7.out.fin.blk.cell (i := 2) rfl
          have d0 : W7.cell? ⟨pb, 0, none⟩ = some (.int .i64 s.1) := by rw [← hs]; exact HP7.out.cell (i := 0) rfl
          have H7d := Lib.hid (H7.out.below (Below.refl _ _).drew)
          have Hsh := Lib.hid (refshelf_cap W7.drew ip N.R _ H7d.out.fin.ix hA.2 hlen s)
          have hS0 : Below W7.heap.size W7 W7.drew := (Below.refl _ _).drew
          clear hs
          refine Go.XR.region_sched ((Below W7.heap.size W7)) [(0, true), (1, true), (2, true), (3, true), (4, true), (5, true), (6, true), (7, true), (8, true), (9, true), (10, true), (11, true), (13, true), (12, false), (14, false)] [14] Tryz.mixed (by kernel_rfl) (by kernel_rfl) (by kernel_rfl) ?_
          simp only [List.map_cons, List.map_nil, List.getElem?_cons_succ, List.getElem?_cons_zero]
          repeat (first | (refine Go.XR.S_light rfl rfl (by assumption) ?_ (fun w' hS K hK => ?_) (fun K hK => ?_); rotate_left 1; (have hS1 := bcell hS; go_step; exact hK); go_step; refine hK _ ?_; clear hK K))
          refine Go.XR.S_heavy (fun K hK => ?_)
          go_step
          ((with_reducible refine (Hsh.out).mono ?_); rintro e w' ⟨L, hL, la, lc, rfl, hrow, hnew, hcap, hnil, hb8⟩)
          have HL := Lib.hid (shelf_done hA hD hL)
          have H8 := Lib.hid (H7d.out.below hb8)
          have HP8 := Lib.hid (HP7.out.below (hS0.trans (hb8.mono hS0.size)))
          have hS8 : Below W7.heap.size W7 w' := hS0.trans (hb8.mono hS0.size)
          have hLl : L.length ≤ 2^20 := Nat.le_trans (shm_len hL) hlen
          have Hld := Lib.hid (rload_any w' cp N.room G N.T _ H8.out.fin.ch (fun i hi => H8.out.fin.listLt i hi) hroom hT s la lc L hrow hcap hnil hLl (fun g o hg hm => by
            have h1 := hnew _ hg
            have h2 := H7d.out.fin.ch.lt _ hm
            exact absurd h2 (Nat.not_lt.2 h1)) draw hd)
          clear hL hrow hnew hcap hnil hb8 hLl Hsh hS0
          refine hK _ _ ⟨fun _ => hS8, ?_⟩
          clear hK K
          repeat (first | (refine Go.XR.S_light rfl rfl (by assumption) ?_ (fun w' hS K hK => ?_) (fun K hK => ?_); rotate_left 1; (have hS1 := bcell hS; go_step; exact hK); go_step; refine hK _ ?_; clear hK K))
          obtain ⟨W8, hW8⟩ : ∃ W8, w' = W8 := ⟨_, rfl⟩
          rw [hW8] at H8 HP8 Hld hS8 ⊢
          clear hW8 w'
          refine Go.XR.S_heavy (fun K hK => ?_)
          go_step
          ((with_reducible refine (Hld.out).mono ?_); rintro e w' ⟨rfl, T', G9, hC9, hb9, hg9, hLd⟩)
          have H9 := Lib.hid (H8.out.ch hC9 hb9 hg9)
          have HP9 := Lib.hid (HP8.out.but hb9 (fun hm => H8.out.fin.ch.out pb hm (by simp)))
          have HLd := Lib.hid hLd
          clear hC9 hb9 hg9 c1 c2 d0 hS8 Hld hLd
          refine hK _ _ ⟨fun h => by simp at h, ?_⟩
          clear hK K
          repeat (first | (refine Go.XR.S_light rfl rfl (by assumption) ?_ (fun w' hS K hK => ?_) (fun K hK => ?_); rotate_left 1; (have hS1 := bcell hS; go_step; exact hK); go_step; refine hK _ ?_; clear hK K))
          obtain ⟨W9, hW9⟩ : ∃ W9, w' = W9 := ⟨_, rfl⟩
          rw [hW9] at H9 HP9 ⊢
          clear hW9 w'
          repeat (first | (refine Go.XR.S_heavy (fun K hK => ?_); go_step; refine hK _ _ ⟨fun h => by simp at h, ?_⟩; clear hK K))
          refine Go.XR.S_nil ?_
          have HR9 : Hid (Blk W9 rb [.int .i64 0, .int .i64 0]) := HR.out.heap (H9.out.own Hrl.out.1 Hrl.out.2).1
          have d0 : W9.cell? ⟨pb, 0, none⟩ = some (.int .i64 u.shelf) := HP9.out.cell (i := 0) rfl
          have d1 : W9.cell? ⟨pb, 1, none⟩ = some (.int .i64 u.slot) := HP9.out.cell (i := 1) rfl
          have r0 := HR9.out.cell (i := 0) rfl
          have r1 := HR9.out.cell (i := 1) rfl
          have f0 := HR9.out.free 0
          have f1 := HR9.out.free 1
          go_wp2
          (try simp only [Exit.inBlock, Exit.then])
          refine bodyPost_ret (results_at rfl (g := rb) rfl rfl (((HR9.out.set 0 (.int .i64 u.shelf)).set 1 (.int .i64 u.slot)).toAt) Tryz.underlying40 rfl (placeSize u)) rfl ?_
          refine ⟨some u, { N with asked := N.asked + 1, loaded := N.loaded + 1, T := T' }, G9, by unfold RFindOk; rw [if_pos Hmay.out, Hcg.out, Hx.out]; exact ⟨rfl, L, T', by rw [Hs.out]; exact HL.out, by rw [Hs.out]; exact HLd.out, rfl⟩, rfl, ?_⟩
          exact ((HW.out.trans (H9.out.fewer (fun b hb => List.mem_cons_of_mem _ hb))).side (((But.refl [rb] W9).setCell (.inl (by simp)) (i := 0) (.int .i64 u.shelf)).setCell (.inl (by simp)) (i := 1) (.int .i64 u.slot)) (by intro b hb; rw [List.mem_singleton] at hb; subst hb; exact ⟨Hro.out, by simp⟩)).fewer (fun b hb => by simp [hb])
end Go.Proofs.YtnfbchhbcinloaaGreat

/- The walks over the reference's New and Anew. -/
namespace Go.Proofs.YtnfbchhbcinloaaGreat
open Go.RowKit Go.XR Go.IndexPure Go.CachePure Go.FindPure
def ref0 (m n r : Nat) : RefT := ⟨List.replicate m false, n, r, [], [], 0, 0⟩
/-- what New makes: nothing, or a finder without chunks -/
def RetRFNew (w : World) (F : List Nat) (bits probes room : Int) (e : Ending) (w' : World) : Prop :=
  (¬ finOk bits probes room ∧ e = .returned (.tuple #[.pointer none, .int .i64 1]) ∧ Below w.heap.size w w') ∨
  (∃ m n r : Nat, bits = m ∧ probes = n ∧ room = r ∧ finOk bits probes room ∧ ∃ fp ip vp vq cp G, e = .returned (.tuple #[.pointer (some ⟨fp, 0, none⟩), .int .i64 0]) ∧ RFin w' fp ip vp vq cp G F (ref0 m n r) ∧ (∀ b ∈ mine fp ip vp vq G, w.heap.size ≤ b) ∧ Below w.heap.size w w')
set_option maxHeartbeats 2000000 in
set_option maxRecDepth 100000 in
theorem rfnew_any (w : World) (F : List Nat) (hF : ∀ b ∈ F, b < w.heap.size) (bits probes room : Int) : Calls Tryz.prog 6 #[.int .i64 bits, .int .i64 probes, .int .i64 room] w (RetRFNew w F bits probes room) := by
  go_enter Tryz.func6, Tryz.ntmps6
  go_wp2_with fail
  refine (rnew_any w bits probes).mono ?_
  rintro e w1 (⟨hno, rfl, rfl⟩ | ⟨m, n, rfl, rfl, hm, hn, p, q, cap, rfl, hV, hq, hqp, hp, hb⟩)
  · have Hno := Lib.hid hno
    clear hno
    go_wp2
    go_ret2
    exact .inl ⟨fun h => Hno.out ⟨by have := h; unfold finOk at this; omega, by have := h; unfold finOk at this; omega, by have := h; unfold finOk at this; omega, by have := h; unfold finOk at this; omega⟩, rfl, Below.refl _ _⟩
  · have HV := Lib.hid hV
    have Hb := Lib.hid hb
    clear hV hb
    by_cases h1 : room < 0
    · go_wp2
      go_ret2
      exact .inl ⟨fun h => by unfold finOk at h; omega, rfl, Hb.out⟩
    by_cases h2 : 4096 < room
    · go_wp2
      go_ret2
      exact .inl ⟨fun h => by unfold finOk at h; omega, rfl, Hb.out⟩
    obtain ⟨r, rfl⟩ : ∃ r : Nat, room = r := ⟨room.toNat, by omega⟩
    have hr : r ≤ 4096 := by omega
    clear h1 h2
    go_wp2
    go_ret2
    obtain ⟨W2, hW2⟩ : ∃ W2, w1.alloc (.cells #[.slice none 0 0, .int .i64 r] 84) = W2 := ⟨_, rfl⟩
    obtain ⟨W3, hW3⟩ : ∃ W3, W2.alloc (.cells #[.slice none 0 0] 63) = W3 := ⟨_, rfl⟩
    obtain ⟨W4, hW4⟩ : ∃ W4, W3.alloc (.cells #[.pointer (some ⟨p, 0, none⟩), .pointer (some ⟨w1.heap.size, 0, none⟩), .pointer (some ⟨w1.heap.size + 1, 0, none⟩), .int .i64 0, .int .i64 0] 56) = W4 := ⟨_, rfl⟩
    have s2 : W2.heap.size = w1.heap.size + 1 := by rw [← hW2]; simp
    have s3 : W3.heap.size = w1.heap.size + 1 + 1 := by rw [← hW3]; simp [s2]
    have s4 : W4.heap.size = w1.heap.size + 1 + 1 + 1 := by rw [← hW4]; simp [s3]
    have b12 : Below w1.heap.size w1 W2 := by rw [← hW2]; exact (Below.refl _ _).alloc (Nat.le_refl _) _
    have b23 : Below W2.heap.size W2 W3 := by rw [← hW3]; exact (Below.refl _ _).alloc (Nat.le_refl _) _
    have b34 : Below W3.heap.size W3 W4 := by rw [← hW4]; exact (Below.refl _ _).alloc (Nat.le_refl _) _
    have b24 : Below W2.heap.size W2 W4 := b23.trans (b34.mono b23.size)
    have b14 : Below w1.heap.size w1 W4 := b12.trans (b24.mono b12.size)
    have B2 : Blk W4 w1.heap.size [.slice none 0 0, .int .i64 r] := by
      have := Blk.new w1 #[.slice none 0 0, .int .i64 r] 84
      rw [hW2] at this; exact this.below b24
    have B3 : Blk W4 (w1.heap.size + 1) [.slice none 0 0] := by
      have := Blk.new W2 #[.slice none 0 0] 63
      rw [hW3, s2] at this; exact this.below b34
    have B4 : Blk W4 (w1.heap.size + 1 + 1) [.pointer (some ⟨p, 0, none⟩), .pointer (some ⟨w1.heap.size, 0, none⟩), .pointer (some ⟨w1.heap.size + 1, 0, none⟩), .int .i64 0, .int .i64 0] := by
      have := Blk.new W3 #[.pointer (some ⟨p, 0, none⟩), .pointer (some ⟨w1.heap.size, 0, none⟩), .pointer (some ⟨w1.heap.size + 1, 0, none⟩), .int .i64 0, .int .i64 0] 56
      rw [hW4, s3] at this; exact this
    have hw1 : w.heap.size ≤ w1.heap.size := Hb.out.size
    have hFn : ∀ b, w.heap.size ≤ b → b ∉ F := fun b h1 h2 => by have := hF b h2; omega
    refine .inr ⟨m, n, r, rfl, rfl, rfl, ⟨by omega, by omega, by omega⟩, w1.heap.size + 1 + 1, w1.heap.size + 1, p, q, w1.heap.size, [w1.heap.size], rfl, ?_, ?_, ?_⟩
    · rw [hW2, hW3, hW4]
      exact {
        blk := B4
        vec := ⟨cap, HV.out.below b14⟩
        ch := ⟨none, 0, rfl, B2, World.ownsRow_nil _ _ _ _, (fun i hi => by
          rw [List.mem_singleton] at hi
          subst hi
          simp only [List.mem_cons, not_or]
          exact ⟨by omega, by omega, by omega, by omega, hFn _ hw1⟩), (fun x hx => by cases hx), fun e he => by cases he⟩
        ix := ⟨none, 0, B3, .inl rfl, Nat.le_refl _, by unfold maxLen; omega, (by
          simp only [List.mem_cons, List.mem_append, List.mem_singleton, not_or, List.not_mem_nil]
          exact ⟨by omega, by omega, by omega, ⟨⟨by omega, by simp⟩, hFn _ (by omega)⟩⟩), fun _ => rfl, fun x hx => by cases hx⟩
        fn := ⟨by omega, by omega, hFn _ (by omega), hFn _ (by omega), hFn _ hq⟩
        lt := fun b h1 => by have := hF b h1; omega }
    · intro b hb
      rcases mem_mine.1 hb with h | h | h | h | h
      · omega
      · omega
      · omega
      · omega
      · rw [List.mem_singleton] at h; omega
    · rw [hW2, hW3, hW4]
      exact Hb.out.trans (b14.mono hw1)
end Go.Proofs.YtnfbchhbcinloaaGreat

/- The walk over the reference's Anew. -/
namespace Go.Proofs.YtnfbchhbcinloaaGreat
open Go.RowKit Go.XR Go.IndexPure Go.CachePure Go.FindPure
/-- the bits lie in another block now -/
theorem RSt.vecNew {w0 W W' : World} {M0 F G : List Nat} {fp ip vp vq cp q : Nat} {N : RefT} {cap : Nat} {B' : List Bool} (h : RSt w0 M0 W fp ip vp vq cp G F N) (hv : RVec W' vp q cap N.probes B') (hq : W.heap.size ≤ q) (hb : But [vp] W W') : RSt w0 M0 W' fp ip vp q cp G F { N with B := B' } := by
  have hs : ∀ i ∈ [vp], i = vp := fun i hi => by rwa [List.mem_singleton] at hi
  have hgr : Grew w0 M0 (mine fp ip vp q G) := fun b hb' => by
    rcases mem_mine.1 hb' with h1 | h1 | h1 | h1 | h1
    · exact h.grew b (mem_mine.2 (by simp [h1]))
    · exact h.grew b (mem_mine.2 (by simp [h1]))
    · right; rw [h1]; exact Nat.le_trans h.but.size hq
    · exact h.grew b (mem_mine.2 (by simp [h1]))
    · exact h.grew b (mem_mine.2 (by simp [h1]))
  have hml := h.fin.mineLt
  have hfq : fp ≠ q := fun e => by have := hml fp (mem_mine.2 (by simp)); omega
  refine ⟨{
    blk := h.fin.blk.but hb (by simpa using h.fin.fn.1)
    vec := ⟨cap, hv⟩
    ch := (h.fin.ch.grew (F' := fp :: vp :: vq :: q :: ip :: F) (fun b hb' => ?_)).but hb (fun i hi => .inl (by simp [hs i hi])) |>.grew (fun b hb' => .inl ?_)
    ix := (h.fin.ix.grew (F' := fp :: vp :: vq :: q :: (G ++ F)) (fun b hb' => ?_)).but hb (fun i hi => .inl (by simp [hs i hi])) |>.grew (fun b hb' => .inl ?_)
    fn := ⟨h.fin.fn.1, hfq, h.fin.fn.2.2.1, h.fin.fn.2.2.2.1, fun h1 => by have := h.fin.lt q h1; omega⟩
    lt := fun b hb' => Nat.lt_of_lt_of_le (h.fin.lt b hb') hb.size }, h.but.grew (hb.mono fun i hi _ => mem_mine.2 (by simp [hs i hi])) h.grew, hgr⟩
  · simp only [List.mem_cons] at hb' ⊢
    rcases hb' with h1 | h1 | h1 | h1 | h1 | h1
    · simp [h1]
    · simp [h1]
    · simp [h1]
    · right; omega
    · simp [h1]
    · simp [h1]
  · simp only [List.mem_cons] at hb' ⊢
    rcases hb' with h1 | h1 | h1 | h1 | h1
    · simp [h1]
    · simp [h1]
    · simp [h1]
    · simp [h1]
    · simp [h1]
  · simp only [List.mem_cons, List.mem_append] at hb' ⊢
    rcases hb' with h1 | h1 | h1 | h1 | h1 | h1
    · simp [h1]
    · simp [h1]
    · simp [h1]
    · right; omega
    · simp [h1]
    · simp [h1]
  · simp only [List.mem_cons, List.mem_append] at hb' ⊢
    rcases hb' with h1 | h1 | h1 | h1 | h1
    · simp [h1]
    · simp [h1]
    · simp [h1]
    · simp [h1]
    · simp [h1]
def RetRAnew (w : World) (fp ip vp vq cp : Nat) (G F : List Nat) (N : RefT) (e : Ending) (w' : World) : Prop :=
  e = .returned (.tuple #[]) ∧ ∃ vq' B', B'.length = N.B.length ∧ (∀ i, i < N.B.length → bg B' i = decide (∃ r ∈ N.R, i ∈ places N.B.length N.probes r.1)) ∧ RSt w (mine fp ip vp vq G) w' fp ip vp vq' cp G F { N with B := B' }
set_option maxHeartbeats 2000000 in
set_option maxRecDepth 100000 in
theorem rfanew_any (w : World) (G F : List Nat) (fp ip vp vq cp : Nat) (N : RefT) (h : RFin w fp ip vp vq cp G F N) (hlen : N.R.length ≤ 2^20) :
    Calls Tryz.prog 15 #[.pointer (some ⟨fp, 0, none⟩)] w (RetRAnew w fp ip vp vq cp G F N) := by
  obtain ⟨vcap, hv⟩ := h.vec
  have hbb := hv.bits
  have HV := Lib.hid hv
  have H := Lib.hid h
  have cf0 := h.blk.cell (i := 0) rfl
  have cv0 := hv.blk.cell (i := 0) rfl
  have hfl := h.blk.lt
  have hvl := hv.blk.lt
  obtain ⟨bits, hbits⟩ : ∃ bits, N.B.length = bits := ⟨_, rfl⟩
  have Hbits := Lib.hid hbits
  rw [hbits] at cv0 hbb
  obtain ⟨C, hC, hmk⟩ := make_any (P := Tryz.prog) (enc := boL) (k := 1) (fun _ => rfl) false 90 4 1 Tryz.underlying90 (by kernel_rfl) bits (by omega) (by omega)
  have hC2 : C.toList = (List.replicate bits false).map .bool := by rw [hC]; exact flat_one .bool _
  have HC := Lib.hid hC2
  clear hC hC2 hbits h hv
  have f0 := HV.out.blk.free 0
  go_enter Tryz.func15, Tryz.ntmps15
  have hS0 : Below w.heap.size w w.drew := (Below.refl _ _).drew
  go_wp2
  refine Go.XR.region_sched ((Below w.heap.size w)) [(0, true), (1, true), (2, true), (3, true), (4, true), (5, true), (6, true), (7, true), (8, true), (9, true), (10, true), (11, true), (12, false), (13, false), (14, false), (15, false)] [13, 14, 15] Tryz.mixed (by kernel_rfl) (by kernel_rfl) (by kernel_rfl) ?_
  simp only [List.map_cons, List.map_nil, List.getElem?_cons_succ, List.getElem?_cons_zero]
  repeat (first | (refine Go.XR.S_light rfl rfl (by assumption) ?_ (fun w' hS K hK => ?_) (fun K hK => ?_); rotate_left 1; (have hS1 := bcell hS; go_step; exact hK); go_step; refine hK _ ?_; clear hK K))
  refine Go.XR.S_heavy (fun K hK => ?_)
  go_step
  obtain ⟨W1, hW1⟩ : ∃ W1, (w.alloc (.cells C 4)).drew = W1 := ⟨_, rfl⟩
  obtain ⟨q, hq⟩ : ∃ q, w.heap.size = q := ⟨_, rfl⟩
  have hS1 : Below w.heap.size w W1 := by rw [← hW1]; exact ((Below.refl _ _).alloc (Nat.le_refl _) _).drew
  have HQ1 : Hid (Blk W1 q ((List.replicate bits false).map .bool)) := by
    have h1 := Blk.new w C 4
    rw [HC.out] at h1
    unfold Hid; rw [← hW1, ← hq]; exact h1.below (Below.refl _ _).drew
  (try rw [hW1])
  (try rw [hq])
  refine hK _ _ ⟨fun _ => hS1, ?_⟩
  clear hK K
  repeat (first | (refine Go.XR.S_light rfl rfl (by assumption) ?_ (fun w' hS K hK => ?_) (fun K hK => ?_); rotate_left 1; (have hS1 := bcell hS; go_step; exact hK); go_step; refine hK _ ?_; clear hK K))
  have Hq := Lib.hid hq
  have H1 := Lib.hid ((RSt.refl H.out).below hS1)
  have HV1 := Lib.hid (HV.out.below hS1)
  have f1 := HV1.out.blk.free 0
  have c1 := HV1.out.blk.cell (i := 0) rfl
  have hvl1 : vp < W1.heap.size := HV1.out.blk.lt
  have Hb01 := Lib.hid hS1
  clear hq hS0 hS1 hW1 f0 cv0 cf0
  repeat (first | (refine Go.XR.S_heavy (fun K hK => ?_); go_step; refine hK _ _ ⟨fun h => by simp at h, ?_⟩; clear hK K))
  refine Go.XR.S_nil ?_
  obtain ⟨W2, hW2⟩ : ∃ W2, W1.setCell ⟨vp, 0, none⟩ (.slice (some ⟨q, 0, none⟩) bits bits) = W2 := ⟨_, rfl⟩
  have hb2 : But [vp] w W2 := by rw [← hW2]; exact (But.of_below Hb01.out).trans ((But.refl [vp] W1).setCell (.inl (by simp)) _)
  have hv2 : RVec W2 vp q bits N.probes (List.replicate bits false) := by
    rw [← hW2]
    exact { blk := by rw [List.length_replicate]; exact HV1.out.blk.set 0 _
            row := HQ1.out.but ((But.refl [vp] W1).setCell (.inl (by simp)) _) (by rw [List.mem_singleton]; have := Hq.out; omega)
            ne := by have := Hq.out; omega
            cap := by rw [List.length_replicate]; exact Nat.le_refl _
            bits := by rw [List.length_replicate]; exact hbb
            probes := HV1.out.probes }
  have H2 : Hid (RSt w (mine fp ip vp vq G) W2 fp ip vp q cp G F { N with B := List.replicate bits false }) := (RSt.refl H.out).vecNew hv2 (by rw [Hq.out]; exact Nat.le_refl _) hb2
  rw [hW2]
  clear hW2 hb2 hv2 c1 f1 HV1 HQ1 HV H1
  go_wp2
  go_loopg [2] N.R.length (fun m i wr => ∃ j : Nat, j ≤ N.R.length ∧ i = .int .i64 j ∧ Hid (m = N.R.length - j ∧ ∃ B', B'.length = bits ∧ (∀ i, i < bits → bg B' i = decide (∃ r ∈ N.R.take j, i ∈ places bits N.probes r.1)) ∧ RSt w (mine fp ip vp vq G) wr fp ip vp q cp G F { N with B := B' }))
  case atStart => exact ⟨0, Nat.zero_le _, rfl, rfl, _, List.length_replicate, (fun i _ => by rw [bg_rep]; simp), H2.out⟩
  case round =>
    obtain ⟨j, hj, rfl, hr⟩ := hrel
    have hgn := hr.out.1
    obtain ⟨B', hBl, hBb, hS⟩ := hr.out.2
    have HBl := Lib.hid hBl
    have HBb := Lib.hid hBb
    have HS := Lib.hid hS
    obtain ⟨a, c, hIB, hIR, hic, -⟩ := hS.fin.ix
    have HIR := Lib.hid hIR
    obtain ⟨vc2, hvv⟩ := hS.fin.vec
    have e0 := hS.fin.blk.cell (i := 0) rfl
    have e2 := hS.fin.blk.cell (i := 2) rfl
    have i0 := hIB.cell (i := 0) rfl
    have hfl2 := hS.fin.blk.lt
    have hil2 := hIB.lt
    clear hr hBl hBb hS hIB hIR
    by_cases hjl : j < N.R.length
    · have hlt2 : (j : Int) < (N.R.length : Int) := by omega
      obtain ⟨g, o, rfl, hX⟩ := row_at rowL_length HIR.out hjl (by omega)
      have HX : Hid (At wr g (o + j * 35) (rowC N.R[j])) := hX
      have Htk : Hid (N.R.take (j + 1) = N.R.take j ++ [N.R[j]]) := List.take_succ_eq_append_getElem hjl
      clear hX
      generalize N.R[j] = r at *
      have Hcall := Lib.hid (radd_any wr.drew vp q vc2 N.probes B' (hvv.below (Below.refl _ _).drew) r.1)
      clear hvv
      go_wp2
      refine Go.XR.region_sched ((· = wr.drew)) [(0, true), (1, true), (2, true), (3, true), (4, true), (5, true), (6, true), (7, true), (8, true), (9, true), (10, true), (11, true), (12, true), (13, true), (14, true), (15, false)] [15] Tryz.mixed (by kernel_rfl) (by kernel_rfl) (by kernel_rfl) ?_
      simp only [List.map_cons, List.map_nil, List.getElem?_cons_succ, List.getElem?_cons_zero]
      repeat (first | (refine Go.XR.S_light rfl rfl rfl ?_ (fun w' hS K hK => ?_) (fun K hK => ?_); rotate_left 1; (cases hS; (first | (refine Go.XR.wp_load_at 29 (.tmp 43) rfl g (o + j * 35) rfl (keyC r.1) (At.drew (row_at_key HX.out)) _ Tryz.underlying29 rfl (keySize r.1) ?_) | go_step); exact hK); go_step; refine hK _ ?_; clear hK K))
      refine Go.XR.S_heavy (fun K hK => ?_)
      go_step
      ((with_reducible refine (Hcall.out).mono ?_); rintro e w' ⟨rfl, B3, hB3l, hB3b, hv3, hb3⟩)
      have HS3 := Lib.hid ((HS.out.below (Below.refl _ _).drew).vec hv3 hb3)
      have HB3l := Lib.hid hB3l
      have HB3b := Lib.hid hB3b
      clear hv3 hb3 hB3l hB3b Hcall e0 e2 i0
      refine hK _ _ ⟨fun h => by simp at h, ?_⟩
      clear hK K
      repeat (first | (refine Go.XR.S_light rfl rfl rfl ?_ (fun w' hS K hK => ?_) (fun K hK => ?_); rotate_left 1; (cases hS; (first | (refine Go.XR.wp_load_at 29 (.tmp 43) rfl g (o + j * 35) rfl (keyC r.1) (At.drew (row_at_key HX.out)) _ Tryz.underlying29 rfl (keySize r.1) ?_) | go_step); exact hK); go_step; refine hK _ ?_; clear hK K))
      repeat (first | (refine Go.XR.S_heavy (fun K hK => ?_); go_step; refine hK _ _ ⟨fun h => by simp at h, ?_⟩; clear hK K))
      refine Go.XR.S_nil ?_
      go_wp2
      go_roundg (N.R.length - (j + 1))
      case measure => omega
      case rel =>
        refine ⟨j + 1, by omega, by go_num, rfl, B3, HB3l.out.trans HBl.out, fun i hi => ?_, HS3.out⟩
        have h1 := HB3b.out i (by rw [HBl.out]; exact hi)
        rw [h1, HBb.out i hi, HBl.out, Htk.out]
        rw [← Bool.decide_or]
        refine decide_eq_decide.2 ⟨fun h => ?_, fun h => ?_⟩
        · rcases h with ⟨x, h2, h3⟩ | h
          · exact ⟨x, List.mem_append_left _ h2, h3⟩
          · exact ⟨r, List.mem_append_right _ (by simp), h⟩
        · obtain ⟨x, h2, h3⟩ := h
          rcases List.mem_append.1 h2 with h2 | h2
          · exact .inl ⟨x, h2, h3⟩
          · rw [List.mem_singleton] at h2; rw [h2] at h3; exact .inr h3
    · have hge : ¬ (j : Int) < (N.R.length : Int) := by omega
      obtain rfl : j = N.R.length := by omega
      clear hvv
      go_wp2
      go_end0
      refine ⟨rfl, q, B', by rw [HBl.out, Hbits.out], fun i hi => ?_, HS.out⟩
      have := HBb.out i (by rw [← Hbits.out]; exact hi)
      rw [List.take_length] at this
      rw [this, Hbits.out]
end Go.Proofs.YtnfbchhbcinloaaGreat

/- The finder and the reference's in step: plain. -/
namespace Go.Proofs.YtnfbchhbcinloaaGreat
open Go.RowKit Go.XR Go.IndexPure Go.CachePure Go.FindPure
/-- tables in step: shelf by shelf, and what they tell -/
def TabsIn (C : CchT) (T : List TabE) : Prop := C.map (·.1) = T.map (·.sh) ∧ ∀ i (h1 : i < C.length) (h2 : i < T.length), ∀ k, aget C[i].2 k = aget T[i].L k
structure InStep (M : FinT) (N : RefT) : Prop where
  len : N.B.length = M.bits
  bits : ∀ i, i < M.bits → bg N.B i = bitAt M.Y i
  probes : N.probes = M.probes
  room : N.room = M.room
  tabs : TabsIn M.C N.T
  rows : AllOf M.D N.R
  asked : N.asked = M.asked
  loaded : N.loaded = M.loaded
theorem TabsIn.len {C : CchT} {T : List TabE} (h : TabsIn C T) : C.length = T.length := by have := congrArg List.length h.1; simpa using this
theorem may_step {M : FinT} {N : RefT} (h : InStep M N) (k : KeyT) : (places N.B.length N.probes k).all (bg N.B) = mayB M.bits M.probes M.Y k := by
  unfold mayB
  rw [h.len, h.probes, Bool.eq_iff_iff, List.all_eq_true, List.all_eq_true]
  exact ⟨fun h1 p hp => by rw [← h.bits p (places_lt hp)]; exact h1 p hp, fun h1 p hp => by rw [h.bits p (places_lt hp)]; exact h1 p hp⟩
theorem get_step {C : CchT} {T : List TabE} (h : TabsIn C T) (k : KeyT) : tabGet T k = cGet C k := by
  have e : T.map (fun e => aget e.L k) = C.map (fun t => aget t.2 k) := by
    refine List.ext_getElem (by simp [h.len]) fun i h1 h2 => ?_
    rw [List.getElem_map, List.getElem_map]
    exact (h.2 i (by simpa using h2) (by simpa using h1) k).symm
  have e1 : tabGet T k = (T.map (fun e => aget e.L k)).findSome? id := by unfold tabGet; rw [List.findSome?_map]; rfl
  have e2 : cGet C k = (C.map (fun t => aget t.2 k)).findSome? id := by unfold cGet; rw [List.findSome?_map]; rfl
  rw [e1, e2, e]
theorem TabsIn.nil : TabsIn [] [] := ⟨rfl, fun i h => absurd h (by simp)⟩
theorem TabsIn.cons_iff {c : I64 × TabT} {C : CchT} {e : TabE} {T : List TabE} : TabsIn (c :: C) (e :: T) ↔ (c.1 = e.sh ∧ ∀ k, aget c.2 k = aget e.L k) ∧ TabsIn C T := by
  constructor
  · rintro ⟨h1, h2⟩
    rw [List.map_cons, List.map_cons] at h1
    injection h1 with h3 h4
    exact ⟨⟨h3, fun k => h2 0 (by simp) (by simp) k⟩, h4, fun i g1 g2 k => h2 (i + 1) (by simpa using g1) (by simpa using g2) k⟩
  · rintro ⟨⟨h3, h5⟩, h4, h2⟩
    refine ⟨by rw [List.map_cons, List.map_cons, h3, h4], fun i g1 g2 k => ?_⟩
    cases i with
    | zero => exact h5 k
    | succ i => exact h2 i (by simpa using g1) (by simpa using g2) k
theorem del_step {s : Int} : ∀ {C : CchT} {T : List TabE}, TabsIn C T → TabsIn (delS C s) (delE T s)
  | [], [], _ => TabsIn.nil
  | [], _ :: _, h => by have := h.len; simp at this
  | _ :: _, [], h => by have := h.len; simp at this
  | c :: C, e :: T, h => by
    obtain ⟨h1, h2⟩ := TabsIn.cons_iff.1 h
    have ih := del_step (s := s) h2
    unfold delS delE at *
    by_cases hs : c.1.1 = s
    · rw [List.filter_cons_of_neg (by simpa using hs), List.filter_cons_of_neg (by rw [← h1.1]; simpa using hs)]
      exact ih
    · rw [List.filter_cons_of_pos (by simpa using hs), List.filter_cons_of_pos (by rw [← h1.1]; simpa using hs)]
      exact TabsIn.cons_iff.2 ⟨h1, ih⟩
theorem forget_step {C : CchT} {T : List TabE} (h : TabsIn C T) (D : List RowT) (k : KeyT) : TabsIn (cForget C D k) (tForget T D k) := by
  unfold cForget tForget
  cases aget D k with
  | none => exact h
  | some v => exact del_step h
theorem put_step {M : FinT} {N N' : RefT} {k : KeyT} {v : PlaceT} (h : InStep M N) (hinv : Inv M) (hp : RPutOk N M.D k v N') : InStep (fPut M k v) N' where
  len := hp.len.trans h.len
  bits := fun i hi => by
    have hi' : i < M.bits := hi
    rw [hp.bits i (by rw [h.len]; exact hi'), h.bits i hi', h.len, h.probes]
    exact (hinv.sum.bit_add M.probes k i).symm
  probes := hp.probes.trans h.probes
  room := hp.room.trans h.room
  tabs := by rw [hp.T]; exact del_step (forget_step h.tabs M.D k)
  rows := by obtain ⟨i, hL, hR⟩ := hp.R; rw [hR]; exact allof_put h.rows hinv.nd hL v
  asked := hp.asked.trans h.asked
  loaded := hp.loaded.trans h.loaded
theorem drop_step {M : FinT} {N N' : RefT} {k : KeyT} (h : InStep M N) (hinv : Inv M) (hp : RDropOk N M.D k N') : InStep (fDrop M k) N' where
  len := by rw [hp.same.2.2.2.2]; exact h.len
  bits := fun i hi => by rw [hp.same.2.2.2.2]; exact h.bits i hi
  probes := hp.same.1.trans h.probes
  room := hp.same.2.1.trans h.room
  tabs := by rw [hp.T]; exact forget_step h.tabs M.D k
  rows := by
    obtain ⟨i, hL, hR⟩ := hp.R
    rw [hR]
    by_cases hk : k ∈ N.R.map (·.1)
    · rw [if_pos hk]; exact allof_drop h.rows hinv.nd hL
    · rw [if_neg hk]
      have hn : aget M.D k = none := by
        cases e : aget M.D k with
        | none => rfl
        | some v => exact absurd ((allof_some h.rows hinv.nd k).2 (by rw [e]; rfl)) hk
      have : adel M.D k = M.D := List.filter_eq_self.2 fun p hp => by simpa using aget_none.1 hn p hp
      show AllOf (adel M.D k) N.R
      rw [this]; exact h.rows
  asked := hp.same.2.2.1.trans h.asked
  loaded := hp.same.2.2.2.1.trans h.loaded
theorem blur_step {M : FinT} {N : RefT} {b : List Nat} {B' : List Bool} (h : InStep M N) (hinv : Inv M) (hl : B'.length = N.B.length) (hB : ∀ i, i < N.B.length → bg B' i = (bg N.B i || bitAt b i)) : InStep { M with Y := blurB M.bits M.Y b } { N with B := B' } where
  len := hl.trans h.len
  bits := fun i hi => by
    have hi' : i < M.bits := hi
    show bg B' i = _
    rw [hB i (by rw [h.len]; exact hi'), h.bits i hi']
    exact (hinv.sum.bit_blur hi').symm
  probes := h.probes
  room := h.room
  tabs := h.tabs
  rows := h.rows
  asked := h.asked
  loaded := h.loaded
theorem TabsIn.snoc {C : CchT} {T : List TabE} (h : TabsIn C T) {c : I64 × TabT} {e : TabE} (h1 : c.1 = e.sh) (h2 : ∀ k, aget c.2 k = aget e.L k) : TabsIn (C ++ [c]) (T ++ [e]) := by
  have hl := h.len
  refine ⟨by rw [List.map_append, List.map_append, h.1, List.map_cons, List.map_cons, h1, List.map_nil, List.map_nil], fun i g1 g2 k => ?_⟩
  by_cases hi : i < C.length
  · rw [List.getElem_append_left hi, List.getElem_append_left (by omega)]
    exact h.2 i hi (by omega) k
  · rw [List.getElem_append_right (by omega), List.getElem_append_right (by omega)]
    simp only [List.length_append, List.length_cons, List.length_nil] at g1
    have e0 : i - C.length = 0 := by omega
    have e1 : i - T.length = 0 := by omega
    simp only [e0, e1, List.getElem_cons_zero]
    exact h2 k
theorem TabsIn.mem {C : CchT} {T : List TabE} (h : TabsIn C T) (s : I64) : s ∈ C.map (·.1) ↔ s.1 ∈ T.map (·.sh.1) := by
  rw [h.1]
  constructor
  · intro h1
    obtain ⟨e, he, rfl⟩ := List.mem_map.1 h1
    exact List.mem_map.2 ⟨e, he, rfl⟩
  · intro h1
    obtain ⟨e, he, h2⟩ := List.mem_map.1 h1
    exact List.mem_map.2 ⟨e, he, Subtype.ext h2⟩
theorem load_step {room draw : Nat} {C : CchT} {T T' : List TabE} {s : I64} {L : List RowT} (h : TabsIn C T) (hn : (C.map (·.1)).Nodup) (h0 : T.length ≤ room) (hl : LoadE room T s.1 L draw T') : TabsIn (cLoad room C s L draw) T' := by
  unfold cLoad
  have hc : (room = 0 ∨ (aget C s).isSome = true) ↔ (room = 0 ∨ s.1 ∈ T.map (·.sh.1)) := by rw [mem_aget hn, h.mem]
  rcases hl with ⟨h1, rfl⟩ | ⟨h1, e, he, hL, rfl⟩
  · rw [if_pos (hc.2 h1)]; exact h
  · rw [if_neg (fun h2 => h1 (hc.1 h2))]
    refine TabsIn.snoc ?_ (Subtype.ext he.symm) (fun k => by rw [aget_tabOf, hL])
    unfold cEvict evE
    rw [h.len]
    by_cases hf : T.length = room
    · rw [if_pos hf, if_pos hf]
      have hr : room ≠ 0 := fun h2 => h1 (.inl h2)
      have hj : draw % T.length < T.length := Nat.mod_lt _ (by omega)
      generalize draw % T.length = j at hj ⊢
      have hjc : j < C.length := by rw [h.len]; exact hj
      rw [List.getElem?_eq_getElem hjc, cutE (by rw [← h.1]; exact hn) hj rfl]
      have hsh : C[j].1 = T[j].sh := by
        have := congrArg (fun l => l[j]?) h.1
        simpa [List.getElem?_eq_getElem hjc, List.getElem?_eq_getElem hj] using this
      show TabsIn (adel C C[j].1) _
      rw [← delS_adel, hsh]
      exact del_step h
    · rw [if_neg hf, if_neg hf]; exact h
theorem find_step {M : FinT} {N N' : RefT} {k : KeyT} {draw : Nat} {o : Option PlaceT} {L : List RowT} (h : InStep M N) (hinv : Inv M) (hn : (M.C.map (·.1)).Nodup) (h0 : N.T.length ≤ N.room) (hrng : ∀ k v, aget M.D k = some v → PlaceOk v) (hL : mayB M.bits M.probes M.Y k = true → cGet M.C k = none → ∀ v, aget M.D k = some v → ShelfOf M.D v.shelf L) (hp : RFindOk N M.D k draw o N') : (fFind M k draw L).1 = o ∧ InStep (fFind M k draw L).2 N' := by
  unfold RFindOk at hp
  rw [may_step h, get_step h.tabs] at hp
  unfold fFind
  by_cases hm : mayB M.bits M.probes M.Y k = true
  · rw [if_pos hm] at hp ⊢
    cases hg : cGet M.C k with
    | some v => rw [hg] at hp; obtain ⟨rfl, rfl⟩ := hp; exact ⟨rfl, h⟩
    | none =>
      rw [hg] at hp
      cases ha : aget M.D k with
      | none => rw [ha] at hp; obtain ⟨rfl, rfl⟩ := hp; exact ⟨rfl, { h with asked := congrArg (· + 1) h.asked }⟩
      | some v =>
        rw [ha] at hp
        obtain ⟨rfl, L2, T', hs, hl, rfl⟩ := hp
        obtain ⟨s, hsv⟩ : ∃ s : I64, v.shelf = s.1 := ⟨⟨v.shelf, (hrng k v ha).1⟩, rfl⟩
        have hLL : L2 = L := ShelfOf.same hs (hL hm hg v ha) (fun _ => rfl) hinv.nd hinv.nd
        subst hLL
        rw [hsv, h.room] at hl
        refine ⟨rfl, { h with tabs := ?_, asked := congrArg (· + 1) h.asked, loaded := congrArg (· + 1) h.loaded }⟩
        show TabsIn (cLoad M.room M.C (mkI v.shelf) L2 draw) T'
        rw [hsv, mkI_val]
        exact load_step h.tabs hn (by rw [← h.room]; exact h0) hl
  · rw [if_neg hm] at hp ⊢
    obtain ⟨rfl, rfl⟩ := hp
    exact ⟨rfl, h⟩
theorem bit_foldl {bits probes : Nat} (L : List RowT) : ∀ {Y : List Nat}, SumOk bits Y → ∀ i, bitAt (L.foldl (fun Y r => addB bits probes Y r.1) Y) i = (bitAt Y i || decide (∃ r ∈ L, i ∈ places bits probes r.1)) := by
  induction L with
  | nil => intro Y _ i; simp
  | cons x L ih =>
    intro Y h i
    rw [List.foldl_cons, ih (h.add probes x.1), h.bit_add, Bool.or_assoc, ← Bool.decide_or]
    congr 1
    exact decide_eq_decide.2 (by simp)
theorem bit_rep (n i : Nat) : bitAt (List.replicate n 0) i = false := by
  unfold bitAt
  rw [List.getD_eq_getElem?_getD]
  cases h : (List.replicate n 0)[i / 8]? with
  | none => simp
  | some x => rw [(List.mem_replicate.1 (List.mem_of_getElem? h)).2]; simp
theorem anew_step {M : FinT} {N : RefT} {L : List RowT} {B' : List Bool} (h : InStep M N) (hL : AllOf M.D L) (hl : B'.length = N.B.length) (hB : ∀ i, i < N.B.length → bg B' i = decide (∃ r ∈ N.R, i ∈ places N.B.length N.probes r.1)) : InStep { M with Y := anewB M.bits M.probes L } { N with B := B' } where
  len := hl.trans h.len
  bits := fun i hi => by
    have hi' : i < M.bits := hi
    have e : anewB M.bits M.probes L = L.foldl (fun Y r => addB M.bits M.probes Y r.1) (List.replicate ((M.bits + 7) / 8) 0) := rfl
    show bg B' i = bitAt (anewB M.bits M.probes L) i
    rw [hB i (by rw [h.len]; exact hi'), e, bit_foldl L (SumOk.zero M.bits), bit_rep, Bool.false_or, h.len, h.probes]
    exact decide_eq_decide.2 ⟨fun ⟨r, h1, h2⟩ => ⟨r, hL.1.mem_iff.2 (h.rows.1.mem_iff.1 h1), h2⟩, fun ⟨r, h1, h2⟩ => ⟨r, h.rows.1.mem_iff.2 (hL.1.mem_iff.1 h1), h2⟩⟩
  probes := h.probes
  room := h.room
  tabs := h.tabs
  rows := h.rows
  asked := h.asked
  loaded := h.loaded
end Go.Proofs.YtnfbchhbcinloaaGreat

/- Two finders in one world, in step: the true one and the reference's. -/
namespace Go.Proofs.YtnfbchhbcinloaaGreat
open Go.RowKit Go.XR Go.IndexPure Go.CachePure Go.FindPure
theorem FOn.cache {w : World} {p : Nat} {F : List Nat} {M : FinT} (h : FOn w p F M) : (M.C.map (·.1)).Nodup ∧ M.C.length ≤ M.room ∧ M.room ≤ 4096 := by
  obtain ⟨Fi, Fc, ip, vp, vq, cp, h1, _⟩ := h
  obtain ⟨tb, a, cap, T, h2⟩ := h1.ch
  exact ⟨h2.nd, h2.len, h2.room⟩
/-- both finders; X: the blocks of both -/
structure Duo (w : World) (p fp ip vp vq cp : Nat) (F G : List Nat) (M : FinT) (N : RefT) : Prop where
  on : FOn w p F M
  rf : RFin w fp ip vp vq cp G F N
  step : InStep M N
  inv : Inv M
def DTo (w : World) (p fp ip vp vq cp : Nat) (F G : List Nat) (M' : FinT) (N' : RefT) (w' : World) : Prop :=
  ∃ vq' F' G', Duo w' p fp ip vp vq' cp F' G' M' N' ∧ But (F ++ mine fp ip vp vq G) w w' ∧ Grew w (F ++ mine fp ip vp vq G) (F' ++ mine fp ip vp vq' G')
section
variable {w w' w1 : World} {p fp ip vp vq vq' cp : Nat} {F F' G G' S : List Nat} {M M' : FinT} {N N' : RefT}
theorem Duo.tabs (h : Duo w p fp ip vp vq cp F G M N) : N.T.length ≤ N.room ∧ N.room ≤ 4096 ∧ (N.T.map (·.sh)).Nodup := by
  obtain ⟨h1, h2, h3⟩ := h.on.cache
  have hl := h.step.tabs.len
  exact ⟨by rw [← hl, h.step.room]; exact h2, by rw [h.step.room]; exact h3, by rw [← h.step.tabs.1]; exact h1⟩
theorem Duo.rlen (h : Duo w p fp ip vp vq cp F G M N) : N.R.length = M.D.length := h.step.rows.1.length_eq
theorem Duo.below (h : Duo w p fp ip vp vq cp F G M N) (hb : Below w.heap.size w w') : Duo w' p fp ip vp vq cp F G M N := ⟨h.on.below hb, h.rf.below hb, h.step, h.inv⟩
/-- the true finder has taken a step, the reference's not yet -/
theorem Duo.first (h : Duo w p fp ip vp vq cp F G M N) (ht : FTo w p F M' w') : ∃ F', FOn w' p F' M' ∧ RFin w' fp ip vp vq cp G F' N ∧ But F w w' ∧ Grew w F F' := by
  obtain ⟨F', h1, h2, h3⟩ := ht
  exact ⟨F', h1, h.rf.grew h2 h3 h1.lt, h2, h3⟩
/-- and now the reference's too -/
theorem Duo.second (_ : Duo w p fp ip vp vq cp F G M N) (h1 : FOn w1 p F' M') (hb : But F w w1) (hg : Grew w F F') (hr : RFin w1 fp ip vp vq cp G F' N) (hs : RSt w1 (mine fp ip vp vq G) w' fp ip vp vq' cp G' F' N') (hst : InStep M' N') (hinv : Inv M') : DTo w p fp ip vp vq cp F G M' N' w' := by
  refine ⟨vq', F', G', ⟨h1.but hs.but (fun b hb2 hm => hr.mineOut b hm hb2), hs.fin, hst, hinv⟩, ?_, fun b hb2 => ?_⟩
  · exact (hb.mono fun i hi _ => List.mem_append_left _ hi).trans (hs.but.mono fun i hi _ => List.mem_append_right _ hi)
  · rcases List.mem_append.1 hb2 with h3 | h3
    · exact (hg b h3).imp (List.mem_append_left _) id
    · rcases hs.grew b h3 with h4 | h4
      · exact .inl (List.mem_append_right _ h4)
      · exact .inr (Nat.le_trans hb.size h4)
end
end Go.Proofs.YtnfbchhbcinloaaGreat
