/- The walk over slices.Delete of one number. -/
import Derived.Test.YtnfbchhbcinloaaGe
import Derived.Test.YtnfbchhbcinloaaClr
import Derived.Test.YtnfbchhbcinloaaAe
import Derived.Laws.OwnMore
namespace Go.Proofs.Ytnfbchhbcinloaa
open Go.RowKit Go.XR Go.IndexPure
theorem owns_shorter {w : World} {base : Nat} {e : TypeId} {size g n c : Nat} {xs : List Value} (h : w.ownsRow base e size (.slice (some ⟨g, 0, none⟩) n c) n xs) {m : Nat} (hm : m ≤ n) : w.ownsRow base e size (.slice (some ⟨g, 0, none⟩) m c) m (xs.take (m * size)) := by
  have h0 := h.1
  have hmn : m * size ≤ n * size := Nat.mul_le_mul_right _ hm
  refine ⟨by rw [List.length_take, h0]; omega, ?_⟩
  rcases h.2 with ⟨h1, _⟩ | ⟨g', cap, cur, h1, h2, h3, h4, h5, h6, h7⟩
  · cases h1
  · cases h1
    exact .inr ⟨g, c, cur, rfl, h2, h3, Nat.le_trans hm h4, h5, h6, by rw [← h7, List.take_take, Nat.min_eq_left hmn]⟩
theorem wp_append_fits {P : Program} {w : World} {A : Act} {K : Act → World → Prop} {Q : Exit → Act → World → Prop} {dst : Option Tmp} {s x : Operand} {t ty : TypeId} {pos : String} {after : Array Edge} {guard : Option (Nat × Bool)}
    (base : Nat) (e : TypeId) (i : TypeInfo) (size : Nat) (ht : P.underlying t = some (.slice e)) (hi : P.info? e = some i) (hsize : i.size = size) (g n cap : Nat) (xs : List Value) (hs : A.eval s = .slice (some ⟨g, 0, none⟩) n cap) (hown : w.ownsRow base e size (.slice (some ⟨g, 0, none⟩) n cap) n xs)
    (a : Addr) (m c : Nat) (hx : A.eval x = .slice (some a) m c) (news : List Value) (hl : news.length = m * size) (hnews : ∀ j u, news[j]? = some u → w.cell? (a.add j) = some u) (h1 : ∀ u ∈ news, u.oneCell' = true) (hroom : n + m ≤ cap)
    (h : ∀ w', w'.ownsRow base e size (.slice (some ⟨g, 0, none⟩) (n + m) cap) (n + m) (xs ++ news) → w.grownBy w' (some g) → K (A.put dst (.slice (some ⟨g, 0, none⟩) (n + m) cap)) w') :
    Oper.wp P ⟨dst, .call { callee := .builtin .append, args := #[s, x], argTypes := #[t, t] }, ty, pos, after, guard⟩ A w K Q := by
  obtain ⟨w', hr, ho, hg⟩ := run_append_fits (P := P) (w := w) base t ty e i size ht hi hsize g n cap xs hown a m c news hl hnews h1 hroom
  have := h w' ho hg
  unfold Oper.wp execOp
  simp only [resolve, invoke, builtin, Sem.run_bind, Sem.run_pure, Result.andThen_ok, List.map_toArray, List.map_cons, List.map_nil, hs, hx, hr]
  exact this
theorem wpList_clear_t {P : Program} {w : World} {ops : Array Oper} {rest : List Oper} {o : Oper} {a : Act} {Q : Exit → Act → World → Prop} (hgd : o.guard = none) (x : Operand) (t e : TypeId)
    (ho : o.op = .call { callee := .builtin .clear, args := #[x], argTypes := #[t] })
    (g off n c : Nat) (hx : a.eval x = .slice (some ⟨g, off, none⟩) n c) (ht : P.underlying t = some (.slice e)) (z : Value) (hz : (zeroValue e).run P w = .ok z w) (h1 : ∀ v ∈ z.cells.toList, v.oneCell' = true)
    (T : TypeId) (cur : Array Value) (hg : w.heap[g]? = some (.cells cur T (0, 0))) (hl : off + n * z.cells.size ≤ cur.size) (hn : n ≠ 0)
    (hK : wpList P ops Q rest (a.put o.dst (.tuple #[])) (w.setRow g (cur.toList.take off ++ (Builtin.zeroCells z.cells n).toList ++ cur.toList.drop (off + n * z.cells.size)).toArray)) :
    wpList P ops Q (o :: rest) a w := by
  refine wpList_plain hgd fun _ hK' => ?_
  have := hK' _ _ hK
  obtain ⟨dst, op, ty, pos, after, guard⟩ := o
  cases ho
  have hzl := zeros_length z.cells n
  have hs := run_storeCells_at (P := P) g off T (Builtin.zeroCells z.cells n).toList 0 cur w hg (by rw [hzl]; simpa using hl) (zeros_one h1 n)
  have hr : (Builtin.clear_ #[t] ty #[a.eval x]).run P w = .ok (.tuple #[]) (w.setRow g (cur.toList.take off ++ (Builtin.zeroCells z.cells n).toList ++ cur.toList.drop (off + n * z.cells.size)).toArray) := by
    rw [hx]
    rw [hzl] at hs
    unfold Builtin.clear_
    simp only [List.size_toArray, List.length_cons, List.length_nil, List.getElem?_toArray, List.getElem?_cons_zero, Sem.run_bind, run_underlying ht, Result.andThen_ok]
    cases n with
    | zero => exact absurd rfl hn
    | succ n =>
      simp only [Sem.run_bind, hz, Result.andThen_ok, Sem.run_pure]
      simp only [Nat.add_zero] at hs
      rw [hs]
      rfl
  unfold Oper.wp execOp
  simp only [resolve, invoke, builtin, Sem.run_bind, Sem.run_pure, Result.andThen_ok, List.map_toArray, List.map_cons, List.map_nil, hr]
  exact this
theorem z32_one : ∀ v ∈ (Value.int .u32 0).cells.toList, v.oneCell' = true := by
  intro v hv
  simp [Value.cells] at hv
  subst hv; rfl
theorem nL_one (n : UInt32) : ∀ v ∈ nL n, v.oneCell' = true := by
  intro v hv
  unfold nL at hv
  rw [List.mem_singleton] at hv
  subst hv; rfl
def RetDel (w : World) (B g c : Nat) (l : List UInt32) (e : Ending) (w' : World) : Prop :=
  e = .returned (.slice (some ⟨g, 0, none⟩) l.length c) ∧ w'.ownsRow B 25 1 (.slice (some ⟨g, 0, none⟩) l.length c) l.length (l.flatMap nL) ∧ But [g] w w'
set_option maxHeartbeats 1000000 in
set_option maxRecDepth 100000 in
theorem delete_any (w : World) (B g c : Nat) (l : List UInt32) (hown : w.ownsRow B 25 1 (.slice (some ⟨g, 0, none⟩) l.length c) l.length (l.flatMap nL)) (hl : l.length < 2^40) (hcm : c ≤ 9223372036854775807) (i : Nat) (hi : i < l.length) :
    Calls Try.prog 46 #[.slice (some ⟨g, 0, none⟩) l.length c, .int .i64 i, .int .i64 ((i : Int) + 1)] w (RetDel w B g c (l.take i ++ l.drop (i + 1))) := by
  have hlc := owns_le hown
  have Hown := Lib.hid hown
  have hrow := Row.owned hown
  have Hrow := Lib.hid hrow
  clear hown hrow
  have hne : ¬ (i : Int) = (i : Int) + 1 := by omega
  obtain ⟨L, hL⟩ : ∃ L, l.take i ++ l.drop (i + 1) = L := ⟨_, rfl⟩
  have HLl : Hid (L.length = i + (l.length - (i + 1))) := by unfold Hid; rw [← hL, List.length_append, List.length_take, List.length_drop]; omega
  have HLf : Hid ((l.take i).flatMap nL ++ (l.drop (i + 1)).flatMap nL = L.flatMap nL) := by unfold Hid; rw [← hL, List.flatMap_append]
  rw [hL]
  clear hL
  go_enter Try.func46, Try.ntmps46
  go_wp2
  have Hd1 : Hid (((l.drop (i + 1)).flatMap nL).length = (l.length - (i + 1)) * 1) := by unfold Hid; rw [flat_len (enc := nL) (k := 1) (fun _ => rfl), List.length_drop]
  obtain ⟨ad, had, hd2⟩ : ∃ ad : Addr, (if c = i + 1 then some (⟨g, 0, none⟩ : Addr) else some ⟨g, i + 1, none⟩) = some ad ∧ ∀ j u, ((l.drop (i + 1)).flatMap nL)[j]? = some u → w.drew.cell? (ad.add j) = some u := by
    by_cases hce : c = i + 1
    · refine ⟨⟨g, 0, none⟩, by rw [if_pos hce], fun j u hj => ?_⟩
      rw [List.drop_eq_nil_of_le (by omega)] at hj
      simp at hj
    · refine ⟨⟨g, i + 1, none⟩, by rw [if_neg hce], fun j u hj => ?_⟩
      have h1 := flat_drop (enc := nL) (k := 1) (fun _ => rfl) l (i := i + 1) (by omega)
      rw [Nat.mul_one] at h1
      rw [← h1, List.getElem?_drop] at hj
      obtain ⟨_, _, he, h3⟩ := Hrow.out.get hj
      cases he
      have hadd : (⟨g, i + 1, none⟩ : Addr).add j = ⟨g, i + 1 + j, none⟩ := by unfold Addr.add; split <;> simp_all
      rw [hadd]
      rw [show 0 + (i + 1 + j) = i + 1 + j by omega] at h3
      exact h3
  have Had := Lib.hid had
  have Hd2 := Lib.hid hd2
  clear had hd2
  have Hsh : Hid (w.drew.ownsRow B 25 1 (.slice (some ⟨g, 0, none⟩) i c) i ((l.take i).flatMap nL)) := by
    have h1 := owns_shorter Hown.out (m := i) (by omega)
    rw [flat_take (enc := nL) (k := 1) (fun _ => rfl) l (by omega)] at h1
    exact h1.drew
  obtain ⟨i0, z0, hi0, hz0, hs0, hb0, hzs0⟩ := info_z (P := Try.prog) (t := 25) (n := 1) (b := 4) (by kernel_rfl)
  have Hi0 := Lib.hid hi0
  have Hs0 := Lib.hid hs0
  clear hi0 hz0 hs0 hb0 hzs0
  refine Go.XR.region_sched ((· = w.drew)) [(0, true), (1, true), (2, true), (3, true), (4, true), (5, true), (6, false), (7, false)] [6, 7] Try.mixed (by kernel_rfl) (by kernel_rfl) (by kernel_rfl) ?_
  simp only [List.map_cons, List.map_nil, List.getElem?_cons_succ, List.getElem?_cons_zero]
  repeat (first | (refine Go.XR.S_light rfl rfl rfl ?_ (fun w' hS K hK => ?_) (fun K hK => ?_); rotate_left 1; (cases hS; go_step; exact hK); go_step; refine hK _ ?_; clear hK K))
  refine Go.XR.S_heavy (fun K hK => ?_)
  refine wp_append_fits B 25 i0 1 Try.underlying85 Hi0.out Hs0.out g i c ((l.take i).flatMap nL) rfl Hsh.out ad (l.length - (i + 1)) (c - (i + 1)) (congrArg (fun x => Value.slice x (l.length - (i + 1)) (c - (i + 1))) Had.out) ((l.drop (i + 1)).flatMap nL) Hd1.out Hd2.out (fun u hu => ?_) (by omega) ?_
  · obtain ⟨b, _, hb⟩ := List.mem_flatMap.1 hu
    exact nL_one b u hb
  intro w2 ho2 hg2
  rw [← HLl.out, HLf.out] at ho2
  rw [← HLl.out]
  refine hK _ _ ⟨fun h => by simp at h, ?_⟩
  clear hK K
  repeat (first | (refine Go.XR.S_heavy (fun K hK => ?_); go_step; refine hK _ _ ⟨fun h => by simp at h, ?_⟩; clear hK K))
  refine Go.XR.S_nil ?_
  have hLl := HLl.out
  have hLlt : L.length < l.length := by omega
  have hcne : ¬ c = L.length := by omega
  clear HLl hLl
  have Hb2 : Hid (But [g] w w2) := (But.refl [g] w).drew.trans (But.of_grown hg2)
  obtain ⟨cur, hcur, hcs, htk⟩ : ∃ cur : Array Value, w2.heap[g]? = some (.cells cur 25 (0, 0)) ∧ cur.size = c ∧ cur.toList.take L.length = L.flatMap nL := by
    rcases ho2.2 with ⟨h1, _⟩ | ⟨g', cap, cur, h1, h2, h3, h4, h5, h6, h7⟩
    · cases h1
    · cases h1
      exact ⟨cur, h3, by rw [h6, Nat.mul_one], by rw [Nat.mul_one] at h7; exact h7⟩
  have HC2 : Hid (w2.heap[g]? = some (.cells cur 25 (0, 0))) := hcur
  have Hcs := Lib.hid hcs
  have Htk := Lib.hid htk
  have Hlen := Lib.hid ho2.1
  obtain ⟨hB, hcm2⟩ : B ≤ g ∧ c ≤ maxLen := by
    rcases ho2.2 with ⟨h1, _⟩ | ⟨g', cap, cur, h1, h2, h3, h4, h5, h6, h7⟩
    · cases h1
    · cases h1; exact ⟨h2, h5⟩
  have Hend : Hid (∀ zs : List Value, zs.length = l.length - L.length → RetDel w B g c L (.returned (.slice (some ⟨g, 0, none⟩) L.length c)) (w2.setRow g (cur.toList.take L.length ++ (zs ++ cur.toList.drop (L.length + (l.length - L.length)))).toArray)) := fun zs hz => by
    refine ⟨rfl, ⟨Hlen.out, .inr ⟨g, c, _, rfl, hB, setRow_heap w2 g _ _ _ _ HC2.out, by omega, hcm2, ?_, ?_⟩⟩, Hb2.out.trans ((But.refl [g] w2).setRow (.inl (by simp)) _)⟩
    · have := Hcs.out
      simp [hz]; omega
    · have e : (cur.toList.take L.length).length = L.length := by
        have e1 : cur.toList.length = cur.size := Array.length_toList
        have e2 := Hcs.out
        rw [List.length_take]; omega
      rw [Nat.mul_one]
      show (cur.toList.take L.length ++ (zs ++ cur.toList.drop (L.length + (l.length - L.length)))).take L.length = _
      rw [List.take_left' e, Htk.out]
  have Hc0 : Hid (l.length - L.length ≠ 0) := by unfold Hid; omega
  clear hcur hcs htk ho2 hg2 hB hcm2
  go_wp2_with (refine wpList_clear_t rfl _ 85 25 rfl g L.length (l.length - L.length) _ rfl Try.underlying85 (.int .u32 0) (Try.zeroValue25 _) z32_one 25 cur HC2.out (by have := Hcs.out; show L.length + (l.length - L.length) * 1 ≤ cur.size; omega) Hc0.out ?_)
  all_goals go_ret
  · have h1 := Hend.out (Builtin.zeroCells #[Value.int .u32 0] (l.length - L.length)).toList (by rw [zeros_length]; show (l.length - L.length) * 1 = _; omega)
    rw [h] at h1
    exact h1
  · exact Hend.out (Builtin.zeroCells #[Value.int .u32 0] (l.length - L.length)).toList (by rw [zeros_length]; show (l.length - L.length) * 1 = _; omega)
end Go.Proofs.Ytnfbchhbcinloaa
