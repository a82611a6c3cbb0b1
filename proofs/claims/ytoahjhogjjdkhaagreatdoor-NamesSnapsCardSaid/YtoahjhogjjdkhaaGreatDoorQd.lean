/- Walks and laws that the statements of this seat share, part 4. -/
import Derived.StringKeys
import Derived.Lib.ConvBytes
import Derived.Shelf.SlIter.Nil
import Derived.Shelf.SortM.Plain
import Derived.Shelf.SortM.SortNone
import Derived.Ground.GgzProg
import Derived.Ground.SlgmProg
import Derived.Test.YtoahjhogjjdkhaaGreatDoorProg
import Derived.ProofKit
import Derived.OpenShut
import Derived.ShutString
import Derived.ChangeOld
import Derived.SizedLaws
import Derived.Deep.Slices
import Derived.ArgAppend
import Derived.Test.YtoahjhogjjdkhaaGreatDoorRows
import Derived.Lib.LaidU8T
import Derived.Lib.LaidIn
import Derived.Deep.DeepHandedRow
import Derived.Shelf.Vars
import Derived.Test.YtoahjhogjjdkhaaGreatDoorQc
/- The walks over Snap, Unsnap, At, Len. -/
namespace Go.XR
open Go Go.RowKit
section
variable {κ ν : Type} [DecidableEq κ] {kv : κ → Value} {vv : ν → Value} {P : Program} {k t e : TypeId} {w : World} {m : Nat} {D : List (κ × ν)} {ops : Array Oper} {rest : List Oper} {o : Oper} {a : Act} {Q : Exit → Act → World → Prop}
theorem wpList_gm_lookup_ok (hg : o.guard = none) (x y : Operand) (t : TypeId) (hop : o.op = .lookup t x y true)
    (KK : KeysOk P k kv) (ht : P.underlying t = some (.map k e)) (z : Value) (hz : ∀ w, (zeroValue e).run P w = .ok z w) (c : κ) (v : Value) (b : Bool) (hm : a.eval x = .map (some m)) (hx : a.eval y = kv c) (h : GM kv vv w m D)
    (hv : ((aget D c).map vv).getD z = v) (hb : (aget D c).isSome = b) (hK : wpList P ops Q rest (a.put o.dst (.tuple #[v, .bool b])) w) : wpList P ops Q (o :: rest) a w :=
  wpList_plain hg fun _ hK' => wp_gm_lookup_ok x y t hop KK ht z hz c v b hm hx h hv hb (hK' _ _ hK)
theorem wpList_gm_lookup (hg : o.guard = none) (x y : Operand) (t : TypeId) (hop : o.op = .lookup t x y false)
    (KK : KeysOk P k kv) (ht : P.underlying t = some (.map k e)) (z : Value) (hz : ∀ w, (zeroValue e).run P w = .ok z w) (c : κ) (v : Value) (hm : a.eval x = .map (some m)) (hx : a.eval y = kv c) (h : GM kv vv w m D)
    (hv : ((aget D c).map vv).getD z = v) (hK : wpList P ops Q rest (a.put o.dst v) w) : wpList P ops Q (o :: rest) a w :=
  wpList_plain hg fun _ hK' => wp_gm_lookup x y t hop KK ht z hz c v hm hx h hv (hK' _ _ hK)
theorem wpList_gm_delete (hg : o.guard = none) (x y : Operand) (t : TypeId) (hop : o.op = .call { callee := .builtin .delete, args := #[x, y], argTypes := #[t, k] })
    (KK : KeysOk P k kv) (ht : P.underlying t = some (.map k e)) (c : κ) (hm : a.eval x = .map (some m)) (hx : a.eval y = kv c) (h : GM kv vv w m D)
    (hK : ∀ w', GM kv vv w' m (adel D c) → But [m] w w' → wpList P ops Q rest (a.put o.dst (.tuple #[])) w') : wpList P ops Q (o :: rest) a w := by
  refine wpList_plain hg fun K hK' => ?_
  obtain ⟨w', hr, h1, h2, h3⟩ := h.delete (P := P) (ty := o.type) KK ht c
  unfold Oper.wp execOp
  simp only [hop, resolve, invoke, builtin, Sem.run_bind, Sem.run_pure, Result.andThen_ok, List.map_toArray, List.map_cons, List.map_nil, hm, hx, hr]
  exact hK' _ _ (hK w' h1 (But.of_grown h2))
omit [DecidableEq κ] in
theorem run_gm_len (ht : P.underlying t = some (.map k e)) (ty : TypeId) (h : GM kv vv w m D) : (Builtin.len_ #[t] ty #[.map (some m)]).run P w = .ok (.int .i64 D.length) w := by
  obtain ⟨es, clock, h3, h4, h5⟩ := h
  have hsz : es.size = D.length := by have := congrArg List.length h5; simpa using this
  rw [← hsz]
  simp [Builtin.len_, run_underlying ht, MapKept.run_getObj_map h3, goInt, Result.andThen]
end
end Go.XR
namespace Go.Proofs.YtoahjhogjjdkhaaGreatDoor
open Go Go.RowKit Go.XR Go.TreePure Go.PathPure Go.NamesPure
theorem keysS : KeysOk Tryz.prog 9 strV := ⟨Go.Maps.string_keyed Tryz.underlying9, fun a => ⟨.string a.1.data.toList, Go.WideMaps.keyOf_string_mk Tryz.underlying9 (by have := a.2; unfold maxLen; omega)⟩, fun a b h => Subtype.ext (by unfold strV at h; injection h)⟩
def snapE (D : List SnapT) (s : SK) : Int := if isName s.1 = false then 1 else if (aget D s).isSome then 3 else if 64 ≤ D.length then 4 else 0
def snapD (s : NSt) (k : SK) : List SnapT := if snapE s.D k = 0 then aput s.D k (s.tp, s.t) else s.D
/-- a call that writes the map of snapshots, and no other block that there was -/
def RetS (w : World) (nb : Nat) (s : NSt) (D : List SnapT) (r : Int) (e : Ending) (w' : World) : Prop := e = .returned (.int .i64 r) ∧ NAt w' nb { s with D := D } ∧ But [s.m] w w'
theorem snapD_oks {w : World} {nb : Nat} {s : NSt} (h : NAt w nb s) {k : SK} (hk : isName k.1 = true) : ∀ q ∈ aput s.D k (s.tp, s.t), (q = (k, (s.tp, s.t)) ∨ q ∈ s.D) := by
  intro q hq
  unfold aput at hq
  split at hq
  · obtain ⟨p, hp, he⟩ := List.mem_map.1 hq
    by_cases hc : p.1 = k
    · rw [if_pos hc] at he; exact .inl he.symm
    · rw [if_neg hc] at he; exact .inr (he ▸ hp)
  · rcases List.mem_append.1 hq with h1 | h1
    · exact .inr h1
    · exact .inl (List.mem_singleton.1 h1)
theorem NAt.snap {w w' : World} {nb : Nat} {s : NSt} (h : NAt w nb s) {k : SK} (hk : isName k.1 = true) (hl : s.D.length < 64) (hg : GM strV treV w' s.m (aput s.D k (s.tp, s.t))) (hb : But [s.m] w w') : NAt w' nb { s with D := aput s.D k (s.tp, s.t) } where
  blk := (hb.block nb h.lt (by simp; exact h.ne)).trans h.blk
  rep := h.rep.but hb h.notree_m
  ok := h.ok
  gm := hg
  reps := fun q hq => by
    rcases snapD_oks h hk q hq with rfl | hq
    · exact h.rep.but hb h.notree_m
    · exact (h.reps q hq).but hb h.notree_m
  oks := fun q hq => by
    rcases snapD_oks h hk q hq with rfl | hq
    · exact ⟨h.ok, hk⟩
    · exact h.oks q hq
  few := by have := aput_le s.D k (s.tp, s.t); show (aput s.D k (s.tp, s.t)).length ≤ 64; omega
theorem NAt.unsnap {w w' : World} {nb : Nat} {s : NSt} (h : NAt w nb s) {k : SK} (hg : GM strV treV w' s.m (adel s.D k)) (hb : But [s.m] w w') : NAt w' nb { s with D := adel s.D k } where
  blk := (hb.block nb h.lt (by simp; exact h.ne)).trans h.blk
  rep := h.rep.but hb h.notree_m
  ok := h.ok
  gm := hg
  reps := fun q hq => (h.reps q (mem_adel.1 hq).1).but hb h.notree_m
  oks := fun q hq => h.oks q (mem_adel.1 hq).1
  few := by have h1 := h.few; have h2 : (adel s.D k).length ≤ s.D.length := List.length_filter_le _ _; show (adel s.D k).length ≤ 64; omega
theorem tre_val (D : List SnapT) (k : SK) : ((aget D k).map treV).getD (.pointer none) = .pointer (((aget D k).map (·.1)).getD none) := by
  cases aget D k <;> rfl
set_option maxHeartbeats 2000000 in
set_option maxRecDepth 100000 in
theorem snap_any (w : World) (hE : Env w) (nb : Nat) (s : NSt) (h : NAt w nb s) (k : SK) :
    Calls Tryz.prog 12 #[.pointer (some ⟨nb, 0, none⟩), .string k.1] w (RetS w nb s (snapD s k) (snapE s.D k)) := by
  obtain ⟨c0, c1, f0⟩ := h.cells
  have HE := Lib.hid hE
  have H := Lib.hid h
  have hln := run_gm_len (P := Tryz.prog) Tryz.underlying77 3 h.gm
  clear hE h
  obtain ⟨is, his⟩ : ∃ is, (aget s.D k).isSome = is := ⟨_, rfl⟩
  have His := Lib.hid his
  clear his
  go_enter Tryz.func12, Tryz.ntmps12
  go_wp2_with (refine wpList_gm_lookup_ok rfl _ _ 77 rfl keysS Tryz.underlying77 (.pointer none) (Tryz.zeroValue75) k _ is rfl rfl H.out.gm (tre_val s.D k) His.out ?_)
  refine (name_any w HE.out.tabs k.1).mono ?_
  rintro e w1 ⟨rfl, hb1⟩
  have H1 := Lib.hid (H.out.below hb1)
  have Hb1 := Lib.hid (But.of_below (S := [s.m]) hb1)
  clear hb1 c0 c1 f0 hln
  obtain ⟨c0, c1, f0⟩ := H1.out.cells
  have hln := run_gm_len (P := Tryz.prog) Tryz.underlying77 3 H1.out.gm
  cases hn : isName k.1 with
  | false =>
    have E : Hid (snapE s.D k = 1) := by unfold Hid snapE; rw [if_pos hn]
    have ED : Hid (snapD s k = s.D) := by unfold Hid snapD; rw [if_neg (by rw [E.out]; decide)]
    clear hn
    go_wp2
    go_ret
    exact ⟨ret_i E.out.symm, by rw [ED.out]; exact H1.out, Hb1.out⟩
  | true =>
    have Hn := Lib.hid hn
    clear hn
    cases his : is with
    | true =>
      have E : Hid (snapE s.D k = 3) := by unfold Hid snapE; rw [if_neg (by rw [Hn.out]; simp), if_pos (by rw [His.out, his])]
      have ED : Hid (snapD s k = s.D) := by unfold Hid snapD; rw [if_neg (by rw [E.out]; decide)]
      clear his
      go_wp2
      go_ret
      exact ⟨ret_i E.out.symm, by rw [ED.out]; exact H1.out, Hb1.out⟩
    | false =>
      rw [his] at His
      clear his
      by_cases hl : 64 ≤ s.D.length
      · have hli : (64 : Int) ≤ (s.D.length : Int) := by omega
        have E : Hid (snapE s.D k = 4) := by unfold Hid snapE; rw [if_neg (by rw [Hn.out]; simp), if_neg (by rw [His.out]; simp), if_pos hl]
        have ED : Hid (snapD s k = s.D) := by unfold Hid snapD; rw [if_neg (by rw [E.out]; decide)]
        go_wp2
        go_ret
        exact ⟨ret_i E.out.symm, by rw [ED.out]; exact H1.out, Hb1.out⟩
      · have hli : ¬ (64 : Int) ≤ (s.D.length : Int) := by omega
        have E : Hid (snapE s.D k = 0) := by unfold Hid snapE; rw [if_neg (by rw [Hn.out]; simp), if_neg (by rw [His.out]; simp), if_neg hl]
        have ED : Hid (snapD s k = aput s.D k (s.tp, s.t)) := by unfold Hid snapD; rw [if_pos E.out]
        have HG2 := Lib.hid (H1.out.gm.below ((Below.refl _ _).drew))
        go_wp2
        clear hln
        refine Go.XR.region_sched ((· = w1.drew)) [(0, true), (1, true), (2, true), (3, true), (4, true), (5, true), (6, true), (7, true), (8, true), (9, false)] [9] Tryz.mixed (by kernel_rfl) (by kernel_rfl) (by kernel_rfl) ?_
        simp only [List.map_cons, List.map_nil, List.getElem?_cons_succ, List.getElem?_cons_zero]
        repeat (first | (refine Go.XR.S_light rfl rfl rfl ?_ (fun w' hS K hK => ?_) (fun K hK => ?_); rotate_left 1; (cases hS; go_step; exact hK); go_step; refine hK _ ?_; clear hK K))
        refine Go.XR.S_heavy (fun K hK => ?_)
        refine wp_gm_update (.tmp 34) (.tmp 35) (.tmp 39) 77 rfl keysS Tryz.underlying77 treV s.m s.D k (s.tp, s.t) rfl rfl rfl HG2.out ?_
        intro w' hg' hgr hsz
        have hb2 : But [s.m] w1 w' := (But.refl [s.m] w1).drew.trans (But.of_grown hgr)
        have H2 := Lib.hid (H1.out.snap Hn.out (by omega) hg' hb2)
        have Hb2 := Lib.hid (Hb1.out.trans hb2)
        clear hg' hgr hsz hb2 c0 c1 f0
        refine hK _ _ ⟨fun h => by simp at h, ?_⟩
        clear hK K
        repeat (first | (refine Go.XR.S_heavy (fun K hK => ?_); go_step; refine hK _ _ ⟨fun h => by simp at h, ?_⟩; clear hK K))
        refine Go.XR.S_nil ?_
        go_wp2
        go_ret
        exact ⟨ret_i E.out.symm, by rw [ED.out]; exact H2.out, Hb2.out⟩
def unsnapE (D : List SnapT) (k : SK) : Int := if (aget D k).isSome then 0 else 2
theorem adel_none {κ ν : Type} [DecidableEq κ] {D : List (κ × ν)} {k : κ} (h : (aget D k).isSome = false) : adel D k = D := by
  unfold adel
  refine List.filter_eq_self.2 fun p hp => ?_
  have h2 : aget D k = none := by simpa using h
  exact decide_eq_true (aget_none.1 h2 p hp)
set_option maxHeartbeats 2000000 in
set_option maxRecDepth 100000 in
theorem unsnap_any (w : World) (nb : Nat) (s : NSt) (h : NAt w nb s) (k : SK) :
    Calls Tryz.prog 42 #[.pointer (some ⟨nb, 0, none⟩), .string k.1] w (RetS w nb s (adel s.D k) (unsnapE s.D k)) := by
  obtain ⟨c0, c1, f0⟩ := h.cells
  have H := Lib.hid h
  clear h
  cases his : (aget s.D k).isSome with
  | false =>
    have E : Hid (unsnapE s.D k = 2) := by unfold Hid unsnapE; rw [his]; rfl
    have ED := Lib.hid (adel_none his)
    have His := Lib.hid his
    clear his
    go_enter Tryz.func42, Tryz.ntmps42
    go_wp2_with (refine wpList_gm_lookup_ok rfl _ _ 77 rfl keysS Tryz.underlying77 (.pointer none) (Tryz.zeroValue75) k _ false rfl rfl H.out.gm (tre_val s.D k) His.out ?_)
    go_ret
    exact ⟨ret_i E.out.symm, by rw [ED.out]; exact H.out, But.refl _ _⟩
  | true =>
    have E : Hid (unsnapE s.D k = 0) := by unfold Hid unsnapE; rw [his]; rfl
    have His := Lib.hid his
    clear his
    go_enter Tryz.func42, Tryz.ntmps42
    go_wp2_with (first | (refine wpList_gm_lookup_ok rfl _ _ 77 rfl keysS Tryz.underlying77 (.pointer none) (Tryz.zeroValue75) k _ true rfl rfl H.out.gm (tre_val s.D k) His.out ?_) | (refine wpList_gm_delete rfl (.tmp 23) (.tmp 24) 77 rfl keysS Tryz.underlying77 k rfl rfl H.out.gm ?_; intro w' hg' hb'; have H2 := Lib.hid (H.out.unsnap hg' hb'); have Hb2 := Lib.hid hb'; clear hg' hb' c0 c1 f0))
    go_ret
    exact ⟨ret_i E.out.symm, H2.out, Hb2.out⟩
def RetAt (w : World) (q : Option (Option Addr × PT)) (e : Ending) (w' : World) : Prop := match q with
  | none => e = .returned (.tuple #[.pointer none, .int .i64 2]) ∧ Below w.heap.size w w'
  | some q => ∃ nb m, e = .returned (.tuple #[.pointer (some ⟨nb, 0, none⟩), .int .i64 0]) ∧ NAt w' nb ⟨q.1, q.2, m, []⟩ ∧ w.heap.size ≤ nb ∧ w.heap.size ≤ m ∧ Below w.heap.size w w'
theorem aget_in {κ ν : Type} [DecidableEq κ] {D : List (κ × ν)} {k : κ} {v : ν} (h : aget D k = some v) : (k, v) ∈ D := by
  induction D with
  | nil => cases h
  | cons p D ih =>
    rw [aget_cons] at h
    by_cases hp : p.1 = k
    · rw [if_pos hp] at h
      cases h; subst hp; exact List.mem_cons_self ..
    · rw [if_neg hp] at h; exact List.mem_cons_of_mem _ (ih h)
set_option maxHeartbeats 2000000 in
set_option maxRecDepth 100000 in
theorem at_any (w : World) (nb : Nat) (s : NSt) (h : NAt w nb s) (k : SK) :
    Calls Tryz.prog 13 #[.pointer (some ⟨nb, 0, none⟩), .string k.1] w (RetAt w (aget s.D k)) := by
  obtain ⟨c0, c1, f0⟩ := h.cells
  have H := Lib.hid h
  clear h
  cases hq : aget s.D k with
  | none =>
    have His : Hid ((aget s.D k).isSome = false) := by unfold Hid; rw [hq]; rfl
    clear hq
    go_enter Tryz.func13, Tryz.ntmps13
    go_wp2_with (refine wpList_gm_lookup_ok rfl _ _ 77 rfl keysS Tryz.underlying77 (.pointer none) (Tryz.zeroValue75) k _ false rfl rfl H.out.gm (tre_val s.D k) His.out ?_)
    go_ret2
    exact ⟨rfl, Below.refl _ _⟩
  | some q =>
    have His : Hid ((aget s.D k).isSome = true) := by unfold Hid; rw [hq]; rfl
    have Hv : Hid (((aget s.D k).map treV).getD (.pointer none) = .pointer q.1) := by unfold Hid; rw [hq]; rfl
    have hin := aget_in hq
    have Hrep := Lib.hid (H.out.reps _ hin)
    have Hok := Lib.hid (H.out.oks _ hin).1
    clear hq hin
    go_enter Tryz.func13, Tryz.ntmps13
    go_wp2_with (refine wpList_gm_lookup_ok rfl _ _ 77 rfl keysS Tryz.underlying77 (.pointer none) (Tryz.zeroValue75) k _ true rfl rfl H.out.gm Hv.out His.out ?_)
    refine (newn_any w).mono ?_
    rintro e w1 ⟨nb', m', rfl, hn, hn1, hm1, hb1⟩
    have Hn := Lib.hid hn
    have Hb1 := Lib.hid hb1
    have Hrep1 := Lib.hid (Hrep.out.below hb1)
    obtain ⟨d0, d1, g0⟩ := hn.cells
    clear hn hb1 c0 c1 f0
    go_wp2
    go_ret2
    exact ⟨nb', m', rfl, Hn.out.now Hrep1.out Hok.out, hn1, hm1, Hb1.out.trans ((But.setCell (S := [nb']) (But.refl _ _) (.inl (by simp)) _).below Hb1.out.size (fun i hi => by rw [List.mem_singleton] at hi; omega))⟩
theorem lenn_any (w : World) (nb : Nat) (s : NSt) (h : NAt w nb s) :
    Calls Tryz.prog 19 #[.pointer (some ⟨nb, 0, none⟩)] w fun e w' => e = .returned (.int .i64 s.t.size) ∧ w = w' := by
  obtain ⟨c0, c1, f0⟩ := h.cells
  have H := Lib.hid h
  clear h
  go_enter Tryz.func19, Tryz.ntmps19
  go_wp2_with fail
  refine (len_any w s.tp s.t H.out.rep).mono ?_
  rintro e w1 ⟨rfl, rfl⟩
  go_wp2
  go_ret
  exact ⟨rfl, rfl⟩
end Go.Proofs.YtoahjhogjjdkhaaGreatDoor

/- The walks over made, Stat, File. -/
namespace Go.Proofs.YtoahjhogjjdkhaaGreatDoor
open Go Go.RowKit Go.XR Go.TreePure Go.PathPure Go.NamesPure
def exts (r : Option (List Ext)) : List Ext := r.getD []
def RetExts (w : World) (l : List Ext) (e : Ending) (w' : World) : Prop := ∃ a c, e = .returned (.slice a l.length c) ∧ Row w' a (l.flatMap rowL) ∧ (a = none → l.length = 0 ∧ c = 0) ∧ Below w.heap.size w w'
theorem bytesW_below (w : World) (e : TypeId) (s : ByteArray) : Below w.heap.size w (Lib.bytesWorld w e s) :=
  ⟨rfl, rfl, rfl, by rw [Lib.bytesWorld_size]; omega, fun i hi => Lib.bytesWorld_at_old w e s i hi⟩
theorem bytesW_row (w : World) (e : TypeId) (b : List UInt8) (s : ByteArray) (hs : s.data.toList = b) : Row (Lib.bytesWorld w e s) (some ⟨w.heap.size, 0, none⟩) (b.map byU) := by
  refine .inr ⟨w.heap.size, 0, rfl, fun j u hj => ?_⟩
  have hl : s.data.toList.length = s.size := Array.length_toList
  have hj2 : j < s.size := by
    have := (List.getElem?_eq_some_iff.1 hj).1
    rw [List.length_map, ← hs, hl] at this; exact this
  rw [Nat.zero_add, Lib.bytesWorld_cell w e s j hj2]
  rw [List.getElem?_map, ← hs] at hj
  cases hq : s.data.toList[j]? with
  | none => rw [hq] at hj; cases hj
  | some x =>
    rw [hq] at hj
    simp only [Option.map_some, Option.some.injEq] at hj
    rw [← hj, List.getD_eq_getElem?_getD, hq]; rfl
set_option maxHeartbeats 2000000 in
set_option maxRecDepth 100000 in
theorem made_any (w : World) (b : List UInt8) (hb : b.length ≤ 2^30) : Calls Tryz.prog 51 #[.string (fB b)] w (RetExts w (exts (takeP b))) := by
  have hsz : (fB b).size = b.length + 1 := fB_size b
  have hsi : (1 : Int) ≤ ((fB b).size : Int) := by rw [hsz]; omega
  obtain ⟨s, hs⟩ : ∃ s, (fB b).extract 1 (fB b).size = s := ⟨_, rfl⟩
  have hsd : s.data.toList = b := by
    rw [← hs, extract_B, B_data, fB_data, hsz]
    show (b.take (b.length + 1 - 1)) = b
    rw [Nat.add_sub_cancel, List.take_length]
  have hsl : s.size = b.length := by
    have : s.data.toList.length = s.size := Array.length_toList
    rw [← this, hsd]
  have Hsz := Lib.hid hsz
  have Hsd := Lib.hid hsd
  have Hsl := Lib.hid hsl
  have hcv := Lib.run_convert_string_bytes (P := Tryz.prog) w 9 30 5 s Tryz.underlying9 Tryz.underlying30 Tryz.underlying5
  clear hsz hsd hsl
  go_enter Tryz.func51, Tryz.ntmps51
  go_wp2_with fail
  clear hcv hs hsi
  have htk := take_any (Lib.bytesWorld w 5 s) (some ⟨w.heap.size, 0, none⟩) (grownCap w s.size 0 5) b (bytesW_row w _ b s Hsd.out) (by have := grownCap_ge w s.size 0 5; have := Hsl.out; omega) (fun e => by cases e) (by omega)
  rw [← Hsl.out] at htk
  refine htk.mono ?_
  rintro e w1 ⟨a, c, rfl, hr, hn, hb1⟩
  have Hb1 := Lib.hid ((bytesW_below w 5 s).trans (hb1.mono (bytesW_below w 5 s).size))
  have Hr := Lib.hid hr
  have Hn := Lib.hid hn
  clear htk hr hn hb1
  go_wp2
  all_goals
    go_ret
    exact ⟨a, c, rfl, Hr.out, Hn.out, Hb1.out⟩
def extsT (t : PT) (p : ByteArray) : List Ext := match PT.get p t with
  | some v => exts (takeP (v.data.toList.drop 1))
  | none => []
theorem file_val {t : PT} (h : TOk t) {p : ByteArray} (hk : kd t p = .file) : ∃ l, rightP l = true ∧ PT.get p t = some (fB (layB l)) ∧ extsT t p = l := by
  unfold kd at hk
  split at hk
  · cases hk
  · cases hg : PT.get p t with
    | none => rw [hg] at hk; cases hk
    | some v =>
      rw [hg] at hk
      dsimp only at hk
      rcases h.val _ (h.get hg) with h1 | ⟨l, h1, h2⟩
      · rw [if_pos h1] at hk; cases hk
      · have h3 : v = fB (layB l) := h2
        subst h3
        refine ⟨l, h1, rfl, ?_⟩
        unfold extsT exts
        rw [hg]
        show (takeP ((fB (layB l)).data.toList.drop 1)).getD [] = l
        rw [fB_data, List.drop_succ_cons, List.drop_zero, takeP_layB h1]; rfl
def statP (t : PT) (p : ByteArray) : Bool × Int × Int :=
  if errS p 0 ≠ 0 then (false, 0, errS p 0) else match kd t p with
  | .dir => (true, 0, 0)
  | .file => (false, totalP (extsT t p), 0)
  | .no => (false, 0, 2)
def RetStat (w : World) (r : Bool × Int × Int) (e : Ending) (w' : World) : Prop := e = .returned (.tuple #[.agg #[.bool r.1, .int .i64 r.2.1], .int .i64 r.2.2]) ∧ Below w.heap.size w w'
theorem statSize (b : Bool) (z : Int) : (Tryz.prog.info? 45).map (·.size) = some (#[Value.bool b, .int .i64 z] : Array Value).size := by show _ = some 2; kernel_rfl
theorem errS_zero (p : ByteArray) : errS p 0 = 170 ∨ errS p 0 = 0 := by
  rcases errS_cases p 0 with h | ⟨h, _⟩ | ⟨h, _⟩
  · exact .inl h
  · exact .inr h
  · exact .inr h
set_option maxHeartbeats 4000000 in
set_option maxRecDepth 100000 in
theorem stat_any (w : World) (hE : Env w) (nb : Nat) (s : NSt) (h : NAt w nb s) (p : ByteArray) (hp : p.size ≤ 2^30) :
    Calls Tryz.prog 20 #[.pointer (some ⟨nb, 0, none⟩), .string p] w (RetStat w (statP s.t p)) := by
  obtain ⟨W0, hW0⟩ : ∃ W0, w.alloc (.cells #[.bool false, .int .i64 0] 45) = W0 := ⟨_, rfl⟩
  have hb0 : Below w.heap.size w W0 := by rw [← hW0]; exact (Below.refl _ _).alloc (Nat.le_refl _) _
  have HR0 : Hid (Blk W0 w.heap.size [.bool false, .int .i64 0]) := by unfold Hid; rw [← hW0]; exact Blk.new w #[.bool false, .int .i64 0] _
  have HE := Lib.hid (hE.below hb0)
  have H := Lib.hid (h.below hb0)
  have Hb0 := Lib.hid hb0
  have hrb : w.heap.size < W0.heap.size := HR0.out.lt
  clear hE h hb0
  obtain ⟨rb, hrbe⟩ : ∃ rb, w.heap.size = rb := ⟨_, rfl⟩
  go_enter Tryz.func20, Tryz.ntmps20
  go_wp2_with fail
  clear hW0
  rw [hrbe] at HR0
  refine (sound_any W0 HE.out nb p hp 0).mono ?_
  rintro e w1 ⟨rfl, hb1⟩
  have H1 := Lib.hid (H.out.below hb1)
  have HR1 := Lib.hid (HR0.out.below hb1)
  have Hb1 := Lib.hid (Hb0.out.trans (hb1.mono Hb0.out.size))
  clear hb1 H HR0 Hb0
  rcases errS_zero p with hs | hs
  · have E : Hid (statP s.t p = (false, 0, 170)) := by unfold Hid statP; rw [if_pos (by rw [hs]; decide), hs]
    rw [hs]
    clear hs
    have r0 := HR1.out.cell (i := 0) rfl
    have r1 := HR1.out.cell (i := 1) rfl
    have g0 := HR1.out.free 0
    have g1 := HR1.out.free 1
    go_wp2
    (try simp only [Exit.inBlock, Exit.then])
    refine bodyPost_ret (results_at rfl (g := rb) rfl rfl (cs := #[.bool false, .int .i64 0]) (((HR1.out.set 0 (.bool false)).set 1 (.int .i64 0)).toAt) Tryz.underlying45 rfl (statSize _ _)) rfl ?_
    refine ⟨by rw [E.out]; rfl, Hb1.out.trans ((((But.refl [rb] w1).setCell (.inl (by simp)) _).setCell (.inl (by simp)) _).below Hb1.out.size (by simp; omega))⟩
  · have ES : Hid (statP s.t p = match kd s.t p with
      | .dir => (true, 0, 0)
      | .file => (false, totalP (extsT s.t p), 0)
      | .no => (false, 0, 2)) := by unfold Hid statP; rw [if_neg (by rw [hs]; decide)]
    rw [hs]
    clear hs
    go_wp2_with fail
    refine (kind_any w1 nb s H1.out p).mono ?_
    rintro e w2 ⟨rfl, rfl⟩
    cases hk : kd s.t p with
    | no =>
      have E : Hid (statP s.t p = (false, 0, 2)) := by unfold Hid; rw [ES.out, hk]
      unfold Kd.text
      clear hk
      have r0 := HR1.out.cell (i := 0) rfl
      have r1 := HR1.out.cell (i := 1) rfl
      have g0 := HR1.out.free 0
      have g1 := HR1.out.free 1
      go_wp2
      (try simp only [Exit.inBlock, Exit.then])
      refine bodyPost_ret (results_at rfl (g := rb) rfl rfl (cs := #[.bool false, .int .i64 0]) (((HR1.out.set 0 (.bool false)).set 1 (.int .i64 0)).toAt) Tryz.underlying45 rfl (statSize _ _)) rfl ?_
      refine ⟨by rw [E.out]; rfl, Hb1.out.trans ((((But.refl [rb] w1).setCell (.inl (by simp)) _).setCell (.inl (by simp)) _).below Hb1.out.size (by simp; omega))⟩
    | dir =>
      have E : Hid (statP s.t p = (true, 0, 0)) := by unfold Hid; rw [ES.out, hk]
      unfold Kd.text
      clear hk
      have r0 := HR1.out.cell (i := 0) rfl
      have r1 := HR1.out.cell (i := 1) rfl
      have g0 := HR1.out.free 0
      have g1 := HR1.out.free 1
      go_wp2
      (try simp only [Exit.inBlock, Exit.then])
      refine bodyPost_ret (results_at rfl (g := rb) rfl rfl (cs := #[.bool true, .int .i64 0]) (((HR1.out.set 0 (.bool true)).set 1 (.int .i64 0)).toAt) Tryz.underlying45 rfl (statSize _ _)) rfl ?_
      refine ⟨by rw [E.out]; rfl, Hb1.out.trans ((((But.refl [rb] w1).setCell (.inl (by simp)) _).setCell (.inl (by simp)) _).below Hb1.out.size (by simp; omega))⟩
    | file =>
      obtain ⟨l, hl, hg, hx⟩ := file_val H1.out.ok hk
      have E : Hid (statP s.t p = (false, totalP l, 0)) := by unfold Hid; rw [ES.out, hk, hx]
      have Hg := Lib.hid hg
      have Hl := Lib.hid hl
      unfold Kd.text
      clear hk hg hx hl
      obtain ⟨c0, c1, f0⟩ := H1.out.cells
      go_wp2_with fail
      refine (get_any p s.t w1 s.tp H1.out.rep).mono ?_
      rintro e w2 ⟨rfl, rfl⟩
      rw [Hg.out]
      clear c0 c1 f0
      go_wp2_with fail
      have hll := (rightP_all Hl.out).1
      refine (made_any w1 (layB l) (by rw [layB_length]; omega)).mono ?_
      rintro e w3 ⟨a3, c3, rfl, hr3, _, hb3⟩
      rw [takeP_layB Hl.out] at hr3 ⊢
      have Hr3 := Lib.hid hr3
      have HR3 := Lib.hid (HR1.out.below hb3)
      have Hb3 := Lib.hid (Hb1.out.trans (hb3.mono Hb1.out.size))
      clear hr3 hb3
      unfold exts
      simp only [Option.getD_some]
      go_wp2_with fail
      refine (total_any w3 a3 c3 l Hr3.out (by omega)).mono ?_
      rintro e w4 ⟨rfl, hb4⟩
      have HR4 := Lib.hid (HR3.out.below hb4)
      have Hb4 := Lib.hid (Hb3.out.trans (hb4.mono Hb3.out.size))
      clear hb4 HR3 Hb3
      have r0 := HR4.out.cell (i := 0) rfl
      have r1 := HR4.out.cell (i := 1) rfl
      have g0 := HR4.out.free 0
      have g1 := HR4.out.free 1
      go_wp2
      (try simp only [Exit.inBlock, Exit.then])
      refine bodyPost_ret (results_at rfl (g := rb) rfl rfl (cs := #[.bool false, .int .i64 (totalP l)]) (((HR4.out.set 0 (.bool false)).set 1 (.int .i64 (totalP l))).toAt) Tryz.underlying45 rfl (statSize _ _)) rfl ?_
      refine ⟨by rw [E.out]; rfl, Hb4.out.trans ((((But.refl [rb] w4).setCell (.inl (by simp)) _).setCell (.inl (by simp)) _).below Hb4.out.size (by simp; omega))⟩
end Go.Proofs.YtoahjhogjjdkhaaGreatDoor

/- The walks over File and List. -/
namespace Go.Proofs.YtoahjhogjjdkhaaGreatDoor
open Go Go.RowKit Go.XR Go.TreePure Go.PathPure Go.NamesPure
theorem statP_cases (t : PT) (p : ByteArray) : (errS p 0 = 170 ∧ statP t p = (false, 0, 170)) ∨ (errS p 0 = 0 ∧ kd t p = .no ∧ statP t p = (false, 0, 2)) ∨ (errS p 0 = 0 ∧ kd t p = .dir ∧ statP t p = (true, 0, 0)) ∨ (errS p 0 = 0 ∧ kd t p = .file ∧ statP t p = (false, totalP (extsT t p), 0)) := by
  rcases errS_zero p with hs | hs
  · exact .inl ⟨hs, by unfold statP; rw [if_pos (by rw [hs]; decide), hs]⟩
  · right
    unfold statP
    rw [if_neg (by rw [hs]; decide)]
    cases hk : kd t p with
    | no => exact .inl ⟨hs, rfl, rfl⟩
    | dir => exact .inr (.inl ⟨hs, rfl, rfl⟩)
    | file => exact .inr (.inr ⟨hs, rfl, rfl⟩)
def fileP (t : PT) (p : ByteArray) : List Ext × Int :=
  if errS p 0 ≠ 0 then ([], errS p 0) else match kd t p with
  | .dir => ([], 191)
  | .file => (extsT t p, 0)
  | .no => ([], 2)
def RetFile (w : World) (r : List Ext × Int) (e : Ending) (w' : World) : Prop := ∃ a c, e = .returned (.tuple #[.slice a r.1.length c, .int .i64 r.2]) ∧ Row w' a (r.1.flatMap rowL) ∧ Below w.heap.size w w'
theorem RetFile.err {w w' : World} {r : List Ext × Int} {n : Int} (h : r = ([], n)) (hb : Below w.heap.size w w') : RetFile w r (.returned (.tuple #[.slice none 0 0, .int .i64 n])) w' := by
  subst h; exact ⟨none, 0, rfl, .inl rfl, hb⟩
set_option maxHeartbeats 4000000 in
set_option maxRecDepth 100000 in
theorem file_any (w : World) (hE : Env w) (nb : Nat) (s : NSt) (h : NAt w nb s) (p : ByteArray) (hp : p.size ≤ 2^30) :
    Calls Tryz.prog 21 #[.pointer (some ⟨nb, 0, none⟩), .string p] w (RetFile w (fileP s.t p)) := by
  have HE := Lib.hid hE
  have H := Lib.hid h
  clear hE h
  go_enter Tryz.func21, Tryz.ntmps21
  go_wp2_with fail
  refine (stat_any w HE.out nb s H.out p hp).mono ?_
  rintro e w1 ⟨rfl, hb1⟩
  have H1 := Lib.hid (H.out.below hb1)
  have Hb1 := Lib.hid hb1
  clear hb1
  rcases statP_cases s.t p with ⟨hs, hst⟩ | ⟨hs, hk, hst⟩ | ⟨hs, hk, hst⟩ | ⟨hs, hk, hst⟩
  · have E : Hid (fileP s.t p = ([], 170)) := by unfold Hid fileP; rw [if_pos (by rw [hs]; decide), hs]
    rw [hst]
    clear hst hs
    go_wp2
    go_ret2
    exact RetFile.err E.out (Hb1.out.alloc Hb1.out.size _)
  · have E : Hid (fileP s.t p = ([], 2)) := by unfold Hid fileP; rw [if_neg (by rw [hs]; decide), hk]
    rw [hst]
    clear hst hs hk
    go_wp2
    go_ret2
    exact RetFile.err E.out (Hb1.out.alloc Hb1.out.size _)
  · have E : Hid (fileP s.t p = ([], 191)) := by unfold Hid fileP; rw [if_neg (by rw [hs]; decide), hk]
    rw [hst]
    clear hst hs hk
    go_wp2
    go_ret2
    exact RetFile.err E.out (Hb1.out.alloc Hb1.out.size _)
  · obtain ⟨l, hl, hg, hx⟩ := file_val H1.out.ok hk
    have E : Hid (fileP s.t p = (l, 0)) := by unfold Hid fileP; rw [if_neg (by rw [hs]; decide), hk, hx]
    have Hg := Lib.hid hg
    have Hl := Lib.hid hl
    obtain ⟨tt, htt⟩ : ∃ tt, totalP (extsT s.t p) = tt := ⟨_, rfl⟩
    rw [hst, htt]
    clear hst hs hk hg hl hx htt
    obtain ⟨W2, hW2⟩ : ∃ W2, w1.alloc (.cells #[.bool false, .int .i64 tt] 45) = W2 := ⟨_, rfl⟩
    have hb2 : Below w1.heap.size w1 W2 := by rw [← hW2]; exact (Below.refl _ _).alloc (Nat.le_refl _) _
    have H2 := Lib.hid (H1.out.below hb2)
    have Hb2 := Lib.hid (Hb1.out.trans (hb2.mono Hb1.out.size))
    have hc2 : W2.cell? ⟨w1.heap.size, 0, none⟩ = some (.bool false) := by rw [← hW2]; exact cells_of (heap_new _ _) 0
    obtain ⟨c0, c1, f0⟩ := H2.out.cells
    clear hb2
    go_wp2_with fail
    clear hc2 hW2
    refine (get_any p s.t W2 s.tp H2.out.rep).mono ?_
    rintro e w2 ⟨rfl, rfl⟩
    rw [Hg.out]
    clear c0 c1 f0
    go_wp2_with fail
    have hll := (rightP_all Hl.out).1
    refine (made_any W2 (layB l) (by rw [layB_length]; omega)).mono ?_
    rintro e w3 ⟨a3, c3, rfl, hr3, _, hb3⟩
    rw [takeP_layB Hl.out] at hr3 ⊢
    have Hr3 := Lib.hid hr3
    have Hb3 := Lib.hid (Hb2.out.trans (hb3.mono Hb2.out.size))
    clear hr3 hb3
    unfold exts
    simp only [Option.getD_some]
    go_wp2
    go_ret2
    rw [E.out]
    exact ⟨a3, c3, rfl, Hr3.out, Hb3.out⟩
end Go.Proofs.YtoahjhogjjdkhaaGreatDoor

/-
  DERIVED: THE SHELF's CONTRACTS AT THIS DUMP, IN PLAIN WORDS (tools/lay-plain.mjs out of 'TryzMiniSi.lean', which tools/lay-shelf.mjs wrote): THE SAME DECLARATIONS UNDER THE SAME NAMES: 'import', 'namespace', 'open', 'def', 'theorem' AND NOTHING ELSE: no command of the shelf's: FOR A HAND-IN. Each laying: the table of numbers ('.._ren') and one theorem, a field a fact of the dump's own or the kernel's comparison; each contract: ONE APPLICATION.
-/
namespace Go.Proofs
open Go.Shelf
def Tryz.keys44_ren : Go.Shelf.Ren := ⟨fun | 7 => 44 | 10 => 102 | n => n, fun | 23 => 77 | 26 => 9 | 3 => 75 | 28 => 87 | 0 => 0 | 27 => 86 | 33 => 80 | 4 => 4 | n => n, fun | n => n⟩
theorem Tryz.keys44 : Go.Proofs.SlLaysZ.n7 Tryz.prog Tryz.keys44_ren := {
  mixed := by kernel_rfl
  f7 := ⟨Tryz.f44.name, by decide, Tryz.func44.trans (congrArg some (by kernel_rfl))⟩
  f10 := ⟨Tryz.f102.name, by decide, Tryz.func102.trans (congrArg some (by kernel_rfl))⟩
  t0 := Tryz.underlying0
  a0 := Tryz.isAgg0
  z0 := Tryz.sizeOf0
  v0 := Tryz.zeroValue0
  t4 := Tryz.underlying4
  a4 := Tryz.isAgg4
  z4 := Tryz.sizeOf4
  v4 := Tryz.zeroValue4
  t23 := Tryz.underlying77
  a23 := Tryz.isAgg77
  z23 := Tryz.sizeOf77
  v23 := Tryz.zeroValue77
  t26 := Tryz.underlying9
  a26 := Tryz.isAgg9
  z26 := Tryz.sizeOf9
  v26 := Tryz.zeroValue9
  t27 := Tryz.underlying86
  a27 := Tryz.isAgg86
  z27 := Tryz.sizeOf86
  v27 := Tryz.zeroValue86
  t28 := Tryz.underlying87
  a28 := Tryz.isAgg87
  z28 := Tryz.sizeOf87
  v28 := Tryz.zeroValue87
  t33 := Tryz.underlying80
  a33 := Tryz.isAgg80
  z33 := Tryz.sizeOf80
  v33 := Tryz.zeroValue80 }
def Tryz.sorted43_ren : Go.Shelf.Ren := ⟨fun | 6 => 43 | 8 => 100 | 9 => 101 | 11 => 143 | 13 => 145 | 12 => 144 | 23 => 174 | 24 => 175 | 14 => 165 | 15 => 166 | 16 => 167 | 17 => 168 | 18 => 169 | 19 => 170 | 20 => 171 | 21 => 172 | 22 => 173 | 25 => 194 | 26 => 195 | 27 => 196 | 28 => 197 | 29 => 198 | 30 => 199 | 31 => 208 | n => n, fun | 26 => 9 | 28 => 87 | 24 => 37 | 0 => 0 | 3 => 3 | 37 => 191 | 48 => 106 | 50 => 82 | 4 => 4 | 40 => 210 | 39 => 209 | 45 => 40 | 5 => 5 | 9 => 9 | 51 => 229 | 55 => 233 | 57 => 242 | 58 => 243 | 33 => 80 | n => n, fun | n => n⟩
theorem Tryz.sorted43 : Go.Proofs.SlLaysZ.n6 Tryz.prog Tryz.sorted43_ren := {
  mixed := by kernel_rfl
  f6 := ⟨Tryz.f43.name, by decide, Tryz.func43.trans (congrArg some (by kernel_rfl))⟩
  f8 := ⟨Tryz.f100.name, by decide, Tryz.func100.trans (congrArg some (by kernel_rfl))⟩
  f11 := ⟨Tryz.f143.name, by decide, Tryz.func143.trans (congrArg some (by kernel_rfl))⟩
  t0 := Tryz.underlying0
  a0 := Tryz.isAgg0
  z0 := Tryz.sizeOf0
  v0 := Tryz.zeroValue0
  t24 := Tryz.underlying37
  a24 := Tryz.isAgg37
  z24 := Tryz.sizeOf37
  v24 := Tryz.zeroValue37
  t26 := Tryz.underlying9
  a26 := Tryz.isAgg9
  z26 := Tryz.sizeOf9
  v26 := Tryz.zeroValue9
  t28 := Tryz.underlying87
  a28 := Tryz.isAgg87
  z28 := Tryz.sizeOf87
  v28 := Tryz.zeroValue87
  i26 := by kernel_rfl }
def Tryz.sort101_ren : Go.Shelf.Ren := ⟨fun | 6 => 101 | 8 => 145 | 9 => 144 | 19 => 174 | 20 => 175 | 21 => 165 | 22 => 166 | 23 => 167 | 24 => 168 | 25 => 169 | 26 => 170 | 27 => 171 | 28 => 172 | 29 => 173 | 36 => 194 | 31 => 195 | 32 => 196 | 37 => 197 | 38 => 198 | 39 => 199 | 41 => 208 | n => n, fun | 27 => 37 | 29 => 9 | 3 => 3 | 32 => 191 | 26 => 37 | 0 => 0 | 44 => 106 | 46 => 82 | 4 => 4 | 36 => 210 | 35 => 209 | 41 => 40 | 5 => 5 | 9 => 9 | 53 => 229 | 57 => 233 | 63 => 242 | 64 => 243 | n => n, fun | n => n⟩
theorem Tryz.sort101 : Go.Proofs.SlLaysM.n6 Tryz.prog Tryz.sort101_ren := {
  mixed := by kernel_rfl
  f6 := ⟨Tryz.f101.name, by decide, Tryz.func101.trans (congrArg some (by kernel_rfl))⟩
  f8 := Tryz.func145.trans (congrArg some (by kernel_rfl))
  f9 := ⟨Tryz.f144.name, by decide, Tryz.func144.trans (congrArg some (by kernel_rfl))⟩
  f19 := Tryz.func174.trans (congrArg some (by kernel_rfl))
  f20 := Tryz.func175.trans (congrArg some (by kernel_rfl))
  f21 := ⟨Tryz.f165.name, by decide, Tryz.func165.trans (congrArg some (by kernel_rfl))⟩
  f22 := ⟨Tryz.f166.name, by decide, Tryz.func166.trans (congrArg some (by kernel_rfl))⟩
  f23 := ⟨Tryz.f167.name, by decide, Tryz.func167.trans (congrArg some (by kernel_rfl))⟩
  f24 := ⟨Tryz.f168.name, by decide, Tryz.func168.trans (congrArg some (by kernel_rfl))⟩
  f25 := ⟨Tryz.f169.name, by decide, Tryz.func169.trans (congrArg some (by kernel_rfl))⟩
  f26 := ⟨Tryz.f170.name, by decide, Tryz.func170.trans (congrArg some (by kernel_rfl))⟩
  f27 := ⟨Tryz.f171.name, by decide, Tryz.func171.trans (congrArg some (by kernel_rfl))⟩
  f28 := ⟨Tryz.f172.name, by decide, Tryz.func172.trans (congrArg some (by kernel_rfl))⟩
  f29 := ⟨Tryz.f173.name, by decide, Tryz.func173.trans (congrArg some (by kernel_rfl))⟩
  f31 := Tryz.func195.trans (congrArg some (by kernel_rfl))
  f32 := Tryz.func196.trans (congrArg some (by kernel_rfl))
  f36 := ⟨Tryz.f194.name, by decide, Tryz.func194.trans (congrArg some (by kernel_rfl))⟩
  f37 := ⟨Tryz.f197.name, by decide, Tryz.func197.trans (congrArg some (by kernel_rfl))⟩
  f38 := ⟨Tryz.f198.name, by decide, Tryz.func198.trans (congrArg some (by kernel_rfl))⟩
  f39 := ⟨Tryz.f199.name, by decide, Tryz.func199.trans (congrArg some (by kernel_rfl))⟩
  f41 := ⟨Tryz.f208.name, by decide, Tryz.func208.trans (congrArg some (by kernel_rfl))⟩
  t0 := Tryz.underlying0
  a0 := Tryz.isAgg0
  z0 := Tryz.sizeOf0
  v0 := Tryz.zeroValue0
  t3 := Tryz.underlying3
  a3 := Tryz.isAgg3
  z3 := Tryz.sizeOf3
  v3 := Tryz.zeroValue3
  t4 := Tryz.underlying4
  a4 := Tryz.isAgg4
  z4 := Tryz.sizeOf4
  v4 := Tryz.zeroValue4
  t5 := Tryz.underlying5
  a5 := Tryz.isAgg5
  z5 := Tryz.sizeOf5
  v5 := Tryz.zeroValue5
  t9 := Tryz.underlying9
  a9 := Tryz.isAgg9
  z9 := Tryz.sizeOf9
  v9 := Tryz.zeroValue9
  t26 := Tryz.underlying37
  a26 := Tryz.isAgg37
  z26 := Tryz.sizeOf37
  v26 := Tryz.zeroValue37
  t27 := Tryz.underlying37
  a27 := Tryz.isAgg37
  z27 := Tryz.sizeOf37
  v27 := Tryz.zeroValue37
  t29 := Tryz.underlying9
  a29 := Tryz.isAgg9
  z29 := Tryz.sizeOf9
  v29 := Tryz.zeroValue9
  t32 := Tryz.underlying191
  a32 := Tryz.isAgg191
  z32 := Tryz.sizeOf191
  v32 := Tryz.zeroValue191
  t35 := Tryz.underlying209
  a35 := Tryz.isAgg209
  z35 := Tryz.sizeOf209
  v35 := Tryz.zeroValue209
  t36 := Tryz.underlying210
  a36 := Tryz.isAgg210
  z36 := Tryz.sizeOf210
  v36 := Tryz.zeroValue210
  t41 := Tryz.underlying40
  a41 := Tryz.isAgg40
  z41 := Tryz.sizeOf40
  v41 := Tryz.zeroValue40
  t44 := Tryz.underlying106
  a44 := Tryz.isAgg106
  z44 := Tryz.sizeOf106
  v44 := Tryz.zeroValue106
  t46 := Tryz.underlying82
  a46 := Tryz.isAgg82
  z46 := Tryz.sizeOf82
  v46 := Tryz.zeroValue82
  t53 := Tryz.underlying229
  a53 := Tryz.isAgg229
  z53 := Tryz.sizeOf229
  v53 := Tryz.zeroValue229
  t57 := Tryz.underlying233
  a57 := Tryz.isAgg233
  z57 := Tryz.sizeOf233
  v57 := Tryz.zeroValue233
  t63 := Tryz.underlying242
  a63 := Tryz.isAgg242
  z63 := Tryz.sizeOf242
  v63 := Tryz.zeroValue242
  t64 := Tryz.underlying243
  a64 := Tryz.isAgg243
  z64 := Tryz.sizeOf243
  v64 := Tryz.zeroValue243 }
end Go.Proofs

/- The sorted keys of the map of snapshots; the walk over Snaps. -/
namespace Go.Proofs
open Go.RowKit Go.Maps Go.Sort Go.Shelf
theorem Tryz.sortsS (m : Nat) : AnyZ.SortsIn Tryz.prog Tryz.sorted43_ren Fence.wide m :=
  ⟨fun blk off cap ss W hH hblk hsz => callsIn_wide.2 (AnyM.slices_Sort_string Tryz.sort101 blk off cap ss W hH hblk hsz),
   fun p cap W => callsIn_wide.2 (AnyM.slices_Sort_string_none Tryz.sort101 p cap W)⟩
theorem Tryz.mapKeysS (mb : Option Nat) (W : World) : Calls Tryz.prog 44 #[.map mb] W fun e w' => e = .returned (.func (.func 102) #[] #[.pointer (some ⟨W.heap.size, 0, none⟩)]) ∧ w' = W.alloc (.cells #[.map mb] 77) :=
  callsIn_wide.1 (AnyZ.keys_in Tryz.keys44 Fence.wide 5 trivial rfl mb W)
set_option maxHeartbeats 1000000 in
theorem Tryz.sortedS {H : Type} (b nn : Nat) (D0 : DataW H) (R : Value → Option (DataW H × List MemPlace)) (w : World) (hown : w.ownsMap Tryz.prog 9 R b nn D0) (hmax : Maps.size D0 ≤ maxLen) (hbytes : Maps.size D0 * 16 ≤ 140737488355328) :
    Calls Tryz.prog 43 #[.func (.func 102) #[] #[.pointer (some ⟨w.heap.size, 0, none⟩)]] (w.alloc (.cells #[.map (some b)] 77)) fun e w' => ∃ (v : Value) (ss : List (List UInt8)), e = .returned v ∧ ss.Perm (strKeys D0) ∧
      w'.ownsRow (w.alloc (.cells #[.map (some b)] 77)).heap.size 9 1 v ss.length ((ss.mergeSort (fun x y => decide (x ≤ y))).map encStr) ∧ (v = .slice none 0 0 ↔ ss = []) ∧ Below (w.alloc (.cells #[.map (some b)] 77)).heap.size (w.alloc (.cells #[.map (some b)] 77)) w' := by
  have hbl := hown.lt
  have hseq : SeqGives Fence.wide 2 Tryz.prog 102 #[.pointer (some ⟨w.heap.size, 0, none⟩)] encStr (fun ss => ss.Perm (strKeys D0)) (Maps.size D0) (w.alloc (.cells #[.map (some b)] 77)) :=
    AnyZ.keys_gives (ρ := Tryz.keys44_ren) { Tryz.keys44 with } Fence.wide _ trivial rfl (by omega) w.heap.size b nn D0 _ (by simp) (by simp) (by
      obtain ⟨es, clock, hb, Ft, hs, hD⟩ := hown
      exact ⟨es, clock, (Below.heap_alloc _ _ b hbl).trans hb, Ft, hs, hD⟩)
  exact callsIn_wide.1 (AnyZ.sorted_in Tryz.sorted43 Fence.wide 5 trivial trivial trivial trivial rfl (by omega) (Tryz.sortsS _) (enters_of Tryz.func101 (by kernel_rfl) rfl) 102 #[.pointer (some ⟨w.heap.size, 0, none⟩)] trivial (enters_of Tryz.func102 (by kernel_rfl) rfl) _ _ hmax hbytes _ hseq)
end Go.Proofs
namespace Go.Proofs.YtoahjhogjjdkhaaGreatDoor
open Go Go.RowKit Go.XR Go.TreePure Go.PathPure
def R0 : Value → Option (DataW Nat × List MemPlace) := fun _ => some (.nil, [])
def bytesOfV : Value → List UInt8
  | .string s => s.data.toList
  | _ => []
def keysB (D : List SnapT) : List (List UInt8) := D.map fun q => q.1.1.data.toList
set_option maxRecDepth 100000 in
theorem gm_owns {w : World} {m : Nat} {D : List SnapT} (h : GM strV treV w m D) (hl : D.length ≤ 64) : ∃ D0 : DataW Nat, w.ownsMap Tryz.prog 9 R0 m 64 D0 ∧ Maps.size D0 = D.length ∧ (strKeys D0).Perm (keysB D) := by
  obtain ⟨es, clock, h1, h2, h3⟩ := h
  have hsz : es.size = D.length := by have := congrArg List.length h3; simpa using this
  have hk : es.toList.map (·.key) = D.map (fun q => strV q.1) := by
    have := congrArg (List.map Prod.fst) h3
    rw [List.map_map, List.map_map] at this
    exact this
  have hread : ∀ x ∈ es.toList, ∃ s : ByteArray, x.key = .string s ∧ keyOf Tryz.prog 9 x.key = some (.string s.data.toList) := fun x hx => by
    have : x.key ∈ es.toList.map (·.key) := List.mem_map.2 ⟨x, hx, rfl⟩
    rw [hk] at this
    obtain ⟨q, _, he⟩ := List.mem_map.1 this
    refine ⟨q.1.1, he.symm, ?_⟩
    rw [← he]
    exact Go.WideMaps.keyOf_string_mk Tryz.underlying9 (by have := q.1.2; unfold maxLen; omega)
  have hrg : ∀ x ∈ es.toList, Go.strOf (Go.WideElems.rg Tryz.prog 9 R0 x).1 = bytesOfV x.key := fun x hx => by
    obtain ⟨s, e1, e2⟩ := hread x hx
    unfold Go.WideElems.rg Go.WideElems.rd
    rw [e2, e1]; rfl
  refine ⟨_, ⟨es, clock, h1, ⟨by unfold maxLen; omega, h2, fun x hx => ?_⟩, by omega, rfl⟩, ?_, ?_⟩
  · obtain ⟨s, e1, e2⟩ := hread x hx
    unfold Go.WideElems.rd
    rw [e2]; exact ⟨_, rfl⟩
  · show (List.foldr DataW.insert [] (es.toList.map (Go.WideElems.rg Tryz.prog 9 R0))).length = _
    rw [(Go.WideShapes.sorted_perm _).length_eq, List.length_map, Array.length_toList, hsz]
  · show ((List.foldr DataW.insert [] (es.toList.map (Go.WideElems.rg Tryz.prog 9 R0))).map fun p => Go.strOf p.1).Perm _
    refine ((Go.WideShapes.sorted_perm _).map _).trans ?_
    rw [List.map_map]
    have e1 : es.toList.map ((fun p : Lit × DataW Nat => Go.strOf p.1) ∘ Go.WideElems.rg Tryz.prog 9 R0) = (es.toList.map (·.key)).map bytesOfV := by
      rw [List.map_map]
      exact List.map_congr_left hrg
    rw [e1, hk, List.map_map]
    exact List.Perm.refl _
/-- the snapshots' names, sorted -/
def snapsB (D : List SnapT) : List (List UInt8) := (keysB D).mergeSort leB
def snapsL (D : List SnapT) : List ByteArray := (snapsB D).map strOf
def RetTexts (w : World) (l : List ByteArray) (e : Ending) (w' : World) : Prop := ∃ a c, e = .returned (.slice a l.length c) ∧ Row w' a (strs l) ∧ (a = none → l.length = 0 ∧ c = 0) ∧ Below w.heap.size w w'
theorem snapsL_length (D : List SnapT) : (snapsL D).length = D.length := by
  unfold snapsL snapsB keysB
  rw [List.length_map, List.length_mergeSort, List.length_map]
set_option maxHeartbeats 2000000 in
set_option maxRecDepth 100000 in
theorem snaps_any (w : World) (nb : Nat) (s : NSt) (h : NAt w nb s) : Calls Tryz.prog 17 #[.pointer (some ⟨nb, 0, none⟩)] w (RetTexts w (snapsL s.D)) := by
  obtain ⟨c0, c1, f0⟩ := h.cells
  obtain ⟨D0, hown, hsz, hperm⟩ := gm_owns h.gm h.few
  have hfew := h.few
  have Hown := Lib.hid hown
  have Hperm := Lib.hid hperm
  have Hsz := Lib.hid hsz
  clear h hown hperm hsz
  go_enter Tryz.func17, Tryz.ntmps17
  go_wp2_with fail
  refine (Tryz.mapKeysS (some s.m) w).mono ?_
  rintro e w1 ⟨rfl, hw1⟩
  rw [hw1]
  clear hw1 w1
  go_wp2_with fail
  refine (Tryz.sortedS s.m 64 D0 R0 w Hown.out (by rw [Hsz.out]; unfold maxLen; omega) (by rw [Hsz.out]; omega)).mono ?_
  rintro e w2 ⟨v, ss, rfl, hp, hrow, hnil, hb⟩
  have hb1 : Below w.heap.size w w2 := ((Below.refl w.heap.size w).alloc (Nat.le_refl _) _).trans (hb.mono (by simp))
  have hss : ss.mergeSort (fun x y => decide (x ≤ y)) = snapsB s.D := mergeSort_of_perm (hp.trans Hperm.out)
  have hlen : ss.length = (snapsL s.D).length := by rw [snapsL_length, hp.length_eq, Hperm.out.length_eq]; unfold keysB; rw [List.length_map]
  rw [hss, hlen] at hrow
  obtain ⟨a, c, rfl⟩ := owns_slice hrow
  have hrow2 : Row w2 a (strs (snapsL s.D)) := by
    have := Row.owned hrow
    rw [show (snapsB s.D).map encStr = strs (snapsL s.D) from ?_] at this
    · exact this
    · unfold strs snapsL; rw [List.map_map]; rfl
  have hn2 : a = none → (snapsL s.D).length = 0 ∧ c = 0 := fun e => by subst e; exact owns_nil hrow
  have Hend : Hid (RetTexts w (snapsL s.D) (.returned (.slice a (snapsL s.D).length c)) w2) := ⟨a, c, rfl, hrow2, hn2, hb1⟩
  clear hp hrow hnil hb hb1 hss hlen hrow2 hn2
  go_wp2
  go_ret
  exact Hend.out
end Go.Proofs.YtoahjhogjjdkhaaGreatDoor

/- What table's closure does; the walk over table. -/
namespace Go.Proofs.YtoahjhogjjdkhaaGreatDoor
open Go Go.RowKit Go.XR Go.TreePure Go.PathPure Go.NamesPure
def pairB (x : Pr) : List UInt8 := Go.NamesPure.textB x.1 ++ Go.NamesPure.textB x.2
def treeB (t : PT) : List UInt8 := be t.size 4 ++ t.list.flatMap pairB
theorem pairB_length (x : Pr) : (pairB x).length = x.1.size + x.2.size + 8 := by
  unfold pairB; rw [List.length_append, Go.NamesPure.textB_length, Go.NamesPure.textB_length]; omega
theorem flat_pairB : ∀ {l : List Pr}, (∀ x ∈ l, x.1.size ≤ 2^19 ∧ x.2.size ≤ 2^20) → (l.flatMap pairB).length ≤ l.length * 2^21
  | [], _ => by simp
  | x :: l, h => by
    have h1 := h x (List.mem_cons_self ..)
    have h2 := flat_pairB (l := l) fun y hy => h y (List.mem_cons_of_mem _ hy)
    rw [List.flatMap_cons, List.length_append, pairB_length, List.length_cons]
    omega
def PTab (x : Pr) : Prop := x.1.size ≤ 2^19 ∧ x.2.size ≤ 2^20
/-- the box of the bytes: block tb; its row -/
def StTab (l0 : List UInt8) (w0 : World) (tb : Nat) (w : World) (K : List Nat) (acc : List Pr) : Prop :=
  ∃ g c, w.heap[tb]? = some (.cells #[.slice (some ⟨g, 0, none⟩) (l0 ++ acc.flatMap pairB).length c] 30 (0, 0)) ∧ w.ownsRow 0 5 1 (.slice (some ⟨g, 0, none⟩) (l0 ++ acc.flatMap pairB).length c) (l0 ++ acc.flatMap pairB).length ((l0 ++ acc.flatMap pairB).map byU) ∧
    K = [tb, g] ∧ g ≠ tb ∧ w0.heap.size ≤ tb ∧ w0.heap.size ≤ g ∧ (l0 ++ acc.flatMap pairB).length ≤ 2^40 + acc.length * 2^21
theorem app_bytes2 {w : World} {A : Act} {K : Act → World → Prop} {Q : Exit → Act → World → Prop} {dst : Option Tmp} {s x : Operand} {pos : String} {after : Array Edge} {guard : Option (Nat × Bool)}
    (sg : Nat) (sc : Nat) (l : List UInt8) (hs : A.eval s = .slice (some ⟨sg, 0, none⟩) l.length sc) (hown : w.ownsRow 0 5 1 (.slice (some ⟨sg, 0, none⟩) l.length sc) l.length (l.map byU))
    (xo : Option Addr) (n c : Nat) (m : List UInt8) (hx : A.eval x = .slice xo n c) (hn : n = m.length) (hrow : Row w xo (m.map byU)) (hm : 0 < m.length) (hlen : l.length + m.length ≤ 2^45)
    (h : ∀ g' c' w', w'.ownsRow 0 5 1 (.slice (some ⟨g', 0, none⟩) (l ++ m).length c') (l ++ m).length ((l ++ m).map byU) → But [sg] w w' → (g' = sg ∨ w.heap.size ≤ g') →
      Oper.wp Tryz.prog ⟨dst, .move (.const (.slice (some ⟨g', 0, none⟩) (l ++ m).length c')), 30, "", #[], none⟩ A w' K (fun _ _ _ => False)) :
    Oper.wp Tryz.prog ⟨dst, .call { callee := .builtin .append, args := #[s, x], argTypes := #[30, 30] }, 30, pos, after, guard⟩ A w K Q := by
  subst hn
  obtain ⟨g, o, rfl⟩ : ∃ g o, xo = some ⟨g, o, none⟩ := by
    obtain ⟨g, o, h1, _⟩ := hrow.get (j := 0) (List.getElem?_eq_getElem (by rw [List.length_map]; exact hm))
    exact ⟨g, o, h1⟩
  refine append_enc2 (P := Tryz.prog) byL 1 1 byL_len byL_one 5 Tryz.underlying30 (by kernel_rfl) (by decide) 0 (some ⟨sg, 0, none⟩) sc l hs (by rw [flat_byL]; exact hown) g o c m hx (by rw [flat_byL]; exact hrow) (by omega) (by unfold maxLen; omega) (Nat.zero_le _) ?_
  intro a' c' w' ho hg hsn
  rw [flat_byL] at ho
  obtain ⟨g', rfl, hg'⟩ : ∃ g', a' = some ⟨g', 0, none⟩ ∧ (g' = sg ∨ w.heap.size ≤ g') := by
    rcases hsn with h1 | ⟨g', h1, h2, _⟩
    · exact ⟨sg, h1, .inl rfl⟩
    · exact ⟨g', h1, .inr h2⟩
  exact h g' c' w' ho (But.of_grown (by simpa [Value.ownBlock] using hg)) hg'
theorem ctext_nil (w : World) (s : ByteArray) (hs : s.size ≤ 2^40) : Calls Tryz.prog 41 #[.slice none 0 0, .string s] w (RetBytes w (Go.NamesPure.textB s)) := ctext_any w none 0 [] (.inl rfl) (by simp) s hs
set_option maxHeartbeats 4000000 in
set_option maxRecDepth 100000 in
theorem told_table (l0 : List UInt8) (w0 : World) (tb : Nat) : Told 99 #[.pointer (some ⟨tb, 0, none⟩)] (StTab l0 w0 tb) (fun _ _ => true) w0 PTab where
  below := fun w w' K acc h hb => by
    obtain ⟨g, c, h1, h2, h3⟩ := h
    exact ⟨g, c, (hb.block tb (blk_lt h1)).trans h1, owns_below h2 hb, h3⟩
  lt := fun w K acc h b hb => by
    obtain ⟨g, c, h1, h2, h3, _⟩ := h
    rw [h3] at hb
    simp only [List.mem_cons, List.not_mem_nil, or_false] at hb
    rcases hb with rfl | rfl
    · exact blk_lt h1
    · exact own_g h2
  base := fun w K acc h b hb => by
    obtain ⟨g, c, h1, h2, h3, _, h5, h6, _⟩ := h
    rw [h3] at hb
    simp only [List.mem_cons, List.not_mem_nil, or_false] at hb
    rcases hb with rfl | rfl
    · exact h5
    · exact h6
  call := fun w K acc x h hlen hx => by
    obtain ⟨g, c, hh, ho, rfl, hne, hb0, hg0, hln⟩ := h
    have HH := Lib.hid hh
    have Ho := Lib.hid ho
    have hl := blk_lt hh
    have hgl := own_g ho
    obtain ⟨L, hL⟩ : ∃ L, l0 ++ acc.flatMap pairB = L := ⟨_, rfl⟩
    have hLx : l0 ++ (acc ++ [x]).flatMap pairB = L ++ pairB x := by rw [List.flatMap_append, ← List.append_assoc, hL]; simp
    have HLx := Lib.hid hLx
    rw [hL] at hh Ho HH hln
    have hpl := pairB_length x
    have hx1 := hx.1
    have hx2 := hx.2
    obtain ⟨W1, hW1⟩ : ∃ W1, w.alloc (.cells #[.string x.1, .string x.2] 98) = W1 := ⟨_, rfl⟩
    have hb1 : Below w.heap.size w W1 := by rw [← hW1]; exact (Below.refl _ _).alloc (Nat.le_refl _) _
    have hh1 := (hb1.block tb hl).trans hh
    have c0 : W1.cell? ⟨tb, 0, none⟩ = some (.slice (some ⟨g, 0, none⟩) L.length c) := cells_of hh1 0
    have hq : W1.heap[w.heap.size]? = some (.cells #[.string x.1, .string x.2] 98 (0, 0)) := by rw [← hW1]; exact heap_new _ _
    have q0 : W1.cell? ⟨w.heap.size, 0, none⟩ = some (.string x.1) := cells_of hq 0
    have q1 : W1.cell? ⟨w.heap.size, 1, none⟩ = some (.string x.2) := cells_of hq 1
    have hql := blk_lt hq
    have htl : tb < W1.heap.size := blk_lt hh1
    have Hh1 := Lib.hid hh1
    have Hb1 := Lib.hid hb1
    have Ho1 := Lib.hid (owns_below Ho.out hb1)
    have Hpl := Lib.hid hpl
    clear hh ho hL hLx hq hb1 hh1 hpl
    show Calls Tryz.prog 99 #[.agg #[.string x.1, .string x.2], .pointer (some ⟨tb, 0, none⟩)] w _
    obtain ⟨xb, hxb⟩ : ∃ xb, w.heap.size = xb := ⟨_, rfl⟩
    go_enter Tryz.func99, Tryz.ntmps99
    go_wp2
    rw [hxb] at q0 q1 hql
    have hS0 : Below W1.heap.size W1 W1.drew := (Below.refl _ _).drew
    refine Go.XR.region_sched ((Below W1.heap.size W1)) [(0, true), (1, true), (2, true), (4, true), (5, true), (3, false), (6, false), (7, false), (8, false)] [7, 8] Tryz.mixed (by kernel_rfl) (by kernel_rfl) (by kernel_rfl) ?_
    simp only [List.map_cons, List.map_nil, List.getElem?_cons_succ, List.getElem?_cons_zero]
    repeat (first | (refine Go.XR.S_light rfl rfl (by assumption) ?_ (fun w' hS K hK => ?_) (fun K hK => ?_); rotate_left 1; (have hS1 := bcell hS; go_step; exact hK); go_step; refine hK _ ?_; clear hK K))
    refine Go.XR.S_heavy (fun K hK => ?_)
    go_step
    refine (ctext_nil _ x.1 (by omega)).mono ?_
    rintro e w2 hret
    obtain ⟨a2, c2, rfl, hr2, hn2, _, _, hb2⟩ := hret.open
    have HR2 := Lib.hid hr2
    have hS2 : Below W1.heap.size W1 w2 := hS0.trans (hb2.mono (by simp))
    have HS2 := Lib.hid hS2
    clear hret hb2 hr2 hn2 hS0
    refine hK _ _ ⟨fun _ => hS2, ?_⟩
    clear hK K
    repeat (first | (refine Go.XR.S_light rfl rfl (by assumption) ?_ (fun w' hS K hK => ?_) (fun K hK => ?_); rotate_left 1; (have hS1 := bcell hS; go_step; exact hK); go_step; refine hK _ ?_; clear hK K))
    refine Go.XR.S_heavy (fun K hK => ?_)
    go_step
    refine (ctext_any w2 a2 c2 (Go.NamesPure.textB x.1) HR2.out (by rw [Go.NamesPure.textB_length]; omega) x.2 (by omega)).mono ?_
    rintro e w3 hret
    obtain ⟨a3, c3, rfl, hr3, hn3, _, _, hb3⟩ := hret.open
    have HR3 := Lib.hid hr3
    have Hn3 := Lib.hid hn3
    have hS3 : Below W1.heap.size W1 w3 := HS2.out.trans (hb3.mono HS2.out.size)
    have HS3 := Lib.hid hS3
    clear hret hb3 hr3 hn3 hS2 HS2 HR2
    refine hK _ _ ⟨fun _ => hS3, ?_⟩
    clear hK K
    refine Go.XR.S_heavy (fun K hK => ?_)
    refine app_bytes2 g c L rfl (owns_below Ho1.out HS3.out) a3 _ c3 (Go.NamesPure.textB x.1 ++ Go.NamesPure.textB x.2) rfl rfl HR3.out (by rw [List.length_append, Go.NamesPure.textB_length]; omega) (by have := Hpl.out; unfold pairB at this; rw [this]; omega) ?_
    intro g' c' w4 ho4 hb4 hg'
    have hbt : But [g] w w4 := (But.of_below (Hb1.out.trans (HS3.out.mono Hb1.out.size))).trans hb4
    have hsz3 : w.heap.size ≤ w3.heap.size := by have := Hb1.out.size; have := HS3.out.size; omega
    have hne' : g' ≠ tb := by
      rcases hg' with h1 | h1
      · rw [h1]; exact hne
      · omega
    have hh4 : w4.heap[tb]? = some (.cells #[.slice (some ⟨g, 0, none⟩) L.length c] 30 (0, 0)) := (hbt.block tb hl (by simp; exact fun e => hne e.symm)).trans HH.out
    have c4 : w4.cell? ⟨tb, 0, none⟩ = some (.slice (some ⟨g, 0, none⟩) L.length c) := cells_of hh4 0
    have f4 : w4.frozen? ⟨tb, 0, none⟩ = false := frozen_of_row w4 tb 0 _ _ hh4
    obtain ⟨L4, hL4⟩ : ∃ L4, L ++ (Go.NamesPure.textB x.1 ++ Go.NamesPure.textB x.2) = L4 := ⟨_, rfl⟩
    have HL4 : Hid (l0 ++ (acc ++ [x]).flatMap pairB = L4) := HLx.out.trans hL4
    have hL4l : L4.length ≤ 2^40 + (acc.length + 1) * 2^21 := by
      rw [← hL4, List.length_append]
      have := Hpl.out
      unfold pairB at this
      rw [this]; omega
    rw [hL4] at ho4 ⊢
    have Ho4 := Lib.hid ho4
    have Hh4 := Lib.hid hh4
    have Hbt := Lib.hid hbt
    clear ho4 hb4 hbt hh4 hL4 c0 q0 q1 hS3 HS3 HR3
    go_step
    refine hK _ _ ⟨fun h => by simp at h, ?_⟩
    clear hK K
    repeat (first | (refine Go.XR.S_heavy (fun K hK => ?_); go_step; refine hK _ _ ⟨fun h => by simp at h, ?_⟩; clear hK K))
    refine Go.XR.S_nil ?_
    go_wp2
    go_ret
    have hbs : But [tb] w4 (w4.setCell ⟨tb, 0, none⟩ (.slice (some ⟨g', 0, none⟩) L4.length c')) := But.setCell (But.refl _ _) (.inl (by simp)) _
    refine ⟨rfl, [tb, g'], ⟨g', c', ?_, ?_, rfl, hne', hb0, ?_, ?_⟩, ?_, ?_⟩
    · rw [HL4.out]
      have := heap_setCell_at (i := 0) (u := .slice (some ⟨g', 0, none⟩) L4.length c') Hh4.out
      rw [this]
      simp
    · rw [HL4.out]
      exact owns_but Ho4.out hbs (by simp; exact hne')
    · rcases hg' with h1 | h1
      · rw [h1]; exact hg0
      · omega
    · rw [HL4.out, List.length_append, List.length_singleton]; exact hL4l
    · exact (Hbt.out.mono (fun i hi _ => by rw [List.mem_singleton] at hi; rw [hi]; simp)).trans (hbs.mono (fun i hi _ => by rw [List.mem_singleton] at hi; rw [hi]; simp))
    · intro b hb
      simp only [List.mem_cons, List.not_mem_nil, or_false] at hb
      rcases hb with rfl | rfl
      · exact .inl (by simp)
      · rcases hg' with h1 | h1
        · rw [h1]; exact .inl (by simp)
        · exact .inr (by omega)
theorem pre_root {t : PT} (h : TOk t) : within t.list (front ⟨#[47]⟩) = t.list := by
  have hf : front ⟨#[47]⟩ = ⟨#[47]⟩ := by decide
  rw [hf]
  refine filter_all fun x hx => ?_
  obtain ⟨l, h1, h2⟩ := h.key x hx
  have h3 := (parse_some h1).2
  refine pre_iff.2 ⟨(tx l).drop 1, ?_⟩
  rw [h3, ByteArray.toList_eq, ByteArray.toList_eq, B_data]
  unfold tx
  rw [if_neg h2]
  obtain ⟨y, r, rfl⟩ := List.exists_cons_of_ne_nil h2
  rw [fl_cons]; rfl
theorem own_rebase {w : World} {B B' : Nat} {e : TypeId} {k n g o c : Nat} {xs : List Value} (h : w.ownsRow B e k (.slice (some ⟨g, o, none⟩) n c) n xs) (hg : B' ≤ g) : w.ownsRow B' e k (.slice (some ⟨g, o, none⟩) n c) n xs := by
  refine ⟨h.1, ?_⟩
  rcases h.2 with ⟨h1, _⟩ | ⟨g', cap, cur, h1, _, h3⟩
  · cases h1
  · cases h1; exact .inr ⟨g, c, cur, rfl, hg, h3⟩
theorem TOk.ptab {t : PT} (h : TOk t) : ∀ x ∈ t.list, PTab x := fun x hx => by
  refine ⟨?_, h.vsize x hx⟩
  obtain ⟨l, h1, _⟩ := h.key x hx
  have := parse_size h1; omega
theorem treeB_length {t : PT} (h : TOk t) : (treeB t).length ≤ 2^34 := by
  unfold treeB
  have h1 := flat_pairB (l := t.list) h.ptab
  rw [PT.list_length] at h1
  have := h.size
  rw [List.length_append, be_length]; omega
set_option maxHeartbeats 4000000 in
set_option maxRecDepth 100000 in
theorem table_any (w : World) (a : Option Addr) (c : Nat) (l : List UInt8) (hR : Row w a (l.map byU)) (hl : l.length ≤ 2^39) (tp : Option Addr) (t : PT) (hp : Rep w tp t) (ht : TOk t) :
    Calls Tryz.prog 40 #[.slice a l.length c, .pointer tp] w (RetBytes w (l ++ treeB t)) := by
  obtain ⟨W0, hW0⟩ : ∃ W0, w.alloc (.cells #[.slice a l.length c] 30) = W0 := ⟨_, rfl⟩
  have hb0 : Below w.heap.size w W0 := by rw [← hW0]; exact (Below.refl _ _).alloc (Nat.le_refl _) _
  have hh0 : W0.heap[w.heap.size]? = some (.cells #[.slice a l.length c] 30 (0, 0)) := by rw [← hW0]; exact heap_new _ _
  have HR0 := Lib.hid (hR.below hb0)
  have HP0 := Lib.hid (hp.below hb0)
  have HP := Lib.hid hp
  have HT := Lib.hid ht
  have Hb0 := Lib.hid hb0
  have Hh0 := Lib.hid hh0
  have htl := blk_lt hh0
  have c0 : W0.cell? ⟨w.heap.size, 0, none⟩ = some (.slice a l.length c) := cells_of hh0 0
  have hts := ht.size
  clear hR hp ht hb0 hh0
  obtain ⟨tb, htb⟩ : ∃ tb, w.heap.size = tb := ⟨_, rfl⟩
  go_enter Tryz.func40, Tryz.ntmps40
  go_wp2
  rw [htb] at c0 htl Hh0
  refine Go.XR.region_sched ((· = W0.drew)) [(0, true), (1, true), (2, false), (3, true), (4, false), (5, false)] [4, 5] Tryz.mixed (by kernel_rfl) (by kernel_rfl) (by kernel_rfl) ?_
  simp only [List.map_cons, List.map_nil, List.getElem?_cons_succ, List.getElem?_cons_zero]
  repeat (first | (refine Go.XR.S_light rfl rfl rfl ?_ (fun w' hS K hK => ?_) (fun K hK => ?_); rotate_left 1; (cases hS; go_step; exact hK); go_step; refine hK _ ?_; clear hK K))
  refine Go.XR.S_heavy (fun K hK => ?_)
  go_step
  ((with_reducible refine (len_any W0.drew tp t HP0.out.drew).mono ?_); rintro e w' ⟨rfl, rfl⟩)
  refine hK _ _ ⟨fun _ => rfl, ?_⟩
  clear hK K
  repeat (first | (refine Go.XR.S_light rfl rfl rfl ?_ (fun w' hS K hK => ?_) (fun K hK => ?_); rotate_left 1; (cases hS; go_step; exact hK); go_step; refine hK _ ?_; clear hK K))
  refine Go.XR.S_heavy (fun K hK => ?_)
  go_step
  refine (cput_any W0.drew a c l (HR0.out.below ((Below.refl _ _).drew)) (by omega) t.size 4 (by omega) (by omega)).mono ?_
  rintro e w2 ⟨g2, c2, rfl, ho2, hb2⟩
  have hlen4 : (l ++ be t.size 4).length = l.length + 4 := by rw [List.length_append, be_length]
  obtain ⟨g2, rfl⟩ : ∃ g, g2 = some ⟨g, 0, none⟩ := by
    rcases ho2.2 with ⟨h1, h2⟩ | ⟨g, cap, cur, h1, _⟩
    · omega
    · injection h1 with h1; exact ⟨g, h1⟩
  have hbw2 : Below W0.heap.size W0 w2 := (Below.refl _ _).drew.trans (hb2.mono (by simp))
  have hg2 : W0.heap.size ≤ g2 := by
    have := (ho2.lt g2 rfl).1
    simpa using this
  have hh2 : w2.heap[tb]? = some (.cells #[.slice a l.length c] 30 (0, 0)) := (hbw2.block tb htl).trans Hh0.out
  have d2 : w2.cell? ⟨tb, 0, none⟩ = some (.slice a l.length c) := cells_of hh2 0
  have f2 : w2.frozen? ⟨tb, 0, none⟩ = false := frozen_of_row w2 tb 0 _ _ hh2
  have Ho2 := Lib.hid ho2
  have Hbw2 := Lib.hid hbw2
  have Hh2 := Lib.hid hh2
  clear ho2 hb2 hbw2 hh2 c0
  refine hK _ _ ⟨fun h => by simp at h, ?_⟩
  clear hK K
  obtain ⟨l2, hl2⟩ : ∃ l2, l ++ be t.size 4 = l2 := ⟨_, rfl⟩
  rw [hl2] at hlen4 Ho2 ⊢
  have Hl2 := Lib.hid hl2
  have Hlen4 := Lib.hid hlen4
  clear hl2 hlen4
  repeat (first | (refine Go.XR.S_heavy (fun K hK => ?_); go_step; refine hK _ _ ⟨fun h => by simp at h, ?_⟩; clear hK K))
  refine Go.XR.S_nil ?_
  go_wp2_with fail
  clear d2 f2
  obtain ⟨W3, hW3⟩ : ∃ W3, w2.setCell ⟨tb, 0, none⟩ (.slice (some ⟨g2, 0, none⟩) l2.length c2) = W3 := ⟨_, rfl⟩
  have hbs : But [tb] w2 W3 := by rw [← hW3]; exact But.setCell (But.refl _ _) (.inl (by simp)) _
  have hb3 : Below w.heap.size w W3 := (Hb0.out.trans (Hbw2.out.mono Hb0.out.size)).trans (hbs.below (by have := Hb0.out.size; have := Hbw2.out.size; omega) (fun i hi => by rw [List.mem_singleton] at hi; omega))
  have hh3 : W3.heap[tb]? = some (.cells #[.slice (some ⟨g2, 0, none⟩) l2.length c2] 30 (0, 0)) := by
    rw [← hW3, heap_setCell_at Hh2.out]; simp
  have ho3 : W3.ownsRow 0 5 1 (.slice (some ⟨g2, 0, none⟩) l2.length c2) l2.length (l2.map byU) := own_rebase (owns_but Ho2.out hbs (by simp; omega)) (Nat.zero_le _)
  have e2 : l2 ++ ([] : List Pr).flatMap pairB = l2 := by simp
  have HSt : Hid (StTab l2 w tb W3 [tb, g2] []) := by
    unfold Hid StTab
    rw [e2]
    exact ⟨g2, c2, hh3, ho3, rfl, by omega, by omega, by have := Hb0.out.size; omega, by have := Hlen4.out; simp; omega⟩
  have HTo := Lib.hid (told_table l2 w tb)
  have Hb3 := Lib.hid hb3
  rw [hW3]
  clear hW3 hbs hb3 hh3 ho3 e2
  have hE2 : l2 ++ t.list.flatMap pairB = l ++ treeB t := by
    rw [← Hl2.out]
    unfold treeB
    rw [List.append_assoc]
  have HE2 := Lib.hid hE2
  clear hE2
  refine (within_table w W3 tp t HP.out hts HT.out.srt HT.out.ksize Hb3.out ⟨#[47]⟩ (by decide) #[.pointer (some ⟨tb, 0, none⟩)] (StTab l2 w tb) (fun _ _ => true) PTab (fun x hx _ => HT.out.ptab x hx) HTo.out [tb, g2] HSt.out).mono ?_
  rintro e w4 ⟨rfl, K', ⟨g, cc, hh4, ho4, _, _, _, hg4, _⟩, hb4, _⟩
  rw [toldL_true, pre_root HT.out, HE2.out] at hh4 ho4
  have hb5 : Below w.heap.size w w4 := Hb3.out.trans (hb4.below Hb3.out.size (fun i hi => by
    simp only [List.mem_cons, List.not_mem_nil, or_false] at hi
    rcases hi with rfl | rfl
    · omega
    · have := Hb0.out.size; omega))
  obtain ⟨L4, hL4⟩ : ∃ L4, l ++ treeB t = L4 := ⟨_, rfl⟩
  rw [hL4] at hh4 ho4 ⊢
  have d4 : w4.cell? ⟨tb, 0, none⟩ = some (.slice (some ⟨g, 0, none⟩) L4.length cc) := cells_of hh4 0
  have Hend : Hid (RetBytes w L4 (.returned (.slice (some ⟨g, 0, none⟩) L4.length cc)) w4) := ⟨_, cc, rfl, own_rebase ho4 hg4, hb5⟩
  have Hl4 := Lib.hid hL4
  clear hh4 ho4 hb4 hb5 hL4 HSt HTo
  go_wp2
  go_ret
  rw [Hl4.out]
  exact Hend.out
end Go.Proofs.YtoahjhogjjdkhaaGreatDoor

/- What List's closure does; the walk over List. -/
namespace Go.Proofs.YtoahjhogjjdkhaaGreatDoor
open Go Go.RowKit Go.XR Go.TreePure Go.PathPure Go.NamesPure
def nameOf (f : ByteArray) (x : Pr) : ByteArray := x.1.extract f.size x.1.size
def isChild (f : ByteArray) (x : Pr) : Bool := !Lib.contains (nameOf f x).data.toList [47]
def childs (f : ByteArray) (l : List Pr) : List ByteArray := (l.filter (isChild f)).map (nameOf f)
def strL (s : ByteArray) : List Value := [.string s]
theorem strL_len (s : ByteArray) : (strL s).length = 1 := rfl
theorem strL_one (s : ByteArray) : ∀ v ∈ strL s, v.oneCell' = true := fun v hv => by
  obtain rfl : v = .string s := by simpa [strL] using hv
  rfl
theorem flat_strL (l : List ByteArray) : l.flatMap strL = strs l := by
  induction l with
  | nil => rfl
  | cons x l ih => rw [List.flatMap_cons, ih]; rfl
def PList (f : ByteArray) (x : Pr) : Prop := f.size ≤ x.1.size ∧ x.1.size ≤ 2^19
def blocksOf (a : Option Addr) : List Nat := a.toList.map (·.block)
structure StList (f : ByteArray) (w0 : World) (fb ob : Nat) (w : World) (K : List Nat) (acc : List Pr) : Prop where
  bel : Below w0.heap.size w0 w
  fbx : w.heap[fb]? = some (.cells #[.string f] 9 (0, 0))
  row : ∃ ao c, w.heap[ob]? = some (.cells #[.slice ao (childs f acc).length c] 37 (0, 0)) ∧ w.ownsRow 0 9 1 (.slice ao (childs f acc).length c) (childs f acc).length ((childs f acc).flatMap strL) ∧
    K = ob :: blocksOf ao ∧ (∀ x, ao = some x → x.block ≠ ob ∧ x.block ≠ fb ∧ w0.heap.size ≤ x.block)
  ne : fb ≠ ob
  ge : w0.heap.size ≤ ob
theorem mem_blocks {a : Option Addr} {b : Nat} : b ∈ blocksOf a ↔ ∃ x, a = some x ∧ x.block = b := by
  unfold blocksOf
  cases a <;> simp [eq_comm]
theorem childs_no {f : ByteArray} {acc : List Pr} {x : Pr} (h : isChild f x = false) : childs f (acc ++ [x]) = childs f acc := by
  unfold childs
  rw [List.filter_append, List.filter_cons_of_neg (by rw [h]; simp), List.filter_nil, List.append_nil]
theorem childs_yes {f : ByteArray} {acc : List Pr} {x : Pr} (h : isChild f x = true) : childs f (acc ++ [x]) = childs f acc ++ [nameOf f x] := by
  unfold childs
  rw [List.filter_append, List.filter_cons_of_pos (by rw [h]), List.filter_nil, List.map_append]; rfl
theorem owns_but2 {w w' : World} {S : List Nat} {B : Nat} {e : TypeId} {k n c : Nat} {a : Option Addr} {xs : List Value} (h : w.ownsRow B e k (.slice a n c) n xs) (hb : But S w w') (hn : ∀ x, a = some x → x.block ∉ S) : w'.ownsRow B e k (.slice a n c) n xs := by
  refine ⟨h.1, ?_⟩
  rcases h.2 with h1 | ⟨g', cap, cur, h1, h2, h3, h4⟩
  · exact .inl h1
  · have h6 := h1
    injection h6 with h5
    exact .inr ⟨g', cap, cur, h1, h2, (hb.block g' (blk_lt h3) (hn _ h5)).trans h3, h4⟩
set_option maxHeartbeats 4000000 in
set_option maxRecDepth 100000 in
theorem told_list (f : ByteArray) (w0 : World) (hE : Env w0) (fb ob : Nat) : Told 91 #[.pointer (some ⟨fb, 0, none⟩), .pointer (some ⟨ob, 0, none⟩)] (StList f w0 fb ob) (fun _ _ => true) w0 (PList f) where
  below := fun w w' K acc h hb => by
    obtain ⟨ao, c, h1, h2, h3⟩ := h.row
    exact ⟨h.bel.trans (hb.mono h.bel.size), (hb.block fb (blk_lt h.fbx)).trans h.fbx, ⟨ao, c, (hb.block ob (blk_lt h1)).trans h1, owns_below h2 hb, h3⟩, h.ne, h.ge⟩
  lt := fun w K acc h b hb => by
    obtain ⟨ao, c, h1, h2, h3, _⟩ := h.row
    rw [h3] at hb
    rcases List.mem_cons.1 hb with rfl | hb
    · exact blk_lt h1
    · obtain ⟨x, rfl, rfl⟩ := mem_blocks.1 hb
      exact (h2.lt x.block rfl).2
  base := fun w K acc h b hb => by
    obtain ⟨ao, c, h1, h2, h3, h4⟩ := h.row
    rw [h3] at hb
    rcases List.mem_cons.1 hb with rfl | hb
    · exact h.ge
    · obtain ⟨x, hx, rfl⟩ := mem_blocks.1 hb
      exact (h4 x hx).2.2
  call := fun w K acc x h hlen hx => by
    obtain ⟨ao, c, hh, ho, rfl, hao⟩ := h.row
    have HS := Lib.hid h
    have HH := Lib.hid hh
    have Ho := Lib.hid ho
    have Hao := Lib.hid hao
    have hl := blk_lt hh
    have hfl := blk_lt h.fbx
    have hx1 := hx.1
    have hx2 := hx.2
    have hge := h.ge
    have hne := h.ne
    obtain ⟨W1, hW1⟩ : ∃ W1, w.alloc (.cells #[.string x.1, .string x.2] 98) = W1 := ⟨_, rfl⟩
    have hb1 : Below w.heap.size w W1 := by rw [← hW1]; exact (Below.refl _ _).alloc (Nat.le_refl _) _
    have hh1 := (hb1.block ob hl).trans hh
    have hf1 := (hb1.block fb hfl).trans h.fbx
    have hE1 : Env W1 := hE.below (h.bel.trans (hb1.mono h.bel.size))
    obtain ⟨mx, hmx⟩ := hE1.max
    have hq : W1.heap[w.heap.size]? = some (.cells #[.string x.1, .string x.2] 98 (0, 0)) := by rw [← hW1]; exact heap_new _ _
    have q0 : W1.cell? ⟨w.heap.size, 0, none⟩ = some (.string x.1) := cells_of hq 0
    have p0 : W1.cell? ⟨fb, 0, none⟩ = some (.string f) := cells_of hf1 0
    have c0 : W1.cell? ⟨ob, 0, none⟩ = some (.slice ao (childs f acc).length c) := cells_of hh1 0
    have hxi : (f.size : Int) ≤ (x.1.size : Int) := by omega
    have hnm : x.1.extract f.size x.1.size = nameOf f x := rfl
    have hns : (nameOf f x).size < 4294967281 := by unfold nameOf; rw [ByteArray.size_extract]; omega
    have Hmx := Lib.hid hmx
    have Hb1 := Lib.hid hb1
    have HS1 : Hid (∀ w', Below W1.heap.size W1 w' → Below w0.heap.size w0 w') := fun w' hb' => h.bel.trans ((hb1.trans (hb'.mono hb1.size)).mono h.bel.size)
    clear h hh ho hao hb1 hh1 hf1 hE1 hmx hq
    show Calls Tryz.prog 91 #[.agg #[.string x.1, .string x.2], .pointer (some ⟨fb, 0, none⟩), .pointer (some ⟨ob, 0, none⟩)] w _
    go_enter Tryz.func91, Tryz.ntmps91
    go_wp2_with fail
    refine (Tryz.strings_Contains (nameOf f x) ⟨#[47]⟩ mx W1 hns Hmx.out).mono ?_
    rintro e w' ⟨rfl, hw'⟩
    rw [hw']
    clear hw' w'
    obtain ⟨nm, hn⟩ : ∃ nm, nameOf f x = nm := ⟨_, rfl⟩
    have Hn := Lib.hid hn
    rw [hn]
    clear hnm hn
    have hlit : (⟨#[47]⟩ : ByteArray).data.toList = [47] := rfl
    rw [hlit]
    cases hct : Lib.contains nm.data.toList [47] with
    | true =>
      have hch : isChild f x = false := by unfold isChild; rw [Hn.out, hct]; rfl
      have Hch := Lib.hid (childs_no (acc := acc) hch)
      clear hct hch q0 p0 c0
      go_wp2
      go_ret
      refine ⟨rfl, ob :: blocksOf ao, ?_, But.of_below Hb1.out, fun b hb => .inl hb⟩
      have h := HS.out
      refine ⟨HS1.out _ (Below.refl _ _), (Hb1.out.block fb hfl).trans h.fbx, ⟨ao, c, ?_, ?_, rfl, Hao.out⟩, hne, hge⟩
      · rw [Hch.out]; exact (Hb1.out.block ob hl).trans HH.out
      · rw [Hch.out]; exact owns_below Ho.out Hb1.out
    | false =>
      have hch : isChild f x = true := by unfold isChild; rw [Hn.out, hct]; rfl
      have Hch := Lib.hid (childs_yes (acc := acc) hch)
      obtain ⟨L, hL⟩ : ∃ L, childs f acc = L := ⟨_, rfl⟩
      have hLl : L.length ≤ acc.length := by rw [← hL]; unfold childs; rw [List.length_map]; exact List.length_filter_le _ _
      rw [hL] at c0 HH Ho Hch
      have Ho1 := Lib.hid (owns_below Ho.out Hb1.out)
      clear hct hch q0 p0 hL
      go_wp2_with (at_builtin; refine Go.XR.stop (fun X hX => ?_))
      refine hX.out ?_
      clear hX X
      refine wpList_plain rfl (fun K hK => ?_)
      refine append_enc2 (P := Tryz.prog) strL 1 16 strL_len strL_one 9 Tryz.underlying37 (by kernel_rfl) (by decide) 0 ao c L rfl (Ho1.out.alloc _) W1.heap.size 0 1 [nm] rfl (by rw [List.flatMap_cons, List.flatMap_nil, List.append_nil]; exact Row.new _ _ _) (by simp; omega) (by unfold maxLen; simp; omega) (Nat.zero_le _) ?_
      intro a' c' w3 ho3 hg3 hsn
      have hb2 : Below W1.heap.size W1 (W1.alloc (.cells #[.string nm] 9)) := (Below.refl _ _).alloc (Nat.le_refl _) _
      have hbt : But (blocksOf ao) (W1.alloc (.cells #[.string nm] 9)) w3 := by
        cases ao with
        | none => exact But.of_grown_none (by simpa [Value.ownBlock] using hg3)
        | some y => exact (But.of_grown (b := y.block) (by simpa [Value.ownBlock] using hg3)).mono (fun i hi _ => by rw [List.mem_singleton] at hi; rw [hi]; simp [blocksOf])
      have hbw : But (blocksOf ao) w w3 := (But.of_below (Hb1.out.trans (hb2.mono Hb1.out.size))).trans hbt
      have hs1 := Hb1.out.size
      have ha' : ∀ y, a' = some y → (ao = some y ∨ w.heap.size ≤ y.block) := fun y hy => by
        rcases hsn with h1 | ⟨g', h1, h2, _⟩
        · exact .inl (h1 ▸ hy)
        · rw [hy] at h1; cases h1
          have := hb2.size
          exact .inr (by show w.heap.size ≤ g'; omega)
      have ha2 : ∀ y, a' = some y → y.block ≠ ob ∧ y.block ≠ fb ∧ w0.heap.size ≤ y.block := fun y hy => by
        rcases ha' y hy with h1 | h1
        · exact Hao.out y h1
        · have := HS.out.bel.size
          exact ⟨by omega, by omega, by omega⟩
      have hob : ob ∉ blocksOf ao := fun hm => by obtain ⟨y, hy, he⟩ := mem_blocks.1 hm; exact (Hao.out y hy).1 he
      have hfbn : fb ∉ blocksOf ao := fun hm => by obtain ⟨y, hy, he⟩ := mem_blocks.1 hm; exact (Hao.out y hy).2.1 he
      have hh3 : w3.heap[ob]? = some (.cells #[.slice ao L.length c] 37 (0, 0)) := (hbw.block ob hl hob).trans HH.out
      have hf3 : w3.heap[fb]? = some (.cells #[.string f] 9 (0, 0)) := (hbw.block fb hfl hfbn).trans HS.out.fbx
      have hbel3 : Below w0.heap.size w0 w3 := HS.out.bel.trans (hbw.below HS.out.bel.size (fun i hi => by obtain ⟨y, hy, rfl⟩ := mem_blocks.1 hi; exact (Hao.out y hy).2.2))
      have c3 : w3.cell? ⟨ob, 0, none⟩ = some (.slice ao L.length c) := cells_of hh3 0
      have f3 : w3.frozen? ⟨ob, 0, none⟩ = false := frozen_of_row w3 ob 0 _ _ hh3
      obtain ⟨L3, hL3⟩ : ∃ L3, L ++ [nm] = L3 := ⟨_, rfl⟩
      have HL3 : Hid (childs f (acc ++ [x]) = L3) := by unfold Hid; rw [Hch.out, Hn.out]; exact hL3
      rw [hL3] at ho3 ⊢
      have Ho3 := Lib.hid ho3
      have Hh3 := Lib.hid hh3
      have Hf3 := Lib.hid hf3
      have Hbw := Lib.hid hbw
      have Hbel3 := Lib.hid hbel3
      clear ho3 hg3 hsn hb2 hbt hbw hh3 hf3 hbel3 hL3 c0 hW1
      go_step
      refine hK _ _ ?_
      clear hK K
      go_wp2
      go_ret
      have hbs : But [ob] w3 (w3.setCell ⟨ob, 0, none⟩ (.slice a' L3.length c')) := But.setCell (But.refl _ _) (.inl (by simp)) _
      refine ⟨rfl, ob :: blocksOf a', ⟨?_, ?_, ⟨a', c', ?_, ?_, rfl, ha2⟩, hne, hge⟩, ?_, ?_⟩
      · exact Hbel3.out.trans (hbs.below Hbel3.out.size (fun i hi => by rw [List.mem_singleton] at hi; omega))
      · exact (hbs.block fb (blk_lt Hf3.out) (by simp; exact hne)).trans Hf3.out
      · rw [HL3.out]
        have := heap_setCell_at (i := 0) (u := .slice a' L3.length c') Hh3.out
        rw [this]
        simp
      · rw [HL3.out]
        exact owns_but2 Ho3.out hbs (fun y hy => by simp; exact (ha2 y hy).1)
      · exact (Hbw.out.mono (fun i hi _ => List.mem_cons_of_mem _ hi)).trans (hbs.mono (fun i hi _ => by rw [List.mem_singleton] at hi; rw [hi]; simp))
      · intro b hb
        rcases List.mem_cons.1 hb with rfl | hb
        · exact .inl (by simp)
        · obtain ⟨y, hy, rfl⟩ := mem_blocks.1 hb
          rcases ha' y hy with h1 | h1
          · exact .inl (List.mem_cons_of_mem _ (mem_blocks.2 ⟨y, h1, rfl⟩))
          · exact .inr h1
def listP (t : PT) (p : ByteArray) : List ByteArray × Int :=
  if errS p 0 ≠ 0 then ([], errS p 0) else match kd t p with
  | .dir => (childs (front p) (within t.list (front p)), 0)
  | .file => ([], 192)
  | .no => ([], 2)
def RetList (w : World) (r : List ByteArray × Int) (e : Ending) (w' : World) : Prop := ∃ a c, e = .returned (.tuple #[.slice a r.1.length c, .int .i64 r.2]) ∧ Row w' a (strs r.1) ∧ Below w.heap.size w w'
theorem RetList.err {w w' : World} {r : List ByteArray × Int} {n : Int} (h : r = ([], n)) (hb : Below w.heap.size w w') : RetList w r (.returned (.tuple #[.slice none 0 0, .int .i64 n])) w' := by
  subst h; exact ⟨none, 0, rfl, .inl rfl, hb⟩
theorem trim_size (p : ByteArray) : (trim p).size ≤ p.size := by
  have h1 : (trim p).size = (Lib.trimSuffix p.data.toList [47]).length := rfl
  have h2 : (Lib.trimSuffix p.data.toList [47]).length ≤ p.data.toList.length := by
    unfold Lib.trimSuffix
    split
    · exact List.length_take_le' _ _
    · exact Nat.le_refl _
  have h3 : p.size = p.data.toList.length := (Array.length_toList (xs := p.data)).symm
  omega
theorem front_size (p : ByteArray) : (front p).size = (trim p).size + 1 := by unfold front; rw [ByteArray.size_append]; rfl
theorem TOk.plist {t : PT} (h : TOk t) (p : ByteArray) : ∀ x ∈ t.list, pre (front p) x.1 = true → PList (front p) x := fun x hx hp => by
  constructor
  · obtain ⟨r, hr⟩ := pre_iff.1 hp
    have h1 := congrArg List.length hr
    rw [ByteArray.toList_eq, ByteArray.toList_eq, List.length_append] at h1
    have h2 : x.1.data.toList.length = x.1.size := Array.length_toList
    have h3 : (front p).data.toList.length = (front p).size := Array.length_toList
    omega
  · obtain ⟨l, h1, _⟩ := h.key x hx
    have := parse_size h1; omega
set_option maxHeartbeats 4000000 in
set_option maxRecDepth 100000 in
theorem list_any (w : World) (hE : Env w) (nb : Nat) (s : NSt) (h : NAt w nb s) (p : ByteArray) (hp : p.size ≤ 2^30) :
    Calls Tryz.prog 34 #[.pointer (some ⟨nb, 0, none⟩), .string p] w (RetList w (listP s.t p)) := by
  have HE := Lib.hid hE
  have H := Lib.hid h
  clear hE h
  go_enter Tryz.func34, Tryz.ntmps34
  go_wp2_with fail
  refine (stat_any w HE.out nb s H.out p hp).mono ?_
  rintro e w1 ⟨rfl, hb1⟩
  have H1 := Lib.hid (H.out.below hb1)
  have HE1 := Lib.hid (HE.out.below hb1)
  have Hb1 := Lib.hid hb1
  clear hb1
  rcases statP_cases s.t p with ⟨hs, hst⟩ | ⟨hs, hk, hst⟩ | ⟨hs, hk, hst⟩ | ⟨hs, hk, hst⟩
  · have E : Hid (listP s.t p = ([], 170)) := by unfold Hid listP; rw [if_pos (by rw [hs]; decide), hs]
    rw [hst]
    clear hst hs
    go_wp2
    go_ret2
    exact RetList.err E.out (Hb1.out.alloc Hb1.out.size _)
  · have E : Hid (listP s.t p = ([], 2)) := by unfold Hid listP; rw [if_neg (by rw [hs]; decide), hk]
    rw [hst]
    clear hst hs hk
    go_wp2
    go_ret2
    exact RetList.err E.out (Hb1.out.alloc Hb1.out.size _)
  · have E : Hid (listP s.t p = (childs (front p) (within s.t.list (front p)), 0)) := by unfold Hid listP; rw [if_neg (by rw [hs]; decide), hk]
    rw [hst]
    clear hst hs hk
    go_wp2_with fail
    refine (trim_any _ p hp).mono ?_
    rintro e w2 ⟨rfl, hw2⟩
    rw [hw2]
    clear hw2 w2
    obtain ⟨fr, hfr⟩ : ∃ fr, front p = fr := ⟨_, rfl⟩
    have hfr2 : trim p ++ ⟨#[47]⟩ = fr := hfr
    have Hfr := Lib.hid hfr
    have htz : ¬ (9223372036854775807 < (trim p).size + 1) := by have := trim_size p; omega
    clear hfr
    obtain ⟨W3, hW3⟩ : ∃ W3, ((w1.alloc (.cells #[.bool true, .int .i64 0] 45)).alloc (.cells #[.slice none 0 0] 37)).alloc (.cells #[.string fr] 9) = W3 := ⟨_, rfl⟩
    have hb3 : Below w1.heap.size w1 W3 := by rw [← hW3]; exact (((Below.refl _ _).alloc (Nat.le_refl _) _).alloc (by simp) _).alloc (by simp; omega) _
    have ho3 : W3.heap[w1.heap.size + 1]? = some (.cells #[.slice none 0 0] 37 (0, 0)) := by
      have h1 := heap_new2 w1 (.cells #[.bool true, .int .i64 0] 45) (.cells #[.slice none 0 0] 37)
      rw [← hW3]
      exact (((Below.refl _ _).alloc (Nat.le_refl _) _).block _ (blk_lt h1)).trans h1
    have hf3 : W3.heap[w1.heap.size + 1 + 1]? = some (.cells #[.string fr] 9 (0, 0)) := by
      rw [← hW3]
      have h1 := heap_new ((w1.alloc (.cells #[.bool true, .int .i64 0] 45)).alloc (.cells #[.slice none 0 0] 37)) (.cells #[.string fr] 9)
      have h2 : ((w1.alloc (.cells #[.bool true, .int .i64 0] 45)).alloc (.cells #[.slice none 0 0] 37)).heap.size = w1.heap.size + 1 + 1 := by simp
      rw [h2] at h1; exact h1
    have H3 := Lib.hid (H1.out.below hb3)
    have HSt : Hid (StList fr w1 (w1.heap.size + 1 + 1) (w1.heap.size + 1) W3 [w1.heap.size + 1] []) :=
      ⟨hb3, hf3, ⟨none, 0, ho3, World.ownsRow_nil _ _ _ _, rfl, fun x hx => by cases hx⟩, by omega, by omega⟩
    have HT := Lib.hid (told_list fr w1 HE1.out (w1.heap.size + 1 + 1) (w1.heap.size + 1))
    have Hb3 := Lib.hid hb3
    obtain ⟨c0, c1, f0⟩ := H3.out.cells
    have hsz := H1.out.ok.size
    clear hb3 ho3 hf3
    go_wp2_with fail
    clear hW3 hfr2 htz c0 c1 f0
    have HP : Hid (∀ x ∈ s.t.list, pre (front p) x.1 = true → PList fr x) := by unfold Hid; rw [← Hfr.out]; exact H1.out.ok.plist p
    refine (within_list w1 W3 s.tp s.t H1.out.rep hsz H1.out.ok.srt H1.out.ok.ksize Hb3.out p hp #[.pointer (some ⟨w1.heap.size + 1 + 1, 0, none⟩), .pointer (some ⟨w1.heap.size + 1, 0, none⟩)] (StList fr w1 (w1.heap.size + 1 + 1) (w1.heap.size + 1)) (fun _ _ => true) (PList fr) HP.out HT.out [w1.heap.size + 1] HSt.out).mono ?_
    rintro e w4 ⟨rfl, K', hst, _, _⟩
    rw [toldL_true, Hfr.out] at hst
    obtain ⟨a4, c4, hh4, ho4, _⟩ := hst.row
    have Hb4 := Lib.hid (Hb1.out.trans (hst.bel.mono Hb1.out.size))
    rw [flat_strL] at ho4
    have d4 : w4.cell? ⟨w1.heap.size + 1, 0, none⟩ = some (.slice a4 (childs fr (within s.t.list fr)).length c4) := cells_of hh4 0
    have Hend : Hid (RetList w (listP s.t p) (.returned (.tuple #[.slice a4 (childs fr (within s.t.list fr)).length c4, .int .i64 0])) w4) := by
      unfold Hid
      rw [E.out, Hfr.out]
      exact ⟨a4, c4, rfl, Row.owned ho4, Hb4.out⟩
    clear hst hh4 ho4 HSt HT HP Hb3
    go_wp2
    go_ret2
    exact Hend.out
  · have E : Hid (listP s.t p = ([], 192)) := by unfold Hid listP; rw [if_neg (by rw [hs]; decide), hk]
    rw [hst]
    clear hst hs hk
    go_wp2
    go_ret2
    exact RetList.err E.out (Hb1.out.alloc Hb1.out.size _)
end Go.Proofs.YtoahjhogjjdkhaaGreatDoor

/- The walk over Lay. -/
namespace Go.Proofs.YtoahjhogjjdkhaaGreatDoor
open Go Go.RowKit Go.XR Go.TreePure Go.PathPure Go.NamesPure
def treeOf (D : List SnapT) (s : ByteArray) : PT := ((D.find? fun q => q.1.1 = s).map (·.2.2)).getD .nil
def snapB (D : List SnapT) (s : ByteArray) : List UInt8 := Go.NamesPure.textB s ++ treeB (treeOf D s)
def layN (D : List SnapT) (t : PT) : List UInt8 := be D.length 2 ++ ((snapsL D).flatMap (snapB D) ++ treeB t)
theorem snapsL_mem {D : List SnapT} {s : ByteArray} (h : s ∈ snapsL D) : ∃ q ∈ D, q.1.1 = s := by
  unfold snapsL snapsB keysB at h
  obtain ⟨b, hb, rfl⟩ := List.mem_map.1 h
  have h2 := (List.mergeSort_perm _ _).mem_iff.1 hb
  obtain ⟨q, hq, rfl⟩ := List.mem_map.1 h2
  exact ⟨q, hq, by simp [strOf]⟩
theorem aget_find {D : List SnapT} {k : SK} : aget D k = (D.find? fun q => q.1.1 = k.1).map (·.2) := by
  unfold aget
  congr 2
  funext q
  exact decide_eq_decide.2 ⟨fun h => by rw [h], fun h => Subtype.ext h⟩
theorem snap_at {w : World} {nb : Nat} {s : NSt} (h : NAt w nb s) {x : ByteArray} (hx : x ∈ snapsL s.D) : ∃ k : SK, k.1 = x ∧ isName x = true ∧ ∃ q, aget s.D k = some q ∧ q.2 = treeOf s.D x ∧ Rep w q.1 q.2 ∧ TOk q.2 := by
  obtain ⟨q, hq, hqx⟩ := snapsL_mem hx
  refine ⟨q.1, hqx, by rw [← hqx]; exact (h.oks q hq).2, ?_⟩
  cases hf : s.D.find? (fun q => q.1.1 = x) with
  | none => exact absurd hqx (by simpa using List.find?_eq_none.1 hf q hq)
  | some r =>
    have hr := List.mem_of_find?_eq_some hf
    refine ⟨r.2, ?_, ?_, h.reps r hr, (h.oks r hr).1⟩
    · rw [aget_find, hqx, hf]; rfl
    · unfold treeOf; rw [hf]; rfl
theorem flat_len {α : Type} {f : α → List UInt8} {B : Nat} : ∀ {l : List α}, (∀ x ∈ l, (f x).length ≤ B) → (l.flatMap f).length ≤ l.length * B
  | [], _ => by simp
  | x :: l, h => by
    have h1 := h x (List.mem_cons_self ..)
    have h2 := flat_len (l := l) fun y hy => h y (List.mem_cons_of_mem _ hy)
    rw [List.flatMap_cons, List.length_append, List.length_cons, Nat.succ_mul]
    omega
theorem TOk.pairB {t : PT} (h : TOk t) : ∀ x ∈ t.list, (pairB x).length ≤ 657000 := fun x hx => by
  obtain ⟨l, h1, _⟩ := h.key x hx
  have h2 := parse_size h1
  rw [pairB_length]
  rcases h.val x hx with h1 | ⟨l, h1, h3⟩
  · rw [h1]; have : dB.size ≤ 100 := by decide
    omega
  · rw [h3, fB_size, layB_length]; have := (rightP_all h1).1; omega
theorem treeB_len {t : PT} (h : TOk t) : (treeB t).length ≤ 2^32 := by
  unfold treeB
  have h1 := flat_len (l := t.list) (f := pairB) h.pairB
  rw [PT.list_length] at h1
  have := h.size
  rw [List.length_append, be_length]
  have : t.size * 657000 ≤ 4096 * 657000 := Nat.mul_le_mul_right _ h.size
  omega
theorem snapB_length {D : List SnapT} {x : ByteArray} (hx : isName x = true) (ht : TOk (treeOf D x)) : (snapB D x).length ≤ 2^32 + 2^10 := by
  unfold snapB
  rw [List.length_append, Go.NamesPure.textB_length]
  have := treeB_len ht
  have := isName_size hx
  omega
theorem RetBytes.rebase {w w1 w2 : World} {L : List UInt8} {e : Ending} (hb : Below w.heap.size w w1) (h : RetBytes w1 L e w2) : RetBytes w L e w2 := by
  obtain ⟨a, c, h1, h2, h3⟩ := h
  refine ⟨a, c, h1, ⟨h2.1, ?_⟩, hb.trans (h3.mono hb.size)⟩
  rcases h2.2 with h | ⟨g, cap, cur, e1, e2, e3⟩
  · exact .inl h
  · exact .inr ⟨g, cap, cur, e1, Nat.le_trans hb.size e2, e3⟩
set_option maxHeartbeats 4000000 in
set_option maxRecDepth 100000 in
theorem layn_any (w : World) (nb : Nat) (s : NSt) (h : NAt w nb s) : Calls Tryz.prog 14 #[.pointer (some ⟨nb, 0, none⟩)] w (RetBytes w (layN s.D s.t)) := by
  obtain ⟨c0, c1, f0⟩ := h.cells
  have H := Lib.hid h
  have hfew := h.few
  have hln := run_gm_len (P := Tryz.prog) Tryz.underlying77 3 h.gm
  clear h
  go_enter Tryz.func14, Tryz.ntmps14
  go_wp2_with fail
  refine (cput_nil w s.D.length 2 (by omega) (by omega)).mono ?_
  rintro e w1 hret
  obtain ⟨a1, cc1, rfl, hr1, _, _, _, hb1⟩ := hret.open
  have H1 := Lib.hid (H.out.below hb1)
  have HR1 := Lib.hid hr1
  have Hb1 := Lib.hid hb1
  clear hret hr1 hb1 c0 c1 f0 hln
  go_wp2_with fail
  refine (snaps_any w1 nb s H1.out).mono ?_
  rintro e w2 ⟨a2, cc2, rfl, hr2, _, hb2⟩
  have H2 := Lib.hid (H1.out.below hb2)
  have HN := Lib.hid hr2
  have HR2 := Lib.hid (HR1.out.below hb2)
  have Hb2 := Lib.hid (Hb1.out.trans (hb2.mono Hb1.out.size))
  have hSl : (snapsL s.D).length ≤ 64 := by rw [snapsL_length]; exact hfew
  clear hr2 hb2 HR1 H1 Hb1
  go_wp2
  go_loopg [18, 3] (snapsL s.D).length (fun m i v wr => ∃ (k : Nat) (bo : Option Addr) (bc : Nat) (L : List UInt8), k ≤ (snapsL s.D).length ∧ i = .int .i64 k ∧ v = .slice bo L.length bc ∧ Hid (m = (snapsL s.D).length - k ∧ L = be s.D.length 2 ++ ((snapsL s.D).take k).flatMap (snapB s.D) ∧ Below w2.heap.size w2 wr ∧ Row wr bo (L.map byU) ∧ L.length ≤ 2 + k * (2^32 + 2^10)))
  case atStart => exact ⟨0, a1, cc1, be s.D.length 2, Nat.zero_le _, rfl, rfl, rfl, by simp, Below.refl _ _, HR2.out, by rw [be_length]; omega⟩
  case round =>
    obtain ⟨k, bo, bc, L, hk, rfl, rfl, hr⟩ := hrel
    have Hm := Lib.hid hr.out.1
    have HL := Lib.hid hr.out.2.1
    have Hbw := Lib.hid hr.out.2.2.1
    have HRow := Lib.hid hr.out.2.2.2.1
    have hLl := hr.out.2.2.2.2
    have Hw := Lib.hid (H2.out.below Hbw.out)
    clear hr
    by_cases hlt : k < (snapsL s.D).length
    · have hi1 : (k : Int) < ((snapsL s.D).length : Int) := by omega
      obtain ⟨g, o, rfl, hc⟩ := str_at (HN.out.below Hbw.out) hlt
      obtain ⟨ks, hks, hnm, q, hq, hqt, hqr, hqo⟩ := snap_at Hw.out (List.getElem_mem hlt)
      have Htk : Hid (((snapsL s.D).take (k + 1)).flatMap (snapB s.D) = ((snapsL s.D).take k).flatMap (snapB s.D) ++ snapB s.D (snapsL s.D)[k]) := by
        unfold Hid; rw [List.take_succ_eq_append_getElem hlt, List.flatMap_append]; simp
      have hsl := snapB_length (D := s.D) hnm (by rw [← hqt]; exact hqo)
      have hns := isName_size hnm
      obtain ⟨x, hx⟩ : ∃ x, (snapsL s.D)[k] = x := ⟨_, rfl⟩
      rw [hx] at hc hks hqt Htk hsl hns
      have Hks := Lib.hid hks
      have Hv : Hid (((aget s.D ks).map treV).getD (.pointer none) = .pointer q.1) := by unfold Hid; rw [hq]; rfl
      have Hqt := Lib.hid hqt
      have Hqr := Lib.hid hqr
      have Hqo := Lib.hid hqo
      obtain ⟨c0, c1, f0⟩ := Hw.out.cells
      have hnl := Hw.out.lt
      clear hx hks hq hqt hqr hqo hnm
      go_wp2
      clear hc
      have hS0 : Below wr.heap.size wr wr.drew := (Below.refl _ _).drew
      refine Go.XR.region_sched ((Below wr.heap.size wr)) [(0, true), (1, true), (3, true), (4, true), (5, true), (6, true), (7, true), (8, true), (2, false), (9, false), (10, false)] [9, 10] Tryz.mixed (by kernel_rfl) (by kernel_rfl) (by kernel_rfl) ?_
      simp only [List.map_cons, List.map_nil, List.getElem?_cons_succ, List.getElem?_cons_zero]
      repeat (first | (refine Go.XR.S_light rfl rfl (by assumption) ?_ (fun w' hS K hK => ?_) (fun K hK => ?_); rotate_left 1; (have hS1 := bcell hS; (first | (refine wp_gm_lookup _ _ 77 rfl keysS Tryz.underlying77 (.pointer none) (Tryz.zeroValue75) ks _ rfl (by show Value.string x = strV ks; unfold strV; rw [Hks.out]) (Hw.out.gm.below hS) Hv.out ?_) | go_step); exact hK); go_step; refine hK _ ?_; clear hK K))
      refine Go.XR.S_heavy (fun K hK => ?_)
      go_step
      refine (ctext_any _ bo bc L (HRow.out.below hS0) (by omega) x (by omega)).mono ?_
      rintro e w3 hret
      obtain ⟨a3, c3, rfl, hr3, _, _, _, hb3⟩ := hret.open
      have HR3 := Lib.hid hr3
      have hS3 : Below wr.heap.size wr w3 := hS0.trans (hb3.mono (by simp))
      have HS3 := Lib.hid hS3
      clear hret hr3 hb3 hS0
      refine hK _ _ ⟨fun _ => hS3, ?_⟩
      clear hK K
      repeat (first | (refine Go.XR.S_light rfl rfl (by assumption) ?_ (fun w' hS K hK => ?_) (fun K hK => ?_); rotate_left 1; (have hS1 := bcell hS; (first | (refine wp_gm_lookup _ _ 77 rfl keysS Tryz.underlying77 (.pointer none) (Tryz.zeroValue75) ks _ rfl (by show Value.string x = strV ks; unfold strV; rw [Hks.out]) (Hw.out.gm.below hS) Hv.out ?_) | go_step); exact hK); go_step; refine hK _ ?_; clear hK K))
      obtain ⟨L3, hL3⟩ : ∃ L3, L ++ Go.NamesPure.textB x = L3 := ⟨_, rfl⟩
      have hL3l : L3.length ≤ L.length + 100 + 4 := by rw [← hL3, List.length_append, Go.NamesPure.textB_length]; omega
      have HL3 := Lib.hid hL3
      have hE4 : Hid (L3 ++ treeB q.2 = L ++ snapB s.D x) := by unfold Hid; rw [← hL3, Hqt.out]; unfold snapB; rw [List.append_assoc]
      rw [hL3] at HR3 ⊢
      clear hL3
      refine Go.XR.S_heavy (fun K hK => ?_)
      go_step
      refine (table_any w3 a3 c3 L3 HR3.out (by omega) q.1 q.2 (Hqr.out.below HS3.out) Hqo.out).mono ?_
      rintro e w4 hret
      obtain ⟨a4, c4, rfl, hr4, _, _, _, hb4⟩ := hret.open
      rw [hE4.out] at hr4 ⊢
      obtain ⟨L4, hL4⟩ : ∃ L4, L ++ snapB s.D x = L4 := ⟨_, rfl⟩
      have hL4l : L4.length = L.length + (snapB s.D x).length := by rw [← hL4, List.length_append]
      have HL4 := Lib.hid hL4
      rw [hL4] at hr4 ⊢
      have HR4 := Lib.hid hr4
      have Hb4 := Lib.hid (HS3.out.trans (hb4.mono HS3.out.size))
      clear hret hr4 hb4 hL4
      refine hK _ _ ⟨fun h => by simp at h, ?_⟩
      clear hK K
      repeat (first | (refine Go.XR.S_heavy (fun K hK => ?_); go_step; refine hK _ _ ⟨fun h => by simp at h, ?_⟩; clear hK K))
      refine Go.XR.S_nil ?_
      go_wp2
      go_roundg ((snapsL s.D).length - (k + 1))
      case measure => have := Hm.out; omega
      case rel =>
        refine ⟨k + 1, a4, c4, L4, by omega, by go_num, rfl, rfl, ?_, ?_, HR4.out, ?_⟩
        · rw [← HL4.out, HL.out, Htk.out, List.append_assoc]
        · exact Hbw.out.trans (Hb4.out.mono Hbw.out.size)
        · omega
    · have hge : ¬ (k : Int) < ((snapsL s.D).length : Int) := by omega
      have hkl : k = (snapsL s.D).length := by omega
      obtain ⟨c0, c1, f0⟩ := Hw.out.cells
      have hnl := Hw.out.lt
      go_wp2_with fail
      have Hnw := Lib.hid Hw.out
      refine (table_any wr bo bc L HRow.out (by omega) s.tp s.t Hw.out.rep Hw.out.ok).mono ?_
      intro e w4 hret
      have hret2 := RetBytes.rebase (Hb2.out.trans (Hbw.out.mono Hb2.out.size)) hret
      have hE : L ++ treeB s.t = layN s.D s.t := by
        unfold layN
        rw [HL.out, hkl, List.take_length, List.append_assoc]
      rw [hE] at hret2
      clear hret hE
      obtain ⟨a4, c4, rfl, h5, h6⟩ := hret2
      have H5 := Lib.hid h5
      have H6 := Lib.hid h6
      clear h5 h6
      go_wp2
      go_ret
      exact ⟨a4, c4, rfl, H5.out, H6.out⟩
end Go.Proofs.YtoahjhogjjdkhaaGreatDoor

/- The document's examples, plain. -/
namespace Go.Proofs.YtoahjhogjjdkhaaGreatDoor
open Go Go.RowKit Go.XR Go.TreePure Go.PathPure Go.NamesPure
theorem isName_eq (s : ByteArray) : isName s = (!(s.data.toList == []) && (!(s.data.toList == [46]) && (!(s.data.toList == [46, 46]) && (decide (s.size ≤ 100) && (Lib.validD s.data.toList && scan s s.size 0))))) := by
  unfold isName; rw [ByteArray.toList_eq]
theorem name_a : isName ⟨#[97]⟩ = true := by rw [isName_eq]; kernel_rfl
theorem name_b : isName ⟨#[98]⟩ = true := by rw [isName_eq]; kernel_rfl
theorem name_c : isName ⟨#[99]⟩ = true := by rw [isName_eq]; kernel_rfl
theorem name_d : isName ⟨#[100]⟩ = true := by rw [isName_eq]; kernel_rfl
theorem parse_root' : parse ⟨#[47]⟩ = some [] := parse_root.2 rfl
theorem parse_a : parse ⟨#[47, 97]⟩ = some [⟨#[97]⟩] := parse_tx (l := [⟨#[97]⟩]) (by unfold okNames; simp [name_a])
theorem parse_c : parse ⟨#[47, 99]⟩ = some [⟨#[99]⟩] := parse_tx (l := [⟨#[99]⟩]) (by unfold okNames; simp [name_c])
theorem parse_ab : parse ⟨#[47, 97, 47, 98]⟩ = some [⟨#[97]⟩, ⟨#[98]⟩] := parse_tx (l := [⟨#[97]⟩, ⟨#[98]⟩]) (by unfold okNames; simp [name_a, name_b])
theorem parse_cb : parse ⟨#[47, 99, 47, 98]⟩ = some [⟨#[99]⟩, ⟨#[98]⟩] := parse_tx (l := [⟨#[99]⟩, ⟨#[98]⟩]) (by unfold okNames; simp [name_c, name_b])
theorem parse_cd : parse ⟨#[47, 99, 47, 100]⟩ = some [⟨#[99]⟩, ⟨#[100]⟩] := parse_tx (l := [⟨#[99]⟩, ⟨#[100]⟩]) (by unfold okNames; simp [name_c, name_d])
theorem klt_eq (a b : ByteArray) : klt a b = Op.bytesLess a.data.toList b.data.toList := by unfold klt; rw [ByteArray.toList_eq, ByteArray.toList_eq]
theorem pre_eq (a b : ByteArray) : pre a b = a.data.toList.isPrefixOf b.data.toList := by unfold pre; rw [ByteArray.toList_eq, ByteArray.toList_eq]
def fE : ByteArray := ⟨#[102, 0, 0, 0, 0]⟩
theorem fE_eq : fB (layB []) = fE := by kernel_rfl
def T1 : PT := .node ⟨#[47, 97]⟩ dB .nil .nil
def T2 : PT := .node ⟨#[47, 97]⟩ dB .nil (.node ⟨#[47, 97, 47, 98]⟩ fE .nil .nil)
def T3 : PT := .node ⟨#[47, 99]⟩ dB .nil (.node ⟨#[47, 99, 47, 98]⟩ fE .nil .nil)
theorem ex_mkdir : mkdirP .nil ⟨#[47, 97]⟩ = (T1, 0) := by
  have h1 : errS ⟨#[47, 97]⟩ 3 = 0 := by unfold errS; rw [parse_a]; rfl
  have h2 : parB ⟨#[47, 97]⟩ = ⟨#[47]⟩ := by unfold parB; rw [parse_a]; rfl
  have h3 : parK .nil ⟨#[47, 97]⟩ = 0 := by unfold parK; rw [h2]; rfl
  unfold mkdirP; rw [h1, h3]; rfl
theorem ka_ab : klt ⟨#[47, 97]⟩ ⟨#[47, 97, 47, 98]⟩ = true := by rw [klt_eq]; kernel_rfl
theorem ka_ab' : klt ⟨#[47, 97, 47, 98]⟩ ⟨#[47, 97]⟩ = false := by rw [klt_eq]; kernel_rfl
theorem kc_cb : klt ⟨#[47, 99]⟩ ⟨#[47, 99, 47, 98]⟩ = true := by rw [klt_eq]; kernel_rfl
theorem kc_cb' : klt ⟨#[47, 99, 47, 98]⟩ ⟨#[47, 99]⟩ = false := by rw [klt_eq]; kernel_rfl
theorem ka_c : klt ⟨#[47, 97]⟩ ⟨#[47, 99]⟩ = true := by rw [klt_eq]; kernel_rfl
theorem kc_a : klt ⟨#[47, 99]⟩ ⟨#[47, 97]⟩ = false := by rw [klt_eq]; kernel_rfl
theorem kab_c : klt ⟨#[47, 97, 47, 98]⟩ ⟨#[47, 99]⟩ = true := by rw [klt_eq]; kernel_rfl
theorem kc_ab : klt ⟨#[47, 99]⟩ ⟨#[47, 97, 47, 98]⟩ = false := by rw [klt_eq]; kernel_rfl
theorem ka_a : klt ⟨#[47, 97]⟩ ⟨#[47, 97]⟩ = false := klt_irrefl _
theorem kab_ab : klt ⟨#[47, 97, 47, 98]⟩ ⟨#[47, 97, 47, 98]⟩ = false := klt_irrefl _
theorem get_ab1 : PT.get ⟨#[47, 97, 47, 98]⟩ T1 = none := by unfold T1 PT.get; rw [ka_ab']; rfl
theorem put_ab1 : PT.put ⟨#[47, 97, 47, 98]⟩ fE T1 = T2 := by unfold T1; simp [PT.put, PT.join, PT.ht, ka_ab', ka_ab, T2]
theorem ex_put : putP T1 ⟨#[47, 97, 47, 98]⟩ [] = (T2, 0) := by
  have h1 : errS ⟨#[47, 97, 47, 98]⟩ 191 = 0 := by unfold errS; rw [parse_ab]; rfl
  have h2 : parB ⟨#[47, 97, 47, 98]⟩ = ⟨#[47, 97]⟩ := by unfold parB; rw [parse_ab]; rfl
  have h3 : parK T1 ⟨#[47, 97, 47, 98]⟩ = 0 := by unfold parK; rw [h2]; kernel_rfl
  have h4 : kd T1 ⟨#[47, 97, 47, 98]⟩ = .no := by unfold kd; rw [get_ab1]; rfl
  unfold putP; rw [h1, h3, h4, fE_eq, put_ab1]; rfl
theorem front_a : front ⟨#[47, 97]⟩ = ⟨#[47, 97, 47]⟩ := by kernel_rfl
theorem front_c : front ⟨#[47, 99]⟩ = ⟨#[47, 99, 47]⟩ := by kernel_rfl
theorem front_r : front ⟨#[47]⟩ = ⟨#[47]⟩ := by kernel_rfl
theorem list2 : T2.list = [(⟨#[47, 97]⟩, dB), (⟨#[47, 97, 47, 98]⟩, fE)] := by kernel_rfl
theorem list3 : T3.list = [(⟨#[47, 99]⟩, dB), (⟨#[47, 99, 47, 98]⟩, fE)] := by kernel_rfl
theorem within2 : within T2.list (front ⟨#[47, 97]⟩) = [(⟨#[47, 97, 47, 98]⟩, fE)] := by
  have h1 : pre ⟨#[47, 97, 47]⟩ ⟨#[47, 97]⟩ = false := by rw [pre_eq]; kernel_rfl
  have h2 : pre ⟨#[47, 97, 47]⟩ ⟨#[47, 97, 47, 98]⟩ = true := by rw [pre_eq]; kernel_rfl
  rw [front_a, list2]; simp [within, h1, h2]
theorem within3 : within T3.list (front ⟨#[47, 99]⟩) = [(⟨#[47, 99, 47, 98]⟩, fE)] := by
  have h1 : pre ⟨#[47, 99, 47]⟩ ⟨#[47, 99]⟩ = false := by rw [pre_eq]; kernel_rfl
  have h2 : pre ⟨#[47, 99, 47]⟩ ⟨#[47, 99, 47, 98]⟩ = true := by rw [pre_eq]; kernel_rfl
  rw [front_c, list3]; simp [within, h1, h2]
theorem within3r : within T3.list (front ⟨#[47]⟩) = T3.list := by
  have h1 : pre ⟨#[47]⟩ ⟨#[47, 99]⟩ = true := by rw [pre_eq]; kernel_rfl
  have h2 : pre ⟨#[47]⟩ ⟨#[47, 99, 47, 98]⟩ = true := by rw [pre_eq]; kernel_rfl
  rw [front_r, list3]; simp [within, h1, h2]
theorem kd2a : kd T2 ⟨#[47, 97]⟩ = .dir := by kernel_rfl
theorem kd2c : kd T2 ⟨#[47, 99]⟩ = .no := by
  have : PT.get ⟨#[47, 99]⟩ T2 = none := by unfold T2; simp [PT.get, kc_a, kc_ab]
  unfold kd; rw [this]; rfl
theorem kd3c : kd T3 ⟨#[47, 99]⟩ = .dir := by kernel_rfl
theorem ex_rename : renameP T2 ⟨#[47, 97]⟩ ⟨#[47, 99]⟩ = (T3, 0) := by
  have h1 : errS ⟨#[47, 97]⟩ 191 = 0 := by unfold errS; rw [parse_a]; rfl
  have h2 : errS ⟨#[47, 99]⟩ 191 = 0 := by unfold errS; rw [parse_c]; rfl
  have h3 : (behindP ⟨#[47, 99]⟩ ⟨#[47, 97]⟩).isSome = false := by unfold behindP; rw [parse_a, parse_c]; kernel_rfl
  have h4 : parB ⟨#[47, 99]⟩ = ⟨#[47]⟩ := by unfold parB; rw [parse_c]; rfl
  have h5 : parK T2 ⟨#[47, 99]⟩ = 0 := by unfold parK; rw [h4]; rfl
  have h6 : renaE T2 ⟨#[47, 97]⟩ ⟨#[47, 99]⟩ = (0, false) := by
    unfold renaE; rw [h1, h2, kd2a, h3, h5, kd2c]; rfl
  have h7 : allOf T2 ⟨#[47, 97]⟩ = [(⟨#[47, 97]⟩, dB), (⟨#[47, 97, 47, 98]⟩, fE)] := by
    unfold allOf; rw [within2]; kernel_rfl
  have h8 : dropAll T2 [(⟨#[47, 97]⟩, dB), (⟨#[47, 97, 47, 98]⟩, fE)] = .nil := by
    simp [dropAll, T2, PT.Drop, PT.drop, PT.get, PT.join, PT.ht, PT.first, ka_a, kab_ab, ka_ab, ka_ab']
  have h9 : newP ⟨#[47, 97]⟩ ⟨#[47, 99]⟩ ⟨#[47, 97]⟩ = ⟨#[47, 99]⟩ := by kernel_rfl
  have h10 : newP ⟨#[47, 97]⟩ ⟨#[47, 99]⟩ ⟨#[47, 97, 47, 98]⟩ = ⟨#[47, 99, 47, 98]⟩ := by kernel_rfl
  have h11 : putAll ⟨#[47, 97]⟩ ⟨#[47, 99]⟩ .nil [(⟨#[47, 97]⟩, dB), (⟨#[47, 97, 47, 98]⟩, fE)] = some T3 := by
    simp [putAll, h9, h10, parse_c, parse_cb, PT.put, PT.join, PT.ht, kc_cb, kc_cb', T3]
  unfold renameP; rw [h6, h7, h8, h11]; rfl
theorem ex_list : listP T3 ⟨#[47]⟩ = ([⟨#[99]⟩], 0) := by
  have h1 : errS ⟨#[47]⟩ 0 = 0 := by unfold errS; rw [parse_root']; rfl
  have h2 : kd T3 ⟨#[47]⟩ = .dir := rfl
  unfold listP; rw [h1, h2, within3r, list3, front_r]; rfl
theorem ex_list2 : listP T3 ⟨#[47, 99]⟩ = ([⟨#[98]⟩], 0) := by
  have h1 : errS ⟨#[47, 99]⟩ 0 = 0 := by unfold errS; rw [parse_c]; rfl
  unfold listP; rw [h1, kd3c, within3, front_c]; rfl
theorem ex_remove : removeP T3 ⟨#[47, 99]⟩ = (T3, 193) := by
  have h1 : errS ⟨#[47, 99]⟩ 191 = 0 := by unfold errS; rw [parse_c]; rfl
  unfold removeP; rw [h1, kd3c, within3]; rfl
theorem ex_rename2 : renameP T3 ⟨#[47, 99]⟩ ⟨#[47, 99, 47, 100]⟩ = (T3, 1) := by
  have h1 : errS ⟨#[47, 99, 47, 100]⟩ 191 = 0 := by unfold errS; rw [parse_cd]; rfl
  have h2 : errS ⟨#[47, 99]⟩ 191 = 0 := by unfold errS; rw [parse_c]; rfl
  have h3 : (behindP ⟨#[47, 99, 47, 100]⟩ ⟨#[47, 99]⟩).isSome = true := by unfold behindP; rw [parse_cd, parse_c]; kernel_rfl
  have h6 : renaE T3 ⟨#[47, 99]⟩ ⟨#[47, 99, 47, 100]⟩ = (1, false) := by
    unfold renaE; rw [h1, h2, kd3c, h3]; rfl
  unfold renameP; rw [h6]; rfl
theorem ex_lay : layN [] .nil = [0, 0, 0, 0, 0, 0] := by
  unfold layN snapsL snapsB keysB; simp [List.mergeSort]; kernel_rfl
end Go.Proofs.YtoahjhogjjdkhaaGreatDoor

/- The walk over shown. -/
namespace Go.Proofs.YtoahjhogjjdkhaaGreatDoor
open Go Go.RowKit Go.XR Go.TreePure Go.PathPure Go.NamesPure
theorem Env.based {W w : World} (h : Env W) (hb : Below W.heap.size W w) : Env w := h.below hb
theorem RetN.into {w w' : World} {nb : Nat} {s : NSt} {r r' : PT × Int} {e : Ending} (h : RetN w nb s r e w') (hr : r = r') : ∃ tp', e = .returned (.int .i64 r'.2) ∧ NAt w' nb { s with tp := tp', t := r'.1 } ∧ But [nb] w w' := by
  subst hr
  obtain ⟨h1, tp', h2, h3⟩ := h
  exact ⟨tp', h1, h2, h3⟩
theorem below_nb {W w w' : World} {nb : Nat} (hb : Below W.heap.size W w) (h : But [nb] w w') (hn : W.heap.size ≤ nb) : Below W.heap.size W w' :=
  hb.trans (h.below hb.size (fun i hi => by rw [List.mem_singleton] at hi; rw [hi]; exact hn))
set_option maxHeartbeats 4000000 in
set_option maxRecDepth 100000 in
theorem shown_any (W : World) (hE : Env W) : Calls Tryz.prog 10 #[] W fun e w' => e = .returned (.bool true) ∧ Below W.heap.size W w' := by
  have HE := Lib.hid hE
  clear hE
  go_enter Tryz.func10, Tryz.ntmps10
  go_wp2_with fail
  refine (newn_any W).mono ?_
  rintro e w1 ⟨nb, m, rfl, hn1, hnb, hm, hb1⟩
  have HN1 := Lib.hid hn1
  have Hb1 := Lib.hid hb1
  clear hn1 hb1
  go_wp2_with fail
  refine (layn_any w1 nb _ HN1.out).mono ?_
  rintro e w2 hret
  rw [show layN _ _ = _ from ex_lay] at hret
  obtain ⟨a2, c2, rfl, hr2, _, _, _, hb2⟩ := hret.open
  have HN2 := Lib.hid (HN1.out.below hb2)
  have Hb2 := Lib.hid (Hb1.out.trans (hb2.mono Hb1.out.size))
  have HR2 := Lib.hid hr2
  clear hret hr2 hb2 HN1
  have hs2 : (convert 30 9 (.slice a2 6 c2)).run Tryz.prog w2 = .ok (.string ⟨#[0, 0, 0, 0, 0, 0]⟩) w2 := run_str_at w2 a2 c2 [0, 0, 0, 0, 0, 0] HR2.out 6 rfl
  go_wp2_with fail
  refine (mkdir_any w2 (HE.out.based Hb2.out) nb _ HN2.out ⟨#[47, 97]⟩ (by decide)).mono ?_
  rintro e w3 hret
  obtain ⟨tp3, rfl, hn, hb⟩ := RetN.into hret ex_mkdir
  have HN3 := Lib.hid hn
  have Hb3 := Lib.hid (below_nb Hb2.out hb hnb)
  clear hret hn hb HN2
  clear hs2 HR2
  go_wp2_with fail
  refine (put_n w3 (HE.out.based Hb3.out) nb _ HN3.out ⟨#[47, 97, 47, 98]⟩ (by decide) none 0 [] (.inl rfl) (by decide)).mono ?_
  rintro e w4 hret
  obtain ⟨tp4, rfl, hn, hb⟩ := RetN.into hret ex_put
  have HN4 := Lib.hid hn
  have Hb4 := Lib.hid (below_nb Hb3.out hb hnb)
  clear hret hn hb HN3
  go_wp2_with fail
  refine (rename_any w4 (HE.out.based Hb4.out) nb _ HN4.out ⟨#[47, 97]⟩ ⟨#[47, 99]⟩ (by decide) (by decide)).mono ?_
  rintro e w5 hret
  obtain ⟨tp5, rfl, hn, hb⟩ := RetN.into hret ex_rename
  have HN5 := Lib.hid hn
  have Hb5 := Lib.hid (below_nb Hb4.out hb hnb)
  clear hret hn hb HN4
  go_wp2_with fail
  refine (list_any w5 (HE.out.based Hb5.out) nb _ HN5.out ⟨#[47]⟩ (by decide)).mono ?_
  rintro e w6 ⟨a6, c6, rfl, hr, hb⟩
  rw [show listP _ _ = _ from ex_list] at hr ⊢
  have HR6 := Lib.hid hr
  have HN6 := Lib.hid (HN5.out.below hb)
  have Hb6 := Lib.hid (Hb5.out.trans (hb.mono Hb5.out.size))
  clear hr HN5
  clear hb
  go_wp2_with fail
  refine (list_any w6 (HE.out.based Hb6.out) nb _ HN6.out ⟨#[47, 99]⟩ (by decide)).mono ?_
  rintro e w7 ⟨a7, c7, rfl, hr, hb⟩
  rw [show listP _ _ = _ from ex_list2] at hr ⊢
  have HR7 := Lib.hid hr
  have HN7 := Lib.hid (HN6.out.below hb)
  have Hb7 := Lib.hid (Hb6.out.trans (hb.mono Hb6.out.size))
  clear hr HN6
  have HR67 := Lib.hid (HR6.out.below hb)
  clear hb HR6
  go_wp2_with fail
  have hb8 : Below w7.heap.size w7 (w7.alloc (.cells #[.string ⟨#[99]⟩] 9)) := (Below.refl _ _).alloc (Nat.le_refl _) _
  have Hb8 := Lib.hid hb8
  refine (texts_any _ a6 (some ⟨w7.heap.size, 0, none⟩) c6 1 [⟨#[99]⟩] [⟨#[99]⟩] (HR67.out.below hb8) (Row.new _ _ _) (by decide)).mono ?_
  rintro e w8 ⟨rfl, hb9⟩
  rw [show decide ([(⟨#[99]⟩ : ByteArray)] = [⟨#[99]⟩]) = true from decide_eq_true rfl]
  have hbt := hb8.trans (hb9.mono (by simp))
  have HN8 := Lib.hid (HN7.out.below hbt)
  have HR78 := Lib.hid (HR7.out.below hbt)
  have Hb9 := Lib.hid (Hb7.out.trans (hbt.mono Hb7.out.size))
  clear hbt hb8 hb9 Hb8 HN7 HR7 HR67
  go_wp2_with fail
  have hb8 : Below w8.heap.size w8 (w8.alloc (.cells #[.string ⟨#[98]⟩] 9)) := (Below.refl _ _).alloc (Nat.le_refl _) _
  have Hb8 := Lib.hid hb8
  refine (texts_any _ a7 (some ⟨w8.heap.size, 0, none⟩) c7 1 [⟨#[98]⟩] [⟨#[98]⟩] (HR78.out.below hb8) (Row.new _ _ _) (by decide)).mono ?_
  rintro e w9 ⟨rfl, hb10⟩
  rw [show decide ([(⟨#[98]⟩ : ByteArray)] = [⟨#[98]⟩]) = true from decide_eq_true rfl]
  have hbt := hb8.trans (hb10.mono (by simp))
  have HN9 := Lib.hid (HN8.out.below hbt)
  have Hb10 := Lib.hid (Hb9.out.trans (hbt.mono Hb9.out.size))
  clear hbt hb8 hb10 Hb8 HN8 HR78
  go_wp2_with fail
  refine (remove_any w9 (HE.out.based Hb10.out) nb _ HN9.out ⟨#[47, 99]⟩ (by decide)).mono ?_
  rintro e w10 hret
  obtain ⟨tp10, rfl, hn, hb⟩ := RetN.into hret ex_remove
  have HN10 := Lib.hid hn
  have Hb11 := Lib.hid (below_nb Hb10.out hb hnb)
  clear hret hn hb HN9
  go_wp2_with fail
  refine (rename_any w10 (HE.out.based Hb11.out) nb _ HN10.out ⟨#[47, 99]⟩ ⟨#[47, 99, 47, 100]⟩ (by decide) (by decide)).mono ?_
  rintro e w11 hret
  obtain ⟨tp11, rfl, hn, hb⟩ := RetN.into hret ex_rename2
  have Hb12 := Lib.hid (below_nb Hb11.out hb hnb)
  clear hret hn hb HN10
  go_wp2_with fail
  go_ret
  exact ⟨rfl, Hb12.out⟩
end Go.Proofs.YtoahjhogjjdkhaaGreatDoor

/- Reading plain arguments: values of bools, integers, strings, and structs and arrays of these; slices of such. -/
namespace Go.XR
open Go Go.RowKit

inductive Leaf where
  | bool
  | int (k : IntKind)
  | str
def LeafOk : Leaf → Value → Prop
  | .bool, v => ∃ b, v = .bool b
  | .int k, v => ∃ n, v = .int k n ∧ (Lit.int k n).wf = true
  | .str, v => ∃ s, v = .string s ∧ s.size ≤ maxLen
inductive Fits : List Leaf → List Value → Prop where
  | nil : Fits [] []
  | cons {l : Leaf} {v : Value} {ls : List Leaf} {vs : List Value} : LeafOk l v → Fits ls vs → Fits (l :: ls) (v :: vs)

theorem Fits.length : ∀ {ls : List Leaf} {vs : List Value}, Fits ls vs → vs.length = ls.length
  | _, _, .nil => rfl
  | _, _, .cons _ h => by simp [h.length]
theorem Fits.append : ∀ {a b : List Leaf} {x y : List Value}, Fits a x → Fits b y → Fits (a ++ b) (x ++ y)
  | _, _, _, _, .nil, h => h
  | _, _, _, _, .cons h1 h2, h => .cons h1 (h2.append h)

def leafsF (P : Program) (rec : TypeId → Option (List Leaf)) : Nat → List Field → Option (List Leaf)
  | _, [] => some []
  | off, f :: fs =>
    match rec f.type with
    | none => none
    | some l => if f.offset == off && P.cellsOf f.type == l.length then (leafsF P rec (off + l.length) fs).map (l ++ ·) else none

def leafs (P : Program) : Nat → TypeId → Option (List Leaf)
  | 0, _ => none
  | f + 1, t =>
    match P.underlying t with
    | some .bool => some [.bool]
    | some (.int k) => some [.int k]
    | some .string => some [.str]
    | some (.struct fs) => (leafsF P (leafs P f) 0 fs.toList).bind fun l => if P.cellsOf t == l.length then some l else none
    | some (.array n e) => (leafs P f e).bind fun l => if P.cellsOf e == l.length && P.cellsOf t == n * l.length then some (List.replicate n l).flatten else none
    | _ => none

section
variable {H : Type} {enc : TypeId × Value → H} {P : Program} {w : World} {base : Nat} {spare : Nat → Bool} {held : Bool}

theorem fits_fields {rec : TypeId → Option (List Leaf)} {g : TypeId → List Value → Option (DataW H × List MemPlace)} (hrec : ∀ t l cs x, rec t = some l → g t cs = some x → Fits l cs) (cs : List Value) :
    ∀ (fs : List Field) (off : Nat) (ls : List Leaf), leafsF P rec off fs = some ls →
      (∀ (i : Nat) (f : Field), fs[i]? = some f → ∃ y, g f.type ((cs.drop f.offset).take (P.cellsOf f.type)) = some y) → Fits ls ((cs.drop off).take ls.length)
  | [], _, _, h, _ => by cases h; simp; exact .nil
  | f :: fs, off, ls, h, hx => by
    simp only [leafsF] at h
    cases hr : rec f.type with
    | none => rw [hr] at h; cases h
    | some l =>
      rw [hr] at h
      simp only at h
      split at h
      · rename_i hc
        simp only [Bool.and_eq_true, beq_iff_eq] at hc
        cases hl : leafsF P rec (off + l.length) fs with
        | none => rw [hl] at h; cases h
        | some ls' =>
          rw [hl] at h
          cases h
          obtain ⟨y, hy⟩ := hx 0 f rfl
          have h1 := hrec _ _ _ _ hr hy
          have h2 := fits_fields hrec cs fs _ _ hl fun i f' hf => hx (i + 1) f' hf
          rw [hc.1, hc.2] at h1
          have := h1.append h2
          rw [List.length_append, List.take_add, List.drop_drop]
          exact this
      · cases h

theorem fits_array {l : List Leaf} {g : List Value → Option (DataW H × List MemPlace)} (hrec : ∀ cs x, g cs = some x → Fits l cs) (cs : List Value) :
    ∀ (n off : Nat), (∀ i, off ≤ i → i < off + n → ∃ y, g ((cs.drop (i * l.length)).take l.length) = some y) →
      Fits (List.replicate n l).flatten ((cs.drop (off * l.length)).take (n * l.length))
  | 0, _, _ => by simp; exact .nil
  | n + 1, off, hx => by
    obtain ⟨y, hy⟩ := hx off (Nat.le_refl _) (by omega)
    have h1 := hrec _ _ hy
    have h2 := fits_array hrec cs n (off + 1) fun i h h' => hx i (by omega) (by omega)
    have := h1.append h2
    rw [List.replicate_succ, List.flatten_cons, show (n + 1) * l.length = l.length + n * l.length from by rw [Nat.add_mul]; omega, List.take_add, List.drop_drop]
    rw [show off * l.length + l.length = (off + 1) * l.length from by rw [Nat.add_mul]; omega]
    exact this

theorem trod_flat : ∀ (f fuel : Nat) (t : TypeId) (ls : List Leaf) (cs : List Value) (x : DataW H × List MemPlace), leafs P f t = some ls → DataW.trod enc P w base spare held fuel t cs = some x → Fits ls cs
  | 0, _, _, _, _, _, h, _ => by cases h
  | f + 1, fuel, t, ls, cs, x, h, hx => by
    simp only [leafs] at h
    split at h
    · rename_i hu
      cases h
      obtain ⟨b, rfl, _⟩ := DataW.trod_bool hu hx
      exact .cons ⟨_, rfl⟩ .nil
    · rename_i k hu
      cases h
      obtain ⟨n, rfl, _, hn⟩ := DataW.trod_int hu hx
      exact .cons ⟨_, rfl, hn⟩ .nil
    · rename_i hu
      cases h
      obtain ⟨n, rfl, _, hn⟩ := DataW.trod_string hu hx
      exact .cons ⟨_, rfl, hn⟩ .nil
    · rename_i fs hu
      cases hl : leafsF P (leafs P f) 0 fs.toList with
      | none => rw [hl] at h; cases h
      | some l =>
        rw [hl] at h
        simp only [Option.bind_some] at h
        split at h
        · rename_i hc
          cases h
          obtain ⟨xs, n, rfl, rfl, hlen, hxl, hall⟩ := DataW.trod_struct hu hx
          have := fits_fields (g := DataW.trod enc P w base spare held n) (fun t l cs x h1 h2 => trod_flat f n t l cs x h1 h2) cs _ _ _ hl fun i g hg => by
            have hi : i < xs.length := by
              rw [hxl]
              have := (List.getElem?_eq_some_iff.1 hg).1
              simpa using this
            exact ⟨_, (hall i g (by simpa using hg)).trans (List.getElem?_eq_getElem hi)⟩
          rw [List.drop_zero, List.take_of_length_le (by rw [hlen]; exact Nat.le_of_eq (beq_iff_eq.1 hc))] at this
          exact this
        · cases h
    · rename_i n e hu
      cases hl : leafs P f e with
      | none => rw [hl] at h; cases h
      | some l =>
        rw [hl] at h
        simp only [Option.bind_some] at h
        split at h
        · rename_i hc
          simp only [Bool.and_eq_true, beq_iff_eq] at hc
          cases h
          obtain ⟨xs, m, rfl, rfl, hlen, hxl, hall⟩ := DataW.trod_array hu hx
          have := fits_array (l := l) (g := DataW.trod enc P w base spare held m e) (fun cs x h2 => trod_flat f m e l cs x hl h2) cs n 0 fun i _ hi => by
            have hi' : i < xs.length := by omega
            have := (hall i (by omega)).trans (List.getElem?_eq_getElem hi')
            rw [hc.1] at this
            exact ⟨_, this⟩
          rw [Nat.zero_mul, List.drop_zero, List.take_of_length_le (by rw [hlen, hc.2]; exact Nat.le_refl _)] at this
          exact this
        · cases h
    · cases h

theorem flat_of {f : Nat} {t : TypeId} {ls : List Leaf} {v : Value} {d : DataW H} {ps : List MemPlace} (hl : leafs P f t = some ls) (hd : DataW.Trod enc P w base spare held t v d ps) : Fits ls v.cells.toList := by
  obtain ⟨fuel, h⟩ := hd
  exact trod_flat f fuel t ls _ _ hl h

theorem agg_of {f : Nat} {t : TypeId} {fs : Array Field} {ls : List Leaf} {v : Value} {d : DataW H} {ps : List MemPlace} {r : Reach} {b0 : Nat} (ht : P.underlying t = some (.struct fs)) (hval : Value.okWide P w r b0 t v) (hl : leafs P f t = some ls)
    (hd : DataW.Trod enc P w base spare held t v d ps) : ∃ cs : Array Value, v = .agg cs ∧ Fits ls cs.toList := by
  obtain ⟨cs, rfl, _⟩ := WideShapes.okWide_struct ht hval
  exact ⟨cs, rfl, by simpa [Value.cells] using flat_of hl hd⟩

/-- a slice of plain elements, as a list of what each reads as -/
theorem slice_of {α : Type} (cell : α → List Value) {f : Nat} {t e : TypeId} {ls : List Leaf} (hα : ∀ cs, Fits ls cs → ∃ x, cell x = cs) (hlen : ∀ x, (cell x).length = ls.length) {a : Option Addr} {len cap : Nat} {d : DataW H} {ps : List MemPlace}
    (ht : P.underlying t = some (.slice e)) (hl : leafs P f e = some ls) (hpos : 0 < ls.length) (hc : P.cellsOf e = ls.length)
    (hd : DataW.Trod enc P w base spare held t (.slice a len cap) d ps) : ∃ L : List α, L.length = len ∧ Row w a (L.flatMap cell) ∧ len ≤ cap ∧ cap ≤ maxLen := by
  obtain ⟨fuel, h⟩ := hd
  rcases Deep.open_slice ht h with ⟨hcs, _⟩ | ⟨x, len', cap', m, n, D, Pl, hcs, _, hle, hcm, hm, _, hall⟩
  · simp [Value.cells] at hcs
    obtain ⟨rfl, rfl, rfl⟩ := hcs
    exact ⟨[], rfl, .inl rfl, Nat.le_refl _, Nat.zero_le _⟩
  · simp [Value.cells] at hcs
    obtain ⟨rfl, rfl, rfl⟩ := hcs
    have hlm : len ≤ m := by rw [hm]; split <;> omega
    have hx : ∀ i, i < len → ∃ y : α, ∀ j u, (cell y)[j]? = some u → w.cell? ((x.add (i * ls.length)).add j) = some u := fun i hi => by
      obtain ⟨cs', h1, h2⟩ := hall i (by omega)
      obtain ⟨y, hy⟩ := hα cs' (trod_flat f n e ls cs' _ hl h2)
      obtain ⟨_, h4, h5⟩ := World.cells?_some h1
      refine ⟨y, fun j u hj => ?_⟩
      rw [hy] at hj
      have hjl := (List.getElem?_eq_some_iff.1 hj).1
      rw [← hc, h5 j (by omega)]
      exact hj
    have hL : ∀ k, k ≤ len → ∃ L : List α, L.length = k ∧ ∀ j u, (L.flatMap cell)[j]? = some u → w.cell? (x.add j) = some u := by
      intro k
      induction k with
      | zero => intro _; exact ⟨[], rfl, fun j u h => by simp at h⟩
      | succ k ih =>
        intro hk
        obtain ⟨L, hL1, hL2⟩ := ih (by omega)
        obtain ⟨y, hy⟩ := hx k (by omega)
        have hfl : (L.flatMap cell).length = k * ls.length := by
          rw [← hL1]
          clear hL1 hL2
          induction L with
          | nil => simp
          | cons z L ih => rw [List.flatMap_cons, List.length_append, ih, hlen, List.length_cons, Nat.add_mul]; omega
        refine ⟨L ++ [y], by simp [hL1], fun j u hj => ?_⟩
        rw [List.flatMap_append, List.flatMap_cons, List.flatMap_nil, List.append_nil] at hj
        by_cases hjl : j < (L.flatMap cell).length
        · rw [List.getElem?_append_left hjl] at hj
          exact hL2 j u hj
        · rw [List.getElem?_append_right (by omega), hfl] at hj
          have := hy _ u hj
          rw [Deep.add_add] at this
          rw [show k * ls.length + (j - k * ls.length) = j from by omega] at this
          exact this
    obtain ⟨L, hL1, hL2⟩ := hL len (Nat.le_refl _)
    refine ⟨L, hL1, ?_, hle, hcm⟩
    cases L with
    | nil => exact .inl rfl
    | cons y L =>
      right
      have hne : 0 < ((y :: L).flatMap cell).length := by rw [List.flatMap_cons, List.length_append, hlen]; omega
      obtain ⟨u0, hu0⟩ : ∃ u, ((y :: L).flatMap cell)[0]? = some u := ⟨_, List.getElem?_eq_getElem hne⟩
      have h0 := hL2 0 u0 hu0
      have hsp : x.spot = none := by
        cases hs : x.spot with
        | none => rfl
        | some _ =>
          simp only [Addr.add, if_true, World.cell?, hs] at h0
          split at h0 <;> simp at h0
      obtain ⟨g, o, sp⟩ := x
      simp only at hsp
      subst hsp
      refine ⟨g, o, rfl, fun j u hj => ?_⟩
      have := hL2 j u hj
      have hadd : (⟨g, o, none⟩ : Addr).add j = ⟨g, o + j, none⟩ := by unfold Addr.add; split <;> simp_all
      rwa [hadd] at this
end
end Go.XR

/- Slices whose elements hold slices, as lists of what each reads as. -/
namespace Go.XR
open Go Go.RowKit
section
variable {H : Type} {enc : TypeId × Value → H} {P : Program} {w : World} {base : Nat} {spare : Nat → Bool} {held : Bool}
/-- a slice of elements, as a list of what each reads as; Q: what else is known of an element's memory -/
theorem slice_rel {α : Type} (cell : α → List Value) (Q : α → Prop) {N : Nat} {t e : TypeId} (hα : ∀ m cs x, DataW.trod enc P w base spare held m e cs = some x → ∃ y, cell y = cs ∧ Q y) (hlen : ∀ x, (cell x).length = N) {a : Option Addr} {len cap : Nat} {d : DataW H} {ps : List MemPlace}
    (ht : P.underlying t = some (.slice e)) (hpos : 0 < N) (hc : P.cellsOf e = N)
    (hd : DataW.Trod enc P w base spare held t (.slice a len cap) d ps) : ∃ L : List α, L.length = len ∧ Row w a (L.flatMap cell) ∧ (∀ y ∈ L, Q y) ∧ len ≤ cap ∧ cap ≤ maxLen := by
  obtain ⟨fuel, h⟩ := hd
  rcases Deep.open_slice ht h with ⟨hcs, _⟩ | ⟨x, len', cap', m, n, D, Pl, hcs, _, hle, hcm, hm, _, hall⟩
  · simp [Value.cells] at hcs
    obtain ⟨rfl, rfl, rfl⟩ := hcs
    exact ⟨[], rfl, .inl rfl, (fun y hy => by cases hy), Nat.le_refl _, Nat.zero_le _⟩
  · simp [Value.cells] at hcs
    obtain ⟨rfl, rfl, rfl⟩ := hcs
    have hlm : len ≤ m := by rw [hm]; split <;> omega
    have hx : ∀ i, i < len → ∃ y : α, Q y ∧ ∀ j u, (cell y)[j]? = some u → w.cell? ((x.add (i * N)).add j) = some u := fun i hi => by
      obtain ⟨cs', h1, h2⟩ := hall i (by omega)
      obtain ⟨y, hy, hq⟩ := hα n cs' _ h2
      obtain ⟨_, h4, h5⟩ := World.cells?_some h1
      refine ⟨y, hq, fun j u hj => ?_⟩
      rw [hy] at hj
      have hjl := (List.getElem?_eq_some_iff.1 hj).1
      rw [← hc, h5 j (by omega)]
      exact hj
    have hL : ∀ k, k ≤ len → ∃ L : List α, L.length = k ∧ (∀ y ∈ L, Q y) ∧ ∀ j u, (L.flatMap cell)[j]? = some u → w.cell? (x.add j) = some u := by
      intro k
      induction k with
      | zero => intro _; exact ⟨[], rfl, (fun y hy => by cases hy), fun j u h => by simp at h⟩
      | succ k ih =>
        intro hk
        obtain ⟨L, hL1, hLq, hL2⟩ := ih (by omega)
        obtain ⟨y, hq, hy⟩ := hx k (by omega)
        have hfl : (L.flatMap cell).length = k * N := by
          rw [← hL1]
          clear hL1 hL2 hLq
          induction L with
          | nil => simp
          | cons z L ih => rw [List.flatMap_cons, List.length_append, ih, hlen, List.length_cons, Nat.add_mul]; omega
        refine ⟨L ++ [y], by simp [hL1], (fun z hz => by
          rcases List.mem_append.1 hz with h | h
          · exact hLq z h
          · rw [List.mem_singleton] at h; subst h; exact hq), fun j u hj => ?_⟩
        rw [List.flatMap_append, List.flatMap_cons, List.flatMap_nil, List.append_nil] at hj
        by_cases hjl : j < (L.flatMap cell).length
        · rw [List.getElem?_append_left hjl] at hj
          exact hL2 j u hj
        · rw [List.getElem?_append_right (by omega), hfl] at hj
          have := hy _ u hj
          rw [Deep.add_add] at this
          rw [show k * N + (j - k * N) = j from by omega] at this
          exact this
    obtain ⟨L, hL1, hLq, hL2⟩ := hL len (Nat.le_refl _)
    refine ⟨L, hL1, ?_, hLq, hle, hcm⟩
    cases L with
    | nil => exact .inl rfl
    | cons y L =>
      right
      have hne : 0 < ((y :: L).flatMap cell).length := by rw [List.flatMap_cons, List.length_append, hlen]; omega
      obtain ⟨u0, hu0⟩ : ∃ u, ((y :: L).flatMap cell)[0]? = some u := ⟨_, List.getElem?_eq_getElem hne⟩
      have h0 := hL2 0 u0 hu0
      have hsp : x.spot = none := by
        cases hs : x.spot with
        | none => rfl
        | some _ =>
          simp only [Addr.add, if_true, World.cell?, hs] at h0
          split at h0 <;> simp at h0
      obtain ⟨g, o, sp⟩ := x
      simp only at hsp
      subst hsp
      refine ⟨g, o, rfl, fun j u hj => ?_⟩
      have := hL2 j u hj
      have hadd : (⟨g, o, none⟩ : Addr).add j = ⟨g, o + j, none⟩ := by unfold Addr.add; split <;> simp_all
      rwa [hadd] at this
end
end Go.XR

/- Acts as cells: reading them at the opening. -/
namespace Go.Proofs.YtoahjhogjjdkhaaGreatDoor
open Go Go.RowKit Go.XR Go.TreePure Go.PathPure Go.NamesPure
theorem wf_u8 {n : Int} (h : (Lit.int .u8 n).wf = true) : 0 ≤ n ∧ n ≤ 255 := by
  have h1 : IntKind.u8.min = 0 := by decide
  have h2 : IntKind.u8.max = 255 := by decide
  simp only [Lit.wf, h1, h2, Bool.and_eq_true, decide_eq_true_eq] at h
  exact h
theorem wf_u32 {n : Int} (h : (Lit.int .u32 n).wf = true) : 0 ≤ n ∧ n ≤ 4294967295 := by
  have h1 : IntKind.u32.min = 0 := by decide
  have h2 : IntKind.u32.max = 4294967295 := by decide
  simp only [Lit.wf, h1, h2, Bool.and_eq_true, decide_eq_true_eq] at h
  exact h
theorem fits_split : ∀ {a b : List Leaf} {cs : List Value}, Fits (a ++ b) cs → ∃ x y, cs = x ++ y ∧ Fits a x ∧ Fits b y
  | [], _, cs, h => ⟨[], cs, rfl, .nil, h⟩
  | _ :: a, b, _, h => by
    obtain _ | ⟨h1, h2⟩ := h
    obtain ⟨x, y, rfl, h3, h4⟩ := fits_split (a := a) h2
    exact ⟨_, y, rfl, .cons h1 h3, h4⟩
theorem bytes_fits : ∀ {n : Nat} {cs : List Value}, Fits (List.replicate n (.int .u8)) cs → ∃ bs : List UInt8, bs.length = n ∧ bs.map bV = cs
  | 0, _, h => by cases h; exact ⟨[], rfl, rfl⟩
  | n + 1, _, h => by
    rw [List.replicate_succ] at h
    obtain _ | ⟨⟨z, rfl, hz⟩, h⟩ := h
    obtain ⟨bs, h1, h2⟩ := bytes_fits h
    have hb := wf_u8 hz
    refine ⟨UInt8.ofNat z.toNat :: bs, by rw [List.length_cons, h1], ?_⟩
    rw [List.map_cons, h2]
    congr 1
    unfold bV
    rw [UInt8.toNat_ofNat_of_lt' (by show z.toNat < 256; omega)]
    congr 1; omega
theorem ext_leafs : (leafs Tryz.prog 8 110).getD [] = List.replicate 32 (.int .u8) ++ ([.int .u32] ++ [.int .i64, .int .i64]) := by kernel_rfl
theorem ext_fits : ∀ cs, Fits ((leafs Tryz.prog 8 110).getD []) cs → ∃ k : Ext, rowL k = cs := by
  rw [ext_leafs]
  intro cs hf
  obtain ⟨x, y, rfl, h1, h2⟩ := fits_split hf
  obtain ⟨bs, hb, rfl⟩ := bytes_fits h1
  obtain _ | ⟨⟨z, rfl, hz⟩, h2⟩ := h2
  obtain _ | ⟨⟨u, rfl, hu⟩, h2⟩ := h2
  obtain _ | ⟨⟨v, rfl, hv⟩, h2⟩ := h2
  cases h2
  have hb3 := wf_u32 hz
  refine ⟨(⟨⟨bs.toArray, by simpa using hb⟩, UInt32.ofNat z.toNat⟩, ⟨u, v⟩), ?_⟩
  unfold rowL keyL sumL placeL
  rw [List.append_assoc]
  congr 1
  show Value.int .u32 _ :: _ = _
  rw [UInt32.toNat_ofNat_of_lt' (by show z.toNat < 4294967296; omega), Int.toNat_of_nonneg hb3.1]
  rfl
structure NActT where
  kind : Nat
  p : ByteArray
  q : ByteArray
  la : Option Addr
  lc : Nat
  l : List Ext
  hk : kind < 256
def nactL (a : NActT) : List Value := [.int .u8 (a.kind : Int), .string a.p, .string a.q, .slice a.la a.l.length a.lc]
def nactC (a : NActT) : Array Value := (nactL a).toArray
theorem nactL_length (a : NActT) : (nactL a).length = 4 := rfl
theorem one_nactL (a : NActT) : ∀ v ∈ nactL a, v.oneCell' = true := by
  intro v hv
  simp [nactL] at hv
  rcases hv with rfl | rfl | rfl | rfl <;> rfl
/-- what is known of an act -/
structure NActQ (W : World) (a : NActT) : Prop where
  row : Row W a.la (a.l.flatMap rowL)
  le : a.l.length ≤ a.lc
  max : a.lc ≤ maxLen
  p : a.p.size ≤ maxLen
  q : a.q.size ≤ maxLen
  nil : a.la = none → a.l.length = 0 ∧ a.lc = 0
section
variable {H : Type} {enc : TypeId × Value → H} {w : World} {base : Nat} {spare : Nat → Bool} {held : Bool}
theorem ext_read : ∀ (m : Nat) (cs : List Value) (x : DataW H × List MemPlace), DataW.trod enc Tryz.prog w base spare held m 110 cs = some x → ∃ y : Ext, rowL y = cs ∧ True := by
  intro m cs x h
  obtain ⟨y, hy⟩ := ext_fits _ (trod_flat 8 m _ _ _ _ (show leafs Tryz.prog 8 110 = some ((leafs Tryz.prog 8 110).getD []) by kernel_rfl) h)
  exact ⟨y, hy, trivial⟩
theorem list4 {cs : List Value} (h : cs.length = 4) : ∃ a b c d, cs = [a, b, c, d] := by
  match cs, h with
  | [a, b, c, d], _ => exact ⟨a, b, c, d, rfl⟩
set_option maxRecDepth 100000 in
theorem nact_read : ∀ (m : Nat) (cs : List Value) (x : DataW H × List MemPlace), DataW.trod enc Tryz.prog w base spare held m 35 cs = some x → ∃ y, nactL y = cs ∧ NActQ w y := by
  intro m cs x h
  obtain ⟨xs, n, rfl, rfl, hlen, hxl, hall⟩ := DataW.trod_struct Tryz.underlying35 h
  have hcs : cs.length = 4 := hlen.trans (by kernel_rfl)
  have hx4 : xs.length = 4 := hxl
  obtain ⟨v0, v1, v2, v3, rfl⟩ := list4 hcs
  have g0 : DataW.trod enc Tryz.prog w base spare held n 5 [v0] = some xs[0] := (hall 0 _ rfl).trans (List.getElem?_eq_getElem (by omega))
  have g1 : DataW.trod enc Tryz.prog w base spare held n 9 [v1] = some xs[1] := (hall 1 _ rfl).trans (List.getElem?_eq_getElem (by omega))
  have g2 : DataW.trod enc Tryz.prog w base spare held n 9 [v2] = some xs[2] := (hall 2 _ rfl).trans (List.getElem?_eq_getElem (by omega))
  have g3 : DataW.trod enc Tryz.prog w base spare held n 33 [v3] = some xs[3] := (hall 3 _ rfl).trans (List.getElem?_eq_getElem (by omega))
  obtain ⟨k, hk, _, hkw⟩ := DataW.trod_int Tryz.underlying5 g0
  obtain ⟨p, hp, _, hpw⟩ := DataW.trod_string Tryz.underlying9 g1
  obtain ⟨q, ht, _, htw⟩ := DataW.trod_string Tryz.underlying9 g2
  have hsl : ∃ (a : Option Addr) (l c : Nat), [v3] = [.slice a l c] ∧ (a = none → l = 0 ∧ c = 0) := by
    rcases Deep.open_slice Tryz.underlying33 g3 with ⟨h0, _⟩ | ⟨a, l, c, _, _, _, _, h0, _⟩
    · exact ⟨none, 0, 0, h0, fun _ => ⟨rfl, rfl⟩⟩
    · exact ⟨some a, l, c, h0, fun e => by cases e⟩
  obtain ⟨a, l, c, hs, hnil⟩ := hsl
  obtain ⟨L, hL, hRow, hQ, hlc, hcm⟩ := slice_rel (w := w) (enc := enc) (base := base) (spare := spare) (held := held) (fun y : Ext => rowL y) (fun _ => True) (N := 35) (a := a) (len := l) (cap := c) ext_read rowL_length Tryz.underlying33 (by decide) (by kernel_rfl) ⟨n, (by
    rw [hs] at g3
    exact g3)⟩
  subst hL
  have b1 := wf_u8 hkw
  injection hk with hk; injection hp with hp; injection ht with ht; injection hs with hs
  subst hk hp ht hs
  refine ⟨⟨k.toNat, p, q, a, c, L, by omega⟩, ?_, hRow, hlc, hcm, ?_, ?_, hnil⟩
  · unfold nactL
    simp only
    rw [Int.toNat_of_nonneg b1.1]
  · simpa [Lit.wf] using hpw
  · simpa [Lit.wf] using htw
end
end Go.Proofs.YtoahjhogjjdkhaaGreatDoor

/- The walk over few. -/
namespace Go.Proofs.YtoahjhogjjdkhaaGreatDoor
open Go Go.RowKit Go.XR Go.TreePure Go.PathPure Go.NamesPure
structure FewOk (x : NActT) : Prop where
  p : x.p.size ≤ 20000
  q : x.q.size ≤ 20000
  l : x.l.length ≤ 50
def RetFew (a : Option Addr) (c : Nat) (l : List NActT) (w : World) (e : Ending) (w' : World) : Prop :=
  ∃ n, n ≤ l.length ∧ n ≤ 60 ∧ e = .returned (.slice a n c) ∧ Below w.heap.size w w' ∧ ∀ x ∈ l.take n, FewOk x
theorem nact_at {w : World} {b o : Nat} {a : NActT} (h : At w b o (nactC a)) : w.cell? ⟨b, o + 0, none⟩ = some (.int .u8 (a.kind : Int)) ∧ w.cell? ⟨b, o + 1, none⟩ = some (.string a.p) ∧ w.cell? ⟨b, o + 2, none⟩ = some (.string a.q) ∧ w.cell? ⟨b, o + 3, none⟩ = some (.slice a.la a.l.length a.lc) :=
  ⟨h 0 _ rfl, h 1 _ rfl, h 2 _ rfl, h 3 _ rfl⟩
set_option maxHeartbeats 2000000 in
set_option maxRecDepth 100000 in
theorem few_any (w : World) (a : Option Addr) (c : Nat) (l : List NActT) (hR : Row w a (l.flatMap nactL)) (hl : l.length ≤ maxLen) (hc : l.length ≤ c) (hq : ∀ x ∈ l, NActQ w x) :
    Calls Tryz.prog 15 #[.slice a l.length c] w (RetFew a c l w) := by
  have HR := Lib.hid hR
  have Hq := Lib.hid hq
  have hml : l.length ≤ 9223372036854775807 := by unfold maxLen at hl; omega
  clear hR hl hq
  go_enter Tryz.func15, Tryz.ntmps15
  go_wp2
  go_loopg [7, 3] l.length (fun m i t wr => Below w.heap.size w wr ∧ ∃ j left : Nat, j ≤ l.length ∧ j ≤ 60 ∧ left ≤ 20000 ∧ i = .int .i64 j ∧ t = .int .i64 left ∧ Hid (m = l.length - j ∧ ∀ x ∈ l.take j, FewOk x))
  case atStart => exact ⟨Below.refl _ _, 0, 20000, by omega, by omega, by omega, rfl, rfl, rfl, fun x hx => by simp at hx⟩
  case round =>
    obtain ⟨hb, j, left, hj, hj60, hle, rfl, rfl, hr⟩ := hrel
    have HB := Lib.hid hb
    clear hb
    by_cases hlt : j < l.length
    · have hlt2 : (j : Int) < (l.length : Int) := by omega
      obtain ⟨g, o, rfl, hX⟩ := erow_at nactL_length (HR.out.below HB.out) hlt (by omega)
      obtain ⟨c0, c1, c2, c3⟩ := nact_at hX
      have hqx := Hq.out _ (List.getElem_mem hlt)
      have Htk : Hid (l.take (j + 1) = l.take j ++ [l[j]]) := List.take_succ_eq_append_getElem hlt
      clear hX
      generalize l[j] = x at *
      have hp := hqx.p
      have ht := hqx.q
      have hlx := hqx.le
      have hcx := hqx.max
      unfold maxLen at hp ht hcx
      clear c0 hqx
      by_cases h1 : (60 : Int) ≤ (j : Int)
      · have hjl : j ≤ c := by omega
        clear c1 c2 c3
        go_wp2
        refine Go.XR.region_sched ((· = wr.drew)) [(0, true), (1, true), (2, true), (3, true), (4, true), (5, true), (6, true), (7, true), (8, true), (9, true), (10, true), (11, true), (12, true), (13, true), (14, true), (15, true), (16, true), (17, true), (18, true), (19, true), (20, true), (21, true), (22, true), (23, true), (24, true), (25, true), (26, true), (27, true), (28, true), (29, true), (30, true), (31, true), (32, false), (33, false), (34, false), (35, false), (36, false), (37, false)] [32, 33, 34, 35, 36, 37] Tryz.mixed (by kernel_rfl) (by kernel_rfl) (by kernel_rfl) ?_
        simp only [List.map_cons, List.map_nil, List.getElem?_cons_succ, List.getElem?_cons_zero]
        repeat (first | (refine Go.XR.S_light rfl rfl rfl ?_ (fun w' hS K hK => ?_) (fun K hK => ?_); rotate_left 1; (cases hS; go_step; exact hK); go_step; refine hK _ ?_; clear hK K) | (refine Go.XR.S_light_off rfl rfl (fun K hK => ?_); go_step; refine hK _ ?_; clear hK K) | (refine Go.XR.S_light_on rfl rfl rfl rfl ?_ (fun w' hS K hK => ?_) (fun K hK => ?_); rotate_left 1; (cases hS; go_step; exact hK); go_step; refine hK _ ?_; clear hK K))
        repeat (first | (refine Go.XR.S_heavy (fun K hK => ?_); go_step; refine hK _ _ ⟨fun h => by simp at h, ?_⟩; clear hK K) | (refine Go.XR.S_heavy_off rfl (fun h => by simp at h) (fun K hK => ?_); go_step; refine hK _ ?_; clear hK K) | (refine Go.XR.S_heavy_on rfl (fun K hK => ?_); go_step; refine hK _ _ ⟨fun h => by simp at h, ?_⟩; clear hK K))
        refine Go.XR.S_nil ?_
        go_wp2
        go_ret
        exact ⟨j, by omega, hj60, rfl, HB.out.drew, hr.out.2⟩
      · have h60 : decide ((60 : Int) ≤ (j : Int)) = false := decide_eq_false h1
        have hjl : j ≤ c := by omega
        by_cases e1 : left < x.p.size
        · have e1' : decide (left < x.p.size) = true := decide_eq_true e1
          go_wp2
          refine Go.XR.region_sched ((· = wr.drew)) [(0, true), (1, true), (2, true), (3, true), (4, true), (5, true), (6, true), (7, true), (8, true), (9, true), (10, true), (11, true), (12, true), (13, true), (14, true), (15, true), (16, true), (17, true), (18, true), (19, true), (20, true), (21, true), (22, true), (23, true), (24, true), (25, true), (26, true), (27, true), (28, true), (29, true), (30, true), (31, true), (32, false), (33, false), (34, false), (35, false), (36, false), (37, false)] [32, 33, 34, 35, 36, 37] Tryz.mixed (by kernel_rfl) (by kernel_rfl) (by kernel_rfl) ?_
          simp only [List.map_cons, List.map_nil, List.getElem?_cons_succ, List.getElem?_cons_zero]
          repeat (first | (refine Go.XR.S_light rfl rfl rfl ?_ (fun w' hS K hK => ?_) (fun K hK => ?_); rotate_left 1; (cases hS; go_step; exact hK); go_step; refine hK _ ?_; clear hK K) | (refine Go.XR.S_light_off rfl rfl (fun K hK => ?_); go_step; refine hK _ ?_; clear hK K) | (refine Go.XR.S_light_on rfl rfl rfl rfl ?_ (fun w' hS K hK => ?_) (fun K hK => ?_); rotate_left 1; (cases hS; go_step; exact hK); go_step; refine hK _ ?_; clear hK K))
          repeat (first | (refine Go.XR.S_heavy (fun K hK => ?_); go_step; refine hK _ _ ⟨fun h => by simp at h, ?_⟩; clear hK K) | (refine Go.XR.S_heavy_off rfl (fun h => by simp at h) (fun K hK => ?_); go_step; refine hK _ ?_; clear hK K) | (refine Go.XR.S_heavy_on rfl (fun K hK => ?_); go_step; refine hK _ _ ⟨fun h => by simp at h, ?_⟩; clear hK K))
          refine Go.XR.S_nil ?_
          go_wp2
          go_ret
          exact ⟨j, by omega, hj60, rfl, HB.out.drew, hr.out.2⟩
        · have e1' : decide (left < x.p.size) = false := decide_eq_false e1
          by_cases e2 : left - x.p.size < x.q.size
          · have e2' : decide ((left : Int) - (x.p.size : Int) < (x.q.size : Int)) = true := decide_eq_true (by omega)
            go_wp2
            refine Go.XR.region_sched ((· = wr.drew)) [(0, true), (1, true), (2, true), (3, true), (4, true), (5, true), (6, true), (7, true), (8, true), (9, true), (10, true), (11, true), (12, true), (13, true), (14, true), (15, true), (16, true), (17, true), (18, true), (19, true), (20, true), (21, true), (22, true), (23, true), (24, true), (25, true), (26, true), (27, true), (28, true), (29, true), (30, true), (31, true), (32, false), (33, false), (34, false), (35, false), (36, false), (37, false)] [32, 33, 34, 35, 36, 37] Tryz.mixed (by kernel_rfl) (by kernel_rfl) (by kernel_rfl) ?_
            simp only [List.map_cons, List.map_nil, List.getElem?_cons_succ, List.getElem?_cons_zero]
            repeat (first | (refine Go.XR.S_light rfl rfl rfl ?_ (fun w' hS K hK => ?_) (fun K hK => ?_); rotate_left 1; (cases hS; go_step; exact hK); go_step; refine hK _ ?_; clear hK K) | (refine Go.XR.S_light_off rfl rfl (fun K hK => ?_); go_step; refine hK _ ?_; clear hK K) | (refine Go.XR.S_light_on rfl rfl rfl rfl ?_ (fun w' hS K hK => ?_) (fun K hK => ?_); rotate_left 1; (cases hS; go_step; exact hK); go_step; refine hK _ ?_; clear hK K))
            repeat (first | (refine Go.XR.S_heavy (fun K hK => ?_); go_step; refine hK _ _ ⟨fun h => by simp at h, ?_⟩; clear hK K) | (refine Go.XR.S_heavy_off rfl (fun h => by simp at h) (fun K hK => ?_); go_step; refine hK _ ?_; clear hK K) | (refine Go.XR.S_heavy_on rfl (fun K hK => ?_); go_step; refine hK _ _ ⟨fun h => by simp at h, ?_⟩; clear hK K))
            refine Go.XR.S_nil ?_
            go_wp2
            go_ret
            exact ⟨j, by omega, hj60, rfl, HB.out.drew, hr.out.2⟩
          · have e2' : decide ((left : Int) - (x.p.size : Int) < (x.q.size : Int)) = false := decide_eq_false (by omega)
            by_cases e3 : 50 < x.l.length
            · have e3' : decide ((50 : Int) < (x.l.length : Int)) = true := decide_eq_true (by omega)
              go_wp2
              refine Go.XR.region_sched ((· = wr.drew)) [(0, true), (1, true), (2, true), (3, true), (4, true), (5, true), (6, true), (7, true), (8, true), (9, true), (10, true), (11, true), (12, true), (13, true), (14, true), (15, true), (16, true), (17, true), (18, true), (19, true), (20, true), (21, true), (22, true), (23, true), (24, true), (25, true), (26, true), (27, true), (28, true), (29, true), (30, true), (31, true), (32, false), (33, false), (34, false), (35, false), (36, false), (37, false)] [32, 33, 34, 35, 36, 37] Tryz.mixed (by kernel_rfl) (by kernel_rfl) (by kernel_rfl) ?_
              simp only [List.map_cons, List.map_nil, List.getElem?_cons_succ, List.getElem?_cons_zero]
              repeat (first | (refine Go.XR.S_light rfl rfl rfl ?_ (fun w' hS K hK => ?_) (fun K hK => ?_); rotate_left 1; (cases hS; go_step; exact hK); go_step; refine hK _ ?_; clear hK K) | (refine Go.XR.S_light_off rfl rfl (fun K hK => ?_); go_step; refine hK _ ?_; clear hK K) | (refine Go.XR.S_light_on rfl rfl rfl rfl ?_ (fun w' hS K hK => ?_) (fun K hK => ?_); rotate_left 1; (cases hS; go_step; exact hK); go_step; refine hK _ ?_; clear hK K))
              repeat (first | (refine Go.XR.S_heavy (fun K hK => ?_); go_step; refine hK _ _ ⟨fun h => by simp at h, ?_⟩; clear hK K) | (refine Go.XR.S_heavy_off rfl (fun h => by simp at h) (fun K hK => ?_); go_step; refine hK _ ?_; clear hK K) | (refine Go.XR.S_heavy_on rfl (fun K hK => ?_); go_step; refine hK _ _ ⟨fun h => by simp at h, ?_⟩; clear hK K))
              refine Go.XR.S_nil ?_
              go_wp2
              go_ret
              exact ⟨j, by omega, hj60, rfl, HB.out.drew, hr.out.2⟩
            · have e3' : decide ((50 : Int) < (x.l.length : Int)) = false := decide_eq_false (by omega)
              go_wp2
              refine Go.XR.region_sched ((· = wr.drew)) [(0, true), (1, true), (2, true), (3, true), (4, true), (5, true), (6, true), (7, true), (8, true), (9, true), (10, true), (11, true), (12, true), (13, true), (14, true), (15, true), (16, true), (17, true), (18, true), (19, true), (20, true), (21, true), (22, true), (23, true), (24, true), (25, true), (26, true), (27, true), (28, true), (29, true), (30, true), (31, true), (32, false), (33, false), (34, false), (35, false), (36, false), (37, false)] [32, 33, 34, 35, 36, 37] Tryz.mixed (by kernel_rfl) (by kernel_rfl) (by kernel_rfl) ?_
              simp only [List.map_cons, List.map_nil, List.getElem?_cons_succ, List.getElem?_cons_zero]
              repeat (first | (refine Go.XR.S_light rfl rfl rfl ?_ (fun w' hS K hK => ?_) (fun K hK => ?_); rotate_left 1; (cases hS; go_step; exact hK); go_step; refine hK _ ?_; clear hK K) | (refine Go.XR.S_light_off rfl rfl (fun K hK => ?_); go_step; refine hK _ ?_; clear hK K) | (refine Go.XR.S_light_on rfl rfl rfl rfl ?_ (fun w' hS K hK => ?_) (fun K hK => ?_); rotate_left 1; (cases hS; go_step; exact hK); go_step; refine hK _ ?_; clear hK K))
              repeat (first | (refine Go.XR.S_heavy (fun K hK => ?_); go_step; refine hK _ _ ⟨fun h => by simp at h, ?_⟩; clear hK K) | (refine Go.XR.S_heavy_off rfl (fun h => by simp at h) (fun K hK => ?_); go_step; refine hK _ ?_; clear hK K) | (refine Go.XR.S_heavy_on rfl (fun K hK => ?_); go_step; refine hK _ _ ⟨fun h => by simp at h, ?_⟩; clear hK K))
              refine Go.XR.S_nil ?_
              go_wp2
              refine Go.XR.region_sched ((· = wr.drew.drew)) [(0, true), (1, true), (2, true), (3, true), (4, true), (5, true), (6, true), (7, true), (8, true), (9, true), (10, true), (11, true), (12, true), (13, true), (14, false), (15, false)] [14, 15] Tryz.mixed (by kernel_rfl) (by kernel_rfl) (by kernel_rfl) ?_
              simp only [List.map_cons, List.map_nil, List.getElem?_cons_succ, List.getElem?_cons_zero]
              repeat (first | (refine Go.XR.S_light rfl rfl rfl ?_ (fun w' hS K hK => ?_) (fun K hK => ?_); rotate_left 1; (cases hS; go_step; exact hK); go_step; refine hK _ ?_; clear hK K))
              repeat (first | (refine Go.XR.S_heavy (fun K hK => ?_); go_step; refine hK _ _ ⟨fun h => by simp at h, ?_⟩; clear hK K))
              refine Go.XR.S_nil ?_
              go_wp2
              go_roundg (l.length - (j + 1))
              case measure => have := hr.out.1; omega
              case rel =>
                refine ⟨HB.out.drew.drew, j + 1, left - x.p.size - x.q.size, by omega, by omega, by omega, by go_num, by go_num, rfl, fun y hy => ?_⟩
                rw [Htk.out] at hy
                rcases List.mem_append.1 hy with h | h
                · exact hr.out.2 y h
                · rw [List.mem_singleton] at h; subst h; exact ⟨by omega, by omega, by omega⟩
    · have hge : ¬ (j : Int) < (l.length : Int) := by omega
      obtain rfl : j = l.length := by omega
      go_wp2
      go_ret
      exact ⟨l.length, by omega, hj60, rfl, HB.out, hr.out.2⟩
end Go.Proofs.YtoahjhogjjdkhaaGreatDoor

/- The walk over does. -/
namespace Go.Proofs.YtoahjhogjjdkhaaGreatDoor
open Go Go.RowKit Go.XR Go.TreePure Go.PathPure Go.NamesPure
def actT (t : PT) (a : NActT) : PT × Int :=
  if a.kind % 7 = 0 then mkdirP t a.p else if a.kind % 7 = 1 then putP t a.p a.l else if a.kind % 7 = 2 then removeP t a.p else renameP t a.p a.q
/-- what an act comes to -/
def DoesP (s : NSt) (a : NActT) (s' : NSt) (r : Int) : Prop :=
  if a.kind % 7 < 4 then s'.t = (actT s.t a).1 ∧ s'.D = s.D ∧ r = (actT s.t a).2 else
  ∃ k : SK, k.1 = a.p ∧ (if a.kind % 7 = 4 then s'.t = s.t ∧ s'.D = snapD s k ∧ r = snapE s.D k else
    if a.kind % 7 = 5 then s'.t = s.t ∧ s'.D = adel s.D k ∧ r = unsnapE s.D k else
    (aget s.D k = none ∧ s' = s ∧ r = 2) ∨ ∃ q, aget s.D k = some q ∧ s'.t = q.2 ∧ s'.D = [] ∧ r = 0)
def RetDoes (w : World) (nb : Nat) (s : NSt) (a : NActT) (e : Ending) (w' : World) : Prop :=
  ∃ nb' s' r, e = .returned (.tuple #[.pointer (some ⟨nb', 0, none⟩), .int .i64 r]) ∧ NAt w' nb' s' ∧ DoesP s a s' r ∧ But [nb, s.m] w w' ∧ (nb' = nb ∧ s'.m = s.m ∨ a.kind % 7 = 6 ∧ w.heap.size ≤ nb' ∧ w.heap.size ≤ s'.m)
theorem but_l {w0 w w' : World} {a b : Nat} (h0 : Below w0.heap.size w0 w) (h : But [a] w w') : But [a, b] w0 w' := (But.of_below h0).trans (h.mono fun i hi _ => by rw [List.mem_singleton] at hi; subst hi; simp)
theorem but_r {w0 w w' : World} {a b : Nat} (h0 : Below w0.heap.size w0 w) (h : But [b] w w') : But [a, b] w0 w' := (But.of_below h0).trans (h.mono fun i hi _ => by rw [List.mem_singleton] at hi; subst hi; simp)
theorem run_append_none0 (P : Program) (w : World) (t ty e : TypeId) (i : TypeInfo) (ht : P.underlying t = some (.slice e)) (hi : P.info? e = some i) (b : Nat) : (Builtin.append_ #[t, t] ty #[.slice (some ⟨b, 0, none⟩) 0 0, .slice none 0 0]).run P w = .ok (.slice (some ⟨b, 0, none⟩) 0 0) w := by
  simp [Builtin.append_, run_underlying ht, sizeOf, typeInfo, hi, Builtin.lenOf, Builtin.firstCells, storeCells]
/-- append onto an empty slice that is not nil -/
theorem app_empty {w : World} {A : Act} {K : Act → World → Prop} {Q : Exit → Act → World → Prop} {dst : Option Tmp} {s x : Operand} {pos : String} {after : Array Edge} {guard : Option (Nat × Bool)}
    (b : Nat) (hs : A.eval s = .slice (some ⟨b, 0, none⟩) 0 0) (xo : Option Addr) (c : Nat) (m : List Ext) (hx : A.eval x = .slice xo m.length c) (hrow : Row w xo (m.flatMap rowL)) (hnil : xo = none → m.length = 0 ∧ c = 0) (hlen : m.length ≤ 2^40)
    (h : ∀ a' c' w', Row w' a' (m.flatMap rowL) → Below w.heap.size w w' →
      Oper.wp Tryz.prog ⟨dst, .move (.const (.slice a' m.length c')), 33, "", #[], none⟩ A w' K (fun _ _ _ => False)) :
    Oper.wp Tryz.prog ⟨dst, .call { callee := .builtin .append, args := #[s, x], argTypes := #[33, 33] }, 33, pos, after, guard⟩ A w K Q := by
  obtain ⟨i0, z, hi, hz0, hz1, hz2, hz3⟩ := info_z (show (Tryz.prog.info? 110).map (fun i => (i.size, i.bytes, i.zero.isSome, (i.zero.map (·.cells.size)))) = some (35, 56, true, some 35) by kernel_rfl)
  have ht := Tryz.underlying33
  have hfl := Go.XR.flat_len rowL_length m
  have key : ∃ a' c' w', (Builtin.append_ #[33, 33] 33 #[.slice (some ⟨b, 0, none⟩) 0 0, .slice xo m.length c]).run Tryz.prog w = .ok (.slice a' m.length c') w' ∧ Row w' a' (m.flatMap rowL) ∧ Below w.heap.size w w' := by
    by_cases hm : m.length = 0
    · obtain rfl : m = [] := List.eq_nil_of_length_eq_zero hm
      refine ⟨some ⟨b, 0, none⟩, 0, w, ?_, .inl rfl, Below.refl _ _⟩
      cases xo with
      | none =>
        obtain ⟨_, rfl⟩ := hnil rfl
        exact run_append_none0 _ w _ _ _ i0 ht hi b
      | some ad =>
        have := run_append_room_cells (P := Tryz.prog) w 33 33 110 i0 ht hi b 0 0 0 ad 0 c [] (by simp) (fun j u hj => by simp at hj) (fun u hu => by cases hu) (Nat.le_refl _) (fun j hj => absurd hj (by simp)) (fun j hj => absurd hj (by simp))
        simpa [World.setCells] using this
    · obtain ⟨g, o, rfl, hr⟩ : ∃ g o, xo = some ⟨g, o, none⟩ ∧ ∀ (j : Nat) (u : Value), (m.flatMap rowL)[j]? = some u → w.cell? ⟨g, o + j, none⟩ = some u := by
        rcases hrow with h0 | ⟨g, o, h1, h2⟩
        · rw [h0] at hfl; rw [List.length_nil] at hfl; omega
        · exact ⟨g, o, h1, h2⟩
      obtain ⟨v', w', hrun, r1, r2⟩ := run_append_arg_grows (P := Tryz.prog) w 33 33 110 i0 z 35 56 ht hi hz0 hz1 hz2 hz3 (by decide) ⟨b, 0, none⟩ 0 0 [] rfl (fun j u hj => by simp at hj) ⟨g, o, none⟩ m.length c (m.flatMap rowL) hfl (fun j u hj => by
        have hadd : (⟨g, o, none⟩ : Addr).add j = ⟨g, o + j, none⟩ := by unfold Addr.add; split <;> simp_all
        rw [hadd]; exact hr j u hj) (by omega) (by unfold maxLen; omega) (by omega)
      obtain ⟨a', c', rfl⟩ := ownsRow_shape r1
      rw [Nat.zero_add, List.nil_append] at r1
      rw [Nat.zero_add] at hrun
      exact ⟨a', c', w', hrun, Row.owned r1, (Below.refl _ _).grown r2 (Nat.le_refl _) fun k hk => by cases hk⟩
  obtain ⟨a', c', w', hrun, h1, h2⟩ := key
  have := h a' c' w' h1 h2
  unfold Oper.wp execOp at this ⊢
  simp only [resolve, invoke, builtin, Sem.run_bind, Sem.run_pure, Result.andThen_ok, List.map_toArray, List.map_cons, List.map_nil, hs, hx, hrun]
  simpa [Oper.upon, Act.eval] using this
theorem does_tree {w w0 w' : World} {nb : Nat} {s : NSt} {a : NActT} {r : PT × Int} (h0 : Below w.heap.size w w0) (hk : a.kind % 7 < 4) (hr : r = actT s.t a) {tp' : Option Addr} (hn : NAt w' nb { s with tp := tp', t := r.1 }) (hb : But [nb] w0 w') : RetDoes w nb s a (.returned (.tuple #[.pointer (some ⟨nb, 0, none⟩), .int .i64 r.2])) w' := by
  refine ⟨nb, _, r.2, rfl, hn, ?_, but_l h0 hb, .inl ⟨rfl, rfl⟩⟩
  unfold DoesP; rw [if_pos hk, hr]; exact ⟨rfl, rfl, rfl⟩
theorem does_snap {w w0 w' : World} {nb : Nat} {s : NSt} {a : NActT} {D : List SnapT} {r : Int} {k : SK} (hkp : k.1 = a.p) (h0 : Below w.heap.size w w0) (hk : a.kind % 7 = 4 ∧ D = snapD s k ∧ r = snapE s.D k ∨ a.kind % 7 = 5 ∧ D = adel s.D k ∧ r = unsnapE s.D k) (hn : NAt w' nb { s with D := D }) (hb : But [s.m] w0 w') : RetDoes w nb s a (.returned (.tuple #[.pointer (some ⟨nb, 0, none⟩), .int .i64 r])) w' := by
  refine ⟨nb, _, r, rfl, hn, ?_, but_r h0 hb, .inl ⟨rfl, rfl⟩⟩
  unfold DoesP
  rcases hk with ⟨h1, h2, h3⟩ | ⟨h1, h2, h3⟩
  · rw [if_neg (by omega)]; exact ⟨k, hkp, by rw [if_pos h1]; exact ⟨rfl, h2, h3⟩⟩
  · rw [if_neg (by omega)]; exact ⟨k, hkp, by rw [if_neg (by omega), if_pos h1]; exact ⟨rfl, h2, h3⟩⟩
set_option maxHeartbeats 4000000 in
set_option maxRecDepth 100000 in
theorem does_any (w : World) (hE : Env w) (nb : Nat) (s : NSt) (h : NAt w nb s) (a : NActT) (hq : NActQ w a) (ha : FewOk a) :
    Calls Tryz.prog 16 #[.pointer (some ⟨nb, 0, none⟩), .agg (nactC a)] w (RetDoes w nb s a) := by
  obtain ⟨W0, hW0⟩ : ∃ W0, w.alloc (.cells (nactC a) 35) = W0 := ⟨_, rfl⟩
  have hb0 : Below w.heap.size w W0 := by rw [← hW0]; exact (Below.refl _ _).alloc (Nat.le_refl _) _
  have HX : Hid (At W0 w.heap.size 0 (nactC a)) := by unfold Hid; rw [← hW0]; exact At.new _ _ _
  have hnbl := h.lt
  have H0 := Lib.hid (h.below hb0)
  have HE0 := Lib.hid (hE.below hb0)
  have HR0 := Lib.hid (hq.row.below hb0)
  have Hb0 := Lib.hid hb0
  have hnil := hq.nil
  have hap := ha.p
  have haq := ha.q
  have hal := ha.l
  obtain ⟨ab, hab⟩ : ∃ ab, w.heap.size = ab := ⟨_, rfl⟩
  rw [hab] at HX
  obtain ⟨ck, cp, cq, cl⟩ := nact_at HX.out
  rw [Nat.zero_add] at ck cp cq cl
  have hablt : ab < W0.heap.size := cell_lt cp
  have hk := a.hk
  obtain ⟨k, hkp⟩ : ∃ k : SK, k.1 = a.p := ⟨⟨a.p, by omega⟩, rfl⟩
  have Hkp := Lib.hid hkp
  have HD : Hid (∀ s' r, DoesP s a s' r = DoesP s a s' r) := fun _ _ => rfl
  obtain ⟨q, hq7⟩ : ∃ q, a.kind % 7 = q := ⟨_, rfl⟩
  have hqi : (a.kind : Int) % 7 = (q : Int) := by omega
  have hqlt : q < 7 := by omega
  have Hq7 := Lib.hid hq7
  clear h hE hq hb0 HX hq7 hkp ha HD
  show Calls Tryz.prog 16 #[.pointer (some ⟨nb, 0, none⟩), .agg #[.int .u8 (a.kind : Int), .string a.p, .string a.q, .slice a.la a.l.length a.lc]] w _
  have hW : w.alloc (.cells #[.int .u8 (a.kind : Int), .string a.p, .string a.q, .slice a.la a.l.length a.lc] 35) = W0 := hW0
  clear hW0
  rcases (show q = 0 ∨ q = 1 ∨ q = 2 ∨ q = 3 ∨ q = 4 ∨ q = 5 ∨ q = 6 by omega) with rfl | rfl | rfl | rfl | rfl | rfl | rfl
  · go_enter Tryz.func16, Tryz.ntmps16
    go_wp2_with fail
    refine (mkdir_any W0 HE0.out nb s H0.out a.p (by omega)).mono ?_
    rintro e w1 ⟨rfl, tp', hn, hb⟩
    have Hn := Lib.hid hn
    have Hb := Lib.hid hb
    clear hn hb
    go_wp2
    go_ret2
    exact does_tree Hb0.out (by have := Hq7.out; omega) (by unfold actT; rw [if_pos Hq7.out]) Hn.out Hb.out
  · go_enter Tryz.func16, Tryz.ntmps16
    go_wp2
    have hS0 : But [nb] W0 W0.drew := (But.refl _ _).drew
    have hne : ab ∉ [nb] := by rw [List.mem_singleton]; omega
    refine Go.XR.region_sched ((But [nb] W0)) [(0, true), (1, true), (2, true), (3, true), (5, true), (6, true), (4, false), (7, false), (8, false), (9, false), (10, false)] [9, 10] Tryz.mixed (by kernel_rfl) (by kernel_rfl) (by kernel_rfl) ?_
    simp only [List.map_cons, List.map_nil, List.getElem?_cons_succ, List.getElem?_cons_zero]
    repeat (first | (refine Go.XR.S_light rfl rfl (by assumption) ?_ (fun w' hS K hK => ?_) (fun K hK => ?_); rotate_left 1; (have hS1 := hS.cell cp hne; have hS2 := hS.cell cl hne; go_step; exact hK); go_step; refine hK _ ?_; clear hK K))
    refine Go.XR.S_heavy (fun K hK => ?_)
    go_step
    have hb1 : Below W0.heap.size W0 ((W0.alloc (.cells #[] 110)).drew) := ((Below.refl _ _).alloc (Nat.le_refl _) _).drew
    have Hb1 := Lib.hid hb1
    obtain ⟨W1, hW1⟩ : ∃ W1, (W0.alloc (.cells #[] 110)).drew = W1 := ⟨_, rfl⟩
    rw [hW1] at hb1 Hb1 ⊢
    clear hW1
    have HR1 := Lib.hid (HR0.out.below hb1)
    have hS1 := But.of_below (S := [nb]) hb1
    refine hK _ _ ⟨fun _ => hS1, ?_⟩
    clear hK K
    repeat (first | (refine Go.XR.S_light rfl rfl (by assumption) ?_ (fun w' hS K hK => ?_) (fun K hK => ?_); rotate_left 1; (have hS1 := hS.cell cp hne; have hS2 := hS.cell cl hne; go_step; exact hK); go_step; refine hK _ ?_; clear hK K))
    refine Go.XR.S_heavy (fun K hK => ?_)
    refine app_empty W0.heap.size rfl a.la a.lc a.l rfl HR1.out hnil (by omega) ?_
    intro a' c' w2 hr2 hb2
    have hbt : Below W0.heap.size W0 w2 := hb1.trans (hb2.mono hb1.size)
    have HR2 := Lib.hid hr2
    have Hbt := Lib.hid hbt
    have hS2 := But.of_below (S := [nb]) hbt
    clear hr2 hb2 hS0 hbt hS1
    go_step
    refine hK _ _ ⟨fun _ => hS2, ?_⟩
    clear hK K
    refine Go.XR.S_heavy (fun K hK => ?_)
    go_step
    refine (put_n w2 (HE0.out.below Hbt.out) nb s (H0.out.below Hbt.out) a.p (by omega) a' c' a.l HR2.out (by omega)).mono ?_
    rintro e w3 ⟨rfl, tp', hn, hb⟩
    have Hn := Lib.hid hn
    have Hb := Lib.hid hb
    refine hK _ _ ⟨fun _ => hS2.trans hb, ?_⟩
    clear hK K hn hb hS2
    repeat (first | (refine Go.XR.S_heavy (fun K hK => ?_); go_step; refine hK _ _ ⟨fun h => by simp at h, ?_⟩; clear hK K))
    refine Go.XR.S_nil ?_
    go_wp2
    go_ret2
    exact does_tree (Hb0.out.trans (Hbt.out.mono Hb0.out.size)) (by have := Hq7.out; omega) (by unfold actT; rw [Hq7.out]; rfl) Hn.out Hb.out
  · go_enter Tryz.func16, Tryz.ntmps16
    go_wp2_with fail
    refine (remove_any W0 HE0.out nb s H0.out a.p (by omega)).mono ?_
    rintro e w1 ⟨rfl, tp', hn, hb⟩
    have Hn := Lib.hid hn
    have Hb := Lib.hid hb
    clear hn hb
    go_wp2
    go_ret2
    exact does_tree Hb0.out (by have := Hq7.out; omega) (by unfold actT; rw [Hq7.out]; rfl) Hn.out Hb.out
  · go_enter Tryz.func16, Tryz.ntmps16
    go_wp2_with fail
    refine (rename_any W0 HE0.out nb s H0.out a.p a.q (by omega) (by omega)).mono ?_
    rintro e w1 ⟨rfl, tp', hn, hb⟩
    have Hn := Lib.hid hn
    have Hb := Lib.hid hb
    clear hn hb
    go_wp2
    go_ret2
    exact does_tree Hb0.out (by have := Hq7.out; omega) (by unfold actT; rw [Hq7.out]; rfl) Hn.out Hb.out
  · go_enter Tryz.func16, Tryz.ntmps16
    go_wp2_with fail
    have hc := snap_any W0 HE0.out nb s H0.out k
    rw [Hkp.out] at hc
    refine hc.mono ?_
    clear hc
    rintro e w1 ⟨rfl, hn, hb⟩
    have Hn := Lib.hid hn
    have Hb := Lib.hid hb
    clear hn hb
    go_wp2
    go_ret2
    exact does_snap Hkp.out Hb0.out (.inl ⟨Hq7.out, rfl, rfl⟩) Hn.out Hb.out
  · go_enter Tryz.func16, Tryz.ntmps16
    go_wp2_with fail
    have hc := unsnap_any W0 nb s H0.out k
    rw [Hkp.out] at hc
    refine hc.mono ?_
    clear hc
    rintro e w1 ⟨rfl, hn, hb⟩
    have Hn := Lib.hid hn
    have Hb := Lib.hid hb
    clear hn hb
    go_wp2
    go_ret2
    exact does_snap Hkp.out Hb0.out (.inr ⟨Hq7.out, rfl, rfl⟩) Hn.out Hb.out
  · go_enter Tryz.func16, Tryz.ntmps16
    go_wp2_with fail
    have hc := at_any W0 nb s H0.out k
    rw [Hkp.out] at hc
    refine hc.mono ?_
    clear hc
    cases hag : aget s.D k with
    | none =>
      have Hag := Lib.hid hag
      rintro e w1 ⟨rfl, hb⟩
      have Hb := Lib.hid hb
      clear hag hb
      go_wp2
      go_ret2
      refine ⟨nb, s, 2, rfl, H0.out.below Hb.out, ?_, But.of_below (Hb0.out.trans (Hb.out.mono Hb0.out.size)), .inl ⟨rfl, rfl⟩⟩
      unfold DoesP
      rw [Hq7.out, if_neg (by decide)]
      exact ⟨k, Hkp.out, by rw [if_neg (by decide), if_neg (by decide)]; exact .inl ⟨Hag.out, rfl, rfl⟩⟩
    | some x =>
      have Hag := Lib.hid hag
      rintro e w1 ⟨xb, xm, rfl, hn, h1, h2, hb⟩
      have Hb := Lib.hid hb
      have Hn := Lib.hid hn
      clear hag hb hn
      go_wp2
      go_ret2
      refine ⟨xb, _, 0, rfl, Hn.out, ?_, But.of_below (Hb0.out.trans (Hb.out.mono Hb0.out.size)), .inr ⟨Hq7.out, Nat.le_trans Hb0.out.size h1, Nat.le_trans Hb0.out.size h2⟩⟩
      unfold DoesP
      rw [Hq7.out, if_neg (by decide)]
      exact ⟨k, Hkp.out, by rw [if_neg (by decide), if_neg (by decide)]; exact .inr ⟨x, Hag.out, rfl, rfl, rfl⟩⟩
end Go.Proofs.YtoahjhogjjdkhaaGreatDoor

/- The walk over played. -/
namespace Go.Proofs.YtoahjhogjjdkhaaGreatDoor
open Go Go.RowKit Go.XR Go.TreePure Go.PathPure Go.NamesPure
def RetPlayed (I : NSt → Prop) (W : World) (e : Ending) (w' : World) : Prop :=
  ∃ nb s, e = .returned (.pointer (some ⟨nb, 0, none⟩)) ∧ NAt w' nb s ∧ I s ∧ W.heap.size ≤ nb ∧ W.heap.size ≤ s.m ∧ Below W.heap.size W w'
theorem below_two {W w w' : World} {a b : Nat} (hb : Below W.heap.size W w) (h : But [a, b] w w') (ha : W.heap.size ≤ a) (hb2 : W.heap.size ≤ b) : Below W.heap.size W w' :=
  hb.trans (h.below hb.size (fun i hi => by
    simp only [List.mem_cons, List.not_mem_nil, or_false] at hi
    rcases hi with rfl | rfl
    · exact ha
    · exact hb2))
theorem NActQ.below {W w : World} {a : NActT} (h : NActQ W a) (hb : Below W.heap.size W w) : NActQ w a := ⟨h.row.below hb, h.le, h.max, h.p, h.q, h.nil⟩
set_option maxHeartbeats 4000000 in
set_option maxRecDepth 100000 in
theorem played_any (I : NSt → Prop) (h0 : ∀ m, I ⟨none, .nil, m, []⟩) (hs : ∀ w nb s a s' r, NAt w nb s → I s → DoesP s a s' r → I s') (W : World) (hE : Env W) (a : Option Addr) (c : Nat) (l : List NActT) (hR : Row W a (l.flatMap nactL)) (hl : l.length ≤ maxLen) (hc : l.length ≤ c) (hq : ∀ x ∈ l, NActQ W x) :
    Calls Tryz.prog 11 #[.slice a l.length c] W (RetPlayed I W) := by
  have HE := Lib.hid hE
  have HR := Lib.hid hR
  have Hq := Lib.hid hq
  have H0 := Lib.hid h0
  have Hs := Lib.hid hs
  have Hl := Lib.hid hl
  have Hc := Lib.hid hc
  clear hE hR hq h0 hs hl hc
  go_enter Tryz.func11, Tryz.ntmps11
  go_wp2_with fail
  refine (newn_any W).mono ?_
  rintro e w1 ⟨nb, m, rfl, hn, hnb, hm, hb1⟩
  have HN := Lib.hid hn
  have Hb1 := Lib.hid hb1
  clear hn hb1
  go_wp2_with fail
  refine (few_any w1 a c l (HR.out.below Hb1.out) Hl.out Hc.out (fun x hx => (Hq.out x hx).below Hb1.out)).mono ?_
  rintro e w2 ⟨n, hnl, hn60, rfl, hb2, hfew⟩
  have HN2 := Lib.hid (HN.out.below hb2)
  have Hb2 := Lib.hid (Hb1.out.trans (hb2.mono Hb1.out.size))
  have Hfew := Lib.hid hfew
  clear hb2 hfew HN
  go_wp2
  go_loopg [12, 3] n (fun k i p wr => ∃ (j nb : Nat) (s : NSt), j ≤ n ∧ i = .int .i64 j ∧ p = .pointer (some ⟨nb, 0, none⟩) ∧ W.heap.size ≤ nb ∧ Hid (k = n - j ∧ NAt wr nb s ∧ I s ∧ W.heap.size ≤ s.m ∧ Below W.heap.size W wr))
  case atStart => exact ⟨0, nb, _, by omega, rfl, rfl, hnb, rfl, HN2.out, H0.out m, hm, Hb2.out⟩
  case round =>
    obtain ⟨j, nb', s, hj, rfl, rfl, hnb', hr⟩ := hrel
    obtain ⟨hk, hn', hI, hm', hb'⟩ := hr.out
    have Hk := Lib.hid hk
    have HN' := Lib.hid hn'
    have HI := Lib.hid hI
    have Hb' := Lib.hid hb'
    clear hr hk hn' hI hb'
    by_cases hlt : j < n
    · have hlt2 : (j : Int) < (n : Int) := by omega
      obtain ⟨g, o, rfl, hX⟩ := erow_at nactL_length (HR.out.below Hb'.out) (show j < l.length by omega) (by omega)
      obtain ⟨c0, c1, c2, c3⟩ := nact_at hX
      have hqx := (Hq.out _ (List.getElem_mem (show j < l.length by omega)))
      have hfx := Hfew.out _ (List.mem_take_iff_getElem.2 ⟨j, by omega, rfl⟩)
      rw [Nat.add_zero] at c0
      clear hX
      generalize l[j] = x at *
      have Hqx := Lib.hid hqx
      have Hfx := Lib.hid hfx
      have hgl := cell_lt c0
      clear hqx hfx
      go_wp2_with fail
      have hba : Below W.heap.size W (wr.alloc (.cells #[.int .u8 x.kind, .string x.p, .string x.q, .slice x.la x.l.length x.lc] 35)) := Hb'.out.alloc Hb'.out.size _
      have hna := HN'.out.below ((Below.refl wr.heap.size wr).alloc (Nat.le_refl _) (.cells #[.int .u8 x.kind, .string x.p, .string x.q, .slice x.la x.l.length x.lc] 35))
      have Hna := Lib.hid hna
      have Hba := Lib.hid hba
      refine (does_any _ (HE.out.below hba) nb' s hna x (Hqx.out.below hba) Hfx.out).mono ?_
      clear hna hba
      rintro e w3 ⟨nb3, s3, r, rfl, hn3, hd, hb3, hor⟩
      have hb4 := below_two Hba.out hb3 hnb' hm'
      have hn3b : W.heap.size ≤ nb3 ∧ W.heap.size ≤ s3.m := by
        have := Hba.out.size
        rcases hor with ⟨h1, h2⟩ | ⟨_, h1, h2⟩
        · rw [h1, h2]; exact ⟨hnb', hm'⟩
        · exact ⟨by omega, by omega⟩
      have HI3 := Lib.hid (Hs.out _ _ _ _ _ _ Hna.out HI.out hd)
      have HN3 := Lib.hid hn3
      have Hb4 := Lib.hid hb4
      have hb31 := hn3b.1
      have hb32 := hn3b.2
      clear hn3 hd hb3 hor hb4 hn3b Hna Hba c0 c1 c2 c3 hgl
      go_wp2
      go_roundg (n - (j + 1))
      case measure => have := Hk.out; omega
      case rel => exact ⟨j + 1, nb3, s3, by omega, by go_num, rfl, hb31, rfl, HN3.out, HI3.out, hb32, Hb4.out⟩
    · have hge : ¬ (j : Int) < (n : Int) := by omega
      go_wp2
      go_ret
      exact ⟨nb', s, rfl, HN'.out, HI.out, hnb', hm', Hb'.out⟩
end Go.Proofs.YtoahjhogjjdkhaaGreatDoor

/- What the library's functions read of the world, at the rows; the witness's world. -/
namespace Go.Proofs.YtoahjhogjjdkhaaGreatDoor
open Go.RowKit Go.Lib

theorem first_eq : Rows.laid_unicode_utf8_first = Lib.firstData := by kernel_rfl
theorem accept_eq : Rows.laid_unicode_utf8_acceptRanges (H := Unit) = Lib.acceptData := by kernel_rfl
theorem env_of {W : World} (hL : laidMet Tryz.prog [("unicode/utf8.acceptRanges", Rows.laid_unicode_utf8_acceptRanges), ("unicode/utf8.first", Rows.laid_unicode_utf8_first)] W) (hsh : W.ShapedOpen Tryz.prog) : Env W := by
  refine ⟨?_, Go.Proofs.cell_of_shapedOpen_int (g := 2) (t := 3) (zero := #[.int .i64 0]) hsh (of_decide_eq_true (by kernel_rfl)) (by kernel_rfl) rfl (by kernel_rfl) (by kernel_rfl) Tryz.underlying3⟩
  have h1 := Lib.laidMet.reads hL (.head _)
  have h2 := Lib.laidMet.reads hL (.tail _ (.head _))
  rw [accept_eq] at h1
  rw [first_eq] at h2
  exact utf8Tabs_of_readsT (U8Types.of196 Tryz.lays196) ⟨by kernel_rfl, by kernel_rfl, by kernel_rfl, by kernel_rfl, by kernel_rfl, by kernel_rfl, by kernel_rfl⟩ h2 h1

/-- the settled world, the two tables holding what their initialisers lay -/
noncomputable def laidWorld (os : Os) : World :=
  let w0 := World.holding Tryz.prog os ⟨#[], #[], []⟩
  let put (h : Array Obj) (g : Nat) (cs : Array Value) : Array Obj := h.modify g fun
    | .cells _ t frozen => .cells cs t frozen
    | o => o
  let h1 := put w0.heap 0 (Lib.firstTab.map fun z => Value.int .u8 z).toArray
  let h2 := put h1 1 ((List.range 16).flatMap fun i => [Value.int .u8 (Lib.accLo i), Value.int .u8 (Lib.accHi i)]).toArray
  { w0 with heap := h2 }
open Go.XR in
theorem str_fits : ∀ cs, Fits ((leafs Tryz.prog 8 9).getD []) cs → ∃ x : ByteArray, (fun s : ByteArray => [Value.string s]) x = cs := by
  have h : (leafs Tryz.prog 8 9).getD [] = [.str] := by kernel_rfl
  rw [h]
  intro cs hf
  obtain _ | ⟨⟨k, rfl, _⟩, hf⟩ := hf
  cases hf
  exact ⟨k, rfl⟩
open Go.XR in
theorem str_len (x : ByteArray) : ((fun s : ByteArray => [Value.string s]) x).length = ((leafs Tryz.prog 8 9).getD []).length := by
  have h : (leafs Tryz.prog 8 9).getD [] = [.str] := by kernel_rfl
  rw [h]; rfl
theorem strs_flat (l : List ByteArray) : l.flatMap (fun s : ByteArray => [Value.string s]) = strs l := by
  induction l with
  | nil => rfl
  | cons a l ih => rw [List.flatMap_cons, ih]; rfl
end Go.Proofs.YtoahjhogjjdkhaaGreatDoor
