/- How an index lies in memory: its three maps, the rows of numbers, the shelves' own maps. -/
import Derived.Test.YtnfbchhbcinloaaTn
import Derived.Test.YtnfbchhbcinloaaAp2
namespace Go.IndexPure
open Go.XR Go.RowKit
/-- a number that fits a word -/
def I64 := {z : Int // -9223372036854775808 ≤ z ∧ z ≤ 9223372036854775807}
instance : DecidableEq I64 := inferInstanceAs (DecidableEq (Subtype _))
def i64V (z : I64) : Value := .int .i64 z.1
def mapV (m : Nat) : Value := .map (some m)
def unitV (_ : Unit) : Value := .bool true
def emptyRow : NumRow := ⟨none, 0, []⟩
def rowOf (T : List (SumT × NumRow)) (d : SumT) : NumRow := (aget T d).getD emptyRow
theorem rowOf_l (T : List (SumT × NumRow)) (d : SumT) : (rowOf T d).l = numsOf T d := by unfold rowOf numsOf; cases aget T d <;> rfl
def rowSl (r : NumRow) : Value := .slice r.a r.l.length r.c
theorem rowSl_get (T : List (SumT × NumRow)) (d : SumT) : ((aget T d).map numV).getD (.slice none 0 0) = .slice (rowOf T d).a (rowOf T d).l.length (rowOf T d).c := by
  unfold rowOf numV; cases aget T d <;> rfl
/-- new blocks of a footprint are new -/
def Grew (w : World) (F F' : List Nat) : Prop := ∀ b ∈ F', b ∈ F ∨ w.heap.size ≤ b
theorem Grew.refl (w : World) (F : List Nat) : Grew w F F := fun _ h => .inl h
theorem Grew.trans {w w' : World} {F F' F'' : List Nat} (h : Grew w F F') (h' : Grew w' F' F'') (hs : w.heap.size ≤ w'.heap.size) : Grew w F F'' := fun b hb => by
  rcases h' b hb with h1 | h1
  · exact h b h1
  · exact .inr (Nat.le_trans hs h1)
theorem _root_.Go.XR.But.grew {w w' w'' : World} {F F' : List Nat} (h : But F w w') (h' : But F' w' w'') (hg : Grew w F F') : But F w w'' :=
  ⟨h'.os.trans h.os, h'.tape.trans h.tape, h'.output.trans h.output, Nat.le_trans h.size h'.size, fun i hi hn =>
    (h'.block i (Nat.lt_of_lt_of_le hi h.size) (fun hm => by
      rcases hg i hm with h1 | h1
      · exact hn h1
      · omega)).trans (h.block i hi hn)⟩
end Go.IndexPure
namespace Go.Proofs.Ytnfbchhbcinloaa
open Go.RowKit Go.XR Go.IndexPure
theorem i64_wf (a : I64) : (Lit.int .i64 a.1).wf = true := by
  have h := a.2
  have h1 : IntKind.i64.min = -9223372036854775808 := by decide
  have h2 : IntKind.i64.max = 9223372036854775807 := by decide
  simp only [Lit.wf, h1, h2, Bool.and_eq_true, decide_eq_true_eq]
  exact h
theorem keysI64 : KeysOk Try.prog 3 i64V := ⟨Go.Maps.int_keyed Try.underlying3, fun a => ⟨.int .i64 a.1, Go.Maps.keyOf_int_mk Try.underlying3 (i64_wf a)⟩, fun a b h => Subtype.ext (by unfold i64V at h; injection h)⟩
abbrev ownNums (w : World) (r : NumRow) : Prop := w.ownsRow 0 25 1 (.slice r.a r.l.length r.c) r.l.length (r.l.flatMap nL)
structure IxC (w : World) (F : List Nat) (p pb tb sb : Nat) (D : List (KeyT × PlaceT)) (T : List (SumT × NumRow)) (Sh : List (I64 × Nat)) (L : Nat → List (KeyT × Unit)) : Prop where
  fin : ∀ b ∈ F, b < w.heap.size
  blk : Blk w p [.map (some pb), .map (some tb), .map (some sb)]
  inF : p ∈ F ∧ pb ∈ F ∧ tb ∈ F ∧ sb ∈ F
  ne : pb ≠ tb ∧ pb ≠ sb ∧ tb ≠ sb
  places : GM keyV placeV w pb D
  twins : GM sumV numV w tb T
  shelves : GM i64V mapV w sb Sh
  row : ∀ d r, aget T d = some r → ownNums w r ∧ ∀ a, r.a = some a → a.block ∈ F ∧ a.block ≠ p
  rowApart : ∀ d e r s a b, aget T d = some r → aget T e = some s → d ≠ e → r.a = some a → s.a = some b → a.block ≠ b.block
  shelf : ∀ s m, aget Sh s = some m → m ∈ F ∧ GM keyV unitV w m (L m) ∧ m ≠ pb ∧ m ≠ tb ∧ m ≠ sb
  shelfApart : ∀ s t m, aget Sh s = some m → aget Sh t = some m → s = t
section
variable {w w' w1 w2 : World} {F S : List Nat} {p pb tb sb : Nat} {D : List (KeyT × PlaceT)} {T : List (SumT × NumRow)} {Sh : List (I64 × Nat)} {L : Nat → List (KeyT × Unit)}
theorem _root_.Go.XR.GM.ne_cells {κ ν : Type} {kv : κ → Value} {vv : ν → Value} {m b : Nat} {E : List (κ × ν)} (h : GM kv vv w m E) {cs : Array Value} {t : TypeId} {f : Nat × Nat} (hb : w.heap[b]? = some (.cells cs t f)) : m ≠ b := by
  rintro rfl
  obtain ⟨es, clock, h1, _⟩ := h
  rw [hb] at h1; cases h1
theorem own_cells {r : NumRow} (h : ownNums w r) {a : Addr} (ha : r.a = some a) : (∃ cs, w.heap[a.block]? = some (.cells cs 25 (0, 0))) ∧ a = ⟨a.block, 0, none⟩ := by
  rcases h.2 with ⟨h2, _⟩ | ⟨g, cap, cur, h1, _, h3, _⟩
  · rw [ha] at h2; cases h2
  · rw [ha] at h1
    injection h1 with h5
    injection h5 with h6
    subst h6
    exact ⟨⟨cur, h3⟩, rfl⟩
theorem own_heap {r : NumRow} (h : ownNums w r) (hb : ∀ a, r.a = some a → w'.heap[a.block]? = w.heap[a.block]?) : ownNums w' r := by
  refine ⟨h.1, ?_⟩
  rcases h.2 with h2 | ⟨g, cap, cur, h1, h2, h3, h4⟩
  · exact .inl h2
  · have h1' := h1
    injection h1' with h5
    exact .inr ⟨g, cap, cur, h1, h2, (hb _ h5).trans h3, h4⟩
theorem IxC.ne_p (h : IxC w F p pb tb sb D T Sh L) : pb ≠ p ∧ tb ≠ p ∧ sb ≠ p ∧ ∀ s m, aget Sh s = some m → m ≠ p := by
  obtain ⟨t, hp⟩ := h.blk
  exact ⟨h.places.ne_cells hp, h.twins.ne_cells hp, h.shelves.ne_cells hp, fun s m hm => (h.shelf s m hm).2.1.ne_cells hp⟩
theorem IxC.row_ne (h : IxC w F p pb tb sb D T Sh L) {d : SumT} {r : NumRow} (hr : aget T d = some r) {a : Addr} (ha : r.a = some a) : pb ≠ a.block ∧ tb ≠ a.block ∧ sb ≠ a.block ∧ ∀ s m, aget Sh s = some m → m ≠ a.block := by
  obtain ⟨⟨cs, hc⟩, _⟩ := own_cells (h.row d r hr).1 ha
  exact ⟨h.places.ne_cells hc, h.twins.ne_cells hc, h.shelves.ne_cells hc, fun s m hm => (h.shelf s m hm).2.1.ne_cells hc⟩
/-- what is not of the index may be written -/
theorem IxC.but (h : IxC w F p pb tb sb D T Sh L) (hb : But S w w') (hS : ∀ b ∈ F, b ∉ S) : IxC w' F p pb tb sb D T Sh L where
  fin b hf := Nat.lt_of_lt_of_le (h.fin b hf) hb.size
  blk := h.blk.but hb (hS _ h.inF.1)
  inF := h.inF
  ne := h.ne
  places := h.places.but hb (hS _ h.inF.2.1)
  twins := h.twins.but hb (hS _ h.inF.2.2.1)
  shelves := h.shelves.but hb (hS _ h.inF.2.2.2)
  row d r hr := ⟨own_heap (h.row d r hr).1 fun a ha => hb.block _ (h.fin _ ((h.row d r hr).2 a ha).1) (hS _ ((h.row d r hr).2 a ha).1), (h.row d r hr).2⟩
  rowApart := h.rowApart
  shelf s m hm := ⟨(h.shelf s m hm).1, (h.shelf s m hm).2.1.but hb (hS _ (h.shelf s m hm).1), (h.shelf s m hm).2.2⟩
  shelfApart := h.shelfApart
theorem IxC.below (h : IxC w F p pb tb sb D T Sh L) (hb : Below w.heap.size w w') : IxC w' F p pb tb sb D T Sh L := h.but (But.of_below (S := []) hb) (fun _ _ => by simp)
/-- the map of places is written -/
theorem IxC.places_to (h : IxC w F p pb tb sb D T Sh L) {D' : List (KeyT × PlaceT)} (hb : But [pb] w w') (hG : GM keyV placeV w' pb D') : IxC w' F p pb tb sb D' T Sh L where
  fin b hf := Nat.lt_of_lt_of_le (h.fin b hf) hb.size
  blk := h.blk.but hb (by simpa using h.ne_p.1.symm)
  inF := h.inF
  ne := h.ne
  places := hG
  twins := h.twins.but hb (by simpa using h.ne.1.symm)
  shelves := h.shelves.but hb (by simpa using h.ne.2.1.symm)
  row d r hr := ⟨own_heap (h.row d r hr).1 fun a ha => hb.block _ (h.fin _ ((h.row d r hr).2 a ha).1) (by simpa using (h.row_ne hr ha).1.symm), (h.row d r hr).2⟩
  rowApart := h.rowApart
  shelf s m hm := ⟨(h.shelf s m hm).1, (h.shelf s m hm).2.1.but hb (by simpa using (h.shelf s m hm).2.2.1), (h.shelf s m hm).2.2⟩
  shelfApart := h.shelfApart
/-- the map of the shelves is written: some of what it had -/
theorem IxC.shelves_to (h : IxC w F p pb tb sb D T Sh L) {Sh' : List (I64 × Nat)} (hb : But [sb] w w') (hG : GM i64V mapV w' sb Sh') (hsub : ∀ s m, aget Sh' s = some m → aget Sh s = some m) : IxC w' F p pb tb sb D T Sh' L where
  fin b hf := Nat.lt_of_lt_of_le (h.fin b hf) hb.size
  blk := h.blk.but hb (by simpa using h.ne_p.2.2.1.symm)
  inF := h.inF
  ne := h.ne
  places := h.places.but hb (by simpa using h.ne.2.1)
  twins := h.twins.but hb (by simpa using h.ne.2.2)
  shelves := hG
  row d r hr := ⟨own_heap (h.row d r hr).1 fun a ha => hb.block _ (h.fin _ ((h.row d r hr).2 a ha).1) (by simpa using (h.row_ne hr ha).2.2.1.symm), (h.row d r hr).2⟩
  rowApart := h.rowApart
  shelf s m hm := ⟨(h.shelf s m (hsub s m hm)).1, (h.shelf s m (hsub s m hm)).2.1.but hb (by simpa using (h.shelf s m (hsub s m hm)).2.2.2.2), (h.shelf s m (hsub s m hm)).2.2⟩
  shelfApart s t m h1 h2 := h.shelfApart s t m (hsub s m h1) (hsub t m h2)
/-- a new map of a shelf -/
theorem IxC.shelf_new (h : IxC w F p pb tb sb D T Sh L) {s : I64} {m : Nat} (hs : aget Sh s = none) (hb1 : But [] w w1) (hm : w.heap.size ≤ m) (hm1 : m < w1.heap.size) (hG1 : GM keyV unitV w1 m []) (hb : But [sb] w1 w') (hG : GM i64V mapV w' sb (aput Sh s m)) :
    IxC w' (m :: F) p pb tb sb D T (aput Sh s m) (fun i => if i = m then [] else L i) := by
  have h1 := h.but hb1 (fun _ _ => by simp)
  have hmF : m ∉ F := fun hf => by have := h.fin m hf; omega
  have hne : ∀ b ∈ F, b ≠ m := fun b hf e => hmF (e ▸ hf)
  exact {
    fin := fun b hf => by
      rcases List.mem_cons.1 hf with rfl | hf
      · exact Nat.lt_of_lt_of_le hm1 hb.size
      · exact Nat.lt_of_lt_of_le (h1.fin b hf) hb.size
    blk := h1.blk.but hb (by simpa using h1.ne_p.2.2.1.symm)
    inF := ⟨.tail _ h.inF.1, .tail _ h.inF.2.1, .tail _ h.inF.2.2.1, .tail _ h.inF.2.2.2⟩
    ne := h.ne
    places := h1.places.but hb (by simpa using h1.ne.2.1)
    twins := h1.twins.but hb (by simpa using h1.ne.2.2)
    shelves := hG
    row := fun d r hr => ⟨own_heap (h1.row d r hr).1 fun a ha => hb.block _ (h1.fin _ ((h1.row d r hr).2 a ha).1) (by simpa using (h1.row_ne hr ha).2.2.1.symm), fun a ha => ⟨.tail _ ((h1.row d r hr).2 a ha).1, ((h1.row d r hr).2 a ha).2⟩⟩
    rowApart := h.rowApart
    shelf := fun t n ht => by
      rw [aget_put] at ht
      by_cases e : t = s
      · rw [if_pos e] at ht
        injection ht with ht
        subst ht
        rw [if_pos rfl]
        exact ⟨.head _, hG1.but hb (by simpa using (hne _ h.inF.2.2.2).symm), (hne _ h.inF.2.1).symm, (hne _ h.inF.2.2.1).symm, (hne _ h.inF.2.2.2).symm⟩
      · rw [if_neg e] at ht
        have h2 := h1.shelf t n ht
        rw [if_neg (hne n h2.1)]
        exact ⟨.tail _ h2.1, h2.2.1.but hb (by simpa using h2.2.2.2.2), h2.2.2⟩
    shelfApart := fun t u n ht hu => by
      rw [aget_put] at ht hu
      by_cases e : t = s
      · rw [if_pos e] at ht
        injection ht with ht
        subst ht
        by_cases e2 : u = s
        · rw [e, e2]
        · rw [if_neg e2] at hu
          exact absurd (h.shelf u m hu).1 hmF
      · rw [if_neg e] at ht
        by_cases e2 : u = s
        · rw [if_pos e2] at hu
          injection hu with hu
          subst hu
          exact absurd (h.shelf t m ht).1 hmF
        · rw [if_neg e2] at hu
          exact h.shelfApart t u n ht hu }
/-- a shelf's own map is written -/
theorem IxC.shelf_to (h : IxC w F p pb tb sb D T Sh L) {s : I64} {m : Nat} (hs : aget Sh s = some m) {l : List (KeyT × Unit)} (hb : But [m] w w') (hG : GM keyV unitV w' m l) : IxC w' F p pb tb sb D T Sh (fun i => if i = m then l else L i) := by
  have hm := h.shelf s m hs
  exact {
    fin := fun b hf => Nat.lt_of_lt_of_le (h.fin b hf) hb.size
    blk := h.blk.but hb (by simpa using (h.ne_p.2.2.2 s m hs).symm)
    inF := h.inF
    ne := h.ne
    places := h.places.but hb (by simpa using hm.2.2.1.symm)
    twins := h.twins.but hb (by simpa using hm.2.2.2.1.symm)
    shelves := h.shelves.but hb (by simpa using hm.2.2.2.2.symm)
    row := fun d r hr => ⟨own_heap (h.row d r hr).1 fun a ha => hb.block _ (h.fin _ ((h.row d r hr).2 a ha).1) (by simpa using ((h.row_ne hr ha).2.2.2 s m hs).symm), (h.row d r hr).2⟩
    rowApart := h.rowApart
    shelf := fun t n ht => by
      by_cases e : n = m
      · subst e
        rw [if_pos rfl]
        exact ⟨hm.1, hG, hm.2.2⟩
      · rw [if_neg e]
        exact ⟨(h.shelf t n ht).1, (h.shelf t n ht).2.1.but hb (by simpa using e), (h.shelf t n ht).2.2⟩
    shelfApart := h.shelfApart }
/-- a row of numbers is written, in place or anew -/
theorem IxC.row_to (h : IxC w F p pb tb sb D T Sh L) {d : SumT} {r : NumRow} (hg : w.grownBy w1 (Value.ownBlock (.slice (rowOf T d).a (rowOf T d).l.length (rowOf T d).c))) (hsn : SameOrNew w w1 (rowOf T d).a r.a) (ho : ownNums w1 r) (hb : But [tb] w1 w') (hG : GM sumV numV w' tb (aput T d r)) :
    ∃ F', IxC w' F' p pb tb sb D (aput T d r) Sh L ∧ Grew w F F' := by
  have hold : ∀ b, b < w.heap.size → (∀ a, (rowOf T d).a = some a → b ≠ a.block) → w1.heap[b]? = w.heap[b]? := fun b hbs hne => hg.block b hbs (fun e => by
    cases ha : (rowOf T d).a with
    | none => rw [ha] at e; cases e
    | some a =>
      rw [ha] at e
      exact hne a ha (by simpa [Value.ownBlock] using e))
  have hra : ∀ a, (rowOf T d).a = some a → ∃ r0, aget T d = some r0 ∧ r0.a = some a := fun a ha => by
    unfold rowOf at ha
    cases e : aget T d with
    | none => rw [e] at ha; cases ha
    | some r0 => rw [e] at ha; exact ⟨r0, rfl, ha⟩
  have hrow : ∀ {b}, (∀ d r a, aget T d = some r → r.a = some a → b ≠ a.block) → ∀ a, (rowOf T d).a = some a → b ≠ a.block := fun hh a ha => by
    obtain ⟨r0, h1, h2⟩ := hra a ha
    exact hh d r0 a h1 h2
  have hnew : ∀ a, r.a = some a → (a.block ∈ F ∧ a.block ≠ p ∧ ∃ r0, aget T d = some r0 ∧ r0.a = some a) ∨ (w.heap.size ≤ a.block ∧ a.block < w1.heap.size) := fun a ha => by
    rcases hsn with e | ⟨g, e, h1, h2⟩
    · left
      obtain ⟨r0, h3, h4⟩ := hra a (by rw [← e]; exact ha)
      exact ⟨((h.row d r0 h3).2 a h4).1, ((h.row d r0 h3).2 a h4).2, r0, h3, h4⟩
    · right
      rw [ha] at e
      injection e with e
      subst e
      exact ⟨h1, h2⟩
  have hw1 : w.heap.size ≤ w1.heap.size := hg.size
  have gmk : ∀ {κ ν : Type} {kv : κ → Value} {vv : ν → Value} {m : Nat} {E : List (κ × ν)}, GM kv vv w m E → m ≠ tb → GM kv vv w' m E := fun {κ ν kv vv m E} hm hne =>
    (hm.block (hold m hm.lt (hrow fun d r a h1 h2 => by
      obtain ⟨⟨cs, hc⟩, _⟩ := own_cells (h.row d r h1).1 h2
      exact hm.ne_cells hc))).but hb (by simpa using hne)
  have hF : ∀ b ∈ F, b < w1.heap.size := fun b hf => Nat.lt_of_lt_of_le (h.fin b hf) hw1
  refine ⟨(match r.a with | some a => [a.block] | none => []) ++ F, ?_, fun b hb2 => ?_⟩
  · exact {
      fin := fun b hf => by
        rcases List.mem_append.1 hf with h2 | h2
        · cases ha : r.a with
          | none => rw [ha] at h2; cases h2
          | some a =>
            rw [ha] at h2
            simp at h2
            subst h2
            rcases hnew a ha with h3 | h3
            · exact Nat.lt_of_lt_of_le (hF _ h3.1) hb.size
            · exact Nat.lt_of_lt_of_le h3.2 hb.size
        · exact Nat.lt_of_lt_of_le (hF b h2) hb.size
      blk := (h.blk.heap (hold p h.blk.lt (hrow fun d r a h1 h2 => ((h.row d r h1).2 a h2).2.symm))).but hb (by simpa using h.ne_p.2.1.symm)
      inF := ⟨List.mem_append_right _ h.inF.1, List.mem_append_right _ h.inF.2.1, List.mem_append_right _ h.inF.2.2.1, List.mem_append_right _ h.inF.2.2.2⟩
      ne := h.ne
      places := gmk h.places h.ne.1
      twins := hG
      shelves := gmk h.shelves h.ne.2.2.symm
      row := fun e s hs => by
        rw [aget_put] at hs
        by_cases he : e = d
        · rw [if_pos he] at hs
          injection hs with hs
          subst hs
          refine ⟨own_heap ho fun a ha => ?_, fun a ha => ?_⟩
          · obtain ⟨⟨cs, hc⟩, _⟩ := own_cells ho ha
            refine hb.block _ (Array.getElem?_eq_some_iff.1 hc).1 ?_
            have : GM sumV numV w1 tb T := h.twins.block (hold tb h.twins.lt (hrow fun d r a h1 h2 => (h.row_ne h1 h2).2.1))
            simpa using (this.ne_cells hc).symm
          · refine ⟨List.mem_append_left _ (by rw [ha]; simp), ?_⟩
            rcases hnew a ha with h3 | h3
            · exact h3.2.1
            · have := h.blk.lt
              omega
        · rw [if_neg he] at hs
          refine ⟨own_heap (h.row e s hs).1 fun a ha => ?_, fun a ha => ⟨List.mem_append_right _ ((h.row e s hs).2 a ha).1, ((h.row e s hs).2 a ha).2⟩⟩
          have hlt := h.fin _ ((h.row e s hs).2 a ha).1
          rw [hb.block _ (Nat.lt_of_lt_of_le hlt hw1) (by simpa using (h.row_ne hs ha).2.1.symm)]
          refine hold _ hlt fun c hc => ?_
          obtain ⟨r0, h1, h2⟩ := hra c hc
          exact h.rowApart e d s r0 a c hs h1 he ha h2
      rowApart := fun e f s t a b hs ht hef ha hb3 => by
        rw [aget_put] at hs ht
        have key : ∀ e s a b, aget T e = some s → e ≠ d → s.a = some a → r.a = some b → a.block ≠ b.block := fun e s a b hs he ha hb3 => by
          rcases hnew b hb3 with ⟨_, _, r0, h3, h4⟩ | h3
          · exact h.rowApart e d s r0 a b hs h3 he ha h4
          · have := h.fin _ ((h.row e s hs).2 a ha).1
            omega
        by_cases he : e = d
        · rw [if_pos he] at hs
          injection hs with hs
          subst hs
          rw [if_neg (fun e2 => hef (he.trans e2.symm))] at ht
          exact (key f t b a ht (fun e2 => hef (he.trans e2.symm)) hb3 ha).symm
        · rw [if_neg he] at hs
          by_cases hf : f = d
          · rw [if_pos hf] at ht
            injection ht with ht
            subst ht
            exact key e s a b hs he ha hb3
          · rw [if_neg hf] at ht
            exact h.rowApart e f s t a b hs ht hef ha hb3
      shelf := fun s m hm => ⟨List.mem_append_right _ (h.shelf s m hm).1, gmk (h.shelf s m hm).2.1 (h.shelf s m hm).2.2.2.1, (h.shelf s m hm).2.2⟩
      shelfApart := h.shelfApart }
  · rcases List.mem_append.1 hb2 with h2 | h2
    · cases ha : r.a with
      | none => rw [ha] at h2; cases h2
      | some a =>
        rw [ha] at h2
        simp at h2
        subst h2
        rcases hnew a ha with h3 | h3
        · exact .inl h3.1
        · exact .inr h3.1
    · exact .inl h2
/-- a fingerprint goes -/
theorem IxC.twins_less (h : IxC w F p pb tb sb D T Sh L) {T' : List (SumT × NumRow)} (hb : But [tb] w w') (hG : GM sumV numV w' tb T') (hsub : ∀ d r, aget T' d = some r → aget T d = some r) : IxC w' F p pb tb sb D T' Sh L where
  fin b hf := Nat.lt_of_lt_of_le (h.fin b hf) hb.size
  blk := h.blk.but hb (by simpa using h.ne_p.2.1.symm)
  inF := h.inF
  ne := h.ne
  places := h.places.but hb (by simpa using h.ne.1)
  twins := hG
  shelves := h.shelves.but hb (by simpa using h.ne.2.2.symm)
  row d r hr := ⟨own_heap (h.row d r (hsub d r hr)).1 fun a ha => hb.block _ (h.fin _ ((h.row d r (hsub d r hr)).2 a ha).1) (by simpa using (h.row_ne (hsub d r hr) ha).2.1.symm), (h.row d r (hsub d r hr)).2⟩
  rowApart d e r s a b h1 h2 := h.rowApart d e r s a b (hsub d r h1) (hsub e s h2)
  shelf s m hm := ⟨(h.shelf s m hm).1, (h.shelf s m hm).2.1.but hb (by simpa using (h.shelf s m hm).2.2.2.1), (h.shelf s m hm).2.2⟩
  shelfApart := h.shelfApart
end
end Go.Proofs.Ytnfbchhbcinloaa
