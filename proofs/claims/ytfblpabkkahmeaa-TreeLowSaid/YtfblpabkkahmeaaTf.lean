/- The walks over Fresh's closures, walk with them, Fresh. -/
import Derived.Test.YtfblpabkkahmeaaTd
import Derived.Test.YtfblpabkkahmeaaPmap
import Derived.Test.YtfblpabkkahmeaaW
import Derived.Test.YtfblpabkkahmeaaPl
namespace Go.Proofs.Ytfblpabkkahmeaa
open Go.RowKit Go.TreePure Go.XR

/-- p leads in w to the tree t, whose nodes are the blocks bs, in order -/
def Blk (w : World) : Option Addr → PT → List Nat → Prop
  | p, .nil, bs => p = none ∧ bs = []
  | p, .node k x l r, bs => ∃ b lp rp bl br, p = some ⟨b, 0, none⟩ ∧
      w.heap[b]? = some (.cells #[.string k, .string x, .pointer lp, .pointer rp, .int .i64 (PT.size (.node k x l r)), .int .i64 (PT.ht (.node k x l r))] 58 (0, 0)) ∧
      Blk w lp l bl ∧ Blk w rp r br ∧ bs = bl ++ b :: br

theorem Blk.rep {w : World} : ∀ {t : PT} {p : Option Addr} {bs : List Nat}, Blk w p t bs → Rep w p t
  | .nil, _, _, h => h.1
  | .node _ _ l r, _, _, ⟨b, lp, rp, bl, br, h0, h1, h2, h3, _⟩ => ⟨b, lp, rp, h0, h1, Blk.rep h2, Blk.rep h3⟩
theorem Blk.below {w w' : World} (hb : Below w.heap.size w w') : ∀ {t : PT} {p : Option Addr} {bs : List Nat}, Blk w p t bs → Blk w' p t bs
  | .nil, _, _, h => h
  | .node _ _ l r, _, _, ⟨b, lp, rp, bl, br, h0, h1, h2, h3, h4⟩ => ⟨b, lp, rp, bl, br, h0, by rw [hb.block b (blk_lt h1)]; exact h1, Blk.below hb h2, Blk.below hb h3, h4⟩
theorem Blk.of {w : World} : ∀ {t : PT} {p : Option Addr}, Rep w p t → ∃ bs, Blk w p t bs
  | .nil, _, h => ⟨[], h, rfl⟩
  | .node _ _ l r, _, ⟨b, lp, rp, h0, h1, h2, h3⟩ => by
    obtain ⟨bl, hl⟩ := Blk.of h2
    obtain ⟨br, hr⟩ := Blk.of h3
    exact ⟨_, b, lp, rp, bl, br, h0, h1, hl, hr, rfl⟩
theorem Blk.laid {w : World} : ∀ {t : PT} {p : Option Addr} {bs : List Nat}, Blk w p t bs → ∀ b ∈ bs, Laid w b
  | .nil, _, _, h, b, hb => by rw [h.2] at hb; cases hb
  | .node _ _ l r, _, _, ⟨b, lp, rp, bl, br, h0, h1, h2, h3, h4⟩, x, hx => by
    subst h4
    rcases List.mem_append.1 hx with hx | hx
    · exact Blk.laid h2 x hx
    · rcases List.mem_cons.1 hx with rfl | hx
      · exact ⟨_, _, h1⟩
      · exact Blk.laid h3 x hx
theorem Blk.length {w : World} : ∀ {t : PT} {p : Option Addr} {bs : List Nat}, Blk w p t bs → bs.length = t.size
  | .nil, _, _, h => by rw [h.2]; rfl
  | .node _ _ l r, _, _, ⟨b, lp, rp, bl, br, h0, h1, h2, h3, h4⟩ => by
    rw [h4, List.length_append, List.length_cons, Blk.length h2, Blk.length h3, PT.size]; omega
/-- all nodes unmarked -/
theorem Blk.old {S : Nat → Bool} {w : World} : ∀ {t : PT} {p : Option Addr} {bs : List Nat}, Blk w p t bs → (∀ b ∈ bs, S b = true) → RepM S w p (FT.old t)
  | .nil, _, _, h, _ => h.1
  | .node _ _ l r, _, _, ⟨b, lp, rp, bl, br, h0, h1, h2, h3, h4⟩, hS => by
    subst h4
    refine ⟨b, lp, rp, h0, ?_, fun _ => hS b (by simp), Blk.old h2 fun x hx => hS x (by simp [hx]), Blk.old h3 fun x hx => hS x (by simp [hx])⟩
    rw [h1]
    simp only [PT.size, PT.ht, FT.size, FT.ht, ← FT.er_size, ← FT.er_ht, FT.er_old]
/-- what is not in S is marked -/
theorem Blk.marked {S : Nat → Bool} {w : World} : ∀ {t : FT} {p : Option Addr}, RepM S w p t → ∃ bs, Blk w p t.er bs ∧ (bs.filter fun b => !S b).length ≤ t.marks
  | .nil, _, h => ⟨[], ⟨h, rfl⟩, Nat.le_refl _⟩
  | .node f k x l r, _, ⟨b, lp, rp, h0, h1, hS, h2, h3⟩ => by
    obtain ⟨bl, hl, nl⟩ := Blk.marked h2
    obtain ⟨br, hr, nr⟩ := Blk.marked h3
    refine ⟨_, ⟨b, lp, rp, bl, br, h0, ?_, hl, hr, rfl⟩, ?_⟩
    · rw [h1]; simp only [PT.size, PT.ht, FT.size, FT.ht, FT.er_size, FT.er_ht]
    · rw [List.filter_append, List.filter_cons, FT.marks]
      cases f with
      | true => simp only [List.length_append]; split <;> simp <;> omega
      | false => rw [hS rfl]; simp only [List.length_append]; simp; omega

theorem Try.und62 : Try.prog.underlying 62 = some (.map 24 4) := by kernel_rfl
theorem Try.und24 : Try.prog.underlying 24 = some (.pointer 58) := by kernel_rfl
theorem Try.inf58 : (Try.prog.info? 58).map (·.size) = some 6 := by kernel_rfl
theorem tree_info : ∃ j, Try.prog.info? 58 = some j ∧ j.size ≠ 0 := by
  have h := Try.inf58
  cases hj : Try.prog.info? 58 with
  | none => rw [hj] at h; cases h
  | some j => rw [hj] at h; exact ⟨j, rfl, by have : j.size = 6 := by simpa using h
                                              omega⟩

theorem zero_bool (w : World) : (zeroValue 4).run Try.prog w = .ok (.bool false) w := by kernel_rfl

theorem laid_setCell {w : World} {x n i : Nat} {u : Value} (h : Laid w x) : Laid (w.setCell ⟨n, i, none⟩ u) x := by
  obtain ⟨cs, T, h⟩ := h
  by_cases c : x = n
  · subst c; exact ⟨_, _, heap_setCell_at h⟩
  · exact ⟨cs, T, by rw [Below.heap_setCell w ⟨n, i, none⟩ u x c]; exact h⟩
theorem pmap_setCell {w : World} {m n i : Nat} {u : Value} {D : List Nat} {c : Array Value} {T : TypeId} {fz : Nat × Nat} (hn : w.heap[n]? = some (.cells c T fz)) (h : PMap w m D) : PMap (w.setCell ⟨n, i, none⟩ u) m D := by
  obtain ⟨es, clock, h1, h2, h3⟩ := h
  have hne : m ≠ n := fun e => by subst e; rw [hn] at h1; cases h1
  refine ⟨es, clock, (Below.heap_setCell w ⟨n, i, none⟩ u m hne).trans h1, fun e he => ?_, h3⟩
  obtain ⟨x, a, b, c, d⟩ := h2 e he
  exact ⟨x, a, b, c, laid_setCell d⟩

/-- what the first closure has: the map's block m in its box hb -/
structure Had (B hb m : Nat) (D : List Nat) (w : World) : Prop where
  ge_m : B ≤ m
  ge_b : B ≤ hb
  ne : hb ≠ m
  box : w.heap[hb]? = some (.cells #[.map (some m)] 62 (0, 0))
  map : PMap w m D

/-- .. and the second one: how many were not in it -/
structure Cnt (B hb m nb : Nat) (D : List Nat) (n : Nat) (w : World) : Prop where
  had : Had B hb m D w
  ge_n : B ≤ nb
  box : w.heap[nb]? = some (.cells #[.int .i64 n] 3 (0, 0))

def RetHad (B hb m : Nat) (D : List Nat) (w : World) (e : Ending) (w' : World) : Prop := e = .returned (.bool true) ∧ Below B w w' ∧ Had B hb m D w'
def RetCnt (B hb m nb : Nat) (D : List Nat) (n : Nat) (w : World) (e : Ending) (w' : World) : Prop := e = .returned (.bool true) ∧ Below B w w' ∧ Cnt B hb m nb D n w'

set_option maxHeartbeats 1000000 in
set_option maxRecDepth 100000 in
theorem put_had (B hb m : Nat) (D : List Nat) (w : World) (b : Nat) (hbB : b < B) (hl : Laid w b) (h : Had B hb m D w) :
    Calls Try.prog 32 #[.pointer (some ⟨b, 0, none⟩), .pointer (some ⟨hb, 0, none⟩)] w (RetHad B hb m (D ++ [b]) w) := by
  obtain ⟨j, hj1, hj2⟩ := tree_info
  have Hj := Lib.hid (And.intro hj1 hj2)
  have d0 := cells_of h.box 0
  simp at d0
  have H := Lib.hid h
  have Hl := Lib.hid hl
  clear h hl hj1 hj2
  go_enter Try.func32, Try.ntmps32
  go_wp2_with (at_mapUpdate; refine wpList_pm_update _ rfl _ _ _ 62 rfl Try.und62 Try.und24 Hj.out.1 Hj.out.2 m b D rfl rfl rfl H.out.map Hl.out ?_)
  intro w' hm hg
  have hbx : w'.heap[hb]? = _ := (hg.block hb (blk_lt H.out.box) (fun e => H.out.ne (by cases e; rfl))).trans H.out.box
  have Hbx := Lib.hid hbx
  have hbl : Below B w w' := (Below.refl B w).grown hg (by have := H.out.map.lt; have := H.out.ge_m; omega) (fun k hk => by cases hk; exact H.out.ge_m)
  have Hbl := Lib.hid hbl
  have Hm := Lib.hid hm
  clear hm hg hbx hbl d0
  go_wp2
  go_ret
  exact ⟨rfl, Hbl.out, H.out.ge_m, H.out.ge_b, H.out.ne, Hbx.out, Hm.out⟩

set_option maxHeartbeats 1000000 in
set_option maxRecDepth 100000 in
theorem put_cnt (B hb m nb : Nat) (D : List Nat) (n : Nat) (w : World) (b : Nat) (hbB : b < B) (hl : Laid w b) (h : Cnt B hb m nb D n w) (hn : n < 2^40) :
    Calls Try.prog 33 #[.pointer (some ⟨b, 0, none⟩), .pointer (some ⟨hb, 0, none⟩), .pointer (some ⟨nb, 0, none⟩)] w (RetCnt B hb m nb D (if b ∈ D then n else n + 1) w) := by
  obtain ⟨j, hj1, hj2⟩ := tree_info
  have Hj := Lib.hid (And.intro hj1 hj2)
  have d0 := cells_of h.had.box 0
  have d1 := cells_of h.box 0
  simp at d0 d1
  have d2 : w.frozen? ⟨nb, 0, none⟩ = false := by simp [World.frozen?, h.box]
  have H := Lib.hid h
  have Hl := Lib.hid hl
  clear h hl hj1 hj2
  by_cases hc : b ∈ D
  · rw [if_pos hc]
    have hd : decide (b ∈ D) = true := decide_eq_true hc
    clear hc
    go_enter Try.func33, Try.ntmps33
    go_wp2_with (at_lookup; refine wpList_pm_lookup _ rfl _ _ 62 rfl Try.und62 Try.und24 Hj.out.1 Hj.out.2 (zero_bool _) m b D rfl rfl H.out.had.map Hl.out ?_)
    go_wp2
    go_ret
    exact ⟨rfl, Below.refl _ _, H.out⟩
  · rw [if_neg hc]
    have hd : decide (b ∈ D) = false := decide_eq_false hc
    clear hc
    go_enter Try.func33, Try.ntmps33
    go_wp2_with (at_lookup; refine wpList_pm_lookup _ rfl _ _ 62 rfl Try.und62 Try.und24 Hj.out.1 Hj.out.2 (zero_bool _) m b D rfl rfl H.out.had.map Hl.out ?_)
    go_wp2
    go_ret
    have hne : hb ≠ nb := fun e => by
      have h1 := H.out.had.box
      have h2 := H.out.box
      rw [e, h2] at h1; cases h1
    have r5 := heap_setCell_at (i := 0) (u := .int .i64 ((n + 1 : Nat) : Int)) H.out.box
    exact ⟨rfl, (Below.refl B w).setCell (p := ⟨nb, 0, none⟩) H.out.ge_n _, ⟨H.out.had.ge_m, H.out.had.ge_b, H.out.had.ne, (Below.heap_setCell w ⟨nb, 0, none⟩ _ hb hne).trans H.out.had.box, pmap_setCell H.out.box H.out.had.map⟩, H.out.ge_n, r5⟩
end Go.Proofs.Ytfblpabkkahmeaa
