/- Walks over tree.Len, Height, node with marked trees: a node that is not marked stands in S. -/
import Derived.Test.YtfblpabkkahmeaaD
import Derived.Test.YtfblpabkkahmeaaTt
namespace Go.Proofs.Ytfblpabkkahmeaa
open Go.RowKit Go.TreePure
variable {S : Nat → Bool} {gg gl gm gn : Bool}

/-- p leads in w to the tree t; the blocks of the unmarked nodes are in S -/
def RepM (S : Nat → Bool) (w : World) : Option Addr → FT → Prop
  | p, .nil => p = none
  | p, .node f k x l r => ∃ b lp rp, p = some ⟨b, 0, none⟩ ∧
      w.heap[b]? = some (.cells #[.string k, .string x, .pointer lp, .pointer rp, .int .i64 (FT.size (.node f k x l r)), .int .i64 (FT.ht (.node f k x l r))] 58 (0, 0)) ∧
      (f = false → S b = true) ∧ RepM S w lp l ∧ RepM S w rp r

theorem RepM.below {w w' : World} (hb : Below w.heap.size w w') : ∀ {t : FT} {v : Option Addr}, RepM S w v t → RepM S w' v t
  | .nil, _, h => h
  | .node _ _ _ _ _, _, ⟨b, lv, rv, h0, h1, hS, h2, h3⟩ => ⟨b, lv, rv, h0, by rw [hb.block b (blk_lt h1)]; exact h1, hS, RepM.below hb h2, RepM.below hb h3⟩
theorem RepM.alloc {w : World} {t : FT} {v : Option Addr} (h : RepM S w v t) (o : Obj) : RepM S (w.alloc o) v t := RepM.below ((Below.refl _ _).alloc (Nat.le_refl _) _) h
theorem RepM.drew {w : World} {t : FT} {v : Option Addr} (h : RepM S w v t) : RepM S w.drew v t := RepM.below (Below.refl _ _).drew h

/-- a node's cells, and its two trees -/
theorem RepM.open {w : World} {p : Option Addr} {f : Bool} {k x : ByteArray} {l r : FT} (h : RepM S w p (.node f k x l r)) : ∃ b lp rp, p = some ⟨b, 0, none⟩ ∧ b < w.heap.size ∧
    w.cell? ⟨b, 0, none⟩ = some (.string k) ∧ w.cell? ⟨b, 1, none⟩ = some (.string x) ∧ w.cell? ⟨b, 2, none⟩ = some (.pointer lp) ∧ w.cell? ⟨b, 3, none⟩ = some (.pointer rp) ∧
    w.cell? ⟨b, 4, none⟩ = some (.int .i64 (FT.size (.node f k x l r))) ∧ w.cell? ⟨b, 5, none⟩ = some (.int .i64 (FT.ht (.node f k x l r))) ∧ RepM S w lp l ∧ RepM S w rp r := by
  obtain ⟨b, lp, rp, rfl, hb, _, hl, hr⟩ := h
  exact ⟨b, lp, rp, rfl, blk_lt hb, cells_of hb 0, cells_of hb 1, cells_of hb 2, cells_of hb 3, cells_of hb 4, cells_of hb 5, hl, hr⟩
theorem RepM.rep {w : World} : ∀ {t : FT} {p : Option Addr}, RepM S w p t → Rep w p t.er
  | .nil, _, h => h
  | .node _ _ _ l r, _, ⟨b, lv, rv, h0, h1, _, h2, h3⟩ => ⟨b, lv, rv, h0, by rw [h1]; simp only [PT.size, PT.ht, FT.size, FT.ht, FT.er_size, FT.er_ht], RepM.rep h2, RepM.rep h3⟩

def RetTreeM (S : Nat → Bool) (w : World) (t : FT) (e : Ending) (w' : World) : Prop := ∃ p, e = .returned (.pointer p) ∧ RepM S w' p t ∧ Below w.heap.size w w'

theorem len_marked (w : World) (p : Option Addr) (t : FT) (h : RepM S w p t) :
    Calls Try.prog 17 #[.pointer p] w fun e w' => e = .returned (.int .i64 t.size) ∧ w = w' := by
  cases t with
  | nil =>
    cases h
    go_enter Try.func17, Try.ntmps17
    go_wp2
    go_ret
    exact ⟨rfl, rfl⟩
  | node gg k x l r =>
    obtain ⟨b, lv, rv, rfl, _, _, _, _, _, c4, _, _, _⟩ := h.open
    clear h
    go_enter Try.func17, Try.ntmps17
    go_wp2
    go_ret
    exact ⟨rfl, rfl⟩
theorem height_marked (w : World) (p : Option Addr) (t : FT) (h : RepM S w p t) :
    Calls Try.prog 21 #[.pointer p] w fun e w' => e = .returned (.int .i64 t.ht) ∧ w = w' := by
  cases t with
  | nil =>
    cases h
    go_enter Try.func21, Try.ntmps21
    go_wp2
    go_ret
    exact ⟨rfl, rfl⟩
  | node gg k x l r =>
    obtain ⟨b, lv, rv, rfl, _, _, _, _, _, _, c5, _, _⟩ := h.open
    clear h
    go_enter Try.func21, Try.ntmps21
    go_wp2
    go_ret
    exact ⟨rfl, rfl⟩

set_option maxHeartbeats 400000 in
theorem node_marked (w : World) (k x : ByteArray) (lv rv : Option Addr) (l r : FT) (hl : RepM S w lv l) (hr : RepM S w rv r) (hs : l.size + r.size < 2^60) :
    Calls Try.prog 28 #[.agg #[.string k, .string x], .pointer lv, .pointer rv] w (RetTreeM S w (.node true k x l r)) := by
  have Hl := Lib.hid hl
  have Hr := Lib.hid hr
  clear hl hr
  have hh1 := l.ht_le
  have hh2 := r.ht_le
  go_enter Try.func28, Try.ntmps28
  go_wp2
  refine Go.XR.region_sched ((· = (w.alloc (Obj.cells #[Value.string k, Value.string x] 30)).drew)) [(0, true), (1, true), (2, true), (3, true), (5, true), (9, true), (11, true), (4, false), (6, false), (7, true), (8, true), (10, false), (12, false), (13, true), (14, true), (15, false), (16, false), (17, false)] [15, 16, 17] Try.mixed (by kernel_rfl) (by kernel_rfl) (by kernel_rfl) ?_
  simp only [List.map_cons, List.map_nil, List.getElem?_cons_succ, List.getElem?_cons_zero]
  repeat (first | (refine Go.XR.S_light rfl rfl rfl ?_ (fun w' hS K hK => ?_) (fun K hK => ?_); rotate_left 1; (cases hS; go_step; exact hK); go_step; refine hK _ ?_; clear hK K))
  refine Go.XR.S_heavy (fun K hK => ?_)
  go_step
  ((with_reducible refine (len_marked _ _ _ (Hl.out.alloc _).drew).mono ?_); rintro e w' ⟨rfl, rfl⟩)
  refine hK _ _ ⟨fun _ => rfl, ?_⟩
  clear hK K
  repeat (first | (refine Go.XR.S_light rfl rfl rfl ?_ (fun w' hS K hK => ?_) (fun K hK => ?_); rotate_left 1; (cases hS; go_step; exact hK); go_step; refine hK _ ?_; clear hK K))
  refine Go.XR.S_heavy (fun K hK => ?_)
  go_step
  ((with_reducible refine (len_marked _ _ _ (Hr.out.alloc _).drew).mono ?_); rintro e w' ⟨rfl, rfl⟩)
  refine hK _ _ ⟨fun _ => rfl, ?_⟩
  clear hK K
  repeat (first | (refine Go.XR.S_light rfl rfl rfl ?_ (fun w' hS K hK => ?_) (fun K hK => ?_); rotate_left 1; (cases hS; go_step; exact hK); go_step; refine hK _ ?_; clear hK K))
  refine Go.XR.S_heavy (fun K hK => ?_)
  go_step
  ((with_reducible refine (height_marked _ _ _ (Hl.out.alloc _).drew).mono ?_); rintro e w' ⟨rfl, rfl⟩)
  refine hK _ _ ⟨fun _ => rfl, ?_⟩
  clear hK K
  repeat (first | (refine Go.XR.S_light rfl rfl rfl ?_ (fun w' hS K hK => ?_) (fun K hK => ?_); rotate_left 1; (cases hS; go_step; exact hK); go_step; refine hK _ ?_; clear hK K))
  refine Go.XR.S_heavy (fun K hK => ?_)
  go_step
  ((with_reducible refine (height_marked _ _ _ (Hr.out.alloc _).drew).mono ?_); rintro e w' ⟨rfl, rfl⟩)
  refine hK _ _ ⟨fun _ => rfl, ?_⟩
  clear hK K
  repeat (first | (refine Go.XR.S_light rfl rfl rfl ?_ (fun w' hS K hK => ?_) (fun K hK => ?_); rotate_left 1; (cases hS; go_step; exact hK); go_step; refine hK _ ?_; clear hK K))
  repeat (first | (refine Go.XR.S_heavy (fun K hK => ?_); go_step; refine hK _ _ ⟨fun h => by simp at h, ?_⟩; clear hK K))
  refine Go.XR.S_nil ?_
  go_wp2
  go_ret
  refine ⟨some ⟨w.heap.size + 1, 0, none⟩, rfl, ⟨w.heap.size + 1, lv, rv, rfl, ?_, (fun h => by cases h), ((Hl.out.alloc _).alloc _).drew, ((Hr.out.alloc _).alloc _).drew⟩, ?_⟩
  · show ((w.alloc _).alloc _).heap[w.heap.size + 1]? = _
    rw [heap_new2]
    simp only [FT.size, FT.ht]
    rw [show ((max l.ht r.ht + 1 : Nat) : Int) = max (l.ht : Int) r.ht + 1 from by omega, show ((l.size + r.size + 1 : Nat) : Int) = (l.size : Int) + r.size + 1 from by omega]
  · exact (((Below.refl _ _).alloc (Nat.le_refl _) _).alloc (by simp) _).drew

theorem RetTreeM.of {w w0 w' : World} {t : FT} {p : Option Addr} (hb : Below w.heap.size w w0) (hp : RepM S w' p t) (hb' : Below w0.heap.size w0 w') : RetTreeM S w t (.returned (.pointer p)) w' :=
  ⟨p, rfl, hp, hb.trans (hb'.mono hb.size)⟩
end Go.Proofs.Ytfblpabkkahmeaa
