/- Walks over tree.Len, Height, node: what they come to. -/
import Derived.Test.YtfblpabkkahmeaaProg
import Derived.Test.YtfblpabkkahmeaaPt
import Derived.Test.YtfblpabkkahmeaaReg
import Derived.Test.YtfblpabkkahmeaaLaws
namespace Go.Proofs.Ytfblpabkkahmeaa
open Go.RowKit Go.TreePure

theorem Try.mixed : Try.prog.follows .mixedOrders = true := by kernel_rfl

/-- p leads in w to the tree t -/
def Rep (w : World) : Option Addr → PT → Prop
  | p, .nil => p = none
  | p, .node k x l r => ∃ b lp rp, p = some ⟨b, 0, none⟩ ∧
      w.heap[b]? = some (.cells #[.string k, .string x, .pointer lp, .pointer rp, .int .i64 (PT.size (.node k x l r)), .int .i64 (PT.ht (.node k x l r))] 58 (0, 0)) ∧
      Rep w lp l ∧ Rep w rp r

theorem cells_of {w : World} {b : Nat} {cs : Array Value} {T : TypeId} {fz} (h : w.heap[b]? = some (.cells cs T fz)) (i : Nat) : w.cell? ⟨b, i, none⟩ = cs[i]? := by
  simp [World.cell?, h]

theorem blk_lt {w : World} {b : Nat} {o : Obj} (h : w.heap[b]? = some o) : b < w.heap.size := by
  rcases Nat.lt_or_ge b w.heap.size with h' | h'
  · exact h'
  · simp [Array.getElem?_eq_none h'] at h

theorem heap_new (w : World) (o : Obj) : (w.alloc o).heap[w.heap.size]? = some o := by
  show (w.heap.push o)[w.heap.size]? = _
  simp
theorem heap_new2 (w : World) (o o' : Obj) : ((w.alloc o).alloc o').heap[w.heap.size + 1]? = some o' := by
  have := heap_new (w.alloc o) o'
  rwa [show (w.alloc o).heap.size = w.heap.size + 1 from by show (w.heap.push o).size = _; simp] at this

theorem Rep.below {w w' : World} (hb : Below w.heap.size w w') : ∀ {t : PT} {v : Option Addr}, Rep w v t → Rep w' v t
  | .nil, _, h => h
  | .node _ _ _ _, _, ⟨b, lv, rv, h0, h1, h2, h3⟩ => ⟨b, lv, rv, h0, by rw [hb.block b (blk_lt h1)]; exact h1, Rep.below hb h2, Rep.below hb h3⟩

theorem Rep.alloc {w : World} {t : PT} {v : Option Addr} (h : Rep w v t) (o : Obj) : Rep (w.alloc o) v t := Rep.below ((Below.refl _ _).alloc (Nat.le_refl _) _) h
theorem Rep.drew {w : World} {t : PT} {v : Option Addr} (h : Rep w v t) : Rep w.drew v t := Rep.below (Below.refl _ _).drew h

/-- a node's cells, and its two trees -/
theorem Rep.open {w : World} {p : Option Addr} {k x : ByteArray} {l r : PT} (h : Rep w p (.node k x l r)) : ∃ b lp rp, p = some ⟨b, 0, none⟩ ∧ b < w.heap.size ∧
    w.cell? ⟨b, 0, none⟩ = some (.string k) ∧ w.cell? ⟨b, 1, none⟩ = some (.string x) ∧ w.cell? ⟨b, 2, none⟩ = some (.pointer lp) ∧ w.cell? ⟨b, 3, none⟩ = some (.pointer rp) ∧
    w.cell? ⟨b, 4, none⟩ = some (.int .i64 (PT.size (.node k x l r))) ∧ w.cell? ⟨b, 5, none⟩ = some (.int .i64 (PT.ht (.node k x l r))) ∧ Rep w lp l ∧ Rep w rp r := by
  obtain ⟨b, lp, rp, rfl, hb, hl, hr⟩ := h
  exact ⟨b, lp, rp, rfl, blk_lt hb, cells_of hb 0, cells_of hb 1, cells_of hb 2, cells_of hb 3, cells_of hb 4, cells_of hb 5, hl, hr⟩

def RetTree (w : World) (t : PT) (e : Ending) (w' : World) : Prop := ∃ p, e = .returned (.pointer p) ∧ Rep w' p t ∧ Below w.heap.size w w'

theorem len_any (w : World) (p : Option Addr) (t : PT) (h : Rep w p t) :
    Calls Try.prog 17 #[.pointer p] w fun e w' => e = .returned (.int .i64 t.size) ∧ w = w' := by
  cases t with
  | nil =>
    cases h
    go_enter Try.func17, Try.ntmps17
    go_wp2
    go_ret
    exact ⟨rfl, rfl⟩
  | node k x l r =>
    obtain ⟨b, lv, rv, rfl, _, _, _, _, _, c4, _, _, _⟩ := h.open
    clear h
    go_enter Try.func17, Try.ntmps17
    go_wp2
    go_ret
    exact ⟨rfl, rfl⟩
theorem height_any (w : World) (p : Option Addr) (t : PT) (h : Rep w p t) :
    Calls Try.prog 21 #[.pointer p] w fun e w' => e = .returned (.int .i64 t.ht) ∧ w = w' := by
  cases t with
  | nil =>
    cases h
    go_enter Try.func21, Try.ntmps21
    go_wp2
    go_ret
    exact ⟨rfl, rfl⟩
  | node k x l r =>
    obtain ⟨b, lv, rv, rfl, _, _, _, _, _, _, c5, _, _⟩ := h.open
    clear h
    go_enter Try.func21, Try.ntmps21
    go_wp2
    go_ret
    exact ⟨rfl, rfl⟩

set_option maxHeartbeats 400000 in
theorem node_any (w : World) (k x : ByteArray) (lv rv : Option Addr) (l r : PT) (hl : Rep w lv l) (hr : Rep w rv r) (hs : l.size + r.size < 2^60) :
    Calls Try.prog 28 #[.agg #[.string k, .string x], .pointer lv, .pointer rv] w (RetTree w (.node k x l r)) := by
  have Hl := Lib.hid hl
  have Hr := Lib.hid hr
  clear hl hr
  have hh1 := l.ht_le
  have hh2 := r.ht_le
  go_enter Try.func28, Try.ntmps28
  go_wp2
  refine Go.XR.region_sched ((· = (w.alloc (Obj.cells #[Value.string k, Value.string x] 30)).drew)) [(0, true), (1, true), (2, true), (3, true), (5, true), (9, true), (11, true), (4, false), (6, false), (7, true), (8, true), (10, false), (12, false), (13, true), (14, true), (15, false), (16, false), (17, false)] [15, 16, 17] Try.mixed (by kernel_rfl) (by kernel_rfl) (by kernel_rfl) ?_
  simp only [List.map_cons, List.map_nil, List.getElem?_cons_succ, List.getElem?_cons_zero]
  repeat (refine Go.XR.S_light rfl rfl rfl ?_ (fun w' hS K hK => ?_) (fun K hK => ?_); rotate_left 1; (cases hS; go_step; exact hK); go_step; refine hK _ ?_; clear hK K)
  refine Go.XR.S_heavy (fun K hK => ?_)
  go_step
  ((with_reducible refine (len_any _ _ _ (Hl.out.alloc _).drew).mono ?_); rintro e w' ⟨rfl, rfl⟩)
  refine hK _ _ ⟨fun _ => rfl, ?_⟩
  clear hK K
  repeat (refine Go.XR.S_light rfl rfl rfl ?_ (fun w' hS K hK => ?_) (fun K hK => ?_); rotate_left 1; (cases hS; go_step; exact hK); go_step; refine hK _ ?_; clear hK K)
  refine Go.XR.S_heavy (fun K hK => ?_)
  go_step
  ((with_reducible refine (len_any _ _ _ (Hr.out.alloc _).drew).mono ?_); rintro e w' ⟨rfl, rfl⟩)
  refine hK _ _ ⟨fun _ => rfl, ?_⟩
  clear hK K
  repeat (refine Go.XR.S_light rfl rfl rfl ?_ (fun w' hS K hK => ?_) (fun K hK => ?_); rotate_left 1; (cases hS; go_step; exact hK); go_step; refine hK _ ?_; clear hK K)
  refine Go.XR.S_heavy (fun K hK => ?_)
  go_step
  ((with_reducible refine (height_any _ _ _ (Hl.out.alloc _).drew).mono ?_); rintro e w' ⟨rfl, rfl⟩)
  refine hK _ _ ⟨fun _ => rfl, ?_⟩
  clear hK K
  repeat (refine Go.XR.S_light rfl rfl rfl ?_ (fun w' hS K hK => ?_) (fun K hK => ?_); rotate_left 1; (cases hS; go_step; exact hK); go_step; refine hK _ ?_; clear hK K)
  refine Go.XR.S_heavy (fun K hK => ?_)
  go_step
  ((with_reducible refine (height_any _ _ _ (Hr.out.alloc _).drew).mono ?_); rintro e w' ⟨rfl, rfl⟩)
  refine hK _ _ ⟨fun _ => rfl, ?_⟩
  clear hK K
  repeat (refine Go.XR.S_light rfl rfl rfl ?_ (fun w' hS K hK => ?_) (fun K hK => ?_); rotate_left 1; (cases hS; go_step; exact hK); go_step; refine hK _ ?_; clear hK K)
  repeat (refine Go.XR.S_heavy (fun K hK => ?_); go_step; refine hK _ _ ⟨fun h => by simp at h, ?_⟩; clear hK K)
  refine Go.XR.S_nil ?_
  go_wp2
  go_ret
  refine ⟨some ⟨w.heap.size + 1, 0, none⟩, rfl, ⟨w.heap.size + 1, lv, rv, rfl, ?_, ((Hl.out.alloc _).alloc _).drew, ((Hr.out.alloc _).alloc _).drew⟩, ?_⟩
  · show ((w.alloc _).alloc _).heap[w.heap.size + 1]? = _
    rw [heap_new2]
    simp only [PT.size, PT.ht]
    rw [show ((max l.ht r.ht + 1 : Nat) : Int) = max (l.ht : Int) r.ht + 1 from by omega, show ((l.size + r.size + 1 : Nat) : Int) = (l.size : Int) + r.size + 1 from by omega]
  · exact (((Below.refl _ _).alloc (Nat.le_refl _) _).alloc (by simp) _).drew
end Go.Proofs.Ytfblpabkkahmeaa
