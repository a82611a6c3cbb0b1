/- What stands between two worlds while some blocks of the call's own are written. -/
import Derived.Test.YtnfbchhbcinloaaAgg
import Derived.Test.YtnfbchhbcinloaaGm
namespace Go.XR
open Go Go.RowKit
/-- all but the blocks S stand -/
structure But (S : List Nat) (w w' : World) : Prop where
  os : w'.os = w.os
  tape : w'.tape = w.tape
  output : w'.output = w.output
  size : w.heap.size ≤ w'.heap.size
  block : ∀ i, i < w.heap.size → i ∉ S → w'.heap[i]? = w.heap[i]?
section
variable {S T : List Nat} {w w' w'' : World}
theorem But.refl (S : List Nat) (w : World) : But S w w := ⟨rfl, rfl, rfl, Nat.le_refl _, fun _ _ _ => rfl⟩
theorem But.trans (h : But S w w') (h' : But S w' w'') : But S w w'' :=
  ⟨h'.os.trans h.os, h'.tape.trans h.tape, h'.output.trans h.output, Nat.le_trans h.size h'.size, fun i hi hn => (h'.block i (Nat.lt_of_lt_of_le hi h.size) hn).trans (h.block i hi hn)⟩
theorem But.mono (h : But S w w') (hs : ∀ i ∈ S, i < w.heap.size → i ∈ T) : But T w w' := ⟨h.os, h.tape, h.output, h.size, fun i hi hn => h.block i hi fun hm => hn (hs i hm hi)⟩
theorem But.of_below (h : Below w.heap.size w w') : But S w w' := ⟨h.os, h.tape, h.output, h.size, fun i hi _ => h.block i hi⟩
theorem But.of_grown {b : Nat} (h : w.grownBy w' (some b)) : But [b] w w' := ⟨h.os, h.tape, h.output, h.size, fun i hi hn => h.block i hi (fun e => hn (by cases e; simp))⟩
theorem But.of_grown_none (h : w.grownBy w' none) : But S w w' := ⟨h.os, h.tape, h.output, h.size, fun i hi _ => h.block i hi (fun e => by cases e)⟩
theorem But.below (h : But S w w') {B : Nat} (hB : B ≤ w.heap.size) (hS : ∀ i ∈ S, B ≤ i) : Below B w w' := ⟨h.os, h.tape, h.output, h.size, fun k hk => h.block k (Nat.lt_of_lt_of_le hk hB) fun hm => by have := hS k hm; omega⟩
theorem But.alloc (h : But S w w') (o : Obj) : But S w (w'.alloc o) := h.trans (But.of_below ((Below.refl _ _).alloc (Nat.le_refl _) _))
theorem But.drew (h : But S w w') : But S w w'.drew := ⟨h.os, h.tape, h.output, h.size, h.block⟩
theorem But.setCell (h : But S w w') {b i : Nat} (hb : b ∈ S ∨ w.heap.size ≤ b) (v : Value) : But S w (w'.setCell ⟨b, i, none⟩ v) :=
  ⟨h.os, h.tape, h.output, by have := h.size; simpa using this, fun k hk hn => by
    rw [heap_setCell_other _ _ _ _ (fun e => by
      rcases hb with hb | hb
      · exact hn (by rw [show k = b from e]; exact hb)
      · have e' : k = b := e
        omega)]
    exact h.block k hk hn⟩
theorem But.setRow (h : But S w w') {b : Nat} (hb : b ∈ S ∨ w.heap.size ≤ b) (cs : Array Value) : But S w (w'.setRow b cs) :=
  ⟨h.os, h.tape, h.output, by have := h.size; simpa using this, fun k hk hn => by
    rw [setRow_other _ _ _ _ (fun e => by
      rcases hb with hb | hb
      · exact hn (by rw [e]; exact hb)
      · subst e; omega)]
    exact h.block k hk hn⟩
theorem But.cell (h : But S w w') {g o : Nat} {v : Value} (hc : w.cell? ⟨g, o, none⟩ = some v) (hn : g ∉ S) : w'.cell? ⟨g, o, none⟩ = some v := by
  rw [World.cell?_of_block (a := ⟨g, o, none⟩) (h.block g (cell_lt hc) hn)]; exact hc
theorem At.but {g off : Nat} {cs : Array Value} (h : At w g off cs) (hb : But S w w') (hn : g ∉ S) : At w' g off cs := fun j u hj => hb.cell (h j u hj) hn
theorem Row.but {a : Option Addr} {xs : List Value} (h : Row w a xs) (hb : But S w w') (hn : ∀ g o, a = some ⟨g, o, none⟩ → g ∉ S) : Row w' a xs := by
  rcases h with rfl | ⟨g, o, ha, h⟩
  · exact .inl rfl
  · exact .inr ⟨g, o, ha, fun j u hj => hb.cell (h j u hj) (hn g o ha)⟩
theorem GM.but {κ ν : Type} {kv : κ → Value} {vv : ν → Value} {m : Nat} {D : List (κ × ν)} (h : GM kv vv w m D) (hb : But S w w') (hn : m ∉ S) : GM kv vv w' m D := h.block (hb.block m h.lt hn)
end

/-- a block of cells of the call's own, known whole -/
def Blk (w : World) (b : Nat) (cs : List Value) : Prop := ∃ T, w.heap[b]? = some (.cells cs.toArray T (0, 0))
section
variable {w w' : World} {b : Nat} {cs : List Value}
theorem Blk.lt (h : Blk w b cs) : b < w.heap.size := by obtain ⟨T, h⟩ := h; exact (Array.getElem?_eq_some_iff.1 h).1
theorem Blk.heap (h : Blk w b cs) (hh : w'.heap[b]? = w.heap[b]?) : Blk w' b cs := by obtain ⟨T, h⟩ := h; exact ⟨T, hh.trans h⟩
theorem Blk.but {S : List Nat} (h : Blk w b cs) (hb : But S w w') (hn : b ∉ S) : Blk w' b cs := h.heap (hb.block b h.lt hn)
theorem Blk.below (h : Blk w b cs) (hb : Below w.heap.size w w') : Blk w' b cs := h.heap (hb.block b h.lt)
theorem Blk.cell (h : Blk w b cs) {i : Nat} {v : Value} (hi : cs[i]? = some v) : w.cell? ⟨b, i, none⟩ = some v := by
  obtain ⟨T, h⟩ := h
  rw [cell_of_row w b i _ T _ h]; simpa using hi
theorem Blk.free (h : Blk w b cs) (i : Nat) : w.frozen? ⟨b, i, none⟩ = false := by
  obtain ⟨T, h⟩ := h; exact frozen_of_row w b i _ T h
theorem Blk.new (w : World) (cs : Array Value) (T : TypeId) : Blk (w.alloc (.cells cs T)) w.heap.size cs.toList := ⟨T, by rw [(MapKept.heap_alloc w _).1]⟩
theorem Blk.set (h : Blk w b cs) (i : Nat) (v : Value) : Blk (w.setCell ⟨b, i, none⟩ v) b (cs.set i v) := by
  obtain ⟨T, h⟩ := h
  refine ⟨T, ?_⟩
  rw [heap_setCell_same w b i _ T v h]
  simp
theorem Blk.row (h : Blk w b cs) : Row w (some ⟨b, 0, none⟩) cs := .inr ⟨b, 0, rfl, fun j u hj => by rw [Nat.zero_add]; exact h.cell hj⟩
theorem Blk.setRow (h : Blk w b cs) (ds : List Value) : Blk (w.setRow b ds.toArray) b ds := by
  obtain ⟨T, h⟩ := h
  exact ⟨T, setRow_heap w b _ _ T _ h⟩
end
end Go.XR
