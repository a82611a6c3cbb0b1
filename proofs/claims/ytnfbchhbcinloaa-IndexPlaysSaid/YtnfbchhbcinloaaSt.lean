/- What stands while an index is written: the index, the key and the place of the call's own. -/
import Derived.Test.YtnfbchhbcinloaaCo
namespace Go.XR
open Go Go.RowKit
section
variable {κ ν : Type} [DecidableEq κ] {kv : κ → Value} {vv : ν → Value} {P : Program} {k t e : TypeId} {w : World} {m : Nat} {D : List (κ × ν)}
theorem wp_gm_delete {o : Oper} {a : Act} {K : Act → World → Prop} {Q : Exit → Act → World → Prop} (x y : Operand) (t : TypeId) (hop : o.op = .call { callee := .builtin .delete, args := #[x, y], argTypes := #[t, k] })
    (KK : KeysOk P k kv) (ht : P.underlying t = some (.map k e)) (c : κ) (hm : a.eval x = .map (some m)) (hx : a.eval y = kv c) (h : GM kv vv w m D)
    (hK : ∀ w', GM kv vv w' m (adel D c) → But [m] w w' → K (a.put o.dst (.tuple #[])) w') : o.wp P a w K Q := by
  obtain ⟨w', hr, h1, h2, h3⟩ := h.delete (P := P) (ty := o.type) KK ht c
  unfold Oper.wp execOp
  simp only [hop, resolve, invoke, builtin, Sem.run_bind, Sem.run_pure, Result.andThen_ok, List.map_toArray, List.map_cons, List.map_nil, hm, hx, hr]
  exact hK w' h1 (But.of_grown h2)
omit [DecidableEq κ] in
theorem wp_gm_len {o : Oper} {a : Act} {K : Act → World → Prop} {Q : Exit → Act → World → Prop} (x : Operand) (t : TypeId) (hop : o.op = .call { callee := .builtin .len, args := #[x], argTypes := #[t] })
    (ht : P.underlying t = some (.map k e)) (hm : a.eval x = .map (some m)) (h : GM kv vv w m D) (hK : K (a.put o.dst (.int .i64 D.length)) w) : o.wp P a w K Q := by
  obtain ⟨es, clock, h3, h4, h5⟩ := h
  have hsz : es.size = D.length := by have := congrArg List.length h5; simpa using this
  have hln : (Builtin.len_ #[t] o.type #[.map (some m)]).run P w = .ok (.int .i64 es.size) w := by
    simp [Builtin.len_, run_underlying ht, MapKept.run_getObj_map h3, goInt, Result.andThen]
  rw [hsz] at hln
  unfold Oper.wp execOp
  simp only [hop, resolve, invoke, builtin, Sem.run_bind, Sem.run_pure, Result.andThen_ok, List.map_toArray, List.map_cons, List.map_nil, hm, hln]
  exact hK
end
end Go.XR
namespace Go.Proofs.Ytnfbchhbcinloaa
open Go.RowKit Go.XR Go.IndexPure
theorem key_at_sum {w : World} {b o : Nat} {k : KeyT} (h : At w b o (keyC k)) : At w b o (sumC k.sum) := fun j u hj => by
  refine h j u ?_
  have hj' : (sumL k.sum)[j]? = some u := by simpa [sumC] using hj
  have hl := (List.getElem?_eq_some_iff.1 hj').1
  show (keyL k).toArray[j]? = some u
  rw [List.getElem?_toArray]
  unfold keyL
  rw [List.getElem?_append_left hl]; exact hj'
theorem key_at_n {w : World} {b o : Nat} {k : KeyT} (h : At w b o (keyC k)) : w.cell? ⟨b, o + 32, none⟩ = some (.int .u32 (k.n.toNat : Int)) := by
  refine h 32 _ ?_
  show (keyL k).toArray[32]? = _
  rw [List.getElem?_toArray]
  unfold keyL
  rw [List.getElem?_append_right (by rw [sumL_length]; omega), sumL_length]; rfl
def Ix (w : World) (F : List Nat) (p : Nat) (D : List (KeyT × PlaceT)) : Prop := ∃ pb tb sb T Sh L, IxC w F p pb tb sb D T Sh L ∧ Coh D T Sh L
structure St (w0 : World) (F0 : List Nat) (kb : Nat) (k : KeyT) (vb : Nat) (v : PlaceT) (W : World) (F : List Nat) (p pb tb sb : Nat) (D : List (KeyT × PlaceT)) (T : List (SumT × NumRow)) (Sh : List (I64 × Nat)) (L : Nat → List (KeyT × Unit)) : Prop where
  ix : IxC W F p pb tb sb D T Sh L
  key : At W kb 0 (keyC k)
  place : Blk W vb (placeL v)
  out : kb ∉ F ∧ vb ∉ F
  but : But F0 w0 W
  grew : Grew w0 F0 F
section
variable {w0 : World} {F0 : List Nat} {kb : Nat} {k : KeyT} {vb : Nat} {v : PlaceT} {W W' : World} {F F' S : List Nat} {p pb tb sb : Nat} {D D' : List (KeyT × PlaceT)} {T T' : List (SumT × NumRow)} {Sh Sh' : List (I64 × Nat)} {L L' : Nat → List (KeyT × Unit)}
theorem St.kn (h : St w0 F0 kb k vb v W F p pb tb sb D T Sh L) : W.cell? ⟨kb, 32, none⟩ = some (.int .u32 (k.n.toNat : Int)) := by
  have := key_at_n h.key; rwa [Nat.zero_add] at this
theorem St.vs (h : St w0 F0 kb k vb v W F p pb tb sb D T Sh L) : W.cell? ⟨vb, 0, none⟩ = some (.int .i64 v.shelf) := h.place.cell (i := 0) rfl
theorem St.step (h : St w0 F0 kb k vb v W F p pb tb sb D T Sh L) (hb : But S W W') (hS : ∀ b ∈ S, b ∈ F ∨ W.heap.size ≤ b) (hix : IxC W' F' p pb tb sb D' T' Sh' L') (hg : Grew W F F') : St w0 F0 kb k vb v W' F' p pb tb sb D' T' Sh' L' := by
  have hkl : kb < W.heap.size := h.key.lt (by rw [keyC_size]; omega)
  have hvl := h.place.lt
  have hns : ∀ b, b < W.heap.size → b ∉ F → b ∉ S := fun b h1 h2 h3 => by
    rcases hS b h3 with h4 | h4
    · exact h2 h4
    · omega
  have hnf : ∀ b, b < W.heap.size → b ∉ F → b ∉ F' := fun b h1 h2 h3 => by
    rcases hg b h3 with h4 | h4
    · exact h2 h4
    · omega
  refine ⟨hix, h.key.but hb (hns _ hkl h.out.1), h.place.but hb (hns _ hvl h.out.2), ⟨hnf _ hkl h.out.1, hnf _ hvl h.out.2⟩, h.but.grew (F' := F) (hb.mono fun i hi hl => ?_) h.grew, h.grew.trans hg h.but.size⟩
  rcases hS i hi with h4 | h4
  · exact h4
  · omega
theorem St.drew (h : St w0 F0 kb k vb v W F p pb tb sb D T Sh L) : St w0 F0 kb k vb v W.drew F p pb tb sb D T Sh L :=
  h.step (S := []) (But.refl [] W).drew (fun _ hb => by cases hb) (h.ix.but (But.refl [] W).drew fun _ _ => by simp) (Grew.refl _ _)
theorem St.below (h : St w0 F0 kb k vb v W F p pb tb sb D T Sh L) (hb : Below W.heap.size W W') : St w0 F0 kb k vb v W' F p pb tb sb D T Sh L :=
  h.step (S := []) (But.of_below hb) (fun _ hb => by cases hb) (h.ix.below hb) (Grew.refl _ _)
end
/-- what a light step of Drop or Put reads -/
structure Std (p pb tb sb kb : Nat) (k : KeyT) (vb : Nat) (s : Int) (W : World) : Prop where
  c0 : W.cell? ⟨p, 0, none⟩ = some (.map (some pb))
  c1 : W.cell? ⟨p, 1, none⟩ = some (.map (some tb))
  c2 : W.cell? ⟨p, 2, none⟩ = some (.map (some sb))
  key : At W kb 0 (keyC k)
  kn : W.cell? ⟨kb, 32, none⟩ = some (.int .u32 (k.n.toNat : Int))
  vs : W.cell? ⟨vb, 0, none⟩ = some (.int .i64 s)
theorem Std.but {p pb tb sb kb : Nat} {k : KeyT} {vb : Nat} {s : Int} {W W' : World} {S : List Nat} (h : Std p pb tb sb kb k vb s W) (hb : But S W W') (hp : p ∉ S) (hk : kb ∉ S) (hv : vb ∉ S) : Std p pb tb sb kb k vb s W' :=
  ⟨hb.cell h.c0 hp, hb.cell h.c1 hp, hb.cell h.c2 hp, h.key.but hb hk, hb.cell h.kn hk, hb.cell h.vs hv⟩
theorem St.std {w0 : World} {F0 : List Nat} {kb : Nat} {k : KeyT} {vb : Nat} {v : PlaceT} {W : World} {F : List Nat} {p pb tb sb : Nat} {D : List (KeyT × PlaceT)} {T : List (SumT × NumRow)} {Sh : List (I64 × Nat)} {L : Nat → List (KeyT × Unit)}
    (h : St w0 F0 kb k vb v W F p pb tb sb D T Sh L) : Std p pb tb sb kb k vb v.shelf W :=
  ⟨h.ix.blk.cell (i := 0) rfl, h.ix.blk.cell (i := 1) rfl, h.ix.blk.cell (i := 2) rfl, h.key, h.kn, h.vs⟩
/-- what Drop answers, and leaves -/
def RetDrop (w : World) (F : List Nat) (p : Nat) (D : List (KeyT × PlaceT)) (k : KeyT) (e : Ending) (w' : World) : Prop :=
  e = .returned (.bool (aget D k).isSome) ∧ ∃ F', Ix w' F' p (adel D k) ∧ But F w w' ∧ Grew w F F'
theorem row_keys : ∀ v : PlaceT, (Value.agg (placeC v)) = .agg #[.int .i64 v.shelf, .int .i64 v.slot] := fun _ => rfl
end Go.Proofs.Ytnfbchhbcinloaa
