/- Sorting a row by a closure: what comes is a permutation, in order; all other blocks stand. -/
import Derived.Shelf.SlSortCmp.WholeK
import Derived.Test.YtnfbchhbcinloaaBut
import Derived.Test.YtnfbchhbcinloaaAe
namespace Go.XR
open Go Go.RowKit Go.Shelf Go.Sort Go.Proofs
section
variable {α : Type} [Inhabited α] {enc : α → List Value} {k : Nat} {w : World} {b : Nat}
theorem flatK_get (hk : ∀ x, (enc x).length = k) (l : List α) {j : Nat} (hj : j < l.length * k) : (l.flatMap enc)[j]? = some (flatK enc k l.toArray)[j]! := by
  have hk0 : 0 < k := Nat.pos_of_ne_zero fun e => by subst e; omega
  rw [get_flatK enc k l.toArray j (by simpa using hj)]
  have h1 : j / k < l.length := Nat.div_lt_of_lt_mul (by rw [Nat.mul_comm]; exact hj)
  have h2 : j % k < k := Nat.mod_lt _ hk0
  have e : j = j / k * k + j % k := by rw [Nat.mul_comm]; exact (Nat.div_add_mod j k).symm
  conv => lhs; rw [e]
  rw [flat_get hk l h1 h2]
  have e2 : l.toArray[j / k]! = l[j / k] := by rw [getElem!_pos l.toArray _ (by simpa using h1)]; simp
  rw [e2, getElem!_pos (enc l[j / k]) _ (by rw [hk]; exact h2), List.getElem?_eq_getElem (by rw [hk]; exact h2)]
theorem holdsK_of (hk : ∀ x, (enc x).length = k) {l : List α} {rest : List Value} (h : Blk w b (l.flatMap enc ++ rest)) : HoldsK enc k w b 0 l.toArray := by
  intro j hj
  rw [size_flatK] at hj
  have hj' : j < l.length * k := by simpa using hj
  rw [Nat.zero_add]
  refine ⟨h.cell ?_, h.free j⟩
  rw [List.getElem?_append_left (by rw [flat_len hk]; exact hj'), flatK_get hk l hj']
  rfl
theorem row_of_holds (hk : ∀ x, (enc x).length = k) {d : Array α} (h : HoldsK enc k w b 0 d) : Row w (some ⟨b, 0, none⟩) (d.toList.flatMap enc) := by
  refine .inr ⟨b, 0, rfl, fun j u hj => ?_⟩
  have hl : j < d.toList.length * k := by rw [← flat_len hk]; exact (List.getElem?_eq_some_iff.1 hj).1
  rw [flatK_get hk d.toList hl] at hj
  have h1 := (h j (by rw [size_flatK]; simpa using hl)).1
  rw [h1]
  have := Option.some.inj hj
  simp only [Array.toArray_toList] at this
  rw [← this]; rfl
theorem sorted_list {lt : α → α → Bool} {d : Array α} (hs : SortedIn lt 0 d.size d) : d.toList.Pairwise (fun x y => lt y x = false) := by
  rw [List.pairwise_iff_getElem]
  intro i j hi hj hij
  have := hs i j (Nat.zero_le _) hij (by simpa using hj)
  rw [getElem!_pos d j (by simpa using hj), getElem!_pos d i (by simpa using hi)] at this
  simpa using this
theorem perm_list {d d' : Array α} (h : PermIn 0 d.size d d') : d'.toList.Perm d.toList := by
  obtain ⟨h1, _, h3⟩ := h
  rw [show d.size = d'.size from h1.symm] at h3
  have e1 : d'.extract 0 d'.size = d' := by simp
  have e2 : d.extract 0 d'.size = d := by rw [h1]; simp
  rwa [e1, e2] at h3
theorem but_sort {off n : Nat} {d : Array α} {os : Array Obj} : But [b] w (sortWorldK enc k w b off n d os) := by
  refine ⟨rfl, rfl, rfl, size_sortWorldK_c enc k w b off n d os, fun i hi hn => ?_⟩
  have hb : i ≠ b := by simpa using hn
  unfold sortWorldK
  rw [heap_grow_old _ _ (by rw [size_putRowK]; exact hi)]
  unfold putRowK putRow mapBlock
  simp only [Array.getElem?_modify]
  rw [if_neg (fun e => hb e.symm)]
  rfl
def RetSort (enc : α → List Value) (cf : α → α → Int) (w : World) (b : Nat) (l : List α) (e : Ending) (w' : World) : Prop :=
  e = .returned (.tuple #[]) ∧ ∃ l' : List α, l'.Perm l ∧ l'.Pairwise (fun x y => ¬ cf y x < 0) ∧ Row w' (some ⟨b, 0, none⟩) (l'.flatMap enc) ∧ But [b] w w'
theorem sort_any {P : Program} {ρ : Ren} (L : SlLaysF0.n6 P ρ) (aE : ∀ w, (isAgg (ρ.t 24)).run P w = .ok true w) (zE : ∀ w, (Go.sizeOf (ρ.t 24)).run P w = .ok k w) (hk : ∀ x, (enc x).length = k)
    (h1 : ∀ x, ∀ v ∈ enc x, v.oneCell' = true) (cf : α → α → Int) (hO : SWO (ltOf cf)) (g : Nat) (eg : ∀ args w, (callFunc g args).run P w = .ok (.enter g args) w)
    (hcmp : ∀ (x y : α) (W : World), Calls P g #[.agg (enc x).toArray, .agg (enc y).toArray] W fun e w' => e = .returned (.int .i64 (cf x y)) ∧ ∃ q os', w' = grow (W.drewN q) os')
    (cap : Nat) (l : List α) (rest : List Value) (hB : Blk w b (l.flatMap enc ++ rest)) (hl : l.length < 4611686018427387904) :
    Calls P (ρ.f 6) #[.slice (some ⟨b, 0, none⟩) l.length cap, .func (.func g) #[] #[]] w (RetSort enc cf w b l) := by
  have hcon := AnyQ.slices_SortFunc L k aE zE enc hk h1 cf hO g #[] b 0 cap l.toArray w eg (fun _ _ _ _ x y => hcmp x y _) (holdsK_of hk hB) hB.lt (by simpa using hl)
  have e1 : l.toArray.size = l.length := by simp
  rw [e1] at hcon
  refine hcon.mono fun e w' h => ?_
  obtain ⟨he, d', n, os, hp, hs, hw⟩ := h
  have hsz : d'.size = l.toArray.size := hp.1
  subst hw
  refine ⟨he, d'.toList, ?_, ?_, ?_, but_sort⟩
  · rw [← e1] at hp
    exact perm_list hp
  · rw [show l.length = d'.size by rw [hsz, e1]] at hs
    refine (sorted_list hs).imp fun h => ?_
    unfold ltOf at h
    simpa using h
  · exact row_of_holds hk (holdsK_sortWorldK_c enc k w b 0 l.toArray d' n os (holdsK_of hk hB) hB.lt hsz)
end
end Go.XR
