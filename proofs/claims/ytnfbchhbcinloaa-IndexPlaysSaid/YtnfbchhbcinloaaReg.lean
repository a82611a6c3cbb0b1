/- A region whose order is drawn, walked once: what is light (it yields its value in every world that meets S) is taken first; what is heavy comes in one forced order. -/
import Derived.OrdersHeld
import Derived.Tactics
import Derived.Deep.RegionHeld3
namespace Go.XR
section
variable {P : Program} {ops : Array Oper} {Q : Exit → Act → World → Prop} {md : Region.Mode} {S : World → Prop} {sd : List Nat}

/-- does number j wait for number i, itself or through others? -/
def reach (md : Region.Mode) (ops : Array Oper) : Nat → Nat → Nat → Bool
  | 0, _, _ => false
  | f + 1, j, i =>
    match ops[j]? with
    | some oj => (oj.after.any fun e => Region.binds md e && e.on == i) || oj.after.any fun e => Region.binds md e && reach md ops f e.on i
    | none => false

def Closed (md : Region.Mode) (ops : Array Oper) (listed : Array Bool) : Prop :=
  ∀ j oj, ops[j]? = some oj → listed.getD j false = true → ∀ e ∈ oj.after, Region.binds md e = true → listed.getD e.on false = true

theorem Closed.set {listed : Array Bool} {i : Nat} (h : Closed md ops listed) (hi : i ∈ Region.ready md ops listed) : Closed md ops (listed.setIfInBounds i true) := by
  obtain ⟨_, oi, hoi, hall⟩ := mem_ready.1 hi
  intro j oj hj hl e he hb
  by_cases hij : i = j
  · subst hij
    have : oj = oi := Option.some.inj (hj.symm.trans hoi)
    subst this
    exact getD_set_true (hall e he hb)
  · rw [getD_set_ne false hij] at hl
    exact getD_set_true (h j oj hj hl e he hb)

theorem reach_spec {listed : Array Bool} {i : Nat} (hc : Closed md ops listed) : ∀ (f j : Nat) (oj : Oper), ops[j]? = some oj →
    (∀ e ∈ oj.after, Region.binds md e = true → listed.getD e.on false = true) → reach md ops f j i = true → listed.getD i false = true
  | 0, _, _, _, _, h => by cases h
  | f + 1, j, oj, hj, hall, h => by
    simp only [reach, hj, Bool.or_eq_true] at h
    rcases h with h | h
    · obtain ⟨e, he, hb⟩ := Array.any_eq_true'.1 h
      simp only [Bool.and_eq_true, beq_iff_eq] at hb
      rw [← hb.2]; exact hall e he hb.1
    · obtain ⟨e, he, hb⟩ := Array.any_eq_true'.1 h
      simp only [Bool.and_eq_true] at hb
      cases ho : ops[e.on]? with
      | none =>
        cases f with
        | zero => simp [reach] at hb
        | succ f => simp [reach, ho] at hb
      | some o' => exact reach_spec hc f e.on o' ho (fun e' he' hb' => hc e.on o' ho (hall e he hb.1) e' he' hb') hb.2

/-- whatever order comes; S is shown behind each operation that is not among sd -/
def wpAnyX (P : Program) (md : Region.Mode) (ops : Array Oper) (Q : Exit → Act → World → Prop) (S : World → Prop) (sd : List Nat) : Nat → Array Bool → Act → World → Prop
  | 0, listed, a, w => Region.ready md ops listed = [] ∧ Q .normal a w
  | fuel + 1, listed, a, w =>
    (Region.ready md ops listed = [] → Q .normal a w) ∧
    ∀ i ∈ Region.ready md ops listed, wpOp P ops Q i (fun a' w' => (sd.contains i = false → S w') ∧ wpAnyX P md ops Q S sd fuel (listed.setIfInBounds i true) a' w') a w

theorem wpAny_of_X : ∀ (fuel : Nat) (listed : Array Bool) (a : Act) (w : World), wpAnyX P md ops Q S sd fuel listed a w → wpAny P md ops Q fuel listed a w
  | 0, _, _, _, h => h
  | fuel + 1, _, _, _, h => ⟨h.1, fun i hi => wpOp_mono (fun a' w' h' => wpAny_of_X fuel _ a' w' h'.2) (h.2 i hi)⟩

theorem wpAnyX_first {i : Nat} {oi : Oper} {v : Value} (hi : ops[i]? = some oi) (hsel : ∀ (j : Nat) (o : Oper) cs b, ops[j]? = some o → o.op ≠ .select cs b)
    (hQ : ∀ c a w, Q (.panic c) (a.put oi.dst v) w → Q (.panic c) a w) (hsd : ∀ j, sd.contains j = true → reach md ops 12 j i = true) :
    ∀ (fuel : Nat) (listed : Array Bool) (a : Act) (w : World),
      (∀ j oj, ops[j]? = some oj → j ≠ i → listed.getD j true = false → (∀ e ∈ oj.after, Region.binds md e = true → e.on ≠ i) → oi.apart ops oj = true) →
      Closed md ops listed → i ∈ Region.ready md ops listed → YieldsIf P ops S oi v a → S w →
      wpAnyX P md ops Q S sd fuel (listed.setIfInBounds i true) (a.put oi.dst v) w → wpAnyX P md ops Q S sd (fuel + 1) listed a w := by
  intro fuel
  induction fuel with
  | zero =>
    intro listed a w _ _ hr hy hS H
    refine ⟨fun h => (by rw [h] at hr; cases hr), fun j hj => ?_⟩
    by_cases hji : j = i
    · subst hji; exact hy.wpOp hi hS ⟨fun _ => hS, H⟩
    · have := ready_mono hj hji
      rw [H.1] at this
      cases this
  | succ fuel ih =>
    intro listed a w hfree hcl hr hy hS H
    refine ⟨fun h => (by rw [h] at hr; cases hr), fun j hj => ?_⟩
    by_cases hji : j = i
    · subst hji; exact hy.wpOp hi hS ⟨fun _ => hS, H⟩
    · have h1 := H.2 j (ready_mono hj hji)
      obtain ⟨hjun, oj, hoj, hall⟩ := mem_ready.1 hj
      have hnot : ∀ e ∈ oj.after, Region.binds md e = true → e.on ≠ i := fun e he hb heq => by
        have h1 := hall e he hb
        have h0 := (mem_ready.1 hr).1
        rw [heq] at h1
        rcases Nat.lt_or_ge i listed.size with h' | h'
        · simp [h'] at h0 h1; rw [h0] at h1; cases h1
        · simp [Array.getElem?_eq_none h'] at h1
      have hns : sd.contains j = false := by
        cases hc : sd.contains j with
        | false => rfl
        | true =>
          have h1 := reach_spec hcl 12 j oj hoj hall (hsd j hc)
          have h0 := (mem_ready.1 hr).1
          rcases Nat.lt_or_ge i listed.size with h' | h'
          · simp [h'] at h0 h1; rw [h0] at h1; cases h1
          · simp [Array.getElem?_eq_none h'] at h1
      have h2 := wpOp_putIf hoj (hfree j oj hoj hji hjun hnot) (fun cs b => hsel i oi cs b hi) (fun cs b => hsel j oj cs b hoj) hQ hy h1
      have hfree' : ∀ k ok, ops[k]? = some ok → k ≠ i → (listed.setIfInBounds j true).getD k true = false →
          (∀ e ∈ ok.after, Region.binds md e = true → e.on ≠ i) → oi.apart ops ok = true := fun k ok hk hki hun hno => by
        refine hfree k ok hk hki ?_ hno
        by_cases hjk : j = k
        · subst hjk; exact hjun
        · rw [getD_set_ne true hjk] at hun; exact hun
      refine wpOp_mono (fun a' w' h3 => ⟨fun _ => h3.2.1 hns, ih (listed.setIfInBounds j true) a' w' hfree' (hcl.set hj) (ready_mono hr (Ne.symm hji)) h3.1 (h3.2.1 hns) ?_⟩) h2
      rw [Array.setIfInBounds_comm _ _ hji]
      exact h3.2.2

/-- a schedule: number and whether it is light -/
def schedB (md : Region.Mode) (ops : Array Oper) (sd : List Nat) : List (Nat × Bool) → Array Bool → Bool
  | [], listed => (Region.ready md ops listed).isEmpty
  | (i, true) :: r, listed => (Region.ready md ops listed).contains i && (Region.free md ops listed i && ((sd.all fun j => reach md ops 12 j i) && schedB md ops sd r (listed.setIfInBounds i true)))
  | (i, false) :: r, listed => (Region.ready md ops listed == [i]) && schedB md ops sd r (listed.setIfInBounds i true)

def wpT (P : Program) (ops : Array Oper) (Q : Exit → Act → World → Prop) (S : World → Prop) (sd : List Nat) : List (Nat × Bool × Option Oper) → Act → World → Prop
  | [], a, w => Q .normal a w
  | (_, true, some o) :: r, a, w => ∃ v, YieldsIf P ops S o v a ∧ S w ∧ wpT P ops Q S sd r (a.put o.dst v) w
  | (i, false, some o) :: r, a, w => if Region.wanted o (yielded ops a.tmps) then o.wp P a w (fun a' w' => (sd.contains i = false → S w') ∧ wpT P ops Q S sd r a' w') Q else (sd.contains i = false → S w) ∧ wpT P ops Q S sd r (a.put o.dst undef) w
  | (_, _, none) :: _, _, _ => False

theorem X_of_T (hsel : Region.noSelect ops = true) (hQ : ∀ c a a' w, Q (.panic c) a w → Q (.panic c) a' w) : ∀ (l : List (Nat × Bool)) (listed : Array Bool) (a : Act) (w : World),
    Closed md ops listed → schedB md ops sd l listed = true → wpT P ops Q S sd (l.map fun p => (p.1, p.2, ops[p.1]?)) a w → wpAnyX P md ops Q S sd l.length listed a w
  | [], listed, a, w, _, hb, h => by
    simp only [schedB, List.isEmpty_iff] at hb
    exact ⟨hb, h⟩
  | (i, true) :: r, listed, a, w, hcl, hb, h => by
    simp only [schedB, Bool.and_eq_true] at hb
    obtain ⟨hr, hf, hs, hrest⟩ := hb
    simp only [List.map_cons] at h
    cases ho : ops[i]? with
    | none => rw [ho] at h; exact h.elim
    | some o =>
      rw [ho] at h
      obtain ⟨v, hy, hS, hn⟩ := h
      refine wpAnyX_first ho (Region.noSelect_spec hsel) (fun c a w h => hQ c _ _ w h) (fun j hj => ?_) _ _ _ _ (Region.free_spec ho hf) hcl (by simpa using hr) hy hS (X_of_T hsel hQ r _ _ _ (hcl.set (by simpa using hr)) hrest hn)
      exact List.all_eq_true.1 hs j (by simpa using hj)
  | (i, false) :: r, listed, a, w, hcl, hb, h => by
    simp only [schedB, Bool.and_eq_true, beq_iff_eq] at hb
    obtain ⟨hr, hrest⟩ := hb
    refine ⟨fun h0 => absurd (hr ▸ h0 : [i] = []) (by simp), fun j hj => ?_⟩
    rw [hr] at hj
    obtain rfl : j = i := by simpa using hj
    simp only [List.map_cons] at h
    have hm := hcl.set (i := j) (by rw [hr]; simp)
    unfold wpOp
    cases ho : ops[j]? with
    | none => rw [ho] at h; exact h.elim
    | some o =>
      rw [ho] at h
      simp only [wpT] at h ⊢
      split
      · rename_i hw
        rw [if_pos hw] at h
        exact .inl (Oper.wp_mono (fun a' w' h' => ⟨h'.1, X_of_T hsel hQ r _ _ _ hm hrest h'.2⟩) h)
      · rename_i hw
        rw [if_neg hw] at h
        exact ⟨h.1, X_of_T hsel hQ r _ _ _ hm hrest h.2⟩

/-- the region, walked by a schedule -/
theorem region_sched {id : Nat} {ops : List Oper} {a : Act} {w : World} (S : World → Prop) (l : List (Nat × Bool)) (sd : List Nat)
    (hm : P.follows .mixedOrders = true) (hsel : Region.noSelect ops.toArray = true) (hn : (l.length == ops.length) = true)
    (hb : schedB .any ops.toArray sd l (Array.replicate ops.toArray.size false) = true)
    (h : wpT P ops.toArray (NoPanic Q) S sd (l.map fun p => (p.1, p.2, ops[p.1]?)) a w.drew) : (Code.region id ops.toArray true).wp P Q a w := by
  refine wp_region_noPanic (wp_region_any hm (wpAny_of_X (S := S) (sd := sd) _ _ _ _ ?_))
  have e : ops.toArray.size = l.length := by simpa using (beq_iff_eq.1 hn).symm
  have := X_of_T (P := P) (Q := NoPanic Q) (S := S) (w := w.drew) hsel (fun _ _ _ _ h => h.elim) l _ a (fun j oj _ hl => by simp [Array.getD, Array.getElem?_replicate] at hl) hb (by simpa using h)
  rw [e] at this ⊢
  exact this

section
variable {r : List (Nat × Bool × Option Oper)} {a : Act} {w : World} {o : Oper} {i : Nat}
theorem S_nil (h : Q .normal a w) : wpT P ops (NoPanic Q) S sd [] a w := h

theorem S_lightV (hg : o.guard = none) (hS : S w) (v : Value)
    (hy : ∀ w', S w' → (execOp a.eval o).run P w' = .ok (.value v) w') (h : wpT P ops Q S sd r (a.put o.dst v) w) : wpT P ops Q S sd ((i, true, some o) :: r) a w :=
  ⟨v, .inl ⟨by simp [Region.wanted, hg], hy⟩, hS, h⟩

theorem S_lightV_on (hg : Region.wanted o (yielded ops a.tmps) = true) (hS : S w) (v : Value)
    (hy : ∀ w', S w' → (execOp a.eval o).run P w' = .ok (.value v) w') (h : wpT P ops Q S sd r (a.put o.dst v) w) : wpT P ops Q S sd ((i, true, some o) :: r) a w :=
  ⟨v, .inl ⟨hg, hy⟩, hS, h⟩

/-- operations that yield a value, and do nothing else -/
def lightOp : Op → Bool
  | .move _ | .assign _ | .build .. | .load .. | .binOp .. | .unOp .. | .convert .. | .makeInterface .. | .makeFunc .. | .slice .. | .fieldAddr .. | .field .. | .indexAddr .. | .index .. | .lookup .. | .extract .. | .nilCheck .. | .pick .. => true
  | .call { callee := .builtin b, .. } => match b with | .max | .min | .len | .cap => true | _ => false
  | _ => false

theorem bind_value {e : Sem Value} {P : Program} {w w' : World} {n : Next} (h : (do pure (Next.value (← e)) : Sem Next).run P w = .ok n w') : ∃ v, n = .value v := by
  rw [Sem.run_bind] at h
  cases hr : e.run P w with
  | ok v w1 => rw [hr] at h; simp [Sem.run] at h; exact ⟨v, h.1.symm⟩
  | halt x w1 => rw [hr] at h; simp at h

theorem pure_value {v : Value} {P : Program} {w w' : World} {n : Next} (h : (pure (Next.value v) : Sem Next).run P w = .ok n w') : ∃ v, n = .value v := by
  simp at h; exact ⟨v, h.1.symm⟩

theorem light_value {ρ : Operand → Value} {o : Oper} (hl : lightOp o.op = true) {P : Program} {w w' : World} {n : Next} (h : (execOp ρ o).run P w = .ok n w') : ∃ v, n = .value v := by
  obtain ⟨dst, op, ty, pos, after, guard⟩ := o
  cases op <;> first | (simp [lightOp] at hl; done) | exact bind_value h | exact pure_value h | skip
  case pick c x y => exact bind_value (e := do pure (if ← asBool (ρ c) then ρ x else ρ y)) (by simpa [execOp] using h)
  case nilCheck x =>
    simp only [execOp] at h
    split at h
    · simp [runtimePanic] at h
    · simp [runtimePanic] at h
    · simp [runtimePanic] at h
    · split at h
      · simp [runtimePanic] at h
      · rw [Sem.run_bind] at h
        simp only [run_program, Result.andThen] at h
        rw [Sem.run_bind] at h
        generalize Sem.run P (nilAhead _ _ _ _) w = r at h
        cases r with
        | halt x w1 => simp [Result.andThen] at h
        | ok b w1 =>
          simp only [Result.andThen] at h
          split at h
          · simp [unsupported] at h
          · exact pure_value h
      · exact pure_value h
    · exact pure_value h
  case call c =>
    obtain ⟨callee, args, ats⟩ := c
    cases callee with
    | builtin b => cases b <;> first | (simp [lightOp] at hl; done) | exact bind_value h
    | _ => simp [lightOp] at hl

def dstOk (dst : Option Tmp) (a : Act) : Bool := match dst with | some d => decide (d < a.tmps.size) | none => false

theorem put_inj {a : Act} {d : Nat} {u v : Value} (hd : d < a.tmps.size) (h : a.put (some d) u = a.put (some d) v) : u = v := by
  have h1 := congrArg (fun x : Act => x.tmps[d]?) h
  simpa [Act.put, hd] using h1

theorem yields_of_wp {dst : Option Tmp} {op : Op} {ty : TypeId} {pos : String} {after : Array Edge} {guard : Option (Nat × Bool)} {v : Value}
    (hl : lightOp op = true) (hd : dstOk dst a = true)
    (hy : ∀ K : Act → World → Prop, K (a.put dst v) w → Oper.wp P ⟨dst, op, ty, pos, after, guard⟩ a w K (fun _ _ _ => False)) :
    (execOp a.eval ⟨dst, op, ty, pos, after, guard⟩).run P w = .ok (.value v) w := by
  replace hy := hy (fun a' w' => a' = a.put dst v ∧ w' = w) ⟨rfl, rfl⟩
  unfold Oper.wp at hy
  cases hr : (execOp a.eval ⟨dst, op, ty, pos, after, guard⟩).run P w with
  | ok n w1 =>
    obtain ⟨u, rfl⟩ := light_value (o := ⟨dst, op, ty, pos, after, guard⟩) hl hr
    rw [hr] at hy
    simp only [Oper.upon] at hy
    obtain ⟨h1, rfl⟩ := hy
    cases dst with
    | none => simp [dstOk] at hd
    | some d => rw [put_inj (by simpa [dstOk] using hd) h1]
  | halt x w1 =>
    rw [hr] at hy
    cases x <;> simp [Oper.upon] at hy

/-- light: its value is the same in every world that meets S -/
theorem S_light {dst : Option Tmp} {op : Op} {ty : TypeId} {pos : String} {after : Array Edge}
    (hl : lightOp op = true) (hd : dstOk dst a = true) (hS : S w) (v : Value)
    (hy : ∀ w', S w' → ∀ K : Act → World → Prop, K (a.put dst v) w' → Oper.wp P ⟨dst, op, ty, pos, after, none⟩ a w' K (fun _ _ _ => False))
    (h : ∀ K : Act → World → Prop, (∀ a', wpT P ops Q S sd r a' w → K a' w) → Oper.wp P ⟨dst, .move (.const v), ty, "", #[], none⟩ a w K (fun _ _ _ => False)) :
    wpT P ops Q S sd ((i, true, some ⟨dst, op, ty, pos, after, none⟩) :: r) a w :=
  S_lightV rfl hS v (fun w' hS' => yields_of_wp hl hd (hy w' hS')) (by
    have := h (fun a' w' => wpT P ops Q S sd r a' w) (fun _ h => h)
    simpa [Oper.wp, execOp, Oper.upon, Act.eval] using this)

theorem S_light_on {dst : Option Tmp} {op : Op} {ty : TypeId} {pos : String} {after : Array Edge} {g : Nat × Bool}
    (hg : Region.wanted ⟨dst, op, ty, pos, after, some g⟩ (yielded ops a.tmps) = true)
    (hl : lightOp op = true) (hd : dstOk dst a = true) (hS : S w) (v : Value)
    (hy : ∀ w', S w' → ∀ K : Act → World → Prop, K (a.put dst v) w' → Oper.wp P ⟨dst, op, ty, pos, after, none⟩ a w' K (fun _ _ _ => False))
    (h : ∀ K : Act → World → Prop, (∀ a', wpT P ops Q S sd r a' w → K a' w) → Oper.wp P ⟨dst, .move (.const v), ty, "", #[], none⟩ a w K (fun _ _ _ => False)) :
    wpT P ops Q S sd ((i, true, some ⟨dst, op, ty, pos, after, some g⟩) :: r) a w :=
  S_lightV_on hg hS v (fun w' hS' => yields_of_wp (guard := some g) hl hd (hy w' hS')) (by
    have := h (fun a' w' => wpT P ops Q S sd r a' w) (fun _ h => h)
    simpa [Oper.wp, execOp, Oper.upon, Act.eval] using this)

theorem S_light_off {dst : Option Tmp} {op : Op} {ty : TypeId} {pos : String} {after : Array Edge} {g : Nat × Bool}
    (hg : Region.wanted ⟨dst, op, ty, pos, after, some g⟩ (yielded ops a.tmps) = false) (hS : S w)
    (h : ∀ K : Act → World → Prop, (∀ a', wpT P ops Q S sd r a' w → K a' w) → Oper.wp P ⟨dst, .move (.const undef), ty, "", #[], none⟩ a w K (fun _ _ _ => False)) :
    wpT P ops Q S sd ((i, true, some ⟨dst, op, ty, pos, after, some g⟩) :: r) a w :=
  ⟨undef, .inr ⟨hg, rfl⟩, hS, by
    have := h (fun a' w' => wpT P ops Q S sd r a' w) (fun _ h => h)
    simpa [Oper.wp, execOp, Oper.upon, Act.eval] using this⟩

theorem S_heavy {dst : Option Tmp} {op : Op} {ty : TypeId} {pos : String} {after : Array Edge}
    (h : ∀ K : Act → World → Prop, (∀ a' w', ((sd.contains i = false → S w') ∧ wpT P ops Q S sd r a' w') → K a' w') → Oper.wp P ⟨dst, op, ty, pos, after, none⟩ a w K Q) :
    wpT P ops Q S sd ((i, false, some ⟨dst, op, ty, pos, after, none⟩) :: r) a w := by
  unfold wpT
  rw [if_pos (by simp [Region.wanted])]
  exact h _ (fun _ _ h => h)

theorem S_heavy_on {dst : Option Tmp} {op : Op} {ty : TypeId} {pos : String} {after : Array Edge} {g : Nat × Bool}
    (hg : Region.wanted ⟨dst, op, ty, pos, after, some g⟩ (yielded ops a.tmps) = true)
    (h : ∀ K : Act → World → Prop, (∀ a' w', ((sd.contains i = false → S w') ∧ wpT P ops Q S sd r a' w') → K a' w') → Oper.wp P ⟨dst, op, ty, pos, after, none⟩ a w K Q) :
    wpT P ops Q S sd ((i, false, some ⟨dst, op, ty, pos, after, some g⟩) :: r) a w := by
  unfold wpT
  rw [if_pos hg]
  exact h _ (fun _ _ h => h)

theorem S_heavy_off {dst : Option Tmp} {op : Op} {ty : TypeId} {pos : String} {after : Array Edge} {g : Nat × Bool}
    (hg : Region.wanted ⟨dst, op, ty, pos, after, some g⟩ (yielded ops a.tmps) = false)
    (hS : sd.contains i = false → S w) (h : ∀ K : Act → World → Prop, (∀ a', wpT P ops Q S sd r a' w → K a' w) → Oper.wp P ⟨dst, .move (.const undef), ty, "", #[], none⟩ a w K (fun _ _ _ => False)) :
    wpT P ops Q S sd ((i, false, some ⟨dst, op, ty, pos, after, some g⟩) :: r) a w := by
  unfold wpT
  rw [if_neg (by simp [hg])]
  refine ⟨hS, ?_⟩
  have := h (fun a' w' => wpT P ops Q S sd r a' w) (fun _ h => h)
  simpa [Oper.wp, execOp, Oper.upon, Act.eval] using this
end
end
end Go.XR
