/- The walk over the reference's order. -/
import Derived.Test.YtekmiegonnhidaaRw
namespace Go.PerfPure
theorem mostC_bound (c : Nat → Nat) (B : Nat) : ∀ m, (∀ i, i < m → c i ≤ B) → mostC c m ≤ B
  | 0, _ => Nat.zero_le _
  | m + 1, h => by
    have h1 := mostC_bound c B m fun i hi => h i (by omega)
    have h2 := h m (by omega)
    unfold mostC; omega
def orderJ (c : Nat → Nat) (many j : Nat) : List Nat := (List.range j).flatMap fun j => (List.range many).filter fun i => c i == mostC c many - j
theorem orderJ_all (c : Nat → Nat) (many : Nat) : orderJ c many (mostC c many) = orderD c many := rfl
theorem orderJ_succ (c : Nat → Nat) (many j : Nat) : orderJ c many (j + 1) = orderJ c many j ++ (List.range many).filter fun i => c i == mostC c many - j := by
  unfold orderJ
  rw [List.range_succ, List.flatMap_append]; simp
theorem filter_succ (p : Nat → Bool) (q : Nat) : (List.range (q + 1)).filter p = (List.range q).filter p ++ if p q then [q] else [] := by
  rw [List.range_succ, List.filter_append]
  cases h : p q <;> simp [h]
end Go.PerfPure
namespace Go.Proofs.Ytekmiegonnhidaa
open Go.RowKit Go.XR Go.PerfPure
abbrev SlT := Option Addr × Nat × Nat
def slL (x : SlT) : List Value := [.slice x.1 x.2.1 x.2.2]
def intL (n : Nat) : List Value := [.int .i64 n]
theorem intL_one (n : Nat) : ∀ v ∈ intL n, v.oneCell' = true := by
  intro v hv
  unfold intL at hv
  rw [List.mem_singleton] at hv
  subst hv; rfl
def RetOrder (w : World) (o : List Nat) (e : Ending) (w' : World) : Prop :=
  ∃ a c, e = .returned (.slice a o.length c) ∧ w'.ownsRow w.heap.size 3 1 (.slice a o.length c) o.length (o.flatMap intL) ∧ Below w.heap.size w w'
set_option maxHeartbeats 1000000 in
set_option maxRecDepth 100000 in
theorem order_any (w : World) (b cp many : Nat) (S : List SlT) (hS : Blk w b (S.flatMap slL)) (hm : S.length = many) (hm2 : many ≤ 16385) (c : Nat → Nat) (hc : ∀ i (h : i < S.length), S[i].2.1 = c i) (hc2 : ∀ i, c i ≤ 16384) :
    Calls Try.prog 24 #[.slice (some ⟨b, 0, none⟩) many cp] w (RetOrder w (orderD c many)) := by
  have HS := Lib.hid hS
  have Hm := Lib.hid hm
  have Hc := Lib.hid hc
  have Hc2 := Lib.hid hc2
  have Hget : Hid (∀ i (h : i < many), ∃ xa xc, (S.flatMap slL)[i]? = some (.slice xa (c i) xc)) := fun i h => by
    have h1 := flat_get (enc := slL) (k := 1) (fun _ => rfl) S (i := i) (j := 0) (by rw [hm]; exact h) (by omega)
    rw [Nat.mul_one, Nat.add_zero] at h1
    refine ⟨(S[i]'(by rw [hm]; exact h)).1, (S[i]'(by rw [hm]; exact h)).2.2, ?_⟩
    rw [h1, ← hc i (by rw [hm]; exact h)]; rfl
  clear hS hm hc hc2
  go_enter Try.func24, Try.ntmps24
  go_wp2
  go_loopg [5, 4] many (fun n i mo w1 => w = w1 ∧ ∃ j : Nat, j ≤ many ∧ i = .int .i64 j ∧ mo = .int .i64 (mostC c j : Nat) ∧ Hid (n = many - j))
  case atStart => exact ⟨rfl, 0, by omega, rfl, rfl, rfl⟩
  case round =>
    obtain ⟨rfl, j, hj, rfl, rfl, hr⟩ := hrel
    by_cases hlt : j < many
    · have hlt2 : (j : Int) < (many : Int) := by omega
      obtain ⟨xa, xc, hg⟩ := Hget.out j hlt
      have cj := HS.out.cell hg
      clear hg
      have Hms : Hid (mostC c (j + 1) = max (mostC c j) (c j)) := rfl
      generalize mostC c j = mj at *
      generalize c j = cj at *
      go_wp2
      go_roundg (many - (j + 1))
      case measure => have := hr.out; omega
      case rel => exact ⟨rfl, j + 1, by omega, by go_num, by rw [Hms.out]; go_num, rfl⟩
    · have hge : ¬ (j : Int) < (many : Int) := by omega
      have hjm : j = many := by omega
      rw [hjm]
      have HM : Hid (mostC c many ≤ 16384) := mostC_bound c 16384 many fun i _ => Hc2.out i
      have HO : Hid (∀ q, orderJ c many (q + 1) = orderJ c many q ++ (List.range many).filter fun i => c i == mostC c many - q) := fun q => orderJ_succ c many q
      have HD : Hid (orderJ c many (mostC c many) = orderD c many) := orderJ_all c many
      have H0 : Hid (orderJ c many 0 = []) := rfl
      generalize mostC c many = M at *
      have hM := HM.out
      clear hjm
      go_wp2
      clear hge hlt hj hr
      go_loopg [6, 3] M (fun n d out w1 => Below w.heap.size w w1 ∧ ∃ (q m : Nat) (o : List Nat) (a : Option Addr) (cap : Nat), q + m = M ∧ d = .int .i64 m ∧ out = .slice a o.length cap ∧ Hid (n = m ∧ o = orderJ c many q ∧ o.length ≤ q * 16385 ∧ w1.ownsRow w.heap.size 3 1 (.slice a o.length cap) o.length (o.flatMap intL)))
      case atStart => exact ⟨Below.refl _ _, 0, M, [], none, 0, by omega, rfl, rfl, rfl, H0.out.symm, Nat.zero_le _, rfl, .inl ⟨rfl, rfl⟩⟩
      case round =>
        obtain ⟨hb, q, m, o, a, cap, hqm, rfl, rfl, hr⟩ := hrel
        have Hb := Lib.hid hb
        clear hb
        have HO2 := Lib.hid (HO.out q)
        have Ho := Lib.hid hr.out.2.1
        have Hol := Lib.hid hr.out.2.2.1
        have Hown := Lib.hid hr.out.2.2.2
        have hgn := hr.out.1
        clear hr
        by_cases hm0 : 0 < m
        · have hm1 : (0 : Int) < (m : Int) := by omega
          go_wp2
          have Hbx := Hb
          go_loopg [7, 3] many (fun n i out w1 => Below w.heap.size w w1 ∧ ∃ (p : Nat) (o2 : List Nat) (a : Option Addr) (cap : Nat), p ≤ many ∧ i = .int .i64 p ∧ out = .slice a o2.length cap ∧ Hid (n = many - p ∧ o2 = o ++ (List.range p).filter (fun i => c i == M - q) ∧ o2.length ≤ q * 16385 + p ∧ w1.ownsRow w.heap.size 3 1 (.slice a o2.length cap) o2.length (o2.flatMap intL)))
          case atStart => exact ⟨Hbx.out, 0, o, a, cap, by omega, rfl, rfl, rfl, by simp, by have := Hol.out; omega, Hown.out⟩
          case round =>
            clear Hb Hbx Hown
            obtain ⟨hb, p, o2, a2, cap2, hp, rfl, rfl, hr⟩ := hrel
            have Hb := Lib.hid hb
            clear hb
            have Ho2 := Lib.hid hr.out.2.1
            have hol2 := hr.out.2.2.1
            have Hown := Lib.hid hr.out.2.2.2
            have hgn2 := hr.out.1
            clear hr
            by_cases hlt : p < many
            · have hlt2 : (p : Int) < (many : Int) := by omega
              obtain ⟨xa, xc, hg⟩ := Hget.out p hlt
              have cj := (HS.out.below Hb.out).cell hg
              clear hg
              have HF : Hid ((List.range (p + 1)).filter (fun i => c i == M - q) = (List.range p).filter (fun i => c i == M - q) ++ if c p == M - q then [p] else []) := filter_succ _ _
              generalize hcp : c p = cp2 at *
              clear hcp
              have hszb := Hb.out.size
              by_cases he : cp2 = m
              · subst he
                have HF2 : Hid (o2 ++ [p] = o ++ (List.range (p + 1)).filter (fun i => c i == M - q)) := by
                  unfold Hid
                  rw [HF.out, Ho2.out, if_pos (by rw [beq_iff_eq]; omega), List.append_assoc]
                go_wp2_with (at_builtin; refine Go.XR.stop (fun X hX => ?_))
                refine hX.out ?_
                clear hX X
                refine wpList_plain rfl (fun K hK => ?_)
                refine append_enc (P := Try.prog) intL 1 8 (fun _ => rfl) intL_one 3 Try.underlying43 (by kernel_rfl) (by decide) w.heap.size a2 cap2 o2 rfl (Hown.out.alloc _) (some ⟨wr.heap.size, 0, none⟩) 1 [p] rfl (by show Row _ _ [Value.int .i64 p]; exact Row.new _ _ _) (fun e => by cases e) (by simp; omega) (by unfold maxLen; simp; omega) (by simp; omega) ?_
                intro a3 c3 w3 ho3 hb3 _ _
                have Ho3 := Lib.hid ho3
                have Hb3 := Lib.hid ((Hb.out.alloc Hb.out.size _).trans hb3)
                have Hll : Hid ((o2 ++ [p]).length ≤ q * 16385 + (p + 1)) := by unfold Hid; rw [List.length_append]; simp; omega
                clear ho3 hb3
                obtain ⟨o3, hoo⟩ : ∃ o3, o2 ++ [p] = o3 := ⟨_, rfl⟩
                rw [hoo] at HF2 Ho3 Hll ⊢
                clear hoo
                go_wp2
                go_roundg (many - (p + 1))
                case measure => omega
                case rel => exact ⟨Hb3.out, p + 1, o3, a3, c3, by omega, by go_num, rfl, rfl, HF2.out, Hll.out, Ho3.out⟩
              · have hne : ¬ (cp2 : Int) = (m : Int) := by omega
                have HF2 : Hid (o2 = o ++ (List.range (p + 1)).filter (fun i => c i == M - q)) := by
                  unfold Hid
                  rw [HF.out, Ho2.out, if_neg (by rw [beq_iff_eq]; omega), List.append_nil]
                go_wp2
                go_roundg (many - (p + 1))
                case measure => omega
                case rel => exact ⟨Hb.out, p + 1, o2, a2, cap2, by omega, by go_num, rfl, rfl, HF2.out, by omega, Hown.out⟩
            · have hge : ¬ (p : Int) < (many : Int) := by omega
              have Hof : Hid (o2 = orderJ c many (q + 1)) := by
                unfold Hid
                rw [HO2.out, Ho2.out, Ho.out, show p = many by omega]
              go_wp2
              go_roundg (m - 1)
              case measure => omega
              case rel => exact ⟨Hb.out, q + 1, m - 1, o2, a2, cap2, by omega, by go_num, rfl, rfl, Hof.out, by omega, Hown.out⟩
        · have hm1 : ¬ (0 : Int) < (m : Int) := by omega
          obtain rfl : o = orderD c many := by rw [Ho.out, ← HD.out, show q = M by omega]
          go_wp2
          go_ret
          exact ⟨a, cap, rfl, Hown.out, Hb.out⟩
end Go.Proofs.Ytekmiegonnhidaa
