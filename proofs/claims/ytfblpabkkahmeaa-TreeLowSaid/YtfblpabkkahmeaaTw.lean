/- The walks over walk with Fresh's closures, and over Fresh. -/
import Derived.Test.YtfblpabkkahmeaaTf
namespace Go.Proofs.Ytfblpabkkahmeaa
open Go.RowKit Go.TreePure Go.XR

theorem size_zero : ∀ {t : PT}, t.size = 0 → t = .nil
  | .nil, _ => rfl
  | .node _ _ l r, h => by simp [PT.size] at h

/-- how many are not in D -/
def cnt (D : List Nat) (n : Nat) (bs : List Nat) : Nat := n + (bs.filter fun b => !decide (b ∈ D)).length
theorem cnt_nil (D : List Nat) (n : Nat) : cnt D n [] = n := rfl
theorem cnt_append (D : List Nat) (n : Nat) (b c : List Nat) : cnt D n (b ++ c) = cnt D (cnt D n b) c := by simp [cnt]; omega
theorem cnt_cons (D : List Nat) (n : Nat) (b : Nat) (c : List Nat) : cnt D n (b :: c) = cnt D (if b ∈ D then n else n + 1) c := by
  unfold cnt
  rw [List.filter_cons]
  by_cases h : b ∈ D <;> simp [h] <;> omega
theorem cnt_le (D : List Nat) (n : Nat) (bs : List Nat) : cnt D n bs ≤ n + bs.length := by
  unfold cnt
  have := List.length_filter_le (fun b => !decide (b ∈ D)) bs
  omega

def WalkHad (w0 : World) (hb m : Nat) (key : ByteArray) (t : PT) : Prop := ∀ (w : World) (p : Option Addr) (bs D : List Nat), Blk w0 p t bs → Srt t.list → Below w0.heap.size w0 w → Had w0.heap.size hb m D w →
    Calls Try.prog 30 #[.pointer p, .string key, (.func (.func 32) #[] #[.pointer (some ⟨hb, 0, none⟩)])] w (RetHad w0.heap.size hb m (D ++ bs) w)
def WalkCnt (w0 : World) (hb m nb : Nat) (D : List Nat) (key : ByteArray) (t : PT) : Prop := ∀ (w : World) (p : Option Addr) (bs : List Nat) (n : Nat), Blk w0 p t bs → Srt t.list → Below w0.heap.size w0 w → Cnt w0.heap.size hb m nb D n w → n + t.size < 2^40 →
    Calls Try.prog 30 #[.pointer p, .string key, (.func (.func 33) #[] #[.pointer (some ⟨hb, 0, none⟩), .pointer (some ⟨nb, 0, none⟩)])] w (RetCnt w0.heap.size hb m nb D (cnt D n bs) w)


set_option maxHeartbeats 2000000 in
set_option maxRecDepth 100000 in
theorem walk_had (w0 : World) (hb m : Nat) (key : ByteArray) (hkey : ∀ k, klt k key = false) : ∀ t : PT, WalkHad w0 hb m key t := by
  intro t
  induction t with
  | nil =>
    intro w p bs D hp _ _ st
    obtain ⟨rfl, rfl⟩ := hp
    have St := Lib.hid st
    clear st hkey
    go_enter Try.func30, Try.ntmps30
    go_wp2
    go_ret
    exact ⟨rfl, Below.refl _ _, by rw [List.append_nil]; exact St.out⟩
  | node k x l r ihl ihr =>
    intro w p bs D hp hsr hbw st
    have St := Lib.hid st
    obtain ⟨hs1, hs2, hs3, _⟩ := Srt.parts hsr
    obtain ⟨b, lp, rp, bl, br, rfl, hb1, hl, hr, rfl⟩ := hp
    have hb0 : b < w0.heap.size := blk_lt hb1
    have hbw1 := (hbw.block b hb0).trans hb1
    have d0 := cells_of hbw1 0
    have d2 := cells_of hbw1 2
    have d3 := cells_of hbw1 3
    simp at d0 d2 d3
    have Ld : Hid (∀ w', Below w0.heap.size w0 w' → Laid w' b) := fun w' h => ⟨_, _, (h.block b hb0).trans hb1⟩
    have Hl := Lib.hid hl
    have Hr := Lib.hid hr
    have Hs1 := Lib.hid hs1
    have Hs2 := Lib.hid hs2
    have Hbw := Lib.hid hbw
    have Ihl := Lib.hid ihl
    have Ihr := Lib.hid ihr
    by_cases h1 : klt key k = true
    · have hlt : Op.bytesLess key.toList k.toList = true := h1
      clear h1 hkey hsr hs1 hs2 hs3 hb1 hl hr hbw1 st ihl ihr hbw
      go_enter Try.func30, Try.ntmps30
      go_wp2_with fail
      refine (Ihl.out _ _ _ D Hl.out Hs1.out Hbw.out St.out).mono ?_
      rintro e w1 ⟨rfl, hb1, st1⟩
      have St1 := Lib.hid st1
      have Hb1 := Lib.hid hb1
      have Hbw1 := Lib.hid (Hbw.out.trans hb1)
      have hc1 := fun o => hb1.cell (p := ⟨b, o, none⟩) hb0
      clear hb1 st1
      go_wp2_with fail
      refine (put_had w0.heap.size hb m _ _ b hb0 (Ld.out _ Hbw1.out) St1.out).mono ?_
      rintro e w2 ⟨rfl, hb2, st2⟩
      have St2 := Lib.hid st2
      have Hb2 := Lib.hid (Hb1.out.trans hb2)
      have Hbw2 := Lib.hid (Hbw1.out.trans hb2)
      have hc2 := fun o => hb2.cell (p := ⟨b, o, none⟩) hb0
      clear hb2 st2
      go_wp2_with fail
      refine (Ihr.out _ _ _ _ Hr.out Hs2.out Hbw2.out St2.out).mono ?_
      rintro e w3 ⟨rfl, hb3, st3⟩
      have St3 := Lib.hid st3
      have Hb3 := Lib.hid (Hb2.out.trans hb3)
      clear hb3 st3
      go_wp2
      go_ret
      exact ⟨rfl, Hb3.out, by have := St3.out; simpa using this⟩
    · have h1' : klt key k = false := by simpa using h1
      have hne : (key.toList == k.toList) = true := by rw [keq_iff]; exact klt_tri h1' (hkey k)
      have hlt : Op.bytesLess key.toList k.toList = false := h1'
      have hkk : key = k := klt_tri h1' (hkey k)
      have hl0 : l = .nil := by
        refine size_zero ?_
        rw [← PT.list_length]
        cases hll : l.list with
        | nil => rfl
        | cons q qs =>
          have := hs3 q (by rw [hll]; simp)
          rw [← hkk, hkey] at this; cases this
      subst hl0
      obtain ⟨rfl, rfl⟩ := hl
      clear h1 h1' hkk hkey hsr hs1 hs2 hs3 hb1 hr hbw1 st ihl ihr hbw
      go_enter Try.func30, Try.ntmps30
      go_wp2_with fail
      refine (put_had w0.heap.size hb m _ _ b hb0 (Ld.out _ Hbw.out) St.out).mono ?_
      rintro e w2 ⟨rfl, hb2, st2⟩
      have St2 := Lib.hid st2
      have Hb2 := Lib.hid hb2
      have Hbw2 := Lib.hid (Hbw.out.trans hb2)
      have hc2 := fun o => hb2.cell (p := ⟨b, o, none⟩) hb0
      clear hb2 st2
      go_wp2_with fail
      refine (Ihr.out _ _ _ _ Hr.out Hs2.out Hbw2.out St2.out).mono ?_
      rintro e w3 ⟨rfl, hb3, st3⟩
      have St3 := Lib.hid st3
      have Hb3 := Lib.hid (Hb2.out.trans hb3)
      clear hb3 st3
      go_wp2
      go_ret
      exact ⟨rfl, Hb3.out, by have := St3.out; simpa using this⟩
set_option maxHeartbeats 2000000 in
set_option maxRecDepth 100000 in
theorem walk_cnt (w0 : World) (hb m nb : Nat) (D : List Nat) (key : ByteArray) (hkey : ∀ k, klt k key = false) : ∀ t : PT, WalkCnt w0 hb m nb D key t := by
  intro t
  induction t with
  | nil =>
    intro w p bs n hp _ _ st _
    obtain ⟨rfl, rfl⟩ := hp
    have St := Lib.hid st
    clear st hkey
    go_enter Try.func30, Try.ntmps30
    go_wp2
    go_ret
    exact ⟨rfl, Below.refl _ _, by rw [cnt_nil]; exact St.out⟩
  | node k x l r ihl ihr =>
    intro w p bs n hp hsr hbw st hsz
    have St := Lib.hid st
    have hsz2 : n + l.size + r.size + 1 < 2^40 := by simp only [PT.size] at hsz; omega
    clear hsz
    obtain ⟨hs1, hs2, hs3, _⟩ := Srt.parts hsr
    obtain ⟨b, lp, rp, bl, br, rfl, hb1, hl, hr, rfl⟩ := hp
    have hb0 : b < w0.heap.size := blk_lt hb1
    have hbw1 := (hbw.block b hb0).trans hb1
    have d0 := cells_of hbw1 0
    have d2 := cells_of hbw1 2
    have d3 := cells_of hbw1 3
    simp at d0 d2 d3
    have Ld : Hid (∀ w', Below w0.heap.size w0 w' → Laid w' b) := fun w' h => ⟨_, _, (h.block b hb0).trans hb1⟩
    have Hl := Lib.hid hl
    have Hr := Lib.hid hr
    have Hs1 := Lib.hid hs1
    have Hs2 := Lib.hid hs2
    have Hbw := Lib.hid hbw
    have Ihl := Lib.hid ihl
    have Ihr := Lib.hid ihr
    have nl := hl.length
    have nr := hr.length
    have Nl := Lib.hid nl
    have Nr := Lib.hid nr
    clear nl nr
    by_cases h1 : klt key k = true
    · have hlt : Op.bytesLess key.toList k.toList = true := h1
      clear h1 hkey hsr hs1 hs2 hs3 hb1 hl hr hbw1 st ihl ihr hbw
      go_enter Try.func30, Try.ntmps30
      go_wp2_with fail
      refine (Ihl.out _ _ _ n Hl.out Hs1.out Hbw.out St.out (by omega)).mono ?_
      rintro e w1 ⟨rfl, hb1, st1⟩
      have St1 := Lib.hid st1
      have Hb1 := Lib.hid hb1
      have Hbw1 := Lib.hid (Hbw.out.trans hb1)
      have hc1 := fun o => hb1.cell (p := ⟨b, o, none⟩) hb0
      clear hb1 st1
      go_wp2_with fail
      refine (put_cnt w0.heap.size hb m nb D _ _ b hb0 (Ld.out _ Hbw1.out) St1.out (by have := cnt_le D n bl; have := Nl.out; omega)).mono ?_
      rintro e w2 ⟨rfl, hb2, st2⟩
      have St2 := Lib.hid st2
      have Hb2 := Lib.hid (Hb1.out.trans hb2)
      have Hbw2 := Lib.hid (Hbw1.out.trans hb2)
      have hc2 := fun o => hb2.cell (p := ⟨b, o, none⟩) hb0
      clear hb2 st2
      go_wp2_with fail
      refine (Ihr.out _ _ _ _ Hr.out Hs2.out Hbw2.out St2.out (by have := cnt_le D n bl; have := Nl.out; split <;> omega)).mono ?_
      rintro e w3 ⟨rfl, hb3, st3⟩
      have St3 := Lib.hid st3
      have Hb3 := Lib.hid (Hb2.out.trans hb3)
      clear hb3 st3
      go_wp2
      go_ret
      exact ⟨rfl, Hb3.out, by rw [cnt_append, cnt_cons]; exact St3.out⟩
    · have h1' : klt key k = false := by simpa using h1
      have hne : (key.toList == k.toList) = true := by rw [keq_iff]; exact klt_tri h1' (hkey k)
      have hlt : Op.bytesLess key.toList k.toList = false := h1'
      have hkk : key = k := klt_tri h1' (hkey k)
      have hl0 : l = .nil := by
        refine size_zero ?_
        rw [← PT.list_length]
        cases hll : l.list with
        | nil => rfl
        | cons q qs =>
          have := hs3 q (by rw [hll]; simp)
          rw [← hkk, hkey] at this; cases this
      subst hl0
      obtain ⟨rfl, rfl⟩ := hl
      clear h1 h1' hkk hkey hsr hs1 hs2 hs3 hb1 hr hbw1 st ihl ihr hbw
      go_enter Try.func30, Try.ntmps30
      go_wp2_with fail
      refine (put_cnt w0.heap.size hb m nb D _ _ b hb0 (Ld.out _ Hbw.out) St.out (by omega)).mono ?_
      rintro e w2 ⟨rfl, hb2, st2⟩
      have St2 := Lib.hid st2
      have Hb2 := Lib.hid hb2
      have Hbw2 := Lib.hid (Hbw.out.trans hb2)
      have hc2 := fun o => hb2.cell (p := ⟨b, o, none⟩) hb0
      clear hb2 st2
      go_wp2_with fail
      refine (Ihr.out _ _ _ _ Hr.out Hs2.out Hbw2.out St2.out (by have : PT.nil.size = 0 := rfl; split <;> omega)).mono ?_
      rintro e w3 ⟨rfl, hb3, st3⟩
      have St3 := Lib.hid st3
      have Hb3 := Lib.hid (Hb2.out.trans hb3)
      clear hb3 st3
      go_wp2
      go_ret
      exact ⟨rfl, Hb3.out, by rw [cnt_cons]; exact St3.out⟩
end Go.Proofs.Ytfblpabkkahmeaa
