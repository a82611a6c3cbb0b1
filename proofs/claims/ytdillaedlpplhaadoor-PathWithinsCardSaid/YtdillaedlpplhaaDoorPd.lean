/- The walk over the reference's Parse. -/
import Derived.Test.YtdillaedlpplhaaDoorPc
import Derived.Test.YtdillaedlpplhaaDoorApp
namespace Go.Proofs.YtdillaedlpplhaaDoor
open Go.RowKit Go.PathPure Go.XR

theorem Tryd.info9p : (Tryd.prog.info? 9).map (fun i => (i.zero, i.size, i.bytes)) = some (some (.string ⟨#[]⟩), 1, 16) := by kernel_rfl
theorem Tryd.sl23 : Tryd.prog.underlying 23 = some (.slice 9) := by kernel_rfl

theorem info_parts {P : Program} {t : TypeId} {z : Value} {n b : Nat} (h : (P.info? t).map (fun i => (i.zero, i.size, i.bytes)) = some (some z, n, b)) : ∃ i, P.info? t = some i ∧ i.zero = some z ∧ i.size = n ∧ i.bytes = b := by
  cases hi : P.info? t with
  | none => rw [hi] at h; cases h
  | some i => rw [hi] at h; simp at h; exact ⟨i, rfl, h.1, h.2.1, h.2.2⟩

theorem owns_le {w : World} {base : Nat} {e : TypeId} {size : Nat} {a : Option Addr} {n c : Nat} {xs : List Value} (h : w.ownsRow base e size (.slice a n c) n xs) : n ≤ c := by
  rcases h.2 with ⟨h1, h2⟩ | ⟨g, cap, cur, h1, h2, h3, h4, h5, h6, h7⟩
  · omega
  · cases h1; omega

theorem owns_some {w : World} {base : Nat} {e : TypeId} {size : Nat} {a : Option Addr} {n c : Nat} {xs : List Value} (h : w.ownsRow base e size (.slice a n c) n xs) (hc : c ≠ 0) : ∃ g o, a = some ⟨g, o, none⟩ := by
  rcases h.2 with ⟨h1, h2⟩ | ⟨g, cap, cur, h1, h2, h3, h4, h5, h6, h7⟩
  · injection h1 with _ _ h3; exact absurd h3 hc
  · injection h1 with h3; exact ⟨g, 0, h3⟩
theorem owns_below {w w' : World} {base : Nat} {e : TypeId} {size : Nat} {v : Value} {n : Nat} {xs : List Value} (h : w.ownsRow base e size v n xs) (hb : Below w.heap.size w w') : w'.ownsRow base e size v n xs := by
  refine ⟨h.1, ?_⟩
  rcases h.2 with h2 | ⟨g, cap, cur, h1, h2, h3, h4⟩
  · exact .inl h2
  · exact .inr ⟨g, cap, cur, h1, h2, (hb.block g (Array.getElem?_eq_some_iff.1 h3).1).trans h3, h4⟩

/-- append of texts onto texts of the call's own -/
theorem append_strs {w : World} {A : Act} {K : Act → World → Prop} {Q : Exit → Act → World → Prop} {dst : Option Tmp} {s x : Operand} {pos : String} {after : Array Edge} {guard : Option (Nat × Bool)}
    (base : Nat) (so : Option Addr) (sc : Nat) (l : List ByteArray) (hs : A.eval s = .slice so l.length sc) (hown : w.ownsRow base 9 1 (.slice so l.length sc) l.length (strs l))
    (xo : Option Addr) (c : Nat) (m : List ByteArray) (hx : A.eval x = .slice xo m.length c) (hrow : Row w xo (strs m)) (hnil : xo = none → m.length = 0 ∧ c = 0) (hlen : l.length + m.length < 2^42) (hbase : base ≤ w.heap.size)
    (h : ∀ a' c' w', w'.ownsRow base 9 1 (.slice a' (l ++ m).length c') (l ++ m).length (strs (l ++ m)) → Below base w w' →
      Oper.wp Tryd.prog ⟨dst, .move (.const (.slice a' (l ++ m).length c')), 23, "", #[], none⟩ A w' K (fun _ _ _ => False)) :
    Oper.wp Tryd.prog ⟨dst, .call { callee := .builtin .append, args := #[s, x], argTypes := #[23, 23] }, 23, pos, after, guard⟩ A w K Q := by
  obtain ⟨i0, hi, hz0, hz1, hz2⟩ := info_parts Tryd.info9p
  refine wp_append_src base 9 i0 (.string ⟨#[]⟩) 1 16 Tryd.sl23 hi hz0 hz1 hz2 rfl (by decide) so l.length sc (strs l) hs hown xo m.length c (strs m) hx (by simp [strs]) hrow hnil (by intro u hu; simp only [strs, List.mem_map] at hu; obtain ⟨b, _, rfl⟩ := hu; rfl) (by unfold maxLen; omega) (by omega) hbase ?_
  intro a' c' w' ho hg hn
  have e : (l ++ m).length = l.length + m.length := List.length_append
  have := h a' c' w' (by rw [e, show strs (l ++ m) = strs l ++ strs m from List.map_append]; exact ho) (grown_below hg hown hbase)
  rw [e] at this
  exact this

def RetOpt (w : World) (r : Option (List ByteArray)) (e : Ending) (w' : World) : Prop := ∃ a c, e = .returned (.tuple #[.slice a (r.getD []).length c, .int .i64 (if r.isSome then 0 else 170)]) ∧ Row w' a (strs (r.getD [])) ∧ (r.getD []).length ≤ c ∧ (c ≠ 0 → ∃ g o, a = some ⟨g, o, none⟩) ∧ Below w.heap.size w w'

set_option maxHeartbeats 4000000 in
set_option maxRecDepth 100000 in
theorem refparse_loop (w : World) (s : ByteArray) (hs : s.size ≤ 2^30) (l : List UInt8) (hd : s.data.toList = 47 :: l) (hl : l ≠ []) (e0 : (s.toList == [47]) = false) (e1 : (s.toList == []) = false) :
    Calls Tryd.prog 11 #[.string s] w (RetOpt w (chk [] ((pieces l).map B))) := by
  have hz : s.size = l.length + 1 := by
    have h2 : s.size = s.data.toList.length := (Array.length_toList (xs := s.data)).symm
    rw [h2, hd]; rfl
  have hz0 : 0 < s.size := by omega
  have h0 : s[0] = 47 := by
    have h1 : s.data.toList[0]? = some 47 := by rw [hd]; rfl
    rw [Array.getElem?_toList] at h1
    exact (Array.getElem?_eq_some_iff.1 h1).2
  have c0 : ((s[0].toNat : Int) != 47) = false := by rw [h0]; rfl
  have Hd := Lib.hid hd
  have hat : Hid (∀ i (h : i < s.size), s.data.toList[i]? = some s[i]) := fun i h => by rw [Array.getElem?_toList]; exact Array.getElem?_eq_getElem h
  have Hsz : Hid (s.data.toList.length = s.size) := Array.length_toList
  clear hd hl hz h0
  obtain ⟨ANS, hA⟩ : ∃ A, chk [] ((pieces l).map B) = A := ⟨_, rfl⟩
  rw [hA]
  have HA : Hid (chk [] ((pieces (s.data.toList.drop 1)).map B) = ANS) := by unfold Hid; rw [Hd.out]; exact hA
  clear hA
  obtain ⟨i0, hi, hz0', hz1, hz2⟩ := info_parts Tryd.info9p
  have Hi := Lib.hid (And.intro hi (And.intro hz0' (And.intro hz1 hz2)))
  clear hi hz0' hz1 hz2
  go_enter Tryd.func11, Tryd.ntmps11
  go_wp2
  go_loopg [6, 4, 5] s.size (fun n v6 v4 v5 wr => Below w.heap.size w wr ∧ ∃ (i f : Nat) (a : Option Addr) (c : Nat) (d : List ByteArray), v6 = .int .i64 i ∧ v5 = .int .i64 f ∧ v4 = .slice a d.length c ∧ i ≤ s.size + 1 ∧ d.length ≤ 16 ∧ (i ≤ s.size → f ≤ i) ∧ Hid (n = s.size + 1 - i ∧ wr.ownsRow w.heap.size 9 1 (.slice a d.length c) d.length (strs d)) ∧ Hid ((i ≤ s.size ∧ (47 : UInt8) ∉ (s.data.toList.drop f).take (i - f) ∧ chk d ((pieces (s.data.toList.drop f)).map B) = ANS) ∨ (i = s.size + 1 ∧ some d = ANS)))
  case atStart => exact ⟨Below.refl _ _, 1, 1, none, 0, [], rfl, rfl, rfl, by omega, by simp, fun _ => Nat.le_refl _, ⟨by omega, rfl, .inl ⟨rfl, rfl⟩⟩, .inl ⟨by omega, by simp, HA.out⟩⟩
  case round =>
    obtain ⟨hb, i, f, a, c, d, rfl, rfl, rfl, hi1, hdl, hfi, hn, hc⟩ := hrel
    by_cases hlt : i ≤ s.size
    · have hf := hfi hlt
      have hlt2 : (i : Int) ≤ (s.size : Int) := by omega
      have Hc : Hid ((47 : UInt8) ∉ (s.data.toList.drop f).take (i - f) ∧ chk d ((pieces (s.data.toList.drop f)).map B) = ANS) := by
        rcases hc.out with ⟨_, h⟩ | ⟨h, _⟩
        · exact h
        · omega
      clear hc hfi
      by_cases hi : i < s.size
      · have hi2 : (i : Int) < (s.size : Int) := by omega
        have hid : decide (i < s.size) = true := decide_eq_true hi
        by_cases hb47 : s[i] = 47
        · have c1 : ((s[i].toNat : Int) != 47) = false := by rw [hb47]; rfl
          have hat2 := hat.out i hi
          rw [hb47] at hat2
          obtain ⟨ps, hps⟩ : ∃ ps, (pieces (s.data.toList.drop (i + 1))).map B = ps := ⟨_, rfl⟩
          have Hk : Hid (chk d (s.extract f i :: ps) = ANS) := by
            unfold Hid
            rw [extract_B, ← hps, ← Hc.out.2, piece_mid hf hat2 Hc.out.1]; rfl
          have Hnx : Hid (chk (d ++ [s.extract f i]) ps = ANS → (i + 1 ≤ s.size ∧ (47 : UInt8) ∉ (s.data.toList.drop (i + 1)).take (i + 1 - (i + 1)) ∧ chk (d ++ [s.extract f i]) ((pieces (s.data.toList.drop (i + 1))).map B) = ANS) ∨ (i + 1 = s.size + 1 ∧ some (d ++ [s.extract f i]) = ANS)) := fun h => .inl ⟨by omega, by simp, by rw [hps]; exact h⟩
          clear hat2 hps hb47
          have Hb := Lib.hid hb
          have hf2 : (f : Int) ≤ (i : Int) := by omega
          clear hb
          go_wp2_with fail
          refine (refname_any _ (s.extract f i)).mono ?_
          rintro e w1 ⟨rfl, hb1⟩
          have Hb1 := Lib.hid (Hb.out.trans (hb1.mono Hb.out.size))
          have Hown1 : Hid (w1.ownsRow w.heap.size 9 1 (.slice a d.length c) d.length (strs d)) := owns_below hn.out.2 hb1
          clear hb1
          cases hnm : isName (s.extract f i) with
          | false =>
            have E : Hid (ANS = none) := by unfold Hid; rw [← Hk.out]; unfold chk; rw [hnm]; rfl
            clear hnm
            go_wp2
            go_ret2
            unfold RetOpt
            rw [E.out]
            exact ⟨none, 0, rfl, .inl rfl, Nat.le_refl _, fun h => absurd rfl h, Hb1.out⟩
          | true =>
            by_cases h16 : d.length = 16
            · have E : Hid (ANS = none) := by unfold Hid; rw [← Hk.out]; unfold chk; rw [hnm, h16]; rfl
              have c16 : ((d.length : Int) == 16) = true := by rw [beq_iff_eq]; omega
              have H16 := Lib.hid h16
              clear hnm h16
              go_wp2
              go_ret2
              unfold RetOpt
              rw [E.out]
              exact ⟨none, 0, rfl, .inl rfl, Nat.le_refl _, fun h => absurd rfl h, Hb1.out⟩
            · have E : Hid (chk (d ++ [(s.extract f i)]) ps = ANS) := by
                unfold Hid; rw [← Hk.out]
                conv => rhs; unfold chk
                rw [hnm, show (d.length == 16) = false from by rw [beq_eq_false_iff_ne]; exact h16]; rfl
              have c16 : ((d.length : Int) == 16) = false := by rw [beq_eq_false_iff_ne]; omega
              have hz1 := Hb1.out.size
              have Hdl := Lib.hid (show (d ++ [(s.extract f i)]).length ≤ 16 by rw [List.length_append, List.length_cons, List.length_nil]; omega)
              clear hnm
              go_wp2_with (at_builtin; refine Go.XR.stop (fun X hX => ?_))
              refine hX.out ?_
              clear hX X
              refine wpList_plain rfl (fun K hK => ?_)
              refine append_strs w.heap.size a c d rfl (Hown1.out.alloc _) (some ⟨w1.heap.size, 0, none⟩) 1 [(s.extract f i)] rfl (Row.new _ _ _) (fun e => by cases e) (by simp; omega) (by simp; omega) ?_
              intro a' c' w2 ho2 hb2
              generalize hd2 : d ++ [(s.extract f i)] = d2 at ho2 ⊢
              rw [hd2] at Hdl E
              have Hnx2 := Hnx
              rw [hd2] at Hnx2
              go_step
              refine hK _ _ ?_
              clear hK K
              have Ho2 := Lib.hid ho2
              have Hb2 := Lib.hid ((Hb1.out.alloc hz1 _).trans hb2)
              clear ho2 hb2 hd2
              go_wp2
              go_roundg (s.size + 1 - (i + 1))
              case measure => have := hn.out.1; omega
              case rel => exact ⟨Hb2.out, i + 1, i + 1, a', c', d2, by go_num, by go_num, rfl, by omega, Hdl.out, fun _ => Nat.le_refl _, ⟨rfl, Ho2.out⟩, Hnx2.out E.out⟩
        · have c1 : ((s[i].toNat : Int) != 47) = true := by
            rw [bne_iff_ne]
            intro h
            exact hb47 (UInt8.toNat_inj.1 (by show s[i].toNat = 47; omega))
          have Hb := Lib.hid hb
          have Hno := Lib.hid (no_step hf (hat.out i hi) hb47 Hc.out.1)
          clear hb hb47
          go_wp2
          go_roundg (s.size + 1 - (i + 1))
          case measure => have := hn.out.1; omega
          case rel => exact ⟨Hb.out, i + 1, f, a, c, d, by go_num, rfl, rfl, by omega, hdl, fun _ => by omega, ⟨rfl, hn.out.2⟩, .inl ⟨by omega, Hno.out, Hc.out.2⟩⟩
      · have hie : i = s.size := by omega
        have hid : decide (i < s.size) = false := decide_eq_false hi
        have hi3 : ¬ (i : Int) < (s.size : Int) := by omega
        obtain ⟨ps, hps⟩ : ∃ ps, ([] : List ByteArray) = ps := ⟨_, rfl⟩
        have Hk : Hid (chk d (s.extract f i :: ps) = ANS) := by
          unfold Hid
          have hno := Hc.out.1
          rw [hie, ← Hsz.out] at hno
          rw [extract_B, ← hps, ← Hc.out.2, piece_end hno, hie, Hsz.out]; rfl
        have Hnx : Hid (chk (d ++ [s.extract f i]) ps = ANS → (i + 1 ≤ s.size ∧ (47 : UInt8) ∉ (s.data.toList.drop (i + 1)).take (i + 1 - (i + 1)) ∧ chk (d ++ [s.extract f i]) ((pieces (s.data.toList.drop (i + 1))).map B) = ANS) ∨ (i + 1 = s.size + 1 ∧ some (d ++ [s.extract f i]) = ANS)) := fun h => .inr ⟨by omega, by rw [← h, ← hps]; rfl⟩
        clear hps hie
        have Hb := Lib.hid hb
        have hf2 : (f : Int) ≤ (i : Int) := by omega
        clear hb
        go_wp2_with fail
        refine (refname_any _ (s.extract f i)).mono ?_
        rintro e w1 ⟨rfl, hb1⟩
        have Hb1 := Lib.hid (Hb.out.trans (hb1.mono Hb.out.size))
        have Hown1 : Hid (w1.ownsRow w.heap.size 9 1 (.slice a d.length c) d.length (strs d)) := owns_below hn.out.2 hb1
        clear hb1
        cases hnm : isName (s.extract f i) with
        | false =>
          have E : Hid (ANS = none) := by unfold Hid; rw [← Hk.out]; unfold chk; rw [hnm]; rfl
          clear hnm
          go_wp2
          go_ret2
          unfold RetOpt
          rw [E.out]
          exact ⟨none, 0, rfl, .inl rfl, Nat.le_refl _, fun h => absurd rfl h, Hb1.out⟩
        | true =>
          by_cases h16 : d.length = 16
          · have E : Hid (ANS = none) := by unfold Hid; rw [← Hk.out]; unfold chk; rw [hnm, h16]; rfl
            have c16 : ((d.length : Int) == 16) = true := by rw [beq_iff_eq]; omega
            have H16 := Lib.hid h16
            clear hnm h16
            go_wp2
            go_ret2
            unfold RetOpt
            rw [E.out]
            exact ⟨none, 0, rfl, .inl rfl, Nat.le_refl _, fun h => absurd rfl h, Hb1.out⟩
          · have E : Hid (chk (d ++ [(s.extract f i)]) ps = ANS) := by
              unfold Hid; rw [← Hk.out]
              conv => rhs; unfold chk
              rw [hnm, show (d.length == 16) = false from by rw [beq_eq_false_iff_ne]; exact h16]; rfl
            have c16 : ((d.length : Int) == 16) = false := by rw [beq_eq_false_iff_ne]; omega
            have hz1 := Hb1.out.size
            have Hdl := Lib.hid (show (d ++ [(s.extract f i)]).length ≤ 16 by rw [List.length_append, List.length_cons, List.length_nil]; omega)
            clear hnm
            go_wp2_with (at_builtin; refine Go.XR.stop (fun X hX => ?_))
            refine hX.out ?_
            clear hX X
            refine wpList_plain rfl (fun K hK => ?_)
            refine append_strs w.heap.size a c d rfl (Hown1.out.alloc _) (some ⟨w1.heap.size, 0, none⟩) 1 [(s.extract f i)] rfl (Row.new _ _ _) (fun e => by cases e) (by simp; omega) (by simp; omega) ?_
            intro a' c' w2 ho2 hb2
            generalize hd2 : d ++ [(s.extract f i)] = d2 at ho2 ⊢
            rw [hd2] at Hdl E
            have Hnx2 := Hnx
            rw [hd2] at Hnx2
            go_step
            refine hK _ _ ?_
            clear hK K
            have Ho2 := Lib.hid ho2
            have Hb2 := Lib.hid ((Hb1.out.alloc hz1 _).trans hb2)
            clear ho2 hb2 hd2
            go_wp2
            go_roundg (s.size + 1 - (i + 1))
            case measure => have := hn.out.1; omega
            case rel => exact ⟨Hb2.out, i + 1, i + 1, a', c', d2, by go_num, by go_num, rfl, by omega, Hdl.out, fun _ => Nat.le_refl _, ⟨rfl, Ho2.out⟩, Hnx2.out E.out⟩
    · have hge : ¬ (i : Int) ≤ (s.size : Int) := by omega
      have E : Hid (some d = ANS) := by
        rcases hc.out with ⟨h, _⟩ | ⟨_, h⟩
        · omega
        · exact h
      have Hb := Lib.hid hb
      clear hb hc hfi
      go_wp2
      go_ret2
      unfold RetOpt
      rw [← E.out]
      exact ⟨a, c, rfl, Row.owned hn.out.2, owns_le hn.out.2, owns_some hn.out.2, Hb.out⟩
end Go.Proofs.YtdillaedlpplhaaDoor
