/- Walks and laws that the statements of this seat share, part 3. -/
import Derived.Laws.IdiomCopy
import Derived.Laws.CopyRow
import Derived.Lib.AppendStr
import Derived.IntWalk
import Derived.Laws.IdiomStrings
import Derived.Laws.ResultCell
import Derived.Test.YtoahjhogjjdkhaaGreatDoorQb
/- The walks over codec.Put and Text. -/
namespace Go.NamesPure
open Go
def byU (b : UInt8) : Value := .int .u8 (b.toNat : Int)
def byL (b : UInt8) : List Value := [byU b]
theorem byL_len (b : UInt8) : (byL b).length = 1 := rfl
theorem byL_one (b : UInt8) : ∀ v ∈ byL b, v.oneCell' = true := fun v hv => by
  obtain rfl : v = byU b := by simpa [byL] using hv
  rfl
theorem flat_byL (l : List UInt8) : l.flatMap byL = l.map byU := by
  induction l with
  | nil => rfl
  | cons x l ih => rw [List.flatMap_cons, ih]; rfl
theorem shr_byte (n k : Nat) : Value.int .u8 ((n : Int) / 2 ^ (8 * k) % 256) = byU (UInt8.ofNat (n / 256 ^ k)) := by
  unfold byU
  have e1 : ((2 : Int) ^ (8 * k)) = ((256 ^ k : Nat) : Int) := by
    rw [Int.pow_mul]; simp
  rw [e1]
  congr 1
end Go.NamesPure
namespace Go.XR
open Go Go.RowKit
theorem heap_setCells {b : Nat} {T : TypeId} : ∀ (vs : List Value) (o : Nat) (w : World) (cs : List Value), w.heap[b]? = some (.cells cs.toArray T (0, 0)) → o + vs.length ≤ cs.length →
    (w.setCells b o vs).heap[b]? = some (.cells (cs.take o ++ vs ++ cs.drop (o + vs.length)).toArray T (0, 0))
  | [], o, w, cs, h, _ => by simpa [World.setCells] using h
  | v :: r, o, w, cs, h, hl => by
    rw [List.length_cons] at hl
    have h1 : (w.setCell ⟨b, o, none⟩ v).heap[b]? = some (.cells (cs.set o v).toArray T (0, 0)) := by
      have := Go.Proofs.YtoahjhogjjdkhaaGreatDoor.heap_setCell_at (i := o) (u := v) h
      simpa using this
    have h2 := heap_setCells r (o + 1) (w.setCell ⟨b, o, none⟩ v) (cs.set o v) h1 (by rw [List.length_set]; omega)
    rw [list_seg_step cs o v r (by omega)] at h2
    rw [List.length_cons]
    exact h2
theorem below_cells {B : Nat} {a : World} {b : Nat} (hb : B ≤ b) : ∀ (vs : List Value) (o : Nat) {w : World}, Below B a w → Below B a (w.setCells b o vs)
  | [], _, _, h => h
  | v :: r, o, _, h => below_cells hb r (o + 1) (h.setCell (p := ⟨b, o, none⟩) hb v)
/-- make of so many elements, with room for more -/
theorem make_cap {P : Program} (t e : TypeId) (z : Value) (ht : P.underlying t = some (.slice e))
    (hinfo : (P.info? e).map (fun i => (i.size, i.bytes, i.zero.map (·.cells.toList))) = some (1, 1, some [z])) (n c : Nat) (hnc : n ≤ c) (hc : c ≤ 281474976710656) :
    ∃ C : Array Value, C.toList = List.replicate c z ∧ ∀ w, (Instr.makeSlice t (.int .i64 n) (.int .i64 c)).run P w = .ok (.slice (some ⟨w.heap.size, 0, none⟩) n c) (w.alloc (.cells C e)) := by
  cases hi : P.info? e with
  | none => rw [hi] at hinfo; cases hinfo
  | some i =>
    rw [hi] at hinfo
    simp at hinfo
    obtain ⟨h1, h2, h3⟩ := hinfo
    obtain ⟨y, hy, hyc⟩ := h3
    refine ⟨madeCells y.cells (c * 1), ?_, fun w => ?_⟩
    · have h := made_flat (enc := fun v : Value => [v]) (k := 1) (fun _ => rfl) z y.cells (by simpa using hyc) c
      rw [h]
      induction c with
      | zero => rfl
      | succ c _ => simp [List.flatMap_replicate]
    have h := run_make (P := P) w t e i y ht hi hy .i64 .i64 n c (by omega) (by omega) (by rw [h2]; omega) (by omega)
    rw [Int.toNat_natCast, Int.toNat_natCast, h1] at h
    exact h
theorem copy_fresh {P : Program} (W : World) (b : Nat) (T t ty : TypeId) (cs : List Value) (a : Option Addr) (c dCap : Nat) (l : List UInt8) (hR : Row W a (l.map Go.NamesPure.byU)) (hb : W.heap[b]? = some (.cells cs.toArray T (0, 0))) (hl : l.length ≤ cs.length)
    (ht : P.underlying t = some (.slice T)) (hs : (P.info? T).map (·.size) = some 1) :
    (Builtin.copy_ #[t, t] ty #[.slice (some ⟨b, 0, none⟩) l.length dCap, .slice a l.length c]).run P W = .ok (.int .i64 l.length) (W.setCells b 0 (l.map Go.NamesPure.byU)) := by
  rcases hR with h | ⟨g, o, rfl, h⟩
  · have h0 : l = [] := by simpa using h
    subst h0
    exact run_copy_none (P := P) W t t ty T _ _ _ _ _ _ ht hs (by simp)
  · have hlen : (l.map Go.NamesPure.byU).length = l.length := by simp
    have hr := run_copy_cells (P := P) W t t ty T b 0 l.length dCap ⟨g, o, none⟩ l.length c (l.map Go.NamesPure.byU) ht hs (by rw [hlen]; exact (Nat.min_self _).symm)
      (fun j v hj => by rw [show (⟨g, o, none⟩ : Addr).add j = ⟨g, o + j, none⟩ by simp [Addr.add]]; exact h j v hj)
      (fun j hj => by
        rw [hlen] at hj
        rw [Nat.zero_add, Go.Proofs.YtoahjhogjjdkhaaGreatDoor.cells_of hb, List.getElem?_toArray, List.getElem?_eq_getElem (by omega)]; rfl)
      (fun j hj => by rw [Nat.zero_add]; simp [World.frozen?, hb])
      (fun v hv => by obtain ⟨x, _, rfl⟩ := List.mem_map.1 hv; rfl)
    rw [hlen] at hr
    exact hr
end Go.XR
namespace Go.Proofs.YtoahjhogjjdkhaaGreatDoor
open Go.RowKit Go.XR Go.TreePure Go.NamesPure
/-- bytes in new memory -/
def RetBytes (w : World) (L : List UInt8) (e : Ending) (w' : World) : Prop :=
  ∃ a c, e = .returned (.slice a L.length c) ∧ w'.ownsRow w.heap.size 5 1 (.slice a L.length c) L.length (L.map byU) ∧ Below w.heap.size w w'
set_option maxHeartbeats 2000000 in
set_option maxRecDepth 100000 in
theorem cput_any (w : World) (a : Option Addr) (c : Nat) (l : List UInt8) (hR : Row w a (l.map byU)) (hl : l.length ≤ 2^40) (n m : Nat) (hn : n < 18446744073709551616) (hm : m ≤ 8) :
    Calls Tryz.prog 39 #[.slice a l.length c, .int .u64 n, .int .i64 m] w (RetBytes w (l ++ be n m)) := by
  have HR := Lib.hid hR
  clear hR
  have hm1 : min (m : Int) 8 = m := by omega
  have hm2 : max 0 (m : Int) = m := by omega
  obtain ⟨C, hC, hmk⟩ := make_cap (P := Tryz.prog) 30 5 (.int .u8 0) Tryz.underlying30 (by kernel_rfl) l.length (l.length + m) (by omega) (by omega)
  rw [show ((l.length + m : Nat) : Int) = (l.length : Int) + (m : Int) by omega] at hmk
  have hCa : (List.replicate (l.length + m) (Value.int .u8 0)).toArray = C := by rw [← hC]
  obtain ⟨W0, hW0⟩ : ∃ W0, w.alloc (.cells C 5) = W0 := ⟨_, rfl⟩
  have hb0 : Below w.heap.size w W0 := by rw [← hW0]; exact (Below.refl _ _).alloc (Nat.le_refl _) _
  have hh0 : W0.heap[w.heap.size]? = some (.cells (List.replicate (l.length + m) (Value.int .u8 0)).toArray 5 (0, 0)) := by rw [← hW0, hCa]; exact heap_new w _
  have hcp := copy_fresh (P := Tryz.prog) W0 w.heap.size 5 30 3 (List.replicate (l.length + m) (.int .u8 0)) a c (l.length + m) l (HR.out.below hb0) hh0 (by rw [List.length_replicate]; omega) Tryz.underlying30 (by kernel_rfl)
  have hh1 := heap_setCells (l.map byU) 0 W0 _ hh0 (by rw [List.length_replicate, List.length_map]; omega)
  have hb1 := below_cells (Nat.le_refl w.heap.size) (l.map byU) 0 hb0
  obtain ⟨W1, hW1⟩ : ∃ W1, W0.setCells w.heap.size 0 (l.map byU) = W1 := ⟨_, rfl⟩
  rw [hW1] at hcp hh1 hb1
  have HO : Hid (W1.ownsRow w.heap.size 5 1 (.slice (some ⟨w.heap.size, 0, none⟩) l.length (l.length + m)) l.length (l.map byU)) := by
    refine ⟨by rw [List.length_map, Nat.mul_one], .inr ⟨w.heap.size, l.length + m, _, rfl, Nat.le_refl _, hh1, by omega, by unfold maxLen; omega, ?_, ?_⟩⟩
    · simp
    · simp
  have Hb1 := Lib.hid hb1
  clear hC hCa hb0 hh0 hh1 hb1 hW1
  go_enter Tryz.func39, Tryz.ntmps39
  go_wp2
  clear hcp hmk hW0 hm1 hm2
  have HO2 : Hid (W1.ownsRow w.heap.size 5 1 (.slice (some ⟨w.heap.size, 0, none⟩) (l ++ (be n m).take 0).length (l.length + m)) (l ++ (be n m).take 0).length ((l ++ (be n m).take 0).flatMap byL)) := by
    unfold Hid
    rw [List.take_zero, List.append_nil, flat_byL]; exact HO.out
  go_loopg [7, 8] m (fun k v s wr => ∃ (j : Nat) (o : Option Addr) (cc : Nat) (d : List UInt8), j ≤ m ∧ v = .slice o d.length cc ∧ s = .int .i64 (8 * ((m : Int) - 1 - j)) ∧ Hid (k = m - j ∧ Below w.heap.size w wr ∧ d = l ++ (be n m).take j ∧ wr.ownsRow w.heap.size 5 1 (.slice o d.length cc) d.length (d.flatMap byL)))
  case atStart => exact ⟨0, _, _, l ++ (be n m).take 0, Nat.zero_le _, by rw [List.take_zero, List.append_nil], by go_num, rfl, Hb1.out, rfl, HO2.out⟩
  case round =>
    obtain ⟨j, o, cc, d, hj, rfl, rfl, hr⟩ := hrel
    have Hm := Lib.hid hr.out.1
    have Hbw := Lib.hid hr.out.2.1
    have Hd := Lib.hid hr.out.2.2.1
    have Ho := Lib.hid hr.out.2.2.2
    clear hr
    by_cases hlt : j < m
    · have hge : (0 : Int) ≤ 8 * ((m : Int) - 1 - j) := by omega
      obtain ⟨s, hs⟩ : ∃ s : Nat, 8 * ((m : Int) - 1 - j) = s := ⟨8 * (m - 1 - j), by omega⟩
      have Hs : Hid (s = 8 * (m - 1 - j)) := by unfold Hid; omega
      rw [hs]
      have hs64 : s ≤ 56 := by omega
      have hdl : d.length ≤ 2^40 + 8 := by
        rw [Hd.out, List.length_append, List.length_take]; omega
      have hz4 := Hbw.out.size
      have hv : Value.int .u8 ((n : Int) / 2 ^ s % 256) = byU (UInt8.ofNat (n / 256 ^ (m - 1 - j))) := by rw [Hs.out]; exact shr_byte n _
      have Hv := Lib.hid hv
      clear hs hge hv
      have hge : (0 : Int) ≤ (s : Int) := by omega
      go_wp2_with (at_builtin; refine Go.XR.stop (fun X hX => ?_))
      refine hX.out ?_
      clear hX X
      rw [Hv.out]
      refine wpList_plain rfl (fun K hK => ?_)
      refine append_enc (P := Tryz.prog) byL 1 1 byL_len byL_one 5 Tryz.underlying30 (by kernel_rfl) (by decide) w.heap.size o cc d rfl (Ho.out.alloc _) (some ⟨wr.heap.size, 0, none⟩) 1 [UInt8.ofNat (n / 256 ^ (m - 1 - j))] rfl (Row.new _ _ _) (fun e => by cases e) (by simp; omega) (by unfold maxLen; simp; omega) (by simp; omega) ?_
      intro a' c' w2 ho2 hb2 _ _
      obtain ⟨d2, hd2⟩ : ∃ d2, d ++ [UInt8.ofNat (n / 256 ^ (m - 1 - j))] = d2 := ⟨_, rfl⟩
      have Hd2 : Hid (d2 = l ++ (be n m).take (j + 1)) := by
        unfold Hid
        rw [← hd2, Hd.out, be_take n m j hlt, List.append_assoc]
      rw [hd2] at ho2 ⊢
      have Ho2 := Lib.hid ho2
      have Hb2 := Lib.hid ((Hbw.out.alloc hz4 _).trans hb2)
      clear ho2 hb2 hd2
      go_step
      refine hK _ _ ?_
      clear hK K
      go_wp2
      go_roundg (m - (j + 1))
      case measure => have := Hm.out; omega
      case rel => exact ⟨j + 1, a', c', d2, by omega, rfl, by have := Hs.out; congr 1; omega, rfl, Hb2.out, Hd2.out, Ho2.out⟩
    · have hge : ¬ (0 : Int) ≤ 8 * ((m : Int) - 1 - j) := by omega
      have Hd2 : Hid (d = l ++ be n m) := by
        unfold Hid
        rw [Hd.out, List.take_of_length_le (by rw [be_length]; omega)]
      clear hlt
      go_wp2
      go_ret
      refine ⟨o, cc, by rw [← Hd2.out]; rfl, ?_, Hbw.out⟩
      have h := Ho.out
      rw [flat_byL] at h
      rw [← Hd2.out]; exact h
end Go.Proofs.YtoahjhogjjdkhaaGreatDoor

/- The walk over codec.Text. -/
namespace Go.XR
open Go Go.RowKit
/-- an append whose run is known by an equation -/
theorem wp_append_run {P : Program} (w : World) {o : Oper} {a : Act} {K : Act → World → Prop} {Q : Exit → Act → World → Prop} (d s : Operand) (t t' : TypeId)
    (ho : o.op = .call { callee := .builtin .append, args := #[d, s], argTypes := #[t, t'] }) (v u : Value) (hd : a.eval d = v) (hs : a.eval s = u) {v' : Value} {w' : World}
    (hr : (Builtin.append_ #[t, t'] o.type #[v, u]).run P w = .ok v' w') (h : K (a.put o.dst v') w') : o.wp P a w K Q := by
  unfold Oper.wp execOp
  simp only [ho, resolve, invoke, builtin, Sem.run_bind, Sem.run_pure, Result.andThen_ok, List.map_toArray, List.map_cons, List.map_nil, hd, hs, hr]
  exact h
end Go.XR
namespace Go.Proofs.YtoahjhogjjdkhaaGreatDoor
open Go.RowKit Go.XR Go.TreePure Go.NamesPure
theorem info_u8 : (Tryz.prog.info? 5).map (fun i => (i.zero, i.size, i.bytes)) = some (some (.int .u8 0), 1, 1) := by kernel_rfl
theorem owns_slice {w : World} {B : Nat} {e : TypeId} {k : Nat} {v : Value} {n : Nat} {xs : List Value} (h : w.ownsRow B e k v n xs) : ∃ a c, v = .slice a n c := by
  rcases h.2 with ⟨h1, h2⟩ | ⟨g, cap, cur, h1, _⟩
  · exact ⟨none, 0, by rw [h1, h2]⟩
  · exact ⟨_, _, h1⟩
set_option maxHeartbeats 2000000 in
set_option maxRecDepth 100000 in
theorem ctext_any (w : World) (a : Option Addr) (c : Nat) (l : List UInt8) (hR : Row w a (l.map byU)) (hl : l.length ≤ 2^40) (s : ByteArray) (hs : s.size ≤ 2^40) :
    Calls Tryz.prog 41 #[.slice a l.length c, .string s] w (RetBytes w (l ++ Go.NamesPure.textB s)) := by
  obtain ⟨i0, hi, hz0, hz1, hz2⟩ := info_parts info_u8
  have HR := Lib.hid hR
  have Hi : Hid (Tryz.prog.info? 5 = some i0 ∧ i0.zero = some (.int .u8 0) ∧ i0.size = 1 ∧ i0.bytes = 1) := ⟨hi, hz0, hz1, hz2⟩
  have Hs := Lib.hid hs
  have hs63 : ¬ (9223372036854775807 < s.size) := by omega
  clear hi hz0 hz1 hz2 hR
  go_enter Tryz.func41, Tryz.ntmps41
  go_wp2_with fail
  refine (cput_any w a c l HR.out hl s.size 4 (by omega) (by omega)).mono ?_
  rintro e w1 ⟨o, cc, rfl, ho, hb⟩
  obtain ⟨v', w2, hap, hown, hgr, -⟩ := Lib.run_append_own_string (P := Tryz.prog) (w := w1) w.heap.size 30 9 30 5 i0 Tryz.underlying30 Tryz.underlying9 Hi.out.1 Hi.out.2.1 Hi.out.2.2.1 Hi.out.2.2.2 (.slice o (l ++ be s.size 4).length cc) (l ++ be s.size 4).length ((l ++ be s.size 4).map byU) ho s (by rw [List.length_append, be_length]; unfold maxLen; omega) (by rw [List.length_append, be_length]; omega) hb.size
  have e1 : (l ++ Go.NamesPure.textB s).length = (l ++ be s.size 4).length + s.size := by
    rw [List.length_append, Go.NamesPure.textB_length, List.length_append, be_length]; omega
  have e2 : (l ++ Go.NamesPure.textB s).map byU = (l ++ be s.size 4).map byU ++ Lib.strCells s := by
    unfold Go.NamesPure.textB Lib.strCells
    rw [← List.append_assoc, List.map_append (l₁ := l ++ be s.size 4)]
    rfl
  have Hbb := Lib.hid (hb.trans (grown_below hgr ho hb.size))
  rw [← e1, ← e2] at hown
  obtain ⟨a', c', rfl⟩ := owns_slice hown
  have Ho := Lib.hid hown
  have hz : Hid (∃ L1 L2, L1 = l ++ be s.size 4 ∧ L2 = l ++ Go.NamesPure.textB s) := ⟨_, _, rfl, rfl⟩
  clear hown hgr ho hb e1 e2
  obtain ⟨L1, hL1⟩ : ∃ L1, l ++ be s.size 4 = L1 := ⟨_, rfl⟩
  obtain ⟨L2, hL2⟩ : ∃ L2, l ++ Go.NamesPure.textB s = L2 := ⟨_, rfl⟩
  rw [hL1, hL2] at hap
  rw [hL1]
  rw [hL2] at Ho
  have HL2 := Lib.hid hL2
  clear hL1 hL2 hz
  have Hap := Lib.hid hap
  clear hap
  go_wp2_with (at_builtin; refine Go.XR.stop (fun X hX => ?_))
  refine hX.out ?_
  clear hX X
  refine wpList_plain rfl (fun K hK => ?_)
  refine wp_append_run w1 (.tmp 9) (.tmp 10) 30 9 rfl _ _ rfl rfl Hap.out ?_
  refine hK _ _ ?_
  clear hK K
  go_wp2
  go_ret
  rw [HL2.out]
  exact ⟨a', c', rfl, Ho.out, Hbb.out⟩
end Go.Proofs.YtoahjhogjjdkhaaGreatDoor

/- The walks over codec's Reader. -/
namespace Go.Proofs.YtoahjhogjjdkhaaGreatDoor
open Go.RowKit Go.XR Go.NamesPure Go.TreePure
def RetU (w : World) (z : Nat) (e : Ending) (w' : World) : Prop := e = .returned (.int .u64 (z : Int)) ∧ Below w.heap.size w w'
theorem pow64 : (2 : Nat) ^ 64 = 18446744073709551616 := by decide
theorem byte_or (n c : Nat) (hc : c < 256) (h : n * 256 + c < 18446744073709551616) : bits .or .u64 (IntKind.u64.wrap ((n : Int) * 256)) (IntKind.u64.wrap (c : Int)) = ((n * 256 + c : Nat) : Int) := by
  rw [IntWalk.u64_in _ (by omega), IntWalk.u64_in _ (by omega)]
  have e := Nat.two_pow_add_eq_or_of_lt (i := 8) (b := c) (by omega) n
  have a1 : BitVec.ofInt 64 ((n : Int) * 256) = BitVec.ofNat 64 (n * 256) := by
    rw [show (n : Int) * 256 = ((n * 256 : Nat) : Int) by omega, BitVec.ofInt_natCast]
  have a2 : BitVec.ofInt 64 (c : Int) = BitVec.ofNat 64 c := BitVec.ofInt_natCast ..
  have h1 : n * 256 < 2 ^ 64 := Nat.lt_of_le_of_lt (Nat.le_add_right _ c) (pow64 ▸ h)
  have h2 : c < 2 ^ 64 := Nat.lt_of_le_of_lt (Nat.le_add_left _ (n * 256)) (pow64 ▸ h)
  have a3 : (BitVec.ofNat 64 (n * 256) ||| BitVec.ofNat 64 c).toNat = n * 256 + c := by
    rw [BitVec.toNat_or, BitVec.toNat_ofNat, BitVec.toNat_ofNat, Nat.mod_eq_of_lt h1, Nat.mod_eq_of_lt h2, Nat.mul_comm n 256]
    exact e.symm
  clear h1 h2 e
  show IntKind.u64.wrap ((BitVec.ofInt 64 ((n : Int) * 256) ||| BitVec.ofInt 64 (c : Int)).toNat : Int) = _
  rw [a1, a2, a3]
  exact IntWalk.u64_in _ (by omega)
theorem num_take (l : List UInt8) {k : Nat} (h : k < l.length) : num (l.take (k + 1)) = num (l.take k) * 256 + l[k].toNat := by
  rw [List.take_succ_eq_append_getElem h, num, List.foldl_append]; rfl
theorem num_small (l : List UInt8) (h : l.length ≤ 8) : num l < 18446744073709551616 := by
  have h1 := num_lt l
  have h2 : 256 ^ l.length ≤ 256 ^ 8 := Nat.pow_le_pow_right (by omega) h
  have h3 : (256 : Nat) ^ 8 = 18446744073709551616 := by decide
  omega
set_option maxHeartbeats 1000000 in
set_option maxRecDepth 100000 in
theorem number_any (w : World) (a : Option Addr) (c : Nat) (l : List UInt8) (hR : Row w a (l.map byU)) (hl : l.length ≤ 8) :
    Calls Tryz.prog 116 #[.slice a l.length c] w fun e w' => e = .returned (.int .u64 (num l : Nat)) ∧ w' = w := by
  have HR := Lib.hid hR
  clear hR
  go_enter Tryz.func116, Tryz.ntmps116
  go_wp2
  go_loopg [8, 3] l.length (fun m i s wr => ∃ k : Nat, k ≤ l.length ∧ i = .int .i64 k ∧ s = .int .u64 (num (l.take k) : Nat) ∧ w = wr ∧ Hid (m = l.length - k))
  case atStart => exact ⟨0, Nat.zero_le _, rfl, rfl, rfl, rfl⟩
  case round =>
    obtain ⟨k, hk, rfl, rfl, rfl, hm⟩ := hrel
    by_cases hlt : k < l.length
    · have hi1 : (k : Int) < (l.length : Int) := by omega
      obtain ⟨g, o, rfl, c0⟩ := HR.out.get (j := k) (u := byU l[k]) (by simp [hlt])
      have c1 : w.cell? ⟨g, o + k, none⟩ = some (.int .u8 (l[k].toNat : Int)) := c0
      have hs := num_small (l.take (k + 1)) (by rw [List.length_take]; omega)
      rw [num_take l hlt] at hs
      have Hb := Lib.hid (byte_or (num (l.take k)) l[k].toNat l[k].toNat_lt hs)
      have Hn := Lib.hid (num_take l hlt)
      clear c0 hs
      go_wp2
      go_roundg (l.length - (k + 1))
      case measure => have := hm.out; omega
      case rel => exact ⟨k + 1, by omega, by go_num, by rw [Hb.out, Hn.out], rfl, rfl⟩
    · have hge : ¬ (k : Int) < (l.length : Int) := by omega
      have hkl : l.take k = l := List.take_of_length_le (by omega)
      have Hkl := Lib.hid hkl
      clear hkl
      go_wp2
      go_ret
      refine ⟨?_, rfl⟩
      show Ending.returned (.int .u64 (num (l.take k) : Nat)) = _
      rw [Hkl.out]
theorem Row.drop {w : World} {g o : Nat} {xs : List Value} (h : Row w (some ⟨g, o, none⟩) xs) (k : Nat) : Row w (some ⟨g, o + k, none⟩) (xs.drop k) := by
  rcases h with rfl | ⟨g', o', he, h⟩
  · rw [List.drop_nil]; exact .inl rfl
  · cases he
    refine .inr ⟨g, o + k, rfl, fun j u hj => ?_⟩
    rw [List.getElem?_drop] at hj
    have := h (k + j) u hj
    rwa [← Nat.add_assoc] at this
theorem _root_.Go.XR.Row.alloc' {w : World} {a : Option Addr} {xs : List Value} (h : Row w a xs) (o : Obj) : Row (w.alloc o) a xs := h.below ((Below.refl _ _).alloc (Nat.le_refl _) _)
theorem addr_add (g o m : Nat) : (⟨g, o, none⟩ : Addr).add m = ⟨g, o + m, none⟩ := by unfold Addr.add; split <;> simp_all
/-- how a reader lies: the bytes that are left, the fault -/
def RdAt (w : World) (r q : Nat) (b : List UInt8) (f : Int) : Prop :=
  ∃ a c, w.heap[r]? = some (.cells #[.slice a b.length c, .int .i64 f] 166 (0, 0)) ∧ Row w a (b.map byU) ∧ b.length ≤ c ∧ ((a = none ∧ c = 0) ∨ ∃ o, a = some ⟨q, o, none⟩ ∧ q ≠ r)
theorem RdAt.lt {w : World} {r q : Nat} {b : List UInt8} {f : Int} (h : RdAt w r q b f) : r < w.heap.size := by
  obtain ⟨a, c, h, _⟩ := h; exact blk_lt h
theorem RdAt.below {w w' : World} {r q : Nat} {b : List UInt8} {f : Int} (h : RdAt w r q b f) (hb : Below w.heap.size w w') : RdAt w' r q b f := by
  obtain ⟨a, c, h1, h2, h3⟩ := h
  exact ⟨a, c, (hb.block r (blk_lt h1)).trans h1, h2.below hb, h3⟩
theorem RdAt.cells {w : World} {r q : Nat} {b : List UInt8} {f : Int} (h : RdAt w r q b f) : ∃ a c, w.cell? ⟨r, 0, none⟩ = some (.slice a b.length c) ∧ w.cell? ⟨r, 1, none⟩ = some (.int .i64 f) ∧ w.frozen? ⟨r, 0, none⟩ = false ∧ w.frozen? ⟨r, 1, none⟩ = false ∧ Row w a (b.map byU) ∧ b.length ≤ c ∧ ((a = none ∧ c = 0) ∨ ∃ o, a = some ⟨q, o, none⟩ ∧ q ≠ r) := by
  obtain ⟨a, c, h1, h2, h3⟩ := h
  exact ⟨a, c, cells_of h1 0, cells_of h1 1, frozen_of_row w r 0 _ _ h1, frozen_of_row w r 1 _ _ h1, h2, h3⟩
theorem RdAt.fault {w : World} {r q : Nat} {b : List UInt8} {f : Int} (h : RdAt w r q b f) (f' : Int) : RdAt (w.setCell ⟨r, 1, none⟩ (.int .i64 f')) r q b f' := by
  obtain ⟨a, c, h1, h2, h3, h4⟩ := h
  refine ⟨a, c, ?_, h2.but (But.setCell (S := [r]) (But.refl _ _) (.inl (by simp)) _) (fun g o e hm => ?_), h3, h4⟩
  · have := heap_setCell_at (i := 1) (u := .int .i64 f') h1
    simpa using this
  · rcases h4 with ⟨h5, _⟩ | ⟨o', h5, h6⟩
    · rw [h5] at e; cases e
    · rw [h5] at e; cases e; simp at hm; exact h6 hm
theorem RdAt.rest {w : World} {r q : Nat} {b b' : List UInt8} {f : Int} (h : RdAt w r q b f) (a : Option Addr) (c : Nat) (hR : Row w a (b'.map byU)) (hc : b'.length ≤ c) (ha : (a = none ∧ c = 0) ∨ ∃ o, a = some ⟨q, o, none⟩ ∧ q ≠ r) : RdAt (w.setCell ⟨r, 0, none⟩ (.slice a b'.length c)) r q b' f := by
  obtain ⟨_, _, h1, _⟩ := h
  refine ⟨a, c, ?_, hR.but (But.setCell (S := [r]) (But.refl _ _) (.inl (by simp)) _) (fun g o e hm => ?_), hc, ha⟩
  · have := heap_setCell_at (i := 0) (u := .slice a b'.length c) h1
    simpa using this
  · rcases ha with ⟨h5, _⟩ | ⟨o', h5, h6⟩
    · rw [h5] at e; cases e
    · rw [h5] at e; cases e; simp at hm; exact h6 hm
/-- what Get takes: the number; what is left, the fault -/
def rdGet (m : Nat) (b : List UInt8) (f : Int) : Nat × List UInt8 × Int := if f = 0 then (if b.length < m then (0, b, 10) else (num (b.take m), b.drop m, 0)) else (0, b, f)
def RetGet (w : World) (r q : Nat) (x : Nat × List UInt8 × Int) (e : Ending) (w' : World) : Prop := e = .returned (.int .u64 (x.1 : Nat)) ∧ RdAt w' r q x.2.1 x.2.2 ∧ But [r] w w'
set_option maxHeartbeats 1000000 in
set_option maxRecDepth 100000 in
theorem ready_any (w : World) (r q : Nat) (b : List UInt8) (f : Int) (h : RdAt w r q b f) : Calls Tryz.prog 115 #[.pointer (some ⟨r, 0, none⟩)] w fun e w' => e = .returned (.bool (f == 0)) ∧ w' = w := by
  obtain ⟨a, c, c0, c1, f0, f1, _⟩ := h.cells
  clear h
  go_enter Tryz.func115, Tryz.ntmps115
  go_wp2
  go_ret
  exact ⟨rfl, rfl⟩
set_option maxHeartbeats 1000000 in
set_option maxRecDepth 100000 in
theorem get_any1 (w : World) (r q : Nat) (b : List UInt8) (f : Int) (h : RdAt w r q b f) (m : Nat) (hm : m ≤ 8) (hbl : b.length ≤ 2^50) : Calls Tryz.prog 59 #[.pointer (some ⟨r, 0, none⟩), .int .i64 m] w (RetGet w r q (rdGet m b f)) := by
  obtain ⟨a, c, c0, c1, f0, f1, hR, hc, ha⟩ := h.cells
  have H := Lib.hid h
  have HR := Lib.hid hR
  have Ha := Lib.hid ha
  clear h hR ha
  have hm1 : ¬ (m : Int) < 0 := by omega
  have hm2 : ¬ (8 : Int) < (m : Int) := by omega
  have e1 := beq_iff_eq (a := f) (b := (0 : Int))
  cases hf : f == 0 with
  | false =>
    have E : Hid (rdGet m b f = (0, b, f)) := by
      unfold Hid rdGet
      rw [if_neg (fun e => by rw [e1.2 e] at hf; cases hf)]
    clear e1
    go_enter Tryz.func59, Tryz.ntmps59
    go_wp2_with fail
    refine (ready_any w r q b f H.out).mono ?_
    rintro e w' ⟨rfl, rfl⟩
    rw [hf]
    clear hf
    go_wp2
    go_ret
    rw [E.out]
    exact ⟨rfl, H.out, But.refl _ _⟩
  | true =>
    have hf0 : f = 0 := e1.1 hf
    clear e1 hf
    subst hf0
    by_cases hl : b.length < m
    · have E : Hid (rdGet m b 0 = (0, b, 10)) := by unfold Hid rdGet; rw [if_pos rfl, if_pos hl]
      have hl2 : (b.length : Int) < (m : Int) := by omega
      go_enter Tryz.func59, Tryz.ntmps59
      go_wp2_with fail
      refine (ready_any w r q b 0 H.out).mono ?_
      rintro e w' ⟨rfl, rfl⟩
      go_wp2
      go_ret
      rw [E.out]
      exact ⟨rfl, H.out.fault 10, But.setCell (But.refl _ _) (.inl (by simp)) _⟩
    · have E : Hid (rdGet m b 0 = (num (b.take m), b.drop m, 0)) := by unfold Hid rdGet; rw [if_pos rfl, if_neg hl]
      have hl2 : ¬ (b.length : Int) < (m : Int) := by omega
      have hl3 : m ≤ b.length := by omega
      have hl4 : m ≤ c := by omega
      have hn : (b.take m).length = m := by rw [List.length_take]; omega
      have HN : Hid (Row w a ((b.take m).map byU)) := by unfold Hid; rw [List.map_take]; exact HR.out.take m
      have hnum := number_any w a c (b.take m) HN.out (by omega)
      rw [hn] at hnum
      have Hnum := Lib.hid hnum
      have hdl : ((b.drop m).length : Int) = (b.length : Int) - (m : Int) := by rw [List.length_drop]; omega
      have Hdl := Lib.hid hdl
      clear hn hnum hdl
      go_enter Tryz.func59, Tryz.ntmps59
      go_wp2_with fail
      refine (ready_any w r q b 0 H.out).mono ?_
      rintro e w' ⟨rfl, rfl⟩
      go_wp2_with fail
      refine (Hnum.out).mono ?_
      rintro e w' ⟨rfl, rfl⟩
      go_wp2
      · go_ret
        rw [E.out]
        have e0 : b.drop m = [] := List.drop_eq_nil_of_le (by omega)
        refine ⟨rfl, ?_, But.setCell (But.refl _ _) (.inl (by simp)) _⟩
        have := H.out.rest (b' := b.drop m) a 0 (by rw [e0]; exact .inl rfl) (by rw [e0]; exact Nat.le_refl _) (by
          rcases Ha.out with ⟨h1, _⟩ | h1
          · exact .inl ⟨h1, rfl⟩
          · exact .inr h1)
        rwa [List.length_drop] at this
      · rcases Ha.out with ⟨_, h1⟩ | ⟨o, h1, h2⟩
        · omega
        · subst h1
          go_ret
          rw [E.out]
          refine ⟨rfl, ?_, But.setCell (But.refl _ _) (.inl (by simp)) _⟩
          have := H.out.rest (b' := b.drop m) (some ⟨q, o + m, none⟩) (c - m) (by rw [List.map_drop]; exact Row.drop HR.out m) (by rw [List.length_drop]; omega) (.inr ⟨o + m, rfl, h2⟩)
          rw [List.length_drop] at this
          rw [show Option.map (fun x : Addr => x.add m) (some ⟨q, o, none⟩) = some ⟨q, o + m, none⟩ from by rw [Option.map_some, addr_add]]
          exact this
theorem fault_any (w : World) (r q : Nat) (b : List UInt8) (f : Int) (h : RdAt w r q b f) : Calls Tryz.prog 117 #[.pointer (some ⟨r, 0, none⟩)] w fun e w' => e = .returned (.int .i64 f) ∧ w' = w := by
  obtain ⟨a, c, c0, c1, f0, f1, _⟩ := h.cells
  clear h
  go_enter Tryz.func117, Tryz.ntmps117
  go_wp2
  go_ret
  exact ⟨rfl, rfl⟩
def rdEnd (b : List UInt8) (f : Int) : Int := if f = 0 then (if b = [] then 0 else 11) else f
set_option maxHeartbeats 1000000 in
set_option maxRecDepth 100000 in
theorem end_any (w : World) (r q : Nat) (b : List UInt8) (f : Int) (h : RdAt w r q b f) : Calls Tryz.prog 62 #[.pointer (some ⟨r, 0, none⟩)] w fun e w' => e = .returned (.int .i64 (rdEnd b f)) ∧ w' = w := by
  obtain ⟨a, c, c0, c1, f0, f1, hR, hc, ha⟩ := h.cells
  have H := Lib.hid h
  clear h hR ha
  have e1 := beq_iff_eq (a := f) (b := (0 : Int))
  cases hf : f == 0 with
  | false =>
    have E : Hid (rdEnd b f = f) := by
      unfold Hid rdEnd
      rw [if_neg (fun e => by rw [e1.2 e] at hf; cases hf)]
    clear e1
    go_enter Tryz.func62, Tryz.ntmps62
    go_wp2_with (first | (go_at_call 115; refine (ready_any w r q b f H.out).mono ?_; rintro e w' ⟨rfl, rfl⟩; rw [hf]; clear hf) | (go_at_call 117; refine (fault_any _ r q b f H.out).mono ?_; rintro e w' ⟨rfl, rfl⟩))
    go_ret
    rw [E.out]
    exact ⟨rfl, rfl⟩
  | true =>
    have hf0 : f = 0 := e1.1 hf
    clear e1 hf
    subst hf0
    by_cases hl : 0 < b.length
    · have E : Hid (rdEnd b 0 = 11) := by
        unfold Hid rdEnd
        rw [if_pos rfl, if_neg (fun e => by subst e; simp at hl)]
      have hl2 : 0 < (b.length : Int) := by omega
      go_enter Tryz.func62, Tryz.ntmps62
      go_wp2_with (go_at_call 115; refine (ready_any w r q b 0 H.out).mono ?_; rintro e w' ⟨rfl, rfl⟩)
      go_ret
      rw [E.out]
      exact ⟨rfl, rfl⟩
    · have E : Hid (rdEnd b 0 = 0) := by
        unfold Hid rdEnd
        rw [if_pos rfl, if_pos (List.eq_nil_of_length_eq_zero (by omega))]
      have hl2 : ¬ 0 < (b.length : Int) := by omega
      go_enter Tryz.func62, Tryz.ntmps62
      go_wp2_with (first | (go_at_call 115; refine (ready_any w r q b 0 H.out).mono ?_; rintro e w' ⟨rfl, rfl⟩) | (go_at_call 117; refine (fault_any _ r q b 0 H.out).mono ?_; rintro e w' ⟨rfl, rfl⟩))
      go_ret
      rw [E.out]
      exact ⟨rfl, rfl⟩
/-- a text of bytes -/
def strOf (l : List UInt8) : ByteArray := ⟨l.toArray⟩
theorem strOf_data (l : List UInt8) : (strOf l).data.toList = l := by simp [strOf]
theorem run_str_of_row (w : World) (a : Option Addr) (c : Nat) (l : List UInt8) (hR : Row w a (l.map byU)) : (convert 30 9 (.slice a l.length c)).run Tryz.prog w = .ok (.string (strOf l)) w := by
  rcases hR with h | ⟨g, o, rfl, h⟩
  · have h0 : l = [] := by simpa using h
    subst h0
    rw [List.length_nil, run_convert_bytes_string w 30 9 5 a 0 c Tryz.underlying30 Tryz.underlying5 Tryz.underlying9]
    cases a with
    | none => simp [Conv.bytesToString]; rfl
    | some x =>
      have hl := run_loadCells_list (P := Tryz.prog) w x [] (fun j v hj => by simp at hj)
      simp [Conv.bytesToString]
      simp at hl
      first | (rw [hl]; rfl) | rfl
  · exact run_convert_bytes_back w 30 9 5 ⟨g, o, none⟩ c l Tryz.underlying30 Tryz.underlying5 Tryz.underlying9 (fun j hj => by
      rw [addr_add]; exact h j _ (by simp [hj, byU]))
theorem run_str_at (w : World) (a : Option Addr) (c : Nat) (l : List UInt8) (hR : Row w a (l.map byU)) (n : Nat) (hn : n = l.length) : (convert 30 9 (.slice a n c)).run Tryz.prog w = .ok (.string (strOf l)) w := by
  subst hn; exact run_str_of_row w a c l hR
/-- what Text takes -/
def rdText (most : Nat) (b : List UInt8) (f : Int) : ByteArray × List UInt8 × Int :=
  if f = 0 then (if b.length < 4 then (⟨#[]⟩, b, 10) else if most < num (b.take 4) then (⟨#[]⟩, b, 4) else if b.length - 4 < num (b.take 4) then (⟨#[]⟩, b, 10) else
    (strOf ((b.drop 4).take (num (b.take 4))), (b.drop 4).drop (num (b.take 4)), 0)) else (⟨#[]⟩, b, f)
def RetText (w : World) (r q : Nat) (x : ByteArray × List UInt8 × Int) (e : Ending) (w' : World) : Prop := e = .returned (.string x.1) ∧ RdAt w' r q x.2.1 x.2.2 ∧ But [r] w w'
set_option maxHeartbeats 2000000 in
set_option maxRecDepth 100000 in
theorem text_any (w : World) (r q : Nat) (b : List UInt8) (f : Int) (h : RdAt w r q b f) (most : Nat) (hm : most ≤ 2^40) (hbl : b.length ≤ 2^50) : Calls Tryz.prog 60 #[.pointer (some ⟨r, 0, none⟩), .int .i64 most] w (RetText w r q (rdText most b f)) := by
  obtain ⟨a, c, c0, c1, f0, f1, hR, hc, ha⟩ := h.cells
  have H := Lib.hid h
  have HR := Lib.hid hR
  have Ha := Lib.hid ha
  clear h hR ha
  have hm0 : max (most : Int) 0 = most := by omega
  have e1 := beq_iff_eq (a := f) (b := (0 : Int))
  cases hf : f == 0 with
  | false =>
    have E : Hid (rdText most b f = (⟨#[]⟩, b, f)) := by
      unfold Hid rdText
      rw [if_neg (fun e => by rw [e1.2 e] at hf; cases hf)]
    clear e1
    go_enter Tryz.func60, Tryz.ntmps60
    go_wp2_with fail
    refine (ready_any w r q b f H.out).mono ?_
    rintro e w' ⟨rfl, rfl⟩
    rw [hf]
    clear hf
    go_wp2
    go_ret
    rw [E.out]
    exact ⟨rfl, H.out, But.refl _ _⟩
  | true =>
    have hf0 : f = 0 := e1.1 hf
    clear e1 hf
    subst hf0
    by_cases hl : b.length < 4
    · have E : Hid (rdText most b 0 = (⟨#[]⟩, b, 10)) := by unfold Hid rdText; rw [if_pos rfl, if_pos hl]
      have hl2 : (b.length : Int) < 4 := by omega
      go_enter Tryz.func60, Tryz.ntmps60
      go_wp2_with fail
      refine (ready_any w r q b 0 H.out).mono ?_
      rintro e w' ⟨rfl, rfl⟩
      go_wp2
      go_ret
      rw [E.out]
      exact ⟨rfl, H.out.fault 10, But.setCell (But.refl _ _) (.inl (by simp)) _⟩
    · have hl2 : ¬ (b.length : Int) < 4 := by omega
      have hl3 : 4 ≤ b.length := by omega
      have hl4 : 4 ≤ c := by omega
      have hl5 : (4 : Int) ≤ (b.length : Int) := by omega
      have hn : (b.take 4).length = 4 := by rw [List.length_take]; omega
      have HN : Hid (Row w.drew a ((b.take 4).map byU)) := by unfold Hid; rw [List.map_take]; exact (HR.out.below ((Below.refl _ _).drew)).take 4
      have hnum := number_any w.drew a c (b.take 4) HN.out (by omega)
      rw [hn] at hnum
      have Hnum := Lib.hid hnum
      have hnl := num_lt (b.take 4)
      rw [hn] at hnl
      have hnl2 : num (b.take 4) < 4294967296 := hnl
      clear hn hnum hnl
      rcases Ha.out with ⟨_, h1⟩ | ⟨o, h1, h2⟩
      · omega
      · subst h1
        by_cases hc4 : c = 4
        · subst hc4
          go_enter Tryz.func60, Tryz.ntmps60
          go_wp2_with fail
          refine (ready_any w r q b 0 H.out).mono ?_
          rintro e w' ⟨rfl, rfl⟩
          go_wp2_with fail
          refine Go.XR.region_sched ((· = w'.drew)) [(0, true), (1, true), (2, true), (3, true), (4, true), (6, true), (7, true), (8, true), (9, true), (10, true), (5, false), (11, true), (12, false)] [12] Tryz.mixed (by kernel_rfl) (by kernel_rfl) (by kernel_rfl) ?_
          simp only [List.map_cons, List.map_nil, List.getElem?_cons_succ, List.getElem?_cons_zero]
          repeat (first | (refine Go.XR.S_light rfl rfl rfl ?_ (fun w' hS K hK => ?_) (fun K hK => ?_); rotate_left 1; (cases hS; go_step; exact hK); go_step; refine hK _ ?_; clear hK K))
          refine Go.XR.S_heavy (fun K hK => ?_)
          go_step
          ((with_reducible refine (Hnum.out).mono ?_); rintro e w' ⟨rfl, rfl⟩)
          refine hK _ _ ⟨fun _ => rfl, ?_⟩
          clear hK K
          repeat (first | (refine Go.XR.S_light rfl rfl rfl ?_ (fun w' hS K hK => ?_) (fun K hK => ?_); rotate_left 1; (cases hS; go_step; exact hK); go_step; refine hK _ ?_; clear hK K))
          repeat (first | (refine Go.XR.S_heavy (fun K hK => ?_); go_step; refine hK _ _ ⟨fun h => by simp at h, ?_⟩; clear hK K))
          refine Go.XR.S_nil ?_
          by_cases hm : most < num (b.take 4)
          · have E : Hid (rdText most b 0 = (⟨#[]⟩, b, 4)) := by unfold Hid rdText; rw [if_pos rfl, if_neg hl, if_pos hm]
            have hm2 : decide (most < num (b.take 4)) = true := decide_eq_true hm
            go_wp2
            go_ret
            rw [E.out]
            exact ⟨rfl, (H.out.below ((Below.refl _ _).drew)).fault 4, (But.refl [r] w').drew.trans (But.setCell (But.refl _ _) (.inl (by simp)) _)⟩
          · have hm2 : decide (most < num (b.take 4)) = false := decide_eq_false hm
            by_cases hk : b.length - 4 < num (b.take 4)
            · have E : Hid (rdText most b 0 = (⟨#[]⟩, b, 10)) := by unfold Hid rdText; rw [if_pos rfl, if_neg hl, if_neg hm, if_pos hk]
              have hk2 : decide (0 < num (b.take 4)) = true := decide_eq_true (by omega)
              go_wp2
              go_ret
              rw [E.out]
              exact ⟨rfl, (H.out.below ((Below.refl _ _).drew)).fault 10, (But.refl [r] w').drew.trans (But.setCell (But.refl _ _) (.inl (by simp)) _)⟩
            · have E : Hid (rdText most b 0 = (strOf ((b.drop 4).take (num (b.take 4))), (b.drop 4).drop (num (b.take 4)), 0)) := by unfold Hid rdText; rw [if_pos rfl, if_neg hl, if_neg hm, if_neg hk]
              have hk2 : decide (0 < num (b.take 4)) = false := decide_eq_false (by omega)
              have hn0 : num (b.take 4) = 0 := by omega
              have hs := fun w : World => run_str_at w (some ⟨q, o, none⟩) 0 [] (.inl rfl) 0 rfl
              have hb4 : b.drop 4 = [] := List.drop_eq_nil_of_le (by omega)
              rw [hb4, List.take_nil, List.drop_nil] at E
              clear hk2
              go_wp2
              go_ret
              rw [E.out]
              exact ⟨rfl, RdAt.rest (b' := []) (H.out.below ((Below.refl _ _).drew)) (some ⟨q, o, none⟩) 0 (.inl rfl) (Nat.le_refl _) (.inr ⟨o, rfl, h2⟩), (But.refl [r] w').drew.trans (But.setCell (But.refl _ _) (.inl (by simp)) _)⟩
        · go_enter Tryz.func60, Tryz.ntmps60
          go_wp2_with fail
          refine (ready_any w r q b 0 H.out).mono ?_
          rintro e w' ⟨rfl, rfl⟩
          go_wp2_with fail
          refine Go.XR.region_sched ((· = w'.drew)) [(0, true), (1, true), (2, true), (3, true), (4, true), (6, true), (7, true), (8, true), (9, true), (10, true), (5, false), (11, true), (12, false)] [12] Tryz.mixed (by kernel_rfl) (by kernel_rfl) (by kernel_rfl) ?_
          simp only [List.map_cons, List.map_nil, List.getElem?_cons_succ, List.getElem?_cons_zero]
          repeat (first | (refine Go.XR.S_light rfl rfl rfl ?_ (fun w' hS K hK => ?_) (fun K hK => ?_); rotate_left 1; (cases hS; go_step; exact hK); go_step; refine hK _ ?_; clear hK K))
          refine Go.XR.S_heavy (fun K hK => ?_)
          go_step
          ((with_reducible refine (Hnum.out).mono ?_); rintro e w' ⟨rfl, rfl⟩)
          refine hK _ _ ⟨fun _ => rfl, ?_⟩
          clear hK K
          repeat (first | (refine Go.XR.S_light rfl rfl rfl ?_ (fun w' hS K hK => ?_) (fun K hK => ?_); rotate_left 1; (cases hS; go_step; exact hK); go_step; refine hK _ ?_; clear hK K))
          repeat (first | (refine Go.XR.S_heavy (fun K hK => ?_); go_step; refine hK _ _ ⟨fun h => by simp at h, ?_⟩; clear hK K))
          refine Go.XR.S_nil ?_
          by_cases hm : most < num (b.take 4)
          · have E : Hid (rdText most b 0 = (⟨#[]⟩, b, 4)) := by unfold Hid rdText; rw [if_pos rfl, if_neg hl, if_pos hm]
            have hm2 : decide (most < num (b.take 4)) = true := decide_eq_true hm
            go_wp2
            go_ret
            rw [E.out]
            exact ⟨rfl, (H.out.below ((Below.refl _ _).drew)).fault 4, (But.refl [r] w').drew.trans (But.setCell (But.refl _ _) (.inl (by simp)) _)⟩
          · have hm2 : decide (most < num (b.take 4)) = false := decide_eq_false hm
            by_cases hk : b.length - 4 < num (b.take 4)
            · have E : Hid (rdText most b 0 = (⟨#[]⟩, b, 10)) := by unfold Hid rdText; rw [if_pos rfl, if_neg hl, if_neg hm, if_pos hk]
              have hk2 : decide ((b.length-4) < num (b.take 4)) = true := decide_eq_true (by omega)
              go_wp2
              go_ret
              rw [E.out]
              exact ⟨rfl, (H.out.below ((Below.refl _ _).drew)).fault 10, (But.refl [r] w').drew.trans (But.setCell (But.refl _ _) (.inl (by simp)) _)⟩
            · have E : Hid (rdText most b 0 = (strOf ((b.drop 4).take (num (b.take 4))), (b.drop 4).drop (num (b.take 4)), 0)) := by unfold Hid rdText; rw [if_pos rfl, if_neg hl, if_neg hm, if_neg hk]
              have hk2 : decide ((b.length-4) < num (b.take 4)) = false := decide_eq_false (by omega)
              obtain ⟨n, hn⟩ : ∃ n, num (b.take 4) = n := ⟨_, rfl⟩
              rw [hn] at E hk hnl2 hk2 hm2 ⊢
              have hRd : Row w' (some ⟨q, o + 4, none⟩) ((b.drop 4).map byU) := by rw [List.map_drop]; exact Row.drop HR.out 4
              have hs := fun (v : Value) (cap : Nat) => run_str_at (w'.setCell ⟨r, 0, none⟩ v).drew (some ⟨q, o + 4, none⟩) cap ((b.drop 4).take n) (by
                rw [List.map_take]
                refine (Row.take hRd n).but (But.setCell (S := [r]) (But.refl _ _) (.inl (by simp)) _).drew (fun g' o' e hm => ?_)
                cases e; simp at hm; exact h2 hm) n (by rw [List.length_take, List.length_drop]; omega)
              have hn4 : n ≤ b.length - 4 := by omega
              have hn5 : n ≤ c - 4 := by omega
              have hn6 : (n : Int) ≤ ((b.length - 4 : Nat) : Int) := by omega
              have HRd := Lib.hid hRd
              clear hRd hk2 hn
              go_wp2
              · go_ret
                rw [E.out]
                refine ⟨rfl, ?_, (But.refl [r] w').drew.trans (But.setCell (But.refl _ _) (.inl (by simp)) _)⟩
                have e0 : (b.drop 4).drop n = [] := List.drop_eq_nil_of_le (by rw [List.length_drop]; omega)
                have := RdAt.rest (b' := (b.drop 4).drop n) (H.out.below ((Below.refl _ _).drew)) (some ⟨q, o + 4, none⟩) 0 (by rw [e0]; exact .inl rfl) (by rw [e0]; exact Nat.le_refl _) (.inr ⟨o + 4, rfl, h2⟩)
                rw [List.length_drop, List.length_drop] at this
                exact this
              · go_ret
                rw [E.out]
                refine ⟨rfl, ?_, (But.refl [r] w').drew.trans (But.setCell (But.refl _ _) (.inl (by simp)) _)⟩
                have := RdAt.rest (b' := (b.drop 4).drop n) (H.out.below ((Below.refl _ _).drew)) (some ⟨q, o + 4 + n, none⟩) (c - 4 - n) (by rw [List.map_drop]; exact Row.drop (HRd.out.below ((Below.refl _ _).drew)) n) (by rw [List.length_drop, List.length_drop]; omega) (.inr ⟨o + 4 + n, rfl, h2⟩)
                rw [List.length_drop, List.length_drop] at this
                first
                  | exact this
                  | (rw [show Option.map (fun x : Addr => x.add n) (some ⟨q, o + 4, none⟩) = some ⟨q, o + 4 + n, none⟩ from by rw [Option.map_some, addr_add]]; exact this)
/-- a new reader -/
def RetNewR (w : World) (b : List UInt8) (e : Ending) (w' : World) : Prop := ∃ r q, e = .returned (.pointer (some ⟨r, 0, none⟩)) ∧ w.heap.size ≤ r ∧ w.heap.size ≤ q ∧ q < w'.heap.size ∧ RdAt w' r q b 0 ∧ Below w.heap.size w w'
set_option maxHeartbeats 1000000 in
set_option maxRecDepth 100000 in
theorem newr_any (w : World) (a : Option Addr) (c : Nat) (b : List UInt8) (hR : Row w a (b.map byU)) (hn : a = none → b.length = 0 ∧ c = 0) (hbl : b.length ≤ 2^46) : Calls Tryz.prog 58 #[.slice a b.length c] w (RetNewR w b) := by
  have HR := Lib.hid hR
  clear hR
  go_enter Tryz.func58, Tryz.ntmps58
  go_wp2_with (at_builtin; refine Go.XR.stop (fun X hX => ?_))
  refine hX.out ?_
  clear hX X
  refine wpList_plain rfl (fun K hK => ?_)
  refine append_enc (P := Tryz.prog) byL 1 1 byL_len byL_one 5 Tryz.underlying30 (by kernel_rfl) (by decide) w.heap.size none 0 [] rfl (World.ownsRow_nil _ _ _ _) a c b rfl (by rw [flat_byL]; exact HR.out) hn (by simp; omega) (by unfold maxLen; simp; omega) (Nat.le_refl _) ?_
  intro a' c' w2 ho2 hb2 hnn _
  rw [List.nil_append, flat_byL] at ho2
  rw [List.nil_append]
  have Ho2 := Lib.hid ho2
  have Hb2 := Lib.hid hb2
  clear ho2 hb2
  go_step
  refine hK _ _ ?_
  clear hK K
  go_wp2
  go_ret
  have hs2 := Hb2.out.size
  rcases Ho2.out.2 with ⟨h1, h2⟩ | ⟨g, cap, cur, h1, h2, h3, h4⟩
  · refine ⟨w2.heap.size, w2.heap.size, rfl, hs2, hs2, by simp, ?_, Hb2.out.alloc hs2 _⟩
    injection h1 with h1 _ h3
    exact ⟨a', c', heap_new _ _, (Row.owned Ho2.out).alloc' _, owns_le Ho2.out, .inl ⟨h1, h3⟩⟩
  · have hl := blk_lt h3
    refine ⟨w2.heap.size, g, rfl, hs2, h2, by simp; omega, ?_, Hb2.out.alloc hs2 _⟩
    injection h1 with h1
    exact ⟨a', c', heap_new _ _, (Row.owned Ho2.out).alloc' _, owns_le Ho2.out, .inr ⟨0, h1, by omega⟩⟩
theorem RdAt.but {w w' : World} {S : List Nat} {r q : Nat} {b : List UInt8} {f : Int} (h : RdAt w r q b f) (hb : But S w w') (hr : r ∉ S) (hq : q ∉ S) : RdAt w' r q b f := by
  obtain ⟨a, c, h1, h2, h3, h4⟩ := h
  refine ⟨a, c, (hb.block r (blk_lt h1) hr).trans h1, h2.but hb (fun g o e => ?_), h3, h4⟩
  rcases h4 with ⟨h5, _⟩ | ⟨o', h5, _⟩
  · rw [h5] at e; cases e
  · rw [h5] at e; cases e; exact hq
end Go.Proofs.YtoahjhogjjdkhaaGreatDoor

/- The walk over extent.Lay. -/
namespace Go.Proofs.YtoahjhogjjdkhaaGreatDoor
open Go.RowKit Go.XR Go.NamesPure Go.TreePure
theorem cput_nil (w : World) (n m : Nat) (hn : n < 18446744073709551616) (hm : m ≤ 8) : Calls Tryz.prog 39 #[.slice none 0 0, .int .u64 n, .int .i64 m] w (RetBytes w (be n m)) :=
  cput_any w none 0 [] (.inl rfl) (by simp) n m hn hm
theorem cput_on (w : World) (a : Option Addr) (c k : Nat) (l : List UInt8) (hR : Row w a (l.map byU)) (hl : l.length ≤ 2^40) (hk : l.length = k) (n m : Nat) (hn : n < 18446744073709551616) (hm : m ≤ 8) : Calls Tryz.prog 39 #[.slice a k c, .int .u64 n, .int .i64 m] w (RetBytes w (l ++ be n m)) := by
  subst hk; exact cput_any w a c l hR hl n m hn hm
theorem app_bytes {w : World} {A : Act} {K : Act → World → Prop} {Q : Exit → Act → World → Prop} {dst : Option Tmp} {s x : Operand} {pos : String} {after : Array Edge} {guard : Option (Nat × Bool)}
    (base : Nat) (so : Option Addr) (sc : Nat) (l : List UInt8) (hs : A.eval s = .slice so l.length sc) (hown : w.ownsRow base 5 1 (.slice so l.length sc) l.length (l.map byU))
    (xo : Option Addr) (n c : Nat) (m : List UInt8) (hx : A.eval x = .slice xo n c) (hn : n = m.length) (hrow : Row w xo (m.map byU)) (hnil : xo = none → m.length = 0 ∧ c = 0) (hlen : l.length + m.length ≤ 2^45) (hbase : base ≤ w.heap.size)
    (h : ∀ a' c' w', w'.ownsRow base 5 1 (.slice a' (l ++ m).length c') (l ++ m).length ((l ++ m).map byU) → Below base w w' → (∀ S : List Nat, (∀ x, so = some x → x.block ∈ S) → But S w w') →
      Oper.wp Tryz.prog ⟨dst, .move (.const (.slice a' (l ++ m).length c')), 30, "", #[], none⟩ A w' K (fun _ _ _ => False)) :
    Oper.wp Tryz.prog ⟨dst, .call { callee := .builtin .append, args := #[s, x], argTypes := #[30, 30] }, 30, pos, after, guard⟩ A w K Q := by
  subst hn
  refine append_enc (P := Tryz.prog) byL 1 1 byL_len byL_one 5 Tryz.underlying30 (by kernel_rfl) (by decide) base so sc l hs (by rw [flat_byL]; exact hown) xo c m hx (by rw [flat_byL]; exact hrow) hnil (by omega) (by unfold maxLen; omega) hbase ?_
  intro a' c' w' ho hb _ hg
  rw [flat_byL] at ho
  refine h a' c' w' ho hb (fun S hS => ?_)
  cases so with
  | none => exact But.of_grown_none (S := S) (by simpa [Value.ownBlock] using hg)
  | some x => exact (But.of_grown (b := x.block) (by simpa [Value.ownBlock] using hg)).mono (fun i hi _ => by rw [List.mem_singleton] at hi; rw [hi]; exact hS x rfl)
theorem RetBytes.open {w w' : World} {L : List UInt8} {e : Ending} (h : RetBytes w L e w') : ∃ a c, e = .returned (.slice a L.length c) ∧ Row w' a (L.map byU) ∧ (a = none → L.length = 0 ∧ c = 0) ∧ L.length ≤ c ∧ (∀ x, a = some x → w.heap.size ≤ x.block) ∧ Below w.heap.size w w' := by
  obtain ⟨a, c, h1, h2, h3⟩ := h
  exact ⟨a, c, h1, Row.owned h2, (fun e => by subst e; exact owns_nil h2), owns_le h2, (fun x hx => by subst hx; exact (h2.lt x.block rfl).1), h3⟩
/-- bytes in new memory, and an error -/
def RetLay (w : World) (l : List Ext) (e : Ending) (w' : World) : Prop :=
  ∃ a c, e = .returned (.tuple #[.slice a (if rightP l then layB l else []).length c, .int .i64 (if rightP l then 0 else 1)]) ∧ Row w' a ((if rightP l then layB l else []).map byU) ∧ Below w.heap.size w w'
theorem layB_take (l : List Ext) {k : Nat} (h : k < l.length) : (l.take (k + 1)).flatMap extB = (l.take k).flatMap extB ++ extB l[k] := by
  rw [List.take_succ_eq_append_getElem h, List.flatMap_append]; simp
theorem sumL_byU (s : Vector UInt8 32) : sumL s = s.toList.map byU := rfl
set_option maxHeartbeats 4000000 in
set_option maxRecDepth 100000 in
theorem lay_any (w : World) (a : Option Addr) (c : Nat) (l : List Ext) (hL : Row w a (l.flatMap rowL)) (hl : l.length < 2^40) :
    Calls Tryz.prog 95 #[.slice a l.length c] w (RetLay w l) := by
  have HL := Lib.hid hL
  clear hL
  obtain ⟨zs, hzs, hz⟩ := zero_ext
  have Hz := Lib.hid hz
  clear hz
  cases hr : rightP l with
  | false =>
    have Hr := Lib.hid hr
    clear hr
    go_enter Tryz.func95, Tryz.ntmps95
    go_wp2_with fail
    refine (right_any _ a c l HL.out hl).mono ?_
    rintro e w1 ⟨rfl, hb⟩
    rw [Hr.out]
    go_wp2
    go_ret2
    unfold RetLay
    rw [Hr.out]
    exact ⟨none, 0, rfl, .inl rfl, hb⟩
  | true =>
    have Hr := Lib.hid hr
    have hlen := (rightP_all hr).1
    clear hr
    obtain ⟨C, hC, hmk⟩ := make_cap (P := Tryz.prog) 30 5 (.int .u8 0) Tryz.underlying30 (by kernel_rfl) 0 (4 + 40 * l.length) (by omega) (by omega)
    rw [show ((4 + 40 * l.length : Nat) : Int) = 4 + 40 * (l.length : Int) by omega] at hmk
    have hmk' : ∀ w, (Instr.makeSlice 30 (.int .i64 0) (.int .i64 (4 + 40 * (l.length : Int)))).run Tryz.prog w = .ok (.slice (some ⟨w.heap.size, 0, none⟩) 0 (4 + 40 * l.length)) (w.alloc (.cells C 5)) := hmk
    clear hmk
    go_enter Tryz.func95, Tryz.ntmps95
    go_wp2_with fail
    refine (right_any _ a c l HL.out hl).mono ?_
    rintro e w1 ⟨rfl, hb⟩
    rw [Hr.out]
    have Hb1 := Lib.hid hb
    clear hb
    go_wp2_with fail
    clear hmk'
    obtain ⟨W1, hW1⟩ : ∃ W1, w1.alloc (.cells C 5) = W1 := ⟨_, rfl⟩
    have HO1 : Hid (W1.ownsRow w1.heap.size 5 1 (.slice (some ⟨w1.heap.size, 0, none⟩) 0 (4 + 40 * l.length)) 0 []) := by
      unfold Hid
      rw [← hW1]
      refine ⟨rfl, .inr ⟨w1.heap.size, 4 + 40 * l.length, C, rfl, Nat.le_refl _, heap_new _ _, by omega, by unfold maxLen; omega, ?_, rfl⟩⟩
      have := congrArg List.length hC
      rw [Array.length_toList, List.length_replicate] at this
      omega
    have HW1 : Hid (Below w1.heap.size w1 W1) := by unfold Hid; rw [← hW1]; exact (Below.refl _ _).alloc (Nat.le_refl _) _
    have hs1 : w1.heap.size < W1.heap.size := by rw [← hW1]; simp
    rw [hW1]
    clear hW1 hC
    refine (cput_nil W1 l.length 4 (by omega) (by omega)).mono ?_
    rintro e w2 hret
    obtain ⟨pa, pc, rfl, hp, hpn, _, _, hb2⟩ := hret.open
    have HP := Lib.hid hp
    have Hpn := Lib.hid hpn
    have HO2 := Lib.hid (owns_below HO1.out hb2)
    have Hb2 := Lib.hid (HW1.out.trans (hb2.mono (by omega)))
    have hs2 : w1.heap.size ≤ w2.heap.size := by have := hb2.size; omega
    clear hp hpn hret hb2 HO1 HW1
    go_wp2_with (at_builtin; refine Go.XR.stop (fun X hX => ?_))
    refine hX.out ?_
    clear hX X
    refine wpList_plain rfl (fun K hK => ?_)
    refine app_bytes w1.heap.size (some ⟨w1.heap.size, 0, none⟩) (4 + 40 * l.length) [] rfl HO2.out pa _ pc (be l.length 4) rfl rfl HP.out Hpn.out (by simp [be_length]) hs2 ?_
    intro a3 c3 w3 ho3 hb3 _
    rw [List.nil_append] at ho3 ⊢
    have Ho3 := Lib.hid ho3
    have Hb3 := Lib.hid (Hb2.out.trans hb3)
    have hs3 : w1.heap.size ≤ w3.heap.size := by have := Hb3.out.size; omega
    clear ho3 hb3 hs2 HP Hpn HO2 Hb2
    go_step
    refine hK _ _ ?_
    clear hK K
    obtain ⟨L3, hL3⟩ : ∃ L3, be l.length 4 = L3 := ⟨_, rfl⟩
    have HL3 : Hid (L3 = be l.length 4 ++ (l.take 0).flatMap extB) := by unfold Hid; rw [← hL3]; simp
    rw [hL3] at Ho3 ⊢
    clear hL3
    go_wp2
    go_loopg [23, 4] l.length (fun m i v wr => ∃ (k : Nat) (ao : Option Addr) (co : Nat) (L : List UInt8), k ≤ l.length ∧ i = .int .i64 k ∧ v = .slice ao L.length co ∧ Hid (m = l.length - k ∧ L = be l.length 4 ++ (l.take k).flatMap extB ∧ Below w1.heap.size w1 wr ∧ wr.ownsRow w1.heap.size 5 1 (.slice ao L.length co) L.length (L.map byU)))
    case atStart => exact ⟨0, a3, c3, L3, Nat.zero_le _, rfl, rfl, rfl, HL3.out, Hb3.out, Ho3.out⟩
    case round =>
      clear HL3 Hb3 Ho3 hs3
      obtain ⟨k, ao, co, L, hk, rfl, rfl, hr⟩ := hrel
      have Hm := Lib.hid hr.out.1
      have HLe := Lib.hid hr.out.2.1
      have Hbw := Lib.hid hr.out.2.2.1
      have Ho := Lib.hid hr.out.2.2.2
      clear hr
      have hsw : w1.heap.size ≤ wr.heap.size := Hbw.out.size
      by_cases hlt : k < l.length
      · have hi1 : (k : Int) < (l.length : Int) := by omega
        have hLl : L.length ≤ 4 + 40 * 16384 := by rw [HLe.out, List.length_append, be_length, flat_extB, List.length_take]; omega
        obtain ⟨g, o, rfl, hA⟩ := ext_at (HL.out.below (Hb1.out.trans (Hbw.out.mono Hb1.out.size))) hlt
        have HA := Lib.hid hA
        have hxb := extOk_bounds ((rightP_all Hr.out).2 l[k] (List.getElem_mem hlt))
        have Htk := Lib.hid (layB_take l hlt)
        obtain ⟨x, hx⟩ : ∃ x, l[k] = x := ⟨_, rfl⟩
        rw [hx] at HA hxb Htk
        clear hx hA
        obtain ⟨⟨xs, xn⟩, ⟨xo, xl⟩⟩ := x
        dsimp only at hxb
        obtain ⟨xo, rfl⟩ : ∃ n : Nat, xo = n := ⟨xo.toNat, by omega⟩
        obtain ⟨xl, rfl⟩ : ∃ n : Nat, xl = n := ⟨xl.toNat, by omega⟩
        have hxo : xo ≤ 4096 := by omega
        have hxl : xl ≤ 4096 := by omega
        clear hxb
        have hxn : xn.toNat < 4294967296 := xn.toNat_lt
        go_wp2_with (first | (refine wpList_load_at rfl 110 _ rfl g (o + k * 35) rfl (rowC (⟨xs, xn⟩, ⟨xo, xl⟩)) HA.out _ Tryz.underlying110 rfl (extSize _) ?_) | (refine wpList_alloc_new rfl 110 rfl zs (Hz.out _) ?_) | (refine wpList_store_new rfl 110 _ _ rfl zs (rowC (⟨xs, xn⟩, ⟨xo, xl⟩)) 110 rfl rfl (by rw [hzs, rowC_size]) (one_rowC _) (extSize _) ?_) | (at_builtin; refine Go.XR.stop (fun X hX => ?_)))
        refine hX.out ?_
        clear hX X
        have hxl32 : xs.toList.length = 32 := Vector.length_toList
        have HX32 := Lib.hid hxl32
        obtain ⟨W2, hW2⟩ : ∃ W2, wr.alloc (.cells (rowC (⟨xs, xn⟩, ⟨xo, xl⟩)) 110) = W2 := ⟨_, rfl⟩
        have hA2 : At W2 wr.heap.size 0 (rowC (⟨xs, xn⟩, ⟨xo, xl⟩)) := by rw [← hW2]; exact At.new _ _ _
        have Hb2 : Hid (Below wr.heap.size wr W2) := by unfold Hid; rw [← hW2]; exact (Below.refl _ _).alloc (Nat.le_refl _) _
        have Ho2 : Hid (W2.ownsRow w1.heap.size 5 1 (.slice ao L.length co) L.length (L.map byU)) := Lib.hid (owns_below Ho.out Hb2.out)
        have hsz2 : wr.heap.size < W2.heap.size := by rw [← hW2]; simp
        have HXr : Hid (Row W2 (some ⟨wr.heap.size, 0, none⟩) (xs.toList.map byU)) := by
          refine .inr ⟨_, 0, rfl, fun j u hj => hA2 j u ?_⟩
          have hj32 : j < 32 := by have := (List.getElem?_eq_some_iff.1 hj).1; rw [List.length_map, HX32.out] at this; exact this
          unfold rowC
          rw [List.getElem?_toArray]
          unfold rowL keyL
          rw [List.append_assoc, List.getElem?_append_left (by rw [sumL_length]; exact hj32)]
          exact hj
        have HA2 := Lib.hid hA2
        obtain ⟨xb, hxb⟩ : ∃ xb, wr.heap.size = xb := ⟨_, rfl⟩
        rw [hxb] at hsz2 HXr HA2 Hb2
        rw [hW2, hxb]
        clear hA2 hW2 hxl32
        refine wpList_plain rfl (fun K hK => ?_)
        refine app_bytes w1.heap.size ao co L rfl Ho2.out (some ⟨xb, 0, none⟩) 32 32 xs.toList rfl HX32.out.symm HXr.out (fun e => by cases e) (by have := HX32.out; omega) (by have := Hb2.out.size; omega) ?_
        intro a4 c4 w4 ho4 hb4 hbt4
        have hxo4 : ∀ x, ao = some x → x.block ≠ xb := fun x hx => by
          have := (Ho.out.lt x.block (by rw [hx]; rfl)).2
          omega
        have HA4 : Hid (At w4 xb 0 (rowC (⟨xs, xn⟩, ⟨xo, xl⟩))) := by
          refine HA2.out.but (hbt4 (ao.toList.map (·.block)) (fun x hx => by rw [hx]; simp)) ?_
          intro hm
          obtain ⟨x, hx, he⟩ := List.mem_map.1 hm
          cases hao : ao with
          | none => rw [hao] at hx; simp at hx
          | some y =>
            rw [hao] at hx
            simp at hx
            subst hx
            exact hxo4 x hao he
        obtain ⟨L4, hL4⟩ : ∃ L4, L ++ xs.toList = L4 := ⟨_, rfl⟩
        have HL4 := Lib.hid hL4
        rw [hL4] at ho4 ⊢
        have Ho4 := Lib.hid ho4
        have Hb4 := Lib.hid ((Hbw.out.trans (Hb2.out.mono (by omega))).trans hb4)
        have hx4 : xb < w4.heap.size := by have := hb4.size; omega
        clear hL4 ho4 hb4 hbt4 hxo4 Ho2 HXr HA2 Hb2 hsz2
        go_step
        refine hK _ _ ?_
        clear hK K
        go_wp2_with fail
        have c32 : w4.cell? ⟨xb, 32, none⟩ = some (.int .u32 (xn.toNat : Int)) := by
          have := HA4.out 32 (.int .u32 (xn.toNat : Int)) (by unfold rowC; rw [List.getElem?_toArray]; unfold rowL; rw [List.getElem?_append_left (by rw [keyL_length]; omega)]; have := keyC_n ⟨xs, xn⟩; unfold keyC at this; rw [List.getElem?_toArray] at this; exact this)
          rwa [Nat.zero_add] at this
        have c33 : w4.cell? ⟨xb, 33, none⟩ = some (.int .i64 (xo : Int)) := by have := HA4.out 33 _ (rowC_shelf _); rwa [Nat.zero_add] at this
        have c34 : w4.cell? ⟨xb, 34, none⟩ = some (.int .i64 (xl : Int)) := by have := HA4.out 34 _ (rowC_slot _); rwa [Nat.zero_add] at this
        have hS0 : Below w4.heap.size w4 w4.drew := (Below.refl _ _).drew
        refine Go.XR.region_sched ((Below w4.heap.size w4)) [(0, true), (1, true), (2, true), (3, true), (4, true), (6, true), (7, true), (8, true), (10, true), (11, true), (12, true), (5, false), (9, false), (13, false), (14, false), (15, false)] [14, 15] Tryz.mixed (by kernel_rfl) (by kernel_rfl) (by kernel_rfl) ?_
        simp only [List.map_cons, List.map_nil, List.getElem?_cons_succ, List.getElem?_cons_zero]
        repeat (first | (refine Go.XR.S_light rfl rfl (by assumption) ?_ (fun w' hS K hK => ?_) (fun K hK => ?_); rotate_left 1; (have hS1 := bcell hS; go_step; exact hK); go_step; refine hK _ ?_; clear hK K))
        refine Go.XR.S_heavy (fun K hK => ?_)
        go_step
        refine (cput_nil _ xn.toNat 4 (by omega) (by omega)).mono ?_
        rintro e w5 hret
        obtain ⟨a5, c5, rfl, hr5, hn5, _, _, hb5⟩ := hret.open
        have HR5 := Lib.hid hr5
        have hS5 : Below w4.heap.size w4 w5 := hS0.trans (hb5.mono (by simp))
        have HS5 := Lib.hid hS5
        clear hret hb5 hr5 hn5 hS0
        refine hK _ _ ⟨fun _ => hS5, ?_⟩
        clear hK K
        repeat (first | (refine Go.XR.S_light rfl rfl (by assumption) ?_ (fun w' hS K hK => ?_) (fun K hK => ?_); rotate_left 1; (have hS1 := bcell hS; go_step; exact hK); go_step; refine hK _ ?_; clear hK K))
        refine Go.XR.S_heavy (fun K hK => ?_)
        go_step
        refine (cput_on _ a5 c5 _ (be xn.toNat 4) HR5.out (by rw [be_length]; omega) rfl xo 2 (by omega) (by omega)).mono ?_
        rintro e w6 hret
        obtain ⟨a6, c6, rfl, hr6, hn6, _, _, hb6⟩ := hret.open
        have HR6 := Lib.hid hr6
        have hS6 : Below w4.heap.size w4 w6 := HS5.out.trans (hb6.mono HS5.out.size)
        have HS6 := Lib.hid hS6
        clear hret hb6 hr6 hn6 HR5 hS5 HS5
        refine hK _ _ ⟨fun _ => hS6, ?_⟩
        clear hK K
        repeat (first | (refine Go.XR.S_light rfl rfl (by assumption) ?_ (fun w' hS K hK => ?_) (fun K hK => ?_); rotate_left 1; (have hS1 := bcell hS; go_step; exact hK); go_step; refine hK _ ?_; clear hK K))
        refine Go.XR.S_heavy (fun K hK => ?_)
        go_step
        refine (cput_on _ a6 c6 _ (be xn.toNat 4 ++ be xo 2) HR6.out (by rw [List.length_append, be_length, be_length]; omega) rfl xl 2 (by omega) (by omega)).mono ?_
        rintro e w7 hret
        obtain ⟨a7, c7, rfl, hr7, hn7, _, _, hb7⟩ := hret.open
        have HR7 := Lib.hid hr7
        have Hn7 := Lib.hid hn7
        have hS7 : Below w4.heap.size w4 w7 := HS6.out.trans (hb7.mono HS6.out.size)
        have Hb7 := Lib.hid (Hb4.out.trans (hS7.mono Hb4.out.size))
        have Ho7 := Lib.hid (owns_below Ho4.out hS7)
        clear hret hb7 hr7 hn7 HR6 hS6 HS6
        refine hK _ _ ⟨fun _ => hS7, ?_⟩
        clear hK K
        refine Go.XR.S_heavy (fun K hK => ?_)
        have hl7 : ((be xn.toNat 4 ++ be xo 2) ++ be xl 2).length = 8 := by rw [List.length_append, List.length_append, be_length, be_length, be_length]
        refine app_bytes w1.heap.size a4 c4 L4 rfl Ho7.out a7 _ c7 ((be xn.toNat 4 ++ be xo 2) ++ be xl 2) rfl rfl HR7.out Hn7.out (by rw [hl7, ← HL4.out, List.length_append, HX32.out]; omega) Hb7.out.size ?_
        intro a8 c8 w8 ho8 hb8 _
        obtain ⟨L8, hL8⟩ : ∃ L8, L4 ++ ((be xn.toNat 4 ++ be xo 2) ++ be xl 2) = L8 := ⟨_, rfl⟩
        have HL8 : Hid (L8 = be l.length 4 ++ (l.take (k + 1)).flatMap extB) := by
          unfold Hid
          rw [← hL8, ← HL4.out, HLe.out, Htk.out]
          show _ = be l.length 4 ++ (_ ++ (xs.toList ++ (be xn.toNat 4 ++ (be ((xo : Nat) : Int).toNat 2 ++ be ((xl : Nat) : Int).toNat 2))))
          rw [Int.toNat_natCast, Int.toNat_natCast]
          simp only [List.append_assoc]
        rw [hL8] at ho8 ⊢
        have Ho8 := Lib.hid ho8
        have Hb8 := Lib.hid (Hb7.out.trans hb8)
        clear hL8 ho8 hb8 hl7 hS7 Hb7 Ho7 HR7 Hn7
        go_step
        refine hK _ _ ⟨fun h => by simp at h, ?_⟩
        clear hK K
        repeat (first | (refine Go.XR.S_heavy (fun K hK => ?_); go_step; refine hK _ _ ⟨fun h => by simp at h, ?_⟩; clear hK K))
        refine Go.XR.S_nil ?_
        go_wp2
        go_roundg (l.length - (k + 1))
        case measure => have := Hm.out; omega
        case rel => exact ⟨k + 1, a8, c8, L8, by omega, by go_num, rfl, rfl, HL8.out, Hb8.out, Ho8.out⟩
      · have hge : ¬ (k : Int) < (l.length : Int) := by omega
        have hkl : l.take k = l := List.take_of_length_le (by omega)
        have HLl : Hid (L = layB l) := by
          unfold Hid layB
          rw [HLe.out, hkl]
        clear hkl
        go_wp2
        go_ret2
        unfold RetLay
        rw [Hr.out, ← HLl.out]
        exact ⟨ao, co, rfl, Row.owned Ho.out, Hb1.out.trans (Hbw.out.mono Hb1.out.size)⟩
end Go.Proofs.YtoahjhogjjdkhaaGreatDoor

/- Slices built of aggregates whose cells are not written out. -/
namespace Go.XR
open Go Go.RowKit
theorem foldl_put (off : Nat) : ∀ (l : List Value) (i : Nat) (a : Array Value), off + i + l.length ≤ a.size →
    (l.zipIdx i).foldl (fun (a : Array Value) (p : Value × Nat) => a.setIfInBounds (off + p.2) p.1) a = (a.toList.take (off + i) ++ l ++ a.toList.drop (off + i + l.length)).toArray
  | [], i, a, h => by simp
  | v :: l, i, a, h => by
    rw [List.length_cons] at h
    rw [List.zipIdx_cons, List.foldl_cons, foldl_put off l (i + 1) _ (by simp; omega)]
    congr 1
    have hi : off + i < a.toList.length := by rw [Array.length_toList]; omega
    rw [Array.toList_setIfInBounds, show off + (i + 1) = off + i + 1 by omega, List.take_succ_eq_append_getElem (by rw [List.length_set]; exact hi), List.getElem_set_self, List.take_set_of_le (Nat.le_refl _), List.drop_set_of_lt (by omega), List.length_cons]
    simp only [List.append_assoc, List.cons_append, List.nil_append]
    rw [show off + i + 1 + l.length = off + i + (l.length + 1) by omega]
theorem fill_step (place : Nat → Option (Nat × Nat)) {i off size : Nat} {v : Value} (cells : Array Value) (rest : List (Nat × Value)) (hp : place i = some (off, size)) (hv : v.cells.size = size) (hc : off + size ≤ cells.size) :
    Instr.fill place cells ((i, v) :: rest) = Instr.fill place (cells.toList.take off ++ v.cells.toList ++ cells.toList.drop (off + size)).toArray rest := by
  have hf := foldl_put off v.cells.toList 0 cells (by rw [Array.length_toList, Nat.add_zero, hv]; exact hc)
  rw [Nat.add_zero, Array.length_toList, hv] at hf
  have e : v.cells.zipIdx.foldl (fun (a : Array Value) (p : Value × Nat) => a.setIfInBounds (off + p.2) p.1) cells = (v.cells.toList.zipIdx 0).foldl (fun (a : Array Value) (p : Value × Nat) => a.setIfInBounds (off + p.2) p.1) cells := by
    rw [← Array.foldl_toList, Array.toList_zipIdx]
  conv => lhs; unfold Instr.fill
  rw [hp]
  dsimp only
  rw [if_neg (by simp [hv]; omega)]
  congr 1
  rw [← hf, ← e]
section
variable {P : Program} {w : World}
theorem run_build_one {t e : TypeId} {k : Nat} (ht : P.underlying t = some (.slice e)) (hi : (P.info? e).map (·.size) = some k) (hk0 : 0 < k) (hk1 : k ≤ 1000) {z : Value} (hz : (zeroValue e).run P w = .ok z w) (v : Value) (hv : v.cells.size = k) :
    (Instr.buildSlice t 1 #[(0, v)]).run P w = .ok (.slice (some ⟨w.heap.size, 0, none⟩) 1 1) (w.alloc (.cells v.cells e)) := by
  have hfill : ∀ c : Array Value, c.size = k → Instr.fill (fun i => some (i * k, k)) c [(0, v)] = some v.cells := fun c hc => by
    rw [fill_step (off := 0) (size := k) _ c [] (by simp) hv (by omega)]
    show some _ = _
    congr 1
    rw [List.take_zero, List.nil_append, List.drop_eq_nil_of_le (by rw [Array.length_toList]; omega), List.append_nil, Array.toArray_toList]
  unfold Instr.buildSlice
  simp only [Sem.run_bind, run_underlying ht, Result.andThen_ok, run_sizeOf_eq hi, Nat.one_mul]
  rw [if_neg (by omega), if_neg (by omega)]
  simp only [Sem.run_bind, Sem.run_pure, hz, Result.andThen_ok]
  rw [hfill _ (by simp)]
  simp [newRow, Result.andThen]
theorem run_build_two {t e : TypeId} {k : Nat} (ht : P.underlying t = some (.slice e)) (hi : (P.info? e).map (·.size) = some k) (hk0 : 0 < k) (hk1 : k ≤ 1000) {z : Value} (hz : (zeroValue e).run P w = .ok z w) (v u : Value) (hv : v.cells.size = k) (hu : u.cells.size = k) :
    (Instr.buildSlice t 2 #[(0, v), (1, u)]).run P w = .ok (.slice (some ⟨w.heap.size, 0, none⟩) 2 2) (w.alloc (.cells (v.cells ++ u.cells) e)) := by
  have hfill : ∀ c : Array Value, c.size = 2 * k → Instr.fill (fun i => some (i * k, k)) c [(0, v), (1, u)] = some (v.cells ++ u.cells) := fun c hc => by
    rw [fill_step (off := 0) (size := k) _ c _ (by simp) hv (by omega)]
    rw [fill_step (off := k) (size := k) _ _ [] (by simp) hu (by simp [hv]; omega)]
    show some _ = _
    congr 1
    rw [List.take_zero, List.nil_append, Nat.zero_add]
    have h1 : v.cells.toList.length = k := by rw [Array.length_toList, hv]
    have e1 : (v.cells.toList ++ c.toList.drop k).take k = v.cells.toList := List.take_left' h1
    have e2 : (v.cells.toList ++ c.toList.drop k).drop (k + k) = [] := List.drop_eq_nil_of_le (by simp [hv]; omega)
    simp only [e1, e2, List.append_nil]
    apply Array.ext'
    simp
  unfold Instr.buildSlice
  simp only [Sem.run_bind, run_underlying ht, Result.andThen_ok, run_sizeOf_eq hi]
  rw [if_neg (by omega), if_neg (by omega)]
  simp only [Sem.run_bind, Sem.run_pure, hz, Result.andThen_ok]
  rw [hfill _ (by simp)]
  simp [newRow, Result.andThen]
theorem wp_build_one {o : Oper} {a : Act} {K : Act → World → Prop} {Q : Exit → Act → World → Prop} (t : TypeId) (x : Operand) (ho : o.op = .buildSlice t 1 #[(0, x)]) (e : TypeId) (k : Nat) (ht : P.underlying t = some (.slice e)) (hi : (P.info? e).map (·.size) = some k) (hk0 : 0 < k) (hk1 : k ≤ 1000)
    (z : Value) (hz : (zeroValue e).run P w = .ok z w) (cs : Array Value) (hv : a.eval x = .agg cs) (hs : cs.size = k)
    (hK : K (a.put o.dst (.slice (some ⟨w.heap.size, 0, none⟩) 1 1)) (w.alloc (.cells cs e))) : o.wp P a w K Q := by
  have hr := run_build_one ht hi hk0 hk1 hz (.agg cs) hs
  unfold Oper.wp execOp
  simp only [ho, List.map_toArray, List.map_cons, List.map_nil, hv, Sem.run_bind, hr, Result.andThen_ok, Sem.run_pure]
  exact hK
theorem wpList_build_one {ops : Array Oper} {rest : List Oper} {o : Oper} {a : Act} {Q : Exit → Act → World → Prop} (hgd : o.guard = none) (t : TypeId) (x : Operand) (ho : o.op = .buildSlice t 1 #[(0, x)]) (e : TypeId) (k : Nat) (ht : P.underlying t = some (.slice e)) (hi : (P.info? e).map (·.size) = some k) (hk0 : 0 < k) (hk1 : k ≤ 1000)
    (z : Value) (hz : (zeroValue e).run P w = .ok z w) (cs : Array Value) (hv : a.eval x = .agg cs) (hs : cs.size = k)
    (hK : wpList P ops Q rest (a.put o.dst (.slice (some ⟨w.heap.size, 0, none⟩) 1 1)) (w.alloc (.cells cs e))) : wpList P ops Q (o :: rest) a w :=
  wpList_plain hgd fun _ hK' => wp_build_one t x ho e k ht hi hk0 hk1 z hz cs hv hs (hK' _ _ hK)
theorem wpList_build_two {ops : Array Oper} {rest : List Oper} {o : Oper} {a : Act} {Q : Exit → Act → World → Prop} (hgd : o.guard = none) (t : TypeId) (x y : Operand) (ho : o.op = .buildSlice t 2 #[(0, x), (1, y)]) (e : TypeId) (k : Nat) (ht : P.underlying t = some (.slice e)) (hi : (P.info? e).map (·.size) = some k) (hk0 : 0 < k) (hk1 : k ≤ 1000)
    (z : Value) (hz : (zeroValue e).run P w = .ok z w) (cs ds : Array Value) (hv : a.eval x = .agg cs) (hu : a.eval y = .agg ds) (hs : cs.size = k) (hs2 : ds.size = k)
    (hK : wpList P ops Q rest (a.put o.dst (.slice (some ⟨w.heap.size, 0, none⟩) 2 2)) (w.alloc (.cells (cs ++ ds) e))) : wpList P ops Q (o :: rest) a w :=
  wpList_plain hgd fun _ hK' => by
    have hr := run_build_two ht hi hk0 hk1 hz (.agg cs) (.agg ds) hs hs2
    unfold Oper.wp execOp
    simp only [ho, List.map_toArray, List.map_cons, List.map_nil, hv, hu, Sem.run_bind, hr, Result.andThen_ok, Sem.run_pure]
    exact hK' _ _ hK
end
end Go.XR

/- A region whose order is drawn, where two operations that change the world stand ready at once: both orders are walked. -/
namespace Go.XR
section
variable {P : Program} {ops : Array Oper} {Q Q' : Exit → Act → World → Prop} {md : Region.Mode} {S : World → Prop} {sd : List Nat}
theorem wp_monoQ {o : Oper} {a : Act} {w : World} {K K' : Act → World → Prop} (h : ∀ a w, K a w → K' a w) (hp : ∀ c a w, Q (.panic c) a w → Q' (.panic c) a w) (ho : ∀ a w, Q .outgrown a w → Q' .outgrown a w)
    (hh : o.wp P a w K Q) : o.wp P a w K' Q' := by
  unfold Oper.wp at *
  generalize (execOp a.eval o).run P w = r at *
  cases r with
  | ok n w' =>
    cases n <;> simp only [Oper.upon] at hh ⊢ <;>
      first
        | exact h _ _ hh
        | exact hh
        | (refine hh.mono ?_
           intro e w'' he
           cases e with
           | returned v => exact h _ _ he
           | panicked c => exact hp _ _ _ he
           | outgrown => obtain ⟨a, w, h1⟩ := he; exact ⟨a, w, ho _ _ h1⟩)
        | exact hh.mono fun v w'' he => h _ _ he
  | halt x w' =>
    cases x <;> simp only [Oper.upon] at hh ⊢ <;> first | exact hp _ _ _ hh | exact hh

/-- what stands where two are ready -/
def Fork (Q : Exit → Act → World → Prop) (A B : Act → World → Prop) : Exit → Act → World → Prop
  | .normal, a, w => A a w ∧ B a w
  | e, a, w => Q e a w

/-- a schedule up to a fork -/
def schedF (md : Region.Mode) (ops : Array Oper) (sd : List Nat) (i j : Nat) (r1 r2 : List (Nat × Bool)) : List (Nat × Bool) → Array Bool → Bool
  | [], listed => (Region.ready md ops listed == [i, j]) && (schedB md ops sd r1 (listed.setIfInBounds i true) && schedB md ops sd r2 (listed.setIfInBounds j true))
  | (i', true) :: r, listed => (Region.ready md ops listed).contains i' && (Region.free md ops listed i' && ((sd.all fun j => reach md ops 12 j i') && schedF md ops sd i j r1 r2 r (listed.setIfInBounds i' true)))
  | (i', false) :: r, listed => (Region.ready md ops listed == [i']) && schedF md ops sd i j r1 r2 r (listed.setIfInBounds i' true)

theorem X_of_F (hsel : Region.noSelect ops = true) {i j : Nat} {r1 r2 : List (Nat × Bool)} (hlen : r1.length = r2.length) : ∀ (l : List (Nat × Bool)) (listed : Array Bool) (a : Act) (w : World),
    Closed md ops listed → schedF md ops sd i j r1 r2 l listed = true →
    wpT P ops (NoPanic (Fork Q (fun a w => wpT P ops (NoPanic Q) S sd (((i, false) :: r1).map fun p => (p.1, p.2, ops[p.1]?)) a w) (fun a w => wpT P ops (NoPanic Q) S sd (((j, false) :: r2).map fun p => (p.1, p.2, ops[p.1]?)) a w))) S sd (l.map fun p => (p.1, p.2, ops[p.1]?)) a w →
    wpAnyX P md ops (NoPanic Q) S sd (l.length + (r1.length + 1)) listed a w
  | [], listed, a, w, hcl, hb, h => by
    simp only [schedF, Bool.and_eq_true, beq_iff_eq] at hb
    obtain ⟨hr, h1, h2⟩ := hb
    obtain ⟨hA, hB⟩ : _ ∧ _ := h
    rw [List.length_nil, Nat.zero_add]
    refine ⟨fun h0 => absurd (hr ▸ h0 : [i, j] = []) (by simp), fun q hq => ?_⟩
    have hmq := hcl.set hq
    rw [hr] at hq
    have one : ∀ (k : Nat) (r : List (Nat × Bool)), r.length = r1.length → Closed md ops (listed.setIfInBounds k true) → schedB md ops sd r (listed.setIfInBounds k true) = true → wpT P ops (NoPanic Q) S sd (((k, false) :: r).map fun p => (p.1, p.2, ops[p.1]?)) a w →
        wpOp P ops (NoPanic Q) k (fun a' w' => (sd.contains k = false → S w') ∧ wpAnyX P md ops (NoPanic Q) S sd r1.length (listed.setIfInBounds k true) a' w') a w := fun k r hl hm hs h => by
      simp only [List.map_cons] at h
      unfold wpOp
      cases ho : ops[k]? with
      | none => rw [ho] at h; exact h.elim
      | some o =>
        rw [ho] at h
        simp only [wpT] at h ⊢
        rw [← hl]
        split
        · rename_i hw
          rw [if_pos hw] at h
          exact .inl (Oper.wp_mono (fun a' w' h' => ⟨h'.1, X_of_T hsel (fun _ _ _ _ h => h.elim) r _ _ _ hm hs h'.2⟩) h)
        · rename_i hw
          rw [if_neg hw] at h
          exact ⟨h.1, X_of_T hsel (fun _ _ _ _ h => h.elim) r _ _ _ hm hs h.2⟩
    rcases List.mem_cons.1 hq with rfl | hq
    · exact one _ r1 rfl hmq h1 hA
    · rw [List.mem_singleton] at hq
      subst hq
      exact one _ r2 hlen.symm hmq h2 hB
  | (i', true) :: r, listed, a, w, hcl, hb, h => by
    simp only [schedF, Bool.and_eq_true] at hb
    obtain ⟨hr, hf, hs, hrest⟩ := hb
    simp only [List.map_cons] at h
    cases ho : ops[i']? with
    | none => rw [ho] at h; exact h.elim
    | some o =>
      rw [ho] at h
      obtain ⟨v, hy, hS, hn⟩ := h
      rw [List.length_cons, Nat.add_right_comm]
      refine wpAnyX_first ho (Region.noSelect_spec hsel) (fun c a w h => h.elim) (fun j hj => ?_) _ _ _ _ (Region.free_spec ho hf) hcl (by simpa using hr) hy hS (X_of_F hsel hlen r _ _ _ (hcl.set (by simpa using hr)) hrest hn)
      exact List.all_eq_true.1 hs j (by simpa using hj)
  | (i', false) :: r, listed, a, w, hcl, hb, h => by
    simp only [schedF, Bool.and_eq_true, beq_iff_eq] at hb
    obtain ⟨hr, hrest⟩ := hb
    rw [List.length_cons, Nat.add_right_comm]
    refine ⟨fun h0 => absurd (hr ▸ h0 : [i'] = []) (by simp), fun q hq => ?_⟩
    rw [hr] at hq
    obtain rfl : q = i' := by simpa using hq
    simp only [List.map_cons] at h
    have hm := hcl.set (i := q) (by rw [hr]; simp)
    unfold wpOp
    cases ho : ops[q]? with
    | none => rw [ho] at h; exact h.elim
    | some o =>
      rw [ho] at h
      simp only [wpT] at h ⊢
      split
      · rename_i hw
        rw [if_pos hw] at h
        refine .inl (wp_monoQ ?_ ?_ ?_ h)
        · intro a' w' h'
          exact ⟨h'.1, X_of_F hsel hlen r _ _ _ hm hrest h'.2⟩
        · intro c a w h; exact h.elim
        · intro a w h; exact h
      · rename_i hw
        rw [if_neg hw] at h
        exact ⟨h.1, X_of_F hsel hlen r _ _ _ hm hrest h.2⟩

/-- the region, walked by a schedule up to a fork, and by two behind it -/
theorem region_fork {id : Nat} {ops : List Oper} {a : Act} {w : World} (S : World → Prop) (l : List (Nat × Bool)) (i j : Nat) (r1 r2 : List (Nat × Bool)) (sd : List Nat)
    (hm : P.follows .mixedOrders = true) (hsel : Region.noSelect ops.toArray = true) (hn : (l.length + (r1.length + 1) == ops.length && r1.length == r2.length) = true)
    (hb : schedF .any ops.toArray sd i j r1 r2 l (Array.replicate ops.toArray.size false) = true)
    (h : wpT P ops.toArray (NoPanic (Fork Q (fun a w => wpT P ops.toArray (NoPanic Q) S sd (((i, false) :: r1).map fun p => (p.1, p.2, ops[p.1]?)) a w) (fun a w => wpT P ops.toArray (NoPanic Q) S sd (((j, false) :: r2).map fun p => (p.1, p.2, ops[p.1]?)) a w))) S sd (l.map fun p => (p.1, p.2, ops[p.1]?)) a w.drew) : (Code.region id ops.toArray true).wp P Q a w := by
  refine wp_region_noPanic (wp_region_any hm (wpAny_of_X (S := S) (sd := sd) _ _ _ _ ?_))
  rw [Bool.and_eq_true, beq_iff_eq, beq_iff_eq] at hn
  have e : ops.toArray.size = l.length + (r1.length + 1) := by simpa using hn.1.symm
  have := X_of_F (P := P) (Q := Q) (S := S) (w := w.drew) (md := .any) (sd := sd) hsel hn.2 l _ a (fun j oj _ hl => by simp [Array.getD] at hl) hb (by simpa using h)
  rw [e] at this ⊢
  exact this
theorem Fork.both {A B : Act → World → Prop} {a : Act} {w : World} (hA : A a w) (hB : B a w) : Fork Q A B .normal a w := ⟨hA, hB⟩
end
end Go.XR

/- The walk over extent.Take. -/
namespace Go.Proofs.YtoahjhogjjdkhaaGreatDoor
open Go.RowKit Go.XR Go.NamesPure Go.TreePure
theorem rowC_set33 (k : KeyT) (p q v : Int) : (rowC (k, ⟨p, q⟩)).setIfInBounds 33 (.int .i64 v) = rowC (k, ⟨v, q⟩) := by
  apply Array.ext'
  rw [Array.toList_setIfInBounds]
  unfold rowC rowL
  rw [List.set_append_right _ _ (by rw [keyL_length]; omega), keyL_length]; rfl
theorem rowC_set34 (k : KeyT) (p q v : Int) : (rowC (k, ⟨p, q⟩)).setIfInBounds 34 (.int .i64 v) = rowC (k, ⟨p, v⟩) := by
  apply Array.ext'
  rw [Array.toList_setIfInBounds]
  unfold rowC rowL
  rw [List.set_append_right _ _ (by rw [keyL_length]; omega), keyL_length]; rfl
theorem rowsN_get : ∀ (n : Nat) (b : List UInt8) (k : Nat) (h : k < (rowsN n b).length), (rowsN n b)[k] = extOf ((b.drop (40 * k)).take 40)
  | 0, b, k, h => by rw [rowsN_length] at h; omega
  | n + 1, b, 0, h => by simp [rowsN]
  | n + 1, b, k + 1, h => by
    have h2 : k < (rowsN n (b.drop 40)).length := by rw [rowsN_length] at h ⊢; omega
    have := rowsN_get n (b.drop 40) k h2
    simp only [rowsN, List.getElem_cons_succ]
    rw [this, List.drop_drop, show 40 + 40 * k = 40 * (k + 1) by omega]
theorem run_arr (w : World) (a : Option Addr) (n c : Nat) (h : 32 ≤ n) : (Instr.arrayAt 105 (.slice a n c)).run Tryz.prog w = .ok (.pointer a) w := by
  have hu := run_underlying Tryz.underlying105 w
  unfold Instr.arrayAt
  simp only [Sem.run_bind, hu, Result.andThen_ok]
  rw [if_neg (by omega)]
  simp
theorem zero_key : ∃ zs : Array Value, zs.size = 33 ∧ ∀ w, (zeroValue 108).run Tryz.prog w = .ok (.agg zs) w := ⟨_, rfl, fun w => Tryz.zeroValue108 w⟩
theorem run_build_key (d : Vector UInt8 32) (n : UInt32) (w : World) : (Instr.build 108 #[(0, sumV d), (1, .int .u32 (n.toNat : Int))]).run Tryz.prog w = .ok (keyV ⟨d, n⟩) w := by
  obtain ⟨zs, hzs, hz⟩ : ∃ zs : Array Value, zs.size = 33 ∧ ∀ w, (zeroValue 108).run Tryz.prog w = .ok (.agg zs) w := ⟨_, rfl, fun w => Tryz.zeroValue108 w⟩
  obtain ⟨f1, f2, ht, o1, o2, t1, t2⟩ : ∃ f1 f2, Tryz.prog.underlying 108 = some (.struct #[f1, f2]) ∧ f1.offset = 0 ∧ f2.offset = 32 ∧ f1.type = 105 ∧ f2.type = 106 :=
    ⟨_, _, Tryz.underlying108, rfl, rfl, rfl, rfl⟩
  have hs1 : (sizeOf f1.type).run Tryz.prog w = .ok 32 w := by rw [t1]; exact run_sizeOf_eq (by kernel_rfl)
  have hs2 : (sizeOf f2.type).run Tryz.prog w = .ok 1 w := by rw [t2]; exact run_sizeOf_eq (by kernel_rfl)
  have hm : ((#[f1, f2] : Array Field).mapM fun (f : Field) => do pure (f.offset, ← sizeOf f.type) : Sem (Array (Nat × Nat))).run Tryz.prog w = .ok #[(0, 32), (32, 1)] w := by
    rw [Array.mapM_eq_mapM_toList]
    simp [Sem.run_bind, hs1, hs2, o1, o2, Result.andThen]
  have hfill : Instr.fill ((#[(0, 32), (32, 1)] : Array (Nat × Nat))[·]?) zs [(0, sumV d), (1, .int .u32 (n.toNat : Int))] = some (keyC ⟨d, n⟩) := by
    rw [fill_step (i := 0) (off := 0) (size := 32) (v := sumV d) ((#[(0, 32), (32, 1)] : Array (Nat × Nat))[·]?) zs _ rfl (sumC_size d) (by omega)]
    rw [fill_step (i := 1) (off := 32) (size := 1) (v := .int .u32 (n.toNat : Int)) ((#[(0, 32), (32, 1)] : Array (Nat × Nat))[·]?) _ [] rfl rfl (by simp [Value.cells, sumC_size, hzs])]
    unfold Instr.fill
    refine congrArg some ?_
    apply Array.ext'
    have e1 : (sumC d).toList = sumL d := rfl
    simp [Value.cells, keyC, keyL, e1, sumL_length, hzs]
  unfold Instr.build
  simp only [Sem.run_bind, hz, Result.andThen_ok, run_underlying ht, hm]
  have hz2 : (Value.agg zs).cells = zs := rfl
  rw [hz2]
  simp only [hfill, Sem.run_pure]
/-- an extent built of a key alone -/
theorem run_build_ext (k : KeyT) (w : World) : (Instr.build 110 #[(0, keyV k)]).run Tryz.prog w = .ok (rowV (k, ⟨0, 0⟩)) w := by
  obtain ⟨zs, hzs, hz34, hz⟩ : ∃ zs : Array Value, zs.size = 35 ∧ zs.toList.drop 33 = [.int .i64 0, .int .i64 0] ∧ ∀ w, (zeroValue 110).run Tryz.prog w = .ok (.agg zs) w := ⟨_, rfl, rfl, fun w => Tryz.zeroValue110 w⟩
  obtain ⟨f1, f2, f3, ht, o1, o2, o3, t1, t2, t3⟩ : ∃ f1 f2 f3, Tryz.prog.underlying 110 = some (.struct #[f1, f2, f3]) ∧ f1.offset = 0 ∧ f2.offset = 33 ∧ f3.offset = 34 ∧ f1.type = 108 ∧ f2.type = 3 ∧ f3.type = 3 :=
    ⟨_, _, _, Tryz.underlying110, rfl, rfl, rfl, rfl, rfl, rfl⟩
  have hs1 : (sizeOf f1.type).run Tryz.prog w = .ok 33 w := by rw [t1]; exact run_sizeOf_eq (by kernel_rfl)
  have hs2 : (sizeOf f2.type).run Tryz.prog w = .ok 1 w := by rw [t2]; exact run_sizeOf_eq (by kernel_rfl)
  have hs3 : (sizeOf f3.type).run Tryz.prog w = .ok 1 w := by rw [t3]; exact run_sizeOf_eq (by kernel_rfl)
  have hm : ((#[f1, f2, f3] : Array Field).mapM fun (f : Field) => do pure (f.offset, ← sizeOf f.type) : Sem (Array (Nat × Nat))).run Tryz.prog w = .ok #[(0, 33), (33, 1), (34, 1)] w := by
    rw [Array.mapM_eq_mapM_toList]
    simp [Sem.run_bind, hs1, hs2, hs3, o1, o2, o3, Result.andThen]
  have hfill : Instr.fill ((#[(0, 33), (33, 1), (34, 1)] : Array (Nat × Nat))[·]?) zs [(0, keyV k)] = some (rowC (k, ⟨0, 0⟩)) := by
    rw [fill_step (i := 0) (off := 0) (size := 33) (v := keyV k) ((#[(0, 33), (33, 1), (34, 1)] : Array (Nat × Nat))[·]?) zs _ rfl (keyC_size k) (by omega)]
    unfold Instr.fill
    refine congrArg some ?_
    apply Array.ext'
    have e1 : (keyC k).toList = keyL k := rfl
    simp [Value.cells, rowC, rowL, e1, hz34, placeL]
  unfold Instr.build
  simp only [Sem.run_bind, hz, Result.andThen_ok, run_underlying ht, hm]
  have hz2 : (Value.agg zs).cells = zs := rfl
  rw [hz2]
  simp only [hfill, Sem.run_pure]
theorem wp_build_key {w : World} {o : Oper} {a : Act} {K : Act → World → Prop} {Q : Exit → Act → World → Prop} (x y : Operand) (ho : o.op = .build 108 #[(0, x), (1, y)]) (d : Vector UInt8 32) (n : UInt32)
    (hx : a.eval x = sumV d) (hy : a.eval y = .int .u32 (n.toNat : Int)) (hK : K (a.put o.dst (keyV ⟨d, n⟩)) w) : o.wp Tryz.prog a w K Q := by
  have hr := run_build_key d n w
  unfold Oper.wp execOp
  simp only [ho, List.map_toArray, List.map_cons, List.map_nil, hx, hy, Sem.run_bind, hr, Result.andThen_ok, Sem.run_pure]
  exact hK
theorem wp_build_ext {w : World} {o : Oper} {a : Act} {K : Act → World → Prop} {Q : Exit → Act → World → Prop} (x : Operand) (ho : o.op = .build 110 #[(0, x)]) (k : KeyT)
    (hx : a.eval x = keyV k) (hK : K (a.put o.dst (rowV (k, ⟨0, 0⟩))) w) : o.wp Tryz.prog a w K Q := by
  have hr := run_build_ext k w
  unfold Oper.wp execOp
  simp only [ho, List.map_toArray, List.map_cons, List.map_nil, hx, Sem.run_bind, hr, Result.andThen_ok, Sem.run_pure]
  exact hK
theorem wp_alloc_new {w : World} {o : Oper} {a : Act} {K : Act → World → Prop} {Q : Exit → Act → World → Prop} (ty : TypeId) (ho : o.op = .alloc ty) (zs : Array Value) (hz : (zeroValue ty).run Tryz.prog w = .ok (.agg zs) w)
    (hK : K (a.put o.dst (.pointer (some ⟨w.heap.size, 0, none⟩))) (w.alloc (.cells zs ty))) : o.wp Tryz.prog a w K Q := by
  have hr : (Instr.alloc ty true (.tuple #[])).run Tryz.prog w = .ok (.pointer (some ⟨w.heap.size, 0, none⟩)) (w.alloc (.cells zs ty)) := by
    unfold Instr.alloc
    rw [Sem.run_bind, hz]
    simp only [Result.andThen_ok, newVar, newRow, newObj, Value.cells]
    rfl
  unfold Oper.wp execOp
  simp only [ho, Sem.run_bind, hr, Result.andThen_ok, Sem.run_pure]
  exact hK
set_option maxRecDepth 100000 in
theorem wp_alloc_m {w : World} {dst : Option Tmp} {ty t' : TypeId} {pos : String} {after : Array Edge} {guard : Option (Nat × Bool)} {a : Act} {K : Act → World → Prop} {Q : Exit → Act → World → Prop} (zs : Array Value) (hz : (zeroValue ty).run Tryz.prog w = .ok (.agg zs) w)
    (hK : Oper.wp Tryz.prog ⟨dst, .move (.const (.pointer (some ⟨w.heap.size, 0, none⟩))), t', "", #[], none⟩ a (w.alloc (.cells zs ty)) K (fun _ _ _ => False)) : Oper.wp Tryz.prog ⟨dst, .alloc ty, t', pos, after, guard⟩ a w K Q :=
  wp_alloc_new ty rfl zs hz (by simpa [Oper.wp, execOp, Oper.upon, Act.eval] using hK)
set_option maxRecDepth 100000 in
theorem wp_store_m {w : World} {ty t' : TypeId} {pos : String} {after : Array Edge} {guard : Option (Nat × Bool)} {a : Act} {K : Act → World → Prop} {Q : Exit → Act → World → Prop} (x v : Operand)
    (g : Nat) (hx : a.eval x = .pointer (some ⟨g, 0, none⟩)) (cs cur : Array Value) (hv : a.eval v = .agg cs) (t : TypeId) (hg : w.heap[g]? = some (.cells cur t (0, 0))) (hl : cs.size = cur.size) (h1 : ∀ v ∈ cs.toList, v.oneCell' = true)
    (hi : (Tryz.prog.info? ty).map (·.size) = some cs.size) (hK : K a (w.setRow g cs)) : Oper.wp Tryz.prog ⟨none, .store ty x v, t', pos, after, guard⟩ a w K Q :=
  wp_store_at ty x v rfl g 0 hx cs cur hv t hg (by omega) h1 hi (by
    have e : (cur.toList.take 0 ++ cs.toList ++ cur.toList.drop (0 + cs.size)).toArray = cs := by
      rw [List.take_zero, List.nil_append, List.drop_eq_nil_of_le (by rw [Array.length_toList]; omega), List.append_nil]
    rw [e]; exact hK)
/-- a store of an aggregate that ends a region: taken up with the step ahead of it, so that no goal is left that Lean would run -/
theorem next_store {ops : Array Oper} {S : World → Prop} {sd : List Nat} {i j : Nat} {ty t' : TypeId} {pos : String} {after : Array Edge} {x v : Operand} {K : Act → World → Prop} {Q : Exit → Act → World → Prop} {A : Act} {W : World}
    (hK : ∀ a' w', ((sd.contains i = false → S w') ∧ wpT Tryz.prog ops (NoPanic Q) S sd [(j, false, some ⟨none, .store ty x v, t', pos, after, none⟩)] a' w') → K a' w')
    (hS : sd.contains i = false → S W) (g : Nat) (hx : A.eval x = .pointer (some ⟨g, 0, none⟩)) (cs cur : Array Value) (hv : A.eval v = .agg cs) (t : TypeId) (hg : W.heap[g]? = some (.cells cur t (0, 0))) (hl : cs.size = cur.size) (h1 : ∀ v ∈ cs.toList, v.oneCell' = true)
    (hi : (Tryz.prog.info? ty).map (·.size) = some cs.size) (hS2 : sd.contains j = false → S (W.setRow g cs)) (h : Q .normal A (W.setRow g cs)) : K A W :=
  hK A W ⟨hS, Go.XR.S_heavy (fun K' hK' => wp_store_m x v g hx cs cur hv t hg hl h1 hi (hK' _ _ ⟨hS2, Go.XR.S_nil h⟩))⟩
theorem build_store {ops : Array Oper} {S : World → Prop} {sd : List Nat} {i j d : Nat} {ty t' t1 : TypeId} {pos pos1 : String} {after after1 : Array Edge} {z x v : Operand} {Q : Exit → Act → World → Prop} {A : Act} {W : World}
    (hS : S W) (k : KeyT) (hz : A.eval z = keyV k) (g : Nat) (hx : (A.put (some d) (rowV (k, ⟨0, 0⟩))).eval x = .pointer (some ⟨g, 0, none⟩)) (cs cur : Array Value) (hv : (A.put (some d) (rowV (k, ⟨0, 0⟩))).eval v = .agg cs) (t : TypeId) (hg : W.heap[g]? = some (.cells cur t (0, 0))) (hl : cs.size = cur.size) (h1 : ∀ v ∈ cs.toList, v.oneCell' = true)
    (hi : (Tryz.prog.info? ty).map (·.size) = some cs.size) (hS2 : sd.contains j = false → S (W.setRow g cs)) (h : Q .normal (A.put (some d) (rowV (k, ⟨0, 0⟩))) (W.setRow g cs)) :
    wpT Tryz.prog ops (NoPanic Q) S sd [(i, true, some ⟨some d, .build 110 #[(0, z)], t1, pos1, after1, none⟩), (j, false, some ⟨none, .store ty x v, t', pos, after, none⟩)] A W := by
  refine Go.XR.S_lightV rfl hS (rowV (k, ⟨0, 0⟩)) (fun w' _ => ?_) (Go.XR.S_heavy (fun K' hK' => wp_store_m x v g hx cs cur hv t hg hl h1 hi (hK' _ _ ⟨hS2, Go.XR.S_nil h⟩)))
  have hr := run_build_ext k w'
  unfold execOp
  simp only [List.map_toArray, List.map_cons, List.map_nil, hz, Sem.run_bind, hr, Result.andThen_ok, Sem.run_pure]
end Go.Proofs.YtoahjhogjjdkhaaGreatDoor

/- The walk over extent.Take. -/
namespace Go.Proofs.YtoahjhogjjdkhaaGreatDoor
open Go.RowKit Go.XR Go.NamesPure Go.TreePure
def RetTake (w : World) (r : Option (List Ext)) (e : Ending) (w' : World) : Prop :=
  ∃ a c, e = .returned (.tuple #[.slice a (r.getD []).length c, .int .i64 (if r.isSome then 0 else 160)]) ∧ Row w' a ((r.getD []).flatMap rowL) ∧ (a = none → (r.getD []).length = 0 ∧ c = 0) ∧ Below w.heap.size w w'
theorem RetTake.no (w w' : World) (r : Option (List Ext)) (h : r = none) (hb : Below w.heap.size w w') : RetTake w r (.returned (.tuple #[.slice none 0 0, .int .i64 160])) w' := by
  subst h; exact ⟨none, 0, rfl, .inl rfl, fun _ => ⟨rfl, rfl⟩, hb⟩
theorem getS_any (w : World) (r rq : Nat) (b : List UInt8) (h : RdAt w r rq b 0) (m : Nat) (hm : m ≤ 8) (hl : m ≤ b.length) (hbl : b.length ≤ 2^50) : Calls Tryz.prog 59 #[.pointer (some ⟨r, 0, none⟩), .int .i64 m] w fun e w' => e = .returned (.int .u64 (num (b.take m) : Nat)) ∧ RdAt w' r rq (b.drop m) 0 ∧ But [r] w w' := by
  refine (get_any1 w r rq b 0 h m hm hbl).mono ?_
  rintro e w' ⟨h1, h2, h3⟩
  have e1 : rdGet m b 0 = (num (b.take m), b.drop m, 0) := by unfold rdGet; rw [if_pos rfl, if_neg (by omega)]
  rw [e1] at h1 h2
  exact ⟨h1, h2, h3⟩
theorem take_drop_drop (T : List UInt8) (i k n : Nat) : ((T.drop i).drop k).take n = (T.drop (i + k)).take n := by rw [List.drop_drop]
theorem row_whole (cur cs : Array Value) (h : cs.size = cur.size) : (cur.toList.take 0 ++ cs.toList ++ cur.toList.drop (0 + cs.size)).toArray = cs := by
  rw [List.take_zero, List.nil_append, List.drop_eq_nil_of_le (by rw [Array.length_toList]; omega), List.append_nil]
theorem row_lt {w : World} {g o : Nat} {xs : List Value} (h : Row w (some ⟨g, o, none⟩) xs) (hx : 0 < xs.length) : g < w.heap.size := by
  obtain ⟨g', o', he, hc⟩ := h.get (j := 0) (List.getElem?_eq_getElem hx)
  cases he; exact cell_lt hc
def RowS (g o : Nat) (T : List UInt8) (w : World) : Prop := Row w (some ⟨g, o, none⟩) (T.map byU)
theorem rowS_sum {g o : Nat} {T : List UInt8} {w : World} (h : RowS g o T w) (hT : 32 ≤ T.length) : At w g o (sumC (sumOf T)) := by
  rcases h with h | ⟨g', o', he, h⟩
  · rw [List.map_eq_nil_iff] at h; subst h; simp at hT
  · cases he
    intro j u hj
    refine h j u ?_
    have hj32 : j < 32 := by have := (Array.getElem?_eq_some_iff.1 hj).1; rwa [sumC_size] at this
    rw [sumC_get _ hj32] at hj
    rw [List.getElem?_map, List.getElem?_eq_getElem (by omega), ← hj]
    have : (sumOf T)[j] = T[j] := by
      unfold sumOf
      rw [Vector.getElem_ofFn, List.getD_eq_getElem?_getD, List.getElem?_eq_getElem (by omega), Option.getD_some]
    rw [this]; rfl
theorem wp_arr {w : World} {o : Oper} {a : Act} {K : Act → World → Prop} {Q : Exit → Act → World → Prop} (x : Operand) (ho : o.op = .sliceToArrayPointer 105 x) (p : Option Addr) (n c : Nat) (hn : 32 ≤ n)
    (hx : a.eval x = .slice p n c) (hK : K (a.put o.dst (.pointer p)) w) : o.wp Tryz.prog a w K Q := by
  have hr := run_arr w p n c hn
  unfold Oper.wp execOp
  simp only [ho, hx, Sem.run_bind, hr, Result.andThen_ok, Sem.run_pure]
  exact hK
set_option maxHeartbeats 4000000 in
set_option maxRecDepth 100000 in
theorem take_any (w : World) (a : Option Addr) (c : Nat) (b : List UInt8) (hR : Row w a (b.map byU)) (hc : b.length ≤ c) (hn : a = none → b.length = 0 ∧ c = 0) (hbl : b.length ≤ 2^40) :
    Calls Tryz.prog 105 #[.slice a b.length c] w (RetTake w (takeP b)) := by
  have HR := Lib.hid hR
  clear hR
  by_cases h4 : b.length < 4
  · have hlt : (b.length : Int) < 4 := by omega
    have E : Hid (takeP b = none) := by unfold Hid takeP formP; rw [decide_eq_false (by omega : ¬ 4 ≤ b.length)]; rfl
    go_enter Tryz.func105, Tryz.ntmps105
    go_wp2
    go_ret2
    exact RetTake.no w _ _ E.out (Below.refl _ _)
  · have hlt : ¬ (b.length : Int) < 4 := by omega
    by_cases h40 : (b.length - 4) % 40 = 0
    · have hmod : ¬ (0 : Int) < ((b.length : Int) - 4) % 40 := by omega
      have h04 : (0 : Int) ≤ (b.length : Int) - 4 := by omega
      have h4c : 4 ≤ c := by omega
      have h4i : (4 : Int) ≤ (b.length : Int) := by omega
      have hnn : a = none → (b.take 4).length = 0 ∧ c = 0 := fun e => by have := hn e; omega
      have hl4 : (b.take 4).length = 4 := by rw [List.length_take]; omega
      have HNew := Lib.hid (newr_any w a c (b.take 4) (by rw [List.map_take]; exact HR.out.take 4) hnn (by omega))
      rw [hl4] at HNew
      have Hl4 := Lib.hid hl4
      clear hl4 hnn
      obtain ⟨q, hq⟩ : ∃ q : Nat, ((b.length : Int) - 4) / 40 = q := ⟨(b.length - 4) / 40, by omega⟩
      have Hq : Hid (q = (b.length - 4) / 40) := by unfold Hid; omega
      have hq40 : q ≤ 2^40 := by omega
      go_enter Tryz.func105, Tryz.ntmps105
      go_wp2_with fail
      refine HNew.out.mono ?_
      rintro e w1 ⟨r, rq, rfl, hrw, _, _, hrd, hb1⟩
      go_wp2_with fail
      refine (getS_any w1 r rq (b.take 4) hrd 4 (by omega) (by have := Hl4.out; omega) (by have := Hl4.out; omega)).mono ?_
      rintro e w2 ⟨rfl, hrd2, hb2⟩
      rw [show (b.take 4).take 4 = b.take 4 from by rw [List.take_take]; rfl]
      have Hb2 : Hid (Below w.heap.size w w2) := hb1.trans (hb2.below hb1.size (fun i hi => by rw [List.mem_singleton] at hi; omega))
      clear hrd hb1 hrd2 hb2 HNew
      by_cases hf : num (b.take 4) = q
      · have hne3 : (((num (b.take 4) : Nat) : Int) != ((b.length : Int) - 4) / 40) = false := by rw [hq, hf]; simp
        obtain ⟨A, hA⟩ : ∃ A, rowsN q (b.drop 4) = A := ⟨_, rfl⟩
        have HA := Lib.hid hA
        have hAl : A.length = q := by rw [← hA, rowsN_length]
        have HAl := Lib.hid hAl
        have E : Hid (takeP b = if rightP A then some A else none) := by
          unfold Hid takeP formP
          rw [← Hq.out, hA, decide_eq_true hf, decide_eq_true h40, decide_eq_true (by omega : 4 ≤ b.length)]
          rfl
        clear hA hAl
        have HQ4 : Hid (b.length = 4 + 40 * q) := by unfold Hid; have := Hq.out; omega
        have hg : ∃ g o, a = some ⟨g, o, none⟩ := by
          rcases HR.out with h | ⟨g, o, h, _⟩
          · rw [List.map_eq_nil_iff] at h; subst h; simp at h4
          · exact ⟨g, o, h⟩
        obtain ⟨g, o, rfl⟩ := hg
        obtain ⟨ze, hze, hz⟩ := zero_ext
        have Hz := Lib.hid hz
        have hf' := Lib.hid hf
        clear hz hf hq hn
        by_cases hc4 : c = 4
        · have hb4 : b.length = 4 := by omega
          have E2 : Hid (takeP b = some []) := by
            have hq0 : q = 0 := by have := HQ4.out; omega
            have hA0 : A = [] := List.eq_nil_of_length_eq_zero (by rw [HAl.out, hq0])
            unfold Hid; rw [E.out, hA0]; rfl
          clear hb4
          subst hc4
          go_wp2
          clear hne3 h4i h04 hmod hlt
          go_loopg [0, 4] 0 (fun m v lv wr => v = .slice (some ⟨g, o, none⟩) 0 0 ∧ lv = .slice none 0 0 ∧ w2 = wr)
          case atStart => exact ⟨rfl, rfl, rfl⟩
          case round =>
            obtain ⟨rfl, rfl, rfl⟩ := hrel
            go_wp2_with fail
            refine (right_any w2 none 0 [] (.inl rfl) (by simp)).mono ?_
            rintro e w4 ⟨rfl, hb4⟩
            have Hb4 := Lib.hid (Hb2.out.trans (hb4.mono Hb2.out.size))
            clear hb4
            have hr0 : rightP [] = true := rfl
            rw [hr0]
            go_wp2
            go_ret2
            exact ⟨none, 0, by rw [E2.out]; rfl, by rw [E2.out]; exact .inl rfl, by rw [E2.out]; exact fun _ => ⟨rfl, rfl⟩, Hb4.out⟩
        · go_wp2
          clear hne3 h4i h04 hmod hlt
          go_loopg [0, 4] q (fun m v lv wr => ∃ (k oo cc : Nat) (R : List UInt8) (la : Option Addr) (lc : Nat) (L : List Ext), v = .slice (some ⟨g, oo, none⟩) R.length cc ∧ lv = .slice la L.length lc ∧ Hid (m = q - k ∧ k ≤ q ∧ R = (b.drop 4).drop (40 * k) ∧ R.length ≤ cc ∧ Row w (some ⟨g, oo, none⟩) (R.map byU) ∧ L = A.take k ∧ Below w.heap.size w wr ∧ w2.heap.size ≤ wr.heap.size ∧ wr.ownsRow w2.heap.size 110 35 (.slice la L.length lc) L.length (L.flatMap rowL)))
          case atStart => exact ⟨0, o + 4, c - 4, b.drop 4, none, 0, [], by rw [List.length_drop], rfl, rfl, Nat.zero_le _, rfl, by rw [List.length_drop]; omega, by rw [List.map_drop]; exact Row.drop HR.out 4, rfl, Hb2.out, Nat.le_refl _, World.ownsRow_nil _ _ _ _⟩
          case round =>
            obtain ⟨k, oo, cc, R, la, lc, L, rfl, rfl, hr⟩ := hrel
            have Hm := Lib.hid hr.out.1
            have hkq := hr.out.2.1
            have HRe := Lib.hid hr.out.2.2.1
            have hRc := hr.out.2.2.2.1
            have HRow := Lib.hid hr.out.2.2.2.2.1
            have HL := Lib.hid hr.out.2.2.2.2.2.1
            have Hbw := Lib.hid hr.out.2.2.2.2.2.2.1
            have hw2 := hr.out.2.2.2.2.2.2.2.1
            have Ho := Lib.hid hr.out.2.2.2.2.2.2.2.2
            have HRl : Hid (R.length = 40 * (q - k)) := by
              unfold Hid
              have := HQ4.out
              rw [HRe.out, List.length_drop, List.length_drop]; omega
            clear hr
            by_cases hk : k < q
            · have h40R : 40 ≤ R.length := by have := HRl.out; omega
              have hpos : (0 : Int) < (R.length : Int) := by omega
              have hcc : 40 ≤ cc := by omega
              have hc32 : ¬ cc = 32 := by omega
              have h40i : (40 : Int) ≤ (R.length : Int) := by omega
              obtain ⟨T, hT⟩ : ∃ T, R.take 40 = T := ⟨_, rfl⟩
              have hT40 : T.length = 40 := by rw [← hT, List.length_take]; omega
              have HT := Lib.hid hT
              have HRT : Hid (Row w (some ⟨g, oo, none⟩) (T.map byU)) := by unfold Hid; rw [← hT, List.map_take]; exact HRow.out.take 40
              have HT40 := Lib.hid hT40
              have HRQ : Hid (Row w (some ⟨g, oo + 32, none⟩) ((T.drop 32).map byU)) := by unfold Hid; rw [List.map_drop]; exact Row.drop HRT.out 32
              have hQl : (T.drop 32).length = 8 := by rw [List.length_drop, hT40]
              have HNew := Lib.hid (newr_any wr (some ⟨g, oo + 32, none⟩) (cc - 32) (T.drop 32) (HRQ.out.below Hbw.out) (fun e => by cases e) (by rw [hQl]; omega))
              rw [hQl] at HNew
              clear hT hT40 hQl
              go_wp2_with fail
              refine HNew.out.mono ?_
              rintro e w3 ⟨r, rq, rfl, hrw3, hqw3, hql3, hrd3, hb3⟩
              have hrl3 := hrd3.lt
              have HRd3 := Lib.hid hrd3
              have Hb3 := Lib.hid hb3
              clear hrd3 hb3 HNew
              go_wp2_with fail
              have hgl : g < w.heap.size := row_lt HRT.out (by rw [List.length_map, HT40.out]; omega)
              have hww : w.heap.size ≤ wr.heap.size := Hbw.out.size
              have hR3 : Row w3 (some ⟨g, oo, none⟩) (T.map byU) := HRT.out.below (Hbw.out.trans (Hb3.out.mono Hbw.out.size))
              obtain ⟨v1, hv1⟩ : ∃ v1, num ((T.drop 36).take 2) = v1 := ⟨_, rfl⟩
              obtain ⟨v2, hv2⟩ : ∃ v2, num ((T.drop 38).take 2) = v2 := ⟨_, rfl⟩
              have hv1l : v1 < 65536 := by have := num_lt ((T.drop 36).take 2); rw [List.length_take, List.length_drop, HT40.out] at this; rw [← hv1]; simpa using this
              have hv2l : v2 < 65536 := by have := num_lt ((T.drop 38).take 2); rw [List.length_take, List.length_drop, HT40.out] at this; rw [← hv2]; simpa using this
              have Hv1 := Lib.hid hv1
              have Hv2 := Lib.hid hv2
              clear hv1 hv2
              have hS0 : RowS g oo T w3.drew := hR3.below ((Below.refl _ _).drew)
              have HRd4 := Lib.hid (HRd3.out.below ((Below.refl _ _).drew))
              have HTk : Hid ((T.drop 32).take 4 = (T.drop 32).take 4 ∧ num ((T.drop 32).take 4) < 4294967296) := ⟨rfl, by have := num_lt ((T.drop 32).take 4); rw [List.length_take, List.length_drop, HT40.out] at this; simpa using this⟩
              obtain ⟨nn, hnn⟩ : ∃ nn : UInt32, nn.toNat = num ((T.drop 32).take 4) := ⟨UInt32.ofNat (num ((T.drop 32).take 4)), by rw [UInt32.toNat_ofNat']; exact Nat.mod_eq_of_lt HTk.out.2⟩
              have hn32 : nn.toNat < 4294967296 := nn.toNat_lt
              have Hnn := Lib.hid hnn
              clear hnn
              refine Go.XR.region_fork ((RowS g oo T)) [(0, true), (1, true), (2, true), (3, true), (4, true)] 5 9 [(6, true), (7, true), (8, true), (9, false), (10, false)] [(5, false), (6, true), (7, true), (8, true), (10, false)] [10] Tryz.mixed (by kernel_rfl) (by kernel_rfl) (by kernel_rfl) ?_
              simp only [List.map_cons, List.map_nil, List.getElem?_cons_succ, List.getElem?_cons_zero]
              repeat (first | (refine Go.XR.S_light rfl rfl (by assumption) ?_ (fun w' hS K hK => ?_) (fun K hK => ?_); rotate_left 1; (have hS1 := hS; (first | (first | (refine Go.XR.wp_load_at 105 _ rfl g oo rfl (sumC (sumOf T)) (rowS_sum hS (by have := HT40.out; omega)) _ Tryz.underlying105 rfl (by rw [sumC_size]; kernel_rfl) ?_) | (refine wp_arr _ rfl (some ⟨g, oo, none⟩) 32 cc (by omega) rfl ?_) | (refine wp_build_key _ _ rfl (sumOf T) nn rfl rfl ?_) | (refine wp_build_ext _ rfl ⟨sumOf T, nn⟩ rfl ?_)) | go_step); exact hK); go_step; refine hK _ ?_; clear hK K))
              refine Go.XR.S_nil ?_
              refine Go.XR.Fork.both ?_ ?_
              · refine Go.XR.S_heavy (fun K hK => ?_)
                go_step
                refine (getS_any _ r rq (T.drop 32) HRd4.out 4 (by omega) (by rw [List.length_drop]; have := HT40.out; omega) (by rw [List.length_drop]; have := HT40.out; omega)).mono ?_
                rintro e w4 ⟨rfl, hrd4, hb4⟩
                rw [← Hnn.out]
                rw [List.drop_drop] at hrd4
                have HRd5 := Lib.hid hrd4
                have hS4 : RowS g oo T w4 := Row.but hS0 hb4 (fun g' o' e hm => by cases e; rw [List.mem_singleton] at hm; omega)
                have Hb5 : Hid (Below wr.heap.size wr w4) := Hb3.out.trans ((Below.refl wr.heap.size w3).drew.trans (hb4.below (by have := Hb3.out.size; exact this) (fun i hi => by rw [List.mem_singleton] at hi; omega)))
                have hsz4 : w3.heap.size ≤ w4.heap.size := hb4.size
                clear hrd4 hb4 HRd4
                refine hK _ _ ⟨fun _ => hS4, ?_⟩
                clear hK K
                repeat (first | (refine Go.XR.S_light rfl rfl (by assumption) ?_ (fun w' hS K hK => ?_) (fun K hK => ?_); rotate_left 1; (have hS1 := hS; (first | (first | (refine Go.XR.wp_load_at 105 _ rfl g oo rfl (sumC (sumOf T)) (rowS_sum hS (by have := HT40.out; omega)) _ Tryz.underlying105 rfl (by rw [sumC_size]; kernel_rfl) ?_) | (refine wp_arr _ rfl (some ⟨g, oo, none⟩) 32 cc (by omega) rfl ?_) | (refine wp_build_key _ _ rfl (sumOf T) nn rfl rfl ?_) | (refine wp_build_ext _ rfl ⟨sumOf T, nn⟩ rfl ?_)) | go_step); exact hK); go_step; refine hK _ ?_; clear hK K))
                refine Go.XR.S_heavy (fun K hK => ?_)
                have hS5 : RowS g oo T (w4.alloc (.cells ze 110)) := by unfold RowS at hS4 ⊢; exact Row.alloc' hS4 _
                refine wp_alloc_m ze (Hz.out _) ?_
                go_step
                refine next_store hK (fun _ => hS5) w4.heap.size rfl (rowC (⟨sumOf T, nn⟩, ⟨0, 0⟩)) ze rfl 110 (heap_new _ _) (by rw [rowC_size, hze]) (one_rowC _) (extSize _) (fun h => by simp at h) ?_
                clear hK K
                rw [alloc_setRow]
                have HX8 : Hid ((w4.alloc (.cells (rowC (⟨sumOf T, nn⟩, ⟨0, 0⟩)) 110)).heap[w4.heap.size]? = some (.cells (rowC (⟨sumOf T, nn⟩, ⟨0, 0⟩)) 110 (0, 0))) := heap_new _ _
                have HRd8 : Hid (RdAt (w4.alloc (.cells (rowC (⟨sumOf T, nn⟩, ⟨0, 0⟩)) 110)) r rq (T.drop 36) 0) := HRd5.out.below ((Below.refl _ _).alloc (Nat.le_refl _) _)
                have Hb8 : Hid (Below wr.heap.size wr (w4.alloc (.cells (rowC (⟨sumOf T, nn⟩, ⟨0, 0⟩)) 110))) := Hb5.out.alloc Hb5.out.size _
                clear HRd5 Hb5 hS4 hS5
                obtain ⟨xb, hxb⟩ : ∃ xb, w4.heap.size = xb := ⟨_, rfl⟩
                have hxr : r ≠ xb ∧ rq ≠ xb ∧ wr.heap.size ≤ xb := by have := Hb3.out.size; omega
                obtain ⟨W8, hW8⟩ : ∃ W8, w4.alloc (.cells (rowC (⟨sumOf T, nn⟩, ⟨0, 0⟩)) 110) = W8 := ⟨_, rfl⟩
                rw [hW8, hxb] at HX8
                rw [hW8] at HRd8 Hb8 ⊢
                rw [hxb]
                clear hW8 hxb hsz4
                go_wp2_with fail
                refine (getS_any W8 r rq (T.drop 36) HRd8.out 2 (by omega) (by rw [List.length_drop]; have := HT40.out; omega) (by rw [List.length_drop]; have := HT40.out; omega)).mono ?_
                rintro e w9 ⟨rfl, hrd9, hb9⟩
                rw [Hv1.out]
                rw [List.drop_drop] at hrd9
                have HX9 : Hid (w9.heap[xb]? = some (.cells (rowC (⟨sumOf T, nn⟩, ⟨0, 0⟩)) 110 (0, 0))) := (hb9.block xb (blk_lt HX8.out) (by simp; exact fun e => hxr.1 e.symm)).trans HX8.out
                have Hb9 : Hid (Below wr.heap.size wr w9) := Hb8.out.trans (hb9.below Hb8.out.size (fun i hi => by rw [List.mem_singleton] at hi; omega))
                have f33 : w9.frozen? ⟨xb, 33, none⟩ = false := frozen_of_row w9 xb 33 _ _ HX9.out
                have c33 : w9.cell? ⟨xb, 33, none⟩ = some (.int .i64 0) := by rw [cells_of HX9.out]; exact rowC_shelf _
                have hbx9 : But [xb] w9 (w9.setCell ⟨xb, 33, none⟩ (.int .i64 (v1 : Int))) := But.setCell (But.refl _ _) (.inl (by simp)) _
                have HRdA : Hid (RdAt (w9.setCell ⟨xb, 33, none⟩ (.int .i64 (v1 : Int))) r rq (T.drop 38) 0) := hrd9.but hbx9 (by simp; exact hxr.1) (by simp; exact hxr.2.1)
                have HXA : Hid ((w9.setCell ⟨xb, 33, none⟩ (.int .i64 (v1 : Int))).heap[xb]? = some (.cells (rowC (⟨sumOf T, nn⟩, ⟨(v1 : Int), 0⟩)) 110 (0, 0))) := by
                  unfold Hid
                  rw [heap_setCell_at HX9.out, rowC_set33]
                have HbA : Hid (Below wr.heap.size wr (w9.setCell ⟨xb, 33, none⟩ (.int .i64 (v1 : Int)))) := Hb9.out.trans (hbx9.below Hb9.out.size (fun i hi => by rw [List.mem_singleton] at hi; omega))
                clear hrd9 hb9 HRd8 HX8 Hb8 hbx9 HX9 Hb9
                go_wp2_with fail
                clear f33 c33
                obtain ⟨WA, hWA⟩ : ∃ WA, w9.setCell ⟨xb, 33, none⟩ (.int .i64 (v1 : Int)) = WA := ⟨_, rfl⟩
                rw [hWA] at HRdA HXA HbA ⊢
                clear hWA
                refine (getS_any WA r rq (T.drop 38) HRdA.out 2 (by omega) (by rw [List.length_drop]; have := HT40.out; omega) (by rw [List.length_drop]; have := HT40.out; omega)).mono ?_
                rintro e wB ⟨rfl, hrdB, hbB⟩
                rw [Hv2.out]
                have HXB : Hid (wB.heap[xb]? = some (.cells (rowC (⟨sumOf T, nn⟩, ⟨(v1 : Int), 0⟩)) 110 (0, 0))) := (hbB.block xb (blk_lt HXA.out) (by simp; exact fun e => hxr.1 e.symm)).trans HXA.out
                have HbB : Hid (Below wr.heap.size wr wB) := HbA.out.trans (hbB.below HbA.out.size (fun i hi => by rw [List.mem_singleton] at hi; omega))
                have f34 : wB.frozen? ⟨xb, 34, none⟩ = false := frozen_of_row wB xb 34 _ _ HXB.out
                have c34 : wB.cell? ⟨xb, 34, none⟩ = some (.int .i64 0) := by rw [cells_of HXB.out]; exact rowC_slot _
                have hbxB : But [xb] wB (wB.setCell ⟨xb, 34, none⟩ (.int .i64 (v2 : Int))) := But.setCell (But.refl _ _) (.inl (by simp)) _
                have HXC : Hid ((wB.setCell ⟨xb, 34, none⟩ (.int .i64 (v2 : Int))).heap[xb]? = some (.cells (rowC (⟨sumOf T, nn⟩, ⟨(v1 : Int), (v2 : Int)⟩)) 110 (0, 0))) := by
                  unfold Hid
                  rw [heap_setCell_at HXB.out, rowC_set34]
                have HbC : Hid (Below wr.heap.size wr (wB.setCell ⟨xb, 34, none⟩ (.int .i64 (v2 : Int)))) := HbB.out.trans (hbxB.below HbB.out.size (fun i hi => by rw [List.mem_singleton] at hi; omega))
                have HAtC : Hid (At (wB.setCell ⟨xb, 34, none⟩ (.int .i64 (v2 : Int))) xb 0 (rowC (⟨sumOf T, nn⟩, ⟨(v1 : Int), (v2 : Int)⟩))) := fun j u hj => by rw [Nat.zero_add, cells_of HXC.out]; exact hj
                have HoC : Hid ((wB.setCell ⟨xb, 34, none⟩ (.int .i64 (v2 : Int))).ownsRow w2.heap.size 110 35 (.slice la L.length lc) L.length (L.flatMap rowL)) := owns_below Ho.out HbC.out
                clear hrdB hbB HRdA HXA HbA hbxB HXB HbB HXC
                obtain ⟨WC, hWC⟩ : ∃ WC, wB.setCell ⟨xb, 34, none⟩ (.int .i64 (v2 : Int)) = WC := ⟨_, rfl⟩
                rw [hWC] at HbC HAtC HoC
                have hLl : L.length = k := by rw [HL.out, List.length_take, HAl.out]; omega
                have HLl := Lib.hid hLl
                clear hLl
                go_wp2_with (first | (refine wpList_load_at rfl 110 (.tmp 6) rfl xb 0 rfl (rowC (⟨sumOf T, nn⟩, ⟨(v1 : Int), (v2 : Int)⟩)) HAtC.out _ Tryz.underlying110 rfl (extSize _) ?_) | (refine wpList_build_one rfl 33 (.tmp 57) rfl 110 35 Tryz.underlying33 (by kernel_rfl) (by omega) (by omega) _ (Hz.out _) (rowC (⟨sumOf T, nn⟩, ⟨(v1 : Int), (v2 : Int)⟩)) rfl (rowC_size _) ?_) | (at_builtin; refine Go.XR.stop (fun X hX => ?_)))
                refine hX.out ?_
                clear hX X f34 c34 hWC
                refine wpList_plain rfl (fun K hK => ?_)
                refine append_enc (P := Tryz.prog) rowL 35 56 rowL_length one_rowL 110 Tryz.underlying33 (by kernel_rfl) (by decide) w2.heap.size la lc L rfl (HoC.out.alloc _) (some ⟨WC.heap.size, 0, none⟩) 1 [(⟨sumOf T, nn⟩, ⟨(v1 : Int), (v2 : Int)⟩)] rfl (by rw [List.flatMap_cons, List.flatMap_nil, List.append_nil]; exact Row.new _ _ _) (fun e => by cases e) (by have := HLl.out; simp; omega) (by have := HLl.out; unfold maxLen; simp; omega) (by have := HbC.out.size; simp; omega) ?_
                intro aD cD wD hoD hbD _ _
                obtain ⟨LD, hLD⟩ : ∃ LD, L ++ [(⟨sumOf T, nn⟩, ⟨(v1 : Int), (v2 : Int)⟩)] = LD := ⟨_, rfl⟩
                have HLD : Hid (LD = A.take (k + 1)) := by
                  unfold Hid
                  have hkA : k < A.length := by rw [HAl.out]; exact hk
                  have hAk : A[k] = extOf T := by
                    have h1 : A[k] = (rowsN q (b.drop 4))[k]'(by rw [rowsN_length]; exact hk) := by congr 1; exact HA.out.symm
                    rw [h1, rowsN_get, ← HRe.out, HT.out]
                  have hx : extOf T = ((⟨sumOf T, nn⟩, ⟨(v1 : Int), (v2 : Int)⟩) : Ext) := by
                    unfold extOf
                    rw [Hv1.out, Hv2.out, ← Hnn.out, UInt32.ofNat_toNat]
                  rw [← hLD, HL.out, List.take_succ_eq_append_getElem hkA, hAk, hx]
                rw [hLD] at hoD ⊢
                have HoD := Lib.hid hoD
                have HbD : Hid (Below w.heap.size w wD) := (Hbw.out.trans (HbC.out.mono Hbw.out.size)).trans (((Below.refl _ _).alloc (by have := Hbw.out.size; have := HbC.out.size; omega) _).trans (hbD.mono (by have := Hb2.out.size; omega)))
                have hwD : w2.heap.size ≤ wD.heap.size := by have := HbC.out.size; have := hbD.size; simp at this; omega
                clear hLD hoD hbD HoC HbC HAtC
                have HRd : Hid (R.drop 40 = (b.drop 4).drop (40 * (k + 1))) := by unfold Hid; rw [HRe.out, List.drop_drop]; congr 1
                have HRdl : Hid (((R.drop 40).length : Nat) = R.length - 40) := by unfold Hid; rw [List.length_drop]
                go_step
                refine hK _ _ ?_
                clear hK K
                go_wp2
                · go_roundg (q - (k + 1))
                  case measure => have := Hm.out; omega
                  case rel =>
                    refine ⟨k + 1, oo, 0, R.drop 40, aD, cD, LD, by rw [HRdl.out], rfl, rfl, by omega, HRd.out, by rw [HRdl.out]; omega, ?_, HLD.out, HbD.out, hwD, HoD.out⟩
                    have : R.drop 40 = [] := List.eq_nil_of_length_eq_zero (by rw [HRdl.out]; omega)
                    rw [this]; exact .inl rfl
                · go_roundg (q - (k + 1))
                  case measure => have := Hm.out; omega
                  case rel => exact ⟨k + 1, oo + 40, cc - 40, R.drop 40, aD, cD, LD, by rw [HRdl.out], rfl, rfl, by omega, HRd.out, by rw [HRdl.out]; omega, by rw [List.map_drop]; exact Row.drop HRow.out 40, HLD.out, HbD.out, hwD, HoD.out⟩
              · have hS4 : RowS g oo T (w3.drew.alloc (.cells ze 110)) := by unfold RowS at hS0 ⊢; exact Row.alloc' hS0 _
                have HRd5 := Lib.hid (HRd4.out.below ((Below.refl _ _).alloc (Nat.le_refl _) (.cells ze 110)))
                have Hb4 : Hid (Below wr.heap.size wr (w3.drew.alloc (.cells ze 110))) := Hb3.out.drew.alloc Hb3.out.size _
                have HX4 : Hid ((w3.drew.alloc (.cells ze 110)).heap[w3.heap.size]? = some (.cells ze 110 (0, 0))) := heap_new _ _
                clear HRd4 hS0
                refine Go.XR.S_heavy (fun K hK => ?_)
                refine wp_alloc_m ze (Hz.out _) ?_
                go_step
                obtain ⟨w4, hw4⟩ : ∃ w4, w3.drew.alloc (.cells ze 110) = w4 := ⟨_, rfl⟩
                obtain ⟨xb, hxb⟩ : ∃ xb, w3.drew.heap.size = xb := ⟨_, rfl⟩
                have hxr : r ≠ xb ∧ rq ≠ xb ∧ wr.heap.size ≤ xb := by
                  have h1 : w3.heap.size = xb := hxb
                  have := Hb3.out.size; omega
                have HX4 : Hid (w4.heap[xb]? = some (.cells ze 110 (0, 0))) := by unfold Hid; rw [← hw4, ← hxb]; exact heap_new _ _
                rw [hw4] at hS4 HRd5 Hb4 ⊢
                rw [hxb]
                clear hw4 hxb
                refine hK _ _ ⟨fun _ => hS4, ?_⟩
                clear hK K
                refine Go.XR.S_heavy (fun K hK => ?_)
                go_step
                refine (getS_any _ r rq (T.drop 32) HRd5.out 4 (by omega) (by rw [List.length_drop]; have := HT40.out; omega) (by rw [List.length_drop]; have := HT40.out; omega)).mono ?_
                rintro e w5 ⟨rfl, hrd5, hb5⟩
                rw [← Hnn.out]
                rw [List.drop_drop] at hrd5
                have hbx : But [xb] w5 (w5.setRow xb (rowC (⟨sumOf T, nn⟩, ⟨0, 0⟩))) := But.setRow (But.refl _ _) (.inl (by simp)) _
                have HX5 : Hid (w5.heap[xb]? = some (.cells ze 110 (0, 0))) := (hb5.block xb (blk_lt HX4.out) (by simp; exact fun e => hxr.1 e.symm)).trans HX4.out
                have hS5 : RowS g oo T w5 := Row.but hS4 hb5 (fun g' o' e hm => by cases e; rw [List.mem_singleton] at hm; omega)
                have HRd8 : Hid (RdAt (w5.setRow xb (rowC (⟨sumOf T, nn⟩, ⟨0, 0⟩))) r rq (T.drop 36) 0) := hrd5.but hbx (by simp; exact hxr.1) (by simp; exact hxr.2.1)
                have HX8 : Hid ((w5.setRow xb (rowC (⟨sumOf T, nn⟩, ⟨0, 0⟩))).heap[xb]? = some (.cells (rowC (⟨sumOf T, nn⟩, ⟨0, 0⟩)) 110 (0, 0))) := setRow_heap w5 xb _ _ _ _ HX5.out
                have Hb5 : Hid (Below wr.heap.size wr w5) := Hb4.out.trans (hb5.below Hb4.out.size (fun i hi => by rw [List.mem_singleton] at hi; omega))
                have Hb8 : Hid (Below wr.heap.size wr (w5.setRow xb (rowC (⟨sumOf T, nn⟩, ⟨0, 0⟩)))) := Hb5.out.trans (hbx.below Hb5.out.size (fun i hi => by rw [List.mem_singleton] at hi; omega))
                clear hrd5 hb5 hbx HX4 HRd5 Hb4 hS4 Hb5
                refine hK _ _ ⟨fun _ => hS5, ?_⟩
                clear hK K
                iterate 2 (first | (refine Go.XR.S_light rfl rfl (by assumption) ?_ (fun w' hS K hK => ?_) (fun K hK => ?_); rotate_left 1; (have hS1 := hS; (first | (first | (refine Go.XR.wp_load_at 105 _ rfl g oo rfl (sumC (sumOf T)) (rowS_sum hS (by have := HT40.out; omega)) _ Tryz.underlying105 rfl (by rw [sumC_size]; kernel_rfl) ?_) | (refine wp_arr _ rfl (some ⟨g, oo, none⟩) 32 cc (by omega) rfl ?_) | (refine wp_build_key _ _ rfl (sumOf T) nn rfl rfl ?_) | (refine wp_build_ext _ rfl ⟨sumOf T, nn⟩ rfl ?_)) | go_step); exact hK); go_step; refine hK _ ?_; clear hK K))
                refine build_store hS5 ⟨sumOf T, nn⟩ rfl xb rfl (rowC (⟨sumOf T, nn⟩, ⟨0, 0⟩)) ze rfl 110 HX5.out (by rw [rowC_size, hze]) (one_rowC _) (extSize _) (fun h => by simp at h) ?_
                clear hS5 HX5
                obtain ⟨W8, hW8⟩ : ∃ W8, w5.setRow xb (rowC (⟨sumOf T, nn⟩, ⟨0, 0⟩)) = W8 := ⟨_, rfl⟩
                rw [hW8] at HRd8 HX8 Hb8 ⊢
                clear hW8
                go_wp2_with fail
                refine (getS_any W8 r rq (T.drop 36) HRd8.out 2 (by omega) (by rw [List.length_drop]; have := HT40.out; omega) (by rw [List.length_drop]; have := HT40.out; omega)).mono ?_
                rintro e w9 ⟨rfl, hrd9, hb9⟩
                rw [Hv1.out]
                rw [List.drop_drop] at hrd9
                have HX9 : Hid (w9.heap[xb]? = some (.cells (rowC (⟨sumOf T, nn⟩, ⟨0, 0⟩)) 110 (0, 0))) := (hb9.block xb (blk_lt HX8.out) (by simp; exact fun e => hxr.1 e.symm)).trans HX8.out
                have Hb9 : Hid (Below wr.heap.size wr w9) := Hb8.out.trans (hb9.below Hb8.out.size (fun i hi => by rw [List.mem_singleton] at hi; omega))
                have f33 : w9.frozen? ⟨xb, 33, none⟩ = false := frozen_of_row w9 xb 33 _ _ HX9.out
                have c33 : w9.cell? ⟨xb, 33, none⟩ = some (.int .i64 0) := by rw [cells_of HX9.out]; exact rowC_shelf _
                have hbx9 : But [xb] w9 (w9.setCell ⟨xb, 33, none⟩ (.int .i64 (v1 : Int))) := But.setCell (But.refl _ _) (.inl (by simp)) _
                have HRdA : Hid (RdAt (w9.setCell ⟨xb, 33, none⟩ (.int .i64 (v1 : Int))) r rq (T.drop 38) 0) := hrd9.but hbx9 (by simp; exact hxr.1) (by simp; exact hxr.2.1)
                have HXA : Hid ((w9.setCell ⟨xb, 33, none⟩ (.int .i64 (v1 : Int))).heap[xb]? = some (.cells (rowC (⟨sumOf T, nn⟩, ⟨(v1 : Int), 0⟩)) 110 (0, 0))) := by
                  unfold Hid
                  rw [heap_setCell_at HX9.out, rowC_set33]
                have HbA : Hid (Below wr.heap.size wr (w9.setCell ⟨xb, 33, none⟩ (.int .i64 (v1 : Int)))) := Hb9.out.trans (hbx9.below Hb9.out.size (fun i hi => by rw [List.mem_singleton] at hi; omega))
                clear hrd9 hb9 HRd8 HX8 Hb8 hbx9 HX9 Hb9
                go_wp2_with fail
                clear f33 c33
                obtain ⟨WA, hWA⟩ : ∃ WA, w9.setCell ⟨xb, 33, none⟩ (.int .i64 (v1 : Int)) = WA := ⟨_, rfl⟩
                rw [hWA] at HRdA HXA HbA ⊢
                clear hWA
                refine (getS_any WA r rq (T.drop 38) HRdA.out 2 (by omega) (by rw [List.length_drop]; have := HT40.out; omega) (by rw [List.length_drop]; have := HT40.out; omega)).mono ?_
                rintro e wB ⟨rfl, hrdB, hbB⟩
                rw [Hv2.out]
                have HXB : Hid (wB.heap[xb]? = some (.cells (rowC (⟨sumOf T, nn⟩, ⟨(v1 : Int), 0⟩)) 110 (0, 0))) := (hbB.block xb (blk_lt HXA.out) (by simp; exact fun e => hxr.1 e.symm)).trans HXA.out
                have HbB : Hid (Below wr.heap.size wr wB) := HbA.out.trans (hbB.below HbA.out.size (fun i hi => by rw [List.mem_singleton] at hi; omega))
                have f34 : wB.frozen? ⟨xb, 34, none⟩ = false := frozen_of_row wB xb 34 _ _ HXB.out
                have c34 : wB.cell? ⟨xb, 34, none⟩ = some (.int .i64 0) := by rw [cells_of HXB.out]; exact rowC_slot _
                have hbxB : But [xb] wB (wB.setCell ⟨xb, 34, none⟩ (.int .i64 (v2 : Int))) := But.setCell (But.refl _ _) (.inl (by simp)) _
                have HXC : Hid ((wB.setCell ⟨xb, 34, none⟩ (.int .i64 (v2 : Int))).heap[xb]? = some (.cells (rowC (⟨sumOf T, nn⟩, ⟨(v1 : Int), (v2 : Int)⟩)) 110 (0, 0))) := by
                  unfold Hid
                  rw [heap_setCell_at HXB.out, rowC_set34]
                have HbC : Hid (Below wr.heap.size wr (wB.setCell ⟨xb, 34, none⟩ (.int .i64 (v2 : Int)))) := HbB.out.trans (hbxB.below HbB.out.size (fun i hi => by rw [List.mem_singleton] at hi; omega))
                have HAtC : Hid (At (wB.setCell ⟨xb, 34, none⟩ (.int .i64 (v2 : Int))) xb 0 (rowC (⟨sumOf T, nn⟩, ⟨(v1 : Int), (v2 : Int)⟩))) := fun j u hj => by rw [Nat.zero_add, cells_of HXC.out]; exact hj
                have HoC : Hid ((wB.setCell ⟨xb, 34, none⟩ (.int .i64 (v2 : Int))).ownsRow w2.heap.size 110 35 (.slice la L.length lc) L.length (L.flatMap rowL)) := owns_below Ho.out HbC.out
                clear hrdB hbB HRdA HXA HbA hbxB HXB HbB HXC
                obtain ⟨WC, hWC⟩ : ∃ WC, wB.setCell ⟨xb, 34, none⟩ (.int .i64 (v2 : Int)) = WC := ⟨_, rfl⟩
                rw [hWC] at HbC HAtC HoC
                have hLl : L.length = k := by rw [HL.out, List.length_take, HAl.out]; omega
                have HLl := Lib.hid hLl
                clear hLl
                go_wp2_with (first | (refine wpList_load_at rfl 110 (.tmp 6) rfl xb 0 rfl (rowC (⟨sumOf T, nn⟩, ⟨(v1 : Int), (v2 : Int)⟩)) HAtC.out _ Tryz.underlying110 rfl (extSize _) ?_) | (refine wpList_build_one rfl 33 (.tmp 57) rfl 110 35 Tryz.underlying33 (by kernel_rfl) (by omega) (by omega) _ (Hz.out _) (rowC (⟨sumOf T, nn⟩, ⟨(v1 : Int), (v2 : Int)⟩)) rfl (rowC_size _) ?_) | (at_builtin; refine Go.XR.stop (fun X hX => ?_)))
                refine hX.out ?_
                clear hX X f34 c34 hWC
                refine wpList_plain rfl (fun K hK => ?_)
                refine append_enc (P := Tryz.prog) rowL 35 56 rowL_length one_rowL 110 Tryz.underlying33 (by kernel_rfl) (by decide) w2.heap.size la lc L rfl (HoC.out.alloc _) (some ⟨WC.heap.size, 0, none⟩) 1 [(⟨sumOf T, nn⟩, ⟨(v1 : Int), (v2 : Int)⟩)] rfl (by rw [List.flatMap_cons, List.flatMap_nil, List.append_nil]; exact Row.new _ _ _) (fun e => by cases e) (by have := HLl.out; simp; omega) (by have := HLl.out; unfold maxLen; simp; omega) (by have := HbC.out.size; simp; omega) ?_
                intro aD cD wD hoD hbD _ _
                obtain ⟨LD, hLD⟩ : ∃ LD, L ++ [(⟨sumOf T, nn⟩, ⟨(v1 : Int), (v2 : Int)⟩)] = LD := ⟨_, rfl⟩
                have HLD : Hid (LD = A.take (k + 1)) := by
                  unfold Hid
                  have hkA : k < A.length := by rw [HAl.out]; exact hk
                  have hAk : A[k] = extOf T := by
                    have h1 : A[k] = (rowsN q (b.drop 4))[k]'(by rw [rowsN_length]; exact hk) := by congr 1; exact HA.out.symm
                    rw [h1, rowsN_get, ← HRe.out, HT.out]
                  have hx : extOf T = ((⟨sumOf T, nn⟩, ⟨(v1 : Int), (v2 : Int)⟩) : Ext) := by
                    unfold extOf
                    rw [Hv1.out, Hv2.out, ← Hnn.out, UInt32.ofNat_toNat]
                  rw [← hLD, HL.out, List.take_succ_eq_append_getElem hkA, hAk, hx]
                rw [hLD] at hoD ⊢
                have HoD := Lib.hid hoD
                have HbD : Hid (Below w.heap.size w wD) := (Hbw.out.trans (HbC.out.mono Hbw.out.size)).trans (((Below.refl _ _).alloc (by have := Hbw.out.size; have := HbC.out.size; omega) _).trans (hbD.mono (by have := Hb2.out.size; omega)))
                have hwD : w2.heap.size ≤ wD.heap.size := by have := HbC.out.size; have := hbD.size; simp at this; omega
                clear hLD hoD hbD HoC HbC HAtC
                have HRd : Hid (R.drop 40 = (b.drop 4).drop (40 * (k + 1))) := by unfold Hid; rw [HRe.out, List.drop_drop]; congr 1
                have HRdl : Hid (((R.drop 40).length : Nat) = R.length - 40) := by unfold Hid; rw [List.length_drop]
                go_step
                refine hK _ _ ?_
                clear hK K
                go_wp2
                · go_roundg (q - (k + 1))
                  case measure => have := Hm.out; omega
                  case rel =>
                    refine ⟨k + 1, oo, 0, R.drop 40, aD, cD, LD, by rw [HRdl.out], rfl, rfl, by omega, HRd.out, by rw [HRdl.out]; omega, ?_, HLD.out, HbD.out, hwD, HoD.out⟩
                    have : R.drop 40 = [] := List.eq_nil_of_length_eq_zero (by rw [HRdl.out]; omega)
                    rw [this]; exact .inl rfl
                · go_roundg (q - (k + 1))
                  case measure => have := Hm.out; omega
                  case rel => exact ⟨k + 1, oo + 40, cc - 40, R.drop 40, aD, cD, LD, by rw [HRdl.out], rfl, rfl, by omega, HRd.out, by rw [HRdl.out]; omega, by rw [List.map_drop]; exact Row.drop HRow.out 40, HLD.out, HbD.out, hwD, HoD.out⟩
            · have hR0 : R.length = 0 := by have := HRl.out; omega
              have hpos : ¬ (0 : Int) < (R.length : Int) := by omega
              have HLA : Hid (L = A) := by unfold Hid; rw [HL.out]; exact List.take_of_length_le (by rw [HAl.out]; omega)
              have HoA := Lib.hid (Row.owned Ho.out)
              have Hon : Hid (la = none → L.length = 0 ∧ lc = 0) := fun e => by have h := Ho.out; rw [e] at h; exact owns_nil h
              have hLl : L.length < 2^40 := by rw [HLA.out, HAl.out]; have := HQ4.out; omega
              clear HL Ho
              go_wp2_with fail
              refine (right_any wr la lc L HoA.out hLl).mono ?_
              rintro e w4 ⟨rfl, hb4⟩
              have Hb4 := Lib.hid (Hbw.out.trans (hb4.mono Hbw.out.size))
              have HRo4 := Lib.hid (HoA.out.below hb4)
              clear hb4
              cases hrt : rightP L with
              | true =>
                have Hrt := Lib.hid hrt
                clear hrt
                go_wp2
                go_ret2
                have E2 : takeP b = some L := by rw [E.out, ← HLA.out, Hrt.out]; rfl
                exact ⟨la, lc, by rw [E2]; rfl, by rw [E2]; exact HRo4.out, by rw [E2]; exact Hon.out, Hb4.out⟩
              | false =>
                have Hrt := Lib.hid hrt
                clear hrt
                go_wp2
                go_ret2
                have E2 : takeP b = none := by rw [E.out, ← HLA.out, Hrt.out]; rfl
                exact RetTake.no w _ _ E2 Hb4.out
      · have E : Hid (takeP b = none) := by
          unfold Hid takeP formP
          rw [← Hq.out, decide_eq_false hf]
          simp
        have hne : (num (b.take 4) != q) = true := bne_iff_ne.2 hf
        have hne2 : (num (b.take 4) == q) = false := beq_eq_false_iff_ne.2 hf
        have hne3 : (((num (b.take 4) : Nat) : Int) != (q : Int)) = true := bne_iff_ne.2 (by omega)
        go_wp2
        go_ret2
        exact RetTake.no w _ _ E.out Hb2.out
    · have hmod : (0 : Int) < ((b.length : Int) - 4) % 40 := by omega
      have h04 : (0 : Int) ≤ (b.length : Int) - 4 := by omega
      have E : Hid (takeP b = none) := by unfold Hid takeP formP; rw [decide_eq_false h40]; simp
      go_enter Tryz.func105, Tryz.ntmps105
      go_wp2
      go_ret2
      exact RetTake.no w _ _ E.out (Below.refl _ _)
end Go.Proofs.YtoahjhogjjdkhaaGreatDoor

/- Names, plain: what a tree of things is, and what the calls make of it. -/
namespace Go.Proofs.YtoahjhogjjdkhaaGreatDoor
open Go Go.RowKit Go.XR Go.TreePure Go.PathPure Go.NamesPure
def dB : ByteArray := ⟨#[100]⟩
def fB (b : List UInt8) : ByteArray := ⟨#[102]⟩ ++ strOf b
theorem fB_data (b : List UInt8) : (fB b).data.toList = 102 :: b := by unfold fB; rw [ByteArray.data_append, Array.toList_append, strOf_data]; rfl
theorem fB_ne (b : List UInt8) : fB b ≠ dB := fun h => by
  have h1 := congrArg (fun s : ByteArray => s.data.toList) h
  simp only [fB_data] at h1
  have h2 : dB.data.toList = [100] := rfl
  rw [h2] at h1; injection h1 with h3; cases h3
theorem fB_inj {a b : List UInt8} (h : fB a = fB b) : a = b := by
  have h1 := congrArg (fun s : ByteArray => s.data.toList) h
  simp only [fB_data] at h1
  injection h1
inductive Kd | no | dir | file
deriving DecidableEq
def Kd.text : Kd → ByteArray
  | .no => ⟨#[]⟩
  | .dir => ⟨#[100]⟩
  | .file => ⟨#[102]⟩
def kd (t : PT) (p : ByteArray) : Kd := if p = ⟨#[47]⟩ then .dir else match PT.get p t with
  | none => .no
  | some v => if v = dB then .dir else .file
/-- a tree of things -/
structure TOk (t : PT) : Prop where
  srt : Srt t.list
  size : t.size ≤ 4096
  key : ∀ x ∈ t.list, ∃ l, parse x.1 = some l ∧ l ≠ []
  val : ∀ x ∈ t.list, x.2 = dB ∨ ∃ l, rightP l = true ∧ x.2 = fB (layB l)
theorem tok_nil : TOk .nil := ⟨srt_nil, Nat.zero_le _, (fun x hx => by cases hx), (fun x hx => by cases hx)⟩
theorem TOk.get {t : PT} (h : TOk t) {p v : ByteArray} (hg : PT.get p t = some v) : (p, v) ∈ t.list := by
  rw [PT.get_look p t h.srt] at hg
  exact (look_mem h.srt).1 hg
theorem TOk.of_mem {t : PT} (h : TOk t) {p v : ByteArray} (hm : (p, v) ∈ t.list) : PT.get p t = some v := by
  rw [PT.get_look p t h.srt]
  exact (look_mem h.srt).2 hm
theorem tx_size {l : List ByteArray} (h : okNames l = true) : (B (tx l)).size ≤ 1617 := by
  obtain ⟨h1, h2⟩ := ok_all h
  have h3 := fl_le h2
  have h4 : (B (tx l)).size = (tx l).length := by
    have : (B (tx l)).data.toList.length = (B (tx l)).size := Array.length_toList
    rw [← this, B_data]
  rw [h4]
  unfold tx
  split
  · simp
  · omega
theorem parse_size {s : ByteArray} {l : List ByteArray} (h : parse s = some l) : s.size ≤ 1617 := by
  obtain ⟨h1, h2⟩ := parse_some h
  rw [h2]; exact tx_size h1
theorem parse_root {s : ByteArray} : parse s = some [] ↔ s = ⟨#[47]⟩ := by
  constructor
  · intro h
    have := (parse_some h).2
    rw [this]; rfl
  · intro h
    have := parse_tx (l := []) rfl
    rw [h]; exact this
theorem TOk.ksize {t : PT} (h : TOk t) : ∀ x ∈ t.list, x.1.size ≤ 2^40 := fun x hx => by
  obtain ⟨l, h1, _⟩ := h.key x hx
  have := parse_size h1; omega
theorem ins_split {l : List Pr} (h : Srt l) {k v : ByteArray} (hm : (k, v) ∈ l) (x : ByteArray) : ∃ A C, l = A ++ (k, v) :: C ∧ ins k x l = A ++ (k, x) :: C ∧ rem k l = A ++ C := by
  obtain ⟨A, C, rfl⟩ := List.append_of_mem hm
  obtain ⟨_, _, h3, h4⟩ := h.parts
  refine ⟨A, C, rfl, ?_, ?_⟩
  · unfold ins
    have e1 : (A ++ (k, v) :: C).filter (fun p => klt p.1 k) = A := by
      rw [List.filter_append, filter_all h3, List.filter_cons_of_neg (by simp [klt_irrefl]), filter_none (fun p hp => klt_asymm (h4 p hp)), List.append_nil]
    have e2 : (A ++ (k, v) :: C).filter (fun p => klt k p.1) = C := by
      rw [List.filter_append, filter_none (fun p hp => klt_asymm (h3 p hp)), List.filter_cons_of_neg (by simp [klt_irrefl]), filter_all h4, List.nil_append]
    rw [e1, e2]
  · unfold rem
    rw [List.filter_append, List.filter_cons_of_neg (by simp [klt_irrefl]), filter_all (fun p hp => by rw [h3 p hp]; rfl), filter_all (fun p hp => by rw [h4 p hp]; simp)]
theorem mem_ins {l : List Pr} (_ : Srt l) {k x : ByteArray} {q : Pr} (h : q ∈ ins k x l) : q = (k, x) ∨ q ∈ l := by
  unfold ins at h
  rcases List.mem_append.1 h with h | h
  · exact .inr (List.mem_filter.1 h).1
  · rcases List.mem_cons.1 h with h | h
    · exact .inl h
    · exact .inr (List.mem_filter.1 h).1
theorem TOk.put {t : PT} (h : TOk t) {p v : ByteArray} {l : List ByteArray} (hp : parse p = some l) (hl : l ≠ []) (hv : v = dB ∨ ∃ l, rightP l = true ∧ v = fB (layB l)) (hs : t.size < 4096 ∨ PT.get p t ≠ none) : TOk (PT.put p v t) where
  srt := PT.put_srt h.srt _ _
  size := by
    rcases hs with hs | hs
    · have := PT.put_size p v t; omega
    · obtain ⟨v0, hv0⟩ := Option.ne_none_iff_exists'.1 hs
      obtain ⟨A, C, e1, e2, _⟩ := ins_split h.srt (h.get hv0) v
      have h1 := h.size
      rw [← PT.list_length] at h1 ⊢
      rw [PT.put_list _ _ _ h.srt, e2]
      rw [e1] at h1
      simp only [List.length_append, List.length_cons] at h1 ⊢
      exact h1
  key := fun x hx => by
    rw [PT.put_list _ _ _ h.srt] at hx
    rcases mem_ins h.srt hx with rfl | hx
    · exact ⟨l, hp, hl⟩
    · exact h.key x hx
  val := fun x hx => by
    rw [PT.put_list _ _ _ h.srt] at hx
    rcases mem_ins h.srt hx with rfl | hx
    · exact hv
    · exact h.val x hx
theorem TOk.drop {t : PT} (h : TOk t) (p : ByteArray) : TOk (PT.Drop p t) where
  srt := PT.Drop_srt h.srt p
  size := by have := PT.Drop_size p t; have := h.size; omega
  key := fun x hx => by
    rw [PT.Drop_list h.srt] at hx
    exact h.key x (List.mem_filter.1 hx).1
  val := fun x hx => by
    rw [PT.Drop_list h.srt] at hx
    exact h.val x (List.mem_filter.1 hx).1
theorem fB_size (b : List UInt8) : (fB b).size = b.length + 1 := by
  have : (fB b).data.toList.length = (fB b).size := Array.length_toList
  rw [← this, fB_data, List.length_cons]
theorem TOk.vsize {t : PT} (h : TOk t) : ∀ x ∈ t.list, x.2.size ≤ 2^20 := fun x hx => by
  rcases h.val x hx with h1 | ⟨l, h1, h2⟩
  · rw [h1]; decide
  · rw [h2, fB_size, layB_length]; have := (rightP_all h1).1; omega
/-! ### what the calls come to -/
def errS (p : ByteArray) (root : Int) : Int := match parse p with
  | none => 170
  | some l => if l = [] then root else 0
def parK (t : PT) (p : ByteArray) : Int := match kd t (parB p) with
  | .dir => 0
  | .file => 192
  | .no => 2
def mkdirP (t : PT) (p : ByteArray) : PT × Int :=
  if errS p 3 ≠ 0 then (t, errS p 3) else if parK t p ≠ 0 then (t, parK t p) else if kd t p ≠ .no then (t, 3) else if 4096 ≤ t.size then (t, 4) else (PT.put p dB t, 0)
def putP (t : PT) (p : ByteArray) (l : List Ext) : PT × Int :=
  if errS p 191 ≠ 0 then (t, errS p 191) else if rightP l = false then (t, 1) else if parK t p ≠ 0 then (t, parK t p) else if kd t p = .dir then (t, 191) else if kd t p = .no ∧ 4096 ≤ t.size then (t, 4) else (PT.put p (fB (layB l)) t, 0)
def removeP (t : PT) (p : ByteArray) : PT × Int :=
  if errS p 191 ≠ 0 then (t, errS p 191) else if kd t p = .no then (t, 2) else if within t.list (front p) ≠ [] then (t, 193) else (PT.Drop p t, 0)
def renaE (t : PT) (a b : ByteArray) : Int × Bool :=
  if errS a 191 = 170 ∨ errS b 191 = 170 then (170, false) else if errS a 191 ≠ 0 ∨ errS b 191 ≠ 0 then (191, false) else if kd t a = .no then (2, false) else if a = b then (0, true) else
  if (behindP b a).isSome then (1, false) else if parK t b ≠ 0 then (parK t b, false) else if kd t b = .dir ∨ (kd t b = .file ∧ kd t a = .dir) then (3, false) else (0, false)
/-- the new path of what had a path within a -/
def newP (a b k : ByteArray) : ByteArray := b ++ k.extract a.size k.size
def dropAll (t : PT) (l : List Pr) : PT := l.foldl (fun t x => PT.Drop x.1 t) t
def putAll (a b : ByteArray) : PT → List Pr → Option PT
  | t, [] => some t
  | t, x :: l => if (parse (newP a b x.1)).isSome then putAll a b (PT.put (newP a b x.1) x.2 t) l else none
def allOf (t : PT) (a : ByteArray) : List Pr := (a, (PT.get a t).getD ⟨#[]⟩) :: within t.list (front a)
def renameP (t : PT) (a b : ByteArray) : PT × Int :=
  if (renaE t a b).1 ≠ 0 ∨ (renaE t a b).2 = true then (t, (renaE t a b).1) else
  match putAll a b (dropAll t (allOf t a)) (allOf t a) with
  | none => (t, 4)
  | some t' => (t', 0)
end Go.Proofs.YtoahjhogjjdkhaaGreatDoor

/- How names lie in memory; the walks over New, kind, sound, parent, full, Mkdir, Put. -/
namespace Go.Proofs.YtoahjhogjjdkhaaGreatDoor
open Go Go.RowKit Go.XR Go.TreePure Go.PathPure Go.NamesPure
abbrev SK := {s : ByteArray // s.size ≤ 2^40}
abbrev SnapT := SK × (Option Addr × PT)
def strV (s : SK) : Value := .string s.1
def treV (q : Option Addr × PT) : Value := .pointer q.1
structure NSt where
  tp : Option Addr
  t : PT
  m : Nat
  D : List SnapT
/-- how names lie: block nb -/
structure NAt (w : World) (nb : Nat) (s : NSt) : Prop where
  blk : w.heap[nb]? = some (.cells #[.pointer s.tp, .map (some s.m)] 79 (0, 0))
  rep : Rep w s.tp s.t
  ok : TOk s.t
  gm : GM strV treV w s.m s.D
  reps : ∀ q ∈ s.D, Rep w q.2.1 q.2.2
  oks : ∀ q ∈ s.D, TOk q.2.2 ∧ isName q.1.1 = true
  few : s.D.length ≤ 64
/-- no tree has a node in these blocks -/
def NoTree (w : World) (S : List Nat) : Prop := ∀ b ∈ S, ∀ cs fz, w.heap[b]? ≠ some (.cells cs 157 fz)
theorem Rep.but {w w' : World} {S : List Nat} (hb : But S w w') (hn : NoTree w S) : ∀ {t : PT} {p : Option Addr}, Rep w p t → Rep w' p t
  | .nil, _, h => h
  | .node _ _ _ _, _, ⟨b, lv, rv, h0, h1, h2, h3⟩ => ⟨b, lv, rv, h0, (hb.block b (blk_lt h1) (fun hm => hn b hm _ _ h1)).trans h1, Rep.but hb hn h2, Rep.but hb hn h3⟩
section
variable {w w' : World} {nb : Nat} {s : NSt} {S : List Nat}
theorem NAt.lt (h : NAt w nb s) : nb < w.heap.size := blk_lt h.blk
theorem NAt.below (h : NAt w nb s) (hb : Below w.heap.size w w') : NAt w' nb s :=
  ⟨(hb.block nb h.lt).trans h.blk, h.rep.below hb, h.ok, h.gm.below hb, fun q hq => (h.reps q hq).below hb, h.oks, h.few⟩
theorem NAt.but (h : NAt w nb s) (hb : But S w w') (h1 : nb ∉ S) (h2 : s.m ∉ S) (hn : NoTree w S) : NAt w' nb s :=
  ⟨(hb.block nb h.lt h1).trans h.blk, h.rep.but hb hn, h.ok, h.gm.but hb h2, fun q hq => (h.reps q hq).but hb hn, h.oks, h.few⟩
theorem NAt.notree_nb (h : NAt w nb s) : NoTree w [nb] := fun b hb cs fz e => by
  rw [List.mem_singleton] at hb; subst hb
  rw [h.blk] at e
  injection e with e; injection e with _ e _; exact absurd e (by decide)
theorem NAt.notree_m (h : NAt w nb s) : NoTree w [s.m] := fun b hb cs fz e => by
  rw [List.mem_singleton] at hb; subst hb
  obtain ⟨es, clock, h1, _⟩ := h.gm
  rw [h1] at e; cases e
theorem NAt.ne (h : NAt w nb s) : nb ≠ s.m := fun e => by
  obtain ⟨es, clock, h1, _⟩ := h.gm
  rw [← e, h.blk] at h1; cases h1
theorem NAt.cells (h : NAt w nb s) : w.cell? ⟨nb, 0, none⟩ = some (.pointer s.tp) ∧ w.cell? ⟨nb, 1, none⟩ = some (.map (some s.m)) ∧ w.frozen? ⟨nb, 0, none⟩ = false :=
  ⟨cells_of h.blk 0, cells_of h.blk 1, frozen_of_row w nb 0 _ _ h.blk⟩
/-- the tree of what is now is written -/
theorem NAt.now (h : NAt w nb s) {tp : Option Addr} {t : PT} (hr : Rep w tp t) (ho : TOk t) : NAt (w.setCell ⟨nb, 0, none⟩ (.pointer tp)) nb { s with tp := tp, t := t } := by
  have hb : But [nb] w (w.setCell ⟨nb, 0, none⟩ (.pointer tp)) := But.setCell (But.refl _ _) (.inl (by simp)) _
  refine ⟨?_, hr.but hb h.notree_nb, ho, h.gm.but hb (by simp; exact fun e => h.ne e.symm), fun q hq => (h.reps q hq).but hb h.notree_nb, h.oks, h.few⟩
  have := heap_setCell_at (i := 0) (u := .pointer tp) h.blk
  simpa using this
end
def RetNewN (w : World) (e : Ending) (w' : World) : Prop := ∃ nb m, e = .returned (.pointer (some ⟨nb, 0, none⟩)) ∧ NAt w' nb ⟨none, .nil, m, []⟩ ∧ w.heap.size ≤ nb ∧ w.heap.size ≤ m ∧ Below w.heap.size w w'
theorem newn_any (w : World) : Calls Tryz.prog 28 #[] w (RetNewN w) := by
  have hmm := @run_makeMap Tryz.prog
  go_enter Tryz.func28, Tryz.ntmps28
  go_wp2
  go_ret
  refine ⟨w.heap.size + 1, w.heap.size, by simp, ⟨?_, rfl, tok_nil, ?_, (fun q hq => by cases hq), (fun q hq => by cases hq), Nat.zero_le _⟩, by omega, Nat.le_refl _, ((Below.refl _ _).alloc (Nat.le_refl _) _).alloc (by simp) _⟩
  · exact heap_new2 w _ _
  · exact (GM.made strV treV w).below ((Below.refl _ _).alloc (Nat.le_refl _) _)
theorem lit_eq (p : ByteArray) (l : List UInt8) : (p.toList == l) = true ↔ p = strOf l := by
  rw [beq_iff_eq, ByteArray.toList_eq]
  constructor
  · intro h; rw [← h]; cases p; simp [strOf]
  · rintro rfl; exact strOf_data l
theorem lit_ne (p : ByteArray) (l : List UInt8) : (p.toList == l) = false ↔ p ≠ strOf l := by
  rw [← Bool.not_eq_true, ne_eq, lit_eq]
theorem ext_d : (dB : ByteArray).extract 0 1 = ⟨#[100]⟩ := by decide
theorem ext_f (b : List UInt8) : (fB b).extract 0 1 = ⟨#[102]⟩ := by
  rw [extract_B, fB_data]; rfl
theorem ret_string {a b : ByteArray} (h : a = b) : Ending.returned (.string a) = .returned (.string b) := by rw [h]
set_option maxHeartbeats 1000000 in
set_option maxRecDepth 100000 in
theorem kind_any (w : World) (nb : Nat) (s : NSt) (h : NAt w nb s) (p : ByteArray) :
    Calls Tryz.prog 48 #[.pointer (some ⟨nb, 0, none⟩), .string p] w fun e w' => e = .returned (.string (kd s.t p).text) ∧ w = w' := by
  obtain ⟨c0, c1, f0⟩ := h.cells
  have H := Lib.hid h
  clear h
  cases hr : p.toList == [47] with
  | true =>
    have E : Hid (kd s.t p = .dir) := by
      have := (lit_eq p [47]).1 hr
      unfold Hid kd; exact if_pos this
    go_enter Tryz.func48, Tryz.ntmps48
    go_wp2
    go_ret
    exact ⟨by rw [E.out]; rfl, rfl⟩
  | false =>
    have hnr : ¬ p = ⟨#[47]⟩ := (lit_ne p [47]).1 hr
    cases hg : PT.get p s.t with
    | none =>
      have E : Hid (kd s.t p = .no) := by unfold Hid kd; rw [if_neg hnr, hg]
      have Hg := Lib.hid hg
      clear hg hnr
      go_enter Tryz.func48, Tryz.ntmps48
      go_wp2_with fail
      refine (get_any p s.t w s.tp H.out.rep).mono ?_
      rintro e w1 ⟨rfl, rfl⟩
      rw [Hg.out]
      go_wp2
      go_ret
      exact ⟨by rw [E.out]; rfl, rfl⟩
    | some v =>
      have hv := H.out.ok.val _ (H.out.ok.get hg)
      have Hg := Lib.hid hg
      dsimp only at hv
      by_cases hd : v = dB
      · subst hd
        have E : Hid (kd s.t p = .dir) := by unfold Hid kd; rw [if_neg hnr, hg]; exact if_pos rfl
        clear hg hnr hv
        go_enter Tryz.func48, Tryz.ntmps48
        go_wp2_with fail
        refine (get_any p s.t w s.tp H.out.rep).mono ?_
        rintro e w1 ⟨rfl, rfl⟩
        rw [Hg.out]
        have hsz : dB.size = 1 := rfl
        go_wp2
        go_ret
        refine ⟨ret_string ?_, rfl⟩
        rw [E.out]; exact ext_d
      · obtain ⟨l, _, rfl⟩ : ∃ l, rightP l = true ∧ v = fB (layB l) := by
          rcases hv with h1 | h1
          · exact absurd h1 hd
          · exact h1
        have E : Hid (kd s.t p = .file) := by unfold Hid kd; rw [if_neg hnr, hg]; exact if_neg hd
        have hm : min (1 : Int) ((fB (layB l)).size : Int) = 1 := by rw [fB_size]; omega
        have hz1 : (1 : Int) ≤ ((fB (layB l)).size : Int) := by rw [fB_size]; omega
        clear hg hnr hd hv
        go_enter Tryz.func48, Tryz.ntmps48
        go_wp2_with fail
        refine (get_any p s.t w s.tp H.out.rep).mono ?_
        rintro e w1 ⟨rfl, rfl⟩
        rw [Hg.out]
        go_wp2
        go_ret
        refine ⟨ret_string ?_, rfl⟩
        rw [E.out]; exact ext_f _
theorem ret_i {a b : Int} (h : a = b) : Ending.returned (.int .i64 a) = .returned (.int .i64 b) := by rw [h]
set_option maxHeartbeats 1000000 in
theorem sound_any (w : World) (hE : Env w) (nb : Nat) (p : ByteArray) (hp : p.size ≤ 2^30) (root : Int) :
    Calls Tryz.prog 47 #[.pointer (some ⟨nb, 0, none⟩), .string p, .int .i64 root] w (RetZ w (errS p root)) := by
  have HE := Lib.hid hE
  clear hE
  cases hq : parse p with
  | none =>
    have E : Hid (errS p root = 170) := by unfold Hid errS; rw [hq]
    have Hq := Lib.hid hq
    clear hq
    go_enter Tryz.func47, Tryz.ntmps47
    go_wp2_with fail
    refine (parse_any _ HE.out p hp).mono ?_
    rintro e w1 h1
    obtain ⟨a1, c1, rfl, hb1⟩ := h1.no Hq.out
    clear h1
    go_wp2
    go_ret
    exact ⟨ret_i E.out.symm, hb1⟩
  | some l =>
    have Hq := Lib.hid hq
    by_cases hl : l = []
    · have hr : (p.toList == [47]) = true := (lit_eq p [47]).2 (parse_root.1 (by rw [hq, hl]))
      have E : Hid (errS p root = root) := by unfold Hid errS; rw [hq]; exact if_pos hl
      clear hq hl
      go_enter Tryz.func47, Tryz.ntmps47
      go_wp2_with fail
      refine (parse_any _ HE.out p hp).mono ?_
      rintro e w1 h1
      obtain ⟨a1, c1, rfl, _, _, _, hb1⟩ := h1.yes Hq.out
      clear h1
      go_wp2
      go_ret
      exact ⟨ret_i E.out.symm, hb1⟩
    · have hr : (p.toList == [47]) = false := (lit_ne p [47]).2 (fun e => by rw [parse_root.2 e] at hq; injection hq with hq; exact hl hq.symm)
      have E : Hid (errS p root = 0) := by unfold Hid errS; rw [hq]; exact if_neg hl
      clear hq hl
      go_enter Tryz.func47, Tryz.ntmps47
      go_wp2_with fail
      refine (parse_any _ HE.out p hp).mono ?_
      rintro e w1 h1
      obtain ⟨a1, c1, rfl, _, _, _, hb1⟩ := h1.yes Hq.out
      clear h1
      go_wp2
      go_ret
      exact ⟨ret_i E.out.symm, hb1⟩
theorem sound_nil (w : World) (p : ByteArray) (root : Int) :
    Calls Tryz.prog 47 #[.pointer none, .string p, .int .i64 root] w fun e w' => e = .returned (.int .i64 2) ∧ w = w' := by
  go_enter Tryz.func47, Tryz.ntmps47
  go_wp2
  go_ret
  exact ⟨rfl, rfl⟩
set_option maxHeartbeats 1000000 in
theorem parent_k (w : World) (hE : Env w) (nb : Nat) (s : NSt) (h : NAt w nb s) (p : ByteArray) (hp : p.size ≤ 2^30) :
    Calls Tryz.prog 93 #[.pointer (some ⟨nb, 0, none⟩), .string p] w (RetZ w (parK s.t p)) := by
  have HE := Lib.hid hE
  have H := Lib.hid h
  clear hE h
  cases hk : kd s.t (parB p) with
  | no =>
    have E : Hid (parK s.t p = 2) := by unfold Hid parK; rw [hk]
    have Hk := Lib.hid hk
    clear hk
    go_enter Tryz.func93, Tryz.ntmps93
    go_wp2_with fail
    refine (parent_any _ HE.out p hp).mono ?_
    rintro e w1 ⟨rfl, hb1⟩
    go_wp2_with fail
    refine (kind_any w1 nb s (H.out.below hb1) (parB p)).mono ?_
    rintro e w2 ⟨rfl, rfl⟩
    rw [Hk.out]
    unfold Kd.text
    go_wp2
    go_ret
    exact ⟨ret_i E.out.symm, hb1⟩
  | dir =>
    have E : Hid (parK s.t p = 0) := by unfold Hid parK; rw [hk]
    have Hk := Lib.hid hk
    clear hk
    go_enter Tryz.func93, Tryz.ntmps93
    go_wp2_with fail
    refine (parent_any _ HE.out p hp).mono ?_
    rintro e w1 ⟨rfl, hb1⟩
    go_wp2_with fail
    refine (kind_any w1 nb s (H.out.below hb1) (parB p)).mono ?_
    rintro e w2 ⟨rfl, rfl⟩
    rw [Hk.out]
    unfold Kd.text
    go_wp2
    go_ret
    exact ⟨ret_i E.out.symm, hb1⟩
  | file =>
    have E : Hid (parK s.t p = 192) := by unfold Hid parK; rw [hk]
    have Hk := Lib.hid hk
    clear hk
    go_enter Tryz.func93, Tryz.ntmps93
    go_wp2_with fail
    refine (parent_any _ HE.out p hp).mono ?_
    rintro e w1 ⟨rfl, hb1⟩
    go_wp2_with fail
    refine (kind_any w1 nb s (H.out.below hb1) (parB p)).mono ?_
    rintro e w2 ⟨rfl, rfl⟩
    rw [Hk.out]
    unfold Kd.text
    go_wp2
    go_ret
    exact ⟨ret_i E.out.symm, hb1⟩
theorem full_any (w : World) (nb : Nat) (s : NSt) (h : NAt w nb s) :
    Calls Tryz.prog 94 #[.pointer (some ⟨nb, 0, none⟩)] w fun e w' => e = .returned (.bool (decide (4096 ≤ s.t.size))) ∧ w = w' := by
  obtain ⟨c0, c1, f0⟩ := h.cells
  have H := Lib.hid h
  clear h
  go_enter Tryz.func94, Tryz.ntmps94
  go_wp2_with fail
  refine (len_any w s.tp s.t H.out.rep).mono ?_
  rintro e w1 ⟨rfl, rfl⟩
  go_wp2
  go_ret
  refine ⟨?_, rfl⟩
  show Ending.returned (.bool _) = _
  congr 2
  simp; omega
end Go.Proofs.YtoahjhogjjdkhaaGreatDoor

/- The walks over Mkdir and Put. -/
namespace Go.Proofs.YtoahjhogjjdkhaaGreatDoor
open Go Go.RowKit Go.XR Go.TreePure Go.PathPure Go.NamesPure
theorem errS_cases (p : ByteArray) (r : Int) : errS p r = 170 ∨ (errS p r = r ∧ parse p = some []) ∨ (errS p r = 0 ∧ ∃ l, parse p = some l ∧ l ≠ []) := by
  unfold errS
  cases h : parse p with
  | none => exact .inl rfl
  | some l =>
    by_cases hl : l = []
    · subst hl; exact .inr (.inl ⟨if_pos rfl, rfl⟩)
    · exact .inr (.inr ⟨if_neg hl, l, rfl, hl⟩)
theorem parK_cases (t : PT) (p : ByteArray) : parK t p = 0 ∨ parK t p = 192 ∨ parK t p = 2 := by
  unfold parK
  cases kd t (parB p)
  · exact .inr (.inr rfl)
  · exact .inl rfl
  · exact .inr (.inl rfl)
theorem kd_no {t : PT} {p : ByteArray} (h : kd t p ≠ .no) {l : List ByteArray} (hp : parse p = some l) (hl : l ≠ []) : PT.get p t ≠ none := by
  intro hg
  unfold kd at h
  rw [if_neg (fun e => by rw [parse_root.2 e] at hp; injection hp with hp; exact hl hp.symm), hg] at h
  exact h rfl
theorem wp_str_conv {w : World} {o : Oper} {a : Act} {K : Act → World → Prop} {Q : Exit → Act → World → Prop} (x : Operand) (ho : o.op = .convert 30 9 x) (p : Option Addr) (n c : Nat) (l : List UInt8) (hx : a.eval x = .slice p n c) (hn : n = l.length) (hR : Row w p (l.map byU))
    (hK : K (a.put o.dst (.string (strOf l))) w) : o.wp Tryz.prog a w K Q := by
  have hr := run_str_at w p c l hR n hn
  unfold Oper.wp execOp
  simp only [ho, hx, Sem.run_bind, hr, Result.andThen_ok, Sem.run_pure]
  exact hK
/-- a call that writes the tree of what is now, and no other block that there was -/
def RetN (w : World) (nb : Nat) (s : NSt) (r : PT × Int) (e : Ending) (w' : World) : Prop := e = .returned (.int .i64 r.2) ∧ ∃ tp', NAt w' nb { s with tp := tp', t := r.1 } ∧ But [nb] w w'
set_option maxHeartbeats 2000000 in
set_option maxRecDepth 100000 in
theorem mkdir_any (w : World) (hE : Env w) (nb : Nat) (s : NSt) (h : NAt w nb s) (p : ByteArray) (hp : p.size ≤ 2^30) :
    Calls Tryz.prog 35 #[.pointer (some ⟨nb, 0, none⟩), .string p] w (RetN w nb s (mkdirP s.t p)) := by
  have HE := Lib.hid hE
  have H := Lib.hid h
  clear hE h
  go_enter Tryz.func35, Tryz.ntmps35
  go_wp2_with fail
  refine (sound_any w HE.out nb p hp 3).mono ?_
  rintro e w1 ⟨rfl, hb1⟩
  have H1 := Lib.hid (H.out.below hb1)
  have HE1 := Lib.hid (HE.out.below hb1)
  have Hb1 := Lib.hid (But.of_below (S := [nb]) hb1)
  clear hb1
  rcases errS_cases p 3 with hs | ⟨hs, _⟩ | ⟨hs, l, hpl, hl⟩
  · rw [hs]
    have E : Hid ((mkdirP s.t p) = (s.t, 170)) := by unfold Hid mkdirP; rw [if_pos (by rw [hs]; decide), hs]
    go_wp2
    go_ret
    exact ⟨ret_i (by rw [E.out]), s.tp, by rw [E.out]; exact H1.out, Hb1.out⟩
  · rw [hs]
    have E : Hid ((mkdirP s.t p) = (s.t, 3)) := by unfold Hid mkdirP; rw [if_pos (by rw [hs]; decide), hs]
    go_wp2
    go_ret
    exact ⟨ret_i (by rw [E.out]), s.tp, by rw [E.out]; exact H1.out, Hb1.out⟩
  · rw [hs]
    have Hs := Lib.hid hs
    have Hpl := Lib.hid hpl
    clear hs hpl
    go_wp2_with fail
    refine (parent_k w1 HE1.out nb s H1.out p hp).mono ?_
    rintro e w2 ⟨rfl, hb2⟩
    have H2 := Lib.hid (H1.out.below hb2)
    have Hb2 := Lib.hid (Hb1.out.trans (But.of_below (S := [nb]) hb2))
    clear hb2 H1 Hb1
    rcases parK_cases s.t p with hk | hk | hk
    · rw [hk]
      have Hk := Lib.hid hk
      clear hk
      go_wp2_with fail
      refine (kind_any w2 nb s H2.out p).mono ?_
      rintro e w3 ⟨rfl, rfl⟩
      cases hkp : kd s.t p with
      | no =>
        have Hkp := Lib.hid hkp
        clear hkp
        unfold Kd.text
        go_wp2_with fail
        refine (full_any w2 nb s H2.out).mono ?_
        rintro e w3 ⟨rfl, rfl⟩
        by_cases hf : 4096 ≤ s.t.size
        · have hfd : decide (4096 ≤ s.t.size) = true := decide_eq_true hf
          rw [hfd]
          clear hfd
          have E : Hid ((mkdirP s.t p) = (s.t, 4)) := by unfold Hid mkdirP; rw [if_neg (by rw [Hs.out]; simp), if_neg (by rw [Hk.out]; simp), if_neg (by rw [Hkp.out]; simp), if_pos hf]
          go_wp2
          go_ret
          exact ⟨ret_i (by rw [E.out]), s.tp, by rw [E.out]; exact H2.out, Hb2.out⟩
        · have hfd : decide (4096 ≤ s.t.size) = false := decide_eq_false hf
          rw [hfd]
          clear hfd
          have E : Hid (mkdirP s.t p = (PT.put p dB s.t, 0)) := by
            unfold Hid mkdirP
            rw [if_neg (by rw [Hs.out]; simp), if_neg (by rw [Hk.out]; simp), if_neg (by rw [Hkp.out]; simp), if_neg hf]
          obtain ⟨c0, c1, f0⟩ := H2.out.cells
          have Hok : Hid (TOk (PT.put p dB s.t)) := H2.out.ok.put Hpl.out hl (.inl rfl) (.inl (by omega))
          have hsz := H2.out.ok.size
          clear hf
          go_wp2_with fail
          refine (put_any p ⟨#[100]⟩ s.t w2 s.tp H2.out.rep (by omega)).mono ?_
          rintro e w3 ⟨tp', rfl, hr3, hb3⟩
          have H3 := Lib.hid (H2.out.below hb3)
          have Hr3 := Lib.hid hr3
          have Hb3 := Lib.hid (Hb2.out.trans (But.of_below (S := [nb]) hb3))
          obtain ⟨c0', c1', f0'⟩ := H3.out.cells
          clear hr3 hb3 c0 c1 f0
          go_wp2
          go_ret
          exact ⟨ret_i (by rw [E.out]), tp', by rw [E.out]; exact H3.out.now Hr3.out Hok.out, Hb3.out.trans (But.setCell (But.refl _ _) (.inl (by simp)) _)⟩
      | dir =>
        unfold Kd.text
        have E : Hid ((mkdirP s.t p) = (s.t, 3)) := by unfold Hid mkdirP; rw [if_neg (by rw [Hs.out]; simp), if_neg (by rw [Hk.out]; simp), if_pos (by rw [hkp]; decide)]
        go_wp2
        go_ret
        exact ⟨ret_i (by rw [E.out]), s.tp, by rw [E.out]; exact H2.out, Hb2.out⟩
      | file =>
        unfold Kd.text
        have E : Hid ((mkdirP s.t p) = (s.t, 3)) := by unfold Hid mkdirP; rw [if_neg (by rw [Hs.out]; simp), if_neg (by rw [Hk.out]; simp), if_pos (by rw [hkp]; decide)]
        go_wp2
        go_ret
        exact ⟨ret_i (by rw [E.out]), s.tp, by rw [E.out]; exact H2.out, Hb2.out⟩
    · rw [hk]
      have E : Hid ((mkdirP s.t p) = (s.t, 192)) := by unfold Hid mkdirP; rw [if_neg (by rw [Hs.out]; simp), if_pos (by rw [hk]; decide), hk]
      go_wp2
      go_ret
      exact ⟨ret_i (by rw [E.out]), s.tp, by rw [E.out]; exact H2.out, Hb2.out⟩
    · rw [hk]
      have E : Hid ((mkdirP s.t p) = (s.t, 2)) := by unfold Hid mkdirP; rw [if_neg (by rw [Hs.out]; simp), if_pos (by rw [hk]; decide), hk]
      go_wp2
      go_ret
      exact ⟨ret_i (by rw [E.out]), s.tp, by rw [E.out]; exact H2.out, Hb2.out⟩
set_option maxHeartbeats 4000000 in
set_option maxRecDepth 100000 in
theorem put_n (w : World) (hE : Env w) (nb : Nat) (s : NSt) (h : NAt w nb s) (p : ByteArray) (hp : p.size ≤ 2^30) (a : Option Addr) (c : Nat) (l : List Ext) (hL : Row w a (l.flatMap rowL)) (hl : l.length < 2^40) :
    Calls Tryz.prog 36 #[.pointer (some ⟨nb, 0, none⟩), .string p, .slice a l.length c] w (RetN w nb s (putP s.t p l)) := by
  have HE := Lib.hid hE
  have H := Lib.hid h
  have HL := Lib.hid hL
  clear hE h hL
  go_enter Tryz.func36, Tryz.ntmps36
  go_wp2_with fail
  refine (sound_any w HE.out nb p hp 191).mono ?_
  rintro e w1 ⟨rfl, hb1⟩
  have H1 := Lib.hid (H.out.below hb1)
  have HE1 := Lib.hid (HE.out.below hb1)
  have HL1 := Lib.hid (HL.out.below hb1)
  have Hb1 := Lib.hid (But.of_below (S := [nb]) hb1)
  clear hb1
  rcases errS_cases p 191 with hs | ⟨hs, _⟩ | ⟨hs, ls, hpl, hl0⟩
  · rw [hs]
    have E : Hid ((putP s.t p l) = (s.t, 170)) := by unfold Hid putP; rw [if_pos (by rw [hs]; decide), hs]
    go_wp2
    go_ret
    exact ⟨ret_i (by rw [E.out]), s.tp, by rw [E.out]; exact H1.out, Hb1.out⟩
  · rw [hs]
    have E : Hid ((putP s.t p l) = (s.t, 191)) := by unfold Hid putP; rw [if_pos (by rw [hs]; decide), hs]
    go_wp2
    go_ret
    exact ⟨ret_i (by rw [E.out]), s.tp, by rw [E.out]; exact H1.out, Hb1.out⟩
  · rw [hs]
    have Hs := Lib.hid hs
    have Hpl := Lib.hid hpl
    clear hs hpl
    go_wp2_with fail
    refine (lay_any w1 a c l HL1.out hl).mono ?_
    rintro e w2 ⟨la, lc, rfl, hrl, hb2⟩
    have H2 := Lib.hid (H1.out.below hb2)
    have HE2 := Lib.hid (HE1.out.below hb2)
    have Hb2 := Lib.hid (Hb1.out.trans (But.of_below (S := [nb]) hb2))
    clear hb2 H1 Hb1 HL HL1
    cases hrt : rightP l with
    | false =>
      have E : Hid ((putP s.t p l) = (s.t, 1)) := by unfold Hid putP; rw [if_neg (by rw [Hs.out]; simp), if_pos hrt]
      go_wp2
      go_ret
      exact ⟨ret_i (by rw [E.out]), s.tp, by rw [E.out]; exact H2.out, Hb2.out⟩
    | true =>
      rw [hrt] at hrl
      have HRl0 : Hid (Row w2 la ((layB l).map byU)) := hrl
      have Hrt := Lib.hid hrt
      clear hrl hrt
      simp only [↓reduceIte]
      go_wp2_with fail
      refine (parent_k w2 HE2.out nb s H2.out p hp).mono ?_
      rintro e w3 ⟨rfl, hb3⟩
      have H3 := Lib.hid (H2.out.below hb3)
      have HRl := Lib.hid (HRl0.out.below hb3)
      have Hb3 := Lib.hid (Hb2.out.trans (But.of_below (S := [nb]) hb3))
      clear hb3 H2 Hb2 HRl0
      rcases parK_cases s.t p with hk | hk | hk
      · rw [hk]
        have Hk := Lib.hid hk
        clear hk
        go_wp2_with fail
        refine (kind_any w3 nb s H3.out p).mono ?_
        rintro e w4 ⟨rfl, rfl⟩
        obtain ⟨w4, hw4⟩ : ∃ w4, w3 = w4 := ⟨_, rfl⟩
        rw [hw4] at H3 HRl Hb3 ⊢
        clear hw4
        have H4 := Lib.hid H3.out
        have Hb4 := Lib.hid Hb3.out
        cases hkp : kd s.t p with
        | dir =>
          unfold Kd.text
          have E : Hid ((putP s.t p l) = (s.t, 191)) := by unfold Hid putP; rw [if_neg (by rw [Hs.out]; simp), if_neg (by rw [Hrt.out]; simp), if_neg (by rw [Hk.out]; simp), if_pos hkp]
          go_wp2
          go_ret
          exact ⟨ret_i (by rw [E.out]), s.tp, by rw [E.out]; exact H4.out, Hb4.out⟩
        | file =>
          have Hkp := Lib.hid hkp
          clear hkp
          have E : Hid (putP s.t p l = (PT.put p (fB (layB l)) s.t, 0)) := by
            unfold Hid putP
            rw [if_neg (by rw [Hs.out]; simp), if_neg (by rw [Hrt.out]; simp), if_neg (by rw [Hk.out]; simp), if_neg (by rw [Hkp.out]; simp), if_neg (by rw [Hkp.out]; simp)]
          have Hok : Hid (TOk (PT.put p (fB (layB l)) s.t)) := H4.out.ok.put Hpl.out hl0 (.inr ⟨l, Hrt.out, rfl⟩) (.inr (kd_no (by rw [Hkp.out]; simp) Hpl.out hl0))
          unfold Kd.text
          clear H3 Hb3
          obtain ⟨c0, c1, f0⟩ := H4.out.cells
          have hsz := H4.out.ok.size
          have Hpu := Lib.hid (put_any p (fB (layB l)) s.t w4.drew s.tp H4.out.rep.drew (by omega))
          have hfd2 : (⟨#[102]⟩ : ByteArray) ++ strOf (layB l) = fB (layB l) := rfl
          have hbs : ¬ (9223372036854775807 < (⟨#[102]⟩ : ByteArray).size + (strOf (layB l)).size) := by
            have h1 : (strOf (layB l)).size = (layB l).length := by
              have : (strOf (layB l)).data.toList.length = (strOf (layB l)).size := Array.length_toList
              rw [← this, strOf_data]
            have h2 := (rightP_all Hrt.out).1
            rw [h1, layB_length]
            show ¬ (9223372036854775807 < 1 + _)
            omega
          go_wp2
          have hS0 : Below w4.heap.size w4 w4.drew := (Below.refl _ _).drew
          have hnl := H4.out.lt
          refine Go.XR.region_sched ((Below w4.heap.size w4)) [(0, true), (1, true), (2, true), (3, true), (4, true), (5, true), (6, true), (7, true), (8, true), (9, false), (10, false), (11, false), (12, false)] [10, 11, 12] Tryz.mixed (by kernel_rfl) (by kernel_rfl) (by kernel_rfl) ?_
          simp only [List.map_cons, List.map_nil, List.getElem?_cons_succ, List.getElem?_cons_zero]
          repeat (first | (refine Go.XR.S_light rfl rfl (by assumption) ?_ (fun w' hS K hK => ?_) (fun K hK => ?_); rotate_left 1; (have hS1 := bcell hS; (first | (refine wp_str_conv _ rfl la _ lc (layB l) rfl rfl (HRl.out.below hS) ?_) | go_step); exact hK); go_step; refine hK _ ?_; clear hK K))
          refine Go.XR.S_heavy (fun K hK => ?_)
          go_step
          ((with_reducible refine (Hpu.out).mono ?_); rintro e w' ⟨tp', rfl, hr5, hb5⟩)
          have H5 := Lib.hid ((H4.out.below (Below.refl _ _).drew).below hb5)
          have Hr5 := Lib.hid hr5
          have Hb5 := Lib.hid (Hb4.out.trans ((But.refl [nb] w4).drew.trans (But.of_below (S := [nb]) hb5)))
          obtain ⟨c0', c1', f0'⟩ := H5.out.cells
          clear hr5 c0 c1 f0 Hpu hfd2 hbs hnl
          refine hK _ _ ⟨fun _ => hS0.trans (hb5.mono (by simp)), ?_⟩
          clear hK K
          repeat (first | (refine Go.XR.S_light rfl rfl (by assumption) ?_ (fun w' hS K hK => ?_) (fun K hK => ?_); rotate_left 1; (have hS1 := bcell hS; (first | (refine wp_str_conv _ rfl la _ lc (layB l) rfl rfl (HRl.out.below hS) ?_) | go_step); exact hK); go_step; refine hK _ ?_; clear hK K))
          repeat (first | (refine Go.XR.S_heavy (fun K hK => ?_); go_step; refine hK _ _ ⟨fun h => by simp at h, ?_⟩; clear hK K))
          refine Go.XR.S_nil ?_
          clear hb5 hS0
          go_wp2
          go_ret
          exact ⟨ret_i (by rw [E.out]), tp', by rw [E.out]; exact H5.out.now Hr5.out Hok.out, Hb5.out.trans (But.setCell (But.refl _ _) (.inl (by simp)) _)⟩
        | no =>
          have Hkp := Lib.hid hkp
          clear hkp
          unfold Kd.text
          clear H3 Hb3
          go_wp2_with fail
          refine (full_any w4 nb s H4.out).mono ?_
          rintro e w5 ⟨rfl, rfl⟩
          by_cases hf : 4096 ≤ s.t.size
          · have hfd : decide (4096 ≤ s.t.size) = true := decide_eq_true hf
            rw [hfd]
            clear hfd
            have E : Hid ((putP s.t p l) = (s.t, 4)) := by unfold Hid putP; rw [if_neg (by rw [Hs.out]; simp), if_neg (by rw [Hrt.out]; simp), if_neg (by rw [Hk.out]; simp), if_neg (by rw [Hkp.out]; simp), if_pos ⟨Hkp.out, hf⟩]
            go_wp2
            go_ret
            exact ⟨ret_i (by rw [E.out]), s.tp, by rw [E.out]; exact H4.out, Hb4.out⟩
          · have hfd : decide (4096 ≤ s.t.size) = false := decide_eq_false hf
            rw [hfd]
            have E : Hid (putP s.t p l = (PT.put p (fB (layB l)) s.t, 0)) := by
              unfold Hid putP
              rw [if_neg (by rw [Hs.out]; simp), if_neg (by rw [Hrt.out]; simp), if_neg (by rw [Hk.out]; simp), if_neg (by rw [Hkp.out]; simp), if_neg (fun h => hf h.2)]
            have Hok : Hid (TOk (PT.put p (fB (layB l)) s.t)) := H4.out.ok.put Hpl.out hl0 (.inr ⟨l, Hrt.out, rfl⟩) (.inl (by omega))
            clear hfd hf
            obtain ⟨c0, c1, f0⟩ := H4.out.cells
            have hsz := H4.out.ok.size
            have Hpu := Lib.hid (put_any p (fB (layB l)) s.t w4.drew s.tp H4.out.rep.drew (by omega))
            have hfd2 : (⟨#[102]⟩ : ByteArray) ++ strOf (layB l) = fB (layB l) := rfl
            have hbs : ¬ (9223372036854775807 < (⟨#[102]⟩ : ByteArray).size + (strOf (layB l)).size) := by
              have h1 : (strOf (layB l)).size = (layB l).length := by
                have : (strOf (layB l)).data.toList.length = (strOf (layB l)).size := Array.length_toList
                rw [← this, strOf_data]
              have h2 := (rightP_all Hrt.out).1
              rw [h1, layB_length]
              show ¬ (9223372036854775807 < 1 + _)
              omega
            go_wp2
            have hS0 : Below w4.heap.size w4 w4.drew := (Below.refl _ _).drew
            have hnl := H4.out.lt
            refine Go.XR.region_sched ((Below w4.heap.size w4)) [(0, true), (1, true), (2, true), (3, true), (4, true), (5, true), (6, true), (7, true), (8, true), (9, false), (10, false), (11, false), (12, false)] [10, 11, 12] Tryz.mixed (by kernel_rfl) (by kernel_rfl) (by kernel_rfl) ?_
            simp only [List.map_cons, List.map_nil, List.getElem?_cons_succ, List.getElem?_cons_zero]
            repeat (first | (refine Go.XR.S_light rfl rfl (by assumption) ?_ (fun w' hS K hK => ?_) (fun K hK => ?_); rotate_left 1; (have hS1 := bcell hS; (first | (refine wp_str_conv _ rfl la _ lc (layB l) rfl rfl (HRl.out.below hS) ?_) | go_step); exact hK); go_step; refine hK _ ?_; clear hK K))
            refine Go.XR.S_heavy (fun K hK => ?_)
            go_step
            ((with_reducible refine (Hpu.out).mono ?_); rintro e w' ⟨tp', rfl, hr5, hb5⟩)
            have H5 := Lib.hid ((H4.out.below (Below.refl _ _).drew).below hb5)
            have Hr5 := Lib.hid hr5
            have Hb5 := Lib.hid (Hb4.out.trans ((But.refl [nb] w4).drew.trans (But.of_below (S := [nb]) hb5)))
            obtain ⟨c0', c1', f0'⟩ := H5.out.cells
            clear hr5 c0 c1 f0 Hpu hfd2 hbs hnl
            refine hK _ _ ⟨fun _ => hS0.trans (hb5.mono (by simp)), ?_⟩
            clear hK K
            repeat (first | (refine Go.XR.S_light rfl rfl (by assumption) ?_ (fun w' hS K hK => ?_) (fun K hK => ?_); rotate_left 1; (have hS1 := bcell hS; (first | (refine wp_str_conv _ rfl la _ lc (layB l) rfl rfl (HRl.out.below hS) ?_) | go_step); exact hK); go_step; refine hK _ ?_; clear hK K))
            repeat (first | (refine Go.XR.S_heavy (fun K hK => ?_); go_step; refine hK _ _ ⟨fun h => by simp at h, ?_⟩; clear hK K))
            refine Go.XR.S_nil ?_
            clear hb5 hS0
            go_wp2
            go_ret
            exact ⟨ret_i (by rw [E.out]), tp', by rw [E.out]; exact H5.out.now Hr5.out Hok.out, Hb5.out.trans (But.setCell (But.refl _ _) (.inl (by simp)) _)⟩
      · rw [hk]
        have E : Hid ((putP s.t p l) = (s.t, 192)) := by unfold Hid putP; rw [if_neg (by rw [Hs.out]; simp), if_neg (by rw [Hrt.out]; simp), if_pos (by rw [hk]; decide), hk]
        go_wp2
        go_ret
        exact ⟨ret_i (by rw [E.out]), s.tp, by rw [E.out]; exact H3.out, Hb3.out⟩
      · rw [hk]
        have E : Hid ((putP s.t p l) = (s.t, 2)) := by unfold Hid putP; rw [if_neg (by rw [Hs.out]; simp), if_neg (by rw [Hrt.out]; simp), if_pos (by rw [hk]; decide), hk]
        go_wp2
        go_ret
        exact ⟨ret_i (by rw [E.out]), s.tp, by rw [E.out]; exact H3.out, Hb3.out⟩
end Go.Proofs.YtoahjhogjjdkhaaGreatDoor

/- The walk over Remove. -/
namespace Go.Proofs.YtoahjhogjjdkhaaGreatDoor
open Go Go.RowKit Go.XR Go.TreePure Go.PathPure Go.NamesPure
/-- the box of 'empty' -/
def StRem (eb : Nat) (w : World) (K : List Nat) (acc : List Pr) : Prop := K = [eb] ∧ w.heap[eb]? = some (.cells #[.bool acc.isEmpty] 4 (0, 0))
theorem told_remove (w0 : World) (eb : Nat) (he : w0.heap.size ≤ eb) : Told 96 #[.pointer (some ⟨eb, 0, none⟩)] (StRem eb) (fun _ _ => false) w0 (fun _ => True) where
  below := fun w w' K acc h hb => ⟨h.1, (hb.block eb (blk_lt h.2)).trans h.2⟩
  lt := fun w K acc h b hb => by rw [h.1, List.mem_singleton] at hb; subst hb; exact blk_lt h.2
  base := fun w K acc h b hb => by rw [h.1, List.mem_singleton] at hb; subst hb; exact he
  call := fun w K acc x h _ _ => by
    obtain ⟨rfl, hh⟩ := h
    have HH := Lib.hid hh
    have c0 : w.cell? ⟨eb, 0, none⟩ = some (.bool acc.isEmpty) := cells_of hh 0
    have f0 : w.frozen? ⟨eb, 0, none⟩ = false := frozen_of_row w eb 0 _ _ hh
    have hl := blk_lt hh
    clear hh
    show Calls Tryz.prog 96 #[.agg #[.string x.1, .string x.2], .pointer (some ⟨eb, 0, none⟩)] w _
    go_enter Tryz.func96, Tryz.ntmps96
    go_wp2
    go_ret
    refine ⟨rfl, [eb], ⟨rfl, ?_⟩, (But.setCell (But.refl _ _) (.inl (by simp)) _).alloc _, fun b hb => .inl hb⟩
    have h1 := heap_setCell_at (i := 0) (u := .bool false) HH.out
    have h2 := ((Below.refl (w.setCell ⟨eb, 0, none⟩ (.bool false)).heap.size (w.setCell ⟨eb, 0, none⟩ (.bool false))).alloc (Nat.le_refl _) (.cells #[.string x.1, .string x.2] 98)).block eb (blk_lt h1)
    rw [h2, h1]
    simp
theorem toldL_none {l : List Pr} : (toldL (fun _ _ => false) [] l).isEmpty = l.isEmpty := by
  cases l with
  | nil => rfl
  | cons x l => rw [toldL, if_neg (by simp)]; rfl
set_option maxHeartbeats 4000000 in
set_option maxRecDepth 100000 in
theorem remove_any (w : World) (hE : Env w) (nb : Nat) (s : NSt) (h : NAt w nb s) (p : ByteArray) (hp : p.size ≤ 2^30) :
    Calls Tryz.prog 37 #[.pointer (some ⟨nb, 0, none⟩), .string p] w (RetN w nb s (removeP s.t p)) := by
  have HE := Lib.hid hE
  have H := Lib.hid h
  clear hE h
  go_enter Tryz.func37, Tryz.ntmps37
  go_wp2_with fail
  refine (sound_any w HE.out nb p hp 191).mono ?_
  rintro e w1 ⟨rfl, hb1⟩
  have H1 := Lib.hid (H.out.below hb1)
  have HE1 := Lib.hid (HE.out.below hb1)
  have Hb1 := Lib.hid (But.of_below (S := [nb]) hb1)
  clear hb1
  rcases errS_cases p 191 with hs | ⟨hs, _⟩ | ⟨hs, ls, hpl, hl0⟩
  · rw [hs]
    have E : Hid ((removeP s.t p) = (s.t, 170)) := by unfold Hid removeP; rw [if_pos (by rw [hs]; decide), hs]
    go_wp2
    go_ret
    exact ⟨ret_i (by rw [E.out]), s.tp, by rw [E.out]; exact H1.out, Hb1.out⟩
  · rw [hs]
    have E : Hid ((removeP s.t p) = (s.t, 191)) := by unfold Hid removeP; rw [if_pos (by rw [hs]; decide), hs]
    go_wp2
    go_ret
    exact ⟨ret_i (by rw [E.out]), s.tp, by rw [E.out]; exact H1.out, Hb1.out⟩
  · rw [hs]
    have Hs := Lib.hid hs
    have Hpl := Lib.hid hpl
    clear hs hpl
    go_wp2_with fail
    refine (kind_any w1 nb s H1.out p).mono ?_
    rintro e w2 ⟨rfl, rfl⟩
    by_cases hkp : kd s.t p = .no
    · rw [hkp]
      unfold Kd.text
      have E : Hid ((removeP s.t p) = (s.t, 2)) := by unfold Hid removeP; rw [if_neg (by rw [Hs.out]; simp), if_pos hkp]
      go_wp2
      go_ret
      exact ⟨ret_i (by rw [E.out]), s.tp, by rw [E.out]; exact H1.out, Hb1.out⟩
    · have hke : ((kd s.t p).text.toList == []) = false := by cases hq : kd s.t p <;> first | exact absurd hq hkp | exact (lit_ne _ _).2 (by decide)
      obtain ⟨c0, c1, f0⟩ := H1.out.cells
      have Hkp := Lib.hid hkp
      have hnl := H1.out.lt
      clear hkp
      go_wp2_with fail
      clear hke
      obtain ⟨W1, hW1⟩ : ∃ W1, w1.alloc (.cells #[.bool true] 4) = W1 := ⟨_, rfl⟩
      have hb2 : Below w1.heap.size w1 W1 := by rw [← hW1]; exact (Below.refl _ _).alloc (Nat.le_refl _) _
      have HSt : Hid (StRem w1.heap.size W1 [w1.heap.size] []) := by unfold Hid; rw [← hW1]; exact ⟨rfl, heap_new _ _⟩
      have HT := Lib.hid (told_remove w1 w1.heap.size (Nat.le_refl _))
      have Hb2 := Lib.hid hb2
      obtain ⟨eb, heb⟩ : ∃ eb, w1.heap.size = eb := ⟨_, rfl⟩
      rw [hW1]
      clear hW1 hb2 c0 c1 f0
      refine (within_remove w1 W1 s.tp s.t H1.out.rep (by have := H1.out.ok.size; omega) H1.out.ok.srt H1.out.ok.ksize Hb2.out p hp #[.pointer (some ⟨w1.heap.size, 0, none⟩)] (StRem w1.heap.size) (fun _ _ => false) (fun _ => True) (fun _ _ _ => trivial) HT.out [w1.heap.size] HSt.out).mono ?_
      rintro e w2 ⟨rfl, K', hst, hb3, _⟩
      rw [heb] at hst hb3 hnl ⊢
      obtain ⟨rfl, heap2⟩ := hst
      rw [toldL_none] at heap2
      have Hb3 : Hid (Below w1.heap.size w1 w2) := Hb2.out.trans (hb3.below (by have := Hb2.out.size; exact this) (fun i hi => by rw [List.mem_singleton] at hi; omega))
      have H2 := Lib.hid (H1.out.below Hb3.out)
      have Hbt := Lib.hid (Hb1.out.trans (But.of_below (S := [nb]) Hb3.out))
      have e0 : w2.cell? ⟨eb, 0, none⟩ = some (.bool (within s.t.list (front p)).isEmpty) := cells_of heap2 0
      clear heap2 hb3 HSt HT Hb2 Hb3
      by_cases hw : within s.t.list (front p) = []
      · have hwe : (within s.t.list (front p)).isEmpty = true := by rw [hw]; rfl
        have E : Hid (removeP s.t p = (PT.Drop p s.t, 0)) := by
          unfold Hid removeP
          rw [if_neg (by rw [Hs.out]; simp), if_neg Hkp.out, if_neg (by rw [hw]; simp)]
        rw [hwe] at e0
        clear hw hwe
        obtain ⟨c0, c1, f0⟩ := H2.out.cells
        have hsz := H2.out.ok.size
        go_wp2_with fail
        refine (Drop_any p s.t w2 s.tp H2.out.rep (by omega)).mono ?_
        rintro e w3 ⟨tp', rfl, hr3, hb3⟩
        have H3 := Lib.hid (H2.out.below hb3)
        have Hr3 := Lib.hid hr3
        have Hb3 := Lib.hid (Hbt.out.trans (But.of_below (S := [nb]) hb3))
        have Hok := Lib.hid (H2.out.ok.drop p)
        obtain ⟨c0', c1', f0'⟩ := H3.out.cells
        clear hr3 hb3 c0 c1 f0 e0
        go_wp2
        go_ret
        exact ⟨ret_i (by rw [E.out]), tp', by rw [E.out]; exact H3.out.now Hr3.out Hok.out, Hb3.out.trans (But.setCell (But.refl _ _) (.inl (by simp)) _)⟩
      · have hwe : (within s.t.list (front p)).isEmpty = false := by cases hq : within s.t.list (front p) <;> first | exact absurd hq hw | rfl
        rw [hwe] at e0
        clear hwe
        have E : Hid ((removeP s.t p) = (s.t, 193)) := by unfold Hid removeP; rw [if_neg (by rw [Hs.out]; simp), if_neg Hkp.out, if_pos hw]
        go_wp2
        go_ret
        exact ⟨ret_i (by rw [E.out]), s.tp, by rw [E.out]; exact H2.out, Hbt.out⟩
end Go.Proofs.YtoahjhogjjdkhaaGreatDoor

/- The walk over renamable. -/
namespace Go.Proofs.YtoahjhogjjdkhaaGreatDoor
open Go Go.RowKit Go.XR Go.TreePure Go.PathPure Go.NamesPure
def RetRena (w : World) (r : Int × Bool) (e : Ending) (w' : World) : Prop := e = .returned (.tuple #[.int .i64 r.1, .bool r.2]) ∧ Below w.heap.size w w'
theorem kdt_ne {k : Kd} (h : k ≠ .no) : (k.text.toList == []) = false := by cases k <;> first | exact absurd rfl h | exact (lit_ne _ _).2 (by decide)
theorem renaE_170 {t : PT} {a b : ByteArray} (h : errS a 191 = 170 ∨ errS b 191 = 170) : renaE t a b = (170, false) := by unfold renaE; rw [if_pos h]
theorem renaE_191 {t : PT} {a b : ByteArray} (h : ¬(errS a 191 = 170 ∨ errS b 191 = 170)) (h2 : errS a 191 ≠ 0 ∨ errS b 191 ≠ 0) : renaE t a b = (191, false) := by unfold renaE; rw [if_neg h, if_pos h2]
theorem renaE_0 {t : PT} {a b : ByteArray} (h1 : errS a 191 = 0) (h2 : errS b 191 = 0) : renaE t a b = if kd t a = .no then (2, false) else if a = b then (0, true) else
  if (behindP b a).isSome then (1, false) else if parK t b ≠ 0 then (parK t b, false) else if kd t b = .dir ∨ (kd t b = .file ∧ kd t a = .dir) then (3, false) else (0, false) := by
  unfold renaE
  rw [if_neg (by rw [h1, h2]; decide), if_neg (by rw [h1, h2]; decide)]
set_option maxHeartbeats 4000000 in
set_option maxRecDepth 100000 in
theorem rena_any (w : World) (hE : Env w) (nb : Nat) (s : NSt) (h : NAt w nb s) (a b : ByteArray) (ha : a.size ≤ 2^30) (hb : b.size ≤ 2^30) :
    Calls Tryz.prog 52 #[.pointer (some ⟨nb, 0, none⟩), .string a, .string b] w (RetRena w (renaE s.t a b)) := by
  have HE := Lib.hid hE
  have H := Lib.hid h
  clear hE h
  go_enter Tryz.func52, Tryz.ntmps52
  go_wp2_with fail
  refine (sound_any w HE.out nb a ha 191).mono ?_
  rintro e w1 ⟨rfl, hb1⟩
  have HE1 := Lib.hid (HE.out.below hb1)
  have H1 := Lib.hid (H.out.below hb1)
  have Hb1 := Lib.hid hb1
  clear hb1
  go_wp2_with fail
  refine (sound_any w1 HE1.out nb b hb 191).mono ?_
  rintro e w2 ⟨rfl, hb2⟩
  have HE2 := Lib.hid (HE1.out.below hb2)
  have H2 := Lib.hid (H1.out.below hb2)
  have Hb2 := Lib.hid (Hb1.out.trans (hb2.mono Hb1.out.size))
  clear hb2 HE1 H1 Hb1
  rcases errS_cases a 191 with hs | ⟨hs, _⟩ | ⟨hs, la, hpa, hla⟩ <;> rcases errS_cases b 191 with hq | ⟨hq, _⟩ | ⟨hq, lb, hpb, hlb⟩
  rotate_right 1
  · have HE0 := Lib.hid (renaE_0 (t := s.t) hs hq)
    rw [hs, hq]
    clear hs hq hpa hpb hla hlb
    go_wp2_with fail
    refine (kind_any w2 nb s H2.out a).mono ?_
    rintro e w3 ⟨rfl, rfl⟩
    by_cases hka : kd s.t a = .no
    · have E : Hid (renaE s.t a b = (2, false)) := by unfold Hid; rw [HE0.out, if_pos hka]
      rw [hka]
      unfold Kd.text
      clear hka
      go_wp2
      go_ret2
      exact ⟨by rw [E.out]; rfl, Hb2.out⟩
    · have hkt := kdt_ne hka
      have Hka := Lib.hid hka
      obtain ⟨ta, hta⟩ : ∃ ta, (kd s.t a).text = ta := ⟨_, rfl⟩
      rw [hta] at hkt ⊢
      clear hka hta
      by_cases hab : a = b
      · have hbb : (a.toList == b.toList) = true := (keq_iff _ _).2 hab
        have E : Hid (renaE s.t a b = (0, true)) := by unfold Hid; rw [HE0.out, if_neg Hka.out, if_pos hab]
        clear hab
        go_wp2
        go_ret2
        exact ⟨by rw [E.out]; rfl, Hb2.out⟩
      · have hbb : (a.toList == b.toList) = false := by rw [← Bool.not_eq_true, keq_iff]; exact hab
        have Hab := Lib.hid hab
        clear hab
        go_wp2_with fail
        refine (within_any w2 HE2.out b a hb ha).mono ?_
        rintro e w3 ⟨rfl, hb3⟩
        have HE3 := Lib.hid (HE2.out.below hb3)
        have H3 := Lib.hid (H2.out.below hb3)
        have Hb3 := Lib.hid (Hb2.out.trans (hb3.mono Hb2.out.size))
        clear hb3 hkt hbb HE2 H2 Hb2
        cases hbe : (behindP b a).isSome with
        | true =>
          have E : Hid (renaE s.t a b = (1, false)) := by unfold Hid; rw [HE0.out, if_neg Hka.out, if_neg Hab.out, if_pos hbe]
          clear hbe
          go_wp2
          go_ret2
          exact ⟨by rw [E.out]; rfl, Hb3.out⟩
        | false =>
          have Hbe := Lib.hid hbe
          clear hbe
          go_wp2_with fail
          refine (parent_k w3 HE3.out nb s H3.out b hb).mono ?_
          rintro e w4 ⟨rfl, hb4⟩
          have H4 := Lib.hid (H3.out.below hb4)
          have Hb4 := Lib.hid (Hb3.out.trans (hb4.mono Hb3.out.size))
          clear hb4 HE3 H3 Hb3
          rcases parK_cases s.t b with hk | hk | hk
          rotate_left 1
          · have E : Hid (renaE s.t a b = (192, false)) := by unfold Hid; rw [HE0.out, if_neg Hka.out, if_neg Hab.out, if_neg (by rw [Hbe.out]; simp), if_pos (by rw [hk]; decide), hk]
            rw [hk]
            clear hk
            go_wp2
            go_ret2
            exact ⟨by rw [E.out]; rfl, Hb4.out⟩
          · have E : Hid (renaE s.t a b = (2, false)) := by unfold Hid; rw [HE0.out, if_neg Hka.out, if_neg Hab.out, if_neg (by rw [Hbe.out]; simp), if_pos (by rw [hk]; decide), hk]
            rw [hk]
            clear hk
            go_wp2
            go_ret2
            exact ⟨by rw [E.out]; rfl, Hb4.out⟩
          · have HE1 : Hid (renaE s.t a b = if kd s.t b = .dir ∨ (kd s.t b = .file ∧ kd s.t a = .dir) then (3, false) else (0, false)) := by
              unfold Hid; rw [HE0.out, if_neg Hka.out, if_neg Hab.out, if_neg (by rw [Hbe.out]; simp), if_neg (by rw [hk]; decide)]
            rw [hk]
            clear hk
            go_wp2_with fail
            refine (kind_any w4 nb s H4.out b).mono ?_
            rintro e w5 ⟨rfl, rfl⟩
            cases hkb : kd s.t b with
            | no =>
              have E : Hid (renaE s.t a b = (0, false)) := by unfold Hid; rw [HE1.out, if_neg (by rw [hkb]; simp)]
              clear hkb
              unfold Kd.text
              go_wp2
              go_ret2
              exact ⟨by rw [E.out]; rfl, Hb4.out⟩
            | dir =>
              have E : Hid (renaE s.t a b = (3, false)) := by unfold Hid; rw [HE1.out, if_pos (.inl hkb)]
              clear hkb
              unfold Kd.text
              go_wp2
              go_ret2
              exact ⟨by rw [E.out]; rfl, Hb4.out⟩
            | file =>
              have Hkb := Lib.hid hkb
              clear hkb
              unfold Kd.text
              go_wp2_with fail
              refine (kind_any w4 nb s H4.out a).mono ?_
              rintro e w5 ⟨rfl, rfl⟩
              cases hkd : kd s.t a with
              | no => exact absurd hkd Hka.out
              | dir =>
                have E : Hid (renaE s.t a b = (3, false)) := by unfold Hid; rw [HE1.out, if_pos (.inr ⟨Hkb.out, hkd⟩)]
                clear hkd
                unfold Kd.text
                go_wp2
                go_ret2
                exact ⟨by rw [E.out]; rfl, Hb4.out⟩
              | file =>
                have E : Hid (renaE s.t a b = (0, false)) := by unfold Hid; rw [HE1.out, if_neg (by rw [Hkb.out, hkd]; simp)]
                clear hkd
                unfold Kd.text
                go_wp2
                go_ret2
                exact ⟨by rw [E.out]; rfl, Hb4.out⟩
  all_goals
    rw [hs, hq]
    first
      | (have E : Hid (renaE s.t a b = (170, false)) := renaE_170 (by rw [hs, hq]; decide)
         clear hs hq
         go_wp2
         go_ret2
         exact ⟨by rw [E.out]; rfl, Hb2.out⟩)
      | (have E : Hid (renaE s.t a b = (191, false)) := renaE_191 (by rw [hs, hq]; decide) (by rw [hs, hq]; decide)
         clear hs hq
         go_wp2
         go_ret2
         exact ⟨by rw [E.out]; rfl, Hb2.out⟩)
end Go.Proofs.YtoahjhogjjdkhaaGreatDoor

/- append onto a row of the call's own: the block is the old one or a new one. -/
namespace Go.XR
open Go Go.RowKit
/-- where the row lies behind an append -/
def SameOrNew (w w' : World) (so a' : Option Addr) : Prop := a' = so ∨ ∃ g, a' = some ⟨g, 0, none⟩ ∧ w.heap.size ≤ g ∧ g < w'.heap.size
section
variable {P : Program}
theorem run_append_where (w : World) (base : Nat) (t ty e : TypeId) (i : TypeInfo) (z : Value) (size bytes : Nat) (ht : P.underlying t = some (.slice e)) (hi : P.info? e = some i) (hz : i.zero = some z)
    (hsize : i.size = size) (hby : i.bytes = bytes) (hzs : z.cells.size = size) (hsz : 0 < size)
    (so : Option Addr) (n sc : Nat) (xs : List Value) (hown : w.ownsRow base e size (.slice so n sc) n xs)
    (ad : Addr) (m c : Nat) (news : List Value) (hl : news.length = m * size) (hnews : ∀ j u, news[j]? = some u → w.cell? (ad.add j) = some u) (h1 : ∀ u ∈ news, u.oneCell' = true)
    (h63 : n + m ≤ maxLen) (hbytes : (n + m) * bytes ≤ 140737488355328) (hbase : base ≤ w.heap.size) :
    ∃ a' c' w', (Builtin.append_ #[t, t] ty #[.slice so n sc, .slice (some ad) m c]).run P w = .ok (.slice a' (n + m) c') w' ∧ w'.ownsRow base e size (.slice a' (n + m) c') (n + m) (xs ++ news) ∧ w.grownBy w' (Value.ownBlock (.slice so n sc)) ∧
      SameOrNew w w' so a' := by
  obtain ⟨v', w', hr, ho, hg, _⟩ := run_append_own (P := P) w base t ty e i z size bytes ht hi hz hsize hby hzs hsz (.slice so n sc) n xs hown ad m c news hl hnews h1 h63 hbytes hbase
  obtain ⟨a', c', rfl⟩ := ownsRow_shape ho
  refine ⟨a', c', w', hr, ho, hg, ?_⟩
  have hsmall : n + m ≤ 9223372036854775807 := by simp only [maxLen] at h63; omega
  rcases hown.2 with ⟨h2, h3⟩ | ⟨g, cap, cur, h2, hbg, hgb, hnc, hcm, hcs, htake⟩
  · cases h2
    by_cases hm : m = 0
    · left
      subst hm
      have hn : news = [] := List.eq_nil_of_length_eq_zero (by simpa using hl)
      have hr2 : (Builtin.append_ #[t, t] ty #[.slice none 0 0, .slice (some ad) 0 c]).run P w = .ok (.slice none 0 0) w := by
        simp [Builtin.append_, run_underlying ht, sizeOf, typeInfo, hi, Builtin.lenOf, Builtin.firstCells, loadCells, loadCellsFrom]
      have := hr.symm.trans hr2
      injection this with h4 _
      injection h4
    · right
      subst hsize hby
      have hr2 := run_append_nil (P := P) w t ty e i z ht hi hz ad m c news hl hnews (by omega) (by omega) (by have hb := hbytes; rw [Nat.zero_add] at hb; omega)
      have := hr.symm.trans hr2
      injection this with h4 h5
      injection h4 with h6
      exact ⟨w.heap.size, h6, Nat.le_refl _, by rw [h5]; simp⟩
  · cases h2
    by_cases hroom : n + m ≤ sc
    · left
      obtain ⟨w2, hr2, _⟩ := run_append_fits (P := P) w base t ty e i size ht hi hsize g n sc xs hown ad m c news hl hnews h1 hroom
      have := hr.symm.trans hr2
      injection this with h4 _
      injection h4
    · right
      subst hsize hby
      have holds : ∀ j u, xs[j]? = some u → w.cell? ((⟨g, 0, none⟩ : Addr).add j) = some u := hown.cells (g := g) rfl
      have hr2 := run_append_grow (P := P) w t ty e i z ht hi hz ⟨g, 0, none⟩ n sc xs hown.1 holds ad m c news hl hnews (by omega) (by omega) (growslice_fits (by omega) hbytes)
      have := hr.symm.trans hr2
      injection this with h4 h5
      injection h4 with h6
      exact ⟨w.heap.size, h6, Nat.le_refl _, by rw [h5]; simp⟩

theorem append_enc2 {α : Type} (enc : α → List Value) (k bytes : Nat) (hk : ∀ x, (enc x).length = k) (hone : ∀ x, ∀ v ∈ enc x, v.oneCell' = true)
    {w : World} {A : Act} {K : Act → World → Prop} {Q : Exit → Act → World → Prop} {dst : Option Tmp} {s x : Operand} {t ty : TypeId} {pos : String} {after : Array Edge} {guard : Option (Nat × Bool)}
    (e : TypeId) (ht : P.underlying t = some (.slice e)) (hinfo : (P.info? e).map (fun i => (i.size, i.bytes, i.zero.isSome, (i.zero.map (·.cells.size)))) = some (k, bytes, true, some k)) (hk0 : 0 < k)
    (base : Nat) (so : Option Addr) (sc : Nat) (l : List α) (hs : A.eval s = .slice so l.length sc) (hown : w.ownsRow base e k (.slice so l.length sc) l.length (l.flatMap enc))
    (g o c : Nat) (m : List α) (hx : A.eval x = .slice (some ⟨g, o, none⟩) m.length c) (hrow : Row w (some ⟨g, o, none⟩) (m.flatMap enc))
    (hlen : (l.length + m.length) * bytes ≤ 140737488355328) (hlen2 : l.length + m.length ≤ maxLen) (hbase : base ≤ w.heap.size)
    (h : ∀ a' c' w', w'.ownsRow base e k (.slice a' (l ++ m).length c') (l ++ m).length ((l ++ m).flatMap enc) → w.grownBy w' (Value.ownBlock (.slice so l.length sc)) → SameOrNew w w' so a' →
      Oper.wp P ⟨dst, .move (.const (.slice a' (l ++ m).length c')), ty, "", #[], none⟩ A w' K (fun _ _ _ => False)) :
    Oper.wp P ⟨dst, .call { callee := .builtin .append, args := #[s, x], argTypes := #[t, t] }, ty, pos, after, guard⟩ A w K Q := by
  obtain ⟨i0, z, hi, hz0, hz1, hz2, hz3⟩ := info_z hinfo
  obtain ⟨a', c', w', hr, ho, hg, hn⟩ := run_append_where (P := P) w base t ty e i0 z k bytes ht hi hz0 hz1 hz2 hz3 hk0 so l.length sc (l.flatMap enc) hown ⟨g, o, none⟩ m.length c (m.flatMap enc) (flat_len hk m) (by
    intro j u hj
    rcases hrow with h0 | ⟨g', o', ha, hrw⟩
    · rw [h0] at hj; simp at hj
    · cases ha
      have hadd : (⟨g, o, none⟩ : Addr).add j = ⟨g, o + j, none⟩ := by unfold Addr.add; split <;> simp_all
      rw [hadd]; exact hrw j u hj) (by
    intro u hu
    obtain ⟨b, _, hb⟩ := List.mem_flatMap.1 hu
    exact hone b u hb) hlen2 hlen hbase
  have e1 : (l ++ m).length = l.length + m.length := List.length_append
  have := h a' c' w' (by rw [e1, List.flatMap_append]; exact ho) hg hn
  rw [e1] at this
  unfold Oper.wp execOp at this ⊢
  simp only [resolve, invoke, builtin, Sem.run_bind, Sem.run_pure, Result.andThen_ok, List.map_toArray, List.map_cons, List.map_nil, hs, hx, hr]
  simpa [Oper.upon, Act.eval] using this
end
end Go.XR

/- What Rename's closure does: the pairs are collected. -/
namespace Go.Proofs.YtoahjhogjjdkhaaGreatDoor
open Go Go.RowKit Go.XR Go.TreePure Go.PathPure Go.NamesPure
theorem pairL_one (p : Pr) : ∀ v ∈ pairL p, v.oneCell' = true := fun v hv => by
  simp only [pairL, List.mem_cons, List.not_mem_nil, or_false] at hv
  rcases hv with rfl | rfl <;> rfl
/-- the box of 'all': block ab; its row -/
def StAll (first : Pr) (w0 : World) (ab : Nat) (w : World) (K : List Nat) (acc : List Pr) : Prop :=
  ∃ g c, w.heap[ab]? = some (.cells #[.slice (some ⟨g, 0, none⟩) (first :: acc).length c] 99 (0, 0)) ∧ w.ownsRow 0 98 2 (.slice (some ⟨g, 0, none⟩) (first :: acc).length c) (first :: acc).length ((first :: acc).flatMap pairL) ∧
    K = [ab, g] ∧ g ≠ ab ∧ w0.heap.size ≤ ab ∧ w0.heap.size ≤ g
theorem own_g {w : World} {B : Nat} {e : TypeId} {k n g o c : Nat} {xs : List Value} (h : w.ownsRow B e k (.slice (some ⟨g, o, none⟩) n c) n xs) : g < w.heap.size := by
  have := h.lt g rfl
  exact this.2
theorem owns_but {w w' : World} {S : List Nat} {B : Nat} {e : TypeId} {k n g o c : Nat} {xs : List Value} (h : w.ownsRow B e k (.slice (some ⟨g, o, none⟩) n c) n xs) (hb : But S w w') (hn : g ∉ S) : w'.ownsRow B e k (.slice (some ⟨g, o, none⟩) n c) n xs := by
  refine ⟨h.1, ?_⟩
  rcases h.2 with ⟨h1, _⟩ | ⟨g', cap, cur, h1, h2, h3, h4⟩
  · cases h1
  · cases h1
    exact .inr ⟨g, c, cur, rfl, h2, (hb.block g (blk_lt h3) hn).trans h3, h4⟩
set_option maxHeartbeats 4000000 in
set_option maxRecDepth 100000 in
theorem told_rename (first : Pr) (w0 : World) (ab : Nat) : Told 54 #[.pointer (some ⟨ab, 0, none⟩)] (StAll first w0 ab) (fun _ _ => true) w0 (fun _ => True) where
  below := fun w w' K acc h hb => by
    obtain ⟨g, c, h1, h2, h3⟩ := h
    exact ⟨g, c, (hb.block ab (blk_lt h1)).trans h1, owns_below h2 hb, h3⟩
  lt := fun w K acc h b hb => by
    obtain ⟨g, c, h1, h2, h3, _⟩ := h
    rw [h3] at hb
    simp only [List.mem_cons, List.not_mem_nil, or_false] at hb
    rcases hb with rfl | rfl
    · exact blk_lt h1
    · exact own_g h2
  base := fun w K acc h b hb => by
    obtain ⟨g, c, h1, h2, h3, _, h5, h6⟩ := h
    rw [h3] at hb
    simp only [List.mem_cons, List.not_mem_nil, or_false] at hb
    rcases hb with rfl | rfl
    · exact h5
    · exact h6
  call := fun w K acc x h hlen _ => by
    obtain ⟨g, c, hh, ho, rfl, hne, hb0, hg0⟩ := h
    have HH := Lib.hid hh
    have Ho := Lib.hid ho
    have hl := blk_lt hh
    have hgl := own_g ho
    obtain ⟨L, hL⟩ : ∃ L, first :: acc = L := ⟨_, rfl⟩
    have hLx : first :: (acc ++ [x]) = L ++ [x] := by rw [← hL]; rfl
    have HLx := Lib.hid hLx
    have HL := Lib.hid hL
    have hLl : L.length < 2^31 := by rw [← hL, List.length_cons]; omega
    rw [hL] at hh Ho HH
    have c0 : w.cell? ⟨ab, 0, none⟩ = some (.slice (some ⟨g, 0, none⟩) L.length c) := cells_of hh 0
    clear hh ho hL hLx
    show Calls Tryz.prog 54 #[.agg #[.string x.1, .string x.2], .pointer (some ⟨ab, 0, none⟩)] w _
    go_enter Tryz.func54, Tryz.ntmps54
    go_wp2_with (at_builtin; refine Go.XR.stop (fun X hX => ?_))
    refine hX.out ?_
    clear hX X
    obtain ⟨W1, hW1⟩ : ∃ W1, w.alloc (.cells #[.string x.1, .string x.2] 98) = W1 := ⟨_, rfl⟩
    have hb1 : Below w.heap.size w W1 := by rw [← hW1]; exact (Below.refl _ _).alloc (Nat.le_refl _) _
    have hw1 : W1.heap.size = w.heap.size + 1 := by rw [← hW1]; simp
    rw [hW1]
    refine wpList_plain rfl (fun K hK => ?_)
    refine append_enc2 (P := Tryz.prog) pairL 2 32 pairL_length pairL_one 98 Tryz.underlying99 (by kernel_rfl) (by decide) 0 (some ⟨g, 0, none⟩) c L rfl ((owns_below Ho.out hb1).alloc _) (w.heap.size + 1) 0 1 [x] rfl (by rw [List.flatMap_cons, List.flatMap_nil, List.append_nil, ← hw1]; exact Row.new _ _ _) (by simp; omega) (by unfold maxLen; simp; omega) (Nat.zero_le _) ?_
    intro a' c' w3 ho3 hg3 hsn
    have hb2 : Below w.heap.size w (W1.alloc (.cells #[.string x.1, .string x.2] 98)) := hb1.alloc hb1.size _
    have hbt : But [g] w w3 := (But.of_below hb2).trans (But.of_grown (by simpa [Value.ownBlock] using hg3))
    obtain ⟨g', rfl, hg'⟩ : ∃ g', a' = some ⟨g', 0, none⟩ ∧ (g' = g ∨ w.heap.size ≤ g') := by
      rcases hsn with h1 | ⟨g', h1, h2, _⟩
      · exact ⟨g, h1, .inl rfl⟩
      · refine ⟨g', h1, .inr ?_⟩
        have := hb2.size; omega
    have hne' : g' ≠ ab := by
      rcases hg' with h1 | h1
      · rw [h1]; exact hne
      · omega
    have hh3 : w3.heap[ab]? = some (.cells #[.slice (some ⟨g, 0, none⟩) L.length c] 99 (0, 0)) := (hbt.block ab hl (by simp; exact fun e => hne e.symm)).trans HH.out
    have c3 : w3.cell? ⟨ab, 0, none⟩ = some (.slice (some ⟨g, 0, none⟩) L.length c) := cells_of hh3 0
    have f3 : w3.frozen? ⟨ab, 0, none⟩ = false := frozen_of_row w3 ab 0 _ _ hh3
    obtain ⟨L3, hL3⟩ : ∃ L3, L ++ [x] = L3 := ⟨_, rfl⟩
    have HL3 : Hid (first :: (acc ++ [x]) = L3) := HLx.out.trans hL3
    rw [hL3] at ho3 ⊢
    have Ho3 := Lib.hid ho3
    have Hh3 := Lib.hid hh3
    have Hbt := Lib.hid hbt
    clear ho3 hg3 hsn hb2 hb1 hbt hh3 hL3 hW1 hw1 c0
    go_step
    refine hK _ _ ?_
    clear hK K
    go_wp2
    go_ret
    have hbs : But [ab] w3 (w3.setCell ⟨ab, 0, none⟩ (.slice (some ⟨g', 0, none⟩) L3.length c')) := But.setCell (But.refl _ _) (.inl (by simp)) _
    refine ⟨rfl, [ab, g'], ⟨g', c', ?_, ?_, rfl, hne', hb0, ?_⟩, ?_, ?_⟩
    · rw [HL3.out]
      have := heap_setCell_at (i := 0) (u := .slice (some ⟨g', 0, none⟩) L3.length c') Hh3.out
      rw [this]
      simp
    · rw [HL3.out]
      exact owns_but Ho3.out hbs (by simp; exact hne')
    · rcases hg' with h1 | h1
      · rw [h1]; exact hg0
      · omega
    · exact (Hbt.out.mono (fun i hi _ => by rw [List.mem_singleton] at hi; rw [hi]; simp)).trans (hbs.mono (fun i hi _ => by rw [List.mem_singleton] at hi; rw [hi]; simp))
    · intro b hb
      simp only [List.mem_cons, List.not_mem_nil, or_false] at hb
      rcases hb with rfl | rfl
      · exact .inl (by simp)
      · rcases hg' with h1 | h1
        · rw [h1]; exact .inl (by simp)
        · exact .inr h1
end Go.Proofs.YtoahjhogjjdkhaaGreatDoor

/- Rename, plain: what comes of it is a tree of things. -/
namespace Go.Proofs.YtoahjhogjjdkhaaGreatDoor
open Go Go.RowKit Go.XR Go.TreePure Go.PathPure Go.NamesPure
theorem size_two {b : ByteArray} {l : List ByteArray} (h : parse b = some l) (hl : l ≠ []) : 2 ≤ b.size := by
  obtain ⟨h1, h2⟩ := parse_some h
  obtain ⟨x, r, rfl⟩ := List.exists_cons_of_ne_nil hl
  have h3 := isName_ne ((ok_all h1).2 x (List.mem_cons_self ..))
  have h4 : b.data.toList.length = b.size := Array.length_toList
  rw [← h4, h2, B_data]
  unfold tx
  rw [if_neg hl, fl_cons, List.length_cons, List.length_append]
  have := List.length_pos_iff.2 h3
  omega
theorem renaE_ok {t : PT} {a b : ByteArray} (h : renaE t a b = (0, false)) : errS a 191 = 0 ∧ errS b 191 = 0 ∧ kd t a ≠ .no ∧ a ≠ b ∧ (behindP b a).isSome = false ∧ parK t b = 0 ∧ ¬(kd t b = .dir ∨ (kd t b = .file ∧ kd t a = .dir)) := by
  rcases errS_cases a 191 with hs | ⟨hs, _⟩ | ⟨hs, la, hpa, hla⟩
  · rw [renaE_170 (.inl hs)] at h; injection h with h; exact absurd h (by decide)
  · rcases errS_cases b 191 with hq | ⟨hq, _⟩ | ⟨hq, lb, hpb, hlb⟩
    · rw [renaE_170 (.inr hq)] at h; injection h with h; exact absurd h (by decide)
    · rw [renaE_191 (by rw [hs, hq]; decide) (by rw [hs, hq]; decide)] at h; injection h with h; exact absurd h (by decide)
    · rw [renaE_191 (by rw [hs, hq]; decide) (by rw [hs, hq]; decide)] at h; injection h with h; exact absurd h (by decide)
  · rcases errS_cases b 191 with hq | ⟨hq, _⟩ | ⟨hq, lb, hpb, hlb⟩
    · rw [renaE_170 (.inr hq)] at h; injection h with h; exact absurd h (by decide)
    · rw [renaE_191 (by rw [hs, hq]; decide) (by rw [hs, hq]; decide)] at h; injection h with h; exact absurd h (by decide)
    · rw [renaE_0 hs hq] at h
      by_cases h1 : kd t a = .no
      · rw [if_pos h1] at h; injection h with h; exact absurd h (by decide)
      · rw [if_neg h1] at h
        by_cases h2 : a = b
        · rw [if_pos h2] at h; injection h with _ h; cases h
        · rw [if_neg h2] at h
          cases h3 : (behindP b a).isSome with
          | true => rw [if_pos h3] at h; injection h with h; exact absurd h (by decide)
          | false =>
            rw [if_neg (by rw [h3]; simp)] at h
            by_cases h4 : parK t b ≠ 0
            · rw [if_pos h4] at h; injection h with h; exact absurd h h4
            · rw [if_neg h4] at h
              refine ⟨hs, hq, h1, h2, rfl, by simpa using h4, fun h5 => ?_⟩
              rw [if_pos h5] at h; injection h with h; exact absurd h (by decide)
theorem kd_some {t : PT} {p : ByteArray} (h : kd t p ≠ .no) {l : List ByteArray} (hp : parse p = some l) (hl : l ≠ []) : ∃ v, PT.get p t = some v := Option.ne_none_iff_exists'.1 (kd_no h hp hl)
theorem mem_within {l : List Pr} {f : ByteArray} {x : Pr} : x ∈ within l f ↔ x ∈ l ∧ pre f x.1 = true := List.mem_filter
theorem trim_path {a : ByteArray} {l : List ByteArray} (h : parse a = some l) (hl : l ≠ []) : front a = a ++ ⟨#[47]⟩ := by
  obtain ⟨h1, h2⟩ := parse_some h
  unfold front trim
  congr 1
  have hd : a.data.toList = fl l := by rw [h2, B_data]; unfold tx; rw [if_neg hl]
  have hns : Lib.trimSuffix a.data.toList [47] = a.data.toList := by
    unfold Lib.trimSuffix
    rw [if_neg]
    intro hs
    obtain ⟨r, n, rfl⟩ : ∃ r n, l = r ++ [n] := ⟨_, _, (List.dropLast_concat_getLast hl).symm⟩
    have hn : isName n = true := (ok_all h1).2 n (by simp)
    have hno := isName_no47 hn
    have hne := isName_ne hn
    rw [hd, fl_append, fl_cons, fl_nil, List.append_nil] at hs
    obtain ⟨m, c, hm⟩ : ∃ m c, n.data.toList = m ++ [c] := ⟨_, _, (List.dropLast_concat_getLast hne).symm⟩
    have hc : c ≠ 47 := fun e => hno (by rw [hm, e]; simp)
    rw [hm] at hs
    have : (fl r ++ 47 :: (m ++ [c])) = (fl r ++ 47 :: m) ++ [c] := by simp
    rw [this] at hs
    unfold Lib.hasSuffix at hs
    rw [List.isSuffixOf_iff_suffix] at hs
    obtain ⟨q, hq⟩ := hs
    have := List.append_inj_right' hq rfl
    injection this with h5
    exact hc h5.symm
  rw [hns]
theorem front_not (a : ByteArray) {l : List ByteArray} (h : parse a = some l) (hl : l ≠ []) : pre (front a) a = false := by
  rw [trim_path h hl, ← Bool.not_eq_true]
  intro hp
  obtain ⟨t, ht⟩ := pre_iff.1 hp
  have h1 := congrArg List.length ht
  rw [ByteArray.toList_eq, ByteArray.toList_eq, ByteArray.data_append, Array.toList_append, List.length_append, List.length_append] at h1
  have h2 : (⟨#[47]⟩ : ByteArray).data.toList.length = 1 := rfl
  omega
theorem Srt.nodup {l : List Pr} (h : Srt l) : (l.map (·.1)).Nodup := by
  unfold List.Nodup
  rw [List.pairwise_map]
  exact h.imp fun h e => klt_ne h e
theorem allOf_spec {t : PT} (h : TOk t) {a : ByteArray} {la : List ByteArray} (hp : parse a = some la) (hl : la ≠ []) (hk : kd t a ≠ .no) : ((allOf t a).map (·.1)).Nodup ∧ ∀ x ∈ allOf t a, x ∈ t.list := by
  obtain ⟨v, hv⟩ := kd_some hk hp hl
  have hva : (a, v) ∈ t.list := h.get hv
  unfold allOf
  rw [hv]
  constructor
  · rw [List.map_cons, List.nodup_cons]
    constructor
    · intro hm
      obtain ⟨x, hx, he⟩ := List.mem_map.1 hm
      have h1 := (mem_within.1 hx).2
      rw [he] at h1
      have : pre (front a) a = true := h1
      rw [front_not a hp hl] at this; cases this
    · exact Srt.nodup (h.srt.filter _)
  · intro x hx
    rcases List.mem_cons.1 hx with rfl | hx
    · exact hva
    · exact (mem_within.1 hx).1
theorem dropAll_cons (t : PT) (x : Pr) (l : List Pr) : dropAll t (x :: l) = dropAll (PT.Drop x.1 t) l := rfl
theorem dropAll_snoc (t : PT) (l : List Pr) (x : Pr) : dropAll t (l ++ [x]) = PT.Drop x.1 (dropAll t l) := by unfold dropAll; rw [List.foldl_append]; rfl
theorem dropAll_ok : ∀ {t : PT}, TOk t → ∀ l, TOk (dropAll t l)
  | _, h, [] => h
  | t, h, x :: l => by rw [dropAll_cons]; exact dropAll_ok (h.drop x.1) l
theorem dropAll_size : ∀ (l : List Pr) {t : PT}, TOk t → (l.map (·.1)).Nodup → (∀ x ∈ l, x ∈ t.list) → (dropAll t l).size + l.length = t.size
  | [], _, _, _, _ => rfl
  | x :: l, t, h, hn, hm => by
    rw [List.map_cons, List.nodup_cons] at hn
    rw [dropAll_cons]
    have hx : (x.1, x.2) ∈ t.list := hm x (List.mem_cons_self ..)
    obtain ⟨A, C, e1, _, e3⟩ := ins_split h.srt hx x.2
    have h1 : (PT.Drop x.1 t).size + 1 = t.size := by
      rw [← PT.list_length, ← PT.list_length, PT.Drop_list h.srt, e3, e1]
      simp only [List.length_append, List.length_cons]; omega
    have h2 := dropAll_size l (h.drop x.1) hn.2 (fun y hy => by
      rw [PT.Drop_list h.srt]
      refine List.mem_filter.2 ⟨hm y (List.mem_cons_of_mem _ hy), ?_⟩
      have hne : y.1 ≠ x.1 := fun e => hn.1 (List.mem_map.2 ⟨y, hy, e⟩)
      rcases klt_cases y.1 x.1 with h3 | h3 | h3
      · rw [h3]; rfl
      · exact absurd h3 hne
      · rw [h3]; simp)
    rw [List.length_cons]; omega
/-- what the second loop keeps of a tree -/
structure MOk (t : PT) (n : Nat) : Prop where
  srt : Srt t.list
  size : t.size ≤ n
  key : ∀ x ∈ t.list, ∃ l, parse x.1 = some l ∧ l ≠ []
  val : ∀ x ∈ t.list, x.2 = dB ∨ ∃ l, rightP l = true ∧ x.2 = fB (layB l)
theorem MOk.put {t : PT} {n : Nat} (h : MOk t n) {p v : ByteArray} {l : List ByteArray} (hp : parse p = some l) (hl : l ≠ []) (hv : v = dB ∨ ∃ l, rightP l = true ∧ v = fB (layB l)) : MOk (PT.put p v t) (n + 1) where
  srt := PT.put_srt h.srt _ _
  size := by have := PT.put_size p v t; have := h.size; omega
  key := fun x hx => by
    rw [PT.put_list _ _ _ h.srt] at hx
    rcases mem_ins h.srt hx with rfl | hx
    · exact ⟨l, hp, hl⟩
    · exact h.key x hx
  val := fun x hx => by
    rw [PT.put_list _ _ _ h.srt] at hx
    rcases mem_ins h.srt hx with rfl | hx
    · exact hv
    · exact h.val x hx
theorem newP_ne {a b k : ByteArray} {lb l : List ByteArray} (hb : parse b = some lb) (hlb : lb ≠ []) (h : parse (newP a b k) = some l) : l ≠ [] := by
  intro e
  subst e
  have h1 := parse_root.1 h
  have h2 := size_two hb hlb
  have h3 := congrArg ByteArray.size h1
  unfold newP at h3
  rw [ByteArray.size_append] at h3
  have : (⟨#[47]⟩ : ByteArray).size = 1 := rfl
  omega
theorem putAll_ok {a b : ByteArray} {lb : List ByteArray} (hb : parse b = some lb) (hlb : lb ≠ []) : ∀ (l : List Pr) {t t' : PT} {n : Nat}, MOk t n → (∀ x ∈ l, x.2 = dB ∨ ∃ l, rightP l = true ∧ x.2 = fB (layB l)) → putAll a b t l = some t' → MOk t' (n + l.length)
  | [], t, t', n, h, _, he => by cases he; exact h
  | x :: l, t, t', n, h, hv, he => by
    rw [putAll] at he
    split at he
    · rename_i hs
      obtain ⟨lp, hlp⟩ := Option.isSome_iff_exists.1 hs
      have h1 := h.put hlp (newP_ne hb hlb hlp) (hv x (List.mem_cons_self ..))
      have h2 := putAll_ok hb hlb l h1 (fun y hy => hv y (List.mem_cons_of_mem _ hy)) he
      rw [List.length_cons, show n + (l.length + 1) = n + 1 + l.length by omega]
      exact h2
    · cases he
theorem rename_ok {t : PT} (h : TOk t) {a b : ByteArray} (hr : renaE t a b = (0, false)) {t' : PT} (he : putAll a b (dropAll t (allOf t a)) (allOf t a) = some t') : TOk t' := by
  obtain ⟨h1, h2, h3, _⟩ := renaE_ok hr
  obtain ⟨la, hpa, hla⟩ : ∃ l, parse a = some l ∧ l ≠ [] := by
    rcases errS_cases a 191 with hs | ⟨hs, _⟩ | ⟨_, h⟩
    · rw [hs] at h1; exact absurd h1 (by decide)
    · rw [hs] at h1; exact absurd h1 (by decide)
    · exact h
  obtain ⟨lb, hpb, hlb⟩ : ∃ l, parse b = some l ∧ l ≠ [] := by
    rcases errS_cases b 191 with hs | ⟨hs, _⟩ | ⟨_, h⟩
    · rw [hs] at h2; exact absurd h2 (by decide)
    · rw [hs] at h2; exact absurd h2 (by decide)
    · exact h
  obtain ⟨hn, hm⟩ := allOf_spec h hpa hla h3
  have hd := dropAll_ok h (allOf t a)
  have hs := dropAll_size (allOf t a) h hn hm
  have h4 := putAll_ok hpb hlb (allOf t a) (n := (dropAll t (allOf t a)).size) ⟨hd.srt, Nat.le_refl _, hd.key, hd.val⟩ (fun x hx => h.val x (hm x hx)) he
  exact ⟨h4.srt, by have := h4.size; have := h.size; omega, h4.key, h4.val⟩
theorem renaE_path {t : PT} {a b : ByteArray} (h : renaE t a b = (0, false)) : (∃ l, parse a = some l ∧ l ≠ []) ∧ ∃ l, parse b = some l ∧ l ≠ [] := by
  obtain ⟨h1, h2, _⟩ := renaE_ok h
  constructor
  · rcases errS_cases a 191 with hs | ⟨hs, _⟩ | ⟨_, h⟩
    · rw [hs] at h1; exact absurd h1 (by decide)
    · rw [hs] at h1; exact absurd h1 (by decide)
    · exact h
  · rcases errS_cases b 191 with hs | ⟨hs, _⟩ | ⟨_, h⟩
    · rw [hs] at h2; exact absurd h2 (by decide)
    · rw [hs] at h2; exact absurd h2 (by decide)
    · exact h
theorem allOf_pre {t : PT} {a : ByteArray} {la : List ByteArray} (hp : parse a = some la) (hl : la ≠ []) : ∀ x ∈ allOf t a, a.size ≤ x.1.size := by
  intro x hx
  unfold allOf at hx
  rcases List.mem_cons.1 hx with rfl | hx
  · exact Nat.le_refl _
  · obtain ⟨t, ht⟩ := pre_iff.1 (mem_within.1 hx).2
    rw [trim_path hp hl] at ht
    have h1 := congrArg List.length ht
    rw [ByteArray.toList_eq, ByteArray.toList_eq, ByteArray.data_append, Array.toList_append, List.length_append, List.length_append] at h1
    have h2 : x.1.data.toList.length = x.1.size := Array.length_toList
    have h3 : a.data.toList.length = a.size := Array.length_toList
    omega
end Go.Proofs.YtoahjhogjjdkhaaGreatDoor

/- The walk over Rename. -/
namespace Go.Proofs.YtoahjhogjjdkhaaGreatDoor
open Go Go.RowKit Go.XR Go.TreePure Go.PathPure Go.NamesPure
theorem toldL_true (l : List Pr) : toldL (fun _ _ => true) [] l = l := toldL_all (fun _ _ => rfl) l []
theorem putAll_take {a b : ByteArray} {T : PT} {l : List Pr} {k : Nat} (h : k < l.length) : putAll a b T (l.drop k) = if (parse (newP a b l[k].1)).isSome then putAll a b (PT.put (newP a b l[k].1) l[k].2 T) (l.drop (k + 1)) else none := by
  rw [List.drop_eq_getElem_cons h, putAll]
theorem renameP_no {t : PT} {a b : ByteArray} (h : renaE t a b = (0, false)) (h2 : putAll a b (dropAll t (allOf t a)) (allOf t a) = none) : renameP t a b = (t, 4) := by
  unfold renameP; rw [if_neg (by rw [h]; decide), h2]
theorem renameP_yes {t t' : PT} {a b : ByteArray} (h : renaE t a b = (0, false)) (h2 : putAll a b (dropAll t (allOf t a)) (allOf t a) = some t') : renameP t a b = (t', 0) := by
  unfold renameP; rw [if_neg (by rw [h]; decide), h2]
theorem pairs_at {w : World} {g : Nat} {l : List Pr} (h : Row w (some ⟨g, 0, none⟩) (l.flatMap pairL)) {i : Nat} (hi : i < l.length) : w.cell? ⟨g, i * 2, none⟩ = some (.string l[i].1) ∧ w.cell? ⟨g, i * 2 + 1, none⟩ = some (.string l[i].2) := by
  obtain ⟨g', o', he, hA⟩ := erow_at (enc := pairL) pairL_length h hi (by omega)
  cases he
  have h0 := hA 0 (.string l[i].1) rfl
  have h1 := hA 1 (.string l[i].2) rfl
  rw [Nat.zero_add] at h0 h1
  exact ⟨h0, h1⟩
set_option maxHeartbeats 8000000 in
set_option maxRecDepth 100000 in
theorem rename_any (w : World) (hE : Env w) (nb : Nat) (s : NSt) (h : NAt w nb s) (a b : ByteArray) (ha : a.size ≤ 2^30) (hb : b.size ≤ 2^30) :
    Calls Tryz.prog 22 #[.pointer (some ⟨nb, 0, none⟩), .string a, .string b] w (RetN w nb s (renameP s.t a b)) := by
  have HE := Lib.hid hE
  have H := Lib.hid h
  clear hE h
  go_enter Tryz.func22, Tryz.ntmps22
  go_wp2_with fail
  refine (rena_any w HE.out nb s H.out a b ha hb).mono ?_
  rintro e w1 ⟨rfl, hb1⟩
  have H1 := Lib.hid (H.out.below hb1)
  have HE1 := Lib.hid (HE.out.below hb1)
  have Hb1 := Lib.hid (But.of_below (S := [nb]) hb1)
  clear hb1
  by_cases hr0 : (renaE s.t a b).1 = 0
  · cases hr1 : (renaE s.t a b).2 with
    | true =>
      have E : Hid (renameP s.t a b = (s.t, 0)) := by unfold Hid renameP; rw [if_pos (.inr hr1), hr0]
      rw [hr0]
      clear hr0 hr1
      go_wp2
      go_ret
      exact ⟨ret_i (by rw [E.out]), s.tp, by rw [E.out]; exact H1.out, Hb1.out⟩
    | false =>
      have hre : renaE s.t a b = (0, false) := Prod.ext hr0 hr1
      have Hre := Lib.hid hre
      rw [hr0]
      clear hr0 hr1 hre
      obtain ⟨c0, c1, f0⟩ := H1.out.cells
      have hnl := H1.out.lt
      go_wp2_with fail
      refine (get_any a s.t w1 s.tp H1.out.rep).mono ?_
      rintro e w2 ⟨rfl, rfl⟩
      obtain ⟨v, hv⟩ : ∃ v, (PT.get a s.t).getD ⟨#[]⟩ = v := ⟨_, rfl⟩
      have Hv := Lib.hid hv
      rw [hv]
      clear hv
      go_wp2_with fail
      obtain ⟨W2, hW2⟩ : ∃ W2, (w1.alloc (.cells #[.string a, .string v] 98)).alloc (.cells #[.slice (some ⟨w1.heap.size, 0, none⟩) 1 1] 99) = W2 := ⟨_, rfl⟩
      have hb2 : Below w1.heap.size w1 W2 := by rw [← hW2]; exact ((Below.refl _ _).alloc (Nat.le_refl _) _).alloc (by simp) _
      have hh1 : W2.heap[w1.heap.size]? = some (.cells #[.string a, .string v] 98 (0, 0)) := by
        rw [← hW2]
        exact ((Below.refl _ (w1.alloc (.cells #[.string a, .string v] 98))).alloc (Nat.le_refl _) _).block w1.heap.size (by simp) |>.trans (heap_new _ _)
      have hh2 : W2.heap[w1.heap.size + 1]? = some (.cells #[.slice (some ⟨w1.heap.size, 0, none⟩) 1 1] 99 (0, 0)) := by rw [← hW2]; exact heap_new2 _ _ _
      have HSt : Hid (StAll (a, v) w1 (w1.heap.size + 1) W2 [w1.heap.size + 1, w1.heap.size] []) :=
        ⟨w1.heap.size, 1, hh2, ⟨rfl, .inr ⟨w1.heap.size, 1, #[.string a, .string v], rfl, Nat.zero_le _, hh1, Nat.le_refl _, by unfold maxLen; omega, rfl, rfl⟩⟩, rfl, by omega, by omega, Nat.le_refl _⟩
      have HT := Lib.hid (told_rename (a, v) w1 (w1.heap.size + 1))
      have Hb2 := Lib.hid hb2
      have hsz1 := H1.out.ok.size
      rw [hW2]
      clear hW2 hb2 hh1 hh2 c0 c1 f0
      refine (within_rename w1 W2 s.tp s.t H1.out.rep (by omega) H1.out.ok.srt H1.out.ok.ksize Hb2.out a ha #[.pointer (some ⟨w1.heap.size + 1, 0, none⟩)] (StAll (a, v) w1 (w1.heap.size + 1)) (fun _ _ => true) (fun _ => True) (fun _ _ _ => trivial) HT.out [w1.heap.size + 1, w1.heap.size] HSt.out).mono ?_
      rintro e w3 ⟨rfl, K', ⟨g, cc, hh3, ho3, _, _, _, hg3⟩, hb3, _⟩
      rw [toldL_true] at hh3 ho3
      have hall : (a, v) :: within s.t.list (front a) = allOf s.t a := by unfold allOf; rw [Hv.out]
      rw [hall] at hh3 ho3
      obtain ⟨L, hL⟩ : ∃ L, allOf s.t a = L := ⟨_, rfl⟩
      rw [hL] at hh3 ho3
      have HL := Lib.hid hL
      have HRow := Lib.hid (Row.owned ho3)
      have Hb3 : Hid (Below w1.heap.size w1 w3) := Hb2.out.trans (hb3.below Hb2.out.size (fun i hi => by
        simp only [List.mem_cons, List.not_mem_nil, or_false] at hi
        rcases hi with rfl | rfl <;> omega))
      have H3 := Lib.hid (H1.out.below Hb3.out)
      have HE3 := Lib.hid (HE1.out.below Hb3.out)
      have Hbt := Lib.hid (Hb1.out.trans (But.of_below (S := [nb]) Hb3.out))
      obtain ⟨c0, c1, f0⟩ := H3.out.cells
      have hnl3 := H3.out.lt
      have hLl : L.length ≤ 4097 := by
        rw [← hL]
        unfold allOf
        rw [List.length_cons]
        have h1 : (within s.t.list (front a)).length ≤ s.t.list.length := List.length_filter_le _ _
        rw [PT.list_length] at h1
        omega
      obtain ⟨ab, hab⟩ : ∃ ab, w1.heap.size + 1 = ab := ⟨_, rfl⟩
      have hhl := blk_lt hh3
      rw [hab] at hh3 hhl ⊢
      have hab0 : w3.cell? ⟨ab, 0, none⟩ = some (.slice (some ⟨g, 0, none⟩) L.length cc) := cells_of hh3 0
      have Hab := Lib.hid hab0
      clear hh3 ho3 hb3 hg3 hall hL HSt HT Hb2 Hb3 hab HE1 H1 Hb1
      go_wp2
      clear c0 c1 f0
      go_loopg [59, 12] L.length (fun m i nx wr => ∃ (k : Nat) (tk : Option Addr), k ≤ L.length ∧ i = .int .i64 k ∧ nx = .pointer tk ∧ Hid (m = L.length - k ∧ Below w3.heap.size w3 wr ∧ Rep wr tk (dropAll s.t (L.take k))))
      case atStart => exact ⟨0, s.tp, Nat.zero_le _, rfl, rfl, rfl, Below.refl _ _, H3.out.rep⟩
      case round =>
        obtain ⟨k, tk, hk, rfl, rfl, hr⟩ := hrel
        have Hm := Lib.hid hr.out.1
        have Hbw := Lib.hid hr.out.2.1
        have HRep := Lib.hid hr.out.2.2
        clear hr
        by_cases hlt : k < L.length
        · have hi1 : (k : Int) < (L.length : Int) := by omega
          have hTk := dropAll_ok H3.out.ok (L.take k)
          have hTs := hTk.size
          have Hsn : Hid (dropAll s.t (L.take (k + 1)) = PT.Drop L[k].1 (dropAll s.t (L.take k))) := by unfold Hid; rw [List.take_succ_eq_append_getElem hlt, dropAll_snoc]
          obtain ⟨d0, d1⟩ := pairs_at (HRow.out.below Hbw.out) hlt
          obtain ⟨x, hx⟩ : ∃ x, L[k] = x := ⟨_, rfl⟩
          rw [hx] at d0 d1 Hsn
          obtain ⟨T, hT⟩ : ∃ T, dropAll s.t (L.take k) = T := ⟨_, rfl⟩
          rw [hT] at Hsn HRep hTs
          clear hx hT hTk
          go_wp2_with fail
          obtain ⟨W4, hW4⟩ : ∃ W4, wr.alloc (.cells #[.string x.1, .string x.2] 98) = W4 := ⟨_, rfl⟩
          have hb4 : Below wr.heap.size wr W4 := by rw [← hW4]; exact (Below.refl _ _).alloc (Nat.le_refl _) _
          have Hb4 := Lib.hid (Hbw.out.trans (hb4.mono Hbw.out.size))
          have HRep4 := Lib.hid (HRep.out.below hb4)
          rw [hW4]
          clear hW4 hb4 d0 d1 HRep Hbw
          refine (Drop_any x.1 T W4 tk HRep4.out (by omega)).mono ?_
          rintro e w5 ⟨tk5, rfl, hr5, hb5⟩
          have Hr5 := Lib.hid hr5
          have Hb5 := Lib.hid (Hb4.out.trans (hb5.mono Hb4.out.size))
          clear hr5 hb5
          go_wp2
          go_roundg (L.length - (k + 1))
          case measure => have := Hm.out; omega
          case rel => exact ⟨k + 1, tk5, by omega, by go_num, rfl, rfl, Hb5.out, by rw [Hsn.out]; exact Hr5.out⟩
        · have hge : ¬ (k : Int) < (L.length : Int) := by omega
          have HRep2 : Hid (Rep wr tk (dropAll s.t L)) := by
            have := HRep.out
            rw [List.take_of_length_le (by omega)] at this
            exact this
          have hab1 : wr.cell? ⟨ab, 0, none⟩ = some (.slice (some ⟨g, 0, none⟩) L.length cc) := by rw [Hbw.out.cell (p := ⟨ab, 0, none⟩) hhl]; exact Hab.out
          have HRow2 := Lib.hid (HRow.out.below Hbw.out)
          have Hbw2 := Lib.hid Hbw.out
          clear HRep Hbw
          obtain ⟨W5, hW5⟩ : ∃ W5, wr = W5 := ⟨_, rfl⟩
          rw [hW5] at HRep2 hab1 HRow2 Hbw2 ⊢
          clear hW5
          obtain ⟨⟨la, hpa, hla⟩, lb, hpb, hlb⟩ := renaE_path Hre.out
          have Hpre : Hid (∀ x ∈ L, a.size ≤ x.1.size) := by unfold Hid; rw [← HL.out]; exact allOf_pre hpa hla
          have Hmem : Hid (∀ x ∈ L, x ∈ s.t.list) := by unfold Hid; rw [← HL.out]; exact (allOf_spec H3.out.ok hpa hla (renaE_ok Hre.out).2.2.1).2
          have hD0 := dropAll_ok H3.out.ok L
          have hD0s := hD0.size
          obtain ⟨D0, hD⟩ : ∃ D0, dropAll s.t L = D0 := ⟨_, rfl⟩
          have HD : Hid (D0 = dropAll s.t (allOf s.t a)) := by unfold Hid; rw [HL.out, hD]
          rw [hD] at HRep2 hD0s
          have hbs := parse_size hpb
          have HE5 := Lib.hid (HE3.out.below Hbw2.out)
          have H5 := Lib.hid (H3.out.below Hbw2.out)
          have Hbt5 := Lib.hid (Hbt.out.trans (But.of_below (S := [nb]) Hbw2.out))
          clear hpa hla hpb hlb hD0 hD
          go_wp2
          clear hab1 hlt hge hk Hm
          go_loopg [73, 12] L.length (fun m i nx wr => ∃ (k : Nat) (tk : Option Addr) (T : PT), k ≤ L.length ∧ i = .int .i64 k ∧ nx = .pointer tk ∧ Hid (m = L.length - k ∧ Below W5.heap.size W5 wr ∧ Rep wr tk T ∧ T.size ≤ 4096 + k ∧ putAll a b D0 L = putAll a b T (L.drop k)))
          case atStart => exact ⟨0, tk, D0, Nat.zero_le _, rfl, rfl, rfl, Below.refl _ _, HRep2.out, by omega, rfl⟩
          case round =>
            obtain ⟨k, tk, T, hk, rfl, rfl, hr⟩ := hrel
            have Hm := Lib.hid hr.out.1
            have Hbw := Lib.hid hr.out.2.1
            have HRep := Lib.hid hr.out.2.2.1
            have hTs := hr.out.2.2.2.1
            have HPut := Lib.hid hr.out.2.2.2.2
            clear hr
            by_cases hlt : k < L.length
            · have hi1 : (k : Int) < (L.length : Int) := by omega
              obtain ⟨d0, d1⟩ := pairs_at (HRow2.out.below Hbw.out) hlt
              have HSt : Hid (putAll a b T (L.drop k) = if (parse (newP a b L[k].1)).isSome then putAll a b (PT.put (newP a b L[k].1) L[k].2 T) (L.drop (k + 1)) else none) := putAll_take hlt
              have hxa := Hpre.out L[k] (List.getElem_mem hlt)
              have hxs : L[k].1.size ≤ 1617 := by
                obtain ⟨l, hl, _⟩ := H3.out.ok.key _ (Hmem.out L[k] (List.getElem_mem hlt))
                exact parse_size hl
              obtain ⟨x, hx⟩ : ∃ x, L[k] = x := ⟨_, rfl⟩
              rw [hx] at d0 d1 HSt hxa hxs
              clear hx
              obtain ⟨W6, hW6⟩ : ∃ W6, wr.alloc (.cells #[.string x.1, .string x.2] 98) = W6 := ⟨_, rfl⟩
              have hb6 : Below wr.heap.size wr W6 := by rw [← hW6]; exact (Below.refl _ _).alloc (Nat.le_refl _) _
              have hq6 : W6.heap[wr.heap.size]? = some (.cells #[.string x.1, .string x.2] 98 (0, 0)) := by rw [← hW6]; exact heap_new _ _
              have HQ6 := Lib.hid hq6
              have q0 : W6.cell? ⟨wr.heap.size, 0, none⟩ = some (.string x.1) := cells_of hq6 0
              have q1 : W6.cell? ⟨wr.heap.size, 1, none⟩ = some (.string x.2) := cells_of hq6 1
              have Hb6 := Lib.hid (Hbw.out.trans (hb6.mono Hbw.out.size))
              have HRep6 := Lib.hid (HRep.out.below hb6)
              have hnp : b ++ x.1.extract a.size x.1.size = newP a b x.1 := rfl
              have hxi : (a.size : Int) ≤ (x.1.size : Int) := by omega
              have hesz : (x.1.extract a.size x.1.size).size = x.1.size - a.size := by rw [ByteArray.size_extract]; omega
              have hbsz : ¬ (9223372036854775807 < b.size + (x.1.extract a.size x.1.size).size) := by rw [hesz]; omega
              have hnsz : (newP a b x.1).size ≤ 2^30 := by unfold newP; rw [ByteArray.size_append, hesz]; omega
              have HE6 := Lib.hid (HE5.out.below Hb6.out)
              clear hb6 HRep Hbw hesz hq6
              have hxbl : wr.heap.size < W6.heap.size := blk_lt HQ6.out
              obtain ⟨xb, hxb⟩ : ∃ xb, wr.heap.size = xb := ⟨_, rfl⟩
              rw [hxb] at q0 q1 hxbl HQ6
              go_wp2_with fail
              clear hxb hW6 hnp hbsz hxi d0 d1 hbs
              obtain ⟨p, hp⟩ : ∃ p, newP a b x.1 = p := ⟨_, rfl⟩
              rw [hp] at HSt hnsz ⊢
              clear hp
              refine (parse_any W6 HE6.out p hnsz).mono ?_
              rintro e w7 h7
              cases hq : parse p with
              | none =>
                obtain ⟨a7, c7, rfl, hb7⟩ := h7.no hq
                have E : Hid (renameP s.t a b = (s.t, 4)) := by
                  refine renameP_no Hre.out ?_
                  rw [← HD.out, HL.out, HPut.out, HSt.out, hq]; rfl
                have Hb7 := Lib.hid (Hb6.out.trans (hb7.mono Hb6.out.size))
                have H7 := Lib.hid (H5.out.below Hb7.out)
                have Hbt7 := Lib.hid (Hbt5.out.trans (But.of_below (S := [nb]) Hb7.out))
                clear h7 hb7 hq
                go_wp2
                go_ret
                exact ⟨ret_i (by rw [E.out]), s.tp, by rw [E.out]; exact H7.out, Hbt7.out⟩
              | some lp =>
                obtain ⟨a7, c7, rfl, _, _, _, hb7⟩ := h7.yes hq
                have Hb7 := Lib.hid (Hb6.out.trans (hb7.mono Hb6.out.size))
                have HRep7 := Lib.hid (HRep6.out.below hb7)
                have hq7 : w7.heap[xb]? = some (.cells #[.string x.1, .string x.2] 98 (0, 0)) := (hb7.block xb hxbl).trans HQ6.out
                have q0' : w7.cell? ⟨xb, 0, none⟩ = some (.string x.1) := cells_of hq7 0
                have q1' : w7.cell? ⟨xb, 1, none⟩ = some (.string x.2) := cells_of hq7 1
                have HSt7 : Hid (putAll a b T (L.drop k) = putAll a b (PT.put p x.2 T) (L.drop (k + 1))) := by unfold Hid; rw [HSt.out, hq]; rfl
                clear h7 hb7 hq hq7 q0 q1 HQ6 HRep6 Hb6 HSt
                go_wp2_with fail
                refine (put_any p x.2 T w7 tk HRep7.out (by omega)).mono ?_
                rintro e w8 ⟨tk8, rfl, hr8, hb8⟩
                have Hr8 := Lib.hid hr8
                have Hb8 := Lib.hid (Hb7.out.trans (hb8.mono Hb7.out.size))
                have hps := PT.put_size p x.2 T
                clear hr8 hb8 q0' q1'
                go_wp2
                go_roundg (L.length - (k + 1))
                case measure => have := Hm.out; omega
                case rel => exact ⟨k + 1, tk8, _, by omega, by go_num, rfl, rfl, Hb8.out, Hr8.out, by omega, HPut.out.trans HSt7.out⟩
            · have hge : ¬ (k : Int) < (L.length : Int) := by omega
              have hnil : L.drop k = [] := List.drop_eq_nil_of_le (by omega)
              have hput : putAll a b (dropAll s.t (allOf s.t a)) (allOf s.t a) = some T := by
                have := HPut.out
                rw [hnil] at this
                rw [← HD.out, HL.out, this]; rfl
              have E := Lib.hid (renameP_yes Hre.out hput)
              have Hok := Lib.hid (rename_ok H3.out.ok Hre.out hput)
              have H8 := Lib.hid (H5.out.below Hbw.out)
              have Hbt8 := Lib.hid (Hbt5.out.trans (But.of_below (S := [nb]) Hbw.out))
              obtain ⟨c0, c1, f0⟩ := H8.out.cells
              clear hnil hput Hbw
              go_wp2
              go_ret
              exact ⟨ret_i (by rw [E.out]), tk, by rw [E.out]; exact H8.out.now HRep.out Hok.out, Hbt8.out.trans (But.setCell (But.refl _ _) (.inl (by simp)) _)⟩
  · have hb0 : ((renaE s.t a b).1 != 0) = true := bne_iff_ne.2 hr0
    have E : Hid (renameP s.t a b = (s.t, (renaE s.t a b).1)) := by unfold Hid renameP; rw [if_pos (.inl hr0)]
    clear hr0
    go_wp2
    go_ret
    exact ⟨ret_i (by rw [E.out]), s.tp, by rw [E.out]; exact H1.out, Hb1.out⟩
end Go.Proofs.YtoahjhogjjdkhaaGreatDoor

/- Look-ups in maps known pair by pair, as steps of a walk. -/
namespace Go.XR
open Go Go.RowKit
section
variable {κ ν : Type} [DecidableEq κ] {kv : κ → Value} {vv : ν → Value} {P : Program} {k t e : TypeId} {w : World} {m : Nat} {D : List (κ × ν)}
theorem wp_gm_lookup {o : Oper} {a : Act} {K : Act → World → Prop} {Q : Exit → Act → World → Prop} (x y : Operand) (t : TypeId) (hop : o.op = .lookup t x y false)
    (KK : KeysOk P k kv) (ht : P.underlying t = some (.map k e)) (z : Value) (hz : ∀ w, (zeroValue e).run P w = .ok z w) (c : κ) (v : Value) (hm : a.eval x = .map (some m)) (hx : a.eval y = kv c) (h : GM kv vv w m D)
    (hv : ((aget D c).map vv).getD z = v) (hK : K (a.put o.dst v) w) : o.wp P a w K Q := by
  have hr := h.lookup (P := P) KK ht (hz w) c
  rw [hv] at hr
  unfold Oper.wp execOp
  simp only [hop, hm, hx, Sem.run_bind, hr, Result.andThen_ok, Sem.run_pure]
  exact hK
theorem wp_gm_lookup_ok {o : Oper} {a : Act} {K : Act → World → Prop} {Q : Exit → Act → World → Prop} (x y : Operand) (t : TypeId) (hop : o.op = .lookup t x y true)
    (KK : KeysOk P k kv) (ht : P.underlying t = some (.map k e)) (z : Value) (hz : ∀ w, (zeroValue e).run P w = .ok z w) (c : κ) (v : Value) (b : Bool) (hm : a.eval x = .map (some m)) (hx : a.eval y = kv c) (h : GM kv vv w m D)
    (hv : ((aget D c).map vv).getD z = v) (hb : (aget D c).isSome = b) (hK : K (a.put o.dst (.tuple #[v, .bool b])) w) : o.wp P a w K Q := by
  have hr := h.lookup_ok (P := P) KK ht (hz w) c
  rw [hv, hb] at hr
  unfold Oper.wp execOp
  simp only [hop, hm, hx, Sem.run_bind, hr, Result.andThen_ok, Sem.run_pure]
  exact hK
theorem Blk.toAt {w : World} {b : Nat} {cs : List Value} (h : Blk w b cs) : At w b 0 cs.toArray := fun j u hj => by
  rw [Nat.zero_add]; exact h.cell (by simpa using hj)
/-- a result variable that is a struct, and one that is a temporary -/
theorem results_at {fn : Func} {p u : Tmp} {ty : TypeId} (hf : fn.results = #[.cell p ty, .tmp u]) {w' : World} {g : Nat} {cs : Array Value} {tmps : Array Value} {v : Value} {d : TypeDesc} (hp : tmps.getD p undef = .pointer (some ⟨g, 0, none⟩)) (hv : tmps.getD u undef = v) (h : At w' g 0 cs)
    (hu : P.underlying ty = some d) (hd : (match d with | .struct _ | .array _ _ => true | _ => false) = true) (hi : (P.info? ty).map (·.size) = some cs.size) :
    (results fn tmps).run P w' = .ok (.tuple #[.agg cs, v]) w' := by
  rw [results_cell_tmp hf, hp, hv]
  have h1 := run_loadVar_at (P := P) h hu hd hi
  simp [asAddr, Result.andThen, h1]
end
end Go.XR
