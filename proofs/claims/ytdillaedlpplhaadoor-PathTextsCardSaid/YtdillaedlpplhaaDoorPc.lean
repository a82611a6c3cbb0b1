/- The reference's Parse, piece by piece: plain. -/
import Derived.Test.YtdillaedlpplhaaDoorPb
namespace Go.Proofs.YtdillaedlpplhaaDoor
open Go.PathPure

def chk (d : List ByteArray) : List ByteArray → Option (List ByteArray)
  | [] => some d
  | p :: ps => if isName p && !(d.length == 16) then chk (d ++ [p]) ps else none

theorem chk_eq : ∀ (ps d : List ByteArray), d.length ≤ 16 → chk d ps = if decide (d.length + ps.length ≤ 16) && ps.all isName then some (d ++ ps) else none
  | [], d, h => by simp [chk, h]
  | p :: ps, d, h => by
    unfold chk
    by_cases hn : isName p = true
    · by_cases hl : d.length = 16
      · rw [hl]; simp; omega
      · have : (d.length == 16) = false := by rw [beq_eq_false_iff_ne]; exact hl
        rw [hn, this]
        simp only [Bool.not_false, Bool.and_self, if_true]
        rw [chk_eq ps (d ++ [p]) (by simp; omega)]
        simp only [List.length_append, List.length_cons, List.length_nil, List.all_cons, hn, Bool.true_and, List.append_assoc, List.singleton_append]
        rw [show d.length + (0 + 1) + ps.length = d.length + (ps.length + 1) by omega]
    · have hn' : isName p = false := by simpa using hn
      simp [hn']

theorem chk_names (ps : List ByteArray) : chk [] ps = if okNames ps then some ps else none := by
  rw [chk_eq ps [] (by simp)]
  simp [okNames]

/-- at a stroke, or at the end, a piece is whole -/
theorem piece_mid {l : List UInt8} {f i : Nat} (hf : f ≤ i) (hi : l[i]? = some 47) (hno : (47 : UInt8) ∉ (l.drop f).take (i - f)) : pieces (l.drop f) = (l.drop f).take (i - f) :: pieces (l.drop (i + 1)) := by
  have hlt : i < l.length := (List.getElem?_eq_some_iff.1 hi).1
  have h1 : l.drop f = (l.drop f).take (i - f) ++ 47 :: l.drop (i + 1) := by
    have h2 := List.take_append_drop (i - f) (l.drop f)
    rw [List.drop_drop, show f + (i - f) = i by omega, List.drop_eq_getElem_cons hlt, (List.getElem?_eq_some_iff.1 hi).2] at h2
    exact h2.symm
  conv => lhs; rw [h1]
  exact pieces_hit _ hno
theorem piece_end {l : List UInt8} {f : Nat} (hno : (47 : UInt8) ∉ (l.drop f).take (l.length - f)) : pieces (l.drop f) = [(l.drop f).take (l.length - f)] := by
  have : (l.drop f).take (l.length - f) = l.drop f := List.take_of_length_le (by rw [List.length_drop]; omega)
  rw [this] at hno ⊢
  exact pieces_none hno
theorem no_step {l : List UInt8} {f i : Nat} (hf : f ≤ i) {b : UInt8} (hi : l[i]? = some b) (hb : b ≠ 47) (hno : (47 : UInt8) ∉ (l.drop f).take (i - f)) : (47 : UInt8) ∉ (l.drop f).take (i + 1 - f) := by
  have hlt : i - f < (l.drop f).length := by rw [List.length_drop]; have := (List.getElem?_eq_some_iff.1 hi).1; omega
  rw [show i + 1 - f = (i - f) + 1 by omega, List.take_succ_eq_append_getElem hlt]
  intro h
  rcases List.mem_append.1 h with h | h
  · exact hno h
  · have h1 : (l.drop f)[i - f]? = some b := by rw [List.getElem?_drop, show f + (i - f) = i by omega]; exact hi
    have h2 := (List.getElem?_eq_some_iff.1 h1).2
    rw [List.mem_singleton, h2] at h
    exact hb h.symm

theorem extract_B (s : ByteArray) (f i : Nat) : s.extract f i = B ((s.data.toList.drop f).take (i - f)) := by
  rw [← B_eta (s.extract f i)]
  congr 1
  rw [ByteArray.data_extract, Array.toList_extract, List.extract_eq_take_drop]
end Go.Proofs.YtdillaedlpplhaaDoor
