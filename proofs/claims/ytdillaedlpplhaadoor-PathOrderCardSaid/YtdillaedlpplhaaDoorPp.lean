/- What a path's names are: plain. -/
import Derived.Test.YtdillaedlpplhaaDoorNp
import Derived.Lib.SplitLaws
namespace Go.PathPure
open Go.Lib

def B (l : List UInt8) : ByteArray := ⟨l.toArray⟩
theorem B_data (l : List UInt8) : (B l).data.toList = l := by simp [B]
theorem B_eta (s : ByteArray) : B s.data.toList = s := by cases s; simp [B]

/-- what stands between the strokes -/
def pieces : List UInt8 → List (List UInt8)
  | [] => [[]]
  | b :: l => if b = 47 then [] :: pieces l else match pieces l with
    | p :: ps => (b :: p) :: ps
    | [] => [[b]]

theorem pieces_ne : ∀ l, pieces l ≠ []
  | [] => by simp [pieces]
  | b :: l => by
    unfold pieces
    split
    · simp
    · split <;> simp

theorem pieces_none : ∀ {l : List UInt8}, 47 ∉ l → pieces l = [l]
  | [], _ => rfl
  | b :: l, h => by
    have h1 : b ≠ 47 := fun e => h (by simp [e])
    have h2 := pieces_none (l := l) fun e => h (by simp [e])
    unfold pieces
    rw [if_neg h1, h2]

theorem pieces_hit : ∀ {a : List UInt8} (b : List UInt8), 47 ∉ a → pieces (a ++ 47 :: b) = a :: pieces b
  | [], b, _ => by simp [pieces]
  | x :: a, b, h => by
    have h1 : x ≠ 47 := fun e => h (by simp [e])
    have h2 := pieces_hit (a := a) b fun e => h (by simp [e])
    rw [List.cons_append]
    conv => lhs; unfold pieces
    rw [if_neg h1, h2]

theorem split_pieces : ∀ (k : Nat) (l : List UInt8), l.count 47 = k → splitK [47] 0 k l = pieces l
  | 0, l, h => by
    rw [pieces_none (List.count_eq_zero.1 h)]; rfl
  | k + 1, l, h => by
    have hm : (47 : UInt8) ∈ l := List.count_pos_iff.1 (by omega)
    have hi := index_one l 47
    have hne : indexByte l 47 ≠ -1 := fun e => by
      obtain ⟨j, hj⟩ := List.mem_iff_getElem?.1 hm
      exact indexByte_none e j hj
    have hge := indexByte_ge l 47
    obtain ⟨i, hi2⟩ : ∃ i : Nat, indexByte l 47 = i := ⟨(indexByte l 47).toNat, by omega⟩
    obtain ⟨h1, h2⟩ := indexByte_some hi2
    have hlt : i < l.length := (List.getElem?_eq_some_iff.1 h1).1
    have hsp : l = l.take i ++ 47 :: l.drop (i + 1) := by
      have := List.take_append_drop i l
      rw [List.drop_eq_getElem_cons hlt, (List.getElem?_eq_some_iff.1 h1).2] at this
      exact this.symm
    have hno : (47 : UInt8) ∉ l.take i := fun e => by
      obtain ⟨j, hj⟩ := List.mem_iff_getElem?.1 e
      rw [List.getElem?_take] at hj
      split at hj
      · rename_i c; exact h2 j c hj
      · cases hj
    have hc : (l.drop (i + 1)).count 47 = k := by
      have := congrArg (List.count 47) hsp
      rw [List.count_append, List.count_cons, List.count_eq_zero.2 hno, h] at this
      simp at this; omega
    have hidx : (index l [47] == -1) = false := by rw [hi, hi2]; rw [beq_eq_false_iff_ne]; omega
    conv => rhs; rw [hsp, pieces_hit _ hno]
    unfold splitK
    rw [hidx, if_neg (by simp), hi, hi2]
    have e : ((i : Int)).toNat = i := by omega
    rw [e]
    show l.take (i + 0) :: splitK [47] 0 k (l.drop (i + [(47 : UInt8)].length)) = _
    rw [Nat.add_zero]
    show _ :: splitK [47] 0 k (l.drop (i + 1)) = _
    rw [split_pieces k _ hc]

theorem split_B (s : ByteArray) : (splitB (B [47]) 0 (countB s (B [47])) s) = (pieces s.data.toList).map B := by
  have h := splitB_data (B [47]) 0 (countB s (B [47])) s
  have hc : countB s (B [47]) = s.data.toList.count 47 := by
    show count s.data.toList (B [47]).data.toList = _
    rw [B_data, count_one]
  rw [B_data, split_pieces _ _ hc.symm] at h
  have := congrArg (List.map B) h
  rw [List.map_map] at this
  have e : (B ∘ fun x : ByteArray => x.data.toList) = id := by funext x; exact B_eta x
  rw [e, List.map_id] at this
  exact this

end Go.PathPure
