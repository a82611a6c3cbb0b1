/- The walk over shown: the document's examples. -/
import Derived.Test.YtfblpabkkahmeaaF
import Derived.Test.YtfblpabkkahmeaaPl
namespace Go.Proofs.Ytfblpabkkahmeaa
open Go.RowKit Go.TreePure Go.XR

theorem shown_tree : PT.put ⟨#[97]⟩ ⟨#[50]⟩ (PT.put ⟨#[98]⟩ ⟨#[49]⟩ .nil) = .node ⟨#[98]⟩ ⟨#[49]⟩ (.node ⟨#[97]⟩ ⟨#[50]⟩ .nil .nil) .nil := by
  have h : klt ⟨#[97]⟩ ⟨#[98]⟩ = true := by unfold klt; rw [ByteArray.toList_eq, ByteArray.toList_eq]; decide
  simp [PT.put, PT.join, PT.ht, h]
theorem shown_list : (PT.fromL ⟨#[]⟩ (.node ⟨#[98]⟩ ⟨#[49]⟩ (.node ⟨#[97]⟩ ⟨#[50]⟩ .nil .nil) .nil)).take (9 : Int).toNat = [(⟨#[97]⟩, ⟨#[50]⟩), (⟨#[98]⟩, ⟨#[49]⟩)] := by
  have h1 : klt ⟨#[]⟩ ⟨#[97]⟩ = true := by unfold klt; rw [ByteArray.toList_eq, ByteArray.toList_eq]; decide
  have h2 : klt ⟨#[]⟩ ⟨#[98]⟩ = true := by unfold klt; rw [ByteArray.toList_eq, ByteArray.toList_eq]; decide
  simp [PT.fromL, klt_empty, h1, h2]

set_option maxHeartbeats 1000000 in
set_option maxRecDepth 100000 in
theorem shown_any (w : World) : Calls Try.prog 9 #[] w fun e w' => e = .returned (.bool true) ∧ Below w.heap.size w w' := by
  go_enter Try.func9, Try.ntmps9
  go_wp2_with fail
  refine (put_any ⟨#[98]⟩ ⟨#[49]⟩ .nil _ none rfl (by simp [PT.size])).mono ?_
  rintro e w1 ⟨p1, rfl, hp1, hb1⟩
  have Hp1 := Lib.hid hp1
  have Hb1 := Lib.hid hb1
  clear hp1 hb1
  go_wp2_with fail
  refine (put_any ⟨#[97]⟩ ⟨#[50]⟩ _ _ p1 Hp1.out (by simp [PT.put, PT.size])).mono ?_
  rintro e w2 ⟨p2, rfl, hp2, hb2⟩
  rw [shown_tree] at hp2
  have Hp2 := Lib.hid hp2
  have Hb2 := Lib.hid (Hb1.out.trans (hb2.mono Hb1.out.size))
  clear hp2 hb2
  go_wp2_with fail
  refine (from_any ⟨#[]⟩ 9 _ _ p2 Hp2.out (by simp [PT.size])).mono ?_
  rintro e w3 ⟨a, c, rfl, hb3, ho⟩
  rw [shown_list] at ho ⊢
  have Ho := Lib.hid (Row.owned ho)
  have Hb3 := Lib.hid (Hb2.out.trans (hb3.mono Hb2.out.size))
  have Hp3 := Lib.hid (Hp2.out.below hb3)
  clear hb3 ho
  go_wp2_with fail
  refine (same_any _ a (some ⟨w3.heap.size, 0, none⟩) c 2 [(⟨#[97]⟩, ⟨#[50]⟩), (⟨#[98]⟩, ⟨#[49]⟩)] [(⟨#[97]⟩, ⟨#[50]⟩), (⟨#[98]⟩, ⟨#[49]⟩)] (Ho.out.below ((Below.refl _ _).alloc (Nat.le_refl _) _)) (Row.new _ _ _) (by decide)).mono ?_
  rintro e w4 ⟨rfl, hb4⟩
  have Hb4 := Lib.hid (Hb3.out.trans ((((Below.refl _ _).alloc (Nat.le_refl _) _).trans (hb4.mono (by simp))).mono Hb3.out.size))
  have Hp4 := Lib.hid (Hp3.out.below (((Below.refl _ _).alloc (Nat.le_refl _) _).trans (hb4.mono (by simp))))
  clear hb4
  go_wp2_with fail
  refine (len_any _ none .nil rfl).mono ?_
  rintro e w5 ⟨rfl, rfl⟩
  go_wp2_with fail
  refine (height_any _ none .nil rfl).mono ?_
  rintro e w5 ⟨rfl, rfl⟩
  go_wp2_with fail
  refine (len_any _ p2 _ Hp4.out).mono ?_
  rintro e w5 ⟨rfl, rfl⟩
  go_wp2
  go_ret
  exact ⟨rfl, Hb4.out⟩
end Go.Proofs.Ytfblpabkkahmeaa
