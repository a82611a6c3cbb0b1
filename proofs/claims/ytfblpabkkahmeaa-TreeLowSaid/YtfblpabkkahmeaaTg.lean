/- The walk over Fresh. -/
import Derived.Test.YtfblpabkkahmeaaTw
namespace Go.Proofs.Ytfblpabkkahmeaa
open Go.RowKit Go.TreePure Go.XR

def RetFresh (w : World) (n : Nat) (e : Ending) (w' : World) : Prop := e = .returned (.int .i64 n) ∧ Below w.heap.size w w'

set_option maxHeartbeats 2000000 in
set_option maxRecDepth 100000 in
theorem fresh_any (w : World) (p q : Option Addr) (U T : PT) (bu bt : List Nat) (hU : Blk w p U bu) (hT : Blk w q T bt) (sU : Srt U.list) (sT : Srt T.list) (hs : U.size < 2^39) :
    Calls Try.prog 25 #[.pointer p, .pointer q] w (RetFresh w (cnt bt 0 bu)) := by
  have HU := Lib.hid hU
  have HT := Lib.hid hT
  have SU := Lib.hid sU
  have ST := Lib.hid sT
  have hle := cnt_le bt 0 bu
  rw [hU.length] at hle
  have Hle := Lib.hid hle
  have hk : ∀ k, klt k ⟨#[]⟩ = false := klt_empty
  have Hk := Lib.hid hk
  clear hU hT sU sT hle hk
  have hmm := @run_makeMap Try.prog
  go_enter Try.func25, Try.ntmps25
  go_wp2_with fail
  refine (walk_had w (w.heap.size + 1) w.heap.size ⟨#[]⟩ Hk.out T _ q bt [] HT.out ST.out (((Below.refl _ _).alloc (Nat.le_refl _) _).alloc (by simp) _) ⟨Nat.le_refl _, by omega, by omega, heap_new2 _ _ _, (PMap.made w).below ((Below.refl _ _).alloc (Nat.le_refl _) _)⟩).mono ?_
  rintro e w1 ⟨rfl, hb1, hd1⟩
  rw [List.nil_append] at hd1
  have Hd1 := Lib.hid hd1
  have Hb1 : Hid (Below w.heap.size w w1) := (((Below.refl _ _).alloc (Nat.le_refl _) _).alloc (by simp) _).trans hb1
  have hz1 : w.heap.size + 1 < w1.heap.size := blk_lt hd1.box
  clear hb1 hd1
  go_wp2_with fail
  refine (walk_cnt w (w.heap.size + 1) w.heap.size w1.heap.size bt ⟨#[]⟩ Hk.out U _ p bu 0 HU.out SU.out (Hb1.out.alloc Hb1.out.size _) ⟨⟨Nat.le_refl _, by omega, by omega, (((Below.refl _ _).alloc (Nat.le_refl _) _).block _ hz1).trans Hd1.out.box, Hd1.out.map.below ((Below.refl _ _).alloc (Nat.le_refl _) _)⟩, Hb1.out.size, heap_new _ _⟩ (by omega)).mono ?_
  rintro e w2 ⟨rfl, hb2, hc2⟩
  have d0 := cells_of hc2.box 0
  simp at d0
  have Hb2 := Lib.hid ((Hb1.out.alloc Hb1.out.size _).trans hb2)
  clear hb2 hc2
  generalize cnt bt 0 bu = c at *
  go_wp2
  go_ret
  exact ⟨rfl, Hb2.out⟩
end Go.Proofs.Ytfblpabkkahmeaa
