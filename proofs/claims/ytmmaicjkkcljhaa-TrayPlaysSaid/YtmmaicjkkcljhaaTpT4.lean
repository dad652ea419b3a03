/- TpT4: New. -/
import Derived.Test.YtmmaicjkkcljhaaTpT3
import Derived.RegionTactic
import Derived.BigRegion
import Derived.Conc.SmallLaws
namespace Go.Tp
open Go Go.RowKit Go.Proofs
set_option linter.unusedVariables false
theorem mk8 (w : World) : (Instr.makeChan 39 (.int .i64 8)).run Try.prog w = .ok (.chan (some w.heap.size)) (w.alloc (.chan 8 #[] false 0 0 false)) := by
  obtain ⟨i0, hi, hz0, hz1, hz2⟩ := info_parts info28
  exact Go.Conc.run_makeChan (P := Try.prog) (w := w) Try.underlying39 hi .i64 8 (by omega) (by rw [hz2]; omega)
theorem new_tr (w : World) : TR (w.heap.size + 2) w.heap.size (w.heap.size + 1) [] [] false (((w.alloc (.chan 8 #[] false 0 0 false)).alloc (.chan 8 #[] false 0 0 false)).alloc (.cells #[.chan (some w.heap.size), .chan (some (w.heap.size + 1)), .bool false] 41)) := by
  refine ⟨?_, ⟨0, 0, ?_⟩, ⟨0, 0, ?_⟩, by omega⟩
  · have := (MapKept.heap_alloc ((w.alloc (.chan 8 #[] false 0 0 false)).alloc (.chan 8 #[] false 0 0 false)) (.cells #[.chan (some w.heap.size), .chan (some (w.heap.size + 1)), .bool false] 41)).1
    simpa using this
  · rw [Below.heap_alloc _ _ _ (by simp; omega), Below.heap_alloc _ _ _ (by simp)]
    exact (MapKept.heap_alloc w _).1
  · rw [Below.heap_alloc _ _ _ (by simp)]
    have := (MapKept.heap_alloc (w.alloc (.chan 8 #[] false 0 0 false)) (.chan 8 #[] false 0 0 false)).1
    simpa using this
theorem new_tr' (w : World) : TR (w.heap.size + 2) (w.heap.size + 1) w.heap.size [] [] false (((w.alloc (.chan 8 #[] false 0 0 false)).alloc (.chan 8 #[] false 0 0 false)).alloc (.cells #[.chan (some (w.heap.size + 1)), .chan (some w.heap.size), .bool false] 41)) := by
  refine ⟨?_, ⟨0, 0, ?_⟩, ⟨0, 0, ?_⟩, by omega⟩
  · have := (MapKept.heap_alloc ((w.alloc (.chan 8 #[] false 0 0 false)).alloc (.chan 8 #[] false 0 0 false)) (.cells #[.chan (some (w.heap.size + 1)), .chan (some w.heap.size), .bool false] 41)).1
    simpa using this
  · rw [Below.heap_alloc _ _ _ (by simp)]
    have := (MapKept.heap_alloc (w.alloc (.chan 8 #[] false 0 0 false)) (.chan 8 #[] false 0 0 false)).1
    simpa using this
  · rw [Below.heap_alloc _ _ _ (by simp; omega), Below.heap_alloc _ _ _ (by simp)]
    exact (MapKept.heap_alloc w _).1
theorem new_b (w : World) (o1 o2 o3 : Obj) : Below w.heap.size w (((w.alloc o1).alloc o2).alloc o3) := (((Below.refl _ _).alloc (Nat.le_refl _) _).alloc (by simp) _).alloc (by simp; omega) _
theorem new_is (w : World) : Calls Try.prog 6 #[] w fun e w' => ∃ p cu co, e = .returned (.pointer (some ⟨p, 0, none⟩)) ∧ TR p cu co [] [] false w' ∧ w.heap.size ≤ p ∧ w.heap.size ≤ cu ∧ w.heap.size ≤ co ∧ Below w.heap.size w w' := by
  have q := mk8
  go_enter Try.func6, Try.ntmps6
  go_wp2
  go_region
  all_goals go_wp2
  · go_ret
    exact ⟨w.heap.size + 2, w.heap.size, w.heap.size + 1, by simp, (new_tr w).below (Below.refl _ _).drew, by omega, by omega, by omega, (new_b w _ _ _).drew⟩
  · go_ret
    exact ⟨w.heap.size + 2, w.heap.size + 1, w.heap.size, by simp, (new_tr' w).below (Below.refl _ _).drew, by omega, by omega, by omega, (new_b w _ _ _).drew⟩
end Go.Tp
