/- BkP3: Accounts. -/
import Derived.Test.YtmnpdgldmpjekaaBkP2
import Derived.Test.YtmnpdgldmpjekaaBkIterB
namespace Go.Bk
open Go Go.Maps Go.RowKit Go.Proofs
set_option linter.unusedVariables false

theorem keysC (b : Nat) (w : World) : Calls Try.prog 21 #[.map (some b)] w fun e w' => e = .returned (.func (.func 31) #[] #[.pointer (some ⟨w.heap.size, 0, none⟩)]) ∧ w' = w.alloc (.cells #[.map (some b)] 48) :=
  callsIn_wide.1 (Try.maps_Keys_21 (some b) w)
theorem sortedC (b n : Nat) (D : DataW Unit) (w : World) (hown : w.ownsMap Try.prog 9 (plainElem Try.prog 2) b n D) (hm : Maps.size D ≤ 1000000) :
    Calls Try.prog 20 #[.func (.func 31) #[] #[.pointer (some ⟨w.heap.size, 0, none⟩)]] (w.alloc (.cells #[.map (some b)] 48)) fun e w' => ∃ (v : Value) (ss : List (List UInt8)), e = .returned v ∧ ss.Perm (strKeys D) ∧
      w'.ownsRow (w.heap.size + 1) 9 1 v ss.length ((ss.mergeSort (fun x y => decide (x ≤ y))).map encStr) ∧ Below w.heap.size w w' := by
  have hmax : Maps.size D ≤ maxLen := Nat.le_trans hm (by decide)
  refine (callsIn_wide.1 (Try.slices_Sorted_keys_20_21 b n D _ w hown hmax (by omega))).mono ?_
  rintro e w' ⟨v, ss, rfl, hS, hrow, _, hb⟩
  refine ⟨v, ss, rfl, hS, ?_, ?_⟩
  · have : (w.alloc (.cells #[.map (some b)] 48)).heap.size = w.heap.size + 1 := by simp
    rw [this] at hrow
    exact hrow
  · exact ((Below.refl w.heap.size w).alloc (Nat.le_refl _) _).trans (hb.mono (by simp))

theorem accounts (sb bm n : Nat) (D : DataW Unit) (w : World) (c1 : w.cell? ⟨sb, 0 + 1, none⟩ = some (.map (some bm)))
    (hown : w.ownsMap Try.prog 9 (plainElem Try.prog 2) bm n D) (hm : Maps.size D ≤ 1000000) :
    Calls Try.prog 9 #[.pointer (some ⟨sb, 0, none⟩)] w fun e w' => ∃ (v : Value) (ss : List (List UInt8)), e = .returned v ∧ ss.Perm (strKeys D) ∧
      w'.ownsRow (w.heap.size + 1) 9 1 v ss.length ((ss.mergeSort (fun x y => decide (x ≤ y))).map encStr) ∧ Below w.heap.size w w' := by
  go_enter Try.func9, Try.ntmps9
  go_wp2_with (first
    | (go_at_call 21; refine (keysC bm w).mono ?_; rintro e w1 ⟨rfl, rfl⟩)
    | (go_at_call 20; refine (sortedC bm n D w hown hm).mono ?_; rintro e w1 ⟨v, ss, rfl, hS, hrow, hb⟩)
    | go_in)
  go_ret
  exact ⟨v, ss, rfl, hS, hrow, hb⟩
end Go.Bk
