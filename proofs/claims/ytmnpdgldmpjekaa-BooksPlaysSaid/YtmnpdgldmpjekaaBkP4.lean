/- BkP4: New, name, may. -/
import Derived.Test.YtmnpdgldmpjekaaBkP2
import Derived.RowKit3
import Derived.Deep.RegionHeld3
namespace Go.Bk
open Go Go.Maps Go.RowKit Go.Proofs
open Go.WideMaps (keyOf_string_mk)
set_option linter.unusedVariables false

theorem new (w : World) : Calls Try.prog 7 #[] w fun e w' => e = .returned (.pointer (some ⟨w.heap.size + 1, 0, none⟩)) ∧ w' = (w.alloc (.map #[] 0)).alloc (.cells #[.slice none 0 0, .map (some w.heap.size)] 50) := by
  have hmm := @run_makeMap Try.prog
  go_enter Try.func7, Try.ntmps7
  go_wp2
  go_ret
  exact ⟨by simp, rfl⟩

def okName (x : ByteArray) : Bool := decide (1 ≤ x.size) && decide (x.size ≤ 32)
theorem name_is (x : ByteArray) (hx : x.size ≤ maxLen) (b : Bool) (h : okName x = b) (w : World) : Calls Try.prog 28 #[.string x] w fun e w' => e = .returned (.bool b) ∧ w' = w := by
  subst h
  go_enter Try.func28, Try.ntmps28
  go_wp2
  · go_ret
    refine ⟨?_, rfl⟩
    have h1 : 1 ≤ x.size := by omega
    have e : decide ((x.size : Int) ≤ 32) = decide (x.size ≤ 32) := by
      by_cases h : x.size ≤ 32
      · rw [decide_eq_true h]; exact decide_eq_true (by omega)
      · rw [decide_eq_false h]; exact decide_eq_false (by omega)
    simp [okName, h1, e]
  · go_ret
    refine ⟨?_, rfl⟩
    have h1 : ¬ 1 ≤ x.size := by omega
    simp [okName, h1]

variable (sb bm n : Nat) (D : DataW Unit) (day amt : Int) (db cr memo : ByteArray) (w : World)
set_option maxHeartbeats 4000000 in
theorem may_1 (hdb : db.size ≤ maxLen) (h1 : okName db = false) :
    Calls Try.prog 19 #[.pointer (some ⟨sb, 0, none⟩), .agg #[.int .i64 day, .string db, .string cr, .int .i64 amt, .string memo]] w fun e w' => e = .returned (.int .i64 1) ∧ Below w.heap.size w w' := by
  go_enter Try.func19, Try.ntmps19
  go_wp2_with (first
    | (go_at_call 28; with_reducible refine (name_is db hdb false h1 _).mono ?_; rintro e w1 ⟨rfl, rfl⟩)
    | go_in)
  go_ret
  refine ⟨rfl, ?_⟩
  exact (Below.refl _ _).alloc (Nat.le_refl _) _
set_option maxHeartbeats 4000000 in
theorem may_2 (hdb : db.size ≤ maxLen) (hcr : cr.size ≤ maxLen) (h1 : okName db = true) (h2 : okName cr = false) :
    Calls Try.prog 19 #[.pointer (some ⟨sb, 0, none⟩), .agg #[.int .i64 day, .string db, .string cr, .int .i64 amt, .string memo]] w fun e w' => e = .returned (.int .i64 1) ∧ Below w.heap.size w w' := by
  go_enter Try.func19, Try.ntmps19
  go_wp2_with (first
    | (go_at_call 28; with_reducible refine (name_is db hdb true h1 _).mono ?_; rintro e w1 ⟨rfl, rfl⟩)
    | (go_at_call 28; with_reducible refine (name_is cr hcr false h2 _).mono ?_; rintro e w1 ⟨rfl, rfl⟩)
    | go_in)
  go_ret
  refine ⟨rfl, ?_⟩
  exact (Below.refl _ _).alloc (Nat.le_refl _) _
set_option maxHeartbeats 4000000 in
theorem may_3 (hdb : db.size ≤ maxLen) (hcr : cr.size ≤ maxLen) (h1 : okName db = true) (h2 : okName cr = true) (h3 : (db.toList == cr.toList) = true) :
    Calls Try.prog 19 #[.pointer (some ⟨sb, 0, none⟩), .agg #[.int .i64 day, .string db, .string cr, .int .i64 amt, .string memo]] w fun e w' => e = .returned (.int .i64 1) ∧ Below w.heap.size w w' := by
  go_enter Try.func19, Try.ntmps19
  go_wp2_with (first
    | (go_at_call 28; with_reducible refine (name_is db hdb true h1 _).mono ?_; rintro e w1 ⟨rfl, rfl⟩)
    | (go_at_call 28; with_reducible refine (name_is cr hcr true h2 _).mono ?_; rintro e w1 ⟨rfl, rfl⟩)
    | go_in)
  go_ret
  refine ⟨rfl, ?_⟩
  exact (Below.refl _ _).alloc (Nat.le_refl _) _
end Go.Bk
