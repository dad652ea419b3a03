/- BkP5: may, its other ways. -/
import Derived.Test.YtmnpdgldmpjekaaBkP4
import Derived.Deep.QuietTactic
import Derived.BigQuiet
import Derived.WalkSmall
namespace Go.Bk
open Go Go.Maps Go.RowKit Go.Proofs
open Go.WideMaps (keyOf_string_mk)
set_option linter.unusedVariables false
variable (sb bm n : Nat) (D : DataW Unit) (day amt : Int) (db cr memo : ByteArray) (w : World)

theorem cell_lt {w : World} {b o : Nat} {v : Value} (h : w.cell? ⟨b, o, none⟩ = some v) : b < w.heap.size := by
  by_cases g : b < w.heap.size
  · exact g
  · have : w.heap[b]? = none := Array.getElem?_eq_none (by omega)
    simp [World.cell?, this] at h
theorem ownsMap_drewN {w : World} {bm n : Nat} {D : DataW Unit} (h : w.ownsMap Try.prog 9 (plainElem Try.prog 2) bm n D) (k : Nat) : (w.drewN k).ownsMap Try.prog 9 (plainElem Try.prog 2) bm n D := h
theorem look_drewN {w : World} {bm n : Nat} {D : DataW Unit} (k : Nat) (h : w.ownsMap Try.prog 9 (plainElem Try.prog 2) bm n D) {key : Value} {kl : Lit} (hk : keyOf Try.prog 9 key = some kl) {c : Int} (ha : D.atKey kl (.lit (.int .i64 0)) = .lit (.int .i64 c)) :
    (Instr.lookup 48 (.map (some bm)) key false).run Try.prog (w.drewN k) = .ok (.int .i64 c) (w.drewN k) := by
  obtain ⟨v, r, a, _⟩ := (ownsMap_drewN h k).lookup_int law9 Try.underlying48 Try.underlying2 (zero2 _) hk
  rw [ha] at a
  cases a
  exact r
set_option maxHeartbeats 2000000 in
theorem may_4 (hdb : db.size ≤ maxLen) (hcr : cr.size ≤ maxLen) (h1 : okName db = true) (h2 : okName cr = true) (h3 : (db.toList == cr.toList) = false) (h4 : amt < 1) :
    Calls Try.prog 19 #[.pointer (some ⟨sb, 0, none⟩), .agg #[.int .i64 day, .string db, .string cr, .int .i64 amt, .string memo]] w fun e w' => e = .returned (.int .i64 1) ∧ Below w.heap.size w w' := by
  go_enter Try.func19, Try.ntmps19
  go_wp2_with (first
    | (go_at_call 28; with_reducible refine (name_is db hdb true h1 _).mono ?_; rintro e w1 ⟨rfl, rfl⟩)
    | (go_at_call 28; with_reducible refine (name_is cr hcr true h2 _).mono ?_; rintro e w1 ⟨rfl, rfl⟩)
    | go_in)
  go_ret
  refine ⟨rfl, ?_⟩
  exact (Below.refl _ _).alloc (Nat.le_refl _) _
set_option maxHeartbeats 2000000 in
theorem may_5 (hdb : db.size ≤ maxLen) (hcr : cr.size ≤ maxLen) (h1 : okName db = true) (h2 : okName cr = true) (h3 : (db.toList == cr.toList) = false) (h4 : ¬ amt < 1) (h5 : amt > 4503599627370496) :
    Calls Try.prog 19 #[.pointer (some ⟨sb, 0, none⟩), .agg #[.int .i64 day, .string db, .string cr, .int .i64 amt, .string memo]] w fun e w' => e = .returned (.int .i64 1) ∧ Below w.heap.size w w' := by
  go_enter Try.func19, Try.ntmps19
  go_wp2_with (first
    | (go_at_call 28; with_reducible refine (name_is db hdb true h1 _).mono ?_; rintro e w1 ⟨rfl, rfl⟩)
    | (go_at_call 28; with_reducible refine (name_is cr hcr true h2 _).mono ?_; rintro e w1 ⟨rfl, rfl⟩)
    | go_in)
  go_ret
  refine ⟨rfl, ?_⟩
  exact (Below.refl _ _).alloc (Nat.le_refl _) _
set_option maxHeartbeats 2000000 in
theorem may_6 (hdb : db.size ≤ maxLen) (hcr : cr.size ≤ maxLen) (h1 : okName db = true) (h2 : okName cr = true) (h3 : (db.toList == cr.toList) = false) (h4 : ¬ amt < 1) (h5 : ¬ amt > 4503599627370496) (h6 : day < 0) :
    Calls Try.prog 19 #[.pointer (some ⟨sb, 0, none⟩), .agg #[.int .i64 day, .string db, .string cr, .int .i64 amt, .string memo]] w fun e w' => e = .returned (.int .i64 12) ∧ Below w.heap.size w w' := by
  go_enter Try.func19, Try.ntmps19
  go_wp2_with (first
    | (go_at_call 28; with_reducible refine (name_is db hdb true h1 _).mono ?_; rintro e w1 ⟨rfl, rfl⟩)
    | (go_at_call 28; with_reducible refine (name_is cr hcr true h2 _).mono ?_; rintro e w1 ⟨rfl, rfl⟩)
    | go_in)
  go_ret
  refine ⟨rfl, ?_⟩
  exact (Below.refl _ _).alloc (Nat.le_refl _) _
set_option maxHeartbeats 2000000 in
theorem may_7 (hdb : db.size ≤ maxLen) (hcr : cr.size ≤ maxLen) (h1 : okName db = true) (h2 : okName cr = true) (h3 : (db.toList == cr.toList) = false) (h4 : ¬ amt < 1) (h5 : ¬ amt > 4503599627370496) (h6 : ¬ day < 0) (h7 : day > 109572) :
    Calls Try.prog 19 #[.pointer (some ⟨sb, 0, none⟩), .agg #[.int .i64 day, .string db, .string cr, .int .i64 amt, .string memo]] w fun e w' => e = .returned (.int .i64 12) ∧ Below w.heap.size w w' := by
  go_enter Try.func19, Try.ntmps19
  go_wp2_with (first
    | (go_at_call 28; with_reducible refine (name_is db hdb true h1 _).mono ?_; rintro e w1 ⟨rfl, rfl⟩)
    | (go_at_call 28; with_reducible refine (name_is cr hcr true h2 _).mono ?_; rintro e w1 ⟨rfl, rfl⟩)
    | go_in)
  go_ret
  refine ⟨rfl, ?_⟩
  exact (Below.refl _ _).alloc (Nat.le_refl _) _
set_option maxHeartbeats 2000000 in
theorem may_8 (hdb : db.size ≤ maxLen) (hcr : cr.size ≤ maxLen) (hwa : (Lit.int .i64 amt).wf = true) (c1 : w.cell? ⟨sb, 0 + 1, none⟩ = some (.map (some bm)))
    (hown : w.ownsMap Try.prog 9 (plainElem Try.prog 2) bm n D) (v1 v2 : Int) (a1 : D.atKey (.string db.data.toList) (.lit (.int .i64 0)) = .lit (.int .i64 v1)) (a2 : D.atKey (.string cr.data.toList) (.lit (.int .i64 0)) = .lit (.int .i64 v2)) (h1 : okName db = true) (h2 : okName cr = true) (h3 : (db.toList == cr.toList) = false) (h4 : ¬ amt < 1) (h5 : ¬ amt > 4503599627370496) (h6 : ¬ day < 0) (h7 : ¬ day > 109572) :
    Calls Try.prog 19 #[.pointer (some ⟨sb, 0, none⟩), .agg #[.int .i64 day, .string db, .string cr, .int .i64 amt, .string memo]] w fun e w' => e = .returned (.int .i64 (if 4611686018427387904 - amt < v1 ∨ v2 < amt - 4611686018427387904 then 10 else 0)) ∧ Below w.heap.size w w' := by
  have hkd := keyOf_string_mk Try.underlying9 (s := db) hdb
  have hkc := keyOf_string_mk Try.underlying9 (s := cr) hcr
  have hlt : sb < w.heap.size := cell_lt c1
  have c2 : (w.alloc (.cells #[.int .i64 day, .string db, .string cr, .int .i64 amt, .string memo] 29)).cell? ⟨sb, 0 + 1, none⟩ = some (.map (some bm)) := (((Below.refl w.heap.size w).alloc (Nat.le_refl _) _).cell (p := ⟨sb, 0 + 1, none⟩) hlt).trans c1
  have c3 : (w.alloc (.cells #[.int .i64 day, .string db, .string cr, .int .i64 amt, .string memo] 29)).cell? ⟨sb, 1, none⟩ = some (.map (some bm)) := c2
  have own1 := hown.alloc (.cells #[.int .i64 day, .string db, .string cr, .int .i64 amt, .string memo] 29)
  have q1 := fun n => look_drewN n own1 hkd a1
  have q2 := fun n => look_drewN n own1 hkc a2
  have b1 : ¬ amt < 1 := h4
  have e1 : IntKind.i64.wrap (4611686018427387904 - amt) = 4611686018427387904 - amt := (IntWalk.i64_left _).trans (by unfold wrap64; omega)
  have e2 : IntKind.i64.wrap (amt - 4611686018427387904) = amt - 4611686018427387904 := (IntWalk.i64_left _).trans (by unfold wrap64; omega)
  by_cases g : 4611686018427387904 - amt < v1
  · have g1 : decide (4611686018427387904 - amt < v1) = true := decide_eq_true g
    go_enter Try.func19, Try.ntmps19
    go_wp2_with (first
      | (go_at_call 28; with_reducible refine (name_is db hdb true h1 _).mono ?_; rintro e w1 ⟨rfl, rfl⟩)
      | (go_at_call 28; with_reducible refine (name_is cr hcr true h2 _).mono ?_; rintro e w1 ⟨rfl, rfl⟩)
      | go_in)
    go_quiet (fail)
    go_wp2
    go_ret
    refine ⟨by simp, ?_⟩
    exact below_drewN ((Below.refl _ _).alloc (Nat.le_refl _) _) _
  · have g1 : decide (4611686018427387904 - amt < v1) = false := decide_eq_false g
    go_enter Try.func19, Try.ntmps19
    go_wp2_with (first
      | (go_at_call 28; with_reducible refine (name_is db hdb true h1 _).mono ?_; rintro e w1 ⟨rfl, rfl⟩)
      | (go_at_call 28; with_reducible refine (name_is cr hcr true h2 _).mono ?_; rintro e w1 ⟨rfl, rfl⟩)
      | go_in)
    go_quiet (fail)
    go_wp2
    · go_ret
      have g2 : v2 < amt - 4611686018427387904 := by omega
      refine ⟨by simp, ?_⟩
      exact below_drewN ((Below.refl _ _).alloc (Nat.le_refl _) _) _
    · go_ret
      have g2 : ¬ v2 < amt - 4611686018427387904 := by omega
      refine ⟨by simp [g2], ?_⟩
      exact below_drewN ((Below.refl _ _).alloc (Nat.le_refl _) _) _
end Go.Bk
