/- BkP7: Post, whatever the entry. -/
import Derived.Test.YtmnpdgldmpjekaaBkP6
namespace Go.Bk
open Go Go.Maps Go.RowKit Go.Proofs
open Go.WideMaps (keyOf_string_mk)
set_option linter.unusedVariables false

/-- What an account has. -/
def bal (D : DataW Unit) (x : ByteArray) : Int := num (D.atKey (.string x.data.toList) (.lit (.int .i64 0)))
/-- What may's answer is. -/
def mayR (D : DataW Unit) (day amt : Int) (db cr : ByteArray) : Int :=
  if okName db = true ∧ okName cr = true ∧ (db.toList == cr.toList) = false ∧ ¬ amt < 1 ∧ ¬ amt > 4503599627370496 then
    if ¬ day < 0 ∧ ¬ day > 109572 then (if 4611686018427387904 - amt < bal D db ∨ bal D cr < amt - 4611686018427387904 then 10 else 0) else 12
  else 1

theorem bal_at {w : World} {bm n : Nat} {D : DataW Unit} (hown : w.ownsMap Try.prog 9 (plainElem Try.prog 2) bm n D) {x : ByteArray} (hx : x.size ≤ maxLen) :
    D.atKey (.string x.data.toList) (.lit (.int .i64 0)) = .lit (.int .i64 (bal D x)) ∧ (Lit.int .i64 (bal D x)).wf = true := by
  obtain ⟨c, _, hat, hw⟩ := hown.lookup_int law9 Try.underlying48 Try.underlying2 (zero2 _) (keyOf_string_mk Try.underlying9 (s := x) hx)
  have : bal D x = c := by unfold bal; rw [hat]; rfl
  rw [this]
  exact ⟨hat, hw⟩

theorem may_all (sb bm n : Nat) (D : DataW Unit) (day amt : Int) (db cr memo : ByteArray) (w : World) (hdb : db.size ≤ maxLen) (hcr : cr.size ≤ maxLen) (hwa : (Lit.int .i64 amt).wf = true)
    (c1 : w.cell? ⟨sb, 0 + 1, none⟩ = some (.map (some bm))) (hown : w.ownsMap Try.prog 9 (plainElem Try.prog 2) bm n D) :
    Calls Try.prog 19 #[.pointer (some ⟨sb, 0, none⟩), .agg #[.int .i64 day, .string db, .string cr, .int .i64 amt, .string memo]] w fun e w' => e = .returned (.int .i64 (mayR D day amt db cr)) ∧ Below w.heap.size w w' := by
  cases h1 : okName db with
  | false => rw [show mayR D day amt db cr = 1 by simp [mayR, h1]]; exact may_1 sb day amt db cr memo w hdb h1
  | true =>
  cases h2 : okName cr with
  | false => rw [show mayR D day amt db cr = 1 by simp [mayR, h2]]; exact may_2 sb day amt db cr memo w hdb hcr h1 h2
  | true =>
  cases h3 : (db.toList == cr.toList) with
  | true =>
    rw [show mayR D day amt db cr = 1 by simp [mayR, h3]]; exact may_3 sb day amt db cr memo w hdb hcr h1 h2 h3
  | false =>
  by_cases h4 : amt < 1
  · rw [show mayR D day amt db cr = 1 by simp [mayR, h4]]; exact may_4 sb day amt db cr memo w hdb hcr h1 h2 h3 h4
  by_cases h5 : amt > 4503599627370496
  · rw [show mayR D day amt db cr = 1 by simp [mayR, h5]]; exact may_5 sb day amt db cr memo w hdb hcr h1 h2 h3 h4 h5
  by_cases h6 : day < 0
  · rw [show mayR D day amt db cr = 12 by unfold mayR; rw [if_pos ⟨h1, h2, h3, h4, h5⟩, if_neg (fun h => h.1 h6)]]; exact may_6 sb day amt db cr memo w hdb hcr h1 h2 h3 h4 h5 h6
  by_cases h7 : day > 109572
  · rw [show mayR D day amt db cr = 12 by unfold mayR; rw [if_pos ⟨h1, h2, h3, h4, h5⟩, if_neg (fun h => h.2 h7)]]; exact may_7 sb day amt db cr memo w hdb hcr h1 h2 h3 h4 h5 h6 h7
  · rw [show mayR D day amt db cr = if 4611686018427387904 - amt < bal D db ∨ bal D cr < amt - 4611686018427387904 then 10 else 0 by unfold mayR; rw [if_pos ⟨h1, h2, h3, h4, h5⟩, if_pos ⟨h6, h7⟩]]
    exact may_8 sb bm n D day amt db cr memo w hdb hcr hwa c1 hown _ _ (bal_at hown hdb).1 (bal_at hown hcr).1 h1 h2 h3 h4 h5 h6 h7

/-- The map behind an entry. -/
def putE (D : DataW Unit) (db cr : ByteArray) (amt : Int) : DataW Unit :=
  let D1 := D.put (.string db.data.toList) (.lit (.int .i64 (IntKind.i64.wrap (bal D db + amt))))
  D1.put (.string cr.data.toList) (.lit (.int .i64 (IntKind.i64.wrap (bal D1 cr - amt))))

theorem post_any (sb bm n m B : Nat) (v : Value) (xs : List Value) (D : DataW Unit) (day amt : Int) (db cr memo : ByteArray) (w : World) (hn : n + 2 < maxLen) (hmm : m < 1000000)
    (hdb : db.size ≤ maxLen) (hcr : cr.size ≤ maxLen) (hwa : (Lit.int .i64 amt).wf = true) (bk : Books B sb bm n m v xs D w) :
    Calls Try.prog 8 #[.pointer (some ⟨sb, 0, none⟩), .agg #[.int .i64 day, .string db, .string cr, .int .i64 amt, .string memo]] w fun e w' =>
      e = .returned (.int .i64 (mayR D day amt db cr)) ∧ Below B w w' ∧
      (mayR D day amt db cr ≠ 0 → Below w.heap.size w w') ∧
      (mayR D day amt db cr = 0 → ∃ v', Books B sb bm (n + 1 + 1) (m + 1) v' (xs ++ [.int .i64 day, .string db, .string cr, .int .i64 amt, .string memo]) (putE D db cr amt) w' ∧ Fr (fun k => k = sb ∨ k = bm ∨ v.ownBlock = some k) w w' ∧ (∀ k, v'.ownBlock = some k → v.ownBlock = some k ∨ w.heap.size ≤ k)) := by
  have hm : ∀ w1, w1 = w.alloc (.cells #[.int .i64 day, .string db, .string cr, .int .i64 amt, .string memo] 29) →
      Calls Try.prog 19 #[.pointer (some ⟨sb, 0, none⟩), .agg #[.int .i64 day, .string db, .string cr, .int .i64 amt, .string memo]] w1 fun e w' => e = .returned (.int .i64 (mayR D day amt db cr)) ∧ Below w1.heap.size w1 w' := by
    rintro w1 rfl
    have b2 := bk.kept (World.grownBy_alloc w (.cells #[.int .i64 day, .string db, .string cr, .int .i64 amt, .string memo] 29) none)
    exact may_all sb bm n D day amt db cr memo _ hdb hcr hwa b2.c1 b2.map
  by_cases hr : mayR D day amt db cr = 0
  · rw [hr] at hm ⊢
    refine (post_ok sb bm n m B v xs D day amt db cr memo w hn hmm hdb hcr bk hm).mono ?_
    rintro e w' ⟨rfl, hB, v1, a1, v2, a2, g, cap, bk', hF, hO⟩
    refine ⟨rfl, hB, fun h => (h rfl).elim, fun _ => ⟨.slice (some ⟨g, 0, none⟩) (m + 1) cap, ?_, hF, fun k hk => by cases hk; exact hO⟩⟩
    have e1 : bal D db = v1 := by unfold bal; rw [a1]; rfl
    have e2 : bal (D.put (.string db.data.toList) (.lit (.int .i64 (IntKind.i64.wrap (v1 + amt))))) cr = v2 := by unfold bal; rw [a2]; rfl
    unfold putE
    rw [e1]
    dsimp only
    rw [e2]
    exact bk'
  · refine (post_refused sb bm n m B v xs D day amt db cr memo w _ hr hm).mono ?_
    rintro e w' ⟨rfl, hB⟩
    exact ⟨rfl, hB.mono bk.b3, fun _ => hB, fun h => absurd h hr⟩
end Go.Bk
