/- BkQ1: lists of entries; the reference's Day and Balance. -/
import Derived.Test.YtmnpdgldmpjekaaBkP6a
import Derived.LoopTactic
import Derived.Deep.QuietTactic
import Derived.BigQuiet
namespace Go.Bk
open Go Go.Maps Go.RowKit Go.Proofs
set_option linter.unusedVariables false

/-- An entry. -/
structure En where
  dy : Int
  db : ByteArray
  cr : ByteArray
  am : Int
  me : ByteArray
def En.cells (e : En) : List Value := [.int .i64 e.dy, .string e.db, .string e.cr, .int .i64 e.am, .string e.me]
def encL : List En → List Value
  | [] => []
  | e :: l => e.cells ++ encL l
theorem encL_append (l m : List En) : encL (l ++ m) = encL l ++ encL m := by
  induction l with
  | nil => rfl
  | cons e l ih => simp [encL, ih]
theorem encL_snoc (l : List En) (e : En) : encL (l ++ [e]) = encL l ++ e.cells := by simp [encL_append, encL]
theorem encL_length (l : List En) : (encL l).length = l.length * 5 := by
  induction l with
  | nil => rfl
  | cons e l ih => simp [encL, ih, En.cells]; omega
theorem encL_get : ∀ (l : List En) (j : Nat) (hj : j < l.length) (i : Nat), i < 5 → (encL l)[j * 5 + i]? = (l[j]'hj).cells[i]?
  | [], j, hj, i, hi => by simp at hj
  | e :: l, 0, hj, i, hi => by
    simp only [encL, Nat.zero_mul, Nat.zero_add, List.getElem_cons_zero]
    rw [List.getElem?_append_left (by simp [En.cells]; omega)]
  | e :: l, j + 1, hj, i, hi => by
    simp only [encL, List.getElem_cons_succ]
    rw [List.getElem?_append_right (by simp [En.cells]; omega), show (j + 1) * 5 + i - e.cells.length = j * 5 + i by simp [En.cells]; omega]
    exact encL_get l j (by simpa using hj) i hi
theorem encL_one : ∀ (l : List En), ∀ u ∈ encL l, u.oneCell' = true
  | [], u, hu => by simp [encL] at hu
  | e :: l, u, hu => by
    rcases List.mem_append.1 hu with h | h
    · simp [En.cells] at h
      rcases h with rfl | rfl | rfl | rfl | rfl <;> rfl
    · exact encL_one l u h

/-- A slice of these entries. -/
def RowV (w : World) (v : Value) (es : List En) : Prop :=
  (v = .slice none 0 0 ∧ es = []) ∨ ∃ g cap, v = .slice (some ⟨g, 0, none⟩) es.length cap ∧ 0 < es.length ∧ g < w.heap.size ∧ ∀ j u, (encL es)[j]? = some u → w.cell? ⟨g, j, none⟩ = some u

theorem RowV.fr {S : Nat → Prop} {w w' : World} {v : Value} {es : List En} (h : RowV w v es) (f : Fr S w w') (hn : ∀ k, v.ownBlock = some k → ¬ S k) : RowV w' v es := by
  rcases h with h | ⟨g, cap, rfl, hp, hg, hc⟩
  · exact .inl h
  · refine .inr ⟨g, cap, rfl, hp, Nat.lt_of_lt_of_le hg f.size, fun j u hj => ?_⟩
    have := hc j u hj
    simpa [World.cell?, f.block g hg (hn g rfl)] using this
theorem RowV.below {w w' : World} {v : Value} {es : List En} (h : RowV w v es) (f : Below w.heap.size w w') : RowV w' v es :=
  h.fr (S := fun _ => False) (Fr.of_below f) (fun _ _ h => h)
theorem RowV.lt {w : World} {v : Value} {es : List En} (h : RowV w v es) {k : Nat} (hk : v.ownBlock = some k) : k < w.heap.size := by
  rcases h with ⟨rfl, _⟩ | ⟨g, cap, rfl, hp, hg, hc⟩
  · cases hk
  · cases hk; exact hg
/-- The j-th's cells. -/
theorem RowV.at {w : World} {v : Value} {es : List En} (h : RowV w v es) (j : Nat) (hj : j < es.length) :
    ∃ g cap, v = .slice (some ⟨g, 0, none⟩) es.length cap ∧ g < w.heap.size ∧ w.cell? ⟨g, j * 5, none⟩ = some (.int .i64 (es[j]'hj).dy) ∧ w.cell? ⟨g, j * 5 + 1, none⟩ = some (.string (es[j]'hj).db) ∧
      w.cell? ⟨g, j * 5 + 2, none⟩ = some (.string (es[j]'hj).cr) ∧ w.cell? ⟨g, j * 5 + 3, none⟩ = some (.int .i64 (es[j]'hj).am) ∧ w.cell? ⟨g, j * 5 + 4, none⟩ = some (.string (es[j]'hj).me) := by
  rcases h with ⟨_, rfl⟩ | ⟨g, cap, rfl, hp, hg, hc⟩
  · simp at hj
  · have k : ∀ i, i < 5 → ∀ u, (es[j]'hj).cells[i]? = some u → w.cell? ⟨g, j * 5 + i, none⟩ = some u := fun i hi u hu => hc _ _ ((encL_get es j hj i hi).trans hu)
    exact ⟨g, cap, rfl, hg, k 0 (by decide) _ rfl, k 1 (by decide) _ rfl, k 2 (by decide) _ rfl, k 3 (by decide) _ rfl, k 4 (by decide) _ rfl⟩
theorem RowV.len {w : World} {v : Value} {es : List En} (h : RowV w v es) : ∃ a cap, v = .slice a es.length cap := by
  rcases h with ⟨rfl, rfl⟩ | ⟨g, cap, rfl, _⟩
  · exact ⟨_, _, rfl⟩
  · exact ⟨_, _, rfl⟩

def balStep (x : ByteArray) (s : Int) (e : En) : Int :=
  let s1 := if (e.db.toList == x.toList) = true then wrap64 (s + e.am) else s
  if (e.cr.toList == x.toList) = true then wrap64 (s1 - e.am) else s1
/-- What the reference reckons. -/
def balW (es : List En) (x : ByteArray) : Int := es.foldl (balStep x) 0
theorem balW_take (es : List En) (x : ByteArray) (k : Nat) (hk : k < es.length) : balW (es.take (k + 1)) x = balStep x (balW (es.take k) x) (es[k]'hk) := by
  unfold balW
  rw [List.take_succ_eq_append_getElem hk, List.foldl_append]
  rfl

theorem refDay (n : Int) (w : World) : Calls Try.prog 23 #[.int .i64 n] w fun e w' => e = .returned (.bool (decide (0 ≤ n) && decide (n ≤ 109572))) ∧ w' = w := by
  by_cases h : (0 : Int) ≤ n
  · go_enter Try.func23, Try.ntmps23
    go_wp2
    all_goals (go_ret; exact ⟨by simp [h], rfl⟩)
  · have h' : ¬ (0 : Int) ≤ n := h
    go_enter Try.func23, Try.ntmps23
    go_wp2
    all_goals (go_ret; exact ⟨by simp; omega, rfl⟩)

set_option maxHeartbeats 4000000 in
theorem refBal {v : Value} {es : List En} {w : World} (h : RowV w v es) (x : ByteArray) (hm : es.length < 1000000) :
    Calls Try.prog 24 #[v, .string x] w fun e w' => e = .returned (.int .i64 (balW es x)) ∧ w' = w := by
  obtain ⟨a, cap, rfl⟩ := h.len
  go_enter Try.func24, Try.ntmps24
  go_wp2
  go_loopw [5, 6] (fun v5 v6 wr => ∃ k : Nat, v5 = .int .i64 (balW (es.take k) x) ∧ v6 = .int .i64 k ∧ k ≤ es.length ∧ wr = w) (fun _ i _ => es.length - (RowKit.intOf i).toNat)
  case atStart => exact ⟨0, rfl, rfl, by omega, rfl⟩
  case round =>
    obtain ⟨k, rfl, rfl, hk, rfl⟩ := hrel
    by_cases hlt : k < es.length
    · obtain ⟨g, cap', e, hg, c0, c1, c2, c3, c4⟩ := h.at k hlt
      cases e
      have b1 : (k : Int) < (es.length : Int) := by omega
      have hb := balW_take es x k hlt
      unfold balStep at hb
      cases h1 : ((es[k]'hlt).db.toList == x.toList) with
      | true =>
        cases h2 : ((es[k]'hlt).cr.toList == x.toList) with
        | true =>
          simp only [h1, h2, if_true] at hb
          go_wp2
          go_roundw
          case rel => exact ⟨k + 1, by rw [hb], by simp, by omega, by first | rfl | trivial⟩
          case measure => simp [RowKit.intOf]; omega
        | false =>
          simp only [h1, h2, if_true, Bool.false_eq_true, if_false] at hb
          go_wp2
          go_roundw
          case rel => exact ⟨k + 1, by rw [hb], by simp, by omega, by first | rfl | trivial⟩
          case measure => simp [RowKit.intOf]; omega
      | false =>
        cases h2 : ((es[k]'hlt).cr.toList == x.toList) with
        | true =>
          simp only [h1, h2, if_true, Bool.false_eq_true, if_false] at hb
          go_wp2
          go_roundw
          case rel => exact ⟨k + 1, by rw [hb], by simp, by omega, by first | rfl | trivial⟩
          case measure => simp [RowKit.intOf]; omega
        | false =>
          simp only [h1, h2, Bool.false_eq_true, if_false] at hb
          go_wp2
          go_roundw
          case rel => exact ⟨k + 1, by rw [hb], by simp, by omega, by first | rfl | trivial⟩
          case measure => simp [RowKit.intOf]; omega
    · obtain rfl : k = es.length := by omega
      go_wp2
      go_ret
      exact ⟨by simp, rfl⟩
end Go.Bk

namespace Go.Bk
open Go Go.Maps Go.RowKit Go.Proofs
set_option linter.unusedVariables false
variable {v : Value} {es : List En} {w : World} (h : RowV w v es) (e : En) (hm : es.length < 1000000) (hdb : e.db.size ≤ maxLen) (hcr : e.cr.size ≤ maxLen) (hwa : (Lit.int .i64 e.am).wf = true)
include h in
set_option maxHeartbeats 4000000 in
theorem pe_1  (b1 : (e.db.size : Int) < 1) :
    Calls Try.prog 14 #[v, .agg e.cells.toArray] w fun ee w' => ee = .returned (.tuple #[v, .int .i64 1]) ∧ Below w.heap.size w w' := by
  obtain ⟨a, cap, rfl⟩ := h.len
  show Calls Try.prog 14 #[_, .agg #[.int .i64 e.dy, .string e.db, .string e.cr, .int .i64 e.am, .string e.me]] w _
  go_enter Try.func14, Try.ntmps14
  go_wp2
  go_ret2
  exact ⟨rfl, (Below.refl _ _).alloc (Nat.le_refl _) _⟩
include h in
set_option maxHeartbeats 4000000 in
theorem pe_2 (b1 : ¬ (e.db.size : Int) < 1) (b2 : (e.db.size : Int) > 32) :
    Calls Try.prog 14 #[v, .agg e.cells.toArray] w fun ee w' => ee = .returned (.tuple #[v, .int .i64 1]) ∧ Below w.heap.size w w' := by
  obtain ⟨a, cap, rfl⟩ := h.len
  show Calls Try.prog 14 #[_, .agg #[.int .i64 e.dy, .string e.db, .string e.cr, .int .i64 e.am, .string e.me]] w _
  go_enter Try.func14, Try.ntmps14
  go_wp2
  go_ret2
  exact ⟨rfl, (Below.refl _ _).alloc (Nat.le_refl _) _⟩
include h in
set_option maxHeartbeats 4000000 in
theorem pe_3 (b1 : ¬ (e.db.size : Int) < 1) (b2 : ¬ (e.db.size : Int) > 32) (b3 : (e.cr.size : Int) < 1) :
    Calls Try.prog 14 #[v, .agg e.cells.toArray] w fun ee w' => ee = .returned (.tuple #[v, .int .i64 1]) ∧ Below w.heap.size w w' := by
  obtain ⟨a, cap, rfl⟩ := h.len
  show Calls Try.prog 14 #[_, .agg #[.int .i64 e.dy, .string e.db, .string e.cr, .int .i64 e.am, .string e.me]] w _
  go_enter Try.func14, Try.ntmps14
  go_wp2
  go_ret2
  exact ⟨rfl, (Below.refl _ _).alloc (Nat.le_refl _) _⟩
include h in
set_option maxHeartbeats 4000000 in
theorem pe_4 (b1 : ¬ (e.db.size : Int) < 1) (b2 : ¬ (e.db.size : Int) > 32) (b3 : ¬ (e.cr.size : Int) < 1) (b4 : (e.cr.size : Int) > 32) :
    Calls Try.prog 14 #[v, .agg e.cells.toArray] w fun ee w' => ee = .returned (.tuple #[v, .int .i64 1]) ∧ Below w.heap.size w w' := by
  obtain ⟨a, cap, rfl⟩ := h.len
  show Calls Try.prog 14 #[_, .agg #[.int .i64 e.dy, .string e.db, .string e.cr, .int .i64 e.am, .string e.me]] w _
  go_enter Try.func14, Try.ntmps14
  go_wp2
  go_ret2
  exact ⟨rfl, (Below.refl _ _).alloc (Nat.le_refl _) _⟩
include h in
set_option maxHeartbeats 4000000 in
theorem pe_5 (b1 : ¬ (e.db.size : Int) < 1) (b2 : ¬ (e.db.size : Int) > 32) (b3 : ¬ (e.cr.size : Int) < 1) (b4 : ¬ (e.cr.size : Int) > 32) (b5 : (e.db.toList == e.cr.toList) = true) :
    Calls Try.prog 14 #[v, .agg e.cells.toArray] w fun ee w' => ee = .returned (.tuple #[v, .int .i64 1]) ∧ Below w.heap.size w w' := by
  obtain ⟨a, cap, rfl⟩ := h.len
  show Calls Try.prog 14 #[_, .agg #[.int .i64 e.dy, .string e.db, .string e.cr, .int .i64 e.am, .string e.me]] w _
  go_enter Try.func14, Try.ntmps14
  go_wp2
  go_ret2
  exact ⟨rfl, (Below.refl _ _).alloc (Nat.le_refl _) _⟩
include h in
set_option maxHeartbeats 4000000 in
theorem pe_6 (b1 : ¬ (e.db.size : Int) < 1) (b2 : ¬ (e.db.size : Int) > 32) (b3 : ¬ (e.cr.size : Int) < 1) (b4 : ¬ (e.cr.size : Int) > 32) (b5 : (e.db.toList == e.cr.toList) = false) (b6 : e.am < 1) :
    Calls Try.prog 14 #[v, .agg e.cells.toArray] w fun ee w' => ee = .returned (.tuple #[v, .int .i64 1]) ∧ Below w.heap.size w w' := by
  obtain ⟨a, cap, rfl⟩ := h.len
  show Calls Try.prog 14 #[_, .agg #[.int .i64 e.dy, .string e.db, .string e.cr, .int .i64 e.am, .string e.me]] w _
  go_enter Try.func14, Try.ntmps14
  go_wp2
  go_ret2
  exact ⟨rfl, (Below.refl _ _).alloc (Nat.le_refl _) _⟩
include h in
set_option maxHeartbeats 4000000 in
theorem pe_7 (b1 : ¬ (e.db.size : Int) < 1) (b2 : ¬ (e.db.size : Int) > 32) (b3 : ¬ (e.cr.size : Int) < 1) (b4 : ¬ (e.cr.size : Int) > 32) (b5 : (e.db.toList == e.cr.toList) = false) (b6 : ¬ e.am < 1) (b7 : e.am > 4503599627370496) :
    Calls Try.prog 14 #[v, .agg e.cells.toArray] w fun ee w' => ee = .returned (.tuple #[v, .int .i64 1]) ∧ Below w.heap.size w w' := by
  obtain ⟨a, cap, rfl⟩ := h.len
  show Calls Try.prog 14 #[_, .agg #[.int .i64 e.dy, .string e.db, .string e.cr, .int .i64 e.am, .string e.me]] w _
  go_enter Try.func14, Try.ntmps14
  go_wp2
  go_ret2
  exact ⟨rfl, (Below.refl _ _).alloc (Nat.le_refl _) _⟩
include h in
set_option maxHeartbeats 4000000 in
theorem pe_8 (b1 : ¬ (e.db.size : Int) < 1) (b2 : ¬ (e.db.size : Int) > 32) (b3 : ¬ (e.cr.size : Int) < 1) (b4 : ¬ (e.cr.size : Int) > 32) (b5 : (e.db.toList == e.cr.toList) = false) (b6 : ¬ e.am < 1) (b7 : ¬ e.am > 4503599627370496) (b8 : (decide (0 ≤ e.dy) && decide (e.dy ≤ 109572)) = false) :
    Calls Try.prog 14 #[v, .agg e.cells.toArray] w fun ee w' => ee = .returned (.tuple #[v, .int .i64 12]) ∧ Below w.heap.size w w' := by
  obtain ⟨a, cap, rfl⟩ := h.len
  show Calls Try.prog 14 #[_, .agg #[.int .i64 e.dy, .string e.db, .string e.cr, .int .i64 e.am, .string e.me]] w _
  go_enter Try.func14, Try.ntmps14
  go_wp2_with (first
    | (go_at_call 23; with_reducible refine (refDay e.dy _).mono ?_; rw [b8]; rintro e w1 ⟨rfl, rfl⟩)
    | go_in)
  go_ret2
  exact ⟨rfl, (Below.refl _ _).alloc (Nat.le_refl _) _⟩
end Go.Bk

namespace Go.Bk
open Go Go.Maps Go.RowKit Go.Proofs
set_option linter.unusedVariables false
variable {v : Value} {es : List En} {w : World} (h : RowV w v es) (e : En) (hm : es.length < 1000000)
include h hm in
set_option maxHeartbeats 4000000 in
theorem pe_9 (b1 : ¬ (e.db.size : Int) < 1) (b2 : ¬ (e.db.size : Int) > 32) (b3 : ¬ (e.cr.size : Int) < 1) (b4 : ¬ (e.cr.size : Int) > 32) (b5 : (e.db.toList == e.cr.toList) = false) (b6 : ¬ e.am < 1) (b7 : ¬ e.am > 4503599627370496) (b8 : (decide (0 ≤ e.dy) && decide (e.dy ≤ 109572)) = true) (g1 : (decide (wrap64 (balW es e.db + e.am) > 4611686018427387904)) = true) :
    Calls Try.prog 14 #[v, .agg e.cells.toArray] w fun ee w' => ee = .returned (.tuple #[v, .int .i64 10]) ∧ Below w.heap.size w w' := by
  obtain ⟨a, cap, rfl⟩ := h.len
  have h0 : RowV (w.alloc (.cells #[.int .i64 e.dy, .string e.db, .string e.cr, .int .i64 e.am, .string e.me] 42)) (.slice a es.length cap) es := h.below ((Below.refl _ _).alloc (Nat.le_refl _) _)
  have hq : ∀ n, RowV ((w.alloc (.cells #[.int .i64 e.dy, .string e.db, .string e.cr, .int .i64 e.am, .string e.me] 42)).drewN n) (.slice a es.length cap) es := fun n => h0
  show Calls Try.prog 14 #[_, .agg #[.int .i64 e.dy, .string e.db, .string e.cr, .int .i64 e.am, .string e.me]] w _
  go_enter Try.func14, Try.ntmps14
  go_wp2_with (first
    | (go_at_call 23; with_reducible refine (refDay e.dy _).mono ?_; rw [b8]; rintro ee w1 ⟨rfl, rfl⟩)
    | go_in)
  go_quiet (first
    | (with_reducible exact Calls.quiet_of_same (refBal (hq _) e.db hm))
    | (with_reducible exact Calls.quiet_of_same (refBal (hq _) e.cr hm)))
  go_wp2
  go_ret2
  exact ⟨rfl, below_drewN ((Below.refl _ _).alloc (Nat.le_refl _) _) _⟩
include h hm in
set_option maxHeartbeats 4000000 in
theorem pe_10 (b1 : ¬ (e.db.size : Int) < 1) (b2 : ¬ (e.db.size : Int) > 32) (b3 : ¬ (e.cr.size : Int) < 1) (b4 : ¬ (e.cr.size : Int) > 32) (b5 : (e.db.toList == e.cr.toList) = false) (b6 : ¬ e.am < 1) (b7 : ¬ e.am > 4503599627370496) (b8 : (decide (0 ≤ e.dy) && decide (e.dy ≤ 109572)) = true) (g1 : (decide (wrap64 (balW es e.db + e.am) > 4611686018427387904)) = false) (g2 : wrap64 (balW es e.cr - e.am) < -4611686018427387904) :
    Calls Try.prog 14 #[v, .agg e.cells.toArray] w fun ee w' => ee = .returned (.tuple #[v, .int .i64 10]) ∧ Below w.heap.size w w' := by
  obtain ⟨a, cap, rfl⟩ := h.len
  have h0 : RowV (w.alloc (.cells #[.int .i64 e.dy, .string e.db, .string e.cr, .int .i64 e.am, .string e.me] 42)) (.slice a es.length cap) es := h.below ((Below.refl _ _).alloc (Nat.le_refl _) _)
  have hq : ∀ n, RowV ((w.alloc (.cells #[.int .i64 e.dy, .string e.db, .string e.cr, .int .i64 e.am, .string e.me] 42)).drewN n) (.slice a es.length cap) es := fun n => h0
  show Calls Try.prog 14 #[_, .agg #[.int .i64 e.dy, .string e.db, .string e.cr, .int .i64 e.am, .string e.me]] w _
  go_enter Try.func14, Try.ntmps14
  go_wp2_with (first
    | (go_at_call 23; with_reducible refine (refDay e.dy _).mono ?_; rw [b8]; rintro ee w1 ⟨rfl, rfl⟩)
    | go_in)
  go_quiet (first
    | (with_reducible exact Calls.quiet_of_same (refBal (hq _) e.db hm))
    | (with_reducible exact Calls.quiet_of_same (refBal (hq _) e.cr hm)))
  go_wp2
  go_ret2
  exact ⟨rfl, below_drewN ((Below.refl _ _).alloc (Nat.le_refl _) _) _⟩
end Go.Bk
