/- BkP11: All. -/
import Derived.Test.YtmnpdgldmpjekaaBkP8
import Derived.Test.YtmnpdgldmpjekaaBkP10
namespace Go.Bk
open Go Go.Maps Go.RowKit Go.Proofs
set_option linter.unusedVariables false

/-- The map behind k entries. -/
def dN (D : DataW Unit) (am : Nat → Int) (db cr : Nat → ByteArray) : Nat → DataW Unit
  | 0 => D
  | k + 1 => putE (dN D am db cr k) (db k) (cr k) (am k)
/-- The list's cells behind k entries. -/
def xN (xs : List Value) (dy am : Nat → Int) (db cr me : Nat → ByteArray) : Nat → List Value
  | 0 => xs
  | k + 1 => xN xs dy am db cr me k ++ [.int .i64 (dy k), .string (db k), .string (cr k), .int .i64 (am k), .string (me k)]
/-- What Post says of the k-th. -/
def rN (D : DataW Unit) (dy am : Nat → Int) (db cr : Nat → ByteArray) (k : Nat) : Int := mayR (dN D am db cr k) (dy k) (am k) (db k) (cr k)

theorem Books.cast {B sb bm n n' m m' : Nat} {v : Value} {xs : List Value} {D : DataW Unit} {w : World} (h : Books B sb bm n m v xs D w) (hn : n = n') (hm : m = m') : Books B sb bm n' m' v xs D w := by
  subst hn; subst hm; exact h
theorem row_base {w : World} {B B' m : Nat} {v : Value} {xs : List Value} (h : w.ownsRow B 29 5 v m xs) (hB : B' ≤ B) : w.ownsRow B' 29 5 v m xs := by
  refine ⟨h.1, ?_⟩
  rcases h.2 with h | ⟨g, cap, cur, rfl, hb, rest⟩
  · exact .inl h
  · exact .inr ⟨g, cap, cur, rfl, Nat.le_trans hB hb, rest⟩
/-- The copy's two fields take the old ones' place. -/
theorem Books.moved {B B0 sb so bm bm' n n' m m' : Nat} {v v' : Value} {xs xs' : List Value} {D D' : DataW Unit} {w : World} (h : Books B sb bm n m v xs D w) (k : Books B0 so bm' n' m' v' xs' D' w) (hs : sb < B0) (hB : B ≤ B0) :
    Books B sb bm' n' m' v' xs' D' ((w.setCell ⟨sb, 0, none⟩ v').setCell ⟨sb, 0 + 1, none⟩ (.map (some bm'))) := by
  have hb := k.b2
  have hv : v'.ownBlock ≠ some sb := by
    intro e
    have := row_ge k.row e
    omega
  have g1 := grown_set w ⟨sb, 0, none⟩ v'
  have g2 := grown_set (w.setCell ⟨sb, 0, none⟩ v') ⟨sb, 0 + 1, none⟩ (.map (some bm'))
  have c1 := heap_setCell_same w sb 0 _ 50 v' h.cells
  have c2 := heap_setCell_same (w.setCell ⟨sb, 0, none⟩ v') sb (0 + 1) _ 50 (.map (some bm')) c1
  refine ⟨?_, row_base ((k.row.kept g1 (.inr hv)).kept g2 (.inr hv)) hB, (k.map.setCell (by show bm' ≠ sb; omega) _).setCell (by show bm' ≠ sb; omega) _, hv, k.nm, h.b1, Nat.le_trans hB hb, Nat.le_trans h.b3 (by simp)⟩
  simpa using c2

set_option maxHeartbeats 8000000 in
set_option maxRecDepth 100000 in
theorem all_is {sb bm n m B : Nat} {v : Value} {xs : List Value} {D : DataW Unit} {w : World} (bk : Books B sb bm n m v xs D w) (hv : v = .slice none 0 0 ∨ 0 < m) (h1 : ∀ u ∈ xs, u.oneCell' = true)
    {a : Option Addr} {len cap : Nat} {dy am : Nat → Int} {db cr me : Nat → ByteArray} (he : Ents w a len dy am db cr me) (hmm : m + len < 1000000) (hn : n + 2 * len + 2 < maxLen) :
    Calls Try.prog 13 #[.pointer (some ⟨sb, 0, none⟩), .slice a len cap] w fun e w' => ∃ r, e = .returned (.int .i64 r) ∧
      ((r = 0 ∧ (∀ j, j < len → rN D dy am db cr j = 0) ∧ Below B w w' ∧ ∃ bm' v', Books B sb bm' (n + 2 * len) (m + len) v' (xN xs dy am db cr me len) (dN D am db cr len) w' ∧ (v' = .slice none 0 0 ∨ 0 < m + len) ∧ Fr (fun k => k = sb) w w' ∧ (∀ k, v'.ownBlock = some k → w.heap.size ≤ k) ∧ w.heap.size ≤ bm') ∨
       (r ≠ 0 ∧ (∃ j, j < len ∧ (∀ i, i < j → rN D dy am db cr i = 0) ∧ r = rN D dy am db cr j) ∧ Below w.heap.size w w')) := by
  go_enter Try.func13, Try.ntmps13
  go_wp2_with (first
    | (go_at_call 22; with_reducible refine (copy_is bk hv (by omega) h1).mono ?_; rintro e w1 ⟨so, bo, vo, rfl, bk1, hv1, hb1⟩)
    | go_in)
  go_loopw [13] (fun v13 wr => ∃ (k : Nat) (vk : Value), v13 = .int .i64 k ∧ k ≤ len ∧ (∀ j, j < k → rN D dy am db cr j = 0) ∧ Books w.heap.size so bo (n + 2 * k) (m + k) vk (xN xs dy am db cr me k) (dN D am db cr k) wr ∧ (vk = .slice none 0 0 ∨ 0 < m + k) ∧ Below w.heap.size w wr)
    (fun i _ => len - (RowKit.intOf i).toNat)
  case atStart => exact ⟨0, vo, rfl, by omega, fun j hj => by omega, bk1, hv1, hb1⟩
  case round =>
    obtain ⟨k, vk, rfl, hk, hr0, bkk, hvk, hbw⟩ := hrel
    by_cases hlt : k < len
    · obtain ⟨x, rfl, hxb, q0, q1, q2, q3, q4⟩ := he.cells k hlt
      obtain ⟨wa, wd, wc⟩ := he.wf k hlt
      have r0 : wr.cell? (x.add (k * 5)) = some (.int .i64 (dy k)) := (hbw.cell (p := x.add (k * 5 + 0)) (by rw [add_block]; exact hxb)).trans q0
      have r1 : wr.cell? ⟨(x.add (k * 5)).block, (x.add (k * 5)).off + 1, none⟩ = some (.string (db k)) := by rw [add_at x _ 1 (by decide)]; exact (hbw.cell (p := x.add (k * 5 + 1)) (by rw [add_block]; exact hxb)).trans q1
      have r2 : wr.cell? ⟨(x.add (k * 5)).block, (x.add (k * 5)).off + 2, none⟩ = some (.string (cr k)) := by rw [add_at x _ 2 (by decide)]; exact (hbw.cell (p := x.add (k * 5 + 2)) (by rw [add_block]; exact hxb)).trans q2
      have r3 : wr.cell? ⟨(x.add (k * 5)).block, (x.add (k * 5)).off + 3, none⟩ = some (.int .i64 (am k)) := by rw [add_at x _ 3 (by decide)]; exact (hbw.cell (p := x.add (k * 5 + 3)) (by rw [add_block]; exact hxb)).trans q3
      have r4 : wr.cell? ⟨(x.add (k * 5)).block, (x.add (k * 5)).off + 4, none⟩ = some (.string (me k)) := by rw [add_at x _ 4 (by decide)]; exact (hbw.cell (p := x.add (k * 5 + 4)) (by rw [add_block]; exact hxb)).trans q4
      go_wp2_with (first
        | (go_at_call 8; with_reducible refine (post_any _ _ _ _ _ _ _ _ (dy k) (am k) (db k) (cr k) (me k) _ (by omega) (by omega) wd wc wa (bkk.kept (World.grownBy_alloc _ _ _))).mono ?_; rintro e w3 ⟨rfl, hB3, hno, hyes⟩)
        | go_in)
      · have hr : (mayR (dN D am db cr k) (dy k) (am k) (db k) (cr k) != 0) = true := by assumption
        have hr' : mayR (dN D am db cr k) (dy k) (am k) (db k) (cr k) ≠ 0 := by simpa using hr
        go_ret
        exact ⟨_, rfl, .inr ⟨hr', ⟨k, hlt, hr0, rfl⟩, (hbw.alloc hbw.size _).trans hB3⟩⟩
      · have hr : (mayR (dN D am db cr k) (dy k) (am k) (db k) (cr k) != 0) = false := by assumption
        have hr' : mayR (dN D am db cr k) (dy k) (am k) (db k) (cr k) = 0 := by simpa using hr
        obtain ⟨v', bk', hF', hO'⟩ := hyes hr'
        go_roundw
        case rel =>
          refine ⟨k + 1, v', by simp, by omega, fun j hj => ?_, bk'.cast (by omega) (by omega), .inr (by omega), (hbw.alloc hbw.size _).trans hB3⟩
          by_cases hjk : j < k
          · exact hr0 j hjk
          · obtain rfl : j = k := by omega
            exact hr'
        case measure => simp [RowKit.intOf]; omega
    · obtain rfl : k = len := by omega
      obtain ⟨av, lv, cv, rfl⟩ : ∃ av lv cv, vk = .slice av lv cv := by
        rcases row_val bkk.row with ⟨e, _⟩ | ⟨g, cap, cur, e, _⟩
        · exact ⟨_, _, _, e⟩
        · exact ⟨_, _, _, e⟩
      have bks := bk.kept (grown_of_below hbw)
      have s0 := bkk.c0
      have s1 := bkk.c1
      have t0 := bks.c0
      have t1 := bks.c1
      have f0 := bks.f0
      have f1 : wr.frozen? ⟨sb, 0 + 1, none⟩ = false := by simp [World.frozen?, bks.cells]
      go_wp2
      go_ret
      refine ⟨0, rfl, .inl ⟨rfl, hr0, ?_, bo, .slice av lv cv, ?_, hvk, ?_, fun k hk => row_ge bkk.row hk, bkk.b2⟩⟩
      · exact ((hbw.mono bk.b3).setCell bk.b1 _).setCell bk.b1 _
      · exact bks.moved bkk bk.lt bk.b3
      · exact ((Fr.of_below hbw).trans (Fr.of_grown (S := fun k => k = sb) (grown_set wr ⟨sb, 0, none⟩ _) (fun k hk => by cases hk; rfl)) (fun _ _ h => h)).trans (Fr.of_grown (S := fun k => k = sb) (grown_set _ ⟨sb, 0 + 1, none⟩ _) (fun k hk => by cases hk; rfl)) (fun _ _ h => h)
end Go.Bk
