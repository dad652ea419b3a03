/- BkP12: BooksAll. -/
import Derived.Test.YtmnpdgldmpjekaaBkP11
import Derived.Test.YtmnpdgldmpjekaaBkP9
import Derived.Deep.QuietTactic
import Derived.BigQuiet
namespace Go.Bk
open Go Go.Maps Go.RowKit Go.Proofs
set_option linter.unusedVariables false

theorem xN_one {xs : List Value} {dy am : Nat → Int} {db cr me : Nat → ByteArray} (h : ∀ u ∈ xs, u.oneCell' = true) : ∀ k, ∀ u ∈ xN xs dy am db cr me k, u.oneCell' = true
  | 0 => h
  | k + 1 => fun u hu => by
    rcases List.mem_append.1 hu with hu | hu
    · exact xN_one h k u hu
    · simp at hu
      rcases hu with rfl | rfl | rfl | rfl | rfl <;> rfl

/-- A map's keys, sorted. -/
def KS (D : DataW Unit) : List (List UInt8) := (strKeys D).mergeSort (fun x y => decide (x ≤ y))
/-- A slice of these texts. -/
def Txts (w : World) (a : Option Addr) (ks : List (List UInt8)) : Prop := ∀ j, j < ks.length → ∃ g, a = some ⟨g, 0, none⟩ ∧ g < w.heap.size ∧ w.cell? ⟨g, j, none⟩ = some (encStr (ks.getD j []))
theorem Txts.kept {w w' : World} {a : Option Addr} {ks : List (List UInt8)} (h : Txts w a ks) (hb : Below w.heap.size w w') : Txts w' a ks := fun j hj => by
  obtain ⟨g, e, hg, hc⟩ := h j hj
  exact ⟨g, e, Nat.lt_of_lt_of_le hg hb.size, (hb.cell (p := ⟨g, j, none⟩) hg).trans hc⟩
theorem accountsK {sb bm n m B : Nat} {v : Value} {xs : List Value} {D : DataW Unit} {w : World} (bk : Books B sb bm n m v xs D w) (hn : n ≤ 1000000) :
    Calls Try.prog 9 #[.pointer (some ⟨sb, 0, none⟩)] w fun e w' => ∃ a cap, e = .returned (.slice a (KS D).length cap) ∧ Txts w' a (KS D) ∧ Below w.heap.size w w' := by
  refine (accounts sb bm n D w bk.c1 bk.map (Nat.le_trans bk.map.size_le hn)).mono ?_
  rintro e w' ⟨v6, ss, rfl, hS, hrow, hb4⟩
  have hks : (ss.mergeSort (fun x y => decide (x ≤ y))) = KS D := mergeSort_of_perm hS
  rw [hks] at hrow
  have hl : ss.length = (KS D).length := by rw [← hks, List.length_mergeSort]
  obtain ⟨a6, cap6, rfl, h6⟩ := row_form hrow
  refine ⟨a6, cap6, by rw [hl], fun j hj => ?_, hb4⟩
  obtain ⟨g, e, hc⟩ := h6 j (by omega)
  exact ⟨g, e, cell_lt hc, hc⟩
theorem Ents.kept {w w' : World} {a : Option Addr} {len : Nat} {dy am : Nat → Int} {db cr me : Nat → ByteArray} (h : Ents w a len dy am db cr me) (hb : Below w.heap.size w w') : Ents w' a len dy am db cr me :=
  ⟨fun i hi => by
    obtain ⟨x, e, hx, c0, c1, c2, c3, c4⟩ := h.cells i hi
    have key : ∀ j, w'.cell? (x.add (i * 5 + j)) = w.cell? (x.add (i * 5 + j)) := fun j => hb.cell (by rw [add_block]; exact hx)
    exact ⟨x, e, Nat.lt_of_lt_of_le hx hb.size, (key 0).trans c0, (key 1).trans c1, (key 2).trans c2, (key 3).trans c3, (key 4).trans c4⟩, h.wf⟩

set_option maxHeartbeats 16000000 in
set_option maxRecDepth 100000 in
theorem all_law (awake : ∀ w, Calls Try.prog 6 #[] w fun e w' => e = .returned (.bool true) ∧ Below w.heap.size w w')
    (a : Option Addr) (len cap : Nat) (dy am : Nat → Int) (db cr me : Nat → ByteArray) (a' : Option Addr) (len' cap' : Nat) (dy' am' : Nat → Int) (db' cr' me' : Nat → ByteArray) (w : World)
    (he : Ents w a len dy am db cr me) (he' : Ents w a' len' dy' am' db' cr' me') :
    Calls Try.prog 4 #[.slice a len cap, .slice a' len' cap'] w fun e w' => e = .returned (.bool true) ∧ Below w.heap.size w w' := by
  by_cases hl : len > 30
  · have hl1 : decide (len > 30) = true := decide_eq_true hl
    go_enter Try.func4, Try.ntmps4
    go_wp2_with (first
      | (go_at_call 6; with_reducible refine (awake _).mono ?_; rintro e w1 ⟨rfl, hb⟩)
      | go_in)
    go_ret
    exact ⟨rfl, hb⟩
  by_cases hl' : len' > 10
  · go_enter Try.func4, Try.ntmps4
    go_wp2_with (first
      | (go_at_call 6; with_reducible refine (awake _).mono ?_; rintro e w1 ⟨rfl, hb⟩)
      | go_in)
    go_ret
    exact ⟨rfl, hb⟩
  · go_enter Try.func4, Try.ntmps4
    go_wp2_with (first
      | (go_at_call 6; with_reducible refine (awake _).mono ?_; rintro e w1 ⟨rfl, hb⟩)
      | (go_at_call 7; with_reducible refine (new _).mono ?_; rintro e w2 ⟨rfl, rfl⟩)
      | go_in)
    have hb0 := books_new w1 w.heap.size hb.size
    have hB0 : Below w.heap.size w ((w1.alloc (.map #[] 0)).alloc (.cells #[.slice none 0 0, .map (some w1.heap.size)] 50)) := (hb.alloc hb.size _).alloc (by simp; have := hb.size; omega) _
    go_loopw [6] (fun v4 wr => ∃ (k n m : Nat) (v : Value) (xs : List Value) (D : DataW Unit), v4 = .int .i64 k ∧ k ≤ len ∧ n ≤ 2 * k ∧ m ≤ k ∧ Books w.heap.size (w1.heap.size + 1) w1.heap.size n m v xs D wr ∧ (v = .slice none 0 0 ∨ 0 < m) ∧ (∀ u ∈ xs, u.oneCell' = true) ∧ Below w.heap.size w wr)
      (fun i _ => len - (RowKit.intOf i).toNat)
    case atStart => exact ⟨0, 0, 0, _, _, _, rfl, by omega, by omega, by omega, hb0, .inl rfl, by simp, hB0⟩
    case round =>
      obtain ⟨k, n, m, v, xs, D, rfl, hk, hn, hm, bk, hv, h1, hBw⟩ := hrel
      by_cases hlt : k < len
      · obtain ⟨x, rfl, hxb, q0, q1, q2, q3, q4⟩ := he.cells k hlt
        obtain ⟨wa, wd, wc⟩ := he.wf k hlt
        have r0 : wr.cell? (x.add (k * 5)) = some (.int .i64 (dy k)) := (hBw.cell (p := x.add (k * 5 + 0)) (by rw [add_block]; exact hxb)).trans q0
        have r1 : wr.cell? ⟨(x.add (k * 5)).block, (x.add (k * 5)).off + 1, none⟩ = some (.string (db k)) := by rw [add_at x _ 1 (by decide)]; exact (hBw.cell (p := x.add (k * 5 + 1)) (by rw [add_block]; exact hxb)).trans q1
        have r2 : wr.cell? ⟨(x.add (k * 5)).block, (x.add (k * 5)).off + 2, none⟩ = some (.string (cr k)) := by rw [add_at x _ 2 (by decide)]; exact (hBw.cell (p := x.add (k * 5 + 2)) (by rw [add_block]; exact hxb)).trans q2
        have r3 : wr.cell? ⟨(x.add (k * 5)).block, (x.add (k * 5)).off + 3, none⟩ = some (.int .i64 (am k)) := by rw [add_at x _ 3 (by decide)]; exact (hBw.cell (p := x.add (k * 5 + 3)) (by rw [add_block]; exact hxb)).trans q3
        have r4 : wr.cell? ⟨(x.add (k * 5)).block, (x.add (k * 5)).off + 4, none⟩ = some (.string (me k)) := by rw [add_at x _ 4 (by decide)]; exact (hBw.cell (p := x.add (k * 5 + 4)) (by rw [add_block]; exact hxb)).trans q4
        go_wp2_with (first
          | (go_at_call 8; with_reducible refine (post_any _ _ n m _ v xs D (dy k) (am k) (db k) (cr k) (me k) _ (by unfold maxLen; omega) (by omega) wd wc wa bk).mono ?_; rintro e w3 ⟨rfl, hB3, hno, hyes⟩)
          | go_in)
        go_roundw
        case rel =>
          by_cases hr : mayR D (dy k) (am k) (db k) (cr k) = 0
          · obtain ⟨v', bk', hF', hO'⟩ := hyes hr
            exact ⟨k + 1, n + 1 + 1, m + 1, v', _, _, by simp, by omega, by omega, by omega, bk', .inr (by omega), xN_one (xs := xs) (dy := fun _ => dy k) (am := fun _ => am k) (db := fun _ => db k) (cr := fun _ => cr k) (me := fun _ => me k) h1 1, hBw.trans hB3⟩
          · exact ⟨k + 1, n, m, v, xs, D, by simp, by omega, by omega, by omega, bk.kept (grown_of_below (hno hr)), hv, h1, hBw.trans hB3⟩
        case measure => simp [RowKit.intOf]; omega
      · go_wp2_with (first
          | (go_at_call 12; with_reducible refine (len_is bk).mono ?_; rintro e w3 ⟨rfl, rfl⟩)
          | (go_at_call 9; with_reducible refine (accountsK bk (by omega)).mono ?_; rintro e w4 ⟨a6, cap6, rfl, ht6, hb4⟩)
          | (go_at_call 13; with_reducible refine (all_is (bk.kept (grown_of_below hb4)) hv h1 (he'.kept (hBw.trans (hb4.mono bk.b3))) (by omega) (by unfold maxLen; omega)).mono ?_; rintro e w5 ⟨r, rfl, (⟨rfl, hz, hb5, bo, vo, bk5, hv5, _⟩ | ⟨hr, hex, hb5⟩)⟩)
          | (go_at_call 12; with_reducible refine (len_is bk5).mono ?_; rintro e w6 ⟨rfl, rfl⟩)
          | (go_at_call 9; with_reducible refine (accountsK ((bk.kept (grown_of_below hb4)).kept (grown_of_below hb5)) (by omega)).mono ?_; rintro e w7 ⟨a7, cap7, rfl, ht7, hb7⟩)
          | (go_at_call 12; with_reducible refine (len_is (((bk.kept (grown_of_below hb4)).kept (grown_of_below hb5)).kept (grown_of_below hb7))).mono ?_; rintro e w8 ⟨rfl, rfl⟩)
          | go_in)
        · go_ret
          refine ⟨by simp, ?_⟩
          exact (hBw.trans (hb4.mono bk.b3)).trans hb5
        · have hB7 := ((hBw.trans (hb4.mono bk.b3)).trans (hb5.mono (Nat.le_trans bk.b3 hb4.size))).trans (hb7.mono (Nat.le_trans (Nat.le_trans bk.b3 hb4.size) hb5.size))
          have t6 := (ht6.kept hb5).kept hb7
          go_loopw [11] (fun v11 wr => ∃ j : Nat, v11 = .int .i64 j ∧ j ≤ (KS D).length ∧ Txts wr a6 (KS D) ∧ Txts wr a7 (KS D) ∧ Below w.heap.size w wr) (fun i _ => (KS D).length - (RowKit.intOf i).toNat)
          case atStart => exact ⟨0, rfl, by omega, t6, ht7, hB7⟩
          case round =>
            obtain ⟨j, rfl, hj, u6, u7, hBr⟩ := hrel
            by_cases hlj : j < (KS D).length
            · obtain ⟨g6, rfl, _, hc6⟩ := u6 j hlj
              obtain ⟨g7, rfl, _, hc7⟩ := u7 j hlj
              have b0 : (0 : Int) ≤ (j : Int) := by omega
              have b1 : (j : Int) < ((KS D).length : Int) := by omega
              have hmax : (KS D).length ≤ 1000000 := by
                have e : (KS D).length = Maps.size D := by unfold KS; rw [List.length_mergeSort, strKeys_length]
                have := bk.map.size_le
                omega
              go_wp2
              go_quiet (fail)
              go_wp2
              go_roundw
              case rel => exact ⟨j + 1, by simp, by omega, u6, u7, below_drewN hBr _⟩
              case measure => simp [RowKit.intOf]; omega
            · go_wp2
              go_ret
              exact ⟨rfl, hBr⟩
end Go.Bk
