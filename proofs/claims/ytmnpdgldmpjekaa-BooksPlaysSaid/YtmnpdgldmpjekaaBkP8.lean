/- BkP8: BooksAgree. -/
import Derived.Test.YtmnpdgldmpjekaaBkP7
import Derived.Test.YtmnpdgldmpjekaaBkP3
import Derived.LoopTactic
import Derived.Laws.Rows
namespace Go.Bk
open Go Go.Maps Go.RowKit Go.Proofs
open Go.WideMaps (keyOf_string_mk)
set_option linter.unusedVariables false

theorem num_wrap (x : Int) : (num (H := Unit) (.lit (.int .i64 (IntKind.i64.wrap x))) - x) % 18446744073709551616 = 0 := by
  show (IntKind.i64.wrap x - x) % _ = 0
  rw [IntWalk.i64_left]
  unfold wrap64
  omega
theorem tot_putE {D : DataW Unit} (hD : Tidy D) (db cr : ByteArray) (amt : Int) : (tot (putE D db cr amt) - tot D) % 18446744073709551616 = 0 := by
  unfold putE
  dsimp only
  have hk1 : WideAt.IsKeyLit (.string db.data.toList) := trivial
  have hk2 : WideAt.IsKeyLit (.string cr.data.toList) := trivial
  have h1 := tot_put hD hk1 (.lit (.int .i64 (IntKind.i64.wrap (bal D db + amt))))
  have hD1 := hD.put hk1 (.lit (.int .i64 (IntKind.i64.wrap (bal D db + amt))))
  have h2 := tot_put hD1 hk2 (.lit (.int .i64 (IntKind.i64.wrap (bal (D.put (.string db.data.toList) (.lit (.int .i64 (IntKind.i64.wrap (bal D db + amt))))) cr - amt))))
  rw [h2, h1]
  have e1 := num_wrap (bal D db + amt)
  have e2 := num_wrap (bal (D.put (.string db.data.toList) (.lit (.int .i64 (IntKind.i64.wrap (bal D db + amt))))) cr - amt)
  have b1 : num (D.atKey (.string db.data.toList) (.lit (.int .i64 0))) = bal D db := rfl
  have b2 : num ((D.put (.string db.data.toList) (.lit (.int .i64 (IntKind.i64.wrap (bal D db + amt))))).atKey (.string cr.data.toList) (.lit (.int .i64 0))) = bal (D.put (.string db.data.toList) (.lit (.int .i64 (IntKind.i64.wrap (bal D db + amt))))) cr := rfl
  rw [b1, b2]
  omega

/-- The entries that came in. -/
structure Ents (w : World) (a : Option Addr) (len : Nat) (dy am : Nat → Int) (db cr me : Nat → ByteArray) : Prop where
  cells : ∀ i, i < len → ∃ x : Addr, a = some x ∧ x.block < w.heap.size ∧ w.cell? (x.add (i * 5 + 0)) = some (.int .i64 (dy i)) ∧ w.cell? (x.add (i * 5 + 1)) = some (.string (db i)) ∧ w.cell? (x.add (i * 5 + 2)) = some (.string (cr i)) ∧
    w.cell? (x.add (i * 5 + 3)) = some (.int .i64 (am i)) ∧ w.cell? (x.add (i * 5 + 4)) = some (.string (me i))
  wf : ∀ i, i < len → (Lit.int .i64 (am i)).wf = true ∧ (db i).size ≤ maxLen ∧ (cr i).size ≤ maxLen

theorem add_block (x : Addr) (n : Nat) : (x.add n).block = x.block := by unfold Addr.add; split <;> rfl
theorem add_at (x : Addr) (n j : Nat) (hj : 0 < j) : (⟨(x.add n).block, (x.add n).off + j, none⟩ : Addr) = x.add (n + j) := by
  unfold Addr.add
  by_cases h : n = 0
  · subst h; simp; omega
  · simp [h]; omega
theorem wf_bd {a : Int} (h : (Lit.int .i64 a).wf = true) : -9223372036854775808 ≤ a ∧ a ≤ 9223372036854775807 := by
  simp [Lit.wf, IntKind.min, IntKind.max, IntKind.bits, IntKind.signed] at h
  exact h
theorem sumK_snoc (D : DataW Unit) (l : List (List UInt8)) (x : List UInt8) : sumK D (l ++ [x]) = sumK D l + num (D.atKey (.string x) (.lit (.int .i64 0))) := by
  induction l with
  | nil => simp [sumK]
  | cons y l ih => simp only [List.cons_append, sumK, ih]; omega
theorem row_form {w : World} {B : Nat} {v : Value} {ss ks : List (List UInt8)} (h : w.ownsRow B 9 1 v ss.length (ks.map encStr)) :
    ∃ a cap, v = .slice a ss.length cap ∧ ∀ j, (hj : j < ss.length) → ∃ g, a = some ⟨g, 0, none⟩ ∧ w.cell? ⟨g, j, none⟩ = some (encStr (ks.getD j [])) := by
  have hl : ks.length = ss.length := by have := h.1; simpa using this
  rcases h.2 with ⟨rfl, h0⟩ | ⟨g, cap, cur, rfl, _, hg, h1, h2, h3, h4⟩
  · exact ⟨none, 0, by rw [h0], fun j hj => by omega⟩
  · refine ⟨some ⟨g, 0, none⟩, cap, rfl, fun j hj => ⟨g, rfl, ?_⟩⟩
    have e : (cur.toList.take (ss.length * 1))[j]? = (ks.map encStr)[j]? := by rw [h4]
    rw [List.getElem?_take_of_lt (by omega), List.getElem?_map] at e
    have e2 : ks[j]? = some (ks.getD j []) := by
      rw [List.getD_eq_getElem?_getD, List.getElem?_eq_getElem (by omega)]; rfl
    rw [e2] at e
    simp only [World.cell?, hg]
    simpa using e
theorem keys_str {w : World} {bm n : Nat} {es : List (Lit × DataW Unit)} (h : w.ownsMap Try.prog 9 (plainElem Try.prog 2) bm n (.map es)) : ∀ p ∈ es, ∃ x, p.1 = .string x := by
  obtain ⟨es', e, hk⟩ := h.keysOf
  cases e
  intro p hp
  obtain ⟨v, hv⟩ := hk p hp
  obtain ⟨x, _, hx, _⟩ := Maps.keyOf_str Try.underlying9 hv
  exact ⟨x, hx⟩
theorem strKeys_length (D : DataW Unit) : (strKeys D).length = Maps.size D := by
  cases D <;> simp [strKeys, Maps.size]
theorem balanceE (sb bm n : Nat) (D : DataW Unit) (x : List UInt8) (w : World) (c1 : w.cell? ⟨sb, 0 + 1, none⟩ = some (.map (some bm)))
    (hown : w.ownsMap Try.prog 9 (plainElem Try.prog 2) bm n D) (hx : x.length ≤ maxLen) :
    Calls Try.prog 10 #[.pointer (some ⟨sb, 0, none⟩), encStr x] w fun e w' => ∃ c, e = .returned (.int .i64 c) ∧ D.atKey (.string x) (.lit (.int .i64 0)) = .lit (.int .i64 c) ∧ w' = w :=
  balance sb bm n D ⟨x.toArray⟩ w c1 hown (by simpa [ByteArray.size] using hx)
theorem books_new (w : World) (B : Nat) (hB : B ≤ w.heap.size) : Books B (w.heap.size + 1) w.heap.size 0 0 (.slice none 0 0) [] (.map []) ((w.alloc (.map #[] 0)).alloc (.cells #[.slice none 0 0, .map (some w.heap.size)] 50)) := by
  refine ⟨?_, World.ownsRow_nil _ _ _ _, (World.ownsMap_made w Try.prog 9 _).alloc _, by simp [Value.ownBlock], by simp [Value.ownBlock], by omega, hB, by simp; omega⟩
  have := (MapKept.heap_alloc (w.alloc (.map #[] 0)) (.cells #[.slice none 0 0, .map (some w.heap.size)] 50)).1
  simpa using this

set_option maxHeartbeats 8000000 in
set_option maxRecDepth 100000 in
theorem agree (awake : ∀ w, Calls Try.prog 6 #[] w fun e w' => e = .returned (.bool true) ∧ Below w.heap.size w w')
    (a : Option Addr) (len cap : Nat) (dy am : Nat → Int) (db cr me : Nat → ByteArray) (w : World) (he : Ents w a len dy am db cr me) :
    Calls Try.prog 3 #[.slice a len cap] w fun e w' => e = .returned (.bool true) ∧ Below w.heap.size w w' := by
  by_cases hl : len > 200
  · have hl1 : decide (len > 200) = true := decide_eq_true hl
    go_enter Try.func3, Try.ntmps3
    go_wp2_with (first
      | (go_at_call 6; with_reducible refine (awake _).mono ?_; rintro e w1 ⟨rfl, hb⟩)
      | go_in)
    go_ret
    exact ⟨rfl, hb⟩
  · go_enter Try.func3, Try.ntmps3
    go_wp2_with (first
      | (go_at_call 6; with_reducible refine (awake _).mono ?_; rintro e w1 ⟨rfl, hb⟩)
      | (go_at_call 7; with_reducible refine (new _).mono ?_; rintro e w2 ⟨rfl, rfl⟩)
      | go_in)
    have hb0 := books_new w1 w.heap.size hb.size
    have hB0 : Below w.heap.size w ((w1.alloc (.map #[] 0)).alloc (.cells #[.slice none 0 0, .map (some w1.heap.size)] 50)) := (hb.alloc hb.size _).alloc (by simp; have := hb.size; omega) _
    go_loopw [4] (fun v4 wr => ∃ (k n m : Nat) (v : Value) (xs : List Value) (D : DataW Unit), v4 = .int .i64 k ∧ k ≤ len ∧ n ≤ 2 * k ∧ m ≤ k ∧ Books w.heap.size (w1.heap.size + 1) w1.heap.size n m v xs D wr ∧ tot D % 18446744073709551616 = 0 ∧ Below w.heap.size w wr)
      (fun i _ => len - (RowKit.intOf i).toNat)
    case atStart => exact ⟨0, 0, 0, _, _, _, rfl, by omega, by omega, by omega, hb0, rfl, hB0⟩
    case round =>
      obtain ⟨k, n, m, v, xs, D, rfl, hk, hn, hm, bk, ht, hBw⟩ := hrel
      by_cases hlt : k < len
      · obtain ⟨x, rfl, hxb, q0, q1, q2, q3, q4⟩ := he.cells k hlt
        obtain ⟨wa, wd, wc⟩ := he.wf k hlt
        have r0 : wr.cell? (x.add (k * 5)) = some (.int .i64 (dy k)) := (hBw.cell (p := x.add (k * 5 + 0)) (by rw [add_block]; exact hxb)).trans q0
        have r1 : wr.cell? ⟨(x.add (k * 5)).block, (x.add (k * 5)).off + 1, none⟩ = some (.string (db k)) := by rw [add_at x _ 1 (by decide)]; exact (hBw.cell (p := x.add (k * 5 + 1)) (by rw [add_block]; exact hxb)).trans q1
        have r2 : wr.cell? ⟨(x.add (k * 5)).block, (x.add (k * 5)).off + 2, none⟩ = some (.string (cr k)) := by rw [add_at x _ 2 (by decide)]; exact (hBw.cell (p := x.add (k * 5 + 2)) (by rw [add_block]; exact hxb)).trans q2
        have r3 : wr.cell? ⟨(x.add (k * 5)).block, (x.add (k * 5)).off + 3, none⟩ = some (.int .i64 (am k)) := by rw [add_at x _ 3 (by decide)]; exact (hBw.cell (p := x.add (k * 5 + 3)) (by rw [add_block]; exact hxb)).trans q3
        have r4 : wr.cell? ⟨(x.add (k * 5)).block, (x.add (k * 5)).off + 4, none⟩ = some (.string (me k)) := by rw [add_at x _ 4 (by decide)]; exact (hBw.cell (p := x.add (k * 5 + 4)) (by rw [add_block]; exact hxb)).trans q4
        go_wp2_with (first
          | (go_at_call 8; with_reducible refine (post_any _ _ n m _ v xs D (dy k) (am k) (db k) (cr k) (me k) _ (by unfold maxLen; omega) (by omega) wd wc wa bk).mono ?_; rintro e w3 ⟨rfl, hB3, hno, hyes⟩)
          | go_in)
        go_roundw
        case rel =>
          by_cases hr : mayR D (dy k) (am k) (db k) (cr k) = 0
          · obtain ⟨v', bk', hF', hO'⟩ := hyes hr
            have ht' := tot_putE (bk.map.tidy law9) (db k) (cr k) (am k)
            exact ⟨k + 1, n + 1 + 1, m + 1, v', _, _, by simp, by omega, by omega, by omega, bk', by omega, hBw.trans hB3⟩
          · exact ⟨k + 1, n, m, v, xs, D, by simp, by omega, by omega, by omega, bk.kept (grown_of_below (hno hr)), ht, hBw.trans hB3⟩
        case measure => simp [RowKit.intOf]; omega
      · have hsz : Maps.size D ≤ 1000000 := Nat.le_trans bk.map.size_le (by omega)
        go_wp2_with (first
          | (go_at_call 9; with_reducible refine (accounts _ _ n D _ bk.c1 bk.map hsz).mono ?_; rintro e w4 ⟨v6, ss, rfl, hS, hrow, hb4⟩)
          | go_in)
        obtain ⟨a6, cap6, rfl, h6⟩ := row_form hrow
        have bk4 := bk.kept (grown_of_below hb4)
        have hsum : sumK D (ss.mergeSort (fun x y => decide (x ≤ y))) = tot D := by
          rw [sumK_perm D ((List.mergeSort_perm ss _).trans hS)]
          obtain ⟨es, rfl, hp, hk'⟩ := bk.map.entries law9
          exact sumK_all hp (keys_str bk.map)
        have hlen6 : ss.length ≤ 1000000 := by rw [hS.length_eq, strKeys_length]; exact hsz
        generalize hks : ss.mergeSort (fun x y => decide (x ≤ y)) = ks at hsum h6
        have hlk : ks.length = ss.length := by rw [← hks, List.length_mergeSort]
        have hkl : ∀ x ∈ ks, x.length ≤ maxLen := fun x hx => strKeys_le bk.map Try.underlying9 x (hS.mem_iff.1 ((List.mergeSort_perm ss _).mem_iff.1 (by rw [hks]; exact hx)))
        go_loopw [5, 7] (fun v5 v7 wx => ∃ (j : Nat) (t : Int), v7 = .int .i64 j ∧ v5 = .int .i64 t ∧ j ≤ ss.length ∧ (Lit.int .i64 t).wf = true ∧ (t - sumK D (ks.take j)) % 18446744073709551616 = 0 ∧ wx = w4) (fun _ i _ => ss.length - (RowKit.intOf i).toNat)
        case atStart => exact ⟨0, 0, rfl, rfl, by omega, by decide, by simp [sumK], rfl⟩
        case round =>
          obtain ⟨j, t, rfl, rfl, hj, hwt, hst, rfl⟩ := hrel
          by_cases hlj : j < ss.length
          · obtain ⟨g, rfl, hc⟩ := h6 j hlj
            have hjk : j < ks.length := by omega
            go_wp2_with (first
              | (go_at_call 10; with_reducible refine (balanceE _ _ n D (ks[j]'hjk) _ bk4.c1 bk4.map (hkl _ (List.getElem_mem hjk))).mono ?_; rintro e w5 ⟨c, rfl, hat, rfl⟩)
              | go_in)
            go_roundw
            case rel =>
              refine ⟨j + 1, _, by simp, rfl, by omega, wrap64_wf _, ?_, by first | rfl | trivial⟩
              rw [List.take_succ_eq_append_getElem hjk, sumK_snoc]
              have hc' : num (D.atKey (.string (ks[j]'hjk)) (.lit (.int .i64 0))) = c := by rw [hat]; rfl
              rw [hc']
              unfold wrap64
              omega
            case measure => simp [RowKit.intOf]; omega
          · have hw := wf_bd hwt
            have htk : ks.take j = ks := List.take_of_length_le (by omega)
            rw [htk, hsum] at hst
            have ht0 : t = 0 := by omega
            subst ht0
            go_wp2_with (first
              | (go_at_call 11; with_reducible refine (trial _ _ n D _ bk4.c1 bk4.map).mono ?_; rintro e w5 ⟨u, d, rfl, hwu, hwd, hud, hg5⟩)
              | go_in)
            go_ret
            have h1 := wf_bd hwu
            have h2 := wf_bd hwd
            have hud' : u = d := by omega
            refine ⟨by rw [hud']; simp, ?_⟩
            have hz := (hBw.trans (hb4.mono bk.b3))
            exact hz.grown hg5 bk4.b3 (fun k hk => by cases hk)
end Go.Bk
