/- BkP6: Post. -/
import Derived.Test.YtmnpdgldmpjekaaBkP6a
import Derived.StillTailTactics
namespace Go.Bk
open Go Go.Maps Go.RowKit Go.Proofs
open Go.WideMaps (keyOf_string_mk)
set_option linter.unusedVariables false

theorem info29 : (Try.prog.info? 29).map (fun i => (i.zero, i.size, i.bytes)) = some (some (.agg #[.int .i64 0, .string ⟨#[]⟩, .string ⟨#[]⟩, .int .i64 0, .string ⟨#[]⟩]), 5, 64) := by kernel_rfl

abbrev ent (day amt : Int) (db cr memo : ByteArray) : Array Value := #[.int .i64 day, .string db, .string cr, .int .i64 amt, .string memo]

set_option maxHeartbeats 4000000 in
theorem post_refused (sb bm n m B : Nat) (v : Value) (xs : List Value) (D : DataW Unit) (day amt : Int) (db cr memo : ByteArray) (w : World) (r : Int) (hr : r ≠ 0)
    (hm : ∀ w1, w1 = w.alloc (.cells #[.int .i64 day, .string db, .string cr, .int .i64 amt, .string memo] 29) →
      Calls Try.prog 19 #[.pointer (some ⟨sb, 0, none⟩), .agg #[.int .i64 day, .string db, .string cr, .int .i64 amt, .string memo]] w1 fun e w' => e = .returned (.int .i64 r) ∧ Below w1.heap.size w1 w') :
    Calls Try.prog 8 #[.pointer (some ⟨sb, 0, none⟩), .agg #[.int .i64 day, .string db, .string cr, .int .i64 amt, .string memo]] w fun e w' => e = .returned (.int .i64 r) ∧ Below w.heap.size w w' := by
  have hr' : (r == 0) = false := by simpa using hr
  have hr2 : decide (r = 0) = false := decide_eq_false hr
  go_enter Try.func8, Try.ntmps8
  go_wp2_with (first
    | (go_at_call 19; with_reducible refine (hm _ rfl).mono ?_; rintro e w1 ⟨rfl, hb⟩)
    | go_in)
  go_ret
  refine ⟨rfl, ?_⟩
  exact ((Below.refl _ _).alloc (Nat.le_refl _) _).trans (hb.mono (by simp))

theorem row_ge {w : World} {B n : Nat} {v : Value} {xs : List Value} (h : w.ownsRow B 29 5 v n xs) {k : Nat} (hk : v.ownBlock = some k) : B ≤ k := by
  rcases h.2 with ⟨rfl, _⟩ | ⟨g, cap, cur, rfl, hb, _⟩
  · cases hk
  · cases hk; exact hb
set_option maxHeartbeats 8000000 in
theorem post_ok (sb bm n m B : Nat) (v : Value) (xs : List Value) (D : DataW Unit) (day amt : Int) (db cr memo : ByteArray) (w : World) (hn : n + 2 < maxLen) (hmm : m < 1000000)
    (hdb : db.size ≤ maxLen) (hcr : cr.size ≤ maxLen) (bk : Books B sb bm n m v xs D w)
    (hm : ∀ w1, w1 = w.alloc (.cells #[.int .i64 day, .string db, .string cr, .int .i64 amt, .string memo] 29) →
      Calls Try.prog 19 #[.pointer (some ⟨sb, 0, none⟩), .agg #[.int .i64 day, .string db, .string cr, .int .i64 amt, .string memo]] w1 fun e w' => e = .returned (.int .i64 0) ∧ Below w1.heap.size w1 w') :
    Calls Try.prog 8 #[.pointer (some ⟨sb, 0, none⟩), .agg #[.int .i64 day, .string db, .string cr, .int .i64 amt, .string memo]] w fun e w' => e = .returned (.int .i64 0) ∧ Below B w w' ∧ ∃ v1, D.atKey (.string db.data.toList) (.lit (.int .i64 0)) = .lit (.int .i64 v1) ∧ ∃ v2, (D.put (.string db.data.toList) (.lit (.int .i64 (IntKind.i64.wrap (v1 + amt))))).atKey (.string cr.data.toList) (.lit (.int .i64 0)) = .lit (.int .i64 v2) ∧
      ∃ g cap, Books B sb bm (n + 1 + 1) (m + 1) (.slice (some ⟨g, 0, none⟩) (m + 1) cap) (xs ++ [.int .i64 day, .string db, .string cr, .int .i64 amt, .string memo])
        ((D.put (.string db.data.toList) (.lit (.int .i64 (IntKind.i64.wrap (v1 + amt))))).put (.string cr.data.toList) (.lit (.int .i64 (IntKind.i64.wrap (v2 - amt))))) w' ∧
        Fr (fun k => k = sb ∨ k = bm ∨ v.ownBlock = some k) w w' ∧ (v.ownBlock = some g ∨ w.heap.size ≤ g) := by
  have hkd := keyOf_string_mk Try.underlying9 (s := db) hdb
  have hkc := keyOf_string_mk Try.underlying9 (s := cr) hcr
  obtain ⟨i0, hi, hz0, hz1, hz2⟩ := info_parts info29
  go_enter Try.func8, Try.ntmps8
  go_wp2_with (first
    | (go_at_call 19; with_reducible refine (hm _ rfl).mono ?_; rintro e w1 ⟨rfl, hb⟩)
    | go_in)
  have bk1 := (bk.kept (World.grownBy_alloc w (.cells #[.int .i64 day, .string db, .string cr, .int .i64 amt, .string memo] 29) none)).kept (grown_of_below hb)
  have hE : w1.heap[w.heap.size]? = some (.cells #[.int .i64 day, .string db, .string cr, .int .i64 amt, .string memo] 29) := (hb.block _ (by simp)).trans (MapKept.heap_alloc w _).1
  have e0 : w1.cell? ⟨w.heap.size, 0, none⟩ = some (.int .i64 day) := by simp [World.cell?, hE]
  have e1 : w1.cell? ⟨w.heap.size, 0 + 1, none⟩ = some (.string db) := by simp [World.cell?, hE]
  have e2 : w1.cell? ⟨w.heap.size, 0 + 2, none⟩ = some (.string cr) := by simp [World.cell?, hE]
  have e3 : w1.cell? ⟨w.heap.size, 0 + 3, none⟩ = some (.int .i64 amt) := by simp [World.cell?, hE]
  have e4 : w1.cell? ⟨w.heap.size, 0 + 4, none⟩ = some (.string memo) := by simp [World.cell?, hE]
  have c0 := bk1.c0
  have f0 := bk1.f0
  have bkA := fun X => (bk1.kept (grown_drew w1 none)).kept (World.grownBy_alloc w1.drew X none)
  have d0 := (bk1.kept (World.grownBy_alloc w1 (.cells #[.int .i64 day, .string db, .string cr, .int .i64 amt, .string memo] 29) none)).c0
  clear hm
  go_region_law (refine step_append_lies _ rfl _ _ _ rfl B 29 i0 _ 5 64 Try.underlying22 hi hz0 hz1 hz2 rfl (by decide) v m xs rfl ((bk1.row.kept (grown_drew _ _) (Classical.em _)).alloc _) ⟨w1.heap.size, 0, none⟩ 1 1 [.int .i64 day, .string db, .string cr, .int .i64 amt, .string memo] rfl rfl (World.news_of_block (MapKept.heap_alloc _ _).1) (by simp [Value.oneCell']) (by decide) (by unfold maxLen; omega) (by omega) (by simp; have := bk1.b3; omega) _ rfl ?_; intro g cap w2 hown2 hgrow2 hat2 hlt2; have c2 := (hgrow2.cell_far ⟨sb, 0, none⟩ (bkA _).lt (fun e => (bkA (.cells #[] 0)).ne e.symm)).trans (bkA _).c0; have f2 := (hgrow2.frozen_far ⟨sb, 0, none⟩ (bkA _).lt (fun e => (bkA (.cells #[] 0)).ne e.symm)).trans (bkA _).f0)
  all_goals clear hi hz0 hz1 hz2
  all_goals
    have bk3 := Books.stored ((bk1.kept (World.grownBy_alloc w1 (.cells #[.int .i64 day, .string db, .string cr, .int .i64 amt, .string memo] 29) none)).kept (grown_drew _ none)) hown2 hgrow2 hat2
    have hE3 : (w2.setCell ⟨sb, 0, none⟩ (.slice (some ⟨g, 0, none⟩) (m + 1) cap)).heap[w.heap.size]? = some (.cells #[.int .i64 day, .string db, .string cr, .int .i64 amt, .string memo] 29) := by
      have z1 : w.heap.size ≠ sb := by have := bk.lt; omega
      have z2 : w.heap.size < w1.heap.size := (Array.getElem?_eq_some_iff.1 hE).1
      rw [heap_setCell_other w2 _ _ _ z1]
      refine (hgrow2.block _ (by simp; omega) (fun e => ?_)).trans ((MapKept.heap_alloc _ _).2 _ z2 |>.trans hE)
      have := bk.row_lt e.symm
      omega
    have hg3 : w.grownBy (w2.setCell ⟨sb, 0, none⟩ (.slice (some ⟨g, 0, none⟩) (m + 1) cap)) none ∨ True := .inr trivial
    have hB3 : Below B w (w2.setCell ⟨sb, 0, none⟩ (.slice (some ⟨g, 0, none⟩) (m + 1) cap)) := by
      have z1 := (((Below.refl w.heap.size w).alloc (Nat.le_refl _) (.cells #[.int .i64 day, .string db, .string cr, .int .i64 amt, .string memo] 29)).trans (hb.mono (by simp))).mono bk.b3
      have z2 := ((z1.alloc (Nat.le_trans bk.b3 z1.size) (.cells #[.int .i64 day, .string db, .string cr, .int .i64 amt, .string memo] 29))).drew
      refine (z2.grown hgrow2 (Nat.le_trans bk.b3 z2.size) (fun k hk => ?_)).setCell bk.b1 _
      exact row_ge bk.row hk
    have hF3 : Fr (fun k => k = sb ∨ k = bm ∨ v.ownBlock = some k) w (w2.setCell ⟨sb, 0, none⟩ (.slice (some ⟨g, 0, none⟩) (m + 1) cap)) := by
      have y1 : Fr (fun k => k = sb ∨ k = bm ∨ v.ownBlock = some k) w w1 := Fr.of_below (((Below.refl w.heap.size w).alloc (Nat.le_refl _) (.cells #[.int .i64 day, .string db, .string cr, .int .i64 amt, .string memo] 29)).trans (hb.mono (by simp)))
      have y2 : Fr (fun k => k = sb ∨ k = bm ∨ v.ownBlock = some k) w1 (w1.alloc (.cells #[.int .i64 day, .string db, .string cr, .int .i64 amt, .string memo] 29)).drew := Fr.of_below (((Below.refl w1.heap.size w1).alloc (Nat.le_refl _) _).drew)
      exact ((y1.trans y2 (fun _ _ h => h)).trans (Fr.of_grown (S := fun k => k = sb ∨ k = bm ∨ v.ownBlock = some k) hgrow2 (fun k hk => .inr (.inr hk))) (fun _ _ h => h)).trans (Fr.of_grown (S := fun k => k = sb ∨ k = bm ∨ v.ownBlock = some k) (grown_set w2 ⟨sb, 0, none⟩ _) (fun k hk => .inl (by cases hk; rfl))) (fun _ _ h => h)
    have hO3 : v.ownBlock = some g ∨ w.heap.size ≤ g := by
      have z0 : w.heap.size ≤ w1.heap.size := Nat.le_trans (by simp) hb.size
      rcases hat2 with h | h
      · exact .inl h
      · refine .inr ?_
        rw [h]
        simp
        omega
    clear hgrow2 hat2 hlt2 hown2 c2 f2 d0 bkA
    go_wp2
  all_goals
    generalize w2.setCell ⟨sb, 0, none⟩ (.slice (some ⟨g, 0, none⟩) (m + 1) cap) = w3 at bk3 hE3 hB3 hF3 ⊢
    have p1 : w3.cell? ⟨sb, 0 + 1, none⟩ = some (.map (some bm)) := bk3.c1
    have p2 : w3.cell? ⟨w.heap.size, 0 + 1, none⟩ = some (.string db) := by simp [World.cell?, hE3]
    have p3 : w3.cell? ⟨w.heap.size, 0 + 3, none⟩ = some (.int .i64 amt) := by simp [World.cell?, hE3]
    obtain ⟨v1, r1, a1, wf1⟩ := bk3.map.drew.lookup_int law9 Try.underlying48 Try.underlying2 (zero2 _) hkd
    go_still_tail 10, (by kernel_rfl)
  all_goals
    refine wpList_mapUpdate_own w3.drew rfl _ _ _ 48 rfl 9 2 law9 Try.underlying48 _ bm n D rfl bk3.map.drew (by omega) _ _ _ rfl rfl hkd _ [] (plainElem_int Try.underlying2 (i64_wf _)) ?_
    intro w4 hown4 hgrow4
    have bk4 := (bk3.kept (grown_drew _ none)).put hown4 hgrow4
    have hE4 : w4.heap[w.heap.size]? = some (.cells #[.int .i64 day, .string db, .string cr, .int .i64 amt, .string memo] 29) := by
      refine (hgrow4.block _ (Array.getElem?_eq_some_iff.1 hE3).1 (fun e => ?_)).trans hE3
      have := bk.bm_lt
      cases e
      omega
    have hB4 : Below B w w4 := hB3.drew.grown hgrow4 bk3.b3 (fun k hk => by cases hk; exact bk.b2)
    have hF4 : Fr (fun k => k = sb ∨ k = bm ∨ v.ownBlock = some k) w w4 := hF3.trans (Fr.undrew (Fr.of_grown (S := fun k => k = sb ∨ k = bm ∨ v.ownBlock = some k) (w := w3.drew) hgrow4 (fun k hk => .inr (.inl (by cases hk; rfl))))) (fun _ _ h => h)
    clear hgrow4 hown4 r1 p1 p2 p3
    go_wp2
    have p1 : w4.cell? ⟨sb, 0 + 1, none⟩ = some (.map (some bm)) := bk4.c1
    have p2 : w4.cell? ⟨w.heap.size, 0 + 2, none⟩ = some (.string cr) := by simp [World.cell?, hE4]
    have p3 : w4.cell? ⟨w.heap.size, 0 + 3, none⟩ = some (.int .i64 amt) := by simp [World.cell?, hE4]
    obtain ⟨v2, r2, a2, wf2⟩ := bk4.map.drew.lookup_int law9 Try.underlying48 Try.underlying2 (zero2 _) hkc
    go_still_tail 10, (by kernel_rfl)
    refine wpList_mapUpdate_own w4.drew rfl _ _ _ 48 rfl 9 2 law9 Try.underlying48 _ bm (n + 1) _ rfl bk4.map.drew (by omega) _ _ _ rfl rfl hkc _ [] (plainElem_int Try.underlying2 (i64_wf _)) ?_
    intro w5 hown5 hgrow5
    have bk5 := (bk4.kept (grown_drew _ none)).put hown5 hgrow5
    have hB5 : Below B w w5 := hB4.drew.grown hgrow5 bk4.b3 (fun k hk => by cases hk; exact bk.b2)
    have hF5 : Fr (fun k => k = sb ∨ k = bm ∨ v.ownBlock = some k) w w5 := hF4.trans (Fr.undrew (Fr.of_grown (S := fun k => k = sb ∨ k = bm ∨ v.ownBlock = some k) (w := w4.drew) hgrow5 (fun k hk => .inr (.inl (by cases hk; rfl))))) (fun _ _ h => h)
    go_wp2
    go_ret
    exact ⟨rfl, hB5, v1, a1, v2, a2, _, _, bk5, hF5, hO3⟩
end Go.Bk
