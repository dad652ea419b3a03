/- BkP10: Len, the two clones, Copy. -/
import Derived.Test.YtmnpdgldmpjekaaBkP7
import Derived.Test.YtmnpdgldmpjekaaBkIterC
import Derived.WalkSpells
import Derived.Deep.RegionHeld3
namespace Go.Bk
open Go Go.Maps Go.RowKit Go.Proofs
set_option linter.unusedVariables false

theorem row_val {w : World} {B m : Nat} {v : Value} {xs : List Value} (h : w.ownsRow B 29 5 v m xs) : (v = .slice none 0 0 ∧ m = 0) ∨ ∃ g cap cur, v = .slice (some ⟨g, 0, none⟩) m cap ∧ w.heap[g]? = some (.cells cur 29 (0, 0)) ∧ cur.size = cap * 5 ∧ m ≤ cap ∧ cur.toList.take (m * 5) = xs := by
  rcases h.2 with h | ⟨g, cap, cur, rfl, _, hg, h1, _, h3, h4⟩
  · exact .inl h
  · exact .inr ⟨g, cap, cur, rfl, hg, h3, h1, h4⟩

theorem len_is {sb bm n m B : Nat} {v : Value} {xs : List Value} {D : DataW Unit} {w : World} (bk : Books B sb bm n m v xs D w) :
    Calls Try.prog 12 #[.pointer (some ⟨sb, 0, none⟩)] w fun e w' => e = .returned (.int .i64 m) ∧ w' = w := by
  have c0 := bk.c0
  rcases row_val bk.row with ⟨rfl, rfl⟩ | ⟨g, cap, cur, rfl, _⟩
  · go_enter Try.func12, Try.ntmps12
    go_wp2
    go_ret
    exact ⟨rfl, rfl⟩
  · go_enter Try.func12, Try.ntmps12
    go_wp2
    go_ret
    exact ⟨rfl, rfl⟩

theorem cloneM {bm n : Nat} {D : DataW Unit} {w : World} (hown : w.ownsMap Try.prog 9 (plainElem Try.prog 2) bm n D) :
    Calls Try.prog 32 #[.map (some bm)] w fun e w' => e = .returned (.map (some w.heap.size)) ∧ w'.ownsMap Try.prog 9 (plainElem Try.prog 2) w.heap.size n D ∧ w'.ownsMap Try.prog 9 (plainElem Try.prog 2) bm n D ∧ Below w.heap.size w w' :=
  AnyW.maps_Clone_owns Try.clone32 9 _ bm n D w hown

theorem cloneS {B m : Nat} {v : Value} {xs : List Value} {w : World} (hrow : w.ownsRow B 29 5 v m xs) (hm : v = .slice none 0 0 ∨ 0 < m) (hmm : m < 1000000) (h1 : ∀ u ∈ xs, u.oneCell' = true) :
    Calls Try.prog 26 #[v] w fun e w' => ∃ a' c', e = .returned (.slice a' m c') ∧ w'.ownsRow w.heap.size 29 5 (.slice a' m c') m xs ∧ (.slice a' m c' = Value.slice none 0 0 ∨ 0 < m) ∧ Below w.heap.size w w' := by
  obtain ⟨i0, hi, hz0, hz1, hz2⟩ := info_parts info29
  have q22 : ∀ (w : World) (a : Option Addr) (n c n' c' : Nat), (binOp .eql 22 (.slice a n c) (.slice none n' c')).run Try.prog w = .ok (.bool a.isNone) w := fun w a n c n' c' => Lib.run_eql_slice_nil w 22 29 a n c n' c' Try.underlying22
  rcases row_val hrow with ⟨rfl, rfl⟩ | ⟨g, cap, cur, rfl, hg, hcs, hmc, hxs⟩
  · go_enter Try.func26, Try.ntmps26
    go_wp2
    go_ret
    have : xs = [] := List.eq_nil_of_length_eq_zero (by simpa using hrow.1)
    subst this
    exact ⟨none, 0, rfl, World.ownsRow_nil _ _ _ _, by first | exact .inl rfl | exact rfl | simp, Below.refl _ _⟩
  · have hm0 : 0 < m := by rcases hm with h | h; · cases h
                           · exact h
    have hcells : ∀ j u, xs[j]? = some u → (w.alloc (.cells #[] 29)).cell? ((⟨g, 0, none⟩ : Addr).add j) = some u := by
      intro j u hj
      have hlt : g < w.heap.size := (Array.getElem?_eq_some_iff.1 hg).1
      have hb : (w.alloc (.cells #[] 29)).heap[g]? = some (.cells cur 29 (0, 0)) := (Below.heap_alloc w _ g hlt).trans hg
      refine World.news_of_block hb j u ?_
      rw [← hxs, List.getElem?_take] at hj
      split at hj
      · exact hj
      · cases hj
    have hlen : xs.length = m * 5 := hrow.1
    have hown0 : (w.alloc (.cells #[] 29)).ownsRow w.heap.size 29 5 (.slice (some ⟨w.heap.size, 0, none⟩) 0 0) 0 [] :=
      ⟨by simp, .inr ⟨w.heap.size, 0, #[], rfl, Nat.le_refl _, (MapKept.heap_alloc w _).1, Nat.le_refl _, Nat.zero_le _, rfl, rfl⟩⟩
    go_enter Try.func26, Try.ntmps26
    go_wp2_with (first
      | (at_builtin; refine wpList_append_lies _ rfl _ _ 22 rfl w.heap.size 29 i0 _ 5 64 Try.underlying22 hi hz0 hz1 hz2 rfl (by decide) (.slice (some ⟨w.heap.size, 0, none⟩) 0 0) 0 [] rfl hown0 ⟨g, 0, none⟩ m cap xs rfl hlen hcells h1 hm0 (by unfold maxLen; omega) (by omega) (by simp) _ rfl ?_; intro g2 cap2 w2 hown2 hgrow2 hat2 hlt2)
      | go_in)
    go_ret
    refine ⟨some ⟨g2, 0, none⟩, cap2, by simp, ?_, .inr hm0, ?_⟩
    · simpa using hown2
    · exact (((Below.refl w.heap.size w).alloc (Nat.le_refl _) _).grown hgrow2 (by simp) (fun k hk => Nat.le_of_eq (by simpa [Value.ownBlock] using hk)))

theorem s3 {B sb bm n m : Nat} {v : Value} {xs : List Value} {D : DataW Unit} {w : World} (h : Books B sb bm n m v xs D w) :
    w.cell? ⟨sb, 0, none⟩ = some v ∧ w.cell? ⟨sb, 0 + 1, none⟩ = some (.map (some bm)) ∧ Books B sb bm n m v xs D w := ⟨h.c0, h.c1, h⟩

set_option maxHeartbeats 4000000 in
theorem copy_is {sb bm n m B : Nat} {v : Value} {xs : List Value} {D : DataW Unit} {w : World} (bk : Books B sb bm n m v xs D w) (hm : v = .slice none 0 0 ∨ 0 < m) (hmm : m < 1000000) (h1 : ∀ u ∈ xs, u.oneCell' = true) :
    Calls Try.prog 22 #[.pointer (some ⟨sb, 0, none⟩)] w fun e w' => ∃ sb' bm' v', e = .returned (.pointer (some ⟨sb', 0, none⟩)) ∧ Books w.heap.size sb' bm' n m v' xs D w' ∧ (v' = .slice none 0 0 ∨ 0 < m) ∧ Below w.heap.size w w' := by
  have g0 := s3 bk
  go_enter Try.func22, Try.ntmps22
  go_wp2
  go_region_held3 (fun W => W.cell? ⟨sb, 0, none⟩ = some v ∧ W.cell? ⟨sb, 0 + 1, none⟩ = some (.map (some bm)) ∧ Books B sb bm n m v xs D W) (first | exact s3 (Books.kept (by go_split_ands; assumption) (grown_drew _ _)) | exact s3 (Books.kept (by go_split_ands; assumption) (grown_of_below hbM)) | exact s3 (Books.kept (by go_split_ands; assumption) (grown_of_below hbS)) | exact s3 (Books.kept (by go_split_ands; assumption) (World.grownBy_alloc _ _ _)))
    (first
      | (go_at_call 26; with_reducible refine (cloneS (Books.row (by go_split_ands; assumption)) hm hmm h1).mono ?_; rintro e wS ⟨a1, k1, rfl, hr1, hv1, hbS⟩)
      | (go_at_call 32; with_reducible refine (cloneM (Books.map (by go_split_ands; assumption))).mono ?_; rintro e wM ⟨rfl, hn1, ho1, hbM⟩))
  go_wp2
  go_ret
  have z1 : w.heap.size ≤ wS.heap.size := hbS.size
  have z2 : wS.heap.size ≤ wM.heap.size := hbM.size
  have hlt : ∀ k, (Value.slice a1 m k1).ownBlock = some k → k < wS.heap.size := by
    intro k hk
    rcases row_val hr1 with ⟨e, _⟩ | ⟨g, cap, cur, e, hg, _⟩
    · rw [e] at hk; cases hk
    · rw [e] at hk; cases hk; exact (Array.getElem?_eq_some_iff.1 hg).1
  refine ⟨wM.heap.size, wS.heap.size, .slice a1 m k1, rfl, ⟨(MapKept.heap_alloc wM _).1, (hr1.kept (grown_of_below hbM) (Classical.em _)).alloc _, hn1.alloc _, ?_, ?_, by omega, by omega, by simp; omega⟩, hv1, ?_⟩
  · intro e; have := hlt _ e; omega
  · intro e; have := hlt _ e; omega
  · exact ((((Below.refl w.heap.size w).drew.trans hbS).trans (hbM.mono z1)).alloc (Nat.le_trans z1 z2) _)
end Go.Bk
