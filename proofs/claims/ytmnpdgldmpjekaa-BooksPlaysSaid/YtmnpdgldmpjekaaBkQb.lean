/- BkQ4: the reference's PostEntry, taken. -/
import Derived.Test.YtmnpdgldmpjekaaBkQa
import Derived.Deep.RegionHeldLaw
import Derived.Deep.AppendLies
import Derived.Deep.RegionLaw
import Derived.BigRegion
import Derived.RegionTactic
import Derived.Laws.OwnMore
namespace Go.Bk
open Go Go.Maps Go.RowKit Go.Proofs
set_option linter.unusedVariables false

theorem step_append_none {P : Program} {ops : Array Oper} {o : Oper} {a : Act} {w : World} {K : Act → World → Prop} {Q : Exit → Act → World → Prop} {E : Prop} (hgd : o.guard = none) (s x : Operand) (t : TypeId)
    (ho : o.op = .call { callee := .builtin .append, args := #[s, x], argTypes := #[t, t] })
    (base : Nat) (e : TypeId) (i : TypeInfo) (size : Nat) (ht : P.underlying t = some (.slice e)) (hi : P.info? e = some i)
    (v : Value) (n : Nat) (xs : List Value) (hs : a.eval s = v) (hown : w.ownsRow base e size v n xs) (hx : a.eval x = .slice none 0 0)
    (h : K (a.put o.dst v) w) : if Region.wanted o (yielded ops a.tmps) = true then Oper.wp P o a w K Q else E := by
  have hw : Region.wanted o (yielded ops a.tmps) = true := by simp [Region.wanted, hgd]
  rw [if_pos hw]
  have hrun := run_append_owned_none (P := P) (w := w) base t o.type e i size ht hi v n xs hown
  unfold Oper.wp
  simp [execOp, ho, resolve, invoke, builtin, hs, hx, hrun, Result.andThen]
  exact h
theorem hat {W : World} {o : Obj} {g : Nat} (h : g = W.heap.size) : (W.alloc o).heap[g]? = some o := h ▸ (MapKept.heap_alloc W o).1
theorem two {X : World} {n : Nat} (hX : X.heap.size = n) (o o' : Obj) : ((X.alloc o).alloc o').heap[n]? = some o ∧ ((X.alloc o).alloc o').heap[n + 1]? = some o' :=
  ⟨((MapKept.heap_alloc _ _).2 _ (by simp; omega)).trans (hat hX.symm), hat (by simp; omega)⟩
theorem row0 {W : World} {B g : Nat} (hg : W.heap[g]? = some (.cells #[] 42)) (hB : B ≤ g) : W.ownsRow B 42 5 (.slice (some ⟨g, 0, none⟩) 0 0) 0 [] :=
  ⟨by simp, .inr ⟨g, 0, #[], rfl, hB, hg, Nat.le_refl _, Nat.zero_le _, rfl, rfl⟩⟩
theorem RowV.of_own {w : World} {B n : Nat} {v : Value} {es : List En} (h : w.ownsRow B 42 5 v n (encL es)) (hn : n = es.length ∧ 0 < es.length) : RowV w v es := by
  obtain ⟨rfl, hp⟩ := hn
  rcases h.2 with ⟨_, e⟩ | ⟨g, cap, cur, rfl, hb, hg, h1, h2, h3, h4⟩
  · omega
  · refine .inr ⟨g, cap, rfl, hp, (Array.getElem?_eq_some_iff.1 hg).1, fun j u hj => ?_⟩
    have : cur.toList[j]? = some u := by
      rw [← h4, List.getElem?_take] at hj
      split at hj
      · exact hj
      · cases hj
    have z := World.news_of_block hg j u this
    rw [Addr.add_lit, Nat.zero_add] at z
    exact z
theorem info42 : (Try.prog.info? 42).map (fun i => (i.zero, i.size, i.bytes)) = some (some (.agg #[.int .i64 0, .string ⟨#[]⟩, .string ⟨#[]⟩, .int .i64 0, .string ⟨#[]⟩]), 5, 64) := by kernel_rfl

variable {v : Value} {es : List En} {w : World} (h : RowV w v es) (e : En) (hm : es.length < 1000000)
include h hm in
set_option maxHeartbeats 8000000 in
theorem pe_11a (b1 : ¬ (e.db.size : Int) < 1) (b2 : ¬ (e.db.size : Int) > 32) (b3 : ¬ (e.cr.size : Int) < 1) (b4 : ¬ (e.cr.size : Int) > 32) (b5 : (e.db.toList == e.cr.toList) = false) (b6 : ¬ e.am < 1) (b7 : ¬ e.am > 4503599627370496) (b8 : (decide (0 ≤ e.dy) && decide (e.dy ≤ 109572)) = true) (g1 : (decide (wrap64 (balW es e.db + e.am) > 4611686018427387904)) = false) (g2 : ¬ wrap64 (balW es e.cr - e.am) < -4611686018427387904) (hv : v = .slice none 0 0) (he : es = []) :
    Calls Try.prog 14 #[v, .agg e.cells.toArray] w fun ee w' => ∃ v', ee = .returned (.tuple #[v', .int .i64 0]) ∧ RowV w' v' (es ++ [e]) ∧ (∀ k, v'.ownBlock = some k → w.heap.size ≤ k) ∧ Below w.heap.size w w' := by
  have h0 : RowV (w.alloc (.cells #[.int .i64 e.dy, .string e.db, .string e.cr, .int .i64 e.am, .string e.me] 42)) v es := h.below ((Below.refl _ _).alloc (Nat.le_refl _) _)
  have hq : ∀ n, RowV ((w.alloc (.cells #[.int .i64 e.dy, .string e.db, .string e.cr, .int .i64 e.am, .string e.me] 42)).drewN n) v es := fun n => h0
  subst hv
  subst he
  have hbd := fun W => refBal (w := W) (h := (.inl ⟨rfl, rfl⟩ : RowV W (.slice none 0 0) [])) e.db hm
  have hbc := fun W => refBal (w := W) (h := (.inl ⟨rfl, rfl⟩ : RowV W (.slice none 0 0) [])) e.cr hm
  obtain ⟨i0, hi, hz0, hz1, hz2⟩ := info_parts info42
  have hX : ∀ q, ((w.alloc (.cells #[.int .i64 e.dy, .string e.db, .string e.cr, .int .i64 e.am, .string e.me] 42)).drewN q).heap.size = w.heap.size + 1 := fun q => by simp
  have hle : w.heap.size ≤ w.heap.size + 1 := Nat.le_succ _
  have hle2 : w.heap.size ≤ w.heap.size + 1 + 1 := by omega
  have hle3 : ∀ q o o', w.heap.size ≤ ((((w.alloc (.cells #[.int .i64 e.dy, .string e.db, .string e.cr, .int .i64 e.am, .string e.me] 42)).drewN q).alloc o).alloc o').heap.size := fun q o o' => by simp <;> omega
  have h05 : 0 < 5 := by decide
  have h01 : 0 < 1 := by decide
  have hone : ∀ u ∈ ([.int .i64 e.dy, .string e.db, .string e.cr, .int .i64 e.am, .string e.me] : List Value), u.oneCell' = true := fun u hu => encL_one [e] u (by simpa [encL, En.cells] using hu)
  have hml : 0 + 1 ≤ maxLen := by decide
  have hby : (0 + 1) * 64 ≤ 140737488355328 := by decide
  show Calls Try.prog 14 #[_, .agg #[.int .i64 e.dy, .string e.db, .string e.cr, .int .i64 e.am, .string e.me]] w _
  go_enter Try.func14, Try.ntmps14
  go_wp2_with (first
    | (go_at_call 23; with_reducible refine (refDay e.dy _).mono ?_; rw [b8]; rintro ee w1 ⟨rfl, rfl⟩)
    | go_in)
  go_quiet (first
    | (go_at_call_of 24 (Value.string e.db); exact Calls.quiet_of_same (hbd _))
    | (go_at_call_of 24 (Value.string e.cr); exact Calls.quiet_of_same (hbc _)))
  go_wp2
  go_region_law (first
    | (refine step_append_lies _ rfl _ _ _ rfl w.heap.size 42 i0 _ 5 64 Try.underlying39 hi hz0 hz1 hz2 rfl h05 (.slice (some ⟨w.heap.size + 1, 0, none⟩) 0 0) 0 [] rfl (row0 (two (hX _) _ _).1 hle) _ 1 1 [.int .i64 e.dy, .string e.db, .string e.cr, .int .i64 e.am, .string e.me] rfl rfl (World.news_of_block (two (hX _) _ _).2) hone h01 hml hby (hle3 _ _ _) _ rfl ?_; intro g cap w2 hown2 hgrow2 hat2 hlt2)
    | (refine step_append_lies _ rfl _ _ _ rfl w.heap.size 42 i0 _ 5 64 Try.underlying39 hi hz0 hz1 hz2 rfl h05 (.slice (some ⟨w.heap.size + 1 + 1, 0, none⟩) 0 0) 0 [] rfl (row0 (two (hX _) _ _).2 hle2) _ 1 1 [.int .i64 e.dy, .string e.db, .string e.cr, .int .i64 e.am, .string e.me] rfl rfl (World.news_of_block (two (hX _) _ _).1) hone h01 hml hby (hle3 _ _ _) _ rfl ?_; intro g cap w2 hown2 hgrow2 hat2 hlt2))
  all_goals
    have hB2 : Below w.heap.size w w2 := by
      refine Below.grown ?_ hgrow2 (hle3 _ _ _) (fun k hk => by simp [Value.ownBlock] at hk; omega)
      exact ((below_drewN ((Below.refl _ _).alloc (Nat.le_refl _) _) _).alloc (by simp <;> omega) _).alloc (by simp <;> omega) _
    have hg2 : w.heap.size ≤ g := by
      rcases hat2 with h | h
      · simp [Value.ownBlock] at h; omega
      · rw [h]; exact hle3 _ _ _
    clear hgrow2 hat2 hle3
    go_wp2
    go_ret2
    exact ⟨.slice (some ⟨g, 0, none⟩) (0 + 1) cap, rfl, RowV.of_own (es := [e]) (by simpa [encL, encL_append, En.cells] using hown2) (by simp), fun k hk => by simp [Value.ownBlock] at hk; omega, hB2⟩
end Go.Bk
