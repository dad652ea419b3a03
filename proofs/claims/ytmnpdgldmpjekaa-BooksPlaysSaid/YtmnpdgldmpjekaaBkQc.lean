/- BkQ5: the reference's PostEntry, taken behind others. -/
import Derived.Test.YtmnpdgldmpjekaaBkQb
import Derived.Test.YtmnpdgldmpjekaaBkP7
namespace Go.Bk
open Go Go.Maps Go.RowKit Go.Proofs
set_option linter.unusedVariables false
theorem two_lt {X : World} {n : Nat} (hX : X.heap.size = n) (o o' : Obj) : n < ((X.alloc o).alloc o').heap.size ∧ n + 1 < ((X.alloc o).alloc o').heap.size := by
  subst hX; simp <;> omega
theorem bx1 {X : World} {k : Nat} {c : Obj} (h : X.heap[k]? = some c) (o : Obj) : (X.alloc o).heap[k]? = some c := ((MapKept.heap_alloc X o).2 _ (Array.getElem?_eq_some_iff.1 h).1).trans h
theorem grown_keep {W w2 : World} {k : Nat} {c : Obj} {row : Option Nat} (h : W.heap[k]? = some c) (hg : W.grownBy w2 row) (hne : some k ≠ row) : w2.heap[k]? = some c := (hg.block _ (Array.getElem?_eq_some_iff.1 h).1 hne).trans h
theorem bcell {w : World} {g : Nat} {cs : Array Value} {t : TypeId} {fz : Nat × Nat} (h : w.heap[g]? = some (.cells cs t fz)) (i : Nat) {u : Value} (e : cs[i]? = some u) : w.cell? ⟨g, i, none⟩ = some u := by simp [World.cell?, h, e]
theorem own_row {B n a b : Nat} (h : B ≤ n) : ∀ k, (Value.slice (some ⟨n, 0, none⟩) a b).ownBlock = some k → B ≤ k := fun k hk => by simp [Value.ownBlock] at hk; omega
theorem own_ne {n k a b : Nat} (h : k ≠ n) : some k ≠ (Value.slice (some ⟨n, 0, none⟩) a b).ownBlock := fun hk => h (by simpa [Value.ownBlock] using hk)
theorem own_ge {B n g H : Nat} (hat : (Value.slice (some ⟨n, 0, none⟩) 0 0).ownBlock = some g ∨ g = H) (hn : B ≤ n) (hH : B ≤ H) : B ≤ g := by
  rcases hat with h | h
  · simp [Value.ownBlock] at h; omega
  · omega
variable {es : List En} {w : World} (e : En) (hm : es.length < 1000000)
include hm in
set_option maxHeartbeats 16000000 in
theorem pe_11b (gl cap : Nat) (h : RowV w (.slice (some ⟨gl, 0, none⟩) es.length cap) es) (hp : 0 < es.length) (b1 : ¬ (e.db.size : Int) < 1) (b2 : ¬ (e.db.size : Int) > 32) (b3 : ¬ (e.cr.size : Int) < 1) (b4 : ¬ (e.cr.size : Int) > 32) (b5 : (e.db.toList == e.cr.toList) = false) (b6 : ¬ e.am < 1) (b7 : ¬ e.am > 4503599627370496) (b8 : (decide (0 ≤ e.dy) && decide (e.dy ≤ 109572)) = true) (g1 : (decide (wrap64 (balW es e.db + e.am) > 4611686018427387904)) = false) (g2 : ¬ wrap64 (balW es e.cr - e.am) < -4611686018427387904) :
    Calls Try.prog 14 #[.slice (some ⟨gl, 0, none⟩) es.length cap, .agg e.cells.toArray] w fun ee w' => ∃ v', ee = .returned (.tuple #[v', .int .i64 0]) ∧ RowV w' v' (es ++ [e]) ∧ (∀ k, v'.ownBlock = some k → w.heap.size ≤ k) ∧ Below w.heap.size w w' := by
  have h0 : RowV (w.alloc (.cells #[.int .i64 e.dy, .string e.db, .string e.cr, .int .i64 e.am, .string e.me] 42)) (.slice (some ⟨gl, 0, none⟩) es.length cap) es := h.below ((Below.refl _ _).alloc (Nat.le_refl _) _)
  have hbd := fun q => refBal (w := (w.alloc (.cells #[.int .i64 e.dy, .string e.db, .string e.cr, .int .i64 e.am, .string e.me] 42)).drewN q) h0 e.db hm
  have hbc := fun q => refBal (w := (w.alloc (.cells #[.int .i64 e.dy, .string e.db, .string e.cr, .int .i64 e.am, .string e.me] 42)).drewN q) h0 e.cr hm
  obtain ⟨i0, hi, hz0, hz1, hz2⟩ := info_parts info42
  have hX : ∀ q, ((w.alloc (.cells #[.int .i64 e.dy, .string e.db, .string e.cr, .int .i64 e.am, .string e.me] 42)).drewN q).heap.size = w.heap.size + 1 := fun q => by simp
  have bX : ∀ q, Below w.heap.size w ((w.alloc (.cells #[.int .i64 e.dy, .string e.db, .string e.cr, .int .i64 e.am, .string e.me] 42)).drewN q) := fun q => below_drewN ((Below.refl _ _).alloc (Nat.le_refl _) _) q
  have hnw : ∀ W, Below w.heap.size w W → ∀ j u, (encL es)[j]? = some u → W.cell? ((⟨gl, 0, none⟩ : Addr).add j) = some u := by
    intro W hW j u hj
    rcases h with ⟨e, _⟩ | ⟨g, cap', e, _, hg, hc⟩
    · cases e
    · cases e
      rw [Addr.add_lit, Nat.zero_add]
      exact (hW.cell (p := ⟨gl, j, none⟩) hg).trans (hc j u hj)
  have hle : w.heap.size ≤ w.heap.size + 1 := Nat.le_succ _
  have hle2 : w.heap.size ≤ w.heap.size + 1 + 1 := by omega
  have xbox : ∀ q, ((w.alloc (.cells #[.int .i64 e.dy, .string e.db, .string e.cr, .int .i64 e.am, .string e.me] 42)).drewN q).heap[w.heap.size]? = some (.cells #[.int .i64 e.dy, .string e.db, .string e.cr, .int .i64 e.am, .string e.me] 42) := fun q => hat rfl
  have hne2 : w.heap.size ≠ w.heap.size + 1 + 1 := by omega
  have h05 : 0 < 5 := by decide
  have h01 : 0 < 1 := by decide
  have hone : ∀ u ∈ ([.int .i64 e.dy, .string e.db, .string e.cr, .int .i64 e.am, .string e.me] : List Value), u.oneCell' = true := fun u hu => encL_one [e] u (by simpa [encL, En.cells] using hu)
  have hml : 0 + es.length ≤ maxLen := by unfold maxLen; omega
  have hby : (0 + es.length) * 64 ≤ 140737488355328 := by omega
  have hml2 : es.length + 1 ≤ maxLen := by unfold maxLen; omega
  have hby2 : (es.length + 1) * 64 ≤ 140737488355328 := by omega
  show Calls Try.prog 14 #[_, .agg #[.int .i64 e.dy, .string e.db, .string e.cr, .int .i64 e.am, .string e.me]] w _
  go_enter Try.func14, Try.ntmps14
  go_wp2_with (first
    | (go_at_call 23; with_reducible refine (refDay e.dy _).mono ?_; rw [b8]; rintro ee w1 ⟨rfl, rfl⟩)
    | go_in)
  go_quiet (first
    | (go_at_call_of 24 (Value.string e.db); exact Calls.quiet_of_same (hbd _))
    | (go_at_call_of 24 (Value.string e.cr); exact Calls.quiet_of_same (hbc _)))
  go_wp2
  clear h0 hbd hbc h
  go_region_law (first
    | (refine step_append_lies _ rfl _ _ _ rfl w.heap.size 42 i0 _ 5 64 Try.underlying39 hi hz0 hz1 hz2 rfl h05 (.slice (some ⟨w.heap.size + 1, 0, none⟩) 0 0) 0 [] rfl (row0 (hat (hX _).symm) hle) _ es.length cap (encL es) rfl (encL_length es) (hnw _ ((bX _).alloc (bX _).size _)) (encL_one es) hp hml hby ((bX _).alloc (bX _).size _).size _ rfl ?_; intro g1 cap1 w2 hown1 hgrow1 hat1 hlt1; rw [Nat.zero_add, List.nil_append] at hown1; have hbx := grown_keep (bx1 (xbox _) _) hgrow1 (own_ne (Nat.ne_of_lt (Nat.lt_succ_self _))); have l0 := bcell hbx 0 rfl; have l1 := bcell hbx (0 + 1) rfl; have l2 := bcell hbx (0 + 2) rfl; have l3 := bcell hbx (0 + 3) rfl; have l4 := bcell hbx (0 + 4) rfl; have hB1 : Below w.heap.size w w2 := ((bX _).alloc (bX _).size _).grown hgrow1 ((bX _).alloc (bX _).size _).size (own_row hle); have hg1 : w.heap.size ≤ g1 := own_ge hat1 hle (((bX _).alloc (bX _).size _).size))
    | (refine step_append_lies _ rfl _ _ _ rfl w.heap.size 42 i0 _ 5 64 Try.underlying39 hi hz0 hz1 hz2 rfl h05 (.slice (some ⟨w.heap.size + 1, 0, none⟩) 0 0) 0 [] rfl (row0 (two (hX _) _ _).1 hle) _ es.length cap (encL es) rfl (encL_length es) (hnw _ (((bX _).alloc (bX _).size _).alloc ((bX _).alloc (bX _).size _).size _)) (encL_one es) hp hml hby (((bX _).alloc (bX _).size _).alloc ((bX _).alloc (bX _).size _).size _).size _ rfl ?_; intro g1 cap1 w2 hown1 hgrow1 hat1 hlt1; rw [Nat.zero_add, List.nil_append] at hown1; have hbx := grown_keep (bx1 (bx1 (xbox _) _) _) hgrow1 (own_ne (Nat.ne_of_lt (Nat.lt_succ_self _))); have l0 := bcell hbx 0 rfl; have l1 := bcell hbx (0 + 1) rfl; have l2 := bcell hbx (0 + 2) rfl; have l3 := bcell hbx (0 + 3) rfl; have l4 := bcell hbx (0 + 4) rfl; have hB1 : Below w.heap.size w w2 := (((bX _).alloc (bX _).size _).alloc ((bX _).alloc (bX _).size _).size _).grown hgrow1 (((bX _).alloc (bX _).size _).alloc ((bX _).alloc (bX _).size _).size _).size (own_row hle); have hg1 : w.heap.size ≤ g1 := own_ge hat1 hle ((((bX _).alloc (bX _).size _).alloc ((bX _).alloc (bX _).size _).size _).size); have hE1 := (hgrow1.block _ (two_lt (hX _) _ _).2 (own_ne (Nat.ne_of_gt (Nat.lt_succ_self _)))).trans (two (hX _) _ _).2)
    | (refine step_append_lies _ rfl _ _ _ rfl w.heap.size 42 i0 _ 5 64 Try.underlying39 hi hz0 hz1 hz2 rfl h05 (.slice (some ⟨w.heap.size + 1 + 1, 0, none⟩) 0 0) 0 [] rfl (row0 (two (hX _) _ _).2 hle2) _ es.length cap (encL es) rfl (encL_length es) (hnw _ (((bX _).alloc (bX _).size _).alloc ((bX _).alloc (bX _).size _).size _)) (encL_one es) hp hml hby (((bX _).alloc (bX _).size _).alloc ((bX _).alloc (bX _).size _).size _).size _ rfl ?_; intro g1 cap1 w2 hown1 hgrow1 hat1 hlt1; rw [Nat.zero_add, List.nil_append] at hown1; have hbx := grown_keep (bx1 (bx1 (xbox _) _) _) hgrow1 (own_ne hne2); have l0 := bcell hbx 0 rfl; have l1 := bcell hbx (0 + 1) rfl; have l2 := bcell hbx (0 + 2) rfl; have l3 := bcell hbx (0 + 3) rfl; have l4 := bcell hbx (0 + 4) rfl; have hB1 : Below w.heap.size w w2 := (((bX _).alloc (bX _).size _).alloc ((bX _).alloc (bX _).size _).size _).grown hgrow1 (((bX _).alloc (bX _).size _).alloc ((bX _).alloc (bX _).size _).size _).size (own_row hle2); have hg1 : w.heap.size ≤ g1 := own_ge hat1 hle2 ((((bX _).alloc (bX _).size _).alloc ((bX _).alloc (bX _).size _).size _).size); have hE1 := (hgrow1.block _ (two_lt (hX _) _ _).1 (own_ne (Nat.ne_of_lt (Nat.lt_succ_self _)))).trans (two (hX _) _ _).1)
    | (refine step_append_lies _ rfl _ _ _ rfl w.heap.size 42 i0 _ 5 64 Try.underlying39 hi hz0 hz1 hz2 rfl h05 (.slice (some ⟨g1, 0, none⟩) es.length cap1) es.length (encL es) rfl (hown1.alloc _) _ 1 1 [.int .i64 e.dy, .string e.db, .string e.cr, .int .i64 e.am, .string e.me] rfl rfl (World.news_of_block (hat rfl)) hone h01 hml2 hby2 (hB1.alloc hB1.size _).size _ rfl ?_; intro g cap' w3 hown2 hgrow2 hat2 hlt2)
    | (refine step_append_lies _ rfl _ _ _ rfl w.heap.size 42 i0 _ 5 64 Try.underlying39 hi hz0 hz1 hz2 rfl h05 (.slice (some ⟨g1, 0, none⟩) es.length cap1) es.length (encL es) rfl (hown1) _ 1 1 [.int .i64 e.dy, .string e.db, .string e.cr, .int .i64 e.am, .string e.me] rfl rfl (World.news_of_block hE1) hone h01 hml2 hby2 hB1.size _ rfl ?_; intro g cap' w3 hown2 hgrow2 hat2 hlt2))
  all_goals
    have hB2 : Below w.heap.size w w3 := by
      refine Below.grown ?_ hgrow2 (by first | exact hB1.size | exact (hB1.alloc hB1.size _).size) (fun k hk => by simp [Value.ownBlock] at hk; omega)
      first | exact hB1 | exact hB1.alloc hB1.size _
    have hg2 : w.heap.size ≤ g := by
      rcases hat2 with h | h
      · simp [Value.ownBlock] at h; omega
      · rw [h]; first | exact hB1.size | exact (hB1.alloc hB1.size _).size
    clear hgrow2 hat2 hgrow1 hat1 bX hX hnw
    go_wp2
    go_ret2
    exact ⟨.slice (some ⟨g, 0, none⟩) (es.length + 1) cap', rfl, RowV.of_own (es := es ++ [e]) (by simpa [encL, encL_append, En.cells] using hown2) (by simp), fun k hk => by simp [Value.ownBlock] at hk; omega, hB2⟩
end Go.Bk

namespace Go.Bk
open Go Go.Maps Go.RowKit Go.Proofs
set_option linter.unusedVariables false

/-- What PostEntry's answer is. -/
def mayL (es : List En) (e : En) : Int :=
  if okName e.db = true ∧ okName e.cr = true ∧ (e.db.toList == e.cr.toList) = false ∧ ¬ e.am < 1 ∧ ¬ e.am > 4503599627370496 then
    if ¬ e.dy < 0 ∧ ¬ e.dy > 109572 then (if wrap64 (balW es e.db + e.am) > 4611686018427387904 ∨ wrap64 (balW es e.cr - e.am) < -4611686018427387904 then 10 else 0) else 12
  else 1
theorem okName_iff (x : ByteArray) : okName x = true ↔ ¬ (x.size : Int) < 1 ∧ ¬ (x.size : Int) > 32 := by
  unfold okName
  simp only [Bool.and_eq_true, decide_eq_true_eq]
  omega

theorem postEntry {v : Value} {es : List En} {w : World} (h : RowV w v es) (e : En) (hm : es.length < 1000000) :
    Calls Try.prog 14 #[v, .agg e.cells.toArray] w fun ee w' => ∃ v', ee = .returned (.tuple #[v', .int .i64 (mayL es e)]) ∧ Below w.heap.size w w' ∧ (mayL es e ≠ 0 → v' = v) ∧
      (mayL es e = 0 → RowV w' v' (es ++ [e]) ∧ ∀ k, v'.ownBlock = some k → w.heap.size ≤ k) := by
  have ref : ∀ r : Int, r ≠ 0 → mayL es e = r → (Calls Try.prog 14 #[v, .agg e.cells.toArray] w fun ee w' => ee = .returned (.tuple #[v, .int .i64 r]) ∧ Below w.heap.size w w') →
      Calls Try.prog 14 #[v, .agg e.cells.toArray] w fun ee w' => ∃ v', ee = .returned (.tuple #[v', .int .i64 (mayL es e)]) ∧ Below w.heap.size w w' ∧ (mayL es e ≠ 0 → v' = v) ∧
      (mayL es e = 0 → RowV w' v' (es ++ [e]) ∧ ∀ k, v'.ownBlock = some k → w.heap.size ≤ k) := fun r hr hmay hc => by
    rw [hmay]
    exact hc.mono fun ee w' ⟨he, hb⟩ => ⟨v, he, hb, fun _ => rfl, fun h => absurd h hr⟩
  by_cases b1 : (e.db.size : Int) < 1
  · exact ref 1 (by decide) (by unfold mayL; rw [if_neg]; rw [okName_iff]; omega) (pe_1 h e b1)
  by_cases b2 : (e.db.size : Int) > 32
  · exact ref 1 (by decide) (by unfold mayL; rw [if_neg]; rw [okName_iff]; omega) (pe_2 h e b1 b2)
  by_cases b3 : (e.cr.size : Int) < 1
  · exact ref 1 (by decide) (by unfold mayL; rw [if_neg]; rw [okName_iff e.cr]; omega) (pe_3 h e b1 b2 b3)
  by_cases b4 : (e.cr.size : Int) > 32
  · exact ref 1 (by decide) (by unfold mayL; rw [if_neg]; rw [okName_iff e.cr]; omega) (pe_4 h e b1 b2 b3 b4)
  cases b5 : (e.db.toList == e.cr.toList) with
  | true => exact ref 1 (by decide) (by unfold mayL; rw [if_neg]; simp [b5]) (pe_5 h e b1 b2 b3 b4 b5)
  | false =>
  by_cases b6 : e.am < 1
  · exact ref 1 (by decide) (by unfold mayL; rw [if_neg]; omega) (pe_6 h e b1 b2 b3 b4 b5 b6)
  by_cases b7 : e.am > 4503599627370496
  · exact ref 1 (by decide) (by unfold mayL; rw [if_neg]; omega) (pe_7 h e b1 b2 b3 b4 b5 b6 b7)
  have k1 : okName e.db = true ∧ okName e.cr = true ∧ (e.db.toList == e.cr.toList) = false ∧ ¬ e.am < 1 ∧ ¬ e.am > 4503599627370496 := ⟨(okName_iff _).2 ⟨b1, b2⟩, (okName_iff _).2 ⟨b3, b4⟩, b5, b6, b7⟩
  cases b8 : (decide (0 ≤ e.dy) && decide (e.dy ≤ 109572)) with
  | false =>
    have k2 : ¬ (¬ e.dy < 0 ∧ ¬ e.dy > 109572) := by
      simp at b8
      omega
    exact ref 12 (by decide) (by unfold mayL; rw [if_pos k1, if_neg k2]) (pe_8 h e b1 b2 b3 b4 b5 b6 b7 b8)
  | true =>
    have k2 : ¬ e.dy < 0 ∧ ¬ e.dy > 109572 := by
      simp at b8
      omega
    by_cases g1 : wrap64 (balW es e.db + e.am) > 4611686018427387904
    · exact ref 10 (by decide) (by unfold mayL; rw [if_pos k1, if_pos k2, if_pos (.inl g1)]) (pe_9 h e hm b1 b2 b3 b4 b5 b6 b7 b8 (decide_eq_true g1))
    by_cases g2 : wrap64 (balW es e.cr - e.am) < -4611686018427387904
    · exact ref 10 (by decide) (by unfold mayL; rw [if_pos k1, if_pos k2, if_pos (.inr g2)]) (pe_10 h e hm b1 b2 b3 b4 b5 b6 b7 b8 (decide_eq_false g1) g2)
    have k3 : mayL es e = 0 := by unfold mayL; rw [if_pos k1, if_pos k2, if_neg (fun h => h.elim g1 g2)]
    rw [k3]
    have fin : (Calls Try.prog 14 #[v, .agg e.cells.toArray] w fun ee w' => ∃ v', ee = .returned (.tuple #[v', .int .i64 0]) ∧ RowV w' v' (es ++ [e]) ∧ (∀ k, v'.ownBlock = some k → w.heap.size ≤ k) ∧ Below w.heap.size w w') := by
      rcases h with ⟨hv, he⟩ | ⟨gl, cap, hv, hp, hg, hc⟩
      · exact pe_11a (.inl ⟨hv, he⟩) e hm b1 b2 b3 b4 b5 b6 b7 b8 (decide_eq_false g1) g2 hv he
      · rw [hv]
        exact pe_11b e hm gl cap (.inr ⟨gl, cap, rfl, hp, hg, hc⟩) hp b1 b2 b3 b4 b5 b6 b7 b8 (decide_eq_false g1) g2
    exact fin.mono fun ee w' ⟨v', he, hr, ho, hb⟩ => ⟨v', he, hb, fun h => absurd rfl h, fun _ => ⟨hr, ho⟩⟩
end Go.Bk
