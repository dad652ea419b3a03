/- TpT5: TrayPlays. -/
import Derived.Test.YtmmaicjkkcljhaaTpT4
import Derived.Deep.DeepCutAuto
import Derived.Deep.CutBlock
import Derived.Tactics
import Derived.Tactics2
namespace Go.Tp
open Go Go.RowKit Go.Proofs
set_option linter.unusedVariables false

theorem add_block (x : Addr) (n : Nat) : (x.add n).block = x.block := by unfold Addr.add; split <;> rfl
theorem add_at (x : Addr) (n j : Nat) (hj : 0 < j) : (⟨(x.add n).block, (x.add n).off + j, none⟩ : Addr) = x.add (n + j) := by
  unfold Addr.add
  by_cases h : n = 0
  · subst h; simp; omega
  · simp [h]; omega

/-- The calls that came in. -/
structure Acts (w : World) (a : Option Addr) (len : Nat) (op nn : Nat → Int) (lf : Nat → L) : Prop where
  cells : ∀ i, i < len → ∃ x : Addr, a = some x ∧ x.block < w.heap.size ∧ w.cell? (x.add (i * 5 + 0)) = some (.int .i64 (op i)) ∧ w.cell? (x.add (i * 5 + 1)) = some (.int .i64 (nn i)) ∧ w.cell? (x.add (i * 5 + 2)) = some (.string (lf i).s1) ∧
    w.cell? (x.add (i * 5 + 3)) = some (.string (lf i).s2) ∧ w.cell? (x.add (i * 5 + 4)) = some (.bool (lf i).u)
  wf : ∀ i, i < len → (Lit.int .i64 (nn i)).wf = true

/-- What holds at the head of a round. -/
structure St (B0 p cu co : Nat) (w0 : World) (a4 : Option Addr) (c4 : Nat) (a5 : Option Addr) (c5 : Nat) (A B : List L) (cl : Bool) (w : World) : Prop where
  tr : TR p cu co A B cl w
  w4 : Win w a4 A.length c4 A
  w5 : Win w a5 B.length c5 B
  l4 : A.length ≤ 8
  l5 : B.length ≤ 8
  o4 : ∀ g, blk a4 = some g → B0 ≤ g ∧ g ≠ p ∧ g ≠ cu ∧ g ≠ co
  o5 : ∀ g, blk a5 = some g → B0 ≤ g ∧ g ≠ p ∧ g ≠ cu ∧ g ≠ co
  ap : ∀ g, blk a4 = some g → blk a5 ≠ some g
  b1 : B0 ≤ p
  b2 : B0 ≤ cu
  b3 : B0 ≤ co
  b4 : B0 ≤ w.heap.size
  bl : Below B0 w0 w

theorem St.below {B0 p cu co : Nat} {w0 : World} {a4 a5 : Option Addr} {c4 c5 : Nat} {A B : List L} {cl : Bool} {w w' : World} (S : St B0 p cu co w0 a4 c4 a5 c5 A B cl w) (hb : Below w.heap.size w w') : St B0 p cu co w0 a4 c4 a5 c5 A B cl w' :=
  ⟨S.tr.below hb, S.w4.kept hb.size (fun g hg => hb.block g (S.w4.lt hg)), S.w5.kept hb.size (fun g hg => hb.block g (S.w5.lt hg)), S.l4, S.l5, S.o4, S.o5, S.ap, S.b1, S.b2, S.b3, Nat.le_trans S.b4 hb.size, S.bl.trans (hb.mono S.b4)⟩
/-- A call of the tray's has come back. -/
theorem St.fr {B0 p cu co : Nat} {w0 : World} {a4 a5 : Option Addr} {c4 c5 : Nat} {A B A' B' : List L} {cl cl' : Bool} {w w' : World} (S : St B0 p cu co w0 a4 c4 a5 c5 A B cl w) (hF : Fr p cu co w w') (hT : TR p cu co A' B' cl' w') :
    TR p cu co A' B' cl' w' ∧ Win w' a4 A.length c4 A ∧ Win w' a5 B.length c5 B ∧ B0 ≤ w'.heap.size ∧ Below B0 w0 w' :=
  ⟨hT, S.w4.fr hF (fun g hg => (S.o4 g hg).2), S.w5.fr hF (fun g hg => (S.o5 g hg).2), Nat.le_trans S.b4 hF.size, hF.below S.bl S.b1 S.b2 S.b3 S.b4⟩

theorem st_same {B0 p cu co : Nat} {w0 : World} {a4 a5 : Option Addr} {c4 c5 : Nat} {A B : List L} {cl cl' : Bool} {w w' : World} (S : St B0 p cu co w0 a4 c4 a5 c5 A B cl w) (hF : Fr p cu co w w') (hT : TR p cu co A B cl' w') : St B0 p cu co w0 a4 c4 a5 c5 A B cl' w' := by
  obtain ⟨t, x4, x5, hs, hb⟩ := S.fr hF hT
  exact ⟨t, x4, x5, S.l4, S.l5, S.o4, S.o5, S.ap, S.b1, S.b2, S.b3, hs, hb⟩
theorem keepE {E : Nat} {o o' : Obj} {w w3 : World} {a : Option Addr} (hE : w.heap[E]? = some o) (hg : (w.alloc o').grownBy w3 (blk a)) (ha : ∀ g, blk a = some g → g < E) : w3.heap[E]? = some o := by
  have hl : E < w.heap.size := (Array.getElem?_eq_some_iff.1 hE).1
  refine (hg.block E (by simp; omega) (fun e => ?_)).trans ((Below.heap_alloc w o' E hl).trans hE)
  have := ha E e.symm
  omega
theorem own_app {B0 p cu co : Nat} {w : World} {a a3 : Option Addr} {o : Obj} (ho : ∀ g, blk a = some g → B0 ≤ g ∧ g ≠ p ∧ g ≠ cu ∧ g ≠ co) (hp : p < w.heap.size) (hu : cu < w.heap.size) (hc : co < w.heap.size) (hB : B0 ≤ w.heap.size)
    (hb : blk a3 = blk a ∨ ∃ g, blk a3 = some g ∧ (w.alloc o).heap.size ≤ g) : ∀ g, blk a3 = some g → B0 ≤ g ∧ g ≠ p ∧ g ≠ cu ∧ g ≠ co := by
  intro g hg
  rcases hb with e | ⟨g', e, hl⟩
  · exact ho g (by rw [← e]; exact hg)
  · rw [e] at hg
    cases hg
    simp at hl
    omega
theorem st_app4 {B0 p cu co : Nat} {w0 : World} {a4 a5 a3 : Option Addr} {c4 c5 cap3 : Nat} {A B : List L} {l : L} {cl cl' : Bool} {o : Obj} {w w3 w4 : World} (S : St B0 p cu co w0 a4 c4 a5 c5 A B cl w)
    (hW : Win w3 a3 (A.length + 1) cap3 (A ++ [l])) (hg : (w.alloc o).grownBy w3 (blk a4)) (hb : blk a3 = blk a4 ∨ ∃ g, blk a3 = some g ∧ (w.alloc o).heap.size ≤ g) (hF : Fr p cu co w3 w4) (hT : TR p cu co (A ++ [l]) B cl' w4) (hl : A.length < 8) :
    St B0 p cu co w0 a3 cap3 a5 c5 (A ++ [l]) B cl' w4 := by
  have o3 := own_app S.o4 S.tr.p_lt S.tr.cu_lt S.tr.co_lt S.b4 hb
  have x5 : Win w3 a5 B.length c5 B := (S.w5.alloc o).kept hg.size (fun g h5 => hg.block g (by simp; have := S.w5.lt h5; omega) (fun e => S.ap g e.symm h5))
  have hs3 : w.heap.size ≤ w3.heap.size := Nat.le_trans (by simp) hg.size
  have bl3 : Below B0 w0 w3 := (S.bl.alloc S.b4 o).grown hg (by simp; have := S.b4; omega) (fun k hk => (S.o4 k hk).1)
  have e1 : (A ++ [l]).length = A.length + 1 := by simp
  refine ⟨hT, ?_, x5.fr hF (fun g h5 => (S.o5 g h5).2), by rw [e1]; omega, S.l5, o3, S.o5, ?_, S.b1, S.b2, S.b3, Nat.le_trans S.b4 (Nat.le_trans hs3 hF.size), hF.below bl3 S.b1 S.b2 S.b3 (Nat.le_trans S.b4 hs3)⟩
  · rw [e1]; exact hW.fr hF (fun g h3 => (o3 g h3).2)
  · intro g h3 h5
    rcases hb with e | ⟨g', e, hl'⟩
    · exact S.ap g (by rw [← e]; exact h3) h5
    · rw [e] at h3
      cases h3
      have := S.w5.lt h5
      simp at hl'
      omega
theorem st_app5 {B0 p cu co : Nat} {w0 : World} {a4 a5 a3 : Option Addr} {c4 c5 cap3 : Nat} {A B : List L} {l : L} {cl cl' : Bool} {o : Obj} {w w3 w4 : World} (S : St B0 p cu co w0 a4 c4 a5 c5 A B cl w)
    (hW : Win w3 a3 (B.length + 1) cap3 (B ++ [l])) (hg : (w.alloc o).grownBy w3 (blk a5)) (hb : blk a3 = blk a5 ∨ ∃ g, blk a3 = some g ∧ (w.alloc o).heap.size ≤ g) (hF : Fr p cu co w3 w4) (hT : TR p cu co A (B ++ [l]) cl' w4) (hl : B.length < 8) :
    St B0 p cu co w0 a4 c4 a3 cap3 A (B ++ [l]) cl' w4 := by
  have o3 := own_app S.o5 S.tr.p_lt S.tr.cu_lt S.tr.co_lt S.b4 hb
  have x4 : Win w3 a4 A.length c4 A := (S.w4.alloc o).kept hg.size (fun g h4 => hg.block g (by simp; have := S.w4.lt h4; omega) (fun e => S.ap g h4 e.symm))
  have hs3 : w.heap.size ≤ w3.heap.size := Nat.le_trans (by simp) hg.size
  have bl3 : Below B0 w0 w3 := (S.bl.alloc S.b4 o).grown hg (by simp; have := S.b4; omega) (fun k hk => (S.o5 k hk).1)
  have e1 : (B ++ [l]).length = B.length + 1 := by simp
  refine ⟨hT, x4.fr hF (fun g h4 => (S.o4 g h4).2), ?_, S.l4, by rw [e1]; omega, S.o4, o3, ?_, S.b1, S.b2, S.b3, Nat.le_trans S.b4 (Nat.le_trans hs3 hF.size), hF.below bl3 S.b1 S.b2 S.b3 (Nat.le_trans S.b4 hs3)⟩
  · rw [e1]; exact hW.fr hF (fun g h3 => (o3 g h3).2)
  · intro g h4 h3
    rcases hb with e | ⟨g', e, hl'⟩
    · exact S.ap g h4 (by rw [← e]; exact h3)
    · rw [e] at h3
      cases h3
      have := S.w4.lt h4
      simp at hl'
      omega

/-- What holds behind Take or Drain: got holds the first kk letters. -/
structure Mid (B0 p cu co : Nat) (w0 : World) (a4 : Option Addr) (c4 : Nat) (a5 : Option Addr) (c5 : Nat) (A B : List L) (cl : Bool) (kk : Nat) (aa : Option Addr) (cc : Nat) (w : World) : Prop where
  tr : TR p cu co (A.drop kk) (B.drop (kk - A.length)) cl w
  w4 : Win w a4 A.length c4 A
  w5 : Win w a5 B.length c5 B
  hs : B0 ≤ w.heap.size
  bl : Below B0 w0 w
  got : Win w aa kk cc ((A ++ B).take kk)
  hk : kk ≤ A.length + B.length
theorem Win.same {w w' : World} {a : Option Addr} {n cap : Nat} {A : List L} (h : Win w a n cap A) (e : w'.heap = w.heap) : Win w' a n cap A := h.kept (by rw [e]; exact Nat.le_refl _) (fun g _ => by rw [e])
theorem TR.same {p cu co : Nat} {A B : List L} {cl : Bool} {w w' : World} (h : TR p cu co A B cl w) (e : w'.heap = w.heap) : TR p cu co A B cl w' := h.kept (by rw [e]; exact Nat.le_refl _) (fun g _ => by rw [e])

theorem Win.at {w : World} {a : Option Addr} {n cap : Nat} {X : List L} (h : Win w a n cap X) {k : Nat} {l : L} (hk : X[k]? = some l) : ∃ g o, a = some ⟨g, o, none⟩ ∧ w.cell? ⟨g, o + k * 3, none⟩ = some (.string l.s1) ∧ w.cell? ⟨g, o + k * 3 + 1, none⟩ = some (.string l.s2) ∧ w.cell? ⟨g, o + k * 3 + 2, none⟩ = some (.bool l.u) := by
  have hl : k < X.length := (List.getElem?_eq_some_iff.1 hk).1
  have e : X[k] = l := (List.getElem?_eq_some_iff.1 hk).2
  rcases h.2 with ⟨rfl, h0, _⟩ | ⟨g, o, rfl, hg, hn, hc, hf⟩
  · have := h.1; omega
  · refine ⟨g, o, rfl, ?_, ?_, ?_⟩
    · exact hc (k * 3 + 0) _ (by rw [lcs_at X k hl 0 (by omega), e]; rfl)
    · exact hc (k * 3 + 1) _ (by rw [lcs_at X k hl 1 (by omega), e]; rfl)
    · exact hc (k * 3 + 2) _ (by rw [lcs_at X k hl 2 (by omega), e]; rfl)

theorem Win.tail1 {w : World} {g o : Nat} {l : L} {X : List L} {n : Nat} (h : Win w (some ⟨g, o, none⟩) (n + 1) 1 (l :: X)) : Win w (some ⟨g, o, none⟩) n 0 X := by
  have h1 := h.1
  simp at h1
  rcases h.2 with ⟨h0, _⟩ | ⟨g', o', he, hg, hn, hc, hf⟩
  · cases h0
  · cases he
    have : X = [] := List.length_eq_zero_iff.1 (by omega)
    subst this
    exact ⟨h1, .inr ⟨g, o, rfl, hg, by omega, fun j u hj => by simp [lcs] at hj, fun j hj => by omega⟩⟩
theorem Win.tail {w : World} {g o c : Nat} {l : L} {X : List L} {n : Nat} (h : Win w (some ⟨g, o, none⟩) (n + 1) c (l :: X)) : Win w (some ⟨g, o + 3, none⟩) n (c - 1) X := by
  have h1 := h.1
  simp at h1
  rcases h.2 with ⟨h0, _⟩ | ⟨g', o', he, hg, hn, hc, hf⟩
  · cases h0
  · cases he
    refine ⟨h1, .inr ⟨g, o + 3, rfl, hg, by omega, fun j u hj => ?_, fun j hj => ?_⟩⟩
    · have := hc (3 + j) u (by rw [lcs_tail]; exact hj)
      rw [← Nat.add_assoc] at this
      exact this
    · have := hf (3 + j) (by omega)
      rw [← Nat.add_assoc] at this
      exact this
theorem Win.below {w w' : World} {a : Option Addr} {n cap : Nat} {A : List L} (h : Win w a n cap A) (b : Below w.heap.size w w') : Win w' a n cap A := h.kept b.size (fun g hg => b.block g (h.lt hg))
theorem below_app {w w' : World} {o o' : Obj} (hg : ((w.alloc o).alloc o').grownBy w' (blk none)) : Below w.heap.size w w' :=
  (((Below.refl _ _).alloc (Nat.le_refl _) _).alloc (by simp) _).grown hg (by simp; omega) (fun k hk => by cases hk)
theorem Win.dr {w : World} {a : Option Addr} {n cap : Nat} {A : List L} (h : Win w a n cap A) (k : Nat) : Win (w.drewN k) a n cap A := h.same rfl
theorem Mid.same {B0 p cu co : Nat} {w0 : World} {a4 a5 : Option Addr} {c4 c5 : Nat} {A B : List L} {cl : Bool} {kk : Nat} {aa : Option Addr} {cc : Nat} {w : World} (M : Mid B0 p cu co w0 a4 c4 a5 c5 A B cl kk aa cc w) (k : Nat) : Mid B0 p cu co w0 a4 c4 a5 c5 A B cl kk aa cc (w.drewN k) :=
  ⟨M.tr.same rfl, M.w4.same rfl, M.w5.same rfl, M.hs, below_drewN M.bl _, M.got.same rfl, M.hk⟩

set_option maxHeartbeats 16000000 in
set_option maxRecDepth 100000 in
theorem plays (awake : ∀ w, Calls Try.prog 5 #[] w fun e w' => e = .returned (.bool true) ∧ Below w.heap.size w w')
    (a : Option Addr) (len cap : Nat) (op nn : Nat → Int) (lf : Nat → L) (w : World) (he : Acts w a len op nn lf) :
    Calls Try.prog 4 #[.slice a len cap] w fun e w' => e = .returned (.bool true) ∧ Below w.heap.size w w' := by
  by_cases hl : len > 150
  · go_enter Try.func4, Try.ntmps4
    go_wp2_with (first
      | (go_at_call 5; with_reducible refine (awake _).mono ?_; rintro e w1 ⟨rfl, hb⟩)
      | go_in)
    go_ret
    exact ⟨rfl, hb⟩
  · go_enter Try.func4, Try.ntmps4
    go_wp2_with (first
      | (go_at_call 5; with_reducible refine (awake _).mono ?_; rintro e w1 ⟨rfl, hb⟩)
      | (go_at_call 6; with_reducible refine (new_is _).mono ?_; rintro e w2 ⟨p, cu, co, rfl, hT, p1, p2, p3, hb2⟩)
      | go_in)
    go_loopw [4, 5, 6, 7] (fun v4 v5 v6 v7 wr => ∃ (i : Nat) (A B : List L) (cl : Bool) (a4 : Option Addr) (c4 : Nat) (a5 : Option Addr) (c5 : Nat), v7 = .int .i64 i ∧ i ≤ len ∧ v4 = .slice a4 A.length c4 ∧ v5 = .slice a5 B.length c5 ∧ v6 = .bool cl ∧ St w.heap.size p cu co w a4 c4 a5 c5 A B cl wr)
      (fun _ _ _ v7 _ => len - (RowKit.intOf v7).toNat)
    case atStart =>
      have z := hb.size
      exact ⟨0, [], [], false, none, 0, none, 0, rfl, by omega, rfl, rfl, rfl, ⟨hT, Win.nil _, Win.nil _, by simp, by simp, (fun g hg => by cases hg), (fun g hg => by cases hg), (fun g hg => by cases hg), by omega, by omega, by omega, by have := hb2.size; omega, hb.trans (hb2.mono z)⟩⟩
    case round =>
      obtain ⟨i, A, B, cl, a4, c4, a5, c5, rfl, hi, rfl, rfl, rfl, S⟩ := hrel
      by_cases hlt : i < len
      · obtain ⟨x, rfl, hxb, q0, q1, q2, q3, q4⟩ := he.cells i hlt
        have r0 : wr.cell? (x.add (i * 5)) = some (.int .i64 (op i)) := (S.bl.cell (p := x.add (i * 5 + 0)) (by rw [add_block]; exact hxb)).trans q0
        have r1 : wr.cell? ⟨(x.add (i * 5)).block, (x.add (i * 5)).off + 1, none⟩ = some (.int .i64 (nn i)) := by rw [add_at x _ 1 (by decide)]; exact (S.bl.cell (p := x.add (i * 5 + 1)) (by rw [add_block]; exact hxb)).trans q1
        have r2 : wr.cell? ⟨(x.add (i * 5)).block, (x.add (i * 5)).off + 2, none⟩ = some (.string (lf i).s1) := by rw [add_at x _ 2 (by decide)]; exact (S.bl.cell (p := x.add (i * 5 + 2)) (by rw [add_block]; exact hxb)).trans q2
        have r3 : wr.cell? ⟨(x.add (i * 5)).block, (x.add (i * 5)).off + 3, none⟩ = some (.string (lf i).s2) := by rw [add_at x _ 3 (by decide)]; exact (S.bl.cell (p := x.add (i * 5 + 3)) (by rw [add_block]; exact hxb)).trans q3
        have r4 : wr.cell? ⟨(x.add (i * 5)).block, (x.add (i * 5)).off + 4, none⟩ = some (.bool (lf i).u) := by rw [add_at x _ 4 (by decide)]; exact (S.bl.cell (p := x.add (i * 5 + 4)) (by rw [add_block]; exact hxb)).trans q4
        go_upto_block 2 with fail
        go_cut [4, 5, 6] (fun s4 s5 s6 wx => ∃ (A' B' : List L) (cl' : Bool) (a4' : Option Addr) (c4' : Nat) (a5' : Option Addr) (c5' : Nat), s4 = .slice a4' A'.length c4' ∧ s5 = .slice a5' B'.length c5' ∧ s6 = .bool cl' ∧ St w.heap.size p cu co w a4' c4' a5' c5' A' B' cl' wx)
        case first =>
          have SE := S.below ((Below.refl wr.heap.size wr).alloc (Nat.le_refl _) (.cells #[.int .i64 (op i), .int .i64 (nn i), .string (lf i).s1, .string (lf i).s2, .bool (lf i).u] 33))
          have hE := (MapKept.heap_alloc wr (.cells #[.int .i64 (op i), .int .i64 (nn i), .string (lf i).s1, .string (lf i).s2, .bool (lf i).u] 33)).1
          have hE4 : ∀ g, blk a4 = some g → g < wr.heap.size := fun g hg => S.w4.lt hg
          have hE5 : ∀ g, blk a5 = some g → g < wr.heap.size := fun g hg => S.w5.lt hg
          generalize wr.alloc (.cells #[.int .i64 (op i), .int .i64 (nn i), .string (lf i).s1, .string (lf i).s2, .bool (lf i).u] 33) = wE at SE hE ⊢
          have e0 : wE.cell? ⟨wr.heap.size, 0, none⟩ = some (.int .i64 (op i)) := by simp [World.cell?, hE]
          have e1 : wE.cell? ⟨wr.heap.size, 0 + 1, none⟩ = some (.int .i64 (nn i)) := by simp [World.cell?, hE]
          have e2 : wE.cell? ⟨wr.heap.size, 0 + 2, none⟩ = some (.string (lf i).s1) := by simp [World.cell?, hE]
          have e3 : wE.cell? ⟨wr.heap.size, 0 + 3, none⟩ = some (.string (lf i).s2) := by simp [World.cell?, hE]
          have e4 : wE.cell? ⟨wr.heap.size, 0 + 4, none⟩ = some (.bool (lf i).u) := by simp [World.cell?, hE]
          clear r0 r1 r2 r3 r4 q0 q1 q2 q3 q4 hT hb2
          by_cases ho : op i = 0
          · as_aux_lemma =>
            have hob : (op i == 0) = true := by simp [ho]
            clear ho
            cases cl with
            | true =>
              have hp : pR A B true (lf i) = 4 := by simp [pR]
              go_wp2_with (first
                | (go_at_call 7; with_reducible refine (put_is SE.tr (lf i)).mono ?_; rintro e w3 ⟨rfl, hT3, hF3⟩)
                | go_in)
              go_meet
              exact ⟨A, B, true, a4, c4, a5, c5, rfl, rfl, rfl, st_same SE hF3 (by simpa [pA, pB] using hT3)⟩
            | false =>
              cases hu : (lf i).u with
              | true =>
                rw [hu] at e4 hE
                clear hu
                by_cases hf : 8 ≤ A.length
                · have hfi : (8 : Int) ≤ (A.length : Int) := by omega
                  have hp : pR A B false (⟨(lf i).s1, (lf i).s2, true⟩ : L) = 6 := by simp [pR, hf]
                  go_wp2_with (first
                    | (go_at_call 7; with_reducible refine (put_is SE.tr (⟨(lf i).s1, (lf i).s2, true⟩ : L)).mono ?_; rintro e w3 ⟨rfl, hT3, hF3⟩)
                    | go_in)
                  go_meet
                  exact ⟨A, B, false, a4, c4, a5, c5, rfl, rfl, rfl, st_same SE hF3 (by simpa [pA, pB, hf] using hT3)⟩
                · have hfi : ¬ (8 : Int) ≤ (A.length : Int) := by omega
                  have hp : pR A B false (⟨(lf i).s1, (lf i).s2, true⟩ : L) = 0 := by simp [pR, hf]
                  go_wp2_with (first
                    | (at_builtin; refine wpList_append_win _ rfl _ _ rfl a4 A.length c4 A rfl (SE.w4.alloc _) (by omega) _ (⟨(lf i).s1, (lf i).s2, true⟩ : L) rfl (news _ _) ?_; intro a3 cap3 w3 hW3 hg3 hb3; have hE3 := keepE hE hg3 hE4; have f2 : w3.cell? ⟨wr.heap.size, 0 + 2, none⟩ = some (.string (lf i).s1) := (by simp [World.cell?, hE3]); have f3 : w3.cell? ⟨wr.heap.size, 0 + 3, none⟩ = some (.string (lf i).s2) := (by simp [World.cell?, hE3]); have f4 : w3.cell? ⟨wr.heap.size, 0 + 4, none⟩ = some (.bool true) := (by simp [World.cell?, hE3]); have hT' := (tr1 SE.tr _).grown hg3 (fun e => (SE.o4 _ e).2.1 rfl) (fun e => (SE.o4 _ e).2.2.1 rfl) (fun e => (SE.o4 _ e).2.2.2 rfl))
                    | (go_at_call 7; with_reducible refine (put_is hT' (⟨(lf i).s1, (lf i).s2, true⟩ : L)).mono ?_; rintro e w4 ⟨rfl, hT4, hF4⟩)
                    | go_in)
                  go_meet
                  exact ⟨A ++ [(⟨(lf i).s1, (lf i).s2, true⟩ : L)], B, false, a3, cap3, a5, c5, by simp, rfl, rfl, st_app4 SE hW3 hg3 hb3 hF4 (by simpa [pA, pB, hf] using hT4) (by omega)⟩
              | false =>
                rw [hu] at e4 hE
                clear hu
                by_cases hf : 8 ≤ B.length
                · have hfi : (8 : Int) ≤ (B.length : Int) := by omega
                  have hp : pR A B false (⟨(lf i).s1, (lf i).s2, false⟩ : L) = 6 := by simp [pR, hf]
                  go_wp2_with (first
                    | (go_at_call 7; with_reducible refine (put_is SE.tr (⟨(lf i).s1, (lf i).s2, false⟩ : L)).mono ?_; rintro e w3 ⟨rfl, hT3, hF3⟩)
                    | go_in)
                  go_meet
                  exact ⟨A, B, false, a4, c4, a5, c5, rfl, rfl, rfl, st_same SE hF3 (by simpa [pA, pB, hf] using hT3)⟩
                · have hfi : ¬ (8 : Int) ≤ (B.length : Int) := by omega
                  have hp : pR A B false (⟨(lf i).s1, (lf i).s2, false⟩ : L) = 0 := by simp [pR, hf]
                  go_wp2_with (first
                    | (at_builtin; refine wpList_append_win _ rfl _ _ rfl a5 B.length c5 B rfl (SE.w5.alloc _) (by omega) _ (⟨(lf i).s1, (lf i).s2, false⟩ : L) rfl (news _ _) ?_; intro a3 cap3 w3 hW3 hg3 hb3; have hE3 := keepE hE hg3 hE5; have f2 : w3.cell? ⟨wr.heap.size, 0 + 2, none⟩ = some (.string (lf i).s1) := (by simp [World.cell?, hE3]); have f3 : w3.cell? ⟨wr.heap.size, 0 + 3, none⟩ = some (.string (lf i).s2) := (by simp [World.cell?, hE3]); have f4 : w3.cell? ⟨wr.heap.size, 0 + 4, none⟩ = some (.bool false) := (by simp [World.cell?, hE3]); have hT' := (tr1 SE.tr _).grown hg3 (fun e => (SE.o5 _ e).2.1 rfl) (fun e => (SE.o5 _ e).2.2.1 rfl) (fun e => (SE.o5 _ e).2.2.2 rfl))
                    | (go_at_call 7; with_reducible refine (put_is hT' (⟨(lf i).s1, (lf i).s2, false⟩ : L)).mono ?_; rintro e w4 ⟨rfl, hT4, hF4⟩)
                    | go_in)
                  go_meet
                  exact ⟨A, B ++ [(⟨(lf i).s1, (lf i).s2, false⟩ : L)], false, a4, c4, a3, cap3, rfl, by simp, rfl, st_app5 SE hW3 hg3 hb3 hF4 (by simpa [pA, pB, hf] using hT4) (by omega)⟩
          · have hob : (op i == 0) = false := by simp [ho]
            by_cases h3 : op i = 3
            · as_aux_lemma =>
              have h3b : (op i == 3) = true := by simp [h3]
              clear ho h3
              go_wp2_with (first
                | (go_at_call 9; with_reducible refine (close_is SE.tr).mono ?_; rintro e w3 ⟨rfl, hT3, hF3⟩)
                | go_in)
              go_meet
              exact ⟨A, B, true, a4, c4, a5, c5, rfl, rfl, rfl, st_same SE hF3 hT3⟩
            · have h3b : (op i == 3) = false := by simp [h3]
              clear ho h3
              go_upto_if 37 with fail
              go_cut [10] (fun s10 wx => ∃ (nq : Int), s10 = .int .i64 nq ∧ (op i = 2 ∧ nq = nn i ∨ op i ≠ 2 ∧ nq = 1) ∧ wx = wE)
              case first =>
                as_aux_lemma =>
                by_cases h2 : op i = 2
                · have h2b : (op i == 2) = true := by simp [h2]
                  go_wp2_with fail
                  go_meet
                  exact ⟨nn i, rfl, .inl ⟨h2, rfl⟩, rfl⟩
                · have h2b : (op i == 2) = false := by simp [h2]
                  go_wp2_with fail
                  go_meet
                  exact ⟨1, rfl, .inr ⟨h2, rfl⟩, rfl⟩
              case rest =>
              obtain ⟨nq, rfl, hnq, rfl⟩ := hcut
              go_upto_if 42 with fail
              go_cut [11] (fun s11 wx => ∃ (kk : Nat) (aa : Option Addr) (cc : Nat), s11 = .slice aa kk cc ∧ ((kk : Int) = nq ∨ nq ≤ 0 ∧ kk = 0 ∨ (kk : Int) < nq ∧ kk = A.length + B.length) ∧ Mid w.heap.size p cu co w a4 c4 a5 c5 A B cl kk aa cc wx)
              case first =>
                as_aux_lemma =>
                by_cases h2 : op i = 2
                · have h2b : (op i == 2) = true := by simp [h2]
                  have hn2 : nq = nn i := by rcases hnq with ⟨_, h⟩ | ⟨h, _⟩ <;> first | exact h | contradiction
                  subst hn2
                  clear hnq h2
                  go_wp2_with (first
                    | (go_at_call 8; with_reducible refine (drain_is SE.tr (nn i) SE.l4 SE.l5).mono ?_; rintro e w3 ⟨kk, aa, cc, rfl, hk1, hk2, hWk, hbk, hT3, hF3⟩)
                    | go_in)
                  go_meet
                  obtain ⟨t, x4, x5, hs, hb⟩ := SE.fr hF3 hT3
                  exact ⟨kk, aa, cc, rfl, hk2, t, x4, x5, hs, hb, hWk, hk1⟩
                · have h2b : (op i == 2) = false := by simp [h2]
                  have hn2 : nq = 1 := by rcases hnq with ⟨h, _⟩ | ⟨_, h⟩ <;> first | exact h | contradiction
                  subst hn2
                  clear hnq h2
                  cases A with
                  | cons la A =>
                    go_wp2_with (first
                      | (go_at_call 10; with_reducible refine (take_a SE.tr).mono ?_; rintro e w3 ⟨rfl, hT3, hF3⟩)
                      | (at_builtin; refine wpList_append_win _ rfl _ _ rfl none 0 0 [] rfl (Win.nil _) (by omega) _ la rfl (news2 _ _ la) ?_; intro a3 cap3 w4 hW4 hg4 hb4)
                      | go_in)
                    go_meet
                    have b34 := below_app hg4
                    obtain ⟨t, x4, x5, hs, hb⟩ := SE.fr hF3 hT3
                    exact ⟨1, a3, cap3, rfl, .inl rfl, by simpa using t.below b34, x4.below b34, x5.below b34, Nat.le_trans hs b34.size, hb.trans (b34.mono hs), by simpa using hW4, by simp; omega⟩
                  | nil =>
                    cases B with
                    | cons lb B =>
                      go_wp2_with (first
                        | (go_at_call 10; with_reducible refine (take_b SE.tr).mono ?_; rintro e w3 ⟨rfl, hT3, hF3⟩)
                        | (at_builtin; refine wpList_append_win _ rfl _ _ rfl none 0 0 [] rfl (Win.nil _) (by omega) _ lb rfl (news2 _ _ lb) ?_; intro a3 cap3 w4 hW4 hg4 hb4)
                        | go_in)
                      go_meet
                      have b34 := below_app hg4
                      obtain ⟨t, x4, x5, hs, hb⟩ := SE.fr hF3 hT3
                      exact ⟨1, a3, cap3, rfl, .inl rfl, by simpa using t.below b34, x4.below b34, x5.below b34, Nat.le_trans hs b34.size, hb.trans (b34.mono hs), by simpa using hW4, by simp⟩
                    | nil =>
                      go_wp2_with (first
                        | (go_at_call 10; with_reducible refine (take_0 SE.tr).mono ?_; rintro e w3 ⟨rfl, hT3, hF3⟩)
                        | go_in)
                      go_meet
                      have b34 := (Below.refl w3.heap.size w3).alloc (Nat.le_refl _) (.cells #[.string ⟨#[]⟩, .string ⟨#[]⟩, .bool false] 28)
                      obtain ⟨t, x4, x5, hs, hb⟩ := SE.fr hF3 hT3
                      exact ⟨0, none, 0, rfl, .inr (.inr ⟨by decide, rfl⟩), (by simpa using t.below b34), x4.below b34, x5.below b34, Nat.le_trans hs b34.size, hb.trans (b34.mono hs), Win.nil _, by simp⟩
              case rest =>
                obtain ⟨kk, aa, cc, rfl, hkk, M⟩ := hcut
                go_wp2_with fail
                go_loopw [4, 5, 14] (fun v4 v5 v14 wr => ∃ (k : Nat) (a4' : Option Addr) (c4' : Nat) (a5' : Option Addr) (c5' : Nat), v14 = .int .i64 k ∧ k ≤ kk ∧ v4 = .slice a4' (A.drop k).length c4' ∧ v5 = .slice a5' (B.drop (k - A.length)).length c5' ∧ Win wr a4' (A.drop k).length c4' (A.drop k) ∧ Win wr a5' (B.drop (k - A.length)).length c5' (B.drop (k - A.length)) ∧ (blk a4' = blk a4) ∧ (blk a5' = blk a5) ∧ Mid w.heap.size p cu co w a4 c4 a5 c5 A B cl kk aa cc wr)
                  (fun _ _ v _ => kk - (RowKit.intOf v).toNat)
                case atStart => exact ⟨0, a4, c4, a5, c5, rfl, by omega, by simp, by simp, by simpa using M.w4, by simpa using M.w5, rfl, rfl, M⟩
                case round =>
                  obtain ⟨k, a4', c4', a5', c5', rfl, hk, rfl, rfl, W4, W5, e4, e5, M1⟩ := hrel
                  have hb16 : kk ≤ 16 := by have := M.hk; have := S.l4; have := S.l5; omega
                  by_cases hlt : k < kk
                  · as_aux_lemma =>
                    cases ha : A.drop k with
                    | cons la A' =>
                      rw [ha] at W4
                      obtain ⟨d1, d2, d3⟩ := drop_cons ha
                      have dk : ((A ++ B).take kk)[k]? = some la := by rw [List.getElem?_take_of_lt hlt, List.getElem?_append_left d2]; exact d3
                      obtain ⟨g, o, rfl, q1, q2, q3⟩ := W4.at (k := 0) rfl
                      obtain ⟨gg, oo, rfl, r1, r2, r3⟩ := M1.got.at dk
                      rw [Nat.zero_mul, Nat.add_zero] at q1 q2 q3
                      have i0 : (0 : Int) ≤ (k : Int) := by omega
                      have i1 : (k : Int) < (kk : Int) := by omega
                      by_cases hc1 : c4' = 1
                      · subst hc1
                        go_wp2_with fail
                        go_quiet (fail)
                        go_wp2_with fail
                        go_roundw
                        case rel =>
                          have hd : B.drop (k + 1 - A.length) = B.drop (k - A.length) := by rw [show k + 1 - A.length = 0 by omega, show k - A.length = 0 by omega]
                          exact ⟨k + 1, some ⟨g, o, none⟩, 0, a5', c5', by simp, by omega, by rw [d1], by rw [hd], by rw [d1]; exact (W4.tail1).dr _, by rw [hd]; exact W5.dr _, e4, e5, M1.same _⟩
                        case measure => simp [RowKit.intOf]; omega
                      · have hc2 : (1 : Int) < (c4' : Int) := by have := W4.2; rcases this with ⟨h, _⟩ | ⟨_, _, _, _, h, _⟩; cases h; simp at h; omega
                        go_wp2_with fail
                        go_quiet (fail)
                        go_wp2_with fail
                        go_roundw
                        case rel =>
                          have hd : B.drop (k + 1 - A.length) = B.drop (k - A.length) := by rw [show k + 1 - A.length = 0 by omega, show k - A.length = 0 by omega]
                          exact ⟨k + 1, some ⟨g, o + 3, none⟩, c4' - 1, a5', c5', by simp, by omega, by rw [d1], by rw [hd], by rw [d1]; exact (W4.tail).dr _, by rw [hd]; exact W5.dr _, e4, e5, M1.same _⟩
                        case measure => simp [RowKit.intOf]; omega
                    | nil =>
                      rw [ha] at W4
                      have hAk : A.length ≤ k := by
                        have := congrArg List.length ha
                        simp at this
                        omega
                      cases hb : B.drop (k - A.length) with
                      | nil =>
                        exfalso
                        have h9 := List.drop_eq_nil_iff.1 hb
                        have := M.hk
                        omega
                      | cons lb B' =>
                        rw [hb] at W5
                        obtain ⟨d1, d2, d3⟩ := drop_cons hb
                        have dk : ((A ++ B).take kk)[k]? = some lb := by rw [List.getElem?_take_of_lt hlt, List.getElem?_append_right hAk]; exact d3
                        obtain ⟨g, o, rfl, q1, q2, q3⟩ := W5.at (k := 0) rfl
                        obtain ⟨gg, oo, rfl, r1, r2, r3⟩ := M1.got.at dk
                        rw [Nat.zero_mul, Nat.add_zero] at q1 q2 q3
                        have i0 : (0 : Int) ≤ (k : Int) := by omega
                        have i1 : (k : Int) < (kk : Int) := by omega
                        by_cases hc1 : c5' = 1
                        · subst hc1
                          go_wp2_with fail
                          go_quiet (fail)
                          go_wp2_with fail
                          go_roundw
                          case rel =>
                            have hd : B.drop (k + 1 - A.length) = B' := by rw [show k + 1 - A.length = k - A.length + 1 by omega]; exact d1
                            have ha' : A.drop (k + 1) = [] := List.drop_of_length_le (by omega)
                            exact ⟨k + 1, a4', c4', some ⟨g, o, none⟩, 0, by simp, by omega, by rw [ha'], by rw [hd], by rw [ha']; exact W4.dr _, by rw [hd]; exact (W5.tail1).dr _, e4, e5, M1.same _⟩
                          case measure => simp [RowKit.intOf]; omega
                        · have hc2 : (1 : Int) < (c5' : Int) := by have := W5.2; rcases this with ⟨h, _⟩ | ⟨_, _, _, _, h, _⟩; cases h; simp at h; omega
                          go_wp2_with fail
                          go_quiet (fail)
                          go_wp2_with fail
                          go_roundw
                          case rel =>
                            have hd : B.drop (k + 1 - A.length) = B' := by rw [show k + 1 - A.length = k - A.length + 1 by omega]; exact d1
                            have ha' : A.drop (k + 1) = [] := List.drop_of_length_le (by omega)
                            exact ⟨k + 1, a4', c4', some ⟨g, o + 3, none⟩, c5' - 1, by simp, by omega, by rw [ha'], by rw [hd], by rw [ha']; exact W4.dr _, by rw [hd]; exact (W5.tail).dr _, e4, e5, M1.same _⟩
                          case measure => simp [RowKit.intOf]; omega
                  · as_aux_lemma =>
                    have : k = kk := by omega
                    subst this
                    go_wp2_with fail
                    all_goals try (exfalso; omega)
                    all_goals
                      go_meet
                      have hla : (A.drop k).length = A.length - k := List.length_drop
                      have hlb : (B.drop (k - A.length)).length = B.length - (k - A.length) := List.length_drop
                      exact ⟨A.drop k, B.drop (k - A.length), cl, a4', c4', a5', c5', by simp, by simp, rfl, M1.tr, W4, W5, by have := S.l4; omega, by have := S.l5; omega, by rw [e4]; exact S.o4, by rw [e5]; exact S.o5, by rw [e4, e5]; exact S.ap, S.b1, S.b2, S.b3, M1.hs, M1.bl⟩
        case rest =>
          obtain ⟨A', B', cl', a4', c4', a5', c5', rfl, rfl, rfl, S'⟩ := hcut
          go_wp2_with (first
            | (go_at_call 11; with_reducible refine (len_is S'.tr).mono ?_; rintro e w3 ⟨rfl, hT3, hb3⟩)
            | go_in)
          go_roundw
          case rel => exact ⟨i + 1, A', B', cl', a4', c4', a5', c5', by simp, by omega, rfl, rfl, rfl, S'.below hb3⟩
          case measure => simp [RowKit.intOf]; omega
      · go_wp2
        go_ret
        exact ⟨rfl, S.bl⟩
end Go.Tp
