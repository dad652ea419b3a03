/- BkP6: Post. -/
import Derived.Test.YtmnpdgldmpjekaaBkP5
import Derived.Deep.RegionHeldLaw
import Derived.Deep.AppendLies
import Derived.Deep.RegionLaw
import Derived.BigRegion
import Derived.RegionTactic
namespace Go.Bk
open Go Go.Maps Go.RowKit Go.Proofs
open Go.WideMaps (keyOf_string_mk)
set_option linter.unusedVariables false

theorem grown_drew (w : World) (row : Option Nat) : w.grownBy w.drew row := ⟨rfl, rfl, rfl, Nat.le_refl _, fun _ _ _ => rfl⟩
theorem grown_of_below {w w' : World} (h : Below w.heap.size w w') : w.grownBy w' none := ⟨h.os, h.tape, h.output, h.size, fun i hi _ => h.block i hi⟩

/-- Blocks that lie outside S are as they were. -/
structure Fr (S : Nat → Prop) (w w' : World) : Prop where
  size : w.heap.size ≤ w'.heap.size
  block : ∀ k, k < w.heap.size → ¬ S k → w'.heap[k]? = w.heap[k]?
theorem Fr.of_below {S : Nat → Prop} {w w' : World} (h : Below w.heap.size w w') : Fr S w w' := ⟨h.size, fun k hk _ => h.block k hk⟩
theorem Fr.of_grown {S : Nat → Prop} {w w' : World} {row : Option Nat} (h : w.grownBy w' row) (hS : ∀ k, row = some k → S k) : Fr S w w' := ⟨h.size, fun k hk hn => h.block k hk (fun e => hn (hS k e.symm))⟩
theorem Fr.trans {S S' : Nat → Prop} {w w1 w2 : World} (h : Fr S w w1) (k : Fr S' w1 w2) (hS : ∀ k, k < w.heap.size → S' k → S k) : Fr S w w2 :=
  ⟨Nat.le_trans h.size k.size, fun i hi hn => (k.block i (Nat.lt_of_lt_of_le hi h.size) (fun e => hn (hS i hi e))).trans (h.block i hi hn)⟩
theorem Fr.mono {S S' : Nat → Prop} {w w' : World} (h : Fr S w w') (hS : ∀ k, k < w.heap.size → S k → S' k) : Fr S' w w' := ⟨h.size, fun i hi hn => h.block i hi (fun e => hn (hS i hi e))⟩

theorem Fr.undrew {S : Nat → Prop} {w w' : World} (h : Fr S w.drew w') : Fr S w w' := ⟨h.size, h.block⟩

/-- The books, behind a pointer to block sb. -/
structure Books (B sb bm n m : Nat) (v : Value) (xs : List Value) (D : DataW Unit) (w : World) : Prop where
  cells : w.heap[sb]? = some (.cells #[v, .map (some bm)] 50 (0, 0))
  row : w.ownsRow B 29 5 v m xs
  map : w.ownsMap Try.prog 9 (plainElem Try.prog 2) bm n D
  ne : v.ownBlock ≠ some sb
  nm : v.ownBlock ≠ some bm
  b1 : B ≤ sb
  b2 : B ≤ bm
  b3 : B ≤ w.heap.size

theorem Books.lt {B sb bm n m : Nat} {v : Value} {xs : List Value} {D : DataW Unit} {w : World} (h : Books B sb bm n m v xs D w) : sb < w.heap.size := (Array.getElem?_eq_some_iff.1 h.cells).1
theorem Books.kept {B sb bm n m : Nat} {v : Value} {xs : List Value} {D : DataW Unit} {w w' : World} (h : Books B sb bm n m v xs D w) (g : w.grownBy w' none) : Books B sb bm n m v xs D w' :=
  ⟨(g.block sb h.lt (by simp)).trans h.cells, h.row.kept g (Classical.em _), h.map.kept g (by simp), h.ne, h.nm, h.b1, h.b2, Nat.le_trans h.b3 g.size⟩
theorem Books.c0 {B sb bm n m : Nat} {v : Value} {xs : List Value} {D : DataW Unit} {w : World} (h : Books B sb bm n m v xs D w) : w.cell? ⟨sb, 0, none⟩ = some v := by simp [World.cell?, h.cells]
theorem Books.c1 {B sb bm n m : Nat} {v : Value} {xs : List Value} {D : DataW Unit} {w : World} (h : Books B sb bm n m v xs D w) : w.cell? ⟨sb, 0 + 1, none⟩ = some (.map (some bm)) := by simp [World.cell?, h.cells]
theorem Books.f0 {B sb bm n m : Nat} {v : Value} {xs : List Value} {D : DataW Unit} {w : World} (h : Books B sb bm n m v xs D w) : w.frozen? ⟨sb, 0, none⟩ = false := by simp [World.frozen?, h.cells]


theorem grown_set (w : World) (a : Addr) (u : Value) : w.grownBy (w.setCell a u) (some a.block) :=
  ⟨rfl, rfl, rfl, by simp, fun k _ hk => Below.heap_setCell w a u k (fun e => hk (by rw [e]))⟩
theorem Books.row_lt {B sb bm n m : Nat} {v : Value} {xs : List Value} {D : DataW Unit} {w : World} (h : Books B sb bm n m v xs D w) {k : Nat} (hk : v.ownBlock = some k) : k < w.heap.size := by
  rcases h.row.2 with ⟨rfl, _⟩ | ⟨g, cap, cur, rfl, _, hg, _⟩
  · cases hk
  · cases hk; exact (Array.getElem?_eq_some_iff.1 hg).1
theorem Books.sb_bm {B sb bm n m : Nat} {v : Value} {xs : List Value} {D : DataW Unit} {w : World} (h : Books B sb bm n m v xs D w) : bm ≠ sb := by
  intro e
  obtain ⟨es, clock, hb, _⟩ := h.map
  rw [e, h.cells] at hb
  cases hb
theorem Books.bm_lt {B sb bm n m : Nat} {v : Value} {xs : List Value} {D : DataW Unit} {w : World} (h : Books B sb bm n m v xs D w) : bm < w.heap.size := h.map.lt
/-- The list's new value is stored. -/
theorem Books.stored {B sb bm n m : Nat} {v : Value} {xs ys : List Value} {D : DataW Unit} {w w2 : World} (h : Books B sb bm n m v xs D w) {g cap : Nat}
    (hown : w2.ownsRow B 29 5 (.slice (some ⟨g, 0, none⟩) (m + 1) cap) (m + 1) ys) (hg : w.grownBy w2 v.ownBlock) (hat : v.ownBlock = some g ∨ g = w.heap.size) :
    Books B sb bm n (m + 1) (.slice (some ⟨g, 0, none⟩) (m + 1) cap) ys D (w2.setCell ⟨sb, 0, none⟩ (.slice (some ⟨g, 0, none⟩) (m + 1) cap)) := by
  have n1 : g ≠ sb := by
    rcases hat with e | e
    · intro x; exact h.ne (by rw [e, x])
    · have := h.lt; omega
  have n2 : g ≠ bm := by
    rcases hat with e | e
    · intro x; exact h.nm (by rw [e, x])
    · have := h.bm_lt; omega
  have hc : w2.heap[sb]? = some (.cells #[v, .map (some bm)] 50 (0, 0)) := (hg.block sb h.lt (fun e => h.ne e.symm)).trans h.cells
  have gs := grown_set w2 ⟨sb, 0, none⟩ (.slice (some ⟨g, 0, none⟩) (m + 1) cap)
  refine ⟨?_, hown.kept gs (.inr ?_), (h.map.kept hg (fun e => h.nm e.symm)).setCell h.sb_bm _, ?_, ?_, h.b1, h.b2, Nat.le_trans h.b3 (Nat.le_trans hg.size gs.size)⟩
  · have := heap_setCell_same w2 sb 0 _ 50 (.slice (some ⟨g, 0, none⟩) (m + 1) cap) hc
    simpa using this
  · intro e; exact n1 (by simpa [Value.ownBlock] using e)
  · intro e; exact n1 (by simpa [Value.ownBlock] using e)
  · intro e; exact n2 (by simpa [Value.ownBlock] using e)
/-- The map has turned. -/
theorem Books.put {B sb bm n m n' : Nat} {v : Value} {xs : List Value} {D D' : DataW Unit} {w w' : World} (h : Books B sb bm n m v xs D w)
    (ho : w'.ownsMap Try.prog 9 (plainElem Try.prog 2) bm n' D') (hg : w.grownBy w' (some bm)) : Books B sb bm n' m v xs D' w' :=
  ⟨(hg.block sb h.lt (fun e => h.sb_bm (by cases e; rfl))).trans h.cells, h.row.kept hg (.inr h.nm), ho, h.ne, h.nm, h.b1, h.b2, Nat.le_trans h.b3 hg.size⟩
theorem i64_wf (x : Int) : (Lit.int .i64 (IntKind.i64.wrap x)).wf = true := by rw [IntWalk.i64_left]; exact wrap64_wf _
end Go.Bk
