/- TpT1: letters, rows of letters in memory. -/
import Derived.Test.YtmmaicjkkcljhaaProg
import Derived.WalkKit
import Derived.ArgAppend
import Derived.Below
import Derived.KernelRfl
import Derived.RowKit3
import Derived.Deep.Upon
import Derived.Deep.MidRow
import Derived.Laws.IdiomCopy
namespace Go.Tp
open Go Go.RowKit Go.Proofs
set_option linter.unusedVariables false

structure L where
  s1 : ByteArray
  s2 : ByteArray
  u : Bool

def lc (l : L) : List Value := [.string l.s1, .string l.s2, .bool l.u]
def lv (l : L) : Value := .agg #[.string l.s1, .string l.s2, .bool l.u]
def lcs (A : List L) : List Value := A.flatMap lc

theorem lcs_length : ∀ A, (lcs A).length = A.length * 3
  | [] => rfl
  | a :: A => by
    show (lc a ++ lcs A).length = _
    rw [List.length_append, lcs_length A]
    show 3 + _ = (A.length + 1) * 3
    omega
theorem lcs_snoc (A : List L) (l : L) : lcs (A ++ [l]) = lcs A ++ lc l := by simp [lcs]
theorem lcs_one (A : List L) : ∀ u ∈ lcs A, u.oneCell' = true := by
  intro u hu
  obtain ⟨l, _, hl⟩ := List.mem_flatMap.1 hu
  simp [lc] at hl
  rcases hl with rfl | rfl | rfl <;> rfl
theorem lcs_at (A : List L) (i : Nat) (h : i < A.length) : ∀ j, j < 3 → (lcs A)[i * 3 + j]? = (lc A[i])[j]? := by
  induction A generalizing i with
  | nil => simp at h
  | cons a A ih =>
    intro j hj
    cases i with
    | zero =>
      show (lc a ++ lcs A)[0 * 3 + j]? = _
      rw [Nat.zero_mul, Nat.zero_add, List.getElem?_append_left (by show j < 3; exact hj)]
      rfl
    | succ i =>
      show (lc a ++ lcs A)[(i + 1) * 3 + j]? = _
      rw [List.getElem?_append_right (by show 3 ≤ _; omega)]
      have e : (i + 1) * 3 + j - (lc a).length = i * 3 + j := by show _ - 3 = _; omega
      rw [e]
      exact ih i (by simpa using h) j hj
theorem lcs_tail (a : L) (A : List L) (j : Nat) : (lcs (a :: A))[3 + j]? = (lcs A)[j]? := by
  show (lc a ++ lcs A)[3 + j]? = _
  rw [List.getElem?_append_right (by show 3 ≤ _; omega)]
  congr 1
  show 3 + j - 3 = j
  omega

/-- A slice that holds A. -/
def Win (w : World) (a : Option Addr) (n cap : Nat) (A : List L) : Prop :=
  n = A.length ∧ ((a = none ∧ n = 0 ∧ cap = 0) ∨ ∃ g o, a = some ⟨g, o, none⟩ ∧ g < w.heap.size ∧ n ≤ cap ∧ (∀ j u, (lcs A)[j]? = some u → w.cell? ⟨g, o + j, none⟩ = some u) ∧
    ∀ j, j < cap * 3 → (w.cell? ⟨g, o + j, none⟩).isSome = true ∧ w.frozen? ⟨g, o + j, none⟩ = false)
/-- Its block. -/
def blk : Option Addr → Option Nat
  | some a => some a.block
  | none => none

theorem Win.nil (w : World) : Win w none 0 0 [] := ⟨rfl, .inl ⟨rfl, rfl, rfl⟩⟩
theorem Win.kept {w w' : World} {a : Option Addr} {n cap : Nat} {A : List L} (h : Win w a n cap A) (hs : w.heap.size ≤ w'.heap.size) (hb : ∀ g, blk a = some g → w'.heap[g]? = w.heap[g]?) : Win w' a n cap A := by
  refine ⟨h.1, ?_⟩
  rcases h.2 with h | ⟨g, o, rfl, hg, hn, hc, hf⟩
  · exact .inl h
  · have e := hb g rfl
    refine .inr ⟨g, o, rfl, Nat.lt_of_lt_of_le hg hs, hn, fun j u hj => ?_, fun j hj => ?_⟩
    · rw [World.cell?_of_block (w := w) (a := ⟨g, o + j, none⟩) e]; exact hc j u hj
    · rw [World.cell?_of_block (w := w) (a := ⟨g, o + j, none⟩) e, World.frozen?_of_block (w := w) (a := ⟨g, o + j, none⟩) e]; exact hf j hj

theorem Win.ofRow {w : World} {B n : Nat} {v : Value} {A : List L} (h : w.ownsRow B 28 3 v n (lcs A)) : ∃ a cap, v = .slice a n cap ∧ Win w a n cap A ∧ ∀ g, blk a = some g → B ≤ g := by
  have hl : n = A.length := by have := h.1; rw [lcs_length] at this; omega
  rcases h.2 with ⟨rfl, h0⟩ | ⟨g, cap, cur, rfl, hB, hg, h1, h2, h3, h4⟩
  · exact ⟨none, 0, by rw [h0], ⟨hl, .inl ⟨rfl, h0, rfl⟩⟩, fun g hg => by cases hg⟩
  · refine ⟨some ⟨g, 0, none⟩, cap, rfl, ⟨hl, .inr ⟨g, 0, rfl, (Array.getElem?_eq_some_iff.1 hg).1, h1, fun j u hj => ?_, fun j hj => ?_⟩⟩, fun k hk => by cases hk; exact hB⟩
    · rw [← h4, List.getElem?_take] at hj
      split at hj
      · simp only [World.cell?, hg, Nat.zero_add]
        simpa using hj
      · cases hj
    · simp only [World.cell?, World.frozen?, hg, Nat.zero_add]
      refine ⟨?_, ?_⟩
      · simp; omega
      · simp

theorem size_setCells (b : Nat) : ∀ (vs : List Value) (o : Nat) (w : World), (w.setCells b o vs).heap.size = w.heap.size
  | [], _, _ => rfl
  | v :: r, o, w => (size_setCells b r (o + 1) (w.setCell ⟨b, o, none⟩ v)).trans (by simp)
theorem tape_setCells (b : Nat) : ∀ (vs : List Value) (o : Nat) (w : World), (w.setCells b o vs).tape = w.tape
  | [], _, _ => rfl
  | v :: r, o, w => (tape_setCells b r (o + 1) (w.setCell ⟨b, o, none⟩ v)).trans rfl
theorem info28 : (Try.prog.info? 28).map (fun i => (i.zero, i.size, i.bytes)) = some (some (.agg #[.string ⟨#[]⟩, .string ⟨#[]⟩, .bool false]), 3, 40) := by kernel_rfl

/-- append of one letter, for the walk. -/
theorem wpList_append_win (w : World) {ops : Array Oper} {rest : List Oper} {o : Oper} {a : Act} {Q : Exit → Act → World → Prop}
    (hg : o.guard = none) (s x : Operand) (hop : o.op = Op.call { callee := Callee.builtin Builtin.append, args := #[s, x], argTypes := #[29, 29] })
    (av : Option Addr) (n cap : Nat) (A : List L) (hs : a.eval s = .slice av n cap) (hw : Win w av n cap A) (hn : n < 1000000)
    (ad : Addr) (l : L) (hx : a.eval x = .slice (some ad) 1 1) (hc : ∀ j u, (lc l)[j]? = some u → w.cell? (ad.add j) = some u) 
    (hK : ∀ a' cap' w', Win w' a' (n + 1) cap' (A ++ [l]) → w.grownBy w' (blk av) → (blk a' = blk av ∨ ∃ g, blk a' = some g ∧ w.heap.size ≤ g) → wpList Try.prog ops Q rest (a.put o.dst (.slice a' (n + 1) cap')) w') :
    wpList Try.prog ops Q (o :: rest) a w := by
  obtain ⟨i0, hi, hz0, hz1, hz2⟩ := info_parts info28
  have hl : n = A.length := hw.1
  have fin : ∀ v' w', w'.ownsRow w.heap.size 28 3 v' (n + 1) (lcs A ++ lc l) → w.grownBy w' none → wpList Try.prog ops Q rest (a.put o.dst v') w' := by
    intro v' w' hr hgr
    rw [← lcs_snoc] at hr
    obtain ⟨a', cap', rfl, hW, hB⟩ := Win.ofRow hr
    refine hK a' cap' w' hW ⟨hgr.os, hgr.tape, hgr.output, hgr.size, fun k hk _ => hgr.block k hk (by simp)⟩ (.inr ?_)
    rcases hW.2 with ⟨_, h0, _⟩ | ⟨g, o', rfl, _⟩
    · omega
    · exact ⟨g, rfl, hB g rfl⟩
  rcases hw.2 with ⟨rfl, h0, rfl⟩ | ⟨g, off, rfl, hgl, hnc, hcs, hsp⟩
  · exact wpList_append_grows w hg s x 29 hop 28 i0 _ 3 40 Try.underlying29 hi hz0 hz1 hz2 rfl (by decide) none n 0 (lcs A) hs (fun _ => ⟨h0, rfl⟩) (by rw [lcs_length, hl]) (fun b hb => by cases hb) ad 1 1 (lc l) hx rfl hc (lcs_one [l] |> fun h u hu => h u (by simpa [lcs] using hu)) (by omega) (by unfold maxLen; omega) (by omega) fin
  · refine wpList_append_arg w hg s x 29 hop 28 i0 _ 3 40 Try.underlying29 hi hz0 hz1 hz2 rfl (by decide) g off n cap (lcs A) hs (by rw [lcs_length, hl]) hcs ad 1 1 (lc l) hx rfl hc (lcs_one [l] |> fun h u hu => h u (by simpa [lcs] using hu)) (fun hr j hj => ?_) (by unfold maxLen; omega) (by omega) (fun hr => ?_) (fun _ => fin)
    · have hj' : j < 3 := hj
      have := hsp (n * 3 + j) (by omega)
      rw [← Nat.add_assoc] at this
      exact this
    · have h3 : (lc l).length = 3 := rfl
      have sp : ∀ j, j < (lc l).length → (w.cell? ⟨g, off + n * 3 + j, none⟩).isSome = true := fun j hj => by
        have hj' : j < 3 := hj
        have := (hsp (n * 3 + j) (by omega)).1
        rw [← Nat.add_assoc] at this
        exact this
      refine hK (some ⟨g, off, none⟩) cap (w.setCells g (off + n * 3) (lc l)) ⟨by simp [hl], .inr ⟨g, off, rfl, ?_, hr, fun j u hj => ?_, fun j hj => ?_⟩⟩ ?_ (.inl rfl)
      · rw [size_setCells]; exact hgl
      · rw [lcs_snoc] at hj
        by_cases hjn : j < n * 3
        · rw [World.cell?_setCells_out g _ _ _ _ (fun _ _ => .inl (by show off + j < off + n * 3; omega))]
          rw [List.getElem?_append_left (by rw [lcs_length]; omega)] at hj
          exact hcs j u hj
        · rw [List.getElem?_append_right (by rw [lcs_length]; omega)] at hj
          rw [lcs_length, ← hl] at hj
          have hlt : j - n * 3 < (lc l).length := (List.getElem?_eq_some_iff.1 hj).1
          have := World.cell?_setCells_in g (lc l) (off + n * 3) w sp (j - n * 3) hlt
          have e : off + n * 3 + (j - n * 3) = off + j := by omega
          rw [e] at this
          rw [this, ← hj, List.getElem?_eq_getElem hlt]
      · refine ⟨World.isSome_setCells g _ _ _ _ (hsp j hj).1, ?_⟩
        rw [World.frozen?_setCells]
        exact (hsp j hj).2
      · refine ⟨World.os_setCells _ _ _ _, ?_, World.output_setCells _ _ _ _, by rw [size_setCells]; exact Nat.le_refl _, fun k hk hne => World.heap_setCells_other w g _ _ hk (fun e => hne (by rw [e]; rfl))⟩
        exact tape_setCells g (lc l) _ w
end Go.Tp
