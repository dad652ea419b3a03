/- TpT2: the tray, and its calls. -/
import Derived.Test.YtmmaicjkkcljhaaTpT1
import Derived.Test.YtmmaicjkkcljhaaEvTSum
import Derived.Deep.QuietTactic
import Derived.BigQuiet
import Derived.WalkSmall
namespace Go.Tp
open Go Go.RowKit Go.Proofs
open Go.EvM.TTray (Upd upd_put put_closed put_u_room put_u_full put_o_room put_o_full take_u take_o take_n zv)
set_option linter.unusedVariables false

/-- Behind a pointer to block p a tray lies that holds A and B. -/
structure TR (p cu co : Nat) (A B : List L) (cl : Bool) (w : World) : Prop where
  cells : w.heap[p]? = some (.cells #[.chan (some cu), .chan (some co), .bool cl] 41 (0, 0))
  ch1 : ∃ s r, w.heap[cu]? = some (.chan 8 (A.map lv).toArray false s r false)
  ch2 : ∃ s r, w.heap[co]? = some (.chan 8 (B.map lv).toArray false s r false)
  ne : cu ≠ co
/-- Nothing else has turned. -/
structure Fr (p cu co : Nat) (w w' : World) : Prop where
  os : w'.os = w.os
  tape : w'.tape = w.tape
  output : w'.output = w.output
  size : w.heap.size ≤ w'.heap.size
  block : ∀ k, k < w.heap.size → k ≠ p → k ≠ cu → k ≠ co → w'.heap[k]? = w.heap[k]?

section
variable {p cu co : Nat} {A B : List L} {cl : Bool} {w w' : World}
theorem Fr.refl (w : World) : Fr p cu co w w := ⟨rfl, rfl, rfl, Nat.le_refl _, fun _ _ _ _ _ => rfl⟩
theorem Fr.trans {w'' : World} (h : Fr p cu co w w') (k : Fr p cu co w' w'') : Fr p cu co w w'' :=
  ⟨k.os.trans h.os, k.tape.trans h.tape, k.output.trans h.output, Nat.le_trans h.size k.size, fun i hi a b c => (k.block i (Nat.lt_of_lt_of_le hi h.size) a b c).trans (h.block i hi a b c)⟩
theorem Fr.ofBelow (h : Below w.heap.size w w') : Fr p cu co w w' := ⟨h.os, h.tape, h.output, h.size, fun i hi _ _ _ => h.block i hi⟩
theorem Fr.ofUpd {c : Nat} {o : Obj} (h : Upd c o w w') (hc : c = p ∨ c = cu ∨ c = co) : Fr p cu co w w' :=
  ⟨h.os, h.tape, h.output, h.size, fun i hi a b c' => h.same i hi (fun e => by rcases hc with rfl | rfl | rfl <;> contradiction)⟩
theorem Fr.below {B0 : Nat} {w0 : World} (h : Fr p cu co w w') (hb : Below B0 w0 w) (h1 : B0 ≤ p) (h2 : B0 ≤ cu) (h3 : B0 ≤ co) (h4 : B0 ≤ w.heap.size) : Below B0 w0 w' :=
  ⟨h.os.trans hb.os, h.tape.trans hb.tape, h.output.trans hb.output, Nat.le_trans hb.size h.size, fun k hk => (h.block k (by omega) (by omega) (by omega) (by omega)).trans (hb.block k hk)⟩

theorem TR.p_lt (h : TR p cu co A B cl w) : p < w.heap.size := (Array.getElem?_eq_some_iff.1 h.cells).1
theorem TR.cu_lt (h : TR p cu co A B cl w) : cu < w.heap.size := by obtain ⟨_, _, e⟩ := h.ch1; exact (Array.getElem?_eq_some_iff.1 e).1
theorem TR.co_lt (h : TR p cu co A B cl w) : co < w.heap.size := by obtain ⟨_, _, e⟩ := h.ch2; exact (Array.getElem?_eq_some_iff.1 e).1
theorem TR.p_cu (h : TR p cu co A B cl w) : p ≠ cu := by
  obtain ⟨_, _, e⟩ := h.ch1
  intro x
  rw [← x, h.cells] at e
  cases e
theorem TR.p_co (h : TR p cu co A B cl w) : p ≠ co := by
  obtain ⟨_, _, e⟩ := h.ch2
  intro x
  rw [← x, h.cells] at e
  cases e
theorem TR.c0 (h : TR p cu co A B cl w) : w.cell? ⟨p, 0, none⟩ = some (.chan (some cu)) := by simp [World.cell?, h.cells]
theorem TR.c1 (h : TR p cu co A B cl w) : w.cell? ⟨p, 1, none⟩ = some (.chan (some co)) := by simp [World.cell?, h.cells]
theorem TR.c2 (h : TR p cu co A B cl w) : w.cell? ⟨p, 2, none⟩ = some (.bool cl) := by simp [World.cell?, h.cells]
theorem TR.kept (h : TR p cu co A B cl w) (hs : w.heap.size ≤ w'.heap.size) (hb : ∀ k, k < w.heap.size → w'.heap[k]? = w.heap[k]?) : TR p cu co A B cl w' :=
  ⟨(hb p h.p_lt).trans h.cells, by obtain ⟨s, r, e⟩ := h.ch1; exact ⟨s, r, (hb cu h.cu_lt).trans e⟩, by obtain ⟨s, r, e⟩ := h.ch2; exact ⟨s, r, (hb co h.co_lt).trans e⟩, h.ne⟩
theorem TR.below (h : TR p cu co A B cl w) (hb : Below w.heap.size w w') : TR p cu co A B cl w' := h.kept hb.size hb.block
theorem TR.grown (h : TR p cu co A B cl w) {row : Option Nat} (hg : w.grownBy w' row) (h1 : row ≠ some p) (h2 : row ≠ some cu) (h3 : row ≠ some co) : TR p cu co A B cl w' :=
  ⟨(hg.block p h.p_lt (fun e => h1 e.symm)).trans h.cells, by obtain ⟨s, r, e⟩ := h.ch1; exact ⟨s, r, (hg.block cu h.cu_lt (fun e => h2 e.symm)).trans e⟩, by obtain ⟨s, r, e⟩ := h.ch2; exact ⟨s, r, (hg.block co h.co_lt (fun e => h3 e.symm)).trans e⟩, h.ne⟩
theorem TR.upd1 {A' : List L} {s r : Nat} (h : TR p cu co A B cl w) (hu : Upd cu (.chan 8 (A'.map lv).toArray false s r false) w w') : TR p cu co A' B cl w' :=
  ⟨(hu.same p h.p_lt h.p_cu).trans h.cells, ⟨s, r, hu.new⟩, by obtain ⟨s, r, e⟩ := h.ch2; exact ⟨s, r, (hu.same co h.co_lt (fun e => h.ne e.symm)).trans e⟩, h.ne⟩
theorem TR.upd2 {B' : List L} {s r : Nat} (h : TR p cu co A B cl w) (hu : Upd co (.chan 8 (B'.map lv).toArray false s r false) w w') : TR p cu co A B' cl w' :=
  ⟨(hu.same p h.p_lt h.p_co).trans h.cells, by obtain ⟨s, r, e⟩ := h.ch1; exact ⟨s, r, (hu.same cu h.cu_lt h.ne).trans e⟩, ⟨s, r, hu.new⟩, h.ne⟩

/-- What Put says. -/
def pR (A B : List L) (cl : Bool) (l : L) : Int := if cl = true then 4 else if l.u = true then (if 8 ≤ A.length then 6 else 0) else (if 8 ≤ B.length then 6 else 0)
def pA (A : List L) (cl : Bool) (l : L) : List L := if cl = true then A else if l.u = true then (if 8 ≤ A.length then A else A ++ [l]) else A
def pB (B : List L) (cl : Bool) (l : L) : List L := if cl = true then B else if l.u = true then B else (if 8 ≤ B.length then B else B ++ [l])

theorem put_is (h : TR p cu co A B cl w) (l : L) :
    Calls Try.prog 7 #[.pointer (some ⟨p, 0, none⟩), .agg #[.string l.s1, .string l.s2, .bool l.u]] w fun e w' => e = .returned (.int .i64 (pR A B cl l)) ∧ TR p cu co (pA A cl l) (pB B cl l) cl w' ∧ Fr p cu co w w' := by
  cases cl with
  | true =>
    refine (put_closed p l.s1 l.s2 l.u w h.p_lt h.c2).mono ?_
    rintro e w' ⟨rfl, rfl⟩
    have hb : Below w.heap.size w (w.alloc (.cells #[.string l.s1, .string l.s2, .bool l.u] 28)) := (Below.refl _ _).alloc (Nat.le_refl _) _
    exact ⟨by simp [pR], by simpa [pA, pB] using h.below hb, Fr.ofBelow hb⟩
  | false =>
    obtain ⟨s1, s2, u⟩ := l
    cases u with
    | true =>
      obtain ⟨s, r, e1⟩ := h.ch1
      by_cases hf : 8 ≤ A.length
      · refine (put_u_full p cu co s1 s2 w _ s r h.p_lt h.c0 h.c1 h.c2 e1 (by simpa using hf)).mono ?_
        rintro e w' ⟨rfl, rfl⟩
        have hb : Below w.heap.size w (w.alloc (.cells #[.string s1, .string s2, .bool true] 28)) := (Below.refl _ _).alloc (Nat.le_refl _) _
        exact ⟨by simp [pR, hf], by simpa [pA, pB, hf] using h.below hb, Fr.ofBelow hb⟩
      · refine (put_u_room p cu co s1 s2 w _ s r h.p_lt h.c0 h.c1 h.c2 e1 (by simp; omega)).mono ?_
        rintro e w' ⟨rfl, rfl⟩
        have hu := upd_put (c := cu) (s := s) (r := r) (buf := (A.map lv).toArray) (w := w) (o1 := .cells #[.string s1, .string s2, .bool true] 28) (x := .agg #[.string s1, .string s2, .bool true]) h.cu_lt
        have e2 : (A.map lv).toArray.push (.agg #[.string s1, .string s2, .bool true]) = ((A ++ [(⟨s1, s2, true⟩ : L)]).map lv).toArray := by simp [lv]
        rw [e2] at hu ⊢
        exact ⟨by simp [pR, hf], by simpa [pA, pB, hf] using h.upd1 hu, Fr.ofUpd hu (.inr (.inl rfl))⟩
    | false =>
      obtain ⟨s, r, e1⟩ := h.ch2
      by_cases hf : 8 ≤ B.length
      · refine (put_o_full p cu co s1 s2 w _ s r h.p_lt h.c0 h.c1 h.c2 e1 (by simpa using hf)).mono ?_
        rintro e w' ⟨rfl, rfl⟩
        have hb : Below w.heap.size w (w.alloc (.cells #[.string s1, .string s2, .bool false] 28)) := (Below.refl _ _).alloc (Nat.le_refl _) _
        exact ⟨by simp [pR, hf], by simpa [pA, pB, hf] using h.below hb, Fr.ofBelow hb⟩
      · refine (put_o_room p cu co s1 s2 w _ s r h.p_lt h.c0 h.c1 h.c2 e1 (by simp; omega)).mono ?_
        rintro e w' ⟨rfl, rfl⟩
        have hu := upd_put (c := co) (s := s) (r := r) (buf := (B.map lv).toArray) (w := w) (o1 := .cells #[.string s1, .string s2, .bool false] 28) (x := .agg #[.string s1, .string s2, .bool false]) h.co_lt
        have e2 : (B.map lv).toArray.push (.agg #[.string s1, .string s2, .bool false]) = ((B ++ [(⟨s1, s2, false⟩ : L)]).map lv).toArray := by simp [lv]
        rw [e2] at hu ⊢
        exact ⟨by simp [pR, hf], by simpa [pA, pB, hf] using h.upd2 hu, Fr.ofUpd hu (.inr (.inr rfl))⟩

/-- Take, from the urgent ones. -/
theorem take_a {l : L} (h : TR p cu co (l :: A) B cl w) :
    Calls Try.prog 10 #[.pointer (some ⟨p, 0, none⟩)] w fun e w' => e = .returned (.tuple #[.agg #[.string l.s1, .string l.s2, .bool l.u], .bool true]) ∧ TR p cu co A B cl w' ∧ Fr p cu co w w' := by
  obtain ⟨s, r, e1⟩ := h.ch1
  obtain ⟨s', r', _⟩ := h.ch2
  refine (take_u p cu co l.s1 l.s2 l.u w _ s r s' r' h.p_lt h.c0 h.c1 e1 (by simp [lv]) (by simp)).mono ?_
  rintro e w' ⟨rfl, hu⟩
  have e2 : ((l :: A).map lv).toArray.extract 1 ((l :: A).map lv).toArray.size = (A.map lv).toArray := by
    apply Array.ext'
    simp
    exact List.take_of_length_le (by simp)
  rw [e2] at hu
  exact ⟨rfl, h.upd1 hu, Fr.ofUpd hu (.inr (.inl rfl))⟩
theorem take_b {l : L} (h : TR p cu co [] (l :: B) cl w) :
    Calls Try.prog 10 #[.pointer (some ⟨p, 0, none⟩)] w fun e w' => e = .returned (.tuple #[.agg #[.string l.s1, .string l.s2, .bool l.u], .bool true]) ∧ TR p cu co [] B cl w' ∧ Fr p cu co w w' := by
  obtain ⟨s, r, e1⟩ := h.ch2
  obtain ⟨s', r', e0⟩ := h.ch1
  refine (take_o p cu co l.s1 l.s2 l.u w _ s r s' r' h.p_lt h.c0 h.c1 e0 e1 (by simp [lv]) (by simp)).mono ?_
  rintro e w' ⟨rfl, hu⟩
  have e2 : ((l :: B).map lv).toArray.extract 1 ((l :: B).map lv).toArray.size = (B.map lv).toArray := by
    apply Array.ext'
    simp
    exact List.take_of_length_le (by simp)
  rw [e2] at hu
  exact ⟨rfl, h.upd2 hu, Fr.ofUpd hu (.inr (.inr rfl))⟩
theorem take_0 (h : TR p cu co [] [] cl w) :
    Calls Try.prog 10 #[.pointer (some ⟨p, 0, none⟩)] w fun e w' => e = .returned (.tuple #[.agg #[.string ⟨#[]⟩, .string ⟨#[]⟩, .bool false], .bool false]) ∧ TR p cu co [] [] cl w' ∧ Fr p cu co w w' := by
  obtain ⟨s, r, e1⟩ := h.ch2
  obtain ⟨s', r', e0⟩ := h.ch1
  refine (take_n p cu co ⟨#[]⟩ ⟨#[]⟩ false w #[] s r s' r' h.p_lt h.c0 h.c1 e0 e1).mono ?_
  rintro e w' ⟨rfl, hb⟩
  exact ⟨rfl, h.below hb, Fr.ofBelow hb⟩

theorem lenC (c : Nat) (buf : Array Value) (s r : Nat) (w : World) (hc : w.heap[c]? = some (.chan 8 buf false s r false)) (ty : TypeId) (k : Nat) :
    (Builtin.len_ #[39] ty #[.chan (some c)]).run Try.prog (w.drewN k) = .ok (.int .i64 buf.size) (w.drewN k) := by
  have hu := Try.underlying39
  simp [Builtin.len_, run_underlying hu, goInt, getObj, Sem.run, hc, Result.andThen]
theorem len_is (h : TR p cu co A B cl w) :
    Calls Try.prog 11 #[.pointer (some ⟨p, 0, none⟩)] w fun e w' => e = .returned (.tuple #[.int .i64 A.length, .int .i64 B.length]) ∧ TR p cu co A B cl w' ∧ Below w.heap.size w w' := by
  obtain ⟨s, r, e1⟩ := h.ch1
  obtain ⟨s', r', e2⟩ := h.ch2
  have g0 := h.c0
  have g1 : w.cell? ⟨p, 0 + 1, none⟩ = some (.chan (some co)) := h.c1
  have q1 := fun ty k => lenC cu _ s r w e1 ty k
  have q2 := fun ty k => lenC co _ s' r' w e2 ty k
  go_enter Try.func11, Try.ntmps11
  go_wp2
  go_quiet (fail)
  go_wp2
  go_ret2
  exact ⟨by simp, h.below (below_drewN (Below.refl _ _) _), below_drewN (Below.refl _ _) _⟩
theorem close_is (h : TR p cu co A B cl w) :
    Calls Try.prog 9 #[.pointer (some ⟨p, 0, none⟩)] w fun e w' => e = .returned (.tuple #[]) ∧ TR p cu co A B true w' ∧ Fr p cu co w w' := by
  have g2 : w.cell? ⟨p, 0 + 2, none⟩ = some (.bool cl) := h.c2
  have f2 : w.frozen? ⟨p, 0 + 2, none⟩ = false := by simp [World.frozen?, h.cells]
  go_enter Try.func9, Try.ntmps9
  go_wp2
  go_end0
  have hs := heap_setCell_same w p (0 + 2) _ 41 (.bool true) h.cells
  have ho : ∀ k, k ≠ p → (w.setCell ⟨p, 0 + 2, none⟩ (.bool true)).heap[k]? = w.heap[k]? := fun k hk => heap_setCell_other w ⟨p, 0 + 2, none⟩ k _ hk
  refine ⟨rfl, ⟨by simpa using hs, ?_, ?_, h.ne⟩, ⟨rfl, rfl, rfl, by simp, fun k _ hk _ _ => ho k hk⟩⟩
  · obtain ⟨s, r, e⟩ := h.ch1; exact ⟨s, r, (ho cu (fun x => h.p_cu x.symm)).trans e⟩
  · obtain ⟨s, r, e⟩ := h.ch2; exact ⟨s, r, (ho co (fun x => h.p_co x.symm)).trans e⟩
end
end Go.Tp
