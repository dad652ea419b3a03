/- TpT3: Drain. -/
import Derived.Test.YtmmaicjkkcljhaaTpT2
import Derived.LoopTactic
import Derived.Deep.AppendLies
import Derived.WalkMore
import Derived.Scope
namespace Go.Tp
open Go Go.RowKit Go.Proofs
set_option linter.unusedVariables false

def slen : Value → Nat
  | .slice _ n _ => n
  | _ => 0
theorem Fr.grown {p cu co : Nat} {w w1 w2 : World} {row : Option Nat} (h : Fr p cu co w w1) (g : w1.grownBy w2 row) (hr : ∀ k, row = some k → w.heap.size ≤ k) : Fr p cu co w w2 :=
  ⟨g.os.trans h.os, g.tape.trans h.tape, g.output.trans h.output, Nat.le_trans h.size g.size, fun k hk a b c => (g.block k (Nat.lt_of_lt_of_le hk h.size) (fun e => by have := hr k e.symm; omega)).trans (h.block k hk a b c)⟩
theorem Fr.alloc {p cu co : Nat} {w w1 : World} (h : Fr p cu co w w1) (o : Obj) : Fr p cu co w (w1.alloc o) := h.grown (World.grownBy_alloc w1 o none) (fun k hk => by cases hk)
theorem drop_cons {α : Type} {A : List α} {k : Nat} {l : α} {A' : List α} (h : A.drop k = l :: A') : A.drop (k + 1) = A' ∧ k < A.length ∧ A[k]? = some l := by
  have hk : k < A.length := by
    by_cases g : k < A.length
    · exact g
    · rw [List.drop_of_length_le (by omega)] at h; cases h
  rw [List.drop_eq_getElem_cons hk] at h
  cases h
  exact ⟨rfl, hk, List.getElem?_eq_getElem hk⟩
theorem take_snoc {α : Type} {X : List α} {k : Nat} {l : α} (h : X[k]? = some l) : X.take (k + 1) = X.take k ++ [l] := by
  have hk : k < X.length := (List.getElem?_eq_some_iff.1 h).1
  rw [List.take_succ_eq_append_getElem hk]
  rw [List.getElem?_eq_getElem hk] at h
  cases h
  rfl

theorem Win.fr {w w' : World} {a : Option Addr} {n cap p cu co : Nat} {A : List L} (h : Win w a n cap A) (hF : Fr p cu co w w') (hn : ∀ g, blk a = some g → g ≠ p ∧ g ≠ cu ∧ g ≠ co) : Win w' a n cap A := by
  refine h.kept hF.size (fun g hg => ?_)
  obtain ⟨n1, n2, n3⟩ := hn g hg
  refine hF.block g ?_ n1 n2 n3
  rcases h.2 with ⟨rfl, _⟩ | ⟨g', o, rfl, hl, _⟩
  · cases hg
  · cases hg; exact hl
theorem Win.lt {w : World} {a : Option Addr} {n cap : Nat} {A : List L} (h : Win w a n cap A) {g : Nat} (hg : blk a = some g) : g < w.heap.size := by
  rcases h.2 with ⟨rfl, _⟩ | ⟨g', o, rfl, hl, _⟩
  · cases hg
  · cases hg; exact hl
theorem Win.alloc {w : World} {a : Option Addr} {n cap : Nat} {A : List L} (h : Win w a n cap A) (o : Obj) : Win (w.alloc o) a n cap A :=
  h.kept (by simp) (fun g hg => Below.heap_alloc w o g (h.lt hg))
theorem tr1 {p cu co : Nat} {A B : List L} {cl : Bool} {w : World} (h : TR p cu co A B cl w) (o : Obj) : TR p cu co A B cl (w.alloc o) :=
  h.below ((Below.refl _ _).alloc (Nat.le_refl _) o)
theorem tr2 {p cu co : Nat} {A B : List L} {cl : Bool} {w : World} (h : TR p cu co A B cl w) (o o' : Obj) : TR p cu co A B cl ((w.alloc o).alloc o') := tr1 (tr1 h o) o'
theorem own3 {a a3 : Option Addr} {w w2 : World} {o o' : Obj} (hab : ∀ g, blk a = some g → w.heap.size ≤ g) (hs : w.heap.size ≤ w2.heap.size) (hb : blk a3 = blk a ∨ ∃ g, blk a3 = some g ∧ ((w2.alloc o).alloc o').heap.size ≤ g) : ∀ g, blk a3 = some g → w.heap.size ≤ g := by
  intro g hg
  rcases hb with e | ⟨g', e, hl⟩
  · exact hab g (by rw [← e]; exact hg)
  · rw [e] at hg
    cases hg
    simp at hl
    omega
theorem news (w : World) (l : L) : ∀ j u, (lc l)[j]? = some u → (w.alloc (.cells #[.string l.s1, .string l.s2, .bool l.u] 28)).cell? ((⟨w.heap.size, 0, none⟩ : Addr).add j) = some u :=
  World.news_of_block (cs := #[.string l.s1, .string l.s2, .bool l.u]) (MapKept.heap_alloc w _).1

theorem news2 (w : World) (o : Obj) (l : L) : ∀ j u, (lc l)[j]? = some u → ((w.alloc o).alloc (.cells #[.string l.s1, .string l.s2, .bool l.u] 28)).cell? ((⟨w.heap.size + 1, 0, none⟩ : Addr).add j) = some u := by
  have := news (w.alloc o) l
  have e : (w.alloc o).heap.size = w.heap.size + 1 := by simp
  rw [e] at this
  exact this

set_option maxHeartbeats 4000000 in
set_option maxRecDepth 100000 in
theorem drain_is {p cu co : Nat} {A B : List L} {cl : Bool} {w : World} (h : TR p cu co A B cl w) (most : Int) (hA : A.length ≤ 8) (hB : B.length ≤ 8) :
    Calls Try.prog 8 #[.pointer (some ⟨p, 0, none⟩), .int .i64 most] w fun e w' => ∃ (k : Nat) (a : Option Addr) (cap : Nat), e = .returned (.slice a k cap) ∧ k ≤ A.length + B.length ∧ ((k : Int) = most ∨ most ≤ 0 ∧ k = 0 ∨ (k : Int) < most ∧ k = A.length + B.length) ∧
      Win w' a k cap ((A ++ B).take k) ∧ (∀ g, blk a = some g → w.heap.size ≤ g) ∧ TR p cu co (A.drop k) (B.drop (k - A.length)) cl w' ∧ Fr p cu co w w' := by
  have lp := h.p_lt; have lu := h.cu_lt; have lo := h.co_lt
  go_enter Try.func8, Try.ntmps8
  go_wp2
  try go_step3
  try go_wp2
  try go_step3
  try go_wp2
  go_loopw [5] (fun v5 wr => ∃ (k : Nat) (a : Option Addr) (cap : Nat), v5 = .slice a k cap ∧ k ≤ A.length + B.length ∧ ((k : Int) ≤ most ∨ k = 0) ∧ Win wr a k cap ((A ++ B).take k) ∧ (∀ g, blk a = some g → w.heap.size ≤ g) ∧ TR p cu co (A.drop k) (B.drop (k - A.length)) cl wr ∧ Fr p cu co w wr)
    (fun v _ => A.length + B.length - slen v)
  case atStart => exact ⟨0, none, 0, rfl, by omega, .inr rfl, by simpa using Win.nil w, (fun g hg => by cases hg), by simpa using h, Fr.refl w⟩
  case round =>
    obtain ⟨k, a, cap, rfl, hk, hkm, hW, hab, hT, hF⟩ := hrel
    have hne : ∀ g, blk a = some g → g ≠ p ∧ g ≠ cu ∧ g ≠ co := fun g hg => by have := hab g hg; omega
    by_cases hlt : (k : Int) < most
    · cases ha : A.drop k with
      | cons l A' =>
        obtain ⟨d1, d2, d3⟩ := drop_cons ha
        have db : B.drop (k - A.length) = B := by rw [show k - A.length = 0 by omega]; rfl
        have db' : B.drop (k + 1 - A.length) = B := by rw [show k + 1 - A.length = 0 by omega]; rfl
        have dk : (A ++ B)[k]? = some l := by rw [List.getElem?_append_left d2]; exact d3
        rw [ha, db] at hT
        go_wp2_with (first
          | (go_at_call 10; with_reducible refine (take_a hT).mono ?_; rintro e w2 ⟨rfl, hT2, hF2⟩)
          | (at_builtin; refine wpList_append_win _ rfl _ _ rfl a k cap _ rfl (((hW.fr hF2 hne).alloc _).alloc _) (by omega) _ l rfl (news2 _ _ l) ?_; intro a3 cap3 w3 hW3 hg3 hb3)
          | go_in)
        go_roundw
        case rel =>
          refine ⟨k + 1, a3, cap3, rfl, by omega, .inl (by omega), by rw [take_snoc dk]; exact hW3, ?_, ?_, ?_⟩
          · exact own3 hab (Nat.le_trans hF.size hF2.size) hb3
          · rw [d1, db']
            exact (tr2 hT2 _ _).grown hg3 (fun e => (hne _ e).1 rfl) (fun e => (hne _ e).2.1 rfl) (fun e => (hne _ e).2.2 rfl)
          · exact (((hF.trans hF2).alloc _).alloc _).grown hg3 hab
        case measure => simp [slen]; omega
      | nil =>
        have hAk : A.length ≤ k := by
          have := congrArg List.length ha
          simp at this
          omega
        cases hb : B.drop (k - A.length) with
        | cons l B' =>
          obtain ⟨d1, d2, d3⟩ := drop_cons hb
          have da' : A.drop (k + 1) = [] := List.drop_of_length_le (by omega)
          have dk : (A ++ B)[k]? = some l := by rw [List.getElem?_append_right hAk]; exact d3
          have db' : B.drop (k + 1 - A.length) = B' := by rw [show k + 1 - A.length = k - A.length + 1 by omega]; exact d1
          rw [ha, hb] at hT
          go_wp2_with (first
            | (go_at_call 10; with_reducible refine (take_b hT).mono ?_; rintro e w2 ⟨rfl, hT2, hF2⟩)
            | (at_builtin; refine wpList_append_win _ rfl _ _ rfl a k cap _ rfl (((hW.fr hF2 hne).alloc _).alloc _) (by omega) _ l rfl (news2 _ _ l) ?_; intro a3 cap3 w3 hW3 hg3 hb3)
            | go_in)
          go_roundw
          case rel =>
            refine ⟨k + 1, a3, cap3, rfl, by omega, .inl (by omega), by rw [take_snoc dk]; exact hW3, ?_, ?_, ?_⟩
            · exact own3 hab (Nat.le_trans hF.size hF2.size) hb3
            · rw [da', db']
              exact (tr2 hT2 _ _).grown hg3 (fun e => (hne _ e).1 rfl) (fun e => (hne _ e).2.1 rfl) (fun e => (hne _ e).2.2 rfl)
            · exact (((hF.trans hF2).alloc _).alloc _).grown hg3 hab
          case measure => simp [slen]; omega
        | nil =>
          have hBk : B.length ≤ k - A.length := by
            have := congrArg List.length hb
            simp at this
            omega
          rw [ha, hb] at hT
          go_wp2_with (first
            | (go_at_call 10; with_reducible refine (take_0 hT).mono ?_; rintro e w2 ⟨rfl, hT2, hF2⟩)
            | go_in)
          rw [Exit.noGoto_ret]
          go_ret
          refine ⟨k, a, cap, rfl, hk, .inr (.inr ⟨hlt, by omega⟩), (hW.fr hF2 hne).alloc _, hab, ?_, (hF.trans hF2).alloc _⟩
          rw [ha, hb]
          exact tr1 hT2 _
    · go_wp2
      go_ret
      exact ⟨k, a, cap, rfl, hk, by omega, hW, hab, hT, hF⟩
end Go.Tp
