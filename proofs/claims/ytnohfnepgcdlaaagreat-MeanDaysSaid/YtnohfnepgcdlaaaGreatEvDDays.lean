/- DDays: MeanDays' call, on any two ints. -/
import Derived.Test.YtnohfnepgcdlaaaGreatEvDDays0
import Derived.Test.YtnohfnepgcdlaaaGreatEvDDays1
import Derived.Test.YtnohfnepgcdlaaaGreatEvDDays2
import Derived.Test.YtnohfnepgcdlaaaGreatEvDDays3
import GoSem.Claim
namespace Go.EvM.DRun
open Go.RowKit Go.Proofs Go.EvM.DDel
theorem dot2 (x y a b : Int) : dotL [x, y] [a, b] = x * a + y * b := by simp [dotL]
theorem days (a b : Int) (ha : -9223372036854775808 ≤ a ∧ a ≤ 9223372036854775807) (hb : -9223372036854775808 ≤ b ∧ b ≤ 9223372036854775807) (w : World) :
    Calls Tryz.prog 3 #[.int .i64 a, .int .i64 b] w fun e w' => e = .returned (.bool true) ∧ Below w.heap.size w w' := by
  letI U : Unk := ⟨[a, b]⟩
  have va : VR (fun _ => none) (sy [0, 1, 0]) (.int .i64 a) := .sym (c := 0) (cs := [1, 0]) rfl (by show a = 0 + dotL [1, 0] [a, b]; rw [dot2]; omega)
  have vb : VR (fun _ => none) (sy [0, 0, 1]) (.int .i64 b) := .sym (c := 0) (cs := [0, 1]) rfl (by show b = 0 + dotL [0, 1] [a, b]; rw [dot2]; omega)
  have key : ∀ {F : List Fact}, FOk F → ∀ {x y : Value}, yesF F Tryz.f3 [x, y] = true → VR (fun _ => none) x (.int .i64 a) → VR (fun _ => none) y (.int .i64 b) → Calls Tryz.prog 3 #[.int .i64 a, .int .i64 b] w fun e w' => e = .returned (.bool true) ∧ Below w.heap.size w w' := fun hF x y e hx hy =>
    fast_yes (args' := [.int .i64 a, .int .i64 b]) (sound hF) 2000 f3 n3 b3 e (.cons hx (.cons hy .nil)) w (gl_ok w)
  have fact : ∀ (x y lo hi : Int), lo ≤ x * a + y * b → x * a + y * b ≤ hi → lo ≤ dotL [x, y] Unk.Z ∧ dotL [x, y] Unk.Z ≤ hi := fun x y lo hi h1 h2 => by
    show lo ≤ dotL [x, y] [a, b] ∧ dotL [x, y] [a, b] ≤ hi
    rw [dot2]; exact ⟨h1, h2⟩
  have one : ∀ {f : Fact}, (f.2.1 ≤ dotL f.1 Unk.Z ∧ dotL f.1 Unk.Z ≤ f.2.2) → FOk [f] := fun h g hg => by simp at hg; subst hg; exact h
  have cons : ∀ {f : Fact} {F : List Fact}, (f.2.1 ≤ dotL f.1 Unk.Z ∧ dotL f.1 Unk.Z ≤ f.2.2) → FOk F → FOk (f :: F) := fun h hF g hg => by
    rcases List.mem_cons.1 hg with rfl | hg
    · exact h
    · exact hF g hg
  by_cases a0 : a < 0
  · exact key (one (fact 1 0 (-9223372036854775808) (-1) (by omega) (by omega))) days_a0 va vb
  · by_cases a1 : 109572 < a
    · exact key (one (fact 1 0 109573 9223372036854775807 (by omega) (by omega))) days_a1 va vb
    · by_cases b0 : b < 0
      · exact key (cons (fact 1 0 0 109572 (by omega) (by omega)) (one (fact 0 1 (-9223372036854775808) (-1) (by omega) (by omega)))) days_b0 va vb
      · by_cases b1 : 109572 < b
        · exact key (cons (fact 1 0 0 109572 (by omega) (by omega)) (one (fact 0 1 109573 9223372036854775807 (by omega) (by omega)))) days_b1 va vb
        · rcases Int.lt_trichotomy a b with h | h | h
          · exact key (cons (fact 1 0 0 109572 (by omega) (by omega)) (cons (fact 0 1 0 109572 (by omega) (by omega)) (one (fact (-1) 1 1 109572 (by omega) (by omega))))) days_r1 va vb
          · subst h
            exact key (cons (fact 1 0 0 109572 (by omega) (by omega)) (one (fact 0 1 0 109572 (by omega) (by omega)))) days_r3 va va
          · exact key (cons (fact 1 0 0 109572 (by omega) (by omega)) (cons (fact 0 1 0 109572 (by omega) (by omega)) (one (fact (-1) 1 (-109572) (-1) (by omega) (by omega))))) days_r2 va vb
theorem wf_bd {a : Int} (h : (Lit.int .i64 a).wf = true) : -9223372036854775808 ≤ a ∧ a ≤ 9223372036854775807 := by
  simp [Lit.wf, IntKind.min, IntKind.max, IntKind.bits, IntKind.signed] at h
  exact h
theorem meanDays (a b : Int) (wa : (Lit.int .i64 a).wf = true) (wb : (Lit.int .i64 b).wf = true) (w : World) :
    Calls Tryz.prog 3 #[.int .i64 a, .int .i64 b] w fun e w' => e = .returned (.bool true) ∧ Below w.heap.size w w' := days a b (wf_bd wa) (wf_bd wb) w
end Go.EvM.DRun
