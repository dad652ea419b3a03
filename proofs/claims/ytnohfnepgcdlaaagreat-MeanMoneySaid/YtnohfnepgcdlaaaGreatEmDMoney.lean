/- DMoney: MeanMoney's call, on any three ints. -/
import Derived.Test.YtnohfnepgcdlaaaGreatEmDMoneyO
import Derived.Test.YtnohfnepgcdlaaaGreatEmDMoneyE
import Derived.Test.YtnohfnepgcdlaaaGreatEmDMoneyA
import Derived.Test.YtnohfnepgcdlaaaGreatEmDMoneyB
import Derived.Test.YtnohfnepgcdlaaaGreatEmDMoneyC1
import Derived.Test.YtnohfnepgcdlaaaGreatEmDMoneyC2
import Derived.Test.YtnohfnepgcdlaaaGreatEmDMoneyC3
import GoSem.Claim
namespace Go.EvM.DRun
open Go.RowKit Go.Proofs Go.EvM.DDel
set_option linter.unusedVariables false
set_option linter.unusedSimpArgs false

/-- The unknowns: a money, a rate, another money; the product of the first two, its millionths; the first money's millions by the second, and what is left. -/
def unk (m r k : Int) : List Int := [m, r, k, m * r, Int.tdiv (m * r) 1000000, Int.tdiv (1000000 * m) k, Int.tmod (1000000 * m) k]
abbrev gu (m r k : Int) : GLs := @gls ⟨unk m r k⟩
theorem dot7 (x0 x1 x2 x3 x4 x5 x6 m r k : Int) : dotL [x0, x1, x2, x3, x4, x5, x6] (unk m r k) = x0 * m + (x1 * r + (x2 * k + (x3 * (m * r) + (x4 * Int.tdiv (m * r) 1000000 + (x5 * Int.tdiv (1000000 * m) k + x6 * Int.tmod (1000000 * m) k))))) := by
  simp [dotL, unk]
theorem dF (c x0 x1 x2 x3 x4 x5 x6 m r k : Int) : @dotF (gu m r k).toUnk [c, x0, x1, x2, x3, x4, x5, x6] = c + (x0 * m + (x1 * r + (x2 * k + (x3 * (m * r) + (x4 * Int.tdiv (m * r) 1000000 + (x5 * Int.tdiv (1000000 * m) k + x6 * Int.tmod (1000000 * m) k)))))) := by
  show c + dotL _ (unk m r k) = _
  rw [dot7]
theorem d1 (c m r k : Int) : @dotF (gu m r k).toUnk [c] = c := by
  show c + dotL [] (unk m r k) = c
  rw [show dotL [] (unk m r k) = 0 from rfl]; omega

/-- What is so of them where they are in range. -/
structure In (m r k : Int) : Prop where
  m0 : 0 ≤ m
  m1 : m ≤ 1073741824
  r0 : 0 ≤ r
  r1 : r ≤ 1000000
  k0 : 1 ≤ k
  k1 : k ≤ 1073741824
theorem In.p0 {m r k : Int} (h : In m r k) : 0 ≤ m * r := Int.mul_nonneg h.m0 h.r0
theorem In.p1 {m r k : Int} (h : In m r k) : m * r ≤ 1073741824000000 := by
  have := Int.mul_le_mul h.m1 h.r1 h.r0 (by omega)
  omega
theorem In.q {m r k : Int} (h : In m r k) : Int.tdiv (m * r) 1000000 = m * r / 1000000 := Int.tdiv_eq_ediv_of_nonneg h.p0
theorem In.b {m r k : Int} (h : In m r k) : Int.tdiv (1000000 * m) k = 1000000 * m / k := Int.tdiv_eq_ediv_of_nonneg (by have := h.m0; omega)
theorem In.b0 {m r k : Int} (h : In m r k) : 0 ≤ Int.tdiv (1000000 * m) k := by
  rw [h.b]; exact Int.ediv_nonneg (by have := h.m0; omega) (by have := h.k0; omega)
theorem In.b1 {m r k : Int} (h : In m r k) : Int.tdiv (1000000 * m) k ≤ 1000000 * m := by
  rw [h.b]
  exact Int.ediv_le_self (a := 1000000 * m) k (by have := h.m0; omega)
theorem In.t {m r k : Int} (h : In m r k) : 0 ≤ Int.tmod (1000000 * m) k ∧ Int.tmod (1000000 * m) k ≤ 1073741824 := by
  rw [Int.tmod_eq_emod_of_nonneg (by have := h.m0; omega)]
  have h1 := Int.emod_nonneg (1000000 * m) (b := k) (by have := h.k0; omega)
  have h2 := Int.emod_lt_of_pos (1000000 * m) (b := k) (by have := h.k0; omega)
  have := h.k1
  omega

theorem tabs_ok {m r k : Int} (h : In m r k) : @TOk (gu m r k) tabs := by
  have k0 := h.k0
  have hq := h.q
  intro t ht
  simp only [tabs, List.mem_cons, List.not_mem_nil, or_false] at ht
  rcases ht with rfl | rfl | rfl | rfl | rfl
  · refine ⟨fun _ => ?_, fun x => (by cases x), fun x => (by cases x)⟩
    dsimp only
    rw [dF, dF, dF]; simp
  · refine ⟨fun x => (by cases x), fun _ => ?_, fun x => (by cases x)⟩
    dsimp only
    rw [dF, dF, d1]; simp
  · refine ⟨fun x => (by cases x), fun _ => ?_, fun x => (by cases x)⟩
    dsimp only
    rw [dF, dF, dF]; simp; omega
  · refine ⟨fun x => (by cases x), fun x => (by cases x), fun _ => ?_⟩
    dsimp only
    rw [dF, dF, d1]
    refine ⟨by omega, ?_⟩
    have g : (0 + (0 * m + (0 * r + (0 * k + (1 * (m * r) + (0 * Int.tdiv (m * r) 1000000 + (0 * Int.tdiv (1000000 * m) k + 0 * Int.tmod (1000000 * m) k))))))) = m * r := by simp
    rw [g, Int.tmod_eq_emod_of_nonneg h.p0, hq]
    simp
    omega
  · refine ⟨fun x => (by cases x), fun x => (by cases x), fun _ => ?_⟩
    dsimp only
    rw [dF, dF, dF]; simp; omega

/-- The products of limbs: the two that are always asked for, and one more. -/
theorem mt_ok {m r k : Int} (h : In m r k) {t : MTab} (ht : @MTOk (gu m r k) t) : @MOk (gu m r k) (t :: mt0) := by
  have m0 := h.m0; have m1 := h.m1; have r0 := h.r0; have r1 := h.r1; have p0 := h.p0; have p1 := h.p1
  intro u hu
  simp only [mt0, List.mem_cons, List.not_mem_nil, or_false] at hu
  rcases hu with rfl | rfl | rfl
  · exact ht
  · unfold MTOk
    dsimp only
    simp only [dF, d1]
    refine ⟨?_, ?_, ?_, ?_, ?_, ?_, ?_, ?_⟩ <;> simp <;> omega
  · unfold MTOk
    dsimp only
    simp only [dF, d1]
    refine ⟨?_, ?_, ?_, ?_, ?_, ?_, ?_, ?_⟩ <;> simp <;> omega
theorem mt0_ok {m r k : Int} (h : In m r k) : @MOk (gu m r k) mt0 := by
  have m0 := h.m0; have m1 := h.m1; have r0 := h.r0; have r1 := h.r1; have p0 := h.p0; have p1 := h.p1
  intro u hu
  simp only [mt0, List.mem_cons, List.not_mem_nil, or_false] at hu
  rcases hu with rfl | rfl
  · unfold MTOk
    dsimp only
    simp only [dF, d1]
    refine ⟨?_, ?_, ?_, ?_, ?_, ?_, ?_, ?_⟩ <;> simp <;> omega
  · unfold MTOk
    dsimp only
    simp only [dF, d1]
    refine ⟨?_, ?_, ?_, ?_, ?_, ?_, ?_, ?_⟩ <;> simp <;> omega

theorem args_ok (m r k : Int) : @VRs (gu m r k).toUnk (fun _ => none) args [.int .i64 m, .int .i64 r, .int .i64 k] :=
  letI U : Unk := ⟨unk m r k⟩
  .cons (.sym (c := 0) (cs := [1, 0, 0, 0, 0, 0, 0]) rfl (by show m = 0 + dotL _ (unk m r k); rw [dot7]; simp))
    (.cons (.sym (c := 0) (cs := [0, 1, 0, 0, 0, 0, 0]) rfl (by show r = 0 + dotL _ (unk m r k); rw [dot7]; simp))
      (.cons (.sym (c := 0) (cs := [0, 0, 1, 0, 0, 0, 0]) rfl (by show k = 0 + dotL _ (unk m r k); rw [dot7]; simp)) .nil))

/-- The call of three ints answers yes, where a case is so. -/
theorem of_case {m r k : Int} {F : List Fact} {T : List Tab} {M : List MTab} (e : yesT F T M Tryz.f4 args = true) (hF : ∀ f ∈ F, f.2.1 ≤ dotL f.1 (unk m r k) ∧ dotL f.1 (unk m r k) ≤ f.2.2) (hT : @TOk (gu m r k) T) (hM : @MOk (gu m r k) M) (w : World) :
    Calls Tryz.prog 4 #[.int .i64 m, .int .i64 r, .int .i64 k] w fun e w' => e = .returned (.bool true) ∧ Below w.heap.size w w' := by
  letI U : Unk := ⟨unk m r k⟩
  exact fast_yes (args' := [.int .i64 m, .int .i64 r, .int .i64 k]) (soundT hF hT hM) 2000 f4 n4 b4 e (args_ok m r k) w (gl_ok w)

theorem money (m r k : Int) (hm : -9223372036854775808 ≤ m ∧ m ≤ 9223372036854775807) (hr : -9223372036854775808 ≤ r ∧ r ≤ 9223372036854775807) (hk : -9223372036854775808 ≤ k ∧ k ≤ 9223372036854775807) (w : World) :
    Calls Tryz.prog 4 #[.int .i64 m, .int .i64 r, .int .i64 k] w fun e w' => e = .returned (.bool true) ∧ Below w.heap.size w w' := by
  have noT : @TOk (gu m r k) [] := fun t ht => by cases ht
  have noM : @MOk (gu m r k) [] := fun t ht => by cases ht
  by_cases a0 : m < 0
  · refine of_case money_m0 (fun f hf => ?_) noT noM w
    simp only [fx_m0, List.mem_cons, List.not_mem_nil, or_false] at hf
    subst hf; dsimp only; rw [dot7]; omega
  by_cases a1 : 1073741824 < m
  · refine of_case money_m1 (fun f hf => ?_) noT noM w
    simp only [fx_m1, List.mem_cons, List.not_mem_nil, or_false] at hf
    subst hf; dsimp only; rw [dot7]; omega
  by_cases b0 : r < 0
  · refine of_case money_r0 (fun f hf => ?_) noT noM w
    simp only [fx_r0, List.mem_cons, List.not_mem_nil, or_false] at hf
    rcases hf with rfl | rfl <;> dsimp only <;> rw [dot7] <;> omega
  by_cases b1 : 1000000 < r
  · refine of_case money_r1 (fun f hf => ?_) noT noM w
    simp only [fx_r1, List.mem_cons, List.not_mem_nil, or_false] at hf
    rcases hf with rfl | rfl <;> dsimp only <;> rw [dot7] <;> omega
  by_cases c0 : k < 1
  · refine of_case money_k0 (fun f hf => ?_) noT noM w
    simp only [fx_k0, List.mem_cons, List.not_mem_nil, or_false] at hf
    rcases hf with rfl | rfl | rfl <;> dsimp only <;> rw [dot7] <;> omega
  by_cases c1 : 1073741824 < k
  · refine of_case money_k1 (fun f hf => ?_) noT noM w
    simp only [fx_k1, List.mem_cons, List.not_mem_nil, or_false] at hf
    rcases hf with rfl | rfl | rfl <;> dsimp only <;> rw [dot7] <;> omega
  have I : In m r k := ⟨by omega, by omega, by omega, by omega, by omega, by omega⟩
  have p0 := I.p0; have p1 := I.p1; have hq := I.q; have hb0 := I.b0; have hb1 := I.b1; have ht := I.t
  have facts : ∀ {F : List Fact}, (∀ f ∈ F, f.2.1 ≤ dotL f.1 (unk m r k) ∧ dotL f.1 (unk m r k) ≤ f.2.2) → (∀ f ∈ F, f.2.1 ≤ dotL f.1 (unk m r k) ∧ dotL f.1 (unk m r k) ≤ f.2.2) := fun h => h
  by_cases d0 : 1000000000000 < Int.tdiv (1000000 * m) k
  · refine of_case money_e (fun f hf => ?_) (tabs_ok I) (mt0_ok I) w
    simp only [fx_e, List.mem_cons, List.not_mem_nil, or_false] at hf
    rcases hf with rfl | rfl | rfl | rfl | rfl | rfl | rfl | rfl | rfl <;> dsimp only <;> rw [dot7] <;> omega
  by_cases e0 : m = 0
  · have hp : m * r = 0 := by rw [e0]; simp
    refine of_case money_a (fun f hf => ?_) (tabs_ok I) (mt_ok I ?_) w
    · simp only [fx_a, List.mem_cons, List.not_mem_nil, or_false] at hf
      rcases hf with rfl | rfl | rfl | rfl | rfl | rfl | rfl | rfl | rfl <;> dsimp only <;> rw [dot7] <;> omega
    · unfold MTOk
      dsimp only
      simp only [dF, d1]
      subst e0
      refine ⟨?_, ?_, ?_, ?_, ?_, ?_, ?_, ?_⟩ <;> simp <;> omega
  by_cases g0 : r = 0
  · have hp : m * r = 0 := by rw [g0]; simp
    refine of_case money_b (fun f hf => ?_) (tabs_ok I) (mt_ok I ?_) w
    · simp only [fx_b, List.mem_cons, List.not_mem_nil, or_false] at hf
      rcases hf with rfl | rfl | rfl | rfl | rfl | rfl | rfl | rfl | rfl <;> dsimp only <;> rw [dot7] <;> omega
    · unfold MTOk
      dsimp only
      simp only [dF, d1]
      subst g0
      refine ⟨?_, ?_, ?_, ?_, ?_, ?_, ?_, ?_⟩ <;> simp <;> omega
  have hp : 1 ≤ m * r := by
    have := Int.mul_pos (a := m) (b := r) (by omega) (by omega)
    omega
  have limb : @MTOk (gu m r k) ([18446744073709551616, -1, 0, 0, 0, 0, 0, 0], [0, 0, 1, 0, 0, 0, 0, 0], [-1, 0, 1, 0, 0, 0, 0, 0], [18446744073709551616, 0, 0, 0, -1, 0, 0, 0]) := by
    unfold MTOk
    dsimp only
    simp only [dF]
    have hprod : (18446744073709551616 + (-1 * m)) * r = 18446744073709551616 * r - m * r := by rw [Int.add_mul, Int.neg_mul, Int.one_mul, Int.neg_mul]; omega
    refine ⟨?_, ?_, ?_, ?_, ?_, ?_, ?_, ?_⟩ <;> simp at hprod ⊢ <;> omega
  by_cases h0 : Int.tdiv (m * r) 1000000 = 0
  · refine of_case money_c1 (fun f hf => ?_) (tabs_ok I) (mt_ok I limb) w
    simp only [fx_c1, List.mem_cons, List.not_mem_nil, or_false] at hf
    rcases hf with rfl | rfl | rfl | rfl | rfl | rfl | rfl | rfl | rfl <;> dsimp only <;> rw [dot7] <;> omega
  by_cases i0 : m * r - 1000000 * Int.tdiv (m * r) 1000000 = 0
  · refine of_case money_c2 (fun f hf => ?_) (tabs_ok I) (mt_ok I limb) w
    simp only [fx_c2, List.mem_cons, List.not_mem_nil, or_false] at hf
    rcases hf with rfl | rfl | rfl | rfl | rfl | rfl | rfl | rfl | rfl <;> dsimp only <;> rw [dot7] <;> omega
  · refine of_case money_c3 (fun f hf => ?_) (tabs_ok I) (mt_ok I limb) w
    simp only [fx_c3, List.mem_cons, List.not_mem_nil, or_false] at hf
    rcases hf with rfl | rfl | rfl | rfl | rfl | rfl | rfl | rfl | rfl <;> dsimp only <;> rw [dot7] <;> omega

theorem wf_bd {a : Int} (h : (Lit.int .i64 a).wf = true) : -9223372036854775808 ≤ a ∧ a ≤ 9223372036854775807 := by
  simp [Lit.wf, IntKind.min, IntKind.max, IntKind.bits, IntKind.signed] at h
  exact h
theorem meanMoney (m r k : Int) (wm : (Lit.int .i64 m).wf = true) (wr : (Lit.int .i64 r).wf = true) (wk : (Lit.int .i64 k).wf = true) (w : World) :
    Calls Tryz.prog 4 #[.int .i64 m, .int .i64 r, .int .i64 k] w fun e w' => e = .returned (.bool true) ∧ Below w.heap.size w w' := money m r k (wf_bd wm) (wf_bd wr) (wf_bd wk) w
end Go.EvM.DRun
