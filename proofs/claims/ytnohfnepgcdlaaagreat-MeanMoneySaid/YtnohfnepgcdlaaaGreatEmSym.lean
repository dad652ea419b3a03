/- Sym: numbers that hang on unknowns. -/
import Derived.Test.YtnohfnepgcdlaaaGreatEmOps4
import Derived.Laws.Bits64
namespace Go.EvM
set_option linter.unusedSectionVars false
variable [GLs]
open Go.RowKit
set_option linter.unusedVariables false
set_option linter.unusedSimpArgs false
variable {P : Program} {cx : Cx} {o : Oper} {μ : Mu}

theorem coefs_map (k : IntKind) : ∀ cs : List Int, coefs (cs.map (.int k)) = some cs
  | [] => rfl
  | c :: cs => by simp [coefs, coefs_map k cs]

theorem asL_ok {u u' : Value} {x : IntKind × Int × List Int} (e : asL u = some x) (h : VR μ u u') : u' = .int x.1 (x.2.1 + dotL x.2.2 Unk.Z) := by
  unfold asL at e
  split at e
  · cases e; cases h
    simp [dotL]
  · rename_i k c l
    split at e
    · rename_i r hr
      cases e
      generalize hl : (Value.int k c :: l) = m at h
      cases h with
      | yield hb => cases hl
      | sym h1 h2 =>
        rw [h1] at hl
        rw [List.cons.injEq] at hl
        obtain ⟨g1, g2⟩ := hl
        cases g1
        rw [g2, coefs_map] at hr
        cases hr
        rw [h2]
    · cases e
  · cases e

theorem dot_nil (z : List Int) : dotL [] z = 0 := by cases z <;> rfl
theorem dot_add : ∀ (a b z : List Int), dotL (addL a b) z = dotL a z + dotL b z
  | [], b, z => by simp [addL, dot_nil]
  | a :: l, [], z => by simp [addL, dot_nil]
  | a :: l, b :: m, [] => by simp [addL, dotL]
  | a :: l, b :: m, z :: zs => by
    have := dot_add l m zs
    simp only [addL, dotL]
    rw [this]
    show (a + b) * z + _ = _
    rw [Int.add_mul]; omega
theorem dot_neg : ∀ (a z : List Int), dotL (negL a) z = - dotL a z
  | [], z => by simp [negL, dot_nil]
  | a :: l, [] => by simp [negL, dotL]
  | a :: l, z :: zs => by
    have := dot_neg l zs
    simp only [negL, dotL]
    rw [this]
    show (-a) * z + _ = _
    rw [Int.neg_mul]; omega
theorem dot_scale (n : Int) : ∀ (a z : List Int), dotL (scaleL n a) z = n * dotL a z
  | [], z => by simp [scaleL, dot_nil]
  | a :: l, [] => by simp [scaleL, dotL]
  | a :: l, z :: zs => by
    have := dot_scale n l zs
    simp only [scaleL, dotL]
    rw [this, Int.mul_add]
    show (n * a) * z + _ = _
    rw [Int.mul_assoc]
theorem dot_zero : ∀ (a z : List Int), allZ a = true → dotL a z = 0
  | [], z, _ => dot_nil z
  | a :: l, [], _ => rfl
  | a :: l, z :: zs, h => by
    simp only [allZ, Bool.and_eq_true, eqI_eq, beq_iff_eq] at h
    have h1 : a = 0 := h.1
    simp only [dotL, h1, dot_zero l zs h.2]; simp
theorem eqLI_eq : ∀ {a b : List Int}, eqLI a b = true → a = b
  | [], [], _ => rfl
  | a :: l, b :: m, h => by
    simp only [eqLI, Bool.and_eq_true, eqI_eq, beq_iff_eq] at h
    rw [h.1, eqLI_eq h.2]
  | [], _ :: _, h => by cases h
  | _ :: _, [], h => by cases h

theorem mkS_VR (k : IntKind) (c : Int) (cs : List Int) : VR μ (mkS k c cs) (.int k (c + dotL cs Unk.Z)) := by
  unfold mkS
  cases h : allZ cs with
  | true => simp only [cond_true]; rw [dot_zero cs _ h]; simpa using VR.int k c
  | false => exact .sym rfl rfl

def FOk (F : List Fact) : Prop := ∀ f ∈ F, f.2.1 ≤ dotL f.1 Unk.Z ∧ dotL f.1 Unk.Z ≤ f.2.2

theorem findF_ok {cs : List Int} : ∀ {F : List Fact}, FOk F → ∀ {p : Int × Int}, findF cs (negL cs) F = some p → p.1 ≤ dotL cs Unk.Z ∧ dotL cs Unk.Z ≤ p.2
  | [], _, p, h => by cases h
  | f :: F, hF, p, h => by
    have hf := hF f (by simp)
    unfold findF at h
    cases h1 : eqLI f.1 cs with
    | true => rw [h1] at h; cases h; rw [← eqLI_eq h1]; exact hf
    | false =>
      rw [h1] at h
      simp only [cond_false] at h
      cases h2 : eqLI f.1 (negL cs) with
      | true =>
        rw [h2] at h; cases h
        rw [eqLI_eq h2, dot_neg] at hf
        show - f.2.2 ≤ _ ∧ _ ≤ - f.2.1
        omega
      | false => rw [h2] at h; exact findF_ok (fun g hg => hF g (by simp [hg])) h

theorem rngS_ok {F : List Fact} (hF : FOk F) {c : Int} {cs : List Int} {p : Int × Int} (h : rngS F c cs = some p) : p.1 ≤ c + dotL cs Unk.Z ∧ c + dotL cs Unk.Z ≤ p.2 := by
  unfold rngS at h
  split at h
  · rename_i q hq
    cases h
    show q.1 + c ≤ _ ∧ _ ≤ q.2 + c
    unfold rngL at hq
    cases hz : allZ cs with
    | true =>
      rw [hz] at hq; cases hq
      rw [dot_zero cs _ hz]
      exact ⟨by simp, by simp⟩
    | false =>
      rw [hz] at hq
      have := findF_ok hF hq
      omega
  · cases h

theorem inK_ok {k : IntKind} {lo hi n : Int} (h : inK k lo hi = true) (h1 : lo ≤ n) (h2 : n ≤ hi) : wr k n = n ∧ wr k (n - t64) = n ∧ wr k (n + t64) = n := by
  unfold inK at h
  have e : t64 = 18446744073709551616 := rfl
  cases k <;> first | (cases h; done) | skip
  · simp only [Bool.and_eq_true, leI_eq, decide_eq_true_eq] at h
    have a1 : (Int.negSucc 9223372036854775807) = -9223372036854775808 := rfl
    have a2 : (Int.ofNat 9223372036854775807) = 9223372036854775807 := rfl
    rw [a1, a2] at h
    simp only [wr_eq, IntKind.wrap_i64, e]
    omega
  · simp only [Bool.and_eq_true, leI_eq, decide_eq_true_eq] at h
    have a1 : (Int.ofNat 0) = 0 := rfl
    have a2 : (Int.ofNat 18446744073709551615) = 18446744073709551615 := rfl
    rw [a1, a2] at h
    simp only [wr_eq, IntKind.wrap_u64, e]
    omega

theorem fitS_ok {F : List Fact} (hF : FOk F) {k : IntKind} {c : Int} {cs : List Int} {r : Value} (h : fitS F k c cs = some r) : VR μ r (.int k (wr k (c + dotL cs Unk.Z))) := by
  unfold fitS at h
  split at h
  · rename_i p hp
    obtain ⟨b1, b2⟩ := rngS_ok hF hp
    cases h1 : inK k p.1 p.2 with
    | true =>
      rw [h1] at h; cases h
      rw [(inK_ok h1 b1 b2).1]; exact mkS_VR k c cs
    | false =>
      rw [h1] at h
      simp only [cond_false] at h
      cases h2 : inK k (Int.add p.1 t64) (Int.add p.2 t64) with
      | true =>
        rw [h2] at h; cases h
        have g := (inK_ok (n := (c + dotL cs Unk.Z) + t64) h2 (by show p.1 + t64 ≤ _; omega) (by show _ ≤ p.2 + t64; omega)).2.1
        rw [Int.add_sub_cancel] at g
        rw [g]
        have := mkS_VR (μ := μ) k (Int.add c t64) cs
        rwa [show Int.add c t64 + dotL cs Unk.Z = (c + dotL cs Unk.Z) + t64 by show c + t64 + _ = _; omega] at this
      | false =>
        rw [h2] at h
        simp only [cond_false] at h
        cases h3 : inK k (Int.sub p.1 t64) (Int.sub p.2 t64) with
        | true =>
          rw [h3] at h; cases h
          have g := (inK_ok (n := (c + dotL cs Unk.Z) - t64) h3 (by show p.1 - t64 ≤ _; omega) (by show _ ≤ p.2 - t64; omega)).2.2
          rw [Int.sub_add_cancel] at g
          rw [g]
          have := mkS_VR (μ := μ) k (Int.sub c t64) cs
          rwa [show Int.sub c t64 + dotL cs Unk.Z = (c + dotL cs Unk.Z) - t64 by show c - t64 + _ = _; omega] at this
        | false => rw [h3] at h; cases h
  · cases h

theorem bifS {α : Type} {b : Bool} {x : α} {y : Option α} {r : α} (h : (bif b then some x else y) = some r) : (b = true ∧ x = r) ∨ (b = false ∧ y = some r) := by
  cases b
  · exact .inr ⟨rfl, h⟩
  · exact .inl ⟨rfl, Option.some.inj h⟩

/-- The comparison of n with nought. -/
def cmp0 : BinOp → Int → Bool
  | .lss, n => decide (n < 0)
  | .leq, n => decide (n ≤ 0)
  | .gtr, n => decide (0 < n)
  | .geq, n => decide (0 ≤ n)
  | .eql, n => decide (n = 0)
  | .neq, n => !decide (n = 0)
  | _, _ => false
theorem ofNat0 : (Int.ofNat 0) = 0 := rfl
theorem cmpS_ok {F : List Fact} (hF : FOk F) {op : BinOp} {c : Int} {cs : List Int} {b : Bool} (h : cmpS F op c cs = some b) : b = cmp0 op (c + dotL cs Unk.Z) ∧ (op = .lss ∨ op = .leq ∨ op = .gtr ∨ op = .geq ∨ op = .eql ∨ op = .neq) := by
  unfold cmpS at h
  split at h
  · rename_i p hp
    obtain ⟨b1, b2⟩ := rngS_ok hF hp
    generalize c + dotL cs Unk.Z = n at *
    cases op <;> dsimp only at h <;> first | (cases h; done) | skip
    all_goals
      simp only [ltI_eq, leI_eq, eqI_eq, ofNat0] at h
      refine ⟨?_, by simp⟩
      rcases bifS h with ⟨g1, rfl⟩ | ⟨_, h⟩
      · simp only [Bool.and_eq_true, Bool.or_eq_true, decide_eq_true_eq, beq_iff_eq] at g1
        simp only [cmp0]
        symm
        first
          | (rw [decide_eq_true_eq]; omega)
          | (rw [Bool.not_eq_false', decide_eq_true_eq]; omega)
      · rcases bifS h with ⟨g1, rfl⟩ | ⟨_, h⟩
        · simp only [Bool.and_eq_true, Bool.or_eq_true, decide_eq_true_eq, beq_iff_eq] at g1
          simp only [cmp0]
          symm
          first
            | (rw [decide_eq_false_iff_not]; omega)
            | (rw [Bool.not_eq_true', decide_eq_false_iff_not]; omega)
        · cases h
  · cases h

theorem cmp_bin {op : BinOp} {k : IntKind} {a b : Int} {t : Bool} (h : t = cmp0 op (a - b)) (ho : op = .lss ∨ op = .leq ∨ op = .gtr ∨ op = .geq ∨ op = .eql ∨ op = .neq) : binV op (.int k a) (.int k b) = some (.bool t) := by
  rcases ho with rfl | rfl | rfl | rfl | rfl | rfl <;> subst h <;> simp only [binV, decide_true, cond_true, intBin, cmp0, ltI_eq, leI_eq, eqI_eq, Option.some.injEq, Value.bool.injEq] <;> first
    | (rw [decide_eq_decide]; omega)
    | (rw [Bool.eq_iff_iff]; simp; omega)

theorem adds2 (a b c d : Int) : Int.add (a + b) (c + d) = Int.add a c + (b + d) := by show (a + b) + (c + d) = a + c + (b + d); omega
theorem mulL (a c d : Int) : Int.mul (a + 0) (c + d) = Int.mul a c + a * d := by show (a + 0) * (c + d) = a * c + a * d; rw [Int.add_zero, Int.mul_add]
theorem mulR (a b c : Int) : Int.mul (a + b) (c + 0) = Int.mul a c + c * b := by show (a + b) * (c + 0) = a * c + c * b; rw [Int.add_zero, Int.add_mul, Int.mul_comm b c]

theorem fit0_ok {F : List Fact} (hF : FOk F) {k : IntKind} {c : Int} {cs : List Int} {r : Value} (h : fit0 F k c cs = some r) : VR μ r (.int k (c + dotL cs Unk.Z)) := by
  unfold fit0 at h
  split at h
  · rename_i p hp
    cases h1 : inK k p.1 p.2 with
    | true => rw [h1] at h; cases h; exact mkS_VR k c cs
    | false => rw [h1] at h; cases h
  · cases h
def TOk (T : List Tab) : Prop := ∀ t ∈ T, TabOk t
theorem lookT_ok {n : Nat} {x y z : List Int} : ∀ {T : List Tab}, TOk T → lookT n x y T = some z → TabOk (n, x, y, z)
  | [], _, h => by cases h
  | t :: T, hT, h => by
    unfold lookT at h
    cases hb : (Nat.beq t.1 n && eqLI t.2.1 x && eqLI t.2.2.1 y) with
    | true =>
      rw [hb] at h; cases h
      rw [Bool.and_eq_true, Bool.and_eq_true] at hb
      have h1 := Nat.eq_of_beq_eq_true hb.1.1
      have h2 := eqLI_eq hb.1.2
      have h3 := eqLI_eq hb.2
      have := hT t (by simp)
      rw [← h1, ← h2, ← h3]; exact this
    | false => rw [hb] at h; exact lookT_ok (fun u hu => hT u (by simp [hu])) h
theorem shrS_ok {F : List Fact} (hF : FOk F) {u v u' v' r : Value} (h : shrS F u v = some r) (hu : VR μ u u') (hv : VR μ v v') :
    ∃ k k' a b, u' = .int k a ∧ v' = .int k' b ∧ binV .shr (.int k a) (.int k' b) = some r := by
  unfold shrS at h
  split at h
  · rename_i x k' n hx
    have eu := asL_ok hx hu
    cases hv
    split at h
    · rename_i p hp
      obtain ⟨b1, b2⟩ := rngS_ok hF hp
      cases hb : eqI (Int.fdiv p.1 (.ofNat (Nat.pow 2 (Nat.min n x.1.bits)))) (Int.fdiv p.2 (.ofNat (Nat.pow 2 (Nat.min n x.1.bits)))) with
      | false => rw [hb] at h; cases h
      | true =>
        rw [hb] at h; cases h
        rw [eqI_eq, beq_iff_eq] at hb
        refine ⟨x.1, k', _, .ofNat n, eu, rfl, ?_⟩
        simp only [binV, shiftV, Option.some.injEq, Value.int.injEq, true_and]
        have hpos : (0 : Int) < Int.ofNat (Nat.pow 2 (Nat.min n x.1.bits)) := by
          have : 0 < Nat.pow 2 (Nat.min n x.1.bits) := Nat.pow_pos (by omega)
          exact Int.ofNat_lt.2 this
        generalize Int.ofNat (Nat.pow 2 (Nat.min n x.1.bits)) = d at *
        rw [Int.fdiv_eq_ediv_of_nonneg _ (by omega), Int.fdiv_eq_ediv_of_nonneg _ (by omega)] at hb
        rw [Int.fdiv_eq_ediv_of_nonneg _ (by omega), Int.fdiv_eq_ediv_of_nonneg _ (by omega)]
        have h1 := Int.ediv_le_ediv hpos b1
        have h2 := Int.ediv_le_ediv hpos b2
        omega
    · cases h
  · cases h

theorem symBin_ok {F : List Fact} (hF : FOk F) {T : List Tab} (hT : TOk T) {op : BinOp} {u v u' v' r : Value} (h : symBin F T op u v = some r) (hu : VR μ u u') (hv : VR μ v v') :
    ∃ k a b r1, u' = .int k a ∧ v' = .int k b ∧ binV op (.int k a) (.int k b) = some r1 ∧ VR μ r r1 := by
  unfold symBin at h
  split at h
  · rename_i x y hx hy
    have eu := asL_ok hx hu
    have ev := asL_ok hy hv
    cases hk : decide (x.1 = y.1) with
    | false => rw [hk] at h; cases h
    | true =>
      rw [hk] at h
      simp only [cond_true] at h
      have hk := of_decide_eq_true hk
      rw [← hk] at ev
      refine ⟨x.1, x.2.1 + dotL x.2.2 Unk.Z, y.2.1 + dotL y.2.2 Unk.Z, ?_⟩
      have adds : ∀ (a b c d : Int), Int.sub a b + (c + -d) = a + c - (b + d) := fun a b c d => by show a - b + _ = _; omega
      split at h
      · refine ⟨_, eu, ev, by simp only [binV, decide_true, cond_true, intBin]; rfl, ?_⟩
        have := fitS_ok (μ := μ) hF h
        rw [dot_add] at this
        rw [adds2]; exact this
      · refine ⟨_, eu, ev, by simp only [binV, decide_true, cond_true, intBin]; rfl, ?_⟩
        have := fitS_ok (μ := μ) hF h
        rw [dot_add, dot_neg, adds] at this
        exact this
      · refine ⟨_, eu, ev, by simp only [binV, decide_true, cond_true, intBin]; rfl, ?_⟩
        cases hz : allZ x.2.2 with
        | true =>
          rw [hz] at h
          simp only [cond_true] at h
          have := fitS_ok (μ := μ) hF h
          rw [dot_scale] at this
          rw [dot_zero _ _ hz]
          rw [mulL]; exact this
        | false =>
          rw [hz] at h
          simp only [cond_false] at h
          cases hz2 : allZ y.2.2 with
          | false =>
            rw [hz2] at h
            simp only [cond_false] at h
            split at h
            · rename_i e es hl
              have := fitS_ok (μ := μ) hF h
              have g := (lookT_ok hT hl).1 rfl
              have g : e + dotL es Unk.Z = Int.mul (x.2.1 + dotL x.2.2 Unk.Z) (y.2.1 + dotL y.2.2 Unk.Z) := g
              rw [← g]; exact this
            · cases h
          | true =>
            rw [hz2] at h
            simp only [cond_true] at h
            have := fitS_ok (μ := μ) hF h
            rw [dot_scale] at this
            rw [dot_zero _ _ hz2]
            rw [mulR]; exact this
      · split at h
        · rename_i e es hl
          have := fitS_ok (μ := μ) hF h
          obtain ⟨g0, g⟩ := (lookT_ok hT hl).2.1 rfl
          have g0 : y.2.1 + dotL y.2.2 Unk.Z ≠ 0 := g0
          have g : e + dotL es Unk.Z = Int.tdiv (x.2.1 + dotL x.2.2 Unk.Z) (y.2.1 + dotL y.2.2 Unk.Z) := g
          rw [g] at this
          refine ⟨_, eu, ev, ?_, this⟩
          have hn : eqI (y.2.1 + dotL y.2.2 Unk.Z) (.ofNat 0) = false := by rw [eqI_eq, beq_eq_false_iff_ne]; exact g0
          simp only [binV, decide_true, cond_true, intBin, hn, cond_false]
        · cases h
      · split at h
        · rename_i e es hl
          have := fit0_ok (μ := μ) hF h
          obtain ⟨g0, g⟩ := (lookT_ok hT hl).2.2 rfl
          have g0 : y.2.1 + dotL y.2.2 Unk.Z ≠ 0 := g0
          have g : e + dotL es Unk.Z = Int.tmod (x.2.1 + dotL x.2.2 Unk.Z) (y.2.1 + dotL y.2.2 Unk.Z) := g
          rw [g] at this
          refine ⟨_, eu, ev, ?_, this⟩
          have hn : eqI (y.2.1 + dotL y.2.2 Unk.Z) (.ofNat 0) = false := by rw [eqI_eq, beq_eq_false_iff_ne]; exact g0
          simp only [binV, decide_true, cond_true, intBin, hn, cond_false]
        · cases h
      · split at h
        · rename_i b hb
          cases h
          obtain ⟨g1, g2⟩ := cmpS_ok hF hb
          rw [dot_add, dot_neg, adds] at g1
          exact ⟨_, eu, ev, cmp_bin g1 g2, .bool _⟩
        · cases h
  · cases h

theorem binVS_cases {F : List Fact} {T : List Tab} {op : BinOp} {x y v : Value} (h : binVS F T op x y = some v) : binV op x y = some v ∨ symBin F T op x y = some v ∨ (op = .shr ∧ shrS F x y = some v) := by
  unfold binVS at h
  split at h
  · split at h
    · exact .inl h
    · exact .inr (.inl h)
  · split at h
    · exact .inl h
    · cases h
  · split at h
    · exact .inr (.inr ⟨rfl, h⟩)
    · exact .inr (.inl h)
theorem eqVS_cases {F : List Fact} {T : List Tab} {d : TypeDesc} {ne : Bool} {x y v : Value} (h : eqVS F T d ne x y = some v) : eqV d ne x y = some v ∨ symBin F T (eqOp ne) x y = some v := by
  unfold eqVS at h
  split at h
  · rcases binVS_cases h with h | h | ⟨h, _⟩
    · exact .inl h
    · exact .inr h
    · cases ne <;> cases h
  · exact .inl h
  · rename_i h1 h2
    split at h
    · rename_i b hb
      refine .inl ?_
      unfold eqV
      split
      · rename_i k n; exact absurd rfl (h1 k n)
      · rename_i s; exact absurd rfl (h2 s)
      · rw [hb]; exact h
    · exact .inr h

theorem ok_binS {F : List Fact} (hF : FOk F) {T : List Tab} (hT : TOk T) {op : BinOp} {t u : TypeId} {x y : Operand} (ho : o.op = .binOp op t x y u) : PureOk P o fun ρ => binVS F T op (ρ x) (ρ y) := by
  intro μ ρ ρ' w v h e
  have h1 := mem_ops h ho (x := x) (by simp [Op.operands])
  have h2 := mem_ops h ho (x := y) (by simp [Op.operands])
  rcases binVS_cases e with q | q | ⟨rfl, q⟩
  · exact ok_bin ho μ ρ ρ' w v h q
  · obtain ⟨k, a, b, r1, e1, e2, e3, e4⟩ := symBin_ok hF hT q h1 h2
    have := binV_ok (P := P) (μ := μ) (.int k a) (.int k b) e3 w t x y
    refine ⟨r1, ?_, e4⟩
    unfold execOp; rw [ho]; rw [← e1, ← e2] at this; exact run_v this.1
  · obtain ⟨k, k', a, b, e1, e2, e3⟩ := shrS_ok hF q h1 h2
    have := binV_ok (P := P) (μ := μ) (.int k a) (.int k' b) e3 w t x y
    refine ⟨v, ?_, this.2⟩
    unfold execOp; rw [ho]; rw [← e1, ← e2] at this; exact run_v this.1
theorem ok_eqS {F : List Fact} (hF : FOk F) {T : List Tab} (hT : TOk T) {ne : Bool} {t u : TypeId} {x y : Operand} {i : TI} (C : CxOk P cx) (ht : cx.ti t = some i) (ho : o.op = .binOp (eqOp ne) t x y u) : PureOk P o fun ρ => eqVS F T i.desc ne (ρ x) (ρ y) := by
  intro μ ρ ρ' w v h e
  rcases eqVS_cases e with e | e
  · exact ok_eq C ht ho μ ρ ρ' w v h e
  · have h1 := mem_ops h ho (x := x) (by simp [Op.operands])
    have h2 := mem_ops h ho (x := y) (by simp [Op.operands])
    obtain ⟨k, a, b, r1, e1, e2, e3, e4⟩ := symBin_ok hF hT e h1 h2
    have := binV_ok (P := P) (μ := μ) (.int k a) (.int k b) e3 w t x y
    refine ⟨r1, ?_, e4⟩
    unfold execOp; rw [ho]; rw [← e1, ← e2] at this; exact run_v this.1

theorem ok_unS {F : List Fact} (hF : FOk F) {op : UnOp} {t : TypeId} {x : Operand} (ho : o.op = .unOp op t x) : PureOk P o fun ρ => unVS F op (ρ x) := by
  intro μ ρ ρ' w v h e
  dsimp only at e
  unfold unVS at e
  split at e
  · rename_i v1 hv1
    cases e
    exact ok_un ho μ ρ ρ' w v h hv1
  · have h1 := mem_ops h ho (x := x) (by simp [Op.operands])
    cases op <;> cases hy : asL (ρ x) <;> rw [hy] at e <;> first
      | (cases e; done)
      | skip
    rename_i y
    have e1 := asL_ok hy h1
    have := fitS_ok (μ := μ) hF e
    rw [dot_neg, show Int.neg y.2.1 + - dotL y.2.2 Unk.Z = - (y.2.1 + dotL y.2.2 Unk.Z) by show - _ + _ = _; omega, wr_eq] at this
    exact ⟨_, by simp [execOp, ho, e1, Op.unary, Op.intArith], this⟩

theorem ok_convIS {F : List Fact} (hF : FOk F) {a b : TypeId} {x : Operand} {k k' : IntKind} {si di : TI} (C : CxOk P cx) (hs : cx.ti a = some si) (hd : cx.ti b = some di) (h1 : si.desc = .int k') (h2 : di.desc = .int k) (ho : o.op = .convert a b x) :
    PureOk P o fun ρ => convS F k (ρ x) := by
  intro μ ρ ρ' w v h e
  dsimp only at e
  unfold convS at e
  split at e
  · rename_i q n hq
    refine ok_convI C hs hd h1 h2 ho μ ρ ρ' w v h ?_
    dsimp only; rw [hq]; exact e
  · split at e
    · rename_i y hy
      have hc := mem_ops h ho (x := x) (by simp [Op.operands])
      have e1 := asL_ok hy hc
      have u1 := C.run_und hs w
      have u2 := C.run_und hd w
      exact ⟨.int k (k.wrap (y.2.1 + dotL y.2.2 Unk.Z)), by simp [execOp, ho, e1, convert, u1, u2, h1, h2, Conv.intToInt], by have := fitS_ok (μ := μ) hF e; rwa [wr_eq] at this⟩
    · cases e

theorem ok_minS {F : List Fact} (hF : FOk F) {x y : Operand} {ts : Array TypeId} (ho : o.op = .call { callee := .builtin .min, args := #[x, y], argTypes := ts }) :
    PureOk P o fun ρ => match ρ x, ρ y with | .int k a, .int _ b => some (.int k (bif ltI b a then b else a)) | u, v => minS F false u v := by
  intro μ ρ ρ' w v h e
  dsimp only at e
  split at e
  · rename_i k a k' b hq hq'
    refine ok_min ho μ ρ ρ' w v h ?_
    dsimp only; rw [hq, hq']; exact e
  · have h1 := mem_ops h ho (x := x) (by simp [Op.operands, Call.operands])
    have h2 := mem_ops h ho (x := y) (by simp [Op.operands, Call.operands])
    unfold minS at e
    split at e
    · rename_i p q hp hq
      have e1 := asL_ok hp h1
      have e2 := asL_ok hq h2
      cases hk : decide (p.1 = q.1) with
      | false => rw [hk] at e; cases e
      | true =>
        rw [hk] at e
        simp only [cond_true] at e
        have hk := of_decide_eq_true hk
        rw [← hk] at e2 e
        have run : ∀ z : Int, (if q.2.1 + dotL q.2.2 Unk.Z < p.2.1 + dotL p.2.2 Unk.Z then q.2.1 + dotL q.2.2 Unk.Z else p.2.1 + dotL p.2.2 Unk.Z) = z → (execOp ρ' o).run P w = .ok (.value (.int p.1 z)) w := fun z hz => by
          subst hz
          simp [execOp, ho, e1, e2, resolve, invoke, builtin, Builtin.min_, Builtin.min2]
        split at e
        · rename_i hb
          cases e
          obtain ⟨g, _⟩ := cmpS_ok hF hb
          rw [dot_add, dot_neg] at g
          have g : q.2.1 + dotL q.2.2 Unk.Z < p.2.1 + dotL p.2.2 Unk.Z := by
            have g := of_decide_eq_true g.symm
            have e : Int.sub q.2.1 p.2.1 = q.2.1 - p.2.1 := rfl
            omega
          exact ⟨_, run _ (if_pos g), mkS_VR _ _ _⟩
        · rename_i hb
          cases e
          obtain ⟨g, _⟩ := cmpS_ok hF hb
          rw [dot_add, dot_neg] at g
          have g : ¬ q.2.1 + dotL q.2.2 Unk.Z < p.2.1 + dotL p.2.2 Unk.Z := by
            have g := of_decide_eq_false g.symm
            have e : Int.sub q.2.1 p.2.1 = q.2.1 - p.2.1 := rfl
            omega
          exact ⟨_, run _ (if_neg g), mkS_VR _ _ _⟩
        · cases e
    · cases e
theorem ok_maxS {F : List Fact} (hF : FOk F) {x y : Operand} {ts : Array TypeId} (ho : o.op = .call { callee := .builtin .max, args := #[x, y], argTypes := ts }) :
    PureOk P o fun ρ => match ρ x, ρ y with | .int k a, .int _ b => some (.int k (bif ltI a b then b else a)) | u, v => minS F true u v := by
  intro μ ρ ρ' w v h e
  dsimp only at e
  split at e
  · rename_i k a k' b hq hq'
    refine ok_max ho μ ρ ρ' w v h ?_
    dsimp only; rw [hq, hq']; exact e
  · have h1 := mem_ops h ho (x := x) (by simp [Op.operands, Call.operands])
    have h2 := mem_ops h ho (x := y) (by simp [Op.operands, Call.operands])
    unfold minS at e
    split at e
    · rename_i p q hp hq
      have e1 := asL_ok hp h1
      have e2 := asL_ok hq h2
      cases hk : decide (p.1 = q.1) with
      | false => rw [hk] at e; cases e
      | true =>
        rw [hk] at e
        simp only [cond_true] at e
        have hk := of_decide_eq_true hk
        rw [← hk] at e2 e
        have run : ∀ z : Int, (if p.2.1 + dotL p.2.2 Unk.Z < q.2.1 + dotL q.2.2 Unk.Z then q.2.1 + dotL q.2.2 Unk.Z else p.2.1 + dotL p.2.2 Unk.Z) = z → (execOp ρ' o).run P w = .ok (.value (.int p.1 z)) w := fun z hz => by
          subst hz
          simp [execOp, ho, e1, e2, resolve, invoke, builtin, Builtin.max_, Builtin.max2]
        split at e
        · rename_i hb
          cases e
          obtain ⟨g, _⟩ := cmpS_ok hF hb
          rw [dot_add, dot_neg] at g
          have g : p.2.1 + dotL p.2.2 Unk.Z < q.2.1 + dotL q.2.2 Unk.Z := by
            have g := of_decide_eq_true g.symm
            have e : Int.sub p.2.1 q.2.1 = p.2.1 - q.2.1 := rfl
            omega
          exact ⟨_, run _ (if_pos g), mkS_VR _ _ _⟩
        · rename_i hb
          cases e
          obtain ⟨g, _⟩ := cmpS_ok hF hb
          rw [dot_add, dot_neg] at g
          have g : ¬ p.2.1 + dotL p.2.2 Unk.Z < q.2.1 + dotL q.2.2 Unk.Z := by
            have g := of_decide_eq_false g.symm
            have e : Int.sub p.2.1 q.2.1 = p.2.1 - q.2.1 := rfl
            omega
          exact ⟨_, run _ (if_neg g), mkS_VR _ _ _⟩
        · cases e
    · cases e
end Go.EvM
