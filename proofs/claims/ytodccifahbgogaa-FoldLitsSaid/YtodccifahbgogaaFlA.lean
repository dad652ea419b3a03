/- Words for the plain laws: what a branch, a guard, a comparison say. -/
import Derived.Test.YtodccifahbgogaaFmA
import Derived.KernelRfl
set_option linter.unusedVariables false
set_option linter.unusedSectionVars false
set_option linter.unusedSimpArgs false
namespace Go.Pm
open Go Go.EvM Go.Pv
set_option linter.unusedVariables false
variable {R : Type}
theorem br_sp {G : Option R → Prop} {c : Bool} {t e : Option R} (ht : c = true → G t) (hf : c = false → G e) : G (br c t e) := by
  cases c
  · exact hf rfl
  · exact ht rfl
theorem br_g {G : Option R → Prop} {c : Bool} {t : Option R} (h : c = true) (ht : G t) : G (br c t none) := by
  subst h; exact ht
theorem lt_sp {G : Option R → Prop} {v : Option R} {f : Option R → Option R} (P : Prop) (hv : P → G v) (hf : ∀ j, (P → G j) → G (f j)) : G (lt v f) := hf v hv
theorem ltI_t {a b : Int} : ltI a b = true ↔ a < b := by
  cases a <;> cases b <;> simp [ltI, Nat.blt] <;> omega
theorem leI_t {a b : Int} : leI a b = true ↔ a ≤ b := by
  cases a <;> cases b <;> simp [leI] <;> omega
theorem eqI_t {a b : Int} : eqI a b = true ↔ a = b := by
  cases a <;> cases b <;> simp [eqI] <;> omega
theorem ltI_f {a b : Int} : ltI a b = false ↔ b ≤ a := by
  rw [← Bool.not_eq_true, ltI_t]; omega
theorem leI_f {a b : Int} : leI a b = false ↔ b < a := by
  rw [← Bool.not_eq_true, leI_t]; omega
theorem eqI_f {a b : Int} : eqI a b = false ↔ a ≠ b := by
  rw [← Bool.not_eq_true, eqI_t]
theorem inB_t {n : Int} {len : Nat} : inB n len = true ↔ 0 ≤ n ∧ n < len := by
  cases n <;> simp [inB, Nat.blt] <;> omega
theorem wr_in {n : Int} (h : -9223372036854775808 ≤ n) (h' : n ≤ 9223372036854775807) : wr .i64 n = n := by
  have : in64 n = true := by
    cases n with
    | ofNat j => have h2 : (j : Int) ≤ 9223372036854775807 := h'; simp [in64, lim63]; omega
    | negSucc j => simp [in64, lim63]; omega
  simp [wr, this]
theorem okAp_t {b n : Nat} (hb : b ≤ 1000) (hn : n ≤ 1000000) : okAp b n = true := by
  have : n * b ≤ 1000000 * 1000 := Nat.mul_le_mul hn hb
  unfold okAp
  rw [Bool.and_eq_true, Nat.ble_eq, Nat.ble_eq]
  exact ⟨Nat.le_trans this (by decide), by omega⟩
theorem iNat_of {n : Int} (h : 0 ≤ n) : (iNat n : Int) = n := by
  cases n <;> simp [iNat] <;> omega
theorem iNat_lt {n : Int} {len : Nat} (h : n < len) (h0 : 0 < len) : iNat n < len := by
  cases n with
  | ofNat j => exact Int.ofNat_lt.1 h
  | negSucc j => exact h0
theorem wr_u8 (n : Int) : 0 ≤ wr .u8 n ∧ wr .u8 n ≤ 255 := by
  cases n with
  | ofNat k => show (0 : Int) ≤ ((k % 256 : Nat) : Int) ∧ ((k % 256 : Nat) : Int) ≤ 255; omega
  | negSucc k =>
    show 0 ≤ IntKind.wrap .u8 (.negSucc k) ∧ IntKind.wrap .u8 (.negSucc k) ≤ 255
    simp [IntKind.wrap, IntKind.signed, IntKind.bits]
    omega
def fits (t v : Int) : Bool :=
  if t = 1 then decide (v = 0 ∨ v = 1) else if t = 2 ∨ t = 3 then decide (-4503599627370496 ≤ v ∧ v ≤ 4503599627370496) else if t = 4 then decide (-1000000000000 ≤ v ∧ v ≤ 1000000000000) else if t = 5 then decide (0 ≤ v ∧ v ≤ 109572) else false
def wordsL : List Bs := [s_43, s_45, s_42, s_47, s_60, s_60_61, s_62, s_62_61, s_61_61, s_33_61, sand, sor, smin, smax, sneg, snot]
def wd (i : Nat) : Bs := wordsL.getD i []
theorem eqL_iff : ∀ {a b : Bs}, eqL a b = true → a = b
  | [], [], _ => rfl
  | [], _ :: _, h => nomatch h
  | _ :: _, [], h => nomatch h
  | a :: l, b :: k, h => by
    have h : (bif Nat.beq a.toNat b.toNat then eqL l k else false) = true := h
    cases hb : Nat.beq a.toNat b.toNat with
    | false => rw [hb] at h; exact nomatch h
    | true =>
      rw [hb] at h
      have e := UInt8.toNat_inj.1 (Nat.eq_of_beq_eq_true hb)
      rw [e, eqL_iff (a := l) (b := k) h]
theorem eqL_rfl (l : Bs) : eqL l l = true := by
  induction l with
  | nil => rfl
  | cons a l ih => show (bif Nat.beq a.toNat a.toNat then eqL l l else false) = true; rw [Nat.beq_refl]; exact ih
theorem eqL_f {a b : Bs} (h : eqL a b = false) : a ≠ b := fun e => by subst e; rw [eqL_rfl] at h; cases h
end Go.Pm
namespace Go.Pm
open Go Go.EvM Go.Pv
set_option linter.unusedVariables false
set_option linter.unusedSimpArgs false
variable {R : Type} {G : Option R → Prop} {m : Nat}
theorem u64_is (a : Int) : IntKind.u64.wrap a = a % 18446744073709551616 := by
  first | rfl | simp [IntKind.wrap, IntKind.bits, IntKind.signed]
theorem wr_u (a : Int) : wr .u64 a = a % 18446744073709551616 := by
  cases a with
  | ofNat n => show Int.ofNat (n % 18446744073709551616) = _; simp
  | negSucc n => exact u64_is _
theorem wr_i (n : Int) : wr .i64 n = (n + 9223372036854775808) % 18446744073709551616 - 9223372036854775808 := by
  have h : IntKind.i64.wrap n = (n + 9223372036854775808) % 18446744073709551616 - 9223372036854775808 := by
    have e : IntKind.i64.wrap n = bif decide ((9223372036854775808 : Int) ≤ n % 18446744073709551616) then n % 18446744073709551616 - 18446744073709551616 else n % 18446744073709551616 := by
      unfold IntKind.wrap
      show (if (true && decide (n % 18446744073709551616 ≥ 9223372036854775808)) = true then n % 18446744073709551616 - 18446744073709551616 else n % 18446744073709551616) = _
      simp only [Bool.true_and, ge_iff_le, Bool.cond_eq_ite]
    rw [e]
    by_cases hq : (9223372036854775808 : Int) ≤ n % 18446744073709551616
    · rw [decide_eq_true hq]; simp only [cond_true]; omega
    · rw [decide_eq_false hq]; simp only [cond_false]; omega
  unfold wr
  try dsimp only
  cases hb : in64 n with
  | true =>
    show n = _
    cases n with
    | ofNat j => have := hb; simp [in64, lim63] at this; show (j : Int) = ((j : Int) + _) % _ - _; omega
    | negSucc j => have := hb; simp [in64, lim63] at this; omega
  | false => exact h
theorem wr_uin {a : Int} (h : 0 ≤ a) (k : a < 18446744073709551616) : wr .u64 a = a := by rw [wr_u]; omega
theorem ltI_d (a b : Int) : ltI a b = decide (a < b) := by
  by_cases h : a < b
  · rw [decide_eq_true h, ltI_t.2 h]
  · rw [decide_eq_false h, ltI_f.2 (by omega)]
theorem leI_d (a b : Int) : leI a b = decide (a ≤ b) := by
  by_cases h : a ≤ b
  · rw [decide_eq_true h, leI_t.2 h]
  · rw [decide_eq_false h, leI_f.2 (by omega)]
theorem eqI_d (a b : Int) : eqI a b = decide (a = b) := by
  by_cases h : a = b
  · rw [decide_eq_true h, eqI_t.2 h]
  · rw [decide_eq_false h, eqI_f.2 h]
theorem mean_Fit_sp {t v : Int} {κ : Bool → Option R} (hk : G (κ (fits t v))) : G (mean_Fit m t v κ) := by
  unfold mean_Fit mean_Fit_F
  unfold fits at hk
  simp only [eqI_d, leI_d]
  by_cases h1 : t = 1
  · subst h1
    rw [if_pos rfl] at hk
    by_cases q : v = 0
    · subst q; exact hk
    · rw [decide_eq_false q]
      simp only [q, false_or] at hk
      exact hk
  rw [if_neg h1] at hk
  rw [decide_eq_false h1]
  have two : t = 2 ∨ t = 3 → G (br (decide (-4503599627370496 ≤ v)) (κ (decide (v ≤ 4503599627370496))) (κ false)) := by
    intro h
    rw [if_pos h] at hk
    by_cases q : -4503599627370496 ≤ v
    · rw [decide_eq_true q]; simp only [q, true_and] at hk; exact hk
    · rw [decide_eq_false q]; simp only [q, false_and, decide_false] at hk; exact hk
  by_cases h2 : t = 2
  · have := two (.inl h2)
    rw [decide_eq_true h2]; exact this
  rw [decide_eq_false h2]
  by_cases h3 : t = 3
  · have := two (.inr h3)
    rw [decide_eq_true h3]; exact this
  rw [decide_eq_false h3]
  rw [if_neg (fun h => h.elim h2 h3)] at hk
  by_cases h4 : t = 4
  · rw [if_pos h4] at hk
    rw [decide_eq_true h4]
    by_cases q : -1000000000000 ≤ v
    · rw [decide_eq_true q]; simp only [q, true_and] at hk; exact hk
    · rw [decide_eq_false q]; simp only [q, false_and, decide_false] at hk; exact hk
  rw [if_neg h4] at hk
  rw [decide_eq_false h4]
  by_cases h5 : t = 5
  · rw [if_pos h5] at hk
    rw [decide_eq_true h5]
    by_cases q : 0 ≤ v
    · rw [decide_eq_true q]; simp only [q, true_and] at hk; exact hk
    · rw [decide_eq_false q]; simp only [q, false_and, decide_false] at hk; exact hk
  rw [if_neg h5] at hk
  rw [decide_eq_false h5]
  exact hk
theorem fits_in {t v : Int} (h : fits t v = true) : -9223372036854775808 ≤ v ∧ v ≤ 9223372036854775807 := by
  unfold fits at h
  split at h
  · have := of_decide_eq_true h; omega
  · split at h
    · have := of_decide_eq_true h; omega
    · split at h
      · have := of_decide_eq_true h; omega
      · split at h
        · have := of_decide_eq_true h; omega
        · cases h
def fval (t v : Int) : TapiValue := if fits t v = true then ⟨t, v, []⟩ else ⟨0, 0, []⟩
def ferr (t v : Int) : Int := if fits t v = true then 0 else if t = 5 then 12 else 10
def whole (W : Int) : Int × Bool := if -9223372036854775808 ≤ W ∧ W ≤ 9223372036854775807 then (W, true) else (0, false)
theorem whole_in {W : Int} (h : -9223372036854775808 ≤ W ∧ W ≤ 9223372036854775807) : whole W = (W, true) := if_pos h
theorem whole_out {W : Int} (h : ¬(-9223372036854775808 ≤ W ∧ W ≤ 9223372036854775807)) : whole W = (0, false) := if_neg h
theorem made_sp {t W : Int} {κ : TapiValue → Int → Option R} (hk : G (κ (fval t W) (ferr t W))) : G (mean_made m t (whole W).1 (whole W).2 κ) := by
  unfold mean_made mean_made_F
  have no : fits t W = false → G (br (eqI t 5) (κ ⟨0, 0, []⟩ 12) (κ ⟨0, 0, []⟩ 10)) := by
    intro hf
    unfold fval ferr at hk
    rw [hf] at hk
    refine br_sp (fun h => ?_) (fun h => ?_)
    · have h := eqI_t.1 h; subst h; exact hk
    · have h := eqI_f.1 h
      rw [if_neg h] at hk; exact hk
  by_cases w : -9223372036854775808 ≤ W ∧ W ≤ 9223372036854775807
  · rw [whole_in w]
    refine mean_Fit_sp (m := m) ?_
    refine br_sp (fun hf => ?_) no
    unfold fval ferr at hk
    rw [hf] at hk
    exact hk
  · rw [whole_out w]
    refine no ?_
    cases hf : fits t W with
    | false => rfl
    | true => exact absurd (fits_in hf) w
theorem nAdd_sp {a b : Int} (a0 : -9223372036854775808 ≤ a) (a1 : a ≤ 9223372036854775807) (b0 : -9223372036854775808 ≤ b) (b1 : b ≤ 9223372036854775807) {κ : Int → Bool → Option R} (hk : G (κ (whole (a + b)).1 (whole (a + b)).2)) : G (num_Add m a b κ) := by
  unfold num_Add num_Add_F
  try dsimp only
  by_cases w : -9223372036854775808 ≤ a + b ∧ a + b ≤ 9223372036854775807
  · rw [whole_in w] at hk
    rw [wr_in w.1 w.2]
    refine br_sp (fun h => ?_) (fun _ => hk)
    rw [ltI_d, ltI_d] at h
    by_cases q : b < 0
    · rw [decide_eq_true q, decide_eq_true (by omega)] at h; exact nomatch h
    · rw [decide_eq_false q, decide_eq_false (by omega)] at h; exact nomatch h
  · rw [whole_out w] at hk
    refine br_sp (fun _ => hk) (fun h => ?_)
    rw [ltI_d, ltI_d, wr_i] at h
    by_cases q : b < 0
    · rw [decide_eq_true q, decide_eq_false (by omega)] at h; exact nomatch h
    · rw [decide_eq_false q, decide_eq_true (by omega)] at h; exact nomatch h
theorem nSub_sp {a b : Int} (a0 : -9223372036854775808 ≤ a) (a1 : a ≤ 9223372036854775807) (b0 : -9223372036854775808 ≤ b) (b1 : b ≤ 9223372036854775807) {κ : Int → Bool → Option R} (hk : G (κ (whole (a - b)).1 (whole (a - b)).2)) : G (num_Sub m a b κ) := by
  unfold num_Sub num_Sub_F
  try dsimp only
  by_cases w : -9223372036854775808 ≤ a - b ∧ a - b ≤ 9223372036854775807
  · rw [whole_in w] at hk
    rw [wr_in w.1 w.2]
    refine br_sp (fun h => ?_) (fun _ => hk)
    rw [ltI_d, ltI_d] at h
    by_cases q : b < 0
    · rw [decide_eq_true q, decide_eq_true (by omega)] at h; exact nomatch h
    · rw [decide_eq_false q, decide_eq_false (by omega)] at h; exact nomatch h
  · rw [whole_out w] at hk
    refine br_sp (fun _ => hk) (fun h => ?_)
    rw [ltI_d, ltI_d, wr_i] at h
    by_cases q : b < 0
    · rw [decide_eq_true q, decide_eq_false (by omega)] at h; exact nomatch h
    · rw [decide_eq_false q, decide_eq_true (by omega)] at h; exact nomatch h
theorem shr63 (x : Int) : shrI .i64 x 63 = x / 9223372036854775808 := by
  show Int.fdiv x 9223372036854775808 = _
  rw [Int.fdiv_eq_ediv_of_nonneg _ (by decide)]
theorem shr32 (x : Int) : shrI .u64 x 32 = x / 4294967296 := by
  show Int.fdiv x 4294967296 = _
  rw [Int.fdiv_eq_ediv_of_nonneg _ (by decide)]
def wide (W : Int) : TnumWide := ⟨W / 18446744073709551616, W % 18446744073709551616⟩
theorem narrow_sp {W : Int} (h0 : -85070591730234615865843651857942052864 ≤ W) (h1 : W ≤ 85070591730234615865843651857942052864) {κ : Int → Bool → Option R} (hk : G (κ (whole W).1 (whole W).2)) : G (num_narrow m (wide W) κ) := by
  unfold num_narrow num_narrow_F
  show G (br (!(eqI (W / 18446744073709551616) (shrI .i64 (wr .i64 (W % 18446744073709551616)) 63))) (κ 0 false) (κ (wr .i64 (W % 18446744073709551616)) true))
  rw [shr63, wr_i]
  by_cases h : -9223372036854775808 ≤ W ∧ W ≤ 9223372036854775807
  · rw [whole_in h] at hk
    rw [show (W % 18446744073709551616 + 9223372036854775808) % 18446744073709551616 - 9223372036854775808 = W by omega, eqI_t.2 (show W / 18446744073709551616 = W / 9223372036854775808 by omega)]
    exact hk
  · rw [whole_out h] at hk
    rw [eqI_f.2 (by omega)]
    exact hk
theorem and_half (x : Int) (h : 0 ≤ x) (k : x < 18446744073709551616) : andI .u64 x 4294967295 = x % 4294967296 := by
  obtain ⟨n, rfl⟩ := Int.eq_ofNat_of_zero_le h
  have e : (BitVec.ofInt 64 (n : Int) &&& BitVec.ofInt 64 4294967295).toNat = n % 4294967296 := by
    have h1 : (BitVec.ofInt 64 (n : Int)).toNat = n := by simp [BitVec.toNat_ofInt]; omega
    have h2 : (BitVec.ofInt 64 (4294967295 : Int)).toNat = 4294967295 := by decide
    rw [BitVec.toNat_and, h1, h2]
    exact Nat.and_two_pow_sub_one_eq_mod n 32
  have : andI .u64 (n : Int) 4294967295 = IntKind.u64.wrap ((BitVec.ofInt 64 (n : Int) &&& BitVec.ofInt 64 4294967295).toNat : Int) := rfl
  rw [this, e, u64_is]
  omega
theorem mul_le' {a b : Int} (a0 : 0 ≤ a) (a1 : a ≤ 4294967295) (b0 : 0 ≤ b) (b1 : b ≤ 4294967295) : 0 ≤ a * b ∧ a * b ≤ 18446744065119617025 :=
  ⟨Int.mul_nonneg a0 b0, Int.le_trans (Int.mul_le_mul a1 b1 b0 (by omega)) (by decide)⟩
theorem Mul64_sp {a b : Int} (a0 : 0 ≤ a) (a1 : a < 18446744073709551616) (b0 : 0 ≤ b) (b1 : b < 18446744073709551616) {κ : Int → Int → Option R}
    (hk : G (κ (a * b / 18446744073709551616) (a * b % 18446744073709551616))) : G (b_Mul64 m a b κ) := by
  unfold b_Mul64 b_Mul64_F
  try dsimp only
  simp only [shr32]
  rw [and_half a a0 a1, and_half b b0 b1, wr_u (a * b)]
  have ha : a = a / 4294967296 * 4294967296 + a % 4294967296 := by omega
  have hb : b = b / 4294967296 * 4294967296 + b % 4294967296 := by omega
  have hx1 : 0 ≤ a / 4294967296 ∧ a / 4294967296 ≤ 4294967295 := by omega
  have hx0 : 0 ≤ a % 4294967296 ∧ a % 4294967296 ≤ 4294967295 := by omega
  have hy1 : 0 ≤ b / 4294967296 ∧ b / 4294967296 ≤ 4294967295 := by omega
  have hy0 : 0 ≤ b % 4294967296 ∧ b % 4294967296 ≤ 4294967295 := by omega
  generalize a / 4294967296 = x1 at *
  generalize a % 4294967296 = x0 at *
  generalize b / 4294967296 = y1 at *
  generalize b % 4294967296 = y0 at *
  have p11 := mul_le' hx1.1 hx1.2 hy1.1 hy1.2
  have p10 := mul_le' hx1.1 hx1.2 hy0.1 hy0.2
  have p01 := mul_le' hx0.1 hx0.2 hy1.1 hy1.2
  have p00 := mul_le' hx0.1 hx0.2 hy0.1 hy0.2
  have hab : a * b = x1 * y1 * 18446744073709551616 + (x1 * y0 + x0 * y1) * 4294967296 + x0 * y0 := by
    rw [ha, hb, Int.add_mul, Int.mul_add, Int.mul_add]
    rw [show x1 * 4294967296 * (y1 * 4294967296) = x1 * y1 * 18446744073709551616 by rw [Int.mul_assoc, Int.mul_left_comm 4294967296, ← Int.mul_assoc]; rfl]
    rw [show x1 * 4294967296 * y0 = x1 * y0 * 4294967296 by rw [Int.mul_right_comm]]
    rw [show x0 * (y1 * 4294967296) = x0 * y1 * 4294967296 by rw [Int.mul_assoc]]
    omega
  rw [hab] at hk ⊢
  clear hab ha hb a0 a1 b0 b1
  generalize x1 * y1 = P11 at *
  generalize x1 * y0 = P10 at *
  generalize x0 * y1 = P01 at *
  generalize x0 * y0 = P00 at *
  rw [wr_u P00, wr_u P11, wr_u P10, wr_u P01]
  rw [show P00 % 18446744073709551616 = P00 by omega, show P11 % 18446744073709551616 = P11 by omega, show P10 % 18446744073709551616 = P10 by omega, show P01 % 18446744073709551616 = P01 by omega]
  rw [wr_uin (a := P10 + P00 / 4294967296) (by omega) (by omega), and_half _ (by omega) (by omega), wr_uin (a := (P10 + P00 / 4294967296) % 4294967296 + P01) (by omega) (by omega), wr_u, wr_u]
  have e : ((P11 + (P10 + P00 / 4294967296) / 4294967296) % 18446744073709551616 + ((P10 + P00 / 4294967296) % 4294967296 + P01) / 4294967296) % 18446744073709551616 = (P11 * 18446744073709551616 + (P10 + P01) * 4294967296 + P00) / 18446744073709551616 := by omega
  rw [e]
  exact hk
theorem product_sp {a b : Int} (a0 : -9223372036854775808 ≤ a) (a1 : a ≤ 9223372036854775807) (b0 : -9223372036854775808 ≤ b) (b1 : b ≤ 9223372036854775807) (p0 : -85070591730234615865843651857942052864 ≤ a * b) (p1 : a * b ≤ 85070591730234615865843651857942052864) {κ : TnumWide → Option R}
    (hk : G (κ (wide (a * b)))) : G (num_product m a b κ) := by
  unfold num_product num_product_F
  refine Mul64_sp (by rw [wr_u]; omega) (by rw [wr_u]; omega) (by rw [wr_u]; omega) (by rw [wr_u]; omega) ?_
  have ea : wr .u64 a = if a < 0 then a + 18446744073709551616 else a := by rw [wr_u]; split <;> omega
  have eb : wr .u64 b = if b < 0 then b + 18446744073709551616 else b := by rw [wr_u]; split <;> omega
  try dsimp only
  rw [ea, eb]
  clear ea eb
  unfold wide at hk
  refine br_sp (fun sa => ?_) (fun sa => ?_) <;> refine br_sp (fun sb => ?_) (fun sb => ?_)
  · have sa := ltI_t.1 sa; have sb := ltI_t.1 sb
    rw [if_pos sa, if_pos sb]
    have : (a + 18446744073709551616) * (b + 18446744073709551616) = a * b + (a + b) * 18446744073709551616 + 340282366920938463463374607431768211456 := by rw [Int.add_mul, Int.mul_add, Int.mul_add]; omega
    rw [this, wr_i, wr_i, wr_i]
    generalize a * b = p at *
    rw [show (p + (a + b) * 18446744073709551616 + 340282366920938463463374607431768211456) % 18446744073709551616 = p % 18446744073709551616 by omega]
    refine Eq.mp (congrArg (fun q => G (κ ⟨q, _⟩)) ?_) hk
    omega
  · have sa := ltI_t.1 sa; have sb := ltI_f.1 sb
    rw [if_pos sa, if_neg (by omega)]
    have : (a + 18446744073709551616) * b = a * b + b * 18446744073709551616 := by rw [Int.add_mul]; omega
    rw [this, wr_i, wr_i]
    generalize a * b = p at *
    rw [show (p + b * 18446744073709551616) % 18446744073709551616 = p % 18446744073709551616 by omega]
    refine Eq.mp (congrArg (fun q => G (κ ⟨q, _⟩)) ?_) hk
    omega
  · have sa := ltI_f.1 sa; have sb := ltI_t.1 sb
    rw [if_neg (by omega), if_pos sb]
    have : a * (b + 18446744073709551616) = a * b + a * 18446744073709551616 := by rw [Int.mul_add]
    rw [this, wr_i, wr_i]
    generalize a * b = p at *
    rw [show (p + a * 18446744073709551616) % 18446744073709551616 = p % 18446744073709551616 by omega]
    refine Eq.mp (congrArg (fun q => G (κ ⟨q, _⟩)) ?_) hk
    omega
  · have sa := ltI_f.1 sa; have sb := ltI_f.1 sb
    rw [if_neg (by omega), if_neg (by omega)]
    rw [wr_i]
    generalize a * b = p at *
    refine Eq.mp (congrArg (fun q => G (κ ⟨q, _⟩)) ?_) hk
    omega
theorem nMul_sp {a b : Int} (a0 : -9223372036854775808 ≤ a) (a1 : a ≤ 9223372036854775807) (b0 : -9223372036854775808 ≤ b) (b1 : b ≤ 9223372036854775807) (p0 : -85070591730234615865843651857942052864 ≤ a * b) (p1 : a * b ≤ 85070591730234615865843651857942052864) {κ : Int → Bool → Option R}
    (hk : G (κ (whole (a * b)).1 (whole (a * b)).2)) : G (num_Mul m a b κ) := by
  unfold num_Mul num_Mul_F
  exact product_sp a0 a1 b0 b1 p0 p1 (narrow_sp p0 p1 hk)
theorem fits_le {t v : Int} (h : fits t v = true) : -4503599627370496 ≤ v ∧ v ≤ 4503599627370496 := by
  unfold fits at h
  split at h
  · have := of_decide_eq_true h; omega
  · split at h
    · exact of_decide_eq_true h
    · split at h
      · have := of_decide_eq_true h; omega
      · split at h
        · have := of_decide_eq_true h; omega
        · cases h
theorem mul_bound {a b : Int} (a0 : -4503599627370496 ≤ a) (a1 : a ≤ 4503599627370496) (b0 : -4503599627370496 ≤ b) (b1 : b ≤ 4503599627370496) : -20282409603651670423947251286016 ≤ a * b ∧ a * b ≤ 20282409603651670423947251286016 := by
  have h := Int.natAbs_mul a b
  have : a.natAbs * b.natAbs ≤ 4503599627370496 * 4503599627370496 := Nat.mul_le_mul (by omega) (by omega)
  omega
theorem nFloor_sp {a b : Int} (hb : b ≠ 0) (a0 : -4503599627370496 ≤ a) (a1 : a ≤ 4503599627370496) (b0 : -4503599627370496 ≤ b) (b1 : b ≤ 4503599627370496) {κ : Int → Bool → Option R}
    (hk : G (κ (whole (Int.fdiv a b)).1 (whole (Int.fdiv a b)).2)) : G (num_Floor m a b κ) := by
  have t0 : -4503599627370496 ≤ Int.tdiv a b ∧ Int.tdiv a b ≤ 4503599627370496 := by
    have h1 := Int.natAbs_tdiv_le_natAbs a b
    omega
  have fd := Int.fdiv_eq_tdiv (a := a) (b := b)
  have nb : (!(eqI b 0)) = true := by rw [eqI_f.2 hb]; rfl
  unfold num_Floor num_Floor_F
  refine br_sp (fun c => absurd (eqI_t.1 c) hb) (fun _ => br_sp (fun c => absurd (eqI_t.1 c) (by omega)) (fun _ => br_g nb ?_))
  try dsimp only
  rw [wr_in (n := Int.tdiv a b) (by omega) (by omega), wr_in (n := Int.tdiv a b - 1) (by omega) (by omega)]
  refine br_g nb (br_sp (fun z => ?_) (fun z => ?_))
  · have z : Int.tmod a b ≠ 0 := by
      intro h; rw [eqI_t.2 h] at z; exact nomatch z
    rw [if_neg (fun q => z (Int.dvd_iff_tmod_eq_zero.1 q))] at fd
    by_cases sa : a < 0 <;> by_cases sb : b < 0
    · rw [if_neg (by omega), if_neg (by omega), Int.sign_eq_neg_one_of_neg sb] at fd
      rw [whole_in (by omega), fd, show Int.tdiv a b - (1 + -1) = Int.tdiv a b by omega] at hk
      rw [ltI_t.2 sa, ltI_t.2 sb]; exact hk
    · rw [if_neg (by omega), if_pos (by omega), Int.sign_eq_one_of_pos (by omega)] at fd
      rw [whole_in (by omega), fd] at hk
      rw [ltI_t.2 sa, ltI_f.2 (by omega)]; exact hk
    · rw [if_pos (by omega), if_neg (by omega)] at fd
      rw [whole_in (by omega), fd] at hk
      rw [ltI_f.2 (by omega), ltI_t.2 sb]; exact hk
    · rw [if_pos (by omega), if_pos (by omega)] at fd
      rw [whole_in (by omega), fd] at hk
      rw [ltI_f.2 (show 0 ≤ a by omega), ltI_f.2 (show 0 ≤ b by omega)]
      first | exact hk | (rw [Int.sub_zero] at hk; exact hk)
  · have z : Int.tmod a b = 0 := by
      by_cases h : Int.tmod a b = 0
      · exact h
      · rw [eqI_f.2 h] at z; exact nomatch z
    rw [if_pos (Int.dvd_iff_tmod_eq_zero.2 z), Int.sub_zero] at fd
    rw [whole_in (by omega), fd] at hk
    exact hk
end Go.Pm
namespace Go.Pm
open Go Go.EvM Go.Pv
set_option linter.unusedVariables false
variable {R : Type} {G : Option R → Prop} {m : Nat}
def dg (d : Nat) : UInt8 := UInt8.ofNat (48 + d)
def digF : Nat → Nat → Bs
  | 0, _ => []
  | f + 1, n => if n < 10 then [dg n] else digF f (n / 10) ++ [dg (n % 10)]
def isD (b : UInt8) : Prop := 48 ≤ b.toNat ∧ b.toNat ≤ 57
theorem dg_nat {d : Nat} (h : d < 10) : (dg d).toNat = 48 + d := by
  unfold dg; simp; omega
theorem dig_d : ∀ {f n : Nat} {b : UInt8}, b ∈ digF f n → isD b
  | 0, _, _, h => nomatch h
  | f + 1, n, b, h => by
    have one : ∀ d, d < 10 → isD (dg d) := fun d hd => by unfold isD; rw [dg_nat hd]; omega
    unfold digF at h
    split at h
    · rw [List.mem_singleton.1 h]; exact one n (by assumption)
    · rcases List.mem_append.1 h with h | h
      · exact dig_d h
      · rw [List.mem_singleton.1 h]; exact one _ (by omega)
theorem dig_len : ∀ {f n : Nat}, (digF f n).length ≤ f
  | 0, _ => Nat.le_refl _
  | f + 1, n => by
    unfold digF
    split
    · show 1 ≤ f + 1; omega
    · rw [List.length_append]
      have := dig_len (f := f) (n := n / 10)
      show _ + 1 ≤ f + 1; omega
theorem dig_pos {f n : Nat} : 0 < (digF (f + 1) n).length := by
  unfold digF
  split
  · exact Nat.one_pos
  · rw [List.length_append]; show 0 < _ + 1; omega
def valL (ds : Bs) : Int := ds.foldl (fun v b => 10 * v + ((b.toNat : Int) - 48)) 0
theorem val_snoc (ds : Bs) (b : UInt8) : valL (ds ++ [b]) = 10 * valL ds + ((b.toNat : Int) - 48) := by
  unfold valL; rw [List.foldl_append]; rfl
theorem val_dig : ∀ {f n : Nat}, n < 10 ^ f → valL (digF f n) = n
  | 0, n, h => by
    have : n = 0 := by simpa using h
    subst this; rfl
  | f + 1, n, h => by
    unfold digF
    split
    · rename_i q
      show 10 * 0 + (((dg n).toNat : Int) - 48) = n
      rw [dg_nat q]; omega
    · rw [val_snoc, val_dig (by rw [Nat.pow_succ] at h; omega), dg_nat (by omega)]; omega
theorem val_0 : ∀ {ds : Bs}, (∀ b, b ∈ ds → isD b) → 0 ≤ valL ds := fun {ds} => by
  rw [← List.reverse_reverse ds]
  induction ds.reverse with
  | nil => intro _; exact Int.le_refl _
  | cons b l ih =>
    intro h
    rw [List.reverse_cons] at h ⊢
    rw [val_snoc]
    have := ih fun x hx => h x (List.mem_append_left _ hx)
    have := (h b (List.mem_append_right _ (by simp))).1
    omega
theorem val_app (l : Bs) : ∀ {k : Bs}, (∀ b, b ∈ l ++ k → isD b) → valL l ≤ valL (l ++ k) := fun {k} => by
  rw [← List.reverse_reverse k]
  induction k.reverse with
  | nil => intro _; rw [List.reverse_nil, List.append_nil]; exact Int.le_refl _
  | cons b q ih =>
    intro h
    rw [List.reverse_cons, ← List.append_assoc] at h ⊢
    rw [val_snoc]
    have h1 := ih fun x hx => h x (List.mem_append_left _ hx)
    have h2 := (h b (List.mem_append_right _ (by simp))).1
    have h3 := val_0 (ds := l ++ q.reverse) fun x hx => h x (List.mem_append_left _ hx)
    omega
theorem cat_ok {a b : Bs} (h : a.length + b.length ≤ 1000000) : catOk a b = true := by
  unfold catOk; rw [Nat.blt_eq]; show a.length + b.length < lim63; unfold lim63; omega
theorem one_dig {d : Nat} (h : d < 10) : strOf' [wr .u8 (wr .i64 (48 + (d : Int)))] = [dg d] := by
  rw [wr_in (by omega) (by omega), show (48 : Int) + (d : Int) = ((48 + d : Nat) : Int) by omega]
  show [UInt8.ofNat (((48 + d) % 256 : Nat) : Int).toNat] = _
  rw [Nat.mod_eq_of_lt (by omega)]; rfl
theorem Text_r : ∀ (f j : Nat) {n : Nat}, n < 10 ^ (f + 1) → f ≤ 20 → f < j → n ≤ 9223372036854775807 → ∀ {κ : Bs → Option R}, G (κ (digF (f + 1) n)) → G ((G_r1_Text_r (R := R) j).r1_Text (n : Int) κ)
  | _, 0, _, _, _, hj, _, _, _ => absurd hj (by omega)
  | f, j + 1, n, h, hf, hj, hn, κ, hk => by
    show G (r1_Text_B j (G_r1_Text_r j) (n : Int) κ)
    unfold r1_Text_B r1_Text_F
    refine br_sp (fun q => absurd (ltI_t.1 q) (by omega)) (fun _ => br_sp (fun q => ?_) (fun q => ?_))
    · have q : n < 10 := by have := ltI_t.1 q; omega
      dsimp only
      rw [one_dig q]
      unfold digF at hk
      rw [if_pos q] at hk; exact hk
    · have q : ¬ n < 10 := by have := ltI_f.1 q; omega
      dsimp only
      have e1 : Int.tdiv (n : Int) 10 = ((n / 10 : Nat) : Int) := by rw [Int.tdiv_eq_ediv_of_nonneg (by omega)]; omega
      have e2 : Int.tmod (n : Int) 10 = ((n % 10 : Nat) : Int) := by rw [Int.tmod_eq_emod_of_nonneg (by omega)]; omega
      rw [e1, e2, one_dig (by omega), wr_in (by omega) (by omega)]
      unfold digF at hk
      rw [if_neg q] at hk
      cases f with
      | zero => rw [Nat.pow_succ] at h; omega
      | succ f =>
        refine Text_r f j (by rw [Nat.pow_succ] at h; omega) (by omega) (by omega) (by omega) (br_g (cat_ok ?_) hk)
        have := dig_len (f := f + 1) (n := n / 10)
        show _ + 1 ≤ _; omega
theorem Lit_sp {j : Nat} (hj : 100 ≤ j) {n : Nat} (hn : n ≤ 4503599627370496) {κ : Bs → Option R} (hk : G (κ (digF 17 n))) : G (r9_Lit (j + 1) 2 (n : Int) κ) := by
  show G (r9_Lit_B j (G_r9_Lit_r j) 2 (n : Int) κ)
  unfold r9_Lit_B r9_Lit_F
  refine lt_sp True (fun _ => Text_r 16 j (by omega) (by omega) (by omega) (by omega) hk) (fun j0 hj0 => br_sp (fun q => absurd (ltI_t.1 q) (by omega)) (fun _ => hj0 trivial))
section
variable {a b : Int} (a0 : 0 ≤ a) (a1 : a ≤ 4503599627370496) (b0 : 0 ≤ b) (b1 : b ≤ 4503599627370496) {κ : TapiValue → Int → Option R}
theorem e_add : mean_Op m s_43 ⟨2, a, []⟩ ⟨2, b, []⟩ κ = num_Add m a b fun r e => mean_made m 2 r e fun x y => κ x y := by kernel_rfl
theorem e_sub : mean_Op m s_45 ⟨2, a, []⟩ ⟨2, b, []⟩ κ = num_Sub m a b fun r e => mean_made m 2 r e fun x y => κ x y := by kernel_rfl
theorem e_mul : mean_Op m s_42 ⟨2, a, []⟩ ⟨2, b, []⟩ κ = num_Mul m a b fun r e => mean_made m 2 r e fun x y => κ x y := by kernel_rfl
theorem e_div : mean_Op m s_47 ⟨2, a, []⟩ ⟨2, b, []⟩ κ = br (eqI b 0) (κ ⟨0, 0, []⟩ 11) (num_Floor m a b fun r e => mean_made m 2 r e fun x y => κ x y) := by kernel_rfl
include a0 a1 b0 b1
theorem op_add (hk : G (κ (fval 2 (a + b)) (ferr 2 (a + b)))) : G (mean_Op m s_43 ⟨2, a, []⟩ ⟨2, b, []⟩ κ) := by
  rw [e_add]; exact nAdd_sp (by omega) (by omega) (by omega) (by omega) (made_sp hk)
theorem op_sub (hk : G (κ (fval 2 (a - b)) (ferr 2 (a - b)))) : G (mean_Op m s_45 ⟨2, a, []⟩ ⟨2, b, []⟩ κ) := by
  rw [e_sub]; exact nSub_sp (by omega) (by omega) (by omega) (by omega) (made_sp hk)
theorem op_mul (hk : G (κ (fval 2 (a * b)) (ferr 2 (a * b)))) : G (mean_Op m s_42 ⟨2, a, []⟩ ⟨2, b, []⟩ κ) := by
  have bd := mul_bound (a := a) (b := b) (by omega) (by omega) (by omega) (by omega)
  rw [e_mul]; exact nMul_sp (by omega) (by omega) (by omega) (by omega) (by omega) (by omega) (made_sp hk)
theorem op_div (h0 : b = 0 → G (κ ⟨0, 0, []⟩ 11)) (hk : b ≠ 0 → G (κ (fval 2 (a / b)) (ferr 2 (a / b)))) : G (mean_Op m s_47 ⟨2, a, []⟩ ⟨2, b, []⟩ κ) := by
  rw [e_div]
  refine br_sp (fun q => h0 (eqI_t.1 q)) (fun q => ?_)
  have q := eqI_f.1 q
  refine nFloor_sp q (by omega) (by omega) (by omega) (by omega) ?_
  rw [Int.fdiv_eq_ediv_of_nonneg _ b0]
  exact made_sp (hk q)
end
end Go.Pm
namespace Go.Pm
open Go Go.EvM Go.Pv
set_option linter.unusedVariables false
variable {R : Type} {G : Option R → Prop} {m : Nat}
theorem iN (i : Nat) : iNat (i : Int) = i := rfl
theorem inN {i n : Nat} (h : i < n) : inB (i : Int) n = true := inB_t.2 ⟨by omega, by omega⟩
theorem wrN {a b : Nat} (h : a + b ≤ 1000000) : wr .i64 ((a : Int) + (b : Int)) = ((a + b : Nat) : Int) := by rw [wr_in (by omega) (by omega)]; omega
theorem wr1 {i : Nat} (h : i ≤ 1000000) : wr .i64 ((i : Int) + 1) = ((i + 1 : Nat) : Int) := by rw [wr_in (by omega) (by omega)]; omega
theorem byte_get {t : Bs} {i : Nat} (h : i < t.length) : byteAt t (i : Int) = ((t[i].toNat : Nat) : Int) := by
  unfold byteAt getD
  rw [iN, nth_eq, List.getElem?_eq_getElem h]; rfl
theorem byte_app {P Q : Bs} {k : Nat} (h : k < Q.length) : byteAt (P ++ Q) ((P.length + k : Nat) : Int) = ((Q[k].toNat : Nat) : Int) := by
  rw [byte_get (by rw [List.length_append]; omega), List.getElem_append_right (by omega)]
  simp
theorem byte_hd {P Q : Bs} {c : UInt8} : byteAt (P ++ c :: Q) (P.length : Int) = (c.toNat : Int) := byte_app (P := P) (Q := c :: Q) (k := 0) (by simp)
theorem cut_g {a b : Int} {n : Nat} (h : 0 ≤ a) (hab : a ≤ b) (hb : b ≤ n) : (leI 0 a && (leI 0 b && (Nat.ble (iNat a) (iNat b) && Nat.ble (iNat b) n))) = true := by
  have h1 := iNat_of h
  have h2 := iNat_of (n := b) (by omega)
  simp only [Bool.and_eq_true, leI_t, Nat.ble_eq]
  omega
theorem cutL_le {l : Bs} {a b : Nat} : (cutL l a b).length ≤ l.length := by
  unfold cutL
  rw [List.length_take, List.length_drop]
  omega
theorem cut_mid {P D Q : Bs} : cutL (P ++ (D ++ Q)) P.length (P.length + D.length) = D := by
  unfold cutL
  rw [List.drop_left, show Nat.sub (P.length + D.length) P.length = D.length from Nat.add_sub_cancel_left .., List.take_left]
theorem cut_end {P Q : Bs} : cutL (P ++ Q) P.length (P ++ Q).length = Q := by
  unfold cutL
  rw [List.drop_left, List.length_append, show Nat.sub (P.length + Q.length) P.length = Q.length from Nat.add_sub_cancel_left .., List.take_length]
theorem digit_t {b : UInt8} (h : isD b) {κ : Bool → Option R} (hk : G (κ true)) : G (r9_digit m (b.toNat : Int) κ) := by
  unfold r9_digit r9_digit_F
  have h1 := h.1; have h2 := h.2
  refine br_sp (fun _ => ?_) (fun q => absurd (leI_f.1 q) (by omega))
  rw [leI_t.2 (by omega)]; exact hk
theorem digit_f {b : UInt8} (h : ¬ isD b) {κ : Bool → Option R} (hk : G (κ false)) : G (r9_digit m (b.toNat : Int) κ) := by
  unfold r9_digit r9_digit_F
  refine br_sp (fun q => ?_) (fun _ => hk)
  have q := leI_t.1 q
  rw [leI_f.2 (by unfold isD at h; omega)]; exact hk
theorem num_L0 (j : Nat) {ds : Bs} (hd : ∀ b, b ∈ ds → isD b) {a : Int} (ha' : a ≤ 4503599627370496) (hv : valL ds ≤ a) (hl : ds.length < 1000) {e0 : Int → Option R} {er : Int → Bool → Option R} (he : G (e0 (valL ds))) : ∀ (i : Nat), i ≤ ds.length → ds.length - i < j → G (r9_number_L0 m e0 er j i a ds (valL (ds.take i))) := by
  induction j with
  | zero => intro i; intros; omega
  | succ j ih =>
    intro i hi hj
    rw [r9_number_L0s]; unfold r9_number_S0
    dsimp only
    refine br_sp (fun c => ?_) (fun c => ?_)
    · have c : i < ds.length := by have := ltI_t.1 c; omega
      have hb := hd _ (List.getElem_mem c)
      have e1 : ds.take (i + 1) = ds.take i ++ [ds[i]] := by rw [List.take_add_one, List.getElem?_eq_getElem c]; rfl
      have hm : ∀ k, ∀ b, b ∈ ds.take k → isD b := fun k b hb => hd b (List.mem_of_mem_take hb)
      have v0 := val_0 (hm i)
      have v1 := val_app (ds.take (i + 1)) (k := ds.drop (i + 1)) (by rw [List.take_append_drop]; exact hd)
      rw [List.take_append_drop, e1, val_snoc] at v1
      have nx := ih (i + 1) (by omega) (by omega)
      rw [e1, val_snoc] at nx
      have h1 := hb.1; have h2 := hb.2
      have u8 : wr .u8 (((ds[i].toNat : Nat) : Int) - 48) = ((ds[i].toNat : Nat) : Int) - 48 := by
        obtain ⟨q, hq⟩ : ∃ q : Nat, ((ds[i].toNat : Nat) : Int) - 48 = q := ⟨ds[i].toNat - 48, by omega⟩
        rw [hq]; show ((q % 256 : Nat) : Int) = _; omega
      rw [byte_get c, u8, wr_in (n := ((ds[i].toNat : Nat) : Int) - 48) (by omega) (by omega), wr_in (n := 10 * _) (by omega) (by omega), wr_in (n := 10 * _ + _) (by omega) (by omega), wr1 (by omega)]
      refine br_sp (fun q => ?_) (fun _ => br_g (inN c) (br_sp (fun q => absurd (ltI_t.1 q) (by omega)) (fun _ => nx)))
      have q := ltI_t.1 q
      rw [Int.tdiv_eq_ediv_of_nonneg (by omega), wr_in (by omega) (by omega)] at q
      exact absurd q (by omega)
    · have c := ltI_f.1 c
      rw [List.take_of_length_le (by omega)]; exact he
theorem num_ex {ds : Bs} (hd : ∀ b, b ∈ ds → isD b) {a : Int} (ha' : a ≤ 4503599627370496) (hv : valL ds ≤ a) (hl : ds.length < 1000) (hm : 1000 ≤ m) {κ : Int → Bool → Option R} (hk : G (κ (valL ds) true)) : G (r9_number m ds a κ) := by
  unfold r9_number r9_number_F
  exact num_L0 m hd ha' hv hl hk 0 (by omega) (by omega)
theorem run_L0 (j : Nat) {P ds Q : Bs} (hd : ∀ b, b ∈ ds → isD b) (hq : ∀ c Q', Q = c :: Q' → ¬ isD c) (hl : (P ++ (ds ++ Q)).length < 100000) {e0 : Int → Option R} (he : G (e0 (ds.length : Int))) : ∀ (i : Nat), i ≤ ds.length → ds.length - i < j → G (r9_run_L0 m (r9_digit m) e0 j i (P.length : Int) (P ++ (ds ++ Q))) := by
  have hl2 : (P ++ (ds ++ Q)).length = P.length + ds.length + Q.length := by rw [List.length_append, List.length_append]; omega
  induction j with
  | zero => intro i; intros; omega
  | succ j ih =>
    intro i hi hj
    rw [r9_run_L0s]; unfold r9_run_S0
    dsimp only
    rw [wrN (by omega)]
    refine br_sp (fun c => br_g (inB_t.2 ⟨by omega, ltI_t.1 c⟩) ?_) (fun c => ?_)
    · have c := ltI_t.1 c
      rw [byte_app (by rw [List.length_append]; omega)]
      by_cases q : i < ds.length
      · rw [List.getElem_append_left q]
        refine digit_t (hd _ (List.getElem_mem q)) (br_sp (fun _ => ?_) (fun h => nomatch h))
        rw [wr1 (by omega)]
        exact ih (i + 1) (by omega) (by omega)
      · obtain rfl : i = ds.length := by omega
        rw [List.getElem_append_right (by omega)]
        cases Q with
        | nil => exact absurd c (by rw [hl2]; simp only [List.length_nil]; omega)
        | cons x Q' =>
          simp only [Nat.sub_self, List.getElem_cons_zero]
          exact digit_f (hq x Q' rfl) (br_sp (fun h => nomatch h) (fun _ => he))
    · have c := ltI_f.1 c
      obtain rfl : i = ds.length := by omega
      exact he
theorem run_ex {P ds Q : Bs} (hd : ∀ b, b ∈ ds → isD b) (hq : ∀ c Q', Q = c :: Q' → ¬ isD c) (hl : (P ++ (ds ++ Q)).length < 100000) (hm : 100000 ≤ m) {κ : Int → Option R} (hk : G (κ (ds.length : Int))) : G (r9_run m (P ++ (ds ++ Q)) (P.length : Int) κ) := by
  unfold r9_run r9_run_F
  refine run_L0 m hd hq hl hk 0 (by omega) ?_
  rw [List.length_append, List.length_append] at hl; omega
theorem day_no {s : Bs} (h : byteAt s 4 ≠ 45 ∨ byteAt s 7 ≠ 45) {κ : Int → Bool → Option R} (hk : G (κ 0 false)) : G (r1_ReadDay m s κ) := by
  unfold r1_ReadDay r1_ReadDay_F
  refine br_sp (fun _ => hk) (fun h1 => ?_)
  have h1 : (s.length : Int) = 10 := eqI_t.1 (by simpa using h1)
  refine br_g (inB_t.2 ⟨by omega, by omega⟩) (br_sp (fun _ => hk) (fun q => br_g (inB_t.2 ⟨by omega, by omega⟩) (br_sp (fun _ => hk) (fun q2 => ?_))))
  have q : byteAt s 4 = 45 := eqI_t.1 (by simpa using q)
  have q2 : byteAt s 7 = 45 := eqI_t.1 (by simpa using q2)
  rcases h with h | h
  · exact absurd q h
  · exact absurd q2 h
theorem byte_cut {t : Bs} {a k : Nat} (h : k < 10) (h2 : a + 10 ≤ t.length) : byteAt (cutL t a (a + 10)) (k : Int) = byteAt t ((a + k : Nat) : Int) := by
  have hl : (cutL t a (a + 10)).length = 10 := by
    unfold cutL; rw [List.length_take, List.length_drop]; show min (a + 10 - a) _ = _; omega
  rw [byte_get (by omega), byte_get (by omega)]
  unfold cutL
  rw [List.getElem_take, List.getElem_drop]
theorem digits_ex {P ds Q' : Bs} {c : UInt8} (hd : ∀ b, b ∈ ds → isD b) (h0 : 0 < ds.length) (hl0 : ds.length < 100) (hv : valL ds ≤ 4503599627370496) (hc : c.toNat = 32 ∨ c.toNat = 59) (hl : (P ++ (ds ++ c :: Q')).length < 100000) (hm : 100000 ≤ m)
    (hy : P.length + 10 ≤ (P ++ (ds ++ c :: Q')).length → byteAt (P ++ (ds ++ c :: Q')) ((P.length + 4 : Nat) : Int) ≠ 45 ∨ byteAt (P ++ (ds ++ c :: Q')) ((P.length + 7 : Nat) : Int) ≠ 45) {κ : T9Word → Int → Option R} (hk : G (κ (.mk 3 ds (valL ds) (P.length : Int)) (ds.length : Int))) : G (r9_digits m (P ++ (ds ++ c :: Q')) (P.length : Int) κ) := by
  have hl2 : (P ++ (ds ++ c :: Q')).length = P.length + ds.length + (Q'.length + 1) := by rw [List.length_append, List.length_append]; show _ + (_ + (Q'.length + 1)) = _; omega
  have hnd : ∀ x Q2, c :: Q' = x :: Q2 → ¬ isD x := fun x Q2 e => by
    cases e; unfold isD; omega
  have hlast : byteAt (P ++ (ds ++ c :: Q')) ((P.length + ds.length : Nat) : Int) = (c.toNat : Int) := by
    have := byte_hd (P := P ++ ds) (Q := Q') (c := c)
    rw [List.append_assoc, List.length_append] at this; exact this
  unfold r9_digits r9_digits_F
  refine lt_sp True (fun _ => run_ex hd hnd hl hm ?_) (fun j1 hj1 => lt_sp ((P.length : Int) + 10 ≤ (P ++ (ds ++ c :: Q')).length) (fun h10 => ?_) (fun j0 hj0 => ?_))
  · dsimp only
    rw [wrN (by omega)]
    refine lt_sp True (fun _ => br_g (cut_g (by omega) (by omega) (by omega)) ?_) (fun j2 hj2 => ?_)
    · rw [iN, iN, cut_mid]
      exact num_ex hd (by omega) hv (by omega) (by omega) (br_sp (fun h => nomatch h) (fun _ => br_g (cut_g (by omega) (by omega) (by omega)) hk))
    · have hj2 := hj2 trivial
      refine lt_sp True (fun _ => br_sp (fun q => br_g (inB_t.2 ⟨by omega, by omega⟩) ?_) (fun _ => hj2)) (fun j3 hj3 => br_sp (fun q => br_g (inB_t.2 ⟨by omega, by omega⟩) ?_) (fun _ => hj3 trivial))
      · rw [hlast]; exact br_sp (fun q => absurd (eqI_t.1 q) (by omega)) (fun _ => hj2)
      · rw [hlast]; exact br_sp (fun q => absurd (eqI_t.1 q) (by omega)) (fun _ => hj3 trivial)
  · dsimp only
    rw [wr_in (n := (P.length : Int) + 10) (by omega) (by omega), show (P.length : Int) + 10 = ((P.length + 10 : Nat) : Int) by omega]
    refine br_g (cut_g (by omega) (by omega) (by omega)) (day_no ?_ (hj1 trivial))
    rw [iN, iN]
    have e4 := byte_cut (t := P ++ (ds ++ c :: Q')) (a := P.length) (k := 4) (by omega) (by omega)
    have e7 := byte_cut (t := P ++ (ds ++ c :: Q')) (a := P.length) (k := 7) (by omega) (by omega)
    rw [show (4 : Int) = ((4 : Nat) : Int) from rfl, show (7 : Int) = ((7 : Nat) : Int) from rfl, e4, e7]
    exact hy (by omega)
  · dsimp only
    rw [wr_in (n := (P.length : Int) + 10) (by omega) (by omega)]
    have step : G (r9_digit m (byteAt (P ++ (ds ++ c :: Q')) ((P.length : Int) + 10)) fun r32 => br (!r32) j0 j1) → True := fun _ => trivial
    refine br_sp (fun q => ?_) (fun _ => hj1 trivial)
    have q := leI_t.1 q
    refine br_sp (fun _ => hj0 q) (fun q2 => br_g (inB_t.2 ⟨by omega, by have := eqI_f.1 q2; omega⟩) ?_)
    unfold r9_digit r9_digit_F
    exact br_sp (fun _ => br_sp (fun _ => hj0 q) (fun _ => hj1 trivial)) (fun _ => br_sp (fun _ => hj0 q) (fun _ => hj1 trivial))
end Go.Pm
namespace Go.Pm
open Go Go.EvM Go.Pv
set_option linter.unusedVariables false
variable {R : Type} {G : Option R → Prop} {m : Nat}
noncomputable abbrev cutS (m : Nat) (ρ : r9_Cut_T0 R) (e0 : r9_Cut_E0 R) (er : r9_Cut_Z0 R) : r9_Cut_T0 R := r9_Cut_S0 m (r9_letter m) (r9_digit m) (r9_Kept m) (r9_digits m) (r9_run m) (r9_money m) (r9_sign m) (r9_Cut_L0_0 m) (r9_Cut_L0_1 m (r9_letter m) (r9_digit m)) ρ e0 er
variable {ρ : r9_Cut_T0 R} {e0 : r9_Cut_E0 R} {er : r9_Cut_Z0 R} {t P Q : Bs} {x : Int} {ws : List T9Word}
theorem letter_f {b : Int} (h : b < 97) {κ : Bool → Option R} (hk : G (κ false)) : G (r9_letter m b κ) := by
  unfold r9_letter r9_letter_F
  exact br_sp (fun q => absurd (leI_t.1 q) (by omega)) (fun _ => hk)
theorem sp_step (ht : t = P ++ 32 :: Q) (hl : t.length < 100000) (hx : x = (P.length : Int)) (hk : G (ρ (x + 1) t ws)) : G (cutS m ρ e0 er x t ws) := by
  subst hx
  have hp : P.length + (Q.length + 1) = t.length := by rw [ht, List.length_append]; rfl
  have hb : byteAt t (P.length : Int) = 32 := by rw [ht]; exact byte_hd
  unfold cutS r9_Cut_S0
  refine lt_sp False (fun h => h.elim) (fun j0 _ => br_sp (fun c => br_g (inN (by omega)) ?_) (fun c => absurd (ltI_f.1 c) (by omega)))
  dsimp only
  rw [hb, wr_in (by omega) (by omega)]
  exact hk
theorem num_step {ds Q' : Bs} {c : UInt8} (ht : t = P ++ (ds ++ c :: Q')) (hl : t.length < 100000) (hx : x = (P.length : Int)) (hd : ∀ b, b ∈ ds → isD b) (h0 : 0 < ds.length) (hl0 : ds.length < 100) (hv : valL ds ≤ 4503599627370496) (hc : c.toNat = 32 ∨ c.toNat = 59) (hm : 100000 ≤ m)
    (hy : P.length + 10 ≤ t.length → byteAt t ((P.length + 4 : Nat) : Int) ≠ 45 ∨ byteAt t ((P.length + 7 : Nat) : Int) ≠ 45) (hw : ws.length < 100) (hk : G (ρ (x + ds.length) t (ws ++ [.mk 3 ds (valL ds) x]))) : G (cutS m ρ e0 er x t ws) := by
  subst hx
  have hp : P.length + (ds.length + (Q'.length + 1)) = t.length := by rw [ht, List.length_append, List.length_append]; rfl
  have hb : byteAt t (P.length : Int) = ((ds[0].toNat : Nat) : Int) := by
    rw [ht]
    have := byte_app (P := P) (Q := ds ++ c :: Q') (k := 0) (by rw [List.length_append]; omega)
    rw [List.getElem_append_left h0] at this; exact this
  have hd0 := hd _ (List.getElem_mem h0)
  have g1 := hd0.1; have g2 := hd0.2
  unfold cutS r9_Cut_S0
  refine lt_sp False (fun h => h.elim) (fun j0 _ => br_sp (fun _ => br_g (inN (by omega)) ?_) (fun c => absurd (ltI_f.1 c) (by omega)))
  dsimp only
  rw [hb]
  refine br_sp (fun q => absurd (eqI_t.1 q) (by omega)) (fun _ => br_sp (fun q => absurd (eqI_t.1 q) (by omega)) (fun _ => br_sp (fun q => absurd (eqI_t.1 q) (by omega)) (fun _ => br_sp (fun q => absurd (eqI_t.1 q) (by omega)) (fun _ => br_sp (fun q => absurd (eqI_t.1 q) (by omega)) (fun _ => ?_)))))
  refine letter_f (by omega) (br_sp (fun h => nomatch h) (fun _ => digit_t hd0 (br_sp (fun _ => ?_) (fun h => nomatch h))))
  subst ht
  refine digits_ex hd h0 hl0 hv hc hl hm hy (br_sp (fun q => absurd (eqI_t.1 q) (by omega)) (fun _ => br_g (okAp_t (by decide) (by show ws.length + 1 ≤ _; omega)) ?_))
  rw [wr_in (by omega) (by omega)]
  exact hk
theorem sg_step {o : UInt8} (ht : t = P ++ o :: Q) (hl : t.length < 100000) (hx : x = (P.length : Int)) (ho : o.toNat = 43 ∨ o.toNat = 45 ∨ o.toNat = 42 ∨ o.toNat = 47 ∨ o.toNat = 59) (hs : ∀ κ : Bs → Option R, r9_sign m (o :: Q) κ = κ [o]) (hw : ws.length < 100) (hk : G (ρ (x + 1) t (ws ++ [.mk 7 [o] 0 x]))) : G (cutS m ρ e0 er x t ws) := by
  subst hx
  have hp : P.length + (Q.length + 1) = t.length := by rw [ht, List.length_append]; rfl
  have hb : byteAt t (P.length : Int) = (o.toNat : Int) := by rw [ht]; exact byte_hd
  unfold cutS r9_Cut_S0
  refine lt_sp False (fun h => h.elim) (fun j0 _ => br_sp (fun c => br_g (inN (by omega)) ?_) (fun c => absurd (ltI_f.1 c) (by omega)))
  dsimp only
  rw [hb]
  refine br_sp (fun q => absurd (eqI_t.1 q) (by omega)) (fun _ => br_sp (fun q => absurd (eqI_t.1 q) (by omega)) (fun _ => br_sp (fun q => absurd (eqI_t.1 q) (by omega)) (fun _ => br_sp (fun q => absurd (eqI_t.1 q) (by omega)) (fun _ => br_sp (fun q => absurd (eqI_t.1 q) (by omega)) (fun _ => ?_)))))
  refine letter_f (by omega) (br_sp (fun h => nomatch h) (fun _ => digit_f (by unfold isD; omega) (br_sp (fun h => nomatch h) (fun _ => br_sp (fun q => absurd (eqI_t.1 q) (by omega)) (fun _ => br_g ?_ ?_)))))
  · rw [Bool.and_eq_true, leI_t, Nat.ble_eq, iN]; omega
  · rw [iN]
    have : cutL t P.length t.length = o :: Q := by rw [ht]; exact cut_end
    rw [this, hs]
    refine br_sp (fun q => absurd (eqI_t.1 q) (by show ¬ ((1 : Nat) : Int) = 0; omega)) (fun _ => br_g (okAp_t (by decide) (by show ws.length + 1 ≤ _; omega)) ?_)
    rw [wr_in (by show -9223372036854775808 ≤ (P.length : Int) + ((1 : Nat) : Int); omega) (by show (P.length : Int) + ((1 : Nat) : Int) ≤ _; omega)]
    exact hk
theorem end_step (hx : x = (t.length : Int)) (hk : G (e0 t ws)) : G (cutS m ρ e0 er x t ws) := by
  unfold cutS r9_Cut_S0
  refine lt_sp False (fun h => h.elim) (fun j0 _ => br_sp (fun c => absurd (ltI_t.1 c) (by omega)) (fun c => hk))
end Go.Pm
namespace Go.Pm
open Go Go.EvM Go.Pv
set_option linter.unusedVariables false
set_option maxRecDepth 100000
variable {R : Type} {G : Option R → Prop}
abbrev M : Nat := 1200000
abbrev pre : Bs := srule_32r_32count_32_61_32
variable {ρ : r9_Cut_T0 R} {e0 : r9_Cut_E0 R} {er : r9_Cut_Z0 R}
theorem p0 (Q : Bs) : cutS M ρ e0 er 0 (pre ++ Q) [] = ρ 4 (pre ++ Q) [.mk 2 srule 0 0] := by kernel_rfl
theorem p1 (Q : Bs) (ws : List T9Word) : cutS M ρ e0 er 4 (pre ++ Q) ws = ρ 5 (pre ++ Q) ws := by kernel_rfl
theorem p2 (Q : Bs) : cutS M ρ e0 er 5 (pre ++ Q) [.mk 2 srule 0 0] = ρ 6 (pre ++ Q) [.mk 2 srule 0 0, .mk 1 [114] 0 5] := by kernel_rfl
theorem p3 (Q : Bs) (ws : List T9Word) : cutS M ρ e0 er 6 (pre ++ Q) ws = ρ 7 (pre ++ Q) ws := by kernel_rfl
theorem p4 (Q : Bs) : cutS M ρ e0 er 7 (pre ++ Q) [.mk 2 srule 0 0, .mk 1 [114] 0 5] = ρ 12 (pre ++ Q) [.mk 2 srule 0 0, .mk 1 [114] 0 5, .mk 2 scount 0 7] := by kernel_rfl
theorem p5 (Q : Bs) (ws : List T9Word) : cutS M ρ e0 er 12 (pre ++ Q) ws = ρ 13 (pre ++ Q) ws := by kernel_rfl
theorem p6 (Q : Bs) : cutS M ρ e0 er 13 (pre ++ Q) [.mk 2 srule 0 0, .mk 1 [114] 0 5, .mk 2 scount 0 7] = ρ 14 (pre ++ Q) [.mk 2 srule 0 0, .mk 1 [114] 0 5, .mk 2 scount 0 7, .mk 7 [61] 0 13] := by kernel_rfl
theorem p7 (Q : Bs) (ws : List T9Word) : cutS M ρ e0 er 14 (pre ++ Q) ws = ρ 15 (pre ++ Q) ws := by kernel_rfl
theorem s43 (Q : Bs) (κ : Bs → Option R) : r9_sign M (43 :: 32 :: Q) κ = κ [43] := by kernel_rfl
theorem s45 (Q : Bs) (κ : Bs → Option R) : r9_sign M (45 :: 32 :: Q) κ = κ [45] := by kernel_rfl
theorem s42 (Q : Bs) (κ : Bs → Option R) : r9_sign M (42 :: 32 :: Q) κ = κ [42] := by kernel_rfl
theorem s47 (Q : Bs) (κ : Bs → Option R) : r9_sign M (47 :: 32 :: Q) κ = κ [47] := by kernel_rfl
theorem s59 (κ : Bs → Option R) : r9_sign M [59] κ = κ [59] := by kernel_rfl
def opS (o : UInt8) : Prop := o = 43 ∨ o = 45 ∨ o = 42 ∨ o = 47
theorem sgo {o : UInt8} (h : opS o) (Q : Bs) (κ : Bs → Option R) : r9_sign M (o :: 32 :: Q) κ = κ [o] := by
  rcases h with rfl | rfl | rfl | rfl
  · exact s43 Q κ
  · exact s45 Q κ
  · exact s42 Q κ
  · exact s47 Q κ
def wds (A B : Bs) (o : UInt8) (a b p1 p2 p3 p4 : Int) : List T9Word := [.mk 2 srule 0 0, .mk 1 [114] 0 5, .mk 2 scount 0 7, .mk 7 [61] 0 13, .mk 3 A a 15, .mk 7 [o] 0 p1, .mk 3 B b p2, .mk 7 [59] 0 p3, .mk 0 [] 0 p4]
theorem only {A B : Bs} {o : UInt8} (hA : ∀ b, b ∈ A → isD b) (hB : ∀ b, b ∈ B → isD b) {k : Nat} (hk : k < (A ++ 32 :: o :: 32 :: (B ++ [59])).length) (h : ((A ++ 32 :: o :: 32 :: (B ++ [59]))[k].toNat : Int) = 45) : k = A.length + 1 := by
  have hnd : ∀ b, isD b → ¬ (b.toNat : Int) = 45 := fun b hb e => by have := hb.1; omega
  by_cases q : k < A.length
  · rw [List.getElem_append_left q] at h
    exact absurd h (hnd _ (hA _ (List.getElem_mem q)))
  · rw [List.getElem_append_right (by omega)] at h
    obtain ⟨i, rfl⟩ : ∃ i, k = A.length + i := ⟨k - A.length, by omega⟩
    simp only [Nat.add_sub_cancel_left] at h
    have n32 : ¬ (((32 : UInt8).toNat : Nat) : Int) = 45 := by decide
    rcases i with _ | _ | _ | i
    · exact absurd h n32
    · rfl
    · exact absurd h n32
    · have hi : i < (B ++ [59]).length := by rw [List.length_append] at hk; simp only [List.length_cons] at hk; omega
      have h : ((B ++ [59])[i].toNat : Int) = 45 := h
      rcases List.mem_append.1 (List.getElem_mem hi) with hm | hm
      · exact absurd h (hnd _ (hB _ hm))
      · rw [List.mem_singleton.1 hm] at h; exact absurd h (by decide)
theorem cut_ex {A B : Bs} {o : UInt8} (ho : opS o) (hA : ∀ b, b ∈ A → isD b) (hB : ∀ b, b ∈ B → isD b) (lA : 0 < A.length) (lA' : A.length < 50) (lB : 0 < B.length) (lB' : B.length < 50) (vA : valL A ≤ 4503599627370496) (vB : valL B ≤ 4503599627370496)
    {κ : List T9Word → Int → Option R} (hk : ∀ p1 p2 p3 p4, G (κ (wds A B o (valL A) (valL B) p1 p2 p3 p4) (-1))) : G (r9_Cut M (pre ++ (A ++ 32 :: o :: 32 :: (B ++ [59]))) κ) := by
  have hon : o.toNat = 43 ∨ o.toNat = 45 ∨ o.toNat = 42 ∨ o.toNat = 47 ∨ o.toNat = 59 := by rcases ho with rfl | rfl | rfl | rfl <;> decide
  have hlen : (pre ++ (A ++ 32 :: o :: 32 :: (B ++ [59]))).length = 15 + A.length + B.length + 4 := by
    rw [List.length_append, List.length_append]; simp only [List.length_cons, List.length_append, List.length_nil]
    show 15 + _ = _; omega
  have main : ∀ (j : Nat) (e0 : r9_Cut_E0 R) (er : r9_Cut_Z0 R), (∀ p1 p2 p3, G (e0 (pre ++ (A ++ 32 :: o :: 32 :: (B ++ [59]))) [.mk 2 srule 0 0, .mk 1 [114] 0 5, .mk 2 scount 0 7, .mk 7 [61] 0 13, .mk 3 A (valL A) 15, .mk 7 [o] 0 p1, .mk 3 B (valL B) p2, .mk 7 [59] 0 p3])) →
      G (r9_Cut_L0 M (r9_letter M) (r9_digit M) (r9_Kept M) (r9_digits M) (r9_run M) (r9_money M) (r9_sign M) e0 er (j + 15) 0 (pre ++ (A ++ 32 :: o :: 32 :: (B ++ [59]))) []) := fun j e0 er he => by
    rw [r9_Cut_L0s]; refine Eq.mpr (congrArg G (p0 _)) ?_
    rw [r9_Cut_L0s]; refine Eq.mpr (congrArg G (p1 _ _)) ?_
    rw [r9_Cut_L0s]; refine Eq.mpr (congrArg G (p2 _)) ?_
    rw [r9_Cut_L0s]; refine Eq.mpr (congrArg G (p3 _ _)) ?_
    rw [r9_Cut_L0s]; refine Eq.mpr (congrArg G (p4 _)) ?_
    rw [r9_Cut_L0s]; refine Eq.mpr (congrArg G (p5 _ _)) ?_
    rw [r9_Cut_L0s]; refine Eq.mpr (congrArg G (p6 _)) ?_
    rw [r9_Cut_L0s]; refine Eq.mpr (congrArg G (p7 _ _)) ?_
    rw [r9_Cut_L0s]
    generalize hT : pre ++ (A ++ 32 :: o :: 32 :: (B ++ [59])) = T at he hlen ⊢
    have t1 : T = pre ++ (A ++ 32 :: (o :: 32 :: (B ++ [59]))) := hT.symm
    refine num_step t1 (by omega) rfl hA lA (by omega) vA (.inl rfl) (by decide) (fun h10 => ?_) (by decide) ?_
    · by_cases q : byteAt T ((pre.length + 4 : Nat) : Int) = 45
      · refine .inr fun q2 => ?_
        have l2 : (A ++ 32 :: o :: 32 :: (B ++ [59])).length = A.length + B.length + 4 := by
          simp only [List.length_cons, List.length_append, List.length_nil]; omega
        have hp : pre.length = 15 := rfl
        rw [← hT, byte_app (by omega)] at q q2
        have := only hA hB (by omega) q
        have := only hA hB (by omega) q2
        omega
      · exact .inl q
    rw [r9_Cut_L0s]
    refine sp_step (P := pre ++ A) (Q := o :: 32 :: (B ++ [59])) (by rw [t1, List.append_assoc]) (by omega) (by rw [List.length_append]; show _ = ((15 + A.length : Nat) : Int); omega) ?_
    rw [r9_Cut_L0s]
    refine sg_step (P := pre ++ A ++ [32]) (Q := 32 :: (B ++ [59])) (by rw [t1, List.append_assoc, List.append_assoc]; rfl) (by omega) (by rw [List.length_append, List.length_append]; show _ = ((15 + A.length + 1 : Nat) : Int); omega) hon (sgo ho _) (by show 5 < 100; omega) ?_
    rw [r9_Cut_L0s]
    refine sp_step (P := pre ++ A ++ [32, o]) (Q := B ++ [59]) (by rw [t1, List.append_assoc, List.append_assoc]; rfl) (by omega) (by rw [List.length_append, List.length_append]; show _ = ((15 + A.length + 2 : Nat) : Int); omega) ?_
    rw [r9_Cut_L0s]
    have t2 : T = (pre ++ A ++ [32, o, 32]) ++ (B ++ 59 :: []) := by rw [t1, List.append_assoc, List.append_assoc]; rfl
    have lP : (pre ++ A ++ [32, o, 32]).length = 18 + A.length := by rw [List.length_append, List.length_append]; show 15 + A.length + 3 = _; omega
    refine num_step t2 (by omega) (by rw [lP]; omega) hB lB (by omega) vB (.inr rfl) (by decide) (fun h10 => .inl fun q => ?_) (by show 6 < 100; omega) ?_
    · rw [t2, byte_app (by rw [List.length_append]; show 4 < B.length + 1; omega), List.getElem_append_left (by omega)] at q
      have := (hB _ (List.getElem_mem (by omega : 4 < B.length))).1
      omega
    rw [r9_Cut_L0s]
    refine sg_step (P := pre ++ A ++ [32, o, 32] ++ B) (Q := []) (o := 59) (by rw [t2]; simp only [List.append_assoc]) (by omega) (by rw [List.length_append, lP]; omega) (by decide) s59 (by show 7 < 100; omega) ?_
    rw [r9_Cut_L0s]
    exact end_step (by rw [hlen]; omega) (he _ _ _)
  unfold r9_Cut r9_Cut_F
  refine main 1199985 _ _ fun p1 p2 p3 => ?_
  exact br_g (okAp_t (by decide) (by show 8 + 1 ≤ _; omega)) (hk p1 p2 p3 _)
end Go.Pm
namespace Go.Pm
open Go Go.EvM Go.Pv
set_option linter.unusedVariables false
set_option maxRecDepth 100000
variable {R : Type} {G : Option R → Prop}
def tr (o : UInt8) (a b p1 p2 : Int) : T9Node := .mk sstatute [] 0 0 0 [.mk srule [114] 2 0 0 [.mk [o] [] 0 0 p1 [.mk slit [] 2 a 15 [], .mk slit [] 2 b p2 []]]]
def bt (o : UInt8) (a b p1 p2 : Int) : TsynNode := .mk sstatute [] 0 0 0 [.mk srule [114] 2 0 0 [.mk [o] [] 0 0 p1 [.mk slit [] 2 a 15 [], .mk slit [] 2 b p2 []]]]
def lt' (k n p1 : Int) : TsynNode := .mk sstatute [] 0 0 0 [.mk srule [114] 2 0 0 [.mk slit [] k n p1 []]]
variable {A B t : Bs} {a b p1 p2 p3 p4 : Int}
theorem back_k {o : UInt8} {κ : TsynNode → Option R} : r17_Back M (tr o a b p1 p2) κ = κ (bt o a b p1 p2) := by kernel_rfl
theorem parse43 {κ : T9Node → Int → Bool → Option R} : r9_Parse_F M (fun _ κ => κ (wds A B 43 a b p1 p2 p3 p4) (-1)) (r9_Parse_L0 M (r9p_decl M)) t κ = κ (tr 43 a b p1 p2) (-1) false := by kernel_rfl
theorem fold43 {κ : TsynNode → Option R} : fold_Fold M (bt 43 a b p1 p2) κ = mean_Op 1199999 [43] ⟨2, a, []⟩ ⟨2, b, []⟩ (fun r e => br (eqI e 0) (κ (lt' r.f_Kind r.f_N p1)) (κ (bt 43 a b p1 p2))) := by kernel_rfl
theorem parse45 {κ : T9Node → Int → Bool → Option R} : r9_Parse_F M (fun _ κ => κ (wds A B 45 a b p1 p2 p3 p4) (-1)) (r9_Parse_L0 M (r9p_decl M)) t κ = κ (tr 45 a b p1 p2) (-1) false := by kernel_rfl
theorem fold45 {κ : TsynNode → Option R} : fold_Fold M (bt 45 a b p1 p2) κ = mean_Op 1199999 [45] ⟨2, a, []⟩ ⟨2, b, []⟩ (fun r e => br (eqI e 0) (κ (lt' r.f_Kind r.f_N p1)) (κ (bt 45 a b p1 p2))) := by kernel_rfl
theorem parse42 {κ : T9Node → Int → Bool → Option R} : r9_Parse_F M (fun _ κ => κ (wds A B 42 a b p1 p2 p3 p4) (-1)) (r9_Parse_L0 M (r9p_decl M)) t κ = κ (tr 42 a b p1 p2) (-1) false := by kernel_rfl
theorem fold42 {κ : TsynNode → Option R} : fold_Fold M (bt 42 a b p1 p2) κ = mean_Op 1199999 [42] ⟨2, a, []⟩ ⟨2, b, []⟩ (fun r e => br (eqI e 0) (κ (lt' r.f_Kind r.f_N p1)) (κ (bt 42 a b p1 p2))) := by kernel_rfl
theorem parse47 {κ : T9Node → Int → Bool → Option R} : r9_Parse_F M (fun _ κ => κ (wds A B 47 a b p1 p2 p3 p4) (-1)) (r9_Parse_L0 M (r9p_decl M)) t κ = κ (tr 47 a b p1 p2) (-1) false := by kernel_rfl
theorem fold47 {κ : TsynNode → Option R} : fold_Fold M (bt 47 a b p1 p2) κ = mean_Op 1199999 [47] ⟨2, a, []⟩ ⟨2, b, []⟩ (fun r e => br (eqI e 0) (κ (lt' r.f_Kind r.f_N p1)) (κ (bt 47 a b p1 p2))) := by kernel_rfl
theorem parse_k {o : UInt8} (ho : opS o) {κ : T9Node → Int → Bool → Option R} : r9_Parse_F M (fun _ κ => κ (wds A B o a b p1 p2 p3 p4) (-1)) (r9_Parse_L0 M (r9p_decl M)) t κ = κ (tr o a b p1 p2) (-1) false := by
  rcases ho with rfl | rfl | rfl | rfl
  · exact parse43
  · exact parse45
  · exact parse42
  · exact parse47
theorem fold_k {o : UInt8} (ho : opS o) {κ : TsynNode → Option R} : fold_Fold M (bt o a b p1 p2) κ = mean_Op 1199999 [o] ⟨2, a, []⟩ ⟨2, b, []⟩ (fun r e => br (eqI e 0) (κ (lt' r.f_Kind r.f_N p1)) (κ (bt o a b p1 p2))) := by
  rcases ho with rfl | rfl | rfl | rfl
  · exact fold43
  · exact fold45
  · exact fold42
  · exact fold47
theorem size_k {k n : Int} {κ : Int → Option R} : fold_Size M (.mk slit [] k n p1 []) κ = κ 1 := by kernel_rfl
end Go.Pm
namespace Go.Pm
open Go Go.EvM Go.Pv
set_option maxRecDepth 100000
variable {R : Type}
theorem aw (κ : Bool → Option R) : L15_awake 1200000 κ = κ true := by kernel_rfl
end Go.Pm
namespace Go.Pm
open Go Go.EvM Go.Pv
set_option linter.unusedVariables false
set_option maxRecDepth 100000
variable {R : Type} {G : Option R → Prop}
theorem same_k {o : UInt8} (ho : opS o) {a b p1 p2 : Int} {κ : Bool → Option R} : syn_Same M (bt o a b p1 p2) (bt o a b p1 p2) κ = br (eqI a a) (br (eqI b b) (κ true) (κ false)) (κ false) := by
  rcases ho with rfl | rfl | rfl | rfl <;> kernel_rfl
theorem same_sp {o : UInt8} (ho : opS o) {a b p1 p2 : Int} {κ : Bool → Option R} (hk : G (κ true)) : G (syn_Same M (bt o a b p1 p2) (bt o a b p1 p2) κ) := by
  rw [same_k ho, eqI_t.2 rfl, eqI_t.2 rfl]; exact hk
theorem parse_sp {A B : Bs} {o : UInt8} (ho : opS o) (hA : ∀ b, b ∈ A → isD b) (hB : ∀ b, b ∈ B → isD b) (lA : 0 < A.length) (lA' : A.length < 50) (lB : 0 < B.length) (lB' : B.length < 50) (vA : valL A ≤ 4503599627370496) (vB : valL B ≤ 4503599627370496)
    {κ : T9Node → Int → Bool → Option R} (hk : ∀ p1 p2, G (κ (tr o (valL A) (valL B) p1 p2) (-1) false)) : G (r9_Parse M (pre ++ (A ++ 32 :: o :: 32 :: (B ++ [59]))) κ) := by
  unfold r9_Parse r9_Parse_F
  refine cut_ex ho hA hB lA lA' lB lB' vA vB fun p1 p2 p3 p4 => ?_
  have e := parse_k (t := []) (A := A) (B := B) (a := valL A) (b := valL B) (p1 := p1) (p2 := p2) (p3 := p3) (p4 := p4) (κ := κ) ho
  unfold r9_Parse_F at e
  exact Eq.mpr (congrArg G e) (hk p1 p2)
theorem dig_read {n k : Nat} {o : UInt8} (ho : opS o) (hn : n ≤ 4503599627370496) (hk' : k ≤ 4503599627370496) {κ : TsynNode → T9Node → Bool → Option R} (hk : ∀ p1 p2, G (κ (bt o n k p1 p2) (tr o n k p1 p2) true)) : G (r17_Read M (pre ++ (digF 17 n ++ 32 :: o :: 32 :: (digF 17 k ++ [59]))) κ) := by
  have e1 := val_dig (f := 17) (n := n) (by omega)
  have e2 := val_dig (f := 17) (n := k) (by omega)
  unfold r17_Read r17_Read_F
  refine parse_sp (A := digF 17 n) (B := digF 17 k) ho (fun _ h => dig_d h) (fun _ h => dig_d h) dig_pos (by have := dig_len (f := 17) (n := n); omega) dig_pos (by have := dig_len (f := 17) (n := k); omega) (by omega) (by omega) fun p1 p2 => ?_
  rw [e1, e2]
  show G (r17_Back M (tr o n k p1 p2) _)
  rw [back_k]
  exact hk p1 p2
theorem fit2 {v : Int} (h : -4503599627370496 ≤ v) (h' : v ≤ 4503599627370496) : fits 2 v = true := by simp [fits]; omega
theorem fit2_f {v : Int} (h : 4503599627370496 < v) : fits 2 v = false := by simp [fits]; omega
theorem op_case {v : Int} {κ : TapiValue → Int → Option R} (h0 : -4503599627370496 ≤ v) (hy : v ≤ 4503599627370496 → G (κ ⟨2, v, []⟩ 0)) (hn : 4503599627370496 < v → G (κ ⟨0, 0, []⟩ 10)) : G (κ (fval 2 v) (ferr 2 v)) := by
  by_cases q : v ≤ 4503599627370496
  · unfold fval ferr; rw [fit2 h0 q]; exact hy q
  · unfold fval ferr; rw [fit2_f (by omega)]; exact hn (by omega)
section
variable {m : Nat} {a b : Int} (a0 : 0 ≤ a) (a1 : a ≤ 4503599627370496) (b0 : 0 ≤ b) (b1 : b ≤ 4503599627370496) {κ : TapiValue → Int → Option R}
include a0 a1 b0 b1
theorem op_add' (hy : a + b ≤ 4503599627370496 → G (κ ⟨2, a + b, []⟩ 0)) (hn : 4503599627370496 < a + b → G (κ ⟨0, 0, []⟩ 10)) : G (mean_Op m s_43 ⟨2, a, []⟩ ⟨2, b, []⟩ κ) := op_add a0 a1 b0 b1 (op_case (by omega) hy hn)
theorem op_sub' (hy : a - b ≤ 4503599627370496 → G (κ ⟨2, a - b, []⟩ 0)) : G (mean_Op m s_45 ⟨2, a, []⟩ ⟨2, b, []⟩ κ) := op_sub a0 a1 b0 b1 (op_case (by omega) hy (fun q => absurd q (by omega)))
theorem op_mul' (hy : a * b ≤ 4503599627370496 → G (κ ⟨2, a * b, []⟩ 0)) (hn : 4503599627370496 < a * b → G (κ ⟨0, 0, []⟩ 10)) : G (mean_Op m s_42 ⟨2, a, []⟩ ⟨2, b, []⟩ κ) := op_mul a0 a1 b0 b1 (op_case (by have := Int.mul_nonneg a0 b0; omega) hy hn)
theorem op_div' (h0 : b = 0 → G (κ ⟨0, 0, []⟩ 11)) (hy : b ≠ 0 → a / b ≤ 4503599627370496 → G (κ ⟨2, a / b, []⟩ 0)) : G (mean_Op m s_47 ⟨2, a, []⟩ ⟨2, b, []⟩ κ) :=
  op_div a0 a1 b0 b1 h0 fun q => op_case (by have := Int.ediv_nonneg a0 b0; omega) (hy q) (fun q => absurd q (by have := Int.ediv_le_self (a := a) b a0; omega))
end
theorem br_y {c : Bool} {t e : Option R} (h : c = true) (ht : G t) : G (br c t e) := by subst h; exact ht
theorem br_e {c : Bool} {t e : Option R} (h : c = false) (he : G e) : G (br c t e) := by subst h; exact he
theorem law_sp (a b op : Int) {κ : Bool → Option R} (hk : G (κ true)) : G (L15_FoldLits M a b op κ) := by
  unfold L15_FoldLits L15_FoldLits_F
  rw [aw]
  refine br_sp (fun h => nomatch h) (fun _ => br_sp (fun _ => hk) (fun g0 => br_sp (fun _ => hk) (fun g1 => br_sp (fun _ => hk) (fun g2 => br_sp (fun _ => hk) (fun g3 => br_sp (fun _ => hk) (fun g4 => br_sp (fun _ => hk) (fun g5 => ?_)))))))
  have g0 := ltI_f.1 g0; have g1 := ltI_f.1 g1; have g2 := ltI_f.1 g2; have g3 := ltI_f.1 g3; have g4 := ltI_f.1 g4; have g5 := ltI_f.1 g5
  obtain ⟨n, rfl⟩ := Int.eq_ofNat_of_zero_le g0
  obtain ⟨k, rfl⟩ := Int.eq_ofNat_of_zero_le g2
  refine br_g (inB_t.2 ⟨g4, by show op < ((4 : Nat) : Int); omega⟩) ?_
  have hop : op = 0 ∨ op = 1 ∨ op = 2 ∨ op = 3 := by omega
  obtain ⟨o, ho, he⟩ : ∃ o, opS o ∧ el2 [s_43, s_45, s_42, s_47] (iNat op) = [o] := by
    rcases hop with rfl | rfl | rfl | rfl
    · exact ⟨43, .inl rfl, rfl⟩
    · exact ⟨45, .inr (.inl rfl), rfl⟩
    · exact ⟨42, .inr (.inr (.inl rfl)), rfl⟩
    · exact ⟨47, .inr (.inr (.inr rfl)), rfl⟩
  have hoo : (op = 0 → o = 43) ∧ (op = 1 → o = 45) ∧ (op = 2 → o = 42) ∧ (op = 3 → o = 47) := by
    refine ⟨fun h => ?_, fun h => ?_, fun h => ?_, fun h => ?_⟩ <;> subst h <;> (cases he; rfl)
  try dsimp only
  rw [he]
  have l1 := dig_len (f := 17) (n := n)
  have l2 := dig_len (f := 17) (n := k)
  have lp : pre.length = 15 := rfl
  have l3 : s_32.length = 1 := rfl
  have l4 : s_59.length = 1 := rfl
  have l5 : [o].length = 1 := rfl
  refine Lit_sp (j := 1199999) (by decide) (by omega) (br_g (cat_ok (by show pre.length + _ ≤ _; omega)) (br_g (cat_ok ?_) (br_g (cat_ok ?_) (br_g (cat_ok ?_) (Lit_sp (j := 1199999) (by decide) (by omega) (br_g (cat_ok ?_) (br_g (cat_ok ?_) ?_)))))))
  iterate 5
    · show (List.length _) + _ ≤ _; simp only [List.length_append, lp, l3, l4, l5]; omega
  rw [show pre ++ digF 17 n ++ s_32 ++ [o] ++ s_32 ++ digF 17 k ++ s_59 = pre ++ (digF 17 n ++ 32 :: o :: 32 :: (digF 17 k ++ [59])) by simp [s_32, s_59, List.append_assoc]]
  refine dig_read ho (by omega) (by omega) fun p1 p2 => ?_
  show G (fold_Fold M (bt o n k p1 p2) _)
  rw [fold_k ho]
  have fin : ∀ v, G (fold_Size M (.mk slit [] 2 v p1 []) fun r129 => κ (eqI r129 1)) := fun v => by rw [size_k]; exact hk
  have out : ∀ v, G (br (eqL slit slit) (br (eqI v v) (fold_Size M (.mk slit [] 2 v p1 []) fun r129 => κ (eqI r129 1)) (κ false)) (κ false)) := fun v => br_y rfl (br_y (eqI_t.2 rfl) (fin v))
  rcases hop with hq | hq | hq | hq
  · obtain rfl := hoo.1 hq
    subst hq
    refine op_add' (by omega) (by omega) (by omega) (by omega) (fun q => ?_) (fun q => ?_)
    · refine br_y rfl (lt_sp False (fun h => h.elim) fun j0 _ => br_e rfl (br_e rfl (br_g rfl (br_g rfl (lt_sp False (fun h => h.elim) fun j1 _ => br_y rfl ?_)))))
      try dsimp only
      rw [wr_in (by omega) (by omega)]
      exact br_e (ltI_f.2 q) (out _)
    · refine br_e rfl (lt_sp True (fun _ => same_sp ho hk) fun j0 hj => br_e rfl (br_e rfl (br_g rfl (br_g rfl (lt_sp False (fun h => h.elim) fun j1 _ => br_y rfl ?_)))))
      try dsimp only
      rw [wr_in (by omega) (by omega)]
      exact br_y (ltI_t.2 q) (hj trivial)
  · obtain rfl := hoo.2.1 hq
    subst hq
    refine op_sub' (by omega) (by omega) (by omega) (by omega) (fun q => ?_)
    refine br_y rfl (lt_sp False (fun h => h.elim) fun j0 _ => br_e rfl (br_e rfl (br_g rfl (br_g rfl (lt_sp False (fun h => h.elim) fun j1 _ => br_e rfl (br_y rfl ?_))))))
    try dsimp only
    rw [wr_in (by omega) (by omega)]
    exact br_e (ltI_f.2 q) (out _)
  · obtain rfl := hoo.2.2.1 hq
    subst hq
    have v0 : (0 : Int) ≤ (n : Int) * k := Int.mul_nonneg g0 g2
    have bd := mul_bound (a := (n : Int)) (b := (k : Int)) (by omega) (by omega) (by omega) (by omega)
    have iff1 : n ≠ 0 → ((k : Int) ≤ 4503599627370496 / (n : Int) ↔ (n : Int) * k ≤ 4503599627370496) := fun hn => by
      rw [Int.le_ediv_iff_mul_le (by omega), Int.mul_comm]
    have dv : n ≠ 0 → wr .i64 (Int.tdiv 4503599627370496 (n : Int)) = 4503599627370496 / (n : Int) := fun hn => by
      have h1 : (0 : Int) ≤ 4503599627370496 / (n : Int) := Int.ediv_nonneg (by omega) (by omega)
      have h2 : (4503599627370496 : Int) / (n : Int) ≤ 4503599627370496 := Int.ediv_le_self _ (by omega)
      rw [Int.tdiv_eq_ediv_of_nonneg (by omega), wr_in (by omega) (by omega)]
    refine op_mul' (by omega) (by omega) (by omega) (by omega) (fun q => ?_) (fun q => ?_)
    · refine br_y rfl (lt_sp False (fun h => h.elim) fun j0 _ => br_e rfl (br_e rfl (br_g rfl (br_g rfl (lt_sp False (fun h => h.elim) fun j1 _ => br_e rfl (br_e rfl (br_y rfl ?_)))))))
      try dsimp only
      rw [wr_in (n := (n : Int) * k) (by omega) (by omega)]
      by_cases hn : n = 0
      · exact br_y (eqI_t.2 (by omega)) (br_e (ltI_f.2 q) (out _))
      · rw [dv hn, eqI_f.2 (show (n : Int) ≠ 0 by omega), leI_t.2 ((iff1 hn).2 q)]
        exact br_e rfl (br_g rfl (br_y rfl (br_e rfl (br_e (ltI_f.2 q) (out _)))))
    · refine br_e rfl (lt_sp True (fun _ => same_sp ho hk) fun j0 hj => br_e rfl (br_e rfl (br_g rfl (br_g rfl (lt_sp False (fun h => h.elim) fun j1 _ => br_e rfl (br_e rfl (br_y rfl ?_)))))))
      try dsimp only
      have hn : n ≠ 0 := fun e => by subst e; omega
      rw [dv hn, eqI_f.2 (show (n : Int) ≠ 0 by omega), leI_f.2 (by have := iff1 hn; omega)]
      exact br_e rfl (br_g rfl (br_e rfl (br_y rfl (hj trivial))))
  · obtain rfl := hoo.2.2.2 hq
    subst hq
    refine op_div' (by omega) (by omega) (by omega) (by omega) (fun q => ?_) (fun hk0 q => ?_)
    · refine br_e rfl (lt_sp True (fun _ => same_sp ho hk) fun j0 hj => br_e rfl (br_e rfl (br_g rfl (br_g rfl (lt_sp False (fun h => h.elim) fun j1 _ => br_e rfl (br_e rfl (br_e rfl ?_)))))))
      try dsimp only
      rw [eqI_t.2 q]
      exact br_e rfl (br_y rfl (hj trivial))
    · have h0 := Int.ediv_nonneg g0 g2
      refine br_y rfl (lt_sp False (fun h => h.elim) fun j0 _ => br_e rfl (br_e rfl (br_g rfl (br_g rfl (lt_sp False (fun h => h.elim) fun j1 _ => br_e rfl (br_e rfl (br_e rfl ?_)))))))
      try dsimp only
      rw [eqI_f.2 hk0, Int.tdiv_eq_ediv_of_nonneg g0, wr_in (n := (n : Int) / k) (by omega) (by omega)]
      exact br_y rfl (br_g rfl (br_e rfl (br_e (ltI_f.2 q) (out _))))
end Go.Pm
