/- Words for the plain laws: what a branch, a guard, a comparison say. -/
import Derived.Test.YtodccifahbgogaaGreatFmA
set_option linter.unusedVariables false
set_option linter.unusedSectionVars false
set_option linter.unusedSimpArgs false
namespace Go.Pm
open Go Go.EvM Go.Pv
set_option linter.unusedVariables false
variable {R : Type}
theorem br_sp {G : Option R → Prop} {c : Bool} {t e : Option R} (ht : c = true → G t) (hf : c = false → G e) : G (br c t e) := by
  cases c
  · exact hf rfl
  · exact ht rfl
theorem br_g {G : Option R → Prop} {c : Bool} {t : Option R} (h : c = true) (ht : G t) : G (br c t none) := by
  subst h; exact ht
theorem lt_sp {G : Option R → Prop} {v : Option R} {f : Option R → Option R} (P : Prop) (hv : P → G v) (hf : ∀ j, (P → G j) → G (f j)) : G (lt v f) := hf v hv
theorem ltI_t {a b : Int} : ltI a b = true ↔ a < b := by
  cases a <;> cases b <;> simp [ltI, Nat.blt] <;> omega
theorem leI_t {a b : Int} : leI a b = true ↔ a ≤ b := by
  cases a <;> cases b <;> simp [leI] <;> omega
theorem eqI_t {a b : Int} : eqI a b = true ↔ a = b := by
  cases a <;> cases b <;> simp [eqI] <;> omega
theorem ltI_f {a b : Int} : ltI a b = false ↔ b ≤ a := by
  rw [← Bool.not_eq_true, ltI_t]; omega
theorem leI_f {a b : Int} : leI a b = false ↔ b < a := by
  rw [← Bool.not_eq_true, leI_t]; omega
theorem eqI_f {a b : Int} : eqI a b = false ↔ a ≠ b := by
  rw [← Bool.not_eq_true, eqI_t]
theorem inB_t {n : Int} {len : Nat} : inB n len = true ↔ 0 ≤ n ∧ n < len := by
  cases n <;> simp [inB, Nat.blt] <;> omega
theorem wr_in {n : Int} (h : -9223372036854775808 ≤ n) (h' : n ≤ 9223372036854775807) : wr .i64 n = n := by
  have : in64 n = true := by
    cases n with
    | ofNat j => have h2 : (j : Int) ≤ 9223372036854775807 := h'; simp [in64, lim63]; omega
    | negSucc j => simp [in64, lim63]; omega
  simp [wr, this]
theorem okAp_t {b n : Nat} (hb : b ≤ 1000) (hn : n ≤ 1000000) : okAp b n = true := by
  have : n * b ≤ 1000000 * 1000 := Nat.mul_le_mul hn hb
  unfold okAp
  rw [Bool.and_eq_true, Nat.ble_eq, Nat.ble_eq]
  exact ⟨Nat.le_trans this (by decide), by omega⟩
theorem iNat_of {n : Int} (h : 0 ≤ n) : (iNat n : Int) = n := by
  cases n <;> simp [iNat] <;> omega
theorem iNat_lt {n : Int} {len : Nat} (h : n < len) (h0 : 0 < len) : iNat n < len := by
  cases n with
  | ofNat j => exact Int.ofNat_lt.1 h
  | negSucc j => exact h0
theorem wr_u8 (n : Int) : 0 ≤ wr .u8 n ∧ wr .u8 n ≤ 255 := by
  cases n with
  | ofNat k => show (0 : Int) ≤ ((k % 256 : Nat) : Int) ∧ ((k % 256 : Nat) : Int) ≤ 255; omega
  | negSucc k =>
    show 0 ≤ IntKind.wrap .u8 (.negSucc k) ∧ IntKind.wrap .u8 (.negSucc k) ≤ 255
    simp [IntKind.wrap, IntKind.signed, IntKind.bits]
    omega
def fits (t v : Int) : Bool :=
  if t = 1 then decide (v = 0 ∨ v = 1) else if t = 2 ∨ t = 3 then decide (-4503599627370496 ≤ v ∧ v ≤ 4503599627370496) else if t = 4 then decide (-1000000000000 ≤ v ∧ v ≤ 1000000000000) else if t = 5 then decide (0 ≤ v ∧ v ≤ 109572) else false
def wordsL : List Bs := [s_43, s_45, s_42, s_47, s_60, s_60_61, s_62, s_62_61, s_61_61, s_33_61, sand, sor, smin, smax, sneg, snot]
def wd (i : Nat) : Bs := wordsL.getD i []
theorem eqL_iff : ∀ {a b : Bs}, eqL a b = true → a = b
  | [], [], _ => rfl
  | [], _ :: _, h => nomatch h
  | _ :: _, [], h => nomatch h
  | a :: l, b :: k, h => by
    have h : (bif Nat.beq a.toNat b.toNat then eqL l k else false) = true := h
    cases hb : Nat.beq a.toNat b.toNat with
    | false => rw [hb] at h; exact nomatch h
    | true =>
      rw [hb] at h
      have e := UInt8.toNat_inj.1 (Nat.eq_of_beq_eq_true hb)
      rw [e, eqL_iff (a := l) (b := k) h]
theorem eqL_rfl (l : Bs) : eqL l l = true := by
  induction l with
  | nil => rfl
  | cons a l ih => show (bif Nat.beq a.toNat a.toNat then eqL l l else false) = true; rw [Nat.beq_refl]; exact ih
theorem eqL_f {a b : Bs} (h : eqL a b = false) : a ≠ b := fun e => by subst e; rw [eqL_rfl] at h; cases h
end Go.Pm
namespace Go.Pm
open Go Go.EvM Go.Pv
set_option linter.unusedVariables false
variable {R : Type} {G : Option R → Prop}
theorem Kept_L (m j : Nat) : ∀ {x0 : Int} {x1 : List UInt8} {x2 : List (List UInt8)} {e0 : Unit → Option R} {er : Bool → Option R}, 0 ≤ x0 → x2.length < 1000 → x2.length - x0 < j → 0 < j → G (e0 ()) → (∀ b, G (er b)) → G (r9_Kept_L0 m e0 er j x0 x1 x2) := by
  induction j with
  | zero => intro x0 x1 x2 e0 er h0 hl hj hj0 he hr; exact absurd hj0 (by omega)
  | succ j ih =>
    intro x0 x1 x2 e0 er h0 hl hj hj0 he hr
    rw [r9_Kept_L0s]; unfold r9_Kept_S0
    refine br_sp (fun hc => ?_) (fun hc => he)
    have hc := ltI_t.1 hc
    refine br_g (inB_t.2 ⟨h0, hc⟩) ?_
    refine br_sp (fun _ => hr _) (fun _ => ?_)
    rw [wr_in (by omega) (by omega)]
    exact ih (by omega) hl (by omega) (by omega) he hr
theorem Kept_sp {m : Nat} (hm : 100 ≤ m) (s : List UInt8) {κ : Bool → Option R} (hk : ∀ r, G (κ r)) : G (r9_Kept m s κ) := by
  unfold r9_Kept r9_Kept_F
  exact Kept_L m m (by omega) (by decide) (by simp; omega) (by omega) (hk _) hk
theorem Kind_L (m j : Nat) : ∀ {x0 : Int} {x1 : List UInt8} {x2 : List (List UInt8)} {e0 : Unit → Option R} {er : Int → Option R}, 0 ≤ x0 → x2.length = 7 → 7 - x0 < j → 0 < j → G (e0 ()) → (∀ b, G (er b)) → G (r9_Kind_L0 m e0 er j x0 x1 x2) := by
  induction j with
  | zero => intro x0 x1 x2 e0 er h0 hl hj hj0 he hr; exact absurd hj0 (by omega)
  | succ j ih =>
    intro x0 x1 x2 e0 er h0 hl hj hj0 he hr
    rw [r9_Kind_L0s]; unfold r9_Kind_S0
    refine br_sp (fun hc => ?_) (fun hc => he)
    have hc := ltI_t.1 hc
    refine br_g (inB_t.2 ⟨h0, by omega⟩) ?_
    refine br_sp (fun _ => hr _) (fun _ => ?_)
    rw [wr_in (by omega) (by omega)]
    exact ih (by omega) hl (by omega) (by omega) he hr
theorem Kind_sp {m : Nat} (hm : 100 ≤ m) (s : List UInt8) {κ : Int → Option R} (hk : ∀ r, G (κ r)) : G (r9_Kind m s κ) := by
  unfold r9_Kind r9_Kind_F
  exact Kind_L m m (by omega) (by decide) (by omega) (by omega) (hk _) hk
theorem number_L (m j : Nat) {a : Int} (ha : 0 ≤ a) (ha' : a ≤ 4503599627370496) : ∀ {x0 : Int} {x2 : List UInt8} {x3 : Int} {e0 : Int → Option R} {er : Int → Bool → Option R}, 0 ≤ x0 → 0 ≤ x3 → x3 ≤ a → x2.length < 100000 → x2.length - x0 < j → 0 < j → (∀ v, 0 ≤ v → v ≤ a → G (e0 v)) → G (er 0 false) → G (r9_number_L0 m e0 er j x0 a x2 x3) := by
  induction j with
  | zero => intro x0 x2 x3 e0 er h0 h3 h3' hl hj hj0 he hr; exact absurd hj0 (by omega)
  | succ j ih =>
    intro x0 x2 x3 e0 er h0 h3 h3' hl hj hj0 he hr
    rw [r9_number_L0s]; unfold r9_number_S0
    refine br_sp (fun hc => ?_) (fun hc => he _ h3 h3')
    have hc := ltI_t.1 hc
    refine br_sp (fun _ => hr) (fun q => ?_)
    refine br_g (inB_t.2 ⟨h0, by omega⟩) ?_
    have hd : a.tdiv 10 ≤ a := by rw [Int.tdiv_eq_ediv_of_nonneg ha]; omega
    have hd0 : 0 ≤ a.tdiv 10 := by rw [Int.tdiv_eq_ediv_of_nonneg ha]; omega
    have q := ltI_f.1 q
    rw [wr_in (by omega) (by omega)] at q
    have hu := wr_u8 (byteAt x2 x0 - 48)
    dsimp only
    generalize wr .u8 (byteAt x2 x0 - 48) = u at hu
    rw [Int.tdiv_eq_ediv_of_nonneg ha] at q
    rw [wr_in (n := u) (by omega) (by omega), wr_in (n := 10 * x3) (by omega) (by omega), wr_in (n := 10 * x3 + u) (by omega) (by omega)]
    refine br_sp (fun _ => hr) (fun q2 => ?_)
    rw [wr_in (n := x0 + 1) (by omega) (by omega)]
    exact ih (by omega) (by omega) (ltI_f.1 q2) hl (by omega) (by omega) he hr
theorem number_sp {m : Nat} {s : List UInt8} (hs : s.length < 100000) (hm : s.length < m) {a : Int} (ha : 0 ≤ a) (ha' : a ≤ 4503599627370496) {κ : Int → Bool → Option R} (hk : ∀ v b, 0 ≤ v → v ≤ a → G (κ v b)) : G (r9_number m s a κ) := by
  unfold r9_number r9_number_F
  exact number_L m m ha ha' (by omega) (by omega) ha hs (by omega) (by omega) (fun _ h h' => hk _ _ h h') (hk _ _ (by omega) ha)
theorem money_sp {m : Nat} {s t : List UInt8} (hs : s.length < 100000) (hm : s.length < m) (ht : t.length < 100000) (hm' : t.length < m) {κ : Int → Bool → Option R} (hk : ∀ v b, 0 ≤ v → v ≤ 4503599627370496 → G (κ v b)) : G (r9_money m s t κ) := by
  unfold r9_money r9_money_F
  refine number_sp hs hm (by omega) (by omega) fun v b v0 v1 => number_sp ht hm' (by omega) (by omega) fun v' b' w0 w1 => ?_
  have h0 := hk 0 false (by omega) (by omega)
  refine br_sp (fun _ => h0) (fun _ => br_sp (fun _ => h0) (fun q => ?_))
  have q := ltI_f.1 q
  dsimp only
  rw [wr_in (n := 100 * v) (by omega) (by omega), wr_in (n := 100 * v + v') (by omega) (by omega)]
  exact br_sp (fun _ => h0) (fun q2 => hk _ _ (by omega) (ltI_f.1 q2))
theorem percent_L (m j : Nat) : ∀ {x0 x1 : List UInt8} {e0 : List UInt8 → List UInt8 → Option R}, (4 : Int) - x0.length < j → 0 < j → x0.length < 100000 → (∀ v, v.length < 100000 → G (e0 v x1)) → G (r9_percent_L0 m e0 j x0 x1) := by
  induction j with
  | zero => intro x0 x1 e0 hj hj0 hl he; exact absurd hj0 (by omega)
  | succ j ih =>
    intro x0 x1 e0 hj hj0 hl he
    rw [r9_percent_L0s]; unfold r9_percent_S0
    refine br_sp (fun hc => ?_) (fun hc => he _ hl)
    have hc := ltI_t.1 hc
    have hs : s0.length = 1 := rfl
    refine br_g (by unfold catOk; rw [hs]; rw [Nat.blt_eq]; show _ + 1 < lim63; unfold lim63; omega) ?_
    have : (x0 ++ s0).length = x0.length + 1 := by rw [List.length_append, hs]
    exact ih (by omega) (by omega) (by omega) he
theorem percent_sp {m : Nat} {s t : List UInt8} (hs : s.length < 100000) (hm : 100000 ≤ m) (ht : t.length < 100000) {κ : Int → Bool → Option R} (hk : ∀ v b, 0 ≤ v → v ≤ 1000000000000 → G (κ v b)) : G (r9_percent m s t κ) := by
  unfold r9_percent r9_percent_F
  refine percent_L m m (by omega) (by omega) ht fun w hw => ?_
  refine number_sp hs (by omega) (by omega) (by omega) fun v b v0 v1 => number_sp hw (by omega) (by omega) (by omega) fun v' b' w0 w1 => ?_
  have h0 := hk 0 false (by omega) (by omega)
  refine br_sp (fun _ => h0) (fun _ => br_sp (fun _ => h0) (fun q => ?_))
  have q := ltI_f.1 q
  dsimp only
  rw [wr_in (n := 10000 * v) (by omega) (by omega), wr_in (n := 10000 * v + v') (by omega) (by omega)]
  exact br_sp (fun _ => h0) (fun q2 => hk _ _ (by omega) (ltI_f.1 q2))
def leapZ (a : Int) : Bool := bif eqI (Int.tmod a 4) 0 then (bif !(eqI (Int.tmod a 100) 0) then true else eqI (Int.tmod a 400) 0) else eqI (Int.tmod a 400) 0
theorem Leap_ev {m : Nat} (a : Int) {κ : Bool → Option R} : r1_Leap m a κ = κ (leapZ a) := by
  unfold r1_Leap r1_Leap_F leapZ
  dsimp only
  generalize eqI (Int.tmod a 4) 0 = x, eqI (Int.tmod a 100) 0 = y, eqI (Int.tmod a 400) 0 = z
  cases x <;> cases y <;> rfl
def daysZ (b : Bool) (k : Int) : Int := bif eqI k 1 then 31 else bif eqI k 3 then 31 else bif eqI k 5 then 31 else bif eqI k 7 then 31 else bif eqI k 8 then 31 else bif eqI k 10 then 31 else bif eqI k 12 then 31 else bif eqI k 4 then 30 else bif eqI k 6 then 30 else bif eqI k 9 then 30 else bif eqI k 11 then 30 else bif eqI k 2 then (bif b then 29 else 28) else 0
theorem br_c {c : Bool} {a b : Int} {κ : Int → Option R} {t e : Option R} (ht : t = κ a) (he : e = κ b) : br c t e = κ (bif c then a else b) := by cases c <;> assumption
theorem Days_ev {m : Nat} (y k : Int) {κ : Int → Option R} : r1_Days m y k κ = κ (daysZ (leapZ y) k) := by
  unfold r1_Days r1_Days_F daysZ
  repeat' (first | exact rfl | refine br_c ?_ ?_)
  rw [Leap_ev]
  exact br_c rfl rfl
def yearZ : Nat → Int
  | 0 => 0
  | i + 1 => yearZ i + 365 + bif leapZ (1900 + i) then 1 else 0
def monthZ (b : Bool) : Nat → Int
  | 0 => 0
  | i + 1 => monthZ b i + daysZ b (i + 1)
theorem year_le {i j : Nat} (h : i ≤ j) : yearZ i + 365 * (j - i) ≤ yearZ j := by
  induction h with
  | refl => omega
  | @step j _ ih =>
    show _ ≤ yearZ j + 365 + bif leapZ (1900 + j) then 1 else 0
    cases leapZ (1900 + j) <;> dsimp only [cond_true, cond_false] <;> omega
theorem year_300 : yearZ 300 = 109573 := by decide +kernel
theorem month_12 : ∀ (b : Bool) (k : Fin 12), 0 ≤ monthZ b k.val ∧ monthZ b k.val + daysZ b (k.val + 1) ≤ 365 + bif b then 1 else 0 := by decide +kernel
theorem Day_L1 (m j : Nat) {y n : Int} {k d : Int} {e2 : Int → Int → Option R} (n0 : 0 ≤ n) (n1 : n ≤ 200000) (hk : k ≤ 12) : ∀ (i : Nat), (i : Int) + 1 ≤ k → k - 1 - i < j → G (e2 d (n + monthZ (leapZ y) (iNat (k - 1)))) → G (r1_Day_L1 m (r1_Days m) e2 j ((i : Int) + 1) y (n + monthZ (leapZ y) i) d k) := by
  induction j with
  | zero => intro i hi hj; omega
  | succ j ih =>
    intro i hi hj he
    rw [r1_Day_L1s]; unfold r1_Day_S1
    refine br_sp (fun hc => ?_) (fun hc => ?_)
    · have hc := ltI_t.1 hc
      rw [Days_ev]
      have h12 := month_12 (leapZ y) ⟨i, by omega⟩
      have h13 := month_12 (leapZ y) ⟨i + 1, by omega⟩
      dsimp only at h12 h13
      have e : monthZ (leapZ y) (i + 1) = monthZ (leapZ y) i + daysZ (leapZ y) ((i : Int) + 1) := rfl
      have hb : (365 + bif leapZ y then 1 else 0 : Int) ≤ 366 := by cases leapZ y <;> decide
      dsimp only
      rw [wr_in (n := (i : Int) + 1 + 1) (by omega) (by omega), show n + monthZ (leapZ y) i + daysZ (leapZ y) ((i : Int) + 1) = n + monthZ (leapZ y) (i + 1) by omega, wr_in (n := n + _) (by omega) (by omega)]
      exact ih (i + 1) (by omega) (by omega) he
    · have hc := ltI_f.1 hc
      have : iNat (k - 1) = i := by have := iNat_of (n := k - 1) (by omega); omega
      rw [this] at he; exact he
theorem Day_L0 (m j : Nat) {y d k : Int} {e0 : Int → Int → Int → Int → Option R} (hy : y ≤ 2199) : ∀ (i : Nat), (1900 : Int) + i ≤ y → y - 1900 - i < j → G (e0 y (yearZ (iNat (y - 1900))) d k) → G (r1_Day_L0 m (r1_Leap m) e0 j (1900 + (i : Int)) (yearZ i) y d k) := by
  induction j with
  | zero => intro i hi hj; omega
  | succ j ih =>
    intro i hi hj he
    rw [r1_Day_L0s]; unfold r1_Day_S0
    have h0 := year_le (Nat.zero_le i)
    have h3 := year_le (i := i) (j := 300) (by omega)
    rw [year_300] at h3
    have e0 : yearZ 0 = 0 := rfl
    refine br_sp (fun hc => ?_) (fun hc => ?_)
    · have hc := ltI_t.1 hc
      rw [Leap_ev]
      dsimp only
      rw [wr_in (n := 1900 + (i : Int) + 1) (by omega) (by omega), wr_in (n := yearZ i + 365) (by omega) (by omega), wr_in (n := yearZ i + 365 + 1) (by omega) (by omega), show 1900 + (i : Int) + 1 = 1900 + ((i + 1 : Nat) : Int) by omega]
      have e : yearZ (i + 1) = yearZ i + 365 + bif leapZ (1900 + i) then 1 else 0 := rfl
      have := ih (i + 1) (by omega) (by omega) he
      rw [e] at this
      refine br_sp (fun h => ?_) (fun h => ?_) <;> rw [h] at this
      · exact this
      · dsimp only [cond_false] at this; rw [Int.add_zero] at this; exact this
    · have hc := ltI_f.1 hc
      have : iNat (y - 1900) = i := by have := iNat_of (n := y - 1900) (by omega); omega
      rw [this] at he; exact he
theorem Day_sp {m : Nat} (hm : 1000 ≤ m) (a b c : Int) {κ : Int → Bool → Option R} (hk : ∀ v w, 0 ≤ v → v ≤ 109572 → G (κ v w)) : G (r1_Day m a b c κ) := by
  unfold r1_Day r1_Day_F
  have k0 := hk 0 false (by omega) (by omega)
  refine br_sp (fun _ => k0) (fun h1 => br_sp (fun _ => k0) (fun h2 => br_sp (fun _ => k0) (fun h3 => br_sp (fun _ => k0) (fun h4 => br_sp (fun _ => k0) (fun h5 => ?_)))))
  have h1 := ltI_f.1 h1; have h2 := ltI_f.1 h2; have h3 := ltI_f.1 h3; have h4 := ltI_f.1 h4; have h5 := ltI_f.1 h5
  rw [Days_ev]
  refine br_sp (fun _ => k0) (fun h6 => ?_)
  have h6 := ltI_f.1 h6
  obtain ⟨i, hi⟩ := Int.eq_ofNat_of_zero_le (show 0 ≤ a - 1900 by omega)
  obtain ⟨k, hk'⟩ := Int.eq_ofNat_of_zero_le (show 0 ≤ b - 1 by omega)
  have q0 := year_le (Nat.zero_le i)
  have q3 := year_le (i := i + 1) (j := 300) (by omega)
  rw [year_300] at q3
  have q4 : yearZ (i + 1) = yearZ i + 365 + bif leapZ (1900 + i) then 1 else 0 := rfl
  have e0 : yearZ 0 = 0 := rfl
  have q5 := month_12 (leapZ a) ⟨k, by omega⟩
  dsimp only at q5
  rw [show (1900 : Int) + i = a by omega] at q4
  rw [show (k : Int) + 1 = b by omega] at q5
  refine Day_L0 m m h2 0 (by omega) (by omega) ?_
  rw [show iNat (a - 1900) = i from by rw [hi]; rfl]
  have hb : (0 : Int) ≤ bif leapZ a then 1 else 0 := by cases leapZ a <;> decide
  have := Day_L1 (G := G) m m (y := a) (n := yearZ i) (k := b) (d := c) (e2 := fun y1_0 y1_1 => κ (wr .i64 (wr .i64 (y1_1 + y1_0) - 1)) true) (by omega) (by omega) (by omega) 0 (by omega) (by omega) (by
    rw [show iNat (b - 1) = k from by rw [hk']; rfl]
    rw [wr_in (n := yearZ i + monthZ (leapZ a) k + c) (by omega) (by omega), wr_in (n := yearZ i + monthZ (leapZ a) k + c - 1) (by omega) (by omega)]
    exact hk _ _ (by omega) (by omega))
  rw [show monthZ (leapZ a) 0 = 0 from rfl, Int.add_zero] at this
  exact this
theorem ReadDay_L (m j : Nat) : ∀ {x0 : Int} {x1 : List UInt8} {x2 : List Int} {e0 : List Int → Option R} {er : Int → Bool → Option R}, 0 ≤ x0 → x1.length = 10 → x2.length = 3 → 10 - x0 < j → 0 < j → (∀ l, l.length = 3 → G (e0 l)) → G (er 0 false) → G (r1_ReadDay_L0 m e0 er j x0 x1 x2) := by
  induction j with
  | zero => intro x0 x1 x2 e0 er h0 hl h2 hj hj0 he hr; exact absurd hj0 (by omega)
  | succ j ih =>
    intro x0 x1 x2 e0 er h0 hl h2 hj hj0 he hr
    rw [r1_ReadDay_L0s]; unfold r1_ReadDay_S0
    have g0 : inB 0 x2.length = true := inB_t.2 ⟨by omega, by omega⟩
    have g1 : inB 1 x2.length = true := inB_t.2 ⟨by omega, by omega⟩
    have g2 : inB 2 x2.length = true := inB_t.2 ⟨by omega, by omega⟩
    have go : x0 < 10 → ∀ l : List Int, l.length = 3 → G (r1_ReadDay_L0 m e0 er j (wr .i64 (x0 + 1)) x1 l) := fun hc l h3 => by
      rw [wr_in (n := x0 + 1) (by omega) (by omega)]
      exact ih (by omega) hl h3 (by omega) (by omega) he hr
    have hset : ∀ {i : Nat} {v : Int}, (x2.set i v).length = 3 := fun {i v} => by rw [List.length_set]; exact h2
    refine lt_sp (x0 < 10) (fun hc => br_g g2 (br_g (inB_t.2 ⟨h0, by omega⟩) (br_g g2 (go hc _ hset)))) (fun j0 hj0 => br_sp (fun hc => ?_) (fun hc => he _ h2))
    have hc := ltI_t.1 hc
    have gx : inB x0 x1.length = true := inB_t.2 ⟨h0, by omega⟩
    have hj := hj0 hc
    repeat' (first | exact hr | exact hj | exact go hc _ h2 | exact go hc _ hset | (refine br_g gx ?_) | (refine br_g g0 ?_) | (refine br_g g1 ?_) | (refine br_sp (fun _ => ?_) (fun _ => ?_)))
theorem ReadDay_sp {m : Nat} (hm : 1000 ≤ m) (a : List UInt8) {κ : Int → Bool → Option R} (hk : ∀ v w, 0 ≤ v → v ≤ 109572 → G (κ v w)) : G (r1_ReadDay m a κ) := by
  unfold r1_ReadDay r1_ReadDay_F
  have k0 := hk 0 false (by omega) (by omega)
  refine br_sp (fun _ => k0) (fun h1 => ?_)
  have h1 : (a.length : Int) = 10 := eqI_t.1 (by simpa using h1)
  have hl : a.length = 10 := by omega
  refine br_g (inB_t.2 ⟨by omega, by omega⟩) (br_sp (fun _ => k0) (fun _ => br_g (inB_t.2 ⟨by omega, by omega⟩) (br_sp (fun _ => k0) (fun _ => ?_))))
  refine ReadDay_L m m (by omega) hl rfl (by omega) (by omega) (fun l hl3 => ?_) k0
  refine br_g (inB_t.2 ⟨by omega, by omega⟩) (br_g (inB_t.2 ⟨by omega, by omega⟩) (br_g (inB_t.2 ⟨by omega, by omega⟩) ?_))
  exact Day_sp hm _ _ _ hk
end Go.Pm
namespace Go.Pm
open Go Go.EvM Go.Pv
set_option linter.unusedVariables false
variable {R : Type} {G : Option R → Prop}
noncomputable def pw (st : T9parser) : T9Word := el10 st.f_l (iNat st.f_k)
structure WdOk (w : T9Word) : Prop where
  k3 : w.f_Kind = 3 → fits 2 w.f_N = true
  k4 : w.f_Kind = 4 → fits 3 w.f_N = true
  k5 : w.f_Kind = 5 → fits 4 w.f_N = true
  k6 : w.f_Kind = 6 → fits 5 w.f_N = true
  k2 : w.f_Kind = 2 ∨ w.f_Kind = 7 → w.f_N = 0
structure WsOk (l : List T9Word) : Prop where
  len : l.length ≤ 100000
  at0 : ∀ i, i < l.length → 0 ≤ (el10 l i).f_At
  last : ∀ i, i < l.length → (el10 l i).f_Kind ≠ 0 → i + 1 < l.length
  wd : ∀ i, i < l.length → WdOk (el10 l i)
structure Inv (l : List T9Word) (st : T9parser) : Prop where
  lw : st.f_l = l
  k0 : 0 ≤ st.f_k
  kl : st.f_k < l.length
  d0 : 0 ≤ st.f_d
  d4 : st.f_d ≤ 40
structure Stp (s t : T9parser) : Prop where
  k : s.f_k ≤ t.f_k
  d : t.f_d = s.f_d
  bad : 0 ≤ s.f_bad → 0 ≤ t.f_bad
def Prg (s t : T9parser) : Prop := s.f_k < t.f_k ∨ 0 ≤ t.f_bad
theorem Stp.ok {s t : T9parser} (h : Stp s t) (hb : t.f_bad < 0) : s.f_bad < 0 := by
  by_cases q : 0 ≤ s.f_bad
  · have := h.bad q; omega
  · omega
theorem Stp.rfl' {s : T9parser} : Stp s s := ⟨Int.le_refl _, rfl, id⟩
theorem Stp.trans {s t u : T9parser} (h : Stp s t) (h' : Stp t u) : Stp s u := ⟨Int.le_trans h.k h'.k, h'.d.trans h.d, fun b => h'.bad (h.bad b)⟩
theorem Prg.of_l {s t u : T9parser} (h : Prg s t) (h' : Stp t u) : Prg s u := h.elim (fun a => .inl (by have := h'.k; omega)) (fun b => .inr (h'.bad b))
theorem Prg.of_r {s t u : T9parser} (h' : Stp s t) (h : Prg t u) : Prg s u := h.elim (fun a => .inl (by have := h'.k; omega)) .inr
variable {l : List T9Word} {st : T9parser} {m : Nat}
theorem Inv.inB (h : Inv l st) : inB st.f_k st.f_l.length = true := inB_t.2 ⟨h.k0, by rw [h.lw]; exact h.kl⟩
theorem Inv.lt (h : Inv l st) : iNat st.f_k < l.length := by
  have := h.kl
  exact iNat_lt this (by have := h.k0; omega)
theorem Inv.at0 (hw : WsOk l) (h : Inv l st) : 0 ≤ (pw st).f_At := by
  unfold pw; rw [h.lw]; exact hw.at0 _ h.lt
def adv (st : T9parser) : T9parser := .mk st.f_l (st.f_k + 1) st.f_bad st.f_deep st.f_d
theorem Inv.next (hw : WsOk l) (h : Inv l st) (hk : (pw st).f_Kind ≠ 0) : st.f_k + 1 < l.length := by
  unfold pw at hk; rw [h.lw] at hk
  have := hw.last _ h.lt hk
  have := iNat_of h.k0
  omega
theorem Inv.adv (hw : WsOk l) (h : Inv l st) (hk : (pw st).f_Kind ≠ 0) : Inv l (adv st) :=
  ⟨h.lw, by show 0 ≤ st.f_k + 1; have := h.k0; omega, h.next hw hk, h.d0, h.d4⟩
theorem adv_stp : Stp st (adv st) := ⟨by show _ ≤ st.f_k + 1; omega, rfl, id⟩
theorem adv_prg : Prg st (adv st) := .inl (by show _ < st.f_k + 1; omega)
theorem Inv.wr1 (hw : WsOk l) (h : Inv l st) : wr .i64 (st.f_k + 1) = st.f_k + 1 := by
  have := h.k0; have := h.kl; have := hw.len
  exact wr_in (by omega) (by omega)
theorem w_sp (h : Inv l st) {κ : T9Word → T9parser → Option R} (hk : G (κ (pw st) st)) : G (r9p_w m st κ) := by
  unfold r9p_w r9p_w_F
  exact br_g h.inB hk
noncomputable def failS (st : T9parser) : T9parser := if st.f_bad < 0 then .mk st.f_l st.f_k (pw st).f_At st.f_deep st.f_d else st
noncomputable def limS (st : T9parser) : T9parser := if st.f_bad < 0 then .mk st.f_l st.f_k (pw st).f_At true st.f_d else st
theorem fail_sp (h : Inv l st) {κ : T9parser → Option R} (hk : G (κ (failS st))) : G (r9p_fail m st κ) := by
  unfold r9p_fail r9p_fail_F
  refine br_sp (fun hc => w_sp h ?_) (fun hc => ?_)
  · unfold failS at hk; rw [if_pos (ltI_t.1 hc)] at hk; exact hk
  · unfold failS at hk; rw [if_neg (by have := ltI_f.1 hc; omega)] at hk; exact hk
theorem limit_sp (h : Inv l st) {κ : T9parser → Option R} (hk : G (κ (limS st))) : G (r9p_limit m st κ) := by
  unfold r9p_limit r9p_limit_F
  refine br_sp (fun hc => w_sp h ?_) (fun hc => ?_)
  · unfold limS at hk; rw [if_pos (ltI_t.1 hc)] at hk; exact hk
  · unfold limS at hk; rw [if_neg (by have := ltI_f.1 hc; omega)] at hk; exact hk
theorem failS_inv (h : Inv l st) : Inv l (failS st) := by
  unfold failS; split
  · exact ⟨h.lw, h.k0, h.kl, h.d0, h.d4⟩
  · exact h
theorem limS_inv (h : Inv l st) : Inv l (limS st) := by
  unfold limS; split
  · exact ⟨h.lw, h.k0, h.kl, h.d0, h.d4⟩
  · exact h
theorem failS_bad (hw : WsOk l) (h : Inv l st) : 0 ≤ (failS st).f_bad := by
  unfold failS; split
  · exact h.at0 hw
  · omega
theorem limS_bad (hw : WsOk l) (h : Inv l st) : 0 ≤ (limS st).f_bad := by
  unfold limS; split
  · exact h.at0 hw
  · omega
theorem failS_stp (hw : WsOk l) (h : Inv l st) : Stp st (failS st) := by
  have hb := failS_bad hw h
  refine ⟨?_, ?_, fun _ => hb⟩ <;> (unfold failS; split <;> first | exact Int.le_refl _ | rfl)
theorem limS_stp (hw : WsOk l) (h : Inv l st) : Stp st (limS st) := by
  have hb := limS_bad hw h
  refine ⟨?_, ?_, fun _ => hb⟩ <;> (unfold limS; split <;> first | exact Int.le_refl _ | rfl)
theorem is_sp (h : Inv l st) (s : List UInt8) {κ : Bool → T9parser → Option R} (hk : ∀ r, (r = true → st.f_bad < 0 ∧ ((pw st).f_Kind = 2 ∨ (pw st).f_Kind = 7) ∧ eqL (pw st).f_Text s = true) → G (κ r st)) : G (r9p_is m st s κ) := by
  unfold r9p_is r9p_is_F
  refine w_sp h (br_sp (fun h1 => br_sp (fun h2 => w_sp h ?_) (fun h2 => br_sp (fun h3 => w_sp h ?_) (fun h3 => ?_))) (fun h1 => ?_))
  · exact hk _ fun hr => ⟨ltI_t.1 h1, .inl (eqI_t.1 h2), hr⟩
  · exact hk _ fun hr => ⟨ltI_t.1 h1, .inr (eqI_t.1 h3), hr⟩
  · exact hk _ fun hr => nomatch hr
  · exact hk _ fun hr => nomatch hr
theorem take_sp (hw : WsOk l) (h : Inv l st) (s : List UInt8) {κ : Bool → T9parser → Option R} (hf : G (κ false st)) (ht : st.f_bad < 0 → (pw st).f_Kind ≠ 0 → Inv l (adv st) → G (κ true (adv st))) : G (r9p_take m st s κ) := by
  unfold r9p_take r9p_take_F
  refine is_sp h s fun r hr => br_sp (fun hc => hf) (fun hc => ?_)
  have hr := hr (by simpa using hc)
  have hne : (pw st).f_Kind ≠ 0 := by rcases hr.2.1 with e | e <;> rw [e] <;> decide
  rw [h.wr1 hw]
  exact ht hr.1 hne (h.adv hw hne)
theorem want_sp (hw : WsOk l) (h : Inv l st) (s : List UInt8) {κ : T9parser → Option R} (hk : ∀ t, Inv l t → Stp st t → Prg st t → G (κ t)) : G (r9p_want m st s κ) := by
  unfold r9p_want r9p_want_F
  refine take_sp hw h s (br_sp (fun _ => ?_) (fun hc => nomatch hc)) (fun _ hne hi => br_sp (fun hc => nomatch hc) (fun _ => ?_))
  · exact fail_sp h (hk _ (failS_inv h) (failS_stp hw h) (.inr (failS_bad hw h)))
  · exact hk _ hi adv_stp adv_prg
theorem name_sp (hw : WsOk l) (h : Inv l st) {κ : List UInt8 → T9parser → Option R} (hk : ∀ r t, Inv l t → Stp st t → Prg st t → G (κ r t)) : G (r9p_name m st κ) := by
  unfold r9p_name r9p_name_F
  refine br_sp (fun _ => ?_) (fun hc => w_sp h (br_sp (fun _ => ?_) (fun hc => ?_)))
  · exact fail_sp h (hk _ _ (failS_inv h) (failS_stp hw h) (.inr (failS_bad hw h)))
  · exact fail_sp h (hk _ _ (failS_inv h) (failS_stp hw h) (.inr (failS_bad hw h)))
  · have hk1 : (pw st).f_Kind = 1 := eqI_t.1 (by simpa using hc)
    have hne : (pw st).f_Kind ≠ 0 := by rw [hk1]; decide
    have hi := h.adv hw hne
    try dsimp only
    rw [h.wr1 hw, show st.f_k + 1 - 1 = st.f_k from by omega, wr_in (n := st.f_k) (by have := h.k0; omega) (by have := h.kl; have := hw.len; omega)]
    exact br_g h.inB (hk _ _ hi adv_stp adv_prg)
theorem kind_sp (hw : WsOk l) (hm : 100 ≤ m) (h : Inv l st) {κ : Int → T9parser → Option R} (hk : ∀ r t, Inv l t → Stp st t → Prg st t → G (κ r t)) : G (r9p_kind m st κ) := by
  have hF : ∀ r, G (r9p_fail m st (fun t => κ r t)) := fun r => fail_sp h (hk _ _ (failS_inv h) (failS_stp hw h) (.inr (failS_bad hw h)))
  unfold r9p_kind r9p_kind_F
  refine br_sp (fun _ => w_sp h (br_sp (fun h2 => w_sp h (Kind_sp hm _ fun r => br_sp (fun _ => hF _) (fun _ => ?_))) (fun _ => hF _))) (fun _ => hF _)
  have hne : (pw st).f_Kind ≠ 0 := by rw [eqI_t.1 h2]; decide
  rw [h.wr1 hw]
  exact hk _ _ (h.adv hw hne) adv_stp adv_prg
theorem islit_sp (h : Inv l st) {κ : Bool → T9parser → Option R} (hk : ∀ r, (r = true → (3 ≤ (pw st).f_Kind ∧ (pw st).f_Kind ≤ 6) ∨ (pw st).f_Kind = 2 ∨ (pw st).f_Kind = 7) → G (κ r st)) : G (r9p_islit m st κ) := by
  unfold r9p_islit r9p_islit_F
  have hT : G (r9p_is m st strue (fun r21 o0_21 => br (r21) (κ true o0_21) (r9p_is m o0_21 sfalse (fun r25 o0_25 => κ r25 o0_25)))) :=
    is_sp h _ fun r hr => br_sp (fun e => hk _ fun _ => .inr (hr e).2.1) (fun _ => is_sp h _ fun r hr => hk _ fun e => .inr (hr e).2.1)
  refine w_sp h (br_sp (fun _ => br_sp (fun h3 => br_sp (fun h6 => ?_) (fun _ => hT)) (fun _ => hT)) (fun _ => ?_))
  · exact hk _ fun _ => .inl ⟨leI_t.1 h3, leI_t.1 h6⟩
  · exact hk _ fun e => nomatch e
def Lit (r : T9Node) : Prop := r.f_Op = slit ∧ r.f_Kids = [] ∧ fits r.f_Kind r.f_N = true
theorem lit_sp (hw : WsOk l) (h : Inv l st) {κ : T9Node → T9parser → Option R} (hk : ∀ r t, Inv l t → Stp st t → Prg st t → r.f_Kids = [] → (t.f_bad < 0 → Lit r) → G (κ r t)) : G (r9p_lit m st κ) := by
  unfold r9p_lit r9p_lit_F
  refine islit_sp h fun r hr => br_sp (fun _ => ?_) (fun hc => w_sp h ?_)
  · exact fail_sp h (hk _ _ (failS_inv h) (failS_stp hw h) (.inr (failS_bad hw h)) rfl fun q => absurd (failS_bad hw h) (by omega))
  · have hr := hr (by simpa using hc)
    have hne : (pw st).f_Kind ≠ 0 := by omega
    have hi := h.adv hw hne
    have hd : WdOk (pw st) := by unfold pw; rw [h.lw]; exact hw.wd _ h.lt
    dsimp only
    rw [h.wr1 hw]
    have out : ∀ k n, fits k n = true → G (κ (.mk slit [] k n (pw st).f_At []) (adv st)) := fun k n q => hk _ _ hi adv_stp adv_prg rfl fun _ => ⟨rfl, rfl, q⟩
    refine br_sp (fun q => out _ _ (hd.k3 (eqI_t.1 q))) (fun q3 => br_sp (fun q => out _ _ (hd.k4 (eqI_t.1 q))) (fun q4 => br_sp (fun q => out _ _ (hd.k5 (eqI_t.1 q))) (fun q5 => br_sp (fun q => out _ _ (hd.k6 (eqI_t.1 q))) (fun q6 => br_sp (fun _ => out _ _ rfl) (fun _ => ?_)))))
    have q3 := eqI_f.1 q3; have q4 := eqI_f.1 q4; have q5 := eqI_f.1 q5; have q6 := eqI_f.1 q6
    have := hd.k2 (by omega)
    rw [this]
    exact out _ _ rfl
end Go.Pm
namespace Go.Pm
open Go Go.EvM Go.Pv
set_option linter.unusedVariables false
variable {R : Type} {G : Option R → Prop}
def Nd (x : T9Node) : Prop := Lit x ∨ (x.f_Op = sname ∨ x.f_Op = slen ∨ x.f_Op = sat ∨ x.f_Op = ssum) ∨ (x.f_Op = sif ∧ x.f_Kids.length = 3) ∨ (∃ i, i < 14 ∧ x.f_Op = wd i ∧ x.f_Kids.length = 2) ∨ ∃ i, (14 ≤ i ∧ i < 16) ∧ x.f_Op = wd i ∧ x.f_Kids.length = 1
def Sm (P : Prop) : Nat → T9Node → Prop
  | 0, _ => False
  | n + 1, x => x.f_Kids.length ≤ 100000 ∧ (P → Nd x) ∧ ∀ y, y ∈ x.f_Kids → Sm P n y
variable {P Q : Prop}
theorem Sm.succ : ∀ {n : Nat} {x : T9Node}, Sm P n x → Sm P (n + 1) x
  | 0, _, h => h.elim
  | _ + 1, _, h => ⟨h.1, h.2.1, fun y hy => (h.2.2 y hy).succ⟩
theorem Sm.imp (hq : Q → P) : ∀ {n : Nat} {x : T9Node}, Sm P n x → Sm Q n x
  | 0, _, h => h.elim
  | _ + 1, _, h => ⟨h.1, fun q => h.2.1 (hq q), fun y hy => (h.2.2 y hy).imp hq⟩
theorem Sm.mono {n m : Nat} {x : T9Node} (h : Sm P n x) (hq : Q → P) (hnm : n ≤ m) : Sm Q m x := by
  refine Sm.imp hq ?_
  induction hnm with
  | refl => exact h
  | step _ ih => exact ih.succ
theorem Sm.leaf {a b : Bs} {c d e : Int} {n : Nat} (h : P → Nd (.mk a b c d e [])) : Sm P (n + 1) (.mk a b c d e []) := ⟨by show 0 ≤ _; omega, h, fun _ h => nomatch h⟩
theorem Sm.one {a b : Bs} {c d e : Int} {n : Nat} {x : T9Node} (hn : P → Nd (.mk a b c d e [x])) (h : Sm P n x) : Sm P (n + 1) (.mk a b c d e [x]) :=
  ⟨by show 1 ≤ _; omega, hn, fun y hy => by rcases List.mem_singleton.1 hy with rfl; exact h⟩
theorem Sm.two {a b : Bs} {c d e : Int} {n : Nat} {x y : T9Node} (hn : P → Nd (.mk a b c d e [x, y])) (h : Sm P n x) (h' : Sm P n y) : Sm P (n + 1) (.mk a b c d e [x, y]) :=
  ⟨by show 2 ≤ _; omega, hn, fun z hz => by
    rcases List.mem_cons.1 hz with rfl | hz
    · exact h
    · rcases List.mem_singleton.1 hz with rfl; exact h'⟩
theorem Sm.three {a b : Bs} {c d e : Int} {n : Nat} {x y w : T9Node} (hn : P → Nd (.mk a b c d e [x, y, w])) (h : Sm P n x) (h' : Sm P n y) (h'' : Sm P n w) : Sm P (n + 1) (.mk a b c d e [x, y, w]) :=
  ⟨by show 3 ≤ _; omega, hn, fun z hz => by
    rcases List.mem_cons.1 hz with rfl | hz
    · exact h
    · rcases List.mem_cons.1 hz with rfl | hz
      · exact h'
      · rcases List.mem_singleton.1 hz with rfl; exact h''⟩
variable {l : List T9Word} {st : T9parser} {m : Nat}
def Kont (l : List T9Word) (st : T9parser) (G : Option R → Prop) (κ : T9Node → T9parser → Option R) : Prop :=
  ∀ r t, Inv l t → Stp st t → Prg st t → Sm (t.f_bad < 0) (1 + (t.f_k - st.f_k).toNat) r → G (κ r t)
structure GOk (l : List T9Word) (j : Nat) (g : G_r9p_expr R) : Prop where
  expr : ∀ {G : Option R → Prop} {st : T9parser} {κ : T9Node → T9parser → Option R}, Inv l st → 110001 + 20 * (40 - st.f_d) ≤ (j : Int) → Kont l st G κ → G (g.r9p_expr st κ)
  inside : ∀ {G : Option R → Prop} {st : T9parser} {κ : T9Node → T9parser → Option R}, Inv l st → 110020 + 20 * (40 - st.f_d) ≤ (j : Int) → Kont l st G κ → G (g.r9p_inside st κ)
  row : ∀ {G : Option R → Prop} {st : T9parser} {a : Int} {κ : T9Node → T9parser → Option R}, 0 ≤ a → a ≤ 5 → Inv l st → 110019 - a + 20 * (40 - st.f_d) ≤ (j : Int) → Kont l st G κ → G (g.r9p_row st a κ)
  un : ∀ {G : Option R → Prop} {st : T9parser} {κ : T9Node → T9parser → Option R}, Inv l st → 110013 + 20 * (40 - st.f_d) ≤ (j : Int) → Kont l st G κ → G (g.r9p_un st κ)
  prim : ∀ {G : Option R → Prop} {st : T9parser} {κ : T9Node → T9parser → Option R}, Inv l st → 110012 + 20 * (40 - st.f_d) ≤ (j : Int) → Kont l st G κ → G (g.r9p_prim st κ)
def dn (st : T9parser) : T9parser := .mk st.f_l st.f_k st.f_bad st.f_deep (st.f_d + 1)
def up (st : T9parser) : T9parser := .mk st.f_l st.f_k st.f_bad st.f_deep (st.f_d - 1)
theorem in_sp (hw : WsOk l) (h : Inv l st) {κ : Bool → T9parser → Option R} (hf : ∀ t, Inv l t → Stp st t → 0 ≤ t.f_bad → G (κ false t)) (ht : st.f_d < 40 → Inv l (dn st) → G (κ true (dn st))) : G (r9p_in m st κ) := by
  unfold r9p_in r9p_in_F
  refine br_sp (fun hc => hf _ h .rfl' (leI_t.1 hc)) (fun _ => br_sp (fun _ => ?_) (fun hc => ?_))
  · exact limit_sp h (hf _ (limS_inv h) (limS_stp hw h) (limS_bad hw h))
  · have h4 := leI_f.1 hc
    rw [wr_in (by have := h.d0; omega) (by omega)]
    exact ht h4 ⟨h.lw, h.k0, h.kl, by show 0 ≤ st.f_d + 1; have := h.d0; omega, by show st.f_d + 1 ≤ 40; omega⟩
theorem out_sp (h : Inv l st) {κ : T9parser → Option R} (hk : G (κ (up st))) : G (r9p_out m st κ) := by
  unfold r9p_out r9p_out_F
  try dsimp only
  rw [wr_in (by have := h.d0; omega) (by have := h.d4; omega)]
  exact hk
theorem mk_eta (r : T9Node) : T9Node.mk r.f_Op r.f_Name r.f_Kind r.f_N r.f_At r.f_Kids = r := by cases r; rfl
theorem up_inv (h : Inv l st) (h1 : 1 ≤ st.f_d) : Inv l (up st) := ⟨h.lw, h.k0, h.kl, by show 0 ≤ st.f_d - 1; omega, by show st.f_d - 1 ≤ 40; have := h.d4; omega⟩
theorem up_stp {s t : T9parser} (h : Stp (dn s) t) : Stp s (up t) := ⟨h.k, by show t.f_d - 1 = s.f_d; have : t.f_d = s.f_d + 1 := h.d; omega, h.bad⟩
theorem expr_B_sp (hw : WsOk l) {j : Nat} {g : G_r9p_expr R} (hg : GOk l j g) (h : Inv l st) (hj : 110001 + 20 * (40 - st.f_d) ≤ ((j + 1 : Nat) : Int)) {κ : T9Node → T9parser → Option R} (hk : Kont l st G κ) : G (r9p_expr_B j g st κ) := by
  unfold r9p_expr_B r9p_expr_F
  refine in_sp hw h (fun t ht hs hb => ?_) (fun h4 hi => ?_)
  · exact hk _ _ ht hs (.inr hb) (by rw [Nat.add_comm]; exact Sm.leaf fun q => absurd hb (by omega))
  · refine hg.inside hi (by show 110020 + 20 * (40 - (st.f_d + 1)) ≤ (j : Int); omega) fun r t ht hs hp hr => ?_
    refine out_sp ht ?_
    rw [mk_eta]
    exact hk r _ (up_inv ht (by have : t.f_d = st.f_d + 1 := hs.d; have := h.d0; omega)) (up_stp hs) hp hr
theorem inside_B_sp (hw : WsOk l) {j : Nat} {g : G_r9p_expr R} (hg : GOk l j g) (h : Inv l st) (hj : 110020 + 20 * (40 - st.f_d) ≤ ((j + 1 : Nat) : Int)) {κ : T9Node → T9parser → Option R} (hk : Kont l st G κ) : G (r9p_inside_B j g st κ) := by
  unfold r9p_inside_B r9p_inside_F
  refine w_sp h (take_sp hw h _ ?_ (fun _ _ hi => ?_))
  · exact hg.row (by omega) (by omega) h (by omega) fun r t i s p m => by rw [mk_eta]; exact hk r t i s p m
  · refine hg.expr hi (by show 110001 + 20 * (40 - st.f_d) ≤ (j : Int); omega) fun r1 t1 i1 s1 p1 m1 => ?_
    refine want_sp hw i1 _ fun t2 i2 s2 p2 => ?_
    have hd2 : t2.f_d = st.f_d := (s1.trans s2).d
    refine hg.expr i2 (by omega) fun r3 t3 i3 s3 p3 m3 => ?_
    refine want_sp hw i3 _ fun t4 i4 s4 p4 => ?_
    have hd4 : t4.f_d = st.f_d := (((s1.trans s2).trans s3).trans s4).d
    refine hg.expr i4 (by omega) fun r5 t5 i5 s5 p5 m5 => ?_
    have k0 : (adv st).f_k = st.f_k + 1 := rfl
    have k1 := s1.k; have k2 := s2.k; have k3 := s3.k; have k4 := s4.k; have k5 := s5.k
    refine hk _ t5 i5 (adv_stp.trans ((((s1.trans s2).trans s3).trans s4).trans s5)) (adv_prg.of_l ((((s1.trans s2).trans s3).trans s4).trans s5)) ?_
    rw [show 1 + (t5.f_k - st.f_k).toNat = (t5.f_k - st.f_k).toNat + 1 from by omega]
    simp only [mk_eta]
    exact .three (fun _ => .inr (.inr (.inl ⟨rfl, rfl⟩))) (m1.mono (((s2.trans s3).trans s4).trans s5).ok (by rw [k0] at k1 ⊢; omega)) (m3.mono (s4.trans s5).ok (by rw [k0] at k1; omega)) (m5.mono id (by rw [k0] at k1; omega))
theorem un_B_sp (hw : WsOk l) {j : Nat} {g : G_r9p_expr R} (hg : GOk l j g) (h : Inv l st) (hj : 110013 + 20 * (40 - st.f_d) ≤ ((j + 1 : Nat) : Int)) {κ : T9Node → T9parser → Option R} (hk : Kont l st G κ) : G (r9p_un_B j g st κ) := by
  have hP : G (g.r9p_prim st (fun r16 o0_16 => κ (T9Node.mk r16.f_Op r16.f_Name r16.f_Kind r16.f_N r16.f_At r16.f_Kids) o0_16)) := hg.prim h (by omega) fun r t i s p m => by rw [mk_eta]; exact hk r t i s p m
  have hU : ∀ (i : Nat) (b : Bs) (a : Int), 14 ≤ i ∧ i < 16 → b = wd i → Inv l (adv st) → G (r9p_in j (adv st) (fun r18 o0_18 =>
      br (!r18) (κ (T9Node.mk [] [] 0 0 0 []) o0_18)
      (g.r9p_un o0_18 (fun r22 o0_22 => r9p_out j o0_22 (fun o0_24 =>
        κ (T9Node.mk b [] 0 0 a [(T9Node.mk r22.f_Op r22.f_Name r22.f_Kind r22.f_N r22.f_At r22.f_Kids)]) o0_24))))) := fun i b a hi4 hb4 hi => by
    refine in_sp hw hi (fun t ht hs hb => ?_) (fun h4 hi' => ?_)
    · exact hk _ _ ht (adv_stp.trans hs) (.inr hb) (by rw [Nat.add_comm]; exact Sm.leaf fun q => absurd hb (by omega))
    · refine hg.un hi' (by show 110013 + 20 * (40 - (st.f_d + 1)) ≤ (j : Int); have : st.f_d < 40 := h4; omega) fun r t ht hs hp hr => ?_
      refine out_sp ht ?_
      have k0 : (dn (adv st)).f_k = st.f_k + 1 := rfl
      have k1 := hs.k
      have kt : (up t).f_k = t.f_k := rfl
      refine hk _ _ (up_inv ht (by have : t.f_d = st.f_d + 1 := hs.d; have := h.d0; omega)) (adv_stp.trans (up_stp hs)) (adv_prg.of_l (up_stp hs)) ?_
      rw [show 1 + ((up t).f_k - st.f_k).toNat = ((up t).f_k - st.f_k).toNat + 1 from by omega, mk_eta]
      exact .one (fun _ => .inr (.inr (.inr (.inr ⟨i, hi4, hb4, rfl⟩)))) (hr.mono id (by rw [k0] at k1 ⊢; rw [kt]; omega))
  unfold r9p_un_B r9p_un_F
  refine w_sp h (take_sp hw h _ (take_sp hw h _ ?_ (fun _ _ hi => ?_)) (fun _ _ hi => ?_))
  · exact hP
  · exact hU 15 _ _ (by omega) rfl hi
  · exact hU 14 _ _ (by omega) rfl hi
end Go.Pm
namespace Go.Pm
open Go Go.EvM Go.Pv
set_option linter.unusedVariables false
variable {R : Type} {G : Option R → Prop}
variable {l : List T9Word} {m : Nat}
theorem st_eta (s : T9parser) : T9parser.mk s.f_l s.f_k s.f_bad s.f_deep s.f_d = s := by cases s; rfl
theorem Inv.wr1' {st : T9parser} {n : Int} (h0 : 0 ≤ n) (h1 : n < 1000000) : wr .i64 (n + 1) = n + 1 := wr_in (by omega) (by omega)
theorem el2_mem {l : List Bs} {i : Nat} (h : i < l.length) : el2 l i ∈ l := by
  unfold el2 getD
  rw [nth_eq, List.getElem?_eq_getElem h]
  exact List.getElem_mem h
theorem inW (is : List Nat) (h : is.all (fun i => Nat.blt i 14) = true) : ∀ op, op ∈ is.map wd → ∃ i, i < 14 ∧ op = wd i := fun op ho => by
  obtain ⟨i, h1, h2⟩ := List.mem_map.1 ho
  exact ⟨i, by have := List.all_eq_true.1 h i h1; rw [Nat.blt_eq] at this; exact this, h2.symm⟩
theorem row_L00 (hw : WsOk l) (s0 : T9parser) (j : Nat) : ∀ {x0 : Int} {x1 : List (List UInt8)} {x2 x3 : Int} {x4 : List UInt8} {st : T9parser} {x10 x11 : List UInt8} {x12 x13 x14 : Int} {x15 : List T9Node} {n : T9Node}
    {e2 : List (List UInt8) → Int → Int → List UInt8 → List T9Word → Int → Int → Bool → Int → List UInt8 → List UInt8 → Int → Int → Int → List T9Node → List UInt8 → List UInt8 → Int → Int → Int → List T9Node → Option R},
    0 ≤ x0 → x1.length < 1000 → x1.length - x0 < j → 0 < j → Inv l st → Stp s0 st → (eqL x4 [] = true ∨ s0.f_k < st.f_k) → (eqL x4 [] = true ∨ x4 ∈ x1) →
    (∀ op t, Inv l t → Stp s0 t → (eqL op [] = true ∨ s0.f_k < t.f_k) → (eqL op [] = true ∨ op ∈ x1) → G (e2 x1 x2 x3 op t.f_l t.f_k t.f_bad t.f_deep t.f_d x10 x11 x12 x13 x14 x15 n.f_Op n.f_Name n.f_Kind n.f_N n.f_At n.f_Kids)) →
    G (r9p_row_L0_0 m (r9p_take m) e2 j x0 x1 x2 x3 x4 st.f_l st.f_k st.f_bad st.f_deep st.f_d x10 x11 x12 x13 x14 x15 n.f_Op n.f_Name n.f_Kind n.f_N n.f_At n.f_Kids) := by
  induction j with
  | zero => intro x0 x1 x2 x3 x4 st x10 x11 x12 x13 x14 x15 n e2 h0 hl hj hj0 hi hs hp hq he; exact absurd hj0 (by omega)
  | succ j ih =>
    intro x0 x1 x2 x3 x4 st x10 x11 x12 x13 x14 x15 n e2 h0 hl hj hj0 hi hs hp hq he
    rw [r9p_row_L0_0s]; unfold r9p_row_S0_0
    refine br_sp (fun hc => br_sp (fun h4 => ?_) (fun _ => he _ _ hi hs hp hq)) (fun _ => he _ _ hi hs hp hq)
    have hc := ltI_t.1 hc
    refine br_g (inB_t.2 ⟨h0, hc⟩) ?_
    rw [st_eta, wr_in (n := x0 + 1) (by omega) (by omega)]
    refine take_sp hw hi _ (br_sp (fun hc => nomatch hc) (fun _ => ?_)) (fun _ _ hi' => br_sp (fun _ => br_g (inB_t.2 ⟨h0, hc⟩) ?_) (fun hc => nomatch hc))
    · exact ih (by omega) hl (by omega) (by omega) hi hs hp hq he
    · exact ih (by omega) hl (by omega) (by omega) hi' (hs.trans adv_stp) (.inr (by show s0.f_k < st.f_k + 1; have := hs.k; omega)) (.inr (el2_mem (iNat_lt hc (by omega)))) he
theorem row_L0 (hw : WsOk l) {M : Nat} {g : G_r9p_expr R} (hg : GOk l M g) (s0 : T9parser) {x1 : Int} (h1 : 0 ≤ x1) (h1' : x1 < 5) (hM : 110019 - (x1 + 1) + 20 * (40 - s0.f_d) ≤ (M : Int)) (hm : 2000 ≤ m) (j : Nat) : ∀ {x0 : List (List UInt8)} {st : T9parser} {x7 x8 : List UInt8} {x9 x10 x11 : Int} {x12 : List T9Node} {n : T9Node}
    {er : List T9Word → Int → Int → Bool → Int → List UInt8 → List UInt8 → Int → Int → Int → List T9Node → Option R},
    x0.length < 1000 → (∀ op, op ∈ x0 → ∃ i, i < 14 ∧ op = wd i) → l.length - st.f_k < j → Inv l st → Stp s0 st → Sm (st.f_bad < 0) (1 + (st.f_k - s0.f_k).toNat) n →
    (∀ t n', Inv l t → Stp st t → Sm (t.f_bad < 0) (1 + (t.f_k - s0.f_k).toNat) n' → G (er t.f_l t.f_k t.f_bad t.f_deep t.f_d n'.f_Op n'.f_Name n'.f_Kind n'.f_N n'.f_At n'.f_Kids)) →
    G (r9p_row_L0 m g.r9p_row (r9p_w m) (r9p_take m) er j x0 x1 st.f_l st.f_k st.f_bad st.f_deep st.f_d x7 x8 x9 x10 x11 x12 n.f_Op n.f_Name n.f_Kind n.f_N n.f_At n.f_Kids) := by
  induction j with
  | zero => intro x0 st x7 x8 x9 x10 x11 x12 n er hl hx hj hi hs hn he; exact absurd hj (by have := hi.kl; omega)
  | succ j ih =>
    intro x0 st x7 x8 x9 x10 x11 x12 n er hl hx hj hi hs hn he
    rw [r9p_row_L0s]; unfold r9p_row_S0
    rw [st_eta]
    refine w_sp hi ?_
    refine row_L00 hw st m (by omega) hl (by omega) (by omega) hi .rfl' (.inl rfl) (.inl rfl) fun op t it s p hq => ?_
    refine br_sp (fun _ => ?_) (fun hop => ?_)
    · exact he t n it s (hn.mono s.ok (by have := s.k; omega))
    · have hlt : st.f_k < t.f_k := p.elim (fun e => by rw [e] at hop; cases hop) id
      rw [wr_in (n := x1 + 1) (by omega) (by omega), st_eta]
      have hd : t.f_d = s0.f_d := (hs.trans s).d
      refine hg.row (by omega) (by omega) it (by rw [hd]; exact hM) fun r u iu su pu mr => ?_
      have k1 := hs.k; have k2 := s.k; have k3 := su.k
      have hop2 : ∃ i, i < 14 ∧ op = wd i := hq.elim (fun e => by rw [e] at hop; cases hop) (hx _)
      have hn2 : ∀ (b : Bs) (c d e : Int), Sm (u.f_bad < 0) (1 + (u.f_k - s0.f_k).toNat) (T9Node.mk op b c d e [n, r]) := fun b c d e => by
        rw [show 1 + (u.f_k - s0.f_k).toNat = (u.f_k - s0.f_k).toNat + 1 from by omega]
        obtain ⟨i, h14, e⟩ := hop2
        exact .two (fun _ => .inr (.inr (.inr (.inl ⟨i, h14, e, rfl⟩)))) (hn.mono (s.trans su).ok (by omega)) (mr.mono id (by omega))
      simp only [mk_eta]
      refine br_sp (fun _ => ?_) (fun _ => ?_)
      · exact he u _ iu (s.trans su) (hn2 [] 0 0 (pw st).f_At)
      · exact ih (n := .mk op [] 0 0 (pw st).f_At [n, r]) hl hx (by omega) iu (hs.trans (s.trans su)) (hn2 _ _ _ _) fun t' n' it' st' sm' => he t' n' it' ((s.trans su).trans st') sm'
theorem row_B_sp (hw : WsOk l) {j : Nat} {g : G_r9p_expr R} (hg : GOk l j g) {st : T9parser} {a : Int} (ha : 0 ≤ a) (ha' : a ≤ 5) (h : Inv l st) (hj : 110019 - a + 20 * (40 - st.f_d) ≤ ((j + 1 : Nat) : Int)) {κ : T9Node → T9parser → Option R} (hk : Kont l st G κ) : G (r9p_row_B j g st a κ) := by
  have hd4 := h.d4
  unfold r9p_row_B r9p_row_F
  refine br_sp (fun h5 => ?_) (fun h5 => ?_)
  · exact hg.un h (by have := eqI_t.1 h5; omega) fun r t i s p m => by rw [mk_eta]; exact hk r t i s p m
  · have h5 := eqI_f.1 h5
    refine br_g (inB_t.2 ⟨ha, by show a < (5 : Nat); omega⟩) ?_
    rw [wr_in (n := a + 1) (by omega) (by omega)]
    refine hg.row (by omega) (by omega) h (by omega) fun r t it s p mr => ?_
    have hle : (el12 ([[sor], [sand], [s_60, s_60_61, s_62, s_62_61, s_61_61, s_33_61], [s_43, s_45], [s_42, s_47]]) (iNat a)).length < 1000 ∧ ∀ op, op ∈ el12 ([[sor], [sand], [s_60, s_60_61, s_62, s_62_61, s_61_61, s_33_61], [s_43, s_45], [s_42, s_47]]) (iNat a) → ∃ i, i < 14 ∧ op = wd i := by
      have : a = 0 ∨ a = 1 ∨ a = 2 ∨ a = 3 ∨ a = 4 := by omega
      rcases this with rfl | rfl | rfl | rfl | rfl
      · exact ⟨(by decide : 1 < 1000), inW [11] rfl⟩
      · exact ⟨(by decide : 1 < 1000), inW [10] rfl⟩
      · exact ⟨(by decide : 6 < 1000), inW [4, 5, 6, 7, 8, 9] rfl⟩
      · exact ⟨(by decide : 2 < 1000), inW [0, 1] rfl⟩
      · exact ⟨(by decide : 2 < 1000), inW [2, 3] rfl⟩
    refine row_L0 hw hg st ha (by omega) (by omega) (by omega) j hle.1 hle.2 (by have := hw.len; have := it.k0; omega) it s mr fun u n' iu su sm => ?_
    rw [mk_eta, st_eta]
    exact hk n' u iu (s.trans su) (p.of_l su) sm
end Go.Pm
namespace Go.Pm
open Go Go.EvM Go.Pv
set_option linter.unusedVariables false
variable {R : Type} {G : Option R → Prop}
variable {l : List T9Word} {m : Nat}
theorem prim_L0 (hw : WsOk l) {M : Nat} {g : G_r9p_expr R} (hg : GOk l M g) (s0 : T9parser) (hM : 110001 + 20 * (40 - s0.f_d) ≤ (M : Int)) (j : Nat) : ∀ {x0 x1 : Int} {st : T9parser} {x7 x8 : List UInt8} {x9 x10 x11 : Int} {x12 : List T9Node}
    {e0 : Int → List T9Word → Int → Int → Bool → Int → List UInt8 → List UInt8 → Int → Int → Int → List T9Node → Option R}
    {er : List T9Word → Int → Int → Bool → Int → List UInt8 → List UInt8 → Int → Int → Int → List T9Node → Option R},
    0 ≤ x1 → 2 - x1 < j → 0 < j → Inv l st → Stp s0 st →
    (∀ t, Inv l t → Stp s0 t → G (e0 x0 t.f_l t.f_k t.f_bad t.f_deep t.f_d x7 x8 x9 x10 x11 x12)) →
    (∀ t n', Inv l t → Stp s0 t → Prg s0 t → Sm (t.f_bad < 0) (1 + (t.f_k - s0.f_k).toNat) n' → G (er t.f_l t.f_k t.f_bad t.f_deep t.f_d n'.f_Op n'.f_Name n'.f_Kind n'.f_N n'.f_At n'.f_Kids)) →
    G (r9p_prim_L0 m (r9p_take m) (r9p_want m) g.r9p_expr e0 er j x0 x1 st.f_l st.f_k st.f_bad st.f_deep st.f_d x7 x8 x9 x10 x11 x12) := by
  induction j with
  | zero => intro x0 x1 st x7 x8 x9 x10 x11 x12 e0 er h1 hj hj0 hi hs h0 he; exact absurd hj0 (by omega)
  | succ j ih =>
    intro x0 x1 st x7 x8 x9 x10 x11 x12 e0 er h1 hj hj0 hi hs h0 he
    rw [r9p_prim_L0s]; unfold r9p_prim_S0
    refine br_sp (fun hc => ?_) (fun _ => h0 _ hi hs)
    have hc := ltI_t.1 hc
    refine br_g (inB_t.2 ⟨h1, by show x1 < (2 : Nat); omega⟩) ?_
    rw [st_eta, wr_in (n := x1 + 1) (by omega) (by omega)]
    refine take_sp hw hi _ (br_sp (fun hc => nomatch hc) (fun _ => ?_)) (fun _ _ hi' => br_sp (fun _ => ?_) (fun hc => nomatch hc))
    · exact ih (by omega) (by omega) (by omega) hi hs h0 he
    · refine want_sp hw hi' _ fun t1 i1 s1 p1 => ?_
      have hd1 : t1.f_d = s0.f_d := (hs.trans (adv_stp.trans s1)).d
      refine hg.expr i1 (by omega) fun r2 t2 i2 s2 p2 m2 => ?_
      refine want_sp hw i2 _ fun t3 i3 s3 p3 => ?_
      have hd3 : t3.f_d = s0.f_d := (hs.trans (((adv_stp.trans s1).trans s2).trans s3)).d
      refine hg.expr i3 (by omega) fun r4 t4 i4 s4 p4 m4 => ?_
      refine want_sp hw i4 _ fun t5 i5 s5 p5 => ?_
      have k0 : (adv st).f_k = st.f_k + 1 := rfl
      have k1 := s1.k; have k2 := s2.k; have k3 := s3.k; have k4 := s4.k; have k5 := s5.k; have ks := hs.k
      rw [k0] at k1
      have sA : Stp (adv st) t5 := (((s1.trans s2).trans s3).trans s4).trans s5
      simp only [mk_eta]
      refine he t5 (.mk _ [] 0 0 x0 [r2, r4]) i5 (hs.trans (adv_stp.trans sA)) (Prg.of_r hs (adv_prg.of_l sA)) ?_
      rw [show 1 + (t5.f_k - s0.f_k).toNat = (t5.f_k - s0.f_k).toNat + 1 from by omega]
      obtain ⟨i, q1, q2⟩ := inW [12, 13] rfl (el2 [smin, smax] (iNat x1)) (el2_mem (iNat_lt (n := x1) (by show x1 < (2 : Nat); omega) (by decide)))
      exact .two (fun _ => .inr (.inr (.inr (.inl ⟨i, q1, q2, rfl⟩)))) (m2.mono ((s3.trans s4).trans s5).ok (by omega)) (m4.mono s5.ok (by omega))
theorem prim_B_sp (hw : WsOk l) {j : Nat} {g : G_r9p_expr R} (hg : GOk l j g) {st : T9parser} (h : Inv l st) (hj : 110012 + 20 * (40 - st.f_d) ≤ ((j + 1 : Nat) : Int)) {κ : T9Node → T9parser → Option R} (hk : Kont l st G κ) : G (r9p_prim_B j g st κ) := by
  have hd4 := h.d4
  have hone : ∀ {P Q : Prop} {a b : Bs} {c d e : Int} {x : T9Node} {k k' : Int} {n : Nat}, (Q → P) → (a = sname ∨ a = slen ∨ a = sat ∨ a = ssum) → Sm P n x → k + 1 ≤ k' → n ≤ (k' - k).toNat → Sm Q (1 + (k' - k).toNat) (.mk a b c d e [x]) := fun hq ha hx _ hn => by
    rw [Nat.add_comm]; exact .one (fun _ => .inr (.inl ha)) (hx.mono hq hn)
  unfold r9p_prim_B r9p_prim_F
  refine w_sp h (islit_sp h fun b hb => br_sp (fun _ => ?_) (fun _ => ?_))
  · refine lit_sp hw h fun r t i s p hl hL => ?_
    rw [mk_eta]
    exact hk r t i s p (by rw [Nat.add_comm]; exact ⟨by rw [hl]; show 0 ≤ _; omega, fun q => .inl (hL q), fun y hy => by rw [hl] at hy; exact nomatch hy⟩)
  refine prim_L0 hw hg st (by omega) j (by omega) (by omega) (by omega) h .rfl' (fun t it s => ?_) (fun t n' it s p sm => ?_)
  rotate_left
  · rw [mk_eta, st_eta]; exact hk n' t it s p sm
  rw [st_eta]
  refine take_sp hw it _ (br_sp (fun hc => nomatch hc) (fun _ => ?_)) (fun _ _ hi' => br_sp (fun _ => ?_) (fun hc => nomatch hc))
  rotate_left
  · have hd1 : (adv t).f_d = st.f_d := s.d
    refine hg.expr hi' (by omega) fun r1 t1 i1 s1 p1 m1 => want_sp hw i1 _ fun t2 i2 s2 p2 => ?_
    rw [mk_eta]
    have k1 := s1.k; have k2 := s2.k; have k := s.k
    have k0 : (adv t).f_k = t.f_k + 1 := rfl
    exact hk _ _ i2 (s.trans (adv_stp.trans (s1.trans s2))) (Prg.of_r s (adv_prg.of_l (s1.trans s2))) (m1.mono s2.ok (by omega))
  refine take_sp hw it _ (br_sp (fun hc => nomatch hc) (fun _ => ?_)) (fun _ _ hi' => br_sp (fun _ => ?_) (fun hc => nomatch hc))
  rotate_left
  · refine want_sp hw hi' _ fun t0 i0 s0 p0 => ?_
    have hd1 : t0.f_d = st.f_d := (s.trans (adv_stp.trans s0)).d
    refine hg.expr i0 (by omega) fun r1 t1 i1 s1 p1 m1 => want_sp hw i1 _ fun t2 i2 s2 p2 => ?_
    rw [mk_eta]
    have k0 := s0.k; have k1 := s1.k; have k2 := s2.k; have k := s.k
    have ka : (adv t).f_k = t.f_k + 1 := rfl
    rw [ka] at k0
    exact hk _ _ i2 (s.trans (adv_stp.trans (s0.trans (s1.trans s2)))) (Prg.of_r s (adv_prg.of_l (s0.trans (s1.trans s2)))) (hone s2.ok (.inr (.inl rfl)) m1 (by omega) (by omega))
  refine take_sp hw it _ (br_sp (fun hc => nomatch hc) (fun _ => ?_)) (fun _ _ hi' => br_sp (fun _ => ?_) (fun hc => nomatch hc))
  rotate_left
  · refine want_sp hw hi' _ fun ta ia sa pa => name_sp hw ia fun nm tb ib sb pb => want_sp hw ib _ fun t0 i0 s0 p0 => ?_
    have s0' := sa.trans (sb.trans s0)
    have hd1 : t0.f_d = st.f_d := (s.trans (adv_stp.trans s0')).d
    refine hg.expr i0 (by omega) fun r1 t1 i1 s1 p1 m1 => want_sp hw i1 _ fun t2 i2 s2 p2 => ?_
    rw [mk_eta]
    have k0 := s0'.k; have k1 := s1.k; have k2 := s2.k; have k := s.k
    have ka : (adv t).f_k = t.f_k + 1 := rfl
    rw [ka] at k0
    exact hk _ _ i2 (s.trans (adv_stp.trans (s0'.trans (s1.trans s2)))) (Prg.of_r s (adv_prg.of_l (s0'.trans (s1.trans s2)))) (hone s2.ok (.inr (.inr (.inl rfl))) m1 (by omega) (by omega))
  refine take_sp hw it _ (br_sp (fun hc => nomatch hc) (fun _ => ?_)) (fun _ _ hi' => br_sp (fun _ => ?_) (fun hc => nomatch hc))
  rotate_left
  · refine want_sp hw hi' _ fun ta ia sa pa => name_sp hw ia fun nm tb ib sb pb => want_sp hw ib _ fun t0 i0 s0 p0 => ?_
    have s0' := sa.trans (sb.trans s0)
    have hd1 : t0.f_d = st.f_d := (s.trans (adv_stp.trans s0')).d
    refine hg.expr i0 (by omega) fun r1 t1 i1 s1 p1 m1 => want_sp hw i1 _ fun t2 i2 s2 p2 => ?_
    have hd2 : t2.f_d = st.f_d := (s.trans (adv_stp.trans (s0'.trans (s1.trans s2)))).d
    refine hg.expr i2 (by omega) fun r3 t3 i3 s3 p3 m3 => want_sp hw i3 _ fun t4 i4 s4 p4 => ?_
    simp only [mk_eta]
    have k0 := s0'.k; have k1 := s1.k; have k2 := s2.k; have k3 := s3.k; have k4 := s4.k; have k := s.k
    have ka : (adv t).f_k = t.f_k + 1 := rfl
    rw [ka] at k0
    have sA := s0'.trans (s1.trans (s2.trans (s3.trans s4)))
    refine hk _ _ i4 (s.trans (adv_stp.trans sA)) (Prg.of_r s (adv_prg.of_l sA)) ?_
    rw [Nat.add_comm]
    exact .two (fun _ => .inr (.inl (.inr (.inr (.inr rfl))))) (m1.mono (s2.trans (s3.trans s4)).ok (by omega)) (m3.mono s4.ok (by omega))
  · refine name_sp hw it fun nm t1 i1 s1 p1 => ?_
    exact hk _ _ i1 (s.trans s1) (Prg.of_r s p1) (by rw [Nat.add_comm]; exact .leaf fun _ => .inr (.inl (.inl rfl)))
theorem G_ok (hw : WsOk l) : ∀ j, GOk l j (G_r9p_expr_r (R := R) j)
  | 0 => ⟨fun h hj _ => absurd hj (by have := h.d4; show ¬ _ ≤ (0 : Int); omega), fun h hj _ => absurd hj (by have := h.d4; show ¬ _ ≤ (0 : Int); omega), fun _ h5 h hj _ => absurd hj (by have := h.d4; show ¬ _ ≤ (0 : Int); omega), fun h hj _ => absurd hj (by have := h.d4; show ¬ _ ≤ (0 : Int); omega), fun h hj _ => absurd hj (by have := h.d4; show ¬ _ ≤ (0 : Int); omega)⟩
  | j + 1 => ⟨fun h hj hk => expr_B_sp hw (G_ok hw j) h hj hk, fun h hj hk => inside_B_sp hw (G_ok hw j) h hj hk, fun h0 h5 h hj hk => row_B_sp hw (G_ok hw j) h0 h5 h hj hk, fun h hj hk => un_B_sp hw (G_ok hw j) h hj hk, fun h hj hk => prim_B_sp hw (G_ok hw j) h hj hk⟩
theorem expr_sp (hw : WsOk l) (hm : 120000 ≤ m) {st : T9parser} (h : Inv l st) {κ : T9Node → T9parser → Option R} (hk : Kont l st G κ) : G (r9p_expr m st κ) :=
  (G_ok hw m).expr h (by have := h.d0; omega) hk
end Go.Pm
namespace Go.Pm
open Go Go.EvM Go.Pv
set_option linter.unusedVariables false
variable {R : Type} {G : Option R → Prop}
variable {l : List T9Word} {m : Nat}
theorem decl_L0 (hw : WsOk l) (s0 : T9parser) (j : Nat) : ∀ {st : T9parser} {r : T9Node} {x11 x12 : List UInt8} {x13 x14 x15 : Int} {x16 : List T9Node}
    {e1 : List T9Word → Int → Int → Bool → Int → List UInt8 → List UInt8 → Int → Int → Int → List T9Node → List UInt8 → List UInt8 → Int → Int → Int → List T9Node → Option R},
    0 < j → (0 ≤ st.f_bad ∨ l.length - st.f_k < j) → Inv l st → Stp s0 st → x16.length ≤ 32 → (∀ y, y ∈ x16 → Sm False 2 y) →
    (∀ (t : T9parser) (r : T9Node) (rs : List T9Node), Inv l t → Stp s0 t → rs.length ≤ 32 → (∀ y, y ∈ rs → Sm False 2 y) → G (e1 t.f_l t.f_k t.f_bad t.f_deep t.f_d r.f_Op r.f_Name r.f_Kind r.f_N r.f_At r.f_Kids x11 x12 x13 x14 x15 rs)) →
    G (r9p_decl_L0 m (r9p_w m) (r9p_want m) (r9p_is m) (r9p_limit m) (r9p_lit m) e1 j st.f_l st.f_k st.f_bad st.f_deep st.f_d r.f_Op r.f_Name r.f_Kind r.f_N r.f_At r.f_Kids x11 x12 x13 x14 x15 x16) := by
  induction j with
  | zero => intro st r x11 x12 x13 x14 x15 x16 e1 hj0; exact absurd hj0 (by omega)
  | succ j ih =>
    intro st r x11 x12 x13 x14 x15 x16 e1 hj0 hj hi hs h32 hr he
    rw [r9p_decl_L0s]; unfold r9p_decl_S0
    refine br_sp (fun hb => ?_) (fun _ => he st r _ hi hs h32 hr)
    have hb := ltI_t.1 hb
    rw [st_eta]
    refine is_sp hi _ fun b _ => br_sp (fun _ => br_sp (fun _ => ?_) (fun h3 => ?_)) (fun _ => he st r _ hi hs h32 hr)
    · exact limit_sp hi (he _ r _ (limS_inv hi) (hs.trans (limS_stp hw hi)) h32 hr)
    · have h3 := eqI_f.1 h3
      refine w_sp hi (lit_sp hw hi fun r1 t1 i1 s1 p1 l1 _ => want_sp hw i1 _ fun t2 i2 s2 p2 => lit_sp hw i2 fun r3 t3 i3 s3 p3 l3 _ => want_sp hw i3 _ fun t4 i4 s4 p4 => ?_)
      refine br_g (okAp_t (by decide) (by show x16.length + 1 ≤ _; omega)) ?_
      simp only [mk_eta]
      have sA := s1.trans (s2.trans (s3.trans s4))
      have pA : Prg st t4 := p1.of_l (s2.trans (s3.trans s4))
      have hk := hi.kl
      have hleaf : ∀ {r : T9Node}, r.f_Kids = [] → Sm False 1 r := fun e => ⟨by rw [e]; show 0 ≤ _; omega, False.elim, fun y hy => by rw [e] at hy; exact nomatch hy⟩
      refine ih (r := r) (by omega) ?_ i4 (hs.trans sA) (x16 := x16 ++ [.mk srow [] 0 0 (pw st).f_At [r1, r3]]) (by rw [List.length_append]; show x16.length + 1 ≤ 32; omega) (fun y hy => ?_) he
      · rcases pA with p | p
        · exact .inr (by omega)
        · exact .inl p
      · rcases List.mem_append.1 hy with hy | hy
        · exact hr y hy
        · rcases List.mem_singleton.1 hy with rfl
          exact .two False.elim (hleaf l1) (hleaf l3)
structure DeclOk (P : Prop) (r : T9Node) : Prop where
  len : r.f_Kids.length ≤ 33
  sm : ∀ y, y ∈ r.f_Kids → Sm False 100002 y
  rule : P → eqL r.f_Op srule = true → ∃ y, r.f_Kids = [y] ∧ Sm True 100002 y
theorem DeclOk.imp {P Q : Prop} (hq : Q → P) {r : T9Node} (h : DeclOk P r) : DeclOk Q r := ⟨h.len, h.sm, fun q => h.rule (hq q)⟩
theorem DeclOk.nil {P : Prop} {a b : Bs} {c d e : Int} (h : eqL a srule = false) : DeclOk P (.mk a b c d e []) :=
  ⟨Nat.zero_le _, fun _ h => (nomatch h), fun _ h' => Bool.noConfusion ((show eqL a srule = true from h').symm.trans h)⟩
theorem decl_sp (hw : WsOk l) (hm : 120000 ≤ m) {st : T9parser} (h : Inv l st) {κ : T9Node → T9parser → Option R} (hk : ∀ r t, Inv l t → Stp st t → Prg st t → DeclOk (t.f_bad < 0) r → G (κ r t)) : G (r9p_decl m st κ) := by
  unfold r9p_decl r9p_decl_F
  refine w_sp h (take_sp hw h _ (br_sp (fun hc => nomatch hc) (fun _ => ?_)) (fun _ _ hi => br_sp (fun _ => ?_) (fun hc => nomatch hc)))
  rotate_left
  · refine name_sp hw hi fun nm t1 i1 s1 p1 => kind_sp hw (by omega) i1 fun kd t2 i2 s2 p2 => want_sp hw i2 _ fun t3 i3 s3 p3 => ?_
    have sA := s1.trans (s2.trans s3)
    exact hk _ _ i3 (adv_stp.trans sA) (adv_prg.of_l sA) (.nil rfl)
  refine take_sp hw h _ (br_sp (fun hc => nomatch hc) (fun _ => ?_)) (fun _ _ hi => br_sp (fun _ => ?_) (fun hc => nomatch hc))
  rotate_left
  · refine name_sp hw hi fun nm t1 i1 s1 p1 => kind_sp hw (by omega) i1 fun kd t2 i2 s2 p2 => want_sp hw i2 _ fun t3 i3 s3 p3 => expr_sp hw hm i3 fun r t4 i4 s4 p4 m4 => want_sp hw i4 _ fun t5 i5 s5 p5 => ?_
    have sA := s1.trans (s2.trans (s3.trans (s4.trans s5)))
    rw [mk_eta]
    have := hw.len; have := i4.kl; have := i3.k0
    refine hk _ _ i5 (adv_stp.trans sA) (adv_prg.of_l sA) ⟨by show 1 ≤ 33; omega, fun y hy => ?_, fun q _ => ⟨_, rfl, m4.mono (fun _ => s5.ok q) (by omega)⟩⟩
    rcases List.mem_singleton.1 hy with rfl
    exact m4.mono False.elim (by omega)
  refine take_sp hw h _ (br_sp (fun hc => nomatch hc) (fun _ => ?_)) (fun _ _ hi => br_sp (fun _ => ?_) (fun hc => nomatch hc))
  · exact fail_sp h (hk _ _ (failS_inv h) (failS_stp hw h) (.inr (failS_bad hw h)) (.nil rfl))
  refine name_sp hw hi fun nm t1 i1 s1 p1 => kind_sp hw (by omega) i1 fun kd t2 i2 s2 p2 => kind_sp hw (by omega) i2 fun kd' t3 i3 s3 p3 => want_sp hw i3 _ fun t4 i4 s4 p4 => ?_
  have sA := adv_stp.trans (s1.trans (s2.trans (s3.trans s4)))
  have pA : Prg st t4 := adv_prg.of_l (s1.trans (s2.trans (s3.trans s4)))
  have hfin : ∀ (t : T9parser) (rs : List T9Node), Inv l t → Stp t4 t → rs.length ≤ 32 → (∀ y, y ∈ rs → Sm False 2 y) →
      G (r9p_w m t (fun r116 o0_116 =>
            r9p_want m o0_116 selse (fun o0_120 =>
            r9p_lit m o0_120 (fun r122 o0_122 =>
            br ((okAp 80 (rs.length + [(T9Node.mk srow [] 0 0 r116.f_At [(T9Node.mk r122.f_Op r122.f_Name r122.f_Kind r122.f_N r122.f_At r122.f_Kids)])].length))) (
              r9p_want m o0_122 s_125 (fun o0_133 =>
              κ (T9Node.mk stable nm kd' kd (pw st).f_At (rs ++ [(T9Node.mk srow [] 0 0 r116.f_At [(T9Node.mk r122.f_Op r122.f_Name r122.f_Kind r122.f_N r122.f_At r122.f_Kids)])])) o0_133)) none)))) := fun t rs it s hl hr => by
    refine w_sp it (want_sp hw it _ fun t5 i5 s5 p5 => lit_sp hw i5 fun r6 t6 i6 s6 p6 l6 _ => ?_)
    refine br_g (okAp_t (by decide) (by show rs.length + 1 ≤ _; omega)) ?_
    refine want_sp hw i6 _ fun t7 i7 s7 p7 => ?_
    have sB := s.trans (s5.trans (s6.trans s7))
    rw [mk_eta]
    refine hk _ _ i7 (sA.trans sB) (pA.of_l sB) ⟨by show (rs ++ [_]).length ≤ 33; rw [List.length_append]; show rs.length + 1 ≤ 33; omega, fun y hy => ?_, fun _ h => nomatch h⟩
    rcases List.mem_append.1 hy with hy | hy
    · exact (hr y hy).mono id (by omega)
    · rcases List.mem_singleton.1 hy with rfl
      exact Sm.mono (n := 2) (.one False.elim ⟨by rw [l6]; show 0 ≤ _; omega, False.elim, fun y hy => by rw [l6] at hy; exact nomatch hy⟩) id (by omega)
  refine decl_L0 hw t4 m (r := .mk [] [] 0 0 0 []) (by omega) (.inr (by have := hw.len; have := i4.k0; omega)) i4 .rfl' (by show 0 ≤ 32; omega) (fun y hy => nomatch hy) fun t r rs it s hl hr => ?_
  rw [st_eta]
  refine br_sp (fun _ => br_sp (fun _ => ?_) (fun _ => ?_)) (fun _ => ?_)
  · exact limit_sp it (hfin _ rs (limS_inv it) (s.trans (limS_stp hw it)) hl hr)
  · exact hfin _ rs it s hl hr
  · exact hfin _ rs it s hl hr
end Go.Pm
namespace Go.Pm
open Go Go.EvM Go.Pv
set_option linter.unusedVariables false
variable {R : Type} {G : Option R → Prop} {m : Nat}
theorem letter_sp (b : Int) {κ : Bool → Option R} (hk : ∀ r, G (κ r)) : G (r9_letter m b κ) := by
  unfold r9_letter r9_letter_F
  exact br_sp (fun _ => hk _) (fun _ => hk _)
theorem gdigit_sp (b : Int) {κ : Bool → Option R} (hk : ∀ r, G (κ r)) : G (r9_digit m b κ) := by
  unfold r9_digit r9_digit_F
  exact br_sp (fun _ => hk _) (fun _ => hk _)
theorem run_L (m j : Nat) : ∀ {x0 x1 : Int} {x2 : List UInt8} {e0 : Int → Option R}, 0 ≤ x0 → 0 ≤ x1 → x1 + x0 ≤ x2.length → x2.length < 100000 → x2.length - x0 < j → 0 < j → (∀ r, 0 ≤ r → x1 + r ≤ x2.length → G (e0 r)) → G (r9_run_L0 m (r9_digit m) e0 j x0 x1 x2) := by
  induction j with
  | zero => intro x0 x1 x2 e0 h0 h1 h2 hl hj hj0 he; exact absurd hj0 (by omega)
  | succ j ih =>
    intro x0 x1 x2 e0 h0 h1 h2 hl hj hj0 he
    rw [r9_run_L0s]; unfold r9_run_S0
    try dsimp only
    rw [wr_in (n := x1 + x0) (by omega) (by omega)]
    refine br_sp (fun hc => ?_) (fun _ => he _ h0 h2)
    have hc := ltI_t.1 hc
    refine br_g (inB_t.2 ⟨by omega, hc⟩) (gdigit_sp _ fun r => br_sp (fun _ => ?_) (fun _ => he _ h0 h2))
    rw [wr_in (n := x0 + 1) (by omega) (by omega)]
    exact ih (by omega) h1 (by omega) hl (by omega) (by omega) he
theorem run_sp (hm : 100000 ≤ m) {t : List UInt8} (hl : t.length < 100000) {a : Int} (h : 0 ≤ a) (h' : a ≤ t.length) {κ : Int → Option R} (hk : ∀ r, 0 ≤ r → a + r ≤ t.length → G (κ r)) : G (r9_run m t a κ) := by
  unfold r9_run r9_run_F
  exact run_L m m (by omega) h (by omega) hl (by omega) (by omega) hk
theorem cut_g {a b : Int} {n : Nat} (h : 0 ≤ a) (hab : a ≤ b) (hb : b ≤ n) : (leI 0 a && (leI 0 b && (Nat.ble (iNat a) (iNat b) && Nat.ble (iNat b) n))) = true := by
  have h1 := iNat_of h
  have h2 := iNat_of (n := b) (by omega)
  simp only [Bool.and_eq_true, leI_t, Nat.ble_eq]
  omega
theorem cutL_le {l : List UInt8} {a b : Nat} : (cutL l a b).length ≤ l.length := by
  unfold cutL
  rw [List.length_take, List.length_drop]
  omega
theorem WdOk.of3 {t : Bs} {n a : Int} (h0 : 0 ≤ n) (h1 : n ≤ 4503599627370496) : WdOk (.mk 3 t n a) := ⟨fun _ => by show fits 2 n = true; simp [fits]; omega, fun h => absurd h (show ¬ (3 : Int) = 4 by decide), fun h => absurd h (show ¬ (3 : Int) = 5 by decide), fun h => absurd h (show ¬ (3 : Int) = 6 by decide), fun h => absurd h (show ¬ ((3 : Int) = 2 ∨ (3 : Int) = 7) by decide)⟩
theorem WdOk.of4 {t : Bs} {n a : Int} (h0 : 0 ≤ n) (h1 : n ≤ 4503599627370496) : WdOk (.mk 4 t n a) := ⟨fun h => absurd h (show ¬ (4 : Int) = 3 by decide), fun _ => by show fits 3 n = true; simp [fits]; omega, fun h => absurd h (show ¬ (4 : Int) = 5 by decide), fun h => absurd h (show ¬ (4 : Int) = 6 by decide), fun h => absurd h (show ¬ ((4 : Int) = 2 ∨ (4 : Int) = 7) by decide)⟩
theorem WdOk.of5 {t : Bs} {n a : Int} (h0 : 0 ≤ n) (h1 : n ≤ 1000000000000) : WdOk (.mk 5 t n a) := ⟨fun h => absurd h (show ¬ (5 : Int) = 3 by decide), fun h => absurd h (show ¬ (5 : Int) = 4 by decide), fun _ => by show fits 4 n = true; simp [fits]; omega, fun h => absurd h (show ¬ (5 : Int) = 6 by decide), fun h => absurd h (show ¬ ((5 : Int) = 2 ∨ (5 : Int) = 7) by decide)⟩
theorem WdOk.of6 {t : Bs} {n a : Int} (h0 : 0 ≤ n) (h1 : n ≤ 109572) : WdOk (.mk 6 t n a) := ⟨fun h => absurd h (show ¬ (6 : Int) = 3 by decide), fun h => absurd h (show ¬ (6 : Int) = 4 by decide), fun h => absurd h (show ¬ (6 : Int) = 5 by decide), fun _ => by show fits 5 n = true; simp [fits]; omega, fun h => absurd h (show ¬ ((6 : Int) = 2 ∨ (6 : Int) = 7) by decide)⟩
theorem WdOk.of0 {k : Int} {t : Bs} {a : Int} (h : k = 0 ∨ k = 1 ∨ k = 2 ∨ k = 7) : WdOk (.mk k t 0 a) := ⟨fun q => absurd (show k = 3 from q) (by omega), fun q => absurd (show k = 4 from q) (by omega), fun q => absurd (show k = 5 from q) (by omega), fun q => absurd (show k = 6 from q) (by omega), fun _ => rfl⟩
end Go.Pm
namespace Go.Pm
open Go Go.EvM Go.Pv
set_option linter.unusedVariables false
variable {R : Type} {G : Option R → Prop} {m : Nat}
set_option maxHeartbeats 4000000 in
set_option maxRecDepth 100000 in
theorem digits_sp (hm : 100000 ≤ m) {t : Bs} (hl : t.length < 100000) {a : Int} (h : 0 ≤ a) (h' : a < t.length) {κ : T9Word → Int → Option R} (hk : ∀ w n, 0 ≤ n → a + n ≤ t.length → (n = 0 ∨ w.f_At = a ∧ WdOk w) → G (κ w n)) : G (r9_digits m t a κ) := by
  have hcl : ∀ {a b : Nat}, (cutL t a b).length < 100000 := Nat.lt_of_le_of_lt cutL_le hl
  have hcl' : ∀ {a b : Nat}, (cutL t a b).length < m := Nat.lt_of_lt_of_le hcl hm
  have hnil : ([] : Bs).length < 100000 := by decide
  have hz : G (κ (.mk 0 [] 0 0) 0) := hk _ _ (by omega) (by omega) (.inl rfl)
  unfold r9_digits r9_digits_F
  refine lt_sp True (fun _ => run_sp hm hl h (by omega) fun r r0 r1 => ?_) (fun j1 hj1 => lt_sp (a + 10 ≤ t.length) (fun h10 => ?_) (fun j0 hj0 => ?_))
  · have e1 : wr .i64 (a + r) = a + r := wr_in (by omega) (by omega)
    dsimp only
    rw [e1]
    refine lt_sp True (fun _ => br_g (cut_g h (by omega) r1) (number_sp hcl hcl' (by omega) (by omega) fun v b v0 v1 => br_sp (fun _ => hz) (fun _ => br_g (cut_g h (by omega) r1) (hk _ _ r0 r1 (.inr ⟨rfl, .of3 v0 v1⟩))))) (fun j2 hj2 => ?_)
    have hj2 := hj2 trivial
    have pc : ∀ (p : Bs) (to : Int), p.length < 100000 → a ≤ to → to < t.length → G (br (eqI (byteAt t to) 37) (br (leI 0 a && (leI 0 (a + r) && (Nat.ble (iNat a) (iNat (a + r)) && Nat.ble (iNat (a + r)) t.length))) (r9_percent m (cutL t (iNat a) (iNat (a + r))) p fun r110_0 r110_1 =>
        br (!r110_1) (κ (T9Word.mk 0 [] 0 0) 0) (br (leI 0 a && (leI 0 (wr .i64 (to + 1)) && (Nat.ble (iNat a) (iNat (wr .i64 (to + 1))) && Nat.ble (iNat (wr .i64 (to + 1))) t.length))) (κ (T9Word.mk 5 (cutL t (iNat a) (iNat (wr .i64 (to + 1)))) r110_0 a) (wr .i64 (wr .i64 (to + 1) - a))) none)) none) j2) := fun p to hp h1 h2 => by
      rw [wr_in (n := to + 1) (by omega) (by omega), wr_in (n := to + 1 - a) (by omega) (by omega)]
      exact br_sp (fun _ => br_g (cut_g h (by omega) r1) (percent_sp hcl hm hp fun v b v0 v1 => br_sp (fun _ => hz) (fun _ => br_g (cut_g h (by omega) (by omega)) (hk _ _ (by omega) (by omega) (.inr ⟨rfl, .of5 v0 v1⟩))))) (fun _ => hj2)
    refine lt_sp True (fun _ => br_sp (fun q => br_g (inB_t.2 ⟨by omega, ltI_t.1 q⟩) (pc [] (a + r) hnil (by omega) (ltI_t.1 q))) (fun _ => hj2)) (fun j3 hj3 => ?_)
    have hj3 := hj3 trivial
    refine br_sp (fun q => br_g (inB_t.2 ⟨by omega, ltI_t.1 q⟩) (br_sp (fun _ => ?_) (fun _ => hj3))) (fun _ => hj3)
    have q := ltI_t.1 q
    rw [wr_in (n := a + r + 1) (by omega) (by omega)]
    refine run_sp hm hl (by omega) (by omega) fun s s0 s1 => br_sp (fun _ => br_sp (fun _ => ?_) (fun _ => hj3)) (fun _ => hj3)
    rw [wr_in (n := a + r + 1 + s) (by omega) (by omega)]
    refine br_g (cut_g (by omega) (by omega) (by omega)) (br_sp (fun q => br_g (inB_t.2 ⟨by omega, ltI_t.1 q⟩) (pc _ _ hcl (by omega) (ltI_t.1 q))) (fun _ => hj2))
  · dsimp only
    rw [wr_in (n := a + 10) (by omega) (by omega)]
    exact br_g (cut_g h (by omega) h10) (ReadDay_sp (by omega) _ fun v w v0 v1 => br_sp (fun _ => br_g (cut_g h (by omega) h10) (hk _ _ (by omega) h10 (.inr ⟨rfl, .of6 v0 v1⟩))) (fun _ => hj1 trivial))
  · dsimp only
    rw [wr_in (n := a + 10) (by omega) (by omega)]
    refine br_sp (fun q => br_sp (fun _ => hj0 (leI_t.1 q)) (fun q2 => br_g (inB_t.2 ⟨by omega, ?_⟩) (gdigit_sp _ fun _ => br_sp (fun _ => hj0 (leI_t.1 q)) (fun _ => hj1 trivial)))) (fun _ => hj1 trivial)
    have q := leI_t.1 q; have q2 := eqI_f.1 q2
    omega
end Go.Pm
namespace Go.Pm
open Go Go.EvM Go.Pv
set_option linter.unusedVariables false
variable {R : Type} {G : Option R → Prop} {m : Nat}
theorem Cut_L00 (m j : Nat) : ∀ {x0 : Int} {x1 : List UInt8} {x2 : List T9Word} {e2 : Int → List UInt8 → List T9Word → Option R}, 0 ≤ x0 → x0 ≤ x1.length → x1.length < 100000 → x1.length - x0 < j → (∀ v, x0 ≤ v → v ≤ x1.length → (v = x0 → x0 = x1.length ∨ byteAt x1 x0 = 10) → G (e2 v x1 x2)) → G (r9_Cut_L0_0 m e2 j x0 x1 x2) := by
  induction j with
  | zero => intro x0 x1 x2 e2 h0 h1 hl hj he; exact absurd hj (by omega)
  | succ j ih =>
    intro x0 x1 x2 e2 h0 h1 hl hj he
    rw [r9_Cut_L0_0s]; unfold r9_Cut_S0_0
    refine br_sp (fun hc => ?_) (fun hc => he _ (by omega) h1 fun _ => .inl (by have := ltI_f.1 hc; omega))
    have hc := ltI_t.1 hc
    refine br_g (inB_t.2 ⟨h0, hc⟩) (br_sp (fun _ => ?_) (fun hb => he _ (by omega) h1 fun _ => .inr (eqI_t.1 (by simpa using hb))))
    rw [wr_in (n := x0 + 1) (by omega) (by omega)]
    exact ih (by omega) (by omega) hl (by omega) fun v hv hv' _ => he v (by omega) hv' fun e => absurd e (by omega)
theorem Cut_L01 (m j : Nat) : ∀ {x0 x1 : Int} {x2 : List UInt8} {x3 : Int} {x4 : List UInt8} {x5 x6 : Int} {x7 : List T9Word} {e5 : Int → List UInt8 → Int → Int → List UInt8 → Int → Int → List T9Word → Option R}, 0 ≤ x0 → 0 ≤ x1 → x1 + x0 ≤ x2.length → x2.length < 100000 → x2.length - x0 < j → 0 < j → (∀ n, 0 ≤ n → x1 + n ≤ x2.length → G (e5 x1 x2 n x3 x4 x5 x6 x7)) → G (r9_Cut_L0_1 m (r9_letter m) (r9_digit m) e5 j x0 x1 x2 x3 x4 x5 x6 x7) := by
  induction j with
  | zero => intro x0 x1 x2 x3 x4 x5 x6 x7 e5 h0 h1 h2 hl hj hj0 he; exact absurd hj0 (by omega)
  | succ j ih =>
    intro x0 x1 x2 x3 x4 x5 x6 x7 e5 h0 h1 h2 hl hj hj0 he
    rw [r9_Cut_L0_1s]; unfold r9_Cut_S0_1
    try dsimp only
    rw [wr_in (n := x1 + x0) (by omega) (by omega), wr_in (n := x0 + 1) (by omega) (by omega)]
    refine br_sp (fun hc => ?_) (fun _ => he _ h0 h2)
    have hc := ltI_t.1 hc
    have hg := inB_t.2 ⟨show (0 : Int) ≤ x1 + x0 by omega, hc⟩
    have hi : G (r9_Cut_L0_1 m (r9_letter m) (r9_digit m) e5 j (x0 + 1) x1 x2 x3 x4 x5 x6 x7) := ih (by omega) h1 (by omega) hl (by omega) (by omega) he
    exact br_g hg (letter_sp _ fun _ => br_sp (fun _ => hi) (fun _ => br_g hg (gdigit_sp _ fun _ => br_sp (fun _ => hi) (fun _ => br_g hg (br_sp (fun _ => hi) (fun _ => he _ h0 h2))))))
end Go.Pm
namespace Go.Pm
open Go Go.EvM Go.Pv
set_option linter.unusedVariables false
variable {R : Type} {G : Option R → Prop} {m : Nat}
theorem sign_L1 (m j : Nat) : ∀ {x0 : List UInt8} {x1 : Int} {x2 : List UInt8} {e2 : Unit → Option R} {er : List UInt8 → Option R}, 0 < x0.length → 0 ≤ x1 → x2.length < 1000 → x2.length - x1 < j → 0 < j → G (e2 ()) → (∀ r : List UInt8, r.length ≤ x0.length → G (er r)) → G (r9_sign_L1 m e2 er j x0 x1 x2) := by
  induction j with
  | zero => intro x0 x1 x2 e2 er h0 h1 hl hj hj0 he hr; exact absurd hj0 (by omega)
  | succ j ih =>
    intro x0 x1 x2 e2 er h0 h1 hl hj hj0 he hr
    rw [r9_sign_L1s]; unfold r9_sign_S1
    refine br_sp (fun hc => ?_) (fun _ => he)
    have hc := ltI_t.1 hc
    refine br_g (inB_t.2 ⟨by omega, by omega⟩) (br_g (inB_t.2 ⟨h1, hc⟩) (br_sp (fun _ => br_g ?_ (hr _ cutL_le)) (fun _ => ?_)))
    · rw [Bool.and_eq_true, Nat.ble_eq]; exact ⟨rfl, h0⟩
    · rw [wr_in (n := x1 + 1) (by omega) (by omega)]
      exact ih h0 (by omega) hl (by omega) (by omega) he hr
theorem sign_L0 (m j : Nat) : ∀ {x0 : Int} {x1 : List UInt8} {x2 : List (List UInt8)} {e0 er : List UInt8 → Option R}, 0 ≤ x0 → x2.length < 1000 → x2.length - x0 < j → 0 < j → G (e0 x1) → (∀ r : List UInt8, r.length ≤ x1.length → G (er r)) → G (r9_sign_L0 m e0 er j x0 x1 x2) := by
  induction j with
  | zero => intro x0 x1 x2 e0 er h1 hl hj hj0 he hr; exact absurd hj0 (by omega)
  | succ j ih =>
    intro x0 x1 x2 e0 er h1 hl hj hj0 he hr
    rw [r9_sign_L0s]; unfold r9_sign_S0
    refine br_sp (fun hc => ?_) (fun _ => he)
    have hc := ltI_t.1 hc
    have hg := inB_t.2 ⟨h1, hc⟩
    rw [wr_in (n := x0 + 1) (by omega) (by omega)]
    have hi := ih (x0 := x0 + 1) (x1 := x1) (x2 := x2) (e0 := e0) (er := er) (by omega) hl (by omega) (by omega) he hr
    refine br_sp (fun h2 => br_g ?_ (br_g hg (br_sp (fun he => br_g hg (hr _ ?_)) (fun _ => hi)))) (fun _ => hi)
    · rw [Bool.and_eq_true, Nat.ble_eq]; refine ⟨rfl, ?_⟩; have := leI_t.1 h2; show 2 ≤ x1.length; omega
    · rw [← eqL_iff he]; exact cutL_le
theorem sign_sp (hm : 1000 ≤ m) {s : List UInt8} (hs : 0 < s.length) {κ : List UInt8 → Option R} (hk : ∀ r : List UInt8, r.length ≤ s.length → G (κ r)) : G (r9_sign m s κ) := by
  unfold r9_sign r9_sign_F
  refine sign_L0 m m (by omega) (by decide) (by show (4 : Int) - 0 < m; omega) (by omega) ?_ hk
  exact sign_L1 m m hs (by omega) (by decide) (by show (16 : Int) - 0 < m; omega) (by omega) (hk _ (Nat.zero_le _)) hk
end Go.Pm
namespace Go.Pm
open Go Go.EvM Go.Pv
set_option linter.unusedVariables false
variable {R : Type} {G : Option R → Prop} {m : Nat}
structure Wl (l : List T9Word) (at_ : Int) : Prop where
  len : l.length ≤ at_
  pos : ∀ w, w ∈ l → 0 ≤ w.f_At ∧ WdOk w
theorem Wl.snoc {l : List T9Word} {a b : Int} {w : T9Word} (h : Wl l a) (hw : 0 ≤ w.f_At ∧ WdOk w) (hab : a + 1 ≤ b) : Wl (l ++ [w]) b := by
  refine ⟨by rw [List.length_append]; have := h.len; show ((l.length + 1 : Nat) : Int) ≤ b; omega, fun x hx => ?_⟩
  rcases List.mem_append.1 hx with hx | hx
  · exact h.pos x hx
  · rcases List.mem_singleton.1 hx with rfl; exact hw
theorem Wl.mono {l : List T9Word} {a b : Int} (h : Wl l a) (hab : a ≤ b) : Wl l b := ⟨by have := h.len; omega, h.pos⟩
set_option maxHeartbeats 4000000 in
set_option maxRecDepth 100000 in
theorem Cut_S0 (hm : 100000 ≤ m) {ρ : Int → Bs → List T9Word → Option R} {e0 : Bs → List T9Word → Option R} {er : List T9Word → Int → Option R} {x0 : Int} {t : Bs} {x2 : List T9Word} (hl : t.length < 100000) (h : 0 ≤ x0) (h' : x0 ≤ t.length) (hw : Wl x2 x0)
    (hr : ∀ v l, x0 < v → v ≤ t.length → Wl l v → G (ρ v t l)) (he : G (e0 t x2)) (hx : ∀ l v, 0 ≤ v → G (er l v)) : G (r9_Cut_S0 m (r9_letter m) (r9_digit m) (r9_Kept m) (r9_digits m) (r9_run m) (r9_money m) (r9_sign m) (r9_Cut_L0_0 m) (r9_Cut_L0_1 m (r9_letter m) (r9_digit m)) ρ e0 er x0 t x2) := by
  have hlen := hw.len
  have hcl : ∀ {a b : Nat}, (cutL t a b).length < 100000 := Nat.lt_of_le_of_lt cutL_le hl
  have hcl' : ∀ {a b : Nat}, (cutL t a b).length < m := Nat.lt_of_lt_of_le hcl hm
  have hnil : ([] : Bs).length < 100000 := by decide
  have hnil' : ([] : Bs).length < m := by show 0 < m; omega
  have hok : ∀ {w : T9Word}, okAp 40 (x2.length + [w].length) = true := okAp_t (by decide) (by show x2.length + 1 ≤ _; omega)
  have out : ∀ (w : T9Word) (n : Int), 0 ≤ n → x0 + n ≤ t.length → (n = 0 ∨ w.f_At = x0 ∧ WdOk w) → G (br (eqI n 0) (er [] x0) (br (okAp 40 (x2.length + [w].length)) (ρ (wr .i64 (x0 + n)) t (x2 ++ [w])) none)) := fun w n n0 n1 q => by
    refine br_sp (fun _ => hx _ _ h) (fun c => br_g hok ?_)
    have c := eqI_f.1 c
    obtain ⟨q1, q2⟩ := q.resolve_left c
    rw [wr_in (n := x0 + n) (by omega) (by omega)]
    exact hr _ _ (by omega) n1 (hw.snoc ⟨by omega, q2⟩ (by omega))
  unfold r9_Cut_S0
  refine lt_sp True (fun _ => out (.mk 0 [] 0 x0) 0 (by omega) (by omega) (.inl rfl)) (fun j0 hj0 => ?_)
  have hj0 := hj0 trivial
  refine br_sp (fun hc => br_g (inB_t.2 ⟨h, ltI_t.1 hc⟩) ?_) (fun hc => he)
  have hc := ltI_t.1 hc
  have hi := iNat_of h
  dsimp only
  rw [wr_in (n := x0 + 1) (by omega) (by omega)]
  have ws : G (ρ (x0 + 1) t x2) := hr _ _ (by omega) (by omega) (hw.mono (by omega))
  refine br_sp (fun _ => ws) (fun _ => br_sp (fun _ => ws) (fun _ => br_sp (fun _ => ws) (fun _ => br_sp (fun _ => ws) (fun _ => br_sp (fun hq => ?_) (fun _ => ?_)))))
  · refine Cut_L00 m m h h' hl (by omega) fun v h0 h1 h2 => hr _ _ ?_ h1 (hw.mono h0)
    have hq := eqI_t.1 hq
    rcases Int.lt_or_eq_of_le h0 with q | q
    · exact q
    · rcases h2 q.symm with q | q
      · omega
      · rw [hq] at q; exact absurd q (by decide)
  refine letter_sp _ fun _ => br_sp (fun _ => ?_) (fun _ => gdigit_sp _ fun _ => br_sp (fun _ => ?_) (fun _ => br_sp (fun _ => ?_) (fun _ => ?_)))
  · refine Cut_L01 m m (by omega) h (by omega) hl (by omega) (by omega) fun n n0 n1 => ?_
    rw [wr_in (n := x0 + n) (by omega) (by omega)]
    refine br_g (cut_g h (by omega) n1) (Kept_sp (by omega) _ fun _ => br_sp (fun _ => br_sp (fun _ => ?_) (fun _ => ?_)) (fun _ => br_sp (fun _ => ?_) (fun _ => ?_)))
    · exact br_sp (fun _ => hx _ _ h) (fun c => absurd rfl (eqI_f.1 c))
    · have := out (.mk 2 (cutL t (iNat x0) (iNat (x0 + n))) 0 x0) n n0 n1 (.inr ⟨rfl, .of0 (by omega)⟩)
      rw [wr_in (n := x0 + n) (by omega) (by omega)] at this; exact this
    · exact br_sp (fun _ => hx _ _ h) (fun c => absurd rfl (eqI_f.1 c))
    · have := out (.mk 1 (cutL t (iNat x0) (iNat (x0 + n))) 0 x0) n n0 n1 (.inr ⟨rfl, .of0 (by omega)⟩)
      rw [wr_in (n := x0 + n) (by omega) (by omega)] at this; exact this
  · exact digits_sp hm hl h hc fun w n n0 n1 q => out w n n0 n1 q
  · refine run_sp hm hl (by omega) (by omega) fun r r0 r1 => ?_
    rw [wr_in (n := 1 + r) (by omega) (by omega)]
    have mo : ∀ (c : Bs) (n : Int), c.length < 100000 → c.length < m → 0 ≤ n → x0 + n ≤ t.length → G (r9_money m (cutL t (iNat (x0 + 1)) (iNat (x0 + 1 + r))) c fun r178_0 r178_1 =>
        br (eqI r 0) j0 (br (!r178_1) j0 (br (leI 0 x0 && (leI 0 (wr .i64 (x0 + n)) && (Nat.ble (iNat x0) (iNat (wr .i64 (x0 + n))) && Nat.ble (iNat (wr .i64 (x0 + n))) t.length)))
          (br (eqI n 0) (er [] x0) (br (okAp 40 (x2.length + [(T9Word.mk 4 (cutL t (iNat x0) (iNat (wr .i64 (x0 + n)))) r178_0 x0)].length)) (ρ (wr .i64 (x0 + n)) t (x2 ++ [(T9Word.mk 4 (cutL t (iNat x0) (iNat (wr .i64 (x0 + n)))) r178_0 x0)])) none)) none))) := fun c n c0 c1 n0 n1 => by
      refine money_sp hcl hcl' c0 c1 fun v b v0 v1 => br_sp (fun _ => hj0) (fun _ => br_sp (fun _ => hj0) (fun _ => br_g ?_ (out _ n n0 n1 (.inr ⟨rfl, .of4 v0 v1⟩))))
      rw [wr_in (n := x0 + n) (by omega) (by omega)]
      exact cut_g h (by omega) n1
    rw [wr_in (n := x0 + 1 + r) (by omega) (by omega)]
    refine lt_sp True (fun _ => br_g (cut_g (by omega) (by omega) (by omega)) (mo [] (1 + r) hnil hnil' (by omega) (by omega))) (fun j1 hj1 => ?_)
    have hj1 := hj1 trivial
    refine br_sp (fun q1 => ?_) (fun _ => hj1)
    have q1 := ltI_t.1 q1
    rw [wr_in (n := x0 + (1 + r)) (by omega) (by omega)]
    refine br_sp (fun q2 => br_g (inB_t.2 ⟨by omega, ltI_t.1 q2⟩) (br_sp (fun _ => ?_) (fun _ => hj1))) (fun _ => hj1)
    have q2 := ltI_t.1 q2
    rw [wr_in (n := x0 + (1 + r) + 1) (by omega) (by omega)]
    refine run_sp hm hl (by omega) (by omega) fun s s0 s1 => br_sp (fun q3 => ?_) (fun _ => hj1)
    have q3 := eqI_t.1 q3
    rw [wr_in (n := x0 + (1 + r) + 3) (by omega) (by omega), wr_in (n := 1 + r + 3) (by omega) (by omega)]
    exact br_g (cut_g (by omega) (by omega) (by omega)) (br_g (cut_g (by omega) (by omega) (by omega)) (mo _ (1 + r + 3) hcl hcl' (by omega) (by omega)))
  · have hc3 : (leI 0 x0 && Nat.ble (iNat x0) t.length) = true := by rw [Bool.and_eq_true, leI_t, Nat.ble_eq]; omega
    have hc4 : (cutL t (iNat x0) t.length).length = t.length - iNat x0 := by
      unfold cutL; rw [List.length_take, List.length_drop, Nat.sub_eq]; omega
    refine br_g hc3 (sign_sp (by omega) (by rw [hc4]; omega) fun r h1 => ?_)
    rw [hc4] at h1
    exact out (.mk 7 r 0 x0) r.length (by omega) (by omega) (.inr ⟨rfl, .of0 (by omega)⟩)
end Go.Pm
namespace Go.Pm
open Go Go.EvM Go.Pv
set_option linter.unusedVariables false
variable {R : Type} {G : Option R → Prop} {m : Nat}
theorem el7_mem {l : List T9Word} {i : Nat} (h : i < l.length) : el10 l i ∈ l := by
  unfold el10 getD
  rw [nth_eq, List.getElem?_eq_getElem h]
  exact List.getElem_mem h
theorem el7_last {l : List T9Word} {w : T9Word} : el10 (l ++ [w]) l.length = w := by
  unfold el10 getD
  rw [nth_eq, List.getElem?_append_right (Nat.le_refl _), Nat.sub_self]
  rfl
theorem Cut_L0 (hm : 100000 ≤ m) {t : List UInt8} (hl : t.length < 100000) (j : Nat) : ∀ {x0 : Int} {x2 : List T9Word} {e0 : List UInt8 → List T9Word → Option R} {er : List T9Word → Int → Option R}, 0 ≤ x0 → x0 ≤ t.length → Wl x2 x0 → t.length - x0 < j → (∀ l, Wl l t.length → G (e0 t l)) → (∀ l v, 0 ≤ v → G (er l v)) → G (r9_Cut_L0 m (r9_letter m) (r9_digit m) (r9_Kept m) (r9_digits m) (r9_run m) (r9_money m) (r9_sign m) e0 er j x0 t x2) := by
  induction j with
  | zero => intro x0 x2 e0 er h h' hw hj he hx; exact absurd hj (by omega)
  | succ j ih =>
    intro x0 x2 e0 er h h' hw hj he hx
    rw [r9_Cut_L0s]
    exact Cut_S0 hm hl h h' hw (fun v l hv hv' hwl => ih (by omega) hv' hwl (by omega) he hx) (he _ (hw.mono h')) hx
theorem Cut_sp (hm : 100000 ≤ m) {t : List UInt8} (hl : t.length < 99999) {κ : List T9Word → Int → Option R} (hk : ∀ l, WsOk l → 0 < l.length → G (κ l (-1))) (hx : ∀ l v, 0 ≤ v → G (κ l v)) : G (r9_Cut m t κ) := by
  unfold r9_Cut r9_Cut_F
  refine Cut_L0 hm (by omega) m (by omega) (by omega) ⟨by show ((0 : Nat) : Int) ≤ 0; omega, fun _ h => nomatch h⟩ (by omega) (fun l hw => ?_) hx
  have hlen := hw.len
  refine br_g (okAp_t (by decide) (by show l.length + 1 ≤ _; omega)) (hk _ ⟨?_, fun i hi => ?_, fun i hi hne => ?_, fun i hi => ?_⟩ ?_)
  · rw [List.length_append]; show l.length + 1 ≤ _; omega
  · rcases List.mem_append.1 (el7_mem hi) with hm | hm
    · exact (hw.pos _ hm).1
    · rw [List.mem_singleton.1 hm]; show (0 : Int) ≤ (t.length : Int); omega
  · have hi' : i < l.length + 1 := by rw [List.length_append] at hi; exact hi
    by_cases e : i = l.length
    · subst e; rw [el7_last] at hne; exact absurd rfl hne
    · rw [List.length_append]; show i + 1 < l.length + 1; omega
  · rcases List.mem_append.1 (el7_mem hi) with hm | hm
    · exact (hw.pos _ hm).2
    · rw [List.mem_singleton.1 hm]; exact .of0 (by omega)
  · rw [List.length_append]; show 0 < l.length + 1; omega
end Go.Pm
namespace Go.Pm
open Go Go.EvM Go.Pv
set_option linter.unusedVariables false
variable {R : Type} {G : Option R → Prop} {m : Nat}
structure TreeOk (P : Prop) (r : T9Node) : Prop where
  len : r.f_Kids.length ≤ 100000
  kid : ∀ y, y ∈ r.f_Kids → DeclOk P y
theorem TreeOk.nil {P : Prop} {a b : Bs} {c d e : Int} : TreeOk P (.mk a b c d e []) := ⟨Nat.zero_le _, fun _ h => nomatch h⟩
theorem Parse_L0 {l : List T9Word} (hw : WsOk l) (hm : 120000 ≤ m) (j : Nat) : ∀ {x0 x1 : List UInt8} {x2 x3 x4 : Int} {st : T9parser} {x10 x11 : List UInt8} {x12 x13 x14 : Int} {x15 x16 : List T9Node}
    {e0 : List UInt8 → List UInt8 → Int → Int → Int → List T9Node → List T9Word → Int → Int → Bool → Int → List UInt8 → List UInt8 → Int → Int → Int → List T9Node → Option R},
    0 < j → (0 ≤ st.f_bad ∨ l.length - st.f_k < j) → Inv l st → (x16.length ≤ st.f_k ∨ (0 ≤ st.f_bad ∧ x16.length ≤ 100000)) → (∀ y, y ∈ x16 → DeclOk (st.f_bad < 0) y) →
    (∀ (t : T9parser) (ks : List T9Node), ks.length ≤ 100000 → (∀ y, y ∈ ks → DeclOk (t.f_bad < 0) y) → G (e0 x10 x11 x12 x13 x14 x15 t.f_l t.f_k t.f_bad t.f_deep t.f_d x0 x1 x2 x3 x4 ks)) →
    G (r9_Parse_L0 m (r9p_decl m) e0 j x0 x1 x2 x3 x4 st.f_l st.f_k st.f_bad st.f_deep st.f_d x10 x11 x12 x13 x14 x15 x16) := by
  induction j with
  | zero => intro x0 x1 x2 x3 x4 st x10 x11 x12 x13 x14 x15 x16 e0 hj0; exact absurd hj0 (by omega)
  | succ j ih =>
    intro x0 x1 x2 x3 x4 st x10 x11 x12 x13 x14 x15 x16 e0 hj0 hj hi hk hd he
    have hlen := hw.len
    have hkl := hi.kl
    have hk' : x16.length ≤ 100000 := by omega
    rw [r9_Parse_L0s]; unfold r9_Parse_S0
    refine br_sp (fun hb => br_g hi.inB (br_sp (fun _ => ?_) (fun _ => he st _ hk' hd))) (fun _ => he st _ hk' hd)
    have hb := ltI_t.1 hb
    rw [st_eta]
    refine decl_sp hw hm hi fun r t it s p dr => ?_
    have hs := s.k
    have htl := it.kl
    refine br_g (okAp_t (by decide) (by show x16.length + 1 ≤ _; omega)) (ih (x16 := x16 ++ [r]) (by omega) ?_ it ?_ (fun y hy => ?_) he)
    · rcases p with p | p
      · exact .inr (by omega)
      · exact .inl p
    · rw [List.length_append]
      show ((x16.length + 1 : Nat) : Int) ≤ _ ∨ (_ ∧ x16.length + 1 ≤ 100000)
      rcases p with p | p
      · exact .inl (by omega)
      · exact .inr ⟨p, by omega⟩
    · rcases List.mem_append.1 hy with hy | hy
      · exact (hd y hy).imp s.ok
      · rcases List.mem_singleton.1 hy with rfl; exact dr
theorem Parse_sp (hm : 120000 ≤ m) {t : List UInt8} (hl : t.length < 99999) {κ : T9Node → Int → Bool → Option R} (hk : ∀ r b d, TreeOk (b < 0) r → G (κ r b d)) : G (r9_Parse m t κ) := by
  unfold r9_Parse r9_Parse_F
  refine Cut_sp (by omega) hl (fun l hw h0 => ?_) (fun l v hv => ?_)
  · refine br_sp (fun hc => nomatch hc) (fun _ => br_g (inB_t.2 ⟨by omega, by omega⟩) ?_)
    refine Parse_L0 hw hm m (st := .mk l 0 (-1) false 0) (by omega) (.inr (by have := hw.len; show (l.length : Int) - 0 < m; omega)) ⟨rfl, Int.le_refl _, by show (0 : Int) < l.length; omega, Int.le_refl _, by show (0 : Int) ≤ 40; omega⟩ (.inl (by show ((0 : Nat) : Int) ≤ 0; omega)) (fun y hy => nomatch hy) fun t ks h1 h2 => ?_
    exact br_sp (fun _ => hk _ _ _ .nil) (fun q => hk _ _ _ ⟨h1, fun y hy => (h2 y hy).imp fun _ => leI_f.1 q⟩)
  · exact br_sp (fun _ => hk _ _ _ .nil) (fun hc => absurd (leI_f.1 hc) (by omega))
end Go.Pm
namespace Go.Pm
open Go Go.EvM Go.Pv
set_option linter.unusedVariables false
variable {R : Type} {G : Option R → Prop} {m : Nat}
noncomputable def backN : Nat → T9Node → TsynNode
  | 0, _ => .mk [] [] 0 0 0 []
  | n + 1, x => .mk x.f_Op x.f_Name x.f_Kind x.f_N x.f_At (x.f_Kids.map (backN n))
theorem el5_get {l : List T9Node} {i : Nat} (h : i < l.length) : el4 l i = l[i] := by
  unfold el4 getD
  rw [nth_eq, List.getElem?_eq_getElem h]
theorem Back_L0 {g : G_r17_Back R} {n : Nat} (j : Nat) : ∀ {x0 : Int} {x1 x2 : List UInt8} {x3 x4 x5 : Int} {x6 x7 : List UInt8} {x8 x9 x10 : Int} {x11 : List T9Node} {x12 x13 : List UInt8} {x14 x15 x16 : Int} {x17 x18 : List TsynNode}
    {e0 : List UInt8 → List UInt8 → Int → Int → Int → List TsynNode → List UInt8 → List UInt8 → Int → Int → Int → List TsynNode → Option R},
    0 ≤ x0 → x0 ≤ x11.length → x11.length ≤ 100000 → x11.length - x0 < j → x18 = (x11.take (iNat x0)).map (backN n) →
    (∀ y, y ∈ x11 → ∀ {κ : TsynNode → Option R}, G (κ (backN n y)) → G (g.r17_Back y κ)) →
    G (e0 x12 x13 x14 x15 x16 x17 x1 x2 x3 x4 x5 (x11.map (backN n))) →
    G (r17_Back_L0 m g.r17_Back e0 j x0 x1 x2 x3 x4 x5 x6 x7 x8 x9 x10 x11 x12 x13 x14 x15 x16 x17 x18) := by
  induction j with
  | zero => intro x0 x1 x2 x3 x4 x5 x6 x7 x8 x9 x10 x11 x12 x13 x14 x15 x16 x17 x18 e0 h0 h1 hl hj; exact absurd hj (by omega)
  | succ j ih =>
    intro x0 x1 x2 x3 x4 x5 x6 x7 x8 x9 x10 x11 x12 x13 x14 x15 x16 x17 x18 e0 h0 h1 hl hj hx hg he
    have hi := iNat_of h0
    rw [r17_Back_L0s]; unfold r17_Back_S0
    refine br_sp (fun hc => ?_) (fun hc => ?_)
    · have hc := ltI_t.1 hc
      have hlt : iNat x0 < x11.length := by omega
      refine br_g (inB_t.2 ⟨h0, hc⟩) (hg _ (by rw [el5_get hlt]; exact List.getElem_mem hlt) ?_)
      have hlen : x18.length = iNat x0 := by rw [hx, List.length_map, List.length_take]; omega
      refine br_g (okAp_t (by decide) (by show x18.length + 1 ≤ _; omega)) ?_
      rw [wr_in (n := x0 + 1) (by omega) (by omega)]
      have h2 : iNat (x0 + 1) = iNat x0 + 1 := by have := iNat_of (n := x0 + 1) (by omega); omega
      refine ih (by omega) (by omega) hl (by omega) ?_ hg he
      rw [h2, List.take_add_one, List.map_append, hx, el5_get hlt, List.getElem?_eq_getElem hlt]
      rfl
    · have hc := ltI_f.1 hc
      have : x18 = x11.map (backN n) := by rw [hx, List.take_of_length_le (by omega)]
      rw [this]; exact he
theorem Back_r : ∀ (n j : Nat) {P : Prop} {x : T9Node}, Sm P n x → n + 100001 ≤ j → ∀ {κ : TsynNode → Option R}, G (κ (backN n x)) → G ((G_r17_Back_r (R := R) j).r17_Back x κ)
  | 0, _, _, _, h, _, _, _ => h.elim
  | n + 1, 0, _, _, _, hj, _, _ => absurd hj (by omega)
  | n + 1, j + 1, P, x, h, hj, κ, hk => by
    show G (r17_Back_B j (G_r17_Back_r j) x κ)
    unfold r17_Back_B r17_Back_F
    exact Back_L0 (n := n) j (Int.le_refl _) (by omega) h.1 (by have := h.1; omega) rfl (fun y hy _ hk => Back_r n j (h.2.2 y hy) (by omega) hk) hk
end Go.Pm
