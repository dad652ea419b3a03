/- N1: numbers by digits: values; trim, U, Of, Minus. -/
import Derived.Test.YtodccifahbgogaaGreatFlA
set_option linter.unusedVariables false
set_option linter.unusedSectionVars false
set_option linter.unusedSimpArgs false
namespace Go.Pm
open Go Go.EvM Go.Pv
set_option linter.unusedVariables false
set_option linter.unusedSimpArgs false
variable {R : Type} {G : Option R → Prop} {m : Nat}
def val : List Int → Int
  | [] => 0
  | d :: l => d + 65536 * val l
def Dg (l : List Int) : Prop := ∀ d ∈ l, 0 ≤ d ∧ d < 65536
def Nz (l : List Int) : Prop := ∀ d, l.getLast? = some d → d ≠ 0
theorem Dg.nil : Dg [] := fun _ h => by cases h
theorem Dg.append {l m : List Int} (h : Dg l) (k : Dg m) : Dg (l ++ m) := fun d hd => (List.mem_append.1 hd).elim (h d) (k d)
theorem Dg.one {d : Int} (h : 0 ≤ d) (k : d < 65536) : Dg [d] := fun x hx => by simp at hx; subst hx; exact ⟨h, k⟩
theorem Dg.cons {d : Int} {l : List Int} (h : Dg (d :: l)) : (0 ≤ d ∧ d < 65536) ∧ Dg l := ⟨h d (by simp), fun x hx => h x (by simp [hx])⟩
theorem val_append (l m : List Int) : val (l ++ m) = val l + 65536 ^ l.length * val m := by
  induction l with
  | nil => simp [val]
  | cons d l ih => simp only [List.cons_append, val, ih, List.length_cons, Int.pow_succ]; rw [Int.mul_add, ← Int.mul_assoc, Int.mul_comm 65536 (65536 ^ l.length)]; omega
theorem val_nonneg {l : List Int} (h : Dg l) : 0 ≤ val l := by
  induction l with
  | nil => simp [val]
  | cons d l ih => obtain ⟨a, b⟩ := h.cons; have := ih b; simp only [val]; omega
theorem val_lt {l : List Int} (h : Dg l) : val l < 65536 ^ l.length := by
  induction l with
  | nil => simp [val]
  | cons d l ih => obtain ⟨a, b⟩ := h.cons; have := ih b; simp only [val, List.length_cons, Int.pow_succ]; omega
theorem pow_pos' (n : Nat) : (0 : Int) < 65536 ^ n := Int.pow_pos (by decide)
theorem val_ge {l : List Int} (h : Dg l) (z : Nz l) (hn : l ≠ []) : 65536 ^ (l.length - 1) ≤ val l := by
  obtain ⟨m, d, rfl⟩ : ∃ m d, l = m ++ [d] := ⟨l.dropLast, l.getLast hn, (List.dropLast_concat_getLast hn).symm⟩
  have hd : d ≠ 0 := z d (by simp)
  have h1 := h d (by simp)
  have h2 : Dg m := fun x hx => h x (by simp [hx])
  have h3 := val_nonneg h2
  rw [val_append]
  simp only [val, List.length_append, List.length_singleton, Nat.add_sub_cancel]
  have := pow_pos' m.length
  have h4 : 65536 ^ m.length * 1 ≤ 65536 ^ m.length * (d + 65536 * 0) := Int.mul_le_mul_of_nonneg_left (by omega) (by omega)
  omega
theorem val_inj {l m : List Int} (h : Dg l) (k : Dg m) (y : Nz l) (z : Nz m) (e : val l = val m) : l = m := by
  induction l generalizing m with
  | nil =>
    cases m with
    | nil => rfl
    | cons d m =>
      have := val_ge k z (by simp)
      have := pow_pos' ((d :: m).length - 1)
      simp [val] at e
      simp only [val] at *
      omega
  | cons c l ih =>
    cases m with
    | nil =>
      have := val_ge h y (by simp)
      have := pow_pos' ((c :: l).length - 1)
      simp [val] at e
      simp only [val] at *
      omega
    | cons d m =>
      obtain ⟨h1, h2⟩ := h.cons
      obtain ⟨k1, k2⟩ := k.cons
      simp only [val] at e
      have e1 : c = d := by omega
      have e2 : val l = val m := by omega
      subst e1
      have y' : Nz l := fun x hx => y x (by cases l with | nil => simp at hx | cons a l => simpa [List.getLast?_cons_cons] using hx)
      have z' : Nz m := fun x hx => z x (by cases m with | nil => simp at hx | cons a m => simpa [List.getLast?_cons_cons] using hx)
      rw [ih h2 k2 y' z' e2]
theorem Nz.nil : Nz [] := fun d h => by simp at h
structure Is (b : T1Big) (z : Int) : Prop where
  dg : Dg b.f_D
  nz : Nz b.f_D
  sg : b.f_Neg = true → b.f_D ≠ []
  eq : z = if b.f_Neg = true then -val b.f_D else val b.f_D
  sm : b.f_D.length ≤ 100000
theorem u64_is (a : Int) : IntKind.u64.wrap a = a % 18446744073709551616 := by
  first | rfl | simp [IntKind.wrap, IntKind.bits, IntKind.signed]
theorem wr_u (a : Int) : wr .u64 a = a % 18446744073709551616 := by
  cases a with
  | ofNat n => show Int.ofNat (n % 18446744073709551616) = _; simp
  | negSucc n => exact u64_is _
theorem wr_uin {a : Int} (h : 0 ≤ a) (k : a < 18446744073709551616) : wr .u64 a = a := by rw [wr_u]; omega
theorem and_mask (x : Int) (h : 0 ≤ x) (k : x < 18446744073709551616) : andI .u64 x 65535 = x % 65536 := by
  obtain ⟨n, rfl⟩ := Int.eq_ofNat_of_zero_le h
  have hn : n < 2 ^ 64 := by omega
  have e : (BitVec.ofInt 64 (n : Int) &&& BitVec.ofInt 64 65535).toNat = n % 65536 := by
    have h1 : (BitVec.ofInt 64 (n : Int)).toNat = n := by simp [BitVec.toNat_ofInt]; omega
    have h2 : (BitVec.ofInt 64 (65535 : Int)).toNat = 65535 := by decide
    rw [BitVec.toNat_and, h1, h2]
    exact Nat.and_two_pow_sub_one_eq_mod n 16
  have : andI .u64 (n : Int) 65535 = IntKind.u64.wrap ((BitVec.ofInt 64 (n : Int) &&& BitVec.ofInt 64 65535).toNat : Int) := rfl
  rw [this, e, u64_is]
  omega
theorem shr16 (x : Int) (h : 0 ≤ x) : shrI .u64 x 16 = x / 65536 := by
  show Int.fdiv x 65536 = _
  rw [Int.fdiv_eq_ediv_of_nonneg _ (by decide)]
theorem el6_D (l : List Int) (n : Nat) : el8 l n = l.getD n 0 := by
  unfold el8 getD
  rw [nth_eq, List.getD_eq_getElem?_getD]
  cases l[n]? <;> rfl
theorem iNat_n (n : Nat) : iNat (n : Int) = n := rfl
theorem val_drop (l : List Int) (i : Nat) : val (l.drop i) = l.getD i 0 + 65536 * val (l.drop (i + 1)) := by
  by_cases h : i < l.length
  · rw [List.drop_eq_getElem_cons h]
    simp only [val]
    rw [List.getD_eq_getElem?_getD, List.getElem?_eq_getElem h]
    rfl
  · rw [List.drop_of_length_le (by omega), List.drop_of_length_le (by omega), List.getD_eq_getElem?_getD, List.getElem?_eq_none (by omega)]
    rfl
theorem getD_dg {l : List Int} (h : Dg l) (i : Nat) : 0 ≤ l.getD i 0 ∧ l.getD i 0 < 65536 := by
  by_cases hi : i < l.length
  · rw [List.getD_eq_getElem?_getD, List.getElem?_eq_getElem hi]
    exact h _ (List.getElem_mem hi)
  · rw [List.getD_eq_getElem?_getD, List.getElem?_eq_none (by omega)]
    decide
theorem Dg.drop {l : List Int} (h : Dg l) (i : Nat) : Dg (l.drop i) := fun d hd => h d (List.mem_of_mem_drop hd)
theorem Dg.take {l : List Int} (h : Dg l) (i : Nat) : Dg (l.take i) := fun d hd => h d (List.mem_of_mem_take hd)
theorem trim_L0 : ∀ (n : Nat) (l : List Int), l.length = n → n ≤ 1000000 → Dg l → ∀ (j : Nat), n < j → ∀ {x1 : Bool} {x2 : List Int} {x3 : Bool} {x4 : List Int} {e0 : List Int → Bool → List Int → Bool → List Int → Option R},
    (∀ l', Dg l' → Nz l' → val l' = val l → l'.length ≤ l.length → G (e0 l' x1 x2 x3 x4)) → G (r1_trim_L0 m e0 j l x1 x2 x3 x4) := by
  intro n
  induction n with
  | zero =>
    intro l hl hn hd j hj x1 x2 x3 x4 e0 he
    obtain ⟨j, rfl⟩ : ∃ i, j = i + 1 := ⟨j - 1, by omega⟩
    have : l = [] := List.length_eq_zero_iff.1 hl
    subst this
    exact he [] hd Nz.nil rfl (Nat.le_refl _)
  | succ n ih =>
    intro l hl hn hd j hj x1 x2 x3 x4 e0 he
    obtain ⟨j, rfl⟩ : ∃ i, j = i + 1 := ⟨j - 1, by omega⟩
    have hne : l ≠ [] := by intro e; subst e; simp at hl
    obtain ⟨k, d, rfl⟩ : ∃ m d, l = m ++ [d] := ⟨l.dropLast, l.getLast hne, (List.dropLast_concat_getLast hne).symm⟩
    have hm : k.length = n := by simpa using hl
    have h2 : Dg k := fun x hx => hd x (by simp [hx])
    have hL : ((k ++ [d]).length : Int) = k.length + 1 := by simp
    have e1 : wr .i64 (((k ++ [d]).length : Int) - 1) = (k.length : Int) := by rw [hL, wr_in (by omega) (by omega)]; omega
    have e2 : el8 (k ++ [d]) (iNat (k.length : Int)) = d := by rw [el6_D, iNat_n]; simp
    have e3 : cutL (k ++ [d]) 0 (iNat (k.length : Int)) = k := by
      show ((k ++ [d]).drop 0).take (k.length - 0) = k
      simp
    rw [r1_trim_L0s]; unfold r1_trim_S0
    try dsimp only
    rw [e1, e2, e3]
    refine br_sp (fun _ => br_g (inB_t.2 ⟨by omega, by omega⟩) (br_sp (fun hz => br_g ?_ (ih k hm (by omega) h2 j (by omega) fun l' a b c e => he l' a b ?_ ?_)) (fun hz => ?_))) (fun hc => ?_)
    · rw [Bool.and_eq_true]; exact ⟨leI_t.2 (by omega), Nat.ble_eq_true_of_le (by rw [iNat_n]; simp)⟩
    · have hz := eqI_t.1 hz
      rw [c, val_append, hz]; simp [val]
    · simp only [List.length_append, List.length_singleton]; omega
    · have hz := eqI_f.1 hz
      exact he _ hd (fun x hx => by simp at hx; subst hx; exact hz) rfl (Nat.le_refl _)
    · have := ltI_f.1 hc; omega
theorem trim_sp {b : T1Big} (hd : Dg b.f_D) (hl : b.f_D.length ≤ 1000000) (hm : 1000001 ≤ m) {κ : T1Big → Option R}
    (hk : ∀ l', Dg l' → Nz l' → val l' = val b.f_D → l'.length ≤ b.f_D.length → G (κ ⟨b.f_Neg && decide (l' ≠ []), l'⟩)) : G (r1_trim m b κ) := by
  unfold r1_trim r1_trim_F
  refine trim_L0 _ b.f_D rfl hl hd m (by omega) fun l' h1 h2 h3 h4 => ?_
  have := hk l' h1 h2 h3 h4
  refine br_sp (fun hb => ?_) (fun hb => ?_)
  · have e : ltI 0 (l'.length : Int) = decide (l' ≠ []) := by
      cases l' with
      | nil => rfl
      | cons a l => simp only [ne_eq, reduceCtorEq, not_false_eq_true, decide_true]; exact ltI_t.2 (by simp only [List.length_cons]; omega)
    rw [hb, Bool.true_and] at this
    try dsimp only
    rw [e]; exact this
  · rw [hb, Bool.false_and] at this; exact this
theorem trim_same {b : T1Big} (h : Dg b.f_D) (z : Nz b.f_D) (hl : b.f_D.length ≤ 1000000) (hm : 1000001 ≤ m) {κ : T1Big → Option R} (hk : G (κ ⟨b.f_Neg && decide (b.f_D ≠ []), b.f_D⟩)) : G (r1_trim m b κ) :=
  trim_sp h hl hm fun l' h1 h2 h3 h4 => by
    have := val_inj h1 h h2 z h3
    subst this
    exact hk
theorem U_L0 (j : Nat) : ∀ {n : Nat} {u : Int} {l : List Int}, n < j → 0 ≤ u → u < 65536 ^ n → u < 18446744073709551616 → Dg l → l.length + n ≤ 100000 → ∀ {x1 x3 : Bool} {x4 : List Int} {e0 : Bool → Bool → List Int → List Int → Option R},
    (∀ l', Dg l' → val l' = val l + 65536 ^ l.length * u → l'.length ≤ l.length + n → G (e0 x1 x3 x4 l')) → G (r1_U_L0 m e0 j u x1 l x3 x4) := by
  induction j with
  | zero => intro n u l hj; exact absurd hj (by omega)
  | succ j ih =>
    intro n u l hj h0 h1 h2 hd hl x1 x3 x4 e0 he
    rw [r1_U_L0s]; unfold r1_U_S0
    refine br_sp (fun hc => ?_) (fun hc => ?_)
    · have hc := ltI_t.1 hc
      cases n with
      | zero => simp at h1; omega
      | succ n =>
        have hp : (65536 : Int) ^ (n + 1) = 65536 ^ n * 65536 := Int.pow_succ ..
        try dsimp only
        rw [and_mask u h0 h2, shr16 u h0]
        refine br_g (okAp_t (by decide) (by show l.length + 1 ≤ _; omega)) (ih (n := n) (by omega) (by omega) (by rw [hp] at h1; omega) (by omega) (hd.append (Dg.one (by omega) (by omega))) (by simp; omega) fun l' a c e => he l' a ?_ (by simp at e; omega))
        rw [c, val_append]
        simp only [val, List.length_append, List.length_singleton, Int.pow_succ]
        have hq : u = u % 65536 + 65536 * (u / 65536) := by omega
        generalize u / 65536 = q at *
        generalize u % 65536 = r at *
        subst hq
        rw [Int.mul_add, Int.mul_add, Int.mul_zero, Int.mul_assoc]
        omega
    · have : u = 0 := by have := ltI_f.1 hc; omega
      subst this
      exact he l hd (by simp) (by omega)
theorem U_sp {neg : Bool} {u : Int} (hm : 1000001 ≤ m) (h0 : 0 ≤ u) (h2 : u < 18446744073709551616) (hn : neg = true → 0 < u) {κ : T1Big → Option R} (hk : ∀ b, Is b (if neg then -u else u) → b.f_D.length ≤ 4 → G (κ b)) : G (r1_U m u neg κ) := by
  unfold r1_U r1_U_F
  refine U_L0 m (n := 4) (by omega) h0 (by omega) h2 Dg.nil (by decide) fun l h1 h3 h4 => trim_sp h1 (by simp at h4; show l.length ≤ _; omega) hm fun l' k1 k2 k3 k4 => ?_
  have e3 : val l' = u := by rw [k3]; show val l = u; rw [h3]; simp [val]
  have h4 : l'.length ≤ 4 := by have : l'.length ≤ l.length := k4; simp at h4; omega
  clear k3 h3
  refine hk _ ⟨k1, k2, ?_, ?_, by show l'.length ≤ _; omega⟩ h4
  · intro h; show l' ≠ []
    have h : (neg && decide (l' ≠ [])) = true := h
    rw [Bool.and_eq_true] at h; exact of_decide_eq_true h.2
  · show (if neg = true then -u else u) = if (neg && decide (l' ≠ [])) = true then -val l' else val l'
    cases neg with
    | false => simp [e3]
    | true =>
      have hne : l' ≠ [] := by intro e; subst e; have := hn rfl; simp [val] at e3; omega
      simp [hne, e3]
theorem Of_sp {v : Int} (hm : 1000001 ≤ m) (h0 : -9223372036854775808 ≤ v) (h1 : v ≤ 9223372036854775807) {κ : T1Big → Option R} (hk : ∀ b, Is b v → b.f_D.length ≤ 4 → G (κ b)) : G (r1_Of m v κ) := by
  unfold r1_Of r1_Of_F
  refine br_sp (fun hc => ?_) (fun hc => ?_)
  · have hv := ltI_t.1 hc
    try dsimp only
    rw [hc, show wr .u64 (0 - wr .u64 v) = -v by rw [wr_u, wr_u]; omega]
    exact U_sp hm (by omega) (by omega) (fun _ => by omega) fun b hb hl => hk b (by simpa using hb) hl
  · have hv := ltI_f.1 hc
    try dsimp only
    rw [hc, wr_uin hv (by omega)]
    exact U_sp hm (by omega) (by omega) (by intro h; cases h) fun b hb hl => hk b (by simpa using hb) hl
theorem Minus_sp {b : T1Big} {z : Int} (h : Is b z) (hm : 1000001 ≤ m) {κ : T1Big → Option R} (hk : ∀ c, Is c (-z) → c.f_D = b.f_D → G (κ c)) : G (r1_Minus m b κ) := by
  unfold r1_Minus r1_Minus_F
  refine trim_same (b := ⟨!b.f_Neg, b.f_D⟩) h.dg h.nz (by have := h.sm; show b.f_D.length ≤ _; omega) hm ?_
  refine hk _ ⟨h.dg, h.nz, ?_, ?_, h.sm⟩ rfl
  · intro q
    have q : (!b.f_Neg && decide (b.f_D ≠ [])) = true := q
    rw [Bool.and_eq_true] at q; exact of_decide_eq_true q.2
  · show -z = if (!b.f_Neg && decide (b.f_D ≠ [])) = true then -val b.f_D else val b.f_D
    rw [h.eq]
    cases b.f_Neg with
    | true => simp
    | false =>
      by_cases e : b.f_D = []
      · rw [e]; simp [val]
      · simp [e]
end Go.Pm
namespace Go.Pm
open Go Go.EvM Go.Pv
set_option linter.unusedVariables false
set_option linter.unusedSimpArgs false
variable {R : Type} {G : Option R → Prop} {m : Nat}
theorem val_split (l : List Int) (i : Nat) (h : i ≤ l.length) : val l = val (l.take i) + 65536 ^ i * val (l.drop i) := by
  have := val_append (l.take i) (l.drop i)
  rw [List.take_append_drop, List.length_take, Nat.min_eq_left h] at this
  exact this
theorem top_lt {a b : List Int} (ha : Dg a) (hb : Dg b) {i : Nat} (la : i < a.length) (lb : i < b.length) (e : val (a.drop (i + 1)) = val (b.drop (i + 1))) (h : a.getD i 0 < b.getD i 0) : val a < val b := by
  rw [val_split a i (by omega), val_split b i (by omega), val_drop a i, val_drop b i, e]
  have h1 := val_lt (ha.take i)
  have h2 := val_nonneg (hb.take i)
  rw [List.length_take, Nat.min_eq_left (by omega)] at h1
  generalize val (a.take i) = p at *
  generalize val (b.take i) = q at *
  generalize a.getD i 0 = u at *
  generalize b.getD i 0 = v at *
  generalize 65536 * val (b.drop (i + 1)) = w at *
  have h4 : (65536 : Int) ^ i * (u + 1 + w) ≤ 65536 ^ i * (v + w) := Int.mul_le_mul_of_nonneg_left (by omega) (by have := pow_pos' i; omega)
  have h5 : (65536 : Int) ^ i * (u + 1 + w) = 65536 ^ i * (u + w) + 65536 ^ i := by rw [show u + 1 + w = (u + w) + 1 by omega, Int.mul_add, Int.mul_one]
  omega
theorem less_L0 {a b : List Int} (ha : Dg a) (hb : Dg b) (sa : a.length ≤ 100000) (hl : a.length = b.length) {e0 : Unit → Option R} {er : Bool → Option R} : ∀ (i j : Nat), i < j → i ≤ a.length → val (a.drop i) = val (b.drop i) →
    (decide (val a < val b) = false → G (e0 ())) → G (er (decide (val a < val b))) → G (r1_less_L0 m e0 er j ((i : Int) - 1) b a) := by
  intro i
  induction i with
  | zero =>
    intro j hj _ e h0 h1
    obtain ⟨j, rfl⟩ : ∃ i, j = i + 1 := ⟨j - 1, by omega⟩
    simp only [List.drop_zero] at e
    exact h0 (by simp [e])
  | succ i ih =>
    intro j hj hi e h0 h1
    obtain ⟨j, rfl⟩ : ∃ i, j = i + 1 := ⟨j - 1, by omega⟩
    have ei : ((i + 1 : Nat) : Int) - 1 = (i : Int) := by omega
    have va := val_drop a i
    have vb := val_drop b i
    have i1 : inB (i : Int) a.length = true := inB_t.2 ⟨by omega, by omega⟩
    have i2 : inB (i : Int) b.length = true := inB_t.2 ⟨by omega, by omega⟩
    rw [ei]
    rw [r1_less_L0s]; unfold r1_less_S0
    try dsimp only
    rw [wr_in (n := (i : Int) - 1) (by omega) (by omega), iNat_n, el6_D, el6_D]
    refine br_sp (fun _ => br_g i1 (br_g i2 (br_sp (fun hc => br_g i1 (br_g i2 ?_)) (fun hc => ?_)))) (fun hc => ?_)
    · cases hq : eqI (a.getD i 0) (b.getD i 0) with
      | true => rw [hq] at hc; exact nomatch hc
      | false =>
        have q := eqI_f.1 hq
        rcases Int.lt_or_gt_of_ne q with q | q
        · have := top_lt ha hb (i := i) (by omega) (by omega) e q
          rw [decide_eq_true this] at h1
          rw [ltI_t.2 q]; exact h1
        · have := top_lt hb ha (i := i) (by omega) (by omega) e.symm q
          rw [decide_eq_false (by omega)] at h1
          rw [ltI_f.2 (by omega)]; exact h1
    · cases hq : eqI (a.getD i 0) (b.getD i 0) with
      | false => rw [hq] at hc; exact nomatch hc
      | true =>
        have q := eqI_t.1 hq
        exact ih j (by omega) (by omega) (by omega) h0 h1
    · have := leI_f.1 hc; omega
theorem pow_mono' (m n : Nat) : (65536 : Int) ^ m ≤ 65536 ^ (m + n) := by
  induction n with
  | zero => exact Int.le_refl _
  | succ n ih => have := pow_pos' (m + n); rw [← Nat.add_assoc, Int.pow_succ]; omega
theorem val_short {a b : List Int} (ha : Dg a) (hb : Dg b) (zb : Nz b) (h : a.length < b.length) : val a < val b := by
  have h1 := val_lt ha
  have h2 := val_ge hb zb (by intro x; subst x; simp at h)
  have h3 := pow_mono' a.length (b.length - 1 - a.length)
  rw [show a.length + (b.length - 1 - a.length) = b.length - 1 by omega] at h3
  omega
theorem less_sp {a b : List Int} (ha : Dg a) (hb : Dg b) (za : Nz a) (zb : Nz b) (sa : a.length ≤ 100000) (sb : b.length ≤ 100000) (hm : 1000001 ≤ m) {κ : Bool → Option R} (hk : G (κ (decide (val a < val b)))) : G (r1_less m a b κ) := by
  unfold r1_less r1_less_F
  refine br_sp (fun hc => ?_) (fun hc => ?_)
  · cases hq : eqI (a.length : Int) b.length with
    | true => rw [hq] at hc; exact nomatch hc
    | false =>
      have q := eqI_f.1 hq
      by_cases q : a.length < b.length
      · rw [decide_eq_true (val_short ha hb zb q)] at hk
        try dsimp only
        rw [ltI_t.2 (by omega)]; exact hk
      · have := val_short hb ha za (by omega)
        rw [decide_eq_false (by omega)] at hk
        try dsimp only
        rw [ltI_f.2 (by omega)]; exact hk
  · cases hq : eqI (a.length : Int) b.length with
    | false => rw [hq] at hc; exact nomatch hc
    | true =>
      have q := eqI_t.1 hq
      try dsimp only
      rw [wr_in (n := (a.length : Int) - 1) (by omega) (by omega)]
      refine less_L0 ha hb sa (by omega) a.length m (by omega) (Nat.le_refl _) ?_ (fun h => ?_) hk
      · rw [List.drop_of_length_le (Nat.le_refl _), List.drop_of_length_le (by omega)]
      · rw [h] at hk; exact hk
theorem digit_sp {l : List Int} {i : Nat} {κ : Int → Option R} (hk : G (κ (l.getD i 0))) : G (r1_digit m l (i : Int) κ) := by
  unfold r1_digit r1_digit_F
  refine br_sp (fun hc => ?_) (fun hc => ?_)
  · have hc := ltI_t.1 hc
    refine br_g (inB_t.2 ⟨by omega, hc⟩) ?_
    rw [iNat_n, el6_D]; exact hk
  · have hc := ltI_f.1 hc
    rw [List.getD_eq_getElem?_getD, List.getElem?_eq_none (by omega)] at hk
    exact hk
theorem carry_to {a b : List Int} {i M : Nat} {u v c : Int} (hM : a.length ≤ M) (hM' : b.length ≤ M) (va : val (a.drop i) = u + 65536 * val (a.drop (i + 1))) (vb : val (b.drop i) = v + 65536 * val (b.drop (i + 1)))
    (u0 : 0 ≤ u) (u1 : u < 65536) (v0 : 0 ≤ v) (v1 : v < 65536) (c0 : 0 ≤ c) (c1 : c ≤ 1) : (u + v + c) / 65536 = 0 ∨ (u + v + c) / 65536 = 1 ∧ i + 1 ≤ M := by
  by_cases hz : i < M
  · omega
  · rw [List.drop_of_length_le (by omega), List.drop_of_length_le (by omega)] at va vb
    simp only [val] at va vb
    omega
theorem sum_at {x rr qq A B : Int} {i : Nat} (u v c : Int) (hq : u + v + c = rr + 65536 * qq) : x + 65536 ^ i * (rr + 65536 * 0) + 65536 ^ (i + 1) * (qq + A + B) = x + 65536 ^ i * (c + (u + 65536 * A) + (v + 65536 * B)) := by
  have : c + (u + 65536 * A) + (v + 65536 * B) = rr + 65536 * (qq + A + B) := by omega
  rw [this]
  generalize qq + A + B = ww
  rw [Int.pow_succ, Int.mul_assoc, Int.mul_add (65536 ^ i) rr (65536 * ww)]
  simp only [Int.mul_zero, Int.add_zero]
  omega
theorem diff_at {x rr qq A B : Int} {i : Nat} (u v c : Int) (hq : u - v - c = rr - 65536 * qq) : x + 65536 ^ i * (rr + 65536 * 0) + 65536 ^ (i + 1) * (A - B - qq) = x + 65536 ^ i * ((u + 65536 * A) - (v + 65536 * B) - c) := by
  have : (u + 65536 * A) - (v + 65536 * B) - c = rr + 65536 * (A - B - qq) := by omega
  rw [this]
  generalize A - B - qq = ww
  rw [Int.pow_succ, Int.mul_assoc, Int.mul_add (65536 ^ i) rr (65536 * ww)]
  simp only [Int.mul_zero, Int.add_zero]
  omega
theorem add_L1 {a b : List Int} (ha : Dg a) (hb : Dg b) (M : Nat) (hM : a.length ≤ M) (hM' : b.length ≤ M) (sM : M ≤ 100000) {n n' nz : Bool} {z : List Int} {e2 : Bool → List Int → List Int → Bool → List Int → Option R} (j : Nat) :
    ∀ (i : Nat) (c : Int) (x : List Int), M + 1 - i < j → i ≤ M + 1 → (c = 0 ∨ c = 1 ∧ i ≤ M) → Dg x → x.length = i →
      (∀ l', Dg l' → val l' = val x + 65536 ^ i * (c + val (a.drop i) + val (b.drop i)) → l'.length ≤ M + 1 → G (e2 nz z l' n a)) →
      G (r1_Add_L1 m (r1_digit m) e2 j (i : Int) c x n' b n a nz z) := by
  induction j with
  | zero => intro i c x hj; exact absurd hj (by omega)
  | succ j ih =>
    intro i c x hj hi hc hx hxl he
    obtain ⟨da, da'⟩ := getD_dg ha i
    obtain ⟨db, db'⟩ := getD_dg hb i
    have va := val_drop a i
    have vb := val_drop b i
    have go : G (r1_digit m a (i : Int) fun r79 => r1_digit m b (i : Int) fun r83 =>
        br (okAp 8 (x.length + [andI .u64 (wr .u64 (wr .u64 (r79 + r83) + c)) 65535].length)) (r1_Add_L1 m (r1_digit m) e2 j (wr .i64 ((i : Int) + 1)) (shrI .u64 (wr .u64 (wr .u64 (r79 + r83) + c)) 16) (x ++ [andI .u64 (wr .u64 (wr .u64 (r79 + r83) + c)) 65535]) n' b n a nz z) none) ∨ ¬ (i ≤ M) := by
      by_cases hiM : i ≤ M
      · left
        refine digit_sp (digit_sp ?_)
        generalize a.getD i 0 = u at va da da'
        generalize b.getD i 0 = v at vb db db'
        rw [show wr .u64 (wr .u64 (u + v) + c) = u + v + c by rw [wr_u, wr_u]; omega, and_mask (u + v + c) (by omega) (by omega), shr16 _ (by omega), wr_in (n := (i : Int) + 1) (by omega) (by omega)]
        have hcc := carry_to hM hM' va vb da da' db db' (c := c) (by omega) (by omega)
        have hq : u + v + c = (u + v + c) % 65536 + 65536 * ((u + v + c) / 65536) := by omega
        have hr0 : 0 ≤ (u + v + c) % 65536 := by omega
        have hr1 : (u + v + c) % 65536 < 65536 := by omega
        generalize (u + v + c) / 65536 = qq at hcc hq
        generalize (u + v + c) % 65536 = rr at hq hr0 hr1
        refine br_g (okAp_t (by decide) (by show x.length + 1 ≤ _; omega)) (ih (i + 1) qq (x ++ [rr]) (by omega) (by omega) hcc (hx.append (Dg.one hr0 hr1)) (by simp [hxl]) fun l' p r s => he l' p ?_ s)
        rw [r, val_append, va, vb, hxl]
        exact sum_at u v c hq
      · exact .inr hiM
    rw [r1_Add_L1s]; unfold r1_Add_S1
    rcases go with go | go
    · refine br_sp (fun _ => go) (fun h1 => br_sp (fun _ => go) (fun h2 => br_sp (fun _ => go) (fun h3 => ?_)))
      have h1 := ltI_f.1 h1
      have h2 := ltI_f.1 h2
      have h3 := ltI_f.1 h3
      have : c = 0 := by omega
      subst this
      refine he x hx ?_ (by omega)
      rw [List.drop_of_length_le (by omega), List.drop_of_length_le (by omega)]; simp [val]
    · refine br_sp (fun h1 => ?_) (fun h1 => br_sp (fun h2 => ?_) (fun h2 => br_sp (fun h3 => ?_) (fun h3 => ?_)))
      · have := ltI_t.1 h1; omega
      · have := ltI_t.1 h2; omega
      · have := ltI_t.1 h3; omega
      · have : c = 0 := by omega
        subst this
        refine he x hx ?_ (by omega)
        rw [List.drop_of_length_le (by omega), List.drop_of_length_le (by omega)]; simp [val]
theorem add_L0 {a b : List Int} (ha : Dg a) (hb : Dg b) (hM : b.length ≤ a.length) (sM : a.length ≤ 100000) {n n' nz : Bool} {z : List Int} {e2 : Bool → List Int → List Int → Bool → List Int → Option R} (j : Nat) :
    ∀ (i : Nat) (c : Int) (x : List Int), a.length - i < j → i ≤ a.length → (c = 0 ∨ c = 1) → Dg x → x.length = i → 0 ≤ val (a.drop i) - val (b.drop i) - c →
      (∀ l', Dg l' → val l' = val x + 65536 ^ i * (val (a.drop i) - val (b.drop i) - c) → l'.length ≤ a.length → G (e2 nz z l' n a)) →
      G (r1_Add_L0 m (r1_digit m) e2 j (i : Int) c x n' b n a nz z) := by
  induction j with
  | zero => intro i c x hj; exact absurd hj (by omega)
  | succ j ih =>
    intro i c x hj hi hc hx hxl h0 he
    rw [r1_Add_L0s]; unfold r1_Add_S0
    refine br_sp (fun h1 => ?_) (fun h1 => ?_)
    · have h1 := ltI_t.1 h1
      obtain ⟨da, da'⟩ := getD_dg ha i
      obtain ⟨db, db'⟩ := getD_dg hb i
      have va := val_drop a i
      have vb := val_drop b i
      try dsimp only
      rw [iNat_n, el6_D]
      refine br_g (inB_t.2 ⟨by omega, h1⟩) (digit_sp ?_)
      generalize a.getD i 0 = u at va da da'
      generalize b.getD i 0 = v at vb db db'
      have e1 : wr .u64 (wr .u64 (wr .u64 (u + 65536) - v) - c) = u + 65536 - v - c := by rw [wr_u, wr_u, wr_u]; omega
      try dsimp only
      rw [e1, and_mask (u + 65536 - v - c) (by omega) (by omega), shr16 _ (by omega), wr_in (n := (i : Int) + 1) (by omega) (by omega), wr_uin (a := 1 - (u + 65536 - v - c) / 65536) (by omega) (by omega)]
      have hq : u - v - c = (u + 65536 - v - c) % 65536 - 65536 * (1 - (u + 65536 - v - c) / 65536) := by omega
      have hr0 : 0 ≤ (u + 65536 - v - c) % 65536 := by omega
      have hr1 : (u + 65536 - v - c) % 65536 < 65536 := by omega
      have hcc : 1 - (u + 65536 - v - c) / 65536 = 0 ∨ 1 - (u + 65536 - v - c) / 65536 = 1 := by omega
      generalize 1 - (u + 65536 - v - c) / 65536 = qq at hcc hq
      generalize (u + 65536 - v - c) % 65536 = rr at hq hr0 hr1
      rw [va, vb] at h0
      refine br_g (okAp_t (by decide) (by show x.length + 1 ≤ _; omega)) (ih (i + 1) qq (x ++ [rr]) (by omega) (by omega) hcc (hx.append (Dg.one hr0 hr1)) (by simp [hxl]) (by omega) fun l' p r s => he l' p ?_ s)
      rw [r, val_append, va, vb, hxl]
      exact diff_at u v c hq
    · have h1 := ltI_f.1 h1
      have e1 : a.drop i = [] := List.drop_of_length_le (by omega)
      have e2' : b.drop i = [] := List.drop_of_length_le (by omega)
      rw [e1, e2'] at h0
      simp only [val] at h0
      refine he x hx ?_ (by omega)
      rw [e1, e2']
      have : c = 0 := by omega
      subst this
      simp [val]
theorem len_le {a b : List Int} (ha : Dg a) (hb : Dg b) (za : Nz a) (zb : Nz b) (h : val b ≤ val a) : b.length ≤ a.length := by
  by_cases q : a.length < b.length
  · have := val_short ha hb zb q; omega
  · omega
theorem Is.mk' {n : Bool} {l l' : List Int} {z : Int} (h1 : Dg l') (h2 : Nz l') (h3 : val l' = val l) (h4 : l'.length ≤ 100000) (hz : z = if n then -val l else val l) : Is ⟨n && decide (l' ≠ []), l'⟩ z := by
  refine ⟨h1, h2, ?_, ?_, h4⟩
  · intro q
    have q : (n && decide (l' ≠ [])) = true := q
    rw [Bool.and_eq_true] at q; exact of_decide_eq_true q.2
  · show z = if (n && decide (l' ≠ [])) = true then -val l' else val l'
    rw [hz, h3]
    cases n with
    | false => simp
    | true =>
      by_cases e : l' = []
      · subst e; simp [val] at h3; simp [← h3]
      · simp [e]
theorem Add_sp {x w : T1Big} {y z : Int} (h : Is x y) (h' : Is w z) (M : Nat) (hM : x.f_D.length ≤ M) (hM' : w.f_D.length ≤ M) (sM : M ≤ 90000) (hm : 1000001 ≤ m) {κ : T1Big → Option R}
    (hk : ∀ b, Is b (y + z) → b.f_D.length ≤ M + 1 → G (κ b)) : G (r1_Add m x w κ) := by
  have pa := val_nonneg h.dg
  have pb := val_nonneg h'.dg
  have hy := h.eq
  have hz := h'.eq
  unfold r1_Add r1_Add_F
  refine br_sp (fun hc => ?_) (fun hc => ?_)
  · have e : x.f_Neg = !w.f_Neg := by cases h1 : x.f_Neg <;> cases h2 : w.f_Neg <;> rw [h1, h2] at hc <;> first | rfl | exact nomatch hc
    refine less_sp h.dg h'.dg h.nz h'.nz h.sm h'.sm hm (br_sp (fun lt => ?_) (fun lt => ?_))
    · have lt := of_decide_eq_true lt
      refine add_L0 h'.dg h.dg (len_le h'.dg h.dg h'.nz h.nz (by omega)) (by omega) m 0 0 [] (by omega) (by omega) (.inl rfl) Dg.nil rfl (by simp only [List.drop_zero]; omega) fun l p r s => ?_
      simp only [val, List.drop_zero, Int.pow_zero, Int.one_mul, Int.zero_add, Int.sub_zero] at r
      refine trim_sp (b := ⟨w.f_Neg, l⟩) p (by show l.length ≤ _; omega) hm fun l' k1 k2 k3 k4 => hk _ (Is.mk' k1 k2 k3 (by have : l'.length ≤ l.length := k4; omega) ?_) (by have : l'.length ≤ l.length := k4; show l'.length ≤ _; omega)
      show y + z = if w.f_Neg = true then -val l else val l
      rw [hy, hz, e, r]
      cases w.f_Neg <;> simp <;> omega
    · have lt := of_decide_eq_false lt
      refine add_L0 h.dg h'.dg (len_le h.dg h'.dg h.nz h'.nz (by omega)) (by omega) m 0 0 [] (by omega) (by omega) (.inl rfl) Dg.nil rfl (by simp only [List.drop_zero]; omega) fun l p r s => ?_
      simp only [val, List.drop_zero, Int.pow_zero, Int.one_mul, Int.zero_add, Int.sub_zero] at r
      refine trim_sp (b := ⟨x.f_Neg, l⟩) p (by show l.length ≤ _; omega) hm fun l' k1 k2 k3 k4 => hk _ (Is.mk' k1 k2 k3 (by have : l'.length ≤ l.length := k4; omega) ?_) (by have : l'.length ≤ l.length := k4; show l'.length ≤ _; omega)
      show y + z = if x.f_Neg = true then -val l else val l
      rw [hy, hz, e, r]
      cases w.f_Neg <;> simp <;> omega
  · have e : x.f_Neg = w.f_Neg := by cases h1 : x.f_Neg <;> cases h2 : w.f_Neg <;> rw [h1, h2] at hc <;> first | rfl | exact nomatch hc
    refine add_L1 h.dg h'.dg M hM hM' (by omega) m 0 0 [] (by omega) (by omega) (.inl rfl) Dg.nil rfl fun l p r s => ?_
    simp only [val, List.drop_zero, Int.pow_zero, Int.one_mul, Int.zero_add] at r
    refine trim_sp (b := ⟨x.f_Neg, l⟩) p (by show l.length ≤ _; omega) hm fun l' k1 k2 k3 k4 => hk _ (Is.mk' k1 k2 k3 (by have : l'.length ≤ l.length := k4; omega) ?_) (by have : l'.length ≤ l.length := k4; show l'.length ≤ _; omega)
    show y + z = if x.f_Neg = true then -val l else val l
    rw [hy, hz, e, r]
    cases w.f_Neg <;> simp <;> omega
end Go.Pm
namespace Go.Pm
open Go Go.EvM Go.Pv
set_option linter.unusedVariables false
set_option linter.unusedSimpArgs false
variable {R : Type} {G : Option R → Prop} {m : Nat}
theorem wr_i (n : Int) : wr .i64 n = (n + 9223372036854775808) % 18446744073709551616 - 9223372036854775808 := by
  have h : IntKind.i64.wrap n = (n + 9223372036854775808) % 18446744073709551616 - 9223372036854775808 := by
    have e : IntKind.i64.wrap n = bif decide ((9223372036854775808 : Int) ≤ n % 18446744073709551616) then n % 18446744073709551616 - 18446744073709551616 else n % 18446744073709551616 := by
      unfold IntKind.wrap
      show (if (true && decide (n % 18446744073709551616 ≥ 9223372036854775808)) = true then n % 18446744073709551616 - 18446744073709551616 else n % 18446744073709551616) = _
      simp only [Bool.true_and, ge_iff_le, Bool.cond_eq_ite]
    rw [e]
    by_cases hq : (9223372036854775808 : Int) ≤ n % 18446744073709551616
    · rw [decide_eq_true hq]; simp only [cond_true]; omega
    · rw [decide_eq_false hq]; simp only [cond_false]; omega
  unfold wr
  try dsimp only
  cases hb : in64 n with
  | true =>
    show n = _
    cases n with
    | ofNat j => have := hb; simp [in64, lim63] at this; show (j : Int) = ((j : Int) + _) % _ - _; omega
    | negSucc j => have := hb; simp [in64, lim63] at this; omega
  | false => exact h
theorem okMake_t {n : Nat} (h : n ≤ 100000) : okMake (n : Int) (n : Int) 8 = true := by
  unfold okMake
  simp only [Bool.and_eq_true]
  refine ⟨leI_t.2 (by show (0 : Int) ≤ _; omega), leI_t.2 (by show (0 : Int) ≤ _; omega), Nat.ble_eq_true_of_le (Nat.le_refl _), Nat.ble_eq_true_of_le (by show n ≤ _; omega), Nat.ble_eq_true_of_le ?_⟩
  show n * 8 ≤ _
  omega
theorem Is.zero {b : T1Big} {z : Int} (h : Is b z) : b.f_D = [] ↔ z = 0 := by
  have e := h.eq
  constructor
  · intro q; rw [q] at e; simp [val] at e; exact e
  · intro q
    by_cases hl : b.f_D = []
    · exact hl
    · have := val_ge h.dg h.nz hl
      have := pow_pos' (b.f_D.length - 1)
      cases hn : b.f_Neg <;> rw [hn] at e <;> simp at e <;> omega
theorem Is.neg {b : T1Big} {z : Int} (h : Is b z) (hz : z ≠ 0) : b.f_Neg = decide (z < 0) := by
  have e := h.eq
  have := val_nonneg h.dg
  cases hn : b.f_Neg <;> rw [hn] at e
  · simp at e; rw [decide_eq_false (by omega)]
  · simp at e; rw [decide_eq_true (by omega)]
def sign (z : Int) : Int := if z = 0 then 0 else if z < 0 then -1 else 1
theorem Cmp_sp {x w : T1Big} {y z : Int} (h : Is x y) (h' : Is w z) (M : Nat) (hM : x.f_D.length ≤ M) (hM' : w.f_D.length ≤ M) (sM : M ≤ 90000) (hm : 1000001 ≤ m) {κ : Int → Option R}
    (hk : G (κ (sign (y - z)))) : G (r1_Cmp m x w κ) := by
  unfold r1_Cmp r1_Cmp_F
  refine Minus_sp h' hm fun c hc e => Add_sp h hc M hM (by rw [e]; exact hM') sM hm fun d hd hl => ?_
  rw [show y - z = y + -z by omega] at hk
  generalize y + -z = s at hd hk
  refine br_sp (fun q => ?_) (fun q => ?_)
  · have q := eqI_t.1 q
    have : d.f_D = [] := List.eq_nil_of_length_eq_zero (by omega)
    rw [show sign s = 0 by unfold sign; rw [if_pos (hd.zero.1 this)]] at hk
    exact hk
  · have q := eqI_f.1 q
    have hz : s ≠ 0 := fun e => q (by rw [hd.zero.2 e]; rfl)
    have hn := hd.neg hz
    refine br_sp (fun n => ?_) (fun n => ?_)
    · rw [n] at hn
      rw [show sign s = -1 by unfold sign; rw [if_neg hz, if_pos (of_decide_eq_true hn.symm)]] at hk
      exact hk
    · rw [n] at hn
      rw [show sign s = 1 by unfold sign; rw [if_neg hz, if_neg (of_decide_eq_false hn.symm)]] at hk
      exact hk
theorem or_low (x d : Int) (hx : 0 ≤ x) (hx' : x * 65536 < 18446744073709551616) (h0 : 0 ≤ d) (h1 : d < 65536) : orI .u64 (x * 65536) d = x * 65536 + d := by
  obtain ⟨n, rfl⟩ := Int.eq_ofNat_of_zero_le hx
  obtain ⟨m, rfl⟩ := Int.eq_ofNat_of_zero_le h0
  have e : (BitVec.ofInt 64 ((n : Int) * 65536) ||| BitVec.ofInt 64 (m : Int)).toNat = n * 65536 + m := by
    have h1 : (BitVec.ofInt 64 ((n : Int) * 65536)).toNat = n * 65536 := by simp [BitVec.toNat_ofInt]; omega
    have h2 : (BitVec.ofInt 64 (m : Int)).toNat = m := by simp [BitVec.toNat_ofInt]; omega
    rw [BitVec.toNat_or, h1, h2]
    have := Nat.two_pow_add_eq_or_of_lt (i := 16) (b := m) (by omega) n
    rw [show 2 ^ 16 * n = n * 65536 by omega] at this
    exact this.symm
  have : orI .u64 ((n : Int) * 65536) m = IntKind.u64.wrap ((BitVec.ofInt 64 ((n : Int) * 65536) ||| BitVec.ofInt 64 (m : Int)).toNat : Int) := rfl
  rw [this, e, u64_is]
  omega
theorem shl16 (x : Int) (h : 0 ≤ x) (h' : x * 65536 < 18446744073709551616) : shlI .u64 x 16 = x * 65536 := by
  show wr .u64 (x * 65536) = _
  exact wr_uin (by omega) h'
theorem Int_L0 {n : Bool} {l : List Int} (h : Dg l) (hv : val l ≤ 9223372036854775808) (hl : l.length ≤ 100000) {e0 : Int → Bool → List Int → Option R} (he : G (e0 (val l) n l)) : ∀ (i j : Nat), i < j → i ≤ l.length →
    G (r1_Int_L0 m e0 j ((i : Int) - 1) (val (l.drop i)) n l) := by
  have top : ∀ i, i ≤ l.length → val (l.drop i) * 65536 ^ i ≤ val l := by
    intro i hi
    have := val_split l i hi
    have := val_nonneg (h.take i)
    rw [Int.mul_comm]; omega
  intro i
  induction i with
  | zero =>
    intro j hj _
    obtain ⟨j, rfl⟩ : ∃ i, j = i + 1 := ⟨j - 1, by omega⟩
    rw [List.drop_zero]
    exact he
  | succ i ih =>
    intro j hj hi
    obtain ⟨j, rfl⟩ : ∃ i, j = i + 1 := ⟨j - 1, by omega⟩
    have ei : ((i + 1 : Nat) : Int) - 1 = (i : Int) := by omega
    have va := val_drop l i
    obtain ⟨d0, d1⟩ := getD_dg h i
    have p0 := val_nonneg (h.drop (i + 1))
    have p1 := val_nonneg (h.drop i)
    have t1 := top i (by omega)
    have q1 := pow_pos' i
    have t2 : val (l.drop i) ≤ 9223372036854775808 := by
      have : val (l.drop i) * 1 ≤ val (l.drop i) * 65536 ^ i := Int.mul_le_mul_of_nonneg_left (by omega) p1
      omega
    rw [ei]
    rw [r1_Int_L0s]; unfold r1_Int_S0
    try dsimp only
    rw [shl16 _ p0 (by omega), iNat_n, el6_D, or_low _ _ p0 (by omega) d0 d1, wr_in (n := (i : Int) - 1) (by omega) (by omega), show val (l.drop (i + 1)) * 65536 + l.getD i 0 = val (l.drop i) by omega]
    refine br_sp (fun _ => br_g (inB_t.2 ⟨by omega, by omega⟩) (ih j (by omega) (by omega))) (fun hc => ?_)
    have := leI_f.1 hc; omega
theorem Int_sp {b : T1Big} {z : Int} (h : Is b z) (hl : b.f_D.length ≤ 80000) (hm : 1000001 ≤ m) {κ : Int → Bool → Option R} (h1 : -9223372036854775808 ≤ z ∧ z ≤ 9223372036854775807 → G (κ z true)) (h0 : ¬(-9223372036854775808 ≤ z ∧ z ≤ 9223372036854775807) → G (κ 0 false)) : G (r1_Int m b κ) := by
  unfold r1_Int r1_Int_F
  refine Of_sp hm (by omega) (by omega) fun c hc lc => Cmp_sp h hc 90000 (by omega) (by omega) (by omega) hm (br_sp (fun q => ?_) (fun q => ?_))
  · have q := ltI_t.1 q
    refine h0 fun hz => ?_
    unfold sign at q
    split at q
    · omega
    · split at q <;> omega
  · have q := ltI_f.1 q
    refine Of_sp hm (by omega) (by omega) fun d hd ld => Cmp_sp h hd 90000 (by omega) (by omega) (by omega) hm (br_sp (fun q' => ?_) (fun q' => ?_))
    · have q' := ltI_t.1 q'
      refine h0 fun hz => ?_
      unfold sign at q'
      split at q'
      · omega
      · split at q' <;> omega
    · have q' := ltI_f.1 q'
      have hz : -9223372036854775808 ≤ z ∧ z ≤ 9223372036854775807 := by
        unfold sign at q q'
        constructor
        · split at q
          · omega
          · split at q <;> omega
        · split at q'
          · omega
          · split at q' <;> omega
      have k := h1 hz
      have hn := val_nonneg h.dg
      have he := h.eq
      have hs := h.sm
      have hv : val b.f_D ≤ 9223372036854775808 := by cases hb : b.f_Neg <;> rw [hb] at he <;> simp at he <;> omega
      try dsimp only
      rw [wr_in (n := (b.f_D.length : Int) - 1) (by omega) (by omega)]
      have := Int_L0 (G := G) (m := m) (n := b.f_Neg) h.dg hv hs (e0 := fun y0_0 y0_1 y0_2 => br y0_1 (κ (wr .i64 (wr .u64 (0 - y0_0))) true) (κ (wr .i64 y0_0) true)) ?_ b.f_D.length m (by omega) (Nat.le_refl _)
      · rw [List.drop_of_length_le (Nat.le_refl _)] at this
        exact this
      · cases hb : b.f_Neg with
        | false =>
          rw [hb] at he
          simp at he
          show G (κ (wr .i64 (val b.f_D)) true)
          rw [wr_in (by omega) (by omega), ← he]; exact k
        | true =>
          rw [hb] at he
          simp at he
          show G (κ (wr .i64 (wr .u64 (0 - val b.f_D))) true)
          have e2 : wr .i64 (wr .u64 (0 - val b.f_D)) = z := by
            rw [wr_u]
            by_cases hz0 : z = 0
            · rw [show (0 - val b.f_D) % 18446744073709551616 = 0 by omega, wr_in (by omega) (by omega)]; omega
            · rw [show (0 - val b.f_D) % 18446744073709551616 = 18446744073709551616 - val b.f_D by omega, wr_i]; omega
          rw [e2]; exact k
theorem val_set (l : List Int) (p : Nat) (h : p < l.length) (d : Int) : val (l.set p d) = val l + 65536 ^ p * (d - l.getD p 0) := by
  induction l generalizing p with
  | nil => simp at h
  | cons c l ih =>
    cases p with
    | zero => simp [val]; omega
    | succ p =>
      simp only [List.set_cons_succ, val, List.getD_cons_succ, Int.pow_succ]
      rw [ih p (by simpa using h)]
      rw [Int.mul_add, Int.mul_comm (65536 ^ p) 65536, Int.mul_assoc]; omega
theorem Dg.set {l : List Int} (h : Dg l) (p : Nat) {d : Int} (h0 : 0 ≤ d) (h1 : d < 65536) : Dg (l.set p d) := fun x hx => by
  rcases List.mem_or_eq_of_mem_set hx with q | q
  · exact h x q
  · subst q; exact ⟨h0, h1⟩
theorem Dg.rep (n : Nat) : Dg (List.replicate n 0) := fun x hx => by rw [List.eq_of_mem_replicate hx]; decide
theorem val_rep (n : Nat) : val (List.replicate n 0) = 0 := by
  induction n with
  | zero => rfl
  | succ n ih => simp [List.replicate_succ, val, ih]
theorem pow_lt' {m n : Nat} (h : (65536 : Int) ^ m < 65536 ^ n) : m < n := by
  by_cases q : m < n
  · exact q
  · have := pow_mono' n (m - n)
    rw [show n + (m - n) = m by omega] at this
    omega
theorem mul_at {X Y u v c q r B : Int} (P Q : Int) (h : Y + u * v + c = r + 65536 * q) : X + Q * (r - Y) + (Q * 65536) * (u * B + q) = X + Q * (u * (v + 65536 * B) + c) := by
  have : u * (v + 65536 * B) + c = (r - Y) + 65536 * (u * B + q) := by
    rw [Int.mul_add, Int.mul_left_comm]
    generalize u * B = w at *
    generalize u * v = z at *
    omega
  rw [this, Int.mul_assoc Q 65536, Int.mul_add Q (r - Y)]
  omega
theorem mul_L00 {a b : List Int} {n n' : Bool} (ha : Dg a) (hb : Dg b) {i : Nat} (hi : i < a.length) {L : Nat} (hL : L ≤ 100000) {T : Int} (hT : T < 65536 ^ (L - 1)) (hbl : i + b.length < L) {x8 : Bool} {x9 : List Int} {e2 : Int → List Int → Bool → List Int → Bool → List Int → Bool → List Int → Option R}
    (he : ∀ x', Dg x' → x'.length = L → val x' = T → G (e2 (i : Int) x' n' b n a x8 x9)) (f : Nat) :
    ∀ (j : Nat) (c : Int) (x : List Int), L + 1 - j < f → Dg x → x.length = L → 0 ≤ c → c < 65536 → val x + 65536 ^ (i + j) * (a.getD i 0 * val (b.drop j) + c) = T → i + j ≤ L →
      G (r1_Mul_L0_0 m (r1_digit m) e2 f (j : Int) (i : Int) c x n' b n a x8 x9) := by
  induction f with
  | zero => intro j c x hm; exact absurd hm (by omega)
  | succ f ih =>
    intro j c x hm hx hxl c0 c1 hv hj
    obtain ⟨u0, u1⟩ := getD_dg ha i
    have vb := val_nonneg (hb.drop j)
    have vx := val_nonneg hx
    rw [r1_Mul_L0_0s]; unfold r1_Mul_S0_0
    try dsimp only
    have e4 : wr .i64 ((i : Int) + (j : Int)) = ((i + j : Nat) : Int) := by rw [wr_in (by omega) (by omega)]; omega
    have e3 : wr .i64 ((j : Int) + 1) = ((j + 1 : Nat) : Int) := by rw [wr_in (by omega) (by omega)]; omega
    rw [e4, e3, iNat_n, iNat_n, el6_D, el6_D]
    have body : ((j : Int) < (b.length : Int) ∨ c > 0) → G (br (inB ((i + j : Nat) : Int) x.length) (br (inB (i : Int) a.length) (r1_digit m b (j : Int) fun r51 =>
        br (inB ((i + j : Nat) : Int) x.length) (r1_Mul_L0_0 m (r1_digit m) e2 f ((j + 1 : Nat) : Int) (i : Int) (shrI .u64 (wr .u64 (wr .u64 (x.getD (i + j) 0 + wr .u64 (a.getD i 0 * r51)) + c)) 16) (x.set (i + j) (andI .u64 (wr .u64 (wr .u64 (x.getD (i + j) 0 + wr .u64 (a.getD i 0 * r51)) + c)) 65535)) n' b n a x8 x9) none) none) none) := by
      intro go
      have hij : i + j < x.length := by
        rcases go with q | q
        · omega
        · have h1 : (65536 : Int) ^ (i + j) * 1 ≤ 65536 ^ (i + j) * (a.getD i 0 * val (b.drop j) + c) := Int.mul_le_mul_of_nonneg_left (by have := Int.mul_nonneg u0 vb; omega) (by have := pow_pos' (i + j); omega)
          have := pow_lt' (m := i + j) (n := L - 1) (by omega)
          omega
      have g1 : inB ((i + j : Nat) : Int) x.length = true := inB_t.2 ⟨by omega, by omega⟩
      refine br_g g1 (br_g (inB_t.2 ⟨by omega, by omega⟩) (digit_sp (br_g g1 ?_)))
      obtain ⟨v0, v1⟩ := getD_dg hb j
      obtain ⟨y0, y1⟩ := getD_dg hx (i + j)
      have p0 : 0 ≤ a.getD i 0 * b.getD j 0 := Int.mul_nonneg u0 v0
      have p1 : a.getD i 0 * b.getD j 0 ≤ 65535 * 65535 := Int.mul_le_mul (by omega) (by omega) v0 (by omega)
      have e1 : wr .u64 (wr .u64 (x.getD (i + j) 0 + wr .u64 (a.getD i 0 * b.getD j 0)) + c) = x.getD (i + j) 0 + a.getD i 0 * b.getD j 0 + c := by
        generalize a.getD i 0 * b.getD j 0 = p at p0 p1
        rw [wr_u, wr_u, wr_u]; omega
      rw [e1, and_mask _ (by omega) (by omega), shr16 _ (by omega)]
      have hq : x.getD (i + j) 0 + a.getD i 0 * b.getD j 0 + c = (x.getD (i + j) 0 + a.getD i 0 * b.getD j 0 + c) % 65536 + 65536 * ((x.getD (i + j) 0 + a.getD i 0 * b.getD j 0 + c) / 65536) := by omega
      refine ih (j + 1) _ _ (by omega) (hx.set _ (by omega) (by omega)) (by simp [hxl]) (by omega) (by omega) ?_ (by omega)
      rw [val_set _ _ hij, ← hv, val_drop b j, show i + (j + 1) = (i + j) + 1 by omega, Int.pow_succ]
      exact mul_at 0 _ hq
    refine br_sp (fun q => body (.inl (ltI_t.1 q))) (fun q => br_sp (fun q' => body (.inr (ltI_t.1 q'))) (fun q' => ?_))
    have q := ltI_f.1 q
    have q' := ltI_f.1 q'
    refine he x hx hxl ?_
    rw [List.drop_of_length_le (by omega)] at hv
    have : c = 0 := by omega
    subst this
    simpa [val] using hv
theorem mul_L0 {a b : List Int} {n n' : Bool} (ha : Dg a) (hb : Dg b) {L : Nat} (hL : L ≤ 100000) (hab : a.length + b.length + 1 = L) (hm : 1000001 ≤ m) {x6 : Bool} {x7 : List Int} {e0 : Bool → List Int → List Int → Bool → List Int → Bool → List Int → Option R}
    (he : ∀ x, Dg x → x.length = L → val x = val a * val b → G (e0 x6 x7 x n' b n a)) (f : Nat) :
    ∀ (i : Nat) (x : List Int), a.length - i < f → i ≤ a.length → Dg x → x.length = L → val x = val (a.take i) * val b →
      G (r1_Mul_L0 m (r1_digit m) e0 f (i : Int) x n' b n a x6 x7) := by
  induction f with
  | zero => intro i x hf; exact absurd hf (by omega)
  | succ f ih =>
    intro i x hf hi hx hxl hv
    rw [r1_Mul_L0s]; unfold r1_Mul_S0
    refine br_sp (fun q => ?_) (fun q => ?_)
    · have q := ltI_t.1 q
      have at_ : a.take (i + 1) = a.take i ++ [a.getD i 0] := by
        rw [List.take_add_one, List.getElem?_eq_getElem (by omega), List.getD_eq_getElem?_getD, List.getElem?_eq_getElem (by omega)]; rfl
      have hT : val (a.take (i + 1)) * val b = val x + 65536 ^ (i + 0) * (a.getD i 0 * val (b.drop 0) + 0) := by
        rw [at_, val_append, hv, List.length_take, Nat.min_eq_left (by omega), Int.add_mul]
        simp [val, Int.mul_assoc]
      have hlt : val (a.take (i + 1)) * val b < 65536 ^ (L - 1) := by
        have h1 := val_lt (ha.take (i + 1))
        have h2 := val_lt hb
        have h3 := val_nonneg (ha.take (i + 1))
        have h4 := val_nonneg hb
        rw [List.length_take, Nat.min_eq_left (by omega)] at h1
        have h5 : val (a.take (i + 1)) * val b ≤ 65536 ^ (i + 1) * val b := Int.mul_le_mul_of_nonneg_right (by omega) h4
        have h6 : (65536 : Int) ^ (i + 1) * val b < 65536 ^ (i + 1) * 65536 ^ b.length := Int.mul_lt_mul_of_pos_left h2 (pow_pos' _)
        rw [← Int.pow_add] at h6
        have h7 := pow_mono' (i + 1 + b.length) (L - 1 - (i + 1 + b.length))
        rw [show i + 1 + b.length + (L - 1 - (i + 1 + b.length)) = L - 1 by omega] at h7
        omega
      refine mul_L00 ha hb (by omega) hL hlt (by omega) (fun x' d1 d2 d3 => ?_) m 0 0 x (by omega) hx hxl (by omega) (by omega) hT.symm (by omega)
      try dsimp only
      rw [wr_in (n := (i : Int) + 1) (by omega) (by omega)]
      exact ih (i + 1) x' (by omega) (by omega) d1 d2 d3
    · have q := ltI_f.1 q
      refine he x hx hxl ?_
      rw [hv, List.take_of_length_le (by omega)]
theorem Mul_sp {x w : T1Big} {y z : Int} (h : Is x y) (h' : Is w z) (sa : x.f_D.length ≤ 1000) (sb : w.f_D.length ≤ 1000) (hm : 1000001 ≤ m) {κ : T1Big → Option R}
    (hk : ∀ b, Is b (y * z) → b.f_D.length ≤ x.f_D.length + w.f_D.length + 1 → G (κ b)) : G (r1_Mul m x w κ) := by
  unfold r1_Mul r1_Mul_F
  try dsimp only
  have e1 : wr .i64 (wr .i64 ((x.f_D.length : Int) + (w.f_D.length : Int)) + 1) = ((x.f_D.length + w.f_D.length + 1 : Nat) : Int) := by
    rw [wr_in (n := (x.f_D.length : Int) + (w.f_D.length : Int)) (by omega) (by omega), wr_in (by omega) (by omega)]; omega
  rw [e1]
  refine br_g ?_ (mul_L0 h.dg h'.dg (L := x.f_D.length + w.f_D.length + 1) (by omega) rfl hm (fun l d1 d2 d3 => ?_) m 0 (List.replicate (x.f_D.length + w.f_D.length + 1) 0) (by omega) (by omega) (Dg.rep _) (by simp) (by simp [val_rep, val]))
  · exact okMake_t (by omega)
  · refine trim_sp (b := ⟨!eqB x.f_Neg w.f_Neg, l⟩) d1 (by show l.length ≤ _; omega) hm fun l' k1 k2 k3 k4 => hk _ (Is.mk' k1 k2 k3 (by have : l'.length ≤ l.length := k4; omega) ?_) (by have : l'.length ≤ l.length := k4; show l'.length ≤ _; omega)
    show y * z = if (!eqB x.f_Neg w.f_Neg) = true then -val l else val l
    rw [h.eq, h'.eq, d3]
    cases x.f_Neg <;> cases w.f_Neg <;> simp [eqB, Int.neg_mul, Int.mul_neg]
end Go.Pm
namespace Go.Pm
open Go Go.EvM Go.Pv
set_option linter.unusedVariables false
set_option linter.unusedSimpArgs false
variable {R : Type} {G : Option R → Prop} {m : Nat}
theorem and_one (x : Int) (h : 0 ≤ x) (k : x < 18446744073709551616) : andI .u64 x 1 = x % 2 := by
  obtain ⟨n, rfl⟩ := Int.eq_ofNat_of_zero_le h
  have e : (BitVec.ofInt 64 (n : Int) &&& BitVec.ofInt 64 1).toNat = n % 2 := by
    have h1 : (BitVec.ofInt 64 (n : Int)).toNat = n := by simp [BitVec.toNat_ofInt]; omega
    have h2 : (BitVec.ofInt 64 (1 : Int)).toNat = 1 := by decide
    rw [BitVec.toNat_and, h1, h2]
    exact Nat.and_one_is_mod n
  have : andI .u64 (n : Int) 1 = IntKind.u64.wrap ((BitVec.ofInt 64 (n : Int) &&& BitVec.ofInt 64 1).toNat : Int) := rfl
  rw [this, e, u64_is]
  omega
theorem or_bit (d e : Int) (s : Nat) (hs : s < 16) (h0 : 0 ≤ d) (h1 : d < 65536) (he : d = 2 ^ (s + 1) * e) : orI .u64 d (2 ^ s) = d + 2 ^ s := by
  have he0 : 0 ≤ e := by
    have : (0 : Int) < 2 ^ (s + 1) := Int.pow_pos (by decide)
    by_cases q : 0 ≤ e
    · exact q
    · have : (2 : Int) ^ (s + 1) * e < 2 ^ (s + 1) * 0 := Int.mul_lt_mul_of_pos_left (by omega) this
      omega
  obtain ⟨m, rfl⟩ := Int.eq_ofNat_of_zero_le he0
  obtain ⟨n, rfl⟩ := Int.eq_ofNat_of_zero_le h0
  have he' : n = 2 ^ (s + 1) * m := by exact_mod_cast he
  have hp : 2 ^ s < 65536 := Nat.pow_lt_pow_right (n := 16) (by decide) hs
  have hp' : ((2 : Int) ^ s) = ((2 ^ s : Nat) : Int) := by simp
  have e : (BitVec.ofInt 64 (n : Int) ||| BitVec.ofInt 64 ((2 ^ s : Nat) : Int)).toNat = n + 2 ^ s := by
    have h1 : (BitVec.ofInt 64 (n : Int)).toNat = n := by simp [BitVec.toNat_ofInt]; omega
    have aux : ∀ q : Nat, q < 65536 → (BitVec.ofInt 64 (q : Int)).toNat = q := fun q hq => by simp [BitVec.toNat_ofInt]; omega
    have h2 := aux _ hp
    rw [BitVec.toNat_or, h1, h2, he']
    exact (Nat.two_pow_add_eq_or_of_lt (Nat.pow_lt_pow_right (by decide) (by omega)) m).symm
  have : orI .u64 (n : Int) ((2 ^ s : Nat) : Int) = IntKind.u64.wrap ((BitVec.ofInt 64 (n : Int) ||| BitVec.ofInt 64 ((2 ^ s : Nat) : Int)).toNat : Int) := rfl
  rw [hp', this, e, u64_is]
  omega
theorem sixteen {s : Nat} (h : s < 16) : s = 0 ∨ s = 1 ∨ s = 2 ∨ s = 3 ∨ s = 4 ∨ s = 5 ∨ s = 6 ∨ s = 7 ∨ s = 8 ∨ s = 9 ∨ s = 10 ∨ s = 11 ∨ s = 12 ∨ s = 13 ∨ s = 14 ∨ s = 15 := by omega
theorem digit_of {l : List Int} (h : Dg l) (i : Nat) : l.getD i 0 = val l / 65536 ^ i % 65536 := by
  by_cases hi : i ≤ l.length
  · have h1 := val_split l i hi
    have h2 := val_lt (h.take i)
    have h3 := val_nonneg (h.take i)
    have h4 := val_drop l i
    obtain ⟨d0, d1⟩ := getD_dg h i
    rw [List.length_take, Nat.min_eq_left hi] at h2
    have h5 := pow_pos' i
    have : val l / 65536 ^ i = val (l.drop i) := by
      rw [h1, Int.add_mul_ediv_left _ _ (by omega), Int.ediv_eq_zero_of_lt h3 h2]; omega
    rw [this, h4]; omega
  · have h2 := val_lt h
    have h3 := val_nonneg h
    have h4 := pow_mono' l.length (i - l.length)
    rw [show l.length + (i - l.length) = i by omega] at h4
    rw [List.getD_eq_getElem?_getD, List.getElem?_eq_none (by omega), Int.ediv_eq_zero_of_lt h3 (by omega)]
    rfl
theorem pow16 (t : Nat) : (2 : Int) ^ t = 65536 ^ (t / 16) * 2 ^ (t % 16) := by
  have : t = 16 * (t / 16) + t % 16 := by omega
  conv => lhs; rw [this]
  rw [Int.pow_add, Int.pow_mul]
  rfl
theorem bit_of {l : List Int} (h : Dg l) (t : Nat) : l.getD (t / 16) 0 / 2 ^ (t % 16) % 2 = val l / 2 ^ t % 2 := by
  rw [digit_of h, pow16 t, ← Int.ediv_ediv_of_nonneg (by have := pow_pos' (t / 16); omega)]
  have hs := sixteen (s := t % 16) (by omega)
  generalize val l / 65536 ^ (t / 16) = F
  generalize t % 16 = s at *
  rcases hs with q | q | q | q | q | q | q | q | q | q | q | q | q | q | q | q <;> subst q <;> simp only [Int.reducePow] <;> omega
theorem low_of {l : List Int} (h : Dg l) (t : Nat) (Q : Int) (e : val l = Q * 2 ^ (t + 1)) : (∃ z, l.getD (t / 16) 0 = 2 ^ (t % 16 + 1) * z) ∧ l.getD (t / 16) 0 + 2 ^ (t % 16) < 65536 := by
  have h1 : val l / 65536 ^ (t / 16) = Q * 2 ^ (t % 16 + 1) := by
    have : (2 : Int) ^ (t + 1) = 2 ^ (t % 16 + 1) * 65536 ^ (t / 16) := by rw [Int.pow_succ, pow16 t, Int.pow_succ, Int.mul_comm (65536 ^ (t / 16)), Int.mul_right_comm]
    rw [e, this, ← Int.mul_assoc, Int.mul_ediv_cancel _ (by have := pow_pos' (t / 16); omega)]
  rw [digit_of h, h1]
  have hs := sixteen (s := t % 16) (by omega)
  generalize t % 16 = s at *
  rcases hs with q | q | q | q | q | q | q | q | q | q | q | q | q | q | q | q <;> subst q <;> simp only [Int.reducePow, Nat.reduceAdd] <;> refine ⟨⟨Q * _ % 65536 / _, (Int.mul_ediv_cancel' (Int.dvd_of_emod_eq_zero ?_)).symm⟩, ?_⟩ <;> omega
theorem Is.pos {b : T1Big} {z : Int} (h : Is b z) (hz : 0 ≤ z) : b.f_Neg = false ∧ val b.f_D = z := by
  have e := h.eq
  cases hn : b.f_Neg
  · rw [hn] at e; simp at e; exact ⟨rfl, e.symm⟩
  · have := h.sg hn
    have := val_ge h.dg h.nz this
    have := pow_pos' (b.f_D.length - 1)
    rw [hn] at e; simp at e; omega
structure St (A B : Int) (la t : Nat) (q : List Int) (r : T1Big) : Prop where
  dg : Dg q
  ln : q.length = la ∨ q = [] ∧ t = 16 * la
  vq : val q = A / 2 ^ t / B * 2 ^ t
  rr : Is r (A / 2 ^ t % B)
theorem halve {A B Q R c E : Int} (hB : 0 < B) (h : A / 2 = E) (hq : E / B = Q) (hr : E % B = R) (hc : A % 2 = c) :
    (2 * R + c < B → A / B = 2 * Q ∧ A % B = 2 * R + c) ∧ (¬ 2 * R + c < B → A / B = 2 * Q + 1 ∧ A % B = 2 * R + c - B) := by
  have h1 : A = 2 * E + c := by omega
  have h2 := Int.emod_add_mul_ediv E B
  have h3 := Int.emod_nonneg E (show B ≠ 0 by omega)
  have h4 := Int.emod_lt_of_pos E hB
  rw [hq, hr] at h2
  rw [hr] at h3 h4
  constructor
  · intro w
    refine (Int.ediv_emod_unique hB).2 ⟨?_, by omega, w⟩
    rw [h1, ← h2, Int.mul_left_comm]; omega
  · intro w
    refine (Int.ediv_emod_unique hB).2 ⟨?_, by omega, by omega⟩
    rw [h1, ← h2, Int.mul_add, Int.mul_left_comm]; omega
theorem tdiv16 {t : Nat} (ht : t ≤ 100000) : wr .i64 (Int.tdiv (t : Int) 16) = ((t / 16 : Nat) : Int) := by
  rw [Int.tdiv_eq_ediv_of_nonneg (Int.natCast_nonneg t), wr_in (by omega) (by omega)]; omega
theorem tmod16 {t : Nat} : wr .u64 (Int.tmod (t : Int) 16) = ((t % 16 : Nat) : Int) := by
  rw [Int.tmod_eq_emod_of_nonneg (Int.natCast_nonneg t), wr_u]; omega
theorem shl1 {s : Nat} (h : s < 16) : shlI .u64 1 (s : Int) = 2 ^ s := by
  rcases sixteen h with q | q | q | q | q | q | q | q | q | q | q | q | q | q | q | q <;> subst q <;> decide
theorem shrs {x : Int} {s : Nat} (h : s < 64) : shrI .u64 x (s : Int) = x / 2 ^ s := by
  show Int.fdiv x ((2 ^ (Nat.min s 64) : Nat) : Int) = _
  have e : Nat.min s 64 = s := Nat.min_eq_left (by omega)
  rw [e, Int.fdiv_eq_ediv_of_nonneg _ (Int.natCast_nonneg _)]
  simp
theorem pad_L {b a : List Int} {c n n' x8 : Bool} {r x9 : List Int} {t : Nat} (ht : t ≤ 100000) {e2 : Int → List Int → Bool → List Int → Bool → List Int → Bool → List Int → Bool → List Int → Option R} :
    ∀ (k : Nat) (x : List Int) (f : Nat), k < f → (x.length + k = t / 16 + 1 ∨ k = 0 ∧ t / 16 < x.length) → k ≤ 100000 → G (e2 (t : Int) (x ++ List.replicate k 0) c r n' b n a x8 x9) → G (r1_Floor_L0_0 m e2 f (t : Int) x c r n' b n a x8 x9) := by
  intro k
  induction k with
  | zero =>
    intro x f hf hx _ he
    obtain ⟨f, rfl⟩ : ∃ i, f = i + 1 := ⟨f - 1, by omega⟩
    rw [r1_Floor_L0_0s]; unfold r1_Floor_S0_0
    try dsimp only
    rw [tdiv16 ht]
    refine br_sp (fun q => ?_) (fun _ => by simpa using he)
    have := leI_t.1 q; omega
  | succ k ih =>
    intro x f hf hx hk he
    obtain ⟨f, rfl⟩ : ∃ i, f = i + 1 := ⟨f - 1, by omega⟩
    rw [r1_Floor_L0_0s]; unfold r1_Floor_S0_0
    try dsimp only
    rw [tdiv16 ht]
    refine br_sp (fun q => br_g (okAp_t (by decide) (by show x.length + 1 ≤ _; omega)) (ih (x ++ [0]) f (by omega) (by simp; omega) (by omega) ?_)) (fun q => ?_)
    · rw [List.append_assoc]; exact he
    · have := leI_f.1 q; omega
theorem floor_half {A B : Int} {a b : List Int} {n n' x8 : Bool} {x9 : List Int} {t : Nat} {q : List Int} {r : T1Big} {Q V : Int}
    (hb : Is ⟨true, b⟩ (-B)) (hB : 0 < B) (sb : b.length ≤ 1000) (ha : a.length ≤ 1000) (ht : t < 16 * a.length)
    (dq : Dg q) (lq : q.length = a.length ∨ q = [] ∧ t + 1 = 16 * a.length) (vq : val q = Q * 2 ^ (t + 1)) (hr : Is r V) (R0 : 0 ≤ V) (R1 : V < 2 * B)
    (h1 : V < B → A / 2 ^ t / B = 2 * Q ∧ A / 2 ^ t % B = V) (h2 : ¬ V < B → A / 2 ^ t / B = 2 * Q + 1 ∧ A / 2 ^ t % B = V - B) (sr : r.f_D.length ≤ 2000) (hm : 1000001 ≤ m)
    {ρ : Int → List Int → Bool → List Int → Bool → List Int → Bool → List Int → Bool → List Int → Option R}
    (hρ : ∀ q' r', St A B a.length t q' r' → G (ρ ((t : Int) - 1) q' r'.f_Neg r'.f_D n' b n a x8 x9)) :
    G (r1_Floor_L0_0 m (fun y0 y1 y2 y3 y4 y5 y6 y7 y8 y9 =>
          r1_less m y3 y5 (fun r49 =>
          let t50 := (!r49)
          br (t50) (
            r1_Add m (T1Big.mk y2 y3) (T1Big.mk true y5) (fun r55 =>
            let t58 := (wr .i64 (Int.tdiv y0 16))
            let t61 := (wr .i64 (Int.tdiv y0 16))
            br ((inB t61 y1.length)) (
              let t63 := (el8 y1 (iNat t61))
              let t65 := (Int.tmod y0 16)
              let t66 := (wr .u64 t65)
              br ((leI 0 t66)) (
                let t67 := (shlI .u64 1 t66)
                let t68 := (orI .u64 t63 t67)
                br ((inB t58 y1.length)) (
                  let t18 := (wr .i64 (y0 - 1))
                  ρ t18 (y1.set (iNat t58) t68) r55.f_Neg r55.f_D y4 y5 y6 y7 y8 y9) none) none) none))
          (
            let t18 := (wr .i64 (y0 - 1))
            ρ t18 y1 y2 y3 y4 y5 y6 y7 y8 y9))) m (t : Int) q r.f_Neg r.f_D n' b n a x8 x9) := by
  have pb : val b = B := by have := hb.eq; simp at this; omega
  obtain ⟨hc, vr⟩ := hr.pos R0
  have key : ∀ Z : List Int, Dg Z → Z.length = a.length → val Z = val q → G ((fun y0 y1 y2 y3 y4 y5 y6 y7 y8 y9 =>
          r1_less m y3 y5 (fun r49 =>
          let t50 := (!r49)
          br (t50) (
            r1_Add m (T1Big.mk y2 y3) (T1Big.mk true y5) (fun r55 =>
            let t58 := (wr .i64 (Int.tdiv y0 16))
            let t61 := (wr .i64 (Int.tdiv y0 16))
            br ((inB t61 y1.length)) (
              let t63 := (el8 y1 (iNat t61))
              let t65 := (Int.tmod y0 16)
              let t66 := (wr .u64 t65)
              br ((leI 0 t66)) (
                let t67 := (shlI .u64 1 t66)
                let t68 := (orI .u64 t63 t67)
                br ((inB t58 y1.length)) (
                  let t18 := (wr .i64 (y0 - 1))
                  ρ t18 (y1.set (iNat t58) t68) r55.f_Neg r55.f_D y4 y5 y6 y7 y8 y9) none) none) none))
          (
            let t18 := (wr .i64 (y0 - 1))
            ρ t18 y1 y2 y3 y4 y5 y6 y7 y8 y9))) (t : Int) Z r.f_Neg r.f_D n' b n a x8 x9) := by
    intro Z dz lz vz
    try dsimp only
    have e1 := tdiv16 (t := t) (by omega)
    rw [e1, tmod16, shl1 (s := t % 16) (by omega), iNat_n, el6_D, wr_in (n := (t : Int) - 1) (by omega) (by omega)]
    have g1 : inB ((t / 16 : Nat) : Int) Z.length = true := inB_t.2 ⟨by omega, by omega⟩
    refine less_sp hr.dg hb.dg hr.nz hb.nz hr.sm hb.sm hm (br_sp (fun w => ?_) (fun w => ?_))
    · have w : ¬ V < B := by
        rw [vr, pb] at w
        intro h; rw [decide_eq_true h] at w; exact nomatch w
      obtain ⟨f1, f2⟩ := h2 w
      refine Add_sp (x := r) (w := ⟨true, b⟩) hr hb 3000 (by omega) (by show b.length ≤ _; omega) (by omega) hm fun r' ia sa => ?_
      rw [vq] at vz
      obtain ⟨⟨z, hz⟩, lt⟩ := low_of dz t Q vz
      obtain ⟨d0, d1⟩ := getD_dg dz (t / 16)
      have ob := or_bit _ z (t % 16) (by omega) d0 d1 hz
      have p0 : (0 : Int) < 2 ^ (t % 16) := Int.pow_pos (by decide)
      refine br_g g1 (br_g (leI_t.2 (by omega)) (br_g g1 ?_))
      rw [ob]
      refine hρ _ r' ⟨dz.set _ (by omega) lt, .inl (by simp [lz]), ?_, by rw [f2]; exact ia⟩
      rw [val_set _ _ (by omega), vz, f1, show Z.getD (t / 16) 0 + 2 ^ (t % 16) - Z.getD (t / 16) 0 = 2 ^ (t % 16) by omega, ← pow16 t, Int.pow_succ, Int.add_mul, Int.one_mul, Int.mul_comm 2 Q, Int.mul_assoc, Int.mul_comm 2 (2 ^ t)]
    · have w : V < B := by
        rw [vr, pb] at w
        by_cases h : V < B
        · exact h
        · rw [decide_eq_false h] at w; exact nomatch w
      obtain ⟨f1, f2⟩ := h1 w
      refine hρ Z r ⟨dz, .inl lz, ?_, by rw [f2]; exact hr⟩
      rw [vz, vq, f1, Int.pow_succ, Int.mul_comm 2 Q, Int.mul_assoc, Int.mul_comm 2 (2 ^ t)]
  rcases lq with h | ⟨h, ht'⟩
  · refine pad_L (by omega) 0 q m (by omega) (.inr ⟨rfl, by omega⟩) (by omega) ?_
    have e : q ++ List.replicate 0 0 = q := by simp
    rw [e]
    exact key q dq h rfl
  · subst h
    refine pad_L (by omega) a.length [] m (by omega) (.inl (by simp; omega)) (by omega) ?_
    exact key (List.replicate a.length 0) (Dg.rep _) (by simp) (val_rep _)
theorem floor_L0 {A B : Int} {a b : List Int} {n n' x8 : Bool} {x9 : List Int} (da : Dg a) (hA : val a = A) (hb : Is ⟨true, b⟩ (-B)) (hB : 0 < B) (sb : b.length ≤ 1000) (ha : a.length ≤ 1000) (hm : 1000001 ≤ m)
    {e0 : Bool → List Int → Bool → List Int → Bool → List Int → Bool → List Int → List Int → Option R} (he : ∀ q r, St A B a.length 0 q r → G (e0 x8 x9 r.f_Neg r.f_D n' b n a q)) :
    ∀ (t : Nat) (q : List Int) (r : T1Big) (f : Nat), t < f → t ≤ 16 * a.length → St A B a.length t q r → G (r1_Floor_L0 m (r1_Add m) (r1_Of m) (r1_less m) e0 f ((t : Int) - 1) q r.f_Neg r.f_D n' b n a x8 x9) := by
  intro t
  induction t with
  | zero =>
    intro q r f hf ht h
    obtain ⟨f, rfl⟩ : ∃ i, f = i + 1 := ⟨f - 1, by omega⟩
    exact he q r h
  | succ t ih =>
    intro q r f hf ht h
    obtain ⟨f, rfl⟩ : ∃ i, f = i + 1 := ⟨f - 1, by omega⟩
    have e0' : ((t + 1 : Nat) : Int) - 1 = (t : Int) := by omega
    have pb : val b = B := by have := hb.eq; simp at this; omega
    have hp := h.rr
    have R0 := Int.emod_nonneg (A / 2 ^ (t + 1)) (show B ≠ 0 by omega)
    have R1 := Int.emod_lt_of_pos (A / 2 ^ (t + 1)) hB
    have vq := h.vq
    have half : A / 2 ^ t / 2 = A / 2 ^ (t + 1) := by rw [Int.ediv_ediv_of_nonneg (by have : (0 : Int) < 2 ^ t := Int.pow_pos (by decide); omega), ← Int.pow_succ]
    have c2 : A / 2 ^ t % 2 = 0 ∨ A / 2 ^ t % 2 = 1 := by omega
    have hh := halve hB half rfl rfl rfl
    have sr : r.f_D.length ≤ b.length := len_le hb.dg hp.dg hb.nz hp.nz (by rw [(hp.pos R0).2]; show _ ≤ val b; rw [pb]; omega)
    have bt : andI .u64 (shrI .u64 (a.getD (t / 16) 0) ((t % 16 : Nat) : Int)) 1 = A / 2 ^ t % 2 := by
      obtain ⟨d0, d1⟩ := getD_dg da (t / 16)
      rw [← hA, ← bit_of da t, shrs (by omega)]
      have p0 : (0 : Int) < 2 ^ (t % 16) := Int.pow_pos (by decide)
      have q0 := Int.ediv_nonneg d0 (show (0 : Int) ≤ 2 ^ (t % 16) by omega)
      have q1 := Int.ediv_le_self (2 ^ (t % 16)) d0
      exact and_one _ q0 (by omega)
    generalize A / 2 ^ (t + 1) % B = V at *
    generalize A / 2 ^ (t + 1) / B = Q at *
    rw [e0']
    rw [r1_Floor_L0s]; unfold r1_Floor_S0
    refine br_sp (fun _ => ?_) (fun hc => absurd (leI_f.1 hc) (by omega))
    refine Add_sp (x := r) (w := r) hp hp 1000 (by omega) (by omega) (by omega) hm fun r1 ia1 sa1 => ?_
    try dsimp only
    rw [tdiv16 (t := t) (by omega), tmod16, iNat_n, el6_D, bt]
    refine br_g (inB_t.2 ⟨by omega, by omega⟩) (br_g (leI_t.2 (by omega)) (br_sp (fun z => ?_) (fun z => ?_)))
    · have z := eqI_t.1 z
      refine Of_sp hm (by omega) (by omega) fun o io lo => Add_sp ia1 io 1001 (by omega) (by omega) (by omega) hm fun r2 ia2 sa2 => ?_
      exact floor_half (G := G) (m := m) (ρ := r1_Floor_L0 m (r1_Add m) (r1_Of m) (r1_less m) e0 f) (A := A) (V := V + V + 1) (Q := Q) hb hB sb ha (by omega) h.dg (h.ln.imp id (fun x => ⟨x.1, by omega⟩)) vq ia2 (by omega) (by omega)
        (fun w => by have := hh.1 (by omega); rw [z] at this; exact ⟨this.1, by omega⟩) (fun w => by have := hh.2 (by omega); rw [z] at this; exact ⟨this.1, by omega⟩) (by omega) hm fun q' r' S => ih q' r' f (by omega) (by omega) S
    · have z := eqI_f.1 z
      have z : A / 2 ^ t % 2 = 0 := by omega
      exact floor_half (G := G) (m := m) (ρ := r1_Floor_L0 m (r1_Add m) (r1_Of m) (r1_less m) e0 f) (A := A) (V := V + V) (Q := Q) hb hB sb ha (by omega) h.dg (h.ln.imp id (fun x => ⟨x.1, by omega⟩)) vq ia1 (by omega) (by omega)
        (fun w => by have := hh.1 (by omega); rw [z] at this; exact ⟨this.1, by omega⟩) (fun w => by have := hh.2 (by omega); rw [z] at this; exact ⟨this.1, by omega⟩) (by omega) hm fun q' r' S => ih q' r' f (by omega) (by omega) S
theorem floor_unlike (A B : Int) (hB : 0 < B) : Int.fdiv (-A) B = -(A / B) + (if A % B = 0 then 0 else -1) := by
  rw [Int.fdiv_eq_ediv_of_nonneg _ (by omega), Int.neg_ediv]
  by_cases h : B ∣ A
  · rw [if_pos h, if_pos (Int.emod_eq_zero_of_dvd h)]; omega
  · rw [if_neg h, if_neg (fun q => h (Int.dvd_of_emod_eq_zero q)), Int.sign_eq_one_of_pos hB]; omega
theorem Floor_sp {x w : T1Big} {y z : Int} (h : Is x y) (h' : Is w z) (hz : z ≠ 0) (sa : x.f_D.length ≤ 1000) (sb : w.f_D.length ≤ 1000) (hm : 1000001 ≤ m) {κ : T1Big → Option R}
    (hk : ∀ b, Is b (Int.fdiv y z) → b.f_D.length ≤ x.f_D.length + 5 → G (κ b)) : G (r1_Floor m x w κ) := by
  have hb : w.f_D ≠ [] := fun q => hz (h'.zero.1 q)
  have pB : 0 < val w.f_D := by have := val_ge h'.dg h'.nz hb; have := pow_pos' (w.f_D.length - 1); omega
  have ib : Is ⟨true, w.f_D⟩ (-val w.f_D) := ⟨h'.dg, h'.nz, fun _ => hb, by simp, h'.sm⟩
  have A0 := val_nonneg h.dg
  have z0 : val x.f_D / 2 ^ (16 * x.f_D.length) = 0 := Int.ediv_eq_zero_of_lt A0 (by have := val_lt h.dg; rw [Int.pow_mul]; exact this)
  unfold r1_Floor r1_Floor_F
  try dsimp only
  rw [wr_in (n := 16 * (x.f_D.length : Int)) (by omega) (by omega), wr_in (n := 16 * (x.f_D.length : Int) - 1) (by omega) (by omega), show 16 * (x.f_D.length : Int) - 1 = ((16 * x.f_D.length : Nat) : Int) - 1 by omega]
  refine floor_L0 h.dg rfl ib pB sb sa hm (fun q r S => ?_) (16 * x.f_D.length) [] ⟨false, []⟩ m (by omega) (by omega)
    ⟨Dg.nil, .inr ⟨rfl, rfl⟩, by rw [z0]; simp [val], by rw [z0]; exact ⟨Dg.nil, Nz.nil, by simp, by simp [val], by simp⟩⟩
  have vq := S.vq
  have hr := S.rr
  simp only [Int.pow_zero, Int.ediv_one, Int.mul_one] at vq hr
  have sq : q.length ≤ x.f_D.length := by
    rcases S.ln with e | ⟨e, _⟩
    · omega
    · rw [e]; simp
  have hne : (!eqB x.f_Neg w.f_Neg) = (x.f_Neg != w.f_Neg) := by cases x.f_Neg <;> cases w.f_Neg <;> rfl
  rw [hne]
  refine trim_sp (b := ⟨x.f_Neg != w.f_Neg, q⟩) S.dg (by show q.length ≤ _; omega) hm fun l' p1 p2 p3 p4 => ?_
  have p4 : l'.length ≤ q.length := p4
  have p3 : val l' = val q := p3
  rw [vq] at p3
  have iq : Is ⟨(x.f_Neg != w.f_Neg) && decide (l' ≠ []), l'⟩ (if (x.f_Neg != w.f_Neg) = true then -(val x.f_D / val w.f_D) else val x.f_D / val w.f_D) :=
    Is.mk' (l := q) p1 p2 (by rw [p3, vq]) (by omega) (by rw [vq])
  have hlen : (0 < (r.f_D.length : Int)) ↔ val x.f_D % val w.f_D ≠ 0 := by
    have := hr.zero
    constructor
    · intro q w; rw [this.2 w] at q; simp at q
    · intro q
      by_cases e : r.f_D = []
      · exact absurd (this.1 e) q
      · have := List.length_pos_iff.2 e; omega
  refine br_sp (fun e => ?_) (fun e => ?_)
  · rw [if_pos e] at iq
    have fd : Int.fdiv y z = -(val x.f_D / val w.f_D) + (if val x.f_D % val w.f_D = 0 then 0 else -1) := by
      rw [← floor_unlike _ _ pB, h.eq, h'.eq]
      cases h1 : x.f_Neg <;> cases h2 : w.f_Neg <;> rw [h1, h2] at e <;> first | (simp at e; done) | skip
      · simp; rw [← Int.neg_fdiv_neg, Int.neg_neg]
      · simp
    rw [fd] at hk
    refine br_sp (fun q => ?_) (fun q => ?_)
    · have q := hlen.1 (ltI_t.1 q)
      rw [if_neg q] at hk
      exact Of_sp hm (by omega) (by omega) fun o io lo => Add_sp iq io (x.f_D.length + 4) (by show l'.length ≤ _; omega) (by omega) (by omega) hm fun b hb2 sb2 => hk b hb2 (by omega)
    · have q : val x.f_D % val w.f_D = 0 := by
        by_cases h0 : val x.f_D % val w.f_D = 0
        · exact h0
        · have := ltI_f.1 q; have := hlen.2 h0; omega
      rw [if_pos q, Int.add_zero] at hk
      exact hk _ iq (by show l'.length ≤ _; omega)
  · rw [if_neg (by rw [e]; decide)] at iq
    have fd : Int.fdiv y z = val x.f_D / val w.f_D := by
      rw [h.eq, h'.eq]
      cases h1 : x.f_Neg <;> cases h2 : w.f_Neg <;> rw [h1, h2] at e <;> first | (simp at e; done) | skip
      · simp [Int.fdiv_eq_ediv_of_nonneg _ (show 0 ≤ val w.f_D by omega)]
      · simp [Int.neg_fdiv_neg, Int.fdiv_eq_ediv_of_nonneg _ (show 0 ≤ val w.f_D by omega)]
    rw [fd] at hk
    exact hk _ iq (by show l'.length ≤ _; omega)
end Go.Pm
namespace Go.Pm
open Go Go.EvM Go.Pv
set_option linter.unusedVariables false
set_option linter.unusedSimpArgs false
variable {R : Type} {G : Option R → Prop} {m : Nat}
theorem ltI_d (a b : Int) : ltI a b = decide (a < b) := by
  by_cases h : a < b
  · rw [decide_eq_true h, ltI_t.2 h]
  · rw [decide_eq_false h, ltI_f.2 (by omega)]
theorem leI_d (a b : Int) : leI a b = decide (a ≤ b) := by
  by_cases h : a ≤ b
  · rw [decide_eq_true h, leI_t.2 h]
  · rw [decide_eq_false h, leI_f.2 (by omega)]
theorem eqI_d (a b : Int) : eqI a b = decide (a = b) := by
  by_cases h : a = b
  · rw [decide_eq_true h, eqI_t.2 h]
  · rw [decide_eq_false h, eqI_f.2 h]
theorem r11_Fit_sp {t v : Int} {κ : Bool → Option R} (hk : G (κ (fits t v))) : G (r11_Fit m t v κ) := by
  unfold r11_Fit r11_Fit_F
  unfold fits at hk
  simp only [eqI_d, leI_d]
  by_cases h1 : t = 1
  · subst h1
    rw [if_pos rfl] at hk
    by_cases q : v = 0
    · subst q; exact hk
    · rw [decide_eq_false q]
      simp only [q, false_or] at hk
      exact hk
  rw [if_neg h1] at hk
  rw [decide_eq_false h1]
  have two : t = 2 ∨ t = 3 → G (br (decide (-4503599627370496 ≤ v)) (κ (decide (v ≤ 4503599627370496))) (κ false)) := by
    intro h
    rw [if_pos h] at hk
    by_cases q : -4503599627370496 ≤ v
    · rw [decide_eq_true q]; simp only [q, true_and] at hk; exact hk
    · rw [decide_eq_false q]; simp only [q, false_and, decide_false] at hk; exact hk
  by_cases h2 : t = 2
  · have := two (.inl h2)
    rw [decide_eq_true h2]; exact this
  rw [decide_eq_false h2]
  by_cases h3 : t = 3
  · have := two (.inr h3)
    rw [decide_eq_true h3]; exact this
  rw [decide_eq_false h3]
  rw [if_neg (fun h => h.elim h2 h3)] at hk
  by_cases h4 : t = 4
  · rw [if_pos h4] at hk
    rw [decide_eq_true h4]
    by_cases q : -1000000000000 ≤ v
    · rw [decide_eq_true q]; simp only [q, true_and] at hk; exact hk
    · rw [decide_eq_false q]; simp only [q, false_and, decide_false] at hk; exact hk
  rw [if_neg h4] at hk
  rw [decide_eq_false h4]
  by_cases h5 : t = 5
  · rw [if_pos h5] at hk
    rw [decide_eq_true h5]
    by_cases q : 0 ≤ v
    · rw [decide_eq_true q]; simp only [q, true_and] at hk; exact hk
    · rw [decide_eq_false q]; simp only [q, false_and, decide_false] at hk; exact hk
  rw [if_neg h5] at hk
  rw [decide_eq_false h5]
  exact hk
theorem mean_Fit_sp {t v : Int} {κ : Bool → Option R} (hk : G (κ (fits t v))) : G (mean_Fit m t v κ) := by
  unfold mean_Fit mean_Fit_F
  unfold fits at hk
  simp only [eqI_d, leI_d]
  by_cases h1 : t = 1
  · subst h1
    rw [if_pos rfl] at hk
    by_cases q : v = 0
    · subst q; exact hk
    · rw [decide_eq_false q]
      simp only [q, false_or] at hk
      exact hk
  rw [if_neg h1] at hk
  rw [decide_eq_false h1]
  have two : t = 2 ∨ t = 3 → G (br (decide (-4503599627370496 ≤ v)) (κ (decide (v ≤ 4503599627370496))) (κ false)) := by
    intro h
    rw [if_pos h] at hk
    by_cases q : -4503599627370496 ≤ v
    · rw [decide_eq_true q]; simp only [q, true_and] at hk; exact hk
    · rw [decide_eq_false q]; simp only [q, false_and, decide_false] at hk; exact hk
  by_cases h2 : t = 2
  · have := two (.inl h2)
    rw [decide_eq_true h2]; exact this
  rw [decide_eq_false h2]
  by_cases h3 : t = 3
  · have := two (.inr h3)
    rw [decide_eq_true h3]; exact this
  rw [decide_eq_false h3]
  rw [if_neg (fun h => h.elim h2 h3)] at hk
  by_cases h4 : t = 4
  · rw [if_pos h4] at hk
    rw [decide_eq_true h4]
    by_cases q : -1000000000000 ≤ v
    · rw [decide_eq_true q]; simp only [q, true_and] at hk; exact hk
    · rw [decide_eq_false q]; simp only [q, false_and, decide_false] at hk; exact hk
  rw [if_neg h4] at hk
  rw [decide_eq_false h4]
  by_cases h5 : t = 5
  · rw [if_pos h5] at hk
    rw [decide_eq_true h5]
    by_cases q : 0 ≤ v
    · rw [decide_eq_true q]; simp only [q, true_and] at hk; exact hk
    · rw [decide_eq_false q]; simp only [q, false_and, decide_false] at hk; exact hk
  rw [if_neg h5] at hk
  rw [decide_eq_false h5]
  exact hk
theorem fits_in {t v : Int} (h : fits t v = true) : -9223372036854775808 ≤ v ∧ v ≤ 9223372036854775807 := by
  unfold fits at h
  split at h
  · have := of_decide_eq_true h; omega
  · split at h
    · have := of_decide_eq_true h; omega
    · split at h
      · have := of_decide_eq_true h; omega
      · split at h
        · have := of_decide_eq_true h; omega
        · cases h
def fval (t v : Int) : TapiValue := if fits t v = true then ⟨t, v, []⟩ else ⟨0, 0, []⟩
def ferr (t v : Int) : Int := if fits t v = true then 0 else if t = 5 then 12 else 10
theorem fitted_sp {t : Int} {b : T1Big} {z : Int} (h : Is b z) (hl : b.f_D.length ≤ 80000) (hm : 1000001 ≤ m) {κ : TapiValue → Int → Option R} (hk : G (κ (fval t z) (ferr t z))) : G (r11_fitted m t b κ) := by
  unfold r11_fitted r11_fitted_F
  have no : fits t z = false → G (br (eqI t 5) (κ ⟨0, 0, []⟩ 12) (κ ⟨0, 0, []⟩ 10)) := by
    intro hf
    unfold fval ferr at hk
    rw [hf] at hk
    refine br_sp (fun h => ?_) (fun h => ?_)
    · have h := eqI_t.1 h; subst h; exact hk
    · have h := eqI_f.1 h
      rw [if_neg h] at hk; exact hk
  refine Int_sp h hl hm (fun w => ?_) (fun w => ?_)
  · refine r11_Fit_sp ?_
    refine br_sp (fun hf => ?_) no
    unfold fval ferr at hk
    rw [hf] at hk
    exact hk
  · refine no ?_
    cases hf : fits t z with
    | false => rfl
    | true => exact absurd (fits_in hf) w
def whole (W : Int) : Int × Bool := if -9223372036854775808 ≤ W ∧ W ≤ 9223372036854775807 then (W, true) else (0, false)
theorem whole_in {W : Int} (h : -9223372036854775808 ≤ W ∧ W ≤ 9223372036854775807) : whole W = (W, true) := if_pos h
theorem whole_out {W : Int} (h : ¬(-9223372036854775808 ≤ W ∧ W ≤ 9223372036854775807)) : whole W = (0, false) := if_neg h
theorem made_sp {t W : Int} {κ : TapiValue → Int → Option R} (hk : G (κ (fval t W) (ferr t W))) : G (mean_made m t (whole W).1 (whole W).2 κ) := by
  unfold mean_made mean_made_F
  have no : fits t W = false → G (br (eqI t 5) (κ ⟨0, 0, []⟩ 12) (κ ⟨0, 0, []⟩ 10)) := by
    intro hf
    unfold fval ferr at hk
    rw [hf] at hk
    refine br_sp (fun h => ?_) (fun h => ?_)
    · have h := eqI_t.1 h; subst h; exact hk
    · have h := eqI_f.1 h
      rw [if_neg h] at hk; exact hk
  by_cases w : -9223372036854775808 ≤ W ∧ W ≤ 9223372036854775807
  · rw [whole_in w]
    refine mean_Fit_sp (m := m) ?_
    refine br_sp (fun hf => ?_) no
    unfold fval ferr at hk
    rw [hf] at hk
    exact hk
  · rw [whole_out w]
    refine no ?_
    cases hf : fits t W with
    | false => rfl
    | true => exact absurd (fits_in hf) w
theorem nAdd_sp {a b : Int} (a0 : -9223372036854775808 ≤ a) (a1 : a ≤ 9223372036854775807) (b0 : -9223372036854775808 ≤ b) (b1 : b ≤ 9223372036854775807) {κ : Int → Bool → Option R} (hk : G (κ (whole (a + b)).1 (whole (a + b)).2)) : G (num_Add m a b κ) := by
  unfold num_Add num_Add_F
  try dsimp only
  by_cases w : -9223372036854775808 ≤ a + b ∧ a + b ≤ 9223372036854775807
  · rw [whole_in w] at hk
    rw [wr_in w.1 w.2]
    refine br_sp (fun h => ?_) (fun _ => hk)
    rw [ltI_d, ltI_d] at h
    by_cases q : b < 0
    · rw [decide_eq_true q, decide_eq_true (by omega)] at h; exact nomatch h
    · rw [decide_eq_false q, decide_eq_false (by omega)] at h; exact nomatch h
  · rw [whole_out w] at hk
    refine br_sp (fun _ => hk) (fun h => ?_)
    rw [ltI_d, ltI_d, wr_i] at h
    by_cases q : b < 0
    · rw [decide_eq_true q, decide_eq_false (by omega)] at h; exact nomatch h
    · rw [decide_eq_false q, decide_eq_true (by omega)] at h; exact nomatch h
theorem nSub_sp {a b : Int} (a0 : -9223372036854775808 ≤ a) (a1 : a ≤ 9223372036854775807) (b0 : -9223372036854775808 ≤ b) (b1 : b ≤ 9223372036854775807) {κ : Int → Bool → Option R} (hk : G (κ (whole (a - b)).1 (whole (a - b)).2)) : G (num_Sub m a b κ) := by
  unfold num_Sub num_Sub_F
  try dsimp only
  by_cases w : -9223372036854775808 ≤ a - b ∧ a - b ≤ 9223372036854775807
  · rw [whole_in w] at hk
    rw [wr_in w.1 w.2]
    refine br_sp (fun h => ?_) (fun _ => hk)
    rw [ltI_d, ltI_d] at h
    by_cases q : b < 0
    · rw [decide_eq_true q, decide_eq_true (by omega)] at h; exact nomatch h
    · rw [decide_eq_false q, decide_eq_false (by omega)] at h; exact nomatch h
  · rw [whole_out w] at hk
    refine br_sp (fun _ => hk) (fun h => ?_)
    rw [ltI_d, ltI_d, wr_i] at h
    by_cases q : b < 0
    · rw [decide_eq_true q, decide_eq_false (by omega)] at h; exact nomatch h
    · rw [decide_eq_false q, decide_eq_true (by omega)] at h; exact nomatch h
theorem shr63 (x : Int) : shrI .i64 x 63 = x / 9223372036854775808 := by
  show Int.fdiv x 9223372036854775808 = _
  rw [Int.fdiv_eq_ediv_of_nonneg _ (by decide)]
theorem shr32 (x : Int) : shrI .u64 x 32 = x / 4294967296 := by
  show Int.fdiv x 4294967296 = _
  rw [Int.fdiv_eq_ediv_of_nonneg _ (by decide)]
def wide (W : Int) : TnumWide := ⟨W / 18446744073709551616, W % 18446744073709551616⟩
theorem narrow_sp {W : Int} (h0 : -85070591730234615865843651857942052864 ≤ W) (h1 : W ≤ 85070591730234615865843651857942052864) {κ : Int → Bool → Option R} (hk : G (κ (whole W).1 (whole W).2)) : G (num_narrow m (wide W) κ) := by
  unfold num_narrow num_narrow_F
  show G (br (!(eqI (W / 18446744073709551616) (shrI .i64 (wr .i64 (W % 18446744073709551616)) 63))) (κ 0 false) (κ (wr .i64 (W % 18446744073709551616)) true))
  rw [shr63, wr_i]
  by_cases h : -9223372036854775808 ≤ W ∧ W ≤ 9223372036854775807
  · rw [whole_in h] at hk
    rw [show (W % 18446744073709551616 + 9223372036854775808) % 18446744073709551616 - 9223372036854775808 = W by omega, eqI_t.2 (show W / 18446744073709551616 = W / 9223372036854775808 by omega)]
    exact hk
  · rw [whole_out h] at hk
    rw [eqI_f.2 (by omega)]
    exact hk
theorem and_half (x : Int) (h : 0 ≤ x) (k : x < 18446744073709551616) : andI .u64 x 4294967295 = x % 4294967296 := by
  obtain ⟨n, rfl⟩ := Int.eq_ofNat_of_zero_le h
  have e : (BitVec.ofInt 64 (n : Int) &&& BitVec.ofInt 64 4294967295).toNat = n % 4294967296 := by
    have h1 : (BitVec.ofInt 64 (n : Int)).toNat = n := by simp [BitVec.toNat_ofInt]; omega
    have h2 : (BitVec.ofInt 64 (4294967295 : Int)).toNat = 4294967295 := by decide
    rw [BitVec.toNat_and, h1, h2]
    exact Nat.and_two_pow_sub_one_eq_mod n 32
  have : andI .u64 (n : Int) 4294967295 = IntKind.u64.wrap ((BitVec.ofInt 64 (n : Int) &&& BitVec.ofInt 64 4294967295).toNat : Int) := rfl
  rw [this, e, u64_is]
  omega
theorem mul_le' {a b : Int} (a0 : 0 ≤ a) (a1 : a ≤ 4294967295) (b0 : 0 ≤ b) (b1 : b ≤ 4294967295) : 0 ≤ a * b ∧ a * b ≤ 18446744065119617025 :=
  ⟨Int.mul_nonneg a0 b0, Int.le_trans (Int.mul_le_mul a1 b1 b0 (by omega)) (by decide)⟩
theorem Mul64_sp {a b : Int} (a0 : 0 ≤ a) (a1 : a < 18446744073709551616) (b0 : 0 ≤ b) (b1 : b < 18446744073709551616) {κ : Int → Int → Option R}
    (hk : G (κ (a * b / 18446744073709551616) (a * b % 18446744073709551616))) : G (b_Mul64 m a b κ) := by
  unfold b_Mul64 b_Mul64_F
  try dsimp only
  simp only [shr32]
  rw [and_half a a0 a1, and_half b b0 b1, wr_u (a * b)]
  have ha : a = a / 4294967296 * 4294967296 + a % 4294967296 := by omega
  have hb : b = b / 4294967296 * 4294967296 + b % 4294967296 := by omega
  have hx1 : 0 ≤ a / 4294967296 ∧ a / 4294967296 ≤ 4294967295 := by omega
  have hx0 : 0 ≤ a % 4294967296 ∧ a % 4294967296 ≤ 4294967295 := by omega
  have hy1 : 0 ≤ b / 4294967296 ∧ b / 4294967296 ≤ 4294967295 := by omega
  have hy0 : 0 ≤ b % 4294967296 ∧ b % 4294967296 ≤ 4294967295 := by omega
  generalize a / 4294967296 = x1 at *
  generalize a % 4294967296 = x0 at *
  generalize b / 4294967296 = y1 at *
  generalize b % 4294967296 = y0 at *
  have p11 := mul_le' hx1.1 hx1.2 hy1.1 hy1.2
  have p10 := mul_le' hx1.1 hx1.2 hy0.1 hy0.2
  have p01 := mul_le' hx0.1 hx0.2 hy1.1 hy1.2
  have p00 := mul_le' hx0.1 hx0.2 hy0.1 hy0.2
  have hab : a * b = x1 * y1 * 18446744073709551616 + (x1 * y0 + x0 * y1) * 4294967296 + x0 * y0 := by
    rw [ha, hb, Int.add_mul, Int.mul_add, Int.mul_add]
    rw [show x1 * 4294967296 * (y1 * 4294967296) = x1 * y1 * 18446744073709551616 by rw [Int.mul_assoc, Int.mul_left_comm 4294967296, ← Int.mul_assoc]; rfl]
    rw [show x1 * 4294967296 * y0 = x1 * y0 * 4294967296 by rw [Int.mul_right_comm]]
    rw [show x0 * (y1 * 4294967296) = x0 * y1 * 4294967296 by rw [Int.mul_assoc]]
    omega
  rw [hab] at hk ⊢
  clear hab ha hb a0 a1 b0 b1
  generalize x1 * y1 = P11 at *
  generalize x1 * y0 = P10 at *
  generalize x0 * y1 = P01 at *
  generalize x0 * y0 = P00 at *
  rw [wr_u P00, wr_u P11, wr_u P10, wr_u P01]
  rw [show P00 % 18446744073709551616 = P00 by omega, show P11 % 18446744073709551616 = P11 by omega, show P10 % 18446744073709551616 = P10 by omega, show P01 % 18446744073709551616 = P01 by omega]
  rw [wr_uin (a := P10 + P00 / 4294967296) (by omega) (by omega), and_half _ (by omega) (by omega), wr_uin (a := (P10 + P00 / 4294967296) % 4294967296 + P01) (by omega) (by omega), wr_u, wr_u]
  have e : ((P11 + (P10 + P00 / 4294967296) / 4294967296) % 18446744073709551616 + ((P10 + P00 / 4294967296) % 4294967296 + P01) / 4294967296) % 18446744073709551616 = (P11 * 18446744073709551616 + (P10 + P01) * 4294967296 + P00) / 18446744073709551616 := by omega
  rw [e]
  exact hk
theorem product_sp {a b : Int} (a0 : -9223372036854775808 ≤ a) (a1 : a ≤ 9223372036854775807) (b0 : -9223372036854775808 ≤ b) (b1 : b ≤ 9223372036854775807) (p0 : -85070591730234615865843651857942052864 ≤ a * b) (p1 : a * b ≤ 85070591730234615865843651857942052864) {κ : TnumWide → Option R}
    (hk : G (κ (wide (a * b)))) : G (num_product m a b κ) := by
  unfold num_product num_product_F
  refine Mul64_sp (by rw [wr_u]; omega) (by rw [wr_u]; omega) (by rw [wr_u]; omega) (by rw [wr_u]; omega) ?_
  have ea : wr .u64 a = if a < 0 then a + 18446744073709551616 else a := by rw [wr_u]; split <;> omega
  have eb : wr .u64 b = if b < 0 then b + 18446744073709551616 else b := by rw [wr_u]; split <;> omega
  try dsimp only
  rw [ea, eb]
  clear ea eb
  unfold wide at hk
  refine br_sp (fun sa => ?_) (fun sa => ?_) <;> refine br_sp (fun sb => ?_) (fun sb => ?_)
  · have sa := ltI_t.1 sa; have sb := ltI_t.1 sb
    rw [if_pos sa, if_pos sb]
    have : (a + 18446744073709551616) * (b + 18446744073709551616) = a * b + (a + b) * 18446744073709551616 + 340282366920938463463374607431768211456 := by rw [Int.add_mul, Int.mul_add, Int.mul_add]; omega
    rw [this, wr_i, wr_i, wr_i]
    generalize a * b = p at *
    rw [show (p + (a + b) * 18446744073709551616 + 340282366920938463463374607431768211456) % 18446744073709551616 = p % 18446744073709551616 by omega]
    refine Eq.mp (congrArg (fun q => G (κ ⟨q, _⟩)) ?_) hk
    omega
  · have sa := ltI_t.1 sa; have sb := ltI_f.1 sb
    rw [if_pos sa, if_neg (by omega)]
    have : (a + 18446744073709551616) * b = a * b + b * 18446744073709551616 := by rw [Int.add_mul]; omega
    rw [this, wr_i, wr_i]
    generalize a * b = p at *
    rw [show (p + b * 18446744073709551616) % 18446744073709551616 = p % 18446744073709551616 by omega]
    refine Eq.mp (congrArg (fun q => G (κ ⟨q, _⟩)) ?_) hk
    omega
  · have sa := ltI_f.1 sa; have sb := ltI_t.1 sb
    rw [if_neg (by omega), if_pos sb]
    have : a * (b + 18446744073709551616) = a * b + a * 18446744073709551616 := by rw [Int.mul_add]
    rw [this, wr_i, wr_i]
    generalize a * b = p at *
    rw [show (p + a * 18446744073709551616) % 18446744073709551616 = p % 18446744073709551616 by omega]
    refine Eq.mp (congrArg (fun q => G (κ ⟨q, _⟩)) ?_) hk
    omega
  · have sa := ltI_f.1 sa; have sb := ltI_f.1 sb
    rw [if_neg (by omega), if_neg (by omega)]
    rw [wr_i]
    generalize a * b = p at *
    refine Eq.mp (congrArg (fun q => G (κ ⟨q, _⟩)) ?_) hk
    omega
theorem nMul_sp {a b : Int} (a0 : -9223372036854775808 ≤ a) (a1 : a ≤ 9223372036854775807) (b0 : -9223372036854775808 ≤ b) (b1 : b ≤ 9223372036854775807) (p0 : -85070591730234615865843651857942052864 ≤ a * b) (p1 : a * b ≤ 85070591730234615865843651857942052864) {κ : Int → Bool → Option R}
    (hk : G (κ (whole (a * b)).1 (whole (a * b)).2)) : G (num_Mul m a b κ) := by
  unfold num_Mul num_Mul_F
  exact product_sp a0 a1 b0 b1 p0 p1 (narrow_sp p0 p1 hk)
end Go.Pm
namespace Go.Pm
open Go Go.EvM Go.Pv
set_option linter.unusedVariables false
set_option linter.unusedSimpArgs false
variable {R : Type} {G : Option R → Prop} {m : Nat}
theorem tab_ok : ((List.range 256).all fun b => (let t := (getD 0 s_0_1_2_2_3_3_3_3_4_4_4_4_4_4_4_4_5_5_5_5_5_5_5_5__256_232741 b).toNat; (Nat.beq b 0 || (Nat.ble 1 t && (Nat.ble t 8 && (Nat.ble (2 ^ (t - 1)) b && Nat.blt b (2 ^ t))))))) = true := by decide +kernel
theorem tab_len : s_0_1_2_2_3_3_3_3_4_4_4_4_4_4_4_4_5_5_5_5_5_5_5_5__256_232741.length = 256 := by decide +kernel
theorem tab_at {b : Nat} (h0 : 1 ≤ b) (h1 : b < 256) : ∃ t : Nat, (getD 0 s_0_1_2_2_3_3_3_3_4_4_4_4_4_4_4_4_5_5_5_5_5_5_5_5__256_232741 b).toNat = t ∧ 1 ≤ t ∧ t ≤ 8 ∧ 2 ^ (t - 1) ≤ b ∧ b < 2 ^ t := by
  have := List.all_eq_true.1 tab_ok b (List.mem_range.2 h1)
  refine ⟨_, rfl, ?_⟩
  dsimp only at this
  generalize (getD 0 s_0_1_2_2_3_3_3_3_4_4_4_4_4_4_4_4_5_5_5_5_5_5_5_5__256_232741 b).toNat = t at this
  rw [Bool.or_eq_true] at this
  rcases this with h | h
  · have := Nat.eq_of_beq_eq_true h; omega
  · simp only [Bool.and_eq_true] at h
    exact ⟨Nat.le_of_ble_eq_true h.1, Nat.le_of_ble_eq_true h.2.1, Nat.le_of_ble_eq_true h.2.2.1, Nat.le_of_ble_eq_true h.2.2.2⟩
theorem len_leaf {y b c : Int} {k : Nat} (hb : 1 ≤ b) (hb' : b < 256) (hk : k ≤ 56) (hby : b = y / 2 ^ k) (hc : c = (k : Int)) {κ : Int → Option R} (hκ : ∀ L : Nat, 1 ≤ L → L ≤ 64 → 2 ^ (L - 1) ≤ y → y < 2 ^ L → G (κ (L : Int))) :
    G (br (inB (wr .u8 b) s_0_1_2_2_3_3_3_3_4_4_4_4_4_4_4_4_5_5_5_5_5_5_5_5__256_232741.length) (κ (wr .i64 (c + wr .i64 (byteAt s_0_1_2_2_3_3_3_3_4_4_4_4_4_4_4_4_5_5_5_5_5_5_5_5__256_232741 (wr .u8 b))))) none) := by
  obtain ⟨n, rfl⟩ := Int.eq_ofNat_of_zero_le (show 0 ≤ b by omega)
  obtain ⟨t, e, t1, t8, l0, l1⟩ := tab_at (b := n) (by omega) (by omega)
  have e1 : wr .u8 (n : Int) = (n : Int) := by show Int.ofNat (n % 256) = _; rw [Nat.mod_eq_of_lt (by omega)]; rfl
  have e2 : byteAt s_0_1_2_2_3_3_3_3_4_4_4_4_4_4_4_4_5_5_5_5_5_5_5_5__256_232741 (n : Int) = (t : Int) := by show Int.ofNat (getD 0 s_0_1_2_2_3_3_3_3_4_4_4_4_4_4_4_4_5_5_5_5_5_5_5_5__256_232741 n).toNat = _; rw [e]; rfl
  rw [e1, e2, hc, wr_in (n := (t : Int)) (by omega) (by omega), wr_in (by omega) (by omega)]
  refine br_g (inB_t.2 ⟨by omega, by rw [tab_len]; omega⟩) ?_
  have hK : (0 : Int) < 2 ^ k := Int.pow_pos (by decide)
  have m1 := Int.emod_add_mul_ediv y (2 ^ k)
  have r0 := Int.emod_nonneg y (show (2 : Int) ^ k ≠ 0 by omega)
  have r1 := Int.emod_lt_of_pos y hK
  rw [← hby, Int.mul_comm] at m1
  have l0' : ((2 : Int) ^ (t - 1)) ≤ (n : Int) := by exact_mod_cast l0
  have l1' : (n : Int) + 1 ≤ (2 : Int) ^ t := by exact_mod_cast l1
  have a0 : (2 : Int) ^ (t - 1) * 2 ^ k ≤ n * 2 ^ k := Int.mul_le_mul_of_nonneg_right l0' (by omega)
  have a1 : ((n : Int) + 1) * 2 ^ k ≤ 2 ^ t * 2 ^ k := Int.mul_le_mul_of_nonneg_right l1' (by omega)
  rw [← Int.pow_add] at a0 a1
  rw [Int.add_mul, Int.one_mul] at a1
  have := hκ (k + t) (by omega) (by omega) (by rw [show k + t - 1 = t - 1 + k by omega]; omega) (by rw [show k + t = t + k by omega]; omega)
  rw [show ((k + t : Nat) : Int) = (k : Int) + (t : Int) by omega] at this
  exact this
theorem shr16u (x : Int) : shrI .u64 x 16 = x / 65536 := by
  show Int.fdiv x 65536 = _
  rw [Int.fdiv_eq_ediv_of_nonneg _ (by decide)]
theorem shr8 (x : Int) : shrI .u64 x 8 = x / 256 := by
  show Int.fdiv x 256 = _
  rw [Int.fdiv_eq_ediv_of_nonneg _ (by decide)]
theorem Len_sp {y : Int} (y0 : 0 < y) (y1 : y < 18446744073709551616) {κ : Int → Option R} (hκ : ∀ L : Nat, 1 ≤ L → L ≤ 64 → 2 ^ (L - 1) ≤ y → y < 2 ^ L → G (κ (L : Int))) : G (b_Len64 m y κ) := by
  unfold b_Len64 b_Len64_F
  simp only [shr32, shr16u, shr8]
  refine br_sp (fun h1 => ?_) (fun h1 => ?_) <;> refine br_sp (fun h2 => ?_) (fun h2 => ?_) <;> refine br_sp (fun h3 => ?_) (fun h3 => ?_) <;> simp only [leI_t, leI_f] at h1 h2 h3
  · exact len_leaf (k := 56) (y := y) (by omega) (by omega) (by omega) (by simp only [Int.reducePow]; omega) (by decide) hκ
  · exact len_leaf (k := 48) (y := y) (by omega) (by omega) (by omega) (by simp only [Int.reducePow]; omega) (by decide) hκ
  · exact len_leaf (k := 40) (y := y) (by omega) (by omega) (by omega) (by simp only [Int.reducePow]; omega) (by decide) hκ
  · exact len_leaf (k := 32) (y := y) (by omega) (by omega) (by omega) (by simp only [Int.reducePow]) (by decide) hκ
  · exact len_leaf (k := 24) (y := y) (by omega) (by omega) (by omega) (by simp only [Int.reducePow]; omega) (by decide) hκ
  · exact len_leaf (k := 16) (y := y) (by omega) (by omega) (by omega) (by simp only [Int.reducePow]) (by decide) hκ
  · exact len_leaf (k := 8) (y := y) (by omega) (by omega) (by omega) (by simp only [Int.reducePow]) (by decide) hκ
  · exact len_leaf (k := 0) (y := y) (by omega) (by omega) (by omega) (by simp) (by decide) hκ
theorem Lead_sp {y : Int} (y0 : 0 < y) (y1 : y < 18446744073709551616) {κ : Int → Option R} (hk : ∀ s : Nat, s ≤ 63 → 9223372036854775808 ≤ y * 2 ^ s → y * 2 ^ s < 18446744073709551616 → G (κ (s : Int))) : G (b_LeadingZeros64 m y κ) := by
  unfold b_LeadingZeros64 b_LeadingZeros64_F
  refine Len_sp y0 y1 fun L h1 h2 h3 h4 => ?_
  try dsimp only
  rw [wr_in (by omega) (by omega), show (64 : Int) - (L : Int) = ((64 - L : Nat) : Int) by omega]
  have S0 : (0 : Int) < 2 ^ (64 - L) := Int.pow_pos (by decide)
  refine hk (64 - L) (by omega) ?_ ?_
  · have : (2 : Int) ^ (L - 1) * 2 ^ (64 - L) ≤ y * 2 ^ (64 - L) := Int.mul_le_mul_of_nonneg_right h3 (by omega)
    rw [← Int.pow_add, show L - 1 + (64 - L) = 63 by omega] at this
    simpa using this
  · have : y * 2 ^ (64 - L) < 2 ^ L * 2 ^ (64 - L) := Int.mul_lt_mul_of_pos_right h4 S0
    rw [← Int.pow_add, show L + (64 - L) = 64 by omega] at this
    simpa using this
structure Gs (u d y h l q r : Int) : Prop where
  hy : y = h * 4294967296 + l
  h0 : 2147483648 ≤ h
  h1 : h < 4294967296
  l0 : 0 ≤ l
  l1 : l < 4294967296
  d0 : 0 ≤ d
  d1 : d < 4294967296
  u0 : 0 ≤ u
  u1 : u < y
  r0 : 0 ≤ r
  r1 : r < 4294967296
  q0 : 0 ≤ q
  q1 : q ≤ 4294967297
  qr : q * h + r = u
  ge : u * 4294967296 + d < (q + 1) * y
theorem Gs.le {u d y h l q r : Int} (S : Gs u d y h l q r) (n1 : ¬ q ≥ 4294967296) (n2 : ¬ q * l > 4294967296 * r + d) : q = (u * 4294967296 + d) / y := by
  have hy := S.hy
  have h0 := S.h0
  have l0 := S.l0
  have e : q * y = q * h * 4294967296 + q * l := by rw [hy, Int.mul_add, Int.mul_assoc]
  have qr := S.qr
  have ge := S.ge
  rw [Int.add_mul, Int.one_mul, e] at ge
  refine ((Int.ediv_emod_unique (r := u * 4294967296 + d - q * y) (show 0 < y by omega)).2 ⟨?_, ?_, ?_⟩).1.symm
  · rw [Int.mul_comm y q]; omega
  · rw [e]; omega
  · rw [e]; omega
theorem Gs.down {u d y h l q r : Int} (S : Gs u d y h l q r) (c : q ≥ 4294967296 ∨ q * l > 4294967296 * r + d) : 1 ≤ q ∧ u * 4294967296 + d < q * y := by
  have hy := S.hy
  have h0 := S.h0
  have l0 := S.l0
  have u1 := S.u1
  have d0 := S.d0
  have d1 := S.d1
  have r0 := S.r0
  have q0 := S.q0
  rcases c with c | c
  · refine ⟨by omega, ?_⟩
    have : 4294967296 * y ≤ q * y := Int.mul_le_mul_of_nonneg_right c (by omega)
    omega
  · have e : q * y = q * h * 4294967296 + q * l := by rw [hy, Int.mul_add, Int.mul_assoc]
    have qr := S.qr
    refine ⟨?_, by rw [e]; omega⟩
    by_cases z : q = 0
    · subst z; simp at c; omega
    · omega
theorem Gs.last {u d y h l q r : Int} (S : Gs u d y h l q r) (c : q ≥ 4294967296 ∨ q * l > 4294967296 * r + d) (b : r + h ≥ 4294967296) : q - 1 = (u * 4294967296 + d) / y := by
  obtain ⟨q1, lt⟩ := S.down c
  have hy := S.hy
  have h0 := S.h0
  have l0 := S.l0
  have l1 := S.l1
  have d0 := S.d0
  have qr := S.qr
  have e : (q - 1) * y = q * h * 4294967296 - h * 4294967296 + (q - 1) * l := by rw [hy, Int.mul_add, ← Int.mul_assoc, Int.sub_mul q 1 h, Int.sub_mul (q * h)]; omega
  have e' : (q - 1) * y = q * y - y := by rw [Int.sub_mul, Int.one_mul]
  have p : (q - 1) * l ≤ 4294967296 * 4294967295 := Int.mul_le_mul (by have := S.q1; omega) (by omega) l0 (by omega)
  refine ((Int.ediv_emod_unique (r := u * 4294967296 + d - (q - 1) * y) (show 0 < y by omega)).2 ⟨?_, ?_, ?_⟩).1.symm
  · rw [Int.mul_comm y (q - 1)]; omega
  · rw [e]; omega
  · rw [e']; omega
theorem Gs.next {u d y h l q r : Int} (S : Gs u d y h l q r) (c : q ≥ 4294967296 ∨ q * l > 4294967296 * r + d) (b : ¬ r + h ≥ 4294967296) : Gs u d y h l (q - 1) (r + h) := by
  obtain ⟨q1, lt⟩ := S.down c
  have h0 := S.h0
  exact ⟨S.hy, S.h0, S.h1, S.l0, S.l1, S.d0, S.d1, S.u0, S.u1, by have := S.r0; omega, by omega, by omega, by have := S.q1; omega, by rw [Int.sub_mul, Int.one_mul]; have := S.qr; omega, by rw [show q - 1 + 1 = q by omega]; exact lt⟩
theorem Gs.first {u d y h l : Int} (hy : y = h * 4294967296 + l) (h0 : 2147483648 ≤ h) (h1 : h < 4294967296) (l0 : 0 ≤ l) (l1 : l < 4294967296) (d0 : 0 ≤ d) (d1 : d < 4294967296) (u0 : 0 ≤ u) (u1 : u < y) : Gs u d y h l (u / h) (u % h) := by
  have m := Int.emod_add_mul_ediv u h
  have r0 := Int.emod_nonneg u (show h ≠ 0 by omega)
  have r1 := Int.emod_lt_of_pos u (show 0 < h by omega)
  have q0 := Int.ediv_nonneg u0 (show 0 ≤ h by omega)
  have q1 : u / h ≤ 4294967297 := by
    by_cases w : u / h ≤ 4294967297
    · exact w
    · have : h * 4294967298 ≤ h * (u / h) := Int.mul_le_mul_of_nonneg_left (by omega) (by omega)
      omega
  refine ⟨hy, h0, h1, l0, l1, d0, d1, u0, u1, r0, by omega, q0, q1, by rw [Int.mul_comm]; omega, ?_⟩
  have e : (u / h + 1) * y = (h * (u / h) + h) * 4294967296 + (u / h + 1) * l := by rw [hy, Int.mul_add, ← Int.mul_assoc, Int.add_mul (u / h) 1 h, Int.one_mul, Int.mul_comm (u / h) h]
  have : 0 ≤ (u / h + 1) * l := Int.mul_nonneg (by omega) l0
  rw [e]; omega
theorem cond_is {u d y h l q r : Int} (S : Gs u d y h l q r) (z : ¬ q ≥ 4294967296) : wr .u64 (wr .u64 (4294967296 * r) + d) = 4294967296 * r + d ∧ wr .u64 (q * l) = q * l := by
  have l0 := S.l0; have l1 := S.l1; have r0 := S.r0; have r1 := S.r1; have d0 := S.d0; have d1 := S.d1; have q0 := S.q0
  have p0 : 0 ≤ q * l := Int.mul_nonneg q0 l0
  have p1 : q * l ≤ 4294967295 * 4294967295 := Int.mul_le_mul (by omega) (by omega) l0 (by omega)
  exact ⟨by rw [wr_u, wr_u]; omega, wr_uin p0 (by omega)⟩
theorem div_L0 {u d y h l : Int} {x0 x1 x2 x6 : Int} {e0 : Int → Int → Int → Int → Int → Int → Int → Int → Option R} (he : G (e0 x0 x1 x2 ((u * 4294967296 + d) / y) h l d x6)) :
    ∀ (k : Nat) (q r : Int) (j : Nat), k < j → 4294967296 - r ≤ k * 2147483648 → Gs u d y h l q r → G (b_Div64_L0 m e0 j x0 x1 x2 h l d x6 r q) := by
  intro k
  induction k with
  | zero => intro q r j hj hm S; have := S.r1; omega
  | succ k ih =>
    intro q r j hj hm S
    obtain ⟨j, rfl⟩ : ∃ i, j = i + 1 := ⟨j - 1, by omega⟩
    have h0 := S.h0; have h1 := S.h1; have r0 := S.r0; have r1 := S.r1; have q0 := S.q0; have q1 := S.q1
    rw [b_Div64_L0s]; unfold b_Div64_S0
    try dsimp only
    rw [wr_uin (a := r + h) (by omega) (by omega)]
    have down : (q ≥ 4294967296 ∨ q * l > 4294967296 * r + d) → G (br (leI 4294967296 (r + h)) (e0 x0 x1 x2 (wr .u64 (q - 1)) h l d x6) (b_Div64_L0 m e0 j x0 x1 x2 h l d x6 (r + h) (wr .u64 (q - 1)))) := by
      intro c
      have dn := S.down c
      rw [wr_uin (a := q - 1) (by omega) (by omega)]
      refine br_sp (fun b => ?_) (fun b => ?_)
      · have b := leI_t.1 b
        rw [S.last c b]; exact he
      · have b := leI_f.1 b
        exact ih _ _ j (by omega) (by omega) (S.next c (by omega))
    refine br_sp (fun c => down (.inl (leI_t.1 c))) (fun c => ?_)
    have c := leI_f.1 c
    obtain ⟨e1, e2⟩ := cond_is S (by omega)
    rw [e1, e2]
    refine br_sp (fun c2 => down (.inr (ltI_t.1 c2))) (fun c2 => ?_)
    have c2 := ltI_f.1 c2
    have := S.le (by omega) (by omega)
    rw [← this] at he; exact he
theorem div_L1 {u d y h l : Int} {x0 x1 x3 x4 : Int} {e2 : Int → Int → Int → Int → Int → Int → Option R} (he : G (e2 x0 x1 ((u * 4294967296 + d) / y) d x3 x4)) :
    ∀ (k : Nat) (q r : Int) (j : Nat), k < j → 4294967296 - r ≤ k * 2147483648 → Gs u d y h l q r → G (b_Div64_L1 m e2 j x0 x1 d x3 x4 h r q l) := by
  intro k
  induction k with
  | zero => intro q r j hj hm S; have := S.r1; omega
  | succ k ih =>
    intro q r j hj hm S
    obtain ⟨j, rfl⟩ : ∃ i, j = i + 1 := ⟨j - 1, by omega⟩
    have h0 := S.h0; have h1 := S.h1; have r0 := S.r0; have r1 := S.r1; have q0 := S.q0; have q1 := S.q1
    rw [b_Div64_L1s]; unfold b_Div64_S1
    try dsimp only
    rw [wr_uin (a := r + h) (by omega) (by omega)]
    have down : (q ≥ 4294967296 ∨ q * l > 4294967296 * r + d) → G (br (leI 4294967296 (r + h)) (e2 x0 x1 (wr .u64 (q - 1)) d x3 x4) (b_Div64_L1 m e2 j x0 x1 d x3 x4 h (r + h) (wr .u64 (q - 1)) l)) := by
      intro c
      have dn := S.down c
      rw [wr_uin (a := q - 1) (by omega) (by omega)]
      refine br_sp (fun b => ?_) (fun b => ?_)
      · have b := leI_t.1 b
        rw [S.last c b]; exact he
      · have b := leI_f.1 b
        exact ih _ _ j (by omega) (by omega) (S.next c (by omega))
    refine br_sp (fun c => down (.inl (leI_t.1 c))) (fun c => ?_)
    have c := leI_f.1 c
    obtain ⟨e1, e2'⟩ := cond_is S (by omega)
    rw [e1, e2']
    refine br_sp (fun c2 => down (.inr (ltI_t.1 c2))) (fun c2 => ?_)
    have c2 := ltI_f.1 c2
    have := S.le (by omega) (by omega)
    rw [← this] at he; exact he
theorem rest_is (u d Y : Int) (Y0 : 0 < Y) (Y1 : Y < 18446744073709551616) : wr .u64 (wr .u64 (wr .u64 (u * 4294967296) + d) - wr .u64 ((u * 4294967296 + d) / Y * Y)) = (u * 4294967296 + d) % Y := by
  have m := Int.emod_add_mul_ediv (u * 4294967296 + d) Y
  have r0 := Int.emod_nonneg (u * 4294967296 + d) (show Y ≠ 0 by omega)
  have r1 := Int.emod_lt_of_pos (u * 4294967296 + d) Y0
  rw [Int.mul_comm Y] at m
  generalize (u * 4294967296 + d) / Y * Y = P at *
  generalize (u * 4294967296 + d) % Y = R at *
  rw [wr_u, wr_u, wr_u, wr_u]
  omega
theorem digit_lt {u d Y : Int} (Y0 : 0 < Y) (u0 : 0 ≤ u) (u1 : u < Y) (d0 : 0 ≤ d) (d1 : d < 4294967296) : 0 ≤ (u * 4294967296 + d) / Y ∧ (u * 4294967296 + d) / Y < 4294967296 :=
  ⟨Int.ediv_nonneg (by omega) (by omega), Int.ediv_lt_of_lt_mul Y0 (by omega)⟩
theorem long_div {N y Y u a b S : Int} (S0 : 0 < S) (y0 : 0 < y) (hY : Y = y * S) (hN : N * S = u * 18446744073709551616 + a * 4294967296 + b) (Y0 : 0 < Y) :
    (u * 4294967296 + a) / Y * 4294967296 + ((u * 4294967296 + a) % Y * 4294967296 + b) / Y = N / y ∧ ((u * 4294967296 + a) % Y * 4294967296 + b) % Y = N % y * S := by
  have m1 := Int.emod_add_mul_ediv (u * 4294967296 + a) Y
  generalize (u * 4294967296 + a) / Y = q1 at *
  generalize (u * 4294967296 + a) % Y = v at *
  have m2 := Int.emod_add_mul_ediv (v * 4294967296 + b) Y
  have r0 := Int.emod_nonneg (v * 4294967296 + b) (show Y ≠ 0 by omega)
  have r1 := Int.emod_lt_of_pos (v * 4294967296 + b) Y0
  generalize (v * 4294967296 + b) / Y = q2 at *
  generalize (v * 4294967296 + b) % Y = r at *
  have e : N * S = Y * (q1 * 4294967296 + q2) + r := by
    rw [hN, Int.mul_add Y, ← Int.mul_assoc]; omega
  have e2 : (N - y * (q1 * 4294967296 + q2)) * S = r := by
    rw [Int.sub_mul, e, hY, Int.mul_right_comm]; omega
  have p0 : 0 ≤ N - y * (q1 * 4294967296 + q2) := by
    by_cases w : 0 ≤ N - y * (q1 * 4294967296 + q2)
    · exact w
    · have : (N - y * (q1 * 4294967296 + q2)) * S < 0 := Int.mul_neg_of_neg_of_pos (by omega) S0
      omega
  have p1 : N - y * (q1 * 4294967296 + q2) < y := by
    by_cases w : N - y * (q1 * 4294967296 + q2) < y
    · exact w
    · have : y * S ≤ (N - y * (q1 * 4294967296 + q2)) * S := Int.mul_le_mul_of_nonneg_right (by omega) (by omega)
      omega
  have := (Int.ediv_emod_unique (a := N) (b := y) (r := N - y * (q1 * 4294967296 + q2)) (q := q1 * 4294967296 + q2) y0).2 ⟨by omega, p0, p1⟩
  exact ⟨this.1.symm, by rw [this.2, e2]⟩
theorem or_shl (x d : Int) (s : Nat) (hx : 0 ≤ x) (hx' : x * 2 ^ s < 18446744073709551616) (h0 : 0 ≤ d) (h1 : d < 2 ^ s) (hs : s ≤ 64) : orI .u64 (x * 2 ^ s) d = x * 2 ^ s + d := by
  obtain ⟨n, rfl⟩ := Int.eq_ofNat_of_zero_le hx
  obtain ⟨m, rfl⟩ := Int.eq_ofNat_of_zero_le h0
  have hm : m < 2 ^ s := by exact_mod_cast h1
  have hp : (n : Int) * 2 ^ s = ((n * 2 ^ s : Nat) : Int) := by simp
  have hn : n * 2 ^ s < 18446744073709551616 := Int.ofNat_lt.1 (by rw [← hp]; exact hx')
  have ht : 2 ^ s ≤ 18446744073709551616 := Nat.pow_le_pow_right (n := 2) (by decide) hs
  have aux : ∀ q : Nat, q < 18446744073709551616 → (BitVec.ofInt 64 (q : Int)).toNat = q := fun q hq => by simp [BitVec.toNat_ofInt]; omega
  have e : (BitVec.ofInt 64 ((n * 2 ^ s : Nat) : Int) ||| BitVec.ofInt 64 (m : Int)).toNat = n * 2 ^ s + m := by
    rw [BitVec.toNat_or, aux _ hn, aux _ (by omega), Nat.mul_comm n]
    exact (Nat.two_pow_add_eq_or_of_lt hm n).symm
  have hlt : n * 2 ^ s + m < 18446744073709551616 := by
    rw [← e]; exact BitVec.isLt _
  have : orI .u64 ((n * 2 ^ s : Nat) : Int) (m : Int) = IntKind.u64.wrap ((BitVec.ofInt 64 ((n * 2 ^ s : Nat) : Int) ||| BitVec.ofInt 64 (m : Int)).toNat : Int) := rfl
  rw [hp, this, e, u64_is]
  omega
theorem shl_is (x : Int) (s : Nat) (hs : s ≤ 63) : shlI .u64 x (s : Int) = x * 2 ^ s % 18446744073709551616 := by
  show wr .u64 (x * ((2 ^ (Nat.min s 64) : Nat) : Int)) = _
  have e : Nat.min s 64 = s := Nat.min_eq_left (by omega)
  rw [e, wr_u]; simp
theorem shr_is (x : Int) (s : Nat) (hs : s ≤ 64) : shrI .u64 x (s : Int) = x / 2 ^ s := by
  show Int.fdiv x ((2 ^ (Nat.min s 64) : Nat) : Int) = _
  have e : Nat.min s 64 = s := Nat.min_eq_left (by omega)
  rw [e, Int.fdiv_eq_ediv_of_nonneg _ (Int.natCast_nonneg _)]
  simp
theorem head_is {u h : Int} (u0 : 0 ≤ u) (u1 : u < 18446744073709551616) (g0 : 0 < h) : wr .u64 (Int.tdiv u h) = u / h ∧ wr .u64 (u - wr .u64 (u / h * h)) = u % h := by
  have q0 := Int.ediv_nonneg u0 (show 0 ≤ h by omega)
  have q1 := Int.ediv_le_self h u0
  have m := Int.emod_add_mul_ediv u h
  have r0 := Int.emod_nonneg u (show h ≠ 0 by omega)
  have r1 := Int.emod_lt_of_pos u g0
  rw [Int.mul_comm h] at m
  have p0 : 0 ≤ u / h * h := Int.mul_nonneg q0 (by omega)
  refine ⟨by rw [Int.tdiv_eq_ediv_of_nonneg u0]; exact wr_uin q0 (by omega), ?_⟩
  generalize u / h * h = P at *
  generalize u % h = V at *
  rw [wr_u, wr_u]; omega
theorem Div64_sp {hi lo y : Int} (hm : 1000001 ≤ m) (h0 : 0 ≤ hi) (h1 : hi < y) (l0 : 0 ≤ lo) (l1 : lo < 18446744073709551616) (y1 : y < 18446744073709551616) {κ : Int → Int → Option R}
    (hk : G (κ ((hi * 18446744073709551616 + lo) / y) ((hi * 18446744073709551616 + lo) % y))) : G (b_Div64 m hi lo y κ) := by
  unfold b_Div64 b_Div64_F
  refine br_sp (fun c => absurd (eqI_t.1 c) (by omega)) (fun c => br_sp (fun c => absurd (leI_t.1 c) (by omega)) (fun c => br_sp (fun z => ?_) (fun z => ?_)))
  · have z := eqI_t.1 z
    subst z
    have q0 := Int.ediv_nonneg l0 (show 0 ≤ y by omega)
    have q1 := Int.ediv_le_self y l0
    have ny : (!(eqI y 0)) = true := by rw [eqI_f.2 (by omega)]; rfl
    try dsimp only
    rw [Int.tdiv_eq_ediv_of_nonneg l0, Int.tmod_eq_emod_of_nonneg l0, wr_uin q0 (by omega)]
    rw [Int.zero_mul, Int.zero_add] at hk
    exact br_g ny (br_g ny hk)
  · have z := eqI_f.1 z
    refine Lead_sp (by omega) y1 fun s hs n0 n1 => ?_
    have S0 : (0 : Int) < 2 ^ s := Int.pow_pos (by decide)
    have T0 : (0 : Int) < 2 ^ (64 - s) := Int.pow_pos (by decide)
    have ST : (2 : Int) ^ s * 2 ^ (64 - s) = 18446744073709551616 := by rw [← Int.pow_add, show s + (64 - s) = 64 by omega]; rfl
    have e1 : wr .u64 (s : Int) = (s : Int) := by rw [wr_u]; omega
    have e2 : wr .u64 (64 - (s : Int)) = ((64 - s : Nat) : Int) := by rw [wr_u]; omega
    have eY : shlI .u64 y (s : Int) = y * 2 ^ s := by rw [shl_is y s hs]; exact Int.emod_eq_of_lt (by omega) n1
    have hlt : hi * 2 ^ s < y * 2 ^ s := Int.mul_lt_mul_of_pos_right h1 S0
    have h0' : 0 ≤ hi * 2 ^ s := Int.mul_nonneg h0 (by omega)
    have eH : shlI .u64 hi (s : Int) = hi * 2 ^ s := by rw [shl_is hi s hs]; exact Int.emod_eq_of_lt h0' (by omega)
    have eL : shlI .u64 lo (s : Int) = lo * 2 ^ s % 18446744073709551616 := shl_is lo s hs
    have eT : shrI .u64 lo ((64 - s : Nat) : Int) = lo / 2 ^ (64 - s) := shr_is lo (64 - s) (by omega)
    have t0 : 0 ≤ lo / 2 ^ (64 - s) := Int.ediv_nonneg l0 (by omega)
    have t1 : lo / 2 ^ (64 - s) < 2 ^ s := Int.ediv_lt_of_lt_mul T0 (by rw [ST]; exact l1)
    have eU := or_shl hi (lo / 2 ^ (64 - s)) s h0 (by omega) t0 t1 (by omega)
    have hu1 : hi * 2 ^ s + lo / 2 ^ (64 - s) < y * 2 ^ s := by
      have : (hi + 1) * 2 ^ s ≤ y * 2 ^ s := Int.mul_le_mul_of_nonneg_right (by omega) (by omega)
      rw [Int.add_mul, Int.one_mul] at this
      omega
    have hN : (hi * 18446744073709551616 + lo) * 2 ^ s = (hi * 2 ^ s + lo / 2 ^ (64 - s)) * 18446744073709551616 + (lo * 2 ^ s % 18446744073709551616) := by
      have d : lo * 2 ^ s / 18446744073709551616 = lo / 2 ^ (64 - s) := by
        rw [← ST, Int.mul_comm (2 ^ s) (2 ^ (64 - s))]
        exact Int.mul_ediv_mul_of_pos_left _ _ S0
      have := Int.emod_add_mul_ediv (lo * 2 ^ s) 18446744073709551616
      rw [d] at this
      rw [Int.add_mul, Int.mul_right_comm, Int.add_mul]
      omega
    have b0 := Int.emod_nonneg (lo * 2 ^ s) (show (18446744073709551616 : Int) ≠ 0 by decide)
    have b1 := Int.emod_lt_of_pos (lo * 2 ^ s) (show (0 : Int) < 18446744073709551616 by decide)
    have hY : y * 2 ^ s = y * 2 ^ s := rfl
    generalize hYY : y * 2 ^ s = Y at *
    generalize hi * 2 ^ s + lo / 2 ^ (64 - s) = u at *
    generalize lo * 2 ^ s % 18446744073709551616 = B at *
    have u0 : 0 ≤ u := by
      by_cases w : 0 ≤ u
      · exact w
      · have : 0 ≤ (hi * 18446744073709551616 + lo) * 2 ^ s := Int.mul_nonneg (by omega) (by omega)
        omega
    try dsimp only
    have e1' : wr .u64 (wr .u64 ((s : Nat) : Int)) = (s : Int) := by rw [e1, e1]
    simp only [e1, e2, eY, eH, eL, eT, eU, shr32]
    rw [and_half Y (by omega) n1, and_half B b0 b1]
    have g0 : 0 < Y / 4294967296 := by omega
    obtain ⟨w1, w2⟩ := head_is (u := u) (h := Y / 4294967296) u0 (by omega) g0
    rw [w1, w2]
    have gs : leI 0 ((s : Nat) : Int) = true := leI_t.2 (by omega)
    have gh : (!(eqI (Y / 4294967296) 0)) = true := by rw [eqI_f.2 (by omega)]; rfl
    refine br_g gs (br_g gs (br_g (leI_t.2 (by omega)) (br_g gs (br_g gh ?_))))
    have S1 := Gs.first (u := u) (d := B / 4294967296) (y := Y) (h := Y / 4294967296) (l := Y % 4294967296) (by omega) (by omega) (by omega) (by omega) (by omega) (by omega) (by omega) u0 hu1
    refine div_L0 ?_ 3 _ _ m (by omega) (by have := S1.r0; omega) S1
    have rs := rest_is u (B / 4294967296) Y (by omega) n1
    have v0 := Int.emod_nonneg (u * 4294967296 + B / 4294967296) (show Y ≠ 0 by omega)
    have v1 := Int.emod_lt_of_pos (u * 4294967296 + B / 4294967296) (show 0 < Y by omega)
    have q1 := digit_lt (Y := Y) (by omega) u0 hu1 (show 0 ≤ B / 4294967296 by omega) (show B / 4294967296 < 4294967296 by omega)
    have ld := long_div (N := hi * 18446744073709551616 + lo) (y := y) (Y := Y) (u := u) (a := B / 4294967296) (b := B % 4294967296) S0 (by omega) hYY.symm (by omega) (by omega)
    try dsimp only
    rw [rs]
    generalize (u * 4294967296 + B / 4294967296) / Y = q at *
    generalize (u * 4294967296 + B / 4294967296) % Y = v at *
    obtain ⟨w3, w4⟩ := head_is (u := v) (h := Y / 4294967296) v0 (by omega) g0
    rw [w3, w4]
    refine br_g gh ?_
    have S2 := Gs.first (u := v) (d := B % 4294967296) (y := Y) (h := Y / 4294967296) (l := Y % 4294967296) (by omega) (by omega) (by omega) (by omega) (by omega) (by omega) (by omega) v0 v1
    refine div_L1 ?_ 3 _ _ m (by omega) (by have := S2.r0; omega) S2
    have q2 := digit_lt (Y := Y) (by omega) v0 v1 (show 0 ≤ B % 4294967296 by omega) (show B % 4294967296 < 4294967296 by omega)
    have rs2 := rest_is v (B % 4294967296) Y (by omega) n1
    try dsimp only
    refine br_g gs ?_
    rw [rs2, shr_is _ s (by omega), ld.2, Int.mul_ediv_cancel _ (by omega)]
    have e9 : wr .u64 (wr .u64 (q * 4294967296) + (v * 4294967296 + B % 4294967296) / Y) = (hi * 18446744073709551616 + lo) / y := by
      rw [← ld.1, wr_u, wr_u]
      generalize (v * 4294967296 + B % 4294967296) / Y = q' at *
      omega
    rw [e9]
    exact hk
theorem fits_le {t v : Int} (h : fits t v = true) : -4503599627370496 ≤ v ∧ v ≤ 4503599627370496 := by
  unfold fits at h
  split at h
  · have := of_decide_eq_true h; omega
  · split at h
    · exact of_decide_eq_true h
    · split at h
      · have := of_decide_eq_true h; omega
      · split at h
        · have := of_decide_eq_true h; omega
        · cases h
theorem mul_bound {a b : Int} (a0 : -4503599627370496 ≤ a) (a1 : a ≤ 4503599627370496) (b0 : -4503599627370496 ≤ b) (b1 : b ≤ 4503599627370496) : -20282409603651670423947251286016 ≤ a * b ∧ a * b ≤ 20282409603651670423947251286016 := by
  have h := Int.natAbs_mul a b
  have : a.natAbs * b.natAbs ≤ 4503599627370496 * 4503599627370496 := Nat.mul_le_mul (by omega) (by omega)
  omega
end Go.Pm
namespace Go.Pm
open Go Go.EvM Go.Pv
set_option linter.unusedVariables false
set_option linter.unusedSimpArgs false
variable {R : Type} {G : Option R → Prop} {m : Nat}
theorem Sub_sp {x y b : Int} (x0 : 0 ≤ x) (x1 : x < 18446744073709551616) (y0 : 0 ≤ y) (y1 : y < 18446744073709551616) (b0 : 0 ≤ b) (b1 : b ≤ 1) {κ : Int → Int → Option R} (hk : G (κ ((x - y - b) % 18446744073709551616) (if x < y + b then 1 else 0))) : G (b_Sub64 m x y b κ) := by
  obtain ⟨x, rfl⟩ := Int.eq_ofNat_of_zero_le x0
  obtain ⟨y, rfl⟩ := Int.eq_ofNat_of_zero_le y0
  obtain ⟨b, rfl⟩ := Int.eq_ofNat_of_zero_le b0
  show G (bif Nat.ble b 1 then κ (.ofNat ((x + 18446744073709551616 - y - b) % 18446744073709551616)) (.ofNat (if x < y + b then 1 else 0)) else none)
  rw [Nat.ble_eq_true_of_le (show b ≤ 1 by omega)]
  show G (κ (((x + 18446744073709551616 - y - b) % 18446744073709551616 : Nat) : Int) ((if x < y + b then 1 else 0 : Nat) : Int))
  rw [show (((x + 18446744073709551616 - y - b) % 18446744073709551616 : Nat) : Int) = ((x : Int) - y - b) % 18446744073709551616 by omega]
  by_cases h : x < y + b
  · rw [if_pos h]; rw [if_pos (by omega)] at hk; exact hk
  · rw [if_neg h]; rw [if_neg (by omega)] at hk; exact hk
theorem Add_sp64 {x y b : Int} (x0 : 0 ≤ x) (y0 : 0 ≤ y) (b0 : 0 ≤ b) (b1 : b ≤ 1) {κ : Int → Int → Option R} (hk : G (κ ((x + y + b) % 18446744073709551616) ((x + y + b) / 18446744073709551616))) : G (b_Add64 m x y b κ) := by
  obtain ⟨x, rfl⟩ := Int.eq_ofNat_of_zero_le x0
  obtain ⟨y, rfl⟩ := Int.eq_ofNat_of_zero_le y0
  obtain ⟨b, rfl⟩ := Int.eq_ofNat_of_zero_le b0
  show G (bif Nat.ble b 1 then κ (.ofNat ((x + y + b) % 18446744073709551616)) (.ofNat ((x + y + b) / 18446744073709551616)) else none)
  rw [Nat.ble_eq_true_of_le (show b ≤ 1 by omega)]
  exact hk
theorem turned_sp {W : Int} (h0 : -85070591730234615865843651857942052864 ≤ W) (h1 : W ≤ 85070591730234615865843651857942052864) {κ : TnumWide → Option R} (hk : G (κ (wide (-W)))) : G (num_Wide_turned m (wide W) κ) := by
  unfold num_Wide_turned num_Wide_turned_F
  show G (b_Sub64 m 0 (W % 18446744073709551616) 0 fun r10_0 r10_1 => b_Sub64 m 0 (wr .u64 (W / 18446744073709551616)) r10_1 fun r18_0 r18_1 => κ ⟨wr .i64 r18_0, r10_0⟩)
  refine Sub_sp (by omega) (by omega) (by omega) (by omega) (by omega) (by omega) (Sub_sp (by omega) (by omega) (by rw [wr_u]; omega) (by rw [wr_u]; omega) (by split <;> omega) (by split <;> omega) ?_)
  rw [wr_u, wr_i]
  unfold wide at hk
  rw [show (0 - W % 18446744073709551616 - 0) % 18446744073709551616 = -W % 18446744073709551616 by omega]
  refine Eq.mp (congrArg (fun q => G (κ ⟨q, _⟩)) ?_) hk
  split <;> omega
theorem less_one_sp {W : Int} (h0 : -85070591730234615865843651857942052864 ≤ W) (h1 : W ≤ 0) {κ : TnumWide → Bool → Option R} (hk : G (κ (wide (W - 1)) true)) : G (num_Wide_Plus m (wide W) (wide (-1)) κ) := by
  unfold num_Wide_Plus num_Wide_Plus_F
  show G (b_Add64 m (W % 18446744073709551616) 18446744073709551615 0 fun r16_0 r16_1 => b_Add64 m (wr .u64 (W / 18446744073709551616)) (wr .u64 (-1)) r16_1 fun r27_0 r27_1 =>
    br (eqB (ltI (W / 18446744073709551616) 0) (ltI (-1) 0)) (br (!(eqB (ltI (wr .i64 r27_0) 0) (ltI (W / 18446744073709551616) 0))) (κ ⟨0, 0⟩ false) (κ ⟨wr .i64 r27_0, r16_0⟩ true)) (κ ⟨wr .i64 r27_0, r16_0⟩ true))
  refine Add_sp64 (by omega) (by omega) (by omega) (by omega) (Add_sp64 (by rw [wr_u]; omega) (by rw [wr_u]; omega) (by omega) (by omega) ?_)
  rw [wr_u, wr_u]
  have e : wr .i64 (((W / 18446744073709551616) % 18446744073709551616 + (-1) % 18446744073709551616 + (W % 18446744073709551616 + 18446744073709551615 + 0) / 18446744073709551616) % 18446744073709551616) = (W - 1) / 18446744073709551616 := by
    rw [wr_i]; omega
  rw [e, show (W % 18446744073709551616 + 18446744073709551615 + 0) % 18446744073709551616 = (W - 1) % 18446744073709551616 by omega]
  refine br_sp (fun c => ?_) (fun _ => hk)
  have w : W / 18446744073709551616 < 0 := by
    by_cases w : W / 18446744073709551616 < 0
    · exact w
    · rw [ltI_f.2 (show (0 : Int) ≤ W / 18446744073709551616 by omega)] at c; exact nomatch c
  rw [ltI_t.2 w, ltI_t.2 (show (W - 1) / 18446744073709551616 < 0 by omega)]
  exact hk
theorem nOf_sp {κ : TnumWide → Option R} (hk : G (κ (wide (-1)))) : G (num_Of m (-1) κ) := by
  unfold num_Of num_Of_F
  have e : (⟨shrI .i64 (-1) 63, wr .u64 (-1)⟩ : TnumWide) = wide (-1) := by
    rw [shr63, wr_u]; rfl
  show G (κ ⟨shrI .i64 (-1) 63, wr .u64 (-1)⟩)
  rw [e]; exact hk
theorem wFloor_sp {W d : Int} (hm : 1000001 ≤ m) (h0 : -85070591730234615865843651857942052864 ≤ W) (h1 : W ≤ 85070591730234615865843651857942052864) (d0 : 1 ≤ d) (d1 : d ≤ 9223372036854775807) {κ : Int → Bool → Option R}
    (hk : G (κ (whole (W / d)).1 (whole (W / d)).2)) : G (num_Wide_Floor m (wide W) d κ) := by
  have core : ∀ V : Int, 0 ≤ V → V ≤ 85070591730234615865843651857942052864 → (V = W ∨ V = -W ∧ W < 0) → (0 ≤ W → V = W) →
      G (br (leI (wr .u64 d) (wr .u64 (V / 18446744073709551616))) (κ 0 false) (b_Div64 m (wr .u64 (V / 18446744073709551616)) (V % 18446744073709551616) (wr .u64 d) (fun r33_0 r33_1 =>
        br (leI 0 (W / 18446744073709551616)) (num_narrow m ⟨0, r33_0⟩ (fun r41_0 r41_1 => κ r41_0 r41_1))
        (num_Wide_turned m ⟨0, r33_0⟩ (fun r46 => br (ltI 0 r33_1) (num_Of m (-1) (fun r51 => num_Wide_Plus m r46 r51 (fun r52_0 r52_1 => num_narrow m r52_0 (fun r56_0 r56_1 => κ r56_0 r56_1))))
          (num_narrow m r46 (fun r56_0 r56_1 => κ r56_0 r56_1))))))) := by
    intro V v0 v1 hV hV'
    rw [wr_uin (a := d) (by omega) (by omega), wr_uin (a := V / 18446744073709551616) (by omega) (by omega)]
    refine br_sp (fun big => ?_) (fun big => ?_)
    · have big := leI_t.1 big
      have : whole (W / d) = (0, false) := by
        refine whole_out ?_
        rintro ⟨w0, w1⟩
        have m := Int.emod_add_mul_ediv W d
        have r0 := Int.emod_nonneg W (show d ≠ 0 by omega)
        have r1 := Int.emod_lt_of_pos W (show 0 < d by omega)
        have p0 : d * (-9223372036854775808) ≤ d * (W / d) := Int.mul_le_mul_of_nonneg_left w0 (by omega)
        have p1 : d * (W / d) ≤ d * 9223372036854775807 := Int.mul_le_mul_of_nonneg_left w1 (by omega)
        omega
      rw [this] at hk; exact hk
    · have big := leI_f.1 big
      have q0 := Int.ediv_nonneg v0 (show 0 ≤ d by omega)
      have q1 := Int.ediv_le_self d v0
      have r0 := Int.emod_nonneg V (show d ≠ 0 by omega)
      have q2 : V / d < 18446744073709551616 := Int.ediv_lt_of_lt_mul (by omega) (by omega)
      refine Div64_sp hm (by omega) (by omega) (by omega) (by omega) (by omega) ?_
      rw [show V / 18446744073709551616 * 18446744073709551616 + V % 18446744073709551616 = V by omega]
      have ew : (⟨0, V / d⟩ : TnumWide) = wide (V / d) := by
        unfold wide
        rw [show V / d / 18446744073709551616 = 0 by omega, show V / d % 18446744073709551616 = V / d by omega]
      rw [ew]
      refine br_sp (fun sg => ?_) (fun sg => ?_)
      · have sg := leI_t.1 sg
        have e := hV' (by omega)
        subst e
        exact narrow_sp (by omega) (by omega) hk
      · have sg := leI_f.1 sg
        have e : V = -W := by omega
        have fd : W / d = -(V / d) - (if V % d > 0 then 1 else 0) := by
          have hW : W = -V := by omega
          rw [hW, Int.neg_ediv]
          by_cases w : d ∣ V
          · rw [if_pos w, if_neg (by have := Int.emod_eq_zero_of_dvd w; omega)]
          · have : V % d ≠ 0 := fun q => w (Int.dvd_of_emod_eq_zero q)
            rw [if_neg w, if_pos (by omega), Int.sign_eq_one_of_pos (by omega)]
        refine turned_sp (by omega) (by omega) (br_sp (fun w => ?_) (fun w => ?_))
        · have w := ltI_t.1 w
          rw [if_pos w] at fd
          rw [fd] at hk
          exact nOf_sp (less_one_sp (by omega) (by omega) (narrow_sp (by omega) (by omega) hk))
        · have w := ltI_f.1 w
          rw [if_neg (by omega), Int.sub_zero] at fd
          rw [fd] at hk
          exact narrow_sp (by omega) (by omega) hk
  unfold num_Wide_Floor num_Wide_Floor_F
  refine br_sp (fun c => absurd (ltI_t.1 c) (by omega)) (fun _ => br_sp (fun sg => ?_) (fun sg => ?_))
  · have sg : W / 18446744073709551616 < 0 := ltI_t.1 sg
    exact turned_sp h0 h1 (core (-W) (by omega) (by omega) (.inr ⟨rfl, by omega⟩) (by omega))
  · have sg : 0 ≤ W / 18446744073709551616 := ltI_f.1 sg
    exact core W (by omega) h1 (.inl rfl) (fun _ => rfl)
theorem MulFloor_sp {a b d : Int} (hm : 1000001 ≤ m) (a0 : -9223372036854775808 ≤ a) (a1 : a ≤ 9223372036854775807) (b0 : -9223372036854775808 ≤ b) (b1 : b ≤ 9223372036854775807) (p0 : -85070591730234615865843651857942052864 ≤ a * b) (p1 : a * b ≤ 85070591730234615865843651857942052864)
    (d0 : 1 ≤ d) (d1 : d ≤ 9223372036854775807) {κ : Int → Bool → Option R} (hk : G (κ (whole (a * b / d)).1 (whole (a * b / d)).2)) : G (num_MulFloor m a b d κ) := by
  unfold num_MulFloor num_MulFloor_F
  exact product_sp a0 a1 b0 b1 p0 p1 (wFloor_sp hm p0 p1 d0 d1 hk)
theorem nFloor_sp {a b : Int} (hb : b ≠ 0) (a0 : -4503599627370496 ≤ a) (a1 : a ≤ 4503599627370496) (b0 : -4503599627370496 ≤ b) (b1 : b ≤ 4503599627370496) {κ : Int → Bool → Option R}
    (hk : G (κ (whole (Int.fdiv a b)).1 (whole (Int.fdiv a b)).2)) : G (num_Floor m a b κ) := by
  have t0 : -4503599627370496 ≤ Int.tdiv a b ∧ Int.tdiv a b ≤ 4503599627370496 := by
    have h1 := Int.natAbs_tdiv_le_natAbs a b
    omega
  have fd := Int.fdiv_eq_tdiv (a := a) (b := b)
  have nb : (!(eqI b 0)) = true := by rw [eqI_f.2 hb]; rfl
  unfold num_Floor num_Floor_F
  refine br_sp (fun c => absurd (eqI_t.1 c) hb) (fun _ => br_sp (fun c => absurd (eqI_t.1 c) (by omega)) (fun _ => br_g nb ?_))
  try dsimp only
  rw [wr_in (n := Int.tdiv a b) (by omega) (by omega), wr_in (n := Int.tdiv a b - 1) (by omega) (by omega)]
  refine br_g nb (br_sp (fun z => ?_) (fun z => ?_))
  · have z : Int.tmod a b ≠ 0 := by
      intro h; rw [eqI_t.2 h] at z; exact nomatch z
    rw [if_neg (fun q => z (Int.dvd_iff_tmod_eq_zero.1 q))] at fd
    by_cases sa : a < 0 <;> by_cases sb : b < 0
    · rw [if_neg (by omega), if_neg (by omega), Int.sign_eq_neg_one_of_neg sb] at fd
      rw [whole_in (by omega), fd, show Int.tdiv a b - (1 + -1) = Int.tdiv a b by omega] at hk
      rw [ltI_t.2 sa, ltI_t.2 sb]; exact hk
    · rw [if_neg (by omega), if_pos (by omega), Int.sign_eq_one_of_pos (by omega)] at fd
      rw [whole_in (by omega), fd] at hk
      rw [ltI_t.2 sa, ltI_f.2 (by omega)]; exact hk
    · rw [if_pos (by omega), if_neg (by omega)] at fd
      rw [whole_in (by omega), fd] at hk
      rw [ltI_f.2 (by omega), ltI_t.2 sb]; exact hk
    · rw [if_pos (by omega), if_pos (by omega)] at fd
      rw [whole_in (by omega), fd] at hk
      rw [ltI_f.2 (show 0 ≤ a by omega), ltI_f.2 (show 0 ≤ b by omega)]
      first | exact hk | (rw [Int.sub_zero] at hk; exact hk)
  · have z : Int.tmod a b = 0 := by
      by_cases h : Int.tmod a b = 0
      · exact h
      · rw [eqI_f.2 h] at z; exact nomatch z
    rw [if_pos (Int.dvd_iff_tmod_eq_zero.2 z), Int.sub_zero] at fd
    rw [whole_in (by omega), fd] at hk
    exact hk
end Go.Pm
namespace Go.Pm
open Go Go.EvM Go.Pv
set_option linter.unusedVariables false
set_option linter.unusedSimpArgs false
variable {R : Type} {G : Option R → Prop} {m : Nat}
theorem br_bind {c : Bool} {t e : Option Int} {κ : Int → Option R} : (br c t e).bind κ = br c (t.bind κ) (e.bind κ) := by cases c <;> rfl
theorem br_t {t e : Option R} : br true t e = t := rfl
theorem br_f {t e : Option R} : br false t e = e := rfl
theorem two_nat (o : List UInt8) (a b : Int) (κ : Int → Option R) : typ_Two m o a b κ = (typ_Two (R := Int) 0 o a b some).bind κ := by
  unfold typ_Two typ_Two_F typ_sum typ_sum_F typ_product typ_product_F typ_quotient typ_quotient_F typ_ordered typ_ordered_F typ_number typ_number_F
  simp only [br_bind, Option.bind_some]
theorem bin_nat (o : List UInt8) (a b : Int) (κ : Int → Option R) : r11_Binary m o a b κ = (r11_Binary (R := Int) 0 o a b some).bind κ := by
  unfold r11_Binary r11_Binary_F
  simp only [br_bind, Option.bind_some]
theorem one_nat (o : List UInt8) (a : Int) (κ : Int → Option R) : typ_One m o a κ = (typ_One (R := Int) 0 o a some).bind κ := by
  unfold typ_One typ_One_F typ_number typ_number_F
  simp only [br_bind, Option.bind_some]
theorem un_nat (o : List UInt8) (a : Int) (κ : Int → Option R) : r11_Unary m o a κ = (r11_Unary (R := Int) 0 o a some).bind κ := by
  unfold r11_Unary r11_Unary_F
  simp only [br_bind, Option.bind_some]
def tabOk (i a b : Nat) (t : Int) : Bool :=
  (t == 0) || ((decide (1 ≤ a)) && (decide (a ≤ 5)) && (decide (1 ≤ b)) && (decide (b ≤ 5)) && (decide (1 ≤ t)) && (decide (t ≤ 5)) &&
    (if i = 2 then ((t == 3 && (a == 4 || b == 4)) == (a + b == 7)) else true) && (if i = 10 ∨ i = 11 then a == 1 && b == 1 else true) && (if i = 12 ∨ i = 13 then a == b && t == (a : Int) else true))
theorem two_all : ∀ i : Fin 16, ∀ a b : Fin 7, typ_Two (R := Int) 0 (wd i.val) (a.val : Int) (b.val : Int) some = r11_Binary (R := Int) 0 (wd i.val) (a.val : Int) (b.val : Int) some := by decide +kernel
theorem one_all : ∀ i : Fin 16, ∀ a : Fin 7, typ_One (R := Int) 0 (wd i.val) (a.val : Int) some = r11_Unary (R := Int) 0 (wd i.val) (a.val : Int) some := by decide +kernel
theorem tab_all : ∀ i : Fin 16, ∀ a b : Fin 7, ((r11_Binary (R := Int) 0 (wd i.val) (a.val : Int) (b.val : Int) some).map (tabOk i.val a.val b.val)) = some true := by decide +kernel
theorem un_all : ∀ i : Fin 16, ∀ a : Fin 7, (r11_Unary (R := Int) 0 (wd i.val) (a.val : Int) some).isSome = true := by decide +kernel
theorem two_ev (i a b : Nat) (hi : i < 16) (ha : a < 7) (hb : b < 7) : ∃ t, (∀ κ : Int → Option R, r11_Binary m (wd i) a b κ = κ t) ∧ (∀ κ : Int → Option R, typ_Two m (wd i) a b κ = κ t) ∧ tabOk i a b t = true := by
  have h := tab_all ⟨i, hi⟩ ⟨a, ha⟩ ⟨b, hb⟩
  simp only [Option.map_eq_some_iff] at h
  obtain ⟨t, h1, h2⟩ := h
  have h3 := two_all ⟨i, hi⟩ ⟨a, ha⟩ ⟨b, hb⟩
  simp only at h3
  exact ⟨t, fun κ => by rw [bin_nat, h1]; rfl, fun κ => by rw [two_nat, h3, h1]; rfl, h2⟩
theorem un_ev (i a : Nat) (hi : i < 16) (ha : a < 7) : ∃ t, (∀ κ : Int → Option R, r11_Unary m (wd i) a κ = κ t) ∧ (∀ κ : Int → Option R, typ_One m (wd i) a κ = κ t) := by
  have h := un_all ⟨i, hi⟩ ⟨a, ha⟩
  obtain ⟨t, h1⟩ := Option.isSome_iff_exists.1 h
  have h3 := one_all ⟨i, hi⟩ ⟨a, ha⟩
  simp only at h1 h3
  exact ⟨t, fun κ => by rw [un_nat, h1]; rfl, fun κ => by rw [one_nat, h3, h1]; rfl⟩
theorem q0 : eqL s_43 s_43 = true ∧ eqL s_43 s_45 = false ∧ eqL s_43 s_42 = false ∧ eqL s_43 s_47 = false ∧ eqL s_43 s_60 = false ∧ eqL s_43 s_60_61 = false ∧ eqL s_43 s_62 = false ∧ eqL s_43 s_62_61 = false ∧ eqL s_43 s_61_61 = false ∧ eqL s_43 s_33_61 = false ∧ eqL s_43 sand = false ∧ eqL s_43 sor = false ∧ eqL s_43 smin = false ∧ eqL s_43 smax = false ∧ eqL s_43 sneg = false ∧ eqL s_43 snot = false := ⟨rfl, rfl, rfl, rfl, rfl, rfl, rfl, rfl, rfl, rfl, rfl, rfl, rfl, rfl, rfl, rfl⟩
theorem q1 : eqL s_45 s_43 = false ∧ eqL s_45 s_45 = true ∧ eqL s_45 s_42 = false ∧ eqL s_45 s_47 = false ∧ eqL s_45 s_60 = false ∧ eqL s_45 s_60_61 = false ∧ eqL s_45 s_62 = false ∧ eqL s_45 s_62_61 = false ∧ eqL s_45 s_61_61 = false ∧ eqL s_45 s_33_61 = false ∧ eqL s_45 sand = false ∧ eqL s_45 sor = false ∧ eqL s_45 smin = false ∧ eqL s_45 smax = false ∧ eqL s_45 sneg = false ∧ eqL s_45 snot = false := ⟨rfl, rfl, rfl, rfl, rfl, rfl, rfl, rfl, rfl, rfl, rfl, rfl, rfl, rfl, rfl, rfl⟩
theorem q2 : eqL s_42 s_43 = false ∧ eqL s_42 s_45 = false ∧ eqL s_42 s_42 = true ∧ eqL s_42 s_47 = false ∧ eqL s_42 s_60 = false ∧ eqL s_42 s_60_61 = false ∧ eqL s_42 s_62 = false ∧ eqL s_42 s_62_61 = false ∧ eqL s_42 s_61_61 = false ∧ eqL s_42 s_33_61 = false ∧ eqL s_42 sand = false ∧ eqL s_42 sor = false ∧ eqL s_42 smin = false ∧ eqL s_42 smax = false ∧ eqL s_42 sneg = false ∧ eqL s_42 snot = false := ⟨rfl, rfl, rfl, rfl, rfl, rfl, rfl, rfl, rfl, rfl, rfl, rfl, rfl, rfl, rfl, rfl⟩
theorem q3 : eqL s_47 s_43 = false ∧ eqL s_47 s_45 = false ∧ eqL s_47 s_42 = false ∧ eqL s_47 s_47 = true ∧ eqL s_47 s_60 = false ∧ eqL s_47 s_60_61 = false ∧ eqL s_47 s_62 = false ∧ eqL s_47 s_62_61 = false ∧ eqL s_47 s_61_61 = false ∧ eqL s_47 s_33_61 = false ∧ eqL s_47 sand = false ∧ eqL s_47 sor = false ∧ eqL s_47 smin = false ∧ eqL s_47 smax = false ∧ eqL s_47 sneg = false ∧ eqL s_47 snot = false := ⟨rfl, rfl, rfl, rfl, rfl, rfl, rfl, rfl, rfl, rfl, rfl, rfl, rfl, rfl, rfl, rfl⟩
theorem q4 : eqL s_60 s_43 = false ∧ eqL s_60 s_45 = false ∧ eqL s_60 s_42 = false ∧ eqL s_60 s_47 = false ∧ eqL s_60 s_60 = true ∧ eqL s_60 s_60_61 = false ∧ eqL s_60 s_62 = false ∧ eqL s_60 s_62_61 = false ∧ eqL s_60 s_61_61 = false ∧ eqL s_60 s_33_61 = false ∧ eqL s_60 sand = false ∧ eqL s_60 sor = false ∧ eqL s_60 smin = false ∧ eqL s_60 smax = false ∧ eqL s_60 sneg = false ∧ eqL s_60 snot = false := ⟨rfl, rfl, rfl, rfl, rfl, rfl, rfl, rfl, rfl, rfl, rfl, rfl, rfl, rfl, rfl, rfl⟩
theorem q5 : eqL s_60_61 s_43 = false ∧ eqL s_60_61 s_45 = false ∧ eqL s_60_61 s_42 = false ∧ eqL s_60_61 s_47 = false ∧ eqL s_60_61 s_60 = false ∧ eqL s_60_61 s_60_61 = true ∧ eqL s_60_61 s_62 = false ∧ eqL s_60_61 s_62_61 = false ∧ eqL s_60_61 s_61_61 = false ∧ eqL s_60_61 s_33_61 = false ∧ eqL s_60_61 sand = false ∧ eqL s_60_61 sor = false ∧ eqL s_60_61 smin = false ∧ eqL s_60_61 smax = false ∧ eqL s_60_61 sneg = false ∧ eqL s_60_61 snot = false := ⟨rfl, rfl, rfl, rfl, rfl, rfl, rfl, rfl, rfl, rfl, rfl, rfl, rfl, rfl, rfl, rfl⟩
theorem q6 : eqL s_62 s_43 = false ∧ eqL s_62 s_45 = false ∧ eqL s_62 s_42 = false ∧ eqL s_62 s_47 = false ∧ eqL s_62 s_60 = false ∧ eqL s_62 s_60_61 = false ∧ eqL s_62 s_62 = true ∧ eqL s_62 s_62_61 = false ∧ eqL s_62 s_61_61 = false ∧ eqL s_62 s_33_61 = false ∧ eqL s_62 sand = false ∧ eqL s_62 sor = false ∧ eqL s_62 smin = false ∧ eqL s_62 smax = false ∧ eqL s_62 sneg = false ∧ eqL s_62 snot = false := ⟨rfl, rfl, rfl, rfl, rfl, rfl, rfl, rfl, rfl, rfl, rfl, rfl, rfl, rfl, rfl, rfl⟩
theorem q7 : eqL s_62_61 s_43 = false ∧ eqL s_62_61 s_45 = false ∧ eqL s_62_61 s_42 = false ∧ eqL s_62_61 s_47 = false ∧ eqL s_62_61 s_60 = false ∧ eqL s_62_61 s_60_61 = false ∧ eqL s_62_61 s_62 = false ∧ eqL s_62_61 s_62_61 = true ∧ eqL s_62_61 s_61_61 = false ∧ eqL s_62_61 s_33_61 = false ∧ eqL s_62_61 sand = false ∧ eqL s_62_61 sor = false ∧ eqL s_62_61 smin = false ∧ eqL s_62_61 smax = false ∧ eqL s_62_61 sneg = false ∧ eqL s_62_61 snot = false := ⟨rfl, rfl, rfl, rfl, rfl, rfl, rfl, rfl, rfl, rfl, rfl, rfl, rfl, rfl, rfl, rfl⟩
theorem q8 : eqL s_61_61 s_43 = false ∧ eqL s_61_61 s_45 = false ∧ eqL s_61_61 s_42 = false ∧ eqL s_61_61 s_47 = false ∧ eqL s_61_61 s_60 = false ∧ eqL s_61_61 s_60_61 = false ∧ eqL s_61_61 s_62 = false ∧ eqL s_61_61 s_62_61 = false ∧ eqL s_61_61 s_61_61 = true ∧ eqL s_61_61 s_33_61 = false ∧ eqL s_61_61 sand = false ∧ eqL s_61_61 sor = false ∧ eqL s_61_61 smin = false ∧ eqL s_61_61 smax = false ∧ eqL s_61_61 sneg = false ∧ eqL s_61_61 snot = false := ⟨rfl, rfl, rfl, rfl, rfl, rfl, rfl, rfl, rfl, rfl, rfl, rfl, rfl, rfl, rfl, rfl⟩
theorem q9 : eqL s_33_61 s_43 = false ∧ eqL s_33_61 s_45 = false ∧ eqL s_33_61 s_42 = false ∧ eqL s_33_61 s_47 = false ∧ eqL s_33_61 s_60 = false ∧ eqL s_33_61 s_60_61 = false ∧ eqL s_33_61 s_62 = false ∧ eqL s_33_61 s_62_61 = false ∧ eqL s_33_61 s_61_61 = false ∧ eqL s_33_61 s_33_61 = true ∧ eqL s_33_61 sand = false ∧ eqL s_33_61 sor = false ∧ eqL s_33_61 smin = false ∧ eqL s_33_61 smax = false ∧ eqL s_33_61 sneg = false ∧ eqL s_33_61 snot = false := ⟨rfl, rfl, rfl, rfl, rfl, rfl, rfl, rfl, rfl, rfl, rfl, rfl, rfl, rfl, rfl, rfl⟩
theorem q10 : eqL sand s_43 = false ∧ eqL sand s_45 = false ∧ eqL sand s_42 = false ∧ eqL sand s_47 = false ∧ eqL sand s_60 = false ∧ eqL sand s_60_61 = false ∧ eqL sand s_62 = false ∧ eqL sand s_62_61 = false ∧ eqL sand s_61_61 = false ∧ eqL sand s_33_61 = false ∧ eqL sand sand = true ∧ eqL sand sor = false ∧ eqL sand smin = false ∧ eqL sand smax = false ∧ eqL sand sneg = false ∧ eqL sand snot = false := ⟨rfl, rfl, rfl, rfl, rfl, rfl, rfl, rfl, rfl, rfl, rfl, rfl, rfl, rfl, rfl, rfl⟩
theorem q11 : eqL sor s_43 = false ∧ eqL sor s_45 = false ∧ eqL sor s_42 = false ∧ eqL sor s_47 = false ∧ eqL sor s_60 = false ∧ eqL sor s_60_61 = false ∧ eqL sor s_62 = false ∧ eqL sor s_62_61 = false ∧ eqL sor s_61_61 = false ∧ eqL sor s_33_61 = false ∧ eqL sor sand = false ∧ eqL sor sor = true ∧ eqL sor smin = false ∧ eqL sor smax = false ∧ eqL sor sneg = false ∧ eqL sor snot = false := ⟨rfl, rfl, rfl, rfl, rfl, rfl, rfl, rfl, rfl, rfl, rfl, rfl, rfl, rfl, rfl, rfl⟩
theorem q12 : eqL smin s_43 = false ∧ eqL smin s_45 = false ∧ eqL smin s_42 = false ∧ eqL smin s_47 = false ∧ eqL smin s_60 = false ∧ eqL smin s_60_61 = false ∧ eqL smin s_62 = false ∧ eqL smin s_62_61 = false ∧ eqL smin s_61_61 = false ∧ eqL smin s_33_61 = false ∧ eqL smin sand = false ∧ eqL smin sor = false ∧ eqL smin smin = true ∧ eqL smin smax = false ∧ eqL smin sneg = false ∧ eqL smin snot = false := ⟨rfl, rfl, rfl, rfl, rfl, rfl, rfl, rfl, rfl, rfl, rfl, rfl, rfl, rfl, rfl, rfl⟩
theorem q13 : eqL smax s_43 = false ∧ eqL smax s_45 = false ∧ eqL smax s_42 = false ∧ eqL smax s_47 = false ∧ eqL smax s_60 = false ∧ eqL smax s_60_61 = false ∧ eqL smax s_62 = false ∧ eqL smax s_62_61 = false ∧ eqL smax s_61_61 = false ∧ eqL smax s_33_61 = false ∧ eqL smax sand = false ∧ eqL smax sor = false ∧ eqL smax smin = false ∧ eqL smax smax = true ∧ eqL smax sneg = false ∧ eqL smax snot = false := ⟨rfl, rfl, rfl, rfl, rfl, rfl, rfl, rfl, rfl, rfl, rfl, rfl, rfl, rfl, rfl, rfl⟩
theorem q14 : eqL sneg s_43 = false ∧ eqL sneg s_45 = false ∧ eqL sneg s_42 = false ∧ eqL sneg s_47 = false ∧ eqL sneg s_60 = false ∧ eqL sneg s_60_61 = false ∧ eqL sneg s_62 = false ∧ eqL sneg s_62_61 = false ∧ eqL sneg s_61_61 = false ∧ eqL sneg s_33_61 = false ∧ eqL sneg sand = false ∧ eqL sneg sor = false ∧ eqL sneg smin = false ∧ eqL sneg smax = false ∧ eqL sneg sneg = true ∧ eqL sneg snot = false := ⟨rfl, rfl, rfl, rfl, rfl, rfl, rfl, rfl, rfl, rfl, rfl, rfl, rfl, rfl, rfl, rfl⟩
theorem q15 : eqL snot s_43 = false ∧ eqL snot s_45 = false ∧ eqL snot s_42 = false ∧ eqL snot s_47 = false ∧ eqL snot s_60 = false ∧ eqL snot s_60_61 = false ∧ eqL snot s_62 = false ∧ eqL snot s_62_61 = false ∧ eqL snot s_61_61 = false ∧ eqL snot s_33_61 = false ∧ eqL snot sand = false ∧ eqL snot sor = false ∧ eqL snot smin = false ∧ eqL snot smax = false ∧ eqL snot sneg = false ∧ eqL snot snot = true := ⟨rfl, rfl, rfl, rfl, rfl, rfl, rfl, rfl, rfl, rfl, rfl, rfl, rfl, rfl, rfl, rfl⟩
theorem mtruth_sp {c : Bool} {κ : TapiValue → Int → Option R} (hk : G (κ ⟨1, if c = true then 1 else 0, []⟩ 0)) : G (mean_truth m c κ) := by
  unfold mean_truth mean_truth_F; cases c <;> exact hk
theorem rtruth_sp {c : Bool} {κ : TapiValue → Int → Option R} (hk : G (κ ⟨1, if c = true then 1 else 0, []⟩ 0)) : G (r11_truth m c κ) := by
  unfold r11_truth r11_truth_F; cases c <;> exact hk
theorem fits_type {t v : Int} (h : fits t v = true) : 1 ≤ t ∧ t ≤ 5 := by
  unfold fits at h
  split at h
  · omega
  · split at h
    · omega
    · split at h
      · omega
      · split at h
        · omega
        · cases h
end Go.Pm
namespace Go.Pm
open Go Go.EvM Go.Pv
set_option linter.unusedVariables false
set_option linter.unusedSimpArgs false
variable {R : Type} {m : Nat}
def Fine (x : TapiValue) : Prop := x.f_L = [] ∧ fits x.f_Kind x.f_N = true
def Res (r : TapiValue) (e : Int) : Prop := r.f_L = [] ∧ (e = 0 → fits r.f_Kind r.f_N = true)
theorem res8 : Res ⟨0, 0, []⟩ 8 := ⟨rfl, fun h => absurd h (by decide)⟩
theorem res11 : Res ⟨0, 0, []⟩ 11 := ⟨rfl, fun h => absurd h (by decide)⟩
theorem res_f (t z : Int) : Res (fval t z) (ferr t z) := by
  unfold fval ferr
  split
  · exact ⟨rfl, fun _ => by assumption⟩
  · exact ⟨rfl, fun h => by split at h <;> exact absurd h (by decide)⟩
theorem res_t {p : Prop} [Decidable p] : Res ⟨1, if p then 1 else 0, []⟩ 0 := ⟨rfl, fun _ => by show fits 1 (if p then 1 else 0) = true; split <;> rfl⟩
def Both (R : Type) (m : Nat) (o : Bs) (x y : TapiValue) : Prop :=
  ∃ (r : TapiValue) (e : Int), (∀ (G : Option R → Prop) (κ : TapiValue → Int → Option R), G (κ r e) → G (mean_Op m o x y κ)) ∧ (∀ (G : Option R → Prop) (κ : TapiValue → Int → Option R), G (κ r e) → G (r11_Op m o x y κ)) ∧ Res r e
theorem fits1 {v : Int} (h : fits 1 v = true) : v = 0 ∨ v = 1 := by unfold fits at h; simpa using h
section
variable {a b : Nat} {v w : Int} (hm : 1000001 ≤ m) (ha : a < 7) (hb : b < 7) (v0 : -4503599627370496 ≤ v) (v1 : v ≤ 4503599627370496) (u0 : -4503599627370496 ≤ w) (u1 : w ≤ 4503599627370496)
include hm ha hb v0 v1 u0 u1
theorem both_add {l k : List Int} : Both R m s_43 ⟨a, v, l⟩ ⟨b, w, k⟩ := by
  obtain ⟨t, hB, hT, hO⟩ := two_ev (R := R) (m := m) 0 a b (by omega) ha hb
  have hB : ∀ κ : Int → Option R, r11_Binary m s_43 a b κ = κ t := hB
  have hT : ∀ κ : Int → Option R, typ_Two m s_43 a b κ = κ t := hT
  by_cases h0 : t = 0
  · subst h0
    refine ⟨⟨0, 0, []⟩, 8, fun G κ hk => ?_, fun G κ hk => ?_, res8⟩
    · unfold mean_Op mean_Op_F
      simp only [q0, br_t, br_f, hT]
      exact hk
    · unfold r11_Op r11_Op_F
      simp only [q0, br_t, br_f, hB]
      exact hk
  have h0 := eqI_f.2 h0
  refine ⟨fval t (v + w), ferr t (v + w), fun G κ hk => ?_, fun G κ hk => ?_, res_f _ _⟩
  · unfold mean_Op mean_Op_F
    simp only [q0, br_t, br_f, hT, h0]
    exact nAdd_sp (by omega) (by omega) (by omega) (by omega) (made_sp hk)
  · unfold r11_Op r11_Op_F
    simp only [q0, br_t, br_f, hB, h0]
    refine Of_sp hm (by omega) (by omega) fun c ic lc => Of_sp hm (by omega) (by omega) fun d id' ld => Of_sp hm (by omega) (by omega) fun g ig lg => ?_
    try dsimp only
    try simp only [q0, br_t, br_f]
    exact Add_sp ic id' 4 lc ld (by omega) hm fun z iz lz => fitted_sp iz (by omega) hm hk
theorem both_sub {l k : List Int} : Both R m s_45 ⟨a, v, l⟩ ⟨b, w, k⟩ := by
  obtain ⟨t, hB, hT, hO⟩ := two_ev (R := R) (m := m) 1 a b (by omega) ha hb
  have hB : ∀ κ : Int → Option R, r11_Binary m s_45 a b κ = κ t := hB
  have hT : ∀ κ : Int → Option R, typ_Two m s_45 a b κ = κ t := hT
  by_cases h0 : t = 0
  · subst h0
    refine ⟨⟨0, 0, []⟩, 8, fun G κ hk => ?_, fun G κ hk => ?_, res8⟩
    · unfold mean_Op mean_Op_F
      simp only [q1, br_t, br_f, hT]
      exact hk
    · unfold r11_Op r11_Op_F
      simp only [q1, br_t, br_f, hB]
      exact hk
  have h0 := eqI_f.2 h0
  refine ⟨fval t (v - w), ferr t (v - w), fun G κ hk => ?_, fun G κ hk => ?_, res_f _ _⟩
  · unfold mean_Op mean_Op_F
    simp only [q1, br_t, br_f, hT, h0]
    exact nSub_sp (by omega) (by omega) (by omega) (by omega) (made_sp hk)
  · unfold r11_Op r11_Op_F
    simp only [q1, br_t, br_f, hB, h0]
    refine Of_sp hm (by omega) (by omega) fun c ic lc => Of_sp hm (by omega) (by omega) fun d id' ld => Of_sp hm (by omega) (by omega) fun g ig lg => ?_
    try dsimp only
    try simp only [q1, br_t, br_f]
    refine Minus_sp id' hm fun z iz ez => Add_sp ic iz 4 lc (by rw [ez]; exact ld) (by omega) hm fun z iz lz => fitted_sp iz (by omega) hm ?_
    rw [show v + -w = v - w by omega]; exact hk
theorem both_mul {l k : List Int} : Both R m s_42 ⟨a, v, l⟩ ⟨b, w, k⟩ := by
  obtain ⟨t, hB, hT, hO⟩ := two_ev (R := R) (m := m) 2 a b (by omega) ha hb
  have hB : ∀ κ : Int → Option R, r11_Binary m s_42 a b κ = κ t := hB
  have hT : ∀ κ : Int → Option R, typ_Two m s_42 a b κ = κ t := hT
  by_cases h0 : t = 0
  · subst h0
    refine ⟨⟨0, 0, []⟩, 8, fun G κ hk => ?_, fun G κ hk => ?_, res8⟩
    · unfold mean_Op mean_Op_F
      simp only [q2, br_t, br_f, hT]
      exact hk
    · unfold r11_Op r11_Op_F
      simp only [q2, br_t, br_f, hB]
      exact hk
  have h0 := eqI_f.2 h0
  have bd := mul_bound v0 v1 u0 u1
  have hc : (t = 3 ∧ ((a : Int) = 4 ∨ (b : Int) = 4)) ↔ wr .i64 ((a : Int) + b) = 7 := by
    rw [wr_in (by omega) (by omega)]
    have h0 := eqI_f.1 h0
    simp [tabOk, h0] at hO
    have := hO.2
    have e : (a : Int) + b = 7 ↔ a + b = 7 := by omega
    rw [e]
    constructor
    · rintro ⟨q, r⟩; rw [q] at this; rcases r with r | r
      · have r : a = 4 := by omega
        simp [r] at this ⊢; omega
      · have r : b = 4 := by omega
        simp [r] at this ⊢; omega
    · intro q; simp [q] at this; exact ⟨this.1, by omega⟩
  refine ⟨fval t (if t = 3 ∧ ((a : Int) = 4 ∨ (b : Int) = 4) then v * w / 1000000 else v * w), ferr t (if t = 3 ∧ ((a : Int) = 4 ∨ (b : Int) = 4) then v * w / 1000000 else v * w), fun G κ hk => ?_, fun G κ hk => ?_, res_f _ _⟩
  · unfold mean_Op mean_Op_F
    simp only [q2, br_t, br_f, hT, h0]
    show G (mean_times m t ⟨a, v, l⟩ ⟨b, w, k⟩ fun r71_0 r71_1 => κ r71_0 r71_1)
    unfold mean_times mean_times_F
    try dsimp only
    refine nMul_sp (by omega) (by omega) (by omega) (by omega) (by omega) (by omega) ?_
    have big : G (κ (fval t (v * w / 1000000)) (ferr t (v * w / 1000000))) → G (num_MulFloor m v w 1000000 fun r35_0 r35_1 => mean_made m t r35_0 r35_1 fun r41_0 r41_1 => κ r41_0 r41_1) := fun h =>
      MulFloor_sp hm (by omega) (by omega) (by omega) (by omega) (by omega) (by omega) (by omega) (by omega) (made_sp h)
    refine br_sp (fun h3 => ?_) (fun h3 => ?_)
    · have h3 := eqI_t.1 h3
      refine br_sp (fun h4 => ?_) (fun h4 => br_sp (fun h5 => ?_) (fun h5 => ?_))
      · rw [if_pos ⟨h3, .inl (eqI_t.1 h4)⟩] at hk; exact big hk
      · rw [if_pos ⟨h3, .inr (eqI_t.1 h5)⟩] at hk; exact big hk
      · rw [if_neg (fun q => q.2.elim (eqI_f.1 h4) (eqI_f.1 h5))] at hk; exact made_sp hk
    · rw [if_neg (fun q => eqI_f.1 h3 q.1)] at hk; exact made_sp hk
  · unfold r11_Op r11_Op_F
    simp only [q2, br_t, br_f, hB, h0]
    refine Of_sp hm (by omega) (by omega) fun c ic lc => Of_sp hm (by omega) (by omega) fun d id' ld => Of_sp hm (by omega) (by omega) fun g ig lg => ?_
    try dsimp only
    try simp only [q2, br_t, br_f]
    show G (r1_Mul m c d fun r83 => br (eqI (wr .i64 ((a : Int) + (b : Int))) 7) (r1_Floor m r83 g fun r92 => r11_fitted m t r92 fun r e => κ r e) (r11_fitted m t r83 fun r e => κ r e))
    refine Mul_sp ic id' (by omega) (by omega) hm fun z iz lz => br_sp (fun h => ?_) (fun h => ?_)
    · rw [if_pos (hc.2 (eqI_t.1 h))] at hk
      refine Floor_sp iz ig (by omega) (by omega) (by omega) hm fun q iq lq => fitted_sp iq (by omega) hm ?_
      rw [Int.fdiv_eq_ediv_of_nonneg _ (by omega)]; exact hk
    · rw [if_neg (fun q => eqI_f.1 h (hc.1 q))] at hk
      exact fitted_sp iz (by omega) hm hk
theorem both_div {l k : List Int} : Both R m s_47 ⟨a, v, l⟩ ⟨b, w, k⟩ := by
  obtain ⟨t, hB, hT, hO⟩ := two_ev (R := R) (m := m) 3 a b (by omega) ha hb
  have hB : ∀ κ : Int → Option R, r11_Binary m s_47 a b κ = κ t := hB
  have hT : ∀ κ : Int → Option R, typ_Two m s_47 a b κ = κ t := hT
  by_cases h0 : t = 0
  · subst h0
    refine ⟨⟨0, 0, []⟩, 8, fun G κ hk => ?_, fun G κ hk => ?_, res8⟩
    · unfold mean_Op mean_Op_F
      simp only [q3, br_t, br_f, hT]
      exact hk
    · unfold r11_Op r11_Op_F
      simp only [q3, br_t, br_f, hB]
      exact hk
  have h0 := eqI_f.2 h0
  by_cases hw : w = 0
  · subst hw
    refine ⟨⟨0, 0, []⟩, 11, fun G κ hk => ?_, fun G κ hk => ?_, res11⟩
    · unfold mean_Op mean_Op_F
      simp only [q3, br_t, br_f, hT, h0]
      show G (mean_over m t ⟨a, v, l⟩ ⟨b, 0, k⟩ fun r71_0 r71_1 => κ r71_0 r71_1)
      unfold mean_over mean_over_F
      exact hk
    · unfold r11_Op r11_Op_F
      simp only [q3, br_t, br_f, hB, h0]
      refine Of_sp hm (by omega) (by omega) fun c ic lc => Of_sp hm (by omega) (by omega) fun d id' ld => Of_sp hm (by omega) (by omega) fun g ig lg => ?_
      try dsimp only
      try simp only [q3, br_t, br_f]
      exact hk
  refine ⟨fval t (if t = 4 then Int.fdiv (v * 1000000) w else Int.fdiv v w), ferr t (if t = 4 then Int.fdiv (v * 1000000) w else Int.fdiv v w), fun G κ hk => ?_, fun G κ hk => ?_, res_f _ _⟩
  · unfold mean_Op mean_Op_F
    simp only [q3, br_t, br_f, hT, h0]
    show G (mean_over m t ⟨a, v, l⟩ ⟨b, w, k⟩ fun r71_0 r71_1 => κ r71_0 r71_1)
    unfold mean_over mean_over_F
    try dsimp only
    refine br_sp (fun h => absurd (eqI_t.1 h) hw) (fun _ => br_sp (fun h4 => ?_) (fun h4 => ?_))
    · have h4 : t ≠ 4 := by
        intro h; rw [eqI_t.2 h] at h4; exact nomatch h4
      rw [if_neg h4] at hk
      exact nFloor_sp hw (by omega) (by omega) (by omega) (by omega) (made_sp hk)
    · have h4 : t = 4 := by
        by_cases h : t = 4
        · exact h
        · rw [eqI_f.2 h] at h4; exact nomatch h4
      rw [if_pos h4] at hk
      refine br_sp (fun sg => ?_) (fun sg => ?_)
      · have sg : w < 0 := ltI_t.1 sg
        refine nSub_sp (by omega) (by omega) (by omega) (by omega) (nSub_sp (by omega) (by omega) (by omega) (by omega) ?_)
        rw [whole_in (show -9223372036854775808 ≤ 0 - v ∧ 0 - v ≤ 9223372036854775807 by omega), whole_in (show -9223372036854775808 ≤ 0 - w ∧ 0 - w ≤ 9223372036854775807 by omega)]
        refine MulFloor_sp hm (by omega) (by omega) (by omega) (by omega) (by omega) (by omega) (by omega) (by omega) (made_sp ?_)
        rw [show (0 - v) * 1000000 / (0 - w) = Int.fdiv (v * 1000000) w by rw [← Int.neg_fdiv_neg, Int.fdiv_eq_ediv_of_nonneg _ (show 0 ≤ -w by omega)]; congr 1 <;> omega]
        exact hk
      · have sg : 0 ≤ w := ltI_f.1 sg
        refine MulFloor_sp hm (by omega) (by omega) (by omega) (by omega) (by omega) (by omega) (by omega) (by omega) (made_sp ?_)
        rw [Int.fdiv_eq_ediv_of_nonneg _ sg] at hk
        exact hk
  · unfold r11_Op r11_Op_F
    simp only [q3, br_t, br_f, hB, h0]
    refine Of_sp hm (by omega) (by omega) fun c ic lc => Of_sp hm (by omega) (by omega) fun d id' ld => Of_sp hm (by omega) (by omega) fun g ig lg => ?_
    try dsimp only
    try simp only [q3, br_t, br_f]
    show G (br (eqI w 0) (κ ⟨0, 0, []⟩ 11) (br (eqI t 4) (r1_Mul m c g fun r108 => r1_Floor m r108 d fun r112 => r11_fitted m t r112 fun r e => κ r e) (r1_Floor m c d fun r112 => r11_fitted m t r112 fun r e => κ r e)))
    refine br_sp (fun h => absurd (eqI_t.1 h) hw) (fun _ => br_sp (fun h4 => ?_) (fun h4 => ?_))
    · rw [if_pos (eqI_t.1 h4)] at hk
      exact Mul_sp ic ig (by omega) (by omega) hm fun z iz lz => Floor_sp iz id' hw (by omega) (by omega) hm fun q iq lq => fitted_sp iq (by omega) hm hk
    · rw [if_neg (eqI_f.1 h4)] at hk
      exact Floor_sp ic id' hw (by omega) (by omega) hm fun q iq lq => fitted_sp iq (by omega) hm hk
theorem both_lt {l k : List Int} : Both R m s_60 ⟨a, v, l⟩ ⟨b, w, k⟩ := by
  obtain ⟨t, hB, hT, hO⟩ := two_ev (R := R) (m := m) 4 a b (by omega) ha hb
  have hB : ∀ κ : Int → Option R, r11_Binary m s_60 a b κ = κ t := hB
  have hT : ∀ κ : Int → Option R, typ_Two m s_60 a b κ = κ t := hT
  by_cases h0 : t = 0
  · subst h0
    refine ⟨⟨0, 0, []⟩, 8, fun G κ hk => ?_, fun G κ hk => ?_, res8⟩
    · unfold mean_Op mean_Op_F
      simp only [q4, br_t, br_f, hT]
      exact hk
    · unfold r11_Op r11_Op_F
      simp only [q4, br_t, br_f, hB]
      exact hk
  have h0 := eqI_f.2 h0
  refine ⟨⟨1, if ltI v w = true then 1 else 0, []⟩, 0, fun G κ hk => ?_, fun G κ hk => ?_, res_t⟩
  · unfold mean_Op mean_Op_F
    simp only [q4, br_t, br_f, hT, h0]
    exact mtruth_sp hk
  · unfold r11_Op r11_Op_F
    simp only [q4, br_t, br_f, hB, h0]
    refine Of_sp hm (by omega) (by omega) fun c ic lc => Of_sp hm (by omega) (by omega) fun d id' ld => Of_sp hm (by omega) (by omega) fun g ig lg => ?_
    try dsimp only
    try simp only [q4, br_t, br_f]
    exact rtruth_sp hk
theorem both_le {l k : List Int} : Both R m s_60_61 ⟨a, v, l⟩ ⟨b, w, k⟩ := by
  obtain ⟨t, hB, hT, hO⟩ := two_ev (R := R) (m := m) 5 a b (by omega) ha hb
  have hB : ∀ κ : Int → Option R, r11_Binary m s_60_61 a b κ = κ t := hB
  have hT : ∀ κ : Int → Option R, typ_Two m s_60_61 a b κ = κ t := hT
  by_cases h0 : t = 0
  · subst h0
    refine ⟨⟨0, 0, []⟩, 8, fun G κ hk => ?_, fun G κ hk => ?_, res8⟩
    · unfold mean_Op mean_Op_F
      simp only [q5, br_t, br_f, hT]
      exact hk
    · unfold r11_Op r11_Op_F
      simp only [q5, br_t, br_f, hB]
      exact hk
  have h0 := eqI_f.2 h0
  refine ⟨⟨1, if leI v w = true then 1 else 0, []⟩, 0, fun G κ hk => ?_, fun G κ hk => ?_, res_t⟩
  · unfold mean_Op mean_Op_F
    simp only [q5, br_t, br_f, hT, h0]
    exact mtruth_sp hk
  · unfold r11_Op r11_Op_F
    simp only [q5, br_t, br_f, hB, h0]
    refine Of_sp hm (by omega) (by omega) fun c ic lc => Of_sp hm (by omega) (by omega) fun d id' ld => Of_sp hm (by omega) (by omega) fun g ig lg => ?_
    try dsimp only
    try simp only [q5, br_t, br_f]
    exact rtruth_sp hk
theorem both_gt {l k : List Int} : Both R m s_62 ⟨a, v, l⟩ ⟨b, w, k⟩ := by
  obtain ⟨t, hB, hT, hO⟩ := two_ev (R := R) (m := m) 6 a b (by omega) ha hb
  have hB : ∀ κ : Int → Option R, r11_Binary m s_62 a b κ = κ t := hB
  have hT : ∀ κ : Int → Option R, typ_Two m s_62 a b κ = κ t := hT
  by_cases h0 : t = 0
  · subst h0
    refine ⟨⟨0, 0, []⟩, 8, fun G κ hk => ?_, fun G κ hk => ?_, res8⟩
    · unfold mean_Op mean_Op_F
      simp only [q6, br_t, br_f, hT]
      exact hk
    · unfold r11_Op r11_Op_F
      simp only [q6, br_t, br_f, hB]
      exact hk
  have h0 := eqI_f.2 h0
  refine ⟨⟨1, if ltI w v = true then 1 else 0, []⟩, 0, fun G κ hk => ?_, fun G κ hk => ?_, res_t⟩
  · unfold mean_Op mean_Op_F
    simp only [q6, br_t, br_f, hT, h0]
    exact mtruth_sp hk
  · unfold r11_Op r11_Op_F
    simp only [q6, br_t, br_f, hB, h0]
    refine Of_sp hm (by omega) (by omega) fun c ic lc => Of_sp hm (by omega) (by omega) fun d id' ld => Of_sp hm (by omega) (by omega) fun g ig lg => ?_
    try dsimp only
    try simp only [q6, br_t, br_f]
    exact rtruth_sp hk
theorem both_ge {l k : List Int} : Both R m s_62_61 ⟨a, v, l⟩ ⟨b, w, k⟩ := by
  obtain ⟨t, hB, hT, hO⟩ := two_ev (R := R) (m := m) 7 a b (by omega) ha hb
  have hB : ∀ κ : Int → Option R, r11_Binary m s_62_61 a b κ = κ t := hB
  have hT : ∀ κ : Int → Option R, typ_Two m s_62_61 a b κ = κ t := hT
  by_cases h0 : t = 0
  · subst h0
    refine ⟨⟨0, 0, []⟩, 8, fun G κ hk => ?_, fun G κ hk => ?_, res8⟩
    · unfold mean_Op mean_Op_F
      simp only [q7, br_t, br_f, hT]
      exact hk
    · unfold r11_Op r11_Op_F
      simp only [q7, br_t, br_f, hB]
      exact hk
  have h0 := eqI_f.2 h0
  refine ⟨⟨1, if leI w v = true then 1 else 0, []⟩, 0, fun G κ hk => ?_, fun G κ hk => ?_, res_t⟩
  · unfold mean_Op mean_Op_F
    simp only [q7, br_t, br_f, hT, h0]
    exact mtruth_sp hk
  · unfold r11_Op r11_Op_F
    simp only [q7, br_t, br_f, hB, h0]
    refine Of_sp hm (by omega) (by omega) fun c ic lc => Of_sp hm (by omega) (by omega) fun d id' ld => Of_sp hm (by omega) (by omega) fun g ig lg => ?_
    try dsimp only
    try simp only [q7, br_t, br_f]
    exact rtruth_sp hk
theorem both_eq {l k : List Int} : Both R m s_61_61 ⟨a, v, l⟩ ⟨b, w, k⟩ := by
  obtain ⟨t, hB, hT, hO⟩ := two_ev (R := R) (m := m) 8 a b (by omega) ha hb
  have hB : ∀ κ : Int → Option R, r11_Binary m s_61_61 a b κ = κ t := hB
  have hT : ∀ κ : Int → Option R, typ_Two m s_61_61 a b κ = κ t := hT
  by_cases h0 : t = 0
  · subst h0
    refine ⟨⟨0, 0, []⟩, 8, fun G κ hk => ?_, fun G κ hk => ?_, res8⟩
    · unfold mean_Op mean_Op_F
      simp only [q8, br_t, br_f, hT]
      exact hk
    · unfold r11_Op r11_Op_F
      simp only [q8, br_t, br_f, hB]
      exact hk
  have h0 := eqI_f.2 h0
  refine ⟨⟨1, if eqI v w = true then 1 else 0, []⟩, 0, fun G κ hk => ?_, fun G κ hk => ?_, res_t⟩
  · unfold mean_Op mean_Op_F
    simp only [q8, br_t, br_f, hT, h0]
    exact mtruth_sp hk
  · unfold r11_Op r11_Op_F
    simp only [q8, br_t, br_f, hB, h0]
    refine Of_sp hm (by omega) (by omega) fun c ic lc => Of_sp hm (by omega) (by omega) fun d id' ld => Of_sp hm (by omega) (by omega) fun g ig lg => ?_
    try dsimp only
    try simp only [q8, br_t, br_f]
    exact rtruth_sp hk
theorem both_ne {l k : List Int} : Both R m s_33_61 ⟨a, v, l⟩ ⟨b, w, k⟩ := by
  obtain ⟨t, hB, hT, hO⟩ := two_ev (R := R) (m := m) 9 a b (by omega) ha hb
  have hB : ∀ κ : Int → Option R, r11_Binary m s_33_61 a b κ = κ t := hB
  have hT : ∀ κ : Int → Option R, typ_Two m s_33_61 a b κ = κ t := hT
  by_cases h0 : t = 0
  · subst h0
    refine ⟨⟨0, 0, []⟩, 8, fun G κ hk => ?_, fun G κ hk => ?_, res8⟩
    · unfold mean_Op mean_Op_F
      simp only [q9, br_t, br_f, hT]
      exact hk
    · unfold r11_Op r11_Op_F
      simp only [q9, br_t, br_f, hB]
      exact hk
  have h0 := eqI_f.2 h0
  refine ⟨⟨1, if (!(eqI v w)) = true then 1 else 0, []⟩, 0, fun G κ hk => ?_, fun G κ hk => ?_, res_t⟩
  · unfold mean_Op mean_Op_F
    simp only [q9, br_t, br_f, hT, h0]
    exact mtruth_sp hk
  · unfold r11_Op r11_Op_F
    simp only [q9, br_t, br_f, hB, h0]
    refine Of_sp hm (by omega) (by omega) fun c ic lc => Of_sp hm (by omega) (by omega) fun d id' ld => Of_sp hm (by omega) (by omega) fun g ig lg => ?_
    try dsimp only
    try simp only [q9, br_t, br_f]
    exact rtruth_sp hk
end
section
variable {a b : Nat} {v w : Int} (hm : 1000001 ≤ m) (ha : a < 7) (hb : b < 7) (v0 : -4503599627370496 ≤ v) (v1 : v ≤ 4503599627370496) (u0 : -4503599627370496 ≤ w) (u1 : w ≤ 4503599627370496) (fa : fits a v = true) (fb : fits b w = true)
include hm ha hb v0 v1 u0 u1 fa fb
theorem both_and {l k : List Int} : Both R m sand ⟨a, v, l⟩ ⟨b, w, k⟩ := by
  obtain ⟨t, hB, hT, hO⟩ := two_ev (R := R) (m := m) 10 a b (by omega) ha hb
  have hB : ∀ κ : Int → Option R, r11_Binary m sand a b κ = κ t := hB
  have hT : ∀ κ : Int → Option R, typ_Two m sand a b κ = κ t := hT
  by_cases h0 : t = 0
  · subst h0
    refine ⟨⟨0, 0, []⟩, 8, fun G κ hk => ?_, fun G κ hk => ?_, res8⟩
    · unfold mean_Op mean_Op_F
      simp only [q10, br_t, br_f, hT]
      exact hk
    · unfold r11_Op r11_Op_F
      simp only [q10, br_t, br_f, hB]
      exact hk
  have h0 := eqI_f.2 h0
  have h0' := eqI_f.1 h0
  simp [tabOk, h0'] at hO
  obtain ⟨_, qa, qb⟩ := hO
  subst qa; subst qb
  have f1 := fits1 fa
  have f2 := fits1 fb
  refine ⟨⟨1, if (v = 1 ∧ w = 1) then 1 else 0, []⟩, 0, fun G κ hk => ?_, fun G κ hk => ?_, res_t⟩
  · unfold mean_Op mean_Op_F
    simp only [q10, br_t, br_f, hT, h0]
    rcases f1 with rfl | rfl <;> rcases f2 with rfl | rfl <;> exact mtruth_sp hk
  · unfold r11_Op r11_Op_F
    simp only [q10, br_t, br_f, hB, h0]
    refine Of_sp hm (by omega) (by omega) fun c ic lc => Of_sp hm (by omega) (by omega) fun d id' ld => Of_sp hm (by omega) (by omega) fun g ig lg => ?_
    try dsimp only
    try simp only [q10, br_t, br_f]
    rcases f1 with rfl | rfl <;> rcases f2 with rfl | rfl <;> exact rtruth_sp hk
theorem both_or {l k : List Int} : Both R m sor ⟨a, v, l⟩ ⟨b, w, k⟩ := by
  obtain ⟨t, hB, hT, hO⟩ := two_ev (R := R) (m := m) 11 a b (by omega) ha hb
  have hB : ∀ κ : Int → Option R, r11_Binary m sor a b κ = κ t := hB
  have hT : ∀ κ : Int → Option R, typ_Two m sor a b κ = κ t := hT
  by_cases h0 : t = 0
  · subst h0
    refine ⟨⟨0, 0, []⟩, 8, fun G κ hk => ?_, fun G κ hk => ?_, res8⟩
    · unfold mean_Op mean_Op_F
      simp only [q11, br_t, br_f, hT]
      exact hk
    · unfold r11_Op r11_Op_F
      simp only [q11, br_t, br_f, hB]
      exact hk
  have h0 := eqI_f.2 h0
  have h0' := eqI_f.1 h0
  simp [tabOk, h0'] at hO
  obtain ⟨_, qa, qb⟩ := hO
  subst qa; subst qb
  have f1 := fits1 fa
  have f2 := fits1 fb
  refine ⟨⟨1, if (v = 1 ∨ w = 1) then 1 else 0, []⟩, 0, fun G κ hk => ?_, fun G κ hk => ?_, res_t⟩
  · unfold mean_Op mean_Op_F
    simp only [q11, br_t, br_f, hT, h0]
    rcases f1 with rfl | rfl <;> rcases f2 with rfl | rfl <;> exact mtruth_sp hk
  · unfold r11_Op r11_Op_F
    simp only [q11, br_t, br_f, hB, h0]
    refine Of_sp hm (by omega) (by omega) fun c ic lc => Of_sp hm (by omega) (by omega) fun d id' ld => Of_sp hm (by omega) (by omega) fun g ig lg => ?_
    try dsimp only
    try simp only [q11, br_t, br_f]
    rcases f1 with rfl | rfl <;> rcases f2 with rfl | rfl <;> exact rtruth_sp hk
theorem both_min : Both R m smin ⟨a, v, []⟩ ⟨b, w, []⟩ := by
  obtain ⟨t, hB, hT, hO⟩ := two_ev (R := R) (m := m) 12 a b (by omega) ha hb
  have hB : ∀ κ : Int → Option R, r11_Binary m smin a b κ = κ t := hB
  have hT : ∀ κ : Int → Option R, typ_Two m smin a b κ = κ t := hT
  by_cases h0 : t = 0
  · subst h0
    refine ⟨⟨0, 0, []⟩, 8, fun G κ hk => ?_, fun G κ hk => ?_, res8⟩
    · unfold mean_Op mean_Op_F
      simp only [q12, br_t, br_f, hT]
      exact hk
    · unfold r11_Op r11_Op_F
      simp only [q12, br_t, br_f, hB]
      exact hk
  have h0 := eqI_f.2 h0
  have h0' := eqI_f.1 h0
  simp [tabOk, h0'] at hO
  obtain ⟨_, qa, qb⟩ := hO
  subst qa; subst qb
  have ff : fits (a : Int) (if v < w then v else w) = true := by split <;> assumption
  have e : (bif ltI w v then w else v) = (if v < w then v else w) := by
    rw [ltI_d]
    split
    · rw [decide_eq_false (by omega)]; rfl
    · by_cases q : w < v
      · rw [decide_eq_true q]; rfl
      · rw [decide_eq_false q]; show v = w; omega
  refine ⟨⟨a, (if v < w then v else w), []⟩, 0, fun G κ hk => ?_, fun G κ hk => ?_, ⟨rfl, fun _ => ff⟩⟩
  · unfold mean_Op mean_Op_F
    simp only [q12, br_t, br_f, hT, h0]
    show G (mean_made m (a : Int) (bif ltI w v then w else v) true fun r e => κ r e)
    rw [e]
    have := made_sp (G := G) (m := m) (t := (a : Int)) (W := (if v < w then v else w)) (κ := κ) (by unfold fval ferr; rw [if_pos ff, if_pos ff]; exact hk)
    rw [whole_in (by split <;> omega)] at this
    exact this
  · unfold r11_Op r11_Op_F
    simp only [q12, br_t, br_f, hB, h0]
    refine Of_sp hm (by omega) (by omega) fun c ic lc => Of_sp hm (by omega) (by omega) fun d id' ld => Of_sp hm (by omega) (by omega) fun g ig lg => ?_
    try dsimp only
    try simp only [q12, br_t, br_f]
    show G (br (eqB (ltI v w) true) (κ ⟨a, v, []⟩ 0) (κ ⟨a, w, []⟩ 0))
    refine br_sp (fun h => ?_) (fun h => ?_)
    · rw [ltI_d] at h
      by_cases q : v < w
      · rw [if_pos q] at hk; exact hk
      · rw [if_neg q] at hk; rw [decide_eq_false q] at h; exact nomatch h
    · rw [ltI_d] at h
      by_cases q : v < w
      · rw [if_pos q] at hk; rw [decide_eq_true q] at h; exact nomatch h
      · rw [if_neg q] at hk; exact hk
theorem both_max : Both R m smax ⟨a, v, []⟩ ⟨b, w, []⟩ := by
  obtain ⟨t, hB, hT, hO⟩ := two_ev (R := R) (m := m) 13 a b (by omega) ha hb
  have hB : ∀ κ : Int → Option R, r11_Binary m smax a b κ = κ t := hB
  have hT : ∀ κ : Int → Option R, typ_Two m smax a b κ = κ t := hT
  by_cases h0 : t = 0
  · subst h0
    refine ⟨⟨0, 0, []⟩, 8, fun G κ hk => ?_, fun G κ hk => ?_, res8⟩
    · unfold mean_Op mean_Op_F
      simp only [q13, br_t, br_f, hT]
      exact hk
    · unfold r11_Op r11_Op_F
      simp only [q13, br_t, br_f, hB]
      exact hk
  have h0 := eqI_f.2 h0
  have h0' := eqI_f.1 h0
  simp [tabOk, h0'] at hO
  obtain ⟨_, qa, qb⟩ := hO
  subst qa; subst qb
  have ff : fits (a : Int) (if v < w then w else v) = true := by split <;> assumption
  have e : (bif ltI v w then w else v) = (if v < w then w else v) := by
    rw [ltI_d]
    split
    · rw [decide_eq_true (by omega)]; rfl
    · rw [decide_eq_false (by omega)]; rfl
  refine ⟨⟨a, (if v < w then w else v), []⟩, 0, fun G κ hk => ?_, fun G κ hk => ?_, ⟨rfl, fun _ => ff⟩⟩
  · unfold mean_Op mean_Op_F
    simp only [q13, br_t, br_f, hT, h0]
    show G (mean_made m (a : Int) (bif ltI v w then w else v) true fun r e => κ r e)
    rw [e]
    have := made_sp (G := G) (m := m) (t := (a : Int)) (W := (if v < w then w else v)) (κ := κ) (by unfold fval ferr; rw [if_pos ff, if_pos ff]; exact hk)
    rw [whole_in (by split <;> omega)] at this
    exact this
  · unfold r11_Op r11_Op_F
    simp only [q13, br_t, br_f, hB, h0]
    refine Of_sp hm (by omega) (by omega) fun c ic lc => Of_sp hm (by omega) (by omega) fun d id' ld => Of_sp hm (by omega) (by omega) fun g ig lg => ?_
    try dsimp only
    try simp only [q13, br_t, br_f]
    show G (br (eqB (ltI v w) false) (κ ⟨a, v, []⟩ 0) (κ ⟨a, w, []⟩ 0))
    refine br_sp (fun h => ?_) (fun h => ?_)
    · rw [ltI_d] at h
      by_cases q : v < w
      · rw [if_pos q] at hk; rw [decide_eq_true q] at h; exact nomatch h
      · rw [if_neg q] at hk; exact hk
    · rw [ltI_d] at h
      by_cases q : v < w
      · rw [if_pos q] at hk; exact hk
      · rw [if_neg q] at hk; rw [decide_eq_false q] at h; exact nomatch h
end
theorem both_neg {a : Nat} {v : Int} {l : List Int} {y : TapiValue} (hm : 1000001 ≤ m) (ha : a < 7) (v0 : -4503599627370496 ≤ v) (v1 : v ≤ 4503599627370496) : Both R m sneg ⟨a, v, l⟩ y := by
  obtain ⟨t, hU, hO⟩ := un_ev (R := R) (m := m) 14 a (by omega) ha
  have hU : ∀ κ : Int → Option R, r11_Unary m sneg a κ = κ t := hU
  have hO : ∀ κ : Int → Option R, typ_One m sneg a κ = κ t := hO
  by_cases h0 : t = 0
  · subst h0
    refine ⟨⟨0, 0, []⟩, 8, fun G κ hk => ?_, fun G κ hk => ?_, res8⟩
    · unfold mean_Op mean_Op_F mean_one mean_one_F
      simp only [q14, br_t, br_f, hO]
      exact hk
    · unfold r11_Op r11_Op_F
      simp only [q14, br_t, br_f, hU]
      exact hk
  have h0 := eqI_f.2 h0
  refine ⟨fval t (-v), ferr t (-v), fun G κ hk => ?_, fun G κ hk => ?_, res_f _ _⟩
  · unfold mean_Op mean_Op_F mean_one mean_one_F
    simp only [q14, br_t, br_f, hO, h0]
    refine nSub_sp (by omega) (by omega) (by omega) (by omega) (made_sp ?_)
    rw [Int.zero_sub]; exact hk
  · unfold r11_Op r11_Op_F
    simp only [q14, br_t, br_f, hU, h0]
    exact Of_sp hm (by omega) (by omega) fun c ic lc => Minus_sp ic hm fun d id' ed => fitted_sp id' (by rw [ed]; omega) hm hk
theorem both_not {a : Nat} {v : Int} {l : List Int} {y : TapiValue} (ha : a < 7) : Both R m snot ⟨a, v, l⟩ y := by
  obtain ⟨t, hU, hO⟩ := un_ev (R := R) (m := m) 15 a (by omega) ha
  have hU : ∀ κ : Int → Option R, r11_Unary m snot a κ = κ t := hU
  have hO : ∀ κ : Int → Option R, typ_One m snot a κ = κ t := hO
  by_cases h0 : t = 0
  · subst h0
    refine ⟨⟨0, 0, []⟩, 8, fun G κ hk => ?_, fun G κ hk => ?_, res8⟩
    · unfold mean_Op mean_Op_F mean_one mean_one_F
      simp only [q15, br_t, br_f, hO]
      exact hk
    · unfold r11_Op r11_Op_F
      simp only [q15, br_t, br_f, hU]
      exact hk
  have h0 := eqI_f.2 h0
  refine ⟨⟨1, if eqI v 0 = true then 1 else 0, []⟩, 0, fun G κ hk => ?_, fun G κ hk => ?_, res_t⟩
  · unfold mean_Op mean_Op_F mean_one mean_one_F
    simp only [q15, br_t, br_f, hO, h0]
    exact mtruth_sp hk
  · unfold r11_Op r11_Op_F
    simp only [q15, br_t, br_f, hU, h0]
    exact rtruth_sp hk
theorem Fine.nat {x : TapiValue} (F : Fine x) : ∃ a : Nat, x.f_Kind = a ∧ a ≤ 5 ∧ -4503599627370496 ≤ x.f_N ∧ x.f_N ≤ 4503599627370496 := by
  have h := fits_type F.2
  obtain ⟨a, ha⟩ := Int.eq_ofNat_of_zero_le (show 0 ≤ x.f_Kind by omega)
  have := fits_le F.2
  exact ⟨a, ha, by omega, this.1, this.2⟩
theorem one_word (hm : 1000001 ≤ m) (i : Nat) (hi : 14 ≤ i) (hi' : i < 16) {x y : TapiValue} (F : Fine x) : Both R m (wd i) x y := by
  obtain ⟨a, ea, ha, v0, v1⟩ := F.nat
  obtain ⟨xk, v, l⟩ := x
  dsimp only at *
  subst ea
  have hs : i = 14 ∨ i = 15 := by omega
  rcases hs with q | q <;> subst q
  · exact both_neg hm (by omega) v0 v1
  · exact both_not (by omega)
theorem two_words (hm : 1000001 ≤ m) (i : Nat) (hi : i < 14) {x y : TapiValue} (F : Fine x) (F' : Fine y) : Both R m (wd i) x y := by
  obtain ⟨a, ea, ha5, v0, v1⟩ := F.nat
  obtain ⟨b, eb, hb5, u0, u1⟩ := F'.nat
  obtain ⟨xk, v, l⟩ := x
  obtain ⟨yk, w, k⟩ := y
  obtain ⟨hl, fa⟩ := F
  obtain ⟨hk, fb⟩ := F'
  dsimp only at *
  subst ea; subst eb; subst hl; subst hk
  have ha : a < 7 := by omega
  have hb : b < 7 := by omega
  have hs : i = 0 ∨ i = 1 ∨ i = 2 ∨ i = 3 ∨ i = 4 ∨ i = 5 ∨ i = 6 ∨ i = 7 ∨ i = 8 ∨ i = 9 ∨ i = 10 ∨ i = 11 ∨ i = 12 ∨ i = 13 := by omega
  rcases hs with q | q | q | q | q | q | q | q | q | q | q | q | q | q <;> subst q
  · exact both_add hm ha hb v0 v1 u0 u1
  · exact both_sub hm ha hb v0 v1 u0 u1
  · exact both_mul hm ha hb v0 v1 u0 u1
  · exact both_div hm ha hb v0 v1 u0 u1
  · exact both_lt hm ha hb v0 v1 u0 u1
  · exact both_le hm ha hb v0 v1 u0 u1
  · exact both_gt hm ha hb v0 v1 u0 u1
  · exact both_ge hm ha hb v0 v1 u0 u1
  · exact both_eq hm ha hb v0 v1 u0 u1
  · exact both_ne hm ha hb v0 v1 u0 u1
  · exact both_and hm ha hb v0 v1 u0 u1 fa fb
  · exact both_or hm ha hb v0 v1 u0 u1 fa fb
  · exact both_min hm ha hb v0 v1 u0 u1 fa fb
  · exact both_max hm ha hb v0 v1 u0 u1 fa fb
end Go.Pm
