/- Words for the plain laws: what a branch, a guard, a comparison say. -/
import Derived.Test.YtjeipnpjkiapgaaGreatDoorPmA
set_option linter.unusedVariables false
set_option linter.unusedSectionVars false
set_option linter.unusedSimpArgs false
namespace Go.Pm
open Go Go.EvM Go.Pv
variable {R : Type}
theorem br_sp {G : Option R → Prop} {c : Bool} {t e : Option R} (ht : c = true → G t) (hf : c = false → G e) : G (br c t e) := by
  cases c
  · exact hf rfl
  · exact ht rfl
theorem br_g {G : Option R → Prop} {c : Bool} {t : Option R} (h : c = true) (ht : G t) : G (br c t none) := by
  subst h; exact ht
theorem ltI_t {a b : Int} : ltI a b = true ↔ a < b := by
  cases a <;> cases b <;> simp [ltI, Nat.blt] <;> omega
theorem leI_t {a b : Int} : leI a b = true ↔ a ≤ b := by
  cases a <;> cases b <;> simp [leI] <;> omega
theorem eqI_t {a b : Int} : eqI a b = true ↔ a = b := by
  cases a <;> cases b <;> simp [eqI] <;> omega
theorem ltI_f {a b : Int} : ltI a b = false ↔ b ≤ a := by
  rw [← Bool.not_eq_true, ltI_t]; omega
theorem leI_f {a b : Int} : leI a b = false ↔ b < a := by
  rw [← Bool.not_eq_true, leI_t]; omega
theorem eqI_f {a b : Int} : eqI a b = false ↔ a ≠ b := by
  rw [← Bool.not_eq_true, eqI_t]
theorem inB_t {n : Int} {len : Nat} : inB n len = true ↔ 0 ≤ n ∧ n < len := by
  cases n <;> simp [inB, Nat.blt] <;> omega
theorem wr_in {n : Int} (h : -9223372036854775808 ≤ n) (h' : n ≤ 9223372036854775807) : wr .i64 n = n := by
  have : in64 n = true := by
    cases n with
    | ofNat j => have h2 : (j : Int) ≤ 9223372036854775807 := h'; simp [in64, lim63]; omega
    | negSucc j => simp [in64, lim63]; omega
  simp [wr, this]
theorem okAp_t {b n : Nat} (hb : b ≤ 1000) (hn : n ≤ 1000000) : okAp b n = true := by
  have : n * b ≤ 1000000 * 1000 := Nat.mul_le_mul hn hb
  unfold okAp
  rw [Bool.and_eq_true, Nat.ble_eq, Nat.ble_eq]
  exact ⟨Nat.le_trans this (by decide), by omega⟩
theorem iNat_of {n : Int} (h : 0 ≤ n) : (iNat n : Int) = n := by
  cases n <;> simp [iNat] <;> omega
theorem iNat_lt {n : Int} {len : Nat} (h : n < len) (h0 : 0 < len) : iNat n < len := by
  cases n with
  | ofNat j => exact Int.ofNat_lt.1 h
  | negSucc j => exact h0
end Go.Pm
namespace Go.Pm
open Go Go.EvM Go.Pv
variable {R : Type} {G : Option R → Prop}
theorem Kept_L (m j : Nat) : ∀ {x0 : Int} {x1 : List UInt8} {x2 : List (List UInt8)} {e0 : Unit → Option R} {er : Bool → Option R}, 0 ≤ x0 → x2.length < 1000 → x2.length - x0 < j → 0 < j → G (e0 ()) → (∀ b, G (er b)) → G (publicanref9_Kept_L0 m j x0 x1 x2 e0 er) := by
  induction j with
  | zero => intro x0 x1 x2 e0 er h0 hl hj hj0 he hr; exact absurd hj0 (by omega)
  | succ j ih =>
    intro x0 x1 x2 e0 er h0 hl hj hj0 he hr
    unfold publicanref9_Kept_L0 publicanref9_Kept_S0
    refine br_sp (fun hc => ?_) (fun hc => he)
    have hc := ltI_t.1 hc
    refine br_g (inB_t.2 ⟨h0, hc⟩) ?_
    refine br_sp (fun _ => hr _) (fun _ => ?_)
    rw [wr_in (by omega) (by omega)]
    exact ih (by omega) hl (by omega) (by omega) he hr
theorem Kept_sp {m : Nat} (hm : 100 ≤ m) (s : List UInt8) {κ : Bool → Option R} (hk : ∀ r, G (κ r)) : G (publicanref9_Kept m s κ) := by
  unfold publicanref9_Kept
  exact Kept_L m m (by omega) (by decide) (by simp; omega) (by omega) (hk _) hk
theorem Kind_L (m j : Nat) : ∀ {x0 : Int} {x1 : List UInt8} {x2 : List (List UInt8)} {e0 : Unit → Option R} {er : Int → Option R}, 0 ≤ x0 → x2.length = 7 → 7 - x0 < j → 0 < j → G (e0 ()) → (∀ b, G (er b)) → G (publicanref9_Kind_L0 m j x0 x1 x2 e0 er) := by
  induction j with
  | zero => intro x0 x1 x2 e0 er h0 hl hj hj0 he hr; exact absurd hj0 (by omega)
  | succ j ih =>
    intro x0 x1 x2 e0 er h0 hl hj hj0 he hr
    unfold publicanref9_Kind_L0 publicanref9_Kind_S0
    refine br_sp (fun hc => ?_) (fun hc => he)
    have hc := ltI_t.1 hc
    refine br_g (inB_t.2 ⟨h0, by omega⟩) ?_
    refine br_sp (fun _ => hr _) (fun _ => ?_)
    rw [wr_in (by omega) (by omega)]
    exact ih (by omega) hl (by omega) (by omega) he hr
theorem Kind_sp {m : Nat} (hm : 100 ≤ m) (s : List UInt8) {κ : Int → Option R} (hk : ∀ r, G (κ r)) : G (publicanref9_Kind m s κ) := by
  unfold publicanref9_Kind
  exact Kind_L m m (by omega) (by decide) (by omega) (by omega) (hk _) hk
theorem number_L (m j : Nat) : ∀ {x0 x1 : Int} {x2 : List UInt8} {x3 : Int} {e0 : Int → Option R} {er : Int → Bool → Option R}, 0 ≤ x0 → x2.length < 100000 → x2.length - x0 < j → 0 < j → (∀ v, G (e0 v)) → (∀ v b, G (er v b)) → G (publicanref9_number_L0 m j x0 x1 x2 x3 e0 er) := by
  induction j with
  | zero => intro x0 x1 x2 x3 e0 er h0 hl hj hj0 he hr; exact absurd hj0 (by omega)
  | succ j ih =>
    intro x0 x1 x2 x3 e0 er h0 hl hj hj0 he hr
    unfold publicanref9_number_L0 publicanref9_number_S0
    refine br_sp (fun hc => ?_) (fun hc => he _)
    have hc := ltI_t.1 hc
    refine br_sp (fun _ => hr _ _) (fun _ => ?_)
    refine br_g (inB_t.2 ⟨h0, by omega⟩) ?_
    refine br_sp (fun _ => hr _ _) (fun _ => ?_)
    rw [wr_in (n := x0 + 1) (by omega) (by omega)]
    exact ih (by omega) hl (by omega) (by omega) he hr
theorem number_sp {m : Nat} {s : List UInt8} (hs : s.length < 100000) (hm : s.length < m) (a : Int) {κ : Int → Bool → Option R} (hk : ∀ v b, G (κ v b)) : G (publicanref9_number m s a κ) := by
  unfold publicanref9_number
  exact number_L m m (by omega) hs (by omega) (by omega) (fun _ => hk _ _) hk
theorem money_sp {m : Nat} {s t : List UInt8} (hs : s.length < 100000) (hm : s.length < m) (ht : t.length < 100000) (hm' : t.length < m) {κ : Int → Bool → Option R} (hk : ∀ v b, G (κ v b)) : G (publicanref9_money m s t κ) := by
  unfold publicanref9_money
  refine number_sp hs hm _ fun v b => number_sp ht hm' _ fun v' b' => ?_
  dsimp only
  repeat' (first | apply hk | (refine br_sp (fun _ => ?_) (fun _ => ?_)))
theorem percent_L (m j : Nat) : ∀ {x0 x1 : List UInt8} {e0 : List UInt8 → List UInt8 → Option R}, (4 : Int) - x0.length < j → 0 < j → x0.length < 100000 → (∀ v, v.length < 100000 → G (e0 v x1)) → G (publicanref9_percent_L0 m j x0 x1 e0) := by
  induction j with
  | zero => intro x0 x1 e0 hj hj0 hl he; exact absurd hj0 (by omega)
  | succ j ih =>
    intro x0 x1 e0 hj hj0 hl he
    unfold publicanref9_percent_L0 publicanref9_percent_S0
    refine br_sp (fun hc => ?_) (fun hc => he _ hl)
    have hc := ltI_t.1 hc
    have hs : s0.length = 1 := rfl
    refine br_g (by unfold catOk; rw [hs]; rw [Nat.blt_eq]; show _ + 1 < lim63; unfold lim63; omega) ?_
    have : (x0 ++ s0).length = x0.length + 1 := by rw [List.length_append, hs]
    exact ih (by omega) (by omega) (by omega) he
theorem percent_sp {m : Nat} {s t : List UInt8} (hs : s.length < 100000) (hm : 100000 ≤ m) (ht : t.length < 100000) {κ : Int → Bool → Option R} (hk : ∀ v b, G (κ v b)) : G (publicanref9_percent m s t κ) := by
  unfold publicanref9_percent
  refine percent_L m m (by omega) (by omega) ht fun w hw => ?_
  refine number_sp hs (by omega) _ fun v b => number_sp hw (by omega) _ fun v' b' => ?_
  dsimp only
  repeat' (first | apply hk | (refine br_sp (fun _ => ?_) (fun _ => ?_)))
theorem Leap_sp {m : Nat} (a : Int) {κ : Bool → Option R} (hk : ∀ r, G (κ r)) : G (publicanref1_Leap m a κ) := by
  unfold publicanref1_Leap
  dsimp only
  repeat' (first | apply hk | (refine br_sp (fun _ => ?_) (fun _ => ?_)))
theorem Days_sp {m : Nat} (a b : Int) {κ : Int → Option R} (hk : ∀ r, G (κ r)) : G (publicanref1_Days m a b κ) := by
  unfold publicanref1_Days
  dsimp only
  repeat' (first | apply hk | (refine br_sp (fun _ => ?_) (fun _ => ?_)) | (refine Leap_sp _ fun _ => ?_))
theorem Day_L1 (m j : Nat) : ∀ {x0 x1 x2 x3 x4 : Int} {e2 : Int → Int → Option R}, -1000 ≤ x0 → x4 < 100000 → x4 - x0 < j → 0 < j → (∀ v w, G (e2 v w)) → G (publicanref1_Day_L1 m j x0 x1 x2 x3 x4 e2) := by
  induction j with
  | zero => intro x0 x1 x2 x3 x4 e2 h0 h4 hj hj0 he; exact absurd hj0 (by omega)
  | succ j ih =>
    intro x0 x1 x2 x3 x4 e2 h0 h4 hj hj0 he
    unfold publicanref1_Day_L1 publicanref1_Day_S1
    refine br_sp (fun hc => ?_) (fun hc => he _ _)
    have hc := ltI_t.1 hc
    refine Days_sp _ _ fun r => ?_
    rw [wr_in (n := x0 + 1) (by omega) (by omega)]
    exact ih (by omega) h4 (by omega) (by omega) he
theorem Day_L0 (m j : Nat) : ∀ {x0 x1 x2 x3 x4 : Int} {e0 : Int → Int → Int → Int → Option R}, -1000 ≤ x0 → x2 < 100000 → x2 - x0 < j → 0 < j → (∀ v, G (e0 x2 v x3 x4)) → G (publicanref1_Day_L0 m j x0 x1 x2 x3 x4 e0) := by
  induction j with
  | zero => intro x0 x1 x2 x3 x4 e0 h0 h4 hj hj0 he; exact absurd hj0 (by omega)
  | succ j ih =>
    intro x0 x1 x2 x3 x4 e0 h0 h4 hj hj0 he
    unfold publicanref1_Day_L0 publicanref1_Day_S0
    refine br_sp (fun hc => ?_) (fun hc => he _)
    have hc := ltI_t.1 hc
    refine Leap_sp _ fun r => ?_
    rw [wr_in (n := x0 + 1) (by omega) (by omega)]
    refine br_sp (fun _ => ?_) (fun _ => ?_)
    · exact ih (by omega) h4 (by omega) (by omega) he
    · exact ih (by omega) h4 (by omega) (by omega) he
theorem Day_sp {m : Nat} (hm : 1000 ≤ m) (a b c : Int) {κ : Int → Bool → Option R} (hk : ∀ v w, G (κ v w)) : G (publicanref1_Day m a b c κ) := by
  unfold publicanref1_Day
  refine br_sp (fun _ => hk _ _) (fun h1 => br_sp (fun _ => hk _ _) (fun h2 => br_sp (fun _ => hk _ _) (fun h3 => br_sp (fun _ => hk _ _) (fun h4 => br_sp (fun _ => hk _ _) (fun h5 => ?_)))))
  have h1 := ltI_f.1 h1; have h2 := ltI_f.1 h2; have h3 := ltI_f.1 h3; have h4 := ltI_f.1 h4
  refine Days_sp _ _ fun r => br_sp (fun _ => hk _ _) (fun _ => ?_)
  refine Day_L0 m m (by omega) (by omega) (by omega) (by omega) fun v => ?_
  refine Day_L1 m m (by omega) (by omega) (by omega) (by omega) fun v w => ?_
  exact hk _ _
theorem ReadDay_L (m j : Nat) : ∀ {x0 : Int} {x1 : List UInt8} {x2 : List Int} {e0 : List Int → Option R} {er : Int → Bool → Option R}, 0 ≤ x0 → x1.length = 10 → x2.length = 3 → 10 - x0 < j → 0 < j → (∀ l, l.length = 3 → G (e0 l)) → (∀ v b, G (er v b)) → G (publicanref1_ReadDay_L0 m j x0 x1 x2 e0 er) := by
  induction j with
  | zero => intro x0 x1 x2 e0 er h0 hl h2 hj hj0 he hr; exact absurd hj0 (by omega)
  | succ j ih =>
    intro x0 x1 x2 e0 er h0 hl h2 hj hj0 he hr
    unfold publicanref1_ReadDay_L0 publicanref1_ReadDay_S0
    refine br_sp (fun hc => ?_) (fun hc => he _ h2)
    have hc := ltI_t.1 hc
    rw [wr_in (n := x0 + 1) (by omega) (by omega)]
    have gx : inB x0 x1.length = true := inB_t.2 ⟨h0, by omega⟩
    have g0 : inB 0 x2.length = true := inB_t.2 ⟨by omega, by omega⟩
    have g1 : inB 1 x2.length = true := inB_t.2 ⟨by omega, by omega⟩
    have g2 : inB 2 x2.length = true := inB_t.2 ⟨by omega, by omega⟩
    repeat' (first | apply hr | exact ih (by omega) hl (by first | exact h2 | (rw [List.length_set]; exact h2)) (by omega) (by omega) he hr | (refine br_g gx ?_) | (refine br_g g0 ?_) | (refine br_g g1 ?_) | (refine br_g g2 ?_) | (refine br_sp (fun _ => ?_) (fun _ => ?_)))
theorem ReadDay_sp {m : Nat} (hm : 1000 ≤ m) (a : List UInt8) {κ : Int → Bool → Option R} (hk : ∀ v w, G (κ v w)) : G (publicanref1_ReadDay m a κ) := by
  unfold publicanref1_ReadDay
  refine br_sp (fun _ => hk _ _) (fun h1 => ?_)
  have h1 : (a.length : Int) = 10 := eqI_t.1 (by simpa using h1)
  have hl : a.length = 10 := by omega
  refine br_g (inB_t.2 ⟨by omega, by omega⟩) (br_sp (fun _ => hk _ _) (fun _ => br_g (inB_t.2 ⟨by omega, by omega⟩) (br_sp (fun _ => hk _ _) (fun _ => ?_))))
  refine ReadDay_L m m (by omega) hl rfl (by omega) (by omega) (fun l hl3 => ?_) hk
  refine br_g (inB_t.2 ⟨by omega, by omega⟩) (br_g (inB_t.2 ⟨by omega, by omega⟩) (br_g (inB_t.2 ⟨by omega, by omega⟩) ?_))
  exact Day_sp hm _ _ _ hk
end Go.Pm
namespace Go.Pm
open Go Go.EvM Go.Pv
variable {R : Type} {G : Option R → Prop}
noncomputable def pw (st : T_publicanref9_parser) : T_publicanref9_Word := el5 st.f_l (iNat st.f_k)
structure WsOk (l : List T_publicanref9_Word) : Prop where
  len : l.length ≤ 100000
  at0 : ∀ i, i < l.length → 0 ≤ (el5 l i).f_At
  last : ∀ i, i < l.length → (el5 l i).f_Kind ≠ 0 → i + 1 < l.length
structure Inv (l : List T_publicanref9_Word) (st : T_publicanref9_parser) : Prop where
  lw : st.f_l = l
  k0 : 0 ≤ st.f_k
  kl : st.f_k < l.length
  d0 : 0 ≤ st.f_d
  d4 : st.f_d ≤ 40
structure Stp (s t : T_publicanref9_parser) : Prop where
  k : s.f_k ≤ t.f_k
  d : t.f_d = s.f_d
  bad : 0 ≤ s.f_bad → 0 ≤ t.f_bad
def Prg (s t : T_publicanref9_parser) : Prop := s.f_k < t.f_k ∨ 0 ≤ t.f_bad
theorem Stp.rfl' {s : T_publicanref9_parser} : Stp s s := ⟨Int.le_refl _, rfl, id⟩
theorem Stp.trans {s t u : T_publicanref9_parser} (h : Stp s t) (h' : Stp t u) : Stp s u := ⟨Int.le_trans h.k h'.k, h'.d.trans h.d, fun b => h'.bad (h.bad b)⟩
theorem Prg.of_l {s t u : T_publicanref9_parser} (h : Prg s t) (h' : Stp t u) : Prg s u := h.elim (fun a => .inl (by have := h'.k; omega)) (fun b => .inr (h'.bad b))
theorem Prg.of_r {s t u : T_publicanref9_parser} (h' : Stp s t) (h : Prg t u) : Prg s u := h.elim (fun a => .inl (by have := h'.k; omega)) .inr
variable {l : List T_publicanref9_Word} {st : T_publicanref9_parser} {m : Nat}
theorem Inv.inB (h : Inv l st) : inB st.f_k st.f_l.length = true := inB_t.2 ⟨h.k0, by rw [h.lw]; exact h.kl⟩
theorem Inv.lt (h : Inv l st) : iNat st.f_k < l.length := by
  have := h.kl
  exact iNat_lt this (by have := h.k0; omega)
theorem Inv.at0 (hw : WsOk l) (h : Inv l st) : 0 ≤ (pw st).f_At := by
  unfold pw; rw [h.lw]; exact hw.at0 _ h.lt
def adv (st : T_publicanref9_parser) : T_publicanref9_parser := .mk st.f_l (st.f_k + 1) st.f_bad st.f_deep st.f_d
theorem Inv.next (hw : WsOk l) (h : Inv l st) (hk : (pw st).f_Kind ≠ 0) : st.f_k + 1 < l.length := by
  unfold pw at hk; rw [h.lw] at hk
  have := hw.last _ h.lt hk
  have := iNat_of h.k0
  omega
theorem Inv.adv (hw : WsOk l) (h : Inv l st) (hk : (pw st).f_Kind ≠ 0) : Inv l (adv st) :=
  ⟨h.lw, by show 0 ≤ st.f_k + 1; have := h.k0; omega, h.next hw hk, h.d0, h.d4⟩
theorem adv_stp : Stp st (adv st) := ⟨by show _ ≤ st.f_k + 1; omega, rfl, id⟩
theorem adv_prg : Prg st (adv st) := .inl (by show _ < st.f_k + 1; omega)
theorem Inv.wr1 (hw : WsOk l) (h : Inv l st) : wr .i64 (st.f_k + 1) = st.f_k + 1 := by
  have := h.k0; have := h.kl; have := hw.len
  exact wr_in (by omega) (by omega)
theorem w_sp (h : Inv l st) {κ : T_publicanref9_Word → T_publicanref9_parser → Option R} (hk : G (κ (pw st) st)) : G (publicanref9_parser_w m st κ) := by
  unfold publicanref9_parser_w
  exact br_g h.inB hk
noncomputable def failS (st : T_publicanref9_parser) : T_publicanref9_parser := if st.f_bad < 0 then .mk st.f_l st.f_k (pw st).f_At st.f_deep st.f_d else st
noncomputable def limS (st : T_publicanref9_parser) : T_publicanref9_parser := if st.f_bad < 0 then .mk st.f_l st.f_k (pw st).f_At true st.f_d else st
theorem fail_sp (h : Inv l st) {κ : T_publicanref9_parser → Option R} (hk : G (κ (failS st))) : G (publicanref9_parser_fail m st κ) := by
  unfold publicanref9_parser_fail
  refine br_sp (fun hc => w_sp h ?_) (fun hc => ?_)
  · unfold failS at hk; rw [if_pos (ltI_t.1 hc)] at hk; exact hk
  · unfold failS at hk; rw [if_neg (by have := ltI_f.1 hc; omega)] at hk; exact hk
theorem limit_sp (h : Inv l st) {κ : T_publicanref9_parser → Option R} (hk : G (κ (limS st))) : G (publicanref9_parser_limit m st κ) := by
  unfold publicanref9_parser_limit
  refine br_sp (fun hc => w_sp h ?_) (fun hc => ?_)
  · unfold limS at hk; rw [if_pos (ltI_t.1 hc)] at hk; exact hk
  · unfold limS at hk; rw [if_neg (by have := ltI_f.1 hc; omega)] at hk; exact hk
theorem failS_inv (h : Inv l st) : Inv l (failS st) := by
  unfold failS; split
  · exact ⟨h.lw, h.k0, h.kl, h.d0, h.d4⟩
  · exact h
theorem limS_inv (h : Inv l st) : Inv l (limS st) := by
  unfold limS; split
  · exact ⟨h.lw, h.k0, h.kl, h.d0, h.d4⟩
  · exact h
theorem failS_bad (hw : WsOk l) (h : Inv l st) : 0 ≤ (failS st).f_bad := by
  unfold failS; split
  · exact h.at0 hw
  · omega
theorem limS_bad (hw : WsOk l) (h : Inv l st) : 0 ≤ (limS st).f_bad := by
  unfold limS; split
  · exact h.at0 hw
  · omega
theorem failS_stp (hw : WsOk l) (h : Inv l st) : Stp st (failS st) := by
  have hb := failS_bad hw h
  refine ⟨?_, ?_, fun _ => hb⟩ <;> (unfold failS; split <;> first | exact Int.le_refl _ | rfl)
theorem limS_stp (hw : WsOk l) (h : Inv l st) : Stp st (limS st) := by
  have hb := limS_bad hw h
  refine ⟨?_, ?_, fun _ => hb⟩ <;> (unfold limS; split <;> first | exact Int.le_refl _ | rfl)
theorem is_sp (h : Inv l st) (s : List UInt8) {κ : Bool → T_publicanref9_parser → Option R} (hk : ∀ r, (r = true → st.f_bad < 0 ∧ ((pw st).f_Kind = 2 ∨ (pw st).f_Kind = 7) ∧ eqL (pw st).f_Text s = true) → G (κ r st)) : G (publicanref9_parser_is m st s κ) := by
  unfold publicanref9_parser_is
  refine w_sp h (br_sp (fun h1 => br_sp (fun h2 => w_sp h ?_) (fun h2 => br_sp (fun h3 => w_sp h ?_) (fun h3 => ?_))) (fun h1 => ?_))
  · exact hk _ fun hr => ⟨ltI_t.1 h1, .inl (eqI_t.1 h2), hr⟩
  · exact hk _ fun hr => ⟨ltI_t.1 h1, .inr (eqI_t.1 h3), hr⟩
  · exact hk _ fun hr => nomatch hr
  · exact hk _ fun hr => nomatch hr
theorem take_sp (hw : WsOk l) (h : Inv l st) (s : List UInt8) {κ : Bool → T_publicanref9_parser → Option R} (hf : G (κ false st)) (ht : st.f_bad < 0 → (pw st).f_Kind ≠ 0 → Inv l (adv st) → G (κ true (adv st))) : G (publicanref9_parser_take m st s κ) := by
  unfold publicanref9_parser_take
  refine is_sp h s fun r hr => br_sp (fun hc => hf) (fun hc => ?_)
  have hr := hr (by simpa using hc)
  have hne : (pw st).f_Kind ≠ 0 := by rcases hr.2.1 with e | e <;> rw [e] <;> decide
  rw [h.wr1 hw]
  exact ht hr.1 hne (h.adv hw hne)
theorem want_sp (hw : WsOk l) (h : Inv l st) (s : List UInt8) {κ : T_publicanref9_parser → Option R} (hk : ∀ t, Inv l t → Stp st t → Prg st t → G (κ t)) : G (publicanref9_parser_want m st s κ) := by
  unfold publicanref9_parser_want
  refine take_sp hw h s (br_sp (fun _ => ?_) (fun hc => nomatch hc)) (fun _ hne hi => br_sp (fun hc => nomatch hc) (fun _ => ?_))
  · exact fail_sp h (hk _ (failS_inv h) (failS_stp hw h) (.inr (failS_bad hw h)))
  · exact hk _ hi adv_stp adv_prg
theorem name_sp (hw : WsOk l) (h : Inv l st) {κ : List UInt8 → T_publicanref9_parser → Option R} (hk : ∀ r t, Inv l t → Stp st t → Prg st t → G (κ r t)) : G (publicanref9_parser_name m st κ) := by
  unfold publicanref9_parser_name
  refine br_sp (fun _ => ?_) (fun hc => w_sp h (br_sp (fun _ => ?_) (fun hc => ?_)))
  · exact fail_sp h (hk _ _ (failS_inv h) (failS_stp hw h) (.inr (failS_bad hw h)))
  · exact fail_sp h (hk _ _ (failS_inv h) (failS_stp hw h) (.inr (failS_bad hw h)))
  · have hk1 : (pw st).f_Kind = 1 := eqI_t.1 (by simpa using hc)
    have hne : (pw st).f_Kind ≠ 0 := by rw [hk1]; decide
    have hi := h.adv hw hne
    dsimp only
    rw [h.wr1 hw, show st.f_k + 1 - 1 = st.f_k from by omega, wr_in (n := st.f_k) (by have := h.k0; omega) (by have := h.kl; have := hw.len; omega)]
    exact br_g h.inB (hk _ _ hi adv_stp adv_prg)
theorem kind_sp (hw : WsOk l) (hm : 100 ≤ m) (h : Inv l st) {κ : Int → T_publicanref9_parser → Option R} (hk : ∀ r t, Inv l t → Stp st t → Prg st t → G (κ r t)) : G (publicanref9_parser_kind m st κ) := by
  have hF : ∀ r, G (publicanref9_parser_fail m st (fun t => κ r t)) := fun r => fail_sp h (hk _ _ (failS_inv h) (failS_stp hw h) (.inr (failS_bad hw h)))
  unfold publicanref9_parser_kind
  refine br_sp (fun _ => w_sp h (br_sp (fun h2 => w_sp h (Kind_sp hm _ fun r => br_sp (fun _ => hF _) (fun _ => ?_))) (fun _ => hF _))) (fun _ => hF _)
  have hne : (pw st).f_Kind ≠ 0 := by rw [eqI_t.1 h2]; decide
  rw [h.wr1 hw]
  exact hk _ _ (h.adv hw hne) adv_stp adv_prg
theorem islit_sp (h : Inv l st) {κ : Bool → T_publicanref9_parser → Option R} (hk : ∀ r, (r = true → (pw st).f_Kind ≠ 0) → G (κ r st)) : G (publicanref9_parser_islit m st κ) := by
  unfold publicanref9_parser_islit
  have hI : ∀ s : List UInt8, ∀ {κ : Bool → T_publicanref9_parser → Option R}, (∀ r, (r = true → (pw st).f_Kind ≠ 0) → G (κ r st)) → G (publicanref9_parser_is m st s κ) := fun s κ hk => is_sp h s fun r hr => hk r fun e => by
    rcases (hr e).2.1 with e | e <;> rw [e] <;> decide
  have hT : G (publicanref9_parser_is m st strue (fun r21 o0_21 => br (r21) (κ true o0_21) (publicanref9_parser_is m o0_21 sfalse (fun r25 o0_25 => κ r25 o0_25)))) :=
    hI _ fun r hr => br_sp (fun e => hk _ fun _ => hr e) (fun _ => hI _ fun r hr => hk _ hr)
  refine w_sp h (br_sp (fun _ => br_sp (fun h3 => br_sp (fun _ => ?_) (fun _ => hT)) (fun _ => hT)) (fun _ => ?_))
  · exact hk _ fun _ => by have := leI_t.1 h3; omega
  · exact hk _ fun e => nomatch e
theorem lit_sp (hw : WsOk l) (h : Inv l st) {κ : T_publicanref9_Node → T_publicanref9_parser → Option R} (hk : ∀ r t, Inv l t → Stp st t → Prg st t → r.f_Kids = [] → G (κ r t)) : G (publicanref9_parser_lit m st κ) := by
  unfold publicanref9_parser_lit
  refine islit_sp h fun r hr => br_sp (fun _ => ?_) (fun hc => w_sp h ?_)
  · exact fail_sp h (hk _ _ (failS_inv h) (failS_stp hw h) (.inr (failS_bad hw h)) rfl)
  · have hne := hr (by simpa using hc)
    have hi := h.adv hw hne
    dsimp only
    rw [h.wr1 hw]
    repeat' (first | exact hk _ _ hi adv_stp adv_prg rfl | (refine br_sp (fun _ => ?_) (fun _ => ?_)))
end Go.Pm
namespace Go.Pm
open Go Go.EvM Go.Pv
variable {R : Type} {G : Option R → Prop}
def Sm : Nat → T_publicanref9_Node → Prop
  | 0, _ => False
  | n + 1, x => x.f_Kids.length ≤ 100000 ∧ ∀ y, y ∈ x.f_Kids → Sm n y
theorem Sm.succ : ∀ {n : Nat} {x : T_publicanref9_Node}, Sm n x → Sm (n + 1) x
  | 0, _, h => h.elim
  | _ + 1, _, h => ⟨h.1, fun y hy => (h.2 y hy).succ⟩
theorem Sm.mono {n m : Nat} {x : T_publicanref9_Node} (h : Sm n x) (hnm : n ≤ m) : Sm m x := by
  induction hnm with
  | refl => exact h
  | step _ ih => exact ih.succ
theorem Sm.leaf {a b : List UInt8} {c d e : Int} {n : Nat} : Sm (n + 1) (.mk a b c d e []) := ⟨by show 0 ≤ _; omega, fun _ h => nomatch h⟩
theorem Sm.one {a b : List UInt8} {c d e : Int} {n : Nat} {x : T_publicanref9_Node} (h : Sm n x) : Sm (n + 1) (.mk a b c d e [x]) :=
  ⟨by show 1 ≤ _; omega, fun y hy => by rcases List.mem_singleton.1 hy with rfl; exact h⟩
theorem Sm.two {a b : List UInt8} {c d e : Int} {n : Nat} {x y : T_publicanref9_Node} (h : Sm n x) (h' : Sm n y) : Sm (n + 1) (.mk a b c d e [x, y]) :=
  ⟨by show 2 ≤ _; omega, fun z hz => by
    rcases List.mem_cons.1 hz with rfl | hz
    · exact h
    · rcases List.mem_singleton.1 hz with rfl; exact h'⟩
theorem Sm.three {a b : List UInt8} {c d e : Int} {n : Nat} {x y w : T_publicanref9_Node} (h : Sm n x) (h' : Sm n y) (h'' : Sm n w) : Sm (n + 1) (.mk a b c d e [x, y, w]) :=
  ⟨by show 3 ≤ _; omega, fun z hz => by
    rcases List.mem_cons.1 hz with rfl | hz
    · exact h
    · rcases List.mem_cons.1 hz with rfl | hz
      · exact h'
      · rcases List.mem_singleton.1 hz with rfl; exact h''⟩
variable {l : List T_publicanref9_Word} {st : T_publicanref9_parser} {m : Nat}
def Kont (l : List T_publicanref9_Word) (st : T_publicanref9_parser) (G : Option R → Prop) (κ : T_publicanref9_Node → T_publicanref9_parser → Option R) : Prop :=
  ∀ r t, Inv l t → Stp st t → Prg st t → Sm (1 + (t.f_k - st.f_k).toNat) r → G (κ r t)
structure GOk (l : List T_publicanref9_Word) (j : Nat) (g : G_publicanref9_parser_expr R) : Prop where
  expr : ∀ {G : Option R → Prop} {st : T_publicanref9_parser} {κ : T_publicanref9_Node → T_publicanref9_parser → Option R}, Inv l st → 110001 + 20 * (40 - st.f_d) ≤ (j : Int) → Kont l st G κ → G (g.publicanref9_parser_expr st κ)
  inside : ∀ {G : Option R → Prop} {st : T_publicanref9_parser} {κ : T_publicanref9_Node → T_publicanref9_parser → Option R}, Inv l st → 110020 + 20 * (40 - st.f_d) ≤ (j : Int) → Kont l st G κ → G (g.publicanref9_parser_inside st κ)
  row : ∀ {G : Option R → Prop} {st : T_publicanref9_parser} {a : Int} {κ : T_publicanref9_Node → T_publicanref9_parser → Option R}, 0 ≤ a → a ≤ 5 → Inv l st → 110019 - a + 20 * (40 - st.f_d) ≤ (j : Int) → Kont l st G κ → G (g.publicanref9_parser_row st a κ)
  un : ∀ {G : Option R → Prop} {st : T_publicanref9_parser} {κ : T_publicanref9_Node → T_publicanref9_parser → Option R}, Inv l st → 110013 + 20 * (40 - st.f_d) ≤ (j : Int) → Kont l st G κ → G (g.publicanref9_parser_un st κ)
  prim : ∀ {G : Option R → Prop} {st : T_publicanref9_parser} {κ : T_publicanref9_Node → T_publicanref9_parser → Option R}, Inv l st → 110012 + 20 * (40 - st.f_d) ≤ (j : Int) → Kont l st G κ → G (g.publicanref9_parser_prim st κ)
def dn (st : T_publicanref9_parser) : T_publicanref9_parser := .mk st.f_l st.f_k st.f_bad st.f_deep (st.f_d + 1)
def up (st : T_publicanref9_parser) : T_publicanref9_parser := .mk st.f_l st.f_k st.f_bad st.f_deep (st.f_d - 1)
theorem in_sp (hw : WsOk l) (h : Inv l st) {κ : Bool → T_publicanref9_parser → Option R} (hf : ∀ t, Inv l t → Stp st t → 0 ≤ t.f_bad → G (κ false t)) (ht : st.f_d < 40 → Inv l (dn st) → G (κ true (dn st))) : G (publicanref9_parser_in m st κ) := by
  unfold publicanref9_parser_in
  refine br_sp (fun hc => hf _ h .rfl' (leI_t.1 hc)) (fun _ => br_sp (fun _ => ?_) (fun hc => ?_))
  · exact limit_sp h (hf _ (limS_inv h) (limS_stp hw h) (limS_bad hw h))
  · have h4 := leI_f.1 hc
    rw [wr_in (by have := h.d0; omega) (by omega)]
    exact ht h4 ⟨h.lw, h.k0, h.kl, by show 0 ≤ st.f_d + 1; have := h.d0; omega, by show st.f_d + 1 ≤ 40; omega⟩
theorem out_sp (h : Inv l st) {κ : T_publicanref9_parser → Option R} (hk : G (κ (up st))) : G (publicanref9_parser_out m st κ) := by
  unfold publicanref9_parser_out
  dsimp only
  rw [wr_in (by have := h.d0; omega) (by have := h.d4; omega)]
  exact hk
theorem mk_eta (r : T_publicanref9_Node) : T_publicanref9_Node.mk r.f_Op r.f_Name r.f_Kind r.f_N r.f_At r.f_Kids = r := by cases r; rfl
theorem up_inv (h : Inv l st) (h1 : 1 ≤ st.f_d) : Inv l (up st) := ⟨h.lw, h.k0, h.kl, by show 0 ≤ st.f_d - 1; omega, by show st.f_d - 1 ≤ 40; have := h.d4; omega⟩
theorem up_stp {s t : T_publicanref9_parser} (h : Stp (dn s) t) : Stp s (up t) := ⟨h.k, by show t.f_d - 1 = s.f_d; have : t.f_d = s.f_d + 1 := h.d; omega, h.bad⟩
theorem expr_B_sp (hw : WsOk l) {j : Nat} {g : G_publicanref9_parser_expr R} (hg : GOk l j g) (h : Inv l st) (hj : 110001 + 20 * (40 - st.f_d) ≤ ((j + 1 : Nat) : Int)) {κ : T_publicanref9_Node → T_publicanref9_parser → Option R} (hk : Kont l st G κ) : G (publicanref9_parser_expr_B j g st κ) := by
  unfold publicanref9_parser_expr_B
  refine in_sp hw h (fun t ht hs hb => ?_) (fun h4 hi => ?_)
  · exact hk _ _ ht hs (.inr hb) (by rw [Nat.add_comm]; exact Sm.leaf)
  · refine hg.inside hi (by show 110020 + 20 * (40 - (st.f_d + 1)) ≤ (j : Int); omega) fun r t ht hs hp hr => ?_
    refine out_sp ht ?_
    rw [mk_eta]
    exact hk r _ (up_inv ht (by have : t.f_d = st.f_d + 1 := hs.d; have := h.d0; omega)) (up_stp hs) hp hr
theorem inside_B_sp (hw : WsOk l) {j : Nat} {g : G_publicanref9_parser_expr R} (hg : GOk l j g) (h : Inv l st) (hj : 110020 + 20 * (40 - st.f_d) ≤ ((j + 1 : Nat) : Int)) {κ : T_publicanref9_Node → T_publicanref9_parser → Option R} (hk : Kont l st G κ) : G (publicanref9_parser_inside_B j g st κ) := by
  unfold publicanref9_parser_inside_B
  refine w_sp h (take_sp hw h _ ?_ (fun _ _ hi => ?_))
  · exact hg.row (by omega) (by omega) h (by omega) fun r t i s p m => by rw [mk_eta]; exact hk r t i s p m
  · refine hg.expr hi (by show 110001 + 20 * (40 - st.f_d) ≤ (j : Int); omega) fun r1 t1 i1 s1 p1 m1 => ?_
    refine want_sp hw i1 _ fun t2 i2 s2 p2 => ?_
    have hd2 : t2.f_d = st.f_d := (s1.trans s2).d
    refine hg.expr i2 (by omega) fun r3 t3 i3 s3 p3 m3 => ?_
    refine want_sp hw i3 _ fun t4 i4 s4 p4 => ?_
    have hd4 : t4.f_d = st.f_d := (((s1.trans s2).trans s3).trans s4).d
    refine hg.expr i4 (by omega) fun r5 t5 i5 s5 p5 m5 => ?_
    have k0 : (adv st).f_k = st.f_k + 1 := rfl
    have k1 := s1.k; have k2 := s2.k; have k3 := s3.k; have k4 := s4.k; have k5 := s5.k
    refine hk _ t5 i5 (adv_stp.trans ((((s1.trans s2).trans s3).trans s4).trans s5)) (adv_prg.of_l ((((s1.trans s2).trans s3).trans s4).trans s5)) ?_
    rw [show 1 + (t5.f_k - st.f_k).toNat = (t5.f_k - st.f_k).toNat + 1 from by omega]
    simp only [mk_eta]
    exact .three (m1.mono (by rw [k0] at k1 ⊢; omega)) (m3.mono (by rw [k0] at k1; omega)) (m5.mono (by rw [k0] at k1; omega))
theorem un_B_sp (hw : WsOk l) {j : Nat} {g : G_publicanref9_parser_expr R} (hg : GOk l j g) (h : Inv l st) (hj : 110013 + 20 * (40 - st.f_d) ≤ ((j + 1 : Nat) : Int)) {κ : T_publicanref9_Node → T_publicanref9_parser → Option R} (hk : Kont l st G κ) : G (publicanref9_parser_un_B j g st κ) := by
  have hP : G (g.publicanref9_parser_prim st (fun r16 o0_16 => κ (T_publicanref9_Node.mk r16.f_Op r16.f_Name r16.f_Kind r16.f_N r16.f_At r16.f_Kids) o0_16)) := hg.prim h (by omega) fun r t i s p m => by rw [mk_eta]; exact hk r t i s p m
  have hU : ∀ (b : List UInt8) (a : Int), Inv l (adv st) → G (publicanref9_parser_in j (adv st) (fun r18 o0_18 =>
      br (!r18) (κ (T_publicanref9_Node.mk [] [] 0 0 0 []) o0_18)
      (g.publicanref9_parser_un o0_18 (fun r22 o0_22 => publicanref9_parser_out j o0_22 (fun o0_24 =>
        κ (T_publicanref9_Node.mk b [] 0 0 a [(T_publicanref9_Node.mk r22.f_Op r22.f_Name r22.f_Kind r22.f_N r22.f_At r22.f_Kids)]) o0_24))))) := fun b a hi => by
    refine in_sp hw hi (fun t ht hs hb => ?_) (fun h4 hi' => ?_)
    · exact hk _ _ ht (adv_stp.trans hs) (.inr hb) (by rw [Nat.add_comm]; exact Sm.leaf)
    · refine hg.un hi' (by show 110013 + 20 * (40 - (st.f_d + 1)) ≤ (j : Int); have : st.f_d < 40 := h4; omega) fun r t ht hs hp hr => ?_
      refine out_sp ht ?_
      have k0 : (dn (adv st)).f_k = st.f_k + 1 := rfl
      have k1 := hs.k
      have kt : (up t).f_k = t.f_k := rfl
      refine hk _ _ (up_inv ht (by have : t.f_d = st.f_d + 1 := hs.d; have := h.d0; omega)) (adv_stp.trans (up_stp hs)) (adv_prg.of_l (up_stp hs)) ?_
      rw [show 1 + ((up t).f_k - st.f_k).toNat = ((up t).f_k - st.f_k).toNat + 1 from by omega, mk_eta]
      exact .one (hr.mono (by rw [k0] at k1 ⊢; rw [kt]; omega))
  unfold publicanref9_parser_un_B
  refine w_sp h (take_sp hw h _ (take_sp hw h _ ?_ (fun _ _ hi => ?_)) (fun _ _ hi => ?_))
  · exact hP
  · exact hU _ _ hi
  · exact hU _ _ hi
end Go.Pm
namespace Go.Pm
open Go Go.EvM Go.Pv
variable {R : Type} {G : Option R → Prop}
variable {l : List T_publicanref9_Word} {m : Nat}
theorem st_eta (s : T_publicanref9_parser) : T_publicanref9_parser.mk s.f_l s.f_k s.f_bad s.f_deep s.f_d = s := by cases s; rfl
theorem Inv.wr1' {st : T_publicanref9_parser} {n : Int} (h0 : 0 ≤ n) (h1 : n < 1000000) : wr .i64 (n + 1) = n + 1 := wr_in (by omega) (by omega)
theorem row_L00 (hw : WsOk l) {g : G_publicanref9_parser_expr R} (s0 : T_publicanref9_parser) (j : Nat) : ∀ {x0 : Int} {x1 : List (List UInt8)} {x2 x3 : Int} {x4 : List UInt8} {st : T_publicanref9_parser} {x10 x11 : List UInt8} {x12 x13 x14 : Int} {x15 : List T_publicanref9_Node} {n : T_publicanref9_Node}
    {e2 : List (List UInt8) → Int → Int → List UInt8 → List T_publicanref9_Word → Int → Int → Bool → Int → List UInt8 → List UInt8 → Int → Int → Int → List T_publicanref9_Node → List UInt8 → List UInt8 → Int → Int → Int → List T_publicanref9_Node → Option R},
    0 ≤ x0 → x1.length < 1000 → x1.length - x0 < j → 0 < j → Inv l st → Stp s0 st → (eqL x4 [] = true ∨ s0.f_k < st.f_k) →
    (∀ op t, Inv l t → Stp s0 t → (eqL op [] = true ∨ s0.f_k < t.f_k) → G (e2 x1 x2 x3 op t.f_l t.f_k t.f_bad t.f_deep t.f_d x10 x11 x12 x13 x14 x15 n.f_Op n.f_Name n.f_Kind n.f_N n.f_At n.f_Kids)) →
    G (publicanref9_parser_row_L0_0 m g j x0 x1 x2 x3 x4 st.f_l st.f_k st.f_bad st.f_deep st.f_d x10 x11 x12 x13 x14 x15 n.f_Op n.f_Name n.f_Kind n.f_N n.f_At n.f_Kids e2) := by
  induction j with
  | zero => intro x0 x1 x2 x3 x4 st x10 x11 x12 x13 x14 x15 n e2 h0 hl hj hj0 hi hs hp he; exact absurd hj0 (by omega)
  | succ j ih =>
    intro x0 x1 x2 x3 x4 st x10 x11 x12 x13 x14 x15 n e2 h0 hl hj hj0 hi hs hp he
    unfold publicanref9_parser_row_L0_0 publicanref9_parser_row_S0_0
    refine br_sp (fun hc => br_sp (fun h4 => ?_) (fun _ => he _ _ hi hs hp)) (fun _ => he _ _ hi hs hp)
    have hc := ltI_t.1 hc
    refine br_g (inB_t.2 ⟨h0, hc⟩) ?_
    rw [st_eta, wr_in (n := x0 + 1) (by omega) (by omega)]
    refine take_sp hw hi _ (br_sp (fun hc => nomatch hc) (fun _ => ?_)) (fun _ _ hi' => br_sp (fun _ => br_g (inB_t.2 ⟨h0, hc⟩) ?_) (fun hc => nomatch hc))
    · exact ih (by omega) hl (by omega) (by omega) hi hs hp he
    · exact ih (by omega) hl (by omega) (by omega) hi' (hs.trans adv_stp) (.inr (by show s0.f_k < st.f_k + 1; have := hs.k; omega)) he
theorem row_L0 (hw : WsOk l) {M : Nat} {g : G_publicanref9_parser_expr R} (hg : GOk l M g) (s0 : T_publicanref9_parser) {x1 : Int} (h1 : 0 ≤ x1) (h1' : x1 < 5) (hM : 110019 - (x1 + 1) + 20 * (40 - s0.f_d) ≤ (M : Int)) (hm : 2000 ≤ m) (j : Nat) : ∀ {x0 : List (List UInt8)} {st : T_publicanref9_parser} {x7 x8 : List UInt8} {x9 x10 x11 : Int} {x12 : List T_publicanref9_Node} {n : T_publicanref9_Node}
    {er : List T_publicanref9_Word → Int → Int → Bool → Int → List UInt8 → List UInt8 → Int → Int → Int → List T_publicanref9_Node → Option R},
    x0.length < 1000 → l.length - st.f_k < j → Inv l st → Stp s0 st → Sm (1 + (st.f_k - s0.f_k).toNat) n →
    (∀ t n', Inv l t → Stp st t → Sm (1 + (t.f_k - s0.f_k).toNat) n' → G (er t.f_l t.f_k t.f_bad t.f_deep t.f_d n'.f_Op n'.f_Name n'.f_Kind n'.f_N n'.f_At n'.f_Kids)) →
    G (publicanref9_parser_row_L0 m g j x0 x1 st.f_l st.f_k st.f_bad st.f_deep st.f_d x7 x8 x9 x10 x11 x12 n.f_Op n.f_Name n.f_Kind n.f_N n.f_At n.f_Kids er) := by
  induction j with
  | zero => intro x0 st x7 x8 x9 x10 x11 x12 n er hl hj hi hs hn he; exact absurd hj (by have := hi.kl; omega)
  | succ j ih =>
    intro x0 st x7 x8 x9 x10 x11 x12 n er hl hj hi hs hn he
    unfold publicanref9_parser_row_L0 publicanref9_parser_row_S0
    rw [st_eta]
    refine w_sp hi ?_
    refine row_L00 hw st m (by omega) hl (by omega) (by omega) hi .rfl' (.inl rfl) fun op t it s p => ?_
    refine br_sp (fun _ => ?_) (fun hop => ?_)
    · exact he t n it s (hn.mono (by have := s.k; omega))
    · have hlt : st.f_k < t.f_k := p.elim (fun e => by rw [e] at hop; cases hop) id
      rw [wr_in (n := x1 + 1) (by omega) (by omega), st_eta]
      have hd : t.f_d = s0.f_d := (hs.trans s).d
      refine hg.row (by omega) (by omega) it (by rw [hd]; exact hM) fun r u iu su pu mr => ?_
      have k1 := hs.k; have k2 := s.k; have k3 := su.k
      have hn2 : ∀ (a b : List UInt8) (c d e : Int), Sm (1 + (u.f_k - s0.f_k).toNat) (T_publicanref9_Node.mk a b c d e [n, r]) := fun a b c d e => by
        rw [show 1 + (u.f_k - s0.f_k).toNat = (u.f_k - s0.f_k).toNat + 1 from by omega]
        exact .two (hn.mono (by omega)) (mr.mono (by omega))
      simp only [mk_eta]
      refine br_sp (fun _ => ?_) (fun _ => ?_)
      · exact he u _ iu (s.trans su) (hn2 op [] 0 0 (pw st).f_At)
      · exact ih (n := .mk op [] 0 0 (pw st).f_At [n, r]) hl (by omega) iu (hs.trans (s.trans su)) (hn2 _ _ _ _ _) fun t' n' it' st' sm' => he t' n' it' ((s.trans su).trans st') sm'
theorem row_B_sp (hw : WsOk l) {j : Nat} {g : G_publicanref9_parser_expr R} (hg : GOk l j g) {st : T_publicanref9_parser} {a : Int} (ha : 0 ≤ a) (ha' : a ≤ 5) (h : Inv l st) (hj : 110019 - a + 20 * (40 - st.f_d) ≤ ((j + 1 : Nat) : Int)) {κ : T_publicanref9_Node → T_publicanref9_parser → Option R} (hk : Kont l st G κ) : G (publicanref9_parser_row_B j g st a κ) := by
  have hd4 := h.d4
  unfold publicanref9_parser_row_B
  refine br_sp (fun h5 => ?_) (fun h5 => ?_)
  · exact hg.un h (by have := eqI_t.1 h5; omega) fun r t i s p m => by rw [mk_eta]; exact hk r t i s p m
  · have h5 := eqI_f.1 h5
    refine br_g (inB_t.2 ⟨ha, by show a < (5 : Nat); omega⟩) ?_
    rw [wr_in (n := a + 1) (by omega) (by omega)]
    refine hg.row (by omega) (by omega) h (by omega) fun r t it s p mr => ?_
    have hle : (el8 ([[sor], [sand], [s_60, s_60_61, s_62, s_62_61, s_61_61, s_33_61], [s_43, s_45], [s_42, s_47]]) (iNat a)).length < 1000 := by
      have : a = 0 ∨ a = 1 ∨ a = 2 ∨ a = 3 ∨ a = 4 := by omega
      rcases this with rfl | rfl | rfl | rfl | rfl
      · exact (by decide : 1 < 1000)
      · exact (by decide : 1 < 1000)
      · exact (by decide : 6 < 1000)
      · exact (by decide : 2 < 1000)
      · exact (by decide : 2 < 1000)
    refine row_L0 hw hg st ha (by omega) (by omega) (by omega) j hle (by have := hw.len; have := it.k0; omega) it s mr fun u n' iu su sm => ?_
    rw [mk_eta, st_eta]
    exact hk n' u iu (s.trans su) (p.of_l su) sm
end Go.Pm
namespace Go.Pm
open Go Go.EvM Go.Pv
variable {R : Type} {G : Option R → Prop}
variable {l : List T_publicanref9_Word} {m : Nat}
theorem prim_L0 (hw : WsOk l) {M : Nat} {g : G_publicanref9_parser_expr R} (hg : GOk l M g) (s0 : T_publicanref9_parser) (hM : 110001 + 20 * (40 - s0.f_d) ≤ (M : Int)) (j : Nat) : ∀ {x0 x1 : Int} {st : T_publicanref9_parser} {x7 x8 : List UInt8} {x9 x10 x11 : Int} {x12 : List T_publicanref9_Node}
    {e0 : Int → List T_publicanref9_Word → Int → Int → Bool → Int → List UInt8 → List UInt8 → Int → Int → Int → List T_publicanref9_Node → Option R}
    {er : List T_publicanref9_Word → Int → Int → Bool → Int → List UInt8 → List UInt8 → Int → Int → Int → List T_publicanref9_Node → Option R},
    0 ≤ x1 → 2 - x1 < j → 0 < j → Inv l st → Stp s0 st →
    (∀ t, Inv l t → Stp s0 t → G (e0 x0 t.f_l t.f_k t.f_bad t.f_deep t.f_d x7 x8 x9 x10 x11 x12)) →
    (∀ t n', Inv l t → Stp s0 t → Prg s0 t → Sm (1 + (t.f_k - s0.f_k).toNat) n' → G (er t.f_l t.f_k t.f_bad t.f_deep t.f_d n'.f_Op n'.f_Name n'.f_Kind n'.f_N n'.f_At n'.f_Kids)) →
    G (publicanref9_parser_prim_L0 m g j x0 x1 st.f_l st.f_k st.f_bad st.f_deep st.f_d x7 x8 x9 x10 x11 x12 e0 er) := by
  induction j with
  | zero => intro x0 x1 st x7 x8 x9 x10 x11 x12 e0 er h1 hj hj0 hi hs h0 he; exact absurd hj0 (by omega)
  | succ j ih =>
    intro x0 x1 st x7 x8 x9 x10 x11 x12 e0 er h1 hj hj0 hi hs h0 he
    unfold publicanref9_parser_prim_L0 publicanref9_parser_prim_S0
    refine br_sp (fun hc => ?_) (fun _ => h0 _ hi hs)
    have hc := ltI_t.1 hc
    refine br_g (inB_t.2 ⟨h1, by show x1 < (2 : Nat); omega⟩) ?_
    rw [st_eta, wr_in (n := x1 + 1) (by omega) (by omega)]
    refine take_sp hw hi _ (br_sp (fun hc => nomatch hc) (fun _ => ?_)) (fun _ _ hi' => br_sp (fun _ => ?_) (fun hc => nomatch hc))
    · exact ih (by omega) (by omega) (by omega) hi hs h0 he
    · refine want_sp hw hi' _ fun t1 i1 s1 p1 => ?_
      have hd1 : t1.f_d = s0.f_d := (hs.trans (adv_stp.trans s1)).d
      refine hg.expr i1 (by omega) fun r2 t2 i2 s2 p2 m2 => ?_
      refine want_sp hw i2 _ fun t3 i3 s3 p3 => ?_
      have hd3 : t3.f_d = s0.f_d := (hs.trans (((adv_stp.trans s1).trans s2).trans s3)).d
      refine hg.expr i3 (by omega) fun r4 t4 i4 s4 p4 m4 => ?_
      refine want_sp hw i4 _ fun t5 i5 s5 p5 => ?_
      have k0 : (adv st).f_k = st.f_k + 1 := rfl
      have k1 := s1.k; have k2 := s2.k; have k3 := s3.k; have k4 := s4.k; have k5 := s5.k; have ks := hs.k
      rw [k0] at k1
      have sA : Stp (adv st) t5 := (((s1.trans s2).trans s3).trans s4).trans s5
      simp only [mk_eta]
      refine he t5 (.mk _ [] 0 0 x0 [r2, r4]) i5 (hs.trans (adv_stp.trans sA)) (Prg.of_r hs (adv_prg.of_l sA)) ?_
      rw [show 1 + (t5.f_k - s0.f_k).toNat = (t5.f_k - s0.f_k).toNat + 1 from by omega]
      exact .two (m2.mono (by omega)) (m4.mono (by omega))
theorem prim_B_sp (hw : WsOk l) {j : Nat} {g : G_publicanref9_parser_expr R} (hg : GOk l j g) {st : T_publicanref9_parser} (h : Inv l st) (hj : 110012 + 20 * (40 - st.f_d) ≤ ((j + 1 : Nat) : Int)) {κ : T_publicanref9_Node → T_publicanref9_parser → Option R} (hk : Kont l st G κ) : G (publicanref9_parser_prim_B j g st κ) := by
  have hd4 := h.d4
  have hone : ∀ {a b : List UInt8} {c d e : Int} {x : T_publicanref9_Node} {k k' : Int} {n : Nat}, Sm n x → k + 1 ≤ k' → n ≤ (k' - k).toNat → Sm (1 + (k' - k).toNat) (.mk a b c d e [x]) := fun hx _ hn => by
    rw [Nat.add_comm]; exact .one (hx.mono hn)
  unfold publicanref9_parser_prim_B
  refine w_sp h (islit_sp h fun b hb => br_sp (fun _ => ?_) (fun _ => ?_))
  · refine lit_sp hw h fun r t i s p hl => ?_
    rw [mk_eta]
    exact hk r t i s p (by rw [Nat.add_comm]; exact ⟨by rw [hl]; show 0 ≤ _; omega, fun y hy => by rw [hl] at hy; exact nomatch hy⟩)
  refine prim_L0 hw hg st (by omega) j (by omega) (by omega) (by omega) h .rfl' (fun t it s => ?_) (fun t n' it s p sm => ?_)
  rotate_left
  · rw [mk_eta, st_eta]; exact hk n' t it s p sm
  rw [st_eta]
  refine take_sp hw it _ (br_sp (fun hc => nomatch hc) (fun _ => ?_)) (fun _ _ hi' => br_sp (fun _ => ?_) (fun hc => nomatch hc))
  rotate_left
  · have hd1 : (adv t).f_d = st.f_d := s.d
    refine hg.expr hi' (by omega) fun r1 t1 i1 s1 p1 m1 => want_sp hw i1 _ fun t2 i2 s2 p2 => ?_
    rw [mk_eta]
    have k1 := s1.k; have k2 := s2.k; have k := s.k
    have k0 : (adv t).f_k = t.f_k + 1 := rfl
    exact hk _ _ i2 (s.trans (adv_stp.trans (s1.trans s2))) (Prg.of_r s (adv_prg.of_l (s1.trans s2))) (m1.mono (by omega))
  refine take_sp hw it _ (br_sp (fun hc => nomatch hc) (fun _ => ?_)) (fun _ _ hi' => br_sp (fun _ => ?_) (fun hc => nomatch hc))
  rotate_left
  · refine want_sp hw hi' _ fun t0 i0 s0 p0 => ?_
    have hd1 : t0.f_d = st.f_d := (s.trans (adv_stp.trans s0)).d
    refine hg.expr i0 (by omega) fun r1 t1 i1 s1 p1 m1 => want_sp hw i1 _ fun t2 i2 s2 p2 => ?_
    rw [mk_eta]
    have k0 := s0.k; have k1 := s1.k; have k2 := s2.k; have k := s.k
    have ka : (adv t).f_k = t.f_k + 1 := rfl
    rw [ka] at k0
    exact hk _ _ i2 (s.trans (adv_stp.trans (s0.trans (s1.trans s2)))) (Prg.of_r s (adv_prg.of_l (s0.trans (s1.trans s2)))) (hone m1 (by omega) (by omega))
  refine take_sp hw it _ (br_sp (fun hc => nomatch hc) (fun _ => ?_)) (fun _ _ hi' => br_sp (fun _ => ?_) (fun hc => nomatch hc))
  rotate_left
  · refine want_sp hw hi' _ fun ta ia sa pa => name_sp hw ia fun nm tb ib sb pb => want_sp hw ib _ fun t0 i0 s0 p0 => ?_
    have s0' := sa.trans (sb.trans s0)
    have hd1 : t0.f_d = st.f_d := (s.trans (adv_stp.trans s0')).d
    refine hg.expr i0 (by omega) fun r1 t1 i1 s1 p1 m1 => want_sp hw i1 _ fun t2 i2 s2 p2 => ?_
    rw [mk_eta]
    have k0 := s0'.k; have k1 := s1.k; have k2 := s2.k; have k := s.k
    have ka : (adv t).f_k = t.f_k + 1 := rfl
    rw [ka] at k0
    exact hk _ _ i2 (s.trans (adv_stp.trans (s0'.trans (s1.trans s2)))) (Prg.of_r s (adv_prg.of_l (s0'.trans (s1.trans s2)))) (hone m1 (by omega) (by omega))
  refine take_sp hw it _ (br_sp (fun hc => nomatch hc) (fun _ => ?_)) (fun _ _ hi' => br_sp (fun _ => ?_) (fun hc => nomatch hc))
  rotate_left
  · refine want_sp hw hi' _ fun ta ia sa pa => name_sp hw ia fun nm tb ib sb pb => want_sp hw ib _ fun t0 i0 s0 p0 => ?_
    have s0' := sa.trans (sb.trans s0)
    have hd1 : t0.f_d = st.f_d := (s.trans (adv_stp.trans s0')).d
    refine hg.expr i0 (by omega) fun r1 t1 i1 s1 p1 m1 => want_sp hw i1 _ fun t2 i2 s2 p2 => ?_
    have hd2 : t2.f_d = st.f_d := (s.trans (adv_stp.trans (s0'.trans (s1.trans s2)))).d
    refine hg.expr i2 (by omega) fun r3 t3 i3 s3 p3 m3 => want_sp hw i3 _ fun t4 i4 s4 p4 => ?_
    simp only [mk_eta]
    have k0 := s0'.k; have k1 := s1.k; have k2 := s2.k; have k3 := s3.k; have k4 := s4.k; have k := s.k
    have ka : (adv t).f_k = t.f_k + 1 := rfl
    rw [ka] at k0
    have sA := s0'.trans (s1.trans (s2.trans (s3.trans s4)))
    refine hk _ _ i4 (s.trans (adv_stp.trans sA)) (Prg.of_r s (adv_prg.of_l sA)) ?_
    rw [Nat.add_comm]
    exact .two (m1.mono (by omega)) (m3.mono (by omega))
  · refine name_sp hw it fun nm t1 i1 s1 p1 => ?_
    exact hk _ _ i1 (s.trans s1) (Prg.of_r s p1) (by rw [Nat.add_comm]; exact .leaf)
theorem G_ok (hw : WsOk l) : ∀ j, GOk l j (G_publicanref9_parser_expr_r (R := R) j)
  | 0 => ⟨fun h hj _ => absurd hj (by have := h.d4; show ¬ _ ≤ (0 : Int); omega), fun h hj _ => absurd hj (by have := h.d4; show ¬ _ ≤ (0 : Int); omega), fun _ h5 h hj _ => absurd hj (by have := h.d4; show ¬ _ ≤ (0 : Int); omega), fun h hj _ => absurd hj (by have := h.d4; show ¬ _ ≤ (0 : Int); omega), fun h hj _ => absurd hj (by have := h.d4; show ¬ _ ≤ (0 : Int); omega)⟩
  | j + 1 => ⟨fun h hj hk => expr_B_sp hw (G_ok hw j) h hj hk, fun h hj hk => inside_B_sp hw (G_ok hw j) h hj hk, fun h0 h5 h hj hk => row_B_sp hw (G_ok hw j) h0 h5 h hj hk, fun h hj hk => un_B_sp hw (G_ok hw j) h hj hk, fun h hj hk => prim_B_sp hw (G_ok hw j) h hj hk⟩
theorem expr_sp (hw : WsOk l) (hm : 120000 ≤ m) {st : T_publicanref9_parser} (h : Inv l st) {κ : T_publicanref9_Node → T_publicanref9_parser → Option R} (hk : Kont l st G κ) : G (publicanref9_parser_expr m st κ) :=
  (G_ok hw m).expr h (by have := h.d0; omega) hk
end Go.Pm
namespace Go.Pm
open Go Go.EvM Go.Pv
variable {R : Type} {G : Option R → Prop}
variable {l : List T_publicanref9_Word} {m : Nat}
theorem decl_L0 (hw : WsOk l) (s0 : T_publicanref9_parser) (j : Nat) : ∀ {st : T_publicanref9_parser} {r : T_publicanref9_Node} {x11 x12 : List UInt8} {x13 x14 x15 : Int} {x16 : List T_publicanref9_Node}
    {e1 : List T_publicanref9_Word → Int → Int → Bool → Int → List UInt8 → List UInt8 → Int → Int → Int → List T_publicanref9_Node → List UInt8 → List UInt8 → Int → Int → Int → List T_publicanref9_Node → Option R},
    0 < j → (0 ≤ st.f_bad ∨ l.length - st.f_k < j) → Inv l st → Stp s0 st → x16.length ≤ 32 → (∀ y, y ∈ x16 → Sm 2 y) →
    (∀ (t : T_publicanref9_parser) (r : T_publicanref9_Node) (rs : List T_publicanref9_Node), Inv l t → Stp s0 t → rs.length ≤ 32 → (∀ y, y ∈ rs → Sm 2 y) → G (e1 t.f_l t.f_k t.f_bad t.f_deep t.f_d r.f_Op r.f_Name r.f_Kind r.f_N r.f_At r.f_Kids x11 x12 x13 x14 x15 rs)) →
    G (publicanref9_parser_decl_L0 m j st.f_l st.f_k st.f_bad st.f_deep st.f_d r.f_Op r.f_Name r.f_Kind r.f_N r.f_At r.f_Kids x11 x12 x13 x14 x15 x16 e1) := by
  induction j with
  | zero => intro st r x11 x12 x13 x14 x15 x16 e1 hj0; exact absurd hj0 (by omega)
  | succ j ih =>
    intro st r x11 x12 x13 x14 x15 x16 e1 hj0 hj hi hs h32 hr he
    unfold publicanref9_parser_decl_L0 publicanref9_parser_decl_S0
    refine br_sp (fun hb => ?_) (fun _ => he st r _ hi hs h32 hr)
    have hb := ltI_t.1 hb
    rw [st_eta]
    refine is_sp hi _ fun b _ => br_sp (fun _ => br_sp (fun _ => ?_) (fun h3 => ?_)) (fun _ => he st r _ hi hs h32 hr)
    · exact limit_sp hi (he _ r _ (limS_inv hi) (hs.trans (limS_stp hw hi)) h32 hr)
    · have h3 := eqI_f.1 h3
      refine w_sp hi (lit_sp hw hi fun r1 t1 i1 s1 p1 l1 => want_sp hw i1 _ fun t2 i2 s2 p2 => lit_sp hw i2 fun r3 t3 i3 s3 p3 l3 => want_sp hw i3 _ fun t4 i4 s4 p4 => ?_)
      refine br_g (okAp_t (by decide) (by show x16.length + 1 ≤ _; omega)) ?_
      simp only [mk_eta]
      have sA := s1.trans (s2.trans (s3.trans s4))
      have pA : Prg st t4 := p1.of_l (s2.trans (s3.trans s4))
      have hk := hi.kl
      have hleaf : ∀ {r : T_publicanref9_Node}, r.f_Kids = [] → Sm 1 r := fun e => ⟨by rw [e]; show 0 ≤ _; omega, fun y hy => by rw [e] at hy; exact nomatch hy⟩
      refine ih (r := r) (by omega) ?_ i4 (hs.trans sA) (x16 := x16 ++ [.mk srow [] 0 0 (pw st).f_At [r1, r3]]) (by rw [List.length_append]; show x16.length + 1 ≤ 32; omega) (fun y hy => ?_) he
      · rcases pA with p | p
        · exact .inr (by omega)
        · exact .inl p
      · rcases List.mem_append.1 hy with hy | hy
        · exact hr y hy
        · rcases List.mem_singleton.1 hy with rfl
          exact .two (hleaf l1) (hleaf l3)
structure DeclOk (r : T_publicanref9_Node) : Prop where
  len : r.f_Kids.length ≤ 33
  sm : ∀ y, y ∈ r.f_Kids → Sm 100002 y
  tab : eqL r.f_Op stable = true → ∃ i y, r.f_Kids = i ++ [y] ∧ y.f_Kids ≠ []
theorem DeclOk.nil {a b : List UInt8} {c d e : Int} (h : eqL a stable = false) : DeclOk (.mk a b c d e []) :=
  ⟨Nat.zero_le _, fun _ h => (nomatch h), fun h' => Bool.noConfusion ((show eqL a stable = true from h').symm.trans h)⟩
theorem decl_sp (hw : WsOk l) (hm : 120000 ≤ m) {st : T_publicanref9_parser} (h : Inv l st) {κ : T_publicanref9_Node → T_publicanref9_parser → Option R} (hk : ∀ r t, Inv l t → Stp st t → Prg st t → DeclOk r → G (κ r t)) : G (publicanref9_parser_decl m st κ) := by
  unfold publicanref9_parser_decl
  refine w_sp h (take_sp hw h _ (br_sp (fun hc => nomatch hc) (fun _ => ?_)) (fun _ _ hi => br_sp (fun _ => ?_) (fun hc => nomatch hc)))
  rotate_left
  · refine name_sp hw hi fun nm t1 i1 s1 p1 => kind_sp hw (by omega) i1 fun kd t2 i2 s2 p2 => want_sp hw i2 _ fun t3 i3 s3 p3 => ?_
    have sA := s1.trans (s2.trans s3)
    exact hk _ _ i3 (adv_stp.trans sA) (adv_prg.of_l sA) (.nil rfl)
  refine take_sp hw h _ (br_sp (fun hc => nomatch hc) (fun _ => ?_)) (fun _ _ hi => br_sp (fun _ => ?_) (fun hc => nomatch hc))
  rotate_left
  · refine name_sp hw hi fun nm t1 i1 s1 p1 => kind_sp hw (by omega) i1 fun kd t2 i2 s2 p2 => want_sp hw i2 _ fun t3 i3 s3 p3 => expr_sp hw hm i3 fun r t4 i4 s4 p4 m4 => want_sp hw i4 _ fun t5 i5 s5 p5 => ?_
    have sA := s1.trans (s2.trans (s3.trans (s4.trans s5)))
    rw [mk_eta]
    refine hk _ _ i5 (adv_stp.trans sA) (adv_prg.of_l sA) ⟨by show 1 ≤ 33; omega, fun y hy => ?_, fun h => nomatch h⟩
    rcases List.mem_singleton.1 hy with rfl
    have := hw.len; have := i4.kl; have := i3.k0
    exact m4.mono (by omega)
  refine take_sp hw h _ (br_sp (fun hc => nomatch hc) (fun _ => ?_)) (fun _ _ hi => br_sp (fun _ => ?_) (fun hc => nomatch hc))
  · exact fail_sp h (hk _ _ (failS_inv h) (failS_stp hw h) (.inr (failS_bad hw h)) (.nil rfl))
  refine name_sp hw hi fun nm t1 i1 s1 p1 => kind_sp hw (by omega) i1 fun kd t2 i2 s2 p2 => kind_sp hw (by omega) i2 fun kd' t3 i3 s3 p3 => want_sp hw i3 _ fun t4 i4 s4 p4 => ?_
  have sA := adv_stp.trans (s1.trans (s2.trans (s3.trans s4)))
  have pA : Prg st t4 := adv_prg.of_l (s1.trans (s2.trans (s3.trans s4)))
  have hfin : ∀ (t : T_publicanref9_parser) (rs : List T_publicanref9_Node), Inv l t → Stp t4 t → rs.length ≤ 32 → (∀ y, y ∈ rs → Sm 2 y) →
      G (publicanref9_parser_w m t (fun r116 o0_116 =>
            publicanref9_parser_want m o0_116 selse (fun o0_120 =>
            publicanref9_parser_lit m o0_120 (fun r122 o0_122 =>
            br ((okAp 80 (rs.length + [(T_publicanref9_Node.mk srow [] 0 0 r116.f_At [(T_publicanref9_Node.mk r122.f_Op r122.f_Name r122.f_Kind r122.f_N r122.f_At r122.f_Kids)])].length))) (
              publicanref9_parser_want m o0_122 s_125 (fun o0_133 =>
              κ (T_publicanref9_Node.mk stable nm kd' kd (pw st).f_At (rs ++ [(T_publicanref9_Node.mk srow [] 0 0 r116.f_At [(T_publicanref9_Node.mk r122.f_Op r122.f_Name r122.f_Kind r122.f_N r122.f_At r122.f_Kids)])])) o0_133)) none)))) := fun t rs it s hl hr => by
    refine w_sp it (want_sp hw it _ fun t5 i5 s5 p5 => lit_sp hw i5 fun r6 t6 i6 s6 p6 l6 => ?_)
    refine br_g (okAp_t (by decide) (by show rs.length + 1 ≤ _; omega)) ?_
    refine want_sp hw i6 _ fun t7 i7 s7 p7 => ?_
    have sB := s.trans (s5.trans (s6.trans s7))
    rw [mk_eta]
    refine hk _ _ i7 (sA.trans sB) (pA.of_l sB) ⟨by show (rs ++ [_]).length ≤ 33; rw [List.length_append]; show rs.length + 1 ≤ 33; omega, fun y hy => ?_, fun _ => ⟨rs, _, rfl, fun h => nomatch h⟩⟩
    rcases List.mem_append.1 hy with hy | hy
    · exact (hr y hy).mono (by omega)
    · rcases List.mem_singleton.1 hy with rfl
      exact Sm.mono (n := 2) (.one ⟨by rw [l6]; show 0 ≤ _; omega, fun y hy => by rw [l6] at hy; exact nomatch hy⟩) (by omega)
  refine decl_L0 hw t4 m (r := .mk [] [] 0 0 0 []) (by omega) (.inr (by have := hw.len; have := i4.k0; omega)) i4 .rfl' (by show 0 ≤ 32; omega) (fun y hy => nomatch hy) fun t r rs it s hl hr => ?_
  rw [st_eta]
  refine br_sp (fun _ => br_sp (fun _ => ?_) (fun _ => ?_)) (fun _ => ?_)
  · exact limit_sp it (hfin _ rs (limS_inv it) (s.trans (limS_stp hw it)) hl hr)
  · exact hfin _ rs it s hl hr
  · exact hfin _ rs it s hl hr
end Go.Pm
namespace Go.Pm
open Go Go.EvM Go.Pv
variable {R : Type} {G : Option R → Prop} {m : Nat}
theorem letter_sp (b : Int) {κ : Bool → Option R} (hk : ∀ r, G (κ r)) : G (publicanref9_letter m b κ) := by
  unfold publicanref9_letter
  exact br_sp (fun _ => hk _) (fun _ => hk _)
theorem digit_sp (b : Int) {κ : Bool → Option R} (hk : ∀ r, G (κ r)) : G (publicanref9_digit m b κ) := by
  unfold publicanref9_digit
  exact br_sp (fun _ => hk _) (fun _ => hk _)
theorem run_L (m j : Nat) : ∀ {x0 x1 : Int} {x2 : List UInt8} {e0 : Int → Option R}, 0 ≤ x0 → 0 ≤ x1 → x1 + x0 ≤ x2.length → x2.length < 100000 → x2.length - x0 < j → 0 < j → (∀ r, 0 ≤ r → x1 + r ≤ x2.length → G (e0 r)) → G (publicanref9_run_L0 m j x0 x1 x2 e0) := by
  induction j with
  | zero => intro x0 x1 x2 e0 h0 h1 h2 hl hj hj0 he; exact absurd hj0 (by omega)
  | succ j ih =>
    intro x0 x1 x2 e0 h0 h1 h2 hl hj hj0 he
    unfold publicanref9_run_L0 publicanref9_run_S0
    dsimp only
    rw [wr_in (n := x1 + x0) (by omega) (by omega)]
    refine br_sp (fun hc => ?_) (fun _ => he _ h0 h2)
    have hc := ltI_t.1 hc
    refine br_g (inB_t.2 ⟨by omega, hc⟩) (digit_sp _ fun r => br_sp (fun _ => ?_) (fun _ => he _ h0 h2))
    rw [wr_in (n := x0 + 1) (by omega) (by omega)]
    exact ih (by omega) h1 (by omega) hl (by omega) (by omega) he
theorem run_sp (hm : 100000 ≤ m) {t : List UInt8} (hl : t.length < 100000) {a : Int} (h : 0 ≤ a) (h' : a ≤ t.length) {κ : Int → Option R} (hk : ∀ r, 0 ≤ r → a + r ≤ t.length → G (κ r)) : G (publicanref9_run m t a κ) := by
  unfold publicanref9_run
  exact run_L m m (by omega) h (by omega) hl (by omega) (by omega) hk
theorem cut_g {a b : Int} {n : Nat} (h : 0 ≤ a) (hab : a ≤ b) (hb : b ≤ n) : (leI 0 a && (leI 0 b && (Nat.ble (iNat a) (iNat b) && Nat.ble (iNat b) n))) = true := by
  have h1 := iNat_of h
  have h2 := iNat_of (n := b) (by omega)
  simp only [Bool.and_eq_true, leI_t, Nat.ble_eq]
  omega
theorem cutL_le {l : List UInt8} {a b : Nat} : (cutL l a b).length ≤ l.length := by
  unfold cutL
  rw [List.length_take, List.length_drop]
  omega
end Go.Pm
namespace Go.Pm
open Go Go.EvM Go.Pv
variable {R : Type} {G : Option R → Prop} {m : Nat}
set_option maxHeartbeats 4000000 in
set_option maxRecDepth 100000 in
theorem digits_sp (hm : 100000 ≤ m) {t : List UInt8} (hl : t.length < 100000) {a : Int} (h : 0 ≤ a) (h' : a < t.length) {κ : T_publicanref9_Word → Int → Option R} (hk : ∀ w n, 0 ≤ n → a + n ≤ t.length → (n = 0 ∨ w.f_At = a) → G (κ w n)) : G (publicanref9_digits m t a κ) := by
  unfold publicanref9_digits
  have hcl : ∀ {a b : Nat}, (cutL t a b).length < 100000 := Nat.lt_of_le_of_lt cutL_le hl
  have hcl' : ∀ {a b : Nat}, (cutL t a b).length < m := Nat.lt_of_lt_of_le hcl hm
  have hnil : ([] : List UInt8).length < 100000 := by decide
  repeat' (first
    | exact hk _ _ (by first | omega | (simp (disch := omega) only [wr_in]; omega) | (simp (disch := omega) only [wr_in]; done)) (by first | omega | (simp (disch := omega) only [wr_in]; omega) | (simp (disch := omega) only [wr_in]; done)) (.inl rfl)
    | exact hk _ _ (by first | omega | (simp (disch := omega) only [wr_in]; omega) | (simp (disch := omega) only [wr_in]; done)) (by first | omega | (simp (disch := omega) only [wr_in]; omega) | (simp (disch := omega) only [wr_in]; done)) (.inr rfl)
    | (refine br_g (cut_g (by first | omega | (simp (disch := omega) only [wr_in]; omega) | (simp (disch := omega) only [wr_in]; done)) (by first | omega | (simp (disch := omega) only [wr_in]; omega) | (simp (disch := omega) only [wr_in]; done)) (by first | omega | (simp (disch := omega) only [wr_in]; omega) | (simp (disch := omega) only [wr_in]; done))) ?_)
    | (refine br_g (inB_t.2 ⟨by first | omega | (simp (disch := omega) only [wr_in]; omega) | (simp (disch := omega) only [wr_in]; done), by first | omega | (simp (disch := omega) only [wr_in]; omega) | (simp (disch := omega) only [wr_in]; done)⟩) ?_)
    | (refine ReadDay_sp (by omega) _ fun _ _ => ?_)
    | (refine percent_sp hcl hm hcl fun _ _ => ?_)
    | (refine percent_sp hcl hm hnil fun _ _ => ?_)
    | (refine number_sp hcl hcl' _ fun _ _ => ?_)
    | (refine run_sp hm hl (by first | omega | (simp (disch := omega) only [wr_in]; omega) | (simp (disch := omega) only [wr_in]; done)) (by first | omega | (simp (disch := omega) only [wr_in]; omega) | (simp (disch := omega) only [wr_in]; done)) fun r h0 h1 => ?_; try simp (disch := omega) only [wr_in] at h1)
    | (refine br_sp (fun hc => ?_) (fun hc => ?_) <;> try simp (disch := omega) only [ltI_t, ltI_f, leI_t, leI_f, eqI_t, eqI_f, wr_in] at hc))
end Go.Pm
namespace Go.Pm
open Go Go.EvM Go.Pv
variable {R : Type} {G : Option R → Prop} {m : Nat}
theorem Cut_L00 (m j : Nat) : ∀ {x0 : Int} {x1 : List UInt8} {x2 : List T_publicanref9_Word} {e2 : Int → List UInt8 → List T_publicanref9_Word → Option R}, 0 ≤ x0 → x0 ≤ x1.length → x1.length < 100000 → x1.length - x0 < j → (∀ v, x0 ≤ v → v ≤ x1.length → (v = x0 → x0 = x1.length ∨ byteAt x1 x0 = 10) → G (e2 v x1 x2)) → G (publicanref9_Cut_L0_0 m j x0 x1 x2 e2) := by
  induction j with
  | zero => intro x0 x1 x2 e2 h0 h1 hl hj he; exact absurd hj (by omega)
  | succ j ih =>
    intro x0 x1 x2 e2 h0 h1 hl hj he
    unfold publicanref9_Cut_L0_0 publicanref9_Cut_S0_0
    refine br_sp (fun hc => ?_) (fun hc => he _ (by omega) h1 fun _ => .inl (by have := ltI_f.1 hc; omega))
    have hc := ltI_t.1 hc
    refine br_g (inB_t.2 ⟨h0, hc⟩) (br_sp (fun _ => ?_) (fun hb => he _ (by omega) h1 fun _ => .inr (eqI_t.1 (by simpa using hb))))
    rw [wr_in (n := x0 + 1) (by omega) (by omega)]
    exact ih (by omega) (by omega) hl (by omega) fun v hv hv' _ => he v (by omega) hv' fun e => absurd e (by omega)
theorem Cut_L01 (m j : Nat) : ∀ {x0 x1 : Int} {x2 : List UInt8} {x3 : Int} {x4 : List UInt8} {x5 x6 : Int} {x7 : List T_publicanref9_Word} {e5 : Int → List UInt8 → Int → Int → List UInt8 → Int → Int → List T_publicanref9_Word → Option R}, 0 ≤ x0 → 0 ≤ x1 → x1 + x0 ≤ x2.length → x2.length < 100000 → x2.length - x0 < j → 0 < j → (∀ n, 0 ≤ n → x1 + n ≤ x2.length → G (e5 x1 x2 n x3 x4 x5 x6 x7)) → G (publicanref9_Cut_L0_1 m j x0 x1 x2 x3 x4 x5 x6 x7 e5) := by
  induction j with
  | zero => intro x0 x1 x2 x3 x4 x5 x6 x7 e5 h0 h1 h2 hl hj hj0 he; exact absurd hj0 (by omega)
  | succ j ih =>
    intro x0 x1 x2 x3 x4 x5 x6 x7 e5 h0 h1 h2 hl hj hj0 he
    unfold publicanref9_Cut_L0_1 publicanref9_Cut_S0_1
    dsimp only
    rw [wr_in (n := x1 + x0) (by omega) (by omega), wr_in (n := x0 + 1) (by omega) (by omega)]
    refine br_sp (fun hc => ?_) (fun _ => he _ h0 h2)
    have hc := ltI_t.1 hc
    have hg := inB_t.2 ⟨show (0 : Int) ≤ x1 + x0 by omega, hc⟩
    have hi : G (publicanref9_Cut_L0_1 m j (x0 + 1) x1 x2 x3 x4 x5 x6 x7 e5) := ih (by omega) h1 (by omega) hl (by omega) (by omega) he
    exact br_g hg (letter_sp _ fun _ => br_sp (fun _ => hi) (fun _ => br_g hg (digit_sp _ fun _ => br_sp (fun _ => hi) (fun _ => br_g hg (br_sp (fun _ => hi) (fun _ => he _ h0 h2))))))
end Go.Pm
namespace Go.Pm
open Go Go.EvM Go.Pv
variable {R : Type} {G : Option R → Prop} {m : Nat}
theorem eqL_iff : ∀ {a b : List UInt8}, eqL a b = true → a = b
  | [], [], _ => rfl
  | [], _ :: _, h => nomatch h
  | _ :: _, [], h => nomatch h
  | a :: l, b :: k, h => by
    have h : (bif Nat.beq a.toNat b.toNat then eqL l k else false) = true := h
    cases hb : Nat.beq a.toNat b.toNat with
    | false => rw [hb] at h; exact nomatch h
    | true =>
      rw [hb] at h
      have e := UInt8.toNat_inj.1 (Nat.eq_of_beq_eq_true hb)
      rw [e, eqL_iff (a := l) (b := k) h]
theorem sign_L1 (m j : Nat) : ∀ {x0 : List UInt8} {x1 : Int} {x2 : List UInt8} {e2 : Unit → Option R} {er : List UInt8 → Option R}, 0 < x0.length → 0 ≤ x1 → x2.length < 1000 → x2.length - x1 < j → 0 < j → G (e2 ()) → (∀ r : List UInt8, r.length ≤ x0.length → G (er r)) → G (publicanref9_sign_L1 m j x0 x1 x2 e2 er) := by
  induction j with
  | zero => intro x0 x1 x2 e2 er h0 h1 hl hj hj0 he hr; exact absurd hj0 (by omega)
  | succ j ih =>
    intro x0 x1 x2 e2 er h0 h1 hl hj hj0 he hr
    unfold publicanref9_sign_L1 publicanref9_sign_S1
    refine br_sp (fun hc => ?_) (fun _ => he)
    have hc := ltI_t.1 hc
    refine br_g (inB_t.2 ⟨by omega, by omega⟩) (br_g (inB_t.2 ⟨h1, hc⟩) (br_sp (fun _ => br_g ?_ (hr _ cutL_le)) (fun _ => ?_)))
    · rw [Bool.and_eq_true, Nat.ble_eq]; exact ⟨rfl, h0⟩
    · rw [wr_in (n := x1 + 1) (by omega) (by omega)]
      exact ih h0 (by omega) hl (by omega) (by omega) he hr
theorem sign_L0 (m j : Nat) : ∀ {x0 : Int} {x1 : List UInt8} {x2 : List (List UInt8)} {e0 er : List UInt8 → Option R}, 0 ≤ x0 → x2.length < 1000 → x2.length - x0 < j → 0 < j → G (e0 x1) → (∀ r : List UInt8, r.length ≤ x1.length → G (er r)) → G (publicanref9_sign_L0 m j x0 x1 x2 e0 er) := by
  induction j with
  | zero => intro x0 x1 x2 e0 er h1 hl hj hj0 he hr; exact absurd hj0 (by omega)
  | succ j ih =>
    intro x0 x1 x2 e0 er h1 hl hj hj0 he hr
    unfold publicanref9_sign_L0 publicanref9_sign_S0
    refine br_sp (fun hc => ?_) (fun _ => he)
    have hc := ltI_t.1 hc
    have hg := inB_t.2 ⟨h1, hc⟩
    rw [wr_in (n := x0 + 1) (by omega) (by omega)]
    have hi := ih (x0 := x0 + 1) (x1 := x1) (x2 := x2) (e0 := e0) (er := er) (by omega) hl (by omega) (by omega) he hr
    refine br_sp (fun h2 => br_g ?_ (br_g hg (br_sp (fun he => br_g hg (hr _ ?_)) (fun _ => hi)))) (fun _ => hi)
    · rw [Bool.and_eq_true, Nat.ble_eq]; refine ⟨rfl, ?_⟩; have := leI_t.1 h2; show 2 ≤ x1.length; omega
    · rw [← eqL_iff he]; exact cutL_le
theorem sign_sp (hm : 1000 ≤ m) {s : List UInt8} (hs : 0 < s.length) {κ : List UInt8 → Option R} (hk : ∀ r : List UInt8, r.length ≤ s.length → G (κ r)) : G (publicanref9_sign m s κ) := by
  unfold publicanref9_sign
  refine sign_L0 m m (by omega) (by decide) (by show (4 : Int) - 0 < m; omega) (by omega) ?_ hk
  exact sign_L1 m m hs (by omega) (by decide) (by show (16 : Int) - 0 < m; omega) (by omega) (hk _ (Nat.zero_le _)) hk
end Go.Pm
namespace Go.Pm
open Go Go.EvM Go.Pv
variable {R : Type} {G : Option R → Prop} {m : Nat}
structure Wl (l : List T_publicanref9_Word) (at_ : Int) : Prop where
  len : l.length ≤ at_
  pos : ∀ w, w ∈ l → 0 ≤ w.f_At
theorem Wl.snoc {l : List T_publicanref9_Word} {a b : Int} {w : T_publicanref9_Word} (h : Wl l a) (hw : 0 ≤ w.f_At) (hab : a + 1 ≤ b) : Wl (l ++ [w]) b := by
  refine ⟨by rw [List.length_append]; have := h.len; show ((l.length + 1 : Nat) : Int) ≤ b; omega, fun x hx => ?_⟩
  rcases List.mem_append.1 hx with hx | hx
  · exact h.pos x hx
  · rcases List.mem_singleton.1 hx with rfl; exact hw
theorem Wl.mono {l : List T_publicanref9_Word} {a b : Int} (h : Wl l a) (hab : a ≤ b) : Wl l b := ⟨by have := h.len; omega, h.pos⟩
set_option maxHeartbeats 4000000 in
set_option maxRecDepth 100000 in
theorem Cut_S0 (hm : 100000 ≤ m) {ρ : Int → List UInt8 → List T_publicanref9_Word → Option R} {e0 : List UInt8 → List T_publicanref9_Word → Option R} {er : List T_publicanref9_Word → Int → Option R} {x0 : Int} {t : List UInt8} {x2 : List T_publicanref9_Word} (hl : t.length < 100000) (h : 0 ≤ x0) (h' : x0 ≤ t.length) (hw : Wl x2 x0)
    (hr : ∀ v l, x0 < v → v ≤ t.length → Wl l v → G (ρ v t l)) (he : G (e0 t x2)) (hx : ∀ l v, 0 ≤ v → G (er l v)) : G (publicanref9_Cut_S0 m ρ e0 er x0 t x2) := by
  unfold publicanref9_Cut_S0
  have hlen := hw.len
  have hcl : ∀ {a b : Nat}, (cutL t a b).length < 100000 := Nat.lt_of_le_of_lt cutL_le hl
  have hcl' : ∀ {a b : Nat}, (cutL t a b).length < m := Nat.lt_of_lt_of_le hcl hm
  have hnil : ([] : List UInt8).length < 100000 := by decide
  have hnil' : ([] : List UInt8).length < m := by show 0 < m; omega
  have hok : ∀ {w : T_publicanref9_Word}, okAp 40 (x2.length + [w].length) = true := okAp_t (by decide) (by show x2.length + 1 ≤ _; omega)
  refine br_sp (fun hc => ?_) (fun hc => he)
  have hc := ltI_t.1 hc
  have hi := iNat_of h
  have hc3 : (leI 0 x0 && Nat.ble (iNat x0) t.length) = true := by rw [Bool.and_eq_true, leI_t, Nat.ble_eq]; omega
  have hc4 : (cutL t (iNat x0) t.length).length = t.length - iNat x0 := by
    unfold cutL; rw [List.length_take, List.length_drop, Nat.sub_eq]; omega
  repeat' (first
    | exact hx _ _ h
    | exact he
    | exact hr _ _ (by first | omega | (simp (disch := omega) only [wr_in]; omega)) (by first | omega | (simp (disch := omega) only [wr_in]; omega)) (hw.mono (by first | omega | (simp (disch := omega) only [wr_in]; omega)))
    | exact hr _ _ (by first | omega | (simp (disch := omega) only [wr_in]; omega)) (by first | omega | (simp (disch := omega) only [wr_in]; omega)) (hw.snoc (by first | exact h | omega) (by first | omega | (simp (disch := omega) only [wr_in]; omega)))
    | (refine br_g hok ?_)
    | (refine br_g (cut_g (by first | omega | (simp (disch := omega) only [wr_in]; omega)) (by first | omega | (simp (disch := omega) only [wr_in]; omega)) (by first | omega | (simp (disch := omega) only [wr_in]; omega))) ?_)
    | (refine br_g (inB_t.2 ⟨by first | omega | (simp (disch := omega) only [wr_in]; omega), by first | omega | (simp (disch := omega) only [wr_in]; omega)⟩) ?_)
    | (refine Cut_L00 m m h h' hl (by omega) fun v h0 h1 h2 => ?_)
    | (refine Cut_L01 m m (by omega) h (by omega) hl (by omega) (by omega) fun n h0 h1 => ?_)
    | (refine br_g hc3 ?_)
    | (refine sign_sp (by omega) (by rw [hc4]; omega) fun r h1 => ?_; rw [hc4] at h1)
    | (refine Kept_sp (by omega) _ fun _ => ?_)
    | (refine letter_sp _ fun _ => ?_)
    | (refine digit_sp _ fun _ => ?_)
    | (refine digits_sp hm hl h (by omega) fun w n h0 h1 h2 => ?_)
    | (refine money_sp hcl hcl' hcl hcl' fun _ _ => ?_)
    | (refine money_sp hcl hcl' hnil hnil' fun _ _ => ?_)
    | (refine run_sp hm hl (by first | omega | (simp (disch := omega) only [wr_in]; omega)) (by first | omega | (simp (disch := omega) only [wr_in]; omega)) fun r h0 h1 => ?_; try simp (disch := omega) only [wr_in] at h1)
    | (refine br_sp (fun hc => ?_) (fun hc => ?_) <;> try simp (disch := omega) only [ltI_t, ltI_f, leI_t, leI_f, eqI_t, eqI_f, wr_in] at hc))
end Go.Pm
namespace Go.Pm
open Go Go.EvM Go.Pv
variable {R : Type} {G : Option R → Prop} {m : Nat}
theorem el5_mem {l : List T_publicanref9_Word} {i : Nat} (h : i < l.length) : el5 l i ∈ l := by
  unfold el5 getD
  rw [nth_eq, List.getElem?_eq_getElem h]
  exact List.getElem_mem h
theorem el5_last {l : List T_publicanref9_Word} {w : T_publicanref9_Word} : el5 (l ++ [w]) l.length = w := by
  unfold el5 getD
  rw [nth_eq, List.getElem?_append_right (Nat.le_refl _), Nat.sub_self]
  rfl
theorem Cut_L0 (hm : 100000 ≤ m) {t : List UInt8} (hl : t.length < 100000) (j : Nat) : ∀ {x0 : Int} {x2 : List T_publicanref9_Word} {e0 : List UInt8 → List T_publicanref9_Word → Option R} {er : List T_publicanref9_Word → Int → Option R}, 0 ≤ x0 → x0 ≤ t.length → Wl x2 x0 → t.length - x0 < j → (∀ l, Wl l t.length → G (e0 t l)) → (∀ l v, 0 ≤ v → G (er l v)) → G (publicanref9_Cut_L0 m j x0 t x2 e0 er) := by
  induction j with
  | zero => intro x0 x2 e0 er h h' hw hj he hx; exact absurd hj (by omega)
  | succ j ih =>
    intro x0 x2 e0 er h h' hw hj he hx
    unfold publicanref9_Cut_L0
    exact Cut_S0 hm hl h h' hw (fun v l hv hv' hwl => ih (by omega) hv' hwl (by omega) he hx) (he _ (hw.mono h')) hx
theorem Cut_sp (hm : 100000 ≤ m) {t : List UInt8} (hl : t.length < 99999) {κ : List T_publicanref9_Word → Int → Option R} (hk : ∀ l, WsOk l → 0 < l.length → G (κ l (-1))) (hx : ∀ l v, 0 ≤ v → G (κ l v)) : G (publicanref9_Cut m t κ) := by
  unfold publicanref9_Cut
  refine Cut_L0 hm (by omega) m (by omega) (by omega) ⟨by show ((0 : Nat) : Int) ≤ 0; omega, fun _ h => nomatch h⟩ (by omega) (fun l hw => ?_) hx
  have hlen := hw.len
  refine br_g (okAp_t (by decide) (by show l.length + 1 ≤ _; omega)) (hk _ ⟨?_, fun i hi => ?_, fun i hi hne => ?_⟩ ?_)
  · rw [List.length_append]; show l.length + 1 ≤ _; omega
  · rcases List.mem_append.1 (el5_mem hi) with hm | hm
    · exact hw.pos _ hm
    · rw [List.mem_singleton.1 hm]; show (0 : Int) ≤ (t.length : Int); omega
  · have hi' : i < l.length + 1 := by rw [List.length_append] at hi; exact hi
    by_cases e : i = l.length
    · subst e; rw [el5_last] at hne; exact absurd rfl hne
    · rw [List.length_append]; show i + 1 < l.length + 1; omega
  · rw [List.length_append]; show 0 < l.length + 1; omega
end Go.Pm
namespace Go.Pm
open Go Go.EvM Go.Pv
variable {R : Type} {G : Option R → Prop} {m : Nat}
structure TreeOk (r : T_publicanref9_Node) : Prop where
  len : r.f_Kids.length ≤ 100000
  kid : ∀ y, y ∈ r.f_Kids → DeclOk y
theorem TreeOk.nil {a b : List UInt8} {c d e : Int} : TreeOk (.mk a b c d e []) := ⟨Nat.zero_le _, fun _ h => nomatch h⟩
theorem Parse_L0 {l : List T_publicanref9_Word} (hw : WsOk l) (hm : 120000 ≤ m) (j : Nat) : ∀ {x0 x1 : List UInt8} {x2 x3 x4 : Int} {st : T_publicanref9_parser} {x10 x11 : List UInt8} {x12 x13 x14 : Int} {x15 x16 : List T_publicanref9_Node}
    {e0 : List UInt8 → List UInt8 → Int → Int → Int → List T_publicanref9_Node → List T_publicanref9_Word → Int → Int → Bool → Int → List UInt8 → List UInt8 → Int → Int → Int → List T_publicanref9_Node → Option R},
    0 < j → (0 ≤ st.f_bad ∨ l.length - st.f_k < j) → Inv l st → (x16.length ≤ st.f_k ∨ (0 ≤ st.f_bad ∧ x16.length ≤ 100000)) → (∀ y, y ∈ x16 → DeclOk y) →
    (∀ (t : T_publicanref9_parser) (ks : List T_publicanref9_Node), ks.length ≤ 100000 → (∀ y, y ∈ ks → DeclOk y) → G (e0 x10 x11 x12 x13 x14 x15 t.f_l t.f_k t.f_bad t.f_deep t.f_d x0 x1 x2 x3 x4 ks)) →
    G (publicanref9_Parse_L0 m j x0 x1 x2 x3 x4 st.f_l st.f_k st.f_bad st.f_deep st.f_d x10 x11 x12 x13 x14 x15 x16 e0) := by
  induction j with
  | zero => intro x0 x1 x2 x3 x4 st x10 x11 x12 x13 x14 x15 x16 e0 hj0; exact absurd hj0 (by omega)
  | succ j ih =>
    intro x0 x1 x2 x3 x4 st x10 x11 x12 x13 x14 x15 x16 e0 hj0 hj hi hk hd he
    have hlen := hw.len
    have hkl := hi.kl
    have hk' : x16.length ≤ 100000 := by omega
    unfold publicanref9_Parse_L0 publicanref9_Parse_S0
    refine br_sp (fun hb => br_g hi.inB (br_sp (fun _ => ?_) (fun _ => he st _ hk' hd))) (fun _ => he st _ hk' hd)
    have hb := ltI_t.1 hb
    rw [st_eta]
    refine decl_sp hw hm hi fun r t it s p dr => ?_
    have hs := s.k
    have htl := it.kl
    refine br_g (okAp_t (by decide) (by show x16.length + 1 ≤ _; omega)) (ih (x16 := x16 ++ [r]) (by omega) ?_ it ?_ (fun y hy => ?_) he)
    · rcases p with p | p
      · exact .inr (by omega)
      · exact .inl p
    · rw [List.length_append]
      show ((x16.length + 1 : Nat) : Int) ≤ _ ∨ (_ ∧ x16.length + 1 ≤ 100000)
      rcases p with p | p
      · exact .inl (by omega)
      · exact .inr ⟨p, by omega⟩
    · rcases List.mem_append.1 hy with hy | hy
      · exact hd y hy
      · rcases List.mem_singleton.1 hy with rfl; exact dr
theorem Parse_sp (hm : 120000 ≤ m) {t : List UInt8} (hl : t.length < 99999) {κ : T_publicanref9_Node → Int → Bool → Option R} (hk : ∀ r b d, TreeOk r → G (κ r b d)) : G (publicanref9_Parse m t κ) := by
  unfold publicanref9_Parse
  refine Cut_sp (by omega) hl (fun l hw h0 => ?_) (fun l v hv => ?_)
  · refine br_sp (fun hc => nomatch hc) (fun _ => br_g (inB_t.2 ⟨by omega, by omega⟩) ?_)
    refine Parse_L0 hw hm m (st := .mk l 0 (-1) false 0) (by omega) (.inr (by have := hw.len; show (l.length : Int) - 0 < m; omega)) ⟨rfl, Int.le_refl _, by show (0 : Int) < l.length; omega, Int.le_refl _, by show (0 : Int) ≤ 40; omega⟩ (.inl (by show ((0 : Nat) : Int) ≤ 0; omega)) (fun y hy => nomatch hy) fun t ks h1 h2 => ?_
    exact br_sp (fun _ => hk _ _ _ .nil) (fun _ => hk _ _ _ ⟨h1, h2⟩)
  · exact br_sp (fun _ => hk _ _ _ .nil) (fun hc => absurd (leI_f.1 hc) (by omega))
end Go.Pm
namespace Go.Pm
open Go Go.EvM Go.Pv
variable {R : Type} {G : Option R → Prop} {m : Nat}
noncomputable def backN : Nat → T_publicanref9_Node → T_syn_Node
  | 0, _ => .mk [] [] 0 0 0 []
  | n + 1, x => .mk x.f_Op x.f_Name x.f_Kind x.f_N x.f_At (x.f_Kids.map (backN n))
theorem el6_get {l : List T_publicanref9_Node} {i : Nat} (h : i < l.length) : el6 l i = l[i] := by
  unfold el6 getD
  rw [nth_eq, List.getElem?_eq_getElem h]
theorem Back_L0 {g : G_publicanref17_Back R} {n : Nat} (j : Nat) : ∀ {x0 : Int} {x1 x2 : List UInt8} {x3 x4 x5 : Int} {x6 x7 : List UInt8} {x8 x9 x10 : Int} {x11 : List T_publicanref9_Node} {x12 x13 : List UInt8} {x14 x15 x16 : Int} {x17 x18 : List T_syn_Node}
    {e0 : List UInt8 → List UInt8 → Int → Int → Int → List T_syn_Node → List UInt8 → List UInt8 → Int → Int → Int → List T_syn_Node → Option R},
    0 ≤ x0 → x0 ≤ x11.length → x11.length ≤ 100000 → x11.length - x0 < j → x18 = (x11.take (iNat x0)).map (backN n) →
    (∀ y, y ∈ x11 → ∀ {κ : T_syn_Node → Option R}, G (κ (backN n y)) → G (g.publicanref17_Back y κ)) →
    G (e0 x12 x13 x14 x15 x16 x17 x1 x2 x3 x4 x5 (x11.map (backN n))) →
    G (publicanref17_Back_L0 m g j x0 x1 x2 x3 x4 x5 x6 x7 x8 x9 x10 x11 x12 x13 x14 x15 x16 x17 x18 e0) := by
  induction j with
  | zero => intro x0 x1 x2 x3 x4 x5 x6 x7 x8 x9 x10 x11 x12 x13 x14 x15 x16 x17 x18 e0 h0 h1 hl hj; exact absurd hj (by omega)
  | succ j ih =>
    intro x0 x1 x2 x3 x4 x5 x6 x7 x8 x9 x10 x11 x12 x13 x14 x15 x16 x17 x18 e0 h0 h1 hl hj hx hg he
    have hi := iNat_of h0
    unfold publicanref17_Back_L0 publicanref17_Back_S0
    refine br_sp (fun hc => ?_) (fun hc => ?_)
    · have hc := ltI_t.1 hc
      have hlt : iNat x0 < x11.length := by omega
      refine br_g (inB_t.2 ⟨h0, hc⟩) (hg _ (by rw [el6_get hlt]; exact List.getElem_mem hlt) ?_)
      have hlen : x18.length = iNat x0 := by rw [hx, List.length_map, List.length_take]; omega
      refine br_g (okAp_t (by decide) (by show x18.length + 1 ≤ _; omega)) ?_
      rw [wr_in (n := x0 + 1) (by omega) (by omega)]
      have h2 : iNat (x0 + 1) = iNat x0 + 1 := by have := iNat_of (n := x0 + 1) (by omega); omega
      refine ih (by omega) (by omega) hl (by omega) ?_ hg he
      rw [h2, List.take_add_one, List.map_append, hx, el6_get hlt, List.getElem?_eq_getElem hlt]
      rfl
    · have hc := ltI_f.1 hc
      have : x18 = x11.map (backN n) := by rw [hx, List.take_of_length_le (by omega)]
      rw [this]; exact he
theorem Back_r : ∀ (n j : Nat) {x : T_publicanref9_Node}, Sm n x → n + 100001 ≤ j → ∀ {κ : T_syn_Node → Option R}, G (κ (backN n x)) → G ((G_publicanref17_Back_r (R := R) j).publicanref17_Back x κ)
  | 0, _, _, h, _, _, _ => h.elim
  | n + 1, 0, _, _, hj, _, _ => absurd hj (by omega)
  | n + 1, j + 1, x, h, hj, κ, hk => by
    show G (publicanref17_Back_B j (G_publicanref17_Back_r j) x κ)
    unfold publicanref17_Back_B
    exact Back_L0 (n := n) j (Int.le_refl _) (by omega) h.1 (by have := h.1; omega) rfl (fun y hy _ hk => Back_r n j (h.2 y hy) (by omega) hk) hk
end Go.Pm
namespace Go.Pm
open Go Go.EvM Go.Pv
variable {R : Type} {G : Option R → Prop} {m : Nat}
noncomputable def allS (f : T_publicanref9_Node → T_publicanref9_Node → Bool) : List T_publicanref9_Node → List T_publicanref9_Node → Bool
  | x :: l, y :: k => f x y && allS f l k
  | _, _ => true
noncomputable def sameN : Nat → T_publicanref9_Node → T_publicanref9_Node → Bool
  | 0, _, _ => true
  | n + 1, x, y => eqL x.f_Op y.f_Op && (eqL x.f_Name y.f_Name && (eqI x.f_Kind y.f_Kind && (eqI x.f_N y.f_N && (eqI x.f_Kids.length y.f_Kids.length && allS (sameN n) x.f_Kids y.f_Kids))))
theorem sameN_succ (n : Nat) (x y : T_publicanref9_Node) : sameN (n + 1) x y = (eqL x.f_Op y.f_Op && (eqL x.f_Name y.f_Name && (eqI x.f_Kind y.f_Kind && (eqI x.f_N y.f_N && (eqI x.f_Kids.length y.f_Kids.length && allS (sameN n) x.f_Kids y.f_Kids))))) := rfl
theorem drop_el {K : List T_publicanref9_Node} {i : Nat} (h : i < K.length) : K.drop i = el6 K i :: K.drop (i + 1) := by
  rw [el6_get h]; exact List.drop_eq_getElem_cons h
theorem el7_map {K : List T_publicanref9_Node} {i : Nat} {f : T_publicanref9_Node → T_syn_Node} (h : i < K.length) : el7 (K.map f) i = f (el6 K i) := by
  rw [el6_get h]
  unfold el7 getD
  rw [nth_eq, List.getElem?_map, List.getElem?_eq_getElem h]
  rfl
theorem el6_mem {K : List T_publicanref9_Node} {i : Nat} (h : i < K.length) : el6 K i ∈ K := by rw [el6_get h]; exact List.getElem_mem h
theorem synN_eta (r : T_syn_Node) : T_syn_Node.mk r.f_Op r.f_Name r.f_Kind r.f_N r.f_At r.f_Kids = r := by cases r; rfl
theorem refN_eta (r : T_publicanref9_Node) : T_publicanref9_Node.mk r.f_Op r.f_Name r.f_Kind r.f_N r.f_At r.f_Kids = r := by cases r; rfl
theorem refS_L0 {g : G_publicanref9_Same R} {n : Nat} {X Y : List T_publicanref9_Node} (hl : X.length ≤ 100000) (hxy : X.length = Y.length) (hg : ∀ x, x ∈ X → ∀ y, y ∈ Y → ∀ {κ : Bool → Option R}, G (κ (sameN n x y)) → G (g.publicanref9_Same x y κ))
    {x1 x2 : List UInt8} {x3 x4 x5 : Int} {x7 x8 : List UInt8} {x9 x10 x11 : Int} {e0 : Unit → Option R} {er : Bool → Option R} (j : Nat) : ∀ {x0 : Int}, 0 ≤ x0 → x0 ≤ X.length → X.length - x0 < j →
    (allS (sameN n) (X.drop (iNat x0)) (Y.drop (iNat x0)) = true → G (e0 ())) → (allS (sameN n) (X.drop (iNat x0)) (Y.drop (iNat x0)) = false → G (er false)) →
    G (publicanref9_Same_L0 m g j x0 x1 x2 x3 x4 x5 Y x7 x8 x9 x10 x11 X e0 er) := by
  induction j with
  | zero => intro x0 h0 h1 hj; exact absurd hj (by omega)
  | succ j ih =>
    intro x0 h0 h1 hj he hr
    have hi := iNat_of h0
    unfold publicanref9_Same_L0 publicanref9_Same_S0
    refine br_sp (fun hc => ?_) (fun hc => ?_)
    rotate_left
    · have hc := ltI_f.1 hc
      exact he (by rw [List.drop_eq_nil_of_le (by omega)]; rfl)
    have hc := ltI_t.1 hc
    have hlt : iNat x0 < X.length := by omega
    have hlt' : iNat x0 < Y.length := by omega
    have h2 : iNat (x0 + 1) = iNat x0 + 1 := by have := iNat_of (n := x0 + 1) (by omega); omega
    rw [drop_el hlt, drop_el hlt'] at he hr
    refine br_g (inB_t.2 ⟨h0, hc⟩) (br_g (inB_t.2 ⟨h0, by omega⟩) (hg _ (el6_mem hlt) _ (el6_mem hlt') ?_))
    rw [wr_in (n := x0 + 1) (by omega) (by omega)]
    cases hs : sameN n (el6 X (iNat x0)) (el6 Y (iNat x0)) with
    | false => exact hr (by unfold allS; rw [hs]; rfl)
    | true =>
      refine ih (by omega) (by omega) (by omega) (fun h => he ?_) (fun h => hr ?_) <;>
      · rw [h2] at h; unfold allS; rw [hs, Bool.true_and]; exact h
theorem refS_r : ∀ (n j : Nat) {x y : T_publicanref9_Node}, Sm n x → Sm n y → n + 100001 ≤ j → ∀ {κ : Bool → Option R}, G (κ (sameN n x y)) → G ((G_publicanref9_Same_r (R := R) j).publicanref9_Same x y κ)
  | 0, _, _, _, h, _, _, _, _ => h.elim
  | n + 1, 0, _, _, _, _, hj, _, _ => absurd hj (by omega)
  | n + 1, j + 1, x, y, hx, hy, hj, κ, hk => by
    show G (publicanref9_Same_B j (G_publicanref9_Same_r j) x y κ)
    unfold publicanref9_Same_B
    rw [sameN_succ] at hk
    cases h1 : eqL x.f_Op y.f_Op with
    | false => rw [h1] at hk; exact hk
    | true => cases h2 : eqL x.f_Name y.f_Name with
      | false => rw [h1, h2] at hk; exact hk
      | true => cases h3 : eqI x.f_Kind y.f_Kind with
        | false => rw [h1, h2, h3] at hk; exact hk
        | true => cases h4 : eqI x.f_N y.f_N with
          | false => rw [h1, h2, h3, h4] at hk; exact hk
          | true =>
            rw [h1, h2, h3, h4] at hk
            dsimp only
            refine br_sp (fun h => nomatch h) fun _ => br_sp (fun h => nomatch h) fun _ => br_sp (fun h => nomatch h) fun _ => br_sp (fun h => nomatch h) fun _ => br_sp (fun h => ?_) (fun h => ?_)
            · cases h5 : eqI (x.f_Kids.length : Int) y.f_Kids.length with
              | true => rw [h5] at h; exact nomatch h
              | false => rw [h5] at hk; exact hk
            · cases h5 : eqI (x.f_Kids.length : Int) y.f_Kids.length with
              | false => rw [h5] at h; exact nomatch h
              | true =>
                rw [h5] at hk
                have hlen := eqI_t.1 h5
                have hxl := hx.1
                exact refS_L0 (n := n) hxl (by omega) (fun u hu v hv _ hk => refS_r n j (hx.2 u hu) (hy.2 v hv) (by omega) hk) j (Int.le_refl _) (by omega) (by omega)
                  (fun h => by have h : allS (sameN n) x.f_Kids y.f_Kids = true := h; rw [h] at hk; exact hk) (fun h => by have h : allS (sameN n) x.f_Kids y.f_Kids = false := h; rw [h] at hk; exact hk)
structure IsB (n : Nat) (a : T_syn_Node) (x : T_publicanref9_Node) : Prop where
  op : a.f_Op = x.f_Op
  nm : a.f_Name = x.f_Name
  kd : a.f_Kind = x.f_Kind
  nn : a.f_N = x.f_N
  ks : a.f_Kids = x.f_Kids.map (backN n)
theorem IsB.back (n : Nat) (x : T_publicanref9_Node) : IsB n (backN (n + 1) x) x := ⟨rfl, rfl, rfl, rfl, rfl⟩
theorem synS_L0 {g : G_syn_Same R} {n : Nat} {X Y : List T_publicanref9_Node} (hl : X.length ≤ 100000) (hxy : X.length = Y.length) (hg : ∀ x, x ∈ X → ∀ y, y ∈ Y → ∀ {κ : Bool → Option R}, G (κ (sameN n x y)) → G (g.syn_Same (backN n x) (backN n y) κ))
    {e0 : Unit → Option R} {er : Bool → Option R} (j : Nat) : ∀ {x0 : Int}, 0 ≤ x0 → x0 ≤ X.length → X.length - x0 < j →
    (allS (sameN n) (X.drop (iNat x0)) (Y.drop (iNat x0)) = true → G (e0 ())) → (allS (sameN n) (X.drop (iNat x0)) (Y.drop (iNat x0)) = false → G (er false)) →
    G (slices_EqualFunc___publican_syn_Node___publican_syn_Node_publican_syn_Node_publican_syn_Node__L0 m g j x0 (Y.map (backN n)) (X.map (backN n)) X.length e0 er) := by
  induction j with
  | zero => intro x0 h0 h1 hj; exact absurd hj (by omega)
  | succ j ih =>
    intro x0 h0 h1 hj he hr
    have hi := iNat_of h0
    unfold slices_EqualFunc___publican_syn_Node___publican_syn_Node_publican_syn_Node_publican_syn_Node__L0 slices_EqualFunc___publican_syn_Node___publican_syn_Node_publican_syn_Node_publican_syn_Node__S0
    refine br_sp (fun hc => ?_) (fun hc => ?_)
    rotate_left
    · have hc := ltI_f.1 hc
      exact he (by rw [List.drop_eq_nil_of_le (by omega)]; rfl)
    have hc := ltI_t.1 hc
    have hlt : iNat x0 < X.length := by omega
    have hlt' : iNat x0 < Y.length := by omega
    have h2 : iNat (x0 + 1) = iNat x0 + 1 := by have := iNat_of (n := x0 + 1) (by omega); omega
    rw [drop_el hlt, drop_el hlt'] at he hr
    dsimp only
    rw [el7_map hlt, el7_map hlt', synN_eta, synN_eta]
    refine br_g (inB_t.2 ⟨h0, by rw [List.length_map]; exact hc⟩) (br_g (inB_t.2 ⟨h0, by rw [List.length_map]; omega⟩) (hg _ (el6_mem hlt) _ (el6_mem hlt') ?_))
    rw [wr_in (n := x0 + 1) (by omega) (by omega)]
    cases hs : sameN n (el6 X (iNat x0)) (el6 Y (iNat x0)) with
    | false => exact hr (by unfold allS; rw [hs]; rfl)
    | true =>
      refine ih (by omega) (by omega) (by omega) (fun h => he ?_) (fun h => hr ?_) <;>
      · rw [h2] at h; unfold allS; rw [hs, Bool.true_and]; exact h
theorem synS_r : ∀ (n j : Nat) {x y : T_publicanref9_Node}, Sm n x → Sm n y → 2 * n + 100002 ≤ j → ∀ {a b : T_syn_Node}, IsB (n - 1) a x → IsB (n - 1) b y → ∀ {κ : Bool → Option R}, G (κ (sameN n x y)) → G ((G_syn_Same_r (R := R) j).syn_Same a b κ)
  | 0, _, _, _, h, _, _, _, _, _, _, _, _ => h.elim
  | n + 1, 0, _, _, _, _, hj, _, _, _, _, _, _ => absurd hj (by omega)
  | n + 1, 1, _, _, _, _, hj, _, _, _, _, _, _ => absurd hj (by omega)
  | n + 1, j + 2, x, y, hx, hy, hj, a, b, ha, hb, κ, hk => by
    show G (syn_Same_B (j + 1) (G_syn_Same_r (j + 1)) a b κ)
    unfold syn_Same_B
    rw [sameN_succ] at hk
    rw [ha.op, ha.nm, ha.kd, ha.nn, ha.ks, hb.op, hb.nm, hb.kd, hb.nn, hb.ks]
    cases h1 : eqL x.f_Op y.f_Op with
    | false => rw [h1] at hk; exact hk
    | true => cases h2 : eqL x.f_Name y.f_Name with
      | false => rw [h1, h2] at hk; exact hk
      | true => cases h3 : eqI x.f_Kind y.f_Kind with
        | false => rw [h1, h2, h3] at hk; exact hk
        | true => cases h4 : eqI x.f_N y.f_N with
          | false => rw [h1, h2, h3, h4] at hk; exact hk
          | true =>
            rw [h1, h2, h3, h4] at hk
            show G (slices_EqualFunc___publican_syn_Node___publican_syn_Node_publican_syn_Node_publican_syn_Node__B j (G_syn_Same_r j) (x.f_Kids.map (backN n)) (y.f_Kids.map (backN n)) fun r => κ r)
            unfold slices_EqualFunc___publican_syn_Node___publican_syn_Node_publican_syn_Node_publican_syn_Node__B
            simp only [List.length_map]
            refine br_sp (fun h => ?_) (fun h => ?_)
            · cases h5 : eqI (x.f_Kids.length : Int) y.f_Kids.length with
              | true => rw [h5] at h; exact nomatch h
              | false => rw [h5] at hk; exact hk
            · cases h5 : eqI (x.f_Kids.length : Int) y.f_Kids.length with
              | false => rw [h5] at h; exact nomatch h
              | true =>
                rw [h5] at hk
                have hlen := eqI_t.1 h5
                have hxl := hx.1
                refine synS_L0 (n := n) hxl (by omega) (fun u hu v hv _ hk => ?_) j (Int.le_refl _) (by omega) (by omega)
                  (fun h => by have h : allS (sameN n) x.f_Kids y.f_Kids = true := h; rw [h] at hk; exact hk) (fun h => by have h : allS (sameN n) x.f_Kids y.f_Kids = false := h; rw [h] at hk; exact hk)
                cases n with
                | zero => exact (hx.2 u hu).elim
                | succ n => exact synS_r (n + 1) j (hx.2 u hu) (hy.2 v hv) (by omega) (IsB.back n u) (IsB.back n v) hk
theorem DeclOk.sm' {r : T_publicanref9_Node} (h : DeclOk r) : Sm 100003 r := ⟨by have := h.len; omega, h.sm⟩
theorem TreeOk.sm' {r : T_publicanref9_Node} (h : TreeOk r) : Sm 100004 r := ⟨h.len, fun y hy => (h.kid y hy).sm'⟩
theorem Read_sp (hm : 300000 ≤ m) {t : List UInt8} (hl : t.length < 99999) {κ : T_syn_Node → T_publicanref9_Node → Bool → Option R} (hk : ∀ r b, TreeOk r → G (κ (backN 100004 r) r b)) : G (publicanref17_Read m t κ) := by
  unfold publicanref17_Read
  refine Parse_sp (by omega) hl fun r b d hr => ?_
  rw [refN_eta]
  refine Back_r 100004 m hr.sm' (by omega) ?_
  have := hk r (ltI b 0) hr
  rw [synN_eta]
  exact this
theorem eqB_self (b : Bool) : eqB b b = true := by cases b <;> rfl
theorem law_sp (hm : 400000 ≤ m) (s t : List UInt8) (at' : Int) {κ : Bool → Option R} (hk : G (κ true)) : G (publicanlaw10_SynSame m s t at' κ) := by
  unfold publicanlaw10_SynSame publicanlaw10_awake
  refine br_sp (fun h => nomatch h) (fun _ => br_sp (fun _ => hk) (fun hc => br_sp (fun _ => hk) (fun hd => ?_)))
  have hc := ltI_f.1 hc
  have hd := ltI_f.1 hd
  refine Read_sp (by omega) (by omega) fun r b hr => Read_sp (by omega) (by omega) fun q c hq => br_sp (fun _ => hk) (fun _ => br_sp (fun _ => hk) (fun _ => ?_))
  rw [synN_eta, refN_eta, refN_eta]
  refine synS_r 100004 m hr.sm' hq.sm' (by omega) ⟨rfl, rfl, rfl, rfl, rfl⟩ (IsB.back 100003 q) ?_
  refine refS_r 100004 m hr.sm' hq.sm' (by omega) ?_
  dsimp only
  rw [eqB_self]; exact hk
end Go.Pm
