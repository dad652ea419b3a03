/- The interpreter over data answers as the plain functions say. -/
import Derived.Test.YtodccifahbgogaaGreatFmB
set_option linter.unusedVariables false
set_option linter.unusedSectionVars false
set_option linter.unusedSimpArgs false
namespace Go.Pm
open Go Go.EvM Go.Pv Go.Proofs
set_option maxRecDepth 100000
set_option linter.unusedVariables false
set_option linter.unusedSectionVars false
noncomputable section
variable {R : Type}
def r9p_fail_a := aX (aC (aP 0 0) <| aN) (aC o9 <| aN)
def r9p_fail_h (F : Y_r9p_fail R) := fun o0 (κ : Ko R) => F o0 (fun w0 => κ (.tup []) [w9 w0])
def r9p_fail_s (F : Y_r9p_fail R) : PSem R := semOf [none] (rawA r9p_fail_a (r9p_fail_h F))
theorem r9p_fail_e (m : Nat) (c0 : Y_r9p_w R) : r9p_fail_a.w _ (fun x κ => pFun tb (tabG (R := R) [(153, r9p_w_s c0)]) 1 [] [] Tryz.f162 x.1 x.2 κ) = r9p_fail_h (r9p_fail_F m c0) := by kernel_rfl
theorem r9p_fail_k (m : Nat) : SemOK cxP 162 (r9p_fail_s (R := R) (r9p_fail m)) := semOf_ok (raw0 C (tabG_ok (.cons (r9p_w_k m) .nil)) (fn_of Tryz.func162) rfl rfl (by kernel_rfl) (by kernel_rfl) (r9p_fail_e m (r9p_w m)))
def r1_Days_a := aX (aC (aI .i64) <| aC (aI .i64) <| aN) (aN)
def r1_Days_h (F : Y_r1_Days R) := fun a0 a1 (κ : Ko R) => F a0 a1 (fun r => κ (.int .i64 r) [])
def r1_Days_s (F : Y_r1_Days R) : PSem R := semOf [none, none] (rawA r1_Days_a (r1_Days_h F))
theorem r1_Days_e (m : Nat) (c0 : Y_r1_Leap R) : r1_Days_a.w _ (fun x κ => pFun tb (tabG (R := R) [(168, r1_Leap_s c0)]) 0 [] [none] Tryz.f169 x.1 x.2 κ) = r1_Days_h (r1_Days_F m c0) := by kernel_rfl
theorem r1_Days_k (m : Nat) : SemOK cxP 169 (r1_Days_s (R := R) (r1_Days m)) := semOf_ok (raw0 C (tabG_ok (.cons (r1_Leap_k m) .nil)) (fn_of Tryz.func169) rfl rfl (by kernel_rfl) (by kernel_rfl) (r1_Days_e m (r1_Leap m)))
def num_product_a := aX (aC (aI .i64) <| aC (aI .i64) <| aN) (aN)
def num_product_h (F : Y_num_product R) := fun a0 a1 (κ : Ko R) => F a0 a1 (fun r => κ (.st 11 r) [])
def num_product_s (F : Y_num_product R) : PSem R := semOf [none, none] (rawA num_product_a (num_product_h F))
theorem num_product_e (m : Nat) (c0 : Y_b_Mul64 R) : num_product_a.w _ (fun x κ => pFun tb (tabG (R := R) [(203, b_Mul64_s c0)]) 0 [] [some (false, 11)] Tryz.f176 x.1 x.2 κ) = num_product_h (num_product_F m c0) := by kernel_rfl
theorem num_product_k (m : Nat) : SemOK cxP 176 (num_product_s (R := R) (num_product m)) := semOf_ok (raw0 C (tabG_ok (.cons (b_Mul64_k m) .nil)) (fn_of Tryz.func176) rfl rfl (by kernel_rfl) (by kernel_rfl) (num_product_e m (b_Mul64 m)))
def r9_percent_G (c0 : Y_r9_number R) : FuncId → PSem R := tabG [(181, r9_number_s c0)]
def r9_percent_l0 : LpS := ⟨[(1, .any), (0, .any)], [(1, .any), (0, .any)], []⟩
def r9_percent_a0 := aX (aC aS <| aC aS <| aN) (aN)
def r9_percent_x0 := aX (aC aS <| aC aS <| aN) (aN)
theorem r9_percent_S0_e (m : Nat) (c0 : Y_r9_number R) (ρ : Kr R) (kx : Kx R) (kr : Kr R) : roundA tb (r9_percent_G c0) 0 Tryz.f180 (lpC (bodyOf Tryz.f180) 0) [] r9_percent_l0 r9_percent_a0 ρ kx kr = r9_percent_S0 m (r9_percent_a0.w _ (pr ρ)) (r9_percent_x0.w _ (pr (kx 0))) := by kernel_rfl
def r9_percent_X0 (l : r9_percent_V0 R) (m : Nat) : LoopH R := loopA r9_percent_l0 r9_percent_a0 fun kx kr => l (r9_percent_x0.w _ (pr (kx 0))) m
theorem r9_percent_X0_k {m : Nat} {c0 : Y_r9_number R} (HG : ∀ f, SemOK cxP f (r9_percent_G (R := R) c0 f)) : LoopSem cxP Tryz.f180.ntmps 0 (lpC (bodyOf Tryz.f180) 0) (r9_percent_X0 (R := R) (r9_percent_L0 m) m) := loopA_ok C HG (by kernel_rfl) (show loopsIn (lpC (bodyOf Tryz.f180) 0) = [] from by kernel_rfl) (.nil _) m (fun _ _ => rfl) rfl (r9_percent_S0_e m c0)
def r9_percent_a := aX (aC aS <| aC aS <| aN) (aN)
def r9_percent_h (F : Y_r9_percent R) := fun a0 a1 (κ : Ko R) => F a0 a1 (fun r_0 r_1 => κ (.tup [.int .i64 r_0, .bool r_1]) [])
def r9_percent_s (F : Y_r9_percent R) : PSem R := semOf [none, none] (rawA r9_percent_a (r9_percent_h F))
theorem r9_percent_e (m : Nat) (c0 : Y_r9_number R) (l0 : r9_percent_V0 R) : r9_percent_a.w _ (fun x κ => pFun tb (r9_percent_G (R := R) c0) 0 [r9_percent_X0 l0 m] [none, none] Tryz.f180 x.1 x.2 κ) = r9_percent_h (r9_percent_F m c0 l0) := by kernel_rfl
theorem r9_percent_k (m : Nat) : SemOK cxP 180 (r9_percent_s (R := R) (r9_percent m)) :=
 have HG : ∀ f, SemOK cxP f (r9_percent_G (R := R) (r9_number m) f) := tabG_ok (.cons (r9_number_k m) .nil)
 semOf_ok (rawA_ok C HG (fn_of Tryz.func180) rfl rfl (by kernel_rfl) (show loopsIn (bodyOf Tryz.f180) = [(lpC (bodyOf Tryz.f180) 0)] from by kernel_rfl) (.cons (r9_percent_X0_k HG) (.nil _)) (r9_percent_e m (r9_number m) (r9_percent_L0 m)))
def num_Wide_turned_a := aX (aC (aT 11) <| aN) (aN)
def num_Wide_turned_h (F : Y_num_Wide_turned R) := fun a0 (κ : Ko R) => F a0 (fun r => κ (.st 11 r) [])
def num_Wide_turned_s (F : Y_num_Wide_turned R) : PSem R := semOf [some (false, 11)] (rawA num_Wide_turned_a (num_Wide_turned_h F))
theorem num_Wide_turned_e (m : Nat) (c0 : Y_b_Sub64 R) : num_Wide_turned_a.w _ (fun x κ => pFun tb (tabG (R := R) [(220, b_Sub64_s c0)]) 0 [] [some (false, 11)] Tryz.f204 x.1 x.2 κ) = num_Wide_turned_h (num_Wide_turned_F m c0) := by kernel_rfl
theorem num_Wide_turned_k (m : Nat) : SemOK cxP 204 (num_Wide_turned_s (R := R) (num_Wide_turned m)) := semOf_ok (raw0 C (tabG_ok (.cons (b_Sub64_k m) .nil)) (fn_of Tryz.func204) rfl rfl (by kernel_rfl) (by kernel_rfl) (num_Wide_turned_e m (b_Sub64 m)))
def num_Wide_Plus_a := aX (aC (aT 11) <| aC (aT 11) <| aN) (aN)
def num_Wide_Plus_h (F : Y_num_Wide_Plus R) := fun a0 a1 (κ : Ko R) => F a0 a1 (fun r_0 r_1 => κ (.tup [.st 11 r_0, .bool r_1]) [])
def num_Wide_Plus_s (F : Y_num_Wide_Plus R) : PSem R := semOf [some (false, 11), some (false, 11)] (rawA num_Wide_Plus_a (num_Wide_Plus_h F))
theorem num_Wide_Plus_e (m : Nat) (c0 : Y_b_Add64 R) : num_Wide_Plus_a.w _ (fun x κ => pFun tb (tabG (R := R) [(222, b_Add64_s c0)]) 0 [] [some (false, 11), none] Tryz.f206 x.1 x.2 κ) = num_Wide_Plus_h (num_Wide_Plus_F m c0) := by kernel_rfl
theorem num_Wide_Plus_k (m : Nat) : SemOK cxP 206 (num_Wide_Plus_s (R := R) (num_Wide_Plus m)) := semOf_ok (raw0 C (tabG_ok (.cons (b_Add64_k m) .nil)) (fn_of Tryz.func206) rfl rfl (by kernel_rfl) (by kernel_rfl) (num_Wide_Plus_e m (b_Add64 m)))
def b_LeadingZeros64_a := aX (aC (aI .u64) <| aN) (aN)
def b_LeadingZeros64_h (F : Y_b_LeadingZeros64 R) := fun a0 (κ : Ko R) => F a0 (fun r => κ (.int .i64 r) [])
def b_LeadingZeros64_s (F : Y_b_LeadingZeros64 R) : PSem R := semOf [none] (rawA b_LeadingZeros64_a (b_LeadingZeros64_h F))
theorem b_LeadingZeros64_e (m : Nat) (c0 : Y_b_Len64 R) : b_LeadingZeros64_a.w _ (fun x κ => pFun tb (tabG (R := R) [(200, b_Len64_s c0)]) 0 [] [none] Tryz.f221 x.1 x.2 κ) = b_LeadingZeros64_h (b_LeadingZeros64_F m c0) := by kernel_rfl
theorem b_LeadingZeros64_k (m : Nat) : SemOK cxP 221 (b_LeadingZeros64_s (R := R) (b_LeadingZeros64 m)) := semOf_ok (raw0 C (tabG_ok (.cons (b_Len64_k m) .nil)) (fn_of Tryz.func221) rfl rfl (by kernel_rfl) (by kernel_rfl) (b_LeadingZeros64_e m (b_Len64 m)))
def slices_ContainsF_a := aX (aC (aL 5) <| aC (aF 106) <| aN) (aN)
def slices_ContainsF_h (F : Y_slices_ContainsF R) := fun a0 (κ : Ko R) => F a0 (fun r => κ (.bool r) [])
def slices_ContainsF_s (F : Y_slices_ContainsF R) : PSem R := semOf [some (true, 5), none] (rawA slices_ContainsF_a (slices_ContainsF_h F))
theorem slices_ContainsF_e (m : Nat) (c0 : Y_slices_IndexFunc R) : slices_ContainsF_a.w _ (fun x κ => pFun tb (tabG (R := R) [(60, slices_IndexFunc_s c0)]) 0 [] [none] Tryz.f65 x.1 x.2 κ) = slices_ContainsF_h (slices_ContainsF_F m c0) := by kernel_rfl
theorem slices_ContainsF_k (m : Nat) : SemOK cxP 65 (slices_ContainsF_s (R := R) (slices_ContainsF m)) := semOf_ok (raw0 C (tabG_ok (.cons (slices_IndexFunc_k m) .nil)) (fn_of Tryz.func65) rfl rfl (by kernel_rfl) (by kernel_rfl) (slices_ContainsF_e m (slices_IndexFunc m)))
def r1_Of_a := aX (aC (aI .i64) <| aN) (aN)
def r1_Of_h (F : Y_r1_Of R) := fun a0 (κ : Ko R) => F a0 (fun r => κ (.st 7 r) [])
def r1_Of_s (F : Y_r1_Of R) : PSem R := semOf [none] (rawA r1_Of_a (r1_Of_h F))
theorem r1_Of_e (m : Nat) (c0 : Y_r1_U R) : r1_Of_a.w _ (fun x κ => pFun tb (tabG (R := R) [(143, r1_U_s c0)]) 0 [] [some (false, 7)] Tryz.f99 x.1 x.2 κ) = r1_Of_h (r1_Of_F m c0) := by kernel_rfl
theorem r1_Of_k (m : Nat) : SemOK cxP 99 (r1_Of_s (R := R) (r1_Of m)) := semOf_ok (raw0 C (tabG_ok (.cons (r1_U_k m) .nil)) (fn_of Tryz.func99) rfl rfl (by kernel_rfl) (by kernel_rfl) (r1_Of_e m (r1_U m)))
def r1_Mul_G (c0 : Y_r1_digit R) (c1 : Y_r1_trim R) : FuncId → PSem R := tabG [(145, r1_digit_s c0), (142, r1_trim_s c1)]
def r1_Mul_l0_0 : LpS := ⟨[(8, .any), (6, .any), (5, .any), (7, .any), (3, .fcells [(1, 8)]), (2, .fcells [(1, 8)]), (4, .fcells [(1, 8)])], [(5, .any), (3, .any), (2, .any), (4, .any), (6, .any)], []⟩
def r1_Mul_a0_0 := aX (aC (aI .i64) <| aC (aI .i64) <| aC (aO 0) <| aC (aI .u64) <| aC (aP 1 0) <| aC (aP 2 0) <| aC (aP 3 0) <| aN) (aC (aA 8) <| aC k7 <| aC k7 <| aC k7 <| aN)
def r1_Mul_x0_0 := aX (aC (aO 0) <| aC (aP 1 0) <| aC (aP 2 0) <| aC (aP 3 0) <| aC (aI .i64) <| aN) (aC (aA 8) <| aC k7 <| aC k7 <| aC k7 <| aN)
theorem r1_Mul_S0_0_e (m : Nat) (c0 : Y_r1_digit R) (c1 : Y_r1_trim R) (ρ : Kr R) (kx : Kx R) (kr : Kr R) : roundA tb (r1_Mul_G c0 c1) 0 Tryz.f102 (lpC (lpC (bodyOf Tryz.f102) 0) 0) [] r1_Mul_l0_0 r1_Mul_a0_0 ρ kx kr = r1_Mul_S0_0 m c0 (r1_Mul_a0_0.w _ (pr ρ)) (r1_Mul_x0_0.w _ (pr (kx 2))) := by kernel_rfl
def r1_Mul_X0_0 (l : r1_Mul_V0_0 R) (m : Nat) : LoopH R := loopA r1_Mul_l0_0 r1_Mul_a0_0 fun kx kr => l (r1_Mul_x0_0.w _ (pr (kx 2))) m
theorem r1_Mul_X0_0_k {m : Nat} {c0 : Y_r1_digit R} {c1 : Y_r1_trim R} (HG : ∀ f, SemOK cxP f (r1_Mul_G (R := R) c0 c1 f)) : LoopSem cxP Tryz.f102.ntmps 0 (lpC (lpC (bodyOf Tryz.f102) 0) 0) (r1_Mul_X0_0 (R := R) (r1_Mul_L0_0 m c0) m) := loopA_ok C HG (by kernel_rfl) (show loopsIn (lpC (lpC (bodyOf Tryz.f102) 0) 0) = [] from by kernel_rfl) (.nil _) m (fun _ _ => rfl) rfl (r1_Mul_S0_0_e m c0 c1)
def r1_Mul_l0 : LpS := ⟨[(6, .any), (5, .any), (3, .fcells [(1, 8)]), (2, .fcells [(1, 8)]), (4, .fcells [(1, 8)])], [(4, .any), (5, .any), (3, .any), (2, .any)], []⟩
def r1_Mul_a0 := aX (aC (aI .i64) <| aC (aO 0) <| aC (aP 1 0) <| aC (aP 2 0) <| aC (aP 3 0) <| aN) (aC (aA 8) <| aC k7 <| aC k7 <| aC k7 <| aN)
def r1_Mul_x0 := aX (aC (aP 0 0) <| aC (aO 1) <| aC (aP 2 0) <| aC (aP 3 0) <| aN) (aC k7 <| aC (aA 8) <| aC k7 <| aC k7 <| aN)
theorem r1_Mul_S0_e (m : Nat) (c0 : Y_r1_digit R) (c1 : Y_r1_trim R) (l0_0 : r1_Mul_V0_0 R) (ρ : Kr R) (kx : Kx R) (kr : Kr R) : roundA tb (r1_Mul_G c0 c1) 0 Tryz.f102 (lpC (bodyOf Tryz.f102) 0) [r1_Mul_X0_0 l0_0 m] r1_Mul_l0 r1_Mul_a0 ρ kx kr = r1_Mul_S0 m l0_0 (r1_Mul_a0.w _ (pr ρ)) (r1_Mul_x0.w _ (pr (kx 0))) := by kernel_rfl
def r1_Mul_X0 (l : r1_Mul_V0 R) (m : Nat) : LoopH R := loopA r1_Mul_l0 r1_Mul_a0 fun kx kr => l (r1_Mul_x0.w _ (pr (kx 0))) m
theorem r1_Mul_X0_k {m : Nat} {c0 : Y_r1_digit R} {c1 : Y_r1_trim R} (HG : ∀ f, SemOK cxP f (r1_Mul_G (R := R) c0 c1 f)) : LoopSem cxP Tryz.f102.ntmps 0 (lpC (bodyOf Tryz.f102) 0) (r1_Mul_X0 (R := R) (r1_Mul_L0 m c0) m) := loopA_ok C HG (by kernel_rfl) (show loopsIn (lpC (bodyOf Tryz.f102) 0) = [(lpC (lpC (bodyOf Tryz.f102) 0) 0)] from by kernel_rfl) (.cons (r1_Mul_X0_0_k HG) (.nil _)) m (fun _ _ => rfl) rfl (r1_Mul_S0_e m c0 c1 (r1_Mul_L0_0 m c0))
def r1_Mul_a := aX (aC (aT 7) <| aC (aT 7) <| aN) (aN)
def r1_Mul_h (F : Y_r1_Mul R) := fun a0 a1 (κ : Ko R) => F a0 a1 (fun r => κ (.st 7 r) [])
def r1_Mul_s (F : Y_r1_Mul R) : PSem R := semOf [some (false, 7), some (false, 7)] (rawA r1_Mul_a (r1_Mul_h F))
theorem r1_Mul_e (m : Nat) (c0 : Y_r1_digit R) (c1 : Y_r1_trim R) (l0 : r1_Mul_V0 R) : r1_Mul_a.w _ (fun x κ => pFun tb (r1_Mul_G (R := R) c0 c1) 0 [r1_Mul_X0 l0 m] [some (false, 7)] Tryz.f102 x.1 x.2 κ) = r1_Mul_h (r1_Mul_F m c1 l0) := by kernel_rfl
theorem r1_Mul_k (m : Nat) : SemOK cxP 102 (r1_Mul_s (R := R) (r1_Mul m)) :=
 have HG : ∀ f, SemOK cxP f (r1_Mul_G (R := R) (r1_digit m) (r1_trim m) f) := tabG_ok (.cons (r1_digit_k m) (.cons (r1_trim_k m) .nil))
 semOf_ok (rawA_ok C HG (fn_of Tryz.func102) rfl rfl (by kernel_rfl) (show loopsIn (bodyOf Tryz.f102) = [(lpC (bodyOf Tryz.f102) 0)] from by kernel_rfl) (.cons (r1_Mul_X0_k HG) (.nil _)) (r1_Mul_e m (r1_digit m) (r1_trim m) (r1_Mul_L0 m (r1_digit m))))
def r9p_take_a := aX (aC (aP 0 0) <| aC aS <| aN) (aC o9 <| aN)
def r9p_take_h (F : Y_r9p_take R) := fun a1 o0 (κ : Ko R) => F o0 a1 (fun r w0 => κ (.bool r) [w9 w0])
def r9p_take_s (F : Y_r9p_take R) : PSem R := semOf [none, none] (rawA r9p_take_a (r9p_take_h F))
theorem r9p_take_e (m : Nat) (c0 : Y_r9p_is R) : r9p_take_a.w _ (fun x κ => pFun tb (tabG (R := R) [(159, r9p_is_s c0)]) 1 [] [none] Tryz.f154 x.1 x.2 κ) = r9p_take_h (r9p_take_F m c0) := by kernel_rfl
theorem r9p_take_k (m : Nat) : SemOK cxP 154 (r9p_take_s (R := R) (r9p_take m)) := semOf_ok (raw0 C (tabG_ok (.cons (r9p_is_k m) .nil)) (fn_of Tryz.func154) rfl rfl (by kernel_rfl) (by kernel_rfl) (r9p_take_e m (r9p_is m)))
def r9p_name_a := aX (aC (aP 0 0) <| aN) (aC o9 <| aN)
def r9p_name_h (F : Y_r9p_name R) := fun o0 (κ : Ko R) => F o0 (fun r w0 => κ (.str r) [w9 w0])
def r9p_name_s (F : Y_r9p_name R) : PSem R := semOf [none] (rawA r9p_name_a (r9p_name_h F))
theorem r9p_name_e (m : Nat) (c0 : Y_r9p_fail R) (c1 : Y_r9p_w R) : r9p_name_a.w _ (fun x κ => pFun tb (tabG (R := R) [(162, r9p_fail_s c0), (153, r9p_w_s c1)]) 1 [] [none] Tryz.f155 x.1 x.2 κ) = r9p_name_h (r9p_name_F m c0 c1) := by kernel_rfl
theorem r9p_name_k (m : Nat) : SemOK cxP 155 (r9p_name_s (R := R) (r9p_name m)) := semOf_ok (raw0 C (tabG_ok (.cons (r9p_fail_k m) (.cons (r9p_w_k m) .nil))) (fn_of Tryz.func155) rfl rfl (by kernel_rfl) (by kernel_rfl) (r9p_name_e m (r9p_fail m) (r9p_w m)))
def r9p_in_a := aX (aC (aP 0 0) <| aN) (aC o9 <| aN)
def r9p_in_h (F : Y_r9p_in R) := fun o0 (κ : Ko R) => F o0 (fun r w0 => κ (.bool r) [w9 w0])
def r9p_in_s (F : Y_r9p_in R) : PSem R := semOf [none] (rawA r9p_in_a (r9p_in_h F))
theorem r9p_in_e (m : Nat) (c0 : Y_r9p_limit R) : r9p_in_a.w _ (fun x κ => pFun tb (tabG (R := R) [(160, r9p_limit_s c0)]) 1 [] [none] Tryz.f183 x.1 x.2 κ) = r9p_in_h (r9p_in_F m c0) := by kernel_rfl
theorem r9p_in_k (m : Nat) : SemOK cxP 183 (r9p_in_s (R := R) (r9p_in m)) := semOf_ok (raw0 C (tabG_ok (.cons (r9p_limit_k m) .nil)) (fn_of Tryz.func183) rfl rfl (by kernel_rfl) (by kernel_rfl) (r9p_in_e m (r9p_limit m)))
def r9p_islit_a := aX (aC (aP 0 0) <| aN) (aC o9 <| aN)
def r9p_islit_h (F : Y_r9p_islit R) := fun o0 (κ : Ko R) => F o0 (fun r w0 => κ (.bool r) [w9 w0])
def r9p_islit_s (F : Y_r9p_islit R) : PSem R := semOf [none] (rawA r9p_islit_a (r9p_islit_h F))
theorem r9p_islit_e (m : Nat) (c0 : Y_r9p_w R) (c1 : Y_r9p_is R) : r9p_islit_a.w _ (fun x κ => pFun tb (tabG (R := R) [(153, r9p_w_s c0), (159, r9p_is_s c1)]) 1 [] [none] Tryz.f186 x.1 x.2 κ) = r9p_islit_h (r9p_islit_F m c0 c1) := by kernel_rfl
theorem r9p_islit_k (m : Nat) : SemOK cxP 186 (r9p_islit_s (R := R) (r9p_islit m)) := semOf_ok (raw0 C (tabG_ok (.cons (r9p_w_k m) (.cons (r9p_is_k m) .nil))) (fn_of Tryz.func186) rfl rfl (by kernel_rfl) (by kernel_rfl) (r9p_islit_e m (r9p_w m) (r9p_is m)))
def b_Div64_G (c0 : Y_b_LeadingZeros64 R) : FuncId → PSem R := tabG [(221, b_LeadingZeros64_s c0)]
def b_Div64_l1 : LpS := ⟨[(8, .any), (2, .any), (14, .any), (17, .any), (15, .any), (9, .any), (16, .any), (18, .any), (10, .any)], [(8, .any), (2, .any), (18, .any), (14, .any), (17, .any), (15, .any)], []⟩
def b_Div64_a1 := aX (aC (aI .u64) <| aC (aI .u64) <| aC (aI .u64) <| aC (aI .u64) <| aC (aI .u64) <| aC (aI .u64) <| aC (aI .u64) <| aC (aI .u64) <| aC (aI .u64) <| aN) (aN)
def b_Div64_x1 := aX (aC (aI .u64) <| aC (aI .u64) <| aC (aI .u64) <| aC (aI .u64) <| aC (aI .u64) <| aC (aI .u64) <| aN) (aN)
theorem b_Div64_S1_e (m : Nat) (c0 : Y_b_LeadingZeros64 R) (ρ : Kr R) (kx : Kx R) (kr : Kr R) : roundA tb (b_Div64_G c0) 0 Tryz.f205 (lpC (bodyOf Tryz.f205) 1) [] b_Div64_l1 b_Div64_a1 ρ kx kr = b_Div64_S1 m (b_Div64_a1.w _ (pr ρ)) (b_Div64_x1.w _ (pr (kx 2))) := by kernel_rfl
def b_Div64_X1 (l : b_Div64_V1 R) (m : Nat) : LoopH R := loopA b_Div64_l1 b_Div64_a1 fun kx kr => l (b_Div64_x1.w _ (pr (kx 2))) m
theorem b_Div64_X1_k {m : Nat} {c0 : Y_b_LeadingZeros64 R} (HG : ∀ f, SemOK cxP f (b_Div64_G (R := R) c0 f)) : LoopSem cxP Tryz.f205.ntmps 0 (lpC (bodyOf Tryz.f205) 1) (b_Div64_X1 (R := R) (b_Div64_L1 m) m) := loopA_ok C HG (by kernel_rfl) (show loopsIn (lpC (bodyOf Tryz.f205) 1) = [] from by kernel_rfl) (.nil _) m (fun _ _ => rfl) rfl (b_Div64_S1_e m c0)
def b_Div64_l0 : LpS := ⟨[(8, .any), (2, .any), (14, .any), (9, .any), (10, .any), (13, .any), (11, .any), (16, .any), (15, .any)], [(8, .any), (2, .any), (14, .any), (15, .any), (9, .any), (10, .any), (13, .any), (11, .any)], []⟩
def b_Div64_a0 := aX (aC (aI .u64) <| aC (aI .u64) <| aC (aI .u64) <| aC (aI .u64) <| aC (aI .u64) <| aC (aI .u64) <| aC (aI .u64) <| aC (aI .u64) <| aC (aI .u64) <| aN) (aN)
def b_Div64_x0 := aX (aC (aI .u64) <| aC (aI .u64) <| aC (aI .u64) <| aC (aI .u64) <| aC (aI .u64) <| aC (aI .u64) <| aC (aI .u64) <| aC (aI .u64) <| aN) (aN)
theorem b_Div64_S0_e (m : Nat) (c0 : Y_b_LeadingZeros64 R) (ρ : Kr R) (kx : Kx R) (kr : Kr R) : roundA tb (b_Div64_G c0) 0 Tryz.f205 (lpC (bodyOf Tryz.f205) 0) [] b_Div64_l0 b_Div64_a0 ρ kx kr = b_Div64_S0 m (b_Div64_a0.w _ (pr ρ)) (b_Div64_x0.w _ (pr (kx 0))) := by kernel_rfl
def b_Div64_X0 (l : b_Div64_V0 R) (m : Nat) : LoopH R := loopA b_Div64_l0 b_Div64_a0 fun kx kr => l (b_Div64_x0.w _ (pr (kx 0))) m
theorem b_Div64_X0_k {m : Nat} {c0 : Y_b_LeadingZeros64 R} (HG : ∀ f, SemOK cxP f (b_Div64_G (R := R) c0 f)) : LoopSem cxP Tryz.f205.ntmps 0 (lpC (bodyOf Tryz.f205) 0) (b_Div64_X0 (R := R) (b_Div64_L0 m) m) := loopA_ok C HG (by kernel_rfl) (show loopsIn (lpC (bodyOf Tryz.f205) 0) = [] from by kernel_rfl) (.nil _) m (fun _ _ => rfl) rfl (b_Div64_S0_e m c0)
def b_Div64_a := aX (aC (aI .u64) <| aC (aI .u64) <| aC (aI .u64) <| aN) (aN)
def b_Div64_h (F : Y_b_Div64 R) := fun a0 a1 a2 (κ : Ko R) => F a0 a1 a2 (fun r_0 r_1 => κ (.tup [.int .u64 r_0, .int .u64 r_1]) [])
def b_Div64_s (F : Y_b_Div64 R) : PSem R := semOf [none, none, none] (rawA b_Div64_a (b_Div64_h F))
theorem b_Div64_e (m : Nat) (c0 : Y_b_LeadingZeros64 R) (l0 : b_Div64_V0 R) (l1 : b_Div64_V1 R) : b_Div64_a.w _ (fun x κ => pFun tb (b_Div64_G (R := R) c0) 0 [b_Div64_X0 l0 m, b_Div64_X1 l1 m] [none, none] Tryz.f205 x.1 x.2 κ) = b_Div64_h (b_Div64_F m c0 l0 l1) := by kernel_rfl
theorem b_Div64_k (m : Nat) : SemOK cxP 205 (b_Div64_s (R := R) (b_Div64 m)) :=
 have HG : ∀ f, SemOK cxP f (b_Div64_G (R := R) (b_LeadingZeros64 m) f) := tabG_ok (.cons (b_LeadingZeros64_k m) .nil)
 semOf_ok (rawA_ok C HG (fn_of Tryz.func205) rfl rfl (by kernel_rfl) (show loopsIn (bodyOf Tryz.f205) = [(lpC (bodyOf Tryz.f205) 0), (lpC (bodyOf Tryz.f205) 1)] from by kernel_rfl) (.cons (b_Div64_X0_k HG) (.cons (b_Div64_X1_k HG) (.nil _))) (b_Div64_e m (b_LeadingZeros64 m) (b_Div64_L0 m) (b_Div64_L1 m)))
def r1_Day_G (c0 : Y_r1_Days R) (c1 : Y_r1_Leap R) : FuncId → PSem R := tabG [(169, r1_Days_s c0), (168, r1_Leap_s c1)]
def r1_Day_l1 : LpS := ⟨[(10, .any), (0, .any), (8, .any), (2, .any), (1, .any)], [(2, .any), (8, .any)], []⟩
def r1_Day_a1 := aX (aC (aI .i64) <| aC (aI .i64) <| aC (aI .i64) <| aC (aI .i64) <| aC (aI .i64) <| aN) (aN)
def r1_Day_x1 := aX (aC (aI .i64) <| aC (aI .i64) <| aN) (aN)
theorem r1_Day_S1_e (m : Nat) (c0 : Y_r1_Days R) (c1 : Y_r1_Leap R) (ρ : Kr R) (kx : Kx R) (kr : Kr R) : roundA tb (r1_Day_G c0 c1) 0 Tryz.f208 (lpC (bodyOf Tryz.f208) 1) [] r1_Day_l1 r1_Day_a1 ρ kx kr = r1_Day_S1 m c0 (r1_Day_a1.w _ (pr ρ)) (r1_Day_x1.w _ (pr (kx 2))) := by kernel_rfl
def r1_Day_X1 (l : r1_Day_V1 R) (m : Nat) : LoopH R := loopA r1_Day_l1 r1_Day_a1 fun kx kr => l (r1_Day_x1.w _ (pr (kx 2))) m
theorem r1_Day_X1_k {m : Nat} {c0 : Y_r1_Days R} {c1 : Y_r1_Leap R} (HG : ∀ f, SemOK cxP f (r1_Day_G (R := R) c0 c1 f)) : LoopSem cxP Tryz.f208.ntmps 0 (lpC (bodyOf Tryz.f208) 1) (r1_Day_X1 (R := R) (r1_Day_L1 m c0) m) := loopA_ok C HG (by kernel_rfl) (show loopsIn (lpC (bodyOf Tryz.f208) 1) = [] from by kernel_rfl) (.nil _) m (fun _ _ => rfl) rfl (r1_Day_S1_e m c0 c1)
def r1_Day_l0 : LpS := ⟨[(9, .any), (8, .any), (0, .any), (2, .any), (1, .any)], [(0, .any), (8, .any), (2, .any), (1, .any)], []⟩
def r1_Day_a0 := aX (aC (aI .i64) <| aC (aI .i64) <| aC (aI .i64) <| aC (aI .i64) <| aC (aI .i64) <| aN) (aN)
def r1_Day_x0 := aX (aC (aI .i64) <| aC (aI .i64) <| aC (aI .i64) <| aC (aI .i64) <| aN) (aN)
theorem r1_Day_S0_e (m : Nat) (c0 : Y_r1_Days R) (c1 : Y_r1_Leap R) (ρ : Kr R) (kx : Kx R) (kr : Kr R) : roundA tb (r1_Day_G c0 c1) 0 Tryz.f208 (lpC (bodyOf Tryz.f208) 0) [] r1_Day_l0 r1_Day_a0 ρ kx kr = r1_Day_S0 m c1 (r1_Day_a0.w _ (pr ρ)) (r1_Day_x0.w _ (pr (kx 0))) := by kernel_rfl
def r1_Day_X0 (l : r1_Day_V0 R) (m : Nat) : LoopH R := loopA r1_Day_l0 r1_Day_a0 fun kx kr => l (r1_Day_x0.w _ (pr (kx 0))) m
theorem r1_Day_X0_k {m : Nat} {c0 : Y_r1_Days R} {c1 : Y_r1_Leap R} (HG : ∀ f, SemOK cxP f (r1_Day_G (R := R) c0 c1 f)) : LoopSem cxP Tryz.f208.ntmps 0 (lpC (bodyOf Tryz.f208) 0) (r1_Day_X0 (R := R) (r1_Day_L0 m c1) m) := loopA_ok C HG (by kernel_rfl) (show loopsIn (lpC (bodyOf Tryz.f208) 0) = [] from by kernel_rfl) (.nil _) m (fun _ _ => rfl) rfl (r1_Day_S0_e m c0 c1)
def r1_Day_a := aX (aC (aI .i64) <| aC (aI .i64) <| aC (aI .i64) <| aN) (aN)
def r1_Day_h (F : Y_r1_Day R) := fun a0 a1 a2 (κ : Ko R) => F a0 a1 a2 (fun r_0 r_1 => κ (.tup [.int .i64 r_0, .bool r_1]) [])
def r1_Day_s (F : Y_r1_Day R) : PSem R := semOf [none, none, none] (rawA r1_Day_a (r1_Day_h F))
theorem r1_Day_e (m : Nat) (c0 : Y_r1_Days R) (c1 : Y_r1_Leap R) (l0 : r1_Day_V0 R) (l1 : r1_Day_V1 R) : r1_Day_a.w _ (fun x κ => pFun tb (r1_Day_G (R := R) c0 c1) 0 [r1_Day_X0 l0 m, r1_Day_X1 l1 m] [none, none] Tryz.f208 x.1 x.2 κ) = r1_Day_h (r1_Day_F m c0 l0 l1) := by kernel_rfl
theorem r1_Day_k (m : Nat) : SemOK cxP 208 (r1_Day_s (R := R) (r1_Day m)) :=
 have HG : ∀ f, SemOK cxP f (r1_Day_G (R := R) (r1_Days m) (r1_Leap m) f) := tabG_ok (.cons (r1_Days_k m) (.cons (r1_Leap_k m) .nil))
 semOf_ok (rawA_ok C HG (fn_of Tryz.func208) rfl rfl (by kernel_rfl) (show loopsIn (bodyOf Tryz.f208) = [(lpC (bodyOf Tryz.f208) 0), (lpC (bodyOf Tryz.f208) 1)] from by kernel_rfl) (.cons (r1_Day_X0_k HG) (.cons (r1_Day_X1_k HG) (.nil _))) (r1_Day_e m (r1_Days m) (r1_Leap m) (r1_Day_L0 m (r1_Leap m)) (r1_Day_L1 m (r1_Days m))))
def r1_Add_G (c0 : Y_r1_less R) (c1 : Y_r1_digit R) (c2 : Y_r1_trim R) : FuncId → PSem R := tabG [(144, r1_less_s c0), (145, r1_digit_s c1), (142, r1_trim_s c2)]
def r1_Add_l1 : LpS := ⟨[(11, .any), (9, .arr 8), (10, .any), (3, .fcells [(1, 8)]), (2, .fcells [(1, 8)]), (4, .fcells [(1, 8)])], [(4, .any), (9, .any), (2, .any)], []⟩
def r1_Add_a1 := aX (aC (aI .i64) <| aC (aO 0) <| aC (aI .u64) <| aC (aP 1 0) <| aC (aP 2 0) <| aC (aP 3 0) <| aN) (aC (aA 8) <| aC k7 <| aC k7 <| aC k7 <| aN)
def r1_Add_x1 := aX (aC (aP 0 0) <| aC (aO 1) <| aC (aP 2 0) <| aN) (aC k7 <| aC (aA 8) <| aC k7 <| aN)
theorem r1_Add_S1_e (m : Nat) (c0 : Y_r1_less R) (c1 : Y_r1_digit R) (c2 : Y_r1_trim R) (ρ : Kr R) (kx : Kx R) (kr : Kr R) : roundA tb (r1_Add_G c0 c1 c2) 0 Tryz.f101 (lpC (bodyOf Tryz.f101) 1) [] r1_Add_l1 r1_Add_a1 ρ kx kr = r1_Add_S1 m c1 (r1_Add_a1.w _ (pr ρ)) (r1_Add_x1.w _ (pr (kx 2))) := by kernel_rfl
def r1_Add_X1 (l : r1_Add_V1 R) (m : Nat) : LoopH R := loopA r1_Add_l1 r1_Add_a1 fun kx kr => l (r1_Add_x1.w _ (pr (kx 2))) m
theorem r1_Add_X1_k {m : Nat} {c0 : Y_r1_less R} {c1 : Y_r1_digit R} {c2 : Y_r1_trim R} (HG : ∀ f, SemOK cxP f (r1_Add_G (R := R) c0 c1 c2 f)) : LoopSem cxP Tryz.f101.ntmps 0 (lpC (bodyOf Tryz.f101) 1) (r1_Add_X1 (R := R) (r1_Add_L1 m c1) m) := loopA_ok C HG (by kernel_rfl) (show loopsIn (lpC (bodyOf Tryz.f101) 1) = [] from by kernel_rfl) (.nil _) m (fun _ _ => rfl) rfl (r1_Add_S1_e m c0 c1 c2)
def r1_Add_l0 : LpS := ⟨[(7, .any), (5, .arr 8), (6, .any), (3, .fcells [(1, 8)]), (2, .fcells [(1, 8)]), (4, .fcells [(1, 8)])], [(4, .any), (5, .any), (2, .any)], []⟩
def r1_Add_a0 := aX (aC (aI .i64) <| aC (aO 0) <| aC (aI .u64) <| aC (aP 1 0) <| aC (aP 2 0) <| aC (aP 3 0) <| aN) (aC (aA 8) <| aC k7 <| aC k7 <| aC k7 <| aN)
def r1_Add_x0 := aX (aC (aP 0 0) <| aC (aO 1) <| aC (aP 2 0) <| aN) (aC k7 <| aC (aA 8) <| aC k7 <| aN)
theorem r1_Add_S0_e (m : Nat) (c0 : Y_r1_less R) (c1 : Y_r1_digit R) (c2 : Y_r1_trim R) (ρ : Kr R) (kx : Kx R) (kr : Kr R) : roundA tb (r1_Add_G c0 c1 c2) 0 Tryz.f101 (lpC (bodyOf Tryz.f101) 0) [] r1_Add_l0 r1_Add_a0 ρ kx kr = r1_Add_S0 m c1 (r1_Add_a0.w _ (pr ρ)) (r1_Add_x0.w _ (pr (kx 0))) := by kernel_rfl
def r1_Add_X0 (l : r1_Add_V0 R) (m : Nat) : LoopH R := loopA r1_Add_l0 r1_Add_a0 fun kx kr => l (r1_Add_x0.w _ (pr (kx 0))) m
theorem r1_Add_X0_k {m : Nat} {c0 : Y_r1_less R} {c1 : Y_r1_digit R} {c2 : Y_r1_trim R} (HG : ∀ f, SemOK cxP f (r1_Add_G (R := R) c0 c1 c2 f)) : LoopSem cxP Tryz.f101.ntmps 0 (lpC (bodyOf Tryz.f101) 0) (r1_Add_X0 (R := R) (r1_Add_L0 m c1) m) := loopA_ok C HG (by kernel_rfl) (show loopsIn (lpC (bodyOf Tryz.f101) 0) = [] from by kernel_rfl) (.nil _) m (fun _ _ => rfl) rfl (r1_Add_S0_e m c0 c1 c2)
def r1_Add_a := aX (aC (aT 7) <| aC (aT 7) <| aN) (aN)
def r1_Add_h (F : Y_r1_Add R) := fun a0 a1 (κ : Ko R) => F a0 a1 (fun r => κ (.st 7 r) [])
def r1_Add_s (F : Y_r1_Add R) : PSem R := semOf [some (false, 7), some (false, 7)] (rawA r1_Add_a (r1_Add_h F))
theorem r1_Add_e (m : Nat) (c0 : Y_r1_less R) (c1 : Y_r1_digit R) (c2 : Y_r1_trim R) (l0 : r1_Add_V0 R) (l1 : r1_Add_V1 R) : r1_Add_a.w _ (fun x κ => pFun tb (r1_Add_G (R := R) c0 c1 c2) 0 [r1_Add_X0 l0 m, r1_Add_X1 l1 m] [some (false, 7)] Tryz.f101 x.1 x.2 κ) = r1_Add_h (r1_Add_F m c0 c2 l0 l1) := by kernel_rfl
theorem r1_Add_k (m : Nat) : SemOK cxP 101 (r1_Add_s (R := R) (r1_Add m)) :=
 have HG : ∀ f, SemOK cxP f (r1_Add_G (R := R) (r1_less m) (r1_digit m) (r1_trim m) f) := tabG_ok (.cons (r1_less_k m) (.cons (r1_digit_k m) (.cons (r1_trim_k m) .nil)))
 semOf_ok (rawA_ok C HG (fn_of Tryz.func101) rfl rfl (by kernel_rfl) (show loopsIn (bodyOf Tryz.f101) = [(lpC (bodyOf Tryz.f101) 0), (lpC (bodyOf Tryz.f101) 1)] from by kernel_rfl) (.cons (r1_Add_X0_k HG) (.cons (r1_Add_X1_k HG) (.nil _))) (r1_Add_e m (r1_less m) (r1_digit m) (r1_trim m) (r1_Add_L0 m (r1_digit m)) (r1_Add_L1 m (r1_digit m))))
def num_Mul_a := aX (aC (aI .i64) <| aC (aI .i64) <| aN) (aN)
def num_Mul_h (F : Y_num_Mul R) := fun a0 a1 (κ : Ko R) => F a0 a1 (fun r_0 r_1 => κ (.tup [.int .i64 r_0, .bool r_1]) [])
def num_Mul_s (F : Y_num_Mul R) : PSem R := semOf [none, none] (rawA num_Mul_a (num_Mul_h F))
theorem num_Mul_e (m : Nat) (c0 : Y_num_product R) (c1 : Y_num_narrow R) : num_Mul_a.w _ (fun x κ => pFun tb (tabG (R := R) [(176, num_product_s c0), (175, num_narrow_s c1)]) 0 [] [none, none] Tryz.f138 x.1 x.2 κ) = num_Mul_h (num_Mul_F m c0 c1) := by kernel_rfl
theorem num_Mul_k (m : Nat) : SemOK cxP 138 (num_Mul_s (R := R) (num_Mul m)) := semOf_ok (raw0 C (tabG_ok (.cons (num_product_k m) (.cons (num_narrow_k m) .nil))) (fn_of Tryz.func138) rfl rfl (by kernel_rfl) (by kernel_rfl) (num_Mul_e m (num_product m) (num_narrow m)))
def r9p_kind_a := aX (aC (aP 0 0) <| aN) (aC o9 <| aN)
def r9p_kind_h (F : Y_r9p_kind R) := fun o0 (κ : Ko R) => F o0 (fun r w0 => κ (.int .i64 r) [w9 w0])
def r9p_kind_s (F : Y_r9p_kind R) : PSem R := semOf [none] (rawA r9p_kind_a (r9p_kind_h F))
theorem r9p_kind_e (m : Nat) (c0 : Y_r9p_w R) (c1 : Y_r9_Kind R) (c2 : Y_r9p_fail R) : r9p_kind_a.w _ (fun x κ => pFun tb (tabG (R := R) [(153, r9p_w_s c0), (182, r9_Kind_s c1), (162, r9p_fail_s c2)]) 1 [] [none] Tryz.f156 x.1 x.2 κ) = r9p_kind_h (r9p_kind_F m c0 c1 c2) := by kernel_rfl
theorem r9p_kind_k (m : Nat) : SemOK cxP 156 (r9p_kind_s (R := R) (r9p_kind m)) := semOf_ok (raw0 C (tabG_ok (.cons (r9p_w_k m) (.cons (r9_Kind_k m) (.cons (r9p_fail_k m) .nil)))) (fn_of Tryz.func156) rfl rfl (by kernel_rfl) (by kernel_rfl) (r9p_kind_e m (r9p_w m) (r9_Kind m) (r9p_fail m)))
def r1_ReadDay_G (c0 : Y_r1_Day R) : FuncId → PSem R := tabG [(208, r1_Day_s c0)]
def r1_ReadDay_l0 : LpS := ⟨[(5, .any), (0, .any), (4, .any)], [(4, .any)], [(2, .any), (3, .any)]⟩
def r1_ReadDay_a0 := aX (aC (aI .i64) <| aC aS <| aC (aO 0) <| aN) (aC (aA 0) <| aN)
def r1_ReadDay_x0 := aX (aC (aO 0) <| aN) (aC (aA 0) <| aN)
def r1_ReadDay_z0 := aX (aC (aI .i64) <| aC aB <| aN) (aN)
theorem r1_ReadDay_S0_e (m : Nat) (c0 : Y_r1_Day R) (ρ : Kr R) (kx : Kx R) (kr : Kr R) : roundA tb (r1_ReadDay_G c0) 0 Tryz.f179 (lpC (bodyOf Tryz.f179) 0) [] r1_ReadDay_l0 r1_ReadDay_a0 ρ kx kr = r1_ReadDay_S0 m (r1_ReadDay_a0.w _ (pr ρ)) (r1_ReadDay_x0.w _ (pr (kx 0))) (r1_ReadDay_z0.w _ (pr kr)) := by kernel_rfl
def r1_ReadDay_X0 (l : r1_ReadDay_V0 R) (m : Nat) : LoopH R := loopA r1_ReadDay_l0 r1_ReadDay_a0 fun kx kr => l (r1_ReadDay_x0.w _ (pr (kx 0))) (r1_ReadDay_z0.w _ (pr kr)) m
theorem r1_ReadDay_X0_k {m : Nat} {c0 : Y_r1_Day R} (HG : ∀ f, SemOK cxP f (r1_ReadDay_G (R := R) c0 f)) : LoopSem cxP Tryz.f179.ntmps 0 (lpC (bodyOf Tryz.f179) 0) (r1_ReadDay_X0 (R := R) (r1_ReadDay_L0 m) m) := loopA_ok C HG (by kernel_rfl) (show loopsIn (lpC (bodyOf Tryz.f179) 0) = [] from by kernel_rfl) (.nil _) m (fun _ _ => rfl) rfl (r1_ReadDay_S0_e m c0)
def r1_ReadDay_a := aX (aC aS <| aN) (aN)
def r1_ReadDay_h (F : Y_r1_ReadDay R) := fun a0 (κ : Ko R) => F a0 (fun r_0 r_1 => κ (.tup [.int .i64 r_0, .bool r_1]) [])
def r1_ReadDay_s (F : Y_r1_ReadDay R) : PSem R := semOf [none] (rawA r1_ReadDay_a (r1_ReadDay_h F))
theorem r1_ReadDay_e (m : Nat) (c0 : Y_r1_Day R) (l0 : r1_ReadDay_V0 R) : r1_ReadDay_a.w _ (fun x κ => pFun tb (r1_ReadDay_G (R := R) c0) 0 [r1_ReadDay_X0 l0 m] [none, none] Tryz.f179 x.1 x.2 κ) = r1_ReadDay_h (r1_ReadDay_F m c0 l0) := by kernel_rfl
theorem r1_ReadDay_k (m : Nat) : SemOK cxP 179 (r1_ReadDay_s (R := R) (r1_ReadDay m)) :=
 have HG : ∀ f, SemOK cxP f (r1_ReadDay_G (R := R) (r1_Day m) f) := tabG_ok (.cons (r1_Day_k m) .nil)
 semOf_ok (rawA_ok C HG (fn_of Tryz.func179) rfl rfl (by kernel_rfl) (show loopsIn (bodyOf Tryz.f179) = [(lpC (bodyOf Tryz.f179) 0)] from by kernel_rfl) (.cons (r1_ReadDay_X0_k HG) (.nil _)) (r1_ReadDay_e m (r1_Day m) (r1_ReadDay_L0 m)))
end
end Go.Pm
namespace Go.Pm
open Go Go.EvM Go.Pv Go.Proofs
set_option maxRecDepth 100000
set_option linter.unusedVariables false
set_option linter.unusedSectionVars false
noncomputable section
variable {R : Type}
def r9p_want_a := aX (aC (aP 0 0) <| aC aS <| aN) (aC o9 <| aN)
def r9p_want_h (F : Y_r9p_want R) := fun a1 o0 (κ : Ko R) => F o0 a1 (fun w0 => κ (.tup []) [w9 w0])
def r9p_want_s (F : Y_r9p_want R) : PSem R := semOf [none, none] (rawA r9p_want_a (r9p_want_h F))
theorem r9p_want_e (m : Nat) (c0 : Y_r9p_take R) (c1 : Y_r9p_fail R) : r9p_want_a.w _ (fun x κ => pFun tb (tabG (R := R) [(154, r9p_take_s c0), (162, r9p_fail_s c1)]) 1 [] [] Tryz.f157 x.1 x.2 κ) = r9p_want_h (r9p_want_F m c0 c1) := by kernel_rfl
theorem r9p_want_k (m : Nat) : SemOK cxP 157 (r9p_want_s (R := R) (r9p_want m)) := semOf_ok (raw0 C (tabG_ok (.cons (r9p_take_k m) (.cons (r9p_fail_k m) .nil))) (fn_of Tryz.func157) rfl rfl (by kernel_rfl) (by kernel_rfl) (r9p_want_e m (r9p_take m) (r9p_fail m)))
def r9p_lit_a := aX (aC (aP 0 0) <| aN) (aC o9 <| aN)
def r9p_lit_h (F : Y_r9p_lit R) := fun o0 (κ : Ko R) => F o0 (fun r w0 => κ (.st 4 r) [w9 w0])
def r9p_lit_s (F : Y_r9p_lit R) : PSem R := semOf [none] (rawA r9p_lit_a (r9p_lit_h F))
theorem r9p_lit_e (m : Nat) (c0 : Y_r9p_islit R) (c1 : Y_r9p_fail R) (c2 : Y_r9p_w R) : r9p_lit_a.w _ (fun x κ => pFun tb (tabG (R := R) [(186, r9p_islit_s c0), (162, r9p_fail_s c1), (153, r9p_w_s c2)]) 1 [] [some (false, 4)] Tryz.f161 x.1 x.2 κ) = r9p_lit_h (r9p_lit_F m c0 c1 c2) := by kernel_rfl
theorem r9p_lit_k (m : Nat) : SemOK cxP 161 (r9p_lit_s (R := R) (r9p_lit m)) := semOf_ok (raw0 C (tabG_ok (.cons (r9p_islit_k m) (.cons (r9p_fail_k m) (.cons (r9p_w_k m) .nil)))) (fn_of Tryz.func161) rfl rfl (by kernel_rfl) (by kernel_rfl) (r9p_lit_e m (r9p_islit m) (r9p_fail m) (r9p_w m)))
def typ_Two_a := aX (aC aS <| aC (aI .i64) <| aC (aI .i64) <| aN) (aN)
def typ_Two_h (F : Y_typ_Two R) := fun a0 a1 a2 (κ : Ko R) => F a0 a1 a2 (fun r => κ (.int .i64 r) [])
def typ_Two_s (F : Y_typ_Two R) : PSem R := semOf [none, none, none] (rawA typ_Two_a (typ_Two_h F))
theorem typ_Two_e (m : Nat) (c0 : Y_typ_sum R) (c1 : Y_typ_product R) (c2 : Y_typ_quotient R) (c3 : Y_typ_ordered R) : typ_Two_a.w _ (fun x κ => pFun tb (tabG (R := R) [(134, typ_sum_s c0), (135, typ_product_s c1), (136, typ_quotient_s c2), (137, typ_ordered_s c3)]) 0 [] [none] Tryz.f88 x.1 x.2 κ) = typ_Two_h (typ_Two_F m c0 c1 c2 c3) := by kernel_rfl
theorem typ_Two_k (m : Nat) : SemOK cxP 88 (typ_Two_s (R := R) (typ_Two m)) := semOf_ok (raw0 C (tabG_ok (.cons (typ_sum_k m) (.cons (typ_product_k m) (.cons (typ_quotient_k m) (.cons (typ_ordered_k m) .nil))))) (fn_of Tryz.func88) rfl rfl (by kernel_rfl) (by kernel_rfl) (typ_Two_e m (typ_sum m) (typ_product m) (typ_quotient m) (typ_ordered m)))
def r1_Cmp_a := aX (aC (aT 7) <| aC (aT 7) <| aN) (aN)
def r1_Cmp_h (F : Y_r1_Cmp R) := fun a0 a1 (κ : Ko R) => F a0 a1 (fun r => κ (.int .i64 r) [])
def r1_Cmp_s (F : Y_r1_Cmp R) : PSem R := semOf [some (false, 7), some (false, 7)] (rawA r1_Cmp_a (r1_Cmp_h F))
theorem r1_Cmp_e (m : Nat) (c0 : Y_r1_Minus R) (c1 : Y_r1_Add R) : r1_Cmp_a.w _ (fun x κ => pFun tb (tabG (R := R) [(98, r1_Minus_s c0), (101, r1_Add_s c1)]) 0 [] [none] Tryz.f178 x.1 x.2 κ) = r1_Cmp_h (r1_Cmp_F m c0 c1) := by kernel_rfl
theorem r1_Cmp_k (m : Nat) : SemOK cxP 178 (r1_Cmp_s (R := R) (r1_Cmp m)) := semOf_ok (raw0 C (tabG_ok (.cons (r1_Minus_k m) (.cons (r1_Add_k m) .nil))) (fn_of Tryz.func178) rfl rfl (by kernel_rfl) (by kernel_rfl) (r1_Cmp_e m (r1_Minus m) (r1_Add m)))
def mean_one_a := aX (aC aS <| aC (aT 6) <| aN) (aN)
def mean_one_h (F : Y_mean_one R) := fun a0 a1 (κ : Ko R) => F a0 a1 (fun r_0 r_1 => κ (.tup [.st 6 r_0, .int .i64 r_1]) [])
def mean_one_s (F : Y_mean_one R) : PSem R := semOf [none, some (false, 6)] (rawA mean_one_a (mean_one_h F))
theorem mean_one_e (m : Nat) (c0 : Y_typ_One R) (c1 : Y_mean_truth R) (c2 : Y_num_Sub R) (c3 : Y_mean_made R) : mean_one_a.w _ (fun x κ => pFun tb (tabG (R := R) [(133, typ_One_s c0), (94, mean_truth_s c1), (91, num_Sub_s c2), (90, mean_made_s c3)]) 0 [] [some (false, 6), none] Tryz.f87 x.1 x.2 κ) = mean_one_h (mean_one_F m c0 c1 c2 c3) := by kernel_rfl
theorem mean_one_k (m : Nat) : SemOK cxP 87 (mean_one_s (R := R) (mean_one m)) := semOf_ok (raw0 C (tabG_ok (.cons (typ_One_k m) (.cons (mean_truth_k m) (.cons (num_Sub_k m) (.cons (mean_made_k m) .nil))))) (fn_of Tryz.func87) rfl rfl (by kernel_rfl) (by kernel_rfl) (mean_one_e m (typ_One m) (mean_truth m) (num_Sub m) (mean_made m)))
def r1_Floor_G (c0 : Y_r1_Add R) (c1 : Y_r1_Of R) (c2 : Y_r1_less R) (c3 : Y_r1_trim R) : FuncId → PSem R := tabG [(101, r1_Add_s c0), (99, r1_Of_s c1), (144, r1_less_s c2), (142, r1_trim_s c3)]
def r1_Floor_l0_0 : LpS := ⟨[(5, .any), (6, .fcells [(1, 8)]), (3, .fcells [(1, 8)]), (2, .fcells [(1, 8)]), (4, .fcells [(1, 8)]), (7, .any)], [(5, .any), (6, .any), (3, .any), (2, .any), (4, .any), (7, .any)], []⟩
def r1_Floor_a0_0 := aX (aC (aO 0) <| aC (aP 1 0) <| aC (aP 2 0) <| aC (aP 3 0) <| aC (aP 4 0) <| aC (aI .i64) <| aN) (aC (aA 8) <| aC k7 <| aC k7 <| aC k7 <| aC k7 <| aN)
def r1_Floor_x0_0 := aX (aC (aO 0) <| aC (aP 1 0) <| aC (aP 2 0) <| aC (aP 3 0) <| aC (aP 4 0) <| aC (aI .i64) <| aN) (aC (aA 8) <| aC k7 <| aC k7 <| aC k7 <| aC k7 <| aN)
theorem r1_Floor_S0_0_e (m : Nat) (c0 : Y_r1_Add R) (c1 : Y_r1_Of R) (c2 : Y_r1_less R) (c3 : Y_r1_trim R) (ρ : Kr R) (kx : Kx R) (kr : Kr R) : roundA tb (r1_Floor_G c0 c1 c2 c3) 0 Tryz.f103 (lpC (lpC (bodyOf Tryz.f103) 0) 0) [] r1_Floor_l0_0 r1_Floor_a0_0 ρ kx kr = r1_Floor_S0_0 m (r1_Floor_a0_0.w _ (pr ρ)) (r1_Floor_x0_0.w _ (pr (kx 2))) := by kernel_rfl
def r1_Floor_X0_0 (l : r1_Floor_V0_0 R) (m : Nat) : LoopH R := loopA r1_Floor_l0_0 r1_Floor_a0_0 fun kx kr => l (r1_Floor_x0_0.w _ (pr (kx 2))) m
theorem r1_Floor_X0_0_k {m : Nat} {c0 : Y_r1_Add R} {c1 : Y_r1_Of R} {c2 : Y_r1_less R} {c3 : Y_r1_trim R} (HG : ∀ f, SemOK cxP f (r1_Floor_G (R := R) c0 c1 c2 c3 f)) : LoopSem cxP Tryz.f103.ntmps 0 (lpC (lpC (bodyOf Tryz.f103) 0) 0) (r1_Floor_X0_0 (R := R) (r1_Floor_L0_0 m) m) := loopA_ok C HG (by kernel_rfl) (show loopsIn (lpC (lpC (bodyOf Tryz.f103) 0) 0) = [] from by kernel_rfl) (.nil _) m (fun _ _ => rfl) rfl (r1_Floor_S0_0_e m c0 c1 c2 c3)
def r1_Floor_l0 : LpS := ⟨[(5, .arr 8), (7, .any), (6, .fcells [(1, 8)]), (3, .fcells [(1, 8)]), (2, .fcells [(1, 8)]), (4, .fcells [(1, 8)])], [(4, .any), (6, .any), (3, .any), (2, .any), (5, .any)], []⟩
def r1_Floor_a0 := aX (aC (aO 0) <| aC (aI .i64) <| aC (aP 1 0) <| aC (aP 2 0) <| aC (aP 3 0) <| aC (aP 4 0) <| aN) (aC (aA 8) <| aC k7 <| aC k7 <| aC k7 <| aC k7 <| aN)
def r1_Floor_x0 := aX (aC (aP 0 0) <| aC (aP 1 0) <| aC (aP 2 0) <| aC (aP 3 0) <| aC (aO 4) <| aN) (aC k7 <| aC k7 <| aC k7 <| aC k7 <| aC (aA 8) <| aN)
theorem r1_Floor_S0_e (m : Nat) (c0 : Y_r1_Add R) (c1 : Y_r1_Of R) (c2 : Y_r1_less R) (c3 : Y_r1_trim R) (l0_0 : r1_Floor_V0_0 R) (ρ : Kr R) (kx : Kx R) (kr : Kr R) : roundA tb (r1_Floor_G c0 c1 c2 c3) 0 Tryz.f103 (lpC (bodyOf Tryz.f103) 0) [r1_Floor_X0_0 l0_0 m] r1_Floor_l0 r1_Floor_a0 ρ kx kr = r1_Floor_S0 m c0 c1 c2 l0_0 (r1_Floor_a0.w _ (pr ρ)) (r1_Floor_x0.w _ (pr (kx 0))) := by kernel_rfl
def r1_Floor_X0 (l : r1_Floor_V0 R) (m : Nat) : LoopH R := loopA r1_Floor_l0 r1_Floor_a0 fun kx kr => l (r1_Floor_x0.w _ (pr (kx 0))) m
theorem r1_Floor_X0_k {m : Nat} {c0 : Y_r1_Add R} {c1 : Y_r1_Of R} {c2 : Y_r1_less R} {c3 : Y_r1_trim R} (HG : ∀ f, SemOK cxP f (r1_Floor_G (R := R) c0 c1 c2 c3 f)) : LoopSem cxP Tryz.f103.ntmps 0 (lpC (bodyOf Tryz.f103) 0) (r1_Floor_X0 (R := R) (r1_Floor_L0 m c0 c1 c2) m) := loopA_ok C HG (by kernel_rfl) (show loopsIn (lpC (bodyOf Tryz.f103) 0) = [(lpC (lpC (bodyOf Tryz.f103) 0) 0)] from by kernel_rfl) (.cons (r1_Floor_X0_0_k HG) (.nil _)) m (fun _ _ => rfl) rfl (r1_Floor_S0_e m c0 c1 c2 c3 (r1_Floor_L0_0 m))
def r1_Floor_a := aX (aC (aT 7) <| aC (aT 7) <| aN) (aN)
def r1_Floor_h (F : Y_r1_Floor R) := fun a0 a1 (κ : Ko R) => F a0 a1 (fun r => κ (.st 7 r) [])
def r1_Floor_s (F : Y_r1_Floor R) : PSem R := semOf [some (false, 7), some (false, 7)] (rawA r1_Floor_a (r1_Floor_h F))
theorem r1_Floor_e (m : Nat) (c0 : Y_r1_Add R) (c1 : Y_r1_Of R) (c2 : Y_r1_less R) (c3 : Y_r1_trim R) (l0 : r1_Floor_V0 R) : r1_Floor_a.w _ (fun x κ => pFun tb (r1_Floor_G (R := R) c0 c1 c2 c3) 0 [r1_Floor_X0 l0 m] [some (false, 7)] Tryz.f103 x.1 x.2 κ) = r1_Floor_h (r1_Floor_F m c0 c1 c3 l0) := by kernel_rfl
theorem r1_Floor_k (m : Nat) : SemOK cxP 103 (r1_Floor_s (R := R) (r1_Floor m)) :=
 have HG : ∀ f, SemOK cxP f (r1_Floor_G (R := R) (r1_Add m) (r1_Of m) (r1_less m) (r1_trim m) f) := tabG_ok (.cons (r1_Add_k m) (.cons (r1_Of_k m) (.cons (r1_less_k m) (.cons (r1_trim_k m) .nil))))
 semOf_ok (rawA_ok C HG (fn_of Tryz.func103) rfl rfl (by kernel_rfl) (show loopsIn (bodyOf Tryz.f103) = [(lpC (bodyOf Tryz.f103) 0)] from by kernel_rfl) (.cons (r1_Floor_X0_k HG) (.nil _)) (r1_Floor_e m (r1_Add m) (r1_Of m) (r1_less m) (r1_trim m) (r1_Floor_L0 m (r1_Add m) (r1_Of m) (r1_less m))))
def r1_Int_G (c0 : Y_r1_Of R) (c1 : Y_r1_Cmp R) : FuncId → PSem R := tabG [(99, r1_Of_s c0), (178, r1_Cmp_s c1)]
def r1_Int_l0 : LpS := ⟨[(5, .any), (1, .fcells [(1, 8)]), (4, .any)], [(4, .any), (1, .any)], []⟩
def r1_Int_a0 := aX (aC (aI .i64) <| aC (aP 0 0) <| aC (aI .u64) <| aN) (aC k7 <| aN)
def r1_Int_x0 := aX (aC (aI .u64) <| aC (aP 0 0) <| aN) (aC k7 <| aN)
theorem r1_Int_S0_e (m : Nat) (c0 : Y_r1_Of R) (c1 : Y_r1_Cmp R) (ρ : Kr R) (kx : Kx R) (kr : Kr R) : roundA tb (r1_Int_G c0 c1) 0 Tryz.f141 (lpC (bodyOf Tryz.f141) 0) [] r1_Int_l0 r1_Int_a0 ρ kx kr = r1_Int_S0 m (r1_Int_a0.w _ (pr ρ)) (r1_Int_x0.w _ (pr (kx 0))) := by kernel_rfl
def r1_Int_X0 (l : r1_Int_V0 R) (m : Nat) : LoopH R := loopA r1_Int_l0 r1_Int_a0 fun kx kr => l (r1_Int_x0.w _ (pr (kx 0))) m
theorem r1_Int_X0_k {m : Nat} {c0 : Y_r1_Of R} {c1 : Y_r1_Cmp R} (HG : ∀ f, SemOK cxP f (r1_Int_G (R := R) c0 c1 f)) : LoopSem cxP Tryz.f141.ntmps 0 (lpC (bodyOf Tryz.f141) 0) (r1_Int_X0 (R := R) (r1_Int_L0 m) m) := loopA_ok C HG (by kernel_rfl) (show loopsIn (lpC (bodyOf Tryz.f141) 0) = [] from by kernel_rfl) (.nil _) m (fun _ _ => rfl) rfl (r1_Int_S0_e m c0 c1)
def r1_Int_a := aX (aC (aT 7) <| aN) (aN)
def r1_Int_h (F : Y_r1_Int R) := fun a0 (κ : Ko R) => F a0 (fun r_0 r_1 => κ (.tup [.int .i64 r_0, .bool r_1]) [])
def r1_Int_s (F : Y_r1_Int R) : PSem R := semOf [some (false, 7)] (rawA r1_Int_a (r1_Int_h F))
theorem r1_Int_e (m : Nat) (c0 : Y_r1_Of R) (c1 : Y_r1_Cmp R) (l0 : r1_Int_V0 R) : r1_Int_a.w _ (fun x κ => pFun tb (r1_Int_G (R := R) c0 c1) 0 [r1_Int_X0 l0 m] [none, none] Tryz.f141 x.1 x.2 κ) = r1_Int_h (r1_Int_F m c0 c1 l0) := by kernel_rfl
theorem r1_Int_k (m : Nat) : SemOK cxP 141 (r1_Int_s (R := R) (r1_Int m)) :=
 have HG : ∀ f, SemOK cxP f (r1_Int_G (R := R) (r1_Of m) (r1_Cmp m) f) := tabG_ok (.cons (r1_Of_k m) (.cons (r1_Cmp_k m) .nil))
 semOf_ok (rawA_ok C HG (fn_of Tryz.func141) rfl rfl (by kernel_rfl) (show loopsIn (bodyOf Tryz.f141) = [(lpC (bodyOf Tryz.f141) 0)] from by kernel_rfl) (.cons (r1_Int_X0_k HG) (.nil _)) (r1_Int_e m (r1_Of m) (r1_Cmp m) (r1_Int_L0 m)))
def r9_digits_a := aX (aC aS <| aC (aI .i64) <| aN) (aN)
def r9_digits_h (F : Y_r9_digits R) := fun a0 a1 (κ : Ko R) => F a0 a1 (fun r_0 r_1 => κ (.tup [.st 10 r_0, .int .i64 r_1]) [])
def r9_digits_s (F : Y_r9_digits R) : PSem R := semOf [none, none] (rawA r9_digits_a (r9_digits_h F))
theorem r9_digits_e (m : Nat) (c0 : Y_r1_ReadDay R) (c1 : Y_r9_run R) (c2 : Y_r9_percent R) (c3 : Y_r9_number R) (c4 : Y_r9_digit R) : r9_digits_a.w _ (fun x κ => pFun tb (tabG (R := R) [(179, r1_ReadDay_s c0), (150, r9_run_s c1), (180, r9_percent_s c2), (181, r9_number_s c3), (147, r9_digit_s c4)]) 0 [] [some (false, 10), none] Tryz.f149 x.1 x.2 κ) = r9_digits_h (r9_digits_F m c0 c1 c2 c3 c4) := by kernel_rfl
theorem r9_digits_k (m : Nat) : SemOK cxP 149 (r9_digits_s (R := R) (r9_digits m)) := semOf_ok (raw0 C (tabG_ok (.cons (r1_ReadDay_k m) (.cons (r9_run_k m) (.cons (r9_percent_k m) (.cons (r9_number_k m) (.cons (r9_digit_k m) .nil)))))) (fn_of Tryz.func149) rfl rfl (by kernel_rfl) (by kernel_rfl) (r9_digits_e m (r1_ReadDay m) (r9_run m) (r9_percent m) (r9_number m) (r9_digit m)))
def num_Wide_Floor_a := aX (aC (aT 11) <| aC (aI .i64) <| aN) (aN)
def num_Wide_Floor_h (F : Y_num_Wide_Floor R) := fun a0 a1 (κ : Ko R) => F a0 a1 (fun r_0 r_1 => κ (.tup [.int .i64 r_0, .bool r_1]) [])
def num_Wide_Floor_s (F : Y_num_Wide_Floor R) : PSem R := semOf [some (false, 11), none] (rawA num_Wide_Floor_a (num_Wide_Floor_h F))
theorem num_Wide_Floor_e (m : Nat) (c0 : Y_num_Wide_turned R) (c1 : Y_b_Div64 R) (c2 : Y_num_narrow R) (c3 : Y_num_Of R) (c4 : Y_num_Wide_Plus R) : num_Wide_Floor_a.w _ (fun x κ => pFun tb (tabG (R := R) [(204, num_Wide_turned_s c0), (205, b_Div64_s c1), (175, num_narrow_s c2), (207, num_Of_s c3), (206, num_Wide_Plus_s c4)]) 0 [] [none, none] Tryz.f177 x.1 x.2 κ) = num_Wide_Floor_h (num_Wide_Floor_F m c0 c1 c2 c3 c4) := by kernel_rfl
theorem num_Wide_Floor_k (m : Nat) : SemOK cxP 177 (num_Wide_Floor_s (R := R) (num_Wide_Floor m)) := semOf_ok (raw0 C (tabG_ok (.cons (num_Wide_turned_k m) (.cons (b_Div64_k m) (.cons (num_narrow_k m) (.cons (num_Of_k m) (.cons (num_Wide_Plus_k m) .nil)))))) (fn_of Tryz.func177) rfl rfl (by kernel_rfl) (by kernel_rfl) (num_Wide_Floor_e m (num_Wide_turned m) (b_Div64 m) (num_narrow m) (num_Of m) (num_Wide_Plus m)))
def r11_fitted_a := aX (aC (aI .i64) <| aC (aT 7) <| aN) (aN)
def r11_fitted_h (F : Y_r11_fitted R) := fun a0 a1 (κ : Ko R) => F a0 a1 (fun r_0 r_1 => κ (.tup [.st 6 r_0, .int .i64 r_1]) [])
def r11_fitted_s (F : Y_r11_fitted R) : PSem R := semOf [none, some (false, 7)] (rawA r11_fitted_a (r11_fitted_h F))
theorem r11_fitted_e (m : Nat) (c0 : Y_r1_Int R) (c1 : Y_r11_Fit R) : r11_fitted_a.w _ (fun x κ => pFun tb (tabG (R := R) [(141, r1_Int_s c0), (86, r11_Fit_s c1)]) 0 [] [some (false, 6), none] Tryz.f97 x.1 x.2 κ) = r11_fitted_h (r11_fitted_F m c0 c1) := by kernel_rfl
theorem r11_fitted_k (m : Nat) : SemOK cxP 97 (r11_fitted_s (R := R) (r11_fitted m)) := semOf_ok (raw0 C (tabG_ok (.cons (r1_Int_k m) (.cons (r11_Fit_k m) .nil))) (fn_of Tryz.func97) rfl rfl (by kernel_rfl) (by kernel_rfl) (r11_fitted_e m (r1_Int m) (r11_Fit m)))
def num_MulFloor_a := aX (aC (aI .i64) <| aC (aI .i64) <| aC (aI .i64) <| aN) (aN)
def num_MulFloor_h (F : Y_num_MulFloor R) := fun a0 a1 a2 (κ : Ko R) => F a0 a1 a2 (fun r_0 r_1 => κ (.tup [.int .i64 r_0, .bool r_1]) [])
def num_MulFloor_s (F : Y_num_MulFloor R) : PSem R := semOf [none, none, none] (rawA num_MulFloor_a (num_MulFloor_h F))
theorem num_MulFloor_e (m : Nat) (c0 : Y_num_product R) (c1 : Y_num_Wide_Floor R) : num_MulFloor_a.w _ (fun x κ => pFun tb (tabG (R := R) [(176, num_product_s c0), (177, num_Wide_Floor_s c1)]) 0 [] [none, none] Tryz.f139 x.1 x.2 κ) = num_MulFloor_h (num_MulFloor_F m c0 c1) := by kernel_rfl
theorem num_MulFloor_k (m : Nat) : SemOK cxP 139 (num_MulFloor_s (R := R) (num_MulFloor m)) := semOf_ok (raw0 C (tabG_ok (.cons (num_product_k m) (.cons (num_Wide_Floor_k m) .nil))) (fn_of Tryz.func139) rfl rfl (by kernel_rfl) (by kernel_rfl) (num_MulFloor_e m (num_product m) (num_Wide_Floor m)))
def r9_Cut_G (c0 : Y_r9_letter R) (c1 : Y_r9_digit R) (c2 : Y_r9_Kept R) (c3 : Y_r9_digits R) (c4 : Y_r9_run R) (c5 : Y_r9_money R) (c6 : Y_r9_sign R) : FuncId → PSem R := tabG [(146, r9_letter_s c0), (147, r9_digit_s c1), (148, r9_Kept_s c2), (149, r9_digits_s c3), (150, r9_run_s c4), (151, r9_money_s c5), (152, r9_sign_s c6)]
def r9_Cut_l0_1 : LpS := ⟨[(8, .any), (5, .any), (0, .any), (7, .any), (4, .any)], [(5, .any), (0, .any), (7, .any), (4, .any), (8, .any)], []⟩
def r9_Cut_a0_1 := aX (aC (aI .i64) <| aC (aI .i64) <| aC aS <| aC (aP 0 0) <| aC (aO 1) <| aN) (aC k10 <| aC (aA 10) <| aN)
def r9_Cut_x0_1 := aX (aC (aI .i64) <| aC aS <| aC (aP 0 0) <| aC (aO 1) <| aC (aI .i64) <| aN) (aC k10 <| aC (aA 10) <| aN)
theorem r9_Cut_S0_1_e (m : Nat) (c0 : Y_r9_letter R) (c1 : Y_r9_digit R) (c2 : Y_r9_Kept R) (c3 : Y_r9_digits R) (c4 : Y_r9_run R) (c5 : Y_r9_money R) (c6 : Y_r9_sign R) (ρ : Kr R) (kx : Kx R) (kr : Kr R) : roundA tb (r9_Cut_G c0 c1 c2 c3 c4 c5 c6) 0 Tryz.f109 (lpC (lpC (bodyOf Tryz.f109) 0) 1) [] r9_Cut_l0_1 r9_Cut_a0_1 ρ kx kr = r9_Cut_S0_1 m c0 c1 (r9_Cut_a0_1.w _ (pr ρ)) (r9_Cut_x0_1.w _ (pr (kx 5))) := by kernel_rfl
def r9_Cut_X0_1 (l : r9_Cut_V0_1 R) (m : Nat) : LoopH R := loopA r9_Cut_l0_1 r9_Cut_a0_1 fun kx kr => l (r9_Cut_x0_1.w _ (pr (kx 5))) m
theorem r9_Cut_X0_1_k {m : Nat} {c0 : Y_r9_letter R} {c1 : Y_r9_digit R} {c2 : Y_r9_Kept R} {c3 : Y_r9_digits R} {c4 : Y_r9_run R} {c5 : Y_r9_money R} {c6 : Y_r9_sign R} (HG : ∀ f, SemOK cxP f (r9_Cut_G (R := R) c0 c1 c2 c3 c4 c5 c6 f)) : LoopSem cxP Tryz.f109.ntmps 0 (lpC (lpC (bodyOf Tryz.f109) 0) 1) (r9_Cut_X0_1 (R := R) (r9_Cut_L0_1 m c0 c1) m) := loopA_ok C HG (by kernel_rfl) (show loopsIn (lpC (lpC (bodyOf Tryz.f109) 0) 1) = [] from by kernel_rfl) (.nil _) m (fun _ _ => rfl) rfl (r9_Cut_S0_1_e m c0 c1 c2 c3 c4 c5 c6)
def r9_Cut_l0_0 : LpS := ⟨[(5, .any), (0, .any), (4, .any)], [(5, .any), (0, .any), (4, .any)], []⟩
def r9_Cut_a0_0 := aX (aC (aI .i64) <| aC aS <| aC (aO 0) <| aN) (aC (aA 10) <| aN)
def r9_Cut_x0_0 := aX (aC (aI .i64) <| aC aS <| aC (aO 0) <| aN) (aC (aA 10) <| aN)
theorem r9_Cut_S0_0_e (m : Nat) (c0 : Y_r9_letter R) (c1 : Y_r9_digit R) (c2 : Y_r9_Kept R) (c3 : Y_r9_digits R) (c4 : Y_r9_run R) (c5 : Y_r9_money R) (c6 : Y_r9_sign R) (ρ : Kr R) (kx : Kx R) (kr : Kr R) : roundA tb (r9_Cut_G c0 c1 c2 c3 c4 c5 c6) 0 Tryz.f109 (lpC (lpC (bodyOf Tryz.f109) 0) 0) [] r9_Cut_l0_0 r9_Cut_a0_0 ρ kx kr = r9_Cut_S0_0 m (r9_Cut_a0_0.w _ (pr ρ)) (r9_Cut_x0_0.w _ (pr (kx 2))) := by kernel_rfl
def r9_Cut_X0_0 (l : r9_Cut_V0_0 R) (m : Nat) : LoopH R := loopA r9_Cut_l0_0 r9_Cut_a0_0 fun kx kr => l (r9_Cut_x0_0.w _ (pr (kx 2))) m
theorem r9_Cut_X0_0_k {m : Nat} {c0 : Y_r9_letter R} {c1 : Y_r9_digit R} {c2 : Y_r9_Kept R} {c3 : Y_r9_digits R} {c4 : Y_r9_run R} {c5 : Y_r9_money R} {c6 : Y_r9_sign R} (HG : ∀ f, SemOK cxP f (r9_Cut_G (R := R) c0 c1 c2 c3 c4 c5 c6 f)) : LoopSem cxP Tryz.f109.ntmps 0 (lpC (lpC (bodyOf Tryz.f109) 0) 0) (r9_Cut_X0_0 (R := R) (r9_Cut_L0_0 m) m) := loopA_ok C HG (by kernel_rfl) (show loopsIn (lpC (lpC (bodyOf Tryz.f109) 0) 0) = [] from by kernel_rfl) (.nil _) m (fun _ _ => rfl) rfl (r9_Cut_S0_0_e m c0 c1 c2 c3 c4 c5 c6)
def r9_Cut_l0 : LpS := ⟨[(5, .any), (0, .any), (4, .any)], [(0, .any), (4, .any)], [(2, .sl 10), (3, .any)]⟩
def r9_Cut_a0 := aX (aC (aI .i64) <| aC aS <| aC (aO 0) <| aN) (aC (aA 10) <| aN)
def r9_Cut_x0 := aX (aC aS <| aC (aO 0) <| aN) (aC (aA 10) <| aN)
def r9_Cut_z0 := aX (aC (aL 10) <| aC (aI .i64) <| aN) (aN)
theorem r9_Cut_S0_e (m : Nat) (c0 : Y_r9_letter R) (c1 : Y_r9_digit R) (c2 : Y_r9_Kept R) (c3 : Y_r9_digits R) (c4 : Y_r9_run R) (c5 : Y_r9_money R) (c6 : Y_r9_sign R) (l0_0 : r9_Cut_V0_0 R) (l0_1 : r9_Cut_V0_1 R) (ρ : Kr R) (kx : Kx R) (kr : Kr R) : roundA tb (r9_Cut_G c0 c1 c2 c3 c4 c5 c6) 0 Tryz.f109 (lpC (bodyOf Tryz.f109) 0) [r9_Cut_X0_0 l0_0 m, r9_Cut_X0_1 l0_1 m] r9_Cut_l0 r9_Cut_a0 ρ kx kr = r9_Cut_S0 m c0 c1 c2 c3 c4 c5 c6 l0_0 l0_1 (r9_Cut_a0.w _ (pr ρ)) (r9_Cut_x0.w _ (pr (kx 0))) (r9_Cut_z0.w _ (pr kr)) := by kernel_rfl
def r9_Cut_X0 (l : r9_Cut_V0 R) (m : Nat) : LoopH R := loopA r9_Cut_l0 r9_Cut_a0 fun kx kr => l (r9_Cut_x0.w _ (pr (kx 0))) (r9_Cut_z0.w _ (pr kr)) m
theorem r9_Cut_X0_k {m : Nat} {c0 : Y_r9_letter R} {c1 : Y_r9_digit R} {c2 : Y_r9_Kept R} {c3 : Y_r9_digits R} {c4 : Y_r9_run R} {c5 : Y_r9_money R} {c6 : Y_r9_sign R} (HG : ∀ f, SemOK cxP f (r9_Cut_G (R := R) c0 c1 c2 c3 c4 c5 c6 f)) : LoopSem cxP Tryz.f109.ntmps 0 (lpC (bodyOf Tryz.f109) 0) (r9_Cut_X0 (R := R) (r9_Cut_L0 m c0 c1 c2 c3 c4 c5 c6) m) := loopA_ok C HG (by kernel_rfl) (show loopsIn (lpC (bodyOf Tryz.f109) 0) = [(lpC (lpC (bodyOf Tryz.f109) 0) 0), (lpC (lpC (bodyOf Tryz.f109) 0) 1)] from by kernel_rfl) (.cons (r9_Cut_X0_0_k HG) (.cons (r9_Cut_X0_1_k HG) (.nil _))) m (fun _ _ => rfl) rfl (r9_Cut_S0_e m c0 c1 c2 c3 c4 c5 c6 (r9_Cut_L0_0 m) (r9_Cut_L0_1 m c0 c1))
def r9_Cut_a := aX (aC aS <| aN) (aN)
def r9_Cut_h (F : Y_r9_Cut R) := fun a0 (κ : Ko R) => F a0 (fun r_0 r_1 => κ (.tup [.sl 10 r_0, .int .i64 r_1]) [])
def r9_Cut_s (F : Y_r9_Cut R) : PSem R := semOf [none] (rawA r9_Cut_a (r9_Cut_h F))
theorem r9_Cut_e (m : Nat) (c0 : Y_r9_letter R) (c1 : Y_r9_digit R) (c2 : Y_r9_Kept R) (c3 : Y_r9_digits R) (c4 : Y_r9_run R) (c5 : Y_r9_money R) (c6 : Y_r9_sign R) (l0 : r9_Cut_V0 R) : r9_Cut_a.w _ (fun x κ => pFun tb (r9_Cut_G (R := R) c0 c1 c2 c3 c4 c5 c6) 0 [r9_Cut_X0 l0 m] [some (true, 10), none] Tryz.f109 x.1 x.2 κ) = r9_Cut_h (r9_Cut_F m l0) := by kernel_rfl
theorem r9_Cut_k (m : Nat) : SemOK cxP 109 (r9_Cut_s (R := R) (r9_Cut m)) :=
 have HG : ∀ f, SemOK cxP f (r9_Cut_G (R := R) (r9_letter m) (r9_digit m) (r9_Kept m) (r9_digits m) (r9_run m) (r9_money m) (r9_sign m) f) := tabG_ok (.cons (r9_letter_k m) (.cons (r9_digit_k m) (.cons (r9_Kept_k m) (.cons (r9_digits_k m) (.cons (r9_run_k m) (.cons (r9_money_k m) (.cons (r9_sign_k m) .nil)))))))
 semOf_ok (rawA_ok C HG (fn_of Tryz.func109) rfl rfl (by kernel_rfl) (show loopsIn (bodyOf Tryz.f109) = [(lpC (bodyOf Tryz.f109) 0)] from by kernel_rfl) (.cons (r9_Cut_X0_k HG) (.nil _)) (r9_Cut_e m (r9_letter m) (r9_digit m) (r9_Kept m) (r9_digits m) (r9_run m) (r9_money m) (r9_sign m) (r9_Cut_L0 m (r9_letter m) (r9_digit m) (r9_Kept m) (r9_digits m) (r9_run m) (r9_money m) (r9_sign m))))
def r9p_expr_a := aX (aC (aP 0 0) <| aN) (aC o9 <| aN)
def r9p_expr_h (F : Y_r9p_expr R) := fun o0 (κ : Ko R) => F o0 (fun r w0 => κ (.st 4 r) [w9 w0])
def r9p_expr_w (F : Y_r9p_expr R) : PSem R := rawA r9p_expr_a (r9p_expr_h F)
def r9p_expr_s (F : Y_r9p_expr R) : PSem R := semOf [none] (r9p_expr_w F)
def r9p_inside_a := aX (aC (aP 0 0) <| aN) (aC o9 <| aN)
def r9p_inside_h (F : Y_r9p_inside R) := fun o0 (κ : Ko R) => F o0 (fun r w0 => κ (.st 4 r) [w9 w0])
def r9p_inside_w (F : Y_r9p_inside R) : PSem R := rawA r9p_inside_a (r9p_inside_h F)
def r9p_inside_s (F : Y_r9p_inside R) : PSem R := semOf [none] (r9p_inside_w F)
def r9p_row_a := aX (aC (aP 0 0) <| aC (aI .i64) <| aN) (aC o9 <| aN)
def r9p_row_h (F : Y_r9p_row R) := fun a1 o0 (κ : Ko R) => F o0 a1 (fun r w0 => κ (.st 4 r) [w9 w0])
def r9p_row_w (F : Y_r9p_row R) : PSem R := rawA r9p_row_a (r9p_row_h F)
def r9p_row_s (F : Y_r9p_row R) : PSem R := semOf [none, none] (r9p_row_w F)
def r9p_un_a := aX (aC (aP 0 0) <| aN) (aC o9 <| aN)
def r9p_un_h (F : Y_r9p_un R) := fun o0 (κ : Ko R) => F o0 (fun r w0 => κ (.st 4 r) [w9 w0])
def r9p_un_w (F : Y_r9p_un R) : PSem R := rawA r9p_un_a (r9p_un_h F)
def r9p_un_s (F : Y_r9p_un R) : PSem R := semOf [none] (r9p_un_w F)
def r9p_prim_a := aX (aC (aP 0 0) <| aN) (aC o9 <| aN)
def r9p_prim_h (F : Y_r9p_prim R) := fun o0 (κ : Ko R) => F o0 (fun r w0 => κ (.st 4 r) [w9 w0])
def r9p_prim_w (F : Y_r9p_prim R) : PSem R := rawA r9p_prim_a (r9p_prim_h F)
def r9p_prim_s (F : Y_r9p_prim R) : PSem R := semOf [none] (r9p_prim_w F)
structure G_publicanref9_parser_exprOK (g : G_r9p_expr R) : Prop where
  r9p_expr : SemOK cxP 158 (r9p_expr_s g.r9p_expr)
  r9p_inside : SemOK cxP 184 (r9p_inside_s g.r9p_inside)
  r9p_row : SemOK cxP 209 (r9p_row_s g.r9p_row)
  r9p_un : SemOK cxP 223 (r9p_un_s g.r9p_un)
  r9p_prim : SemOK cxP 227 (r9p_prim_s g.r9p_prim)
def r9p_expr_G (c0 : Y_r9p_in R) (c1 : Y_r9p_inside R) (c2 : Y_r9p_out R) : FuncId → PSem R := tabG [(183, r9p_in_s c0), (184, r9p_inside_s c1), (185, r9p_out_s c2)]
theorem r9p_expr_e (m : Nat) (c0 : Y_r9p_in R) (c1 : Y_r9p_inside R) (c2 : Y_r9p_out R) : r9p_expr_a.w _ (fun x κ => pFun tb (r9p_expr_G (R := R) c0 c1 c2) 1 [] [some (false, 4)] Tryz.f158 x.1 x.2 κ) = r9p_expr_h (r9p_expr_F m c0 c1 c2) := by kernel_rfl
theorem r9p_expr_st (m : Nat) (g : G_r9p_expr R) (hg : G_publicanref9_parser_exprOK g) : SemC cxP 158 (r9p_expr_w (r9p_expr_B m g)) :=
 have HG : ∀ f, SemOK cxP f (r9p_expr_G (R := R) (r9p_in m) g.r9p_inside (r9p_out m) f) := tabG_ok (.cons (r9p_in_k m) (.cons hg.r9p_inside (.cons (r9p_out_k m) .nil)))
 rawA_ok C HG (fn_of Tryz.func158) rfl rfl (by kernel_rfl) (show loopsIn (bodyOf Tryz.f158) = [] from by kernel_rfl) (.nil _) (r9p_expr_e m (r9p_in m) g.r9p_inside (r9p_out m))
theorem r9p_expr_zz : SemC cxP 158 (r9p_expr_w (R := R) fun _ _ => none) := rawA_z rfl
def r9p_inside_G (c0 : Y_r9p_w R) (c1 : Y_r9p_take R) (c2 : Y_r9p_expr R) (c3 : Y_r9p_want R) (c4 : Y_r9p_row R) : FuncId → PSem R := tabG [(153, r9p_w_s c0), (154, r9p_take_s c1), (158, r9p_expr_s c2), (157, r9p_want_s c3), (209, r9p_row_s c4)]
theorem r9p_inside_e (m : Nat) (c0 : Y_r9p_w R) (c1 : Y_r9p_take R) (c2 : Y_r9p_expr R) (c3 : Y_r9p_want R) (c4 : Y_r9p_row R) : r9p_inside_a.w _ (fun x κ => pFun tb (r9p_inside_G (R := R) c0 c1 c2 c3 c4) 1 [] [some (false, 4)] Tryz.f184 x.1 x.2 κ) = r9p_inside_h (r9p_inside_F m c0 c1 c2 c3 c4) := by kernel_rfl
theorem r9p_inside_st (m : Nat) (g : G_r9p_expr R) (hg : G_publicanref9_parser_exprOK g) : SemC cxP 184 (r9p_inside_w (r9p_inside_B m g)) :=
 have HG : ∀ f, SemOK cxP f (r9p_inside_G (R := R) (r9p_w m) (r9p_take m) g.r9p_expr (r9p_want m) g.r9p_row f) := tabG_ok (.cons (r9p_w_k m) (.cons (r9p_take_k m) (.cons hg.r9p_expr (.cons (r9p_want_k m) (.cons hg.r9p_row .nil)))))
 rawA_ok C HG (fn_of Tryz.func184) rfl rfl (by kernel_rfl) (show loopsIn (bodyOf Tryz.f184) = [] from by kernel_rfl) (.nil _) (r9p_inside_e m (r9p_w m) (r9p_take m) g.r9p_expr (r9p_want m) g.r9p_row)
theorem r9p_inside_zz : SemC cxP 184 (r9p_inside_w (R := R) fun _ _ => none) := rawA_z rfl
def r9p_row_G (c0 : Y_r9p_un R) (c1 : Y_r9p_row R) (c2 : Y_r9p_w R) (c3 : Y_r9p_take R) : FuncId → PSem R := tabG [(223, r9p_un_s c0), (209, r9p_row_s c1), (153, r9p_w_s c2), (154, r9p_take_s c3)]
def r9p_row_l0_0 : LpS := ⟨[(9, .any), (5, .any), (0, .any), (4, .fcells [(5, 4)]), (6, .fcells [(5, 4)]), (1, .any), (7, .any), (8, .any)], [(4, .any), (6, .any), (5, .any), (0, .any), (1, .any), (7, .any), (8, .any)], []⟩
def r9p_row_a0_0 := aX (aC (aI .i64) <| aC (aL 2) <| aC (aP 0 0) <| aC (aP 1 0) <| aC (aP 2 0) <| aC (aI .i64) <| aC (aI .i64) <| aC aS <| aN) (aC k9 <| aC k4 <| aC k4 <| aN)
def r9p_row_x0_0 := aX (aC (aP 1 0) <| aC (aP 2 0) <| aC (aL 2) <| aC (aP 0 0) <| aC (aI .i64) <| aC (aI .i64) <| aC aS <| aN) (aC k9 <| aC k4 <| aC k4 <| aN)
theorem r9p_row_S0_0_e (m : Nat) (c0 : Y_r9p_un R) (c1 : Y_r9p_row R) (c2 : Y_r9p_w R) (c3 : Y_r9p_take R) (ρ : Kr R) (kx : Kx R) (kr : Kr R) : roundA tb (r9p_row_G c0 c1 c2 c3) 1 Tryz.f209 (lpC (lpC (bodyOf Tryz.f209) 0) 0) [] r9p_row_l0_0 r9p_row_a0_0 ρ kx kr = r9p_row_S0_0 m c3 (r9p_row_a0_0.w _ (pr ρ)) (r9p_row_x0_0.w _ (pr (kx 2))) := by kernel_rfl
def r9p_row_X0_0 (l : r9p_row_V0_0 R) (m : Nat) : LoopH R := loopA r9p_row_l0_0 r9p_row_a0_0 fun kx kr => l (r9p_row_x0_0.w _ (pr (kx 2))) m
theorem r9p_row_X0_0_k {m : Nat} {c0 : Y_r9p_un R} {c1 : Y_r9p_row R} {c2 : Y_r9p_w R} {c3 : Y_r9p_take R} (HG : ∀ f, SemOK cxP f (r9p_row_G (R := R) c0 c1 c2 c3 f)) : LoopSem cxP Tryz.f209.ntmps 1 (lpC (lpC (bodyOf Tryz.f209) 0) 0) (r9p_row_X0_0 (R := R) (r9p_row_L0_0 m c3) m) := loopA_ok C HG (by kernel_rfl) (show loopsIn (lpC (lpC (bodyOf Tryz.f209) 0) 0) = [] from by kernel_rfl) (.nil _) m (fun _ _ => rfl) rfl (r9p_row_S0_0_e m c0 c1 c2 c3)
def r9p_row_l0 : LpS := ⟨[(5, .any), (0, .any), (4, .fcells [(5, 4)]), (6, .fcells [(5, 4)]), (1, .any)], [], [(4, .fcells [(5, 4)])]⟩
def r9p_row_a0 := aX (aC (aL 2) <| aC (aP 0 0) <| aC (aP 1 0) <| aC (aP 2 0) <| aC (aI .i64) <| aN) (aC k9 <| aC k4 <| aC k4 <| aN)
def r9p_row_z0 := aX (aC (aP 1 0) <| aN) (aC k9 <| aC k4 <| aN)
theorem r9p_row_S0_e (m : Nat) (c0 : Y_r9p_un R) (c1 : Y_r9p_row R) (c2 : Y_r9p_w R) (c3 : Y_r9p_take R) (l0_0 : r9p_row_V0_0 R) (ρ : Kr R) (kx : Kx R) (kr : Kr R) : roundA tb (r9p_row_G c0 c1 c2 c3) 1 Tryz.f209 (lpC (bodyOf Tryz.f209) 0) [r9p_row_X0_0 l0_0 m] r9p_row_l0 r9p_row_a0 ρ kx kr = r9p_row_S0 m c1 c2 l0_0 (r9p_row_a0.w _ (pr ρ)) (r9p_row_z0.w _ (pr kr)) := by kernel_rfl
def r9p_row_X0 (l : r9p_row_V0 R) (m : Nat) : LoopH R := loopA r9p_row_l0 r9p_row_a0 fun kx kr => l (r9p_row_z0.w _ (pr kr)) m
theorem r9p_row_X0_k {m : Nat} {c0 : Y_r9p_un R} {c1 : Y_r9p_row R} {c2 : Y_r9p_w R} {c3 : Y_r9p_take R} (HG : ∀ f, SemOK cxP f (r9p_row_G (R := R) c0 c1 c2 c3 f)) : LoopSem cxP Tryz.f209.ntmps 1 (lpC (bodyOf Tryz.f209) 0) (r9p_row_X0 (R := R) (r9p_row_L0 m c1 c2 c3) m) := loopA_ok C HG (by kernel_rfl) (show loopsIn (lpC (bodyOf Tryz.f209) 0) = [(lpC (lpC (bodyOf Tryz.f209) 0) 0)] from by kernel_rfl) (.cons (r9p_row_X0_0_k HG) (.nil _)) m (fun _ _ => rfl) rfl (r9p_row_S0_e m c0 c1 c2 c3 (r9p_row_L0_0 m c3))
theorem r9p_row_e (m : Nat) (c0 : Y_r9p_un R) (c1 : Y_r9p_row R) (c2 : Y_r9p_w R) (c3 : Y_r9p_take R) (l0 : r9p_row_V0 R) : r9p_row_a.w _ (fun x κ => pFun tb (r9p_row_G (R := R) c0 c1 c2 c3) 1 [r9p_row_X0 l0 m] [some (false, 4)] Tryz.f209 x.1 x.2 κ) = r9p_row_h (r9p_row_F m c0 c1 l0) := by kernel_rfl
theorem r9p_row_st (m : Nat) (g : G_r9p_expr R) (hg : G_publicanref9_parser_exprOK g) : SemC cxP 209 (r9p_row_w (r9p_row_B m g)) :=
 have HG : ∀ f, SemOK cxP f (r9p_row_G (R := R) g.r9p_un g.r9p_row (r9p_w m) (r9p_take m) f) := tabG_ok (.cons hg.r9p_un (.cons hg.r9p_row (.cons (r9p_w_k m) (.cons (r9p_take_k m) .nil))))
 rawA_ok C HG (fn_of Tryz.func209) rfl rfl (by kernel_rfl) (show loopsIn (bodyOf Tryz.f209) = [(lpC (bodyOf Tryz.f209) 0)] from by kernel_rfl) (.cons (r9p_row_X0_k HG) (.nil _)) (r9p_row_e m g.r9p_un g.r9p_row (r9p_w m) (r9p_take m) (r9p_row_L0 m g.r9p_row (r9p_w m) (r9p_take m)))
theorem r9p_row_zz : SemC cxP 209 (r9p_row_w (R := R) fun _ _ _ => none) := rawA_z rfl
end
end Go.Pm
