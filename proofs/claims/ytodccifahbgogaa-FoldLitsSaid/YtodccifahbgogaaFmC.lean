/- The interpreter over data answers as the plain functions say. -/
import Derived.Test.YtodccifahbgogaaFmB
set_option linter.unusedVariables false
set_option linter.unusedSectionVars false
set_option linter.unusedSimpArgs false
namespace Go.Pm
open Go Go.EvM Go.Pv Go.Proofs
set_option maxRecDepth 100000
set_option linter.unusedVariables false
set_option linter.unusedSectionVars false
noncomputable section
variable {R : Type}
def r1_Day_G (c0 : Y_r1_Days R) (c1 : Y_r1_Leap R) : FuncId → PSem R := tabG [(38, r1_Days_s c0), (37, r1_Leap_s c1)]
def r1_Day_l1 : LpS := ⟨[(10, .any), (0, .any), (8, .any), (2, .any), (1, .any)], [(2, .any), (8, .any)], []⟩
def r1_Day_a1 := aX (aC (aI .i64) <| aC (aI .i64) <| aC (aI .i64) <| aC (aI .i64) <| aC (aI .i64) <| aN) (aN)
def r1_Day_x1 := aX (aC (aI .i64) <| aC (aI .i64) <| aN) (aN)
theorem r1_Day_S1_e (m : Nat) (c0 : Y_r1_Days R) (c1 : Y_r1_Leap R) (ρ : Kr R) (kx : Kx R) (kr : Kr R) : roundA tb (r1_Day_G c0 c1) 0 Try.f77 (lpC (bodyOf Try.f77) 1) [] r1_Day_l1 r1_Day_a1 ρ kx kr = r1_Day_S1 m c0 (r1_Day_a1.w _ (pr ρ)) (r1_Day_x1.w _ (pr (kx 2))) := by kernel_rfl
def r1_Day_X1 (l : r1_Day_V1 R) (m : Nat) : LoopH R := loopA r1_Day_l1 r1_Day_a1 fun kx kr => l (r1_Day_x1.w _ (pr (kx 2))) m
theorem r1_Day_X1_k {m : Nat} {c0 : Y_r1_Days R} {c1 : Y_r1_Leap R} (HG : ∀ f, SemOK cxP f (r1_Day_G (R := R) c0 c1 f)) : LoopSem cxP Try.f77.ntmps 0 (lpC (bodyOf Try.f77) 1) (r1_Day_X1 (R := R) (r1_Day_L1 m c0) m) := loopA_ok C HG (by kernel_rfl) (show loopsIn (lpC (bodyOf Try.f77) 1) = [] from by kernel_rfl) (.nil _) m (fun _ _ => rfl) rfl (r1_Day_S1_e m c0 c1)
def r1_Day_l0 : LpS := ⟨[(9, .any), (8, .any), (0, .any), (2, .any), (1, .any)], [(0, .any), (8, .any), (2, .any), (1, .any)], []⟩
def r1_Day_a0 := aX (aC (aI .i64) <| aC (aI .i64) <| aC (aI .i64) <| aC (aI .i64) <| aC (aI .i64) <| aN) (aN)
def r1_Day_x0 := aX (aC (aI .i64) <| aC (aI .i64) <| aC (aI .i64) <| aC (aI .i64) <| aN) (aN)
theorem r1_Day_S0_e (m : Nat) (c0 : Y_r1_Days R) (c1 : Y_r1_Leap R) (ρ : Kr R) (kx : Kx R) (kr : Kr R) : roundA tb (r1_Day_G c0 c1) 0 Try.f77 (lpC (bodyOf Try.f77) 0) [] r1_Day_l0 r1_Day_a0 ρ kx kr = r1_Day_S0 m c1 (r1_Day_a0.w _ (pr ρ)) (r1_Day_x0.w _ (pr (kx 0))) := by kernel_rfl
def r1_Day_X0 (l : r1_Day_V0 R) (m : Nat) : LoopH R := loopA r1_Day_l0 r1_Day_a0 fun kx kr => l (r1_Day_x0.w _ (pr (kx 0))) m
theorem r1_Day_X0_k {m : Nat} {c0 : Y_r1_Days R} {c1 : Y_r1_Leap R} (HG : ∀ f, SemOK cxP f (r1_Day_G (R := R) c0 c1 f)) : LoopSem cxP Try.f77.ntmps 0 (lpC (bodyOf Try.f77) 0) (r1_Day_X0 (R := R) (r1_Day_L0 m c1) m) := loopA_ok C HG (by kernel_rfl) (show loopsIn (lpC (bodyOf Try.f77) 0) = [] from by kernel_rfl) (.nil _) m (fun _ _ => rfl) rfl (r1_Day_S0_e m c0 c1)
def r1_Day_a := aX (aC (aI .i64) <| aC (aI .i64) <| aC (aI .i64) <| aN) (aN)
def r1_Day_h (F : Y_r1_Day R) := fun a0 a1 a2 (κ : Ko R) => F a0 a1 a2 (fun r_0 r_1 => κ (.tup [.int .i64 r_0, .bool r_1]) [])
def r1_Day_s (F : Y_r1_Day R) : PSem R := semOf [none, none, none] (rawA r1_Day_a (r1_Day_h F))
theorem r1_Day_e (m : Nat) (c0 : Y_r1_Days R) (c1 : Y_r1_Leap R) (l0 : r1_Day_V0 R) (l1 : r1_Day_V1 R) : r1_Day_a.w _ (fun x κ => pFun tb (r1_Day_G (R := R) c0 c1) 0 [r1_Day_X0 l0 m, r1_Day_X1 l1 m] [none, none] Try.f77 x.1 x.2 κ) = r1_Day_h (r1_Day_F m c0 l0 l1) := by kernel_rfl
theorem r1_Day_k (m : Nat) : SemOK cxP 77 (r1_Day_s (R := R) (r1_Day m)) :=
 have HG : ∀ f, SemOK cxP f (r1_Day_G (R := R) (r1_Days m) (r1_Leap m) f) := tabG_ok (.cons (r1_Days_k m) (.cons (r1_Leap_k m) .nil))
 semOf_ok (rawA_ok C HG (fn_of Try.func77) rfl rfl (by kernel_rfl) (show loopsIn (bodyOf Try.f77) = [(lpC (bodyOf Try.f77) 0), (lpC (bodyOf Try.f77) 1)] from by kernel_rfl) (.cons (r1_Day_X0_k HG) (.cons (r1_Day_X1_k HG) (.nil _))) (r1_Day_e m (r1_Days m) (r1_Leap m) (r1_Day_L0 m (r1_Leap m)) (r1_Day_L1 m (r1_Days m))))
def b_Div64_G (c0 : Y_b_LeadingZeros64 R) : FuncId → PSem R := tabG [(86, b_LeadingZeros64_s c0)]
def b_Div64_l1 : LpS := ⟨[(8, .any), (2, .any), (14, .any), (17, .any), (15, .any), (9, .any), (16, .any), (18, .any), (10, .any)], [(8, .any), (2, .any), (18, .any), (14, .any), (17, .any), (15, .any)], []⟩
def b_Div64_a1 := aX (aC (aI .u64) <| aC (aI .u64) <| aC (aI .u64) <| aC (aI .u64) <| aC (aI .u64) <| aC (aI .u64) <| aC (aI .u64) <| aC (aI .u64) <| aC (aI .u64) <| aN) (aN)
def b_Div64_x1 := aX (aC (aI .u64) <| aC (aI .u64) <| aC (aI .u64) <| aC (aI .u64) <| aC (aI .u64) <| aC (aI .u64) <| aN) (aN)
theorem b_Div64_S1_e (m : Nat) (c0 : Y_b_LeadingZeros64 R) (ρ : Kr R) (kx : Kx R) (kr : Kr R) : roundA tb (b_Div64_G c0) 0 Try.f81 (lpC (bodyOf Try.f81) 1) [] b_Div64_l1 b_Div64_a1 ρ kx kr = b_Div64_S1 m (b_Div64_a1.w _ (pr ρ)) (b_Div64_x1.w _ (pr (kx 2))) := by kernel_rfl
def b_Div64_X1 (l : b_Div64_V1 R) (m : Nat) : LoopH R := loopA b_Div64_l1 b_Div64_a1 fun kx kr => l (b_Div64_x1.w _ (pr (kx 2))) m
theorem b_Div64_X1_k {m : Nat} {c0 : Y_b_LeadingZeros64 R} (HG : ∀ f, SemOK cxP f (b_Div64_G (R := R) c0 f)) : LoopSem cxP Try.f81.ntmps 0 (lpC (bodyOf Try.f81) 1) (b_Div64_X1 (R := R) (b_Div64_L1 m) m) := loopA_ok C HG (by kernel_rfl) (show loopsIn (lpC (bodyOf Try.f81) 1) = [] from by kernel_rfl) (.nil _) m (fun _ _ => rfl) rfl (b_Div64_S1_e m c0)
def b_Div64_l0 : LpS := ⟨[(8, .any), (2, .any), (14, .any), (9, .any), (10, .any), (13, .any), (11, .any), (16, .any), (15, .any)], [(8, .any), (2, .any), (14, .any), (15, .any), (9, .any), (10, .any), (13, .any), (11, .any)], []⟩
def b_Div64_a0 := aX (aC (aI .u64) <| aC (aI .u64) <| aC (aI .u64) <| aC (aI .u64) <| aC (aI .u64) <| aC (aI .u64) <| aC (aI .u64) <| aC (aI .u64) <| aC (aI .u64) <| aN) (aN)
def b_Div64_x0 := aX (aC (aI .u64) <| aC (aI .u64) <| aC (aI .u64) <| aC (aI .u64) <| aC (aI .u64) <| aC (aI .u64) <| aC (aI .u64) <| aC (aI .u64) <| aN) (aN)
theorem b_Div64_S0_e (m : Nat) (c0 : Y_b_LeadingZeros64 R) (ρ : Kr R) (kx : Kx R) (kr : Kr R) : roundA tb (b_Div64_G c0) 0 Try.f81 (lpC (bodyOf Try.f81) 0) [] b_Div64_l0 b_Div64_a0 ρ kx kr = b_Div64_S0 m (b_Div64_a0.w _ (pr ρ)) (b_Div64_x0.w _ (pr (kx 0))) := by kernel_rfl
def b_Div64_X0 (l : b_Div64_V0 R) (m : Nat) : LoopH R := loopA b_Div64_l0 b_Div64_a0 fun kx kr => l (b_Div64_x0.w _ (pr (kx 0))) m
theorem b_Div64_X0_k {m : Nat} {c0 : Y_b_LeadingZeros64 R} (HG : ∀ f, SemOK cxP f (b_Div64_G (R := R) c0 f)) : LoopSem cxP Try.f81.ntmps 0 (lpC (bodyOf Try.f81) 0) (b_Div64_X0 (R := R) (b_Div64_L0 m) m) := loopA_ok C HG (by kernel_rfl) (show loopsIn (lpC (bodyOf Try.f81) 0) = [] from by kernel_rfl) (.nil _) m (fun _ _ => rfl) rfl (b_Div64_S0_e m c0)
def b_Div64_a := aX (aC (aI .u64) <| aC (aI .u64) <| aC (aI .u64) <| aN) (aN)
def b_Div64_h (F : Y_b_Div64 R) := fun a0 a1 a2 (κ : Ko R) => F a0 a1 a2 (fun r_0 r_1 => κ (.tup [.int .u64 r_0, .int .u64 r_1]) [])
def b_Div64_s (F : Y_b_Div64 R) : PSem R := semOf [none, none, none] (rawA b_Div64_a (b_Div64_h F))
theorem b_Div64_e (m : Nat) (c0 : Y_b_LeadingZeros64 R) (l0 : b_Div64_V0 R) (l1 : b_Div64_V1 R) : b_Div64_a.w _ (fun x κ => pFun tb (b_Div64_G (R := R) c0) 0 [b_Div64_X0 l0 m, b_Div64_X1 l1 m] [none, none] Try.f81 x.1 x.2 κ) = b_Div64_h (b_Div64_F m c0 l0 l1) := by kernel_rfl
theorem b_Div64_k (m : Nat) : SemOK cxP 81 (b_Div64_s (R := R) (b_Div64 m)) :=
 have HG : ∀ f, SemOK cxP f (b_Div64_G (R := R) (b_LeadingZeros64 m) f) := tabG_ok (.cons (b_LeadingZeros64_k m) .nil)
 semOf_ok (rawA_ok C HG (fn_of Try.func81) rfl rfl (by kernel_rfl) (show loopsIn (bodyOf Try.f81) = [(lpC (bodyOf Try.f81) 0), (lpC (bodyOf Try.f81) 1)] from by kernel_rfl) (.cons (b_Div64_X0_k HG) (.cons (b_Div64_X1_k HG) (.nil _))) (b_Div64_e m (b_LeadingZeros64 m) (b_Div64_L0 m) (b_Div64_L1 m)))
def r9p_kind_a := aX (aC (aP 0 0) <| aN) (aC o7 <| aN)
def r9p_kind_h (F : Y_r9p_kind R) := fun o0 (κ : Ko R) => F o0 (fun r w0 => κ (.int .i64 r) [w7 w0])
def r9p_kind_s (F : Y_r9p_kind R) : PSem R := semOf [none] (rawA r9p_kind_a (r9p_kind_h F))
theorem r9p_kind_e (m : Nat) (c0 : Y_r9p_w R) (c1 : Y_r9_Kind R) (c2 : Y_r9p_fail R) : r9p_kind_a.w _ (fun x κ => pFun tb (tabG (R := R) [(46, r9p_w_s c0), (68, r9_Kind_s c1), (55, r9p_fail_s c2)]) 1 [] [none] Try.f49 x.1 x.2 κ) = r9p_kind_h (r9p_kind_F m c0 c1 c2) := by kernel_rfl
theorem r9p_kind_k (m : Nat) : SemOK cxP 49 (r9p_kind_s (R := R) (r9p_kind m)) := semOf_ok (raw0 C (tabG_ok (.cons (r9p_w_k m) (.cons (r9_Kind_k m) (.cons (r9p_fail_k m) .nil)))) (fn_of Try.func49) rfl rfl (by kernel_rfl) (by kernel_rfl) (r9p_kind_e m (r9p_w m) (r9_Kind m) (r9p_fail m)))
def num_Mul_a := aX (aC (aI .i64) <| aC (aI .i64) <| aN) (aN)
def num_Mul_h (F : Y_num_Mul R) := fun a0 a1 (κ : Ko R) => F a0 a1 (fun r_0 r_1 => κ (.tup [.int .i64 r_0, .bool r_1]) [])
def num_Mul_s (F : Y_num_Mul R) : PSem R := semOf [none, none] (rawA num_Mul_a (num_Mul_h F))
theorem num_Mul_e (m : Nat) (c0 : Y_num_product R) (c1 : Y_num_narrow R) : num_Mul_a.w _ (fun x κ => pFun tb (tabG (R := R) [(75, num_product_s c0), (74, num_narrow_s c1)]) 0 [] [none, none] Try.f62 x.1 x.2 κ) = num_Mul_h (num_Mul_F m c0 c1) := by kernel_rfl
theorem num_Mul_k (m : Nat) : SemOK cxP 62 (num_Mul_s (R := R) (num_Mul m)) := semOf_ok (raw0 C (tabG_ok (.cons (num_product_k m) (.cons (num_narrow_k m) .nil))) (fn_of Try.func62) rfl rfl (by kernel_rfl) (by kernel_rfl) (num_Mul_e m (num_product m) (num_narrow m)))
def r1_ReadDay_G (c0 : Y_r1_Day R) : FuncId → PSem R := tabG [(77, r1_Day_s c0)]
def r1_ReadDay_l0 : LpS := ⟨[(5, .any), (0, .any), (4, .any)], [(4, .any)], [(2, .any), (3, .any)]⟩
def r1_ReadDay_a0 := aX (aC (aI .i64) <| aC aS <| aC (aO 0) <| aN) (aC (aA 0) <| aN)
def r1_ReadDay_x0 := aX (aC (aO 0) <| aN) (aC (aA 0) <| aN)
def r1_ReadDay_z0 := aX (aC (aI .i64) <| aC aB <| aN) (aN)
theorem r1_ReadDay_S0_e (m : Nat) (c0 : Y_r1_Day R) (ρ : Kr R) (kx : Kx R) (kr : Kr R) : roundA tb (r1_ReadDay_G c0) 0 Try.f65 (lpC (bodyOf Try.f65) 0) [] r1_ReadDay_l0 r1_ReadDay_a0 ρ kx kr = r1_ReadDay_S0 m (r1_ReadDay_a0.w _ (pr ρ)) (r1_ReadDay_x0.w _ (pr (kx 0))) (r1_ReadDay_z0.w _ (pr kr)) := by kernel_rfl
def r1_ReadDay_X0 (l : r1_ReadDay_V0 R) (m : Nat) : LoopH R := loopA r1_ReadDay_l0 r1_ReadDay_a0 fun kx kr => l (r1_ReadDay_x0.w _ (pr (kx 0))) (r1_ReadDay_z0.w _ (pr kr)) m
theorem r1_ReadDay_X0_k {m : Nat} {c0 : Y_r1_Day R} (HG : ∀ f, SemOK cxP f (r1_ReadDay_G (R := R) c0 f)) : LoopSem cxP Try.f65.ntmps 0 (lpC (bodyOf Try.f65) 0) (r1_ReadDay_X0 (R := R) (r1_ReadDay_L0 m) m) := loopA_ok C HG (by kernel_rfl) (show loopsIn (lpC (bodyOf Try.f65) 0) = [] from by kernel_rfl) (.nil _) m (fun _ _ => rfl) rfl (r1_ReadDay_S0_e m c0)
def r1_ReadDay_a := aX (aC aS <| aN) (aN)
def r1_ReadDay_h (F : Y_r1_ReadDay R) := fun a0 (κ : Ko R) => F a0 (fun r_0 r_1 => κ (.tup [.int .i64 r_0, .bool r_1]) [])
def r1_ReadDay_s (F : Y_r1_ReadDay R) : PSem R := semOf [none] (rawA r1_ReadDay_a (r1_ReadDay_h F))
theorem r1_ReadDay_e (m : Nat) (c0 : Y_r1_Day R) (l0 : r1_ReadDay_V0 R) : r1_ReadDay_a.w _ (fun x κ => pFun tb (r1_ReadDay_G (R := R) c0) 0 [r1_ReadDay_X0 l0 m] [none, none] Try.f65 x.1 x.2 κ) = r1_ReadDay_h (r1_ReadDay_F m c0 l0) := by kernel_rfl
theorem r1_ReadDay_k (m : Nat) : SemOK cxP 65 (r1_ReadDay_s (R := R) (r1_ReadDay m)) :=
 have HG : ∀ f, SemOK cxP f (r1_ReadDay_G (R := R) (r1_Day m) f) := tabG_ok (.cons (r1_Day_k m) .nil)
 semOf_ok (rawA_ok C HG (fn_of Try.func65) rfl rfl (by kernel_rfl) (show loopsIn (bodyOf Try.f65) = [(lpC (bodyOf Try.f65) 0)] from by kernel_rfl) (.cons (r1_ReadDay_X0_k HG) (.nil _)) (r1_ReadDay_e m (r1_Day m) (r1_ReadDay_L0 m)))
def r1_DayText_a := aX (aC (aI .i64) <| aN) (aN)
def r1_DayText_h (F : Y_r1_DayText R) := fun a0 (κ : Ko R) => F a0 (fun r => κ (.str r) [])
def r1_DayText_s (F : Y_r1_DayText R) : PSem R := semOf [none] (rawA r1_DayText_a (r1_DayText_h F))
theorem r1_DayText_e (m : Nat) (c0 : Y_r1_Date R) (c1 : Y_r1_two R) : r1_DayText_a.w _ (fun x κ => pFun tb (tabG (R := R) [(24, r1_Date_s c0), (25, r1_two_s c1)]) 0 [] [none] Try.f13 x.1 x.2 κ) = r1_DayText_h (r1_DayText_F m c0 c1) := by kernel_rfl
theorem r1_DayText_k (m : Nat) : SemOK cxP 13 (r1_DayText_s (R := R) (r1_DayText m)) := semOf_ok (raw0 C (tabG_ok (.cons (r1_Date_k m) (.cons (r1_two_k m) .nil))) (fn_of Try.func13) rfl rfl (by kernel_rfl) (by kernel_rfl) (r1_DayText_e m (r1_Date m) (r1_two m)))
def r9p_want_a := aX (aC (aP 0 0) <| aC aS <| aN) (aC o7 <| aN)
def r9p_want_h (F : Y_r9p_want R) := fun a1 o0 (κ : Ko R) => F o0 a1 (fun w0 => κ (.tup []) [w7 w0])
def r9p_want_s (F : Y_r9p_want R) : PSem R := semOf [none, none] (rawA r9p_want_a (r9p_want_h F))
theorem r9p_want_e (m : Nat) (c0 : Y_r9p_take R) (c1 : Y_r9p_fail R) : r9p_want_a.w _ (fun x κ => pFun tb (tabG (R := R) [(47, r9p_take_s c0), (55, r9p_fail_s c1)]) 1 [] [] Try.f50 x.1 x.2 κ) = r9p_want_h (r9p_want_F m c0 c1) := by kernel_rfl
theorem r9p_want_k (m : Nat) : SemOK cxP 50 (r9p_want_s (R := R) (r9p_want m)) := semOf_ok (raw0 C (tabG_ok (.cons (r9p_take_k m) (.cons (r9p_fail_k m) .nil))) (fn_of Try.func50) rfl rfl (by kernel_rfl) (by kernel_rfl) (r9p_want_e m (r9p_take m) (r9p_fail m)))
def r9p_lit_a := aX (aC (aP 0 0) <| aN) (aC o7 <| aN)
def r9p_lit_h (F : Y_r9p_lit R) := fun o0 (κ : Ko R) => F o0 (fun r w0 => κ (.st 5 r) [w7 w0])
def r9p_lit_s (F : Y_r9p_lit R) : PSem R := semOf [none] (rawA r9p_lit_a (r9p_lit_h F))
theorem r9p_lit_e (m : Nat) (c0 : Y_r9p_islit R) (c1 : Y_r9p_fail R) (c2 : Y_r9p_w R) : r9p_lit_a.w _ (fun x κ => pFun tb (tabG (R := R) [(72, r9p_islit_s c0), (55, r9p_fail_s c1), (46, r9p_w_s c2)]) 1 [] [some (false, 5)] Try.f54 x.1 x.2 κ) = r9p_lit_h (r9p_lit_F m c0 c1 c2) := by kernel_rfl
theorem r9p_lit_k (m : Nat) : SemOK cxP 54 (r9p_lit_s (R := R) (r9p_lit m)) := semOf_ok (raw0 C (tabG_ok (.cons (r9p_islit_k m) (.cons (r9p_fail_k m) (.cons (r9p_w_k m) .nil)))) (fn_of Try.func54) rfl rfl (by kernel_rfl) (by kernel_rfl) (r9p_lit_e m (r9p_islit m) (r9p_fail m) (r9p_w m)))
def typ_Two_a := aX (aC aS <| aC (aI .i64) <| aC (aI .i64) <| aN) (aN)
def typ_Two_h (F : Y_typ_Two R) := fun a0 a1 a2 (κ : Ko R) => F a0 a1 a2 (fun r => κ (.int .i64 r) [])
def typ_Two_s (F : Y_typ_Two R) : PSem R := semOf [none, none, none] (rawA typ_Two_a (typ_Two_h F))
theorem typ_Two_e (m : Nat) (c0 : Y_typ_sum R) (c1 : Y_typ_product R) (c2 : Y_typ_quotient R) (c3 : Y_typ_ordered R) : typ_Two_a.w _ (fun x κ => pFun tb (tabG (R := R) [(57, typ_sum_s c0), (58, typ_product_s c1), (59, typ_quotient_s c2), (60, typ_ordered_s c3)]) 0 [] [none] Try.f30 x.1 x.2 κ) = typ_Two_h (typ_Two_F m c0 c1 c2 c3) := by kernel_rfl
theorem typ_Two_k (m : Nat) : SemOK cxP 30 (typ_Two_s (R := R) (typ_Two m)) := semOf_ok (raw0 C (tabG_ok (.cons (typ_sum_k m) (.cons (typ_product_k m) (.cons (typ_quotient_k m) (.cons (typ_ordered_k m) .nil))))) (fn_of Try.func30) rfl rfl (by kernel_rfl) (by kernel_rfl) (typ_Two_e m (typ_sum m) (typ_product m) (typ_quotient m) (typ_ordered m)))
def mean_one_a := aX (aC aS <| aC (aT 6) <| aN) (aN)
def mean_one_h (F : Y_mean_one R) := fun a0 a1 (κ : Ko R) => F a0 a1 (fun r_0 r_1 => κ (.tup [.st 6 r_0, .int .i64 r_1]) [])
def mean_one_s (F : Y_mean_one R) : PSem R := semOf [none, some (false, 6)] (rawA mean_one_a (mean_one_h F))
theorem mean_one_e (m : Nat) (c0 : Y_typ_One R) (c1 : Y_mean_truth R) (c2 : Y_num_Sub R) (c3 : Y_mean_made R) : mean_one_a.w _ (fun x κ => pFun tb (tabG (R := R) [(56, typ_One_s c0), (36, mean_truth_s c1), (33, num_Sub_s c2), (32, mean_made_s c3)]) 0 [] [some (false, 6), none] Try.f29 x.1 x.2 κ) = mean_one_h (mean_one_F m c0 c1 c2 c3) := by kernel_rfl
theorem mean_one_k (m : Nat) : SemOK cxP 29 (mean_one_s (R := R) (mean_one m)) := semOf_ok (raw0 C (tabG_ok (.cons (typ_One_k m) (.cons (mean_truth_k m) (.cons (num_Sub_k m) (.cons (mean_made_k m) .nil))))) (fn_of Try.func29) rfl rfl (by kernel_rfl) (by kernel_rfl) (mean_one_e m (typ_One m) (mean_truth m) (num_Sub m) (mean_made m)))
def r9_Lit_a := aX (aC (aI .i64) <| aC (aI .i64) <| aN) (aN)
def r9_Lit_h (F : Y_r9_Lit R) := fun a0 a1 (κ : Ko R) => F a0 a1 (fun r => κ (.str r) [])
def r9_Lit_w (F : Y_r9_Lit R) : PSem R := rawA r9_Lit_a (r9_Lit_h F)
def r9_Lit_s (F : Y_r9_Lit R) : PSem R := semOf [none, none] (r9_Lit_w F)
structure G_publicanref9_LitOK (g : G_r9_Lit R) : Prop where
  r9_Lit : SemOK cxP 5 (r9_Lit_s g.r9_Lit)
def r9_Lit_G (c0 : Y_r9_Lit R) (c1 : Y_r1_Text R) (c2 : Y_r9_digitsOf R) (c3 : Y_r1_DayText R) : FuncId → PSem R := tabG [(5, r9_Lit_s c0), (11, r1_Text_s c1), (12, r9_digitsOf_s c2), (13, r1_DayText_s c3)]
theorem r9_Lit_e (m : Nat) (c0 : Y_r9_Lit R) (c1 : Y_r1_Text R) (c2 : Y_r9_digitsOf R) (c3 : Y_r1_DayText R) : r9_Lit_a.w _ (fun x κ => pFun tb (r9_Lit_G (R := R) c0 c1 c2 c3) 0 [] [none] Try.f5 x.1 x.2 κ) = r9_Lit_h (r9_Lit_F m c0 c1 c2 c3) := by kernel_rfl
theorem r9_Lit_st (m : Nat) (g : G_r9_Lit R) (hg : G_publicanref9_LitOK g) : SemC cxP 5 (r9_Lit_w (r9_Lit_B m g)) :=
 have HG : ∀ f, SemOK cxP f (r9_Lit_G (R := R) g.r9_Lit (r1_Text m) (r9_digitsOf m) (r1_DayText m) f) := tabG_ok (.cons hg.r9_Lit (.cons (r1_Text_k m) (.cons (r9_digitsOf_k m) (.cons (r1_DayText_k m) .nil))))
 rawA_ok C HG (fn_of Try.func5) rfl rfl (by kernel_rfl) (show loopsIn (bodyOf Try.f5) = [] from by kernel_rfl) (.nil _) (r9_Lit_e m g.r9_Lit (r1_Text m) (r9_digitsOf m) (r1_DayText m))
theorem r9_Lit_zz : SemC cxP 5 (r9_Lit_w (R := R) fun _ _ _ => none) := rawA_z rfl
theorem G_r9_Lit_ok : ∀ m, G_publicanref9_LitOK (G_r9_Lit_r (R := R) m)
  | 0 => ⟨semOf_ok r9_Lit_zz⟩
  | j + 1 => ⟨semOf_ok (r9_Lit_st j _ (G_r9_Lit_ok j))⟩
theorem r9_Lit_k (m : Nat) : SemOK cxP 5 (r9_Lit_s (R := R) (r9_Lit m)) := (G_r9_Lit_ok m).r9_Lit
def r9_digits_a := aX (aC aS <| aC (aI .i64) <| aN) (aN)
def r9_digits_h (F : Y_r9_digits R) := fun a0 a1 (κ : Ko R) => F a0 a1 (fun r_0 r_1 => κ (.tup [.st 8 r_0, .int .i64 r_1]) [])
def r9_digits_s (F : Y_r9_digits R) : PSem R := semOf [none, none] (rawA r9_digits_a (r9_digits_h F))
theorem r9_digits_e (m : Nat) (c0 : Y_r1_ReadDay R) (c1 : Y_r9_run R) (c2 : Y_r9_percent R) (c3 : Y_r9_number R) (c4 : Y_r9_digit R) : r9_digits_a.w _ (fun x κ => pFun tb (tabG (R := R) [(65, r1_ReadDay_s c0), (43, r9_run_s c1), (66, r9_percent_s c2), (67, r9_number_s c3), (40, r9_digit_s c4)]) 0 [] [some (false, 8), none] Try.f42 x.1 x.2 κ) = r9_digits_h (r9_digits_F m c0 c1 c2 c3 c4) := by kernel_rfl
theorem r9_digits_k (m : Nat) : SemOK cxP 42 (r9_digits_s (R := R) (r9_digits m)) := semOf_ok (raw0 C (tabG_ok (.cons (r1_ReadDay_k m) (.cons (r9_run_k m) (.cons (r9_percent_k m) (.cons (r9_number_k m) (.cons (r9_digit_k m) .nil)))))) (fn_of Try.func42) rfl rfl (by kernel_rfl) (by kernel_rfl) (r9_digits_e m (r1_ReadDay m) (r9_run m) (r9_percent m) (r9_number m) (r9_digit m)))
def num_Wide_Floor_a := aX (aC (aT 9) <| aC (aI .i64) <| aN) (aN)
def num_Wide_Floor_h (F : Y_num_Wide_Floor R) := fun a0 a1 (κ : Ko R) => F a0 a1 (fun r_0 r_1 => κ (.tup [.int .i64 r_0, .bool r_1]) [])
def num_Wide_Floor_s (F : Y_num_Wide_Floor R) : PSem R := semOf [some (false, 9), none] (rawA num_Wide_Floor_a (num_Wide_Floor_h F))
theorem num_Wide_Floor_e (m : Nat) (c0 : Y_num_Wide_turned R) (c1 : Y_b_Div64 R) (c2 : Y_num_narrow R) (c3 : Y_num_Of R) (c4 : Y_num_Wide_Plus R) : num_Wide_Floor_a.w _ (fun x κ => pFun tb (tabG (R := R) [(80, num_Wide_turned_s c0), (81, b_Div64_s c1), (74, num_narrow_s c2), (83, num_Of_s c3), (82, num_Wide_Plus_s c4)]) 0 [] [none, none] Try.f76 x.1 x.2 κ) = num_Wide_Floor_h (num_Wide_Floor_F m c0 c1 c2 c3 c4) := by kernel_rfl
theorem num_Wide_Floor_k (m : Nat) : SemOK cxP 76 (num_Wide_Floor_s (R := R) (num_Wide_Floor m)) := semOf_ok (raw0 C (tabG_ok (.cons (num_Wide_turned_k m) (.cons (b_Div64_k m) (.cons (num_narrow_k m) (.cons (num_Of_k m) (.cons (num_Wide_Plus_k m) .nil)))))) (fn_of Try.func76) rfl rfl (by kernel_rfl) (by kernel_rfl) (num_Wide_Floor_e m (num_Wide_turned m) (b_Div64 m) (num_narrow m) (num_Of m) (num_Wide_Plus m)))
def num_MulFloor_a := aX (aC (aI .i64) <| aC (aI .i64) <| aC (aI .i64) <| aN) (aN)
def num_MulFloor_h (F : Y_num_MulFloor R) := fun a0 a1 a2 (κ : Ko R) => F a0 a1 a2 (fun r_0 r_1 => κ (.tup [.int .i64 r_0, .bool r_1]) [])
def num_MulFloor_s (F : Y_num_MulFloor R) : PSem R := semOf [none, none, none] (rawA num_MulFloor_a (num_MulFloor_h F))
theorem num_MulFloor_e (m : Nat) (c0 : Y_num_product R) (c1 : Y_num_Wide_Floor R) : num_MulFloor_a.w _ (fun x κ => pFun tb (tabG (R := R) [(75, num_product_s c0), (76, num_Wide_Floor_s c1)]) 0 [] [none, none] Try.f63 x.1 x.2 κ) = num_MulFloor_h (num_MulFloor_F m c0 c1) := by kernel_rfl
theorem num_MulFloor_k (m : Nat) : SemOK cxP 63 (num_MulFloor_s (R := R) (num_MulFloor m)) := semOf_ok (raw0 C (tabG_ok (.cons (num_product_k m) (.cons (num_Wide_Floor_k m) .nil))) (fn_of Try.func63) rfl rfl (by kernel_rfl) (by kernel_rfl) (num_MulFloor_e m (num_product m) (num_Wide_Floor m)))
def r9_Cut_G (c0 : Y_r9_letter R) (c1 : Y_r9_digit R) (c2 : Y_r9_Kept R) (c3 : Y_r9_digits R) (c4 : Y_r9_run R) (c5 : Y_r9_money R) (c6 : Y_r9_sign R) : FuncId → PSem R := tabG [(39, r9_letter_s c0), (40, r9_digit_s c1), (41, r9_Kept_s c2), (42, r9_digits_s c3), (43, r9_run_s c4), (44, r9_money_s c5), (45, r9_sign_s c6)]
def r9_Cut_l0_1 : LpS := ⟨[(8, .any), (5, .any), (0, .any), (7, .any), (4, .any)], [(5, .any), (0, .any), (7, .any), (4, .any), (8, .any)], []⟩
def r9_Cut_a0_1 := aX (aC (aI .i64) <| aC (aI .i64) <| aC aS <| aC (aP 0 0) <| aC (aO 1) <| aN) (aC k8 <| aC (aA 8) <| aN)
def r9_Cut_x0_1 := aX (aC (aI .i64) <| aC aS <| aC (aP 0 0) <| aC (aO 1) <| aC (aI .i64) <| aN) (aC k8 <| aC (aA 8) <| aN)
theorem r9_Cut_S0_1_e (m : Nat) (c0 : Y_r9_letter R) (c1 : Y_r9_digit R) (c2 : Y_r9_Kept R) (c3 : Y_r9_digits R) (c4 : Y_r9_run R) (c5 : Y_r9_money R) (c6 : Y_r9_sign R) (ρ : Kr R) (kx : Kx R) (kr : Kr R) : roundA tb (r9_Cut_G c0 c1 c2 c3 c4 c5 c6) 0 Try.f26 (lpC (lpC (bodyOf Try.f26) 0) 1) [] r9_Cut_l0_1 r9_Cut_a0_1 ρ kx kr = r9_Cut_S0_1 m c0 c1 (r9_Cut_a0_1.w _ (pr ρ)) (r9_Cut_x0_1.w _ (pr (kx 5))) := by kernel_rfl
def r9_Cut_X0_1 (l : r9_Cut_V0_1 R) (m : Nat) : LoopH R := loopA r9_Cut_l0_1 r9_Cut_a0_1 fun kx kr => l (r9_Cut_x0_1.w _ (pr (kx 5))) m
theorem r9_Cut_X0_1_k {m : Nat} {c0 : Y_r9_letter R} {c1 : Y_r9_digit R} {c2 : Y_r9_Kept R} {c3 : Y_r9_digits R} {c4 : Y_r9_run R} {c5 : Y_r9_money R} {c6 : Y_r9_sign R} (HG : ∀ f, SemOK cxP f (r9_Cut_G (R := R) c0 c1 c2 c3 c4 c5 c6 f)) : LoopSem cxP Try.f26.ntmps 0 (lpC (lpC (bodyOf Try.f26) 0) 1) (r9_Cut_X0_1 (R := R) (r9_Cut_L0_1 m c0 c1) m) := loopA_ok C HG (by kernel_rfl) (show loopsIn (lpC (lpC (bodyOf Try.f26) 0) 1) = [] from by kernel_rfl) (.nil _) m (fun _ _ => rfl) rfl (r9_Cut_S0_1_e m c0 c1 c2 c3 c4 c5 c6)
def r9_Cut_l0_0 : LpS := ⟨[(5, .any), (0, .any), (4, .any)], [(5, .any), (0, .any), (4, .any)], []⟩
def r9_Cut_a0_0 := aX (aC (aI .i64) <| aC aS <| aC (aO 0) <| aN) (aC (aA 8) <| aN)
def r9_Cut_x0_0 := aX (aC (aI .i64) <| aC aS <| aC (aO 0) <| aN) (aC (aA 8) <| aN)
theorem r9_Cut_S0_0_e (m : Nat) (c0 : Y_r9_letter R) (c1 : Y_r9_digit R) (c2 : Y_r9_Kept R) (c3 : Y_r9_digits R) (c4 : Y_r9_run R) (c5 : Y_r9_money R) (c6 : Y_r9_sign R) (ρ : Kr R) (kx : Kx R) (kr : Kr R) : roundA tb (r9_Cut_G c0 c1 c2 c3 c4 c5 c6) 0 Try.f26 (lpC (lpC (bodyOf Try.f26) 0) 0) [] r9_Cut_l0_0 r9_Cut_a0_0 ρ kx kr = r9_Cut_S0_0 m (r9_Cut_a0_0.w _ (pr ρ)) (r9_Cut_x0_0.w _ (pr (kx 2))) := by kernel_rfl
def r9_Cut_X0_0 (l : r9_Cut_V0_0 R) (m : Nat) : LoopH R := loopA r9_Cut_l0_0 r9_Cut_a0_0 fun kx kr => l (r9_Cut_x0_0.w _ (pr (kx 2))) m
theorem r9_Cut_X0_0_k {m : Nat} {c0 : Y_r9_letter R} {c1 : Y_r9_digit R} {c2 : Y_r9_Kept R} {c3 : Y_r9_digits R} {c4 : Y_r9_run R} {c5 : Y_r9_money R} {c6 : Y_r9_sign R} (HG : ∀ f, SemOK cxP f (r9_Cut_G (R := R) c0 c1 c2 c3 c4 c5 c6 f)) : LoopSem cxP Try.f26.ntmps 0 (lpC (lpC (bodyOf Try.f26) 0) 0) (r9_Cut_X0_0 (R := R) (r9_Cut_L0_0 m) m) := loopA_ok C HG (by kernel_rfl) (show loopsIn (lpC (lpC (bodyOf Try.f26) 0) 0) = [] from by kernel_rfl) (.nil _) m (fun _ _ => rfl) rfl (r9_Cut_S0_0_e m c0 c1 c2 c3 c4 c5 c6)
def r9_Cut_l0 : LpS := ⟨[(5, .any), (0, .any), (4, .any)], [(0, .any), (4, .any)], [(2, .sl 8), (3, .any)]⟩
def r9_Cut_a0 := aX (aC (aI .i64) <| aC aS <| aC (aO 0) <| aN) (aC (aA 8) <| aN)
def r9_Cut_x0 := aX (aC aS <| aC (aO 0) <| aN) (aC (aA 8) <| aN)
def r9_Cut_z0 := aX (aC (aL 8) <| aC (aI .i64) <| aN) (aN)
theorem r9_Cut_S0_e (m : Nat) (c0 : Y_r9_letter R) (c1 : Y_r9_digit R) (c2 : Y_r9_Kept R) (c3 : Y_r9_digits R) (c4 : Y_r9_run R) (c5 : Y_r9_money R) (c6 : Y_r9_sign R) (l0_0 : r9_Cut_V0_0 R) (l0_1 : r9_Cut_V0_1 R) (ρ : Kr R) (kx : Kx R) (kr : Kr R) : roundA tb (r9_Cut_G c0 c1 c2 c3 c4 c5 c6) 0 Try.f26 (lpC (bodyOf Try.f26) 0) [r9_Cut_X0_0 l0_0 m, r9_Cut_X0_1 l0_1 m] r9_Cut_l0 r9_Cut_a0 ρ kx kr = r9_Cut_S0 m c0 c1 c2 c3 c4 c5 c6 l0_0 l0_1 (r9_Cut_a0.w _ (pr ρ)) (r9_Cut_x0.w _ (pr (kx 0))) (r9_Cut_z0.w _ (pr kr)) := by kernel_rfl
def r9_Cut_X0 (l : r9_Cut_V0 R) (m : Nat) : LoopH R := loopA r9_Cut_l0 r9_Cut_a0 fun kx kr => l (r9_Cut_x0.w _ (pr (kx 0))) (r9_Cut_z0.w _ (pr kr)) m
theorem r9_Cut_X0_k {m : Nat} {c0 : Y_r9_letter R} {c1 : Y_r9_digit R} {c2 : Y_r9_Kept R} {c3 : Y_r9_digits R} {c4 : Y_r9_run R} {c5 : Y_r9_money R} {c6 : Y_r9_sign R} (HG : ∀ f, SemOK cxP f (r9_Cut_G (R := R) c0 c1 c2 c3 c4 c5 c6 f)) : LoopSem cxP Try.f26.ntmps 0 (lpC (bodyOf Try.f26) 0) (r9_Cut_X0 (R := R) (r9_Cut_L0 m c0 c1 c2 c3 c4 c5 c6) m) := loopA_ok C HG (by kernel_rfl) (show loopsIn (lpC (bodyOf Try.f26) 0) = [(lpC (lpC (bodyOf Try.f26) 0) 0), (lpC (lpC (bodyOf Try.f26) 0) 1)] from by kernel_rfl) (.cons (r9_Cut_X0_0_k HG) (.cons (r9_Cut_X0_1_k HG) (.nil _))) m (fun _ _ => rfl) rfl (r9_Cut_S0_e m c0 c1 c2 c3 c4 c5 c6 (r9_Cut_L0_0 m) (r9_Cut_L0_1 m c0 c1))
def r9_Cut_a := aX (aC aS <| aN) (aN)
def r9_Cut_h (F : Y_r9_Cut R) := fun a0 (κ : Ko R) => F a0 (fun r_0 r_1 => κ (.tup [.sl 8 r_0, .int .i64 r_1]) [])
def r9_Cut_s (F : Y_r9_Cut R) : PSem R := semOf [none] (rawA r9_Cut_a (r9_Cut_h F))
theorem r9_Cut_e (m : Nat) (c0 : Y_r9_letter R) (c1 : Y_r9_digit R) (c2 : Y_r9_Kept R) (c3 : Y_r9_digits R) (c4 : Y_r9_run R) (c5 : Y_r9_money R) (c6 : Y_r9_sign R) (l0 : r9_Cut_V0 R) : r9_Cut_a.w _ (fun x κ => pFun tb (r9_Cut_G (R := R) c0 c1 c2 c3 c4 c5 c6) 0 [r9_Cut_X0 l0 m] [some (true, 8), none] Try.f26 x.1 x.2 κ) = r9_Cut_h (r9_Cut_F m l0) := by kernel_rfl
theorem r9_Cut_k (m : Nat) : SemOK cxP 26 (r9_Cut_s (R := R) (r9_Cut m)) :=
 have HG : ∀ f, SemOK cxP f (r9_Cut_G (R := R) (r9_letter m) (r9_digit m) (r9_Kept m) (r9_digits m) (r9_run m) (r9_money m) (r9_sign m) f) := tabG_ok (.cons (r9_letter_k m) (.cons (r9_digit_k m) (.cons (r9_Kept_k m) (.cons (r9_digits_k m) (.cons (r9_run_k m) (.cons (r9_money_k m) (.cons (r9_sign_k m) .nil)))))))
 semOf_ok (rawA_ok C HG (fn_of Try.func26) rfl rfl (by kernel_rfl) (show loopsIn (bodyOf Try.f26) = [(lpC (bodyOf Try.f26) 0)] from by kernel_rfl) (.cons (r9_Cut_X0_k HG) (.nil _)) (r9_Cut_e m (r9_letter m) (r9_digit m) (r9_Kept m) (r9_digits m) (r9_run m) (r9_money m) (r9_sign m) (r9_Cut_L0 m (r9_letter m) (r9_digit m) (r9_Kept m) (r9_digits m) (r9_run m) (r9_money m) (r9_sign m))))
def r9p_expr_a := aX (aC (aP 0 0) <| aN) (aC o7 <| aN)
def r9p_expr_h (F : Y_r9p_expr R) := fun o0 (κ : Ko R) => F o0 (fun r w0 => κ (.st 5 r) [w7 w0])
def r9p_expr_w (F : Y_r9p_expr R) : PSem R := rawA r9p_expr_a (r9p_expr_h F)
def r9p_expr_s (F : Y_r9p_expr R) : PSem R := semOf [none] (r9p_expr_w F)
def r9p_inside_a := aX (aC (aP 0 0) <| aN) (aC o7 <| aN)
def r9p_inside_h (F : Y_r9p_inside R) := fun o0 (κ : Ko R) => F o0 (fun r w0 => κ (.st 5 r) [w7 w0])
def r9p_inside_w (F : Y_r9p_inside R) : PSem R := rawA r9p_inside_a (r9p_inside_h F)
def r9p_inside_s (F : Y_r9p_inside R) : PSem R := semOf [none] (r9p_inside_w F)
def r9p_row_a := aX (aC (aP 0 0) <| aC (aI .i64) <| aN) (aC o7 <| aN)
def r9p_row_h (F : Y_r9p_row R) := fun a1 o0 (κ : Ko R) => F o0 a1 (fun r w0 => κ (.st 5 r) [w7 w0])
def r9p_row_w (F : Y_r9p_row R) : PSem R := rawA r9p_row_a (r9p_row_h F)
def r9p_row_s (F : Y_r9p_row R) : PSem R := semOf [none, none] (r9p_row_w F)
def r9p_un_a := aX (aC (aP 0 0) <| aN) (aC o7 <| aN)
def r9p_un_h (F : Y_r9p_un R) := fun o0 (κ : Ko R) => F o0 (fun r w0 => κ (.st 5 r) [w7 w0])
def r9p_un_w (F : Y_r9p_un R) : PSem R := rawA r9p_un_a (r9p_un_h F)
def r9p_un_s (F : Y_r9p_un R) : PSem R := semOf [none] (r9p_un_w F)
def r9p_prim_a := aX (aC (aP 0 0) <| aN) (aC o7 <| aN)
def r9p_prim_h (F : Y_r9p_prim R) := fun o0 (κ : Ko R) => F o0 (fun r w0 => κ (.st 5 r) [w7 w0])
def r9p_prim_w (F : Y_r9p_prim R) : PSem R := rawA r9p_prim_a (r9p_prim_h F)
def r9p_prim_s (F : Y_r9p_prim R) : PSem R := semOf [none] (r9p_prim_w F)
structure G_publicanref9_parser_exprOK (g : G_r9p_expr R) : Prop where
  r9p_expr : SemOK cxP 51 (r9p_expr_s g.r9p_expr)
  r9p_inside : SemOK cxP 70 (r9p_inside_s g.r9p_inside)
  r9p_row : SemOK cxP 78 (r9p_row_s g.r9p_row)
  r9p_un : SemOK cxP 84 (r9p_un_s g.r9p_un)
  r9p_prim : SemOK cxP 88 (r9p_prim_s g.r9p_prim)
def r9p_expr_G (c0 : Y_r9p_in R) (c1 : Y_r9p_inside R) (c2 : Y_r9p_out R) : FuncId → PSem R := tabG [(69, r9p_in_s c0), (70, r9p_inside_s c1), (71, r9p_out_s c2)]
theorem r9p_expr_e (m : Nat) (c0 : Y_r9p_in R) (c1 : Y_r9p_inside R) (c2 : Y_r9p_out R) : r9p_expr_a.w _ (fun x κ => pFun tb (r9p_expr_G (R := R) c0 c1 c2) 1 [] [some (false, 5)] Try.f51 x.1 x.2 κ) = r9p_expr_h (r9p_expr_F m c0 c1 c2) := by kernel_rfl
theorem r9p_expr_st (m : Nat) (g : G_r9p_expr R) (hg : G_publicanref9_parser_exprOK g) : SemC cxP 51 (r9p_expr_w (r9p_expr_B m g)) :=
 have HG : ∀ f, SemOK cxP f (r9p_expr_G (R := R) (r9p_in m) g.r9p_inside (r9p_out m) f) := tabG_ok (.cons (r9p_in_k m) (.cons hg.r9p_inside (.cons (r9p_out_k m) .nil)))
 rawA_ok C HG (fn_of Try.func51) rfl rfl (by kernel_rfl) (show loopsIn (bodyOf Try.f51) = [] from by kernel_rfl) (.nil _) (r9p_expr_e m (r9p_in m) g.r9p_inside (r9p_out m))
theorem r9p_expr_zz : SemC cxP 51 (r9p_expr_w (R := R) fun _ _ => none) := rawA_z rfl
end
end Go.Pm
namespace Go.Pm
open Go Go.EvM Go.Pv Go.Proofs
set_option maxRecDepth 100000
set_option linter.unusedVariables false
set_option linter.unusedSectionVars false
noncomputable section
variable {R : Type}
def r9p_inside_G (c0 : Y_r9p_w R) (c1 : Y_r9p_take R) (c2 : Y_r9p_expr R) (c3 : Y_r9p_want R) (c4 : Y_r9p_row R) : FuncId → PSem R := tabG [(46, r9p_w_s c0), (47, r9p_take_s c1), (51, r9p_expr_s c2), (50, r9p_want_s c3), (78, r9p_row_s c4)]
theorem r9p_inside_e (m : Nat) (c0 : Y_r9p_w R) (c1 : Y_r9p_take R) (c2 : Y_r9p_expr R) (c3 : Y_r9p_want R) (c4 : Y_r9p_row R) : r9p_inside_a.w _ (fun x κ => pFun tb (r9p_inside_G (R := R) c0 c1 c2 c3 c4) 1 [] [some (false, 5)] Try.f70 x.1 x.2 κ) = r9p_inside_h (r9p_inside_F m c0 c1 c2 c3 c4) := by kernel_rfl
theorem r9p_inside_st (m : Nat) (g : G_r9p_expr R) (hg : G_publicanref9_parser_exprOK g) : SemC cxP 70 (r9p_inside_w (r9p_inside_B m g)) :=
 have HG : ∀ f, SemOK cxP f (r9p_inside_G (R := R) (r9p_w m) (r9p_take m) g.r9p_expr (r9p_want m) g.r9p_row f) := tabG_ok (.cons (r9p_w_k m) (.cons (r9p_take_k m) (.cons hg.r9p_expr (.cons (r9p_want_k m) (.cons hg.r9p_row .nil)))))
 rawA_ok C HG (fn_of Try.func70) rfl rfl (by kernel_rfl) (show loopsIn (bodyOf Try.f70) = [] from by kernel_rfl) (.nil _) (r9p_inside_e m (r9p_w m) (r9p_take m) g.r9p_expr (r9p_want m) g.r9p_row)
theorem r9p_inside_zz : SemC cxP 70 (r9p_inside_w (R := R) fun _ _ => none) := rawA_z rfl
def r9p_row_G (c0 : Y_r9p_un R) (c1 : Y_r9p_row R) (c2 : Y_r9p_w R) (c3 : Y_r9p_take R) : FuncId → PSem R := tabG [(84, r9p_un_s c0), (78, r9p_row_s c1), (46, r9p_w_s c2), (47, r9p_take_s c3)]
def r9p_row_l0_0 : LpS := ⟨[(9, .any), (5, .any), (0, .any), (4, .fcells [(5, 5)]), (6, .fcells [(5, 5)]), (1, .any), (7, .any), (8, .any)], [(4, .any), (6, .any), (5, .any), (0, .any), (1, .any), (7, .any), (8, .any)], []⟩
def r9p_row_a0_0 := aX (aC (aI .i64) <| aC (aL 2) <| aC (aP 0 0) <| aC (aP 1 0) <| aC (aP 2 0) <| aC (aI .i64) <| aC (aI .i64) <| aC aS <| aN) (aC k7 <| aC k5 <| aC k5 <| aN)
def r9p_row_x0_0 := aX (aC (aP 1 0) <| aC (aP 2 0) <| aC (aL 2) <| aC (aP 0 0) <| aC (aI .i64) <| aC (aI .i64) <| aC aS <| aN) (aC k7 <| aC k5 <| aC k5 <| aN)
theorem r9p_row_S0_0_e (m : Nat) (c0 : Y_r9p_un R) (c1 : Y_r9p_row R) (c2 : Y_r9p_w R) (c3 : Y_r9p_take R) (ρ : Kr R) (kx : Kx R) (kr : Kr R) : roundA tb (r9p_row_G c0 c1 c2 c3) 1 Try.f78 (lpC (lpC (bodyOf Try.f78) 0) 0) [] r9p_row_l0_0 r9p_row_a0_0 ρ kx kr = r9p_row_S0_0 m c3 (r9p_row_a0_0.w _ (pr ρ)) (r9p_row_x0_0.w _ (pr (kx 2))) := by kernel_rfl
def r9p_row_X0_0 (l : r9p_row_V0_0 R) (m : Nat) : LoopH R := loopA r9p_row_l0_0 r9p_row_a0_0 fun kx kr => l (r9p_row_x0_0.w _ (pr (kx 2))) m
theorem r9p_row_X0_0_k {m : Nat} {c0 : Y_r9p_un R} {c1 : Y_r9p_row R} {c2 : Y_r9p_w R} {c3 : Y_r9p_take R} (HG : ∀ f, SemOK cxP f (r9p_row_G (R := R) c0 c1 c2 c3 f)) : LoopSem cxP Try.f78.ntmps 1 (lpC (lpC (bodyOf Try.f78) 0) 0) (r9p_row_X0_0 (R := R) (r9p_row_L0_0 m c3) m) := loopA_ok C HG (by kernel_rfl) (show loopsIn (lpC (lpC (bodyOf Try.f78) 0) 0) = [] from by kernel_rfl) (.nil _) m (fun _ _ => rfl) rfl (r9p_row_S0_0_e m c0 c1 c2 c3)
def r9p_row_l0 : LpS := ⟨[(5, .any), (0, .any), (4, .fcells [(5, 5)]), (6, .fcells [(5, 5)]), (1, .any)], [], [(4, .fcells [(5, 5)])]⟩
def r9p_row_a0 := aX (aC (aL 2) <| aC (aP 0 0) <| aC (aP 1 0) <| aC (aP 2 0) <| aC (aI .i64) <| aN) (aC k7 <| aC k5 <| aC k5 <| aN)
def r9p_row_z0 := aX (aC (aP 1 0) <| aN) (aC k7 <| aC k5 <| aN)
theorem r9p_row_S0_e (m : Nat) (c0 : Y_r9p_un R) (c1 : Y_r9p_row R) (c2 : Y_r9p_w R) (c3 : Y_r9p_take R) (l0_0 : r9p_row_V0_0 R) (ρ : Kr R) (kx : Kx R) (kr : Kr R) : roundA tb (r9p_row_G c0 c1 c2 c3) 1 Try.f78 (lpC (bodyOf Try.f78) 0) [r9p_row_X0_0 l0_0 m] r9p_row_l0 r9p_row_a0 ρ kx kr = r9p_row_S0 m c1 c2 l0_0 (r9p_row_a0.w _ (pr ρ)) (r9p_row_z0.w _ (pr kr)) := by kernel_rfl
def r9p_row_X0 (l : r9p_row_V0 R) (m : Nat) : LoopH R := loopA r9p_row_l0 r9p_row_a0 fun kx kr => l (r9p_row_z0.w _ (pr kr)) m
theorem r9p_row_X0_k {m : Nat} {c0 : Y_r9p_un R} {c1 : Y_r9p_row R} {c2 : Y_r9p_w R} {c3 : Y_r9p_take R} (HG : ∀ f, SemOK cxP f (r9p_row_G (R := R) c0 c1 c2 c3 f)) : LoopSem cxP Try.f78.ntmps 1 (lpC (bodyOf Try.f78) 0) (r9p_row_X0 (R := R) (r9p_row_L0 m c1 c2 c3) m) := loopA_ok C HG (by kernel_rfl) (show loopsIn (lpC (bodyOf Try.f78) 0) = [(lpC (lpC (bodyOf Try.f78) 0) 0)] from by kernel_rfl) (.cons (r9p_row_X0_0_k HG) (.nil _)) m (fun _ _ => rfl) rfl (r9p_row_S0_e m c0 c1 c2 c3 (r9p_row_L0_0 m c3))
theorem r9p_row_e (m : Nat) (c0 : Y_r9p_un R) (c1 : Y_r9p_row R) (c2 : Y_r9p_w R) (c3 : Y_r9p_take R) (l0 : r9p_row_V0 R) : r9p_row_a.w _ (fun x κ => pFun tb (r9p_row_G (R := R) c0 c1 c2 c3) 1 [r9p_row_X0 l0 m] [some (false, 5)] Try.f78 x.1 x.2 κ) = r9p_row_h (r9p_row_F m c0 c1 l0) := by kernel_rfl
theorem r9p_row_st (m : Nat) (g : G_r9p_expr R) (hg : G_publicanref9_parser_exprOK g) : SemC cxP 78 (r9p_row_w (r9p_row_B m g)) :=
 have HG : ∀ f, SemOK cxP f (r9p_row_G (R := R) g.r9p_un g.r9p_row (r9p_w m) (r9p_take m) f) := tabG_ok (.cons hg.r9p_un (.cons hg.r9p_row (.cons (r9p_w_k m) (.cons (r9p_take_k m) .nil))))
 rawA_ok C HG (fn_of Try.func78) rfl rfl (by kernel_rfl) (show loopsIn (bodyOf Try.f78) = [(lpC (bodyOf Try.f78) 0)] from by kernel_rfl) (.cons (r9p_row_X0_k HG) (.nil _)) (r9p_row_e m g.r9p_un g.r9p_row (r9p_w m) (r9p_take m) (r9p_row_L0 m g.r9p_row (r9p_w m) (r9p_take m)))
theorem r9p_row_zz : SemC cxP 78 (r9p_row_w (R := R) fun _ _ _ => none) := rawA_z rfl
def r9p_un_G (c0 : Y_r9p_w R) (c1 : Y_r9p_take R) (c2 : Y_r9p_prim R) (c3 : Y_r9p_in R) (c4 : Y_r9p_un R) (c5 : Y_r9p_out R) : FuncId → PSem R := tabG [(46, r9p_w_s c0), (47, r9p_take_s c1), (88, r9p_prim_s c2), (69, r9p_in_s c3), (84, r9p_un_s c4), (71, r9p_out_s c5)]
theorem r9p_un_e (m : Nat) (c0 : Y_r9p_w R) (c1 : Y_r9p_take R) (c2 : Y_r9p_prim R) (c3 : Y_r9p_in R) (c4 : Y_r9p_un R) (c5 : Y_r9p_out R) : r9p_un_a.w _ (fun x κ => pFun tb (r9p_un_G (R := R) c0 c1 c2 c3 c4 c5) 1 [] [some (false, 5)] Try.f84 x.1 x.2 κ) = r9p_un_h (r9p_un_F m c0 c1 c2 c3 c4 c5) := by kernel_rfl
theorem r9p_un_st (m : Nat) (g : G_r9p_expr R) (hg : G_publicanref9_parser_exprOK g) : SemC cxP 84 (r9p_un_w (r9p_un_B m g)) :=
 have HG : ∀ f, SemOK cxP f (r9p_un_G (R := R) (r9p_w m) (r9p_take m) g.r9p_prim (r9p_in m) g.r9p_un (r9p_out m) f) := tabG_ok (.cons (r9p_w_k m) (.cons (r9p_take_k m) (.cons hg.r9p_prim (.cons (r9p_in_k m) (.cons hg.r9p_un (.cons (r9p_out_k m) .nil))))))
 rawA_ok C HG (fn_of Try.func84) rfl rfl (by kernel_rfl) (show loopsIn (bodyOf Try.f84) = [] from by kernel_rfl) (.nil _) (r9p_un_e m (r9p_w m) (r9p_take m) g.r9p_prim (r9p_in m) g.r9p_un (r9p_out m))
theorem r9p_un_zz : SemC cxP 84 (r9p_un_w (R := R) fun _ _ => none) := rawA_z rfl
def r9p_prim_G (c0 : Y_r9p_w R) (c1 : Y_r9p_islit R) (c2 : Y_r9p_lit R) (c3 : Y_r9p_take R) (c4 : Y_r9p_want R) (c5 : Y_r9p_expr R) (c6 : Y_r9p_name R) : FuncId → PSem R := tabG [(46, r9p_w_s c0), (72, r9p_islit_s c1), (54, r9p_lit_s c2), (47, r9p_take_s c3), (50, r9p_want_s c4), (51, r9p_expr_s c5), (48, r9p_name_s c6)]
def r9p_prim_l0 : LpS := ⟨[(2, .fcells [(5, 5)]), (3, .any), (0, .any), (4, .any)], [(2, .any), (0, .any), (3, .any)], [(2, .fcells [(5, 5)])]⟩
def r9p_prim_a0 := aX (aC (aP 1 0) <| aC (aI .i64) <| aC (aP 0 0) <| aC (aI .i64) <| aN) (aC k7 <| aC k5 <| aN)
def r9p_prim_x0 := aX (aC (aP 1 0) <| aC (aP 0 0) <| aC (aI .i64) <| aN) (aC k7 <| aC k5 <| aN)
def r9p_prim_z0 := aX (aC (aP 1 0) <| aN) (aC k7 <| aC k5 <| aN)
theorem r9p_prim_S0_e (m : Nat) (c0 : Y_r9p_w R) (c1 : Y_r9p_islit R) (c2 : Y_r9p_lit R) (c3 : Y_r9p_take R) (c4 : Y_r9p_want R) (c5 : Y_r9p_expr R) (c6 : Y_r9p_name R) (ρ : Kr R) (kx : Kx R) (kr : Kr R) : roundA tb (r9p_prim_G c0 c1 c2 c3 c4 c5 c6) 1 Try.f88 (lpC (bodyOf Try.f88) 0) [] r9p_prim_l0 r9p_prim_a0 ρ kx kr = r9p_prim_S0 m c3 c4 c5 (r9p_prim_a0.w _ (pr ρ)) (r9p_prim_x0.w _ (pr (kx 0))) (r9p_prim_z0.w _ (pr kr)) := by kernel_rfl
def r9p_prim_X0 (l : r9p_prim_V0 R) (m : Nat) : LoopH R := loopA r9p_prim_l0 r9p_prim_a0 fun kx kr => l (r9p_prim_x0.w _ (pr (kx 0))) (r9p_prim_z0.w _ (pr kr)) m
theorem r9p_prim_X0_k {m : Nat} {c0 : Y_r9p_w R} {c1 : Y_r9p_islit R} {c2 : Y_r9p_lit R} {c3 : Y_r9p_take R} {c4 : Y_r9p_want R} {c5 : Y_r9p_expr R} {c6 : Y_r9p_name R} (HG : ∀ f, SemOK cxP f (r9p_prim_G (R := R) c0 c1 c2 c3 c4 c5 c6 f)) : LoopSem cxP Try.f88.ntmps 1 (lpC (bodyOf Try.f88) 0) (r9p_prim_X0 (R := R) (r9p_prim_L0 m c3 c4 c5) m) := loopA_ok C HG (by kernel_rfl) (show loopsIn (lpC (bodyOf Try.f88) 0) = [] from by kernel_rfl) (.nil _) m (fun _ _ => rfl) rfl (r9p_prim_S0_e m c0 c1 c2 c3 c4 c5 c6)
theorem r9p_prim_e (m : Nat) (c0 : Y_r9p_w R) (c1 : Y_r9p_islit R) (c2 : Y_r9p_lit R) (c3 : Y_r9p_take R) (c4 : Y_r9p_want R) (c5 : Y_r9p_expr R) (c6 : Y_r9p_name R) (l0 : r9p_prim_V0 R) : r9p_prim_a.w _ (fun x κ => pFun tb (r9p_prim_G (R := R) c0 c1 c2 c3 c4 c5 c6) 1 [r9p_prim_X0 l0 m] [some (false, 5)] Try.f88 x.1 x.2 κ) = r9p_prim_h (r9p_prim_F m c0 c1 c2 c3 c4 c5 c6 l0) := by kernel_rfl
theorem r9p_prim_st (m : Nat) (g : G_r9p_expr R) (hg : G_publicanref9_parser_exprOK g) : SemC cxP 88 (r9p_prim_w (r9p_prim_B m g)) :=
 have HG : ∀ f, SemOK cxP f (r9p_prim_G (R := R) (r9p_w m) (r9p_islit m) (r9p_lit m) (r9p_take m) (r9p_want m) g.r9p_expr (r9p_name m) f) := tabG_ok (.cons (r9p_w_k m) (.cons (r9p_islit_k m) (.cons (r9p_lit_k m) (.cons (r9p_take_k m) (.cons (r9p_want_k m) (.cons hg.r9p_expr (.cons (r9p_name_k m) .nil)))))))
 rawA_ok C HG (fn_of Try.func88) rfl rfl (by kernel_rfl) (show loopsIn (bodyOf Try.f88) = [(lpC (bodyOf Try.f88) 0)] from by kernel_rfl) (.cons (r9p_prim_X0_k HG) (.nil _)) (r9p_prim_e m (r9p_w m) (r9p_islit m) (r9p_lit m) (r9p_take m) (r9p_want m) g.r9p_expr (r9p_name m) (r9p_prim_L0 m (r9p_take m) (r9p_want m) g.r9p_expr))
theorem r9p_prim_zz : SemC cxP 88 (r9p_prim_w (R := R) fun _ _ => none) := rawA_z rfl
theorem G_r9p_expr_ok : ∀ m, G_publicanref9_parser_exprOK (G_r9p_expr_r (R := R) m)
  | 0 => ⟨semOf_ok r9p_expr_zz, semOf_ok r9p_inside_zz, semOf_ok r9p_row_zz, semOf_ok r9p_un_zz, semOf_ok r9p_prim_zz⟩
  | j + 1 => ⟨semOf_ok (r9p_expr_st j _ (G_r9p_expr_ok j)), semOf_ok (r9p_inside_st j _ (G_r9p_expr_ok j)), semOf_ok (r9p_row_st j _ (G_r9p_expr_ok j)), semOf_ok (r9p_un_st j _ (G_r9p_expr_ok j)), semOf_ok (r9p_prim_st j _ (G_r9p_expr_ok j))⟩
theorem r9p_expr_k (m : Nat) : SemOK cxP 51 (r9p_expr_s (R := R) (r9p_expr m)) := (G_r9p_expr_ok m).r9p_expr
theorem r9p_inside_k (m : Nat) : SemOK cxP 70 (r9p_inside_s (R := R) (r9p_inside m)) := (G_r9p_expr_ok m).r9p_inside
theorem r9p_row_k (m : Nat) : SemOK cxP 78 (r9p_row_s (R := R) (r9p_row m)) := (G_r9p_expr_ok m).r9p_row
theorem r9p_un_k (m : Nat) : SemOK cxP 84 (r9p_un_s (R := R) (r9p_un m)) := (G_r9p_expr_ok m).r9p_un
theorem r9p_prim_k (m : Nat) : SemOK cxP 88 (r9p_prim_s (R := R) (r9p_prim m)) := (G_r9p_expr_ok m).r9p_prim
def mean_times_a := aX (aC (aI .i64) <| aC (aT 6) <| aC (aT 6) <| aN) (aN)
def mean_times_h (F : Y_mean_times R) := fun a0 a1 a2 (κ : Ko R) => F a0 a1 a2 (fun r_0 r_1 => κ (.tup [.st 6 r_0, .int .i64 r_1]) [])
def mean_times_s (F : Y_mean_times R) : PSem R := semOf [none, some (false, 6), some (false, 6)] (rawA mean_times_a (mean_times_h F))
theorem mean_times_e (m : Nat) (c0 : Y_num_Mul R) (c1 : Y_num_MulFloor R) (c2 : Y_mean_made R) : mean_times_a.w _ (fun x κ => pFun tb (tabG (R := R) [(62, num_Mul_s c0), (63, num_MulFloor_s c1), (32, mean_made_s c2)]) 0 [] [some (false, 6), none] Try.f34 x.1 x.2 κ) = mean_times_h (mean_times_F m c0 c1 c2) := by kernel_rfl
theorem mean_times_k (m : Nat) : SemOK cxP 34 (mean_times_s (R := R) (mean_times m)) := semOf_ok (raw0 C (tabG_ok (.cons (num_Mul_k m) (.cons (num_MulFloor_k m) (.cons (mean_made_k m) .nil)))) (fn_of Try.func34) rfl rfl (by kernel_rfl) (by kernel_rfl) (mean_times_e m (num_Mul m) (num_MulFloor m) (mean_made m)))
def mean_over_a := aX (aC (aI .i64) <| aC (aT 6) <| aC (aT 6) <| aN) (aN)
def mean_over_h (F : Y_mean_over R) := fun a0 a1 a2 (κ : Ko R) => F a0 a1 a2 (fun r_0 r_1 => κ (.tup [.st 6 r_0, .int .i64 r_1]) [])
def mean_over_s (F : Y_mean_over R) : PSem R := semOf [none, some (false, 6), some (false, 6)] (rawA mean_over_a (mean_over_h F))
theorem mean_over_e (m : Nat) (c0 : Y_num_Floor R) (c1 : Y_mean_made R) (c2 : Y_num_Sub R) (c3 : Y_num_MulFloor R) : mean_over_a.w _ (fun x κ => pFun tb (tabG (R := R) [(64, num_Floor_s c0), (32, mean_made_s c1), (33, num_Sub_s c2), (63, num_MulFloor_s c3)]) 0 [] [some (false, 6), none] Try.f35 x.1 x.2 κ) = mean_over_h (mean_over_F m c0 c1 c2 c3) := by kernel_rfl
theorem mean_over_k (m : Nat) : SemOK cxP 35 (mean_over_s (R := R) (mean_over m)) := semOf_ok (raw0 C (tabG_ok (.cons (num_Floor_k m) (.cons (mean_made_k m) (.cons (num_Sub_k m) (.cons (num_MulFloor_k m) .nil))))) (fn_of Try.func35) rfl rfl (by kernel_rfl) (by kernel_rfl) (mean_over_e m (num_Floor m) (mean_made m) (num_Sub m) (num_MulFloor m)))
def r9p_decl_G (c0 : Y_r9p_w R) (c1 : Y_r9p_take R) (c2 : Y_r9p_name R) (c3 : Y_r9p_kind R) (c4 : Y_r9p_want R) (c5 : Y_r9p_expr R) (c6 : Y_r9p_is R) (c7 : Y_r9p_limit R) (c8 : Y_r9p_lit R) (c9 : Y_r9p_fail R) : FuncId → PSem R := tabG [(46, r9p_w_s c0), (47, r9p_take_s c1), (48, r9p_name_s c2), (49, r9p_kind_s c3), (50, r9p_want_s c4), (51, r9p_expr_s c5), (52, r9p_is_s c6), (53, r9p_limit_s c7), (54, r9p_lit_s c8), (55, r9p_fail_s c9)]
def r9p_decl_l0 : LpS := ⟨[(2, .fcells [(5, 5)]), (4, .cells [(5, 5)]), (0, .any)], [(2, .any), (4, .any), (0, .any)], []⟩
def r9p_decl_a0 := aX (aC (aP 1 0) <| aC (aP 2 0) <| aC (aP 0 0) <| aN) (aC k7 <| aC k5 <| aC (aK (aC aS <| aC aS <| aC (aI .i64) <| aC (aI .i64) <| aC (aI .i64) <| aC (aO 3) <| aN)) <| aC (aA 5) <| aN)
def r9p_decl_x0 := aX (aC (aP 1 0) <| aC (aP 2 0) <| aC (aP 0 0) <| aN) (aC k7 <| aC k5 <| aC (aK (aC aS <| aC aS <| aC (aI .i64) <| aC (aI .i64) <| aC (aI .i64) <| aC (aO 3) <| aN)) <| aC (aA 5) <| aN)
theorem r9p_decl_S0_e (m : Nat) (c0 : Y_r9p_w R) (c1 : Y_r9p_take R) (c2 : Y_r9p_name R) (c3 : Y_r9p_kind R) (c4 : Y_r9p_want R) (c5 : Y_r9p_expr R) (c6 : Y_r9p_is R) (c7 : Y_r9p_limit R) (c8 : Y_r9p_lit R) (c9 : Y_r9p_fail R) (ρ : Kr R) (kx : Kx R) (kr : Kr R) : roundA tb (r9p_decl_G c0 c1 c2 c3 c4 c5 c6 c7 c8 c9) 1 Try.f27 (lpC (bodyOf Try.f27) 0) [] r9p_decl_l0 r9p_decl_a0 ρ kx kr = r9p_decl_S0 m c0 c4 c6 c7 c8 (r9p_decl_a0.w _ (pr ρ)) (r9p_decl_x0.w _ (pr (kx 1))) := by kernel_rfl
def r9p_decl_X0 (l : r9p_decl_V0 R) (m : Nat) : LoopH R := loopA r9p_decl_l0 r9p_decl_a0 fun kx kr => l (r9p_decl_x0.w _ (pr (kx 1))) m
theorem r9p_decl_X0_k {m : Nat} {c0 : Y_r9p_w R} {c1 : Y_r9p_take R} {c2 : Y_r9p_name R} {c3 : Y_r9p_kind R} {c4 : Y_r9p_want R} {c5 : Y_r9p_expr R} {c6 : Y_r9p_is R} {c7 : Y_r9p_limit R} {c8 : Y_r9p_lit R} {c9 : Y_r9p_fail R} (HG : ∀ f, SemOK cxP f (r9p_decl_G (R := R) c0 c1 c2 c3 c4 c5 c6 c7 c8 c9 f)) : LoopSem cxP Try.f27.ntmps 1 (lpC (bodyOf Try.f27) 0) (r9p_decl_X0 (R := R) (r9p_decl_L0 m c0 c4 c6 c7 c8) m) := loopA_ok C HG (by kernel_rfl) (show loopsIn (lpC (bodyOf Try.f27) 0) = [] from by kernel_rfl) (.nil _) m (fun _ _ => rfl) rfl (r9p_decl_S0_e m c0 c1 c2 c3 c4 c5 c6 c7 c8 c9)
def r9p_decl_a := aX (aC (aP 0 0) <| aN) (aC o7 <| aN)
def r9p_decl_h (F : Y_r9p_decl R) := fun o0 (κ : Ko R) => F o0 (fun r w0 => κ (.st 5 r) [w7 w0])
def r9p_decl_s (F : Y_r9p_decl R) : PSem R := semOf [none] (rawA r9p_decl_a (r9p_decl_h F))
theorem r9p_decl_e (m : Nat) (c0 : Y_r9p_w R) (c1 : Y_r9p_take R) (c2 : Y_r9p_name R) (c3 : Y_r9p_kind R) (c4 : Y_r9p_want R) (c5 : Y_r9p_expr R) (c6 : Y_r9p_is R) (c7 : Y_r9p_limit R) (c8 : Y_r9p_lit R) (c9 : Y_r9p_fail R) (l0 : r9p_decl_V0 R) : r9p_decl_a.w _ (fun x κ => pFun tb (r9p_decl_G (R := R) c0 c1 c2 c3 c4 c5 c6 c7 c8 c9) 1 [r9p_decl_X0 l0 m] [some (false, 5)] Try.f27 x.1 x.2 κ) = r9p_decl_h (r9p_decl_F m c0 c1 c2 c3 c4 c5 c7 c8 c9 l0) := by kernel_rfl
theorem r9p_decl_k (m : Nat) : SemOK cxP 27 (r9p_decl_s (R := R) (r9p_decl m)) :=
 have HG : ∀ f, SemOK cxP f (r9p_decl_G (R := R) (r9p_w m) (r9p_take m) (r9p_name m) (r9p_kind m) (r9p_want m) (r9p_expr m) (r9p_is m) (r9p_limit m) (r9p_lit m) (r9p_fail m) f) := tabG_ok (.cons (r9p_w_k m) (.cons (r9p_take_k m) (.cons (r9p_name_k m) (.cons (r9p_kind_k m) (.cons (r9p_want_k m) (.cons (r9p_expr_k m) (.cons (r9p_is_k m) (.cons (r9p_limit_k m) (.cons (r9p_lit_k m) (.cons (r9p_fail_k m) .nil))))))))))
 semOf_ok (rawA_ok C HG (fn_of Try.func27) rfl rfl (by kernel_rfl) (show loopsIn (bodyOf Try.f27) = [(lpC (bodyOf Try.f27) 0)] from by kernel_rfl) (.cons (r9p_decl_X0_k HG) (.nil _)) (r9p_decl_e m (r9p_w m) (r9p_take m) (r9p_name m) (r9p_kind m) (r9p_want m) (r9p_expr m) (r9p_is m) (r9p_limit m) (r9p_lit m) (r9p_fail m) (r9p_decl_L0 m (r9p_w m) (r9p_want m) (r9p_is m) (r9p_limit m) (r9p_lit m))))
def mean_Op_a := aX (aC aS <| aC (aT 6) <| aC (aT 6) <| aN) (aN)
def mean_Op_h (F : Y_mean_Op R) := fun a0 a1 a2 (κ : Ko R) => F a0 a1 a2 (fun r_0 r_1 => κ (.tup [.st 6 r_0, .int .i64 r_1]) [])
def mean_Op_s (F : Y_mean_Op R) : PSem R := semOf [none, some (false, 6), some (false, 6)] (rawA mean_Op_a (mean_Op_h F))
theorem mean_Op_e (m : Nat) (c0 : Y_mean_one R) (c1 : Y_typ_Two R) (c2 : Y_num_Add R) (c3 : Y_mean_made R) (c4 : Y_num_Sub R) (c5 : Y_mean_times R) (c6 : Y_mean_over R) (c7 : Y_mean_truth R) : mean_Op_a.w _ (fun x κ => pFun tb (tabG (R := R) [(29, mean_one_s c0), (30, typ_Two_s c1), (31, num_Add_s c2), (32, mean_made_s c3), (33, num_Sub_s c4), (34, mean_times_s c5), (35, mean_over_s c6), (36, mean_truth_s c7)]) 0 [] [some (false, 6), none] Try.f22 x.1 x.2 κ) = mean_Op_h (mean_Op_F m c0 c1 c2 c3 c4 c5 c6 c7) := by kernel_rfl
theorem mean_Op_k (m : Nat) : SemOK cxP 22 (mean_Op_s (R := R) (mean_Op m)) := semOf_ok (raw0 C (tabG_ok (.cons (mean_one_k m) (.cons (typ_Two_k m) (.cons (num_Add_k m) (.cons (mean_made_k m) (.cons (num_Sub_k m) (.cons (mean_times_k m) (.cons (mean_over_k m) (.cons (mean_truth_k m) .nil))))))))) (fn_of Try.func22) rfl rfl (by kernel_rfl) (by kernel_rfl) (mean_Op_e m (mean_one m) (typ_Two m) (num_Add m) (mean_made m) (num_Sub m) (mean_times m) (mean_over m) (mean_truth m)))
def r9_Parse_G (c0 : Y_r9_Cut R) (c1 : Y_r9p_decl R) : FuncId → PSem R := tabG [(26, r9_Cut_s c0), (27, r9p_decl_s c1)]
def r9_Parse_l0 : LpS := ⟨[(8, .cells [(5, 5)]), (7, .any), (2, .fcells [(5, 5)])], [(2, .any), (7, .any), (8, .any)], []⟩
def r9_Parse_a0 := aX (aC (aP 0 0) <| aC (aP 1 0) <| aC (aP 2 0) <| aN) (aC (aK (aC aS <| aC aS <| aC (aI .i64) <| aC (aI .i64) <| aC (aI .i64) <| aC (aO 3) <| aN)) <| aC k7 <| aC k5 <| aC (aA 5) <| aN)
def r9_Parse_x0 := aX (aC (aP 0 0) <| aC (aP 1 0) <| aC (aP 2 0) <| aN) (aC k5 <| aC k7 <| aC (aK (aC aS <| aC aS <| aC (aI .i64) <| aC (aI .i64) <| aC (aI .i64) <| aC (aO 3) <| aN)) <| aC (aA 5) <| aN)
theorem r9_Parse_S0_e (m : Nat) (c0 : Y_r9_Cut R) (c1 : Y_r9p_decl R) (ρ : Kr R) (kx : Kx R) (kr : Kr R) : roundA tb (r9_Parse_G c0 c1) 0 Try.f14 (lpC (bodyOf Try.f14) 0) [] r9_Parse_l0 r9_Parse_a0 ρ kx kr = r9_Parse_S0 m c1 (r9_Parse_a0.w _ (pr ρ)) (r9_Parse_x0.w _ (pr (kx 0))) := by kernel_rfl
def r9_Parse_X0 (l : r9_Parse_V0 R) (m : Nat) : LoopH R := loopA r9_Parse_l0 r9_Parse_a0 fun kx kr => l (r9_Parse_x0.w _ (pr (kx 0))) m
theorem r9_Parse_X0_k {m : Nat} {c0 : Y_r9_Cut R} {c1 : Y_r9p_decl R} (HG : ∀ f, SemOK cxP f (r9_Parse_G (R := R) c0 c1 f)) : LoopSem cxP Try.f14.ntmps 0 (lpC (bodyOf Try.f14) 0) (r9_Parse_X0 (R := R) (r9_Parse_L0 m c1) m) := loopA_ok C HG (by kernel_rfl) (show loopsIn (lpC (bodyOf Try.f14) 0) = [] from by kernel_rfl) (.nil _) m (fun _ _ => rfl) rfl (r9_Parse_S0_e m c0 c1)
def r9_Parse_a := aX (aC aS <| aN) (aN)
def r9_Parse_h (F : Y_r9_Parse R) := fun a0 (κ : Ko R) => F a0 (fun r_0 r_1 r_2 => κ (.tup [.st 5 r_0, .int .i64 r_1, .bool r_2]) [])
def r9_Parse_s (F : Y_r9_Parse R) : PSem R := semOf [none] (rawA r9_Parse_a (r9_Parse_h F))
theorem r9_Parse_e (m : Nat) (c0 : Y_r9_Cut R) (c1 : Y_r9p_decl R) (l0 : r9_Parse_V0 R) : r9_Parse_a.w _ (fun x κ => pFun tb (r9_Parse_G (R := R) c0 c1) 0 [r9_Parse_X0 l0 m] [some (false, 5), none, none] Try.f14 x.1 x.2 κ) = r9_Parse_h (r9_Parse_F m c0 l0) := by kernel_rfl
theorem r9_Parse_k (m : Nat) : SemOK cxP 14 (r9_Parse_s (R := R) (r9_Parse m)) :=
 have HG : ∀ f, SemOK cxP f (r9_Parse_G (R := R) (r9_Cut m) (r9p_decl m) f) := tabG_ok (.cons (r9_Cut_k m) (.cons (r9p_decl_k m) .nil))
 semOf_ok (rawA_ok C HG (fn_of Try.func14) rfl rfl (by kernel_rfl) (show loopsIn (bodyOf Try.f14) = [(lpC (bodyOf Try.f14) 0)] from by kernel_rfl) (.cons (r9_Parse_X0_k HG) (.nil _)) (r9_Parse_e m (r9_Cut m) (r9p_decl m) (r9_Parse_L0 m (r9p_decl m))))
def r17_Read_a := aX (aC aS <| aN) (aN)
def r17_Read_h (F : Y_r17_Read R) := fun a0 (κ : Ko R) => F a0 (fun r_0 r_1 r_2 => κ (.tup [.st 4 r_0, .st 5 r_1, .bool r_2]) [])
def r17_Read_s (F : Y_r17_Read R) : PSem R := semOf [none] (rawA r17_Read_a (r17_Read_h F))
theorem r17_Read_e (m : Nat) (c0 : Y_r9_Parse R) (c1 : Y_r17_Back R) : r17_Read_a.w _ (fun x κ => pFun tb (tabG (R := R) [(14, r9_Parse_s c0), (15, r17_Back_s c1)]) 0 [] [some (false, 4), some (false, 5), none] Try.f6 x.1 x.2 κ) = r17_Read_h (r17_Read_F m c0 c1) := by kernel_rfl
theorem r17_Read_k (m : Nat) : SemOK cxP 6 (r17_Read_s (R := R) (r17_Read m)) := semOf_ok (raw0 C (tabG_ok (.cons (r9_Parse_k m) (.cons (r17_Back_k m) .nil))) (fn_of Try.func6) rfl rfl (by kernel_rfl) (by kernel_rfl) (r17_Read_e m (r9_Parse m) (r17_Back m)))
def fold_Expr_a := aX (aC (aT 4) <| aN) (aN)
def fold_Expr_h (F : Y_fold_Expr R) := fun a0 (κ : Ko R) => F a0 (fun r => κ (.st 4 r) [])
def fold_Expr_w (F : Y_fold_Expr R) : PSem R := rawA fold_Expr_a (fold_Expr_h F)
def fold_Expr_s (F : Y_fold_Expr R) : PSem R := semOf [some (false, 4)] (fold_Expr_w F)
structure G_fold_ExprOK (g : G_fold_Expr R) : Prop where
  fold_Expr : SemOK cxP 10 (fold_Expr_s g.fold_Expr)
def fold_Expr_G (c0 : Y_fold_Expr R) (c1 : Y_fold_reckoned R) (c2 : Y_slices_ContainsF R) (c3 : Y_fold_value R) (c4 : Y_mean_Op R) (c5 : Y_fold_literal R) : FuncId → PSem R := tabG [(10, fold_Expr_s c0), (18, fold_reckoned_s c1), (19, slices_ContainsF_s c2), (21, fold_value_s c3), (22, mean_Op_s c4), (23, fold_literal_s c5)]
def fold_Expr_l0 : LpS := ⟨[(13, .any), (3, .arr 4), (11, .any), (2, .fcells [(5, 4)]), (1, .fcells [(5, 4)]), (12, .any)], [(2, .any), (1, .any), (3, .any)], []⟩
def fold_Expr_a0 := aX (aC (aI .i64) <| aC (aO 0) <| aC (aL 4) <| aC (aP 1 0) <| aC (aP 2 0) <| aC (aI .i64) <| aN) (aC (aA 4) <| aC k4 <| aC k4 <| aN)
def fold_Expr_x0 := aX (aC (aP 0 0) <| aC (aP 1 0) <| aC (aO 2) <| aN) (aC k4 <| aC k4 <| aC (aA 4) <| aN)
theorem fold_Expr_S0_e (m : Nat) (c0 : Y_fold_Expr R) (c1 : Y_fold_reckoned R) (c2 : Y_slices_ContainsF R) (c3 : Y_fold_value R) (c4 : Y_mean_Op R) (c5 : Y_fold_literal R) (ρ : Kr R) (kx : Kx R) (kr : Kr R) : roundA tb (fold_Expr_G c0 c1 c2 c3 c4 c5) 0 Try.f10 (lpC (bodyOf Try.f10) 0) [] fold_Expr_l0 fold_Expr_a0 ρ kx kr = fold_Expr_S0 m c0 (fold_Expr_a0.w _ (pr ρ)) (fold_Expr_x0.w _ (pr (kx 0))) := by kernel_rfl
def fold_Expr_X0 (l : fold_Expr_V0 R) (m : Nat) : LoopH R := loopA fold_Expr_l0 fold_Expr_a0 fun kx kr => l (fold_Expr_x0.w _ (pr (kx 0))) m
theorem fold_Expr_X0_k {m : Nat} {c0 : Y_fold_Expr R} {c1 : Y_fold_reckoned R} {c2 : Y_slices_ContainsF R} {c3 : Y_fold_value R} {c4 : Y_mean_Op R} {c5 : Y_fold_literal R} (HG : ∀ f, SemOK cxP f (fold_Expr_G (R := R) c0 c1 c2 c3 c4 c5 f)) : LoopSem cxP Try.f10.ntmps 0 (lpC (bodyOf Try.f10) 0) (fold_Expr_X0 (R := R) (fold_Expr_L0 m c0) m) := loopA_ok C HG (by kernel_rfl) (show loopsIn (lpC (bodyOf Try.f10) 0) = [] from by kernel_rfl) (.nil _) m (fun _ _ => rfl) rfl (fold_Expr_S0_e m c0 c1 c2 c3 c4 c5)
theorem fold_Expr_e (m : Nat) (c0 : Y_fold_Expr R) (c1 : Y_fold_reckoned R) (c2 : Y_slices_ContainsF R) (c3 : Y_fold_value R) (c4 : Y_mean_Op R) (c5 : Y_fold_literal R) (l0 : fold_Expr_V0 R) : fold_Expr_a.w _ (fun x κ => pFun tb (fold_Expr_G (R := R) c0 c1 c2 c3 c4 c5) 0 [fold_Expr_X0 l0 m] [some (false, 4)] Try.f10 x.1 x.2 κ) = fold_Expr_h (fold_Expr_F m c1 c2 c3 c4 c5 l0) := by kernel_rfl
theorem fold_Expr_st (m : Nat) (g : G_fold_Expr R) (hg : G_fold_ExprOK g) : SemC cxP 10 (fold_Expr_w (fold_Expr_B m g)) :=
 have HG : ∀ f, SemOK cxP f (fold_Expr_G (R := R) g.fold_Expr (fold_reckoned m) (slices_ContainsF m) (fold_value m) (mean_Op m) (fold_literal m) f) := tabG_ok (.cons hg.fold_Expr (.cons (fold_reckoned_k m) (.cons (slices_ContainsF_k m) (.cons (fold_value_k m) (.cons (mean_Op_k m) (.cons (fold_literal_k m) .nil))))))
 rawA_ok C HG (fn_of Try.func10) rfl rfl (by kernel_rfl) (show loopsIn (bodyOf Try.f10) = [(lpC (bodyOf Try.f10) 0)] from by kernel_rfl) (.cons (fold_Expr_X0_k HG) (.nil _)) (fold_Expr_e m g.fold_Expr (fold_reckoned m) (slices_ContainsF m) (fold_value m) (mean_Op m) (fold_literal m) (fold_Expr_L0 m g.fold_Expr))
theorem fold_Expr_zz : SemC cxP 10 (fold_Expr_w (R := R) fun _ _ => none) := rawA_z rfl
theorem G_fold_Expr_ok : ∀ m, G_fold_ExprOK (G_fold_Expr_r (R := R) m)
  | 0 => ⟨semOf_ok fold_Expr_zz⟩
  | j + 1 => ⟨semOf_ok (fold_Expr_st j _ (G_fold_Expr_ok j))⟩
theorem fold_Expr_k (m : Nat) : SemOK cxP 10 (fold_Expr_s (R := R) (fold_Expr m)) := (G_fold_Expr_ok m).fold_Expr
def fold_Fold_G (c0 : Y_slices_Clone___p R) (c1 : Y_fold_Expr R) : FuncId → PSem R := tabG [(16, slices_Clone___p_s c0), (10, fold_Expr_s c1)]
def fold_Fold_l0 : LpS := ⟨[(12, .any), (1, .any), (10, .any), (2, .fcells [(5, 4)]), (11, .any)], [(2, .any), (1, .any)], []⟩
def fold_Fold_a0 := aX (aC (aI .i64) <| aC (aP 0 0) <| aC (aO 1) <| aC (aP 2 0) <| aC (aI .i64) <| aN) (aC (aK (aC aS <| aC aS <| aC (aI .i64) <| aC (aI .i64) <| aC (aI .i64) <| aC (aO 1) <| aN)) <| aC (aA 4) <| aC k4 <| aN)
def fold_Fold_x0 := aX (aC (aP 0 0) <| aC (aP 1 0) <| aN) (aC k4 <| aC (aK (aC aS <| aC aS <| aC (aI .i64) <| aC (aI .i64) <| aC (aI .i64) <| aC (aO 2) <| aN)) <| aC (aA 4) <| aN)
theorem fold_Fold_S0_e (m : Nat) (c0 : Y_slices_Clone___p R) (c1 : Y_fold_Expr R) (ρ : Kr R) (kx : Kx R) (kr : Kr R) : roundA tb (fold_Fold_G c0 c1) 0 Try.f7 (lpC (bodyOf Try.f7) 0) [] fold_Fold_l0 fold_Fold_a0 ρ kx kr = fold_Fold_S0 m c1 (fold_Fold_a0.w _ (pr ρ)) (fold_Fold_x0.w _ (pr (kx 0))) := by kernel_rfl
def fold_Fold_X0 (l : fold_Fold_V0 R) (m : Nat) : LoopH R := loopA fold_Fold_l0 fold_Fold_a0 fun kx kr => l (fold_Fold_x0.w _ (pr (kx 0))) m
theorem fold_Fold_X0_k {m : Nat} {c0 : Y_slices_Clone___p R} {c1 : Y_fold_Expr R} (HG : ∀ f, SemOK cxP f (fold_Fold_G (R := R) c0 c1 f)) : LoopSem cxP Try.f7.ntmps 0 (lpC (bodyOf Try.f7) 0) (fold_Fold_X0 (R := R) (fold_Fold_L0 m c1) m) := loopA_ok C HG (by kernel_rfl) (show loopsIn (lpC (bodyOf Try.f7) 0) = [] from by kernel_rfl) (.nil _) m (fun _ _ => rfl) rfl (fold_Fold_S0_e m c0 c1)
def fold_Fold_a := aX (aC (aT 4) <| aN) (aN)
def fold_Fold_h (F : Y_fold_Fold R) := fun a0 (κ : Ko R) => F a0 (fun r => κ (.st 4 r) [])
def fold_Fold_s (F : Y_fold_Fold R) : PSem R := semOf [some (false, 4)] (rawA fold_Fold_a (fold_Fold_h F))
theorem fold_Fold_e (m : Nat) (c0 : Y_slices_Clone___p R) (c1 : Y_fold_Expr R) (l0 : fold_Fold_V0 R) : fold_Fold_a.w _ (fun x κ => pFun tb (fold_Fold_G (R := R) c0 c1) 0 [fold_Fold_X0 l0 m] [some (false, 4)] Try.f7 x.1 x.2 κ) = fold_Fold_h (fold_Fold_F m l0) := by kernel_rfl
theorem fold_Fold_k (m : Nat) : SemOK cxP 7 (fold_Fold_s (R := R) (fold_Fold m)) :=
 have HG : ∀ f, SemOK cxP f (fold_Fold_G (R := R) (slices_Clone___p m) (fold_Expr m) f) := tabG_ok (.cons (slices_Clone___p_k m) (.cons (fold_Expr_k m) .nil))
 semOf_ok (rawA_ok C HG (fn_of Try.func7) rfl rfl (by kernel_rfl) (show loopsIn (bodyOf Try.f7) = [(lpC (bodyOf Try.f7) 0)] from by kernel_rfl) (.cons (fold_Fold_X0_k HG) (.nil _)) (fold_Fold_e m (slices_Clone___p m) (fold_Expr m) (fold_Fold_L0 m (fold_Expr m))))
def L15_awake_a := aX (aN) (aN)
def L15_awake_h (F : Y_L15_awake R) := fun (κ : Ko R) => F (fun r => κ (.bool r) [])
def L15_awake_s (F : Y_L15_awake R) : PSem R := semOf [] (rawA L15_awake_a (L15_awake_h F))
theorem L15_awake_e (m : Nat) (c0 : Y_r17_Read R) (c1 : Y_fold_Fold R) (c2 : Y_fold_Size R) (c3 : Y_fold_Expr R) (c4 : Y_syn_Same R) : L15_awake_a.w _ (fun x κ => pFun tb (tabG (R := R) [(6, r17_Read_s c0), (7, fold_Fold_s c1), (9, fold_Size_s c2), (10, fold_Expr_s c3), (8, syn_Same_s c4)]) 0 [] [none] Try.f4 x.1 x.2 κ) = L15_awake_h (L15_awake_F m c0 c1 c2 c3 c4) := by kernel_rfl
theorem L15_awake_k (m : Nat) : SemOK cxP 4 (L15_awake_s (R := R) (L15_awake m)) := semOf_ok (raw0 C (tabG_ok (.cons (r17_Read_k m) (.cons (fold_Fold_k m) (.cons (fold_Size_k m) (.cons (fold_Expr_k m) (.cons (syn_Same_k m) .nil)))))) (fn_of Try.func4) rfl rfl (by kernel_rfl) (by kernel_rfl) (L15_awake_e m (r17_Read m) (fold_Fold m) (fold_Size m) (fold_Expr m) (syn_Same m)))
def L15_FoldLits_a := aX (aC (aI .i64) <| aC (aI .i64) <| aC (aI .i64) <| aN) (aN)
def L15_FoldLits_h (F : Y_L15_FoldLits R) := fun a0 a1 a2 (κ : Ko R) => F a0 a1 a2 (fun r => κ (.bool r) [])
def L15_FoldLits_s (F : Y_L15_FoldLits R) : PSem R := semOf [none, none, none] (rawA L15_FoldLits_a (L15_FoldLits_h F))
theorem L15_FoldLits_e (m : Nat) (c0 : Y_L15_awake R) (c1 : Y_r9_Lit R) (c2 : Y_r17_Read R) (c3 : Y_fold_Fold R) (c4 : Y_syn_Same R) (c5 : Y_fold_Size R) : L15_FoldLits_a.w _ (fun x κ => pFun tb (tabG (R := R) [(4, L15_awake_s c0), (5, r9_Lit_s c1), (6, r17_Read_s c2), (7, fold_Fold_s c3), (8, syn_Same_s c4), (9, fold_Size_s c5)]) 0 [] [none] Try.f3 x.1 x.2 κ) = L15_FoldLits_h (L15_FoldLits_F m c0 c1 c2 c3 c4 c5) := by kernel_rfl
theorem L15_FoldLits_k (m : Nat) : SemOK cxP 3 (L15_FoldLits_s (R := R) (L15_FoldLits m)) := semOf_ok (raw0 C (tabG_ok (.cons (L15_awake_k m) (.cons (r9_Lit_k m) (.cons (r17_Read_k m) (.cons (fold_Fold_k m) (.cons (syn_Same_k m) (.cons (fold_Size_k m) .nil))))))) (fn_of Try.func3) rfl rfl (by kernel_rfl) (by kernel_rfl) (L15_FoldLits_e m (L15_awake m) (r9_Lit m) (r17_Read m) (fold_Fold m) (syn_Same m) (fold_Size m)))
end
end Go.Pm
