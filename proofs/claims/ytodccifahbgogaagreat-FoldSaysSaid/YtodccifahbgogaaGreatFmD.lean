/- The interpreter over data answers as the plain functions say. -/
import Derived.Test.YtodccifahbgogaaGreatFmC
set_option linter.unusedVariables false
set_option linter.unusedSectionVars false
set_option linter.unusedSimpArgs false
namespace Go.Pm
open Go Go.EvM Go.Pv Go.Proofs
set_option maxRecDepth 100000
set_option linter.unusedVariables false
set_option linter.unusedSectionVars false
noncomputable section
variable {R : Type}
def r9p_un_G (c0 : Y_r9p_w R) (c1 : Y_r9p_take R) (c2 : Y_r9p_prim R) (c3 : Y_r9p_in R) (c4 : Y_r9p_un R) (c5 : Y_r9p_out R) : FuncId → PSem R := tabG [(153, r9p_w_s c0), (154, r9p_take_s c1), (227, r9p_prim_s c2), (183, r9p_in_s c3), (223, r9p_un_s c4), (185, r9p_out_s c5)]
theorem r9p_un_e (m : Nat) (c0 : Y_r9p_w R) (c1 : Y_r9p_take R) (c2 : Y_r9p_prim R) (c3 : Y_r9p_in R) (c4 : Y_r9p_un R) (c5 : Y_r9p_out R) : r9p_un_a.w _ (fun x κ => pFun tb (r9p_un_G (R := R) c0 c1 c2 c3 c4 c5) 1 [] [some (false, 4)] Tryz.f223 x.1 x.2 κ) = r9p_un_h (r9p_un_F m c0 c1 c2 c3 c4 c5) := by kernel_rfl
theorem r9p_un_st (m : Nat) (g : G_r9p_expr R) (hg : G_publicanref9_parser_exprOK g) : SemC cxP 223 (r9p_un_w (r9p_un_B m g)) :=
 have HG : ∀ f, SemOK cxP f (r9p_un_G (R := R) (r9p_w m) (r9p_take m) g.r9p_prim (r9p_in m) g.r9p_un (r9p_out m) f) := tabG_ok (.cons (r9p_w_k m) (.cons (r9p_take_k m) (.cons hg.r9p_prim (.cons (r9p_in_k m) (.cons hg.r9p_un (.cons (r9p_out_k m) .nil))))))
 rawA_ok C HG (fn_of Tryz.func223) rfl rfl (by kernel_rfl) (show loopsIn (bodyOf Tryz.f223) = [] from by kernel_rfl) (.nil _) (r9p_un_e m (r9p_w m) (r9p_take m) g.r9p_prim (r9p_in m) g.r9p_un (r9p_out m))
theorem r9p_un_zz : SemC cxP 223 (r9p_un_w (R := R) fun _ _ => none) := rawA_z rfl
def r9p_prim_G (c0 : Y_r9p_w R) (c1 : Y_r9p_islit R) (c2 : Y_r9p_lit R) (c3 : Y_r9p_take R) (c4 : Y_r9p_want R) (c5 : Y_r9p_expr R) (c6 : Y_r9p_name R) : FuncId → PSem R := tabG [(153, r9p_w_s c0), (186, r9p_islit_s c1), (161, r9p_lit_s c2), (154, r9p_take_s c3), (157, r9p_want_s c4), (158, r9p_expr_s c5), (155, r9p_name_s c6)]
def r9p_prim_l0 : LpS := ⟨[(2, .fcells [(5, 4)]), (3, .any), (0, .any), (4, .any)], [(2, .any), (0, .any), (3, .any)], [(2, .fcells [(5, 4)])]⟩
def r9p_prim_a0 := aX (aC (aP 1 0) <| aC (aI .i64) <| aC (aP 0 0) <| aC (aI .i64) <| aN) (aC k9 <| aC k4 <| aN)
def r9p_prim_x0 := aX (aC (aP 1 0) <| aC (aP 0 0) <| aC (aI .i64) <| aN) (aC k9 <| aC k4 <| aN)
def r9p_prim_z0 := aX (aC (aP 1 0) <| aN) (aC k9 <| aC k4 <| aN)
theorem r9p_prim_S0_e (m : Nat) (c0 : Y_r9p_w R) (c1 : Y_r9p_islit R) (c2 : Y_r9p_lit R) (c3 : Y_r9p_take R) (c4 : Y_r9p_want R) (c5 : Y_r9p_expr R) (c6 : Y_r9p_name R) (ρ : Kr R) (kx : Kx R) (kr : Kr R) : roundA tb (r9p_prim_G c0 c1 c2 c3 c4 c5 c6) 1 Tryz.f227 (lpC (bodyOf Tryz.f227) 0) [] r9p_prim_l0 r9p_prim_a0 ρ kx kr = r9p_prim_S0 m c3 c4 c5 (r9p_prim_a0.w _ (pr ρ)) (r9p_prim_x0.w _ (pr (kx 0))) (r9p_prim_z0.w _ (pr kr)) := by kernel_rfl
def r9p_prim_X0 (l : r9p_prim_V0 R) (m : Nat) : LoopH R := loopA r9p_prim_l0 r9p_prim_a0 fun kx kr => l (r9p_prim_x0.w _ (pr (kx 0))) (r9p_prim_z0.w _ (pr kr)) m
theorem r9p_prim_X0_k {m : Nat} {c0 : Y_r9p_w R} {c1 : Y_r9p_islit R} {c2 : Y_r9p_lit R} {c3 : Y_r9p_take R} {c4 : Y_r9p_want R} {c5 : Y_r9p_expr R} {c6 : Y_r9p_name R} (HG : ∀ f, SemOK cxP f (r9p_prim_G (R := R) c0 c1 c2 c3 c4 c5 c6 f)) : LoopSem cxP Tryz.f227.ntmps 1 (lpC (bodyOf Tryz.f227) 0) (r9p_prim_X0 (R := R) (r9p_prim_L0 m c3 c4 c5) m) := loopA_ok C HG (by kernel_rfl) (show loopsIn (lpC (bodyOf Tryz.f227) 0) = [] from by kernel_rfl) (.nil _) m (fun _ _ => rfl) rfl (r9p_prim_S0_e m c0 c1 c2 c3 c4 c5 c6)
theorem r9p_prim_e (m : Nat) (c0 : Y_r9p_w R) (c1 : Y_r9p_islit R) (c2 : Y_r9p_lit R) (c3 : Y_r9p_take R) (c4 : Y_r9p_want R) (c5 : Y_r9p_expr R) (c6 : Y_r9p_name R) (l0 : r9p_prim_V0 R) : r9p_prim_a.w _ (fun x κ => pFun tb (r9p_prim_G (R := R) c0 c1 c2 c3 c4 c5 c6) 1 [r9p_prim_X0 l0 m] [some (false, 4)] Tryz.f227 x.1 x.2 κ) = r9p_prim_h (r9p_prim_F m c0 c1 c2 c3 c4 c5 c6 l0) := by kernel_rfl
theorem r9p_prim_st (m : Nat) (g : G_r9p_expr R) (hg : G_publicanref9_parser_exprOK g) : SemC cxP 227 (r9p_prim_w (r9p_prim_B m g)) :=
 have HG : ∀ f, SemOK cxP f (r9p_prim_G (R := R) (r9p_w m) (r9p_islit m) (r9p_lit m) (r9p_take m) (r9p_want m) g.r9p_expr (r9p_name m) f) := tabG_ok (.cons (r9p_w_k m) (.cons (r9p_islit_k m) (.cons (r9p_lit_k m) (.cons (r9p_take_k m) (.cons (r9p_want_k m) (.cons hg.r9p_expr (.cons (r9p_name_k m) .nil)))))))
 rawA_ok C HG (fn_of Tryz.func227) rfl rfl (by kernel_rfl) (show loopsIn (bodyOf Tryz.f227) = [(lpC (bodyOf Tryz.f227) 0)] from by kernel_rfl) (.cons (r9p_prim_X0_k HG) (.nil _)) (r9p_prim_e m (r9p_w m) (r9p_islit m) (r9p_lit m) (r9p_take m) (r9p_want m) g.r9p_expr (r9p_name m) (r9p_prim_L0 m (r9p_take m) (r9p_want m) g.r9p_expr))
theorem r9p_prim_zz : SemC cxP 227 (r9p_prim_w (R := R) fun _ _ => none) := rawA_z rfl
theorem G_r9p_expr_ok : ∀ m, G_publicanref9_parser_exprOK (G_r9p_expr_r (R := R) m)
  | 0 => ⟨semOf_ok r9p_expr_zz, semOf_ok r9p_inside_zz, semOf_ok r9p_row_zz, semOf_ok r9p_un_zz, semOf_ok r9p_prim_zz⟩
  | j + 1 => ⟨semOf_ok (r9p_expr_st j _ (G_r9p_expr_ok j)), semOf_ok (r9p_inside_st j _ (G_r9p_expr_ok j)), semOf_ok (r9p_row_st j _ (G_r9p_expr_ok j)), semOf_ok (r9p_un_st j _ (G_r9p_expr_ok j)), semOf_ok (r9p_prim_st j _ (G_r9p_expr_ok j))⟩
theorem r9p_expr_k (m : Nat) : SemOK cxP 158 (r9p_expr_s (R := R) (r9p_expr m)) := (G_r9p_expr_ok m).r9p_expr
theorem r9p_inside_k (m : Nat) : SemOK cxP 184 (r9p_inside_s (R := R) (r9p_inside m)) := (G_r9p_expr_ok m).r9p_inside
theorem r9p_row_k (m : Nat) : SemOK cxP 209 (r9p_row_s (R := R) (r9p_row m)) := (G_r9p_expr_ok m).r9p_row
theorem r9p_un_k (m : Nat) : SemOK cxP 223 (r9p_un_s (R := R) (r9p_un m)) := (G_r9p_expr_ok m).r9p_un
theorem r9p_prim_k (m : Nat) : SemOK cxP 227 (r9p_prim_s (R := R) (r9p_prim m)) := (G_r9p_expr_ok m).r9p_prim
def r11_Op_a := aX (aC aS <| aC (aT 6) <| aC (aT 6) <| aN) (aN)
def r11_Op_h (F : Y_r11_Op R) := fun a0 a1 a2 (κ : Ko R) => F a0 a1 a2 (fun r_0 r_1 => κ (.tup [.st 6 r_0, .int .i64 r_1]) [])
def r11_Op_s (F : Y_r11_Op R) : PSem R := semOf [none, some (false, 6), some (false, 6)] (rawA r11_Op_a (r11_Op_h F))
theorem r11_Op_e (m : Nat) (c0 : Y_r11_Unary R) (c1 : Y_r11_truth R) (c2 : Y_r1_Of R) (c3 : Y_r1_Minus R) (c4 : Y_r11_fitted R) (c5 : Y_r11_Binary R) (c6 : Y_r1_Add R) (c7 : Y_r1_Mul R) (c8 : Y_r1_Floor R) : r11_Op_a.w _ (fun x κ => pFun tb (tabG (R := R) [(95, r11_Unary_s c0), (96, r11_truth_s c1), (99, r1_Of_s c2), (98, r1_Minus_s c3), (97, r11_fitted_s c4), (100, r11_Binary_s c5), (101, r1_Add_s c6), (102, r1_Mul_s c7), (103, r1_Floor_s c8)]) 0 [] [some (false, 6), none] Tryz.f41 x.1 x.2 κ) = r11_Op_h (r11_Op_F m c0 c1 c2 c3 c4 c5 c6 c7 c8) := by kernel_rfl
theorem r11_Op_k (m : Nat) : SemOK cxP 41 (r11_Op_s (R := R) (r11_Op m)) := semOf_ok (raw0 C (tabG_ok (.cons (r11_Unary_k m) (.cons (r11_truth_k m) (.cons (r1_Of_k m) (.cons (r1_Minus_k m) (.cons (r11_fitted_k m) (.cons (r11_Binary_k m) (.cons (r1_Add_k m) (.cons (r1_Mul_k m) (.cons (r1_Floor_k m) .nil)))))))))) (fn_of Tryz.func41) rfl rfl (by kernel_rfl) (by kernel_rfl) (r11_Op_e m (r11_Unary m) (r11_truth m) (r1_Of m) (r1_Minus m) (r11_fitted m) (r11_Binary m) (r1_Add m) (r1_Mul m) (r1_Floor m)))
def mean_times_a := aX (aC (aI .i64) <| aC (aT 6) <| aC (aT 6) <| aN) (aN)
def mean_times_h (F : Y_mean_times R) := fun a0 a1 a2 (κ : Ko R) => F a0 a1 a2 (fun r_0 r_1 => κ (.tup [.st 6 r_0, .int .i64 r_1]) [])
def mean_times_s (F : Y_mean_times R) : PSem R := semOf [none, some (false, 6), some (false, 6)] (rawA mean_times_a (mean_times_h F))
theorem mean_times_e (m : Nat) (c0 : Y_num_Mul R) (c1 : Y_num_MulFloor R) (c2 : Y_mean_made R) : mean_times_a.w _ (fun x κ => pFun tb (tabG (R := R) [(138, num_Mul_s c0), (139, num_MulFloor_s c1), (90, mean_made_s c2)]) 0 [] [some (false, 6), none] Tryz.f92 x.1 x.2 κ) = mean_times_h (mean_times_F m c0 c1 c2) := by kernel_rfl
theorem mean_times_k (m : Nat) : SemOK cxP 92 (mean_times_s (R := R) (mean_times m)) := semOf_ok (raw0 C (tabG_ok (.cons (num_Mul_k m) (.cons (num_MulFloor_k m) (.cons (mean_made_k m) .nil)))) (fn_of Tryz.func92) rfl rfl (by kernel_rfl) (by kernel_rfl) (mean_times_e m (num_Mul m) (num_MulFloor m) (mean_made m)))
def r11_Expr_a := aX (aC (aT 4) <| aN) (aN)
def r11_Expr_h (F : Y_r11_Expr R) := fun a0 (κ : Ko R) => F a0 (fun r => κ (.st 4 r) [])
def r11_Expr_w (F : Y_r11_Expr R) : PSem R := rawA r11_Expr_a (r11_Expr_h F)
def r11_Expr_s (F : Y_r11_Expr R) : PSem R := semOf [some (false, 4)] (r11_Expr_w F)
structure G_publicanref11_ExprOK (g : G_r11_Expr R) : Prop where
  r11_Expr : SemOK cxP 50 (r11_Expr_s g.r11_Expr)
def r11_Expr_G (c0 : Y_r11_Expr R) (c1 : Y_r11_Op R) : FuncId → PSem R := tabG [(50, r11_Expr_s c0), (41, r11_Op_s c1)]
def r11_Expr_l0 : LpS := ⟨[(5, .any), (4, .any), (3, .cells [(5, 4)]), (1, .fcells [(5, 4)]), (2, .fcells [(5, 4)])], [(2, .any), (3, .any), (1, .any), (4, .any)], []⟩
def r11_Expr_a0 := aX (aC (aI .i64) <| aC aB <| aC (aP 0 0) <| aC (aP 1 0) <| aC (aP 2 0) <| aN) (aC (aK (aC aS <| aC aS <| aC (aI .i64) <| aC (aI .i64) <| aC (aI .i64) <| aC (aO 3) <| aN)) <| aC k4 <| aC k4 <| aC (aA 4) <| aN)
def r11_Expr_x0 := aX (aC (aP 0 0) <| aC (aP 1 0) <| aC (aP 2 0) <| aC aB <| aN) (aC k4 <| aC (aK (aC aS <| aC aS <| aC (aI .i64) <| aC (aI .i64) <| aC (aI .i64) <| aC (aO 3) <| aN)) <| aC k4 <| aC (aA 4) <| aN)
theorem r11_Expr_S0_e (m : Nat) (c0 : Y_r11_Expr R) (c1 : Y_r11_Op R) (ρ : Kr R) (kx : Kx R) (kr : Kr R) : roundA tb (r11_Expr_G c0 c1) 0 Tryz.f50 (lpC (bodyOf Tryz.f50) 0) [] r11_Expr_l0 r11_Expr_a0 ρ kx kr = r11_Expr_S0 m c0 (r11_Expr_a0.w _ (pr ρ)) (r11_Expr_x0.w _ (pr (kx 0))) := by kernel_rfl
def r11_Expr_X0 (l : r11_Expr_V0 R) (m : Nat) : LoopH R := loopA r11_Expr_l0 r11_Expr_a0 fun kx kr => l (r11_Expr_x0.w _ (pr (kx 0))) m
theorem r11_Expr_X0_k {m : Nat} {c0 : Y_r11_Expr R} {c1 : Y_r11_Op R} (HG : ∀ f, SemOK cxP f (r11_Expr_G (R := R) c0 c1 f)) : LoopSem cxP Tryz.f50.ntmps 0 (lpC (bodyOf Tryz.f50) 0) (r11_Expr_X0 (R := R) (r11_Expr_L0 m c0) m) := loopA_ok C HG (by kernel_rfl) (show loopsIn (lpC (bodyOf Tryz.f50) 0) = [] from by kernel_rfl) (.nil _) m (fun _ _ => rfl) rfl (r11_Expr_S0_e m c0 c1)
theorem r11_Expr_e (m : Nat) (c0 : Y_r11_Expr R) (c1 : Y_r11_Op R) (l0 : r11_Expr_V0 R) : r11_Expr_a.w _ (fun x κ => pFun tb (r11_Expr_G (R := R) c0 c1) 0 [r11_Expr_X0 l0 m] [some (false, 4)] Tryz.f50 x.1 x.2 κ) = r11_Expr_h (r11_Expr_F m c1 l0) := by kernel_rfl
theorem r11_Expr_st (m : Nat) (g : G_r11_Expr R) (hg : G_publicanref11_ExprOK g) : SemC cxP 50 (r11_Expr_w (r11_Expr_B m g)) :=
 have HG : ∀ f, SemOK cxP f (r11_Expr_G (R := R) g.r11_Expr (r11_Op m) f) := tabG_ok (.cons hg.r11_Expr (.cons (r11_Op_k m) .nil))
 rawA_ok C HG (fn_of Tryz.func50) rfl rfl (by kernel_rfl) (show loopsIn (bodyOf Tryz.f50) = [(lpC (bodyOf Tryz.f50) 0)] from by kernel_rfl) (.cons (r11_Expr_X0_k HG) (.nil _)) (r11_Expr_e m g.r11_Expr (r11_Op m) (r11_Expr_L0 m g.r11_Expr))
theorem r11_Expr_zz : SemC cxP 50 (r11_Expr_w (R := R) fun _ _ => none) := rawA_z rfl
theorem G_r11_Expr_ok : ∀ m, G_publicanref11_ExprOK (G_r11_Expr_r (R := R) m)
  | 0 => ⟨semOf_ok r11_Expr_zz⟩
  | j + 1 => ⟨semOf_ok (r11_Expr_st j _ (G_r11_Expr_ok j))⟩
theorem r11_Expr_k (m : Nat) : SemOK cxP 50 (r11_Expr_s (R := R) (r11_Expr m)) := (G_r11_Expr_ok m).r11_Expr
def mean_over_a := aX (aC (aI .i64) <| aC (aT 6) <| aC (aT 6) <| aN) (aN)
def mean_over_h (F : Y_mean_over R) := fun a0 a1 a2 (κ : Ko R) => F a0 a1 a2 (fun r_0 r_1 => κ (.tup [.st 6 r_0, .int .i64 r_1]) [])
def mean_over_s (F : Y_mean_over R) : PSem R := semOf [none, some (false, 6), some (false, 6)] (rawA mean_over_a (mean_over_h F))
theorem mean_over_e (m : Nat) (c0 : Y_num_Floor R) (c1 : Y_mean_made R) (c2 : Y_num_Sub R) (c3 : Y_num_MulFloor R) : mean_over_a.w _ (fun x κ => pFun tb (tabG (R := R) [(140, num_Floor_s c0), (90, mean_made_s c1), (91, num_Sub_s c2), (139, num_MulFloor_s c3)]) 0 [] [some (false, 6), none] Tryz.f93 x.1 x.2 κ) = mean_over_h (mean_over_F m c0 c1 c2 c3) := by kernel_rfl
theorem mean_over_k (m : Nat) : SemOK cxP 93 (mean_over_s (R := R) (mean_over m)) := semOf_ok (raw0 C (tabG_ok (.cons (num_Floor_k m) (.cons (mean_made_k m) (.cons (num_Sub_k m) (.cons (num_MulFloor_k m) .nil))))) (fn_of Tryz.func93) rfl rfl (by kernel_rfl) (by kernel_rfl) (mean_over_e m (num_Floor m) (mean_made m) (num_Sub m) (num_MulFloor m)))
def r11_Fold_G (c0 : Y_r11_Expr R) : FuncId → PSem R := tabG [(50, r11_Expr_s c0)]
def r11_Fold_l0 : LpS := ⟨[(4, .any), (3, .cells [(5, 4)]), (1, .fcells [(5, 4)]), (2, .fcells [(5, 4)])], [(2, .any), (3, .any)], []⟩
def r11_Fold_a0 := aX (aC (aI .i64) <| aC (aP 0 0) <| aC (aP 1 0) <| aC (aP 2 0) <| aN) (aC (aK (aC aS <| aC aS <| aC (aI .i64) <| aC (aI .i64) <| aC (aI .i64) <| aC (aO 3) <| aN)) <| aC k4 <| aC k4 <| aC (aA 4) <| aN)
def r11_Fold_x0 := aX (aC (aP 0 0) <| aC (aP 1 0) <| aN) (aC k4 <| aC (aK (aC aS <| aC aS <| aC (aI .i64) <| aC (aI .i64) <| aC (aI .i64) <| aC (aO 2) <| aN)) <| aC (aA 4) <| aN)
theorem r11_Fold_S0_e (m : Nat) (c0 : Y_r11_Expr R) (ρ : Kr R) (kx : Kx R) (kr : Kr R) : roundA tb (r11_Fold_G c0) 0 Tryz.f17 (lpC (bodyOf Tryz.f17) 0) [] r11_Fold_l0 r11_Fold_a0 ρ kx kr = r11_Fold_S0 m c0 (r11_Fold_a0.w _ (pr ρ)) (r11_Fold_x0.w _ (pr (kx 0))) := by kernel_rfl
def r11_Fold_X0 (l : r11_Fold_V0 R) (m : Nat) : LoopH R := loopA r11_Fold_l0 r11_Fold_a0 fun kx kr => l (r11_Fold_x0.w _ (pr (kx 0))) m
theorem r11_Fold_X0_k {m : Nat} {c0 : Y_r11_Expr R} (HG : ∀ f, SemOK cxP f (r11_Fold_G (R := R) c0 f)) : LoopSem cxP Tryz.f17.ntmps 0 (lpC (bodyOf Tryz.f17) 0) (r11_Fold_X0 (R := R) (r11_Fold_L0 m c0) m) := loopA_ok C HG (by kernel_rfl) (show loopsIn (lpC (bodyOf Tryz.f17) 0) = [] from by kernel_rfl) (.nil _) m (fun _ _ => rfl) rfl (r11_Fold_S0_e m c0)
def r11_Fold_a := aX (aC (aT 4) <| aN) (aN)
def r11_Fold_h (F : Y_r11_Fold R) := fun a0 (κ : Ko R) => F a0 (fun r => κ (.st 4 r) [])
def r11_Fold_s (F : Y_r11_Fold R) : PSem R := semOf [some (false, 4)] (rawA r11_Fold_a (r11_Fold_h F))
theorem r11_Fold_e (m : Nat) (c0 : Y_r11_Expr R) (l0 : r11_Fold_V0 R) : r11_Fold_a.w _ (fun x κ => pFun tb (r11_Fold_G (R := R) c0) 0 [r11_Fold_X0 l0 m] [some (false, 4)] Tryz.f17 x.1 x.2 κ) = r11_Fold_h (r11_Fold_F m l0) := by kernel_rfl
theorem r11_Fold_k (m : Nat) : SemOK cxP 17 (r11_Fold_s (R := R) (r11_Fold m)) :=
 have HG : ∀ f, SemOK cxP f (r11_Fold_G (R := R) (r11_Expr m) f) := tabG_ok (.cons (r11_Expr_k m) .nil)
 semOf_ok (rawA_ok C HG (fn_of Tryz.func17) rfl rfl (by kernel_rfl) (show loopsIn (bodyOf Tryz.f17) = [(lpC (bodyOf Tryz.f17) 0)] from by kernel_rfl) (.cons (r11_Fold_X0_k HG) (.nil _)) (r11_Fold_e m (r11_Expr m) (r11_Fold_L0 m (r11_Expr m))))
def r9p_decl_G (c0 : Y_r9p_w R) (c1 : Y_r9p_take R) (c2 : Y_r9p_name R) (c3 : Y_r9p_kind R) (c4 : Y_r9p_want R) (c5 : Y_r9p_expr R) (c6 : Y_r9p_is R) (c7 : Y_r9p_limit R) (c8 : Y_r9p_lit R) (c9 : Y_r9p_fail R) : FuncId → PSem R := tabG [(153, r9p_w_s c0), (154, r9p_take_s c1), (155, r9p_name_s c2), (156, r9p_kind_s c3), (157, r9p_want_s c4), (158, r9p_expr_s c5), (159, r9p_is_s c6), (160, r9p_limit_s c7), (161, r9p_lit_s c8), (162, r9p_fail_s c9)]
def r9p_decl_l0 : LpS := ⟨[(2, .fcells [(5, 4)]), (4, .cells [(5, 4)]), (0, .any)], [(2, .any), (4, .any), (0, .any)], []⟩
def r9p_decl_a0 := aX (aC (aP 1 0) <| aC (aP 2 0) <| aC (aP 0 0) <| aN) (aC k9 <| aC k4 <| aC (aK (aC aS <| aC aS <| aC (aI .i64) <| aC (aI .i64) <| aC (aI .i64) <| aC (aO 3) <| aN)) <| aC (aA 4) <| aN)
def r9p_decl_x0 := aX (aC (aP 1 0) <| aC (aP 2 0) <| aC (aP 0 0) <| aN) (aC k9 <| aC k4 <| aC (aK (aC aS <| aC aS <| aC (aI .i64) <| aC (aI .i64) <| aC (aI .i64) <| aC (aO 3) <| aN)) <| aC (aA 4) <| aN)
theorem r9p_decl_S0_e (m : Nat) (c0 : Y_r9p_w R) (c1 : Y_r9p_take R) (c2 : Y_r9p_name R) (c3 : Y_r9p_kind R) (c4 : Y_r9p_want R) (c5 : Y_r9p_expr R) (c6 : Y_r9p_is R) (c7 : Y_r9p_limit R) (c8 : Y_r9p_lit R) (c9 : Y_r9p_fail R) (ρ : Kr R) (kx : Kx R) (kr : Kr R) : roundA tb (r9p_decl_G c0 c1 c2 c3 c4 c5 c6 c7 c8 c9) 1 Tryz.f110 (lpC (bodyOf Tryz.f110) 0) [] r9p_decl_l0 r9p_decl_a0 ρ kx kr = r9p_decl_S0 m c0 c4 c6 c7 c8 (r9p_decl_a0.w _ (pr ρ)) (r9p_decl_x0.w _ (pr (kx 1))) := by kernel_rfl
def r9p_decl_X0 (l : r9p_decl_V0 R) (m : Nat) : LoopH R := loopA r9p_decl_l0 r9p_decl_a0 fun kx kr => l (r9p_decl_x0.w _ (pr (kx 1))) m
theorem r9p_decl_X0_k {m : Nat} {c0 : Y_r9p_w R} {c1 : Y_r9p_take R} {c2 : Y_r9p_name R} {c3 : Y_r9p_kind R} {c4 : Y_r9p_want R} {c5 : Y_r9p_expr R} {c6 : Y_r9p_is R} {c7 : Y_r9p_limit R} {c8 : Y_r9p_lit R} {c9 : Y_r9p_fail R} (HG : ∀ f, SemOK cxP f (r9p_decl_G (R := R) c0 c1 c2 c3 c4 c5 c6 c7 c8 c9 f)) : LoopSem cxP Tryz.f110.ntmps 1 (lpC (bodyOf Tryz.f110) 0) (r9p_decl_X0 (R := R) (r9p_decl_L0 m c0 c4 c6 c7 c8) m) := loopA_ok C HG (by kernel_rfl) (show loopsIn (lpC (bodyOf Tryz.f110) 0) = [] from by kernel_rfl) (.nil _) m (fun _ _ => rfl) rfl (r9p_decl_S0_e m c0 c1 c2 c3 c4 c5 c6 c7 c8 c9)
def r9p_decl_a := aX (aC (aP 0 0) <| aN) (aC o9 <| aN)
def r9p_decl_h (F : Y_r9p_decl R) := fun o0 (κ : Ko R) => F o0 (fun r w0 => κ (.st 4 r) [w9 w0])
def r9p_decl_s (F : Y_r9p_decl R) : PSem R := semOf [none] (rawA r9p_decl_a (r9p_decl_h F))
theorem r9p_decl_e (m : Nat) (c0 : Y_r9p_w R) (c1 : Y_r9p_take R) (c2 : Y_r9p_name R) (c3 : Y_r9p_kind R) (c4 : Y_r9p_want R) (c5 : Y_r9p_expr R) (c6 : Y_r9p_is R) (c7 : Y_r9p_limit R) (c8 : Y_r9p_lit R) (c9 : Y_r9p_fail R) (l0 : r9p_decl_V0 R) : r9p_decl_a.w _ (fun x κ => pFun tb (r9p_decl_G (R := R) c0 c1 c2 c3 c4 c5 c6 c7 c8 c9) 1 [r9p_decl_X0 l0 m] [some (false, 4)] Tryz.f110 x.1 x.2 κ) = r9p_decl_h (r9p_decl_F m c0 c1 c2 c3 c4 c5 c7 c8 c9 l0) := by kernel_rfl
theorem r9p_decl_k (m : Nat) : SemOK cxP 110 (r9p_decl_s (R := R) (r9p_decl m)) :=
 have HG : ∀ f, SemOK cxP f (r9p_decl_G (R := R) (r9p_w m) (r9p_take m) (r9p_name m) (r9p_kind m) (r9p_want m) (r9p_expr m) (r9p_is m) (r9p_limit m) (r9p_lit m) (r9p_fail m) f) := tabG_ok (.cons (r9p_w_k m) (.cons (r9p_take_k m) (.cons (r9p_name_k m) (.cons (r9p_kind_k m) (.cons (r9p_want_k m) (.cons (r9p_expr_k m) (.cons (r9p_is_k m) (.cons (r9p_limit_k m) (.cons (r9p_lit_k m) (.cons (r9p_fail_k m) .nil))))))))))
 semOf_ok (rawA_ok C HG (fn_of Tryz.func110) rfl rfl (by kernel_rfl) (show loopsIn (bodyOf Tryz.f110) = [(lpC (bodyOf Tryz.f110) 0)] from by kernel_rfl) (.cons (r9p_decl_X0_k HG) (.nil _)) (r9p_decl_e m (r9p_w m) (r9p_take m) (r9p_name m) (r9p_kind m) (r9p_want m) (r9p_expr m) (r9p_is m) (r9p_limit m) (r9p_lit m) (r9p_fail m) (r9p_decl_L0 m (r9p_w m) (r9p_want m) (r9p_is m) (r9p_limit m) (r9p_lit m))))
def mean_Op_a := aX (aC aS <| aC (aT 6) <| aC (aT 6) <| aN) (aN)
def mean_Op_h (F : Y_mean_Op R) := fun a0 a1 a2 (κ : Ko R) => F a0 a1 a2 (fun r_0 r_1 => κ (.tup [.st 6 r_0, .int .i64 r_1]) [])
def mean_Op_s (F : Y_mean_Op R) : PSem R := semOf [none, some (false, 6), some (false, 6)] (rawA mean_Op_a (mean_Op_h F))
theorem mean_Op_e (m : Nat) (c0 : Y_mean_one R) (c1 : Y_typ_Two R) (c2 : Y_num_Add R) (c3 : Y_mean_made R) (c4 : Y_num_Sub R) (c5 : Y_mean_times R) (c6 : Y_mean_over R) (c7 : Y_mean_truth R) : mean_Op_a.w _ (fun x κ => pFun tb (tabG (R := R) [(87, mean_one_s c0), (88, typ_Two_s c1), (89, num_Add_s c2), (90, mean_made_s c3), (91, num_Sub_s c4), (92, mean_times_s c5), (93, mean_over_s c6), (94, mean_truth_s c7)]) 0 [] [some (false, 6), none] Tryz.f40 x.1 x.2 κ) = mean_Op_h (mean_Op_F m c0 c1 c2 c3 c4 c5 c6 c7) := by kernel_rfl
theorem mean_Op_k (m : Nat) : SemOK cxP 40 (mean_Op_s (R := R) (mean_Op m)) := semOf_ok (raw0 C (tabG_ok (.cons (mean_one_k m) (.cons (typ_Two_k m) (.cons (num_Add_k m) (.cons (mean_made_k m) (.cons (num_Sub_k m) (.cons (mean_times_k m) (.cons (mean_over_k m) (.cons (mean_truth_k m) .nil))))))))) (fn_of Tryz.func40) rfl rfl (by kernel_rfl) (by kernel_rfl) (mean_Op_e m (mean_one m) (typ_Two m) (num_Add m) (mean_made m) (num_Sub m) (mean_times m) (mean_over m) (mean_truth m)))
def r9_Parse_G (c0 : Y_r9_Cut R) (c1 : Y_r9p_decl R) : FuncId → PSem R := tabG [(109, r9_Cut_s c0), (110, r9p_decl_s c1)]
def r9_Parse_l0 : LpS := ⟨[(8, .cells [(5, 4)]), (7, .any), (2, .fcells [(5, 4)])], [(2, .any), (7, .any), (8, .any)], []⟩
def r9_Parse_a0 := aX (aC (aP 0 0) <| aC (aP 1 0) <| aC (aP 2 0) <| aN) (aC (aK (aC aS <| aC aS <| aC (aI .i64) <| aC (aI .i64) <| aC (aI .i64) <| aC (aO 3) <| aN)) <| aC k9 <| aC k4 <| aC (aA 4) <| aN)
def r9_Parse_x0 := aX (aC (aP 0 0) <| aC (aP 1 0) <| aC (aP 2 0) <| aN) (aC k4 <| aC k9 <| aC (aK (aC aS <| aC aS <| aC (aI .i64) <| aC (aI .i64) <| aC (aI .i64) <| aC (aO 3) <| aN)) <| aC (aA 4) <| aN)
theorem r9_Parse_S0_e (m : Nat) (c0 : Y_r9_Cut R) (c1 : Y_r9p_decl R) (ρ : Kr R) (kx : Kx R) (kr : Kr R) : roundA tb (r9_Parse_G c0 c1) 0 Tryz.f47 (lpC (bodyOf Tryz.f47) 0) [] r9_Parse_l0 r9_Parse_a0 ρ kx kr = r9_Parse_S0 m c1 (r9_Parse_a0.w _ (pr ρ)) (r9_Parse_x0.w _ (pr (kx 0))) := by kernel_rfl
def r9_Parse_X0 (l : r9_Parse_V0 R) (m : Nat) : LoopH R := loopA r9_Parse_l0 r9_Parse_a0 fun kx kr => l (r9_Parse_x0.w _ (pr (kx 0))) m
theorem r9_Parse_X0_k {m : Nat} {c0 : Y_r9_Cut R} {c1 : Y_r9p_decl R} (HG : ∀ f, SemOK cxP f (r9_Parse_G (R := R) c0 c1 f)) : LoopSem cxP Tryz.f47.ntmps 0 (lpC (bodyOf Tryz.f47) 0) (r9_Parse_X0 (R := R) (r9_Parse_L0 m c1) m) := loopA_ok C HG (by kernel_rfl) (show loopsIn (lpC (bodyOf Tryz.f47) 0) = [] from by kernel_rfl) (.nil _) m (fun _ _ => rfl) rfl (r9_Parse_S0_e m c0 c1)
def r9_Parse_a := aX (aC aS <| aN) (aN)
def r9_Parse_h (F : Y_r9_Parse R) := fun a0 (κ : Ko R) => F a0 (fun r_0 r_1 r_2 => κ (.tup [.st 4 r_0, .int .i64 r_1, .bool r_2]) [])
def r9_Parse_s (F : Y_r9_Parse R) : PSem R := semOf [none] (rawA r9_Parse_a (r9_Parse_h F))
theorem r9_Parse_e (m : Nat) (c0 : Y_r9_Cut R) (c1 : Y_r9p_decl R) (l0 : r9_Parse_V0 R) : r9_Parse_a.w _ (fun x κ => pFun tb (r9_Parse_G (R := R) c0 c1) 0 [r9_Parse_X0 l0 m] [some (false, 4), none, none] Tryz.f47 x.1 x.2 κ) = r9_Parse_h (r9_Parse_F m c0 l0) := by kernel_rfl
theorem r9_Parse_k (m : Nat) : SemOK cxP 47 (r9_Parse_s (R := R) (r9_Parse m)) :=
 have HG : ∀ f, SemOK cxP f (r9_Parse_G (R := R) (r9_Cut m) (r9p_decl m) f) := tabG_ok (.cons (r9_Cut_k m) (.cons (r9p_decl_k m) .nil))
 semOf_ok (rawA_ok C HG (fn_of Tryz.func47) rfl rfl (by kernel_rfl) (show loopsIn (bodyOf Tryz.f47) = [(lpC (bodyOf Tryz.f47) 0)] from by kernel_rfl) (.cons (r9_Parse_X0_k HG) (.nil _)) (r9_Parse_e m (r9_Cut m) (r9p_decl m) (r9_Parse_L0 m (r9p_decl m))))
def r17_Read_a := aX (aC aS <| aN) (aN)
def r17_Read_h (F : Y_r17_Read R) := fun a0 (κ : Ko R) => F a0 (fun r_0 r_1 r_2 => κ (.tup [.st 5 r_0, .st 4 r_1, .bool r_2]) [])
def r17_Read_s (F : Y_r17_Read R) : PSem R := semOf [none] (rawA r17_Read_a (r17_Read_h F))
theorem r17_Read_e (m : Nat) (c0 : Y_r9_Parse R) (c1 : Y_r17_Back R) : r17_Read_a.w _ (fun x κ => pFun tb (tabG (R := R) [(47, r9_Parse_s c0), (48, r17_Back_s c1)]) 0 [] [some (false, 5), some (false, 4), none] Tryz.f13 x.1 x.2 κ) = r17_Read_h (r17_Read_F m c0 c1) := by kernel_rfl
theorem r17_Read_k (m : Nat) : SemOK cxP 13 (r17_Read_s (R := R) (r17_Read m)) := semOf_ok (raw0 C (tabG_ok (.cons (r9_Parse_k m) (.cons (r17_Back_k m) .nil))) (fn_of Tryz.func13) rfl rfl (by kernel_rfl) (by kernel_rfl) (r17_Read_e m (r9_Parse m) (r17_Back m)))
def fold_Expr_a := aX (aC (aT 5) <| aN) (aN)
def fold_Expr_h (F : Y_fold_Expr R) := fun a0 (κ : Ko R) => F a0 (fun r => κ (.st 5 r) [])
def fold_Expr_w (F : Y_fold_Expr R) : PSem R := rawA fold_Expr_a (fold_Expr_h F)
def fold_Expr_s (F : Y_fold_Expr R) : PSem R := semOf [some (false, 5)] (fold_Expr_w F)
structure G_fold_ExprOK (g : G_fold_Expr R) : Prop where
  fold_Expr : SemOK cxP 46 (fold_Expr_s g.fold_Expr)
def fold_Expr_G (c0 : Y_fold_Expr R) (c1 : Y_fold_reckoned R) (c2 : Y_slices_ContainsF R) (c3 : Y_fold_value R) (c4 : Y_mean_Op R) (c5 : Y_fold_literal R) : FuncId → PSem R := tabG [(46, fold_Expr_s c0), (105, fold_reckoned_s c1), (65, slices_ContainsF_s c2), (107, fold_value_s c3), (40, mean_Op_s c4), (108, fold_literal_s c5)]
def fold_Expr_l0 : LpS := ⟨[(13, .any), (3, .arr 5), (11, .any), (2, .fcells [(5, 5)]), (1, .fcells [(5, 5)]), (12, .any)], [(2, .any), (1, .any), (3, .any)], []⟩
def fold_Expr_a0 := aX (aC (aI .i64) <| aC (aO 0) <| aC (aL 5) <| aC (aP 1 0) <| aC (aP 2 0) <| aC (aI .i64) <| aN) (aC (aA 5) <| aC k5 <| aC k5 <| aN)
def fold_Expr_x0 := aX (aC (aP 0 0) <| aC (aP 1 0) <| aC (aO 2) <| aN) (aC k5 <| aC k5 <| aC (aA 5) <| aN)
theorem fold_Expr_S0_e (m : Nat) (c0 : Y_fold_Expr R) (c1 : Y_fold_reckoned R) (c2 : Y_slices_ContainsF R) (c3 : Y_fold_value R) (c4 : Y_mean_Op R) (c5 : Y_fold_literal R) (ρ : Kr R) (kx : Kx R) (kr : Kr R) : roundA tb (fold_Expr_G c0 c1 c2 c3 c4 c5) 0 Tryz.f46 (lpC (bodyOf Tryz.f46) 0) [] fold_Expr_l0 fold_Expr_a0 ρ kx kr = fold_Expr_S0 m c0 (fold_Expr_a0.w _ (pr ρ)) (fold_Expr_x0.w _ (pr (kx 0))) := by kernel_rfl
def fold_Expr_X0 (l : fold_Expr_V0 R) (m : Nat) : LoopH R := loopA fold_Expr_l0 fold_Expr_a0 fun kx kr => l (fold_Expr_x0.w _ (pr (kx 0))) m
theorem fold_Expr_X0_k {m : Nat} {c0 : Y_fold_Expr R} {c1 : Y_fold_reckoned R} {c2 : Y_slices_ContainsF R} {c3 : Y_fold_value R} {c4 : Y_mean_Op R} {c5 : Y_fold_literal R} (HG : ∀ f, SemOK cxP f (fold_Expr_G (R := R) c0 c1 c2 c3 c4 c5 f)) : LoopSem cxP Tryz.f46.ntmps 0 (lpC (bodyOf Tryz.f46) 0) (fold_Expr_X0 (R := R) (fold_Expr_L0 m c0) m) := loopA_ok C HG (by kernel_rfl) (show loopsIn (lpC (bodyOf Tryz.f46) 0) = [] from by kernel_rfl) (.nil _) m (fun _ _ => rfl) rfl (fold_Expr_S0_e m c0 c1 c2 c3 c4 c5)
theorem fold_Expr_e (m : Nat) (c0 : Y_fold_Expr R) (c1 : Y_fold_reckoned R) (c2 : Y_slices_ContainsF R) (c3 : Y_fold_value R) (c4 : Y_mean_Op R) (c5 : Y_fold_literal R) (l0 : fold_Expr_V0 R) : fold_Expr_a.w _ (fun x κ => pFun tb (fold_Expr_G (R := R) c0 c1 c2 c3 c4 c5) 0 [fold_Expr_X0 l0 m] [some (false, 5)] Tryz.f46 x.1 x.2 κ) = fold_Expr_h (fold_Expr_F m c1 c2 c3 c4 c5 l0) := by kernel_rfl
theorem fold_Expr_st (m : Nat) (g : G_fold_Expr R) (hg : G_fold_ExprOK g) : SemC cxP 46 (fold_Expr_w (fold_Expr_B m g)) :=
 have HG : ∀ f, SemOK cxP f (fold_Expr_G (R := R) g.fold_Expr (fold_reckoned m) (slices_ContainsF m) (fold_value m) (mean_Op m) (fold_literal m) f) := tabG_ok (.cons hg.fold_Expr (.cons (fold_reckoned_k m) (.cons (slices_ContainsF_k m) (.cons (fold_value_k m) (.cons (mean_Op_k m) (.cons (fold_literal_k m) .nil))))))
 rawA_ok C HG (fn_of Tryz.func46) rfl rfl (by kernel_rfl) (show loopsIn (bodyOf Tryz.f46) = [(lpC (bodyOf Tryz.f46) 0)] from by kernel_rfl) (.cons (fold_Expr_X0_k HG) (.nil _)) (fold_Expr_e m g.fold_Expr (fold_reckoned m) (slices_ContainsF m) (fold_value m) (mean_Op m) (fold_literal m) (fold_Expr_L0 m g.fold_Expr))
theorem fold_Expr_zz : SemC cxP 46 (fold_Expr_w (R := R) fun _ _ => none) := rawA_z rfl
theorem G_fold_Expr_ok : ∀ m, G_fold_ExprOK (G_fold_Expr_r (R := R) m)
  | 0 => ⟨semOf_ok fold_Expr_zz⟩
  | j + 1 => ⟨semOf_ok (fold_Expr_st j _ (G_fold_Expr_ok j))⟩
theorem fold_Expr_k (m : Nat) : SemOK cxP 46 (fold_Expr_s (R := R) (fold_Expr m)) := (G_fold_Expr_ok m).fold_Expr
def fold_Fold_G (c0 : Y_slices_Clone___p R) (c1 : Y_fold_Expr R) : FuncId → PSem R := tabG [(49, slices_Clone___p_s c0), (46, fold_Expr_s c1)]
def fold_Fold_l0 : LpS := ⟨[(12, .any), (1, .any), (10, .any), (2, .fcells [(5, 5)]), (11, .any)], [(2, .any), (1, .any)], []⟩
def fold_Fold_a0 := aX (aC (aI .i64) <| aC (aP 0 0) <| aC (aO 1) <| aC (aP 2 0) <| aC (aI .i64) <| aN) (aC (aK (aC aS <| aC aS <| aC (aI .i64) <| aC (aI .i64) <| aC (aI .i64) <| aC (aO 1) <| aN)) <| aC (aA 5) <| aC k5 <| aN)
def fold_Fold_x0 := aX (aC (aP 0 0) <| aC (aP 1 0) <| aN) (aC k5 <| aC (aK (aC aS <| aC aS <| aC (aI .i64) <| aC (aI .i64) <| aC (aI .i64) <| aC (aO 2) <| aN)) <| aC (aA 5) <| aN)
theorem fold_Fold_S0_e (m : Nat) (c0 : Y_slices_Clone___p R) (c1 : Y_fold_Expr R) (ρ : Kr R) (kx : Kx R) (kr : Kr R) : roundA tb (fold_Fold_G c0 c1) 0 Tryz.f14 (lpC (bodyOf Tryz.f14) 0) [] fold_Fold_l0 fold_Fold_a0 ρ kx kr = fold_Fold_S0 m c1 (fold_Fold_a0.w _ (pr ρ)) (fold_Fold_x0.w _ (pr (kx 0))) := by kernel_rfl
def fold_Fold_X0 (l : fold_Fold_V0 R) (m : Nat) : LoopH R := loopA fold_Fold_l0 fold_Fold_a0 fun kx kr => l (fold_Fold_x0.w _ (pr (kx 0))) m
theorem fold_Fold_X0_k {m : Nat} {c0 : Y_slices_Clone___p R} {c1 : Y_fold_Expr R} (HG : ∀ f, SemOK cxP f (fold_Fold_G (R := R) c0 c1 f)) : LoopSem cxP Tryz.f14.ntmps 0 (lpC (bodyOf Tryz.f14) 0) (fold_Fold_X0 (R := R) (fold_Fold_L0 m c1) m) := loopA_ok C HG (by kernel_rfl) (show loopsIn (lpC (bodyOf Tryz.f14) 0) = [] from by kernel_rfl) (.nil _) m (fun _ _ => rfl) rfl (fold_Fold_S0_e m c0 c1)
def fold_Fold_a := aX (aC (aT 5) <| aN) (aN)
def fold_Fold_h (F : Y_fold_Fold R) := fun a0 (κ : Ko R) => F a0 (fun r => κ (.st 5 r) [])
def fold_Fold_s (F : Y_fold_Fold R) : PSem R := semOf [some (false, 5)] (rawA fold_Fold_a (fold_Fold_h F))
theorem fold_Fold_e (m : Nat) (c0 : Y_slices_Clone___p R) (c1 : Y_fold_Expr R) (l0 : fold_Fold_V0 R) : fold_Fold_a.w _ (fun x κ => pFun tb (fold_Fold_G (R := R) c0 c1) 0 [fold_Fold_X0 l0 m] [some (false, 5)] Tryz.f14 x.1 x.2 κ) = fold_Fold_h (fold_Fold_F m l0) := by kernel_rfl
theorem fold_Fold_k (m : Nat) : SemOK cxP 14 (fold_Fold_s (R := R) (fold_Fold m)) :=
 have HG : ∀ f, SemOK cxP f (fold_Fold_G (R := R) (slices_Clone___p m) (fold_Expr m) f) := tabG_ok (.cons (slices_Clone___p_k m) (.cons (fold_Expr_k m) .nil))
 semOf_ok (rawA_ok C HG (fn_of Tryz.func14) rfl rfl (by kernel_rfl) (show loopsIn (bodyOf Tryz.f14) = [(lpC (bodyOf Tryz.f14) 0)] from by kernel_rfl) (.cons (fold_Fold_X0_k HG) (.nil _)) (fold_Fold_e m (slices_Clone___p m) (fold_Expr m) (fold_Fold_L0 m (fold_Expr m))))
def L15_awake_a := aX (aN) (aN)
def L15_awake_h (F : Y_L15_awake R) := fun (κ : Ko R) => F (fun r => κ (.bool r) [])
def L15_awake_s (F : Y_L15_awake R) : PSem R := semOf [] (rawA L15_awake_a (L15_awake_h F))
theorem L15_awake_e (m : Nat) (c0 : Y_r17_Read R) (c1 : Y_fold_Fold R) (c2 : Y_fold_Size R) (c3 : Y_fold_Expr R) (c4 : Y_syn_Same R) : L15_awake_a.w _ (fun x κ => pFun tb (tabG (R := R) [(13, r17_Read_s c0), (14, fold_Fold_s c1), (18, fold_Size_s c2), (46, fold_Expr_s c3), (45, syn_Same_s c4)]) 0 [] [none] Tryz.f12 x.1 x.2 κ) = L15_awake_h (L15_awake_F m c0 c1 c2 c3 c4) := by kernel_rfl
theorem L15_awake_k (m : Nat) : SemOK cxP 12 (L15_awake_s (R := R) (L15_awake m)) := semOf_ok (raw0 C (tabG_ok (.cons (r17_Read_k m) (.cons (fold_Fold_k m) (.cons (fold_Size_k m) (.cons (fold_Expr_k m) (.cons (syn_Same_k m) .nil)))))) (fn_of Tryz.func12) rfl rfl (by kernel_rfl) (by kernel_rfl) (L15_awake_e m (r17_Read m) (fold_Fold m) (fold_Size m) (fold_Expr m) (syn_Same m)))
end
end Go.Pm
namespace Go.Pm
open Go Go.EvM Go.Pv Go.Proofs
set_option maxRecDepth 100000
set_option linter.unusedVariables false
set_option linter.unusedSectionVars false
noncomputable section
variable {R : Type}
def L15_FoldSays_G (c0 : Y_L15_awake R) (c1 : Y_r17_Read R) (c2 : Y_fold_Fold R) (c3 : Y_r17_Tree R) (c4 : Y_r11_Fold R) (c5 : Y_r17_Places R) (c6 : Y_fold_Size R) (c7 : Y_r11_Size R) : FuncId → PSem R := tabG [(12, L15_awake_s c0), (13, r17_Read_s c1), (14, fold_Fold_s c2), (16, r17_Tree_s c3), (17, r11_Fold_s c4), (15, r17_Places_s c5), (18, fold_Size_s c6), (19, r11_Size_s c7)]
def L15_FoldSays_l0 : LpS := ⟨[(7, .any), (4, .fcells [(5, 4)]), (3, .fcells [(5, 5)])], [], [(2, .any)]⟩
def L15_FoldSays_a0 := aX (aC (aI .i64) <| aC (aP 0 0) <| aC (aP 1 0) <| aN) (aC k4 <| aC k5 <| aN)
def L15_FoldSays_x0 := aQ (aX (aN) (aN))
def L15_FoldSays_z0 := aX (aC aB <| aN) (aN)
theorem L15_FoldSays_S0_e (m : Nat) (c0 : Y_L15_awake R) (c1 : Y_r17_Read R) (c2 : Y_fold_Fold R) (c3 : Y_r17_Tree R) (c4 : Y_r11_Fold R) (c5 : Y_r17_Places R) (c6 : Y_fold_Size R) (c7 : Y_r11_Size R) (ρ : Kr R) (kx : Kx R) (kr : Kr R) : roundA tb (L15_FoldSays_G c0 c1 c2 c3 c4 c5 c6 c7) 0 Tryz.f3 (lpC (bodyOf Tryz.f3) 0) [] L15_FoldSays_l0 L15_FoldSays_a0 ρ kx kr = L15_FoldSays_S0 m c6 c7 (L15_FoldSays_a0.w _ (pr ρ)) (L15_FoldSays_x0.w _ (pr (kx 0))) (L15_FoldSays_z0.w _ (pr kr)) := by kernel_rfl
def L15_FoldSays_X0 (l : L15_FoldSays_V0 R) (m : Nat) : LoopH R := loopA L15_FoldSays_l0 L15_FoldSays_a0 fun kx kr => l (L15_FoldSays_x0.w _ (pr (kx 0))) (L15_FoldSays_z0.w _ (pr kr)) m
theorem L15_FoldSays_X0_k {m : Nat} {c0 : Y_L15_awake R} {c1 : Y_r17_Read R} {c2 : Y_fold_Fold R} {c3 : Y_r17_Tree R} {c4 : Y_r11_Fold R} {c5 : Y_r17_Places R} {c6 : Y_fold_Size R} {c7 : Y_r11_Size R} (HG : ∀ f, SemOK cxP f (L15_FoldSays_G (R := R) c0 c1 c2 c3 c4 c5 c6 c7 f)) : LoopSem cxP Tryz.f3.ntmps 0 (lpC (bodyOf Tryz.f3) 0) (L15_FoldSays_X0 (R := R) (L15_FoldSays_L0 m c6 c7) m) := loopA_ok C HG (by kernel_rfl) (show loopsIn (lpC (bodyOf Tryz.f3) 0) = [] from by kernel_rfl) (.nil _) m (fun _ _ => rfl) rfl (L15_FoldSays_S0_e m c0 c1 c2 c3 c4 c5 c6 c7)
def L15_FoldSays_a := aX (aC aS <| aN) (aN)
def L15_FoldSays_h (F : Y_L15_FoldSays R) := fun a0 (κ : Ko R) => F a0 (fun r => κ (.bool r) [])
def L15_FoldSays_s (F : Y_L15_FoldSays R) : PSem R := semOf [none] (rawA L15_FoldSays_a (L15_FoldSays_h F))
theorem L15_FoldSays_e (m : Nat) (c0 : Y_L15_awake R) (c1 : Y_r17_Read R) (c2 : Y_fold_Fold R) (c3 : Y_r17_Tree R) (c4 : Y_r11_Fold R) (c5 : Y_r17_Places R) (c6 : Y_fold_Size R) (c7 : Y_r11_Size R) (l0 : L15_FoldSays_V0 R) : L15_FoldSays_a.w _ (fun x κ => pFun tb (L15_FoldSays_G (R := R) c0 c1 c2 c3 c4 c5 c6 c7) 0 [L15_FoldSays_X0 l0 m] [none] Tryz.f3 x.1 x.2 κ) = L15_FoldSays_h (L15_FoldSays_F m c0 c1 c2 c3 c4 c5 l0) := by kernel_rfl
theorem L15_FoldSays_k (m : Nat) : SemOK cxP 3 (L15_FoldSays_s (R := R) (L15_FoldSays m)) :=
 have HG : ∀ f, SemOK cxP f (L15_FoldSays_G (R := R) (L15_awake m) (r17_Read m) (fold_Fold m) (r17_Tree m) (r11_Fold m) (r17_Places m) (fold_Size m) (r11_Size m) f) := tabG_ok (.cons (L15_awake_k m) (.cons (r17_Read_k m) (.cons (fold_Fold_k m) (.cons (r17_Tree_k m) (.cons (r11_Fold_k m) (.cons (r17_Places_k m) (.cons (fold_Size_k m) (.cons (r11_Size_k m) .nil))))))))
 semOf_ok (rawA_ok C HG (fn_of Tryz.func3) rfl rfl (by kernel_rfl) (show loopsIn (bodyOf Tryz.f3) = [(lpC (bodyOf Tryz.f3) 0)] from by kernel_rfl) (.cons (L15_FoldSays_X0_k HG) (.nil _)) (L15_FoldSays_e m (L15_awake m) (r17_Read m) (fold_Fold m) (r17_Tree m) (r11_Fold m) (r17_Places m) (fold_Size m) (r11_Size m) (L15_FoldSays_L0 m (fold_Size m) (r11_Size m))))
end
end Go.Pm
