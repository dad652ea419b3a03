/- The interpreter over data answers as the plain functions say. -/
import Derived.Test.YtjeipnpjkiapgaaGreatDoorPmD
set_option linter.unusedVariables false
set_option linter.unusedSectionVars false
set_option linter.unusedSimpArgs false
namespace Go.Pm
open Go Go.EvM Go.Pv Go.Proofs
set_option linter.unusedVariables false
set_option linter.unusedSectionVars false
variable {R : Type}
noncomputable def publicanref9_parser_prim_G (m : Nat) (g : G_publicanref9_parser_expr R) : FuncId → PSem R := tabG [(44, publicanref9_parser_w_sem m), (90, publicanref9_parser_islit_sem m), (52, publicanref9_parser_lit_sem m), (45, publicanref9_parser_take_sem m), (48, publicanref9_parser_want_sem m), (49, semOf publicanref9_parser_expr_ac (publicanref9_parser_expr_w g.publicanref9_parser_expr)), (46, publicanref9_parser_name_sem m)]
set_option maxRecDepth 100000 in
theorem publicanref9_parser_prim_S0_eq (m : Nat) (g : G_publicanref9_parser_expr R) (ρ : List V → List PObj → Option R) (kx : Nat → List V → List PObj → Option R) (kr : List V → List PObj → Option R) (x0 : Int) (x1 : Int) (x2 : List T_publicanref9_Word) (x3 : Int) (x4 : Int) (x5 : Bool) (x6 : Int) (x7 : List UInt8) (x8 : List UInt8) (x9 : Int) (x10 : Int) (x11 : Int) (x12 : List T_publicanref9_Node) : pCode tb (publicanref9_parser_prim_G m g) 1 Tryz.f155.ntmps (lpC (bodyOf Tryz.f155) 0) [] (fun s => match head 1 [(2, .fcells [(5, 6)]), (3, .any), (0, .any), (4, .any)] s with | (vs, os) => ρ vs os) (fun i s => match head 1 [(2, .any), (0, .any), (3, .any)] s with | (vs, os) => kx i vs os) (fun s => match head 1 [(2, .fcells [(5, 6)])] s with | (vs, os) => kr vs os) ⟨mkEnv [(2, .fcells [(5, 6)]), (3, .any), (0, .any), (4, .any)] [.ptr 1 0, .int .i64 x0, .ptr 0 0, .int .i64 x1], [.cells [.sl 5 x2, .int .i64 x3, .int .i64 x4, .bool x5, .int .i64 x6], .cells [.str x7, .str x8, .int .i64 x9, .int .i64 x10, .int .i64 x11, .sl 6 x12]]⟩ = publicanref9_parser_prim_S0 m g (fun x0 x1 x2 x3 x4 x5 x6 x7 x8 x9 x10 x11 x12 => ρ [.ptr 1 0, .int .i64 x0, .ptr 0 0, .int .i64 x1] [.cells [.sl 5 x2, .int .i64 x3, .int .i64 x4, .bool x5, .int .i64 x6], .cells [.str x7, .str x8, .int .i64 x9, .int .i64 x10, .int .i64 x11, .sl 6 x12]]) (fun y0 y1 y2 y3 y4 y5 y6 y7 y8 y9 y10 y11 => kx 0 [.ptr 1 0, .ptr 0 0, .int .i64 y0] [.cells [.sl 5 y1, .int .i64 y2, .int .i64 y3, .bool y4, .int .i64 y5], .cells [.str y6, .str y7, .int .i64 y8, .int .i64 y9, .int .i64 y10, .sl 6 y11]]) (fun z0 z1 z2 z3 z4 z5 z6 z7 z8 z9 z10 => kr [.ptr 1 0] [.cells [.sl 5 z0, .int .i64 z1, .int .i64 z2, .bool z3, .int .i64 z4], .cells [.str z5, .str z6, .int .i64 z7, .int .i64 z8, .int .i64 z9, .sl 6 z10]]) x0 x1 x2 x3 x4 x5 x6 x7 x8 x9 x10 x11 x12 := by
  delta publicanref9_parser_prim_G publicanref9_parser_prim_S0 publicanref9_parser_w_sem publicanref9_parser_islit_sem publicanref9_parser_lit_sem publicanref9_parser_take_sem publicanref9_parser_want_sem publicanref9_parser_name_sem
  generalize publicanref9_parser_w (R := R) m = c0
  generalize publicanref9_parser_islit (R := R) m = c1
  generalize publicanref9_parser_lit (R := R) m = c2
  generalize publicanref9_parser_take (R := R) m = c3
  generalize publicanref9_parser_want (R := R) m = c4
  generalize publicanref9_parser_name (R := R) m = c5
  refine id ?_
  kernel_rfl
set_option maxHeartbeats 4000000 in
theorem publicanref9_parser_prim_L0_eq (m : Nat) (g : G_publicanref9_parser_expr R) (j : Nat) : ∀ (kx : Nat → List V → List PObj → Option R) (kr : List V → List PObj → Option R) (x0 : Int) (x1 : Int) (x2 : List T_publicanref9_Word) (x3 : Int) (x4 : Int) (x5 : Bool) (x6 : Int) (x7 : List UInt8) (x8 : List UInt8) (x9 : Int) (x10 : Int) (x11 : Int) (x12 : List T_publicanref9_Node), loopP tb (publicanref9_parser_prim_G m g) 1 Tryz.f155.ntmps [(2, .fcells [(5, 6)]), (3, .any), (0, .any), (4, .any)] [(2, .any), (0, .any), (3, .any)] [(2, .fcells [(5, 6)])] [] (lpC (bodyOf Tryz.f155) 0) j [.ptr 1 0, .int .i64 x0, .ptr 0 0, .int .i64 x1] [.cells [.sl 5 x2, .int .i64 x3, .int .i64 x4, .bool x5, .int .i64 x6], .cells [.str x7, .str x8, .int .i64 x9, .int .i64 x10, .int .i64 x11, .sl 6 x12]] kx kr = publicanref9_parser_prim_L0 m g j x0 x1 x2 x3 x4 x5 x6 x7 x8 x9 x10 x11 x12 (fun y0 y1 y2 y3 y4 y5 y6 y7 y8 y9 y10 y11 => kx 0 [.ptr 1 0, .ptr 0 0, .int .i64 y0] [.cells [.sl 5 y1, .int .i64 y2, .int .i64 y3, .bool y4, .int .i64 y5], .cells [.str y6, .str y7, .int .i64 y8, .int .i64 y9, .int .i64 y10, .sl 6 y11]]) (fun z0 z1 z2 z3 z4 z5 z6 z7 z8 z9 z10 => kr [.ptr 1 0] [.cells [.sl 5 z0, .int .i64 z1, .int .i64 z2, .bool z3, .int .i64 z4], .cells [.str z5, .str z6, .int .i64 z7, .int .i64 z8, .int .i64 z9, .sl 6 z10]]) := by
  induction j with
  | zero => intros; rfl
  | succ j ih =>
    intro kx kr x0 x1 x2 x3 x4 x5 x6 x7 x8 x9 x10 x11 x12
    refine Eq.trans ?_ (Eq.trans (Eq.trans (publicanref9_parser_prim_S0_eq m g (fun vs os => loopP tb (publicanref9_parser_prim_G m g) 1 Tryz.f155.ntmps [(2, .fcells [(5, 6)]), (3, .any), (0, .any), (4, .any)] [(2, .any), (0, .any), (3, .any)] [(2, .fcells [(5, 6)])] [] (lpC (bodyOf Tryz.f155) 0) j vs os kx kr) kx kr x0 x1 x2 x3 x4 x5 x6 x7 x8 x9 x10 x11 x12) (congrArg (fun ρ => publicanref9_parser_prim_S0 m g ρ (fun y0 y1 y2 y3 y4 y5 y6 y7 y8 y9 y10 y11 => kx 0 [.ptr 1 0, .ptr 0 0, .int .i64 y0] [.cells [.sl 5 y1, .int .i64 y2, .int .i64 y3, .bool y4, .int .i64 y5], .cells [.str y6, .str y7, .int .i64 y8, .int .i64 y9, .int .i64 y10, .sl 6 y11]]) (fun z0 z1 z2 z3 z4 z5 z6 z7 z8 z9 z10 => kr [.ptr 1 0] [.cells [.sl 5 z0, .int .i64 z1, .int .i64 z2, .bool z3, .int .i64 z4], .cells [.str z5, .str z6, .int .i64 z7, .int .i64 z8, .int .i64 z9, .sl 6 z10]]) x0 x1 x2 x3 x4 x5 x6 x7 x8 x9 x10 x11 x12) (funext fun x0 => funext fun x1 => funext fun x2 => funext fun x3 => funext fun x4 => funext fun x5 => funext fun x6 => funext fun x7 => funext fun x8 => funext fun x9 => funext fun x10 => funext fun x11 => funext fun x12 => ih kx kr x0 x1 x2 x3 x4 x5 x6 x7 x8 x9 x10 x11 x12))) ?_) <;> kernel_rfl
noncomputable def publicanref9_parser_prim_X0 (m : Nat) (g : G_publicanref9_parser_expr R) : LoopH R := ⟨[(2, .fcells [(5, 6)]), (3, .any), (0, .any), (4, .any)], [(2, .any), (0, .any), (3, .any)], [(2, .fcells [(5, 6)])], fun vs os kx kr => match vs, os with | [v0_, v1_, v2_, v3_], [q0_, q1_] => ((rdPtr 1 0 v0_).bind fun u0 => (rdInt .i64 v1_).bind fun x0 => (rdPtr 0 0 v2_).bind fun u1 => (rdInt .i64 v3_).bind fun x1 => (rdCells q0_).bind fun l2 => match l2 with | [c3_0, c3_1, c3_2, c3_3, c3_4] => ((rdSl 5 c3_0).bind fun x2 => (rdInt .i64 c3_1).bind fun x3 => (rdInt .i64 c3_2).bind fun x4 => (rdBool c3_3).bind fun x5 => (rdInt .i64 c3_4).bind fun x6 => (rdCells q1_).bind fun l4 => match l4 with | [c5_0, c5_1, c5_2, c5_3, c5_4, c5_5] => ((rdStr c5_0).bind fun x7 => (rdStr c5_1).bind fun x8 => (rdInt .i64 c5_2).bind fun x9 => (rdInt .i64 c5_3).bind fun x10 => (rdInt .i64 c5_4).bind fun x11 => (rdSl 6 c5_5).bind fun x12 => publicanref9_parser_prim_L0 m g m x0 x1 x2 x3 x4 x5 x6 x7 x8 x9 x10 x11 x12 (fun y0 y1 y2 y3 y4 y5 y6 y7 y8 y9 y10 y11 => kx 0 [.ptr 1 0, .ptr 0 0, .int .i64 y0] [.cells [.sl 5 y1, .int .i64 y2, .int .i64 y3, .bool y4, .int .i64 y5], .cells [.str y6, .str y7, .int .i64 y8, .int .i64 y9, .int .i64 y10, .sl 6 y11]]) (fun z0 z1 z2 z3 z4 z5 z6 z7 z8 z9 z10 => kr [.ptr 1 0] [.cells [.sl 5 z0, .int .i64 z1, .int .i64 z2, .bool z3, .int .i64 z4], .cells [.str z5, .str z6, .int .i64 z7, .int .i64 z8, .int .i64 z9, .sl 6 z10]])) | _ => none) | _ => none) | _, _ => none⟩
set_option maxHeartbeats 4000000 in
theorem publicanref9_parser_prim_X0_ok {m : Nat} {g : G_publicanref9_parser_expr R} (HG : ∀ f, SemOK cxP f (publicanref9_parser_prim_G (R := R) m g f)) : LoopSem cxP Tryz.f155.ntmps 1 (lpC (bodyOf Tryz.f155) 0) (publicanref9_parser_prim_X0 (R := R) m g) :=
  loop_of C HG (L := []) (by kernel_rfl) (by rw [show loopsIn (lpC (bodyOf Tryz.f155) 0) = [] from by kernel_rfl]; exact (.nil _)) m fun vs os kx kr r h => by
    try dsimp only at h
    split at h; rotate_left; cases h
    rename_i v0_ v1_ v2_ v3_ q0_ q1_
    replace h := Option.bind_eq_some_iff.1 h; obtain ⟨u0, hh, h⟩ := h; obtain rfl := rdPtr_eq hh; clear hh
    replace h := Option.bind_eq_some_iff.1 h; obtain ⟨x0, hh, h⟩ := h; obtain rfl := rdInt_eq hh; clear hh
    replace h := Option.bind_eq_some_iff.1 h; obtain ⟨u1, hh, h⟩ := h; obtain rfl := rdPtr_eq hh; clear hh
    replace h := Option.bind_eq_some_iff.1 h; obtain ⟨x1, hh, h⟩ := h; obtain rfl := rdInt_eq hh; clear hh
    replace h := Option.bind_eq_some_iff.1 h; obtain ⟨l2, hh, h⟩ := h; obtain rfl := rdCells_eq hh; clear hh
    split at h; rotate_left; cases h
    rename_i c3_0 c3_1 c3_2 c3_3 c3_4
    replace h := Option.bind_eq_some_iff.1 h; obtain ⟨x2, hh, h⟩ := h; obtain rfl := rdSl_eq hh; clear hh
    replace h := Option.bind_eq_some_iff.1 h; obtain ⟨x3, hh, h⟩ := h; obtain rfl := rdInt_eq hh; clear hh
    replace h := Option.bind_eq_some_iff.1 h; obtain ⟨x4, hh, h⟩ := h; obtain rfl := rdInt_eq hh; clear hh
    replace h := Option.bind_eq_some_iff.1 h; obtain ⟨x5, hh, h⟩ := h; obtain rfl := rdBool_eq hh; clear hh
    replace h := Option.bind_eq_some_iff.1 h; obtain ⟨x6, hh, h⟩ := h; obtain rfl := rdInt_eq hh; clear hh
    replace h := Option.bind_eq_some_iff.1 h; obtain ⟨l4, hh, h⟩ := h; obtain rfl := rdCells_eq hh; clear hh
    split at h; rotate_left; cases h
    rename_i c5_0 c5_1 c5_2 c5_3 c5_4 c5_5
    replace h := Option.bind_eq_some_iff.1 h; obtain ⟨x7, hh, h⟩ := h; obtain rfl := rdStr_eq hh; clear hh
    replace h := Option.bind_eq_some_iff.1 h; obtain ⟨x8, hh, h⟩ := h; obtain rfl := rdStr_eq hh; clear hh
    replace h := Option.bind_eq_some_iff.1 h; obtain ⟨x9, hh, h⟩ := h; obtain rfl := rdInt_eq hh; clear hh
    replace h := Option.bind_eq_some_iff.1 h; obtain ⟨x10, hh, h⟩ := h; obtain rfl := rdInt_eq hh; clear hh
    replace h := Option.bind_eq_some_iff.1 h; obtain ⟨x11, hh, h⟩ := h; obtain rfl := rdInt_eq hh; clear hh
    replace h := Option.bind_eq_some_iff.1 h; obtain ⟨x12, hh, h⟩ := h; obtain rfl := rdSl_eq hh; clear hh
    exact (publicanref9_parser_prim_L0_eq m g m kx kr x0 x1 x2 x3 x4 x5 x6 x7 x8 x9 x10 x11 x12).trans h
set_option maxRecDepth 100000 in
theorem publicanref9_parser_prim_eq (m : Nat) (g : G_publicanref9_parser_expr R) (o0 : T_publicanref9_parser) (κ : V → List PObj → Option R) : pFun tb (publicanref9_parser_prim_G m g) 1 [publicanref9_parser_prim_X0 m g] [some (false, 6)] Tryz.f155 [.ptr 0 0] [.cells [.sl 5 o0.f_l, .int .i64 o0.f_k, .int .i64 o0.f_bad, .bool o0.f_deep, .int .i64 o0.f_d]] κ = publicanref9_parser_prim_B m g o0 (fun r w0 => κ (.st 6 r) [.cells [.sl 5 w0.f_l, .int .i64 w0.f_k, .int .i64 w0.f_bad, .bool w0.f_deep, .int .i64 w0.f_d]]) := by
  delta publicanref9_parser_prim_G publicanref9_parser_prim_B publicanref9_parser_w_sem publicanref9_parser_islit_sem publicanref9_parser_lit_sem publicanref9_parser_take_sem publicanref9_parser_want_sem publicanref9_parser_name_sem publicanref9_parser_prim_X0
  generalize publicanref9_parser_w (R := R) m = c0
  generalize publicanref9_parser_islit (R := R) m = c1
  generalize publicanref9_parser_lit (R := R) m = c2
  generalize publicanref9_parser_take (R := R) m = c3
  generalize publicanref9_parser_want (R := R) m = c4
  generalize publicanref9_parser_name (R := R) m = c5
  generalize publicanref9_parser_prim_L0 (R := R) m g = c6
  refine id ?_
  kernel_rfl
theorem publicanref9_parser_prim_st (m : Nat) (g : G_publicanref9_parser_expr R) (hg : G_publicanref9_parser_exprOK g) : SemC cxP 155 (publicanref9_parser_prim_w (publicanref9_parser_prim_B m g)) :=
  have HG : ∀ f, SemOK cxP f (publicanref9_parser_prim_G (R := R) m g f) := tabG_ok (.cons (publicanref9_parser_w_ok m) (.cons (publicanref9_parser_islit_ok m) (.cons (publicanref9_parser_lit_ok m) (.cons (publicanref9_parser_take_ok m) (.cons (publicanref9_parser_want_ok m) (.cons (hg.publicanref9_parser_expr) (.cons (publicanref9_parser_name_ok m) .nil)))))))
  fun_of C HG (L := [publicanref9_parser_prim_X0 m g]) (rc := [some (false, 6)]) (k := 1) (fn_of Tryz.func155) rfl rfl (by kernel_rfl) (by rw [show loopsIn (bodyOf Tryz.f155) = [(lpC (bodyOf Tryz.f155) 0)] from by kernel_rfl]; exact (.cons (publicanref9_parser_prim_X0_ok HG) (.nil _))) fun vs os κ r h => by
    unfold publicanref9_parser_prim_w at h
    split at h; rotate_left; cases h
    rename_i v0_ q0_
    replace h := Option.bind_eq_some_iff.1 h; obtain ⟨u0, hh, h⟩ := h; obtain rfl := rdPtr_eq hh; clear hh
    replace h := Option.bind_eq_some_iff.1 h; obtain ⟨l1, hh, h⟩ := h; obtain rfl := rdCells_eq hh; clear hh
    split at h; rotate_left; cases h
    rename_i c2_0 c2_1 c2_2 c2_3 c2_4
    replace h := Option.bind_eq_some_iff.1 h; obtain ⟨p0_0, hh, h⟩ := h; obtain rfl := rdSl_eq hh; clear hh
    replace h := Option.bind_eq_some_iff.1 h; obtain ⟨p0_1, hh, h⟩ := h; obtain rfl := rdInt_eq hh; clear hh
    replace h := Option.bind_eq_some_iff.1 h; obtain ⟨p0_2, hh, h⟩ := h; obtain rfl := rdInt_eq hh; clear hh
    replace h := Option.bind_eq_some_iff.1 h; obtain ⟨p0_3, hh, h⟩ := h; obtain rfl := rdBool_eq hh; clear hh
    replace h := Option.bind_eq_some_iff.1 h; obtain ⟨p0_4, hh, h⟩ := h; obtain rfl := rdInt_eq hh; clear hh
    exact (publicanref9_parser_prim_eq m g (T_publicanref9_parser.mk p0_0 p0_1 p0_2 p0_3 p0_4) κ).trans h
theorem publicanref9_parser_prim_z : SemC cxP 155 (publicanref9_parser_prim_w (R := R) fun _ _ => none) := fun vs os κ r h => by
    unfold publicanref9_parser_prim_w at h
    split at h; rotate_left; cases h
    rename_i v0_ q0_
    replace h := Option.bind_eq_some_iff.1 h; obtain ⟨u0, hh, h⟩ := h; obtain rfl := rdPtr_eq hh; clear hh
    replace h := Option.bind_eq_some_iff.1 h; obtain ⟨l1, hh, h⟩ := h; obtain rfl := rdCells_eq hh; clear hh
    split at h; rotate_left; cases h
    rename_i c2_0 c2_1 c2_2 c2_3 c2_4
    replace h := Option.bind_eq_some_iff.1 h; obtain ⟨p0_0, hh, h⟩ := h; obtain rfl := rdSl_eq hh; clear hh
    replace h := Option.bind_eq_some_iff.1 h; obtain ⟨p0_1, hh, h⟩ := h; obtain rfl := rdInt_eq hh; clear hh
    replace h := Option.bind_eq_some_iff.1 h; obtain ⟨p0_2, hh, h⟩ := h; obtain rfl := rdInt_eq hh; clear hh
    replace h := Option.bind_eq_some_iff.1 h; obtain ⟨p0_3, hh, h⟩ := h; obtain rfl := rdBool_eq hh; clear hh
    replace h := Option.bind_eq_some_iff.1 h; obtain ⟨p0_4, hh, h⟩ := h; obtain rfl := rdInt_eq hh; clear hh
    cases h
theorem G_publicanref9_parser_expr_ok : ∀ m, G_publicanref9_parser_exprOK (G_publicanref9_parser_expr_r (R := R) m)
  | 0 => ⟨semOf_ok publicanref9_parser_expr_z, semOf_ok publicanref9_parser_inside_z, semOf_ok publicanref9_parser_row_z, semOf_ok publicanref9_parser_un_z, semOf_ok publicanref9_parser_prim_z⟩
  | j + 1 => ⟨semOf_ok (publicanref9_parser_expr_st j _ (G_publicanref9_parser_expr_ok j)), semOf_ok (publicanref9_parser_inside_st j _ (G_publicanref9_parser_expr_ok j)), semOf_ok (publicanref9_parser_row_st j _ (G_publicanref9_parser_expr_ok j)), semOf_ok (publicanref9_parser_un_st j _ (G_publicanref9_parser_expr_ok j)), semOf_ok (publicanref9_parser_prim_st j _ (G_publicanref9_parser_expr_ok j))⟩
noncomputable def publicanref9_parser_expr_sem (m : Nat) : PSem R := semOf publicanref9_parser_expr_ac (publicanref9_parser_expr_w (publicanref9_parser_expr m))
theorem publicanref9_parser_expr_ok (m : Nat) : SemOK cxP 49 (publicanref9_parser_expr_sem (R := R) m) := (G_publicanref9_parser_expr_ok m).publicanref9_parser_expr
noncomputable def publicanref9_parser_inside_sem (m : Nat) : PSem R := semOf publicanref9_parser_inside_ac (publicanref9_parser_inside_w (publicanref9_parser_inside m))
theorem publicanref9_parser_inside_ok (m : Nat) : SemOK cxP 88 (publicanref9_parser_inside_sem (R := R) m) := (G_publicanref9_parser_expr_ok m).publicanref9_parser_inside
noncomputable def publicanref9_parser_row_sem (m : Nat) : PSem R := semOf publicanref9_parser_row_ac (publicanref9_parser_row_w (publicanref9_parser_row m))
theorem publicanref9_parser_row_ok (m : Nat) : SemOK cxP 116 (publicanref9_parser_row_sem (R := R) m) := (G_publicanref9_parser_expr_ok m).publicanref9_parser_row
noncomputable def publicanref9_parser_un_sem (m : Nat) : PSem R := semOf publicanref9_parser_un_ac (publicanref9_parser_un_w (publicanref9_parser_un m))
theorem publicanref9_parser_un_ok (m : Nat) : SemOK cxP 140 (publicanref9_parser_un_sem (R := R) m) := (G_publicanref9_parser_expr_ok m).publicanref9_parser_un
noncomputable def publicanref9_parser_prim_sem (m : Nat) : PSem R := semOf publicanref9_parser_prim_ac (publicanref9_parser_prim_w (publicanref9_parser_prim m))
theorem publicanref9_parser_prim_ok (m : Nat) : SemOK cxP 155 (publicanref9_parser_prim_sem (R := R) m) := (G_publicanref9_parser_expr_ok m).publicanref9_parser_prim
noncomputable def publicanref9_parser_decl_G (m : Nat) : FuncId → PSem R := tabG [(44, publicanref9_parser_w_sem m), (45, publicanref9_parser_take_sem m), (46, publicanref9_parser_name_sem m), (47, publicanref9_parser_kind_sem m), (48, publicanref9_parser_want_sem m), (49, publicanref9_parser_expr_sem m), (50, publicanref9_parser_is_sem m), (51, publicanref9_parser_limit_sem m), (52, publicanref9_parser_lit_sem m), (53, publicanref9_parser_fail_sem m)]
set_option maxRecDepth 100000 in
theorem publicanref9_parser_decl_S0_eq (m : Nat) (ρ : List V → List PObj → Option R) (kx : Nat → List V → List PObj → Option R) (kr : List V → List PObj → Option R) (x0 : List T_publicanref9_Word) (x1 : Int) (x2 : Int) (x3 : Bool) (x4 : Int) (x5 : List UInt8) (x6 : List UInt8) (x7 : Int) (x8 : Int) (x9 : Int) (x10 : List T_publicanref9_Node) (x11 : List UInt8) (x12 : List UInt8) (x13 : Int) (x14 : Int) (x15 : Int) (x16 : List T_publicanref9_Node) : pCode tb (publicanref9_parser_decl_G m) 1 Tryz.f20.ntmps (lpC (bodyOf Tryz.f20) 0) [] (fun s => match head 1 [(2, .fcells [(5, 6)]), (4, .cells [(5, 6)]), (0, .any)] s with | (vs, os) => ρ vs os) (fun i s => match head 1 [(2, .any), (4, .any), (0, .any)] s with | (vs, os) => kx i vs os) (fun s => match head 1 [] s with | (vs, os) => kr vs os) ⟨mkEnv [(2, .fcells [(5, 6)]), (4, .cells [(5, 6)]), (0, .any)] [.ptr 1 0, .ptr 2 0, .ptr 0 0], [.cells [.sl 5 x0, .int .i64 x1, .int .i64 x2, .bool x3, .int .i64 x4], .cells [.str x5, .str x6, .int .i64 x7, .int .i64 x8, .int .i64 x9, .sl 6 x10], .cells [.str x11, .str x12, .int .i64 x13, .int .i64 x14, .int .i64 x15, .loc 3], .arr 6 x16]⟩ = publicanref9_parser_decl_S0 m (fun x0 x1 x2 x3 x4 x5 x6 x7 x8 x9 x10 x11 x12 x13 x14 x15 x16 => ρ [.ptr 1 0, .ptr 2 0, .ptr 0 0] [.cells [.sl 5 x0, .int .i64 x1, .int .i64 x2, .bool x3, .int .i64 x4], .cells [.str x5, .str x6, .int .i64 x7, .int .i64 x8, .int .i64 x9, .sl 6 x10], .cells [.str x11, .str x12, .int .i64 x13, .int .i64 x14, .int .i64 x15, .loc 3], .arr 6 x16]) (fun y0 y1 y2 y3 y4 y5 y6 y7 y8 y9 y10 y11 y12 y13 y14 y15 y16 => kx 1 [.ptr 1 0, .ptr 2 0, .ptr 0 0] [.cells [.sl 5 y0, .int .i64 y1, .int .i64 y2, .bool y3, .int .i64 y4], .cells [.str y5, .str y6, .int .i64 y7, .int .i64 y8, .int .i64 y9, .sl 6 y10], .cells [.str y11, .str y12, .int .i64 y13, .int .i64 y14, .int .i64 y15, .loc 3], .arr 6 y16]) x0 x1 x2 x3 x4 x5 x6 x7 x8 x9 x10 x11 x12 x13 x14 x15 x16 := by
  delta publicanref9_parser_decl_G publicanref9_parser_decl_S0 publicanref9_parser_w_sem publicanref9_parser_take_sem publicanref9_parser_name_sem publicanref9_parser_kind_sem publicanref9_parser_want_sem publicanref9_parser_expr_sem publicanref9_parser_is_sem publicanref9_parser_limit_sem publicanref9_parser_lit_sem publicanref9_parser_fail_sem
  generalize publicanref9_parser_w (R := R) m = c0
  generalize publicanref9_parser_take (R := R) m = c1
  generalize publicanref9_parser_name (R := R) m = c2
  generalize publicanref9_parser_kind (R := R) m = c3
  generalize publicanref9_parser_want (R := R) m = c4
  generalize publicanref9_parser_expr (R := R) m = c5
  generalize publicanref9_parser_is (R := R) m = c6
  generalize publicanref9_parser_limit (R := R) m = c7
  generalize publicanref9_parser_lit (R := R) m = c8
  generalize publicanref9_parser_fail (R := R) m = c9
  refine id ?_
  kernel_rfl
set_option maxHeartbeats 4000000 in
theorem publicanref9_parser_decl_L0_eq (m : Nat) (j : Nat) : ∀ (kx : Nat → List V → List PObj → Option R) (kr : List V → List PObj → Option R) (x0 : List T_publicanref9_Word) (x1 : Int) (x2 : Int) (x3 : Bool) (x4 : Int) (x5 : List UInt8) (x6 : List UInt8) (x7 : Int) (x8 : Int) (x9 : Int) (x10 : List T_publicanref9_Node) (x11 : List UInt8) (x12 : List UInt8) (x13 : Int) (x14 : Int) (x15 : Int) (x16 : List T_publicanref9_Node), loopP tb (publicanref9_parser_decl_G m) 1 Tryz.f20.ntmps [(2, .fcells [(5, 6)]), (4, .cells [(5, 6)]), (0, .any)] [(2, .any), (4, .any), (0, .any)] [] [] (lpC (bodyOf Tryz.f20) 0) j [.ptr 1 0, .ptr 2 0, .ptr 0 0] [.cells [.sl 5 x0, .int .i64 x1, .int .i64 x2, .bool x3, .int .i64 x4], .cells [.str x5, .str x6, .int .i64 x7, .int .i64 x8, .int .i64 x9, .sl 6 x10], .cells [.str x11, .str x12, .int .i64 x13, .int .i64 x14, .int .i64 x15, .loc 3], .arr 6 x16] kx kr = publicanref9_parser_decl_L0 m j x0 x1 x2 x3 x4 x5 x6 x7 x8 x9 x10 x11 x12 x13 x14 x15 x16 (fun y0 y1 y2 y3 y4 y5 y6 y7 y8 y9 y10 y11 y12 y13 y14 y15 y16 => kx 1 [.ptr 1 0, .ptr 2 0, .ptr 0 0] [.cells [.sl 5 y0, .int .i64 y1, .int .i64 y2, .bool y3, .int .i64 y4], .cells [.str y5, .str y6, .int .i64 y7, .int .i64 y8, .int .i64 y9, .sl 6 y10], .cells [.str y11, .str y12, .int .i64 y13, .int .i64 y14, .int .i64 y15, .loc 3], .arr 6 y16]) := by
  induction j with
  | zero => intros; rfl
  | succ j ih =>
    intro kx kr x0 x1 x2 x3 x4 x5 x6 x7 x8 x9 x10 x11 x12 x13 x14 x15 x16
    refine Eq.trans ?_ (Eq.trans (Eq.trans (publicanref9_parser_decl_S0_eq m (fun vs os => loopP tb (publicanref9_parser_decl_G m) 1 Tryz.f20.ntmps [(2, .fcells [(5, 6)]), (4, .cells [(5, 6)]), (0, .any)] [(2, .any), (4, .any), (0, .any)] [] [] (lpC (bodyOf Tryz.f20) 0) j vs os kx kr) kx kr x0 x1 x2 x3 x4 x5 x6 x7 x8 x9 x10 x11 x12 x13 x14 x15 x16) (congrArg (fun ρ => publicanref9_parser_decl_S0 m ρ (fun y0 y1 y2 y3 y4 y5 y6 y7 y8 y9 y10 y11 y12 y13 y14 y15 y16 => kx 1 [.ptr 1 0, .ptr 2 0, .ptr 0 0] [.cells [.sl 5 y0, .int .i64 y1, .int .i64 y2, .bool y3, .int .i64 y4], .cells [.str y5, .str y6, .int .i64 y7, .int .i64 y8, .int .i64 y9, .sl 6 y10], .cells [.str y11, .str y12, .int .i64 y13, .int .i64 y14, .int .i64 y15, .loc 3], .arr 6 y16]) x0 x1 x2 x3 x4 x5 x6 x7 x8 x9 x10 x11 x12 x13 x14 x15 x16) (funext fun x0 => funext fun x1 => funext fun x2 => funext fun x3 => funext fun x4 => funext fun x5 => funext fun x6 => funext fun x7 => funext fun x8 => funext fun x9 => funext fun x10 => funext fun x11 => funext fun x12 => funext fun x13 => funext fun x14 => funext fun x15 => funext fun x16 => ih kx kr x0 x1 x2 x3 x4 x5 x6 x7 x8 x9 x10 x11 x12 x13 x14 x15 x16))) ?_) <;> kernel_rfl
noncomputable def publicanref9_parser_decl_X0 (m : Nat) : LoopH R := ⟨[(2, .fcells [(5, 6)]), (4, .cells [(5, 6)]), (0, .any)], [(2, .any), (4, .any), (0, .any)], [], fun vs os kx kr => match vs, os with | [v0_, v1_, v2_], [q0_, q1_, q2_, q3_] => ((rdPtr 1 0 v0_).bind fun u0 => (rdPtr 2 0 v1_).bind fun u1 => (rdPtr 0 0 v2_).bind fun u2 => (rdCells q0_).bind fun l3 => match l3 with | [c4_0, c4_1, c4_2, c4_3, c4_4] => ((rdSl 5 c4_0).bind fun x0 => (rdInt .i64 c4_1).bind fun x1 => (rdInt .i64 c4_2).bind fun x2 => (rdBool c4_3).bind fun x3 => (rdInt .i64 c4_4).bind fun x4 => (rdCells q1_).bind fun l5 => match l5 with | [c6_0, c6_1, c6_2, c6_3, c6_4, c6_5] => ((rdStr c6_0).bind fun x5 => (rdStr c6_1).bind fun x6 => (rdInt .i64 c6_2).bind fun x7 => (rdInt .i64 c6_3).bind fun x8 => (rdInt .i64 c6_4).bind fun x9 => (rdSl 6 c6_5).bind fun x10 => (rdCells q2_).bind fun l7 => match l7 with | [c8_0, c8_1, c8_2, c8_3, c8_4, c8_5] => ((rdStr c8_0).bind fun x11 => (rdStr c8_1).bind fun x12 => (rdInt .i64 c8_2).bind fun x13 => (rdInt .i64 c8_3).bind fun x14 => (rdInt .i64 c8_4).bind fun x15 => (rdLoc 3 c8_5).bind fun u9 => (rdArr 6 q3_).bind fun x16 => publicanref9_parser_decl_L0 m m x0 x1 x2 x3 x4 x5 x6 x7 x8 x9 x10 x11 x12 x13 x14 x15 x16 (fun y0 y1 y2 y3 y4 y5 y6 y7 y8 y9 y10 y11 y12 y13 y14 y15 y16 => kx 1 [.ptr 1 0, .ptr 2 0, .ptr 0 0] [.cells [.sl 5 y0, .int .i64 y1, .int .i64 y2, .bool y3, .int .i64 y4], .cells [.str y5, .str y6, .int .i64 y7, .int .i64 y8, .int .i64 y9, .sl 6 y10], .cells [.str y11, .str y12, .int .i64 y13, .int .i64 y14, .int .i64 y15, .loc 3], .arr 6 y16])) | _ => none) | _ => none) | _ => none) | _, _ => none⟩
set_option maxHeartbeats 4000000 in
theorem publicanref9_parser_decl_X0_ok {m : Nat} (HG : ∀ f, SemOK cxP f (publicanref9_parser_decl_G (R := R) m f)) : LoopSem cxP Tryz.f20.ntmps 1 (lpC (bodyOf Tryz.f20) 0) (publicanref9_parser_decl_X0 (R := R) m) :=
  loop_of C HG (L := []) (by kernel_rfl) (by rw [show loopsIn (lpC (bodyOf Tryz.f20) 0) = [] from by kernel_rfl]; exact (.nil _)) m fun vs os kx kr r h => by
    try dsimp only at h
    split at h; rotate_left; cases h
    rename_i v0_ v1_ v2_ q0_ q1_ q2_ q3_
    replace h := Option.bind_eq_some_iff.1 h; obtain ⟨u0, hh, h⟩ := h; obtain rfl := rdPtr_eq hh; clear hh
    replace h := Option.bind_eq_some_iff.1 h; obtain ⟨u1, hh, h⟩ := h; obtain rfl := rdPtr_eq hh; clear hh
    replace h := Option.bind_eq_some_iff.1 h; obtain ⟨u2, hh, h⟩ := h; obtain rfl := rdPtr_eq hh; clear hh
    replace h := Option.bind_eq_some_iff.1 h; obtain ⟨l3, hh, h⟩ := h; obtain rfl := rdCells_eq hh; clear hh
    split at h; rotate_left; cases h
    rename_i c4_0 c4_1 c4_2 c4_3 c4_4
    replace h := Option.bind_eq_some_iff.1 h; obtain ⟨x0, hh, h⟩ := h; obtain rfl := rdSl_eq hh; clear hh
    replace h := Option.bind_eq_some_iff.1 h; obtain ⟨x1, hh, h⟩ := h; obtain rfl := rdInt_eq hh; clear hh
    replace h := Option.bind_eq_some_iff.1 h; obtain ⟨x2, hh, h⟩ := h; obtain rfl := rdInt_eq hh; clear hh
    replace h := Option.bind_eq_some_iff.1 h; obtain ⟨x3, hh, h⟩ := h; obtain rfl := rdBool_eq hh; clear hh
    replace h := Option.bind_eq_some_iff.1 h; obtain ⟨x4, hh, h⟩ := h; obtain rfl := rdInt_eq hh; clear hh
    replace h := Option.bind_eq_some_iff.1 h; obtain ⟨l5, hh, h⟩ := h; obtain rfl := rdCells_eq hh; clear hh
    split at h; rotate_left; cases h
    rename_i c6_0 c6_1 c6_2 c6_3 c6_4 c6_5
    replace h := Option.bind_eq_some_iff.1 h; obtain ⟨x5, hh, h⟩ := h; obtain rfl := rdStr_eq hh; clear hh
    replace h := Option.bind_eq_some_iff.1 h; obtain ⟨x6, hh, h⟩ := h; obtain rfl := rdStr_eq hh; clear hh
    replace h := Option.bind_eq_some_iff.1 h; obtain ⟨x7, hh, h⟩ := h; obtain rfl := rdInt_eq hh; clear hh
    replace h := Option.bind_eq_some_iff.1 h; obtain ⟨x8, hh, h⟩ := h; obtain rfl := rdInt_eq hh; clear hh
    replace h := Option.bind_eq_some_iff.1 h; obtain ⟨x9, hh, h⟩ := h; obtain rfl := rdInt_eq hh; clear hh
    replace h := Option.bind_eq_some_iff.1 h; obtain ⟨x10, hh, h⟩ := h; obtain rfl := rdSl_eq hh; clear hh
    replace h := Option.bind_eq_some_iff.1 h; obtain ⟨l7, hh, h⟩ := h; obtain rfl := rdCells_eq hh; clear hh
    split at h; rotate_left; cases h
    rename_i c8_0 c8_1 c8_2 c8_3 c8_4 c8_5
    replace h := Option.bind_eq_some_iff.1 h; obtain ⟨x11, hh, h⟩ := h; obtain rfl := rdStr_eq hh; clear hh
    replace h := Option.bind_eq_some_iff.1 h; obtain ⟨x12, hh, h⟩ := h; obtain rfl := rdStr_eq hh; clear hh
    replace h := Option.bind_eq_some_iff.1 h; obtain ⟨x13, hh, h⟩ := h; obtain rfl := rdInt_eq hh; clear hh
    replace h := Option.bind_eq_some_iff.1 h; obtain ⟨x14, hh, h⟩ := h; obtain rfl := rdInt_eq hh; clear hh
    replace h := Option.bind_eq_some_iff.1 h; obtain ⟨x15, hh, h⟩ := h; obtain rfl := rdInt_eq hh; clear hh
    replace h := Option.bind_eq_some_iff.1 h; obtain ⟨u9, hh, h⟩ := h; obtain rfl := rdLoc_eq hh; clear hh
    replace h := Option.bind_eq_some_iff.1 h; obtain ⟨x16, hh, h⟩ := h; obtain rfl := rdArr_eq hh; clear hh
    exact (publicanref9_parser_decl_L0_eq m m kx kr x0 x1 x2 x3 x4 x5 x6 x7 x8 x9 x10 x11 x12 x13 x14 x15 x16).trans h
noncomputable def publicanref9_parser_decl_w (F : T_publicanref9_parser → (T_publicanref9_Node → T_publicanref9_parser → Option R) → Option R) : PSem R := fun vs os κ => match vs, os with | [v0_], [q0_] => ((rdPtr 0 0 v0_).bind fun u0 => (rdCells q0_).bind fun l1 => match l1 with | [c2_0, c2_1, c2_2, c2_3, c2_4] => ((rdSl 5 c2_0).bind fun p0_0 => (rdInt .i64 c2_1).bind fun p0_1 => (rdInt .i64 c2_2).bind fun p0_2 => (rdBool c2_3).bind fun p0_3 => (rdInt .i64 c2_4).bind fun p0_4 => F (T_publicanref9_parser.mk p0_0 p0_1 p0_2 p0_3 p0_4) (fun r w0 => κ (.st 6 r) [.cells [.sl 5 w0.f_l, .int .i64 w0.f_k, .int .i64 w0.f_bad, .bool w0.f_deep, .int .i64 w0.f_d]])) | _ => none) | _, _ => none
def publicanref9_parser_decl_ac : List (Option (Bool × Nat)) := [none]
set_option maxRecDepth 100000 in
theorem publicanref9_parser_decl_eq (m : Nat) (o0 : T_publicanref9_parser) (κ : V → List PObj → Option R) : pFun tb (publicanref9_parser_decl_G m) 1 [publicanref9_parser_decl_X0 m] [some (false, 6)] Tryz.f20 [.ptr 0 0] [.cells [.sl 5 o0.f_l, .int .i64 o0.f_k, .int .i64 o0.f_bad, .bool o0.f_deep, .int .i64 o0.f_d]] κ = publicanref9_parser_decl m o0 (fun r w0 => κ (.st 6 r) [.cells [.sl 5 w0.f_l, .int .i64 w0.f_k, .int .i64 w0.f_bad, .bool w0.f_deep, .int .i64 w0.f_d]]) := by
  delta publicanref9_parser_decl_G publicanref9_parser_decl publicanref9_parser_w_sem publicanref9_parser_take_sem publicanref9_parser_name_sem publicanref9_parser_kind_sem publicanref9_parser_want_sem publicanref9_parser_expr_sem publicanref9_parser_is_sem publicanref9_parser_limit_sem publicanref9_parser_lit_sem publicanref9_parser_fail_sem publicanref9_parser_decl_X0
  generalize publicanref9_parser_w (R := R) m = c0
  generalize publicanref9_parser_take (R := R) m = c1
  generalize publicanref9_parser_name (R := R) m = c2
  generalize publicanref9_parser_kind (R := R) m = c3
  generalize publicanref9_parser_want (R := R) m = c4
  generalize publicanref9_parser_expr (R := R) m = c5
  generalize publicanref9_parser_is (R := R) m = c6
  generalize publicanref9_parser_limit (R := R) m = c7
  generalize publicanref9_parser_lit (R := R) m = c8
  generalize publicanref9_parser_fail (R := R) m = c9
  generalize publicanref9_parser_decl_L0 (R := R) m = c10
  refine id ?_
  kernel_rfl
noncomputable def publicanref9_parser_decl_sem (m : Nat) : PSem R := semOf publicanref9_parser_decl_ac (publicanref9_parser_decl_w (publicanref9_parser_decl m))
theorem publicanref9_parser_decl_ok (m : Nat) : SemOK cxP 20 (publicanref9_parser_decl_sem (R := R) m) :=
  have HG : ∀ f, SemOK cxP f (publicanref9_parser_decl_G (R := R) m f) := tabG_ok (.cons (publicanref9_parser_w_ok m) (.cons (publicanref9_parser_take_ok m) (.cons (publicanref9_parser_name_ok m) (.cons (publicanref9_parser_kind_ok m) (.cons (publicanref9_parser_want_ok m) (.cons (publicanref9_parser_expr_ok m) (.cons (publicanref9_parser_is_ok m) (.cons (publicanref9_parser_limit_ok m) (.cons (publicanref9_parser_lit_ok m) (.cons (publicanref9_parser_fail_ok m) .nil))))))))))
  semOf_ok (fun_of C HG (L := [publicanref9_parser_decl_X0 m]) (rc := [some (false, 6)]) (k := 1) (fn_of Tryz.func20) rfl rfl (by kernel_rfl) (by rw [show loopsIn (bodyOf Tryz.f20) = [(lpC (bodyOf Tryz.f20) 0)] from by kernel_rfl]; exact (.cons (publicanref9_parser_decl_X0_ok HG) (.nil _))) fun vs os κ r h => by
    unfold publicanref9_parser_decl_w at h
    split at h; rotate_left; cases h
    rename_i v0_ q0_
    replace h := Option.bind_eq_some_iff.1 h; obtain ⟨u0, hh, h⟩ := h; obtain rfl := rdPtr_eq hh; clear hh
    replace h := Option.bind_eq_some_iff.1 h; obtain ⟨l1, hh, h⟩ := h; obtain rfl := rdCells_eq hh; clear hh
    split at h; rotate_left; cases h
    rename_i c2_0 c2_1 c2_2 c2_3 c2_4
    replace h := Option.bind_eq_some_iff.1 h; obtain ⟨p0_0, hh, h⟩ := h; obtain rfl := rdSl_eq hh; clear hh
    replace h := Option.bind_eq_some_iff.1 h; obtain ⟨p0_1, hh, h⟩ := h; obtain rfl := rdInt_eq hh; clear hh
    replace h := Option.bind_eq_some_iff.1 h; obtain ⟨p0_2, hh, h⟩ := h; obtain rfl := rdInt_eq hh; clear hh
    replace h := Option.bind_eq_some_iff.1 h; obtain ⟨p0_3, hh, h⟩ := h; obtain rfl := rdBool_eq hh; clear hh
    replace h := Option.bind_eq_some_iff.1 h; obtain ⟨p0_4, hh, h⟩ := h; obtain rfl := rdInt_eq hh; clear hh
    exact (publicanref9_parser_decl_eq m (T_publicanref9_parser.mk p0_0 p0_1 p0_2 p0_3 p0_4) κ).trans h
)
noncomputable def publicanref9_Parse_G (m : Nat) : FuncId → PSem R := tabG [(19, publicanref9_Cut_sem m), (20, publicanref9_parser_decl_sem m)]
set_option maxRecDepth 100000 in
theorem publicanref9_Parse_S0_eq (m : Nat) (ρ : List V → List PObj → Option R) (kx : Nat → List V → List PObj → Option R) (kr : List V → List PObj → Option R) (x0 : List UInt8) (x1 : List UInt8) (x2 : Int) (x3 : Int) (x4 : Int) (x5 : List T_publicanref9_Word) (x6 : Int) (x7 : Int) (x8 : Bool) (x9 : Int) (x10 : List UInt8) (x11 : List UInt8) (x12 : Int) (x13 : Int) (x14 : Int) (x15 : List T_publicanref9_Node) (x16 : List T_publicanref9_Node) : pCode tb (publicanref9_Parse_G m) 0 Tryz.f9.ntmps (lpC (bodyOf Tryz.f9) 0) [] (fun s => match head 0 [(8, .cells [(5, 6)]), (7, .any), (2, .fcells [(5, 6)])] s with | (vs, os) => ρ vs os) (fun i s => match head 0 [(2, .any), (7, .any), (8, .any)] s with | (vs, os) => kx i vs os) (fun s => match head 0 [] s with | (vs, os) => kr vs os) ⟨mkEnv [(8, .cells [(5, 6)]), (7, .any), (2, .fcells [(5, 6)])] [.ptr 0 0, .ptr 1 0, .ptr 2 0], [.cells [.str x0, .str x1, .int .i64 x2, .int .i64 x3, .int .i64 x4, .loc 3], .cells [.sl 5 x5, .int .i64 x6, .int .i64 x7, .bool x8, .int .i64 x9], .cells [.str x10, .str x11, .int .i64 x12, .int .i64 x13, .int .i64 x14, .sl 6 x15], .arr 6 x16]⟩ = publicanref9_Parse_S0 m (fun x0 x1 x2 x3 x4 x5 x6 x7 x8 x9 x10 x11 x12 x13 x14 x15 x16 => ρ [.ptr 0 0, .ptr 1 0, .ptr 2 0] [.cells [.str x0, .str x1, .int .i64 x2, .int .i64 x3, .int .i64 x4, .loc 3], .cells [.sl 5 x5, .int .i64 x6, .int .i64 x7, .bool x8, .int .i64 x9], .cells [.str x10, .str x11, .int .i64 x12, .int .i64 x13, .int .i64 x14, .sl 6 x15], .arr 6 x16]) (fun y0 y1 y2 y3 y4 y5 y6 y7 y8 y9 y10 y11 y12 y13 y14 y15 y16 => kx 0 [.ptr 0 0, .ptr 1 0, .ptr 2 0] [.cells [.str y0, .str y1, .int .i64 y2, .int .i64 y3, .int .i64 y4, .sl 6 y5], .cells [.sl 5 y6, .int .i64 y7, .int .i64 y8, .bool y9, .int .i64 y10], .cells [.str y11, .str y12, .int .i64 y13, .int .i64 y14, .int .i64 y15, .loc 3], .arr 6 y16]) x0 x1 x2 x3 x4 x5 x6 x7 x8 x9 x10 x11 x12 x13 x14 x15 x16 := by
  delta publicanref9_Parse_G publicanref9_Parse_S0 publicanref9_Cut_sem publicanref9_parser_decl_sem
  generalize publicanref9_Cut (R := R) m = c0
  generalize publicanref9_parser_decl (R := R) m = c1
  refine id ?_
  kernel_rfl
set_option maxHeartbeats 4000000 in
theorem publicanref9_Parse_L0_eq (m : Nat) (j : Nat) : ∀ (kx : Nat → List V → List PObj → Option R) (kr : List V → List PObj → Option R) (x0 : List UInt8) (x1 : List UInt8) (x2 : Int) (x3 : Int) (x4 : Int) (x5 : List T_publicanref9_Word) (x6 : Int) (x7 : Int) (x8 : Bool) (x9 : Int) (x10 : List UInt8) (x11 : List UInt8) (x12 : Int) (x13 : Int) (x14 : Int) (x15 : List T_publicanref9_Node) (x16 : List T_publicanref9_Node), loopP tb (publicanref9_Parse_G m) 0 Tryz.f9.ntmps [(8, .cells [(5, 6)]), (7, .any), (2, .fcells [(5, 6)])] [(2, .any), (7, .any), (8, .any)] [] [] (lpC (bodyOf Tryz.f9) 0) j [.ptr 0 0, .ptr 1 0, .ptr 2 0] [.cells [.str x0, .str x1, .int .i64 x2, .int .i64 x3, .int .i64 x4, .loc 3], .cells [.sl 5 x5, .int .i64 x6, .int .i64 x7, .bool x8, .int .i64 x9], .cells [.str x10, .str x11, .int .i64 x12, .int .i64 x13, .int .i64 x14, .sl 6 x15], .arr 6 x16] kx kr = publicanref9_Parse_L0 m j x0 x1 x2 x3 x4 x5 x6 x7 x8 x9 x10 x11 x12 x13 x14 x15 x16 (fun y0 y1 y2 y3 y4 y5 y6 y7 y8 y9 y10 y11 y12 y13 y14 y15 y16 => kx 0 [.ptr 0 0, .ptr 1 0, .ptr 2 0] [.cells [.str y0, .str y1, .int .i64 y2, .int .i64 y3, .int .i64 y4, .sl 6 y5], .cells [.sl 5 y6, .int .i64 y7, .int .i64 y8, .bool y9, .int .i64 y10], .cells [.str y11, .str y12, .int .i64 y13, .int .i64 y14, .int .i64 y15, .loc 3], .arr 6 y16]) := by
  induction j with
  | zero => intros; rfl
  | succ j ih =>
    intro kx kr x0 x1 x2 x3 x4 x5 x6 x7 x8 x9 x10 x11 x12 x13 x14 x15 x16
    refine Eq.trans ?_ (Eq.trans (Eq.trans (publicanref9_Parse_S0_eq m (fun vs os => loopP tb (publicanref9_Parse_G m) 0 Tryz.f9.ntmps [(8, .cells [(5, 6)]), (7, .any), (2, .fcells [(5, 6)])] [(2, .any), (7, .any), (8, .any)] [] [] (lpC (bodyOf Tryz.f9) 0) j vs os kx kr) kx kr x0 x1 x2 x3 x4 x5 x6 x7 x8 x9 x10 x11 x12 x13 x14 x15 x16) (congrArg (fun ρ => publicanref9_Parse_S0 m ρ (fun y0 y1 y2 y3 y4 y5 y6 y7 y8 y9 y10 y11 y12 y13 y14 y15 y16 => kx 0 [.ptr 0 0, .ptr 1 0, .ptr 2 0] [.cells [.str y0, .str y1, .int .i64 y2, .int .i64 y3, .int .i64 y4, .sl 6 y5], .cells [.sl 5 y6, .int .i64 y7, .int .i64 y8, .bool y9, .int .i64 y10], .cells [.str y11, .str y12, .int .i64 y13, .int .i64 y14, .int .i64 y15, .loc 3], .arr 6 y16]) x0 x1 x2 x3 x4 x5 x6 x7 x8 x9 x10 x11 x12 x13 x14 x15 x16) (funext fun x0 => funext fun x1 => funext fun x2 => funext fun x3 => funext fun x4 => funext fun x5 => funext fun x6 => funext fun x7 => funext fun x8 => funext fun x9 => funext fun x10 => funext fun x11 => funext fun x12 => funext fun x13 => funext fun x14 => funext fun x15 => funext fun x16 => ih kx kr x0 x1 x2 x3 x4 x5 x6 x7 x8 x9 x10 x11 x12 x13 x14 x15 x16))) ?_) <;> kernel_rfl
noncomputable def publicanref9_Parse_X0 (m : Nat) : LoopH R := ⟨[(8, .cells [(5, 6)]), (7, .any), (2, .fcells [(5, 6)])], [(2, .any), (7, .any), (8, .any)], [], fun vs os kx kr => match vs, os with | [v0_, v1_, v2_], [q0_, q1_, q2_, q3_] => ((rdPtr 0 0 v0_).bind fun u0 => (rdPtr 1 0 v1_).bind fun u1 => (rdPtr 2 0 v2_).bind fun u2 => (rdCells q0_).bind fun l3 => match l3 with | [c4_0, c4_1, c4_2, c4_3, c4_4, c4_5] => ((rdStr c4_0).bind fun x0 => (rdStr c4_1).bind fun x1 => (rdInt .i64 c4_2).bind fun x2 => (rdInt .i64 c4_3).bind fun x3 => (rdInt .i64 c4_4).bind fun x4 => (rdLoc 3 c4_5).bind fun u5 => (rdCells q1_).bind fun l6 => match l6 with | [c7_0, c7_1, c7_2, c7_3, c7_4] => ((rdSl 5 c7_0).bind fun x5 => (rdInt .i64 c7_1).bind fun x6 => (rdInt .i64 c7_2).bind fun x7 => (rdBool c7_3).bind fun x8 => (rdInt .i64 c7_4).bind fun x9 => (rdCells q2_).bind fun l8 => match l8 with | [c9_0, c9_1, c9_2, c9_3, c9_4, c9_5] => ((rdStr c9_0).bind fun x10 => (rdStr c9_1).bind fun x11 => (rdInt .i64 c9_2).bind fun x12 => (rdInt .i64 c9_3).bind fun x13 => (rdInt .i64 c9_4).bind fun x14 => (rdSl 6 c9_5).bind fun x15 => (rdArr 6 q3_).bind fun x16 => publicanref9_Parse_L0 m m x0 x1 x2 x3 x4 x5 x6 x7 x8 x9 x10 x11 x12 x13 x14 x15 x16 (fun y0 y1 y2 y3 y4 y5 y6 y7 y8 y9 y10 y11 y12 y13 y14 y15 y16 => kx 0 [.ptr 0 0, .ptr 1 0, .ptr 2 0] [.cells [.str y0, .str y1, .int .i64 y2, .int .i64 y3, .int .i64 y4, .sl 6 y5], .cells [.sl 5 y6, .int .i64 y7, .int .i64 y8, .bool y9, .int .i64 y10], .cells [.str y11, .str y12, .int .i64 y13, .int .i64 y14, .int .i64 y15, .loc 3], .arr 6 y16])) | _ => none) | _ => none) | _ => none) | _, _ => none⟩
set_option maxHeartbeats 4000000 in
theorem publicanref9_Parse_X0_ok {m : Nat} (HG : ∀ f, SemOK cxP f (publicanref9_Parse_G (R := R) m f)) : LoopSem cxP Tryz.f9.ntmps 0 (lpC (bodyOf Tryz.f9) 0) (publicanref9_Parse_X0 (R := R) m) :=
  loop_of C HG (L := []) (by kernel_rfl) (by rw [show loopsIn (lpC (bodyOf Tryz.f9) 0) = [] from by kernel_rfl]; exact (.nil _)) m fun vs os kx kr r h => by
    try dsimp only at h
    split at h; rotate_left; cases h
    rename_i v0_ v1_ v2_ q0_ q1_ q2_ q3_
    replace h := Option.bind_eq_some_iff.1 h; obtain ⟨u0, hh, h⟩ := h; obtain rfl := rdPtr_eq hh; clear hh
    replace h := Option.bind_eq_some_iff.1 h; obtain ⟨u1, hh, h⟩ := h; obtain rfl := rdPtr_eq hh; clear hh
    replace h := Option.bind_eq_some_iff.1 h; obtain ⟨u2, hh, h⟩ := h; obtain rfl := rdPtr_eq hh; clear hh
    replace h := Option.bind_eq_some_iff.1 h; obtain ⟨l3, hh, h⟩ := h; obtain rfl := rdCells_eq hh; clear hh
    split at h; rotate_left; cases h
    rename_i c4_0 c4_1 c4_2 c4_3 c4_4 c4_5
    replace h := Option.bind_eq_some_iff.1 h; obtain ⟨x0, hh, h⟩ := h; obtain rfl := rdStr_eq hh; clear hh
    replace h := Option.bind_eq_some_iff.1 h; obtain ⟨x1, hh, h⟩ := h; obtain rfl := rdStr_eq hh; clear hh
    replace h := Option.bind_eq_some_iff.1 h; obtain ⟨x2, hh, h⟩ := h; obtain rfl := rdInt_eq hh; clear hh
    replace h := Option.bind_eq_some_iff.1 h; obtain ⟨x3, hh, h⟩ := h; obtain rfl := rdInt_eq hh; clear hh
    replace h := Option.bind_eq_some_iff.1 h; obtain ⟨x4, hh, h⟩ := h; obtain rfl := rdInt_eq hh; clear hh
    replace h := Option.bind_eq_some_iff.1 h; obtain ⟨u5, hh, h⟩ := h; obtain rfl := rdLoc_eq hh; clear hh
    replace h := Option.bind_eq_some_iff.1 h; obtain ⟨l6, hh, h⟩ := h; obtain rfl := rdCells_eq hh; clear hh
    split at h; rotate_left; cases h
    rename_i c7_0 c7_1 c7_2 c7_3 c7_4
    replace h := Option.bind_eq_some_iff.1 h; obtain ⟨x5, hh, h⟩ := h; obtain rfl := rdSl_eq hh; clear hh
    replace h := Option.bind_eq_some_iff.1 h; obtain ⟨x6, hh, h⟩ := h; obtain rfl := rdInt_eq hh; clear hh
    replace h := Option.bind_eq_some_iff.1 h; obtain ⟨x7, hh, h⟩ := h; obtain rfl := rdInt_eq hh; clear hh
    replace h := Option.bind_eq_some_iff.1 h; obtain ⟨x8, hh, h⟩ := h; obtain rfl := rdBool_eq hh; clear hh
    replace h := Option.bind_eq_some_iff.1 h; obtain ⟨x9, hh, h⟩ := h; obtain rfl := rdInt_eq hh; clear hh
    replace h := Option.bind_eq_some_iff.1 h; obtain ⟨l8, hh, h⟩ := h; obtain rfl := rdCells_eq hh; clear hh
    split at h; rotate_left; cases h
    rename_i c9_0 c9_1 c9_2 c9_3 c9_4 c9_5
    replace h := Option.bind_eq_some_iff.1 h; obtain ⟨x10, hh, h⟩ := h; obtain rfl := rdStr_eq hh; clear hh
    replace h := Option.bind_eq_some_iff.1 h; obtain ⟨x11, hh, h⟩ := h; obtain rfl := rdStr_eq hh; clear hh
    replace h := Option.bind_eq_some_iff.1 h; obtain ⟨x12, hh, h⟩ := h; obtain rfl := rdInt_eq hh; clear hh
    replace h := Option.bind_eq_some_iff.1 h; obtain ⟨x13, hh, h⟩ := h; obtain rfl := rdInt_eq hh; clear hh
    replace h := Option.bind_eq_some_iff.1 h; obtain ⟨x14, hh, h⟩ := h; obtain rfl := rdInt_eq hh; clear hh
    replace h := Option.bind_eq_some_iff.1 h; obtain ⟨x15, hh, h⟩ := h; obtain rfl := rdSl_eq hh; clear hh
    replace h := Option.bind_eq_some_iff.1 h; obtain ⟨x16, hh, h⟩ := h; obtain rfl := rdArr_eq hh; clear hh
    exact (publicanref9_Parse_L0_eq m m kx kr x0 x1 x2 x3 x4 x5 x6 x7 x8 x9 x10 x11 x12 x13 x14 x15 x16).trans h
noncomputable def publicanref9_Parse_w (F : List UInt8 → (T_publicanref9_Node → Int → Bool → Option R) → Option R) : PSem R := fun vs os κ => match vs, os with | [v0_], [] => ((rdStr v0_).bind fun a0 => F a0 (fun r_0 r_1 r_2 => κ (.tup [.st 6 r_0, .int .i64 r_1, .bool r_2]) [])) | _, _ => none
def publicanref9_Parse_ac : List (Option (Bool × Nat)) := [none]
set_option maxRecDepth 100000 in
theorem publicanref9_Parse_eq (m : Nat) (a0 : List UInt8) (κ : V → List PObj → Option R) : pFun tb (publicanref9_Parse_G m) 0 [publicanref9_Parse_X0 m] [some (false, 6), none, none] Tryz.f9 [.str a0] [] κ = publicanref9_Parse m a0 (fun r_0 r_1 r_2 => κ (.tup [.st 6 r_0, .int .i64 r_1, .bool r_2]) []) := by
  delta publicanref9_Parse_G publicanref9_Parse publicanref9_Cut_sem publicanref9_parser_decl_sem publicanref9_Parse_X0
  generalize publicanref9_Cut (R := R) m = c0
  generalize publicanref9_parser_decl (R := R) m = c1
  generalize publicanref9_Parse_L0 (R := R) m = c2
  refine id ?_
  kernel_rfl
noncomputable def publicanref9_Parse_sem (m : Nat) : PSem R := semOf publicanref9_Parse_ac (publicanref9_Parse_w (publicanref9_Parse m))
theorem publicanref9_Parse_ok (m : Nat) : SemOK cxP 9 (publicanref9_Parse_sem (R := R) m) :=
  have HG : ∀ f, SemOK cxP f (publicanref9_Parse_G (R := R) m f) := tabG_ok (.cons (publicanref9_Cut_ok m) (.cons (publicanref9_parser_decl_ok m) .nil))
  semOf_ok (fun_of C HG (L := [publicanref9_Parse_X0 m]) (rc := [some (false, 6), none, none]) (k := 0) (fn_of Tryz.func9) rfl rfl (by kernel_rfl) (by rw [show loopsIn (bodyOf Tryz.f9) = [(lpC (bodyOf Tryz.f9) 0)] from by kernel_rfl]; exact (.cons (publicanref9_Parse_X0_ok HG) (.nil _))) fun vs os κ r h => by
    unfold publicanref9_Parse_w at h
    split at h; rotate_left; cases h
    rename_i v0_
    replace h := Option.bind_eq_some_iff.1 h; obtain ⟨a0, hh, h⟩ := h; obtain rfl := rdStr_eq hh; clear hh
    exact (publicanref9_Parse_eq m a0 κ).trans h
)
end Go.Pm
namespace Go.Pm
open Go Go.EvM Go.Pv Go.Proofs
set_option linter.unusedVariables false
set_option linter.unusedSectionVars false
variable {R : Type}
noncomputable def publicanref17_Read_G (m : Nat) : FuncId → PSem R := tabG [(9, publicanref9_Parse_sem m), (21, publicanref17_Back_sem m)]
noncomputable def publicanref17_Read_w (F : List UInt8 → (T_syn_Node → T_publicanref9_Node → Bool → Option R) → Option R) : PSem R := fun vs os κ => match vs, os with | [v0_], [] => ((rdStr v0_).bind fun a0 => F a0 (fun r_0 r_1 r_2 => κ (.tup [.st 7 r_0, .st 6 r_1, .bool r_2]) [])) | _, _ => none
def publicanref17_Read_ac : List (Option (Bool × Nat)) := [none]
set_option maxRecDepth 100000 in
theorem publicanref17_Read_eq (m : Nat) (a0 : List UInt8) (κ : V → List PObj → Option R) : pFun tb (publicanref17_Read_G m) 0 [] [some (false, 7), some (false, 6), none] Tryz.f12 [.str a0] [] κ = publicanref17_Read m a0 (fun r_0 r_1 r_2 => κ (.tup [.st 7 r_0, .st 6 r_1, .bool r_2]) []) := by
  delta publicanref17_Read_G publicanref17_Read publicanref9_Parse_sem publicanref17_Back_sem
  generalize publicanref9_Parse (R := R) m = c0
  generalize publicanref17_Back (R := R) m = c1
  refine id ?_
  kernel_rfl
noncomputable def publicanref17_Read_sem (m : Nat) : PSem R := semOf publicanref17_Read_ac (publicanref17_Read_w (publicanref17_Read m))
theorem publicanref17_Read_ok (m : Nat) : SemOK cxP 12 (publicanref17_Read_sem (R := R) m) :=
  have HG : ∀ f, SemOK cxP f (publicanref17_Read_G (R := R) m f) := tabG_ok (.cons (publicanref9_Parse_ok m) (.cons (publicanref17_Back_ok m) .nil))
  semOf_ok (fun_of C HG (L := []) (rc := [some (false, 7), some (false, 6), none]) (k := 0) (fn_of Tryz.func12) rfl rfl (by kernel_rfl) (by rw [show loopsIn (bodyOf Tryz.f12) = [] from by kernel_rfl]; exact (.nil _)) fun vs os κ r h => by
    unfold publicanref17_Read_w at h
    split at h; rotate_left; cases h
    rename_i v0_
    replace h := Option.bind_eq_some_iff.1 h; obtain ⟨a0, hh, h⟩ := h; obtain rfl := rdStr_eq hh; clear hh
    exact (publicanref17_Read_eq m a0 κ).trans h
)
noncomputable def publicanlaw10_SynSame_G (m : Nat) : FuncId → PSem R := tabG [(7, publicanlaw10_awake_sem m), (12, publicanref17_Read_sem m), (15, syn_Same_sem m), (16, publicanref9_Same_sem m)]
noncomputable def publicanlaw10_SynSame_w (F : List UInt8 → List UInt8 → Int → (Bool → Option R) → Option R) : PSem R := fun vs os κ => match vs, os with | [v0_, v1_, v2_], [] => ((rdStr v0_).bind fun a0 => (rdStr v1_).bind fun a1 => (rdInt .i64 v2_).bind fun a2 => F a0 a1 a2 (fun r => κ (.bool r) [])) | _, _ => none
def publicanlaw10_SynSame_ac : List (Option (Bool × Nat)) := [none, none, none]
set_option maxRecDepth 100000 in
theorem publicanlaw10_SynSame_eq (m : Nat) (a0 : List UInt8) (a1 : List UInt8) (a2 : Int) (κ : V → List PObj → Option R) : pFun tb (publicanlaw10_SynSame_G m) 0 [] [none] Tryz.f5 [.str a0, .str a1, .int .i64 a2] [] κ = publicanlaw10_SynSame m a0 a1 a2 (fun r => κ (.bool r) []) := by
  delta publicanlaw10_SynSame_G publicanlaw10_SynSame publicanlaw10_awake_sem publicanref17_Read_sem syn_Same_sem publicanref9_Same_sem
  generalize publicanlaw10_awake (R := R) m = c0
  generalize publicanref17_Read (R := R) m = c1
  generalize syn_Same (R := R) m = c2
  generalize publicanref9_Same (R := R) m = c3
  refine id ?_
  kernel_rfl
noncomputable def publicanlaw10_SynSame_sem (m : Nat) : PSem R := semOf publicanlaw10_SynSame_ac (publicanlaw10_SynSame_w (publicanlaw10_SynSame m))
theorem publicanlaw10_SynSame_ok (m : Nat) : SemOK cxP 5 (publicanlaw10_SynSame_sem (R := R) m) :=
  have HG : ∀ f, SemOK cxP f (publicanlaw10_SynSame_G (R := R) m f) := tabG_ok (.cons (publicanlaw10_awake_ok m) (.cons (publicanref17_Read_ok m) (.cons (syn_Same_ok m) (.cons (publicanref9_Same_ok m) .nil))))
  semOf_ok (fun_of C HG (L := []) (rc := [none]) (k := 0) (fn_of Tryz.func5) rfl rfl (by kernel_rfl) (by rw [show loopsIn (bodyOf Tryz.f5) = [] from by kernel_rfl]; exact (.nil _)) fun vs os κ r h => by
    unfold publicanlaw10_SynSame_w at h
    split at h; rotate_left; cases h
    rename_i v0_ v1_ v2_
    replace h := Option.bind_eq_some_iff.1 h; obtain ⟨a0, hh, h⟩ := h; obtain rfl := rdStr_eq hh; clear hh
    replace h := Option.bind_eq_some_iff.1 h; obtain ⟨a1, hh, h⟩ := h; obtain rfl := rdStr_eq hh; clear hh
    replace h := Option.bind_eq_some_iff.1 h; obtain ⟨a2, hh, h⟩ := h; obtain rfl := rdInt_eq hh; clear hh
    exact (publicanlaw10_SynSame_eq m a0 a1 a2 κ).trans h
)
end Go.Pm
