/- The interpreter over data answers as the plain functions say. -/
import Derived.Test.YtjeipnpjkiapgaaGreatDoorPmC
set_option linter.unusedVariables false
set_option linter.unusedSectionVars false
set_option linter.unusedSimpArgs false
namespace Go.Pm
open Go Go.EvM Go.Pv Go.Proofs
set_option linter.unusedVariables false
set_option linter.unusedSectionVars false
variable {R : Type}
noncomputable def publicanref9_parser_row_G (m : Nat) (g : G_publicanref9_parser_expr R) : FuncId → PSem R := tabG [(140, semOf publicanref9_parser_un_ac (publicanref9_parser_un_w g.publicanref9_parser_un)), (116, semOf publicanref9_parser_row_ac (publicanref9_parser_row_w g.publicanref9_parser_row)), (44, publicanref9_parser_w_sem m), (45, publicanref9_parser_take_sem m)]
set_option maxRecDepth 100000 in
theorem publicanref9_parser_row_S0_0_eq (m : Nat) (g : G_publicanref9_parser_expr R) (ρ : List V → List PObj → Option R) (kx : Nat → List V → List PObj → Option R) (kr : List V → List PObj → Option R) (x0 : Int) (x1 : List (List UInt8)) (x2 : Int) (x3 : Int) (x4 : List UInt8) (x5 : List T_publicanref9_Word) (x6 : Int) (x7 : Int) (x8 : Bool) (x9 : Int) (x10 : List UInt8) (x11 : List UInt8) (x12 : Int) (x13 : Int) (x14 : Int) (x15 : List T_publicanref9_Node) (x16 : List UInt8) (x17 : List UInt8) (x18 : Int) (x19 : Int) (x20 : Int) (x21 : List T_publicanref9_Node) : pCode tb (publicanref9_parser_row_G m g) 1 Tryz.f116.ntmps (lpC (lpC (bodyOf Tryz.f116) 0) 0) [] (fun s => match head 1 [(9, .any), (5, .any), (0, .any), (4, .fcells [(5, 6)]), (6, .fcells [(5, 6)]), (1, .any), (7, .any), (8, .any)] s with | (vs, os) => ρ vs os) (fun i s => match head 1 [(4, .any), (6, .any), (5, .any), (0, .any), (1, .any), (7, .any), (8, .any)] s with | (vs, os) => kx i vs os) (fun s => match head 1 [] s with | (vs, os) => kr vs os) ⟨mkEnv [(9, .any), (5, .any), (0, .any), (4, .fcells [(5, 6)]), (6, .fcells [(5, 6)]), (1, .any), (7, .any), (8, .any)] [.int .i64 x0, .sl 2 x1, .ptr 0 0, .ptr 1 0, .ptr 2 0, .int .i64 x2, .int .i64 x3, .str x4], [.cells [.sl 5 x5, .int .i64 x6, .int .i64 x7, .bool x8, .int .i64 x9], .cells [.str x10, .str x11, .int .i64 x12, .int .i64 x13, .int .i64 x14, .sl 6 x15], .cells [.str x16, .str x17, .int .i64 x18, .int .i64 x19, .int .i64 x20, .sl 6 x21]]⟩ = publicanref9_parser_row_S0_0 m g (fun x0 x1 x2 x3 x4 x5 x6 x7 x8 x9 x10 x11 x12 x13 x14 x15 x16 x17 x18 x19 x20 x21 => ρ [.int .i64 x0, .sl 2 x1, .ptr 0 0, .ptr 1 0, .ptr 2 0, .int .i64 x2, .int .i64 x3, .str x4] [.cells [.sl 5 x5, .int .i64 x6, .int .i64 x7, .bool x8, .int .i64 x9], .cells [.str x10, .str x11, .int .i64 x12, .int .i64 x13, .int .i64 x14, .sl 6 x15], .cells [.str x16, .str x17, .int .i64 x18, .int .i64 x19, .int .i64 x20, .sl 6 x21]]) (fun y0 y1 y2 y3 y4 y5 y6 y7 y8 y9 y10 y11 y12 y13 y14 y15 y16 y17 y18 y19 y20 => kx 2 [.ptr 1 0, .ptr 2 0, .sl 2 y0, .ptr 0 0, .int .i64 y1, .int .i64 y2, .str y3] [.cells [.sl 5 y4, .int .i64 y5, .int .i64 y6, .bool y7, .int .i64 y8], .cells [.str y9, .str y10, .int .i64 y11, .int .i64 y12, .int .i64 y13, .sl 6 y14], .cells [.str y15, .str y16, .int .i64 y17, .int .i64 y18, .int .i64 y19, .sl 6 y20]]) x0 x1 x2 x3 x4 x5 x6 x7 x8 x9 x10 x11 x12 x13 x14 x15 x16 x17 x18 x19 x20 x21 := by
  delta publicanref9_parser_row_G publicanref9_parser_row_S0_0 publicanref9_parser_w_sem publicanref9_parser_take_sem
  generalize publicanref9_parser_w (R := R) m = c0
  generalize publicanref9_parser_take (R := R) m = c1
  refine id ?_
  kernel_rfl
set_option maxHeartbeats 4000000 in
theorem publicanref9_parser_row_L0_0_eq (m : Nat) (g : G_publicanref9_parser_expr R) (j : Nat) : ∀ (kx : Nat → List V → List PObj → Option R) (kr : List V → List PObj → Option R) (x0 : Int) (x1 : List (List UInt8)) (x2 : Int) (x3 : Int) (x4 : List UInt8) (x5 : List T_publicanref9_Word) (x6 : Int) (x7 : Int) (x8 : Bool) (x9 : Int) (x10 : List UInt8) (x11 : List UInt8) (x12 : Int) (x13 : Int) (x14 : Int) (x15 : List T_publicanref9_Node) (x16 : List UInt8) (x17 : List UInt8) (x18 : Int) (x19 : Int) (x20 : Int) (x21 : List T_publicanref9_Node), loopP tb (publicanref9_parser_row_G m g) 1 Tryz.f116.ntmps [(9, .any), (5, .any), (0, .any), (4, .fcells [(5, 6)]), (6, .fcells [(5, 6)]), (1, .any), (7, .any), (8, .any)] [(4, .any), (6, .any), (5, .any), (0, .any), (1, .any), (7, .any), (8, .any)] [] [] (lpC (lpC (bodyOf Tryz.f116) 0) 0) j [.int .i64 x0, .sl 2 x1, .ptr 0 0, .ptr 1 0, .ptr 2 0, .int .i64 x2, .int .i64 x3, .str x4] [.cells [.sl 5 x5, .int .i64 x6, .int .i64 x7, .bool x8, .int .i64 x9], .cells [.str x10, .str x11, .int .i64 x12, .int .i64 x13, .int .i64 x14, .sl 6 x15], .cells [.str x16, .str x17, .int .i64 x18, .int .i64 x19, .int .i64 x20, .sl 6 x21]] kx kr = publicanref9_parser_row_L0_0 m g j x0 x1 x2 x3 x4 x5 x6 x7 x8 x9 x10 x11 x12 x13 x14 x15 x16 x17 x18 x19 x20 x21 (fun y0 y1 y2 y3 y4 y5 y6 y7 y8 y9 y10 y11 y12 y13 y14 y15 y16 y17 y18 y19 y20 => kx 2 [.ptr 1 0, .ptr 2 0, .sl 2 y0, .ptr 0 0, .int .i64 y1, .int .i64 y2, .str y3] [.cells [.sl 5 y4, .int .i64 y5, .int .i64 y6, .bool y7, .int .i64 y8], .cells [.str y9, .str y10, .int .i64 y11, .int .i64 y12, .int .i64 y13, .sl 6 y14], .cells [.str y15, .str y16, .int .i64 y17, .int .i64 y18, .int .i64 y19, .sl 6 y20]]) := by
  induction j with
  | zero => intros; rfl
  | succ j ih =>
    intro kx kr x0 x1 x2 x3 x4 x5 x6 x7 x8 x9 x10 x11 x12 x13 x14 x15 x16 x17 x18 x19 x20 x21
    refine Eq.trans ?_ (Eq.trans (Eq.trans (publicanref9_parser_row_S0_0_eq m g (fun vs os => loopP tb (publicanref9_parser_row_G m g) 1 Tryz.f116.ntmps [(9, .any), (5, .any), (0, .any), (4, .fcells [(5, 6)]), (6, .fcells [(5, 6)]), (1, .any), (7, .any), (8, .any)] [(4, .any), (6, .any), (5, .any), (0, .any), (1, .any), (7, .any), (8, .any)] [] [] (lpC (lpC (bodyOf Tryz.f116) 0) 0) j vs os kx kr) kx kr x0 x1 x2 x3 x4 x5 x6 x7 x8 x9 x10 x11 x12 x13 x14 x15 x16 x17 x18 x19 x20 x21) (congrArg (fun ρ => publicanref9_parser_row_S0_0 m g ρ (fun y0 y1 y2 y3 y4 y5 y6 y7 y8 y9 y10 y11 y12 y13 y14 y15 y16 y17 y18 y19 y20 => kx 2 [.ptr 1 0, .ptr 2 0, .sl 2 y0, .ptr 0 0, .int .i64 y1, .int .i64 y2, .str y3] [.cells [.sl 5 y4, .int .i64 y5, .int .i64 y6, .bool y7, .int .i64 y8], .cells [.str y9, .str y10, .int .i64 y11, .int .i64 y12, .int .i64 y13, .sl 6 y14], .cells [.str y15, .str y16, .int .i64 y17, .int .i64 y18, .int .i64 y19, .sl 6 y20]]) x0 x1 x2 x3 x4 x5 x6 x7 x8 x9 x10 x11 x12 x13 x14 x15 x16 x17 x18 x19 x20 x21) (funext fun x0 => funext fun x1 => funext fun x2 => funext fun x3 => funext fun x4 => funext fun x5 => funext fun x6 => funext fun x7 => funext fun x8 => funext fun x9 => funext fun x10 => funext fun x11 => funext fun x12 => funext fun x13 => funext fun x14 => funext fun x15 => funext fun x16 => funext fun x17 => funext fun x18 => funext fun x19 => funext fun x20 => funext fun x21 => ih kx kr x0 x1 x2 x3 x4 x5 x6 x7 x8 x9 x10 x11 x12 x13 x14 x15 x16 x17 x18 x19 x20 x21))) ?_) <;> kernel_rfl
noncomputable def publicanref9_parser_row_X0_0 (m : Nat) (g : G_publicanref9_parser_expr R) : LoopH R := ⟨[(9, .any), (5, .any), (0, .any), (4, .fcells [(5, 6)]), (6, .fcells [(5, 6)]), (1, .any), (7, .any), (8, .any)], [(4, .any), (6, .any), (5, .any), (0, .any), (1, .any), (7, .any), (8, .any)], [], fun vs os kx kr => match vs, os with | [v0_, v1_, v2_, v3_, v4_, v5_, v6_, v7_], [q0_, q1_, q2_] => ((rdInt .i64 v0_).bind fun x0 => (rdSl 2 v1_).bind fun x1 => (rdPtr 0 0 v2_).bind fun u0 => (rdPtr 1 0 v3_).bind fun u1 => (rdPtr 2 0 v4_).bind fun u2 => (rdInt .i64 v5_).bind fun x2 => (rdInt .i64 v6_).bind fun x3 => (rdStr v7_).bind fun x4 => (rdCells q0_).bind fun l3 => match l3 with | [c4_0, c4_1, c4_2, c4_3, c4_4] => ((rdSl 5 c4_0).bind fun x5 => (rdInt .i64 c4_1).bind fun x6 => (rdInt .i64 c4_2).bind fun x7 => (rdBool c4_3).bind fun x8 => (rdInt .i64 c4_4).bind fun x9 => (rdCells q1_).bind fun l5 => match l5 with | [c6_0, c6_1, c6_2, c6_3, c6_4, c6_5] => ((rdStr c6_0).bind fun x10 => (rdStr c6_1).bind fun x11 => (rdInt .i64 c6_2).bind fun x12 => (rdInt .i64 c6_3).bind fun x13 => (rdInt .i64 c6_4).bind fun x14 => (rdSl 6 c6_5).bind fun x15 => (rdCells q2_).bind fun l7 => match l7 with | [c8_0, c8_1, c8_2, c8_3, c8_4, c8_5] => ((rdStr c8_0).bind fun x16 => (rdStr c8_1).bind fun x17 => (rdInt .i64 c8_2).bind fun x18 => (rdInt .i64 c8_3).bind fun x19 => (rdInt .i64 c8_4).bind fun x20 => (rdSl 6 c8_5).bind fun x21 => publicanref9_parser_row_L0_0 m g m x0 x1 x2 x3 x4 x5 x6 x7 x8 x9 x10 x11 x12 x13 x14 x15 x16 x17 x18 x19 x20 x21 (fun y0 y1 y2 y3 y4 y5 y6 y7 y8 y9 y10 y11 y12 y13 y14 y15 y16 y17 y18 y19 y20 => kx 2 [.ptr 1 0, .ptr 2 0, .sl 2 y0, .ptr 0 0, .int .i64 y1, .int .i64 y2, .str y3] [.cells [.sl 5 y4, .int .i64 y5, .int .i64 y6, .bool y7, .int .i64 y8], .cells [.str y9, .str y10, .int .i64 y11, .int .i64 y12, .int .i64 y13, .sl 6 y14], .cells [.str y15, .str y16, .int .i64 y17, .int .i64 y18, .int .i64 y19, .sl 6 y20]])) | _ => none) | _ => none) | _ => none) | _, _ => none⟩
set_option maxHeartbeats 4000000 in
theorem publicanref9_parser_row_X0_0_ok {m : Nat} {g : G_publicanref9_parser_expr R} (HG : ∀ f, SemOK cxP f (publicanref9_parser_row_G (R := R) m g f)) : LoopSem cxP Tryz.f116.ntmps 1 (lpC (lpC (bodyOf Tryz.f116) 0) 0) (publicanref9_parser_row_X0_0 (R := R) m g) :=
  loop_of C HG (L := []) (by kernel_rfl) (by rw [show loopsIn (lpC (lpC (bodyOf Tryz.f116) 0) 0) = [] from by kernel_rfl]; exact (.nil _)) m fun vs os kx kr r h => by
    try dsimp only at h
    split at h; rotate_left; cases h
    rename_i v0_ v1_ v2_ v3_ v4_ v5_ v6_ v7_ q0_ q1_ q2_
    replace h := Option.bind_eq_some_iff.1 h; obtain ⟨x0, hh, h⟩ := h; obtain rfl := rdInt_eq hh; clear hh
    replace h := Option.bind_eq_some_iff.1 h; obtain ⟨x1, hh, h⟩ := h; obtain rfl := rdSl_eq hh; clear hh
    replace h := Option.bind_eq_some_iff.1 h; obtain ⟨u0, hh, h⟩ := h; obtain rfl := rdPtr_eq hh; clear hh
    replace h := Option.bind_eq_some_iff.1 h; obtain ⟨u1, hh, h⟩ := h; obtain rfl := rdPtr_eq hh; clear hh
    replace h := Option.bind_eq_some_iff.1 h; obtain ⟨u2, hh, h⟩ := h; obtain rfl := rdPtr_eq hh; clear hh
    replace h := Option.bind_eq_some_iff.1 h; obtain ⟨x2, hh, h⟩ := h; obtain rfl := rdInt_eq hh; clear hh
    replace h := Option.bind_eq_some_iff.1 h; obtain ⟨x3, hh, h⟩ := h; obtain rfl := rdInt_eq hh; clear hh
    replace h := Option.bind_eq_some_iff.1 h; obtain ⟨x4, hh, h⟩ := h; obtain rfl := rdStr_eq hh; clear hh
    replace h := Option.bind_eq_some_iff.1 h; obtain ⟨l3, hh, h⟩ := h; obtain rfl := rdCells_eq hh; clear hh
    split at h; rotate_left; cases h
    rename_i c4_0 c4_1 c4_2 c4_3 c4_4
    replace h := Option.bind_eq_some_iff.1 h; obtain ⟨x5, hh, h⟩ := h; obtain rfl := rdSl_eq hh; clear hh
    replace h := Option.bind_eq_some_iff.1 h; obtain ⟨x6, hh, h⟩ := h; obtain rfl := rdInt_eq hh; clear hh
    replace h := Option.bind_eq_some_iff.1 h; obtain ⟨x7, hh, h⟩ := h; obtain rfl := rdInt_eq hh; clear hh
    replace h := Option.bind_eq_some_iff.1 h; obtain ⟨x8, hh, h⟩ := h; obtain rfl := rdBool_eq hh; clear hh
    replace h := Option.bind_eq_some_iff.1 h; obtain ⟨x9, hh, h⟩ := h; obtain rfl := rdInt_eq hh; clear hh
    replace h := Option.bind_eq_some_iff.1 h; obtain ⟨l5, hh, h⟩ := h; obtain rfl := rdCells_eq hh; clear hh
    split at h; rotate_left; cases h
    rename_i c6_0 c6_1 c6_2 c6_3 c6_4 c6_5
    replace h := Option.bind_eq_some_iff.1 h; obtain ⟨x10, hh, h⟩ := h; obtain rfl := rdStr_eq hh; clear hh
    replace h := Option.bind_eq_some_iff.1 h; obtain ⟨x11, hh, h⟩ := h; obtain rfl := rdStr_eq hh; clear hh
    replace h := Option.bind_eq_some_iff.1 h; obtain ⟨x12, hh, h⟩ := h; obtain rfl := rdInt_eq hh; clear hh
    replace h := Option.bind_eq_some_iff.1 h; obtain ⟨x13, hh, h⟩ := h; obtain rfl := rdInt_eq hh; clear hh
    replace h := Option.bind_eq_some_iff.1 h; obtain ⟨x14, hh, h⟩ := h; obtain rfl := rdInt_eq hh; clear hh
    replace h := Option.bind_eq_some_iff.1 h; obtain ⟨x15, hh, h⟩ := h; obtain rfl := rdSl_eq hh; clear hh
    replace h := Option.bind_eq_some_iff.1 h; obtain ⟨l7, hh, h⟩ := h; obtain rfl := rdCells_eq hh; clear hh
    split at h; rotate_left; cases h
    rename_i c8_0 c8_1 c8_2 c8_3 c8_4 c8_5
    replace h := Option.bind_eq_some_iff.1 h; obtain ⟨x16, hh, h⟩ := h; obtain rfl := rdStr_eq hh; clear hh
    replace h := Option.bind_eq_some_iff.1 h; obtain ⟨x17, hh, h⟩ := h; obtain rfl := rdStr_eq hh; clear hh
    replace h := Option.bind_eq_some_iff.1 h; obtain ⟨x18, hh, h⟩ := h; obtain rfl := rdInt_eq hh; clear hh
    replace h := Option.bind_eq_some_iff.1 h; obtain ⟨x19, hh, h⟩ := h; obtain rfl := rdInt_eq hh; clear hh
    replace h := Option.bind_eq_some_iff.1 h; obtain ⟨x20, hh, h⟩ := h; obtain rfl := rdInt_eq hh; clear hh
    replace h := Option.bind_eq_some_iff.1 h; obtain ⟨x21, hh, h⟩ := h; obtain rfl := rdSl_eq hh; clear hh
    exact (publicanref9_parser_row_L0_0_eq m g m kx kr x0 x1 x2 x3 x4 x5 x6 x7 x8 x9 x10 x11 x12 x13 x14 x15 x16 x17 x18 x19 x20 x21).trans h
set_option maxRecDepth 100000 in
theorem publicanref9_parser_row_S0_eq (m : Nat) (g : G_publicanref9_parser_expr R) (ρ : List V → List PObj → Option R) (kx : Nat → List V → List PObj → Option R) (kr : List V → List PObj → Option R) (x0 : List (List UInt8)) (x1 : Int) (x2 : List T_publicanref9_Word) (x3 : Int) (x4 : Int) (x5 : Bool) (x6 : Int) (x7 : List UInt8) (x8 : List UInt8) (x9 : Int) (x10 : Int) (x11 : Int) (x12 : List T_publicanref9_Node) (x13 : List UInt8) (x14 : List UInt8) (x15 : Int) (x16 : Int) (x17 : Int) (x18 : List T_publicanref9_Node) : pCode tb (publicanref9_parser_row_G m g) 1 Tryz.f116.ntmps (lpC (bodyOf Tryz.f116) 0) [publicanref9_parser_row_X0_0 m g] (fun s => match head 1 [(5, .any), (0, .any), (4, .fcells [(5, 6)]), (6, .fcells [(5, 6)]), (1, .any)] s with | (vs, os) => ρ vs os) (fun i s => match head 1 [] s with | (vs, os) => kx i vs os) (fun s => match head 1 [(4, .fcells [(5, 6)])] s with | (vs, os) => kr vs os) ⟨mkEnv [(5, .any), (0, .any), (4, .fcells [(5, 6)]), (6, .fcells [(5, 6)]), (1, .any)] [.sl 2 x0, .ptr 0 0, .ptr 1 0, .ptr 2 0, .int .i64 x1], [.cells [.sl 5 x2, .int .i64 x3, .int .i64 x4, .bool x5, .int .i64 x6], .cells [.str x7, .str x8, .int .i64 x9, .int .i64 x10, .int .i64 x11, .sl 6 x12], .cells [.str x13, .str x14, .int .i64 x15, .int .i64 x16, .int .i64 x17, .sl 6 x18]]⟩ = publicanref9_parser_row_S0 m g (fun x0 x1 x2 x3 x4 x5 x6 x7 x8 x9 x10 x11 x12 x13 x14 x15 x16 x17 x18 => ρ [.sl 2 x0, .ptr 0 0, .ptr 1 0, .ptr 2 0, .int .i64 x1] [.cells [.sl 5 x2, .int .i64 x3, .int .i64 x4, .bool x5, .int .i64 x6], .cells [.str x7, .str x8, .int .i64 x9, .int .i64 x10, .int .i64 x11, .sl 6 x12], .cells [.str x13, .str x14, .int .i64 x15, .int .i64 x16, .int .i64 x17, .sl 6 x18]]) (fun z0 z1 z2 z3 z4 z5 z6 z7 z8 z9 z10 => kr [.ptr 1 0] [.cells [.sl 5 z0, .int .i64 z1, .int .i64 z2, .bool z3, .int .i64 z4], .cells [.str z5, .str z6, .int .i64 z7, .int .i64 z8, .int .i64 z9, .sl 6 z10]]) x0 x1 x2 x3 x4 x5 x6 x7 x8 x9 x10 x11 x12 x13 x14 x15 x16 x17 x18 := by
  delta publicanref9_parser_row_G publicanref9_parser_row_S0 publicanref9_parser_w_sem publicanref9_parser_take_sem publicanref9_parser_row_X0_0
  generalize publicanref9_parser_w (R := R) m = c0
  generalize publicanref9_parser_take (R := R) m = c1
  generalize publicanref9_parser_row_L0_0 (R := R) m g = c2
  refine id ?_
  kernel_rfl
set_option maxHeartbeats 4000000 in
theorem publicanref9_parser_row_L0_eq (m : Nat) (g : G_publicanref9_parser_expr R) (j : Nat) : ∀ (kx : Nat → List V → List PObj → Option R) (kr : List V → List PObj → Option R) (x0 : List (List UInt8)) (x1 : Int) (x2 : List T_publicanref9_Word) (x3 : Int) (x4 : Int) (x5 : Bool) (x6 : Int) (x7 : List UInt8) (x8 : List UInt8) (x9 : Int) (x10 : Int) (x11 : Int) (x12 : List T_publicanref9_Node) (x13 : List UInt8) (x14 : List UInt8) (x15 : Int) (x16 : Int) (x17 : Int) (x18 : List T_publicanref9_Node), loopP tb (publicanref9_parser_row_G m g) 1 Tryz.f116.ntmps [(5, .any), (0, .any), (4, .fcells [(5, 6)]), (6, .fcells [(5, 6)]), (1, .any)] [] [(4, .fcells [(5, 6)])] [publicanref9_parser_row_X0_0 m g] (lpC (bodyOf Tryz.f116) 0) j [.sl 2 x0, .ptr 0 0, .ptr 1 0, .ptr 2 0, .int .i64 x1] [.cells [.sl 5 x2, .int .i64 x3, .int .i64 x4, .bool x5, .int .i64 x6], .cells [.str x7, .str x8, .int .i64 x9, .int .i64 x10, .int .i64 x11, .sl 6 x12], .cells [.str x13, .str x14, .int .i64 x15, .int .i64 x16, .int .i64 x17, .sl 6 x18]] kx kr = publicanref9_parser_row_L0 m g j x0 x1 x2 x3 x4 x5 x6 x7 x8 x9 x10 x11 x12 x13 x14 x15 x16 x17 x18 (fun z0 z1 z2 z3 z4 z5 z6 z7 z8 z9 z10 => kr [.ptr 1 0] [.cells [.sl 5 z0, .int .i64 z1, .int .i64 z2, .bool z3, .int .i64 z4], .cells [.str z5, .str z6, .int .i64 z7, .int .i64 z8, .int .i64 z9, .sl 6 z10]]) := by
  induction j with
  | zero => intros; rfl
  | succ j ih =>
    intro kx kr x0 x1 x2 x3 x4 x5 x6 x7 x8 x9 x10 x11 x12 x13 x14 x15 x16 x17 x18
    refine Eq.trans ?_ (Eq.trans (Eq.trans (publicanref9_parser_row_S0_eq m g (fun vs os => loopP tb (publicanref9_parser_row_G m g) 1 Tryz.f116.ntmps [(5, .any), (0, .any), (4, .fcells [(5, 6)]), (6, .fcells [(5, 6)]), (1, .any)] [] [(4, .fcells [(5, 6)])] [publicanref9_parser_row_X0_0 m g] (lpC (bodyOf Tryz.f116) 0) j vs os kx kr) kx kr x0 x1 x2 x3 x4 x5 x6 x7 x8 x9 x10 x11 x12 x13 x14 x15 x16 x17 x18) (congrArg (fun ρ => publicanref9_parser_row_S0 m g ρ (fun z0 z1 z2 z3 z4 z5 z6 z7 z8 z9 z10 => kr [.ptr 1 0] [.cells [.sl 5 z0, .int .i64 z1, .int .i64 z2, .bool z3, .int .i64 z4], .cells [.str z5, .str z6, .int .i64 z7, .int .i64 z8, .int .i64 z9, .sl 6 z10]]) x0 x1 x2 x3 x4 x5 x6 x7 x8 x9 x10 x11 x12 x13 x14 x15 x16 x17 x18) (funext fun x0 => funext fun x1 => funext fun x2 => funext fun x3 => funext fun x4 => funext fun x5 => funext fun x6 => funext fun x7 => funext fun x8 => funext fun x9 => funext fun x10 => funext fun x11 => funext fun x12 => funext fun x13 => funext fun x14 => funext fun x15 => funext fun x16 => funext fun x17 => funext fun x18 => ih kx kr x0 x1 x2 x3 x4 x5 x6 x7 x8 x9 x10 x11 x12 x13 x14 x15 x16 x17 x18))) ?_) <;> kernel_rfl
noncomputable def publicanref9_parser_row_X0 (m : Nat) (g : G_publicanref9_parser_expr R) : LoopH R := ⟨[(5, .any), (0, .any), (4, .fcells [(5, 6)]), (6, .fcells [(5, 6)]), (1, .any)], [], [(4, .fcells [(5, 6)])], fun vs os kx kr => match vs, os with | [v0_, v1_, v2_, v3_, v4_], [q0_, q1_, q2_] => ((rdSl 2 v0_).bind fun x0 => (rdPtr 0 0 v1_).bind fun u0 => (rdPtr 1 0 v2_).bind fun u1 => (rdPtr 2 0 v3_).bind fun u2 => (rdInt .i64 v4_).bind fun x1 => (rdCells q0_).bind fun l3 => match l3 with | [c4_0, c4_1, c4_2, c4_3, c4_4] => ((rdSl 5 c4_0).bind fun x2 => (rdInt .i64 c4_1).bind fun x3 => (rdInt .i64 c4_2).bind fun x4 => (rdBool c4_3).bind fun x5 => (rdInt .i64 c4_4).bind fun x6 => (rdCells q1_).bind fun l5 => match l5 with | [c6_0, c6_1, c6_2, c6_3, c6_4, c6_5] => ((rdStr c6_0).bind fun x7 => (rdStr c6_1).bind fun x8 => (rdInt .i64 c6_2).bind fun x9 => (rdInt .i64 c6_3).bind fun x10 => (rdInt .i64 c6_4).bind fun x11 => (rdSl 6 c6_5).bind fun x12 => (rdCells q2_).bind fun l7 => match l7 with | [c8_0, c8_1, c8_2, c8_3, c8_4, c8_5] => ((rdStr c8_0).bind fun x13 => (rdStr c8_1).bind fun x14 => (rdInt .i64 c8_2).bind fun x15 => (rdInt .i64 c8_3).bind fun x16 => (rdInt .i64 c8_4).bind fun x17 => (rdSl 6 c8_5).bind fun x18 => publicanref9_parser_row_L0 m g m x0 x1 x2 x3 x4 x5 x6 x7 x8 x9 x10 x11 x12 x13 x14 x15 x16 x17 x18 (fun z0 z1 z2 z3 z4 z5 z6 z7 z8 z9 z10 => kr [.ptr 1 0] [.cells [.sl 5 z0, .int .i64 z1, .int .i64 z2, .bool z3, .int .i64 z4], .cells [.str z5, .str z6, .int .i64 z7, .int .i64 z8, .int .i64 z9, .sl 6 z10]])) | _ => none) | _ => none) | _ => none) | _, _ => none⟩
set_option maxHeartbeats 4000000 in
theorem publicanref9_parser_row_X0_ok {m : Nat} {g : G_publicanref9_parser_expr R} (HG : ∀ f, SemOK cxP f (publicanref9_parser_row_G (R := R) m g f)) : LoopSem cxP Tryz.f116.ntmps 1 (lpC (bodyOf Tryz.f116) 0) (publicanref9_parser_row_X0 (R := R) m g) :=
  loop_of C HG (L := [publicanref9_parser_row_X0_0 m g]) (by kernel_rfl) (by rw [show loopsIn (lpC (bodyOf Tryz.f116) 0) = [(lpC (lpC (bodyOf Tryz.f116) 0) 0)] from by kernel_rfl]; exact (.cons (publicanref9_parser_row_X0_0_ok HG) (.nil _))) m fun vs os kx kr r h => by
    try dsimp only at h
    split at h; rotate_left; cases h
    rename_i v0_ v1_ v2_ v3_ v4_ q0_ q1_ q2_
    replace h := Option.bind_eq_some_iff.1 h; obtain ⟨x0, hh, h⟩ := h; obtain rfl := rdSl_eq hh; clear hh
    replace h := Option.bind_eq_some_iff.1 h; obtain ⟨u0, hh, h⟩ := h; obtain rfl := rdPtr_eq hh; clear hh
    replace h := Option.bind_eq_some_iff.1 h; obtain ⟨u1, hh, h⟩ := h; obtain rfl := rdPtr_eq hh; clear hh
    replace h := Option.bind_eq_some_iff.1 h; obtain ⟨u2, hh, h⟩ := h; obtain rfl := rdPtr_eq hh; clear hh
    replace h := Option.bind_eq_some_iff.1 h; obtain ⟨x1, hh, h⟩ := h; obtain rfl := rdInt_eq hh; clear hh
    replace h := Option.bind_eq_some_iff.1 h; obtain ⟨l3, hh, h⟩ := h; obtain rfl := rdCells_eq hh; clear hh
    split at h; rotate_left; cases h
    rename_i c4_0 c4_1 c4_2 c4_3 c4_4
    replace h := Option.bind_eq_some_iff.1 h; obtain ⟨x2, hh, h⟩ := h; obtain rfl := rdSl_eq hh; clear hh
    replace h := Option.bind_eq_some_iff.1 h; obtain ⟨x3, hh, h⟩ := h; obtain rfl := rdInt_eq hh; clear hh
    replace h := Option.bind_eq_some_iff.1 h; obtain ⟨x4, hh, h⟩ := h; obtain rfl := rdInt_eq hh; clear hh
    replace h := Option.bind_eq_some_iff.1 h; obtain ⟨x5, hh, h⟩ := h; obtain rfl := rdBool_eq hh; clear hh
    replace h := Option.bind_eq_some_iff.1 h; obtain ⟨x6, hh, h⟩ := h; obtain rfl := rdInt_eq hh; clear hh
    replace h := Option.bind_eq_some_iff.1 h; obtain ⟨l5, hh, h⟩ := h; obtain rfl := rdCells_eq hh; clear hh
    split at h; rotate_left; cases h
    rename_i c6_0 c6_1 c6_2 c6_3 c6_4 c6_5
    replace h := Option.bind_eq_some_iff.1 h; obtain ⟨x7, hh, h⟩ := h; obtain rfl := rdStr_eq hh; clear hh
    replace h := Option.bind_eq_some_iff.1 h; obtain ⟨x8, hh, h⟩ := h; obtain rfl := rdStr_eq hh; clear hh
    replace h := Option.bind_eq_some_iff.1 h; obtain ⟨x9, hh, h⟩ := h; obtain rfl := rdInt_eq hh; clear hh
    replace h := Option.bind_eq_some_iff.1 h; obtain ⟨x10, hh, h⟩ := h; obtain rfl := rdInt_eq hh; clear hh
    replace h := Option.bind_eq_some_iff.1 h; obtain ⟨x11, hh, h⟩ := h; obtain rfl := rdInt_eq hh; clear hh
    replace h := Option.bind_eq_some_iff.1 h; obtain ⟨x12, hh, h⟩ := h; obtain rfl := rdSl_eq hh; clear hh
    replace h := Option.bind_eq_some_iff.1 h; obtain ⟨l7, hh, h⟩ := h; obtain rfl := rdCells_eq hh; clear hh
    split at h; rotate_left; cases h
    rename_i c8_0 c8_1 c8_2 c8_3 c8_4 c8_5
    replace h := Option.bind_eq_some_iff.1 h; obtain ⟨x13, hh, h⟩ := h; obtain rfl := rdStr_eq hh; clear hh
    replace h := Option.bind_eq_some_iff.1 h; obtain ⟨x14, hh, h⟩ := h; obtain rfl := rdStr_eq hh; clear hh
    replace h := Option.bind_eq_some_iff.1 h; obtain ⟨x15, hh, h⟩ := h; obtain rfl := rdInt_eq hh; clear hh
    replace h := Option.bind_eq_some_iff.1 h; obtain ⟨x16, hh, h⟩ := h; obtain rfl := rdInt_eq hh; clear hh
    replace h := Option.bind_eq_some_iff.1 h; obtain ⟨x17, hh, h⟩ := h; obtain rfl := rdInt_eq hh; clear hh
    replace h := Option.bind_eq_some_iff.1 h; obtain ⟨x18, hh, h⟩ := h; obtain rfl := rdSl_eq hh; clear hh
    exact (publicanref9_parser_row_L0_eq m g m kx kr x0 x1 x2 x3 x4 x5 x6 x7 x8 x9 x10 x11 x12 x13 x14 x15 x16 x17 x18).trans h
set_option maxRecDepth 100000 in
theorem publicanref9_parser_row_eq (m : Nat) (g : G_publicanref9_parser_expr R) (o0 : T_publicanref9_parser) (a1 : Int) (κ : V → List PObj → Option R) : pFun tb (publicanref9_parser_row_G m g) 1 [publicanref9_parser_row_X0 m g] [some (false, 6)] Tryz.f116 [.ptr 0 0, .int .i64 a1] [.cells [.sl 5 o0.f_l, .int .i64 o0.f_k, .int .i64 o0.f_bad, .bool o0.f_deep, .int .i64 o0.f_d]] κ = publicanref9_parser_row_B m g o0 a1 (fun r w0 => κ (.st 6 r) [.cells [.sl 5 w0.f_l, .int .i64 w0.f_k, .int .i64 w0.f_bad, .bool w0.f_deep, .int .i64 w0.f_d]]) := by
  delta publicanref9_parser_row_G publicanref9_parser_row_B publicanref9_parser_w_sem publicanref9_parser_take_sem publicanref9_parser_row_X0
  generalize publicanref9_parser_w (R := R) m = c0
  generalize publicanref9_parser_take (R := R) m = c1
  generalize publicanref9_parser_row_L0 (R := R) m g = c2
  refine id ?_
  kernel_rfl
theorem publicanref9_parser_row_st (m : Nat) (g : G_publicanref9_parser_expr R) (hg : G_publicanref9_parser_exprOK g) : SemC cxP 116 (publicanref9_parser_row_w (publicanref9_parser_row_B m g)) :=
  have HG : ∀ f, SemOK cxP f (publicanref9_parser_row_G (R := R) m g f) := tabG_ok (.cons (hg.publicanref9_parser_un) (.cons (hg.publicanref9_parser_row) (.cons (publicanref9_parser_w_ok m) (.cons (publicanref9_parser_take_ok m) .nil))))
  fun_of C HG (L := [publicanref9_parser_row_X0 m g]) (rc := [some (false, 6)]) (k := 1) (fn_of Tryz.func116) rfl rfl (by kernel_rfl) (by rw [show loopsIn (bodyOf Tryz.f116) = [(lpC (bodyOf Tryz.f116) 0)] from by kernel_rfl]; exact (.cons (publicanref9_parser_row_X0_ok HG) (.nil _))) fun vs os κ r h => by
    unfold publicanref9_parser_row_w at h
    split at h; rotate_left; cases h
    rename_i v0_ v1_ q0_
    replace h := Option.bind_eq_some_iff.1 h; obtain ⟨u0, hh, h⟩ := h; obtain rfl := rdPtr_eq hh; clear hh
    replace h := Option.bind_eq_some_iff.1 h; obtain ⟨a1, hh, h⟩ := h; obtain rfl := rdInt_eq hh; clear hh
    replace h := Option.bind_eq_some_iff.1 h; obtain ⟨l1, hh, h⟩ := h; obtain rfl := rdCells_eq hh; clear hh
    split at h; rotate_left; cases h
    rename_i c2_0 c2_1 c2_2 c2_3 c2_4
    replace h := Option.bind_eq_some_iff.1 h; obtain ⟨p0_0, hh, h⟩ := h; obtain rfl := rdSl_eq hh; clear hh
    replace h := Option.bind_eq_some_iff.1 h; obtain ⟨p0_1, hh, h⟩ := h; obtain rfl := rdInt_eq hh; clear hh
    replace h := Option.bind_eq_some_iff.1 h; obtain ⟨p0_2, hh, h⟩ := h; obtain rfl := rdInt_eq hh; clear hh
    replace h := Option.bind_eq_some_iff.1 h; obtain ⟨p0_3, hh, h⟩ := h; obtain rfl := rdBool_eq hh; clear hh
    replace h := Option.bind_eq_some_iff.1 h; obtain ⟨p0_4, hh, h⟩ := h; obtain rfl := rdInt_eq hh; clear hh
    exact (publicanref9_parser_row_eq m g (T_publicanref9_parser.mk p0_0 p0_1 p0_2 p0_3 p0_4) a1 κ).trans h
theorem publicanref9_parser_row_z : SemC cxP 116 (publicanref9_parser_row_w (R := R) fun _ _ _ => none) := fun vs os κ r h => by
    unfold publicanref9_parser_row_w at h
    split at h; rotate_left; cases h
    rename_i v0_ v1_ q0_
    replace h := Option.bind_eq_some_iff.1 h; obtain ⟨u0, hh, h⟩ := h; obtain rfl := rdPtr_eq hh; clear hh
    replace h := Option.bind_eq_some_iff.1 h; obtain ⟨a1, hh, h⟩ := h; obtain rfl := rdInt_eq hh; clear hh
    replace h := Option.bind_eq_some_iff.1 h; obtain ⟨l1, hh, h⟩ := h; obtain rfl := rdCells_eq hh; clear hh
    split at h; rotate_left; cases h
    rename_i c2_0 c2_1 c2_2 c2_3 c2_4
    replace h := Option.bind_eq_some_iff.1 h; obtain ⟨p0_0, hh, h⟩ := h; obtain rfl := rdSl_eq hh; clear hh
    replace h := Option.bind_eq_some_iff.1 h; obtain ⟨p0_1, hh, h⟩ := h; obtain rfl := rdInt_eq hh; clear hh
    replace h := Option.bind_eq_some_iff.1 h; obtain ⟨p0_2, hh, h⟩ := h; obtain rfl := rdInt_eq hh; clear hh
    replace h := Option.bind_eq_some_iff.1 h; obtain ⟨p0_3, hh, h⟩ := h; obtain rfl := rdBool_eq hh; clear hh
    replace h := Option.bind_eq_some_iff.1 h; obtain ⟨p0_4, hh, h⟩ := h; obtain rfl := rdInt_eq hh; clear hh
    cases h
noncomputable def publicanref9_parser_un_G (m : Nat) (g : G_publicanref9_parser_expr R) : FuncId → PSem R := tabG [(44, publicanref9_parser_w_sem m), (45, publicanref9_parser_take_sem m), (155, semOf publicanref9_parser_prim_ac (publicanref9_parser_prim_w g.publicanref9_parser_prim)), (87, publicanref9_parser_in_sem m), (140, semOf publicanref9_parser_un_ac (publicanref9_parser_un_w g.publicanref9_parser_un)), (89, publicanref9_parser_out_sem m)]
set_option maxRecDepth 100000 in
theorem publicanref9_parser_un_eq (m : Nat) (g : G_publicanref9_parser_expr R) (o0 : T_publicanref9_parser) (κ : V → List PObj → Option R) : pFun tb (publicanref9_parser_un_G m g) 1 [] [some (false, 6)] Tryz.f140 [.ptr 0 0] [.cells [.sl 5 o0.f_l, .int .i64 o0.f_k, .int .i64 o0.f_bad, .bool o0.f_deep, .int .i64 o0.f_d]] κ = publicanref9_parser_un_B m g o0 (fun r w0 => κ (.st 6 r) [.cells [.sl 5 w0.f_l, .int .i64 w0.f_k, .int .i64 w0.f_bad, .bool w0.f_deep, .int .i64 w0.f_d]]) := by
  delta publicanref9_parser_un_G publicanref9_parser_un_B publicanref9_parser_w_sem publicanref9_parser_take_sem publicanref9_parser_in_sem publicanref9_parser_out_sem
  generalize publicanref9_parser_w (R := R) m = c0
  generalize publicanref9_parser_take (R := R) m = c1
  generalize publicanref9_parser_in (R := R) m = c2
  generalize publicanref9_parser_out (R := R) m = c3
  refine id ?_
  kernel_rfl
theorem publicanref9_parser_un_st (m : Nat) (g : G_publicanref9_parser_expr R) (hg : G_publicanref9_parser_exprOK g) : SemC cxP 140 (publicanref9_parser_un_w (publicanref9_parser_un_B m g)) :=
  have HG : ∀ f, SemOK cxP f (publicanref9_parser_un_G (R := R) m g f) := tabG_ok (.cons (publicanref9_parser_w_ok m) (.cons (publicanref9_parser_take_ok m) (.cons (hg.publicanref9_parser_prim) (.cons (publicanref9_parser_in_ok m) (.cons (hg.publicanref9_parser_un) (.cons (publicanref9_parser_out_ok m) .nil))))))
  fun_of C HG (L := []) (rc := [some (false, 6)]) (k := 1) (fn_of Tryz.func140) rfl rfl (by kernel_rfl) (by rw [show loopsIn (bodyOf Tryz.f140) = [] from by kernel_rfl]; exact (.nil _)) fun vs os κ r h => by
    unfold publicanref9_parser_un_w at h
    split at h; rotate_left; cases h
    rename_i v0_ q0_
    replace h := Option.bind_eq_some_iff.1 h; obtain ⟨u0, hh, h⟩ := h; obtain rfl := rdPtr_eq hh; clear hh
    replace h := Option.bind_eq_some_iff.1 h; obtain ⟨l1, hh, h⟩ := h; obtain rfl := rdCells_eq hh; clear hh
    split at h; rotate_left; cases h
    rename_i c2_0 c2_1 c2_2 c2_3 c2_4
    replace h := Option.bind_eq_some_iff.1 h; obtain ⟨p0_0, hh, h⟩ := h; obtain rfl := rdSl_eq hh; clear hh
    replace h := Option.bind_eq_some_iff.1 h; obtain ⟨p0_1, hh, h⟩ := h; obtain rfl := rdInt_eq hh; clear hh
    replace h := Option.bind_eq_some_iff.1 h; obtain ⟨p0_2, hh, h⟩ := h; obtain rfl := rdInt_eq hh; clear hh
    replace h := Option.bind_eq_some_iff.1 h; obtain ⟨p0_3, hh, h⟩ := h; obtain rfl := rdBool_eq hh; clear hh
    replace h := Option.bind_eq_some_iff.1 h; obtain ⟨p0_4, hh, h⟩ := h; obtain rfl := rdInt_eq hh; clear hh
    exact (publicanref9_parser_un_eq m g (T_publicanref9_parser.mk p0_0 p0_1 p0_2 p0_3 p0_4) κ).trans h
theorem publicanref9_parser_un_z : SemC cxP 140 (publicanref9_parser_un_w (R := R) fun _ _ => none) := fun vs os κ r h => by
    unfold publicanref9_parser_un_w at h
    split at h; rotate_left; cases h
    rename_i v0_ q0_
    replace h := Option.bind_eq_some_iff.1 h; obtain ⟨u0, hh, h⟩ := h; obtain rfl := rdPtr_eq hh; clear hh
    replace h := Option.bind_eq_some_iff.1 h; obtain ⟨l1, hh, h⟩ := h; obtain rfl := rdCells_eq hh; clear hh
    split at h; rotate_left; cases h
    rename_i c2_0 c2_1 c2_2 c2_3 c2_4
    replace h := Option.bind_eq_some_iff.1 h; obtain ⟨p0_0, hh, h⟩ := h; obtain rfl := rdSl_eq hh; clear hh
    replace h := Option.bind_eq_some_iff.1 h; obtain ⟨p0_1, hh, h⟩ := h; obtain rfl := rdInt_eq hh; clear hh
    replace h := Option.bind_eq_some_iff.1 h; obtain ⟨p0_2, hh, h⟩ := h; obtain rfl := rdInt_eq hh; clear hh
    replace h := Option.bind_eq_some_iff.1 h; obtain ⟨p0_3, hh, h⟩ := h; obtain rfl := rdBool_eq hh; clear hh
    replace h := Option.bind_eq_some_iff.1 h; obtain ⟨p0_4, hh, h⟩ := h; obtain rfl := rdInt_eq hh; clear hh
    cases h
end Go.Pm
