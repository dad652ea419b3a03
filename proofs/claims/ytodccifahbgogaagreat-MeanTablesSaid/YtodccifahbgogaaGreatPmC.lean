/- The interpreter over data answers as the plain functions say. -/
import Derived.Test.YtodccifahbgogaaGreatPmB
namespace Go.Pm
open Go Go.EvM Go.Pv Go.Proofs
set_option linter.unusedVariables false
set_option linter.unusedSectionVars false
variable {R : Type}
noncomputable def publicanref9_parser_name_G (m : Nat) : FuncId → PSem R := tabG [(162, publicanref9_parser_fail_sem m), (153, publicanref9_parser_w_sem m)]
noncomputable def publicanref9_parser_name_w (F : T_publicanref9_parser → (List UInt8 → T_publicanref9_parser → Option R) → Option R) : PSem R := fun vs os κ => match vs, os with | [v0_], [q0_] => ((rdPtr 0 0 v0_).bind fun u0 => (rdCells q0_).bind fun l1 => match l1 with | [c2_0, c2_1, c2_2, c2_3, c2_4] => ((rdSl 7 c2_0).bind fun p0_0 => (rdInt .i64 c2_1).bind fun p0_1 => (rdInt .i64 c2_2).bind fun p0_2 => (rdBool c2_3).bind fun p0_3 => (rdInt .i64 c2_4).bind fun p0_4 => F (T_publicanref9_parser.mk p0_0 p0_1 p0_2 p0_3 p0_4) (fun r w0 => κ (.str r) [.cells [.sl 7 w0.f_l, .int .i64 w0.f_k, .int .i64 w0.f_bad, .bool w0.f_deep, .int .i64 w0.f_d]])) | _ => none) | _, _ => none
def publicanref9_parser_name_ac : List (Option (Bool × Nat)) := [none]
set_option maxRecDepth 100000 in
theorem publicanref9_parser_name_eq (m : Nat) (o0 : T_publicanref9_parser) (κ : V → List PObj → Option R) : pFun tb (publicanref9_parser_name_G m) 1 [] [none] Tryz.f155 [.ptr 0 0] [.cells [.sl 7 o0.f_l, .int .i64 o0.f_k, .int .i64 o0.f_bad, .bool o0.f_deep, .int .i64 o0.f_d]] κ = publicanref9_parser_name m o0 (fun r w0 => κ (.str r) [.cells [.sl 7 w0.f_l, .int .i64 w0.f_k, .int .i64 w0.f_bad, .bool w0.f_deep, .int .i64 w0.f_d]]) := by
  delta publicanref9_parser_name_G publicanref9_parser_name publicanref9_parser_fail_sem publicanref9_parser_w_sem
  generalize publicanref9_parser_fail (R := R) m = c0
  generalize publicanref9_parser_w (R := R) m = c1
  refine id ?_
  kernel_rfl
noncomputable def publicanref9_parser_name_sem (m : Nat) : PSem R := semOf publicanref9_parser_name_ac (publicanref9_parser_name_w (publicanref9_parser_name m))
theorem publicanref9_parser_name_ok (m : Nat) : SemOK cxP 155 (publicanref9_parser_name_sem (R := R) m) :=
  have HG : ∀ f, SemOK cxP f (publicanref9_parser_name_G (R := R) m f) := tabG_ok (.cons (publicanref9_parser_fail_ok m) (.cons (publicanref9_parser_w_ok m) .nil))
  semOf_ok (fun_of C HG (L := []) (rc := [none]) (k := 1) (fn_of Tryz.func155) rfl rfl (by kernel_rfl) (by rw [show loopsIn (bodyOf Tryz.f155) = [] from by kernel_rfl]; exact (.nil _)) fun vs os κ r h => by
    unfold publicanref9_parser_name_w at h
    split at h; rotate_left; cases h
    rename_i v0_ q0_
    replace h := Option.bind_eq_some_iff.1 h; obtain ⟨u0, hh, h⟩ := h; obtain rfl := rdPtr_eq hh; clear hh
    replace h := Option.bind_eq_some_iff.1 h; obtain ⟨l1, hh, h⟩ := h; obtain rfl := rdCells_eq hh; clear hh
    split at h; rotate_left; cases h
    rename_i c2_0 c2_1 c2_2 c2_3 c2_4
    replace h := Option.bind_eq_some_iff.1 h; obtain ⟨p0_0, hh, h⟩ := h; obtain rfl := rdSl_eq hh; clear hh
    replace h := Option.bind_eq_some_iff.1 h; obtain ⟨p0_1, hh, h⟩ := h; obtain rfl := rdInt_eq hh; clear hh
    replace h := Option.bind_eq_some_iff.1 h; obtain ⟨p0_2, hh, h⟩ := h; obtain rfl := rdInt_eq hh; clear hh
    replace h := Option.bind_eq_some_iff.1 h; obtain ⟨p0_3, hh, h⟩ := h; obtain rfl := rdBool_eq hh; clear hh
    replace h := Option.bind_eq_some_iff.1 h; obtain ⟨p0_4, hh, h⟩ := h; obtain rfl := rdInt_eq hh; clear hh
    exact (publicanref9_parser_name_eq m (T_publicanref9_parser.mk p0_0 p0_1 p0_2 p0_3 p0_4) κ).trans h
)
noncomputable def publicanref9_parser_in_G (m : Nat) : FuncId → PSem R := tabG [(160, publicanref9_parser_limit_sem m)]
noncomputable def publicanref9_parser_in_w (F : T_publicanref9_parser → (Bool → T_publicanref9_parser → Option R) → Option R) : PSem R := fun vs os κ => match vs, os with | [v0_], [q0_] => ((rdPtr 0 0 v0_).bind fun u0 => (rdCells q0_).bind fun l1 => match l1 with | [c2_0, c2_1, c2_2, c2_3, c2_4] => ((rdSl 7 c2_0).bind fun p0_0 => (rdInt .i64 c2_1).bind fun p0_1 => (rdInt .i64 c2_2).bind fun p0_2 => (rdBool c2_3).bind fun p0_3 => (rdInt .i64 c2_4).bind fun p0_4 => F (T_publicanref9_parser.mk p0_0 p0_1 p0_2 p0_3 p0_4) (fun r w0 => κ (.bool r) [.cells [.sl 7 w0.f_l, .int .i64 w0.f_k, .int .i64 w0.f_bad, .bool w0.f_deep, .int .i64 w0.f_d]])) | _ => none) | _, _ => none
def publicanref9_parser_in_ac : List (Option (Bool × Nat)) := [none]
set_option maxRecDepth 100000 in
theorem publicanref9_parser_in_eq (m : Nat) (o0 : T_publicanref9_parser) (κ : V → List PObj → Option R) : pFun tb (publicanref9_parser_in_G m) 1 [] [none] Tryz.f183 [.ptr 0 0] [.cells [.sl 7 o0.f_l, .int .i64 o0.f_k, .int .i64 o0.f_bad, .bool o0.f_deep, .int .i64 o0.f_d]] κ = publicanref9_parser_in m o0 (fun r w0 => κ (.bool r) [.cells [.sl 7 w0.f_l, .int .i64 w0.f_k, .int .i64 w0.f_bad, .bool w0.f_deep, .int .i64 w0.f_d]]) := by
  delta publicanref9_parser_in_G publicanref9_parser_in publicanref9_parser_limit_sem
  generalize publicanref9_parser_limit (R := R) m = c0
  refine id ?_
  kernel_rfl
noncomputable def publicanref9_parser_in_sem (m : Nat) : PSem R := semOf publicanref9_parser_in_ac (publicanref9_parser_in_w (publicanref9_parser_in m))
theorem publicanref9_parser_in_ok (m : Nat) : SemOK cxP 183 (publicanref9_parser_in_sem (R := R) m) :=
  have HG : ∀ f, SemOK cxP f (publicanref9_parser_in_G (R := R) m f) := tabG_ok (.cons (publicanref9_parser_limit_ok m) .nil)
  semOf_ok (fun_of C HG (L := []) (rc := [none]) (k := 1) (fn_of Tryz.func183) rfl rfl (by kernel_rfl) (by rw [show loopsIn (bodyOf Tryz.f183) = [] from by kernel_rfl]; exact (.nil _)) fun vs os κ r h => by
    unfold publicanref9_parser_in_w at h
    split at h; rotate_left; cases h
    rename_i v0_ q0_
    replace h := Option.bind_eq_some_iff.1 h; obtain ⟨u0, hh, h⟩ := h; obtain rfl := rdPtr_eq hh; clear hh
    replace h := Option.bind_eq_some_iff.1 h; obtain ⟨l1, hh, h⟩ := h; obtain rfl := rdCells_eq hh; clear hh
    split at h; rotate_left; cases h
    rename_i c2_0 c2_1 c2_2 c2_3 c2_4
    replace h := Option.bind_eq_some_iff.1 h; obtain ⟨p0_0, hh, h⟩ := h; obtain rfl := rdSl_eq hh; clear hh
    replace h := Option.bind_eq_some_iff.1 h; obtain ⟨p0_1, hh, h⟩ := h; obtain rfl := rdInt_eq hh; clear hh
    replace h := Option.bind_eq_some_iff.1 h; obtain ⟨p0_2, hh, h⟩ := h; obtain rfl := rdInt_eq hh; clear hh
    replace h := Option.bind_eq_some_iff.1 h; obtain ⟨p0_3, hh, h⟩ := h; obtain rfl := rdBool_eq hh; clear hh
    replace h := Option.bind_eq_some_iff.1 h; obtain ⟨p0_4, hh, h⟩ := h; obtain rfl := rdInt_eq hh; clear hh
    exact (publicanref9_parser_in_eq m (T_publicanref9_parser.mk p0_0 p0_1 p0_2 p0_3 p0_4) κ).trans h
)
noncomputable def publicanref9_parser_islit_G (m : Nat) : FuncId → PSem R := tabG [(153, publicanref9_parser_w_sem m), (159, publicanref9_parser_is_sem m)]
noncomputable def publicanref9_parser_islit_w (F : T_publicanref9_parser → (Bool → T_publicanref9_parser → Option R) → Option R) : PSem R := fun vs os κ => match vs, os with | [v0_], [q0_] => ((rdPtr 0 0 v0_).bind fun u0 => (rdCells q0_).bind fun l1 => match l1 with | [c2_0, c2_1, c2_2, c2_3, c2_4] => ((rdSl 7 c2_0).bind fun p0_0 => (rdInt .i64 c2_1).bind fun p0_1 => (rdInt .i64 c2_2).bind fun p0_2 => (rdBool c2_3).bind fun p0_3 => (rdInt .i64 c2_4).bind fun p0_4 => F (T_publicanref9_parser.mk p0_0 p0_1 p0_2 p0_3 p0_4) (fun r w0 => κ (.bool r) [.cells [.sl 7 w0.f_l, .int .i64 w0.f_k, .int .i64 w0.f_bad, .bool w0.f_deep, .int .i64 w0.f_d]])) | _ => none) | _, _ => none
def publicanref9_parser_islit_ac : List (Option (Bool × Nat)) := [none]
set_option maxRecDepth 100000 in
theorem publicanref9_parser_islit_eq (m : Nat) (o0 : T_publicanref9_parser) (κ : V → List PObj → Option R) : pFun tb (publicanref9_parser_islit_G m) 1 [] [none] Tryz.f186 [.ptr 0 0] [.cells [.sl 7 o0.f_l, .int .i64 o0.f_k, .int .i64 o0.f_bad, .bool o0.f_deep, .int .i64 o0.f_d]] κ = publicanref9_parser_islit m o0 (fun r w0 => κ (.bool r) [.cells [.sl 7 w0.f_l, .int .i64 w0.f_k, .int .i64 w0.f_bad, .bool w0.f_deep, .int .i64 w0.f_d]]) := by
  delta publicanref9_parser_islit_G publicanref9_parser_islit publicanref9_parser_w_sem publicanref9_parser_is_sem
  generalize publicanref9_parser_w (R := R) m = c0
  generalize publicanref9_parser_is (R := R) m = c1
  refine id ?_
  kernel_rfl
noncomputable def publicanref9_parser_islit_sem (m : Nat) : PSem R := semOf publicanref9_parser_islit_ac (publicanref9_parser_islit_w (publicanref9_parser_islit m))
theorem publicanref9_parser_islit_ok (m : Nat) : SemOK cxP 186 (publicanref9_parser_islit_sem (R := R) m) :=
  have HG : ∀ f, SemOK cxP f (publicanref9_parser_islit_G (R := R) m f) := tabG_ok (.cons (publicanref9_parser_w_ok m) (.cons (publicanref9_parser_is_ok m) .nil))
  semOf_ok (fun_of C HG (L := []) (rc := [none]) (k := 1) (fn_of Tryz.func186) rfl rfl (by kernel_rfl) (by rw [show loopsIn (bodyOf Tryz.f186) = [] from by kernel_rfl]; exact (.nil _)) fun vs os κ r h => by
    unfold publicanref9_parser_islit_w at h
    split at h; rotate_left; cases h
    rename_i v0_ q0_
    replace h := Option.bind_eq_some_iff.1 h; obtain ⟨u0, hh, h⟩ := h; obtain rfl := rdPtr_eq hh; clear hh
    replace h := Option.bind_eq_some_iff.1 h; obtain ⟨l1, hh, h⟩ := h; obtain rfl := rdCells_eq hh; clear hh
    split at h; rotate_left; cases h
    rename_i c2_0 c2_1 c2_2 c2_3 c2_4
    replace h := Option.bind_eq_some_iff.1 h; obtain ⟨p0_0, hh, h⟩ := h; obtain rfl := rdSl_eq hh; clear hh
    replace h := Option.bind_eq_some_iff.1 h; obtain ⟨p0_1, hh, h⟩ := h; obtain rfl := rdInt_eq hh; clear hh
    replace h := Option.bind_eq_some_iff.1 h; obtain ⟨p0_2, hh, h⟩ := h; obtain rfl := rdInt_eq hh; clear hh
    replace h := Option.bind_eq_some_iff.1 h; obtain ⟨p0_3, hh, h⟩ := h; obtain rfl := rdBool_eq hh; clear hh
    replace h := Option.bind_eq_some_iff.1 h; obtain ⟨p0_4, hh, h⟩ := h; obtain rfl := rdInt_eq hh; clear hh
    exact (publicanref9_parser_islit_eq m (T_publicanref9_parser.mk p0_0 p0_1 p0_2 p0_3 p0_4) κ).trans h
)
noncomputable def publicanref1_Day_G (m : Nat) : FuncId → PSem R := tabG [(169, publicanref1_Days_sem m), (168, publicanref1_Leap_sem m)]
set_option maxRecDepth 100000 in
theorem publicanref1_Day_S1_eq (m : Nat) (ρ : List V → List PObj → Option R) (kx : Nat → List V → List PObj → Option R) (kr : List V → List PObj → Option R) (x0 : Int) (x1 : Int) (x2 : Int) (x3 : Int) (x4 : Int) : pCode tb (publicanref1_Day_G m) 0 Tryz.f208.ntmps (lpC (bodyOf Tryz.f208) 1) [] (fun s => match head 0 [(10, .any), (0, .any), (8, .any), (2, .any), (1, .any)] s with | (vs, os) => ρ vs os) (fun i s => match head 0 [(2, .any), (8, .any)] s with | (vs, os) => kx i vs os) (fun s => match head 0 [] s with | (vs, os) => kr vs os) ⟨mkEnv [(10, .any), (0, .any), (8, .any), (2, .any), (1, .any)] [.int .i64 x0, .int .i64 x1, .int .i64 x2, .int .i64 x3, .int .i64 x4], []⟩ = publicanref1_Day_S1 m (fun x0 x1 x2 x3 x4 => ρ [.int .i64 x0, .int .i64 x1, .int .i64 x2, .int .i64 x3, .int .i64 x4] []) (fun y0 y1 => kx 2 [.int .i64 y0, .int .i64 y1] []) x0 x1 x2 x3 x4 := by
  delta publicanref1_Day_G publicanref1_Day_S1 publicanref1_Days_sem publicanref1_Leap_sem
  generalize publicanref1_Days (R := R) m = c0
  generalize publicanref1_Leap (R := R) m = c1
  refine id ?_
  kernel_rfl
set_option maxHeartbeats 4000000 in
theorem publicanref1_Day_L1_eq (m : Nat) (j : Nat) : ∀ (kx : Nat → List V → List PObj → Option R) (kr : List V → List PObj → Option R) (x0 : Int) (x1 : Int) (x2 : Int) (x3 : Int) (x4 : Int), loopP tb (publicanref1_Day_G m) 0 Tryz.f208.ntmps [(10, .any), (0, .any), (8, .any), (2, .any), (1, .any)] [(2, .any), (8, .any)] [] [] (lpC (bodyOf Tryz.f208) 1) j [.int .i64 x0, .int .i64 x1, .int .i64 x2, .int .i64 x3, .int .i64 x4] [] kx kr = publicanref1_Day_L1 m j x0 x1 x2 x3 x4 (fun y0 y1 => kx 2 [.int .i64 y0, .int .i64 y1] []) := by
  induction j with
  | zero => intros; rfl
  | succ j ih =>
    intro kx kr x0 x1 x2 x3 x4
    refine Eq.trans ?_ (Eq.trans (Eq.trans (publicanref1_Day_S1_eq m (fun vs os => loopP tb (publicanref1_Day_G m) 0 Tryz.f208.ntmps [(10, .any), (0, .any), (8, .any), (2, .any), (1, .any)] [(2, .any), (8, .any)] [] [] (lpC (bodyOf Tryz.f208) 1) j vs os kx kr) kx kr x0 x1 x2 x3 x4) (congrArg (fun ρ => publicanref1_Day_S1 m ρ (fun y0 y1 => kx 2 [.int .i64 y0, .int .i64 y1] []) x0 x1 x2 x3 x4) (funext fun x0 => funext fun x1 => funext fun x2 => funext fun x3 => funext fun x4 => ih kx kr x0 x1 x2 x3 x4))) ?_) <;> kernel_rfl
noncomputable def publicanref1_Day_X1 (m : Nat) : LoopH R := ⟨[(10, .any), (0, .any), (8, .any), (2, .any), (1, .any)], [(2, .any), (8, .any)], [], fun vs os kx kr => match vs, os with | [v0_, v1_, v2_, v3_, v4_], [] => ((rdInt .i64 v0_).bind fun x0 => (rdInt .i64 v1_).bind fun x1 => (rdInt .i64 v2_).bind fun x2 => (rdInt .i64 v3_).bind fun x3 => (rdInt .i64 v4_).bind fun x4 => publicanref1_Day_L1 m m x0 x1 x2 x3 x4 (fun y0 y1 => kx 2 [.int .i64 y0, .int .i64 y1] [])) | _, _ => none⟩
set_option maxHeartbeats 4000000 in
theorem publicanref1_Day_X1_ok {m : Nat} (HG : ∀ f, SemOK cxP f (publicanref1_Day_G (R := R) m f)) : LoopSem cxP Tryz.f208.ntmps 0 (lpC (bodyOf Tryz.f208) 1) (publicanref1_Day_X1 (R := R) m) :=
  loop_of C HG (L := []) (by kernel_rfl) (by rw [show loopsIn (lpC (bodyOf Tryz.f208) 1) = [] from by kernel_rfl]; exact (.nil _)) m fun vs os kx kr r h => by
    try dsimp only at h
    split at h; rotate_left; cases h
    rename_i v0_ v1_ v2_ v3_ v4_
    replace h := Option.bind_eq_some_iff.1 h; obtain ⟨x0, hh, h⟩ := h; obtain rfl := rdInt_eq hh; clear hh
    replace h := Option.bind_eq_some_iff.1 h; obtain ⟨x1, hh, h⟩ := h; obtain rfl := rdInt_eq hh; clear hh
    replace h := Option.bind_eq_some_iff.1 h; obtain ⟨x2, hh, h⟩ := h; obtain rfl := rdInt_eq hh; clear hh
    replace h := Option.bind_eq_some_iff.1 h; obtain ⟨x3, hh, h⟩ := h; obtain rfl := rdInt_eq hh; clear hh
    replace h := Option.bind_eq_some_iff.1 h; obtain ⟨x4, hh, h⟩ := h; obtain rfl := rdInt_eq hh; clear hh
    exact (publicanref1_Day_L1_eq m m kx kr x0 x1 x2 x3 x4).trans h
set_option maxRecDepth 100000 in
theorem publicanref1_Day_S0_eq (m : Nat) (ρ : List V → List PObj → Option R) (kx : Nat → List V → List PObj → Option R) (kr : List V → List PObj → Option R) (x0 : Int) (x1 : Int) (x2 : Int) (x3 : Int) (x4 : Int) : pCode tb (publicanref1_Day_G m) 0 Tryz.f208.ntmps (lpC (bodyOf Tryz.f208) 0) [] (fun s => match head 0 [(9, .any), (8, .any), (0, .any), (2, .any), (1, .any)] s with | (vs, os) => ρ vs os) (fun i s => match head 0 [(0, .any), (8, .any), (2, .any), (1, .any)] s with | (vs, os) => kx i vs os) (fun s => match head 0 [] s with | (vs, os) => kr vs os) ⟨mkEnv [(9, .any), (8, .any), (0, .any), (2, .any), (1, .any)] [.int .i64 x0, .int .i64 x1, .int .i64 x2, .int .i64 x3, .int .i64 x4], []⟩ = publicanref1_Day_S0 m (fun x0 x1 x2 x3 x4 => ρ [.int .i64 x0, .int .i64 x1, .int .i64 x2, .int .i64 x3, .int .i64 x4] []) (fun y0 y1 y2 y3 => kx 0 [.int .i64 y0, .int .i64 y1, .int .i64 y2, .int .i64 y3] []) x0 x1 x2 x3 x4 := by
  delta publicanref1_Day_G publicanref1_Day_S0 publicanref1_Days_sem publicanref1_Leap_sem
  generalize publicanref1_Days (R := R) m = c0
  generalize publicanref1_Leap (R := R) m = c1
  refine id ?_
  kernel_rfl
set_option maxHeartbeats 4000000 in
theorem publicanref1_Day_L0_eq (m : Nat) (j : Nat) : ∀ (kx : Nat → List V → List PObj → Option R) (kr : List V → List PObj → Option R) (x0 : Int) (x1 : Int) (x2 : Int) (x3 : Int) (x4 : Int), loopP tb (publicanref1_Day_G m) 0 Tryz.f208.ntmps [(9, .any), (8, .any), (0, .any), (2, .any), (1, .any)] [(0, .any), (8, .any), (2, .any), (1, .any)] [] [] (lpC (bodyOf Tryz.f208) 0) j [.int .i64 x0, .int .i64 x1, .int .i64 x2, .int .i64 x3, .int .i64 x4] [] kx kr = publicanref1_Day_L0 m j x0 x1 x2 x3 x4 (fun y0 y1 y2 y3 => kx 0 [.int .i64 y0, .int .i64 y1, .int .i64 y2, .int .i64 y3] []) := by
  induction j with
  | zero => intros; rfl
  | succ j ih =>
    intro kx kr x0 x1 x2 x3 x4
    refine Eq.trans ?_ (Eq.trans (Eq.trans (publicanref1_Day_S0_eq m (fun vs os => loopP tb (publicanref1_Day_G m) 0 Tryz.f208.ntmps [(9, .any), (8, .any), (0, .any), (2, .any), (1, .any)] [(0, .any), (8, .any), (2, .any), (1, .any)] [] [] (lpC (bodyOf Tryz.f208) 0) j vs os kx kr) kx kr x0 x1 x2 x3 x4) (congrArg (fun ρ => publicanref1_Day_S0 m ρ (fun y0 y1 y2 y3 => kx 0 [.int .i64 y0, .int .i64 y1, .int .i64 y2, .int .i64 y3] []) x0 x1 x2 x3 x4) (funext fun x0 => funext fun x1 => funext fun x2 => funext fun x3 => funext fun x4 => ih kx kr x0 x1 x2 x3 x4))) ?_) <;> kernel_rfl
noncomputable def publicanref1_Day_X0 (m : Nat) : LoopH R := ⟨[(9, .any), (8, .any), (0, .any), (2, .any), (1, .any)], [(0, .any), (8, .any), (2, .any), (1, .any)], [], fun vs os kx kr => match vs, os with | [v0_, v1_, v2_, v3_, v4_], [] => ((rdInt .i64 v0_).bind fun x0 => (rdInt .i64 v1_).bind fun x1 => (rdInt .i64 v2_).bind fun x2 => (rdInt .i64 v3_).bind fun x3 => (rdInt .i64 v4_).bind fun x4 => publicanref1_Day_L0 m m x0 x1 x2 x3 x4 (fun y0 y1 y2 y3 => kx 0 [.int .i64 y0, .int .i64 y1, .int .i64 y2, .int .i64 y3] [])) | _, _ => none⟩
set_option maxHeartbeats 4000000 in
theorem publicanref1_Day_X0_ok {m : Nat} (HG : ∀ f, SemOK cxP f (publicanref1_Day_G (R := R) m f)) : LoopSem cxP Tryz.f208.ntmps 0 (lpC (bodyOf Tryz.f208) 0) (publicanref1_Day_X0 (R := R) m) :=
  loop_of C HG (L := []) (by kernel_rfl) (by rw [show loopsIn (lpC (bodyOf Tryz.f208) 0) = [] from by kernel_rfl]; exact (.nil _)) m fun vs os kx kr r h => by
    try dsimp only at h
    split at h; rotate_left; cases h
    rename_i v0_ v1_ v2_ v3_ v4_
    replace h := Option.bind_eq_some_iff.1 h; obtain ⟨x0, hh, h⟩ := h; obtain rfl := rdInt_eq hh; clear hh
    replace h := Option.bind_eq_some_iff.1 h; obtain ⟨x1, hh, h⟩ := h; obtain rfl := rdInt_eq hh; clear hh
    replace h := Option.bind_eq_some_iff.1 h; obtain ⟨x2, hh, h⟩ := h; obtain rfl := rdInt_eq hh; clear hh
    replace h := Option.bind_eq_some_iff.1 h; obtain ⟨x3, hh, h⟩ := h; obtain rfl := rdInt_eq hh; clear hh
    replace h := Option.bind_eq_some_iff.1 h; obtain ⟨x4, hh, h⟩ := h; obtain rfl := rdInt_eq hh; clear hh
    exact (publicanref1_Day_L0_eq m m kx kr x0 x1 x2 x3 x4).trans h
noncomputable def publicanref1_Day_w (F : Int → Int → Int → (Int → Bool → Option R) → Option R) : PSem R := fun vs os κ => match vs, os with | [v0_, v1_, v2_], [] => ((rdInt .i64 v0_).bind fun a0 => (rdInt .i64 v1_).bind fun a1 => (rdInt .i64 v2_).bind fun a2 => F a0 a1 a2 (fun r_0 r_1 => κ (.tup [.int .i64 r_0, .bool r_1]) [])) | _, _ => none
def publicanref1_Day_ac : List (Option (Bool × Nat)) := [none, none, none]
set_option maxRecDepth 100000 in
theorem publicanref1_Day_eq (m : Nat) (a0 : Int) (a1 : Int) (a2 : Int) (κ : V → List PObj → Option R) : pFun tb (publicanref1_Day_G m) 0 [publicanref1_Day_X0 m, publicanref1_Day_X1 m] [none, none] Tryz.f208 [.int .i64 a0, .int .i64 a1, .int .i64 a2] [] κ = publicanref1_Day m a0 a1 a2 (fun r_0 r_1 => κ (.tup [.int .i64 r_0, .bool r_1]) []) := by
  delta publicanref1_Day_G publicanref1_Day publicanref1_Days_sem publicanref1_Leap_sem publicanref1_Day_X0 publicanref1_Day_X1
  generalize publicanref1_Days (R := R) m = c0
  generalize publicanref1_Leap (R := R) m = c1
  generalize publicanref1_Day_L0 (R := R) m = c2
  generalize publicanref1_Day_L1 (R := R) m = c3
  refine id ?_
  kernel_rfl
noncomputable def publicanref1_Day_sem (m : Nat) : PSem R := semOf publicanref1_Day_ac (publicanref1_Day_w (publicanref1_Day m))
theorem publicanref1_Day_ok (m : Nat) : SemOK cxP 208 (publicanref1_Day_sem (R := R) m) :=
  have HG : ∀ f, SemOK cxP f (publicanref1_Day_G (R := R) m f) := tabG_ok (.cons (publicanref1_Days_ok m) (.cons (publicanref1_Leap_ok m) .nil))
  semOf_ok (fun_of C HG (L := [publicanref1_Day_X0 m, publicanref1_Day_X1 m]) (rc := [none, none]) (k := 0) (fn_of Tryz.func208) rfl rfl (by kernel_rfl) (by rw [show loopsIn (bodyOf Tryz.f208) = [(lpC (bodyOf Tryz.f208) 0), (lpC (bodyOf Tryz.f208) 1)] from by kernel_rfl]; exact (.cons (publicanref1_Day_X0_ok HG) (.cons (publicanref1_Day_X1_ok HG) (.nil _)))) fun vs os κ r h => by
    unfold publicanref1_Day_w at h
    split at h; rotate_left; cases h
    rename_i v0_ v1_ v2_
    replace h := Option.bind_eq_some_iff.1 h; obtain ⟨a0, hh, h⟩ := h; obtain rfl := rdInt_eq hh; clear hh
    replace h := Option.bind_eq_some_iff.1 h; obtain ⟨a1, hh, h⟩ := h; obtain rfl := rdInt_eq hh; clear hh
    replace h := Option.bind_eq_some_iff.1 h; obtain ⟨a2, hh, h⟩ := h; obtain rfl := rdInt_eq hh; clear hh
    exact (publicanref1_Day_eq m a0 a1 a2 κ).trans h
)
noncomputable def publicanref9_parser_kind_G (m : Nat) : FuncId → PSem R := tabG [(153, publicanref9_parser_w_sem m), (182, publicanref9_Kind_sem m), (162, publicanref9_parser_fail_sem m)]
noncomputable def publicanref9_parser_kind_w (F : T_publicanref9_parser → (Int → T_publicanref9_parser → Option R) → Option R) : PSem R := fun vs os κ => match vs, os with | [v0_], [q0_] => ((rdPtr 0 0 v0_).bind fun u0 => (rdCells q0_).bind fun l1 => match l1 with | [c2_0, c2_1, c2_2, c2_3, c2_4] => ((rdSl 7 c2_0).bind fun p0_0 => (rdInt .i64 c2_1).bind fun p0_1 => (rdInt .i64 c2_2).bind fun p0_2 => (rdBool c2_3).bind fun p0_3 => (rdInt .i64 c2_4).bind fun p0_4 => F (T_publicanref9_parser.mk p0_0 p0_1 p0_2 p0_3 p0_4) (fun r w0 => κ (.int .i64 r) [.cells [.sl 7 w0.f_l, .int .i64 w0.f_k, .int .i64 w0.f_bad, .bool w0.f_deep, .int .i64 w0.f_d]])) | _ => none) | _, _ => none
def publicanref9_parser_kind_ac : List (Option (Bool × Nat)) := [none]
set_option maxRecDepth 100000 in
theorem publicanref9_parser_kind_eq (m : Nat) (o0 : T_publicanref9_parser) (κ : V → List PObj → Option R) : pFun tb (publicanref9_parser_kind_G m) 1 [] [none] Tryz.f156 [.ptr 0 0] [.cells [.sl 7 o0.f_l, .int .i64 o0.f_k, .int .i64 o0.f_bad, .bool o0.f_deep, .int .i64 o0.f_d]] κ = publicanref9_parser_kind m o0 (fun r w0 => κ (.int .i64 r) [.cells [.sl 7 w0.f_l, .int .i64 w0.f_k, .int .i64 w0.f_bad, .bool w0.f_deep, .int .i64 w0.f_d]]) := by
  delta publicanref9_parser_kind_G publicanref9_parser_kind publicanref9_parser_w_sem publicanref9_Kind_sem publicanref9_parser_fail_sem
  generalize publicanref9_parser_w (R := R) m = c0
  generalize publicanref9_Kind (R := R) m = c1
  generalize publicanref9_parser_fail (R := R) m = c2
  refine id ?_
  kernel_rfl
noncomputable def publicanref9_parser_kind_sem (m : Nat) : PSem R := semOf publicanref9_parser_kind_ac (publicanref9_parser_kind_w (publicanref9_parser_kind m))
theorem publicanref9_parser_kind_ok (m : Nat) : SemOK cxP 156 (publicanref9_parser_kind_sem (R := R) m) :=
  have HG : ∀ f, SemOK cxP f (publicanref9_parser_kind_G (R := R) m f) := tabG_ok (.cons (publicanref9_parser_w_ok m) (.cons (publicanref9_Kind_ok m) (.cons (publicanref9_parser_fail_ok m) .nil)))
  semOf_ok (fun_of C HG (L := []) (rc := [none]) (k := 1) (fn_of Tryz.func156) rfl rfl (by kernel_rfl) (by rw [show loopsIn (bodyOf Tryz.f156) = [] from by kernel_rfl]; exact (.nil _)) fun vs os κ r h => by
    unfold publicanref9_parser_kind_w at h
    split at h; rotate_left; cases h
    rename_i v0_ q0_
    replace h := Option.bind_eq_some_iff.1 h; obtain ⟨u0, hh, h⟩ := h; obtain rfl := rdPtr_eq hh; clear hh
    replace h := Option.bind_eq_some_iff.1 h; obtain ⟨l1, hh, h⟩ := h; obtain rfl := rdCells_eq hh; clear hh
    split at h; rotate_left; cases h
    rename_i c2_0 c2_1 c2_2 c2_3 c2_4
    replace h := Option.bind_eq_some_iff.1 h; obtain ⟨p0_0, hh, h⟩ := h; obtain rfl := rdSl_eq hh; clear hh
    replace h := Option.bind_eq_some_iff.1 h; obtain ⟨p0_1, hh, h⟩ := h; obtain rfl := rdInt_eq hh; clear hh
    replace h := Option.bind_eq_some_iff.1 h; obtain ⟨p0_2, hh, h⟩ := h; obtain rfl := rdInt_eq hh; clear hh
    replace h := Option.bind_eq_some_iff.1 h; obtain ⟨p0_3, hh, h⟩ := h; obtain rfl := rdBool_eq hh; clear hh
    replace h := Option.bind_eq_some_iff.1 h; obtain ⟨p0_4, hh, h⟩ := h; obtain rfl := rdInt_eq hh; clear hh
    exact (publicanref9_parser_kind_eq m (T_publicanref9_parser.mk p0_0 p0_1 p0_2 p0_3 p0_4) κ).trans h
)
noncomputable def publicanref1_ReadDay_G (m : Nat) : FuncId → PSem R := tabG [(208, publicanref1_Day_sem m)]
set_option maxRecDepth 100000 in
theorem publicanref1_ReadDay_S0_eq (m : Nat) (ρ : List V → List PObj → Option R) (kx : Nat → List V → List PObj → Option R) (kr : List V → List PObj → Option R) (x0 : Int) (x1 : List UInt8) (x2 : List Int) : pCode tb (publicanref1_ReadDay_G m) 0 Tryz.f179.ntmps (lpC (bodyOf Tryz.f179) 0) [] (fun s => match head 0 [(5, .any), (0, .any), (4, .any)] s with | (vs, os) => ρ vs os) (fun i s => match head 0 [(4, .any)] s with | (vs, os) => kx i vs os) (fun s => match head 0 [(2, .any), (3, .any)] s with | (vs, os) => kr vs os) ⟨mkEnv [(5, .any), (0, .any), (4, .any)] [.int .i64 x0, .str x1, .loc 0], [.arr 0 x2]⟩ = publicanref1_ReadDay_S0 m (fun x0 x1 x2 => ρ [.int .i64 x0, .str x1, .loc 0] [.arr 0 x2]) (fun y0 => kx 0 [.loc 0] [.arr 0 y0]) (fun z0 z1 => kr [.int .i64 z0, .bool z1] []) x0 x1 x2 := by
  delta publicanref1_ReadDay_G publicanref1_ReadDay_S0 publicanref1_Day_sem
  generalize publicanref1_Day (R := R) m = c0
  refine id ?_
  kernel_rfl
set_option maxHeartbeats 4000000 in
theorem publicanref1_ReadDay_L0_eq (m : Nat) (j : Nat) : ∀ (kx : Nat → List V → List PObj → Option R) (kr : List V → List PObj → Option R) (x0 : Int) (x1 : List UInt8) (x2 : List Int), loopP tb (publicanref1_ReadDay_G m) 0 Tryz.f179.ntmps [(5, .any), (0, .any), (4, .any)] [(4, .any)] [(2, .any), (3, .any)] [] (lpC (bodyOf Tryz.f179) 0) j [.int .i64 x0, .str x1, .loc 0] [.arr 0 x2] kx kr = publicanref1_ReadDay_L0 m j x0 x1 x2 (fun y0 => kx 0 [.loc 0] [.arr 0 y0]) (fun z0 z1 => kr [.int .i64 z0, .bool z1] []) := by
  induction j with
  | zero => intros; rfl
  | succ j ih =>
    intro kx kr x0 x1 x2
    refine Eq.trans ?_ (Eq.trans (Eq.trans (publicanref1_ReadDay_S0_eq m (fun vs os => loopP tb (publicanref1_ReadDay_G m) 0 Tryz.f179.ntmps [(5, .any), (0, .any), (4, .any)] [(4, .any)] [(2, .any), (3, .any)] [] (lpC (bodyOf Tryz.f179) 0) j vs os kx kr) kx kr x0 x1 x2) (congrArg (fun ρ => publicanref1_ReadDay_S0 m ρ (fun y0 => kx 0 [.loc 0] [.arr 0 y0]) (fun z0 z1 => kr [.int .i64 z0, .bool z1] []) x0 x1 x2) (funext fun x0 => funext fun x1 => funext fun x2 => ih kx kr x0 x1 x2))) ?_) <;> kernel_rfl
noncomputable def publicanref1_ReadDay_X0 (m : Nat) : LoopH R := ⟨[(5, .any), (0, .any), (4, .any)], [(4, .any)], [(2, .any), (3, .any)], fun vs os kx kr => match vs, os with | [v0_, v1_, v2_], [q0_] => ((rdInt .i64 v0_).bind fun x0 => (rdStr v1_).bind fun x1 => (rdLoc 0 v2_).bind fun u0 => (rdArr 0 q0_).bind fun x2 => publicanref1_ReadDay_L0 m m x0 x1 x2 (fun y0 => kx 0 [.loc 0] [.arr 0 y0]) (fun z0 z1 => kr [.int .i64 z0, .bool z1] [])) | _, _ => none⟩
set_option maxHeartbeats 4000000 in
theorem publicanref1_ReadDay_X0_ok {m : Nat} (HG : ∀ f, SemOK cxP f (publicanref1_ReadDay_G (R := R) m f)) : LoopSem cxP Tryz.f179.ntmps 0 (lpC (bodyOf Tryz.f179) 0) (publicanref1_ReadDay_X0 (R := R) m) :=
  loop_of C HG (L := []) (by kernel_rfl) (by rw [show loopsIn (lpC (bodyOf Tryz.f179) 0) = [] from by kernel_rfl]; exact (.nil _)) m fun vs os kx kr r h => by
    try dsimp only at h
    split at h; rotate_left; cases h
    rename_i v0_ v1_ v2_ q0_
    replace h := Option.bind_eq_some_iff.1 h; obtain ⟨x0, hh, h⟩ := h; obtain rfl := rdInt_eq hh; clear hh
    replace h := Option.bind_eq_some_iff.1 h; obtain ⟨x1, hh, h⟩ := h; obtain rfl := rdStr_eq hh; clear hh
    replace h := Option.bind_eq_some_iff.1 h; obtain ⟨u0, hh, h⟩ := h; obtain rfl := rdLoc_eq hh; clear hh
    replace h := Option.bind_eq_some_iff.1 h; obtain ⟨x2, hh, h⟩ := h; obtain rfl := rdArr_eq hh; clear hh
    exact (publicanref1_ReadDay_L0_eq m m kx kr x0 x1 x2).trans h
noncomputable def publicanref1_ReadDay_w (F : List UInt8 → (Int → Bool → Option R) → Option R) : PSem R := fun vs os κ => match vs, os with | [v0_], [] => ((rdStr v0_).bind fun a0 => F a0 (fun r_0 r_1 => κ (.tup [.int .i64 r_0, .bool r_1]) [])) | _, _ => none
def publicanref1_ReadDay_ac : List (Option (Bool × Nat)) := [none]
set_option maxRecDepth 100000 in
theorem publicanref1_ReadDay_eq (m : Nat) (a0 : List UInt8) (κ : V → List PObj → Option R) : pFun tb (publicanref1_ReadDay_G m) 0 [publicanref1_ReadDay_X0 m] [none, none] Tryz.f179 [.str a0] [] κ = publicanref1_ReadDay m a0 (fun r_0 r_1 => κ (.tup [.int .i64 r_0, .bool r_1]) []) := by
  delta publicanref1_ReadDay_G publicanref1_ReadDay publicanref1_Day_sem publicanref1_ReadDay_X0
  generalize publicanref1_Day (R := R) m = c0
  generalize publicanref1_ReadDay_L0 (R := R) m = c1
  refine id ?_
  kernel_rfl
noncomputable def publicanref1_ReadDay_sem (m : Nat) : PSem R := semOf publicanref1_ReadDay_ac (publicanref1_ReadDay_w (publicanref1_ReadDay m))
theorem publicanref1_ReadDay_ok (m : Nat) : SemOK cxP 179 (publicanref1_ReadDay_sem (R := R) m) :=
  have HG : ∀ f, SemOK cxP f (publicanref1_ReadDay_G (R := R) m f) := tabG_ok (.cons (publicanref1_Day_ok m) .nil)
  semOf_ok (fun_of C HG (L := [publicanref1_ReadDay_X0 m]) (rc := [none, none]) (k := 0) (fn_of Tryz.func179) rfl rfl (by kernel_rfl) (by rw [show loopsIn (bodyOf Tryz.f179) = [(lpC (bodyOf Tryz.f179) 0)] from by kernel_rfl]; exact (.cons (publicanref1_ReadDay_X0_ok HG) (.nil _))) fun vs os κ r h => by
    unfold publicanref1_ReadDay_w at h
    split at h; rotate_left; cases h
    rename_i v0_
    replace h := Option.bind_eq_some_iff.1 h; obtain ⟨a0, hh, h⟩ := h; obtain rfl := rdStr_eq hh; clear hh
    exact (publicanref1_ReadDay_eq m a0 κ).trans h
)
noncomputable def publicanref9_parser_want_G (m : Nat) : FuncId → PSem R := tabG [(154, publicanref9_parser_take_sem m), (162, publicanref9_parser_fail_sem m)]
noncomputable def publicanref9_parser_want_w (F : T_publicanref9_parser → List UInt8 → (T_publicanref9_parser → Option R) → Option R) : PSem R := fun vs os κ => match vs, os with | [v0_, v1_], [q0_] => ((rdPtr 0 0 v0_).bind fun u0 => (rdStr v1_).bind fun a1 => (rdCells q0_).bind fun l1 => match l1 with | [c2_0, c2_1, c2_2, c2_3, c2_4] => ((rdSl 7 c2_0).bind fun p0_0 => (rdInt .i64 c2_1).bind fun p0_1 => (rdInt .i64 c2_2).bind fun p0_2 => (rdBool c2_3).bind fun p0_3 => (rdInt .i64 c2_4).bind fun p0_4 => F (T_publicanref9_parser.mk p0_0 p0_1 p0_2 p0_3 p0_4) a1 (fun w0 => κ (.tup []) [.cells [.sl 7 w0.f_l, .int .i64 w0.f_k, .int .i64 w0.f_bad, .bool w0.f_deep, .int .i64 w0.f_d]])) | _ => none) | _, _ => none
def publicanref9_parser_want_ac : List (Option (Bool × Nat)) := [none, none]
set_option maxRecDepth 100000 in
theorem publicanref9_parser_want_eq (m : Nat) (o0 : T_publicanref9_parser) (a1 : List UInt8) (κ : V → List PObj → Option R) : pFun tb (publicanref9_parser_want_G m) 1 [] [] Tryz.f157 [.ptr 0 0, .str a1] [.cells [.sl 7 o0.f_l, .int .i64 o0.f_k, .int .i64 o0.f_bad, .bool o0.f_deep, .int .i64 o0.f_d]] κ = publicanref9_parser_want m o0 a1 (fun w0 => κ (.tup []) [.cells [.sl 7 w0.f_l, .int .i64 w0.f_k, .int .i64 w0.f_bad, .bool w0.f_deep, .int .i64 w0.f_d]]) := by
  delta publicanref9_parser_want_G publicanref9_parser_want publicanref9_parser_take_sem publicanref9_parser_fail_sem
  generalize publicanref9_parser_take (R := R) m = c0
  generalize publicanref9_parser_fail (R := R) m = c1
  refine id ?_
  kernel_rfl
noncomputable def publicanref9_parser_want_sem (m : Nat) : PSem R := semOf publicanref9_parser_want_ac (publicanref9_parser_want_w (publicanref9_parser_want m))
theorem publicanref9_parser_want_ok (m : Nat) : SemOK cxP 157 (publicanref9_parser_want_sem (R := R) m) :=
  have HG : ∀ f, SemOK cxP f (publicanref9_parser_want_G (R := R) m f) := tabG_ok (.cons (publicanref9_parser_take_ok m) (.cons (publicanref9_parser_fail_ok m) .nil))
  semOf_ok (fun_of C HG (L := []) (rc := []) (k := 1) (fn_of Tryz.func157) rfl rfl (by kernel_rfl) (by rw [show loopsIn (bodyOf Tryz.f157) = [] from by kernel_rfl]; exact (.nil _)) fun vs os κ r h => by
    unfold publicanref9_parser_want_w at h
    split at h; rotate_left; cases h
    rename_i v0_ v1_ q0_
    replace h := Option.bind_eq_some_iff.1 h; obtain ⟨u0, hh, h⟩ := h; obtain rfl := rdPtr_eq hh; clear hh
    replace h := Option.bind_eq_some_iff.1 h; obtain ⟨a1, hh, h⟩ := h; obtain rfl := rdStr_eq hh; clear hh
    replace h := Option.bind_eq_some_iff.1 h; obtain ⟨l1, hh, h⟩ := h; obtain rfl := rdCells_eq hh; clear hh
    split at h; rotate_left; cases h
    rename_i c2_0 c2_1 c2_2 c2_3 c2_4
    replace h := Option.bind_eq_some_iff.1 h; obtain ⟨p0_0, hh, h⟩ := h; obtain rfl := rdSl_eq hh; clear hh
    replace h := Option.bind_eq_some_iff.1 h; obtain ⟨p0_1, hh, h⟩ := h; obtain rfl := rdInt_eq hh; clear hh
    replace h := Option.bind_eq_some_iff.1 h; obtain ⟨p0_2, hh, h⟩ := h; obtain rfl := rdInt_eq hh; clear hh
    replace h := Option.bind_eq_some_iff.1 h; obtain ⟨p0_3, hh, h⟩ := h; obtain rfl := rdBool_eq hh; clear hh
    replace h := Option.bind_eq_some_iff.1 h; obtain ⟨p0_4, hh, h⟩ := h; obtain rfl := rdInt_eq hh; clear hh
    exact (publicanref9_parser_want_eq m (T_publicanref9_parser.mk p0_0 p0_1 p0_2 p0_3 p0_4) a1 κ).trans h
)
noncomputable def publicanref9_parser_lit_G (m : Nat) : FuncId → PSem R := tabG [(186, publicanref9_parser_islit_sem m), (162, publicanref9_parser_fail_sem m), (153, publicanref9_parser_w_sem m)]
noncomputable def publicanref9_parser_lit_w (F : T_publicanref9_parser → (T_publicanref9_Node → T_publicanref9_parser → Option R) → Option R) : PSem R := fun vs os κ => match vs, os with | [v0_], [q0_] => ((rdPtr 0 0 v0_).bind fun u0 => (rdCells q0_).bind fun l1 => match l1 with | [c2_0, c2_1, c2_2, c2_3, c2_4] => ((rdSl 7 c2_0).bind fun p0_0 => (rdInt .i64 c2_1).bind fun p0_1 => (rdInt .i64 c2_2).bind fun p0_2 => (rdBool c2_3).bind fun p0_3 => (rdInt .i64 c2_4).bind fun p0_4 => F (T_publicanref9_parser.mk p0_0 p0_1 p0_2 p0_3 p0_4) (fun r w0 => κ (.st 5 r) [.cells [.sl 7 w0.f_l, .int .i64 w0.f_k, .int .i64 w0.f_bad, .bool w0.f_deep, .int .i64 w0.f_d]])) | _ => none) | _, _ => none
def publicanref9_parser_lit_ac : List (Option (Bool × Nat)) := [none]
set_option maxRecDepth 100000 in
theorem publicanref9_parser_lit_eq (m : Nat) (o0 : T_publicanref9_parser) (κ : V → List PObj → Option R) : pFun tb (publicanref9_parser_lit_G m) 1 [] [some (false, 5)] Tryz.f161 [.ptr 0 0] [.cells [.sl 7 o0.f_l, .int .i64 o0.f_k, .int .i64 o0.f_bad, .bool o0.f_deep, .int .i64 o0.f_d]] κ = publicanref9_parser_lit m o0 (fun r w0 => κ (.st 5 r) [.cells [.sl 7 w0.f_l, .int .i64 w0.f_k, .int .i64 w0.f_bad, .bool w0.f_deep, .int .i64 w0.f_d]]) := by
  delta publicanref9_parser_lit_G publicanref9_parser_lit publicanref9_parser_islit_sem publicanref9_parser_fail_sem publicanref9_parser_w_sem
  generalize publicanref9_parser_islit (R := R) m = c0
  generalize publicanref9_parser_fail (R := R) m = c1
  generalize publicanref9_parser_w (R := R) m = c2
  refine id ?_
  kernel_rfl
noncomputable def publicanref9_parser_lit_sem (m : Nat) : PSem R := semOf publicanref9_parser_lit_ac (publicanref9_parser_lit_w (publicanref9_parser_lit m))
theorem publicanref9_parser_lit_ok (m : Nat) : SemOK cxP 161 (publicanref9_parser_lit_sem (R := R) m) :=
  have HG : ∀ f, SemOK cxP f (publicanref9_parser_lit_G (R := R) m f) := tabG_ok (.cons (publicanref9_parser_islit_ok m) (.cons (publicanref9_parser_fail_ok m) (.cons (publicanref9_parser_w_ok m) .nil)))
  semOf_ok (fun_of C HG (L := []) (rc := [some (false, 5)]) (k := 1) (fn_of Tryz.func161) rfl rfl (by kernel_rfl) (by rw [show loopsIn (bodyOf Tryz.f161) = [] from by kernel_rfl]; exact (.nil _)) fun vs os κ r h => by
    unfold publicanref9_parser_lit_w at h
    split at h; rotate_left; cases h
    rename_i v0_ q0_
    replace h := Option.bind_eq_some_iff.1 h; obtain ⟨u0, hh, h⟩ := h; obtain rfl := rdPtr_eq hh; clear hh
    replace h := Option.bind_eq_some_iff.1 h; obtain ⟨l1, hh, h⟩ := h; obtain rfl := rdCells_eq hh; clear hh
    split at h; rotate_left; cases h
    rename_i c2_0 c2_1 c2_2 c2_3 c2_4
    replace h := Option.bind_eq_some_iff.1 h; obtain ⟨p0_0, hh, h⟩ := h; obtain rfl := rdSl_eq hh; clear hh
    replace h := Option.bind_eq_some_iff.1 h; obtain ⟨p0_1, hh, h⟩ := h; obtain rfl := rdInt_eq hh; clear hh
    replace h := Option.bind_eq_some_iff.1 h; obtain ⟨p0_2, hh, h⟩ := h; obtain rfl := rdInt_eq hh; clear hh
    replace h := Option.bind_eq_some_iff.1 h; obtain ⟨p0_3, hh, h⟩ := h; obtain rfl := rdBool_eq hh; clear hh
    replace h := Option.bind_eq_some_iff.1 h; obtain ⟨p0_4, hh, h⟩ := h; obtain rfl := rdInt_eq hh; clear hh
    exact (publicanref9_parser_lit_eq m (T_publicanref9_parser.mk p0_0 p0_1 p0_2 p0_3 p0_4) κ).trans h
)
noncomputable def publicanref9_digits_G (m : Nat) : FuncId → PSem R := tabG [(179, publicanref1_ReadDay_sem m), (150, publicanref9_run_sem m), (180, publicanref9_percent_sem m), (181, publicanref9_number_sem m), (147, publicanref9_digit_sem m)]
noncomputable def publicanref9_digits_w (F : List UInt8 → Int → (T_publicanref9_Word → Int → Option R) → Option R) : PSem R := fun vs os κ => match vs, os with | [v0_, v1_], [] => ((rdStr v0_).bind fun a0 => (rdInt .i64 v1_).bind fun a1 => F a0 a1 (fun r_0 r_1 => κ (.tup [.st 7 r_0, .int .i64 r_1]) [])) | _, _ => none
def publicanref9_digits_ac : List (Option (Bool × Nat)) := [none, none]
set_option maxRecDepth 100000 in
theorem publicanref9_digits_eq (m : Nat) (a0 : List UInt8) (a1 : Int) (κ : V → List PObj → Option R) : pFun tb (publicanref9_digits_G m) 0 [] [some (false, 7), none] Tryz.f149 [.str a0, .int .i64 a1] [] κ = publicanref9_digits m a0 a1 (fun r_0 r_1 => κ (.tup [.st 7 r_0, .int .i64 r_1]) []) := by
  delta publicanref9_digits_G publicanref9_digits publicanref1_ReadDay_sem publicanref9_run_sem publicanref9_percent_sem publicanref9_number_sem publicanref9_digit_sem
  generalize publicanref1_ReadDay (R := R) m = c0
  generalize publicanref9_run (R := R) m = c1
  generalize publicanref9_percent (R := R) m = c2
  generalize publicanref9_number (R := R) m = c3
  generalize publicanref9_digit (R := R) m = c4
  refine id ?_
  kernel_rfl
noncomputable def publicanref9_digits_sem (m : Nat) : PSem R := semOf publicanref9_digits_ac (publicanref9_digits_w (publicanref9_digits m))
theorem publicanref9_digits_ok (m : Nat) : SemOK cxP 149 (publicanref9_digits_sem (R := R) m) :=
  have HG : ∀ f, SemOK cxP f (publicanref9_digits_G (R := R) m f) := tabG_ok (.cons (publicanref1_ReadDay_ok m) (.cons (publicanref9_run_ok m) (.cons (publicanref9_percent_ok m) (.cons (publicanref9_number_ok m) (.cons (publicanref9_digit_ok m) .nil)))))
  semOf_ok (fun_of C HG (L := []) (rc := [some (false, 7), none]) (k := 0) (fn_of Tryz.func149) rfl rfl (by kernel_rfl) (by rw [show loopsIn (bodyOf Tryz.f149) = [] from by kernel_rfl]; exact (.nil _)) fun vs os κ r h => by
    unfold publicanref9_digits_w at h
    split at h; rotate_left; cases h
    rename_i v0_ v1_
    replace h := Option.bind_eq_some_iff.1 h; obtain ⟨a0, hh, h⟩ := h; obtain rfl := rdStr_eq hh; clear hh
    replace h := Option.bind_eq_some_iff.1 h; obtain ⟨a1, hh, h⟩ := h; obtain rfl := rdInt_eq hh; clear hh
    exact (publicanref9_digits_eq m a0 a1 κ).trans h
)
end Go.Pm
