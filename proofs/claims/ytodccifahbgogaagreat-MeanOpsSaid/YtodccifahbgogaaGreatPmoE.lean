/- The interpreter over data answers as the plain functions say. -/
import Derived.Test.YtodccifahbgogaaGreatPmoD
set_option linter.unusedVariables false
set_option linter.unusedSectionVars false
set_option linter.unusedSimpArgs false
namespace Go.Pm
open Go Go.EvM Go.Pv Go.Proofs
set_option linter.unusedVariables false
set_option linter.unusedSectionVars false
variable {R : Type}
noncomputable def publicanref1_Int_G (m : Nat) : FuncId → PSem R := tabG [(99, publicanref1_Of_sem m), (178, publicanref1_Cmp_sem m)]
set_option maxRecDepth 100000 in
theorem publicanref1_Int_S0_eq (m : Nat) (ρ : List V → List PObj → Option R) (kx : Nat → List V → List PObj → Option R) (kr : List V → List PObj → Option R) (x0 : Int) (x1 : Int) (x2 : Bool) (x3 : List Int) : pCode tb (publicanref1_Int_G m) 0 Tryz.f141.ntmps (lpC (bodyOf Tryz.f141) 0) [] (fun s => match head 0 [(5, .any), (1, .fcells [(1, 6)]), (4, .any)] s with | (vs, os) => ρ vs os) (fun i s => match head 0 [(4, .any), (1, .any)] s with | (vs, os) => kx i vs os) (fun s => match head 0 [] s with | (vs, os) => kr vs os) ⟨mkEnv [(5, .any), (1, .fcells [(1, 6)]), (4, .any)] [.int .i64 x0, .ptr 0 0, .int .u64 x1], [.cells [.bool x2, .sl 6 x3]]⟩ = publicanref1_Int_S0 m (fun x0 x1 x2 x3 => ρ [.int .i64 x0, .ptr 0 0, .int .u64 x1] [.cells [.bool x2, .sl 6 x3]]) (fun y0 y1 y2 => kx 0 [.int .u64 y0, .ptr 0 0] [.cells [.bool y1, .sl 6 y2]]) x0 x1 x2 x3 := by
  delta publicanref1_Int_G publicanref1_Int_S0 publicanref1_Of_sem publicanref1_Cmp_sem
  generalize publicanref1_Of (R := R) m = c0
  generalize publicanref1_Cmp (R := R) m = c1
  refine id ?_
  kernel_rfl
set_option maxHeartbeats 4000000 in
theorem publicanref1_Int_L0_eq (m : Nat) (j : Nat) : ∀ (kx : Nat → List V → List PObj → Option R) (kr : List V → List PObj → Option R) (x0 : Int) (x1 : Int) (x2 : Bool) (x3 : List Int), loopP tb (publicanref1_Int_G m) 0 Tryz.f141.ntmps [(5, .any), (1, .fcells [(1, 6)]), (4, .any)] [(4, .any), (1, .any)] [] [] (lpC (bodyOf Tryz.f141) 0) j [.int .i64 x0, .ptr 0 0, .int .u64 x1] [.cells [.bool x2, .sl 6 x3]] kx kr = publicanref1_Int_L0 m j x0 x1 x2 x3 (fun y0 y1 y2 => kx 0 [.int .u64 y0, .ptr 0 0] [.cells [.bool y1, .sl 6 y2]]) := by
  induction j with
  | zero => intros; rfl
  | succ j ih =>
    intro kx kr x0 x1 x2 x3
    refine Eq.trans ?_ (Eq.trans (Eq.trans (publicanref1_Int_S0_eq m (fun vs os => loopP tb (publicanref1_Int_G m) 0 Tryz.f141.ntmps [(5, .any), (1, .fcells [(1, 6)]), (4, .any)] [(4, .any), (1, .any)] [] [] (lpC (bodyOf Tryz.f141) 0) j vs os kx kr) kx kr x0 x1 x2 x3) (congrArg (fun ρ => publicanref1_Int_S0 m ρ (fun y0 y1 y2 => kx 0 [.int .u64 y0, .ptr 0 0] [.cells [.bool y1, .sl 6 y2]]) x0 x1 x2 x3) (funext fun x0 => funext fun x1 => funext fun x2 => funext fun x3 => ih kx kr x0 x1 x2 x3))) ?_) <;> kernel_rfl
noncomputable def publicanref1_Int_X0 (m : Nat) : LoopH R := ⟨[(5, .any), (1, .fcells [(1, 6)]), (4, .any)], [(4, .any), (1, .any)], [], fun vs os kx kr => match vs, os with | [v0_, v1_, v2_], [q0_] => ((rdInt .i64 v0_).bind fun x0 => (rdPtr 0 0 v1_).bind fun u0 => (rdInt .u64 v2_).bind fun x1 => (rdCells q0_).bind fun l1 => match l1 with | [c2_0, c2_1] => ((rdBool c2_0).bind fun x2 => (rdSl 6 c2_1).bind fun x3 => publicanref1_Int_L0 m m x0 x1 x2 x3 (fun y0 y1 y2 => kx 0 [.int .u64 y0, .ptr 0 0] [.cells [.bool y1, .sl 6 y2]])) | _ => none) | _, _ => none⟩
set_option maxHeartbeats 4000000 in
theorem publicanref1_Int_X0_ok {m : Nat} (HG : ∀ f, SemOK cxP f (publicanref1_Int_G (R := R) m f)) : LoopSem cxP Tryz.f141.ntmps 0 (lpC (bodyOf Tryz.f141) 0) (publicanref1_Int_X0 (R := R) m) :=
  loop_of C HG (L := []) (by kernel_rfl) (by rw [show loopsIn (lpC (bodyOf Tryz.f141) 0) = [] from by kernel_rfl]; exact (.nil _)) m fun vs os kx kr r h => by
    try dsimp only at h
    split at h; rotate_left; cases h
    rename_i v0_ v1_ v2_ q0_
    replace h := Option.bind_eq_some_iff.1 h; obtain ⟨x0, hh, h⟩ := h; obtain rfl := rdInt_eq hh; clear hh
    replace h := Option.bind_eq_some_iff.1 h; obtain ⟨u0, hh, h⟩ := h; obtain rfl := rdPtr_eq hh; clear hh
    replace h := Option.bind_eq_some_iff.1 h; obtain ⟨x1, hh, h⟩ := h; obtain rfl := rdInt_eq hh; clear hh
    replace h := Option.bind_eq_some_iff.1 h; obtain ⟨l1, hh, h⟩ := h; obtain rfl := rdCells_eq hh; clear hh
    split at h; rotate_left; cases h
    rename_i c2_0 c2_1
    replace h := Option.bind_eq_some_iff.1 h; obtain ⟨x2, hh, h⟩ := h; obtain rfl := rdBool_eq hh; clear hh
    replace h := Option.bind_eq_some_iff.1 h; obtain ⟨x3, hh, h⟩ := h; obtain rfl := rdSl_eq hh; clear hh
    exact (publicanref1_Int_L0_eq m m kx kr x0 x1 x2 x3).trans h
noncomputable def publicanref1_Int_w (F : T_publicanref1_Big → (Int → Bool → Option R) → Option R) : PSem R := fun vs os κ => match vs, os with | [v0_], [] => ((rdSt 5 v0_).bind fun a0 => F a0 (fun r_0 r_1 => κ (.tup [.int .i64 r_0, .bool r_1]) [])) | _, _ => none
def publicanref1_Int_ac : List (Option (Bool × Nat)) := [some (false, 5)]
set_option maxRecDepth 100000 in
theorem publicanref1_Int_eq (m : Nat) (a0 : T_publicanref1_Big) (κ : V → List PObj → Option R) : pFun tb (publicanref1_Int_G m) 0 [publicanref1_Int_X0 m] [none, none] Tryz.f141 [.st 5 a0] [] κ = publicanref1_Int m a0 (fun r_0 r_1 => κ (.tup [.int .i64 r_0, .bool r_1]) []) := by
  delta publicanref1_Int_G publicanref1_Int publicanref1_Of_sem publicanref1_Cmp_sem publicanref1_Int_X0
  generalize publicanref1_Of (R := R) m = c0
  generalize publicanref1_Cmp (R := R) m = c1
  generalize publicanref1_Int_L0 (R := R) m = c2
  refine id ?_
  kernel_rfl
noncomputable def publicanref1_Int_sem (m : Nat) : PSem R := semOf publicanref1_Int_ac (publicanref1_Int_w (publicanref1_Int m))
theorem publicanref1_Int_ok (m : Nat) : SemOK cxP 141 (publicanref1_Int_sem (R := R) m) :=
  have HG : ∀ f, SemOK cxP f (publicanref1_Int_G (R := R) m f) := tabG_ok (.cons (publicanref1_Of_ok m) (.cons (publicanref1_Cmp_ok m) .nil))
  semOf_ok (fun_of C HG (L := [publicanref1_Int_X0 m]) (rc := [none, none]) (k := 0) (fn_of Tryz.func141) rfl rfl (by kernel_rfl) (by rw [show loopsIn (bodyOf Tryz.f141) = [(lpC (bodyOf Tryz.f141) 0)] from by kernel_rfl]; exact (.cons (publicanref1_Int_X0_ok HG) (.nil _))) fun vs os κ r h => by
    unfold publicanref1_Int_w at h
    split at h; rotate_left; cases h
    rename_i v0_
    replace h := Option.bind_eq_some_iff.1 h; obtain ⟨a0, hh, h⟩ := h; obtain rfl := rdSt_eq hh; clear hh
    exact (publicanref1_Int_eq m a0 κ).trans h
)
noncomputable def num_Wide_Floor_G (m : Nat) : FuncId → PSem R := tabG [(204, num_Wide_turned_sem m), (205, math_bits_Div64_sem m), (175, num_narrow_sem m), (207, num_Of_sem m), (206, num_Wide_Plus_sem m)]
noncomputable def num_Wide_Floor_w (F : T_num_Wide → Int → (Int → Bool → Option R) → Option R) : PSem R := fun vs os κ => match vs, os with | [v0_, v1_], [] => ((rdSt 7 v0_).bind fun a0 => (rdInt .i64 v1_).bind fun a1 => F a0 a1 (fun r_0 r_1 => κ (.tup [.int .i64 r_0, .bool r_1]) [])) | _, _ => none
def num_Wide_Floor_ac : List (Option (Bool × Nat)) := [some (false, 7), none]
noncomputable def num_Wide_Floor_F (c0 : (T_num_Wide) → (T_num_Wide → Option R) → Option R) (c1 : (Int) → (Int) → (Int) → (Int → Int → Option R) → Option R) (c2 : (T_num_Wide) → (Int → Bool → Option R) → Option R) (c3 : (Int) → (T_num_Wide → Option R) → Option R) (c4 : (T_num_Wide) → (T_num_Wide) → (T_num_Wide → Bool → Option R) → Option R) (a0 : T_num_Wide) (a1 : Int) (κ : Int → Bool → Option R) : Option R :=
  let t12 := (ltI a1 1)
  br (t12) (
    κ 0 false)
  (
    let t16 := (ltI a0.f_Hi 0)
    br (t16) (
      c0 a0 (fun r18 =>
      let t20 := (wr .u64 a1)
      let t23 := (wr .u64 r18.f_Hi)
      let t25 := (leI t20 t23)
      br (t25) (
        κ 0 false)
      (
        let t29 := (wr .u64 r18.f_Hi)
        c1 t29 r18.f_Lo t20 (fun r33_0 r33_1 =>
        let t38 := (leI 0 a0.f_Hi)
        br (t38) (
          c2 (T_num_Wide.mk 0 r33_0) (fun r41_0 r41_1 =>
          κ r41_0 r41_1))
        (
          c0 (T_num_Wide.mk 0 r33_0) (fun r46 =>
          let t48 := (ltI 0 r33_1)
          br (t48) (
            c3 (-1) (fun r51 =>
            c4 r46 r51 (fun r52_0 r52_1 =>
            c2 r52_0 (fun r56_0 r56_1 =>
            κ r56_0 r56_1))))
          (
            c2 r46 (fun r56_0 r56_1 =>
            κ r56_0 r56_1))))))))
    (
      let t20 := (wr .u64 a1)
      let t23 := (wr .u64 a0.f_Hi)
      let t25 := (leI t20 t23)
      br (t25) (
        κ 0 false)
      (
        let t29 := (wr .u64 a0.f_Hi)
        c1 t29 a0.f_Lo t20 (fun r33_0 r33_1 =>
        let t38 := (leI 0 a0.f_Hi)
        br (t38) (
          c2 (T_num_Wide.mk 0 r33_0) (fun r41_0 r41_1 =>
          κ r41_0 r41_1))
        (
          c0 (T_num_Wide.mk 0 r33_0) (fun r46 =>
          let t48 := (ltI 0 r33_1)
          br (t48) (
            c3 (-1) (fun r51 =>
            c4 r46 r51 (fun r52_0 r52_1 =>
            c2 r52_0 (fun r56_0 r56_1 =>
            κ r56_0 r56_1))))
          (
            c2 r46 (fun r56_0 r56_1 =>
            κ r56_0 r56_1))))))))
set_option maxRecDepth 100000 in
theorem num_Wide_Floor_aux (c0 : (T_num_Wide) → (T_num_Wide → Option R) → Option R) (c1 : (Int) → (Int) → (Int) → (Int → Int → Option R) → Option R) (c2 : (T_num_Wide) → (Int → Bool → Option R) → Option R) (c3 : (Int) → (T_num_Wide → Option R) → Option R) (c4 : (T_num_Wide) → (T_num_Wide) → (T_num_Wide → Bool → Option R) → Option R) (a0 : T_num_Wide) (a1 : Int) (κ : V → List PObj → Option R) : pFun tb (tabG [(204, semOf num_Wide_turned_ac (num_Wide_turned_w c0)), (205, semOf math_bits_Div64_ac (math_bits_Div64_w c1)), (175, semOf num_narrow_ac (num_narrow_w c2)), (207, semOf num_Of_ac (num_Of_w c3)), (206, semOf num_Wide_Plus_ac (num_Wide_Plus_w c4))]) 0 [] [none, none] Tryz.f177 [.st 7 a0, .int .i64 a1] [] κ = num_Wide_Floor_F c0 c1 c2 c3 c4 a0 a1 (fun r_0 r_1 => κ (.tup [.int .i64 r_0, .bool r_1]) []) := by
  kernel_rfl
theorem num_Wide_Floor_eq (m : Nat) (a0 : T_num_Wide) (a1 : Int) (κ : V → List PObj → Option R) : pFun tb (num_Wide_Floor_G m) 0 [] [none, none] Tryz.f177 [.st 7 a0, .int .i64 a1] [] κ = num_Wide_Floor m a0 a1 (fun r_0 r_1 => κ (.tup [.int .i64 r_0, .bool r_1]) []) := num_Wide_Floor_aux (num_Wide_turned m) (math_bits_Div64 m) (num_narrow m) (num_Of m) (num_Wide_Plus m) a0 a1 κ
noncomputable def num_Wide_Floor_sem (m : Nat) : PSem R := semOf num_Wide_Floor_ac (num_Wide_Floor_w (num_Wide_Floor m))
theorem num_Wide_Floor_ok (m : Nat) : SemOK cxP 177 (num_Wide_Floor_sem (R := R) m) :=
  have HG : ∀ f, SemOK cxP f (num_Wide_Floor_G (R := R) m f) := tabG_ok (.cons (num_Wide_turned_ok m) (.cons (math_bits_Div64_ok m) (.cons (num_narrow_ok m) (.cons (num_Of_ok m) (.cons (num_Wide_Plus_ok m) .nil)))))
  semOf_ok (fun_of C HG (L := []) (rc := [none, none]) (k := 0) (fn_of Tryz.func177) rfl rfl (by kernel_rfl) (by rw [show loopsIn (bodyOf Tryz.f177) = [] from by kernel_rfl]; exact (.nil _)) fun vs os κ r h => by
    unfold num_Wide_Floor_w at h
    split at h; rotate_left; cases h
    rename_i v0_ v1_
    replace h := Option.bind_eq_some_iff.1 h; obtain ⟨a0, hh, h⟩ := h; obtain rfl := rdSt_eq hh; clear hh
    replace h := Option.bind_eq_some_iff.1 h; obtain ⟨a1, hh, h⟩ := h; obtain rfl := rdInt_eq hh; clear hh
    exact (num_Wide_Floor_eq m a0 a1 κ).trans h
)
noncomputable def publicanref11_fitted_G (m : Nat) : FuncId → PSem R := tabG [(141, publicanref1_Int_sem m), (86, publicanref11_Fit_sem m)]
noncomputable def publicanref11_fitted_w (F : Int → T_publicanref1_Big → (T_api_Value → Int → Option R) → Option R) : PSem R := fun vs os κ => match vs, os with | [v0_, v1_], [] => ((rdInt .i64 v0_).bind fun a0 => (rdSt 5 v1_).bind fun a1 => F a0 a1 (fun r_0 r_1 => κ (.tup [.st 4 r_0, .int .i64 r_1]) [])) | _, _ => none
def publicanref11_fitted_ac : List (Option (Bool × Nat)) := [none, some (false, 5)]
set_option maxRecDepth 100000 in
theorem publicanref11_fitted_eq (m : Nat) (a0 : Int) (a1 : T_publicanref1_Big) (κ : V → List PObj → Option R) : pFun tb (publicanref11_fitted_G m) 0 [] [some (false, 4), none] Tryz.f97 [.int .i64 a0, .st 5 a1] [] κ = publicanref11_fitted m a0 a1 (fun r_0 r_1 => κ (.tup [.st 4 r_0, .int .i64 r_1]) []) := by
  delta publicanref11_fitted_G publicanref11_fitted publicanref1_Int_sem publicanref11_Fit_sem
  generalize publicanref1_Int (R := R) m = c0
  generalize publicanref11_Fit (R := R) m = c1
  refine id ?_
  kernel_rfl
noncomputable def publicanref11_fitted_sem (m : Nat) : PSem R := semOf publicanref11_fitted_ac (publicanref11_fitted_w (publicanref11_fitted m))
theorem publicanref11_fitted_ok (m : Nat) : SemOK cxP 97 (publicanref11_fitted_sem (R := R) m) :=
  have HG : ∀ f, SemOK cxP f (publicanref11_fitted_G (R := R) m f) := tabG_ok (.cons (publicanref1_Int_ok m) (.cons (publicanref11_Fit_ok m) .nil))
  semOf_ok (fun_of C HG (L := []) (rc := [some (false, 4), none]) (k := 0) (fn_of Tryz.func97) rfl rfl (by kernel_rfl) (by rw [show loopsIn (bodyOf Tryz.f97) = [] from by kernel_rfl]; exact (.nil _)) fun vs os κ r h => by
    unfold publicanref11_fitted_w at h
    split at h; rotate_left; cases h
    rename_i v0_ v1_
    replace h := Option.bind_eq_some_iff.1 h; obtain ⟨a0, hh, h⟩ := h; obtain rfl := rdInt_eq hh; clear hh
    replace h := Option.bind_eq_some_iff.1 h; obtain ⟨a1, hh, h⟩ := h; obtain rfl := rdSt_eq hh; clear hh
    exact (publicanref11_fitted_eq m a0 a1 κ).trans h
)
noncomputable def num_MulFloor_G (m : Nat) : FuncId → PSem R := tabG [(176, num_product_sem m), (177, num_Wide_Floor_sem m)]
noncomputable def num_MulFloor_w (F : Int → Int → Int → (Int → Bool → Option R) → Option R) : PSem R := fun vs os κ => match vs, os with | [v0_, v1_, v2_], [] => ((rdInt .i64 v0_).bind fun a0 => (rdInt .i64 v1_).bind fun a1 => (rdInt .i64 v2_).bind fun a2 => F a0 a1 a2 (fun r_0 r_1 => κ (.tup [.int .i64 r_0, .bool r_1]) [])) | _, _ => none
def num_MulFloor_ac : List (Option (Bool × Nat)) := [none, none, none]
set_option maxRecDepth 100000 in
theorem num_MulFloor_eq (m : Nat) (a0 : Int) (a1 : Int) (a2 : Int) (κ : V → List PObj → Option R) : pFun tb (num_MulFloor_G m) 0 [] [none, none] Tryz.f139 [.int .i64 a0, .int .i64 a1, .int .i64 a2] [] κ = num_MulFloor m a0 a1 a2 (fun r_0 r_1 => κ (.tup [.int .i64 r_0, .bool r_1]) []) := by
  delta num_MulFloor_G num_MulFloor num_product_sem num_Wide_Floor_sem
  generalize num_product (R := R) m = c0
  generalize num_Wide_Floor (R := R) m = c1
  refine id ?_
  kernel_rfl
noncomputable def num_MulFloor_sem (m : Nat) : PSem R := semOf num_MulFloor_ac (num_MulFloor_w (num_MulFloor m))
theorem num_MulFloor_ok (m : Nat) : SemOK cxP 139 (num_MulFloor_sem (R := R) m) :=
  have HG : ∀ f, SemOK cxP f (num_MulFloor_G (R := R) m f) := tabG_ok (.cons (num_product_ok m) (.cons (num_Wide_Floor_ok m) .nil))
  semOf_ok (fun_of C HG (L := []) (rc := [none, none]) (k := 0) (fn_of Tryz.func139) rfl rfl (by kernel_rfl) (by rw [show loopsIn (bodyOf Tryz.f139) = [] from by kernel_rfl]; exact (.nil _)) fun vs os κ r h => by
    unfold num_MulFloor_w at h
    split at h; rotate_left; cases h
    rename_i v0_ v1_ v2_
    replace h := Option.bind_eq_some_iff.1 h; obtain ⟨a0, hh, h⟩ := h; obtain rfl := rdInt_eq hh; clear hh
    replace h := Option.bind_eq_some_iff.1 h; obtain ⟨a1, hh, h⟩ := h; obtain rfl := rdInt_eq hh; clear hh
    replace h := Option.bind_eq_some_iff.1 h; obtain ⟨a2, hh, h⟩ := h; obtain rfl := rdInt_eq hh; clear hh
    exact (num_MulFloor_eq m a0 a1 a2 κ).trans h
)
noncomputable def publicanref11_Op_G (m : Nat) : FuncId → PSem R := tabG [(95, publicanref11_Unary_sem m), (96, publicanref11_truth_sem m), (99, publicanref1_Of_sem m), (98, publicanref1_Minus_sem m), (97, publicanref11_fitted_sem m), (100, publicanref11_Binary_sem m), (101, publicanref1_Add_sem m), (102, publicanref1_Mul_sem m), (103, publicanref1_Floor_sem m)]
noncomputable def publicanref11_Op_w (F : List UInt8 → T_api_Value → T_api_Value → (T_api_Value → Int → Option R) → Option R) : PSem R := fun vs os κ => match vs, os with | [v0_, v1_, v2_], [] => ((rdStr v0_).bind fun a0 => (rdSt 4 v1_).bind fun a1 => (rdSt 4 v2_).bind fun a2 => F a0 a1 a2 (fun r_0 r_1 => κ (.tup [.st 4 r_0, .int .i64 r_1]) [])) | _, _ => none
def publicanref11_Op_ac : List (Option (Bool × Nat)) := [none, some (false, 4), some (false, 4)]
set_option maxRecDepth 100000 in
theorem publicanref11_Op_eq (m : Nat) (a0 : List UInt8) (a1 : T_api_Value) (a2 : T_api_Value) (κ : V → List PObj → Option R) : pFun tb (publicanref11_Op_G m) 0 [] [some (false, 4), none] Tryz.f41 [.str a0, .st 4 a1, .st 4 a2] [] κ = publicanref11_Op m a0 a1 a2 (fun r_0 r_1 => κ (.tup [.st 4 r_0, .int .i64 r_1]) []) := by
  delta publicanref11_Op_G publicanref11_Op publicanref11_Unary_sem publicanref11_truth_sem publicanref1_Of_sem publicanref1_Minus_sem publicanref11_fitted_sem publicanref11_Binary_sem publicanref1_Add_sem publicanref1_Mul_sem publicanref1_Floor_sem
  generalize publicanref11_Unary (R := R) m = c0
  generalize publicanref11_truth (R := R) m = c1
  generalize publicanref1_Of (R := R) m = c2
  generalize publicanref1_Minus (R := R) m = c3
  generalize publicanref11_fitted (R := R) m = c4
  generalize publicanref11_Binary (R := R) m = c5
  generalize publicanref1_Add (R := R) m = c6
  generalize publicanref1_Mul (R := R) m = c7
  generalize publicanref1_Floor (R := R) m = c8
  refine id ?_
  kernel_rfl
noncomputable def publicanref11_Op_sem (m : Nat) : PSem R := semOf publicanref11_Op_ac (publicanref11_Op_w (publicanref11_Op m))
theorem publicanref11_Op_ok (m : Nat) : SemOK cxP 41 (publicanref11_Op_sem (R := R) m) :=
  have HG : ∀ f, SemOK cxP f (publicanref11_Op_G (R := R) m f) := tabG_ok (.cons (publicanref11_Unary_ok m) (.cons (publicanref11_truth_ok m) (.cons (publicanref1_Of_ok m) (.cons (publicanref1_Minus_ok m) (.cons (publicanref11_fitted_ok m) (.cons (publicanref11_Binary_ok m) (.cons (publicanref1_Add_ok m) (.cons (publicanref1_Mul_ok m) (.cons (publicanref1_Floor_ok m) .nil)))))))))
  semOf_ok (fun_of C HG (L := []) (rc := [some (false, 4), none]) (k := 0) (fn_of Tryz.func41) rfl rfl (by kernel_rfl) (by rw [show loopsIn (bodyOf Tryz.f41) = [] from by kernel_rfl]; exact (.nil _)) fun vs os κ r h => by
    unfold publicanref11_Op_w at h
    split at h; rotate_left; cases h
    rename_i v0_ v1_ v2_
    replace h := Option.bind_eq_some_iff.1 h; obtain ⟨a0, hh, h⟩ := h; obtain rfl := rdStr_eq hh; clear hh
    replace h := Option.bind_eq_some_iff.1 h; obtain ⟨a1, hh, h⟩ := h; obtain rfl := rdSt_eq hh; clear hh
    replace h := Option.bind_eq_some_iff.1 h; obtain ⟨a2, hh, h⟩ := h; obtain rfl := rdSt_eq hh; clear hh
    exact (publicanref11_Op_eq m a0 a1 a2 κ).trans h
)
noncomputable def mean_times_G (m : Nat) : FuncId → PSem R := tabG [(138, num_Mul_sem m), (139, num_MulFloor_sem m), (90, mean_made_sem m)]
noncomputable def mean_times_w (F : Int → T_api_Value → T_api_Value → (T_api_Value → Int → Option R) → Option R) : PSem R := fun vs os κ => match vs, os with | [v0_, v1_, v2_], [] => ((rdInt .i64 v0_).bind fun a0 => (rdSt 4 v1_).bind fun a1 => (rdSt 4 v2_).bind fun a2 => F a0 a1 a2 (fun r_0 r_1 => κ (.tup [.st 4 r_0, .int .i64 r_1]) [])) | _, _ => none
def mean_times_ac : List (Option (Bool × Nat)) := [none, some (false, 4), some (false, 4)]
set_option maxRecDepth 100000 in
theorem mean_times_eq (m : Nat) (a0 : Int) (a1 : T_api_Value) (a2 : T_api_Value) (κ : V → List PObj → Option R) : pFun tb (mean_times_G m) 0 [] [some (false, 4), none] Tryz.f92 [.int .i64 a0, .st 4 a1, .st 4 a2] [] κ = mean_times m a0 a1 a2 (fun r_0 r_1 => κ (.tup [.st 4 r_0, .int .i64 r_1]) []) := by
  delta mean_times_G mean_times num_Mul_sem num_MulFloor_sem mean_made_sem
  generalize num_Mul (R := R) m = c0
  generalize num_MulFloor (R := R) m = c1
  generalize mean_made (R := R) m = c2
  refine id ?_
  kernel_rfl
noncomputable def mean_times_sem (m : Nat) : PSem R := semOf mean_times_ac (mean_times_w (mean_times m))
theorem mean_times_ok (m : Nat) : SemOK cxP 92 (mean_times_sem (R := R) m) :=
  have HG : ∀ f, SemOK cxP f (mean_times_G (R := R) m f) := tabG_ok (.cons (num_Mul_ok m) (.cons (num_MulFloor_ok m) (.cons (mean_made_ok m) .nil)))
  semOf_ok (fun_of C HG (L := []) (rc := [some (false, 4), none]) (k := 0) (fn_of Tryz.func92) rfl rfl (by kernel_rfl) (by rw [show loopsIn (bodyOf Tryz.f92) = [] from by kernel_rfl]; exact (.nil _)) fun vs os κ r h => by
    unfold mean_times_w at h
    split at h; rotate_left; cases h
    rename_i v0_ v1_ v2_
    replace h := Option.bind_eq_some_iff.1 h; obtain ⟨a0, hh, h⟩ := h; obtain rfl := rdInt_eq hh; clear hh
    replace h := Option.bind_eq_some_iff.1 h; obtain ⟨a1, hh, h⟩ := h; obtain rfl := rdSt_eq hh; clear hh
    replace h := Option.bind_eq_some_iff.1 h; obtain ⟨a2, hh, h⟩ := h; obtain rfl := rdSt_eq hh; clear hh
    exact (mean_times_eq m a0 a1 a2 κ).trans h
)
noncomputable def mean_over_G (m : Nat) : FuncId → PSem R := tabG [(140, num_Floor_sem m), (90, mean_made_sem m), (91, num_Sub_sem m), (139, num_MulFloor_sem m)]
noncomputable def mean_over_w (F : Int → T_api_Value → T_api_Value → (T_api_Value → Int → Option R) → Option R) : PSem R := fun vs os κ => match vs, os with | [v0_, v1_, v2_], [] => ((rdInt .i64 v0_).bind fun a0 => (rdSt 4 v1_).bind fun a1 => (rdSt 4 v2_).bind fun a2 => F a0 a1 a2 (fun r_0 r_1 => κ (.tup [.st 4 r_0, .int .i64 r_1]) [])) | _, _ => none
def mean_over_ac : List (Option (Bool × Nat)) := [none, some (false, 4), some (false, 4)]
set_option maxRecDepth 100000 in
theorem mean_over_eq (m : Nat) (a0 : Int) (a1 : T_api_Value) (a2 : T_api_Value) (κ : V → List PObj → Option R) : pFun tb (mean_over_G m) 0 [] [some (false, 4), none] Tryz.f93 [.int .i64 a0, .st 4 a1, .st 4 a2] [] κ = mean_over m a0 a1 a2 (fun r_0 r_1 => κ (.tup [.st 4 r_0, .int .i64 r_1]) []) := by
  delta mean_over_G mean_over num_Floor_sem mean_made_sem num_Sub_sem num_MulFloor_sem
  generalize num_Floor (R := R) m = c0
  generalize mean_made (R := R) m = c1
  generalize num_Sub (R := R) m = c2
  generalize num_MulFloor (R := R) m = c3
  refine id ?_
  kernel_rfl
noncomputable def mean_over_sem (m : Nat) : PSem R := semOf mean_over_ac (mean_over_w (mean_over m))
theorem mean_over_ok (m : Nat) : SemOK cxP 93 (mean_over_sem (R := R) m) :=
  have HG : ∀ f, SemOK cxP f (mean_over_G (R := R) m f) := tabG_ok (.cons (num_Floor_ok m) (.cons (mean_made_ok m) (.cons (num_Sub_ok m) (.cons (num_MulFloor_ok m) .nil))))
  semOf_ok (fun_of C HG (L := []) (rc := [some (false, 4), none]) (k := 0) (fn_of Tryz.func93) rfl rfl (by kernel_rfl) (by rw [show loopsIn (bodyOf Tryz.f93) = [] from by kernel_rfl]; exact (.nil _)) fun vs os κ r h => by
    unfold mean_over_w at h
    split at h; rotate_left; cases h
    rename_i v0_ v1_ v2_
    replace h := Option.bind_eq_some_iff.1 h; obtain ⟨a0, hh, h⟩ := h; obtain rfl := rdInt_eq hh; clear hh
    replace h := Option.bind_eq_some_iff.1 h; obtain ⟨a1, hh, h⟩ := h; obtain rfl := rdSt_eq hh; clear hh
    replace h := Option.bind_eq_some_iff.1 h; obtain ⟨a2, hh, h⟩ := h; obtain rfl := rdSt_eq hh; clear hh
    exact (mean_over_eq m a0 a1 a2 κ).trans h
)
noncomputable def mean_Op_G (m : Nat) : FuncId → PSem R := tabG [(87, mean_one_sem m), (88, typ_Two_sem m), (89, num_Add_sem m), (90, mean_made_sem m), (91, num_Sub_sem m), (92, mean_times_sem m), (93, mean_over_sem m), (94, mean_truth_sem m)]
noncomputable def mean_Op_w (F : List UInt8 → T_api_Value → T_api_Value → (T_api_Value → Int → Option R) → Option R) : PSem R := fun vs os κ => match vs, os with | [v0_, v1_, v2_], [] => ((rdStr v0_).bind fun a0 => (rdSt 4 v1_).bind fun a1 => (rdSt 4 v2_).bind fun a2 => F a0 a1 a2 (fun r_0 r_1 => κ (.tup [.st 4 r_0, .int .i64 r_1]) [])) | _, _ => none
def mean_Op_ac : List (Option (Bool × Nat)) := [none, some (false, 4), some (false, 4)]
set_option maxRecDepth 100000 in
theorem mean_Op_eq (m : Nat) (a0 : List UInt8) (a1 : T_api_Value) (a2 : T_api_Value) (κ : V → List PObj → Option R) : pFun tb (mean_Op_G m) 0 [] [some (false, 4), none] Tryz.f40 [.str a0, .st 4 a1, .st 4 a2] [] κ = mean_Op m a0 a1 a2 (fun r_0 r_1 => κ (.tup [.st 4 r_0, .int .i64 r_1]) []) := by
  delta mean_Op_G mean_Op mean_one_sem typ_Two_sem num_Add_sem mean_made_sem num_Sub_sem mean_times_sem mean_over_sem mean_truth_sem
  generalize mean_one (R := R) m = c0
  generalize typ_Two (R := R) m = c1
  generalize num_Add (R := R) m = c2
  generalize mean_made (R := R) m = c3
  generalize num_Sub (R := R) m = c4
  generalize mean_times (R := R) m = c5
  generalize mean_over (R := R) m = c6
  generalize mean_truth (R := R) m = c7
  refine id ?_
  kernel_rfl
noncomputable def mean_Op_sem (m : Nat) : PSem R := semOf mean_Op_ac (mean_Op_w (mean_Op m))
theorem mean_Op_ok (m : Nat) : SemOK cxP 40 (mean_Op_sem (R := R) m) :=
  have HG : ∀ f, SemOK cxP f (mean_Op_G (R := R) m f) := tabG_ok (.cons (mean_one_ok m) (.cons (typ_Two_ok m) (.cons (num_Add_ok m) (.cons (mean_made_ok m) (.cons (num_Sub_ok m) (.cons (mean_times_ok m) (.cons (mean_over_ok m) (.cons (mean_truth_ok m) .nil))))))))
  semOf_ok (fun_of C HG (L := []) (rc := [some (false, 4), none]) (k := 0) (fn_of Tryz.func40) rfl rfl (by kernel_rfl) (by rw [show loopsIn (bodyOf Tryz.f40) = [] from by kernel_rfl]; exact (.nil _)) fun vs os κ r h => by
    unfold mean_Op_w at h
    split at h; rotate_left; cases h
    rename_i v0_ v1_ v2_
    replace h := Option.bind_eq_some_iff.1 h; obtain ⟨a0, hh, h⟩ := h; obtain rfl := rdStr_eq hh; clear hh
    replace h := Option.bind_eq_some_iff.1 h; obtain ⟨a1, hh, h⟩ := h; obtain rfl := rdSt_eq hh; clear hh
    replace h := Option.bind_eq_some_iff.1 h; obtain ⟨a2, hh, h⟩ := h; obtain rfl := rdSt_eq hh; clear hh
    exact (mean_Op_eq m a0 a1 a2 κ).trans h
)
noncomputable def publicanlaw13_MeanOps_G (m : Nat) : FuncId → PSem R := tabG [(32, publicanlaw13_awake_sem m), (39, publicanref11_FitValue_sem m), (40, mean_Op_sem m), (41, publicanref11_Op_sem m), (42, publicanref17_Same_sem m)]
noncomputable def publicanlaw13_MeanOps_w (F : Int → T_api_Value → T_api_Value → (Bool → Option R) → Option R) : PSem R := fun vs os κ => match vs, os with | [v0_, v1_, v2_], [] => ((rdInt .i64 v0_).bind fun a0 => (rdSt 4 v1_).bind fun a1 => (rdSt 4 v2_).bind fun a2 => F a0 a1 a2 (fun r => κ (.bool r) [])) | _, _ => none
def publicanlaw13_MeanOps_ac : List (Option (Bool × Nat)) := [none, some (false, 4), some (false, 4)]
set_option maxRecDepth 100000 in
theorem publicanlaw13_MeanOps_eq (m : Nat) (a0 : Int) (a1 : T_api_Value) (a2 : T_api_Value) (κ : V → List PObj → Option R) : pFun tb (publicanlaw13_MeanOps_G m) 0 [] [none] Tryz.f8 [.int .i64 a0, .st 4 a1, .st 4 a2] [] κ = publicanlaw13_MeanOps m a0 a1 a2 (fun r => κ (.bool r) []) := by
  delta publicanlaw13_MeanOps_G publicanlaw13_MeanOps publicanlaw13_awake_sem publicanref11_FitValue_sem mean_Op_sem publicanref11_Op_sem publicanref17_Same_sem
  generalize publicanlaw13_awake (R := R) m = c0
  generalize publicanref11_FitValue (R := R) m = c1
  generalize mean_Op (R := R) m = c2
  generalize publicanref11_Op (R := R) m = c3
  generalize publicanref17_Same (R := R) m = c4
  refine id ?_
  kernel_rfl
noncomputable def publicanlaw13_MeanOps_sem (m : Nat) : PSem R := semOf publicanlaw13_MeanOps_ac (publicanlaw13_MeanOps_w (publicanlaw13_MeanOps m))
theorem publicanlaw13_MeanOps_ok (m : Nat) : SemOK cxP 8 (publicanlaw13_MeanOps_sem (R := R) m) :=
  have HG : ∀ f, SemOK cxP f (publicanlaw13_MeanOps_G (R := R) m f) := tabG_ok (.cons (publicanlaw13_awake_ok m) (.cons (publicanref11_FitValue_ok m) (.cons (mean_Op_ok m) (.cons (publicanref11_Op_ok m) (.cons (publicanref17_Same_ok m) .nil)))))
  semOf_ok (fun_of C HG (L := []) (rc := [none]) (k := 0) (fn_of Tryz.func8) rfl rfl (by kernel_rfl) (by rw [show loopsIn (bodyOf Tryz.f8) = [] from by kernel_rfl]; exact (.nil _)) fun vs os κ r h => by
    unfold publicanlaw13_MeanOps_w at h
    split at h; rotate_left; cases h
    rename_i v0_ v1_ v2_
    replace h := Option.bind_eq_some_iff.1 h; obtain ⟨a0, hh, h⟩ := h; obtain rfl := rdInt_eq hh; clear hh
    replace h := Option.bind_eq_some_iff.1 h; obtain ⟨a1, hh, h⟩ := h; obtain rfl := rdSt_eq hh; clear hh
    replace h := Option.bind_eq_some_iff.1 h; obtain ⟨a2, hh, h⟩ := h; obtain rfl := rdSt_eq hh; clear hh
    exact (publicanlaw13_MeanOps_eq m a0 a1 a2 κ).trans h
)
end Go.Pm
