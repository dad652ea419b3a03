/- The interpreter over data answers as the plain functions say. -/
import Derived.Test.YtodccifahbgogaaGreatPmoB
set_option linter.unusedVariables false
set_option linter.unusedSectionVars false
set_option linter.unusedSimpArgs false
namespace Go.Pm
open Go Go.EvM Go.Pv Go.Proofs
set_option linter.unusedVariables false
set_option linter.unusedSectionVars false
variable {R : Type}
noncomputable def publicanref11_FitValue_G (m : Nat) : FuncId → PSem R := tabG [(86, publicanref11_Fit_sem m)]
set_option maxRecDepth 100000 in
theorem publicanref11_FitValue_S0_eq (m : Nat) (ρ : List V → List PObj → Option R) (kx : Nat → List V → List PObj → Option R) (kr : List V → List PObj → Option R) (x0 : Int) (x1 : Int) (x2 : Int) (x3 : List Int) : pCode tb (publicanref11_FitValue_G m) 0 Tryz.f39.ntmps (lpC (bodyOf Tryz.f39) 0) [] (fun s => match head 0 [(5, .any), (3, .fcells [(2, 0)])] s with | (vs, os) => ρ vs os) (fun i s => match head 0 [] s with | (vs, os) => kx i vs os) (fun s => match head 0 [(4, .any)] s with | (vs, os) => kr vs os) ⟨mkEnv [(5, .any), (3, .fcells [(2, 0)])] [.int .i64 x0, .ptr 0 0], [.cells [.int .i64 x1, .int .i64 x2, .sl 0 x3]]⟩ = publicanref11_FitValue_S0 m (fun x0 x1 x2 x3 => ρ [.int .i64 x0, .ptr 0 0] [.cells [.int .i64 x1, .int .i64 x2, .sl 0 x3]]) (fun (_ : Unit) => kx 0 [] []) (fun z0 => kr [.bool z0] []) x0 x1 x2 x3 := by
  delta publicanref11_FitValue_G publicanref11_FitValue_S0 publicanref11_Fit_sem
  generalize publicanref11_Fit (R := R) m = c0
  refine id ?_
  kernel_rfl
set_option maxHeartbeats 4000000 in
theorem publicanref11_FitValue_L0_eq (m : Nat) (j : Nat) : ∀ (kx : Nat → List V → List PObj → Option R) (kr : List V → List PObj → Option R) (x0 : Int) (x1 : Int) (x2 : Int) (x3 : List Int), loopP tb (publicanref11_FitValue_G m) 0 Tryz.f39.ntmps [(5, .any), (3, .fcells [(2, 0)])] [] [(4, .any)] [] (lpC (bodyOf Tryz.f39) 0) j [.int .i64 x0, .ptr 0 0] [.cells [.int .i64 x1, .int .i64 x2, .sl 0 x3]] kx kr = publicanref11_FitValue_L0 m j x0 x1 x2 x3 (fun (_ : Unit) => kx 0 [] []) (fun z0 => kr [.bool z0] []) := by
  induction j with
  | zero => intros; rfl
  | succ j ih =>
    intro kx kr x0 x1 x2 x3
    refine Eq.trans ?_ (Eq.trans (Eq.trans (publicanref11_FitValue_S0_eq m (fun vs os => loopP tb (publicanref11_FitValue_G m) 0 Tryz.f39.ntmps [(5, .any), (3, .fcells [(2, 0)])] [] [(4, .any)] [] (lpC (bodyOf Tryz.f39) 0) j vs os kx kr) kx kr x0 x1 x2 x3) (congrArg (fun ρ => publicanref11_FitValue_S0 m ρ (fun (_ : Unit) => kx 0 [] []) (fun z0 => kr [.bool z0] []) x0 x1 x2 x3) (funext fun x0 => funext fun x1 => funext fun x2 => funext fun x3 => ih kx kr x0 x1 x2 x3))) ?_) <;> kernel_rfl
noncomputable def publicanref11_FitValue_X0 (m : Nat) : LoopH R := ⟨[(5, .any), (3, .fcells [(2, 0)])], [], [(4, .any)], fun vs os kx kr => match vs, os with | [v0_, v1_], [q0_] => ((rdInt .i64 v0_).bind fun x0 => (rdPtr 0 0 v1_).bind fun u0 => (rdCells q0_).bind fun l1 => match l1 with | [c2_0, c2_1, c2_2] => ((rdInt .i64 c2_0).bind fun x1 => (rdInt .i64 c2_1).bind fun x2 => (rdSl 0 c2_2).bind fun x3 => publicanref11_FitValue_L0 m m x0 x1 x2 x3 (fun (_ : Unit) => kx 0 [] []) (fun z0 => kr [.bool z0] [])) | _ => none) | _, _ => none⟩
set_option maxHeartbeats 4000000 in
theorem publicanref11_FitValue_X0_ok {m : Nat} (HG : ∀ f, SemOK cxP f (publicanref11_FitValue_G (R := R) m f)) : LoopSem cxP Tryz.f39.ntmps 0 (lpC (bodyOf Tryz.f39) 0) (publicanref11_FitValue_X0 (R := R) m) :=
  loop_of C HG (L := []) (by kernel_rfl) (by rw [show loopsIn (lpC (bodyOf Tryz.f39) 0) = [] from by kernel_rfl]; exact (.nil _)) m fun vs os kx kr r h => by
    try dsimp only at h
    split at h; rotate_left; cases h
    rename_i v0_ v1_ q0_
    replace h := Option.bind_eq_some_iff.1 h; obtain ⟨x0, hh, h⟩ := h; obtain rfl := rdInt_eq hh; clear hh
    replace h := Option.bind_eq_some_iff.1 h; obtain ⟨u0, hh, h⟩ := h; obtain rfl := rdPtr_eq hh; clear hh
    replace h := Option.bind_eq_some_iff.1 h; obtain ⟨l1, hh, h⟩ := h; obtain rfl := rdCells_eq hh; clear hh
    split at h; rotate_left; cases h
    rename_i c2_0 c2_1 c2_2
    replace h := Option.bind_eq_some_iff.1 h; obtain ⟨x1, hh, h⟩ := h; obtain rfl := rdInt_eq hh; clear hh
    replace h := Option.bind_eq_some_iff.1 h; obtain ⟨x2, hh, h⟩ := h; obtain rfl := rdInt_eq hh; clear hh
    replace h := Option.bind_eq_some_iff.1 h; obtain ⟨x3, hh, h⟩ := h; obtain rfl := rdSl_eq hh; clear hh
    exact (publicanref11_FitValue_L0_eq m m kx kr x0 x1 x2 x3).trans h
noncomputable def publicanref11_FitValue_w (F : Int → T_api_Value → (Bool → Option R) → Option R) : PSem R := fun vs os κ => match vs, os with | [v0_, v1_], [] => ((rdInt .i64 v0_).bind fun a0 => (rdSt 4 v1_).bind fun a1 => F a0 a1 (fun r => κ (.bool r) [])) | _, _ => none
def publicanref11_FitValue_ac : List (Option (Bool × Nat)) := [none, some (false, 4)]
set_option maxRecDepth 100000 in
theorem publicanref11_FitValue_eq (m : Nat) (a0 : Int) (a1 : T_api_Value) (κ : V → List PObj → Option R) : pFun tb (publicanref11_FitValue_G m) 0 [publicanref11_FitValue_X0 m] [none] Tryz.f39 [.int .i64 a0, .st 4 a1] [] κ = publicanref11_FitValue m a0 a1 (fun r => κ (.bool r) []) := by
  delta publicanref11_FitValue_G publicanref11_FitValue publicanref11_Fit_sem publicanref11_FitValue_X0
  generalize publicanref11_Fit (R := R) m = c0
  generalize publicanref11_FitValue_L0 (R := R) m = c1
  refine id ?_
  kernel_rfl
noncomputable def publicanref11_FitValue_sem (m : Nat) : PSem R := semOf publicanref11_FitValue_ac (publicanref11_FitValue_w (publicanref11_FitValue m))
theorem publicanref11_FitValue_ok (m : Nat) : SemOK cxP 39 (publicanref11_FitValue_sem (R := R) m) :=
  have HG : ∀ f, SemOK cxP f (publicanref11_FitValue_G (R := R) m f) := tabG_ok (.cons (publicanref11_Fit_ok m) .nil)
  semOf_ok (fun_of C HG (L := [publicanref11_FitValue_X0 m]) (rc := [none]) (k := 0) (fn_of Tryz.func39) rfl rfl (by kernel_rfl) (by rw [show loopsIn (bodyOf Tryz.f39) = [(lpC (bodyOf Tryz.f39) 0)] from by kernel_rfl]; exact (.cons (publicanref11_FitValue_X0_ok HG) (.nil _))) fun vs os κ r h => by
    unfold publicanref11_FitValue_w at h
    split at h; rotate_left; cases h
    rename_i v0_ v1_
    replace h := Option.bind_eq_some_iff.1 h; obtain ⟨a0, hh, h⟩ := h; obtain rfl := rdInt_eq hh; clear hh
    replace h := Option.bind_eq_some_iff.1 h; obtain ⟨a1, hh, h⟩ := h; obtain rfl := rdSt_eq hh; clear hh
    exact (publicanref11_FitValue_eq m a0 a1 κ).trans h
)
noncomputable def mean_made_G (m : Nat) : FuncId → PSem R := tabG [(129, mean_Fit_sem m)]
noncomputable def mean_made_w (F : Int → Int → Bool → (T_api_Value → Int → Option R) → Option R) : PSem R := fun vs os κ => match vs, os with | [v0_, v1_, v2_], [] => ((rdInt .i64 v0_).bind fun a0 => (rdInt .i64 v1_).bind fun a1 => (rdBool v2_).bind fun a2 => F a0 a1 a2 (fun r_0 r_1 => κ (.tup [.st 4 r_0, .int .i64 r_1]) [])) | _, _ => none
def mean_made_ac : List (Option (Bool × Nat)) := [none, none, none]
set_option maxRecDepth 100000 in
theorem mean_made_eq (m : Nat) (a0 : Int) (a1 : Int) (a2 : Bool) (κ : V → List PObj → Option R) : pFun tb (mean_made_G m) 0 [] [some (false, 4), none] Tryz.f90 [.int .i64 a0, .int .i64 a1, .bool a2] [] κ = mean_made m a0 a1 a2 (fun r_0 r_1 => κ (.tup [.st 4 r_0, .int .i64 r_1]) []) := by
  delta mean_made_G mean_made mean_Fit_sem
  generalize mean_Fit (R := R) m = c0
  refine id ?_
  kernel_rfl
noncomputable def mean_made_sem (m : Nat) : PSem R := semOf mean_made_ac (mean_made_w (mean_made m))
theorem mean_made_ok (m : Nat) : SemOK cxP 90 (mean_made_sem (R := R) m) :=
  have HG : ∀ f, SemOK cxP f (mean_made_G (R := R) m f) := tabG_ok (.cons (mean_Fit_ok m) .nil)
  semOf_ok (fun_of C HG (L := []) (rc := [some (false, 4), none]) (k := 0) (fn_of Tryz.func90) rfl rfl (by kernel_rfl) (by rw [show loopsIn (bodyOf Tryz.f90) = [] from by kernel_rfl]; exact (.nil _)) fun vs os κ r h => by
    unfold mean_made_w at h
    split at h; rotate_left; cases h
    rename_i v0_ v1_ v2_
    replace h := Option.bind_eq_some_iff.1 h; obtain ⟨a0, hh, h⟩ := h; obtain rfl := rdInt_eq hh; clear hh
    replace h := Option.bind_eq_some_iff.1 h; obtain ⟨a1, hh, h⟩ := h; obtain rfl := rdInt_eq hh; clear hh
    replace h := Option.bind_eq_some_iff.1 h; obtain ⟨a2, hh, h⟩ := h; obtain rfl := rdBool_eq hh; clear hh
    exact (mean_made_eq m a0 a1 a2 κ).trans h
)
noncomputable def publicanref1_Minus_G (m : Nat) : FuncId → PSem R := tabG [(142, publicanref1_trim_sem m)]
noncomputable def publicanref1_Minus_w (F : T_publicanref1_Big → (T_publicanref1_Big → Option R) → Option R) : PSem R := fun vs os κ => match vs, os with | [v0_], [] => ((rdSt 5 v0_).bind fun a0 => F a0 (fun r => κ (.st 5 r) [])) | _, _ => none
def publicanref1_Minus_ac : List (Option (Bool × Nat)) := [some (false, 5)]
set_option maxRecDepth 100000 in
theorem publicanref1_Minus_eq (m : Nat) (a0 : T_publicanref1_Big) (κ : V → List PObj → Option R) : pFun tb (publicanref1_Minus_G m) 0 [] [some (false, 5)] Tryz.f98 [.st 5 a0] [] κ = publicanref1_Minus m a0 (fun r => κ (.st 5 r) []) := by
  delta publicanref1_Minus_G publicanref1_Minus publicanref1_trim_sem
  generalize publicanref1_trim (R := R) m = c0
  refine id ?_
  kernel_rfl
noncomputable def publicanref1_Minus_sem (m : Nat) : PSem R := semOf publicanref1_Minus_ac (publicanref1_Minus_w (publicanref1_Minus m))
theorem publicanref1_Minus_ok (m : Nat) : SemOK cxP 98 (publicanref1_Minus_sem (R := R) m) :=
  have HG : ∀ f, SemOK cxP f (publicanref1_Minus_G (R := R) m f) := tabG_ok (.cons (publicanref1_trim_ok m) .nil)
  semOf_ok (fun_of C HG (L := []) (rc := [some (false, 5)]) (k := 0) (fn_of Tryz.func98) rfl rfl (by kernel_rfl) (by rw [show loopsIn (bodyOf Tryz.f98) = [] from by kernel_rfl]; exact (.nil _)) fun vs os κ r h => by
    unfold publicanref1_Minus_w at h
    split at h; rotate_left; cases h
    rename_i v0_
    replace h := Option.bind_eq_some_iff.1 h; obtain ⟨a0, hh, h⟩ := h; obtain rfl := rdSt_eq hh; clear hh
    exact (publicanref1_Minus_eq m a0 κ).trans h
)
noncomputable def typ_One_G (m : Nat) : FuncId → PSem R := tabG [(174, typ_number_sem m)]
noncomputable def typ_One_w (F : List UInt8 → Int → (Int → Option R) → Option R) : PSem R := fun vs os κ => match vs, os with | [v0_, v1_], [] => ((rdStr v0_).bind fun a0 => (rdInt .i64 v1_).bind fun a1 => F a0 a1 (fun r => κ (.int .i64 r) [])) | _, _ => none
def typ_One_ac : List (Option (Bool × Nat)) := [none, none]
set_option maxRecDepth 100000 in
theorem typ_One_eq (m : Nat) (a0 : List UInt8) (a1 : Int) (κ : V → List PObj → Option R) : pFun tb (typ_One_G m) 0 [] [none] Tryz.f133 [.str a0, .int .i64 a1] [] κ = typ_One m a0 a1 (fun r => κ (.int .i64 r) []) := by
  delta typ_One_G typ_One typ_number_sem
  generalize typ_number (R := R) m = c0
  refine id ?_
  kernel_rfl
noncomputable def typ_One_sem (m : Nat) : PSem R := semOf typ_One_ac (typ_One_w (typ_One m))
theorem typ_One_ok (m : Nat) : SemOK cxP 133 (typ_One_sem (R := R) m) :=
  have HG : ∀ f, SemOK cxP f (typ_One_G (R := R) m f) := tabG_ok (.cons (typ_number_ok m) .nil)
  semOf_ok (fun_of C HG (L := []) (rc := [none]) (k := 0) (fn_of Tryz.func133) rfl rfl (by kernel_rfl) (by rw [show loopsIn (bodyOf Tryz.f133) = [] from by kernel_rfl]; exact (.nil _)) fun vs os κ r h => by
    unfold typ_One_w at h
    split at h; rotate_left; cases h
    rename_i v0_ v1_
    replace h := Option.bind_eq_some_iff.1 h; obtain ⟨a0, hh, h⟩ := h; obtain rfl := rdStr_eq hh; clear hh
    replace h := Option.bind_eq_some_iff.1 h; obtain ⟨a1, hh, h⟩ := h; obtain rfl := rdInt_eq hh; clear hh
    exact (typ_One_eq m a0 a1 κ).trans h
)
noncomputable def typ_sum_G (m : Nat) : FuncId → PSem R := tabG [(174, typ_number_sem m)]
noncomputable def typ_sum_w (F : List UInt8 → Int → Int → (Int → Option R) → Option R) : PSem R := fun vs os κ => match vs, os with | [v0_, v1_, v2_], [] => ((rdStr v0_).bind fun a0 => (rdInt .i64 v1_).bind fun a1 => (rdInt .i64 v2_).bind fun a2 => F a0 a1 a2 (fun r => κ (.int .i64 r) [])) | _, _ => none
def typ_sum_ac : List (Option (Bool × Nat)) := [none, none, none]
set_option maxRecDepth 100000 in
theorem typ_sum_eq (m : Nat) (a0 : List UInt8) (a1 : Int) (a2 : Int) (κ : V → List PObj → Option R) : pFun tb (typ_sum_G m) 0 [] [none] Tryz.f134 [.str a0, .int .i64 a1, .int .i64 a2] [] κ = typ_sum m a0 a1 a2 (fun r => κ (.int .i64 r) []) := by
  delta typ_sum_G typ_sum typ_number_sem
  generalize typ_number (R := R) m = c0
  refine id ?_
  kernel_rfl
noncomputable def typ_sum_sem (m : Nat) : PSem R := semOf typ_sum_ac (typ_sum_w (typ_sum m))
theorem typ_sum_ok (m : Nat) : SemOK cxP 134 (typ_sum_sem (R := R) m) :=
  have HG : ∀ f, SemOK cxP f (typ_sum_G (R := R) m f) := tabG_ok (.cons (typ_number_ok m) .nil)
  semOf_ok (fun_of C HG (L := []) (rc := [none]) (k := 0) (fn_of Tryz.func134) rfl rfl (by kernel_rfl) (by rw [show loopsIn (bodyOf Tryz.f134) = [] from by kernel_rfl]; exact (.nil _)) fun vs os κ r h => by
    unfold typ_sum_w at h
    split at h; rotate_left; cases h
    rename_i v0_ v1_ v2_
    replace h := Option.bind_eq_some_iff.1 h; obtain ⟨a0, hh, h⟩ := h; obtain rfl := rdStr_eq hh; clear hh
    replace h := Option.bind_eq_some_iff.1 h; obtain ⟨a1, hh, h⟩ := h; obtain rfl := rdInt_eq hh; clear hh
    replace h := Option.bind_eq_some_iff.1 h; obtain ⟨a2, hh, h⟩ := h; obtain rfl := rdInt_eq hh; clear hh
    exact (typ_sum_eq m a0 a1 a2 κ).trans h
)
noncomputable def typ_product_G (m : Nat) : FuncId → PSem R := tabG [(174, typ_number_sem m)]
noncomputable def typ_product_w (F : Int → Int → (Int → Option R) → Option R) : PSem R := fun vs os κ => match vs, os with | [v0_, v1_], [] => ((rdInt .i64 v0_).bind fun a0 => (rdInt .i64 v1_).bind fun a1 => F a0 a1 (fun r => κ (.int .i64 r) [])) | _, _ => none
def typ_product_ac : List (Option (Bool × Nat)) := [none, none]
set_option maxRecDepth 100000 in
theorem typ_product_eq (m : Nat) (a0 : Int) (a1 : Int) (κ : V → List PObj → Option R) : pFun tb (typ_product_G m) 0 [] [none] Tryz.f135 [.int .i64 a0, .int .i64 a1] [] κ = typ_product m a0 a1 (fun r => κ (.int .i64 r) []) := by
  delta typ_product_G typ_product typ_number_sem
  generalize typ_number (R := R) m = c0
  refine id ?_
  kernel_rfl
noncomputable def typ_product_sem (m : Nat) : PSem R := semOf typ_product_ac (typ_product_w (typ_product m))
theorem typ_product_ok (m : Nat) : SemOK cxP 135 (typ_product_sem (R := R) m) :=
  have HG : ∀ f, SemOK cxP f (typ_product_G (R := R) m f) := tabG_ok (.cons (typ_number_ok m) .nil)
  semOf_ok (fun_of C HG (L := []) (rc := [none]) (k := 0) (fn_of Tryz.func135) rfl rfl (by kernel_rfl) (by rw [show loopsIn (bodyOf Tryz.f135) = [] from by kernel_rfl]; exact (.nil _)) fun vs os κ r h => by
    unfold typ_product_w at h
    split at h; rotate_left; cases h
    rename_i v0_ v1_
    replace h := Option.bind_eq_some_iff.1 h; obtain ⟨a0, hh, h⟩ := h; obtain rfl := rdInt_eq hh; clear hh
    replace h := Option.bind_eq_some_iff.1 h; obtain ⟨a1, hh, h⟩ := h; obtain rfl := rdInt_eq hh; clear hh
    exact (typ_product_eq m a0 a1 κ).trans h
)
noncomputable def publicanref1_U_G (m : Nat) : FuncId → PSem R := tabG [(142, publicanref1_trim_sem m)]
set_option maxRecDepth 100000 in
theorem publicanref1_U_S0_eq (m : Nat) (ρ : List V → List PObj → Option R) (kx : Nat → List V → List PObj → Option R) (kr : List V → List PObj → Option R) (x0 : Int) (x1 : Bool) (x2 : List Int) (x3 : Bool) (x4 : List Int) : pCode tb (publicanref1_U_G m) 0 Tryz.f143.ntmps (lpC (bodyOf Tryz.f143) 0) [] (fun s => match head 0 [(0, .any), (5, .arr 6), (4, .fcells [(1, 6)]), (1, .any)] s with | (vs, os) => ρ vs os) (fun i s => match head 0 [(4, .any), (5, .any), (1, .any)] s with | (vs, os) => kx i vs os) (fun s => match head 0 [] s with | (vs, os) => kr vs os) ⟨mkEnv [(0, .any), (5, .arr 6), (4, .fcells [(1, 6)]), (1, .any)] [.int .u64 x0, .loc 0, .ptr 1 0, .bool x1], [.arr 6 x2, .cells [.bool x3, .sl 6 x4]]⟩ = publicanref1_U_S0 m (fun x0 x1 x2 x3 x4 => ρ [.int .u64 x0, .loc 0, .ptr 1 0, .bool x1] [.arr 6 x2, .cells [.bool x3, .sl 6 x4]]) (fun y0 y1 y2 y3 => kx 0 [.ptr 0 0, .loc 1, .bool y0] [.cells [.bool y1, .sl 6 y2], .arr 6 y3]) x0 x1 x2 x3 x4 := by
  delta publicanref1_U_G publicanref1_U_S0 publicanref1_trim_sem
  generalize publicanref1_trim (R := R) m = c0
  refine id ?_
  kernel_rfl
set_option maxHeartbeats 4000000 in
theorem publicanref1_U_L0_eq (m : Nat) (j : Nat) : ∀ (kx : Nat → List V → List PObj → Option R) (kr : List V → List PObj → Option R) (x0 : Int) (x1 : Bool) (x2 : List Int) (x3 : Bool) (x4 : List Int), loopP tb (publicanref1_U_G m) 0 Tryz.f143.ntmps [(0, .any), (5, .arr 6), (4, .fcells [(1, 6)]), (1, .any)] [(4, .any), (5, .any), (1, .any)] [] [] (lpC (bodyOf Tryz.f143) 0) j [.int .u64 x0, .loc 0, .ptr 1 0, .bool x1] [.arr 6 x2, .cells [.bool x3, .sl 6 x4]] kx kr = publicanref1_U_L0 m j x0 x1 x2 x3 x4 (fun y0 y1 y2 y3 => kx 0 [.ptr 0 0, .loc 1, .bool y0] [.cells [.bool y1, .sl 6 y2], .arr 6 y3]) := by
  induction j with
  | zero => intros; rfl
  | succ j ih =>
    intro kx kr x0 x1 x2 x3 x4
    refine Eq.trans ?_ (Eq.trans (Eq.trans (publicanref1_U_S0_eq m (fun vs os => loopP tb (publicanref1_U_G m) 0 Tryz.f143.ntmps [(0, .any), (5, .arr 6), (4, .fcells [(1, 6)]), (1, .any)] [(4, .any), (5, .any), (1, .any)] [] [] (lpC (bodyOf Tryz.f143) 0) j vs os kx kr) kx kr x0 x1 x2 x3 x4) (congrArg (fun ρ => publicanref1_U_S0 m ρ (fun y0 y1 y2 y3 => kx 0 [.ptr 0 0, .loc 1, .bool y0] [.cells [.bool y1, .sl 6 y2], .arr 6 y3]) x0 x1 x2 x3 x4) (funext fun x0 => funext fun x1 => funext fun x2 => funext fun x3 => funext fun x4 => ih kx kr x0 x1 x2 x3 x4))) ?_) <;> kernel_rfl
noncomputable def publicanref1_U_X0 (m : Nat) : LoopH R := ⟨[(0, .any), (5, .arr 6), (4, .fcells [(1, 6)]), (1, .any)], [(4, .any), (5, .any), (1, .any)], [], fun vs os kx kr => match vs, os with | [v0_, v1_, v2_, v3_], [q0_, q1_] => ((rdInt .u64 v0_).bind fun x0 => (rdLoc 0 v1_).bind fun u0 => (rdPtr 1 0 v2_).bind fun u1 => (rdBool v3_).bind fun x1 => (rdArr 6 q0_).bind fun x2 => (rdCells q1_).bind fun l2 => match l2 with | [c3_0, c3_1] => ((rdBool c3_0).bind fun x3 => (rdSl 6 c3_1).bind fun x4 => publicanref1_U_L0 m m x0 x1 x2 x3 x4 (fun y0 y1 y2 y3 => kx 0 [.ptr 0 0, .loc 1, .bool y0] [.cells [.bool y1, .sl 6 y2], .arr 6 y3])) | _ => none) | _, _ => none⟩
set_option maxHeartbeats 4000000 in
theorem publicanref1_U_X0_ok {m : Nat} (HG : ∀ f, SemOK cxP f (publicanref1_U_G (R := R) m f)) : LoopSem cxP Tryz.f143.ntmps 0 (lpC (bodyOf Tryz.f143) 0) (publicanref1_U_X0 (R := R) m) :=
  loop_of C HG (L := []) (by kernel_rfl) (by rw [show loopsIn (lpC (bodyOf Tryz.f143) 0) = [] from by kernel_rfl]; exact (.nil _)) m fun vs os kx kr r h => by
    try dsimp only at h
    split at h; rotate_left; cases h
    rename_i v0_ v1_ v2_ v3_ q0_ q1_
    replace h := Option.bind_eq_some_iff.1 h; obtain ⟨x0, hh, h⟩ := h; obtain rfl := rdInt_eq hh; clear hh
    replace h := Option.bind_eq_some_iff.1 h; obtain ⟨u0, hh, h⟩ := h; obtain rfl := rdLoc_eq hh; clear hh
    replace h := Option.bind_eq_some_iff.1 h; obtain ⟨u1, hh, h⟩ := h; obtain rfl := rdPtr_eq hh; clear hh
    replace h := Option.bind_eq_some_iff.1 h; obtain ⟨x1, hh, h⟩ := h; obtain rfl := rdBool_eq hh; clear hh
    replace h := Option.bind_eq_some_iff.1 h; obtain ⟨x2, hh, h⟩ := h; obtain rfl := rdArr_eq hh; clear hh
    replace h := Option.bind_eq_some_iff.1 h; obtain ⟨l2, hh, h⟩ := h; obtain rfl := rdCells_eq hh; clear hh
    split at h; rotate_left; cases h
    rename_i c3_0 c3_1
    replace h := Option.bind_eq_some_iff.1 h; obtain ⟨x3, hh, h⟩ := h; obtain rfl := rdBool_eq hh; clear hh
    replace h := Option.bind_eq_some_iff.1 h; obtain ⟨x4, hh, h⟩ := h; obtain rfl := rdSl_eq hh; clear hh
    exact (publicanref1_U_L0_eq m m kx kr x0 x1 x2 x3 x4).trans h
noncomputable def publicanref1_U_w (F : Int → Bool → (T_publicanref1_Big → Option R) → Option R) : PSem R := fun vs os κ => match vs, os with | [v0_, v1_], [] => ((rdInt .u64 v0_).bind fun a0 => (rdBool v1_).bind fun a1 => F a0 a1 (fun r => κ (.st 5 r) [])) | _, _ => none
def publicanref1_U_ac : List (Option (Bool × Nat)) := [none, none]
set_option maxRecDepth 100000 in
theorem publicanref1_U_eq (m : Nat) (a0 : Int) (a1 : Bool) (κ : V → List PObj → Option R) : pFun tb (publicanref1_U_G m) 0 [publicanref1_U_X0 m] [some (false, 5)] Tryz.f143 [.int .u64 a0, .bool a1] [] κ = publicanref1_U m a0 a1 (fun r => κ (.st 5 r) []) := by
  delta publicanref1_U_G publicanref1_U publicanref1_trim_sem publicanref1_U_X0
  generalize publicanref1_trim (R := R) m = c0
  generalize publicanref1_U_L0 (R := R) m = c1
  refine id ?_
  kernel_rfl
noncomputable def publicanref1_U_sem (m : Nat) : PSem R := semOf publicanref1_U_ac (publicanref1_U_w (publicanref1_U m))
theorem publicanref1_U_ok (m : Nat) : SemOK cxP 143 (publicanref1_U_sem (R := R) m) :=
  have HG : ∀ f, SemOK cxP f (publicanref1_U_G (R := R) m f) := tabG_ok (.cons (publicanref1_trim_ok m) .nil)
  semOf_ok (fun_of C HG (L := [publicanref1_U_X0 m]) (rc := [some (false, 5)]) (k := 0) (fn_of Tryz.func143) rfl rfl (by kernel_rfl) (by rw [show loopsIn (bodyOf Tryz.f143) = [(lpC (bodyOf Tryz.f143) 0)] from by kernel_rfl]; exact (.cons (publicanref1_U_X0_ok HG) (.nil _))) fun vs os κ r h => by
    unfold publicanref1_U_w at h
    split at h; rotate_left; cases h
    rename_i v0_ v1_
    replace h := Option.bind_eq_some_iff.1 h; obtain ⟨a0, hh, h⟩ := h; obtain rfl := rdInt_eq hh; clear hh
    replace h := Option.bind_eq_some_iff.1 h; obtain ⟨a1, hh, h⟩ := h; obtain rfl := rdBool_eq hh; clear hh
    exact (publicanref1_U_eq m a0 a1 κ).trans h
)
noncomputable def num_product_G (m : Nat) : FuncId → PSem R := tabG [(203, math_bits_Mul64_sem m)]
noncomputable def num_product_w (F : Int → Int → (T_num_Wide → Option R) → Option R) : PSem R := fun vs os κ => match vs, os with | [v0_, v1_], [] => ((rdInt .i64 v0_).bind fun a0 => (rdInt .i64 v1_).bind fun a1 => F a0 a1 (fun r => κ (.st 7 r) [])) | _, _ => none
def num_product_ac : List (Option (Bool × Nat)) := [none, none]
set_option maxRecDepth 100000 in
theorem num_product_eq (m : Nat) (a0 : Int) (a1 : Int) (κ : V → List PObj → Option R) : pFun tb (num_product_G m) 0 [] [some (false, 7)] Tryz.f176 [.int .i64 a0, .int .i64 a1] [] κ = num_product m a0 a1 (fun r => κ (.st 7 r) []) := by
  delta num_product_G num_product math_bits_Mul64_sem
  generalize math_bits_Mul64 (R := R) m = c0
  refine id ?_
  kernel_rfl
noncomputable def num_product_sem (m : Nat) : PSem R := semOf num_product_ac (num_product_w (num_product m))
theorem num_product_ok (m : Nat) : SemOK cxP 176 (num_product_sem (R := R) m) :=
  have HG : ∀ f, SemOK cxP f (num_product_G (R := R) m f) := tabG_ok (.cons (math_bits_Mul64_ok m) .nil)
  semOf_ok (fun_of C HG (L := []) (rc := [some (false, 7)]) (k := 0) (fn_of Tryz.func176) rfl rfl (by kernel_rfl) (by rw [show loopsIn (bodyOf Tryz.f176) = [] from by kernel_rfl]; exact (.nil _)) fun vs os κ r h => by
    unfold num_product_w at h
    split at h; rotate_left; cases h
    rename_i v0_ v1_
    replace h := Option.bind_eq_some_iff.1 h; obtain ⟨a0, hh, h⟩ := h; obtain rfl := rdInt_eq hh; clear hh
    replace h := Option.bind_eq_some_iff.1 h; obtain ⟨a1, hh, h⟩ := h; obtain rfl := rdInt_eq hh; clear hh
    exact (num_product_eq m a0 a1 κ).trans h
)
noncomputable def num_Wide_turned_G (m : Nat) : FuncId → PSem R := tabG [(220, math_bits_Sub64_sem m)]
noncomputable def num_Wide_turned_w (F : T_num_Wide → (T_num_Wide → Option R) → Option R) : PSem R := fun vs os κ => match vs, os with | [v0_], [] => ((rdSt 7 v0_).bind fun a0 => F a0 (fun r => κ (.st 7 r) [])) | _, _ => none
def num_Wide_turned_ac : List (Option (Bool × Nat)) := [some (false, 7)]
set_option maxRecDepth 100000 in
theorem num_Wide_turned_eq (m : Nat) (a0 : T_num_Wide) (κ : V → List PObj → Option R) : pFun tb (num_Wide_turned_G m) 0 [] [some (false, 7)] Tryz.f204 [.st 7 a0] [] κ = num_Wide_turned m a0 (fun r => κ (.st 7 r) []) := by
  delta num_Wide_turned_G num_Wide_turned math_bits_Sub64_sem
  generalize math_bits_Sub64 (R := R) m = c0
  refine id ?_
  kernel_rfl
noncomputable def num_Wide_turned_sem (m : Nat) : PSem R := semOf num_Wide_turned_ac (num_Wide_turned_w (num_Wide_turned m))
theorem num_Wide_turned_ok (m : Nat) : SemOK cxP 204 (num_Wide_turned_sem (R := R) m) :=
  have HG : ∀ f, SemOK cxP f (num_Wide_turned_G (R := R) m f) := tabG_ok (.cons (math_bits_Sub64_ok m) .nil)
  semOf_ok (fun_of C HG (L := []) (rc := [some (false, 7)]) (k := 0) (fn_of Tryz.func204) rfl rfl (by kernel_rfl) (by rw [show loopsIn (bodyOf Tryz.f204) = [] from by kernel_rfl]; exact (.nil _)) fun vs os κ r h => by
    unfold num_Wide_turned_w at h
    split at h; rotate_left; cases h
    rename_i v0_
    replace h := Option.bind_eq_some_iff.1 h; obtain ⟨a0, hh, h⟩ := h; obtain rfl := rdSt_eq hh; clear hh
    exact (num_Wide_turned_eq m a0 κ).trans h
)
noncomputable def num_Wide_Plus_G (m : Nat) : FuncId → PSem R := tabG [(222, math_bits_Add64_sem m)]
noncomputable def num_Wide_Plus_w (F : T_num_Wide → T_num_Wide → (T_num_Wide → Bool → Option R) → Option R) : PSem R := fun vs os κ => match vs, os with | [v0_, v1_], [] => ((rdSt 7 v0_).bind fun a0 => (rdSt 7 v1_).bind fun a1 => F a0 a1 (fun r_0 r_1 => κ (.tup [.st 7 r_0, .bool r_1]) [])) | _, _ => none
def num_Wide_Plus_ac : List (Option (Bool × Nat)) := [some (false, 7), some (false, 7)]
set_option maxRecDepth 100000 in
theorem num_Wide_Plus_eq (m : Nat) (a0 : T_num_Wide) (a1 : T_num_Wide) (κ : V → List PObj → Option R) : pFun tb (num_Wide_Plus_G m) 0 [] [some (false, 7), none] Tryz.f206 [.st 7 a0, .st 7 a1] [] κ = num_Wide_Plus m a0 a1 (fun r_0 r_1 => κ (.tup [.st 7 r_0, .bool r_1]) []) := by
  delta num_Wide_Plus_G num_Wide_Plus math_bits_Add64_sem
  generalize math_bits_Add64 (R := R) m = c0
  refine id ?_
  kernel_rfl
noncomputable def num_Wide_Plus_sem (m : Nat) : PSem R := semOf num_Wide_Plus_ac (num_Wide_Plus_w (num_Wide_Plus m))
theorem num_Wide_Plus_ok (m : Nat) : SemOK cxP 206 (num_Wide_Plus_sem (R := R) m) :=
  have HG : ∀ f, SemOK cxP f (num_Wide_Plus_G (R := R) m f) := tabG_ok (.cons (math_bits_Add64_ok m) .nil)
  semOf_ok (fun_of C HG (L := []) (rc := [some (false, 7), none]) (k := 0) (fn_of Tryz.func206) rfl rfl (by kernel_rfl) (by rw [show loopsIn (bodyOf Tryz.f206) = [] from by kernel_rfl]; exact (.nil _)) fun vs os κ r h => by
    unfold num_Wide_Plus_w at h
    split at h; rotate_left; cases h
    rename_i v0_ v1_
    replace h := Option.bind_eq_some_iff.1 h; obtain ⟨a0, hh, h⟩ := h; obtain rfl := rdSt_eq hh; clear hh
    replace h := Option.bind_eq_some_iff.1 h; obtain ⟨a1, hh, h⟩ := h; obtain rfl := rdSt_eq hh; clear hh
    exact (num_Wide_Plus_eq m a0 a1 κ).trans h
)
noncomputable def math_bits_LeadingZeros64_G (m : Nat) : FuncId → PSem R := tabG [(200, math_bits_Len64_sem m)]
noncomputable def math_bits_LeadingZeros64_w (F : Int → (Int → Option R) → Option R) : PSem R := fun vs os κ => match vs, os with | [v0_], [] => ((rdInt .u64 v0_).bind fun a0 => F a0 (fun r => κ (.int .i64 r) [])) | _, _ => none
def math_bits_LeadingZeros64_ac : List (Option (Bool × Nat)) := [none]
set_option maxRecDepth 100000 in
theorem math_bits_LeadingZeros64_eq (m : Nat) (a0 : Int) (κ : V → List PObj → Option R) : pFun tb (math_bits_LeadingZeros64_G m) 0 [] [none] Tryz.f221 [.int .u64 a0] [] κ = math_bits_LeadingZeros64 m a0 (fun r => κ (.int .i64 r) []) := by
  delta math_bits_LeadingZeros64_G math_bits_LeadingZeros64 math_bits_Len64_sem
  generalize math_bits_Len64 (R := R) m = c0
  refine id ?_
  kernel_rfl
noncomputable def math_bits_LeadingZeros64_sem (m : Nat) : PSem R := semOf math_bits_LeadingZeros64_ac (math_bits_LeadingZeros64_w (math_bits_LeadingZeros64 m))
theorem math_bits_LeadingZeros64_ok (m : Nat) : SemOK cxP 221 (math_bits_LeadingZeros64_sem (R := R) m) :=
  have HG : ∀ f, SemOK cxP f (math_bits_LeadingZeros64_G (R := R) m f) := tabG_ok (.cons (math_bits_Len64_ok m) .nil)
  semOf_ok (fun_of C HG (L := []) (rc := [none]) (k := 0) (fn_of Tryz.func221) rfl rfl (by kernel_rfl) (by rw [show loopsIn (bodyOf Tryz.f221) = [] from by kernel_rfl]; exact (.nil _)) fun vs os κ r h => by
    unfold math_bits_LeadingZeros64_w at h
    split at h; rotate_left; cases h
    rename_i v0_
    replace h := Option.bind_eq_some_iff.1 h; obtain ⟨a0, hh, h⟩ := h; obtain rfl := rdInt_eq hh; clear hh
    exact (math_bits_LeadingZeros64_eq m a0 κ).trans h
)
noncomputable def publicanref1_Of_G (m : Nat) : FuncId → PSem R := tabG [(143, publicanref1_U_sem m)]
noncomputable def publicanref1_Of_w (F : Int → (T_publicanref1_Big → Option R) → Option R) : PSem R := fun vs os κ => match vs, os with | [v0_], [] => ((rdInt .i64 v0_).bind fun a0 => F a0 (fun r => κ (.st 5 r) [])) | _, _ => none
def publicanref1_Of_ac : List (Option (Bool × Nat)) := [none]
set_option maxRecDepth 100000 in
theorem publicanref1_Of_eq (m : Nat) (a0 : Int) (κ : V → List PObj → Option R) : pFun tb (publicanref1_Of_G m) 0 [] [some (false, 5)] Tryz.f99 [.int .i64 a0] [] κ = publicanref1_Of m a0 (fun r => κ (.st 5 r) []) := by
  delta publicanref1_Of_G publicanref1_Of publicanref1_U_sem
  generalize publicanref1_U (R := R) m = c0
  refine id ?_
  kernel_rfl
noncomputable def publicanref1_Of_sem (m : Nat) : PSem R := semOf publicanref1_Of_ac (publicanref1_Of_w (publicanref1_Of m))
theorem publicanref1_Of_ok (m : Nat) : SemOK cxP 99 (publicanref1_Of_sem (R := R) m) :=
  have HG : ∀ f, SemOK cxP f (publicanref1_Of_G (R := R) m f) := tabG_ok (.cons (publicanref1_U_ok m) .nil)
  semOf_ok (fun_of C HG (L := []) (rc := [some (false, 5)]) (k := 0) (fn_of Tryz.func99) rfl rfl (by kernel_rfl) (by rw [show loopsIn (bodyOf Tryz.f99) = [] from by kernel_rfl]; exact (.nil _)) fun vs os κ r h => by
    unfold publicanref1_Of_w at h
    split at h; rotate_left; cases h
    rename_i v0_
    replace h := Option.bind_eq_some_iff.1 h; obtain ⟨a0, hh, h⟩ := h; obtain rfl := rdInt_eq hh; clear hh
    exact (publicanref1_Of_eq m a0 κ).trans h
)
end Go.Pm
namespace Go.Pm
open Go Go.EvM Go.Pv Go.Proofs
set_option linter.unusedVariables false
set_option linter.unusedSectionVars false
variable {R : Type}
noncomputable def publicanref1_Mul_G (m : Nat) : FuncId → PSem R := tabG [(145, publicanref1_digit_sem m), (142, publicanref1_trim_sem m)]
set_option maxRecDepth 100000 in
theorem publicanref1_Mul_S0_0_eq (m : Nat) (ρ : List V → List PObj → Option R) (kx : Nat → List V → List PObj → Option R) (kr : List V → List PObj → Option R) (x0 : Int) (x1 : Int) (x2 : Int) (x3 : List Int) (x4 : Bool) (x5 : List Int) (x6 : Bool) (x7 : List Int) (x8 : Bool) (x9 : List Int) : pCode tb (publicanref1_Mul_G m) 0 Tryz.f102.ntmps (lpC (lpC (bodyOf Tryz.f102) 0) 0) [] (fun s => match head 0 [(8, .any), (6, .any), (5, .any), (7, .any), (3, .fcells [(1, 6)]), (2, .fcells [(1, 6)]), (4, .fcells [(1, 6)])] s with | (vs, os) => ρ vs os) (fun i s => match head 0 [(5, .any), (3, .any), (2, .any), (4, .any), (6, .any)] s with | (vs, os) => kx i vs os) (fun s => match head 0 [] s with | (vs, os) => kr vs os) ⟨mkEnv [(8, .any), (6, .any), (5, .any), (7, .any), (3, .fcells [(1, 6)]), (2, .fcells [(1, 6)]), (4, .fcells [(1, 6)])] [.int .i64 x0, .int .i64 x1, .loc 0, .int .u64 x2, .ptr 1 0, .ptr 2 0, .ptr 3 0], [.arr 6 x3, .cells [.bool x4, .sl 6 x5], .cells [.bool x6, .sl 6 x7], .cells [.bool x8, .sl 6 x9]]⟩ = publicanref1_Mul_S0_0 m (fun x0 x1 x2 x3 x4 x5 x6 x7 x8 x9 => ρ [.int .i64 x0, .int .i64 x1, .loc 0, .int .u64 x2, .ptr 1 0, .ptr 2 0, .ptr 3 0] [.arr 6 x3, .cells [.bool x4, .sl 6 x5], .cells [.bool x6, .sl 6 x7], .cells [.bool x8, .sl 6 x9]]) (fun y0 y1 y2 y3 y4 y5 y6 y7 => kx 2 [.loc 0, .ptr 1 0, .ptr 2 0, .ptr 3 0, .int .i64 y0] [.arr 6 y1, .cells [.bool y2, .sl 6 y3], .cells [.bool y4, .sl 6 y5], .cells [.bool y6, .sl 6 y7]]) x0 x1 x2 x3 x4 x5 x6 x7 x8 x9 := by
  delta publicanref1_Mul_G publicanref1_Mul_S0_0 publicanref1_digit_sem publicanref1_trim_sem
  generalize publicanref1_digit (R := R) m = c0
  generalize publicanref1_trim (R := R) m = c1
  refine id ?_
  kernel_rfl
set_option maxHeartbeats 4000000 in
theorem publicanref1_Mul_L0_0_eq (m : Nat) (j : Nat) : ∀ (kx : Nat → List V → List PObj → Option R) (kr : List V → List PObj → Option R) (x0 : Int) (x1 : Int) (x2 : Int) (x3 : List Int) (x4 : Bool) (x5 : List Int) (x6 : Bool) (x7 : List Int) (x8 : Bool) (x9 : List Int), loopP tb (publicanref1_Mul_G m) 0 Tryz.f102.ntmps [(8, .any), (6, .any), (5, .any), (7, .any), (3, .fcells [(1, 6)]), (2, .fcells [(1, 6)]), (4, .fcells [(1, 6)])] [(5, .any), (3, .any), (2, .any), (4, .any), (6, .any)] [] [] (lpC (lpC (bodyOf Tryz.f102) 0) 0) j [.int .i64 x0, .int .i64 x1, .loc 0, .int .u64 x2, .ptr 1 0, .ptr 2 0, .ptr 3 0] [.arr 6 x3, .cells [.bool x4, .sl 6 x5], .cells [.bool x6, .sl 6 x7], .cells [.bool x8, .sl 6 x9]] kx kr = publicanref1_Mul_L0_0 m j x0 x1 x2 x3 x4 x5 x6 x7 x8 x9 (fun y0 y1 y2 y3 y4 y5 y6 y7 => kx 2 [.loc 0, .ptr 1 0, .ptr 2 0, .ptr 3 0, .int .i64 y0] [.arr 6 y1, .cells [.bool y2, .sl 6 y3], .cells [.bool y4, .sl 6 y5], .cells [.bool y6, .sl 6 y7]]) := by
  induction j with
  | zero => intros; rfl
  | succ j ih =>
    intro kx kr x0 x1 x2 x3 x4 x5 x6 x7 x8 x9
    refine Eq.trans ?_ (Eq.trans (Eq.trans (publicanref1_Mul_S0_0_eq m (fun vs os => loopP tb (publicanref1_Mul_G m) 0 Tryz.f102.ntmps [(8, .any), (6, .any), (5, .any), (7, .any), (3, .fcells [(1, 6)]), (2, .fcells [(1, 6)]), (4, .fcells [(1, 6)])] [(5, .any), (3, .any), (2, .any), (4, .any), (6, .any)] [] [] (lpC (lpC (bodyOf Tryz.f102) 0) 0) j vs os kx kr) kx kr x0 x1 x2 x3 x4 x5 x6 x7 x8 x9) (congrArg (fun ρ => publicanref1_Mul_S0_0 m ρ (fun y0 y1 y2 y3 y4 y5 y6 y7 => kx 2 [.loc 0, .ptr 1 0, .ptr 2 0, .ptr 3 0, .int .i64 y0] [.arr 6 y1, .cells [.bool y2, .sl 6 y3], .cells [.bool y4, .sl 6 y5], .cells [.bool y6, .sl 6 y7]]) x0 x1 x2 x3 x4 x5 x6 x7 x8 x9) (funext fun x0 => funext fun x1 => funext fun x2 => funext fun x3 => funext fun x4 => funext fun x5 => funext fun x6 => funext fun x7 => funext fun x8 => funext fun x9 => ih kx kr x0 x1 x2 x3 x4 x5 x6 x7 x8 x9))) ?_) <;> kernel_rfl
noncomputable def publicanref1_Mul_X0_0 (m : Nat) : LoopH R := ⟨[(8, .any), (6, .any), (5, .any), (7, .any), (3, .fcells [(1, 6)]), (2, .fcells [(1, 6)]), (4, .fcells [(1, 6)])], [(5, .any), (3, .any), (2, .any), (4, .any), (6, .any)], [], fun vs os kx kr => match vs, os with | [v0_, v1_, v2_, v3_, v4_, v5_, v6_], [q0_, q1_, q2_, q3_] => ((rdInt .i64 v0_).bind fun x0 => (rdInt .i64 v1_).bind fun x1 => (rdLoc 0 v2_).bind fun u0 => (rdInt .u64 v3_).bind fun x2 => (rdPtr 1 0 v4_).bind fun u1 => (rdPtr 2 0 v5_).bind fun u2 => (rdPtr 3 0 v6_).bind fun u3 => (rdArr 6 q0_).bind fun x3 => (rdCells q1_).bind fun l4 => match l4 with | [c5_0, c5_1] => ((rdBool c5_0).bind fun x4 => (rdSl 6 c5_1).bind fun x5 => (rdCells q2_).bind fun l6 => match l6 with | [c7_0, c7_1] => ((rdBool c7_0).bind fun x6 => (rdSl 6 c7_1).bind fun x7 => (rdCells q3_).bind fun l8 => match l8 with | [c9_0, c9_1] => ((rdBool c9_0).bind fun x8 => (rdSl 6 c9_1).bind fun x9 => publicanref1_Mul_L0_0 m m x0 x1 x2 x3 x4 x5 x6 x7 x8 x9 (fun y0 y1 y2 y3 y4 y5 y6 y7 => kx 2 [.loc 0, .ptr 1 0, .ptr 2 0, .ptr 3 0, .int .i64 y0] [.arr 6 y1, .cells [.bool y2, .sl 6 y3], .cells [.bool y4, .sl 6 y5], .cells [.bool y6, .sl 6 y7]])) | _ => none) | _ => none) | _ => none) | _, _ => none⟩
set_option maxHeartbeats 4000000 in
theorem publicanref1_Mul_X0_0_ok {m : Nat} (HG : ∀ f, SemOK cxP f (publicanref1_Mul_G (R := R) m f)) : LoopSem cxP Tryz.f102.ntmps 0 (lpC (lpC (bodyOf Tryz.f102) 0) 0) (publicanref1_Mul_X0_0 (R := R) m) :=
  loop_of C HG (L := []) (by kernel_rfl) (by rw [show loopsIn (lpC (lpC (bodyOf Tryz.f102) 0) 0) = [] from by kernel_rfl]; exact (.nil _)) m fun vs os kx kr r h => by
    try dsimp only at h
    split at h; rotate_left; cases h
    rename_i v0_ v1_ v2_ v3_ v4_ v5_ v6_ q0_ q1_ q2_ q3_
    replace h := Option.bind_eq_some_iff.1 h; obtain ⟨x0, hh, h⟩ := h; obtain rfl := rdInt_eq hh; clear hh
    replace h := Option.bind_eq_some_iff.1 h; obtain ⟨x1, hh, h⟩ := h; obtain rfl := rdInt_eq hh; clear hh
    replace h := Option.bind_eq_some_iff.1 h; obtain ⟨u0, hh, h⟩ := h; obtain rfl := rdLoc_eq hh; clear hh
    replace h := Option.bind_eq_some_iff.1 h; obtain ⟨x2, hh, h⟩ := h; obtain rfl := rdInt_eq hh; clear hh
    replace h := Option.bind_eq_some_iff.1 h; obtain ⟨u1, hh, h⟩ := h; obtain rfl := rdPtr_eq hh; clear hh
    replace h := Option.bind_eq_some_iff.1 h; obtain ⟨u2, hh, h⟩ := h; obtain rfl := rdPtr_eq hh; clear hh
    replace h := Option.bind_eq_some_iff.1 h; obtain ⟨u3, hh, h⟩ := h; obtain rfl := rdPtr_eq hh; clear hh
    replace h := Option.bind_eq_some_iff.1 h; obtain ⟨x3, hh, h⟩ := h; obtain rfl := rdArr_eq hh; clear hh
    replace h := Option.bind_eq_some_iff.1 h; obtain ⟨l4, hh, h⟩ := h; obtain rfl := rdCells_eq hh; clear hh
    split at h; rotate_left; cases h
    rename_i c5_0 c5_1
    replace h := Option.bind_eq_some_iff.1 h; obtain ⟨x4, hh, h⟩ := h; obtain rfl := rdBool_eq hh; clear hh
    replace h := Option.bind_eq_some_iff.1 h; obtain ⟨x5, hh, h⟩ := h; obtain rfl := rdSl_eq hh; clear hh
    replace h := Option.bind_eq_some_iff.1 h; obtain ⟨l6, hh, h⟩ := h; obtain rfl := rdCells_eq hh; clear hh
    split at h; rotate_left; cases h
    rename_i c7_0 c7_1
    replace h := Option.bind_eq_some_iff.1 h; obtain ⟨x6, hh, h⟩ := h; obtain rfl := rdBool_eq hh; clear hh
    replace h := Option.bind_eq_some_iff.1 h; obtain ⟨x7, hh, h⟩ := h; obtain rfl := rdSl_eq hh; clear hh
    replace h := Option.bind_eq_some_iff.1 h; obtain ⟨l8, hh, h⟩ := h; obtain rfl := rdCells_eq hh; clear hh
    split at h; rotate_left; cases h
    rename_i c9_0 c9_1
    replace h := Option.bind_eq_some_iff.1 h; obtain ⟨x8, hh, h⟩ := h; obtain rfl := rdBool_eq hh; clear hh
    replace h := Option.bind_eq_some_iff.1 h; obtain ⟨x9, hh, h⟩ := h; obtain rfl := rdSl_eq hh; clear hh
    exact (publicanref1_Mul_L0_0_eq m m kx kr x0 x1 x2 x3 x4 x5 x6 x7 x8 x9).trans h
set_option maxRecDepth 100000 in
theorem publicanref1_Mul_S0_eq (m : Nat) (ρ : List V → List PObj → Option R) (kx : Nat → List V → List PObj → Option R) (kr : List V → List PObj → Option R) (x0 : Int) (x1 : List Int) (x2 : Bool) (x3 : List Int) (x4 : Bool) (x5 : List Int) (x6 : Bool) (x7 : List Int) : pCode tb (publicanref1_Mul_G m) 0 Tryz.f102.ntmps (lpC (bodyOf Tryz.f102) 0) [publicanref1_Mul_X0_0 m] (fun s => match head 0 [(6, .any), (5, .any), (3, .fcells [(1, 6)]), (2, .fcells [(1, 6)]), (4, .fcells [(1, 6)])] s with | (vs, os) => ρ vs os) (fun i s => match head 0 [(4, .any), (5, .any), (3, .any), (2, .any)] s with | (vs, os) => kx i vs os) (fun s => match head 0 [] s with | (vs, os) => kr vs os) ⟨mkEnv [(6, .any), (5, .any), (3, .fcells [(1, 6)]), (2, .fcells [(1, 6)]), (4, .fcells [(1, 6)])] [.int .i64 x0, .loc 0, .ptr 1 0, .ptr 2 0, .ptr 3 0], [.arr 6 x1, .cells [.bool x2, .sl 6 x3], .cells [.bool x4, .sl 6 x5], .cells [.bool x6, .sl 6 x7]]⟩ = publicanref1_Mul_S0 m (fun x0 x1 x2 x3 x4 x5 x6 x7 => ρ [.int .i64 x0, .loc 0, .ptr 1 0, .ptr 2 0, .ptr 3 0] [.arr 6 x1, .cells [.bool x2, .sl 6 x3], .cells [.bool x4, .sl 6 x5], .cells [.bool x6, .sl 6 x7]]) (fun y0 y1 y2 y3 y4 y5 y6 => kx 0 [.ptr 0 0, .loc 1, .ptr 2 0, .ptr 3 0] [.cells [.bool y0, .sl 6 y1], .arr 6 y2, .cells [.bool y3, .sl 6 y4], .cells [.bool y5, .sl 6 y6]]) x0 x1 x2 x3 x4 x5 x6 x7 := by
  delta publicanref1_Mul_G publicanref1_Mul_S0 publicanref1_digit_sem publicanref1_trim_sem publicanref1_Mul_X0_0
  generalize publicanref1_digit (R := R) m = c0
  generalize publicanref1_trim (R := R) m = c1
  generalize publicanref1_Mul_L0_0 (R := R) m = c2
  refine id ?_
  kernel_rfl
set_option maxHeartbeats 4000000 in
theorem publicanref1_Mul_L0_eq (m : Nat) (j : Nat) : ∀ (kx : Nat → List V → List PObj → Option R) (kr : List V → List PObj → Option R) (x0 : Int) (x1 : List Int) (x2 : Bool) (x3 : List Int) (x4 : Bool) (x5 : List Int) (x6 : Bool) (x7 : List Int), loopP tb (publicanref1_Mul_G m) 0 Tryz.f102.ntmps [(6, .any), (5, .any), (3, .fcells [(1, 6)]), (2, .fcells [(1, 6)]), (4, .fcells [(1, 6)])] [(4, .any), (5, .any), (3, .any), (2, .any)] [] [publicanref1_Mul_X0_0 m] (lpC (bodyOf Tryz.f102) 0) j [.int .i64 x0, .loc 0, .ptr 1 0, .ptr 2 0, .ptr 3 0] [.arr 6 x1, .cells [.bool x2, .sl 6 x3], .cells [.bool x4, .sl 6 x5], .cells [.bool x6, .sl 6 x7]] kx kr = publicanref1_Mul_L0 m j x0 x1 x2 x3 x4 x5 x6 x7 (fun y0 y1 y2 y3 y4 y5 y6 => kx 0 [.ptr 0 0, .loc 1, .ptr 2 0, .ptr 3 0] [.cells [.bool y0, .sl 6 y1], .arr 6 y2, .cells [.bool y3, .sl 6 y4], .cells [.bool y5, .sl 6 y6]]) := by
  induction j with
  | zero => intros; rfl
  | succ j ih =>
    intro kx kr x0 x1 x2 x3 x4 x5 x6 x7
    refine Eq.trans ?_ (Eq.trans (Eq.trans (publicanref1_Mul_S0_eq m (fun vs os => loopP tb (publicanref1_Mul_G m) 0 Tryz.f102.ntmps [(6, .any), (5, .any), (3, .fcells [(1, 6)]), (2, .fcells [(1, 6)]), (4, .fcells [(1, 6)])] [(4, .any), (5, .any), (3, .any), (2, .any)] [] [publicanref1_Mul_X0_0 m] (lpC (bodyOf Tryz.f102) 0) j vs os kx kr) kx kr x0 x1 x2 x3 x4 x5 x6 x7) (congrArg (fun ρ => publicanref1_Mul_S0 m ρ (fun y0 y1 y2 y3 y4 y5 y6 => kx 0 [.ptr 0 0, .loc 1, .ptr 2 0, .ptr 3 0] [.cells [.bool y0, .sl 6 y1], .arr 6 y2, .cells [.bool y3, .sl 6 y4], .cells [.bool y5, .sl 6 y6]]) x0 x1 x2 x3 x4 x5 x6 x7) (funext fun x0 => funext fun x1 => funext fun x2 => funext fun x3 => funext fun x4 => funext fun x5 => funext fun x6 => funext fun x7 => ih kx kr x0 x1 x2 x3 x4 x5 x6 x7))) ?_) <;> kernel_rfl
noncomputable def publicanref1_Mul_X0 (m : Nat) : LoopH R := ⟨[(6, .any), (5, .any), (3, .fcells [(1, 6)]), (2, .fcells [(1, 6)]), (4, .fcells [(1, 6)])], [(4, .any), (5, .any), (3, .any), (2, .any)], [], fun vs os kx kr => match vs, os with | [v0_, v1_, v2_, v3_, v4_], [q0_, q1_, q2_, q3_] => ((rdInt .i64 v0_).bind fun x0 => (rdLoc 0 v1_).bind fun u0 => (rdPtr 1 0 v2_).bind fun u1 => (rdPtr 2 0 v3_).bind fun u2 => (rdPtr 3 0 v4_).bind fun u3 => (rdArr 6 q0_).bind fun x1 => (rdCells q1_).bind fun l4 => match l4 with | [c5_0, c5_1] => ((rdBool c5_0).bind fun x2 => (rdSl 6 c5_1).bind fun x3 => (rdCells q2_).bind fun l6 => match l6 with | [c7_0, c7_1] => ((rdBool c7_0).bind fun x4 => (rdSl 6 c7_1).bind fun x5 => (rdCells q3_).bind fun l8 => match l8 with | [c9_0, c9_1] => ((rdBool c9_0).bind fun x6 => (rdSl 6 c9_1).bind fun x7 => publicanref1_Mul_L0 m m x0 x1 x2 x3 x4 x5 x6 x7 (fun y0 y1 y2 y3 y4 y5 y6 => kx 0 [.ptr 0 0, .loc 1, .ptr 2 0, .ptr 3 0] [.cells [.bool y0, .sl 6 y1], .arr 6 y2, .cells [.bool y3, .sl 6 y4], .cells [.bool y5, .sl 6 y6]])) | _ => none) | _ => none) | _ => none) | _, _ => none⟩
set_option maxHeartbeats 4000000 in
theorem publicanref1_Mul_X0_ok {m : Nat} (HG : ∀ f, SemOK cxP f (publicanref1_Mul_G (R := R) m f)) : LoopSem cxP Tryz.f102.ntmps 0 (lpC (bodyOf Tryz.f102) 0) (publicanref1_Mul_X0 (R := R) m) :=
  loop_of C HG (L := [publicanref1_Mul_X0_0 m]) (by kernel_rfl) (by rw [show loopsIn (lpC (bodyOf Tryz.f102) 0) = [(lpC (lpC (bodyOf Tryz.f102) 0) 0)] from by kernel_rfl]; exact (.cons (publicanref1_Mul_X0_0_ok HG) (.nil _))) m fun vs os kx kr r h => by
    try dsimp only at h
    split at h; rotate_left; cases h
    rename_i v0_ v1_ v2_ v3_ v4_ q0_ q1_ q2_ q3_
    replace h := Option.bind_eq_some_iff.1 h; obtain ⟨x0, hh, h⟩ := h; obtain rfl := rdInt_eq hh; clear hh
    replace h := Option.bind_eq_some_iff.1 h; obtain ⟨u0, hh, h⟩ := h; obtain rfl := rdLoc_eq hh; clear hh
    replace h := Option.bind_eq_some_iff.1 h; obtain ⟨u1, hh, h⟩ := h; obtain rfl := rdPtr_eq hh; clear hh
    replace h := Option.bind_eq_some_iff.1 h; obtain ⟨u2, hh, h⟩ := h; obtain rfl := rdPtr_eq hh; clear hh
    replace h := Option.bind_eq_some_iff.1 h; obtain ⟨u3, hh, h⟩ := h; obtain rfl := rdPtr_eq hh; clear hh
    replace h := Option.bind_eq_some_iff.1 h; obtain ⟨x1, hh, h⟩ := h; obtain rfl := rdArr_eq hh; clear hh
    replace h := Option.bind_eq_some_iff.1 h; obtain ⟨l4, hh, h⟩ := h; obtain rfl := rdCells_eq hh; clear hh
    split at h; rotate_left; cases h
    rename_i c5_0 c5_1
    replace h := Option.bind_eq_some_iff.1 h; obtain ⟨x2, hh, h⟩ := h; obtain rfl := rdBool_eq hh; clear hh
    replace h := Option.bind_eq_some_iff.1 h; obtain ⟨x3, hh, h⟩ := h; obtain rfl := rdSl_eq hh; clear hh
    replace h := Option.bind_eq_some_iff.1 h; obtain ⟨l6, hh, h⟩ := h; obtain rfl := rdCells_eq hh; clear hh
    split at h; rotate_left; cases h
    rename_i c7_0 c7_1
    replace h := Option.bind_eq_some_iff.1 h; obtain ⟨x4, hh, h⟩ := h; obtain rfl := rdBool_eq hh; clear hh
    replace h := Option.bind_eq_some_iff.1 h; obtain ⟨x5, hh, h⟩ := h; obtain rfl := rdSl_eq hh; clear hh
    replace h := Option.bind_eq_some_iff.1 h; obtain ⟨l8, hh, h⟩ := h; obtain rfl := rdCells_eq hh; clear hh
    split at h; rotate_left; cases h
    rename_i c9_0 c9_1
    replace h := Option.bind_eq_some_iff.1 h; obtain ⟨x6, hh, h⟩ := h; obtain rfl := rdBool_eq hh; clear hh
    replace h := Option.bind_eq_some_iff.1 h; obtain ⟨x7, hh, h⟩ := h; obtain rfl := rdSl_eq hh; clear hh
    exact (publicanref1_Mul_L0_eq m m kx kr x0 x1 x2 x3 x4 x5 x6 x7).trans h
noncomputable def publicanref1_Mul_w (F : T_publicanref1_Big → T_publicanref1_Big → (T_publicanref1_Big → Option R) → Option R) : PSem R := fun vs os κ => match vs, os with | [v0_, v1_], [] => ((rdSt 5 v0_).bind fun a0 => (rdSt 5 v1_).bind fun a1 => F a0 a1 (fun r => κ (.st 5 r) [])) | _, _ => none
def publicanref1_Mul_ac : List (Option (Bool × Nat)) := [some (false, 5), some (false, 5)]
set_option maxRecDepth 100000 in
theorem publicanref1_Mul_eq (m : Nat) (a0 : T_publicanref1_Big) (a1 : T_publicanref1_Big) (κ : V → List PObj → Option R) : pFun tb (publicanref1_Mul_G m) 0 [publicanref1_Mul_X0 m] [some (false, 5)] Tryz.f102 [.st 5 a0, .st 5 a1] [] κ = publicanref1_Mul m a0 a1 (fun r => κ (.st 5 r) []) := by
  delta publicanref1_Mul_G publicanref1_Mul publicanref1_digit_sem publicanref1_trim_sem publicanref1_Mul_X0
  generalize publicanref1_digit (R := R) m = c0
  generalize publicanref1_trim (R := R) m = c1
  generalize publicanref1_Mul_L0 (R := R) m = c2
  refine id ?_
  kernel_rfl
noncomputable def publicanref1_Mul_sem (m : Nat) : PSem R := semOf publicanref1_Mul_ac (publicanref1_Mul_w (publicanref1_Mul m))
theorem publicanref1_Mul_ok (m : Nat) : SemOK cxP 102 (publicanref1_Mul_sem (R := R) m) :=
  have HG : ∀ f, SemOK cxP f (publicanref1_Mul_G (R := R) m f) := tabG_ok (.cons (publicanref1_digit_ok m) (.cons (publicanref1_trim_ok m) .nil))
  semOf_ok (fun_of C HG (L := [publicanref1_Mul_X0 m]) (rc := [some (false, 5)]) (k := 0) (fn_of Tryz.func102) rfl rfl (by kernel_rfl) (by rw [show loopsIn (bodyOf Tryz.f102) = [(lpC (bodyOf Tryz.f102) 0)] from by kernel_rfl]; exact (.cons (publicanref1_Mul_X0_ok HG) (.nil _))) fun vs os κ r h => by
    unfold publicanref1_Mul_w at h
    split at h; rotate_left; cases h
    rename_i v0_ v1_
    replace h := Option.bind_eq_some_iff.1 h; obtain ⟨a0, hh, h⟩ := h; obtain rfl := rdSt_eq hh; clear hh
    replace h := Option.bind_eq_some_iff.1 h; obtain ⟨a1, hh, h⟩ := h; obtain rfl := rdSt_eq hh; clear hh
    exact (publicanref1_Mul_eq m a0 a1 κ).trans h
)
noncomputable def math_bits_Div64_G (m : Nat) : FuncId → PSem R := tabG [(221, math_bits_LeadingZeros64_sem m)]
set_option maxRecDepth 100000 in
theorem math_bits_Div64_S1_eq (m : Nat) (ρ : List V → List PObj → Option R) (kx : Nat → List V → List PObj → Option R) (kr : List V → List PObj → Option R) (x0 : Int) (x1 : Int) (x2 : Int) (x3 : Int) (x4 : Int) (x5 : Int) (x6 : Int) (x7 : Int) (x8 : Int) : pCode tb (math_bits_Div64_G m) 0 Tryz.f205.ntmps (lpC (bodyOf Tryz.f205) 1) [] (fun s => match head 0 [(8, .any), (2, .any), (14, .any), (17, .any), (15, .any), (9, .any), (16, .any), (18, .any), (10, .any)] s with | (vs, os) => ρ vs os) (fun i s => match head 0 [(8, .any), (2, .any), (18, .any), (14, .any), (17, .any), (15, .any)] s with | (vs, os) => kx i vs os) (fun s => match head 0 [] s with | (vs, os) => kr vs os) ⟨mkEnv [(8, .any), (2, .any), (14, .any), (17, .any), (15, .any), (9, .any), (16, .any), (18, .any), (10, .any)] [.int .u64 x0, .int .u64 x1, .int .u64 x2, .int .u64 x3, .int .u64 x4, .int .u64 x5, .int .u64 x6, .int .u64 x7, .int .u64 x8], []⟩ = math_bits_Div64_S1 m (fun x0 x1 x2 x3 x4 x5 x6 x7 x8 => ρ [.int .u64 x0, .int .u64 x1, .int .u64 x2, .int .u64 x3, .int .u64 x4, .int .u64 x5, .int .u64 x6, .int .u64 x7, .int .u64 x8] []) (fun y0 y1 y2 y3 y4 y5 => kx 2 [.int .u64 y0, .int .u64 y1, .int .u64 y2, .int .u64 y3, .int .u64 y4, .int .u64 y5] []) x0 x1 x2 x3 x4 x5 x6 x7 x8 := by
  delta math_bits_Div64_G math_bits_Div64_S1 math_bits_LeadingZeros64_sem
  generalize math_bits_LeadingZeros64 (R := R) m = c0
  refine id ?_
  kernel_rfl
set_option maxHeartbeats 4000000 in
theorem math_bits_Div64_L1_eq (m : Nat) (j : Nat) : ∀ (kx : Nat → List V → List PObj → Option R) (kr : List V → List PObj → Option R) (x0 : Int) (x1 : Int) (x2 : Int) (x3 : Int) (x4 : Int) (x5 : Int) (x6 : Int) (x7 : Int) (x8 : Int), loopP tb (math_bits_Div64_G m) 0 Tryz.f205.ntmps [(8, .any), (2, .any), (14, .any), (17, .any), (15, .any), (9, .any), (16, .any), (18, .any), (10, .any)] [(8, .any), (2, .any), (18, .any), (14, .any), (17, .any), (15, .any)] [] [] (lpC (bodyOf Tryz.f205) 1) j [.int .u64 x0, .int .u64 x1, .int .u64 x2, .int .u64 x3, .int .u64 x4, .int .u64 x5, .int .u64 x6, .int .u64 x7, .int .u64 x8] [] kx kr = math_bits_Div64_L1 m j x0 x1 x2 x3 x4 x5 x6 x7 x8 (fun y0 y1 y2 y3 y4 y5 => kx 2 [.int .u64 y0, .int .u64 y1, .int .u64 y2, .int .u64 y3, .int .u64 y4, .int .u64 y5] []) := by
  induction j with
  | zero => intros; rfl
  | succ j ih =>
    intro kx kr x0 x1 x2 x3 x4 x5 x6 x7 x8
    refine Eq.trans ?_ (Eq.trans (Eq.trans (math_bits_Div64_S1_eq m (fun vs os => loopP tb (math_bits_Div64_G m) 0 Tryz.f205.ntmps [(8, .any), (2, .any), (14, .any), (17, .any), (15, .any), (9, .any), (16, .any), (18, .any), (10, .any)] [(8, .any), (2, .any), (18, .any), (14, .any), (17, .any), (15, .any)] [] [] (lpC (bodyOf Tryz.f205) 1) j vs os kx kr) kx kr x0 x1 x2 x3 x4 x5 x6 x7 x8) (congrArg (fun ρ => math_bits_Div64_S1 m ρ (fun y0 y1 y2 y3 y4 y5 => kx 2 [.int .u64 y0, .int .u64 y1, .int .u64 y2, .int .u64 y3, .int .u64 y4, .int .u64 y5] []) x0 x1 x2 x3 x4 x5 x6 x7 x8) (funext fun x0 => funext fun x1 => funext fun x2 => funext fun x3 => funext fun x4 => funext fun x5 => funext fun x6 => funext fun x7 => funext fun x8 => ih kx kr x0 x1 x2 x3 x4 x5 x6 x7 x8))) ?_) <;> kernel_rfl
noncomputable def math_bits_Div64_X1 (m : Nat) : LoopH R := ⟨[(8, .any), (2, .any), (14, .any), (17, .any), (15, .any), (9, .any), (16, .any), (18, .any), (10, .any)], [(8, .any), (2, .any), (18, .any), (14, .any), (17, .any), (15, .any)], [], fun vs os kx kr => match vs, os with | [v0_, v1_, v2_, v3_, v4_, v5_, v6_, v7_, v8_], [] => ((rdInt .u64 v0_).bind fun x0 => (rdInt .u64 v1_).bind fun x1 => (rdInt .u64 v2_).bind fun x2 => (rdInt .u64 v3_).bind fun x3 => (rdInt .u64 v4_).bind fun x4 => (rdInt .u64 v5_).bind fun x5 => (rdInt .u64 v6_).bind fun x6 => (rdInt .u64 v7_).bind fun x7 => (rdInt .u64 v8_).bind fun x8 => math_bits_Div64_L1 m m x0 x1 x2 x3 x4 x5 x6 x7 x8 (fun y0 y1 y2 y3 y4 y5 => kx 2 [.int .u64 y0, .int .u64 y1, .int .u64 y2, .int .u64 y3, .int .u64 y4, .int .u64 y5] [])) | _, _ => none⟩
set_option maxHeartbeats 4000000 in
theorem math_bits_Div64_X1_ok {m : Nat} (HG : ∀ f, SemOK cxP f (math_bits_Div64_G (R := R) m f)) : LoopSem cxP Tryz.f205.ntmps 0 (lpC (bodyOf Tryz.f205) 1) (math_bits_Div64_X1 (R := R) m) :=
  loop_of C HG (L := []) (by kernel_rfl) (by rw [show loopsIn (lpC (bodyOf Tryz.f205) 1) = [] from by kernel_rfl]; exact (.nil _)) m fun vs os kx kr r h => by
    try dsimp only at h
    split at h; rotate_left; cases h
    rename_i v0_ v1_ v2_ v3_ v4_ v5_ v6_ v7_ v8_
    replace h := Option.bind_eq_some_iff.1 h; obtain ⟨x0, hh, h⟩ := h; obtain rfl := rdInt_eq hh; clear hh
    replace h := Option.bind_eq_some_iff.1 h; obtain ⟨x1, hh, h⟩ := h; obtain rfl := rdInt_eq hh; clear hh
    replace h := Option.bind_eq_some_iff.1 h; obtain ⟨x2, hh, h⟩ := h; obtain rfl := rdInt_eq hh; clear hh
    replace h := Option.bind_eq_some_iff.1 h; obtain ⟨x3, hh, h⟩ := h; obtain rfl := rdInt_eq hh; clear hh
    replace h := Option.bind_eq_some_iff.1 h; obtain ⟨x4, hh, h⟩ := h; obtain rfl := rdInt_eq hh; clear hh
    replace h := Option.bind_eq_some_iff.1 h; obtain ⟨x5, hh, h⟩ := h; obtain rfl := rdInt_eq hh; clear hh
    replace h := Option.bind_eq_some_iff.1 h; obtain ⟨x6, hh, h⟩ := h; obtain rfl := rdInt_eq hh; clear hh
    replace h := Option.bind_eq_some_iff.1 h; obtain ⟨x7, hh, h⟩ := h; obtain rfl := rdInt_eq hh; clear hh
    replace h := Option.bind_eq_some_iff.1 h; obtain ⟨x8, hh, h⟩ := h; obtain rfl := rdInt_eq hh; clear hh
    exact (math_bits_Div64_L1_eq m m kx kr x0 x1 x2 x3 x4 x5 x6 x7 x8).trans h
set_option maxRecDepth 100000 in
theorem math_bits_Div64_S0_eq (m : Nat) (ρ : List V → List PObj → Option R) (kx : Nat → List V → List PObj → Option R) (kr : List V → List PObj → Option R) (x0 : Int) (x1 : Int) (x2 : Int) (x3 : Int) (x4 : Int) (x5 : Int) (x6 : Int) (x7 : Int) (x8 : Int) : pCode tb (math_bits_Div64_G m) 0 Tryz.f205.ntmps (lpC (bodyOf Tryz.f205) 0) [] (fun s => match head 0 [(8, .any), (2, .any), (14, .any), (9, .any), (10, .any), (13, .any), (11, .any), (16, .any), (15, .any)] s with | (vs, os) => ρ vs os) (fun i s => match head 0 [(8, .any), (2, .any), (14, .any), (15, .any), (9, .any), (10, .any), (13, .any), (11, .any)] s with | (vs, os) => kx i vs os) (fun s => match head 0 [] s with | (vs, os) => kr vs os) ⟨mkEnv [(8, .any), (2, .any), (14, .any), (9, .any), (10, .any), (13, .any), (11, .any), (16, .any), (15, .any)] [.int .u64 x0, .int .u64 x1, .int .u64 x2, .int .u64 x3, .int .u64 x4, .int .u64 x5, .int .u64 x6, .int .u64 x7, .int .u64 x8], []⟩ = math_bits_Div64_S0 m (fun x0 x1 x2 x3 x4 x5 x6 x7 x8 => ρ [.int .u64 x0, .int .u64 x1, .int .u64 x2, .int .u64 x3, .int .u64 x4, .int .u64 x5, .int .u64 x6, .int .u64 x7, .int .u64 x8] []) (fun y0 y1 y2 y3 y4 y5 y6 y7 => kx 0 [.int .u64 y0, .int .u64 y1, .int .u64 y2, .int .u64 y3, .int .u64 y4, .int .u64 y5, .int .u64 y6, .int .u64 y7] []) x0 x1 x2 x3 x4 x5 x6 x7 x8 := by
  delta math_bits_Div64_G math_bits_Div64_S0 math_bits_LeadingZeros64_sem
  generalize math_bits_LeadingZeros64 (R := R) m = c0
  refine id ?_
  kernel_rfl
set_option maxHeartbeats 4000000 in
theorem math_bits_Div64_L0_eq (m : Nat) (j : Nat) : ∀ (kx : Nat → List V → List PObj → Option R) (kr : List V → List PObj → Option R) (x0 : Int) (x1 : Int) (x2 : Int) (x3 : Int) (x4 : Int) (x5 : Int) (x6 : Int) (x7 : Int) (x8 : Int), loopP tb (math_bits_Div64_G m) 0 Tryz.f205.ntmps [(8, .any), (2, .any), (14, .any), (9, .any), (10, .any), (13, .any), (11, .any), (16, .any), (15, .any)] [(8, .any), (2, .any), (14, .any), (15, .any), (9, .any), (10, .any), (13, .any), (11, .any)] [] [] (lpC (bodyOf Tryz.f205) 0) j [.int .u64 x0, .int .u64 x1, .int .u64 x2, .int .u64 x3, .int .u64 x4, .int .u64 x5, .int .u64 x6, .int .u64 x7, .int .u64 x8] [] kx kr = math_bits_Div64_L0 m j x0 x1 x2 x3 x4 x5 x6 x7 x8 (fun y0 y1 y2 y3 y4 y5 y6 y7 => kx 0 [.int .u64 y0, .int .u64 y1, .int .u64 y2, .int .u64 y3, .int .u64 y4, .int .u64 y5, .int .u64 y6, .int .u64 y7] []) := by
  induction j with
  | zero => intros; rfl
  | succ j ih =>
    intro kx kr x0 x1 x2 x3 x4 x5 x6 x7 x8
    refine Eq.trans ?_ (Eq.trans (Eq.trans (math_bits_Div64_S0_eq m (fun vs os => loopP tb (math_bits_Div64_G m) 0 Tryz.f205.ntmps [(8, .any), (2, .any), (14, .any), (9, .any), (10, .any), (13, .any), (11, .any), (16, .any), (15, .any)] [(8, .any), (2, .any), (14, .any), (15, .any), (9, .any), (10, .any), (13, .any), (11, .any)] [] [] (lpC (bodyOf Tryz.f205) 0) j vs os kx kr) kx kr x0 x1 x2 x3 x4 x5 x6 x7 x8) (congrArg (fun ρ => math_bits_Div64_S0 m ρ (fun y0 y1 y2 y3 y4 y5 y6 y7 => kx 0 [.int .u64 y0, .int .u64 y1, .int .u64 y2, .int .u64 y3, .int .u64 y4, .int .u64 y5, .int .u64 y6, .int .u64 y7] []) x0 x1 x2 x3 x4 x5 x6 x7 x8) (funext fun x0 => funext fun x1 => funext fun x2 => funext fun x3 => funext fun x4 => funext fun x5 => funext fun x6 => funext fun x7 => funext fun x8 => ih kx kr x0 x1 x2 x3 x4 x5 x6 x7 x8))) ?_) <;> kernel_rfl
noncomputable def math_bits_Div64_X0 (m : Nat) : LoopH R := ⟨[(8, .any), (2, .any), (14, .any), (9, .any), (10, .any), (13, .any), (11, .any), (16, .any), (15, .any)], [(8, .any), (2, .any), (14, .any), (15, .any), (9, .any), (10, .any), (13, .any), (11, .any)], [], fun vs os kx kr => match vs, os with | [v0_, v1_, v2_, v3_, v4_, v5_, v6_, v7_, v8_], [] => ((rdInt .u64 v0_).bind fun x0 => (rdInt .u64 v1_).bind fun x1 => (rdInt .u64 v2_).bind fun x2 => (rdInt .u64 v3_).bind fun x3 => (rdInt .u64 v4_).bind fun x4 => (rdInt .u64 v5_).bind fun x5 => (rdInt .u64 v6_).bind fun x6 => (rdInt .u64 v7_).bind fun x7 => (rdInt .u64 v8_).bind fun x8 => math_bits_Div64_L0 m m x0 x1 x2 x3 x4 x5 x6 x7 x8 (fun y0 y1 y2 y3 y4 y5 y6 y7 => kx 0 [.int .u64 y0, .int .u64 y1, .int .u64 y2, .int .u64 y3, .int .u64 y4, .int .u64 y5, .int .u64 y6, .int .u64 y7] [])) | _, _ => none⟩
set_option maxHeartbeats 4000000 in
theorem math_bits_Div64_X0_ok {m : Nat} (HG : ∀ f, SemOK cxP f (math_bits_Div64_G (R := R) m f)) : LoopSem cxP Tryz.f205.ntmps 0 (lpC (bodyOf Tryz.f205) 0) (math_bits_Div64_X0 (R := R) m) :=
  loop_of C HG (L := []) (by kernel_rfl) (by rw [show loopsIn (lpC (bodyOf Tryz.f205) 0) = [] from by kernel_rfl]; exact (.nil _)) m fun vs os kx kr r h => by
    try dsimp only at h
    split at h; rotate_left; cases h
    rename_i v0_ v1_ v2_ v3_ v4_ v5_ v6_ v7_ v8_
    replace h := Option.bind_eq_some_iff.1 h; obtain ⟨x0, hh, h⟩ := h; obtain rfl := rdInt_eq hh; clear hh
    replace h := Option.bind_eq_some_iff.1 h; obtain ⟨x1, hh, h⟩ := h; obtain rfl := rdInt_eq hh; clear hh
    replace h := Option.bind_eq_some_iff.1 h; obtain ⟨x2, hh, h⟩ := h; obtain rfl := rdInt_eq hh; clear hh
    replace h := Option.bind_eq_some_iff.1 h; obtain ⟨x3, hh, h⟩ := h; obtain rfl := rdInt_eq hh; clear hh
    replace h := Option.bind_eq_some_iff.1 h; obtain ⟨x4, hh, h⟩ := h; obtain rfl := rdInt_eq hh; clear hh
    replace h := Option.bind_eq_some_iff.1 h; obtain ⟨x5, hh, h⟩ := h; obtain rfl := rdInt_eq hh; clear hh
    replace h := Option.bind_eq_some_iff.1 h; obtain ⟨x6, hh, h⟩ := h; obtain rfl := rdInt_eq hh; clear hh
    replace h := Option.bind_eq_some_iff.1 h; obtain ⟨x7, hh, h⟩ := h; obtain rfl := rdInt_eq hh; clear hh
    replace h := Option.bind_eq_some_iff.1 h; obtain ⟨x8, hh, h⟩ := h; obtain rfl := rdInt_eq hh; clear hh
    exact (math_bits_Div64_L0_eq m m kx kr x0 x1 x2 x3 x4 x5 x6 x7 x8).trans h
noncomputable def math_bits_Div64_w (F : Int → Int → Int → (Int → Int → Option R) → Option R) : PSem R := fun vs os κ => match vs, os with | [v0_, v1_, v2_], [] => ((rdInt .u64 v0_).bind fun a0 => (rdInt .u64 v1_).bind fun a1 => (rdInt .u64 v2_).bind fun a2 => F a0 a1 a2 (fun r_0 r_1 => κ (.tup [.int .u64 r_0, .int .u64 r_1]) [])) | _, _ => none
def math_bits_Div64_ac : List (Option (Bool × Nat)) := [none, none, none]
set_option maxRecDepth 100000 in
theorem math_bits_Div64_eq (m : Nat) (a0 : Int) (a1 : Int) (a2 : Int) (κ : V → List PObj → Option R) : pFun tb (math_bits_Div64_G m) 0 [math_bits_Div64_X0 m, math_bits_Div64_X1 m] [none, none] Tryz.f205 [.int .u64 a0, .int .u64 a1, .int .u64 a2] [] κ = math_bits_Div64 m a0 a1 a2 (fun r_0 r_1 => κ (.tup [.int .u64 r_0, .int .u64 r_1]) []) := by
  delta math_bits_Div64_G math_bits_Div64 math_bits_LeadingZeros64_sem math_bits_Div64_X0 math_bits_Div64_X1
  generalize math_bits_LeadingZeros64 (R := R) m = c0
  generalize math_bits_Div64_L0 (R := R) m = c1
  generalize math_bits_Div64_L1 (R := R) m = c2
  refine id ?_
  kernel_rfl
noncomputable def math_bits_Div64_sem (m : Nat) : PSem R := semOf math_bits_Div64_ac (math_bits_Div64_w (math_bits_Div64 m))
theorem math_bits_Div64_ok (m : Nat) : SemOK cxP 205 (math_bits_Div64_sem (R := R) m) :=
  have HG : ∀ f, SemOK cxP f (math_bits_Div64_G (R := R) m f) := tabG_ok (.cons (math_bits_LeadingZeros64_ok m) .nil)
  semOf_ok (fun_of C HG (L := [math_bits_Div64_X0 m, math_bits_Div64_X1 m]) (rc := [none, none]) (k := 0) (fn_of Tryz.func205) rfl rfl (by kernel_rfl) (by rw [show loopsIn (bodyOf Tryz.f205) = [(lpC (bodyOf Tryz.f205) 0), (lpC (bodyOf Tryz.f205) 1)] from by kernel_rfl]; exact (.cons (math_bits_Div64_X0_ok HG) (.cons (math_bits_Div64_X1_ok HG) (.nil _)))) fun vs os κ r h => by
    unfold math_bits_Div64_w at h
    split at h; rotate_left; cases h
    rename_i v0_ v1_ v2_
    replace h := Option.bind_eq_some_iff.1 h; obtain ⟨a0, hh, h⟩ := h; obtain rfl := rdInt_eq hh; clear hh
    replace h := Option.bind_eq_some_iff.1 h; obtain ⟨a1, hh, h⟩ := h; obtain rfl := rdInt_eq hh; clear hh
    replace h := Option.bind_eq_some_iff.1 h; obtain ⟨a2, hh, h⟩ := h; obtain rfl := rdInt_eq hh; clear hh
    exact (math_bits_Div64_eq m a0 a1 a2 κ).trans h
)
end Go.Pm
