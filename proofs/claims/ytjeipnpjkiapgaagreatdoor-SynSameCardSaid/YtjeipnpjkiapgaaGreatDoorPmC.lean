/- The interpreter over data answers as the plain functions say. -/
import Derived.Test.YtjeipnpjkiapgaaGreatDoorPmB
set_option linter.unusedVariables false
set_option linter.unusedSectionVars false
set_option linter.unusedSimpArgs false
namespace Go.Pm
open Go Go.EvM Go.Pv Go.Proofs
set_option linter.unusedVariables false
set_option linter.unusedSectionVars false
variable {R : Type}
noncomputable def slices_EqualFunc___publican_syn_Node___publican_syn_Node_publican_syn_Node_publican_syn_Node__G (m : Nat) (g : G_syn_Same R) : FuncId → PSem R := tabG [(15, semOf syn_Same_ac (syn_Same_w g.syn_Same))]
set_option maxRecDepth 100000 in
theorem slices_EqualFunc___publican_syn_Node___publican_syn_Node_publican_syn_Node_publican_syn_Node__S0_eq (m : Nat) (g : G_syn_Same R) (ρ : List V → List PObj → Option R) (kx : Nat → List V → List PObj → Option R) (kr : List V → List PObj → Option R) (x0 : Int) (x1 : List T_syn_Node) (x2 : List T_syn_Node) (x3 : Int) : pCode tb (slices_EqualFunc___publican_syn_Node___publican_syn_Node_publican_syn_Node_publican_syn_Node__G m g) 0 Tryz.f31.ntmps (lpC (bodyOf Tryz.f31) 0) [] (fun s => match head 0 [(17, .any), (2, .any), (1, .any), (15, .any), (16, .any)] s with | (vs, os) => ρ vs os) (fun i s => match head 0 [] s with | (vs, os) => kx i vs os) (fun s => match head 0 [(6, .any)] s with | (vs, os) => kr vs os) ⟨mkEnv [(17, .any), (2, .any), (1, .any), (15, .any), (16, .any)] [.int .i64 x0, .fn 15 [] [], .sl 7 x1, .sl 7 x2, .int .i64 x3], []⟩ = slices_EqualFunc___publican_syn_Node___publican_syn_Node_publican_syn_Node_publican_syn_Node__S0 m g (fun x0 x1 x2 x3 => ρ [.int .i64 x0, .fn 15 [] [], .sl 7 x1, .sl 7 x2, .int .i64 x3] []) (fun (_ : Unit) => kx 0 [] []) (fun z0 => kr [.bool z0] []) x0 x1 x2 x3 := by
  delta slices_EqualFunc___publican_syn_Node___publican_syn_Node_publican_syn_Node_publican_syn_Node__G slices_EqualFunc___publican_syn_Node___publican_syn_Node_publican_syn_Node_publican_syn_Node__S0
  refine id ?_
  kernel_rfl
set_option maxHeartbeats 4000000 in
theorem slices_EqualFunc___publican_syn_Node___publican_syn_Node_publican_syn_Node_publican_syn_Node__L0_eq (m : Nat) (g : G_syn_Same R) (j : Nat) : ∀ (kx : Nat → List V → List PObj → Option R) (kr : List V → List PObj → Option R) (x0 : Int) (x1 : List T_syn_Node) (x2 : List T_syn_Node) (x3 : Int), loopP tb (slices_EqualFunc___publican_syn_Node___publican_syn_Node_publican_syn_Node_publican_syn_Node__G m g) 0 Tryz.f31.ntmps [(17, .any), (2, .any), (1, .any), (15, .any), (16, .any)] [] [(6, .any)] [] (lpC (bodyOf Tryz.f31) 0) j [.int .i64 x0, .fn 15 [] [], .sl 7 x1, .sl 7 x2, .int .i64 x3] [] kx kr = slices_EqualFunc___publican_syn_Node___publican_syn_Node_publican_syn_Node_publican_syn_Node__L0 m g j x0 x1 x2 x3 (fun (_ : Unit) => kx 0 [] []) (fun z0 => kr [.bool z0] []) := by
  induction j with
  | zero => intros; rfl
  | succ j ih =>
    intro kx kr x0 x1 x2 x3
    refine Eq.trans ?_ (Eq.trans (Eq.trans (slices_EqualFunc___publican_syn_Node___publican_syn_Node_publican_syn_Node_publican_syn_Node__S0_eq m g (fun vs os => loopP tb (slices_EqualFunc___publican_syn_Node___publican_syn_Node_publican_syn_Node_publican_syn_Node__G m g) 0 Tryz.f31.ntmps [(17, .any), (2, .any), (1, .any), (15, .any), (16, .any)] [] [(6, .any)] [] (lpC (bodyOf Tryz.f31) 0) j vs os kx kr) kx kr x0 x1 x2 x3) (congrArg (fun ρ => slices_EqualFunc___publican_syn_Node___publican_syn_Node_publican_syn_Node_publican_syn_Node__S0 m g ρ (fun (_ : Unit) => kx 0 [] []) (fun z0 => kr [.bool z0] []) x0 x1 x2 x3) (funext fun x0 => funext fun x1 => funext fun x2 => funext fun x3 => ih kx kr x0 x1 x2 x3))) ?_) <;> kernel_rfl
noncomputable def slices_EqualFunc___publican_syn_Node___publican_syn_Node_publican_syn_Node_publican_syn_Node__X0 (m : Nat) (g : G_syn_Same R) : LoopH R := ⟨[(17, .any), (2, .any), (1, .any), (15, .any), (16, .any)], [], [(6, .any)], fun vs os kx kr => match vs, os with | [v0_, v1_, v2_, v3_, v4_], [] => ((rdInt .i64 v0_).bind fun x0 => (rdFn 15 v1_).bind fun u0 => (rdSl 7 v2_).bind fun x1 => (rdSl 7 v3_).bind fun x2 => (rdInt .i64 v4_).bind fun x3 => slices_EqualFunc___publican_syn_Node___publican_syn_Node_publican_syn_Node_publican_syn_Node__L0 m g m x0 x1 x2 x3 (fun (_ : Unit) => kx 0 [] []) (fun z0 => kr [.bool z0] [])) | _, _ => none⟩
set_option maxHeartbeats 4000000 in
theorem slices_EqualFunc___publican_syn_Node___publican_syn_Node_publican_syn_Node_publican_syn_Node__X0_ok {m : Nat} {g : G_syn_Same R} (HG : ∀ f, SemOK cxP f (slices_EqualFunc___publican_syn_Node___publican_syn_Node_publican_syn_Node_publican_syn_Node__G (R := R) m g f)) : LoopSem cxP Tryz.f31.ntmps 0 (lpC (bodyOf Tryz.f31) 0) (slices_EqualFunc___publican_syn_Node___publican_syn_Node_publican_syn_Node_publican_syn_Node__X0 (R := R) m g) :=
  loop_of C HG (L := []) (by kernel_rfl) (by rw [show loopsIn (lpC (bodyOf Tryz.f31) 0) = [] from by kernel_rfl]; exact (.nil _)) m fun vs os kx kr r h => by
    try dsimp only at h
    split at h; rotate_left; cases h
    rename_i v0_ v1_ v2_ v3_ v4_
    replace h := Option.bind_eq_some_iff.1 h; obtain ⟨x0, hh, h⟩ := h; obtain rfl := rdInt_eq hh; clear hh
    replace h := Option.bind_eq_some_iff.1 h; obtain ⟨u0, hh, h⟩ := h; obtain rfl := rdFn_eq hh; clear hh
    replace h := Option.bind_eq_some_iff.1 h; obtain ⟨x1, hh, h⟩ := h; obtain rfl := rdSl_eq hh; clear hh
    replace h := Option.bind_eq_some_iff.1 h; obtain ⟨x2, hh, h⟩ := h; obtain rfl := rdSl_eq hh; clear hh
    replace h := Option.bind_eq_some_iff.1 h; obtain ⟨x3, hh, h⟩ := h; obtain rfl := rdInt_eq hh; clear hh
    exact (slices_EqualFunc___publican_syn_Node___publican_syn_Node_publican_syn_Node_publican_syn_Node__L0_eq m g m kx kr x0 x1 x2 x3).trans h
set_option maxRecDepth 100000 in
theorem slices_EqualFunc___publican_syn_Node___publican_syn_Node_publican_syn_Node_publican_syn_Node__eq (m : Nat) (g : G_syn_Same R) (a0 : List T_syn_Node) (a1 : List T_syn_Node) (κ : V → List PObj → Option R) : pFun tb (slices_EqualFunc___publican_syn_Node___publican_syn_Node_publican_syn_Node_publican_syn_Node__G m g) 0 [slices_EqualFunc___publican_syn_Node___publican_syn_Node_publican_syn_Node_publican_syn_Node__X0 m g] [none] Tryz.f31 [.sl 7 a0, .sl 7 a1, .fn 15 [] []] [] κ = slices_EqualFunc___publican_syn_Node___publican_syn_Node_publican_syn_Node_publican_syn_Node__B m g a0 a1 (fun r => κ (.bool r) []) := by
  delta slices_EqualFunc___publican_syn_Node___publican_syn_Node_publican_syn_Node_publican_syn_Node__G slices_EqualFunc___publican_syn_Node___publican_syn_Node_publican_syn_Node_publican_syn_Node__B slices_EqualFunc___publican_syn_Node___publican_syn_Node_publican_syn_Node_publican_syn_Node__X0
  generalize slices_EqualFunc___publican_syn_Node___publican_syn_Node_publican_syn_Node_publican_syn_Node__L0 (R := R) m g = c0
  refine id ?_
  kernel_rfl
theorem slices_EqualFunc___publican_syn_Node___publican_syn_Node_publican_syn_Node_publican_syn_Node__st (m : Nat) (g : G_syn_Same R) (hg : G_syn_SameOK g) : SemC cxP 31 (slices_EqualFunc___publican_syn_Node___publican_syn_Node_publican_syn_Node_publican_syn_Node__w (slices_EqualFunc___publican_syn_Node___publican_syn_Node_publican_syn_Node_publican_syn_Node__B m g)) :=
  have HG : ∀ f, SemOK cxP f (slices_EqualFunc___publican_syn_Node___publican_syn_Node_publican_syn_Node_publican_syn_Node__G (R := R) m g f) := tabG_ok (.cons (hg.syn_Same) .nil)
  fun_of C HG (L := [slices_EqualFunc___publican_syn_Node___publican_syn_Node_publican_syn_Node_publican_syn_Node__X0 m g]) (rc := [none]) (k := 0) (fn_of Tryz.func31) rfl rfl (by kernel_rfl) (by rw [show loopsIn (bodyOf Tryz.f31) = [(lpC (bodyOf Tryz.f31) 0)] from by kernel_rfl]; exact (.cons (slices_EqualFunc___publican_syn_Node___publican_syn_Node_publican_syn_Node_publican_syn_Node__X0_ok HG) (.nil _))) fun vs os κ r h => by
    unfold slices_EqualFunc___publican_syn_Node___publican_syn_Node_publican_syn_Node_publican_syn_Node__w at h
    split at h; rotate_left; cases h
    rename_i v0_ v1_ v2_
    replace h := Option.bind_eq_some_iff.1 h; obtain ⟨a0, hh, h⟩ := h; obtain rfl := rdSl_eq hh; clear hh
    replace h := Option.bind_eq_some_iff.1 h; obtain ⟨a1, hh, h⟩ := h; obtain rfl := rdSl_eq hh; clear hh
    replace h := Option.bind_eq_some_iff.1 h; obtain ⟨u0, hh, h⟩ := h; obtain rfl := rdFn_eq hh; clear hh
    exact (slices_EqualFunc___publican_syn_Node___publican_syn_Node_publican_syn_Node_publican_syn_Node__eq m g a0 a1 κ).trans h
theorem slices_EqualFunc___publican_syn_Node___publican_syn_Node_publican_syn_Node_publican_syn_Node__z : SemC cxP 31 (slices_EqualFunc___publican_syn_Node___publican_syn_Node_publican_syn_Node_publican_syn_Node__w (R := R) fun _ _ _ => none) := fun vs os κ r h => by
    unfold slices_EqualFunc___publican_syn_Node___publican_syn_Node_publican_syn_Node_publican_syn_Node__w at h
    split at h; rotate_left; cases h
    rename_i v0_ v1_ v2_
    replace h := Option.bind_eq_some_iff.1 h; obtain ⟨a0, hh, h⟩ := h; obtain rfl := rdSl_eq hh; clear hh
    replace h := Option.bind_eq_some_iff.1 h; obtain ⟨a1, hh, h⟩ := h; obtain rfl := rdSl_eq hh; clear hh
    replace h := Option.bind_eq_some_iff.1 h; obtain ⟨u0, hh, h⟩ := h; obtain rfl := rdFn_eq hh; clear hh
    cases h
theorem G_syn_Same_ok : ∀ m, G_syn_SameOK (G_syn_Same_r (R := R) m)
  | 0 => ⟨semOf_ok syn_Same_z, semOf_ok slices_EqualFunc___publican_syn_Node___publican_syn_Node_publican_syn_Node_publican_syn_Node__z⟩
  | j + 1 => ⟨semOf_ok (syn_Same_st j _ (G_syn_Same_ok j)), semOf_ok (slices_EqualFunc___publican_syn_Node___publican_syn_Node_publican_syn_Node_publican_syn_Node__st j _ (G_syn_Same_ok j))⟩
noncomputable def syn_Same_sem (m : Nat) : PSem R := semOf syn_Same_ac (syn_Same_w (syn_Same m))
theorem syn_Same_ok (m : Nat) : SemOK cxP 15 (syn_Same_sem (R := R) m) := (G_syn_Same_ok m).syn_Same
noncomputable def slices_EqualFunc___publican_syn_Node___publican_syn_Node_publican_syn_Node_publican_syn_Node__sem (m : Nat) : PSem R := semOf slices_EqualFunc___publican_syn_Node___publican_syn_Node_publican_syn_Node_publican_syn_Node__ac (slices_EqualFunc___publican_syn_Node___publican_syn_Node_publican_syn_Node_publican_syn_Node__w (slices_EqualFunc___publican_syn_Node___publican_syn_Node_publican_syn_Node_publican_syn_Node_ m))
theorem slices_EqualFunc___publican_syn_Node___publican_syn_Node_publican_syn_Node_publican_syn_Node__ok (m : Nat) : SemOK cxP 31 (slices_EqualFunc___publican_syn_Node___publican_syn_Node_publican_syn_Node_publican_syn_Node__sem (R := R) m) := (G_syn_Same_ok m).slices_EqualFunc___publican_syn_Node___publican_syn_Node_publican_syn_Node_publican_syn_Node_
noncomputable def publicanref9_parser_take_G (m : Nat) : FuncId → PSem R := tabG [(50, publicanref9_parser_is_sem m)]
noncomputable def publicanref9_parser_take_w (F : T_publicanref9_parser → List UInt8 → (Bool → T_publicanref9_parser → Option R) → Option R) : PSem R := fun vs os κ => match vs, os with | [v0_, v1_], [q0_] => ((rdPtr 0 0 v0_).bind fun u0 => (rdStr v1_).bind fun a1 => (rdCells q0_).bind fun l1 => match l1 with | [c2_0, c2_1, c2_2, c2_3, c2_4] => ((rdSl 5 c2_0).bind fun p0_0 => (rdInt .i64 c2_1).bind fun p0_1 => (rdInt .i64 c2_2).bind fun p0_2 => (rdBool c2_3).bind fun p0_3 => (rdInt .i64 c2_4).bind fun p0_4 => F (T_publicanref9_parser.mk p0_0 p0_1 p0_2 p0_3 p0_4) a1 (fun r w0 => κ (.bool r) [.cells [.sl 5 w0.f_l, .int .i64 w0.f_k, .int .i64 w0.f_bad, .bool w0.f_deep, .int .i64 w0.f_d]])) | _ => none) | _, _ => none
def publicanref9_parser_take_ac : List (Option (Bool × Nat)) := [none, none]
set_option maxRecDepth 100000 in
theorem publicanref9_parser_take_eq (m : Nat) (o0 : T_publicanref9_parser) (a1 : List UInt8) (κ : V → List PObj → Option R) : pFun tb (publicanref9_parser_take_G m) 1 [] [none] Tryz.f45 [.ptr 0 0, .str a1] [.cells [.sl 5 o0.f_l, .int .i64 o0.f_k, .int .i64 o0.f_bad, .bool o0.f_deep, .int .i64 o0.f_d]] κ = publicanref9_parser_take m o0 a1 (fun r w0 => κ (.bool r) [.cells [.sl 5 w0.f_l, .int .i64 w0.f_k, .int .i64 w0.f_bad, .bool w0.f_deep, .int .i64 w0.f_d]]) := by
  delta publicanref9_parser_take_G publicanref9_parser_take publicanref9_parser_is_sem
  generalize publicanref9_parser_is (R := R) m = c0
  refine id ?_
  kernel_rfl
noncomputable def publicanref9_parser_take_sem (m : Nat) : PSem R := semOf publicanref9_parser_take_ac (publicanref9_parser_take_w (publicanref9_parser_take m))
theorem publicanref9_parser_take_ok (m : Nat) : SemOK cxP 45 (publicanref9_parser_take_sem (R := R) m) :=
  have HG : ∀ f, SemOK cxP f (publicanref9_parser_take_G (R := R) m f) := tabG_ok (.cons (publicanref9_parser_is_ok m) .nil)
  semOf_ok (fun_of C HG (L := []) (rc := [none]) (k := 1) (fn_of Tryz.func45) rfl rfl (by kernel_rfl) (by rw [show loopsIn (bodyOf Tryz.f45) = [] from by kernel_rfl]; exact (.nil _)) fun vs os κ r h => by
    unfold publicanref9_parser_take_w at h
    split at h; rotate_left; cases h
    rename_i v0_ v1_ q0_
    replace h := Option.bind_eq_some_iff.1 h; obtain ⟨u0, hh, h⟩ := h; obtain rfl := rdPtr_eq hh; clear hh
    replace h := Option.bind_eq_some_iff.1 h; obtain ⟨a1, hh, h⟩ := h; obtain rfl := rdStr_eq hh; clear hh
    replace h := Option.bind_eq_some_iff.1 h; obtain ⟨l1, hh, h⟩ := h; obtain rfl := rdCells_eq hh; clear hh
    split at h; rotate_left; cases h
    rename_i c2_0 c2_1 c2_2 c2_3 c2_4
    replace h := Option.bind_eq_some_iff.1 h; obtain ⟨p0_0, hh, h⟩ := h; obtain rfl := rdSl_eq hh; clear hh
    replace h := Option.bind_eq_some_iff.1 h; obtain ⟨p0_1, hh, h⟩ := h; obtain rfl := rdInt_eq hh; clear hh
    replace h := Option.bind_eq_some_iff.1 h; obtain ⟨p0_2, hh, h⟩ := h; obtain rfl := rdInt_eq hh; clear hh
    replace h := Option.bind_eq_some_iff.1 h; obtain ⟨p0_3, hh, h⟩ := h; obtain rfl := rdBool_eq hh; clear hh
    replace h := Option.bind_eq_some_iff.1 h; obtain ⟨p0_4, hh, h⟩ := h; obtain rfl := rdInt_eq hh; clear hh
    exact (publicanref9_parser_take_eq m (T_publicanref9_parser.mk p0_0 p0_1 p0_2 p0_3 p0_4) a1 κ).trans h
)
noncomputable def publicanref9_parser_name_G (m : Nat) : FuncId → PSem R := tabG [(53, publicanref9_parser_fail_sem m), (44, publicanref9_parser_w_sem m)]
noncomputable def publicanref9_parser_name_w (F : T_publicanref9_parser → (List UInt8 → T_publicanref9_parser → Option R) → Option R) : PSem R := fun vs os κ => match vs, os with | [v0_], [q0_] => ((rdPtr 0 0 v0_).bind fun u0 => (rdCells q0_).bind fun l1 => match l1 with | [c2_0, c2_1, c2_2, c2_3, c2_4] => ((rdSl 5 c2_0).bind fun p0_0 => (rdInt .i64 c2_1).bind fun p0_1 => (rdInt .i64 c2_2).bind fun p0_2 => (rdBool c2_3).bind fun p0_3 => (rdInt .i64 c2_4).bind fun p0_4 => F (T_publicanref9_parser.mk p0_0 p0_1 p0_2 p0_3 p0_4) (fun r w0 => κ (.str r) [.cells [.sl 5 w0.f_l, .int .i64 w0.f_k, .int .i64 w0.f_bad, .bool w0.f_deep, .int .i64 w0.f_d]])) | _ => none) | _, _ => none
def publicanref9_parser_name_ac : List (Option (Bool × Nat)) := [none]
set_option maxRecDepth 100000 in
theorem publicanref9_parser_name_eq (m : Nat) (o0 : T_publicanref9_parser) (κ : V → List PObj → Option R) : pFun tb (publicanref9_parser_name_G m) 1 [] [none] Tryz.f46 [.ptr 0 0] [.cells [.sl 5 o0.f_l, .int .i64 o0.f_k, .int .i64 o0.f_bad, .bool o0.f_deep, .int .i64 o0.f_d]] κ = publicanref9_parser_name m o0 (fun r w0 => κ (.str r) [.cells [.sl 5 w0.f_l, .int .i64 w0.f_k, .int .i64 w0.f_bad, .bool w0.f_deep, .int .i64 w0.f_d]]) := by
  delta publicanref9_parser_name_G publicanref9_parser_name publicanref9_parser_fail_sem publicanref9_parser_w_sem
  generalize publicanref9_parser_fail (R := R) m = c0
  generalize publicanref9_parser_w (R := R) m = c1
  refine id ?_
  kernel_rfl
noncomputable def publicanref9_parser_name_sem (m : Nat) : PSem R := semOf publicanref9_parser_name_ac (publicanref9_parser_name_w (publicanref9_parser_name m))
theorem publicanref9_parser_name_ok (m : Nat) : SemOK cxP 46 (publicanref9_parser_name_sem (R := R) m) :=
  have HG : ∀ f, SemOK cxP f (publicanref9_parser_name_G (R := R) m f) := tabG_ok (.cons (publicanref9_parser_fail_ok m) (.cons (publicanref9_parser_w_ok m) .nil))
  semOf_ok (fun_of C HG (L := []) (rc := [none]) (k := 1) (fn_of Tryz.func46) rfl rfl (by kernel_rfl) (by rw [show loopsIn (bodyOf Tryz.f46) = [] from by kernel_rfl]; exact (.nil _)) fun vs os κ r h => by
    unfold publicanref9_parser_name_w at h
    split at h; rotate_left; cases h
    rename_i v0_ q0_
    replace h := Option.bind_eq_some_iff.1 h; obtain ⟨u0, hh, h⟩ := h; obtain rfl := rdPtr_eq hh; clear hh
    replace h := Option.bind_eq_some_iff.1 h; obtain ⟨l1, hh, h⟩ := h; obtain rfl := rdCells_eq hh; clear hh
    split at h; rotate_left; cases h
    rename_i c2_0 c2_1 c2_2 c2_3 c2_4
    replace h := Option.bind_eq_some_iff.1 h; obtain ⟨p0_0, hh, h⟩ := h; obtain rfl := rdSl_eq hh; clear hh
    replace h := Option.bind_eq_some_iff.1 h; obtain ⟨p0_1, hh, h⟩ := h; obtain rfl := rdInt_eq hh; clear hh
    replace h := Option.bind_eq_some_iff.1 h; obtain ⟨p0_2, hh, h⟩ := h; obtain rfl := rdInt_eq hh; clear hh
    replace h := Option.bind_eq_some_iff.1 h; obtain ⟨p0_3, hh, h⟩ := h; obtain rfl := rdBool_eq hh; clear hh
    replace h := Option.bind_eq_some_iff.1 h; obtain ⟨p0_4, hh, h⟩ := h; obtain rfl := rdInt_eq hh; clear hh
    exact (publicanref9_parser_name_eq m (T_publicanref9_parser.mk p0_0 p0_1 p0_2 p0_3 p0_4) κ).trans h
)
noncomputable def publicanref9_parser_in_G (m : Nat) : FuncId → PSem R := tabG [(51, publicanref9_parser_limit_sem m)]
noncomputable def publicanref9_parser_in_w (F : T_publicanref9_parser → (Bool → T_publicanref9_parser → Option R) → Option R) : PSem R := fun vs os κ => match vs, os with | [v0_], [q0_] => ((rdPtr 0 0 v0_).bind fun u0 => (rdCells q0_).bind fun l1 => match l1 with | [c2_0, c2_1, c2_2, c2_3, c2_4] => ((rdSl 5 c2_0).bind fun p0_0 => (rdInt .i64 c2_1).bind fun p0_1 => (rdInt .i64 c2_2).bind fun p0_2 => (rdBool c2_3).bind fun p0_3 => (rdInt .i64 c2_4).bind fun p0_4 => F (T_publicanref9_parser.mk p0_0 p0_1 p0_2 p0_3 p0_4) (fun r w0 => κ (.bool r) [.cells [.sl 5 w0.f_l, .int .i64 w0.f_k, .int .i64 w0.f_bad, .bool w0.f_deep, .int .i64 w0.f_d]])) | _ => none) | _, _ => none
def publicanref9_parser_in_ac : List (Option (Bool × Nat)) := [none]
set_option maxRecDepth 100000 in
theorem publicanref9_parser_in_eq (m : Nat) (o0 : T_publicanref9_parser) (κ : V → List PObj → Option R) : pFun tb (publicanref9_parser_in_G m) 1 [] [none] Tryz.f87 [.ptr 0 0] [.cells [.sl 5 o0.f_l, .int .i64 o0.f_k, .int .i64 o0.f_bad, .bool o0.f_deep, .int .i64 o0.f_d]] κ = publicanref9_parser_in m o0 (fun r w0 => κ (.bool r) [.cells [.sl 5 w0.f_l, .int .i64 w0.f_k, .int .i64 w0.f_bad, .bool w0.f_deep, .int .i64 w0.f_d]]) := by
  delta publicanref9_parser_in_G publicanref9_parser_in publicanref9_parser_limit_sem
  generalize publicanref9_parser_limit (R := R) m = c0
  refine id ?_
  kernel_rfl
noncomputable def publicanref9_parser_in_sem (m : Nat) : PSem R := semOf publicanref9_parser_in_ac (publicanref9_parser_in_w (publicanref9_parser_in m))
theorem publicanref9_parser_in_ok (m : Nat) : SemOK cxP 87 (publicanref9_parser_in_sem (R := R) m) :=
  have HG : ∀ f, SemOK cxP f (publicanref9_parser_in_G (R := R) m f) := tabG_ok (.cons (publicanref9_parser_limit_ok m) .nil)
  semOf_ok (fun_of C HG (L := []) (rc := [none]) (k := 1) (fn_of Tryz.func87) rfl rfl (by kernel_rfl) (by rw [show loopsIn (bodyOf Tryz.f87) = [] from by kernel_rfl]; exact (.nil _)) fun vs os κ r h => by
    unfold publicanref9_parser_in_w at h
    split at h; rotate_left; cases h
    rename_i v0_ q0_
    replace h := Option.bind_eq_some_iff.1 h; obtain ⟨u0, hh, h⟩ := h; obtain rfl := rdPtr_eq hh; clear hh
    replace h := Option.bind_eq_some_iff.1 h; obtain ⟨l1, hh, h⟩ := h; obtain rfl := rdCells_eq hh; clear hh
    split at h; rotate_left; cases h
    rename_i c2_0 c2_1 c2_2 c2_3 c2_4
    replace h := Option.bind_eq_some_iff.1 h; obtain ⟨p0_0, hh, h⟩ := h; obtain rfl := rdSl_eq hh; clear hh
    replace h := Option.bind_eq_some_iff.1 h; obtain ⟨p0_1, hh, h⟩ := h; obtain rfl := rdInt_eq hh; clear hh
    replace h := Option.bind_eq_some_iff.1 h; obtain ⟨p0_2, hh, h⟩ := h; obtain rfl := rdInt_eq hh; clear hh
    replace h := Option.bind_eq_some_iff.1 h; obtain ⟨p0_3, hh, h⟩ := h; obtain rfl := rdBool_eq hh; clear hh
    replace h := Option.bind_eq_some_iff.1 h; obtain ⟨p0_4, hh, h⟩ := h; obtain rfl := rdInt_eq hh; clear hh
    exact (publicanref9_parser_in_eq m (T_publicanref9_parser.mk p0_0 p0_1 p0_2 p0_3 p0_4) κ).trans h
)
noncomputable def publicanref9_parser_islit_G (m : Nat) : FuncId → PSem R := tabG [(44, publicanref9_parser_w_sem m), (50, publicanref9_parser_is_sem m)]
noncomputable def publicanref9_parser_islit_w (F : T_publicanref9_parser → (Bool → T_publicanref9_parser → Option R) → Option R) : PSem R := fun vs os κ => match vs, os with | [v0_], [q0_] => ((rdPtr 0 0 v0_).bind fun u0 => (rdCells q0_).bind fun l1 => match l1 with | [c2_0, c2_1, c2_2, c2_3, c2_4] => ((rdSl 5 c2_0).bind fun p0_0 => (rdInt .i64 c2_1).bind fun p0_1 => (rdInt .i64 c2_2).bind fun p0_2 => (rdBool c2_3).bind fun p0_3 => (rdInt .i64 c2_4).bind fun p0_4 => F (T_publicanref9_parser.mk p0_0 p0_1 p0_2 p0_3 p0_4) (fun r w0 => κ (.bool r) [.cells [.sl 5 w0.f_l, .int .i64 w0.f_k, .int .i64 w0.f_bad, .bool w0.f_deep, .int .i64 w0.f_d]])) | _ => none) | _, _ => none
def publicanref9_parser_islit_ac : List (Option (Bool × Nat)) := [none]
set_option maxRecDepth 100000 in
theorem publicanref9_parser_islit_eq (m : Nat) (o0 : T_publicanref9_parser) (κ : V → List PObj → Option R) : pFun tb (publicanref9_parser_islit_G m) 1 [] [none] Tryz.f90 [.ptr 0 0] [.cells [.sl 5 o0.f_l, .int .i64 o0.f_k, .int .i64 o0.f_bad, .bool o0.f_deep, .int .i64 o0.f_d]] κ = publicanref9_parser_islit m o0 (fun r w0 => κ (.bool r) [.cells [.sl 5 w0.f_l, .int .i64 w0.f_k, .int .i64 w0.f_bad, .bool w0.f_deep, .int .i64 w0.f_d]]) := by
  delta publicanref9_parser_islit_G publicanref9_parser_islit publicanref9_parser_w_sem publicanref9_parser_is_sem
  generalize publicanref9_parser_w (R := R) m = c0
  generalize publicanref9_parser_is (R := R) m = c1
  refine id ?_
  kernel_rfl
noncomputable def publicanref9_parser_islit_sem (m : Nat) : PSem R := semOf publicanref9_parser_islit_ac (publicanref9_parser_islit_w (publicanref9_parser_islit m))
theorem publicanref9_parser_islit_ok (m : Nat) : SemOK cxP 90 (publicanref9_parser_islit_sem (R := R) m) :=
  have HG : ∀ f, SemOK cxP f (publicanref9_parser_islit_G (R := R) m f) := tabG_ok (.cons (publicanref9_parser_w_ok m) (.cons (publicanref9_parser_is_ok m) .nil))
  semOf_ok (fun_of C HG (L := []) (rc := [none]) (k := 1) (fn_of Tryz.func90) rfl rfl (by kernel_rfl) (by rw [show loopsIn (bodyOf Tryz.f90) = [] from by kernel_rfl]; exact (.nil _)) fun vs os κ r h => by
    unfold publicanref9_parser_islit_w at h
    split at h; rotate_left; cases h
    rename_i v0_ q0_
    replace h := Option.bind_eq_some_iff.1 h; obtain ⟨u0, hh, h⟩ := h; obtain rfl := rdPtr_eq hh; clear hh
    replace h := Option.bind_eq_some_iff.1 h; obtain ⟨l1, hh, h⟩ := h; obtain rfl := rdCells_eq hh; clear hh
    split at h; rotate_left; cases h
    rename_i c2_0 c2_1 c2_2 c2_3 c2_4
    replace h := Option.bind_eq_some_iff.1 h; obtain ⟨p0_0, hh, h⟩ := h; obtain rfl := rdSl_eq hh; clear hh
    replace h := Option.bind_eq_some_iff.1 h; obtain ⟨p0_1, hh, h⟩ := h; obtain rfl := rdInt_eq hh; clear hh
    replace h := Option.bind_eq_some_iff.1 h; obtain ⟨p0_2, hh, h⟩ := h; obtain rfl := rdInt_eq hh; clear hh
    replace h := Option.bind_eq_some_iff.1 h; obtain ⟨p0_3, hh, h⟩ := h; obtain rfl := rdBool_eq hh; clear hh
    replace h := Option.bind_eq_some_iff.1 h; obtain ⟨p0_4, hh, h⟩ := h; obtain rfl := rdInt_eq hh; clear hh
    exact (publicanref9_parser_islit_eq m (T_publicanref9_parser.mk p0_0 p0_1 p0_2 p0_3 p0_4) κ).trans h
)
noncomputable def publicanref1_Day_G (m : Nat) : FuncId → PSem R := tabG [(133, publicanref1_Days_sem m), (132, publicanref1_Leap_sem m)]
set_option maxRecDepth 100000 in
theorem publicanref1_Day_S1_eq (m : Nat) (ρ : List V → List PObj → Option R) (kx : Nat → List V → List PObj → Option R) (kr : List V → List PObj → Option R) (x0 : Int) (x1 : Int) (x2 : Int) (x3 : Int) (x4 : Int) : pCode tb (publicanref1_Day_G m) 0 Tryz.f115.ntmps (lpC (bodyOf Tryz.f115) 1) [] (fun s => match head 0 [(10, .any), (0, .any), (8, .any), (2, .any), (1, .any)] s with | (vs, os) => ρ vs os) (fun i s => match head 0 [(2, .any), (8, .any)] s with | (vs, os) => kx i vs os) (fun s => match head 0 [] s with | (vs, os) => kr vs os) ⟨mkEnv [(10, .any), (0, .any), (8, .any), (2, .any), (1, .any)] [.int .i64 x0, .int .i64 x1, .int .i64 x2, .int .i64 x3, .int .i64 x4], []⟩ = publicanref1_Day_S1 m (fun x0 x1 x2 x3 x4 => ρ [.int .i64 x0, .int .i64 x1, .int .i64 x2, .int .i64 x3, .int .i64 x4] []) (fun y0 y1 => kx 2 [.int .i64 y0, .int .i64 y1] []) x0 x1 x2 x3 x4 := by
  delta publicanref1_Day_G publicanref1_Day_S1 publicanref1_Days_sem publicanref1_Leap_sem
  generalize publicanref1_Days (R := R) m = c0
  generalize publicanref1_Leap (R := R) m = c1
  refine id ?_
  kernel_rfl
set_option maxHeartbeats 4000000 in
theorem publicanref1_Day_L1_eq (m : Nat) (j : Nat) : ∀ (kx : Nat → List V → List PObj → Option R) (kr : List V → List PObj → Option R) (x0 : Int) (x1 : Int) (x2 : Int) (x3 : Int) (x4 : Int), loopP tb (publicanref1_Day_G m) 0 Tryz.f115.ntmps [(10, .any), (0, .any), (8, .any), (2, .any), (1, .any)] [(2, .any), (8, .any)] [] [] (lpC (bodyOf Tryz.f115) 1) j [.int .i64 x0, .int .i64 x1, .int .i64 x2, .int .i64 x3, .int .i64 x4] [] kx kr = publicanref1_Day_L1 m j x0 x1 x2 x3 x4 (fun y0 y1 => kx 2 [.int .i64 y0, .int .i64 y1] []) := by
  induction j with
  | zero => intros; rfl
  | succ j ih =>
    intro kx kr x0 x1 x2 x3 x4
    refine Eq.trans ?_ (Eq.trans (Eq.trans (publicanref1_Day_S1_eq m (fun vs os => loopP tb (publicanref1_Day_G m) 0 Tryz.f115.ntmps [(10, .any), (0, .any), (8, .any), (2, .any), (1, .any)] [(2, .any), (8, .any)] [] [] (lpC (bodyOf Tryz.f115) 1) j vs os kx kr) kx kr x0 x1 x2 x3 x4) (congrArg (fun ρ => publicanref1_Day_S1 m ρ (fun y0 y1 => kx 2 [.int .i64 y0, .int .i64 y1] []) x0 x1 x2 x3 x4) (funext fun x0 => funext fun x1 => funext fun x2 => funext fun x3 => funext fun x4 => ih kx kr x0 x1 x2 x3 x4))) ?_) <;> kernel_rfl
noncomputable def publicanref1_Day_X1 (m : Nat) : LoopH R := ⟨[(10, .any), (0, .any), (8, .any), (2, .any), (1, .any)], [(2, .any), (8, .any)], [], fun vs os kx kr => match vs, os with | [v0_, v1_, v2_, v3_, v4_], [] => ((rdInt .i64 v0_).bind fun x0 => (rdInt .i64 v1_).bind fun x1 => (rdInt .i64 v2_).bind fun x2 => (rdInt .i64 v3_).bind fun x3 => (rdInt .i64 v4_).bind fun x4 => publicanref1_Day_L1 m m x0 x1 x2 x3 x4 (fun y0 y1 => kx 2 [.int .i64 y0, .int .i64 y1] [])) | _, _ => none⟩
set_option maxHeartbeats 4000000 in
theorem publicanref1_Day_X1_ok {m : Nat} (HG : ∀ f, SemOK cxP f (publicanref1_Day_G (R := R) m f)) : LoopSem cxP Tryz.f115.ntmps 0 (lpC (bodyOf Tryz.f115) 1) (publicanref1_Day_X1 (R := R) m) :=
  loop_of C HG (L := []) (by kernel_rfl) (by rw [show loopsIn (lpC (bodyOf Tryz.f115) 1) = [] from by kernel_rfl]; exact (.nil _)) m fun vs os kx kr r h => by
    try dsimp only at h
    split at h; rotate_left; cases h
    rename_i v0_ v1_ v2_ v3_ v4_
    replace h := Option.bind_eq_some_iff.1 h; obtain ⟨x0, hh, h⟩ := h; obtain rfl := rdInt_eq hh; clear hh
    replace h := Option.bind_eq_some_iff.1 h; obtain ⟨x1, hh, h⟩ := h; obtain rfl := rdInt_eq hh; clear hh
    replace h := Option.bind_eq_some_iff.1 h; obtain ⟨x2, hh, h⟩ := h; obtain rfl := rdInt_eq hh; clear hh
    replace h := Option.bind_eq_some_iff.1 h; obtain ⟨x3, hh, h⟩ := h; obtain rfl := rdInt_eq hh; clear hh
    replace h := Option.bind_eq_some_iff.1 h; obtain ⟨x4, hh, h⟩ := h; obtain rfl := rdInt_eq hh; clear hh
    exact (publicanref1_Day_L1_eq m m kx kr x0 x1 x2 x3 x4).trans h
set_option maxRecDepth 100000 in
theorem publicanref1_Day_S0_eq (m : Nat) (ρ : List V → List PObj → Option R) (kx : Nat → List V → List PObj → Option R) (kr : List V → List PObj → Option R) (x0 : Int) (x1 : Int) (x2 : Int) (x3 : Int) (x4 : Int) : pCode tb (publicanref1_Day_G m) 0 Tryz.f115.ntmps (lpC (bodyOf Tryz.f115) 0) [] (fun s => match head 0 [(9, .any), (8, .any), (0, .any), (2, .any), (1, .any)] s with | (vs, os) => ρ vs os) (fun i s => match head 0 [(0, .any), (8, .any), (2, .any), (1, .any)] s with | (vs, os) => kx i vs os) (fun s => match head 0 [] s with | (vs, os) => kr vs os) ⟨mkEnv [(9, .any), (8, .any), (0, .any), (2, .any), (1, .any)] [.int .i64 x0, .int .i64 x1, .int .i64 x2, .int .i64 x3, .int .i64 x4], []⟩ = publicanref1_Day_S0 m (fun x0 x1 x2 x3 x4 => ρ [.int .i64 x0, .int .i64 x1, .int .i64 x2, .int .i64 x3, .int .i64 x4] []) (fun y0 y1 y2 y3 => kx 0 [.int .i64 y0, .int .i64 y1, .int .i64 y2, .int .i64 y3] []) x0 x1 x2 x3 x4 := by
  delta publicanref1_Day_G publicanref1_Day_S0 publicanref1_Days_sem publicanref1_Leap_sem
  generalize publicanref1_Days (R := R) m = c0
  generalize publicanref1_Leap (R := R) m = c1
  refine id ?_
  kernel_rfl
set_option maxHeartbeats 4000000 in
theorem publicanref1_Day_L0_eq (m : Nat) (j : Nat) : ∀ (kx : Nat → List V → List PObj → Option R) (kr : List V → List PObj → Option R) (x0 : Int) (x1 : Int) (x2 : Int) (x3 : Int) (x4 : Int), loopP tb (publicanref1_Day_G m) 0 Tryz.f115.ntmps [(9, .any), (8, .any), (0, .any), (2, .any), (1, .any)] [(0, .any), (8, .any), (2, .any), (1, .any)] [] [] (lpC (bodyOf Tryz.f115) 0) j [.int .i64 x0, .int .i64 x1, .int .i64 x2, .int .i64 x3, .int .i64 x4] [] kx kr = publicanref1_Day_L0 m j x0 x1 x2 x3 x4 (fun y0 y1 y2 y3 => kx 0 [.int .i64 y0, .int .i64 y1, .int .i64 y2, .int .i64 y3] []) := by
  induction j with
  | zero => intros; rfl
  | succ j ih =>
    intro kx kr x0 x1 x2 x3 x4
    refine Eq.trans ?_ (Eq.trans (Eq.trans (publicanref1_Day_S0_eq m (fun vs os => loopP tb (publicanref1_Day_G m) 0 Tryz.f115.ntmps [(9, .any), (8, .any), (0, .any), (2, .any), (1, .any)] [(0, .any), (8, .any), (2, .any), (1, .any)] [] [] (lpC (bodyOf Tryz.f115) 0) j vs os kx kr) kx kr x0 x1 x2 x3 x4) (congrArg (fun ρ => publicanref1_Day_S0 m ρ (fun y0 y1 y2 y3 => kx 0 [.int .i64 y0, .int .i64 y1, .int .i64 y2, .int .i64 y3] []) x0 x1 x2 x3 x4) (funext fun x0 => funext fun x1 => funext fun x2 => funext fun x3 => funext fun x4 => ih kx kr x0 x1 x2 x3 x4))) ?_) <;> kernel_rfl
noncomputable def publicanref1_Day_X0 (m : Nat) : LoopH R := ⟨[(9, .any), (8, .any), (0, .any), (2, .any), (1, .any)], [(0, .any), (8, .any), (2, .any), (1, .any)], [], fun vs os kx kr => match vs, os with | [v0_, v1_, v2_, v3_, v4_], [] => ((rdInt .i64 v0_).bind fun x0 => (rdInt .i64 v1_).bind fun x1 => (rdInt .i64 v2_).bind fun x2 => (rdInt .i64 v3_).bind fun x3 => (rdInt .i64 v4_).bind fun x4 => publicanref1_Day_L0 m m x0 x1 x2 x3 x4 (fun y0 y1 y2 y3 => kx 0 [.int .i64 y0, .int .i64 y1, .int .i64 y2, .int .i64 y3] [])) | _, _ => none⟩
set_option maxHeartbeats 4000000 in
theorem publicanref1_Day_X0_ok {m : Nat} (HG : ∀ f, SemOK cxP f (publicanref1_Day_G (R := R) m f)) : LoopSem cxP Tryz.f115.ntmps 0 (lpC (bodyOf Tryz.f115) 0) (publicanref1_Day_X0 (R := R) m) :=
  loop_of C HG (L := []) (by kernel_rfl) (by rw [show loopsIn (lpC (bodyOf Tryz.f115) 0) = [] from by kernel_rfl]; exact (.nil _)) m fun vs os kx kr r h => by
    try dsimp only at h
    split at h; rotate_left; cases h
    rename_i v0_ v1_ v2_ v3_ v4_
    replace h := Option.bind_eq_some_iff.1 h; obtain ⟨x0, hh, h⟩ := h; obtain rfl := rdInt_eq hh; clear hh
    replace h := Option.bind_eq_some_iff.1 h; obtain ⟨x1, hh, h⟩ := h; obtain rfl := rdInt_eq hh; clear hh
    replace h := Option.bind_eq_some_iff.1 h; obtain ⟨x2, hh, h⟩ := h; obtain rfl := rdInt_eq hh; clear hh
    replace h := Option.bind_eq_some_iff.1 h; obtain ⟨x3, hh, h⟩ := h; obtain rfl := rdInt_eq hh; clear hh
    replace h := Option.bind_eq_some_iff.1 h; obtain ⟨x4, hh, h⟩ := h; obtain rfl := rdInt_eq hh; clear hh
    exact (publicanref1_Day_L0_eq m m kx kr x0 x1 x2 x3 x4).trans h
noncomputable def publicanref1_Day_w (F : Int → Int → Int → (Int → Bool → Option R) → Option R) : PSem R := fun vs os κ => match vs, os with | [v0_, v1_, v2_], [] => ((rdInt .i64 v0_).bind fun a0 => (rdInt .i64 v1_).bind fun a1 => (rdInt .i64 v2_).bind fun a2 => F a0 a1 a2 (fun r_0 r_1 => κ (.tup [.int .i64 r_0, .bool r_1]) [])) | _, _ => none
def publicanref1_Day_ac : List (Option (Bool × Nat)) := [none, none, none]
set_option maxRecDepth 100000 in
theorem publicanref1_Day_eq (m : Nat) (a0 : Int) (a1 : Int) (a2 : Int) (κ : V → List PObj → Option R) : pFun tb (publicanref1_Day_G m) 0 [publicanref1_Day_X0 m, publicanref1_Day_X1 m] [none, none] Tryz.f115 [.int .i64 a0, .int .i64 a1, .int .i64 a2] [] κ = publicanref1_Day m a0 a1 a2 (fun r_0 r_1 => κ (.tup [.int .i64 r_0, .bool r_1]) []) := by
  delta publicanref1_Day_G publicanref1_Day publicanref1_Days_sem publicanref1_Leap_sem publicanref1_Day_X0 publicanref1_Day_X1
  generalize publicanref1_Days (R := R) m = c0
  generalize publicanref1_Leap (R := R) m = c1
  generalize publicanref1_Day_L0 (R := R) m = c2
  generalize publicanref1_Day_L1 (R := R) m = c3
  refine id ?_
  kernel_rfl
noncomputable def publicanref1_Day_sem (m : Nat) : PSem R := semOf publicanref1_Day_ac (publicanref1_Day_w (publicanref1_Day m))
theorem publicanref1_Day_ok (m : Nat) : SemOK cxP 115 (publicanref1_Day_sem (R := R) m) :=
  have HG : ∀ f, SemOK cxP f (publicanref1_Day_G (R := R) m f) := tabG_ok (.cons (publicanref1_Days_ok m) (.cons (publicanref1_Leap_ok m) .nil))
  semOf_ok (fun_of C HG (L := [publicanref1_Day_X0 m, publicanref1_Day_X1 m]) (rc := [none, none]) (k := 0) (fn_of Tryz.func115) rfl rfl (by kernel_rfl) (by rw [show loopsIn (bodyOf Tryz.f115) = [(lpC (bodyOf Tryz.f115) 0), (lpC (bodyOf Tryz.f115) 1)] from by kernel_rfl]; exact (.cons (publicanref1_Day_X0_ok HG) (.cons (publicanref1_Day_X1_ok HG) (.nil _)))) fun vs os κ r h => by
    unfold publicanref1_Day_w at h
    split at h; rotate_left; cases h
    rename_i v0_ v1_ v2_
    replace h := Option.bind_eq_some_iff.1 h; obtain ⟨a0, hh, h⟩ := h; obtain rfl := rdInt_eq hh; clear hh
    replace h := Option.bind_eq_some_iff.1 h; obtain ⟨a1, hh, h⟩ := h; obtain rfl := rdInt_eq hh; clear hh
    replace h := Option.bind_eq_some_iff.1 h; obtain ⟨a2, hh, h⟩ := h; obtain rfl := rdInt_eq hh; clear hh
    exact (publicanref1_Day_eq m a0 a1 a2 κ).trans h
)
noncomputable def publicanref9_parser_kind_G (m : Nat) : FuncId → PSem R := tabG [(44, publicanref9_parser_w_sem m), (86, publicanref9_Kind_sem m), (53, publicanref9_parser_fail_sem m)]
noncomputable def publicanref9_parser_kind_w (F : T_publicanref9_parser → (Int → T_publicanref9_parser → Option R) → Option R) : PSem R := fun vs os κ => match vs, os with | [v0_], [q0_] => ((rdPtr 0 0 v0_).bind fun u0 => (rdCells q0_).bind fun l1 => match l1 with | [c2_0, c2_1, c2_2, c2_3, c2_4] => ((rdSl 5 c2_0).bind fun p0_0 => (rdInt .i64 c2_1).bind fun p0_1 => (rdInt .i64 c2_2).bind fun p0_2 => (rdBool c2_3).bind fun p0_3 => (rdInt .i64 c2_4).bind fun p0_4 => F (T_publicanref9_parser.mk p0_0 p0_1 p0_2 p0_3 p0_4) (fun r w0 => κ (.int .i64 r) [.cells [.sl 5 w0.f_l, .int .i64 w0.f_k, .int .i64 w0.f_bad, .bool w0.f_deep, .int .i64 w0.f_d]])) | _ => none) | _, _ => none
def publicanref9_parser_kind_ac : List (Option (Bool × Nat)) := [none]
set_option maxRecDepth 100000 in
theorem publicanref9_parser_kind_eq (m : Nat) (o0 : T_publicanref9_parser) (κ : V → List PObj → Option R) : pFun tb (publicanref9_parser_kind_G m) 1 [] [none] Tryz.f47 [.ptr 0 0] [.cells [.sl 5 o0.f_l, .int .i64 o0.f_k, .int .i64 o0.f_bad, .bool o0.f_deep, .int .i64 o0.f_d]] κ = publicanref9_parser_kind m o0 (fun r w0 => κ (.int .i64 r) [.cells [.sl 5 w0.f_l, .int .i64 w0.f_k, .int .i64 w0.f_bad, .bool w0.f_deep, .int .i64 w0.f_d]]) := by
  delta publicanref9_parser_kind_G publicanref9_parser_kind publicanref9_parser_w_sem publicanref9_Kind_sem publicanref9_parser_fail_sem
  generalize publicanref9_parser_w (R := R) m = c0
  generalize publicanref9_Kind (R := R) m = c1
  generalize publicanref9_parser_fail (R := R) m = c2
  refine id ?_
  kernel_rfl
noncomputable def publicanref9_parser_kind_sem (m : Nat) : PSem R := semOf publicanref9_parser_kind_ac (publicanref9_parser_kind_w (publicanref9_parser_kind m))
theorem publicanref9_parser_kind_ok (m : Nat) : SemOK cxP 47 (publicanref9_parser_kind_sem (R := R) m) :=
  have HG : ∀ f, SemOK cxP f (publicanref9_parser_kind_G (R := R) m f) := tabG_ok (.cons (publicanref9_parser_w_ok m) (.cons (publicanref9_Kind_ok m) (.cons (publicanref9_parser_fail_ok m) .nil)))
  semOf_ok (fun_of C HG (L := []) (rc := [none]) (k := 1) (fn_of Tryz.func47) rfl rfl (by kernel_rfl) (by rw [show loopsIn (bodyOf Tryz.f47) = [] from by kernel_rfl]; exact (.nil _)) fun vs os κ r h => by
    unfold publicanref9_parser_kind_w at h
    split at h; rotate_left; cases h
    rename_i v0_ q0_
    replace h := Option.bind_eq_some_iff.1 h; obtain ⟨u0, hh, h⟩ := h; obtain rfl := rdPtr_eq hh; clear hh
    replace h := Option.bind_eq_some_iff.1 h; obtain ⟨l1, hh, h⟩ := h; obtain rfl := rdCells_eq hh; clear hh
    split at h; rotate_left; cases h
    rename_i c2_0 c2_1 c2_2 c2_3 c2_4
    replace h := Option.bind_eq_some_iff.1 h; obtain ⟨p0_0, hh, h⟩ := h; obtain rfl := rdSl_eq hh; clear hh
    replace h := Option.bind_eq_some_iff.1 h; obtain ⟨p0_1, hh, h⟩ := h; obtain rfl := rdInt_eq hh; clear hh
    replace h := Option.bind_eq_some_iff.1 h; obtain ⟨p0_2, hh, h⟩ := h; obtain rfl := rdInt_eq hh; clear hh
    replace h := Option.bind_eq_some_iff.1 h; obtain ⟨p0_3, hh, h⟩ := h; obtain rfl := rdBool_eq hh; clear hh
    replace h := Option.bind_eq_some_iff.1 h; obtain ⟨p0_4, hh, h⟩ := h; obtain rfl := rdInt_eq hh; clear hh
    exact (publicanref9_parser_kind_eq m (T_publicanref9_parser.mk p0_0 p0_1 p0_2 p0_3 p0_4) κ).trans h
)
noncomputable def publicanref1_ReadDay_G (m : Nat) : FuncId → PSem R := tabG [(115, publicanref1_Day_sem m)]
set_option maxRecDepth 100000 in
theorem publicanref1_ReadDay_S0_eq (m : Nat) (ρ : List V → List PObj → Option R) (kx : Nat → List V → List PObj → Option R) (kr : List V → List PObj → Option R) (x0 : Int) (x1 : List UInt8) (x2 : List Int) : pCode tb (publicanref1_ReadDay_G m) 0 Tryz.f83.ntmps (lpC (bodyOf Tryz.f83) 0) [] (fun s => match head 0 [(5, .any), (0, .any), (4, .any)] s with | (vs, os) => ρ vs os) (fun i s => match head 0 [(4, .any)] s with | (vs, os) => kx i vs os) (fun s => match head 0 [(2, .any), (3, .any)] s with | (vs, os) => kr vs os) ⟨mkEnv [(5, .any), (0, .any), (4, .any)] [.int .i64 x0, .str x1, .loc 0], [.arr 0 x2]⟩ = publicanref1_ReadDay_S0 m (fun x0 x1 x2 => ρ [.int .i64 x0, .str x1, .loc 0] [.arr 0 x2]) (fun y0 => kx 0 [.loc 0] [.arr 0 y0]) (fun z0 z1 => kr [.int .i64 z0, .bool z1] []) x0 x1 x2 := by
  delta publicanref1_ReadDay_G publicanref1_ReadDay_S0 publicanref1_Day_sem
  generalize publicanref1_Day (R := R) m = c0
  refine id ?_
  kernel_rfl
set_option maxHeartbeats 4000000 in
theorem publicanref1_ReadDay_L0_eq (m : Nat) (j : Nat) : ∀ (kx : Nat → List V → List PObj → Option R) (kr : List V → List PObj → Option R) (x0 : Int) (x1 : List UInt8) (x2 : List Int), loopP tb (publicanref1_ReadDay_G m) 0 Tryz.f83.ntmps [(5, .any), (0, .any), (4, .any)] [(4, .any)] [(2, .any), (3, .any)] [] (lpC (bodyOf Tryz.f83) 0) j [.int .i64 x0, .str x1, .loc 0] [.arr 0 x2] kx kr = publicanref1_ReadDay_L0 m j x0 x1 x2 (fun y0 => kx 0 [.loc 0] [.arr 0 y0]) (fun z0 z1 => kr [.int .i64 z0, .bool z1] []) := by
  induction j with
  | zero => intros; rfl
  | succ j ih =>
    intro kx kr x0 x1 x2
    refine Eq.trans ?_ (Eq.trans (Eq.trans (publicanref1_ReadDay_S0_eq m (fun vs os => loopP tb (publicanref1_ReadDay_G m) 0 Tryz.f83.ntmps [(5, .any), (0, .any), (4, .any)] [(4, .any)] [(2, .any), (3, .any)] [] (lpC (bodyOf Tryz.f83) 0) j vs os kx kr) kx kr x0 x1 x2) (congrArg (fun ρ => publicanref1_ReadDay_S0 m ρ (fun y0 => kx 0 [.loc 0] [.arr 0 y0]) (fun z0 z1 => kr [.int .i64 z0, .bool z1] []) x0 x1 x2) (funext fun x0 => funext fun x1 => funext fun x2 => ih kx kr x0 x1 x2))) ?_) <;> kernel_rfl
noncomputable def publicanref1_ReadDay_X0 (m : Nat) : LoopH R := ⟨[(5, .any), (0, .any), (4, .any)], [(4, .any)], [(2, .any), (3, .any)], fun vs os kx kr => match vs, os with | [v0_, v1_, v2_], [q0_] => ((rdInt .i64 v0_).bind fun x0 => (rdStr v1_).bind fun x1 => (rdLoc 0 v2_).bind fun u0 => (rdArr 0 q0_).bind fun x2 => publicanref1_ReadDay_L0 m m x0 x1 x2 (fun y0 => kx 0 [.loc 0] [.arr 0 y0]) (fun z0 z1 => kr [.int .i64 z0, .bool z1] [])) | _, _ => none⟩
set_option maxHeartbeats 4000000 in
theorem publicanref1_ReadDay_X0_ok {m : Nat} (HG : ∀ f, SemOK cxP f (publicanref1_ReadDay_G (R := R) m f)) : LoopSem cxP Tryz.f83.ntmps 0 (lpC (bodyOf Tryz.f83) 0) (publicanref1_ReadDay_X0 (R := R) m) :=
  loop_of C HG (L := []) (by kernel_rfl) (by rw [show loopsIn (lpC (bodyOf Tryz.f83) 0) = [] from by kernel_rfl]; exact (.nil _)) m fun vs os kx kr r h => by
    try dsimp only at h
    split at h; rotate_left; cases h
    rename_i v0_ v1_ v2_ q0_
    replace h := Option.bind_eq_some_iff.1 h; obtain ⟨x0, hh, h⟩ := h; obtain rfl := rdInt_eq hh; clear hh
    replace h := Option.bind_eq_some_iff.1 h; obtain ⟨x1, hh, h⟩ := h; obtain rfl := rdStr_eq hh; clear hh
    replace h := Option.bind_eq_some_iff.1 h; obtain ⟨u0, hh, h⟩ := h; obtain rfl := rdLoc_eq hh; clear hh
    replace h := Option.bind_eq_some_iff.1 h; obtain ⟨x2, hh, h⟩ := h; obtain rfl := rdArr_eq hh; clear hh
    exact (publicanref1_ReadDay_L0_eq m m kx kr x0 x1 x2).trans h
noncomputable def publicanref1_ReadDay_w (F : List UInt8 → (Int → Bool → Option R) → Option R) : PSem R := fun vs os κ => match vs, os with | [v0_], [] => ((rdStr v0_).bind fun a0 => F a0 (fun r_0 r_1 => κ (.tup [.int .i64 r_0, .bool r_1]) [])) | _, _ => none
def publicanref1_ReadDay_ac : List (Option (Bool × Nat)) := [none]
set_option maxRecDepth 100000 in
theorem publicanref1_ReadDay_eq (m : Nat) (a0 : List UInt8) (κ : V → List PObj → Option R) : pFun tb (publicanref1_ReadDay_G m) 0 [publicanref1_ReadDay_X0 m] [none, none] Tryz.f83 [.str a0] [] κ = publicanref1_ReadDay m a0 (fun r_0 r_1 => κ (.tup [.int .i64 r_0, .bool r_1]) []) := by
  delta publicanref1_ReadDay_G publicanref1_ReadDay publicanref1_Day_sem publicanref1_ReadDay_X0
  generalize publicanref1_Day (R := R) m = c0
  generalize publicanref1_ReadDay_L0 (R := R) m = c1
  refine id ?_
  kernel_rfl
noncomputable def publicanref1_ReadDay_sem (m : Nat) : PSem R := semOf publicanref1_ReadDay_ac (publicanref1_ReadDay_w (publicanref1_ReadDay m))
theorem publicanref1_ReadDay_ok (m : Nat) : SemOK cxP 83 (publicanref1_ReadDay_sem (R := R) m) :=
  have HG : ∀ f, SemOK cxP f (publicanref1_ReadDay_G (R := R) m f) := tabG_ok (.cons (publicanref1_Day_ok m) .nil)
  semOf_ok (fun_of C HG (L := [publicanref1_ReadDay_X0 m]) (rc := [none, none]) (k := 0) (fn_of Tryz.func83) rfl rfl (by kernel_rfl) (by rw [show loopsIn (bodyOf Tryz.f83) = [(lpC (bodyOf Tryz.f83) 0)] from by kernel_rfl]; exact (.cons (publicanref1_ReadDay_X0_ok HG) (.nil _))) fun vs os κ r h => by
    unfold publicanref1_ReadDay_w at h
    split at h; rotate_left; cases h
    rename_i v0_
    replace h := Option.bind_eq_some_iff.1 h; obtain ⟨a0, hh, h⟩ := h; obtain rfl := rdStr_eq hh; clear hh
    exact (publicanref1_ReadDay_eq m a0 κ).trans h
)
end Go.Pm
namespace Go.Pm
open Go Go.EvM Go.Pv Go.Proofs
set_option linter.unusedVariables false
set_option linter.unusedSectionVars false
variable {R : Type}
noncomputable def publicanref9_parser_want_G (m : Nat) : FuncId → PSem R := tabG [(45, publicanref9_parser_take_sem m), (53, publicanref9_parser_fail_sem m)]
noncomputable def publicanref9_parser_want_w (F : T_publicanref9_parser → List UInt8 → (T_publicanref9_parser → Option R) → Option R) : PSem R := fun vs os κ => match vs, os with | [v0_, v1_], [q0_] => ((rdPtr 0 0 v0_).bind fun u0 => (rdStr v1_).bind fun a1 => (rdCells q0_).bind fun l1 => match l1 with | [c2_0, c2_1, c2_2, c2_3, c2_4] => ((rdSl 5 c2_0).bind fun p0_0 => (rdInt .i64 c2_1).bind fun p0_1 => (rdInt .i64 c2_2).bind fun p0_2 => (rdBool c2_3).bind fun p0_3 => (rdInt .i64 c2_4).bind fun p0_4 => F (T_publicanref9_parser.mk p0_0 p0_1 p0_2 p0_3 p0_4) a1 (fun w0 => κ (.tup []) [.cells [.sl 5 w0.f_l, .int .i64 w0.f_k, .int .i64 w0.f_bad, .bool w0.f_deep, .int .i64 w0.f_d]])) | _ => none) | _, _ => none
def publicanref9_parser_want_ac : List (Option (Bool × Nat)) := [none, none]
set_option maxRecDepth 100000 in
theorem publicanref9_parser_want_eq (m : Nat) (o0 : T_publicanref9_parser) (a1 : List UInt8) (κ : V → List PObj → Option R) : pFun tb (publicanref9_parser_want_G m) 1 [] [] Tryz.f48 [.ptr 0 0, .str a1] [.cells [.sl 5 o0.f_l, .int .i64 o0.f_k, .int .i64 o0.f_bad, .bool o0.f_deep, .int .i64 o0.f_d]] κ = publicanref9_parser_want m o0 a1 (fun w0 => κ (.tup []) [.cells [.sl 5 w0.f_l, .int .i64 w0.f_k, .int .i64 w0.f_bad, .bool w0.f_deep, .int .i64 w0.f_d]]) := by
  delta publicanref9_parser_want_G publicanref9_parser_want publicanref9_parser_take_sem publicanref9_parser_fail_sem
  generalize publicanref9_parser_take (R := R) m = c0
  generalize publicanref9_parser_fail (R := R) m = c1
  refine id ?_
  kernel_rfl
noncomputable def publicanref9_parser_want_sem (m : Nat) : PSem R := semOf publicanref9_parser_want_ac (publicanref9_parser_want_w (publicanref9_parser_want m))
theorem publicanref9_parser_want_ok (m : Nat) : SemOK cxP 48 (publicanref9_parser_want_sem (R := R) m) :=
  have HG : ∀ f, SemOK cxP f (publicanref9_parser_want_G (R := R) m f) := tabG_ok (.cons (publicanref9_parser_take_ok m) (.cons (publicanref9_parser_fail_ok m) .nil))
  semOf_ok (fun_of C HG (L := []) (rc := []) (k := 1) (fn_of Tryz.func48) rfl rfl (by kernel_rfl) (by rw [show loopsIn (bodyOf Tryz.f48) = [] from by kernel_rfl]; exact (.nil _)) fun vs os κ r h => by
    unfold publicanref9_parser_want_w at h
    split at h; rotate_left; cases h
    rename_i v0_ v1_ q0_
    replace h := Option.bind_eq_some_iff.1 h; obtain ⟨u0, hh, h⟩ := h; obtain rfl := rdPtr_eq hh; clear hh
    replace h := Option.bind_eq_some_iff.1 h; obtain ⟨a1, hh, h⟩ := h; obtain rfl := rdStr_eq hh; clear hh
    replace h := Option.bind_eq_some_iff.1 h; obtain ⟨l1, hh, h⟩ := h; obtain rfl := rdCells_eq hh; clear hh
    split at h; rotate_left; cases h
    rename_i c2_0 c2_1 c2_2 c2_3 c2_4
    replace h := Option.bind_eq_some_iff.1 h; obtain ⟨p0_0, hh, h⟩ := h; obtain rfl := rdSl_eq hh; clear hh
    replace h := Option.bind_eq_some_iff.1 h; obtain ⟨p0_1, hh, h⟩ := h; obtain rfl := rdInt_eq hh; clear hh
    replace h := Option.bind_eq_some_iff.1 h; obtain ⟨p0_2, hh, h⟩ := h; obtain rfl := rdInt_eq hh; clear hh
    replace h := Option.bind_eq_some_iff.1 h; obtain ⟨p0_3, hh, h⟩ := h; obtain rfl := rdBool_eq hh; clear hh
    replace h := Option.bind_eq_some_iff.1 h; obtain ⟨p0_4, hh, h⟩ := h; obtain rfl := rdInt_eq hh; clear hh
    exact (publicanref9_parser_want_eq m (T_publicanref9_parser.mk p0_0 p0_1 p0_2 p0_3 p0_4) a1 κ).trans h
)
noncomputable def publicanref9_parser_lit_G (m : Nat) : FuncId → PSem R := tabG [(90, publicanref9_parser_islit_sem m), (53, publicanref9_parser_fail_sem m), (44, publicanref9_parser_w_sem m)]
noncomputable def publicanref9_parser_lit_w (F : T_publicanref9_parser → (T_publicanref9_Node → T_publicanref9_parser → Option R) → Option R) : PSem R := fun vs os κ => match vs, os with | [v0_], [q0_] => ((rdPtr 0 0 v0_).bind fun u0 => (rdCells q0_).bind fun l1 => match l1 with | [c2_0, c2_1, c2_2, c2_3, c2_4] => ((rdSl 5 c2_0).bind fun p0_0 => (rdInt .i64 c2_1).bind fun p0_1 => (rdInt .i64 c2_2).bind fun p0_2 => (rdBool c2_3).bind fun p0_3 => (rdInt .i64 c2_4).bind fun p0_4 => F (T_publicanref9_parser.mk p0_0 p0_1 p0_2 p0_3 p0_4) (fun r w0 => κ (.st 6 r) [.cells [.sl 5 w0.f_l, .int .i64 w0.f_k, .int .i64 w0.f_bad, .bool w0.f_deep, .int .i64 w0.f_d]])) | _ => none) | _, _ => none
def publicanref9_parser_lit_ac : List (Option (Bool × Nat)) := [none]
set_option maxRecDepth 100000 in
theorem publicanref9_parser_lit_eq (m : Nat) (o0 : T_publicanref9_parser) (κ : V → List PObj → Option R) : pFun tb (publicanref9_parser_lit_G m) 1 [] [some (false, 6)] Tryz.f52 [.ptr 0 0] [.cells [.sl 5 o0.f_l, .int .i64 o0.f_k, .int .i64 o0.f_bad, .bool o0.f_deep, .int .i64 o0.f_d]] κ = publicanref9_parser_lit m o0 (fun r w0 => κ (.st 6 r) [.cells [.sl 5 w0.f_l, .int .i64 w0.f_k, .int .i64 w0.f_bad, .bool w0.f_deep, .int .i64 w0.f_d]]) := by
  delta publicanref9_parser_lit_G publicanref9_parser_lit publicanref9_parser_islit_sem publicanref9_parser_fail_sem publicanref9_parser_w_sem
  generalize publicanref9_parser_islit (R := R) m = c0
  generalize publicanref9_parser_fail (R := R) m = c1
  generalize publicanref9_parser_w (R := R) m = c2
  refine id ?_
  kernel_rfl
noncomputable def publicanref9_parser_lit_sem (m : Nat) : PSem R := semOf publicanref9_parser_lit_ac (publicanref9_parser_lit_w (publicanref9_parser_lit m))
theorem publicanref9_parser_lit_ok (m : Nat) : SemOK cxP 52 (publicanref9_parser_lit_sem (R := R) m) :=
  have HG : ∀ f, SemOK cxP f (publicanref9_parser_lit_G (R := R) m f) := tabG_ok (.cons (publicanref9_parser_islit_ok m) (.cons (publicanref9_parser_fail_ok m) (.cons (publicanref9_parser_w_ok m) .nil)))
  semOf_ok (fun_of C HG (L := []) (rc := [some (false, 6)]) (k := 1) (fn_of Tryz.func52) rfl rfl (by kernel_rfl) (by rw [show loopsIn (bodyOf Tryz.f52) = [] from by kernel_rfl]; exact (.nil _)) fun vs os κ r h => by
    unfold publicanref9_parser_lit_w at h
    split at h; rotate_left; cases h
    rename_i v0_ q0_
    replace h := Option.bind_eq_some_iff.1 h; obtain ⟨u0, hh, h⟩ := h; obtain rfl := rdPtr_eq hh; clear hh
    replace h := Option.bind_eq_some_iff.1 h; obtain ⟨l1, hh, h⟩ := h; obtain rfl := rdCells_eq hh; clear hh
    split at h; rotate_left; cases h
    rename_i c2_0 c2_1 c2_2 c2_3 c2_4
    replace h := Option.bind_eq_some_iff.1 h; obtain ⟨p0_0, hh, h⟩ := h; obtain rfl := rdSl_eq hh; clear hh
    replace h := Option.bind_eq_some_iff.1 h; obtain ⟨p0_1, hh, h⟩ := h; obtain rfl := rdInt_eq hh; clear hh
    replace h := Option.bind_eq_some_iff.1 h; obtain ⟨p0_2, hh, h⟩ := h; obtain rfl := rdInt_eq hh; clear hh
    replace h := Option.bind_eq_some_iff.1 h; obtain ⟨p0_3, hh, h⟩ := h; obtain rfl := rdBool_eq hh; clear hh
    replace h := Option.bind_eq_some_iff.1 h; obtain ⟨p0_4, hh, h⟩ := h; obtain rfl := rdInt_eq hh; clear hh
    exact (publicanref9_parser_lit_eq m (T_publicanref9_parser.mk p0_0 p0_1 p0_2 p0_3 p0_4) κ).trans h
)
noncomputable def publicanref9_digits_G (m : Nat) : FuncId → PSem R := tabG [(83, publicanref1_ReadDay_sem m), (41, publicanref9_run_sem m), (84, publicanref9_percent_sem m), (85, publicanref9_number_sem m), (38, publicanref9_digit_sem m)]
noncomputable def publicanref9_digits_w (F : List UInt8 → Int → (T_publicanref9_Word → Int → Option R) → Option R) : PSem R := fun vs os κ => match vs, os with | [v0_, v1_], [] => ((rdStr v0_).bind fun a0 => (rdInt .i64 v1_).bind fun a1 => F a0 a1 (fun r_0 r_1 => κ (.tup [.st 5 r_0, .int .i64 r_1]) [])) | _, _ => none
def publicanref9_digits_ac : List (Option (Bool × Nat)) := [none, none]
set_option maxRecDepth 100000 in
theorem publicanref9_digits_eq (m : Nat) (a0 : List UInt8) (a1 : Int) (κ : V → List PObj → Option R) : pFun tb (publicanref9_digits_G m) 0 [] [some (false, 5), none] Tryz.f40 [.str a0, .int .i64 a1] [] κ = publicanref9_digits m a0 a1 (fun r_0 r_1 => κ (.tup [.st 5 r_0, .int .i64 r_1]) []) := by
  delta publicanref9_digits_G publicanref9_digits publicanref1_ReadDay_sem publicanref9_run_sem publicanref9_percent_sem publicanref9_number_sem publicanref9_digit_sem
  generalize publicanref1_ReadDay (R := R) m = c0
  generalize publicanref9_run (R := R) m = c1
  generalize publicanref9_percent (R := R) m = c2
  generalize publicanref9_number (R := R) m = c3
  generalize publicanref9_digit (R := R) m = c4
  refine id ?_
  kernel_rfl
noncomputable def publicanref9_digits_sem (m : Nat) : PSem R := semOf publicanref9_digits_ac (publicanref9_digits_w (publicanref9_digits m))
theorem publicanref9_digits_ok (m : Nat) : SemOK cxP 40 (publicanref9_digits_sem (R := R) m) :=
  have HG : ∀ f, SemOK cxP f (publicanref9_digits_G (R := R) m f) := tabG_ok (.cons (publicanref1_ReadDay_ok m) (.cons (publicanref9_run_ok m) (.cons (publicanref9_percent_ok m) (.cons (publicanref9_number_ok m) (.cons (publicanref9_digit_ok m) .nil)))))
  semOf_ok (fun_of C HG (L := []) (rc := [some (false, 5), none]) (k := 0) (fn_of Tryz.func40) rfl rfl (by kernel_rfl) (by rw [show loopsIn (bodyOf Tryz.f40) = [] from by kernel_rfl]; exact (.nil _)) fun vs os κ r h => by
    unfold publicanref9_digits_w at h
    split at h; rotate_left; cases h
    rename_i v0_ v1_
    replace h := Option.bind_eq_some_iff.1 h; obtain ⟨a0, hh, h⟩ := h; obtain rfl := rdStr_eq hh; clear hh
    replace h := Option.bind_eq_some_iff.1 h; obtain ⟨a1, hh, h⟩ := h; obtain rfl := rdInt_eq hh; clear hh
    exact (publicanref9_digits_eq m a0 a1 κ).trans h
)
noncomputable def publicanref9_Cut_G (m : Nat) : FuncId → PSem R := tabG [(37, publicanref9_letter_sem m), (38, publicanref9_digit_sem m), (39, publicanref9_Kept_sem m), (40, publicanref9_digits_sem m), (41, publicanref9_run_sem m), (42, publicanref9_money_sem m), (43, publicanref9_sign_sem m)]
set_option maxRecDepth 100000 in
theorem publicanref9_Cut_S0_1_eq (m : Nat) (ρ : List V → List PObj → Option R) (kx : Nat → List V → List PObj → Option R) (kr : List V → List PObj → Option R) (x0 : Int) (x1 : Int) (x2 : List UInt8) (x3 : Int) (x4 : List UInt8) (x5 : Int) (x6 : Int) (x7 : List T_publicanref9_Word) : pCode tb (publicanref9_Cut_G m) 0 Tryz.f19.ntmps (lpC (lpC (bodyOf Tryz.f19) 0) 1) [] (fun s => match head 0 [(8, .any), (5, .any), (0, .any), (7, .any), (4, .any)] s with | (vs, os) => ρ vs os) (fun i s => match head 0 [(5, .any), (0, .any), (7, .any), (4, .any), (8, .any)] s with | (vs, os) => kx i vs os) (fun s => match head 0 [] s with | (vs, os) => kr vs os) ⟨mkEnv [(8, .any), (5, .any), (0, .any), (7, .any), (4, .any)] [.int .i64 x0, .int .i64 x1, .str x2, .ptr 0 0, .loc 1], [.cells [.int .i64 x3, .str x4, .int .i64 x5, .int .i64 x6], .arr 5 x7]⟩ = publicanref9_Cut_S0_1 m (fun x0 x1 x2 x3 x4 x5 x6 x7 => ρ [.int .i64 x0, .int .i64 x1, .str x2, .ptr 0 0, .loc 1] [.cells [.int .i64 x3, .str x4, .int .i64 x5, .int .i64 x6], .arr 5 x7]) (fun y0 y1 y2 y3 y4 y5 y6 y7 => kx 5 [.int .i64 y0, .str y1, .ptr 0 0, .loc 1, .int .i64 y2] [.cells [.int .i64 y3, .str y4, .int .i64 y5, .int .i64 y6], .arr 5 y7]) x0 x1 x2 x3 x4 x5 x6 x7 := by
  delta publicanref9_Cut_G publicanref9_Cut_S0_1 publicanref9_letter_sem publicanref9_digit_sem publicanref9_Kept_sem publicanref9_digits_sem publicanref9_run_sem publicanref9_money_sem publicanref9_sign_sem
  generalize publicanref9_letter (R := R) m = c0
  generalize publicanref9_digit (R := R) m = c1
  generalize publicanref9_Kept (R := R) m = c2
  generalize publicanref9_digits (R := R) m = c3
  generalize publicanref9_run (R := R) m = c4
  generalize publicanref9_money (R := R) m = c5
  generalize publicanref9_sign (R := R) m = c6
  refine id ?_
  kernel_rfl
set_option maxHeartbeats 4000000 in
theorem publicanref9_Cut_L0_1_eq (m : Nat) (j : Nat) : ∀ (kx : Nat → List V → List PObj → Option R) (kr : List V → List PObj → Option R) (x0 : Int) (x1 : Int) (x2 : List UInt8) (x3 : Int) (x4 : List UInt8) (x5 : Int) (x6 : Int) (x7 : List T_publicanref9_Word), loopP tb (publicanref9_Cut_G m) 0 Tryz.f19.ntmps [(8, .any), (5, .any), (0, .any), (7, .any), (4, .any)] [(5, .any), (0, .any), (7, .any), (4, .any), (8, .any)] [] [] (lpC (lpC (bodyOf Tryz.f19) 0) 1) j [.int .i64 x0, .int .i64 x1, .str x2, .ptr 0 0, .loc 1] [.cells [.int .i64 x3, .str x4, .int .i64 x5, .int .i64 x6], .arr 5 x7] kx kr = publicanref9_Cut_L0_1 m j x0 x1 x2 x3 x4 x5 x6 x7 (fun y0 y1 y2 y3 y4 y5 y6 y7 => kx 5 [.int .i64 y0, .str y1, .ptr 0 0, .loc 1, .int .i64 y2] [.cells [.int .i64 y3, .str y4, .int .i64 y5, .int .i64 y6], .arr 5 y7]) := by
  induction j with
  | zero => intros; rfl
  | succ j ih =>
    intro kx kr x0 x1 x2 x3 x4 x5 x6 x7
    refine Eq.trans ?_ (Eq.trans (Eq.trans (publicanref9_Cut_S0_1_eq m (fun vs os => loopP tb (publicanref9_Cut_G m) 0 Tryz.f19.ntmps [(8, .any), (5, .any), (0, .any), (7, .any), (4, .any)] [(5, .any), (0, .any), (7, .any), (4, .any), (8, .any)] [] [] (lpC (lpC (bodyOf Tryz.f19) 0) 1) j vs os kx kr) kx kr x0 x1 x2 x3 x4 x5 x6 x7) (congrArg (fun ρ => publicanref9_Cut_S0_1 m ρ (fun y0 y1 y2 y3 y4 y5 y6 y7 => kx 5 [.int .i64 y0, .str y1, .ptr 0 0, .loc 1, .int .i64 y2] [.cells [.int .i64 y3, .str y4, .int .i64 y5, .int .i64 y6], .arr 5 y7]) x0 x1 x2 x3 x4 x5 x6 x7) (funext fun x0 => funext fun x1 => funext fun x2 => funext fun x3 => funext fun x4 => funext fun x5 => funext fun x6 => funext fun x7 => ih kx kr x0 x1 x2 x3 x4 x5 x6 x7))) ?_) <;> kernel_rfl
noncomputable def publicanref9_Cut_X0_1 (m : Nat) : LoopH R := ⟨[(8, .any), (5, .any), (0, .any), (7, .any), (4, .any)], [(5, .any), (0, .any), (7, .any), (4, .any), (8, .any)], [], fun vs os kx kr => match vs, os with | [v0_, v1_, v2_, v3_, v4_], [q0_, q1_] => ((rdInt .i64 v0_).bind fun x0 => (rdInt .i64 v1_).bind fun x1 => (rdStr v2_).bind fun x2 => (rdPtr 0 0 v3_).bind fun u0 => (rdLoc 1 v4_).bind fun u1 => (rdCells q0_).bind fun l2 => match l2 with | [c3_0, c3_1, c3_2, c3_3] => ((rdInt .i64 c3_0).bind fun x3 => (rdStr c3_1).bind fun x4 => (rdInt .i64 c3_2).bind fun x5 => (rdInt .i64 c3_3).bind fun x6 => (rdArr 5 q1_).bind fun x7 => publicanref9_Cut_L0_1 m m x0 x1 x2 x3 x4 x5 x6 x7 (fun y0 y1 y2 y3 y4 y5 y6 y7 => kx 5 [.int .i64 y0, .str y1, .ptr 0 0, .loc 1, .int .i64 y2] [.cells [.int .i64 y3, .str y4, .int .i64 y5, .int .i64 y6], .arr 5 y7])) | _ => none) | _, _ => none⟩
set_option maxHeartbeats 4000000 in
theorem publicanref9_Cut_X0_1_ok {m : Nat} (HG : ∀ f, SemOK cxP f (publicanref9_Cut_G (R := R) m f)) : LoopSem cxP Tryz.f19.ntmps 0 (lpC (lpC (bodyOf Tryz.f19) 0) 1) (publicanref9_Cut_X0_1 (R := R) m) :=
  loop_of C HG (L := []) (by kernel_rfl) (by rw [show loopsIn (lpC (lpC (bodyOf Tryz.f19) 0) 1) = [] from by kernel_rfl]; exact (.nil _)) m fun vs os kx kr r h => by
    try dsimp only at h
    split at h; rotate_left; cases h
    rename_i v0_ v1_ v2_ v3_ v4_ q0_ q1_
    replace h := Option.bind_eq_some_iff.1 h; obtain ⟨x0, hh, h⟩ := h; obtain rfl := rdInt_eq hh; clear hh
    replace h := Option.bind_eq_some_iff.1 h; obtain ⟨x1, hh, h⟩ := h; obtain rfl := rdInt_eq hh; clear hh
    replace h := Option.bind_eq_some_iff.1 h; obtain ⟨x2, hh, h⟩ := h; obtain rfl := rdStr_eq hh; clear hh
    replace h := Option.bind_eq_some_iff.1 h; obtain ⟨u0, hh, h⟩ := h; obtain rfl := rdPtr_eq hh; clear hh
    replace h := Option.bind_eq_some_iff.1 h; obtain ⟨u1, hh, h⟩ := h; obtain rfl := rdLoc_eq hh; clear hh
    replace h := Option.bind_eq_some_iff.1 h; obtain ⟨l2, hh, h⟩ := h; obtain rfl := rdCells_eq hh; clear hh
    split at h; rotate_left; cases h
    rename_i c3_0 c3_1 c3_2 c3_3
    replace h := Option.bind_eq_some_iff.1 h; obtain ⟨x3, hh, h⟩ := h; obtain rfl := rdInt_eq hh; clear hh
    replace h := Option.bind_eq_some_iff.1 h; obtain ⟨x4, hh, h⟩ := h; obtain rfl := rdStr_eq hh; clear hh
    replace h := Option.bind_eq_some_iff.1 h; obtain ⟨x5, hh, h⟩ := h; obtain rfl := rdInt_eq hh; clear hh
    replace h := Option.bind_eq_some_iff.1 h; obtain ⟨x6, hh, h⟩ := h; obtain rfl := rdInt_eq hh; clear hh
    replace h := Option.bind_eq_some_iff.1 h; obtain ⟨x7, hh, h⟩ := h; obtain rfl := rdArr_eq hh; clear hh
    exact (publicanref9_Cut_L0_1_eq m m kx kr x0 x1 x2 x3 x4 x5 x6 x7).trans h
set_option maxRecDepth 100000 in
theorem publicanref9_Cut_S0_0_eq (m : Nat) (ρ : List V → List PObj → Option R) (kx : Nat → List V → List PObj → Option R) (kr : List V → List PObj → Option R) (x0 : Int) (x1 : List UInt8) (x2 : List T_publicanref9_Word) : pCode tb (publicanref9_Cut_G m) 0 Tryz.f19.ntmps (lpC (lpC (bodyOf Tryz.f19) 0) 0) [] (fun s => match head 0 [(5, .any), (0, .any), (4, .any)] s with | (vs, os) => ρ vs os) (fun i s => match head 0 [(5, .any), (0, .any), (4, .any)] s with | (vs, os) => kx i vs os) (fun s => match head 0 [] s with | (vs, os) => kr vs os) ⟨mkEnv [(5, .any), (0, .any), (4, .any)] [.int .i64 x0, .str x1, .loc 0], [.arr 5 x2]⟩ = publicanref9_Cut_S0_0 m (fun x0 x1 x2 => ρ [.int .i64 x0, .str x1, .loc 0] [.arr 5 x2]) (fun y0 y1 y2 => kx 2 [.int .i64 y0, .str y1, .loc 0] [.arr 5 y2]) x0 x1 x2 := by
  delta publicanref9_Cut_G publicanref9_Cut_S0_0 publicanref9_letter_sem publicanref9_digit_sem publicanref9_Kept_sem publicanref9_digits_sem publicanref9_run_sem publicanref9_money_sem publicanref9_sign_sem
  generalize publicanref9_letter (R := R) m = c0
  generalize publicanref9_digit (R := R) m = c1
  generalize publicanref9_Kept (R := R) m = c2
  generalize publicanref9_digits (R := R) m = c3
  generalize publicanref9_run (R := R) m = c4
  generalize publicanref9_money (R := R) m = c5
  generalize publicanref9_sign (R := R) m = c6
  refine id ?_
  kernel_rfl
set_option maxHeartbeats 4000000 in
theorem publicanref9_Cut_L0_0_eq (m : Nat) (j : Nat) : ∀ (kx : Nat → List V → List PObj → Option R) (kr : List V → List PObj → Option R) (x0 : Int) (x1 : List UInt8) (x2 : List T_publicanref9_Word), loopP tb (publicanref9_Cut_G m) 0 Tryz.f19.ntmps [(5, .any), (0, .any), (4, .any)] [(5, .any), (0, .any), (4, .any)] [] [] (lpC (lpC (bodyOf Tryz.f19) 0) 0) j [.int .i64 x0, .str x1, .loc 0] [.arr 5 x2] kx kr = publicanref9_Cut_L0_0 m j x0 x1 x2 (fun y0 y1 y2 => kx 2 [.int .i64 y0, .str y1, .loc 0] [.arr 5 y2]) := by
  induction j with
  | zero => intros; rfl
  | succ j ih =>
    intro kx kr x0 x1 x2
    refine Eq.trans ?_ (Eq.trans (Eq.trans (publicanref9_Cut_S0_0_eq m (fun vs os => loopP tb (publicanref9_Cut_G m) 0 Tryz.f19.ntmps [(5, .any), (0, .any), (4, .any)] [(5, .any), (0, .any), (4, .any)] [] [] (lpC (lpC (bodyOf Tryz.f19) 0) 0) j vs os kx kr) kx kr x0 x1 x2) (congrArg (fun ρ => publicanref9_Cut_S0_0 m ρ (fun y0 y1 y2 => kx 2 [.int .i64 y0, .str y1, .loc 0] [.arr 5 y2]) x0 x1 x2) (funext fun x0 => funext fun x1 => funext fun x2 => ih kx kr x0 x1 x2))) ?_) <;> kernel_rfl
noncomputable def publicanref9_Cut_X0_0 (m : Nat) : LoopH R := ⟨[(5, .any), (0, .any), (4, .any)], [(5, .any), (0, .any), (4, .any)], [], fun vs os kx kr => match vs, os with | [v0_, v1_, v2_], [q0_] => ((rdInt .i64 v0_).bind fun x0 => (rdStr v1_).bind fun x1 => (rdLoc 0 v2_).bind fun u0 => (rdArr 5 q0_).bind fun x2 => publicanref9_Cut_L0_0 m m x0 x1 x2 (fun y0 y1 y2 => kx 2 [.int .i64 y0, .str y1, .loc 0] [.arr 5 y2])) | _, _ => none⟩
set_option maxHeartbeats 4000000 in
theorem publicanref9_Cut_X0_0_ok {m : Nat} (HG : ∀ f, SemOK cxP f (publicanref9_Cut_G (R := R) m f)) : LoopSem cxP Tryz.f19.ntmps 0 (lpC (lpC (bodyOf Tryz.f19) 0) 0) (publicanref9_Cut_X0_0 (R := R) m) :=
  loop_of C HG (L := []) (by kernel_rfl) (by rw [show loopsIn (lpC (lpC (bodyOf Tryz.f19) 0) 0) = [] from by kernel_rfl]; exact (.nil _)) m fun vs os kx kr r h => by
    try dsimp only at h
    split at h; rotate_left; cases h
    rename_i v0_ v1_ v2_ q0_
    replace h := Option.bind_eq_some_iff.1 h; obtain ⟨x0, hh, h⟩ := h; obtain rfl := rdInt_eq hh; clear hh
    replace h := Option.bind_eq_some_iff.1 h; obtain ⟨x1, hh, h⟩ := h; obtain rfl := rdStr_eq hh; clear hh
    replace h := Option.bind_eq_some_iff.1 h; obtain ⟨u0, hh, h⟩ := h; obtain rfl := rdLoc_eq hh; clear hh
    replace h := Option.bind_eq_some_iff.1 h; obtain ⟨x2, hh, h⟩ := h; obtain rfl := rdArr_eq hh; clear hh
    exact (publicanref9_Cut_L0_0_eq m m kx kr x0 x1 x2).trans h
set_option maxRecDepth 100000 in
theorem publicanref9_Cut_S0_eq (m : Nat) (ρ : List V → List PObj → Option R) (kx : Nat → List V → List PObj → Option R) (kr : List V → List PObj → Option R) (x0 : Int) (x1 : List UInt8) (x2 : List T_publicanref9_Word) : pCode tb (publicanref9_Cut_G m) 0 Tryz.f19.ntmps (lpC (bodyOf Tryz.f19) 0) [publicanref9_Cut_X0_0 m, publicanref9_Cut_X0_1 m] (fun s => match head 0 [(5, .any), (0, .any), (4, .any)] s with | (vs, os) => ρ vs os) (fun i s => match head 0 [(0, .any), (4, .any)] s with | (vs, os) => kx i vs os) (fun s => match head 0 [(2, .sl 5), (3, .any)] s with | (vs, os) => kr vs os) ⟨mkEnv [(5, .any), (0, .any), (4, .any)] [.int .i64 x0, .str x1, .loc 0], [.arr 5 x2]⟩ = publicanref9_Cut_S0 m (fun x0 x1 x2 => ρ [.int .i64 x0, .str x1, .loc 0] [.arr 5 x2]) (fun y0 y1 => kx 0 [.str y0, .loc 0] [.arr 5 y1]) (fun z0 z1 => kr [.sl 5 z0, .int .i64 z1] []) x0 x1 x2 := by
  delta publicanref9_Cut_G publicanref9_Cut_S0 publicanref9_letter_sem publicanref9_digit_sem publicanref9_Kept_sem publicanref9_digits_sem publicanref9_run_sem publicanref9_money_sem publicanref9_sign_sem publicanref9_Cut_X0_0 publicanref9_Cut_X0_1
  generalize publicanref9_letter (R := R) m = c0
  generalize publicanref9_digit (R := R) m = c1
  generalize publicanref9_Kept (R := R) m = c2
  generalize publicanref9_digits (R := R) m = c3
  generalize publicanref9_run (R := R) m = c4
  generalize publicanref9_money (R := R) m = c5
  generalize publicanref9_sign (R := R) m = c6
  generalize publicanref9_Cut_L0_0 (R := R) m = c7
  generalize publicanref9_Cut_L0_1 (R := R) m = c8
  refine id ?_
  kernel_rfl
set_option maxHeartbeats 4000000 in
theorem publicanref9_Cut_L0_eq (m : Nat) (j : Nat) : ∀ (kx : Nat → List V → List PObj → Option R) (kr : List V → List PObj → Option R) (x0 : Int) (x1 : List UInt8) (x2 : List T_publicanref9_Word), loopP tb (publicanref9_Cut_G m) 0 Tryz.f19.ntmps [(5, .any), (0, .any), (4, .any)] [(0, .any), (4, .any)] [(2, .sl 5), (3, .any)] [publicanref9_Cut_X0_0 m, publicanref9_Cut_X0_1 m] (lpC (bodyOf Tryz.f19) 0) j [.int .i64 x0, .str x1, .loc 0] [.arr 5 x2] kx kr = publicanref9_Cut_L0 m j x0 x1 x2 (fun y0 y1 => kx 0 [.str y0, .loc 0] [.arr 5 y1]) (fun z0 z1 => kr [.sl 5 z0, .int .i64 z1] []) := by
  induction j with
  | zero => intros; rfl
  | succ j ih =>
    intro kx kr x0 x1 x2
    refine Eq.trans ?_ (Eq.trans (Eq.trans (publicanref9_Cut_S0_eq m (fun vs os => loopP tb (publicanref9_Cut_G m) 0 Tryz.f19.ntmps [(5, .any), (0, .any), (4, .any)] [(0, .any), (4, .any)] [(2, .sl 5), (3, .any)] [publicanref9_Cut_X0_0 m, publicanref9_Cut_X0_1 m] (lpC (bodyOf Tryz.f19) 0) j vs os kx kr) kx kr x0 x1 x2) (congrArg (fun ρ => publicanref9_Cut_S0 m ρ (fun y0 y1 => kx 0 [.str y0, .loc 0] [.arr 5 y1]) (fun z0 z1 => kr [.sl 5 z0, .int .i64 z1] []) x0 x1 x2) (funext fun x0 => funext fun x1 => funext fun x2 => ih kx kr x0 x1 x2))) ?_) <;> kernel_rfl
noncomputable def publicanref9_Cut_X0 (m : Nat) : LoopH R := ⟨[(5, .any), (0, .any), (4, .any)], [(0, .any), (4, .any)], [(2, .sl 5), (3, .any)], fun vs os kx kr => match vs, os with | [v0_, v1_, v2_], [q0_] => ((rdInt .i64 v0_).bind fun x0 => (rdStr v1_).bind fun x1 => (rdLoc 0 v2_).bind fun u0 => (rdArr 5 q0_).bind fun x2 => publicanref9_Cut_L0 m m x0 x1 x2 (fun y0 y1 => kx 0 [.str y0, .loc 0] [.arr 5 y1]) (fun z0 z1 => kr [.sl 5 z0, .int .i64 z1] [])) | _, _ => none⟩
set_option maxHeartbeats 4000000 in
theorem publicanref9_Cut_X0_ok {m : Nat} (HG : ∀ f, SemOK cxP f (publicanref9_Cut_G (R := R) m f)) : LoopSem cxP Tryz.f19.ntmps 0 (lpC (bodyOf Tryz.f19) 0) (publicanref9_Cut_X0 (R := R) m) :=
  loop_of C HG (L := [publicanref9_Cut_X0_0 m, publicanref9_Cut_X0_1 m]) (by kernel_rfl) (by rw [show loopsIn (lpC (bodyOf Tryz.f19) 0) = [(lpC (lpC (bodyOf Tryz.f19) 0) 0), (lpC (lpC (bodyOf Tryz.f19) 0) 1)] from by kernel_rfl]; exact (.cons (publicanref9_Cut_X0_0_ok HG) (.cons (publicanref9_Cut_X0_1_ok HG) (.nil _)))) m fun vs os kx kr r h => by
    try dsimp only at h
    split at h; rotate_left; cases h
    rename_i v0_ v1_ v2_ q0_
    replace h := Option.bind_eq_some_iff.1 h; obtain ⟨x0, hh, h⟩ := h; obtain rfl := rdInt_eq hh; clear hh
    replace h := Option.bind_eq_some_iff.1 h; obtain ⟨x1, hh, h⟩ := h; obtain rfl := rdStr_eq hh; clear hh
    replace h := Option.bind_eq_some_iff.1 h; obtain ⟨u0, hh, h⟩ := h; obtain rfl := rdLoc_eq hh; clear hh
    replace h := Option.bind_eq_some_iff.1 h; obtain ⟨x2, hh, h⟩ := h; obtain rfl := rdArr_eq hh; clear hh
    exact (publicanref9_Cut_L0_eq m m kx kr x0 x1 x2).trans h
noncomputable def publicanref9_Cut_w (F : List UInt8 → (List T_publicanref9_Word → Int → Option R) → Option R) : PSem R := fun vs os κ => match vs, os with | [v0_], [] => ((rdStr v0_).bind fun a0 => F a0 (fun r_0 r_1 => κ (.tup [.sl 5 r_0, .int .i64 r_1]) [])) | _, _ => none
def publicanref9_Cut_ac : List (Option (Bool × Nat)) := [none]
set_option maxRecDepth 100000 in
theorem publicanref9_Cut_eq (m : Nat) (a0 : List UInt8) (κ : V → List PObj → Option R) : pFun tb (publicanref9_Cut_G m) 0 [publicanref9_Cut_X0 m] [some (true, 5), none] Tryz.f19 [.str a0] [] κ = publicanref9_Cut m a0 (fun r_0 r_1 => κ (.tup [.sl 5 r_0, .int .i64 r_1]) []) := by
  delta publicanref9_Cut_G publicanref9_Cut publicanref9_letter_sem publicanref9_digit_sem publicanref9_Kept_sem publicanref9_digits_sem publicanref9_run_sem publicanref9_money_sem publicanref9_sign_sem publicanref9_Cut_X0
  generalize publicanref9_letter (R := R) m = c0
  generalize publicanref9_digit (R := R) m = c1
  generalize publicanref9_Kept (R := R) m = c2
  generalize publicanref9_digits (R := R) m = c3
  generalize publicanref9_run (R := R) m = c4
  generalize publicanref9_money (R := R) m = c5
  generalize publicanref9_sign (R := R) m = c6
  generalize publicanref9_Cut_L0 (R := R) m = c7
  refine id ?_
  kernel_rfl
noncomputable def publicanref9_Cut_sem (m : Nat) : PSem R := semOf publicanref9_Cut_ac (publicanref9_Cut_w (publicanref9_Cut m))
theorem publicanref9_Cut_ok (m : Nat) : SemOK cxP 19 (publicanref9_Cut_sem (R := R) m) :=
  have HG : ∀ f, SemOK cxP f (publicanref9_Cut_G (R := R) m f) := tabG_ok (.cons (publicanref9_letter_ok m) (.cons (publicanref9_digit_ok m) (.cons (publicanref9_Kept_ok m) (.cons (publicanref9_digits_ok m) (.cons (publicanref9_run_ok m) (.cons (publicanref9_money_ok m) (.cons (publicanref9_sign_ok m) .nil)))))))
  semOf_ok (fun_of C HG (L := [publicanref9_Cut_X0 m]) (rc := [some (true, 5), none]) (k := 0) (fn_of Tryz.func19) rfl rfl (by kernel_rfl) (by rw [show loopsIn (bodyOf Tryz.f19) = [(lpC (bodyOf Tryz.f19) 0)] from by kernel_rfl]; exact (.cons (publicanref9_Cut_X0_ok HG) (.nil _))) fun vs os κ r h => by
    unfold publicanref9_Cut_w at h
    split at h; rotate_left; cases h
    rename_i v0_
    replace h := Option.bind_eq_some_iff.1 h; obtain ⟨a0, hh, h⟩ := h; obtain rfl := rdStr_eq hh; clear hh
    exact (publicanref9_Cut_eq m a0 κ).trans h
)
noncomputable def publicanref9_parser_expr_w (F : T_publicanref9_parser → (T_publicanref9_Node → T_publicanref9_parser → Option R) → Option R) : PSem R := fun vs os κ => match vs, os with | [v0_], [q0_] => ((rdPtr 0 0 v0_).bind fun u0 => (rdCells q0_).bind fun l1 => match l1 with | [c2_0, c2_1, c2_2, c2_3, c2_4] => ((rdSl 5 c2_0).bind fun p0_0 => (rdInt .i64 c2_1).bind fun p0_1 => (rdInt .i64 c2_2).bind fun p0_2 => (rdBool c2_3).bind fun p0_3 => (rdInt .i64 c2_4).bind fun p0_4 => F (T_publicanref9_parser.mk p0_0 p0_1 p0_2 p0_3 p0_4) (fun r w0 => κ (.st 6 r) [.cells [.sl 5 w0.f_l, .int .i64 w0.f_k, .int .i64 w0.f_bad, .bool w0.f_deep, .int .i64 w0.f_d]])) | _ => none) | _, _ => none
def publicanref9_parser_expr_ac : List (Option (Bool × Nat)) := [none]
noncomputable def publicanref9_parser_inside_w (F : T_publicanref9_parser → (T_publicanref9_Node → T_publicanref9_parser → Option R) → Option R) : PSem R := fun vs os κ => match vs, os with | [v0_], [q0_] => ((rdPtr 0 0 v0_).bind fun u0 => (rdCells q0_).bind fun l1 => match l1 with | [c2_0, c2_1, c2_2, c2_3, c2_4] => ((rdSl 5 c2_0).bind fun p0_0 => (rdInt .i64 c2_1).bind fun p0_1 => (rdInt .i64 c2_2).bind fun p0_2 => (rdBool c2_3).bind fun p0_3 => (rdInt .i64 c2_4).bind fun p0_4 => F (T_publicanref9_parser.mk p0_0 p0_1 p0_2 p0_3 p0_4) (fun r w0 => κ (.st 6 r) [.cells [.sl 5 w0.f_l, .int .i64 w0.f_k, .int .i64 w0.f_bad, .bool w0.f_deep, .int .i64 w0.f_d]])) | _ => none) | _, _ => none
def publicanref9_parser_inside_ac : List (Option (Bool × Nat)) := [none]
noncomputable def publicanref9_parser_row_w (F : T_publicanref9_parser → Int → (T_publicanref9_Node → T_publicanref9_parser → Option R) → Option R) : PSem R := fun vs os κ => match vs, os with | [v0_, v1_], [q0_] => ((rdPtr 0 0 v0_).bind fun u0 => (rdInt .i64 v1_).bind fun a1 => (rdCells q0_).bind fun l1 => match l1 with | [c2_0, c2_1, c2_2, c2_3, c2_4] => ((rdSl 5 c2_0).bind fun p0_0 => (rdInt .i64 c2_1).bind fun p0_1 => (rdInt .i64 c2_2).bind fun p0_2 => (rdBool c2_3).bind fun p0_3 => (rdInt .i64 c2_4).bind fun p0_4 => F (T_publicanref9_parser.mk p0_0 p0_1 p0_2 p0_3 p0_4) a1 (fun r w0 => κ (.st 6 r) [.cells [.sl 5 w0.f_l, .int .i64 w0.f_k, .int .i64 w0.f_bad, .bool w0.f_deep, .int .i64 w0.f_d]])) | _ => none) | _, _ => none
def publicanref9_parser_row_ac : List (Option (Bool × Nat)) := [none, none]
noncomputable def publicanref9_parser_un_w (F : T_publicanref9_parser → (T_publicanref9_Node → T_publicanref9_parser → Option R) → Option R) : PSem R := fun vs os κ => match vs, os with | [v0_], [q0_] => ((rdPtr 0 0 v0_).bind fun u0 => (rdCells q0_).bind fun l1 => match l1 with | [c2_0, c2_1, c2_2, c2_3, c2_4] => ((rdSl 5 c2_0).bind fun p0_0 => (rdInt .i64 c2_1).bind fun p0_1 => (rdInt .i64 c2_2).bind fun p0_2 => (rdBool c2_3).bind fun p0_3 => (rdInt .i64 c2_4).bind fun p0_4 => F (T_publicanref9_parser.mk p0_0 p0_1 p0_2 p0_3 p0_4) (fun r w0 => κ (.st 6 r) [.cells [.sl 5 w0.f_l, .int .i64 w0.f_k, .int .i64 w0.f_bad, .bool w0.f_deep, .int .i64 w0.f_d]])) | _ => none) | _, _ => none
def publicanref9_parser_un_ac : List (Option (Bool × Nat)) := [none]
noncomputable def publicanref9_parser_prim_w (F : T_publicanref9_parser → (T_publicanref9_Node → T_publicanref9_parser → Option R) → Option R) : PSem R := fun vs os κ => match vs, os with | [v0_], [q0_] => ((rdPtr 0 0 v0_).bind fun u0 => (rdCells q0_).bind fun l1 => match l1 with | [c2_0, c2_1, c2_2, c2_3, c2_4] => ((rdSl 5 c2_0).bind fun p0_0 => (rdInt .i64 c2_1).bind fun p0_1 => (rdInt .i64 c2_2).bind fun p0_2 => (rdBool c2_3).bind fun p0_3 => (rdInt .i64 c2_4).bind fun p0_4 => F (T_publicanref9_parser.mk p0_0 p0_1 p0_2 p0_3 p0_4) (fun r w0 => κ (.st 6 r) [.cells [.sl 5 w0.f_l, .int .i64 w0.f_k, .int .i64 w0.f_bad, .bool w0.f_deep, .int .i64 w0.f_d]])) | _ => none) | _, _ => none
def publicanref9_parser_prim_ac : List (Option (Bool × Nat)) := [none]
structure G_publicanref9_parser_exprOK (g : G_publicanref9_parser_expr R) : Prop where
  publicanref9_parser_expr : SemOK cxP 49 (semOf publicanref9_parser_expr_ac (publicanref9_parser_expr_w g.publicanref9_parser_expr))
  publicanref9_parser_inside : SemOK cxP 88 (semOf publicanref9_parser_inside_ac (publicanref9_parser_inside_w g.publicanref9_parser_inside))
  publicanref9_parser_row : SemOK cxP 116 (semOf publicanref9_parser_row_ac (publicanref9_parser_row_w g.publicanref9_parser_row))
  publicanref9_parser_un : SemOK cxP 140 (semOf publicanref9_parser_un_ac (publicanref9_parser_un_w g.publicanref9_parser_un))
  publicanref9_parser_prim : SemOK cxP 155 (semOf publicanref9_parser_prim_ac (publicanref9_parser_prim_w g.publicanref9_parser_prim))
noncomputable def publicanref9_parser_expr_G (m : Nat) (g : G_publicanref9_parser_expr R) : FuncId → PSem R := tabG [(87, publicanref9_parser_in_sem m), (88, semOf publicanref9_parser_inside_ac (publicanref9_parser_inside_w g.publicanref9_parser_inside)), (89, publicanref9_parser_out_sem m)]
set_option maxRecDepth 100000 in
theorem publicanref9_parser_expr_eq (m : Nat) (g : G_publicanref9_parser_expr R) (o0 : T_publicanref9_parser) (κ : V → List PObj → Option R) : pFun tb (publicanref9_parser_expr_G m g) 1 [] [some (false, 6)] Tryz.f49 [.ptr 0 0] [.cells [.sl 5 o0.f_l, .int .i64 o0.f_k, .int .i64 o0.f_bad, .bool o0.f_deep, .int .i64 o0.f_d]] κ = publicanref9_parser_expr_B m g o0 (fun r w0 => κ (.st 6 r) [.cells [.sl 5 w0.f_l, .int .i64 w0.f_k, .int .i64 w0.f_bad, .bool w0.f_deep, .int .i64 w0.f_d]]) := by
  delta publicanref9_parser_expr_G publicanref9_parser_expr_B publicanref9_parser_in_sem publicanref9_parser_out_sem
  generalize publicanref9_parser_in (R := R) m = c0
  generalize publicanref9_parser_out (R := R) m = c1
  refine id ?_
  kernel_rfl
theorem publicanref9_parser_expr_st (m : Nat) (g : G_publicanref9_parser_expr R) (hg : G_publicanref9_parser_exprOK g) : SemC cxP 49 (publicanref9_parser_expr_w (publicanref9_parser_expr_B m g)) :=
  have HG : ∀ f, SemOK cxP f (publicanref9_parser_expr_G (R := R) m g f) := tabG_ok (.cons (publicanref9_parser_in_ok m) (.cons (hg.publicanref9_parser_inside) (.cons (publicanref9_parser_out_ok m) .nil)))
  fun_of C HG (L := []) (rc := [some (false, 6)]) (k := 1) (fn_of Tryz.func49) rfl rfl (by kernel_rfl) (by rw [show loopsIn (bodyOf Tryz.f49) = [] from by kernel_rfl]; exact (.nil _)) fun vs os κ r h => by
    unfold publicanref9_parser_expr_w at h
    split at h; rotate_left; cases h
    rename_i v0_ q0_
    replace h := Option.bind_eq_some_iff.1 h; obtain ⟨u0, hh, h⟩ := h; obtain rfl := rdPtr_eq hh; clear hh
    replace h := Option.bind_eq_some_iff.1 h; obtain ⟨l1, hh, h⟩ := h; obtain rfl := rdCells_eq hh; clear hh
    split at h; rotate_left; cases h
    rename_i c2_0 c2_1 c2_2 c2_3 c2_4
    replace h := Option.bind_eq_some_iff.1 h; obtain ⟨p0_0, hh, h⟩ := h; obtain rfl := rdSl_eq hh; clear hh
    replace h := Option.bind_eq_some_iff.1 h; obtain ⟨p0_1, hh, h⟩ := h; obtain rfl := rdInt_eq hh; clear hh
    replace h := Option.bind_eq_some_iff.1 h; obtain ⟨p0_2, hh, h⟩ := h; obtain rfl := rdInt_eq hh; clear hh
    replace h := Option.bind_eq_some_iff.1 h; obtain ⟨p0_3, hh, h⟩ := h; obtain rfl := rdBool_eq hh; clear hh
    replace h := Option.bind_eq_some_iff.1 h; obtain ⟨p0_4, hh, h⟩ := h; obtain rfl := rdInt_eq hh; clear hh
    exact (publicanref9_parser_expr_eq m g (T_publicanref9_parser.mk p0_0 p0_1 p0_2 p0_3 p0_4) κ).trans h
theorem publicanref9_parser_expr_z : SemC cxP 49 (publicanref9_parser_expr_w (R := R) fun _ _ => none) := fun vs os κ r h => by
    unfold publicanref9_parser_expr_w at h
    split at h; rotate_left; cases h
    rename_i v0_ q0_
    replace h := Option.bind_eq_some_iff.1 h; obtain ⟨u0, hh, h⟩ := h; obtain rfl := rdPtr_eq hh; clear hh
    replace h := Option.bind_eq_some_iff.1 h; obtain ⟨l1, hh, h⟩ := h; obtain rfl := rdCells_eq hh; clear hh
    split at h; rotate_left; cases h
    rename_i c2_0 c2_1 c2_2 c2_3 c2_4
    replace h := Option.bind_eq_some_iff.1 h; obtain ⟨p0_0, hh, h⟩ := h; obtain rfl := rdSl_eq hh; clear hh
    replace h := Option.bind_eq_some_iff.1 h; obtain ⟨p0_1, hh, h⟩ := h; obtain rfl := rdInt_eq hh; clear hh
    replace h := Option.bind_eq_some_iff.1 h; obtain ⟨p0_2, hh, h⟩ := h; obtain rfl := rdInt_eq hh; clear hh
    replace h := Option.bind_eq_some_iff.1 h; obtain ⟨p0_3, hh, h⟩ := h; obtain rfl := rdBool_eq hh; clear hh
    replace h := Option.bind_eq_some_iff.1 h; obtain ⟨p0_4, hh, h⟩ := h; obtain rfl := rdInt_eq hh; clear hh
    cases h
noncomputable def publicanref9_parser_inside_G (m : Nat) (g : G_publicanref9_parser_expr R) : FuncId → PSem R := tabG [(44, publicanref9_parser_w_sem m), (45, publicanref9_parser_take_sem m), (49, semOf publicanref9_parser_expr_ac (publicanref9_parser_expr_w g.publicanref9_parser_expr)), (48, publicanref9_parser_want_sem m), (116, semOf publicanref9_parser_row_ac (publicanref9_parser_row_w g.publicanref9_parser_row))]
set_option maxRecDepth 100000 in
theorem publicanref9_parser_inside_eq (m : Nat) (g : G_publicanref9_parser_expr R) (o0 : T_publicanref9_parser) (κ : V → List PObj → Option R) : pFun tb (publicanref9_parser_inside_G m g) 1 [] [some (false, 6)] Tryz.f88 [.ptr 0 0] [.cells [.sl 5 o0.f_l, .int .i64 o0.f_k, .int .i64 o0.f_bad, .bool o0.f_deep, .int .i64 o0.f_d]] κ = publicanref9_parser_inside_B m g o0 (fun r w0 => κ (.st 6 r) [.cells [.sl 5 w0.f_l, .int .i64 w0.f_k, .int .i64 w0.f_bad, .bool w0.f_deep, .int .i64 w0.f_d]]) := by
  delta publicanref9_parser_inside_G publicanref9_parser_inside_B publicanref9_parser_w_sem publicanref9_parser_take_sem publicanref9_parser_want_sem
  generalize publicanref9_parser_w (R := R) m = c0
  generalize publicanref9_parser_take (R := R) m = c1
  generalize publicanref9_parser_want (R := R) m = c2
  refine id ?_
  kernel_rfl
theorem publicanref9_parser_inside_st (m : Nat) (g : G_publicanref9_parser_expr R) (hg : G_publicanref9_parser_exprOK g) : SemC cxP 88 (publicanref9_parser_inside_w (publicanref9_parser_inside_B m g)) :=
  have HG : ∀ f, SemOK cxP f (publicanref9_parser_inside_G (R := R) m g f) := tabG_ok (.cons (publicanref9_parser_w_ok m) (.cons (publicanref9_parser_take_ok m) (.cons (hg.publicanref9_parser_expr) (.cons (publicanref9_parser_want_ok m) (.cons (hg.publicanref9_parser_row) .nil)))))
  fun_of C HG (L := []) (rc := [some (false, 6)]) (k := 1) (fn_of Tryz.func88) rfl rfl (by kernel_rfl) (by rw [show loopsIn (bodyOf Tryz.f88) = [] from by kernel_rfl]; exact (.nil _)) fun vs os κ r h => by
    unfold publicanref9_parser_inside_w at h
    split at h; rotate_left; cases h
    rename_i v0_ q0_
    replace h := Option.bind_eq_some_iff.1 h; obtain ⟨u0, hh, h⟩ := h; obtain rfl := rdPtr_eq hh; clear hh
    replace h := Option.bind_eq_some_iff.1 h; obtain ⟨l1, hh, h⟩ := h; obtain rfl := rdCells_eq hh; clear hh
    split at h; rotate_left; cases h
    rename_i c2_0 c2_1 c2_2 c2_3 c2_4
    replace h := Option.bind_eq_some_iff.1 h; obtain ⟨p0_0, hh, h⟩ := h; obtain rfl := rdSl_eq hh; clear hh
    replace h := Option.bind_eq_some_iff.1 h; obtain ⟨p0_1, hh, h⟩ := h; obtain rfl := rdInt_eq hh; clear hh
    replace h := Option.bind_eq_some_iff.1 h; obtain ⟨p0_2, hh, h⟩ := h; obtain rfl := rdInt_eq hh; clear hh
    replace h := Option.bind_eq_some_iff.1 h; obtain ⟨p0_3, hh, h⟩ := h; obtain rfl := rdBool_eq hh; clear hh
    replace h := Option.bind_eq_some_iff.1 h; obtain ⟨p0_4, hh, h⟩ := h; obtain rfl := rdInt_eq hh; clear hh
    exact (publicanref9_parser_inside_eq m g (T_publicanref9_parser.mk p0_0 p0_1 p0_2 p0_3 p0_4) κ).trans h
theorem publicanref9_parser_inside_z : SemC cxP 88 (publicanref9_parser_inside_w (R := R) fun _ _ => none) := fun vs os κ r h => by
    unfold publicanref9_parser_inside_w at h
    split at h; rotate_left; cases h
    rename_i v0_ q0_
    replace h := Option.bind_eq_some_iff.1 h; obtain ⟨u0, hh, h⟩ := h; obtain rfl := rdPtr_eq hh; clear hh
    replace h := Option.bind_eq_some_iff.1 h; obtain ⟨l1, hh, h⟩ := h; obtain rfl := rdCells_eq hh; clear hh
    split at h; rotate_left; cases h
    rename_i c2_0 c2_1 c2_2 c2_3 c2_4
    replace h := Option.bind_eq_some_iff.1 h; obtain ⟨p0_0, hh, h⟩ := h; obtain rfl := rdSl_eq hh; clear hh
    replace h := Option.bind_eq_some_iff.1 h; obtain ⟨p0_1, hh, h⟩ := h; obtain rfl := rdInt_eq hh; clear hh
    replace h := Option.bind_eq_some_iff.1 h; obtain ⟨p0_2, hh, h⟩ := h; obtain rfl := rdInt_eq hh; clear hh
    replace h := Option.bind_eq_some_iff.1 h; obtain ⟨p0_3, hh, h⟩ := h; obtain rfl := rdBool_eq hh; clear hh
    replace h := Option.bind_eq_some_iff.1 h; obtain ⟨p0_4, hh, h⟩ := h; obtain rfl := rdInt_eq hh; clear hh
    cases h
end Go.Pm
