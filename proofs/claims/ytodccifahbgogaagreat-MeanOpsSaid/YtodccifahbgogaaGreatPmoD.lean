/- The interpreter over data answers as the plain functions say. -/
import Derived.Test.YtodccifahbgogaaGreatPmoC
set_option linter.unusedVariables false
set_option linter.unusedSectionVars false
set_option linter.unusedSimpArgs false
namespace Go.Pm
open Go Go.EvM Go.Pv Go.Proofs
set_option linter.unusedVariables false
set_option linter.unusedSectionVars false
variable {R : Type}
noncomputable def publicanref1_Add_G (m : Nat) : FuncId → PSem R := tabG [(144, publicanref1_less_sem m), (145, publicanref1_digit_sem m), (142, publicanref1_trim_sem m)]
set_option maxRecDepth 100000 in
theorem publicanref1_Add_S1_eq (m : Nat) (ρ : List V → List PObj → Option R) (kx : Nat → List V → List PObj → Option R) (kr : List V → List PObj → Option R) (x0 : Int) (x1 : Int) (x2 : List Int) (x3 : Bool) (x4 : List Int) (x5 : Bool) (x6 : List Int) (x7 : Bool) (x8 : List Int) : pCode tb (publicanref1_Add_G m) 0 Tryz.f101.ntmps (lpC (bodyOf Tryz.f101) 1) [] (fun s => match head 0 [(11, .any), (9, .arr 6), (10, .any), (3, .fcells [(1, 6)]), (2, .fcells [(1, 6)]), (4, .fcells [(1, 6)])] s with | (vs, os) => ρ vs os) (fun i s => match head 0 [(4, .any), (9, .any), (2, .any)] s with | (vs, os) => kx i vs os) (fun s => match head 0 [] s with | (vs, os) => kr vs os) ⟨mkEnv [(11, .any), (9, .arr 6), (10, .any), (3, .fcells [(1, 6)]), (2, .fcells [(1, 6)]), (4, .fcells [(1, 6)])] [.int .i64 x0, .loc 0, .int .u64 x1, .ptr 1 0, .ptr 2 0, .ptr 3 0], [.arr 6 x2, .cells [.bool x3, .sl 6 x4], .cells [.bool x5, .sl 6 x6], .cells [.bool x7, .sl 6 x8]]⟩ = publicanref1_Add_S1 m (fun x0 x1 x2 x3 x4 x5 x6 x7 x8 => ρ [.int .i64 x0, .loc 0, .int .u64 x1, .ptr 1 0, .ptr 2 0, .ptr 3 0] [.arr 6 x2, .cells [.bool x3, .sl 6 x4], .cells [.bool x5, .sl 6 x6], .cells [.bool x7, .sl 6 x8]]) (fun y0 y1 y2 y3 y4 => kx 2 [.ptr 0 0, .loc 1, .ptr 2 0] [.cells [.bool y0, .sl 6 y1], .arr 6 y2, .cells [.bool y3, .sl 6 y4]]) x0 x1 x2 x3 x4 x5 x6 x7 x8 := by
  delta publicanref1_Add_G publicanref1_Add_S1 publicanref1_less_sem publicanref1_digit_sem publicanref1_trim_sem
  generalize publicanref1_less (R := R) m = c0
  generalize publicanref1_digit (R := R) m = c1
  generalize publicanref1_trim (R := R) m = c2
  refine id ?_
  kernel_rfl
set_option maxHeartbeats 4000000 in
theorem publicanref1_Add_L1_eq (m : Nat) (j : Nat) : ∀ (kx : Nat → List V → List PObj → Option R) (kr : List V → List PObj → Option R) (x0 : Int) (x1 : Int) (x2 : List Int) (x3 : Bool) (x4 : List Int) (x5 : Bool) (x6 : List Int) (x7 : Bool) (x8 : List Int), loopP tb (publicanref1_Add_G m) 0 Tryz.f101.ntmps [(11, .any), (9, .arr 6), (10, .any), (3, .fcells [(1, 6)]), (2, .fcells [(1, 6)]), (4, .fcells [(1, 6)])] [(4, .any), (9, .any), (2, .any)] [] [] (lpC (bodyOf Tryz.f101) 1) j [.int .i64 x0, .loc 0, .int .u64 x1, .ptr 1 0, .ptr 2 0, .ptr 3 0] [.arr 6 x2, .cells [.bool x3, .sl 6 x4], .cells [.bool x5, .sl 6 x6], .cells [.bool x7, .sl 6 x8]] kx kr = publicanref1_Add_L1 m j x0 x1 x2 x3 x4 x5 x6 x7 x8 (fun y0 y1 y2 y3 y4 => kx 2 [.ptr 0 0, .loc 1, .ptr 2 0] [.cells [.bool y0, .sl 6 y1], .arr 6 y2, .cells [.bool y3, .sl 6 y4]]) := by
  induction j with
  | zero => intros; rfl
  | succ j ih =>
    intro kx kr x0 x1 x2 x3 x4 x5 x6 x7 x8
    refine Eq.trans ?_ (Eq.trans (Eq.trans (publicanref1_Add_S1_eq m (fun vs os => loopP tb (publicanref1_Add_G m) 0 Tryz.f101.ntmps [(11, .any), (9, .arr 6), (10, .any), (3, .fcells [(1, 6)]), (2, .fcells [(1, 6)]), (4, .fcells [(1, 6)])] [(4, .any), (9, .any), (2, .any)] [] [] (lpC (bodyOf Tryz.f101) 1) j vs os kx kr) kx kr x0 x1 x2 x3 x4 x5 x6 x7 x8) (congrArg (fun ρ => publicanref1_Add_S1 m ρ (fun y0 y1 y2 y3 y4 => kx 2 [.ptr 0 0, .loc 1, .ptr 2 0] [.cells [.bool y0, .sl 6 y1], .arr 6 y2, .cells [.bool y3, .sl 6 y4]]) x0 x1 x2 x3 x4 x5 x6 x7 x8) (funext fun x0 => funext fun x1 => funext fun x2 => funext fun x3 => funext fun x4 => funext fun x5 => funext fun x6 => funext fun x7 => funext fun x8 => ih kx kr x0 x1 x2 x3 x4 x5 x6 x7 x8))) ?_) <;> kernel_rfl
noncomputable def publicanref1_Add_X1 (m : Nat) : LoopH R := ⟨[(11, .any), (9, .arr 6), (10, .any), (3, .fcells [(1, 6)]), (2, .fcells [(1, 6)]), (4, .fcells [(1, 6)])], [(4, .any), (9, .any), (2, .any)], [], fun vs os kx kr => match vs, os with | [v0_, v1_, v2_, v3_, v4_, v5_], [q0_, q1_, q2_, q3_] => ((rdInt .i64 v0_).bind fun x0 => (rdLoc 0 v1_).bind fun u0 => (rdInt .u64 v2_).bind fun x1 => (rdPtr 1 0 v3_).bind fun u1 => (rdPtr 2 0 v4_).bind fun u2 => (rdPtr 3 0 v5_).bind fun u3 => (rdArr 6 q0_).bind fun x2 => (rdCells q1_).bind fun l4 => match l4 with | [c5_0, c5_1] => ((rdBool c5_0).bind fun x3 => (rdSl 6 c5_1).bind fun x4 => (rdCells q2_).bind fun l6 => match l6 with | [c7_0, c7_1] => ((rdBool c7_0).bind fun x5 => (rdSl 6 c7_1).bind fun x6 => (rdCells q3_).bind fun l8 => match l8 with | [c9_0, c9_1] => ((rdBool c9_0).bind fun x7 => (rdSl 6 c9_1).bind fun x8 => publicanref1_Add_L1 m m x0 x1 x2 x3 x4 x5 x6 x7 x8 (fun y0 y1 y2 y3 y4 => kx 2 [.ptr 0 0, .loc 1, .ptr 2 0] [.cells [.bool y0, .sl 6 y1], .arr 6 y2, .cells [.bool y3, .sl 6 y4]])) | _ => none) | _ => none) | _ => none) | _, _ => none⟩
set_option maxHeartbeats 4000000 in
theorem publicanref1_Add_X1_ok {m : Nat} (HG : ∀ f, SemOK cxP f (publicanref1_Add_G (R := R) m f)) : LoopSem cxP Tryz.f101.ntmps 0 (lpC (bodyOf Tryz.f101) 1) (publicanref1_Add_X1 (R := R) m) :=
  loop_of C HG (L := []) (by kernel_rfl) (by rw [show loopsIn (lpC (bodyOf Tryz.f101) 1) = [] from by kernel_rfl]; exact (.nil _)) m fun vs os kx kr r h => by
    try dsimp only at h
    split at h; rotate_left; cases h
    rename_i v0_ v1_ v2_ v3_ v4_ v5_ q0_ q1_ q2_ q3_
    replace h := Option.bind_eq_some_iff.1 h; obtain ⟨x0, hh, h⟩ := h; obtain rfl := rdInt_eq hh; clear hh
    replace h := Option.bind_eq_some_iff.1 h; obtain ⟨u0, hh, h⟩ := h; obtain rfl := rdLoc_eq hh; clear hh
    replace h := Option.bind_eq_some_iff.1 h; obtain ⟨x1, hh, h⟩ := h; obtain rfl := rdInt_eq hh; clear hh
    replace h := Option.bind_eq_some_iff.1 h; obtain ⟨u1, hh, h⟩ := h; obtain rfl := rdPtr_eq hh; clear hh
    replace h := Option.bind_eq_some_iff.1 h; obtain ⟨u2, hh, h⟩ := h; obtain rfl := rdPtr_eq hh; clear hh
    replace h := Option.bind_eq_some_iff.1 h; obtain ⟨u3, hh, h⟩ := h; obtain rfl := rdPtr_eq hh; clear hh
    replace h := Option.bind_eq_some_iff.1 h; obtain ⟨x2, hh, h⟩ := h; obtain rfl := rdArr_eq hh; clear hh
    replace h := Option.bind_eq_some_iff.1 h; obtain ⟨l4, hh, h⟩ := h; obtain rfl := rdCells_eq hh; clear hh
    split at h; rotate_left; cases h
    rename_i c5_0 c5_1
    replace h := Option.bind_eq_some_iff.1 h; obtain ⟨x3, hh, h⟩ := h; obtain rfl := rdBool_eq hh; clear hh
    replace h := Option.bind_eq_some_iff.1 h; obtain ⟨x4, hh, h⟩ := h; obtain rfl := rdSl_eq hh; clear hh
    replace h := Option.bind_eq_some_iff.1 h; obtain ⟨l6, hh, h⟩ := h; obtain rfl := rdCells_eq hh; clear hh
    split at h; rotate_left; cases h
    rename_i c7_0 c7_1
    replace h := Option.bind_eq_some_iff.1 h; obtain ⟨x5, hh, h⟩ := h; obtain rfl := rdBool_eq hh; clear hh
    replace h := Option.bind_eq_some_iff.1 h; obtain ⟨x6, hh, h⟩ := h; obtain rfl := rdSl_eq hh; clear hh
    replace h := Option.bind_eq_some_iff.1 h; obtain ⟨l8, hh, h⟩ := h; obtain rfl := rdCells_eq hh; clear hh
    split at h; rotate_left; cases h
    rename_i c9_0 c9_1
    replace h := Option.bind_eq_some_iff.1 h; obtain ⟨x7, hh, h⟩ := h; obtain rfl := rdBool_eq hh; clear hh
    replace h := Option.bind_eq_some_iff.1 h; obtain ⟨x8, hh, h⟩ := h; obtain rfl := rdSl_eq hh; clear hh
    exact (publicanref1_Add_L1_eq m m kx kr x0 x1 x2 x3 x4 x5 x6 x7 x8).trans h
set_option maxRecDepth 100000 in
theorem publicanref1_Add_S0_eq (m : Nat) (ρ : List V → List PObj → Option R) (kx : Nat → List V → List PObj → Option R) (kr : List V → List PObj → Option R) (x0 : Int) (x1 : Int) (x2 : List Int) (x3 : Bool) (x4 : List Int) (x5 : Bool) (x6 : List Int) (x7 : Bool) (x8 : List Int) : pCode tb (publicanref1_Add_G m) 0 Tryz.f101.ntmps (lpC (bodyOf Tryz.f101) 0) [] (fun s => match head 0 [(7, .any), (5, .arr 6), (6, .any), (3, .fcells [(1, 6)]), (2, .fcells [(1, 6)]), (4, .fcells [(1, 6)])] s with | (vs, os) => ρ vs os) (fun i s => match head 0 [(4, .any), (5, .any), (2, .any)] s with | (vs, os) => kx i vs os) (fun s => match head 0 [] s with | (vs, os) => kr vs os) ⟨mkEnv [(7, .any), (5, .arr 6), (6, .any), (3, .fcells [(1, 6)]), (2, .fcells [(1, 6)]), (4, .fcells [(1, 6)])] [.int .i64 x0, .loc 0, .int .u64 x1, .ptr 1 0, .ptr 2 0, .ptr 3 0], [.arr 6 x2, .cells [.bool x3, .sl 6 x4], .cells [.bool x5, .sl 6 x6], .cells [.bool x7, .sl 6 x8]]⟩ = publicanref1_Add_S0 m (fun x0 x1 x2 x3 x4 x5 x6 x7 x8 => ρ [.int .i64 x0, .loc 0, .int .u64 x1, .ptr 1 0, .ptr 2 0, .ptr 3 0] [.arr 6 x2, .cells [.bool x3, .sl 6 x4], .cells [.bool x5, .sl 6 x6], .cells [.bool x7, .sl 6 x8]]) (fun y0 y1 y2 y3 y4 => kx 0 [.ptr 0 0, .loc 1, .ptr 2 0] [.cells [.bool y0, .sl 6 y1], .arr 6 y2, .cells [.bool y3, .sl 6 y4]]) x0 x1 x2 x3 x4 x5 x6 x7 x8 := by
  delta publicanref1_Add_G publicanref1_Add_S0 publicanref1_less_sem publicanref1_digit_sem publicanref1_trim_sem
  generalize publicanref1_less (R := R) m = c0
  generalize publicanref1_digit (R := R) m = c1
  generalize publicanref1_trim (R := R) m = c2
  refine id ?_
  kernel_rfl
set_option maxHeartbeats 4000000 in
theorem publicanref1_Add_L0_eq (m : Nat) (j : Nat) : ∀ (kx : Nat → List V → List PObj → Option R) (kr : List V → List PObj → Option R) (x0 : Int) (x1 : Int) (x2 : List Int) (x3 : Bool) (x4 : List Int) (x5 : Bool) (x6 : List Int) (x7 : Bool) (x8 : List Int), loopP tb (publicanref1_Add_G m) 0 Tryz.f101.ntmps [(7, .any), (5, .arr 6), (6, .any), (3, .fcells [(1, 6)]), (2, .fcells [(1, 6)]), (4, .fcells [(1, 6)])] [(4, .any), (5, .any), (2, .any)] [] [] (lpC (bodyOf Tryz.f101) 0) j [.int .i64 x0, .loc 0, .int .u64 x1, .ptr 1 0, .ptr 2 0, .ptr 3 0] [.arr 6 x2, .cells [.bool x3, .sl 6 x4], .cells [.bool x5, .sl 6 x6], .cells [.bool x7, .sl 6 x8]] kx kr = publicanref1_Add_L0 m j x0 x1 x2 x3 x4 x5 x6 x7 x8 (fun y0 y1 y2 y3 y4 => kx 0 [.ptr 0 0, .loc 1, .ptr 2 0] [.cells [.bool y0, .sl 6 y1], .arr 6 y2, .cells [.bool y3, .sl 6 y4]]) := by
  induction j with
  | zero => intros; rfl
  | succ j ih =>
    intro kx kr x0 x1 x2 x3 x4 x5 x6 x7 x8
    refine Eq.trans ?_ (Eq.trans (Eq.trans (publicanref1_Add_S0_eq m (fun vs os => loopP tb (publicanref1_Add_G m) 0 Tryz.f101.ntmps [(7, .any), (5, .arr 6), (6, .any), (3, .fcells [(1, 6)]), (2, .fcells [(1, 6)]), (4, .fcells [(1, 6)])] [(4, .any), (5, .any), (2, .any)] [] [] (lpC (bodyOf Tryz.f101) 0) j vs os kx kr) kx kr x0 x1 x2 x3 x4 x5 x6 x7 x8) (congrArg (fun ρ => publicanref1_Add_S0 m ρ (fun y0 y1 y2 y3 y4 => kx 0 [.ptr 0 0, .loc 1, .ptr 2 0] [.cells [.bool y0, .sl 6 y1], .arr 6 y2, .cells [.bool y3, .sl 6 y4]]) x0 x1 x2 x3 x4 x5 x6 x7 x8) (funext fun x0 => funext fun x1 => funext fun x2 => funext fun x3 => funext fun x4 => funext fun x5 => funext fun x6 => funext fun x7 => funext fun x8 => ih kx kr x0 x1 x2 x3 x4 x5 x6 x7 x8))) ?_) <;> kernel_rfl
noncomputable def publicanref1_Add_X0 (m : Nat) : LoopH R := ⟨[(7, .any), (5, .arr 6), (6, .any), (3, .fcells [(1, 6)]), (2, .fcells [(1, 6)]), (4, .fcells [(1, 6)])], [(4, .any), (5, .any), (2, .any)], [], fun vs os kx kr => match vs, os with | [v0_, v1_, v2_, v3_, v4_, v5_], [q0_, q1_, q2_, q3_] => ((rdInt .i64 v0_).bind fun x0 => (rdLoc 0 v1_).bind fun u0 => (rdInt .u64 v2_).bind fun x1 => (rdPtr 1 0 v3_).bind fun u1 => (rdPtr 2 0 v4_).bind fun u2 => (rdPtr 3 0 v5_).bind fun u3 => (rdArr 6 q0_).bind fun x2 => (rdCells q1_).bind fun l4 => match l4 with | [c5_0, c5_1] => ((rdBool c5_0).bind fun x3 => (rdSl 6 c5_1).bind fun x4 => (rdCells q2_).bind fun l6 => match l6 with | [c7_0, c7_1] => ((rdBool c7_0).bind fun x5 => (rdSl 6 c7_1).bind fun x6 => (rdCells q3_).bind fun l8 => match l8 with | [c9_0, c9_1] => ((rdBool c9_0).bind fun x7 => (rdSl 6 c9_1).bind fun x8 => publicanref1_Add_L0 m m x0 x1 x2 x3 x4 x5 x6 x7 x8 (fun y0 y1 y2 y3 y4 => kx 0 [.ptr 0 0, .loc 1, .ptr 2 0] [.cells [.bool y0, .sl 6 y1], .arr 6 y2, .cells [.bool y3, .sl 6 y4]])) | _ => none) | _ => none) | _ => none) | _, _ => none⟩
set_option maxHeartbeats 4000000 in
theorem publicanref1_Add_X0_ok {m : Nat} (HG : ∀ f, SemOK cxP f (publicanref1_Add_G (R := R) m f)) : LoopSem cxP Tryz.f101.ntmps 0 (lpC (bodyOf Tryz.f101) 0) (publicanref1_Add_X0 (R := R) m) :=
  loop_of C HG (L := []) (by kernel_rfl) (by rw [show loopsIn (lpC (bodyOf Tryz.f101) 0) = [] from by kernel_rfl]; exact (.nil _)) m fun vs os kx kr r h => by
    try dsimp only at h
    split at h; rotate_left; cases h
    rename_i v0_ v1_ v2_ v3_ v4_ v5_ q0_ q1_ q2_ q3_
    replace h := Option.bind_eq_some_iff.1 h; obtain ⟨x0, hh, h⟩ := h; obtain rfl := rdInt_eq hh; clear hh
    replace h := Option.bind_eq_some_iff.1 h; obtain ⟨u0, hh, h⟩ := h; obtain rfl := rdLoc_eq hh; clear hh
    replace h := Option.bind_eq_some_iff.1 h; obtain ⟨x1, hh, h⟩ := h; obtain rfl := rdInt_eq hh; clear hh
    replace h := Option.bind_eq_some_iff.1 h; obtain ⟨u1, hh, h⟩ := h; obtain rfl := rdPtr_eq hh; clear hh
    replace h := Option.bind_eq_some_iff.1 h; obtain ⟨u2, hh, h⟩ := h; obtain rfl := rdPtr_eq hh; clear hh
    replace h := Option.bind_eq_some_iff.1 h; obtain ⟨u3, hh, h⟩ := h; obtain rfl := rdPtr_eq hh; clear hh
    replace h := Option.bind_eq_some_iff.1 h; obtain ⟨x2, hh, h⟩ := h; obtain rfl := rdArr_eq hh; clear hh
    replace h := Option.bind_eq_some_iff.1 h; obtain ⟨l4, hh, h⟩ := h; obtain rfl := rdCells_eq hh; clear hh
    split at h; rotate_left; cases h
    rename_i c5_0 c5_1
    replace h := Option.bind_eq_some_iff.1 h; obtain ⟨x3, hh, h⟩ := h; obtain rfl := rdBool_eq hh; clear hh
    replace h := Option.bind_eq_some_iff.1 h; obtain ⟨x4, hh, h⟩ := h; obtain rfl := rdSl_eq hh; clear hh
    replace h := Option.bind_eq_some_iff.1 h; obtain ⟨l6, hh, h⟩ := h; obtain rfl := rdCells_eq hh; clear hh
    split at h; rotate_left; cases h
    rename_i c7_0 c7_1
    replace h := Option.bind_eq_some_iff.1 h; obtain ⟨x5, hh, h⟩ := h; obtain rfl := rdBool_eq hh; clear hh
    replace h := Option.bind_eq_some_iff.1 h; obtain ⟨x6, hh, h⟩ := h; obtain rfl := rdSl_eq hh; clear hh
    replace h := Option.bind_eq_some_iff.1 h; obtain ⟨l8, hh, h⟩ := h; obtain rfl := rdCells_eq hh; clear hh
    split at h; rotate_left; cases h
    rename_i c9_0 c9_1
    replace h := Option.bind_eq_some_iff.1 h; obtain ⟨x7, hh, h⟩ := h; obtain rfl := rdBool_eq hh; clear hh
    replace h := Option.bind_eq_some_iff.1 h; obtain ⟨x8, hh, h⟩ := h; obtain rfl := rdSl_eq hh; clear hh
    exact (publicanref1_Add_L0_eq m m kx kr x0 x1 x2 x3 x4 x5 x6 x7 x8).trans h
noncomputable def publicanref1_Add_w (F : T_publicanref1_Big → T_publicanref1_Big → (T_publicanref1_Big → Option R) → Option R) : PSem R := fun vs os κ => match vs, os with | [v0_, v1_], [] => ((rdSt 5 v0_).bind fun a0 => (rdSt 5 v1_).bind fun a1 => F a0 a1 (fun r => κ (.st 5 r) [])) | _, _ => none
def publicanref1_Add_ac : List (Option (Bool × Nat)) := [some (false, 5), some (false, 5)]
set_option maxRecDepth 100000 in
theorem publicanref1_Add_eq (m : Nat) (a0 : T_publicanref1_Big) (a1 : T_publicanref1_Big) (κ : V → List PObj → Option R) : pFun tb (publicanref1_Add_G m) 0 [publicanref1_Add_X0 m, publicanref1_Add_X1 m] [some (false, 5)] Tryz.f101 [.st 5 a0, .st 5 a1] [] κ = publicanref1_Add m a0 a1 (fun r => κ (.st 5 r) []) := by
  delta publicanref1_Add_G publicanref1_Add publicanref1_less_sem publicanref1_digit_sem publicanref1_trim_sem publicanref1_Add_X0 publicanref1_Add_X1
  generalize publicanref1_less (R := R) m = c0
  generalize publicanref1_digit (R := R) m = c1
  generalize publicanref1_trim (R := R) m = c2
  generalize publicanref1_Add_L0 (R := R) m = c3
  generalize publicanref1_Add_L1 (R := R) m = c4
  refine id ?_
  kernel_rfl
noncomputable def publicanref1_Add_sem (m : Nat) : PSem R := semOf publicanref1_Add_ac (publicanref1_Add_w (publicanref1_Add m))
theorem publicanref1_Add_ok (m : Nat) : SemOK cxP 101 (publicanref1_Add_sem (R := R) m) :=
  have HG : ∀ f, SemOK cxP f (publicanref1_Add_G (R := R) m f) := tabG_ok (.cons (publicanref1_less_ok m) (.cons (publicanref1_digit_ok m) (.cons (publicanref1_trim_ok m) .nil)))
  semOf_ok (fun_of C HG (L := [publicanref1_Add_X0 m, publicanref1_Add_X1 m]) (rc := [some (false, 5)]) (k := 0) (fn_of Tryz.func101) rfl rfl (by kernel_rfl) (by rw [show loopsIn (bodyOf Tryz.f101) = [(lpC (bodyOf Tryz.f101) 0), (lpC (bodyOf Tryz.f101) 1)] from by kernel_rfl]; exact (.cons (publicanref1_Add_X0_ok HG) (.cons (publicanref1_Add_X1_ok HG) (.nil _)))) fun vs os κ r h => by
    unfold publicanref1_Add_w at h
    split at h; rotate_left; cases h
    rename_i v0_ v1_
    replace h := Option.bind_eq_some_iff.1 h; obtain ⟨a0, hh, h⟩ := h; obtain rfl := rdSt_eq hh; clear hh
    replace h := Option.bind_eq_some_iff.1 h; obtain ⟨a1, hh, h⟩ := h; obtain rfl := rdSt_eq hh; clear hh
    exact (publicanref1_Add_eq m a0 a1 κ).trans h
)
noncomputable def num_Mul_G (m : Nat) : FuncId → PSem R := tabG [(176, num_product_sem m), (175, num_narrow_sem m)]
noncomputable def num_Mul_w (F : Int → Int → (Int → Bool → Option R) → Option R) : PSem R := fun vs os κ => match vs, os with | [v0_, v1_], [] => ((rdInt .i64 v0_).bind fun a0 => (rdInt .i64 v1_).bind fun a1 => F a0 a1 (fun r_0 r_1 => κ (.tup [.int .i64 r_0, .bool r_1]) [])) | _, _ => none
def num_Mul_ac : List (Option (Bool × Nat)) := [none, none]
set_option maxRecDepth 100000 in
theorem num_Mul_eq (m : Nat) (a0 : Int) (a1 : Int) (κ : V → List PObj → Option R) : pFun tb (num_Mul_G m) 0 [] [none, none] Tryz.f138 [.int .i64 a0, .int .i64 a1] [] κ = num_Mul m a0 a1 (fun r_0 r_1 => κ (.tup [.int .i64 r_0, .bool r_1]) []) := by
  delta num_Mul_G num_Mul num_product_sem num_narrow_sem
  generalize num_product (R := R) m = c0
  generalize num_narrow (R := R) m = c1
  refine id ?_
  kernel_rfl
noncomputable def num_Mul_sem (m : Nat) : PSem R := semOf num_Mul_ac (num_Mul_w (num_Mul m))
theorem num_Mul_ok (m : Nat) : SemOK cxP 138 (num_Mul_sem (R := R) m) :=
  have HG : ∀ f, SemOK cxP f (num_Mul_G (R := R) m f) := tabG_ok (.cons (num_product_ok m) (.cons (num_narrow_ok m) .nil))
  semOf_ok (fun_of C HG (L := []) (rc := [none, none]) (k := 0) (fn_of Tryz.func138) rfl rfl (by kernel_rfl) (by rw [show loopsIn (bodyOf Tryz.f138) = [] from by kernel_rfl]; exact (.nil _)) fun vs os κ r h => by
    unfold num_Mul_w at h
    split at h; rotate_left; cases h
    rename_i v0_ v1_
    replace h := Option.bind_eq_some_iff.1 h; obtain ⟨a0, hh, h⟩ := h; obtain rfl := rdInt_eq hh; clear hh
    replace h := Option.bind_eq_some_iff.1 h; obtain ⟨a1, hh, h⟩ := h; obtain rfl := rdInt_eq hh; clear hh
    exact (num_Mul_eq m a0 a1 κ).trans h
)
noncomputable def typ_Two_G (m : Nat) : FuncId → PSem R := tabG [(134, typ_sum_sem m), (135, typ_product_sem m), (136, typ_quotient_sem m), (137, typ_ordered_sem m)]
noncomputable def typ_Two_w (F : List UInt8 → Int → Int → (Int → Option R) → Option R) : PSem R := fun vs os κ => match vs, os with | [v0_, v1_, v2_], [] => ((rdStr v0_).bind fun a0 => (rdInt .i64 v1_).bind fun a1 => (rdInt .i64 v2_).bind fun a2 => F a0 a1 a2 (fun r => κ (.int .i64 r) [])) | _, _ => none
def typ_Two_ac : List (Option (Bool × Nat)) := [none, none, none]
set_option maxRecDepth 100000 in
theorem typ_Two_eq (m : Nat) (a0 : List UInt8) (a1 : Int) (a2 : Int) (κ : V → List PObj → Option R) : pFun tb (typ_Two_G m) 0 [] [none] Tryz.f88 [.str a0, .int .i64 a1, .int .i64 a2] [] κ = typ_Two m a0 a1 a2 (fun r => κ (.int .i64 r) []) := by
  delta typ_Two_G typ_Two typ_sum_sem typ_product_sem typ_quotient_sem typ_ordered_sem
  generalize typ_sum (R := R) m = c0
  generalize typ_product (R := R) m = c1
  generalize typ_quotient (R := R) m = c2
  generalize typ_ordered (R := R) m = c3
  refine id ?_
  kernel_rfl
noncomputable def typ_Two_sem (m : Nat) : PSem R := semOf typ_Two_ac (typ_Two_w (typ_Two m))
theorem typ_Two_ok (m : Nat) : SemOK cxP 88 (typ_Two_sem (R := R) m) :=
  have HG : ∀ f, SemOK cxP f (typ_Two_G (R := R) m f) := tabG_ok (.cons (typ_sum_ok m) (.cons (typ_product_ok m) (.cons (typ_quotient_ok m) (.cons (typ_ordered_ok m) .nil))))
  semOf_ok (fun_of C HG (L := []) (rc := [none]) (k := 0) (fn_of Tryz.func88) rfl rfl (by kernel_rfl) (by rw [show loopsIn (bodyOf Tryz.f88) = [] from by kernel_rfl]; exact (.nil _)) fun vs os κ r h => by
    unfold typ_Two_w at h
    split at h; rotate_left; cases h
    rename_i v0_ v1_ v2_
    replace h := Option.bind_eq_some_iff.1 h; obtain ⟨a0, hh, h⟩ := h; obtain rfl := rdStr_eq hh; clear hh
    replace h := Option.bind_eq_some_iff.1 h; obtain ⟨a1, hh, h⟩ := h; obtain rfl := rdInt_eq hh; clear hh
    replace h := Option.bind_eq_some_iff.1 h; obtain ⟨a2, hh, h⟩ := h; obtain rfl := rdInt_eq hh; clear hh
    exact (typ_Two_eq m a0 a1 a2 κ).trans h
)
noncomputable def publicanref1_Cmp_G (m : Nat) : FuncId → PSem R := tabG [(98, publicanref1_Minus_sem m), (101, publicanref1_Add_sem m)]
noncomputable def publicanref1_Cmp_w (F : T_publicanref1_Big → T_publicanref1_Big → (Int → Option R) → Option R) : PSem R := fun vs os κ => match vs, os with | [v0_, v1_], [] => ((rdSt 5 v0_).bind fun a0 => (rdSt 5 v1_).bind fun a1 => F a0 a1 (fun r => κ (.int .i64 r) [])) | _, _ => none
def publicanref1_Cmp_ac : List (Option (Bool × Nat)) := [some (false, 5), some (false, 5)]
set_option maxRecDepth 100000 in
theorem publicanref1_Cmp_eq (m : Nat) (a0 : T_publicanref1_Big) (a1 : T_publicanref1_Big) (κ : V → List PObj → Option R) : pFun tb (publicanref1_Cmp_G m) 0 [] [none] Tryz.f178 [.st 5 a0, .st 5 a1] [] κ = publicanref1_Cmp m a0 a1 (fun r => κ (.int .i64 r) []) := by
  delta publicanref1_Cmp_G publicanref1_Cmp publicanref1_Minus_sem publicanref1_Add_sem
  generalize publicanref1_Minus (R := R) m = c0
  generalize publicanref1_Add (R := R) m = c1
  refine id ?_
  kernel_rfl
noncomputable def publicanref1_Cmp_sem (m : Nat) : PSem R := semOf publicanref1_Cmp_ac (publicanref1_Cmp_w (publicanref1_Cmp m))
theorem publicanref1_Cmp_ok (m : Nat) : SemOK cxP 178 (publicanref1_Cmp_sem (R := R) m) :=
  have HG : ∀ f, SemOK cxP f (publicanref1_Cmp_G (R := R) m f) := tabG_ok (.cons (publicanref1_Minus_ok m) (.cons (publicanref1_Add_ok m) .nil))
  semOf_ok (fun_of C HG (L := []) (rc := [none]) (k := 0) (fn_of Tryz.func178) rfl rfl (by kernel_rfl) (by rw [show loopsIn (bodyOf Tryz.f178) = [] from by kernel_rfl]; exact (.nil _)) fun vs os κ r h => by
    unfold publicanref1_Cmp_w at h
    split at h; rotate_left; cases h
    rename_i v0_ v1_
    replace h := Option.bind_eq_some_iff.1 h; obtain ⟨a0, hh, h⟩ := h; obtain rfl := rdSt_eq hh; clear hh
    replace h := Option.bind_eq_some_iff.1 h; obtain ⟨a1, hh, h⟩ := h; obtain rfl := rdSt_eq hh; clear hh
    exact (publicanref1_Cmp_eq m a0 a1 κ).trans h
)
noncomputable def mean_one_G (m : Nat) : FuncId → PSem R := tabG [(133, typ_One_sem m), (94, mean_truth_sem m), (91, num_Sub_sem m), (90, mean_made_sem m)]
noncomputable def mean_one_w (F : List UInt8 → T_api_Value → (T_api_Value → Int → Option R) → Option R) : PSem R := fun vs os κ => match vs, os with | [v0_, v1_], [] => ((rdStr v0_).bind fun a0 => (rdSt 4 v1_).bind fun a1 => F a0 a1 (fun r_0 r_1 => κ (.tup [.st 4 r_0, .int .i64 r_1]) [])) | _, _ => none
def mean_one_ac : List (Option (Bool × Nat)) := [none, some (false, 4)]
set_option maxRecDepth 100000 in
theorem mean_one_eq (m : Nat) (a0 : List UInt8) (a1 : T_api_Value) (κ : V → List PObj → Option R) : pFun tb (mean_one_G m) 0 [] [some (false, 4), none] Tryz.f87 [.str a0, .st 4 a1] [] κ = mean_one m a0 a1 (fun r_0 r_1 => κ (.tup [.st 4 r_0, .int .i64 r_1]) []) := by
  delta mean_one_G mean_one typ_One_sem mean_truth_sem num_Sub_sem mean_made_sem
  generalize typ_One (R := R) m = c0
  generalize mean_truth (R := R) m = c1
  generalize num_Sub (R := R) m = c2
  generalize mean_made (R := R) m = c3
  refine id ?_
  kernel_rfl
noncomputable def mean_one_sem (m : Nat) : PSem R := semOf mean_one_ac (mean_one_w (mean_one m))
theorem mean_one_ok (m : Nat) : SemOK cxP 87 (mean_one_sem (R := R) m) :=
  have HG : ∀ f, SemOK cxP f (mean_one_G (R := R) m f) := tabG_ok (.cons (typ_One_ok m) (.cons (mean_truth_ok m) (.cons (num_Sub_ok m) (.cons (mean_made_ok m) .nil))))
  semOf_ok (fun_of C HG (L := []) (rc := [some (false, 4), none]) (k := 0) (fn_of Tryz.func87) rfl rfl (by kernel_rfl) (by rw [show loopsIn (bodyOf Tryz.f87) = [] from by kernel_rfl]; exact (.nil _)) fun vs os κ r h => by
    unfold mean_one_w at h
    split at h; rotate_left; cases h
    rename_i v0_ v1_
    replace h := Option.bind_eq_some_iff.1 h; obtain ⟨a0, hh, h⟩ := h; obtain rfl := rdStr_eq hh; clear hh
    replace h := Option.bind_eq_some_iff.1 h; obtain ⟨a1, hh, h⟩ := h; obtain rfl := rdSt_eq hh; clear hh
    exact (mean_one_eq m a0 a1 κ).trans h
)
noncomputable def publicanref1_Floor_G (m : Nat) : FuncId → PSem R := tabG [(101, publicanref1_Add_sem m), (99, publicanref1_Of_sem m), (144, publicanref1_less_sem m), (142, publicanref1_trim_sem m)]
set_option maxRecDepth 100000 in
theorem publicanref1_Floor_S0_0_eq (m : Nat) (ρ : List V → List PObj → Option R) (kx : Nat → List V → List PObj → Option R) (kr : List V → List PObj → Option R) (x0 : Int) (x1 : List Int) (x2 : Bool) (x3 : List Int) (x4 : Bool) (x5 : List Int) (x6 : Bool) (x7 : List Int) (x8 : Bool) (x9 : List Int) : pCode tb (publicanref1_Floor_G m) 0 Tryz.f103.ntmps (lpC (lpC (bodyOf Tryz.f103) 0) 0) [] (fun s => match head 0 [(5, .any), (6, .fcells [(1, 6)]), (3, .fcells [(1, 6)]), (2, .fcells [(1, 6)]), (4, .fcells [(1, 6)]), (7, .any)] s with | (vs, os) => ρ vs os) (fun i s => match head 0 [(5, .any), (6, .any), (3, .any), (2, .any), (4, .any), (7, .any)] s with | (vs, os) => kx i vs os) (fun s => match head 0 [] s with | (vs, os) => kr vs os) ⟨mkEnv [(5, .any), (6, .fcells [(1, 6)]), (3, .fcells [(1, 6)]), (2, .fcells [(1, 6)]), (4, .fcells [(1, 6)]), (7, .any)] [.loc 0, .ptr 1 0, .ptr 2 0, .ptr 3 0, .ptr 4 0, .int .i64 x0], [.arr 6 x1, .cells [.bool x2, .sl 6 x3], .cells [.bool x4, .sl 6 x5], .cells [.bool x6, .sl 6 x7], .cells [.bool x8, .sl 6 x9]]⟩ = publicanref1_Floor_S0_0 m (fun x0 x1 x2 x3 x4 x5 x6 x7 x8 x9 => ρ [.loc 0, .ptr 1 0, .ptr 2 0, .ptr 3 0, .ptr 4 0, .int .i64 x0] [.arr 6 x1, .cells [.bool x2, .sl 6 x3], .cells [.bool x4, .sl 6 x5], .cells [.bool x6, .sl 6 x7], .cells [.bool x8, .sl 6 x9]]) (fun y0 y1 y2 y3 y4 y5 y6 y7 y8 y9 => kx 2 [.loc 0, .ptr 1 0, .ptr 2 0, .ptr 3 0, .ptr 4 0, .int .i64 y0] [.arr 6 y1, .cells [.bool y2, .sl 6 y3], .cells [.bool y4, .sl 6 y5], .cells [.bool y6, .sl 6 y7], .cells [.bool y8, .sl 6 y9]]) x0 x1 x2 x3 x4 x5 x6 x7 x8 x9 := by
  delta publicanref1_Floor_G publicanref1_Floor_S0_0 publicanref1_Add_sem publicanref1_Of_sem publicanref1_less_sem publicanref1_trim_sem
  generalize publicanref1_Add (R := R) m = c0
  generalize publicanref1_Of (R := R) m = c1
  generalize publicanref1_less (R := R) m = c2
  generalize publicanref1_trim (R := R) m = c3
  refine id ?_
  kernel_rfl
set_option maxHeartbeats 4000000 in
theorem publicanref1_Floor_L0_0_eq (m : Nat) (j : Nat) : ∀ (kx : Nat → List V → List PObj → Option R) (kr : List V → List PObj → Option R) (x0 : Int) (x1 : List Int) (x2 : Bool) (x3 : List Int) (x4 : Bool) (x5 : List Int) (x6 : Bool) (x7 : List Int) (x8 : Bool) (x9 : List Int), loopP tb (publicanref1_Floor_G m) 0 Tryz.f103.ntmps [(5, .any), (6, .fcells [(1, 6)]), (3, .fcells [(1, 6)]), (2, .fcells [(1, 6)]), (4, .fcells [(1, 6)]), (7, .any)] [(5, .any), (6, .any), (3, .any), (2, .any), (4, .any), (7, .any)] [] [] (lpC (lpC (bodyOf Tryz.f103) 0) 0) j [.loc 0, .ptr 1 0, .ptr 2 0, .ptr 3 0, .ptr 4 0, .int .i64 x0] [.arr 6 x1, .cells [.bool x2, .sl 6 x3], .cells [.bool x4, .sl 6 x5], .cells [.bool x6, .sl 6 x7], .cells [.bool x8, .sl 6 x9]] kx kr = publicanref1_Floor_L0_0 m j x0 x1 x2 x3 x4 x5 x6 x7 x8 x9 (fun y0 y1 y2 y3 y4 y5 y6 y7 y8 y9 => kx 2 [.loc 0, .ptr 1 0, .ptr 2 0, .ptr 3 0, .ptr 4 0, .int .i64 y0] [.arr 6 y1, .cells [.bool y2, .sl 6 y3], .cells [.bool y4, .sl 6 y5], .cells [.bool y6, .sl 6 y7], .cells [.bool y8, .sl 6 y9]]) := by
  induction j with
  | zero => intros; rfl
  | succ j ih =>
    intro kx kr x0 x1 x2 x3 x4 x5 x6 x7 x8 x9
    refine Eq.trans ?_ (Eq.trans (Eq.trans (publicanref1_Floor_S0_0_eq m (fun vs os => loopP tb (publicanref1_Floor_G m) 0 Tryz.f103.ntmps [(5, .any), (6, .fcells [(1, 6)]), (3, .fcells [(1, 6)]), (2, .fcells [(1, 6)]), (4, .fcells [(1, 6)]), (7, .any)] [(5, .any), (6, .any), (3, .any), (2, .any), (4, .any), (7, .any)] [] [] (lpC (lpC (bodyOf Tryz.f103) 0) 0) j vs os kx kr) kx kr x0 x1 x2 x3 x4 x5 x6 x7 x8 x9) (congrArg (fun ρ => publicanref1_Floor_S0_0 m ρ (fun y0 y1 y2 y3 y4 y5 y6 y7 y8 y9 => kx 2 [.loc 0, .ptr 1 0, .ptr 2 0, .ptr 3 0, .ptr 4 0, .int .i64 y0] [.arr 6 y1, .cells [.bool y2, .sl 6 y3], .cells [.bool y4, .sl 6 y5], .cells [.bool y6, .sl 6 y7], .cells [.bool y8, .sl 6 y9]]) x0 x1 x2 x3 x4 x5 x6 x7 x8 x9) (funext fun x0 => funext fun x1 => funext fun x2 => funext fun x3 => funext fun x4 => funext fun x5 => funext fun x6 => funext fun x7 => funext fun x8 => funext fun x9 => ih kx kr x0 x1 x2 x3 x4 x5 x6 x7 x8 x9))) ?_) <;> kernel_rfl
noncomputable def publicanref1_Floor_X0_0 (m : Nat) : LoopH R := ⟨[(5, .any), (6, .fcells [(1, 6)]), (3, .fcells [(1, 6)]), (2, .fcells [(1, 6)]), (4, .fcells [(1, 6)]), (7, .any)], [(5, .any), (6, .any), (3, .any), (2, .any), (4, .any), (7, .any)], [], fun vs os kx kr => match vs, os with | [v0_, v1_, v2_, v3_, v4_, v5_], [q0_, q1_, q2_, q3_, q4_] => ((rdLoc 0 v0_).bind fun u0 => (rdPtr 1 0 v1_).bind fun u1 => (rdPtr 2 0 v2_).bind fun u2 => (rdPtr 3 0 v3_).bind fun u3 => (rdPtr 4 0 v4_).bind fun u4 => (rdInt .i64 v5_).bind fun x0 => (rdArr 6 q0_).bind fun x1 => (rdCells q1_).bind fun l5 => match l5 with | [c6_0, c6_1] => ((rdBool c6_0).bind fun x2 => (rdSl 6 c6_1).bind fun x3 => (rdCells q2_).bind fun l7 => match l7 with | [c8_0, c8_1] => ((rdBool c8_0).bind fun x4 => (rdSl 6 c8_1).bind fun x5 => (rdCells q3_).bind fun l9 => match l9 with | [c10_0, c10_1] => ((rdBool c10_0).bind fun x6 => (rdSl 6 c10_1).bind fun x7 => (rdCells q4_).bind fun l11 => match l11 with | [c12_0, c12_1] => ((rdBool c12_0).bind fun x8 => (rdSl 6 c12_1).bind fun x9 => publicanref1_Floor_L0_0 m m x0 x1 x2 x3 x4 x5 x6 x7 x8 x9 (fun y0 y1 y2 y3 y4 y5 y6 y7 y8 y9 => kx 2 [.loc 0, .ptr 1 0, .ptr 2 0, .ptr 3 0, .ptr 4 0, .int .i64 y0] [.arr 6 y1, .cells [.bool y2, .sl 6 y3], .cells [.bool y4, .sl 6 y5], .cells [.bool y6, .sl 6 y7], .cells [.bool y8, .sl 6 y9]])) | _ => none) | _ => none) | _ => none) | _ => none) | _, _ => none⟩
set_option maxHeartbeats 4000000 in
theorem publicanref1_Floor_X0_0_ok {m : Nat} (HG : ∀ f, SemOK cxP f (publicanref1_Floor_G (R := R) m f)) : LoopSem cxP Tryz.f103.ntmps 0 (lpC (lpC (bodyOf Tryz.f103) 0) 0) (publicanref1_Floor_X0_0 (R := R) m) :=
  loop_of C HG (L := []) (by kernel_rfl) (by rw [show loopsIn (lpC (lpC (bodyOf Tryz.f103) 0) 0) = [] from by kernel_rfl]; exact (.nil _)) m fun vs os kx kr r h => by
    try dsimp only at h
    split at h; rotate_left; cases h
    rename_i v0_ v1_ v2_ v3_ v4_ v5_ q0_ q1_ q2_ q3_ q4_
    replace h := Option.bind_eq_some_iff.1 h; obtain ⟨u0, hh, h⟩ := h; obtain rfl := rdLoc_eq hh; clear hh
    replace h := Option.bind_eq_some_iff.1 h; obtain ⟨u1, hh, h⟩ := h; obtain rfl := rdPtr_eq hh; clear hh
    replace h := Option.bind_eq_some_iff.1 h; obtain ⟨u2, hh, h⟩ := h; obtain rfl := rdPtr_eq hh; clear hh
    replace h := Option.bind_eq_some_iff.1 h; obtain ⟨u3, hh, h⟩ := h; obtain rfl := rdPtr_eq hh; clear hh
    replace h := Option.bind_eq_some_iff.1 h; obtain ⟨u4, hh, h⟩ := h; obtain rfl := rdPtr_eq hh; clear hh
    replace h := Option.bind_eq_some_iff.1 h; obtain ⟨x0, hh, h⟩ := h; obtain rfl := rdInt_eq hh; clear hh
    replace h := Option.bind_eq_some_iff.1 h; obtain ⟨x1, hh, h⟩ := h; obtain rfl := rdArr_eq hh; clear hh
    replace h := Option.bind_eq_some_iff.1 h; obtain ⟨l5, hh, h⟩ := h; obtain rfl := rdCells_eq hh; clear hh
    split at h; rotate_left; cases h
    rename_i c6_0 c6_1
    replace h := Option.bind_eq_some_iff.1 h; obtain ⟨x2, hh, h⟩ := h; obtain rfl := rdBool_eq hh; clear hh
    replace h := Option.bind_eq_some_iff.1 h; obtain ⟨x3, hh, h⟩ := h; obtain rfl := rdSl_eq hh; clear hh
    replace h := Option.bind_eq_some_iff.1 h; obtain ⟨l7, hh, h⟩ := h; obtain rfl := rdCells_eq hh; clear hh
    split at h; rotate_left; cases h
    rename_i c8_0 c8_1
    replace h := Option.bind_eq_some_iff.1 h; obtain ⟨x4, hh, h⟩ := h; obtain rfl := rdBool_eq hh; clear hh
    replace h := Option.bind_eq_some_iff.1 h; obtain ⟨x5, hh, h⟩ := h; obtain rfl := rdSl_eq hh; clear hh
    replace h := Option.bind_eq_some_iff.1 h; obtain ⟨l9, hh, h⟩ := h; obtain rfl := rdCells_eq hh; clear hh
    split at h; rotate_left; cases h
    rename_i c10_0 c10_1
    replace h := Option.bind_eq_some_iff.1 h; obtain ⟨x6, hh, h⟩ := h; obtain rfl := rdBool_eq hh; clear hh
    replace h := Option.bind_eq_some_iff.1 h; obtain ⟨x7, hh, h⟩ := h; obtain rfl := rdSl_eq hh; clear hh
    replace h := Option.bind_eq_some_iff.1 h; obtain ⟨l11, hh, h⟩ := h; obtain rfl := rdCells_eq hh; clear hh
    split at h; rotate_left; cases h
    rename_i c12_0 c12_1
    replace h := Option.bind_eq_some_iff.1 h; obtain ⟨x8, hh, h⟩ := h; obtain rfl := rdBool_eq hh; clear hh
    replace h := Option.bind_eq_some_iff.1 h; obtain ⟨x9, hh, h⟩ := h; obtain rfl := rdSl_eq hh; clear hh
    exact (publicanref1_Floor_L0_0_eq m m kx kr x0 x1 x2 x3 x4 x5 x6 x7 x8 x9).trans h
set_option maxRecDepth 100000 in
theorem publicanref1_Floor_S0_eq (m : Nat) (ρ : List V → List PObj → Option R) (kx : Nat → List V → List PObj → Option R) (kr : List V → List PObj → Option R) (x0 : Int) (x1 : List Int) (x2 : Bool) (x3 : List Int) (x4 : Bool) (x5 : List Int) (x6 : Bool) (x7 : List Int) (x8 : Bool) (x9 : List Int) : pCode tb (publicanref1_Floor_G m) 0 Tryz.f103.ntmps (lpC (bodyOf Tryz.f103) 0) [publicanref1_Floor_X0_0 m] (fun s => match head 0 [(5, .arr 6), (7, .any), (6, .fcells [(1, 6)]), (3, .fcells [(1, 6)]), (2, .fcells [(1, 6)]), (4, .fcells [(1, 6)])] s with | (vs, os) => ρ vs os) (fun i s => match head 0 [(4, .any), (6, .any), (3, .any), (2, .any), (5, .any)] s with | (vs, os) => kx i vs os) (fun s => match head 0 [] s with | (vs, os) => kr vs os) ⟨mkEnv [(5, .arr 6), (7, .any), (6, .fcells [(1, 6)]), (3, .fcells [(1, 6)]), (2, .fcells [(1, 6)]), (4, .fcells [(1, 6)])] [.loc 0, .int .i64 x0, .ptr 1 0, .ptr 2 0, .ptr 3 0, .ptr 4 0], [.arr 6 x1, .cells [.bool x2, .sl 6 x3], .cells [.bool x4, .sl 6 x5], .cells [.bool x6, .sl 6 x7], .cells [.bool x8, .sl 6 x9]]⟩ = publicanref1_Floor_S0 m (fun x0 x1 x2 x3 x4 x5 x6 x7 x8 x9 => ρ [.loc 0, .int .i64 x0, .ptr 1 0, .ptr 2 0, .ptr 3 0, .ptr 4 0] [.arr 6 x1, .cells [.bool x2, .sl 6 x3], .cells [.bool x4, .sl 6 x5], .cells [.bool x6, .sl 6 x7], .cells [.bool x8, .sl 6 x9]]) (fun y0 y1 y2 y3 y4 y5 y6 y7 y8 => kx 0 [.ptr 0 0, .ptr 1 0, .ptr 2 0, .ptr 3 0, .loc 4] [.cells [.bool y0, .sl 6 y1], .cells [.bool y2, .sl 6 y3], .cells [.bool y4, .sl 6 y5], .cells [.bool y6, .sl 6 y7], .arr 6 y8]) x0 x1 x2 x3 x4 x5 x6 x7 x8 x9 := by
  delta publicanref1_Floor_G publicanref1_Floor_S0 publicanref1_Add_sem publicanref1_Of_sem publicanref1_less_sem publicanref1_trim_sem publicanref1_Floor_X0_0
  generalize publicanref1_Add (R := R) m = c0
  generalize publicanref1_Of (R := R) m = c1
  generalize publicanref1_less (R := R) m = c2
  generalize publicanref1_trim (R := R) m = c3
  generalize publicanref1_Floor_L0_0 (R := R) m = c4
  refine id ?_
  kernel_rfl
set_option maxHeartbeats 4000000 in
theorem publicanref1_Floor_L0_eq (m : Nat) (j : Nat) : ∀ (kx : Nat → List V → List PObj → Option R) (kr : List V → List PObj → Option R) (x0 : Int) (x1 : List Int) (x2 : Bool) (x3 : List Int) (x4 : Bool) (x5 : List Int) (x6 : Bool) (x7 : List Int) (x8 : Bool) (x9 : List Int), loopP tb (publicanref1_Floor_G m) 0 Tryz.f103.ntmps [(5, .arr 6), (7, .any), (6, .fcells [(1, 6)]), (3, .fcells [(1, 6)]), (2, .fcells [(1, 6)]), (4, .fcells [(1, 6)])] [(4, .any), (6, .any), (3, .any), (2, .any), (5, .any)] [] [publicanref1_Floor_X0_0 m] (lpC (bodyOf Tryz.f103) 0) j [.loc 0, .int .i64 x0, .ptr 1 0, .ptr 2 0, .ptr 3 0, .ptr 4 0] [.arr 6 x1, .cells [.bool x2, .sl 6 x3], .cells [.bool x4, .sl 6 x5], .cells [.bool x6, .sl 6 x7], .cells [.bool x8, .sl 6 x9]] kx kr = publicanref1_Floor_L0 m j x0 x1 x2 x3 x4 x5 x6 x7 x8 x9 (fun y0 y1 y2 y3 y4 y5 y6 y7 y8 => kx 0 [.ptr 0 0, .ptr 1 0, .ptr 2 0, .ptr 3 0, .loc 4] [.cells [.bool y0, .sl 6 y1], .cells [.bool y2, .sl 6 y3], .cells [.bool y4, .sl 6 y5], .cells [.bool y6, .sl 6 y7], .arr 6 y8]) := by
  induction j with
  | zero => intros; rfl
  | succ j ih =>
    intro kx kr x0 x1 x2 x3 x4 x5 x6 x7 x8 x9
    refine Eq.trans ?_ (Eq.trans (Eq.trans (publicanref1_Floor_S0_eq m (fun vs os => loopP tb (publicanref1_Floor_G m) 0 Tryz.f103.ntmps [(5, .arr 6), (7, .any), (6, .fcells [(1, 6)]), (3, .fcells [(1, 6)]), (2, .fcells [(1, 6)]), (4, .fcells [(1, 6)])] [(4, .any), (6, .any), (3, .any), (2, .any), (5, .any)] [] [publicanref1_Floor_X0_0 m] (lpC (bodyOf Tryz.f103) 0) j vs os kx kr) kx kr x0 x1 x2 x3 x4 x5 x6 x7 x8 x9) (congrArg (fun ρ => publicanref1_Floor_S0 m ρ (fun y0 y1 y2 y3 y4 y5 y6 y7 y8 => kx 0 [.ptr 0 0, .ptr 1 0, .ptr 2 0, .ptr 3 0, .loc 4] [.cells [.bool y0, .sl 6 y1], .cells [.bool y2, .sl 6 y3], .cells [.bool y4, .sl 6 y5], .cells [.bool y6, .sl 6 y7], .arr 6 y8]) x0 x1 x2 x3 x4 x5 x6 x7 x8 x9) (funext fun x0 => funext fun x1 => funext fun x2 => funext fun x3 => funext fun x4 => funext fun x5 => funext fun x6 => funext fun x7 => funext fun x8 => funext fun x9 => ih kx kr x0 x1 x2 x3 x4 x5 x6 x7 x8 x9))) ?_) <;> kernel_rfl
noncomputable def publicanref1_Floor_X0 (m : Nat) : LoopH R := ⟨[(5, .arr 6), (7, .any), (6, .fcells [(1, 6)]), (3, .fcells [(1, 6)]), (2, .fcells [(1, 6)]), (4, .fcells [(1, 6)])], [(4, .any), (6, .any), (3, .any), (2, .any), (5, .any)], [], fun vs os kx kr => match vs, os with | [v0_, v1_, v2_, v3_, v4_, v5_], [q0_, q1_, q2_, q3_, q4_] => ((rdLoc 0 v0_).bind fun u0 => (rdInt .i64 v1_).bind fun x0 => (rdPtr 1 0 v2_).bind fun u1 => (rdPtr 2 0 v3_).bind fun u2 => (rdPtr 3 0 v4_).bind fun u3 => (rdPtr 4 0 v5_).bind fun u4 => (rdArr 6 q0_).bind fun x1 => (rdCells q1_).bind fun l5 => match l5 with | [c6_0, c6_1] => ((rdBool c6_0).bind fun x2 => (rdSl 6 c6_1).bind fun x3 => (rdCells q2_).bind fun l7 => match l7 with | [c8_0, c8_1] => ((rdBool c8_0).bind fun x4 => (rdSl 6 c8_1).bind fun x5 => (rdCells q3_).bind fun l9 => match l9 with | [c10_0, c10_1] => ((rdBool c10_0).bind fun x6 => (rdSl 6 c10_1).bind fun x7 => (rdCells q4_).bind fun l11 => match l11 with | [c12_0, c12_1] => ((rdBool c12_0).bind fun x8 => (rdSl 6 c12_1).bind fun x9 => publicanref1_Floor_L0 m m x0 x1 x2 x3 x4 x5 x6 x7 x8 x9 (fun y0 y1 y2 y3 y4 y5 y6 y7 y8 => kx 0 [.ptr 0 0, .ptr 1 0, .ptr 2 0, .ptr 3 0, .loc 4] [.cells [.bool y0, .sl 6 y1], .cells [.bool y2, .sl 6 y3], .cells [.bool y4, .sl 6 y5], .cells [.bool y6, .sl 6 y7], .arr 6 y8])) | _ => none) | _ => none) | _ => none) | _ => none) | _, _ => none⟩
set_option maxHeartbeats 4000000 in
theorem publicanref1_Floor_X0_ok {m : Nat} (HG : ∀ f, SemOK cxP f (publicanref1_Floor_G (R := R) m f)) : LoopSem cxP Tryz.f103.ntmps 0 (lpC (bodyOf Tryz.f103) 0) (publicanref1_Floor_X0 (R := R) m) :=
  loop_of C HG (L := [publicanref1_Floor_X0_0 m]) (by kernel_rfl) (by rw [show loopsIn (lpC (bodyOf Tryz.f103) 0) = [(lpC (lpC (bodyOf Tryz.f103) 0) 0)] from by kernel_rfl]; exact (.cons (publicanref1_Floor_X0_0_ok HG) (.nil _))) m fun vs os kx kr r h => by
    try dsimp only at h
    split at h; rotate_left; cases h
    rename_i v0_ v1_ v2_ v3_ v4_ v5_ q0_ q1_ q2_ q3_ q4_
    replace h := Option.bind_eq_some_iff.1 h; obtain ⟨u0, hh, h⟩ := h; obtain rfl := rdLoc_eq hh; clear hh
    replace h := Option.bind_eq_some_iff.1 h; obtain ⟨x0, hh, h⟩ := h; obtain rfl := rdInt_eq hh; clear hh
    replace h := Option.bind_eq_some_iff.1 h; obtain ⟨u1, hh, h⟩ := h; obtain rfl := rdPtr_eq hh; clear hh
    replace h := Option.bind_eq_some_iff.1 h; obtain ⟨u2, hh, h⟩ := h; obtain rfl := rdPtr_eq hh; clear hh
    replace h := Option.bind_eq_some_iff.1 h; obtain ⟨u3, hh, h⟩ := h; obtain rfl := rdPtr_eq hh; clear hh
    replace h := Option.bind_eq_some_iff.1 h; obtain ⟨u4, hh, h⟩ := h; obtain rfl := rdPtr_eq hh; clear hh
    replace h := Option.bind_eq_some_iff.1 h; obtain ⟨x1, hh, h⟩ := h; obtain rfl := rdArr_eq hh; clear hh
    replace h := Option.bind_eq_some_iff.1 h; obtain ⟨l5, hh, h⟩ := h; obtain rfl := rdCells_eq hh; clear hh
    split at h; rotate_left; cases h
    rename_i c6_0 c6_1
    replace h := Option.bind_eq_some_iff.1 h; obtain ⟨x2, hh, h⟩ := h; obtain rfl := rdBool_eq hh; clear hh
    replace h := Option.bind_eq_some_iff.1 h; obtain ⟨x3, hh, h⟩ := h; obtain rfl := rdSl_eq hh; clear hh
    replace h := Option.bind_eq_some_iff.1 h; obtain ⟨l7, hh, h⟩ := h; obtain rfl := rdCells_eq hh; clear hh
    split at h; rotate_left; cases h
    rename_i c8_0 c8_1
    replace h := Option.bind_eq_some_iff.1 h; obtain ⟨x4, hh, h⟩ := h; obtain rfl := rdBool_eq hh; clear hh
    replace h := Option.bind_eq_some_iff.1 h; obtain ⟨x5, hh, h⟩ := h; obtain rfl := rdSl_eq hh; clear hh
    replace h := Option.bind_eq_some_iff.1 h; obtain ⟨l9, hh, h⟩ := h; obtain rfl := rdCells_eq hh; clear hh
    split at h; rotate_left; cases h
    rename_i c10_0 c10_1
    replace h := Option.bind_eq_some_iff.1 h; obtain ⟨x6, hh, h⟩ := h; obtain rfl := rdBool_eq hh; clear hh
    replace h := Option.bind_eq_some_iff.1 h; obtain ⟨x7, hh, h⟩ := h; obtain rfl := rdSl_eq hh; clear hh
    replace h := Option.bind_eq_some_iff.1 h; obtain ⟨l11, hh, h⟩ := h; obtain rfl := rdCells_eq hh; clear hh
    split at h; rotate_left; cases h
    rename_i c12_0 c12_1
    replace h := Option.bind_eq_some_iff.1 h; obtain ⟨x8, hh, h⟩ := h; obtain rfl := rdBool_eq hh; clear hh
    replace h := Option.bind_eq_some_iff.1 h; obtain ⟨x9, hh, h⟩ := h; obtain rfl := rdSl_eq hh; clear hh
    exact (publicanref1_Floor_L0_eq m m kx kr x0 x1 x2 x3 x4 x5 x6 x7 x8 x9).trans h
noncomputable def publicanref1_Floor_w (F : T_publicanref1_Big → T_publicanref1_Big → (T_publicanref1_Big → Option R) → Option R) : PSem R := fun vs os κ => match vs, os with | [v0_, v1_], [] => ((rdSt 5 v0_).bind fun a0 => (rdSt 5 v1_).bind fun a1 => F a0 a1 (fun r => κ (.st 5 r) [])) | _, _ => none
def publicanref1_Floor_ac : List (Option (Bool × Nat)) := [some (false, 5), some (false, 5)]
set_option maxRecDepth 100000 in
theorem publicanref1_Floor_eq (m : Nat) (a0 : T_publicanref1_Big) (a1 : T_publicanref1_Big) (κ : V → List PObj → Option R) : pFun tb (publicanref1_Floor_G m) 0 [publicanref1_Floor_X0 m] [some (false, 5)] Tryz.f103 [.st 5 a0, .st 5 a1] [] κ = publicanref1_Floor m a0 a1 (fun r => κ (.st 5 r) []) := by
  delta publicanref1_Floor_G publicanref1_Floor publicanref1_Add_sem publicanref1_Of_sem publicanref1_less_sem publicanref1_trim_sem publicanref1_Floor_X0
  generalize publicanref1_Add (R := R) m = c0
  generalize publicanref1_Of (R := R) m = c1
  generalize publicanref1_less (R := R) m = c2
  generalize publicanref1_trim (R := R) m = c3
  generalize publicanref1_Floor_L0 (R := R) m = c4
  refine id ?_
  kernel_rfl
noncomputable def publicanref1_Floor_sem (m : Nat) : PSem R := semOf publicanref1_Floor_ac (publicanref1_Floor_w (publicanref1_Floor m))
theorem publicanref1_Floor_ok (m : Nat) : SemOK cxP 103 (publicanref1_Floor_sem (R := R) m) :=
  have HG : ∀ f, SemOK cxP f (publicanref1_Floor_G (R := R) m f) := tabG_ok (.cons (publicanref1_Add_ok m) (.cons (publicanref1_Of_ok m) (.cons (publicanref1_less_ok m) (.cons (publicanref1_trim_ok m) .nil))))
  semOf_ok (fun_of C HG (L := [publicanref1_Floor_X0 m]) (rc := [some (false, 5)]) (k := 0) (fn_of Tryz.func103) rfl rfl (by kernel_rfl) (by rw [show loopsIn (bodyOf Tryz.f103) = [(lpC (bodyOf Tryz.f103) 0)] from by kernel_rfl]; exact (.cons (publicanref1_Floor_X0_ok HG) (.nil _))) fun vs os κ r h => by
    unfold publicanref1_Floor_w at h
    split at h; rotate_left; cases h
    rename_i v0_ v1_
    replace h := Option.bind_eq_some_iff.1 h; obtain ⟨a0, hh, h⟩ := h; obtain rfl := rdSt_eq hh; clear hh
    replace h := Option.bind_eq_some_iff.1 h; obtain ⟨a1, hh, h⟩ := h; obtain rfl := rdSt_eq hh; clear hh
    exact (publicanref1_Floor_eq m a0 a1 κ).trans h
)
end Go.Pm
