/- The interpreter over data answers as the plain functions say. -/
import Derived.Test.YtodccifahbgogaaGreatPmoA
import Derived.Test.YtodccifahbgogaaGreatPvB
import Derived.Test.YtodccifahbgogaaGreatProg
import Derived.KernelRfl
set_option linter.unusedVariables false
set_option linter.unusedSectionVars false
set_option linter.unusedSimpArgs false
namespace Go.Pm
open Go Go.EvM Go.Pv Go.Proofs
set_option linter.unusedVariables false
set_option linter.unusedSectionVars false
variable {R : Type}
noncomputable def tbL : List (TypeId × TB) := [
  (70, ⟨.strc [(0, 1, false), (1, 1, false), (2, 1, false)], 3, 40, true, [.int .i64 0, .int .i64 0, .nils]⟩),
  (23, ⟨.int .i64, 1, 8, false, [.int .i64 0]⟩),
  (2, ⟨.int .i64, 1, 8, false, [.int .i64 0]⟩),
  (68, ⟨.sl 2, 1, 24, false, [.nils]⟩),
  (3, ⟨.int .i64, 1, 8, false, [.int .i64 0]⟩),
  (4, ⟨.bool, 1, 1, false, [.bool false]⟩),
  (9, ⟨.str, 1, 16, false, [.str []]⟩),
  (145, ⟨.strc [(0, 1, false), (1, 1, false)], 2, 32, true, [.bool false, .nils]⟩),
  (143, ⟨.sl 185, 1, 24, false, [.nils]⟩),
  (185, ⟨.int .u64, 1, 8, false, [.int .u64 0]⟩),
  (217, ⟨.strc [(0, 1, false), (1, 1, false)], 2, 16, true, [.int .i64 0, .int .u64 0]⟩),
  (5, ⟨.int .u8, 1, 1, false, [.int .u8 0]⟩),
  (189, ⟨.int .u64, 1, 8, false, [.int .u64 0]⟩),
  (39, ⟨.sl 9, 1, 24, false, [.nils]⟩),
  (40, ⟨.int .i64, 1, 8, false, [.int .i64 0]⟩)]
noncomputable def tb : TypeId → Option TB := fun t => lookB t tbL
def yesP (args : List Value) (h : Hp) : OR := match args with | [] => .ok (.bool true) h | _ :: _ => .no
noncomputable def extP : FuncId → Option (List Value → Hp → OR) := fun f => bif Nat.beq f 32 then some (yesP) else bif Nat.beq f 222 then some (addP) else bif Nat.beq f 220 then some (subP) else none
noncomputable def cxP : Cx := mkCx Tryz.prog [] extP
set_option maxRecDepth 100000 in
theorem tbL_ok : tbL.all (fun p => tiB cxP p.1 p.2) = true := by kernel_rfl
theorem C : PvOk cxP tb := ⟨fun t b h => lookB_ok tbL_ok t b h, rfl, rfl, fun t => rfl⟩
noncomputable def publicanlaw13_awake_sem (m : Nat) : PSem R := fun vs os κ => match vs, os with | [], os => κ (.bool true) os | _, _ => none
theorem publicanlaw13_awake_ok (m : Nat) : SemOK cxP 32 (publicanlaw13_awake_sem (R := R) m) := fun vs os κ r h => by
  unfold publicanlaw13_awake_sem at h
  split at h
  · refine ⟨_, _, h, 1, fun j hj Φ g H ws hs hr => ?_⟩
    cases hr
    obtain ⟨j, rfl⟩ : ∃ i, j = i + 1 := ⟨j - 1, by omega⟩
    exact ⟨.bool true, H, Φ, g, rfl, .bool true, hs, Nx.refl _ _ _ _⟩
  · cases h
noncomputable def math_bits_Add64_sem (m : Nat) : PSem R := fun vs os κ => match vs with
  | [.int .u64 a, .int .u64 b, .int .u64 c] => math_bits_Add64 m a b c (fun r s => κ (.tup [.int .u64 r, .int .u64 s]) os)
  | _ => none
theorem math_bits_Add64_ok (m : Nat) : SemOK cxP 222 (math_bits_Add64_sem (R := R) m) := fun vs os κ r h => by
  unfold math_bits_Add64_sem at h
  split at h
  · rename_i a b c
    unfold math_bits_Add64 at h
    split at h
    · rename_i x y z
      cases hb : Nat.ble z 1 with
      | false => rw [hb] at h; cases h
      | true =>
        rw [hb] at h
        refine ⟨_, _, h, 1, fun j hj Φ g H ws hs hr => ?_⟩
        cases hr with
        | cons h1 hr => cases h1; cases hr with
          | cons h1 hr => cases h1; cases hr with
            | cons h1 hr =>
              cases h1; cases hr
              obtain ⟨j, rfl⟩ : ∃ i, j = i + 1 := ⟨j - 1, by omega⟩
              refine ⟨.tuple ⟨[.int .u64 _, .int .u64 _]⟩, H, Φ, g, ?_, .tup (.cons (.int _ _) (.cons (.int _ _) .nil)) (by simp [f2, f1, f0]) (by show 2 ≤ 8; omega), hs, Nx.refl _ _ _ _⟩
              show addP [.int .u64 (.ofNat x), .int .u64 (.ofNat y), .int .u64 (.ofNat z)] H = _
              unfold addP
              dsimp only
              rw [hb]; rfl
    · cases h
  · cases h
noncomputable def math_bits_Sub64_sem (m : Nat) : PSem R := fun vs os κ => match vs with
  | [.int .u64 a, .int .u64 b, .int .u64 c] => math_bits_Sub64 m a b c (fun r s => κ (.tup [.int .u64 r, .int .u64 s]) os)
  | _ => none
theorem math_bits_Sub64_ok (m : Nat) : SemOK cxP 220 (math_bits_Sub64_sem (R := R) m) := fun vs os κ r h => by
  unfold math_bits_Sub64_sem at h
  split at h
  · rename_i a b c
    unfold math_bits_Sub64 at h
    split at h
    · rename_i x y z
      cases hb : Nat.ble z 1 with
      | false => rw [hb] at h; cases h
      | true =>
        rw [hb] at h
        refine ⟨_, _, h, 1, fun j hj Φ g H ws hs hr => ?_⟩
        cases hr with
        | cons h1 hr => cases h1; cases hr with
          | cons h1 hr => cases h1; cases hr with
            | cons h1 hr =>
              cases h1; cases hr
              obtain ⟨j, rfl⟩ : ∃ i, j = i + 1 := ⟨j - 1, by omega⟩
              refine ⟨.tuple ⟨[.int .u64 _, .int .u64 _]⟩, H, Φ, g, ?_, .tup (.cons (.int _ _) (.cons (.int _ _) .nil)) (by simp [f2, f1, f0]) (by show 2 ≤ 8; omega), hs, Nx.refl _ _ _ _⟩
              show subP [.int .u64 (.ofNat x), .int .u64 (.ofNat y), .int .u64 (.ofNat z)] H = _
              unfold subP
              dsimp only
              rw [hb]; rfl
    · cases h
  · cases h
end Go.Pm
namespace Go.Pm
open Go Go.EvM Go.Pv Go.Proofs
set_option linter.unusedVariables false
set_option linter.unusedSectionVars false
variable {R : Type}
noncomputable def publicanref17_Same_G (m : Nat) : FuncId → PSem R := tabG []
set_option maxRecDepth 100000 in
theorem publicanref17_Same_S0_eq (m : Nat) (ρ : List V → List PObj → Option R) (kx : Nat → List V → List PObj → Option R) (kr : List V → List PObj → Option R) (x0 : Int) (x1 : Int) (x2 : Int) (x3 : List Int) (x4 : Int) (x5 : Int) (x6 : List Int) : pCode tb (publicanref17_Same_G m) 0 Tryz.f42.ntmps (lpC (bodyOf Tryz.f42) 0) [] (fun s => match head 0 [(5, .any), (3, .fcells [(2, 0)]), (2, .fcells [(2, 0)])] s with | (vs, os) => ρ vs os) (fun i s => match head 0 [] s with | (vs, os) => kx i vs os) (fun s => match head 0 [(4, .any)] s with | (vs, os) => kr vs os) ⟨mkEnv [(5, .any), (3, .fcells [(2, 0)]), (2, .fcells [(2, 0)])] [.int .i64 x0, .ptr 0 0, .ptr 1 0], [.cells [.int .i64 x1, .int .i64 x2, .sl 0 x3], .cells [.int .i64 x4, .int .i64 x5, .sl 0 x6]]⟩ = publicanref17_Same_S0 m (fun x0 x1 x2 x3 x4 x5 x6 => ρ [.int .i64 x0, .ptr 0 0, .ptr 1 0] [.cells [.int .i64 x1, .int .i64 x2, .sl 0 x3], .cells [.int .i64 x4, .int .i64 x5, .sl 0 x6]]) (fun (_ : Unit) => kx 0 [] []) (fun z0 => kr [.bool z0] []) x0 x1 x2 x3 x4 x5 x6 := by
  delta publicanref17_Same_G publicanref17_Same_S0
  refine id ?_
  kernel_rfl
set_option maxHeartbeats 4000000 in
theorem publicanref17_Same_L0_eq (m : Nat) (j : Nat) : ∀ (kx : Nat → List V → List PObj → Option R) (kr : List V → List PObj → Option R) (x0 : Int) (x1 : Int) (x2 : Int) (x3 : List Int) (x4 : Int) (x5 : Int) (x6 : List Int), loopP tb (publicanref17_Same_G m) 0 Tryz.f42.ntmps [(5, .any), (3, .fcells [(2, 0)]), (2, .fcells [(2, 0)])] [] [(4, .any)] [] (lpC (bodyOf Tryz.f42) 0) j [.int .i64 x0, .ptr 0 0, .ptr 1 0] [.cells [.int .i64 x1, .int .i64 x2, .sl 0 x3], .cells [.int .i64 x4, .int .i64 x5, .sl 0 x6]] kx kr = publicanref17_Same_L0 m j x0 x1 x2 x3 x4 x5 x6 (fun (_ : Unit) => kx 0 [] []) (fun z0 => kr [.bool z0] []) := by
  induction j with
  | zero => intros; rfl
  | succ j ih =>
    intro kx kr x0 x1 x2 x3 x4 x5 x6
    refine Eq.trans ?_ (Eq.trans (Eq.trans (publicanref17_Same_S0_eq m (fun vs os => loopP tb (publicanref17_Same_G m) 0 Tryz.f42.ntmps [(5, .any), (3, .fcells [(2, 0)]), (2, .fcells [(2, 0)])] [] [(4, .any)] [] (lpC (bodyOf Tryz.f42) 0) j vs os kx kr) kx kr x0 x1 x2 x3 x4 x5 x6) (congrArg (fun ρ => publicanref17_Same_S0 m ρ (fun (_ : Unit) => kx 0 [] []) (fun z0 => kr [.bool z0] []) x0 x1 x2 x3 x4 x5 x6) (funext fun x0 => funext fun x1 => funext fun x2 => funext fun x3 => funext fun x4 => funext fun x5 => funext fun x6 => ih kx kr x0 x1 x2 x3 x4 x5 x6))) ?_) <;> kernel_rfl
noncomputable def publicanref17_Same_X0 (m : Nat) : LoopH R := ⟨[(5, .any), (3, .fcells [(2, 0)]), (2, .fcells [(2, 0)])], [], [(4, .any)], fun vs os kx kr => match vs, os with | [v0_, v1_, v2_], [q0_, q1_] => ((rdInt .i64 v0_).bind fun x0 => (rdPtr 0 0 v1_).bind fun u0 => (rdPtr 1 0 v2_).bind fun u1 => (rdCells q0_).bind fun l2 => match l2 with | [c3_0, c3_1, c3_2] => ((rdInt .i64 c3_0).bind fun x1 => (rdInt .i64 c3_1).bind fun x2 => (rdSl 0 c3_2).bind fun x3 => (rdCells q1_).bind fun l4 => match l4 with | [c5_0, c5_1, c5_2] => ((rdInt .i64 c5_0).bind fun x4 => (rdInt .i64 c5_1).bind fun x5 => (rdSl 0 c5_2).bind fun x6 => publicanref17_Same_L0 m m x0 x1 x2 x3 x4 x5 x6 (fun (_ : Unit) => kx 0 [] []) (fun z0 => kr [.bool z0] [])) | _ => none) | _ => none) | _, _ => none⟩
set_option maxHeartbeats 4000000 in
theorem publicanref17_Same_X0_ok {m : Nat} (HG : ∀ f, SemOK cxP f (publicanref17_Same_G (R := R) m f)) : LoopSem cxP Tryz.f42.ntmps 0 (lpC (bodyOf Tryz.f42) 0) (publicanref17_Same_X0 (R := R) m) :=
  loop_of C HG (L := []) (by kernel_rfl) (by rw [show loopsIn (lpC (bodyOf Tryz.f42) 0) = [] from by kernel_rfl]; exact (.nil _)) m fun vs os kx kr r h => by
    try dsimp only at h
    split at h; rotate_left; cases h
    rename_i v0_ v1_ v2_ q0_ q1_
    replace h := Option.bind_eq_some_iff.1 h; obtain ⟨x0, hh, h⟩ := h; obtain rfl := rdInt_eq hh; clear hh
    replace h := Option.bind_eq_some_iff.1 h; obtain ⟨u0, hh, h⟩ := h; obtain rfl := rdPtr_eq hh; clear hh
    replace h := Option.bind_eq_some_iff.1 h; obtain ⟨u1, hh, h⟩ := h; obtain rfl := rdPtr_eq hh; clear hh
    replace h := Option.bind_eq_some_iff.1 h; obtain ⟨l2, hh, h⟩ := h; obtain rfl := rdCells_eq hh; clear hh
    split at h; rotate_left; cases h
    rename_i c3_0 c3_1 c3_2
    replace h := Option.bind_eq_some_iff.1 h; obtain ⟨x1, hh, h⟩ := h; obtain rfl := rdInt_eq hh; clear hh
    replace h := Option.bind_eq_some_iff.1 h; obtain ⟨x2, hh, h⟩ := h; obtain rfl := rdInt_eq hh; clear hh
    replace h := Option.bind_eq_some_iff.1 h; obtain ⟨x3, hh, h⟩ := h; obtain rfl := rdSl_eq hh; clear hh
    replace h := Option.bind_eq_some_iff.1 h; obtain ⟨l4, hh, h⟩ := h; obtain rfl := rdCells_eq hh; clear hh
    split at h; rotate_left; cases h
    rename_i c5_0 c5_1 c5_2
    replace h := Option.bind_eq_some_iff.1 h; obtain ⟨x4, hh, h⟩ := h; obtain rfl := rdInt_eq hh; clear hh
    replace h := Option.bind_eq_some_iff.1 h; obtain ⟨x5, hh, h⟩ := h; obtain rfl := rdInt_eq hh; clear hh
    replace h := Option.bind_eq_some_iff.1 h; obtain ⟨x6, hh, h⟩ := h; obtain rfl := rdSl_eq hh; clear hh
    exact (publicanref17_Same_L0_eq m m kx kr x0 x1 x2 x3 x4 x5 x6).trans h
noncomputable def publicanref17_Same_w (F : T_api_Value → T_api_Value → (Bool → Option R) → Option R) : PSem R := fun vs os κ => match vs, os with | [v0_, v1_], [] => ((rdSt 4 v0_).bind fun a0 => (rdSt 4 v1_).bind fun a1 => F a0 a1 (fun r => κ (.bool r) [])) | _, _ => none
def publicanref17_Same_ac : List (Option (Bool × Nat)) := [some (false, 4), some (false, 4)]
set_option maxRecDepth 100000 in
theorem publicanref17_Same_eq (m : Nat) (a0 : T_api_Value) (a1 : T_api_Value) (κ : V → List PObj → Option R) : pFun tb (publicanref17_Same_G m) 0 [publicanref17_Same_X0 m] [none] Tryz.f42 [.st 4 a0, .st 4 a1] [] κ = publicanref17_Same m a0 a1 (fun r => κ (.bool r) []) := by
  delta publicanref17_Same_G publicanref17_Same publicanref17_Same_X0
  generalize publicanref17_Same_L0 (R := R) m = c0
  refine id ?_
  kernel_rfl
noncomputable def publicanref17_Same_sem (m : Nat) : PSem R := semOf publicanref17_Same_ac (publicanref17_Same_w (publicanref17_Same m))
theorem publicanref17_Same_ok (m : Nat) : SemOK cxP 42 (publicanref17_Same_sem (R := R) m) :=
  have HG : ∀ f, SemOK cxP f (publicanref17_Same_G (R := R) m f) := tabG_ok .nil
  semOf_ok (fun_of C HG (L := [publicanref17_Same_X0 m]) (rc := [none]) (k := 0) (fn_of Tryz.func42) rfl rfl (by kernel_rfl) (by rw [show loopsIn (bodyOf Tryz.f42) = [(lpC (bodyOf Tryz.f42) 0)] from by kernel_rfl]; exact (.cons (publicanref17_Same_X0_ok HG) (.nil _))) fun vs os κ r h => by
    unfold publicanref17_Same_w at h
    split at h; rotate_left; cases h
    rename_i v0_ v1_
    replace h := Option.bind_eq_some_iff.1 h; obtain ⟨a0, hh, h⟩ := h; obtain rfl := rdSt_eq hh; clear hh
    replace h := Option.bind_eq_some_iff.1 h; obtain ⟨a1, hh, h⟩ := h; obtain rfl := rdSt_eq hh; clear hh
    exact (publicanref17_Same_eq m a0 a1 κ).trans h
)
noncomputable def publicanref11_Fit_G (m : Nat) : FuncId → PSem R := tabG []
noncomputable def publicanref11_Fit_w (F : Int → Int → (Bool → Option R) → Option R) : PSem R := fun vs os κ => match vs, os with | [v0_, v1_], [] => ((rdInt .i64 v0_).bind fun a0 => (rdInt .i64 v1_).bind fun a1 => F a0 a1 (fun r => κ (.bool r) [])) | _, _ => none
def publicanref11_Fit_ac : List (Option (Bool × Nat)) := [none, none]
set_option maxRecDepth 100000 in
theorem publicanref11_Fit_eq (m : Nat) (a0 : Int) (a1 : Int) (κ : V → List PObj → Option R) : pFun tb (publicanref11_Fit_G m) 0 [] [none] Tryz.f86 [.int .i64 a0, .int .i64 a1] [] κ = publicanref11_Fit m a0 a1 (fun r => κ (.bool r) []) := by
  delta publicanref11_Fit_G publicanref11_Fit
  refine id ?_
  kernel_rfl
noncomputable def publicanref11_Fit_sem (m : Nat) : PSem R := semOf publicanref11_Fit_ac (publicanref11_Fit_w (publicanref11_Fit m))
theorem publicanref11_Fit_ok (m : Nat) : SemOK cxP 86 (publicanref11_Fit_sem (R := R) m) :=
  have HG : ∀ f, SemOK cxP f (publicanref11_Fit_G (R := R) m f) := tabG_ok .nil
  semOf_ok (fun_of C HG (L := []) (rc := [none]) (k := 0) (fn_of Tryz.func86) rfl rfl (by kernel_rfl) (by rw [show loopsIn (bodyOf Tryz.f86) = [] from by kernel_rfl]; exact (.nil _)) fun vs os κ r h => by
    unfold publicanref11_Fit_w at h
    split at h; rotate_left; cases h
    rename_i v0_ v1_
    replace h := Option.bind_eq_some_iff.1 h; obtain ⟨a0, hh, h⟩ := h; obtain rfl := rdInt_eq hh; clear hh
    replace h := Option.bind_eq_some_iff.1 h; obtain ⟨a1, hh, h⟩ := h; obtain rfl := rdInt_eq hh; clear hh
    exact (publicanref11_Fit_eq m a0 a1 κ).trans h
)
noncomputable def num_Add_G (m : Nat) : FuncId → PSem R := tabG []
noncomputable def num_Add_w (F : Int → Int → (Int → Bool → Option R) → Option R) : PSem R := fun vs os κ => match vs, os with | [v0_, v1_], [] => ((rdInt .i64 v0_).bind fun a0 => (rdInt .i64 v1_).bind fun a1 => F a0 a1 (fun r_0 r_1 => κ (.tup [.int .i64 r_0, .bool r_1]) [])) | _, _ => none
def num_Add_ac : List (Option (Bool × Nat)) := [none, none]
set_option maxRecDepth 100000 in
theorem num_Add_eq (m : Nat) (a0 : Int) (a1 : Int) (κ : V → List PObj → Option R) : pFun tb (num_Add_G m) 0 [] [none, none] Tryz.f89 [.int .i64 a0, .int .i64 a1] [] κ = num_Add m a0 a1 (fun r_0 r_1 => κ (.tup [.int .i64 r_0, .bool r_1]) []) := by
  delta num_Add_G num_Add
  refine id ?_
  kernel_rfl
noncomputable def num_Add_sem (m : Nat) : PSem R := semOf num_Add_ac (num_Add_w (num_Add m))
theorem num_Add_ok (m : Nat) : SemOK cxP 89 (num_Add_sem (R := R) m) :=
  have HG : ∀ f, SemOK cxP f (num_Add_G (R := R) m f) := tabG_ok .nil
  semOf_ok (fun_of C HG (L := []) (rc := [none, none]) (k := 0) (fn_of Tryz.func89) rfl rfl (by kernel_rfl) (by rw [show loopsIn (bodyOf Tryz.f89) = [] from by kernel_rfl]; exact (.nil _)) fun vs os κ r h => by
    unfold num_Add_w at h
    split at h; rotate_left; cases h
    rename_i v0_ v1_
    replace h := Option.bind_eq_some_iff.1 h; obtain ⟨a0, hh, h⟩ := h; obtain rfl := rdInt_eq hh; clear hh
    replace h := Option.bind_eq_some_iff.1 h; obtain ⟨a1, hh, h⟩ := h; obtain rfl := rdInt_eq hh; clear hh
    exact (num_Add_eq m a0 a1 κ).trans h
)
noncomputable def num_Sub_G (m : Nat) : FuncId → PSem R := tabG []
noncomputable def num_Sub_w (F : Int → Int → (Int → Bool → Option R) → Option R) : PSem R := fun vs os κ => match vs, os with | [v0_, v1_], [] => ((rdInt .i64 v0_).bind fun a0 => (rdInt .i64 v1_).bind fun a1 => F a0 a1 (fun r_0 r_1 => κ (.tup [.int .i64 r_0, .bool r_1]) [])) | _, _ => none
def num_Sub_ac : List (Option (Bool × Nat)) := [none, none]
set_option maxRecDepth 100000 in
theorem num_Sub_eq (m : Nat) (a0 : Int) (a1 : Int) (κ : V → List PObj → Option R) : pFun tb (num_Sub_G m) 0 [] [none, none] Tryz.f91 [.int .i64 a0, .int .i64 a1] [] κ = num_Sub m a0 a1 (fun r_0 r_1 => κ (.tup [.int .i64 r_0, .bool r_1]) []) := by
  delta num_Sub_G num_Sub
  refine id ?_
  kernel_rfl
noncomputable def num_Sub_sem (m : Nat) : PSem R := semOf num_Sub_ac (num_Sub_w (num_Sub m))
theorem num_Sub_ok (m : Nat) : SemOK cxP 91 (num_Sub_sem (R := R) m) :=
  have HG : ∀ f, SemOK cxP f (num_Sub_G (R := R) m f) := tabG_ok .nil
  semOf_ok (fun_of C HG (L := []) (rc := [none, none]) (k := 0) (fn_of Tryz.func91) rfl rfl (by kernel_rfl) (by rw [show loopsIn (bodyOf Tryz.f91) = [] from by kernel_rfl]; exact (.nil _)) fun vs os κ r h => by
    unfold num_Sub_w at h
    split at h; rotate_left; cases h
    rename_i v0_ v1_
    replace h := Option.bind_eq_some_iff.1 h; obtain ⟨a0, hh, h⟩ := h; obtain rfl := rdInt_eq hh; clear hh
    replace h := Option.bind_eq_some_iff.1 h; obtain ⟨a1, hh, h⟩ := h; obtain rfl := rdInt_eq hh; clear hh
    exact (num_Sub_eq m a0 a1 κ).trans h
)
noncomputable def mean_truth_G (m : Nat) : FuncId → PSem R := tabG []
noncomputable def mean_truth_w (F : Bool → (T_api_Value → Int → Option R) → Option R) : PSem R := fun vs os κ => match vs, os with | [v0_], [] => ((rdBool v0_).bind fun a0 => F a0 (fun r_0 r_1 => κ (.tup [.st 4 r_0, .int .i64 r_1]) [])) | _, _ => none
def mean_truth_ac : List (Option (Bool × Nat)) := [none]
set_option maxRecDepth 100000 in
theorem mean_truth_eq (m : Nat) (a0 : Bool) (κ : V → List PObj → Option R) : pFun tb (mean_truth_G m) 0 [] [some (false, 4), none] Tryz.f94 [.bool a0] [] κ = mean_truth m a0 (fun r_0 r_1 => κ (.tup [.st 4 r_0, .int .i64 r_1]) []) := by
  delta mean_truth_G mean_truth
  refine id ?_
  kernel_rfl
noncomputable def mean_truth_sem (m : Nat) : PSem R := semOf mean_truth_ac (mean_truth_w (mean_truth m))
theorem mean_truth_ok (m : Nat) : SemOK cxP 94 (mean_truth_sem (R := R) m) :=
  have HG : ∀ f, SemOK cxP f (mean_truth_G (R := R) m f) := tabG_ok .nil
  semOf_ok (fun_of C HG (L := []) (rc := [some (false, 4), none]) (k := 0) (fn_of Tryz.func94) rfl rfl (by kernel_rfl) (by rw [show loopsIn (bodyOf Tryz.f94) = [] from by kernel_rfl]; exact (.nil _)) fun vs os κ r h => by
    unfold mean_truth_w at h
    split at h; rotate_left; cases h
    rename_i v0_
    replace h := Option.bind_eq_some_iff.1 h; obtain ⟨a0, hh, h⟩ := h; obtain rfl := rdBool_eq hh; clear hh
    exact (mean_truth_eq m a0 κ).trans h
)
noncomputable def publicanref11_Unary_G (m : Nat) : FuncId → PSem R := tabG []
noncomputable def publicanref11_Unary_w (F : List UInt8 → Int → (Int → Option R) → Option R) : PSem R := fun vs os κ => match vs, os with | [v0_, v1_], [] => ((rdStr v0_).bind fun a0 => (rdInt .i64 v1_).bind fun a1 => F a0 a1 (fun r => κ (.int .i64 r) [])) | _, _ => none
def publicanref11_Unary_ac : List (Option (Bool × Nat)) := [none, none]
set_option maxRecDepth 100000 in
theorem publicanref11_Unary_eq (m : Nat) (a0 : List UInt8) (a1 : Int) (κ : V → List PObj → Option R) : pFun tb (publicanref11_Unary_G m) 0 [] [none] Tryz.f95 [.str a0, .int .i64 a1] [] κ = publicanref11_Unary m a0 a1 (fun r => κ (.int .i64 r) []) := by
  delta publicanref11_Unary_G publicanref11_Unary
  refine id ?_
  kernel_rfl
noncomputable def publicanref11_Unary_sem (m : Nat) : PSem R := semOf publicanref11_Unary_ac (publicanref11_Unary_w (publicanref11_Unary m))
theorem publicanref11_Unary_ok (m : Nat) : SemOK cxP 95 (publicanref11_Unary_sem (R := R) m) :=
  have HG : ∀ f, SemOK cxP f (publicanref11_Unary_G (R := R) m f) := tabG_ok .nil
  semOf_ok (fun_of C HG (L := []) (rc := [none]) (k := 0) (fn_of Tryz.func95) rfl rfl (by kernel_rfl) (by rw [show loopsIn (bodyOf Tryz.f95) = [] from by kernel_rfl]; exact (.nil _)) fun vs os κ r h => by
    unfold publicanref11_Unary_w at h
    split at h; rotate_left; cases h
    rename_i v0_ v1_
    replace h := Option.bind_eq_some_iff.1 h; obtain ⟨a0, hh, h⟩ := h; obtain rfl := rdStr_eq hh; clear hh
    replace h := Option.bind_eq_some_iff.1 h; obtain ⟨a1, hh, h⟩ := h; obtain rfl := rdInt_eq hh; clear hh
    exact (publicanref11_Unary_eq m a0 a1 κ).trans h
)
noncomputable def publicanref11_truth_G (m : Nat) : FuncId → PSem R := tabG []
noncomputable def publicanref11_truth_w (F : Bool → (T_api_Value → Int → Option R) → Option R) : PSem R := fun vs os κ => match vs, os with | [v0_], [] => ((rdBool v0_).bind fun a0 => F a0 (fun r_0 r_1 => κ (.tup [.st 4 r_0, .int .i64 r_1]) [])) | _, _ => none
def publicanref11_truth_ac : List (Option (Bool × Nat)) := [none]
set_option maxRecDepth 100000 in
theorem publicanref11_truth_eq (m : Nat) (a0 : Bool) (κ : V → List PObj → Option R) : pFun tb (publicanref11_truth_G m) 0 [] [some (false, 4), none] Tryz.f96 [.bool a0] [] κ = publicanref11_truth m a0 (fun r_0 r_1 => κ (.tup [.st 4 r_0, .int .i64 r_1]) []) := by
  delta publicanref11_truth_G publicanref11_truth
  refine id ?_
  kernel_rfl
noncomputable def publicanref11_truth_sem (m : Nat) : PSem R := semOf publicanref11_truth_ac (publicanref11_truth_w (publicanref11_truth m))
theorem publicanref11_truth_ok (m : Nat) : SemOK cxP 96 (publicanref11_truth_sem (R := R) m) :=
  have HG : ∀ f, SemOK cxP f (publicanref11_truth_G (R := R) m f) := tabG_ok .nil
  semOf_ok (fun_of C HG (L := []) (rc := [some (false, 4), none]) (k := 0) (fn_of Tryz.func96) rfl rfl (by kernel_rfl) (by rw [show loopsIn (bodyOf Tryz.f96) = [] from by kernel_rfl]; exact (.nil _)) fun vs os κ r h => by
    unfold publicanref11_truth_w at h
    split at h; rotate_left; cases h
    rename_i v0_
    replace h := Option.bind_eq_some_iff.1 h; obtain ⟨a0, hh, h⟩ := h; obtain rfl := rdBool_eq hh; clear hh
    exact (publicanref11_truth_eq m a0 κ).trans h
)
noncomputable def publicanref11_Binary_G (m : Nat) : FuncId → PSem R := tabG []
noncomputable def publicanref11_Binary_w (F : List UInt8 → Int → Int → (Int → Option R) → Option R) : PSem R := fun vs os κ => match vs, os with | [v0_, v1_, v2_], [] => ((rdStr v0_).bind fun a0 => (rdInt .i64 v1_).bind fun a1 => (rdInt .i64 v2_).bind fun a2 => F a0 a1 a2 (fun r => κ (.int .i64 r) [])) | _, _ => none
def publicanref11_Binary_ac : List (Option (Bool × Nat)) := [none, none, none]
set_option maxRecDepth 100000 in
theorem publicanref11_Binary_eq (m : Nat) (a0 : List UInt8) (a1 : Int) (a2 : Int) (κ : V → List PObj → Option R) : pFun tb (publicanref11_Binary_G m) 0 [] [none] Tryz.f100 [.str a0, .int .i64 a1, .int .i64 a2] [] κ = publicanref11_Binary m a0 a1 a2 (fun r => κ (.int .i64 r) []) := by
  delta publicanref11_Binary_G publicanref11_Binary
  refine id ?_
  kernel_rfl
noncomputable def publicanref11_Binary_sem (m : Nat) : PSem R := semOf publicanref11_Binary_ac (publicanref11_Binary_w (publicanref11_Binary m))
theorem publicanref11_Binary_ok (m : Nat) : SemOK cxP 100 (publicanref11_Binary_sem (R := R) m) :=
  have HG : ∀ f, SemOK cxP f (publicanref11_Binary_G (R := R) m f) := tabG_ok .nil
  semOf_ok (fun_of C HG (L := []) (rc := [none]) (k := 0) (fn_of Tryz.func100) rfl rfl (by kernel_rfl) (by rw [show loopsIn (bodyOf Tryz.f100) = [] from by kernel_rfl]; exact (.nil _)) fun vs os κ r h => by
    unfold publicanref11_Binary_w at h
    split at h; rotate_left; cases h
    rename_i v0_ v1_ v2_
    replace h := Option.bind_eq_some_iff.1 h; obtain ⟨a0, hh, h⟩ := h; obtain rfl := rdStr_eq hh; clear hh
    replace h := Option.bind_eq_some_iff.1 h; obtain ⟨a1, hh, h⟩ := h; obtain rfl := rdInt_eq hh; clear hh
    replace h := Option.bind_eq_some_iff.1 h; obtain ⟨a2, hh, h⟩ := h; obtain rfl := rdInt_eq hh; clear hh
    exact (publicanref11_Binary_eq m a0 a1 a2 κ).trans h
)
noncomputable def mean_Fit_G (m : Nat) : FuncId → PSem R := tabG []
noncomputable def mean_Fit_w (F : Int → Int → (Bool → Option R) → Option R) : PSem R := fun vs os κ => match vs, os with | [v0_, v1_], [] => ((rdInt .i64 v0_).bind fun a0 => (rdInt .i64 v1_).bind fun a1 => F a0 a1 (fun r => κ (.bool r) [])) | _, _ => none
def mean_Fit_ac : List (Option (Bool × Nat)) := [none, none]
set_option maxRecDepth 100000 in
theorem mean_Fit_eq (m : Nat) (a0 : Int) (a1 : Int) (κ : V → List PObj → Option R) : pFun tb (mean_Fit_G m) 0 [] [none] Tryz.f129 [.int .i64 a0, .int .i64 a1] [] κ = mean_Fit m a0 a1 (fun r => κ (.bool r) []) := by
  delta mean_Fit_G mean_Fit
  refine id ?_
  kernel_rfl
noncomputable def mean_Fit_sem (m : Nat) : PSem R := semOf mean_Fit_ac (mean_Fit_w (mean_Fit m))
theorem mean_Fit_ok (m : Nat) : SemOK cxP 129 (mean_Fit_sem (R := R) m) :=
  have HG : ∀ f, SemOK cxP f (mean_Fit_G (R := R) m f) := tabG_ok .nil
  semOf_ok (fun_of C HG (L := []) (rc := [none]) (k := 0) (fn_of Tryz.func129) rfl rfl (by kernel_rfl) (by rw [show loopsIn (bodyOf Tryz.f129) = [] from by kernel_rfl]; exact (.nil _)) fun vs os κ r h => by
    unfold mean_Fit_w at h
    split at h; rotate_left; cases h
    rename_i v0_ v1_
    replace h := Option.bind_eq_some_iff.1 h; obtain ⟨a0, hh, h⟩ := h; obtain rfl := rdInt_eq hh; clear hh
    replace h := Option.bind_eq_some_iff.1 h; obtain ⟨a1, hh, h⟩ := h; obtain rfl := rdInt_eq hh; clear hh
    exact (mean_Fit_eq m a0 a1 κ).trans h
)
noncomputable def typ_quotient_G (m : Nat) : FuncId → PSem R := tabG []
noncomputable def typ_quotient_w (F : Int → Int → (Int → Option R) → Option R) : PSem R := fun vs os κ => match vs, os with | [v0_, v1_], [] => ((rdInt .i64 v0_).bind fun a0 => (rdInt .i64 v1_).bind fun a1 => F a0 a1 (fun r => κ (.int .i64 r) [])) | _, _ => none
def typ_quotient_ac : List (Option (Bool × Nat)) := [none, none]
set_option maxRecDepth 100000 in
theorem typ_quotient_eq (m : Nat) (a0 : Int) (a1 : Int) (κ : V → List PObj → Option R) : pFun tb (typ_quotient_G m) 0 [] [none] Tryz.f136 [.int .i64 a0, .int .i64 a1] [] κ = typ_quotient m a0 a1 (fun r => κ (.int .i64 r) []) := by
  delta typ_quotient_G typ_quotient
  refine id ?_
  kernel_rfl
noncomputable def typ_quotient_sem (m : Nat) : PSem R := semOf typ_quotient_ac (typ_quotient_w (typ_quotient m))
theorem typ_quotient_ok (m : Nat) : SemOK cxP 136 (typ_quotient_sem (R := R) m) :=
  have HG : ∀ f, SemOK cxP f (typ_quotient_G (R := R) m f) := tabG_ok .nil
  semOf_ok (fun_of C HG (L := []) (rc := [none]) (k := 0) (fn_of Tryz.func136) rfl rfl (by kernel_rfl) (by rw [show loopsIn (bodyOf Tryz.f136) = [] from by kernel_rfl]; exact (.nil _)) fun vs os κ r h => by
    unfold typ_quotient_w at h
    split at h; rotate_left; cases h
    rename_i v0_ v1_
    replace h := Option.bind_eq_some_iff.1 h; obtain ⟨a0, hh, h⟩ := h; obtain rfl := rdInt_eq hh; clear hh
    replace h := Option.bind_eq_some_iff.1 h; obtain ⟨a1, hh, h⟩ := h; obtain rfl := rdInt_eq hh; clear hh
    exact (typ_quotient_eq m a0 a1 κ).trans h
)
noncomputable def typ_ordered_G (m : Nat) : FuncId → PSem R := tabG []
noncomputable def typ_ordered_w (F : Int → (Bool → Option R) → Option R) : PSem R := fun vs os κ => match vs, os with | [v0_], [] => ((rdInt .i64 v0_).bind fun a0 => F a0 (fun r => κ (.bool r) [])) | _, _ => none
def typ_ordered_ac : List (Option (Bool × Nat)) := [none]
set_option maxRecDepth 100000 in
theorem typ_ordered_eq (m : Nat) (a0 : Int) (κ : V → List PObj → Option R) : pFun tb (typ_ordered_G m) 0 [] [none] Tryz.f137 [.int .i64 a0] [] κ = typ_ordered m a0 (fun r => κ (.bool r) []) := by
  delta typ_ordered_G typ_ordered
  refine id ?_
  kernel_rfl
noncomputable def typ_ordered_sem (m : Nat) : PSem R := semOf typ_ordered_ac (typ_ordered_w (typ_ordered m))
theorem typ_ordered_ok (m : Nat) : SemOK cxP 137 (typ_ordered_sem (R := R) m) :=
  have HG : ∀ f, SemOK cxP f (typ_ordered_G (R := R) m f) := tabG_ok .nil
  semOf_ok (fun_of C HG (L := []) (rc := [none]) (k := 0) (fn_of Tryz.func137) rfl rfl (by kernel_rfl) (by rw [show loopsIn (bodyOf Tryz.f137) = [] from by kernel_rfl]; exact (.nil _)) fun vs os κ r h => by
    unfold typ_ordered_w at h
    split at h; rotate_left; cases h
    rename_i v0_
    replace h := Option.bind_eq_some_iff.1 h; obtain ⟨a0, hh, h⟩ := h; obtain rfl := rdInt_eq hh; clear hh
    exact (typ_ordered_eq m a0 κ).trans h
)
noncomputable def num_Floor_G (m : Nat) : FuncId → PSem R := tabG []
noncomputable def num_Floor_w (F : Int → Int → (Int → Bool → Option R) → Option R) : PSem R := fun vs os κ => match vs, os with | [v0_, v1_], [] => ((rdInt .i64 v0_).bind fun a0 => (rdInt .i64 v1_).bind fun a1 => F a0 a1 (fun r_0 r_1 => κ (.tup [.int .i64 r_0, .bool r_1]) [])) | _, _ => none
def num_Floor_ac : List (Option (Bool × Nat)) := [none, none]
set_option maxRecDepth 100000 in
theorem num_Floor_eq (m : Nat) (a0 : Int) (a1 : Int) (κ : V → List PObj → Option R) : pFun tb (num_Floor_G m) 0 [] [none, none] Tryz.f140 [.int .i64 a0, .int .i64 a1] [] κ = num_Floor m a0 a1 (fun r_0 r_1 => κ (.tup [.int .i64 r_0, .bool r_1]) []) := by
  delta num_Floor_G num_Floor
  refine id ?_
  kernel_rfl
noncomputable def num_Floor_sem (m : Nat) : PSem R := semOf num_Floor_ac (num_Floor_w (num_Floor m))
theorem num_Floor_ok (m : Nat) : SemOK cxP 140 (num_Floor_sem (R := R) m) :=
  have HG : ∀ f, SemOK cxP f (num_Floor_G (R := R) m f) := tabG_ok .nil
  semOf_ok (fun_of C HG (L := []) (rc := [none, none]) (k := 0) (fn_of Tryz.func140) rfl rfl (by kernel_rfl) (by rw [show loopsIn (bodyOf Tryz.f140) = [] from by kernel_rfl]; exact (.nil _)) fun vs os κ r h => by
    unfold num_Floor_w at h
    split at h; rotate_left; cases h
    rename_i v0_ v1_
    replace h := Option.bind_eq_some_iff.1 h; obtain ⟨a0, hh, h⟩ := h; obtain rfl := rdInt_eq hh; clear hh
    replace h := Option.bind_eq_some_iff.1 h; obtain ⟨a1, hh, h⟩ := h; obtain rfl := rdInt_eq hh; clear hh
    exact (num_Floor_eq m a0 a1 κ).trans h
)
noncomputable def publicanref1_trim_G (m : Nat) : FuncId → PSem R := tabG []
set_option maxRecDepth 100000 in
theorem publicanref1_trim_S0_eq (m : Nat) (ρ : List V → List PObj → Option R) (kx : Nat → List V → List PObj → Option R) (kr : List V → List PObj → Option R) (x0 : List Int) (x1 : Bool) (x2 : List Int) (x3 : Bool) (x4 : List Int) : pCode tb (publicanref1_trim_G m) 0 Tryz.f142.ntmps (lpC (bodyOf Tryz.f142) 0) [] (fun s => match head 0 [(3, .any), (2, .fcells [(1, 6)]), (1, .fcells [(1, 6)])] s with | (vs, os) => ρ vs os) (fun i s => match head 0 [(2, .any), (3, .any), (1, .any)] s with | (vs, os) => kx i vs os) (fun s => match head 0 [] s with | (vs, os) => kr vs os) ⟨mkEnv [(3, .any), (2, .fcells [(1, 6)]), (1, .fcells [(1, 6)])] [.sl 6 x0, .ptr 0 0, .ptr 1 0], [.cells [.bool x1, .sl 6 x2], .cells [.bool x3, .sl 6 x4]]⟩ = publicanref1_trim_S0 m (fun x0 x1 x2 x3 x4 => ρ [.sl 6 x0, .ptr 0 0, .ptr 1 0] [.cells [.bool x1, .sl 6 x2], .cells [.bool x3, .sl 6 x4]]) (fun y0 y1 y2 y3 y4 => kx 0 [.ptr 0 0, .sl 6 y0, .ptr 1 0] [.cells [.bool y1, .sl 6 y2], .cells [.bool y3, .sl 6 y4]]) x0 x1 x2 x3 x4 := by
  delta publicanref1_trim_G publicanref1_trim_S0
  refine id ?_
  kernel_rfl
set_option maxHeartbeats 4000000 in
theorem publicanref1_trim_L0_eq (m : Nat) (j : Nat) : ∀ (kx : Nat → List V → List PObj → Option R) (kr : List V → List PObj → Option R) (x0 : List Int) (x1 : Bool) (x2 : List Int) (x3 : Bool) (x4 : List Int), loopP tb (publicanref1_trim_G m) 0 Tryz.f142.ntmps [(3, .any), (2, .fcells [(1, 6)]), (1, .fcells [(1, 6)])] [(2, .any), (3, .any), (1, .any)] [] [] (lpC (bodyOf Tryz.f142) 0) j [.sl 6 x0, .ptr 0 0, .ptr 1 0] [.cells [.bool x1, .sl 6 x2], .cells [.bool x3, .sl 6 x4]] kx kr = publicanref1_trim_L0 m j x0 x1 x2 x3 x4 (fun y0 y1 y2 y3 y4 => kx 0 [.ptr 0 0, .sl 6 y0, .ptr 1 0] [.cells [.bool y1, .sl 6 y2], .cells [.bool y3, .sl 6 y4]]) := by
  induction j with
  | zero => intros; rfl
  | succ j ih =>
    intro kx kr x0 x1 x2 x3 x4
    refine Eq.trans ?_ (Eq.trans (Eq.trans (publicanref1_trim_S0_eq m (fun vs os => loopP tb (publicanref1_trim_G m) 0 Tryz.f142.ntmps [(3, .any), (2, .fcells [(1, 6)]), (1, .fcells [(1, 6)])] [(2, .any), (3, .any), (1, .any)] [] [] (lpC (bodyOf Tryz.f142) 0) j vs os kx kr) kx kr x0 x1 x2 x3 x4) (congrArg (fun ρ => publicanref1_trim_S0 m ρ (fun y0 y1 y2 y3 y4 => kx 0 [.ptr 0 0, .sl 6 y0, .ptr 1 0] [.cells [.bool y1, .sl 6 y2], .cells [.bool y3, .sl 6 y4]]) x0 x1 x2 x3 x4) (funext fun x0 => funext fun x1 => funext fun x2 => funext fun x3 => funext fun x4 => ih kx kr x0 x1 x2 x3 x4))) ?_) <;> kernel_rfl
noncomputable def publicanref1_trim_X0 (m : Nat) : LoopH R := ⟨[(3, .any), (2, .fcells [(1, 6)]), (1, .fcells [(1, 6)])], [(2, .any), (3, .any), (1, .any)], [], fun vs os kx kr => match vs, os with | [v0_, v1_, v2_], [q0_, q1_] => ((rdSl 6 v0_).bind fun x0 => (rdPtr 0 0 v1_).bind fun u0 => (rdPtr 1 0 v2_).bind fun u1 => (rdCells q0_).bind fun l2 => match l2 with | [c3_0, c3_1] => ((rdBool c3_0).bind fun x1 => (rdSl 6 c3_1).bind fun x2 => (rdCells q1_).bind fun l4 => match l4 with | [c5_0, c5_1] => ((rdBool c5_0).bind fun x3 => (rdSl 6 c5_1).bind fun x4 => publicanref1_trim_L0 m m x0 x1 x2 x3 x4 (fun y0 y1 y2 y3 y4 => kx 0 [.ptr 0 0, .sl 6 y0, .ptr 1 0] [.cells [.bool y1, .sl 6 y2], .cells [.bool y3, .sl 6 y4]])) | _ => none) | _ => none) | _, _ => none⟩
set_option maxHeartbeats 4000000 in
theorem publicanref1_trim_X0_ok {m : Nat} (HG : ∀ f, SemOK cxP f (publicanref1_trim_G (R := R) m f)) : LoopSem cxP Tryz.f142.ntmps 0 (lpC (bodyOf Tryz.f142) 0) (publicanref1_trim_X0 (R := R) m) :=
  loop_of C HG (L := []) (by kernel_rfl) (by rw [show loopsIn (lpC (bodyOf Tryz.f142) 0) = [] from by kernel_rfl]; exact (.nil _)) m fun vs os kx kr r h => by
    try dsimp only at h
    split at h; rotate_left; cases h
    rename_i v0_ v1_ v2_ q0_ q1_
    replace h := Option.bind_eq_some_iff.1 h; obtain ⟨x0, hh, h⟩ := h; obtain rfl := rdSl_eq hh; clear hh
    replace h := Option.bind_eq_some_iff.1 h; obtain ⟨u0, hh, h⟩ := h; obtain rfl := rdPtr_eq hh; clear hh
    replace h := Option.bind_eq_some_iff.1 h; obtain ⟨u1, hh, h⟩ := h; obtain rfl := rdPtr_eq hh; clear hh
    replace h := Option.bind_eq_some_iff.1 h; obtain ⟨l2, hh, h⟩ := h; obtain rfl := rdCells_eq hh; clear hh
    split at h; rotate_left; cases h
    rename_i c3_0 c3_1
    replace h := Option.bind_eq_some_iff.1 h; obtain ⟨x1, hh, h⟩ := h; obtain rfl := rdBool_eq hh; clear hh
    replace h := Option.bind_eq_some_iff.1 h; obtain ⟨x2, hh, h⟩ := h; obtain rfl := rdSl_eq hh; clear hh
    replace h := Option.bind_eq_some_iff.1 h; obtain ⟨l4, hh, h⟩ := h; obtain rfl := rdCells_eq hh; clear hh
    split at h; rotate_left; cases h
    rename_i c5_0 c5_1
    replace h := Option.bind_eq_some_iff.1 h; obtain ⟨x3, hh, h⟩ := h; obtain rfl := rdBool_eq hh; clear hh
    replace h := Option.bind_eq_some_iff.1 h; obtain ⟨x4, hh, h⟩ := h; obtain rfl := rdSl_eq hh; clear hh
    exact (publicanref1_trim_L0_eq m m kx kr x0 x1 x2 x3 x4).trans h
noncomputable def publicanref1_trim_w (F : T_publicanref1_Big → (T_publicanref1_Big → Option R) → Option R) : PSem R := fun vs os κ => match vs, os with | [v0_], [] => ((rdSt 5 v0_).bind fun a0 => F a0 (fun r => κ (.st 5 r) [])) | _, _ => none
def publicanref1_trim_ac : List (Option (Bool × Nat)) := [some (false, 5)]
set_option maxRecDepth 100000 in
theorem publicanref1_trim_eq (m : Nat) (a0 : T_publicanref1_Big) (κ : V → List PObj → Option R) : pFun tb (publicanref1_trim_G m) 0 [publicanref1_trim_X0 m] [some (false, 5)] Tryz.f142 [.st 5 a0] [] κ = publicanref1_trim m a0 (fun r => κ (.st 5 r) []) := by
  delta publicanref1_trim_G publicanref1_trim publicanref1_trim_X0
  generalize publicanref1_trim_L0 (R := R) m = c0
  refine id ?_
  kernel_rfl
noncomputable def publicanref1_trim_sem (m : Nat) : PSem R := semOf publicanref1_trim_ac (publicanref1_trim_w (publicanref1_trim m))
theorem publicanref1_trim_ok (m : Nat) : SemOK cxP 142 (publicanref1_trim_sem (R := R) m) :=
  have HG : ∀ f, SemOK cxP f (publicanref1_trim_G (R := R) m f) := tabG_ok .nil
  semOf_ok (fun_of C HG (L := [publicanref1_trim_X0 m]) (rc := [some (false, 5)]) (k := 0) (fn_of Tryz.func142) rfl rfl (by kernel_rfl) (by rw [show loopsIn (bodyOf Tryz.f142) = [(lpC (bodyOf Tryz.f142) 0)] from by kernel_rfl]; exact (.cons (publicanref1_trim_X0_ok HG) (.nil _))) fun vs os κ r h => by
    unfold publicanref1_trim_w at h
    split at h; rotate_left; cases h
    rename_i v0_
    replace h := Option.bind_eq_some_iff.1 h; obtain ⟨a0, hh, h⟩ := h; obtain rfl := rdSt_eq hh; clear hh
    exact (publicanref1_trim_eq m a0 κ).trans h
)
noncomputable def publicanref1_less_G (m : Nat) : FuncId → PSem R := tabG []
set_option maxRecDepth 100000 in
theorem publicanref1_less_S0_eq (m : Nat) (ρ : List V → List PObj → Option R) (kx : Nat → List V → List PObj → Option R) (kr : List V → List PObj → Option R) (x0 : Int) (x1 : List Int) (x2 : List Int) : pCode tb (publicanref1_less_G m) 0 Tryz.f144.ntmps (lpC (bodyOf Tryz.f144) 0) [] (fun s => match head 0 [(5, .any), (1, .any), (0, .any)] s with | (vs, os) => ρ vs os) (fun i s => match head 0 [] s with | (vs, os) => kx i vs os) (fun s => match head 0 [(4, .any)] s with | (vs, os) => kr vs os) ⟨mkEnv [(5, .any), (1, .any), (0, .any)] [.int .i64 x0, .sl 6 x1, .sl 6 x2], []⟩ = publicanref1_less_S0 m (fun x0 x1 x2 => ρ [.int .i64 x0, .sl 6 x1, .sl 6 x2] []) (fun (_ : Unit) => kx 0 [] []) (fun z0 => kr [.bool z0] []) x0 x1 x2 := by
  delta publicanref1_less_G publicanref1_less_S0
  refine id ?_
  kernel_rfl
set_option maxHeartbeats 4000000 in
theorem publicanref1_less_L0_eq (m : Nat) (j : Nat) : ∀ (kx : Nat → List V → List PObj → Option R) (kr : List V → List PObj → Option R) (x0 : Int) (x1 : List Int) (x2 : List Int), loopP tb (publicanref1_less_G m) 0 Tryz.f144.ntmps [(5, .any), (1, .any), (0, .any)] [] [(4, .any)] [] (lpC (bodyOf Tryz.f144) 0) j [.int .i64 x0, .sl 6 x1, .sl 6 x2] [] kx kr = publicanref1_less_L0 m j x0 x1 x2 (fun (_ : Unit) => kx 0 [] []) (fun z0 => kr [.bool z0] []) := by
  induction j with
  | zero => intros; rfl
  | succ j ih =>
    intro kx kr x0 x1 x2
    refine Eq.trans ?_ (Eq.trans (Eq.trans (publicanref1_less_S0_eq m (fun vs os => loopP tb (publicanref1_less_G m) 0 Tryz.f144.ntmps [(5, .any), (1, .any), (0, .any)] [] [(4, .any)] [] (lpC (bodyOf Tryz.f144) 0) j vs os kx kr) kx kr x0 x1 x2) (congrArg (fun ρ => publicanref1_less_S0 m ρ (fun (_ : Unit) => kx 0 [] []) (fun z0 => kr [.bool z0] []) x0 x1 x2) (funext fun x0 => funext fun x1 => funext fun x2 => ih kx kr x0 x1 x2))) ?_) <;> kernel_rfl
noncomputable def publicanref1_less_X0 (m : Nat) : LoopH R := ⟨[(5, .any), (1, .any), (0, .any)], [], [(4, .any)], fun vs os kx kr => match vs, os with | [v0_, v1_, v2_], [] => ((rdInt .i64 v0_).bind fun x0 => (rdSl 6 v1_).bind fun x1 => (rdSl 6 v2_).bind fun x2 => publicanref1_less_L0 m m x0 x1 x2 (fun (_ : Unit) => kx 0 [] []) (fun z0 => kr [.bool z0] [])) | _, _ => none⟩
set_option maxHeartbeats 4000000 in
theorem publicanref1_less_X0_ok {m : Nat} (HG : ∀ f, SemOK cxP f (publicanref1_less_G (R := R) m f)) : LoopSem cxP Tryz.f144.ntmps 0 (lpC (bodyOf Tryz.f144) 0) (publicanref1_less_X0 (R := R) m) :=
  loop_of C HG (L := []) (by kernel_rfl) (by rw [show loopsIn (lpC (bodyOf Tryz.f144) 0) = [] from by kernel_rfl]; exact (.nil _)) m fun vs os kx kr r h => by
    try dsimp only at h
    split at h; rotate_left; cases h
    rename_i v0_ v1_ v2_
    replace h := Option.bind_eq_some_iff.1 h; obtain ⟨x0, hh, h⟩ := h; obtain rfl := rdInt_eq hh; clear hh
    replace h := Option.bind_eq_some_iff.1 h; obtain ⟨x1, hh, h⟩ := h; obtain rfl := rdSl_eq hh; clear hh
    replace h := Option.bind_eq_some_iff.1 h; obtain ⟨x2, hh, h⟩ := h; obtain rfl := rdSl_eq hh; clear hh
    exact (publicanref1_less_L0_eq m m kx kr x0 x1 x2).trans h
noncomputable def publicanref1_less_w (F : List Int → List Int → (Bool → Option R) → Option R) : PSem R := fun vs os κ => match vs, os with | [v0_, v1_], [] => ((rdSl 6 v0_).bind fun a0 => (rdSl 6 v1_).bind fun a1 => F a0 a1 (fun r => κ (.bool r) [])) | _, _ => none
def publicanref1_less_ac : List (Option (Bool × Nat)) := [some (true, 6), some (true, 6)]
set_option maxRecDepth 100000 in
theorem publicanref1_less_eq (m : Nat) (a0 : List Int) (a1 : List Int) (κ : V → List PObj → Option R) : pFun tb (publicanref1_less_G m) 0 [publicanref1_less_X0 m] [none] Tryz.f144 [.sl 6 a0, .sl 6 a1] [] κ = publicanref1_less m a0 a1 (fun r => κ (.bool r) []) := by
  delta publicanref1_less_G publicanref1_less publicanref1_less_X0
  generalize publicanref1_less_L0 (R := R) m = c0
  refine id ?_
  kernel_rfl
noncomputable def publicanref1_less_sem (m : Nat) : PSem R := semOf publicanref1_less_ac (publicanref1_less_w (publicanref1_less m))
theorem publicanref1_less_ok (m : Nat) : SemOK cxP 144 (publicanref1_less_sem (R := R) m) :=
  have HG : ∀ f, SemOK cxP f (publicanref1_less_G (R := R) m f) := tabG_ok .nil
  semOf_ok (fun_of C HG (L := [publicanref1_less_X0 m]) (rc := [none]) (k := 0) (fn_of Tryz.func144) rfl rfl (by kernel_rfl) (by rw [show loopsIn (bodyOf Tryz.f144) = [(lpC (bodyOf Tryz.f144) 0)] from by kernel_rfl]; exact (.cons (publicanref1_less_X0_ok HG) (.nil _))) fun vs os κ r h => by
    unfold publicanref1_less_w at h
    split at h; rotate_left; cases h
    rename_i v0_ v1_
    replace h := Option.bind_eq_some_iff.1 h; obtain ⟨a0, hh, h⟩ := h; obtain rfl := rdSl_eq hh; clear hh
    replace h := Option.bind_eq_some_iff.1 h; obtain ⟨a1, hh, h⟩ := h; obtain rfl := rdSl_eq hh; clear hh
    exact (publicanref1_less_eq m a0 a1 κ).trans h
)
noncomputable def publicanref1_digit_G (m : Nat) : FuncId → PSem R := tabG []
noncomputable def publicanref1_digit_w (F : List Int → Int → (Int → Option R) → Option R) : PSem R := fun vs os κ => match vs, os with | [v0_, v1_], [] => ((rdSl 6 v0_).bind fun a0 => (rdInt .i64 v1_).bind fun a1 => F a0 a1 (fun r => κ (.int .u64 r) [])) | _, _ => none
def publicanref1_digit_ac : List (Option (Bool × Nat)) := [some (true, 6), none]
set_option maxRecDepth 100000 in
theorem publicanref1_digit_eq (m : Nat) (a0 : List Int) (a1 : Int) (κ : V → List PObj → Option R) : pFun tb (publicanref1_digit_G m) 0 [] [none] Tryz.f145 [.sl 6 a0, .int .i64 a1] [] κ = publicanref1_digit m a0 a1 (fun r => κ (.int .u64 r) []) := by
  delta publicanref1_digit_G publicanref1_digit
  refine id ?_
  kernel_rfl
noncomputable def publicanref1_digit_sem (m : Nat) : PSem R := semOf publicanref1_digit_ac (publicanref1_digit_w (publicanref1_digit m))
theorem publicanref1_digit_ok (m : Nat) : SemOK cxP 145 (publicanref1_digit_sem (R := R) m) :=
  have HG : ∀ f, SemOK cxP f (publicanref1_digit_G (R := R) m f) := tabG_ok .nil
  semOf_ok (fun_of C HG (L := []) (rc := [none]) (k := 0) (fn_of Tryz.func145) rfl rfl (by kernel_rfl) (by rw [show loopsIn (bodyOf Tryz.f145) = [] from by kernel_rfl]; exact (.nil _)) fun vs os κ r h => by
    unfold publicanref1_digit_w at h
    split at h; rotate_left; cases h
    rename_i v0_ v1_
    replace h := Option.bind_eq_some_iff.1 h; obtain ⟨a0, hh, h⟩ := h; obtain rfl := rdSl_eq hh; clear hh
    replace h := Option.bind_eq_some_iff.1 h; obtain ⟨a1, hh, h⟩ := h; obtain rfl := rdInt_eq hh; clear hh
    exact (publicanref1_digit_eq m a0 a1 κ).trans h
)
noncomputable def typ_number_G (m : Nat) : FuncId → PSem R := tabG []
noncomputable def typ_number_w (F : Int → (Bool → Option R) → Option R) : PSem R := fun vs os κ => match vs, os with | [v0_], [] => ((rdInt .i64 v0_).bind fun a0 => F a0 (fun r => κ (.bool r) [])) | _, _ => none
def typ_number_ac : List (Option (Bool × Nat)) := [none]
set_option maxRecDepth 100000 in
theorem typ_number_eq (m : Nat) (a0 : Int) (κ : V → List PObj → Option R) : pFun tb (typ_number_G m) 0 [] [none] Tryz.f174 [.int .i64 a0] [] κ = typ_number m a0 (fun r => κ (.bool r) []) := by
  delta typ_number_G typ_number
  refine id ?_
  kernel_rfl
noncomputable def typ_number_sem (m : Nat) : PSem R := semOf typ_number_ac (typ_number_w (typ_number m))
theorem typ_number_ok (m : Nat) : SemOK cxP 174 (typ_number_sem (R := R) m) :=
  have HG : ∀ f, SemOK cxP f (typ_number_G (R := R) m f) := tabG_ok .nil
  semOf_ok (fun_of C HG (L := []) (rc := [none]) (k := 0) (fn_of Tryz.func174) rfl rfl (by kernel_rfl) (by rw [show loopsIn (bodyOf Tryz.f174) = [] from by kernel_rfl]; exact (.nil _)) fun vs os κ r h => by
    unfold typ_number_w at h
    split at h; rotate_left; cases h
    rename_i v0_
    replace h := Option.bind_eq_some_iff.1 h; obtain ⟨a0, hh, h⟩ := h; obtain rfl := rdInt_eq hh; clear hh
    exact (typ_number_eq m a0 κ).trans h
)
noncomputable def num_narrow_G (m : Nat) : FuncId → PSem R := tabG []
noncomputable def num_narrow_w (F : T_num_Wide → (Int → Bool → Option R) → Option R) : PSem R := fun vs os κ => match vs, os with | [v0_], [] => ((rdSt 7 v0_).bind fun a0 => F a0 (fun r_0 r_1 => κ (.tup [.int .i64 r_0, .bool r_1]) [])) | _, _ => none
def num_narrow_ac : List (Option (Bool × Nat)) := [some (false, 7)]
set_option maxRecDepth 100000 in
theorem num_narrow_eq (m : Nat) (a0 : T_num_Wide) (κ : V → List PObj → Option R) : pFun tb (num_narrow_G m) 0 [] [none, none] Tryz.f175 [.st 7 a0] [] κ = num_narrow m a0 (fun r_0 r_1 => κ (.tup [.int .i64 r_0, .bool r_1]) []) := by
  delta num_narrow_G num_narrow
  refine id ?_
  kernel_rfl
noncomputable def num_narrow_sem (m : Nat) : PSem R := semOf num_narrow_ac (num_narrow_w (num_narrow m))
theorem num_narrow_ok (m : Nat) : SemOK cxP 175 (num_narrow_sem (R := R) m) :=
  have HG : ∀ f, SemOK cxP f (num_narrow_G (R := R) m f) := tabG_ok .nil
  semOf_ok (fun_of C HG (L := []) (rc := [none, none]) (k := 0) (fn_of Tryz.func175) rfl rfl (by kernel_rfl) (by rw [show loopsIn (bodyOf Tryz.f175) = [] from by kernel_rfl]; exact (.nil _)) fun vs os κ r h => by
    unfold num_narrow_w at h
    split at h; rotate_left; cases h
    rename_i v0_
    replace h := Option.bind_eq_some_iff.1 h; obtain ⟨a0, hh, h⟩ := h; obtain rfl := rdSt_eq hh; clear hh
    exact (num_narrow_eq m a0 κ).trans h
)
noncomputable def math_bits_Len64_G (m : Nat) : FuncId → PSem R := tabG []
noncomputable def math_bits_Len64_w (F : Int → (Int → Option R) → Option R) : PSem R := fun vs os κ => match vs, os with | [v0_], [] => ((rdInt .u64 v0_).bind fun a0 => F a0 (fun r => κ (.int .i64 r) [])) | _, _ => none
def math_bits_Len64_ac : List (Option (Bool × Nat)) := [none]
set_option maxRecDepth 100000 in
theorem math_bits_Len64_eq (m : Nat) (a0 : Int) (κ : V → List PObj → Option R) : pFun tb (math_bits_Len64_G m) 0 [] [none] Tryz.f200 [.int .u64 a0] [] κ = math_bits_Len64 m a0 (fun r => κ (.int .i64 r) []) := by
  delta math_bits_Len64_G math_bits_Len64
  refine id ?_
  kernel_rfl
noncomputable def math_bits_Len64_sem (m : Nat) : PSem R := semOf math_bits_Len64_ac (math_bits_Len64_w (math_bits_Len64 m))
theorem math_bits_Len64_ok (m : Nat) : SemOK cxP 200 (math_bits_Len64_sem (R := R) m) :=
  have HG : ∀ f, SemOK cxP f (math_bits_Len64_G (R := R) m f) := tabG_ok .nil
  semOf_ok (fun_of C HG (L := []) (rc := [none]) (k := 0) (fn_of Tryz.func200) rfl rfl (by kernel_rfl) (by rw [show loopsIn (bodyOf Tryz.f200) = [] from by kernel_rfl]; exact (.nil _)) fun vs os κ r h => by
    unfold math_bits_Len64_w at h
    split at h; rotate_left; cases h
    rename_i v0_
    replace h := Option.bind_eq_some_iff.1 h; obtain ⟨a0, hh, h⟩ := h; obtain rfl := rdInt_eq hh; clear hh
    exact (math_bits_Len64_eq m a0 κ).trans h
)
noncomputable def math_bits_Mul64_G (m : Nat) : FuncId → PSem R := tabG []
noncomputable def math_bits_Mul64_w (F : Int → Int → (Int → Int → Option R) → Option R) : PSem R := fun vs os κ => match vs, os with | [v0_, v1_], [] => ((rdInt .u64 v0_).bind fun a0 => (rdInt .u64 v1_).bind fun a1 => F a0 a1 (fun r_0 r_1 => κ (.tup [.int .u64 r_0, .int .u64 r_1]) [])) | _, _ => none
def math_bits_Mul64_ac : List (Option (Bool × Nat)) := [none, none]
set_option maxRecDepth 100000 in
theorem math_bits_Mul64_eq (m : Nat) (a0 : Int) (a1 : Int) (κ : V → List PObj → Option R) : pFun tb (math_bits_Mul64_G m) 0 [] [none, none] Tryz.f203 [.int .u64 a0, .int .u64 a1] [] κ = math_bits_Mul64 m a0 a1 (fun r_0 r_1 => κ (.tup [.int .u64 r_0, .int .u64 r_1]) []) := by
  delta math_bits_Mul64_G math_bits_Mul64
  refine id ?_
  kernel_rfl
noncomputable def math_bits_Mul64_sem (m : Nat) : PSem R := semOf math_bits_Mul64_ac (math_bits_Mul64_w (math_bits_Mul64 m))
theorem math_bits_Mul64_ok (m : Nat) : SemOK cxP 203 (math_bits_Mul64_sem (R := R) m) :=
  have HG : ∀ f, SemOK cxP f (math_bits_Mul64_G (R := R) m f) := tabG_ok .nil
  semOf_ok (fun_of C HG (L := []) (rc := [none, none]) (k := 0) (fn_of Tryz.func203) rfl rfl (by kernel_rfl) (by rw [show loopsIn (bodyOf Tryz.f203) = [] from by kernel_rfl]; exact (.nil _)) fun vs os κ r h => by
    unfold math_bits_Mul64_w at h
    split at h; rotate_left; cases h
    rename_i v0_ v1_
    replace h := Option.bind_eq_some_iff.1 h; obtain ⟨a0, hh, h⟩ := h; obtain rfl := rdInt_eq hh; clear hh
    replace h := Option.bind_eq_some_iff.1 h; obtain ⟨a1, hh, h⟩ := h; obtain rfl := rdInt_eq hh; clear hh
    exact (math_bits_Mul64_eq m a0 a1 κ).trans h
)
noncomputable def num_Of_G (m : Nat) : FuncId → PSem R := tabG []
noncomputable def num_Of_w (F : Int → (T_num_Wide → Option R) → Option R) : PSem R := fun vs os κ => match vs, os with | [v0_], [] => ((rdInt .i64 v0_).bind fun a0 => F a0 (fun r => κ (.st 7 r) [])) | _, _ => none
def num_Of_ac : List (Option (Bool × Nat)) := [none]
set_option maxRecDepth 100000 in
theorem num_Of_eq (m : Nat) (a0 : Int) (κ : V → List PObj → Option R) : pFun tb (num_Of_G m) 0 [] [some (false, 7)] Tryz.f207 [.int .i64 a0] [] κ = num_Of m a0 (fun r => κ (.st 7 r) []) := by
  delta num_Of_G num_Of
  refine id ?_
  kernel_rfl
noncomputable def num_Of_sem (m : Nat) : PSem R := semOf num_Of_ac (num_Of_w (num_Of m))
theorem num_Of_ok (m : Nat) : SemOK cxP 207 (num_Of_sem (R := R) m) :=
  have HG : ∀ f, SemOK cxP f (num_Of_G (R := R) m f) := tabG_ok .nil
  semOf_ok (fun_of C HG (L := []) (rc := [some (false, 7)]) (k := 0) (fn_of Tryz.func207) rfl rfl (by kernel_rfl) (by rw [show loopsIn (bodyOf Tryz.f207) = [] from by kernel_rfl]; exact (.nil _)) fun vs os κ r h => by
    unfold num_Of_w at h
    split at h; rotate_left; cases h
    rename_i v0_
    replace h := Option.bind_eq_some_iff.1 h; obtain ⟨a0, hh, h⟩ := h; obtain rfl := rdInt_eq hh; clear hh
    exact (num_Of_eq m a0 κ).trans h
)
end Go.Pm
