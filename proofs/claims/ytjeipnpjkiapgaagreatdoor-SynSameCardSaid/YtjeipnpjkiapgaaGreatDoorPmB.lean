/- The interpreter over data answers as the plain functions say. -/
import Derived.Test.YtjeipnpjkiapgaaGreatDoorPmA
import Derived.Test.YtjeipnpjkiapgaaGreatDoorPvB
import Derived.Test.YtjeipnpjkiapgaaGreatDoorProg
import Derived.KernelRfl
set_option linter.unusedVariables false
set_option linter.unusedSectionVars false
set_option linter.unusedSimpArgs false
namespace Go.Pm
open Go Go.EvM Go.Pv Go.Proofs
set_option linter.unusedVariables false
set_option linter.unusedSectionVars false
variable {R : Type}
noncomputable def tbL : List (TypeId × TB) := [
  (94, ⟨.sl 9, 1, 24, false, [.nils]⟩),
  (9, ⟨.str, 1, 16, false, [.str []]⟩),
  (5, ⟨.int .u8, 1, 1, false, [.int .u8 0]⟩),
  (59, ⟨.strc [(0, 1, false), (1, 1, false), (2, 1, false), (3, 1, false)], 4, 40, true, [.int .i64 0, .str [], .int .i64 0, .int .i64 0]⟩),
  (57, ⟨.strc [(0, 1, false), (1, 1, false), (2, 1, false), (3, 1, false), (4, 1, false)], 5, 56, true, [.nils, .int .i64 0, .int .i64 0, .bool false, .int .i64 0]⟩),
  (52, ⟨.sl 59, 1, 24, false, [.nils]⟩),
  (3, ⟨.int .i64, 1, 8, false, [.int .i64 0]⟩),
  (2, ⟨.int .i64, 1, 8, false, [.int .i64 0]⟩),
  (32, ⟨.strc [(0, 1, false), (1, 1, false), (2, 1, false), (3, 1, false), (4, 1, false), (5, 1, false)], 6, 80, true, [.str [], .str [], .int .i64 0, .int .i64 0, .int .i64 0, .nils]⟩),
  (30, ⟨.sl 32, 1, 24, false, [.nils]⟩),
  (26, ⟨.strc [(0, 1, false), (1, 1, false), (2, 1, false), (3, 1, false), (4, 1, false), (5, 1, false)], 6, 80, true, [.str [], .str [], .int .i64 0, .int .i64 0, .int .i64 0, .nils]⟩),
  (24, ⟨.sl 26, 1, 24, false, [.nils]⟩),
  (4, ⟨.bool, 1, 1, false, [.bool false]⟩),
  (23, ⟨.int .i64, 1, 8, false, [.int .i64 0]⟩),
  (104, ⟨.sl 3, 1, 24, false, [.nils]⟩),
  (145, ⟨.sl 94, 1, 24, false, [.nils]⟩)]
noncomputable def tb : TypeId → Option TB := fun t => lookB t tbL
def yesP (args : List Value) (h : Hp) : OR := match args with | [] => .ok (.bool true) h | _ :: _ => .no
noncomputable def extP : FuncId → Option (List Value → Hp → OR) := fun f => bif Nat.beq f 7 then some (yesP) else none
noncomputable def cxP : Cx := mkCx Tryz.prog [] extP
set_option maxRecDepth 100000 in
theorem tbL_ok : tbL.all (fun p => tiB cxP p.1 p.2) = true := by kernel_rfl
theorem C : PvOk cxP tb := ⟨fun t b h => lookB_ok tbL_ok t b h, rfl, rfl, fun t => rfl⟩
noncomputable def publicanlaw10_awake_sem (m : Nat) : PSem R := fun vs os κ => match vs, os with | [], os => κ (.bool true) os | _, _ => none
theorem publicanlaw10_awake_ok (m : Nat) : SemOK cxP 7 (publicanlaw10_awake_sem (R := R) m) := fun vs os κ r h => by
  unfold publicanlaw10_awake_sem at h
  split at h
  · refine ⟨_, _, h, 1, fun j hj Φ g H ws hs hr => ?_⟩
    cases hr
    obtain ⟨j, rfl⟩ : ∃ i, j = i + 1 := ⟨j - 1, by omega⟩
    exact ⟨.bool true, H, Φ, g, rfl, .bool true, hs, Nx.refl _ _ _ _⟩
  · cases h
end Go.Pm
namespace Go.Pm
open Go Go.EvM Go.Pv Go.Proofs
set_option linter.unusedVariables false
set_option linter.unusedSectionVars false
variable {R : Type}
noncomputable def publicanref9_letter_G (m : Nat) : FuncId → PSem R := tabG []
noncomputable def publicanref9_letter_w (F : Int → (Bool → Option R) → Option R) : PSem R := fun vs os κ => match vs, os with | [v0_], [] => ((rdInt .u8 v0_).bind fun a0 => F a0 (fun r => κ (.bool r) [])) | _, _ => none
def publicanref9_letter_ac : List (Option (Bool × Nat)) := [none]
set_option maxRecDepth 100000 in
theorem publicanref9_letter_eq (m : Nat) (a0 : Int) (κ : V → List PObj → Option R) : pFun tb (publicanref9_letter_G m) 0 [] [none] Tryz.f37 [.int .u8 a0] [] κ = publicanref9_letter m a0 (fun r => κ (.bool r) []) := by
  delta publicanref9_letter_G publicanref9_letter
  refine id ?_
  kernel_rfl
noncomputable def publicanref9_letter_sem (m : Nat) : PSem R := semOf publicanref9_letter_ac (publicanref9_letter_w (publicanref9_letter m))
theorem publicanref9_letter_ok (m : Nat) : SemOK cxP 37 (publicanref9_letter_sem (R := R) m) :=
  have HG : ∀ f, SemOK cxP f (publicanref9_letter_G (R := R) m f) := tabG_ok .nil
  semOf_ok (fun_of C HG (L := []) (rc := [none]) (k := 0) (fn_of Tryz.func37) rfl rfl (by kernel_rfl) (by rw [show loopsIn (bodyOf Tryz.f37) = [] from by kernel_rfl]; exact (.nil _)) fun vs os κ r h => by
    unfold publicanref9_letter_w at h
    split at h; rotate_left; cases h
    rename_i v0_
    replace h := Option.bind_eq_some_iff.1 h; obtain ⟨a0, hh, h⟩ := h; obtain rfl := rdInt_eq hh; clear hh
    exact (publicanref9_letter_eq m a0 κ).trans h
)
noncomputable def publicanref9_digit_G (m : Nat) : FuncId → PSem R := tabG []
noncomputable def publicanref9_digit_w (F : Int → (Bool → Option R) → Option R) : PSem R := fun vs os κ => match vs, os with | [v0_], [] => ((rdInt .u8 v0_).bind fun a0 => F a0 (fun r => κ (.bool r) [])) | _, _ => none
def publicanref9_digit_ac : List (Option (Bool × Nat)) := [none]
set_option maxRecDepth 100000 in
theorem publicanref9_digit_eq (m : Nat) (a0 : Int) (κ : V → List PObj → Option R) : pFun tb (publicanref9_digit_G m) 0 [] [none] Tryz.f38 [.int .u8 a0] [] κ = publicanref9_digit m a0 (fun r => κ (.bool r) []) := by
  delta publicanref9_digit_G publicanref9_digit
  refine id ?_
  kernel_rfl
noncomputable def publicanref9_digit_sem (m : Nat) : PSem R := semOf publicanref9_digit_ac (publicanref9_digit_w (publicanref9_digit m))
theorem publicanref9_digit_ok (m : Nat) : SemOK cxP 38 (publicanref9_digit_sem (R := R) m) :=
  have HG : ∀ f, SemOK cxP f (publicanref9_digit_G (R := R) m f) := tabG_ok .nil
  semOf_ok (fun_of C HG (L := []) (rc := [none]) (k := 0) (fn_of Tryz.func38) rfl rfl (by kernel_rfl) (by rw [show loopsIn (bodyOf Tryz.f38) = [] from by kernel_rfl]; exact (.nil _)) fun vs os κ r h => by
    unfold publicanref9_digit_w at h
    split at h; rotate_left; cases h
    rename_i v0_
    replace h := Option.bind_eq_some_iff.1 h; obtain ⟨a0, hh, h⟩ := h; obtain rfl := rdInt_eq hh; clear hh
    exact (publicanref9_digit_eq m a0 κ).trans h
)
noncomputable def publicanref9_Kept_G (m : Nat) : FuncId → PSem R := tabG []
set_option maxRecDepth 100000 in
theorem publicanref9_Kept_S0_eq (m : Nat) (ρ : List V → List PObj → Option R) (kx : Nat → List V → List PObj → Option R) (kr : List V → List PObj → Option R) (x0 : Int) (x1 : List UInt8) (x2 : List (List UInt8)) : pCode tb (publicanref9_Kept_G m) 0 Tryz.f39.ntmps (lpC (bodyOf Tryz.f39) 0) [] (fun s => match head 0 [(4, .any), (0, .any), (3, .any)] s with | (vs, os) => ρ vs os) (fun i s => match head 0 [] s with | (vs, os) => kx i vs os) (fun s => match head 0 [(2, .any)] s with | (vs, os) => kr vs os) ⟨mkEnv [(4, .any), (0, .any), (3, .any)] [.int .i64 x0, .str x1, .loc 0], [.arr 2 x2]⟩ = publicanref9_Kept_S0 m (fun x0 x1 x2 => ρ [.int .i64 x0, .str x1, .loc 0] [.arr 2 x2]) (fun (_ : Unit) => kx 0 [] []) (fun z0 => kr [.bool z0] []) x0 x1 x2 := by
  delta publicanref9_Kept_G publicanref9_Kept_S0
  refine id ?_
  kernel_rfl
set_option maxHeartbeats 4000000 in
theorem publicanref9_Kept_L0_eq (m : Nat) (j : Nat) : ∀ (kx : Nat → List V → List PObj → Option R) (kr : List V → List PObj → Option R) (x0 : Int) (x1 : List UInt8) (x2 : List (List UInt8)), loopP tb (publicanref9_Kept_G m) 0 Tryz.f39.ntmps [(4, .any), (0, .any), (3, .any)] [] [(2, .any)] [] (lpC (bodyOf Tryz.f39) 0) j [.int .i64 x0, .str x1, .loc 0] [.arr 2 x2] kx kr = publicanref9_Kept_L0 m j x0 x1 x2 (fun (_ : Unit) => kx 0 [] []) (fun z0 => kr [.bool z0] []) := by
  induction j with
  | zero => intros; rfl
  | succ j ih =>
    intro kx kr x0 x1 x2
    refine Eq.trans ?_ (Eq.trans (Eq.trans (publicanref9_Kept_S0_eq m (fun vs os => loopP tb (publicanref9_Kept_G m) 0 Tryz.f39.ntmps [(4, .any), (0, .any), (3, .any)] [] [(2, .any)] [] (lpC (bodyOf Tryz.f39) 0) j vs os kx kr) kx kr x0 x1 x2) (congrArg (fun ρ => publicanref9_Kept_S0 m ρ (fun (_ : Unit) => kx 0 [] []) (fun z0 => kr [.bool z0] []) x0 x1 x2) (funext fun x0 => funext fun x1 => funext fun x2 => ih kx kr x0 x1 x2))) ?_) <;> kernel_rfl
noncomputable def publicanref9_Kept_X0 (m : Nat) : LoopH R := ⟨[(4, .any), (0, .any), (3, .any)], [], [(2, .any)], fun vs os kx kr => match vs, os with | [v0_, v1_, v2_], [q0_] => ((rdInt .i64 v0_).bind fun x0 => (rdStr v1_).bind fun x1 => (rdLoc 0 v2_).bind fun u0 => (rdArr 2 q0_).bind fun x2 => publicanref9_Kept_L0 m m x0 x1 x2 (fun (_ : Unit) => kx 0 [] []) (fun z0 => kr [.bool z0] [])) | _, _ => none⟩
set_option maxHeartbeats 4000000 in
theorem publicanref9_Kept_X0_ok {m : Nat} (HG : ∀ f, SemOK cxP f (publicanref9_Kept_G (R := R) m f)) : LoopSem cxP Tryz.f39.ntmps 0 (lpC (bodyOf Tryz.f39) 0) (publicanref9_Kept_X0 (R := R) m) :=
  loop_of C HG (L := []) (by kernel_rfl) (by rw [show loopsIn (lpC (bodyOf Tryz.f39) 0) = [] from by kernel_rfl]; exact (.nil _)) m fun vs os kx kr r h => by
    try dsimp only at h
    split at h; rotate_left; cases h
    rename_i v0_ v1_ v2_ q0_
    replace h := Option.bind_eq_some_iff.1 h; obtain ⟨x0, hh, h⟩ := h; obtain rfl := rdInt_eq hh; clear hh
    replace h := Option.bind_eq_some_iff.1 h; obtain ⟨x1, hh, h⟩ := h; obtain rfl := rdStr_eq hh; clear hh
    replace h := Option.bind_eq_some_iff.1 h; obtain ⟨u0, hh, h⟩ := h; obtain rfl := rdLoc_eq hh; clear hh
    replace h := Option.bind_eq_some_iff.1 h; obtain ⟨x2, hh, h⟩ := h; obtain rfl := rdArr_eq hh; clear hh
    exact (publicanref9_Kept_L0_eq m m kx kr x0 x1 x2).trans h
noncomputable def publicanref9_Kept_w (F : List UInt8 → (Bool → Option R) → Option R) : PSem R := fun vs os κ => match vs, os with | [v0_], [] => ((rdStr v0_).bind fun a0 => F a0 (fun r => κ (.bool r) [])) | _, _ => none
def publicanref9_Kept_ac : List (Option (Bool × Nat)) := [none]
set_option maxRecDepth 100000 in
theorem publicanref9_Kept_eq (m : Nat) (a0 : List UInt8) (κ : V → List PObj → Option R) : pFun tb (publicanref9_Kept_G m) 0 [publicanref9_Kept_X0 m] [none] Tryz.f39 [.str a0] [] κ = publicanref9_Kept m a0 (fun r => κ (.bool r) []) := by
  delta publicanref9_Kept_G publicanref9_Kept publicanref9_Kept_X0
  generalize publicanref9_Kept_L0 (R := R) m = c0
  refine id ?_
  kernel_rfl
noncomputable def publicanref9_Kept_sem (m : Nat) : PSem R := semOf publicanref9_Kept_ac (publicanref9_Kept_w (publicanref9_Kept m))
theorem publicanref9_Kept_ok (m : Nat) : SemOK cxP 39 (publicanref9_Kept_sem (R := R) m) :=
  have HG : ∀ f, SemOK cxP f (publicanref9_Kept_G (R := R) m f) := tabG_ok .nil
  semOf_ok (fun_of C HG (L := [publicanref9_Kept_X0 m]) (rc := [none]) (k := 0) (fn_of Tryz.func39) rfl rfl (by kernel_rfl) (by rw [show loopsIn (bodyOf Tryz.f39) = [(lpC (bodyOf Tryz.f39) 0)] from by kernel_rfl]; exact (.cons (publicanref9_Kept_X0_ok HG) (.nil _))) fun vs os κ r h => by
    unfold publicanref9_Kept_w at h
    split at h; rotate_left; cases h
    rename_i v0_
    replace h := Option.bind_eq_some_iff.1 h; obtain ⟨a0, hh, h⟩ := h; obtain rfl := rdStr_eq hh; clear hh
    exact (publicanref9_Kept_eq m a0 κ).trans h
)
noncomputable def publicanref9_sign_G (m : Nat) : FuncId → PSem R := tabG []
set_option maxRecDepth 100000 in
theorem publicanref9_sign_S1_eq (m : Nat) (ρ : List V → List PObj → Option R) (kx : Nat → List V → List PObj → Option R) (kr : List V → List PObj → Option R) (x0 : List UInt8) (x1 : Int) (x2 : List UInt8) : pCode tb (publicanref9_sign_G m) 0 Tryz.f43.ntmps (lpC (bodyOf Tryz.f43) 1) [] (fun s => match head 0 [(0, .any), (6, .any), (5, .any)] s with | (vs, os) => ρ vs os) (fun i s => match head 0 [] s with | (vs, os) => kx i vs os) (fun s => match head 0 [(2, .any)] s with | (vs, os) => kr vs os) ⟨mkEnv [(0, .any), (6, .any), (5, .any)] [.str x0, .int .i64 x1, .str x2], []⟩ = publicanref9_sign_S1 m (fun x0 x1 x2 => ρ [.str x0, .int .i64 x1, .str x2] []) (fun (_ : Unit) => kx 2 [] []) (fun z0 => kr [.str z0] []) x0 x1 x2 := by
  delta publicanref9_sign_G publicanref9_sign_S1
  refine id ?_
  kernel_rfl
set_option maxHeartbeats 4000000 in
theorem publicanref9_sign_L1_eq (m : Nat) (j : Nat) : ∀ (kx : Nat → List V → List PObj → Option R) (kr : List V → List PObj → Option R) (x0 : List UInt8) (x1 : Int) (x2 : List UInt8), loopP tb (publicanref9_sign_G m) 0 Tryz.f43.ntmps [(0, .any), (6, .any), (5, .any)] [] [(2, .any)] [] (lpC (bodyOf Tryz.f43) 1) j [.str x0, .int .i64 x1, .str x2] [] kx kr = publicanref9_sign_L1 m j x0 x1 x2 (fun (_ : Unit) => kx 2 [] []) (fun z0 => kr [.str z0] []) := by
  induction j with
  | zero => intros; rfl
  | succ j ih =>
    intro kx kr x0 x1 x2
    refine Eq.trans ?_ (Eq.trans (Eq.trans (publicanref9_sign_S1_eq m (fun vs os => loopP tb (publicanref9_sign_G m) 0 Tryz.f43.ntmps [(0, .any), (6, .any), (5, .any)] [] [(2, .any)] [] (lpC (bodyOf Tryz.f43) 1) j vs os kx kr) kx kr x0 x1 x2) (congrArg (fun ρ => publicanref9_sign_S1 m ρ (fun (_ : Unit) => kx 2 [] []) (fun z0 => kr [.str z0] []) x0 x1 x2) (funext fun x0 => funext fun x1 => funext fun x2 => ih kx kr x0 x1 x2))) ?_) <;> kernel_rfl
noncomputable def publicanref9_sign_X1 (m : Nat) : LoopH R := ⟨[(0, .any), (6, .any), (5, .any)], [], [(2, .any)], fun vs os kx kr => match vs, os with | [v0_, v1_, v2_], [] => ((rdStr v0_).bind fun x0 => (rdInt .i64 v1_).bind fun x1 => (rdStr v2_).bind fun x2 => publicanref9_sign_L1 m m x0 x1 x2 (fun (_ : Unit) => kx 2 [] []) (fun z0 => kr [.str z0] [])) | _, _ => none⟩
set_option maxHeartbeats 4000000 in
theorem publicanref9_sign_X1_ok {m : Nat} (HG : ∀ f, SemOK cxP f (publicanref9_sign_G (R := R) m f)) : LoopSem cxP Tryz.f43.ntmps 0 (lpC (bodyOf Tryz.f43) 1) (publicanref9_sign_X1 (R := R) m) :=
  loop_of C HG (L := []) (by kernel_rfl) (by rw [show loopsIn (lpC (bodyOf Tryz.f43) 1) = [] from by kernel_rfl]; exact (.nil _)) m fun vs os kx kr r h => by
    try dsimp only at h
    split at h; rotate_left; cases h
    rename_i v0_ v1_ v2_
    replace h := Option.bind_eq_some_iff.1 h; obtain ⟨x0, hh, h⟩ := h; obtain rfl := rdStr_eq hh; clear hh
    replace h := Option.bind_eq_some_iff.1 h; obtain ⟨x1, hh, h⟩ := h; obtain rfl := rdInt_eq hh; clear hh
    replace h := Option.bind_eq_some_iff.1 h; obtain ⟨x2, hh, h⟩ := h; obtain rfl := rdStr_eq hh; clear hh
    exact (publicanref9_sign_L1_eq m m kx kr x0 x1 x2).trans h
set_option maxRecDepth 100000 in
theorem publicanref9_sign_S0_eq (m : Nat) (ρ : List V → List PObj → Option R) (kx : Nat → List V → List PObj → Option R) (kr : List V → List PObj → Option R) (x0 : Int) (x1 : List UInt8) (x2 : List (List UInt8)) : pCode tb (publicanref9_sign_G m) 0 Tryz.f43.ntmps (lpC (bodyOf Tryz.f43) 0) [] (fun s => match head 0 [(4, .any), (3, .any), (0, .any)] s with | (vs, os) => ρ vs os) (fun i s => match head 0 [(0, .any)] s with | (vs, os) => kx i vs os) (fun s => match head 0 [(2, .any)] s with | (vs, os) => kr vs os) ⟨mkEnv [(4, .any), (3, .any), (0, .any)] [.int .i64 x0, .loc 0, .str x1], [.arr 2 x2]⟩ = publicanref9_sign_S0 m (fun x0 x1 x2 => ρ [.int .i64 x0, .loc 0, .str x1] [.arr 2 x2]) (fun y0 => kx 0 [.str y0] []) (fun z0 => kr [.str z0] []) x0 x1 x2 := by
  delta publicanref9_sign_G publicanref9_sign_S0
  refine id ?_
  kernel_rfl
set_option maxHeartbeats 4000000 in
theorem publicanref9_sign_L0_eq (m : Nat) (j : Nat) : ∀ (kx : Nat → List V → List PObj → Option R) (kr : List V → List PObj → Option R) (x0 : Int) (x1 : List UInt8) (x2 : List (List UInt8)), loopP tb (publicanref9_sign_G m) 0 Tryz.f43.ntmps [(4, .any), (3, .any), (0, .any)] [(0, .any)] [(2, .any)] [] (lpC (bodyOf Tryz.f43) 0) j [.int .i64 x0, .loc 0, .str x1] [.arr 2 x2] kx kr = publicanref9_sign_L0 m j x0 x1 x2 (fun y0 => kx 0 [.str y0] []) (fun z0 => kr [.str z0] []) := by
  induction j with
  | zero => intros; rfl
  | succ j ih =>
    intro kx kr x0 x1 x2
    refine Eq.trans ?_ (Eq.trans (Eq.trans (publicanref9_sign_S0_eq m (fun vs os => loopP tb (publicanref9_sign_G m) 0 Tryz.f43.ntmps [(4, .any), (3, .any), (0, .any)] [(0, .any)] [(2, .any)] [] (lpC (bodyOf Tryz.f43) 0) j vs os kx kr) kx kr x0 x1 x2) (congrArg (fun ρ => publicanref9_sign_S0 m ρ (fun y0 => kx 0 [.str y0] []) (fun z0 => kr [.str z0] []) x0 x1 x2) (funext fun x0 => funext fun x1 => funext fun x2 => ih kx kr x0 x1 x2))) ?_) <;> kernel_rfl
noncomputable def publicanref9_sign_X0 (m : Nat) : LoopH R := ⟨[(4, .any), (3, .any), (0, .any)], [(0, .any)], [(2, .any)], fun vs os kx kr => match vs, os with | [v0_, v1_, v2_], [q0_] => ((rdInt .i64 v0_).bind fun x0 => (rdLoc 0 v1_).bind fun u0 => (rdStr v2_).bind fun x1 => (rdArr 2 q0_).bind fun x2 => publicanref9_sign_L0 m m x0 x1 x2 (fun y0 => kx 0 [.str y0] []) (fun z0 => kr [.str z0] [])) | _, _ => none⟩
set_option maxHeartbeats 4000000 in
theorem publicanref9_sign_X0_ok {m : Nat} (HG : ∀ f, SemOK cxP f (publicanref9_sign_G (R := R) m f)) : LoopSem cxP Tryz.f43.ntmps 0 (lpC (bodyOf Tryz.f43) 0) (publicanref9_sign_X0 (R := R) m) :=
  loop_of C HG (L := []) (by kernel_rfl) (by rw [show loopsIn (lpC (bodyOf Tryz.f43) 0) = [] from by kernel_rfl]; exact (.nil _)) m fun vs os kx kr r h => by
    try dsimp only at h
    split at h; rotate_left; cases h
    rename_i v0_ v1_ v2_ q0_
    replace h := Option.bind_eq_some_iff.1 h; obtain ⟨x0, hh, h⟩ := h; obtain rfl := rdInt_eq hh; clear hh
    replace h := Option.bind_eq_some_iff.1 h; obtain ⟨u0, hh, h⟩ := h; obtain rfl := rdLoc_eq hh; clear hh
    replace h := Option.bind_eq_some_iff.1 h; obtain ⟨x1, hh, h⟩ := h; obtain rfl := rdStr_eq hh; clear hh
    replace h := Option.bind_eq_some_iff.1 h; obtain ⟨x2, hh, h⟩ := h; obtain rfl := rdArr_eq hh; clear hh
    exact (publicanref9_sign_L0_eq m m kx kr x0 x1 x2).trans h
noncomputable def publicanref9_sign_w (F : List UInt8 → (List UInt8 → Option R) → Option R) : PSem R := fun vs os κ => match vs, os with | [v0_], [] => ((rdStr v0_).bind fun a0 => F a0 (fun r => κ (.str r) [])) | _, _ => none
def publicanref9_sign_ac : List (Option (Bool × Nat)) := [none]
set_option maxRecDepth 100000 in
theorem publicanref9_sign_eq (m : Nat) (a0 : List UInt8) (κ : V → List PObj → Option R) : pFun tb (publicanref9_sign_G m) 0 [publicanref9_sign_X0 m, publicanref9_sign_X1 m] [none] Tryz.f43 [.str a0] [] κ = publicanref9_sign m a0 (fun r => κ (.str r) []) := by
  delta publicanref9_sign_G publicanref9_sign publicanref9_sign_X0 publicanref9_sign_X1
  generalize publicanref9_sign_L0 (R := R) m = c0
  generalize publicanref9_sign_L1 (R := R) m = c1
  refine id ?_
  kernel_rfl
noncomputable def publicanref9_sign_sem (m : Nat) : PSem R := semOf publicanref9_sign_ac (publicanref9_sign_w (publicanref9_sign m))
theorem publicanref9_sign_ok (m : Nat) : SemOK cxP 43 (publicanref9_sign_sem (R := R) m) :=
  have HG : ∀ f, SemOK cxP f (publicanref9_sign_G (R := R) m f) := tabG_ok .nil
  semOf_ok (fun_of C HG (L := [publicanref9_sign_X0 m, publicanref9_sign_X1 m]) (rc := [none]) (k := 0) (fn_of Tryz.func43) rfl rfl (by kernel_rfl) (by rw [show loopsIn (bodyOf Tryz.f43) = [(lpC (bodyOf Tryz.f43) 0), (lpC (bodyOf Tryz.f43) 1)] from by kernel_rfl]; exact (.cons (publicanref9_sign_X0_ok HG) (.cons (publicanref9_sign_X1_ok HG) (.nil _)))) fun vs os κ r h => by
    unfold publicanref9_sign_w at h
    split at h; rotate_left; cases h
    rename_i v0_
    replace h := Option.bind_eq_some_iff.1 h; obtain ⟨a0, hh, h⟩ := h; obtain rfl := rdStr_eq hh; clear hh
    exact (publicanref9_sign_eq m a0 κ).trans h
)
noncomputable def publicanref9_parser_w_G (m : Nat) : FuncId → PSem R := tabG []
noncomputable def publicanref9_parser_w_w (F : T_publicanref9_parser → (T_publicanref9_Word → T_publicanref9_parser → Option R) → Option R) : PSem R := fun vs os κ => match vs, os with | [v0_], [q0_] => ((rdPtr 0 0 v0_).bind fun u0 => (rdCells q0_).bind fun l1 => match l1 with | [c2_0, c2_1, c2_2, c2_3, c2_4] => ((rdSl 5 c2_0).bind fun p0_0 => (rdInt .i64 c2_1).bind fun p0_1 => (rdInt .i64 c2_2).bind fun p0_2 => (rdBool c2_3).bind fun p0_3 => (rdInt .i64 c2_4).bind fun p0_4 => F (T_publicanref9_parser.mk p0_0 p0_1 p0_2 p0_3 p0_4) (fun r w0 => κ (.st 5 r) [.cells [.sl 5 w0.f_l, .int .i64 w0.f_k, .int .i64 w0.f_bad, .bool w0.f_deep, .int .i64 w0.f_d]])) | _ => none) | _, _ => none
def publicanref9_parser_w_ac : List (Option (Bool × Nat)) := [none]
set_option maxRecDepth 100000 in
theorem publicanref9_parser_w_eq (m : Nat) (o0 : T_publicanref9_parser) (κ : V → List PObj → Option R) : pFun tb (publicanref9_parser_w_G m) 1 [] [some (false, 5)] Tryz.f44 [.ptr 0 0] [.cells [.sl 5 o0.f_l, .int .i64 o0.f_k, .int .i64 o0.f_bad, .bool o0.f_deep, .int .i64 o0.f_d]] κ = publicanref9_parser_w m o0 (fun r w0 => κ (.st 5 r) [.cells [.sl 5 w0.f_l, .int .i64 w0.f_k, .int .i64 w0.f_bad, .bool w0.f_deep, .int .i64 w0.f_d]]) := by
  delta publicanref9_parser_w_G publicanref9_parser_w
  refine id ?_
  kernel_rfl
noncomputable def publicanref9_parser_w_sem (m : Nat) : PSem R := semOf publicanref9_parser_w_ac (publicanref9_parser_w_w (publicanref9_parser_w m))
theorem publicanref9_parser_w_ok (m : Nat) : SemOK cxP 44 (publicanref9_parser_w_sem (R := R) m) :=
  have HG : ∀ f, SemOK cxP f (publicanref9_parser_w_G (R := R) m f) := tabG_ok .nil
  semOf_ok (fun_of C HG (L := []) (rc := [some (false, 5)]) (k := 1) (fn_of Tryz.func44) rfl rfl (by kernel_rfl) (by rw [show loopsIn (bodyOf Tryz.f44) = [] from by kernel_rfl]; exact (.nil _)) fun vs os κ r h => by
    unfold publicanref9_parser_w_w at h
    split at h; rotate_left; cases h
    rename_i v0_ q0_
    replace h := Option.bind_eq_some_iff.1 h; obtain ⟨u0, hh, h⟩ := h; obtain rfl := rdPtr_eq hh; clear hh
    replace h := Option.bind_eq_some_iff.1 h; obtain ⟨l1, hh, h⟩ := h; obtain rfl := rdCells_eq hh; clear hh
    split at h; rotate_left; cases h
    rename_i c2_0 c2_1 c2_2 c2_3 c2_4
    replace h := Option.bind_eq_some_iff.1 h; obtain ⟨p0_0, hh, h⟩ := h; obtain rfl := rdSl_eq hh; clear hh
    replace h := Option.bind_eq_some_iff.1 h; obtain ⟨p0_1, hh, h⟩ := h; obtain rfl := rdInt_eq hh; clear hh
    replace h := Option.bind_eq_some_iff.1 h; obtain ⟨p0_2, hh, h⟩ := h; obtain rfl := rdInt_eq hh; clear hh
    replace h := Option.bind_eq_some_iff.1 h; obtain ⟨p0_3, hh, h⟩ := h; obtain rfl := rdBool_eq hh; clear hh
    replace h := Option.bind_eq_some_iff.1 h; obtain ⟨p0_4, hh, h⟩ := h; obtain rfl := rdInt_eq hh; clear hh
    exact (publicanref9_parser_w_eq m (T_publicanref9_parser.mk p0_0 p0_1 p0_2 p0_3 p0_4) κ).trans h
)
noncomputable def publicanref9_number_G (m : Nat) : FuncId → PSem R := tabG []
set_option maxRecDepth 100000 in
theorem publicanref9_number_S0_eq (m : Nat) (ρ : List V → List PObj → Option R) (kx : Nat → List V → List PObj → Option R) (kr : List V → List PObj → Option R) (x0 : Int) (x1 : Int) (x2 : List UInt8) (x3 : Int) : pCode tb (publicanref9_number_G m) 0 Tryz.f85.ntmps (lpC (bodyOf Tryz.f85) 0) [] (fun s => match head 0 [(7, .any), (1, .any), (0, .any), (6, .any)] s with | (vs, os) => ρ vs os) (fun i s => match head 0 [(6, .any)] s with | (vs, os) => kx i vs os) (fun s => match head 0 [(4, .any), (5, .any)] s with | (vs, os) => kr vs os) ⟨mkEnv [(7, .any), (1, .any), (0, .any), (6, .any)] [.int .i64 x0, .int .i64 x1, .str x2, .int .i64 x3], []⟩ = publicanref9_number_S0 m (fun x0 x1 x2 x3 => ρ [.int .i64 x0, .int .i64 x1, .str x2, .int .i64 x3] []) (fun y0 => kx 0 [.int .i64 y0] []) (fun z0 z1 => kr [.int .i64 z0, .bool z1] []) x0 x1 x2 x3 := by
  delta publicanref9_number_G publicanref9_number_S0
  refine id ?_
  kernel_rfl
set_option maxHeartbeats 4000000 in
theorem publicanref9_number_L0_eq (m : Nat) (j : Nat) : ∀ (kx : Nat → List V → List PObj → Option R) (kr : List V → List PObj → Option R) (x0 : Int) (x1 : Int) (x2 : List UInt8) (x3 : Int), loopP tb (publicanref9_number_G m) 0 Tryz.f85.ntmps [(7, .any), (1, .any), (0, .any), (6, .any)] [(6, .any)] [(4, .any), (5, .any)] [] (lpC (bodyOf Tryz.f85) 0) j [.int .i64 x0, .int .i64 x1, .str x2, .int .i64 x3] [] kx kr = publicanref9_number_L0 m j x0 x1 x2 x3 (fun y0 => kx 0 [.int .i64 y0] []) (fun z0 z1 => kr [.int .i64 z0, .bool z1] []) := by
  induction j with
  | zero => intros; rfl
  | succ j ih =>
    intro kx kr x0 x1 x2 x3
    refine Eq.trans ?_ (Eq.trans (Eq.trans (publicanref9_number_S0_eq m (fun vs os => loopP tb (publicanref9_number_G m) 0 Tryz.f85.ntmps [(7, .any), (1, .any), (0, .any), (6, .any)] [(6, .any)] [(4, .any), (5, .any)] [] (lpC (bodyOf Tryz.f85) 0) j vs os kx kr) kx kr x0 x1 x2 x3) (congrArg (fun ρ => publicanref9_number_S0 m ρ (fun y0 => kx 0 [.int .i64 y0] []) (fun z0 z1 => kr [.int .i64 z0, .bool z1] []) x0 x1 x2 x3) (funext fun x0 => funext fun x1 => funext fun x2 => funext fun x3 => ih kx kr x0 x1 x2 x3))) ?_) <;> kernel_rfl
noncomputable def publicanref9_number_X0 (m : Nat) : LoopH R := ⟨[(7, .any), (1, .any), (0, .any), (6, .any)], [(6, .any)], [(4, .any), (5, .any)], fun vs os kx kr => match vs, os with | [v0_, v1_, v2_, v3_], [] => ((rdInt .i64 v0_).bind fun x0 => (rdInt .i64 v1_).bind fun x1 => (rdStr v2_).bind fun x2 => (rdInt .i64 v3_).bind fun x3 => publicanref9_number_L0 m m x0 x1 x2 x3 (fun y0 => kx 0 [.int .i64 y0] []) (fun z0 z1 => kr [.int .i64 z0, .bool z1] [])) | _, _ => none⟩
set_option maxHeartbeats 4000000 in
theorem publicanref9_number_X0_ok {m : Nat} (HG : ∀ f, SemOK cxP f (publicanref9_number_G (R := R) m f)) : LoopSem cxP Tryz.f85.ntmps 0 (lpC (bodyOf Tryz.f85) 0) (publicanref9_number_X0 (R := R) m) :=
  loop_of C HG (L := []) (by kernel_rfl) (by rw [show loopsIn (lpC (bodyOf Tryz.f85) 0) = [] from by kernel_rfl]; exact (.nil _)) m fun vs os kx kr r h => by
    try dsimp only at h
    split at h; rotate_left; cases h
    rename_i v0_ v1_ v2_ v3_
    replace h := Option.bind_eq_some_iff.1 h; obtain ⟨x0, hh, h⟩ := h; obtain rfl := rdInt_eq hh; clear hh
    replace h := Option.bind_eq_some_iff.1 h; obtain ⟨x1, hh, h⟩ := h; obtain rfl := rdInt_eq hh; clear hh
    replace h := Option.bind_eq_some_iff.1 h; obtain ⟨x2, hh, h⟩ := h; obtain rfl := rdStr_eq hh; clear hh
    replace h := Option.bind_eq_some_iff.1 h; obtain ⟨x3, hh, h⟩ := h; obtain rfl := rdInt_eq hh; clear hh
    exact (publicanref9_number_L0_eq m m kx kr x0 x1 x2 x3).trans h
noncomputable def publicanref9_number_w (F : List UInt8 → Int → (Int → Bool → Option R) → Option R) : PSem R := fun vs os κ => match vs, os with | [v0_, v1_], [] => ((rdStr v0_).bind fun a0 => (rdInt .i64 v1_).bind fun a1 => F a0 a1 (fun r_0 r_1 => κ (.tup [.int .i64 r_0, .bool r_1]) [])) | _, _ => none
def publicanref9_number_ac : List (Option (Bool × Nat)) := [none, none]
set_option maxRecDepth 100000 in
theorem publicanref9_number_eq (m : Nat) (a0 : List UInt8) (a1 : Int) (κ : V → List PObj → Option R) : pFun tb (publicanref9_number_G m) 0 [publicanref9_number_X0 m] [none, none] Tryz.f85 [.str a0, .int .i64 a1] [] κ = publicanref9_number m a0 a1 (fun r_0 r_1 => κ (.tup [.int .i64 r_0, .bool r_1]) []) := by
  delta publicanref9_number_G publicanref9_number publicanref9_number_X0
  generalize publicanref9_number_L0 (R := R) m = c0
  refine id ?_
  kernel_rfl
noncomputable def publicanref9_number_sem (m : Nat) : PSem R := semOf publicanref9_number_ac (publicanref9_number_w (publicanref9_number m))
theorem publicanref9_number_ok (m : Nat) : SemOK cxP 85 (publicanref9_number_sem (R := R) m) :=
  have HG : ∀ f, SemOK cxP f (publicanref9_number_G (R := R) m f) := tabG_ok .nil
  semOf_ok (fun_of C HG (L := [publicanref9_number_X0 m]) (rc := [none, none]) (k := 0) (fn_of Tryz.func85) rfl rfl (by kernel_rfl) (by rw [show loopsIn (bodyOf Tryz.f85) = [(lpC (bodyOf Tryz.f85) 0)] from by kernel_rfl]; exact (.cons (publicanref9_number_X0_ok HG) (.nil _))) fun vs os κ r h => by
    unfold publicanref9_number_w at h
    split at h; rotate_left; cases h
    rename_i v0_ v1_
    replace h := Option.bind_eq_some_iff.1 h; obtain ⟨a0, hh, h⟩ := h; obtain rfl := rdStr_eq hh; clear hh
    replace h := Option.bind_eq_some_iff.1 h; obtain ⟨a1, hh, h⟩ := h; obtain rfl := rdInt_eq hh; clear hh
    exact (publicanref9_number_eq m a0 a1 κ).trans h
)
noncomputable def publicanref9_Kind_G (m : Nat) : FuncId → PSem R := tabG []
set_option maxRecDepth 100000 in
theorem publicanref9_Kind_S0_eq (m : Nat) (ρ : List V → List PObj → Option R) (kx : Nat → List V → List PObj → Option R) (kr : List V → List PObj → Option R) (x0 : Int) (x1 : List UInt8) (x2 : List (List UInt8)) : pCode tb (publicanref9_Kind_G m) 0 Tryz.f86.ntmps (lpC (bodyOf Tryz.f86) 0) [] (fun s => match head 0 [(4, .any), (0, .any), (3, .any)] s with | (vs, os) => ρ vs os) (fun i s => match head 0 [] s with | (vs, os) => kx i vs os) (fun s => match head 0 [(2, .any)] s with | (vs, os) => kr vs os) ⟨mkEnv [(4, .any), (0, .any), (3, .any)] [.int .i64 x0, .str x1, .loc 0], [.arr 2 x2]⟩ = publicanref9_Kind_S0 m (fun x0 x1 x2 => ρ [.int .i64 x0, .str x1, .loc 0] [.arr 2 x2]) (fun (_ : Unit) => kx 0 [] []) (fun z0 => kr [.int .i64 z0] []) x0 x1 x2 := by
  delta publicanref9_Kind_G publicanref9_Kind_S0
  refine id ?_
  kernel_rfl
set_option maxHeartbeats 4000000 in
theorem publicanref9_Kind_L0_eq (m : Nat) (j : Nat) : ∀ (kx : Nat → List V → List PObj → Option R) (kr : List V → List PObj → Option R) (x0 : Int) (x1 : List UInt8) (x2 : List (List UInt8)), loopP tb (publicanref9_Kind_G m) 0 Tryz.f86.ntmps [(4, .any), (0, .any), (3, .any)] [] [(2, .any)] [] (lpC (bodyOf Tryz.f86) 0) j [.int .i64 x0, .str x1, .loc 0] [.arr 2 x2] kx kr = publicanref9_Kind_L0 m j x0 x1 x2 (fun (_ : Unit) => kx 0 [] []) (fun z0 => kr [.int .i64 z0] []) := by
  induction j with
  | zero => intros; rfl
  | succ j ih =>
    intro kx kr x0 x1 x2
    refine Eq.trans ?_ (Eq.trans (Eq.trans (publicanref9_Kind_S0_eq m (fun vs os => loopP tb (publicanref9_Kind_G m) 0 Tryz.f86.ntmps [(4, .any), (0, .any), (3, .any)] [] [(2, .any)] [] (lpC (bodyOf Tryz.f86) 0) j vs os kx kr) kx kr x0 x1 x2) (congrArg (fun ρ => publicanref9_Kind_S0 m ρ (fun (_ : Unit) => kx 0 [] []) (fun z0 => kr [.int .i64 z0] []) x0 x1 x2) (funext fun x0 => funext fun x1 => funext fun x2 => ih kx kr x0 x1 x2))) ?_) <;> kernel_rfl
noncomputable def publicanref9_Kind_X0 (m : Nat) : LoopH R := ⟨[(4, .any), (0, .any), (3, .any)], [], [(2, .any)], fun vs os kx kr => match vs, os with | [v0_, v1_, v2_], [q0_] => ((rdInt .i64 v0_).bind fun x0 => (rdStr v1_).bind fun x1 => (rdLoc 0 v2_).bind fun u0 => (rdArr 2 q0_).bind fun x2 => publicanref9_Kind_L0 m m x0 x1 x2 (fun (_ : Unit) => kx 0 [] []) (fun z0 => kr [.int .i64 z0] [])) | _, _ => none⟩
set_option maxHeartbeats 4000000 in
theorem publicanref9_Kind_X0_ok {m : Nat} (HG : ∀ f, SemOK cxP f (publicanref9_Kind_G (R := R) m f)) : LoopSem cxP Tryz.f86.ntmps 0 (lpC (bodyOf Tryz.f86) 0) (publicanref9_Kind_X0 (R := R) m) :=
  loop_of C HG (L := []) (by kernel_rfl) (by rw [show loopsIn (lpC (bodyOf Tryz.f86) 0) = [] from by kernel_rfl]; exact (.nil _)) m fun vs os kx kr r h => by
    try dsimp only at h
    split at h; rotate_left; cases h
    rename_i v0_ v1_ v2_ q0_
    replace h := Option.bind_eq_some_iff.1 h; obtain ⟨x0, hh, h⟩ := h; obtain rfl := rdInt_eq hh; clear hh
    replace h := Option.bind_eq_some_iff.1 h; obtain ⟨x1, hh, h⟩ := h; obtain rfl := rdStr_eq hh; clear hh
    replace h := Option.bind_eq_some_iff.1 h; obtain ⟨u0, hh, h⟩ := h; obtain rfl := rdLoc_eq hh; clear hh
    replace h := Option.bind_eq_some_iff.1 h; obtain ⟨x2, hh, h⟩ := h; obtain rfl := rdArr_eq hh; clear hh
    exact (publicanref9_Kind_L0_eq m m kx kr x0 x1 x2).trans h
noncomputable def publicanref9_Kind_w (F : List UInt8 → (Int → Option R) → Option R) : PSem R := fun vs os κ => match vs, os with | [v0_], [] => ((rdStr v0_).bind fun a0 => F a0 (fun r => κ (.int .i64 r) [])) | _, _ => none
def publicanref9_Kind_ac : List (Option (Bool × Nat)) := [none]
set_option maxRecDepth 100000 in
theorem publicanref9_Kind_eq (m : Nat) (a0 : List UInt8) (κ : V → List PObj → Option R) : pFun tb (publicanref9_Kind_G m) 0 [publicanref9_Kind_X0 m] [none] Tryz.f86 [.str a0] [] κ = publicanref9_Kind m a0 (fun r => κ (.int .i64 r) []) := by
  delta publicanref9_Kind_G publicanref9_Kind publicanref9_Kind_X0
  generalize publicanref9_Kind_L0 (R := R) m = c0
  refine id ?_
  kernel_rfl
noncomputable def publicanref9_Kind_sem (m : Nat) : PSem R := semOf publicanref9_Kind_ac (publicanref9_Kind_w (publicanref9_Kind m))
theorem publicanref9_Kind_ok (m : Nat) : SemOK cxP 86 (publicanref9_Kind_sem (R := R) m) :=
  have HG : ∀ f, SemOK cxP f (publicanref9_Kind_G (R := R) m f) := tabG_ok .nil
  semOf_ok (fun_of C HG (L := [publicanref9_Kind_X0 m]) (rc := [none]) (k := 0) (fn_of Tryz.func86) rfl rfl (by kernel_rfl) (by rw [show loopsIn (bodyOf Tryz.f86) = [(lpC (bodyOf Tryz.f86) 0)] from by kernel_rfl]; exact (.cons (publicanref9_Kind_X0_ok HG) (.nil _))) fun vs os κ r h => by
    unfold publicanref9_Kind_w at h
    split at h; rotate_left; cases h
    rename_i v0_
    replace h := Option.bind_eq_some_iff.1 h; obtain ⟨a0, hh, h⟩ := h; obtain rfl := rdStr_eq hh; clear hh
    exact (publicanref9_Kind_eq m a0 κ).trans h
)
noncomputable def publicanref9_parser_out_G (m : Nat) : FuncId → PSem R := tabG []
noncomputable def publicanref9_parser_out_w (F : T_publicanref9_parser → (T_publicanref9_parser → Option R) → Option R) : PSem R := fun vs os κ => match vs, os with | [v0_], [q0_] => ((rdPtr 0 0 v0_).bind fun u0 => (rdCells q0_).bind fun l1 => match l1 with | [c2_0, c2_1, c2_2, c2_3, c2_4] => ((rdSl 5 c2_0).bind fun p0_0 => (rdInt .i64 c2_1).bind fun p0_1 => (rdInt .i64 c2_2).bind fun p0_2 => (rdBool c2_3).bind fun p0_3 => (rdInt .i64 c2_4).bind fun p0_4 => F (T_publicanref9_parser.mk p0_0 p0_1 p0_2 p0_3 p0_4) (fun w0 => κ (.tup []) [.cells [.sl 5 w0.f_l, .int .i64 w0.f_k, .int .i64 w0.f_bad, .bool w0.f_deep, .int .i64 w0.f_d]])) | _ => none) | _, _ => none
def publicanref9_parser_out_ac : List (Option (Bool × Nat)) := [none]
set_option maxRecDepth 100000 in
theorem publicanref9_parser_out_eq (m : Nat) (o0 : T_publicanref9_parser) (κ : V → List PObj → Option R) : pFun tb (publicanref9_parser_out_G m) 1 [] [] Tryz.f89 [.ptr 0 0] [.cells [.sl 5 o0.f_l, .int .i64 o0.f_k, .int .i64 o0.f_bad, .bool o0.f_deep, .int .i64 o0.f_d]] κ = publicanref9_parser_out m o0 (fun w0 => κ (.tup []) [.cells [.sl 5 w0.f_l, .int .i64 w0.f_k, .int .i64 w0.f_bad, .bool w0.f_deep, .int .i64 w0.f_d]]) := by
  delta publicanref9_parser_out_G publicanref9_parser_out
  refine id ?_
  kernel_rfl
noncomputable def publicanref9_parser_out_sem (m : Nat) : PSem R := semOf publicanref9_parser_out_ac (publicanref9_parser_out_w (publicanref9_parser_out m))
theorem publicanref9_parser_out_ok (m : Nat) : SemOK cxP 89 (publicanref9_parser_out_sem (R := R) m) :=
  have HG : ∀ f, SemOK cxP f (publicanref9_parser_out_G (R := R) m f) := tabG_ok .nil
  semOf_ok (fun_of C HG (L := []) (rc := []) (k := 1) (fn_of Tryz.func89) rfl rfl (by kernel_rfl) (by rw [show loopsIn (bodyOf Tryz.f89) = [] from by kernel_rfl]; exact (.nil _)) fun vs os κ r h => by
    unfold publicanref9_parser_out_w at h
    split at h; rotate_left; cases h
    rename_i v0_ q0_
    replace h := Option.bind_eq_some_iff.1 h; obtain ⟨u0, hh, h⟩ := h; obtain rfl := rdPtr_eq hh; clear hh
    replace h := Option.bind_eq_some_iff.1 h; obtain ⟨l1, hh, h⟩ := h; obtain rfl := rdCells_eq hh; clear hh
    split at h; rotate_left; cases h
    rename_i c2_0 c2_1 c2_2 c2_3 c2_4
    replace h := Option.bind_eq_some_iff.1 h; obtain ⟨p0_0, hh, h⟩ := h; obtain rfl := rdSl_eq hh; clear hh
    replace h := Option.bind_eq_some_iff.1 h; obtain ⟨p0_1, hh, h⟩ := h; obtain rfl := rdInt_eq hh; clear hh
    replace h := Option.bind_eq_some_iff.1 h; obtain ⟨p0_2, hh, h⟩ := h; obtain rfl := rdInt_eq hh; clear hh
    replace h := Option.bind_eq_some_iff.1 h; obtain ⟨p0_3, hh, h⟩ := h; obtain rfl := rdBool_eq hh; clear hh
    replace h := Option.bind_eq_some_iff.1 h; obtain ⟨p0_4, hh, h⟩ := h; obtain rfl := rdInt_eq hh; clear hh
    exact (publicanref9_parser_out_eq m (T_publicanref9_parser.mk p0_0 p0_1 p0_2 p0_3 p0_4) κ).trans h
)
noncomputable def publicanref1_Leap_G (m : Nat) : FuncId → PSem R := tabG []
noncomputable def publicanref1_Leap_w (F : Int → (Bool → Option R) → Option R) : PSem R := fun vs os κ => match vs, os with | [v0_], [] => ((rdInt .i64 v0_).bind fun a0 => F a0 (fun r => κ (.bool r) [])) | _, _ => none
def publicanref1_Leap_ac : List (Option (Bool × Nat)) := [none]
set_option maxRecDepth 100000 in
theorem publicanref1_Leap_eq (m : Nat) (a0 : Int) (κ : V → List PObj → Option R) : pFun tb (publicanref1_Leap_G m) 0 [] [none] Tryz.f132 [.int .i64 a0] [] κ = publicanref1_Leap m a0 (fun r => κ (.bool r) []) := by
  delta publicanref1_Leap_G publicanref1_Leap
  refine id ?_
  kernel_rfl
noncomputable def publicanref1_Leap_sem (m : Nat) : PSem R := semOf publicanref1_Leap_ac (publicanref1_Leap_w (publicanref1_Leap m))
theorem publicanref1_Leap_ok (m : Nat) : SemOK cxP 132 (publicanref1_Leap_sem (R := R) m) :=
  have HG : ∀ f, SemOK cxP f (publicanref1_Leap_G (R := R) m f) := tabG_ok .nil
  semOf_ok (fun_of C HG (L := []) (rc := [none]) (k := 0) (fn_of Tryz.func132) rfl rfl (by kernel_rfl) (by rw [show loopsIn (bodyOf Tryz.f132) = [] from by kernel_rfl]; exact (.nil _)) fun vs os κ r h => by
    unfold publicanref1_Leap_w at h
    split at h; rotate_left; cases h
    rename_i v0_
    replace h := Option.bind_eq_some_iff.1 h; obtain ⟨a0, hh, h⟩ := h; obtain rfl := rdInt_eq hh; clear hh
    exact (publicanref1_Leap_eq m a0 κ).trans h
)
noncomputable def publicanref9_Same_w (F : T_publicanref9_Node → T_publicanref9_Node → (Bool → Option R) → Option R) : PSem R := fun vs os κ => match vs, os with | [v0_, v1_], [] => ((rdSt 6 v0_).bind fun a0 => (rdSt 6 v1_).bind fun a1 => F a0 a1 (fun r => κ (.bool r) [])) | _, _ => none
def publicanref9_Same_ac : List (Option (Bool × Nat)) := [some (false, 6), some (false, 6)]
structure G_publicanref9_SameOK (g : G_publicanref9_Same R) : Prop where
  publicanref9_Same : SemOK cxP 16 (semOf publicanref9_Same_ac (publicanref9_Same_w g.publicanref9_Same))
noncomputable def publicanref9_Same_G (m : Nat) (g : G_publicanref9_Same R) : FuncId → PSem R := tabG [(16, semOf publicanref9_Same_ac (publicanref9_Same_w g.publicanref9_Same))]
set_option maxRecDepth 100000 in
theorem publicanref9_Same_S0_eq (m : Nat) (g : G_publicanref9_Same R) (ρ : List V → List PObj → Option R) (kx : Nat → List V → List PObj → Option R) (kr : List V → List PObj → Option R) (x0 : Int) (x1 : List UInt8) (x2 : List UInt8) (x3 : Int) (x4 : Int) (x5 : Int) (x6 : List T_publicanref9_Node) (x7 : List UInt8) (x8 : List UInt8) (x9 : Int) (x10 : Int) (x11 : Int) (x12 : List T_publicanref9_Node) : pCode tb (publicanref9_Same_G m g) 0 Tryz.f16.ntmps (lpC (bodyOf Tryz.f16) 0) [] (fun s => match head 0 [(5, .any), (3, .fcells [(5, 6)]), (2, .fcells [(5, 6)])] s with | (vs, os) => ρ vs os) (fun i s => match head 0 [] s with | (vs, os) => kx i vs os) (fun s => match head 0 [(4, .any)] s with | (vs, os) => kr vs os) ⟨mkEnv [(5, .any), (3, .fcells [(5, 6)]), (2, .fcells [(5, 6)])] [.int .i64 x0, .ptr 0 0, .ptr 1 0], [.cells [.str x1, .str x2, .int .i64 x3, .int .i64 x4, .int .i64 x5, .sl 6 x6], .cells [.str x7, .str x8, .int .i64 x9, .int .i64 x10, .int .i64 x11, .sl 6 x12]]⟩ = publicanref9_Same_S0 m g (fun x0 x1 x2 x3 x4 x5 x6 x7 x8 x9 x10 x11 x12 => ρ [.int .i64 x0, .ptr 0 0, .ptr 1 0] [.cells [.str x1, .str x2, .int .i64 x3, .int .i64 x4, .int .i64 x5, .sl 6 x6], .cells [.str x7, .str x8, .int .i64 x9, .int .i64 x10, .int .i64 x11, .sl 6 x12]]) (fun (_ : Unit) => kx 0 [] []) (fun z0 => kr [.bool z0] []) x0 x1 x2 x3 x4 x5 x6 x7 x8 x9 x10 x11 x12 := by
  delta publicanref9_Same_G publicanref9_Same_S0
  refine id ?_
  kernel_rfl
set_option maxHeartbeats 4000000 in
theorem publicanref9_Same_L0_eq (m : Nat) (g : G_publicanref9_Same R) (j : Nat) : ∀ (kx : Nat → List V → List PObj → Option R) (kr : List V → List PObj → Option R) (x0 : Int) (x1 : List UInt8) (x2 : List UInt8) (x3 : Int) (x4 : Int) (x5 : Int) (x6 : List T_publicanref9_Node) (x7 : List UInt8) (x8 : List UInt8) (x9 : Int) (x10 : Int) (x11 : Int) (x12 : List T_publicanref9_Node), loopP tb (publicanref9_Same_G m g) 0 Tryz.f16.ntmps [(5, .any), (3, .fcells [(5, 6)]), (2, .fcells [(5, 6)])] [] [(4, .any)] [] (lpC (bodyOf Tryz.f16) 0) j [.int .i64 x0, .ptr 0 0, .ptr 1 0] [.cells [.str x1, .str x2, .int .i64 x3, .int .i64 x4, .int .i64 x5, .sl 6 x6], .cells [.str x7, .str x8, .int .i64 x9, .int .i64 x10, .int .i64 x11, .sl 6 x12]] kx kr = publicanref9_Same_L0 m g j x0 x1 x2 x3 x4 x5 x6 x7 x8 x9 x10 x11 x12 (fun (_ : Unit) => kx 0 [] []) (fun z0 => kr [.bool z0] []) := by
  induction j with
  | zero => intros; rfl
  | succ j ih =>
    intro kx kr x0 x1 x2 x3 x4 x5 x6 x7 x8 x9 x10 x11 x12
    refine Eq.trans ?_ (Eq.trans (Eq.trans (publicanref9_Same_S0_eq m g (fun vs os => loopP tb (publicanref9_Same_G m g) 0 Tryz.f16.ntmps [(5, .any), (3, .fcells [(5, 6)]), (2, .fcells [(5, 6)])] [] [(4, .any)] [] (lpC (bodyOf Tryz.f16) 0) j vs os kx kr) kx kr x0 x1 x2 x3 x4 x5 x6 x7 x8 x9 x10 x11 x12) (congrArg (fun ρ => publicanref9_Same_S0 m g ρ (fun (_ : Unit) => kx 0 [] []) (fun z0 => kr [.bool z0] []) x0 x1 x2 x3 x4 x5 x6 x7 x8 x9 x10 x11 x12) (funext fun x0 => funext fun x1 => funext fun x2 => funext fun x3 => funext fun x4 => funext fun x5 => funext fun x6 => funext fun x7 => funext fun x8 => funext fun x9 => funext fun x10 => funext fun x11 => funext fun x12 => ih kx kr x0 x1 x2 x3 x4 x5 x6 x7 x8 x9 x10 x11 x12))) ?_) <;> kernel_rfl
noncomputable def publicanref9_Same_X0 (m : Nat) (g : G_publicanref9_Same R) : LoopH R := ⟨[(5, .any), (3, .fcells [(5, 6)]), (2, .fcells [(5, 6)])], [], [(4, .any)], fun vs os kx kr => match vs, os with | [v0_, v1_, v2_], [q0_, q1_] => ((rdInt .i64 v0_).bind fun x0 => (rdPtr 0 0 v1_).bind fun u0 => (rdPtr 1 0 v2_).bind fun u1 => (rdCells q0_).bind fun l2 => match l2 with | [c3_0, c3_1, c3_2, c3_3, c3_4, c3_5] => ((rdStr c3_0).bind fun x1 => (rdStr c3_1).bind fun x2 => (rdInt .i64 c3_2).bind fun x3 => (rdInt .i64 c3_3).bind fun x4 => (rdInt .i64 c3_4).bind fun x5 => (rdSl 6 c3_5).bind fun x6 => (rdCells q1_).bind fun l4 => match l4 with | [c5_0, c5_1, c5_2, c5_3, c5_4, c5_5] => ((rdStr c5_0).bind fun x7 => (rdStr c5_1).bind fun x8 => (rdInt .i64 c5_2).bind fun x9 => (rdInt .i64 c5_3).bind fun x10 => (rdInt .i64 c5_4).bind fun x11 => (rdSl 6 c5_5).bind fun x12 => publicanref9_Same_L0 m g m x0 x1 x2 x3 x4 x5 x6 x7 x8 x9 x10 x11 x12 (fun (_ : Unit) => kx 0 [] []) (fun z0 => kr [.bool z0] [])) | _ => none) | _ => none) | _, _ => none⟩
set_option maxHeartbeats 4000000 in
theorem publicanref9_Same_X0_ok {m : Nat} {g : G_publicanref9_Same R} (HG : ∀ f, SemOK cxP f (publicanref9_Same_G (R := R) m g f)) : LoopSem cxP Tryz.f16.ntmps 0 (lpC (bodyOf Tryz.f16) 0) (publicanref9_Same_X0 (R := R) m g) :=
  loop_of C HG (L := []) (by kernel_rfl) (by rw [show loopsIn (lpC (bodyOf Tryz.f16) 0) = [] from by kernel_rfl]; exact (.nil _)) m fun vs os kx kr r h => by
    try dsimp only at h
    split at h; rotate_left; cases h
    rename_i v0_ v1_ v2_ q0_ q1_
    replace h := Option.bind_eq_some_iff.1 h; obtain ⟨x0, hh, h⟩ := h; obtain rfl := rdInt_eq hh; clear hh
    replace h := Option.bind_eq_some_iff.1 h; obtain ⟨u0, hh, h⟩ := h; obtain rfl := rdPtr_eq hh; clear hh
    replace h := Option.bind_eq_some_iff.1 h; obtain ⟨u1, hh, h⟩ := h; obtain rfl := rdPtr_eq hh; clear hh
    replace h := Option.bind_eq_some_iff.1 h; obtain ⟨l2, hh, h⟩ := h; obtain rfl := rdCells_eq hh; clear hh
    split at h; rotate_left; cases h
    rename_i c3_0 c3_1 c3_2 c3_3 c3_4 c3_5
    replace h := Option.bind_eq_some_iff.1 h; obtain ⟨x1, hh, h⟩ := h; obtain rfl := rdStr_eq hh; clear hh
    replace h := Option.bind_eq_some_iff.1 h; obtain ⟨x2, hh, h⟩ := h; obtain rfl := rdStr_eq hh; clear hh
    replace h := Option.bind_eq_some_iff.1 h; obtain ⟨x3, hh, h⟩ := h; obtain rfl := rdInt_eq hh; clear hh
    replace h := Option.bind_eq_some_iff.1 h; obtain ⟨x4, hh, h⟩ := h; obtain rfl := rdInt_eq hh; clear hh
    replace h := Option.bind_eq_some_iff.1 h; obtain ⟨x5, hh, h⟩ := h; obtain rfl := rdInt_eq hh; clear hh
    replace h := Option.bind_eq_some_iff.1 h; obtain ⟨x6, hh, h⟩ := h; obtain rfl := rdSl_eq hh; clear hh
    replace h := Option.bind_eq_some_iff.1 h; obtain ⟨l4, hh, h⟩ := h; obtain rfl := rdCells_eq hh; clear hh
    split at h; rotate_left; cases h
    rename_i c5_0 c5_1 c5_2 c5_3 c5_4 c5_5
    replace h := Option.bind_eq_some_iff.1 h; obtain ⟨x7, hh, h⟩ := h; obtain rfl := rdStr_eq hh; clear hh
    replace h := Option.bind_eq_some_iff.1 h; obtain ⟨x8, hh, h⟩ := h; obtain rfl := rdStr_eq hh; clear hh
    replace h := Option.bind_eq_some_iff.1 h; obtain ⟨x9, hh, h⟩ := h; obtain rfl := rdInt_eq hh; clear hh
    replace h := Option.bind_eq_some_iff.1 h; obtain ⟨x10, hh, h⟩ := h; obtain rfl := rdInt_eq hh; clear hh
    replace h := Option.bind_eq_some_iff.1 h; obtain ⟨x11, hh, h⟩ := h; obtain rfl := rdInt_eq hh; clear hh
    replace h := Option.bind_eq_some_iff.1 h; obtain ⟨x12, hh, h⟩ := h; obtain rfl := rdSl_eq hh; clear hh
    exact (publicanref9_Same_L0_eq m g m kx kr x0 x1 x2 x3 x4 x5 x6 x7 x8 x9 x10 x11 x12).trans h
set_option maxRecDepth 100000 in
theorem publicanref9_Same_eq (m : Nat) (g : G_publicanref9_Same R) (a0 : T_publicanref9_Node) (a1 : T_publicanref9_Node) (κ : V → List PObj → Option R) : pFun tb (publicanref9_Same_G m g) 0 [publicanref9_Same_X0 m g] [none] Tryz.f16 [.st 6 a0, .st 6 a1] [] κ = publicanref9_Same_B m g a0 a1 (fun r => κ (.bool r) []) := by
  delta publicanref9_Same_G publicanref9_Same_B publicanref9_Same_X0
  generalize publicanref9_Same_L0 (R := R) m g = c0
  refine id ?_
  kernel_rfl
theorem publicanref9_Same_st (m : Nat) (g : G_publicanref9_Same R) (hg : G_publicanref9_SameOK g) : SemC cxP 16 (publicanref9_Same_w (publicanref9_Same_B m g)) :=
  have HG : ∀ f, SemOK cxP f (publicanref9_Same_G (R := R) m g f) := tabG_ok (.cons (hg.publicanref9_Same) .nil)
  fun_of C HG (L := [publicanref9_Same_X0 m g]) (rc := [none]) (k := 0) (fn_of Tryz.func16) rfl rfl (by kernel_rfl) (by rw [show loopsIn (bodyOf Tryz.f16) = [(lpC (bodyOf Tryz.f16) 0)] from by kernel_rfl]; exact (.cons (publicanref9_Same_X0_ok HG) (.nil _))) fun vs os κ r h => by
    unfold publicanref9_Same_w at h
    split at h; rotate_left; cases h
    rename_i v0_ v1_
    replace h := Option.bind_eq_some_iff.1 h; obtain ⟨a0, hh, h⟩ := h; obtain rfl := rdSt_eq hh; clear hh
    replace h := Option.bind_eq_some_iff.1 h; obtain ⟨a1, hh, h⟩ := h; obtain rfl := rdSt_eq hh; clear hh
    exact (publicanref9_Same_eq m g a0 a1 κ).trans h
theorem publicanref9_Same_z : SemC cxP 16 (publicanref9_Same_w (R := R) fun _ _ _ => none) := fun vs os κ r h => by
    unfold publicanref9_Same_w at h
    split at h; rotate_left; cases h
    rename_i v0_ v1_
    replace h := Option.bind_eq_some_iff.1 h; obtain ⟨a0, hh, h⟩ := h; obtain rfl := rdSt_eq hh; clear hh
    replace h := Option.bind_eq_some_iff.1 h; obtain ⟨a1, hh, h⟩ := h; obtain rfl := rdSt_eq hh; clear hh
    cases h
theorem G_publicanref9_Same_ok : ∀ m, G_publicanref9_SameOK (G_publicanref9_Same_r (R := R) m)
  | 0 => ⟨semOf_ok publicanref9_Same_z⟩
  | j + 1 => ⟨semOf_ok (publicanref9_Same_st j _ (G_publicanref9_Same_ok j))⟩
noncomputable def publicanref9_Same_sem (m : Nat) : PSem R := semOf publicanref9_Same_ac (publicanref9_Same_w (publicanref9_Same m))
theorem publicanref9_Same_ok (m : Nat) : SemOK cxP 16 (publicanref9_Same_sem (R := R) m) := (G_publicanref9_Same_ok m).publicanref9_Same
noncomputable def publicanref17_Back_w (F : T_publicanref9_Node → (T_syn_Node → Option R) → Option R) : PSem R := fun vs os κ => match vs, os with | [v0_], [] => ((rdSt 6 v0_).bind fun a0 => F a0 (fun r => κ (.st 7 r) [])) | _, _ => none
def publicanref17_Back_ac : List (Option (Bool × Nat)) := [some (false, 6)]
structure G_publicanref17_BackOK (g : G_publicanref17_Back R) : Prop where
  publicanref17_Back : SemOK cxP 21 (semOf publicanref17_Back_ac (publicanref17_Back_w g.publicanref17_Back))
end Go.Pm
namespace Go.Pm
open Go Go.EvM Go.Pv Go.Proofs
set_option linter.unusedVariables false
set_option linter.unusedSectionVars false
variable {R : Type}
noncomputable def publicanref17_Back_G (m : Nat) (g : G_publicanref17_Back R) : FuncId → PSem R := tabG [(21, semOf publicanref17_Back_ac (publicanref17_Back_w g.publicanref17_Back))]
set_option maxRecDepth 100000 in
theorem publicanref17_Back_S0_eq (m : Nat) (g : G_publicanref17_Back R) (ρ : List V → List PObj → Option R) (kx : Nat → List V → List PObj → Option R) (kr : List V → List PObj → Option R) (x0 : Int) (x1 : List UInt8) (x2 : List UInt8) (x3 : Int) (x4 : Int) (x5 : Int) (x6 : List UInt8) (x7 : List UInt8) (x8 : Int) (x9 : Int) (x10 : Int) (x11 : List T_publicanref9_Node) (x12 : List UInt8) (x13 : List UInt8) (x14 : Int) (x15 : Int) (x16 : Int) (x17 : List T_syn_Node) (x18 : List T_syn_Node) : pCode tb (publicanref17_Back_G m g) 0 Tryz.f21.ntmps (lpC (bodyOf Tryz.f21) 0) [] (fun s => match head 0 [(4, .any), (3, .cells [(5, 7)]), (1, .fcells [(5, 6)]), (2, .fcells [(5, 7)])] s with | (vs, os) => ρ vs os) (fun i s => match head 0 [(2, .any), (3, .any)] s with | (vs, os) => kx i vs os) (fun s => match head 0 [] s with | (vs, os) => kr vs os) ⟨mkEnv [(4, .any), (3, .cells [(5, 7)]), (1, .fcells [(5, 6)]), (2, .fcells [(5, 7)])] [.int .i64 x0, .ptr 0 0, .ptr 1 0, .ptr 2 0], [.cells [.str x1, .str x2, .int .i64 x3, .int .i64 x4, .int .i64 x5, .loc 3], .cells [.str x6, .str x7, .int .i64 x8, .int .i64 x9, .int .i64 x10, .sl 6 x11], .cells [.str x12, .str x13, .int .i64 x14, .int .i64 x15, .int .i64 x16, .sl 7 x17], .arr 7 x18]⟩ = publicanref17_Back_S0 m g (fun x0 x1 x2 x3 x4 x5 x6 x7 x8 x9 x10 x11 x12 x13 x14 x15 x16 x17 x18 => ρ [.int .i64 x0, .ptr 0 0, .ptr 1 0, .ptr 2 0] [.cells [.str x1, .str x2, .int .i64 x3, .int .i64 x4, .int .i64 x5, .loc 3], .cells [.str x6, .str x7, .int .i64 x8, .int .i64 x9, .int .i64 x10, .sl 6 x11], .cells [.str x12, .str x13, .int .i64 x14, .int .i64 x15, .int .i64 x16, .sl 7 x17], .arr 7 x18]) (fun y0 y1 y2 y3 y4 y5 y6 y7 y8 y9 y10 y11 => kx 0 [.ptr 0 0, .ptr 1 0] [.cells [.str y0, .str y1, .int .i64 y2, .int .i64 y3, .int .i64 y4, .sl 7 y5], .cells [.str y6, .str y7, .int .i64 y8, .int .i64 y9, .int .i64 y10, .loc 2], .arr 7 y11]) x0 x1 x2 x3 x4 x5 x6 x7 x8 x9 x10 x11 x12 x13 x14 x15 x16 x17 x18 := by
  delta publicanref17_Back_G publicanref17_Back_S0
  refine id ?_
  kernel_rfl
set_option maxHeartbeats 4000000 in
theorem publicanref17_Back_L0_eq (m : Nat) (g : G_publicanref17_Back R) (j : Nat) : ∀ (kx : Nat → List V → List PObj → Option R) (kr : List V → List PObj → Option R) (x0 : Int) (x1 : List UInt8) (x2 : List UInt8) (x3 : Int) (x4 : Int) (x5 : Int) (x6 : List UInt8) (x7 : List UInt8) (x8 : Int) (x9 : Int) (x10 : Int) (x11 : List T_publicanref9_Node) (x12 : List UInt8) (x13 : List UInt8) (x14 : Int) (x15 : Int) (x16 : Int) (x17 : List T_syn_Node) (x18 : List T_syn_Node), loopP tb (publicanref17_Back_G m g) 0 Tryz.f21.ntmps [(4, .any), (3, .cells [(5, 7)]), (1, .fcells [(5, 6)]), (2, .fcells [(5, 7)])] [(2, .any), (3, .any)] [] [] (lpC (bodyOf Tryz.f21) 0) j [.int .i64 x0, .ptr 0 0, .ptr 1 0, .ptr 2 0] [.cells [.str x1, .str x2, .int .i64 x3, .int .i64 x4, .int .i64 x5, .loc 3], .cells [.str x6, .str x7, .int .i64 x8, .int .i64 x9, .int .i64 x10, .sl 6 x11], .cells [.str x12, .str x13, .int .i64 x14, .int .i64 x15, .int .i64 x16, .sl 7 x17], .arr 7 x18] kx kr = publicanref17_Back_L0 m g j x0 x1 x2 x3 x4 x5 x6 x7 x8 x9 x10 x11 x12 x13 x14 x15 x16 x17 x18 (fun y0 y1 y2 y3 y4 y5 y6 y7 y8 y9 y10 y11 => kx 0 [.ptr 0 0, .ptr 1 0] [.cells [.str y0, .str y1, .int .i64 y2, .int .i64 y3, .int .i64 y4, .sl 7 y5], .cells [.str y6, .str y7, .int .i64 y8, .int .i64 y9, .int .i64 y10, .loc 2], .arr 7 y11]) := by
  induction j with
  | zero => intros; rfl
  | succ j ih =>
    intro kx kr x0 x1 x2 x3 x4 x5 x6 x7 x8 x9 x10 x11 x12 x13 x14 x15 x16 x17 x18
    refine Eq.trans ?_ (Eq.trans (Eq.trans (publicanref17_Back_S0_eq m g (fun vs os => loopP tb (publicanref17_Back_G m g) 0 Tryz.f21.ntmps [(4, .any), (3, .cells [(5, 7)]), (1, .fcells [(5, 6)]), (2, .fcells [(5, 7)])] [(2, .any), (3, .any)] [] [] (lpC (bodyOf Tryz.f21) 0) j vs os kx kr) kx kr x0 x1 x2 x3 x4 x5 x6 x7 x8 x9 x10 x11 x12 x13 x14 x15 x16 x17 x18) (congrArg (fun ρ => publicanref17_Back_S0 m g ρ (fun y0 y1 y2 y3 y4 y5 y6 y7 y8 y9 y10 y11 => kx 0 [.ptr 0 0, .ptr 1 0] [.cells [.str y0, .str y1, .int .i64 y2, .int .i64 y3, .int .i64 y4, .sl 7 y5], .cells [.str y6, .str y7, .int .i64 y8, .int .i64 y9, .int .i64 y10, .loc 2], .arr 7 y11]) x0 x1 x2 x3 x4 x5 x6 x7 x8 x9 x10 x11 x12 x13 x14 x15 x16 x17 x18) (funext fun x0 => funext fun x1 => funext fun x2 => funext fun x3 => funext fun x4 => funext fun x5 => funext fun x6 => funext fun x7 => funext fun x8 => funext fun x9 => funext fun x10 => funext fun x11 => funext fun x12 => funext fun x13 => funext fun x14 => funext fun x15 => funext fun x16 => funext fun x17 => funext fun x18 => ih kx kr x0 x1 x2 x3 x4 x5 x6 x7 x8 x9 x10 x11 x12 x13 x14 x15 x16 x17 x18))) ?_) <;> kernel_rfl
noncomputable def publicanref17_Back_X0 (m : Nat) (g : G_publicanref17_Back R) : LoopH R := ⟨[(4, .any), (3, .cells [(5, 7)]), (1, .fcells [(5, 6)]), (2, .fcells [(5, 7)])], [(2, .any), (3, .any)], [], fun vs os kx kr => match vs, os with | [v0_, v1_, v2_, v3_], [q0_, q1_, q2_, q3_] => ((rdInt .i64 v0_).bind fun x0 => (rdPtr 0 0 v1_).bind fun u0 => (rdPtr 1 0 v2_).bind fun u1 => (rdPtr 2 0 v3_).bind fun u2 => (rdCells q0_).bind fun l3 => match l3 with | [c4_0, c4_1, c4_2, c4_3, c4_4, c4_5] => ((rdStr c4_0).bind fun x1 => (rdStr c4_1).bind fun x2 => (rdInt .i64 c4_2).bind fun x3 => (rdInt .i64 c4_3).bind fun x4 => (rdInt .i64 c4_4).bind fun x5 => (rdLoc 3 c4_5).bind fun u5 => (rdCells q1_).bind fun l6 => match l6 with | [c7_0, c7_1, c7_2, c7_3, c7_4, c7_5] => ((rdStr c7_0).bind fun x6 => (rdStr c7_1).bind fun x7 => (rdInt .i64 c7_2).bind fun x8 => (rdInt .i64 c7_3).bind fun x9 => (rdInt .i64 c7_4).bind fun x10 => (rdSl 6 c7_5).bind fun x11 => (rdCells q2_).bind fun l8 => match l8 with | [c9_0, c9_1, c9_2, c9_3, c9_4, c9_5] => ((rdStr c9_0).bind fun x12 => (rdStr c9_1).bind fun x13 => (rdInt .i64 c9_2).bind fun x14 => (rdInt .i64 c9_3).bind fun x15 => (rdInt .i64 c9_4).bind fun x16 => (rdSl 7 c9_5).bind fun x17 => (rdArr 7 q3_).bind fun x18 => publicanref17_Back_L0 m g m x0 x1 x2 x3 x4 x5 x6 x7 x8 x9 x10 x11 x12 x13 x14 x15 x16 x17 x18 (fun y0 y1 y2 y3 y4 y5 y6 y7 y8 y9 y10 y11 => kx 0 [.ptr 0 0, .ptr 1 0] [.cells [.str y0, .str y1, .int .i64 y2, .int .i64 y3, .int .i64 y4, .sl 7 y5], .cells [.str y6, .str y7, .int .i64 y8, .int .i64 y9, .int .i64 y10, .loc 2], .arr 7 y11])) | _ => none) | _ => none) | _ => none) | _, _ => none⟩
set_option maxHeartbeats 4000000 in
theorem publicanref17_Back_X0_ok {m : Nat} {g : G_publicanref17_Back R} (HG : ∀ f, SemOK cxP f (publicanref17_Back_G (R := R) m g f)) : LoopSem cxP Tryz.f21.ntmps 0 (lpC (bodyOf Tryz.f21) 0) (publicanref17_Back_X0 (R := R) m g) :=
  loop_of C HG (L := []) (by kernel_rfl) (by rw [show loopsIn (lpC (bodyOf Tryz.f21) 0) = [] from by kernel_rfl]; exact (.nil _)) m fun vs os kx kr r h => by
    try dsimp only at h
    split at h; rotate_left; cases h
    rename_i v0_ v1_ v2_ v3_ q0_ q1_ q2_ q3_
    replace h := Option.bind_eq_some_iff.1 h; obtain ⟨x0, hh, h⟩ := h; obtain rfl := rdInt_eq hh; clear hh
    replace h := Option.bind_eq_some_iff.1 h; obtain ⟨u0, hh, h⟩ := h; obtain rfl := rdPtr_eq hh; clear hh
    replace h := Option.bind_eq_some_iff.1 h; obtain ⟨u1, hh, h⟩ := h; obtain rfl := rdPtr_eq hh; clear hh
    replace h := Option.bind_eq_some_iff.1 h; obtain ⟨u2, hh, h⟩ := h; obtain rfl := rdPtr_eq hh; clear hh
    replace h := Option.bind_eq_some_iff.1 h; obtain ⟨l3, hh, h⟩ := h; obtain rfl := rdCells_eq hh; clear hh
    split at h; rotate_left; cases h
    rename_i c4_0 c4_1 c4_2 c4_3 c4_4 c4_5
    replace h := Option.bind_eq_some_iff.1 h; obtain ⟨x1, hh, h⟩ := h; obtain rfl := rdStr_eq hh; clear hh
    replace h := Option.bind_eq_some_iff.1 h; obtain ⟨x2, hh, h⟩ := h; obtain rfl := rdStr_eq hh; clear hh
    replace h := Option.bind_eq_some_iff.1 h; obtain ⟨x3, hh, h⟩ := h; obtain rfl := rdInt_eq hh; clear hh
    replace h := Option.bind_eq_some_iff.1 h; obtain ⟨x4, hh, h⟩ := h; obtain rfl := rdInt_eq hh; clear hh
    replace h := Option.bind_eq_some_iff.1 h; obtain ⟨x5, hh, h⟩ := h; obtain rfl := rdInt_eq hh; clear hh
    replace h := Option.bind_eq_some_iff.1 h; obtain ⟨u5, hh, h⟩ := h; obtain rfl := rdLoc_eq hh; clear hh
    replace h := Option.bind_eq_some_iff.1 h; obtain ⟨l6, hh, h⟩ := h; obtain rfl := rdCells_eq hh; clear hh
    split at h; rotate_left; cases h
    rename_i c7_0 c7_1 c7_2 c7_3 c7_4 c7_5
    replace h := Option.bind_eq_some_iff.1 h; obtain ⟨x6, hh, h⟩ := h; obtain rfl := rdStr_eq hh; clear hh
    replace h := Option.bind_eq_some_iff.1 h; obtain ⟨x7, hh, h⟩ := h; obtain rfl := rdStr_eq hh; clear hh
    replace h := Option.bind_eq_some_iff.1 h; obtain ⟨x8, hh, h⟩ := h; obtain rfl := rdInt_eq hh; clear hh
    replace h := Option.bind_eq_some_iff.1 h; obtain ⟨x9, hh, h⟩ := h; obtain rfl := rdInt_eq hh; clear hh
    replace h := Option.bind_eq_some_iff.1 h; obtain ⟨x10, hh, h⟩ := h; obtain rfl := rdInt_eq hh; clear hh
    replace h := Option.bind_eq_some_iff.1 h; obtain ⟨x11, hh, h⟩ := h; obtain rfl := rdSl_eq hh; clear hh
    replace h := Option.bind_eq_some_iff.1 h; obtain ⟨l8, hh, h⟩ := h; obtain rfl := rdCells_eq hh; clear hh
    split at h; rotate_left; cases h
    rename_i c9_0 c9_1 c9_2 c9_3 c9_4 c9_5
    replace h := Option.bind_eq_some_iff.1 h; obtain ⟨x12, hh, h⟩ := h; obtain rfl := rdStr_eq hh; clear hh
    replace h := Option.bind_eq_some_iff.1 h; obtain ⟨x13, hh, h⟩ := h; obtain rfl := rdStr_eq hh; clear hh
    replace h := Option.bind_eq_some_iff.1 h; obtain ⟨x14, hh, h⟩ := h; obtain rfl := rdInt_eq hh; clear hh
    replace h := Option.bind_eq_some_iff.1 h; obtain ⟨x15, hh, h⟩ := h; obtain rfl := rdInt_eq hh; clear hh
    replace h := Option.bind_eq_some_iff.1 h; obtain ⟨x16, hh, h⟩ := h; obtain rfl := rdInt_eq hh; clear hh
    replace h := Option.bind_eq_some_iff.1 h; obtain ⟨x17, hh, h⟩ := h; obtain rfl := rdSl_eq hh; clear hh
    replace h := Option.bind_eq_some_iff.1 h; obtain ⟨x18, hh, h⟩ := h; obtain rfl := rdArr_eq hh; clear hh
    exact (publicanref17_Back_L0_eq m g m kx kr x0 x1 x2 x3 x4 x5 x6 x7 x8 x9 x10 x11 x12 x13 x14 x15 x16 x17 x18).trans h
set_option maxRecDepth 100000 in
theorem publicanref17_Back_eq (m : Nat) (g : G_publicanref17_Back R) (a0 : T_publicanref9_Node) (κ : V → List PObj → Option R) : pFun tb (publicanref17_Back_G m g) 0 [publicanref17_Back_X0 m g] [some (false, 7)] Tryz.f21 [.st 6 a0] [] κ = publicanref17_Back_B m g a0 (fun r => κ (.st 7 r) []) := by
  delta publicanref17_Back_G publicanref17_Back_B publicanref17_Back_X0
  generalize publicanref17_Back_L0 (R := R) m g = c0
  refine id ?_
  kernel_rfl
theorem publicanref17_Back_st (m : Nat) (g : G_publicanref17_Back R) (hg : G_publicanref17_BackOK g) : SemC cxP 21 (publicanref17_Back_w (publicanref17_Back_B m g)) :=
  have HG : ∀ f, SemOK cxP f (publicanref17_Back_G (R := R) m g f) := tabG_ok (.cons (hg.publicanref17_Back) .nil)
  fun_of C HG (L := [publicanref17_Back_X0 m g]) (rc := [some (false, 7)]) (k := 0) (fn_of Tryz.func21) rfl rfl (by kernel_rfl) (by rw [show loopsIn (bodyOf Tryz.f21) = [(lpC (bodyOf Tryz.f21) 0)] from by kernel_rfl]; exact (.cons (publicanref17_Back_X0_ok HG) (.nil _))) fun vs os κ r h => by
    unfold publicanref17_Back_w at h
    split at h; rotate_left; cases h
    rename_i v0_
    replace h := Option.bind_eq_some_iff.1 h; obtain ⟨a0, hh, h⟩ := h; obtain rfl := rdSt_eq hh; clear hh
    exact (publicanref17_Back_eq m g a0 κ).trans h
theorem publicanref17_Back_z : SemC cxP 21 (publicanref17_Back_w (R := R) fun _ _ => none) := fun vs os κ r h => by
    unfold publicanref17_Back_w at h
    split at h; rotate_left; cases h
    rename_i v0_
    replace h := Option.bind_eq_some_iff.1 h; obtain ⟨a0, hh, h⟩ := h; obtain rfl := rdSt_eq hh; clear hh
    cases h
theorem G_publicanref17_Back_ok : ∀ m, G_publicanref17_BackOK (G_publicanref17_Back_r (R := R) m)
  | 0 => ⟨semOf_ok publicanref17_Back_z⟩
  | j + 1 => ⟨semOf_ok (publicanref17_Back_st j _ (G_publicanref17_Back_ok j))⟩
noncomputable def publicanref17_Back_sem (m : Nat) : PSem R := semOf publicanref17_Back_ac (publicanref17_Back_w (publicanref17_Back m))
theorem publicanref17_Back_ok (m : Nat) : SemOK cxP 21 (publicanref17_Back_sem (R := R) m) := (G_publicanref17_Back_ok m).publicanref17_Back
noncomputable def publicanref9_run_G (m : Nat) : FuncId → PSem R := tabG [(38, publicanref9_digit_sem m)]
set_option maxRecDepth 100000 in
theorem publicanref9_run_S0_eq (m : Nat) (ρ : List V → List PObj → Option R) (kx : Nat → List V → List PObj → Option R) (kr : List V → List PObj → Option R) (x0 : Int) (x1 : Int) (x2 : List UInt8) : pCode tb (publicanref9_run_G m) 0 Tryz.f41.ntmps (lpC (bodyOf Tryz.f41) 0) [] (fun s => match head 0 [(5, .any), (1, .any), (0, .any)] s with | (vs, os) => ρ vs os) (fun i s => match head 0 [(5, .any)] s with | (vs, os) => kx i vs os) (fun s => match head 0 [] s with | (vs, os) => kr vs os) ⟨mkEnv [(5, .any), (1, .any), (0, .any)] [.int .i64 x0, .int .i64 x1, .str x2], []⟩ = publicanref9_run_S0 m (fun x0 x1 x2 => ρ [.int .i64 x0, .int .i64 x1, .str x2] []) (fun y0 => kx 0 [.int .i64 y0] []) x0 x1 x2 := by
  delta publicanref9_run_G publicanref9_run_S0 publicanref9_digit_sem
  generalize publicanref9_digit (R := R) m = c0
  refine id ?_
  kernel_rfl
set_option maxHeartbeats 4000000 in
theorem publicanref9_run_L0_eq (m : Nat) (j : Nat) : ∀ (kx : Nat → List V → List PObj → Option R) (kr : List V → List PObj → Option R) (x0 : Int) (x1 : Int) (x2 : List UInt8), loopP tb (publicanref9_run_G m) 0 Tryz.f41.ntmps [(5, .any), (1, .any), (0, .any)] [(5, .any)] [] [] (lpC (bodyOf Tryz.f41) 0) j [.int .i64 x0, .int .i64 x1, .str x2] [] kx kr = publicanref9_run_L0 m j x0 x1 x2 (fun y0 => kx 0 [.int .i64 y0] []) := by
  induction j with
  | zero => intros; rfl
  | succ j ih =>
    intro kx kr x0 x1 x2
    refine Eq.trans ?_ (Eq.trans (Eq.trans (publicanref9_run_S0_eq m (fun vs os => loopP tb (publicanref9_run_G m) 0 Tryz.f41.ntmps [(5, .any), (1, .any), (0, .any)] [(5, .any)] [] [] (lpC (bodyOf Tryz.f41) 0) j vs os kx kr) kx kr x0 x1 x2) (congrArg (fun ρ => publicanref9_run_S0 m ρ (fun y0 => kx 0 [.int .i64 y0] []) x0 x1 x2) (funext fun x0 => funext fun x1 => funext fun x2 => ih kx kr x0 x1 x2))) ?_) <;> kernel_rfl
noncomputable def publicanref9_run_X0 (m : Nat) : LoopH R := ⟨[(5, .any), (1, .any), (0, .any)], [(5, .any)], [], fun vs os kx kr => match vs, os with | [v0_, v1_, v2_], [] => ((rdInt .i64 v0_).bind fun x0 => (rdInt .i64 v1_).bind fun x1 => (rdStr v2_).bind fun x2 => publicanref9_run_L0 m m x0 x1 x2 (fun y0 => kx 0 [.int .i64 y0] [])) | _, _ => none⟩
set_option maxHeartbeats 4000000 in
theorem publicanref9_run_X0_ok {m : Nat} (HG : ∀ f, SemOK cxP f (publicanref9_run_G (R := R) m f)) : LoopSem cxP Tryz.f41.ntmps 0 (lpC (bodyOf Tryz.f41) 0) (publicanref9_run_X0 (R := R) m) :=
  loop_of C HG (L := []) (by kernel_rfl) (by rw [show loopsIn (lpC (bodyOf Tryz.f41) 0) = [] from by kernel_rfl]; exact (.nil _)) m fun vs os kx kr r h => by
    try dsimp only at h
    split at h; rotate_left; cases h
    rename_i v0_ v1_ v2_
    replace h := Option.bind_eq_some_iff.1 h; obtain ⟨x0, hh, h⟩ := h; obtain rfl := rdInt_eq hh; clear hh
    replace h := Option.bind_eq_some_iff.1 h; obtain ⟨x1, hh, h⟩ := h; obtain rfl := rdInt_eq hh; clear hh
    replace h := Option.bind_eq_some_iff.1 h; obtain ⟨x2, hh, h⟩ := h; obtain rfl := rdStr_eq hh; clear hh
    exact (publicanref9_run_L0_eq m m kx kr x0 x1 x2).trans h
noncomputable def publicanref9_run_w (F : List UInt8 → Int → (Int → Option R) → Option R) : PSem R := fun vs os κ => match vs, os with | [v0_, v1_], [] => ((rdStr v0_).bind fun a0 => (rdInt .i64 v1_).bind fun a1 => F a0 a1 (fun r => κ (.int .i64 r) [])) | _, _ => none
def publicanref9_run_ac : List (Option (Bool × Nat)) := [none, none]
set_option maxRecDepth 100000 in
theorem publicanref9_run_eq (m : Nat) (a0 : List UInt8) (a1 : Int) (κ : V → List PObj → Option R) : pFun tb (publicanref9_run_G m) 0 [publicanref9_run_X0 m] [none] Tryz.f41 [.str a0, .int .i64 a1] [] κ = publicanref9_run m a0 a1 (fun r => κ (.int .i64 r) []) := by
  delta publicanref9_run_G publicanref9_run publicanref9_digit_sem publicanref9_run_X0
  generalize publicanref9_digit (R := R) m = c0
  generalize publicanref9_run_L0 (R := R) m = c1
  refine id ?_
  kernel_rfl
noncomputable def publicanref9_run_sem (m : Nat) : PSem R := semOf publicanref9_run_ac (publicanref9_run_w (publicanref9_run m))
theorem publicanref9_run_ok (m : Nat) : SemOK cxP 41 (publicanref9_run_sem (R := R) m) :=
  have HG : ∀ f, SemOK cxP f (publicanref9_run_G (R := R) m f) := tabG_ok (.cons (publicanref9_digit_ok m) .nil)
  semOf_ok (fun_of C HG (L := [publicanref9_run_X0 m]) (rc := [none]) (k := 0) (fn_of Tryz.func41) rfl rfl (by kernel_rfl) (by rw [show loopsIn (bodyOf Tryz.f41) = [(lpC (bodyOf Tryz.f41) 0)] from by kernel_rfl]; exact (.cons (publicanref9_run_X0_ok HG) (.nil _))) fun vs os κ r h => by
    unfold publicanref9_run_w at h
    split at h; rotate_left; cases h
    rename_i v0_ v1_
    replace h := Option.bind_eq_some_iff.1 h; obtain ⟨a0, hh, h⟩ := h; obtain rfl := rdStr_eq hh; clear hh
    replace h := Option.bind_eq_some_iff.1 h; obtain ⟨a1, hh, h⟩ := h; obtain rfl := rdInt_eq hh; clear hh
    exact (publicanref9_run_eq m a0 a1 κ).trans h
)
noncomputable def publicanref9_money_G (m : Nat) : FuncId → PSem R := tabG [(85, publicanref9_number_sem m)]
noncomputable def publicanref9_money_w (F : List UInt8 → List UInt8 → (Int → Bool → Option R) → Option R) : PSem R := fun vs os κ => match vs, os with | [v0_, v1_], [] => ((rdStr v0_).bind fun a0 => (rdStr v1_).bind fun a1 => F a0 a1 (fun r_0 r_1 => κ (.tup [.int .i64 r_0, .bool r_1]) [])) | _, _ => none
def publicanref9_money_ac : List (Option (Bool × Nat)) := [none, none]
set_option maxRecDepth 100000 in
theorem publicanref9_money_eq (m : Nat) (a0 : List UInt8) (a1 : List UInt8) (κ : V → List PObj → Option R) : pFun tb (publicanref9_money_G m) 0 [] [none, none] Tryz.f42 [.str a0, .str a1] [] κ = publicanref9_money m a0 a1 (fun r_0 r_1 => κ (.tup [.int .i64 r_0, .bool r_1]) []) := by
  delta publicanref9_money_G publicanref9_money publicanref9_number_sem
  generalize publicanref9_number (R := R) m = c0
  refine id ?_
  kernel_rfl
noncomputable def publicanref9_money_sem (m : Nat) : PSem R := semOf publicanref9_money_ac (publicanref9_money_w (publicanref9_money m))
theorem publicanref9_money_ok (m : Nat) : SemOK cxP 42 (publicanref9_money_sem (R := R) m) :=
  have HG : ∀ f, SemOK cxP f (publicanref9_money_G (R := R) m f) := tabG_ok (.cons (publicanref9_number_ok m) .nil)
  semOf_ok (fun_of C HG (L := []) (rc := [none, none]) (k := 0) (fn_of Tryz.func42) rfl rfl (by kernel_rfl) (by rw [show loopsIn (bodyOf Tryz.f42) = [] from by kernel_rfl]; exact (.nil _)) fun vs os κ r h => by
    unfold publicanref9_money_w at h
    split at h; rotate_left; cases h
    rename_i v0_ v1_
    replace h := Option.bind_eq_some_iff.1 h; obtain ⟨a0, hh, h⟩ := h; obtain rfl := rdStr_eq hh; clear hh
    replace h := Option.bind_eq_some_iff.1 h; obtain ⟨a1, hh, h⟩ := h; obtain rfl := rdStr_eq hh; clear hh
    exact (publicanref9_money_eq m a0 a1 κ).trans h
)
noncomputable def publicanref9_parser_is_G (m : Nat) : FuncId → PSem R := tabG [(44, publicanref9_parser_w_sem m)]
noncomputable def publicanref9_parser_is_w (F : T_publicanref9_parser → List UInt8 → (Bool → T_publicanref9_parser → Option R) → Option R) : PSem R := fun vs os κ => match vs, os with | [v0_, v1_], [q0_] => ((rdPtr 0 0 v0_).bind fun u0 => (rdStr v1_).bind fun a1 => (rdCells q0_).bind fun l1 => match l1 with | [c2_0, c2_1, c2_2, c2_3, c2_4] => ((rdSl 5 c2_0).bind fun p0_0 => (rdInt .i64 c2_1).bind fun p0_1 => (rdInt .i64 c2_2).bind fun p0_2 => (rdBool c2_3).bind fun p0_3 => (rdInt .i64 c2_4).bind fun p0_4 => F (T_publicanref9_parser.mk p0_0 p0_1 p0_2 p0_3 p0_4) a1 (fun r w0 => κ (.bool r) [.cells [.sl 5 w0.f_l, .int .i64 w0.f_k, .int .i64 w0.f_bad, .bool w0.f_deep, .int .i64 w0.f_d]])) | _ => none) | _, _ => none
def publicanref9_parser_is_ac : List (Option (Bool × Nat)) := [none, none]
set_option maxRecDepth 100000 in
theorem publicanref9_parser_is_eq (m : Nat) (o0 : T_publicanref9_parser) (a1 : List UInt8) (κ : V → List PObj → Option R) : pFun tb (publicanref9_parser_is_G m) 1 [] [none] Tryz.f50 [.ptr 0 0, .str a1] [.cells [.sl 5 o0.f_l, .int .i64 o0.f_k, .int .i64 o0.f_bad, .bool o0.f_deep, .int .i64 o0.f_d]] κ = publicanref9_parser_is m o0 a1 (fun r w0 => κ (.bool r) [.cells [.sl 5 w0.f_l, .int .i64 w0.f_k, .int .i64 w0.f_bad, .bool w0.f_deep, .int .i64 w0.f_d]]) := by
  delta publicanref9_parser_is_G publicanref9_parser_is publicanref9_parser_w_sem
  generalize publicanref9_parser_w (R := R) m = c0
  refine id ?_
  kernel_rfl
noncomputable def publicanref9_parser_is_sem (m : Nat) : PSem R := semOf publicanref9_parser_is_ac (publicanref9_parser_is_w (publicanref9_parser_is m))
theorem publicanref9_parser_is_ok (m : Nat) : SemOK cxP 50 (publicanref9_parser_is_sem (R := R) m) :=
  have HG : ∀ f, SemOK cxP f (publicanref9_parser_is_G (R := R) m f) := tabG_ok (.cons (publicanref9_parser_w_ok m) .nil)
  semOf_ok (fun_of C HG (L := []) (rc := [none]) (k := 1) (fn_of Tryz.func50) rfl rfl (by kernel_rfl) (by rw [show loopsIn (bodyOf Tryz.f50) = [] from by kernel_rfl]; exact (.nil _)) fun vs os κ r h => by
    unfold publicanref9_parser_is_w at h
    split at h; rotate_left; cases h
    rename_i v0_ v1_ q0_
    replace h := Option.bind_eq_some_iff.1 h; obtain ⟨u0, hh, h⟩ := h; obtain rfl := rdPtr_eq hh; clear hh
    replace h := Option.bind_eq_some_iff.1 h; obtain ⟨a1, hh, h⟩ := h; obtain rfl := rdStr_eq hh; clear hh
    replace h := Option.bind_eq_some_iff.1 h; obtain ⟨l1, hh, h⟩ := h; obtain rfl := rdCells_eq hh; clear hh
    split at h; rotate_left; cases h
    rename_i c2_0 c2_1 c2_2 c2_3 c2_4
    replace h := Option.bind_eq_some_iff.1 h; obtain ⟨p0_0, hh, h⟩ := h; obtain rfl := rdSl_eq hh; clear hh
    replace h := Option.bind_eq_some_iff.1 h; obtain ⟨p0_1, hh, h⟩ := h; obtain rfl := rdInt_eq hh; clear hh
    replace h := Option.bind_eq_some_iff.1 h; obtain ⟨p0_2, hh, h⟩ := h; obtain rfl := rdInt_eq hh; clear hh
    replace h := Option.bind_eq_some_iff.1 h; obtain ⟨p0_3, hh, h⟩ := h; obtain rfl := rdBool_eq hh; clear hh
    replace h := Option.bind_eq_some_iff.1 h; obtain ⟨p0_4, hh, h⟩ := h; obtain rfl := rdInt_eq hh; clear hh
    exact (publicanref9_parser_is_eq m (T_publicanref9_parser.mk p0_0 p0_1 p0_2 p0_3 p0_4) a1 κ).trans h
)
noncomputable def publicanref9_parser_limit_G (m : Nat) : FuncId → PSem R := tabG [(44, publicanref9_parser_w_sem m)]
noncomputable def publicanref9_parser_limit_w (F : T_publicanref9_parser → (T_publicanref9_parser → Option R) → Option R) : PSem R := fun vs os κ => match vs, os with | [v0_], [q0_] => ((rdPtr 0 0 v0_).bind fun u0 => (rdCells q0_).bind fun l1 => match l1 with | [c2_0, c2_1, c2_2, c2_3, c2_4] => ((rdSl 5 c2_0).bind fun p0_0 => (rdInt .i64 c2_1).bind fun p0_1 => (rdInt .i64 c2_2).bind fun p0_2 => (rdBool c2_3).bind fun p0_3 => (rdInt .i64 c2_4).bind fun p0_4 => F (T_publicanref9_parser.mk p0_0 p0_1 p0_2 p0_3 p0_4) (fun w0 => κ (.tup []) [.cells [.sl 5 w0.f_l, .int .i64 w0.f_k, .int .i64 w0.f_bad, .bool w0.f_deep, .int .i64 w0.f_d]])) | _ => none) | _, _ => none
def publicanref9_parser_limit_ac : List (Option (Bool × Nat)) := [none]
set_option maxRecDepth 100000 in
theorem publicanref9_parser_limit_eq (m : Nat) (o0 : T_publicanref9_parser) (κ : V → List PObj → Option R) : pFun tb (publicanref9_parser_limit_G m) 1 [] [] Tryz.f51 [.ptr 0 0] [.cells [.sl 5 o0.f_l, .int .i64 o0.f_k, .int .i64 o0.f_bad, .bool o0.f_deep, .int .i64 o0.f_d]] κ = publicanref9_parser_limit m o0 (fun w0 => κ (.tup []) [.cells [.sl 5 w0.f_l, .int .i64 w0.f_k, .int .i64 w0.f_bad, .bool w0.f_deep, .int .i64 w0.f_d]]) := by
  delta publicanref9_parser_limit_G publicanref9_parser_limit publicanref9_parser_w_sem
  generalize publicanref9_parser_w (R := R) m = c0
  refine id ?_
  kernel_rfl
noncomputable def publicanref9_parser_limit_sem (m : Nat) : PSem R := semOf publicanref9_parser_limit_ac (publicanref9_parser_limit_w (publicanref9_parser_limit m))
theorem publicanref9_parser_limit_ok (m : Nat) : SemOK cxP 51 (publicanref9_parser_limit_sem (R := R) m) :=
  have HG : ∀ f, SemOK cxP f (publicanref9_parser_limit_G (R := R) m f) := tabG_ok (.cons (publicanref9_parser_w_ok m) .nil)
  semOf_ok (fun_of C HG (L := []) (rc := []) (k := 1) (fn_of Tryz.func51) rfl rfl (by kernel_rfl) (by rw [show loopsIn (bodyOf Tryz.f51) = [] from by kernel_rfl]; exact (.nil _)) fun vs os κ r h => by
    unfold publicanref9_parser_limit_w at h
    split at h; rotate_left; cases h
    rename_i v0_ q0_
    replace h := Option.bind_eq_some_iff.1 h; obtain ⟨u0, hh, h⟩ := h; obtain rfl := rdPtr_eq hh; clear hh
    replace h := Option.bind_eq_some_iff.1 h; obtain ⟨l1, hh, h⟩ := h; obtain rfl := rdCells_eq hh; clear hh
    split at h; rotate_left; cases h
    rename_i c2_0 c2_1 c2_2 c2_3 c2_4
    replace h := Option.bind_eq_some_iff.1 h; obtain ⟨p0_0, hh, h⟩ := h; obtain rfl := rdSl_eq hh; clear hh
    replace h := Option.bind_eq_some_iff.1 h; obtain ⟨p0_1, hh, h⟩ := h; obtain rfl := rdInt_eq hh; clear hh
    replace h := Option.bind_eq_some_iff.1 h; obtain ⟨p0_2, hh, h⟩ := h; obtain rfl := rdInt_eq hh; clear hh
    replace h := Option.bind_eq_some_iff.1 h; obtain ⟨p0_3, hh, h⟩ := h; obtain rfl := rdBool_eq hh; clear hh
    replace h := Option.bind_eq_some_iff.1 h; obtain ⟨p0_4, hh, h⟩ := h; obtain rfl := rdInt_eq hh; clear hh
    exact (publicanref9_parser_limit_eq m (T_publicanref9_parser.mk p0_0 p0_1 p0_2 p0_3 p0_4) κ).trans h
)
noncomputable def publicanref9_parser_fail_G (m : Nat) : FuncId → PSem R := tabG [(44, publicanref9_parser_w_sem m)]
noncomputable def publicanref9_parser_fail_w (F : T_publicanref9_parser → (T_publicanref9_parser → Option R) → Option R) : PSem R := fun vs os κ => match vs, os with | [v0_], [q0_] => ((rdPtr 0 0 v0_).bind fun u0 => (rdCells q0_).bind fun l1 => match l1 with | [c2_0, c2_1, c2_2, c2_3, c2_4] => ((rdSl 5 c2_0).bind fun p0_0 => (rdInt .i64 c2_1).bind fun p0_1 => (rdInt .i64 c2_2).bind fun p0_2 => (rdBool c2_3).bind fun p0_3 => (rdInt .i64 c2_4).bind fun p0_4 => F (T_publicanref9_parser.mk p0_0 p0_1 p0_2 p0_3 p0_4) (fun w0 => κ (.tup []) [.cells [.sl 5 w0.f_l, .int .i64 w0.f_k, .int .i64 w0.f_bad, .bool w0.f_deep, .int .i64 w0.f_d]])) | _ => none) | _, _ => none
def publicanref9_parser_fail_ac : List (Option (Bool × Nat)) := [none]
set_option maxRecDepth 100000 in
theorem publicanref9_parser_fail_eq (m : Nat) (o0 : T_publicanref9_parser) (κ : V → List PObj → Option R) : pFun tb (publicanref9_parser_fail_G m) 1 [] [] Tryz.f53 [.ptr 0 0] [.cells [.sl 5 o0.f_l, .int .i64 o0.f_k, .int .i64 o0.f_bad, .bool o0.f_deep, .int .i64 o0.f_d]] κ = publicanref9_parser_fail m o0 (fun w0 => κ (.tup []) [.cells [.sl 5 w0.f_l, .int .i64 w0.f_k, .int .i64 w0.f_bad, .bool w0.f_deep, .int .i64 w0.f_d]]) := by
  delta publicanref9_parser_fail_G publicanref9_parser_fail publicanref9_parser_w_sem
  generalize publicanref9_parser_w (R := R) m = c0
  refine id ?_
  kernel_rfl
noncomputable def publicanref9_parser_fail_sem (m : Nat) : PSem R := semOf publicanref9_parser_fail_ac (publicanref9_parser_fail_w (publicanref9_parser_fail m))
theorem publicanref9_parser_fail_ok (m : Nat) : SemOK cxP 53 (publicanref9_parser_fail_sem (R := R) m) :=
  have HG : ∀ f, SemOK cxP f (publicanref9_parser_fail_G (R := R) m f) := tabG_ok (.cons (publicanref9_parser_w_ok m) .nil)
  semOf_ok (fun_of C HG (L := []) (rc := []) (k := 1) (fn_of Tryz.func53) rfl rfl (by kernel_rfl) (by rw [show loopsIn (bodyOf Tryz.f53) = [] from by kernel_rfl]; exact (.nil _)) fun vs os κ r h => by
    unfold publicanref9_parser_fail_w at h
    split at h; rotate_left; cases h
    rename_i v0_ q0_
    replace h := Option.bind_eq_some_iff.1 h; obtain ⟨u0, hh, h⟩ := h; obtain rfl := rdPtr_eq hh; clear hh
    replace h := Option.bind_eq_some_iff.1 h; obtain ⟨l1, hh, h⟩ := h; obtain rfl := rdCells_eq hh; clear hh
    split at h; rotate_left; cases h
    rename_i c2_0 c2_1 c2_2 c2_3 c2_4
    replace h := Option.bind_eq_some_iff.1 h; obtain ⟨p0_0, hh, h⟩ := h; obtain rfl := rdSl_eq hh; clear hh
    replace h := Option.bind_eq_some_iff.1 h; obtain ⟨p0_1, hh, h⟩ := h; obtain rfl := rdInt_eq hh; clear hh
    replace h := Option.bind_eq_some_iff.1 h; obtain ⟨p0_2, hh, h⟩ := h; obtain rfl := rdInt_eq hh; clear hh
    replace h := Option.bind_eq_some_iff.1 h; obtain ⟨p0_3, hh, h⟩ := h; obtain rfl := rdBool_eq hh; clear hh
    replace h := Option.bind_eq_some_iff.1 h; obtain ⟨p0_4, hh, h⟩ := h; obtain rfl := rdInt_eq hh; clear hh
    exact (publicanref9_parser_fail_eq m (T_publicanref9_parser.mk p0_0 p0_1 p0_2 p0_3 p0_4) κ).trans h
)
noncomputable def publicanref9_percent_G (m : Nat) : FuncId → PSem R := tabG [(85, publicanref9_number_sem m)]
set_option maxRecDepth 100000 in
theorem publicanref9_percent_S0_eq (m : Nat) (ρ : List V → List PObj → Option R) (kx : Nat → List V → List PObj → Option R) (kr : List V → List PObj → Option R) (x0 : List UInt8) (x1 : List UInt8) : pCode tb (publicanref9_percent_G m) 0 Tryz.f84.ntmps (lpC (bodyOf Tryz.f84) 0) [] (fun s => match head 0 [(1, .any), (0, .any)] s with | (vs, os) => ρ vs os) (fun i s => match head 0 [(1, .any), (0, .any)] s with | (vs, os) => kx i vs os) (fun s => match head 0 [] s with | (vs, os) => kr vs os) ⟨mkEnv [(1, .any), (0, .any)] [.str x0, .str x1], []⟩ = publicanref9_percent_S0 m (fun x0 x1 => ρ [.str x0, .str x1] []) (fun y0 y1 => kx 0 [.str y0, .str y1] []) x0 x1 := by
  delta publicanref9_percent_G publicanref9_percent_S0 publicanref9_number_sem
  generalize publicanref9_number (R := R) m = c0
  refine id ?_
  kernel_rfl
set_option maxHeartbeats 4000000 in
theorem publicanref9_percent_L0_eq (m : Nat) (j : Nat) : ∀ (kx : Nat → List V → List PObj → Option R) (kr : List V → List PObj → Option R) (x0 : List UInt8) (x1 : List UInt8), loopP tb (publicanref9_percent_G m) 0 Tryz.f84.ntmps [(1, .any), (0, .any)] [(1, .any), (0, .any)] [] [] (lpC (bodyOf Tryz.f84) 0) j [.str x0, .str x1] [] kx kr = publicanref9_percent_L0 m j x0 x1 (fun y0 y1 => kx 0 [.str y0, .str y1] []) := by
  induction j with
  | zero => intros; rfl
  | succ j ih =>
    intro kx kr x0 x1
    refine Eq.trans ?_ (Eq.trans (Eq.trans (publicanref9_percent_S0_eq m (fun vs os => loopP tb (publicanref9_percent_G m) 0 Tryz.f84.ntmps [(1, .any), (0, .any)] [(1, .any), (0, .any)] [] [] (lpC (bodyOf Tryz.f84) 0) j vs os kx kr) kx kr x0 x1) (congrArg (fun ρ => publicanref9_percent_S0 m ρ (fun y0 y1 => kx 0 [.str y0, .str y1] []) x0 x1) (funext fun x0 => funext fun x1 => ih kx kr x0 x1))) ?_) <;> kernel_rfl
noncomputable def publicanref9_percent_X0 (m : Nat) : LoopH R := ⟨[(1, .any), (0, .any)], [(1, .any), (0, .any)], [], fun vs os kx kr => match vs, os with | [v0_, v1_], [] => ((rdStr v0_).bind fun x0 => (rdStr v1_).bind fun x1 => publicanref9_percent_L0 m m x0 x1 (fun y0 y1 => kx 0 [.str y0, .str y1] [])) | _, _ => none⟩
set_option maxHeartbeats 4000000 in
theorem publicanref9_percent_X0_ok {m : Nat} (HG : ∀ f, SemOK cxP f (publicanref9_percent_G (R := R) m f)) : LoopSem cxP Tryz.f84.ntmps 0 (lpC (bodyOf Tryz.f84) 0) (publicanref9_percent_X0 (R := R) m) :=
  loop_of C HG (L := []) (by kernel_rfl) (by rw [show loopsIn (lpC (bodyOf Tryz.f84) 0) = [] from by kernel_rfl]; exact (.nil _)) m fun vs os kx kr r h => by
    try dsimp only at h
    split at h; rotate_left; cases h
    rename_i v0_ v1_
    replace h := Option.bind_eq_some_iff.1 h; obtain ⟨x0, hh, h⟩ := h; obtain rfl := rdStr_eq hh; clear hh
    replace h := Option.bind_eq_some_iff.1 h; obtain ⟨x1, hh, h⟩ := h; obtain rfl := rdStr_eq hh; clear hh
    exact (publicanref9_percent_L0_eq m m kx kr x0 x1).trans h
noncomputable def publicanref9_percent_w (F : List UInt8 → List UInt8 → (Int → Bool → Option R) → Option R) : PSem R := fun vs os κ => match vs, os with | [v0_, v1_], [] => ((rdStr v0_).bind fun a0 => (rdStr v1_).bind fun a1 => F a0 a1 (fun r_0 r_1 => κ (.tup [.int .i64 r_0, .bool r_1]) [])) | _, _ => none
def publicanref9_percent_ac : List (Option (Bool × Nat)) := [none, none]
set_option maxRecDepth 100000 in
theorem publicanref9_percent_eq (m : Nat) (a0 : List UInt8) (a1 : List UInt8) (κ : V → List PObj → Option R) : pFun tb (publicanref9_percent_G m) 0 [publicanref9_percent_X0 m] [none, none] Tryz.f84 [.str a0, .str a1] [] κ = publicanref9_percent m a0 a1 (fun r_0 r_1 => κ (.tup [.int .i64 r_0, .bool r_1]) []) := by
  delta publicanref9_percent_G publicanref9_percent publicanref9_number_sem publicanref9_percent_X0
  generalize publicanref9_number (R := R) m = c0
  generalize publicanref9_percent_L0 (R := R) m = c1
  refine id ?_
  kernel_rfl
noncomputable def publicanref9_percent_sem (m : Nat) : PSem R := semOf publicanref9_percent_ac (publicanref9_percent_w (publicanref9_percent m))
theorem publicanref9_percent_ok (m : Nat) : SemOK cxP 84 (publicanref9_percent_sem (R := R) m) :=
  have HG : ∀ f, SemOK cxP f (publicanref9_percent_G (R := R) m f) := tabG_ok (.cons (publicanref9_number_ok m) .nil)
  semOf_ok (fun_of C HG (L := [publicanref9_percent_X0 m]) (rc := [none, none]) (k := 0) (fn_of Tryz.func84) rfl rfl (by kernel_rfl) (by rw [show loopsIn (bodyOf Tryz.f84) = [(lpC (bodyOf Tryz.f84) 0)] from by kernel_rfl]; exact (.cons (publicanref9_percent_X0_ok HG) (.nil _))) fun vs os κ r h => by
    unfold publicanref9_percent_w at h
    split at h; rotate_left; cases h
    rename_i v0_ v1_
    replace h := Option.bind_eq_some_iff.1 h; obtain ⟨a0, hh, h⟩ := h; obtain rfl := rdStr_eq hh; clear hh
    replace h := Option.bind_eq_some_iff.1 h; obtain ⟨a1, hh, h⟩ := h; obtain rfl := rdStr_eq hh; clear hh
    exact (publicanref9_percent_eq m a0 a1 κ).trans h
)
noncomputable def publicanref1_Days_G (m : Nat) : FuncId → PSem R := tabG [(132, publicanref1_Leap_sem m)]
noncomputable def publicanref1_Days_w (F : Int → Int → (Int → Option R) → Option R) : PSem R := fun vs os κ => match vs, os with | [v0_, v1_], [] => ((rdInt .i64 v0_).bind fun a0 => (rdInt .i64 v1_).bind fun a1 => F a0 a1 (fun r => κ (.int .i64 r) [])) | _, _ => none
def publicanref1_Days_ac : List (Option (Bool × Nat)) := [none, none]
set_option maxRecDepth 100000 in
theorem publicanref1_Days_eq (m : Nat) (a0 : Int) (a1 : Int) (κ : V → List PObj → Option R) : pFun tb (publicanref1_Days_G m) 0 [] [none] Tryz.f133 [.int .i64 a0, .int .i64 a1] [] κ = publicanref1_Days m a0 a1 (fun r => κ (.int .i64 r) []) := by
  delta publicanref1_Days_G publicanref1_Days publicanref1_Leap_sem
  generalize publicanref1_Leap (R := R) m = c0
  refine id ?_
  kernel_rfl
noncomputable def publicanref1_Days_sem (m : Nat) : PSem R := semOf publicanref1_Days_ac (publicanref1_Days_w (publicanref1_Days m))
theorem publicanref1_Days_ok (m : Nat) : SemOK cxP 133 (publicanref1_Days_sem (R := R) m) :=
  have HG : ∀ f, SemOK cxP f (publicanref1_Days_G (R := R) m f) := tabG_ok (.cons (publicanref1_Leap_ok m) .nil)
  semOf_ok (fun_of C HG (L := []) (rc := [none]) (k := 0) (fn_of Tryz.func133) rfl rfl (by kernel_rfl) (by rw [show loopsIn (bodyOf Tryz.f133) = [] from by kernel_rfl]; exact (.nil _)) fun vs os κ r h => by
    unfold publicanref1_Days_w at h
    split at h; rotate_left; cases h
    rename_i v0_ v1_
    replace h := Option.bind_eq_some_iff.1 h; obtain ⟨a0, hh, h⟩ := h; obtain rfl := rdInt_eq hh; clear hh
    replace h := Option.bind_eq_some_iff.1 h; obtain ⟨a1, hh, h⟩ := h; obtain rfl := rdInt_eq hh; clear hh
    exact (publicanref1_Days_eq m a0 a1 κ).trans h
)
noncomputable def syn_Same_w (F : T_syn_Node → T_syn_Node → (Bool → Option R) → Option R) : PSem R := fun vs os κ => match vs, os with | [v0_, v1_], [] => ((rdSt 7 v0_).bind fun a0 => (rdSt 7 v1_).bind fun a1 => F a0 a1 (fun r => κ (.bool r) [])) | _, _ => none
def syn_Same_ac : List (Option (Bool × Nat)) := [some (false, 7), some (false, 7)]
noncomputable def slices_EqualFunc___publican_syn_Node___publican_syn_Node_publican_syn_Node_publican_syn_Node__w (F : List T_syn_Node → List T_syn_Node → (Bool → Option R) → Option R) : PSem R := fun vs os κ => match vs, os with | [v0_, v1_, v2_], [] => ((rdSl 7 v0_).bind fun a0 => (rdSl 7 v1_).bind fun a1 => (rdFn 15 v2_).bind fun u0 => F a0 a1 (fun r => κ (.bool r) [])) | _, _ => none
def slices_EqualFunc___publican_syn_Node___publican_syn_Node_publican_syn_Node_publican_syn_Node__ac : List (Option (Bool × Nat)) := [some (true, 7), some (true, 7), none]
structure G_syn_SameOK (g : G_syn_Same R) : Prop where
  syn_Same : SemOK cxP 15 (semOf syn_Same_ac (syn_Same_w g.syn_Same))
  slices_EqualFunc___publican_syn_Node___publican_syn_Node_publican_syn_Node_publican_syn_Node_ : SemOK cxP 31 (semOf slices_EqualFunc___publican_syn_Node___publican_syn_Node_publican_syn_Node_publican_syn_Node__ac (slices_EqualFunc___publican_syn_Node___publican_syn_Node_publican_syn_Node_publican_syn_Node__w g.slices_EqualFunc___publican_syn_Node___publican_syn_Node_publican_syn_Node_publican_syn_Node_))
noncomputable def syn_Same_G (m : Nat) (g : G_syn_Same R) : FuncId → PSem R := tabG [(31, semOf slices_EqualFunc___publican_syn_Node___publican_syn_Node_publican_syn_Node_publican_syn_Node__ac (slices_EqualFunc___publican_syn_Node___publican_syn_Node_publican_syn_Node_publican_syn_Node__w g.slices_EqualFunc___publican_syn_Node___publican_syn_Node_publican_syn_Node_publican_syn_Node_))]
set_option maxRecDepth 100000 in
theorem syn_Same_eq (m : Nat) (g : G_syn_Same R) (a0 : T_syn_Node) (a1 : T_syn_Node) (κ : V → List PObj → Option R) : pFun tb (syn_Same_G m g) 0 [] [none] Tryz.f15 [.st 7 a0, .st 7 a1] [] κ = syn_Same_B m g a0 a1 (fun r => κ (.bool r) []) := by
  delta syn_Same_G syn_Same_B
  refine id ?_
  kernel_rfl
theorem syn_Same_st (m : Nat) (g : G_syn_Same R) (hg : G_syn_SameOK g) : SemC cxP 15 (syn_Same_w (syn_Same_B m g)) :=
  have HG : ∀ f, SemOK cxP f (syn_Same_G (R := R) m g f) := tabG_ok (.cons (hg.slices_EqualFunc___publican_syn_Node___publican_syn_Node_publican_syn_Node_publican_syn_Node_) .nil)
  fun_of C HG (L := []) (rc := [none]) (k := 0) (fn_of Tryz.func15) rfl rfl (by kernel_rfl) (by rw [show loopsIn (bodyOf Tryz.f15) = [] from by kernel_rfl]; exact (.nil _)) fun vs os κ r h => by
    unfold syn_Same_w at h
    split at h; rotate_left; cases h
    rename_i v0_ v1_
    replace h := Option.bind_eq_some_iff.1 h; obtain ⟨a0, hh, h⟩ := h; obtain rfl := rdSt_eq hh; clear hh
    replace h := Option.bind_eq_some_iff.1 h; obtain ⟨a1, hh, h⟩ := h; obtain rfl := rdSt_eq hh; clear hh
    exact (syn_Same_eq m g a0 a1 κ).trans h
theorem syn_Same_z : SemC cxP 15 (syn_Same_w (R := R) fun _ _ _ => none) := fun vs os κ r h => by
    unfold syn_Same_w at h
    split at h; rotate_left; cases h
    rename_i v0_ v1_
    replace h := Option.bind_eq_some_iff.1 h; obtain ⟨a0, hh, h⟩ := h; obtain rfl := rdSt_eq hh; clear hh
    replace h := Option.bind_eq_some_iff.1 h; obtain ⟨a1, hh, h⟩ := h; obtain rfl := rdSt_eq hh; clear hh
    cases h
end Go.Pm
