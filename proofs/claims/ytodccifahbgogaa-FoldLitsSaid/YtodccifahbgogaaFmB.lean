/- The interpreter over data answers as the plain functions say. -/
import Derived.Test.YtodccifahbgogaaFmA
import Derived.Test.YtodccifahbgogaaProg
import Derived.KernelRfl
set_option linter.unusedVariables false
set_option linter.unusedSectionVars false
set_option linter.unusedSimpArgs false
namespace Go.Pm
open Go Go.EvM Go.Pv Go.Proofs
set_option linter.unusedVariables false
set_option maxRecDepth 100000
set_option linter.unusedSectionVars false
noncomputable section
variable {R : Type}
def tbL : List (TypeId × TB) := [
  (28, ⟨.strc [(0, 1, false), (1, 1, false), (2, 1, false), (3, 1, false), (4, 1, false), (5, 1, false)], 6, 80, true, [.str [], .str [], .int .i64 0, .int .i64 0, .int .i64 0, .nils]⟩),
  (26, ⟨.sl 28, 1, 24, false, [.nils]⟩),
  (2, ⟨.int .i64, 1, 8, false, [.int .i64 0]⟩),
  (5, ⟨.int .u8, 1, 1, false, [.int .u8 0]⟩),
  (57, ⟨.sl 5, 1, 24, false, [.nils]⟩),
  (9, ⟨.str, 1, 16, false, [.str []]⟩),
  (31, ⟨.strc [(0, 1, false), (1, 1, false), (2, 1, false), (3, 1, false), (4, 1, false), (5, 1, false)], 6, 80, true, [.str [], .str [], .int .i64 0, .int .i64 0, .int .i64 0, .nils]⟩),
  (3, ⟨.int .i64, 1, 8, false, [.int .i64 0]⟩),
  (29, ⟨.sl 31, 1, 24, false, [.nils]⟩),
  (51, ⟨.strc [(0, 1, false), (1, 1, false), (2, 1, false)], 3, 40, true, [.int .i64 0, .int .i64 0, .nils]⟩),
  (25, ⟨.int .i64, 1, 8, false, [.int .i64 0]⟩),
  (4, ⟨.bool, 1, 1, false, [.bool false]⟩),
  (23, ⟨.sl 9, 1, 24, false, [.nils]⟩),
  (67, ⟨.strc [(0, 1, false), (1, 1, false), (2, 1, false), (3, 1, false)], 4, 40, true, [.int .i64 0, .str [], .int .i64 0, .int .i64 0]⟩),
  (65, ⟨.strc [(0, 1, false), (1, 1, false), (2, 1, false), (3, 1, false), (4, 1, false)], 5, 56, true, [.nils, .int .i64 0, .int .i64 0, .bool false, .int .i64 0]⟩),
  (60, ⟨.sl 67, 1, 24, false, [.nils]⟩),
  (101, ⟨.strc [(0, 1, false), (1, 1, false)], 2, 16, true, [.int .i64 0, .int .u64 0]⟩),
  (99, ⟨.int .u64, 1, 8, false, [.int .u64 0]⟩),
  (107, ⟨.int .u64, 1, 8, false, [.int .u64 0]⟩),
  (104, ⟨.sl 3, 1, 24, false, [.nils]⟩),
  (115, ⟨.sl 23, 1, 24, false, [.nils]⟩),
  (53, ⟨.int .i64, 1, 8, false, [.int .i64 0]⟩)]
def tb : TypeId → Option TB := fun t => lookB t tbL
def yesP (args : List Value) (h : Hp) : OR := match args with | [] => .ok (.bool true) h | _ :: _ => .no
def extP : FuncId → Option (List Value → Hp → OR) := fun f => bif Nat.beq f 87 then some (addP) else bif Nat.beq f 85 then some (subP) else none
def cxP : Cx := mkCx Try.prog [] extP
theorem tbL_ok : tbL.all (fun p => tiB cxP p.1 p.2) = true := by kernel_rfl
theorem C : PvOk cxP tb := ⟨fun t b h => lookB_ok tbL_ok t b h, rfl, rfl, fun t => rfl⟩
def k4 := aK (aC aS <| aC aS <| aC (aI .i64) <| aC (aI .i64) <| aC (aI .i64) <| aC (aL 4) <| aN)
def o4 : Ar PObj (fun W => TsynNode → W) := aR k4 (fun _ f o => f o.f_Op o.f_Name o.f_Kind o.f_N o.f_At o.f_Kids) (fun _ f x0 x1 x2 x3 x4 x5 => f (TsynNode.mk x0 x1 x2 x3 x4 x5)) (fun _ _ => rfl)
def w4 (o : TsynNode) : PObj := .cells [.str o.f_Op, .str o.f_Name, .int .i64 o.f_Kind, .int .i64 o.f_N, .int .i64 o.f_At, .sl 4 o.f_Kids]
def k5 := aK (aC aS <| aC aS <| aC (aI .i64) <| aC (aI .i64) <| aC (aI .i64) <| aC (aL 5) <| aN)
def o5 : Ar PObj (fun W => T9Node → W) := aR k5 (fun _ f o => f o.f_Op o.f_Name o.f_Kind o.f_N o.f_At o.f_Kids) (fun _ f x0 x1 x2 x3 x4 x5 => f (T9Node.mk x0 x1 x2 x3 x4 x5)) (fun _ _ => rfl)
def w5 (o : T9Node) : PObj := .cells [.str o.f_Op, .str o.f_Name, .int .i64 o.f_Kind, .int .i64 o.f_N, .int .i64 o.f_At, .sl 5 o.f_Kids]
def k6 := aK (aC (aI .i64) <| aC (aI .i64) <| aC (aL 0) <| aN)
def o6 : Ar PObj (fun W => TapiValue → W) := aR k6 (fun _ f o => f o.f_Kind o.f_N o.f_L) (fun _ f x0 x1 x2 => f (TapiValue.mk x0 x1 x2)) (fun _ _ => rfl)
def w6 (o : TapiValue) : PObj := .cells [.int .i64 o.f_Kind, .int .i64 o.f_N, .sl 0 o.f_L]
def k7 := aK (aC (aL 8) <| aC (aI .i64) <| aC (aI .i64) <| aC aB <| aC (aI .i64) <| aN)
def o7 : Ar PObj (fun W => T9parser → W) := aR k7 (fun _ f o => f o.f_l o.f_k o.f_bad o.f_deep o.f_d) (fun _ f x0 x1 x2 x3 x4 => f (T9parser.mk x0 x1 x2 x3 x4)) (fun _ _ => rfl)
def w7 (o : T9parser) : PObj := .cells [.sl 8 o.f_l, .int .i64 o.f_k, .int .i64 o.f_bad, .bool o.f_deep, .int .i64 o.f_d]
def k8 := aK (aC (aI .i64) <| aC aS <| aC (aI .i64) <| aC (aI .i64) <| aN)
def o8 : Ar PObj (fun W => T9Word → W) := aR k8 (fun _ f o => f o.f_Kind o.f_Text o.f_N o.f_At) (fun _ f x0 x1 x2 x3 => f (T9Word.mk x0 x1 x2 x3)) (fun _ _ => rfl)
def w8 (o : T9Word) : PObj := .cells [.int .i64 o.f_Kind, .str o.f_Text, .int .i64 o.f_N, .int .i64 o.f_At]
def k9 := aK (aC (aI .i64) <| aC (aI .u64) <| aN)
def o9 : Ar PObj (fun W => TnumWide → W) := aR k9 (fun _ f o => f o.f_Hi o.f_Lo) (fun _ f x0 x1 => f (TnumWide.mk x0 x1)) (fun _ _ => rfl)
def w9 (o : TnumWide) : PObj := .cells [.int .i64 o.f_Hi, .int .u64 o.f_Lo]
def b_Add64_s (F : Y_b_Add64 R) : PSem R := fun vs os κ => match vs with
  | [.int .u64 a, .int .u64 b, .int .u64 c] => F a b c (fun r s => κ (.tup [.int .u64 r, .int .u64 s]) os)
  | _ => none
theorem b_Add64_k (m : Nat) : SemOK cxP 87 (b_Add64_s (R := R) (b_Add64 m)) := fun vs os κ r h => by
  unfold b_Add64_s at h
  split at h
  · rename_i a b c
    unfold b_Add64 at h
    split at h
    · rename_i x y z
      cases hb : Nat.ble z 1 with
      | false => rw [hb] at h; cases h
      | true =>
        rw [hb] at h
        refine ⟨_, _, h, 1, fun j hj Φ g H ws hs hr => ?_⟩
        cases hr with
        | cons h1 hr => cases h1; cases hr with
          | cons h1 hr => cases h1; cases hr with
            | cons h1 hr =>
              cases h1; cases hr
              obtain ⟨j, rfl⟩ : ∃ i, j = i + 1 := ⟨j - 1, by omega⟩
              refine ⟨.tuple ⟨[.int .u64 _, .int .u64 _]⟩, H, Φ, g, ?_, .tup (.cons (.int _ _) (.cons (.int _ _) .nil)) (by simp [f2, f1, f0]) (by show 2 ≤ 8; omega), hs, Nx.refl _ _ _ _⟩
              show addP [.int .u64 (.ofNat x), .int .u64 (.ofNat y), .int .u64 (.ofNat z)] H = _
              unfold addP
              dsimp only
              rw [hb]; rfl
    · cases h
  · cases h
def b_Sub64_s (F : Y_b_Sub64 R) : PSem R := fun vs os κ => match vs with
  | [.int .u64 a, .int .u64 b, .int .u64 c] => F a b c (fun r s => κ (.tup [.int .u64 r, .int .u64 s]) os)
  | _ => none
theorem b_Sub64_k (m : Nat) : SemOK cxP 85 (b_Sub64_s (R := R) (b_Sub64 m)) := fun vs os κ r h => by
  unfold b_Sub64_s at h
  split at h
  · rename_i a b c
    unfold b_Sub64 at h
    split at h
    · rename_i x y z
      cases hb : Nat.ble z 1 with
      | false => rw [hb] at h; cases h
      | true =>
        rw [hb] at h
        refine ⟨_, _, h, 1, fun j hj Φ g H ws hs hr => ?_⟩
        cases hr with
        | cons h1 hr => cases h1; cases hr with
          | cons h1 hr => cases h1; cases hr with
            | cons h1 hr =>
              cases h1; cases hr
              obtain ⟨j, rfl⟩ : ∃ i, j = i + 1 := ⟨j - 1, by omega⟩
              refine ⟨.tuple ⟨[.int .u64 _, .int .u64 _]⟩, H, Φ, g, ?_, .tup (.cons (.int _ _) (.cons (.int _ _) .nil)) (by simp [f2, f1, f0]) (by show 2 ≤ 8; omega), hs, Nx.refl _ _ _ _⟩
              show subP [.int .u64 (.ofNat x), .int .u64 (.ofNat y), .int .u64 (.ofNat z)] H = _
              unfold subP
              dsimp only
              rw [hb]; rfl
    · cases h
  · cases h
def slices_Clone___p_s (F : Y_slices_Clone___p R) : PSem R := cloneS 4 80
def cl0 : Code := match bodyOf Try.f16 with | .seq a _ => a | _ => .skip
def cl1 : Code := match bodyOf Try.f16 with | .seq _ (.seq a _) => a | _ => .skip
def cl2 : Code := match bodyOf Try.f16 with | .seq _ (.seq _ a) => a | _ => .skip
theorem slices_Clone___p_k (m : Nat) : SemOK cxP 16 (slices_Clone___p_s (R := R) (slices_Clone___p m)) :=
 clone_ok C (F := Try.f16) (r0 := cl0) (X := cl1) (S := cl2) (fn_of Try.func16) rfl (by kernel_rfl) (by kernel_rfl) (fun _ _ => rfl)
  (fit_of _ (by kernel_rfl) (show LoopsOK _ _ _ (loopsIn (.seq cl0 (.seq cl1 cl2))) _ from (show loopsIn (.seq cl0 (.seq cl1 cl2)) = [] from by kernel_rfl) ▸ .nil _)) (fit_of _ (by kernel_rfl) ((show loopsIn cl2 = [] from by kernel_rfl) ▸ .nil _))
  (fun x l => by kernel_rfl) (by kernel_rfl) (by kernel_rfl) (fun b off cap m H => by kernel_rfl)
end
end Go.Pm
namespace Go.Pm
open Go Go.EvM Go.Pv Go.Proofs
set_option maxRecDepth 100000
set_option linter.unusedVariables false
set_option linter.unusedSectionVars false
noncomputable section
variable {R : Type}
def fold_Size_a := aX (aC (aT 4) <| aN) (aN)
def fold_Size_h (F : Y_fold_Size R) := fun a0 (κ : Ko R) => F a0 (fun r => κ (.int .i64 r) [])
def fold_Size_w (F : Y_fold_Size R) : PSem R := rawA fold_Size_a (fold_Size_h F)
def fold_Size_s (F : Y_fold_Size R) : PSem R := semOf [some (false, 4)] (fold_Size_w F)
structure G_fold_SizeOK (g : G_fold_Size R) : Prop where
  fold_Size : SemOK cxP 9 (fold_Size_s g.fold_Size)
def fold_Size_G (c0 : Y_fold_Size R) : FuncId → PSem R := tabG [(9, fold_Size_s c0)]
def fold_Size_l0 : LpS := ⟨[(9, .any), (3, .any), (7, .any), (8, .any)], [(3, .any)], []⟩
def fold_Size_a0 := aX (aC (aI .i64) <| aC (aI .i64) <| aC (aL 4) <| aC (aI .i64) <| aN) (aN)
def fold_Size_x0 := aX (aC (aI .i64) <| aN) (aN)
theorem fold_Size_S0_e (m : Nat) (c0 : Y_fold_Size R) (ρ : Kr R) (kx : Kx R) (kr : Kr R) : roundA tb (fold_Size_G c0) 0 Try.f9 (lpC (bodyOf Try.f9) 0) [] fold_Size_l0 fold_Size_a0 ρ kx kr = fold_Size_S0 m c0 (fold_Size_a0.w _ (pr ρ)) (fold_Size_x0.w _ (pr (kx 0))) := by kernel_rfl
def fold_Size_X0 (l : fold_Size_V0 R) (m : Nat) : LoopH R := loopA fold_Size_l0 fold_Size_a0 fun kx kr => l (fold_Size_x0.w _ (pr (kx 0))) m
theorem fold_Size_X0_k {m : Nat} {c0 : Y_fold_Size R} (HG : ∀ f, SemOK cxP f (fold_Size_G (R := R) c0 f)) : LoopSem cxP Try.f9.ntmps 0 (lpC (bodyOf Try.f9) 0) (fold_Size_X0 (R := R) (fold_Size_L0 m c0) m) := loopA_ok C HG (by kernel_rfl) (show loopsIn (lpC (bodyOf Try.f9) 0) = [] from by kernel_rfl) (.nil _) m (fun _ _ => rfl) rfl (fold_Size_S0_e m c0)
theorem fold_Size_e (m : Nat) (c0 : Y_fold_Size R) (l0 : fold_Size_V0 R) : fold_Size_a.w _ (fun x κ => pFun tb (fold_Size_G (R := R) c0) 0 [fold_Size_X0 l0 m] [none] Try.f9 x.1 x.2 κ) = fold_Size_h (fold_Size_F m l0) := by kernel_rfl
theorem fold_Size_st (m : Nat) (g : G_fold_Size R) (hg : G_fold_SizeOK g) : SemC cxP 9 (fold_Size_w (fold_Size_B m g)) :=
 have HG : ∀ f, SemOK cxP f (fold_Size_G (R := R) g.fold_Size f) := tabG_ok (.cons hg.fold_Size .nil)
 rawA_ok C HG (fn_of Try.func9) rfl rfl (by kernel_rfl) (show loopsIn (bodyOf Try.f9) = [(lpC (bodyOf Try.f9) 0)] from by kernel_rfl) (.cons (fold_Size_X0_k HG) (.nil _)) (fold_Size_e m g.fold_Size (fold_Size_L0 m g.fold_Size))
theorem fold_Size_zz : SemC cxP 9 (fold_Size_w (R := R) fun _ _ => none) := rawA_z rfl
theorem G_fold_Size_ok : ∀ m, G_fold_SizeOK (G_fold_Size_r (R := R) m)
  | 0 => ⟨semOf_ok fold_Size_zz⟩
  | j + 1 => ⟨semOf_ok (fold_Size_st j _ (G_fold_Size_ok j))⟩
theorem fold_Size_k (m : Nat) : SemOK cxP 9 (fold_Size_s (R := R) (fold_Size m)) := (G_fold_Size_ok m).fold_Size
def r1_Text_a := aX (aC (aI .i64) <| aN) (aN)
def r1_Text_h (F : Y_r1_Text R) := fun a0 (κ : Ko R) => F a0 (fun r => κ (.str r) [])
def r1_Text_w (F : Y_r1_Text R) : PSem R := rawA r1_Text_a (r1_Text_h F)
def r1_Text_s (F : Y_r1_Text R) : PSem R := semOf [none] (r1_Text_w F)
structure G_publicanref1_TextOK (g : G_r1_Text R) : Prop where
  r1_Text : SemOK cxP 11 (r1_Text_s g.r1_Text)
def r1_Text_G (c0 : Y_r1_Text R) : FuncId → PSem R := tabG [(11, r1_Text_s c0)]
theorem r1_Text_e (m : Nat) (c0 : Y_r1_Text R) : r1_Text_a.w _ (fun x κ => pFun tb (r1_Text_G (R := R) c0) 0 [] [none] Try.f11 x.1 x.2 κ) = r1_Text_h (r1_Text_F m c0) := by kernel_rfl
theorem r1_Text_st (m : Nat) (g : G_r1_Text R) (hg : G_publicanref1_TextOK g) : SemC cxP 11 (r1_Text_w (r1_Text_B m g)) :=
 have HG : ∀ f, SemOK cxP f (r1_Text_G (R := R) g.r1_Text f) := tabG_ok (.cons hg.r1_Text .nil)
 rawA_ok C HG (fn_of Try.func11) rfl rfl (by kernel_rfl) (show loopsIn (bodyOf Try.f11) = [] from by kernel_rfl) (.nil _) (r1_Text_e m g.r1_Text)
theorem r1_Text_zz : SemC cxP 11 (r1_Text_w (R := R) fun _ _ => none) := rawA_z rfl
theorem G_r1_Text_ok : ∀ m, G_publicanref1_TextOK (G_r1_Text_r (R := R) m)
  | 0 => ⟨semOf_ok r1_Text_zz⟩
  | j + 1 => ⟨semOf_ok (r1_Text_st j _ (G_r1_Text_ok j))⟩
theorem r1_Text_k (m : Nat) : SemOK cxP 11 (r1_Text_s (R := R) (r1_Text m)) := (G_r1_Text_ok m).r1_Text
def r17_Back_a := aX (aC (aT 5) <| aN) (aN)
def r17_Back_h (F : Y_r17_Back R) := fun a0 (κ : Ko R) => F a0 (fun r => κ (.st 4 r) [])
def r17_Back_w (F : Y_r17_Back R) : PSem R := rawA r17_Back_a (r17_Back_h F)
def r17_Back_s (F : Y_r17_Back R) : PSem R := semOf [some (false, 5)] (r17_Back_w F)
structure G_publicanref17_BackOK (g : G_r17_Back R) : Prop where
  r17_Back : SemOK cxP 15 (r17_Back_s g.r17_Back)
def r17_Back_G (c0 : Y_r17_Back R) : FuncId → PSem R := tabG [(15, r17_Back_s c0)]
def r17_Back_l0 : LpS := ⟨[(4, .any), (3, .cells [(5, 4)]), (1, .fcells [(5, 5)]), (2, .fcells [(5, 4)])], [(2, .any), (3, .any)], []⟩
def r17_Back_a0 := aX (aC (aI .i64) <| aC (aP 0 0) <| aC (aP 1 0) <| aC (aP 2 0) <| aN) (aC (aK (aC aS <| aC aS <| aC (aI .i64) <| aC (aI .i64) <| aC (aI .i64) <| aC (aO 3) <| aN)) <| aC k5 <| aC k4 <| aC (aA 4) <| aN)
def r17_Back_x0 := aX (aC (aP 0 0) <| aC (aP 1 0) <| aN) (aC k4 <| aC (aK (aC aS <| aC aS <| aC (aI .i64) <| aC (aI .i64) <| aC (aI .i64) <| aC (aO 2) <| aN)) <| aC (aA 4) <| aN)
theorem r17_Back_S0_e (m : Nat) (c0 : Y_r17_Back R) (ρ : Kr R) (kx : Kx R) (kr : Kr R) : roundA tb (r17_Back_G c0) 0 Try.f15 (lpC (bodyOf Try.f15) 0) [] r17_Back_l0 r17_Back_a0 ρ kx kr = r17_Back_S0 m c0 (r17_Back_a0.w _ (pr ρ)) (r17_Back_x0.w _ (pr (kx 0))) := by kernel_rfl
def r17_Back_X0 (l : r17_Back_V0 R) (m : Nat) : LoopH R := loopA r17_Back_l0 r17_Back_a0 fun kx kr => l (r17_Back_x0.w _ (pr (kx 0))) m
theorem r17_Back_X0_k {m : Nat} {c0 : Y_r17_Back R} (HG : ∀ f, SemOK cxP f (r17_Back_G (R := R) c0 f)) : LoopSem cxP Try.f15.ntmps 0 (lpC (bodyOf Try.f15) 0) (r17_Back_X0 (R := R) (r17_Back_L0 m c0) m) := loopA_ok C HG (by kernel_rfl) (show loopsIn (lpC (bodyOf Try.f15) 0) = [] from by kernel_rfl) (.nil _) m (fun _ _ => rfl) rfl (r17_Back_S0_e m c0)
theorem r17_Back_e (m : Nat) (c0 : Y_r17_Back R) (l0 : r17_Back_V0 R) : r17_Back_a.w _ (fun x κ => pFun tb (r17_Back_G (R := R) c0) 0 [r17_Back_X0 l0 m] [some (false, 4)] Try.f15 x.1 x.2 κ) = r17_Back_h (r17_Back_F m l0) := by kernel_rfl
theorem r17_Back_st (m : Nat) (g : G_r17_Back R) (hg : G_publicanref17_BackOK g) : SemC cxP 15 (r17_Back_w (r17_Back_B m g)) :=
 have HG : ∀ f, SemOK cxP f (r17_Back_G (R := R) g.r17_Back f) := tabG_ok (.cons hg.r17_Back .nil)
 rawA_ok C HG (fn_of Try.func15) rfl rfl (by kernel_rfl) (show loopsIn (bodyOf Try.f15) = [(lpC (bodyOf Try.f15) 0)] from by kernel_rfl) (.cons (r17_Back_X0_k HG) (.nil _)) (r17_Back_e m g.r17_Back (r17_Back_L0 m g.r17_Back))
theorem r17_Back_zz : SemC cxP 15 (r17_Back_w (R := R) fun _ _ => none) := rawA_z rfl
theorem G_r17_Back_ok : ∀ m, G_publicanref17_BackOK (G_r17_Back_r (R := R) m)
  | 0 => ⟨semOf_ok r17_Back_zz⟩
  | j + 1 => ⟨semOf_ok (r17_Back_st j _ (G_r17_Back_ok j))⟩
theorem r17_Back_k (m : Nat) : SemOK cxP 15 (r17_Back_s (R := R) (r17_Back m)) := (G_r17_Back_ok m).r17_Back
def fold_reckoned_a := aX (aC aS <| aN) (aN)
def fold_reckoned_h (F : Y_fold_reckoned R) := fun a0 (κ : Ko R) => F a0 (fun r => κ (.bool r) [])
def fold_reckoned_s (F : Y_fold_reckoned R) : PSem R := semOf [none] (rawA fold_reckoned_a (fold_reckoned_h F))
theorem fold_reckoned_e (m : Nat) : fold_reckoned_a.w _ (fun x κ => pFun tb (tabG (R := R) []) 0 [] [none] Try.f18 x.1 x.2 κ) = fold_reckoned_h (fold_reckoned_F m) := by kernel_rfl
theorem fold_reckoned_k (m : Nat) : SemOK cxP 18 (fold_reckoned_s (R := R) (fold_reckoned m)) := semOf_ok (raw0 C (tabG_ok .nil) (fn_of Try.func18) rfl rfl (by kernel_rfl) (by kernel_rfl) (fold_reckoned_e m))
def fold_Expr_1_a := aX (aC (aT 4) <| aN) (aN)
def fold_Expr_1_h (F : Y_fold_Expr_1 R) := fun a0 (κ : Ko R) => F a0 (fun r => κ (.bool r) [])
def fold_Expr_1_s (F : Y_fold_Expr_1 R) : PSem R := semOf [some (false, 4)] (rawA fold_Expr_1_a (fold_Expr_1_h F))
theorem fold_Expr_1_e (m : Nat) : fold_Expr_1_a.w _ (fun x κ => pFun tb (tabG (R := R) []) 0 [] [none] Try.f20 x.1 x.2 κ) = fold_Expr_1_h (fold_Expr_1_F m) := by kernel_rfl
theorem fold_Expr_1_k (m : Nat) : SemOK cxP 20 (fold_Expr_1_s (R := R) (fold_Expr_1 m)) := semOf_ok (raw0 C (tabG_ok .nil) (fn_of Try.func20) rfl rfl (by kernel_rfl) (by kernel_rfl) (fold_Expr_1_e m))
def fold_value_a := aX (aC (aT 4) <| aN) (aN)
def fold_value_h (F : Y_fold_value R) := fun a0 (κ : Ko R) => F a0 (fun r => κ (.st 6 r) [])
def fold_value_s (F : Y_fold_value R) : PSem R := semOf [some (false, 4)] (rawA fold_value_a (fold_value_h F))
theorem fold_value_e (m : Nat) : fold_value_a.w _ (fun x κ => pFun tb (tabG (R := R) []) 0 [] [some (false, 6)] Try.f21 x.1 x.2 κ) = fold_value_h (fold_value_F m) := by kernel_rfl
theorem fold_value_k (m : Nat) : SemOK cxP 21 (fold_value_s (R := R) (fold_value m)) := semOf_ok (raw0 C (tabG_ok .nil) (fn_of Try.func21) rfl rfl (by kernel_rfl) (by kernel_rfl) (fold_value_e m))
def fold_literal_a := aX (aC (aT 6) <| aC (aI .i64) <| aN) (aN)
def fold_literal_h (F : Y_fold_literal R) := fun a0 a1 (κ : Ko R) => F a0 a1 (fun r => κ (.st 4 r) [])
def fold_literal_s (F : Y_fold_literal R) : PSem R := semOf [some (false, 6), none] (rawA fold_literal_a (fold_literal_h F))
theorem fold_literal_e (m : Nat) : fold_literal_a.w _ (fun x κ => pFun tb (tabG (R := R) []) 0 [] [some (false, 4)] Try.f23 x.1 x.2 κ) = fold_literal_h (fold_literal_F m) := by kernel_rfl
theorem fold_literal_k (m : Nat) : SemOK cxP 23 (fold_literal_s (R := R) (fold_literal m)) := semOf_ok (raw0 C (tabG_ok .nil) (fn_of Try.func23) rfl rfl (by kernel_rfl) (by kernel_rfl) (fold_literal_e m))
def r1_two_a := aX (aC (aI .i64) <| aN) (aN)
def r1_two_h (F : Y_r1_two R) := fun a0 (κ : Ko R) => F a0 (fun r => κ (.str r) [])
def r1_two_s (F : Y_r1_two R) : PSem R := semOf [none] (rawA r1_two_a (r1_two_h F))
theorem r1_two_e (m : Nat) : r1_two_a.w _ (fun x κ => pFun tb (tabG (R := R) []) 0 [] [none] Try.f25 x.1 x.2 κ) = r1_two_h (r1_two_F m) := by kernel_rfl
theorem r1_two_k (m : Nat) : SemOK cxP 25 (r1_two_s (R := R) (r1_two m)) := semOf_ok (raw0 C (tabG_ok .nil) (fn_of Try.func25) rfl rfl (by kernel_rfl) (by kernel_rfl) (r1_two_e m))
def num_Add_a := aX (aC (aI .i64) <| aC (aI .i64) <| aN) (aN)
def num_Add_h (F : Y_num_Add R) := fun a0 a1 (κ : Ko R) => F a0 a1 (fun r_0 r_1 => κ (.tup [.int .i64 r_0, .bool r_1]) [])
def num_Add_s (F : Y_num_Add R) : PSem R := semOf [none, none] (rawA num_Add_a (num_Add_h F))
theorem num_Add_e (m : Nat) : num_Add_a.w _ (fun x κ => pFun tb (tabG (R := R) []) 0 [] [none, none] Try.f31 x.1 x.2 κ) = num_Add_h (num_Add_F m) := by kernel_rfl
theorem num_Add_k (m : Nat) : SemOK cxP 31 (num_Add_s (R := R) (num_Add m)) := semOf_ok (raw0 C (tabG_ok .nil) (fn_of Try.func31) rfl rfl (by kernel_rfl) (by kernel_rfl) (num_Add_e m))
def num_Sub_a := aX (aC (aI .i64) <| aC (aI .i64) <| aN) (aN)
def num_Sub_h (F : Y_num_Sub R) := fun a0 a1 (κ : Ko R) => F a0 a1 (fun r_0 r_1 => κ (.tup [.int .i64 r_0, .bool r_1]) [])
def num_Sub_s (F : Y_num_Sub R) : PSem R := semOf [none, none] (rawA num_Sub_a (num_Sub_h F))
theorem num_Sub_e (m : Nat) : num_Sub_a.w _ (fun x κ => pFun tb (tabG (R := R) []) 0 [] [none, none] Try.f33 x.1 x.2 κ) = num_Sub_h (num_Sub_F m) := by kernel_rfl
theorem num_Sub_k (m : Nat) : SemOK cxP 33 (num_Sub_s (R := R) (num_Sub m)) := semOf_ok (raw0 C (tabG_ok .nil) (fn_of Try.func33) rfl rfl (by kernel_rfl) (by kernel_rfl) (num_Sub_e m))
def mean_truth_a := aX (aC aB <| aN) (aN)
def mean_truth_h (F : Y_mean_truth R) := fun a0 (κ : Ko R) => F a0 (fun r_0 r_1 => κ (.tup [.st 6 r_0, .int .i64 r_1]) [])
def mean_truth_s (F : Y_mean_truth R) : PSem R := semOf [none] (rawA mean_truth_a (mean_truth_h F))
theorem mean_truth_e (m : Nat) : mean_truth_a.w _ (fun x κ => pFun tb (tabG (R := R) []) 0 [] [some (false, 6), none] Try.f36 x.1 x.2 κ) = mean_truth_h (mean_truth_F m) := by kernel_rfl
theorem mean_truth_k (m : Nat) : SemOK cxP 36 (mean_truth_s (R := R) (mean_truth m)) := semOf_ok (raw0 C (tabG_ok .nil) (fn_of Try.func36) rfl rfl (by kernel_rfl) (by kernel_rfl) (mean_truth_e m))
def r1_Leap_a := aX (aC (aI .i64) <| aN) (aN)
def r1_Leap_h (F : Y_r1_Leap R) := fun a0 (κ : Ko R) => F a0 (fun r => κ (.bool r) [])
def r1_Leap_s (F : Y_r1_Leap R) : PSem R := semOf [none] (rawA r1_Leap_a (r1_Leap_h F))
theorem r1_Leap_e (m : Nat) : r1_Leap_a.w _ (fun x κ => pFun tb (tabG (R := R) []) 0 [] [none] Try.f37 x.1 x.2 κ) = r1_Leap_h (r1_Leap_F m) := by kernel_rfl
theorem r1_Leap_k (m : Nat) : SemOK cxP 37 (r1_Leap_s (R := R) (r1_Leap m)) := semOf_ok (raw0 C (tabG_ok .nil) (fn_of Try.func37) rfl rfl (by kernel_rfl) (by kernel_rfl) (r1_Leap_e m))
def r9_letter_a := aX (aC (aI .u8) <| aN) (aN)
def r9_letter_h (F : Y_r9_letter R) := fun a0 (κ : Ko R) => F a0 (fun r => κ (.bool r) [])
def r9_letter_s (F : Y_r9_letter R) : PSem R := semOf [none] (rawA r9_letter_a (r9_letter_h F))
theorem r9_letter_e (m : Nat) : r9_letter_a.w _ (fun x κ => pFun tb (tabG (R := R) []) 0 [] [none] Try.f39 x.1 x.2 κ) = r9_letter_h (r9_letter_F m) := by kernel_rfl
theorem r9_letter_k (m : Nat) : SemOK cxP 39 (r9_letter_s (R := R) (r9_letter m)) := semOf_ok (raw0 C (tabG_ok .nil) (fn_of Try.func39) rfl rfl (by kernel_rfl) (by kernel_rfl) (r9_letter_e m))
def r9_digit_a := aX (aC (aI .u8) <| aN) (aN)
def r9_digit_h (F : Y_r9_digit R) := fun a0 (κ : Ko R) => F a0 (fun r => κ (.bool r) [])
def r9_digit_s (F : Y_r9_digit R) : PSem R := semOf [none] (rawA r9_digit_a (r9_digit_h F))
theorem r9_digit_e (m : Nat) : r9_digit_a.w _ (fun x κ => pFun tb (tabG (R := R) []) 0 [] [none] Try.f40 x.1 x.2 κ) = r9_digit_h (r9_digit_F m) := by kernel_rfl
theorem r9_digit_k (m : Nat) : SemOK cxP 40 (r9_digit_s (R := R) (r9_digit m)) := semOf_ok (raw0 C (tabG_ok .nil) (fn_of Try.func40) rfl rfl (by kernel_rfl) (by kernel_rfl) (r9_digit_e m))
def r9_Kept_G : FuncId → PSem R := tabG []
def r9_Kept_l0 : LpS := ⟨[(4, .any), (0, .any), (3, .any)], [], [(2, .any)]⟩
def r9_Kept_a0 := aX (aC (aI .i64) <| aC aS <| aC (aO 0) <| aN) (aC (aA 2) <| aN)
def r9_Kept_x0 := aQ (aX (aN) (aN))
def r9_Kept_z0 := aX (aC aB <| aN) (aN)
theorem r9_Kept_S0_e (m : Nat) (ρ : Kr R) (kx : Kx R) (kr : Kr R) : roundA tb (r9_Kept_G) 0 Try.f41 (lpC (bodyOf Try.f41) 0) [] r9_Kept_l0 r9_Kept_a0 ρ kx kr = r9_Kept_S0 m (r9_Kept_a0.w _ (pr ρ)) (r9_Kept_x0.w _ (pr (kx 0))) (r9_Kept_z0.w _ (pr kr)) := by kernel_rfl
def r9_Kept_X0 (l : r9_Kept_V0 R) (m : Nat) : LoopH R := loopA r9_Kept_l0 r9_Kept_a0 fun kx kr => l (r9_Kept_x0.w _ (pr (kx 0))) (r9_Kept_z0.w _ (pr kr)) m
theorem r9_Kept_X0_k {m : Nat} (HG : ∀ f, SemOK cxP f (r9_Kept_G (R := R) f)) : LoopSem cxP Try.f41.ntmps 0 (lpC (bodyOf Try.f41) 0) (r9_Kept_X0 (R := R) (r9_Kept_L0 m) m) := loopA_ok C HG (by kernel_rfl) (show loopsIn (lpC (bodyOf Try.f41) 0) = [] from by kernel_rfl) (.nil _) m (fun _ _ => rfl) rfl (r9_Kept_S0_e m)
def r9_Kept_a := aX (aC aS <| aN) (aN)
def r9_Kept_h (F : Y_r9_Kept R) := fun a0 (κ : Ko R) => F a0 (fun r => κ (.bool r) [])
def r9_Kept_s (F : Y_r9_Kept R) : PSem R := semOf [none] (rawA r9_Kept_a (r9_Kept_h F))
theorem r9_Kept_e (m : Nat) (l0 : r9_Kept_V0 R) : r9_Kept_a.w _ (fun x κ => pFun tb (r9_Kept_G (R := R)) 0 [r9_Kept_X0 l0 m] [none] Try.f41 x.1 x.2 κ) = r9_Kept_h (r9_Kept_F m l0) := by kernel_rfl
theorem r9_Kept_k (m : Nat) : SemOK cxP 41 (r9_Kept_s (R := R) (r9_Kept m)) :=
 have HG : ∀ f, SemOK cxP f (r9_Kept_G (R := R) f) := tabG_ok .nil
 semOf_ok (rawA_ok C HG (fn_of Try.func41) rfl rfl (by kernel_rfl) (show loopsIn (bodyOf Try.f41) = [(lpC (bodyOf Try.f41) 0)] from by kernel_rfl) (.cons (r9_Kept_X0_k HG) (.nil _)) (r9_Kept_e m (r9_Kept_L0 m)))
def r9_sign_G : FuncId → PSem R := tabG []
def r9_sign_l1 : LpS := ⟨[(0, .any), (6, .any), (5, .any)], [], [(2, .any)]⟩
def r9_sign_a1 := aX (aC aS <| aC (aI .i64) <| aC aS <| aN) (aN)
def r9_sign_x1 := aQ (aX (aN) (aN))
def r9_sign_z1 := aX (aC aS <| aN) (aN)
theorem r9_sign_S1_e (m : Nat) (ρ : Kr R) (kx : Kx R) (kr : Kr R) : roundA tb (r9_sign_G) 0 Try.f45 (lpC (bodyOf Try.f45) 1) [] r9_sign_l1 r9_sign_a1 ρ kx kr = r9_sign_S1 m (r9_sign_a1.w _ (pr ρ)) (r9_sign_x1.w _ (pr (kx 2))) (r9_sign_z1.w _ (pr kr)) := by kernel_rfl
def r9_sign_X1 (l : r9_sign_V1 R) (m : Nat) : LoopH R := loopA r9_sign_l1 r9_sign_a1 fun kx kr => l (r9_sign_x1.w _ (pr (kx 2))) (r9_sign_z1.w _ (pr kr)) m
theorem r9_sign_X1_k {m : Nat} (HG : ∀ f, SemOK cxP f (r9_sign_G (R := R) f)) : LoopSem cxP Try.f45.ntmps 0 (lpC (bodyOf Try.f45) 1) (r9_sign_X1 (R := R) (r9_sign_L1 m) m) := loopA_ok C HG (by kernel_rfl) (show loopsIn (lpC (bodyOf Try.f45) 1) = [] from by kernel_rfl) (.nil _) m (fun _ _ => rfl) rfl (r9_sign_S1_e m)
def r9_sign_l0 : LpS := ⟨[(4, .any), (3, .any), (0, .any)], [(0, .any)], [(2, .any)]⟩
def r9_sign_a0 := aX (aC (aI .i64) <| aC (aO 0) <| aC aS <| aN) (aC (aA 2) <| aN)
def r9_sign_x0 := aX (aC aS <| aN) (aN)
def r9_sign_z0 := aX (aC aS <| aN) (aN)
theorem r9_sign_S0_e (m : Nat) (ρ : Kr R) (kx : Kx R) (kr : Kr R) : roundA tb (r9_sign_G) 0 Try.f45 (lpC (bodyOf Try.f45) 0) [] r9_sign_l0 r9_sign_a0 ρ kx kr = r9_sign_S0 m (r9_sign_a0.w _ (pr ρ)) (r9_sign_x0.w _ (pr (kx 0))) (r9_sign_z0.w _ (pr kr)) := by kernel_rfl
def r9_sign_X0 (l : r9_sign_V0 R) (m : Nat) : LoopH R := loopA r9_sign_l0 r9_sign_a0 fun kx kr => l (r9_sign_x0.w _ (pr (kx 0))) (r9_sign_z0.w _ (pr kr)) m
theorem r9_sign_X0_k {m : Nat} (HG : ∀ f, SemOK cxP f (r9_sign_G (R := R) f)) : LoopSem cxP Try.f45.ntmps 0 (lpC (bodyOf Try.f45) 0) (r9_sign_X0 (R := R) (r9_sign_L0 m) m) := loopA_ok C HG (by kernel_rfl) (show loopsIn (lpC (bodyOf Try.f45) 0) = [] from by kernel_rfl) (.nil _) m (fun _ _ => rfl) rfl (r9_sign_S0_e m)
def r9_sign_a := aX (aC aS <| aN) (aN)
def r9_sign_h (F : Y_r9_sign R) := fun a0 (κ : Ko R) => F a0 (fun r => κ (.str r) [])
def r9_sign_s (F : Y_r9_sign R) : PSem R := semOf [none] (rawA r9_sign_a (r9_sign_h F))
theorem r9_sign_e (m : Nat) (l0 : r9_sign_V0 R) (l1 : r9_sign_V1 R) : r9_sign_a.w _ (fun x κ => pFun tb (r9_sign_G (R := R)) 0 [r9_sign_X0 l0 m, r9_sign_X1 l1 m] [none] Try.f45 x.1 x.2 κ) = r9_sign_h (r9_sign_F m l0 l1) := by kernel_rfl
theorem r9_sign_k (m : Nat) : SemOK cxP 45 (r9_sign_s (R := R) (r9_sign m)) :=
 have HG : ∀ f, SemOK cxP f (r9_sign_G (R := R) f) := tabG_ok .nil
 semOf_ok (rawA_ok C HG (fn_of Try.func45) rfl rfl (by kernel_rfl) (show loopsIn (bodyOf Try.f45) = [(lpC (bodyOf Try.f45) 0), (lpC (bodyOf Try.f45) 1)] from by kernel_rfl) (.cons (r9_sign_X0_k HG) (.cons (r9_sign_X1_k HG) (.nil _))) (r9_sign_e m (r9_sign_L0 m) (r9_sign_L1 m)))
def r9p_w_a := aX (aC (aP 0 0) <| aN) (aC o7 <| aN)
def r9p_w_h (F : Y_r9p_w R) := fun o0 (κ : Ko R) => F o0 (fun r w0 => κ (.st 8 r) [w7 w0])
def r9p_w_s (F : Y_r9p_w R) : PSem R := semOf [none] (rawA r9p_w_a (r9p_w_h F))
theorem r9p_w_e (m : Nat) : r9p_w_a.w _ (fun x κ => pFun tb (tabG (R := R) []) 1 [] [some (false, 8)] Try.f46 x.1 x.2 κ) = r9p_w_h (r9p_w_F m) := by kernel_rfl
theorem r9p_w_k (m : Nat) : SemOK cxP 46 (r9p_w_s (R := R) (r9p_w m)) := semOf_ok (raw0 C (tabG_ok .nil) (fn_of Try.func46) rfl rfl (by kernel_rfl) (by kernel_rfl) (r9p_w_e m))
def typ_quotient_a := aX (aC (aI .i64) <| aC (aI .i64) <| aN) (aN)
def typ_quotient_h (F : Y_typ_quotient R) := fun a0 a1 (κ : Ko R) => F a0 a1 (fun r => κ (.int .i64 r) [])
def typ_quotient_s (F : Y_typ_quotient R) : PSem R := semOf [none, none] (rawA typ_quotient_a (typ_quotient_h F))
theorem typ_quotient_e (m : Nat) : typ_quotient_a.w _ (fun x κ => pFun tb (tabG (R := R) []) 0 [] [none] Try.f59 x.1 x.2 κ) = typ_quotient_h (typ_quotient_F m) := by kernel_rfl
theorem typ_quotient_k (m : Nat) : SemOK cxP 59 (typ_quotient_s (R := R) (typ_quotient m)) := semOf_ok (raw0 C (tabG_ok .nil) (fn_of Try.func59) rfl rfl (by kernel_rfl) (by kernel_rfl) (typ_quotient_e m))
def typ_ordered_a := aX (aC (aI .i64) <| aN) (aN)
def typ_ordered_h (F : Y_typ_ordered R) := fun a0 (κ : Ko R) => F a0 (fun r => κ (.bool r) [])
def typ_ordered_s (F : Y_typ_ordered R) : PSem R := semOf [none] (rawA typ_ordered_a (typ_ordered_h F))
theorem typ_ordered_e (m : Nat) : typ_ordered_a.w _ (fun x κ => pFun tb (tabG (R := R) []) 0 [] [none] Try.f60 x.1 x.2 κ) = typ_ordered_h (typ_ordered_F m) := by kernel_rfl
theorem typ_ordered_k (m : Nat) : SemOK cxP 60 (typ_ordered_s (R := R) (typ_ordered m)) := semOf_ok (raw0 C (tabG_ok .nil) (fn_of Try.func60) rfl rfl (by kernel_rfl) (by kernel_rfl) (typ_ordered_e m))
def mean_Fit_a := aX (aC (aI .i64) <| aC (aI .i64) <| aN) (aN)
def mean_Fit_h (F : Y_mean_Fit R) := fun a0 a1 (κ : Ko R) => F a0 a1 (fun r => κ (.bool r) [])
def mean_Fit_s (F : Y_mean_Fit R) : PSem R := semOf [none, none] (rawA mean_Fit_a (mean_Fit_h F))
theorem mean_Fit_e (m : Nat) : mean_Fit_a.w _ (fun x κ => pFun tb (tabG (R := R) []) 0 [] [none] Try.f61 x.1 x.2 κ) = mean_Fit_h (mean_Fit_F m) := by kernel_rfl
theorem mean_Fit_k (m : Nat) : SemOK cxP 61 (mean_Fit_s (R := R) (mean_Fit m)) := semOf_ok (raw0 C (tabG_ok .nil) (fn_of Try.func61) rfl rfl (by kernel_rfl) (by kernel_rfl) (mean_Fit_e m))
def num_Floor_a := aX (aC (aI .i64) <| aC (aI .i64) <| aN) (aN)
def num_Floor_h (F : Y_num_Floor R) := fun a0 a1 (κ : Ko R) => F a0 a1 (fun r_0 r_1 => κ (.tup [.int .i64 r_0, .bool r_1]) [])
def num_Floor_s (F : Y_num_Floor R) : PSem R := semOf [none, none] (rawA num_Floor_a (num_Floor_h F))
theorem num_Floor_e (m : Nat) : num_Floor_a.w _ (fun x κ => pFun tb (tabG (R := R) []) 0 [] [none, none] Try.f64 x.1 x.2 κ) = num_Floor_h (num_Floor_F m) := by kernel_rfl
theorem num_Floor_k (m : Nat) : SemOK cxP 64 (num_Floor_s (R := R) (num_Floor m)) := semOf_ok (raw0 C (tabG_ok .nil) (fn_of Try.func64) rfl rfl (by kernel_rfl) (by kernel_rfl) (num_Floor_e m))
def r9_number_G : FuncId → PSem R := tabG []
def r9_number_l0 : LpS := ⟨[(7, .any), (1, .any), (0, .any), (6, .any)], [(6, .any)], [(4, .any), (5, .any)]⟩
def r9_number_a0 := aX (aC (aI .i64) <| aC (aI .i64) <| aC aS <| aC (aI .i64) <| aN) (aN)
def r9_number_x0 := aX (aC (aI .i64) <| aN) (aN)
def r9_number_z0 := aX (aC (aI .i64) <| aC aB <| aN) (aN)
theorem r9_number_S0_e (m : Nat) (ρ : Kr R) (kx : Kx R) (kr : Kr R) : roundA tb (r9_number_G) 0 Try.f67 (lpC (bodyOf Try.f67) 0) [] r9_number_l0 r9_number_a0 ρ kx kr = r9_number_S0 m (r9_number_a0.w _ (pr ρ)) (r9_number_x0.w _ (pr (kx 0))) (r9_number_z0.w _ (pr kr)) := by kernel_rfl
def r9_number_X0 (l : r9_number_V0 R) (m : Nat) : LoopH R := loopA r9_number_l0 r9_number_a0 fun kx kr => l (r9_number_x0.w _ (pr (kx 0))) (r9_number_z0.w _ (pr kr)) m
theorem r9_number_X0_k {m : Nat} (HG : ∀ f, SemOK cxP f (r9_number_G (R := R) f)) : LoopSem cxP Try.f67.ntmps 0 (lpC (bodyOf Try.f67) 0) (r9_number_X0 (R := R) (r9_number_L0 m) m) := loopA_ok C HG (by kernel_rfl) (show loopsIn (lpC (bodyOf Try.f67) 0) = [] from by kernel_rfl) (.nil _) m (fun _ _ => rfl) rfl (r9_number_S0_e m)
def r9_number_a := aX (aC aS <| aC (aI .i64) <| aN) (aN)
def r9_number_h (F : Y_r9_number R) := fun a0 a1 (κ : Ko R) => F a0 a1 (fun r_0 r_1 => κ (.tup [.int .i64 r_0, .bool r_1]) [])
def r9_number_s (F : Y_r9_number R) : PSem R := semOf [none, none] (rawA r9_number_a (r9_number_h F))
theorem r9_number_e (m : Nat) (l0 : r9_number_V0 R) : r9_number_a.w _ (fun x κ => pFun tb (r9_number_G (R := R)) 0 [r9_number_X0 l0 m] [none, none] Try.f67 x.1 x.2 κ) = r9_number_h (r9_number_F m l0) := by kernel_rfl
theorem r9_number_k (m : Nat) : SemOK cxP 67 (r9_number_s (R := R) (r9_number m)) :=
 have HG : ∀ f, SemOK cxP f (r9_number_G (R := R) f) := tabG_ok .nil
 semOf_ok (rawA_ok C HG (fn_of Try.func67) rfl rfl (by kernel_rfl) (show loopsIn (bodyOf Try.f67) = [(lpC (bodyOf Try.f67) 0)] from by kernel_rfl) (.cons (r9_number_X0_k HG) (.nil _)) (r9_number_e m (r9_number_L0 m)))
def r9_Kind_G : FuncId → PSem R := tabG []
def r9_Kind_l0 : LpS := ⟨[(4, .any), (0, .any), (3, .any)], [], [(2, .any)]⟩
def r9_Kind_a0 := aX (aC (aI .i64) <| aC aS <| aC (aO 0) <| aN) (aC (aA 2) <| aN)
def r9_Kind_x0 := aQ (aX (aN) (aN))
def r9_Kind_z0 := aX (aC (aI .i64) <| aN) (aN)
theorem r9_Kind_S0_e (m : Nat) (ρ : Kr R) (kx : Kx R) (kr : Kr R) : roundA tb (r9_Kind_G) 0 Try.f68 (lpC (bodyOf Try.f68) 0) [] r9_Kind_l0 r9_Kind_a0 ρ kx kr = r9_Kind_S0 m (r9_Kind_a0.w _ (pr ρ)) (r9_Kind_x0.w _ (pr (kx 0))) (r9_Kind_z0.w _ (pr kr)) := by kernel_rfl
def r9_Kind_X0 (l : r9_Kind_V0 R) (m : Nat) : LoopH R := loopA r9_Kind_l0 r9_Kind_a0 fun kx kr => l (r9_Kind_x0.w _ (pr (kx 0))) (r9_Kind_z0.w _ (pr kr)) m
theorem r9_Kind_X0_k {m : Nat} (HG : ∀ f, SemOK cxP f (r9_Kind_G (R := R) f)) : LoopSem cxP Try.f68.ntmps 0 (lpC (bodyOf Try.f68) 0) (r9_Kind_X0 (R := R) (r9_Kind_L0 m) m) := loopA_ok C HG (by kernel_rfl) (show loopsIn (lpC (bodyOf Try.f68) 0) = [] from by kernel_rfl) (.nil _) m (fun _ _ => rfl) rfl (r9_Kind_S0_e m)
def r9_Kind_a := aX (aC aS <| aN) (aN)
def r9_Kind_h (F : Y_r9_Kind R) := fun a0 (κ : Ko R) => F a0 (fun r => κ (.int .i64 r) [])
def r9_Kind_s (F : Y_r9_Kind R) : PSem R := semOf [none] (rawA r9_Kind_a (r9_Kind_h F))
theorem r9_Kind_e (m : Nat) (l0 : r9_Kind_V0 R) : r9_Kind_a.w _ (fun x κ => pFun tb (r9_Kind_G (R := R)) 0 [r9_Kind_X0 l0 m] [none] Try.f68 x.1 x.2 κ) = r9_Kind_h (r9_Kind_F m l0) := by kernel_rfl
theorem r9_Kind_k (m : Nat) : SemOK cxP 68 (r9_Kind_s (R := R) (r9_Kind m)) :=
 have HG : ∀ f, SemOK cxP f (r9_Kind_G (R := R) f) := tabG_ok .nil
 semOf_ok (rawA_ok C HG (fn_of Try.func68) rfl rfl (by kernel_rfl) (show loopsIn (bodyOf Try.f68) = [(lpC (bodyOf Try.f68) 0)] from by kernel_rfl) (.cons (r9_Kind_X0_k HG) (.nil _)) (r9_Kind_e m (r9_Kind_L0 m)))
def r9p_out_a := aX (aC (aP 0 0) <| aN) (aC o7 <| aN)
def r9p_out_h (F : Y_r9p_out R) := fun o0 (κ : Ko R) => F o0 (fun w0 => κ (.tup []) [w7 w0])
def r9p_out_s (F : Y_r9p_out R) : PSem R := semOf [none] (rawA r9p_out_a (r9p_out_h F))
theorem r9p_out_e (m : Nat) : r9p_out_a.w _ (fun x κ => pFun tb (tabG (R := R) []) 1 [] [] Try.f71 x.1 x.2 κ) = r9p_out_h (r9p_out_F m) := by kernel_rfl
theorem r9p_out_k (m : Nat) : SemOK cxP 71 (r9p_out_s (R := R) (r9p_out m)) := semOf_ok (raw0 C (tabG_ok .nil) (fn_of Try.func71) rfl rfl (by kernel_rfl) (by kernel_rfl) (r9p_out_e m))
def typ_number_a := aX (aC (aI .i64) <| aN) (aN)
def typ_number_h (F : Y_typ_number R) := fun a0 (κ : Ko R) => F a0 (fun r => κ (.bool r) [])
def typ_number_s (F : Y_typ_number R) : PSem R := semOf [none] (rawA typ_number_a (typ_number_h F))
theorem typ_number_e (m : Nat) : typ_number_a.w _ (fun x κ => pFun tb (tabG (R := R) []) 0 [] [none] Try.f73 x.1 x.2 κ) = typ_number_h (typ_number_F m) := by kernel_rfl
theorem typ_number_k (m : Nat) : SemOK cxP 73 (typ_number_s (R := R) (typ_number m)) := semOf_ok (raw0 C (tabG_ok .nil) (fn_of Try.func73) rfl rfl (by kernel_rfl) (by kernel_rfl) (typ_number_e m))
def num_narrow_a := aX (aC (aT 9) <| aN) (aN)
def num_narrow_h (F : Y_num_narrow R) := fun a0 (κ : Ko R) => F a0 (fun r_0 r_1 => κ (.tup [.int .i64 r_0, .bool r_1]) [])
def num_narrow_s (F : Y_num_narrow R) : PSem R := semOf [some (false, 9)] (rawA num_narrow_a (num_narrow_h F))
theorem num_narrow_e (m : Nat) : num_narrow_a.w _ (fun x κ => pFun tb (tabG (R := R) []) 0 [] [none, none] Try.f74 x.1 x.2 κ) = num_narrow_h (num_narrow_F m) := by kernel_rfl
theorem num_narrow_k (m : Nat) : SemOK cxP 74 (num_narrow_s (R := R) (num_narrow m)) := semOf_ok (raw0 C (tabG_ok .nil) (fn_of Try.func74) rfl rfl (by kernel_rfl) (by kernel_rfl) (num_narrow_e m))
def b_Mul64_a := aX (aC (aI .u64) <| aC (aI .u64) <| aN) (aN)
def b_Mul64_h (F : Y_b_Mul64 R) := fun a0 a1 (κ : Ko R) => F a0 a1 (fun r_0 r_1 => κ (.tup [.int .u64 r_0, .int .u64 r_1]) [])
def b_Mul64_s (F : Y_b_Mul64 R) : PSem R := semOf [none, none] (rawA b_Mul64_a (b_Mul64_h F))
theorem b_Mul64_e (m : Nat) : b_Mul64_a.w _ (fun x κ => pFun tb (tabG (R := R) []) 0 [] [none, none] Try.f79 x.1 x.2 κ) = b_Mul64_h (b_Mul64_F m) := by kernel_rfl
theorem b_Mul64_k (m : Nat) : SemOK cxP 79 (b_Mul64_s (R := R) (b_Mul64 m)) := semOf_ok (raw0 C (tabG_ok .nil) (fn_of Try.func79) rfl rfl (by kernel_rfl) (by kernel_rfl) (b_Mul64_e m))
def num_Of_a := aX (aC (aI .i64) <| aN) (aN)
def num_Of_h (F : Y_num_Of R) := fun a0 (κ : Ko R) => F a0 (fun r => κ (.st 9 r) [])
def num_Of_s (F : Y_num_Of R) : PSem R := semOf [none] (rawA num_Of_a (num_Of_h F))
theorem num_Of_e (m : Nat) : num_Of_a.w _ (fun x κ => pFun tb (tabG (R := R) []) 0 [] [some (false, 9)] Try.f83 x.1 x.2 κ) = num_Of_h (num_Of_F m) := by kernel_rfl
theorem num_Of_k (m : Nat) : SemOK cxP 83 (num_Of_s (R := R) (num_Of m)) := semOf_ok (raw0 C (tabG_ok .nil) (fn_of Try.func83) rfl rfl (by kernel_rfl) (by kernel_rfl) (num_Of_e m))
def b_Len64_a := aX (aC (aI .u64) <| aN) (aN)
def b_Len64_h (F : Y_b_Len64 R) := fun a0 (κ : Ko R) => F a0 (fun r => κ (.int .i64 r) [])
def b_Len64_s (F : Y_b_Len64 R) : PSem R := semOf [none] (rawA b_Len64_a (b_Len64_h F))
theorem b_Len64_e (m : Nat) : b_Len64_a.w _ (fun x κ => pFun tb (tabG (R := R) []) 0 [] [none] Try.f89 x.1 x.2 κ) = b_Len64_h (b_Len64_F m) := by kernel_rfl
theorem b_Len64_k (m : Nat) : SemOK cxP 89 (b_Len64_s (R := R) (b_Len64 m)) := semOf_ok (raw0 C (tabG_ok .nil) (fn_of Try.func89) rfl rfl (by kernel_rfl) (by kernel_rfl) (b_Len64_e m))
def syn_Same_a := aX (aC (aT 4) <| aC (aT 4) <| aN) (aN)
def syn_Same_h (F : Y_syn_Same R) := fun a0 a1 (κ : Ko R) => F a0 a1 (fun r => κ (.bool r) [])
def syn_Same_w (F : Y_syn_Same R) : PSem R := rawA syn_Same_a (syn_Same_h F)
def syn_Same_s (F : Y_syn_Same R) : PSem R := semOf [some (false, 4), some (false, 4)] (syn_Same_w F)
def slices_EqualFunc_a := aX (aC (aL 4) <| aC (aL 4) <| aC (aF 8) <| aN) (aN)
def slices_EqualFunc_h (F : Y_slices_EqualFunc R) := fun a0 a1 (κ : Ko R) => F a0 a1 (fun r => κ (.bool r) [])
def slices_EqualFunc_w (F : Y_slices_EqualFunc R) : PSem R := rawA slices_EqualFunc_a (slices_EqualFunc_h F)
def slices_EqualFunc_s (F : Y_slices_EqualFunc R) : PSem R := semOf [some (true, 4), some (true, 4), none] (slices_EqualFunc_w F)
structure G_syn_SameOK (g : G_syn_Same R) : Prop where
  syn_Same : SemOK cxP 8 (syn_Same_s g.syn_Same)
  slices_EqualFunc : SemOK cxP 17 (slices_EqualFunc_s g.slices_EqualFunc)
end
end Go.Pm
namespace Go.Pm
open Go Go.EvM Go.Pv Go.Proofs
set_option maxRecDepth 100000
set_option linter.unusedVariables false
set_option linter.unusedSectionVars false
noncomputable section
variable {R : Type}
def syn_Same_G (c0 : Y_slices_EqualFunc R) : FuncId → PSem R := tabG [(17, slices_EqualFunc_s c0)]
theorem syn_Same_e (m : Nat) (c0 : Y_slices_EqualFunc R) : syn_Same_a.w _ (fun x κ => pFun tb (syn_Same_G (R := R) c0) 0 [] [none] Try.f8 x.1 x.2 κ) = syn_Same_h (syn_Same_F m c0) := by kernel_rfl
theorem syn_Same_st (m : Nat) (g : G_syn_Same R) (hg : G_syn_SameOK g) : SemC cxP 8 (syn_Same_w (syn_Same_B m g)) :=
 have HG : ∀ f, SemOK cxP f (syn_Same_G (R := R) g.slices_EqualFunc f) := tabG_ok (.cons hg.slices_EqualFunc .nil)
 rawA_ok C HG (fn_of Try.func8) rfl rfl (by kernel_rfl) (show loopsIn (bodyOf Try.f8) = [] from by kernel_rfl) (.nil _) (syn_Same_e m g.slices_EqualFunc)
theorem syn_Same_zz : SemC cxP 8 (syn_Same_w (R := R) fun _ _ _ => none) := rawA_z rfl
def slices_EqualFunc_G (c0 : Y_syn_Same R) : FuncId → PSem R := tabG [(8, syn_Same_s c0)]
def slices_EqualFunc_l0 : LpS := ⟨[(17, .any), (2, .any), (1, .any), (15, .any), (16, .any)], [], [(6, .any)]⟩
def slices_EqualFunc_a0 := aX (aC (aI .i64) <| aC (aF 8) <| aC (aL 4) <| aC (aL 4) <| aC (aI .i64) <| aN) (aN)
def slices_EqualFunc_x0 := aQ (aX (aN) (aN))
def slices_EqualFunc_z0 := aX (aC aB <| aN) (aN)
theorem slices_EqualFunc_S0_e (m : Nat) (c0 : Y_syn_Same R) (ρ : Kr R) (kx : Kx R) (kr : Kr R) : roundA tb (slices_EqualFunc_G c0) 0 Try.f17 (lpC (bodyOf Try.f17) 0) [] slices_EqualFunc_l0 slices_EqualFunc_a0 ρ kx kr = slices_EqualFunc_S0 m c0 (slices_EqualFunc_a0.w _ (pr ρ)) (slices_EqualFunc_x0.w _ (pr (kx 0))) (slices_EqualFunc_z0.w _ (pr kr)) := by kernel_rfl
def slices_EqualFunc_X0 (l : slices_EqualFunc_V0 R) (m : Nat) : LoopH R := loopA slices_EqualFunc_l0 slices_EqualFunc_a0 fun kx kr => l (slices_EqualFunc_x0.w _ (pr (kx 0))) (slices_EqualFunc_z0.w _ (pr kr)) m
theorem slices_EqualFunc_X0_k {m : Nat} {c0 : Y_syn_Same R} (HG : ∀ f, SemOK cxP f (slices_EqualFunc_G (R := R) c0 f)) : LoopSem cxP Try.f17.ntmps 0 (lpC (bodyOf Try.f17) 0) (slices_EqualFunc_X0 (R := R) (slices_EqualFunc_L0 m c0) m) := loopA_ok C HG (by kernel_rfl) (show loopsIn (lpC (bodyOf Try.f17) 0) = [] from by kernel_rfl) (.nil _) m (fun _ _ => rfl) rfl (slices_EqualFunc_S0_e m c0)
theorem slices_EqualFunc_e (m : Nat) (c0 : Y_syn_Same R) (l0 : slices_EqualFunc_V0 R) : slices_EqualFunc_a.w _ (fun x κ => pFun tb (slices_EqualFunc_G (R := R) c0) 0 [slices_EqualFunc_X0 l0 m] [none] Try.f17 x.1 x.2 κ) = slices_EqualFunc_h (slices_EqualFunc_F m l0) := by kernel_rfl
theorem slices_EqualFunc_st (m : Nat) (g : G_syn_Same R) (hg : G_syn_SameOK g) : SemC cxP 17 (slices_EqualFunc_w (slices_EqualFunc_B m g)) :=
 have HG : ∀ f, SemOK cxP f (slices_EqualFunc_G (R := R) g.syn_Same f) := tabG_ok (.cons hg.syn_Same .nil)
 rawA_ok C HG (fn_of Try.func17) rfl rfl (by kernel_rfl) (show loopsIn (bodyOf Try.f17) = [(lpC (bodyOf Try.f17) 0)] from by kernel_rfl) (.cons (slices_EqualFunc_X0_k HG) (.nil _)) (slices_EqualFunc_e m g.syn_Same (slices_EqualFunc_L0 m g.syn_Same))
theorem slices_EqualFunc_zz : SemC cxP 17 (slices_EqualFunc_w (R := R) fun _ _ _ => none) := rawA_z rfl
theorem G_syn_Same_ok : ∀ m, G_syn_SameOK (G_syn_Same_r (R := R) m)
  | 0 => ⟨semOf_ok syn_Same_zz, semOf_ok slices_EqualFunc_zz⟩
  | j + 1 => ⟨semOf_ok (syn_Same_st j _ (G_syn_Same_ok j)), semOf_ok (slices_EqualFunc_st j _ (G_syn_Same_ok j))⟩
theorem syn_Same_k (m : Nat) : SemOK cxP 8 (syn_Same_s (R := R) (syn_Same m)) := (G_syn_Same_ok m).syn_Same
theorem slices_EqualFunc_k (m : Nat) : SemOK cxP 17 (slices_EqualFunc_s (R := R) (slices_EqualFunc m)) := (G_syn_Same_ok m).slices_EqualFunc
def r9_digitsOf_G (c0 : Y_r1_Text R) : FuncId → PSem R := tabG [(11, r1_Text_s c0)]
def r9_digitsOf_l0 : LpS := ⟨[(5, .any), (1, .any)], [(5, .any)], []⟩
def r9_digitsOf_a0 := aX (aC aS <| aC (aI .i64) <| aN) (aN)
def r9_digitsOf_x0 := aX (aC aS <| aN) (aN)
theorem r9_digitsOf_S0_e (m : Nat) (c0 : Y_r1_Text R) (ρ : Kr R) (kx : Kx R) (kr : Kr R) : roundA tb (r9_digitsOf_G c0) 0 Try.f12 (lpC (bodyOf Try.f12) 0) [] r9_digitsOf_l0 r9_digitsOf_a0 ρ kx kr = r9_digitsOf_S0 m (r9_digitsOf_a0.w _ (pr ρ)) (r9_digitsOf_x0.w _ (pr (kx 0))) := by kernel_rfl
def r9_digitsOf_X0 (l : r9_digitsOf_V0 R) (m : Nat) : LoopH R := loopA r9_digitsOf_l0 r9_digitsOf_a0 fun kx kr => l (r9_digitsOf_x0.w _ (pr (kx 0))) m
theorem r9_digitsOf_X0_k {m : Nat} {c0 : Y_r1_Text R} (HG : ∀ f, SemOK cxP f (r9_digitsOf_G (R := R) c0 f)) : LoopSem cxP Try.f12.ntmps 0 (lpC (bodyOf Try.f12) 0) (r9_digitsOf_X0 (R := R) (r9_digitsOf_L0 m) m) := loopA_ok C HG (by kernel_rfl) (show loopsIn (lpC (bodyOf Try.f12) 0) = [] from by kernel_rfl) (.nil _) m (fun _ _ => rfl) rfl (r9_digitsOf_S0_e m c0)
def r9_digitsOf_a := aX (aC (aI .i64) <| aC (aI .i64) <| aN) (aN)
def r9_digitsOf_h (F : Y_r9_digitsOf R) := fun a0 a1 (κ : Ko R) => F a0 a1 (fun r => κ (.str r) [])
def r9_digitsOf_s (F : Y_r9_digitsOf R) : PSem R := semOf [none, none] (rawA r9_digitsOf_a (r9_digitsOf_h F))
theorem r9_digitsOf_e (m : Nat) (c0 : Y_r1_Text R) (l0 : r9_digitsOf_V0 R) : r9_digitsOf_a.w _ (fun x κ => pFun tb (r9_digitsOf_G (R := R) c0) 0 [r9_digitsOf_X0 l0 m] [none] Try.f12 x.1 x.2 κ) = r9_digitsOf_h (r9_digitsOf_F m c0 l0) := by kernel_rfl
theorem r9_digitsOf_k (m : Nat) : SemOK cxP 12 (r9_digitsOf_s (R := R) (r9_digitsOf m)) :=
 have HG : ∀ f, SemOK cxP f (r9_digitsOf_G (R := R) (r1_Text m) f) := tabG_ok (.cons (r1_Text_k m) .nil)
 semOf_ok (rawA_ok C HG (fn_of Try.func12) rfl rfl (by kernel_rfl) (show loopsIn (bodyOf Try.f12) = [(lpC (bodyOf Try.f12) 0)] from by kernel_rfl) (.cons (r9_digitsOf_X0_k HG) (.nil _)) (r9_digitsOf_e m (r1_Text m) (r9_digitsOf_L0 m)))
def slices_IndexFunc_G (c0 : Y_fold_Expr_1 R) : FuncId → PSem R := tabG [(20, fold_Expr_1_s c0)]
def slices_IndexFunc_l0 : LpS := ⟨[(8, .any), (0, .any), (1, .any), (7, .any)], [], [(4, .any)]⟩
def slices_IndexFunc_a0 := aX (aC (aI .i64) <| aC (aL 4) <| aC (aF 20) <| aC (aI .i64) <| aN) (aN)
def slices_IndexFunc_x0 := aQ (aX (aN) (aN))
def slices_IndexFunc_z0 := aX (aC (aI .i64) <| aN) (aN)
theorem slices_IndexFunc_S0_e (m : Nat) (c0 : Y_fold_Expr_1 R) (ρ : Kr R) (kx : Kx R) (kr : Kr R) : roundA tb (slices_IndexFunc_G c0) 0 Try.f28 (lpC (bodyOf Try.f28) 0) [] slices_IndexFunc_l0 slices_IndexFunc_a0 ρ kx kr = slices_IndexFunc_S0 m c0 (slices_IndexFunc_a0.w _ (pr ρ)) (slices_IndexFunc_x0.w _ (pr (kx 0))) (slices_IndexFunc_z0.w _ (pr kr)) := by kernel_rfl
def slices_IndexFunc_X0 (l : slices_IndexFunc_V0 R) (m : Nat) : LoopH R := loopA slices_IndexFunc_l0 slices_IndexFunc_a0 fun kx kr => l (slices_IndexFunc_x0.w _ (pr (kx 0))) (slices_IndexFunc_z0.w _ (pr kr)) m
theorem slices_IndexFunc_X0_k {m : Nat} {c0 : Y_fold_Expr_1 R} (HG : ∀ f, SemOK cxP f (slices_IndexFunc_G (R := R) c0 f)) : LoopSem cxP Try.f28.ntmps 0 (lpC (bodyOf Try.f28) 0) (slices_IndexFunc_X0 (R := R) (slices_IndexFunc_L0 m c0) m) := loopA_ok C HG (by kernel_rfl) (show loopsIn (lpC (bodyOf Try.f28) 0) = [] from by kernel_rfl) (.nil _) m (fun _ _ => rfl) rfl (slices_IndexFunc_S0_e m c0)
def slices_IndexFunc_a := aX (aC (aL 4) <| aC (aF 20) <| aN) (aN)
def slices_IndexFunc_h (F : Y_slices_IndexFunc R) := fun a0 (κ : Ko R) => F a0 (fun r => κ (.int .i64 r) [])
def slices_IndexFunc_s (F : Y_slices_IndexFunc R) : PSem R := semOf [some (true, 4), none] (rawA slices_IndexFunc_a (slices_IndexFunc_h F))
theorem slices_IndexFunc_e (m : Nat) (c0 : Y_fold_Expr_1 R) (l0 : slices_IndexFunc_V0 R) : slices_IndexFunc_a.w _ (fun x κ => pFun tb (slices_IndexFunc_G (R := R) c0) 0 [slices_IndexFunc_X0 l0 m] [none] Try.f28 x.1 x.2 κ) = slices_IndexFunc_h (slices_IndexFunc_F m l0) := by kernel_rfl
theorem slices_IndexFunc_k (m : Nat) : SemOK cxP 28 (slices_IndexFunc_s (R := R) (slices_IndexFunc m)) :=
 have HG : ∀ f, SemOK cxP f (slices_IndexFunc_G (R := R) (fold_Expr_1 m) f) := tabG_ok (.cons (fold_Expr_1_k m) .nil)
 semOf_ok (rawA_ok C HG (fn_of Try.func28) rfl rfl (by kernel_rfl) (show loopsIn (bodyOf Try.f28) = [(lpC (bodyOf Try.f28) 0)] from by kernel_rfl) (.cons (slices_IndexFunc_X0_k HG) (.nil _)) (slices_IndexFunc_e m (fold_Expr_1 m) (slices_IndexFunc_L0 m (fold_Expr_1 m))))
def mean_made_a := aX (aC (aI .i64) <| aC (aI .i64) <| aC aB <| aN) (aN)
def mean_made_h (F : Y_mean_made R) := fun a0 a1 a2 (κ : Ko R) => F a0 a1 a2 (fun r_0 r_1 => κ (.tup [.st 6 r_0, .int .i64 r_1]) [])
def mean_made_s (F : Y_mean_made R) : PSem R := semOf [none, none, none] (rawA mean_made_a (mean_made_h F))
theorem mean_made_e (m : Nat) (c0 : Y_mean_Fit R) : mean_made_a.w _ (fun x κ => pFun tb (tabG (R := R) [(61, mean_Fit_s c0)]) 0 [] [some (false, 6), none] Try.f32 x.1 x.2 κ) = mean_made_h (mean_made_F m c0) := by kernel_rfl
theorem mean_made_k (m : Nat) : SemOK cxP 32 (mean_made_s (R := R) (mean_made m)) := semOf_ok (raw0 C (tabG_ok (.cons (mean_Fit_k m) .nil)) (fn_of Try.func32) rfl rfl (by kernel_rfl) (by kernel_rfl) (mean_made_e m (mean_Fit m)))
def r1_Days_a := aX (aC (aI .i64) <| aC (aI .i64) <| aN) (aN)
def r1_Days_h (F : Y_r1_Days R) := fun a0 a1 (κ : Ko R) => F a0 a1 (fun r => κ (.int .i64 r) [])
def r1_Days_s (F : Y_r1_Days R) : PSem R := semOf [none, none] (rawA r1_Days_a (r1_Days_h F))
theorem r1_Days_e (m : Nat) (c0 : Y_r1_Leap R) : r1_Days_a.w _ (fun x κ => pFun tb (tabG (R := R) [(37, r1_Leap_s c0)]) 0 [] [none] Try.f38 x.1 x.2 κ) = r1_Days_h (r1_Days_F m c0) := by kernel_rfl
theorem r1_Days_k (m : Nat) : SemOK cxP 38 (r1_Days_s (R := R) (r1_Days m)) := semOf_ok (raw0 C (tabG_ok (.cons (r1_Leap_k m) .nil)) (fn_of Try.func38) rfl rfl (by kernel_rfl) (by kernel_rfl) (r1_Days_e m (r1_Leap m)))
def r9_run_G (c0 : Y_r9_digit R) : FuncId → PSem R := tabG [(40, r9_digit_s c0)]
def r9_run_l0 : LpS := ⟨[(5, .any), (1, .any), (0, .any)], [(5, .any)], []⟩
def r9_run_a0 := aX (aC (aI .i64) <| aC (aI .i64) <| aC aS <| aN) (aN)
def r9_run_x0 := aX (aC (aI .i64) <| aN) (aN)
theorem r9_run_S0_e (m : Nat) (c0 : Y_r9_digit R) (ρ : Kr R) (kx : Kx R) (kr : Kr R) : roundA tb (r9_run_G c0) 0 Try.f43 (lpC (bodyOf Try.f43) 0) [] r9_run_l0 r9_run_a0 ρ kx kr = r9_run_S0 m c0 (r9_run_a0.w _ (pr ρ)) (r9_run_x0.w _ (pr (kx 0))) := by kernel_rfl
def r9_run_X0 (l : r9_run_V0 R) (m : Nat) : LoopH R := loopA r9_run_l0 r9_run_a0 fun kx kr => l (r9_run_x0.w _ (pr (kx 0))) m
theorem r9_run_X0_k {m : Nat} {c0 : Y_r9_digit R} (HG : ∀ f, SemOK cxP f (r9_run_G (R := R) c0 f)) : LoopSem cxP Try.f43.ntmps 0 (lpC (bodyOf Try.f43) 0) (r9_run_X0 (R := R) (r9_run_L0 m c0) m) := loopA_ok C HG (by kernel_rfl) (show loopsIn (lpC (bodyOf Try.f43) 0) = [] from by kernel_rfl) (.nil _) m (fun _ _ => rfl) rfl (r9_run_S0_e m c0)
def r9_run_a := aX (aC aS <| aC (aI .i64) <| aN) (aN)
def r9_run_h (F : Y_r9_run R) := fun a0 a1 (κ : Ko R) => F a0 a1 (fun r => κ (.int .i64 r) [])
def r9_run_s (F : Y_r9_run R) : PSem R := semOf [none, none] (rawA r9_run_a (r9_run_h F))
theorem r9_run_e (m : Nat) (c0 : Y_r9_digit R) (l0 : r9_run_V0 R) : r9_run_a.w _ (fun x κ => pFun tb (r9_run_G (R := R) c0) 0 [r9_run_X0 l0 m] [none] Try.f43 x.1 x.2 κ) = r9_run_h (r9_run_F m l0) := by kernel_rfl
theorem r9_run_k (m : Nat) : SemOK cxP 43 (r9_run_s (R := R) (r9_run m)) :=
 have HG : ∀ f, SemOK cxP f (r9_run_G (R := R) (r9_digit m) f) := tabG_ok (.cons (r9_digit_k m) .nil)
 semOf_ok (rawA_ok C HG (fn_of Try.func43) rfl rfl (by kernel_rfl) (show loopsIn (bodyOf Try.f43) = [(lpC (bodyOf Try.f43) 0)] from by kernel_rfl) (.cons (r9_run_X0_k HG) (.nil _)) (r9_run_e m (r9_digit m) (r9_run_L0 m (r9_digit m))))
def r9_money_a := aX (aC aS <| aC aS <| aN) (aN)
def r9_money_h (F : Y_r9_money R) := fun a0 a1 (κ : Ko R) => F a0 a1 (fun r_0 r_1 => κ (.tup [.int .i64 r_0, .bool r_1]) [])
def r9_money_s (F : Y_r9_money R) : PSem R := semOf [none, none] (rawA r9_money_a (r9_money_h F))
theorem r9_money_e (m : Nat) (c0 : Y_r9_number R) : r9_money_a.w _ (fun x κ => pFun tb (tabG (R := R) [(67, r9_number_s c0)]) 0 [] [none, none] Try.f44 x.1 x.2 κ) = r9_money_h (r9_money_F m c0) := by kernel_rfl
theorem r9_money_k (m : Nat) : SemOK cxP 44 (r9_money_s (R := R) (r9_money m)) := semOf_ok (raw0 C (tabG_ok (.cons (r9_number_k m) .nil)) (fn_of Try.func44) rfl rfl (by kernel_rfl) (by kernel_rfl) (r9_money_e m (r9_number m)))
def r9p_is_a := aX (aC (aP 0 0) <| aC aS <| aN) (aC o7 <| aN)
def r9p_is_h (F : Y_r9p_is R) := fun a1 o0 (κ : Ko R) => F o0 a1 (fun r w0 => κ (.bool r) [w7 w0])
def r9p_is_s (F : Y_r9p_is R) : PSem R := semOf [none, none] (rawA r9p_is_a (r9p_is_h F))
theorem r9p_is_e (m : Nat) (c0 : Y_r9p_w R) : r9p_is_a.w _ (fun x κ => pFun tb (tabG (R := R) [(46, r9p_w_s c0)]) 1 [] [none] Try.f52 x.1 x.2 κ) = r9p_is_h (r9p_is_F m c0) := by kernel_rfl
theorem r9p_is_k (m : Nat) : SemOK cxP 52 (r9p_is_s (R := R) (r9p_is m)) := semOf_ok (raw0 C (tabG_ok (.cons (r9p_w_k m) .nil)) (fn_of Try.func52) rfl rfl (by kernel_rfl) (by kernel_rfl) (r9p_is_e m (r9p_w m)))
def r9p_limit_a := aX (aC (aP 0 0) <| aN) (aC o7 <| aN)
def r9p_limit_h (F : Y_r9p_limit R) := fun o0 (κ : Ko R) => F o0 (fun w0 => κ (.tup []) [w7 w0])
def r9p_limit_s (F : Y_r9p_limit R) : PSem R := semOf [none] (rawA r9p_limit_a (r9p_limit_h F))
theorem r9p_limit_e (m : Nat) (c0 : Y_r9p_w R) : r9p_limit_a.w _ (fun x κ => pFun tb (tabG (R := R) [(46, r9p_w_s c0)]) 1 [] [] Try.f53 x.1 x.2 κ) = r9p_limit_h (r9p_limit_F m c0) := by kernel_rfl
theorem r9p_limit_k (m : Nat) : SemOK cxP 53 (r9p_limit_s (R := R) (r9p_limit m)) := semOf_ok (raw0 C (tabG_ok (.cons (r9p_w_k m) .nil)) (fn_of Try.func53) rfl rfl (by kernel_rfl) (by kernel_rfl) (r9p_limit_e m (r9p_w m)))
def r9p_fail_a := aX (aC (aP 0 0) <| aN) (aC o7 <| aN)
def r9p_fail_h (F : Y_r9p_fail R) := fun o0 (κ : Ko R) => F o0 (fun w0 => κ (.tup []) [w7 w0])
def r9p_fail_s (F : Y_r9p_fail R) : PSem R := semOf [none] (rawA r9p_fail_a (r9p_fail_h F))
theorem r9p_fail_e (m : Nat) (c0 : Y_r9p_w R) : r9p_fail_a.w _ (fun x κ => pFun tb (tabG (R := R) [(46, r9p_w_s c0)]) 1 [] [] Try.f55 x.1 x.2 κ) = r9p_fail_h (r9p_fail_F m c0) := by kernel_rfl
theorem r9p_fail_k (m : Nat) : SemOK cxP 55 (r9p_fail_s (R := R) (r9p_fail m)) := semOf_ok (raw0 C (tabG_ok (.cons (r9p_w_k m) .nil)) (fn_of Try.func55) rfl rfl (by kernel_rfl) (by kernel_rfl) (r9p_fail_e m (r9p_w m)))
def typ_One_a := aX (aC aS <| aC (aI .i64) <| aN) (aN)
def typ_One_h (F : Y_typ_One R) := fun a0 a1 (κ : Ko R) => F a0 a1 (fun r => κ (.int .i64 r) [])
def typ_One_s (F : Y_typ_One R) : PSem R := semOf [none, none] (rawA typ_One_a (typ_One_h F))
theorem typ_One_e (m : Nat) (c0 : Y_typ_number R) : typ_One_a.w _ (fun x κ => pFun tb (tabG (R := R) [(73, typ_number_s c0)]) 0 [] [none] Try.f56 x.1 x.2 κ) = typ_One_h (typ_One_F m c0) := by kernel_rfl
theorem typ_One_k (m : Nat) : SemOK cxP 56 (typ_One_s (R := R) (typ_One m)) := semOf_ok (raw0 C (tabG_ok (.cons (typ_number_k m) .nil)) (fn_of Try.func56) rfl rfl (by kernel_rfl) (by kernel_rfl) (typ_One_e m (typ_number m)))
def typ_sum_a := aX (aC aS <| aC (aI .i64) <| aC (aI .i64) <| aN) (aN)
def typ_sum_h (F : Y_typ_sum R) := fun a0 a1 a2 (κ : Ko R) => F a0 a1 a2 (fun r => κ (.int .i64 r) [])
def typ_sum_s (F : Y_typ_sum R) : PSem R := semOf [none, none, none] (rawA typ_sum_a (typ_sum_h F))
theorem typ_sum_e (m : Nat) (c0 : Y_typ_number R) : typ_sum_a.w _ (fun x κ => pFun tb (tabG (R := R) [(73, typ_number_s c0)]) 0 [] [none] Try.f57 x.1 x.2 κ) = typ_sum_h (typ_sum_F m c0) := by kernel_rfl
theorem typ_sum_k (m : Nat) : SemOK cxP 57 (typ_sum_s (R := R) (typ_sum m)) := semOf_ok (raw0 C (tabG_ok (.cons (typ_number_k m) .nil)) (fn_of Try.func57) rfl rfl (by kernel_rfl) (by kernel_rfl) (typ_sum_e m (typ_number m)))
def typ_product_a := aX (aC (aI .i64) <| aC (aI .i64) <| aN) (aN)
def typ_product_h (F : Y_typ_product R) := fun a0 a1 (κ : Ko R) => F a0 a1 (fun r => κ (.int .i64 r) [])
def typ_product_s (F : Y_typ_product R) : PSem R := semOf [none, none] (rawA typ_product_a (typ_product_h F))
theorem typ_product_e (m : Nat) (c0 : Y_typ_number R) : typ_product_a.w _ (fun x κ => pFun tb (tabG (R := R) [(73, typ_number_s c0)]) 0 [] [none] Try.f58 x.1 x.2 κ) = typ_product_h (typ_product_F m c0) := by kernel_rfl
theorem typ_product_k (m : Nat) : SemOK cxP 58 (typ_product_s (R := R) (typ_product m)) := semOf_ok (raw0 C (tabG_ok (.cons (typ_number_k m) .nil)) (fn_of Try.func58) rfl rfl (by kernel_rfl) (by kernel_rfl) (typ_product_e m (typ_number m)))
def r9_percent_G (c0 : Y_r9_number R) : FuncId → PSem R := tabG [(67, r9_number_s c0)]
def r9_percent_l0 : LpS := ⟨[(1, .any), (0, .any)], [(1, .any), (0, .any)], []⟩
def r9_percent_a0 := aX (aC aS <| aC aS <| aN) (aN)
def r9_percent_x0 := aX (aC aS <| aC aS <| aN) (aN)
theorem r9_percent_S0_e (m : Nat) (c0 : Y_r9_number R) (ρ : Kr R) (kx : Kx R) (kr : Kr R) : roundA tb (r9_percent_G c0) 0 Try.f66 (lpC (bodyOf Try.f66) 0) [] r9_percent_l0 r9_percent_a0 ρ kx kr = r9_percent_S0 m (r9_percent_a0.w _ (pr ρ)) (r9_percent_x0.w _ (pr (kx 0))) := by kernel_rfl
def r9_percent_X0 (l : r9_percent_V0 R) (m : Nat) : LoopH R := loopA r9_percent_l0 r9_percent_a0 fun kx kr => l (r9_percent_x0.w _ (pr (kx 0))) m
theorem r9_percent_X0_k {m : Nat} {c0 : Y_r9_number R} (HG : ∀ f, SemOK cxP f (r9_percent_G (R := R) c0 f)) : LoopSem cxP Try.f66.ntmps 0 (lpC (bodyOf Try.f66) 0) (r9_percent_X0 (R := R) (r9_percent_L0 m) m) := loopA_ok C HG (by kernel_rfl) (show loopsIn (lpC (bodyOf Try.f66) 0) = [] from by kernel_rfl) (.nil _) m (fun _ _ => rfl) rfl (r9_percent_S0_e m c0)
def r9_percent_a := aX (aC aS <| aC aS <| aN) (aN)
def r9_percent_h (F : Y_r9_percent R) := fun a0 a1 (κ : Ko R) => F a0 a1 (fun r_0 r_1 => κ (.tup [.int .i64 r_0, .bool r_1]) [])
def r9_percent_s (F : Y_r9_percent R) : PSem R := semOf [none, none] (rawA r9_percent_a (r9_percent_h F))
theorem r9_percent_e (m : Nat) (c0 : Y_r9_number R) (l0 : r9_percent_V0 R) : r9_percent_a.w _ (fun x κ => pFun tb (r9_percent_G (R := R) c0) 0 [r9_percent_X0 l0 m] [none, none] Try.f66 x.1 x.2 κ) = r9_percent_h (r9_percent_F m c0 l0) := by kernel_rfl
theorem r9_percent_k (m : Nat) : SemOK cxP 66 (r9_percent_s (R := R) (r9_percent m)) :=
 have HG : ∀ f, SemOK cxP f (r9_percent_G (R := R) (r9_number m) f) := tabG_ok (.cons (r9_number_k m) .nil)
 semOf_ok (rawA_ok C HG (fn_of Try.func66) rfl rfl (by kernel_rfl) (show loopsIn (bodyOf Try.f66) = [(lpC (bodyOf Try.f66) 0)] from by kernel_rfl) (.cons (r9_percent_X0_k HG) (.nil _)) (r9_percent_e m (r9_number m) (r9_percent_L0 m)))
def num_product_a := aX (aC (aI .i64) <| aC (aI .i64) <| aN) (aN)
def num_product_h (F : Y_num_product R) := fun a0 a1 (κ : Ko R) => F a0 a1 (fun r => κ (.st 9 r) [])
def num_product_s (F : Y_num_product R) : PSem R := semOf [none, none] (rawA num_product_a (num_product_h F))
theorem num_product_e (m : Nat) (c0 : Y_b_Mul64 R) : num_product_a.w _ (fun x κ => pFun tb (tabG (R := R) [(79, b_Mul64_s c0)]) 0 [] [some (false, 9)] Try.f75 x.1 x.2 κ) = num_product_h (num_product_F m c0) := by kernel_rfl
theorem num_product_k (m : Nat) : SemOK cxP 75 (num_product_s (R := R) (num_product m)) := semOf_ok (raw0 C (tabG_ok (.cons (b_Mul64_k m) .nil)) (fn_of Try.func75) rfl rfl (by kernel_rfl) (by kernel_rfl) (num_product_e m (b_Mul64 m)))
def num_Wide_turned_a := aX (aC (aT 9) <| aN) (aN)
def num_Wide_turned_h (F : Y_num_Wide_turned R) := fun a0 (κ : Ko R) => F a0 (fun r => κ (.st 9 r) [])
def num_Wide_turned_s (F : Y_num_Wide_turned R) : PSem R := semOf [some (false, 9)] (rawA num_Wide_turned_a (num_Wide_turned_h F))
theorem num_Wide_turned_e (m : Nat) (c0 : Y_b_Sub64 R) : num_Wide_turned_a.w _ (fun x κ => pFun tb (tabG (R := R) [(85, b_Sub64_s c0)]) 0 [] [some (false, 9)] Try.f80 x.1 x.2 κ) = num_Wide_turned_h (num_Wide_turned_F m c0) := by kernel_rfl
theorem num_Wide_turned_k (m : Nat) : SemOK cxP 80 (num_Wide_turned_s (R := R) (num_Wide_turned m)) := semOf_ok (raw0 C (tabG_ok (.cons (b_Sub64_k m) .nil)) (fn_of Try.func80) rfl rfl (by kernel_rfl) (by kernel_rfl) (num_Wide_turned_e m (b_Sub64 m)))
def num_Wide_Plus_a := aX (aC (aT 9) <| aC (aT 9) <| aN) (aN)
def num_Wide_Plus_h (F : Y_num_Wide_Plus R) := fun a0 a1 (κ : Ko R) => F a0 a1 (fun r_0 r_1 => κ (.tup [.st 9 r_0, .bool r_1]) [])
def num_Wide_Plus_s (F : Y_num_Wide_Plus R) : PSem R := semOf [some (false, 9), some (false, 9)] (rawA num_Wide_Plus_a (num_Wide_Plus_h F))
theorem num_Wide_Plus_e (m : Nat) (c0 : Y_b_Add64 R) : num_Wide_Plus_a.w _ (fun x κ => pFun tb (tabG (R := R) [(87, b_Add64_s c0)]) 0 [] [some (false, 9), none] Try.f82 x.1 x.2 κ) = num_Wide_Plus_h (num_Wide_Plus_F m c0) := by kernel_rfl
theorem num_Wide_Plus_k (m : Nat) : SemOK cxP 82 (num_Wide_Plus_s (R := R) (num_Wide_Plus m)) := semOf_ok (raw0 C (tabG_ok (.cons (b_Add64_k m) .nil)) (fn_of Try.func82) rfl rfl (by kernel_rfl) (by kernel_rfl) (num_Wide_Plus_e m (b_Add64 m)))
def b_LeadingZeros64_a := aX (aC (aI .u64) <| aN) (aN)
def b_LeadingZeros64_h (F : Y_b_LeadingZeros64 R) := fun a0 (κ : Ko R) => F a0 (fun r => κ (.int .i64 r) [])
def b_LeadingZeros64_s (F : Y_b_LeadingZeros64 R) : PSem R := semOf [none] (rawA b_LeadingZeros64_a (b_LeadingZeros64_h F))
theorem b_LeadingZeros64_e (m : Nat) (c0 : Y_b_Len64 R) : b_LeadingZeros64_a.w _ (fun x κ => pFun tb (tabG (R := R) [(89, b_Len64_s c0)]) 0 [] [none] Try.f86 x.1 x.2 κ) = b_LeadingZeros64_h (b_LeadingZeros64_F m c0) := by kernel_rfl
theorem b_LeadingZeros64_k (m : Nat) : SemOK cxP 86 (b_LeadingZeros64_s (R := R) (b_LeadingZeros64 m)) := semOf_ok (raw0 C (tabG_ok (.cons (b_Len64_k m) .nil)) (fn_of Try.func86) rfl rfl (by kernel_rfl) (by kernel_rfl) (b_LeadingZeros64_e m (b_Len64 m)))
def slices_ContainsF_a := aX (aC (aL 4) <| aC (aF 20) <| aN) (aN)
def slices_ContainsF_h (F : Y_slices_ContainsF R) := fun a0 (κ : Ko R) => F a0 (fun r => κ (.bool r) [])
def slices_ContainsF_s (F : Y_slices_ContainsF R) : PSem R := semOf [some (true, 4), none] (rawA slices_ContainsF_a (slices_ContainsF_h F))
theorem slices_ContainsF_e (m : Nat) (c0 : Y_slices_IndexFunc R) : slices_ContainsF_a.w _ (fun x κ => pFun tb (tabG (R := R) [(28, slices_IndexFunc_s c0)]) 0 [] [none] Try.f19 x.1 x.2 κ) = slices_ContainsF_h (slices_ContainsF_F m c0) := by kernel_rfl
theorem slices_ContainsF_k (m : Nat) : SemOK cxP 19 (slices_ContainsF_s (R := R) (slices_ContainsF m)) := semOf_ok (raw0 C (tabG_ok (.cons (slices_IndexFunc_k m) .nil)) (fn_of Try.func19) rfl rfl (by kernel_rfl) (by kernel_rfl) (slices_ContainsF_e m (slices_IndexFunc m)))
def r1_Date_G (c0 : Y_r1_Leap R) (c1 : Y_r1_Days R) : FuncId → PSem R := tabG [(37, r1_Leap_s c0), (38, r1_Days_s c1)]
def r1_Date_l1 : LpS := ⟨[(8, .any), (6, .any), (0, .any)], [(0, .any), (8, .any), (6, .any)], []⟩
def r1_Date_a1 := aX (aC (aI .i64) <| aC (aI .i64) <| aC (aI .i64) <| aN) (aN)
def r1_Date_x1 := aX (aC (aI .i64) <| aC (aI .i64) <| aC (aI .i64) <| aN) (aN)
theorem r1_Date_S1_e (m : Nat) (c0 : Y_r1_Leap R) (c1 : Y_r1_Days R) (ρ : Kr R) (kx : Kx R) (kr : Kr R) : roundA tb (r1_Date_G c0 c1) 0 Try.f24 (lpC (bodyOf Try.f24) 1) [] r1_Date_l1 r1_Date_a1 ρ kx kr = r1_Date_S1 m c1 (r1_Date_a1.w _ (pr ρ)) (r1_Date_x1.w _ (pr (kx 2))) := by kernel_rfl
def r1_Date_X1 (l : r1_Date_V1 R) (m : Nat) : LoopH R := loopA r1_Date_l1 r1_Date_a1 fun kx kr => l (r1_Date_x1.w _ (pr (kx 2))) m
theorem r1_Date_X1_k {m : Nat} {c0 : Y_r1_Leap R} {c1 : Y_r1_Days R} (HG : ∀ f, SemOK cxP f (r1_Date_G (R := R) c0 c1 f)) : LoopSem cxP Try.f24.ntmps 0 (lpC (bodyOf Try.f24) 1) (r1_Date_X1 (R := R) (r1_Date_L1 m c1) m) := loopA_ok C HG (by kernel_rfl) (show loopsIn (lpC (bodyOf Try.f24) 1) = [] from by kernel_rfl) (.nil _) m (fun _ _ => rfl) rfl (r1_Date_S1_e m c0 c1)
def r1_Date_l0 : LpS := ⟨[(6, .any), (0, .any)], [(6, .any), (0, .any)], []⟩
def r1_Date_a0 := aX (aC (aI .i64) <| aC (aI .i64) <| aN) (aN)
def r1_Date_x0 := aX (aC (aI .i64) <| aC (aI .i64) <| aN) (aN)
theorem r1_Date_S0_e (m : Nat) (c0 : Y_r1_Leap R) (c1 : Y_r1_Days R) (ρ : Kr R) (kx : Kx R) (kr : Kr R) : roundA tb (r1_Date_G c0 c1) 0 Try.f24 (lpC (bodyOf Try.f24) 0) [] r1_Date_l0 r1_Date_a0 ρ kx kr = r1_Date_S0 m c0 (r1_Date_a0.w _ (pr ρ)) (r1_Date_x0.w _ (pr (kx 0))) := by kernel_rfl
def r1_Date_X0 (l : r1_Date_V0 R) (m : Nat) : LoopH R := loopA r1_Date_l0 r1_Date_a0 fun kx kr => l (r1_Date_x0.w _ (pr (kx 0))) m
theorem r1_Date_X0_k {m : Nat} {c0 : Y_r1_Leap R} {c1 : Y_r1_Days R} (HG : ∀ f, SemOK cxP f (r1_Date_G (R := R) c0 c1 f)) : LoopSem cxP Try.f24.ntmps 0 (lpC (bodyOf Try.f24) 0) (r1_Date_X0 (R := R) (r1_Date_L0 m c0) m) := loopA_ok C HG (by kernel_rfl) (show loopsIn (lpC (bodyOf Try.f24) 0) = [] from by kernel_rfl) (.nil _) m (fun _ _ => rfl) rfl (r1_Date_S0_e m c0 c1)
def r1_Date_a := aX (aC (aI .i64) <| aN) (aN)
def r1_Date_h (F : Y_r1_Date R) := fun a0 (κ : Ko R) => F a0 (fun r_0 r_1 r_2 r_3 => κ (.tup [.int .i64 r_0, .int .i64 r_1, .int .i64 r_2, .bool r_3]) [])
def r1_Date_s (F : Y_r1_Date R) : PSem R := semOf [none] (rawA r1_Date_a (r1_Date_h F))
theorem r1_Date_e (m : Nat) (c0 : Y_r1_Leap R) (c1 : Y_r1_Days R) (l0 : r1_Date_V0 R) (l1 : r1_Date_V1 R) : r1_Date_a.w _ (fun x κ => pFun tb (r1_Date_G (R := R) c0 c1) 0 [r1_Date_X0 l0 m, r1_Date_X1 l1 m] [none, none, none, none] Try.f24 x.1 x.2 κ) = r1_Date_h (r1_Date_F m l0 l1) := by kernel_rfl
theorem r1_Date_k (m : Nat) : SemOK cxP 24 (r1_Date_s (R := R) (r1_Date m)) :=
 have HG : ∀ f, SemOK cxP f (r1_Date_G (R := R) (r1_Leap m) (r1_Days m) f) := tabG_ok (.cons (r1_Leap_k m) (.cons (r1_Days_k m) .nil))
 semOf_ok (rawA_ok C HG (fn_of Try.func24) rfl rfl (by kernel_rfl) (show loopsIn (bodyOf Try.f24) = [(lpC (bodyOf Try.f24) 0), (lpC (bodyOf Try.f24) 1)] from by kernel_rfl) (.cons (r1_Date_X0_k HG) (.cons (r1_Date_X1_k HG) (.nil _))) (r1_Date_e m (r1_Leap m) (r1_Days m) (r1_Date_L0 m (r1_Leap m)) (r1_Date_L1 m (r1_Days m))))
def r9p_take_a := aX (aC (aP 0 0) <| aC aS <| aN) (aC o7 <| aN)
def r9p_take_h (F : Y_r9p_take R) := fun a1 o0 (κ : Ko R) => F o0 a1 (fun r w0 => κ (.bool r) [w7 w0])
def r9p_take_s (F : Y_r9p_take R) : PSem R := semOf [none, none] (rawA r9p_take_a (r9p_take_h F))
theorem r9p_take_e (m : Nat) (c0 : Y_r9p_is R) : r9p_take_a.w _ (fun x κ => pFun tb (tabG (R := R) [(52, r9p_is_s c0)]) 1 [] [none] Try.f47 x.1 x.2 κ) = r9p_take_h (r9p_take_F m c0) := by kernel_rfl
theorem r9p_take_k (m : Nat) : SemOK cxP 47 (r9p_take_s (R := R) (r9p_take m)) := semOf_ok (raw0 C (tabG_ok (.cons (r9p_is_k m) .nil)) (fn_of Try.func47) rfl rfl (by kernel_rfl) (by kernel_rfl) (r9p_take_e m (r9p_is m)))
def r9p_name_a := aX (aC (aP 0 0) <| aN) (aC o7 <| aN)
def r9p_name_h (F : Y_r9p_name R) := fun o0 (κ : Ko R) => F o0 (fun r w0 => κ (.str r) [w7 w0])
def r9p_name_s (F : Y_r9p_name R) : PSem R := semOf [none] (rawA r9p_name_a (r9p_name_h F))
theorem r9p_name_e (m : Nat) (c0 : Y_r9p_fail R) (c1 : Y_r9p_w R) : r9p_name_a.w _ (fun x κ => pFun tb (tabG (R := R) [(55, r9p_fail_s c0), (46, r9p_w_s c1)]) 1 [] [none] Try.f48 x.1 x.2 κ) = r9p_name_h (r9p_name_F m c0 c1) := by kernel_rfl
theorem r9p_name_k (m : Nat) : SemOK cxP 48 (r9p_name_s (R := R) (r9p_name m)) := semOf_ok (raw0 C (tabG_ok (.cons (r9p_fail_k m) (.cons (r9p_w_k m) .nil))) (fn_of Try.func48) rfl rfl (by kernel_rfl) (by kernel_rfl) (r9p_name_e m (r9p_fail m) (r9p_w m)))
def r9p_in_a := aX (aC (aP 0 0) <| aN) (aC o7 <| aN)
def r9p_in_h (F : Y_r9p_in R) := fun o0 (κ : Ko R) => F o0 (fun r w0 => κ (.bool r) [w7 w0])
def r9p_in_s (F : Y_r9p_in R) : PSem R := semOf [none] (rawA r9p_in_a (r9p_in_h F))
theorem r9p_in_e (m : Nat) (c0 : Y_r9p_limit R) : r9p_in_a.w _ (fun x κ => pFun tb (tabG (R := R) [(53, r9p_limit_s c0)]) 1 [] [none] Try.f69 x.1 x.2 κ) = r9p_in_h (r9p_in_F m c0) := by kernel_rfl
theorem r9p_in_k (m : Nat) : SemOK cxP 69 (r9p_in_s (R := R) (r9p_in m)) := semOf_ok (raw0 C (tabG_ok (.cons (r9p_limit_k m) .nil)) (fn_of Try.func69) rfl rfl (by kernel_rfl) (by kernel_rfl) (r9p_in_e m (r9p_limit m)))
def r9p_islit_a := aX (aC (aP 0 0) <| aN) (aC o7 <| aN)
def r9p_islit_h (F : Y_r9p_islit R) := fun o0 (κ : Ko R) => F o0 (fun r w0 => κ (.bool r) [w7 w0])
def r9p_islit_s (F : Y_r9p_islit R) : PSem R := semOf [none] (rawA r9p_islit_a (r9p_islit_h F))
theorem r9p_islit_e (m : Nat) (c0 : Y_r9p_w R) (c1 : Y_r9p_is R) : r9p_islit_a.w _ (fun x κ => pFun tb (tabG (R := R) [(46, r9p_w_s c0), (52, r9p_is_s c1)]) 1 [] [none] Try.f72 x.1 x.2 κ) = r9p_islit_h (r9p_islit_F m c0 c1) := by kernel_rfl
theorem r9p_islit_k (m : Nat) : SemOK cxP 72 (r9p_islit_s (R := R) (r9p_islit m)) := semOf_ok (raw0 C (tabG_ok (.cons (r9p_w_k m) (.cons (r9p_is_k m) .nil))) (fn_of Try.func72) rfl rfl (by kernel_rfl) (by kernel_rfl) (r9p_islit_e m (r9p_w m) (r9p_is m)))
end
end Go.Pm
