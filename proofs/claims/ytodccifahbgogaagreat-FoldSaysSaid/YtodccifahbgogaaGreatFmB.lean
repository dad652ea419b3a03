/- The interpreter over data answers as the plain functions say. -/
import Derived.Test.YtodccifahbgogaaGreatFmA
import Derived.Test.YtodccifahbgogaaGreatProg
import Derived.KernelRfl
set_option linter.unusedVariables false
set_option linter.unusedSectionVars false
set_option linter.unusedSimpArgs false
namespace Go.Pm
open Go Go.EvM Go.Pv Go.Proofs
set_option linter.unusedVariables false
set_option maxRecDepth 100000
set_option linter.unusedSectionVars false
noncomputable section
variable {R : Type}
def tbL : List (TypeId × TB) := [
  (29, ⟨.strc [(0, 1, false), (1, 1, false), (2, 1, false), (3, 1, false), (4, 1, false), (5, 1, false)], 6, 80, true, [.str [], .str [], .int .i64 0, .int .i64 0, .int .i64 0, .nils]⟩),
  (9, ⟨.str, 1, 16, false, [.str []]⟩),
  (3, ⟨.int .i64, 1, 8, false, [.int .i64 0]⟩),
  (2, ⟨.int .i64, 1, 8, false, [.int .i64 0]⟩),
  (27, ⟨.sl 29, 1, 24, false, [.nils]⟩),
  (26, ⟨.strc [(0, 1, false), (1, 1, false), (2, 1, false), (3, 1, false), (4, 1, false), (5, 1, false)], 6, 80, true, [.str [], .str [], .int .i64 0, .int .i64 0, .int .i64 0, .nils]⟩),
  (23, ⟨.int .i64, 1, 8, false, [.int .i64 0]⟩),
  (24, ⟨.sl 26, 1, 24, false, [.nils]⟩),
  (4, ⟨.bool, 1, 1, false, [.bool false]⟩),
  (70, ⟨.strc [(0, 1, false), (1, 1, false), (2, 1, false)], 3, 40, true, [.int .i64 0, .int .i64 0, .nils]⟩),
  (145, ⟨.strc [(0, 1, false), (1, 1, false)], 2, 32, true, [.bool false, .nils]⟩),
  (143, ⟨.sl 185, 1, 24, false, [.nils]⟩),
  (185, ⟨.int .u64, 1, 8, false, [.int .u64 0]⟩),
  (39, ⟨.sl 9, 1, 24, false, [.nils]⟩),
  (5, ⟨.int .u8, 1, 1, false, [.int .u8 0]⟩),
  (160, ⟨.strc [(0, 1, false), (1, 1, false), (2, 1, false), (3, 1, false)], 4, 40, true, [.int .i64 0, .str [], .int .i64 0, .int .i64 0]⟩),
  (158, ⟨.strc [(0, 1, false), (1, 1, false), (2, 1, false), (3, 1, false), (4, 1, false)], 5, 56, true, [.nils, .int .i64 0, .int .i64 0, .bool false, .int .i64 0]⟩),
  (153, ⟨.sl 160, 1, 24, false, [.nils]⟩),
  (217, ⟨.strc [(0, 1, false), (1, 1, false)], 2, 16, true, [.int .i64 0, .int .u64 0]⟩),
  (189, ⟨.int .u64, 1, 8, false, [.int .u64 0]⟩),
  (91, ⟨.sl 3, 1, 24, false, [.nils]⟩),
  (86, ⟨.sl 39, 1, 24, false, [.nils]⟩),
  (40, ⟨.int .i64, 1, 8, false, [.int .i64 0]⟩)]
def tb : TypeId → Option TB := fun t => lookB t tbL
def yesP (args : List Value) (h : Hp) : OR := match args with | [] => .ok (.bool true) h | _ :: _ => .no
def extP : FuncId → Option (List Value → Hp → OR) := fun f => bif Nat.beq f 222 then some (addP) else bif Nat.beq f 220 then some (subP) else none
def cxP : Cx := mkCx Tryz.prog [] extP
theorem tbL_ok : tbL.all (fun p => tiB cxP p.1 p.2) = true := by kernel_rfl
theorem C : PvOk cxP tb := ⟨fun t b h => lookB_ok tbL_ok t b h, rfl, rfl, fun t => rfl⟩
def k4 := aK (aC aS <| aC aS <| aC (aI .i64) <| aC (aI .i64) <| aC (aI .i64) <| aC (aL 4) <| aN)
def o4 : Ar PObj (fun W => T9Node → W) := aR k4 (fun _ f o => f o.f_Op o.f_Name o.f_Kind o.f_N o.f_At o.f_Kids) (fun _ f x0 x1 x2 x3 x4 x5 => f (T9Node.mk x0 x1 x2 x3 x4 x5)) (fun _ _ => rfl)
def w4 (o : T9Node) : PObj := .cells [.str o.f_Op, .str o.f_Name, .int .i64 o.f_Kind, .int .i64 o.f_N, .int .i64 o.f_At, .sl 4 o.f_Kids]
def k5 := aK (aC aS <| aC aS <| aC (aI .i64) <| aC (aI .i64) <| aC (aI .i64) <| aC (aL 5) <| aN)
def o5 : Ar PObj (fun W => TsynNode → W) := aR k5 (fun _ f o => f o.f_Op o.f_Name o.f_Kind o.f_N o.f_At o.f_Kids) (fun _ f x0 x1 x2 x3 x4 x5 => f (TsynNode.mk x0 x1 x2 x3 x4 x5)) (fun _ _ => rfl)
def w5 (o : TsynNode) : PObj := .cells [.str o.f_Op, .str o.f_Name, .int .i64 o.f_Kind, .int .i64 o.f_N, .int .i64 o.f_At, .sl 5 o.f_Kids]
def k6 := aK (aC (aI .i64) <| aC (aI .i64) <| aC (aL 0) <| aN)
def o6 : Ar PObj (fun W => TapiValue → W) := aR k6 (fun _ f o => f o.f_Kind o.f_N o.f_L) (fun _ f x0 x1 x2 => f (TapiValue.mk x0 x1 x2)) (fun _ _ => rfl)
def w6 (o : TapiValue) : PObj := .cells [.int .i64 o.f_Kind, .int .i64 o.f_N, .sl 0 o.f_L]
def k7 := aK (aC aB <| aC (aL 8) <| aN)
def o7 : Ar PObj (fun W => T1Big → W) := aR k7 (fun _ f o => f o.f_Neg o.f_D) (fun _ f x0 x1 => f (T1Big.mk x0 x1)) (fun _ _ => rfl)
def w7 (o : T1Big) : PObj := .cells [.bool o.f_Neg, .sl 8 o.f_D]
def k9 := aK (aC (aL 10) <| aC (aI .i64) <| aC (aI .i64) <| aC aB <| aC (aI .i64) <| aN)
def o9 : Ar PObj (fun W => T9parser → W) := aR k9 (fun _ f o => f o.f_l o.f_k o.f_bad o.f_deep o.f_d) (fun _ f x0 x1 x2 x3 x4 => f (T9parser.mk x0 x1 x2 x3 x4)) (fun _ _ => rfl)
def w9 (o : T9parser) : PObj := .cells [.sl 10 o.f_l, .int .i64 o.f_k, .int .i64 o.f_bad, .bool o.f_deep, .int .i64 o.f_d]
def k10 := aK (aC (aI .i64) <| aC aS <| aC (aI .i64) <| aC (aI .i64) <| aN)
def o10 : Ar PObj (fun W => T9Word → W) := aR k10 (fun _ f o => f o.f_Kind o.f_Text o.f_N o.f_At) (fun _ f x0 x1 x2 x3 => f (T9Word.mk x0 x1 x2 x3)) (fun _ _ => rfl)
def w10 (o : T9Word) : PObj := .cells [.int .i64 o.f_Kind, .str o.f_Text, .int .i64 o.f_N, .int .i64 o.f_At]
def k11 := aK (aC (aI .i64) <| aC (aI .u64) <| aN)
def o11 : Ar PObj (fun W => TnumWide → W) := aR k11 (fun _ f o => f o.f_Hi o.f_Lo) (fun _ f x0 x1 => f (TnumWide.mk x0 x1)) (fun _ _ => rfl)
def w11 (o : TnumWide) : PObj := .cells [.int .i64 o.f_Hi, .int .u64 o.f_Lo]
def b_Add64_s (F : Y_b_Add64 R) : PSem R := fun vs os κ => match vs with
  | [.int .u64 a, .int .u64 b, .int .u64 c] => F a b c (fun r s => κ (.tup [.int .u64 r, .int .u64 s]) os)
  | _ => none
theorem b_Add64_k (m : Nat) : SemOK cxP 222 (b_Add64_s (R := R) (b_Add64 m)) := fun vs os κ r h => by
  unfold b_Add64_s at h
  split at h
  · rename_i a b c
    unfold b_Add64 at h
    split at h
    · rename_i x y z
      cases hb : Nat.ble z 1 with
      | false => rw [hb] at h; cases h
      | true =>
        rw [hb] at h
        refine ⟨_, _, h, 1, fun j hj Φ g H ws hs hr => ?_⟩
        cases hr with
        | cons h1 hr => cases h1; cases hr with
          | cons h1 hr => cases h1; cases hr with
            | cons h1 hr =>
              cases h1; cases hr
              obtain ⟨j, rfl⟩ : ∃ i, j = i + 1 := ⟨j - 1, by omega⟩
              refine ⟨.tuple ⟨[.int .u64 _, .int .u64 _]⟩, H, Φ, g, ?_, .tup (.cons (.int _ _) (.cons (.int _ _) .nil)) (by simp [f2, f1, f0]) (by show 2 ≤ 8; omega), hs, Nx.refl _ _ _ _⟩
              show addP [.int .u64 (.ofNat x), .int .u64 (.ofNat y), .int .u64 (.ofNat z)] H = _
              unfold addP
              dsimp only
              rw [hb]; rfl
    · cases h
  · cases h
def b_Sub64_s (F : Y_b_Sub64 R) : PSem R := fun vs os κ => match vs with
  | [.int .u64 a, .int .u64 b, .int .u64 c] => F a b c (fun r s => κ (.tup [.int .u64 r, .int .u64 s]) os)
  | _ => none
theorem b_Sub64_k (m : Nat) : SemOK cxP 220 (b_Sub64_s (R := R) (b_Sub64 m)) := fun vs os κ r h => by
  unfold b_Sub64_s at h
  split at h
  · rename_i a b c
    unfold b_Sub64 at h
    split at h
    · rename_i x y z
      cases hb : Nat.ble z 1 with
      | false => rw [hb] at h; cases h
      | true =>
        rw [hb] at h
        refine ⟨_, _, h, 1, fun j hj Φ g H ws hs hr => ?_⟩
        cases hr with
        | cons h1 hr => cases h1; cases hr with
          | cons h1 hr => cases h1; cases hr with
            | cons h1 hr =>
              cases h1; cases hr
              obtain ⟨j, rfl⟩ : ∃ i, j = i + 1 := ⟨j - 1, by omega⟩
              refine ⟨.tuple ⟨[.int .u64 _, .int .u64 _]⟩, H, Φ, g, ?_, .tup (.cons (.int _ _) (.cons (.int _ _) .nil)) (by simp [f2, f1, f0]) (by show 2 ≤ 8; omega), hs, Nx.refl _ _ _ _⟩
              show subP [.int .u64 (.ofNat x), .int .u64 (.ofNat y), .int .u64 (.ofNat z)] H = _
              unfold subP
              dsimp only
              rw [hb]; rfl
    · cases h
  · cases h
def slices_Clone___p_s (F : Y_slices_Clone___p R) : PSem R := cloneS 5 80
def cl0 : Code := match bodyOf Tryz.f49 with | .seq a _ => a | _ => .skip
def cl1 : Code := match bodyOf Tryz.f49 with | .seq _ (.seq a _) => a | _ => .skip
def cl2 : Code := match bodyOf Tryz.f49 with | .seq _ (.seq _ a) => a | _ => .skip
theorem slices_Clone___p_k (m : Nat) : SemOK cxP 49 (slices_Clone___p_s (R := R) (slices_Clone___p m)) :=
 clone_ok C (F := Tryz.f49) (r0 := cl0) (X := cl1) (S := cl2) (fn_of Tryz.func49) rfl (by kernel_rfl) (by kernel_rfl) (fun _ _ => rfl)
  (fit_of _ (by kernel_rfl) (show LoopsOK _ _ _ (loopsIn (.seq cl0 (.seq cl1 cl2))) _ from (show loopsIn (.seq cl0 (.seq cl1 cl2)) = [] from by kernel_rfl) ▸ .nil _)) (fit_of _ (by kernel_rfl) ((show loopsIn cl2 = [] from by kernel_rfl) ▸ .nil _))
  (fun x l => by kernel_rfl) (by kernel_rfl) (by kernel_rfl) (fun b off cap m H => by kernel_rfl)
end
end Go.Pm
namespace Go.Pm
open Go Go.EvM Go.Pv Go.Proofs
set_option maxRecDepth 100000
set_option linter.unusedVariables false
set_option linter.unusedSectionVars false
noncomputable section
variable {R : Type}
def r17_Places_a := aX (aC (aT 4) <| aC (aT 4) <| aN) (aN)
def r17_Places_h (F : Y_r17_Places R) := fun a0 a1 (κ : Ko R) => F a0 a1 (fun r => κ (.bool r) [])
def r17_Places_w (F : Y_r17_Places R) : PSem R := rawA r17_Places_a (r17_Places_h F)
def r17_Places_s (F : Y_r17_Places R) : PSem R := semOf [some (false, 4), some (false, 4)] (r17_Places_w F)
structure G_publicanref17_PlacesOK (g : G_r17_Places R) : Prop where
  r17_Places : SemOK cxP 15 (r17_Places_s g.r17_Places)
def r17_Places_G (c0 : Y_r17_Places R) : FuncId → PSem R := tabG [(15, r17_Places_s c0)]
def r17_Places_l0 : LpS := ⟨[(5, .any), (3, .fcells [(5, 4)]), (2, .fcells [(5, 4)])], [], [(4, .any)]⟩
def r17_Places_a0 := aX (aC (aI .i64) <| aC (aP 0 0) <| aC (aP 1 0) <| aN) (aC k4 <| aC k4 <| aN)
def r17_Places_x0 := aQ (aX (aN) (aN))
def r17_Places_z0 := aX (aC aB <| aN) (aN)
theorem r17_Places_S0_e (m : Nat) (c0 : Y_r17_Places R) (ρ : Kr R) (kx : Kx R) (kr : Kr R) : roundA tb (r17_Places_G c0) 0 Tryz.f15 (lpC (bodyOf Tryz.f15) 0) [] r17_Places_l0 r17_Places_a0 ρ kx kr = r17_Places_S0 m c0 (r17_Places_a0.w _ (pr ρ)) (r17_Places_x0.w _ (pr (kx 0))) (r17_Places_z0.w _ (pr kr)) := by kernel_rfl
def r17_Places_X0 (l : r17_Places_V0 R) (m : Nat) : LoopH R := loopA r17_Places_l0 r17_Places_a0 fun kx kr => l (r17_Places_x0.w _ (pr (kx 0))) (r17_Places_z0.w _ (pr kr)) m
theorem r17_Places_X0_k {m : Nat} {c0 : Y_r17_Places R} (HG : ∀ f, SemOK cxP f (r17_Places_G (R := R) c0 f)) : LoopSem cxP Tryz.f15.ntmps 0 (lpC (bodyOf Tryz.f15) 0) (r17_Places_X0 (R := R) (r17_Places_L0 m c0) m) := loopA_ok C HG (by kernel_rfl) (show loopsIn (lpC (bodyOf Tryz.f15) 0) = [] from by kernel_rfl) (.nil _) m (fun _ _ => rfl) rfl (r17_Places_S0_e m c0)
theorem r17_Places_e (m : Nat) (c0 : Y_r17_Places R) (l0 : r17_Places_V0 R) : r17_Places_a.w _ (fun x κ => pFun tb (r17_Places_G (R := R) c0) 0 [r17_Places_X0 l0 m] [none] Tryz.f15 x.1 x.2 κ) = r17_Places_h (r17_Places_F m l0) := by kernel_rfl
theorem r17_Places_st (m : Nat) (g : G_r17_Places R) (hg : G_publicanref17_PlacesOK g) : SemC cxP 15 (r17_Places_w (r17_Places_B m g)) :=
 have HG : ∀ f, SemOK cxP f (r17_Places_G (R := R) g.r17_Places f) := tabG_ok (.cons hg.r17_Places .nil)
 rawA_ok C HG (fn_of Tryz.func15) rfl rfl (by kernel_rfl) (show loopsIn (bodyOf Tryz.f15) = [(lpC (bodyOf Tryz.f15) 0)] from by kernel_rfl) (.cons (r17_Places_X0_k HG) (.nil _)) (r17_Places_e m g.r17_Places (r17_Places_L0 m g.r17_Places))
theorem r17_Places_zz : SemC cxP 15 (r17_Places_w (R := R) fun _ _ _ => none) := rawA_z rfl
theorem G_r17_Places_ok : ∀ m, G_publicanref17_PlacesOK (G_r17_Places_r (R := R) m)
  | 0 => ⟨semOf_ok r17_Places_zz⟩
  | j + 1 => ⟨semOf_ok (r17_Places_st j _ (G_r17_Places_ok j))⟩
theorem r17_Places_k (m : Nat) : SemOK cxP 15 (r17_Places_s (R := R) (r17_Places m)) := (G_r17_Places_ok m).r17_Places
def r17_Tree_a := aX (aC (aT 5) <| aN) (aN)
def r17_Tree_h (F : Y_r17_Tree R) := fun a0 (κ : Ko R) => F a0 (fun r => κ (.st 4 r) [])
def r17_Tree_w (F : Y_r17_Tree R) : PSem R := rawA r17_Tree_a (r17_Tree_h F)
def r17_Tree_s (F : Y_r17_Tree R) : PSem R := semOf [some (false, 5)] (r17_Tree_w F)
structure G_publicanref17_TreeOK (g : G_r17_Tree R) : Prop where
  r17_Tree : SemOK cxP 16 (r17_Tree_s g.r17_Tree)
def r17_Tree_G (c0 : Y_r17_Tree R) : FuncId → PSem R := tabG [(16, r17_Tree_s c0)]
def r17_Tree_l0 : LpS := ⟨[(4, .any), (3, .cells [(5, 4)]), (1, .fcells [(5, 5)]), (2, .fcells [(5, 4)])], [(2, .any), (3, .any)], []⟩
def r17_Tree_a0 := aX (aC (aI .i64) <| aC (aP 0 0) <| aC (aP 1 0) <| aC (aP 2 0) <| aN) (aC (aK (aC aS <| aC aS <| aC (aI .i64) <| aC (aI .i64) <| aC (aI .i64) <| aC (aO 3) <| aN)) <| aC k5 <| aC k4 <| aC (aA 4) <| aN)
def r17_Tree_x0 := aX (aC (aP 0 0) <| aC (aP 1 0) <| aN) (aC k4 <| aC (aK (aC aS <| aC aS <| aC (aI .i64) <| aC (aI .i64) <| aC (aI .i64) <| aC (aO 2) <| aN)) <| aC (aA 4) <| aN)
theorem r17_Tree_S0_e (m : Nat) (c0 : Y_r17_Tree R) (ρ : Kr R) (kx : Kx R) (kr : Kr R) : roundA tb (r17_Tree_G c0) 0 Tryz.f16 (lpC (bodyOf Tryz.f16) 0) [] r17_Tree_l0 r17_Tree_a0 ρ kx kr = r17_Tree_S0 m c0 (r17_Tree_a0.w _ (pr ρ)) (r17_Tree_x0.w _ (pr (kx 0))) := by kernel_rfl
def r17_Tree_X0 (l : r17_Tree_V0 R) (m : Nat) : LoopH R := loopA r17_Tree_l0 r17_Tree_a0 fun kx kr => l (r17_Tree_x0.w _ (pr (kx 0))) m
theorem r17_Tree_X0_k {m : Nat} {c0 : Y_r17_Tree R} (HG : ∀ f, SemOK cxP f (r17_Tree_G (R := R) c0 f)) : LoopSem cxP Tryz.f16.ntmps 0 (lpC (bodyOf Tryz.f16) 0) (r17_Tree_X0 (R := R) (r17_Tree_L0 m c0) m) := loopA_ok C HG (by kernel_rfl) (show loopsIn (lpC (bodyOf Tryz.f16) 0) = [] from by kernel_rfl) (.nil _) m (fun _ _ => rfl) rfl (r17_Tree_S0_e m c0)
theorem r17_Tree_e (m : Nat) (c0 : Y_r17_Tree R) (l0 : r17_Tree_V0 R) : r17_Tree_a.w _ (fun x κ => pFun tb (r17_Tree_G (R := R) c0) 0 [r17_Tree_X0 l0 m] [some (false, 4)] Tryz.f16 x.1 x.2 κ) = r17_Tree_h (r17_Tree_F m l0) := by kernel_rfl
theorem r17_Tree_st (m : Nat) (g : G_r17_Tree R) (hg : G_publicanref17_TreeOK g) : SemC cxP 16 (r17_Tree_w (r17_Tree_B m g)) :=
 have HG : ∀ f, SemOK cxP f (r17_Tree_G (R := R) g.r17_Tree f) := tabG_ok (.cons hg.r17_Tree .nil)
 rawA_ok C HG (fn_of Tryz.func16) rfl rfl (by kernel_rfl) (show loopsIn (bodyOf Tryz.f16) = [(lpC (bodyOf Tryz.f16) 0)] from by kernel_rfl) (.cons (r17_Tree_X0_k HG) (.nil _)) (r17_Tree_e m g.r17_Tree (r17_Tree_L0 m g.r17_Tree))
theorem r17_Tree_zz : SemC cxP 16 (r17_Tree_w (R := R) fun _ _ => none) := rawA_z rfl
theorem G_r17_Tree_ok : ∀ m, G_publicanref17_TreeOK (G_r17_Tree_r (R := R) m)
  | 0 => ⟨semOf_ok r17_Tree_zz⟩
  | j + 1 => ⟨semOf_ok (r17_Tree_st j _ (G_r17_Tree_ok j))⟩
theorem r17_Tree_k (m : Nat) : SemOK cxP 16 (r17_Tree_s (R := R) (r17_Tree m)) := (G_r17_Tree_ok m).r17_Tree
def fold_Size_a := aX (aC (aT 5) <| aN) (aN)
def fold_Size_h (F : Y_fold_Size R) := fun a0 (κ : Ko R) => F a0 (fun r => κ (.int .i64 r) [])
def fold_Size_w (F : Y_fold_Size R) : PSem R := rawA fold_Size_a (fold_Size_h F)
def fold_Size_s (F : Y_fold_Size R) : PSem R := semOf [some (false, 5)] (fold_Size_w F)
structure G_fold_SizeOK (g : G_fold_Size R) : Prop where
  fold_Size : SemOK cxP 18 (fold_Size_s g.fold_Size)
def fold_Size_G (c0 : Y_fold_Size R) : FuncId → PSem R := tabG [(18, fold_Size_s c0)]
def fold_Size_l0 : LpS := ⟨[(9, .any), (3, .any), (7, .any), (8, .any)], [(3, .any)], []⟩
def fold_Size_a0 := aX (aC (aI .i64) <| aC (aI .i64) <| aC (aL 5) <| aC (aI .i64) <| aN) (aN)
def fold_Size_x0 := aX (aC (aI .i64) <| aN) (aN)
theorem fold_Size_S0_e (m : Nat) (c0 : Y_fold_Size R) (ρ : Kr R) (kx : Kx R) (kr : Kr R) : roundA tb (fold_Size_G c0) 0 Tryz.f18 (lpC (bodyOf Tryz.f18) 0) [] fold_Size_l0 fold_Size_a0 ρ kx kr = fold_Size_S0 m c0 (fold_Size_a0.w _ (pr ρ)) (fold_Size_x0.w _ (pr (kx 0))) := by kernel_rfl
def fold_Size_X0 (l : fold_Size_V0 R) (m : Nat) : LoopH R := loopA fold_Size_l0 fold_Size_a0 fun kx kr => l (fold_Size_x0.w _ (pr (kx 0))) m
theorem fold_Size_X0_k {m : Nat} {c0 : Y_fold_Size R} (HG : ∀ f, SemOK cxP f (fold_Size_G (R := R) c0 f)) : LoopSem cxP Tryz.f18.ntmps 0 (lpC (bodyOf Tryz.f18) 0) (fold_Size_X0 (R := R) (fold_Size_L0 m c0) m) := loopA_ok C HG (by kernel_rfl) (show loopsIn (lpC (bodyOf Tryz.f18) 0) = [] from by kernel_rfl) (.nil _) m (fun _ _ => rfl) rfl (fold_Size_S0_e m c0)
theorem fold_Size_e (m : Nat) (c0 : Y_fold_Size R) (l0 : fold_Size_V0 R) : fold_Size_a.w _ (fun x κ => pFun tb (fold_Size_G (R := R) c0) 0 [fold_Size_X0 l0 m] [none] Tryz.f18 x.1 x.2 κ) = fold_Size_h (fold_Size_F m l0) := by kernel_rfl
theorem fold_Size_st (m : Nat) (g : G_fold_Size R) (hg : G_fold_SizeOK g) : SemC cxP 18 (fold_Size_w (fold_Size_B m g)) :=
 have HG : ∀ f, SemOK cxP f (fold_Size_G (R := R) g.fold_Size f) := tabG_ok (.cons hg.fold_Size .nil)
 rawA_ok C HG (fn_of Tryz.func18) rfl rfl (by kernel_rfl) (show loopsIn (bodyOf Tryz.f18) = [(lpC (bodyOf Tryz.f18) 0)] from by kernel_rfl) (.cons (fold_Size_X0_k HG) (.nil _)) (fold_Size_e m g.fold_Size (fold_Size_L0 m g.fold_Size))
theorem fold_Size_zz : SemC cxP 18 (fold_Size_w (R := R) fun _ _ => none) := rawA_z rfl
theorem G_fold_Size_ok : ∀ m, G_fold_SizeOK (G_fold_Size_r (R := R) m)
  | 0 => ⟨semOf_ok fold_Size_zz⟩
  | j + 1 => ⟨semOf_ok (fold_Size_st j _ (G_fold_Size_ok j))⟩
theorem fold_Size_k (m : Nat) : SemOK cxP 18 (fold_Size_s (R := R) (fold_Size m)) := (G_fold_Size_ok m).fold_Size
def r11_Size_a := aX (aC (aT 4) <| aN) (aN)
def r11_Size_h (F : Y_r11_Size R) := fun a0 (κ : Ko R) => F a0 (fun r => κ (.int .i64 r) [])
def r11_Size_w (F : Y_r11_Size R) : PSem R := rawA r11_Size_a (r11_Size_h F)
def r11_Size_s (F : Y_r11_Size R) : PSem R := semOf [some (false, 4)] (r11_Size_w F)
structure G_publicanref11_SizeOK (g : G_r11_Size R) : Prop where
  r11_Size : SemOK cxP 19 (r11_Size_s g.r11_Size)
def r11_Size_G (c0 : Y_r11_Size R) : FuncId → PSem R := tabG [(19, r11_Size_s c0)]
def r11_Size_l0 : LpS := ⟨[(4, .any), (1, .fcells [(5, 4)]), (3, .any)], [(3, .any)], []⟩
def r11_Size_a0 := aX (aC (aI .i64) <| aC (aP 0 0) <| aC (aI .i64) <| aN) (aC k4 <| aN)
def r11_Size_x0 := aX (aC (aI .i64) <| aN) (aN)
theorem r11_Size_S0_e (m : Nat) (c0 : Y_r11_Size R) (ρ : Kr R) (kx : Kx R) (kr : Kr R) : roundA tb (r11_Size_G c0) 0 Tryz.f19 (lpC (bodyOf Tryz.f19) 0) [] r11_Size_l0 r11_Size_a0 ρ kx kr = r11_Size_S0 m c0 (r11_Size_a0.w _ (pr ρ)) (r11_Size_x0.w _ (pr (kx 0))) := by kernel_rfl
def r11_Size_X0 (l : r11_Size_V0 R) (m : Nat) : LoopH R := loopA r11_Size_l0 r11_Size_a0 fun kx kr => l (r11_Size_x0.w _ (pr (kx 0))) m
theorem r11_Size_X0_k {m : Nat} {c0 : Y_r11_Size R} (HG : ∀ f, SemOK cxP f (r11_Size_G (R := R) c0 f)) : LoopSem cxP Tryz.f19.ntmps 0 (lpC (bodyOf Tryz.f19) 0) (r11_Size_X0 (R := R) (r11_Size_L0 m c0) m) := loopA_ok C HG (by kernel_rfl) (show loopsIn (lpC (bodyOf Tryz.f19) 0) = [] from by kernel_rfl) (.nil _) m (fun _ _ => rfl) rfl (r11_Size_S0_e m c0)
theorem r11_Size_e (m : Nat) (c0 : Y_r11_Size R) (l0 : r11_Size_V0 R) : r11_Size_a.w _ (fun x κ => pFun tb (r11_Size_G (R := R) c0) 0 [r11_Size_X0 l0 m] [none] Tryz.f19 x.1 x.2 κ) = r11_Size_h (r11_Size_F m l0) := by kernel_rfl
theorem r11_Size_st (m : Nat) (g : G_r11_Size R) (hg : G_publicanref11_SizeOK g) : SemC cxP 19 (r11_Size_w (r11_Size_B m g)) :=
 have HG : ∀ f, SemOK cxP f (r11_Size_G (R := R) g.r11_Size f) := tabG_ok (.cons hg.r11_Size .nil)
 rawA_ok C HG (fn_of Tryz.func19) rfl rfl (by kernel_rfl) (show loopsIn (bodyOf Tryz.f19) = [(lpC (bodyOf Tryz.f19) 0)] from by kernel_rfl) (.cons (r11_Size_X0_k HG) (.nil _)) (r11_Size_e m g.r11_Size (r11_Size_L0 m g.r11_Size))
theorem r11_Size_zz : SemC cxP 19 (r11_Size_w (R := R) fun _ _ => none) := rawA_z rfl
theorem G_r11_Size_ok : ∀ m, G_publicanref11_SizeOK (G_r11_Size_r (R := R) m)
  | 0 => ⟨semOf_ok r11_Size_zz⟩
  | j + 1 => ⟨semOf_ok (r11_Size_st j _ (G_r11_Size_ok j))⟩
theorem r11_Size_k (m : Nat) : SemOK cxP 19 (r11_Size_s (R := R) (r11_Size m)) := (G_r11_Size_ok m).r11_Size
def r17_Back_a := aX (aC (aT 4) <| aN) (aN)
def r17_Back_h (F : Y_r17_Back R) := fun a0 (κ : Ko R) => F a0 (fun r => κ (.st 5 r) [])
def r17_Back_w (F : Y_r17_Back R) : PSem R := rawA r17_Back_a (r17_Back_h F)
def r17_Back_s (F : Y_r17_Back R) : PSem R := semOf [some (false, 4)] (r17_Back_w F)
structure G_publicanref17_BackOK (g : G_r17_Back R) : Prop where
  r17_Back : SemOK cxP 48 (r17_Back_s g.r17_Back)
def r17_Back_G (c0 : Y_r17_Back R) : FuncId → PSem R := tabG [(48, r17_Back_s c0)]
def r17_Back_l0 : LpS := ⟨[(4, .any), (3, .cells [(5, 5)]), (1, .fcells [(5, 4)]), (2, .fcells [(5, 5)])], [(2, .any), (3, .any)], []⟩
def r17_Back_a0 := aX (aC (aI .i64) <| aC (aP 0 0) <| aC (aP 1 0) <| aC (aP 2 0) <| aN) (aC (aK (aC aS <| aC aS <| aC (aI .i64) <| aC (aI .i64) <| aC (aI .i64) <| aC (aO 3) <| aN)) <| aC k4 <| aC k5 <| aC (aA 5) <| aN)
def r17_Back_x0 := aX (aC (aP 0 0) <| aC (aP 1 0) <| aN) (aC k5 <| aC (aK (aC aS <| aC aS <| aC (aI .i64) <| aC (aI .i64) <| aC (aI .i64) <| aC (aO 2) <| aN)) <| aC (aA 5) <| aN)
theorem r17_Back_S0_e (m : Nat) (c0 : Y_r17_Back R) (ρ : Kr R) (kx : Kx R) (kr : Kr R) : roundA tb (r17_Back_G c0) 0 Tryz.f48 (lpC (bodyOf Tryz.f48) 0) [] r17_Back_l0 r17_Back_a0 ρ kx kr = r17_Back_S0 m c0 (r17_Back_a0.w _ (pr ρ)) (r17_Back_x0.w _ (pr (kx 0))) := by kernel_rfl
def r17_Back_X0 (l : r17_Back_V0 R) (m : Nat) : LoopH R := loopA r17_Back_l0 r17_Back_a0 fun kx kr => l (r17_Back_x0.w _ (pr (kx 0))) m
theorem r17_Back_X0_k {m : Nat} {c0 : Y_r17_Back R} (HG : ∀ f, SemOK cxP f (r17_Back_G (R := R) c0 f)) : LoopSem cxP Tryz.f48.ntmps 0 (lpC (bodyOf Tryz.f48) 0) (r17_Back_X0 (R := R) (r17_Back_L0 m c0) m) := loopA_ok C HG (by kernel_rfl) (show loopsIn (lpC (bodyOf Tryz.f48) 0) = [] from by kernel_rfl) (.nil _) m (fun _ _ => rfl) rfl (r17_Back_S0_e m c0)
theorem r17_Back_e (m : Nat) (c0 : Y_r17_Back R) (l0 : r17_Back_V0 R) : r17_Back_a.w _ (fun x κ => pFun tb (r17_Back_G (R := R) c0) 0 [r17_Back_X0 l0 m] [some (false, 5)] Tryz.f48 x.1 x.2 κ) = r17_Back_h (r17_Back_F m l0) := by kernel_rfl
theorem r17_Back_st (m : Nat) (g : G_r17_Back R) (hg : G_publicanref17_BackOK g) : SemC cxP 48 (r17_Back_w (r17_Back_B m g)) :=
 have HG : ∀ f, SemOK cxP f (r17_Back_G (R := R) g.r17_Back f) := tabG_ok (.cons hg.r17_Back .nil)
 rawA_ok C HG (fn_of Tryz.func48) rfl rfl (by kernel_rfl) (show loopsIn (bodyOf Tryz.f48) = [(lpC (bodyOf Tryz.f48) 0)] from by kernel_rfl) (.cons (r17_Back_X0_k HG) (.nil _)) (r17_Back_e m g.r17_Back (r17_Back_L0 m g.r17_Back))
theorem r17_Back_zz : SemC cxP 48 (r17_Back_w (R := R) fun _ _ => none) := rawA_z rfl
theorem G_r17_Back_ok : ∀ m, G_publicanref17_BackOK (G_r17_Back_r (R := R) m)
  | 0 => ⟨semOf_ok r17_Back_zz⟩
  | j + 1 => ⟨semOf_ok (r17_Back_st j _ (G_r17_Back_ok j))⟩
theorem r17_Back_k (m : Nat) : SemOK cxP 48 (r17_Back_s (R := R) (r17_Back m)) := (G_r17_Back_ok m).r17_Back
def r11_Fit_a := aX (aC (aI .i64) <| aC (aI .i64) <| aN) (aN)
def r11_Fit_h (F : Y_r11_Fit R) := fun a0 a1 (κ : Ko R) => F a0 a1 (fun r => κ (.bool r) [])
def r11_Fit_s (F : Y_r11_Fit R) : PSem R := semOf [none, none] (rawA r11_Fit_a (r11_Fit_h F))
theorem r11_Fit_e (m : Nat) : r11_Fit_a.w _ (fun x κ => pFun tb (tabG (R := R) []) 0 [] [none] Tryz.f86 x.1 x.2 κ) = r11_Fit_h (r11_Fit_F m) := by kernel_rfl
theorem r11_Fit_k (m : Nat) : SemOK cxP 86 (r11_Fit_s (R := R) (r11_Fit m)) := semOf_ok (raw0 C (tabG_ok .nil) (fn_of Tryz.func86) rfl rfl (by kernel_rfl) (by kernel_rfl) (r11_Fit_e m))
def num_Add_a := aX (aC (aI .i64) <| aC (aI .i64) <| aN) (aN)
def num_Add_h (F : Y_num_Add R) := fun a0 a1 (κ : Ko R) => F a0 a1 (fun r_0 r_1 => κ (.tup [.int .i64 r_0, .bool r_1]) [])
def num_Add_s (F : Y_num_Add R) : PSem R := semOf [none, none] (rawA num_Add_a (num_Add_h F))
theorem num_Add_e (m : Nat) : num_Add_a.w _ (fun x κ => pFun tb (tabG (R := R) []) 0 [] [none, none] Tryz.f89 x.1 x.2 κ) = num_Add_h (num_Add_F m) := by kernel_rfl
theorem num_Add_k (m : Nat) : SemOK cxP 89 (num_Add_s (R := R) (num_Add m)) := semOf_ok (raw0 C (tabG_ok .nil) (fn_of Tryz.func89) rfl rfl (by kernel_rfl) (by kernel_rfl) (num_Add_e m))
def num_Sub_a := aX (aC (aI .i64) <| aC (aI .i64) <| aN) (aN)
def num_Sub_h (F : Y_num_Sub R) := fun a0 a1 (κ : Ko R) => F a0 a1 (fun r_0 r_1 => κ (.tup [.int .i64 r_0, .bool r_1]) [])
def num_Sub_s (F : Y_num_Sub R) : PSem R := semOf [none, none] (rawA num_Sub_a (num_Sub_h F))
theorem num_Sub_e (m : Nat) : num_Sub_a.w _ (fun x κ => pFun tb (tabG (R := R) []) 0 [] [none, none] Tryz.f91 x.1 x.2 κ) = num_Sub_h (num_Sub_F m) := by kernel_rfl
theorem num_Sub_k (m : Nat) : SemOK cxP 91 (num_Sub_s (R := R) (num_Sub m)) := semOf_ok (raw0 C (tabG_ok .nil) (fn_of Tryz.func91) rfl rfl (by kernel_rfl) (by kernel_rfl) (num_Sub_e m))
def mean_truth_a := aX (aC aB <| aN) (aN)
def mean_truth_h (F : Y_mean_truth R) := fun a0 (κ : Ko R) => F a0 (fun r_0 r_1 => κ (.tup [.st 6 r_0, .int .i64 r_1]) [])
def mean_truth_s (F : Y_mean_truth R) : PSem R := semOf [none] (rawA mean_truth_a (mean_truth_h F))
theorem mean_truth_e (m : Nat) : mean_truth_a.w _ (fun x κ => pFun tb (tabG (R := R) []) 0 [] [some (false, 6), none] Tryz.f94 x.1 x.2 κ) = mean_truth_h (mean_truth_F m) := by kernel_rfl
theorem mean_truth_k (m : Nat) : SemOK cxP 94 (mean_truth_s (R := R) (mean_truth m)) := semOf_ok (raw0 C (tabG_ok .nil) (fn_of Tryz.func94) rfl rfl (by kernel_rfl) (by kernel_rfl) (mean_truth_e m))
def r11_Unary_a := aX (aC aS <| aC (aI .i64) <| aN) (aN)
def r11_Unary_h (F : Y_r11_Unary R) := fun a0 a1 (κ : Ko R) => F a0 a1 (fun r => κ (.int .i64 r) [])
def r11_Unary_s (F : Y_r11_Unary R) : PSem R := semOf [none, none] (rawA r11_Unary_a (r11_Unary_h F))
theorem r11_Unary_e (m : Nat) : r11_Unary_a.w _ (fun x κ => pFun tb (tabG (R := R) []) 0 [] [none] Tryz.f95 x.1 x.2 κ) = r11_Unary_h (r11_Unary_F m) := by kernel_rfl
theorem r11_Unary_k (m : Nat) : SemOK cxP 95 (r11_Unary_s (R := R) (r11_Unary m)) := semOf_ok (raw0 C (tabG_ok .nil) (fn_of Tryz.func95) rfl rfl (by kernel_rfl) (by kernel_rfl) (r11_Unary_e m))
def r11_truth_a := aX (aC aB <| aN) (aN)
def r11_truth_h (F : Y_r11_truth R) := fun a0 (κ : Ko R) => F a0 (fun r_0 r_1 => κ (.tup [.st 6 r_0, .int .i64 r_1]) [])
def r11_truth_s (F : Y_r11_truth R) : PSem R := semOf [none] (rawA r11_truth_a (r11_truth_h F))
theorem r11_truth_e (m : Nat) : r11_truth_a.w _ (fun x κ => pFun tb (tabG (R := R) []) 0 [] [some (false, 6), none] Tryz.f96 x.1 x.2 κ) = r11_truth_h (r11_truth_F m) := by kernel_rfl
theorem r11_truth_k (m : Nat) : SemOK cxP 96 (r11_truth_s (R := R) (r11_truth m)) := semOf_ok (raw0 C (tabG_ok .nil) (fn_of Tryz.func96) rfl rfl (by kernel_rfl) (by kernel_rfl) (r11_truth_e m))
def r11_Binary_a := aX (aC aS <| aC (aI .i64) <| aC (aI .i64) <| aN) (aN)
def r11_Binary_h (F : Y_r11_Binary R) := fun a0 a1 a2 (κ : Ko R) => F a0 a1 a2 (fun r => κ (.int .i64 r) [])
def r11_Binary_s (F : Y_r11_Binary R) : PSem R := semOf [none, none, none] (rawA r11_Binary_a (r11_Binary_h F))
theorem r11_Binary_e (m : Nat) : r11_Binary_a.w _ (fun x κ => pFun tb (tabG (R := R) []) 0 [] [none] Tryz.f100 x.1 x.2 κ) = r11_Binary_h (r11_Binary_F m) := by kernel_rfl
theorem r11_Binary_k (m : Nat) : SemOK cxP 100 (r11_Binary_s (R := R) (r11_Binary m)) := semOf_ok (raw0 C (tabG_ok .nil) (fn_of Tryz.func100) rfl rfl (by kernel_rfl) (by kernel_rfl) (r11_Binary_e m))
def fold_reckoned_a := aX (aC aS <| aN) (aN)
def fold_reckoned_h (F : Y_fold_reckoned R) := fun a0 (κ : Ko R) => F a0 (fun r => κ (.bool r) [])
def fold_reckoned_s (F : Y_fold_reckoned R) : PSem R := semOf [none] (rawA fold_reckoned_a (fold_reckoned_h F))
theorem fold_reckoned_e (m : Nat) : fold_reckoned_a.w _ (fun x κ => pFun tb (tabG (R := R) []) 0 [] [none] Tryz.f105 x.1 x.2 κ) = fold_reckoned_h (fold_reckoned_F m) := by kernel_rfl
theorem fold_reckoned_k (m : Nat) : SemOK cxP 105 (fold_reckoned_s (R := R) (fold_reckoned m)) := semOf_ok (raw0 C (tabG_ok .nil) (fn_of Tryz.func105) rfl rfl (by kernel_rfl) (by kernel_rfl) (fold_reckoned_e m))
def fold_Expr_1_a := aX (aC (aT 5) <| aN) (aN)
def fold_Expr_1_h (F : Y_fold_Expr_1 R) := fun a0 (κ : Ko R) => F a0 (fun r => κ (.bool r) [])
def fold_Expr_1_s (F : Y_fold_Expr_1 R) : PSem R := semOf [some (false, 5)] (rawA fold_Expr_1_a (fold_Expr_1_h F))
theorem fold_Expr_1_e (m : Nat) : fold_Expr_1_a.w _ (fun x κ => pFun tb (tabG (R := R) []) 0 [] [none] Tryz.f106 x.1 x.2 κ) = fold_Expr_1_h (fold_Expr_1_F m) := by kernel_rfl
theorem fold_Expr_1_k (m : Nat) : SemOK cxP 106 (fold_Expr_1_s (R := R) (fold_Expr_1 m)) := semOf_ok (raw0 C (tabG_ok .nil) (fn_of Tryz.func106) rfl rfl (by kernel_rfl) (by kernel_rfl) (fold_Expr_1_e m))
def fold_value_a := aX (aC (aT 5) <| aN) (aN)
def fold_value_h (F : Y_fold_value R) := fun a0 (κ : Ko R) => F a0 (fun r => κ (.st 6 r) [])
def fold_value_s (F : Y_fold_value R) : PSem R := semOf [some (false, 5)] (rawA fold_value_a (fold_value_h F))
theorem fold_value_e (m : Nat) : fold_value_a.w _ (fun x κ => pFun tb (tabG (R := R) []) 0 [] [some (false, 6)] Tryz.f107 x.1 x.2 κ) = fold_value_h (fold_value_F m) := by kernel_rfl
theorem fold_value_k (m : Nat) : SemOK cxP 107 (fold_value_s (R := R) (fold_value m)) := semOf_ok (raw0 C (tabG_ok .nil) (fn_of Tryz.func107) rfl rfl (by kernel_rfl) (by kernel_rfl) (fold_value_e m))
def fold_literal_a := aX (aC (aT 6) <| aC (aI .i64) <| aN) (aN)
def fold_literal_h (F : Y_fold_literal R) := fun a0 a1 (κ : Ko R) => F a0 a1 (fun r => κ (.st 5 r) [])
def fold_literal_s (F : Y_fold_literal R) : PSem R := semOf [some (false, 6), none] (rawA fold_literal_a (fold_literal_h F))
theorem fold_literal_e (m : Nat) : fold_literal_a.w _ (fun x κ => pFun tb (tabG (R := R) []) 0 [] [some (false, 5)] Tryz.f108 x.1 x.2 κ) = fold_literal_h (fold_literal_F m) := by kernel_rfl
theorem fold_literal_k (m : Nat) : SemOK cxP 108 (fold_literal_s (R := R) (fold_literal m)) := semOf_ok (raw0 C (tabG_ok .nil) (fn_of Tryz.func108) rfl rfl (by kernel_rfl) (by kernel_rfl) (fold_literal_e m))
def mean_Fit_a := aX (aC (aI .i64) <| aC (aI .i64) <| aN) (aN)
def mean_Fit_h (F : Y_mean_Fit R) := fun a0 a1 (κ : Ko R) => F a0 a1 (fun r => κ (.bool r) [])
def mean_Fit_s (F : Y_mean_Fit R) : PSem R := semOf [none, none] (rawA mean_Fit_a (mean_Fit_h F))
theorem mean_Fit_e (m : Nat) : mean_Fit_a.w _ (fun x κ => pFun tb (tabG (R := R) []) 0 [] [none] Tryz.f129 x.1 x.2 κ) = mean_Fit_h (mean_Fit_F m) := by kernel_rfl
theorem mean_Fit_k (m : Nat) : SemOK cxP 129 (mean_Fit_s (R := R) (mean_Fit m)) := semOf_ok (raw0 C (tabG_ok .nil) (fn_of Tryz.func129) rfl rfl (by kernel_rfl) (by kernel_rfl) (mean_Fit_e m))
def typ_quotient_a := aX (aC (aI .i64) <| aC (aI .i64) <| aN) (aN)
def typ_quotient_h (F : Y_typ_quotient R) := fun a0 a1 (κ : Ko R) => F a0 a1 (fun r => κ (.int .i64 r) [])
def typ_quotient_s (F : Y_typ_quotient R) : PSem R := semOf [none, none] (rawA typ_quotient_a (typ_quotient_h F))
theorem typ_quotient_e (m : Nat) : typ_quotient_a.w _ (fun x κ => pFun tb (tabG (R := R) []) 0 [] [none] Tryz.f136 x.1 x.2 κ) = typ_quotient_h (typ_quotient_F m) := by kernel_rfl
theorem typ_quotient_k (m : Nat) : SemOK cxP 136 (typ_quotient_s (R := R) (typ_quotient m)) := semOf_ok (raw0 C (tabG_ok .nil) (fn_of Tryz.func136) rfl rfl (by kernel_rfl) (by kernel_rfl) (typ_quotient_e m))
def typ_ordered_a := aX (aC (aI .i64) <| aN) (aN)
def typ_ordered_h (F : Y_typ_ordered R) := fun a0 (κ : Ko R) => F a0 (fun r => κ (.bool r) [])
def typ_ordered_s (F : Y_typ_ordered R) : PSem R := semOf [none] (rawA typ_ordered_a (typ_ordered_h F))
theorem typ_ordered_e (m : Nat) : typ_ordered_a.w _ (fun x κ => pFun tb (tabG (R := R) []) 0 [] [none] Tryz.f137 x.1 x.2 κ) = typ_ordered_h (typ_ordered_F m) := by kernel_rfl
theorem typ_ordered_k (m : Nat) : SemOK cxP 137 (typ_ordered_s (R := R) (typ_ordered m)) := semOf_ok (raw0 C (tabG_ok .nil) (fn_of Tryz.func137) rfl rfl (by kernel_rfl) (by kernel_rfl) (typ_ordered_e m))
def num_Floor_a := aX (aC (aI .i64) <| aC (aI .i64) <| aN) (aN)
def num_Floor_h (F : Y_num_Floor R) := fun a0 a1 (κ : Ko R) => F a0 a1 (fun r_0 r_1 => κ (.tup [.int .i64 r_0, .bool r_1]) [])
def num_Floor_s (F : Y_num_Floor R) : PSem R := semOf [none, none] (rawA num_Floor_a (num_Floor_h F))
theorem num_Floor_e (m : Nat) : num_Floor_a.w _ (fun x κ => pFun tb (tabG (R := R) []) 0 [] [none, none] Tryz.f140 x.1 x.2 κ) = num_Floor_h (num_Floor_F m) := by kernel_rfl
theorem num_Floor_k (m : Nat) : SemOK cxP 140 (num_Floor_s (R := R) (num_Floor m)) := semOf_ok (raw0 C (tabG_ok .nil) (fn_of Tryz.func140) rfl rfl (by kernel_rfl) (by kernel_rfl) (num_Floor_e m))
def r1_trim_G : FuncId → PSem R := tabG []
def r1_trim_l0 : LpS := ⟨[(3, .any), (2, .fcells [(1, 8)]), (1, .fcells [(1, 8)])], [(2, .any), (3, .any), (1, .any)], []⟩
def r1_trim_a0 := aX (aC (aL 8) <| aC (aP 0 0) <| aC (aP 1 0) <| aN) (aC k7 <| aC k7 <| aN)
def r1_trim_x0 := aX (aC (aP 0 0) <| aC (aL 8) <| aC (aP 1 0) <| aN) (aC k7 <| aC k7 <| aN)
theorem r1_trim_S0_e (m : Nat) (ρ : Kr R) (kx : Kx R) (kr : Kr R) : roundA tb (r1_trim_G) 0 Tryz.f142 (lpC (bodyOf Tryz.f142) 0) [] r1_trim_l0 r1_trim_a0 ρ kx kr = r1_trim_S0 m (r1_trim_a0.w _ (pr ρ)) (r1_trim_x0.w _ (pr (kx 0))) := by kernel_rfl
def r1_trim_X0 (l : r1_trim_V0 R) (m : Nat) : LoopH R := loopA r1_trim_l0 r1_trim_a0 fun kx kr => l (r1_trim_x0.w _ (pr (kx 0))) m
theorem r1_trim_X0_k {m : Nat} (HG : ∀ f, SemOK cxP f (r1_trim_G (R := R) f)) : LoopSem cxP Tryz.f142.ntmps 0 (lpC (bodyOf Tryz.f142) 0) (r1_trim_X0 (R := R) (r1_trim_L0 m) m) := loopA_ok C HG (by kernel_rfl) (show loopsIn (lpC (bodyOf Tryz.f142) 0) = [] from by kernel_rfl) (.nil _) m (fun _ _ => rfl) rfl (r1_trim_S0_e m)
def r1_trim_a := aX (aC (aT 7) <| aN) (aN)
def r1_trim_h (F : Y_r1_trim R) := fun a0 (κ : Ko R) => F a0 (fun r => κ (.st 7 r) [])
def r1_trim_s (F : Y_r1_trim R) : PSem R := semOf [some (false, 7)] (rawA r1_trim_a (r1_trim_h F))
theorem r1_trim_e (m : Nat) (l0 : r1_trim_V0 R) : r1_trim_a.w _ (fun x κ => pFun tb (r1_trim_G (R := R)) 0 [r1_trim_X0 l0 m] [some (false, 7)] Tryz.f142 x.1 x.2 κ) = r1_trim_h (r1_trim_F m l0) := by kernel_rfl
theorem r1_trim_k (m : Nat) : SemOK cxP 142 (r1_trim_s (R := R) (r1_trim m)) :=
 have HG : ∀ f, SemOK cxP f (r1_trim_G (R := R) f) := tabG_ok .nil
 semOf_ok (rawA_ok C HG (fn_of Tryz.func142) rfl rfl (by kernel_rfl) (show loopsIn (bodyOf Tryz.f142) = [(lpC (bodyOf Tryz.f142) 0)] from by kernel_rfl) (.cons (r1_trim_X0_k HG) (.nil _)) (r1_trim_e m (r1_trim_L0 m)))
def r1_less_G : FuncId → PSem R := tabG []
def r1_less_l0 : LpS := ⟨[(5, .any), (1, .any), (0, .any)], [], [(4, .any)]⟩
def r1_less_a0 := aX (aC (aI .i64) <| aC (aL 8) <| aC (aL 8) <| aN) (aN)
def r1_less_x0 := aQ (aX (aN) (aN))
def r1_less_z0 := aX (aC aB <| aN) (aN)
theorem r1_less_S0_e (m : Nat) (ρ : Kr R) (kx : Kx R) (kr : Kr R) : roundA tb (r1_less_G) 0 Tryz.f144 (lpC (bodyOf Tryz.f144) 0) [] r1_less_l0 r1_less_a0 ρ kx kr = r1_less_S0 m (r1_less_a0.w _ (pr ρ)) (r1_less_x0.w _ (pr (kx 0))) (r1_less_z0.w _ (pr kr)) := by kernel_rfl
def r1_less_X0 (l : r1_less_V0 R) (m : Nat) : LoopH R := loopA r1_less_l0 r1_less_a0 fun kx kr => l (r1_less_x0.w _ (pr (kx 0))) (r1_less_z0.w _ (pr kr)) m
theorem r1_less_X0_k {m : Nat} (HG : ∀ f, SemOK cxP f (r1_less_G (R := R) f)) : LoopSem cxP Tryz.f144.ntmps 0 (lpC (bodyOf Tryz.f144) 0) (r1_less_X0 (R := R) (r1_less_L0 m) m) := loopA_ok C HG (by kernel_rfl) (show loopsIn (lpC (bodyOf Tryz.f144) 0) = [] from by kernel_rfl) (.nil _) m (fun _ _ => rfl) rfl (r1_less_S0_e m)
def r1_less_a := aX (aC (aL 8) <| aC (aL 8) <| aN) (aN)
def r1_less_h (F : Y_r1_less R) := fun a0 a1 (κ : Ko R) => F a0 a1 (fun r => κ (.bool r) [])
def r1_less_s (F : Y_r1_less R) : PSem R := semOf [some (true, 8), some (true, 8)] (rawA r1_less_a (r1_less_h F))
theorem r1_less_e (m : Nat) (l0 : r1_less_V0 R) : r1_less_a.w _ (fun x κ => pFun tb (r1_less_G (R := R)) 0 [r1_less_X0 l0 m] [none] Tryz.f144 x.1 x.2 κ) = r1_less_h (r1_less_F m l0) := by kernel_rfl
theorem r1_less_k (m : Nat) : SemOK cxP 144 (r1_less_s (R := R) (r1_less m)) :=
 have HG : ∀ f, SemOK cxP f (r1_less_G (R := R) f) := tabG_ok .nil
 semOf_ok (rawA_ok C HG (fn_of Tryz.func144) rfl rfl (by kernel_rfl) (show loopsIn (bodyOf Tryz.f144) = [(lpC (bodyOf Tryz.f144) 0)] from by kernel_rfl) (.cons (r1_less_X0_k HG) (.nil _)) (r1_less_e m (r1_less_L0 m)))
def r1_digit_a := aX (aC (aL 8) <| aC (aI .i64) <| aN) (aN)
def r1_digit_h (F : Y_r1_digit R) := fun a0 a1 (κ : Ko R) => F a0 a1 (fun r => κ (.int .u64 r) [])
def r1_digit_s (F : Y_r1_digit R) : PSem R := semOf [some (true, 8), none] (rawA r1_digit_a (r1_digit_h F))
theorem r1_digit_e (m : Nat) : r1_digit_a.w _ (fun x κ => pFun tb (tabG (R := R) []) 0 [] [none] Tryz.f145 x.1 x.2 κ) = r1_digit_h (r1_digit_F m) := by kernel_rfl
theorem r1_digit_k (m : Nat) : SemOK cxP 145 (r1_digit_s (R := R) (r1_digit m)) := semOf_ok (raw0 C (tabG_ok .nil) (fn_of Tryz.func145) rfl rfl (by kernel_rfl) (by kernel_rfl) (r1_digit_e m))
def r9_letter_a := aX (aC (aI .u8) <| aN) (aN)
def r9_letter_h (F : Y_r9_letter R) := fun a0 (κ : Ko R) => F a0 (fun r => κ (.bool r) [])
def r9_letter_s (F : Y_r9_letter R) : PSem R := semOf [none] (rawA r9_letter_a (r9_letter_h F))
theorem r9_letter_e (m : Nat) : r9_letter_a.w _ (fun x κ => pFun tb (tabG (R := R) []) 0 [] [none] Tryz.f146 x.1 x.2 κ) = r9_letter_h (r9_letter_F m) := by kernel_rfl
theorem r9_letter_k (m : Nat) : SemOK cxP 146 (r9_letter_s (R := R) (r9_letter m)) := semOf_ok (raw0 C (tabG_ok .nil) (fn_of Tryz.func146) rfl rfl (by kernel_rfl) (by kernel_rfl) (r9_letter_e m))
def r9_digit_a := aX (aC (aI .u8) <| aN) (aN)
def r9_digit_h (F : Y_r9_digit R) := fun a0 (κ : Ko R) => F a0 (fun r => κ (.bool r) [])
def r9_digit_s (F : Y_r9_digit R) : PSem R := semOf [none] (rawA r9_digit_a (r9_digit_h F))
theorem r9_digit_e (m : Nat) : r9_digit_a.w _ (fun x κ => pFun tb (tabG (R := R) []) 0 [] [none] Tryz.f147 x.1 x.2 κ) = r9_digit_h (r9_digit_F m) := by kernel_rfl
theorem r9_digit_k (m : Nat) : SemOK cxP 147 (r9_digit_s (R := R) (r9_digit m)) := semOf_ok (raw0 C (tabG_ok .nil) (fn_of Tryz.func147) rfl rfl (by kernel_rfl) (by kernel_rfl) (r9_digit_e m))
end
end Go.Pm
namespace Go.Pm
open Go Go.EvM Go.Pv Go.Proofs
set_option maxRecDepth 100000
set_option linter.unusedVariables false
set_option linter.unusedSectionVars false
noncomputable section
variable {R : Type}
def r9_Kept_G : FuncId → PSem R := tabG []
def r9_Kept_l0 : LpS := ⟨[(4, .any), (0, .any), (3, .any)], [], [(2, .any)]⟩
def r9_Kept_a0 := aX (aC (aI .i64) <| aC aS <| aC (aO 0) <| aN) (aC (aA 2) <| aN)
def r9_Kept_x0 := aQ (aX (aN) (aN))
def r9_Kept_z0 := aX (aC aB <| aN) (aN)
theorem r9_Kept_S0_e (m : Nat) (ρ : Kr R) (kx : Kx R) (kr : Kr R) : roundA tb (r9_Kept_G) 0 Tryz.f148 (lpC (bodyOf Tryz.f148) 0) [] r9_Kept_l0 r9_Kept_a0 ρ kx kr = r9_Kept_S0 m (r9_Kept_a0.w _ (pr ρ)) (r9_Kept_x0.w _ (pr (kx 0))) (r9_Kept_z0.w _ (pr kr)) := by kernel_rfl
def r9_Kept_X0 (l : r9_Kept_V0 R) (m : Nat) : LoopH R := loopA r9_Kept_l0 r9_Kept_a0 fun kx kr => l (r9_Kept_x0.w _ (pr (kx 0))) (r9_Kept_z0.w _ (pr kr)) m
theorem r9_Kept_X0_k {m : Nat} (HG : ∀ f, SemOK cxP f (r9_Kept_G (R := R) f)) : LoopSem cxP Tryz.f148.ntmps 0 (lpC (bodyOf Tryz.f148) 0) (r9_Kept_X0 (R := R) (r9_Kept_L0 m) m) := loopA_ok C HG (by kernel_rfl) (show loopsIn (lpC (bodyOf Tryz.f148) 0) = [] from by kernel_rfl) (.nil _) m (fun _ _ => rfl) rfl (r9_Kept_S0_e m)
def r9_Kept_a := aX (aC aS <| aN) (aN)
def r9_Kept_h (F : Y_r9_Kept R) := fun a0 (κ : Ko R) => F a0 (fun r => κ (.bool r) [])
def r9_Kept_s (F : Y_r9_Kept R) : PSem R := semOf [none] (rawA r9_Kept_a (r9_Kept_h F))
theorem r9_Kept_e (m : Nat) (l0 : r9_Kept_V0 R) : r9_Kept_a.w _ (fun x κ => pFun tb (r9_Kept_G (R := R)) 0 [r9_Kept_X0 l0 m] [none] Tryz.f148 x.1 x.2 κ) = r9_Kept_h (r9_Kept_F m l0) := by kernel_rfl
theorem r9_Kept_k (m : Nat) : SemOK cxP 148 (r9_Kept_s (R := R) (r9_Kept m)) :=
 have HG : ∀ f, SemOK cxP f (r9_Kept_G (R := R) f) := tabG_ok .nil
 semOf_ok (rawA_ok C HG (fn_of Tryz.func148) rfl rfl (by kernel_rfl) (show loopsIn (bodyOf Tryz.f148) = [(lpC (bodyOf Tryz.f148) 0)] from by kernel_rfl) (.cons (r9_Kept_X0_k HG) (.nil _)) (r9_Kept_e m (r9_Kept_L0 m)))
def r9_sign_G : FuncId → PSem R := tabG []
def r9_sign_l1 : LpS := ⟨[(0, .any), (6, .any), (5, .any)], [], [(2, .any)]⟩
def r9_sign_a1 := aX (aC aS <| aC (aI .i64) <| aC aS <| aN) (aN)
def r9_sign_x1 := aQ (aX (aN) (aN))
def r9_sign_z1 := aX (aC aS <| aN) (aN)
theorem r9_sign_S1_e (m : Nat) (ρ : Kr R) (kx : Kx R) (kr : Kr R) : roundA tb (r9_sign_G) 0 Tryz.f152 (lpC (bodyOf Tryz.f152) 1) [] r9_sign_l1 r9_sign_a1 ρ kx kr = r9_sign_S1 m (r9_sign_a1.w _ (pr ρ)) (r9_sign_x1.w _ (pr (kx 2))) (r9_sign_z1.w _ (pr kr)) := by kernel_rfl
def r9_sign_X1 (l : r9_sign_V1 R) (m : Nat) : LoopH R := loopA r9_sign_l1 r9_sign_a1 fun kx kr => l (r9_sign_x1.w _ (pr (kx 2))) (r9_sign_z1.w _ (pr kr)) m
theorem r9_sign_X1_k {m : Nat} (HG : ∀ f, SemOK cxP f (r9_sign_G (R := R) f)) : LoopSem cxP Tryz.f152.ntmps 0 (lpC (bodyOf Tryz.f152) 1) (r9_sign_X1 (R := R) (r9_sign_L1 m) m) := loopA_ok C HG (by kernel_rfl) (show loopsIn (lpC (bodyOf Tryz.f152) 1) = [] from by kernel_rfl) (.nil _) m (fun _ _ => rfl) rfl (r9_sign_S1_e m)
def r9_sign_l0 : LpS := ⟨[(4, .any), (3, .any), (0, .any)], [(0, .any)], [(2, .any)]⟩
def r9_sign_a0 := aX (aC (aI .i64) <| aC (aO 0) <| aC aS <| aN) (aC (aA 2) <| aN)
def r9_sign_x0 := aX (aC aS <| aN) (aN)
def r9_sign_z0 := aX (aC aS <| aN) (aN)
theorem r9_sign_S0_e (m : Nat) (ρ : Kr R) (kx : Kx R) (kr : Kr R) : roundA tb (r9_sign_G) 0 Tryz.f152 (lpC (bodyOf Tryz.f152) 0) [] r9_sign_l0 r9_sign_a0 ρ kx kr = r9_sign_S0 m (r9_sign_a0.w _ (pr ρ)) (r9_sign_x0.w _ (pr (kx 0))) (r9_sign_z0.w _ (pr kr)) := by kernel_rfl
def r9_sign_X0 (l : r9_sign_V0 R) (m : Nat) : LoopH R := loopA r9_sign_l0 r9_sign_a0 fun kx kr => l (r9_sign_x0.w _ (pr (kx 0))) (r9_sign_z0.w _ (pr kr)) m
theorem r9_sign_X0_k {m : Nat} (HG : ∀ f, SemOK cxP f (r9_sign_G (R := R) f)) : LoopSem cxP Tryz.f152.ntmps 0 (lpC (bodyOf Tryz.f152) 0) (r9_sign_X0 (R := R) (r9_sign_L0 m) m) := loopA_ok C HG (by kernel_rfl) (show loopsIn (lpC (bodyOf Tryz.f152) 0) = [] from by kernel_rfl) (.nil _) m (fun _ _ => rfl) rfl (r9_sign_S0_e m)
def r9_sign_a := aX (aC aS <| aN) (aN)
def r9_sign_h (F : Y_r9_sign R) := fun a0 (κ : Ko R) => F a0 (fun r => κ (.str r) [])
def r9_sign_s (F : Y_r9_sign R) : PSem R := semOf [none] (rawA r9_sign_a (r9_sign_h F))
theorem r9_sign_e (m : Nat) (l0 : r9_sign_V0 R) (l1 : r9_sign_V1 R) : r9_sign_a.w _ (fun x κ => pFun tb (r9_sign_G (R := R)) 0 [r9_sign_X0 l0 m, r9_sign_X1 l1 m] [none] Tryz.f152 x.1 x.2 κ) = r9_sign_h (r9_sign_F m l0 l1) := by kernel_rfl
theorem r9_sign_k (m : Nat) : SemOK cxP 152 (r9_sign_s (R := R) (r9_sign m)) :=
 have HG : ∀ f, SemOK cxP f (r9_sign_G (R := R) f) := tabG_ok .nil
 semOf_ok (rawA_ok C HG (fn_of Tryz.func152) rfl rfl (by kernel_rfl) (show loopsIn (bodyOf Tryz.f152) = [(lpC (bodyOf Tryz.f152) 0), (lpC (bodyOf Tryz.f152) 1)] from by kernel_rfl) (.cons (r9_sign_X0_k HG) (.cons (r9_sign_X1_k HG) (.nil _))) (r9_sign_e m (r9_sign_L0 m) (r9_sign_L1 m)))
def r9p_w_a := aX (aC (aP 0 0) <| aN) (aC o9 <| aN)
def r9p_w_h (F : Y_r9p_w R) := fun o0 (κ : Ko R) => F o0 (fun r w0 => κ (.st 10 r) [w9 w0])
def r9p_w_s (F : Y_r9p_w R) : PSem R := semOf [none] (rawA r9p_w_a (r9p_w_h F))
theorem r9p_w_e (m : Nat) : r9p_w_a.w _ (fun x κ => pFun tb (tabG (R := R) []) 1 [] [some (false, 10)] Tryz.f153 x.1 x.2 κ) = r9p_w_h (r9p_w_F m) := by kernel_rfl
theorem r9p_w_k (m : Nat) : SemOK cxP 153 (r9p_w_s (R := R) (r9p_w m)) := semOf_ok (raw0 C (tabG_ok .nil) (fn_of Tryz.func153) rfl rfl (by kernel_rfl) (by kernel_rfl) (r9p_w_e m))
def r1_Leap_a := aX (aC (aI .i64) <| aN) (aN)
def r1_Leap_h (F : Y_r1_Leap R) := fun a0 (κ : Ko R) => F a0 (fun r => κ (.bool r) [])
def r1_Leap_s (F : Y_r1_Leap R) : PSem R := semOf [none] (rawA r1_Leap_a (r1_Leap_h F))
theorem r1_Leap_e (m : Nat) : r1_Leap_a.w _ (fun x κ => pFun tb (tabG (R := R) []) 0 [] [none] Tryz.f168 x.1 x.2 κ) = r1_Leap_h (r1_Leap_F m) := by kernel_rfl
theorem r1_Leap_k (m : Nat) : SemOK cxP 168 (r1_Leap_s (R := R) (r1_Leap m)) := semOf_ok (raw0 C (tabG_ok .nil) (fn_of Tryz.func168) rfl rfl (by kernel_rfl) (by kernel_rfl) (r1_Leap_e m))
def typ_number_a := aX (aC (aI .i64) <| aN) (aN)
def typ_number_h (F : Y_typ_number R) := fun a0 (κ : Ko R) => F a0 (fun r => κ (.bool r) [])
def typ_number_s (F : Y_typ_number R) : PSem R := semOf [none] (rawA typ_number_a (typ_number_h F))
theorem typ_number_e (m : Nat) : typ_number_a.w _ (fun x κ => pFun tb (tabG (R := R) []) 0 [] [none] Tryz.f174 x.1 x.2 κ) = typ_number_h (typ_number_F m) := by kernel_rfl
theorem typ_number_k (m : Nat) : SemOK cxP 174 (typ_number_s (R := R) (typ_number m)) := semOf_ok (raw0 C (tabG_ok .nil) (fn_of Tryz.func174) rfl rfl (by kernel_rfl) (by kernel_rfl) (typ_number_e m))
def num_narrow_a := aX (aC (aT 11) <| aN) (aN)
def num_narrow_h (F : Y_num_narrow R) := fun a0 (κ : Ko R) => F a0 (fun r_0 r_1 => κ (.tup [.int .i64 r_0, .bool r_1]) [])
def num_narrow_s (F : Y_num_narrow R) : PSem R := semOf [some (false, 11)] (rawA num_narrow_a (num_narrow_h F))
theorem num_narrow_e (m : Nat) : num_narrow_a.w _ (fun x κ => pFun tb (tabG (R := R) []) 0 [] [none, none] Tryz.f175 x.1 x.2 κ) = num_narrow_h (num_narrow_F m) := by kernel_rfl
theorem num_narrow_k (m : Nat) : SemOK cxP 175 (num_narrow_s (R := R) (num_narrow m)) := semOf_ok (raw0 C (tabG_ok .nil) (fn_of Tryz.func175) rfl rfl (by kernel_rfl) (by kernel_rfl) (num_narrow_e m))
def r9_number_G : FuncId → PSem R := tabG []
def r9_number_l0 : LpS := ⟨[(7, .any), (1, .any), (0, .any), (6, .any)], [(6, .any)], [(4, .any), (5, .any)]⟩
def r9_number_a0 := aX (aC (aI .i64) <| aC (aI .i64) <| aC aS <| aC (aI .i64) <| aN) (aN)
def r9_number_x0 := aX (aC (aI .i64) <| aN) (aN)
def r9_number_z0 := aX (aC (aI .i64) <| aC aB <| aN) (aN)
theorem r9_number_S0_e (m : Nat) (ρ : Kr R) (kx : Kx R) (kr : Kr R) : roundA tb (r9_number_G) 0 Tryz.f181 (lpC (bodyOf Tryz.f181) 0) [] r9_number_l0 r9_number_a0 ρ kx kr = r9_number_S0 m (r9_number_a0.w _ (pr ρ)) (r9_number_x0.w _ (pr (kx 0))) (r9_number_z0.w _ (pr kr)) := by kernel_rfl
def r9_number_X0 (l : r9_number_V0 R) (m : Nat) : LoopH R := loopA r9_number_l0 r9_number_a0 fun kx kr => l (r9_number_x0.w _ (pr (kx 0))) (r9_number_z0.w _ (pr kr)) m
theorem r9_number_X0_k {m : Nat} (HG : ∀ f, SemOK cxP f (r9_number_G (R := R) f)) : LoopSem cxP Tryz.f181.ntmps 0 (lpC (bodyOf Tryz.f181) 0) (r9_number_X0 (R := R) (r9_number_L0 m) m) := loopA_ok C HG (by kernel_rfl) (show loopsIn (lpC (bodyOf Tryz.f181) 0) = [] from by kernel_rfl) (.nil _) m (fun _ _ => rfl) rfl (r9_number_S0_e m)
def r9_number_a := aX (aC aS <| aC (aI .i64) <| aN) (aN)
def r9_number_h (F : Y_r9_number R) := fun a0 a1 (κ : Ko R) => F a0 a1 (fun r_0 r_1 => κ (.tup [.int .i64 r_0, .bool r_1]) [])
def r9_number_s (F : Y_r9_number R) : PSem R := semOf [none, none] (rawA r9_number_a (r9_number_h F))
theorem r9_number_e (m : Nat) (l0 : r9_number_V0 R) : r9_number_a.w _ (fun x κ => pFun tb (r9_number_G (R := R)) 0 [r9_number_X0 l0 m] [none, none] Tryz.f181 x.1 x.2 κ) = r9_number_h (r9_number_F m l0) := by kernel_rfl
theorem r9_number_k (m : Nat) : SemOK cxP 181 (r9_number_s (R := R) (r9_number m)) :=
 have HG : ∀ f, SemOK cxP f (r9_number_G (R := R) f) := tabG_ok .nil
 semOf_ok (rawA_ok C HG (fn_of Tryz.func181) rfl rfl (by kernel_rfl) (show loopsIn (bodyOf Tryz.f181) = [(lpC (bodyOf Tryz.f181) 0)] from by kernel_rfl) (.cons (r9_number_X0_k HG) (.nil _)) (r9_number_e m (r9_number_L0 m)))
def r9_Kind_G : FuncId → PSem R := tabG []
def r9_Kind_l0 : LpS := ⟨[(4, .any), (0, .any), (3, .any)], [], [(2, .any)]⟩
def r9_Kind_a0 := aX (aC (aI .i64) <| aC aS <| aC (aO 0) <| aN) (aC (aA 2) <| aN)
def r9_Kind_x0 := aQ (aX (aN) (aN))
def r9_Kind_z0 := aX (aC (aI .i64) <| aN) (aN)
theorem r9_Kind_S0_e (m : Nat) (ρ : Kr R) (kx : Kx R) (kr : Kr R) : roundA tb (r9_Kind_G) 0 Tryz.f182 (lpC (bodyOf Tryz.f182) 0) [] r9_Kind_l0 r9_Kind_a0 ρ kx kr = r9_Kind_S0 m (r9_Kind_a0.w _ (pr ρ)) (r9_Kind_x0.w _ (pr (kx 0))) (r9_Kind_z0.w _ (pr kr)) := by kernel_rfl
def r9_Kind_X0 (l : r9_Kind_V0 R) (m : Nat) : LoopH R := loopA r9_Kind_l0 r9_Kind_a0 fun kx kr => l (r9_Kind_x0.w _ (pr (kx 0))) (r9_Kind_z0.w _ (pr kr)) m
theorem r9_Kind_X0_k {m : Nat} (HG : ∀ f, SemOK cxP f (r9_Kind_G (R := R) f)) : LoopSem cxP Tryz.f182.ntmps 0 (lpC (bodyOf Tryz.f182) 0) (r9_Kind_X0 (R := R) (r9_Kind_L0 m) m) := loopA_ok C HG (by kernel_rfl) (show loopsIn (lpC (bodyOf Tryz.f182) 0) = [] from by kernel_rfl) (.nil _) m (fun _ _ => rfl) rfl (r9_Kind_S0_e m)
def r9_Kind_a := aX (aC aS <| aN) (aN)
def r9_Kind_h (F : Y_r9_Kind R) := fun a0 (κ : Ko R) => F a0 (fun r => κ (.int .i64 r) [])
def r9_Kind_s (F : Y_r9_Kind R) : PSem R := semOf [none] (rawA r9_Kind_a (r9_Kind_h F))
theorem r9_Kind_e (m : Nat) (l0 : r9_Kind_V0 R) : r9_Kind_a.w _ (fun x κ => pFun tb (r9_Kind_G (R := R)) 0 [r9_Kind_X0 l0 m] [none] Tryz.f182 x.1 x.2 κ) = r9_Kind_h (r9_Kind_F m l0) := by kernel_rfl
theorem r9_Kind_k (m : Nat) : SemOK cxP 182 (r9_Kind_s (R := R) (r9_Kind m)) :=
 have HG : ∀ f, SemOK cxP f (r9_Kind_G (R := R) f) := tabG_ok .nil
 semOf_ok (rawA_ok C HG (fn_of Tryz.func182) rfl rfl (by kernel_rfl) (show loopsIn (bodyOf Tryz.f182) = [(lpC (bodyOf Tryz.f182) 0)] from by kernel_rfl) (.cons (r9_Kind_X0_k HG) (.nil _)) (r9_Kind_e m (r9_Kind_L0 m)))
def r9p_out_a := aX (aC (aP 0 0) <| aN) (aC o9 <| aN)
def r9p_out_h (F : Y_r9p_out R) := fun o0 (κ : Ko R) => F o0 (fun w0 => κ (.tup []) [w9 w0])
def r9p_out_s (F : Y_r9p_out R) : PSem R := semOf [none] (rawA r9p_out_a (r9p_out_h F))
theorem r9p_out_e (m : Nat) : r9p_out_a.w _ (fun x κ => pFun tb (tabG (R := R) []) 1 [] [] Tryz.f185 x.1 x.2 κ) = r9p_out_h (r9p_out_F m) := by kernel_rfl
theorem r9p_out_k (m : Nat) : SemOK cxP 185 (r9p_out_s (R := R) (r9p_out m)) := semOf_ok (raw0 C (tabG_ok .nil) (fn_of Tryz.func185) rfl rfl (by kernel_rfl) (by kernel_rfl) (r9p_out_e m))
def b_Len64_a := aX (aC (aI .u64) <| aN) (aN)
def b_Len64_h (F : Y_b_Len64 R) := fun a0 (κ : Ko R) => F a0 (fun r => κ (.int .i64 r) [])
def b_Len64_s (F : Y_b_Len64 R) : PSem R := semOf [none] (rawA b_Len64_a (b_Len64_h F))
theorem b_Len64_e (m : Nat) : b_Len64_a.w _ (fun x κ => pFun tb (tabG (R := R) []) 0 [] [none] Tryz.f200 x.1 x.2 κ) = b_Len64_h (b_Len64_F m) := by kernel_rfl
theorem b_Len64_k (m : Nat) : SemOK cxP 200 (b_Len64_s (R := R) (b_Len64 m)) := semOf_ok (raw0 C (tabG_ok .nil) (fn_of Tryz.func200) rfl rfl (by kernel_rfl) (by kernel_rfl) (b_Len64_e m))
def b_Mul64_a := aX (aC (aI .u64) <| aC (aI .u64) <| aN) (aN)
def b_Mul64_h (F : Y_b_Mul64 R) := fun a0 a1 (κ : Ko R) => F a0 a1 (fun r_0 r_1 => κ (.tup [.int .u64 r_0, .int .u64 r_1]) [])
def b_Mul64_s (F : Y_b_Mul64 R) : PSem R := semOf [none, none] (rawA b_Mul64_a (b_Mul64_h F))
theorem b_Mul64_e (m : Nat) : b_Mul64_a.w _ (fun x κ => pFun tb (tabG (R := R) []) 0 [] [none, none] Tryz.f203 x.1 x.2 κ) = b_Mul64_h (b_Mul64_F m) := by kernel_rfl
theorem b_Mul64_k (m : Nat) : SemOK cxP 203 (b_Mul64_s (R := R) (b_Mul64 m)) := semOf_ok (raw0 C (tabG_ok .nil) (fn_of Tryz.func203) rfl rfl (by kernel_rfl) (by kernel_rfl) (b_Mul64_e m))
def num_Of_a := aX (aC (aI .i64) <| aN) (aN)
def num_Of_h (F : Y_num_Of R) := fun a0 (κ : Ko R) => F a0 (fun r => κ (.st 11 r) [])
def num_Of_s (F : Y_num_Of R) : PSem R := semOf [none] (rawA num_Of_a (num_Of_h F))
theorem num_Of_e (m : Nat) : num_Of_a.w _ (fun x κ => pFun tb (tabG (R := R) []) 0 [] [some (false, 11)] Tryz.f207 x.1 x.2 κ) = num_Of_h (num_Of_F m) := by kernel_rfl
theorem num_Of_k (m : Nat) : SemOK cxP 207 (num_Of_s (R := R) (num_Of m)) := semOf_ok (raw0 C (tabG_ok .nil) (fn_of Tryz.func207) rfl rfl (by kernel_rfl) (by kernel_rfl) (num_Of_e m))
def syn_Same_a := aX (aC (aT 5) <| aC (aT 5) <| aN) (aN)
def syn_Same_h (F : Y_syn_Same R) := fun a0 a1 (κ : Ko R) => F a0 a1 (fun r => κ (.bool r) [])
def syn_Same_w (F : Y_syn_Same R) : PSem R := rawA syn_Same_a (syn_Same_h F)
def syn_Same_s (F : Y_syn_Same R) : PSem R := semOf [some (false, 5), some (false, 5)] (syn_Same_w F)
def slices_EqualFunc_a := aX (aC (aL 5) <| aC (aL 5) <| aC (aF 45) <| aN) (aN)
def slices_EqualFunc_h (F : Y_slices_EqualFunc R) := fun a0 a1 (κ : Ko R) => F a0 a1 (fun r => κ (.bool r) [])
def slices_EqualFunc_w (F : Y_slices_EqualFunc R) : PSem R := rawA slices_EqualFunc_a (slices_EqualFunc_h F)
def slices_EqualFunc_s (F : Y_slices_EqualFunc R) : PSem R := semOf [some (true, 5), some (true, 5), none] (slices_EqualFunc_w F)
structure G_syn_SameOK (g : G_syn_Same R) : Prop where
  syn_Same : SemOK cxP 45 (syn_Same_s g.syn_Same)
  slices_EqualFunc : SemOK cxP 104 (slices_EqualFunc_s g.slices_EqualFunc)
def syn_Same_G (c0 : Y_slices_EqualFunc R) : FuncId → PSem R := tabG [(104, slices_EqualFunc_s c0)]
theorem syn_Same_e (m : Nat) (c0 : Y_slices_EqualFunc R) : syn_Same_a.w _ (fun x κ => pFun tb (syn_Same_G (R := R) c0) 0 [] [none] Tryz.f45 x.1 x.2 κ) = syn_Same_h (syn_Same_F m c0) := by kernel_rfl
theorem syn_Same_st (m : Nat) (g : G_syn_Same R) (hg : G_syn_SameOK g) : SemC cxP 45 (syn_Same_w (syn_Same_B m g)) :=
 have HG : ∀ f, SemOK cxP f (syn_Same_G (R := R) g.slices_EqualFunc f) := tabG_ok (.cons hg.slices_EqualFunc .nil)
 rawA_ok C HG (fn_of Tryz.func45) rfl rfl (by kernel_rfl) (show loopsIn (bodyOf Tryz.f45) = [] from by kernel_rfl) (.nil _) (syn_Same_e m g.slices_EqualFunc)
theorem syn_Same_zz : SemC cxP 45 (syn_Same_w (R := R) fun _ _ _ => none) := rawA_z rfl
def slices_EqualFunc_G (c0 : Y_syn_Same R) : FuncId → PSem R := tabG [(45, syn_Same_s c0)]
def slices_EqualFunc_l0 : LpS := ⟨[(17, .any), (2, .any), (1, .any), (15, .any), (16, .any)], [], [(6, .any)]⟩
def slices_EqualFunc_a0 := aX (aC (aI .i64) <| aC (aF 45) <| aC (aL 5) <| aC (aL 5) <| aC (aI .i64) <| aN) (aN)
def slices_EqualFunc_x0 := aQ (aX (aN) (aN))
def slices_EqualFunc_z0 := aX (aC aB <| aN) (aN)
theorem slices_EqualFunc_S0_e (m : Nat) (c0 : Y_syn_Same R) (ρ : Kr R) (kx : Kx R) (kr : Kr R) : roundA tb (slices_EqualFunc_G c0) 0 Tryz.f104 (lpC (bodyOf Tryz.f104) 0) [] slices_EqualFunc_l0 slices_EqualFunc_a0 ρ kx kr = slices_EqualFunc_S0 m c0 (slices_EqualFunc_a0.w _ (pr ρ)) (slices_EqualFunc_x0.w _ (pr (kx 0))) (slices_EqualFunc_z0.w _ (pr kr)) := by kernel_rfl
def slices_EqualFunc_X0 (l : slices_EqualFunc_V0 R) (m : Nat) : LoopH R := loopA slices_EqualFunc_l0 slices_EqualFunc_a0 fun kx kr => l (slices_EqualFunc_x0.w _ (pr (kx 0))) (slices_EqualFunc_z0.w _ (pr kr)) m
theorem slices_EqualFunc_X0_k {m : Nat} {c0 : Y_syn_Same R} (HG : ∀ f, SemOK cxP f (slices_EqualFunc_G (R := R) c0 f)) : LoopSem cxP Tryz.f104.ntmps 0 (lpC (bodyOf Tryz.f104) 0) (slices_EqualFunc_X0 (R := R) (slices_EqualFunc_L0 m c0) m) := loopA_ok C HG (by kernel_rfl) (show loopsIn (lpC (bodyOf Tryz.f104) 0) = [] from by kernel_rfl) (.nil _) m (fun _ _ => rfl) rfl (slices_EqualFunc_S0_e m c0)
theorem slices_EqualFunc_e (m : Nat) (c0 : Y_syn_Same R) (l0 : slices_EqualFunc_V0 R) : slices_EqualFunc_a.w _ (fun x κ => pFun tb (slices_EqualFunc_G (R := R) c0) 0 [slices_EqualFunc_X0 l0 m] [none] Tryz.f104 x.1 x.2 κ) = slices_EqualFunc_h (slices_EqualFunc_F m l0) := by kernel_rfl
theorem slices_EqualFunc_st (m : Nat) (g : G_syn_Same R) (hg : G_syn_SameOK g) : SemC cxP 104 (slices_EqualFunc_w (slices_EqualFunc_B m g)) :=
 have HG : ∀ f, SemOK cxP f (slices_EqualFunc_G (R := R) g.syn_Same f) := tabG_ok (.cons hg.syn_Same .nil)
 rawA_ok C HG (fn_of Tryz.func104) rfl rfl (by kernel_rfl) (show loopsIn (bodyOf Tryz.f104) = [(lpC (bodyOf Tryz.f104) 0)] from by kernel_rfl) (.cons (slices_EqualFunc_X0_k HG) (.nil _)) (slices_EqualFunc_e m g.syn_Same (slices_EqualFunc_L0 m g.syn_Same))
theorem slices_EqualFunc_zz : SemC cxP 104 (slices_EqualFunc_w (R := R) fun _ _ _ => none) := rawA_z rfl
theorem G_syn_Same_ok : ∀ m, G_syn_SameOK (G_syn_Same_r (R := R) m)
  | 0 => ⟨semOf_ok syn_Same_zz, semOf_ok slices_EqualFunc_zz⟩
  | j + 1 => ⟨semOf_ok (syn_Same_st j _ (G_syn_Same_ok j)), semOf_ok (slices_EqualFunc_st j _ (G_syn_Same_ok j))⟩
theorem syn_Same_k (m : Nat) : SemOK cxP 45 (syn_Same_s (R := R) (syn_Same m)) := (G_syn_Same_ok m).syn_Same
theorem slices_EqualFunc_k (m : Nat) : SemOK cxP 104 (slices_EqualFunc_s (R := R) (slices_EqualFunc m)) := (G_syn_Same_ok m).slices_EqualFunc
def slices_IndexFunc_G (c0 : Y_fold_Expr_1 R) : FuncId → PSem R := tabG [(106, fold_Expr_1_s c0)]
def slices_IndexFunc_l0 : LpS := ⟨[(8, .any), (0, .any), (1, .any), (7, .any)], [], [(4, .any)]⟩
def slices_IndexFunc_a0 := aX (aC (aI .i64) <| aC (aL 5) <| aC (aF 106) <| aC (aI .i64) <| aN) (aN)
def slices_IndexFunc_x0 := aQ (aX (aN) (aN))
def slices_IndexFunc_z0 := aX (aC (aI .i64) <| aN) (aN)
theorem slices_IndexFunc_S0_e (m : Nat) (c0 : Y_fold_Expr_1 R) (ρ : Kr R) (kx : Kx R) (kr : Kr R) : roundA tb (slices_IndexFunc_G c0) 0 Tryz.f60 (lpC (bodyOf Tryz.f60) 0) [] slices_IndexFunc_l0 slices_IndexFunc_a0 ρ kx kr = slices_IndexFunc_S0 m c0 (slices_IndexFunc_a0.w _ (pr ρ)) (slices_IndexFunc_x0.w _ (pr (kx 0))) (slices_IndexFunc_z0.w _ (pr kr)) := by kernel_rfl
def slices_IndexFunc_X0 (l : slices_IndexFunc_V0 R) (m : Nat) : LoopH R := loopA slices_IndexFunc_l0 slices_IndexFunc_a0 fun kx kr => l (slices_IndexFunc_x0.w _ (pr (kx 0))) (slices_IndexFunc_z0.w _ (pr kr)) m
theorem slices_IndexFunc_X0_k {m : Nat} {c0 : Y_fold_Expr_1 R} (HG : ∀ f, SemOK cxP f (slices_IndexFunc_G (R := R) c0 f)) : LoopSem cxP Tryz.f60.ntmps 0 (lpC (bodyOf Tryz.f60) 0) (slices_IndexFunc_X0 (R := R) (slices_IndexFunc_L0 m c0) m) := loopA_ok C HG (by kernel_rfl) (show loopsIn (lpC (bodyOf Tryz.f60) 0) = [] from by kernel_rfl) (.nil _) m (fun _ _ => rfl) rfl (slices_IndexFunc_S0_e m c0)
def slices_IndexFunc_a := aX (aC (aL 5) <| aC (aF 106) <| aN) (aN)
def slices_IndexFunc_h (F : Y_slices_IndexFunc R) := fun a0 (κ : Ko R) => F a0 (fun r => κ (.int .i64 r) [])
def slices_IndexFunc_s (F : Y_slices_IndexFunc R) : PSem R := semOf [some (true, 5), none] (rawA slices_IndexFunc_a (slices_IndexFunc_h F))
theorem slices_IndexFunc_e (m : Nat) (c0 : Y_fold_Expr_1 R) (l0 : slices_IndexFunc_V0 R) : slices_IndexFunc_a.w _ (fun x κ => pFun tb (slices_IndexFunc_G (R := R) c0) 0 [slices_IndexFunc_X0 l0 m] [none] Tryz.f60 x.1 x.2 κ) = slices_IndexFunc_h (slices_IndexFunc_F m l0) := by kernel_rfl
theorem slices_IndexFunc_k (m : Nat) : SemOK cxP 60 (slices_IndexFunc_s (R := R) (slices_IndexFunc m)) :=
 have HG : ∀ f, SemOK cxP f (slices_IndexFunc_G (R := R) (fold_Expr_1 m) f) := tabG_ok (.cons (fold_Expr_1_k m) .nil)
 semOf_ok (rawA_ok C HG (fn_of Tryz.func60) rfl rfl (by kernel_rfl) (show loopsIn (bodyOf Tryz.f60) = [(lpC (bodyOf Tryz.f60) 0)] from by kernel_rfl) (.cons (slices_IndexFunc_X0_k HG) (.nil _)) (slices_IndexFunc_e m (fold_Expr_1 m) (slices_IndexFunc_L0 m (fold_Expr_1 m))))
def mean_made_a := aX (aC (aI .i64) <| aC (aI .i64) <| aC aB <| aN) (aN)
def mean_made_h (F : Y_mean_made R) := fun a0 a1 a2 (κ : Ko R) => F a0 a1 a2 (fun r_0 r_1 => κ (.tup [.st 6 r_0, .int .i64 r_1]) [])
def mean_made_s (F : Y_mean_made R) : PSem R := semOf [none, none, none] (rawA mean_made_a (mean_made_h F))
theorem mean_made_e (m : Nat) (c0 : Y_mean_Fit R) : mean_made_a.w _ (fun x κ => pFun tb (tabG (R := R) [(129, mean_Fit_s c0)]) 0 [] [some (false, 6), none] Tryz.f90 x.1 x.2 κ) = mean_made_h (mean_made_F m c0) := by kernel_rfl
theorem mean_made_k (m : Nat) : SemOK cxP 90 (mean_made_s (R := R) (mean_made m)) := semOf_ok (raw0 C (tabG_ok (.cons (mean_Fit_k m) .nil)) (fn_of Tryz.func90) rfl rfl (by kernel_rfl) (by kernel_rfl) (mean_made_e m (mean_Fit m)))
def r1_Minus_a := aX (aC (aT 7) <| aN) (aN)
def r1_Minus_h (F : Y_r1_Minus R) := fun a0 (κ : Ko R) => F a0 (fun r => κ (.st 7 r) [])
def r1_Minus_s (F : Y_r1_Minus R) : PSem R := semOf [some (false, 7)] (rawA r1_Minus_a (r1_Minus_h F))
theorem r1_Minus_e (m : Nat) (c0 : Y_r1_trim R) : r1_Minus_a.w _ (fun x κ => pFun tb (tabG (R := R) [(142, r1_trim_s c0)]) 0 [] [some (false, 7)] Tryz.f98 x.1 x.2 κ) = r1_Minus_h (r1_Minus_F m c0) := by kernel_rfl
theorem r1_Minus_k (m : Nat) : SemOK cxP 98 (r1_Minus_s (R := R) (r1_Minus m)) := semOf_ok (raw0 C (tabG_ok (.cons (r1_trim_k m) .nil)) (fn_of Tryz.func98) rfl rfl (by kernel_rfl) (by kernel_rfl) (r1_Minus_e m (r1_trim m)))
def typ_One_a := aX (aC aS <| aC (aI .i64) <| aN) (aN)
def typ_One_h (F : Y_typ_One R) := fun a0 a1 (κ : Ko R) => F a0 a1 (fun r => κ (.int .i64 r) [])
def typ_One_s (F : Y_typ_One R) : PSem R := semOf [none, none] (rawA typ_One_a (typ_One_h F))
theorem typ_One_e (m : Nat) (c0 : Y_typ_number R) : typ_One_a.w _ (fun x κ => pFun tb (tabG (R := R) [(174, typ_number_s c0)]) 0 [] [none] Tryz.f133 x.1 x.2 κ) = typ_One_h (typ_One_F m c0) := by kernel_rfl
theorem typ_One_k (m : Nat) : SemOK cxP 133 (typ_One_s (R := R) (typ_One m)) := semOf_ok (raw0 C (tabG_ok (.cons (typ_number_k m) .nil)) (fn_of Tryz.func133) rfl rfl (by kernel_rfl) (by kernel_rfl) (typ_One_e m (typ_number m)))
def typ_sum_a := aX (aC aS <| aC (aI .i64) <| aC (aI .i64) <| aN) (aN)
def typ_sum_h (F : Y_typ_sum R) := fun a0 a1 a2 (κ : Ko R) => F a0 a1 a2 (fun r => κ (.int .i64 r) [])
def typ_sum_s (F : Y_typ_sum R) : PSem R := semOf [none, none, none] (rawA typ_sum_a (typ_sum_h F))
theorem typ_sum_e (m : Nat) (c0 : Y_typ_number R) : typ_sum_a.w _ (fun x κ => pFun tb (tabG (R := R) [(174, typ_number_s c0)]) 0 [] [none] Tryz.f134 x.1 x.2 κ) = typ_sum_h (typ_sum_F m c0) := by kernel_rfl
theorem typ_sum_k (m : Nat) : SemOK cxP 134 (typ_sum_s (R := R) (typ_sum m)) := semOf_ok (raw0 C (tabG_ok (.cons (typ_number_k m) .nil)) (fn_of Tryz.func134) rfl rfl (by kernel_rfl) (by kernel_rfl) (typ_sum_e m (typ_number m)))
def typ_product_a := aX (aC (aI .i64) <| aC (aI .i64) <| aN) (aN)
def typ_product_h (F : Y_typ_product R) := fun a0 a1 (κ : Ko R) => F a0 a1 (fun r => κ (.int .i64 r) [])
def typ_product_s (F : Y_typ_product R) : PSem R := semOf [none, none] (rawA typ_product_a (typ_product_h F))
theorem typ_product_e (m : Nat) (c0 : Y_typ_number R) : typ_product_a.w _ (fun x κ => pFun tb (tabG (R := R) [(174, typ_number_s c0)]) 0 [] [none] Tryz.f135 x.1 x.2 κ) = typ_product_h (typ_product_F m c0) := by kernel_rfl
theorem typ_product_k (m : Nat) : SemOK cxP 135 (typ_product_s (R := R) (typ_product m)) := semOf_ok (raw0 C (tabG_ok (.cons (typ_number_k m) .nil)) (fn_of Tryz.func135) rfl rfl (by kernel_rfl) (by kernel_rfl) (typ_product_e m (typ_number m)))
def r1_U_G (c0 : Y_r1_trim R) : FuncId → PSem R := tabG [(142, r1_trim_s c0)]
def r1_U_l0 : LpS := ⟨[(0, .any), (5, .arr 8), (4, .fcells [(1, 8)]), (1, .any)], [(4, .any), (5, .any), (1, .any)], []⟩
def r1_U_a0 := aX (aC (aI .u64) <| aC (aO 0) <| aC (aP 1 0) <| aC aB <| aN) (aC (aA 8) <| aC k7 <| aN)
def r1_U_x0 := aX (aC (aP 0 0) <| aC (aO 1) <| aC aB <| aN) (aC k7 <| aC (aA 8) <| aN)
theorem r1_U_S0_e (m : Nat) (c0 : Y_r1_trim R) (ρ : Kr R) (kx : Kx R) (kr : Kr R) : roundA tb (r1_U_G c0) 0 Tryz.f143 (lpC (bodyOf Tryz.f143) 0) [] r1_U_l0 r1_U_a0 ρ kx kr = r1_U_S0 m (r1_U_a0.w _ (pr ρ)) (r1_U_x0.w _ (pr (kx 0))) := by kernel_rfl
def r1_U_X0 (l : r1_U_V0 R) (m : Nat) : LoopH R := loopA r1_U_l0 r1_U_a0 fun kx kr => l (r1_U_x0.w _ (pr (kx 0))) m
theorem r1_U_X0_k {m : Nat} {c0 : Y_r1_trim R} (HG : ∀ f, SemOK cxP f (r1_U_G (R := R) c0 f)) : LoopSem cxP Tryz.f143.ntmps 0 (lpC (bodyOf Tryz.f143) 0) (r1_U_X0 (R := R) (r1_U_L0 m) m) := loopA_ok C HG (by kernel_rfl) (show loopsIn (lpC (bodyOf Tryz.f143) 0) = [] from by kernel_rfl) (.nil _) m (fun _ _ => rfl) rfl (r1_U_S0_e m c0)
def r1_U_a := aX (aC (aI .u64) <| aC aB <| aN) (aN)
def r1_U_h (F : Y_r1_U R) := fun a0 a1 (κ : Ko R) => F a0 a1 (fun r => κ (.st 7 r) [])
def r1_U_s (F : Y_r1_U R) : PSem R := semOf [none, none] (rawA r1_U_a (r1_U_h F))
theorem r1_U_e (m : Nat) (c0 : Y_r1_trim R) (l0 : r1_U_V0 R) : r1_U_a.w _ (fun x κ => pFun tb (r1_U_G (R := R) c0) 0 [r1_U_X0 l0 m] [some (false, 7)] Tryz.f143 x.1 x.2 κ) = r1_U_h (r1_U_F m c0 l0) := by kernel_rfl
theorem r1_U_k (m : Nat) : SemOK cxP 143 (r1_U_s (R := R) (r1_U m)) :=
 have HG : ∀ f, SemOK cxP f (r1_U_G (R := R) (r1_trim m) f) := tabG_ok (.cons (r1_trim_k m) .nil)
 semOf_ok (rawA_ok C HG (fn_of Tryz.func143) rfl rfl (by kernel_rfl) (show loopsIn (bodyOf Tryz.f143) = [(lpC (bodyOf Tryz.f143) 0)] from by kernel_rfl) (.cons (r1_U_X0_k HG) (.nil _)) (r1_U_e m (r1_trim m) (r1_U_L0 m)))
def r9_run_G (c0 : Y_r9_digit R) : FuncId → PSem R := tabG [(147, r9_digit_s c0)]
def r9_run_l0 : LpS := ⟨[(5, .any), (1, .any), (0, .any)], [(5, .any)], []⟩
def r9_run_a0 := aX (aC (aI .i64) <| aC (aI .i64) <| aC aS <| aN) (aN)
def r9_run_x0 := aX (aC (aI .i64) <| aN) (aN)
theorem r9_run_S0_e (m : Nat) (c0 : Y_r9_digit R) (ρ : Kr R) (kx : Kx R) (kr : Kr R) : roundA tb (r9_run_G c0) 0 Tryz.f150 (lpC (bodyOf Tryz.f150) 0) [] r9_run_l0 r9_run_a0 ρ kx kr = r9_run_S0 m c0 (r9_run_a0.w _ (pr ρ)) (r9_run_x0.w _ (pr (kx 0))) := by kernel_rfl
def r9_run_X0 (l : r9_run_V0 R) (m : Nat) : LoopH R := loopA r9_run_l0 r9_run_a0 fun kx kr => l (r9_run_x0.w _ (pr (kx 0))) m
theorem r9_run_X0_k {m : Nat} {c0 : Y_r9_digit R} (HG : ∀ f, SemOK cxP f (r9_run_G (R := R) c0 f)) : LoopSem cxP Tryz.f150.ntmps 0 (lpC (bodyOf Tryz.f150) 0) (r9_run_X0 (R := R) (r9_run_L0 m c0) m) := loopA_ok C HG (by kernel_rfl) (show loopsIn (lpC (bodyOf Tryz.f150) 0) = [] from by kernel_rfl) (.nil _) m (fun _ _ => rfl) rfl (r9_run_S0_e m c0)
def r9_run_a := aX (aC aS <| aC (aI .i64) <| aN) (aN)
def r9_run_h (F : Y_r9_run R) := fun a0 a1 (κ : Ko R) => F a0 a1 (fun r => κ (.int .i64 r) [])
def r9_run_s (F : Y_r9_run R) : PSem R := semOf [none, none] (rawA r9_run_a (r9_run_h F))
theorem r9_run_e (m : Nat) (c0 : Y_r9_digit R) (l0 : r9_run_V0 R) : r9_run_a.w _ (fun x κ => pFun tb (r9_run_G (R := R) c0) 0 [r9_run_X0 l0 m] [none] Tryz.f150 x.1 x.2 κ) = r9_run_h (r9_run_F m l0) := by kernel_rfl
theorem r9_run_k (m : Nat) : SemOK cxP 150 (r9_run_s (R := R) (r9_run m)) :=
 have HG : ∀ f, SemOK cxP f (r9_run_G (R := R) (r9_digit m) f) := tabG_ok (.cons (r9_digit_k m) .nil)
 semOf_ok (rawA_ok C HG (fn_of Tryz.func150) rfl rfl (by kernel_rfl) (show loopsIn (bodyOf Tryz.f150) = [(lpC (bodyOf Tryz.f150) 0)] from by kernel_rfl) (.cons (r9_run_X0_k HG) (.nil _)) (r9_run_e m (r9_digit m) (r9_run_L0 m (r9_digit m))))
def r9_money_a := aX (aC aS <| aC aS <| aN) (aN)
def r9_money_h (F : Y_r9_money R) := fun a0 a1 (κ : Ko R) => F a0 a1 (fun r_0 r_1 => κ (.tup [.int .i64 r_0, .bool r_1]) [])
def r9_money_s (F : Y_r9_money R) : PSem R := semOf [none, none] (rawA r9_money_a (r9_money_h F))
theorem r9_money_e (m : Nat) (c0 : Y_r9_number R) : r9_money_a.w _ (fun x κ => pFun tb (tabG (R := R) [(181, r9_number_s c0)]) 0 [] [none, none] Tryz.f151 x.1 x.2 κ) = r9_money_h (r9_money_F m c0) := by kernel_rfl
theorem r9_money_k (m : Nat) : SemOK cxP 151 (r9_money_s (R := R) (r9_money m)) := semOf_ok (raw0 C (tabG_ok (.cons (r9_number_k m) .nil)) (fn_of Tryz.func151) rfl rfl (by kernel_rfl) (by kernel_rfl) (r9_money_e m (r9_number m)))
def r9p_is_a := aX (aC (aP 0 0) <| aC aS <| aN) (aC o9 <| aN)
def r9p_is_h (F : Y_r9p_is R) := fun a1 o0 (κ : Ko R) => F o0 a1 (fun r w0 => κ (.bool r) [w9 w0])
def r9p_is_s (F : Y_r9p_is R) : PSem R := semOf [none, none] (rawA r9p_is_a (r9p_is_h F))
theorem r9p_is_e (m : Nat) (c0 : Y_r9p_w R) : r9p_is_a.w _ (fun x κ => pFun tb (tabG (R := R) [(153, r9p_w_s c0)]) 1 [] [none] Tryz.f159 x.1 x.2 κ) = r9p_is_h (r9p_is_F m c0) := by kernel_rfl
theorem r9p_is_k (m : Nat) : SemOK cxP 159 (r9p_is_s (R := R) (r9p_is m)) := semOf_ok (raw0 C (tabG_ok (.cons (r9p_w_k m) .nil)) (fn_of Tryz.func159) rfl rfl (by kernel_rfl) (by kernel_rfl) (r9p_is_e m (r9p_w m)))
def r9p_limit_a := aX (aC (aP 0 0) <| aN) (aC o9 <| aN)
def r9p_limit_h (F : Y_r9p_limit R) := fun o0 (κ : Ko R) => F o0 (fun w0 => κ (.tup []) [w9 w0])
def r9p_limit_s (F : Y_r9p_limit R) : PSem R := semOf [none] (rawA r9p_limit_a (r9p_limit_h F))
theorem r9p_limit_e (m : Nat) (c0 : Y_r9p_w R) : r9p_limit_a.w _ (fun x κ => pFun tb (tabG (R := R) [(153, r9p_w_s c0)]) 1 [] [] Tryz.f160 x.1 x.2 κ) = r9p_limit_h (r9p_limit_F m c0) := by kernel_rfl
theorem r9p_limit_k (m : Nat) : SemOK cxP 160 (r9p_limit_s (R := R) (r9p_limit m)) := semOf_ok (raw0 C (tabG_ok (.cons (r9p_w_k m) .nil)) (fn_of Tryz.func160) rfl rfl (by kernel_rfl) (by kernel_rfl) (r9p_limit_e m (r9p_w m)))
end
end Go.Pm
