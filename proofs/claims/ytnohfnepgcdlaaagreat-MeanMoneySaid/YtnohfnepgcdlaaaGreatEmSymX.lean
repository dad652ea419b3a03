/- SymX: Mul64, Add64, Sub64 of numbers that hang on unknowns, told. -/
import Derived.Test.YtnohfnepgcdlaaaGreatEmFast
import Derived.Shelf.Bits.Mul64
import Derived.Shelf.Spec.BitsCarry
namespace Go.EvM
set_option linter.unusedSectionVars false
variable [GLs]
open Go.RowKit Go.Proofs Go.Shelf
set_option linter.unusedVariables false
variable {P : Program} {cx : Cx} {μ : Mu}

def full (x : IntKind × Int × List Int) : List Int := x.2.1 :: x.2.2
/-- Products in two limbs: of the first two, the upper and the lower limb. -/
abbrev MTab := List Int × List Int × List Int × List Int
def lookM (x y : List Int) : List MTab → Option (List Int × List Int)
  | [] => none
  | t :: T => bif eqLI t.1 x && eqLI t.2.1 y then some t.2.2 else lookM x y T
def mkF (k : IntKind) : List Int → Value
  | c :: cs => mkS k c cs
  | [] => .int k (.ofNat 0)
def mulE (T : List MTab) (args : List Value) (h : Hp) : OR :=
  match args with
  | [x, y] => (match asL x, asL y with
    | some a, some b => (match lookM (full a) (full b) T with
      | some p => (match a.1, b.1 with
        | .u64, .u64 => .ok (.tuple ⟨[mkF .u64 p.1, mkF .u64 p.2]⟩) h
        | _, _ => .no)
      | none => .no)
    | _, _ => .no)
  | _ => .no
def MTOk (t : MTab) : Prop := 0 ≤ dotF t.1 ∧ dotF t.1 < 18446744073709551616 ∧ 0 ≤ dotF t.2.1 ∧ dotF t.2.1 < 18446744073709551616 ∧
  dotF t.1 * dotF t.2.1 = dotF t.2.2.1 * 18446744073709551616 + dotF t.2.2.2 ∧ 0 ≤ dotF t.2.2.1 ∧ 0 ≤ dotF t.2.2.2 ∧ dotF t.2.2.2 < 18446744073709551616
def MOk (T : List MTab) : Prop := ∀ t ∈ T, MTOk t
theorem lookM_ok {x y : List Int} {p : List Int × List Int} : ∀ {T : List MTab}, MOk T → lookM x y T = some p → MTOk (x, y, p)
  | [], _, h => by cases h
  | t :: T, hT, h => by
    unfold lookM at h
    cases hb : (eqLI t.1 x && eqLI t.2.1 y) with
    | true =>
      rw [hb] at h; cases h
      rw [Bool.and_eq_true] at hb
      have h2 := eqLI_eq hb.1
      have h3 := eqLI_eq hb.2
      have := hT t (by simp)
      rw [← h2, ← h3]; exact this
    | false => rw [hb] at h; exact lookM_ok (fun u hu => hT u (by simp [hu])) h
theorem mkF_VR (k : IntKind) (l : List Int) : VR μ (mkF k l) (.int k (dotF l)) := by
  cases l with
  | nil => exact .int k 0
  | cons c cs => exact mkS_VR k c cs

theorem same_After {W : World} {μ : Mu} {h : Hp} {w : World} {v v' : Value} (R : Rel W μ h w) (hv : VR μ v v') : After W μ h v h v' w := ⟨μ, hv, R, Ext.refl _ _, Nat.le_refl _⟩

theorem mul_ok {ρ : Ren} (L : Lays.n264 P ρ) (hE : ∀ args w, (callFunc (ρ.f 264) args).run P w = .ok (.enter (ρ.f 264) args) w) {T : List MTab} (hT : MOk T) : SumOk P (ρ.f 264) (mulE T) := by
  intro args h v h' e W μ w args' hv R
  unfold mulE at e
  split at e
  · rename_i x y
    cases hv with
    | cons hx hv2 =>
      cases hv2 with
      | cons hy hv3 =>
        cases hv3
        split at e
        · rename_i a b ha hb
          have ex := asL_ok ha hx
          have ey := asL_ok hb hy
          split at e
          · rename_i p hp
            split at e
            · rename_i k1 k2
              cases e
              obtain ⟨m1, m2, m3, m4, m5, m6, m7, m8⟩ := lookM_ok hT hp
              have fx : dotF (full a) = a.2.1 + dotL a.2.2 Unk.Z := rfl
              have fy : dotF (full b) = b.2.1 + dotL b.2.2 Unk.Z := rfl
              rw [k1, ← fx] at ex; rw [k2, ← fy] at ey
              obtain ⟨nx, hnx⟩ := Int.eq_ofNat_of_zero_le m1
              obtain ⟨ny, hny⟩ := Int.eq_ofNat_of_zero_le m3
              obtain ⟨nh, hnh⟩ := Int.eq_ofNat_of_zero_le m6
              obtain ⟨nl, hnl⟩ := Int.eq_ofNat_of_zero_le m7
              dsimp only at hnx hny hnh hnl m2 m4 m5 m8
              rw [hnx] at ex m2 m5; rw [hny] at ey m4 m5; rw [hnh] at m5; rw [hnl] at m5 m8
              subst ex; subst ey
              have hprod : nx * ny = nh * 18446744073709551616 + nl := by
                have : ((nx * ny : Nat) : Int) = ((nh * 18446744073709551616 + nl : Nat) : Int) := by simpa using m5
                exact Int.ofNat.inj this
              rw [hE]
              refine (Any.bits_Mul64 L nx ny (by omega) (by omega) w).mono ?_
              rintro e' w' ⟨rfl, rfl⟩
              refine ⟨_, rfl, same_After R (.tuple (.cons ?_ (.cons ?_ .nil)))⟩
              · have := mkF_VR (μ := μ) .u64 p.1
                rw [hnh] at this
                rwa [show nx * ny / 18446744073709551616 = nh by omega]
              · have := mkF_VR (μ := μ) .u64 p.2
                rw [hnl] at this
                rwa [show nx * ny % 18446744073709551616 = nl by omega]
            · cases e
          · cases e
        · cases e
  · cases e

/-- Between nought and 2^64. -/
def isU (F : List Fact) (x : IntKind × Int × List Int) : Bool := match rngS F x.2.1 x.2.2 with | some p => inK .u64 p.1 p.2 | none => false
theorem isU_ok {F : List Fact} (hF : FOk F) {x : IntKind × Int × List Int} (h : isU F x = true) : 0 ≤ dotF (full x) ∧ dotF (full x) < 18446744073709551616 := by
  unfold isU at h
  split at h
  · rename_i p hp
    obtain ⟨b1, b2⟩ := rngS_ok hF hp
    simp only [inK, Bool.and_eq_true, leI_eq, decide_eq_true_eq] at h
    have fx : dotF (full x) = x.2.1 + dotL x.2.2 Unk.Z := rfl
    have a1 : (Int.ofNat 0) = 0 := rfl
    have a2 : (Int.ofNat 18446744073709551615) = 18446744073709551615 := rfl
    rw [a1, a2] at h
    omega
  · cases h
def subE (F : List Fact) (args : List Value) (h : Hp) : OR :=
  match args with
  | [x, y, .int .u64 (.ofNat b)] => (match asL x, asL y with
    | some a, some c => (match a.1, c.1, Nat.ble b 1 && isU F a && isU F c with
      | .u64, .u64, true => (match cmpS F .lss (Int.sub (Int.sub a.2.1 c.2.1) (.ofNat b)) (addL a.2.2 (negL c.2.2)) with
        | some true => .ok (.tuple ⟨[mkS .u64 (Int.add (Int.sub (Int.sub a.2.1 c.2.1) (.ofNat b)) t64) (addL a.2.2 (negL c.2.2)), .int .u64 (.ofNat 1)]⟩) h
        | some false => .ok (.tuple ⟨[mkS .u64 (Int.sub (Int.sub a.2.1 c.2.1) (.ofNat b)) (addL a.2.2 (negL c.2.2)), .int .u64 (.ofNat 0)]⟩) h
        | none => .no)
      | _, _, _ => .no)
    | _, _ => .no)
  | _ => .no
def addE (F : List Fact) (args : List Value) (h : Hp) : OR :=
  match args with
  | [x, y, .int .u64 (.ofNat b)] => (match asL x, asL y with
    | some a, some c => (match a.1, c.1, Nat.ble b 1 && isU F a && isU F c with
      | .u64, .u64, true => (match cmpS F .lss (Int.sub (Int.add (Int.add a.2.1 c.2.1) (.ofNat b)) t64) (addL a.2.2 c.2.2) with
        | some true => .ok (.tuple ⟨[mkS .u64 (Int.add (Int.add a.2.1 c.2.1) (.ofNat b)) (addL a.2.2 c.2.2), .int .u64 (.ofNat 0)]⟩) h
        | some false => .ok (.tuple ⟨[mkS .u64 (Int.sub (Int.add (Int.add a.2.1 c.2.1) (.ofNat b)) t64) (addL a.2.2 c.2.2), .int .u64 (.ofNat 1)]⟩) h
        | none => .no)
      | _, _, _ => .no)
    | _, _ => .no)
  | _ => .no

theorem sub_ok {ρ : Ren} (L : Lays7.n26 P ρ) {F : List Fact} (hF : FOk F) : SumOk P (ρ.f 26) (subE F) := by
  intro args h v h' e W μ w args' hv R
  unfold subE at e
  split at e
  · rename_i x y b
    cases hv with
    | cons hx hv2 => cases hv2 with
      | cons hy hv3 => cases hv3 with
        | cons hb hv4 =>
          cases hv4; cases hb
          split at e
          · rename_i a c ha hc
            have ex := asL_ok ha hx
            have ey := asL_ok hc hy
            split at e
            · rename_i k1 k2 hg
              rw [Bool.and_eq_true, Bool.and_eq_true] at hg
              have hb1 := Nat.le_of_ble_eq_true hg.1.1
              obtain ⟨x1, x2⟩ := isU_ok hF hg.1.2
              obtain ⟨y1, y2⟩ := isU_ok hF hg.2
              have fx : dotF (full a) = a.2.1 + dotL a.2.2 Unk.Z := rfl
              have fy : dotF (full c) = c.2.1 + dotL c.2.2 Unk.Z := rfl
              obtain ⟨nx, hnx⟩ := Int.eq_ofNat_of_zero_le x1
              obtain ⟨ny, hny⟩ := Int.eq_ofNat_of_zero_le y1
              rw [k1, ← fx, hnx] at ex; rw [k2, ← fy, hny] at ey
              subst ex; subst ey
              have hrun := Any7.bits_Sub64 L nx ny b hb1 w
              have eq : Int.sub (Int.sub a.2.1 c.2.1) (.ofNat b) + dotL (addL a.2.2 (negL c.2.2)) Unk.Z = (nx : Int) - ny - b := by
                rw [dot_add, dot_neg]
                show a.2.1 - c.2.1 - (b : Int) + _ = _
                rw [← hnx, ← hny, fx, fy]; omega
              have goal : ∀ (d : Int) (cs : List Int) (o1 : Nat), d + dotL cs Unk.Z = (((nx + 18446744073709551616 - ny - b) % 18446744073709551616 : Nat) : Int) → (if nx < ny + b then 1 else 0 : Nat) = o1 → v = .tuple ⟨[mkS .u64 d cs, .int .u64 (.ofNat o1)]⟩ → h' = h → NextOk P (After W μ h v h') ((callFunc (ρ.f 26) [Value.int .u64 nx, Value.int .u64 ny, Value.int .u64 (Int.ofNat b)].toArray).run P w) := fun d cs o1 h1 h2 h3 h4 => by
                subst h3; subst h4
                have hrun : (callFunc (ρ.f 26) [Value.int .u64 nx, Value.int .u64 ny, Value.int .u64 (Int.ofNat b)].toArray).run P w = _ := hrun
                rw [hrun]
                refine same_After R (.tuple (.cons ?_ (.cons ?_ .nil)))
                · have := mkS_VR (μ := μ) .u64 d cs
                  rwa [h1] at this
                · rw [h2]; exact .int _ _
              split at e
              · rename_i hcmp
                cases e
                obtain ⟨g, _⟩ := cmpS_ok hF hcmp
                rw [eq] at g
                have g := of_decide_eq_true g.symm
                refine goal _ _ 1 ?_ (if_pos (by omega)) rfl rfl
                have : ∀ q : Int, Int.add q t64 + dotL (addL a.2.2 (negL c.2.2)) Unk.Z = (q + dotL (addL a.2.2 (negL c.2.2)) Unk.Z) + 18446744073709551616 := fun q => by show q + 18446744073709551616 + _ = _; omega
                rw [this, eq]; omega
              · rename_i hcmp
                cases e
                obtain ⟨g, _⟩ := cmpS_ok hF hcmp
                rw [eq] at g
                have g := of_decide_eq_false g.symm
                refine goal _ _ 0 ?_ (if_neg (by omega)) rfl rfl
                rw [eq]; omega
              · cases e
            · cases e
          · cases e
  · cases e

theorem add_ok {ρ : Ren} (L : Lays7.n25 P ρ) {F : List Fact} (hF : FOk F) : SumOk P (ρ.f 25) (addE F) := by
  intro args h v h' e W μ w args' hv R
  unfold addE at e
  split at e
  · rename_i x y b
    cases hv with
    | cons hx hv2 => cases hv2 with
      | cons hy hv3 => cases hv3 with
        | cons hb hv4 =>
          cases hv4; cases hb
          split at e
          · rename_i a c ha hc
            have ex := asL_ok ha hx
            have ey := asL_ok hc hy
            split at e
            · rename_i k1 k2 hg
              rw [Bool.and_eq_true, Bool.and_eq_true] at hg
              have hb1 := Nat.le_of_ble_eq_true hg.1.1
              obtain ⟨x1, x2⟩ := isU_ok hF hg.1.2
              obtain ⟨y1, y2⟩ := isU_ok hF hg.2
              have fx : dotF (full a) = a.2.1 + dotL a.2.2 Unk.Z := rfl
              have fy : dotF (full c) = c.2.1 + dotL c.2.2 Unk.Z := rfl
              obtain ⟨nx, hnx⟩ := Int.eq_ofNat_of_zero_le x1
              obtain ⟨ny, hny⟩ := Int.eq_ofNat_of_zero_le y1
              rw [k1, ← fx, hnx] at ex; rw [k2, ← fy, hny] at ey
              subst ex; subst ey
              have hrun := Any7.bits_Add64 L nx ny b hb1 w
              have eq : ∀ q : Int, Int.add (Int.add a.2.1 c.2.1) (.ofNat b) - q + dotL (addL a.2.2 c.2.2) Unk.Z = (nx : Int) + ny + b - q := fun q => by
                rw [dot_add]
                show a.2.1 + c.2.1 + (b : Int) - q + _ = _
                rw [← hnx, ← hny, fx, fy]; omega
              have goal : ∀ (d : Int) (cs : List Int) (o1 : Nat), d + dotL cs Unk.Z = (((nx + ny + b) % 18446744073709551616 : Nat) : Int) → (nx + ny + b) / 18446744073709551616 = o1 → v = .tuple ⟨[mkS .u64 d cs, .int .u64 (.ofNat o1)]⟩ → h' = h → NextOk P (After W μ h v h') ((callFunc (ρ.f 25) [Value.int .u64 nx, Value.int .u64 ny, Value.int .u64 (Int.ofNat b)].toArray).run P w) := fun d cs o1 h1 h2 h3 h4 => by
                subst h3; subst h4
                have hrun : (callFunc (ρ.f 25) [Value.int .u64 nx, Value.int .u64 ny, Value.int .u64 (Int.ofNat b)].toArray).run P w = _ := hrun
                rw [hrun]
                refine same_After R (.tuple (.cons ?_ (.cons ?_ .nil)))
                · have := mkS_VR (μ := μ) .u64 d cs
                  rwa [h1] at this
                · rw [h2]; exact .int _ _
              split at e
              · rename_i hcmp
                cases e
                obtain ⟨g, _⟩ := cmpS_ok hF hcmp
                have e64 : Int.sub (Int.add (Int.add a.2.1 c.2.1) (.ofNat b)) t64 = Int.add (Int.add a.2.1 c.2.1) (.ofNat b) - 18446744073709551616 := rfl
                rw [e64, eq] at g
                have g := of_decide_eq_true g.symm
                refine goal _ _ 0 ?_ (by omega) rfl rfl
                have := eq 0
                rw [Int.sub_zero, Int.sub_zero] at this
                rw [this]; omega
              · rename_i hcmp
                cases e
                obtain ⟨g, _⟩ := cmpS_ok hF hcmp
                have e64 : Int.sub (Int.add (Int.add a.2.1 c.2.1) (.ofNat b)) t64 = Int.add (Int.add a.2.1 c.2.1) (.ofNat b) - 18446744073709551616 := rfl
                rw [e64, eq] at g
                have g := of_decide_eq_false g.symm
                refine goal _ _ 1 ?_ (by omega) rfl rfl
                rw [e64, eq]; omega
              · cases e
            · cases e
          · cases e
  · cases e
end Go.EvM
