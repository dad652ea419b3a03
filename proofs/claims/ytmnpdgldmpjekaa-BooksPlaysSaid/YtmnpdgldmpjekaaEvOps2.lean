/- The operations that touch no heap. -/
import Derived.Test.YtmnpdgldmpjekaaEvOps1
import Derived.IntWalk
import Derived.Laws.Strings
import Derived.Laws.Bits64
namespace Go.EvM
open Go.RowKit
set_option linter.unusedVariables false

def Ops (o : Oper) (μ : Mu) (ρ ρ' : Env) : Prop := ∀ x ∈ o.op.operands.toList, VR μ (ρ x) (ρ' x)

def PureOk (P : Program) (o : Oper) (f : Env → Option Value) : Prop :=
  ∀ (μ : Mu) (ρ ρ' : Env) (w : World) (v : Value), Ops o μ ρ ρ' → f ρ = some v → ∃ v', (execOp ρ' o).run P w = .ok (.value v') w ∧ VR μ v v'

/-! ### Numbers -/
theorem ltI_eq (a b : Int) : ltI a b = decide (a < b) := by
  cases a <;> cases b <;> simp only [ltI] <;> rw [Bool.eq_iff_iff] <;> simp <;> omega
theorem leI_eq (a b : Int) : leI a b = decide (a ≤ b) := by
  cases a <;> cases b <;> simp only [leI] <;> rw [Bool.eq_iff_iff] <;> simp <;> omega
theorem eqI_eq (a b : Int) : eqI a b = (a == b) := by
  cases a <;> cases b <;> simp only [eqI] <;> rw [Bool.eq_iff_iff] <;> simp <;> omega
theorem blt_lt {a b : Nat} (h : Nat.blt a b = true) : a < b := Nat.le_of_ble_eq_true h
theorem lim63_eq : lim63 = 9223372036854775808 := rfl
theorem lim64_eq : lim64 = 18446744073709551616 := rfl
theorem in64_in {n : Int} (h : in64 n = true) : IntKind.i64.wrap n = n := by
  have e := lim63_eq
  cases n with
  | ofNat m => have := blt_lt (b := lim63) h; exact IntWalk.i64_in _ (by rw [Int.ofNat_eq_natCast]; omega)
  | negSucc m => have := blt_lt (b := lim63) h; exact IntWalk.i64_in _ (by rw [Int.negSucc_eq]; omega)
theorem wr_eq (k : IntKind) (n : Int) : wr k n = k.wrap n := by
  cases k with
  | i64 =>
    show (bif in64 n then n else IntKind.wrap .i64 n) = _
    cases h : in64 n with
    | false => simp only [cond_false]
    | true => rw [in64_in h]; simp only [cond_true]
  | u8 =>
    cases n with
    | ofNat m => show Int.ofNat (m % 256) = _; rw [IntKind.wrap_u8]; simp
    | negSucc m => rfl
  | u64 =>
    cases n with
    | ofNat m => show Int.ofNat (m % lim64) = _; rw [IntKind.wrap_u64, lim64_eq]; simp
    | negSucc m => rfl
  | _ => rfl

theorem eqL_eq : ∀ (l m : List UInt8), eqL l m = (l == m)
  | [], [] => rfl
  | [], _ :: _ => rfl
  | _ :: _, [] => rfl
  | a :: l, b :: m => by
    show (bif Nat.beq a.toNat b.toNat then eqL l m else false) = _
    rw [eqL_eq l m, Bool.eq_iff_iff]
    simp [UInt8.toNat_inj]
theorem ltL_eq : ∀ (l m : List UInt8), ltL l m = Op.bytesLess l m
  | [], [] => rfl
  | [], _ :: _ => rfl
  | _ :: _, [] => rfl
  | a :: l, b :: m => by
    show (bif Nat.blt a.toNat b.toNat then true else bif Nat.beq a.toNat b.toNat then ltL l m else false) = _
    rw [ltL_eq l m, Op.bytesLess, Bool.eq_iff_iff]
    have h1 : (Nat.blt a.toNat b.toNat = true) ↔ a < b := by simp [Nat.blt_eq, UInt8.lt_iff_toNat_lt]
    have h2 : (Nat.beq a.toNat b.toNat = true) ↔ a = b := by simp [UInt8.toNat_inj]
    by_cases c1 : a < b
    · rw [h1.2 c1]; simp [c1]
    · have : Nat.blt a.toNat b.toNat = false := by rw [Bool.eq_false_iff]; exact fun h => c1 (h1.1 h)
      rw [this]
      by_cases c2 : a = b
      · rw [h2.2 c2]; simp [c2]
      · have : Nat.beq a.toNat b.toNat = false := by rw [Bool.eq_false_iff]; exact fun h => c2 (h2.1 h)
        rw [this]; simp [c1, c2]


theorem shape2 {μ : Mu} {a : Value} {k : IntKind} {n : Int} (h : VR μ (.int k n) a) : a = .int k n := by cases h; rfl
theorem shapeS {μ : Mu} {a : Value} {s : ByteArray} (h : VR μ (.string s) a) : a = .string s := by cases h; rfl

theorem isub (a b : Int) : Int.sub a b = a - b := rfl

theorem intBin_ok {P : Program} {op : BinOp} {k : IntKind} {a b : Int} {v : Value} (h : intBin op k a b = some v) (w : World) (μ : Mu) (t : TypeId) (hs : op ≠ .shl) (hr : op ≠ .shr) :
    (binOp op t (.int k a) (.int k b)).run P w = .ok v w ∧ VR μ v v := by
  cases op <;> simp only [intBin, wr_eq, ltI_eq, leI_eq, eqI_eq] at h <;> first
    | (exact absurd rfl hs)
    | (exact absurd rfl hr)
    | (cases h; refine ⟨?_, by constructor⟩; simp [binOp, Op.intArith, Op.intCmp, Op.intBits, bne, isub]; done)
    | (cases hz : ((b : Int) == Int.ofNat 0) with
       | true => rw [hz] at h; cases h
       | false =>
         rw [hz] at h; cases h
         refine ⟨?_, by constructor⟩
         have : ¬ b = 0 := by simpa using hz
         simp [binOp, Op.intDiv, this])

theorem app_eq (x y : ByteArray) : x ++ y = ⟨⟨x.data.toList ++ y.data.toList⟩⟩ := by
  apply ByteArray.ext
  rw [ByteArray.data_append]
  apply Array.ext'
  simp

theorem size_len (a : ByteArray) : a.size = a.data.toList.length := (Array.length_toList (xs := a.data)).symm

theorem strBin_ok {P : Program} {op : BinOp} {a b : ByteArray} {v : Value} (h : strBin op a b = some v) (w : World) (μ : Mu) (t : TypeId) (hs : op ≠ .shl) (hr : op ≠ .shr) :
    (binOp op t (.string a) (.string b)).run P w = .ok v w ∧ VR μ v v := by
  have e1 := ByteArray.toList_eq a
  have e2 := ByteArray.toList_eq b
  have tot : ∀ x y : List UInt8, (!(Op.bytesLess y x)) = (Op.bytesLess x y || x == y) := by
    intro x
    induction x with
    | nil => intro y; cases y <;> rfl
    | cons c x ih =>
      intro y
      cases y with
      | nil => rfl
      | cons d y =>
        simp only [Op.bytesLess, Bool.not_or, Bool.not_and, ih, List.cons_beq_cons]
        by_cases h1 : c < d
        · have h2 : ¬ d < c := by simp [UInt8.lt_iff_toNat_lt] at *; omega
          have h3 : ¬ d = c := by rintro rfl; simp at h1
          simp [h1, h2, h3]
        · by_cases h2 : d < c
          · have h3 : ¬ c = d := by rintro rfl; simp at h2
            simp [h1, h2, h3]
          · have h3 : c = d := by rw [← UInt8.toNat_inj]; simp [UInt8.lt_iff_toNat_lt] at *; omega
            simp [h3]
  cases op <;> simp only [strBin, eqL_eq, ltL_eq] at h <;> first
    | (cases h; done)
    | (exact absurd rfl hs)
    | (exact absurd rfl hr)
    | (cases h; refine ⟨?_, by constructor⟩; simp [binOp, Op.stringOp, e1, e2, tot]; done)
    | (cases h; refine ⟨?_, by constructor⟩; simp only [binOp, Op.stringOp, e1, e2, Sem.run_pure, ← tot, Bool.not_not]; done)
    | (cases hz : Nat.blt (Nat.add a.data.toList.length b.data.toList.length) lim63 with
       | false => rw [hz] at h; cases h
       | true =>
         rw [hz] at h; cases h
         have h1 := blt_lt hz
         have h2 := lim63_eq
         have h3 : (IntKind.i64.max : Int) = 9223372036854775807 := by decide
         refine ⟨?_, by constructor⟩
         have h4 : ¬ ((a.size + b.size : Nat) : Int) > IntKind.i64.max := by
           rw [h3]
           have := size_len a
           have := size_len b
           have : Nat.add a.data.toList.length b.data.toList.length = a.data.toList.length + b.data.toList.length := rfl
           omega
         simp only [binOp, Op.stringOp, h4, if_false, Sem.run_pure, app_eq])

theorem imul (a b : Int) : Int.mul a b = a * b := rfl
theorem pow_eq (b : Nat) (k : IntKind) : Int.ofNat (Nat.pow 2 (Nat.min b k.bits)) = (2 : Int) ^ (min b k.bits) := by
  rw [Int.ofNat_eq_natCast]
  show ((2 ^ (min b k.bits) : Nat) : Int) = _
  rw [Int.natCast_pow]; rfl

theorem binV_ok {P : Program} {op : BinOp} {x y x' y' v : Value} {μ : Mu} (hx : VR μ x x') (hy : VR μ y y') (h : binV op x y = some v) (w : World) (t : TypeId) (X Y : Operand) :
    ((do eqGuard op t X Y x' y'; binOp op t x' y' : Sem Value)).run P w = .ok v w ∧ VR μ v v := by
  unfold binV at h
  split at h
  · rename_i k a
    split at h
    · rename_i k' b
      cases hx; cases hy
      have hg : eqGuard op t X Y (.int k a) (.int k' b) = pure () := by cases op <;> rfl
      simp only [hg, pure_bind]
      split at h
      · cases b with
        | ofNat b =>
          simp only [shiftV, wr_eq, pow_eq, imul] at h
          cases h
          refine ⟨?_, by constructor⟩
          have : ¬ ((b : Int) < 0) := by omega
          simp [binOp, Op.shift, this]
        | negSucc b => cases h
      · cases b with
        | ofNat b =>
          simp only [shiftV, pow_eq] at h
          cases h
          refine ⟨?_, by constructor⟩
          have : ¬ ((b : Int) < 0) := by omega
          simp [binOp, Op.shift, this]
        | negSucc b => cases h
      · rename_i h1 h2
        cases hd : decide (k = k') with
        | false => rw [hd] at h; cases h
        | true =>
          rw [hd] at h
          obtain rfl : k = k' := of_decide_eq_true hd
          exact intBin_ok h w μ t (fun e => h1 e) (fun e => h2 e)
    · cases h
  · rename_i a
    split at h
    · rename_i b
      cases hx; cases hy
      have hg : eqGuard op t X Y (.string a) (.string b) = pure () := by cases op <;> rfl
      simp only [hg, pure_bind]
      by_cases h1 : op = .shl
      · subst h1; cases h
      · by_cases h2 : op = .shr
        · subst h2; cases h
        · exact strBin_ok h w μ t h1 h2
    · cases h
  · cases h


theorem equal_pl_n {P : Program} {d : TypeDesc} {x y x' y' : Value} {b : Bool} {μ : Mu} (hx : VR μ x x') (hy : VR μ y y') (h : eqPl d x y = some b) (w : World) (t : TypeId) (hu : P.underlying t = some d) (n : Nat) :
    (Op.equalIn (n + 1) t x' y').run P w = .ok b w := by
  have hun : (underlying t).run P w = .ok d w := by simp [underlying, hu]
  unfold eqPl at h
  split at h <;> (try (cases h; done)) <;> cases h <;> cases hx <;> cases hy <;> simp only [Op.equalIn, Sem.run_bind, hun, Result.andThen_ok, Sem.run_pure] <;> (try rfl)
  rename_i a b
  cases a <;> cases b <;> rfl
theorem equal_pl {P : Program} {d : TypeDesc} {x y x' y' : Value} {b : Bool} {μ : Mu} (hx : VR μ x x') (hy : VR μ y y') (h : eqPl d x y = some b) (w : World) (t : TypeId) (hu : P.underlying t = some d) :
    (Op.equal t x' y').run P w = .ok b w := equal_pl_n hx hy h w t hu 9999

theorem eqV_ok {P : Program} {d : TypeDesc} {x y x' y' v : Value} {μ : Mu} {ne : Bool} (hx : VR μ x x') (hy : VR μ y y') (h : eqV d ne x y = some v) (w : World) (t : TypeId) (X Y : Operand) (hu : P.underlying t = some d) :
    ((do eqGuard (eqOp ne) t X Y x' y'; binOp (eqOp ne) t x' y' : Sem Value)).run P w = .ok v w ∧ VR μ v v := by
  have gen : ∀ b, eqPl d x y = some b → some (Value.bool (turn ne b)) = some v → ((do eqGuard (eqOp ne) t X Y x' y'; binOp (eqOp ne) t x' y' : Sem Value)).run P w = .ok v w ∧ VR μ v v := by
    intro b hb h
    have he := equal_pl hx hy hb w t hu
    have hg : ∀ op, eqGuard op t X Y x' y' = pure () := by
      intro op
      unfold eqPl at hb
      split at hb <;> (try (cases hb; done)) <;> cases hx <;> cases hy <;> cases op <;> rfl
    have hbin : (binOp (eqOp ne) t x' y').run P w = .ok (.bool (turn ne b)) w := by
      unfold eqPl at hb
      cases ne <;> (split at hb <;> (try (cases hb; done)) <;> cases hx <;> cases hy <;> simp [binOp, eqOp, turn, he])
    cases h
    exact ⟨by simp only [hg, pure_bind, hbin], by constructor⟩
  cases x <;> first
    | exact binV_ok hx hy h w t X Y
    | (have h' : (match eqPl d _ y with | some b => some (Value.bool (turn ne b)) | none => none) = some v := h
       split at h'
       · rename_i b hb; exact gen b hb h'
       · cases h')
end Go.EvM
