/- Slices cut, structs built, len, min, max. -/
import Derived.Test.YtmnpdgldmpjekaaEvOps3
namespace Go.EvM
open Go.RowKit
set_option linter.unusedVariables false
variable {P : Program} {cx : Cx} {o : Oper}

def OptR (μ : Mu) : Option Value → Option Value → Prop
  | none, none => True
  | some a, some b => VR μ a b
  | _, _ => False

theorem bndV_ok {x x' : Value} {μ : Mu} {y y' n : Nat} (h : VR μ x x') (e : bndV x y = some n) (hy : y ≤ y') (c : BoundsCode) (w : World) :
    (Instr.sliceBound x' y' c).run P w = .ok n w ∧ n ≤ y := by
  unfold bndV at e
  split at e
  · rename_i k i
    cases hb : Nat.ble i y with
    | false => rw [hb] at e; cases e
    | true =>
      rw [hb] at e; cases e
      have := Nat.le_of_ble_eq_true hb
      cases h
      have h' : n ≤ y' := by omega
      exact ⟨by simp [Instr.sliceBound, asIntOf, h'], this⟩
  · cases e

theorem bounds_ok {μ : Mu} {len cap x l hh m : Nat} {lo hi mx lo' hi' mx' : Option Value} (h1 : OptR μ lo lo') (h2 : OptR μ hi hi') (h3 : OptR μ mx mx') (hm : mx.isSome = true → hi.isSome = true)
    (e : bounds len cap lo hi mx = some (l, hh, m)) (isS : Bool) (w : World) :
    (Instr.sliceBounds isS len (cap + x) lo' hi' mx').run P w = .ok (l, hh, if mx.isNone then m + x else m) w ∧ l ≤ hh ∧ (hi.isSome = true → hh ≤ m) ∧ m ≤ cap ∧ (mx = none → m = cap) ∧ (hi = none → hh = len) := by
  unfold bounds at e
  cases e1 : bndO mx cap cap with
  | none => rw [e1] at e; cases e
  | some m1 =>
    rw [e1] at e; dsimp only at e
    cases e2 : bndO hi m1 len with
    | none => rw [e2] at e; cases e
    | some h4 =>
      rw [e2] at e; dsimp only at e
      cases e3 : bndO lo h4 0 with
      | none => rw [e3] at e; cases e
      | some l1 =>
        rw [e3] at e; cases e
        unfold bndO at e1 e2 e3
        cases mx with
        | none =>
          cases mx' with
          | some _ => exact h3.elim
          | none =>
            simp at e1; subst e1
            cases hi with
            | none =>
              cases hi' with
              | some _ => exact h2.elim
              | none =>
                simp at e2; subst e2
                cases lo with
                | none =>
                  cases lo' with
                  | some _ => exact h1.elim
                  | none => simp at e3; subst e3; refine ⟨by simp [Instr.sliceBounds], ?_⟩; simp
                | some lo =>
                  cases lo' with
                  | none => exact h1.elim
                  | some lo' =>
                    obtain ⟨r1, g1⟩ := bndV_ok (P := P) h1 e3 (Nat.le_refl _) .sliceB w
                    refine ⟨by simp [Instr.sliceBounds, r1], ?_⟩; simp; exact g1
            | some hi =>
              cases hi' with
              | none => exact h2.elim
              | some hi' =>
                obtain ⟨r2, g2⟩ := bndV_ok (P := P) h2 e2 (y' := cap + x) (by omega) (if isS then .sliceAcap else .sliceAlen) w
                cases lo with
                | none =>
                  cases lo' with
                  | some _ => exact h1.elim
                  | none => simp at e3; subst e3; refine ⟨by simp [Instr.sliceBounds, r2], ?_⟩; simp; exact g2
                | some lo =>
                  cases lo' with
                  | none => exact h1.elim
                  | some lo' =>
                    obtain ⟨r1, g1⟩ := bndV_ok (P := P) h1 e3 (Nat.le_refl _) .sliceB w
                    refine ⟨by simp [Instr.sliceBounds, r1, r2], ?_⟩; simp; exact ⟨g1, g2⟩
        | some mx =>
          cases mx' with
          | none => exact h3.elim
          | some mx' =>
            obtain ⟨r3, g3⟩ := bndV_ok (P := P) h3 e1 (y' := cap + x) (by omega) (if isS then .slice3Acap else .slice3Alen) w
            cases hi with
            | none => simp at hm
            | some hi =>
              cases hi' with
              | none => exact h2.elim
              | some hi' =>
                obtain ⟨r2, g2⟩ := bndV_ok (P := P) h2 e2 (Nat.le_refl _) .slice3B w
                cases lo with
                | none =>
                  cases lo' with
                  | some _ => exact h1.elim
                  | none => simp at e3; subst e3; refine ⟨by simp [Instr.sliceBounds, r2, r3], ?_⟩; simp; exact ⟨g2, g3⟩
                | some lo =>
                  cases lo' with
                  | none => exact h1.elim
                  | some lo' =>
                    obtain ⟨r1, g1⟩ := bndV_ok (P := P) h1 e3 (Nat.le_refl _) .slice3C w
                    refine ⟨by simp [Instr.sliceBounds, r1, r2, r3], ?_⟩; simp; exact ⟨g1, g2, g3⟩

theorem optR {μ : Mu} {ρ ρ' : Env} {x : Option Operand} (h : ∀ y, x = some y → VR μ (ρ y) (ρ' y)) : OptR μ (x.map ρ) (x.map ρ') := by
  cases x with
  | none => trivial
  | some y => exact h y rfl

theorem extract_eq (s : ByteArray) (l h : Nat) : s.extract l h = ⟨⟨(s.data.toList.drop l).take (h - l)⟩⟩ := by
  apply ByteArray.ext
  apply Array.ext'
  simp [ByteArray.data_extract]

theorem ok_sliceStr {t : TypeId} {x : Operand} {lo hi : Option Operand} {i : TI} (C : CxOk P cx) (ht : cx.ti t = some i) (hd : i.desc = .string) (ho : o.op = .slice t x lo hi none) :
    PureOk P o fun ρ => match ρ x with | .string s => sliceStr s (lo.map ρ) (hi.map ρ) | _ => none := by
  intro μ ρ ρ' w v h e
  have hc := mem_ops h ho (x := x) (by simp [Op.operands])
  have hlo : OptR μ (lo.map ρ) (lo.map ρ') := optR fun y hy => mem_ops h ho (by simp [Op.operands, hy])
  have hhi : OptR μ (hi.map ρ) (hi.map ρ') := optR fun y hy => mem_ops h ho (by simp [Op.operands, hy])
  dsimp only at e
  split at e
  · rename_i s hq
    rw [hq] at hc
    generalize hr : ρ' x = r at hc
    cases hc
    unfold sliceStr at e
    split at e
    · rename_i l hh m hb
      cases e
      have hu := C.run_und ht w
      obtain ⟨rb, _⟩ := bounds_ok (P := P) (x := 0) hlo hhi (mx := none) (mx' := none) trivial (by simp) hb false w
      rw [← size_len] at rb
      refine ⟨.string (s.extract l hh), ?_, by rw [extract_eq]; exact .string _⟩
      simp only [Nat.add_zero] at rb
      simp [execOp, ho, hr, Instr.sliceAt, Instr.slice, hu, hd, rb]
    · cases e
  · cases e

theorem ok_sliceArr {t e : TypeId} {x : Operand} {lo hi mx : Option Operand} {i ei : TI} {n : Nat} (C : CxOk P cx) (ht : cx.ti t = some i) (hd : i.desc = .array n e) (he : cx.ti e = some ei) (hm : mx.isSome = true → hi.isSome = true)
    (ho : o.op = .slice t x lo hi mx) :
    PureOk P o fun ρ => match ptrV (ρ x), bounds n n (lo.map ρ) (hi.map ρ) (mx.map ρ) with
          | some (b, off), some (l, hh, m) => some (.slice (some ⟨b, Nat.add off (Nat.mul l ei.size), none⟩) (Nat.sub hh l) (Nat.sub m l))
          | _, _ => none := by
  intro μ ρ ρ' w v h e
  have hc := mem_ops h ho (x := x) (by simp [Op.operands])
  have hlo : OptR μ (lo.map ρ) (lo.map ρ') := optR fun y hy => mem_ops h ho (by simp [Op.operands, hy])
  have hhi : OptR μ (hi.map ρ) (hi.map ρ') := optR fun y hy => mem_ops h ho (by simp [Op.operands, hy])
  have hmx : OptR μ (mx.map ρ) (mx.map ρ') := optR fun y hy => mem_ops h ho (by simp [Op.operands, hy])
  dsimp only at e
  split at e
  · rename_i b off l hh m hp hb
    cases e
    rw [ptrV_eq hp] at hc
    generalize hr : ρ' x = r at hc
    cases hc with
    | ptr _ hbi =>
      rename_i bi
      have hu := C.run_und ht w
      have hsz := C.run_size he w
      obtain ⟨rb, g1, g2, g3, g4, g5⟩ := bounds_ok (P := P) (x := 0) hlo hhi hmx (by simpa using hm) hb false w
      have rb' : (Instr.sliceBounds false n n (lo.map ρ') (hi.map ρ') (mx.map ρ')).run P w = .ok (l, hh, m) w := by
        rw [Nat.add_zero] at rb; rw [rb]; split <;> rfl
      have hhm : hh ≤ m := by
        cases hi with
        | some _ => exact g2 rfl
        | none =>
          cases mx with
          | none => have := g4 rfl; have := g5 rfl; omega
          | some _ => simp at hm
      refine ⟨.slice (some (if m = l then ⟨bi.rb, bi.d + off, none⟩ else ⟨bi.rb, bi.d + off + l * ei.size, none⟩)) (hh - l) (m - l), ?_, ?_⟩
      · simp [execOp, ho, hr, Instr.sliceAt, hu, hd, Instr.sureAddr, rb', hsz, add_off]
      · refine VR.slice (μ := μ) (off + l * ei.size) (hh - l) (m - l) 0 _ hbi (by omega) (.inl rfl) ?_
        by_cases hml : m = l
        · right; omega
        · left; rw [if_neg hml, Nat.add_assoc]
  · cases e

theorem ok_lenS {t ty : TypeId} {x : Operand} {i : TI} (C : CxOk P cx) (ht : cx.ti t = some i) (hd : i.desc = .string) (ho : o.op = .call { callee := .builtin .len, args := #[x], argTypes := #[t] }) :
    PureOk P o fun ρ => match ρ x with | .string s => some (.int .i64 (.ofNat s.data.toList.length)) | _ => none := by
  intro μ ρ ρ' w v h e
  have hc := mem_ops h ho (x := x) (by simp [Op.operands, Call.operands])
  dsimp only at e
  split at e
  · rename_i s hq
    cases e
    rw [hq] at hc
    generalize hr : ρ' x = r at hc
    cases hc
    have hu := C.run_und ht w
    rw [← size_len]
    refine ⟨.int .i64 (.ofNat s.size), ?_, .int _ _⟩
    simp [execOp, ho, hr, resolve, invoke, builtin, Builtin.len_, hu, hd, goInt]
  · cases e
theorem ok_lenSl {t e : TypeId} {x : Operand} {i : TI} (C : CxOk P cx) (ht : cx.ti t = some i) (hd : i.desc = .slice e) (ho : o.op = .call { callee := .builtin .len, args := #[x], argTypes := #[t] }) :
    PureOk P o fun ρ => match ρ x with | .slice _ n _ => some (.int .i64 (.ofNat n)) | _ => none := by
  intro μ ρ ρ' w v h e
  have hc := mem_ops h ho (x := x) (by simp [Op.operands, Call.operands])
  dsimp only at e
  split at e
  · rename_i a n c hq
    cases e
    rw [hq] at hc
    generalize hr : ρ' x = r at hc
    have hu := C.run_und ht w
    refine ⟨.int .i64 (.ofNat n), ?_, .int _ _⟩
    cases hc <;> simp [execOp, ho, hr, resolve, invoke, builtin, Builtin.len_, hu, hd, goInt]
  · cases e
theorem ok_lenA {t e : TypeId} {x : Operand} {i : TI} {n : Nat} (C : CxOk P cx) (ht : cx.ti t = some i) (hd : i.desc = .array n e) (ho : o.op = .call { callee := .builtin .len, args := #[x], argTypes := #[t] }) :
    PureOk P o fun _ => some (.int .i64 (.ofNat n)) := by
  intro μ ρ ρ' w v h e
  cases e
  have hu := C.run_und ht w
  refine ⟨.int .i64 (.ofNat n), ?_, .int _ _⟩
  simp [execOp, ho, resolve, invoke, builtin, Builtin.len_, hu, hd, goInt]
theorem ok_min {x y : Operand} {ts : Array TypeId} (ho : o.op = .call { callee := .builtin .min, args := #[x, y], argTypes := ts }) :
    PureOk P o fun ρ => match ρ x, ρ y with | .int k a, .int _ b => some (.int k (bif ltI b a then b else a)) | _, _ => none := by
  intro μ ρ ρ' w v h e
  have h1 := mem_ops h ho (x := x) (by simp [Op.operands, Call.operands])
  have h2 := mem_ops h ho (x := y) (by simp [Op.operands, Call.operands])
  dsimp only at e
  split at e
  · rename_i k a k' b hq hq'
    cases e
    rw [hq] at h1; rw [hq'] at h2
    generalize hr : ρ' x = r at h1
    generalize hs : ρ' y = s at h2
    cases h1; cases h2
    refine ⟨.int k (if b < a then b else a), ?_, ?_⟩
    · simp [execOp, ho, hr, hs, resolve, invoke, builtin, Builtin.min_, Builtin.min2]
    · rw [ltI_eq]; by_cases hlt : b < a <;> simp [hlt] <;> exact .int _ _
  · cases e
theorem ok_max {x y : Operand} {ts : Array TypeId} (ho : o.op = .call { callee := .builtin .max, args := #[x, y], argTypes := ts }) :
    PureOk P o fun ρ => match ρ x, ρ y with | .int k a, .int _ b => some (.int k (bif ltI a b then b else a)) | _, _ => none := by
  intro μ ρ ρ' w v h e
  have h1 := mem_ops h ho (x := x) (by simp [Op.operands, Call.operands])
  have h2 := mem_ops h ho (x := y) (by simp [Op.operands, Call.operands])
  dsimp only at e
  split at e
  · rename_i k a k' b hq hq'
    cases e
    rw [hq] at h1; rw [hq'] at h2
    generalize hr : ρ' x = r at h1
    generalize hs : ρ' y = s at h2
    cases h1; cases h2
    refine ⟨.int k (if a < b then b else a), ?_, ?_⟩
    · simp [execOp, ho, hr, hs, resolve, invoke, builtin, Builtin.max_, Builtin.max2]
    · rw [ltI_eq]; by_cases hlt : a < b <;> simp [hlt] <;> exact .int _ _
  · cases e
end Go.EvM
