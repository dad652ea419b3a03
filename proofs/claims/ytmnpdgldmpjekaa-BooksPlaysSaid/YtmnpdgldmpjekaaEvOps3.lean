/- The operations that touch no heap, one by one. -/
import Derived.Test.YtmnpdgldmpjekaaEvOps2
namespace Go.EvM
open Go.RowKit
set_option linter.unusedVariables false

variable {P : Program} {cx : Cx} {o : Oper}

theorem mem_ops {μ : Mu} {ρ ρ' : Env} (h : Ops o μ ρ ρ') {op : Op} (ho : o.op = op) {x : Operand} (hx : x ∈ op.operands.toList) : VR μ (ρ x) (ρ' x) := h x (by rw [ho]; exact hx)

theorem run_v {s : Sem Value} {w w' : World} {v : Value} (r : s.run P w = .ok v w') : (do pure (Next.value (← s)) : Sem Next).run P w = .ok (.value v) w' := by
  simp [r]

theorem ok_move {x : Operand} (ho : o.op = .move x) : PureOk P o fun ρ => some (ρ x) := by
  intro μ ρ ρ' w v h e
  cases e
  exact ⟨ρ' x, by simp [execOp, ho], mem_ops h ho (by simp [Op.operands])⟩
theorem ok_assign {x : Operand} (ho : o.op = .assign x) : PureOk P o fun ρ => some (ρ x) := by
  intro μ ρ ρ' w v h e
  cases e
  exact ⟨ρ' x, by simp [execOp, ho], mem_ops h ho (by simp [Op.operands])⟩
theorem ok_pick {c a b : Operand} (ho : o.op = .pick c a b) : PureOk P o fun ρ => match ρ c with | .bool t => some (bif t then ρ a else ρ b) | _ => none := by
  intro μ ρ ρ' w v h e
  have hc := mem_ops h ho (x := c) (by simp [Op.operands])
  have ha := mem_ops h ho (x := a) (by simp [Op.operands])
  have hb := mem_ops h ho (x := b) (by simp [Op.operands])
  dsimp only at e
  split at e
  · rename_i t ht
    rw [ht] at hc
    generalize hr : ρ' c = r at hc
    cases hc
    cases t with
    | true => cases e; exact ⟨ρ' a, by simp [execOp, ho, hr, asBool], ha⟩
    | false => cases e; exact ⟨ρ' b, by simp [execOp, ho, hr, asBool], hb⟩
  · cases e
theorem ok_nil {x : Operand} (ho : o.op = .nilCheck x) : PureOk P o fun ρ => nilV (ρ x) := by
  intro μ ρ ρ' w v h e
  have hc := mem_ops h ho (x := x) (by simp [Op.operands])
  dsimp only at e
  generalize hr : ρ' x = r at hc
  generalize hq : ρ x = q at hc e
  unfold nilV at e
  split at e
  · cases e
    cases hc with
    | ptr off hb => exact ⟨_, by simp [execOp, ho, hr], .ptr off hb⟩
  · cases e
    cases hc with
    | func _ ha hb => exact ⟨_, by simp [execOp, ho, hr], .func _ ha hb⟩
  · cases e
theorem ok_un {op : UnOp} {t : TypeId} {x : Operand} (ho : o.op = .unOp op t x) : PureOk P o fun ρ => unV op (ρ x) := by
  intro μ ρ ρ' w v h e
  have hc := mem_ops h ho (x := x) (by simp [Op.operands])
  dsimp only at e
  generalize hr : ρ' x = r at hc
  generalize hq : ρ x = q at hc e
  unfold unV at e
  split at e
  · cases e; cases hc; exact ⟨_, by simp [execOp, ho, hr, Op.unary], .bool _⟩
  · cases e; cases hc
    rename_i k n
    exact ⟨_, by simp [execOp, ho, hr, Op.unary, Op.intArith, wr_eq, isub], .int _ _⟩
  · rename_i k n
    cases hc
    simp only [intBin] at e
    cases e
    exact ⟨_, by simp [execOp, ho, hr, Op.unary, Op.intBits], .int _ _⟩
  · cases e
theorem ok_bin {op : BinOp} {t u : TypeId} {x y : Operand} (ho : o.op = .binOp op t x y u) : PureOk P o fun ρ => binV op (ρ x) (ρ y) := by
  intro μ ρ ρ' w v h e
  have h1 := mem_ops h ho (x := x) (by simp [Op.operands])
  have h2 := mem_ops h ho (x := y) (by simp [Op.operands])
  obtain ⟨r, g⟩ := binV_ok (P := P) h1 h2 e w t x y
  exact ⟨v, by unfold execOp; rw [ho]; exact run_v r, g⟩
theorem ok_eq {ne : Bool} {t u : TypeId} {x y : Operand} {i : TI} (C : CxOk P cx) (ht : cx.ti t = some i) (ho : o.op = .binOp (eqOp ne) t x y u) : PureOk P o fun ρ => eqV i.desc ne (ρ x) (ρ y) := by
  intro μ ρ ρ' w v h e
  have h1 := mem_ops h ho (x := x) (by simp [Op.operands])
  have h2 := mem_ops h ho (x := y) (by simp [Op.operands])
  obtain ⟨_, _, _, hu, _⟩ := C.ti t i ht
  obtain ⟨r, g⟩ := eqV_ok (P := P) h1 h2 e w t x y hu
  exact ⟨v, by unfold execOp; rw [ho]; exact run_v r, g⟩
theorem ok_extr {x : Operand} {i : Nat} (ho : o.op = .extract x i) : PureOk P o fun ρ => extrV (ρ x) i := by
  intro μ ρ ρ' w v h e
  have hc := mem_ops h ho (x := x) (by simp [Op.operands])
  dsimp only at e
  generalize hr : ρ' x = r at hc
  generalize hq : ρ x = q at hc e
  unfold extrV at e
  simp only [nth_eq] at e
  split at e
  · cases hc with
    | tuple hl =>
      rename_i l l'
      obtain ⟨u, hu, hv⟩ := hl.get e
      exact ⟨u, by simp [execOp, ho, hr, Instr.extract, hu], hv⟩
  · cases e
theorem VRs.arrMap {μ : Mu} {ρ ρ' : Env} {xs : Array Operand} (h : ∀ x ∈ xs.toList, VR μ (ρ x) (ρ' x)) : VRs μ (xs.map ρ).toList (xs.map ρ').toList := by
  simpa using VRs.map h
theorem ok_func {f : FuncId} {a b : Array Operand} (ho : o.op = .makeFunc (.func f) a b) : PureOk P o fun ρ => some (.func (.func f) (a.map ρ) (b.map ρ)) := by
  intro μ ρ ρ' w v h e
  cases e
  refine ⟨.func (.func f) (a.map ρ') (b.map ρ'), by simp [execOp, ho, Instr.makeFunc], ?_⟩
  have h1 : VRs μ (a.map ρ).toList (a.map ρ').toList := VRs.arrMap fun x hx => mem_ops h ho (by simp [Op.operands]; exact .inl (by simpa using hx))
  have h2 : VRs μ (b.map ρ).toList (b.map ρ').toList := VRs.arrMap fun x hx => mem_ops h ho (by simp [Op.operands]; exact .inr (by simpa using hx))
  exact VR.func f h1 h2

/-! ### Fields, elements -/
theorem ptrV_eq {v : Value} {b off : Nat} (h : ptrV v = some (b, off)) : v = .pointer (some ⟨b, off, none⟩) := by
  unfold ptrV at h; split at h <;> cases h; rfl
theorem natV_eq {v : Value} {n : Nat} (h : natV v = some n) : ∃ k, v = .int k n := by
  unfold natV at h; split at h <;> cases h; exact ⟨_, rfl⟩

theorem ok_fieldAddr {s : TypeId} {x : Operand} {f : Nat} {i fi : TI} {fs : Array Field} {fd : Field} (C : CxOk P cx) (hs : cx.ti s = some i) (hd : i.desc = .struct fs) (hf : fs.toList[f]? = some fd) (hfi : cx.ti fd.type = some fi)
    (hz : Nat.beq fi.size 0 = false) (ho : o.op = .fieldAddr s x f) :
    PureOk P o fun ρ => match ptrV (ρ x) with | some (b, off) => some (.pointer (some ⟨b, Nat.add off fd.offset, none⟩)) | none => none := by
  intro μ ρ ρ' w v h e
  have hc := mem_ops h ho (x := x) (by simp [Op.operands])
  dsimp only at e
  split at e
  · rename_i b off hp
    cases e
    rw [ptrV_eq hp] at hc
    generalize hr : ρ' x = r at hc
    cases hc with
    | ptr _ hb =>
      rename_i j
      refine ⟨.pointer (some ⟨j.rb, j.d + (off + fd.offset), none⟩), ?_, .ptr _ hb⟩
      have hu := C.run_und hs w
      have hsz := C.run_size hfi w
      have hz' : ¬ fi.size = 0 := by intro h0; rw [h0] at hz; cases hz
      have hf' : fs[f]? = some fd := by simpa using hf
      simp [execOp, ho, hr, Instr.fieldAt, hu, hd, hf', Instr.sureAddr, fieldPlace, hsz, hz', add_off, Nat.add_assoc]
  · cases e

theorem part_ok {μ : Mu} {ag : Bool} {off size : Nat} {v q r : Value} (hv : VR μ q r) (e : partV ag off size q = some v) (t : TypeId) (w : World)
    (hag : (isAgg t).run P w = .ok ag w) (hsz : (sizeOf t).run P w = .ok size w) : ∃ cs, r = .agg cs ∧ ∃ v', (part t cs off).run P w = .ok v' w ∧ VR μ v v' := by
  unfold partV at e
  simp only [nth_eq] at e
  split at e
  · cases hv with
    | agg hl h1 =>
      rename_i l l'
      refine ⟨_, rfl, ?_⟩
      split at e
      · cases e
        refine ⟨.agg ⟨(l'.drop off).take size⟩, ?_, .agg ((hl.drop off).take size) (fun x hx => h1 x (List.mem_of_mem_drop (List.mem_of_mem_take hx)))⟩
        simp [part, hag, hsz]
      · obtain ⟨u, hu, hvu⟩ := hl.get e
        exact ⟨u, by simp [part, hag, hu], hvu⟩
  · cases e

theorem ok_field {s : TypeId} {x : Operand} {f : Nat} {i fi : TI} {fs : Array Field} {fd : Field} (C : CxOk P cx) (hs : cx.ti s = some i) (hd : i.desc = .struct fs) (hf : fs.toList[f]? = some fd) (hfi : cx.ti fd.type = some fi)
    (ho : o.op = .field s x f) : PureOk P o fun ρ => partV (isAggB fi.desc) fd.offset fi.size (ρ x) := by
  intro μ ρ ρ' w v h e
  have hc := mem_ops h ho (x := x) (by simp [Op.operands])
  obtain ⟨cs, hr, v', hp, hv⟩ := part_ok (P := P) hc e fd.type w (C.run_isAgg hfi w) (C.run_size hfi w)
  have hu := C.run_und hs w
  have hf' : fs[f]? = some fd := by simpa using hf
  exact ⟨v', by simp [execOp, ho, hr, Instr.field, hu, hd, hf', asAgg, hp], hv⟩

theorem ok_indexAddrS {t e : TypeId} {x ix : Operand} {i ei : TI} (C : CxOk P cx) (ht : cx.ti t = some i) (hd : i.desc = .slice e) (he : cx.ti e = some ei) (ho : o.op = .indexAddr t x ix) :
    PureOk P o fun ρ => match ρ x, natV (ρ ix) with
        | .slice (some ⟨b, off, none⟩) len _, some j => bif Nat.blt j len then some (.pointer (some ⟨b, Nat.add off (Nat.mul j ei.size), none⟩)) else none
        | _, _ => none := by
  intro μ ρ ρ' w v h e
  have hx := mem_ops h ho (x := x) (by simp [Op.operands])
  have hi := mem_ops h ho (x := ix) (by simp [Op.operands])
  dsimp only at e
  split at e
  · rename_i b off len cap j hq hn
    obtain ⟨k, hk⟩ := natV_eq hn
    rw [hq] at hx; rw [hk] at hi
    generalize hr : ρ' x = r at hx
    generalize hs : ρ' ix = s at hi
    cases hi
    cases hx with
    | slice _ _ _ xx ra hb hlc hor hra =>
      rename_i bi
      cases hlt : Nat.blt j len with
      | false => rw [hlt] at e; cases e
      | true =>
        rw [hlt] at e; cases e
        have hj := blt_lt hlt
        obtain rfl : ra = ⟨bi.rb, bi.d + off, none⟩ := hra.resolve_right (by omega)
        refine ⟨.pointer (some ⟨bi.rb, bi.d + (off + j * ei.size), none⟩), ?_, .ptr _ hb⟩
        have hu := C.run_und ht w
        have hsz := C.run_size he w
        simp [execOp, ho, hr, hs, Instr.indexAt, asIntOf, hu, hd, hj, hsz, add_off, Nat.add_assoc]
  · cases e
theorem ok_indexAddrA {t e : TypeId} {x ix : Operand} {i ei : TI} {n : Nat} (C : CxOk P cx) (ht : cx.ti t = some i) (hd : i.desc = .array n e) (he : cx.ti e = some ei) (ho : o.op = .indexAddr t x ix) :
    PureOk P o fun ρ => match ptrV (ρ x), natV (ρ ix) with
        | some (b, off), some j => bif Nat.blt j n then some (.pointer (some ⟨b, Nat.add off (Nat.mul j ei.size), none⟩)) else none
        | _, _ => none := by
  intro μ ρ ρ' w v h e
  have hx := mem_ops h ho (x := x) (by simp [Op.operands])
  have hi := mem_ops h ho (x := ix) (by simp [Op.operands])
  dsimp only at e
  split at e
  · rename_i b off j hq hn
    obtain ⟨k, hk⟩ := natV_eq hn
    rw [ptrV_eq hq] at hx; rw [hk] at hi
    generalize hr : ρ' x = r at hx
    generalize hs : ρ' ix = s at hi
    cases hi
    cases hx with
    | ptr _ hb =>
      rename_i bi
      cases hlt : Nat.blt j n with
      | false => rw [hlt] at e; cases e
      | true =>
        rw [hlt] at e; cases e
        have hj := blt_lt hlt
        refine ⟨.pointer (some ⟨bi.rb, bi.d + (off + j * ei.size), none⟩), ?_, .ptr _ hb⟩
        have hu := C.run_und ht w
        have hsz := C.run_size he w
        simp [execOp, ho, hr, hs, Instr.indexAt, asIntOf, hu, hd, hj, hsz, add_off, Nat.add_assoc, Instr.sureAddr]
  · cases e
theorem ok_indexS {t : TypeId} {x ix : Operand} {i : TI} (C : CxOk P cx) (ht : cx.ti t = some i) (hd : i.desc = .string) (ho : o.op = .index t x ix) :
    PureOk P o fun ρ => match ρ x, natV (ρ ix) with
      | .string s, some j => (match nth s.data.toList j with | some b => some (.int .u8 (.ofNat b.toNat)) | none => none)
      | _, _ => none := by
  intro μ ρ ρ' w v h e
  have hx := mem_ops h ho (x := x) (by simp [Op.operands])
  have hi := mem_ops h ho (x := ix) (by simp [Op.operands])
  dsimp only at e
  split at e
  · rename_i s j hq hn
    obtain ⟨k, hk⟩ := natV_eq hn
    rw [hq] at hx; rw [hk] at hi
    generalize hr : ρ' x = r at hx
    generalize hs : ρ' ix = q at hi
    cases hi; cases hx
    simp only [nth_eq] at e
    split at e
    · rename_i b hb
      cases e
      have hb' : s[j]? = some b := by
        have : s.data[j]? = some b := by simpa using hb
        obtain ⟨hlt, hg⟩ := Array.getElem?_eq_some_iff.1 this
        have hlt' : j < s.size := hlt
        show (if hlt : j < s.size then some s[j] else none) = some b
        rw [dif_pos hlt']
        exact congrArg some hg
      have hu := C.run_und ht w
      exact ⟨_, by simp [execOp, ho, hr, hs, Instr.index, asIntOf, hu, hd, hb'], .int _ _⟩
    · cases e
  · cases e
theorem ok_indexA {t e : TypeId} {x ix : Operand} {i ei : TI} {n : Nat} (C : CxOk P cx) (ht : cx.ti t = some i) (hd : i.desc = .array n e) (he : cx.ti e = some ei) (ho : o.op = .index t x ix) :
    PureOk P o fun ρ => match natV (ρ ix) with
        | some j => bif Nat.blt j n then partV (isAggB ei.desc) (Nat.mul j ei.size) ei.size (ρ x) else none
        | none => none := by
  intro μ ρ ρ' w v h e
  have hx := mem_ops h ho (x := x) (by simp [Op.operands])
  have hi := mem_ops h ho (x := ix) (by simp [Op.operands])
  dsimp only at e
  split at e
  · rename_i j hn
    obtain ⟨k, hk⟩ := natV_eq hn
    rw [hk] at hi
    generalize hs : ρ' ix = q at hi
    cases hi
    cases hlt : Nat.blt j n with
    | false => rw [hlt] at e; cases e
    | true =>
      rw [hlt] at e
      have hj := blt_lt hlt
      obtain ⟨cs, hr, v', hp, hv⟩ := part_ok (P := P) hx e _ w (C.run_isAgg he w) (C.run_size he w)
      have hu := C.run_und ht w
      have hsz := C.run_size he w
      have hp' : (part _ cs (j * ei.size)).run P w = .ok v' w := hp
      exact ⟨v', by simp [execOp, ho, hr, hs, Instr.index, asIntOf, hu, hd, hj, hsz, hp'], hv⟩
  · cases e

/-! ### Conversions, strings cut, len, min, max -/
theorem ok_convI {a b : TypeId} {x : Operand} {k k' : IntKind} {si di : TI} (C : CxOk P cx) (hs : cx.ti a = some si) (hd : cx.ti b = some di) (h1 : si.desc = .int k') (h2 : di.desc = .int k) (ho : o.op = .convert a b x) :
    PureOk P o fun ρ => match ρ x with | .int _ n => some (.int k (wr k n)) | _ => none := by
  intro μ ρ ρ' w v h e
  have hc := mem_ops h ho (x := x) (by simp [Op.operands])
  have u1 := C.run_und hs w
  have u2 := C.run_und hd w
  dsimp only at e
  split at e
  · rename_i q n hq
    cases e
    rw [hq] at hc
    generalize hr : ρ' x = r at hc
    cases hc
    exact ⟨_, by simp [execOp, ho, hr, convert, u1, u2, h1, h2, Conv.intToInt, wr_eq], .int _ _⟩
  · cases e
theorem ok_convS {a b : TypeId} {x : Operand} {si di : TI} (C : CxOk P cx) (hs : cx.ti a = some si) (hd : cx.ti b = some di) (h1 : si.desc = .string) (h2 : di.desc = .string) (ho : o.op = .convert a b x) :
    PureOk P o fun ρ => match ρ x with | .string s => some (.string s) | _ => none := by
  intro μ ρ ρ' w v h e
  have hc := mem_ops h ho (x := x) (by simp [Op.operands])
  have u1 := C.run_und hs w
  have u2 := C.run_und hd w
  dsimp only at e
  split at e
  · rename_i s hq
    cases e
    rw [hq] at hc
    generalize hr : ρ' x = r at hc
    cases hc
    exact ⟨_, by simp [execOp, ho, hr, convert, u1, u2, h1, h2], .string _⟩
  · cases e

end Go.EvM
