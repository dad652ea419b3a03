/- Every operation: what the interpreter takes it for is so. -/
import Derived.Test.YtmnpdgldmpjekaaEvOpsN
namespace Go.EvM
open Go.RowKit
set_option linter.unusedVariables false
variable {P : Program} {cx : Cx} {o : Oper}

theorem arrMap (ρ : Env) (xs : Array Operand) : xs.map ρ = (xs.toList.map ρ).toArray := by
  apply Array.ext'; simp

theorem cls_build (C : CxOk P cx) {t : TypeId} {ps : Array (Nat × Operand)} (ho : o.op = .build t ps) : ClsOk P o (cBuild cx t ps) := by
  unfold cBuild
  split
  · rename_i i hi
    split
    · rename_i fs hd
      split
      · rename_i pl hpl; exact ok_buildS C hi hd hpl ho
      · trivial
    · rename_i n e hd
      split
      · rename_i ei he; exact ok_buildA C hi hd he ho
      · trivial
    · trivial
  · trivial
theorem cls_buildSlice (C : CxOk P cx) {t : TypeId} {n : Nat} {ps : Array (Nat × Operand)} (ho : o.op = .buildSlice t n ps) : ClsOk P o (cBuildSlice cx t n ps) := by
  unfold cBuildSlice
  split
  · rename_i i hi
    split
    · rename_i e hd
      split
      · rename_i ei he
        cases hb : (Nat.ble (Nat.mul n ei.size) 16777216 && Nat.blt 0 ei.size) with
        | false => exact trivial
        | true => exact ok_buildSlice C hi hd he hb ho
      · trivial
    · trivial
  · trivial
theorem cls_load (C : CxOk P cx) {t : TypeId} {a : Operand} (ho : o.op = .load t a) : ClsOk P o (cLoad cx t a) := by
  unfold cLoad
  split
  · rename_i i hi
    split
    · rename_i hd; exact ok_loadA C hi hd ho
    · rename_i hd; exact ok_load1 C hi hd ho
  · trivial
theorem cls_store (C : CxOk P cx) {t : TypeId} {a x : Operand} (ho : o.op = .store t a x) : ClsOk P o (cStore cx t a x) := by
  unfold cStore
  split
  · rename_i i hi; exact ok_store C hi ho
  · trivial
theorem cls_conv (C : CxOk P cx) {s d : TypeId} {x : Operand} (ho : o.op = .convert s d x) : ClsOk P o (cConv cx s d x) := by
  unfold cConv
  split
  · rename_i si di hs hd
    split
    · rename_i k' k h1 h2; exact ok_convI C hs hd h1 h2 ho
    · rename_i h1 h2; exact ok_convS C hs hd h1 h2 ho
    · rename_i e h1 h2
      split
      · rename_i ei he
        split
        · rename_i h3; exact ok_convBS C hs hd h1 h2 he h3 ho
        · trivial
      · trivial
    · rename_i e h1 h2
      split
      · rename_i ei he
        split
        · rename_i h3; exact ok_convSB C hs hd h1 h2 he h3 ho
        · trivial
      · trivial
    · trivial
  · trivial
theorem cls_slice (C : CxOk P cx) {t : TypeId} {x : Operand} {lo hi mx : Option Operand} (ho : o.op = .slice t x lo hi mx) : ClsOk P o (cSlice cx t x lo hi mx) := by
  unfold cSlice
  split
  · rename_i i hi'
    split
    · rename_i hd
      split
      · exact ok_sliceStr C hi' hd ho
      · trivial
    · rename_i e hd
      split
      · rename_i ei he
        split
        · trivial
        · rename_i hn
          refine ok_sliceSl C hi' hd he ?_ ho
          intro hm
          cases hi with
          | some _ => rfl
          | none => cases mx with
            | none => simp at hm
            | some m => exact (hn m rfl rfl).elim
      · trivial
    · rename_i n e hd
      split
      · rename_i ei he
        split
        · trivial
        · rename_i hn
          refine ok_sliceArr C hi' hd he ?_ ho
          intro hm
          cases hi with
          | some _ => rfl
          | none => cases mx with
            | none => simp at hm
            | some m => exact (hn m rfl rfl).elim
      · trivial
    · trivial
  · trivial
theorem cls_fieldAddr (C : CxOk P cx) {s : TypeId} {x : Operand} {f : Nat} (ho : o.op = .fieldAddr s x f) : ClsOk P o (cFieldAddr cx s x f) := by
  unfold cFieldAddr
  split
  · rename_i i hi
    split
    · rename_i fs hd
      split
      · rename_i fd hf
        split
        · rename_i fi hfi
          cases hz : Nat.beq fi.size 0 with
          | true => exact trivial
          | false => exact ok_fieldAddr C hi hd hf hfi hz ho
        · trivial
      · trivial
    · trivial
  · trivial
theorem cls_field (C : CxOk P cx) {s : TypeId} {x : Operand} {f : Nat} (ho : o.op = .field s x f) : ClsOk P o (cField cx s x f) := by
  unfold cField
  split
  · rename_i i hi
    split
    · rename_i fs hd
      split
      · rename_i fd hf
        split
        · rename_i fi hfi; exact ok_field C hi hd hf hfi ho
        · trivial
      · trivial
    · trivial
  · trivial
theorem cls_indexAddr (C : CxOk P cx) {t : TypeId} {x ix : Operand} (ho : o.op = .indexAddr t x ix) : ClsOk P o (cIndexAddr cx t x ix) := by
  unfold cIndexAddr
  split
  · rename_i i hi
    split
    · rename_i e hd
      split
      · rename_i ei he; exact ok_indexAddrS C hi hd he ho
      · trivial
    · rename_i n e hd
      split
      · rename_i ei he; exact ok_indexAddrA C hi hd he ho
      · trivial
    · trivial
  · trivial
theorem cls_index (C : CxOk P cx) {t : TypeId} {x ix : Operand} (ho : o.op = .index t x ix) : ClsOk P o (cIndex cx t x ix) := by
  unfold cIndex
  split
  · rename_i i hi
    split
    · rename_i hd; exact ok_indexS C hi hd ho
    · rename_i n e hd
      split
      · rename_i ei he; exact ok_indexA C hi hd he ho
      · trivial
    · trivial
  · trivial
theorem cls_makeSlice (C : CxOk P cx) {t : TypeId} {l c : Operand} (ho : o.op = .makeSlice t l c) : ClsOk P o (cMakeSlice cx t l c) := by
  unfold cMakeSlice
  split
  · rename_i i hi
    split
    · rename_i e hd
      split
      · rename_i ei he; exact ok_makeSlice C hi hd he ho
      · trivial
    · trivial
  · trivial

theorem cls_bin (C : CxOk P cx) {op : BinOp} {t u : TypeId} {x y : Operand} (ho : o.op = .binOp op t x y u) : ClsOk P o (cBin cx op t x y) := by
  unfold cBin
  split
  · split
    · rename_i i hi; exact ok_eq (ne := false) C hi ho
    · trivial
  · split
    · rename_i i hi; exact ok_eq (ne := true) C hi ho
    · trivial
  · exact ok_bin ho

theorem cls_builtin (C : CxOk P cx) {b : Builtin} {args : Array Operand} {ts : Array TypeId} (ho : o.op = .call { callee := .builtin b, args, argTypes := ts }) : ClsOk P o (cBuiltin cx b args.toList ts.toList) := by
  obtain ⟨args⟩ := args
  obtain ⟨ts⟩ := ts
  unfold cBuiltin
  split
  · split
    · rename_i x t h1 h2
      simp at h1 h2; subst h1; subst h2
      unfold lenCls
      split
      · rename_i i hi
        split
        · rename_i hd; exact ok_lenS C hi hd ho (ty := 0)
        · rename_i e hd; exact ok_lenSl C hi hd ho
        · rename_i n e hd; exact ok_lenA C hi hd ho
        · rename_i kt et hd; exact ok_lenM C hi hd ho
        · trivial
      · trivial
    · trivial
  · split
    · rename_i s x t u h1 h2
      simp at h1 h2; subst h1; subst h2
      unfold cAppend
      split
      · rename_i i hi
        split
        · rename_i e hd
          split
          · rename_i ei he
            cases hb : isIntT cx u with
            | true => exact trivial
            | false => exact ok_append C hi hd he hb ho
          · trivial
        · trivial
      · trivial
    · trivial
  · split
    · rename_i d s t u h1 h2
      simp at h1 h2; subst h1; subst h2
      unfold cCopy
      split
      · rename_i i hi
        split
        · rename_i e hd
          split
          · rename_i ei he; exact ok_copy C hi hd he ho
          · trivial
        · trivial
      · trivial
    · trivial
  · split
    · rename_i x t h1 h2
      simp at h1 h2; subst h1; subst h2
      exact cls_clear C ho
    · trivial
  · split
    · rename_i x y h1
      simp at h1; subst h1
      exact ok_min ho
    · trivial
  · split
    · rename_i x y h1
      simp at h1; subst h1
      exact ok_max ho
    · trivial
  · trivial

theorem cls_call (C : CxOk P cx) {c : Call} (ho : o.op = .call c) : ClsOk P o (cCall cx c) := by
  obtain ⟨callee, args, ts⟩ := c
  unfold cCall
  split
  · rename_i f hf
    simp only at hf; subst hf
    refine ⟨⟨by rw [ho]; simp [Op.operands, Call.operands], fun x hx => by rw [ho]; simp [Op.operands, Call.operands]; right; simpa using hx⟩, ?_⟩
    intro ρ g a c hρ
    simp only [execOp, ho, resolve, hρ, Deferred.ofValue, pure_bind, invoke]
    rw [arrMap]
  · rename_i b hb
    simp only at hb; subst hb
    exact cls_builtin C ho
  · trivial
theorem cls_defer {c : Call} {f : Operand} (ho : o.op = .defer c) (hf : c.callee = .value f) : DeferOk o f c.args.toList := by
  obtain ⟨callee, args, ts⟩ := c
  simp only at hf; subst hf
  refine ⟨⟨by rw [ho]; simp [Op.operands, Call.operands], fun x hx => by rw [ho]; simp [Op.operands, Call.operands]; right; simpa using hx⟩, ?_⟩
  intro ρ g a c hρ
  simp only [execOp, ho, resolve, hρ, Deferred.ofValue, pure_bind]
  rw [arrMap]

theorem cOp_ok (C : CxOk P cx) : ClsOk P o (cOp cx o.op) := by
  unfold cOp
  split
  · rename_i x ho; exact ok_move ho
  · rename_i x ho; exact ok_assign ho
  · rename_i c a b ho; exact ok_pick ho
  · rename_i e ho
    unfold cAlloc
    split
    · rename_i i hi; exact ok_alloc C hi ho
    · trivial
  · rename_i e x ho; exact ok_box ho
  · rename_i t ps ho; exact cls_build C ho
  · rename_i t n ps ho; exact cls_buildSlice C ho
  · rename_i t a ho; exact cls_load C ho
  · rename_i t a x ho; exact cls_store C ho
  · rename_i x ho; exact ok_nil ho
  · rename_i op t x y u ho; exact cls_bin C ho
  · rename_i op t x ho; exact ok_un ho
  · rename_i s d x ho; exact cls_conv C ho
  · rename_i fn a b ho
    split
    · exact ok_func ho
    · trivial
  · rename_i t l c ho; exact cls_makeSlice C ho
  · rename_i t x lo hi mx ho; exact cls_slice C ho
  · rename_i s x f ho; exact cls_fieldAddr C ho
  · rename_i s x f ho; exact cls_field C ho
  · rename_i t x i ho; exact cls_indexAddr C ho
  · rename_i t x i ho; exact cls_index C ho
  · rename_i t i ho; exact ok_extr ho
  · rename_i t x k ok ho
    unfold cLookup
    split
    · rename_i d ei hm; exact ok_lookup C hm ho
    · trivial
  · rename_i t m k x ho
    unfold cMapUpdate
    split
    · rename_i d ei hm; exact ok_mapUpdate C hm ho
    · trivial
  · rename_i t r ho
    unfold cMakeMap
    split
    · exact ok_makeMap ho
    · trivial
  · rename_i t x ho; exact cls_mkIface C ho
  · rename_i x u t ok ho; exact cls_assert C ho
  · rename_i c ho; exact cls_call C ho
  · rename_i c ho
    split
    · rename_i f hf; exact cls_defer ho hf
    · trivial
  · trivial

theorem cls_ok (C : CxOk P cx) (o : Oper) : ClsOk P o (cls cx o) := by
  unfold cls
  cases h : o.op.operands.toList.all okOpnd with
  | false => exact trivial
  | true => exact cOp_ok C
theorem cls_opnd {o : Oper} (h : cls cx o ≠ .bad) : ∀ x ∈ o.op.operands.toList, okOpnd x = true := by
  unfold cls at h
  cases hb : o.op.operands.toList.all okOpnd with
  | false => rw [hb] at h; exact (h rfl).elim
  | true => exact List.all_eq_true.1 hb
end Go.EvM
