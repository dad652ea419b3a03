/- The operations that read the heap, and those that make a block. -/
import Derived.Test.YtmnpdgldmpjekaaEvOps5
namespace Go.EvM
open Go.RowKit
set_option linter.unusedVariables false
variable {P : Program} {cx : Cx} {o : Oper}

def LookOk (P : Program) (o : Oper) (f : Env → Hp → Option Value) : Prop :=
  ∀ (W : World) (μ : Mu) (ρ ρ' : Env) (h : Hp) (w : World) (v : Value), Ops o μ ρ ρ' → Rel W μ h w → f ρ h = some v → ∃ v', (execOp ρ' o).run P w = .ok (.value v') w ∧ VR μ v v'

theorem ok_load1 {t : TypeId} {a : Operand} {i : TI} (C : CxOk P cx) (ht : cx.ti t = some i) (hd : isAggB i.desc = false) (ho : o.op = .load t a) :
    LookOk P o fun ρ h => match ptrV (ρ a) with | some (b, off) => load1 h b off | none => none := by
  intro W μ ρ ρ' h w v hop R e
  have hc := mem_ops hop ho (x := a) (by simp [Op.operands])
  dsimp only at e
  split at e
  · rename_i b off hp
    rw [ptrV_eq hp] at hc
    generalize hr : ρ' a = r at hc
    cases hc with
    | ptr _ hb =>
      rename_i bi
      unfold load1 at e
      split at e
      · rename_i c n z ti ro hob
        obtain ⟨hj, u, hu, hv, _⟩ := R.cell hb hob e
        have hag := C.run_isAgg ht w
        rw [hd] at hag
        refine ⟨u, ?_, hv⟩
        simp [execOp, ho, hr, Instr.loadAt, Instr.sureAddr, loadVar, hag, hu]
      · cases e
  · cases e
theorem ok_loadA {t : TypeId} {a : Operand} {i : TI} (C : CxOk P cx) (ht : cx.ti t = some i) (hd : isAggB i.desc = true) (ho : o.op = .load t a) :
    LookOk P o fun ρ h => match ptrV (ρ a) with | some (b, off) => loadA h i.size b off | none => none := by
  intro W μ ρ ρ' h w v hop R e
  have hc := mem_ops hop ho (x := a) (by simp [Op.operands])
  dsimp only at e
  split at e
  · rename_i b off hp
    rw [ptrV_eq hp] at hc
    generalize hr : ρ' a = r at hc
    cases hc with
    | ptr _ hb =>
      rename_i bi
      unfold loadA at e
      split at e
      · rename_i c n z ti ro hob
        split at e
        · rename_i l hl
          cases e
          obtain ⟨l', g1, g2, g3, g4⟩ := R.run_loadCells (P := P) hb hob hl
          have hag := C.run_isAgg ht w
          have hsz := C.run_size ht w
          rw [hd] at hag
          refine ⟨.agg l'.toArray, ?_, .agg g1 g2⟩
          simp [execOp, ho, hr, Instr.loadAt, Instr.sureAddr, loadVar, hag, hsz, g4]
        · cases e
      · cases e
  · cases e

theorem ok_sliceSl {t e : TypeId} {x : Operand} {lo hi mx : Option Operand} {i ei : TI} (C : CxOk P cx) (ht : cx.ti t = some i) (hd : i.desc = .slice e) (he : cx.ti e = some ei) (hm : mx.isSome = true → hi.isSome = true)
    (ho : o.op = .slice t x lo hi mx) : LookOk P o fun ρ h => sliceSl h ei.size (ρ x) (lo.map ρ) (hi.map ρ) (mx.map ρ) := by
  intro W μ ρ ρ' h w v hop R e
  have hc := mem_ops hop ho (x := x) (by simp [Op.operands])
  have hlo : OptR μ (lo.map ρ) (lo.map ρ') := optR fun y hy => mem_ops hop ho (by simp [Op.operands, hy])
  have hhi : OptR μ (hi.map ρ) (hi.map ρ') := optR fun y hy => mem_ops hop ho (by simp [Op.operands, hy])
  have hmx : OptR μ (mx.map ρ) (mx.map ρ') := optR fun y hy => mem_ops hop ho (by simp [Op.operands, hy])
  dsimp only at e
  generalize hr : ρ' x = r at hc
  generalize hq : ρ x = q at hc e
  unfold sliceSl at e
  split at e
  · rename_i a len cap
    split at e
    · rename_i l hh m hb
      have hu := C.run_und ht w
      have hsz := C.run_size he w
      split at e
      · cases e
        cases hc
        obtain ⟨rb, g1, g2, g3, g4, g5⟩ := bounds_ok (P := P) (x := 0) hlo hhi hmx (by simpa using hm) hb true w
        have rb' : (Instr.sliceBounds true 0 0 (lo.map ρ') (hi.map ρ') (mx.map ρ')).run P w = .ok (l, hh, m) w := by
          rw [Nat.add_zero] at rb; rw [rb]; split <;> rfl
        have hz : hh - l = 0 ∧ m - l = 0 := by
          cases hi with
          | some _ => have := g2 rfl; omega
          | none => have := g5 rfl; omega
        refine ⟨.slice none (hh - l) (m - l), by simp [execOp, ho, hr, Instr.sliceAt, Instr.slice, hu, hd, rb', hsz], ?_⟩
        show VR μ (.slice none (hh - l) (m - l)) (.slice none (hh - l) (m - l))
        rw [hz.1, hz.2]; exact .nils
      · rename_i b off
        cases hz : okZ h b ei.size with
        | false => rw [hz] at e; cases e
        | true =>
          rw [hz] at e; cases e
          cases hc with
          | slice _ _ _ x2 ra hbi hlc hor hra =>
            rename_i bi
            obtain ⟨rb, g1, g2, g3, g4, g5⟩ := bounds_ok (P := P) (x := x2) hlo hhi hmx (by simpa using hm) hb true w
            have hhm : hh ≤ m := by
              cases hi with
              | some _ => exact g2 rfl
              | none =>
                cases mx with
                | none => have := g4 rfl; have := g5 rfl; omega
                | some _ => simp at hm
            -- the size of an element, where room lies behind
            have hze : x2 = 0 ∨ bi.z = ei.size := by
              rcases hor with h0 | ⟨h0, _⟩
              · exact .inl h0
              · unfold okZ at hz
                split at hz
                · rename_i c n z ti ro hob
                  obtain ⟨cs, e', fz, r1, r2, r3, r4, _⟩ := R.ob b bi _ hbi hob
                  cases ti with
                  | true => have := (r4 rfl).1; left; omega
                  | false => right; rw [r3]; exact Nat.eq_of_beq_eq_true (by simpa using hz)
                · cases hz
            generalize hy : (if mx.isNone then x2 else 0) = y
            have hcap : (if (mx.map ρ).isNone then m + x2 else m) = m + y := by
              cases mx <;> simp at hy ⊢ <;> omega
            rw [hcap] at rb
            have hyx : y = 0 ∨ (y = x2 ∧ m = cap) := by
              cases mx with
              | none => right; simp at hy; exact ⟨hy.symm, g4 rfl⟩
              | some _ => left; simpa using hy.symm
            refine ⟨.slice (some (if m + y = l then ra else ra.add (l * ei.size))) (hh - l) (m - l + y), ?_, ?_⟩
            · simp only [execOp, ho, hr, Instr.sliceAt, Sem.run_bind, hu, hd, Result.andThen_ok, Instr.slice, rb, hsz, Sem.run_pure]
              rw [show m + y - l = m - l + y from by omega]
              split <;> rfl
            · refine VR.slice (μ := μ) (off + l * ei.size) (hh - l) (m - l) y _ hbi (by omega) ?_ ?_
              · rcases hyx with h0 | ⟨h0, h1⟩
                · exact .inl h0
                · rcases hor with h2 | ⟨h2, h3⟩
                  · left; omega
                  · rcases hze with h4 | h4
                    · left; omega
                    · right
                      refine ⟨by omega, ?_⟩
                      rw [h4] at h3 ⊢
                      obtain ⟨k, rfl⟩ : ∃ k, m = l + k := ⟨m - l, by omega⟩
                      rw [← h3, ← h1, Nat.add_sub_cancel_left, Nat.add_mul]; omega
              · by_cases hml : m + y = l
                · right; omega
                · rw [if_neg hml]
                  rcases hra with h5 | ⟨h5, h6⟩
                  · left; rw [h5, add_off, Nat.add_assoc]
                  · right; rcases hyx with h0 | ⟨h0, h1⟩ <;> omega
      · cases e
    · cases e
  · cases e
end Go.EvM
