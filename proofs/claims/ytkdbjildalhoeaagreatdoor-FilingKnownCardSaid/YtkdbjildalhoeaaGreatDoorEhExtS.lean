/- ExtS: three entries of the library without a Go text: how often a byte stands in a text, where it stands first, and room for n bytes. -/
import Derived.Test.YtkdbjildalhoeaaGreatDoorEhRun
import Derived.Lib.Bytealg
import Derived.Lib.MakeNoZero
namespace Go.EvM
set_option linter.unusedSectionVars false
variable [GLs]
open Go.RowKit
set_option linter.unusedVariables false
variable {P : Program}

noncomputable def cntL (c : UInt8) (l : List UInt8) : Nat :=
  List.rec (motive := fun _ => Nat) 0 (fun b _ ih => bif Nat.beq b.toNat c.toNat then Nat.succ ih else ih) l
theorem cntL_eq (c : UInt8) : ∀ l : List UInt8, cntL c l = Lib.countByte l c
  | [] => rfl
  | b :: l => by
    show (bif Nat.beq b.toNat c.toNat then Nat.succ (cntL c l) else cntL c l) = _
    rw [cntL_eq c l]
    unfold Lib.countByte
    rw [List.count_cons]
    by_cases h : b = c
    · subst h; simp
    · have h2 : ¬ b.toNat = c.toNat := fun e => h (UInt8.toNat_inj.1 e)
      have h3 : Nat.beq b.toNat c.toNat = false := by cases hb : Nat.beq b.toNat c.toNat with
        | true => exact absurd (Nat.eq_of_beq_eq_true hb) h2
        | false => rfl
      rw [h3]
      simp [h]
noncomputable def idxL (c : UInt8) (l : List UInt8) : Option Nat :=
  List.rec (motive := fun _ => Option Nat) none (fun b _ ih => bif Nat.beq b.toNat c.toNat then some 0 else match ih with | some i => some (Nat.succ i) | none => none) l
def idxV : Option Nat → Int
  | some i => .ofNat i
  | none => .negSucc 0
theorem idxL_eq (c : UInt8) : ∀ l : List UInt8, idxV (idxL c l) = Lib.indexByte l c
  | [] => rfl
  | b :: l => by
    show idxV (bif Nat.beq b.toNat c.toNat then some 0 else match idxL c l with | some i => some (Nat.succ i) | none => none) = _
    unfold Lib.indexByte
    rw [← idxL_eq c l]
    by_cases h : b = c
    · subst h
      have h3 : Nat.beq b.toNat b.toNat = true := Nat.beq_refl _
      rw [h3]; simp [idxV]
    · have h2 : ¬ b.toNat = c.toNat := fun e => h (UInt8.toNat_inj.1 e)
      have h3 : Nat.beq b.toNat c.toNat = false := by cases hb : Nat.beq b.toNat c.toNat with
        | true => exact absurd (Nat.eq_of_beq_eq_true hb) h2
        | false => rfl
      have h4 : (b == c) = false := by simp [h]
      rw [h3, h4]
      cases idxL c l with
      | none => rfl
      | some i =>
        have h5 : ((Int.ofNat i) == (-1 : Int)) = false := by rw [beq_eq_false_iff_ne]; exact fun e => by cases e
        simp only [idxV, cond_false, h5, Bool.false_eq_true, if_false]
        rfl

noncomputable def cntE (args : List Value) (h : Hp) : OR :=
  match args with
  | [.string s, .int .u8 c] => .ok (.int .i64 (.ofNat (cntL c.toNat.toUInt8 s.data.toList))) h
  | _ => .no
noncomputable def idxE (args : List Value) (h : Hp) : OR :=
  match args with
  | [.string s, .int .u8 c] => .ok (.int .i64 (idxV (idxL c.toNat.toUInt8 s.data.toList))) h
  | _ => .no

theorem cnt_ok {f : FuncId} {fn : Func} (hf : P.funcs[f]? = some fn) (hname : (fn.name == "runtime.NumGoroutine") = false)
    (hb : fn.body.isNone = true) (hn : Extern.findNext fn = none) (he : Extern.find fn = some Extern.BytealgCount.count) : SumOk P f cntE := by
  intro args h v h' e W μ w args' hv R
  unfold cntE at e
  split at e
  · rename_i s c
    cases e
    cases hv with
    | cons h1 h2 => cases h2 with
      | cons h3 h4 =>
        cases h4; cases h1; cases h3
        have hrun := Lib.run_countString (P := P) s c w
        rw [run_callFunc_extern hf hname hb hn he, hrun, cntL_eq]
        exact ⟨μ, .int _ _, R, Ext.refl _ _, Nat.le_refl _⟩
  · cases e
theorem idx_ok {f : FuncId} {fn : Func} (hf : P.funcs[f]? = some fn) (hname : (fn.name == "runtime.NumGoroutine") = false)
    (hb : fn.body.isNone = true) (hn : Extern.findNext fn = none) (he : Extern.find fn = some Extern.BytealgIndexByte.indexByte) : SumOk P f idxE := by
  intro args h v h' e W μ w args' hv R
  unfold idxE at e
  split at e
  · rename_i s c
    cases e
    cases hv with
    | cons h1 h2 => cases h2 with
      | cons h3 h4 =>
        cases h4; cases h1; cases h3
        have hrun := Lib.run_indexByteString (P := P) s c w
        rw [run_callFunc_extern hf hname hb hn he, hrun, idxL_eq]
        exact ⟨μ, .int _ _, R, Ext.refl _ _, Nat.le_refl _⟩
  · cases e

/-! ### Room for n bytes -/
theorem digits_one : ∀ (n t : Nat) (acc : Array Value), (∀ v ∈ acc.toList, ∃ k, v = .int .u8 k) → ∀ v ∈ (Extern.BytealgMakeNoZero.digits n t acc).toList, ∃ k, v = .int .u8 k
  | 0, _, _, h => h
  | n + 1, t, acc, h => digits_one n (t / 256) _ fun v hv => by
    rw [Array.toList_push, List.mem_append] at hv
    rcases hv with hv | hv
    · exact h v hv
    · rw [List.mem_singleton] at hv; exact ⟨_, hv⟩
theorem run_mnz (w : World) (ps : Array TypeId) (t e : TypeId) (ht : P.underlying t = some (.slice e)) (n : Nat) (hn : n ≤ 281474976710656) :
    ∃ cs : Array Value, (Extern.BytealgMakeNoZero.makeNoZero ps #[t] #[.int .i64 n]).run P w = .ok (.slice (some ⟨w.heap.size, 0, none⟩) n cs.size) (w.drew.drew.alloc (.cells cs e)) ∧ n ≤ cs.size ∧ ∀ v ∈ cs.toList, ∃ k, v = .int .u8 k := by
  have hdef : Extern.BytealgMakeNoZero.makeNoZero ps #[t] #[.int .i64 n] =
      (do
        let .slice elem ← underlying t | stuck "bytealg.MakeNoZero: slice type expected"
        if (n : Int) < 0 || (n : Int) > 2 ^ 48 then runtimePanic (.error "makeslice: len out of range")
        let cap ← choose (.appendCap (n : Int).toNat 0 elem)
        askRoom cap
        let bytes ← choose (.extern "internal/bytealg.MakeNoZero.bytes" 0)
        let a ← newRow elem (Extern.BytealgMakeNoZero.digits cap bytes #[])
        pure (.slice (some a) (n : Int).toNat cap)) := rfl
  refine ⟨Extern.BytealgMakeNoZero.digits (grownCap w n 0 e) ((Question.extern "internal/bytealg.MakeNoZero.bytes" 0).cut (w.tape (w.drawn + 1) (.extern "internal/bytealg.MakeNoZero.bytes" 0))) #[], ?_, ?_, digits_one _ _ _ (by simp)⟩
  · rw [hdef]
    have h1 : ¬ (n : Int) < 0 := by omega
    have h2 : ¬ (281474976710656 : Int) < (n : Int) := by omega
    simp [run_underlying ht, h1, h2, Question.forced, newRow, Lib.size_digits, grownCap]
  · rw [Lib.size_digits]
    simpa using grownCap_ge w n 0 e

noncomputable def junkT (n : Nat) : Tr Value := Tr.ofL (List.replicate n (.chan (some 0)))
noncomputable def mnzE (u : TypeId) (args : List Value) (h : Hp) : OR :=
  match args with
  | [.int .i64 (.ofNat n)] => bif Nat.ble n 4096 then .ok (.slice (some ⟨h.n, 0, none⟩) n n) ⟨Nat.succ h.n, h.b.put h.n (.cells (junkT n) n ⟨1, some u⟩ false false)⟩ else .no
  | _ => .no
theorem mnz_ok {f : FuncId} {fn : Func} {ps : Array TypeId} {t u : TypeId} (hf : P.funcs[f]? = some fn) (hname : (fn.name == "runtime.NumGoroutine") = false)
    (hb : fn.body.isNone = true) (hn : Extern.findNext fn = none) (he : Extern.find fn = some (Extern.BytealgMakeNoZero.makeNoZero ps #[t])) (ht : P.underlying t = some (.slice u)) : SumOk P f (mnzE u) := by
  intro args h v h' e W μ w args' hv R
  unfold mnzE at e
  split at e
  · rename_i n
    cases hle : Nat.ble n 4096 with
    | false => rw [hle] at e; cases e
    | true =>
      rw [hle] at e; cases e
      have hn4 := Nat.le_of_ble_eq_true hle
      cases hv with
      | cons h1 h2 =>
        cases h2; cases h1
        obtain ⟨cs, hrun, hsz, hone⟩ := run_mnz (P := P) w ps t u ht n (by omega)
        have hrun : (Extern.BytealgMakeNoZero.makeNoZero ps #[t] #[.int .i64 (Int.ofNat n)]).run P w = _ := hrun
        rw [run_callFunc_extern hf hname hb hn he, hrun]
        have hfr := R.fresh (Nat.le_refl h.n)
        have hN := R.below.size
        have hnew : (w.drew.drew.alloc (.cells cs u)).heap[w.heap.size]? = some (.cells cs u (0, 0)) := World.alloc_heap_new w.drew.drew _
        have hR : Rel W (μ.set h.n ⟨w.heap.size, 0, n, 1, cs.size - n⟩) ⟨Nat.succ h.n, h.b.put h.n (.cells (junkT n) n ⟨1, some u⟩ false false)⟩ (w.drew.drew.alloc (.cells cs u)) := by
          refine R.alloc hfr rfl (Nat.le_succ _) (Nat.lt_succ_self _) (Tr.get_put_eq _ _ _) (fun c j hc => Tr.get_put_ne _ _ (fun e => by rw [e, hfr] at hc; cases hc)) ⟨_, rfl⟩ rfl rfl rfl ?_
          refine ⟨cs, u, (0, 0), hnew, ⟨rfl, fun t ht => ⟨(by cases ht; rfl), fun h => (by cases h)⟩⟩, rfl, fun h => (by cases h), ?_, fun j hj => ?_, fun j hj => ?_, fun h => (by cases h), fun _ => ⟨hN, fun j _ h => (by simp at h)⟩⟩
          · show 0 + n + (cs.size - n) * 1 ≤ cs.size
            omega
          · unfold junkT
            rw [Tr.get_ofL]
            simp; omega
          · have hj2 : j < cs.size := by omega
            obtain ⟨k, hk⟩ := hone cs[j] (Array.getElem_mem_toList hj2)
            refine ⟨.chan (some 0), .int .u8 k, ?_, ?_, .junk k, rfl⟩
            · unfold junkT
              rw [Tr.get_ofL]
              simp [hj]
            · rw [← hk]; simp [hj2]
        refine ⟨μ.set h.n ⟨w.heap.size, 0, n, 1, cs.size - n⟩, ?_, hR, Mu.ext_set hfr (Nat.le_refl _), Nat.le_succ _⟩
        have hv := VR.slice (μ := μ.set h.n ⟨w.heap.size, 0, n, 1, cs.size - n⟩) 0 n n (cs.size - n) ⟨w.heap.size, 0, none⟩ (Mu.set_eq _ _ _) (Nat.le_refl _) (.inr ⟨Nat.le_refl _, by show 0 + n * 1 = n; omega⟩) (.inl rfl)
        rw [show n + (cs.size - n) = cs.size from by omega] at hv
        exact hv
  · cases e
end Go.EvM
