/- The operations that make a block. -/
import Derived.Test.YtmnpdgldmpjekaaEvOps6
namespace Go.EvM
open Go.RowKit
set_option linter.unusedVariables false
variable {P : Program} {cx : Cx} {o : Oper}

def MakeOk (P : Program) (o : Oper) (f : Env → Option Mk) : Prop :=
  ∀ (W : World) (μ : Mu) (ρ ρ' : Env) (h : Hp) (w : World) (m : Mk), Ops o μ ρ ρ' → Rel W μ h w → f ρ = some m →
    ∃ v' w' bi, (execOp ρ' o).run P w = .ok (.value v') w' ∧ bi.rb = w.heap.size ∧ (∃ x, w'.heap = w.heap.push x) ∧ w'.os = w.os ∧ w'.tape = w.tape ∧ w'.output = w.output ∧
      ∀ b, μ b = none → VR (μ.set b bi) (m.val b) v' ∧ RelOb (μ.set b bi) W.heap.size w' bi m.ob

theorem relOb_new {μ μ' : Mu} {W w w' : World} {t : Tr Value} {n z xe : Nat} {tight : Bool} {cs : Array Value} {e : TypeId} {fz : Nat × Nat} (hl : Le μ μ') (hN : W.heap.size ≤ w.heap.size) (hw : w'.heap[w.heap.size]? = some (.cells cs e fz))
    (hc : ∀ j, n ≤ j → t.get j = none) (hc2 : ∀ j, j < n → ∃ a v, t.get j = some a ∧ cs[j]? = some v ∧ VR μ a v ∧ oneB a = true) (ht : tight = true → xe = 0) (hs : n + xe * z ≤ cs.size)
    (hf : ∀ j, j < n + xe * z → ¬ (fz.1 ≤ j ∧ j < fz.2)) :
    RelOb μ' W.heap.size w' ⟨w.heap.size, 0, n, z, xe⟩ (.cells t n z tight false) :=
  ⟨cs, e, fz, hw, rfl, rfl, fun h => ⟨ht h, rfl⟩, by simpa using hs, hc, fun j hj => let ⟨a, v, p, q, r, s⟩ := hc2 j hj; ⟨a, v, p, by simpa using q, r.mono hl, s⟩, fun h => by simp at h, fun _ => ⟨hN, fun j hj => hf j (by simpa using hj)⟩⟩

theorem heap_new (w : World) (o : Obj) : (w.alloc o).heap[w.heap.size]? = some o := by
  show (w.heap.push o)[w.heap.size]? = some o
  simp

theorem make_box {W : World} {μ : Mu} {h : Hp} {w : World} {l : List Value} {cs : Array Value} (R : Rel W μ h w) (e : TypeId) (hl : VRs μ l cs.toList) (h1 : ∀ x ∈ l, oneB x = true) :
    ∀ b, μ b = none → VR (μ.set b ⟨w.heap.size, 0, l.length, 1, 0⟩) (.pointer (some ⟨b, 0, none⟩)) (.pointer (some ⟨w.heap.size, 0, none⟩)) ∧
      RelOb (μ.set b ⟨w.heap.size, 0, l.length, 1, 0⟩) W.heap.size (w.alloc (.cells cs e)) ⟨w.heap.size, 0, l.length, 1, 0⟩ (mkCells l 1 true) := by
  intro b hb
  obtain ⟨c1, c2, c3⟩ := CellsR.ofL hl h1
  refine ⟨VR.ptr (i := ⟨w.heap.size, 0, l.length, 1, 0⟩) 0 (Mu.set_eq _ _ _), ?_⟩
  exact relOb_new (Mu.le_set hb) R.below.size (heap_new w _) c2 c3 (fun _ => rfl) (by simp; omega) (by simp)

theorem ok_alloc {e : TypeId} {i : TI} (C : CxOk P cx) (he : cx.ti e = some i) (ho : o.op = .alloc e) :
    MakeOk P o fun _ => some ⟨mkCells i.zero 1 true, fun r => .pointer (some ⟨r, 0, none⟩)⟩ := by
  intro W μ ρ ρ' h w m hop R em
  cases em
  obtain ⟨z, hz, hzc⟩ := C.run_zero he w
  refine ⟨.pointer (some ⟨w.heap.size, 0, none⟩), w.alloc (.cells z.cells e), ⟨w.heap.size, 0, i.zero.length, 1, 0⟩, ?_, rfl, ⟨_, rfl⟩, rfl, rfl, rfl, ?_⟩
  · simp [execOp, ho, Instr.alloc, hz, newVar, newRow]
  · exact make_box R e (by rw [hzc]; exact C.zero_VRs he μ) (C.zero_one he)

theorem ok_box {e : TypeId} {x : Operand} (ho : o.op = .box e x) :
    MakeOk P o fun ρ => match cellsL (ρ x) with
      | some cs => some ⟨mkCells cs 1 true, fun r => .pointer (some ⟨r, 0, none⟩)⟩
      | none => none := by
  intro W μ ρ ρ' h w m hop R em
  have hc := mem_ops hop ho (x := x) (by simp [Op.operands])
  dsimp only at em
  split at em
  · rename_i cs hcs
    cases em
    obtain ⟨g1, g2⟩ := cellsL_ok hc hcs
    refine ⟨.pointer (some ⟨w.heap.size, 0, none⟩), w.alloc (.cells (ρ' x).cells e), ⟨w.heap.size, 0, cs.length, 1, 0⟩, ?_, rfl, ⟨_, rfl⟩, rfl, rfl, rfl, ?_⟩
    · simp [execOp, ho, Instr.box, newVar, newRow]
    · exact make_box R e g1 g2
  · cases em

theorem repL_zero (z : List Value) : repL z 0 = [] := rfl
theorem repL_succ (z : List Value) (n : Nat) : repL z (n + 1) = z ++ repL z n := rfl
theorem repL_len (z : List Value) : ∀ n, (repL z n).length = n * z.length
  | 0 => by simp [repL_zero]
  | n + 1 => by rw [repL_succ, List.length_append, repL_len z n, Nat.add_mul]; omega
theorem repL_mem {z : List Value} {x : Value} : ∀ {n : Nat}, x ∈ repL z n → x ∈ z
  | 0, h => by simp [repL_zero] at h
  | n + 1, h => by
    rw [repL_succ, List.mem_append] at h
    rcases h with h | h
    · exact h
    · exact repL_mem h
theorem repL_get (z : List Value) : ∀ (n j : Nat), j < n * z.length → (repL z n)[j]? = z[j % z.length]?
  | 0, j, h => by simp at h
  | n + 1, j, h => by
    rw [repL_succ]
    by_cases hj : j < z.length
    · rw [List.getElem?_append_left hj, Nat.mod_eq_of_lt hj]
    · rw [List.getElem?_append_right (by omega), repL_get z n _ (by rw [Nat.add_mul] at h; omega)]
      rw [← Nat.mod_eq_sub_mod (by omega)]

/-- The model's row of noughts is the interpreter's. -/
theorem rep_eq (z : Array Value) (k n : Nat) (hk : k = n * z.size) (hz : n = 0 ∨ 0 < z.size) : ((Array.range k).map fun j => z[j % z.size]!).toList = repL z.toList n := by
  apply List.ext_getElem?
  intro j
  by_cases hj : j < k
  · rw [repL_get z.toList n j (by rw [hk] at hj; simpa using hj)]
    have hzs : 0 < z.size := by
      rcases hz with h | h
      · subst h; rw [hk] at hj; simp at hj
      · exact h
    have hm : j % z.size < z.size := Nat.mod_lt _ hzs
    simp [hj, hm]
  · rw [List.getElem?_eq_none (by simp; omega), List.getElem?_eq_none (by rw [repL_len]; simp; omega)]

theorem plains_VRs (C : CxOk P cx) {e : TypeId} {i : TI} (he : cx.ti e = some i) (μ : Mu) (n : Nat) : VRs μ (repL i.zero n) (repL i.zero n) ∧ ∀ x ∈ repL i.zero n, oneB x = true := by
  obtain ⟨f, z, h1, h2, h3, h4, h5, h6, h7, h8⟩ := C.ti e i he
  exact ⟨plain_VRs μ 4 _ fun x hx => (h8 x (repL_mem hx)).1, fun x hx => (h8 x (repL_mem hx)).2⟩

theorem ok_buildSlice {t e : TypeId} {len : Nat} {ps : Array (Nat × Operand)} {i ei : TI} (C : CxOk P cx) (ht : cx.ti t = some i) (hd : i.desc = .slice e) (he : cx.ti e = some ei)
    (hsz : (Nat.ble (Nat.mul len ei.size) 16777216 && Nat.blt 0 ei.size) = true) (ho : o.op = .buildSlice t len ps) :
    MakeOk P o fun ρ => buildSl ei.zero ei.size len (partsOf ρ ps) := by
  intro W μ ρ ρ' h w m hop R em
  dsimp only at em
  unfold buildSl at em
  split at em
  · rename_i tr htr
    cases em
    simp only [Bool.and_eq_true] at hsz
    have hle : len * ei.size ≤ 16777216 := Nat.le_of_ble_eq_true hsz.1
    have hpos : 0 < ei.size := blt_lt hsz.2
    have hu := C.run_und ht w
    have hs := C.run_size he w
    obtain ⟨z, hz, hzc⟩ := C.run_zero he w
    have hzl : z.cells.size = ei.size := by rw [← C.zero_len he, ← hzc]; simp
    obtain ⟨p1, p2⟩ := parts_ok (μ := μ) (ρ := ρ) (ρ' := ρ') (ps := ps) (fun p hp => mem_ops hop ho (by simp [Op.operands]; exact ⟨p.1, by simpa using hp⟩))
    obtain ⟨q1, q2⟩ := plains_VRs C he μ len
    -- the zero cells
    obtain ⟨zr, hz0, hz1, hzrl⟩ : ∃ zr : Array Value, (len * ei.size = 0 → zr = #[]) ∧ (¬ len * ei.size = 0 → zr = z.cells) ∧
        ((Array.range (len * ei.size)).map (fun j => zr[j % zr.size]!)).toList = repL ei.zero len := by
      by_cases h0 : len * ei.size = 0
      · refine ⟨#[], fun _ => rfl, fun h => absurd h0 h, ?_⟩
        have : len = 0 := by rcases Nat.mul_eq_zero.1 h0 with h | h <;> omega
        subst this; simp [repL_zero]
      · exact ⟨z.cells, fun h => absurd h h0, fun _ => rfl, by rw [rep_eq z.cells _ len (by rw [hzl]) (.inr (by omega)), hzc]⟩
    have hC : CellsR μ (Tr.ofL (repL ei.zero len)) (len * ei.size) ((Array.range (len * ei.size)).map (fun j => zr[j % zr.size]!)) := by
      have := CellsR.ofL (μ := μ) (l := repL ei.zero len) (cs := (Array.range (len * ei.size)).map (fun j => zr[j % zr.size]!)) (by rw [hzrl]; exact q1) q2
      rwa [repL_len, C.zero_len he] at this
    obtain ⟨cs', g1, c1, c2, c3⟩ := fill_ok (place' := fun i => some (i * ei.size, ei.size)) (fun j p hj => hj) _ _ _ _ _ hC p1 p2 htr
    refine ⟨.slice (some ⟨w.heap.size, 0, none⟩) len len, w.alloc (.cells cs' e), ⟨w.heap.size, 0, len * ei.size, ei.size, 0⟩, ?_, rfl, ⟨_, rfl⟩, rfl, rfl, rfl, ?_⟩
    · have hnot : ¬ len * ei.size > 2 ^ 24 := by omega
      have hrun : (Instr.buildSlice t len (ps.map fun (i, x) => (i, ρ' x))).run P w = .ok (.slice (some ⟨w.heap.size, 0, none⟩) len len) (w.alloc (.cells cs' e)) := by
        unfold Instr.buildSlice
        simp only [Sem.run_bind, hu, hd, Result.andThen_ok, hs]
        rw [if_neg hnot]
        by_cases h0 : len * ei.size = 0
        · rw [hz0 h0] at g1
          simp only [h0, if_true, pure_bind] at g1 ⊢
          rw [g1]
          simp [newRow]
        · rw [hz1 h0] at g1
          simp only [h0, if_false, pure_bind, Sem.run_bind, hz, Result.andThen_ok]
          rw [g1]
          simp [newRow]
      unfold execOp; rw [ho]; exact run_v hrun
    · intro b hb
      refine ⟨?_, relOb_new (Mu.le_set hb) R.below.size (heap_new w _) c2 c3 (fun _ => rfl) (by simp [c1]) (by simp)⟩
      have := VR.slice (μ := μ.set b ⟨w.heap.size, 0, len * ei.size, ei.size, 0⟩) (i := ⟨w.heap.size, 0, len * ei.size, ei.size, 0⟩) 0 len len 0 ⟨w.heap.size, 0, none⟩ (Mu.set_eq _ _ _) (Nat.le_refl _) (.inl rfl) (.inl rfl)
      exact this
  · cases em

theorem ok_makeSlice {t e : TypeId} {l c : Operand} {i ei : TI} (C : CxOk P cx) (ht : cx.ti t = some i) (hd : i.desc = .slice e) (he : cx.ti e = some ei) (ho : o.op = .makeSlice t l c) :
    MakeOk P o fun ρ => match natV (ρ l), natV (ρ c) with
        | some l, some c => bif Nat.ble l c && Nat.ble c 1073741824 && Nat.ble (Nat.mul c ei.bytes) 1099511627776 && Nat.blt 0 ei.size then
            some ⟨.cells (Tr.ofL (repL ei.zero c)) (Nat.mul c ei.size) ei.size true false, fun r => .slice (some ⟨r, 0, none⟩) l c⟩ else none
        | _, _ => none := by
  intro W μ ρ ρ' h w m hop R em
  have h1 := mem_ops hop ho (x := l) (by simp [Op.operands])
  have h2 := mem_ops hop ho (x := c) (by simp [Op.operands])
  dsimp only at em
  split at em
  · rename_i ln cn hln hcn
    cases hcond : (Nat.ble ln cn && Nat.ble cn 1073741824 && Nat.ble (Nat.mul cn ei.bytes) 1099511627776 && Nat.blt 0 ei.size) with
    | false => rw [hcond] at em; cases em
    | true =>
      rw [hcond] at em; cases em
      simp only [Bool.and_eq_true] at hcond
      obtain ⟨⟨⟨a1, a2⟩, a3⟩, a4⟩ := hcond
      have b1 : ln ≤ cn := Nat.le_of_ble_eq_true a1
      have b2 : cn ≤ 1073741824 := Nat.le_of_ble_eq_true a2
      have b3 : cn * ei.bytes ≤ 1099511627776 := Nat.le_of_ble_eq_true a3
      have b4 : 0 < ei.size := blt_lt a4
      obtain ⟨k1, e1⟩ := natV_eq hln
      obtain ⟨k2, e2⟩ := natV_eq hcn
      rw [e1] at h1; rw [e2] at h2
      generalize hr1 : ρ' l = r1 at h1
      generalize hr2 : ρ' c = r2 at h2
      cases h1; cases h2
      have hu := C.run_und ht w
      have hs := C.run_size he w
      obtain ⟨f, hf1, hf2, hf3, hf4⟩ := C.run_typeInfo he w
      obtain ⟨z, hz, hzc⟩ := C.run_zero he w
      have hzl : z.cells.size = ei.size := by rw [← C.zero_len he, ← hzc]; simp
      obtain ⟨q1, q2⟩ := plains_VRs C he μ cn
      obtain ⟨zr, hz0, hz1, hzrl⟩ : ∃ zr : Array Value, (cn * ei.size = 0 → zr = #[]) ∧ (¬ cn * ei.size = 0 → zr = z.cells) ∧
          ((Array.range (cn * ei.size)).map (fun j => zr[j % zr.size]!)).toList = repL ei.zero cn := by
        by_cases h0 : cn * ei.size = 0
        · refine ⟨#[], fun _ => rfl, fun h => absurd h0 h, ?_⟩
          have : cn = 0 := by rcases Nat.mul_eq_zero.1 h0 with h | h <;> omega
          subst this; simp [repL_zero]
        · exact ⟨z.cells, fun h => absurd h h0, fun _ => rfl, by rw [rep_eq z.cells _ cn (by rw [hzl]) (.inr (by omega)), hzc]⟩
      have hC : CellsR μ (Tr.ofL (repL ei.zero cn)) (cn * ei.size) ((Array.range (cn * ei.size)).map (fun j => zr[j % zr.size]!)) := by
        have := CellsR.ofL (μ := μ) (l := repL ei.zero cn) (cs := (Array.range (cn * ei.size)).map (fun j => zr[j % zr.size]!)) (by rw [hzrl]; exact q1) q2
        rwa [repL_len, C.zero_len he] at this
      obtain ⟨c1, c2, c3⟩ := hC
      refine ⟨.slice (some ⟨w.heap.size, 0, none⟩) ln cn, w.alloc (.cells ((Array.range (cn * ei.size)).map (fun j => zr[j % zr.size]!)) e), ⟨w.heap.size, 0, cn * ei.size, ei.size, 0⟩, ?_, rfl, ⟨_, rfl⟩, rfl, rfl, rfl, ?_⟩
      · have w1 : IntKind.i64.wrap (Int.ofNat ln) = (ln : Int) := IntWalk.i64_in _ (by rw [Int.ofNat_eq_natCast]; omega)
        have w2 : IntKind.i64.wrap (Int.ofNat cn) = (cn : Int) := IntWalk.i64_in _ (by rw [Int.ofNat_eq_natCast]; omega)
        have hrun : (Instr.makeSlice t (.int k1 (.ofNat ln)) (.int k2 (.ofNat cn))).run P w = .ok (.slice (some ⟨w.heap.size, 0, none⟩) ln cn) (w.alloc (.cells ((Array.range (cn * ei.size)).map (fun j => zr[j % zr.size]!)) e)) := by
          unfold Instr.makeSlice
          simp only [Sem.run_bind, hu, hd, Result.andThen_ok, asInt, asIntOf, Sem.run_pure, hf4, w1, w2]
          have t1 : (decide ((cn : Int) < 0) || decide (((f.bytes : Int)) * (cn : Int) > 2 ^ 48)) = false := by
            rw [hf3]
            have : ((ei.bytes : Int)) * (cn : Int) = ((cn * ei.bytes : Nat) : Int) := by rw [Nat.mul_comm]; simp
            rw [this]; simp; omega
          have t2 : decide ((ln : Int) < 0) = false := by simp
          have t3 : decide ((ln : Int) > (cn : Int)) = false := by simp; omega
          simp only [t1, t2, t3, Bool.or_self, Bool.false_eq_true, if_false]
          simp only [pure_bind, Sem.run_bind, run_askRoom, Result.andThen_ok, hs, Int.toNat_natCast]
          by_cases h0 : cn * ei.size = 0
          · rw [hz0 h0]
            simp only [h0, if_true, Sem.run_bind, newRow, run_newObj, Result.andThen_ok, Sem.run_pure, World.alloc_eq]
          · rw [hz1 h0]
            simp only [h0, if_false, pure_bind, Sem.run_bind, hz, Result.andThen_ok, bind_assoc, newRow, run_newObj, Sem.run_pure, World.alloc_eq]
        unfold execOp; rw [ho]; dsimp only; rw [hr1, hr2]; exact run_v hrun
      · intro b hb
        refine ⟨?_, relOb_new (Mu.le_set hb) R.below.size (heap_new w _) c2 c3 (fun _ => rfl) (by simp) (by simp)⟩
        have := VR.slice (μ := μ.set b ⟨w.heap.size, 0, cn * ei.size, ei.size, 0⟩) (i := ⟨w.heap.size, 0, cn * ei.size, ei.size, 0⟩) 0 ln cn 0 ⟨w.heap.size, 0, none⟩ (Mu.set_eq _ _ _) b1 (.inl rfl) (.inl rfl)
        exact this
  · cases em
end Go.EvM
