/- The operations that write the heap: a store, append, copy. -/
import Derived.Test.YtmnpdgldmpjekaaEvOps7
namespace Go.EvM
open Go.RowKit
set_option linter.unusedVariables false
variable {P : Program} {cx : Cx} {o : Oper}

/-- What an operation leaves in its slot. -/
def nextV : Next → Option Value
  | .value v => some v
  | .skip => some undef
  | _ => none

def EffOk (P : Program) (o : Oper) (f : Env → Hp → OR) : Prop :=
  ∀ (W : World) (μ : Mu) (ρ ρ' : Env) (h : Hp) (w : World) (v : Value) (h' : Hp), Ops o μ ρ ρ' → Rel W μ h w → f ρ h = .ok v h' →
    ∃ nx v' w' μ', (execOp ρ' o).run P w = .ok nx w' ∧ nextV nx = some v' ∧ VR μ' v v' ∧ Rel W μ' h' w' ∧ Ext h.n μ μ' ∧ h.n ≤ h'.n

theorem undefR (μ : Mu) : VR μ undef undef := .tuple .nil

theorem ok_store {t : TypeId} {a x : Operand} {i : TI} (C : CxOk P cx) (ht : cx.ti t = some i) (ho : o.op = .store t a x) :
    EffOk P o fun ρ h => match ptrV (ρ a) with
      | some (b, off) => (match cellsL (ρ x) with
        | some cs => bif Nat.beq cs.length i.size then (match putCells h b off cs with | some h => .ok undef h | none => .no) else .no
        | none => .no)
      | none => .no := by
  intro W μ ρ ρ' h w v h' hop R e
  have ha := mem_ops hop ho (x := a) (by simp [Op.operands])
  have hx := mem_ops hop ho (x := x) (by simp [Op.operands])
  dsimp only at e
  split at e
  · rename_i b off hp
    rw [ptrV_eq hp] at ha
    split at e
    · rename_i cs hcs
      cases hbq : Nat.beq cs.length i.size with
      | false => rw [hbq] at e; cases e
      | true =>
        rw [hbq] at e; simp only [cond_true] at e
        split at e
        · rename_i h2 hput
          cases e
          generalize hr : ρ' a = r at ha
          cases ha with
          | ptr _ hb =>
            rename_i bi
            obtain ⟨g1, g2⟩ := cellsL_ok hx hcs
            obtain ⟨k1, k2, k3⟩ := R.putCells (P := P) hb hput g1 g2
            have hsz := C.run_size ht w
            have hlen : (ρ' x).cells.size = i.size := by
              have := g1.length
              rw [Nat.eq_of_beq_eq_true hbq] at this
              simpa using this
            refine ⟨.skip, undef, _, μ, ?_, rfl, undefR μ, k2, Ext.refl _ _, by rw [k3]; exact Nat.le_refl _⟩
            simp [execOp, ho, hr, Instr.storeAt, Instr.sureAddr, storeVar, hsz, hlen, k1]
        · cases e
    · cases e
  · cases e

/-! ### append -/
theorem firstL_ok {W : World} {μ : Mu} {h : Hp} {w : World} (R : Rel W μ h w) {size n : Nat} {x x' : Value} {l : List Value} (hx : VR μ x x') (e : firstL h size n x = some l) (hn : ∀ k, lenV x = some k → n ≤ k) :
    ∃ l', (∀ w', w'.heap = w.heap → (Builtin.firstCells size n x').run P w' = .ok l'.toArray w') ∧ VRs μ l l' ∧ (∀ y ∈ l, oneB y = true) ∧ l.length = n * size := by
  unfold firstL at e
  split at e
  · rename_i b off len cap
    split at e
    · rename_i c m z ti ro hob
      have hle : n ≤ len := hn len rfl
      cases hx with
      | slice _ _ _ xx ra hb hlc hor hra =>
        rename_i bi
        rcases hra with rfl | ⟨h0, _⟩
        · obtain ⟨l', g1, g2, g3, g4, g5⟩ := R.cells hb hob e
          refine ⟨l', fun w' hw' => ?_, g1, g2, g3⟩
          simp only [Builtin.firstCells]
          have : n * size = l'.length := by rw [g1.length, g3]; rfl
          rw [this]
          refine run_loadCells_list w' _ l' (fun j v hv => ?_)
          have := g4 j v hv
          unfold World.cell? at this ⊢
          rw [hw']; exact this
        · have hn0 : n = 0 := by omega
          subst hn0
          have : c.getL 0 off = some l := by simpa using e
          rw [Tr.getL_zero] at this; cases this
          exact ⟨[], fun w' hw' => by simp [Builtin.firstCells, loadCells, loadCellsFrom], .nil, by simp, by simp⟩
    · cases e
  · cases e
    cases hx
    have hn0 : n = 0 := by have := hn 0 rfl; omega
    subst hn0
    exact ⟨[], fun w' hw' => by simp [Builtin.firstCells], .nil, by simp, by simp⟩
  · rename_i s
    cases hb1 : Nat.beq size 1 with
    | false => rw [hb1] at e; cases e
    | true =>
    rw [hb1] at e; cases e
    obtain rfl := Nat.eq_of_beq_eq_true hb1
    cases hx
    have hnl : n ≤ s.data.toList.length := hn _ rfl
    refine ⟨(s.data.toList.take n).map fun b => .int .u8 b.toNat, fun w' hw' => ?_, ?_, ?_, by rw [List.length_map, List.length_take]; omega⟩
    · simp only [Builtin.firstCells, Sem.run_pure]
      congr 1
      apply Array.ext'
      simp [ByteArray.data_extract]
    · exact VRs.map fun b hb => .int _ _
    · intro y hy
      obtain ⟨b, _, rfl⟩ := List.mem_map.1 hy
      rfl
  · cases e

theorem lenV_ok {μ : Mu} {x x' : Value} {n : Nat} (hx : VR μ x x') (e : lenV x = some n) (w : World) : (Builtin.lenOf x').run P w = .ok n w := by
  unfold lenV at e
  split at e
  · cases e; cases hx <;> simp [Builtin.lenOf]
  · cases e; cases hx; simp only [Builtin.lenOf]; rw [size_len]; rfl
  · cases e

theorem grow_le (need : Nat) : ∀ r c, c < need → Builtin.growBy need r c ≤ need + (need + 768) / 4
  | 0, c, h => by simp [Builtin.growBy]; omega
  | r + 1, c, h => by
    unfold Builtin.growBy
    rw [if_neg (by omega)]
    by_cases h2 : c + (c + 768) / 4 < need
    · exact grow_le need r _ h2
    · cases r with
      | zero => simp only [Builtin.growBy]; omega
      | succ r => unfold Builtin.growBy; rw [if_pos (by omega)]; omega
theorem next_le {need old : Nat} (h : old < need) : Builtin.nextslicecap need old ≤ 2 * need + 192 := by
  unfold Builtin.nextslicecap
  split
  · omega
  · split
    · omega
    · have := grow_le need 4 old h; omega

theorem zeroCells_ok (z : Array Value) (n : Nat) (hz : 0 < z.size) : (Builtin.zeroCells z n).toList = repL z.toList n := rep_eq z (n * z.size) n rfl (.inr hz)

/-- The two ways of an append. -/
theorem app_run (C : CxOk P cx) {t u e : TypeId} {i ei : TI} (ht : cx.ti t = some i) (hd : i.desc = .slice e) (he : cx.ti e = some ei) (hu : isIntT cx u = false) {base : Option Addr} {sLen sCap n : Nat} {x' : Value} {new : List Value} (ty : TypeId) (w : World)
    (hlen : (Builtin.lenOf x').run P w = .ok n w) (hnew : ∀ w', w'.heap = w.heap → (Builtin.firstCells ei.size n x').run P w' = .ok new.toArray w') :
    (sLen + n ≤ sCap → ∀ w', (match base with | some a => (storeCells (a.add (sLen * ei.size)) new).run P w | none => .ok () w) = .ok () w' →
      (Builtin.append_ #[t, u] ty #[.slice base sLen sCap, x']).run P w = .ok (.slice base (sLen + n) sCap) w') ∧
    (sCap < sLen + n → (sLen + n) * ei.bytes ≤ 1099511627776 → sLen + n ≤ 1099511627776 → 0 < ei.size → ∀ (old : List Value), (∀ w', w'.heap = w.heap → (Builtin.firstCells ei.size sLen (.slice base sLen sCap)).run P w' = .ok old.toArray w') →
      ∃ k, ∃ (w1 : World), w1.heap = w.heap ∧ w1.os = w.os ∧ w1.tape = w.tape ∧ w1.output = w.output ∧
        (Builtin.append_ #[t, u] ty #[.slice base sLen sCap, x']).run P w = .ok (.slice (some ⟨w.heap.size, 0, none⟩) (sLen + n) (sLen + n + k)) (w1.alloc (.cells (old ++ new ++ repL ei.zero k).toArray e))) := by
  obtain ⟨iu, hiu, hni⟩ : ∃ iu, cx.ti u = some iu ∧ ∀ k, iu.desc ≠ .int k := by
    unfold isIntT at hu
    cases hq : cx.ti u with
    | none => rw [hq] at hu; cases hu
    | some iu =>
      rw [hq] at hu
      refine ⟨iu, rfl, fun k hk => ?_⟩
      simp only [hk] at hu
      cases hu
  have h1 := C.run_und ht w
  have h2 := C.run_und hiu w
  have h3 := C.run_size he w
  obtain ⟨f, _, _, hfb, hf⟩ := C.run_typeInfo he w
  constructor
  · intro hle w' hst
    unfold Builtin.append_
    simp only [List.getElem?_toArray, List.getElem?_cons_zero, List.getElem?_cons_succ, Sem.run_bind, h1, hd, Result.andThen_ok, h3, h2, Sem.run_pure, Bool.false_eq_true, if_false, hlen, Bool.not_false, if_true]
    rw [if_pos hle]
    simp only [Sem.run_bind, hnew w rfl, Result.andThen_ok]
    cases base with
    | none => simp at hst; subst hst; simp
    | some a => simp only [Sem.run_bind, hst, Result.andThen_ok, Sem.run_pure]
  · intro hlt hb hn hpos old hold
    obtain ⟨z, hzr, hzc⟩ := C.run_zero he w.drew
    have hnx := next_le hlt
    have hcap : ¬ (Builtin.nextslicecap (sLen + n) sCap * f.bytes > 2 ^ 48) := by
      rw [hfb]
      have h5 : Builtin.nextslicecap (sLen + n) sCap * ei.bytes ≤ (2 * (sLen + n) + 192) * ei.bytes := Nat.mul_le_mul_right _ hnx
      by_cases hs0 : sLen + n = 0
      · omega
      · have h6 : (2 * (sLen + n) + 192) * ei.bytes ≤ (194 * (sLen + n)) * ei.bytes := Nat.mul_le_mul_right _ (by omega)
        have h7 : 194 * (sLen + n) * ei.bytes = 194 * ((sLen + n) * ei.bytes) := Nat.mul_assoc _ _ _
        omega
    have hmax : ¬ (((sLen + n : Nat) : Int) > IntKind.i64.max ∧ f.bytes = 0) := by
      have : (IntKind.i64.max : Int) = 9223372036854775807 := by decide
      omega
    refine ⟨w.tape w.drawn (.appendCap (sLen + n) sCap e) % (2 ^ 63 - (sLen + n)), w.drew, rfl, rfl, rfl, rfl, ?_⟩
    have hzs : 0 < z.cells.size := by
      have := C.zero_len he
      rw [← hzc] at this
      simp at this; omega
    have hrest := zeroCells_ok z.cells (w.tape w.drawn (.appendCap (sLen + n) sCap e) % (2 ^ 63 - (sLen + n))) hzs
    rw [hzc] at hrest
    have hrest' : Builtin.zeroCells z.cells (w.tape w.drawn (.appendCap (sLen + n) sCap e) % (2 ^ 63 - (sLen + n))) = (repL ei.zero (w.tape w.drawn (.appendCap (sLen + n) sCap e) % (2 ^ 63 - (sLen + n)))).toArray := by
      apply Array.ext'; rw [hrest]
    unfold Builtin.append_
    simp only [List.getElem?_toArray, List.getElem?_cons_zero, List.getElem?_cons_succ, Sem.run_bind, h1, hd, Result.andThen_ok, h3, h2, Sem.run_pure, Bool.false_eq_true, if_false, hlen, Bool.not_false, if_true]
    rw [if_neg (by omega)]
    simp only [Sem.run_bind, hf, Result.andThen_ok, false_or]
    rw [if_neg hmax]
    simp only [Sem.run_bind, hf, Result.andThen_ok]
    rw [if_neg hcap]
    simp only [Sem.run_bind, run_choose, Question.forced, Bool.false_eq_true, if_false, Result.andThen_ok, Question.cut, World.drew_eq]
    obtain ⟨f', _, _, _, hf'⟩ := C.run_typeInfo he w.drew
    simp only [hf', Result.andThen_ok, run_askRoom, hold w.drew rfl, hnew w.drew rfl, hzr, newRow, Sem.run_bind, run_newObj, Sem.run_pure, World.alloc_eq, Nat.add_sub_cancel_left, hrest']
    rw [show ∀ (a b c : List Value), a.toArray ++ b.toArray ++ c.toArray = (a ++ b ++ c).toArray from fun a b c => by simp]
    rfl

theorem Rel.fresh {W : World} {μ : Mu} {h : Hp} {w : World} (R : Rel W μ h w) {b : Nat} (hb : h.n ≤ b) : μ b = none := by
  cases hc : μ b with
  | none => rfl
  | some i => have := R.dom b i hc; omega

/-- A block that nobody reads any more. -/
theorem Rel.kill {W : World} {μ : Mu} {h : Hp} {w : World} (R : Rel W μ h w) (b : Nat) : Rel W μ ⟨h.n, h.b.del b⟩ w := by
  have fix : ∀ {c : Nat} {o : Ob}, (h.b.del b).get c = some o → h.b.get c = some o := by
    intro c o hc
    rw [Tr.get_del] at hc
    split at hc
    · cases hc
    · exact hc
  exact ⟨R.dom, fun c i o hc ho => R.ob c i o hc (fix ho), fun c d i j o p hc hd ho hp => R.inj c d i j o p hc hd (fix ho) (fix hp), R.below⟩

/-- An append that finds room behind the block: what is new lies in the elder block's place, which is told no more. -/
theorem Rel.takeover {W : World} {μ : Mu} {h : Hp} {w : World} (R : Rel W μ h w) {b off m size sLen sCap n x : Nat} {bi : BI} {c : Tr Value} {old new new' : List Value} (hb : μ b = some bi)
    (hob : h.b.get b = some (.cells c m size false false)) (hend : off + sCap * size = m) (hx : x ≤ bi.xe) (hsc : sLen ≤ sCap) (hfit : sLen + n ≤ sCap + x) (hold : c.getL (sLen * size) off = some old) (hv : VRs μ new new') (h1 : ∀ y ∈ new, oneB y = true) (hlen : new.length = n * size) :
    (storeCells ⟨bi.rb, bi.d + off + sLen * size, none⟩ new').run P w = .ok () (w.setCells bi.rb (bi.d + off + sLen * size) new') ∧
    Rel W (μ.set h.n ⟨bi.rb, bi.d + off, (old ++ new).length, size, sCap + x - (sLen + n)⟩) ⟨h.n + 1, (h.b.del b).put h.n (.cells (Tr.ofL (old ++ new)) (old ++ new).length size false false)⟩ (w.setCells bi.rb (bi.d + off + sLen * size) new') := by
  obtain ⟨old', q1, q2, q3, q4, q5⟩ := R.cells hb hob hold
  obtain ⟨cs, et, fz, r1, r2, r3, r4, r5, r6, r7, r8, r9⟩ := R.ob b bi _ hb hob
  obtain ⟨r9, r10⟩ := r9 rfl
  have hl' : new'.length = n * size := by rw [hv.length, hlen]
  have hbn : b < h.n := R.dom b bi hb
  have e1 : (sLen + n) * size = sLen * size + n * size := Nat.add_mul _ _ _
  have e2 : (sCap + x) * size = sCap * size + x * size := Nat.add_mul _ _ _
  have e3 : (sLen + n) * size ≤ (sCap + x) * size := Nat.mul_le_mul_right _ hfit
  have e4 : x * size ≤ bi.xe * size := Nat.mul_le_mul_right _ hx
  have e5 : (sCap + x - (sLen + n)) * size = (sCap + x) * size - (sLen + n) * size := Nat.sub_mul _ _ _
  have hone : ∀ v ∈ new', v.oneCell' = true := by
    intro v hv'
    obtain ⟨j, hj⟩ := List.mem_iff_getElem?.1 hv'
    obtain ⟨a, ha, hva⟩ := hv.get' hj
    exact one' (by rw [hva.one]; exact h1 a (List.mem_of_getElem? ha))
  have hst := run_storeCells_cells (P := P) bi.rb (bi.d + off + sLen * size) new' 0 w
    (fun j hj => by
      have hlt : bi.d + off + sLen * size + 0 + j < cs.size := by omega
      simp [World.cell?, r1]; omega)
    (fun j hj => by
      simp only [World.frozen?, r1]
      have := r10 (bi.d + off + sLen * size + 0 + j) (by omega)
      simpa using this) hone
  refine ⟨by simpa using hst, ?_⟩
  obtain ⟨cs', g1, g2, g3⟩ := setCells_heap bi.rb new' (bi.d + off + sLen * size) w cs et fz r1 (by omega)
  have hlo : (old ++ new).length = (sLen + n) * size := by rw [List.length_append, q3, hlen]; omega
  have hfr : μ h.n = none := R.fresh (Nat.le_refl _)
  have fix : ∀ {k : Nat} {o : Ob}, k ≠ h.n → ((h.b.del b).put h.n (.cells (Tr.ofL (old ++ new)) (old ++ new).length size false false)).get k = some o → k ≠ b ∧ h.b.get k = some o := by
    intro k o hk ho
    rw [Tr.get_put_ne _ _ hk, Tr.get_del] at ho
    split at ho
    · cases ho
    · exact ⟨‹_›, ho⟩
  have setne : ∀ {k : Nat}, k ≠ h.n → (μ.set h.n ⟨bi.rb, bi.d + off, (old ++ new).length, size, sCap + x - (sLen + n)⟩) k = μ k := fun hk => if_neg hk
  refine ⟨?_, ?_, ?_, setCells_below _ r9 _ _ _ R.below⟩
  · intro k j hk
    by_cases hkn : k = h.n
    · subst hkn; exact Nat.lt_succ_self _
    · rw [setne hkn] at hk; exact Nat.lt_succ_of_lt (R.dom k j hk)
  · intro k j o hk ho
    by_cases hkn : k = h.n
    · subst hkn
      rw [Mu.set_eq] at hk; cases hk
      rw [Tr.get_put_eq] at ho; cases ho
      refine ⟨cs', et, fz, g1, rfl, rfl, fun h => by simp at h, by rw [g2]; simp only; omega, ?_, ?_, fun h => by simp at h, fun _ => ⟨r9, fun j hj => r10 j (by simp only at hj; omega)⟩⟩
      · intro j hj; rw [Tr.get_ofL]; exact List.getElem?_eq_none hj
      · intro j hj
        rw [Tr.get_ofL, g3]
        simp only
        by_cases hjo : j < sLen * size
        · obtain ⟨v, hv1, hv2⟩ := q1.get (List.getElem?_eq_getElem (by omega : j < old.length))
          have hcell := q4 j v hv1
          rw [add_off] at hcell
          have hcs : cs[bi.d + off + j]? = some v := by simpa [World.cell?, r1] using hcell
          refine ⟨old[j]'(by omega), v, ?_, ?_, hv2.mono (Mu.le_set hfr), q2 _ (List.getElem_mem _)⟩
          · rw [List.getElem?_append_left (by omega)]; exact List.getElem?_eq_getElem _
          · rw [if_neg (by omega)]; exact hcs
        · have hjn : j - old.length < new.length := by omega
          obtain ⟨v, hv1, hv2⟩ := hv.get (List.getElem?_eq_getElem hjn)
          refine ⟨new[j - old.length], v, ?_, ?_, hv2.mono (Mu.le_set hfr), h1 _ (List.getElem_mem _)⟩
          · rw [List.getElem?_append_right (by omega)]; exact List.getElem?_eq_getElem _
          · rw [if_pos (by omega), show bi.d + off + j - (bi.d + off + sLen * size) = j - old.length from by omega]; exact hv1
    · rw [setne hkn] at hk
      obtain ⟨hkb, ho'⟩ := fix hkn ho
      refine (R.ob k j o hk ho').move (Mu.le_set hfr) (setCells_other _ _ _ _ _ ?_)
      intro hrb
      cases o with
      | cells c2 n2 z2 ti2 ro2 =>
        cases ro2 with
        | false => exact hkb (R.inj k b j bi _ _ hk hb ho' hob rfl rfl hrb)
        | true =>
          obtain ⟨_, _, _, _, _, _, _, _, _, _, k1, _⟩ := R.ob k j _ hk ho'
          have := k1 rfl
          omega
      | map es ck => exact hkb (R.inj k b j bi _ _ hk hb ho' hob trivial rfl hrb)
  · intro k l i j o p hk hl ho hp wo wp hij
    by_cases hkn : k = h.n
    · by_cases hln : l = h.n
      · rw [hkn, hln]
      · subst hkn
        rw [Mu.set_eq] at hk; cases hk
        rw [setne hln] at hl
        obtain ⟨hlb, hp'⟩ := fix hln hp
        exact absurd (R.inj l b j bi _ _ hl hb hp' hob wp rfl hij.symm) hlb
    · rw [setne hkn] at hk
      obtain ⟨hkb, ho'⟩ := fix hkn ho
      by_cases hln : l = h.n
      · subst hln
        rw [Mu.set_eq] at hl; cases hl
        exact absurd (R.inj k b i bi _ _ hk hb ho' hob wo rfl hij) hkb
      · rw [setne hln] at hl
        obtain ⟨hlb, hp'⟩ := fix hln hp
        exact R.inj k l i j o p hk hl ho' hp' wo wp hij

theorem ok_append {t u e : TypeId} {s x : Operand} {i ei : TI} (C : CxOk P cx) (ht : cx.ti t = some i) (hd : i.desc = .slice e) (he : cx.ti e = some ei) (hu : isIntT cx u = false)
    (ho : o.op = .call { callee := .builtin .append, args := #[s, x], argTypes := #[t, u] }) : EffOk P o fun ρ h => appV h ei.size ei.bytes (ρ s) (ρ x) := by
  intro W μ ρ ρ' h w v h' hop R e
  have h1 := mem_ops hop ho (x := s) (by simp [Op.operands, Call.operands])
  have h2 := mem_ops hop ho (x := x) (by simp [Op.operands, Call.operands])
  dsimp only at e
  have hexec : ∀ {r : Value} {w' : World}, (Builtin.append_ #[t, u] o.type #[ρ' s, ρ' x]).run P w = .ok r w' → (execOp ρ' o).run P w = .ok (.value r) w' := by
    intro r w' hr
    simp [execOp, ho, resolve, invoke, builtin, hr]
  generalize hr1 : ρ' s = s' at h1 hexec
  generalize hq1 : ρ s = sA at h1 e
  generalize hr2 : ρ' x = x' at h2 hexec
  generalize hq2 : ρ x = xA at h2 e
  unfold appV at e
  split at e
  · rename_i base sLen sCap n hln
    split at e
    · rename_i new hnew
      obtain ⟨new', n1, n2, n3, n4⟩ := firstL_ok (P := P) R h2 hnew (fun k hk => by rw [hln] at hk; cases hk; exact Nat.le_refl _)
      have hlenof := lenV_ok (P := P) h2 hln w
      obtain ⟨rb', rcap, rfl⟩ : ∃ rb' rcap, s' = .slice rb' sLen rcap := by cases h1 <;> exact ⟨_, _, rfl⟩
      obtain ⟨ar1, ar2⟩ := app_run C ht hd he hu (base := rb') (sLen := sLen) (sCap := rcap) o.type w hlenof n1
      cases hle : Nat.ble (Nat.add sLen n) sCap with
      | true =>
        rw [hle] at e; simp only [cond_true] at e
        have hle' : sLen + n ≤ sCap := Nat.le_of_ble_eq_true hle
        unfold appRoom at e
        split at e
        · cases e
          cases h1
          have hs0 : n = 0 := by omega
          subst hs0
          exact ⟨_, _, w, μ, hexec (ar1 (by omega) w rfl), rfl, .nils, R, Ext.refl _ _, Nat.le_refl _⟩
        · rename_i b off
          split at e
          · rename_i h2' hput
            cases e
            cases h1 with
            | slice _ _ _ xx ra hb hlc hor hra =>
              rename_i bi
              obtain ⟨k1, k2, k3⟩ := R.putCells (P := P) hb hput n2 n3
              refine ⟨_, _, w.setCells bi.rb (bi.d + (off + sLen * ei.size)) new', μ, hexec (ar1 (by omega) _ ?_), rfl, .slice off (sLen + n) sCap xx ra hb hle' hor hra, k2, Ext.refl _ _, by rw [k3]; exact Nat.le_refl _⟩
              rcases hra with rfl | ⟨h0, h00⟩
              · dsimp only
                rw [add_off, Nat.add_assoc]; exact k1
              · have hn0 : n = 0 := by omega
                subst hn0
                have : new' = [] := by
                  have := n2.length
                  rw [n4] at this
                  exact List.eq_nil_of_length_eq_zero (by simpa using this)
                subst this
                rfl
          · cases e
        · cases e
      | false =>
        rw [hle] at e; simp only [cond_false] at e
        have hgt : sCap < sLen + n := by
          rcases Nat.lt_or_ge sCap (sLen + n) with h | h
          · exact h
          · have h5 : Nat.ble (Nat.add sLen n) sCap = true := Nat.ble_eq_true_of_le h
            rw [h5] at hle; cases hle
        unfold appGrow at e
        cases hc : (Nat.ble (Nat.mul (Nat.add sLen n) ei.bytes) 1099511627776 && Nat.ble (Nat.add sLen n) 1099511627776 && Nat.blt 0 ei.size) with
        | false => rw [hc] at e; cases e
        | true =>
          rw [hc] at e; simp only [cond_true] at e
          simp only [Bool.and_eq_true] at hc
          have b1 : (sLen + n) * ei.bytes ≤ 1099511627776 := Nat.le_of_ble_eq_true hc.1.1
          have b2 : sLen + n ≤ 1099511627776 := Nat.le_of_ble_eq_true hc.1.2
          have b3 : 0 < ei.size := blt_lt hc.2
          split at e
          · rename_i old room hold hroom
            obtain ⟨old', o1, o2, o3, o4⟩ := firstL_ok (P := P) R h1 hold (fun k hk => by cases hk; exact Nat.le_refl _)
            cases e
            have hfresh : μ h.n = none := R.fresh (Nat.le_refl _)
            have hlenA : (old ++ new).length = (sLen + n) * ei.size := by rw [List.length_append, o4, n4, Nat.add_mul]
            have hVRs : VRs μ (old ++ new) (old' ++ new') := o2.append n2
            have hone : ∀ y ∈ old ++ new, oneB y = true := fun y hy => (List.mem_append.1 hy).elim (o3 y) (n3 y)
            by_cases hin : sLen + n ≤ rcap
            · -- in place, in the model
              cases h1 with
              | nils => omega
              | slice off _ _ xx ra hb hlc hor hra =>
                rename_i b bi
                have hx0 : xx ≠ 0 := by omega
                obtain ⟨hxx, hend⟩ := hor.resolve_left hx0
                obtain rfl := hra.resolve_right (fun h => hx0 h.2)
                have hroom2 : (match h.b.get b with
                    | some (.cells _ n z tight ro) => bif tight then some false else bif ro || !(Nat.beq z ei.size) then none else some (Nat.beq (Nat.add off (Nat.mul sCap ei.size)) n)
                    | _ => none) = some room := hroom
                clear hroom
                split at hroom2
                · rename_i c m z ti ro hob
                  obtain ⟨cs, et, fz, r1, r2, r3, r4, r5, r6, r7, r8, r9⟩ := R.ob b bi _ hb hob
                  have hti : ti = false := by
                    cases ti with
                    | false => rfl
                    | true => have := (r4 rfl).1; omega
                  subst hti
                  simp only [cond_false] at hroom2
                  cases hrz : (ro || !(Nat.beq z ei.size)) with
                  | true => rw [hrz] at hroom2; cases hroom2
                  | false =>
                    rw [hrz] at hroom2
                    simp only [Bool.or_eq_false_iff, Bool.not_eq_false'] at hrz
                    obtain ⟨rfl, hz1⟩ := hrz
                    have hz2 : z = ei.size := Nat.eq_of_beq_eq_true hz1
                    obtain ⟨r9, r10⟩ := r9 rfl
                    rw [r3, hz2] at hend
                    have hrm : room = true := by
                      have h5 : some (Nat.beq (Nat.add off (Nat.mul sCap ei.size)) m) = some room := hroom2
                      have h6 : Nat.beq (Nat.add off (Nat.mul sCap ei.size)) m = true := by
                        rw [show Nat.add off (Nat.mul sCap ei.size) = m from by rw [← r2, ← hend]; rfl]; exact Nat.beq_refl m
                      rw [h6] at h5; exact (Option.some.inj h5).symm
                    subst hrm
                    subst hz2
                    have hold' : c.getL (sLen * ei.size) off = some old := by
                      unfold firstL at hold
                      simp only [hob] at hold
                      exact hold
                    obtain ⟨t1, t2⟩ := R.takeover (P := P) (n := n) (x := xx) hb hob (by rw [hend, r2]) hxx hlc hin hold' n2 n3 n4
                    refine ⟨_, .slice (some ⟨bi.rb, bi.d + off, none⟩) (sLen + n) (sCap + xx), _, _, hexec (ar1 hin _ (by dsimp only; rw [add_off]; exact t1)), rfl, ?_, t2, Mu.ext_set hfresh (Nat.le_refl _), Nat.le_succ _⟩
                    have hsum : sCap + xx = sLen + n + (sCap + xx - (sLen + n)) := by omega
                    have := VR.slice (μ := μ.set h.n ⟨bi.rb, bi.d + off, (old ++ new).length, ei.size, sCap + xx - (sLen + n)⟩) (i := ⟨bi.rb, bi.d + off, (old ++ new).length, ei.size, sCap + xx - (sLen + n)⟩) 0 (sLen + n) (sLen + n) (sCap + xx - (sLen + n)) ⟨bi.rb, bi.d + off, none⟩ (Mu.set_eq _ _ _) (Nat.le_refl _)
                      (.inr ⟨Nat.le_refl _, by simp only; rw [hlenA, Nat.zero_add]⟩) (.inl rfl)
                    rw [← hsum] at this
                    exact this
                · cases hroom2
            · -- a new block, in the model
              obtain ⟨k, w1, g1, g2, g3, g4, g5⟩ := ar2 (by omega) b1 b2 b3 old' o1
              have R0 : Rel W μ ⟨h.n, dropB h.b room base⟩ w := by
                cases room with
                | false => exact R
                | true => cases base with
                  | none => exact R
                  | some a => exact R.kill a.block
              have hN := R.below.size
              refine ⟨_, .slice (some ⟨w.heap.size, 0, none⟩) (sLen + n) (sLen + n + k), _, μ.set h.n ⟨w.heap.size, 0, (old ++ new).length, ei.size, k⟩, hexec g5, rfl, ?_, ?_, Mu.ext_set hfresh (Nat.le_refl _), Nat.le_succ _⟩
              · have := VR.slice (μ := μ.set h.n ⟨w.heap.size, 0, (old ++ new).length, ei.size, k⟩) (i := ⟨w.heap.size, 0, (old ++ new).length, ei.size, k⟩) 0 (sLen + n) (sLen + n) k ⟨w.heap.size, 0, none⟩ (Mu.set_eq _ _ _) (Nat.le_refl _)
                  (.inr ⟨Nat.le_refl _, by simp only; rw [hlenA, Nat.zero_add]⟩) (.inl rfl)
                exact this
              · refine R0.alloc (h' := ⟨Nat.succ h.n, _⟩) hfresh rfl (Nat.le_succ _) (Nat.lt_succ_self _) (Tr.get_put_eq _ _ _) (fun c j hc => Tr.get_put_ne _ _ (fun (e : c = h.n) => by subst e; rw [hfresh] at hc; cases hc)) ⟨_, by show w1.heap.push _ = _; rw [g1]⟩ g2 g3 g4 ?_
                obtain ⟨z, hz, hzc⟩ := C.run_zero he w
                have hw : (w1.alloc (.cells (old' ++ new' ++ repL ei.zero k).toArray e)).heap[w.heap.size]? = some (.cells (old' ++ new' ++ repL ei.zero k).toArray e) := by
                  rw [← g1]; exact heap_new w1 _
                have hl2 : (old' ++ new').length = (old ++ new).length := (o2.append n2).length
                refine relOb_new (Mu.le_set hfresh) hN hw (fun j hj => by rw [Tr.get_ofL]; exact List.getElem?_eq_none hj) (fun j hj => ?_) (fun h => by simp at h) ?_ (by simp)
                · obtain ⟨v, hv1, hv2⟩ := (o2.append n2).get (List.getElem?_eq_getElem hj)
                  refine ⟨(old ++ new)[j], v, by rw [Tr.get_ofL]; exact List.getElem?_eq_getElem hj, ?_, hv2, hone _ (List.getElem_mem hj)⟩
                  rw [List.getElem?_toArray, List.getElem?_append_left (by rw [hl2]; exact hj)]
                  exact hv1
                · rw [List.size_toArray]
                  simp only [List.length_append, repL_len, C.zero_len he] at hl2 ⊢
                  omega
          · cases e
    · cases e
  · cases e
end Go.EvM
