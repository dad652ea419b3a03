/- OpsM: maps. -/
import Derived.Test.YtmnpdgldmpjekaaEvOps9
import Derived.MapKept
namespace Go.EvM
open Go.RowKit
set_option linter.unusedVariables false
variable {P : Program} {cx : Cx} {o : Oper}

theorem bytes_beq (x y : ByteArray) : (x == y) = (x.data.toList == y.data.toList) := by
  show (x.data == y.data) = _
  rw [Bool.eq_iff_iff]; simp

theorem get_map {P : Program} {w : World} {r : Nat} {es : Array MapEntry} {clock : Nat} (hb : w.heap[r]? = some (.map es clock)) : (getObj r).run P w = .ok (.map es clock) w := by simp [getObj, Sem.run, hb]
theorem set_map {P : Program} {w : World} {r : Nat} {es : Array MapEntry} {clock : Nat} (o : Obj) (hb : w.heap[r]? = some (.map es clock)) : (setObj r o).run P w = .ok () { w with heap := w.heap.setIfInBounds r o } := by simp [setObj, Sem.run, hb]

theorem sameE_ok {μ : Mu} {d : TypeDesc} {a b a' b' : Value} {r : Bool} (ha : VR μ a a') (hb : VR μ b b') (e : sameE d a b = some r) : Instr.sameNow d a' b' = some r := by
  unfold sameE at e
  split at e
  · split at e
    · cases ha; cases hb
      split at e
      · rename_i hd
        have hd := of_decide_eq_true hd
        cases e
        simp [Instr.sameNow, hd, eqI_eq]
      · cases e
    · cases e
  · split at e
    · cases ha; cases hb
      cases e
      rename_i x y
      simp only [Instr.sameNow, eqL_eq]
      rw [bytes_beq]
    · cases e
  · split at e
    · cases ha; cases hb
      cases e
      rename_i x y
      cases x <;> cases y <;> rfl
    · cases e
  · cases e

theorem same_bits {d : TypeDesc} {a b : Value} (h : Instr.sameNow d a b = some true) (n : Nat) : Instr.sameBits n b a = true := by
  unfold Instr.sameNow at h
  split at h
  · split at h
    · rename_i hk
      subst hk
      simp at h; subst h
      cases n <;> simp [Instr.sameBits]
    · cases h
  · rename_i x y
    have h : (x == y) = true := by simpa using h
    rw [bytes_beq] at h
    have : x = y := by obtain ⟨⟨x⟩⟩ := x; obtain ⟨⟨y⟩⟩ := y; simp at h; subst h; rfl
    subst this
    cases n <;> simp [Instr.sameBits, bytes_beq]
  · simp at h; subst h; cases n <;> simp [Instr.sameBits]
  · cases h

theorem findE_ok {μ : Mu} {d : TypeDesc} {k k' : Value} (hk : VR μ k k') : ∀ {es : List (Value × Value × Nat)} {r : List MapEntry} {i : Nat} {res : Option (Nat × Value)}, EntR μ es r → findE d k es i = some res →
    (res = none ∧ Instr.findNow d k' r i = some none) ∨ ∃ j v v' e, res = some (j, v) ∧ Instr.findNow d k' r i = some (some (j, v')) ∧ VR μ v v' ∧ i ≤ j ∧ r[j - i]? = some e ∧ Instr.sameNow d k' e.key = some true
  | [], [], i, res, _, e => by cases e; exact .inl ⟨rfl, rfl⟩
  | (a, v, b) :: es, x :: r, i, res, ⟨h1, h2, h3, h4⟩, e => by
    have e : (match sameE d k a with | some b => (match b with | true => some (some (i, v)) | false => findE d k es (Nat.succ i)) | none => none) = some res := e
    split at e
    · rename_i b hs
      have hs := sameE_ok hk h1 hs
      cases b with
      | true =>
        cases e
        refine .inr ⟨i, v, x.val, x, rfl, ?_, h2, Nat.le_refl _, by simp, hs⟩
        simp only [Instr.findNow, hs]
      | false =>
        rcases findE_ok hk h4 e with ⟨g1, g2⟩ | ⟨j, v1, v', e', g1, g2, g3, g4, g5, g6⟩
        · exact .inl ⟨g1, by simp only [Instr.findNow, hs]; exact g2⟩
        · refine .inr ⟨j, v1, v', e', g1, by simp only [Instr.findNow, hs]; exact g2, g3, by omega, ?_, g6⟩
          rw [show j - i = j - (i + 1) + 1 by omega]; simpa using g5
    · cases e
  | [], _ :: _, _, _, h, _ => h.elim
  | _ :: _, [], _, _, h, _ => h.elim

theorem modE_ok {μ : Mu} {k k' x x' : Value} (hk : VR μ k k') (hx : VR μ x x') : ∀ {es : List (Value × Value × Nat)} {r : List MapEntry} (i : Nat), EntR μ es r → EntR μ (modE k x es i) (r.modify i fun e => { e with key := k', val := x' })
  | [], [], i, _ => by cases i <;> trivial
  | (a, v, b) :: es, y :: r, 0, ⟨h1, h2, h3, h4⟩ => ⟨hk, hx, h3, h4⟩
  | (a, v, b) :: es, y :: r, i + 1, ⟨h1, h2, h3, h4⟩ => ⟨h1, h2, h3, modE_ok hk hx i h4⟩
  | [], _ :: _, _, h => h.elim
  | _ :: _, [], _, h => h.elim
theorem EntR.append {μ : Mu} : ∀ {es es2 : List (Value × Value × Nat)} {r r2 : List MapEntry}, EntR μ es r → EntR μ es2 r2 → EntR μ (es ++ es2) (r ++ r2)
  | [], _, [], _, _, h => h
  | (_, _, _) :: _, _, _ :: _, _, ⟨h1, h2, h3, h4⟩, h => ⟨h1, h2, h3, EntR.append h4 h⟩
  | [], _, _ :: _, _, h, _ => h.elim
  | _ :: _, _, [], _, h, _ => h.elim
theorem EntR.length {μ : Mu} : ∀ {es : List (Value × Value × Nat)} {r : List MapEntry}, EntR μ es r → r.length = es.length
  | [], [], _ => rfl
  | (_, _, _) :: _, _ :: _, ⟨_, _, _, h⟩ => by simp [EntR.length h]
  | [], _ :: _, h => h.elim
  | _ :: _, [], h => h.elim

structure MapOk (P : Program) (cx : Cx) (t : TypeId) (d : TypeDesc) (ei : TI) : Prop where
  ex : ∃ i kt et ki, cx.ti t = some i ∧ i.desc = .map kt et ∧ cx.ti kt = some ki ∧ cx.ti et = some ei ∧ ki.desc = d ∧ keyD d = true

theorem mapOf_ok {t : TypeId} {d : TypeDesc} {ei : TI} (e : mapOf cx t = some (d, ei)) : MapOk P cx t d ei := by
  unfold mapOf at e
  split at e
  · rename_i i hi
    split at e
    · rename_i kt et hd
      split at e
      · rename_i ki ei' hk he
        split at e
        · rename_i hkd
          cases e
          exact ⟨i, kt, et, ki, hi, hd, hk, he, rfl, hkd⟩
        · cases e
      · cases e
    · cases e
  · cases e

theorem run_checkKey (C : CxOk P cx) {kt : TypeId} {ki : TI} (hk : cx.ti kt = some ki) (hd : keyD ki.desc = true) (b : Bool) (v : Value) (w : World) : (Instr.checkKey b 10000 kt v).run P w = .ok () w := by
  rw [show (10000 : Nat) = 9999 + 1 from rfl]
  unfold Instr.checkKey
  simp only [Sem.run_bind, C.run_und hk, Result.andThen_ok]
  cases hdd : ki.desc <;> rw [hdd] at hd <;> first | (cases hd; done) | simp

theorem run_findKey (C : CxOk P cx) {kt : TypeId} {ki : TI} (hk : cx.ti kt = some ki) {k' : Value} {r : List MapEntry} {res : Option (Nat × Value)} (h : Instr.findNow ki.desc k' r 0 = some res) (w : World) : (Instr.findKey kt k' r).run P w = .ok res w := by
  unfold Instr.findKey
  simp only [Sem.run_bind, C.run_und hk, Result.andThen_ok, h, Sem.run_pure]

theorem CxOk.zv_ok (C : CxOk P cx) {t : TypeId} {i : TI} (h : cx.ti t = some i) (w : World) (μ : Mu) : (zeroValue t).run P w = .ok i.zv w ∧ VR μ i.zv i.zv := by
  obtain ⟨f, h1, h2, h3⟩ := C.zv t i h
  exact ⟨by simp [zeroValue, typeInfo, h1, h2], plain_VR μ 5 _ h3⟩

theorem okV_VR {μ : Mu} {v v' : Value} (h : VR μ v v') (ok b : Bool) : VR μ (okV ok v b) (if ok then .tuple #[v', .bool b] else v') := by
  cases ok with
  | true => exact .tuple (.cons h (.cons (.bool b) .nil))
  | false => exact h

/-- What a map's entries are. -/
theorem mapEs_ok {W : World} {μ : Mu} {h : Hp} {w : World} (R : Rel W μ h w) {x x' : Value} (hx : VR μ x x') {es : List (Value × Value × Nat)} (e : mapEs h x = some es) :
    (x' = .map none ∧ es = []) ∨ ∃ r arr cl, x' = .map (some r) ∧ w.heap[r]? = some (.map arr cl) ∧ EntR μ es arr.toList := by
  unfold mapEs at e
  split at e
  · rename_i r
    cases r with
    | none => cases hx; cases e; exact .inl ⟨rfl, rfl⟩
    | some b =>
      dsimp only at e
      split at e
      · rename_i es' cl hb
        cases e
        cases hx with
        | map hm =>
          obtain ⟨arr, h1, h2, h3⟩ := R.ob b _ _ hm hb
          exact .inr ⟨_, arr, cl, rfl, h1, h3⟩
      · cases e
  · cases e

theorem ok_lookup (C : CxOk P cx) {t : TypeId} {x k : Operand} {ok : Bool} {d : TypeDesc} {ei : TI} (hm : mapOf cx t = some (d, ei)) (ho : o.op = .lookup t x k ok) :
    LookOk P o fun ρ h => match mapEs h (ρ x) with
      | some es => (match findE d (ρ k) es 0 with
        | some r => (match r with
          | some p => some (okV ok p.2 true)
          | none => some (okV ok ei.zv false))
        | none => none)
      | none => none := by
  intro W μ ρ ρ' h w v hop R e
  have hx := mem_ops hop ho (x := x) (by simp [Op.operands])
  have hk := mem_ops hop ho (x := k) (by simp [Op.operands])
  obtain ⟨⟨i, kt, et, ki, h1, h2, h3, h4, rfl, h6⟩⟩ := mapOf_ok (P := P) hm
  dsimp only at e
  have hu := C.run_und h1
  rw [h2] at hu
  obtain ⟨z1, z2⟩ := C.zv_ok h4 w μ
  split at e
  · rename_i es hes
    split at e
    · rename_i r hf
      have key : ∃ arr : Array MapEntry, EntR μ es arr.toList ∧ (Instr.lookup t (ρ' x) (ρ' k) ok).run P w =
          ((do Instr.checkKey arr.isEmpty 10000 kt (ρ' k)
               let (v, ok') ← match ← Instr.findKey kt (ρ' k) arr.toList with
                 | some (_, v) => pure (v, true)
                 | none => pure (← zeroValue et, false)
               pure (if ok then .tuple #[v, .bool ok'] else v) : Sem Value).run P w) := by
        rcases mapEs_ok R hx hes with ⟨g1, rfl⟩ | ⟨rr, arr, cl, g1, g2, g3⟩
        · refine ⟨#[], trivial, ?_⟩
          unfold Instr.lookup
          simp only [Sem.run_bind, hu, Result.andThen_ok, g1, Sem.run_pure]
          rfl
        · refine ⟨arr, g3, ?_⟩
          unfold Instr.lookup
          simp only [Sem.run_bind, hu, Result.andThen_ok, g1, get_map g2, Sem.run_pure]
          rfl
      obtain ⟨arr, ha, hrun⟩ := key
      simp only [execOp, ho]
      simp only [Sem.run_bind, hrun, run_checkKey C h3 h6, Result.andThen_ok]
      rcases findE_ok hk ha hf with ⟨rfl, g2⟩ | ⟨j, v1, v', e', rfl, g2, g3, _⟩
      · cases e
        simp only [run_findKey C h3 g2, Result.andThen_ok, Sem.run_bind, z1, Sem.run_pure]
        exact ⟨_, rfl, okV_VR z2 ok false⟩
      · cases e
        simp only [run_findKey C h3 g2, Result.andThen_ok, Sem.run_bind, Sem.run_pure]
        exact ⟨_, rfl, okV_VR g3 ok true⟩
    · cases e
  · cases e

theorem ok_lenM (C : CxOk P cx) {t : TypeId} {x : Operand} {i : TI} {kt et : TypeId} (ht : cx.ti t = some i) (hd : i.desc = .map kt et) (ho : o.op = .call { callee := .builtin .len, args := #[x], argTypes := #[t] }) :
    LookOk P o fun ρ h => (match mapEs h (ρ x) with | some es => some (.int .i64 (.ofNat es.length)) | none => none) := by
  intro W μ ρ ρ' h w v hop R e
  have hx := mem_ops hop ho (x := x) (by simp [Op.operands, Call.operands])
  have hu := C.run_und ht w
  dsimp only at e
  split at e
  · rename_i es hes
    cases e
    rcases mapEs_ok R hx hes with ⟨g1, rfl⟩ | ⟨rr, arr, cl, g1, g2, g3⟩
    · refine ⟨_, ?_, .int _ _⟩
      simp [execOp, ho, g1, resolve, invoke, builtin, Builtin.len_, hu, hd, goInt]
    · refine ⟨_, ?_, .int _ _⟩
      have hl := g3.length
      have hl : arr.size = es.length := by rw [← hl]; simp
      simp [execOp, ho, g1, resolve, invoke, builtin, Builtin.len_, hu, hd, goInt, get_map g2, hl]
  · cases e

theorem Rel.putMap {W : World} {μ : Mu} {h : Hp} {w : World} (R : Rel W μ h w) {b : Nat} {i : BI} {es es' : List (Value × Value × Nat)} {cl cl' : Nat} {r' : Array MapEntry} (hb : μ b = some i) (ho : h.b.get b = some (.map es cl)) (hr : EntR μ es' r'.toList) :
    Rel W μ ⟨h.n, h.b.put b (.map es' cl')⟩ { w with heap := w.heap.setIfInBounds i.rb (.map r' cl') } := by
  obtain ⟨r, r1, r2, r3⟩ := R.ob b i _ hb ho
  have hlt : i.rb < w.heap.size := (Array.getElem?_eq_some_iff.1 r1).1
  have hother : ∀ k, k ≠ i.rb → (w.heap.setIfInBounds i.rb (.map r' cl'))[k]? = w.heap[k]? := fun k hk => Array.getElem?_setIfInBounds_ne (Ne.symm hk)
  refine ⟨R.dom, ?_, ?_, ⟨R.below.os, R.below.tape, R.below.output, by simpa using R.below.size, fun k hk => (hother k (by omega)).trans (R.below.block k hk)⟩⟩
  · intro b2 i2 o2 hb2 ho2
    simp only [Tr.get_put] at ho2
    by_cases e2 : b2 = b
    · subst e2
      rw [hb] at hb2; cases hb2
      simp at ho2; subst ho2
      exact ⟨r', by simp [hlt], r2, hr⟩
    · simp [e2] at ho2
      refine (R.ob b2 i2 o2 hb2 ho2).move (Le.refl _) (hother _ ?_)
      intro hrb
      cases o2 with
      | cells c2 n2 z2 ti2 ro2 =>
        cases ro2 with
        | false => exact e2 (R.inj b2 b i2 i _ _ hb2 hb ho2 ho rfl trivial hrb)
        | true =>
          obtain ⟨_, _, _, _, _, _, _, _, _, _, k1, _⟩ := R.ob b2 i2 _ hb2 ho2
          have := k1 rfl
          omega
      | map es ck => exact e2 (R.inj b2 b i2 i _ _ hb2 hb ho2 ho trivial trivial hrb)
  · intro b1 b2 i1 i2 o1 o2 hb1 hb2 ho1 ho2 w1 w2 hrb
    have fix : ∀ {x : Nat} {o : Ob}, ((h.b.put b (.map es' cl')).get x = some o) → o.wr → ∃ p, h.b.get x = some p ∧ p.wr := by
      intro x o hx hw
      rw [Tr.get_put] at hx
      by_cases hxb : x = b
      · subst hxb; exact ⟨_, ho, trivial⟩
      · rw [if_neg hxb] at hx; exact ⟨o, hx, hw⟩
    obtain ⟨p1, k1, l1⟩ := fix ho1 w1
    obtain ⟨p2, k2, l2⟩ := fix ho2 w2
    exact R.inj b1 b2 i1 i2 p1 p2 hb1 hb2 k1 k2 l1 l2 hrb

theorem ok_mapUpdate (C : CxOk P cx) {t : TypeId} {m k x : Operand} {d : TypeDesc} {ei : TI} (hm : mapOf cx t = some (d, ei)) (ho : o.op = .mapUpdate t m k x) :
    EffOk P o fun ρ h => match ρ m with
      | .map (some b) => (match h.b.get b with
        | some (.map es cl) => (match findE d (ρ k) es 0 with
          | some r => (match r with
            | some p => .ok undef ⟨h.n, h.b.put b (.map (modE (ρ k) (ρ x) es p.1) cl)⟩
            | none => .ok undef ⟨h.n, h.b.put b (.map (es ++ [(ρ k, ρ x, cl)]) (Nat.succ cl))⟩)
          | none => .no)
        | _ => .no)
      | _ => .no := by
  intro W μ ρ ρ' h w v h' hop R e
  have hmm := mem_ops hop ho (x := m) (by simp [Op.operands])
  have hk := mem_ops hop ho (x := k) (by simp [Op.operands])
  have hx := mem_ops hop ho (x := x) (by simp [Op.operands])
  obtain ⟨⟨i, kt, et, ki, h1, h2, h3, h4, rfl, h6⟩⟩ := mapOf_ok (P := P) hm
  have hu := C.run_und h1
  rw [h2] at hu
  dsimp only at e
  split at e
  · rename_i b hmb
    split at e
    · rename_i es cl hb
      split at e
      · rename_i r hf
        rw [hmb] at hmm
        generalize hr : ρ' m = m' at hmm
        cases hmm with
        | map hμ =>
          rename_i bi
          obtain ⟨arr, r1, r2, r3⟩ := R.ob b bi _ hμ hb
          have hset := fun ob => set_map (P := P) ob r1
          simp only [execOp, ho, hr, Instr.mapUpdate]
          rcases findE_ok hk r3 hf with ⟨rfl, g2⟩ | ⟨j, v1, v', e', rfl, g2, g3, _, g5, g6⟩
          · cases e
            refine ⟨.skip, undef, _, μ, ?_, rfl, undefR μ, R.putMap hμ hb (es' := es ++ [(ρ k, ρ x, cl)]) (cl' := cl + 1) (r' := arr.push { key := ρ' k, val := ρ' x, born := cl }) ?_, Ext.refl _ _, Nat.le_refl _⟩
            · simp only [Sem.run_bind, hu, Result.andThen_ok, get_map r1, run_checkKey C h3 h6, run_findKey C h3 g2, hset, Sem.run_pure]
            · simp only [Array.toList_push]
              exact r3.append ⟨hk, hx, rfl, trivial⟩
          · cases e
            have g5 : arr[j]? = some e' := by simpa using g5
            have hstay : (Instr.keyThatStays (((arr[j]?).map (·.key)).getD (ρ' k)) (ρ' k)).run P w = .ok (ρ' k) w := by
              unfold Instr.keyThatStays
              rw [g5]
              simp [same_bits g6]
            refine ⟨.skip, undef, _, μ, ?_, rfl, undefR μ, R.putMap hμ hb (es' := modE (ρ k) (ρ x) es j) (cl' := cl) (r' := arr.modify j fun e => { e with key := ρ' k, val := ρ' x }) ?_, Ext.refl _ _, Nat.le_refl _⟩
            · simp only [Sem.run_bind, hu, Result.andThen_ok, get_map r1, run_checkKey C h3 h6, run_findKey C h3 g2, hstay, hset, Sem.run_pure]
            · rw [Array.toList_modify]
              exact modE_ok hk hx j r3
      · cases e
    · cases e
  · cases e

theorem ok_makeMap {t : TypeId} (ho : o.op = .makeMap t none) : MakeOk P o fun _ => some ⟨.map [] 0, fun b => .map (some b)⟩ := by
  intro W μ ρ ρ' h w m hop R em
  cases em
  refine ⟨.map (some w.heap.size), w.alloc (.map #[] 0), ⟨w.heap.size, 0, 0, 0, 0⟩, ?_, rfl, ⟨_, rfl⟩, rfl, rfl, rfl, fun b hb => ⟨.map (Mu.set_eq _ _ _), ⟨#[], heap_new w _, R.below.size, trivial⟩⟩⟩
  simp [execOp, ho, Instr.makeMap]

end Go.EvM
