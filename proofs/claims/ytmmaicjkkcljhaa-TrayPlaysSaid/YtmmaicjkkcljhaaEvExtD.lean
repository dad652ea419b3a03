/- ExtD: maps.DeleteFunc, in whatever order the map is ranged over: what is not of a dump. -/
import Derived.Test.YtmmaicjkkcljhaaEvRun
import Derived.Maps.RangeRun
import Derived.Laws.IdiomRangeMap
namespace Go.EvM
open Go.RowKit
open Go.ChangeMaps (setBlock)
set_option linter.unusedVariables false
set_option linter.unusedSectionVars false
variable [GLs]
variable {P : Program} {cx : Cx}

/-- The entries that stay: those of which the function says no. -/
noncomputable def delF (call : Caller) (g : FuncId) (fi ca : List Value) (h : Hp) (es : List (Value × Value)) : Option (List (Value × Value)) :=
  List.rec (motive := fun _ => Option (List (Value × Value))) (some []) (fun e _ ih => match call g (fi ++ (e.1 :: e.2 :: ca)) h with
    | .ok v _ => (match v, ih with
      | .bool x, some l => some (match x with | true => l | false => e :: l)
      | _, _ => none)
    | .no => none) es
def isStrV : Value → Bool
  | .string _ => true
  | _ => false
noncomputable def delE (call : Caller) (args : List Value) (h : Hp) : OR :=
  match args with
  | [.map (some b), .func (.func g) fi ca] => (match h.b.get b with
    | some (.map es) => (match es.all (fun e => isStrV e.1), delF call g fi.toList ca.toList ⟨Nat.succ h.n, (roTr h.b).del h.n⟩ es with
      | true, some l => .ok (.tuple ⟨[]⟩) ⟨h.n, h.b.put b (.map l)⟩
      | _, _ => .no)
    | _ => .no)
  | _ => .no

def F0 : Caller := fun _ _ _ => .no
theorem F0_sound : CallSound P F0 := fun f args h v h' e => by cases e

def regOps : Code → Nat → Array Oper
  | .region id ops _, k => if id = k then ops else #[]
  | .seq a b, k => let x := regOps a k; if x.size = 0 then regOps b k else x
  | .cond _ a b, k => let x := regOps a k; if x.size = 0 then regOps b k else x
  | .block _ a, k => regOps a k
  | .loop a, k => regOps a k
  | .scope a, k => regOps a k
  | .rangeFunc _ _ a b, k => let x := regOps a k; if x.size = 0 then regOps b k else x
  | _, _ => #[]
def opAt (ops : Array Oper) (i : Nat) : Oper := (ops[i]?).getD { dst := none, op := .move (.const (.bool false)), type := 0, pos := "", after := #[], guard := none }

theorem slot_ofL (l : List Value) (t : Nat) : slot (Tr.ofL l) t = (l[t]?).getD undef := by
  simp only [slot, Tr.get_ofL]
  cases l[t]? <;> rfl
theorem slot_put (T : Tr Value) (t : Nat) (v : Value) (s : Nat) : slot (T.put t v) s = if s = t then v else slot T s := by
  simp only [slot, Tr.get_put]
  by_cases h : s = t <;> simp [h]

/-- n slots, written out. -/
def lstN (n : Nat) (x : Nat → Value) : List Value := (List.range n).map x
theorem slot_lstN {n : Nat} (x : Nat → Value) (t : Nat) (ht : t < n) : slot (Tr.ofL (lstN n x)) t = x t := by
  rw [slot_ofL, lstN, List.getElem?_map, List.getElem?_range ht]; rfl
theorem slot_lstN_out {n : Nat} (x : Nat → Value) (t : Nat) (ht : n ≤ t) : slot (Tr.ofL (lstN n x)) t = undef := by
  rw [slot_ofL, List.getElem?_eq_none (by simpa [lstN] using ht)]; rfl
def upd (x : Nat → Value) (i : Nat) (v : Value) : Nat → Value := fun j => if j = i then v else x j

theorem ActR.toN {μ : Mu} {n : Nat} {T : Tr Value} {D : List Dfr} {H H' : Hp} {a : Act} {x : Nat → Value} (h : ActR μ ⟨n, T, D, H⟩ a) (hx : ∀ t, t < n → slot T t = x t) : ActR μ ⟨n, Tr.ofL (lstN n x), D, H'⟩ a := by
  refine ⟨h.size, fun t => ?_, h.dfr⟩
  by_cases ht : t < n
  · have := h.tmp t; simp only at this ⊢; rw [slot_lstN x t ht, ← hx t ht]; exact this
  · simp only; rw [slot_lstN_out x t (by omega)]
    have hsz : a.tmps.size = n := h.size
    have : a.tmps.getD t undef = undef := by
      rw [Array.getD_eq_getD_getElem?, Array.getElem?_eq_none (by omega)]; rfl
    rw [this]; exact undefR μ
theorem ActR.updN {μ : Mu} {n : Nat} {D : List Dfr} {H H' : Hp} {a : Act} {x : Nat → Value} {d : Nat} {v : Value} (h : ActR μ ⟨n, (Tr.ofL (lstN n x)).put d v, D, H⟩ a) : ActR μ ⟨n, Tr.ofL (lstN n (upd x d v)), D, H'⟩ a :=
  h.toN fun t ht => by
    rw [slot_put, upd]
    split
    · rfl
    · exact slot_lstN x t ht
theorem ActR.handN {μ : Mu} {n : Nat} {D : List Dfr} {H H' : Hp} {a : Act} {x : Nat → Value} (h : ActR μ ⟨n, Tr.ofL (lstN n x), D, H⟩ a) {d : Nat} (hd : d < n) {v v' : Value} (hv : VR μ v v') : ActR μ ⟨n, Tr.ofL (lstN n (upd x d v)), D, H'⟩ (a.put (some d) v') := by
  have e : (⟨n, Tr.ofL (lstN n x), D, H⟩ : St).setD (some d) v H = .ok ⟨n, (Tr.ofL (lstN n x)).put d v, D, H⟩ := by
    unfold St.setD
    simp only [show Nat.blt d n = true by simp [hd], cond_true]
  have := (setD_eq e).2.2.2 h hv
  exact this.updN
theorem ActR.atN {μ : Mu} {n : Nat} {D : List Dfr} {H : Hp} {a : Act} {x : Nat → Value} (h : ActR μ ⟨n, Tr.ofL (lstN n x), D, H⟩ a) {t : Nat} (ht : t < n) : VR μ (x t) (a.eval (.tmp t)) := by
  have := h.tmp t
  simp only [slot_lstN x t ht] at this
  exact this

/-- An operation that gives a value, by hand. -/
theorem by_hand {ops : Array Oper} {i : Nat} {q : Oper} (hi : ops[i]? = some q) (hw : ∀ y, Region.wanted q y = true) {a : Act} {w w' : World} {v : Value} (hr : (execOp a.eval q).run P w = .ok (.value v) w') {Q : Exit → Act → World → Prop} {K : Act → World → Prop}
    (hk : K (a.put q.dst v) w') : wpOp P ops Q i K a w := by
  unfold wpOp
  simp only [hi, hw, if_true]
  refine .inl ?_
  unfold Oper.wp
  rw [hr]
  exact hk
/-- A call, by hand. -/
theorem by_call {ops : Array Oper} {i : Nat} {q : Oper} (hi : ops[i]? = some q) (hw : ∀ y, Region.wanted q y = true) {a : Act} {w : World} {R : Value → World → Prop} (hr : NextOk P R ((execOp a.eval q).run P w)) {Q : Exit → Act → World → Prop} {K : Act → World → Prop}
    (hk : ∀ v w', R v w' → K (a.put q.dst v) w') : wpOp P ops Q i K a w := by
  unfold wpOp
  simp only [hi, hw, if_true]
  refine .inl ?_
  unfold Oper.wp
  exact upon_next hr hk

theorem bare {μ : Mu} {n : Nat} {w : World} (hgl : GlOk w) (hd : ∀ b i, μ b = some i → b < n) : Rel w μ ⟨n, .nil⟩ w := by
  refine ⟨hgl, hd, fun b i o _ h => ?_, fun b c i j o p _ _ h => ?_, Below.refl _ _⟩
  · rw [Tr.get_nil] at h; cases h
  · rw [Tr.get_nil] at h; cases h

/-- One step that changes a slot alone. -/
theorem step_mv (C : CxOk P cx) {w : World} (hgl : GlOk w) {ops : Array Oper} {i : Nat} {q : Oper} (hi : ops[i]? = some q) {n hn d : Nat} {x : Nat → Value} {v : Value} (e : stepOp cx F0 ops.toList q ⟨n, Tr.ofL (lstN n x), [], ⟨hn, .nil⟩⟩ = .ok ⟨n, (Tr.ofL (lstN n x)).put d v, [], ⟨hn, .nil⟩⟩)
    {μ : Mu} {a : Act} (hA : ActR μ ⟨n, Tr.ofL (lstN n x), [], ⟨hn, .nil⟩⟩ a) (hd : ∀ b i, μ b = some i → b < hn)
    {Q : Exit → Act → World → Prop} {K : Act → World → Prop} (hk : ∀ a' w' μ', ActR μ' ⟨n, Tr.ofL (lstN n (upd x d v)), [], ⟨hn, .nil⟩⟩ a' → (∀ b i, μ' b = some i → b < hn) → Le μ μ' → (∀ b i, μ' b = some i → μ b = some i) → Below w.heap.size w w' → K a' w') : wpOp P ops Q i K a w := by
  refine stepOp_ok C F0_sound hi e hA (bare hgl hd) fun a' w' ⟨μ', A', R', E', N'⟩ => ?_
  refine hk a' w' μ' A'.updN R'.dom E'.le (fun b i hb => ?_) R'.below
  rcases E'.new b i hb with h | h
  · exact h
  · exact absurd (R'.dom b i hb) (Nat.not_lt.2 h)

/-- The world beside one before: all old blocks but one are as they were. -/
structure But (rb : Nat) (w w' : World) : Prop where
  os : w'.os = w.os
  tape : w'.tape = w.tape
  output : w'.output = w.output
  size : w.heap.size ≤ w'.heap.size
  block : ∀ k, k < w.heap.size → k ≠ rb → w'.heap[k]? = w.heap[k]?
theorem But.trans {rb : Nat} {a b c : World} (h : But rb a b) (k : Below b.heap.size b c) : But rb a c :=
  ⟨k.os.trans h.os, k.tape.trans h.tape, k.output.trans h.output, Nat.le_trans h.size k.size, fun n hn hne => (k.block n (Nat.lt_of_lt_of_le hn h.size)).trans (h.block n hn hne)⟩

theorem But.after {rb : Nat} {a b c : World} (k : Below a.heap.size a b) (h : But rb b c) : But rb a c :=
  ⟨h.os.trans k.os, h.tape.trans k.tape, h.output.trans k.output, Nat.le_trans k.size h.size, fun n hn hne => (h.block n (Nat.lt_of_lt_of_le hn k.size) hne).trans (k.block n hn)⟩

theorem Rel.remap {W : World} {μ : Mu} {h : Hp} {w w' : World} (R : Rel W μ h w) {b : Nat} {i : BI} {es es' : List (Value × Value)} {r' : Array MapEntry} {cl' : Nat} (hb : μ b = some i) (ho : h.b.get b = some (.map es)) (hw : But i.rb w w') (hm : w'.heap[i.rb]? = some (.map r' cl')) (hr : MapR μ es' r' cl') :
    Rel W μ ⟨h.n, h.b.put b (.map es')⟩ w' := by
  obtain ⟨r, cl, r1, r2, r3⟩ := R.ob b i _ hb ho
  have old : ∀ {x o}, (h.b.put b (.map es')).get x = some o → (x = b ∧ o = .map es') ∨ (x ≠ b ∧ h.b.get x = some o) := fun {x o} hx => by
    rw [Tr.get_put] at hx
    split at hx
    · rename_i e; cases hx; exact .inl ⟨e, rfl⟩
    · rename_i e; exact .inr ⟨e, hx⟩
  refine ⟨R.gl, R.dom, fun c j o hc hoc => ?_, fun c d j k o p hc hd hoc hpd wo wp hjk => ?_,
    ⟨hw.os.trans R.below.os, hw.tape.trans R.below.tape, hw.output.trans R.below.output, Nat.le_trans R.below.size hw.size, fun k hk => (hw.block k (by have := R.below.size; omega) (by omega)).trans (R.below.block k hk)⟩⟩
  · rcases old hoc with ⟨rfl, rfl⟩ | ⟨hne, hoc⟩
    · rw [hb] at hc; cases hc
      exact ⟨r', cl', hm, r2, hr⟩
    · have ro := R.ob c j o hc hoc
      refine ro.move (Le.refl _) (hw.block _ ro.old fun hrb => ?_)
      cases o with
      | cells c2 n2 z2 ti2 ro2 =>
        obtain ⟨cs, e, fz, h1, _⟩ := ro
        rw [hrb, r1] at h1; cases h1
      | map es2 => exact hne (R.inj c b j i _ _ hc hb hoc ho trivial trivial hrb)
      | mark => exact hne (R.inj c b j i _ _ hc hb hoc ho trivial trivial hrb)
      | lock _ _ => exact hne (R.inj c b j i _ _ hc hb hoc ho trivial trivial hrb)
      | chan _ _ => exact hne (R.inj c b j i _ _ hc hb hoc ho trivial trivial hrb)
  · have key : ∀ {x o}, (h.b.put b (.map es')).get x = some o → o.wr → ∃ p, h.b.get x = some p ∧ p.wr := fun {x o} hx hwr => by
      rcases old hx with ⟨rfl, rfl⟩ | ⟨hne, hx⟩
      · exact ⟨_, ho, trivial⟩
      · exact ⟨o, hx, hwr⟩
    obtain ⟨p1, k1, l1⟩ := key hoc wo
    obtain ⟨p2, k2, l2⟩ := key hpd wp
    exact R.inj c d j k p1 p2 hc hd k1 k2 l1 l2 hjk

/-- The heap where nothing may be written, with one more block that it does not tell. -/
theorem Rel.ro1 {W : World} {μ μ' : Mu} {h : Hp} {w w' : World} (R : Rel W μ h w) {b : Nat} {i : BI} {es : List (Value × Value)} (hb : μ b = some i) (ho : h.b.get b = some (.map es)) (hw : But i.rb w w') (hl : Le μ μ') (hd : ∀ b i, μ' b = some i → b < h.n + 1) (hn : ∀ b i, μ' b = some i → μ b = some i ∨ b = h.n) :
    Rel w' μ' ⟨h.n + 1, (roTr h.b).del h.n⟩ w' := by
  obtain ⟨r, cl, r1, r2, r3⟩ := R.ob b i _ hb ho
  have hob : ∀ b i o, μ' b = some i → ((roTr h.b).del h.n).get b = some o → μ b = some i ∧ ∃ c n z t ro, h.b.get b = some (.cells c n z t ro) ∧ o = .cells c n z t true := fun b i o hb ho => by
    rw [Tr.get_del] at ho
    split at ho
    · cases ho
    · rename_i hne
      rw [get_roTr] at ho
      split at ho
      · rename_i o1 h1
        obtain ⟨c, n, z, t, ro, rfl, h2⟩ := roOb_eq ho
        exact ⟨(hn b i hb).resolve_right hne, c, n, z, t, ro, h1, h2⟩
      · cases ho
  refine ⟨fun g cs e => let ⟨u, fz, k⟩ := (R.gl.mono R.below) g cs e; ⟨u, fz, (hw.block _ (Array.getElem?_eq_some_iff.1 k).1 (fun hrb => by rw [hrb, r1] at k; cases k)).trans k⟩, hd, fun c j o hc hoc => ?_, fun c d j k o p hc hd ho hp wo wp => ?_, Below.refl _ _⟩
  · obtain ⟨hc', cc, n, z, t, ro, h1, rfl⟩ := hob c j o hc hoc
    have ro1 := R.ob c j _ hc' h1
    have hlt := ro1.old
    obtain ⟨cs, e, fz, q1, q2, q3, q4, q5, q6, q7, q8, q9⟩ := ro1
    have hne : j.rb ≠ i.rb := fun hrb => by rw [hrb, r1] at q1; cases q1
    exact ⟨cs, e, fz, by rw [hw.block _ hlt hne]; exact q1, q2, q3, q4, q5, q6, fun j hj => let ⟨a, v, k1, k2, k3, k4⟩ := q7 j hj; ⟨a, v, k1, k2, k3.mono hl, k4⟩, fun _ => Nat.lt_of_lt_of_le hlt hw.size, fun h => by cases h⟩
  · obtain ⟨_, c', n, z, t, ro, h1, rfl⟩ := hob c j o hc ho
    cases wo

/-! ### What stays -/
/-- What the function says of a key. -/
theorem delF_facts {call : Caller} {g : FuncId} {fi ca : List Value} {h : Hp} : ∀ {es l : List (Value × Value)}, delF call g fi ca h es = some l → (es.map (·.1)).Nodup →
    ∃ p : Value → Bool, (∀ e ∈ es, ∃ h', call g (fi ++ (e.1 :: e.2 :: ca)) h = .ok (.bool (p e.1)) h') ∧ l = es.filter fun e => !(p e.1)
  | [], l, e, _ => by cases e; exact ⟨fun _ => false, fun e h => by simp at h, rfl⟩
  | e0 :: es, l, e, hn => by
    have e : (match call g (fi ++ (e0.1 :: e0.2 :: ca)) h with
      | .ok v _ => (match v, delF call g fi ca h es with
        | .bool x, some l => some (match x with | true => l | false => e0 :: l)
        | _, _ => none)
      | .no => none) = some l := e
    rw [List.map_cons, List.nodup_cons] at hn
    split at e
    · rename_i v h' hcall
      split at e
      · rename_i x l' hl
        obtain ⟨p, hp, rfl⟩ := delF_facts hl hn.2
        classical
        refine ⟨fun k => if k = e0.1 then x else p k, fun e1 he1 => ?_, ?_⟩
        · rcases List.mem_cons.1 he1 with q | q
          · subst q; exact ⟨h', by simp [hcall]⟩
          · have hne : e1.1 ≠ e0.1 := fun hk => hn.1 (by rw [← hk]; exact List.mem_map_of_mem q)
            obtain ⟨h'', hh⟩ := hp e1 q
            exact ⟨h'', by simp [hne, hh]⟩
        · have hf : es.filter (fun e => !(p e.1)) = es.filter fun e => !(if e.1 = e0.1 then x else p e.1) := by
            apply List.filter_congr
            intro e1 q
            have hne : e1.1 ≠ e0.1 := fun hk => hn.1 (by rw [← hk]; exact List.mem_map_of_mem q)
            simp [hne]
          cases x with
          | true => cases e; simp [hf]
          | false => cases e; simp [hf]
      · cases e
    · cases e

theorem EntR.filter {μ : Mu} (q : Value → Bool) : ∀ {es : List (Value × Value)} {r : List MapEntry}, EntR μ es r → (∀ e ∈ es, ∃ s, kSh e.1 = some s) → EntR μ (es.filter fun e => q e.1) (r.filter fun x => q x.key)
  | [], [], _, _ => trivial
  | (k, v) :: es, x :: r, ⟨h1, h2, h3⟩, hs => by
    obtain ⟨s, hk⟩ := hs (k, v) List.mem_cons_self
    have ih := EntR.filter q h3 fun e he => hs e (List.mem_cons_of_mem _ he)
    have hkk := kSh_eq h1 hk
    rw [List.filter_cons, List.filter_cons]
    simp only [hkk]
    cases q k with
    | true => exact ⟨h1, h2, ih⟩
    | false => exact ih
  | [], _ :: _, h, _ => h.elim
  | _ :: _, [], h, _ => h.elim

theorem EntR.mem {μ : Mu} : ∀ {es : List (Value × Value)} {r : List MapEntry} {x : MapEntry}, EntR μ es r → x ∈ r → ∃ kv ∈ es, VR μ kv.1 x.key ∧ VR μ kv.2 x.val
  | [], [], x, _, h => by simp at h
  | (k, v) :: es, y :: r, x, ⟨h1, h2, h3⟩, h => by
    rcases List.mem_cons.1 h with q | q
    · subst q; exact ⟨(k, v), List.mem_cons_self, h1, h2⟩
    · obtain ⟨kv, g1, g2, g3⟩ := EntR.mem h3 q
      exact ⟨kv, List.mem_cons_of_mem _ g1, g2, g3⟩
  | [], _ :: _, _, h, _ => h.elim
  | _ :: _, [], _, h, _ => h.elim

theorem MapR.filter {μ : Mu} {es : List (Value × Value)} {r r' : Array MapEntry} {cl : Nat} (h : MapR μ es r cl) (q : Value → Bool) (hr : r'.toList = r.toList.filter fun x => q x.key) : MapR μ (es.filter fun e => q e.1) r' cl := by
  obtain ⟨s, hs⟩ := h.shape
  obtain ⟨l, h1, h2⟩ := h.ent
  refine ⟨⟨l.filter fun x => q x.key, by rw [hr]; exact h1.filter _, h2.filter q fun e he => ⟨s, hs e he⟩⟩, fun x hx => ?_, ?_, ?_, ⟨s, fun e he => hs e (List.mem_filter.1 he).1⟩⟩
  · rw [hr] at hx; exact h.born x (List.mem_filter.1 hx).1
  · rw [hr]; exact h.once.sublist (List.filter_sublist.map _)
  · exact h.keys.sublist (List.filter_sublist.map _)

/-- 'delete' at a map whose keys are texts. -/
theorem run_delete {mt kt et : TypeId} (hu : P.underlying mt = some (.map kt et)) (hk : P.underlying kt = some .string) (ty : TypeId) {w : World} {r j : Nat} {es : Array MapEntry} {cl : Nat} {k v : Value} (hb : w.heap[r]? = some (.map es cl)) (h : Instr.findNow .string k es.toList 0 = some (some (j, v))) :
    (Builtin.delete_ #[mt, kt] ty #[.map (some r), k]).run P w = .ok (.tuple #[]) { w with heap := w.heap.setIfInBounds r (.map (es.eraseIdxIfInBounds j) cl) } := by
  have h1 : (underlying mt).run P w = .ok (.map kt et) w := by simp [underlying, hu]
  have h2 : (underlying kt).run P w = .ok .string w := by simp [underlying, hk]
  have hset := set_map (P := P) (.map (es.eraseIdxIfInBounds j) cl) hb
  have hc : ∀ b, (Instr.checkKey b 10000 kt k).run P w = .ok () w := fun b => by
    rw [show (10000 : Nat) = 9999 + 1 from rfl]
    unfold Instr.checkKey
    simp [h2]
  have hf : (Instr.findKey kt k es.toList).run P w = .ok (some (j, v)) w := by
    unfold Instr.findKey
    simp [h2, h]
  simp [Builtin.delete_, h1, get_map hb, hc, hf, hset]

/-- Striking the entry of a key. -/
theorem erase_key {q : MapEntry → Bool} {y : MapEntry} : ∀ {l : List MapEntry} {i : Nat}, (l.map (·.key)).Nodup → l[i]? = some y → (∀ x ∈ l, q x = true ↔ x.key ≠ y.key) → l.eraseIdx i = l.filter q
  | [], i, _, hi, _ => by simp at hi
  | x :: l, 0, hn, hi, hq => by
    rw [List.map_cons, List.nodup_cons] at hn
    have hxy : x = y := by simpa using hi
    subst hxy
    have hqx : q x = false := by
      cases h : q x with
      | false => rfl
      | true => exact absurd rfl ((hq x List.mem_cons_self).1 h)
    rw [List.eraseIdx_cons_zero, List.filter_cons, hqx]
    simp only [Bool.false_eq_true, if_false]
    exact (List.filter_eq_self.2 fun z hz => (hq z (List.mem_cons_of_mem _ hz)).2 fun h => hn.1 (by rw [← h]; exact List.mem_map_of_mem hz)).symm
  | x :: l, i + 1, hn, hi, hq => by
    rw [List.map_cons, List.nodup_cons] at hn
    have hi' : l[i]? = some y := by simpa using hi
    have hqx : q x = true := (hq x List.mem_cons_self).2 fun h => hn.1 (by rw [h]; exact List.mem_map_of_mem (List.mem_of_getElem? hi'))
    rw [List.eraseIdx_cons_succ, List.filter_cons, hqx, erase_key hn.2 hi' fun z hz => hq z (List.mem_cons_of_mem _ hz)]
    simp

end Go.EvM
