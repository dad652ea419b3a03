/- Draw4: a drawn region is sound: whatever order is drawn. -/
import Derived.Test.YtmnpdgldmpjekaaEvDraw3
namespace Go.EvM
open Go.RowKit
set_option linter.unusedVariables false
variable {P : Program} {cx : Cx}

theorem Rel.grow {W : World} {μ : Mu} {h h' : Hp} {w : World} (R : Rel W μ h w) (g : Grow h h') : Rel W μ h' w :=
  ⟨fun b i hb => Nat.lt_of_lt_of_le (R.dom b i hb) g.1, fun b i o hb ho => R.ob b i o hb (by rw [← g.2 b (R.dom b i hb)]; exact ho),
   fun b c i j o p hb hc ho hp => R.inj b c i j o p hb hc (by rw [← g.2 b (R.dom b i hb)]; exact ho) (by rw [← g.2 c (R.dom c j hc)]; exact hp), R.below⟩

noncomputable def atS (recs : List Rc) (sf : St) (p : Nat) : St := match recs[p]? with | some r => r.s | none => sf
theorem atS_some {recs : List Rc} {sf : St} {p : Nat} {r : Rc} (h : recs[p]? = some r) : atS recs sf p = r.s := by simp [atS, h]
theorem atS_len (recs : List Rc) (sf : St) : atS recs sf recs.length = sf := by simp [atS]
theorem chain_first : ∀ {recs : List Rc} {s sf : St}, Chain s recs sf → atS recs sf 0 = s
  | [], _, _, h => by cases h; rfl
  | r :: l, _, _, h => h.1
theorem chain_next : ∀ {recs : List Rc} {s sf : St}, Chain s recs sf → ∀ {p : Nat} {r : Rc}, recs[p]? = some r → atS recs sf (p + 1) = r.s'
  | [], _, _, _, _, _, h => by simp at h
  | x :: l, s, sf, hc, 0, r, h => by
    simp at h; subst h
    have := chain_first hc.2
    simpa [atS] using this
  | x :: l, s, sf, hc, p + 1, r, h => by
    have := chain_next hc.2 (p := p) (r := r) (by simpa using h)
    simpa [atS] using this

structure RF (r : Rc) : Prop where
  n : r.s'.n = r.s.n
  hn : r.s.H.n ≤ r.s'.H.n
  sl : ∀ t, r.o.dst ≠ some t → slot r.s'.T t = slot r.s.T t

theorem quiet_facts {ops : List Oper} {L : (Env → Hp → Option Value) → Tr Value → Value → Nat → Prop} {M : Nat → Ob → Nat → Prop} {r : Rc} (h : QuietW cx ops L M r) : RF r := by
  rcases h with ⟨_, h⟩ | ⟨_, ⟨f, v, _, _, h⟩ | ⟨f, v, _, _, h⟩ | ⟨f, m, _, _, _, h⟩⟩ <;> obtain ⟨h1, h2, _, h4, _⟩ := setD_facts h <;>
    exact ⟨h2, by rw [h1]; first | exact Nat.le_refl _ | exact Nat.le_succ _, h4⟩

section
variable {recs : List Rc} {s sf : St} (hc : Chain s recs sf) (hf : ∀ (p : Nat) (r : Rc), recs[p]? = some r → RF r)
include hc hf
theorem chain_n : ∀ p, p ≤ recs.length → (atS recs sf p).n = s.n
  | 0, _ => by rw [chain_first hc]
  | p + 1, h => by
    have hr : recs[p]? = some recs[p] := List.getElem?_eq_getElem (by omega)
    rw [chain_next hc hr, (hf p _ hr).n, ← atS_some (sf := sf) hr]
    exact chain_n p (by omega)
theorem chain_slot {t : Nat} {p : Nat} : ∀ k, p + k ≤ recs.length → (∀ x r, recs[x]? = some r → p ≤ x → x < p + k → r.o.dst ≠ some t) → slot (atS recs sf (p + k)).T t = slot (atS recs sf p).T t
  | 0, _, _ => rfl
  | k + 1, h, g => by
    have hr : recs[p + k]? = some recs[p + k] := List.getElem?_eq_getElem (by omega)
    rw [← Nat.add_assoc, chain_next hc hr, (hf _ _ hr).sl t (g _ _ hr (by omega) (by omega)), ← atS_some (sf := sf) hr]
    exact chain_slot k (by omega) fun x r hx h1 h2 => g x r hx h1 (by omega)
theorem chain_mono {p : Nat} : ∀ k, p + k ≤ recs.length → (atS recs sf p).H.n ≤ (atS recs sf (p + k)).H.n
  | 0, _ => Nat.le_refl _
  | k + 1, h => by
    have hr : recs[p + k]? = some recs[p + k] := List.getElem?_eq_getElem (by omega)
    have := chain_mono (p := p) k (by omega)
    rw [← Nat.add_assoc, chain_next hc hr]
    refine Nat.le_trans this ?_
    rw [atS_some hr]
    exact (hf _ _ hr).hn
theorem chain_lt {p q : Nat} {r r' : Rc} (hr : recs[p]? = some r) (hr' : recs[q]? = some r') (h : p < q) : r.s'.H.n ≤ r'.s.H.n := by
  have hq : q < recs.length := (List.getElem?_eq_some_iff.1 hr').1
  have := chain_mono hc hf (p := p + 1) (q - (p + 1)) (by omega)
  rw [show p + 1 + (q - (p + 1)) = q by omega, chain_next hc hr, atS_some hr'] at this
  exact this
end

theorem want_ok' {μ : Mu} {T : Tr Value} {tmps : Array Value} (ops : Array Oper) (o : Oper) (h : ∀ t ∈ looks ops.toList o, VR μ (slot T t) (tmps.getD t undef)) : Region.wanted o (yielded ops tmps) = wantT T ops.toList o.guard := by
  unfold Region.wanted wantT
  cases hgd : o.guard with
  | none => rfl
  | some g =>
    obtain ⟨j, w⟩ := g
    simp only [yielded, nth_eq, Array.getElem?_toList]
    cases ho : ops[j]? with
    | none => simp
    | some p =>
      simp only [Option.bind_some]
      cases hd : p.dst with
      | none => simp
      | some d =>
        simp only [Option.bind_some]
        have ht := h d (by unfold looks; rw [hgd]; simp [ho, hd])
        simp only [slot, Array.getD_eq_getD_getElem?] at ht
        cases hg : T.get d with
        | none =>
          rw [hg] at ht
          cases hq : tmps[d]? with
          | none => simp
          | some v =>
            rw [hq] at ht; simp at ht
            cases ht with
            | tuple _ => rfl
        | some u =>
          rw [hg] at ht
          cases hq : tmps[d]? with
          | none =>
            rw [hq] at ht; simp at ht
            cases ht with
            | tuple _ => rfl
          | some v =>
            rw [hq] at ht; simp at ht
            cases ht <;> first
              | rfl
              | (rename_i b; cases b <;> cases w <;> rfl)

theorem looks_ops {μ : Mu} {T : Tr Value} {a : Act} (ops : Array Oper) (o : Oper) (h : ∀ t ∈ looks ops.toList o, VR μ (slot T t) (a.tmps.getD t undef)) (ho : ∀ x ∈ o.op.operands.toList, okOpnd x = true) : Ops o μ (evO T) a.eval := by
  intro x hx
  have hk := ho x hx
  cases x with
  | tmp t =>
    have := h t (by unfold looks; exact List.mem_append_right _ (List.mem_filterMap.2 ⟨.tmp t, hx, rfl⟩))
    exact this
  | const v => exact plain_VR μ 4 v hk
  | global g => cases hk
  | func f => exact .func f .nil .nil

/-- What has been carried out. -/
abbrev Sd (listed : Array Bool) (i : Nat) : Prop := listed.getD i false = true

def Makes (cx : Cx) (ops : List Oper) (r : Rc) : Prop := wantT r.s.T ops r.o.guard = true ∧ ∃ f, cls cx r.o = .make f

structure Inv (cx : Cx) (ops : Array Oper) (an : List Nat) (ms : List (Nat × Oper)) (recs : List Rc) (s sf : St) (Hs : Nat → Hp) (Ds : Nat → List Dfr) (W : World) (μ0 : Mu)
    (S : Nat → Prop) (j : Nat) (μ : Mu) (a : Act) (w : World) : Prop where
  jle : j ≤ ms.length
  pre : ∀ (q : Nat) (m : Nat × Oper), ms[q]? = some m → (S m.1 ↔ q < j)
  down : ∀ i, S i → ∀ x, bit (maskAt an i) x = true → S x
  slots : ∀ p t, p ≤ recs.length → (p = recs.length ∨ ∃ r, recs[p]? = some r ∧ ¬ S r.i ∧ t ∈ looks ops.toList r.o) → (∀ q r, recs[q]? = some r → q < p → r.o.dst = some t → S r.i) →
    VR μ (slot (atS recs sf p).T t) (a.tmps.getD t undef)
  size : a.tmps.size = s.n
  dfr : DfrR μ (Ds j) a.defers
  rel : Rel W μ (Hs j) w
  ext : Ext s.H.n μ0 μ
  hn : s.H.n ≤ (Hs j).n
  pend : ∀ r ∈ recs, Makes cx ops.toList r → ¬ S r.i → r.lo ≤ j → μ r.s.H.n = none

section
variable {ops : Array Oper} {an : List Nat} {its : List It} {ms : List (Nat × Oper)} {recs : List Rc} {s sf : St} {Hs : Nat → Hp} {Ds : Nat → List Dfr} {W : World} {μ0 : Mu} {call : Caller}

/-- The slots behind one more operation. -/
theorem Inv.put_slots (F : PF cx ops an its ms recs) (hc : Chain s recs sf) (hf : ∀ (p : Nat) (r : Rc), recs[p]? = some r → RF r)
    {S : Nat → Prop} {j : Nat} {μ : Mu} {a : Act} {w : World} (I : Inv cx ops an ms recs s sf Hs Ds W μ0 S j μ a w) {p : Nat} {r : Rc} (hr : recs[p]? = some r) (hS : ¬ S r.i) (hanc : ∀ x, bit (maskAt an r.i) x = true → S x)
    {μ' : Mu} {a' : Act} {v' : Value} (ha : a'.tmps = a.tmps) (hle : Le μ μ') (hv : ∀ t, r.o.dst = some t → VR μ' (slot r.s'.T t) v' ∧ t < s.n) :
    ∀ p' t, p' ≤ recs.length → (p' = recs.length ∨ ∃ r', recs[p']? = some r' ∧ ¬ (S r'.i ∨ r'.i = r.i) ∧ t ∈ looks ops.toList r'.o) → (∀ q r', recs[q]? = some r' → q < p' → r'.o.dst = some t → S r'.i ∨ r'.i = r.i) →
      VR μ' (slot (atS recs sf p').T t) ((a'.put r.o.dst v').tmps.getD t undef) := by
  intro p' t hp' hw hall
  have hp : p < recs.length := (List.getElem?_eq_some_iff.1 hr).1
  have pos_lt : ∀ {q x : Nat} {r' : Rc}, recs[q]? = some r' → bit (maskAt an r'.i) x = true → ∀ {q' : Nat} {r'' : Rc}, recs[q']? = some r'' → r''.i = x → q' < q := fun {q x r'} hq hb {q' r''} hq' e => by
    obtain ⟨q2, r2, h1, h2, h3⟩ := F.anc q r' hq x hb
    have := F.uniq q' q2 r'' r2 hq' h2 (e.trans h3.symm)
    omega
  by_cases hd : r.o.dst = some t
  · obtain ⟨hv, htn⟩ := hv t hd
    have hlt : p < p' := by
      rcases hw with rfl | ⟨r', h1, h2, h3⟩
      · exact hp
      · have hne : p ≠ p' := fun e => by subst e; rw [hr] at h1; cases h1; exact h2 (.inr rfl)
        rcases F.cmp p p' r r' hr h1 hne with h | h | h
        · exact pos_lt h1 h hr rfl
        · exact absurd (.inl (hanc _ h)) h2
        · exact absurd h3 (h.1 t hd).1
    have hslot : slot (atS recs sf p').T t = slot r.s'.T t := by
      have := chain_slot hc hf (t := t) (p := p + 1) (p' - (p + 1)) (by omega) fun x rx hx h1 h2 hdx => by
        have hSx := (hall x rx hx (by omega) hdx)
        have hnx : p ≠ x := by omega
        have hSx : S rx.i := hSx.resolve_right fun e => hnx (F.uniq _ _ _ _ hr hx e.symm)
        rcases F.cmp p x r rx hr hx hnx with h | h | h
        · exact hS (I.down _ hSx _ h)
        · have := pos_lt hr h hx rfl; omega
        · exact (h.1 t hd).2 hdx
      rw [show p + 1 + (p' - (p + 1)) = p' by omega, chain_next hc hr] at this
      exact this
    rw [hslot, hd]
    have : t < a'.tmps.size := by rw [ha, I.size]; exact htn
    simpa [Act.put, this] using hv
  · have hold := I.slots p' t hp' (hw.imp id fun ⟨r', h1, h2, h3⟩ => ⟨r', h1, fun h => h2 (.inl h), h3⟩) fun q r' hq hlt hdq => (hall q r' hq hlt hdq).resolve_right fun e => by
      have := F.uniq _ _ _ _ hq hr e; subst this; rw [hr] at hq; cases hq; exact hd hdq
    have : (a'.put r.o.dst v').tmps.getD t undef = a.tmps.getD t undef := by
      cases hdd : r.o.dst with
      | none => simp [Act.put, ha]
      | some d =>
        have hne : d ≠ t := fun e => hd (by rw [hdd, e])
        simp only [Act.put, ha, Array.getD_eq_getD_getElem?]
        rw [Array.getElem?_setIfInBounds_ne hne]
    rw [this]
    exact hold.mono hle

theorem put_size {a : Act} {d : Option Tmp} {v : Value} : (a.put d v).tmps.size = a.tmps.size := by cases d <;> simp [Act.put]
theorem put_dfr {a : Act} {d : Option Tmp} {v : Value} : (a.put d v).defers = a.defers := by cases d <;> rfl

/-- An operation that may be carried out finds its slots. -/
theorem Inv.looks (F : PF cx ops an its ms recs) {S : Nat → Prop} {j : Nat} {μ : Mu} {a : Act} {w : World} (I : Inv cx ops an ms recs s sf Hs Ds W μ0 S j μ a w) {p : Nat} {r : Rc} (hr : recs[p]? = some r) (hS : ¬ S r.i)
    (hanc : ∀ x, bit (maskAt an r.i) x = true → S x) : ∀ t ∈ looks ops.toList r.o, VR μ (slot r.s.T t) (a.tmps.getD t undef) := by
  intro t ht
  have hp : p < recs.length := (List.getElem?_eq_some_iff.1 hr).1
  rw [← atS_some (sf := sf) hr]
  refine I.slots p t (by omega) (.inr ⟨r, hr, hS, ht⟩) fun q rq hq hlt hd => ?_
  rcases F.cmp q p rq r hq hr (by omega) with h | h | h
  · exact hanc _ h
  · obtain ⟨q2, r2, h1, h2, h3⟩ := F.anc q rq hq _ h
    have := F.uniq p q2 r r2 hr h2 h3.symm
    omega
  · exact absurd ht (h.1 t hd).1

theorem Inv.imp {S S' : Nat → Prop} (h : ∀ i, S' i ↔ S i) {j : Nat} {μ : Mu} {a : Act} {w : World} (I : Inv cx ops an ms recs s sf Hs Ds W μ0 S j μ a w) : Inv cx ops an ms recs s sf Hs Ds W μ0 S' j μ a w := by
  have : S' = S := funext fun i => propext (h i)
  rw [this]; exact I

/-- One more operation that does not act. -/
theorem quiet_ok (C : CxOk P cx) (F : PF cx ops an its ms recs) (hc : Chain s recs sf) (hf : ∀ (p : Nat) (r : Rc), recs[p]? = some r → RF r) (hmk : ∀ r ∈ recs, Makes cx ops.toList r → r.s.H.n < r.s'.H.n)
    {S : Nat → Prop} {j : Nat} {μ : Mu} {a : Act} {w : World} (I : Inv cx ops an ms recs s sf Hs Ds W μ0 S j μ a w) {p : Nat} {r : Rc} (hr : recs[p]? = some r) (hS : ¬ S r.i) (hanc : ∀ x, bit (maskAt an r.i) x = true → S x)
    (hq : Quiet cx ops.toList its Hs ms.length r) {Q : Exit → Act → World → Prop} {K : Act → World → Prop}
    (hk : ∀ a' w' μ', Inv cx ops an ms recs s sf Hs Ds W μ0 (fun i => S i ∨ i = r.i) j μ' a' w' → K a' w') : wpOp P ops Q r.i K a w := by
  obtain ⟨⟨it, hit, ei, elo, ehi⟩, hcount, hw⟩ := hq
  have hop := F.op p r hr
  have hito := F.itop it hit
  have hoo : it.o = r.o := by rw [ei, hop] at hito; exact (Option.some.inj hito.1).symm
  have hnm : isM cx r.o = false := by rw [← hoo]; exact hito.2
  have hlo : r.lo ≤ j := by
    cases hl : r.lo with
    | zero => omega
    | succ n =>
      obtain ⟨m, h1, h2⟩ := F.itlo it hit n (by rw [elo, hl])
      rw [ei] at h2
      have := (I.pre n m h1).1 (hanc _ h2)
      omega
  have hhi : j ≤ r.hi := by
    refine Nat.le_of_not_lt fun hlt => ?_
    have hjl := I.jle
    obtain ⟨m, hm⟩ : ∃ m, ms[r.hi]? = some m := ⟨_, List.getElem?_eq_getElem (by omega)⟩
    have := F.ithi it hit m (by rw [ehi]; exact hm)
    rw [ei] at this
    exact hS (I.down _ ((I.pre _ m hm).2 hlt) _ this)
  have hlooks := I.looks F hr hS hanc
  have hwant := want_ok' ops r.o hlooks
  have hops : (∀ x ∈ r.o.op.operands.toList, okOpnd x = true) → Ops r.o μ (evO r.s.T) a.eval := fun h => looks_ops ops r.o hlooks h
  have pre' : ∀ (q : Nat) (m : Nat × Oper), ms[q]? = some m → ((S m.1 ∨ m.1 = r.i) ↔ q < j) := fun q m hm => by
    have hmo := F.msop m (List.mem_of_getElem? hm)
    have hne : m.1 ≠ r.i := fun e => by
      rw [e, hop] at hmo
      have h1 := Option.some.inj hmo.1
      rw [← h1, hnm] at hmo; exact absurd hmo.2 (by simp)
    simp only [hne, or_false]
    exact I.pre q m hm
  have down' : ∀ i, (S i ∨ i = r.i) → ∀ x, bit (maskAt an i) x = true → S x ∨ x = r.i := fun i hi x hx => by
    rcases hi with h | rfl
    · exact .inl (I.down i h x hx)
    · exact .inl (hanc x hx)
  have hsn : r.s.n = s.n := by rw [← atS_some (sf := sf) hr]; exact chain_n hc hf p (Nat.le_of_lt (List.getElem?_eq_some_iff.1 hr).1)
  have calm : ∀ v v', VR μ v v' → (∀ t, r.o.dst = some t → slot r.s'.T t = v ∧ t < r.s.n) → K (a.put r.o.dst v') w := fun v v' hv hd => by
    refine hk _ _ μ ⟨I.jle, pre', down', ?_, by rw [put_size]; exact I.size, by rw [put_dfr]; exact I.dfr, I.rel, I.ext, I.hn, fun r2 h1 h2 h3 h4 => I.pend r2 h1 h2 (fun h => h3 (.inl h)) h4⟩
    exact I.put_slots F hc hf hr hS hanc rfl (Le.refl _) fun t ht => by
      obtain ⟨h1, h2⟩ := hd t ht
      rw [h1, ← hsn]; exact ⟨hv, h2⟩
  unfold wpOp
  simp only [hop]
  rw [hwant]
  rcases hw with ⟨hw, hset⟩ | ⟨hw, hw2⟩
  · rw [hw]
    obtain ⟨_, _, _, _, h5⟩ := setD_facts hset
    exact calm undef undef (undefR μ) h5
  · rw [hw]
    refine .inl ?_
    have hcls := cls_ok C r.o
    have hopn := cls_opnd (cx := cx) (o := r.o)
    unfold Oper.wp
    rcases hw2 with ⟨f, v, h1, h2, h3⟩ | ⟨f, v, h1, h2, h3⟩ | ⟨f, m, h1, h2, h3, h4⟩
    · rw [h1] at hcls hopn
      obtain ⟨_, _, _, _, h5⟩ := setD_facts h3
      obtain ⟨v', hrun, hvr⟩ := hcls μ _ _ w v (hops (hopn (by simp))) h2
      rw [hrun]
      exact calm v v' hvr h5
    · rw [h1] at hcls hopn
      obtain ⟨_, _, _, _, h5⟩ := setD_facts h3
      obtain ⟨v', hrun, hvr⟩ := hcls W μ _ _ (Hs j) w v (hops (hopn (by simp))) I.rel (h2 j hlo hhi I.jle)
      rw [hrun]
      exact calm v v' hvr h5
    · rw [h1] at hcls hopn
      obtain ⟨g1, _, _, _, h5⟩ := setD_facts h4
      obtain ⟨v', w', bi, hrun, q1, q2, q3, q4, q5, q6⟩ := hcls W μ _ _ (Hs j) w m (hops (hopn (by simp))) I.rel h2
      have hfr : μ r.s.H.n = none := I.pend r (List.mem_of_getElem? hr) ⟨hw, f, h1⟩ hS hlo
      obtain ⟨p1, p2⟩ := q6 _ hfr
      have hnn : r.s'.H.n = r.s.H.n + 1 := by rw [g1]
      have hbn : r.s.H.n < (Hs j).n := by have := hcount j hlo I.jle; omega
      rw [hrun]
      refine hk _ _ (μ.set r.s.H.n bi) ⟨I.jle, pre', down', ?_, by rw [put_size]; exact I.size, by rw [put_dfr]; exact I.dfr.mono (Mu.le_set hfr),
        I.rel.alloc hfr q1 (Nat.le_refl _) hbn (h3 j hlo hhi I.jle) (fun c k hck => rfl) q2 q3 q4 q5 p2, I.ext.trans (m := s.H.n) (Mu.ext_set hfr ?_) (Nat.le_refl _), I.hn, fun r2 z1 z2 z3 z4 => ?_⟩
      · exact I.put_slots F hc hf hr hS hanc rfl (Mu.le_set hfr) fun t ht => by
          obtain ⟨y1, y2⟩ := h5 t ht
          rw [y1, ← hsn]; exact ⟨p1, y2⟩
      · have := chain_mono hc hf (p := 0) p (by have := (List.getElem?_eq_some_iff.1 hr).1; omega)
        rw [chain_first hc, Nat.zero_add, atS_some hr] at this
        exact this
      · have hold := I.pend r2 z1 z2 (fun h => z3 (.inl h)) z4
        have hne : r2.s.H.n ≠ r.s.H.n := by
          obtain ⟨q, hlq, hq⟩ := List.getElem_of_mem z1
          have hq : recs[q]? = some r2 := by rw [List.getElem?_eq_getElem hlq, hq]
          have hqp : q ≠ p := fun e => by subst e; rw [hr] at hq; cases hq; exact z3 (.inr rfl)
          rcases Nat.lt_or_gt_of_ne hqp with hlt | hlt
          · have h9 := chain_lt hc hf hq hr hlt
            have := hmk r2 z1 z2
            omega
          · have := chain_lt hc hf hr hq hlt; omega
        unfold Mu.set
        rw [if_neg hne]
        exact hold

/-- One more operation that acts. -/
theorem acts_ok (C : CxOk P cx) (hcall : CallSound P call) (F : PF cx ops an its ms recs) (hc : Chain s recs sf) (hf : ∀ (p : Nat) (r : Rc), recs[p]? = some r → RF r) (hmk : ∀ r ∈ recs, Makes cx ops.toList r → r.s.H.n < r.s'.H.n)
    (hall : ∀ r ∈ recs, Quiet cx ops.toList its Hs ms.length r ∨ Acts cx call ops.toList ms 0 Hs Ds r)
    {S : Nat → Prop} {j : Nat} {μ : Mu} {a : Act} {w : World} (I : Inv cx ops an ms recs s sf Hs Ds W μ0 S j μ a w) {p : Nat} {r : Rc} (hr : recs[p]? = some r) (hS : ¬ S r.i) (hanc : ∀ x, bit (maskAt an r.i) x = true → S x)
    (hq : Acts cx call ops.toList ms 0 Hs Ds r) {Q : Exit → Act → World → Prop} {K : Act → World → Prop}
    (hk : ∀ a' w' μ' j', Inv cx ops an ms recs s sf Hs Ds W μ0 (fun i => S i ∨ i = r.i) j' μ' a' w' → K a' w') : wpOp P ops Q r.i K a w := by
  obtain ⟨q, hmq, hstep, e1, e2, e3, e4, e5⟩ := hq
  simp only [Nat.zero_add] at e1 e2 e3 e4
  have hop := F.op p r hr
  have hqlt : q < ms.length := (List.getElem?_eq_some_iff.1 hmq).1
  have hqj : q = j := by
    have h1 : ¬ q < j := fun h => hS ((I.pre q _ hmq).2 h)
    refine Nat.le_antisymm (Nat.le_of_not_lt fun h => ?_) (Nat.le_of_not_lt h1)
    obtain ⟨k, rfl⟩ : ∃ k, q = k + 1 := ⟨q - 1, by omega⟩
    obtain ⟨m, hm⟩ : ∃ m, ms[k]? = some m := ⟨_, List.getElem?_eq_getElem (by omega)⟩
    have := (I.pre k m hm).1 (hanc _ (F.chain k m _ hm hmq))
    omega
  subst hqj
  have hlooks := I.looks F hr hS hanc
  have hwant := want_ok' ops r.o hlooks
  have pre' : ∀ (q' : Nat) (m : Nat × Oper), ms[q']? = some m → ((S m.1 ∨ m.1 = r.i) ↔ q' < q + 1) := fun q' m hm => by
    have h1 := I.pre q' m hm
    constructor
    · rintro (h | h)
      · have := h1.1 h; omega
      · have := F.msuniq q' q m _ hm hmq h; omega
    · intro h
      rcases Nat.lt_or_eq_of_le (Nat.le_of_lt_succ h) with h | rfl
      · exact .inl (h1.2 h)
      · rw [hmq] at hm; cases hm; exact .inr rfl
  have down' : ∀ i, (S i ∨ i = r.i) → ∀ x, bit (maskAt an i) x = true → S x ∨ x = r.i := fun i hi x hx => by
    rcases hi with h | rfl
    · exact .inl (I.down i h x hx)
    · exact .inl (hanc x hx)
  have hsn : r.s.n = s.n := by rw [← atS_some (sf := sf) hr]; exact chain_n hc hf p (Nat.le_of_lt (List.getElem?_eq_some_iff.1 hr).1)
  have next : ∀ (a' : Act) (v' : Value) (w' : World) (μ' : Mu), a'.tmps = a.tmps → (∀ t, r.o.dst = some t → VR μ' (slot r.s'.T t) v' ∧ t < r.s.n) → DfrR μ' r.s'.D a'.defers → Rel W μ' r.s'.H w' → Ext r.s.H.n μ μ' → K (a'.put r.o.dst v') w' := by
    intro a' v' w' μ' ha hd hdf hrel hext
    refine hk _ _ μ' (q + 1) ⟨hqlt, pre', down', ?_, by rw [put_size, ha]; exact I.size, by rw [put_dfr, e4]; exact hdf, hrel.grow e3, I.ext.trans hext (by rw [e1]; exact I.hn), ?_, fun r2 z1 z2 z3 z4 => ?_⟩
    · exact I.put_slots F hc hf hr hS hanc ha hext.le fun t ht => by
        obtain ⟨h1, h2⟩ := hd t ht
        rw [← hsn]; exact ⟨h1, h2⟩
    · have := I.hn; rw [← e1] at this; exact Nat.le_trans this (Nat.le_trans e5 e3.1)
    · obtain ⟨x, hlx, hx⟩ := List.getElem_of_mem z1
      have hx : recs[x]? = some r2 := by rw [List.getElem?_eq_getElem hlx, hx]
      obtain ⟨⟨it, hit, ei, elo, ehi⟩, hcount, _⟩ : Quiet cx ops.toList its Hs ms.length r2 := (hall r2 z1).resolve_right fun ⟨q', h1, _⟩ => by
        have hmo := (F.msop _ (List.mem_of_getElem? h1)).2
        obtain ⟨_, f, hf2⟩ := z2
        unfold isM at hmo; rw [hf2] at hmo; cases hmo
      rcases Nat.lt_or_eq_of_le z4 with hlt | heq
      · have hold := I.pend r2 z1 z2 (fun h => z3 (.inl h)) (by omega)
        cases hm : μ' r2.s.H.n with
        | none => rfl
        | some i =>
          rcases hext.new _ _ hm with h | h
          · rw [hold] at h; cases h
          · have h1 := hmk r2 z1 z2
            have h2 := hcount q (by omega) (by omega)
            rw [e1] at h; omega
      · obtain ⟨m, h1, h2⟩ := F.itlo it hit q (by rw [elo]; exact heq)
        rw [hmq] at h1; cases h1
        rw [ei] at h2
        obtain ⟨q2, r3, y1, y2, y3⟩ := F.anc x r2 hx _ h2
        have := F.uniq p q2 r r3 hr y2 y3.symm
        subst this
        exact hrel.fresh (chain_lt hc hf hr hx y1)
  rcases hs0 : r.s with ⟨n, T, D, H⟩
  rw [hs0] at hstep hwant
  unfold stepOp at hstep
  dsimp only at hstep hwant
  have hR : Rel W μ H w := by have := I.rel; rw [← e1, hs0] at this; exact this
  have hDf : DfrR μ D a.defers := by have := I.dfr; rw [← e2, hs0] at this; exact this
  unfold wpOp
  simp only [hop]
  rw [hwant]
  cases hw : wantT T ops.toList r.o.guard with
  | true =>
    rw [hw] at hstep
    simp only [cond_true] at hstep
    unfold stepCls at hstep
    dsimp only at hstep
    refine .inl ?_
    split at hstep
    · rename_i v d h' hres
      obtain ⟨g1, g2, g3, g4, g5⟩ := setD_facts hstep
      refine res_ok C hcall hres (fun ho => ?_) hDf hR fun a' v' w' μ' y1 y2 y3 y4 y5 y6 _ => ?_
      · have := looks_ops ops r.o hlooks ho; rw [hs0] at this; exact this
      · refine next a' v' w' μ' y1 (fun t ht => ?_) (by rw [g3]; exact y3) (by rw [g1]; exact y4) (by rw [hs0]; exact y5)
        obtain ⟨z1, z2⟩ := g5 t ht
        rw [z1]; exact ⟨y2, by rw [hs0]; exact z2⟩
    · cases hstep
  | false =>
    rw [hw] at hstep
    simp only [cond_false] at hstep
    obtain ⟨g1, g2, g3, g4, g5⟩ := setD_facts hstep
    refine next a undef w μ rfl (fun t ht => ?_) (by rw [g3]; exact hDf) (by rw [g1]; exact hR) (Ext.refl _ _)
    obtain ⟨z1, z2⟩ := g5 t ht
    rw [z1]; exact ⟨undefR μ, by rw [hs0]; exact z2⟩

theorem sd_set {listed : Array Bool} {i : Nat} (hi : i < listed.size) (x : Nat) : Sd (listed.setIfInBounds i true) x ↔ Sd listed x ∨ x = i := by
  unfold Sd
  by_cases h : i = x
  · subst h; simp [hi]
  · rw [getD_set_ne false h]
    have : x ≠ i := fun e => h e.symm
    simp [this]

theorem draw_go (C : CxOk P cx) (hcall : CallSound P call) (F : PF cx ops an its ms recs) (hc : Chain s recs sf) (hf : ∀ (p : Nat) (r : Rc), recs[p]? = some r → RF r) (hmk : ∀ r ∈ recs, Makes cx ops.toList r → r.s.H.n < r.s'.H.n)
    (hall : ∀ r ∈ recs, Quiet cx ops.toList its Hs ms.length r ∨ Acts cx call ops.toList ms 0 Hs Ds r) (hH : Hs ms.length = sf.H) (hD : Ds ms.length = sf.D)
    {Q : Exit → Act → World → Prop} (hq : ∀ a' w', Went W μ0 s sf a' w' → Q .normal a' w') :
    ∀ (fuel : Nat) (R : List Nat) (listed : Array Bool) (j : Nat) (μ : Mu) (a : Act) (w : World), R.length ≤ fuel → (∀ i, i < ops.size → ¬ Sd listed i → i ∈ R) → listed.size = ops.size →
      Inv cx ops an ms recs s sf Hs Ds W μ0 (Sd listed) j μ a w → wpAny P .any ops Q fuel listed a w := by
  have fin : ∀ (listed : Array Bool) (j : Nat) (μ : Mu) (a : Act) (w : World), (∀ i, i < ops.size → Sd listed i) → Inv cx ops an ms recs s sf Hs Ds W μ0 (Sd listed) j μ a w → Q .normal a w := by
    intro listed j μ a w hS I
    have hj : j = ms.length := by
      refine Nat.le_antisymm I.jle (Nat.le_of_not_lt fun hlt => ?_)
      have hm : ms[j]? = some ms[j] := List.getElem?_eq_getElem hlt
      have := (I.pre j _ hm).1 (hS _ (Array.getElem?_eq_some_iff.1 (F.msop _ (List.mem_of_getElem? hm)).1).1)
      omega
    subst hj
    refine hq a w ⟨μ, ⟨?_, fun t => ?_, by rw [← hD]; exact I.dfr⟩, by rw [← hH]; exact I.rel, I.ext, by rw [← hH]; exact I.hn⟩
    · have := chain_n hc hf recs.length (Nat.le_refl _)
      rw [atS_len] at this
      rw [this]; exact I.size
    · have := I.slots recs.length t (Nat.le_refl _) (.inl rfl) fun q r hr _ _ => hS _ (Array.getElem?_eq_some_iff.1 (F.op q r hr)).1
      rw [atS_len] at this
      exact this
  intro fuel
  induction fuel with
  | zero =>
    intro R listed j μ a w hR hm hsz I
    have hnil : R = [] := List.length_eq_zero_iff.1 (Nat.le_zero.1 hR)
    subst hnil
    have hS : ∀ i, i < ops.size → Sd listed i := fun i hi => Classical.byContradiction fun h => absurd (hm i hi h) (by simp)
    refine ⟨?_, fin listed j μ a w hS I⟩
    rw [List.eq_nil_iff_forall_not_mem]
    intro i hi
    obtain ⟨h1, o, h2, _⟩ := mem_ready.1 hi
    have hlt := (Array.getElem?_eq_some_iff.1 h2).1
    have := hS i hlt
    unfold Sd at this
    simp [hsz, hlt] at h1 this
    rw [h1] at this; cases this
  | succ fuel ih =>
    intro R listed j μ a w hR hm hsz I
    have hgd : ∀ i, i < ops.size → (listed.getD i true = false ↔ ¬ Sd listed i) := fun i hi => by
      have hi : i < listed.size := by omega
      unfold Sd; simp [hi]
    refine ⟨fun hnil => fin listed j μ a w ?_ I, fun i hi => ?_⟩
    · have : ∀ (p : Nat) (r : Rc), recs[p]? = some r → Sd listed r.i := by
        intro p
        induction p using Nat.strongRecOn with
        | _ p ihp =>
          intro r hr
          refine Classical.byContradiction fun hS => ?_
          have hop := F.op p r hr
          have hlt := (Array.getElem?_eq_some_iff.1 hop).1
          have : r.i ∈ Region.ready .any ops listed := mem_ready.2 ⟨(hgd _ hlt).2 hS, r.o, hop, fun e he hb => by
            obtain ⟨q, r', h1, h2, h3⟩ := F.anc p r hr e.on ((F.clos _ _ hop e.on).2 ⟨e, he, hb, .inl rfl⟩)
            rw [← h3]; exact ihp q h1 r' h2⟩
          rw [hnil] at this; simp at this
      intro i hi
      obtain ⟨p, r, h1, rfl⟩ := F.full i hi
      exact this p r h1
    · obtain ⟨h1, o, h2, h3⟩ := mem_ready.1 hi
      have hlt := (Array.getElem?_eq_some_iff.1 h2).1
      obtain ⟨p, r, hr, rfl⟩ := F.full i hlt
      have hop := F.op p r hr
      have hS := (hgd _ hlt).1 h1
      have hanc : ∀ x, bit (maskAt an r.i) x = true → Sd listed x := fun x hx => by
        obtain ⟨e, he, hb, h⟩ := (F.clos _ _ h2 x).1 hx
        have hon := h3 e he hb
        rcases h with rfl | h
        · exact hon
        · exact I.down _ hon _ h
      have go : ∀ a' w' μ' j', Inv cx ops an ms recs s sf Hs Ds W μ0 (fun i => Sd listed i ∨ i = r.i) j' μ' a' w' → wpAny P .any ops Q fuel (listed.setIfInBounds r.i true) a' w' := fun a' w' μ' j' I' => by
        have hb : r.i < listed.size := by omega
        refine ih (R.erase r.i) _ j' μ' a' w' ?_ (fun x hx hn => ?_) (by simp [hsz]) (I'.imp fun x => sd_set hb x)
        · have := List.length_erase_of_mem (hm _ hlt hS); omega
        · rw [sd_set hb] at hn
          have hne : x ≠ r.i := fun e => hn (.inr e)
          exact (List.mem_erase_of_ne hne).2 (hm x hx fun h => hn (.inl h))
      rcases hall r (List.mem_of_getElem? hr) with hqt | hac
      · exact quiet_ok C F hc hf hmk I hr hS hanc hqt fun a' w' μ' I' => go a' w' μ' j I'
      · exact acts_ok C hcall F hc hf hmk hall I hr hS hanc hac go

end

/-- A region whose order is drawn. -/
theorem draw_ok (C : CxOk P cx) {call : Caller} (hcall : CallSound P call) {ops : Array Oper} {s sf : St} (e : runDraw cx call ops.toList s = .ok sf) {W : World} {μ : Mu} {a : Act} {w : World} (hA : ActR μ s a) (R : Rel W μ s.H w)
    {Q : Exit → Act → World → Prop} (hq : ∀ a' w', Went W μ s sf a' w' → Q .normal a' w') : wpAny P .any ops Q ops.size (Array.replicate ops.size false) a w := by
  unfold runDraw at e
  split at e
  · rename_i p hp
    obtain ⟨recs, Hs, Ds, t⟩ := drawSegs_spec e
    have F := planOf_ok hp t.ord
    have hall : ∀ r ∈ recs, Quiet cx ops.toList p.its Hs p.ms.length r ∨ Acts cx call ops.toList p.ms 0 Hs Ds r := fun r hr => by
      have := t.all r hr
      rw [Nat.zero_add] at this
      exact this.imp (fun h => h.1) id
    have hf : ∀ (q : Nat) (r : Rc), recs[q]? = some r → RF r := fun q r hr => by
      rcases hall r (List.mem_of_getElem? hr) with ⟨_, _, h⟩ | ⟨_, _, h, _, _, _, _, hn⟩
      · exact quiet_facts h
      · obtain ⟨h1, h2⟩ := stepOp_facts h
        exact ⟨h1, hn, h2⟩
    have hmk : ∀ r ∈ recs, Makes cx ops.toList r → r.s.H.n < r.s'.H.n := fun r hr ⟨hw, f, hcl⟩ => by
      rcases hall r hr with ⟨_, _, h⟩ | ⟨q, h1, _⟩
      · rcases h with ⟨h, _⟩ | ⟨_, ⟨_, _, h, _⟩ | ⟨_, _, h, _⟩ | ⟨f', m, h1, h2, h3, h4⟩⟩
        · rw [hw] at h; cases h
        · rw [hcl] at h; cases h
        · rw [hcl] at h; cases h
        · obtain ⟨g1, _⟩ := setD_facts h4
          rw [g1]; exact Nat.lt_succ_self _
      · have hmo := (F.msop _ (List.mem_of_getElem? h1)).2
        unfold isM at hmo; rw [hcl] at hmo; cases hmo
    have hJ := t.dj; have hHJ := t.hj
    rw [Nat.zero_add] at hJ hHJ
    have no : ∀ i, ¬ Sd (Array.replicate ops.size false) i := fun i h => by
      unfold Sd at h
      rw [Array.getD_eq_getD_getElem?, Array.getElem?_replicate] at h
      split at h <;> simp at h
    refine draw_go C hcall F t.chain hf hmk hall hHJ hJ hq ops.size (List.range ops.size) _ 0 μ a w (by simp) (fun i hi _ => List.mem_range.2 hi) (by simp) ⟨Nat.zero_le _, fun q m hm => ⟨fun h => absurd h (no _), fun h => absurd h (Nat.not_lt_zero _)⟩, fun i h => absurd h (no i), ?_, hA.size, by rw [t.d0]; exact hA.dfr, R.grow t.h0, Ext.refl _ _, t.h0.1, fun r hr hm _ hlo => ?_⟩
    · intro p' x hp' hw hall'
      have hs := chain_slot t.chain hf (t := x) (p := 0) p' (by omega) fun y ry hy _ hlt hd => no _ (hall' y ry hy (by omega) hd)
      rw [Nat.zero_add, chain_first t.chain] at hs
      rw [hs]
      exact hA.tmp x
    · obtain ⟨x, hlx, hx⟩ := List.getElem_of_mem hr
      have hx : recs[x]? = some r := by rw [List.getElem?_eq_getElem hlx, hx]
      have := chain_mono t.chain hf (p := 0) x (by omega)
      rw [Nat.zero_add, chain_first t.chain, atS_some hx] at this
      exact R.fresh this
  · cases e

end Go.EvM
