/- Draw3: what a plan that was checked says. -/
import Derived.Test.YtmnpdgldmpjekaaEvDraw2
namespace Go.EvM
open Go.RowKit
set_option linter.unusedVariables false
variable {P : Program} {cx : Cx}

theorem numbered_get : ∀ {l : List Oper} {k i : Nat} {o : Oper}, (i, o) ∈ numbered k l → k ≤ i ∧ l[i - k]? = some o
  | [], _, _, _, h => by simp [numbered] at h
  | x :: l, k, i, o, h => by
    simp only [numbered, List.mem_cons, Prod.mk.injEq] at h
    rcases h with ⟨rfl, rfl⟩ | h
    · simp
    · obtain ⟨h1, h2⟩ := numbered_get h
      refine ⟨by omega, ?_⟩
      have : i - k = i - (k + 1) + 1 := by omega
      rw [this]; simpa using h2
theorem numbered_mem : ∀ {l : List Oper} {k i : Nat} {o : Oper}, l[i]? = some o → (k + i, o) ∈ numbered k l
  | [], _, _, _, h => by simp at h
  | x :: l, k, 0, o, h => by simp at h; subst h; simp [numbered]
  | x :: l, k, i + 1, o, h => by
    simp only [numbered, List.mem_cons]
    have := numbered_mem (k := k + 1) (i := i) (l := l) (o := o) (by simpa using h)
    exact .inr (by rw [show k + (i + 1) = k + 1 + i by omega]; exact this)
theorem numbered_lt : ∀ (l : List Oper) (k : Nat), (numbered k l).Pairwise (fun a b => a.1 < b.1)
  | [], _ => .nil
  | x :: l, k => .cons (fun p hp => by obtain ⟨i, o⟩ := p; exact (numbered_get hp).1) (numbered_lt l (k + 1))

theorem ordOk_spec {an : List Nat} {all : Nat} : ∀ {L : List (Nat × Oper)} {acc : Nat}, ordOk an L acc all = true →
    (∀ (p : Nat) (y : Nat × Oper), L[p]? = some y → (∀ x, bit (maskAt an y.1) x = true → bit acc x = true ∨ ∃ (q : Nat) (z : Nat × Oper), q < p ∧ L[q]? = some z ∧ z.1 = x) ∧ bit acc y.1 = false ∧ ∀ (q : Nat) (z : Nat × Oper), q < p → L[q]? = some z → z.1 ≠ y.1) ∧
    ∀ x, bit all x = true → bit acc x = true ∨ ∃ (q : Nat) (z : Nat × Oper), L[q]? = some z ∧ z.1 = x
  | [], acc, h => ⟨fun p y hp => by simp at hp, fun x hx => by rw [← Nat.eq_of_beq_eq_true h] at hx; exact .inl hx⟩
  | y0 :: L, acc, h => by
    simp only [ordOk, Bool.and_eq_true, Bool.not_eq_true'] at h
    obtain ⟨⟨h1, h2⟩, h3⟩ := h
    have hsub : ∀ x, bit (maskAt an y0.1) x = true → bit acc x = true := by
      intro x hx
      have e := Nat.eq_of_beq_eq_true h1
      have : bit (Nat.land (maskAt an y0.1) acc) x = (bit (maskAt an y0.1) x && bit acc x) := by simp only [bit_eq]; exact Nat.testBit_and _ _ x
      rw [e, hx] at this
      simpa using this.symm
    obtain ⟨g1, g2⟩ := ordOk_spec h3
    have hor : ∀ x, bit (Nat.lor acc (Nat.shiftLeft 1 y0.1)) x = true → bit acc x = true ∨ y0.1 = x := fun x hx => by
      rw [bit_lor, bit_one] at hx; simpa using hx
    refine ⟨fun p y hp => ?_, fun x hx => ?_⟩
    · cases p with
      | zero =>
        simp at hp; subst hp
        exact ⟨fun x hx => .inl (hsub x hx), h2, fun q z hq => absurd hq (Nat.not_lt_zero _)⟩
      | succ p =>
        simp at hp
        obtain ⟨a1, a2, a3⟩ := g1 p y hp
        rw [bit_lor, bit_one] at a2
        simp at a2
        refine ⟨fun x hx => ?_, a2.1, fun q z hq hz => ?_⟩
        · rcases a1 x hx with h | ⟨q, z, hq, hz, e⟩
          · rcases hor x h with h | h
            · exact .inl h
            · exact .inr ⟨0, y0, Nat.succ_pos _, rfl, h⟩
          · exact .inr ⟨q + 1, z, Nat.succ_lt_succ hq, by simpa using hz, e⟩
        · cases q with
          | zero => simp at hz; subst hz; exact a2.2
          | succ q => exact a3 q z (by omega) (by simpa using hz)
    · rcases g2 x hx with h | ⟨q, z, hz, e⟩
      · rcases hor x h with h | h
        · exact .inl h
        · exact .inr ⟨0, y0, rfl, h⟩
      · exact .inr ⟨q + 1, z, by simpa using hz, e⟩

theorem ordL_mem {its : List It} : ∀ {ms : List (Nat × Oper)} {k : Nat} {y : Nat × Oper}, y ∈ ordL its k ms → y ∈ ms ∨ ∃ it ∈ its, y = (it.i, it.o)
  | [], k, y, h => by
    simp only [ordL, segL, List.mem_map, List.mem_filter] at h
    obtain ⟨it, ⟨h1, _⟩, h2⟩ := h
    exact .inr ⟨it, h1, h2.symm⟩
  | m :: ms, k, y, h => by
    simp only [ordL, List.mem_append, List.mem_cons] at h
    rcases h with h | rfl | h
    · simp only [segL, List.mem_map, List.mem_filter] at h
      obtain ⟨it, ⟨h1, _⟩, h2⟩ := h
      exact .inr ⟨it, h1, h2.symm⟩
    · exact .inl List.mem_cons_self
    · rcases ordL_mem h with h | h
      · exact .inl (List.mem_cons_of_mem _ h)
      · exact .inr h

theorem memN_iff {n : Nat} {l : List Nat} : memN n l = true ↔ n ∈ l := by
  unfold memN
  simp [List.any_eq_true]

def Apart (ops : List Oper) (x y : Oper) : Prop := (∀ d, x.dst = some d → d ∉ looks ops y ∧ y.dst ≠ some d) ∧ ∀ d, y.dst = some d → d ∉ looks ops x
theorem Apart.symm {ops : List Oper} {x y : Oper} (h : Apart ops x y) : Apart ops y x :=
  ⟨fun d hd => ⟨h.2 d hd, fun e => (h.1 d e).2 hd⟩, fun d hd => (h.1 d hd).1⟩
theorem apartB_ok {ops : List Oper} {x y : Oper} (h : apartB ops x y = true) : Apart ops x y := by
  unfold apartB at h
  rw [Bool.and_eq_true] at h
  obtain ⟨h1, h2⟩ := h
  refine ⟨fun d hd => ?_, fun d hd => ?_⟩
  · rw [hd] at h1
    simp only [Bool.and_eq_true, Bool.not_eq_true'] at h1
    refine ⟨fun hm => ?_, fun e => ?_⟩
    · rw [memN_iff.2 hm] at h1; cases h1.1
    · rw [e] at h1; simp at h1
  · rw [hd] at h2
    simp only [Bool.not_eq_true'] at h2
    intro hm
    rw [memN_iff.2 hm] at h2; cases h2

theorem chainFrom_get {an : List Nat} : ∀ {l : List Nat} {m : Nat}, chainFrom an m l = true → ∀ q x y, (m :: l)[q]? = some x → (m :: l)[q + 1]? = some y → bit (maskAt an y) x = true
  | [], m, h, q, x, y, hx, hy => by simp at hy
  | n :: l, m, h, q, x, y, hx, hy => by
    simp only [chainFrom, Bool.and_eq_true] at h
    cases q with
    | zero => simp at hx hy; subst hx; subst hy; exact h.1
    | succ q => exact chainFrom_get h.2 q x y (by simpa using hx) (by simpa using hy)

structure PF (cx : Cx) (ops : Array Oper) (an : List Nat) (its : List It) (ms : List (Nat × Oper)) (recs : List Rc) : Prop where
  op : ∀ (p : Nat) (r : Rc), recs[p]? = some r → ops[r.i]? = some r.o
  full : ∀ i, i < ops.size → ∃ (p : Nat) (r : Rc), recs[p]? = some r ∧ r.i = i
  uniq : ∀ (p q : Nat) (r r' : Rc), recs[p]? = some r → recs[q]? = some r' → r.i = r'.i → p = q
  anc : ∀ (p : Nat) (r : Rc), recs[p]? = some r → ∀ x, bit (maskAt an r.i) x = true → ∃ (q : Nat) (r' : Rc), q < p ∧ recs[q]? = some r' ∧ r'.i = x
  clos : ∀ (i : Nat) (o : Oper), ops[i]? = some o → ∀ x, bit (maskAt an i) x = true ↔ ∃ e ∈ o.after, Region.binds .any e = true ∧ (e.on = x ∨ bit (maskAt an e.on) x = true)
  cmp : ∀ (p q : Nat) (r r' : Rc), recs[p]? = some r → recs[q]? = some r' → p ≠ q → bit (maskAt an r'.i) r.i = true ∨ bit (maskAt an r.i) r'.i = true ∨ Apart ops.toList r.o r'.o
  chain : ∀ (q : Nat) (m m' : Nat × Oper), ms[q]? = some m → ms[q + 1]? = some m' → bit (maskAt an m'.1) m.1 = true
  itlo : ∀ it ∈ its, ∀ n, it.lo = n + 1 → ∃ m : Nat × Oper, ms[n]? = some m ∧ bit (maskAt an it.i) m.1 = true
  ithi : ∀ it ∈ its, ∀ m : Nat × Oper, ms[it.hi]? = some m → bit (maskAt an m.1) it.i = true
  msop : ∀ m ∈ ms, ops[m.1]? = some m.2 ∧ isM cx m.2 = true
  itop : ∀ it ∈ its, ops[it.i]? = some it.o ∧ isM cx it.o = false
  msuniq : ∀ (q q' : Nat) (m m' : Nat × Oper), ms[q]? = some m → ms[q']? = some m' → m.1 = m'.1 → q = q'

theorem planOf_ok {ops : Array Oper} {p : Plan} (h : planOf cx ops.toList = some p) {recs : List Rc} (ho : recs.map (fun r => (r.i, r.o)) = ordL p.its 0 p.ms) :
    PF cx ops (ancs ops.toList) p.its p.ms recs := by
  unfold planOf at h
  cases hc : planOk ops.toList (ancs ops.toList) (numbered 0 ops.toList) (mkPlan cx (ancs ops.toList) (numbered 0 ops.toList)) with
  | false => rw [hc] at h; cases h
  | true =>
    rw [hc] at h
    simp only [cond_true, Option.some.injEq] at h
    rw [h] at hc
    generalize hnb : numbered 0 ops.toList = nb at *
    generalize han : ancs ops.toList = an at *
    simp only [planOk, Bool.and_eq_true] at hc
    obtain ⟨⟨⟨⟨c1, c2⟩, c3⟩, c4⟩, c5⟩ := hc
    have nbget : ∀ {i : Nat} {o : Oper}, (i, o) ∈ nb → ops[i]? = some o := fun hm => by
      subst hnb
      have := (numbered_get hm).2
      simpa using this
    have nbmem : ∀ {i : Nat} {o : Oper}, ops[i]? = some o → (i, o) ∈ nb := fun hm => by
      subst hnb
      have := numbered_mem (k := 0) (l := ops.toList) (i := _) (o := _) (by simpa using hm)
      simpa using this
    have nblt : nb.Pairwise (fun a b => a.1 < b.1) := by subst hnb; exact numbered_lt _ _
    have hms : p.ms = nb.filter fun p => isM cx p.2 := by subst h; rfl
    have msop : ∀ m ∈ p.ms, ops[m.1]? = some m.2 ∧ isM cx m.2 = true := fun m hm => by
      rw [hms, List.mem_filter] at hm
      exact ⟨nbget (i := m.1) (o := m.2) hm.1, hm.2⟩
    have itop : ∀ it ∈ p.its, ops[it.i]? = some it.o ∧ isM cx it.o = false := fun it hm => by
      subst h
      simp only [mkPlan, List.mem_map, List.mem_filter] at hm
      obtain ⟨q, ⟨h1, h2⟩, rfl⟩ := hm
      exact ⟨nbget (i := q.1) (o := q.2) h1, by simpa using h2⟩
    have hget : ∀ {q : Nat} {r : Rc}, recs[q]? = some r → (ordL p.its 0 p.ms)[q]? = some (r.i, r.o) := fun hr => by rw [← ho, List.getElem?_map, hr]; rfl
    have hget' : ∀ {q : Nat} {y : Nat × Oper}, (ordL p.its 0 p.ms)[q]? = some y → ∃ r : Rc, recs[q]? = some r ∧ r.i = y.1 := fun hy => by
      rw [← ho, List.getElem?_map, Option.map_eq_some_iff] at hy
      obtain ⟨r, h1, rfl⟩ := hy
      exact ⟨r, h1, rfl⟩
    have rop : ∀ (q : Nat) (r : Rc), recs[q]? = some r → ops[r.i]? = some r.o := fun q r hr => by
      rcases ordL_mem (List.mem_of_getElem? (hget hr)) with h | ⟨it, h1, h2⟩
      · exact (msop _ h).1
      · have e := Prod.mk.inj h2; rw [e.1, e.2]; exact (itop _ h1).1
    obtain ⟨o1, o2⟩ := ordOk_spec c5
    refine ⟨rop, fun i hi => ?_, fun q q' r r' hr hr' e => ?_, fun q r hr x hx => ?_, fun i o hi x => ?_, fun q q' r r' hr hr' hne => ?_, fun q m m' hm hm' => ?_, fun it hit n hn => ?_, fun it hit m hm => ?_, msop, itop, fun q q' m m' hm hm' e => ?_⟩
    · rcases o2 i (by rw [bit_full]; simpa using hi) with h | ⟨q, z, hz, e⟩
      · rw [bit_zero] at h; cases h
      · obtain ⟨r, h1, h2⟩ := hget' hz
        exact ⟨q, r, h1, h2.trans e⟩
    · rcases Nat.lt_trichotomy q q' with hlt | rfl | hlt
      · exact absurd e ((o1 q' _ (hget hr')).2.2 q _ hlt (hget hr))
      · rfl
      · exact absurd e.symm ((o1 q _ (hget hr)).2.2 q' _ hlt (hget hr'))
    · rcases (o1 q _ (hget hr)).1 x hx with h | ⟨q', z, h1, h2, h3⟩
      · rw [bit_zero] at h; cases h
      · obtain ⟨r', h4, h5⟩ := hget' h2
        exact ⟨q', r', h1, h4, h5.trans h3⟩
    · have := List.all_eq_true.1 c1 (i, o) (nbmem hi)
      rw [Bool.and_eq_true] at this
      have := Nat.eq_of_beq_eq_true this.2
      rw [← this, maskOf_bit]
      simp
    · have hi := nbmem (rop q r hr)
      have hi' := nbmem (rop q' r' hr')
      have hne' : r.i ≠ r'.i := by
        intro e
        rcases Nat.lt_trichotomy q q' with hlt | rfl | hlt
        · exact absurd e ((o1 q' _ (hget hr')).2.2 q _ hlt (hget hr))
        · exact hne rfl
        · exact absurd e.symm ((o1 q _ (hget hr)).2.2 q' _ hlt (hget hr'))
      have hap : ∀ {x y : Nat × Oper}, x ∈ nb → y ∈ nb → x.1 < y.1 → bit (maskAt an y.1) x.1 = true ∨ Apart ops.toList x.2 y.2 := fun {x y} hx hy hlt => by
        have := List.all_eq_true.1 (List.all_eq_true.1 c3 x hx) y hy
        have hb : Nat.blt x.1 y.1 = true := by simp [hlt]
        rw [hb] at this
        simp only [cond_true, Bool.or_eq_true] at this
        exact this.imp id apartB_ok
      rcases Nat.lt_or_gt_of_ne hne' with hlt | hlt
      · rcases hap hi hi' hlt with h | h
        · exact .inl h
        · exact .inr (.inr h)
      · rcases hap hi' hi hlt with h | h
        · exact .inr (.inl h)
        · exact .inr (.inr h.symm)
    · cases hmm : p.ms with
      | nil => rw [hmm] at hm; simp at hm
      | cons m0 l =>
        rw [hmm] at c2 hm hm'
        have c2 : chainFrom an m0.1 (l.map (·.1)) = true := c2
        exact chainFrom_get c2 q m.1 m'.1 (by rw [← List.map_cons (f := fun x : Nat × Oper => x.1), List.getElem?_map, hm]; rfl) (by rw [← List.map_cons (f := fun x : Nat × Oper => x.1), List.getElem?_map, hm']; rfl)
    · have := List.all_eq_true.1 c4 it hit
      unfold itOk at this
      rw [Bool.and_eq_true] at this
      have := this.1
      rw [hn] at this
      simp only at this
      rw [List.getElem?_map] at this
      cases hm : p.ms[n]? with
      | none => rw [hm] at this; cases this
      | some m => rw [hm] at this; exact ⟨m, rfl, this⟩
    · have := List.all_eq_true.1 c4 it hit
      unfold itOk at this
      rw [Bool.and_eq_true] at this
      have := this.2
      rw [List.getElem?_map, hm] at this
      exact this
    · have hpw : p.ms.Pairwise (fun a b => a.1 < b.1) := by rw [hms]; exact nblt.filter _
      rw [List.pairwise_iff_getElem] at hpw
      obtain ⟨l1, g1⟩ := List.getElem?_eq_some_iff.1 hm
      obtain ⟨l2, g2⟩ := List.getElem?_eq_some_iff.1 hm'
      rcases Nat.lt_trichotomy q q' with hlt | rfl | hlt
      · have := hpw q q' l1 l2 hlt; rw [g1, g2] at this; omega
      · rfl
      · have := hpw q' q l2 l1 hlt; rw [g1, g2] at this; omega

end Go.EvM
