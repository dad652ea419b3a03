/- Draw1: what the checks of a drawn region say. -/
import Derived.Test.YtmnpdgldmpjekaaEvCode
namespace Go.EvM
open Go.RowKit
set_option linter.unusedVariables false
variable {P : Program} {cx : Cx}

theorem eqAddr_eq {a b : Option Addr} (h : eqAddr a b = true) : a = b := by
  unfold eqAddr at h
  split at h
  · rfl
  · simp at h; obtain ⟨rfl, rfl⟩ := h; rfl
  · cases h
theorem eqNO_eq {a b : Option Nat} (h : eqNO a b = true) : a = b := by
  unfold eqNO at h
  split at h
  · rfl
  · simp at h; rw [h]
  · cases h
mutual
theorem eqVal_eq : ∀ (k : Nat) (a b : Value), eqVal k a b = true → a = b
  | 0, _, _, h => by simp [eqVal] at h
  | k + 1, a, b, h => by
    unfold eqVal at h
    split at h
    · rename_i a b
      cases a <;> cases b <;> first | rfl | cases h
    · simp [eqI_eq] at h; obtain ⟨rfl, rfl⟩ := h; rfl
    · rename_i a b
      rw [eqL_eq] at h
      have h := eq_of_beq h
      obtain ⟨⟨a⟩⟩ := a; obtain ⟨⟨b⟩⟩ := b
      dsimp only at h; subst h; rfl
    · rw [eqAddr_eq h]
    · simp at h; obtain ⟨⟨h1, rfl⟩, rfl⟩ := h; rw [eqAddr_eq h1]
    · rw [eqNO_eq h]
    · rename_i f a c g b d
      simp at h; obtain ⟨⟨rfl, h1⟩, h2⟩ := h
      have h1 := eqVals_eq k _ _ h1
      have h2 := eqVals_eq k _ _ h2
      obtain ⟨a⟩ := a; obtain ⟨b⟩ := b; obtain ⟨c⟩ := c; obtain ⟨d⟩ := d
      dsimp only at h1 h2; subst h1; subst h2; rfl
    · rfl
    · simp at h; obtain ⟨rfl, h1⟩ := h; rw [eqVal_eq k _ _ h1]
    · rfl
    · rename_i a b
      have h1 := eqVals_eq k _ _ h
      obtain ⟨a⟩ := a; obtain ⟨b⟩ := b
      dsimp only at h1; subst h1; rfl
    · rename_i a b
      have h1 := eqVals_eq k _ _ h
      obtain ⟨a⟩ := a; obtain ⟨b⟩ := b
      dsimp only at h1; subst h1; rfl
    · cases h
theorem eqVals_eq : ∀ (k : Nat) (a b : List Value), eqVals k a b = true → a = b
  | 0, _, _, h => by simp [eqVals] at h
  | k + 1, a, b, h => by
    unfold eqVals at h
    split at h
    · rfl
    · simp at h; rw [eqVal_eq k _ _ h.1, eqVals_eq k _ _ h.2]
    · cases h
end
theorem eqTr_eq : ∀ (k : Nat) (a b : Tr Value), eqTr k a b = true → a = b
  | 0, _, _, h => by simp [eqTr] at h
  | k + 1, .nil, .nil, _ => rfl
  | k + 1, .nil, .nd .., h => by simp [eqTr] at h
  | k + 1, .nd .., .nil, h => by simp [eqTr] at h
  | k + 1, .nd v a b c d, .nd v' a' b' c' d', h => by
    simp only [eqTr, Bool.and_eq_true] at h
    obtain ⟨⟨⟨⟨h0, h1⟩, h2⟩, h3⟩, h4⟩ := h
    rw [eqTr_eq k _ _ h1, eqTr_eq k _ _ h2, eqTr_eq k _ _ h3, eqTr_eq k _ _ h4]
    cases v <;> cases v' <;> first | rfl | cases h0 | (rw [eqVal_eq _ _ _ h0])
theorem eqOb_eq {a b : Ob} (h : eqOb a b = true) : a = b := by
  cases a with
  | map _ _ => cases h
  | cells c n z t r => cases b with
    | map _ _ => cases h
    | cells c' n' z' t' r' =>
      simp only [eqOb, Bool.and_eq_true] at h
      obtain ⟨⟨⟨⟨h0, h1⟩, h2⟩, h3⟩, h4⟩ := h
      rw [eqTr_eq _ _ _ h0]
      have h1 := Nat.eq_of_beq_eq_true h1
      have h2 := Nat.eq_of_beq_eq_true h2
      subst h1; subst h2
      cases t <;> cases t' <;> cases r <;> cases r' <;> first | rfl | (cases h3; done) | (cases h4; done)

theorem flOk_look {k : Nat} {h : Hp} {f : Env → Hp → Option Value} {T : Tr Value} {v : Value} {hi : Nat} (e : flOk k h (.look f T v hi) = true) (hk : k ≤ hi) : f (evO T) h = some v := by
  simp only [flOk, Nat.ble_eq_true_of_le hk, cond_true] at e
  split at e
  · rename_i u hu; rw [hu, eqVal_eq _ _ _ e]
  · cases e
theorem flOk_make {k : Nat} {h : Hp} {b : Nat} {ob : Ob} {hi : Nat} (e : flOk k h (.make b ob hi) = true) (hk : k ≤ hi) : h.b.get b = some ob := by
  simp only [flOk, Nat.ble_eq_true_of_le hk, cond_true] at e
  split at e
  · rename_i u hu; rw [hu, eqOb_eq e]
  · cases e

/-! ### Masks -/
theorem bit_eq (m i : Nat) : bit m i = m.testBit i := by
  unfold bit
  rw [Nat.testBit, Nat.one_and_eq_mod_two]
  show Nat.beq ((m >>> i) &&& 1) 1 = _
  rw [Nat.and_one_is_mod]
  rcases Nat.mod_two_eq_zero_or_one (m >>> i) with h | h <;> rw [h] <;> rfl

theorem maskOf_go (an : List Nat) (j : Nat) : ∀ (es : List Edge) (m : Nat),
    bit (es.foldl (fun s e => bif Region.binds .any e then Nat.lor (Nat.lor s (Nat.shiftLeft 1 e.on)) ((an[e.on]?).getD 0) else s) m) j = true ↔
      bit m j = true ∨ ∃ e ∈ es, Region.binds .any e = true ∧ (e.on = j ∨ bit (maskAt an e.on) j = true) := by
  intro es
  induction es with
  | nil => intro m; simp
  | cons e es ih =>
    intro m
    rw [List.foldl_cons, ih]
    cases hb : Region.binds .any e with
    | false => simp [hb]
    | true =>
      simp only [cond_true, List.mem_cons, exists_eq_or_imp, hb, true_and]
      have : bit (Nat.lor (Nat.lor m (Nat.shiftLeft 1 e.on)) ((an[e.on]?).getD 0)) j = true ↔ bit m j = true ∨ e.on = j ∨ bit (maskAt an e.on) j = true := by
        simp only [bit_eq, maskAt]
        show ((m ||| 1 <<< e.on) ||| _).testBit j = true ↔ _
        rw [Nat.testBit_or, Nat.testBit_or, Nat.one_shiftLeft, Nat.testBit_two_pow]
        simp [or_assoc]
      rw [this, or_assoc, or_assoc]
theorem bit_zero (j : Nat) : bit 0 j = false := by rw [bit_eq]; exact Nat.zero_testBit j
theorem maskOf_bit (an : List Nat) (es : List Edge) (j : Nat) : bit (maskOf an es) j = true ↔ ∃ e ∈ es, Region.binds .any e = true ∧ (e.on = j ∨ bit (maskAt an e.on) j = true) := by
  unfold maskOf
  rw [maskOf_go, bit_zero]; simp

theorem bit_lor (a b j : Nat) : bit (Nat.lor a b) j = (bit a j || bit b j) := by
  simp only [bit_eq]; exact Nat.testBit_or a b j
theorem bit_one (i j : Nat) : bit (Nat.shiftLeft 1 i) j = decide (i = j) := by
  rw [bit_eq]
  show (1 <<< i).testBit j = _
  rw [Nat.one_shiftLeft, Nat.testBit_two_pow]
theorem sub_bit {a b : Nat} (h : Nat.beq (Nat.land a b) a = true) (j : Nat) (hj : bit a j = true) : bit b j = true := by
  have h := Nat.eq_of_beq_eq_true h
  have : bit (Nat.land a b) j = (bit a j && bit b j) := by simp only [bit_eq]; exact Nat.testBit_and a b j
  rw [h, hj] at this
  simpa using this.symm
theorem bit_full (n j : Nat) : bit (Nat.pred (Nat.shiftLeft 1 n)) j = decide (j < n) := by
  rw [bit_eq]
  show (1 <<< n - 1).testBit j = _
  rw [Nat.one_shiftLeft, Nat.testBit_two_pow_sub_one]

/-! ### What an operation does to the slots -/
theorem setD_facts {s s' : St} {d : Option Tmp} {v : Value} {h : Hp} (e : s.setD d v h = .ok s') :
    s'.H = h ∧ s'.n = s.n ∧ s'.D = s.D ∧ (∀ t, d ≠ some t → slot s'.T t = slot s.T t) ∧ (∀ t, d = some t → slot s'.T t = v ∧ t < s.n) := by
  obtain ⟨n, T, D, H⟩ := s
  unfold St.setD at e
  cases d with
  | none => cases e; exact ⟨rfl, rfl, rfl, fun _ _ => rfl, fun _ h => by cases h⟩
  | some d =>
    dsimp only at e
    cases hb : Nat.blt d n with
    | false => rw [hb] at e; cases e
    | true =>
      rw [hb] at e; cases e
      refine ⟨rfl, rfl, rfl, fun t ht => ?_, fun t ht => ?_⟩
      · simp only [slot]; rw [Tr.get_put_ne]; exact fun e => ht (by rw [e])
      · cases ht; exact ⟨by simp only [slot, Tr.get_put_eq], blt_lt hb⟩

theorem stepOp_facts {call : Caller} {ops : List Oper} {o : Oper} {s s' : St} (e : stepOp cx call ops o s = .ok s') :
    s'.n = s.n ∧ (∀ t, o.dst ≠ some t → slot s'.T t = slot s.T t) := by
  obtain ⟨n, T, D, H⟩ := s
  unfold stepOp at e
  dsimp only at e
  cases hw : wantT T ops o.guard with
  | true =>
    rw [hw] at e
    simp only [cond_true] at e
    unfold stepCls at e
    dsimp only at e
    split at e
    · obtain ⟨_, h2, _, h4, _⟩ := setD_facts e
      exact ⟨h2, h4⟩
    · cases e
  | false =>
    rw [hw] at e
    simp only [cond_false] at e
    obtain ⟨_, h2, _, h4, _⟩ := setD_facts e
    exact ⟨h2, h4⟩

end Go.EvM
