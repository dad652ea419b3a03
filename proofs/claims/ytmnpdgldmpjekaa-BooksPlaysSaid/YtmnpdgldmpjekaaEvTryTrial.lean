/- TryTrial: (*books.Books).Trial, at this dump. -/
import Derived.Test.YtmnpdgldmpjekaaEvExt3
import Derived.Test.YtmnpdgldmpjekaaProg
import Derived.KernelRfl
namespace Go.EvM.TryTrial
open Go.RowKit Go.Proofs
open Go.ChangeMaps (setBlock)
set_option linter.unusedVariables false

noncomputable def cx : Cx := mkCx Try.prog fun _ => none
theorem C : CxOk Try.prog cx := cx_ok (by kernel_rfl)
theorem hm : Try.prog.follows .mixedOrders = true := by kernel_rfl
theorem hf : Try.prog.funcs[11]? = some Try.f11 := by kernel_rfl
noncomputable def bd : Code := Try.f11.body.getD .skip
noncomputable def o (k : Nat) : Array Oper := regOps bd k
theorem shape : Try.f11.body = some (.seq (.region 0 (o 0) false) (.seq (.region 1 (o 1) false) (.seq (.seq (.region 2 (o 2) false) (.block 0 (.loop (.seq (.region 3 (o 3) false) (.seq (.cond (.tmp 14) .skip (.exit 0))
  (.block 1 (.seq (.region 4 (o 4) false) (.seq (.region 5 (o 5) false) (.cond (.tmp 18) (.region 6 (o 6) false) (.region 7 (o 7) false)))))))))) (.seq (.region 8 (o 8) false) .ret)))) := by kernel_rfl

def z0 : Value := .int .i64 0
noncomputable def T2 (p : Value) : Tr Value := ((((Tr.ofL [p]).put 2 z0).put 3 z0).put 4 z0).put 5 z0
theorem ev01 (p : Value) (h : Hp) : evCode cx F0 0 (.seq (.region 0 (o 0) false) (.region 1 (o 1) false)) ⟨27, Tr.ofL [p], [], h⟩ = .ok .norm ⟨27, T2 p, [], h⟩ := by kernel_rfl
theorem ev0 (p : Value) (h : Hp) : evCode cx F0 0 (.region 0 (o 0) false) ⟨27, Tr.ofL [p], [], h⟩ = .ok .norm ⟨27, ((Tr.ofL [p]).put 2 z0).put 3 z0, [], h⟩ := by kernel_rfl
theorem ev1 (p : Value) (h : Hp) : evCode cx F0 0 (.region 1 (o 1) false) ⟨27, ((Tr.ofL [p]).put 2 z0).put 3 z0, [], h⟩ = .ok .norm ⟨27, T2 p, [], h⟩ := by kernel_rfl
theorem n2 : List.range (o 2).size = [0, 1, 2, 3, 4] := by kernel_rfl
theorem n3 : List.range (o 3).size = [0, 1] := by kernel_rfl
theorem n4 : List.range (o 4).size = [0, 1, 2] := by kernel_rfl
theorem at20 : (o 2)[0]? = some (opAt (o 2) 0) := by kernel_rfl
theorem at21 : (o 2)[1]? = some (opAt (o 2) 1) := by kernel_rfl
theorem at22 : (o 2)[2]? = some (opAt (o 2) 2) := by kernel_rfl
theorem at23 : (o 2)[3]? = some (opAt (o 2) 3) := by kernel_rfl
theorem at24 : (o 2)[4]? = some (opAt (o 2) 4) := by kernel_rfl
theorem at30 : (o 3)[0]? = some (opAt (o 3) 0) := by kernel_rfl
theorem at31 : (o 3)[1]? = some (opAt (o 3) 1) := by kernel_rfl
theorem at40 : (o 4)[0]? = some (opAt (o 4) 0) := by kernel_rfl
theorem at41 : (o 4)[1]? = some (opAt (o 4) 1) := by kernel_rfl
theorem at42 : (o 4)[2]? = some (opAt (o 4) 2) := by kernel_rfl
noncomputable def P1 (b off : Nat) : Value := .pointer (some ⟨b, off, none⟩)
noncomputable def P2 (b off : Nat) : Value := .pointer (some ⟨b, Nat.add off 1, none⟩)
theorem s20 (b off : Nat) (h : Hp) : stepOp cx F0 (o 2).toList (opAt (o 2) 0) ⟨27, T2 (P1 b off), [], h⟩ = .ok ⟨27, (T2 (P1 b off)).put 8 (P1 b off), [], h⟩ := by kernel_rfl
theorem s21 (b off : Nat) (h : Hp) : stepOp cx F0 (o 2).toList (opAt (o 2) 1) ⟨27, (T2 (P1 b off)).put 8 (P1 b off), [], h⟩ = .ok ⟨27, ((T2 (P1 b off)).put 8 (P1 b off)).put 9 (P1 b off), [], h⟩ := by kernel_rfl
theorem s22 (b off : Nat) (h : Hp) : stepOp cx F0 (o 2).toList (opAt (o 2) 2) ⟨27, ((T2 (P1 b off)).put 8 (P1 b off)).put 9 (P1 b off), [], h⟩ = .ok ⟨27, (((T2 (P1 b off)).put 8 (P1 b off)).put 9 (P1 b off)).put 10 (P2 b off), [], h⟩ := by kernel_rfl
noncomputable def T3 (b off : Nat) : Tr Value := (((T2 (P1 b off)).put 8 (P1 b off)).put 9 (P1 b off)).put 10 (P2 b off)
theorem s23' (b off : Nat) (h : Hp) : stepOp cx F0 (o 2).toList (opAt (o 2) 3) ⟨27, T3 b off, [], h⟩ = (match load1 h b (Nat.add off 1) with | some v => SR.ok ⟨27, (T3 b off).put 11 v, [], h⟩ | none => .no) := by
  generalize hl : load1 h b (Nat.add off 1) = l
  have : stepOp cx F0 (o 2).toList (opAt (o 2) 3) ⟨27, T3 b off, [], h⟩ = (match (match (match load1 h b (Nat.add off 1) with | some v => RR.ok v [] h | none => .no) with | .ok v d h' => (⟨27, T3 b off, d, h⟩ : St).setD (some 11) v h' | .no => .no) with | x => x) := by kernel_rfl
  rw [this, hl]
  cases l <;> rfl

def lst (x : Nat → Value) : List Value := [x 0, x 1, x 2, x 3, x 4, x 5, x 6, x 7, x 8, x 9, x 10, x 11, x 12, x 13, x 14, x 15, x 16, x 17, x 18, x 19, x 20, x 21, x 22, x 23, x 24, x 25, x 26]
def lstW (x : Nat → Value) (u d : Int) : List Value := [x 0, x 1, x 2, x 3, .int .i64 u, .int .i64 d, x 6, x 7, x 8, x 9, x 10, x 11, x 12, x 13, x 14, x 15, x 16, x 17, x 18, x 19, x 20, x 21, x 22, x 23, x 24, x 25, x 26]
def lstU (x : Nat → Value) (u d v : Int) : List Value := [x 0, x 1, x 2, x 3, .int .i64 u, .int .i64 d, x 6, .int .i64 v, x 8, x 9, x 10, x 11, x 12, x 13, x 14, x 15, x 16, x 17, x 18, x 19, x 20, x 21, x 22, x 23, x 24, x 25, x 26]
noncomputable def X3 (x : Nat → Value) (b : Bool) (l : List Value) : Tr Value := (Tr.ofL (lst x)).put 13 (.tuple ⟨.bool b :: l⟩)
theorem s31 (x : Nat → Value) (b : Bool) (l : List Value) (h : Hp) : stepOp cx F0 (o 3).toList (opAt (o 3) 1) ⟨27, X3 x b l, [], h⟩ = .ok ⟨27, (X3 x b l).put 14 (.bool b), [], h⟩ := by kernel_rfl
theorem c14t (x : Nat → Value) (l : List Value) (h : Hp) : evCode cx F0 0 (.cond (.tmp 14) .skip (.exit 0)) ⟨27, (X3 x true l).put 14 (.bool true), [], h⟩ = .ok .norm ⟨27, (X3 x true l).put 14 (.bool true), [], h⟩ := by kernel_rfl
theorem c14f (x : Nat → Value) (l : List Value) (h : Hp) : evCode cx F0 0 (.cond (.tmp 14) .skip (.exit 0)) ⟨27, (X3 x false l).put 14 (.bool false), [], h⟩ = .ok (.exit 0) ⟨27, (X3 x false l).put 14 (.bool false), [], h⟩ := by kernel_rfl
noncomputable def X4 (x : Nat → Value) (l : List Value) (k v : Value) : Tr Value := ((X3 x true l).put 14 (.bool true)).put 15 (.tuple ⟨[k, v]⟩)
theorem s41 (x : Nat → Value) (l : List Value) (k v : Value) (h : Hp) : stepOp cx F0 (o 4).toList (opAt (o 4) 1) ⟨27, X4 x l k v, [], h⟩ = .ok ⟨27, (X4 x l k v).put 16 v, [], h⟩ := by kernel_rfl
theorem s42 (x : Nat → Value) (l : List Value) (k v : Value) (h : Hp) : stepOp cx F0 (o 4).toList (opAt (o 4) 2) ⟨27, (X4 x l k v).put 16 v, [], h⟩ = .ok ⟨27, ((X4 x l k v).put 16 v).put 7 v, [], h⟩ := by kernel_rfl
noncomputable def X5 (x : Nat → Value) (u d v : Int) (b : Bool) : Tr Value := ((Tr.ofL (lstU x u d v)).put 17 (.int .i64 v)).put 18 (.bool b)
theorem ev5 (x : Nat → Value) (u d v : Int) (h : Hp) : evCode cx F0 0 (.region 5 (o 5) false) ⟨27, Tr.ofL (lstU x u d v), [], h⟩ = .ok .norm ⟨27, X5 x u d v (ltI 0 v), [], h⟩ := by kernel_rfl
noncomputable def X6 (x : Nat → Value) (u d v : Int) : Tr Value := ((((X5 x u d v true).put 19 (.int .i64 u)).put 20 (.int .i64 v)).put 21 (.int .i64 (wr .i64 (Int.add u v)))).put 4 (.int .i64 (wr .i64 (Int.add u v)))
theorem ev6 (x : Nat → Value) (u d v : Int) (h : Hp) : evCode cx F0 0 (.cond (.tmp 18) (.region 6 (o 6) false) (.region 7 (o 7) false)) ⟨27, X5 x u d v true, [], h⟩ = .ok .norm ⟨27, X6 x u d v, [], h⟩ := by kernel_rfl
noncomputable def X7 (x : Nat → Value) (u d v : Int) : Tr Value := ((((X5 x u d v false).put 22 (.int .i64 d)).put 23 (.int .i64 v)).put 24 (.int .i64 (wr .i64 (Int.sub d v)))).put 5 (.int .i64 (wr .i64 (Int.sub d v)))
theorem ev7 (x : Nat → Value) (u d v : Int) (h : Hp) : evCode cx F0 0 (.cond (.tmp 18) (.region 6 (o 6) false) (.region 7 (o 7) false)) ⟨27, X5 x u d v false, [], h⟩ = .ok .norm ⟨27, X7 x u d v, [], h⟩ := by kernel_rfl
noncomputable def X8 (x : Nat → Value) (u d : Int) : Tr Value := ((((Tr.ofL (lstW x u d)).put 25 (.int .i64 u)).put 26 (.int .i64 d)).put 2 (.int .i64 u)).put 3 (.int .i64 d)
theorem ev8 (x : Nat → Value) (u d : Int) (h : Hp) : evCode cx F0 0 (.seq (.region 8 (o 8) false) .ret) ⟨27, Tr.ofL (lstW x u d), [], h⟩ = .ok .ret ⟨27, X8 x u d, [], h⟩ := by kernel_rfl
theorem out8 (x : Nat → Value) (u d : Int) (h : Hp) : evOut cx Try.f11.results.toList (X8 x u d) h = .ok (.tuple ⟨[.int .i64 u, .int .i64 d]⟩) h := by kernel_rfl

theorem lst_eq (x : Nat → Value) : lst x = (List.range 27).map x := rfl
theorem slot_lst (x : Nat → Value) (t : Nat) (ht : t < 27) : slot (Tr.ofL (lst x)) t = x t := by
  rw [slot_ofL, lst_eq, List.getElem?_map, List.getElem?_range ht]; rfl
theorem slot_lst_out (x : Nat → Value) (t : Nat) (ht : 27 ≤ t) : slot (Tr.ofL (lst x)) t = undef := by
  rw [slot_ofL, List.getElem?_eq_none (by simpa [lst] using ht)]; rfl

theorem normed {μ : Mu} {T : Tr Value} {H H' : Hp} {a : Act} (h : ActR μ ⟨27, T, [], H⟩ a) : ActR μ ⟨27, Tr.ofL (lst (slot T)), [], H'⟩ a :=
  h.norm (fun t ht => slot_lst _ t ht) fun t ht => slot_lst_out _ t ht

theorem hu : Try.prog.underlying 48 = some (.map 9 2) := by kernel_rfl
theorem w24 (y : Nat → Option Bool) : Region.wanted (opAt (o 2) 4) y = true := by kernel_rfl
theorem w30 (y : Nat → Option Bool) : Region.wanted (opAt (o 3) 0) y = true := by kernel_rfl
theorem w40 (y : Nat → Option Bool) : Region.wanted (opAt (o 4) 0) y = true := by kernel_rfl
theorem x24 (ρ : Operand → Value) : execOp ρ (opAt (o 2) 4) = (do pure (Next.value (← Instr.range 48 (ρ (.tmp 11))))) := by kernel_rfl
theorem x30 (ρ : Operand → Value) : execOp ρ (opAt (o 3) 0) = (do pure (Next.value (← Instr.next (ρ (.tmp 12)) false 0))) := by kernel_rfl
theorem x40 (ρ : Operand → Value) : execOp ρ (opAt (o 4) 0) = (do pure (Next.value (← Instr.entry (ρ (.tmp 12))))) := by kernel_rfl
theorem d24 : (opAt (o 2) 4).dst = some 12 := by kernel_rfl
theorem d30 : (opAt (o 3) 0).dst = some 13 := by kernel_rfl
theorem d40 : (opAt (o 4) 0).dst = some 15 := by kernel_rfl

/-- An operation that gives a value, by hand. -/
theorem by_hand {ops : Array Oper} {i : Nat} {q : Oper} (hi : ops[i]? = some q) (hw : ∀ y, Region.wanted q y = true) {a : Act} {w w' : World} {v : Value} (hr : (execOp a.eval q).run Try.prog w = .ok (.value v) w') {Q : Exit → Act → World → Prop} {K : Act → World → Prop}
    (hk : K (a.put q.dst v) w') : wpOp Try.prog ops Q i K a w := by
  unfold wpOp
  simp only [hi, hw, if_true]
  refine .inl ?_
  unfold Oper.wp
  rw [hr]
  exact hk

theorem ActR.hand {μ : Mu} {n : Nat} {T : Tr Value} {D : List Dfr} {H : Hp} {a : Act} (h : ActR μ ⟨n, T, D, H⟩ a) {d : Nat} (hd : d < n) {v v' : Value} (hv : VR μ v v') : ActR μ ⟨n, T.put d v, D, H⟩ (a.put (some d) v') := by
  have e : (⟨n, T, D, H⟩ : St).setD (some d) v H = .ok ⟨n, T.put d v, D, H⟩ := by
    unfold St.setD
    simp only [show Nat.blt d n = true by simp [hd], cond_true]
  exact (setD_eq e).2.2.2 h hv

/-- What holds at the head of the loop. -/
structure LI (W1 : World) (h1 : Nat) (rbm cl : Nat) (arr : Array MapEntry) (U D : Int) (a : Act) (w : World) : Prop where
  ex : ∃ (μ : Mu) (x : Nat → Value) (seen : Array Nat) (u d : Int), ActR μ ⟨27, Tr.ofL (lst x), [], ⟨h1 + 1, .nil⟩⟩ a ∧ x 4 = .int .i64 u ∧ x 5 = .int .i64 d ∧ x 12 = .pointer (some ⟨h1, 0, none⟩) ∧
    μ h1 = some ⟨W1.heap.size, 0, 0, 0, 0⟩ ∧ (∀ b i, μ b = some i → b < h1 + 1) ∧ Below W1.heap.size W1 w ∧ w.heap[W1.heap.size]? = some (.mapIter (some rbm) cl seen cl) ∧ w.heap[rbm]? = some (.map arr cl) ∧
    (∀ e ∈ arr.toList, ∃ k, VR μ k e.key) ∧
    wr .i64 (u + sumBy upOf (leftOf arr seen).toList) = wr .i64 U ∧ wr .i64 (d + sumBy dnOf (leftOf arr seen).toList) = wr .i64 D ∧ wr .i64 u = u ∧ wr .i64 d = d
def left (rb : Nat) (arr : Array MapEntry) (w : World) : Nat := match w.heap[rb]? with | some (.mapIter _ _ seen _) => (leftOf arr seen).size | _ => 0

theorem bare {μ : Mu} {n : Nat} {w : World} (hd : ∀ b i, μ b = some i → b < n) : Rel w μ ⟨n, .nil⟩ w := by
  refine ⟨hd, fun b i o _ h => ?_, fun b c i j o p _ _ h => ?_, Below.refl _ _⟩
  · rw [Tr.get_nil] at h; cases h
  · rw [Tr.get_nil] at h; cases h

theorem tmp_eval {μ : Mu} {s : St} {a : Act} (h : ActR μ s a) (t : Nat) : VR μ (slot s.T t) (a.eval (.tmp t)) := h.tmp t
theorem setBlock_below (w : World) (r : Nat) (ob : Obj) : Below r w (setBlock w r ob) :=
  ⟨rfl, rfl, rfl, by simp [setBlock], fun k hk => by simp only [setBlock]; exact Array.getElem?_setIfInBounds_ne (by omega)⟩

noncomputable def body : Code := .seq (.region 3 (o 3) false) (.seq (.cond (.tmp 14) .skip (.exit 0)) (.block 1 (.seq (.region 4 (o 4) false) (.seq (.region 5 (o 5) false) (.cond (.tmp 18) (.region 6 (o 6) false) (.region 7 (o 7) false))))))

theorem loop_wp {W1 : World} {h1 rbm cl : Nat} {arr : Array MapEntry} {U D : Int} (hnd : (arr.toList.map (·.born)).Nodup) (hold : ∀ x ∈ arr.toList, x.born < cl) (hval : ∀ e ∈ arr.toList, ∃ v, e.val = .int .i64 v) (hrbm : rbm < W1.heap.size)
    {a : Act} {w : World} (I : LI W1 h1 rbm cl arr U D a w) {Q : Exit → Act → World → Prop}
    (hQ : ∀ (a : Act) (w : World) (μ : Mu) (x : Nat → Value), ActR μ ⟨27, Tr.ofL (lst x), [], ⟨h1 + 1, .nil⟩⟩ a → x 4 = .int .i64 (wr .i64 U) → x 5 = .int .i64 (wr .i64 D) → (∀ b i, μ b = some i → b < h1 + 1) → Below W1.heap.size W1 w → Q .normal a w) :
    (Code.block 0 (.loop body)).wp Try.prog Q a w := by
  refine wp_block ?_
  refine wp_loop (fun a w => LI W1 h1 rbm cl arr U D a w) (fun _ w => left W1.heap.size arr w) I ?_
  clear I a w
  intro a w ⟨μ, x, seen, u, d, A, x4, x5, x12, hg, hd, hB, hit, hmap, hk, su, sd, wu, wd⟩
  have hrb : W1.heap.size < w.heap.size := (Array.getElem?_eq_some_iff.1 hit).1
  have hleft : left W1.heap.size arr w = (leftOf arr seen).size := by unfold left; rw [hit]
  have e12 : a.eval (.tmp 12) = .pointer (some ⟨W1.heap.size, 0, none⟩) := by
    have := tmp_eval A 12
    rw [slot_lst x 12 (by omega), x12] at this
    generalize a.eval (.tmp 12) = y at this
    cases this with
    | ptr _ hb => rw [hg] at hb; cases hb; rfl
  unfold body
  refine wp_seq ?_
  refine wp_region ?_
  rw [n3, wpOps_cons]
  rcases run_next_at (P := Try.prog) w 0 W1.heap.size rbm cl cl seen arr cl hit hmap hold (Nat.le_refl _) with ⟨h0, hrun⟩ | ⟨e, he, w1, hw1, hrun⟩
  · refine by_hand at30 w30 (v := .tuple #[.bool false]) (w' := w) (by rw [x30, e12]; simp only [Sem.run_bind, hrun, Result.andThen_ok, Sem.run_pure]) ?_
    rw [d30, wpOps_cons]
    have A1 := ActR.hand A (d := 13) (by omega) (v := .tuple ⟨[.bool false]⟩) (v' := .tuple #[.bool false]) (.tuple (.cons (.bool false) .nil))
    refine stepOp_ok C F0_sound at31 (s31 x false [] _) A1 (bare hd) fun a2 w2 ⟨μ2, A2, R2, E2, N2⟩ => ?_
    show (Code.seq _ _).wp _ _ a2 w2
    refine wp_seq ?_
    refine code_ok C hm F0_sound 0 _ _ _ _ (c14f x [] _) w μ2 _ w2 A2 R2 _ fun a3 w3 ⟨μ3, A3, R3, E3, N3⟩ => ?_
    show if 0 = 0 then Q .normal a3 w3 else Q (.exit 0) a3 w3
    rw [if_pos rfl]
    have hnil : (leftOf arr seen).toList = [] := List.length_eq_zero_iff.1 (by simpa using h0)
    rw [hnil] at su sd
    simp only [sumBy, Int.add_zero] at su sd
    refine hQ a3 w3 μ3 _ (normed A3) ?_ ?_ R3.dom (hB.trans (R3.below.mono (Nat.le_of_lt hrb)))
    · simp only [X3, slot_put]; rw [if_neg (by omega), if_neg (by omega), slot_lst x 4 (by omega), x4, ← su, wu]
    · simp only [X3, slot_put]; rw [if_neg (by omega), if_neg (by omega), slot_lst x 5 (by omega), x5, ← sd, wd]
  · obtain ⟨he1, he2⟩ := mem_left he
    obtain ⟨v, hv⟩ := hval e he1
    obtain ⟨k, hkv⟩ := hk e he1
    have hvr : VR μ (.int .i64 v) e.val := by rw [hv]; exact .int _ _
    refine by_hand at30 w30 (v := .tuple #[.bool true, e.key, e.val]) (w' := setBlock w1 W1.heap.size (.mapIter (some rbm) cl (seen.push e.born) cl)) (by rw [x30, e12]; simp only [Sem.run_bind, hrun, Result.andThen_ok, Sem.run_pure]) ?_
    generalize hw' : setBlock w1 W1.heap.size (.mapIter (some rbm) cl (seen.push e.born) cl) = w'
    have hsz1 : w1.heap = w.heap := by rcases hw1 with rfl | rfl <;> rfl
    have hit' : w'.heap[W1.heap.size]? = some (.mapIter (some rbm) cl (seen.push e.born) cl) := by rw [← hw']; simp [setBlock, hsz1, hrb]
    have hmap' : w'.heap[rbm]? = some (.map arr cl) := by
      rw [← hw']; simp only [setBlock]; rw [Array.getElem?_setIfInBounds_ne (by omega), hsz1]; exact hmap
    have hB' : Below W1.heap.size W1 w' := by
      rw [← hw']
      refine (hB.trans ?_).trans (setBlock_below w1 _ _)
      rcases hw1 with rfl | rfl
      · exact Below.refl _ _
      · exact (Below.refl _ _).drew
    have hrb' : W1.heap.size < w'.heap.size := (Array.getElem?_eq_some_iff.1 hit').1
    rw [d30, wpOps_cons]
    have A1 := ActR.hand A (d := 13) (by omega) (v := .tuple ⟨[.bool true, k, .int .i64 v]⟩) (v' := .tuple #[.bool true, e.key, e.val]) (.tuple (.cons (.bool true) (.cons hkv (.cons hvr .nil))))
    refine stepOp_ok C F0_sound at31 (s31 x true [k, .int .i64 v] _) A1 (bare hd) fun a2 w2 ⟨μ2, A2, R2, E2, N2⟩ => ?_
    show (Code.seq _ _).wp _ _ a2 w2
    refine wp_seq ?_
    refine code_ok C hm F0_sound 0 _ _ _ _ (c14t x _ _) w' μ2 _ w2 A2 R2 _ fun a3 w3 ⟨μ3, A3, R3, E3, N3⟩ => ?_
    show (Code.block 1 _).wp _ _ a3 w3
    refine wp_block ?_
    refine wp_seq ?_
    refine wp_region ?_
    rw [n4, wpOps_cons]
    have hit3 : w3.heap[W1.heap.size]? = some (.mapIter (some rbm) cl (seen.push e.born) cl) := (R3.below.block _ hrb').trans hit'
    have hmap3 : w3.heap[rbm]? = some (.map arr cl) := (R3.below.block _ (by omega)).trans hmap'
    have E13 : Ext (h1 + 1) μ μ3 := E2.trans E3 (Nat.le_refl _)
    have e123 : a3.eval (.tmp 12) = .pointer (some ⟨W1.heap.size, 0, none⟩) := by
      have := tmp_eval A3 12
      simp only [X3, slot_put] at this
      rw [if_neg (by omega), if_neg (by omega), slot_lst x 12 (by omega), x12] at this
      generalize a3.eval (.tmp 12) = y at this
      cases this with
      | ptr _ hb => rw [E13.le _ _ hg] at hb; cases hb; rfl
    have hent := run_entry_at (P := Try.prog) w3 W1.heap.size rbm cl seen arr cl e hit3 hmap3 he1 hnd
    refine by_hand at40 w40 (v := .tuple #[e.key, e.val]) (w' := w3) (by rw [x40, e123]; simp only [Sem.run_bind, hent, Result.andThen_ok, Sem.run_pure]) ?_
    rw [d40, wpOps_cons]
    have A4 := ActR.hand A3 (d := 15) (by omega) (v := .tuple ⟨[k, .int .i64 v]⟩) (v' := .tuple #[e.key, e.val]) (.tuple (.cons (hkv.mono E13.le) (.cons (hvr.mono E13.le) .nil)))
    refine stepOp_ok C F0_sound at41 (s41 x _ k (.int .i64 v) _) A4 (bare R3.dom) fun a5 w5 ⟨μ5, A5, R5, E5, N5⟩ => ?_
    rw [wpOps_cons]
    refine stepOp_ok C F0_sound at42 (s42 x _ k (.int .i64 v) _) A5 R5 fun a6 w6 ⟨μ6, A6, R6, E6, N6⟩ => ?_
    show (Code.seq _ _).wp _ _ a6 w6
    have E16 : Ext (h1 + 1) μ μ6 := (E13.trans E5 (Nat.le_refl _)).trans E6 (Nat.le_refl _)
    have A6' := normed (H' := ⟨h1 + 1, .nil⟩) A6
    generalize hx6 : slot (((X4 x [k, .int .i64 v] k (.int .i64 v)).put 16 (.int .i64 v)).put 7 (.int .i64 v)) = x6 at A6'
    have g4 : x6 4 = .int .i64 u := by rw [← hx6]; simp only [X4, X3, slot_put]; simp [slot_lst, x4]
    have g5 : x6 5 = .int .i64 d := by rw [← hx6]; simp only [X4, X3, slot_put]; simp [slot_lst, x5]
    have g7 : x6 7 = .int .i64 v := by rw [← hx6]; simp only [X4, X3, slot_put]; simp
    have g12 : x6 12 = .pointer (some ⟨h1, 0, none⟩) := by rw [← hx6]; simp only [X4, X3, slot_put]; simp [slot_lst, x12]
    have gl : lst x6 = lstU x6 u d v := by unfold lst lstU; rw [g4, g5, g7]
    rw [gl] at A6'
    have B6 : Below w'.heap.size w' w6 := R3.below.trans (R6.below.mono R3.below.size)
    refine wp_seq ?_
    refine code_ok C hm F0_sound 0 _ _ _ _ (ev5 x6 u d v _) w6 μ6 _ w6 A6' (bare R6.dom) _ fun a7 w7 ⟨μ7, A7, R7, E7, N7⟩ => ?_
    have fin : ∀ (T : Tr Value) (u' d' : Int) (a8 : Act) (w8 : World), Went w6 μ7 ⟨27, X5 x6 u d v (ltI 0 v), [], ⟨h1 + 1, .nil⟩⟩ ⟨27, T, [], ⟨h1 + 1, .nil⟩⟩ a8 w8 → slot T 4 = .int .i64 u' → slot T 5 = .int .i64 d' → slot T 12 = .pointer (some ⟨h1, 0, none⟩) →
        wr .i64 (u' + sumBy upOf (leftOf arr (seen.push e.born)).toList) = wr .i64 U → wr .i64 (d' + sumBy dnOf (leftOf arr (seen.push e.born)).toList) = wr .i64 D → wr .i64 u' = u' → wr .i64 d' = d' →
        LI W1 h1 rbm cl arr U D a8 w8 ∧ left W1.heap.size arr w8 < left W1.heap.size arr w := by
      intro T u' d' a8 w8 ⟨μ8, A8, R8, E8, N8⟩ t4 t5 t12 su' sd' wu' wd'
      have E18 : Ext (h1 + 1) μ μ8 := (E16.trans E7 (Nat.le_refl _)).trans E8 (Nat.le_refl _)
      have B8 : Below w'.heap.size w' w8 := B6.trans (R8.below.mono B6.size)
      have hit8 : w8.heap[W1.heap.size]? = some (.mapIter (some rbm) cl (seen.push e.born) cl) := (B8.block _ hrb').trans hit'
      refine ⟨⟨μ8, slot T, seen.push e.born, u', d', normed A8, t4, t5, t12, E18.le _ _ hg, R8.dom, hB'.trans (B8.mono (Nat.le_of_lt hrb')), hit8, (B8.block _ (by omega)).trans hmap', fun e he => let ⟨k, hk⟩ := hk e he; ⟨k, hk.mono E18.le⟩, su', sd', wu', wd'⟩, ?_⟩
      rw [hleft]
      unfold left; rw [hit8]
      exact left_shrinks arr seen e he
    have hsu := sumBy_out upOf (left_nodup hnd seen) he
    have hsd := sumBy_out dnOf (left_nodup hnd seen) he
    rw [← left_push] at hsu hsd
    have hwu : ∀ n, wr .i64 (wr .i64 n) = wr .i64 n := fun n => by have := wr_wr n 0; simpa using this
    cases hlt : ltI 0 v with
    | true =>
      rw [hlt] at A7 fin
      have hp : (0 : Int) < v := by rw [ltI_eq] at hlt; simpa using hlt
      have ue : upOf e = v := by simp [upOf, hv, hp]
      have de : dnOf e = 0 := by simp [dnOf, hv, hp]
      rw [hlt] at R7
      refine code_ok C hm F0_sound 0 _ _ _ _ (ev6 x6 u d v _) w6 μ7 _ w7 A7 R7 _ fun a8 w8 hw8 => ?_
      refine fin _ (wr .i64 (Int.add u v)) d a8 w8 hw8 ?_ ?_ ?_ ?_ ?_ (hwu _) wd
      · simp only [X6, slot_put]; simp
      · simp only [X6, X5, slot_put, ← gl]; simp [slot_lst, g5]
      · simp only [X6, X5, slot_put, ← gl]; simp [slot_lst, g12]
      · rw [wr_wr, ← su, hsu, ue]; congr 1; show u + v + _ = _; omega
      · rw [← sd, hsd, de]; congr 1; omega
    | false =>
      rw [hlt] at A7 fin
      have hp : ¬ (0 : Int) < v := by rw [ltI_eq] at hlt; simpa using hlt
      have ue : upOf e = 0 := by simp [upOf, hv, hp]
      have de : dnOf e = -v := by simp [dnOf, hv, hp]
      rw [hlt] at R7
      refine code_ok C hm F0_sound 0 _ _ _ _ (ev7 x6 u d v _) w6 μ7 _ w7 A7 R7 _ fun a8 w8 hw8 => ?_
      refine fin _ u (wr .i64 (Int.sub d v)) a8 w8 hw8 ?_ ?_ ?_ ?_ ?_ wu (hwu _)
      · simp only [X7, X5, slot_put, ← gl]; simp [slot_lst, g4]
      · simp only [X7, slot_put]; simp
      · simp only [X7, X5, slot_put, ← gl]; simp [slot_lst, g12]
      · rw [← su, hsu, ue]; congr 1; omega
      · rw [wr_wr, ← sd, hsd, de]; congr 1; show d - v + _ = _; omega

theorem nt : Try.f11.ntmps = 27 := by kernel_rfl
theorem nm : (Try.f11.name == "runtime.NumGoroutine") = false := by kernel_rfl
theorem shape' : Try.f11.body = some (.seq (.region 0 (o 0) false) (.seq (.region 1 (o 1) false) (.seq (.seq (.region 2 (o 2) false) (.block 0 (.loop body))) (.seq (.region 8 (o 8) false) .ret)))) := shape
theorem s23 (b off : Nat) (h : Hp) {v : Value} (hl : load1 h b (Nat.add off 1) = some v) : stepOp cx F0 (o 2).toList (opAt (o 2) 3) ⟨27, T3 b off, [], h⟩ = .ok ⟨27, (T3 b off).put 11 v, [], h⟩ := by rw [s23', hl]

theorem trial_ok : SumOk Try.prog 11 (trialE 1) := by
  intro args h v h' e W μ w args' hv R
  unfold trialE at e
  split at e
  · rename_i b off
    split at e
    · rename_i m hld
      split at e
      · rename_i es cl hob
        split at e
        · rename_i U D hst hud
          cases e
          have st1 := (stampsOk_iff hst).1
          have st2 := (stampsOk_iff hst).2
          rw [MuLone.run_callFunc_enter hf nm shape']
          refine calls_of_wp hf shape' ?_
          rw [nt]
          have hA := enter_R (h := h) (m := 27) hv
          refine wp_seq ?_
          refine code_ok C hm F0_sound 0 _ _ _ _ (ev0 (P1 b off) h) W μ _ w hA R _ fun a1 w1 ⟨μ1, A1, R1, E1, N1⟩ => ?_
          show (Code.seq _ _).wp _ _ a1 w1
          refine wp_seq ?_
          refine code_ok C hm F0_sound 0 _ _ _ _ (ev1 (P1 b off) h) W μ1 _ w1 A1 R1 _ fun a2 w2 ⟨μ2, A2, R2, E2, N2⟩ => ?_
          show (Code.seq _ _).wp _ _ a2 w2
          refine wp_seq ?_
          refine wp_seq ?_
          refine wp_region ?_
          rw [n2, wpOps_cons]
          refine stepOp_ok C F0_sound at20 (s20 b off h) A2 R2 fun a3 w3 ⟨μ3, A3, R3, E3, N3⟩ => ?_
          rw [wpOps_cons]
          refine stepOp_ok C F0_sound at21 (s21 b off h) A3 R3 fun a4 w4 ⟨μ4, A4, R4, E4, N4⟩ => ?_
          rw [wpOps_cons]
          refine stepOp_ok C F0_sound at22 (s22 b off h) A4 R4 fun a5 w5 ⟨μ5, A5, R5, E5, N5⟩ => ?_
          rw [wpOps_cons]
          refine stepOp_ok C F0_sound at23 (s23 b off h hld) A5 R5 fun a6 w6 ⟨μ6, A6, R6, E6, N6⟩ => ?_
          have E06 : Ext h.n μ μ6 := ((((E1.trans E2 (Nat.le_refl _)).trans E3 (Nat.le_refl _)).trans E4 (Nat.le_refl _)).trans E5 (Nat.le_refl _)).trans E6 (Nat.le_refl _)
          -- the map
          have h11 := tmp_eval A6 11
          simp only [slot_put, if_true] at h11
          generalize hy : a6.eval (.tmp 11) = y at h11
          cases h11 with
          | map hmμ =>
            rename_i mi
            obtain ⟨arr, r1, r2, r3⟩ := R6.ob m mi _ hmμ hob
            have hrb := (Array.getElem?_eq_some_iff.1 r1).1
            have hborn := r3.borns
            have hnd : (arr.toList.map (·.born)).Nodup := by rw [hborn]; exact st2
            have hold : ∀ x ∈ arr.toList, x.born < cl := fun x hx => by
              have : x.born ∈ arr.toList.map (·.born) := List.mem_map_of_mem hx
              rw [hborn] at this
              obtain ⟨e0, he0, he1⟩ := List.mem_map.1 this
              rw [← he1]; exact st1 e0 he0
            obtain ⟨hU, hD, hval⟩ := upDown_ok r3 hud
            rw [wpOps_cons]
            refine by_hand at24 w24 (v := .pointer (some ⟨w6.heap.size, 0, none⟩)) (w' := w6.alloc (.mapIter (some mi.rb) cl #[] cl)) (by rw [x24, hy]; simp only [Sem.run_bind, run_range_map w6 48 9 2 mi.rb arr cl hu r1, Result.andThen_ok, Sem.run_pure]) ?_
            rw [d24]
            show (Code.block 0 _).wp _ _ _ _
            have hfr : μ6 h.n = none := R6.fresh (Nat.le_refl _)
            have hsl := A6.mono (Mu.le_set (i := ⟨w6.heap.size, 0, 0, 0, 0⟩) hfr)
            have A7 := normed (H' := ⟨h.n + 1, .nil⟩) (ActR.hand hsl (d := 12) (by omega) (v := .pointer (some ⟨h.n, 0, none⟩)) (v' := .pointer (some ⟨w6.heap.size, 0, none⟩)) (.ptr 0 (Mu.set_eq _ _ _)))
            have hkeys : ∀ (es : List (Value × Value × Nat)) (r : List MapEntry), EntR μ6 es r → ∀ e ∈ r, ∃ k, VR μ6 k e.key := by
              intro es
              induction es with
              | nil => intro r hr e he; cases r with
                | nil => simp at he
                | cons _ _ => exact hr.elim
              | cons x es ih =>
                obtain ⟨a, v, bb⟩ := x
                intro r hr e he
                cases r with
                | nil => exact hr.elim
                | cons y r =>
                  obtain ⟨q1, q2, q3, q4⟩ := hr
                  rcases List.mem_cons.1 he with rfl | he
                  · exact ⟨_, q1⟩
                  · exact ih r q4 e he
            have hle := Mu.le_set (i := ⟨w6.heap.size, 0, 0, 0, 0⟩) hfr
            have hl0 : (leftOf arr #[]).toList = arr.toList := by
              simp only [leftOf, Array.toList_filter]
              exact List.filter_eq_self.2 fun x _ => by simp
            refine loop_wp (W1 := w6) (h1 := h.n) (rbm := mi.rb) (cl := cl) (arr := arr) (U := U) (D := D) hnd hold hval hrb
              ⟨μ6.set h.n ⟨w6.heap.size, 0, 0, 0, 0⟩, _, #[], 0, 0, A7, ?_, ?_, ?_, Mu.set_eq _ _ _, ?_, (Below.refl _ _).alloc (Nat.le_refl _) _, heap_new w6 _, ?_, fun e he => let ⟨k, hk⟩ := hkeys es _ r3 e he; ⟨k, hk.mono hle⟩, by rw [hl0, hU]; simp, by rw [hl0, hD]; simp, by decide, by decide⟩
              fun a8 w8 μ8 x8 A8 g4 g5 D8 B8 => ?_
            · simp only [T3, T2, slot_put]; simp [z0]
            · simp only [T3, T2, slot_put]; simp [z0]
            · simp only [slot_put]; simp
            · intro c i hc
              unfold Mu.set at hc
              split at hc
              · omega
              · exact Nat.lt_succ_of_lt (R6.dom c i hc)
            · rw [show (w6.alloc (.mapIter (some mi.rb) cl #[] cl)).heap[mi.rb]? = w6.heap[mi.rb]? from Below.heap_alloc _ _ _ hrb]; exact r1
            · show (Code.seq _ _).wp _ _ a8 w8
              have gl : lst x8 = lstW x8 (wr .i64 U) (wr .i64 D) := by unfold lst lstW; rw [g4, g5]
              rw [gl] at A8
              refine code_ok C hm F0_sound 0 _ _ _ _ (ev8 x8 _ _ _) w8 μ8 _ w8 A8 (bare D8) _ fun a9 w9 ⟨μ9, A9, R9, E9, N9⟩ => ?_
              obtain ⟨_, v1, y1, y2⟩ := out_ok C Try.f11 (a := a9) A9.tmp R9 (out8 x8 (wr .i64 U) (wr .i64 D) _)
              have hdf := A9.dfr
              have hd0 : a9.defers = [] := by
                cases hdd : a9.defers with
                | nil => rfl
                | cons d l => rw [hdd] at hdf; exact hdf.elim
              refine ⟨hd0, v1, y1, v1, rfl, μ6, ?_, R6.later ((B8).trans (R9.below.mono B8.size)), E06, Nat.le_refl _⟩
              cases y2 with
              | tuple q =>
                cases q with
                | cons q1 q2 =>
                  cases q2 with
                  | cons q2 q3 => cases q3; cases q1; cases q2; exact .tuple (.cons (.int _ _) (.cons (.int _ _) .nil))
        · cases e
      · cases e
    · cases e
  · cases e
end Go.EvM.TryTrial
