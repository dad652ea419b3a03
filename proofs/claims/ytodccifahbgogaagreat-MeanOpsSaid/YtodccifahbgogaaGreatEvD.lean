/- MDel: maps.DeleteFunc, at this dump. -/
import Derived.Test.YtodccifahbgogaaGreatEvC
import Derived.Test.YtodccifahbgogaaGreatProg
import Derived.KernelRfl
import Derived.Shelf.SlIter.Nil
import Derived.Shelf.SortM.Plain
import Derived.Shelf.SortM.SortNone
import Derived.Ground.GgzProg
import Derived.Ground.SlgmProg
set_option linter.unusedVariables false
set_option linter.unusedSectionVars false
set_option linter.unusedSimpArgs false
namespace Go.EvM.MDel
open Go.RowKit Go.Proofs
open Go.ChangeMaps (setBlock)
set_option linter.unusedVariables false
instance unk : Unk := ⟨[]⟩
instance gls : GLs := { tab := fun _ => none, plain := fun _ _ h => by cases h }
theorem gl_ok (w : World) : GlOk w := fun _ _ h => by cases h
noncomputable def cx : Cx := mkCx Tryz.prog [] fun _ => none
theorem C : CxOk Tryz.prog cx := cx_ok (by kernel_rfl) rfl
theorem hm : Tryz.prog.follows .mixedOrders = true := by kernel_rfl
theorem hf : Tryz.prog.funcs[63]? = some Tryz.f63 := by kernel_rfl
noncomputable def bd : Code := Tryz.f63.body.getD .skip
noncomputable def o (k : Nat) : Array Oper := regOps bd k
noncomputable def body : Code := .seq (.region 1 (o 1) false) (.seq (.cond (.tmp 9) .skip (.exit 0)) (.block 1 (.seq (.region 2 (o 2) false) (.seq (.region 3 (o 3) false) (.cond (.tmp 16) (.region 4 (o 4) false) .skip)))))
theorem shape : Tryz.f63.body = some (.seq (.region 0 (o 0) false) (.block 0 (.loop body))) := by kernel_rfl
def lst (x : Nat → Value) : List Value := [x 0, x 1, x 2, x 3, x 4, x 5, x 6, x 7, x 8, x 9, x 10, x 11, x 12, x 13, x 14, x 15, x 16, x 17, x 18]
theorem lst_eq (x : Nat → Value) : lstN 19 x = lst x := rfl
theorem n0 : List.range (o 0).size = [0, 1] := by kernel_rfl
theorem n1 : List.range (o 1).size = [0, 1] := by kernel_rfl
theorem n2 : List.range (o 2).size = [0, 1, 2, 3, 4] := by kernel_rfl
theorem n3 : List.range (o 3).size = [0, 1, 2, 3] := by kernel_rfl
theorem n4 : List.range (o 4).size = [0, 1, 2] := by kernel_rfl
theorem at00 : (o 0)[0]? = some (opAt (o 0) 0) := by kernel_rfl
theorem at01 : (o 0)[1]? = some (opAt (o 0) 1) := by kernel_rfl
theorem at10 : (o 1)[0]? = some (opAt (o 1) 0) := by kernel_rfl
theorem at11 : (o 1)[1]? = some (opAt (o 1) 1) := by kernel_rfl
theorem at20 : (o 2)[0]? = some (opAt (o 2) 0) := by kernel_rfl
theorem at21 : (o 2)[1]? = some (opAt (o 2) 1) := by kernel_rfl
theorem at22 : (o 2)[2]? = some (opAt (o 2) 2) := by kernel_rfl
theorem at23 : (o 2)[3]? = some (opAt (o 2) 3) := by kernel_rfl
theorem at24 : (o 2)[4]? = some (opAt (o 2) 4) := by kernel_rfl
theorem at30 : (o 3)[0]? = some (opAt (o 3) 0) := by kernel_rfl
theorem at31 : (o 3)[1]? = some (opAt (o 3) 1) := by kernel_rfl
theorem at32 : (o 3)[2]? = some (opAt (o 3) 2) := by kernel_rfl
theorem at33 : (o 3)[3]? = some (opAt (o 3) 3) := by kernel_rfl
theorem at40 : (o 4)[0]? = some (opAt (o 4) 0) := by kernel_rfl
theorem at41 : (o 4)[1]? = some (opAt (o 4) 1) := by kernel_rfl
theorem at42 : (o 4)[2]? = some (opAt (o 4) 2) := by kernel_rfl
def Mv (k i d : Nat) (x : Nat → Value) (v : Value) : Prop := ∀ h : Nat, stepOp cx F0 (o k).toList (opAt (o k) i) ⟨19, Tr.ofL (lst x), [], ⟨h, .nil⟩⟩ = .ok ⟨19, (Tr.ofL (lst x)).put d v, [], ⟨h, .nil⟩⟩
theorem s00 (x : Nat → Value) : Mv 0 0 6 x (x 0) := by intro h; kernel_rfl
def lst8 (x : Nat → Value) (b : Bool) (l : List Value) : List Value := [x 0, x 1, x 2, x 3, x 4, x 5, x 6, x 7, .tuple ⟨.bool b :: l⟩, x 9, x 10, x 11, x 12, x 13, x 14, x 15, x 16, x 17, x 18]
theorem s11 (x : Nat → Value) (b : Bool) (l : List Value) (h8 : x 8 = .tuple ⟨.bool b :: l⟩) : Mv 1 1 9 x (.bool b) := by
  intro h
  have : ∀ y : Nat → Value, stepOp cx F0 (o 1).toList (opAt (o 1) 1) ⟨19, Tr.ofL (lst8 y b l), [], ⟨h, .nil⟩⟩ = .ok ⟨19, (Tr.ofL (lst8 y b l)).put 9 (.bool b), [], ⟨h, .nil⟩⟩ := fun y => by kernel_rfl
  have hl : lst x = lst8 x b l := by unfold lst lst8; rw [h8]
  rw [hl]; exact this x
def lst10 (x : Nat → Value) (k v : Value) : List Value := [x 0, x 1, x 2, x 3, x 4, x 5, x 6, x 7, x 8, x 9, .tuple ⟨[k, v]⟩, x 11, x 12, x 13, x 14, x 15, x 16, x 17, x 18]
theorem s21 (x : Nat → Value) (k v : Value) (h10 : x 10 = .tuple ⟨[k, v]⟩) : Mv 2 1 11 x k := by
  intro h
  have : ∀ y : Nat → Value, stepOp cx F0 (o 2).toList (opAt (o 2) 1) ⟨19, Tr.ofL (lst10 y k v), [], ⟨h, .nil⟩⟩ = .ok ⟨19, (Tr.ofL (lst10 y k v)).put 11 k, [], ⟨h, .nil⟩⟩ := fun y => by kernel_rfl
  have hl : lst x = lst10 x k v := by unfold lst lst10; rw [h10]
  rw [hl]; exact this x
theorem s22 (x : Nat → Value) (k v : Value) (h10 : x 10 = .tuple ⟨[k, v]⟩) : Mv 2 2 12 x v := by
  intro h
  have : ∀ y : Nat → Value, stepOp cx F0 (o 2).toList (opAt (o 2) 2) ⟨19, Tr.ofL (lst10 y k v), [], ⟨h, .nil⟩⟩ = .ok ⟨19, (Tr.ofL (lst10 y k v)).put 12 v, [], ⟨h, .nil⟩⟩ := fun y => by kernel_rfl
  have hl : lst x = lst10 x k v := by unfold lst lst10; rw [h10]
  rw [hl]; exact this x
theorem s23 (x : Nat → Value) : Mv 2 3 4 x (x 11) := by intro h; kernel_rfl
theorem s24 (x : Nat → Value) : Mv 2 4 5 x (x 12) := by intro h; kernel_rfl
theorem s30 (x : Nat → Value) : Mv 3 0 13 x (x 1) := by intro h; kernel_rfl
theorem s31 (x : Nat → Value) : Mv 3 1 14 x (x 4) := by intro h; kernel_rfl
theorem s32 (x : Nat → Value) : Mv 3 2 15 x (x 5) := by intro h; kernel_rfl
theorem s40 (x : Nat → Value) : Mv 4 0 17 x (x 0) := by intro h; kernel_rfl
theorem s41 (x : Nat → Value) : Mv 4 1 18 x (x 4) := by intro h; kernel_rfl
theorem w01 (y : Nat → Option Bool) : Region.wanted (opAt (o 0) 1) y = true := by kernel_rfl
theorem w10 (y : Nat → Option Bool) : Region.wanted (opAt (o 1) 0) y = true := by kernel_rfl
theorem w20 (y : Nat → Option Bool) : Region.wanted (opAt (o 2) 0) y = true := by kernel_rfl
theorem w33 (y : Nat → Option Bool) : Region.wanted (opAt (o 3) 3) y = true := by kernel_rfl
theorem w42 (y : Nat → Option Bool) : Region.wanted (opAt (o 4) 2) y = true := by kernel_rfl
theorem x01 (ρ : Operand → Value) : execOp ρ (opAt (o 0) 1) = (do pure (Next.value (← Instr.range 87 (ρ (.tmp 6))))) := by kernel_rfl
theorem x10 (ρ : Operand → Value) : execOp ρ (opAt (o 1) 0) = (do pure (Next.value (← Instr.next (ρ (.tmp 7)) false 0))) := by kernel_rfl
theorem x20 (ρ : Operand → Value) : execOp ρ (opAt (o 2) 0) = (do pure (Next.value (← Instr.entry (ρ (.tmp 7))))) := by kernel_rfl
theorem c33 : (opAt (o 3) 3).op = .call { callee := .value (.tmp 13), args := #[.tmp 14, .tmp 15], argTypes := #[9, 4] } := by kernel_rfl
theorem c42 : (opAt (o 4) 2).op = .call { callee := .builtin .delete, args := #[.tmp 17, .tmp 18], argTypes := #[87, 9] } := by kernel_rfl
theorem d01 : (opAt (o 0) 1).dst = some 7 := by kernel_rfl
theorem d10 : (opAt (o 1) 0).dst = some 8 := by kernel_rfl
theorem d20 : (opAt (o 2) 0).dst = some 10 := by kernel_rfl
theorem d33 : (opAt (o 3) 3).dst = some 16 := by kernel_rfl
theorem d42 : (opAt (o 4) 2).dst = none := by kernel_rfl
theorem t42 : (opAt (o 4) 2).type = 0 := by kernel_rfl
theorem hu : Tryz.prog.underlying 87 = some (.map 9 4) := by kernel_rfl
theorem hu9 : Tryz.prog.underlying 9 = some .string := by kernel_rfl
theorem mv {k i d : Nat} {x : Nat → Value} {v : Value} (hi : (o k)[i]? = some (opAt (o k) i)) (e : Mv k i d x v) {h : Nat} {μ : Mu} {a : Act} {w : World} (hA : ActR μ ⟨19, Tr.ofL (lstN 19 x), [], ⟨h, .nil⟩⟩ a) (hd : ∀ b i, μ b = some i → b < h)
    {Q : Exit → Act → World → Prop} {K : Act → World → Prop} (hk : ∀ a' w' μ', ActR μ' ⟨19, Tr.ofL (lstN 19 (upd x d v)), [], ⟨h, .nil⟩⟩ a' → (∀ b i, μ' b = some i → b < h) → Le μ μ' → (∀ b i, μ' b = some i → μ b = some i) → Below w.heap.size w w' → K a' w') : wpOp Tryz.prog (o k) Q i K a w :=
  step_mv C (gl_ok _) hi (by rw [lst_eq]; exact e h) hA hd hk
def left (rb : Nat) (arr : Array MapEntry) (w : World) : Nat := match w.heap[rb]? with | some (.mapIter _ _ seen _) => (leftOf arr seen).size | _ => 0
structure LI (W1 : World) (h1 rbm cl : Nat) (arr : Array MapEntry) (p : Value → Bool) (μ0 : Mu) (xb xf : Value) (a : Act) (w : World) : Prop where
  ex : ∃ (μ : Mu) (x : Nat → Value) (seen : Array Nat) (arr' : Array MapEntry), ActR μ ⟨19, Tr.ofL (lstN 19 x), [], ⟨h1 + 1, .nil⟩⟩ a ∧ x 0 = xb ∧ x 1 = xf ∧ x 7 = .pointer (some ⟨h1, 0, none⟩) ∧
    μ h1 = some ⟨W1.heap.size, 0, 0, 0, 0, default⟩ ∧ (∀ b i, μ b = some i → b < h1 + 1) ∧ Le μ0 μ ∧ (∀ b i, μ b = some i → μ0 b = some i ∨ b = h1) ∧ But rbm W1 w ∧ w.heap[W1.heap.size]? = some (.mapIter (some rbm) cl seen cl) ∧ w.heap[rbm]? = some (.map arr' cl) ∧
    arr'.toList = arr.toList.filter (fun e => !(seen.contains e.born && p e.key))
theorem setBlock_below (w : World) (r : Nat) (ob : Obj) : Below r w (setBlock w r ob) :=
  ⟨rfl, rfl, rfl, by simp [setBlock], fun k hk => by simp only [setBlock]; exact Array.getElem?_setIfInBounds_ne (by omega)⟩
theorem but_below {rb : Nat} {a b c : World} (h : But rb a b) (ha : a.heap.size ≤ b.heap.size) (k : Below a.heap.size b c) (hrb : rb < a.heap.size) : But rb a c :=
  ⟨k.os.trans h.os, k.tape.trans h.tape, k.output.trans h.output, Nat.le_trans h.size k.size, fun n hn hne => (k.block n hn).trans (h.block n hn hne)⟩
theorem seen_born {arr : Array MapEntry} (hnd : (arr.toList.map (·.born)).Nodup) {x e : MapEntry} (hx : x ∈ arr.toList) (he : e ∈ arr.toList) (h : x.born = e.born) : x = e := by
  generalize arr.toList = l at *
  induction l with
  | nil => simp at hx
  | cons y l ih =>
    rw [List.map_cons, List.nodup_cons] at hnd
    rcases List.mem_cons.1 hx with qa | qa <;> rcases List.mem_cons.1 he with qb | qb
    · rw [qa, qb]
    · exact absurd (by rw [← qa, h]; exact List.mem_map_of_mem qb) hnd.1
    · exact absurd (by rw [← qb, ← h]; exact List.mem_map_of_mem qa) hnd.1
    · exact ih hnd.2 qa qb
theorem kstr {μ : Mu} {k a : Value} {s : KS} (h : VR μ k a) (hk : kSh k = some s) : a = k := kSh_eq h hk
set_option maxRecDepth 100000 in
theorem loop_wp {callf : Caller} (hcf : CallSound Tryz.prog callf) {W0 W1 : World} {h : Hp} {b rbm cl g : Nat} {mi : BI} {arr : Array MapEntry} {p : Value → Bool} {μ0 : Mu} {fi ca : List Value} {es : List (Value × Value)}
    (R0 : Rel W0 μ0 h W1) (hmi : μ0 b = some mi) (hob : h.b.get b = some (.map es)) (hrbm : mi.rb = rbm) (hm1 : W1.heap[rbm]? = some (.map arr cl)) (hM : MapR μ0 es arr cl)
    (hp : ∀ e ∈ es, ∃ h', callf g (fi ++ (e.1 :: e.2 :: ca)) ⟨Nat.succ h.n, (roTr h.b).del h.n⟩ = .ok (.bool (p e.1)) h') (hks : ∀ e ∈ es, kSh e.1 = some .kS)
    {a : Act} {w : World} (I : LI W1 h.n rbm cl arr p μ0 (.map (some b)) (.func (.func g) ⟨fi⟩ ⟨ca⟩) a w) {Q : Exit → Act → World → Prop}
    (hQ : ∀ (a : Act) (w : World) (μ : Mu) (x : Nat → Value) (arr' : Array MapEntry), ActR μ ⟨19, Tr.ofL (lstN 19 x), [], ⟨h.n + 1, .nil⟩⟩ a → But rbm W1 w → w.heap[rbm]? = some (.map arr' cl) → arr'.toList = arr.toList.filter (fun e => !(p e.key)) → Q .normal a w) :
    (Code.block 0 (.loop body)).wp Tryz.prog Q a w := by
  have hrb1 : rbm < W1.heap.size := (Array.getElem?_eq_some_iff.1 hm1).1
  have hnd := hM.once
  refine wp_block ?_
  refine wp_loop (fun a w => LI W1 h.n rbm cl arr p μ0 (.map (some b)) (.func (.func g) ⟨fi⟩ ⟨ca⟩) a w) (fun _ w => left W1.heap.size arr w) I ?_
  clear I a w
  intro a w ⟨μ, x, seen, arr', A, x0, x1, x7, hg, hd, hle, hnew, hB, hit, hmap, harr⟩
  have hrb : W1.heap.size < w.heap.size := (Array.getElem?_eq_some_iff.1 hit).1
  have hleft : left W1.heap.size arr w = (leftOf arr seen).size := by unfold left; rw [hit]
  have hsub : ∀ z ∈ arr'.toList, z ∈ arr.toList := fun z hz => by rw [harr] at hz; exact (List.mem_filter.1 hz).1
  have hold : ∀ z ∈ arr'.toList, z.born < cl := fun z hz => hM.born z (hsub z hz)
  have hnd' : (arr'.toList.map (·.born)).Nodup := by rw [harr]; exact hnd.sublist (List.filter_sublist.map _)
  have e7 : a.eval (.tmp 7) = .pointer (some ⟨W1.heap.size, 0, none⟩) := by
    have := A.atN (t := 7) (by omega)
    rw [x7] at this
    generalize a.eval (.tmp 7) = y at this
    cases this with
    | ptr _ hb => rw [hg] at hb; cases hb; rfl
  unfold body
  refine wp_seq ?_
  refine wp_region ?_
  rw [n1, wpOps_cons]
  rcases run_next_at (P := Tryz.prog) w 0 W1.heap.size rbm cl cl seen arr' cl hit hmap hold (Nat.le_refl _) with ⟨h0, hrun⟩ | ⟨e, he, w1, hw1, hrun⟩
  · refine by_hand at10 w10 (v := .tuple #[.bool false]) (w' := w) (by rw [x10, e7]; simp only [Sem.run_bind, hrun, Result.andThen_ok, Sem.run_pure]) ?_
    rw [d10, wpOps_cons]
    have A1 := A.handN (H' := ⟨h.n + 1, .nil⟩) (d := 8) (by omega) (v := .tuple ⟨[.bool false]⟩) (v' := .tuple #[.bool false]) (.tuple (.cons (.bool false) .nil))
    refine mv at11 (s11 _ false [] (by simp [upd])) A1 hd fun a2 w2 μ2 A2 d2 L2 N2 B2 => ?_
    show (Code.seq _ _).wp _ _ a2 w2
    refine wp_seq ?_
    have e9 : a2.eval (.tmp 9) = .bool false := by
      have := A2.atN (t := 9) (by omega)
      simp only [upd, if_true] at this
      generalize a2.eval (.tmp 9) = y at this
      cases this; rfl
    refine wp_cond_false e9 (wp_exit ?_)
    show if 0 = 0 then Q .normal a2 w2 else Q (.exit 0) a2 w2
    rw [if_pos rfl]
    have hnil : (leftOf arr' seen).toList = [] := List.length_eq_zero_iff.1 (by simpa using h0)
    refine hQ a2 w2 μ2 _ arr' A2 (hB.trans B2) ((B2.block _ (by omega)).trans hmap) ?_
    rw [harr]
    refine List.filter_congr fun z hz => ?_
    have hs : seen.contains z.born = true := by
      cases hc : seen.contains z.born with
      | true => rfl
      | false =>
        have hz' : z ∈ arr'.toList := by rw [harr]; exact List.mem_filter.2 ⟨hz, by rw [hc]; rfl⟩
        have : z ∈ (leftOf arr' seen).toList := by
          simp only [leftOf, Array.toList_filter]; exact List.mem_filter.2 ⟨hz', by rw [hc]; rfl⟩
        rw [hnil] at this; simp at this
    rw [hs, Bool.true_and]
  · obtain ⟨he1, he2⟩ := mem_left he
    have hea := hsub e he1
    obtain ⟨l, hl1, hl2⟩ := hM.ent
    obtain ⟨⟨k, v⟩, hkv, hvk, hvv⟩ := hl2.mem (hl1.mem_iff.2 hea)
    have hek : e.key = k := kSh_eq hvk (hks _ hkv)
    generalize hw' : setBlock w1 W1.heap.size (.mapIter (some rbm) cl (seen.push e.born) cl) = w'
    rw [hw'] at hrun
    refine by_hand at10 w10 (v := .tuple #[.bool true, e.key, e.val]) (w' := w') (by rw [x10, e7]; simp only [Sem.run_bind, hrun, Result.andThen_ok, Sem.run_pure]) ?_
    have hsz1 : w1.heap = w.heap := by rcases hw1 with rfl | rfl <;> rfl
    have hit' : w'.heap[W1.heap.size]? = some (.mapIter (some rbm) cl (seen.push e.born) cl) := by rw [← hw']; simp [setBlock, hsz1, hrb]
    have hmap' : w'.heap[rbm]? = some (.map arr' cl) := by
      rw [← hw']; simp only [setBlock]; rw [Array.getElem?_setIfInBounds_ne (by omega), hsz1]; exact hmap
    have hB' : But rbm W1 w' := by
      rw [← hw']
      have : But rbm W1 w1 := by
        rcases hw1 with rfl | rfl
        · exact hB
        · exact hB.trans (Below.refl _ _).drew
      exact but_below this (by rw [hsz1]; omega) (setBlock_below w1 _ _) hrb1
    have hrb' : W1.heap.size < w'.heap.size := (Array.getElem?_eq_some_iff.1 hit').1
    rw [d10, wpOps_cons]
    have A1 := A.handN (H' := ⟨h.n + 1, .nil⟩) (d := 8) (by omega) (v := .tuple ⟨[.bool true, k, v]⟩) (v' := .tuple #[.bool true, e.key, e.val]) (.tuple (.cons (.bool true) (.cons (hvk.mono hle) (.cons (hvv.mono hle) .nil))))
    refine mv at11 (s11 _ true [k, v] (by simp [upd])) A1 hd fun a2 w2 μ2 A2 d2 L2 N2 B2 => ?_
    show (Code.seq _ _).wp _ _ a2 w2
    refine wp_seq ?_
    have e9 : a2.eval (.tmp 9) = .bool true := by
      have := A2.atN (t := 9) (by omega)
      simp only [upd, if_true] at this
      generalize a2.eval (.tmp 9) = y at this
      cases this; rfl
    refine wp_cond_true e9 (wp_skip ?_)
    show (Code.block 1 _).wp _ _ a2 w2
    refine wp_block ?_
    refine wp_seq ?_
    refine wp_region ?_
    rw [n2, wpOps_cons]
    have hit2 : w2.heap[W1.heap.size]? = some (.mapIter (some rbm) cl (seen.push e.born) cl) := (B2.block _ hrb').trans hit'
    have hmap2 : w2.heap[rbm]? = some (.map arr' cl) := (B2.block _ (by omega)).trans hmap'
    have e72 : a2.eval (.tmp 7) = .pointer (some ⟨W1.heap.size, 0, none⟩) := by
      have := A2.atN (t := 7) (by omega)
      simp only [upd] at this
      rw [if_neg (by omega), if_neg (by omega), x7] at this
      generalize a2.eval (.tmp 7) = y at this
      cases this with
      | ptr _ hb => rw [L2 _ _ hg] at hb; cases hb; rfl
    have hent := run_entry_at (P := Tryz.prog) w2 W1.heap.size rbm cl seen arr' cl e hit2 hmap2 he1 hnd'
    refine by_hand at20 w20 (v := .tuple #[e.key, e.val]) (w' := w2) (by rw [x20, e72]; simp only [Sem.run_bind, hent, Result.andThen_ok, Sem.run_pure]) ?_
    rw [d20, wpOps_cons]
    have l2 : Le μ0 μ2 := hle.trans L2
    have A3 := A2.handN (H' := ⟨h.n + 1, .nil⟩) (d := 10) (by omega) (v := .tuple ⟨[k, v]⟩) (v' := .tuple #[e.key, e.val]) (.tuple (.cons (hvk.mono l2) (.cons (hvv.mono l2) .nil)))
    refine mv at21 (s21 _ k v (by simp [upd])) A3 d2 fun a4 w4 μ4 A4 d4 L4 N4 B4 => ?_
    rw [wpOps_cons]
    refine mv at22 (s22 _ k v (by simp [upd])) A4 d4 fun a5 w5 μ5 A5 d5 L5 N5 B5 => ?_
    rw [wpOps_cons]
    refine mv at23 (s23 _) A5 d5 fun a6 w6 μ6 A6 d6 L6 N6 B6 => ?_
    rw [wpOps_cons]
    refine mv at24 (s24 _) A6 d6 fun a7 w7 μ7 A7 d7 L7 N7 B7 => ?_
    show (Code.seq _ _).wp _ _ a7 w7
    refine wp_seq ?_
    refine wp_region ?_
    rw [n3, wpOps_cons]
    refine mv at30 (s30 _) A7 d7 fun a8 w8 μ8 A8 d8 L8 N8 B8 => ?_
    rw [wpOps_cons]
    refine mv at31 (s31 _) A8 d8 fun a9 w9 μ9 A9 d9 L9 N9 B9 => ?_
    rw [wpOps_cons]
    refine mv at32 (s32 _) A9 d9 fun aa wa μa Aa da La Na Ba => ?_
    rw [wpOps_cons]
    have B29 : Below w2.heap.size w2 wa := (((((((B4.trans (B5.mono B4.size)).trans (B6.mono (B4.trans (B5.mono B4.size)).size)).trans (B7.mono ((B4.trans (B5.mono B4.size)).trans (B6.mono (B4.trans (B5.mono B4.size)).size)).size))).trans
      (B8.mono (((B4.trans (B5.mono B4.size)).trans (B6.mono (B4.trans (B5.mono B4.size)).size)).trans (B7.mono ((B4.trans (B5.mono B4.size)).trans (B6.mono (B4.trans (B5.mono B4.size)).size)).size)).size))).trans
      (B9.mono (by
        have q1 := B4.size; have q2 := B5.size; have q3 := B6.size; have q4 := B7.size; have q5 := B8.size
        omega))).trans (Ba.mono (by
        have q1 := B4.size; have q2 := B5.size; have q3 := B6.size; have q4 := B7.size; have q5 := B8.size; have q6 := B9.size
        omega))
    have L2a : Le μ2 μa := (((((L4.trans L5).trans L6).trans L7).trans L8).trans L9).trans La
    have N2a : ∀ b i, μa b = some i → μ2 b = some i := fun b i q => N4 _ _ (N5 _ _ (N6 _ _ (N7 _ _ (N8 _ _ (N9 _ _ (Na _ _ q))))))
    have Ba' : Below w'.heap.size w' wa := B2.trans (B29.mono B2.size)
    have hBa : But rbm W1 wa := hB'.trans Ba'
    have hita : wa.heap[W1.heap.size]? = some (.mapIter (some rbm) cl (seen.push e.born) cl) := (Ba'.block _ hrb').trans hit'
    have hmapa : wa.heap[rbm]? = some (.map arr' cl) := (Ba'.block _ (by omega)).trans hmap'
    have la : Le μ0 μa := l2.trans L2a
    have hnewa : ∀ b i, μa b = some i → μ0 b = some i ∨ b = h.n := fun b i q => hnew b i (N2 _ _ (N2a _ _ q))
    have f13 := Aa.atN (t := 13) (by omega)
    have f14 := Aa.atN (t := 14) (by omega)
    have f15 := Aa.atN (t := 15) (by omega)
    simp only [upd] at f13 f14 f15
    simp at f13 f14 f15
    rw [x1] at f13
    generalize hy : aa.eval (.tmp 13) = y at f13
    cases f13 with
    | func _ hfi hca =>
      rename_i fi' ca'
      obtain ⟨h'', hcall⟩ := hp _ hkv
      subst hrbm
      have hR := R0.ro1 hmi hob hBa la da hnewa
      have hnx := hcf g _ _ _ _ hcall wa μa wa (fi' ++ (aa.eval (.tmp 14) :: aa.eval (.tmp 15) :: ca')) (hfi.append (.cons f14 (.cons f15 hca))) hR
      refine by_call at33 w33 (R := After wa μa ⟨Nat.succ h.n, (roTr h.b).del h.n⟩ (.bool (p k)) h'') ?_ fun v1 w1' hR1 => ?_
      · have hex : execOp aa.eval (opAt (o 3) 3) = callFunc g (((⟨fi'⟩ : Array Value) ++ #[aa.eval (.tmp 14), aa.eval (.tmp 15)]) ++ ⟨ca'⟩) := by
          simp only [execOp, c33, resolve, hy, Deferred.ofValue, pure_bind, invoke]
          rw [arrMap]
          rfl
        rw [hex]
        have harr2 : (((⟨fi'⟩ : Array Value) ++ #[aa.eval (.tmp 14), aa.eval (.tmp 15)]) ++ ⟨ca'⟩) = (fi' ++ (aa.eval (.tmp 14) :: aa.eval (.tmp 15) :: ca')).toArray := by
          apply Array.ext'; simp
        rw [harr2]; exact hnx
      · obtain ⟨μb, q1, q2, q3, q4⟩ := hR1
        have hv1 : v1 = .bool (p k) := by cases q1; rfl
        subst hv1
        have Bb := q2.below
        rw [d33]
        have Ab := Aa.handN (H' := ⟨h.n + 1, .nil⟩) (d := 16) (by omega) (v := .bool (p k)) (v' := .bool (p k)) (.bool _)
        show (Code.cond _ _ _).wp _ _ _ w1'
        have e16 : (aa.put (some 16) (.bool (p k))).eval (.tmp 16) = .bool (p k) := by
          have := Ab.atN (t := 16) (by omega)
          simp only [upd, if_true] at this
          generalize (aa.put (some 16) (.bool (p k))).eval (.tmp 16) = y at this
          cases this; rfl
        have hBb : But mi.rb W1 w1' := hBa.trans Bb
        have hrba : W1.heap.size < wa.heap.size := (Array.getElem?_eq_some_iff.1 hita).1
        have hitb : w1'.heap[W1.heap.size]? = some (.mapIter (some mi.rb) cl (seen.push e.born) cl) := (Bb.block _ hrba).trans hita
        have hmapb : w1'.heap[mi.rb]? = some (.map arr' cl) := (Bb.block _ (by omega)).trans hmapa
        have hel : e ∈ (leftOf arr seen).toList := by
          simp only [leftOf, Array.toList_filter]
          exact List.mem_filter.2 ⟨hea, by rw [he2]; rfl⟩
        have hmeas : ∀ W2 : World, W2.heap[W1.heap.size]? = some (.mapIter (some mi.rb) cl (seen.push e.born) cl) → left W1.heap.size arr W2 < left W1.heap.size arr w := fun W2 hW2 => by
          rw [hleft]; unfold left; rw [hW2]; exact left_shrinks arr seen e hel
        cases hpk : p k with
        | false =>
          rw [hpk] at e16 Ab
          refine wp_cond_false e16 (wp_skip ?_)
          refine ⟨⟨μa, _, seen.push e.born, arr', Ab, ?_, ?_, ?_, L2a _ _ (L2 _ _ hg), da, la, hnewa, hBb, hitb, hmapb, ?_⟩, hmeas _ hitb⟩
          · simp only [upd]; simp [x0]
          · simp only [upd]; simp [x1]
          · simp only [upd]; simp [x7]
          · rw [harr]
            refine List.filter_congr fun z hz => ?_
            rw [contains_push]
            by_cases hzb : z.born = e.born
            · have hze := seen_born hnd hz hea hzb
              subst hze
              rw [hek, hpk]; simp
            · have : (z.born == e.born) = false := by simpa using hzb
              rw [this, Bool.or_false]
        | true =>
          rw [hpk] at e16 Ab
          refine wp_cond_true e16 ?_
          refine wp_region ?_
          rw [n4, wpOps_cons]
          refine mv at40 (s40 _) Ab da fun ac wc μc Ac dc Lc Nc Bc => ?_
          rw [wpOps_cons]
          refine mv at41 (s41 _) Ac dc fun ad wd μd Ad dd Ld Nd Bd => ?_
          rw [wpOps_cons]
          have Bcd : Below w1'.heap.size w1' wd := Bc.trans (Bd.mono Bc.size)
          have hrbb : W1.heap.size < w1'.heap.size := (Array.getElem?_eq_some_iff.1 hitb).1
          have hitd : wd.heap[W1.heap.size]? = some (.mapIter (some mi.rb) cl (seen.push e.born) cl) := (Bcd.block _ hrbb).trans hitb
          have hmapd : wd.heap[mi.rb]? = some (.map arr' cl) := (Bcd.block _ (by omega)).trans hmapb
          have hBd : But mi.rb W1 wd := hBb.trans Bcd
          have lad : Le μa μd := Lc.trans Ld
          have f17 := Ad.atN (t := 17) (by omega)
          have f18 := Ad.atN (t := 18) (by omega)
          simp only [upd] at f17 f18
          simp at f17 f18
          rw [x0] at f17
          have h17 : ad.eval (.tmp 17) = .map (some mi.rb) := by
            generalize ad.eval (.tmp 17) = y at f17
            cases f17 with
            | map hq => rw [(la.trans lad) _ _ hmi] at hq; cases hq; rfl
          have h18 : ad.eval (.tmp 18) = k := kSh_eq f18 (hks _ hkv)
          have hsh : ∀ z ∈ arr'.toList, kSh z.key = some .kS := fun z hz => by
            have := hM.rkeys.mem_iff.1 (List.mem_map_of_mem (f := (·.key)) (hsub z hz))
            obtain ⟨kv, hkv2, he⟩ := List.mem_map.1 this
            rw [← he]; exact hks _ hkv2
          have hknd : (arr.toList.map (·.key)).Nodup := hM.rkeys.nodup_iff.2 hM.keys
          have hknd' : (arr'.toList.map (·.key)).Nodup := by rw [harr]; exact hknd.sublist (List.filter_sublist.map _)
          have hks0 : kSh k = some .kS := hks _ hkv
          have hok : okKey .string k = true := by
            cases k <;> first | rfl | (simp [kSh] at hks0)
          rcases findNow_facts hok hks0 arr'.toList 0 hsh with ⟨g1, g2⟩ | ⟨j, y, g1, g2, g3, g4⟩
          · exact absurd hek (g2 e he1)
          · have g3 : arr'.toList[j]? = some y := by simpa using g3
            have hye : y = e := key_once hknd' (List.mem_of_getElem? g3) he1 (g4.trans hek.symm)
            have hrunD : (execOp ad.eval (opAt (o 4) 2)).run Tryz.prog wd = .ok (.value (.tuple #[])) { wd with heap := wd.heap.setIfInBounds mi.rb (.map (arr'.eraseIdxIfInBounds j) cl) } := by
              have hx42 : execOp ad.eval (opAt (o 4) 2) = (do pure (Next.value (← Builtin.delete_ #[87, 9] (opAt (o 4) 2).type #[ad.eval (.tmp 17), ad.eval (.tmp 18)]))) := by
                simp only [execOp, c42, resolve, pure_bind, invoke]
                rw [arrMap]
                rfl
              rw [hx42, h17, h18]
              simp only [Sem.run_bind, t42, run_delete hu hu9 _ hmapd g1, Result.andThen_ok, Sem.run_pure]
            have hlt2 : mi.rb < wd.heap.size := (Array.getElem?_eq_some_iff.1 hmapd).1
            generalize hwe : ({ wd with heap := wd.heap.setIfInBounds mi.rb (.map (arr'.eraseIdxIfInBounds j) cl) } : World) = we at hrunD
            refine by_hand at42 w42 hrunD ?_
            rw [d42]
            have hite : we.heap[W1.heap.size]? = some (.mapIter (some mi.rb) cl (seen.push e.born) cl) := by
              rw [← hwe]; simp only []; rw [Array.getElem?_setIfInBounds_ne (by omega)]; exact hitd
            have hmape : we.heap[mi.rb]? = some (.map (arr'.eraseIdxIfInBounds j) cl) := by
              rw [← hwe]; simp [hlt2]
            have hBe : But mi.rb W1 we := by
              rw [← hwe]
              exact ⟨hBd.os, hBd.tape, hBd.output, by simpa using hBd.size, fun n hn hne => by simp only []; rw [Array.getElem?_setIfInBounds_ne (by omega)]; exact hBd.block n hn hne⟩
            refine ⟨⟨μd, _, seen.push e.born, arr'.eraseIdxIfInBounds j, Ad, ?_, ?_, ?_, lad _ _ (L2a _ _ (L2 _ _ hg)), dd, la.trans lad, fun b i q => hnewa b i (Nc _ _ (Nd _ _ q)), hBe, hite, hmape, ?_⟩, hmeas _ hite⟩
            · simp only [upd]; simp [x0]
            · simp only [upd]; simp [x1]
            · simp only [upd]; simp [x7]
            · have hjl : j < arr'.size := by
                have := (List.getElem?_eq_some_iff.1 g3).1; simpa using this
              have hcp : ∀ z, (seen.push e.born).contains z = (seen.contains z || z == e.born) := fun z => contains_push _ _ _
              have hq : ∀ z ∈ arr'.toList, (!((seen.push e.born).contains z.born && p z.key)) = true ↔ z.key ≠ y.key := fun z hz => by
                have hz2 := hz
                rw [harr] at hz2
                have hz3 := (List.mem_filter.1 hz2).2
                rw [hcp, hye]
                by_cases hzb : z.born = e.born
                · have hze := seen_born hnd (hsub z hz) hea hzb
                  subst hze
                  rw [hek, hpk]; simp
                · have h1 : (z.born == e.born) = false := by simpa using hzb
                  rw [h1, Bool.or_false]
                  have h2 : z.key ≠ e.key := fun hk => hzb (by rw [key_once hknd' hz he1 hk])
                  simp only [h2, ne_eq, not_false_eq_true, iff_true]
                  exact hz3
              have her : (arr'.eraseIdxIfInBounds j).toList = arr'.toList.eraseIdx j := by
                simp [Array.eraseIdxIfInBounds, hjl]
              rw [her, erase_key hknd' g3 hq, harr, List.filter_filter]
              refine List.filter_congr fun z hz => ?_
              rw [hcp]
              cases seen.contains z.born <;> cases p z.key <;> cases (z.born == e.born) <;> rfl
theorem nt : Tryz.f63.ntmps = 19 := by kernel_rfl
theorem nm : (Tryz.f63.name == "runtime.NumGoroutine") = false := by kernel_rfl
theorem res (a : Array Value) (w : World) : (results Tryz.f63 a).run Tryz.prog w = .ok (.tuple #[]) w := by simp [results]
set_option maxRecDepth 100000 in
theorem del_ok {callf : Caller} (hcf : CallSound Tryz.prog callf) : SumOk Tryz.prog 63 (delE callf) := by
  intro args h v h' e W μ w args' hv R
  unfold delE at e
  split at e
  · rename_i b g fi ca
    split at e
    · rename_i es hob
      split at e
      · rename_i l hst hl
        cases e
        obtain ⟨fi⟩ := fi; obtain ⟨ca⟩ := ca
        dsimp only at hl
        have hks : ∀ e ∈ es, kSh e.1 = some .kS := fun e he => by
          have := List.all_eq_true.1 hst e he
          generalize e.1 = k at this
          cases k <;> first | rfl | (simp [isStrV] at this)
        rw [MuLone.run_callFunc_enter hf nm shape]
        refine calls_of_wp hf shape ?_
        have hA0 := enter_R (fn := Tryz.f63) (h := h) hv
        have hen : enterS Tryz.f63 [.map (some b), .func (.func g) ⟨fi⟩ ⟨ca⟩] h = ⟨19, Tr.ofL [.map (some b), .func (.func g) ⟨fi⟩ ⟨ca⟩], [], h⟩ := by
          unfold enterS; rw [nt]; rfl
        rw [hen] at hA0
        have hbμ : ∃ mi, μ b = some mi := by
          cases hv with
          | cons h1 _ => cases h1 with | map hq => exact ⟨_, hq⟩
        obtain ⟨mi, hmi⟩ := hbμ
        obtain ⟨arr, cl, r1, r2, r3⟩ := R.ob b mi _ hmi hob
        obtain ⟨p, hp, rfl⟩ := delF_facts hl r3.keys
        have hA := hA0.toN (H' := ⟨h.n, .nil⟩) (x := fun t => slot (Tr.ofL [.map (some b), .func (.func g) ⟨fi⟩ ⟨ca⟩]) t) (fun t _ => rfl)
        refine wp_seq ?_
        refine wp_region ?_
        rw [n0, wpOps_cons]
        refine mv at00 (s00 _) hA R.dom fun a1 w1 μ1 A1 d1 L1 N1 B1 => ?_
        rw [wpOps_cons]
        have hrb : mi.rb < w.heap.size := (Array.getElem?_eq_some_iff.1 r1).1
        have r1' : w1.heap[mi.rb]? = some (.map arr cl) := (B1.block _ hrb).trans r1
        have hrb1 : mi.rb < w1.heap.size := (Array.getElem?_eq_some_iff.1 r1').1
        have f6 := A1.atN (t := 6) (by omega)
        have hs0 : slot (Tr.ofL [.map (some b), .func (.func g) ⟨fi⟩ ⟨ca⟩]) 0 = .map (some b) := by rw [slot_ofL]; rfl
        have hs1 : slot (Tr.ofL [.map (some b), .func (.func g) ⟨fi⟩ ⟨ca⟩]) 1 = .func (.func g) ⟨fi⟩ ⟨ca⟩ := by rw [slot_ofL]; rfl
        simp only [upd, if_true, hs0] at f6
        have h6 : a1.eval (.tmp 6) = .map (some mi.rb) := by
          generalize a1.eval (.tmp 6) = y at f6
          cases f6 with
          | map hq => rw [L1 _ _ hmi] at hq; cases hq; rfl
        refine by_hand at01 w01 (v := .pointer (some ⟨w1.heap.size, 0, none⟩)) (w' := w1.alloc (.mapIter (some mi.rb) cl #[] cl)) (by rw [x01, h6]; simp only [Sem.run_bind, run_range_map w1 87 9 4 mi.rb arr cl hu r1', Result.andThen_ok, Sem.run_pure]) ?_
        rw [d01]
        show (Code.block 0 _).wp _ _ _ _
        have R1 : Rel W μ h w1 := by
          refine ⟨R.gl, R.dom, fun b i o h1 h2 => have ro := R.ob b i o h1 h2; ro.move (Le.refl _) (B1.block _ ro.old), R.inj, R.below.trans (B1.mono R.below.size)⟩
        have hfr : μ1 h.n = none := by
          cases hq : μ1 h.n with
          | none => rfl
          | some i => exact absurd (d1 _ _ hq) (Nat.lt_irrefl _)
        have hle := Mu.le_set (i := ⟨w1.heap.size, 0, 0, 0, 0, default⟩) hfr
        have A2 := (A1.mono hle).handN (H' := ⟨h.n + 1, .nil⟩) (d := 7) (by omega) (v := .pointer (some ⟨h.n, 0, none⟩)) (v' := .pointer (some ⟨w1.heap.size, 0, none⟩)) (.ptr 0 (Mu.set_eq _ _ _))
        refine loop_wp hcf (W0 := W) (W1 := w1) (h := h) (b := b) (rbm := mi.rb) (cl := cl) (g := g) (mi := mi) (arr := arr) (p := p) (μ0 := μ) (fi := fi) (ca := ca) (es := es) R1 hmi hob rfl r1' r3 hp hks
          ⟨μ1.set h.n ⟨w1.heap.size, 0, 0, 0, 0, default⟩, _, #[], arr, A2, ?_, ?_, ?_, Mu.set_eq _ _ _, ?_, L1.trans hle, ?_, ?_, heap_new w1 _, ?_, ?_⟩ fun a8 w8 μ8 x8 arr' A8 B8 m8 h8 => ?_
        · simp only [upd]; simp [hs0]
        · simp only [upd]; simp [hs1]
        · simp only [upd]; simp
        · intro c i hc
          unfold Mu.set at hc
          split at hc
          · omega
          · exact Nat.lt_succ_of_lt (d1 c i hc)
        · intro c i hc
          unfold Mu.set at hc
          split at hc
          · exact .inr (by assumption)
          · exact .inl (N1 _ _ hc)
        · exact But.trans ⟨rfl, rfl, rfl, Nat.le_refl _, fun _ _ _ => rfl⟩ ((Below.refl _ _).alloc (Nat.le_refl _) _)
        · rw [show (w1.alloc (.mapIter (some mi.rb) cl #[] cl)).heap[mi.rb]? = w1.heap[mi.rb]? from Below.heap_alloc _ _ _ hrb1]; exact r1'
        · exact (List.filter_eq_self.2 fun z _ => by simp).symm
        · have hdf := A8.dfr
          have hd0 : a8.defers = [] := by
            cases hdd : a8.defers with
            | nil => rfl
            | cons d l => rw [hdd] at hdf; exact hdf.elim
          refine ⟨hd0, .tuple #[], res _ _, .tuple #[], rfl, μ, .tuple .nil, R.remap hmi hob (But.after B1 B8) m8 (r3.filter (fun k => !(p k)) h8), Ext.refl _ _, Nat.le_refl _⟩
      · cases e
    · cases e
  · cases e
end Go.EvM.MDel
namespace Go.Proofs
open Go.RowKit Go.Maps Go.Sort Go.Shelf
def Tryz.keys68_ren : Go.Shelf.Ren := ⟨fun | 7 => 68 | 10 => 122 | n => n, fun | 23 => 87 | 26 => 9 | 3 => 4 | 28 => 106 | 0 => 0 | 27 => 105 | 33 => 38 | 4 => 4 | n => n, fun | n => n⟩
theorem Tryz.keys68 : Go.Proofs.SlLaysZ.n7 Tryz.prog Tryz.keys68_ren := {
  mixed := by kernel_rfl,
  f7 := ⟨Tryz.f68.name, by decide, Tryz.func68.trans (congrArg some (by kernel_rfl))⟩,
  f10 := ⟨Tryz.f122.name, by decide, Tryz.func122.trans (congrArg some (by kernel_rfl))⟩,
  t0 := Tryz.underlying0,
  a0 := Tryz.isAgg0,
  z0 := Tryz.sizeOf0,
  v0 := Tryz.zeroValue0,
  t4 := Tryz.underlying4,
  a4 := Tryz.isAgg4,
  z4 := Tryz.sizeOf4,
  v4 := Tryz.zeroValue4,
  t23 := Tryz.underlying87,
  a23 := Tryz.isAgg87,
  z23 := Tryz.sizeOf87,
  v23 := Tryz.zeroValue87,
  t26 := Tryz.underlying9,
  a26 := Tryz.isAgg9,
  z26 := Tryz.sizeOf9,
  v26 := Tryz.zeroValue9,
  t27 := Tryz.underlying105,
  a27 := Tryz.isAgg105,
  z27 := Tryz.sizeOf105,
  v27 := Tryz.zeroValue105,
  t28 := Tryz.underlying106,
  a28 := Tryz.isAgg106,
  z28 := Tryz.sizeOf106,
  v28 := Tryz.zeroValue106,
  t33 := Tryz.underlying38,
  a33 := Tryz.isAgg38,
  z33 := Tryz.sizeOf38,
  v33 := Tryz.zeroValue38 }
def Tryz.sorted67_ren : Go.Shelf.Ren := ⟨fun | 6 => 67 | 8 => 120 | 9 => 121 | 11 => 165 | 13 => 167 | 12 => 166 | 23 => 199 | 24 => 200 | 14 => 190 | 15 => 191 | 16 => 192 | 17 => 193 | 18 => 194 | 19 => 195 | 20 => 196 | 21 => 197 | 22 => 198 | 25 => 214 | 26 => 215 | 27 => 216 | 28 => 217 | 29 => 218 | 30 => 219 | 31 => 226 | n => n, fun | 26 => 9 | 28 => 106 | 24 => 39 | 0 => 0 | 3 => 3 | 37 => 189 | 48 => 237 | 50 => 185 | 4 => 4 | 40 => 230 | 39 => 229 | 45 => 221 | 5 => 5 | 9 => 9 | 51 => 255 | 55 => 259 | 57 => 265 | 58 => 266 | 33 => 38 | n => n, fun | n => n⟩
theorem Tryz.sorted67 : Go.Proofs.SlLaysZ.n6 Tryz.prog Tryz.sorted67_ren := {
  mixed := by kernel_rfl,
  f6 := ⟨Tryz.f67.name, by decide, Tryz.func67.trans (congrArg some (by kernel_rfl))⟩,
  f8 := ⟨Tryz.f120.name, by decide, Tryz.func120.trans (congrArg some (by kernel_rfl))⟩,
  f11 := ⟨Tryz.f165.name, by decide, Tryz.func165.trans (congrArg some (by kernel_rfl))⟩,
  t0 := Tryz.underlying0,
  a0 := Tryz.isAgg0,
  z0 := Tryz.sizeOf0,
  v0 := Tryz.zeroValue0,
  t24 := Tryz.underlying39,
  a24 := Tryz.isAgg39,
  z24 := Tryz.sizeOf39,
  v24 := Tryz.zeroValue39,
  t26 := Tryz.underlying9,
  a26 := Tryz.isAgg9,
  z26 := Tryz.sizeOf9,
  v26 := Tryz.zeroValue9,
  t28 := Tryz.underlying106,
  a28 := Tryz.isAgg106,
  z28 := Tryz.sizeOf106,
  v28 := Tryz.zeroValue106,
  i26 := by kernel_rfl }
def Tryz.sort121_ren : Go.Shelf.Ren := ⟨fun | 6 => 121 | 8 => 167 | 9 => 166 | 19 => 199 | 20 => 200 | 21 => 190 | 22 => 191 | 23 => 192 | 24 => 193 | 25 => 194 | 26 => 195 | 27 => 196 | 28 => 197 | 29 => 198 | 36 => 214 | 31 => 215 | 32 => 216 | 37 => 217 | 38 => 218 | 39 => 219 | 41 => 226 | n => n, fun | 27 => 39 | 29 => 9 | 3 => 3 | 32 => 189 | 26 => 39 | 0 => 0 | 44 => 237 | 46 => 185 | 4 => 4 | 36 => 230 | 35 => 229 | 41 => 221 | 5 => 5 | 9 => 9 | 53 => 255 | 57 => 259 | 63 => 265 | 64 => 266 | n => n, fun | n => n⟩
theorem Tryz.sort121 : Go.Proofs.SlLaysM.n6 Tryz.prog Tryz.sort121_ren := {
  mixed := by kernel_rfl,
  f6 := ⟨Tryz.f121.name, by decide, Tryz.func121.trans (congrArg some (by kernel_rfl))⟩,
  f8 := Tryz.func167.trans (congrArg some (by kernel_rfl)),
  f9 := ⟨Tryz.f166.name, by decide, Tryz.func166.trans (congrArg some (by kernel_rfl))⟩,
  f19 := Tryz.func199.trans (congrArg some (by kernel_rfl)),
  f20 := Tryz.func200.trans (congrArg some (by kernel_rfl)),
  f21 := ⟨Tryz.f190.name, by decide, Tryz.func190.trans (congrArg some (by kernel_rfl))⟩,
  f22 := ⟨Tryz.f191.name, by decide, Tryz.func191.trans (congrArg some (by kernel_rfl))⟩,
  f23 := ⟨Tryz.f192.name, by decide, Tryz.func192.trans (congrArg some (by kernel_rfl))⟩,
  f24 := ⟨Tryz.f193.name, by decide, Tryz.func193.trans (congrArg some (by kernel_rfl))⟩,
  f25 := ⟨Tryz.f194.name, by decide, Tryz.func194.trans (congrArg some (by kernel_rfl))⟩,
  f26 := ⟨Tryz.f195.name, by decide, Tryz.func195.trans (congrArg some (by kernel_rfl))⟩,
  f27 := ⟨Tryz.f196.name, by decide, Tryz.func196.trans (congrArg some (by kernel_rfl))⟩,
  f28 := ⟨Tryz.f197.name, by decide, Tryz.func197.trans (congrArg some (by kernel_rfl))⟩,
  f29 := ⟨Tryz.f198.name, by decide, Tryz.func198.trans (congrArg some (by kernel_rfl))⟩,
  f31 := Tryz.func215.trans (congrArg some (by kernel_rfl)),
  f32 := Tryz.func216.trans (congrArg some (by kernel_rfl)),
  f36 := ⟨Tryz.f214.name, by decide, Tryz.func214.trans (congrArg some (by kernel_rfl))⟩,
  f37 := ⟨Tryz.f217.name, by decide, Tryz.func217.trans (congrArg some (by kernel_rfl))⟩,
  f38 := ⟨Tryz.f218.name, by decide, Tryz.func218.trans (congrArg some (by kernel_rfl))⟩,
  f39 := ⟨Tryz.f219.name, by decide, Tryz.func219.trans (congrArg some (by kernel_rfl))⟩,
  f41 := ⟨Tryz.f226.name, by decide, Tryz.func226.trans (congrArg some (by kernel_rfl))⟩,
  t0 := Tryz.underlying0,
  a0 := Tryz.isAgg0,
  z0 := Tryz.sizeOf0,
  v0 := Tryz.zeroValue0,
  t3 := Tryz.underlying3,
  a3 := Tryz.isAgg3,
  z3 := Tryz.sizeOf3,
  v3 := Tryz.zeroValue3,
  t4 := Tryz.underlying4,
  a4 := Tryz.isAgg4,
  z4 := Tryz.sizeOf4,
  v4 := Tryz.zeroValue4,
  t5 := Tryz.underlying5,
  a5 := Tryz.isAgg5,
  z5 := Tryz.sizeOf5,
  v5 := Tryz.zeroValue5,
  t9 := Tryz.underlying9,
  a9 := Tryz.isAgg9,
  z9 := Tryz.sizeOf9,
  v9 := Tryz.zeroValue9,
  t26 := Tryz.underlying39,
  a26 := Tryz.isAgg39,
  z26 := Tryz.sizeOf39,
  v26 := Tryz.zeroValue39,
  t27 := Tryz.underlying39,
  a27 := Tryz.isAgg39,
  z27 := Tryz.sizeOf39,
  v27 := Tryz.zeroValue39,
  t29 := Tryz.underlying9,
  a29 := Tryz.isAgg9,
  z29 := Tryz.sizeOf9,
  v29 := Tryz.zeroValue9,
  t32 := Tryz.underlying189,
  a32 := Tryz.isAgg189,
  z32 := Tryz.sizeOf189,
  v32 := Tryz.zeroValue189,
  t35 := Tryz.underlying229,
  a35 := Tryz.isAgg229,
  z35 := Tryz.sizeOf229,
  v35 := Tryz.zeroValue229,
  t36 := Tryz.underlying230,
  a36 := Tryz.isAgg230,
  z36 := Tryz.sizeOf230,
  v36 := Tryz.zeroValue230,
  t41 := Tryz.underlying221,
  a41 := Tryz.isAgg221,
  z41 := Tryz.sizeOf221,
  v41 := Tryz.zeroValue221,
  t44 := Tryz.underlying237,
  a44 := Tryz.isAgg237,
  z44 := Tryz.sizeOf237,
  v44 := Tryz.zeroValue237,
  t46 := Tryz.underlying185,
  a46 := Tryz.isAgg185,
  z46 := Tryz.sizeOf185,
  v46 := Tryz.zeroValue185,
  t53 := Tryz.underlying255,
  a53 := Tryz.isAgg255,
  z53 := Tryz.sizeOf255,
  v53 := Tryz.zeroValue255,
  t57 := Tryz.underlying259,
  a57 := Tryz.isAgg259,
  z57 := Tryz.sizeOf259,
  v57 := Tryz.zeroValue259,
  t63 := Tryz.underlying265,
  a63 := Tryz.isAgg265,
  z63 := Tryz.sizeOf265,
  v63 := Tryz.zeroValue265,
  t64 := Tryz.underlying266,
  a64 := Tryz.isAgg266,
  z64 := Tryz.sizeOf266,
  v64 := Tryz.zeroValue266 }
theorem Tryz.sorts67 (m : Nat) : AnyZ.SortsIn Tryz.prog Tryz.sorted67_ren Fence.wide m :=
  ⟨fun blk off cap ss W hH hblk hsz => callsIn_wide.2 (AnyM.slices_Sort_string Tryz.sort121 blk off cap ss W hH hblk hsz),
   fun p cap W => callsIn_wide.2 (AnyM.slices_Sort_string_none Tryz.sort121 p cap W)⟩
end Go.Proofs
namespace Go.EvM.MRun
open Go.RowKit Go.Proofs Go.Maps Go.Sort Go.Shelf Go.EvM.MDel
set_option linter.unusedVariables false
theorem tells : SortedTells Tryz.prog 67 122 9 := by
  intro blk b nn D0 R w hlt hcell hown hmax hbytes
  have hseq : SeqGives Fence.wide 2 Tryz.prog 122 #[.pointer (some ⟨blk, 0, none⟩)] encStr (fun ss => ss.Perm (strKeys D0)) (Maps.size D0) w :=
    AnyZ.keys_gives (ρ := Tryz.keys68_ren) { Tryz.keys68 with } Fence.wide _ trivial rfl (by omega) blk b nn D0 w hlt hcell hown
  exact callsIn_wide.1 (AnyZ.sorted_in Tryz.sorted67 Fence.wide 5 trivial trivial trivial trivial rfl (by omega) (Tryz.sorts67 _) (enters_of Tryz.func121 (by kernel_rfl) rfl) 122 #[.pointer (some ⟨blk, 0, none⟩)] trivial (enters_of Tryz.func122 (by kernel_rfl) rfl) _ _ hmax hbytes _ hseq)
def sts : List TypeId := []
theorem sts_ok : sts.all (fun t => !Tryz.prog.stoodInHeld t && !Tryz.prog.eqGuardType Tryz.prog.depth t) = true := by rfl
theorem names_ok : Tryz.prog.funcs.toList.all (fun g => !(g.name == "runtime.NumGoroutine")) = true := by kernel_rfl
noncomputable def cx0 : Cx := mkCx Tryz.prog sts fun _ => none
noncomputable def call0 : Caller := fastFun cx0 300
noncomputable def ext : FuncId → Option (List Value → Hp → OR) := fun f => bif Nat.beq f 63 then some (delE call0) else bif Nat.beq f 67 then some (sortedE 122) else none
noncomputable def cx : Cx := mkCx Tryz.prog sts ext
theorem f81 : Tryz.prog.funcs[67]? = some Tryz.f67 := by kernel_rfl
theorem b81 : Tryz.f67.body = some (Tryz.f67.body.getD .skip) := by kernel_rfl
set_option maxRecDepth 100000 in
theorem sound0 : Sound Tryz.prog cx0 := ⟨cx_ok names_ok sts_ok, MDel.hm, fun f e h => by cases h⟩
set_option maxRecDepth 100000 in
theorem call0_ok : CallSound Tryz.prog call0 := by
  unfold call0
  rw [fastFun_eq]
  exact fun_ok sound0 300
set_option maxRecDepth 100000 in
theorem sound : Sound Tryz.prog cx := by
  refine ⟨cx_ok names_ok sts_ok, MDel.hm, ?_⟩
  intro f e h
  have h : (bif Nat.beq f 63 then some (delE call0) else bif Nat.beq f 67 then some (sortedE 122) else none) = some e := h
  rcases ext_cases (k := 63) (x := delE call0) h with g | h
  · exact sum_of g (MDel.del_ok call0_ok)
  · rcases ext_cases (k := 67) (x := sortedE 122) h with g | h
    · exact sum_of g (sorted_ok MDel.hu9 f81 (by kernel_rfl) b81 tells)
    · cases h
end Go.EvM.MRun
namespace Go.EvM.Awake
open Go.RowKit Go.Proofs
theorem f32 : Tryz.prog.funcs[32]? = some Tryz.f32 := by kernel_rfl
theorem b32 : Tryz.f32.body = some (Tryz.f32.body.getD .skip) := by kernel_rfl
theorem n32 : Tryz.f32.name ≠ "runtime.NumGoroutine" := by decide
theorem r32 : isYes (fastBody MRun.cx (fastFun MRun.cx 2000) (fastDef MRun.cx (fastFun MRun.cx 2000) 2000) 2000 Tryz.f32 [] ⟨0, .nil⟩) = true := by kernel_rfl
set_option maxRecDepth 100000 in
theorem awake13 (w : World) : Calls Tryz.prog 32 #[] w fun e w' => e = .returned (.bool true) ∧ Below w.heap.size w w' := fast_yes MRun.sound 2000 f32 n32 b32 r32 .nil w (MDel.gl_ok w)
end Go.EvM.Awake
