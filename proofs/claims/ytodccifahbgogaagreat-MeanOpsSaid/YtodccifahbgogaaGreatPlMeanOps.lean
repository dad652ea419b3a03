/- MeanOps: one operator of any two values is what the document says: value and error alike; it holds of the given program for any number of an operator and any two values. No condition. -/
import Derived.Test.YtodccifahbgogaaGreatRows
import Derived.Test.YtodccifahbgogaaGreatPlO
import Derived.Test.YtodccifahbgogaaGreatEvC
import Derived.WalkKit
import Derived.ProofKit
import Derived.OpenShut
import Derived.ShutString
import Derived.ChangeOld
import Derived.Below
import Derived.SizedLaws
import Derived.Carry
import Derived.ChangeSlices
namespace Go.Proofs.YtodccifahbgogaaGreat.meanOps
open Go.ChangeShapes Go.WideShapes Go.ChangeAt Go.RowKit
set_option linter.unusedVariables false
theorem own : ownKnob Tryz.prog.godebug = none := by kernel_rfl
theorem laidOut : laidOutB Tryz.prog = true := by kernel_rfl
theorem open_num {H : Type} {enc : TypeId × Value → H} {W : World} {n : Int} {d : DataW H} {p : List MemPlace}
    (h : DataW.Trod enc Tryz.prog W 0 (fun _ => true) true 3 (.int .i64 n) d p) : (Lit.int .i64 n).wf = true := by
  obtain ⟨fuel, hf⟩ := h
  obtain ⟨n', q0, _, w0⟩ := DataW.trod_int Tryz.underlying3 hf
  simp [Value.cells] at q0
  subst q0
  exact w0
theorem types70 : Tryz.prog.cellTypes Tryz.prog.depth 70 = some [23, 2, 68] := by kernel_rfl
theorem cells70 : Tryz.prog.cellsOf 70 = 3 := by kernel_rfl
theorem cells23 : Tryz.prog.cellsOf 23 = 1 := by kernel_rfl
theorem cells2 : Tryz.prog.cellsOf 2 = 1 := by kernel_rfl
theorem cells68 : Tryz.prog.cellsOf 68 = 1 := by kernel_rfl
set_option maxRecDepth 100000 in
theorem open_value {H : Type} {enc : TypeId × Value → H} {W : World} {base : Nat} {v : Value} {d : DataW H} {p : List MemPlace}
    (hv : Value.okWide Tryz.prog W .any base 70 v) (h : DataW.Trod enc Tryz.prog W 0 (fun _ => true) true 70 v d p) :
    ∃ (k n : Int) (a : Option Addr) (len cap : Nat) (l : List Int), v = .agg #[.int .i64 k, .int .i64 n, .slice a len cap] ∧ Go.Pm.SlA W a len cap l := by
  simp only [Value.okWide, Tryz.underlying70] at hv
  obtain ⟨cs, rfl, hsz, ts, hts, _, hrow⟩ := hv
  rw [types70] at hts
  cases hts
  rw [cells70] at hsz
  obtain ⟨fuel, hf⟩ := h
  obtain ⟨xs, n', _, _, _, hxl, hfl⟩ := DataW.trod_struct Tryz.underlying70 hf
  obtain ⟨l⟩ := cs
  match l, hsz with
  | [c0, c1, c2], _ =>
    have len3 : xs.length = 3 := hxl
    have get : ∀ j, j < 3 → ∃ y, xs[j]? = some y := fun j hj => ⟨xs[j]'(by omega), List.getElem?_eq_getElem (by omega)⟩
    have e0 : DataW.trod enc Tryz.prog W 0 (fun _ => true) true n' 23 (([c0, c1, c2].drop 0).take (Tryz.prog.cellsOf 23)) = xs[0]? := hfl 0 _ rfl
    rw [cells23] at e0
    have e1 : DataW.trod enc Tryz.prog W 0 (fun _ => true) true n' 2 (([c0, c1, c2].drop 1).take (Tryz.prog.cellsOf 2)) = xs[1]? := hfl 1 _ rfl
    rw [cells2] at e1
    have e2 : DataW.trod enc Tryz.prog W 0 (fun _ => true) true n' 68 (([c0, c1, c2].drop 2).take (Tryz.prog.cellsOf 68)) = xs[2]? := hfl 2 _ rfl
    rw [cells68] at e2
    obtain ⟨y0, g0⟩ := get 0 (by omega)
    obtain ⟨y1, g1⟩ := get 1 (by omega)
    obtain ⟨y2, g2⟩ := get 2 (by omega)
    rw [g0] at e0; rw [g1] at e1; rw [g2] at e2
    obtain ⟨k, q0, _, _⟩ := DataW.trod_int Tryz.underlying23 e0
    obtain ⟨n, q1, _, _⟩ := DataW.trod_int Tryz.underlying2 e1
    have q0 : [c0] = [.int .i64 k] := q0
    have q1 : [c1] = [.int .i64 n] := q1
    cases q0; cases q1
    have e2 : DataW.trod enc Tryz.prog W 0 (fun _ => true) true n' 68 [c2] = some y2 := e2
    rcases Go.ChangeShapes.open_ints Tryz.underlying68 Tryz.underlying2 cells2 e2 with ⟨q2, _⟩ | ⟨x, len, cap, zs, q2, _, hl, _, hz, _, hc, _⟩
    · cases q2
      exact ⟨k, n, none, 0, 0, [], rfl, ⟨.inl ⟨rfl, rfl, rfl, rfl⟩⟩⟩
    · cases q2
      have hz : zs.length = cap := hz
      obtain ⟨u, hu, hok⟩ := hrow 2 (.slice (some x) len cap) rfl
      have hu : some 68 = some u := hu
      cases hu
      simp only [Cell.okWide, Tryz.underlying68, Cell.ok] at hok
      obtain ⟨_, _, _, hs, row, cells, hsh, _⟩ := hok
      unfold World.shape? at hsh
      split at hsh
      · rename_i cs' e fz hh
        refine ⟨k, n, some x, len, cap, zs.take len, rfl, ⟨.inr ⟨x, zs, cs', e, _, rfl, hs, hh, hz, hl, rfl, fun i hi => ?_⟩⟩⟩
        have := hc i (by omega)
        by_cases h0 : i = 0
        · subst h0
          simp only [World.cell?, Addr.add, if_true] at this
          rw [hh] at this
          simp only [hs] at this
          simpa using this
        · simp only [World.cell?, Addr.add, if_neg h0] at this
          rw [hh] at this
          simpa using this
      · cases hsh
set_option maxRecDepth 100000 in
theorem lifted (os : Os) (started : os.Started) (H : Type) (enc : TypeId × Value → H) :
    ReturnsInHanded {} Tryz.checked os 8 .any (Rows.meanOpsSpec.pre6 enc Tryz.prog Tryz.f8 Rows.meanOpsRow.domain false) (Rows.meanOpsSpec.post enc Tryz.prog Tryz.f8 false true false false) := by
  refine returnsInHanded_of_change_sized (C := Tryz.checked) own started (by kernel_rfl) Tryz.func8
    (ChangeSpec.witness6 (enc := enc) (C := Tryz.checked) false ⟨#[], #[.int .i64 0, .agg #[.int .i64 0, .int .i64 0, .slice none 0 0], .agg #[.int .i64 0, .int .i64 0, .slice none 0 0]], []⟩ 8 (by kernel_rfl) (by kernel_rfl) (by kernel_rfl) (by kernel_rfl)) ?_
  intro W base args ds gs before hval0 hW hcnd hsz0 _
  have hval : ∀ (j : Nat) t v, Tryz.f8.params[j]? = some t → args[j]? = some v → Value.okWide Tryz.prog W .any base t v := hval0
  have hW' := hW
  obtain ⟨p, q, hA0, hV, rfl, hfz, hnd⟩ := hW
  have hA : DataW.TrodAll enc Tryz.prog W 0 (fun _ => true) true Tryz.f8.params.toList args.toList ds p := hA0
  rw [Tryz.params8] at hA hval
  obtain ⟨v0, vs0, d0, ds0, p0, q0, hargs, rfl, rfl, h0, r0⟩ := trodAll_cons hA
  obtain ⟨v1, vs1, d1, ds1, p1, q1, rfl, rfl, rfl, h1, r1⟩ := trodAll_cons r0
  obtain ⟨v2, vs2, d2, ds2, p2, q2, rfl, rfl, rfl, h2, r2⟩ := trodAll_cons r1
  obtain ⟨rfl, rfl, rfl⟩ := trodAll_nil r2
  obtain rfl : args = #[v0, v1, v2] := by cases args; simp_all
  obtain ⟨rfl, rfl⟩ := trodVars_none hV
  obtain ⟨tg, rfl⟩ := okWide_int Tryz.underlying3 (hval 0 3 v0 rfl rfl)
  have k0 := h0
  have lt0 : ∀ x ∈ p0, x.block < W.heap.size := by obtain ⟨m, hm⟩ := k0; exact DataW.trod_lt m _ _ _ hm
  have k1 := h1
  have lt1 : ∀ x ∈ p1, x.block < W.heap.size := by obtain ⟨m, hm⟩ := k1; exact DataW.trod_lt m _ _ _ hm
  have k2 := h2
  have lt2 : ∀ x ∈ p2, x.block < W.heap.size := by obtain ⟨m, hm⟩ := k2; exact DataW.trod_lt m _ _ _ hm
  obtain ⟨ka, na, aa, la, ca, xa, rfl, sa⟩ := open_value (hval 1 70 v1 rfl rfl) h1
  obtain ⟨kb, nb, ab, lb, cb, xb, rfl, sb⟩ := open_value (hval 2 70 v2 rfl rfl) h2
  clear hA0 hval0 hsz0
  refine (Go.Pm.meanOps tg W sa sb).mono fun e W' ⟨he, bel⟩ => ?_
  subst he
  exact ⟨_, rfl, _, _, _, [], _, [], hW', trodAll_mk1 (shut_bool Tryz.underlying4 _), (trodAll_cons_mk (Below.trod laidOut (by kernel_rfl) (of_decide_eq_true (by kernel_rfl)) k0 bel lt0) (trodAll_cons_mk (Below.trod laidOut (by kernel_rfl) (of_decide_eq_true (by kernel_rfl)) k1 bel lt1) (trodAll_cons_mk (Below.trod laidOut (by kernel_rfl) (of_decide_eq_true (by kernel_rfl)) k2 bel lt2) trodAll_mk0))), rfl, bel.frame _, fun h => by cases h⟩
theorem and_yes {a b : Bool} (h : a = true) (k : b = true) : (a && b) = true := by rw [h, k]; rfl
set_option maxHeartbeats 400000000 in
theorem facts : joinedFacts Tryz.prog 8 Tryz.f8 Rows.meanOpsSpec Rows.meanOpsRow = true := by
  unfold joinedFacts
  repeat' (with_reducible refine and_yes ?_ ?_)
  all_goals as_aux_lemma => kernel_rfl
theorem over : Rows.meanOpsRow.holds Tryz.pinned (OpenSpec.ofChange Rows.meanOpsSpec) :=
  OpenClaim.holds_of_wide 8 Tryz.f8 rfl rfl rfl rfl rfl rfl rfl ⟨rfl, rfl, rfl, rfl, rfl⟩ rfl rfl rfl rfl rfl (by kernel_rfl) Tryz.func8 facts
    (of_decide_eq_true (by kernel_rfl)) (by unfold Func.isWrapper; first | (rw [if_pos (by decide +kernel)]; kernel_rfl) | (rw [if_neg (by decide +kernel)]; exact ⟨rfl, rfl⟩))
    (fun os started H enc _ => lifted os started H enc)
theorem proved : Rows.MeanOpsSaid := over
#print axioms proved
end Go.Proofs.YtodccifahbgogaaGreat.meanOps
