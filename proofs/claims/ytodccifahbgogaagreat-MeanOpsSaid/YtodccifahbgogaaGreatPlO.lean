/- Arguments that hold lists of numbers: they lie in the world, and are read alone. -/
import Derived.Test.YtodccifahbgogaaGreatPloA
import Derived.Test.YtodccifahbgogaaGreatPmoE
import Derived.Test.YtodccifahbgogaaGreatEvD
import Derived.Shelf.Spec.BitsCarry
import Derived.Test.YtodccifahbgogaaGreatProg
set_option linter.unusedVariables false
set_option linter.unusedSectionVars false
set_option linter.unusedSimpArgs false
namespace Go.Pm
open Go Go.EvM Go.Pv Go.Proofs Go.RowKit
set_option linter.unusedVariables false
structure SlA (W : World) (a : Option Addr) (len cap : Nat) (l : List Int) : Prop where
  is : (a = none ∧ len = 0 ∧ cap = 0 ∧ l = []) ∨ ∃ (x : Addr) (zs : List Int) (cs : Array Value) (e : TypeId) (fz : Nat × Nat), a = some x ∧ x.spot = none ∧ W.heap[x.block]? = some (.cells cs e fz) ∧ zs.length = cap ∧ len ≤ cap ∧ l = zs.take len ∧ ∀ i, i < cap → cs[x.off + i]? = some (.int .i64 (zs.getD i 0))
structure OneA (W : World) (a : Option Addr) (len cap : Nat) (l : List Int) (b : Nat) (oi : Option BI) (oo : Option Ob) (v : Value) : Prop where
  same : oi.isSome = oo.isSome
  rel : ∀ (μ : Mu) i o, oi = some i → oo = some o → RelOb μ W.heap.size W i o ∧ ¬ o.wr
  rep : ∀ (Φ : Fz) (g : Gh), Φ b = oo → Rep Φ g (.sl 0 l) v
  vr : ∀ (μ : Mu), μ b = oi → VR μ v (.slice a len cap)
  fl : f1 v = true
theorem SlA.one {W : World} {a : Option Addr} {len cap : Nat} {l : List Int} (h : SlA W a len cap l) (b : Nat) : ∃ oi oo v, OneA W a len cap l b oi oo v := by
  rcases h.is with ⟨rfl, rfl, rfl, rfl⟩ | ⟨x, zs, cs, e, fz, rfl, hs, hh, hz, hlc, rfl, hc⟩
  · exact ⟨none, none, .slice none 0 0, rfl, fun μ i o h => (by cases h), fun Φ g _ => .sln 0, fun μ _ => .nils, rfl⟩
  · have hlt : x.block < W.heap.size := (Array.getElem?_eq_some_iff.1 hh).1
    have hlen : (zs.take len).length = len := by rw [List.length_take]; omega
    refine ⟨some ⟨x.block, if cap = 0 then 0 else x.off, cap, 1, 0, default⟩, some (.cells (Tr.ofL (zs.map (.int .i64))) cap ⟨1, none⟩ false true), .slice (some ⟨b, 0, none⟩) len cap, rfl, ?_, ?_, ?_, rfl⟩
    · intro μ i o hi ho
      cases hi; cases ho
      refine ⟨⟨cs, e, fz, hh, ⟨rfl, fun t ht => (by cases ht)⟩, rfl, fun h => (by cases h), ?_, fun j hj => ?_, fun j hj => ?_, fun _ => hlt, fun h => (by cases h)⟩, fun h => (by cases h)⟩
      · show (if cap = 0 then 0 else x.off) + cap + 0 * 1 ≤ cs.size
        by_cases h0 : cap = 0
        · rw [if_pos h0]; omega
        · rw [if_neg h0]
          have := (Array.getElem?_eq_some_iff.1 (hc (cap - 1) (by omega))).1
          omega
      · rw [Tr.get_ofL, List.getElem?_map, List.getElem?_eq_none (by omega)]; rfl
      · refine ⟨.int .i64 (zs.getD j 0), _, ?_, ?_, .int _ _, rfl⟩
        · rw [Tr.get_ofL, List.getElem?_map, List.getD_eq_getElem?_getD, List.getElem?_eq_getElem (by omega)]; rfl
        · show cs[(if cap = 0 then 0 else x.off) + j]? = _
          rw [if_neg (by omega)]; exact hc j hj
    · intro Φ g hΦ
      have := Rep.slb (g := g) (c := 0) (l := zs.take len) (off := 0) (cap := cap) (vs := fun i => [.int .i64 (zs.getD i 0)]) hΦ rfl (by show (zs.take len).length ≤ cap; omega) (fun i y hy => ?_) (fun i y hy j v hv => ?_)
      · exact Eq.mp (congrArg (fun q => Rep Φ g (.sl 0 (zs.take len)) (.slice (some ⟨b, 0, none⟩) q cap)) hlen) this
      · have hy : (zs.take len)[i]? = some y := hy
        obtain ⟨h1, h2⟩ := List.getElem?_eq_some_iff.1 hy
        rw [hlen] at h1
        rw [List.getElem_take] at h2
        have e : zs.getD i 0 = y := by rw [List.getD_eq_getElem?_getD, List.getElem?_eq_getElem (by omega), ← h2]; rfl
        rw [e]
        exact .cons (.int _ _) .nil
      · have hy : (zs.take len)[i]? = some y := hy
        have h1 := (List.getElem?_eq_some_iff.1 hy).1
        rw [hlen] at h1
        cases j with
        | zero =>
          cases hv
          refine ⟨?_, rfl⟩
          show (Tr.ofL _).get (0 + i * 1 + 0) = _
          rw [Tr.get_ofL, List.getElem?_map, show 0 + i * 1 + 0 = i by omega, List.getD_eq_getElem?_getD, List.getElem?_eq_getElem (by omega)]; rfl
        | succ j => cases hv
    · intro μ hμ
      have := VR.slice (μ := μ) 0 len cap 0 x hμ hlc (.inl rfl) ?_
      · exact this
      · by_cases h0 : cap = 0
        · exact .inr ⟨h0, rfl⟩
        · left
          show x = ⟨x.block, (if cap = 0 then 0 else x.off) + 0, none⟩
          rw [if_neg h0, ← hs]
          rfl
def phi2 (o1 o2 : Option Ob) : Fz := fun b => match b with | 0 => o1 | 1 => o2 | _ => none
def mu2 (i1 i2 : Option BI) : Mu := fun b => match b with | 0 => i1 | 1 => i2 | _ => none
noncomputable def hp2 (o1 o2 : Option Ob) : Hp := ⟨2, Tr.ofL [o1.getD .mark, o2.getD .mark]⟩
theorem hp2_0 (o1 o2 : Option Ob) : (hp2 o1 o2).b.get 0 = some (o1.getD .mark) := (Tr.get_ofL [o1.getD .mark, o2.getD .mark] 0).trans rfl
theorem hp2_1 (o1 o2 : Option Ob) : (hp2 o1 o2).b.get 1 = some (o2.getD .mark) := (Tr.get_ofL [o1.getD .mark, o2.getD .mark] 1).trans rfl
theorem two_args {W : World} {a1 a2 : Option Addr} {n1 c1 n2 c2 : Nat} {l1 l2 : List Int} (h1 : SlA W a1 n1 c1 l1) (h2 : SlA W a2 n2 c2 l2) :
    ∃ (Φ : Fz) (g : Gh) (H : Hp) (μ : Mu) (v1 v2 : Value), HS Φ g [] H ∧ Rel W μ H W ∧ Rep Φ g (.sl 0 l1) v1 ∧ Rep Φ g (.sl 0 l2) v2 ∧ VR μ v1 (.slice a1 n1 c1) ∧ VR μ v2 (.slice a2 n2 c2) ∧ f1 v1 = true ∧ f1 v2 = true := by
  obtain ⟨i1, o1, v1, A⟩ := h1.one 0
  obtain ⟨i2, o2, v2, B⟩ := h2.one 1
  have g0 := hp2_0 o1 o2
  have g1 := hp2_1 o1 o2
  have two : ∀ b i o, mu2 i1 i2 b = some i → (hp2 o1 o2).b.get b = some o → (b = 0 ∧ i1 = some i ∧ o1 = some o) ∨ (b = 1 ∧ i2 = some i ∧ o2 = some o) := by
    intro b i o hb ho
    match b, hb with
    | 0, hb =>
      have hb : i1 = some i := hb
      have s := A.same
      rw [hb] at s
      obtain ⟨p, hp⟩ := Option.isSome_iff_exists.1 s.symm
      rw [g0, hp] at ho
      cases ho
      exact .inl ⟨rfl, hb, hp⟩
    | 1, hb =>
      have hb : i2 = some i := hb
      have s := B.same
      rw [hb] at s
      obtain ⟨p, hp⟩ := Option.isSome_iff_exists.1 s.symm
      rw [g1, hp] at ho
      cases ho
      exact .inr ⟨rfl, hb, hp⟩
    | _ + 2, hb => cases hb
  refine ⟨phi2 o1 o2, ⟨0, fun _ => 0, fun _ => 0, fun _ => 0, fun _ => 0, fun _ => false⟩, hp2 o1 o2, mu2 i1 i2, v1, v2, ⟨rfl, fun o x h => by simp at h, fun o p x y h => by simp at h, fun b x h => ?_⟩, ⟨MDel.gl_ok W, fun b i h => ?_, fun b i o hb ho => ?_, fun b c i j o p hb hc ho hp wo wp _ => ?_, Below.refl _ _⟩, A.rep _ _ rfl, B.rep _ _ rfl, A.vr _ rfl, B.vr _ rfl, A.fl, B.fl⟩
  · match b, h with
    | 0, h => have h : o1 = some x := h; exact ⟨by show 0 < 2; omega, by rw [g0, h]; rfl⟩
    | 1, h => have h : o2 = some x := h; exact ⟨by show 1 < 2; omega, by rw [g1, h]; rfl⟩
    | _ + 2, h => cases h
  · match b, h with
    | 0, _ => show 0 < 2; omega
    | 1, _ => show 1 < 2; omega
    | _ + 2, h => cases h
  · rcases two b i o hb ho with ⟨_, hi, ho'⟩ | ⟨_, hi, ho'⟩
    · exact (A.rel _ i o hi ho').1
    · exact (B.rel _ i o hi ho').1
  · rcases two b i o hb ho with ⟨_, hi, ho'⟩ | ⟨_, hi, ho'⟩
    · exact absurd wo (A.rel (fun _ => none) i o hi ho').2
    · exact absurd wo (B.rel (fun _ => none) i o hi ho').2
theorem sem_eq {R : Type} (m : Nat) (n : Int) (x y : T_api_Value) (κ : V → List PObj → Option R) : publicanlaw13_MeanOps_sem m [.int .i64 n, .st 4 x, .st 4 y] [] κ = publicanlaw13_MeanOps m n x y (fun b => κ (.bool b) []) := rfl
theorem call_ok (n : Int) (x y : T_api_Value) : CallOK cxP 8 [.int .i64 n, .st 4 x, .st 4 y] [] (.bool true) [] := by
  have h : publicanlaw13_MeanOps_sem (R := V × List PObj) 1000001 [.int .i64 n, .st 4 x, .st 4 y] [] (fun v os => some (v, os)) = some (.bool true, []) := by
    rw [sem_eq]; exact law_sp (G := (· = some ((.bool true : V), ([] : List PObj)))) (Nat.le_refl _) n x y rfl
  obtain ⟨v, os', h1, h2⟩ := publicanlaw13_MeanOps_ok 1000001 _ _ _ _ h
  cases h1
  exact h2
end Go.Pm
namespace Go.Pm
open Go Go.EvM Go.Pv Go.Proofs Go.RowKit Go.Shelf Go.EvM.MDel Go.EvM.MRun
set_option linter.unusedVariables false
def subRen : Ren := ⟨fun | 26 => 220 | n => n, fun | 22 => 185 | n => n, fun n => n⟩
theorem subL : Lays7.n26 Tryz.prog subRen := {
  mixed := by kernel_rfl,
  f26 := Tryz.func220.trans (congrArg some (by kernel_rfl)),
  t22 := Tryz.underlying185, a22 := Tryz.isAgg185, z22 := Tryz.sizeOf185, v22 := Tryz.zeroValue185, i22 := by kernel_rfl }
def addRen : Ren := ⟨fun | 25 => 222 | n => n, fun | 22 => 185 | n => n, fun n => n⟩
theorem addL : Lays7.n25 Tryz.prog addRen := {
  mixed := by kernel_rfl,
  f25 := Tryz.func222.trans (congrArg some (by kernel_rfl)),
  t22 := Tryz.underlying185, a22 := Tryz.isAgg185, z22 := Tryz.sizeOf185, v22 := Tryz.zeroValue185, i22 := by kernel_rfl }
theorem same_After {W : World} {μ : Mu} {h : Hp} {w : World} {v v' : Value} (R : Rel W μ h w) (hv : VR μ v v') : After W μ h v h v' w := ⟨μ, hv, R, Ext.refl _ _, Nat.le_refl _⟩
theorem add_sum : SumOk Tryz.prog 222 addP := by
  intro args h v h' e W μ w args' hv R
  unfold addP at e
  split at e
  · rename_i x y b
    cases hb : Nat.ble b 1 with
    | false => rw [hb] at e; cases e
    | true =>
      rw [hb] at e
      cases hv with
      | cons hx hv => cases hx; cases hv with
        | cons hy hv => cases hy; cases hv with
          | cons hz hv =>
            cases hz; cases hv
            cases e
            have hrun := Any7.bits_Add64 addL x y b (Nat.le_of_ble_eq_true hb) w
            have hrun : (callFunc 222 [Value.int .u64 (Int.ofNat x), Value.int .u64 (Int.ofNat y), Value.int .u64 (Int.ofNat b)].toArray).run Tryz.prog w = _ := hrun
            rw [hrun]
            exact same_After R (.tuple (.cons (.int _ _) (.cons (.int _ _) .nil)))
  · cases e
theorem sub_sum : SumOk Tryz.prog 220 subP := by
  intro args h v h' e W μ w args' hv R
  unfold subP at e
  split at e
  · rename_i x y b
    cases hb : Nat.ble b 1 with
    | false => rw [hb] at e; cases e
    | true =>
      rw [hb] at e
      cases hv with
      | cons hx hv => cases hx; cases hv with
        | cons hy hv => cases hy; cases hv with
          | cons hz hv =>
            cases hz; cases hv
            cases e
            have hrun := Any7.bits_Sub64 subL x y b (Nat.le_of_ble_eq_true hb) w
            have hrun : (callFunc 220 [Value.int .u64 (Int.ofNat x), Value.int .u64 (Int.ofNat y), Value.int .u64 (Int.ofNat b)].toArray).run Tryz.prog w = _ := hrun
            rw [hrun]
            exact same_After R (.tuple (.cons (.int _ _) (.cons (.int _ _) .nil)))
  · cases e
theorem yesP_eq : yesP = yesE := by funext a h; cases a <;> rfl
set_option maxRecDepth 100000 in
theorem soundP : Sound Tryz.prog cxP := by
  refine ⟨cx_ok names_ok sts_ok, MDel.hm, ?_⟩
  intro f e h
  have h : (bif Nat.beq f 32 then some yesP else bif Nat.beq f 222 then some addP else bif Nat.beq f 220 then some subP else none) = some e := h
  rcases ext_cases (k := 32) (x := yesP) h with g | h
  · exact sum_of g (yesP_eq ▸ yes_ok Awake.f32 Awake.n32 Awake.b32 (fun w _ => Awake.awake13 w))
  · rcases ext_cases (k := 222) (x := addP) h with g | h
    · exact sum_of g add_sum
    · rcases ext_cases (k := 220) (x := subP) h with g | h
      · exact sum_of g sub_sum
      · cases h
theorem f8 : Tryz.prog.funcs[8]? = some Tryz.f8 := by kernel_rfl
theorem b8 : Tryz.f8.body = some (Tryz.f8.body.getD .skip) := by kernel_rfl
theorem n8 : Tryz.f8.name ≠ "runtime.NumGoroutine" := by decide
theorem fn8 : cxP.fn 8 = some Tryz.f8 := by show Tryz.prog.funcs.toList[8]? = _; rw [Array.getElem?_toList]; exact f8
theorem meanOps (n : Int) {k1 n1 k2 n2 : Int} {a1 a2 : Option Addr} {l1 c1 l2 c2 : Nat} {x1 x2 : List Int} (w : World) (h1 : SlA w a1 l1 c1 x1) (h2 : SlA w a2 l2 c2 x2) :
    Calls Tryz.prog 8 #[.int .i64 n, .agg #[.int .i64 k1, .int .i64 n1, .slice a1 l1 c1], .agg #[.int .i64 k2, .int .i64 n2, .slice a2 l2 c2]] w fun e w' => e = .returned (.bool true) ∧ Below w.heap.size w w' := by
  obtain ⟨Φ, g, H, μ, v1, v2, hs, hr, r1, r2, q1, q2, f1', f2'⟩ := two_args h1 h2
  obtain ⟨N, hc⟩ := call_ok n ⟨k1, n1, x1⟩ ⟨k2, n2, x2⟩
  have reps : Reps Φ g [(.int .i64 n : V), .st 4 (⟨k1, n1, x1⟩ : T_api_Value), .st 4 (⟨k2, n2, x2⟩ : T_api_Value)] [.int .i64 n, .agg ⟨[.int .i64 k1, .int .i64 n1, v1]⟩, .agg ⟨[.int .i64 k2, .int .i64 n2, v2]⟩] := by
    refine .cons (.int _ _) (.cons (.st (c := 4) (.cons (.int _ _) (.cons (.int _ _) (.cons r1 .nil))) ?_ (by show 3 ≤ 40; omega)) (.cons (.st (c := 4) (.cons (.int _ _) (.cons (.int _ _) (.cons r2 .nil))) ?_ (by show 3 ≤ 40; omega)) .nil))
    · intro v hv
      simp only [List.mem_cons, List.not_mem_nil, or_false] at hv
      rcases hv with rfl | rfl | rfl <;> first | rfl | exact f1'
    · intro v hv
      simp only [List.mem_cons, List.not_mem_nil, or_false] at hv
      rcases hv with rfl | rfl | rfl <;> first | rfl | exact f2'
  obtain ⟨v, H', Φ', g', e, hv, _, _⟩ := hc (N + 1) (Nat.le_succ _) Φ g H _ hs reps
  cases hv
  have e : (match cxP.ext 8 with | some e => e [.int .i64 n, .agg ⟨[.int .i64 k1, .int .i64 n1, v1]⟩, .agg ⟨[.int .i64 k2, .int .i64 n2, v2]⟩] H | none => match cxP.fn 8 with | some fn => evBody cxP (evFun cxP N) (evDef cxP (evFun cxP N) N) N fn [.int .i64 n, .agg ⟨[.int .i64 k1, .int .i64 n1, v1]⟩, .agg ⟨[.int .i64 k2, .int .i64 n2, v2]⟩] H | none => .no) = .ok (.bool true) H' := e
  rw [show cxP.ext 8 = none from rfl, fn8] at e
  have e : evBody cxP (evFun cxP N) (evDef cxP (evFun cxP N) N) N Tryz.f8 [.int .i64 n, .agg ⟨[.int .i64 k1, .int .i64 n1, v1]⟩, .agg ⟨[.int .i64 k2, .int .i64 n2, v2]⟩] H = .ok (.bool true) H' := e
  have vrs : VRs μ [.int .i64 n, .agg ⟨[.int .i64 k1, .int .i64 n1, v1]⟩, .agg ⟨[.int .i64 k2, .int .i64 n2, v2]⟩] [.int .i64 n, .agg ⟨[.int .i64 k1, .int .i64 n1, .slice a1 l1 c1]⟩, .agg ⟨[.int .i64 k2, .int .i64 n2, .slice a2 l2 c2]⟩] := by
    refine .cons (.int _ _) (.cons (.agg (.cons (.int _ _) (.cons (.int _ _) (.cons q1 .nil))) ?_) (.cons (.agg (.cons (.int _ _) (.cons (.int _ _) (.cons q2 .nil))) ?_) .nil))
    · intro v hv
      simp only [List.mem_cons, List.not_mem_nil, or_false] at hv
      rcases hv with rfl | rfl | rfl <;> first | rfl | exact f1_one f1'
    · intro v hv
      simp only [List.mem_cons, List.not_mem_nil, or_false] at hv
      rcases hv with rfl | rfl | rfl <;> first | rfl | exact f1_one f2'
  refine (run_ok soundP f8 n8 b8 e vrs hr).mono fun en w' ⟨v', g1, μ', g2, g3, _⟩ => ?_
  cases g2
  exact ⟨g1, g3.below⟩
end Go.Pm
