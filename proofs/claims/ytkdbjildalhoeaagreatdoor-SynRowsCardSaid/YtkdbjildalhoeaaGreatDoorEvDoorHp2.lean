/- DoorHp2: three questions asked of a byte, told: each by its 256 answers. -/
import Derived.Test.YtkdbjildalhoeaaGreatDoorEvDoorHp
namespace Go.EvM.DoorRun
open Go.RowKit Go.Proofs
set_option linter.unusedVariables false

def isBl (b : Bool) : OR → Bool
  | .ok (.bool c) _ => (match b, c with | true, true => true | false, false => true | _, _ => false)
  | _ => false
theorem fast_bool {P : Program} {cx : Cx} (H : Sound P cx) (n : Nat) {f : FuncId} {fn : Func} {c : Code} (hf : P.funcs[f]? = some fn) (hn : fn.name ≠ "runtime.NumGoroutine") (hb : fn.body = some c) {args args' : List Value} {b : Bool}
    (e : isBl b (fastBody cx (fastFun cx n) (fastDef cx (fastFun cx n) n) n fn args ⟨0, .nil⟩) = true) (hv : VRs (fun _ => none) args args') (w : World) :
    Calls P f args'.toArray w fun e w' => e = .returned (.bool b) ∧ Below w.heap.size w w' := by
  rw [fastDef_eq, fastFun_eq, fastBody_eq] at e
  cases he : evBody cx (evFun cx n) (evDef cx (evFun cx n) n) n fn args ⟨0, .nil⟩ with
  | no => rw [he] at e; cases e
  | ok v h =>
    rw [he] at e
    have hvb : v = .bool b := by
      cases v with
      | bool c => cases b <;> cases c <;> first | rfl | cases e
      | _ => cases e
    subst hvb
    refine (run_ok H hf hn hb he hv (rel_empty w)).mono fun e w' ⟨v', h1, μ', h2, h3, _⟩ => ?_
    cases h2
    exact ⟨h1, h3.below⟩

noncomputable def byE (q : Nat → Bool) (args : List Value) (h : Hp) : OR :=
  match args with
  | [.int .u8 (.ofNat c)] => bif Nat.blt c 256 then .ok (.bool (q c)) h else .no
  | _ => .no
theorem by_ok {P : Program} {f : FuncId} {fn : Func} {c : Code} (q : Nat → Bool) (hf : P.funcs[f]? = some fn) (hn : fn.name ≠ "runtime.NumGoroutine") (hb : fn.body = some c)
    (e : ∀ k, k < 256 → ∀ w : World, Calls P f #[.int .u8 (.ofNat k)] w fun e w' => e = .returned (.bool (q k)) ∧ Below w.heap.size w w') : SumOk P f (byE q) := by
  intro args h v h' ev W μ w args' hv R
  unfold byE at ev
  split at ev
  · rename_i k
    cases hk : Nat.blt k 256 with
    | false => rw [hk] at ev; cases ev
    | true =>
      rw [hk] at ev; cases ev
      have hk := blt_lt hk
      cases hv with
      | cons h1 h2 =>
        cases h2; cases h1
        rw [MuLone.run_callFunc_enter hf (by simpa using hn) hb]
        refine (e k hk w).mono ?_
        rintro e' w' ⟨rfl, hbel⟩
        exact ⟨_, rfl, μ, .bool _, ⟨R.dom, fun b i o h1 h2 => have ro := R.ob b i o h1 h2; ro.move (Le.refl _) (hbel.block _ ro.old), R.inj, R.below.trans (hbel.mono R.below.size)⟩, Ext.refl _ _, Nat.le_refl _⟩
  · cases ev

def qDigit (c : Nat) : Bool := Nat.ble 48 c && Nat.ble c 57
def qLetter (c : Nat) : Bool := Nat.ble 97 c && Nat.ble c 122
def qName (c : Nat) : Bool := (qLetter c || qDigit c) || Nat.beq c 95
noncomputable def all256 (fn : Func) (q : Nat → Bool) : Bool :=
  (List.range 256).all fun k => isBl (q k) (fastBody cx0 (fastFun cx0 2000) (fastDef cx0 (fastFun cx0 2000) 2000) 2000 fn [.int .u8 (.ofNat k)] ⟨0, .nil⟩)
theorem f120 : Tryz.prog.funcs[120]? = some Tryz.f120 := by kernel_rfl
theorem b120 : Tryz.f120.body = some (Tryz.f120.body.getD .skip) := by kernel_rfl
theorem n120 : Tryz.f120.name ≠ "runtime.NumGoroutine" := by decide
theorem f121 : Tryz.prog.funcs[121]? = some Tryz.f121 := by kernel_rfl
theorem b121 : Tryz.f121.body = some (Tryz.f121.body.getD .skip) := by kernel_rfl
theorem n121 : Tryz.f121.name ≠ "runtime.NumGoroutine" := by decide
theorem f124 : Tryz.prog.funcs[124]? = some Tryz.f124 := by kernel_rfl
theorem b124 : Tryz.f124.body = some (Tryz.f124.body.getD .skip) := by kernel_rfl
theorem n124 : Tryz.f124.name ≠ "runtime.NumGoroutine" := by decide
theorem a120 : all256 Tryz.f120 qLetter = true := by kernel_rfl
theorem a121 : all256 Tryz.f121 qName = true := by kernel_rfl
theorem a124 : all256 Tryz.f124 qDigit = true := by kernel_rfl
set_option maxRecDepth 100000 in
theorem of_all {f : FuncId} {fn : Func} {c : Code} {q : Nat → Bool} (hf : Tryz.prog.funcs[f]? = some fn) (hn : fn.name ≠ "runtime.NumGoroutine") (hb : fn.body = some c) (h : all256 fn q = true) : SumOk Tryz.prog f (byE q) := by
  unfold all256 at h
  rw [List.all_eq_true] at h
  refine by_ok q hf hn hb fun k hk w => ?_
  have hv : VRs (fun _ => none) [Value.int .u8 (.ofNat k)] [Value.int .u8 (.ofNat k)] := .cons (.int _ _) .nil
  have hb2 := h k (List.mem_range.2 hk)
  exact fast_bool sound0 2000 hf hn hb hb2 hv w
set_option maxRecDepth 100000 in
theorem letter_ok : SumOk Tryz.prog 120 (byE qLetter) := of_all f120 n120 b120 a120
set_option maxRecDepth 100000 in
theorem name_ok : SumOk Tryz.prog 121 (byE qName) := of_all f121 n121 b121 a121
set_option maxRecDepth 100000 in
theorem digit_ok : SumOk Tryz.prog 124 (byE qDigit) := of_all f124 n124 b124 a124
noncomputable def ext3 : FuncId → Option (List Value → Hp → OR) := fun f => bif Nat.beq f 13 then some yesE else bif Nat.beq f 127 then some hpE else bif Nat.beq f 121 then some (byE qName) else bif Nat.beq f 124 then some (byE qDigit) else bif Nat.beq f 120 then some (byE qLetter) else bif Nat.beq f 108 then some noEscE else none
noncomputable def cx3 : Cx := mkCx Tryz.prog [] ext3
set_option maxRecDepth 100000 in
theorem sound3 : Sound Tryz.prog cx3 := by
  refine ⟨cx_ok names_ok rfl, hm, ?_⟩
  intro f e h
  have h : (bif Nat.beq f 13 then some yesE else bif Nat.beq f 127 then some hpE else bif Nat.beq f 121 then some (byE qName) else bif Nat.beq f 124 then some (byE qDigit) else bif Nat.beq f 120 then some (byE qLetter) else bif Nat.beq f 108 then some noEscE else none) = some e := h
  rcases ext_cases (k := 13) (x := yesE) h with g | h
  · exact sum_of g (yes_ok f13 n13 b13 awake)
  · rcases ext_cases (k := 127) (x := hpE) h with g | h
    · exact sum_of g hp_ok
    · rcases ext_cases (k := 121) (x := byE qName) h with g | h
      · exact sum_of g name_ok
      · rcases ext_cases (k := 124) (x := byE qDigit) h with g | h
        · exact sum_of g digit_ok
        · rcases ext_cases (k := 120) (x := byE qLetter) h with g | h
          · exact sum_of g letter_ok
          · rcases ext_cases (k := 108) (x := noEscE) h with g | h
            · exact sum_of g noEsc
            · cases h
def Yes9 (n : Int) : Prop := isYes (fastBody cx3 (fastFun cx3 2000) (fastDef cx3 (fastFun cx3 2000) 2000) 2000 Tryz.f7 [.int .i64 n] ⟨0, .nil⟩) = true
end Go.EvM.DoorRun
