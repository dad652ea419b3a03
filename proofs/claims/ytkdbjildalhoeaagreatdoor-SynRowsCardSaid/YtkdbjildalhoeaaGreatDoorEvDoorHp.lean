/- DoorHp: strings.HasPrefix, told; and the summaries with it. -/
import Derived.Test.YtkdbjildalhoeaaGreatDoorEvDoorRun
import Derived.Shelf.RegionOpenPlain
import Derived.WalkKit
import Derived.Lib.Walk
import Derived.Lib.Strings
import Derived.Lib.Slices
import Derived.Laws.Strings3
namespace Go.EvM.DoorRun
open Go.RowKit Go.Proofs Go.Lib
set_option linter.unusedVariables false

set_option maxRecDepth 100000 in
set_option maxHeartbeats 1000000 in
theorem hp185 (s p : ByteArray) (w : World) :
    Calls Tryz.prog 185 #[.string s, .string p] w fun e w' => e = .returned (.bool (Lib.hasPrefix s.data.toList p.data.toList)) ∧ w' = w := by
  rw [← Lib.hasPrefix_of_take, ← Lib.size_eq, ← Lib.size_eq]
  go_enter Tryz.func185, Tryz.ntmps185
  go_wp2
  · rename_i h
    go_ret
    refine ⟨?_, rfl⟩
    show Ending.returned (Value.bool ((s.extract 0 p.size).toList == p.toList)) = _
    rw [Lib.extract_toList, Lib.toList_data]
    simp [h]
  · rename_i h
    go_ret
    refine ⟨?_, rfl⟩
    show Ending.returned (Value.bool false) = _
    simp [h]
set_option maxRecDepth 100000 in
set_option maxHeartbeats 1000000 in
theorem hp127 (s p : ByteArray) (w : World) :
    Calls Tryz.prog 127 #[.string s, .string p] w fun e w' => e = .returned (.bool (Lib.hasPrefix s.data.toList p.data.toList)) ∧ w' = w := by
  go_enter Tryz.func127, Tryz.ntmps127
  go_wp2_with (refine (hp185 _ _ _).mono ?_; rintro e w' ⟨rfl, hw⟩; rw [hw])
  go_ret
  exact ⟨rfl, rfl⟩

noncomputable def hpL (p : List UInt8) : List UInt8 → Bool :=
  List.rec (motive := fun _ => List UInt8 → Bool) (fun _ => true) (fun a _ ih m => List.rec (motive := fun _ => Bool) false (fun b m _ => bif Nat.beq a.toNat b.toNat then ih m else false) m) p
noncomputable def hpE (args : List Value) (h : Hp) : OR :=
  match args with
  | [.string s, .string p] => .ok (.bool (hpL p.data.toList s.data.toList)) h
  | _ => .no
theorem hpL_eq : ∀ (p s : List UInt8), hpL p s = Lib.hasPrefix s p
  | [], s => by cases s <;> rfl
  | a :: p, [] => rfl
  | a :: p, b :: s => by
    show (bif Nat.beq a.toNat b.toNat then hpL p s else false) = ((a == b) && p.isPrefixOf s)
    rw [hpL_eq p s]
    unfold Lib.hasPrefix
    by_cases h : a = b
    · subst h
      have h3 : Nat.beq a.toNat a.toNat = true := Nat.beq_refl _
      rw [h3]; simp
    · have h2 : ¬ a.toNat = b.toNat := fun e => h (UInt8.toNat_inj.1 e)
      have h3 : Nat.beq a.toNat b.toNat = false := by cases hb : Nat.beq a.toNat b.toNat with
        | true => exact absurd (Nat.eq_of_beq_eq_true hb) h2
        | false => rfl
      rw [h3]
      simp [h]
theorem f127 : Tryz.prog.funcs[127]? = some Tryz.f127 := by kernel_rfl
theorem b127 : Tryz.f127.body = some (Tryz.f127.body.getD .skip) := by kernel_rfl
theorem n127 : Tryz.f127.name ≠ "runtime.NumGoroutine" := by decide
set_option maxRecDepth 100000 in
theorem hp_ok : SumOk Tryz.prog 127 hpE := by
  intro args h v h' ev W μ w args' hv R
  unfold hpE at ev
  split at ev
  · rename_i s p
    cases ev
    cases hv with
    | cons h1 h2 => cases h2 with
      | cons h3 h4 =>
        cases h4; cases h1; cases h3
        rw [MuLone.run_callFunc_enter f127 (by simpa using n127) b127]
        refine (hp127 s p w).mono ?_
        rintro e' w' ⟨rfl, rfl⟩
        exact ⟨_, rfl, μ, (hpL_eq p.data.toList s.data.toList) ▸ VR.bool _, R, Ext.refl _ _, Nat.le_refl _⟩
  · cases ev
noncomputable def ext2 : FuncId → Option (List Value → Hp → OR) := fun f => bif Nat.beq f 13 then some yesE else bif Nat.beq f 127 then some hpE else bif Nat.beq f 108 then some noEscE else none
noncomputable def cx2 : Cx := mkCx Tryz.prog [] ext2
set_option maxRecDepth 100000 in
theorem sound2 : Sound Tryz.prog cx2 := by
  refine ⟨cx_ok names_ok rfl, hm, ?_⟩
  intro f e h
  have h : (bif Nat.beq f 13 then some yesE else bif Nat.beq f 127 then some hpE else bif Nat.beq f 108 then some noEscE else none) = some e := h
  rcases ext_cases (k := 13) (x := yesE) h with g | h
  · exact sum_of g (yes_ok f13 n13 b13 awake)
  · rcases ext_cases (k := 127) (x := hpE) h with g | h
    · exact sum_of g hp_ok
    · rcases ext_cases (k := 108) (x := noEscE) h with g | h
      · exact sum_of g noEsc
      · cases h
def Yes8 (n : Int) : Prop := isYes (fastBody cx2 (fastFun cx2 2000) (fastDef cx2 (fastFun cx2 2000) 2000) 2000 Tryz.f7 [.int .i64 n] ⟨0, .nil⟩) = true
end Go.EvM.DoorRun
