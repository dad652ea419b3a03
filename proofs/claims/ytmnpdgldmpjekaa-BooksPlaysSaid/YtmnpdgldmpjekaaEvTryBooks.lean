/- TryBooks: the summaries at this dump, and awake. -/
import Derived.Test.YtmnpdgldmpjekaaEvTryTrial
import Derived.Test.YtmnpdgldmpjekaaBkIterB
namespace Go.EvM.TryBooks
open Go.RowKit Go.Proofs Go.Maps Go.Sort Go.Shelf
set_option linter.unusedVariables false

theorem tells : SortedTells Try.prog 20 31 9 := by
  intro blk b nn D0 R w hlt hcell hown hmax hbytes
  have hseq : SeqGives Fence.wide 2 Try.prog 31 #[.pointer (some ⟨blk, 0, none⟩)] encStr (fun ss => ss.Perm (strKeys D0)) (Maps.size D0) w :=
    AnyZ.keys_gives (ρ := Try.keys21_ren) { Try.keys21 with } Fence.wide _ trivial rfl (by omega) blk b nn D0 w hlt hcell hown
  exact callsIn_wide.1 (AnyZ.sorted_in Try.sorted20 Fence.wide 5 trivial trivial trivial trivial rfl (by omega) (Try.sorts20 _) (enters_of Try.func30 (by kernel_rfl) rfl) 31 #[.pointer (some ⟨blk, 0, none⟩)] trivial (enters_of Try.func31 (by kernel_rfl) rfl) _ _ hmax hbytes _ hseq)

noncomputable def ext : FuncId → Option (List Value → Hp → OR) := fun f => bif Nat.beq f 11 then some (trialE 1) else bif Nat.beq f 20 then some (sortedE 31) else bif Nat.beq f 37 then some cloneE else none
noncomputable def cx : Cx := mkCx Try.prog ext

theorem f20 : Try.prog.funcs[20]? = some Try.f20 := by kernel_rfl
theorem f37 : Try.prog.funcs[37]? = some Try.f37 := by kernel_rfl
theorem b20 : Try.f20.body = some (Try.f20.body.getD .skip) := by kernel_rfl
set_option maxRecDepth 100000 in
theorem sound : Sound Try.prog cx := by
  refine ⟨cx_ok (by kernel_rfl), by kernel_rfl, ?_⟩
  · intro f e h
    have h : (bif Nat.beq f 11 then some (trialE 1) else bif Nat.beq f 20 then some (sortedE 31) else bif Nat.beq f 37 then some cloneE else none) = some e := h
    rcases ext_cases (k := 11) (x := trialE 1) h with g | h
    · exact sum_of g TryTrial.trial_ok
    · rcases ext_cases (k := 20) (x := sortedE 31) h with g | h
      · exact sum_of g (sorted_ok (by kernel_rfl) f20 (by kernel_rfl) b20 tells)
      · rcases ext_cases (k := 37) (x := cloneE) h with g | h
        · exact sum_of g (clone_ok f37 (by kernel_rfl) (by kernel_rfl) (by kernel_rfl) (by kernel_rfl))
        · cases h

theorem f6 : Try.prog.funcs[6]? = some Try.f6 := by kernel_rfl
theorem b6 : Try.f6.body = some (Try.f6.body.getD .skip) := by kernel_rfl
theorem awake (w : World) : Calls Try.prog 6 #[] w fun e w' => e = .returned (.bool true) ∧ Below w.heap.size w w' :=
  run_true sound (n := 2000) f6 (by decide) b6 (by kernel_rfl) w
end Go.EvM.TryBooks
