/- TryBooks: the summaries at this dump, and BooksKnown. -/
import Derived.Test.YtofdgkbkamhhlaaEvTryTrial
import Derived.Test.YtofdgkbkamhhlaaEvIterTry
namespace Go.EvM.TryBooks
open Go.RowKit Go.Proofs Go.Maps Go.Sort Go.Shelf
set_option linter.unusedVariables false

theorem tells : SortedTells Try.prog 48 67 9 := by
  intro blk b nn D0 R w hlt hcell hown hmax hbytes
  have hseq : SeqGives Fence.wide 2 Try.prog 67 #[.pointer (some ⟨blk, 0, none⟩)] encStr (fun ss => ss.Perm (strKeys D0)) (Maps.size D0) w :=
    AnyZ.keys_gives (ρ := Try.keys49_ren) { Try.keys49 with } Fence.wide _ trivial rfl (by omega) blk b nn D0 w hlt hcell hown
  exact callsIn_wide.1 (AnyZ.sorted_in Try.sorted48 Fence.wide 5 trivial trivial trivial trivial rfl (by omega) (Try.sorts48 _) (enters_of Try.func66 (by kernel_rfl) rfl) 67 #[.pointer (some ⟨blk, 0, none⟩)] trivial (enters_of Try.func67 (by kernel_rfl) rfl) _ _ hmax hbytes _ hseq)

noncomputable def ext : FuncId → Option (List Value → Hp → OR) := fun f => bif Nat.beq f 33 then some (trialE 1) else bif Nat.beq f 48 then some (sortedE 67) else bif Nat.beq f 97 then some cloneE else none
noncomputable def cx : Cx := mkCx Try.prog ext

theorem f48 : Try.prog.funcs[48]? = some Try.f48 := by kernel_rfl
theorem f97 : Try.prog.funcs[97]? = some Try.f97 := by kernel_rfl
theorem b48 : Try.f48.body = some (Try.f48.body.getD .skip) := by kernel_rfl
set_option maxRecDepth 100000 in
theorem sound : Sound Try.prog cx := by
  refine ⟨cx_ok (by kernel_rfl), by kernel_rfl, ?_⟩
  · intro f e h
    have h : (bif Nat.beq f 33 then some (trialE 1) else bif Nat.beq f 48 then some (sortedE 67) else bif Nat.beq f 97 then some cloneE else none) = some e := h
    rcases ext_cases (k := 33) (x := trialE 1) h with g | h
    · exact sum_of g TryTrial.trial_ok
    · rcases ext_cases (k := 48) (x := sortedE 67) h with g | h
      · exact sum_of g (sorted_ok (by kernel_rfl) f48 (by kernel_rfl) b48 tells)
      · rcases ext_cases (k := 97) (x := cloneE) h with g | h
        · exact sum_of g (clone_ok f97 (by kernel_rfl) (by kernel_rfl) (by kernel_rfl) (by kernel_rfl))
        · cases h

theorem f6 : Try.prog.funcs[6]? = some Try.f6 := by kernel_rfl
theorem b6 : Try.f6.body = some (Try.f6.body.getD .skip) := by kernel_rfl
theorem booksKnown (w : World) : Calls Try.prog 6 #[] w fun e w' => e = .returned (.bool true) ∧ Below w.heap.size w w' :=
  run_true sound (n := 2000) f6 (by decide) b6 (by kernel_rfl) w
#print axioms booksKnown
end Go.EvM.TryBooks
