/- BkP9: the entries that came in, opened. -/
import Derived.Test.YtmnpdgldmpjekaaBkP8
import Derived.Deep.Slices
import Derived.Deep.Fields
import Derived.ChangeSame
namespace Go.Bk
open Go Go.Maps Go.RowKit Go.Proofs
open Go.ChangeShapes Go.WideShapes Go.Deep
set_option linter.unusedVariables false

def intAt (W : World) (p : Addr) : Int := match W.cell? p with | some (.int _ n) => n | _ => 0
def strAt (W : World) (p : Addr) : ByteArray := match W.cell? p with | some (.string s) => s | _ => ⟨#[]⟩
theorem cellsOf29 : Try.prog.cellsOf 29 = 5 := by kernel_rfl
theorem one3 : Try.prog.cellsOf 3 = 1 := by kernel_rfl
theorem one9 : Try.prog.cellsOf 9 = 1 := by kernel_rfl
theorem one2 : Try.prog.cellsOf 2 = 1 := by kernel_rfl

theorem open_ents {H : Type} {enc : TypeId × Value → H} {W : World} {a : Option Addr} {len cap : Nat} {d : DataW H} {p : List MemPlace}
    (h : DataW.Trod enc Try.prog W 0 (fun _ => true) true 22 (.slice a len cap) d p) :
    ∃ x : Addr, Ents W a len (fun i => intAt W (x.add (i * 5 + 0))) (fun i => intAt W (x.add (i * 5 + 3))) (fun i => strAt W (x.add (i * 5 + 1))) (fun i => strAt W (x.add (i * 5 + 2))) (fun i => strAt W (x.add (i * 5 + 4))) := by
  obtain ⟨fuel, hf⟩ := h
  rcases open_slice Try.underlying22 hf with ⟨hcs, _⟩ | ⟨x, l, c, m, n, D, Pl, hcs, _, hl, _, hm, _, hi⟩
  · simp [Value.cells] at hcs
    obtain ⟨rfl, rfl, rfl⟩ := hcs
    exact ⟨⟨0, 0, none⟩, fun i hi => by omega, fun i hi => by omega⟩
  · simp [Value.cells] at hcs
    obtain ⟨rfl, rfl, rfl⟩ := hcs
    have key : ∀ i, i < len → ∃ (dy am : Int) (db cr me : ByteArray), W.cell? (x.add (i * 5 + 0)) = some (.int .i64 dy) ∧ W.cell? (x.add (i * 5 + 1)) = some (.string db) ∧ W.cell? (x.add (i * 5 + 2)) = some (.string cr) ∧
        W.cell? (x.add (i * 5 + 3)) = some (.int .i64 am) ∧ W.cell? (x.add (i * 5 + 4)) = some (.string me) ∧ (Lit.int .i64 am).wf = true ∧ db.size ≤ maxLen ∧ cr.size ≤ maxLen := by
      intro i hil
      obtain ⟨cs', hc, ht⟩ := hi i (by simp at hm; omega)
      rw [cellsOf29] at hc
      obtain ⟨_, hcl, hat⟩ := World.cells?_some hc
      obtain ⟨xs, n', _, _, _, hxl, hfl⟩ := DataW.trod_struct Try.underlying29 ht
      match cs', hcl with
      | [c0, c1, c2, c3, c4], _ =>
        have len5 : xs.length = 5 := hxl
        have get : ∀ j, j < 5 → ∃ y, xs[j]? = some y := fun j hj => ⟨xs[j]'(by omega), List.getElem?_eq_getElem (by omega)⟩
        have e0 : DataW.trod enc Try.prog W 0 (fun _ => true) true n' 3 (([c0, c1, c2, c3, c4].drop 0).take (Try.prog.cellsOf 3)) = xs[0]? := hfl 0 _ rfl
        rw [one3] at e0
        have e1 : DataW.trod enc Try.prog W 0 (fun _ => true) true n' 9 (([c0, c1, c2, c3, c4].drop 1).take (Try.prog.cellsOf 9)) = xs[1]? := hfl 1 _ rfl
        rw [one9] at e1
        have e2 : DataW.trod enc Try.prog W 0 (fun _ => true) true n' 9 (([c0, c1, c2, c3, c4].drop 2).take (Try.prog.cellsOf 9)) = xs[2]? := hfl 2 _ rfl
        rw [one9] at e2
        have e3 : DataW.trod enc Try.prog W 0 (fun _ => true) true n' 2 (([c0, c1, c2, c3, c4].drop 3).take (Try.prog.cellsOf 2)) = xs[3]? := hfl 3 _ rfl
        rw [one2] at e3
        have e4 : DataW.trod enc Try.prog W 0 (fun _ => true) true n' 9 (([c0, c1, c2, c3, c4].drop 4).take (Try.prog.cellsOf 9)) = xs[4]? := hfl 4 _ rfl
        rw [one9] at e4
        obtain ⟨y0, h0⟩ := get 0 (by decide)
        obtain ⟨y1, h1⟩ := get 1 (by decide)
        obtain ⟨y2, h2⟩ := get 2 (by decide)
        obtain ⟨y3, h3⟩ := get 3 (by decide)
        obtain ⟨y4, h4⟩ := get 4 (by decide)
        obtain ⟨dy, q0, _, _⟩ := DataW.trod_int Try.underlying3 (e0.trans h0)
        obtain ⟨db, q1, _, b1⟩ := DataW.trod_string Try.underlying9 (e1.trans h1)
        obtain ⟨cr, q2, _, b2⟩ := DataW.trod_string Try.underlying9 (e2.trans h2)
        obtain ⟨am, q3, _, w3⟩ := DataW.trod_int Try.underlying2 (e3.trans h3)
        obtain ⟨me, q4, _, b4⟩ := DataW.trod_string Try.underlying9 (e4.trans h4)
        simp at q0 q1 q2 q3 q4
        subst q0; subst q1; subst q2; subst q3; subst q4
        refine ⟨dy, am, db, cr, me, ?_, ?_, ?_, ?_, ?_, w3, b1, b2⟩
        · rw [← Go.Deep.add_add]; exact hat 0 (by decide)
        · rw [← Go.Deep.add_add]; exact hat 1 (by decide)
        · rw [← Go.Deep.add_add]; exact hat 2 (by decide)
        · rw [← Go.Deep.add_add]; exact hat 3 (by decide)
        · rw [← Go.Deep.add_add]; exact hat 4 (by decide)
    refine ⟨x, fun i hi => ⟨x, rfl, ?_, ?_⟩, fun i hi => ?_⟩
    · obtain ⟨dy, am, db, cr, me, k0, _⟩ := key i hi
      have hb : (x.add (i * 5 + 0)).block < W.heap.size := by
        by_cases g : (x.add (i * 5 + 0)).block < W.heap.size
        · exact g
        · have : W.heap[(x.add (i * 5 + 0)).block]? = none := Array.getElem?_eq_none (by omega)
          unfold World.cell? at k0
          rw [this] at k0
          cases k0
      rwa [add_block] at hb
    · obtain ⟨dy, am, db, cr, me, k0, k1, k2, k3, k4, _⟩ := key i hi
      refine ⟨?_, ?_, ?_, ?_, ?_⟩
      · rw [k0]; simp only [intAt, k0]
      · rw [k1]; simp only [strAt, k1]
      · rw [k2]; simp only [strAt, k2]
      · rw [k3]; simp only [intAt, k3]
      · rw [k4]; simp only [strAt, k4]
    · obtain ⟨dy, am, db, cr, me, k0, k1, k2, k3, k4, w3, b1, b2⟩ := key i hi
      simp only [intAt, strAt, k3, k1, k2]
      exact ⟨w3, b1, b2⟩
end Go.Bk
