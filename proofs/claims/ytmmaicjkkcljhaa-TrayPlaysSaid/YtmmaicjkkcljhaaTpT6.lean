/- TpT6: the calls that came in, opened. -/
import Derived.Test.YtmmaicjkkcljhaaTpT5
import Derived.Deep.Slices
import Derived.Deep.Fields
import Derived.ChangeSame
namespace Go.Tp
open Go Go.Maps Go.RowKit Go.Proofs
open Go.ChangeShapes Go.WideShapes Go.Deep
set_option linter.unusedVariables false

def intAt (W : World) (p : Addr) : Int := match W.cell? p with | some (.int _ n) => n | _ => 0
def strAt (W : World) (p : Addr) : ByteArray := match W.cell? p with | some (.string s) => s | _ => ⟨#[]⟩
def boolAt (W : World) (p : Addr) : Bool := match W.cell? p with | some (.bool s) => s | _ => false
theorem cellsOf33 : Try.prog.cellsOf 33 = 5 := by kernel_rfl
theorem cellsOf28 : Try.prog.cellsOf 28 = 3 := by kernel_rfl
theorem one3 : Try.prog.cellsOf 3 = 1 := by kernel_rfl
theorem one9 : Try.prog.cellsOf 9 = 1 := by kernel_rfl
theorem one4 : Try.prog.cellsOf 4 = 1 := by kernel_rfl

theorem open_acts {H : Type} {enc : TypeId × Value → H} {W : World} {a : Option Addr} {len cap : Nat} {d : DataW H} {p : List MemPlace}
    (h : DataW.Trod enc Try.prog W 0 (fun _ => true) true 31 (.slice a len cap) d p) :
    ∃ x : Addr, Acts W a len (fun i => intAt W (x.add (i * 5 + 0))) (fun i => intAt W (x.add (i * 5 + 1))) (fun i => ⟨strAt W (x.add (i * 5 + 2)), strAt W (x.add (i * 5 + 3)), boolAt W (x.add (i * 5 + 4))⟩) := by
  obtain ⟨fuel, hf⟩ := h
  rcases open_slice Try.underlying31 hf with ⟨hcs, _⟩ | ⟨x, l, c, m, n, D, Pl, hcs, _, hl, _, hm, _, hi⟩
  · simp [Value.cells] at hcs
    obtain ⟨rfl, rfl, rfl⟩ := hcs
    exact ⟨⟨0, 0, none⟩, fun i hi => by omega, fun i hi => by omega⟩
  · simp [Value.cells] at hcs
    obtain ⟨rfl, rfl, rfl⟩ := hcs
    have key : ∀ i, i < len → ∃ (op nn : Int) (s1 s2 : ByteArray) (u : Bool), W.cell? (x.add (i * 5 + 0)) = some (.int .i64 op) ∧ W.cell? (x.add (i * 5 + 1)) = some (.int .i64 nn) ∧ W.cell? (x.add (i * 5 + 2)) = some (.string s1) ∧
        W.cell? (x.add (i * 5 + 3)) = some (.string s2) ∧ W.cell? (x.add (i * 5 + 4)) = some (.bool u) ∧ (Lit.int .i64 nn).wf = true := by
      intro i hil
      obtain ⟨cs', hc, ht⟩ := hi i (by simp at hm; omega)
      rw [cellsOf33] at hc
      obtain ⟨_, hcl, hat⟩ := World.cells?_some hc
      obtain ⟨xs, n', _, _, _, hxl, hfl⟩ := DataW.trod_struct Try.underlying33 ht
      match cs', hcl with
      | [c0, c1, c2, c3, c4], _ =>
        have len3 : xs.length = 3 := hxl
        have get : ∀ j, j < 3 → ∃ y, xs[j]? = some y := fun j hj => ⟨xs[j]'(by omega), List.getElem?_eq_getElem (by omega)⟩
        have e0 : DataW.trod enc Try.prog W 0 (fun _ => true) true n' 3 (([c0, c1, c2, c3, c4].drop 0).take (Try.prog.cellsOf 3)) = xs[0]? := hfl 0 _ rfl
        rw [one3] at e0
        have e1 : DataW.trod enc Try.prog W 0 (fun _ => true) true n' 3 (([c0, c1, c2, c3, c4].drop 1).take (Try.prog.cellsOf 3)) = xs[1]? := hfl 1 _ rfl
        rw [one3] at e1
        have e2 : DataW.trod enc Try.prog W 0 (fun _ => true) true n' 28 (([c0, c1, c2, c3, c4].drop 2).take (Try.prog.cellsOf 28)) = xs[2]? := hfl 2 _ rfl
        rw [cellsOf28] at e2
        obtain ⟨y0, h0⟩ := get 0 (by decide)
        obtain ⟨y1, h1⟩ := get 1 (by decide)
        obtain ⟨y2, h2⟩ := get 2 (by decide)
        obtain ⟨op, q0, _, _⟩ := DataW.trod_int Try.underlying3 (e0.trans h0)
        obtain ⟨nn, q1, _, w1⟩ := DataW.trod_int Try.underlying3 (e1.trans h1)
        obtain ⟨ys, n2, _, _, _, hyl, hgl⟩ := DataW.trod_struct Try.underlying28 (e2.trans h2)
        have len3' : ys.length = 3 := hyl
        have get' : ∀ j, j < 3 → ∃ y, ys[j]? = some y := fun j hj => ⟨ys[j]'(by omega), List.getElem?_eq_getElem (by omega)⟩
        have f0 : DataW.trod enc Try.prog W 0 (fun _ => true) true n2 9 (([c2, c3, c4].drop 0).take (Try.prog.cellsOf 9)) = ys[0]? := hgl 0 _ rfl
        rw [one9] at f0
        have f1 : DataW.trod enc Try.prog W 0 (fun _ => true) true n2 9 (([c2, c3, c4].drop 1).take (Try.prog.cellsOf 9)) = ys[1]? := hgl 1 _ rfl
        rw [one9] at f1
        have f2 : DataW.trod enc Try.prog W 0 (fun _ => true) true n2 4 (([c2, c3, c4].drop 2).take (Try.prog.cellsOf 4)) = ys[2]? := hgl 2 _ rfl
        rw [one4] at f2
        obtain ⟨z0, g0⟩ := get' 0 (by decide)
        obtain ⟨z1, g1⟩ := get' 1 (by decide)
        obtain ⟨z2, g2⟩ := get' 2 (by decide)
        obtain ⟨s1, r0, _, _⟩ := DataW.trod_string Try.underlying9 (f0.trans g0)
        obtain ⟨s2, r1, _, _⟩ := DataW.trod_string Try.underlying9 (f1.trans g1)
        obtain ⟨u, r2, _⟩ := DataW.trod_bool Try.underlying4 (f2.trans g2)
        simp at q0 q1 r0 r1 r2
        subst q0; subst q1; subst r0; subst r1; subst r2
        refine ⟨op, nn, s1, s2, u, ?_, ?_, ?_, ?_, ?_, w1⟩
        · rw [← Go.Deep.add_add]; exact hat 0 (by decide)
        · rw [← Go.Deep.add_add]; exact hat 1 (by decide)
        · rw [← Go.Deep.add_add]; exact hat 2 (by decide)
        · rw [← Go.Deep.add_add]; exact hat 3 (by decide)
        · rw [← Go.Deep.add_add]; exact hat 4 (by decide)
    refine ⟨x, fun i hi => ⟨x, rfl, ?_, ?_⟩, fun i hi => ?_⟩
    · obtain ⟨op, nn, s1, s2, u, k0, _⟩ := key i hi
      have hb : (x.add (i * 5 + 0)).block < W.heap.size := by
        by_cases g : (x.add (i * 5 + 0)).block < W.heap.size
        · exact g
        · have : W.heap[(x.add (i * 5 + 0)).block]? = none := Array.getElem?_eq_none (by omega)
          unfold World.cell? at k0
          rw [this] at k0
          cases k0
      rwa [add_block] at hb
    · obtain ⟨op, nn, s1, s2, u, k0, k1, k2, k3, k4, _⟩ := key i hi
      refine ⟨?_, ?_, ?_, ?_, ?_⟩
      · rw [k0]; simp only [intAt, k0]
      · rw [k1]; simp only [intAt, k1]
      · rw [k2]; simp only [strAt, k2]
      · rw [k3]; simp only [strAt, k3]
      · rw [k4]; simp only [boolAt, k4]
    · obtain ⟨op, nn, s1, s2, u, k0, k1, k2, k3, k4, w1⟩ := key i hi
      simp only [intAt, k1]
      exact w1
end Go.Tp
