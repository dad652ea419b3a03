/- Trees: told back, compared, measured. -/
import Derived.Test.YtodccifahbgogaaGreatFlA
import Derived.Test.YtodccifahbgogaaGreatFlB
import Derived.Test.YtodccifahbgogaaGreatFmA
import Derived.KernelRfl
set_option linter.unusedVariables false
set_option linter.unusedSectionVars false
set_option linter.unusedSimpArgs false
namespace Go.Pm
open Go Go.EvM Go.Pv
set_option linter.unusedVariables false
variable {R : Type} {G : Option R → Prop} {m : Nat} {P : Prop}
theorem iN (i : Nat) : iNat (i : Int) = i := rfl
theorem inN {i n : Nat} (h : i < n) : inB (i : Int) n = true := inB_t.2 ⟨by omega, by omega⟩
theorem wr1 {i : Nat} (h : i ≤ 1000000) : wr .i64 ((i : Int) + 1) = ((i + 1 : Nat) : Int) := by rw [wr_in (by omega) (by omega)]; omega
theorem el4_get {l : List T9Node} {i : Nat} (h : i < l.length) : el4 l i = l[i] := el5_get h
theorem el4_mem {l : List T9Node} {i : Nat} (h : i < l.length) : el4 l i ∈ l := by rw [el4_get h]; exact List.getElem_mem h
theorem el5_map {l : List T9Node} {f : T9Node → TsynNode} {i : Nat} (h : i < l.length) : el5 (l.map f) i = f (el4 l i) := by
  rw [el4_get h]; unfold el5 getD
  rw [nth_eq, List.getElem?_map, List.getElem?_eq_getElem h]; rfl
theorem take1 {l : List T9Node} {i : Nat} (h : i < l.length) : l.take (i + 1) = l.take i ++ [el4 l i] := by
  rw [List.take_add_one, List.getElem?_eq_getElem h, el4_get h]; rfl
theorem take_len {l : List T9Node} {i : Nat} (h : i ≤ l.length) : (l.take i).length = i := by rw [List.length_take]; omega
theorem sk_eta (r : TsynNode) : TsynNode.mk r.f_Op r.f_Name r.f_Kind r.f_N r.f_At r.f_Kids = r := by cases r; rfl
theorem backN_succ : ∀ {n : Nat} {x : T9Node}, Sm P n x → backN (n + 1) x = backN n x
  | 0, _, h => h.elim
  | n + 1, x, h => by
    show TsynNode.mk _ _ _ _ _ (x.f_Kids.map (backN (n + 1))) = TsynNode.mk _ _ _ _ _ (x.f_Kids.map (backN n))
    rw [List.map_congr_left fun y hy => backN_succ (h.2.2 y hy)]
theorem Tree_L0 {g : G_r17_Tree R} {n : Nat} {ks : List T9Node} (hl : ks.length ≤ 100000) (j : Nat) : ∀ (i : Nat) {x1 x2 : Bs} {x3 x4 x5 : Int} {x6 x7 : Bs} {x8 x9 x10 : Int} {x12 x13 : Bs} {x14 x15 x16 : Int} {x17 : List T9Node}
    {e0 : Bs → Bs → Int → Int → Int → List T9Node → Bs → Bs → Int → Int → Int → List T9Node → Option R},
    i ≤ ks.length → ks.length - i < j → (∀ y, y ∈ ks → ∀ {κ : T9Node → Option R}, G (κ y) → G (g.r17_Tree (backN n y) κ)) → G (e0 x12 x13 x14 x15 x16 x17 x1 x2 x3 x4 x5 ks) →
    G (r17_Tree_L0 m g.r17_Tree e0 j i x1 x2 x3 x4 x5 x6 x7 x8 x9 x10 (ks.map (backN n)) x12 x13 x14 x15 x16 x17 (ks.take i)) := by
  induction j with
  | zero => intro i; intros; omega
  | succ j ih =>
    intro i x1 x2 x3 x4 x5 x6 x7 x8 x9 x10 x12 x13 x14 x15 x16 x17 e0 hi hj hg he
    rw [r17_Tree_L0s]; unfold r17_Tree_S0
    dsimp only
    rw [List.length_map]
    refine br_sp (fun c => ?_) (fun c => ?_)
    · have c : i < ks.length := by have := ltI_t.1 c; omega
      rw [iN, el5_map c]
      refine br_g (inN c) (hg _ (el4_mem c) (br_g (okAp_t (by decide) (by show (ks.take i).length + 1 ≤ _; rw [take_len hi]; omega)) ?_))
      rw [wr1 (by omega), ← take1 c]
      exact ih (i + 1) (by omega) (by omega) hg he
    · have c := ltI_f.1 c
      rw [List.take_of_length_le (by omega)]; exact he
theorem Tree_r : ∀ (n j : Nat) {x : T9Node}, Sm P n x → n + 100001 ≤ j → ∀ {κ : T9Node → Option R}, G (κ x) → G ((G_r17_Tree_r (R := R) j).r17_Tree (backN n x) κ)
  | 0, _, _, h, _, _, _ => h.elim
  | n + 1, 0, _, _, hj, _, _ => absurd hj (by omega)
  | n + 1, j + 1, x, h, hj, κ, hk => by
    show G (r17_Tree_B j (G_r17_Tree_r j) _ κ)
    unfold r17_Tree_B r17_Tree_F
    exact Tree_L0 h.1 j 0 (by omega) (by have := h.1; omega) (fun y hy _ hk => Tree_r n j (h.2.2 y hy) (by omega) hk) (by rw [← mk_eta x] at hk; exact hk)
theorem Places_L0 {g : G_r17_Places R} {ks : List T9Node} (hl : ks.length ≤ 100000) (j : Nat) {x1 x2 : Bs} {x3 x4 x5 : Int} {x7 x8 : Bs} {x9 x10 x11 : Int} {e0 : Unit → Option R} {er : Bool → Option R} (hg : ∀ y, y ∈ ks → ∀ {κ : Bool → Option R}, G (κ true) → G (g.r17_Places y y κ)) (he : G (e0 ())) : ∀ (i : Nat),
    i ≤ ks.length → ks.length - i < j → G (r17_Places_L0 m g.r17_Places e0 er j i x1 x2 x3 x4 x5 ks x7 x8 x9 x10 x11 ks) := by
  induction j with
  | zero => intro i; intros; omega
  | succ j ih =>
    intro i hi hj
    rw [r17_Places_L0s]; unfold r17_Places_S0
    dsimp only
    refine br_sp (fun c => ?_) (fun c => he)
    have c : i < ks.length := by have := ltI_t.1 c; omega
    refine br_g (inN c) (br_g (inN c) (hg _ (el4_mem c) (br_sp (fun h => nomatch h) (fun _ => ?_))))
    rw [wr1 (by omega)]
    exact ih (i + 1) (by omega) (by omega)
theorem Places_r : ∀ (n j : Nat) {x : T9Node}, Sm P n x → n + 100001 ≤ j → ∀ {κ : Bool → Option R}, G (κ true) → G ((G_r17_Places_r (R := R) j).r17_Places x x κ)
  | 0, _, _, h, _, _, _ => h.elim
  | n + 1, 0, _, _, hj, _, _ => absurd hj (by omega)
  | n + 1, j + 1, x, h, hj, κ, hk => by
    show G (r17_Places_B j (G_r17_Places_r j) x x κ)
    unfold r17_Places_B r17_Places_F
    rw [eqL_rfl, eqL_rfl, eqI_t.2 rfl, eqI_t.2 rfl, eqI_t.2 rfl]
    dsimp only
    rw [eqI_t.2 rfl]
    exact Places_L0 h.1 j (fun y hy _ hk => Places_r n j (h.2.2 y hy) (by omega) hk) hk 0 (by omega) (by have := h.1; omega)
noncomputable def sizeN : Nat → T9Node → Int
  | 0, _ => 0
  | n + 1, x => x.f_Kids.foldl (fun a y => wr .i64 (a + sizeN n y)) 1
theorem Size_L0 {g : G_r11_Size R} {n : Nat} {ks : List T9Node} (hl : ks.length ≤ 100000) (j : Nat) {x2 x3 : Bs} {x4 x5 x6 : Int} {e0 : Int → Option R} (hg : ∀ y, y ∈ ks → ∀ {κ : Int → Option R}, G (κ (sizeN n y)) → G (g.r11_Size y κ)) (he : G (e0 (ks.foldl (fun a y => wr .i64 (a + sizeN n y)) 1))) : ∀ (i : Nat),
    i ≤ ks.length → ks.length - i < j → G (r11_Size_L0 m g.r11_Size e0 j i ((ks.take i).foldl (fun a y => wr .i64 (a + sizeN n y)) 1) x2 x3 x4 x5 x6 ks) := by
  induction j with
  | zero => intro i; intros; omega
  | succ j ih =>
    intro i hi hj
    rw [r11_Size_L0s]; unfold r11_Size_S0
    dsimp only
    refine br_sp (fun c => ?_) (fun c => ?_)
    · have c : i < ks.length := by have := ltI_t.1 c; omega
      refine br_g (inN c) (hg _ (el4_mem c) ?_)
      have := ih (i + 1) (by omega) (by omega)
      rw [take1 c, List.foldl_append] at this
      rw [wr1 (by omega)]; exact this
    · have c := ltI_f.1 c
      rw [List.take_of_length_le (by omega)]; exact he
theorem Size_r : ∀ (n j : Nat) {x : T9Node}, Sm P n x → n + 100001 ≤ j → ∀ {κ : Int → Option R}, G (κ (sizeN n x)) → G ((G_r11_Size_r (R := R) j).r11_Size x κ)
  | 0, _, _, h, _, _, _ => h.elim
  | n + 1, 0, _, _, hj, _, _ => absurd hj (by omega)
  | n + 1, j + 1, x, h, hj, κ, hk => by
    show G (r11_Size_B j (G_r11_Size_r j) x κ)
    unfold r11_Size_B r11_Size_F
    exact Size_L0 h.1 j (fun y hy _ hk => Size_r n j (h.2.2 y hy) (by omega) hk) hk 0 (by omega) (by have := h.1; omega)
theorem fSize_L0 {g : G_fold_Size R} {n : Nat} {ks : List T9Node} (hl : ks.length ≤ 100000) (j : Nat) {e0 : Int → Option R} (hg : ∀ y, y ∈ ks → ∀ {κ : Int → Option R}, G (κ (sizeN n y)) → G (g.fold_Size (backN n y) κ)) (he : G (e0 (ks.foldl (fun a y => wr .i64 (a + sizeN n y)) 1))) : ∀ (i : Nat),
    i ≤ ks.length → ks.length - i < j → G (fold_Size_L0 m g.fold_Size e0 j i ((ks.take i).foldl (fun a y => wr .i64 (a + sizeN n y)) 1) (ks.map (backN n)) ks.length) := by
  induction j with
  | zero => intro i; intros; omega
  | succ j ih =>
    intro i hi hj
    rw [fold_Size_L0s]; unfold fold_Size_S0
    refine br_sp (fun c => ?_) (fun c => ?_)
    · have c : i < ks.length := by have := ltI_t.1 c; omega
      rw [iN, el5_map c, List.length_map]
      refine br_g (inN c) ?_
      dsimp only
      rw [sk_eta]
      refine hg _ (el4_mem c) ?_
      have := ih (i + 1) (by omega) (by omega)
      rw [take1 c, List.foldl_append] at this
      rw [wr1 (by omega)]; exact this
    · have c := ltI_f.1 c
      rw [List.take_of_length_le (by omega)]; exact he
theorem fSize_r : ∀ (n j : Nat) {x : T9Node}, Sm P n x → n + 100001 ≤ j → ∀ {κ : Int → Option R}, G (κ (sizeN n x)) → G ((G_fold_Size_r (R := R) j).fold_Size (backN n x) κ)
  | 0, _, _, h, _, _, _ => h.elim
  | n + 1, 0, _, _, hj, _, _ => absurd hj (by omega)
  | n + 1, j + 1, x, h, hj, κ, hk => by
    show G (fold_Size_B j (G_fold_Size_r j) (backN (n + 1) x) κ)
    unfold fold_Size_B fold_Size_F
    show G (fold_Size_L0 j (G_fold_Size_r j).fold_Size _ j 0 1 (x.f_Kids.map (backN n)) ((x.f_Kids.map (backN n)).length : Int))
    rw [List.length_map]
    exact fSize_L0 h.1 j (fun y hy _ hk => fSize_r n j (h.2.2 y hy) (by omega) hk) hk 0 (by omega) (by have := h.1; omega)
end Go.Pm
namespace Go.Pm
open Go Go.EvM Go.Pv
set_option linter.unusedVariables false
set_option linter.unusedSimpArgs false
variable {R : Type} {G : Option R → Prop} {m : Nat}
noncomputable def isL (y : T9Node) : Bool := eqL y.f_Op slit
structure ER (R : Type) (n j : Nat) (x y : T9Node) : Prop where
  sm : Sm False n y
  fit : y.f_Op = slit → fits y.f_Kind y.f_N = true
  rf : ∀ (G : Option R → Prop) (κ : T9Node → Option R), G (κ y) → G ((G_r11_Expr_r (R := R) j).r11_Expr x κ)
  pf : ∀ (G : Option R → Prop) (κ : TsynNode → Option R), G (κ (backN n y)) → G ((G_fold_Expr_r (R := R) j).fold_Expr (backN n x) κ)
theorem ers {n j : Nat} : ∀ {ks : List T9Node}, (∀ x, x ∈ ks → ∃ y, ER R n j x y) → ∃ ys : List T9Node, ys.length = ks.length ∧ ∀ i, i < ks.length → ER R n j (el4 ks i) (el4 ys i)
  | [], _ => ⟨[], rfl, fun i h => absurd h (by show ¬ i < 0; omega)⟩
  | k :: ks, h => by
    obtain ⟨y, hy⟩ := h k (by simp)
    obtain ⟨ys, h1, h2⟩ := ers (ks := ks) fun x hx => h x (by simp [hx])
    exact ⟨y :: ys, by simp [h1], fun i hi => match i, hi with
      | 0, _ => hy
      | i + 1, hi => h2 i (by simpa using hi)⟩
theorem rE_L0 {g : G_r11_Expr R} {ks ys : List T9Node} (hl : ks.length ≤ 100000) (hy : ys.length = ks.length) (hg : ∀ i, i < ks.length → ∀ {κ : T9Node → Option R}, G (κ (el4 ys i)) → G (g.r11_Expr (el4 ks i) κ)) (j : Nat)
    {x2 x3 : Bs} {x4 x5 x6 : Int} {x7 x8 : Bs} {x9 x10 x11 : Int} {x13 x14 : Bs} {x15 x16 x17 : Int} {x18 : List T9Node} {e0 : r11_Expr_E0 R} (b : Bool) (he : G (e0 (b && ys.all isL) x13 x14 x15 x16 x17 x18 x2 x3 x4 x5 x6 x7 x8 x9 x10 x11 ks ys)) : ∀ (i : Nat),
    i ≤ ks.length → ks.length - i < j → G (r11_Expr_L0 m g.r11_Expr e0 j i (b && (ys.take i).all isL) x2 x3 x4 x5 x6 x7 x8 x9 x10 x11 ks x13 x14 x15 x16 x17 x18 (ys.take i)) := by
  induction j with
  | zero => intro i; intros; omega
  | succ j ih =>
    intro i hi hj
    rw [r11_Expr_L0s]; unfold r11_Expr_S0
    dsimp only
    refine br_sp (fun c => ?_) (fun c => ?_)
    · have c : i < ks.length := by have := ltI_t.1 c; omega
      refine br_g (inN c) (hg i c (br_g (okAp_t (by decide) (by show (ys.take i).length + 1 ≤ _; rw [take_len (by omega)]; omega)) ?_))
      have := ih (i + 1) (by omega) (by omega)
      rw [wr1 (by omega), mk_eta]
      rw [take1 (by omega), List.all_append] at this
      refine br_sp (fun h => ?_) (fun h => ?_)
      · rw [← Bool.and_assoc, h] at this
        rw [Bool.true_and, List.all_cons, List.all_nil, Bool.and_true] at this
        exact this
      · rw [← Bool.and_assoc, h] at this
        exact this
    · have c := ltI_f.1 c
      rw [List.take_of_length_le (by omega)]; exact he
theorem fE_L0 {g : G_fold_Expr R} {n : Nat} {ks ys : List T9Node} (hl : ks.length ≤ 100000) (hy : ys.length = ks.length) (hg : ∀ i, i < ks.length → ∀ {κ : TsynNode → Option R}, G (κ (backN n (el4 ys i))) → G (g.fold_Expr (backN n (el4 ks i)) κ)) (j : Nat)
    {x4 x5 : Bs} {x6 x7 x8 : Int} {x9 : List TsynNode} {x10 x11 : Bs} {x12 x13 x14 : Int} {x15 : List TsynNode} {e0 : fold_Expr_E0 R} (he : G (e0 x4 x5 x6 x7 x8 x9 x10 x11 x12 x13 x14 x15 (ys.map (backN n)))) : ∀ (i : Nat),
    i ≤ ks.length → ks.length - i < j → G (fold_Expr_L0 m g.fold_Expr e0 j i (ks.map (backN n)) ks.length ((ys.take i).map (backN n)) x4 x5 x6 x7 x8 x9 x10 x11 x12 x13 x14 x15) := by
  induction j with
  | zero => intro i; intros; omega
  | succ j ih =>
    intro i hi hj
    rw [fold_Expr_L0s]; unfold fold_Expr_S0
    refine br_sp (fun c => ?_) (fun c => ?_)
    · have c : i < ks.length := by have := ltI_t.1 c; omega
      rw [iN, el5_map c, List.length_map]
      refine br_g (inN c) ?_
      dsimp only
      rw [sk_eta]
      refine hg i c (br_g (okAp_t (by decide) (by show ((ys.take i).map (backN n)).length + 1 ≤ _; rw [List.length_map, take_len (by omega)]; omega)) ?_)
      have := ih (i + 1) (by omega) (by omega)
      rw [take1 (by omega), List.map_append] at this
      rw [wr1 (by omega)]; exact this
    · have c := ltI_f.1 c
      rw [List.take_of_length_le (by omega)] ; exact he
theorem reck_sp {i : Nat} (hi : i < 16) (h0 : i ≠ 10) (h1 : i ≠ 11) {κ : Bool → Option R} : fold_reckoned m (wd i) κ = κ true := by
  have hs : i = 0 ∨ i = 1 ∨ i = 2 ∨ i = 3 ∨ i = 4 ∨ i = 5 ∨ i = 6 ∨ i = 7 ∨ i = 8 ∨ i = 9 ∨ i = 12 ∨ i = 13 ∨ i = 14 ∨ i = 15 := by omega
  rcases hs with q | q | q | q | q | q | q | q | q | q | q | q | q | q <;> subst q <;> rfl
theorem wd_ne : ∀ i : Fin 16, eqL (wd i.val) slit = false ∧ eqL (wd i.val) sname = false ∧ eqL (wd i.val) slen = false ∧ eqL (wd i.val) sat = false ∧ eqL (wd i.val) ssum = false ∧ eqL (wd i.val) sif = false ∧ eqL (wd i.val) sand = decide (i.val = 10) ∧ eqL (wd i.val) sor = decide (i.val = 11) := by decide +kernel
theorem idx_L0 {l : List TsynNode} (hl : l.length ≤ 100000) (j : Nat) {e0 : Unit → Option R} {er : Int → Option R} : ∀ (i : Nat), i ≤ l.length → l.length - i < j →
    ((∀ k, k ∈ l.drop i → eqL k.f_Op slit = true) → G (e0 ())) → ((∃ k, k ∈ l.drop i ∧ eqL k.f_Op slit = false) → ∀ v : Nat, G (er v)) → G (slices_IndexFunc_L0 m (fold_Expr_1 m) e0 er j i l l.length) := by
  induction j with
  | zero => intro i; intros; omega
  | succ j ih =>
    intro i hi hj h0 h1
    rw [slices_IndexFunc_L0s]; unfold slices_IndexFunc_S0 fold_Expr_1 fold_Expr_1_F
    refine br_sp (fun c => ?_) (fun c => h0 fun k hk => ?_)
    · have c : i < l.length := by have := ltI_t.1 c; omega
      have e : el5 l i = l[i] := by unfold el5 getD; rw [nth_eq, List.getElem?_eq_getElem c]
      have d : l.drop i = l[i] :: l.drop (i + 1) := List.drop_eq_getElem_cons c
      refine br_g (inN c) ?_
      rw [d] at h0 h1
      dsimp only
      rw [iN, e]
      refine br_sp (fun q => h1 ⟨_, List.mem_cons_self, by simpa using q⟩ i) (fun q => ?_)
      rw [wr1 (by omega)]
      exact ih (i + 1) (by omega) (by omega) (fun h => h0 fun k hk => by
        rcases List.mem_cons.1 hk with rfl | hk
        · simpa using q
        · exact h k hk) (fun ⟨k, hk, hq⟩ => h1 ⟨k, List.mem_cons_of_mem _ hk, hq⟩)
    · have c := ltI_f.1 c
      rw [List.drop_of_length_le (by omega)] at hk; cases hk
theorem cont_sp {l : List TsynNode} (hl : l.length ≤ 100000) (hm : 100001 ≤ m) {κ : Bool → Option R} (h0 : (∀ k, k ∈ l → eqL k.f_Op slit = true) → G (κ false)) (h1 : (∃ k, k ∈ l ∧ eqL k.f_Op slit = false) → G (κ true)) : G (slices_ContainsF m l κ) := by
  unfold slices_ContainsF slices_ContainsF_F slices_IndexFunc slices_IndexFunc_F
  exact idx_L0 hl m 0 (by omega) (by omega) (fun h => h0 h) (fun h v => by
    show G (κ (leI 0 (v : Int)))
    rw [show leI 0 (v : Int) = true from leI_t.2 (by omega)]; exact h1 h)
theorem back_op {n : Nat} {y : T9Node} (h : Sm False n y) : (backN n y).f_Op = y.f_Op ∧ (backN n y).f_Kind = y.f_Kind ∧ (backN n y).f_N = y.f_N := by
  cases n with
  | zero => exact h.elim
  | succ n => exact ⟨rfl, rfl, rfl⟩
end Go.Pm
namespace Go.Pm
open Go Go.EvM Go.Pv
set_option linter.unusedVariables false
set_option linter.unusedSimpArgs false
variable {R : Type} {G : Option R → Prop} {m : Nat}
def rT (b : Bool) (ks ys : List T9Node) : r11_Expr_V0 R := fun e0 _ _ _ x2 x3 x4 x5 x6 x7 x8 x9 x10 x11 _ x13 x14 x15 x16 x17 x18 _ => e0 b x13 x14 x15 x16 x17 x18 x2 x3 x4 x5 x6 x7 x8 x9 x10 x11 ks ys
def fT (bs : List TsynNode) : fold_Expr_V0 R := fun e0 _ _ _ _ _ x4 x5 x6 x7 x8 x9 x10 x11 x12 x13 x14 x15 => e0 x4 x5 x6 x7 x8 x9 x10 x11 x12 x13 x14 x15 bs
theorem br_or {c d : Bool} {J K : Option R} (h : c = true ∨ d = true) : br c J (br d J K) = J := by rcases h with rfl | rfl <;> (first | rfl | (cases c <;> rfl))
section
variable {α : Type} {a b c : α}
theorem i1_0 : inB 0 [a].length = true := rfl
theorem i2_0 : inB 0 [a, b].length = true := rfl
theorem i2_1 : inB 1 [a, b].length = true := rfl
theorem i3_0 : inB 0 [a, b, c].length = true := rfl
theorem i3_1 : inB 1 [a, b, c].length = true := rfl
theorem i3_2 : inB 2 [a, b, c].length = true := rfl
theorem z1 : ltI 0 ([a].length : Int) = true := rfl
theorem z2 : ltI 0 ([a, b].length : Int) = true := rfl
theorem z3 : ltI 0 ([a, b, c].length : Int) = true := rfl
theorem y1 : ltI 1 ([a].length : Int) = false := rfl
theorem y2 : ltI 1 ([a, b].length : Int) = true := rfl
theorem x2 : eqI ([a, b].length : Int) 2 = true := rfl
theorem x3 : eqI ([a, b, c].length : Int) 3 = true := rfl
end
section
variable {a b c : T9Node} {d e f : TsynNode}
theorem k1_0 : el4 [a] (iNat 0) = a := rfl
theorem k2_0 : el4 [a, b] (iNat 0) = a := rfl
theorem k2_1 : el4 [a, b] (iNat 1) = b := rfl
theorem k3_0 : el4 [a, b, c] (iNat 0) = a := rfl
theorem k3_1 : el4 [a, b, c] (iNat 1) = b := rfl
theorem k3_2 : el4 [a, b, c] (iNat 2) = c := rfl
theorem l1_0 : el5 [d] (iNat 0) = d := rfl
theorem l2_0 : el5 [d, e] (iNat 0) = d := rfl
theorem l2_1 : el5 [d, e] (iNat 1) = e := rfl
theorem l3_0 : el5 [d, e, f] (iNat 0) = d := rfl
theorem l3_1 : el5 [d, e, f] (iNat 1) = e := rfl
theorem l3_2 : el5 [d, e, f] (iNat 2) = f := rfl
end
theorem len0 {ys : List T9Node} (h : ys.length = 0) : ys = [] := List.eq_nil_of_length_eq_zero h
theorem len1 : ∀ {ys : List T9Node}, ys.length = 1 → ∃ a, ys = [a]
  | [a], _ => ⟨a, rfl⟩
theorem len2 : ∀ {ys : List T9Node}, ys.length = 2 → ∃ a b, ys = [a, b]
  | [a, b], _ => ⟨a, b, rfl⟩
theorem len3 : ∀ {ys : List T9Node}, ys.length = 3 → ∃ a b c, ys = [a, b, c]
  | [a, b, c], _ => ⟨a, b, c, rfl⟩
structure St1 (R : Type) (n j : Nat) (x : T9Node) (ys : List T9Node) : Prop where
  hj : 1000001 ≤ j
  sm : Sm False (n + 1) (.mk x.f_Op x.f_Name x.f_Kind x.f_N x.f_At ys)
  yy : ∀ i, i < ys.length → Sm False n (el4 ys i) ∧ ((el4 ys i).f_Op = slit → fits (el4 ys i).f_Kind (el4 ys i).f_N = true)
  rgo : ∀ (G : Option R → Prop) (κ : T9Node → Option R), G (r11_Expr_F j (r11_Op j) (rT (decide (0 < ys.length) && ys.all isL) x.f_Kids ys) x κ) → G ((G_r11_Expr_r (R := R) (j + 1)).r11_Expr x κ)
  fgo : ∀ (G : Option R → Prop) (κ : TsynNode → Option R), G (fold_Expr_F j (fold_reckoned j) (slices_ContainsF j) (fold_value j) (mean_Op j) (fold_literal j) (fT (ys.map (backN n))) (backN (n + 1) x) κ) → G ((G_fold_Expr_r (R := R) (j + 1)).fold_Expr (backN (n + 1) x) κ)
theorem st1 {n j : Nat} {x : T9Node} {ys : List T9Node} (hj : n + 1000001 ≤ j) (h : Sm True (n + 1) x) (hy : ys.length = x.f_Kids.length) (hE : ∀ i, i < x.f_Kids.length → ER R n j (el4 x.f_Kids i) (el4 ys i)) : St1 R n j x ys := by
  have hl := h.1
  refine ⟨by omega, ⟨by show ys.length ≤ _; omega, False.elim, fun y hm => ?_⟩, fun i hi => ⟨(hE i (by omega)).sm, (hE i (by omega)).fit⟩, fun G κ hk => ?_, fun G κ hk => ?_⟩
  · obtain ⟨i, hi, e⟩ := List.getElem_of_mem (show y ∈ ys from hm)
    rw [← e, ← el4_get hi]; exact (hE i (by omega)).sm
  · show G (r11_Expr_F j (r11_Op j) (r11_Expr_L0 j (G_r11_Expr_r j).r11_Expr) x κ)
    have e : decide (0 < ys.length) = ltI 0 (x.f_Kids.length : Int) := by
      rw [hy]
      by_cases q : 0 < x.f_Kids.length
      · rw [decide_eq_true q, ltI_t.2 (by omega)]
      · rw [decide_eq_false q, ltI_f.2 (by omega)]
    rw [e] at hk
    have key : ∀ e0 : r11_Expr_E0 R, G (e0 (ltI 0 (x.f_Kids.length : Int) && ys.all isL) [] [] 0 0 0 [] x.f_Op x.f_Name x.f_Kind x.f_N x.f_At x.f_Op x.f_Name x.f_Kind x.f_N x.f_At x.f_Kids ys) → G (r11_Expr_L0 j (G_r11_Expr_r j).r11_Expr e0 j 0 (ltI 0 (x.f_Kids.length : Int)) x.f_Op x.f_Name x.f_Kind x.f_N x.f_At x.f_Op x.f_Name x.f_Kind x.f_N x.f_At x.f_Kids [] [] 0 0 0 [] []) := fun e0 he => by
      have := rE_L0 (G := G) (m := j) (g := G_r11_Expr_r j) (ks := x.f_Kids) (ys := ys) hl hy (fun i hi κ hk => (hE i hi).rf G κ hk) j (ltI 0 (x.f_Kids.length : Int)) he 0 (by omega) (by omega)
      rw [List.take_zero, List.all_nil, Bool.and_true] at this
      exact this
    exact key _ hk
  · show G (fold_Expr_F j (fold_reckoned j) (slices_ContainsF j) (fold_value j) (mean_Op j) (fold_literal j) (fold_Expr_L0 j (G_fold_Expr_r j).fold_Expr) (backN (n + 1) x) κ)
    have key : ∀ e0 : fold_Expr_E0 R, G (e0 [] [] 0 0 0 [] x.f_Op x.f_Name x.f_Kind x.f_N x.f_At (x.f_Kids.map (backN n)) (ys.map (backN n))) → G (fold_Expr_L0 j (G_fold_Expr_r j).fold_Expr e0 j 0 (x.f_Kids.map (backN n)) ((x.f_Kids.map (backN n)).length : Int) [] [] [] 0 0 0 [] x.f_Op x.f_Name x.f_Kind x.f_N x.f_At (x.f_Kids.map (backN n))) := fun e0 he => by
      have := fE_L0 (G := G) (m := j) (g := G_fold_Expr_r j) (n := n) (ks := x.f_Kids) (ys := ys) hl hy (fun i hi κ hk => (hE i hi).pf G κ hk) j he 0 (by omega) (by omega)
      rw [List.length_map]; exact this
    exact key _ hk
theorem er0 {n j : Nat} {x : T9Node} {ys : List T9Node} (S : St1 R n j x ys) (hf : x.f_Op = slit → fits x.f_Kind x.f_N = true)
    (hr : ∀ κ : T9Node → Option R, r11_Expr_F j (r11_Op j) (rT (decide (0 < ys.length) && ys.all isL) x.f_Kids ys) x κ = κ (.mk x.f_Op x.f_Name x.f_Kind x.f_N x.f_At ys))
    (hp : ∀ (G : Option R → Prop) (κ : TsynNode → Option R), G (κ (.mk x.f_Op x.f_Name x.f_Kind x.f_N x.f_At (ys.map (backN n)))) → G (fold_Expr_F j (fold_reckoned j) (slices_ContainsF j) (fold_value j) (mean_Op j) (fold_literal j) (fT (ys.map (backN n))) (backN (n + 1) x) κ)) : ∃ y, ER R (n + 1) (j + 1) x y :=
  ⟨_, S.sm, hf, fun G κ hk => S.rgo G κ (by rw [hr]; exact hk), fun G κ hk => S.fgo G κ (hp G κ hk)⟩
theorem er1 {n j i : Nat} {x : T9Node} {ys : List T9Node} (S : St1 R n j x ys) (hi : i < ys.length)
    (hr : ∀ κ : T9Node → Option R, r11_Expr_F j (r11_Op j) (rT (decide (0 < ys.length) && ys.all isL) x.f_Kids ys) x κ = κ (el4 ys i))
    (hp : ∀ κ : TsynNode → Option R, fold_Expr_F j (fold_reckoned j) (slices_ContainsF j) (fold_value j) (mean_Op j) (fold_literal j) (fT (ys.map (backN n))) (backN (n + 1) x) κ = κ (backN n (el4 ys i))) : ∃ y, ER R (n + 1) (j + 1) x y :=
  ⟨el4 ys i, (S.yy i hi).1.succ, (S.yy i hi).2, fun G κ hk => S.rgo G κ (by rw [hr]; exact hk), fun G κ hk => S.fgo G κ (by rw [hp]; rw [backN_succ (S.yy i hi).1] at hk; exact hk)⟩
end Go.Pm
namespace Go.Pm
open Go Go.EvM Go.Pv
set_option linter.unusedVariables false
set_option linter.unusedSimpArgs false
variable {R : Type} {G : Option R → Prop} {m n j : Nat}
theorem ex_lit {nm : Bs} {kd nn at_ : Int} {ks : List T9Node} (S : St1 R n j (.mk slit nm kd nn at_ ks) []) (hf : fits kd nn = true) : ∃ y, ER R (n + 1) (j + 1) (.mk slit nm kd nn at_ ks) y :=
  er0 S (fun _ => hf) (fun κ => rfl) fun G κ hk => hk
theorem ex_leaf {op nm : Bs} {kd nn at_ : Int} {ks ys : List T9Node} (S : St1 R n j (.mk op nm kd nn at_ ks) ys) (h : op = sname ∨ op = slen ∨ op = sat ∨ op = ssum) : ∃ y, ER R (n + 1) (j + 1) (.mk op nm kd nn at_ ks) y := by
  have key : ∀ (G : Option R → Prop) (a : Option R) (bs : List TsynNode) (c : Bool), G a → G (br (ltI 0 (bs.length : Int)) (br (inB 0 bs.length) (br c a a) none) a) := fun G a bs c hk => br_sp (fun h => br_g (inB_t.2 ⟨by omega, by have := ltI_t.1 h; omega⟩) (br_sp (fun _ => hk) (fun _ => hk))) (fun _ => hk)
  rcases h with h | h | h | h <;> subst h <;> exact er0 S (fun h => absurd h (eqL_f rfl)) (fun κ => rfl) fun G κ hk => key G _ _ _ hk
theorem ex_if {nm : Bs} {kd nn at_ : Int} {ks : List T9Node} {a b c : T9Node} (S : St1 R n j (.mk sif nm kd nn at_ ks) [a, b, c]) : ∃ y, ER R (n + 1) (j + 1) (.mk sif nm kd nn at_ ks) y := by
  obtain ⟨o1, o2, o3⟩ := back_op (S.yy 0 (by show 0 < 3; omega)).1
  have o1 : (backN n a).f_Op = a.f_Op := o1
  have o3 : (backN n a).f_N = a.f_N := o3
  cases h : eqL a.f_Op slit with
  | false =>
    refine er0 S (fun h => absurd h (eqL_f rfl)) (fun κ => ?_) (fun G κ hk => ?_)
    · show br (eqL a.f_Op slit) _ _ = _
      rw [h]
    · show G (br (!(eqL (backN n a).f_Op slit)) _ _)
      rw [o1, h]; exact hk
  | true =>
    have fp : ∀ κ : TsynNode → Option R, fold_Expr_F j (fold_reckoned j) (slices_ContainsF j) (fold_value j) (mean_Op j) (fold_literal j) (fT ([a, b, c].map (backN n))) (backN (n + 1) (.mk sif nm kd nn at_ ks)) κ = br (eqI a.f_N 1) (κ (backN n b)) (κ (backN n c)) := fun κ => by
      show br (!(eqL (backN n a).f_Op slit)) _ (br (eqI (backN n a).f_N 1) (κ (TsynNode.mk (backN n b).f_Op (backN n b).f_Name (backN n b).f_Kind (backN n b).f_N (backN n b).f_At (backN n b).f_Kids)) (κ (TsynNode.mk (backN n c).f_Op (backN n c).f_Name (backN n c).f_Kind (backN n c).f_N (backN n c).f_At (backN n c).f_Kids))) = _
      rw [o1, o3, h, sk_eta, sk_eta]; rfl
    have fr : ∀ κ : T9Node → Option R, r11_Expr_F j (r11_Op j) (rT (decide (0 < [a, b, c].length) && [a, b, c].all isL) ks [a, b, c]) (.mk sif nm kd nn at_ ks) κ = br (eqI a.f_N 1) (κ b) (κ c) := fun κ => by
      show br (eqL a.f_Op slit) (br (eqI a.f_N 1) (κ (T9Node.mk b.f_Op b.f_Name b.f_Kind b.f_N b.f_At b.f_Kids)) (κ (T9Node.mk c.f_Op c.f_Name c.f_Kind c.f_N c.f_At c.f_Kids))) _ = _
      rw [h, mk_eta, mk_eta]
    cases h2 : eqI a.f_N 1 with
    | true => exact er1 S (i := 1) (by show 1 < 3; omega) (fun κ => (fr κ).trans (by rw [h2]; rfl)) (fun κ => (fp κ).trans (by rw [h2]; rfl))
    | false => exact er1 S (i := 2) (by show 2 < 3; omega) (fun κ => (fr κ).trans (by rw [h2]; rfl)) (fun κ => (fp κ).trans (by rw [h2]; rfl))
theorem ex_ao {op nm : Bs} {kd nn at_ : Int} {ks : List T9Node} {a b : T9Node} (hop : op = sand ∨ op = sor) (S : St1 R n j (.mk op nm kd nn at_ ks) [a, b]) : ∃ y, ER R (n + 1) (j + 1) (.mk op nm kd nn at_ ks) y := by
  obtain ⟨o1, o2, o3⟩ := back_op (S.yy 0 (by show 0 < 2; omega)).1
  have o1 : (backN n a).f_Op = a.f_Op := o1
  have o3 : (backN n a).f_N = a.f_N := o3
  cases h : eqL a.f_Op slit with
  | false =>
    refine er0 S (fun h => by rcases hop with q | q <;> subst q <;> exact absurd h (eqL_f rfl)) (fun κ => ?_) (fun G κ hk => ?_)
    · rcases hop with q | q <;> subst q <;> (show br (eqL a.f_Op slit) _ _ = _; rw [h])
    · show G (br (!(eqL (backN n a).f_Op slit)) _ _)
      rw [o1, h]; exact hk
  | true =>
    have fp : ∀ κ : TsynNode → Option R, fold_Expr_F j (fold_reckoned j) (slices_ContainsF j) (fold_value j) (mean_Op j) (fold_literal j) (fT ([a, b].map (backN n))) (backN (n + 1) (.mk op nm kd nn at_ ks)) κ = br (eqB (eqI a.f_N 1) (eqL op sand)) (κ (backN n b)) (κ (backN n a)) := fun κ => by
      rcases hop with q | q <;> subst q <;> (
        show br (!(eqL (backN n a).f_Op slit)) _ (br (eqB (eqI (backN n a).f_N 1) (eqL _ sand)) (κ (TsynNode.mk (backN n b).f_Op (backN n b).f_Name (backN n b).f_Kind (backN n b).f_N (backN n b).f_At (backN n b).f_Kids)) (κ (TsynNode.mk (backN n a).f_Op (backN n a).f_Name (backN n a).f_Kind (backN n a).f_N (backN n a).f_At (backN n a).f_Kids))) = _
        rw [sk_eta, sk_eta, o1, o3, h]; rfl)
    have fr : ∀ κ : T9Node → Option R, r11_Expr_F j (r11_Op j) (rT (decide (0 < [a, b].length) && [a, b].all isL) ks [a, b]) (.mk op nm kd nn at_ ks) κ = br (eqB (eqI a.f_N 1) (eqL op sand)) (κ b) (κ a) := fun κ => by
      rcases hop with q | q <;> subst q <;> (
        show br (eqL a.f_Op slit) (br (eqB (eqI a.f_N 1) (eqL _ sand)) (κ (T9Node.mk b.f_Op b.f_Name b.f_Kind b.f_N b.f_At b.f_Kids)) (κ (T9Node.mk a.f_Op a.f_Name a.f_Kind a.f_N a.f_At a.f_Kids))) _ = _
        rw [h, mk_eta, mk_eta]; rfl)
    cases h2 : eqB (eqI a.f_N 1) (eqL op sand) with
    | true => exact er1 S (i := 1) (by show 1 < 2; omega) (fun κ => (fr κ).trans (by rw [h2]; rfl)) (fun κ => (fp κ).trans (by rw [h2]; rfl))
    | false => exact er1 S (i := 0) (by show 0 < 2; omega) (fun κ => (fr κ).trans (by rw [h2]; rfl)) (fun κ => (fp κ).trans (by rw [h2]; rfl))
end Go.Pm
namespace Go.Pm
open Go Go.EvM Go.Pv
set_option linter.unusedVariables false
set_option linter.unusedSimpArgs false
variable {R : Type} {G : Option R → Prop} {m n j : Nat}
theorem fine_of {a : T9Node} (hf : a.f_Op = slit → fits a.f_Kind a.f_N = true) (h : eqL a.f_Op slit = true) : Fine ⟨a.f_Kind, a.f_N, []⟩ := ⟨rfl, hf (eqL_iff h)⟩
theorem op_facts {i : Nat} (hi : i < 16) (h0 : i ≠ 10) (h1 : i ≠ 11) : eqL (wd i) slit = false ∧ eqL (wd i) sname = false ∧ eqL (wd i) slen = false ∧ eqL (wd i) sat = false ∧ eqL (wd i) ssum = false ∧ eqL (wd i) sif = false ∧ eqL (wd i) sand = false ∧ eqL (wd i) sor = false := by
  obtain ⟨a, b, c, d, e, f, g, h⟩ := wd_ne ⟨i, hi⟩
  exact ⟨a, b, c, d, e, f, g.trans (decide_eq_false h0), h.trans (decide_eq_false h1)⟩
theorem r_op {i : Nat} (hi : i < 16) (h0 : i ≠ 10) (h1 : i ≠ 11) {fl : Bool} {nm : Bs} {kd nn at_ : Int} {ks ys : List T9Node} (κ : T9Node → Option R) :
    r11_Expr_F j (r11_Op j) (rT fl ks ys) (.mk (wd i) nm kd nn at_ ks) κ = br (!fl) (κ (.mk (wd i) nm kd nn at_ ys)) (br (inB 0 ys.length) (br (inB 0 ys.length)
      (br (ltI 1 (ys.length : Int)) (br (inB 1 ys.length) (br (inB 1 ys.length) (r11_Op j (wd i) ⟨(el4 ys (iNat 0)).f_Kind, (el4 ys (iNat 0)).f_N, []⟩ ⟨(el4 ys (iNat 1)).f_Kind, (el4 ys (iNat 1)).f_N, []⟩ fun r e => br (!(eqI e 0)) (κ (.mk (wd i) nm kd nn at_ ys)) (κ (.mk slit [] r.f_Kind r.f_N at_ []))) none) none)
        (r11_Op j (wd i) ⟨(el4 ys (iNat 0)).f_Kind, (el4 ys (iNat 0)).f_N, []⟩ ⟨0, 0, []⟩ fun r e => br (!(eqI e 0)) (κ (.mk (wd i) nm kd nn at_ ys)) (κ (.mk slit [] r.f_Kind r.f_N at_ [])))) none) none) := by
  obtain ⟨f1, f2, f3, f4, f5, f6, f7, f8⟩ := op_facts hi h0 h1
  show br (eqL (wd i) slit) _ (br (eqL (wd i) sname) _ (br (eqL (wd i) slen) _ (br (eqL (wd i) sat) _ (br (eqL (wd i) ssum) _ (br (eqL (wd i) sif) _ (br (eqL (wd i) sand) _ (br (eqL (wd i) sor) _ _))))))) = _
  rw [f1, f2, f3, f4, f5, f6, f7, f8]
  rfl
theorem p_op {i : Nat} (hi : i < 16) (h0 : i ≠ 10) (h1 : i ≠ 11) (hj : 100001 ≤ j) {nm : Bs} {kd nn at_ : Int} {ks : List T9Node} {ys : List T9Node} (hl : 0 < ys.length) (hl' : ys.length ≤ 100000) (o : ∀ y, y ∈ ys → (backN n y).f_Op = y.f_Op) {κ : TsynNode → Option R} (hk : ys.all isL = false → G (κ (.mk (wd i) nm kd nn at_ (ys.map (backN n)))))
    (hc : ys.all isL = true → G (br (ltI 1 ((ys.map (backN n)).length : Int)) (br (inB 1 (ys.map (backN n)).length) (br (inB 0 (ys.map (backN n)).length) (mean_Op j (wd i) ⟨(el5 (ys.map (backN n)) (iNat 0)).f_Kind, (el5 (ys.map (backN n)) (iNat 0)).f_N, []⟩ ⟨(el5 (ys.map (backN n)) (iNat 1)).f_Kind, (el5 (ys.map (backN n)) (iNat 1)).f_N, []⟩ fun r e => br (eqI e 0) (κ (.mk slit [] r.f_Kind r.f_N at_ [])) (κ (.mk (wd i) nm kd nn at_ (ys.map (backN n))))) none) none)
      (br (inB 0 (ys.map (backN n)).length) (mean_Op j (wd i) ⟨(el5 (ys.map (backN n)) (iNat 0)).f_Kind, (el5 (ys.map (backN n)) (iNat 0)).f_N, []⟩ ⟨0, 0, []⟩ fun r e => br (eqI e 0) (κ (.mk slit [] r.f_Kind r.f_N at_ [])) (κ (.mk (wd i) nm kd nn at_ (ys.map (backN n))))) none))) :
    G (fold_Expr_F j (fold_reckoned j) (slices_ContainsF j) (fold_value j) (mean_Op j) (fold_literal j) (fT (ys.map (backN n))) (backN (n + 1) (.mk (wd i) nm kd nn at_ ks)) κ) := by
  obtain ⟨f1, f2, f3, f4, f5, f6, f7, f8⟩ := op_facts hi h0 h1
  have hl2 : 0 < (ys.map (backN n)).length := by rw [List.length_map]; exact hl
  show G (br (ltI 0 ((ys.map (backN n)).length : Int)) (br (inB 0 (ys.map (backN n)).length) (br (!(eqL (el5 (ys.map (backN n)) (iNat 0)).f_Op slit)) _ (br (eqL (wd i) sand) _ (br (eqL (wd i) sor) _ (br (eqL (wd i) sif) _ (fold_reckoned j (wd i) _))))) none) _)
  rw [f6, f7, f8, reck_sp hi h0 h1]
  refine br_sp (fun _ => br_g (inB_t.2 ⟨by omega, by omega⟩) (br_sp (fun h => hk ?_) (fun h => ?_))) (fun h => absurd (ltI_f.1 h) (by omega))
  · cases hq : ys.all isL with
    | false => rfl
    | true =>
      have := List.all_eq_true.1 hq _ (el4_mem (i := 0) hl)
      rw [show iNat 0 = 0 from rfl, el5_map hl, o _ (el4_mem hl)] at h
      rw [show eqL (el4 ys 0).f_Op slit = true from this] at h; cases h
  · show G (slices_ContainsF j (ys.map (backN n)) _)
    refine cont_sp (by rw [List.length_map]; exact hl') hj (fun ha => hc ?_) (fun ⟨k, hm, hq⟩ => hk ?_)
    · refine List.all_eq_true.2 fun y hy => ?_
      have := ha _ (List.mem_map_of_mem hy)
      rw [o _ hy] at this; exact this
    · obtain ⟨y, hy, rfl⟩ := List.mem_map.1 hm
      rw [o _ hy] at hq
      cases hq2 : ys.all isL with
      | false => rfl
      | true => have := List.all_eq_true.1 hq2 _ hy; rw [show isL y = false from hq] at this; cases this
theorem fit_no {i : Nat} (hi : i < 16) (h0 : i ≠ 10) (h1 : i ≠ 11) {P : Prop} (h : wd i = slit) : P := absurd h (eqL_f (op_facts hi h0 h1).1)
theorem ex_op {i : Nat} (hi : i < 16) (h0 : i ≠ 10) (h1 : i ≠ 11) {nm : Bs} {kd nn at_ : Int} {ks ys : List T9Node} (S : St1 R n j (.mk (wd i) nm kd nn at_ ks) ys) (hn : (i < 14 ∧ ys.length = 2) ∨ (14 ≤ i ∧ ys.length = 1)) : ∃ y, ER R (n + 1) (j + 1) (.mk (wd i) nm kd nn at_ ks) y := by
  have hj := S.hj
  have o : ∀ y, y ∈ ys → (backN n y).f_Op = y.f_Op := fun y hy => by
    obtain ⟨q, hq, e⟩ := List.getElem_of_mem hy
    rw [← e, ← el4_get hq]; exact (back_op (S.yy q hq).1).1
  have pf := fun {G : Option R → Prop} {κ : TsynNode → Option R} => p_op (G := G) (κ := κ) hi h0 h1 (by omega : 100001 ≤ j) (n := n) (nm := nm) (kd := kd) (nn := nn) (at_ := at_) (ks := ks) (ys := ys) (by omega) (by omega) o
  have hlen : decide (0 < ys.length) = true := decide_eq_true (by omega)
  cases hall : ys.all isL with
  | false =>
    exact er0 S (fun h => fit_no hi h0 h1 h) (fun κ => (r_op hi h0 h1 κ).trans (by rw [hlen, hall]; rfl)) (fun G κ hk => pf (fun _ => hk) (fun h => by rw [hall] at h; cases h))
  | true =>
    have fine : ∀ q, q < ys.length → Fine ⟨(el4 ys q).f_Kind, (el4 ys q).f_N, []⟩ := fun q hq => fine_of (S.yy q hq).2 (List.all_eq_true.1 hall _ (el4_mem hq))
    have bk : ∀ q, q < ys.length → (⟨(el5 (ys.map (backN n)) q).f_Kind, (el5 (ys.map (backN n)) q).f_N, []⟩ : TapiValue) = ⟨(el4 ys q).f_Kind, (el4 ys q).f_N, []⟩ := fun q hq => by
      rw [el5_map hq, (back_op (S.yy q hq).1).2.1, (back_op (S.yy q hq).1).2.2]
    have bks := bk 0 (by omega)
    obtain ⟨y, hB, hr, hp⟩ : ∃ y : TapiValue, Both R j (wd i) ⟨(el4 ys 0).f_Kind, (el4 ys 0).f_N, []⟩ y ∧
        (∀ κ : T9Node → Option R, r11_Expr_F j (r11_Op j) (rT (decide (0 < ys.length) && ys.all isL) ks ys) (.mk (wd i) nm kd nn at_ ks) κ = r11_Op j (wd i) ⟨(el4 ys 0).f_Kind, (el4 ys 0).f_N, []⟩ y fun r e => br (!(eqI e 0)) (κ (.mk (wd i) nm kd nn at_ ys)) (κ (.mk slit [] r.f_Kind r.f_N at_ []))) ∧
        ∀ (G : Option R → Prop) (κ : TsynNode → Option R), G (mean_Op j (wd i) ⟨(el4 ys 0).f_Kind, (el4 ys 0).f_N, []⟩ y fun r e => br (eqI e 0) (κ (.mk slit [] r.f_Kind r.f_N at_ [])) (κ (.mk (wd i) nm kd nn at_ (ys.map (backN n))))) → G (fold_Expr_F j (fold_reckoned j) (slices_ContainsF j) (fold_value j) (mean_Op j) (fold_literal j) (fT (ys.map (backN n))) (backN (n + 1) (.mk (wd i) nm kd nn at_ ks)) κ) := by
      rcases hn with ⟨h14, h2⟩ | ⟨h14, h2⟩
      · refine ⟨_, two_words hj i h14 (fine 0 (by omega)) (fine 1 (by omega)), fun κ => ?_, fun G κ hk => pf (fun h => by rw [hall] at h; cases h) (fun _ => ?_)⟩
        · rw [r_op hi h0 h1, hlen, hall, h2]; rfl
        · rw [List.length_map, h2, show iNat 0 = 0 from rfl, show iNat 1 = 1 from rfl, bks, bk 1 (by omega)]; exact hk
      · refine ⟨⟨0, 0, []⟩, one_word hj i h14 hi (fine 0 (by omega)), fun κ => ?_, fun G κ hk => pf (fun h => by rw [hall] at h; cases h) (fun _ => ?_)⟩
        · rw [r_op hi h0 h1, hlen, hall, h2]; rfl
        · rw [List.length_map, h2, show iNat 0 = 0 from rfl, bks]; exact hk
    obtain ⟨r, e, hM, hR, hF⟩ := hB
    by_cases he : e = 0
    · subst he
      refine ⟨.mk slit [] r.f_Kind r.f_N at_ [], .leaf False.elim, fun _ => hF.2 rfl, fun G κ hk => S.rgo G κ ?_, fun G κ hk => S.fgo G κ (hp G κ (hM G _ hk))⟩
      show G (r11_Expr_F j (r11_Op j) (rT (decide (0 < ys.length) && ys.all isL) ks ys) (.mk (wd i) nm kd nn at_ ks) κ)
      rw [hr]; exact hR G _ hk
    · have he := eqI_f.2 he
      refine ⟨.mk (wd i) nm kd nn at_ ys, S.sm, fun h => fit_no hi h0 h1 h, fun G κ hk => S.rgo G κ ?_, fun G κ hk => S.fgo G κ (hp G κ (hM G _ (by rw [he]; exact hk)))⟩
      show G (r11_Expr_F j (r11_Op j) (rT (decide (0 < ys.length) && ys.all isL) ks ys) (.mk (wd i) nm kd nn at_ ks) κ)
      rw [hr]; exact hR G _ (by rw [he]; exact hk)
theorem expr_ok : ∀ (n j : Nat) {x : T9Node}, Sm True n x → n + 1000001 ≤ j → ∃ y, ER R n j x y
  | 0, _, _, h, _ => h.elim
  | n + 1, 0, _, _, hj => absurd hj (by omega)
  | n + 1, j + 1, x, h, hj => by
    obtain ⟨ys, hy, hE⟩ := ers (R := R) (n := n) (j := j) (ks := x.f_Kids) fun k hk => expr_ok n j (h.2.2 k hk) (by omega)
    have S := st1 (by omega) h hy hE
    have hnd := h.2.1 trivial
    obtain ⟨op, nm, kd, nn, at_, ks⟩ := x
    rcases hnd with ⟨h1, h2, h3⟩ | h1 | ⟨h1, h2⟩ | ⟨i, hi, h1, h2⟩ | ⟨i, hi, h1, h2⟩
    · obtain rfl : op = slit := h1
      obtain rfl : ks = [] := h2
      obtain rfl := len0 hy
      exact ex_lit S h3
    · exact ex_leaf S h1
    · obtain rfl : op = sif := h1
      obtain ⟨a, b, c, rfl⟩ := len3 (hy.trans h2)
      exact ex_if S
    · obtain rfl : op = wd i := h1
      by_cases q : i = 10 ∨ i = 11
      · obtain ⟨a, b, rfl⟩ := len2 (hy.trans h2)
        exact ex_ao (by rcases q with rfl | rfl <;> first | exact .inl rfl | exact .inr rfl) S
      · exact ex_op (by omega) (by omega) (by omega) S (.inl ⟨hi, hy.trans h2⟩)
    · obtain rfl : op = wd i := h1
      exact ex_op hi.2 (by omega) (by omega) S (.inr ⟨hi.1, hy.trans h2⟩)
end Go.Pm
namespace Go.Pm
open Go Go.EvM Go.Pv
set_option linter.unusedVariables false
set_option linter.unusedSimpArgs false
variable {R : Type} {G : Option R → Prop} {m : Nat}
def DR (R : Type) (m : Nat) (d d' : T9Node) : Prop :=
  (eqL d.f_Op srule = false ∧ d' = d) ∨ (eqL d.f_Op srule = true ∧ ∃ x y, d.f_Kids = [x] ∧ Sm True 100002 x ∧ ER R 100002 m x y ∧ d' = .mk d.f_Op d.f_Name d.f_Kind d.f_N d.f_At [y])
theorem decl_sm {d : T9Node} (h : DeclOk True d) : Sm False 100003 d := ⟨by have := h.len; omega, False.elim, h.sm⟩
theorem dr_ex (hm : 1100003 ≤ m) {d : T9Node} (h : DeclOk True d) : ∃ d', DR R m d d' := by
  cases hq : eqL d.f_Op srule with
  | false => exact ⟨d, .inl ⟨hq, rfl⟩⟩
  | true =>
    obtain ⟨x, h1, h2⟩ := h.rule trivial hq
    obtain ⟨y, hy⟩ := expr_ok (R := R) 100002 m h2 (by omega)
    exact ⟨_, .inr ⟨hq, x, y, h1, h2, hy, rfl⟩⟩
theorem dr_sm {d d' : T9Node} (h : DeclOk True d) (q : DR R m d d') : Sm False 100003 d' := by
  rcases q with ⟨_, rfl⟩ | ⟨_, x, y, _, _, hy, rfl⟩
  · exact decl_sm h
  · exact .one False.elim hy.sm
theorem drs : ∀ {ks : List T9Node}, (∀ x, x ∈ ks → ∃ y, DR R m x y) → ∃ ys : List T9Node, ys.length = ks.length ∧ ∀ i, i < ks.length → DR R m (el4 ks i) (el4 ys i)
  | [], _ => ⟨[], rfl, fun i h => absurd h (by show ¬ i < 0; omega)⟩
  | k :: ks, h => by
    obtain ⟨y, hy⟩ := h k (by simp)
    obtain ⟨ys, h1, h2⟩ := drs (ks := ks) fun x hx => h x (by simp [hx])
    exact ⟨y :: ys, by simp [h1], fun i hi => match i, hi with
      | 0, _ => hy
      | i + 1, hi => h2 i (by simpa using hi)⟩
theorem rF_L0 {ks ys : List T9Node} (hl : ks.length ≤ 100000) (hy : ys.length = ks.length) (hE : ∀ i, i < ks.length → DR R m (el4 ks i) (el4 ys i)) (j : Nat)
    {x1 x2 : Bs} {x3 x4 x5 : Int} {x6 x7 : Bs} {x8 x9 x10 : Int} {x12 x13 : Bs} {x14 x15 x16 : Int} {x17 : List T9Node} {e0 : r11_Fold_E0 R} (he : G (e0 x12 x13 x14 x15 x16 x17 x1 x2 x3 x4 x5 ys)) : ∀ (i : Nat),
    i ≤ ks.length → ks.length - i < j → G (r11_Fold_L0 m (r11_Expr m) e0 j i x1 x2 x3 x4 x5 x6 x7 x8 x9 x10 ks x12 x13 x14 x15 x16 x17 (ys.take i)) := by
  induction j with
  | zero => intro i; intros; omega
  | succ j ih =>
    intro i hi hj
    rw [r11_Fold_L0s]; unfold r11_Fold_S0
    dsimp only
    refine br_sp (fun c => ?_) (fun c => ?_)
    · have c : i < ks.length := by have := ltI_t.1 c; omega
      have hok : ∀ {z : T9Node}, okAp 80 ((ys.take i).length + [z].length) = true := okAp_t (by decide) (by show (ys.take i).length + 1 ≤ _; rw [take_len (by omega)]; omega)
      have nx := ih (i + 1) (by omega) (by omega)
      rw [take1 (by omega)] at nx
      refine br_g (inN c) ?_
      rw [wr1 (by omega), iN, mk_eta]
      rcases hE i c with ⟨q, e⟩ | ⟨q, x, y, k1, _, k2, e⟩
      · rw [q]
        rw [e] at nx
        exact br_g hok nx
      · rw [q, k1]
        rw [e] at nx
        exact k2.rf G _ (br_g hok nx)
    · have c := ltI_f.1 c
      rw [List.take_of_length_le (by omega)]; exact he
theorem mid_get {ks ys : List T9Node} (hy : ys.length = ks.length) {i : Nat} (c : i < ks.length) : el4 (ys.take i ++ ks.drop i) i = el4 ks i := by
  have hl : (ys.take i).length = i := take_len (by omega)
  rw [el4_get (by rw [List.length_append, List.length_drop, hl]; omega), el4_get c, List.getElem_append_right (by omega), List.getElem_drop]
  congr 1; omega
theorem mid_set {ks ys : List T9Node} (hy : ys.length = ks.length) {i : Nat} (c : i < ks.length) : (ys.take i ++ ks.drop i).set i (el4 ys i) = ys.take (i + 1) ++ ks.drop (i + 1) := by
  have hl : (ys.take i).length = i := take_len (by omega)
  rw [List.set_append_right _ _ (by omega), hl, Nat.sub_self, List.drop_eq_getElem_cons c, take1 (by omega), List.append_assoc]
  rfl
theorem mid_len {ks ys : List T9Node} (hy : ys.length = ks.length) {i : Nat} (c : i ≤ ks.length) : (ys.take i ++ ks.drop i).length = ks.length := by
  rw [List.length_append, List.length_drop, take_len (by omega)]; omega
theorem pF_L0 {ks ys : List T9Node} (hl : ks.length ≤ 100000) (hy : ys.length = ks.length) (hE : ∀ i, i < ks.length → DR R m (el4 ks i) (el4 ys i)) (j : Nat)
    {x2 x3 : Bs} {x4 x5 x6 : Int} {x8 x9 : Bs} {x10 x11 x12 : Int} {x13 : List TsynNode} {e0 : fold_Fold_E0 R} (he : G (e0 x8 x9 x10 x11 x12 x13 x2 x3 x4 x5 x6 (ys.map (backN 100003)))) : ∀ (i : Nat),
    i ≤ ks.length → ks.length - i < j → G (fold_Fold_L0 m (fold_Expr m) e0 j i ks.length x2 x3 x4 x5 x6 ((ys.take i ++ ks.drop i).map (backN 100003)) x8 x9 x10 x11 x12 x13) := by
  induction j with
  | zero => intro i; intros; omega
  | succ j ih =>
    intro i hi hj
    rw [fold_Fold_L0s]; unfold fold_Fold_S0
    refine br_sp (fun c => ?_) (fun c => ?_)
    · have c : i < ks.length := by have := ltI_t.1 c; omega
      have nx := ih (i + 1) (by omega) (by omega)
      have hb : inB (i : Int) ((ys.take i ++ ks.drop i).map (backN 100003)).length = true := by rw [List.length_map, mid_len hy hi]; exact inN c
      have hx : el5 ((ys.take i ++ ks.drop i).map (backN 100003)) i = backN 100003 (el4 ks i) := by rw [el5_map (by rw [mid_len hy hi]; exact c), mid_get hy c]
      refine br_g hb ?_
      dsimp only
      rw [wr1 (by omega), iN, hx]
      rw [← mid_set hy c] at nx
      rcases hE i c with ⟨q, e⟩ | ⟨q, x, y, k1, _, k2, e⟩
      · rw [e, ← mid_get (ys := ys) hy c, el4_get (by rw [mid_len hy hi]; exact c), List.set_getElem_self] at nx
        show G (br (eqL (el4 ks i).f_Op srule) _ _)
        rw [q]; exact nx
      · rw [e, List.map_set] at nx
        show G (br (eqL (el4 ks i).f_Op srule) (br (ltI 0 (((el4 ks i).f_Kids.map (backN 100002)).length : Int)) (br (inB 0 ((el4 ks i).f_Kids.map (backN 100002)).length) (fold_Expr m (el5 ((el4 ks i).f_Kids.map (backN 100002)) (iNat 0)) _) none) _) _)
        rw [q, k1]
        exact k2.pf G _ (br_g hb nx)
    · have c := ltI_f.1 c
      obtain rfl : i = ks.length := by omega
      rw [List.drop_length, List.append_nil, List.take_of_length_le (by omega)]; exact he
theorem S_L0 {ks : List T9Node} (hl : ks.length ≤ 100000) (hd : ∀ y, y ∈ ks → DeclOk True y) (hm : 1100003 ≤ m) (j : Nat) {x1 x2 : Bs} {x3 x4 x5 : Int} {x7 x8 : Bs} {x9 x10 x11 : Int} {e0 : Unit → Option R} {er : Bool → Option R} (he : G (e0 ())) : ∀ (i : Nat),
    i ≤ ks.length → ks.length - i < j → G (L15_FoldSays_L0 m (fold_Size m) (r11_Size m) e0 er j i x1 x2 x3 x4 x5 ks x7 x8 x9 x10 x11 (ks.map (backN 100003))) := by
  induction j with
  | zero => intro i; intros; omega
  | succ j ih =>
    intro i hi hj
    rw [L15_FoldSays_L0s]; unfold L15_FoldSays_S0
    dsimp only
    rw [List.length_map]
    refine br_sp (fun c => ?_) (fun c => he)
    have c : i < ks.length := by have := ltI_t.1 c; omega
    have nx := ih (i + 1) (by omega) (by omega)
    rw [wr1 (by omega), iN, el5_map c]
    refine br_g (inN c) ?_
    show G (br (eqL (el4 ks i).f_Op srule) (br (inB i ks.length) (br (inB 0 ((el4 ks i).f_Kids.map (backN 100002)).length) (br (inB i ks.length) (br (inB 0 (el4 ks i).f_Kids.length) (fold_Size m (el5 ((el4 ks i).f_Kids.map (backN 100002)) (iNat 0)) fun r59 => r11_Size m (el4 (el4 ks i).f_Kids (iNat 0)) fun r68 => br (!(eqI r59 r68)) _ _) none) none) none) none) _)
    refine br_sp (fun q => br_g (inN c) ?_) (fun _ => nx)
    obtain ⟨x, h1, h2⟩ := (hd _ (el4_mem c)).rule trivial q
    rw [h1]
    refine br_g rfl (br_g (inN c) (br_g rfl (fSize_r 100002 m h2 (by omega) (Size_r 100002 m h2 (by omega) ?_))))
    rw [eqI_t.2 rfl]; exact nx
theorem law_sp (hm : 1100003 ≤ m) (ha : ∀ κ : Bool → Option R, L15_awake m κ = κ true) (t : Bs) {κ : Bool → Option R} (hk : G (κ true)) : G (L15_FoldSays m t κ) := by
  unfold L15_FoldSays L15_FoldSays_F
  rw [ha]
  refine br_sp (fun h => nomatch h) (fun _ => br_sp (fun _ => hk) (fun hl => ?_))
  have hl := ltI_f.1 hl
  unfold r17_Read r17_Read_F
  refine Parse_sp (by omega) (by omega) fun r b d T => ?_
  rw [mk_eta]
  obtain ⟨op, nm, kd, nn, at_, ks⟩ := r
  have hlen : ks.length ≤ 100000 := T.len
  dsimp only
  refine Back_r (P := False) 100004 m (x := .mk op nm kd nn at_ ks) ⟨hlen, False.elim, fun y hy => ⟨by have := (T.kid y hy).len; omega, False.elim, (T.kid y hy).sm⟩⟩ (by omega) ?_
  refine br_sp (fun _ => hk) (fun hb => ?_)
  have hb : b < 0 := by
    by_cases q : b < 0
    · exact q
    · rw [ltI_f.2 (by omega)] at hb; cases hb
  have T : ∀ y, y ∈ ks → DeclOk True y := fun y hy => (T.kid y hy).imp fun _ => hb
  have smw : Sm False 100004 (.mk op nm kd nn at_ ks) := ⟨hlen, False.elim, fun y hy => decl_sm (T y hy)⟩
  obtain ⟨ys, hy, hE⟩ := drs (R := R) (m := m) (ks := ks) fun k hk => dr_ex hm (T k hk)
  have smy : Sm False 100004 (.mk op nm kd nn at_ ys) := ⟨by show ys.length ≤ _; omega, False.elim, fun y hm => by
    obtain ⟨i, hi, e⟩ := List.getElem_of_mem (show y ∈ ys from hm)
    rw [← e, ← el4_get hi]; exact dr_sm (T _ (el4_mem (by omega))) (hE i (by omega))⟩
  simp only [sk_eta, mk_eta]
  unfold fold_Fold fold_Fold_F
  refine br_g (okAp_t (by decide) (by show 0 + (ks.map (backN 100003)).length ≤ _; rw [List.length_map]; omega)) ?_
  show G (fold_Fold_L0 m (fold_Expr m) _ m 0 ((ks.map (backN 100003)).length : Int) op nm kd nn at_ (ks.map (backN 100003)) [] [] 0 0 0 [])
  rw [List.length_map]
  refine pF_L0 (ys := ys) hlen hy hE m ?_ 0 (by omega) (by omega)
  refine Tree_r 100004 m smy (by omega) ?_
  unfold r11_Fold r11_Fold_F
  refine rF_L0 (ys := ys) hlen hy hE m ?_ 0 (by omega) (by omega)
  refine Places_r 100004 m smy (by omega) (br_sp (fun h => nomatch h) (fun _ => ?_))
  refine Tree_r 100004 m smw (by omega) ?_
  refine Places_r 100004 m smw (by omega) (br_sp (fun h => nomatch h) (fun _ => ?_))
  exact S_L0 hlen T hm m hk 0 (by omega) (by omega)
end Go.Pm
namespace Go.Pm
open Go Go.EvM Go.Pv
set_option maxRecDepth 100000
variable {R : Type}
theorem aw (κ : Bool → Option R) : L15_awake 1200000 κ = κ true := by kernel_rfl
end Go.Pm
