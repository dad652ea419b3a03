/- The kinds of data. -/
import Derived.Test.YtjeipnpjkiapgaaGreatDoorPvA
set_option linter.unusedVariables false
set_option linter.unusedSectionVars false
set_option linter.unusedSimpArgs false
namespace Go.Pm
open Go Go.EvM Go.Pv
set_option linter.unusedVariables false
def sinput : List UInt8 := [105, 110, 112, 117, 116]
def srule : List UInt8 := [114, 117, 108, 101]
def stable : List UInt8 := [116, 97, 98, 108, 101]
def sbool : List UInt8 := [98, 111, 111, 108]
def scount : List UInt8 := [99, 111, 117, 110, 116]
def smoney : List UInt8 := [109, 111, 110, 101, 121]
def srate : List UInt8 := [114, 97, 116, 101]
def sdate : List UInt8 := [100, 97, 116, 101]
def smoneys : List UInt8 := [109, 111, 110, 101, 121, 115]
def sif : List UInt8 := [105, 102]
def sthen : List UInt8 := [116, 104, 101, 110]
def selse : List UInt8 := [101, 108, 115, 101]
def sand : List UInt8 := [97, 110, 100]
def sor : List UInt8 := [111, 114]
def snot : List UInt8 := [110, 111, 116]
def smin : List UInt8 := [109, 105, 110]
def smax : List UInt8 := [109, 97, 120]
def ssum : List UInt8 := [115, 117, 109]
def sin : List UInt8 := [105, 110]
def slen : List UInt8 := [108, 101, 110]
def sat : List UInt8 := [97, 116]
def strue : List UInt8 := [116, 114, 117, 101]
def sfalse : List UInt8 := [102, 97, 108, 115, 101]
def s_60_61 : List UInt8 := [60, 61]
def s_62_61 : List UInt8 := [62, 61]
def s_61_61 : List UInt8 := [61, 61]
def s_33_61 : List UInt8 := [33, 61]
def s_40_41_123_125_91_93_44_59_58_61_43_45_42_47_60_62 : List UInt8 := [40, 41, 123, 125, 91, 93, 44, 59, 58, 61, 43, 45, 42, 47, 60, 62]
def s0 : List UInt8 := [48]
def slit : List UInt8 := [108, 105, 116]
def s_60 : List UInt8 := [60]
def s_62 : List UInt8 := [62]
def s_43 : List UInt8 := [43]
def s_45 : List UInt8 := [45]
def s_42 : List UInt8 := [42]
def s_47 : List UInt8 := [47]
def sneg : List UInt8 := [110, 101, 103]
def s_40 : List UInt8 := [40]
def s_44 : List UInt8 := [44]
def s_41 : List UInt8 := [41]
def s_58 : List UInt8 := [58]
def sname : List UInt8 := [110, 97, 109, 101]
def s_59 : List UInt8 := [59]
def s_61 : List UInt8 := [61]
def s_123 : List UInt8 := [123]
def srow : List UInt8 := [114, 111, 119]
def s_125 : List UInt8 := [125]
def sstatute : List UInt8 := [115, 116, 97, 116, 117, 116, 101]
structure T_publicanref9_Word where
  f_Kind : Int
  f_Text : List UInt8
  f_N : Int
  f_At : Int
inductive T_publicanref9_Node where
  | mk (f_Op_ : List UInt8) (f_Name_ : List UInt8) (f_Kind_ : Int) (f_N_ : Int) (f_At_ : Int) (f_Kids_ : List T_publicanref9_Node)
def T_publicanref9_Node.f_Op : T_publicanref9_Node → List UInt8 | .mk x _ _ _ _ _ => x
def T_publicanref9_Node.f_Name : T_publicanref9_Node → List UInt8 | .mk _ x _ _ _ _ => x
def T_publicanref9_Node.f_Kind : T_publicanref9_Node → Int | .mk _ _ x _ _ _ => x
def T_publicanref9_Node.f_N : T_publicanref9_Node → Int | .mk _ _ _ x _ _ => x
def T_publicanref9_Node.f_At : T_publicanref9_Node → Int | .mk _ _ _ _ x _ => x
def T_publicanref9_Node.f_Kids : T_publicanref9_Node → List T_publicanref9_Node | .mk _ _ _ _ _ x => x
inductive T_syn_Node where
  | mk (f_Op_ : List UInt8) (f_Name_ : List UInt8) (f_Kind_ : Int) (f_N_ : Int) (f_At_ : Int) (f_Kids_ : List T_syn_Node)
def T_syn_Node.f_Op : T_syn_Node → List UInt8 | .mk x _ _ _ _ _ => x
def T_syn_Node.f_Name : T_syn_Node → List UInt8 | .mk _ x _ _ _ _ => x
def T_syn_Node.f_Kind : T_syn_Node → Int | .mk _ _ x _ _ _ => x
def T_syn_Node.f_N : T_syn_Node → Int | .mk _ _ _ x _ _ => x
def T_syn_Node.f_At : T_syn_Node → Int | .mk _ _ _ _ x _ => x
def T_syn_Node.f_Kids : T_syn_Node → List T_syn_Node | .mk _ _ _ _ _ x => x
structure T_publicanref9_parser where
  f_l : List T_publicanref9_Word
  f_k : Int
  f_bad : Int
  f_deep : Bool
  f_d : Int
def dS : Nat → Type
  | 0 => Int
  | 1 => Int
  | 2 => (List UInt8)
  | 3 => Bool
  | 4 => T_publicanref9_parser
  | 5 => T_publicanref9_Word
  | 6 => T_publicanref9_Node
  | 7 => T_syn_Node
  | 8 => (List (List UInt8))
  | _ => Unit
def dsz : Nat → Nat
  | 0 => 1
  | 1 => 1
  | 2 => 1
  | 3 => 1
  | 4 => 5
  | 5 => 4
  | 6 => 6
  | 7 => 6
  | 8 => 1
  | _ => 1
def df0 : Int := (0 : Int)
def df1 : Int := (0 : Int)
def df2 : (List UInt8) := ([] : (List UInt8))
def df3 : Bool := (false : Bool)
def df4 : T_publicanref9_parser := (T_publicanref9_parser.mk [] 0 0 false 0 : T_publicanref9_parser)
def df5 : T_publicanref9_Word := (T_publicanref9_Word.mk 0 [] 0 0 : T_publicanref9_Word)
def df6 : T_publicanref9_Node := (T_publicanref9_Node.mk [] [] 0 0 0 [] : T_publicanref9_Node)
def df7 : T_syn_Node := (T_syn_Node.mk [] [] 0 0 0 [] : T_syn_Node)
def df8 : (List (List UInt8)) := ([] : (List (List UInt8)))
def dfld : (c : Nat) → dS c → List (PV dS)
  | 0, (x : Int) => [.int .i64 x]
  | 1, (x : Int) => [.int .u8 x]
  | 2, (x : (List UInt8)) => [.str x]
  | 3, (x : Bool) => [.bool x]
  | 4, (x : T_publicanref9_parser) => [.sl 5 x.f_l, .int .i64 x.f_k, .int .i64 x.f_bad, .bool x.f_deep, .int .i64 x.f_d]
  | 5, (x : T_publicanref9_Word) => [.int .i64 x.f_Kind, .str x.f_Text, .int .i64 x.f_N, .int .i64 x.f_At]
  | 6, (x : T_publicanref9_Node) => [.str x.f_Op, .str x.f_Name, .int .i64 x.f_Kind, .int .i64 x.f_N, .int .i64 x.f_At, .sl 6 x.f_Kids]
  | 7, (x : T_syn_Node) => [.str x.f_Op, .str x.f_Name, .int .i64 x.f_Kind, .int .i64 x.f_N, .int .i64 x.f_At, .sl 7 x.f_Kids]
  | 8, (x : (List (List UInt8))) => [.sl 2 x]
  | _ + 9, _ => [.bool false]
def ddflt : (c : Nat) → dS c
  | 0 => df0
  | 1 => df1
  | 2 => df2
  | 3 => df3
  | 4 => df4
  | 5 => df5
  | 6 => df6
  | 7 => df7
  | 8 => df8
  | _ + 9 => ()
def rdS (c : Nat) (v : PV dS) : Option (List (dS c)) := match v with | .sl d l => if h : d = c then some (h ▸ l) else none | .nils => some [] | _ => none
def dmk0 (l : List (PV dS)) : Option Int := match l with | [.int .i64 y0] => some (y0 : Int) | _ => none
def dmk1 (l : List (PV dS)) : Option Int := match l with | [.int .u8 y0] => some (y0 : Int) | _ => none
def dmk2 (l : List (PV dS)) : Option (List UInt8) := match l with | [.str y0] => some (y0 : (List UInt8)) | _ => none
def dmk3 (l : List (PV dS)) : Option Bool := match l with | [.bool y0] => some (y0 : Bool) | _ => none
def dmk4 (l : List (PV dS)) : Option T_publicanref9_parser := match l with | [y0, .int .i64 y1, .int .i64 y2, .bool y3, .int .i64 y4] => (rdS 5 y0).bind fun y0 => some (T_publicanref9_parser.mk y0 y1 y2 y3 y4 : T_publicanref9_parser) | _ => none
def dmk5 (l : List (PV dS)) : Option T_publicanref9_Word := match l with | [.int .i64 y0, .str y1, .int .i64 y2, .int .i64 y3] => some (T_publicanref9_Word.mk y0 y1 y2 y3 : T_publicanref9_Word) | _ => none
def dmk6 (l : List (PV dS)) : Option T_publicanref9_Node := match l with | [.str y0, .str y1, .int .i64 y2, .int .i64 y3, .int .i64 y4, y5] => (rdS 6 y5).bind fun y5 => some (T_publicanref9_Node.mk y0 y1 y2 y3 y4 y5 : T_publicanref9_Node) | _ => none
def dmk7 (l : List (PV dS)) : Option T_syn_Node := match l with | [.str y0, .str y1, .int .i64 y2, .int .i64 y3, .int .i64 y4, y5] => (rdS 7 y5).bind fun y5 => some (T_syn_Node.mk y0 y1 y2 y3 y4 y5 : T_syn_Node) | _ => none
def dmk8 (l : List (PV dS)) : Option (List (List UInt8)) := match l with | [y0] => (rdS 2 y0).bind fun y0 => some (y0 : (List (List UInt8))) | _ => none
def dmk : (c : Nat) → List (PV dS) → Option (dS c)
  | 0 => dmk0
  | 1 => dmk1
  | 2 => dmk2
  | 3 => dmk3
  | 4 => dmk4
  | 5 => dmk5
  | 6 => dmk6
  | 7 => dmk7
  | 8 => dmk8
  | _ + 9 => fun _ => none
theorem dlen : ∀ c x, (dfld c x).length = dsz c
  | 0, _ => rfl
  | 1, _ => rfl
  | 2, _ => rfl
  | 3, _ => rfl
  | 4, _ => rfl
  | 5, _ => rfl
  | 6, _ => rfl
  | 7, _ => rfl
  | 8, _ => rfl
  | _ + 9, _ => rfl
theorem ddata : ∀ c x, (dfld c x).all isData = true
  | 0, _ => rfl
  | 1, _ => rfl
  | 2, _ => rfl
  | 3, _ => rfl
  | 4, _ => rfl
  | 5, _ => rfl
  | 6, _ => rfl
  | 7, _ => rfl
  | 8, _ => rfl
  | _ + 9, _ => rfl
theorem dpos : ∀ c, 0 < dsz c
  | 0 => by decide
  | 1 => by decide
  | 2 => by decide
  | 3 => by decide
  | 4 => by decide
  | 5 => by decide
  | 6 => by decide
  | 7 => by decide
  | 8 => by decide
  | _ + 9 => Nat.one_pos
theorem rdS_like {c : Nat} {v : PV dS} {l : List (dS c)} (h : rdS c v = some l) : Like v (.sl c l) := by
  unfold rdS at h
  split at h
  · split at h
    · rename_i hd; subst hd; cases h; exact .same _
    · cases h
  · cases h; exact .nil c
  · cases h
theorem dmkOk0 (l : List (PV dS)) (x : Int) (h : dmk0 l = some x) : Likes l (dfld 0 x) := by
  unfold dmk0 at h
  split at h; rotate_left; cases h
  rename_i y0
  cases h
  exact .cons (.same _) (.nil)
theorem dmkOk1 (l : List (PV dS)) (x : Int) (h : dmk1 l = some x) : Likes l (dfld 1 x) := by
  unfold dmk1 at h
  split at h; rotate_left; cases h
  rename_i y0
  cases h
  exact .cons (.same _) (.nil)
theorem dmkOk2 (l : List (PV dS)) (x : (List UInt8)) (h : dmk2 l = some x) : Likes l (dfld 2 x) := by
  unfold dmk2 at h
  split at h; rotate_left; cases h
  rename_i y0
  cases h
  exact .cons (.same _) (.nil)
theorem dmkOk3 (l : List (PV dS)) (x : Bool) (h : dmk3 l = some x) : Likes l (dfld 3 x) := by
  unfold dmk3 at h
  split at h; rotate_left; cases h
  rename_i y0
  cases h
  exact .cons (.same _) (.nil)
theorem dmkOk4 (l : List (PV dS)) (x : T_publicanref9_parser) (h : dmk4 l = some x) : Likes l (dfld 4 x) := by
  unfold dmk4 at h
  split at h; rotate_left; cases h
  rename_i y0 y1 y2 y3 y4
  obtain ⟨z0, h0, h⟩ := Option.bind_eq_some_iff.1 h
  cases h
  exact .cons (rdS_like h0) (.cons (.same _) (.cons (.same _) (.cons (.same _) (.cons (.same _) (.nil)))))
theorem dmkOk5 (l : List (PV dS)) (x : T_publicanref9_Word) (h : dmk5 l = some x) : Likes l (dfld 5 x) := by
  unfold dmk5 at h
  split at h; rotate_left; cases h
  rename_i y0 y1 y2 y3
  cases h
  exact .cons (.same _) (.cons (.same _) (.cons (.same _) (.cons (.same _) (.nil))))
theorem dmkOk6 (l : List (PV dS)) (x : T_publicanref9_Node) (h : dmk6 l = some x) : Likes l (dfld 6 x) := by
  unfold dmk6 at h
  split at h; rotate_left; cases h
  rename_i y0 y1 y2 y3 y4 y5
  obtain ⟨z5, h5, h⟩ := Option.bind_eq_some_iff.1 h
  cases h
  exact .cons (.same _) (.cons (.same _) (.cons (.same _) (.cons (.same _) (.cons (.same _) (.cons (rdS_like h5) (.nil))))))
theorem dmkOk7 (l : List (PV dS)) (x : T_syn_Node) (h : dmk7 l = some x) : Likes l (dfld 7 x) := by
  unfold dmk7 at h
  split at h; rotate_left; cases h
  rename_i y0 y1 y2 y3 y4 y5
  obtain ⟨z5, h5, h⟩ := Option.bind_eq_some_iff.1 h
  cases h
  exact .cons (.same _) (.cons (.same _) (.cons (.same _) (.cons (.same _) (.cons (.same _) (.cons (rdS_like h5) (.nil))))))
theorem dmkOk8 (l : List (PV dS)) (x : (List (List UInt8))) (h : dmk8 l = some x) : Likes l (dfld 8 x) := by
  unfold dmk8 at h
  split at h; rotate_left; cases h
  rename_i y0
  obtain ⟨z0, h0, h⟩ := Option.bind_eq_some_iff.1 h
  cases h
  exact .cons (rdS_like h0) (.nil)
theorem dmkOk : ∀ c l x, dmk c l = some x → Likes l (dfld c x)
  | 0, l, x, h => dmkOk0 l x h
  | 1, l, x, h => dmkOk1 l x h
  | 2, l, x, h => dmkOk2 l x h
  | 3, l, x, h => dmkOk3 l x h
  | 4, l, x, h => dmkOk4 l x h
  | 5, l, x, h => dmkOk5 l x h
  | 6, l, x, h => dmkOk6 l x h
  | 7, l, x, h => dmkOk7 l x h
  | 8, l, x, h => dmkOk8 l x h
  | _ + 9, l, x, h => by cases h
def codeT : List (Nat × Nat) := [(26, 7), (32, 6), (59, 5), (5, 1), (9, 2), (3, 0), (94, 8)]
def lookN (t : Nat) : List (Nat × Nat) → Option Nat
  | [] => none
  | p :: l => bif Nat.beq t p.1 then some p.2 else lookN t l
noncomputable instance : Dat where
  S := dS
  sz := dsz
  dflt := ddflt
  fld := dfld
  mkD := dmk
  code := fun t => lookN t codeT
  len := dlen
  data := ddata
  pos := dpos
  mkOk := dmkOk
  byte := 1
  byteI := fun n => n
  ofByte := fun n => n
  byteF := fun _ => rfl
  byteO := fun _ => rfl
noncomputable def el0 (l : List Int) (i : Nat) : Int := getD df0 l i
noncomputable def el1 (l : List Int) (i : Nat) : Int := getD df1 l i
noncomputable def el2 (l : List (List UInt8)) (i : Nat) : (List UInt8) := getD df2 l i
noncomputable def el3 (l : List Bool) (i : Nat) : Bool := getD df3 l i
noncomputable def el4 (l : List T_publicanref9_parser) (i : Nat) : T_publicanref9_parser := getD df4 l i
noncomputable def el5 (l : List T_publicanref9_Word) (i : Nat) : T_publicanref9_Word := getD df5 l i
noncomputable def el6 (l : List T_publicanref9_Node) (i : Nat) : T_publicanref9_Node := getD df6 l i
noncomputable def el7 (l : List T_syn_Node) (i : Nat) : T_syn_Node := getD df7 l i
noncomputable def el8 (l : List (List (List UInt8))) (i : Nat) : (List (List UInt8)) := getD df8 l i
end Go.Pm
namespace Go.Pm
open Go Go.EvM Go.Pv
set_option linter.unusedVariables false
variable {R : Type}
noncomputable abbrev br (c : Bool) (t e : Option R) : Option R := Bool.rec (motive := fun _ => Option R) e t c
def publicanlaw10_awake (m : Nat) (κ : Bool → Option R) : Option R := κ true
noncomputable def publicanref9_letter (m : Nat) (a0 : Int) (κ : Bool → Option R) : Option R :=
  let t4 := (leI 97 a0)
  br (t4) (
    let t7 := (leI a0 122)
    κ t7)
  (
    κ false)
noncomputable def publicanref9_digit (m : Nat) (a0 : Int) (κ : Bool → Option R) : Option R :=
  let t4 := (leI 48 a0)
  br (t4) (
    let t7 := (leI a0 57)
    κ t7)
  (
    κ false)
noncomputable def publicanref9_Kept_S0 (m : Nat) (ρ : Int → List UInt8 → List (List UInt8) → Option R) (e0 : Unit → Option R) (er : Bool → Option R) (x0 : Int) (x1 : List UInt8) (x2 : List (List UInt8)) : Option R :=
  let t8 := (x2.length : Int)
  let t9 := (ltI x0 t8)
  br (t9) (
    br ((inB x0 x2.length)) (
      let t15 := (el2 x2 (iNat x0))
      let t17 := (eqL t15 x1)
      br (t17) (
        er true)
      (
        let t11 := (wr .i64 (x0 + 1))
        ρ t11 x1 x2)) none)
  (
    e0 ())
noncomputable def publicanref9_Kept_L0 (m : Nat) : Nat → Int → List UInt8 → List (List UInt8) → (Unit → Option R) → (Bool → Option R) → Option R
  | 0 => fun _ _ _ _ _ => none
  | j + 1 => fun x0 x1 x2 e0 er => publicanref9_Kept_S0 m (fun x0 x1 x2 => publicanref9_Kept_L0 m j x0 x1 x2 e0 er) e0 er x0 x1 x2
noncomputable def publicanref9_Kept (m : Nat) (a0 : List UInt8) (κ : Bool → Option R) : Option R :=
  publicanref9_Kept_L0 m m 0 a0 ([sinput, srule, stable, sbool, scount, smoney, srate, sdate, smoneys, sif, sthen, selse, sand, sor, snot, smin, smax, ssum, sin, slen, sat, strue, sfalse]) (fun (_ : Unit) =>
    κ false) (fun z0_0 =>
    κ z0_0)
noncomputable def publicanref9_sign_S1 (m : Nat) (ρ : List UInt8 → Int → List UInt8 → Option R) (e2 : Unit → Option R) (er : List UInt8 → Option R) (x0 : List UInt8) (x1 : Int) (x2 : List UInt8) : Option R :=
  let t32 := (x2.length : Int)
  let t33 := (ltI x1 t32)
  br (t33) (
    br ((inB 0 x0.length)) (
      let t37 := (byteAt x0 0)
      br ((inB x1 x2.length)) (
        let t40 := (byteAt x2 x1)
        let t41 := (eqI t37 t40)
        br (t41) (
          br ((leI 0 1 && Nat.ble (iNat 1) x0.length)) (
            let t43 := (cutL x0 0 (iNat 1))
            er t43) none)
        (
          let t35 := (wr .i64 (x1 + 1))
          ρ x0 t35 x2)) none) none)
  (
    e2 ())
noncomputable def publicanref9_sign_L1 (m : Nat) : Nat → List UInt8 → Int → List UInt8 → (Unit → Option R) → (List UInt8 → Option R) → Option R
  | 0 => fun _ _ _ _ _ => none
  | j + 1 => fun x0 x1 x2 e2 er => publicanref9_sign_S1 m (fun x0 x1 x2 => publicanref9_sign_L1 m j x0 x1 x2 e2 er) e2 er x0 x1 x2
noncomputable def publicanref9_sign_S0 (m : Nat) (ρ : Int → List UInt8 → List (List UInt8) → Option R) (e0 : List UInt8 → Option R) (er : List UInt8 → Option R) (x0 : Int) (x1 : List UInt8) (x2 : List (List UInt8)) : Option R :=
  let t10 := (x2.length : Int)
  let t11 := (ltI x0 t10)
  br (t11) (
    let t15 := (x1.length : Int)
    let t16 := (leI 2 t15)
    br (t16) (
      br ((leI 0 2 && Nat.ble (iNat 2) x1.length)) (
        let t19 := (cutL x1 0 (iNat 2))
        br ((inB x0 x2.length)) (
          let t23 := (el2 x2 (iNat x0))
          let t24 := (eqL t19 t23)
          br (t24) (
            br ((inB x0 x2.length)) (
              let t29 := (el2 x2 (iNat x0))
              er t29) none)
          (
            let t13 := (wr .i64 (x0 + 1))
            ρ t13 x1 x2)) none) none)
    (
      let t13 := (wr .i64 (x0 + 1))
      ρ t13 x1 x2))
  (
    e0 x1)
noncomputable def publicanref9_sign_L0 (m : Nat) : Nat → Int → List UInt8 → List (List UInt8) → (List UInt8 → Option R) → (List UInt8 → Option R) → Option R
  | 0 => fun _ _ _ _ _ => none
  | j + 1 => fun x0 x1 x2 e0 er => publicanref9_sign_S0 m (fun x0 x1 x2 => publicanref9_sign_L0 m j x0 x1 x2 e0 er) e0 er x0 x1 x2
noncomputable def publicanref9_sign (m : Nat) (a0 : List UInt8) (κ : List UInt8 → Option R) : Option R :=
  publicanref9_sign_L0 m m 0 a0 ([s_60_61, s_62_61, s_61_61, s_33_61]) (fun y0_0 =>
    publicanref9_sign_L1 m m y0_0 0 s_40_41_123_125_91_93_44_59_58_61_43_45_42_47_60_62 (fun (_ : Unit) =>
      κ []) (fun z1_0 =>
      κ z1_0)) (fun z0_0 =>
    κ z0_0)
noncomputable def publicanref9_parser_w (m : Nat) (o0 : T_publicanref9_parser) (κ : T_publicanref9_Word → T_publicanref9_parser → Option R) : Option R :=
  br ((inB o0.f_k o0.f_l.length)) (
    let t11 := (el5 o0.f_l (iNat o0.f_k))
    κ t11 o0) none
noncomputable def publicanref9_number_S0 (m : Nat) (ρ : Int → Int → List UInt8 → Int → Option R) (e0 : Int → Option R) (er : Int → Bool → Option R) (x0 : Int) (x1 : Int) (x2 : List UInt8) (x3 : Int) : Option R :=
  let t10 := (x2.length : Int)
  let t11 := (ltI x0 t10)
  br (t11) (
    let t16 := (wr .i64 (Int.tdiv x1 10))
    let t17 := (ltI t16 x3)
    br (t17) (
      er 0 false)
    (
      let t19 := (wr .i64 (10 * x3))
      br ((inB x0 x2.length)) (
        let t22 := (byteAt x2 x0)
        let t23 := (wr .u8 (t22 - 48))
        let t24 := (wr .i64 t23)
        let t25 := (wr .i64 (t19 + t24))
        let t28 := (ltI x1 t25)
        br (t28) (
          er 0 false)
        (
          let t13 := (wr .i64 (x0 + 1))
          ρ t13 x1 x2 t25)) none))
  (
    e0 x3)
noncomputable def publicanref9_number_L0 (m : Nat) : Nat → Int → Int → List UInt8 → Int → (Int → Option R) → (Int → Bool → Option R) → Option R
  | 0 => fun _ _ _ _ _ _ => none
  | j + 1 => fun x0 x1 x2 x3 e0 er => publicanref9_number_S0 m (fun x0 x1 x2 x3 => publicanref9_number_L0 m j x0 x1 x2 x3 e0 er) e0 er x0 x1 x2 x3
noncomputable def publicanref9_number (m : Nat) (a0 : List UInt8) (a1 : Int) (κ : Int → Bool → Option R) : Option R :=
  publicanref9_number_L0 m m 0 a1 a0 0 (fun y0_0 =>
    κ y0_0 true) (fun z0_0 z0_1 =>
    κ z0_0 z0_1)
noncomputable def publicanref9_Kind_S0 (m : Nat) (ρ : Int → List UInt8 → List (List UInt8) → Option R) (e0 : Unit → Option R) (er : Int → Option R) (x0 : Int) (x1 : List UInt8) (x2 : List (List UInt8)) : Option R :=
  let t7 := (ltI x0 7)
  br (t7) (
    br ((inB x0 x2.length)) (
      let t13 := (el2 x2 (iNat x0))
      let t15 := (eqL t13 x1)
      br (t15) (
        er x0)
      (
        let t9 := (wr .i64 (x0 + 1))
        ρ t9 x1 x2)) none)
  (
    e0 ())
noncomputable def publicanref9_Kind_L0 (m : Nat) : Nat → Int → List UInt8 → List (List UInt8) → (Unit → Option R) → (Int → Option R) → Option R
  | 0 => fun _ _ _ _ _ => none
  | j + 1 => fun x0 x1 x2 e0 er => publicanref9_Kind_S0 m (fun x0 x1 x2 => publicanref9_Kind_L0 m j x0 x1 x2 e0 er) e0 er x0 x1 x2
noncomputable def publicanref9_Kind (m : Nat) (a0 : List UInt8) (κ : Int → Option R) : Option R :=
  publicanref9_Kind_L0 m m 1 a0 ([[], sbool, scount, smoney, srate, sdate, smoneys]) (fun (_ : Unit) =>
    κ 0) (fun z0_0 =>
    κ z0_0)
noncomputable def publicanref9_parser_out (m : Nat) (o0 : T_publicanref9_parser) (κ : T_publicanref9_parser → Option R) : Option R :=
  let t6 := (wr .i64 (o0.f_d - 1))
  κ (T_publicanref9_parser.mk o0.f_l o0.f_k o0.f_bad o0.f_deep t6)
noncomputable def publicanref1_Leap (m : Nat) (a0 : Int) (κ : Bool → Option R) : Option R :=
  let t4 := (Int.tmod a0 4)
  let t5 := (eqI t4 0)
  br (t5) (
    let t8 := (Int.tmod a0 100)
    let t9 := (!(eqI t8 0))
    br (t9) (
      κ true)
    (
      let t13 := (Int.tmod a0 400)
      let t14 := (eqI t13 0)
      κ t14))
  (
    let t13 := (Int.tmod a0 400)
    let t14 := (eqI t13 0)
    κ t14)
structure G_publicanref9_Same (R : Type) where
  publicanref9_Same : T_publicanref9_Node → T_publicanref9_Node → (Bool → Option R) → Option R
noncomputable def publicanref9_Same_S0 (m : Nat) (g : G_publicanref9_Same R) (ρ : Int → List UInt8 → List UInt8 → Int → Int → Int → List T_publicanref9_Node → List UInt8 → List UInt8 → Int → Int → Int → List T_publicanref9_Node → Option R) (e0 : Unit → Option R) (er : Bool → Option R) (x0 : Int) (x1 : List UInt8) (x2 : List UInt8) (x3 : Int) (x4 : Int) (x5 : Int) (x6 : List T_publicanref9_Node) (x7 : List UInt8) (x8 : List UInt8) (x9 : Int) (x10 : Int) (x11 : Int) (x12 : List T_publicanref9_Node) : Option R :=
  let t44 := (x12.length : Int)
  let t45 := (ltI x0 t44)
  br (t45) (
    br ((inB x0 x12.length)) (
      let t51 := (el6 x12 (iNat x0))
      br ((inB x0 x6.length)) (
        let t56 := (el6 x6 (iNat x0))
        g.publicanref9_Same t51 t56 (fun r58 =>
        let t59 := (!r58)
        br (t59) (
          er false)
        (
          let t47 := (wr .i64 (x0 + 1))
          ρ t47 x1 x2 x3 x4 x5 x6 x7 x8 x9 x10 x11 x12))) none) none)
  (
    e0 ())
noncomputable def publicanref9_Same_L0 (m : Nat) (g : G_publicanref9_Same R) : Nat → Int → List UInt8 → List UInt8 → Int → Int → Int → List T_publicanref9_Node → List UInt8 → List UInt8 → Int → Int → Int → List T_publicanref9_Node → (Unit → Option R) → (Bool → Option R) → Option R
  | 0 => fun _ _ _ _ _ _ _ _ _ _ _ _ _ _ _ => none
  | j + 1 => fun x0 x1 x2 x3 x4 x5 x6 x7 x8 x9 x10 x11 x12 e0 er => publicanref9_Same_S0 m g (fun x0 x1 x2 x3 x4 x5 x6 x7 x8 x9 x10 x11 x12 => publicanref9_Same_L0 m g j x0 x1 x2 x3 x4 x5 x6 x7 x8 x9 x10 x11 x12 e0 er) e0 er x0 x1 x2 x3 x4 x5 x6 x7 x8 x9 x10 x11 x12
noncomputable def publicanref9_Same_B (m : Nat) (g : G_publicanref9_Same R) (a0 : T_publicanref9_Node) (a1 : T_publicanref9_Node) (κ : Bool → Option R) : Option R :=
  let t10 := (!(eqL a0.f_Op a1.f_Op))
  br (t10) (
    κ false)
  (
    let t16 := (!(eqL a0.f_Name a1.f_Name))
    br (t16) (
      κ false)
    (
      let t23 := (!(eqI a0.f_Kind a1.f_Kind))
      br (t23) (
        κ false)
      (
        let t30 := (!(eqI a0.f_N a1.f_N))
        br (t30) (
          κ false)
        (
          let t35 := (a0.f_Kids.length : Int)
          let t38 := (a1.f_Kids.length : Int)
          let t39 := (!(eqI t35 t38))
          br (t39) (
            κ false)
          (
            publicanref9_Same_L0 m g m 0 a1.f_Op a1.f_Name a1.f_Kind a1.f_N a1.f_At a1.f_Kids a0.f_Op a0.f_Name a0.f_Kind a0.f_N a0.f_At a0.f_Kids (fun (_ : Unit) =>
              κ true) (fun z0_0 =>
              κ z0_0))))))
noncomputable def G_publicanref9_Same_r : Nat → G_publicanref9_Same R
  | 0 => ⟨fun _ _ _ => none⟩
  | j + 1 => ⟨publicanref9_Same_B j (G_publicanref9_Same_r j)⟩
noncomputable def publicanref9_Same (m : Nat) := (G_publicanref9_Same_r (R := R) m).publicanref9_Same
structure G_publicanref17_Back (R : Type) where
  publicanref17_Back : T_publicanref9_Node → (T_syn_Node → Option R) → Option R
noncomputable def publicanref17_Back_S0 (m : Nat) (g : G_publicanref17_Back R) (ρ : Int → List UInt8 → List UInt8 → Int → Int → Int → List UInt8 → List UInt8 → Int → Int → Int → List T_publicanref9_Node → List UInt8 → List UInt8 → Int → Int → Int → List T_syn_Node → List T_syn_Node → Option R) (e0 : List UInt8 → List UInt8 → Int → Int → Int → List T_syn_Node → List UInt8 → List UInt8 → Int → Int → Int → List T_syn_Node → Option R) (x0 : Int) (x1 : List UInt8) (x2 : List UInt8) (x3 : Int) (x4 : Int) (x5 : Int) (x6 : List UInt8) (x7 : List UInt8) (x8 : Int) (x9 : Int) (x10 : Int) (x11 : List T_publicanref9_Node) (x12 : List UInt8) (x13 : List UInt8) (x14 : Int) (x15 : Int) (x16 : Int) (x17 : List T_syn_Node) (x18 : List T_syn_Node) : Option R :=
  let t19 := (x11.length : Int)
  let t20 := (ltI x0 t19)
  br (t20) (
    br ((inB x0 x11.length)) (
      let t28 := (el6 x11 (iNat x0))
      g.publicanref17_Back t28 (fun r30 =>
      br ((okAp 80 (x18.length + [r30].length))) (
        let t22 := (wr .i64 (x0 + 1))
        ρ t22 x1 x2 x3 x4 x5 x6 x7 x8 x9 x10 x11 x12 x13 x14 x15 x16 x17 (x18 ++ [r30])) none)) none)
  (
    e0 x12 x13 x14 x15 x16 x17 x1 x2 x3 x4 x5 x18)
noncomputable def publicanref17_Back_L0 (m : Nat) (g : G_publicanref17_Back R) : Nat → Int → List UInt8 → List UInt8 → Int → Int → Int → List UInt8 → List UInt8 → Int → Int → Int → List T_publicanref9_Node → List UInt8 → List UInt8 → Int → Int → Int → List T_syn_Node → List T_syn_Node → (List UInt8 → List UInt8 → Int → Int → Int → List T_syn_Node → List UInt8 → List UInt8 → Int → Int → Int → List T_syn_Node → Option R) → Option R
  | 0 => fun _ _ _ _ _ _ _ _ _ _ _ _ _ _ _ _ _ _ _ _ => none
  | j + 1 => fun x0 x1 x2 x3 x4 x5 x6 x7 x8 x9 x10 x11 x12 x13 x14 x15 x16 x17 x18 e0 => publicanref17_Back_S0 m g (fun x0 x1 x2 x3 x4 x5 x6 x7 x8 x9 x10 x11 x12 x13 x14 x15 x16 x17 x18 => publicanref17_Back_L0 m g j x0 x1 x2 x3 x4 x5 x6 x7 x8 x9 x10 x11 x12 x13 x14 x15 x16 x17 x18 e0) e0 x0 x1 x2 x3 x4 x5 x6 x7 x8 x9 x10 x11 x12 x13 x14 x15 x16 x17 x18
noncomputable def publicanref17_Back_B (m : Nat) (g : G_publicanref17_Back R) (a0 : T_publicanref9_Node) (κ : T_syn_Node → Option R) : Option R :=
  publicanref17_Back_L0 m g m 0 a0.f_Op a0.f_Name a0.f_Kind a0.f_N a0.f_At a0.f_Op a0.f_Name a0.f_Kind a0.f_N a0.f_At a0.f_Kids [] [] 0 0 0 [] [] (fun y0_0 y0_1 y0_2 y0_3 y0_4 y0_5 y0_6 y0_7 y0_8 y0_9 y0_10 y0_11 =>
  κ (T_syn_Node.mk y0_6 y0_7 y0_8 y0_9 y0_10 y0_11))
noncomputable def G_publicanref17_Back_r : Nat → G_publicanref17_Back R
  | 0 => ⟨fun _ _ => none⟩
  | j + 1 => ⟨publicanref17_Back_B j (G_publicanref17_Back_r j)⟩
noncomputable def publicanref17_Back (m : Nat) := (G_publicanref17_Back_r (R := R) m).publicanref17_Back
noncomputable def publicanref9_run_S0 (m : Nat) (ρ : Int → Int → List UInt8 → Option R) (e0 : Int → Option R) (x0 : Int) (x1 : Int) (x2 : List UInt8) : Option R :=
  let t8 := (wr .i64 (x1 + x0))
  let t10 := (x2.length : Int)
  let t11 := (ltI t8 t10)
  br (t11) (
    let t16 := (wr .i64 (x1 + x0))
    br ((inB t16 x2.length)) (
      let t17 := (byteAt x2 t16)
      publicanref9_digit m t17 (fun r18 =>
      br (r18) (
        let t21 := (wr .i64 (x0 + 1))
        ρ t21 x1 x2)
      (
        e0 x0))) none)
  (
    e0 x0)
noncomputable def publicanref9_run_L0 (m : Nat) : Nat → Int → Int → List UInt8 → (Int → Option R) → Option R
  | 0 => fun _ _ _ _ => none
  | j + 1 => fun x0 x1 x2 e0 => publicanref9_run_S0 m (fun x0 x1 x2 => publicanref9_run_L0 m j x0 x1 x2 e0) e0 x0 x1 x2
noncomputable def publicanref9_run (m : Nat) (a0 : List UInt8) (a1 : Int) (κ : Int → Option R) : Option R :=
  publicanref9_run_L0 m m 0 a1 a0 (fun y0_0 =>
  κ y0_0)
noncomputable def publicanref9_money (m : Nat) (a0 : List UInt8) (a1 : List UInt8) (κ : Int → Bool → Option R) : Option R :=
  publicanref9_number m a0 4503599627370496 (fun r12_0 r12_1 =>
  publicanref9_number m a1 99 (fun r17_0 r17_1 =>
  let t21 := (!r12_1)
  br (t21) (
    κ 0 false)
  (
    let t24 := (ltI 45035996273704 r12_0)
    br (t24) (
      κ 0 false)
    (
      let t28 := (wr .i64 (100 * r12_0))
      let t30 := (wr .i64 (t28 + r17_0))
      let t31 := (ltI 4503599627370496 t30)
      br (t31) (
        κ 0 false)
      (
        let t34 := (wr .i64 (100 * r12_0))
        let t36 := (wr .i64 (t34 + r17_0))
        κ t36 true)))))
noncomputable def publicanref9_parser_is (m : Nat) (o0 : T_publicanref9_parser) (a1 : List UInt8) (κ : Bool → T_publicanref9_parser → Option R) : Option R :=
  publicanref9_parser_w m o0 (fun r7 o0_7 =>
  let t13 := (ltI o0_7.f_bad 0)
  br (t13) (
    let t16 := (eqI r7.f_Kind 2)
    br (t16) (
      publicanref9_parser_w m o0_7 (fun r24 o0_24 =>
      let t27 := (eqL r24.f_Text a1)
      κ t27 o0_24))
    (
      let t19 := (eqI r7.f_Kind 7)
      br (t19) (
        publicanref9_parser_w m o0_7 (fun r24 o0_24 =>
        let t27 := (eqL r24.f_Text a1)
        κ t27 o0_24))
      (
        κ false o0_7)))
  (
    κ false o0_7))
noncomputable def publicanref9_parser_limit (m : Nat) (o0 : T_publicanref9_parser) (κ : T_publicanref9_parser → Option R) : Option R :=
  let t6 := (ltI o0.f_bad 0)
  br (t6) (
    publicanref9_parser_w m o0 (fun r9 o0_9 =>
    κ (T_publicanref9_parser.mk o0_9.f_l o0_9.f_k r9.f_At true o0_9.f_d)))
  (
    κ o0)
noncomputable def publicanref9_parser_fail (m : Nat) (o0 : T_publicanref9_parser) (κ : T_publicanref9_parser → Option R) : Option R :=
  let t6 := (ltI o0.f_bad 0)
  br (t6) (
    publicanref9_parser_w m o0 (fun r9 o0_9 =>
    κ (T_publicanref9_parser.mk o0_9.f_l o0_9.f_k r9.f_At o0_9.f_deep o0_9.f_d)))
  (
    κ o0)
noncomputable def publicanref9_percent_S0 (m : Nat) (ρ : List UInt8 → List UInt8 → Option R) (e0 : List UInt8 → List UInt8 → Option R) (x0 : List UInt8) (x1 : List UInt8) : Option R :=
  let t11 := (x0.length : Int)
  let t12 := (ltI t11 4)
  br (t12) (
    br ((catOk x0 s0)) (
      let t14 := (x0 ++ s0)
      ρ t14 x1) none)
  (
    e0 x0 x1)
noncomputable def publicanref9_percent_L0 (m : Nat) : Nat → List UInt8 → List UInt8 → (List UInt8 → List UInt8 → Option R) → Option R
  | 0 => fun _ _ _ => none
  | j + 1 => fun x0 x1 e0 => publicanref9_percent_S0 m (fun x0 x1 => publicanref9_percent_L0 m j x0 x1 e0) e0 x0 x1
noncomputable def publicanref9_percent (m : Nat) (a0 : List UInt8) (a1 : List UInt8) (κ : Int → Bool → Option R) : Option R :=
  publicanref9_percent_L0 m m a1 a0 (fun y0_0 y0_1 =>
  publicanref9_number m y0_1 1000000000000 (fun r17_0 r17_1 =>
  publicanref9_number m y0_0 9999 (fun r22_0 r22_1 =>
  let t26 := (!r17_1)
  br (t26) (
    κ 0 false)
  (
    let t29 := (ltI 100000000 r17_0)
    br (t29) (
      κ 0 false)
    (
      let t33 := (wr .i64 (10000 * r17_0))
      let t35 := (wr .i64 (t33 + r22_0))
      let t36 := (ltI 1000000000000 t35)
      br (t36) (
        κ 0 false)
      (
        let t39 := (wr .i64 (10000 * r17_0))
        let t41 := (wr .i64 (t39 + r22_0))
        κ t41 true))))))
noncomputable def publicanref1_Days (m : Nat) (a0 : Int) (a1 : Int) (κ : Int → Option R) : Option R :=
  let t7 := (eqI a1 1)
  br (t7) (
    κ 31)
  (
    let t8 := (eqI a1 3)
    br (t8) (
      κ 31)
    (
      let t9 := (eqI a1 5)
      br (t9) (
        κ 31)
      (
        let t10 := (eqI a1 7)
        br (t10) (
          κ 31)
        (
          let t11 := (eqI a1 8)
          br (t11) (
            κ 31)
          (
            let t12 := (eqI a1 10)
            br (t12) (
              κ 31)
            (
              let t13 := (eqI a1 12)
              br (t13) (
                κ 31)
              (
                let t15 := (eqI a1 4)
                br (t15) (
                  κ 30)
                (
                  let t16 := (eqI a1 6)
                  br (t16) (
                    κ 30)
                  (
                    let t17 := (eqI a1 9)
                    br (t17) (
                      κ 30)
                    (
                      let t18 := (eqI a1 11)
                      br (t18) (
                        κ 30)
                      (
                        let t20 := (eqI a1 2)
                        br (t20) (
                          publicanref1_Leap m a0 (fun r22 =>
                          br (r22) (
                            κ 29)
                          (
                            κ 28)))
                        (
                          κ 0))))))))))))
structure G_syn_Same (R : Type) where
  syn_Same : T_syn_Node → T_syn_Node → (Bool → Option R) → Option R
  slices_EqualFunc___publican_syn_Node___publican_syn_Node_publican_syn_Node_publican_syn_Node_ : List T_syn_Node → List T_syn_Node → (Bool → Option R) → Option R
noncomputable def syn_Same_B (m : Nat) (g : G_syn_Same R) (a0 : T_syn_Node) (a1 : T_syn_Node) (κ : Bool → Option R) : Option R :=
  let t9 := (eqL a0.f_Op a1.f_Op)
  br (t9) (
    let t15 := (eqL a0.f_Name a1.f_Name)
    br (t15) (
      let t22 := (eqI a0.f_Kind a1.f_Kind)
      br (t22) (
        let t29 := (eqI a0.f_N a1.f_N)
        br (t29) (
          g.slices_EqualFunc___publican_syn_Node___publican_syn_Node_publican_syn_Node_publican_syn_Node_ a0.f_Kids a1.f_Kids (fun r36 =>
          κ r36))
        (
          κ false))
      (
        κ false))
    (
      κ false))
  (
    κ false)
noncomputable def slices_EqualFunc___publican_syn_Node___publican_syn_Node_publican_syn_Node_publican_syn_Node__S0 (m : Nat) (g : G_syn_Same R) (ρ : Int → List T_syn_Node → List T_syn_Node → Int → Option R) (e0 : Unit → Option R) (er : Bool → Option R) (x0 : Int) (x1 : List T_syn_Node) (x2 : List T_syn_Node) (x3 : Int) : Option R :=
  let t18 := (ltI x0 x3)
  br (t18) (
    br ((inB x0 x2.length)) (
      let t20 := (el7 x2 (iNat x0))
      br ((inB x0 x1.length)) (
        let t24 := (el7 x1 (iNat x0))
        g.syn_Same (T_syn_Node.mk t20.f_Op t20.f_Name t20.f_Kind t20.f_N t20.f_At t20.f_Kids) (T_syn_Node.mk t24.f_Op t24.f_Name t24.f_Kind t24.f_N t24.f_At t24.f_Kids) (fun r29 =>
        let t30 := (!r29)
        br (t30) (
          er false)
        (
          let t31 := (wr .i64 (x0 + 1))
          ρ t31 x1 x2 x3))) none) none)
  (
    e0 ())
noncomputable def slices_EqualFunc___publican_syn_Node___publican_syn_Node_publican_syn_Node_publican_syn_Node__L0 (m : Nat) (g : G_syn_Same R) : Nat → Int → List T_syn_Node → List T_syn_Node → Int → (Unit → Option R) → (Bool → Option R) → Option R
  | 0 => fun _ _ _ _ _ _ => none
  | j + 1 => fun x0 x1 x2 x3 e0 er => slices_EqualFunc___publican_syn_Node___publican_syn_Node_publican_syn_Node_publican_syn_Node__S0 m g (fun x0 x1 x2 x3 => slices_EqualFunc___publican_syn_Node___publican_syn_Node_publican_syn_Node_publican_syn_Node__L0 m g j x0 x1 x2 x3 e0 er) e0 er x0 x1 x2 x3
noncomputable def slices_EqualFunc___publican_syn_Node___publican_syn_Node_publican_syn_Node_publican_syn_Node__B (m : Nat) (g : G_syn_Same R) (a0 : List T_syn_Node) (a1 : List T_syn_Node) (κ : Bool → Option R) : Option R :=
  let t11 := (a0.length : Int)
  let t13 := (a1.length : Int)
  let t14 := (!(eqI t11 t13))
  br (t14) (
    κ false)
  (
    let t16 := (a0.length : Int)
    slices_EqualFunc___publican_syn_Node___publican_syn_Node_publican_syn_Node_publican_syn_Node__L0 m g m 0 a1 a0 t16 (fun (_ : Unit) =>
      κ true) (fun z0_0 =>
      κ z0_0))
noncomputable def G_syn_Same_r : Nat → G_syn_Same R
  | 0 => ⟨fun _ _ _ => none, fun _ _ _ => none⟩
  | j + 1 => ⟨syn_Same_B j (G_syn_Same_r j), slices_EqualFunc___publican_syn_Node___publican_syn_Node_publican_syn_Node_publican_syn_Node__B j (G_syn_Same_r j)⟩
noncomputable def syn_Same (m : Nat) := (G_syn_Same_r (R := R) m).syn_Same
noncomputable def slices_EqualFunc___publican_syn_Node___publican_syn_Node_publican_syn_Node_publican_syn_Node_ (m : Nat) := (G_syn_Same_r (R := R) m).slices_EqualFunc___publican_syn_Node___publican_syn_Node_publican_syn_Node_publican_syn_Node_
noncomputable def publicanref9_parser_take (m : Nat) (o0 : T_publicanref9_parser) (a1 : List UInt8) (κ : Bool → T_publicanref9_parser → Option R) : Option R :=
  publicanref9_parser_is m o0 a1 (fun r7 o0_7 =>
  let t8 := (!r7)
  br (t8) (
    κ false o0_7)
  (
    let t13 := (wr .i64 (o0_7.f_k + 1))
    κ true (T_publicanref9_parser.mk o0_7.f_l t13 o0_7.f_bad o0_7.f_deep o0_7.f_d)))
noncomputable def publicanref9_parser_name (m : Nat) (o0 : T_publicanref9_parser) (κ : List UInt8 → T_publicanref9_parser → Option R) : Option R :=
  let t7 := (leI 0 o0.f_bad)
  br (t7) (
    publicanref9_parser_fail m o0 (fun o0_15 =>
    κ [] o0_15))
  (
    publicanref9_parser_w m o0 (fun r10 o0_10 =>
    let t12 := (!(eqI r10.f_Kind 1))
    br (t12) (
      publicanref9_parser_fail m o0_10 (fun o0_15 =>
      κ [] o0_15))
    (
      let t20 := (wr .i64 (o0_10.f_k + 1))
      let t31 := (wr .i64 (t20 - 1))
      br ((inB t31 o0_10.f_l.length)) (
        let t32 := (el5 o0_10.f_l (iNat t31))
        κ t32.f_Text (T_publicanref9_parser.mk o0_10.f_l t20 o0_10.f_bad o0_10.f_deep o0_10.f_d)) none)))
noncomputable def publicanref9_parser_in (m : Nat) (o0 : T_publicanref9_parser) (κ : Bool → T_publicanref9_parser → Option R) : Option R :=
  let t7 := (leI 0 o0.f_bad)
  br (t7) (
    κ false o0)
  (
    let t12 := (leI 40 o0.f_d)
    br (t12) (
      publicanref9_parser_limit m o0 (fun o0_14 =>
      κ false o0_14))
    (
      let t19 := (wr .i64 (o0.f_d + 1))
      κ true (T_publicanref9_parser.mk o0.f_l o0.f_k o0.f_bad o0.f_deep t19)))
noncomputable def publicanref9_parser_islit (m : Nat) (o0 : T_publicanref9_parser) (κ : Bool → T_publicanref9_parser → Option R) : Option R :=
  publicanref9_parser_w m o0 (fun r5 o0_5 =>
  let t11 := (ltI o0_5.f_bad 0)
  br (t11) (
    let t14 := (leI 3 r5.f_Kind)
    br (t14) (
      let t17 := (leI r5.f_Kind 6)
      br (t17) (
        κ true o0_5)
      (
        publicanref9_parser_is m o0_5 strue (fun r21 o0_21 =>
        br (r21) (
          κ true o0_21)
        (
          publicanref9_parser_is m o0_21 sfalse (fun r25 o0_25 =>
          κ r25 o0_25)))))
    (
      publicanref9_parser_is m o0_5 strue (fun r21 o0_21 =>
      br (r21) (
        κ true o0_21)
      (
        publicanref9_parser_is m o0_21 sfalse (fun r25 o0_25 =>
        κ r25 o0_25)))))
  (
    κ false o0_5))
noncomputable def publicanref1_Day_S1 (m : Nat) (ρ : Int → Int → Int → Int → Int → Option R) (e2 : Int → Int → Option R) (x0 : Int) (x1 : Int) (x2 : Int) (x3 : Int) (x4 : Int) : Option R :=
  let t49 := (ltI x0 x4)
  br (t49) (
    publicanref1_Days m x1 x0 (fun r55 =>
    let t56 := (wr .i64 (x2 + r55))
    let t51 := (wr .i64 (x0 + 1))
    ρ t51 x1 t56 x3 x4))
  (
    e2 x3 x2)
noncomputable def publicanref1_Day_L1 (m : Nat) : Nat → Int → Int → Int → Int → Int → (Int → Int → Option R) → Option R
  | 0 => fun _ _ _ _ _ _ => none
  | j + 1 => fun x0 x1 x2 x3 x4 e2 => publicanref1_Day_S1 m (fun x0 x1 x2 x3 x4 => publicanref1_Day_L1 m j x0 x1 x2 x3 x4 e2) e2 x0 x1 x2 x3 x4
noncomputable def publicanref1_Day_S0 (m : Nat) (ρ : Int → Int → Int → Int → Int → Option R) (e0 : Int → Int → Int → Int → Option R) (x0 : Int) (x1 : Int) (x2 : Int) (x3 : Int) (x4 : Int) : Option R :=
  let t38 := (ltI x0 x2)
  br (t38) (
    let t42 := (wr .i64 (x1 + 365))
    publicanref1_Leap m x0 (fun r44 =>
    br (r44) (
      let t46 := (wr .i64 (t42 + 1))
      let t40 := (wr .i64 (x0 + 1))
      ρ t40 t46 x2 x3 x4)
    (
      let t40 := (wr .i64 (x0 + 1))
      ρ t40 t42 x2 x3 x4)))
  (
    e0 x2 x1 x3 x4)
noncomputable def publicanref1_Day_L0 (m : Nat) : Nat → Int → Int → Int → Int → Int → (Int → Int → Int → Int → Option R) → Option R
  | 0 => fun _ _ _ _ _ _ => none
  | j + 1 => fun x0 x1 x2 x3 x4 e0 => publicanref1_Day_S0 m (fun x0 x1 x2 x3 x4 => publicanref1_Day_L0 m j x0 x1 x2 x3 x4 e0) e0 x0 x1 x2 x3 x4
noncomputable def publicanref1_Day (m : Nat) (a0 : Int) (a1 : Int) (a2 : Int) (κ : Int → Bool → Option R) : Option R :=
  let t12 := (ltI a0 1900)
  br (t12) (
    κ 0 false)
  (
    let t15 := (ltI 2199 a0)
    br (t15) (
      κ 0 false)
    (
      let t19 := (ltI a1 1)
      br (t19) (
        κ 0 false)
      (
        let t23 := (ltI 12 a1)
        br (t23) (
          κ 0 false)
        (
          let t27 := (ltI a2 1)
          br (t27) (
            κ 0 false)
          (
            publicanref1_Days m a0 a1 (fun r33 =>
            let t34 := (ltI r33 a2)
            br (t34) (
              κ 0 false)
            (
              publicanref1_Day_L0 m m 1900 0 a0 a2 a1 (fun y0_0 y0_1 y0_2 y0_3 =>
              publicanref1_Day_L1 m m 1 y0_0 y0_1 y0_2 y0_3 (fun y1_0 y1_1 =>
              let t59 := (wr .i64 (y1_1 + y1_0))
              let t60 := (wr .i64 (t59 - 1))
              κ t60 true)))))))))
noncomputable def publicanref9_parser_kind (m : Nat) (o0 : T_publicanref9_parser) (κ : Int → T_publicanref9_parser → Option R) : Option R :=
  let t8 := (ltI o0.f_bad 0)
  br (t8) (
    publicanref9_parser_w m o0 (fun r11 o0_11 =>
    let t13 := (eqI r11.f_Kind 2)
    br (t13) (
      publicanref9_parser_w m o0_11 (fun r16 o0_16 =>
      publicanref9_Kind m r16.f_Text (fun r18 =>
      let t20 := (eqI r18 0)
      br (t20) (
        publicanref9_parser_fail m o0_16 (fun o0_22 =>
        κ 0 o0_22))
      (
        let t27 := (wr .i64 (o0_16.f_k + 1))
        κ r18 (T_publicanref9_parser.mk o0_16.f_l t27 o0_16.f_bad o0_16.f_deep o0_16.f_d)))))
    (
      let t20 := (eqI 0 0)
      br (t20) (
        publicanref9_parser_fail m o0_11 (fun o0_22 =>
        κ 0 o0_22))
      (
        let t27 := (wr .i64 (o0_11.f_k + 1))
        κ 0 (T_publicanref9_parser.mk o0_11.f_l t27 o0_11.f_bad o0_11.f_deep o0_11.f_d)))))
  (
    let t20 := (eqI 0 0)
    br (t20) (
      publicanref9_parser_fail m o0 (fun o0_22 =>
      κ 0 o0_22))
    (
      let t27 := (wr .i64 (o0.f_k + 1))
      κ 0 (T_publicanref9_parser.mk o0.f_l t27 o0.f_bad o0.f_deep o0.f_d)))
noncomputable def publicanref1_ReadDay_S0 (m : Nat) (ρ : Int → List UInt8 → List Int → Option R) (e0 : List Int → Option R) (er : Int → Bool → Option R) (x0 : Int) (x1 : List UInt8) (x2 : List Int) : Option R :=
  let t22 := (ltI x0 10)
  br (t22) (
    let t26 := (eqI x0 4)
    br (t26) (
      let t24 := (wr .i64 (x0 + 1))
      ρ t24 x1 x2)
    (
      let t29 := (eqI x0 7)
      br (t29) (
        let t24 := (wr .i64 (x0 + 1))
        ρ t24 x1 x2)
      (
        br ((inB x0 x1.length)) (
          let t33 := (byteAt x1 x0)
          let t34 := (ltI t33 48)
          br (t34) (
            er 0 false)
          (
            br ((inB x0 x1.length)) (
              let t38 := (byteAt x1 x0)
              let t39 := (ltI 57 t38)
              br (t39) (
                er 0 false)
              (
                let t42 := (ltI 4 x0)
                br (t42) (
                  let t44 := (ltI 7 x0)
                  br (t44) (
                    br ((inB 2 x2.length)) (
                      let t50 := (el0 x2 (iNat 2))
                      let t51 := (wr .i64 (10 * t50))
                      br ((inB x0 x1.length)) (
                        let t54 := (byteAt x1 x0)
                        let t55 := (wr .u8 (t54 - 48))
                        let t56 := (wr .i64 t55)
                        let t57 := (wr .i64 (t51 + t56))
                        br ((inB 2 x2.length)) (
                          let t24 := (wr .i64 (x0 + 1))
                          ρ t24 x1 (x2.set (iNat 2) t57)) none) none) none)
                  (
                    br ((inB 1 x2.length)) (
                      let t50 := (el0 x2 (iNat 1))
                      let t51 := (wr .i64 (10 * t50))
                      br ((inB x0 x1.length)) (
                        let t54 := (byteAt x1 x0)
                        let t55 := (wr .u8 (t54 - 48))
                        let t56 := (wr .i64 t55)
                        let t57 := (wr .i64 (t51 + t56))
                        br ((inB 1 x2.length)) (
                          let t24 := (wr .i64 (x0 + 1))
                          ρ t24 x1 (x2.set (iNat 1) t57)) none) none) none))
                (
                  let t44 := (ltI 7 x0)
                  br (t44) (
                    br ((inB 2 x2.length)) (
                      let t50 := (el0 x2 (iNat 2))
                      let t51 := (wr .i64 (10 * t50))
                      br ((inB x0 x1.length)) (
                        let t54 := (byteAt x1 x0)
                        let t55 := (wr .u8 (t54 - 48))
                        let t56 := (wr .i64 t55)
                        let t57 := (wr .i64 (t51 + t56))
                        br ((inB 2 x2.length)) (
                          let t24 := (wr .i64 (x0 + 1))
                          ρ t24 x1 (x2.set (iNat 2) t57)) none) none) none)
                  (
                    br ((inB 0 x2.length)) (
                      let t50 := (el0 x2 (iNat 0))
                      let t51 := (wr .i64 (10 * t50))
                      br ((inB x0 x1.length)) (
                        let t54 := (byteAt x1 x0)
                        let t55 := (wr .u8 (t54 - 48))
                        let t56 := (wr .i64 t55)
                        let t57 := (wr .i64 (t51 + t56))
                        br ((inB 0 x2.length)) (
                          let t24 := (wr .i64 (x0 + 1))
                          ρ t24 x1 (x2.set (iNat 0) t57)) none) none) none)))) none)) none)))
  (
    e0 x2)
noncomputable def publicanref1_ReadDay_L0 (m : Nat) : Nat → Int → List UInt8 → List Int → (List Int → Option R) → (Int → Bool → Option R) → Option R
  | 0 => fun _ _ _ _ _ => none
  | j + 1 => fun x0 x1 x2 e0 er => publicanref1_ReadDay_S0 m (fun x0 x1 x2 => publicanref1_ReadDay_L0 m j x0 x1 x2 e0 er) e0 er x0 x1 x2
noncomputable def publicanref1_ReadDay (m : Nat) (a0 : List UInt8) (κ : Int → Bool → Option R) : Option R :=
  let t8 := (a0.length : Int)
  let t9 := (!(eqI t8 10))
  br (t9) (
    κ 0 false)
  (
    br ((inB 4 a0.length)) (
      let t12 := (byteAt a0 4)
      let t13 := (!(eqI t12 45))
      br (t13) (
        κ 0 false)
      (
        br ((inB 7 a0.length)) (
          let t17 := (byteAt a0 7)
          let t18 := (!(eqI t17 45))
          br (t18) (
            κ 0 false)
          (
            publicanref1_ReadDay_L0 m m 0 a0 ([0, 0, 0]) (fun y0_0 =>
              br ((inB 0 y0_0.length)) (
                let t61 := (el0 y0_0 (iNat 0))
                br ((inB 1 y0_0.length)) (
                  let t64 := (el0 y0_0 (iNat 1))
                  br ((inB 2 y0_0.length)) (
                    let t67 := (el0 y0_0 (iNat 2))
                    publicanref1_Day m t61 t64 t67 (fun r68_0 r68_1 =>
                    κ r68_0 r68_1)) none) none) none) (fun z0_0 z0_1 =>
              κ z0_0 z0_1))) none)) none)
noncomputable def publicanref9_parser_want (m : Nat) (o0 : T_publicanref9_parser) (a1 : List UInt8) (κ : T_publicanref9_parser → Option R) : Option R :=
  publicanref9_parser_take m o0 a1 (fun r6 o0_6 =>
  let t7 := (!r6)
  br (t7) (
    publicanref9_parser_fail m o0_6 (fun o0_9 =>
    κ o0_9))
  (
    κ o0_6))
noncomputable def publicanref9_parser_lit (m : Nat) (o0 : T_publicanref9_parser) (κ : T_publicanref9_Node → T_publicanref9_parser → Option R) : Option R :=
  publicanref9_parser_islit m o0 (fun r6 o0_6 =>
  let t7 := (!r6)
  br (t7) (
    publicanref9_parser_fail m o0_6 (fun o0_9 =>
    κ (T_publicanref9_Node.mk [] [] 0 0 0 []) o0_9))
  (
    publicanref9_parser_w m o0_6 (fun r12 o0_12 =>
    let t17 := (wr .i64 (o0_12.f_k + 1))
    let t33 := (eqI r12.f_Kind 3)
    br (t33) (
      κ (T_publicanref9_Node.mk slit [] 2 r12.f_N r12.f_At []) (T_publicanref9_parser.mk o0_12.f_l t17 o0_12.f_bad o0_12.f_deep o0_12.f_d))
    (
      let t36 := (eqI r12.f_Kind 4)
      br (t36) (
        κ (T_publicanref9_Node.mk slit [] 3 r12.f_N r12.f_At []) (T_publicanref9_parser.mk o0_12.f_l t17 o0_12.f_bad o0_12.f_deep o0_12.f_d))
      (
        let t39 := (eqI r12.f_Kind 5)
        br (t39) (
          κ (T_publicanref9_Node.mk slit [] 4 r12.f_N r12.f_At []) (T_publicanref9_parser.mk o0_12.f_l t17 o0_12.f_bad o0_12.f_deep o0_12.f_d))
        (
          let t42 := (eqI r12.f_Kind 6)
          br (t42) (
            κ (T_publicanref9_Node.mk slit [] 5 r12.f_N r12.f_At []) (T_publicanref9_parser.mk o0_12.f_l t17 o0_12.f_bad o0_12.f_deep o0_12.f_d))
          (
            let t30 := (eqL r12.f_Text strue)
            br (t30) (
              κ (T_publicanref9_Node.mk slit [] 1 1 r12.f_At []) (T_publicanref9_parser.mk o0_12.f_l t17 o0_12.f_bad o0_12.f_deep o0_12.f_d))
            (
              κ (T_publicanref9_Node.mk slit [] 1 r12.f_N r12.f_At []) (T_publicanref9_parser.mk o0_12.f_l t17 o0_12.f_bad o0_12.f_deep o0_12.f_d)))))))))
noncomputable def publicanref9_digits (m : Nat) (a0 : List UInt8) (a1 : Int) (κ : T_publicanref9_Word → Int → Option R) : Option R :=
  let t17 := (wr .i64 (a1 + 10))
  let t19 := (a0.length : Int)
  let t20 := (leI t17 t19)
  br (t20) (
    let t23 := (wr .i64 (a1 + 10))
    let t25 := (a0.length : Int)
    let t26 := (eqI t23 t25)
    br (t26) (
      let t40 := (wr .i64 (a1 + 10))
      br ((leI 0 a1 && (leI 0 t40 && (Nat.ble (iNat a1) (iNat t40) && Nat.ble (iNat t40) a0.length)))) (
        let t41 := (cutL a0 (iNat a1) (iNat t40))
        publicanref1_ReadDay m t41 (fun r42_0 r42_1 =>
        br (r42_1) (
          let t49 := (wr .i64 (a1 + 10))
          br ((leI 0 a1 && (leI 0 t49 && (Nat.ble (iNat a1) (iNat t49) && Nat.ble (iNat t49) a0.length)))) (
            let t50 := (cutL a0 (iNat a1) (iNat t49))
            κ (T_publicanref9_Word.mk 6 t50 r42_0 a1) 10) none)
        (
          publicanref9_run m a0 a1 (fun r56 =>
          let t59 := (wr .i64 (a1 + r56))
          let t62 := (a0.length : Int)
          let t63 := (ltI t59 t62)
          br (t63) (
            br ((inB t59 a0.length)) (
              let t67 := (byteAt a0 t59)
              let t68 := (eqI t67 46)
              br (t68) (
                let t72 := (wr .i64 (t59 + 1))
                publicanref9_run m a0 t72 (fun r73 =>
                let t75 := (leI 1 r73)
                br (t75) (
                  let t78 := (leI r73 4)
                  br (t78) (
                    let t82 := (wr .i64 (t59 + 1))
                    let t84 := (wr .i64 (t59 + 1))
                    let t86 := (wr .i64 (t84 + r73))
                    br ((leI 0 t82 && (leI 0 t86 && (Nat.ble (iNat t82) (iNat t86) && Nat.ble (iNat t86) a0.length)))) (
                      let t87 := (cutL a0 (iNat t82) (iNat t86))
                      let t89 := (wr .i64 (t59 + 1))
                      let t91 := (wr .i64 (t89 + r73))
                      let t94 := (a0.length : Int)
                      let t95 := (ltI t91 t94)
                      br (t95) (
                        br ((inB t91 a0.length)) (
                          let t99 := (byteAt a0 t91)
                          let t100 := (eqI t99 37)
                          br (t100) (
                            let t107 := (wr .i64 (a1 + r56))
                            br ((leI 0 a1 && (leI 0 t107 && (Nat.ble (iNat a1) (iNat t107) && Nat.ble (iNat t107) a0.length)))) (
                              let t108 := (cutL a0 (iNat a1) (iNat t107))
                              publicanref9_percent m t108 t87 (fun r110_0 r110_1 =>
                              let t114 := (!r110_1)
                              br (t114) (
                                κ (T_publicanref9_Word.mk 0 [] 0 0) 0)
                              (
                                let t119 := (wr .i64 (t91 + 1))
                                br ((leI 0 a1 && (leI 0 t119 && (Nat.ble (iNat a1) (iNat t119) && Nat.ble (iNat t119) a0.length)))) (
                                  let t120 := (cutL a0 (iNat a1) (iNat t119))
                                  let t125 := (wr .i64 (t91 + 1))
                                  let t127 := (wr .i64 (t125 - a1))
                                  κ (T_publicanref9_Word.mk 5 t120 r110_0 a1) t127) none))) none)
                          (
                            let t133 := (wr .i64 (a1 + r56))
                            br ((leI 0 a1 && (leI 0 t133 && (Nat.ble (iNat a1) (iNat t133) && Nat.ble (iNat t133) a0.length)))) (
                              let t134 := (cutL a0 (iNat a1) (iNat t133))
                              publicanref9_number m t134 4503599627370496 (fun r135_0 r135_1 =>
                              let t139 := (!r135_1)
                              br (t139) (
                                κ (T_publicanref9_Word.mk 0 [] 0 0) 0)
                              (
                                let t145 := (wr .i64 (a1 + r56))
                                br ((leI 0 a1 && (leI 0 t145 && (Nat.ble (iNat a1) (iNat t145) && Nat.ble (iNat t145) a0.length)))) (
                                  let t146 := (cutL a0 (iNat a1) (iNat t145))
                                  κ (T_publicanref9_Word.mk 3 t146 r135_0 a1) r56) none))) none)) none)
                      (
                        let t133 := (wr .i64 (a1 + r56))
                        br ((leI 0 a1 && (leI 0 t133 && (Nat.ble (iNat a1) (iNat t133) && Nat.ble (iNat t133) a0.length)))) (
                          let t134 := (cutL a0 (iNat a1) (iNat t133))
                          publicanref9_number m t134 4503599627370496 (fun r135_0 r135_1 =>
                          let t139 := (!r135_1)
                          br (t139) (
                            κ (T_publicanref9_Word.mk 0 [] 0 0) 0)
                          (
                            let t145 := (wr .i64 (a1 + r56))
                            br ((leI 0 a1 && (leI 0 t145 && (Nat.ble (iNat a1) (iNat t145) && Nat.ble (iNat t145) a0.length)))) (
                              let t146 := (cutL a0 (iNat a1) (iNat t145))
                              κ (T_publicanref9_Word.mk 3 t146 r135_0 a1) r56) none))) none)) none)
                  (
                    let t94 := (a0.length : Int)
                    let t95 := (ltI t59 t94)
                    br (t95) (
                      br ((inB t59 a0.length)) (
                        let t99 := (byteAt a0 t59)
                        let t100 := (eqI t99 37)
                        br (t100) (
                          let t107 := (wr .i64 (a1 + r56))
                          br ((leI 0 a1 && (leI 0 t107 && (Nat.ble (iNat a1) (iNat t107) && Nat.ble (iNat t107) a0.length)))) (
                            let t108 := (cutL a0 (iNat a1) (iNat t107))
                            publicanref9_percent m t108 [] (fun r110_0 r110_1 =>
                            let t114 := (!r110_1)
                            br (t114) (
                              κ (T_publicanref9_Word.mk 0 [] 0 0) 0)
                            (
                              let t119 := (wr .i64 (t59 + 1))
                              br ((leI 0 a1 && (leI 0 t119 && (Nat.ble (iNat a1) (iNat t119) && Nat.ble (iNat t119) a0.length)))) (
                                let t120 := (cutL a0 (iNat a1) (iNat t119))
                                let t125 := (wr .i64 (t59 + 1))
                                let t127 := (wr .i64 (t125 - a1))
                                κ (T_publicanref9_Word.mk 5 t120 r110_0 a1) t127) none))) none)
                        (
                          let t133 := (wr .i64 (a1 + r56))
                          br ((leI 0 a1 && (leI 0 t133 && (Nat.ble (iNat a1) (iNat t133) && Nat.ble (iNat t133) a0.length)))) (
                            let t134 := (cutL a0 (iNat a1) (iNat t133))
                            publicanref9_number m t134 4503599627370496 (fun r135_0 r135_1 =>
                            let t139 := (!r135_1)
                            br (t139) (
                              κ (T_publicanref9_Word.mk 0 [] 0 0) 0)
                            (
                              let t145 := (wr .i64 (a1 + r56))
                              br ((leI 0 a1 && (leI 0 t145 && (Nat.ble (iNat a1) (iNat t145) && Nat.ble (iNat t145) a0.length)))) (
                                let t146 := (cutL a0 (iNat a1) (iNat t145))
                                κ (T_publicanref9_Word.mk 3 t146 r135_0 a1) r56) none))) none)) none)
                    (
                      let t133 := (wr .i64 (a1 + r56))
                      br ((leI 0 a1 && (leI 0 t133 && (Nat.ble (iNat a1) (iNat t133) && Nat.ble (iNat t133) a0.length)))) (
                        let t134 := (cutL a0 (iNat a1) (iNat t133))
                        publicanref9_number m t134 4503599627370496 (fun r135_0 r135_1 =>
                        let t139 := (!r135_1)
                        br (t139) (
                          κ (T_publicanref9_Word.mk 0 [] 0 0) 0)
                        (
                          let t145 := (wr .i64 (a1 + r56))
                          br ((leI 0 a1 && (leI 0 t145 && (Nat.ble (iNat a1) (iNat t145) && Nat.ble (iNat t145) a0.length)))) (
                            let t146 := (cutL a0 (iNat a1) (iNat t145))
                            κ (T_publicanref9_Word.mk 3 t146 r135_0 a1) r56) none))) none)))
                (
                  let t94 := (a0.length : Int)
                  let t95 := (ltI t59 t94)
                  br (t95) (
                    br ((inB t59 a0.length)) (
                      let t99 := (byteAt a0 t59)
                      let t100 := (eqI t99 37)
                      br (t100) (
                        let t107 := (wr .i64 (a1 + r56))
                        br ((leI 0 a1 && (leI 0 t107 && (Nat.ble (iNat a1) (iNat t107) && Nat.ble (iNat t107) a0.length)))) (
                          let t108 := (cutL a0 (iNat a1) (iNat t107))
                          publicanref9_percent m t108 [] (fun r110_0 r110_1 =>
                          let t114 := (!r110_1)
                          br (t114) (
                            κ (T_publicanref9_Word.mk 0 [] 0 0) 0)
                          (
                            let t119 := (wr .i64 (t59 + 1))
                            br ((leI 0 a1 && (leI 0 t119 && (Nat.ble (iNat a1) (iNat t119) && Nat.ble (iNat t119) a0.length)))) (
                              let t120 := (cutL a0 (iNat a1) (iNat t119))
                              let t125 := (wr .i64 (t59 + 1))
                              let t127 := (wr .i64 (t125 - a1))
                              κ (T_publicanref9_Word.mk 5 t120 r110_0 a1) t127) none))) none)
                      (
                        let t133 := (wr .i64 (a1 + r56))
                        br ((leI 0 a1 && (leI 0 t133 && (Nat.ble (iNat a1) (iNat t133) && Nat.ble (iNat t133) a0.length)))) (
                          let t134 := (cutL a0 (iNat a1) (iNat t133))
                          publicanref9_number m t134 4503599627370496 (fun r135_0 r135_1 =>
                          let t139 := (!r135_1)
                          br (t139) (
                            κ (T_publicanref9_Word.mk 0 [] 0 0) 0)
                          (
                            let t145 := (wr .i64 (a1 + r56))
                            br ((leI 0 a1 && (leI 0 t145 && (Nat.ble (iNat a1) (iNat t145) && Nat.ble (iNat t145) a0.length)))) (
                              let t146 := (cutL a0 (iNat a1) (iNat t145))
                              κ (T_publicanref9_Word.mk 3 t146 r135_0 a1) r56) none))) none)) none)
                  (
                    let t133 := (wr .i64 (a1 + r56))
                    br ((leI 0 a1 && (leI 0 t133 && (Nat.ble (iNat a1) (iNat t133) && Nat.ble (iNat t133) a0.length)))) (
                      let t134 := (cutL a0 (iNat a1) (iNat t133))
                      publicanref9_number m t134 4503599627370496 (fun r135_0 r135_1 =>
                      let t139 := (!r135_1)
                      br (t139) (
                        κ (T_publicanref9_Word.mk 0 [] 0 0) 0)
                      (
                        let t145 := (wr .i64 (a1 + r56))
                        br ((leI 0 a1 && (leI 0 t145 && (Nat.ble (iNat a1) (iNat t145) && Nat.ble (iNat t145) a0.length)))) (
                          let t146 := (cutL a0 (iNat a1) (iNat t145))
                          κ (T_publicanref9_Word.mk 3 t146 r135_0 a1) r56) none))) none))))
              (
                let t94 := (a0.length : Int)
                let t95 := (ltI t59 t94)
                br (t95) (
                  br ((inB t59 a0.length)) (
                    let t99 := (byteAt a0 t59)
                    let t100 := (eqI t99 37)
                    br (t100) (
                      let t107 := (wr .i64 (a1 + r56))
                      br ((leI 0 a1 && (leI 0 t107 && (Nat.ble (iNat a1) (iNat t107) && Nat.ble (iNat t107) a0.length)))) (
                        let t108 := (cutL a0 (iNat a1) (iNat t107))
                        publicanref9_percent m t108 [] (fun r110_0 r110_1 =>
                        let t114 := (!r110_1)
                        br (t114) (
                          κ (T_publicanref9_Word.mk 0 [] 0 0) 0)
                        (
                          let t119 := (wr .i64 (t59 + 1))
                          br ((leI 0 a1 && (leI 0 t119 && (Nat.ble (iNat a1) (iNat t119) && Nat.ble (iNat t119) a0.length)))) (
                            let t120 := (cutL a0 (iNat a1) (iNat t119))
                            let t125 := (wr .i64 (t59 + 1))
                            let t127 := (wr .i64 (t125 - a1))
                            κ (T_publicanref9_Word.mk 5 t120 r110_0 a1) t127) none))) none)
                    (
                      let t133 := (wr .i64 (a1 + r56))
                      br ((leI 0 a1 && (leI 0 t133 && (Nat.ble (iNat a1) (iNat t133) && Nat.ble (iNat t133) a0.length)))) (
                        let t134 := (cutL a0 (iNat a1) (iNat t133))
                        publicanref9_number m t134 4503599627370496 (fun r135_0 r135_1 =>
                        let t139 := (!r135_1)
                        br (t139) (
                          κ (T_publicanref9_Word.mk 0 [] 0 0) 0)
                        (
                          let t145 := (wr .i64 (a1 + r56))
                          br ((leI 0 a1 && (leI 0 t145 && (Nat.ble (iNat a1) (iNat t145) && Nat.ble (iNat t145) a0.length)))) (
                            let t146 := (cutL a0 (iNat a1) (iNat t145))
                            κ (T_publicanref9_Word.mk 3 t146 r135_0 a1) r56) none))) none)) none)
                (
                  let t133 := (wr .i64 (a1 + r56))
                  br ((leI 0 a1 && (leI 0 t133 && (Nat.ble (iNat a1) (iNat t133) && Nat.ble (iNat t133) a0.length)))) (
                    let t134 := (cutL a0 (iNat a1) (iNat t133))
                    publicanref9_number m t134 4503599627370496 (fun r135_0 r135_1 =>
                    let t139 := (!r135_1)
                    br (t139) (
                      κ (T_publicanref9_Word.mk 0 [] 0 0) 0)
                    (
                      let t145 := (wr .i64 (a1 + r56))
                      br ((leI 0 a1 && (leI 0 t145 && (Nat.ble (iNat a1) (iNat t145) && Nat.ble (iNat t145) a0.length)))) (
                        let t146 := (cutL a0 (iNat a1) (iNat t145))
                        κ (T_publicanref9_Word.mk 3 t146 r135_0 a1) r56) none))) none))) none)
          (
            let t94 := (a0.length : Int)
            let t95 := (ltI t59 t94)
            br (t95) (
              br ((inB t59 a0.length)) (
                let t99 := (byteAt a0 t59)
                let t100 := (eqI t99 37)
                br (t100) (
                  let t107 := (wr .i64 (a1 + r56))
                  br ((leI 0 a1 && (leI 0 t107 && (Nat.ble (iNat a1) (iNat t107) && Nat.ble (iNat t107) a0.length)))) (
                    let t108 := (cutL a0 (iNat a1) (iNat t107))
                    publicanref9_percent m t108 [] (fun r110_0 r110_1 =>
                    let t114 := (!r110_1)
                    br (t114) (
                      κ (T_publicanref9_Word.mk 0 [] 0 0) 0)
                    (
                      let t119 := (wr .i64 (t59 + 1))
                      br ((leI 0 a1 && (leI 0 t119 && (Nat.ble (iNat a1) (iNat t119) && Nat.ble (iNat t119) a0.length)))) (
                        let t120 := (cutL a0 (iNat a1) (iNat t119))
                        let t125 := (wr .i64 (t59 + 1))
                        let t127 := (wr .i64 (t125 - a1))
                        κ (T_publicanref9_Word.mk 5 t120 r110_0 a1) t127) none))) none)
                (
                  let t133 := (wr .i64 (a1 + r56))
                  br ((leI 0 a1 && (leI 0 t133 && (Nat.ble (iNat a1) (iNat t133) && Nat.ble (iNat t133) a0.length)))) (
                    let t134 := (cutL a0 (iNat a1) (iNat t133))
                    publicanref9_number m t134 4503599627370496 (fun r135_0 r135_1 =>
                    let t139 := (!r135_1)
                    br (t139) (
                      κ (T_publicanref9_Word.mk 0 [] 0 0) 0)
                    (
                      let t145 := (wr .i64 (a1 + r56))
                      br ((leI 0 a1 && (leI 0 t145 && (Nat.ble (iNat a1) (iNat t145) && Nat.ble (iNat t145) a0.length)))) (
                        let t146 := (cutL a0 (iNat a1) (iNat t145))
                        κ (T_publicanref9_Word.mk 3 t146 r135_0 a1) r56) none))) none)) none)
            (
              let t133 := (wr .i64 (a1 + r56))
              br ((leI 0 a1 && (leI 0 t133 && (Nat.ble (iNat a1) (iNat t133) && Nat.ble (iNat t133) a0.length)))) (
                let t134 := (cutL a0 (iNat a1) (iNat t133))
                publicanref9_number m t134 4503599627370496 (fun r135_0 r135_1 =>
                let t139 := (!r135_1)
                br (t139) (
                  κ (T_publicanref9_Word.mk 0 [] 0 0) 0)
                (
                  let t145 := (wr .i64 (a1 + r56))
                  br ((leI 0 a1 && (leI 0 t145 && (Nat.ble (iNat a1) (iNat t145) && Nat.ble (iNat t145) a0.length)))) (
                    let t146 := (cutL a0 (iNat a1) (iNat t145))
                    κ (T_publicanref9_Word.mk 3 t146 r135_0 a1) r56) none))) none)))))) none)
    (
      let t30 := (wr .i64 (a1 + 10))
      br ((inB t30 a0.length)) (
        let t31 := (byteAt a0 t30)
        publicanref9_digit m t31 (fun r32 =>
        let t33 := (!r32)
        br (t33) (
          let t40 := (wr .i64 (a1 + 10))
          br ((leI 0 a1 && (leI 0 t40 && (Nat.ble (iNat a1) (iNat t40) && Nat.ble (iNat t40) a0.length)))) (
            let t41 := (cutL a0 (iNat a1) (iNat t40))
            publicanref1_ReadDay m t41 (fun r42_0 r42_1 =>
            br (r42_1) (
              let t49 := (wr .i64 (a1 + 10))
              br ((leI 0 a1 && (leI 0 t49 && (Nat.ble (iNat a1) (iNat t49) && Nat.ble (iNat t49) a0.length)))) (
                let t50 := (cutL a0 (iNat a1) (iNat t49))
                κ (T_publicanref9_Word.mk 6 t50 r42_0 a1) 10) none)
            (
              publicanref9_run m a0 a1 (fun r56 =>
              let t59 := (wr .i64 (a1 + r56))
              let t62 := (a0.length : Int)
              let t63 := (ltI t59 t62)
              br (t63) (
                br ((inB t59 a0.length)) (
                  let t67 := (byteAt a0 t59)
                  let t68 := (eqI t67 46)
                  br (t68) (
                    let t72 := (wr .i64 (t59 + 1))
                    publicanref9_run m a0 t72 (fun r73 =>
                    let t75 := (leI 1 r73)
                    br (t75) (
                      let t78 := (leI r73 4)
                      br (t78) (
                        let t82 := (wr .i64 (t59 + 1))
                        let t84 := (wr .i64 (t59 + 1))
                        let t86 := (wr .i64 (t84 + r73))
                        br ((leI 0 t82 && (leI 0 t86 && (Nat.ble (iNat t82) (iNat t86) && Nat.ble (iNat t86) a0.length)))) (
                          let t87 := (cutL a0 (iNat t82) (iNat t86))
                          let t89 := (wr .i64 (t59 + 1))
                          let t91 := (wr .i64 (t89 + r73))
                          let t94 := (a0.length : Int)
                          let t95 := (ltI t91 t94)
                          br (t95) (
                            br ((inB t91 a0.length)) (
                              let t99 := (byteAt a0 t91)
                              let t100 := (eqI t99 37)
                              br (t100) (
                                let t107 := (wr .i64 (a1 + r56))
                                br ((leI 0 a1 && (leI 0 t107 && (Nat.ble (iNat a1) (iNat t107) && Nat.ble (iNat t107) a0.length)))) (
                                  let t108 := (cutL a0 (iNat a1) (iNat t107))
                                  publicanref9_percent m t108 t87 (fun r110_0 r110_1 =>
                                  let t114 := (!r110_1)
                                  br (t114) (
                                    κ (T_publicanref9_Word.mk 0 [] 0 0) 0)
                                  (
                                    let t119 := (wr .i64 (t91 + 1))
                                    br ((leI 0 a1 && (leI 0 t119 && (Nat.ble (iNat a1) (iNat t119) && Nat.ble (iNat t119) a0.length)))) (
                                      let t120 := (cutL a0 (iNat a1) (iNat t119))
                                      let t125 := (wr .i64 (t91 + 1))
                                      let t127 := (wr .i64 (t125 - a1))
                                      κ (T_publicanref9_Word.mk 5 t120 r110_0 a1) t127) none))) none)
                              (
                                let t133 := (wr .i64 (a1 + r56))
                                br ((leI 0 a1 && (leI 0 t133 && (Nat.ble (iNat a1) (iNat t133) && Nat.ble (iNat t133) a0.length)))) (
                                  let t134 := (cutL a0 (iNat a1) (iNat t133))
                                  publicanref9_number m t134 4503599627370496 (fun r135_0 r135_1 =>
                                  let t139 := (!r135_1)
                                  br (t139) (
                                    κ (T_publicanref9_Word.mk 0 [] 0 0) 0)
                                  (
                                    let t145 := (wr .i64 (a1 + r56))
                                    br ((leI 0 a1 && (leI 0 t145 && (Nat.ble (iNat a1) (iNat t145) && Nat.ble (iNat t145) a0.length)))) (
                                      let t146 := (cutL a0 (iNat a1) (iNat t145))
                                      κ (T_publicanref9_Word.mk 3 t146 r135_0 a1) r56) none))) none)) none)
                          (
                            let t133 := (wr .i64 (a1 + r56))
                            br ((leI 0 a1 && (leI 0 t133 && (Nat.ble (iNat a1) (iNat t133) && Nat.ble (iNat t133) a0.length)))) (
                              let t134 := (cutL a0 (iNat a1) (iNat t133))
                              publicanref9_number m t134 4503599627370496 (fun r135_0 r135_1 =>
                              let t139 := (!r135_1)
                              br (t139) (
                                κ (T_publicanref9_Word.mk 0 [] 0 0) 0)
                              (
                                let t145 := (wr .i64 (a1 + r56))
                                br ((leI 0 a1 && (leI 0 t145 && (Nat.ble (iNat a1) (iNat t145) && Nat.ble (iNat t145) a0.length)))) (
                                  let t146 := (cutL a0 (iNat a1) (iNat t145))
                                  κ (T_publicanref9_Word.mk 3 t146 r135_0 a1) r56) none))) none)) none)
                      (
                        let t94 := (a0.length : Int)
                        let t95 := (ltI t59 t94)
                        br (t95) (
                          br ((inB t59 a0.length)) (
                            let t99 := (byteAt a0 t59)
                            let t100 := (eqI t99 37)
                            br (t100) (
                              let t107 := (wr .i64 (a1 + r56))
                              br ((leI 0 a1 && (leI 0 t107 && (Nat.ble (iNat a1) (iNat t107) && Nat.ble (iNat t107) a0.length)))) (
                                let t108 := (cutL a0 (iNat a1) (iNat t107))
                                publicanref9_percent m t108 [] (fun r110_0 r110_1 =>
                                let t114 := (!r110_1)
                                br (t114) (
                                  κ (T_publicanref9_Word.mk 0 [] 0 0) 0)
                                (
                                  let t119 := (wr .i64 (t59 + 1))
                                  br ((leI 0 a1 && (leI 0 t119 && (Nat.ble (iNat a1) (iNat t119) && Nat.ble (iNat t119) a0.length)))) (
                                    let t120 := (cutL a0 (iNat a1) (iNat t119))
                                    let t125 := (wr .i64 (t59 + 1))
                                    let t127 := (wr .i64 (t125 - a1))
                                    κ (T_publicanref9_Word.mk 5 t120 r110_0 a1) t127) none))) none)
                            (
                              let t133 := (wr .i64 (a1 + r56))
                              br ((leI 0 a1 && (leI 0 t133 && (Nat.ble (iNat a1) (iNat t133) && Nat.ble (iNat t133) a0.length)))) (
                                let t134 := (cutL a0 (iNat a1) (iNat t133))
                                publicanref9_number m t134 4503599627370496 (fun r135_0 r135_1 =>
                                let t139 := (!r135_1)
                                br (t139) (
                                  κ (T_publicanref9_Word.mk 0 [] 0 0) 0)
                                (
                                  let t145 := (wr .i64 (a1 + r56))
                                  br ((leI 0 a1 && (leI 0 t145 && (Nat.ble (iNat a1) (iNat t145) && Nat.ble (iNat t145) a0.length)))) (
                                    let t146 := (cutL a0 (iNat a1) (iNat t145))
                                    κ (T_publicanref9_Word.mk 3 t146 r135_0 a1) r56) none))) none)) none)
                        (
                          let t133 := (wr .i64 (a1 + r56))
                          br ((leI 0 a1 && (leI 0 t133 && (Nat.ble (iNat a1) (iNat t133) && Nat.ble (iNat t133) a0.length)))) (
                            let t134 := (cutL a0 (iNat a1) (iNat t133))
                            publicanref9_number m t134 4503599627370496 (fun r135_0 r135_1 =>
                            let t139 := (!r135_1)
                            br (t139) (
                              κ (T_publicanref9_Word.mk 0 [] 0 0) 0)
                            (
                              let t145 := (wr .i64 (a1 + r56))
                              br ((leI 0 a1 && (leI 0 t145 && (Nat.ble (iNat a1) (iNat t145) && Nat.ble (iNat t145) a0.length)))) (
                                let t146 := (cutL a0 (iNat a1) (iNat t145))
                                κ (T_publicanref9_Word.mk 3 t146 r135_0 a1) r56) none))) none)))
                    (
                      let t94 := (a0.length : Int)
                      let t95 := (ltI t59 t94)
                      br (t95) (
                        br ((inB t59 a0.length)) (
                          let t99 := (byteAt a0 t59)
                          let t100 := (eqI t99 37)
                          br (t100) (
                            let t107 := (wr .i64 (a1 + r56))
                            br ((leI 0 a1 && (leI 0 t107 && (Nat.ble (iNat a1) (iNat t107) && Nat.ble (iNat t107) a0.length)))) (
                              let t108 := (cutL a0 (iNat a1) (iNat t107))
                              publicanref9_percent m t108 [] (fun r110_0 r110_1 =>
                              let t114 := (!r110_1)
                              br (t114) (
                                κ (T_publicanref9_Word.mk 0 [] 0 0) 0)
                              (
                                let t119 := (wr .i64 (t59 + 1))
                                br ((leI 0 a1 && (leI 0 t119 && (Nat.ble (iNat a1) (iNat t119) && Nat.ble (iNat t119) a0.length)))) (
                                  let t120 := (cutL a0 (iNat a1) (iNat t119))
                                  let t125 := (wr .i64 (t59 + 1))
                                  let t127 := (wr .i64 (t125 - a1))
                                  κ (T_publicanref9_Word.mk 5 t120 r110_0 a1) t127) none))) none)
                          (
                            let t133 := (wr .i64 (a1 + r56))
                            br ((leI 0 a1 && (leI 0 t133 && (Nat.ble (iNat a1) (iNat t133) && Nat.ble (iNat t133) a0.length)))) (
                              let t134 := (cutL a0 (iNat a1) (iNat t133))
                              publicanref9_number m t134 4503599627370496 (fun r135_0 r135_1 =>
                              let t139 := (!r135_1)
                              br (t139) (
                                κ (T_publicanref9_Word.mk 0 [] 0 0) 0)
                              (
                                let t145 := (wr .i64 (a1 + r56))
                                br ((leI 0 a1 && (leI 0 t145 && (Nat.ble (iNat a1) (iNat t145) && Nat.ble (iNat t145) a0.length)))) (
                                  let t146 := (cutL a0 (iNat a1) (iNat t145))
                                  κ (T_publicanref9_Word.mk 3 t146 r135_0 a1) r56) none))) none)) none)
                      (
                        let t133 := (wr .i64 (a1 + r56))
                        br ((leI 0 a1 && (leI 0 t133 && (Nat.ble (iNat a1) (iNat t133) && Nat.ble (iNat t133) a0.length)))) (
                          let t134 := (cutL a0 (iNat a1) (iNat t133))
                          publicanref9_number m t134 4503599627370496 (fun r135_0 r135_1 =>
                          let t139 := (!r135_1)
                          br (t139) (
                            κ (T_publicanref9_Word.mk 0 [] 0 0) 0)
                          (
                            let t145 := (wr .i64 (a1 + r56))
                            br ((leI 0 a1 && (leI 0 t145 && (Nat.ble (iNat a1) (iNat t145) && Nat.ble (iNat t145) a0.length)))) (
                              let t146 := (cutL a0 (iNat a1) (iNat t145))
                              κ (T_publicanref9_Word.mk 3 t146 r135_0 a1) r56) none))) none))))
                  (
                    let t94 := (a0.length : Int)
                    let t95 := (ltI t59 t94)
                    br (t95) (
                      br ((inB t59 a0.length)) (
                        let t99 := (byteAt a0 t59)
                        let t100 := (eqI t99 37)
                        br (t100) (
                          let t107 := (wr .i64 (a1 + r56))
                          br ((leI 0 a1 && (leI 0 t107 && (Nat.ble (iNat a1) (iNat t107) && Nat.ble (iNat t107) a0.length)))) (
                            let t108 := (cutL a0 (iNat a1) (iNat t107))
                            publicanref9_percent m t108 [] (fun r110_0 r110_1 =>
                            let t114 := (!r110_1)
                            br (t114) (
                              κ (T_publicanref9_Word.mk 0 [] 0 0) 0)
                            (
                              let t119 := (wr .i64 (t59 + 1))
                              br ((leI 0 a1 && (leI 0 t119 && (Nat.ble (iNat a1) (iNat t119) && Nat.ble (iNat t119) a0.length)))) (
                                let t120 := (cutL a0 (iNat a1) (iNat t119))
                                let t125 := (wr .i64 (t59 + 1))
                                let t127 := (wr .i64 (t125 - a1))
                                κ (T_publicanref9_Word.mk 5 t120 r110_0 a1) t127) none))) none)
                        (
                          let t133 := (wr .i64 (a1 + r56))
                          br ((leI 0 a1 && (leI 0 t133 && (Nat.ble (iNat a1) (iNat t133) && Nat.ble (iNat t133) a0.length)))) (
                            let t134 := (cutL a0 (iNat a1) (iNat t133))
                            publicanref9_number m t134 4503599627370496 (fun r135_0 r135_1 =>
                            let t139 := (!r135_1)
                            br (t139) (
                              κ (T_publicanref9_Word.mk 0 [] 0 0) 0)
                            (
                              let t145 := (wr .i64 (a1 + r56))
                              br ((leI 0 a1 && (leI 0 t145 && (Nat.ble (iNat a1) (iNat t145) && Nat.ble (iNat t145) a0.length)))) (
                                let t146 := (cutL a0 (iNat a1) (iNat t145))
                                κ (T_publicanref9_Word.mk 3 t146 r135_0 a1) r56) none))) none)) none)
                    (
                      let t133 := (wr .i64 (a1 + r56))
                      br ((leI 0 a1 && (leI 0 t133 && (Nat.ble (iNat a1) (iNat t133) && Nat.ble (iNat t133) a0.length)))) (
                        let t134 := (cutL a0 (iNat a1) (iNat t133))
                        publicanref9_number m t134 4503599627370496 (fun r135_0 r135_1 =>
                        let t139 := (!r135_1)
                        br (t139) (
                          κ (T_publicanref9_Word.mk 0 [] 0 0) 0)
                        (
                          let t145 := (wr .i64 (a1 + r56))
                          br ((leI 0 a1 && (leI 0 t145 && (Nat.ble (iNat a1) (iNat t145) && Nat.ble (iNat t145) a0.length)))) (
                            let t146 := (cutL a0 (iNat a1) (iNat t145))
                            κ (T_publicanref9_Word.mk 3 t146 r135_0 a1) r56) none))) none))) none)
              (
                let t94 := (a0.length : Int)
                let t95 := (ltI t59 t94)
                br (t95) (
                  br ((inB t59 a0.length)) (
                    let t99 := (byteAt a0 t59)
                    let t100 := (eqI t99 37)
                    br (t100) (
                      let t107 := (wr .i64 (a1 + r56))
                      br ((leI 0 a1 && (leI 0 t107 && (Nat.ble (iNat a1) (iNat t107) && Nat.ble (iNat t107) a0.length)))) (
                        let t108 := (cutL a0 (iNat a1) (iNat t107))
                        publicanref9_percent m t108 [] (fun r110_0 r110_1 =>
                        let t114 := (!r110_1)
                        br (t114) (
                          κ (T_publicanref9_Word.mk 0 [] 0 0) 0)
                        (
                          let t119 := (wr .i64 (t59 + 1))
                          br ((leI 0 a1 && (leI 0 t119 && (Nat.ble (iNat a1) (iNat t119) && Nat.ble (iNat t119) a0.length)))) (
                            let t120 := (cutL a0 (iNat a1) (iNat t119))
                            let t125 := (wr .i64 (t59 + 1))
                            let t127 := (wr .i64 (t125 - a1))
                            κ (T_publicanref9_Word.mk 5 t120 r110_0 a1) t127) none))) none)
                    (
                      let t133 := (wr .i64 (a1 + r56))
                      br ((leI 0 a1 && (leI 0 t133 && (Nat.ble (iNat a1) (iNat t133) && Nat.ble (iNat t133) a0.length)))) (
                        let t134 := (cutL a0 (iNat a1) (iNat t133))
                        publicanref9_number m t134 4503599627370496 (fun r135_0 r135_1 =>
                        let t139 := (!r135_1)
                        br (t139) (
                          κ (T_publicanref9_Word.mk 0 [] 0 0) 0)
                        (
                          let t145 := (wr .i64 (a1 + r56))
                          br ((leI 0 a1 && (leI 0 t145 && (Nat.ble (iNat a1) (iNat t145) && Nat.ble (iNat t145) a0.length)))) (
                            let t146 := (cutL a0 (iNat a1) (iNat t145))
                            κ (T_publicanref9_Word.mk 3 t146 r135_0 a1) r56) none))) none)) none)
                (
                  let t133 := (wr .i64 (a1 + r56))
                  br ((leI 0 a1 && (leI 0 t133 && (Nat.ble (iNat a1) (iNat t133) && Nat.ble (iNat t133) a0.length)))) (
                    let t134 := (cutL a0 (iNat a1) (iNat t133))
                    publicanref9_number m t134 4503599627370496 (fun r135_0 r135_1 =>
                    let t139 := (!r135_1)
                    br (t139) (
                      κ (T_publicanref9_Word.mk 0 [] 0 0) 0)
                    (
                      let t145 := (wr .i64 (a1 + r56))
                      br ((leI 0 a1 && (leI 0 t145 && (Nat.ble (iNat a1) (iNat t145) && Nat.ble (iNat t145) a0.length)))) (
                        let t146 := (cutL a0 (iNat a1) (iNat t145))
                        κ (T_publicanref9_Word.mk 3 t146 r135_0 a1) r56) none))) none)))))) none)
        (
          publicanref9_run m a0 a1 (fun r56 =>
          let t59 := (wr .i64 (a1 + r56))
          let t62 := (a0.length : Int)
          let t63 := (ltI t59 t62)
          br (t63) (
            br ((inB t59 a0.length)) (
              let t67 := (byteAt a0 t59)
              let t68 := (eqI t67 46)
              br (t68) (
                let t72 := (wr .i64 (t59 + 1))
                publicanref9_run m a0 t72 (fun r73 =>
                let t75 := (leI 1 r73)
                br (t75) (
                  let t78 := (leI r73 4)
                  br (t78) (
                    let t82 := (wr .i64 (t59 + 1))
                    let t84 := (wr .i64 (t59 + 1))
                    let t86 := (wr .i64 (t84 + r73))
                    br ((leI 0 t82 && (leI 0 t86 && (Nat.ble (iNat t82) (iNat t86) && Nat.ble (iNat t86) a0.length)))) (
                      let t87 := (cutL a0 (iNat t82) (iNat t86))
                      let t89 := (wr .i64 (t59 + 1))
                      let t91 := (wr .i64 (t89 + r73))
                      let t94 := (a0.length : Int)
                      let t95 := (ltI t91 t94)
                      br (t95) (
                        br ((inB t91 a0.length)) (
                          let t99 := (byteAt a0 t91)
                          let t100 := (eqI t99 37)
                          br (t100) (
                            let t107 := (wr .i64 (a1 + r56))
                            br ((leI 0 a1 && (leI 0 t107 && (Nat.ble (iNat a1) (iNat t107) && Nat.ble (iNat t107) a0.length)))) (
                              let t108 := (cutL a0 (iNat a1) (iNat t107))
                              publicanref9_percent m t108 t87 (fun r110_0 r110_1 =>
                              let t114 := (!r110_1)
                              br (t114) (
                                κ (T_publicanref9_Word.mk 0 [] 0 0) 0)
                              (
                                let t119 := (wr .i64 (t91 + 1))
                                br ((leI 0 a1 && (leI 0 t119 && (Nat.ble (iNat a1) (iNat t119) && Nat.ble (iNat t119) a0.length)))) (
                                  let t120 := (cutL a0 (iNat a1) (iNat t119))
                                  let t125 := (wr .i64 (t91 + 1))
                                  let t127 := (wr .i64 (t125 - a1))
                                  κ (T_publicanref9_Word.mk 5 t120 r110_0 a1) t127) none))) none)
                          (
                            let t133 := (wr .i64 (a1 + r56))
                            br ((leI 0 a1 && (leI 0 t133 && (Nat.ble (iNat a1) (iNat t133) && Nat.ble (iNat t133) a0.length)))) (
                              let t134 := (cutL a0 (iNat a1) (iNat t133))
                              publicanref9_number m t134 4503599627370496 (fun r135_0 r135_1 =>
                              let t139 := (!r135_1)
                              br (t139) (
                                κ (T_publicanref9_Word.mk 0 [] 0 0) 0)
                              (
                                let t145 := (wr .i64 (a1 + r56))
                                br ((leI 0 a1 && (leI 0 t145 && (Nat.ble (iNat a1) (iNat t145) && Nat.ble (iNat t145) a0.length)))) (
                                  let t146 := (cutL a0 (iNat a1) (iNat t145))
                                  κ (T_publicanref9_Word.mk 3 t146 r135_0 a1) r56) none))) none)) none)
                      (
                        let t133 := (wr .i64 (a1 + r56))
                        br ((leI 0 a1 && (leI 0 t133 && (Nat.ble (iNat a1) (iNat t133) && Nat.ble (iNat t133) a0.length)))) (
                          let t134 := (cutL a0 (iNat a1) (iNat t133))
                          publicanref9_number m t134 4503599627370496 (fun r135_0 r135_1 =>
                          let t139 := (!r135_1)
                          br (t139) (
                            κ (T_publicanref9_Word.mk 0 [] 0 0) 0)
                          (
                            let t145 := (wr .i64 (a1 + r56))
                            br ((leI 0 a1 && (leI 0 t145 && (Nat.ble (iNat a1) (iNat t145) && Nat.ble (iNat t145) a0.length)))) (
                              let t146 := (cutL a0 (iNat a1) (iNat t145))
                              κ (T_publicanref9_Word.mk 3 t146 r135_0 a1) r56) none))) none)) none)
                  (
                    let t94 := (a0.length : Int)
                    let t95 := (ltI t59 t94)
                    br (t95) (
                      br ((inB t59 a0.length)) (
                        let t99 := (byteAt a0 t59)
                        let t100 := (eqI t99 37)
                        br (t100) (
                          let t107 := (wr .i64 (a1 + r56))
                          br ((leI 0 a1 && (leI 0 t107 && (Nat.ble (iNat a1) (iNat t107) && Nat.ble (iNat t107) a0.length)))) (
                            let t108 := (cutL a0 (iNat a1) (iNat t107))
                            publicanref9_percent m t108 [] (fun r110_0 r110_1 =>
                            let t114 := (!r110_1)
                            br (t114) (
                              κ (T_publicanref9_Word.mk 0 [] 0 0) 0)
                            (
                              let t119 := (wr .i64 (t59 + 1))
                              br ((leI 0 a1 && (leI 0 t119 && (Nat.ble (iNat a1) (iNat t119) && Nat.ble (iNat t119) a0.length)))) (
                                let t120 := (cutL a0 (iNat a1) (iNat t119))
                                let t125 := (wr .i64 (t59 + 1))
                                let t127 := (wr .i64 (t125 - a1))
                                κ (T_publicanref9_Word.mk 5 t120 r110_0 a1) t127) none))) none)
                        (
                          let t133 := (wr .i64 (a1 + r56))
                          br ((leI 0 a1 && (leI 0 t133 && (Nat.ble (iNat a1) (iNat t133) && Nat.ble (iNat t133) a0.length)))) (
                            let t134 := (cutL a0 (iNat a1) (iNat t133))
                            publicanref9_number m t134 4503599627370496 (fun r135_0 r135_1 =>
                            let t139 := (!r135_1)
                            br (t139) (
                              κ (T_publicanref9_Word.mk 0 [] 0 0) 0)
                            (
                              let t145 := (wr .i64 (a1 + r56))
                              br ((leI 0 a1 && (leI 0 t145 && (Nat.ble (iNat a1) (iNat t145) && Nat.ble (iNat t145) a0.length)))) (
                                let t146 := (cutL a0 (iNat a1) (iNat t145))
                                κ (T_publicanref9_Word.mk 3 t146 r135_0 a1) r56) none))) none)) none)
                    (
                      let t133 := (wr .i64 (a1 + r56))
                      br ((leI 0 a1 && (leI 0 t133 && (Nat.ble (iNat a1) (iNat t133) && Nat.ble (iNat t133) a0.length)))) (
                        let t134 := (cutL a0 (iNat a1) (iNat t133))
                        publicanref9_number m t134 4503599627370496 (fun r135_0 r135_1 =>
                        let t139 := (!r135_1)
                        br (t139) (
                          κ (T_publicanref9_Word.mk 0 [] 0 0) 0)
                        (
                          let t145 := (wr .i64 (a1 + r56))
                          br ((leI 0 a1 && (leI 0 t145 && (Nat.ble (iNat a1) (iNat t145) && Nat.ble (iNat t145) a0.length)))) (
                            let t146 := (cutL a0 (iNat a1) (iNat t145))
                            κ (T_publicanref9_Word.mk 3 t146 r135_0 a1) r56) none))) none)))
                (
                  let t94 := (a0.length : Int)
                  let t95 := (ltI t59 t94)
                  br (t95) (
                    br ((inB t59 a0.length)) (
                      let t99 := (byteAt a0 t59)
                      let t100 := (eqI t99 37)
                      br (t100) (
                        let t107 := (wr .i64 (a1 + r56))
                        br ((leI 0 a1 && (leI 0 t107 && (Nat.ble (iNat a1) (iNat t107) && Nat.ble (iNat t107) a0.length)))) (
                          let t108 := (cutL a0 (iNat a1) (iNat t107))
                          publicanref9_percent m t108 [] (fun r110_0 r110_1 =>
                          let t114 := (!r110_1)
                          br (t114) (
                            κ (T_publicanref9_Word.mk 0 [] 0 0) 0)
                          (
                            let t119 := (wr .i64 (t59 + 1))
                            br ((leI 0 a1 && (leI 0 t119 && (Nat.ble (iNat a1) (iNat t119) && Nat.ble (iNat t119) a0.length)))) (
                              let t120 := (cutL a0 (iNat a1) (iNat t119))
                              let t125 := (wr .i64 (t59 + 1))
                              let t127 := (wr .i64 (t125 - a1))
                              κ (T_publicanref9_Word.mk 5 t120 r110_0 a1) t127) none))) none)
                      (
                        let t133 := (wr .i64 (a1 + r56))
                        br ((leI 0 a1 && (leI 0 t133 && (Nat.ble (iNat a1) (iNat t133) && Nat.ble (iNat t133) a0.length)))) (
                          let t134 := (cutL a0 (iNat a1) (iNat t133))
                          publicanref9_number m t134 4503599627370496 (fun r135_0 r135_1 =>
                          let t139 := (!r135_1)
                          br (t139) (
                            κ (T_publicanref9_Word.mk 0 [] 0 0) 0)
                          (
                            let t145 := (wr .i64 (a1 + r56))
                            br ((leI 0 a1 && (leI 0 t145 && (Nat.ble (iNat a1) (iNat t145) && Nat.ble (iNat t145) a0.length)))) (
                              let t146 := (cutL a0 (iNat a1) (iNat t145))
                              κ (T_publicanref9_Word.mk 3 t146 r135_0 a1) r56) none))) none)) none)
                  (
                    let t133 := (wr .i64 (a1 + r56))
                    br ((leI 0 a1 && (leI 0 t133 && (Nat.ble (iNat a1) (iNat t133) && Nat.ble (iNat t133) a0.length)))) (
                      let t134 := (cutL a0 (iNat a1) (iNat t133))
                      publicanref9_number m t134 4503599627370496 (fun r135_0 r135_1 =>
                      let t139 := (!r135_1)
                      br (t139) (
                        κ (T_publicanref9_Word.mk 0 [] 0 0) 0)
                      (
                        let t145 := (wr .i64 (a1 + r56))
                        br ((leI 0 a1 && (leI 0 t145 && (Nat.ble (iNat a1) (iNat t145) && Nat.ble (iNat t145) a0.length)))) (
                          let t146 := (cutL a0 (iNat a1) (iNat t145))
                          κ (T_publicanref9_Word.mk 3 t146 r135_0 a1) r56) none))) none))))
              (
                let t94 := (a0.length : Int)
                let t95 := (ltI t59 t94)
                br (t95) (
                  br ((inB t59 a0.length)) (
                    let t99 := (byteAt a0 t59)
                    let t100 := (eqI t99 37)
                    br (t100) (
                      let t107 := (wr .i64 (a1 + r56))
                      br ((leI 0 a1 && (leI 0 t107 && (Nat.ble (iNat a1) (iNat t107) && Nat.ble (iNat t107) a0.length)))) (
                        let t108 := (cutL a0 (iNat a1) (iNat t107))
                        publicanref9_percent m t108 [] (fun r110_0 r110_1 =>
                        let t114 := (!r110_1)
                        br (t114) (
                          κ (T_publicanref9_Word.mk 0 [] 0 0) 0)
                        (
                          let t119 := (wr .i64 (t59 + 1))
                          br ((leI 0 a1 && (leI 0 t119 && (Nat.ble (iNat a1) (iNat t119) && Nat.ble (iNat t119) a0.length)))) (
                            let t120 := (cutL a0 (iNat a1) (iNat t119))
                            let t125 := (wr .i64 (t59 + 1))
                            let t127 := (wr .i64 (t125 - a1))
                            κ (T_publicanref9_Word.mk 5 t120 r110_0 a1) t127) none))) none)
                    (
                      let t133 := (wr .i64 (a1 + r56))
                      br ((leI 0 a1 && (leI 0 t133 && (Nat.ble (iNat a1) (iNat t133) && Nat.ble (iNat t133) a0.length)))) (
                        let t134 := (cutL a0 (iNat a1) (iNat t133))
                        publicanref9_number m t134 4503599627370496 (fun r135_0 r135_1 =>
                        let t139 := (!r135_1)
                        br (t139) (
                          κ (T_publicanref9_Word.mk 0 [] 0 0) 0)
                        (
                          let t145 := (wr .i64 (a1 + r56))
                          br ((leI 0 a1 && (leI 0 t145 && (Nat.ble (iNat a1) (iNat t145) && Nat.ble (iNat t145) a0.length)))) (
                            let t146 := (cutL a0 (iNat a1) (iNat t145))
                            κ (T_publicanref9_Word.mk 3 t146 r135_0 a1) r56) none))) none)) none)
                (
                  let t133 := (wr .i64 (a1 + r56))
                  br ((leI 0 a1 && (leI 0 t133 && (Nat.ble (iNat a1) (iNat t133) && Nat.ble (iNat t133) a0.length)))) (
                    let t134 := (cutL a0 (iNat a1) (iNat t133))
                    publicanref9_number m t134 4503599627370496 (fun r135_0 r135_1 =>
                    let t139 := (!r135_1)
                    br (t139) (
                      κ (T_publicanref9_Word.mk 0 [] 0 0) 0)
                    (
                      let t145 := (wr .i64 (a1 + r56))
                      br ((leI 0 a1 && (leI 0 t145 && (Nat.ble (iNat a1) (iNat t145) && Nat.ble (iNat t145) a0.length)))) (
                        let t146 := (cutL a0 (iNat a1) (iNat t145))
                        κ (T_publicanref9_Word.mk 3 t146 r135_0 a1) r56) none))) none))) none)
          (
            let t94 := (a0.length : Int)
            let t95 := (ltI t59 t94)
            br (t95) (
              br ((inB t59 a0.length)) (
                let t99 := (byteAt a0 t59)
                let t100 := (eqI t99 37)
                br (t100) (
                  let t107 := (wr .i64 (a1 + r56))
                  br ((leI 0 a1 && (leI 0 t107 && (Nat.ble (iNat a1) (iNat t107) && Nat.ble (iNat t107) a0.length)))) (
                    let t108 := (cutL a0 (iNat a1) (iNat t107))
                    publicanref9_percent m t108 [] (fun r110_0 r110_1 =>
                    let t114 := (!r110_1)
                    br (t114) (
                      κ (T_publicanref9_Word.mk 0 [] 0 0) 0)
                    (
                      let t119 := (wr .i64 (t59 + 1))
                      br ((leI 0 a1 && (leI 0 t119 && (Nat.ble (iNat a1) (iNat t119) && Nat.ble (iNat t119) a0.length)))) (
                        let t120 := (cutL a0 (iNat a1) (iNat t119))
                        let t125 := (wr .i64 (t59 + 1))
                        let t127 := (wr .i64 (t125 - a1))
                        κ (T_publicanref9_Word.mk 5 t120 r110_0 a1) t127) none))) none)
                (
                  let t133 := (wr .i64 (a1 + r56))
                  br ((leI 0 a1 && (leI 0 t133 && (Nat.ble (iNat a1) (iNat t133) && Nat.ble (iNat t133) a0.length)))) (
                    let t134 := (cutL a0 (iNat a1) (iNat t133))
                    publicanref9_number m t134 4503599627370496 (fun r135_0 r135_1 =>
                    let t139 := (!r135_1)
                    br (t139) (
                      κ (T_publicanref9_Word.mk 0 [] 0 0) 0)
                    (
                      let t145 := (wr .i64 (a1 + r56))
                      br ((leI 0 a1 && (leI 0 t145 && (Nat.ble (iNat a1) (iNat t145) && Nat.ble (iNat t145) a0.length)))) (
                        let t146 := (cutL a0 (iNat a1) (iNat t145))
                        κ (T_publicanref9_Word.mk 3 t146 r135_0 a1) r56) none))) none)) none)
            (
              let t133 := (wr .i64 (a1 + r56))
              br ((leI 0 a1 && (leI 0 t133 && (Nat.ble (iNat a1) (iNat t133) && Nat.ble (iNat t133) a0.length)))) (
                let t134 := (cutL a0 (iNat a1) (iNat t133))
                publicanref9_number m t134 4503599627370496 (fun r135_0 r135_1 =>
                let t139 := (!r135_1)
                br (t139) (
                  κ (T_publicanref9_Word.mk 0 [] 0 0) 0)
                (
                  let t145 := (wr .i64 (a1 + r56))
                  br ((leI 0 a1 && (leI 0 t145 && (Nat.ble (iNat a1) (iNat t145) && Nat.ble (iNat t145) a0.length)))) (
                    let t146 := (cutL a0 (iNat a1) (iNat t145))
                    κ (T_publicanref9_Word.mk 3 t146 r135_0 a1) r56) none))) none)))))) none))
  (
    publicanref9_run m a0 a1 (fun r56 =>
    let t59 := (wr .i64 (a1 + r56))
    let t62 := (a0.length : Int)
    let t63 := (ltI t59 t62)
    br (t63) (
      br ((inB t59 a0.length)) (
        let t67 := (byteAt a0 t59)
        let t68 := (eqI t67 46)
        br (t68) (
          let t72 := (wr .i64 (t59 + 1))
          publicanref9_run m a0 t72 (fun r73 =>
          let t75 := (leI 1 r73)
          br (t75) (
            let t78 := (leI r73 4)
            br (t78) (
              let t82 := (wr .i64 (t59 + 1))
              let t84 := (wr .i64 (t59 + 1))
              let t86 := (wr .i64 (t84 + r73))
              br ((leI 0 t82 && (leI 0 t86 && (Nat.ble (iNat t82) (iNat t86) && Nat.ble (iNat t86) a0.length)))) (
                let t87 := (cutL a0 (iNat t82) (iNat t86))
                let t89 := (wr .i64 (t59 + 1))
                let t91 := (wr .i64 (t89 + r73))
                let t94 := (a0.length : Int)
                let t95 := (ltI t91 t94)
                br (t95) (
                  br ((inB t91 a0.length)) (
                    let t99 := (byteAt a0 t91)
                    let t100 := (eqI t99 37)
                    br (t100) (
                      let t107 := (wr .i64 (a1 + r56))
                      br ((leI 0 a1 && (leI 0 t107 && (Nat.ble (iNat a1) (iNat t107) && Nat.ble (iNat t107) a0.length)))) (
                        let t108 := (cutL a0 (iNat a1) (iNat t107))
                        publicanref9_percent m t108 t87 (fun r110_0 r110_1 =>
                        let t114 := (!r110_1)
                        br (t114) (
                          κ (T_publicanref9_Word.mk 0 [] 0 0) 0)
                        (
                          let t119 := (wr .i64 (t91 + 1))
                          br ((leI 0 a1 && (leI 0 t119 && (Nat.ble (iNat a1) (iNat t119) && Nat.ble (iNat t119) a0.length)))) (
                            let t120 := (cutL a0 (iNat a1) (iNat t119))
                            let t125 := (wr .i64 (t91 + 1))
                            let t127 := (wr .i64 (t125 - a1))
                            κ (T_publicanref9_Word.mk 5 t120 r110_0 a1) t127) none))) none)
                    (
                      let t133 := (wr .i64 (a1 + r56))
                      br ((leI 0 a1 && (leI 0 t133 && (Nat.ble (iNat a1) (iNat t133) && Nat.ble (iNat t133) a0.length)))) (
                        let t134 := (cutL a0 (iNat a1) (iNat t133))
                        publicanref9_number m t134 4503599627370496 (fun r135_0 r135_1 =>
                        let t139 := (!r135_1)
                        br (t139) (
                          κ (T_publicanref9_Word.mk 0 [] 0 0) 0)
                        (
                          let t145 := (wr .i64 (a1 + r56))
                          br ((leI 0 a1 && (leI 0 t145 && (Nat.ble (iNat a1) (iNat t145) && Nat.ble (iNat t145) a0.length)))) (
                            let t146 := (cutL a0 (iNat a1) (iNat t145))
                            κ (T_publicanref9_Word.mk 3 t146 r135_0 a1) r56) none))) none)) none)
                (
                  let t133 := (wr .i64 (a1 + r56))
                  br ((leI 0 a1 && (leI 0 t133 && (Nat.ble (iNat a1) (iNat t133) && Nat.ble (iNat t133) a0.length)))) (
                    let t134 := (cutL a0 (iNat a1) (iNat t133))
                    publicanref9_number m t134 4503599627370496 (fun r135_0 r135_1 =>
                    let t139 := (!r135_1)
                    br (t139) (
                      κ (T_publicanref9_Word.mk 0 [] 0 0) 0)
                    (
                      let t145 := (wr .i64 (a1 + r56))
                      br ((leI 0 a1 && (leI 0 t145 && (Nat.ble (iNat a1) (iNat t145) && Nat.ble (iNat t145) a0.length)))) (
                        let t146 := (cutL a0 (iNat a1) (iNat t145))
                        κ (T_publicanref9_Word.mk 3 t146 r135_0 a1) r56) none))) none)) none)
            (
              let t94 := (a0.length : Int)
              let t95 := (ltI t59 t94)
              br (t95) (
                br ((inB t59 a0.length)) (
                  let t99 := (byteAt a0 t59)
                  let t100 := (eqI t99 37)
                  br (t100) (
                    let t107 := (wr .i64 (a1 + r56))
                    br ((leI 0 a1 && (leI 0 t107 && (Nat.ble (iNat a1) (iNat t107) && Nat.ble (iNat t107) a0.length)))) (
                      let t108 := (cutL a0 (iNat a1) (iNat t107))
                      publicanref9_percent m t108 [] (fun r110_0 r110_1 =>
                      let t114 := (!r110_1)
                      br (t114) (
                        κ (T_publicanref9_Word.mk 0 [] 0 0) 0)
                      (
                        let t119 := (wr .i64 (t59 + 1))
                        br ((leI 0 a1 && (leI 0 t119 && (Nat.ble (iNat a1) (iNat t119) && Nat.ble (iNat t119) a0.length)))) (
                          let t120 := (cutL a0 (iNat a1) (iNat t119))
                          let t125 := (wr .i64 (t59 + 1))
                          let t127 := (wr .i64 (t125 - a1))
                          κ (T_publicanref9_Word.mk 5 t120 r110_0 a1) t127) none))) none)
                  (
                    let t133 := (wr .i64 (a1 + r56))
                    br ((leI 0 a1 && (leI 0 t133 && (Nat.ble (iNat a1) (iNat t133) && Nat.ble (iNat t133) a0.length)))) (
                      let t134 := (cutL a0 (iNat a1) (iNat t133))
                      publicanref9_number m t134 4503599627370496 (fun r135_0 r135_1 =>
                      let t139 := (!r135_1)
                      br (t139) (
                        κ (T_publicanref9_Word.mk 0 [] 0 0) 0)
                      (
                        let t145 := (wr .i64 (a1 + r56))
                        br ((leI 0 a1 && (leI 0 t145 && (Nat.ble (iNat a1) (iNat t145) && Nat.ble (iNat t145) a0.length)))) (
                          let t146 := (cutL a0 (iNat a1) (iNat t145))
                          κ (T_publicanref9_Word.mk 3 t146 r135_0 a1) r56) none))) none)) none)
              (
                let t133 := (wr .i64 (a1 + r56))
                br ((leI 0 a1 && (leI 0 t133 && (Nat.ble (iNat a1) (iNat t133) && Nat.ble (iNat t133) a0.length)))) (
                  let t134 := (cutL a0 (iNat a1) (iNat t133))
                  publicanref9_number m t134 4503599627370496 (fun r135_0 r135_1 =>
                  let t139 := (!r135_1)
                  br (t139) (
                    κ (T_publicanref9_Word.mk 0 [] 0 0) 0)
                  (
                    let t145 := (wr .i64 (a1 + r56))
                    br ((leI 0 a1 && (leI 0 t145 && (Nat.ble (iNat a1) (iNat t145) && Nat.ble (iNat t145) a0.length)))) (
                      let t146 := (cutL a0 (iNat a1) (iNat t145))
                      κ (T_publicanref9_Word.mk 3 t146 r135_0 a1) r56) none))) none)))
          (
            let t94 := (a0.length : Int)
            let t95 := (ltI t59 t94)
            br (t95) (
              br ((inB t59 a0.length)) (
                let t99 := (byteAt a0 t59)
                let t100 := (eqI t99 37)
                br (t100) (
                  let t107 := (wr .i64 (a1 + r56))
                  br ((leI 0 a1 && (leI 0 t107 && (Nat.ble (iNat a1) (iNat t107) && Nat.ble (iNat t107) a0.length)))) (
                    let t108 := (cutL a0 (iNat a1) (iNat t107))
                    publicanref9_percent m t108 [] (fun r110_0 r110_1 =>
                    let t114 := (!r110_1)
                    br (t114) (
                      κ (T_publicanref9_Word.mk 0 [] 0 0) 0)
                    (
                      let t119 := (wr .i64 (t59 + 1))
                      br ((leI 0 a1 && (leI 0 t119 && (Nat.ble (iNat a1) (iNat t119) && Nat.ble (iNat t119) a0.length)))) (
                        let t120 := (cutL a0 (iNat a1) (iNat t119))
                        let t125 := (wr .i64 (t59 + 1))
                        let t127 := (wr .i64 (t125 - a1))
                        κ (T_publicanref9_Word.mk 5 t120 r110_0 a1) t127) none))) none)
                (
                  let t133 := (wr .i64 (a1 + r56))
                  br ((leI 0 a1 && (leI 0 t133 && (Nat.ble (iNat a1) (iNat t133) && Nat.ble (iNat t133) a0.length)))) (
                    let t134 := (cutL a0 (iNat a1) (iNat t133))
                    publicanref9_number m t134 4503599627370496 (fun r135_0 r135_1 =>
                    let t139 := (!r135_1)
                    br (t139) (
                      κ (T_publicanref9_Word.mk 0 [] 0 0) 0)
                    (
                      let t145 := (wr .i64 (a1 + r56))
                      br ((leI 0 a1 && (leI 0 t145 && (Nat.ble (iNat a1) (iNat t145) && Nat.ble (iNat t145) a0.length)))) (
                        let t146 := (cutL a0 (iNat a1) (iNat t145))
                        κ (T_publicanref9_Word.mk 3 t146 r135_0 a1) r56) none))) none)) none)
            (
              let t133 := (wr .i64 (a1 + r56))
              br ((leI 0 a1 && (leI 0 t133 && (Nat.ble (iNat a1) (iNat t133) && Nat.ble (iNat t133) a0.length)))) (
                let t134 := (cutL a0 (iNat a1) (iNat t133))
                publicanref9_number m t134 4503599627370496 (fun r135_0 r135_1 =>
                let t139 := (!r135_1)
                br (t139) (
                  κ (T_publicanref9_Word.mk 0 [] 0 0) 0)
                (
                  let t145 := (wr .i64 (a1 + r56))
                  br ((leI 0 a1 && (leI 0 t145 && (Nat.ble (iNat a1) (iNat t145) && Nat.ble (iNat t145) a0.length)))) (
                    let t146 := (cutL a0 (iNat a1) (iNat t145))
                    κ (T_publicanref9_Word.mk 3 t146 r135_0 a1) r56) none))) none))))
        (
          let t94 := (a0.length : Int)
          let t95 := (ltI t59 t94)
          br (t95) (
            br ((inB t59 a0.length)) (
              let t99 := (byteAt a0 t59)
              let t100 := (eqI t99 37)
              br (t100) (
                let t107 := (wr .i64 (a1 + r56))
                br ((leI 0 a1 && (leI 0 t107 && (Nat.ble (iNat a1) (iNat t107) && Nat.ble (iNat t107) a0.length)))) (
                  let t108 := (cutL a0 (iNat a1) (iNat t107))
                  publicanref9_percent m t108 [] (fun r110_0 r110_1 =>
                  let t114 := (!r110_1)
                  br (t114) (
                    κ (T_publicanref9_Word.mk 0 [] 0 0) 0)
                  (
                    let t119 := (wr .i64 (t59 + 1))
                    br ((leI 0 a1 && (leI 0 t119 && (Nat.ble (iNat a1) (iNat t119) && Nat.ble (iNat t119) a0.length)))) (
                      let t120 := (cutL a0 (iNat a1) (iNat t119))
                      let t125 := (wr .i64 (t59 + 1))
                      let t127 := (wr .i64 (t125 - a1))
                      κ (T_publicanref9_Word.mk 5 t120 r110_0 a1) t127) none))) none)
              (
                let t133 := (wr .i64 (a1 + r56))
                br ((leI 0 a1 && (leI 0 t133 && (Nat.ble (iNat a1) (iNat t133) && Nat.ble (iNat t133) a0.length)))) (
                  let t134 := (cutL a0 (iNat a1) (iNat t133))
                  publicanref9_number m t134 4503599627370496 (fun r135_0 r135_1 =>
                  let t139 := (!r135_1)
                  br (t139) (
                    κ (T_publicanref9_Word.mk 0 [] 0 0) 0)
                  (
                    let t145 := (wr .i64 (a1 + r56))
                    br ((leI 0 a1 && (leI 0 t145 && (Nat.ble (iNat a1) (iNat t145) && Nat.ble (iNat t145) a0.length)))) (
                      let t146 := (cutL a0 (iNat a1) (iNat t145))
                      κ (T_publicanref9_Word.mk 3 t146 r135_0 a1) r56) none))) none)) none)
          (
            let t133 := (wr .i64 (a1 + r56))
            br ((leI 0 a1 && (leI 0 t133 && (Nat.ble (iNat a1) (iNat t133) && Nat.ble (iNat t133) a0.length)))) (
              let t134 := (cutL a0 (iNat a1) (iNat t133))
              publicanref9_number m t134 4503599627370496 (fun r135_0 r135_1 =>
              let t139 := (!r135_1)
              br (t139) (
                κ (T_publicanref9_Word.mk 0 [] 0 0) 0)
              (
                let t145 := (wr .i64 (a1 + r56))
                br ((leI 0 a1 && (leI 0 t145 && (Nat.ble (iNat a1) (iNat t145) && Nat.ble (iNat t145) a0.length)))) (
                  let t146 := (cutL a0 (iNat a1) (iNat t145))
                  κ (T_publicanref9_Word.mk 3 t146 r135_0 a1) r56) none))) none))) none)
    (
      let t94 := (a0.length : Int)
      let t95 := (ltI t59 t94)
      br (t95) (
        br ((inB t59 a0.length)) (
          let t99 := (byteAt a0 t59)
          let t100 := (eqI t99 37)
          br (t100) (
            let t107 := (wr .i64 (a1 + r56))
            br ((leI 0 a1 && (leI 0 t107 && (Nat.ble (iNat a1) (iNat t107) && Nat.ble (iNat t107) a0.length)))) (
              let t108 := (cutL a0 (iNat a1) (iNat t107))
              publicanref9_percent m t108 [] (fun r110_0 r110_1 =>
              let t114 := (!r110_1)
              br (t114) (
                κ (T_publicanref9_Word.mk 0 [] 0 0) 0)
              (
                let t119 := (wr .i64 (t59 + 1))
                br ((leI 0 a1 && (leI 0 t119 && (Nat.ble (iNat a1) (iNat t119) && Nat.ble (iNat t119) a0.length)))) (
                  let t120 := (cutL a0 (iNat a1) (iNat t119))
                  let t125 := (wr .i64 (t59 + 1))
                  let t127 := (wr .i64 (t125 - a1))
                  κ (T_publicanref9_Word.mk 5 t120 r110_0 a1) t127) none))) none)
          (
            let t133 := (wr .i64 (a1 + r56))
            br ((leI 0 a1 && (leI 0 t133 && (Nat.ble (iNat a1) (iNat t133) && Nat.ble (iNat t133) a0.length)))) (
              let t134 := (cutL a0 (iNat a1) (iNat t133))
              publicanref9_number m t134 4503599627370496 (fun r135_0 r135_1 =>
              let t139 := (!r135_1)
              br (t139) (
                κ (T_publicanref9_Word.mk 0 [] 0 0) 0)
              (
                let t145 := (wr .i64 (a1 + r56))
                br ((leI 0 a1 && (leI 0 t145 && (Nat.ble (iNat a1) (iNat t145) && Nat.ble (iNat t145) a0.length)))) (
                  let t146 := (cutL a0 (iNat a1) (iNat t145))
                  κ (T_publicanref9_Word.mk 3 t146 r135_0 a1) r56) none))) none)) none)
      (
        let t133 := (wr .i64 (a1 + r56))
        br ((leI 0 a1 && (leI 0 t133 && (Nat.ble (iNat a1) (iNat t133) && Nat.ble (iNat t133) a0.length)))) (
          let t134 := (cutL a0 (iNat a1) (iNat t133))
          publicanref9_number m t134 4503599627370496 (fun r135_0 r135_1 =>
          let t139 := (!r135_1)
          br (t139) (
            κ (T_publicanref9_Word.mk 0 [] 0 0) 0)
          (
            let t145 := (wr .i64 (a1 + r56))
            br ((leI 0 a1 && (leI 0 t145 && (Nat.ble (iNat a1) (iNat t145) && Nat.ble (iNat t145) a0.length)))) (
              let t146 := (cutL a0 (iNat a1) (iNat t145))
              κ (T_publicanref9_Word.mk 3 t146 r135_0 a1) r56) none))) none))))
noncomputable def publicanref9_Cut_S0_1 (m : Nat) (ρ : Int → Int → List UInt8 → Int → List UInt8 → Int → Int → List T_publicanref9_Word → Option R) (e5 : Int → List UInt8 → Int → Int → List UInt8 → Int → Int → List T_publicanref9_Word → Option R) (x0 : Int) (x1 : Int) (x2 : List UInt8) (x3 : Int) (x4 : List UInt8) (x5 : Int) (x6 : Int) (x7 : List T_publicanref9_Word) : Option R :=
  let t67 := (wr .i64 (x1 + x0))
  let t69 := (x2.length : Int)
  let t70 := (ltI t67 t69)
  br (t70) (
    let t75 := (wr .i64 (x1 + x0))
    br ((inB t75 x2.length)) (
      let t76 := (byteAt x2 t75)
      publicanref9_letter m t76 (fun r77 =>
      br (r77) (
        let t96 := (wr .i64 (x0 + 1))
        ρ t96 x1 x2 x3 x4 x5 x6 x7)
      (
        let t82 := (wr .i64 (x1 + x0))
        br ((inB t82 x2.length)) (
          let t83 := (byteAt x2 t82)
          publicanref9_digit m t83 (fun r84 =>
          br (r84) (
            let t96 := (wr .i64 (x0 + 1))
            ρ t96 x1 x2 x3 x4 x5 x6 x7)
          (
            let t90 := (wr .i64 (x1 + x0))
            br ((inB t90 x2.length)) (
              let t91 := (byteAt x2 t90)
              let t92 := (eqI t91 95)
              br (t92) (
                let t96 := (wr .i64 (x0 + 1))
                ρ t96 x1 x2 x3 x4 x5 x6 x7)
              (
                e5 x1 x2 x0 x3 x4 x5 x6 x7)) none))) none))) none)
  (
    e5 x1 x2 x0 x3 x4 x5 x6 x7)
noncomputable def publicanref9_Cut_L0_1 (m : Nat) : Nat → Int → Int → List UInt8 → Int → List UInt8 → Int → Int → List T_publicanref9_Word → (Int → List UInt8 → Int → Int → List UInt8 → Int → Int → List T_publicanref9_Word → Option R) → Option R
  | 0 => fun _ _ _ _ _ _ _ _ _ => none
  | j + 1 => fun x0 x1 x2 x3 x4 x5 x6 x7 e5 => publicanref9_Cut_S0_1 m (fun x0 x1 x2 x3 x4 x5 x6 x7 => publicanref9_Cut_L0_1 m j x0 x1 x2 x3 x4 x5 x6 x7 e5) e5 x0 x1 x2 x3 x4 x5 x6 x7
noncomputable def publicanref9_Cut_S0_0 (m : Nat) (ρ : Int → List UInt8 → List T_publicanref9_Word → Option R) (e2 : Int → List UInt8 → List T_publicanref9_Word → Option R) (x0 : Int) (x1 : List UInt8) (x2 : List T_publicanref9_Word) : Option R :=
  let t41 := (x1.length : Int)
  let t42 := (ltI x0 t41)
  br (t42) (
    br ((inB x0 x1.length)) (
      let t46 := (byteAt x1 x0)
      let t47 := (!(eqI t46 10))
      br (t47) (
        let t50 := (wr .i64 (x0 + 1))
        ρ t50 x1 x2)
      (
        e2 x0 x1 x2)) none)
  (
    e2 x0 x1 x2)
noncomputable def publicanref9_Cut_L0_0 (m : Nat) : Nat → Int → List UInt8 → List T_publicanref9_Word → (Int → List UInt8 → List T_publicanref9_Word → Option R) → Option R
  | 0 => fun _ _ _ _ => none
  | j + 1 => fun x0 x1 x2 e2 => publicanref9_Cut_S0_0 m (fun x0 x1 x2 => publicanref9_Cut_L0_0 m j x0 x1 x2 e2) e2 x0 x1 x2
noncomputable def publicanref9_Cut_S0 (m : Nat) (ρ : Int → List UInt8 → List T_publicanref9_Word → Option R) (e0 : List UInt8 → List T_publicanref9_Word → Option R) (er : List T_publicanref9_Word → Int → Option R) (x0 : Int) (x1 : List UInt8) (x2 : List T_publicanref9_Word) : Option R :=
  let t16 := (x1.length : Int)
  let t17 := (ltI x0 t16)
  br (t17) (
    br ((inB x0 x1.length)) (
      let t20 := (byteAt x1 x0)
      let t22 := (eqI t20 32)
      br (t22) (
        let t36 := (wr .i64 (x0 + 1))
        ρ t36 x1 x2)
      (
        let t25 := (eqI t20 9)
        br (t25) (
          let t36 := (wr .i64 (x0 + 1))
          ρ t36 x1 x2)
        (
          let t29 := (eqI t20 10)
          br (t29) (
            let t36 := (wr .i64 (x0 + 1))
            ρ t36 x1 x2)
          (
            let t33 := (eqI t20 13)
            br (t33) (
              let t36 := (wr .i64 (x0 + 1))
              ρ t36 x1 x2)
            (
              let t38 := (eqI t20 35)
              br (t38) (
                publicanref9_Cut_L0_0 m m x0 x1 x2 (fun y0_0_0 y0_0_1 y0_0_2 =>
                ρ y0_0_0 y0_0_1 y0_0_2))
              (
                publicanref9_letter m t20 (fun r64 =>
                br (r64) (
                  publicanref9_Cut_L0_1 m m 0 x0 x1 0 [] 0 x0 x2 (fun y0_1_0 y0_1_1 y0_1_2 y0_1_3 y0_1_4 y0_1_5 y0_1_6 y0_1_7 =>
                  let t102 := (wr .i64 (y0_1_0 + y0_1_2))
                  br ((leI 0 y0_1_0 && (leI 0 t102 && (Nat.ble (iNat y0_1_0) (iNat t102) && Nat.ble (iNat t102) y0_1_1.length)))) (
                    let t103 := (cutL y0_1_1 (iNat y0_1_0) (iNat t102))
                    publicanref9_Kept m t103 (fun r107 =>
                    br (r107) (
                      let t110 := (ltI 32 y0_1_2)
                      br (t110) (
                        let t197 := (eqI 0 0)
                        br (t197) (
                          er [] y0_1_0)
                        (
                          br ((okAp 40 (y0_1_7.length + [(T_publicanref9_Word.mk 2 t103 y0_1_5 y0_1_6)].length))) (
                            let t202a := (y0_1_7 ++ [(T_publicanref9_Word.mk 2 t103 y0_1_5 y0_1_6)])
                            let t205 := (wr .i64 (y0_1_0 + 0))
                            ρ t205 y0_1_1 t202a) none))
                      (
                        let t197 := (eqI y0_1_2 0)
                        br (t197) (
                          er [] y0_1_0)
                        (
                          br ((okAp 40 (y0_1_7.length + [(T_publicanref9_Word.mk 2 t103 y0_1_5 y0_1_6)].length))) (
                            let t202a := (y0_1_7 ++ [(T_publicanref9_Word.mk 2 t103 y0_1_5 y0_1_6)])
                            let t205 := (wr .i64 (y0_1_0 + y0_1_2))
                            ρ t205 y0_1_1 t202a) none)))
                    (
                      let t110 := (ltI 32 y0_1_2)
                      br (t110) (
                        let t197 := (eqI 0 0)
                        br (t197) (
                          er [] y0_1_0)
                        (
                          br ((okAp 40 (y0_1_7.length + [(T_publicanref9_Word.mk 1 t103 y0_1_5 y0_1_6)].length))) (
                            let t202a := (y0_1_7 ++ [(T_publicanref9_Word.mk 1 t103 y0_1_5 y0_1_6)])
                            let t205 := (wr .i64 (y0_1_0 + 0))
                            ρ t205 y0_1_1 t202a) none))
                      (
                        let t197 := (eqI y0_1_2 0)
                        br (t197) (
                          er [] y0_1_0)
                        (
                          br ((okAp 40 (y0_1_7.length + [(T_publicanref9_Word.mk 1 t103 y0_1_5 y0_1_6)].length))) (
                            let t202a := (y0_1_7 ++ [(T_publicanref9_Word.mk 1 t103 y0_1_5 y0_1_6)])
                            let t205 := (wr .i64 (y0_1_0 + y0_1_2))
                            ρ t205 y0_1_1 t202a) none))))) none))
                (
                  publicanref9_digit m t20 (fun r113 =>
                  br (r113) (
                    publicanref9_digits m x1 x0 (fun r117_0 r117_1 =>
                    let t197 := (eqI r117_1 0)
                    br (t197) (
                      er [] x0)
                    (
                      br ((okAp 40 (x2.length + [r117_0].length))) (
                        let t205 := (wr .i64 (x0 + r117_1))
                        ρ t205 x1 (x2 ++ [r117_0])) none)))
                  (
                    let t122 := (eqI t20 36)
                    br (t122) (
                      let t125 := (wr .i64 (x0 + 1))
                      publicanref9_run m x1 t125 (fun r126 =>
                      let t128 := (wr .i64 (1 + r126))
                      let t130 := (ltI 0 r126)
                      br (t130) (
                        let t134 := (wr .i64 (x0 + t128))
                        let t136 := (x1.length : Int)
                        let t137 := (ltI t134 t136)
                        br (t137) (
                          let t143 := (wr .i64 (x0 + t128))
                          br ((inB t143 x1.length)) (
                            let t144 := (byteAt x1 t143)
                            let t145 := (eqI t144 46)
                            br (t145) (
                              let t151 := (wr .i64 (x0 + t128))
                              let t152 := (wr .i64 (t151 + 1))
                              publicanref9_run m x1 t152 (fun r153 =>
                              let t154 := (eqI r153 2)
                              br (t154) (
                                let t159 := (wr .i64 (x0 + t128))
                                let t160 := (wr .i64 (t159 + 1))
                                let t163 := (wr .i64 (x0 + t128))
                                let t164 := (wr .i64 (t163 + 3))
                                br ((leI 0 t160 && (leI 0 t164 && (Nat.ble (iNat t160) (iNat t164) && Nat.ble (iNat t164) x1.length)))) (
                                  let t165 := (cutL x1 (iNat t160) (iNat t164))
                                  let t167 := (wr .i64 (t128 + 3))
                                  let t171 := (wr .i64 (x0 + 1))
                                  let t173 := (wr .i64 (x0 + 1))
                                  let t175 := (wr .i64 (t173 + r126))
                                  br ((leI 0 t171 && (leI 0 t175 && (Nat.ble (iNat t171) (iNat t175) && Nat.ble (iNat t175) x1.length)))) (
                                    let t176 := (cutL x1 (iNat t171) (iNat t175))
                                    publicanref9_money m t176 t165 (fun r178_0 r178_1 =>
                                    let t182 := (eqI r126 0)
                                    br (t182) (
                                      let t197 := (eqI 0 0)
                                      br (t197) (
                                        er [] x0)
                                      (
                                        br ((okAp 40 (x2.length + [(T_publicanref9_Word.mk 0 [] 0 x0)].length))) (
                                          let t202a := (x2 ++ [(T_publicanref9_Word.mk 0 [] 0 x0)])
                                          let t205 := (wr .i64 (x0 + 0))
                                          ρ t205 x1 t202a) none))
                                    (
                                      let t185 := (!r178_1)
                                      br (t185) (
                                        let t197 := (eqI 0 0)
                                        br (t197) (
                                          er [] x0)
                                        (
                                          br ((okAp 40 (x2.length + [(T_publicanref9_Word.mk 0 [] 0 x0)].length))) (
                                            let t202a := (x2 ++ [(T_publicanref9_Word.mk 0 [] 0 x0)])
                                            let t205 := (wr .i64 (x0 + 0))
                                            ρ t205 x1 t202a) none))
                                      (
                                        let t191 := (wr .i64 (x0 + t167))
                                        br ((leI 0 x0 && (leI 0 t191 && (Nat.ble (iNat x0) (iNat t191) && Nat.ble (iNat t191) x1.length)))) (
                                          let t192 := (cutL x1 (iNat x0) (iNat t191))
                                          let t197 := (eqI t167 0)
                                          br (t197) (
                                            er [] x0)
                                          (
                                            br ((okAp 40 (x2.length + [(T_publicanref9_Word.mk 4 t192 r178_0 x0)].length))) (
                                              let t202a := (x2 ++ [(T_publicanref9_Word.mk 4 t192 r178_0 x0)])
                                              let t205 := (wr .i64 (x0 + t167))
                                              ρ t205 x1 t202a) none)) none)))) none) none)
                              (
                                let t171 := (wr .i64 (x0 + 1))
                                let t173 := (wr .i64 (x0 + 1))
                                let t175 := (wr .i64 (t173 + r126))
                                br ((leI 0 t171 && (leI 0 t175 && (Nat.ble (iNat t171) (iNat t175) && Nat.ble (iNat t175) x1.length)))) (
                                  let t176 := (cutL x1 (iNat t171) (iNat t175))
                                  publicanref9_money m t176 [] (fun r178_0 r178_1 =>
                                  let t182 := (eqI r126 0)
                                  br (t182) (
                                    let t197 := (eqI 0 0)
                                    br (t197) (
                                      er [] x0)
                                    (
                                      br ((okAp 40 (x2.length + [(T_publicanref9_Word.mk 0 [] 0 x0)].length))) (
                                        let t202a := (x2 ++ [(T_publicanref9_Word.mk 0 [] 0 x0)])
                                        let t205 := (wr .i64 (x0 + 0))
                                        ρ t205 x1 t202a) none))
                                  (
                                    let t185 := (!r178_1)
                                    br (t185) (
                                      let t197 := (eqI 0 0)
                                      br (t197) (
                                        er [] x0)
                                      (
                                        br ((okAp 40 (x2.length + [(T_publicanref9_Word.mk 0 [] 0 x0)].length))) (
                                          let t202a := (x2 ++ [(T_publicanref9_Word.mk 0 [] 0 x0)])
                                          let t205 := (wr .i64 (x0 + 0))
                                          ρ t205 x1 t202a) none))
                                    (
                                      let t191 := (wr .i64 (x0 + t128))
                                      br ((leI 0 x0 && (leI 0 t191 && (Nat.ble (iNat x0) (iNat t191) && Nat.ble (iNat t191) x1.length)))) (
                                        let t192 := (cutL x1 (iNat x0) (iNat t191))
                                        let t197 := (eqI t128 0)
                                        br (t197) (
                                          er [] x0)
                                        (
                                          br ((okAp 40 (x2.length + [(T_publicanref9_Word.mk 4 t192 r178_0 x0)].length))) (
                                            let t202a := (x2 ++ [(T_publicanref9_Word.mk 4 t192 r178_0 x0)])
                                            let t205 := (wr .i64 (x0 + t128))
                                            ρ t205 x1 t202a) none)) none)))) none)))
                            (
                              let t171 := (wr .i64 (x0 + 1))
                              let t173 := (wr .i64 (x0 + 1))
                              let t175 := (wr .i64 (t173 + r126))
                              br ((leI 0 t171 && (leI 0 t175 && (Nat.ble (iNat t171) (iNat t175) && Nat.ble (iNat t175) x1.length)))) (
                                let t176 := (cutL x1 (iNat t171) (iNat t175))
                                publicanref9_money m t176 [] (fun r178_0 r178_1 =>
                                let t182 := (eqI r126 0)
                                br (t182) (
                                  let t197 := (eqI 0 0)
                                  br (t197) (
                                    er [] x0)
                                  (
                                    br ((okAp 40 (x2.length + [(T_publicanref9_Word.mk 0 [] 0 x0)].length))) (
                                      let t202a := (x2 ++ [(T_publicanref9_Word.mk 0 [] 0 x0)])
                                      let t205 := (wr .i64 (x0 + 0))
                                      ρ t205 x1 t202a) none))
                                (
                                  let t185 := (!r178_1)
                                  br (t185) (
                                    let t197 := (eqI 0 0)
                                    br (t197) (
                                      er [] x0)
                                    (
                                      br ((okAp 40 (x2.length + [(T_publicanref9_Word.mk 0 [] 0 x0)].length))) (
                                        let t202a := (x2 ++ [(T_publicanref9_Word.mk 0 [] 0 x0)])
                                        let t205 := (wr .i64 (x0 + 0))
                                        ρ t205 x1 t202a) none))
                                  (
                                    let t191 := (wr .i64 (x0 + t128))
                                    br ((leI 0 x0 && (leI 0 t191 && (Nat.ble (iNat x0) (iNat t191) && Nat.ble (iNat t191) x1.length)))) (
                                      let t192 := (cutL x1 (iNat x0) (iNat t191))
                                      let t197 := (eqI t128 0)
                                      br (t197) (
                                        er [] x0)
                                      (
                                        br ((okAp 40 (x2.length + [(T_publicanref9_Word.mk 4 t192 r178_0 x0)].length))) (
                                          let t202a := (x2 ++ [(T_publicanref9_Word.mk 4 t192 r178_0 x0)])
                                          let t205 := (wr .i64 (x0 + t128))
                                          ρ t205 x1 t202a) none)) none)))) none)) none)
                        (
                          let t171 := (wr .i64 (x0 + 1))
                          let t173 := (wr .i64 (x0 + 1))
                          let t175 := (wr .i64 (t173 + r126))
                          br ((leI 0 t171 && (leI 0 t175 && (Nat.ble (iNat t171) (iNat t175) && Nat.ble (iNat t175) x1.length)))) (
                            let t176 := (cutL x1 (iNat t171) (iNat t175))
                            publicanref9_money m t176 [] (fun r178_0 r178_1 =>
                            let t182 := (eqI r126 0)
                            br (t182) (
                              let t197 := (eqI 0 0)
                              br (t197) (
                                er [] x0)
                              (
                                br ((okAp 40 (x2.length + [(T_publicanref9_Word.mk 0 [] 0 x0)].length))) (
                                  let t202a := (x2 ++ [(T_publicanref9_Word.mk 0 [] 0 x0)])
                                  let t205 := (wr .i64 (x0 + 0))
                                  ρ t205 x1 t202a) none))
                            (
                              let t185 := (!r178_1)
                              br (t185) (
                                let t197 := (eqI 0 0)
                                br (t197) (
                                  er [] x0)
                                (
                                  br ((okAp 40 (x2.length + [(T_publicanref9_Word.mk 0 [] 0 x0)].length))) (
                                    let t202a := (x2 ++ [(T_publicanref9_Word.mk 0 [] 0 x0)])
                                    let t205 := (wr .i64 (x0 + 0))
                                    ρ t205 x1 t202a) none))
                              (
                                let t191 := (wr .i64 (x0 + t128))
                                br ((leI 0 x0 && (leI 0 t191 && (Nat.ble (iNat x0) (iNat t191) && Nat.ble (iNat t191) x1.length)))) (
                                  let t192 := (cutL x1 (iNat x0) (iNat t191))
                                  let t197 := (eqI t128 0)
                                  br (t197) (
                                    er [] x0)
                                  (
                                    br ((okAp 40 (x2.length + [(T_publicanref9_Word.mk 4 t192 r178_0 x0)].length))) (
                                      let t202a := (x2 ++ [(T_publicanref9_Word.mk 4 t192 r178_0 x0)])
                                      let t205 := (wr .i64 (x0 + t128))
                                      ρ t205 x1 t202a) none)) none)))) none))
                      (
                        let t171 := (wr .i64 (x0 + 1))
                        let t173 := (wr .i64 (x0 + 1))
                        let t175 := (wr .i64 (t173 + r126))
                        br ((leI 0 t171 && (leI 0 t175 && (Nat.ble (iNat t171) (iNat t175) && Nat.ble (iNat t175) x1.length)))) (
                          let t176 := (cutL x1 (iNat t171) (iNat t175))
                          publicanref9_money m t176 [] (fun r178_0 r178_1 =>
                          let t182 := (eqI r126 0)
                          br (t182) (
                            let t197 := (eqI 0 0)
                            br (t197) (
                              er [] x0)
                            (
                              br ((okAp 40 (x2.length + [(T_publicanref9_Word.mk 0 [] 0 x0)].length))) (
                                let t202a := (x2 ++ [(T_publicanref9_Word.mk 0 [] 0 x0)])
                                let t205 := (wr .i64 (x0 + 0))
                                ρ t205 x1 t202a) none))
                          (
                            let t185 := (!r178_1)
                            br (t185) (
                              let t197 := (eqI 0 0)
                              br (t197) (
                                er [] x0)
                              (
                                br ((okAp 40 (x2.length + [(T_publicanref9_Word.mk 0 [] 0 x0)].length))) (
                                  let t202a := (x2 ++ [(T_publicanref9_Word.mk 0 [] 0 x0)])
                                  let t205 := (wr .i64 (x0 + 0))
                                  ρ t205 x1 t202a) none))
                            (
                              let t191 := (wr .i64 (x0 + t128))
                              br ((leI 0 x0 && (leI 0 t191 && (Nat.ble (iNat x0) (iNat t191) && Nat.ble (iNat t191) x1.length)))) (
                                let t192 := (cutL x1 (iNat x0) (iNat t191))
                                let t197 := (eqI t128 0)
                                br (t197) (
                                  er [] x0)
                                (
                                  br ((okAp 40 (x2.length + [(T_publicanref9_Word.mk 4 t192 r178_0 x0)].length))) (
                                    let t202a := (x2 ++ [(T_publicanref9_Word.mk 4 t192 r178_0 x0)])
                                    let t205 := (wr .i64 (x0 + t128))
                                    ρ t205 x1 t202a) none)) none)))) none)))
                    (
                      br ((leI 0 x0 && Nat.ble (iNat x0) x1.length)) (
                        let t56 := (cutL x1 (iNat x0) x1.length)
                        publicanref9_sign m t56 (fun r57 =>
                        let t61 := (r57.length : Int)
                        let t197 := (eqI t61 0)
                        br (t197) (
                          er [] x0)
                        (
                          br ((okAp 40 (x2.length + [(T_publicanref9_Word.mk 7 r57 0 x0)].length))) (
                            let t202a := (x2 ++ [(T_publicanref9_Word.mk 7 r57 0 x0)])
                            let t205 := (wr .i64 (x0 + t61))
                            ρ t205 x1 t202a) none))) none))))))))))) none)
  (
    e0 x1 x2)
noncomputable def publicanref9_Cut_L0 (m : Nat) : Nat → Int → List UInt8 → List T_publicanref9_Word → (List UInt8 → List T_publicanref9_Word → Option R) → (List T_publicanref9_Word → Int → Option R) → Option R
  | 0 => fun _ _ _ _ _ => none
  | j + 1 => fun x0 x1 x2 e0 er => publicanref9_Cut_S0 m (fun x0 x1 x2 => publicanref9_Cut_L0 m j x0 x1 x2 e0 er) e0 er x0 x1 x2
noncomputable def publicanref9_Cut (m : Nat) (a0 : List UInt8) (κ : List T_publicanref9_Word → Int → Option R) : Option R :=
  let t13a := (List.replicate (iNat 0) (T_publicanref9_Word.mk 0 [] 0 0))
  publicanref9_Cut_L0 m m 0 a0 t13a (fun y0_0 y0_1 =>
    let t208 := (y0_0.length : Int)
    br ((okAp 40 (y0_1.length + [(T_publicanref9_Word.mk 0 [] 0 t208)].length))) (
      let t211a := (y0_1 ++ [(T_publicanref9_Word.mk 0 [] 0 t208)])
      κ t211a (-1)) none) (fun z0_0 z0_1 =>
    κ z0_0 z0_1)
structure G_publicanref9_parser_expr (R : Type) where
  publicanref9_parser_expr : T_publicanref9_parser → (T_publicanref9_Node → T_publicanref9_parser → Option R) → Option R
  publicanref9_parser_inside : T_publicanref9_parser → (T_publicanref9_Node → T_publicanref9_parser → Option R) → Option R
  publicanref9_parser_row : T_publicanref9_parser → Int → (T_publicanref9_Node → T_publicanref9_parser → Option R) → Option R
  publicanref9_parser_un : T_publicanref9_parser → (T_publicanref9_Node → T_publicanref9_parser → Option R) → Option R
  publicanref9_parser_prim : T_publicanref9_parser → (T_publicanref9_Node → T_publicanref9_parser → Option R) → Option R
noncomputable def publicanref9_parser_expr_B (m : Nat) (g : G_publicanref9_parser_expr R) (o0 : T_publicanref9_parser) (κ : T_publicanref9_Node → T_publicanref9_parser → Option R) : Option R :=
  publicanref9_parser_in m o0 (fun r5 o0_5 =>
  let t6 := (!r5)
  br (t6) (
    κ (T_publicanref9_Node.mk [] [] 0 0 0 []) o0_5)
  (
    g.publicanref9_parser_inside o0_5 (fun r9 o0_9 =>
    publicanref9_parser_out m o0_9 (fun o0_11 =>
    κ (T_publicanref9_Node.mk r9.f_Op r9.f_Name r9.f_Kind r9.f_N r9.f_At r9.f_Kids) o0_11))))
noncomputable def publicanref9_parser_inside_B (m : Nat) (g : G_publicanref9_parser_expr R) (o0 : T_publicanref9_parser) (κ : T_publicanref9_Node → T_publicanref9_parser → Option R) : Option R :=
  publicanref9_parser_w m o0 (fun r8 o0_8 =>
  publicanref9_parser_take m o0_8 sif (fun r11 o0_11 =>
  br (r11) (
    g.publicanref9_parser_expr o0_11 (fun r13 o0_13 =>
    publicanref9_parser_want m o0_13 sthen (fun o0_15 =>
    g.publicanref9_parser_expr o0_15 (fun r17 o0_17 =>
    publicanref9_parser_want m o0_17 selse (fun o0_19 =>
    g.publicanref9_parser_expr o0_19 (fun r21 o0_21 =>
    κ (T_publicanref9_Node.mk sif [] 0 0 r8.f_At [(T_publicanref9_Node.mk r13.f_Op r13.f_Name r13.f_Kind r13.f_N r13.f_At r13.f_Kids), (T_publicanref9_Node.mk r17.f_Op r17.f_Name r17.f_Kind r17.f_N r17.f_At r17.f_Kids), (T_publicanref9_Node.mk r21.f_Op r21.f_Name r21.f_Kind r21.f_N r21.f_At r21.f_Kids)]) o0_21))))))
  (
    g.publicanref9_parser_row o0_11 0 (fun r29 o0_29 =>
    κ (T_publicanref9_Node.mk r29.f_Op r29.f_Name r29.f_Kind r29.f_N r29.f_At r29.f_Kids) o0_29))))
noncomputable def publicanref9_parser_row_S0_0 (m : Nat) (g : G_publicanref9_parser_expr R) (ρ : Int → List (List UInt8) → Int → Int → List UInt8 → List T_publicanref9_Word → Int → Int → Bool → Int → List UInt8 → List UInt8 → Int → Int → Int → List T_publicanref9_Node → List UInt8 → List UInt8 → Int → Int → Int → List T_publicanref9_Node → Option R) (e2 : List (List UInt8) → Int → Int → List UInt8 → List T_publicanref9_Word → Int → Int → Bool → Int → List UInt8 → List UInt8 → Int → Int → Int → List T_publicanref9_Node → List UInt8 → List UInt8 → Int → Int → Int → List T_publicanref9_Node → Option R) (x0 : Int) (x1 : List (List UInt8)) (x2 : Int) (x3 : Int) (x4 : List UInt8) (x5 : List T_publicanref9_Word) (x6 : Int) (x7 : Int) (x8 : Bool) (x9 : Int) (x10 : List UInt8) (x11 : List UInt8) (x12 : Int) (x13 : Int) (x14 : Int) (x15 : List T_publicanref9_Node) (x16 : List UInt8) (x17 : List UInt8) (x18 : Int) (x19 : Int) (x20 : Int) (x21 : List T_publicanref9_Node) : Option R :=
  let t33 := (x1.length : Int)
  let t34 := (ltI x0 t33)
  br (t34) (
    let t37 := (eqL x4 [])
    br (t37) (
      br ((inB x0 x1.length)) (
        let t44 := (el2 x1 (iNat x0))
        publicanref9_parser_take m (T_publicanref9_parser.mk x5 x6 x7 x8 x9) t44 (fun r46 o0_46 =>
        br (r46) (
          br ((inB x0 x1.length)) (
            let t49 := (el2 x1 (iNat x0))
            let t40 := (wr .i64 (x0 + 1))
            ρ t40 x1 x2 x3 t49 o0_46.f_l o0_46.f_k o0_46.f_bad o0_46.f_deep o0_46.f_d x10 x11 x12 x13 x14 x15 x16 x17 x18 x19 x20 x21) none)
        (
          let t40 := (wr .i64 (x0 + 1))
          ρ t40 x1 x2 x3 x4 o0_46.f_l o0_46.f_k o0_46.f_bad o0_46.f_deep o0_46.f_d x10 x11 x12 x13 x14 x15 x16 x17 x18 x19 x20 x21))) none)
    (
      e2 x1 x2 x3 x4 x5 x6 x7 x8 x9 x10 x11 x12 x13 x14 x15 x16 x17 x18 x19 x20 x21))
  (
    e2 x1 x2 x3 x4 x5 x6 x7 x8 x9 x10 x11 x12 x13 x14 x15 x16 x17 x18 x19 x20 x21)
noncomputable def publicanref9_parser_row_L0_0 (m : Nat) (g : G_publicanref9_parser_expr R) : Nat → Int → List (List UInt8) → Int → Int → List UInt8 → List T_publicanref9_Word → Int → Int → Bool → Int → List UInt8 → List UInt8 → Int → Int → Int → List T_publicanref9_Node → List UInt8 → List UInt8 → Int → Int → Int → List T_publicanref9_Node → (List (List UInt8) → Int → Int → List UInt8 → List T_publicanref9_Word → Int → Int → Bool → Int → List UInt8 → List UInt8 → Int → Int → Int → List T_publicanref9_Node → List UInt8 → List UInt8 → Int → Int → Int → List T_publicanref9_Node → Option R) → Option R
  | 0 => fun _ _ _ _ _ _ _ _ _ _ _ _ _ _ _ _ _ _ _ _ _ _ _ => none
  | j + 1 => fun x0 x1 x2 x3 x4 x5 x6 x7 x8 x9 x10 x11 x12 x13 x14 x15 x16 x17 x18 x19 x20 x21 e2 => publicanref9_parser_row_S0_0 m g (fun x0 x1 x2 x3 x4 x5 x6 x7 x8 x9 x10 x11 x12 x13 x14 x15 x16 x17 x18 x19 x20 x21 => publicanref9_parser_row_L0_0 m g j x0 x1 x2 x3 x4 x5 x6 x7 x8 x9 x10 x11 x12 x13 x14 x15 x16 x17 x18 x19 x20 x21 e2) e2 x0 x1 x2 x3 x4 x5 x6 x7 x8 x9 x10 x11 x12 x13 x14 x15 x16 x17 x18 x19 x20 x21
noncomputable def publicanref9_parser_row_S0 (m : Nat) (g : G_publicanref9_parser_expr R) (ρ : List (List UInt8) → Int → List T_publicanref9_Word → Int → Int → Bool → Int → List UInt8 → List UInt8 → Int → Int → Int → List T_publicanref9_Node → List UInt8 → List UInt8 → Int → Int → Int → List T_publicanref9_Node → Option R) (er : List T_publicanref9_Word → Int → Int → Bool → Int → List UInt8 → List UInt8 → Int → Int → Int → List T_publicanref9_Node → Option R) (x0 : List (List UInt8)) (x1 : Int) (x2 : List T_publicanref9_Word) (x3 : Int) (x4 : Int) (x5 : Bool) (x6 : Int) (x7 : List UInt8) (x8 : List UInt8) (x9 : Int) (x10 : Int) (x11 : Int) (x12 : List T_publicanref9_Node) (x13 : List UInt8) (x14 : List UInt8) (x15 : Int) (x16 : Int) (x17 : Int) (x18 : List T_publicanref9_Node) : Option R :=
  publicanref9_parser_w m (T_publicanref9_parser.mk x2 x3 x4 x5 x6) (fun r29 o0_29 =>
  publicanref9_parser_row_L0_0 m g m 0 x0 x1 r29.f_At [] o0_29.f_l o0_29.f_k o0_29.f_bad o0_29.f_deep o0_29.f_d x7 x8 x9 x10 x11 x12 x13 x14 x15 x16 x17 x18 (fun y0_0_0 y0_0_1 y0_0_2 y0_0_3 y0_0_4 y0_0_5 y0_0_6 y0_0_7 y0_0_8 y0_0_9 y0_0_10 y0_0_11 y0_0_12 y0_0_13 y0_0_14 y0_0_15 y0_0_16 y0_0_17 y0_0_18 y0_0_19 y0_0_20 =>
  let t52 := (eqL y0_0_3 [])
  br (t52) (
    er y0_0_4 y0_0_5 y0_0_6 y0_0_7 y0_0_8 y0_0_15 y0_0_16 y0_0_17 y0_0_18 y0_0_19 y0_0_20)
  (
    let t56 := (wr .i64 (y0_0_1 + 1))
    g.publicanref9_parser_row (T_publicanref9_parser.mk y0_0_4 y0_0_5 y0_0_6 y0_0_7 y0_0_8) t56 (fun r57 o0_57 =>
    let t65 := (eqI y0_0_1 2)
    br (t65) (
      er o0_57.f_l o0_57.f_k o0_57.f_bad o0_57.f_deep o0_57.f_d y0_0_3 [] 0 0 y0_0_2 ([(T_publicanref9_Node.mk y0_0_15 y0_0_16 y0_0_17 y0_0_18 y0_0_19 y0_0_20), (T_publicanref9_Node.mk r57.f_Op r57.f_Name r57.f_Kind r57.f_N r57.f_At r57.f_Kids)]))
    (
      ρ y0_0_0 y0_0_1 o0_57.f_l o0_57.f_k o0_57.f_bad o0_57.f_deep o0_57.f_d y0_0_9 y0_0_10 y0_0_11 y0_0_12 y0_0_13 y0_0_14 y0_0_3 [] 0 0 y0_0_2 ([(T_publicanref9_Node.mk y0_0_15 y0_0_16 y0_0_17 y0_0_18 y0_0_19 y0_0_20), (T_publicanref9_Node.mk r57.f_Op r57.f_Name r57.f_Kind r57.f_N r57.f_At r57.f_Kids)]))))))
noncomputable def publicanref9_parser_row_L0 (m : Nat) (g : G_publicanref9_parser_expr R) : Nat → List (List UInt8) → Int → List T_publicanref9_Word → Int → Int → Bool → Int → List UInt8 → List UInt8 → Int → Int → Int → List T_publicanref9_Node → List UInt8 → List UInt8 → Int → Int → Int → List T_publicanref9_Node → (List T_publicanref9_Word → Int → Int → Bool → Int → List UInt8 → List UInt8 → Int → Int → Int → List T_publicanref9_Node → Option R) → Option R
  | 0 => fun _ _ _ _ _ _ _ _ _ _ _ _ _ _ _ _ _ _ _ _ => none
  | j + 1 => fun x0 x1 x2 x3 x4 x5 x6 x7 x8 x9 x10 x11 x12 x13 x14 x15 x16 x17 x18 er => publicanref9_parser_row_S0 m g (fun x0 x1 x2 x3 x4 x5 x6 x7 x8 x9 x10 x11 x12 x13 x14 x15 x16 x17 x18 => publicanref9_parser_row_L0 m g j x0 x1 x2 x3 x4 x5 x6 x7 x8 x9 x10 x11 x12 x13 x14 x15 x16 x17 x18 er) er x0 x1 x2 x3 x4 x5 x6 x7 x8 x9 x10 x11 x12 x13 x14 x15 x16 x17 x18
noncomputable def publicanref9_parser_row_B (m : Nat) (g : G_publicanref9_parser_expr R) (o0 : T_publicanref9_parser) (a1 : Int) (κ : T_publicanref9_Node → T_publicanref9_parser → Option R) : Option R :=
  let t12 := (eqI a1 5)
  br (t12) (
    g.publicanref9_parser_un o0 (fun r14 o0_14 =>
    κ (T_publicanref9_Node.mk r14.f_Op r14.f_Name r14.f_Kind r14.f_N r14.f_At r14.f_Kids) o0_14))
  (
    br ((inB a1 [[sor], [sand], [s_60, s_60_61, s_62, s_62_61, s_61_61, s_33_61], [s_43, s_45], [s_42, s_47]].length)) (
      let t23 := (el8 ([[sor], [sand], [s_60, s_60_61, s_62, s_62_61, s_61_61, s_33_61], [s_43, s_45], [s_42, s_47]]) (iNat a1))
      let t26 := (wr .i64 (a1 + 1))
      g.publicanref9_parser_row o0 t26 (fun r27 o0_27 =>
      publicanref9_parser_row_L0 m g m t23 a1 o0_27.f_l o0_27.f_k o0_27.f_bad o0_27.f_deep o0_27.f_d [] [] 0 0 0 [] r27.f_Op r27.f_Name r27.f_Kind r27.f_N r27.f_At r27.f_Kids (fun z0_0 z0_1 z0_2 z0_3 z0_4 z0_5 z0_6 z0_7 z0_8 z0_9 z0_10 =>
      κ (T_publicanref9_Node.mk z0_5 z0_6 z0_7 z0_8 z0_9 z0_10) (T_publicanref9_parser.mk z0_0 z0_1 z0_2 z0_3 z0_4)))) none)
noncomputable def publicanref9_parser_un_B (m : Nat) (g : G_publicanref9_parser_expr R) (o0 : T_publicanref9_parser) (κ : T_publicanref9_Node → T_publicanref9_parser → Option R) : Option R :=
  publicanref9_parser_w m o0 (fun r7 o0_7 =>
  publicanref9_parser_take m o0_7 s_45 (fun r10 o0_10 =>
  br (r10) (
    let t14 := (eqL sneg [])
    br (t14) (
      g.publicanref9_parser_prim o0_10 (fun r16 o0_16 =>
      κ (T_publicanref9_Node.mk r16.f_Op r16.f_Name r16.f_Kind r16.f_N r16.f_At r16.f_Kids) o0_16))
    (
      publicanref9_parser_in m o0_10 (fun r18 o0_18 =>
      let t19 := (!r18)
      br (t19) (
        κ (T_publicanref9_Node.mk [] [] 0 0 0 []) o0_18)
      (
        g.publicanref9_parser_un o0_18 (fun r22 o0_22 =>
        publicanref9_parser_out m o0_22 (fun o0_24 =>
        κ (T_publicanref9_Node.mk sneg [] 0 0 r7.f_At [(T_publicanref9_Node.mk r22.f_Op r22.f_Name r22.f_Kind r22.f_N r22.f_At r22.f_Kids)]) o0_24))))))
  (
    publicanref9_parser_take m o0_10 snot (fun r12 o0_12 =>
    br (r12) (
      let t14 := (eqL snot [])
      br (t14) (
        g.publicanref9_parser_prim o0_12 (fun r16 o0_16 =>
        κ (T_publicanref9_Node.mk r16.f_Op r16.f_Name r16.f_Kind r16.f_N r16.f_At r16.f_Kids) o0_16))
      (
        publicanref9_parser_in m o0_12 (fun r18 o0_18 =>
        let t19 := (!r18)
        br (t19) (
          κ (T_publicanref9_Node.mk [] [] 0 0 0 []) o0_18)
        (
          g.publicanref9_parser_un o0_18 (fun r22 o0_22 =>
          publicanref9_parser_out m o0_22 (fun o0_24 =>
          κ (T_publicanref9_Node.mk snot [] 0 0 r7.f_At [(T_publicanref9_Node.mk r22.f_Op r22.f_Name r22.f_Kind r22.f_N r22.f_At r22.f_Kids)]) o0_24))))))
    (
      let t14 := (eqL [] [])
      br (t14) (
        g.publicanref9_parser_prim o0_12 (fun r16 o0_16 =>
        κ (T_publicanref9_Node.mk r16.f_Op r16.f_Name r16.f_Kind r16.f_N r16.f_At r16.f_Kids) o0_16))
      (
        publicanref9_parser_in m o0_12 (fun r18 o0_18 =>
        let t19 := (!r18)
        br (t19) (
          κ (T_publicanref9_Node.mk [] [] 0 0 0 []) o0_18)
        (
          g.publicanref9_parser_un o0_18 (fun r22 o0_22 =>
          publicanref9_parser_out m o0_22 (fun o0_24 =>
          κ (T_publicanref9_Node.mk [] [] 0 0 r7.f_At [(T_publicanref9_Node.mk r22.f_Op r22.f_Name r22.f_Kind r22.f_N r22.f_At r22.f_Kids)]) o0_24))))))))))
noncomputable def publicanref9_parser_prim_S0 (m : Nat) (g : G_publicanref9_parser_expr R) (ρ : Int → Int → List T_publicanref9_Word → Int → Int → Bool → Int → List UInt8 → List UInt8 → Int → Int → Int → List T_publicanref9_Node → Option R) (e0 : Int → List T_publicanref9_Word → Int → Int → Bool → Int → List UInt8 → List UInt8 → Int → Int → Int → List T_publicanref9_Node → Option R) (er : List T_publicanref9_Word → Int → Int → Bool → Int → List UInt8 → List UInt8 → Int → Int → Int → List T_publicanref9_Node → Option R) (x0 : Int) (x1 : Int) (x2 : List T_publicanref9_Word) (x3 : Int) (x4 : Int) (x5 : Bool) (x6 : Int) (x7 : List UInt8) (x8 : List UInt8) (x9 : Int) (x10 : Int) (x11 : Int) (x12 : List T_publicanref9_Node) : Option R :=
  let t23 := (ltI x1 2)
  br (t23) (
    br ((inB x1 [smin, smax].length)) (
      let t29 := (el2 ([smin, smax]) (iNat x1))
      publicanref9_parser_take m (T_publicanref9_parser.mk x2 x3 x4 x5 x6) t29 (fun r32 o0_32 =>
      br (r32) (
        publicanref9_parser_want m o0_32 s_40 (fun o0_34 =>
        g.publicanref9_parser_expr o0_34 (fun r36 o0_36 =>
        publicanref9_parser_want m o0_36 s_44 (fun o0_38 =>
        g.publicanref9_parser_expr o0_38 (fun r40 o0_40 =>
        publicanref9_parser_want m o0_40 s_41 (fun o0_42 =>
        er o0_42.f_l o0_42.f_k o0_42.f_bad o0_42.f_deep o0_42.f_d t29 [] 0 0 x0 ([(T_publicanref9_Node.mk r36.f_Op r36.f_Name r36.f_Kind r36.f_N r36.f_At r36.f_Kids), (T_publicanref9_Node.mk r40.f_Op r40.f_Name r40.f_Kind r40.f_N r40.f_At r40.f_Kids)])))))))
      (
        let t25 := (wr .i64 (x1 + 1))
        ρ x0 t25 o0_32.f_l o0_32.f_k o0_32.f_bad o0_32.f_deep o0_32.f_d x7 x8 x9 x10 x11 x12))) none)
  (
    e0 x0 x2 x3 x4 x5 x6 x7 x8 x9 x10 x11 x12)
noncomputable def publicanref9_parser_prim_L0 (m : Nat) (g : G_publicanref9_parser_expr R) : Nat → Int → Int → List T_publicanref9_Word → Int → Int → Bool → Int → List UInt8 → List UInt8 → Int → Int → Int → List T_publicanref9_Node → (Int → List T_publicanref9_Word → Int → Int → Bool → Int → List UInt8 → List UInt8 → Int → Int → Int → List T_publicanref9_Node → Option R) → (List T_publicanref9_Word → Int → Int → Bool → Int → List UInt8 → List UInt8 → Int → Int → Int → List T_publicanref9_Node → Option R) → Option R
  | 0 => fun _ _ _ _ _ _ _ _ _ _ _ _ _ _ _ => none
  | j + 1 => fun x0 x1 x2 x3 x4 x5 x6 x7 x8 x9 x10 x11 x12 e0 er => publicanref9_parser_prim_S0 m g (fun x0 x1 x2 x3 x4 x5 x6 x7 x8 x9 x10 x11 x12 => publicanref9_parser_prim_L0 m g j x0 x1 x2 x3 x4 x5 x6 x7 x8 x9 x10 x11 x12 e0 er) e0 er x0 x1 x2 x3 x4 x5 x6 x7 x8 x9 x10 x11 x12
noncomputable def publicanref9_parser_prim_B (m : Nat) (g : G_publicanref9_parser_expr R) (o0 : T_publicanref9_parser) (κ : T_publicanref9_Node → T_publicanref9_parser → Option R) : Option R :=
  publicanref9_parser_w m o0 (fun r16 o0_16 =>
  publicanref9_parser_islit m o0_16 (fun r19 o0_19 =>
  br (r19) (
    publicanref9_parser_lit m o0_19 (fun r21 o0_21 =>
    κ (T_publicanref9_Node.mk r21.f_Op r21.f_Name r21.f_Kind r21.f_N r21.f_At r21.f_Kids) o0_21))
  (
    publicanref9_parser_prim_L0 m g m r16.f_At 0 o0_19.f_l o0_19.f_k o0_19.f_bad o0_19.f_deep o0_19.f_d [] [] 0 0 0 [] (fun y0_0 y0_1 y0_2 y0_3 y0_4 y0_5 y0_6 y0_7 y0_8 y0_9 y0_10 y0_11 =>
      publicanref9_parser_take m (T_publicanref9_parser.mk y0_1 y0_2 y0_3 y0_4 y0_5) s_40 (fun r51 o0_51 =>
      br (r51) (
        g.publicanref9_parser_expr o0_51 (fun r53 o0_53 =>
        publicanref9_parser_want m o0_53 s_41 (fun o0_55 =>
        κ (T_publicanref9_Node.mk r53.f_Op r53.f_Name r53.f_Kind r53.f_N r53.f_At r53.f_Kids) o0_55)))
      (
        publicanref9_parser_take m o0_51 slen (fun r59 o0_59 =>
        br (r59) (
          publicanref9_parser_want m o0_59 s_40 (fun o0_61 =>
          g.publicanref9_parser_expr o0_61 (fun r63 o0_63 =>
          publicanref9_parser_want m o0_63 s_41 (fun o0_65 =>
          κ (T_publicanref9_Node.mk slen [] 0 0 y0_0 [(T_publicanref9_Node.mk r63.f_Op r63.f_Name r63.f_Kind r63.f_N r63.f_At r63.f_Kids)]) o0_65))))
        (
          publicanref9_parser_take m o0_59 sat (fun r72 o0_72 =>
          br (r72) (
            publicanref9_parser_want m o0_72 s_40 (fun o0_74 =>
            publicanref9_parser_name m o0_74 (fun r76 o0_76 =>
            publicanref9_parser_want m o0_76 s_44 (fun o0_78 =>
            g.publicanref9_parser_expr o0_78 (fun r80 o0_80 =>
            publicanref9_parser_want m o0_80 s_41 (fun o0_82 =>
            κ (T_publicanref9_Node.mk sat r76 0 0 y0_0 [(T_publicanref9_Node.mk r80.f_Op r80.f_Name r80.f_Kind r80.f_N r80.f_At r80.f_Kids)]) o0_82))))))
          (
            publicanref9_parser_take m o0_72 ssum (fun r90 o0_90 =>
            br (r90) (
              publicanref9_parser_want m o0_90 s_40 (fun o0_92 =>
              publicanref9_parser_name m o0_92 (fun r94 o0_94 =>
              publicanref9_parser_want m o0_94 sin (fun o0_96 =>
              g.publicanref9_parser_expr o0_96 (fun r98 o0_98 =>
              publicanref9_parser_want m o0_98 s_58 (fun o0_100 =>
              g.publicanref9_parser_expr o0_100 (fun r102 o0_102 =>
              publicanref9_parser_want m o0_102 s_41 (fun o0_104 =>
              κ (T_publicanref9_Node.mk ssum r94 0 0 y0_0 [(T_publicanref9_Node.mk r98.f_Op r98.f_Name r98.f_Kind r98.f_N r98.f_At r98.f_Kids), (T_publicanref9_Node.mk r102.f_Op r102.f_Name r102.f_Kind r102.f_N r102.f_At r102.f_Kids)]) o0_104))))))))
            (
              publicanref9_parser_name m o0_90 (fun r112 o0_112 =>
              κ (T_publicanref9_Node.mk sname r112 0 0 y0_0 []) o0_112)))))))))) (fun z0_0 z0_1 z0_2 z0_3 z0_4 z0_5 z0_6 z0_7 z0_8 z0_9 z0_10 =>
      κ (T_publicanref9_Node.mk z0_5 z0_6 z0_7 z0_8 z0_9 z0_10) (T_publicanref9_parser.mk z0_0 z0_1 z0_2 z0_3 z0_4)))))
noncomputable def G_publicanref9_parser_expr_r : Nat → G_publicanref9_parser_expr R
  | 0 => ⟨fun _ _ => none, fun _ _ => none, fun _ _ _ => none, fun _ _ => none, fun _ _ => none⟩
  | j + 1 => ⟨publicanref9_parser_expr_B j (G_publicanref9_parser_expr_r j), publicanref9_parser_inside_B j (G_publicanref9_parser_expr_r j), publicanref9_parser_row_B j (G_publicanref9_parser_expr_r j), publicanref9_parser_un_B j (G_publicanref9_parser_expr_r j), publicanref9_parser_prim_B j (G_publicanref9_parser_expr_r j)⟩
noncomputable def publicanref9_parser_expr (m : Nat) := (G_publicanref9_parser_expr_r (R := R) m).publicanref9_parser_expr
noncomputable def publicanref9_parser_inside (m : Nat) := (G_publicanref9_parser_expr_r (R := R) m).publicanref9_parser_inside
noncomputable def publicanref9_parser_row (m : Nat) := (G_publicanref9_parser_expr_r (R := R) m).publicanref9_parser_row
noncomputable def publicanref9_parser_un (m : Nat) := (G_publicanref9_parser_expr_r (R := R) m).publicanref9_parser_un
noncomputable def publicanref9_parser_prim (m : Nat) := (G_publicanref9_parser_expr_r (R := R) m).publicanref9_parser_prim
noncomputable def publicanref9_parser_decl_S0 (m : Nat) (ρ : List T_publicanref9_Word → Int → Int → Bool → Int → List UInt8 → List UInt8 → Int → Int → Int → List T_publicanref9_Node → List UInt8 → List UInt8 → Int → Int → Int → List T_publicanref9_Node → Option R) (e1 : List T_publicanref9_Word → Int → Int → Bool → Int → List UInt8 → List UInt8 → Int → Int → Int → List T_publicanref9_Node → List UInt8 → List UInt8 → Int → Int → Int → List T_publicanref9_Node → Option R) (x0 : List T_publicanref9_Word) (x1 : Int) (x2 : Int) (x3 : Bool) (x4 : Int) (x5 : List UInt8) (x6 : List UInt8) (x7 : Int) (x8 : Int) (x9 : Int) (x10 : List T_publicanref9_Node) (x11 : List UInt8) (x12 : List UInt8) (x13 : Int) (x14 : Int) (x15 : Int) (x16 : List T_publicanref9_Node) : Option R :=
  let t68 := (ltI x2 0)
  br (t68) (
    publicanref9_parser_is m (T_publicanref9_parser.mk x0 x1 x2 x3 x4) selse (fun r71 o0_71 =>
    let t72 := (!r71)
    br (t72) (
      let t76 := (x16.length : Int)
      let t77 := (eqI t76 32)
      br (t77) (
        publicanref9_parser_limit m o0_71 (fun o0_79 =>
        e1 o0_79.f_l o0_79.f_k o0_79.f_bad o0_79.f_deep o0_79.f_d x5 x6 x7 x8 x9 x10 x11 x12 x13 x14 x15 x16))
      (
        publicanref9_parser_w m o0_71 (fun r81 o0_81 =>
        publicanref9_parser_lit m o0_81 (fun r85 o0_85 =>
        publicanref9_parser_want m o0_85 s_58 (fun o0_87 =>
        publicanref9_parser_lit m o0_87 (fun r89 o0_89 =>
        publicanref9_parser_want m o0_89 s_44 (fun o0_91 =>
        br ((okAp 80 (x16.length + [(T_publicanref9_Node.mk srow [] 0 0 r81.f_At [(T_publicanref9_Node.mk r85.f_Op r85.f_Name r85.f_Kind r85.f_N r85.f_At r85.f_Kids), (T_publicanref9_Node.mk r89.f_Op r89.f_Name r89.f_Kind r89.f_N r89.f_At r89.f_Kids)])].length))) (
          let t100a := (x16 ++ [(T_publicanref9_Node.mk srow [] 0 0 r81.f_At [(T_publicanref9_Node.mk r85.f_Op r85.f_Name r85.f_Kind r85.f_N r85.f_At r85.f_Kids), (T_publicanref9_Node.mk r89.f_Op r89.f_Name r89.f_Kind r89.f_N r89.f_At r89.f_Kids)])])
          ρ o0_91.f_l o0_91.f_k o0_91.f_bad o0_91.f_deep o0_91.f_d x5 x6 x7 x8 x9 x10 x11 x12 x13 x14 x15 t100a) none)))))))
    (
      e1 o0_71.f_l o0_71.f_k o0_71.f_bad o0_71.f_deep o0_71.f_d x5 x6 x7 x8 x9 x10 x11 x12 x13 x14 x15 x16)))
  (
    e1 x0 x1 x2 x3 x4 x5 x6 x7 x8 x9 x10 x11 x12 x13 x14 x15 x16)
noncomputable def publicanref9_parser_decl_L0 (m : Nat) : Nat → List T_publicanref9_Word → Int → Int → Bool → Int → List UInt8 → List UInt8 → Int → Int → Int → List T_publicanref9_Node → List UInt8 → List UInt8 → Int → Int → Int → List T_publicanref9_Node → (List T_publicanref9_Word → Int → Int → Bool → Int → List UInt8 → List UInt8 → Int → Int → Int → List T_publicanref9_Node → List UInt8 → List UInt8 → Int → Int → Int → List T_publicanref9_Node → Option R) → Option R
  | 0 => fun _ _ _ _ _ _ _ _ _ _ _ _ _ _ _ _ _ _ => none
  | j + 1 => fun x0 x1 x2 x3 x4 x5 x6 x7 x8 x9 x10 x11 x12 x13 x14 x15 x16 e1 => publicanref9_parser_decl_S0 m (fun x0 x1 x2 x3 x4 x5 x6 x7 x8 x9 x10 x11 x12 x13 x14 x15 x16 => publicanref9_parser_decl_L0 m j x0 x1 x2 x3 x4 x5 x6 x7 x8 x9 x10 x11 x12 x13 x14 x15 x16 e1) e1 x0 x1 x2 x3 x4 x5 x6 x7 x8 x9 x10 x11 x12 x13 x14 x15 x16
noncomputable def publicanref9_parser_decl (m : Nat) (o0 : T_publicanref9_parser) (κ : T_publicanref9_Node → T_publicanref9_parser → Option R) : Option R :=
  publicanref9_parser_w m o0 (fun r12 o0_12 =>
  publicanref9_parser_take m o0_12 sinput (fun r20 o0_20 =>
  br (r20) (
    publicanref9_parser_name m o0_20 (fun r23 o0_23 =>
    publicanref9_parser_kind m o0_23 (fun r26 o0_26 =>
    publicanref9_parser_want m o0_26 s_59 (fun o0_29 =>
    κ (T_publicanref9_Node.mk sinput r23 r26 0 r12.f_At []) o0_29))))
  (
    publicanref9_parser_take m o0_20 srule (fun r32 o0_32 =>
    br (r32) (
      publicanref9_parser_name m o0_32 (fun r35 o0_35 =>
      publicanref9_parser_kind m o0_35 (fun r38 o0_38 =>
      publicanref9_parser_want m o0_38 s_61 (fun o0_41 =>
      publicanref9_parser_expr m o0_41 (fun r43 o0_43 =>
      publicanref9_parser_want m o0_43 s_59 (fun o0_48 =>
      κ (T_publicanref9_Node.mk srule r35 r38 0 r12.f_At [(T_publicanref9_Node.mk r43.f_Op r43.f_Name r43.f_Kind r43.f_N r43.f_At r43.f_Kids)]) o0_48))))))
    (
      publicanref9_parser_take m o0_32 stable (fun r51 o0_51 =>
      br (r51) (
        publicanref9_parser_name m o0_51 (fun r54 o0_54 =>
        publicanref9_parser_kind m o0_54 (fun r57 o0_57 =>
        publicanref9_parser_kind m o0_57 (fun r60 o0_60 =>
        publicanref9_parser_want m o0_60 s_123 (fun o0_63 =>
        publicanref9_parser_decl_L0 m m o0_63.f_l o0_63.f_k o0_63.f_bad o0_63.f_deep o0_63.f_d [] [] 0 0 0 [] stable r54 r60 r57 r12.f_At [] (fun y0_0 y0_1 y0_2 y0_3 y0_4 y0_5 y0_6 y0_7 y0_8 y0_9 y0_10 y0_11 y0_12 y0_13 y0_14 y0_15 y0_16 =>
        let t106 := (ltI y0_2 0)
        br (t106) (
          let t110 := (y0_16.length : Int)
          let t111 := (eqI t110 32)
          br (t111) (
            publicanref9_parser_limit m (T_publicanref9_parser.mk y0_0 y0_1 y0_2 y0_3 y0_4) (fun o0_114 =>
            publicanref9_parser_w m o0_114 (fun r116 o0_116 =>
            publicanref9_parser_want m o0_116 selse (fun o0_120 =>
            publicanref9_parser_lit m o0_120 (fun r122 o0_122 =>
            br ((okAp 80 (y0_16.length + [(T_publicanref9_Node.mk srow [] 0 0 r116.f_At [(T_publicanref9_Node.mk r122.f_Op r122.f_Name r122.f_Kind r122.f_N r122.f_At r122.f_Kids)])].length))) (
              let t130a := (y0_16 ++ [(T_publicanref9_Node.mk srow [] 0 0 r116.f_At [(T_publicanref9_Node.mk r122.f_Op r122.f_Name r122.f_Kind r122.f_N r122.f_At r122.f_Kids)])])
              publicanref9_parser_want m o0_122 s_125 (fun o0_133 =>
              κ (T_publicanref9_Node.mk y0_11 y0_12 y0_13 y0_14 y0_15 t130a) o0_133)) none)))))
          (
            publicanref9_parser_w m (T_publicanref9_parser.mk y0_0 y0_1 y0_2 y0_3 y0_4) (fun r116 o0_116 =>
            publicanref9_parser_want m o0_116 selse (fun o0_120 =>
            publicanref9_parser_lit m o0_120 (fun r122 o0_122 =>
            br ((okAp 80 (y0_16.length + [(T_publicanref9_Node.mk srow [] 0 0 r116.f_At [(T_publicanref9_Node.mk r122.f_Op r122.f_Name r122.f_Kind r122.f_N r122.f_At r122.f_Kids)])].length))) (
              let t130a := (y0_16 ++ [(T_publicanref9_Node.mk srow [] 0 0 r116.f_At [(T_publicanref9_Node.mk r122.f_Op r122.f_Name r122.f_Kind r122.f_N r122.f_At r122.f_Kids)])])
              publicanref9_parser_want m o0_122 s_125 (fun o0_133 =>
              κ (T_publicanref9_Node.mk y0_11 y0_12 y0_13 y0_14 y0_15 t130a) o0_133)) none)))))
        (
          publicanref9_parser_w m (T_publicanref9_parser.mk y0_0 y0_1 y0_2 y0_3 y0_4) (fun r116 o0_116 =>
          publicanref9_parser_want m o0_116 selse (fun o0_120 =>
          publicanref9_parser_lit m o0_120 (fun r122 o0_122 =>
          br ((okAp 80 (y0_16.length + [(T_publicanref9_Node.mk srow [] 0 0 r116.f_At [(T_publicanref9_Node.mk r122.f_Op r122.f_Name r122.f_Kind r122.f_N r122.f_At r122.f_Kids)])].length))) (
            let t130a := (y0_16 ++ [(T_publicanref9_Node.mk srow [] 0 0 r116.f_At [(T_publicanref9_Node.mk r122.f_Op r122.f_Name r122.f_Kind r122.f_N r122.f_At r122.f_Kids)])])
            publicanref9_parser_want m o0_122 s_125 (fun o0_133 =>
            κ (T_publicanref9_Node.mk y0_11 y0_12 y0_13 y0_14 y0_15 t130a) o0_133)) none))))))))))
      (
        publicanref9_parser_fail m o0_51 (fun o0_17 =>
        κ (T_publicanref9_Node.mk [] [] 0 0 r12.f_At []) o0_17))))))))
noncomputable def publicanref9_Parse_S0 (m : Nat) (ρ : List UInt8 → List UInt8 → Int → Int → Int → List T_publicanref9_Word → Int → Int → Bool → Int → List UInt8 → List UInt8 → Int → Int → Int → List T_publicanref9_Node → List T_publicanref9_Node → Option R) (e0 : List UInt8 → List UInt8 → Int → Int → Int → List T_publicanref9_Node → List T_publicanref9_Word → Int → Int → Bool → Int → List UInt8 → List UInt8 → Int → Int → Int → List T_publicanref9_Node → Option R) (x0 : List UInt8) (x1 : List UInt8) (x2 : Int) (x3 : Int) (x4 : Int) (x5 : List T_publicanref9_Word) (x6 : Int) (x7 : Int) (x8 : Bool) (x9 : Int) (x10 : List UInt8) (x11 : List UInt8) (x12 : Int) (x13 : Int) (x14 : Int) (x15 : List T_publicanref9_Node) (x16 : List T_publicanref9_Node) : Option R :=
  let t30 := (ltI x7 0)
  br (t30) (
    br ((inB x6 x5.length)) (
      let t40 := (el5 x5 (iNat x6))
      let t43 := (!(eqI t40.f_Kind 0))
      br (t43) (
        publicanref9_parser_decl m (T_publicanref9_parser.mk x5 x6 x7 x8 x9) (fun r48 o1_48 =>
        br ((okAp 80 (x16.length + [r48].length))) (
          ρ x0 x1 x2 x3 x4 o1_48.f_l o1_48.f_k o1_48.f_bad o1_48.f_deep o1_48.f_d x10 x11 x12 x13 x14 x15 (x16 ++ [r48])) none))
      (
        e0 x10 x11 x12 x13 x14 x15 x5 x6 x7 x8 x9 x0 x1 x2 x3 x4 x16)) none)
  (
    e0 x10 x11 x12 x13 x14 x15 x5 x6 x7 x8 x9 x0 x1 x2 x3 x4 x16)
noncomputable def publicanref9_Parse_L0 (m : Nat) : Nat → List UInt8 → List UInt8 → Int → Int → Int → List T_publicanref9_Word → Int → Int → Bool → Int → List UInt8 → List UInt8 → Int → Int → Int → List T_publicanref9_Node → List T_publicanref9_Node → (List UInt8 → List UInt8 → Int → Int → Int → List T_publicanref9_Node → List T_publicanref9_Word → Int → Int → Bool → Int → List UInt8 → List UInt8 → Int → Int → Int → List T_publicanref9_Node → Option R) → Option R
  | 0 => fun _ _ _ _ _ _ _ _ _ _ _ _ _ _ _ _ _ _ => none
  | j + 1 => fun x0 x1 x2 x3 x4 x5 x6 x7 x8 x9 x10 x11 x12 x13 x14 x15 x16 e0 => publicanref9_Parse_S0 m (fun x0 x1 x2 x3 x4 x5 x6 x7 x8 x9 x10 x11 x12 x13 x14 x15 x16 => publicanref9_Parse_L0 m j x0 x1 x2 x3 x4 x5 x6 x7 x8 x9 x10 x11 x12 x13 x14 x15 x16 e0) e0 x0 x1 x2 x3 x4 x5 x6 x7 x8 x9 x10 x11 x12 x13 x14 x15 x16
noncomputable def publicanref9_Parse (m : Nat) (a0 : List UInt8) (κ : T_publicanref9_Node → Int → Bool → Option R) : Option R :=
  publicanref9_Cut m a0 (fun r11_0 r11_1 =>
  let t15 := (leI 0 r11_1)
  br (t15) (
    κ (T_publicanref9_Node.mk [] [] 0 0 0 []) r11_1 false)
  (
    br ((inB 0 r11_0.length)) (
      let t22 := (el5 r11_0 (iNat 0))
      publicanref9_Parse_L0 m m sstatute [] 0 0 t22.f_At r11_0 0 (-1) false 0 [] [] 0 0 0 [] [] (fun y0_0 y0_1 y0_2 y0_3 y0_4 y0_5 y0_6 y0_7 y0_8 y0_9 y0_10 y0_11 y0_12 y0_13 y0_14 y0_15 y0_16 =>
      let t56 := (leI 0 y0_8)
      br (t56) (
        κ (T_publicanref9_Node.mk [] [] 0 0 0 []) y0_8 y0_9)
      (
        κ (T_publicanref9_Node.mk y0_11 y0_12 y0_13 y0_14 y0_15 y0_16) (-1) false))) none))
noncomputable def publicanref17_Read (m : Nat) (a0 : List UInt8) (κ : T_syn_Node → T_publicanref9_Node → Bool → Option R) : Option R :=
  publicanref9_Parse m a0 (fun r10_0 r10_1 r10_2 =>
  let t18 := (ltI r10_1 0)
  publicanref17_Back m (T_publicanref9_Node.mk r10_0.f_Op r10_0.f_Name r10_0.f_Kind r10_0.f_N r10_0.f_At r10_0.f_Kids) (fun r15 =>
  κ (T_syn_Node.mk r15.f_Op r15.f_Name r15.f_Kind r15.f_N r15.f_At r15.f_Kids) (T_publicanref9_Node.mk r10_0.f_Op r10_0.f_Name r10_0.f_Kind r10_0.f_N r10_0.f_At r10_0.f_Kids) t18))
noncomputable def publicanlaw10_SynSame (m : Nat) (a0 : List UInt8) (a1 : List UInt8) (a2 : Int) (κ : Bool → Option R) : Option R :=
  publicanlaw10_awake m  (fun r13 =>
  let t14 := (!r13)
  br (t14) (
    κ false)
  (
    let t16 := (a0.length : Int)
    let t17 := (ltI 2000 t16)
    br (t17) (
      κ true)
    (
      let t20 := (a1.length : Int)
      let t21 := (ltI 2000 t20)
      br (t21) (
        κ true)
      (
        publicanref17_Read m a0 (fun r25_0 r25_1 r25_2 =>
        publicanref17_Read m a1 (fun r31_0 r31_1 r31_2 =>
        let t36 := (!r25_2)
        br (t36) (
          κ true)
        (
          let t39 := (!r31_2)
          br (t39) (
            κ true)
          (
            syn_Same m (T_syn_Node.mk r25_0.f_Op r25_0.f_Name r25_0.f_Kind r25_0.f_N a2 r25_0.f_Kids) (T_syn_Node.mk r31_0.f_Op r31_0.f_Name r31_0.f_Kind r31_0.f_N r31_0.f_At r31_0.f_Kids) (fun r45 =>
            publicanref9_Same m (T_publicanref9_Node.mk r25_1.f_Op r25_1.f_Name r25_1.f_Kind r25_1.f_N r25_1.f_At r25_1.f_Kids) (T_publicanref9_Node.mk r31_1.f_Op r31_1.f_Name r31_1.f_Kind r31_1.f_N r31_1.f_At r31_1.f_Kids) (fun r48 =>
            let t49 := (eqB r45 r48)
            κ t49))))))))))
end Go.Pm
