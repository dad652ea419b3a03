/- The kinds of data. -/
import Derived.Test.YtodccifahbgogaaGreatPvA
set_option linter.unusedVariables false
set_option linter.unusedSectionVars false
set_option linter.unusedSimpArgs false
namespace Go.Pm
open Go Go.EvM Go.Pv
set_option linter.unusedVariables false
def snot : List UInt8 := [110, 111, 116]
def sneg : List UInt8 := [110, 101, 103]
def s_43 : List UInt8 := [43]
def s_45 : List UInt8 := [45]
def s_42 : List UInt8 := [42]
def s_47 : List UInt8 := [47]
def s_60 : List UInt8 := [60]
def s_60_61 : List UInt8 := [60, 61]
def s_62 : List UInt8 := [62]
def s_62_61 : List UInt8 := [62, 61]
def s_61_61 : List UInt8 := [61, 61]
def s_33_61 : List UInt8 := [33, 61]
def sand : List UInt8 := [97, 110, 100]
def sor : List UInt8 := [111, 114]
def smin : List UInt8 := [109, 105, 110]
def smax : List UInt8 := [109, 97, 120]
def s_0_1_2_2_3_3_3_3_4_4_4_4_4_4_4_4_5_5_5_5_5_5_5_5__256_232741 : List UInt8 := [0, 1, 2, 2, 3, 3, 3, 3, 4, 4, 4, 4, 4, 4, 4, 4, 5, 5, 5, 5, 5, 5, 5, 5, 5, 5, 5, 5, 5, 5, 5, 5, 6, 6, 6, 6, 6, 6, 6, 6, 6, 6, 6, 6, 6, 6, 6, 6, 6, 6, 6, 6, 6, 6, 6, 6, 6, 6, 6, 6, 6, 6, 6, 6, 7, 7, 7, 7, 7, 7, 7, 7, 7, 7, 7, 7, 7, 7, 7, 7, 7, 7, 7, 7, 7, 7, 7, 7, 7, 7, 7, 7, 7, 7, 7, 7, 7, 7, 7, 7, 7, 7, 7, 7, 7, 7, 7, 7, 7, 7, 7, 7, 7, 7, 7, 7, 7, 7, 7, 7, 7, 7, 7, 7, 7, 7, 7, 7, 8, 8, 8, 8, 8, 8, 8, 8, 8, 8, 8, 8, 8, 8, 8, 8, 8, 8, 8, 8, 8, 8, 8, 8, 8, 8, 8, 8, 8, 8, 8, 8, 8, 8, 8, 8, 8, 8, 8, 8, 8, 8, 8, 8, 8, 8, 8, 8, 8, 8, 8, 8, 8, 8, 8, 8, 8, 8, 8, 8, 8, 8, 8, 8, 8, 8, 8, 8, 8, 8, 8, 8, 8, 8, 8, 8, 8, 8, 8, 8, 8, 8, 8, 8, 8, 8, 8, 8, 8, 8, 8, 8, 8, 8, 8, 8, 8, 8, 8, 8, 8, 8, 8, 8, 8, 8, 8, 8, 8, 8, 8, 8, 8, 8, 8, 8, 8, 8, 8, 8, 8, 8, 8, 8, 8, 8, 8, 8]
structure T_api_Value where
  f_Kind : Int
  f_N : Int
  f_L : List Int
structure T_publicanref1_Big where
  f_Neg : Bool
  f_D : List Int
structure T_num_Wide where
  f_Hi : Int
  f_Lo : Int
def dS : Nat → Type
  | 0 => Int
  | 1 => Int
  | 2 => (List UInt8)
  | 3 => Bool
  | 4 => T_api_Value
  | 5 => T_publicanref1_Big
  | 6 => Int
  | 7 => T_num_Wide
  | _ => Unit
def dsz : Nat → Nat
  | 0 => 1
  | 1 => 1
  | 2 => 1
  | 3 => 1
  | 4 => 3
  | 5 => 2
  | 6 => 1
  | 7 => 2
  | _ => 1
def df0 : Int := (0 : Int)
def df1 : Int := (0 : Int)
def df2 : (List UInt8) := ([] : (List UInt8))
def df3 : Bool := (false : Bool)
def df4 : T_api_Value := (T_api_Value.mk 0 0 [] : T_api_Value)
def df5 : T_publicanref1_Big := (T_publicanref1_Big.mk false [] : T_publicanref1_Big)
def df6 : Int := (0 : Int)
def df7 : T_num_Wide := (T_num_Wide.mk 0 0 : T_num_Wide)
def dfld : (c : Nat) → dS c → List (PV dS)
  | 0, (x : Int) => [.int .i64 x]
  | 1, (x : Int) => [.int .u8 x]
  | 2, (x : (List UInt8)) => [.str x]
  | 3, (x : Bool) => [.bool x]
  | 4, (x : T_api_Value) => [.int .i64 x.f_Kind, .int .i64 x.f_N, .sl 0 x.f_L]
  | 5, (x : T_publicanref1_Big) => [.bool x.f_Neg, .sl 6 x.f_D]
  | 6, (x : Int) => [.int .u64 x]
  | 7, (x : T_num_Wide) => [.int .i64 x.f_Hi, .int .u64 x.f_Lo]
  | _ + 8, _ => [.bool false]
def ddflt : (c : Nat) → dS c
  | 0 => df0
  | 1 => df1
  | 2 => df2
  | 3 => df3
  | 4 => df4
  | 5 => df5
  | 6 => df6
  | 7 => df7
  | _ + 8 => ()
def rdS (c : Nat) (v : PV dS) : Option (List (dS c)) := match v with | .sl d l => if h : d = c then some (h ▸ l) else none | .nils => some [] | _ => none
def dmk0 (l : List (PV dS)) : Option Int := match l with | [.int .i64 y0] => some (y0 : Int) | _ => none
def dmk1 (l : List (PV dS)) : Option Int := match l with | [.int .u8 y0] => some (y0 : Int) | _ => none
def dmk2 (l : List (PV dS)) : Option (List UInt8) := match l with | [.str y0] => some (y0 : (List UInt8)) | _ => none
def dmk3 (l : List (PV dS)) : Option Bool := match l with | [.bool y0] => some (y0 : Bool) | _ => none
def dmk4 (l : List (PV dS)) : Option T_api_Value := match l with | [.int .i64 y0, .int .i64 y1, y2] => (rdS 0 y2).bind fun y2 => some (T_api_Value.mk y0 y1 y2 : T_api_Value) | _ => none
def dmk5 (l : List (PV dS)) : Option T_publicanref1_Big := match l with | [.bool y0, y1] => (rdS 6 y1).bind fun y1 => some (T_publicanref1_Big.mk y0 y1 : T_publicanref1_Big) | _ => none
def dmk6 (l : List (PV dS)) : Option Int := match l with | [.int .u64 y0] => some (y0 : Int) | _ => none
def dmk7 (l : List (PV dS)) : Option T_num_Wide := match l with | [.int .i64 y0, .int .u64 y1] => some (T_num_Wide.mk y0 y1 : T_num_Wide) | _ => none
def dmk : (c : Nat) → List (PV dS) → Option (dS c)
  | 0 => dmk0
  | 1 => dmk1
  | 2 => dmk2
  | 3 => dmk3
  | 4 => dmk4
  | 5 => dmk5
  | 6 => dmk6
  | 7 => dmk7
  | _ + 8 => fun _ => none
theorem dlen : ∀ c x, (dfld c x).length = dsz c
  | 0, _ => rfl
  | 1, _ => rfl
  | 2, _ => rfl
  | 3, _ => rfl
  | 4, _ => rfl
  | 5, _ => rfl
  | 6, _ => rfl
  | 7, _ => rfl
  | _ + 8, _ => rfl
theorem ddata : ∀ c x, (dfld c x).all isData = true
  | 0, _ => rfl
  | 1, _ => rfl
  | 2, _ => rfl
  | 3, _ => rfl
  | 4, _ => rfl
  | 5, _ => rfl
  | 6, _ => rfl
  | 7, _ => rfl
  | _ + 8, _ => rfl
theorem dpos : ∀ c, 0 < dsz c
  | 0 => by decide
  | 1 => by decide
  | 2 => by decide
  | 3 => by decide
  | 4 => by decide
  | 5 => by decide
  | 6 => by decide
  | 7 => by decide
  | _ + 8 => Nat.one_pos
theorem rdS_like {c : Nat} {v : PV dS} {l : List (dS c)} (h : rdS c v = some l) : Like v (.sl c l) := by
  unfold rdS at h
  split at h
  · split at h
    · rename_i hd; subst hd; cases h; exact .same _
    · cases h
  · cases h; exact .nil c
  · cases h
theorem dmkOk0 (l : List (PV dS)) (x : Int) (h : dmk0 l = some x) : Likes l (dfld 0 x) := by
  unfold dmk0 at h
  split at h; rotate_left; cases h
  rename_i y0
  cases h
  exact .cons (.same _) (.nil)
theorem dmkOk1 (l : List (PV dS)) (x : Int) (h : dmk1 l = some x) : Likes l (dfld 1 x) := by
  unfold dmk1 at h
  split at h; rotate_left; cases h
  rename_i y0
  cases h
  exact .cons (.same _) (.nil)
theorem dmkOk2 (l : List (PV dS)) (x : (List UInt8)) (h : dmk2 l = some x) : Likes l (dfld 2 x) := by
  unfold dmk2 at h
  split at h; rotate_left; cases h
  rename_i y0
  cases h
  exact .cons (.same _) (.nil)
theorem dmkOk3 (l : List (PV dS)) (x : Bool) (h : dmk3 l = some x) : Likes l (dfld 3 x) := by
  unfold dmk3 at h
  split at h; rotate_left; cases h
  rename_i y0
  cases h
  exact .cons (.same _) (.nil)
theorem dmkOk4 (l : List (PV dS)) (x : T_api_Value) (h : dmk4 l = some x) : Likes l (dfld 4 x) := by
  unfold dmk4 at h
  split at h; rotate_left; cases h
  rename_i y0 y1 y2
  obtain ⟨z2, h2, h⟩ := Option.bind_eq_some_iff.1 h
  cases h
  exact .cons (.same _) (.cons (.same _) (.cons (rdS_like h2) (.nil)))
theorem dmkOk5 (l : List (PV dS)) (x : T_publicanref1_Big) (h : dmk5 l = some x) : Likes l (dfld 5 x) := by
  unfold dmk5 at h
  split at h; rotate_left; cases h
  rename_i y0 y1
  obtain ⟨z1, h1, h⟩ := Option.bind_eq_some_iff.1 h
  cases h
  exact .cons (.same _) (.cons (rdS_like h1) (.nil))
theorem dmkOk6 (l : List (PV dS)) (x : Int) (h : dmk6 l = some x) : Likes l (dfld 6 x) := by
  unfold dmk6 at h
  split at h; rotate_left; cases h
  rename_i y0
  cases h
  exact .cons (.same _) (.nil)
theorem dmkOk7 (l : List (PV dS)) (x : T_num_Wide) (h : dmk7 l = some x) : Likes l (dfld 7 x) := by
  unfold dmk7 at h
  split at h; rotate_left; cases h
  rename_i y0 y1
  cases h
  exact .cons (.same _) (.cons (.same _) (.nil))
theorem dmkOk : ∀ c l x, dmk c l = some x → Likes l (dfld c x)
  | 0, l, x, h => dmkOk0 l x h
  | 1, l, x, h => dmkOk1 l x h
  | 2, l, x, h => dmkOk2 l x h
  | 3, l, x, h => dmkOk3 l x h
  | 4, l, x, h => dmkOk4 l x h
  | 5, l, x, h => dmkOk5 l x h
  | 6, l, x, h => dmkOk6 l x h
  | 7, l, x, h => dmkOk7 l x h
  | _ + 8, l, x, h => by cases h
def codeT : List (Nat × Nat) := [(9, 2), (70, 4), (2, 0), (3, 0), (185, 6), (5, 1), (23, 0)]
def lookN (t : Nat) : List (Nat × Nat) → Option Nat
  | [] => none
  | p :: l => bif Nat.beq t p.1 then some p.2 else lookN t l
noncomputable instance : Dat where
  S := dS
  sz := dsz
  dflt := ddflt
  fld := dfld
  mkD := dmk
  code := fun t => lookN t codeT
  len := dlen
  data := ddata
  pos := dpos
  mkOk := dmkOk
  byte := 1
  byteI := fun n => n
  ofByte := fun n => n
  byteF := fun _ => rfl
  byteO := fun _ => rfl
noncomputable def el0 (l : List Int) (i : Nat) : Int := getD df0 l i
noncomputable def el1 (l : List Int) (i : Nat) : Int := getD df1 l i
noncomputable def el2 (l : List (List UInt8)) (i : Nat) : (List UInt8) := getD df2 l i
noncomputable def el3 (l : List Bool) (i : Nat) : Bool := getD df3 l i
noncomputable def el4 (l : List T_api_Value) (i : Nat) : T_api_Value := getD df4 l i
noncomputable def el5 (l : List T_publicanref1_Big) (i : Nat) : T_publicanref1_Big := getD df5 l i
noncomputable def el6 (l : List Int) (i : Nat) : Int := getD df6 l i
noncomputable def el7 (l : List T_num_Wide) (i : Nat) : T_num_Wide := getD df7 l i
end Go.Pm
namespace Go.Pm
open Go Go.EvM Go.Pv
set_option linter.unusedVariables false
variable {R : Type}
noncomputable abbrev br (c : Bool) (t e : Option R) : Option R := Bool.rec (motive := fun _ => Option R) e t c
def publicanlaw13_awake (m : Nat) (κ : Bool → Option R) : Option R := κ true
def math_bits_Add64 (m : Nat) (a0 a1 a2 : Int) (κ : Int → Int → Option R) : Option R := match a0, a1, a2 with
  | .ofNat x, .ofNat y, .ofNat b => bif Nat.ble b 1 then κ (.ofNat ((x + y + b) % 18446744073709551616)) (.ofNat ((x + y + b) / 18446744073709551616)) else none
  | _, _, _ => none
def math_bits_Sub64 (m : Nat) (a0 a1 a2 : Int) (κ : Int → Int → Option R) : Option R := match a0, a1, a2 with
  | .ofNat x, .ofNat y, .ofNat b => bif Nat.ble b 1 then κ (.ofNat ((x + 18446744073709551616 - y - b) % 18446744073709551616)) (.ofNat (if x < y + b then 1 else 0)) else none
  | _, _, _ => none
def addP (args : List Value) (h : Hp) : OR := match args with
  | [.int .u64 (.ofNat x), .int .u64 (.ofNat y), .int .u64 (.ofNat b)] => bif Nat.ble b 1 then .ok (.tuple ⟨[.int .u64 (.ofNat ((x + y + b) % 18446744073709551616)), .int .u64 (.ofNat ((x + y + b) / 18446744073709551616))]⟩) h else .no
  | _ => .no
def subP (args : List Value) (h : Hp) : OR := match args with
  | [.int .u64 (.ofNat x), .int .u64 (.ofNat y), .int .u64 (.ofNat b)] => bif Nat.ble b 1 then .ok (.tuple ⟨[.int .u64 (.ofNat ((x + 18446744073709551616 - y - b) % 18446744073709551616)), .int .u64 (.ofNat (if x < y + b then 1 else 0))]⟩) h else .no
  | _ => .no
noncomputable def publicanref17_Same_S0 (m : Nat) (ρ : Int → Int → Int → List Int → Int → Int → List Int → Option R) (e0 : Unit → Option R) (er : Bool → Option R) (x0 : Int) (x1 : Int) (x2 : Int) (x3 : List Int) (x4 : Int) (x5 : Int) (x6 : List Int) : Option R :=
  let t30 := (x6.length : Int)
  let t31 := (ltI x0 t30)
  br (t31) (
    br ((inB x0 x6.length)) (
      let t37 := (el0 x6 (iNat x0))
      br ((inB x0 x3.length)) (
        let t42 := (el0 x3 (iNat x0))
        let t44 := (!(eqI t37 t42))
        br (t44) (
          er false)
        (
          let t33 := (wr .i64 (x0 + 1))
          ρ t33 x1 x2 x3 x4 x5 x6)) none) none)
  (
    e0 ())
noncomputable def publicanref17_Same_L0 (m : Nat) : Nat → Int → Int → Int → List Int → Int → Int → List Int → (Unit → Option R) → (Bool → Option R) → Option R
  | 0 => fun _ _ _ _ _ _ _ _ _ => none
  | j + 1 => fun x0 x1 x2 x3 x4 x5 x6 e0 er => publicanref17_Same_S0 m (fun x0 x1 x2 x3 x4 x5 x6 => publicanref17_Same_L0 m j x0 x1 x2 x3 x4 x5 x6 e0 er) e0 er x0 x1 x2 x3 x4 x5 x6
noncomputable def publicanref17_Same (m : Nat) (a0 : T_api_Value) (a1 : T_api_Value) (κ : Bool → Option R) : Option R :=
  let t10 := (!(eqI a0.f_Kind a1.f_Kind))
  br (t10) (
    κ false)
  (
    let t16 := (!(eqI a0.f_N a1.f_N))
    br (t16) (
      κ false)
    (
      let t21 := (a0.f_L.length : Int)
      let t24 := (a1.f_L.length : Int)
      let t25 := (!(eqI t21 t24))
      br (t25) (
        κ false)
      (
        publicanref17_Same_L0 m m 0 a1.f_Kind a1.f_N a1.f_L a0.f_Kind a0.f_N a0.f_L (fun (_ : Unit) =>
          κ true) (fun z0_0 =>
          κ z0_0))))
noncomputable def publicanref11_Fit (m : Nat) (a0 : Int) (a1 : Int) (κ : Bool → Option R) : Option R :=
  let t7 := (eqI a0 1)
  br (t7) (
    let t9 := (eqI a1 0)
    br (t9) (
      κ true)
    (
      let t12 := (eqI a1 1)
      κ t12))
  (
    let t15 := (eqI a0 2)
    br (t15) (
      let t18 := (leI (-4503599627370496) a1)
      br (t18) (
        let t21 := (leI a1 4503599627370496)
        κ t21)
      (
        κ false))
    (
      let t16 := (eqI a0 3)
      br (t16) (
        let t18 := (leI (-4503599627370496) a1)
        br (t18) (
          let t21 := (leI a1 4503599627370496)
          κ t21)
        (
          κ false))
      (
        let t24 := (eqI a0 4)
        br (t24) (
          let t26 := (leI (-1000000000000) a1)
          br (t26) (
            let t29 := (leI a1 1000000000000)
            κ t29)
          (
            κ false))
        (
          let t32 := (eqI a0 5)
          br (t32) (
            let t34 := (leI 0 a1)
            br (t34) (
              let t37 := (leI a1 109572)
              κ t37)
            (
              κ false))
          (
            κ false)))))
noncomputable def num_Add (m : Nat) (a0 : Int) (a1 : Int) (κ : Int → Bool → Option R) : Option R :=
  let t9 := (wr .i64 (a0 + a1))
  let t12 := (ltI t9 a0)
  let t14 := (ltI a1 0)
  let t15 := (!(eqB t12 t14))
  br (t15) (
    κ 0 false)
  (
    κ t9 true)
noncomputable def num_Sub (m : Nat) (a0 : Int) (a1 : Int) (κ : Int → Bool → Option R) : Option R :=
  let t9 := (wr .i64 (a0 - a1))
  let t12 := (ltI a0 t9)
  let t14 := (ltI a1 0)
  let t15 := (!(eqB t12 t14))
  br (t15) (
    κ 0 false)
  (
    κ t9 true)
noncomputable def mean_truth (m : Nat) (a0 : Bool) (κ : T_api_Value → Int → Option R) : Option R :=
  br (a0) (
    κ (T_api_Value.mk 1 1 []) 0)
  (
    κ (T_api_Value.mk 1 0 []) 0)
noncomputable def publicanref11_Unary (m : Nat) (a0 : List UInt8) (a1 : Int) (κ : Int → Option R) : Option R :=
  let t6 := (eqL a0 snot)
  br (t6) (
    let t9 := (eqI a1 1)
    br (t9) (
      κ a1)
    (
      let t13 := (eqL a0 sneg)
      br (t13) (
        let t16 := (leI 2 a1)
        br (t16) (
          let t20 := (leI a1 4)
          br (t20) (
            κ a1)
          (
            κ 0))
        (
          κ 0))
      (
        κ 0)))
  (
    let t13 := (eqL a0 sneg)
    br (t13) (
      let t16 := (leI 2 a1)
      br (t16) (
        let t20 := (leI a1 4)
        br (t20) (
          κ a1)
        (
          κ 0))
      (
        κ 0))
    (
      κ 0))
noncomputable def publicanref11_truth (m : Nat) (a0 : Bool) (κ : T_api_Value → Int → Option R) : Option R :=
  br (a0) (
    κ (T_api_Value.mk 1 1 []) 0)
  (
    κ (T_api_Value.mk 1 0 []) 0)
noncomputable def publicanref11_Binary (m : Nat) (a0 : List UInt8) (a1 : Int) (a2 : Int) (κ : Int → Option R) : Option R :=
  let t11 := (eqI a1 a2)
  let t13 := (leI 2 a1)
  br (t13) (
    let t16 := (leI a1 4)
    let t20 := (eqL a0 s_43)
    br (t20) (
      br (t11) (
        br (t16) (
          κ a1)
        (
          let t27 := (eqI a1 5)
          br (t27) (
            let t30 := (eqI a2 2)
            br (t30) (
              κ a1)
            (
              κ 0))
          (
            κ 0)))
      (
        let t27 := (eqI a1 5)
        br (t27) (
          let t30 := (eqI a2 2)
          br (t30) (
            κ a1)
          (
            κ 0))
        (
          κ 0)))
    (
      let t35 := (eqL a0 s_45)
      br (t35) (
        br (t11) (
          br (t16) (
            κ a1)
          (
            let t42 := (eqI a1 5)
            br (t42) (
              let t45 := (eqI a2 2)
              br (t45) (
                κ a1)
              (
                let t50 := (eqI a1 5)
                br (t50) (
                  let t53 := (eqI a2 5)
                  br (t53) (
                    κ 2)
                  (
                    κ 0))
                (
                  κ 0)))
            (
              let t50 := (eqI a1 5)
              br (t50) (
                let t53 := (eqI a2 5)
                br (t53) (
                  κ 2)
                (
                  κ 0))
              (
                κ 0))))
        (
          let t42 := (eqI a1 5)
          br (t42) (
            let t45 := (eqI a2 2)
            br (t45) (
              κ a1)
            (
              let t50 := (eqI a1 5)
              br (t50) (
                let t53 := (eqI a2 5)
                br (t53) (
                  κ 2)
                (
                  κ 0))
              (
                κ 0)))
          (
            let t50 := (eqI a1 5)
            br (t50) (
              let t53 := (eqI a2 5)
              br (t53) (
                κ 2)
              (
                κ 0))
            (
              κ 0))))
      (
        let t56 := (eqL a0 s_42)
        br (t56) (
          let t59 := (ltI a2 a1)
          br (t59) (
            let t64 := (eqI a2 2)
            br (t64) (
              let t67 := (leI 2 a1)
              br (t67) (
                let t71 := (leI a1 4)
                br (t71) (
                  κ a1)
                (
                  let t76 := (eqI a2 3)
                  br (t76) (
                    let t79 := (eqI a1 4)
                    br (t79) (
                      κ 3)
                    (
                      κ 0))
                  (
                    κ 0)))
              (
                let t76 := (eqI a2 3)
                br (t76) (
                  let t79 := (eqI a1 4)
                  br (t79) (
                    κ 3)
                  (
                    κ 0))
                (
                  κ 0)))
            (
              let t76 := (eqI a2 3)
              br (t76) (
                let t79 := (eqI a1 4)
                br (t79) (
                  κ 3)
                (
                  κ 0))
              (
                κ 0)))
          (
            let t64 := (eqI a1 2)
            br (t64) (
              let t67 := (leI 2 a2)
              br (t67) (
                let t71 := (leI a2 4)
                br (t71) (
                  κ a2)
                (
                  let t76 := (eqI a1 3)
                  br (t76) (
                    let t79 := (eqI a2 4)
                    br (t79) (
                      κ 3)
                    (
                      κ 0))
                  (
                    κ 0)))
              (
                let t76 := (eqI a1 3)
                br (t76) (
                  let t79 := (eqI a2 4)
                  br (t79) (
                    κ 3)
                  (
                    κ 0))
                (
                  κ 0)))
            (
              let t76 := (eqI a1 3)
              br (t76) (
                let t79 := (eqI a2 4)
                br (t79) (
                  κ 3)
                (
                  κ 0))
              (
                κ 0))))
        (
          let t82 := (eqL a0 s_47)
          br (t82) (
            let t84 := (eqI a2 2)
            br (t84) (
              let t87 := (eqI a1 2)
              br (t87) (
                κ a1)
              (
                let t90 := (eqI a1 3)
                br (t90) (
                  κ a1)
                (
                  let t95 := (eqI a1 3)
                  br (t95) (
                    let t98 := (eqI a2 3)
                    br (t98) (
                      κ 4)
                    (
                      κ 0))
                  (
                    κ 0))))
            (
              let t95 := (eqI a1 3)
              br (t95) (
                let t98 := (eqI a2 3)
                br (t98) (
                  κ 4)
                (
                  κ 0))
              (
                κ 0)))
          (
            let t101 := (eqL a0 s_60)
            br (t101) (
              br (t11) (
                let t108 := (leI 2 a1)
                br (t108) (
                  let t112 := (leI a1 5)
                  br (t112) (
                    κ 1)
                  (
                    κ 0))
                (
                  κ 0))
              (
                κ 0))
            (
              let t102 := (eqL a0 s_60_61)
              br (t102) (
                br (t11) (
                  let t108 := (leI 2 a1)
                  br (t108) (
                    let t112 := (leI a1 5)
                    br (t112) (
                      κ 1)
                    (
                      κ 0))
                  (
                    κ 0))
                (
                  κ 0))
              (
                let t103 := (eqL a0 s_62)
                br (t103) (
                  br (t11) (
                    let t108 := (leI 2 a1)
                    br (t108) (
                      let t112 := (leI a1 5)
                      br (t112) (
                        κ 1)
                      (
                        κ 0))
                    (
                      κ 0))
                  (
                    κ 0))
                (
                  let t104 := (eqL a0 s_62_61)
                  br (t104) (
                    br (t11) (
                      let t108 := (leI 2 a1)
                      br (t108) (
                        let t112 := (leI a1 5)
                        br (t112) (
                          κ 1)
                        (
                          κ 0))
                      (
                        κ 0))
                    (
                      κ 0))
                  (
                    let t115 := (eqL a0 s_61_61)
                    br (t115) (
                      br (t11) (
                        let t120 := (leI 1 a1)
                        br (t120) (
                          let t124 := (leI a1 5)
                          br (t124) (
                            κ 1)
                          (
                            κ 0))
                        (
                          κ 0))
                      (
                        κ 0))
                    (
                      let t116 := (eqL a0 s_33_61)
                      br (t116) (
                        br (t11) (
                          let t120 := (leI 1 a1)
                          br (t120) (
                            let t124 := (leI a1 5)
                            br (t124) (
                              κ 1)
                            (
                              κ 0))
                          (
                            κ 0))
                        (
                          κ 0))
                      (
                        let t127 := (eqL a0 sand)
                        br (t127) (
                          let t130 := (eqI a1 1)
                          br (t130) (
                            let t133 := (eqI a2 1)
                            br (t133) (
                              κ 1)
                            (
                              κ 0))
                          (
                            κ 0))
                        (
                          let t128 := (eqL a0 sor)
                          br (t128) (
                            let t130 := (eqI a1 1)
                            br (t130) (
                              let t133 := (eqI a2 1)
                              br (t133) (
                                κ 1)
                              (
                                κ 0))
                            (
                              κ 0))
                          (
                            let t136 := (eqL a0 smin)
                            br (t136) (
                              br (t11) (
                                let t141 := (leI 2 a1)
                                br (t141) (
                                  let t145 := (leI a1 5)
                                  br (t145) (
                                    κ a1)
                                  (
                                    κ 0))
                                (
                                  κ 0))
                              (
                                κ 0))
                            (
                              let t137 := (eqL a0 smax)
                              br (t137) (
                                br (t11) (
                                  let t141 := (leI 2 a1)
                                  br (t141) (
                                    let t145 := (leI a1 5)
                                    br (t145) (
                                      κ a1)
                                    (
                                      κ 0))
                                  (
                                    κ 0))
                                (
                                  κ 0))
                              (
                                κ 0)))))))))))))))
  (
    let t20 := (eqL a0 s_43)
    br (t20) (
      br (t11) (
        let t27 := (eqI a1 5)
        br (t27) (
          let t30 := (eqI a2 2)
          br (t30) (
            κ a1)
          (
            κ 0))
        (
          κ 0))
      (
        let t27 := (eqI a1 5)
        br (t27) (
          let t30 := (eqI a2 2)
          br (t30) (
            κ a1)
          (
            κ 0))
        (
          κ 0)))
    (
      let t35 := (eqL a0 s_45)
      br (t35) (
        br (t11) (
          let t42 := (eqI a1 5)
          br (t42) (
            let t45 := (eqI a2 2)
            br (t45) (
              κ a1)
            (
              let t50 := (eqI a1 5)
              br (t50) (
                let t53 := (eqI a2 5)
                br (t53) (
                  κ 2)
                (
                  κ 0))
              (
                κ 0)))
          (
            let t50 := (eqI a1 5)
            br (t50) (
              let t53 := (eqI a2 5)
              br (t53) (
                κ 2)
              (
                κ 0))
            (
              κ 0)))
        (
          let t42 := (eqI a1 5)
          br (t42) (
            let t45 := (eqI a2 2)
            br (t45) (
              κ a1)
            (
              let t50 := (eqI a1 5)
              br (t50) (
                let t53 := (eqI a2 5)
                br (t53) (
                  κ 2)
                (
                  κ 0))
              (
                κ 0)))
          (
            let t50 := (eqI a1 5)
            br (t50) (
              let t53 := (eqI a2 5)
              br (t53) (
                κ 2)
              (
                κ 0))
            (
              κ 0))))
      (
        let t56 := (eqL a0 s_42)
        br (t56) (
          let t59 := (ltI a2 a1)
          br (t59) (
            let t64 := (eqI a2 2)
            br (t64) (
              let t67 := (leI 2 a1)
              br (t67) (
                let t71 := (leI a1 4)
                br (t71) (
                  κ a1)
                (
                  let t76 := (eqI a2 3)
                  br (t76) (
                    let t79 := (eqI a1 4)
                    br (t79) (
                      κ 3)
                    (
                      κ 0))
                  (
                    κ 0)))
              (
                let t76 := (eqI a2 3)
                br (t76) (
                  let t79 := (eqI a1 4)
                  br (t79) (
                    κ 3)
                  (
                    κ 0))
                (
                  κ 0)))
            (
              let t76 := (eqI a2 3)
              br (t76) (
                let t79 := (eqI a1 4)
                br (t79) (
                  κ 3)
                (
                  κ 0))
              (
                κ 0)))
          (
            let t64 := (eqI a1 2)
            br (t64) (
              let t67 := (leI 2 a2)
              br (t67) (
                let t71 := (leI a2 4)
                br (t71) (
                  κ a2)
                (
                  let t76 := (eqI a1 3)
                  br (t76) (
                    let t79 := (eqI a2 4)
                    br (t79) (
                      κ 3)
                    (
                      κ 0))
                  (
                    κ 0)))
              (
                let t76 := (eqI a1 3)
                br (t76) (
                  let t79 := (eqI a2 4)
                  br (t79) (
                    κ 3)
                  (
                    κ 0))
                (
                  κ 0)))
            (
              let t76 := (eqI a1 3)
              br (t76) (
                let t79 := (eqI a2 4)
                br (t79) (
                  κ 3)
                (
                  κ 0))
              (
                κ 0))))
        (
          let t82 := (eqL a0 s_47)
          br (t82) (
            let t84 := (eqI a2 2)
            br (t84) (
              let t87 := (eqI a1 2)
              br (t87) (
                κ a1)
              (
                let t90 := (eqI a1 3)
                br (t90) (
                  κ a1)
                (
                  let t95 := (eqI a1 3)
                  br (t95) (
                    let t98 := (eqI a2 3)
                    br (t98) (
                      κ 4)
                    (
                      κ 0))
                  (
                    κ 0))))
            (
              let t95 := (eqI a1 3)
              br (t95) (
                let t98 := (eqI a2 3)
                br (t98) (
                  κ 4)
                (
                  κ 0))
              (
                κ 0)))
          (
            let t101 := (eqL a0 s_60)
            br (t101) (
              br (t11) (
                let t108 := (leI 2 a1)
                br (t108) (
                  let t112 := (leI a1 5)
                  br (t112) (
                    κ 1)
                  (
                    κ 0))
                (
                  κ 0))
              (
                κ 0))
            (
              let t102 := (eqL a0 s_60_61)
              br (t102) (
                br (t11) (
                  let t108 := (leI 2 a1)
                  br (t108) (
                    let t112 := (leI a1 5)
                    br (t112) (
                      κ 1)
                    (
                      κ 0))
                  (
                    κ 0))
                (
                  κ 0))
              (
                let t103 := (eqL a0 s_62)
                br (t103) (
                  br (t11) (
                    let t108 := (leI 2 a1)
                    br (t108) (
                      let t112 := (leI a1 5)
                      br (t112) (
                        κ 1)
                      (
                        κ 0))
                    (
                      κ 0))
                  (
                    κ 0))
                (
                  let t104 := (eqL a0 s_62_61)
                  br (t104) (
                    br (t11) (
                      let t108 := (leI 2 a1)
                      br (t108) (
                        let t112 := (leI a1 5)
                        br (t112) (
                          κ 1)
                        (
                          κ 0))
                      (
                        κ 0))
                    (
                      κ 0))
                  (
                    let t115 := (eqL a0 s_61_61)
                    br (t115) (
                      br (t11) (
                        let t120 := (leI 1 a1)
                        br (t120) (
                          let t124 := (leI a1 5)
                          br (t124) (
                            κ 1)
                          (
                            κ 0))
                        (
                          κ 0))
                      (
                        κ 0))
                    (
                      let t116 := (eqL a0 s_33_61)
                      br (t116) (
                        br (t11) (
                          let t120 := (leI 1 a1)
                          br (t120) (
                            let t124 := (leI a1 5)
                            br (t124) (
                              κ 1)
                            (
                              κ 0))
                          (
                            κ 0))
                        (
                          κ 0))
                      (
                        let t127 := (eqL a0 sand)
                        br (t127) (
                          let t130 := (eqI a1 1)
                          br (t130) (
                            let t133 := (eqI a2 1)
                            br (t133) (
                              κ 1)
                            (
                              κ 0))
                          (
                            κ 0))
                        (
                          let t128 := (eqL a0 sor)
                          br (t128) (
                            let t130 := (eqI a1 1)
                            br (t130) (
                              let t133 := (eqI a2 1)
                              br (t133) (
                                κ 1)
                              (
                                κ 0))
                            (
                              κ 0))
                          (
                            let t136 := (eqL a0 smin)
                            br (t136) (
                              br (t11) (
                                let t141 := (leI 2 a1)
                                br (t141) (
                                  let t145 := (leI a1 5)
                                  br (t145) (
                                    κ a1)
                                  (
                                    κ 0))
                                (
                                  κ 0))
                              (
                                κ 0))
                            (
                              let t137 := (eqL a0 smax)
                              br (t137) (
                                br (t11) (
                                  let t141 := (leI 2 a1)
                                  br (t141) (
                                    let t145 := (leI a1 5)
                                    br (t145) (
                                      κ a1)
                                    (
                                      κ 0))
                                  (
                                    κ 0))
                                (
                                  κ 0))
                              (
                                κ 0)))))))))))))))
noncomputable def mean_Fit (m : Nat) (a0 : Int) (a1 : Int) (κ : Bool → Option R) : Option R :=
  let t7 := (eqI a0 1)
  br (t7) (
    let t9 := (eqI a1 0)
    br (t9) (
      κ true)
    (
      let t12 := (eqI a1 1)
      κ t12))
  (
    let t15 := (eqI a0 2)
    br (t15) (
      let t18 := (leI (-4503599627370496) a1)
      br (t18) (
        let t21 := (leI a1 4503599627370496)
        κ t21)
      (
        κ false))
    (
      let t16 := (eqI a0 3)
      br (t16) (
        let t18 := (leI (-4503599627370496) a1)
        br (t18) (
          let t21 := (leI a1 4503599627370496)
          κ t21)
        (
          κ false))
      (
        let t24 := (eqI a0 4)
        br (t24) (
          let t26 := (leI (-1000000000000) a1)
          br (t26) (
            let t29 := (leI a1 1000000000000)
            κ t29)
          (
            κ false))
        (
          let t32 := (eqI a0 5)
          br (t32) (
            let t34 := (leI 0 a1)
            br (t34) (
              let t37 := (leI a1 109572)
              κ t37)
            (
              κ false))
          (
            κ false)))))
noncomputable def typ_quotient (m : Nat) (a0 : Int) (a1 : Int) (κ : Int → Option R) : Option R :=
  let t7 := (eqI a1 2)
  br (t7) (
    let t10 := (eqI a0 2)
    br (t10) (
      κ a0)
    (
      let t13 := (eqI a0 3)
      br (t13) (
        κ a0)
      (
        let t19 := (eqI a0 3)
        br (t19) (
          let t22 := (eqI a1 3)
          br (t22) (
            κ 4)
          (
            κ 0))
        (
          κ 0))))
  (
    let t19 := (eqI a0 3)
    br (t19) (
      let t22 := (eqI a1 3)
      br (t22) (
        κ 4)
      (
        κ 0))
    (
      κ 0))
noncomputable def typ_ordered (m : Nat) (a0 : Int) (κ : Bool → Option R) : Option R :=
  let t4 := (leI 2 a0)
  br (t4) (
    let t7 := (leI a0 5)
    κ t7)
  (
    κ false)
noncomputable def num_Floor (m : Nat) (a0 : Int) (a1 : Int) (κ : Int → Bool → Option R) : Option R :=
  let t8 := (eqI a1 0)
  br (t8) (
    κ 0 false)
  (
    let t11 := (eqI a0 (-9223372036854775808))
    br (t11) (
      let t14 := (eqI a1 (-1))
      br (t14) (
        κ 0 false)
      (
        br ((!(eqI a1 0))) (
          let t19 := (wr .i64 (Int.tdiv a0 a1))
          br ((!(eqI a1 0))) (
            let t22 := (Int.tmod a0 a1)
            let t23 := (!(eqI t22 0))
            br (t23) (
              let t26 := (ltI a0 0)
              let t28 := (ltI a1 0)
              let t29 := (!(eqB t26 t28))
              br (t29) (
                let t32 := (wr .i64 (t19 - 1))
                κ t32 true)
              (
                κ t19 true))
            (
              κ t19 true)) none) none))
    (
      br ((!(eqI a1 0))) (
        let t19 := (wr .i64 (Int.tdiv a0 a1))
        br ((!(eqI a1 0))) (
          let t22 := (Int.tmod a0 a1)
          let t23 := (!(eqI t22 0))
          br (t23) (
            let t26 := (ltI a0 0)
            let t28 := (ltI a1 0)
            let t29 := (!(eqB t26 t28))
            br (t29) (
              let t32 := (wr .i64 (t19 - 1))
              κ t32 true)
            (
              κ t19 true))
          (
            κ t19 true)) none) none))
noncomputable def publicanref1_trim_S0 (m : Nat) (ρ : List Int → Bool → List Int → Bool → List Int → Option R) (e0 : List Int → Bool → List Int → Bool → List Int → Option R) (x0 : List Int) (x1 : Bool) (x2 : List Int) (x3 : Bool) (x4 : List Int) : Option R :=
  let t7 := (x0.length : Int)
  let t8 := (ltI 0 t7)
  br (t8) (
    let t12 := (x0.length : Int)
    let t13 := (wr .i64 (t12 - 1))
    br ((inB t13 x0.length)) (
      let t14 := (el6 x0 (iNat t13))
      let t16 := (eqI t14 0)
      br (t16) (
        let t20 := (x0.length : Int)
        let t21 := (wr .i64 (t20 - 1))
        br ((leI 0 t21 && Nat.ble (iNat t21) x0.length)) (
          let t22 := (cutL x0 0 (iNat t21))
          ρ t22 x1 x2 x3 x4) none)
      (
        e0 x0 x1 x2 x3 x4)) none)
  (
    e0 x0 x1 x2 x3 x4)
noncomputable def publicanref1_trim_L0 (m : Nat) : Nat → List Int → Bool → List Int → Bool → List Int → (List Int → Bool → List Int → Bool → List Int → Option R) → Option R
  | 0 => fun _ _ _ _ _ _ => none
  | j + 1 => fun x0 x1 x2 x3 x4 e0 => publicanref1_trim_S0 m (fun x0 x1 x2 x3 x4 => publicanref1_trim_L0 m j x0 x1 x2 x3 x4 e0) e0 x0 x1 x2 x3 x4
noncomputable def publicanref1_trim (m : Nat) (a0 : T_publicanref1_Big) (κ : T_publicanref1_Big → Option R) : Option R :=
  publicanref1_trim_L0 m m a0.f_D false [] a0.f_Neg a0.f_D (fun y0_0 y0_1 y0_2 y0_3 y0_4 =>
  br (y0_3) (
    let t27 := (y0_0.length : Int)
    let t28 := (ltI 0 t27)
    κ (T_publicanref1_Big.mk t28 y0_0))
  (
    κ (T_publicanref1_Big.mk false y0_0)))
noncomputable def publicanref1_less_S0 (m : Nat) (ρ : Int → List Int → List Int → Option R) (e0 : Unit → Option R) (er : Bool → Option R) (x0 : Int) (x1 : List Int) (x2 : List Int) : Option R :=
  let t20 := (leI 0 x0)
  br (t20) (
    br ((inB x0 x2.length)) (
      let t25 := (el6 x2 (iNat x0))
      br ((inB x0 x1.length)) (
        let t29 := (el6 x1 (iNat x0))
        let t31 := (!(eqI t25 t29))
        br (t31) (
          br ((inB x0 x2.length)) (
            let t34 := (el6 x2 (iNat x0))
            br ((inB x0 x1.length)) (
              let t38 := (el6 x1 (iNat x0))
              let t40 := (ltI t34 t38)
              er t40) none) none)
        (
          let t22 := (wr .i64 (x0 - 1))
          ρ t22 x1 x2)) none) none)
  (
    e0 ())
noncomputable def publicanref1_less_L0 (m : Nat) : Nat → Int → List Int → List Int → (Unit → Option R) → (Bool → Option R) → Option R
  | 0 => fun _ _ _ _ _ => none
  | j + 1 => fun x0 x1 x2 e0 er => publicanref1_less_S0 m (fun x0 x1 x2 => publicanref1_less_L0 m j x0 x1 x2 e0 er) e0 er x0 x1 x2
noncomputable def publicanref1_less (m : Nat) (a0 : List Int) (a1 : List Int) (κ : Bool → Option R) : Option R :=
  let t7 := (a0.length : Int)
  let t9 := (a1.length : Int)
  let t10 := (!(eqI t7 t9))
  br (t10) (
    let t12 := (a0.length : Int)
    let t14 := (a1.length : Int)
    let t15 := (ltI t12 t14)
    κ t15)
  (
    let t17 := (a0.length : Int)
    let t18 := (wr .i64 (t17 - 1))
    publicanref1_less_L0 m m t18 a1 a0 (fun (_ : Unit) =>
      κ false) (fun z0_0 =>
      κ z0_0))
noncomputable def publicanref1_digit (m : Nat) (a0 : List Int) (a1 : Int) (κ : Int → Option R) : Option R :=
  let t7 := (a0.length : Int)
  let t8 := (ltI a1 t7)
  br (t8) (
    br ((inB a1 a0.length)) (
      let t11 := (el6 a0 (iNat a1))
      κ t11) none)
  (
    κ 0)
noncomputable def typ_number (m : Nat) (a0 : Int) (κ : Bool → Option R) : Option R :=
  let t4 := (leI 2 a0)
  br (t4) (
    let t7 := (leI a0 4)
    κ t7)
  (
    κ false)
noncomputable def num_narrow (m : Nat) (a0 : T_num_Wide) (κ : Int → Bool → Option R) : Option R :=
  let t7 := (wr .i64 a0.f_Lo)
  let t11 := (shrI .i64 t7 63)
  let t12 := (!(eqI a0.f_Hi t11))
  br (t12) (
    κ 0 false)
  (
    κ t7 true)
noncomputable def math_bits_Len64 (m : Nat) (a0 : Int) (κ : Int → Option R) : Option R :=
  let t4 := (leI 4294967296 a0)
  br (t4) (
    let t6 := (shrI .u64 a0 32)
    let t8 := (leI 65536 t6)
    br (t8) (
      let t10 := (shrI .u64 t6 16)
      let t12 := (wr .i64 (32 + 16))
      let t14 := (leI 256 t10)
      br (t14) (
        let t16 := (shrI .u64 t10 8)
        let t18 := (wr .i64 (t12 + 8))
        let t21 := (wr .u8 t16)
        br ((inB t21 s_0_1_2_2_3_3_3_3_4_4_4_4_4_4_4_4_5_5_5_5_5_5_5_5__256_232741.length)) (
          let t22 := (byteAt s_0_1_2_2_3_3_3_3_4_4_4_4_4_4_4_4_5_5_5_5_5_5_5_5__256_232741 t21)
          let t23 := (wr .i64 t22)
          let t24 := (wr .i64 (t18 + t23))
          κ t24) none)
      (
        let t21 := (wr .u8 t10)
        br ((inB t21 s_0_1_2_2_3_3_3_3_4_4_4_4_4_4_4_4_5_5_5_5_5_5_5_5__256_232741.length)) (
          let t22 := (byteAt s_0_1_2_2_3_3_3_3_4_4_4_4_4_4_4_4_5_5_5_5_5_5_5_5__256_232741 t21)
          let t23 := (wr .i64 t22)
          let t24 := (wr .i64 (t12 + t23))
          κ t24) none))
    (
      let t14 := (leI 256 t6)
      br (t14) (
        let t16 := (shrI .u64 t6 8)
        let t18 := (wr .i64 (32 + 8))
        let t21 := (wr .u8 t16)
        br ((inB t21 s_0_1_2_2_3_3_3_3_4_4_4_4_4_4_4_4_5_5_5_5_5_5_5_5__256_232741.length)) (
          let t22 := (byteAt s_0_1_2_2_3_3_3_3_4_4_4_4_4_4_4_4_5_5_5_5_5_5_5_5__256_232741 t21)
          let t23 := (wr .i64 t22)
          let t24 := (wr .i64 (t18 + t23))
          κ t24) none)
      (
        let t21 := (wr .u8 t6)
        br ((inB t21 s_0_1_2_2_3_3_3_3_4_4_4_4_4_4_4_4_5_5_5_5_5_5_5_5__256_232741.length)) (
          let t22 := (byteAt s_0_1_2_2_3_3_3_3_4_4_4_4_4_4_4_4_5_5_5_5_5_5_5_5__256_232741 t21)
          let t23 := (wr .i64 t22)
          let t24 := (wr .i64 (32 + t23))
          κ t24) none)))
  (
    let t8 := (leI 65536 a0)
    br (t8) (
      let t10 := (shrI .u64 a0 16)
      let t12 := (wr .i64 (0 + 16))
      let t14 := (leI 256 t10)
      br (t14) (
        let t16 := (shrI .u64 t10 8)
        let t18 := (wr .i64 (t12 + 8))
        let t21 := (wr .u8 t16)
        br ((inB t21 s_0_1_2_2_3_3_3_3_4_4_4_4_4_4_4_4_5_5_5_5_5_5_5_5__256_232741.length)) (
          let t22 := (byteAt s_0_1_2_2_3_3_3_3_4_4_4_4_4_4_4_4_5_5_5_5_5_5_5_5__256_232741 t21)
          let t23 := (wr .i64 t22)
          let t24 := (wr .i64 (t18 + t23))
          κ t24) none)
      (
        let t21 := (wr .u8 t10)
        br ((inB t21 s_0_1_2_2_3_3_3_3_4_4_4_4_4_4_4_4_5_5_5_5_5_5_5_5__256_232741.length)) (
          let t22 := (byteAt s_0_1_2_2_3_3_3_3_4_4_4_4_4_4_4_4_5_5_5_5_5_5_5_5__256_232741 t21)
          let t23 := (wr .i64 t22)
          let t24 := (wr .i64 (t12 + t23))
          κ t24) none))
    (
      let t14 := (leI 256 a0)
      br (t14) (
        let t16 := (shrI .u64 a0 8)
        let t18 := (wr .i64 (0 + 8))
        let t21 := (wr .u8 t16)
        br ((inB t21 s_0_1_2_2_3_3_3_3_4_4_4_4_4_4_4_4_5_5_5_5_5_5_5_5__256_232741.length)) (
          let t22 := (byteAt s_0_1_2_2_3_3_3_3_4_4_4_4_4_4_4_4_5_5_5_5_5_5_5_5__256_232741 t21)
          let t23 := (wr .i64 t22)
          let t24 := (wr .i64 (t18 + t23))
          κ t24) none)
      (
        let t21 := (wr .u8 a0)
        br ((inB t21 s_0_1_2_2_3_3_3_3_4_4_4_4_4_4_4_4_5_5_5_5_5_5_5_5__256_232741.length)) (
          let t22 := (byteAt s_0_1_2_2_3_3_3_3_4_4_4_4_4_4_4_4_5_5_5_5_5_5_5_5__256_232741 t21)
          let t23 := (wr .i64 t22)
          let t24 := (wr .i64 (0 + t23))
          κ t24) none)))
noncomputable def math_bits_Mul64 (m : Nat) (a0 : Int) (a1 : Int) (κ : Int → Int → Option R) : Option R :=
  let t15 := (andI .u64 a0 4294967295)
  let t17 := (shrI .u64 a0 32)
  let t19 := (andI .u64 a1 4294967295)
  let t21 := (shrI .u64 a1 32)
  let t24 := (wr .u64 (t15 * t19))
  let t27 := (wr .u64 (t17 * t19))
  let t29 := (shrI .u64 t24 32)
  let t30 := (wr .u64 (t27 + t29))
  let t32 := (andI .u64 t30 4294967295)
  let t34 := (shrI .u64 t30 32)
  let t38 := (wr .u64 (t15 * t21))
  let t39 := (wr .u64 (t32 + t38))
  let t42 := (wr .u64 (t17 * t21))
  let t44 := (wr .u64 (t42 + t34))
  let t46 := (shrI .u64 t39 32)
  let t47 := (wr .u64 (t44 + t46))
  let t50 := (wr .u64 (a0 * a1))
  κ t47 t50
noncomputable def num_Of (m : Nat) (a0 : Int) (κ : T_num_Wide → Option R) : Option R :=
  let t4 := (shrI .i64 a0 63)
  let t6 := (wr .u64 a0)
  κ (T_num_Wide.mk t4 t6)
noncomputable def publicanref11_FitValue_S0 (m : Nat) (ρ : Int → Int → Int → List Int → Option R) (e0 : Unit → Option R) (er : Bool → Option R) (x0 : Int) (x1 : Int) (x2 : Int) (x3 : List Int) : Option R :=
  let t34 := (x3.length : Int)
  let t35 := (ltI x0 t34)
  br (t35) (
    br ((inB x0 x3.length)) (
      let t41 := (el0 x3 (iNat x0))
      publicanref11_Fit m 3 t41 (fun r43 =>
      let t44 := (!r43)
      br (t44) (
        er false)
      (
        let t37 := (wr .i64 (x0 + 1))
        ρ t37 x1 x2 x3))) none)
  (
    e0 ())
noncomputable def publicanref11_FitValue_L0 (m : Nat) : Nat → Int → Int → Int → List Int → (Unit → Option R) → (Bool → Option R) → Option R
  | 0 => fun _ _ _ _ _ _ => none
  | j + 1 => fun x0 x1 x2 x3 e0 er => publicanref11_FitValue_S0 m (fun x0 x1 x2 x3 => publicanref11_FitValue_L0 m j x0 x1 x2 x3 e0 er) e0 er x0 x1 x2 x3
noncomputable def publicanref11_FitValue (m : Nat) (a0 : Int) (a1 : T_api_Value) (κ : Bool → Option R) : Option R :=
  let t9 := (!(eqI a1.f_Kind a0))
  br (t9) (
    κ false)
  (
    let t11 := (!(eqI a0 6))
    br (t11) (
      let t14 := (a1.f_L.length : Int)
      let t15 := (eqI t14 0)
      br (t15) (
        publicanref11_Fit m a0 a1.f_N (fun r20 =>
        κ r20))
      (
        κ false))
    (
      let t24 := (!(eqI a1.f_N 0))
      br (t24) (
        κ false)
      (
        let t28 := (a1.f_L.length : Int)
        let t29 := (ltI 16 t28)
        br (t29) (
          κ false)
        (
          publicanref11_FitValue_L0 m m 0 a1.f_Kind a1.f_N a1.f_L (fun (_ : Unit) =>
            κ true) (fun z0_0 =>
            κ z0_0)))))
noncomputable def mean_made (m : Nat) (a0 : Int) (a1 : Int) (a2 : Bool) (κ : T_api_Value → Int → Option R) : Option R :=
  br (a2) (
    mean_Fit m a0 a1 (fun r12 =>
    br (r12) (
      κ (T_api_Value.mk a0 a1 []) 0)
    (
      let t18 := (eqI a0 5)
      br (t18) (
        κ (T_api_Value.mk 0 0 []) 12)
      (
        κ (T_api_Value.mk 0 0 []) 10))))
  (
    let t18 := (eqI a0 5)
    br (t18) (
      κ (T_api_Value.mk 0 0 []) 12)
    (
      κ (T_api_Value.mk 0 0 []) 10))
noncomputable def publicanref1_Minus (m : Nat) (a0 : T_publicanref1_Big) (κ : T_publicanref1_Big → Option R) : Option R :=
  let t5 := (!a0.f_Neg)
  publicanref1_trim m (T_publicanref1_Big.mk t5 a0.f_D) (fun r9 =>
  κ r9)
noncomputable def typ_One (m : Nat) (a0 : List UInt8) (a1 : Int) (κ : Int → Option R) : Option R :=
  let t6 := (eqL a0 snot)
  br (t6) (
    let t9 := (eqI a1 1)
    br (t9) (
      κ a1)
    (
      let t13 := (eqL a0 sneg)
      br (t13) (
        typ_number m a1 (fun r16 =>
        br (r16) (
          κ a1)
        (
          κ 0)))
      (
        κ 0)))
  (
    let t13 := (eqL a0 sneg)
    br (t13) (
      typ_number m a1 (fun r16 =>
      br (r16) (
        κ a1)
      (
        κ 0)))
    (
      κ 0))
noncomputable def typ_sum (m : Nat) (a0 : List UInt8) (a1 : Int) (a2 : Int) (κ : Int → Option R) : Option R :=
  let t10 := (eqI a1 a2)
  br (t10) (
    typ_number m a1 (fun r13 =>
    br (r13) (
      κ a1)
    (
      let t18 := (eqI a1 5)
      br (t18) (
        let t21 := (eqI a2 2)
        br (t21) (
          κ 5)
        (
          let t25 := (eqI a1 5)
          br (t25) (
            let t28 := (eqI a2 5)
            br (t28) (
              let t32 := (eqL a0 s_45)
              br (t32) (
                κ 2)
              (
                κ 0))
            (
              κ 0))
          (
            κ 0)))
      (
        let t25 := (eqI a1 5)
        br (t25) (
          let t28 := (eqI a2 5)
          br (t28) (
            let t32 := (eqL a0 s_45)
            br (t32) (
              κ 2)
            (
              κ 0))
          (
            κ 0))
        (
          κ 0)))))
  (
    let t18 := (eqI a1 5)
    br (t18) (
      let t21 := (eqI a2 2)
      br (t21) (
        κ 5)
      (
        let t25 := (eqI a1 5)
        br (t25) (
          let t28 := (eqI a2 5)
          br (t28) (
            let t32 := (eqL a0 s_45)
            br (t32) (
              κ 2)
            (
              κ 0))
          (
            κ 0))
        (
          κ 0)))
    (
      let t25 := (eqI a1 5)
      br (t25) (
        let t28 := (eqI a2 5)
        br (t28) (
          let t32 := (eqL a0 s_45)
          br (t32) (
            κ 2)
          (
            κ 0))
        (
          κ 0))
      (
        κ 0)))
noncomputable def typ_product (m : Nat) (a0 : Int) (a1 : Int) (κ : Int → Option R) : Option R :=
  let t7 := (ltI a1 a0)
  br (t7) (
    let t12 := (eqI a1 2)
    br (t12) (
      typ_number m a0 (fun r15 =>
      br (r15) (
        κ a0)
      (
        let t20 := (eqI a1 3)
        br (t20) (
          let t23 := (eqI a0 4)
          br (t23) (
            κ 3)
          (
            κ 0))
        (
          κ 0))))
    (
      let t20 := (eqI a1 3)
      br (t20) (
        let t23 := (eqI a0 4)
        br (t23) (
          κ 3)
        (
          κ 0))
      (
        κ 0)))
  (
    let t12 := (eqI a0 2)
    br (t12) (
      typ_number m a1 (fun r15 =>
      br (r15) (
        κ a1)
      (
        let t20 := (eqI a0 3)
        br (t20) (
          let t23 := (eqI a1 4)
          br (t23) (
            κ 3)
          (
            κ 0))
        (
          κ 0))))
    (
      let t20 := (eqI a0 3)
      br (t20) (
        let t23 := (eqI a1 4)
        br (t23) (
          κ 3)
        (
          κ 0))
      (
        κ 0)))
noncomputable def publicanref1_U_S0 (m : Nat) (ρ : Int → Bool → List Int → Bool → List Int → Option R) (e0 : Bool → Bool → List Int → List Int → Option R) (x0 : Int) (x1 : Bool) (x2 : List Int) (x3 : Bool) (x4 : List Int) : Option R :=
  let t7 := (ltI 0 x0)
  br (t7) (
    let t10 := (andI .u64 x0 65535)
    br ((okAp 8 (x2.length + [t10].length))) (
      let t14 := (shrI .u64 x0 16)
      ρ t14 x1 (x2 ++ [t10]) x3 x4) none)
  (
    e0 x1 x3 x4 x2)
noncomputable def publicanref1_U_L0 (m : Nat) : Nat → Int → Bool → List Int → Bool → List Int → (Bool → Bool → List Int → List Int → Option R) → Option R
  | 0 => fun _ _ _ _ _ _ => none
  | j + 1 => fun x0 x1 x2 x3 x4 e0 => publicanref1_U_S0 m (fun x0 x1 x2 x3 x4 => publicanref1_U_L0 m j x0 x1 x2 x3 x4 e0) e0 x0 x1 x2 x3 x4
noncomputable def publicanref1_U (m : Nat) (a0 : Int) (a1 : Bool) (κ : T_publicanref1_Big → Option R) : Option R :=
  publicanref1_U_L0 m m a0 a1 [] false [] (fun y0_0 y0_1 y0_2 y0_3 =>
  publicanref1_trim m (T_publicanref1_Big.mk y0_0 y0_3) (fun r18 =>
  κ r18))
noncomputable def num_product (m : Nat) (a0 : Int) (a1 : Int) (κ : T_num_Wide → Option R) : Option R :=
  let t10 := (wr .u64 a0)
  let t12 := (wr .u64 a1)
  math_bits_Mul64 m t10 t12 (fun r13_0 r13_1 =>
  let t17 := (wr .i64 r13_0)
  let t19 := (ltI a0 0)
  br (t19) (
    let t22 := (wr .i64 (t17 - a1))
    let t24 := (ltI a1 0)
    br (t24) (
      let t27 := (wr .i64 (t22 - a0))
      κ (T_num_Wide.mk t27 r13_1))
    (
      κ (T_num_Wide.mk t22 r13_1)))
  (
    let t24 := (ltI a1 0)
    br (t24) (
      let t27 := (wr .i64 (t17 - a0))
      κ (T_num_Wide.mk t27 r13_1))
    (
      κ (T_num_Wide.mk t17 r13_1))))
noncomputable def num_Wide_turned (m : Nat) (a0 : T_num_Wide) (κ : T_num_Wide → Option R) : Option R :=
  math_bits_Sub64 m 0 a0.f_Lo 0 (fun r10_0 r10_1 =>
  let t16 := (wr .u64 a0.f_Hi)
  math_bits_Sub64 m 0 t16 r10_1 (fun r18_0 r18_1 =>
  let t22 := (wr .i64 r18_0)
  κ (T_num_Wide.mk t22 r10_0)))
noncomputable def num_Wide_Plus (m : Nat) (a0 : T_num_Wide) (a1 : T_num_Wide) (κ : T_num_Wide → Bool → Option R) : Option R :=
  math_bits_Add64 m a0.f_Lo a1.f_Lo 0 (fun r16_0 r16_1 =>
  let t22 := (wr .u64 a0.f_Hi)
  let t25 := (wr .u64 a1.f_Hi)
  math_bits_Add64 m t22 t25 r16_1 (fun r27_0 r27_1 =>
  let t31 := (wr .i64 r27_0)
  let t36 := (ltI a0.f_Hi 0)
  let t39 := (ltI a1.f_Hi 0)
  let t40 := (eqB t36 t39)
  br (t40) (
    let t44 := (ltI t31 0)
    let t47 := (ltI a0.f_Hi 0)
    let t48 := (!(eqB t44 t47))
    br (t48) (
      κ (T_num_Wide.mk 0 0) false)
    (
      κ (T_num_Wide.mk t31 r16_0) true))
  (
    κ (T_num_Wide.mk t31 r16_0) true)))
noncomputable def math_bits_LeadingZeros64 (m : Nat) (a0 : Int) (κ : Int → Option R) : Option R :=
  math_bits_Len64 m a0 (fun r4 =>
  let t5 := (wr .i64 (64 - r4))
  κ t5)
noncomputable def publicanref1_Of (m : Nat) (a0 : Int) (κ : T_publicanref1_Big → Option R) : Option R :=
  let t5 := (wr .u64 a0)
  let t7 := (ltI a0 0)
  br (t7) (
    let t9 := (wr .u64 (0 - t5))
    let t12 := (ltI a0 0)
    publicanref1_U m t9 t12 (fun r13 =>
    κ r13))
  (
    let t12 := (ltI a0 0)
    publicanref1_U m t5 t12 (fun r13 =>
    κ r13))
noncomputable def publicanref1_Mul_S0_0 (m : Nat) (ρ : Int → Int → Int → List Int → Bool → List Int → Bool → List Int → Bool → List Int → Option R) (e2 : Int → List Int → Bool → List Int → Bool → List Int → Bool → List Int → Option R) (x0 : Int) (x1 : Int) (x2 : Int) (x3 : List Int) (x4 : Bool) (x5 : List Int) (x6 : Bool) (x7 : List Int) (x8 : Bool) (x9 : List Int) : Option R :=
  let t29 := (x5.length : Int)
  let t30 := (ltI x0 t29)
  br (t30) (
    let t40 := (wr .i64 (x1 + x0))
    br ((inB t40 x3.length)) (
      let t42 := (el6 x3 (iNat t40))
      br ((inB x1 x7.length)) (
        let t46 := (el6 x7 (iNat x1))
        publicanref1_digit m x5 x0 (fun r51 =>
        let t52 := (wr .u64 (t46 * r51))
        let t53 := (wr .u64 (t42 + t52))
        let t55 := (wr .u64 (t53 + x2))
        let t59 := (wr .i64 (x1 + x0))
        let t61 := (andI .u64 t55 65535)
        br ((inB t59 x3.length)) (
          let t64 := (shrI .u64 t55 16)
          let t36 := (wr .i64 (x0 + 1))
          ρ t36 x1 t64 (x3.set (iNat t59) t61) x4 x5 x6 x7 x8 x9) none)) none) none)
  (
    let t33 := (ltI 0 x2)
    br (t33) (
      let t40 := (wr .i64 (x1 + x0))
      br ((inB t40 x3.length)) (
        let t42 := (el6 x3 (iNat t40))
        br ((inB x1 x7.length)) (
          let t46 := (el6 x7 (iNat x1))
          publicanref1_digit m x5 x0 (fun r51 =>
          let t52 := (wr .u64 (t46 * r51))
          let t53 := (wr .u64 (t42 + t52))
          let t55 := (wr .u64 (t53 + x2))
          let t59 := (wr .i64 (x1 + x0))
          let t61 := (andI .u64 t55 65535)
          br ((inB t59 x3.length)) (
            let t64 := (shrI .u64 t55 16)
            let t36 := (wr .i64 (x0 + 1))
            ρ t36 x1 t64 (x3.set (iNat t59) t61) x4 x5 x6 x7 x8 x9) none)) none) none)
    (
      e2 x1 x3 x4 x5 x6 x7 x8 x9))
noncomputable def publicanref1_Mul_L0_0 (m : Nat) : Nat → Int → Int → Int → List Int → Bool → List Int → Bool → List Int → Bool → List Int → (Int → List Int → Bool → List Int → Bool → List Int → Bool → List Int → Option R) → Option R
  | 0 => fun _ _ _ _ _ _ _ _ _ _ _ => none
  | j + 1 => fun x0 x1 x2 x3 x4 x5 x6 x7 x8 x9 e2 => publicanref1_Mul_S0_0 m (fun x0 x1 x2 x3 x4 x5 x6 x7 x8 x9 => publicanref1_Mul_L0_0 m j x0 x1 x2 x3 x4 x5 x6 x7 x8 x9 e2) e2 x0 x1 x2 x3 x4 x5 x6 x7 x8 x9
noncomputable def publicanref1_Mul_S0 (m : Nat) (ρ : Int → List Int → Bool → List Int → Bool → List Int → Bool → List Int → Option R) (e0 : Bool → List Int → List Int → Bool → List Int → Bool → List Int → Option R) (x0 : Int) (x1 : List Int) (x2 : Bool) (x3 : List Int) (x4 : Bool) (x5 : List Int) (x6 : Bool) (x7 : List Int) : Option R :=
  let t22 := (x5.length : Int)
  let t23 := (ltI x0 t22)
  br (t23) (
    publicanref1_Mul_L0_0 m m 0 x0 0 x1 x2 x3 x4 x5 x6 x7 (fun y0_0_0 y0_0_1 y0_0_2 y0_0_3 y0_0_4 y0_0_5 y0_0_6 y0_0_7 =>
    let t25 := (wr .i64 (y0_0_0 + 1))
    ρ t25 y0_0_1 y0_0_2 y0_0_3 y0_0_4 y0_0_5 y0_0_6 y0_0_7))
  (
    e0 x6 x7 x1 x2 x3 x4 x5)
noncomputable def publicanref1_Mul_L0 (m : Nat) : Nat → Int → List Int → Bool → List Int → Bool → List Int → Bool → List Int → (Bool → List Int → List Int → Bool → List Int → Bool → List Int → Option R) → Option R
  | 0 => fun _ _ _ _ _ _ _ _ _ => none
  | j + 1 => fun x0 x1 x2 x3 x4 x5 x6 x7 e0 => publicanref1_Mul_S0 m (fun x0 x1 x2 x3 x4 x5 x6 x7 => publicanref1_Mul_L0 m j x0 x1 x2 x3 x4 x5 x6 x7 e0) e0 x0 x1 x2 x3 x4 x5 x6 x7
noncomputable def publicanref1_Mul (m : Nat) (a0 : T_publicanref1_Big) (a1 : T_publicanref1_Big) (κ : T_publicanref1_Big → Option R) : Option R :=
  let t12 := (a0.f_D.length : Int)
  let t15 := (a1.f_D.length : Int)
  let t16 := (wr .i64 (t12 + t15))
  let t17 := (wr .i64 (t16 + 1))
  br ((okMake t17 t17 8)) (
    publicanref1_Mul_L0 m m 0 (List.replicate (iNat t17) 0) a1.f_Neg a1.f_D a0.f_Neg a0.f_D false [] (fun y0_0 y0_1 y0_2 y0_3 y0_4 y0_5 y0_6 =>
    let t69 := (!(eqB y0_5 y0_3))
    publicanref1_trim m (T_publicanref1_Big.mk t69 y0_2) (fun r72 =>
    κ r72))) none
noncomputable def math_bits_Div64_S1 (m : Nat) (ρ : Int → Int → Int → Int → Int → Int → Int → Int → Int → Option R) (e2 : Int → Int → Int → Int → Int → Int → Option R) (x0 : Int) (x1 : Int) (x2 : Int) (x3 : Int) (x4 : Int) (x5 : Int) (x6 : Int) (x7 : Int) (x8 : Int) : Option R :=
  let t103 := (leI 4294967296 x7)
  br (t103) (
    let t115 := (wr .u64 (x7 - 1))
    let t118 := (wr .u64 (x6 + x5))
    let t120 := (leI 4294967296 t118)
    br (t120) (
      e2 x0 x1 t115 x2 x3 x4)
    (
      ρ x0 x1 x2 x3 x4 x5 t118 t115 x8))
  (
    let t107 := (wr .u64 (x7 * x8))
    let t109 := (wr .u64 (4294967296 * x6))
    let t111 := (wr .u64 (t109 + x2))
    let t112 := (ltI t111 t107)
    br (t112) (
      let t115 := (wr .u64 (x7 - 1))
      let t118 := (wr .u64 (x6 + x5))
      let t120 := (leI 4294967296 t118)
      br (t120) (
        e2 x0 x1 t115 x2 x3 x4)
      (
        ρ x0 x1 x2 x3 x4 x5 t118 t115 x8))
    (
      e2 x0 x1 x7 x2 x3 x4))
noncomputable def math_bits_Div64_L1 (m : Nat) : Nat → Int → Int → Int → Int → Int → Int → Int → Int → Int → (Int → Int → Int → Int → Int → Int → Option R) → Option R
  | 0 => fun _ _ _ _ _ _ _ _ _ _ => none
  | j + 1 => fun x0 x1 x2 x3 x4 x5 x6 x7 x8 e2 => math_bits_Div64_S1 m (fun x0 x1 x2 x3 x4 x5 x6 x7 x8 => math_bits_Div64_L1 m j x0 x1 x2 x3 x4 x5 x6 x7 x8 e2) e2 x0 x1 x2 x3 x4 x5 x6 x7 x8
noncomputable def math_bits_Div64_S0 (m : Nat) (ρ : Int → Int → Int → Int → Int → Int → Int → Int → Int → Option R) (e0 : Int → Int → Int → Int → Int → Int → Int → Int → Option R) (x0 : Int) (x1 : Int) (x2 : Int) (x3 : Int) (x4 : Int) (x5 : Int) (x6 : Int) (x7 : Int) (x8 : Int) : Option R :=
  let t68 := (leI 4294967296 x8)
  br (t68) (
    let t80 := (wr .u64 (x8 - 1))
    let t83 := (wr .u64 (x7 + x3))
    let t85 := (leI 4294967296 t83)
    br (t85) (
      e0 x0 x1 x2 t80 x3 x4 x5 x6)
    (
      ρ x0 x1 x2 x3 x4 x5 x6 t83 t80))
  (
    let t72 := (wr .u64 (x8 * x4))
    let t74 := (wr .u64 (4294967296 * x7))
    let t76 := (wr .u64 (t74 + x5))
    let t77 := (ltI t76 t72)
    br (t77) (
      let t80 := (wr .u64 (x8 - 1))
      let t83 := (wr .u64 (x7 + x3))
      let t85 := (leI 4294967296 t83)
      br (t85) (
        e0 x0 x1 x2 t80 x3 x4 x5 x6)
      (
        ρ x0 x1 x2 x3 x4 x5 x6 t83 t80))
    (
      e0 x0 x1 x2 x8 x3 x4 x5 x6))
noncomputable def math_bits_Div64_L0 (m : Nat) : Nat → Int → Int → Int → Int → Int → Int → Int → Int → Int → (Int → Int → Int → Int → Int → Int → Int → Int → Option R) → Option R
  | 0 => fun _ _ _ _ _ _ _ _ _ _ => none
  | j + 1 => fun x0 x1 x2 x3 x4 x5 x6 x7 x8 e0 => math_bits_Div64_S0 m (fun x0 x1 x2 x3 x4 x5 x6 x7 x8 => math_bits_Div64_L0 m j x0 x1 x2 x3 x4 x5 x6 x7 x8 e0) e0 x0 x1 x2 x3 x4 x5 x6 x7 x8
noncomputable def math_bits_Div64 (m : Nat) (a0 : Int) (a1 : Int) (a2 : Int) (κ : Int → Int → Option R) : Option R :=
  let t20 := (eqI a2 0)
  br (t20) (
    none)
  (
    let t24 := (leI a2 a0)
    br (t24) (
      none)
    (
      let t27 := (eqI a0 0)
      br (t27) (
        br ((!(eqI a2 0))) (
          let t30 := (wr .u64 (Int.tdiv a1 a2))
          br ((!(eqI a2 0))) (
            let t33 := (Int.tmod a1 a2)
            κ t30 t33) none) none)
      (
        math_bits_LeadingZeros64 m a2 (fun r35 =>
        let t36 := (wr .u64 r35)
        br ((leI 0 t36)) (
          let t39 := (shlI .u64 a2 t36)
          let t41 := (shrI .u64 t39 32)
          let t43 := (andI .u64 t39 4294967295)
          br ((leI 0 t36)) (
            let t46 := (shlI .u64 a0 t36)
            let t49 := (wr .u64 (64 - t36))
            br ((leI 0 t49)) (
              let t50 := (shrI .u64 a1 t49)
              let t51 := (orI .u64 t46 t50)
              br ((leI 0 t36)) (
                let t54 := (shlI .u64 a1 t36)
                let t56 := (shrI .u64 t54 32)
                let t58 := (andI .u64 t54 4294967295)
                br ((!(eqI t41 0))) (
                  let t61 := (wr .u64 (Int.tdiv t51 t41))
                  let t65 := (wr .u64 (t61 * t41))
                  let t66 := (wr .u64 (t51 - t65))
                  math_bits_Div64_L0 m m t36 t39 t58 t41 t43 t56 t51 t66 t61 (fun y0_0 y0_1 y0_2 y0_3 y0_4 y0_5 y0_6 y0_7 =>
                  let t87 := (wr .u64 (y0_7 * 4294967296))
                  let t89 := (wr .u64 (t87 + y0_6))
                  let t92 := (wr .u64 (y0_3 * y0_1))
                  let t93 := (wr .u64 (t89 - t92))
                  br ((!(eqI y0_4 0))) (
                    let t96 := (wr .u64 (Int.tdiv t93 y0_4))
                    let t100 := (wr .u64 (t96 * y0_4))
                    let t101 := (wr .u64 (t93 - t100))
                    math_bits_Div64_L1 m m y0_0 y0_1 y0_2 t93 y0_3 y0_4 t101 t96 y0_5 (fun y1_0 y1_1 y1_2 y1_3 y1_4 y1_5 =>
                    let t122 := (wr .u64 (y1_5 * 4294967296))
                    let t124 := (wr .u64 (t122 + y1_2))
                    let t126 := (wr .u64 (y1_4 * 4294967296))
                    let t128 := (wr .u64 (t126 + y1_3))
                    let t131 := (wr .u64 (y1_2 * y1_1))
                    let t132 := (wr .u64 (t128 - t131))
                    br ((leI 0 y1_0)) (
                      let t134 := (shrI .u64 t132 y1_0)
                      κ t124 t134) none)) none)) none) none) none) none) none))))
noncomputable def publicanref1_Add_S1 (m : Nat) (ρ : Int → Int → List Int → Bool → List Int → Bool → List Int → Bool → List Int → Option R) (e2 : Bool → List Int → List Int → Bool → List Int → Option R) (x0 : Int) (x1 : Int) (x2 : List Int) (x3 : Bool) (x4 : List Int) (x5 : Bool) (x6 : List Int) (x7 : Bool) (x8 : List Int) : Option R :=
  let t61 := (x6.length : Int)
  let t62 := (ltI x0 t61)
  br (t62) (
    publicanref1_digit m x6 x0 (fun r79 =>
    publicanref1_digit m x4 x0 (fun r83 =>
    let t84 := (wr .u64 (r79 + r83))
    let t86 := (wr .u64 (t84 + x1))
    let t89 := (andI .u64 t86 65535)
    br ((okAp 8 (x2.length + [t89].length))) (
      let t93 := (shrI .u64 t86 16)
      let t75 := (wr .i64 (x0 + 1))
      ρ t75 t93 (x2 ++ [t89]) x3 x4 x5 x6 x7 x8) none)))
  (
    let t67 := (x4.length : Int)
    let t68 := (ltI x0 t67)
    br (t68) (
      publicanref1_digit m x6 x0 (fun r79 =>
      publicanref1_digit m x4 x0 (fun r83 =>
      let t84 := (wr .u64 (r79 + r83))
      let t86 := (wr .u64 (t84 + x1))
      let t89 := (andI .u64 t86 65535)
      br ((okAp 8 (x2.length + [t89].length))) (
        let t93 := (shrI .u64 t86 16)
        let t75 := (wr .i64 (x0 + 1))
        ρ t75 t93 (x2 ++ [t89]) x3 x4 x5 x6 x7 x8) none)))
    (
      let t72 := (ltI 0 x1)
      br (t72) (
        publicanref1_digit m x6 x0 (fun r79 =>
        publicanref1_digit m x4 x0 (fun r83 =>
        let t84 := (wr .u64 (r79 + r83))
        let t86 := (wr .u64 (t84 + x1))
        let t89 := (andI .u64 t86 65535)
        br ((okAp 8 (x2.length + [t89].length))) (
          let t93 := (shrI .u64 t86 16)
          let t75 := (wr .i64 (x0 + 1))
          ρ t75 t93 (x2 ++ [t89]) x3 x4 x5 x6 x7 x8) none)))
      (
        e2 x7 x8 x2 x5 x6)))
noncomputable def publicanref1_Add_L1 (m : Nat) : Nat → Int → Int → List Int → Bool → List Int → Bool → List Int → Bool → List Int → (Bool → List Int → List Int → Bool → List Int → Option R) → Option R
  | 0 => fun _ _ _ _ _ _ _ _ _ _ => none
  | j + 1 => fun x0 x1 x2 x3 x4 x5 x6 x7 x8 e2 => publicanref1_Add_S1 m (fun x0 x1 x2 x3 x4 x5 x6 x7 x8 => publicanref1_Add_L1 m j x0 x1 x2 x3 x4 x5 x6 x7 x8 e2) e2 x0 x1 x2 x3 x4 x5 x6 x7 x8
noncomputable def publicanref1_Add_S0 (m : Nat) (ρ : Int → Int → List Int → Bool → List Int → Bool → List Int → Bool → List Int → Option R) (e0 : Bool → List Int → List Int → Bool → List Int → Option R) (x0 : Int) (x1 : Int) (x2 : List Int) (x3 : Bool) (x4 : List Int) (x5 : Bool) (x6 : List Int) (x7 : Bool) (x8 : List Int) : Option R :=
  let t28 := (x6.length : Int)
  let t29 := (ltI x0 t28)
  br (t29) (
    br ((inB x0 x6.length)) (
      let t35 := (el6 x6 (iNat x0))
      let t37 := (wr .u64 (t35 + 65536))
      publicanref1_digit m x4 x0 (fun r41 =>
      let t42 := (wr .u64 (t37 - r41))
      let t44 := (wr .u64 (t42 - x1))
      let t47 := (andI .u64 t44 65535)
      br ((okAp 8 (x2.length + [t47].length))) (
        let t51 := (shrI .u64 t44 16)
        let t52 := (wr .u64 (1 - t51))
        let t31 := (wr .i64 (x0 + 1))
        ρ t31 t52 (x2 ++ [t47]) x3 x4 x5 x6 x7 x8) none)) none)
  (
    e0 x7 x8 x2 x5 x6)
noncomputable def publicanref1_Add_L0 (m : Nat) : Nat → Int → Int → List Int → Bool → List Int → Bool → List Int → Bool → List Int → (Bool → List Int → List Int → Bool → List Int → Option R) → Option R
  | 0 => fun _ _ _ _ _ _ _ _ _ _ => none
  | j + 1 => fun x0 x1 x2 x3 x4 x5 x6 x7 x8 e0 => publicanref1_Add_S0 m (fun x0 x1 x2 x3 x4 x5 x6 x7 x8 => publicanref1_Add_L0 m j x0 x1 x2 x3 x4 x5 x6 x7 x8 e0) e0 x0 x1 x2 x3 x4 x5 x6 x7 x8
noncomputable def publicanref1_Add (m : Nat) (a0 : T_publicanref1_Big) (a1 : T_publicanref1_Big) (κ : T_publicanref1_Big → Option R) : Option R :=
  let t17 := (!(eqB a0.f_Neg a1.f_Neg))
  br (t17) (
    publicanref1_less m a0.f_D a1.f_D (fun r22 =>
    br (r22) (
      publicanref1_Add_L0 m m 0 0 [] a0.f_Neg a0.f_D a1.f_Neg a1.f_D false [] (fun y0_0 y0_1 y0_2 y0_3 y0_4 =>
      publicanref1_trim m (T_publicanref1_Big.mk y0_3 y0_2) (fun r57 =>
      κ r57)))
    (
      publicanref1_Add_L0 m m 0 0 [] a1.f_Neg a1.f_D a0.f_Neg a0.f_D false [] (fun y0_0 y0_1 y0_2 y0_3 y0_4 =>
      publicanref1_trim m (T_publicanref1_Big.mk y0_3 y0_2) (fun r57 =>
      κ r57)))))
  (
    publicanref1_Add_L1 m m 0 0 [] a1.f_Neg a1.f_D a0.f_Neg a0.f_D false [] (fun y1_0 y1_1 y1_2 y1_3 y1_4 =>
    publicanref1_trim m (T_publicanref1_Big.mk y1_3 y1_2) (fun r98 =>
    κ r98)))
noncomputable def num_Mul (m : Nat) (a0 : Int) (a1 : Int) (κ : Int → Bool → Option R) : Option R :=
  num_product m a0 a1 (fun r8 =>
  num_narrow m r8 (fun r9_0 r9_1 =>
  κ r9_0 r9_1))
noncomputable def typ_Two (m : Nat) (a0 : List UInt8) (a1 : Int) (a2 : Int) (κ : Int → Option R) : Option R :=
  let t9 := (eqL a0 s_43)
  br (t9) (
    typ_sum m a0 a1 a2 (fun r14 =>
    κ r14))
  (
    let t10 := (eqL a0 s_45)
    br (t10) (
      typ_sum m a0 a1 a2 (fun r14 =>
      κ r14))
    (
      let t16 := (eqL a0 s_42)
      br (t16) (
        typ_product m a1 a2 (fun r19 =>
        κ r19))
      (
        let t21 := (eqL a0 s_47)
        br (t21) (
          typ_quotient m a1 a2 (fun r24 =>
          κ r24))
        (
          let t26 := (eqL a0 s_60)
          br (t26) (
            let t32 := (eqI a1 a2)
            br (t32) (
              typ_ordered m a1 (fun r35 =>
              br (r35) (
                κ 1)
              (
                κ 0)))
            (
              κ 0))
          (
            let t27 := (eqL a0 s_60_61)
            br (t27) (
              let t32 := (eqI a1 a2)
              br (t32) (
                typ_ordered m a1 (fun r35 =>
                br (r35) (
                  κ 1)
                (
                  κ 0)))
              (
                κ 0))
            (
              let t28 := (eqL a0 s_62)
              br (t28) (
                let t32 := (eqI a1 a2)
                br (t32) (
                  typ_ordered m a1 (fun r35 =>
                  br (r35) (
                    κ 1)
                  (
                    κ 0)))
                (
                  κ 0))
              (
                let t29 := (eqL a0 s_62_61)
                br (t29) (
                  let t32 := (eqI a1 a2)
                  br (t32) (
                    typ_ordered m a1 (fun r35 =>
                    br (r35) (
                      κ 1)
                    (
                      κ 0)))
                  (
                    κ 0))
                (
                  let t38 := (eqL a0 s_61_61)
                  br (t38) (
                    let t42 := (eqI a1 a2)
                    br (t42) (
                      typ_ordered m a1 (fun r45 =>
                      br (r45) (
                        κ 1)
                      (
                        let t48 := (eqI a1 1)
                        br (t48) (
                          κ 1)
                        (
                          κ 0))))
                    (
                      κ 0))
                  (
                    let t39 := (eqL a0 s_33_61)
                    br (t39) (
                      let t42 := (eqI a1 a2)
                      br (t42) (
                        typ_ordered m a1 (fun r45 =>
                        br (r45) (
                          κ 1)
                        (
                          let t48 := (eqI a1 1)
                          br (t48) (
                            κ 1)
                          (
                            κ 0))))
                      (
                        κ 0))
                    (
                      let t52 := (eqL a0 sand)
                      br (t52) (
                        let t55 := (eqI a1 1)
                        br (t55) (
                          let t58 := (eqI a2 1)
                          br (t58) (
                            κ 1)
                          (
                            κ 0))
                        (
                          κ 0))
                      (
                        let t53 := (eqL a0 sor)
                        br (t53) (
                          let t55 := (eqI a1 1)
                          br (t55) (
                            let t58 := (eqI a2 1)
                            br (t58) (
                              κ 1)
                            (
                              κ 0))
                          (
                            κ 0))
                        (
                          let t61 := (eqL a0 smin)
                          br (t61) (
                            let t65 := (eqI a1 a2)
                            br (t65) (
                              typ_ordered m a1 (fun r68 =>
                              br (r68) (
                                κ a1)
                              (
                                κ 0)))
                            (
                              κ 0))
                          (
                            let t62 := (eqL a0 smax)
                            br (t62) (
                              let t65 := (eqI a1 a2)
                              br (t65) (
                                typ_ordered m a1 (fun r68 =>
                                br (r68) (
                                  κ a1)
                                (
                                  κ 0)))
                              (
                                κ 0))
                            (
                              κ 0))))))))))))))
noncomputable def publicanref1_Cmp (m : Nat) (a0 : T_publicanref1_Big) (a1 : T_publicanref1_Big) (κ : Int → Option R) : Option R :=
  publicanref1_Minus m a1 (fun r8 =>
  publicanref1_Add m a0 r8 (fun r9 =>
  let t12 := (r9.f_D.length : Int)
  let t13 := (eqI t12 0)
  br (t13) (
    κ 0)
  (
    br (r9.f_Neg) (
      κ (-1))
    (
      κ 1))))
noncomputable def mean_one (m : Nat) (a0 : List UInt8) (a1 : T_api_Value) (κ : T_api_Value → Int → Option R) : Option R :=
  typ_One m a0 a1.f_Kind (fun r12 =>
  let t14 := (eqI r12 0)
  br (t14) (
    κ (T_api_Value.mk 0 0 []) 8)
  (
    let t17 := (eqL a0 snot)
    br (t17) (
      let t20 := (eqI a1.f_N 0)
      mean_truth m t20 (fun r21_0 r21_1 =>
      κ r21_0 r21_1))
    (
      num_Sub m 0 a1.f_N (fun r27_0 r27_1 =>
      mean_made m r12 r27_0 r27_1 (fun r33_0 r33_1 =>
      κ r33_0 r33_1)))))
noncomputable def publicanref1_Floor_S0_0 (m : Nat) (ρ : Int → List Int → Bool → List Int → Bool → List Int → Bool → List Int → Bool → List Int → Option R) (e2 : Int → List Int → Bool → List Int → Bool → List Int → Bool → List Int → Bool → List Int → Option R) (x0 : Int) (x1 : List Int) (x2 : Bool) (x3 : List Int) (x4 : Bool) (x5 : List Int) (x6 : Bool) (x7 : List Int) (x8 : Bool) (x9 : List Int) : Option R :=
  let t38 := (x1.length : Int)
  let t40 := (wr .i64 (Int.tdiv x0 16))
  let t41 := (leI t38 t40)
  br (t41) (
    br ((okAp 8 (x1.length + [0].length))) (
      ρ x0 (x1 ++ [0]) x2 x3 x4 x5 x6 x7 x8 x9) none)
  (
    e2 x0 x1 x2 x3 x4 x5 x6 x7 x8 x9)
noncomputable def publicanref1_Floor_L0_0 (m : Nat) : Nat → Int → List Int → Bool → List Int → Bool → List Int → Bool → List Int → Bool → List Int → (Int → List Int → Bool → List Int → Bool → List Int → Bool → List Int → Bool → List Int → Option R) → Option R
  | 0 => fun _ _ _ _ _ _ _ _ _ _ _ => none
  | j + 1 => fun x0 x1 x2 x3 x4 x5 x6 x7 x8 x9 e2 => publicanref1_Floor_S0_0 m (fun x0 x1 x2 x3 x4 x5 x6 x7 x8 x9 => publicanref1_Floor_L0_0 m j x0 x1 x2 x3 x4 x5 x6 x7 x8 x9 e2) e2 x0 x1 x2 x3 x4 x5 x6 x7 x8 x9
noncomputable def publicanref1_Floor_S0 (m : Nat) (ρ : Int → List Int → Bool → List Int → Bool → List Int → Bool → List Int → Bool → List Int → Option R) (e0 : Bool → List Int → Bool → List Int → Bool → List Int → Bool → List Int → List Int → Option R) (x0 : Int) (x1 : List Int) (x2 : Bool) (x3 : List Int) (x4 : Bool) (x5 : List Int) (x6 : Bool) (x7 : List Int) (x8 : Bool) (x9 : List Int) : Option R :=
  let t16 := (leI 0 x0)
  br (t16) (
    publicanref1_Add m (T_publicanref1_Big.mk x2 x3) (T_publicanref1_Big.mk x2 x3) (fun r21 =>
    let t25 := (wr .i64 (Int.tdiv x0 16))
    br ((inB t25 x7.length)) (
      let t26 := (el6 x7 (iNat t25))
      let t29 := (Int.tmod x0 16)
      let t30 := (wr .u64 t29)
      br ((leI 0 t30)) (
        let t31 := (shrI .u64 t26 t30)
        let t32 := (andI .u64 t31 1)
        let t33 := (eqI t32 1)
        br (t33) (
          publicanref1_Of m 1 (fun r35 =>
          publicanref1_Add m r21 r35 (fun r36 =>
          publicanref1_Floor_L0_0 m m x0 x1 r36.f_Neg r36.f_D x4 x5 x6 x7 x8 x9 (fun y0_0_0 y0_0_1 y0_0_2 y0_0_3 y0_0_4 y0_0_5 y0_0_6 y0_0_7 y0_0_8 y0_0_9 =>
          publicanref1_less m y0_0_3 y0_0_5 (fun r49 =>
          let t50 := (!r49)
          br (t50) (
            publicanref1_Add m (T_publicanref1_Big.mk y0_0_2 y0_0_3) (T_publicanref1_Big.mk true y0_0_5) (fun r55 =>
            let t58 := (wr .i64 (Int.tdiv y0_0_0 16))
            let t61 := (wr .i64 (Int.tdiv y0_0_0 16))
            br ((inB t61 y0_0_1.length)) (
              let t63 := (el6 y0_0_1 (iNat t61))
              let t65 := (Int.tmod y0_0_0 16)
              let t66 := (wr .u64 t65)
              br ((leI 0 t66)) (
                let t67 := (shlI .u64 1 t66)
                let t68 := (orI .u64 t63 t67)
                br ((inB t58 y0_0_1.length)) (
                  let t18 := (wr .i64 (y0_0_0 - 1))
                  ρ t18 (y0_0_1.set (iNat t58) t68) r55.f_Neg r55.f_D y0_0_4 y0_0_5 y0_0_6 y0_0_7 y0_0_8 y0_0_9) none) none) none))
          (
            let t18 := (wr .i64 (y0_0_0 - 1))
            ρ t18 y0_0_1 y0_0_2 y0_0_3 y0_0_4 y0_0_5 y0_0_6 y0_0_7 y0_0_8 y0_0_9))))))
        (
          publicanref1_Floor_L0_0 m m x0 x1 r21.f_Neg r21.f_D x4 x5 x6 x7 x8 x9 (fun y0_0_0 y0_0_1 y0_0_2 y0_0_3 y0_0_4 y0_0_5 y0_0_6 y0_0_7 y0_0_8 y0_0_9 =>
          publicanref1_less m y0_0_3 y0_0_5 (fun r49 =>
          let t50 := (!r49)
          br (t50) (
            publicanref1_Add m (T_publicanref1_Big.mk y0_0_2 y0_0_3) (T_publicanref1_Big.mk true y0_0_5) (fun r55 =>
            let t58 := (wr .i64 (Int.tdiv y0_0_0 16))
            let t61 := (wr .i64 (Int.tdiv y0_0_0 16))
            br ((inB t61 y0_0_1.length)) (
              let t63 := (el6 y0_0_1 (iNat t61))
              let t65 := (Int.tmod y0_0_0 16)
              let t66 := (wr .u64 t65)
              br ((leI 0 t66)) (
                let t67 := (shlI .u64 1 t66)
                let t68 := (orI .u64 t63 t67)
                br ((inB t58 y0_0_1.length)) (
                  let t18 := (wr .i64 (y0_0_0 - 1))
                  ρ t18 (y0_0_1.set (iNat t58) t68) r55.f_Neg r55.f_D y0_0_4 y0_0_5 y0_0_6 y0_0_7 y0_0_8 y0_0_9) none) none) none))
          (
            let t18 := (wr .i64 (y0_0_0 - 1))
            ρ t18 y0_0_1 y0_0_2 y0_0_3 y0_0_4 y0_0_5 y0_0_6 y0_0_7 y0_0_8 y0_0_9))))) none) none))
  (
    e0 x8 x9 x2 x3 x4 x5 x6 x7 x1)
noncomputable def publicanref1_Floor_L0 (m : Nat) : Nat → Int → List Int → Bool → List Int → Bool → List Int → Bool → List Int → Bool → List Int → (Bool → List Int → Bool → List Int → Bool → List Int → Bool → List Int → List Int → Option R) → Option R
  | 0 => fun _ _ _ _ _ _ _ _ _ _ _ => none
  | j + 1 => fun x0 x1 x2 x3 x4 x5 x6 x7 x8 x9 e0 => publicanref1_Floor_S0 m (fun x0 x1 x2 x3 x4 x5 x6 x7 x8 x9 => publicanref1_Floor_L0 m j x0 x1 x2 x3 x4 x5 x6 x7 x8 x9 e0) e0 x0 x1 x2 x3 x4 x5 x6 x7 x8 x9
noncomputable def publicanref1_Floor (m : Nat) (a0 : T_publicanref1_Big) (a1 : T_publicanref1_Big) (κ : T_publicanref1_Big → Option R) : Option R :=
  let t12 := (a0.f_D.length : Int)
  let t13 := (wr .i64 (16 * t12))
  let t14 := (wr .i64 (t13 - 1))
  publicanref1_Floor_L0 m m t14 [] false [] a1.f_Neg a1.f_D a0.f_Neg a0.f_D false [] (fun y0_0 y0_1 y0_2 y0_3 y0_4 y0_5 y0_6 y0_7 y0_8 =>
  let t74 := (!(eqB y0_6 y0_4))
  publicanref1_trim m (T_publicanref1_Big.mk t74 y0_8) (fun r77 =>
  let t82 := (!(eqB y0_6 y0_4))
  br (t82) (
    let t86 := (y0_3.length : Int)
    let t87 := (ltI 0 t86)
    br (t87) (
      publicanref1_Of m (-1) (fun r90 =>
      publicanref1_Add m r77 r90 (fun r91 =>
      κ r91)))
    (
      κ r77))
  (
    κ r77)))
noncomputable def publicanref1_Int_S0 (m : Nat) (ρ : Int → Int → Bool → List Int → Option R) (e0 : Int → Bool → List Int → Option R) (x0 : Int) (x1 : Int) (x2 : Bool) (x3 : List Int) : Option R :=
  let t21 := (leI 0 x0)
  br (t21) (
    let t25 := (shlI .u64 x1 16)
    br ((inB x0 x3.length)) (
      let t29 := (el6 x3 (iNat x0))
      let t31 := (orI .u64 t25 t29)
      let t23 := (wr .i64 (x0 - 1))
      ρ t23 t31 x2 x3) none)
  (
    e0 x1 x2 x3)
noncomputable def publicanref1_Int_L0 (m : Nat) : Nat → Int → Int → Bool → List Int → (Int → Bool → List Int → Option R) → Option R
  | 0 => fun _ _ _ _ _ => none
  | j + 1 => fun x0 x1 x2 x3 e0 => publicanref1_Int_S0 m (fun x0 x1 x2 x3 => publicanref1_Int_L0 m j x0 x1 x2 x3 e0) e0 x0 x1 x2 x3
noncomputable def publicanref1_Int (m : Nat) (a0 : T_publicanref1_Big) (κ : Int → Bool → Option R) : Option R :=
  publicanref1_Of m (-9223372036854775808) (fun r7 =>
  publicanref1_Cmp m a0 r7 (fun r8 =>
  let t9 := (ltI r8 0)
  br (t9) (
    κ 0 false)
  (
    publicanref1_Of m 9223372036854775807 (fun r12 =>
    publicanref1_Cmp m a0 r12 (fun r13 =>
    let t14 := (ltI 0 r13)
    br (t14) (
      κ 0 false)
    (
      let t18 := (a0.f_D.length : Int)
      let t19 := (wr .i64 (t18 - 1))
      publicanref1_Int_L0 m m t19 0 a0.f_Neg a0.f_D (fun y0_0 y0_1 y0_2 =>
      br (y0_1) (
        let t35 := (wr .u64 (0 - y0_0))
        let t37 := (wr .i64 t35)
        κ t37 true)
      (
        let t37 := (wr .i64 y0_0)
        κ t37 true))))))))
noncomputable def num_Wide_Floor (m : Nat) (a0 : T_num_Wide) (a1 : Int) (κ : Int → Bool → Option R) : Option R :=
  let t12 := (ltI a1 1)
  br (t12) (
    κ 0 false)
  (
    let t16 := (ltI a0.f_Hi 0)
    br (t16) (
      num_Wide_turned m a0 (fun r18 =>
      let t20 := (wr .u64 a1)
      let t23 := (wr .u64 r18.f_Hi)
      let t25 := (leI t20 t23)
      br (t25) (
        κ 0 false)
      (
        let t29 := (wr .u64 r18.f_Hi)
        math_bits_Div64 m t29 r18.f_Lo t20 (fun r33_0 r33_1 =>
        let t38 := (leI 0 a0.f_Hi)
        br (t38) (
          num_narrow m (T_num_Wide.mk 0 r33_0) (fun r41_0 r41_1 =>
          κ r41_0 r41_1))
        (
          num_Wide_turned m (T_num_Wide.mk 0 r33_0) (fun r46 =>
          let t48 := (ltI 0 r33_1)
          br (t48) (
            num_Of m (-1) (fun r51 =>
            num_Wide_Plus m r46 r51 (fun r52_0 r52_1 =>
            num_narrow m r52_0 (fun r56_0 r56_1 =>
            κ r56_0 r56_1))))
          (
            num_narrow m r46 (fun r56_0 r56_1 =>
            κ r56_0 r56_1))))))))
    (
      let t20 := (wr .u64 a1)
      let t23 := (wr .u64 a0.f_Hi)
      let t25 := (leI t20 t23)
      br (t25) (
        κ 0 false)
      (
        let t29 := (wr .u64 a0.f_Hi)
        math_bits_Div64 m t29 a0.f_Lo t20 (fun r33_0 r33_1 =>
        let t38 := (leI 0 a0.f_Hi)
        br (t38) (
          num_narrow m (T_num_Wide.mk 0 r33_0) (fun r41_0 r41_1 =>
          κ r41_0 r41_1))
        (
          num_Wide_turned m (T_num_Wide.mk 0 r33_0) (fun r46 =>
          let t48 := (ltI 0 r33_1)
          br (t48) (
            num_Of m (-1) (fun r51 =>
            num_Wide_Plus m r46 r51 (fun r52_0 r52_1 =>
            num_narrow m r52_0 (fun r56_0 r56_1 =>
            κ r56_0 r56_1))))
          (
            num_narrow m r46 (fun r56_0 r56_1 =>
            κ r56_0 r56_1))))))))
noncomputable def publicanref11_fitted (m : Nat) (a0 : Int) (a1 : T_publicanref1_Big) (κ : T_api_Value → Int → Option R) : Option R :=
  publicanref1_Int m a1 (fun r10_0 r10_1 =>
  br (r10_1) (
    publicanref11_Fit m a0 r10_0 (fun r17 =>
    br (r17) (
      κ (T_api_Value.mk a0 r10_0 []) 0)
    (
      let t23 := (eqI a0 5)
      br (t23) (
        κ (T_api_Value.mk 0 0 []) 12)
      (
        κ (T_api_Value.mk 0 0 []) 10))))
  (
    let t23 := (eqI a0 5)
    br (t23) (
      κ (T_api_Value.mk 0 0 []) 12)
    (
      κ (T_api_Value.mk 0 0 []) 10)))
noncomputable def num_MulFloor (m : Nat) (a0 : Int) (a1 : Int) (a2 : Int) (κ : Int → Bool → Option R) : Option R :=
  num_product m a0 a1 (fun r10 =>
  num_Wide_Floor m r10 a2 (fun r12_0 r12_1 =>
  κ r12_0 r12_1))
noncomputable def publicanref11_Op (m : Nat) (a0 : List UInt8) (a1 : T_api_Value) (a2 : T_api_Value) (κ : T_api_Value → Int → Option R) : Option R :=
  let t15 := (eqL a0 sneg)
  br (t15) (
    publicanref11_Unary m a0 a1.f_Kind (fun r23 =>
    let t25 := (eqI r23 0)
    br (t25) (
      κ (T_api_Value.mk 0 0 []) 8)
    (
      let t28 := (eqL a0 snot)
      br (t28) (
        let t31 := (eqI a1.f_N 0)
        publicanref11_truth m t31 (fun r32_0 r32_1 =>
        κ r32_0 r32_1))
      (
        publicanref1_Of m a1.f_N (fun r38 =>
        publicanref1_Minus m r38 (fun r39 =>
        publicanref11_fitted m r23 r39 (fun r40_0 r40_1 =>
        κ r40_0 r40_1)))))))
  (
    let t18 := (eqL a0 snot)
    br (t18) (
      publicanref11_Unary m a0 a1.f_Kind (fun r23 =>
      let t25 := (eqI r23 0)
      br (t25) (
        κ (T_api_Value.mk 0 0 []) 8)
      (
        let t28 := (eqL a0 snot)
        br (t28) (
          let t31 := (eqI a1.f_N 0)
          publicanref11_truth m t31 (fun r32_0 r32_1 =>
          κ r32_0 r32_1))
        (
          publicanref1_Of m a1.f_N (fun r38 =>
          publicanref1_Minus m r38 (fun r39 =>
          publicanref11_fitted m r23 r39 (fun r40_0 r40_1 =>
          κ r40_0 r40_1)))))))
    (
      publicanref11_Binary m a0 a1.f_Kind a2.f_Kind (fun r48 =>
      let t50 := (eqI r48 0)
      br (t50) (
        κ (T_api_Value.mk 0 0 []) 8)
      (
        publicanref1_Of m a1.f_N (fun r54 =>
        publicanref1_Of m a2.f_N (fun r57 =>
        publicanref1_Of m 1000000 (fun r58 =>
        let t61 := (eqL a0 s_43)
        br (t61) (
          publicanref1_Add m r54 r57 (fun r65 =>
          publicanref11_fitted m r48 r65 (fun r66_0 r66_1 =>
          κ r66_0 r66_1)))
        (
          let t70 := (eqL a0 s_45)
          br (t70) (
            publicanref1_Minus m r57 (fun r74 =>
            publicanref1_Add m r54 r74 (fun r75 =>
            publicanref11_fitted m r48 r75 (fun r76_0 r76_1 =>
            κ r76_0 r76_1))))
          (
            let t80 := (eqL a0 s_42)
            br (t80) (
              publicanref1_Mul m r54 r57 (fun r83 =>
              let t88 := (wr .i64 (a1.f_Kind + a2.f_Kind))
              let t89 := (eqI t88 7)
              br (t89) (
                publicanref1_Floor m r83 r58 (fun r92 =>
                publicanref11_fitted m r48 r92 (fun r95_0 r95_1 =>
                κ r95_0 r95_1)))
              (
                publicanref11_fitted m r48 r83 (fun r95_0 r95_1 =>
                κ r95_0 r95_1))))
            (
              let t99 := (eqL a0 s_47)
              br (t99) (
                let t102 := (eqI a2.f_N 0)
                br (t102) (
                  κ (T_api_Value.mk 0 0 []) 11)
                (
                  let t105 := (eqI r48 4)
                  br (t105) (
                    publicanref1_Mul m r54 r58 (fun r108 =>
                    publicanref1_Floor m r108 r57 (fun r112 =>
                    publicanref11_fitted m r48 r112 (fun r113_0 r113_1 =>
                    κ r113_0 r113_1))))
                  (
                    publicanref1_Floor m r54 r57 (fun r112 =>
                    publicanref11_fitted m r48 r112 (fun r113_0 r113_1 =>
                    κ r113_0 r113_1)))))
              (
                let t117 := (eqL a0 s_60)
                br (t117) (
                  let t122 := (ltI a1.f_N a2.f_N)
                  publicanref11_truth m t122 (fun r123_0 r123_1 =>
                  κ r123_0 r123_1))
                (
                  let t127 := (eqL a0 s_60_61)
                  br (t127) (
                    let t132 := (leI a1.f_N a2.f_N)
                    publicanref11_truth m t132 (fun r133_0 r133_1 =>
                    κ r133_0 r133_1))
                  (
                    let t137 := (eqL a0 s_62)
                    br (t137) (
                      let t142 := (ltI a2.f_N a1.f_N)
                      publicanref11_truth m t142 (fun r143_0 r143_1 =>
                      κ r143_0 r143_1))
                    (
                      let t147 := (eqL a0 s_62_61)
                      br (t147) (
                        let t152 := (leI a2.f_N a1.f_N)
                        publicanref11_truth m t152 (fun r153_0 r153_1 =>
                        κ r153_0 r153_1))
                      (
                        let t157 := (eqL a0 s_61_61)
                        br (t157) (
                          let t162 := (eqI a1.f_N a2.f_N)
                          publicanref11_truth m t162 (fun r163_0 r163_1 =>
                          κ r163_0 r163_1))
                        (
                          let t167 := (eqL a0 s_33_61)
                          br (t167) (
                            let t172 := (!(eqI a1.f_N a2.f_N))
                            publicanref11_truth m t172 (fun r173_0 r173_1 =>
                            κ r173_0 r173_1))
                          (
                            let t177 := (eqL a0 sand)
                            br (t177) (
                              let t180 := (eqI a1.f_N 1)
                              br (t180) (
                                let t184 := (eqI a2.f_N 1)
                                publicanref11_truth m t184 (fun r186_0 r186_1 =>
                                κ r186_0 r186_1))
                              (
                                publicanref11_truth m false (fun r186_0 r186_1 =>
                                κ r186_0 r186_1)))
                            (
                              let t190 := (eqL a0 sor)
                              br (t190) (
                                let t193 := (eqI a1.f_N 1)
                                br (t193) (
                                  publicanref11_truth m true (fun r199_0 r199_1 =>
                                  κ r199_0 r199_1))
                                (
                                  let t197 := (eqI a2.f_N 1)
                                  publicanref11_truth m t197 (fun r199_0 r199_1 =>
                                  κ r199_0 r199_1)))
                              (
                                let t206 := (ltI a1.f_N a2.f_N)
                                let t208 := (eqL a0 smin)
                                let t209 := (eqB t206 t208)
                                br (t209) (
                                  κ a1 0)
                                (
                                  κ a2 0))))))))))))))))))))
noncomputable def mean_times (m : Nat) (a0 : Int) (a1 : T_api_Value) (a2 : T_api_Value) (κ : T_api_Value → Int → Option R) : Option R :=
  num_Mul m a1.f_N a2.f_N (fun r15_0 r15_1 =>
  let t19 := (eqI a0 3)
  br (t19) (
    let t23 := (eqI a1.f_Kind 4)
    br (t23) (
      num_MulFloor m a1.f_N a2.f_N 1000000 (fun r35_0 r35_1 =>
      mean_made m a0 r35_0 r35_1 (fun r41_0 r41_1 =>
      κ r41_0 r41_1)))
    (
      let t27 := (eqI a2.f_Kind 4)
      br (t27) (
        num_MulFloor m a1.f_N a2.f_N 1000000 (fun r35_0 r35_1 =>
        mean_made m a0 r35_0 r35_1 (fun r41_0 r41_1 =>
        κ r41_0 r41_1)))
      (
        mean_made m a0 r15_0 r15_1 (fun r41_0 r41_1 =>
        κ r41_0 r41_1))))
  (
    mean_made m a0 r15_0 r15_1 (fun r41_0 r41_1 =>
    κ r41_0 r41_1)))
noncomputable def mean_over (m : Nat) (a0 : Int) (a1 : T_api_Value) (a2 : T_api_Value) (κ : T_api_Value → Int → Option R) : Option R :=
  let t17 := (eqI a2.f_N 0)
  br (t17) (
    κ (T_api_Value.mk 0 0 []) 11)
  (
    let t20 := (!(eqI a0 4))
    br (t20) (
      num_Floor m a1.f_N a2.f_N (fun r26_0 r26_1 =>
      mean_made m a0 r26_0 r26_1 (fun r32_0 r32_1 =>
      κ r32_0 r32_1)))
    (
      let t40 := (ltI a2.f_N 0)
      br (t40) (
        num_Sub m 0 a1.f_N (fun r43_0 r43_1 =>
        num_Sub m 0 a2.f_N (fun r48_0 r48_1 =>
        br (r43_1) (
          let t56 := (!r48_1)
          br (t56) (
            mean_made m a0 0 false (fun r58_0 r58_1 =>
            κ r58_0 r58_1))
          (
            num_MulFloor m r43_0 1000000 r48_0 (fun r64_0 r64_1 =>
            mean_made m a0 r64_0 r64_1 (fun r70_0 r70_1 =>
            κ r70_0 r70_1))))
        (
          mean_made m a0 0 false (fun r58_0 r58_1 =>
          κ r58_0 r58_1)))))
      (
        num_MulFloor m a1.f_N 1000000 a2.f_N (fun r64_0 r64_1 =>
        mean_made m a0 r64_0 r64_1 (fun r70_0 r70_1 =>
        κ r70_0 r70_1)))))
noncomputable def mean_Op (m : Nat) (a0 : List UInt8) (a1 : T_api_Value) (a2 : T_api_Value) (κ : T_api_Value → Int → Option R) : Option R :=
  let t14 := (eqL a0 sneg)
  br (t14) (
    mean_one m a0 a1 (fun r21_0 r21_1 =>
    κ r21_0 r21_1))
  (
    let t17 := (eqL a0 snot)
    br (t17) (
      mean_one m a0 a1 (fun r21_0 r21_1 =>
      κ r21_0 r21_1))
    (
      typ_Two m a0 a1.f_Kind a2.f_Kind (fun r29 =>
      let t31 := (eqI r29 0)
      br (t31) (
        κ (T_api_Value.mk 0 0 []) 8)
      (
        let t35 := (eqL a0 s_43)
        br (t35) (
          num_Add m a1.f_N a2.f_N (fun r41_0 r41_1 =>
          mean_made m r29 r41_0 r41_1 (fun r47_0 r47_1 =>
          κ r47_0 r47_1)))
        (
          let t51 := (eqL a0 s_45)
          br (t51) (
            num_Sub m a1.f_N a2.f_N (fun r57_0 r57_1 =>
            mean_made m r29 r57_0 r57_1 (fun r63_0 r63_1 =>
            κ r63_0 r63_1)))
          (
            let t67 := (eqL a0 s_42)
            br (t67) (
              mean_times m r29 a1 a2 (fun r71_0 r71_1 =>
              κ r71_0 r71_1))
            (
              let t75 := (eqL a0 s_47)
              br (t75) (
                mean_over m r29 a1 a2 (fun r79_0 r79_1 =>
                κ r79_0 r79_1))
              (
                let t83 := (eqL a0 smin)
                br (t83) (
                  let t89 := (bif ltI a2.f_N a1.f_N then a2.f_N else a1.f_N)
                  mean_made m r29 t89 true (fun r90_0 r90_1 =>
                  κ r90_0 r90_1))
                (
                  let t94 := (eqL a0 smax)
                  br (t94) (
                    let t100 := (bif ltI a1.f_N a2.f_N then a2.f_N else a1.f_N)
                    mean_made m r29 t100 true (fun r101_0 r101_1 =>
                    κ r101_0 r101_1))
                  (
                    let t105 := (eqL a0 s_60)
                    br (t105) (
                      let t110 := (ltI a1.f_N a2.f_N)
                      mean_truth m t110 (fun r111_0 r111_1 =>
                      κ r111_0 r111_1))
                    (
                      let t115 := (eqL a0 s_60_61)
                      br (t115) (
                        let t120 := (leI a1.f_N a2.f_N)
                        mean_truth m t120 (fun r121_0 r121_1 =>
                        κ r121_0 r121_1))
                      (
                        let t125 := (eqL a0 s_62)
                        br (t125) (
                          let t130 := (ltI a2.f_N a1.f_N)
                          mean_truth m t130 (fun r131_0 r131_1 =>
                          κ r131_0 r131_1))
                        (
                          let t135 := (eqL a0 s_62_61)
                          br (t135) (
                            let t140 := (leI a2.f_N a1.f_N)
                            mean_truth m t140 (fun r141_0 r141_1 =>
                            κ r141_0 r141_1))
                          (
                            let t145 := (eqL a0 s_61_61)
                            br (t145) (
                              let t150 := (eqI a1.f_N a2.f_N)
                              mean_truth m t150 (fun r151_0 r151_1 =>
                              κ r151_0 r151_1))
                            (
                              let t155 := (eqL a0 s_33_61)
                              br (t155) (
                                let t160 := (!(eqI a1.f_N a2.f_N))
                                mean_truth m t160 (fun r161_0 r161_1 =>
                                κ r161_0 r161_1))
                              (
                                let t165 := (eqL a0 sand)
                                br (t165) (
                                  let t168 := (!(eqI a1.f_N 0))
                                  br (t168) (
                                    let t172 := (!(eqI a2.f_N 0))
                                    mean_truth m t172 (fun r174_0 r174_1 =>
                                    κ r174_0 r174_1))
                                  (
                                    mean_truth m false (fun r174_0 r174_1 =>
                                    κ r174_0 r174_1)))
                                (
                                  let t179 := (!(eqI a1.f_N 0))
                                  br (t179) (
                                    mean_truth m true (fun r185_0 r185_1 =>
                                    κ r185_0 r185_1))
                                  (
                                    let t183 := (!(eqI a2.f_N 0))
                                    mean_truth m t183 (fun r185_0 r185_1 =>
                                    κ r185_0 r185_1)))))))))))))))))))
noncomputable def publicanlaw13_MeanOps (m : Nat) (a0 : Int) (a1 : T_api_Value) (a2 : T_api_Value) (κ : Bool → Option R) : Option R :=
  publicanlaw13_awake m  (fun r12 =>
  let t13 := (!r12)
  br (t13) (
    κ false)
  (
    let t16 := (ltI a0 0)
    br (t16) (
      κ true)
    (
      let t20 := ([s_43, s_45, s_42, s_47, s_60, s_60_61, s_62, s_62_61, s_61_61, s_33_61, sand, sor, smin, smax, sneg, snot].length : Int)
      let t21 := (leI t20 a0)
      br (t21) (
        κ true)
      (
        publicanref11_FitValue m a1.f_Kind a1 (fun r27 =>
        let t28 := (!r27)
        br (t28) (
          κ true)
        (
          publicanref11_FitValue m a2.f_Kind a2 (fun r34 =>
          let t35 := (!r34)
          br (t35) (
            κ true)
          (
            br ((inB a0 [s_43, s_45, s_42, s_47, s_60, s_60_61, s_62, s_62_61, s_61_61, s_33_61, sand, sor, smin, smax, sneg, snot].length)) (
              let t41 := (el2 ([s_43, s_45, s_42, s_47, s_60, s_60_61, s_62, s_62_61, s_61_61, s_33_61, sand, sor, smin, smax, sneg, snot]) (iNat a0))
              mean_Op m t41 a1 a2 (fun r44_0 r44_1 =>
              br ((inB a0 [s_43, s_45, s_42, s_47, s_60, s_60_61, s_62, s_62_61, s_61_61, s_33_61, sand, sor, smin, smax, sneg, snot].length)) (
                let t51 := (el2 ([s_43, s_45, s_42, s_47, s_60, s_60_61, s_62, s_62_61, s_61_61, s_33_61, sand, sor, smin, smax, sneg, snot]) (iNat a0))
                publicanref11_Op m t51 a1 a2 (fun r54_0 r54_1 =>
                let t59 := (eqI r44_1 r54_1)
                br (t59) (
                  publicanref17_Same m r44_0 r54_0 (fun r63 =>
                  κ r63))
                (
                  κ false))) none)) none))))))))
end Go.Pm
