/- The kinds of data. -/
import Derived.Test.YtodccifahbgogaaFvA
import Derived.Test.YtodccifahbgogaaFvB
set_option linter.unusedVariables false
set_option linter.unusedSectionVars false
set_option linter.unusedSimpArgs false
namespace Go.Pm
open Go Go.EvM Go.Pv
set_option linter.unusedVariables false
def s_459223372036854775808 : List UInt8 := [45, 57, 50, 50, 51, 51, 55, 50, 48, 51, 54, 56, 53, 52, 55, 55, 53, 56, 48, 56]
def s_45 : List UInt8 := [45]
def s_43 : List UInt8 := [43]
def s_42 : List UInt8 := [42]
def s_47 : List UInt8 := [47]
def s_60 : List UInt8 := [60]
def s_60_61 : List UInt8 := [60, 61]
def s_62 : List UInt8 := [62]
def s_62_61 : List UInt8 := [62, 61]
def s_61_61 : List UInt8 := [61, 61]
def s_33_61 : List UInt8 := [33, 61]
def sneg : List UInt8 := [110, 101, 103]
def snot : List UInt8 := [110, 111, 116]
def smin : List UInt8 := [109, 105, 110]
def smax : List UInt8 := [109, 97, 120]
def slit : List UInt8 := [108, 105, 116]
def sinput : List UInt8 := [105, 110, 112, 117, 116]
def srule : List UInt8 := [114, 117, 108, 101]
def stable : List UInt8 := [116, 97, 98, 108, 101]
def sbool : List UInt8 := [98, 111, 111, 108]
def scount : List UInt8 := [99, 111, 117, 110, 116]
def smoney : List UInt8 := [109, 111, 110, 101, 121]
def srate : List UInt8 := [114, 97, 116, 101]
def sdate : List UInt8 := [100, 97, 116, 101]
def smoneys : List UInt8 := [109, 111, 110, 101, 121, 115]
def sif : List UInt8 := [105, 102]
def sthen : List UInt8 := [116, 104, 101, 110]
def selse : List UInt8 := [101, 108, 115, 101]
def sand : List UInt8 := [97, 110, 100]
def sor : List UInt8 := [111, 114]
def ssum : List UInt8 := [115, 117, 109]
def sin : List UInt8 := [105, 110]
def slen : List UInt8 := [108, 101, 110]
def sat : List UInt8 := [97, 116]
def strue : List UInt8 := [116, 114, 117, 101]
def sfalse : List UInt8 := [102, 97, 108, 115, 101]
def s_40_41_123_125_91_93_44_59_58_61_43_45_42_47_60_62 : List UInt8 := [40, 41, 123, 125, 91, 93, 44, 59, 58, 61, 43, 45, 42, 47, 60, 62]
def s_0_1_2_2_3_3_3_3_4_4_4_4_4_4_4_4_5_5_5_5_5_5_5_5__256_232741 : List UInt8 := [0, 1, 2, 2, 3, 3, 3, 3, 4, 4, 4, 4, 4, 4, 4, 4, 5, 5, 5, 5, 5, 5, 5, 5, 5, 5, 5, 5, 5, 5, 5, 5, 6, 6, 6, 6, 6, 6, 6, 6, 6, 6, 6, 6, 6, 6, 6, 6, 6, 6, 6, 6, 6, 6, 6, 6, 6, 6, 6, 6, 6, 6, 6, 6, 7, 7, 7, 7, 7, 7, 7, 7, 7, 7, 7, 7, 7, 7, 7, 7, 7, 7, 7, 7, 7, 7, 7, 7, 7, 7, 7, 7, 7, 7, 7, 7, 7, 7, 7, 7, 7, 7, 7, 7, 7, 7, 7, 7, 7, 7, 7, 7, 7, 7, 7, 7, 7, 7, 7, 7, 7, 7, 7, 7, 7, 7, 7, 7, 8, 8, 8, 8, 8, 8, 8, 8, 8, 8, 8, 8, 8, 8, 8, 8, 8, 8, 8, 8, 8, 8, 8, 8, 8, 8, 8, 8, 8, 8, 8, 8, 8, 8, 8, 8, 8, 8, 8, 8, 8, 8, 8, 8, 8, 8, 8, 8, 8, 8, 8, 8, 8, 8, 8, 8, 8, 8, 8, 8, 8, 8, 8, 8, 8, 8, 8, 8, 8, 8, 8, 8, 8, 8, 8, 8, 8, 8, 8, 8, 8, 8, 8, 8, 8, 8, 8, 8, 8, 8, 8, 8, 8, 8, 8, 8, 8, 8, 8, 8, 8, 8, 8, 8, 8, 8, 8, 8, 8, 8, 8, 8, 8, 8, 8, 8, 8, 8, 8, 8, 8, 8, 8, 8, 8, 8, 8, 8]
def s0 : List UInt8 := [48]
def s_36 : List UInt8 := [36]
def s_46 : List UInt8 := [46]
def s_37 : List UInt8 := [37]
def s_40 : List UInt8 := [40]
def s_44 : List UInt8 := [44]
def s_41 : List UInt8 := [41]
def s_58 : List UInt8 := [58]
def sname : List UInt8 := [110, 97, 109, 101]
def s_59 : List UInt8 := [59]
def s_61 : List UInt8 := [61]
def s_123 : List UInt8 := [123]
def srow : List UInt8 := [114, 111, 119]
def s_125 : List UInt8 := [125]
def sstatute : List UInt8 := [115, 116, 97, 116, 117, 116, 101]
def srule_32a_32money_32_61_32_361_32_43_32_362_32_42_323_59 : List UInt8 := [114, 117, 108, 101, 32, 97, 32, 109, 111, 110, 101, 121, 32, 61, 32, 36, 49, 32, 43, 32, 36, 50, 32, 42, 32, 51, 59]
def srule_32r_32count_32_61_32 : List UInt8 := [114, 117, 108, 101, 32, 114, 32, 99, 111, 117, 110, 116, 32, 61, 32]
def s_32 : List UInt8 := [32]
inductive TsynNode where
  | mk (f_Op_ : List UInt8) (f_Name_ : List UInt8) (f_Kind_ : Int) (f_N_ : Int) (f_At_ : Int) (f_Kids_ : List TsynNode)
def TsynNode.f_Op : TsynNode → List UInt8 | .mk x _ _ _ _ _ => x
def TsynNode.f_Name : TsynNode → List UInt8 | .mk _ x _ _ _ _ => x
def TsynNode.f_Kind : TsynNode → Int | .mk _ _ x _ _ _ => x
def TsynNode.f_N : TsynNode → Int | .mk _ _ _ x _ _ => x
def TsynNode.f_At : TsynNode → Int | .mk _ _ _ _ x _ => x
def TsynNode.f_Kids : TsynNode → List TsynNode | .mk _ _ _ _ _ x => x
inductive T9Node where
  | mk (f_Op_ : List UInt8) (f_Name_ : List UInt8) (f_Kind_ : Int) (f_N_ : Int) (f_At_ : Int) (f_Kids_ : List T9Node)
def T9Node.f_Op : T9Node → List UInt8 | .mk x _ _ _ _ _ => x
def T9Node.f_Name : T9Node → List UInt8 | .mk _ x _ _ _ _ => x
def T9Node.f_Kind : T9Node → Int | .mk _ _ x _ _ _ => x
def T9Node.f_N : T9Node → Int | .mk _ _ _ x _ _ => x
def T9Node.f_At : T9Node → Int | .mk _ _ _ _ x _ => x
def T9Node.f_Kids : T9Node → List T9Node | .mk _ _ _ _ _ x => x
structure TapiValue where
  f_Kind : Int
  f_N : Int
  f_L : List Int
structure T9Word where
  f_Kind : Int
  f_Text : List UInt8
  f_N : Int
  f_At : Int
structure TnumWide where
  f_Hi : Int
  f_Lo : Int
structure T9parser where
  f_l : List T9Word
  f_k : Int
  f_bad : Int
  f_deep : Bool
  f_d : Int
def dS : Nat → Type
  | 0 => Int
  | 1 => Int
  | 2 => (List UInt8)
  | 3 => Bool
  | 4 => TsynNode
  | 5 => T9Node
  | 6 => TapiValue
  | 7 => T9parser
  | 8 => T9Word
  | 9 => TnumWide
  | 10 => (List (List UInt8))
  | _ => Unit
def dsz : Nat → Nat
  | 0 => 1
  | 1 => 1
  | 2 => 1
  | 3 => 1
  | 4 => 6
  | 5 => 6
  | 6 => 3
  | 7 => 5
  | 8 => 4
  | 9 => 2
  | 10 => 1
  | _ => 1
def df0 : Int := (0 : Int)
def df1 : Int := (0 : Int)
def df2 : (List UInt8) := ([] : (List UInt8))
def df3 : Bool := (false : Bool)
def df4 : TsynNode := (TsynNode.mk [] [] 0 0 0 [] : TsynNode)
def df5 : T9Node := (T9Node.mk [] [] 0 0 0 [] : T9Node)
def df6 : TapiValue := (TapiValue.mk 0 0 [] : TapiValue)
def df7 : T9parser := (T9parser.mk [] 0 0 false 0 : T9parser)
def df8 : T9Word := (T9Word.mk 0 [] 0 0 : T9Word)
def df9 : TnumWide := (TnumWide.mk 0 0 : TnumWide)
def df10 : (List (List UInt8)) := ([] : (List (List UInt8)))
def dfld : (c : Nat) → dS c → List (PV dS)
  | 0, (x : Int) => [.int .i64 x]
  | 1, (x : Int) => [.int .u8 x]
  | 2, (x : (List UInt8)) => [.str x]
  | 3, (x : Bool) => [.bool x]
  | 4, (x : TsynNode) => [.str x.f_Op, .str x.f_Name, .int .i64 x.f_Kind, .int .i64 x.f_N, .int .i64 x.f_At, .sl 4 x.f_Kids]
  | 5, (x : T9Node) => [.str x.f_Op, .str x.f_Name, .int .i64 x.f_Kind, .int .i64 x.f_N, .int .i64 x.f_At, .sl 5 x.f_Kids]
  | 6, (x : TapiValue) => [.int .i64 x.f_Kind, .int .i64 x.f_N, .sl 0 x.f_L]
  | 7, (x : T9parser) => [.sl 8 x.f_l, .int .i64 x.f_k, .int .i64 x.f_bad, .bool x.f_deep, .int .i64 x.f_d]
  | 8, (x : T9Word) => [.int .i64 x.f_Kind, .str x.f_Text, .int .i64 x.f_N, .int .i64 x.f_At]
  | 9, (x : TnumWide) => [.int .i64 x.f_Hi, .int .u64 x.f_Lo]
  | 10, (x : (List (List UInt8))) => [.sl 2 x]
  | _ + 11, _ => [.bool false]
def ddflt : (c : Nat) → dS c
  | 0 => df0
  | 1 => df1
  | 2 => df2
  | 3 => df3
  | 4 => df4
  | 5 => df5
  | 6 => df6
  | 7 => df7
  | 8 => df8
  | 9 => df9
  | 10 => df10
  | _ + 11 => ()
def rdS (c : Nat) (v : PV dS) : Option (List (dS c)) := match v with | .sl d l => if h : d = c then some (h ▸ l) else none | .nils => some [] | _ => none
def dmk0 (l : List (PV dS)) : Option Int := match l with | [.int .i64 y0] => some (y0 : Int) | _ => none
def dmk1 (l : List (PV dS)) : Option Int := match l with | [.int .u8 y0] => some (y0 : Int) | _ => none
def dmk2 (l : List (PV dS)) : Option (List UInt8) := match l with | [.str y0] => some (y0 : (List UInt8)) | _ => none
def dmk3 (l : List (PV dS)) : Option Bool := match l with | [.bool y0] => some (y0 : Bool) | _ => none
def dmk4 (l : List (PV dS)) : Option TsynNode := match l with | [.str y0, .str y1, .int .i64 y2, .int .i64 y3, .int .i64 y4, y5] => (rdS 4 y5).bind fun y5 => some (TsynNode.mk y0 y1 y2 y3 y4 y5 : TsynNode) | _ => none
def dmk5 (l : List (PV dS)) : Option T9Node := match l with | [.str y0, .str y1, .int .i64 y2, .int .i64 y3, .int .i64 y4, y5] => (rdS 5 y5).bind fun y5 => some (T9Node.mk y0 y1 y2 y3 y4 y5 : T9Node) | _ => none
def dmk6 (l : List (PV dS)) : Option TapiValue := match l with | [.int .i64 y0, .int .i64 y1, y2] => (rdS 0 y2).bind fun y2 => some (TapiValue.mk y0 y1 y2 : TapiValue) | _ => none
def dmk7 (l : List (PV dS)) : Option T9parser := match l with | [y0, .int .i64 y1, .int .i64 y2, .bool y3, .int .i64 y4] => (rdS 8 y0).bind fun y0 => some (T9parser.mk y0 y1 y2 y3 y4 : T9parser) | _ => none
def dmk8 (l : List (PV dS)) : Option T9Word := match l with | [.int .i64 y0, .str y1, .int .i64 y2, .int .i64 y3] => some (T9Word.mk y0 y1 y2 y3 : T9Word) | _ => none
def dmk9 (l : List (PV dS)) : Option TnumWide := match l with | [.int .i64 y0, .int .u64 y1] => some (TnumWide.mk y0 y1 : TnumWide) | _ => none
def dmk10 (l : List (PV dS)) : Option (List (List UInt8)) := match l with | [y0] => (rdS 2 y0).bind fun y0 => some (y0 : (List (List UInt8))) | _ => none
def dmk : (c : Nat) → List (PV dS) → Option (dS c)
  | 0 => dmk0
  | 1 => dmk1
  | 2 => dmk2
  | 3 => dmk3
  | 4 => dmk4
  | 5 => dmk5
  | 6 => dmk6
  | 7 => dmk7
  | 8 => dmk8
  | 9 => dmk9
  | 10 => dmk10
  | _ + 11 => fun _ => none
theorem dlen : ∀ c x, (dfld c x).length = dsz c
  | 0, _ => rfl
  | 1, _ => rfl
  | 2, _ => rfl
  | 3, _ => rfl
  | 4, _ => rfl
  | 5, _ => rfl
  | 6, _ => rfl
  | 7, _ => rfl
  | 8, _ => rfl
  | 9, _ => rfl
  | 10, _ => rfl
  | _ + 11, _ => rfl
theorem ddata : ∀ c x, (dfld c x).all isData = true
  | 0, _ => rfl
  | 1, _ => rfl
  | 2, _ => rfl
  | 3, _ => rfl
  | 4, _ => rfl
  | 5, _ => rfl
  | 6, _ => rfl
  | 7, _ => rfl
  | 8, _ => rfl
  | 9, _ => rfl
  | 10, _ => rfl
  | _ + 11, _ => rfl
theorem dpos : ∀ c, 0 < dsz c
  | 0 => by decide
  | 1 => by decide
  | 2 => by decide
  | 3 => by decide
  | 4 => by decide
  | 5 => by decide
  | 6 => by decide
  | 7 => by decide
  | 8 => by decide
  | 9 => by decide
  | 10 => by decide
  | _ + 11 => Nat.one_pos
theorem rdS_like {c : Nat} {v : PV dS} {l : List (dS c)} (h : rdS c v = some l) : Like v (.sl c l) := by
  unfold rdS at h
  split at h
  · split at h
    · rename_i hd; subst hd; cases h; exact .same _
    · cases h
  · cases h; exact .nil c
  · cases h
theorem dmkOk0 (l : List (PV dS)) (x : Int) (h : dmk0 l = some x) : Likes l (dfld 0 x) := by
  unfold dmk0 at h
  split at h; rotate_left; cases h
  rename_i y0
  cases h
  exact .cons (.same _) (.nil)
theorem dmkOk1 (l : List (PV dS)) (x : Int) (h : dmk1 l = some x) : Likes l (dfld 1 x) := by
  unfold dmk1 at h
  split at h; rotate_left; cases h
  rename_i y0
  cases h
  exact .cons (.same _) (.nil)
theorem dmkOk2 (l : List (PV dS)) (x : (List UInt8)) (h : dmk2 l = some x) : Likes l (dfld 2 x) := by
  unfold dmk2 at h
  split at h; rotate_left; cases h
  rename_i y0
  cases h
  exact .cons (.same _) (.nil)
theorem dmkOk3 (l : List (PV dS)) (x : Bool) (h : dmk3 l = some x) : Likes l (dfld 3 x) := by
  unfold dmk3 at h
  split at h; rotate_left; cases h
  rename_i y0
  cases h
  exact .cons (.same _) (.nil)
theorem dmkOk4 (l : List (PV dS)) (x : TsynNode) (h : dmk4 l = some x) : Likes l (dfld 4 x) := by
  unfold dmk4 at h
  split at h; rotate_left; cases h
  rename_i y0 y1 y2 y3 y4 y5
  obtain ⟨z5, h5, h⟩ := Option.bind_eq_some_iff.1 h
  cases h
  exact .cons (.same _) (.cons (.same _) (.cons (.same _) (.cons (.same _) (.cons (.same _) (.cons (rdS_like h5) (.nil))))))
theorem dmkOk5 (l : List (PV dS)) (x : T9Node) (h : dmk5 l = some x) : Likes l (dfld 5 x) := by
  unfold dmk5 at h
  split at h; rotate_left; cases h
  rename_i y0 y1 y2 y3 y4 y5
  obtain ⟨z5, h5, h⟩ := Option.bind_eq_some_iff.1 h
  cases h
  exact .cons (.same _) (.cons (.same _) (.cons (.same _) (.cons (.same _) (.cons (.same _) (.cons (rdS_like h5) (.nil))))))
theorem dmkOk6 (l : List (PV dS)) (x : TapiValue) (h : dmk6 l = some x) : Likes l (dfld 6 x) := by
  unfold dmk6 at h
  split at h; rotate_left; cases h
  rename_i y0 y1 y2
  obtain ⟨z2, h2, h⟩ := Option.bind_eq_some_iff.1 h
  cases h
  exact .cons (.same _) (.cons (.same _) (.cons (rdS_like h2) (.nil)))
theorem dmkOk7 (l : List (PV dS)) (x : T9parser) (h : dmk7 l = some x) : Likes l (dfld 7 x) := by
  unfold dmk7 at h
  split at h; rotate_left; cases h
  rename_i y0 y1 y2 y3 y4
  obtain ⟨z0, h0, h⟩ := Option.bind_eq_some_iff.1 h
  cases h
  exact .cons (rdS_like h0) (.cons (.same _) (.cons (.same _) (.cons (.same _) (.cons (.same _) (.nil)))))
theorem dmkOk8 (l : List (PV dS)) (x : T9Word) (h : dmk8 l = some x) : Likes l (dfld 8 x) := by
  unfold dmk8 at h
  split at h; rotate_left; cases h
  rename_i y0 y1 y2 y3
  cases h
  exact .cons (.same _) (.cons (.same _) (.cons (.same _) (.cons (.same _) (.nil))))
theorem dmkOk9 (l : List (PV dS)) (x : TnumWide) (h : dmk9 l = some x) : Likes l (dfld 9 x) := by
  unfold dmk9 at h
  split at h; rotate_left; cases h
  rename_i y0 y1
  cases h
  exact .cons (.same _) (.cons (.same _) (.nil))
theorem dmkOk10 (l : List (PV dS)) (x : (List (List UInt8))) (h : dmk10 l = some x) : Likes l (dfld 10 x) := by
  unfold dmk10 at h
  split at h; rotate_left; cases h
  rename_i y0
  obtain ⟨z0, h0, h⟩ := Option.bind_eq_some_iff.1 h
  cases h
  exact .cons (rdS_like h0) (.nil)
theorem dmkOk : ∀ c l x, dmk c l = some x → Likes l (dfld c x)
  | 0, l, x, h => dmkOk0 l x h
  | 1, l, x, h => dmkOk1 l x h
  | 2, l, x, h => dmkOk2 l x h
  | 3, l, x, h => dmkOk3 l x h
  | 4, l, x, h => dmkOk4 l x h
  | 5, l, x, h => dmkOk5 l x h
  | 6, l, x, h => dmkOk6 l x h
  | 7, l, x, h => dmkOk7 l x h
  | 8, l, x, h => dmkOk8 l x h
  | 9, l, x, h => dmkOk9 l x h
  | 10, l, x, h => dmkOk10 l x h
  | _ + 11, l, x, h => by cases h
def codeT : List (Nat × Nat) := [(9, 2), (28, 4), (31, 5), (2, 0), (5, 1), (67, 8), (3, 0), (23, 10)]
def lookN (t : Nat) : List (Nat × Nat) → Option Nat
  | [] => none
  | p :: l => bif Nat.beq t p.1 then some p.2 else lookN t l
noncomputable instance : Dat where
  S := dS
  sz := dsz
  dflt := ddflt
  fld := dfld
  mkD := dmk
  code := fun t => lookN t codeT
  len := dlen
  data := ddata
  pos := dpos
  mkOk := dmkOk
  byte := 1
  byteI := fun n => n
  ofByte := fun n => n
  byteF := fun _ => rfl
  byteO := fun _ => rfl
noncomputable def el0 (l : List Int) (i : Nat) : Int := getD df0 l i
noncomputable def el1 (l : List Int) (i : Nat) : Int := getD df1 l i
noncomputable def el2 (l : List (List UInt8)) (i : Nat) : (List UInt8) := getD df2 l i
noncomputable def el3 (l : List Bool) (i : Nat) : Bool := getD df3 l i
noncomputable def el4 (l : List TsynNode) (i : Nat) : TsynNode := getD df4 l i
noncomputable def el5 (l : List T9Node) (i : Nat) : T9Node := getD df5 l i
noncomputable def el6 (l : List TapiValue) (i : Nat) : TapiValue := getD df6 l i
noncomputable def el7 (l : List T9parser) (i : Nat) : T9parser := getD df7 l i
noncomputable def el8 (l : List T9Word) (i : Nat) : T9Word := getD df8 l i
noncomputable def el9 (l : List TnumWide) (i : Nat) : TnumWide := getD df9 l i
noncomputable def el10 (l : List (List (List UInt8))) (i : Nat) : (List (List UInt8)) := getD df10 l i
end Go.Pm
namespace Go.Pm
open Go Go.EvM Go.Pv
set_option linter.unusedVariables false
noncomputable section
variable {R : Type}
abbrev Bs := List UInt8
abbrev O (R : Type) := Option R
abbrev br (c : Bool) (t e : O R) : O R := Bool.rec (motive := fun _ => O R) e t c
abbrev lt (v : O R) (f : O R → O R) : O R := f v
abbrev Y_b_Add64 (R : Type) := Int → Int → Int → (Int → Int → O R) → O R
abbrev Y_b_Sub64 (R : Type) := Int → Int → Int → (Int → Int → O R) → O R
def b_Add64 (m : Nat) : Y_b_Add64 R := fun a0 a1 a2 κ => match a0, a1, a2 with
  | .ofNat x, .ofNat y, .ofNat b => bif Nat.ble b 1 then κ (.ofNat ((x + y + b) % 18446744073709551616)) (.ofNat ((x + y + b) / 18446744073709551616)) else none
  | _, _, _ => none
def b_Sub64 (m : Nat) : Y_b_Sub64 R := fun a0 a1 a2 κ => match a0, a1, a2 with
  | .ofNat x, .ofNat y, .ofNat b => bif Nat.ble b 1 then κ (.ofNat ((x + 18446744073709551616 - y - b) % 18446744073709551616)) (.ofNat (if x < y + b then 1 else 0)) else none
  | _, _, _ => none
def addP (args : List Value) (h : Hp) : OR := match args with
  | [.int .u64 (.ofNat x), .int .u64 (.ofNat y), .int .u64 (.ofNat b)] => bif Nat.ble b 1 then .ok (.tuple ⟨[.int .u64 (.ofNat ((x + y + b) % 18446744073709551616)), .int .u64 (.ofNat ((x + y + b) / 18446744073709551616))]⟩) h else .no
  | _ => .no
def subP (args : List Value) (h : Hp) : OR := match args with
  | [.int .u64 (.ofNat x), .int .u64 (.ofNat y), .int .u64 (.ofNat b)] => bif Nat.ble b 1 then .ok (.tuple ⟨[.int .u64 (.ofNat ((x + 18446744073709551616 - y - b) % 18446744073709551616)), .int .u64 (.ofNat (if x < y + b then 1 else 0))]⟩) h else .no
  | _ => .no
abbrev Y_slices_Clone___p (R : Type) := Unit
def slices_Clone___p (m : Nat) : Y_slices_Clone___p R := ()
abbrev Y_fold_Size (R : Type) := TsynNode → (Int → O R) → O R
structure G_fold_Size (R : Type) where
  fold_Size : Y_fold_Size R
abbrev fold_Size_T0 (R : Type) := Int → Int → List TsynNode → Int → O R
abbrev fold_Size_E0 (R : Type) := Int → O R
abbrev fold_Size_V0 (R : Type) := fold_Size_E0 R → Nat → fold_Size_T0 R
def fold_Size_S0 (m : Nat) (c0 : Y_fold_Size R) (ρ : fold_Size_T0 R) (e0 : fold_Size_E0 R) : fold_Size_T0 R := fun x0 x1 x2 x3 =>
 br (ltI x0 x3) (br (inB x0 x2.length) (let t11 := (el4 x2 (iNat x0))
 c0 (TsynNode.mk t11.f_Op t11.f_Name t11.f_Kind t11.f_N t11.f_At t11.f_Kids) (fun r15 =>
 let t16 := (wr .i64 (x1 + r15))
 let t17 := (wr .i64 (x0 + 1))
 ρ t17 t16 x2 x3)) none)
 (e0 x1)
def fold_Size_L0 (m : Nat) (c0 : Y_fold_Size R) : fold_Size_V0 R := fun e0 => itN Zf.z fun ρ => fold_Size_S0 m c0 ρ e0
theorem fold_Size_L0s {m j : Nat} {c0 : Y_fold_Size R} {e0 : fold_Size_E0 R} : fold_Size_L0 m c0 e0 (j + 1) = fold_Size_S0 m c0 (fold_Size_L0 m c0 e0 j) e0 := rfl
def fold_Size_F (m : Nat) (l0 : fold_Size_V0 R) : Y_fold_Size R := fun a0 κ =>
 let t8 := (a0.f_Kids.length : Int)
 l0 (fun y0_0 =>
 κ y0_0) m 0 1 a0.f_Kids t8
def fold_Size_B (m : Nat) (g : G_fold_Size R) : Y_fold_Size R := fold_Size_F m (fold_Size_L0 m g.fold_Size)
def G_fold_Size_r : Nat → G_fold_Size R
  | 0 => ⟨fun _ _ => none⟩
  | j + 1 => ⟨fold_Size_B j (G_fold_Size_r j)⟩
def fold_Size (m : Nat) : Y_fold_Size R := (G_fold_Size_r (R := R) m).fold_Size
abbrev Y_r1_Text (R : Type) := Int → (Bs → O R) → O R
structure G_r1_Text (R : Type) where
  r1_Text : Y_r1_Text R
def r1_Text_F (m : Nat) (c0 : Y_r1_Text R) : Y_r1_Text R := fun a0 κ =>
 br (ltI a0 0) (br (eqI a0 (-9223372036854775808)) (κ s_459223372036854775808)
 (let t8 := (wr .i64 (0 - a0))
 c0 t8 (fun r9 =>
 br (catOk s_45 r9) (let t10 := (s_45 ++ r9)
 κ t10) none)))
 (br (ltI a0 10) (let t14 := (wr .i64 (48 + a0))
 let t15 := (wr .u8 t14)
 let t17 := (strOf' [t15])
 κ t17)
 (let t19 := (wr .i64 (Int.tdiv a0 10))
 let t22 := (Int.tmod a0 10)
 let t23 := (wr .i64 (48 + t22))
 let t24 := (wr .u8 t23)
 let t26 := (strOf' [t24])
 c0 t19 (fun r20 =>
 br (catOk r20 t26) (let t27 := (r20 ++ t26)
 κ t27) none)))
def r1_Text_B (m : Nat) (g : G_r1_Text R) : Y_r1_Text R := r1_Text_F m g.r1_Text
def G_r1_Text_r : Nat → G_r1_Text R
  | 0 => ⟨fun _ _ => none⟩
  | j + 1 => ⟨r1_Text_B j (G_r1_Text_r j)⟩
def r1_Text (m : Nat) : Y_r1_Text R := (G_r1_Text_r (R := R) m).r1_Text
abbrev Y_r17_Back (R : Type) := T9Node → (TsynNode → O R) → O R
structure G_r17_Back (R : Type) where
  r17_Back : Y_r17_Back R
abbrev r17_Back_T0 (R : Type) := Int → Bs → Bs → Int → Int → Int → Bs → Bs → Int → Int → Int → List T9Node → Bs → Bs → Int → Int → Int → List TsynNode → List TsynNode → O R
abbrev r17_Back_E0 (R : Type) := Bs → Bs → Int → Int → Int → List TsynNode → Bs → Bs → Int → Int → Int → List TsynNode → O R
abbrev r17_Back_V0 (R : Type) := r17_Back_E0 R → Nat → r17_Back_T0 R
def r17_Back_S0 (m : Nat) (c0 : Y_r17_Back R) (ρ : r17_Back_T0 R) (e0 : r17_Back_E0 R) : r17_Back_T0 R := fun x0 x1 x2 x3 x4 x5 x6 x7 x8 x9 x10 x11 x12 x13 x14 x15 x16 x17 x18 =>
 let t19 := (x11.length : Int)
 br (ltI x0 t19) (br (inB x0 x11.length) (let t28 := (el5 x11 (iNat x0))
 c0 t28 (fun r30 =>
 br (okAp 80 (x18.length + [r30].length)) (let t22 := (wr .i64 (x0 + 1))
 ρ t22 x1 x2 x3 x4 x5 x6 x7 x8 x9 x10 x11 x12 x13 x14 x15 x16 x17 (x18 ++ [r30])) none)) none)
 (e0 x12 x13 x14 x15 x16 x17 x1 x2 x3 x4 x5 x18)
def r17_Back_L0 (m : Nat) (c0 : Y_r17_Back R) : r17_Back_V0 R := fun e0 => itN Zf.z fun ρ => r17_Back_S0 m c0 ρ e0
theorem r17_Back_L0s {m j : Nat} {c0 : Y_r17_Back R} {e0 : r17_Back_E0 R} : r17_Back_L0 m c0 e0 (j + 1) = r17_Back_S0 m c0 (r17_Back_L0 m c0 e0 j) e0 := rfl
def r17_Back_F (m : Nat) (l0 : r17_Back_V0 R) : Y_r17_Back R := fun a0 κ =>
 l0 (fun y0_0 y0_1 y0_2 y0_3 y0_4 y0_5 y0_6 y0_7 y0_8 y0_9 y0_10 y0_11 =>
 κ (TsynNode.mk y0_6 y0_7 y0_8 y0_9 y0_10 y0_11)) m 0 a0.f_Op a0.f_Name a0.f_Kind a0.f_N a0.f_At a0.f_Op a0.f_Name a0.f_Kind a0.f_N a0.f_At a0.f_Kids [] [] 0 0 0 [] []
def r17_Back_B (m : Nat) (g : G_r17_Back R) : Y_r17_Back R := r17_Back_F m (r17_Back_L0 m g.r17_Back)
def G_r17_Back_r : Nat → G_r17_Back R
  | 0 => ⟨fun _ _ => none⟩
  | j + 1 => ⟨r17_Back_B j (G_r17_Back_r j)⟩
def r17_Back (m : Nat) : Y_r17_Back R := (G_r17_Back_r (R := R) m).r17_Back
abbrev Y_fold_reckoned (R : Type) := Bs → (Bool → O R) → O R
def fold_reckoned_F (m : Nat) : Y_fold_reckoned R := fun a0 κ =>
 br (eqL a0 s_43) (κ true)
 (br (eqL a0 s_45) (κ true)
 (br (eqL a0 s_42) (κ true)
 (br (eqL a0 s_47) (κ true)
 (br (eqL a0 s_60) (κ true)
 (br (eqL a0 s_60_61) (κ true)
 (br (eqL a0 s_62) (κ true)
 (br (eqL a0 s_62_61) (κ true)
 (br (eqL a0 s_61_61) (κ true)
 (br (eqL a0 s_33_61) (κ true)
 (br (eqL a0 sneg) (κ true)
 (br (eqL a0 snot) (κ true)
 (br (eqL a0 smin) (κ true)
 (br (eqL a0 smax) (κ true)
 (κ false))))))))))))))
def fold_reckoned (m : Nat) : Y_fold_reckoned R := fold_reckoned_F m
abbrev Y_fold_Expr_1 (R : Type) := TsynNode → (Bool → O R) → O R
def fold_Expr_1_F (m : Nat) : Y_fold_Expr_1 R := fun a0 κ =>
 let t5 := (!(eqL a0.f_Op slit))
 κ t5
def fold_Expr_1 (m : Nat) : Y_fold_Expr_1 R := fold_Expr_1_F m
abbrev Y_fold_value (R : Type) := TsynNode → (TapiValue → O R) → O R
def fold_value_F (m : Nat) : Y_fold_value R := fun a0 κ =>
 κ (TapiValue.mk a0.f_Kind a0.f_N [])
def fold_value (m : Nat) : Y_fold_value R := fold_value_F m
abbrev Y_fold_literal (R : Type) := TapiValue → Int → (TsynNode → O R) → O R
def fold_literal_F (m : Nat) : Y_fold_literal R := fun a0 a1 κ =>
 κ (TsynNode.mk slit [] a0.f_Kind a0.f_N a1 [])
def fold_literal (m : Nat) : Y_fold_literal R := fold_literal_F m
abbrev Y_r1_two (R : Type) := Int → (Bs → O R) → O R
def r1_two_F (m : Nat) : Y_r1_two R := fun a0 κ =>
 let t4 := (wr .i64 (Int.tdiv a0 10))
 let t5 := (Int.tmod t4 10)
 let t6 := (wr .i64 (48 + t5))
 let t7 := (wr .u8 t6)
 let t9 := (Int.tmod a0 10)
 let t10 := (wr .i64 (48 + t9))
 let t11 := (wr .u8 t10)
 let t13 := (strOf' [t7, t11])
 κ t13
def r1_two (m : Nat) : Y_r1_two R := r1_two_F m
abbrev Y_num_Add (R : Type) := Int → Int → (Int → Bool → O R) → O R
def num_Add_F (m : Nat) : Y_num_Add R := fun a0 a1 κ =>
 let t9 := (wr .i64 (a0 + a1))
 let t12 := (ltI t9 a0)
 let t14 := (ltI a1 0)
 br (!(eqB t12 t14)) (κ 0 false)
 (κ t9 true)
def num_Add (m : Nat) : Y_num_Add R := num_Add_F m
abbrev Y_num_Sub (R : Type) := Int → Int → (Int → Bool → O R) → O R
def num_Sub_F (m : Nat) : Y_num_Sub R := fun a0 a1 κ =>
 let t9 := (wr .i64 (a0 - a1))
 let t12 := (ltI a0 t9)
 let t14 := (ltI a1 0)
 br (!(eqB t12 t14)) (κ 0 false)
 (κ t9 true)
def num_Sub (m : Nat) : Y_num_Sub R := num_Sub_F m
abbrev Y_mean_truth (R : Type) := Bool → (TapiValue → Int → O R) → O R
def mean_truth_F (m : Nat) : Y_mean_truth R := fun a0 κ =>
 br a0 (κ (TapiValue.mk 1 1 []) 0)
 (κ (TapiValue.mk 1 0 []) 0)
def mean_truth (m : Nat) : Y_mean_truth R := mean_truth_F m
abbrev Y_r1_Leap (R : Type) := Int → (Bool → O R) → O R
def r1_Leap_F (m : Nat) : Y_r1_Leap R := fun a0 κ =>
 let t4 := (Int.tmod a0 4)
 br (eqI t4 0) (let t8 := (Int.tmod a0 100)
 br (!(eqI t8 0)) (κ true)
 (let t13 := (Int.tmod a0 400)
 let t14 := (eqI t13 0)
 κ t14))
 (let t13 := (Int.tmod a0 400)
 let t14 := (eqI t13 0)
 κ t14)
def r1_Leap (m : Nat) : Y_r1_Leap R := r1_Leap_F m
abbrev Y_r9_letter (R : Type) := Int → (Bool → O R) → O R
def r9_letter_F (m : Nat) : Y_r9_letter R := fun a0 κ =>
 br (leI 97 a0) (let t7 := (leI a0 122)
 κ t7)
 (κ false)
def r9_letter (m : Nat) : Y_r9_letter R := r9_letter_F m
abbrev Y_r9_digit (R : Type) := Int → (Bool → O R) → O R
def r9_digit_F (m : Nat) : Y_r9_digit R := fun a0 κ =>
 br (leI 48 a0) (let t7 := (leI a0 57)
 κ t7)
 (κ false)
def r9_digit (m : Nat) : Y_r9_digit R := r9_digit_F m
abbrev Y_r9_Kept (R : Type) := Bs → (Bool → O R) → O R
abbrev r9_Kept_T0 (R : Type) := Int → Bs → List (Bs) → O R
abbrev r9_Kept_E0 (R : Type) := Unit → O R
abbrev r9_Kept_Z0 (R : Type) := Bool → O R
abbrev r9_Kept_V0 (R : Type) := r9_Kept_E0 R → r9_Kept_Z0 R → Nat → r9_Kept_T0 R
def r9_Kept_S0 (m : Nat) (ρ : r9_Kept_T0 R) (e0 : r9_Kept_E0 R) (er : r9_Kept_Z0 R) : r9_Kept_T0 R := fun x0 x1 x2 =>
 let t8 := (x2.length : Int)
 br (ltI x0 t8) (br (inB x0 x2.length) (let t15 := (el2 x2 (iNat x0))
 br (eqL t15 x1) (er true)
 (let t11 := (wr .i64 (x0 + 1))
 ρ t11 x1 x2)) none)
 (e0 ())
def r9_Kept_L0 (m : Nat) : r9_Kept_V0 R := fun e0 er => itN Zf.z fun ρ => r9_Kept_S0 m ρ e0 er
theorem r9_Kept_L0s {m j : Nat} {e0 : r9_Kept_E0 R} {er : r9_Kept_Z0 R} : r9_Kept_L0 m e0 er (j + 1) = r9_Kept_S0 m (r9_Kept_L0 m e0 er j) e0 er := rfl
def r9_Kept_F (m : Nat) (l0 : r9_Kept_V0 R) : Y_r9_Kept R := fun a0 κ =>
 l0 (fun (_ : Unit) =>
 κ false) (fun z0_0 =>
 κ z0_0) m 0 a0 ([sinput, srule, stable, sbool, scount, smoney, srate, sdate, smoneys, sif, sthen, selse, sand, sor, snot, smin, smax, ssum, sin, slen, sat, strue, sfalse])
def r9_Kept (m : Nat) : Y_r9_Kept R := r9_Kept_F m (r9_Kept_L0 m)
abbrev Y_r9_sign (R : Type) := Bs → (Bs → O R) → O R
abbrev r9_sign_T1 (R : Type) := Bs → Int → Bs → O R
abbrev r9_sign_E1 (R : Type) := Unit → O R
abbrev r9_sign_Z1 (R : Type) := Bs → O R
abbrev r9_sign_V1 (R : Type) := r9_sign_E1 R → r9_sign_Z1 R → Nat → r9_sign_T1 R
def r9_sign_S1 (m : Nat) (ρ : r9_sign_T1 R) (e2 : r9_sign_E1 R) (er : r9_sign_Z1 R) : r9_sign_T1 R := fun x0 x1 x2 =>
 let t32 := (x2.length : Int)
 br (ltI x1 t32) (br (inB 0 x0.length) (let t37 := (byteAt x0 0)
 br (inB x1 x2.length) (let t40 := (byteAt x2 x1)
 br (eqI t37 t40) (br (leI 0 1 && Nat.ble (iNat 1) x0.length) (let t43 := (cutL x0 0 (iNat 1))
 er t43) none)
 (let t35 := (wr .i64 (x1 + 1))
 ρ x0 t35 x2)) none) none)
 (e2 ())
def r9_sign_L1 (m : Nat) : r9_sign_V1 R := fun e2 er => itN Zf.z fun ρ => r9_sign_S1 m ρ e2 er
theorem r9_sign_L1s {m j : Nat} {e2 : r9_sign_E1 R} {er : r9_sign_Z1 R} : r9_sign_L1 m e2 er (j + 1) = r9_sign_S1 m (r9_sign_L1 m e2 er j) e2 er := rfl
abbrev r9_sign_T0 (R : Type) := Int → Bs → List (Bs) → O R
abbrev r9_sign_E0 (R : Type) := Bs → O R
abbrev r9_sign_Z0 (R : Type) := Bs → O R
abbrev r9_sign_V0 (R : Type) := r9_sign_E0 R → r9_sign_Z0 R → Nat → r9_sign_T0 R
def r9_sign_S0 (m : Nat) (ρ : r9_sign_T0 R) (e0 : r9_sign_E0 R) (er : r9_sign_Z0 R) : r9_sign_T0 R := fun x0 x1 x2 =>
 let t10 := (x2.length : Int)
 br (ltI x0 t10) (let t15 := (x1.length : Int)
 br (leI 2 t15) (br (leI 0 2 && Nat.ble (iNat 2) x1.length) (let t19 := (cutL x1 0 (iNat 2))
 br (inB x0 x2.length) (let t23 := (el2 x2 (iNat x0))
 br (eqL t19 t23) (br (inB x0 x2.length) (let t29 := (el2 x2 (iNat x0))
 er t29) none)
 (let t13 := (wr .i64 (x0 + 1))
 ρ t13 x1 x2)) none) none)
 (let t13 := (wr .i64 (x0 + 1))
 ρ t13 x1 x2))
 (e0 x1)
def r9_sign_L0 (m : Nat) : r9_sign_V0 R := fun e0 er => itN Zf.z fun ρ => r9_sign_S0 m ρ e0 er
theorem r9_sign_L0s {m j : Nat} {e0 : r9_sign_E0 R} {er : r9_sign_Z0 R} : r9_sign_L0 m e0 er (j + 1) = r9_sign_S0 m (r9_sign_L0 m e0 er j) e0 er := rfl
def r9_sign_F (m : Nat) (l0 : r9_sign_V0 R) (l1 : r9_sign_V1 R) : Y_r9_sign R := fun a0 κ =>
 l0 (fun y0_0 =>
 l1 (fun (_ : Unit) =>
 κ []) (fun z1_0 =>
 κ z1_0) m y0_0 0 s_40_41_123_125_91_93_44_59_58_61_43_45_42_47_60_62) (fun z0_0 =>
 κ z0_0) m 0 a0 ([s_60_61, s_62_61, s_61_61, s_33_61])
def r9_sign (m : Nat) : Y_r9_sign R := r9_sign_F m (r9_sign_L0 m) (r9_sign_L1 m)
abbrev Y_r9p_w (R : Type) := T9parser → (T9Word → T9parser → O R) → O R
def r9p_w_F (m : Nat) : Y_r9p_w R := fun o0 κ =>
 br (inB o0.f_k o0.f_l.length) (let t11 := (el8 o0.f_l (iNat o0.f_k))
 κ t11 o0) none
def r9p_w (m : Nat) : Y_r9p_w R := r9p_w_F m
abbrev Y_typ_quotient (R : Type) := Int → Int → (Int → O R) → O R
def typ_quotient_F (m : Nat) : Y_typ_quotient R := fun a0 a1 κ =>
 br (eqI a1 2) (br (eqI a0 2) (κ a0)
 (br (eqI a0 3) (κ a0)
 (br (eqI a0 3) (br (eqI a1 3) (κ 4)
 (κ 0))
 (κ 0))))
 (br (eqI a0 3) (br (eqI a1 3) (κ 4)
 (κ 0))
 (κ 0))
def typ_quotient (m : Nat) : Y_typ_quotient R := typ_quotient_F m
abbrev Y_typ_ordered (R : Type) := Int → (Bool → O R) → O R
def typ_ordered_F (m : Nat) : Y_typ_ordered R := fun a0 κ =>
 br (leI 2 a0) (let t7 := (leI a0 5)
 κ t7)
 (κ false)
def typ_ordered (m : Nat) : Y_typ_ordered R := typ_ordered_F m
abbrev Y_mean_Fit (R : Type) := Int → Int → (Bool → O R) → O R
def mean_Fit_F (m : Nat) : Y_mean_Fit R := fun a0 a1 κ =>
 br (eqI a0 1) (br (eqI a1 0) (κ true)
 (let t12 := (eqI a1 1)
 κ t12))
 (br (eqI a0 2) (br (leI (-4503599627370496) a1) (let t21 := (leI a1 4503599627370496)
 κ t21)
 (κ false))
 (br (eqI a0 3) (br (leI (-4503599627370496) a1) (let t21 := (leI a1 4503599627370496)
 κ t21)
 (κ false))
 (br (eqI a0 4) (br (leI (-1000000000000) a1) (let t29 := (leI a1 1000000000000)
 κ t29)
 (κ false))
 (br (eqI a0 5) (br (leI 0 a1) (let t37 := (leI a1 109572)
 κ t37)
 (κ false))
 (κ false)))))
def mean_Fit (m : Nat) : Y_mean_Fit R := mean_Fit_F m
abbrev Y_num_Floor (R : Type) := Int → Int → (Int → Bool → O R) → O R
def num_Floor_F (m : Nat) : Y_num_Floor R := fun a0 a1 κ =>
 lt (br (!(eqI a1 0)) (let t19 := (wr .i64 (Int.tdiv a0 a1))
 br (!(eqI a1 0)) (let t22 := (Int.tmod a0 a1)
 br (!(eqI t22 0)) (let t26 := (ltI a0 0)
 let t28 := (ltI a1 0)
 br (!(eqB t26 t28)) (let t32 := (wr .i64 (t19 - 1))
 κ t32 true)
 (κ t19 true))
 (κ t19 true)) none) none)
 fun j0 =>
 br (eqI a1 0) (κ 0 false)
 (br (eqI a0 (-9223372036854775808)) (br (eqI a1 (-1)) (κ 0 false)
 (j0))
 (j0))
def num_Floor (m : Nat) : Y_num_Floor R := num_Floor_F m
abbrev Y_r9_number (R : Type) := Bs → Int → (Int → Bool → O R) → O R
abbrev r9_number_T0 (R : Type) := Int → Int → Bs → Int → O R
abbrev r9_number_E0 (R : Type) := Int → O R
abbrev r9_number_Z0 (R : Type) := Int → Bool → O R
abbrev r9_number_V0 (R : Type) := r9_number_E0 R → r9_number_Z0 R → Nat → r9_number_T0 R
def r9_number_S0 (m : Nat) (ρ : r9_number_T0 R) (e0 : r9_number_E0 R) (er : r9_number_Z0 R) : r9_number_T0 R := fun x0 x1 x2 x3 =>
 let t10 := (x2.length : Int)
 br (ltI x0 t10) (let t16 := (wr .i64 (Int.tdiv x1 10))
 br (ltI t16 x3) (er 0 false)
 (let t19 := (wr .i64 (10 * x3))
 br (inB x0 x2.length) (let t22 := (byteAt x2 x0)
 let t23 := (wr .u8 (t22 - 48))
 let t24 := (wr .i64 t23)
 let t25 := (wr .i64 (t19 + t24))
 br (ltI x1 t25) (er 0 false)
 (let t13 := (wr .i64 (x0 + 1))
 ρ t13 x1 x2 t25)) none))
 (e0 x3)
def r9_number_L0 (m : Nat) : r9_number_V0 R := fun e0 er => itN Zf.z fun ρ => r9_number_S0 m ρ e0 er
theorem r9_number_L0s {m j : Nat} {e0 : r9_number_E0 R} {er : r9_number_Z0 R} : r9_number_L0 m e0 er (j + 1) = r9_number_S0 m (r9_number_L0 m e0 er j) e0 er := rfl
def r9_number_F (m : Nat) (l0 : r9_number_V0 R) : Y_r9_number R := fun a0 a1 κ =>
 l0 (fun y0_0 =>
 κ y0_0 true) (fun z0_0 z0_1 =>
 κ z0_0 z0_1) m 0 a1 a0 0
def r9_number (m : Nat) : Y_r9_number R := r9_number_F m (r9_number_L0 m)
abbrev Y_r9_Kind (R : Type) := Bs → (Int → O R) → O R
abbrev r9_Kind_T0 (R : Type) := Int → Bs → List (Bs) → O R
abbrev r9_Kind_E0 (R : Type) := Unit → O R
abbrev r9_Kind_Z0 (R : Type) := Int → O R
abbrev r9_Kind_V0 (R : Type) := r9_Kind_E0 R → r9_Kind_Z0 R → Nat → r9_Kind_T0 R
def r9_Kind_S0 (m : Nat) (ρ : r9_Kind_T0 R) (e0 : r9_Kind_E0 R) (er : r9_Kind_Z0 R) : r9_Kind_T0 R := fun x0 x1 x2 =>
 br (ltI x0 7) (br (inB x0 x2.length) (let t13 := (el2 x2 (iNat x0))
 br (eqL t13 x1) (er x0)
 (let t9 := (wr .i64 (x0 + 1))
 ρ t9 x1 x2)) none)
 (e0 ())
def r9_Kind_L0 (m : Nat) : r9_Kind_V0 R := fun e0 er => itN Zf.z fun ρ => r9_Kind_S0 m ρ e0 er
theorem r9_Kind_L0s {m j : Nat} {e0 : r9_Kind_E0 R} {er : r9_Kind_Z0 R} : r9_Kind_L0 m e0 er (j + 1) = r9_Kind_S0 m (r9_Kind_L0 m e0 er j) e0 er := rfl
def r9_Kind_F (m : Nat) (l0 : r9_Kind_V0 R) : Y_r9_Kind R := fun a0 κ =>
 l0 (fun (_ : Unit) =>
 κ 0) (fun z0_0 =>
 κ z0_0) m 1 a0 ([[], sbool, scount, smoney, srate, sdate, smoneys])
def r9_Kind (m : Nat) : Y_r9_Kind R := r9_Kind_F m (r9_Kind_L0 m)
abbrev Y_r9p_out (R : Type) := T9parser → (T9parser → O R) → O R
def r9p_out_F (m : Nat) : Y_r9p_out R := fun o0 κ =>
 let t6 := (wr .i64 (o0.f_d - 1))
 κ (T9parser.mk o0.f_l o0.f_k o0.f_bad o0.f_deep t6)
def r9p_out (m : Nat) : Y_r9p_out R := r9p_out_F m
abbrev Y_typ_number (R : Type) := Int → (Bool → O R) → O R
def typ_number_F (m : Nat) : Y_typ_number R := fun a0 κ =>
 br (leI 2 a0) (let t7 := (leI a0 4)
 κ t7)
 (κ false)
def typ_number (m : Nat) : Y_typ_number R := typ_number_F m
abbrev Y_num_narrow (R : Type) := TnumWide → (Int → Bool → O R) → O R
def num_narrow_F (m : Nat) : Y_num_narrow R := fun a0 κ =>
 let t7 := (wr .i64 a0.f_Lo)
 let t11 := (shrI .i64 t7 63)
 br (!(eqI a0.f_Hi t11)) (κ 0 false)
 (κ t7 true)
def num_narrow (m : Nat) : Y_num_narrow R := num_narrow_F m
abbrev Y_b_Mul64 (R : Type) := Int → Int → (Int → Int → O R) → O R
def b_Mul64_F (m : Nat) : Y_b_Mul64 R := fun a0 a1 κ =>
 let t15 := (andI .u64 a0 4294967295)
 let t17 := (shrI .u64 a0 32)
 let t19 := (andI .u64 a1 4294967295)
 let t21 := (shrI .u64 a1 32)
 let t24 := (wr .u64 (t15 * t19))
 let t27 := (wr .u64 (t17 * t19))
 let t29 := (shrI .u64 t24 32)
 let t30 := (wr .u64 (t27 + t29))
 let t32 := (andI .u64 t30 4294967295)
 let t34 := (shrI .u64 t30 32)
 let t38 := (wr .u64 (t15 * t21))
 let t39 := (wr .u64 (t32 + t38))
 let t42 := (wr .u64 (t17 * t21))
 let t44 := (wr .u64 (t42 + t34))
 let t46 := (shrI .u64 t39 32)
 let t47 := (wr .u64 (t44 + t46))
 let t50 := (wr .u64 (a0 * a1))
 κ t47 t50
def b_Mul64 (m : Nat) : Y_b_Mul64 R := b_Mul64_F m
abbrev Y_num_Of (R : Type) := Int → (TnumWide → O R) → O R
def num_Of_F (m : Nat) : Y_num_Of R := fun a0 κ =>
 let t4 := (shrI .i64 a0 63)
 let t6 := (wr .u64 a0)
 κ (TnumWide.mk t4 t6)
def num_Of (m : Nat) : Y_num_Of R := num_Of_F m
abbrev Y_b_Len64 (R : Type) := Int → (Int → O R) → O R
def b_Len64_F (m : Nat) : Y_b_Len64 R := fun a0 κ =>
 br (leI 4294967296 a0) (let t6 := (shrI .u64 a0 32)
 br (leI 65536 t6) (let t10 := (shrI .u64 t6 16)
 let t12 := (wr .i64 (32 + 16))
 br (leI 256 t10) (let t16 := (shrI .u64 t10 8)
 let t18 := (wr .i64 (t12 + 8))
 let t21 := (wr .u8 t16)
 br (inB t21 s_0_1_2_2_3_3_3_3_4_4_4_4_4_4_4_4_5_5_5_5_5_5_5_5__256_232741.length) (let t22 := (byteAt s_0_1_2_2_3_3_3_3_4_4_4_4_4_4_4_4_5_5_5_5_5_5_5_5__256_232741 t21)
 let t23 := (wr .i64 t22)
 let t24 := (wr .i64 (t18 + t23))
 κ t24) none)
 (let t21 := (wr .u8 t10)
 br (inB t21 s_0_1_2_2_3_3_3_3_4_4_4_4_4_4_4_4_5_5_5_5_5_5_5_5__256_232741.length) (let t22 := (byteAt s_0_1_2_2_3_3_3_3_4_4_4_4_4_4_4_4_5_5_5_5_5_5_5_5__256_232741 t21)
 let t23 := (wr .i64 t22)
 let t24 := (wr .i64 (t12 + t23))
 κ t24) none))
 (br (leI 256 t6) (let t16 := (shrI .u64 t6 8)
 let t18 := (wr .i64 (32 + 8))
 let t21 := (wr .u8 t16)
 br (inB t21 s_0_1_2_2_3_3_3_3_4_4_4_4_4_4_4_4_5_5_5_5_5_5_5_5__256_232741.length) (let t22 := (byteAt s_0_1_2_2_3_3_3_3_4_4_4_4_4_4_4_4_5_5_5_5_5_5_5_5__256_232741 t21)
 let t23 := (wr .i64 t22)
 let t24 := (wr .i64 (t18 + t23))
 κ t24) none)
 (let t21 := (wr .u8 t6)
 br (inB t21 s_0_1_2_2_3_3_3_3_4_4_4_4_4_4_4_4_5_5_5_5_5_5_5_5__256_232741.length) (let t22 := (byteAt s_0_1_2_2_3_3_3_3_4_4_4_4_4_4_4_4_5_5_5_5_5_5_5_5__256_232741 t21)
 let t23 := (wr .i64 t22)
 let t24 := (wr .i64 (32 + t23))
 κ t24) none)))
 (br (leI 65536 a0) (let t10 := (shrI .u64 a0 16)
 let t12 := (wr .i64 (0 + 16))
 br (leI 256 t10) (let t16 := (shrI .u64 t10 8)
 let t18 := (wr .i64 (t12 + 8))
 let t21 := (wr .u8 t16)
 br (inB t21 s_0_1_2_2_3_3_3_3_4_4_4_4_4_4_4_4_5_5_5_5_5_5_5_5__256_232741.length) (let t22 := (byteAt s_0_1_2_2_3_3_3_3_4_4_4_4_4_4_4_4_5_5_5_5_5_5_5_5__256_232741 t21)
 let t23 := (wr .i64 t22)
 let t24 := (wr .i64 (t18 + t23))
 κ t24) none)
 (let t21 := (wr .u8 t10)
 br (inB t21 s_0_1_2_2_3_3_3_3_4_4_4_4_4_4_4_4_5_5_5_5_5_5_5_5__256_232741.length) (let t22 := (byteAt s_0_1_2_2_3_3_3_3_4_4_4_4_4_4_4_4_5_5_5_5_5_5_5_5__256_232741 t21)
 let t23 := (wr .i64 t22)
 let t24 := (wr .i64 (t12 + t23))
 κ t24) none))
 (br (leI 256 a0) (let t16 := (shrI .u64 a0 8)
 let t18 := (wr .i64 (0 + 8))
 let t21 := (wr .u8 t16)
 br (inB t21 s_0_1_2_2_3_3_3_3_4_4_4_4_4_4_4_4_5_5_5_5_5_5_5_5__256_232741.length) (let t22 := (byteAt s_0_1_2_2_3_3_3_3_4_4_4_4_4_4_4_4_5_5_5_5_5_5_5_5__256_232741 t21)
 let t23 := (wr .i64 t22)
 let t24 := (wr .i64 (t18 + t23))
 κ t24) none)
 (let t21 := (wr .u8 a0)
 br (inB t21 s_0_1_2_2_3_3_3_3_4_4_4_4_4_4_4_4_5_5_5_5_5_5_5_5__256_232741.length) (let t22 := (byteAt s_0_1_2_2_3_3_3_3_4_4_4_4_4_4_4_4_5_5_5_5_5_5_5_5__256_232741 t21)
 let t23 := (wr .i64 t22)
 let t24 := (wr .i64 (0 + t23))
 κ t24) none)))
def b_Len64 (m : Nat) : Y_b_Len64 R := b_Len64_F m
abbrev Y_syn_Same (R : Type) := TsynNode → TsynNode → (Bool → O R) → O R
abbrev Y_slices_EqualFunc (R : Type) := List TsynNode → List TsynNode → (Bool → O R) → O R
structure G_syn_Same (R : Type) where
  syn_Same : Y_syn_Same R
  slices_EqualFunc : Y_slices_EqualFunc R
def syn_Same_F (m : Nat) (c0 : Y_slices_EqualFunc R) : Y_syn_Same R := fun a0 a1 κ =>
 br (eqL a0.f_Op a1.f_Op) (br (eqL a0.f_Name a1.f_Name) (br (eqI a0.f_Kind a1.f_Kind) (br (eqI a0.f_N a1.f_N) (c0 a0.f_Kids a1.f_Kids (fun r36 =>
 κ r36))
 (κ false))
 (κ false))
 (κ false))
 (κ false)
def syn_Same_B (m : Nat) (g : G_syn_Same R) : Y_syn_Same R := syn_Same_F m g.slices_EqualFunc
abbrev slices_EqualFunc_T0 (R : Type) := Int → List TsynNode → List TsynNode → Int → O R
abbrev slices_EqualFunc_E0 (R : Type) := Unit → O R
abbrev slices_EqualFunc_Z0 (R : Type) := Bool → O R
abbrev slices_EqualFunc_V0 (R : Type) := slices_EqualFunc_E0 R → slices_EqualFunc_Z0 R → Nat → slices_EqualFunc_T0 R
def slices_EqualFunc_S0 (m : Nat) (c0 : Y_syn_Same R) (ρ : slices_EqualFunc_T0 R) (e0 : slices_EqualFunc_E0 R) (er : slices_EqualFunc_Z0 R) : slices_EqualFunc_T0 R := fun x0 x1 x2 x3 =>
 br (ltI x0 x3) (br (inB x0 x2.length) (let t20 := (el4 x2 (iNat x0))
 br (inB x0 x1.length) (let t24 := (el4 x1 (iNat x0))
 c0 (TsynNode.mk t20.f_Op t20.f_Name t20.f_Kind t20.f_N t20.f_At t20.f_Kids) (TsynNode.mk t24.f_Op t24.f_Name t24.f_Kind t24.f_N t24.f_At t24.f_Kids) (fun r29 =>
 br (!r29) (er false)
 (let t31 := (wr .i64 (x0 + 1))
 ρ t31 x1 x2 x3))) none) none)
 (e0 ())
def slices_EqualFunc_L0 (m : Nat) (c0 : Y_syn_Same R) : slices_EqualFunc_V0 R := fun e0 er => itN Zf.z fun ρ => slices_EqualFunc_S0 m c0 ρ e0 er
theorem slices_EqualFunc_L0s {m j : Nat} {c0 : Y_syn_Same R} {e0 : slices_EqualFunc_E0 R} {er : slices_EqualFunc_Z0 R} : slices_EqualFunc_L0 m c0 e0 er (j + 1) = slices_EqualFunc_S0 m c0 (slices_EqualFunc_L0 m c0 e0 er j) e0 er := rfl
def slices_EqualFunc_F (m : Nat) (l0 : slices_EqualFunc_V0 R) : Y_slices_EqualFunc R := fun a0 a1 κ =>
 let t11 := (a0.length : Int)
 let t13 := (a1.length : Int)
 br (!(eqI t11 t13)) (κ false)
 (let t16 := (a0.length : Int)
 l0 (fun (_ : Unit) =>
 κ true) (fun z0_0 =>
 κ z0_0) m 0 a1 a0 t16)
def slices_EqualFunc_B (m : Nat) (g : G_syn_Same R) : Y_slices_EqualFunc R := slices_EqualFunc_F m (slices_EqualFunc_L0 m g.syn_Same)
def G_syn_Same_r : Nat → G_syn_Same R
  | 0 => ⟨fun _ _ _ => none, fun _ _ _ => none⟩
  | j + 1 => ⟨syn_Same_B j (G_syn_Same_r j), slices_EqualFunc_B j (G_syn_Same_r j)⟩
def syn_Same (m : Nat) : Y_syn_Same R := (G_syn_Same_r (R := R) m).syn_Same
def slices_EqualFunc (m : Nat) : Y_slices_EqualFunc R := (G_syn_Same_r (R := R) m).slices_EqualFunc
abbrev Y_r9_digitsOf (R : Type) := Int → Int → (Bs → O R) → O R
abbrev r9_digitsOf_T0 (R : Type) := Bs → Int → O R
abbrev r9_digitsOf_E0 (R : Type) := Bs → O R
abbrev r9_digitsOf_V0 (R : Type) := r9_digitsOf_E0 R → Nat → r9_digitsOf_T0 R
def r9_digitsOf_S0 (m : Nat) (ρ : r9_digitsOf_T0 R) (e0 : r9_digitsOf_E0 R) : r9_digitsOf_T0 R := fun x0 x1 =>
 let t9 := (x0.length : Int)
 br (ltI t9 x1) (br (catOk s0 x0) (let t13 := (s0 ++ x0)
 ρ t13 x1) none)
 (e0 x0)
def r9_digitsOf_L0 (m : Nat) : r9_digitsOf_V0 R := fun e0 => itN Zf.z fun ρ => r9_digitsOf_S0 m ρ e0
theorem r9_digitsOf_L0s {m j : Nat} {e0 : r9_digitsOf_E0 R} : r9_digitsOf_L0 m e0 (j + 1) = r9_digitsOf_S0 m (r9_digitsOf_L0 m e0 j) e0 := rfl
def r9_digitsOf_F (m : Nat) (c0 : Y_r1_Text R) (l0 : r9_digitsOf_V0 R) : Y_r9_digitsOf R := fun a0 a1 κ =>
 c0 a0 (fun r7 =>
 l0 (fun y0_0 =>
 κ y0_0) m r7 a1)
def r9_digitsOf (m : Nat) : Y_r9_digitsOf R := r9_digitsOf_F m (r1_Text m) (r9_digitsOf_L0 m)
abbrev Y_slices_IndexFunc (R : Type) := List TsynNode → (Int → O R) → O R
abbrev slices_IndexFunc_T0 (R : Type) := Int → List TsynNode → Int → O R
abbrev slices_IndexFunc_E0 (R : Type) := Unit → O R
abbrev slices_IndexFunc_Z0 (R : Type) := Int → O R
abbrev slices_IndexFunc_V0 (R : Type) := slices_IndexFunc_E0 R → slices_IndexFunc_Z0 R → Nat → slices_IndexFunc_T0 R
def slices_IndexFunc_S0 (m : Nat) (c0 : Y_fold_Expr_1 R) (ρ : slices_IndexFunc_T0 R) (e0 : slices_IndexFunc_E0 R) (er : slices_IndexFunc_Z0 R) : slices_IndexFunc_T0 R := fun x0 x1 x2 =>
 br (ltI x0 x2) (br (inB x0 x1.length) (let t14 := (el4 x1 (iNat x0))
 c0 t14 (fun r16 =>
 br r16 (er x0)
 (let t18 := (wr .i64 (x0 + 1))
 ρ t18 x1 x2))) none)
 (e0 ())
def slices_IndexFunc_L0 (m : Nat) (c0 : Y_fold_Expr_1 R) : slices_IndexFunc_V0 R := fun e0 er => itN Zf.z fun ρ => slices_IndexFunc_S0 m c0 ρ e0 er
theorem slices_IndexFunc_L0s {m j : Nat} {c0 : Y_fold_Expr_1 R} {e0 : slices_IndexFunc_E0 R} {er : slices_IndexFunc_Z0 R} : slices_IndexFunc_L0 m c0 e0 er (j + 1) = slices_IndexFunc_S0 m c0 (slices_IndexFunc_L0 m c0 e0 er j) e0 er := rfl
def slices_IndexFunc_F (m : Nat) (l0 : slices_IndexFunc_V0 R) : Y_slices_IndexFunc R := fun a0 κ =>
 let t7 := (a0.length : Int)
 l0 (fun (_ : Unit) =>
 κ (-1)) (fun z0_0 =>
 κ z0_0) m 0 a0 t7
def slices_IndexFunc (m : Nat) : Y_slices_IndexFunc R := slices_IndexFunc_F m (slices_IndexFunc_L0 m (fold_Expr_1 m))
abbrev Y_mean_made (R : Type) := Int → Int → Bool → (TapiValue → Int → O R) → O R
def mean_made_F (m : Nat) (c0 : Y_mean_Fit R) : Y_mean_made R := fun a0 a1 a2 κ =>
 br a2 (c0 a0 a1 (fun r12 =>
 br r12 (κ (TapiValue.mk a0 a1 []) 0)
 (br (eqI a0 5) (κ (TapiValue.mk 0 0 []) 12)
 (κ (TapiValue.mk 0 0 []) 10))))
 (br (eqI a0 5) (κ (TapiValue.mk 0 0 []) 12)
 (κ (TapiValue.mk 0 0 []) 10))
def mean_made (m : Nat) : Y_mean_made R := mean_made_F m (mean_Fit m)
abbrev Y_r1_Days (R : Type) := Int → Int → (Int → O R) → O R
def r1_Days_F (m : Nat) (c0 : Y_r1_Leap R) : Y_r1_Days R := fun a0 a1 κ =>
 br (eqI a1 1) (κ 31)
 (br (eqI a1 3) (κ 31)
 (br (eqI a1 5) (κ 31)
 (br (eqI a1 7) (κ 31)
 (br (eqI a1 8) (κ 31)
 (br (eqI a1 10) (κ 31)
 (br (eqI a1 12) (κ 31)
 (br (eqI a1 4) (κ 30)
 (br (eqI a1 6) (κ 30)
 (br (eqI a1 9) (κ 30)
 (br (eqI a1 11) (κ 30)
 (br (eqI a1 2) (c0 a0 (fun r22 =>
 br r22 (κ 29)
 (κ 28)))
 (κ 0))))))))))))
def r1_Days (m : Nat) : Y_r1_Days R := r1_Days_F m (r1_Leap m)
abbrev Y_r9_run (R : Type) := Bs → Int → (Int → O R) → O R
abbrev r9_run_T0 (R : Type) := Int → Int → Bs → O R
abbrev r9_run_E0 (R : Type) := Int → O R
abbrev r9_run_V0 (R : Type) := r9_run_E0 R → Nat → r9_run_T0 R
def r9_run_S0 (m : Nat) (c0 : Y_r9_digit R) (ρ : r9_run_T0 R) (e0 : r9_run_E0 R) : r9_run_T0 R := fun x0 x1 x2 =>
 let t8 := (wr .i64 (x1 + x0))
 let t10 := (x2.length : Int)
 br (ltI t8 t10) (let t16 := (wr .i64 (x1 + x0))
 br (inB t16 x2.length) (let t17 := (byteAt x2 t16)
 c0 t17 (fun r18 =>
 br r18 (let t21 := (wr .i64 (x0 + 1))
 ρ t21 x1 x2)
 (e0 x0))) none)
 (e0 x0)
def r9_run_L0 (m : Nat) (c0 : Y_r9_digit R) : r9_run_V0 R := fun e0 => itN Zf.z fun ρ => r9_run_S0 m c0 ρ e0
theorem r9_run_L0s {m j : Nat} {c0 : Y_r9_digit R} {e0 : r9_run_E0 R} : r9_run_L0 m c0 e0 (j + 1) = r9_run_S0 m c0 (r9_run_L0 m c0 e0 j) e0 := rfl
def r9_run_F (m : Nat) (l0 : r9_run_V0 R) : Y_r9_run R := fun a0 a1 κ =>
 l0 (fun y0_0 =>
 κ y0_0) m 0 a1 a0
def r9_run (m : Nat) : Y_r9_run R := r9_run_F m (r9_run_L0 m (r9_digit m))
abbrev Y_r9_money (R : Type) := Bs → Bs → (Int → Bool → O R) → O R
def r9_money_F (m : Nat) (c0 : Y_r9_number R) : Y_r9_money R := fun a0 a1 κ =>
 c0 a0 4503599627370496 (fun r12_0 r12_1 =>
 c0 a1 99 (fun r17_0 r17_1 =>
 br (!r12_1) (κ 0 false)
 (br (ltI 45035996273704 r12_0) (κ 0 false)
 (let t28 := (wr .i64 (100 * r12_0))
 let t30 := (wr .i64 (t28 + r17_0))
 br (ltI 4503599627370496 t30) (κ 0 false)
 (let t34 := (wr .i64 (100 * r12_0))
 let t36 := (wr .i64 (t34 + r17_0))
 κ t36 true)))))
def r9_money (m : Nat) : Y_r9_money R := r9_money_F m (r9_number m)
abbrev Y_r9p_is (R : Type) := T9parser → Bs → (Bool → T9parser → O R) → O R
def r9p_is_F (m : Nat) (c0 : Y_r9p_w R) : Y_r9p_is R := fun o0 a1 κ =>
 c0 o0 (fun r7 o0_7 =>
 br (ltI o0_7.f_bad 0) (br (eqI r7.f_Kind 2) (c0 o0_7 (fun r24 o0_24 =>
 let t27 := (eqL r24.f_Text a1)
 κ t27 o0_24))
 (br (eqI r7.f_Kind 7) (c0 o0_7 (fun r24 o0_24 =>
 let t27 := (eqL r24.f_Text a1)
 κ t27 o0_24))
 (κ false o0_7)))
 (κ false o0_7))
def r9p_is (m : Nat) : Y_r9p_is R := r9p_is_F m (r9p_w m)
abbrev Y_r9p_limit (R : Type) := T9parser → (T9parser → O R) → O R
def r9p_limit_F (m : Nat) (c0 : Y_r9p_w R) : Y_r9p_limit R := fun o0 κ =>
 br (ltI o0.f_bad 0) (c0 o0 (fun r9 o0_9 =>
 κ (T9parser.mk o0_9.f_l o0_9.f_k r9.f_At true o0_9.f_d)))
 (κ o0)
def r9p_limit (m : Nat) : Y_r9p_limit R := r9p_limit_F m (r9p_w m)
abbrev Y_r9p_fail (R : Type) := T9parser → (T9parser → O R) → O R
def r9p_fail_F (m : Nat) (c0 : Y_r9p_w R) : Y_r9p_fail R := fun o0 κ =>
 br (ltI o0.f_bad 0) (c0 o0 (fun r9 o0_9 =>
 κ (T9parser.mk o0_9.f_l o0_9.f_k r9.f_At o0_9.f_deep o0_9.f_d)))
 (κ o0)
def r9p_fail (m : Nat) : Y_r9p_fail R := r9p_fail_F m (r9p_w m)
abbrev Y_typ_One (R : Type) := Bs → Int → (Int → O R) → O R
def typ_One_F (m : Nat) (c0 : Y_typ_number R) : Y_typ_One R := fun a0 a1 κ =>
 br (eqL a0 snot) (br (eqI a1 1) (κ a1)
 (br (eqL a0 sneg) (c0 a1 (fun r16 =>
 br r16 (κ a1)
 (κ 0)))
 (κ 0)))
 (br (eqL a0 sneg) (c0 a1 (fun r16 =>
 br r16 (κ a1)
 (κ 0)))
 (κ 0))
def typ_One (m : Nat) : Y_typ_One R := typ_One_F m (typ_number m)
abbrev Y_typ_sum (R : Type) := Bs → Int → Int → (Int → O R) → O R
def typ_sum_F (m : Nat) (c0 : Y_typ_number R) : Y_typ_sum R := fun a0 a1 a2 κ =>
 lt (br (eqI a1 5) (br (eqI a2 2) (κ 5)
 (br (eqI a1 5) (br (eqI a2 5) (br (eqL a0 s_45) (κ 2)
 (κ 0))
 (κ 0))
 (κ 0)))
 (br (eqI a1 5) (br (eqI a2 5) (br (eqL a0 s_45) (κ 2)
 (κ 0))
 (κ 0))
 (κ 0)))
 fun j0 =>
 br (eqI a1 a2) (c0 a1 (fun r13 =>
 br r13 (κ a1)
 (j0)))
 (j0)
def typ_sum (m : Nat) : Y_typ_sum R := typ_sum_F m (typ_number m)
abbrev Y_typ_product (R : Type) := Int → Int → (Int → O R) → O R
def typ_product_F (m : Nat) (c0 : Y_typ_number R) : Y_typ_product R := fun a0 a1 κ =>
 br (ltI a1 a0) (br (eqI a1 2) (c0 a0 (fun r15 =>
 br r15 (κ a0)
 (br (eqI a1 3) (br (eqI a0 4) (κ 3)
 (κ 0))
 (κ 0))))
 (br (eqI a1 3) (br (eqI a0 4) (κ 3)
 (κ 0))
 (κ 0)))
 (br (eqI a0 2) (c0 a1 (fun r15 =>
 br r15 (κ a1)
 (br (eqI a0 3) (br (eqI a1 4) (κ 3)
 (κ 0))
 (κ 0))))
 (br (eqI a0 3) (br (eqI a1 4) (κ 3)
 (κ 0))
 (κ 0)))
def typ_product (m : Nat) : Y_typ_product R := typ_product_F m (typ_number m)
abbrev Y_r9_percent (R : Type) := Bs → Bs → (Int → Bool → O R) → O R
abbrev r9_percent_T0 (R : Type) := Bs → Bs → O R
abbrev r9_percent_E0 (R : Type) := Bs → Bs → O R
abbrev r9_percent_V0 (R : Type) := r9_percent_E0 R → Nat → r9_percent_T0 R
def r9_percent_S0 (m : Nat) (ρ : r9_percent_T0 R) (e0 : r9_percent_E0 R) : r9_percent_T0 R := fun x0 x1 =>
 let t11 := (x0.length : Int)
 br (ltI t11 4) (br (catOk x0 s0) (let t14 := (x0 ++ s0)
 ρ t14 x1) none)
 (e0 x0 x1)
def r9_percent_L0 (m : Nat) : r9_percent_V0 R := fun e0 => itN Zf.z fun ρ => r9_percent_S0 m ρ e0
theorem r9_percent_L0s {m j : Nat} {e0 : r9_percent_E0 R} : r9_percent_L0 m e0 (j + 1) = r9_percent_S0 m (r9_percent_L0 m e0 j) e0 := rfl
def r9_percent_F (m : Nat) (c0 : Y_r9_number R) (l0 : r9_percent_V0 R) : Y_r9_percent R := fun a0 a1 κ =>
 l0 (fun y0_0 y0_1 =>
 c0 y0_1 1000000000000 (fun r17_0 r17_1 =>
 c0 y0_0 9999 (fun r22_0 r22_1 =>
 br (!r17_1) (κ 0 false)
 (br (ltI 100000000 r17_0) (κ 0 false)
 (let t33 := (wr .i64 (10000 * r17_0))
 let t35 := (wr .i64 (t33 + r22_0))
 br (ltI 1000000000000 t35) (κ 0 false)
 (let t39 := (wr .i64 (10000 * r17_0))
 let t41 := (wr .i64 (t39 + r22_0))
 κ t41 true)))))) m a1 a0
def r9_percent (m : Nat) : Y_r9_percent R := r9_percent_F m (r9_number m) (r9_percent_L0 m)
abbrev Y_num_product (R : Type) := Int → Int → (TnumWide → O R) → O R
def num_product_F (m : Nat) (c0 : Y_b_Mul64 R) : Y_num_product R := fun a0 a1 κ =>
 let t10 := (wr .u64 a0)
 let t12 := (wr .u64 a1)
 c0 t10 t12 (fun r13_0 r13_1 =>
 let t17 := (wr .i64 r13_0)
 br (ltI a0 0) (let t22 := (wr .i64 (t17 - a1))
 br (ltI a1 0) (let t27 := (wr .i64 (t22 - a0))
 κ (TnumWide.mk t27 r13_1))
 (κ (TnumWide.mk t22 r13_1)))
 (br (ltI a1 0) (let t27 := (wr .i64 (t17 - a0))
 κ (TnumWide.mk t27 r13_1))
 (κ (TnumWide.mk t17 r13_1))))
def num_product (m : Nat) : Y_num_product R := num_product_F m (b_Mul64 m)
abbrev Y_num_Wide_turned (R : Type) := TnumWide → (TnumWide → O R) → O R
def num_Wide_turned_F (m : Nat) (c0 : Y_b_Sub64 R) : Y_num_Wide_turned R := fun a0 κ =>
 c0 0 a0.f_Lo 0 (fun r10_0 r10_1 =>
 let t16 := (wr .u64 a0.f_Hi)
 c0 0 t16 r10_1 (fun r18_0 r18_1 =>
 let t22 := (wr .i64 r18_0)
 κ (TnumWide.mk t22 r10_0)))
def num_Wide_turned (m : Nat) : Y_num_Wide_turned R := num_Wide_turned_F m (b_Sub64 m)
abbrev Y_num_Wide_Plus (R : Type) := TnumWide → TnumWide → (TnumWide → Bool → O R) → O R
def num_Wide_Plus_F (m : Nat) (c0 : Y_b_Add64 R) : Y_num_Wide_Plus R := fun a0 a1 κ =>
 c0 a0.f_Lo a1.f_Lo 0 (fun r16_0 r16_1 =>
 let t22 := (wr .u64 a0.f_Hi)
 let t25 := (wr .u64 a1.f_Hi)
 c0 t22 t25 r16_1 (fun r27_0 r27_1 =>
 let t31 := (wr .i64 r27_0)
 let t36 := (ltI a0.f_Hi 0)
 let t39 := (ltI a1.f_Hi 0)
 br (eqB t36 t39) (let t44 := (ltI t31 0)
 let t47 := (ltI a0.f_Hi 0)
 br (!(eqB t44 t47)) (κ (TnumWide.mk 0 0) false)
 (κ (TnumWide.mk t31 r16_0) true))
 (κ (TnumWide.mk t31 r16_0) true)))
def num_Wide_Plus (m : Nat) : Y_num_Wide_Plus R := num_Wide_Plus_F m (b_Add64 m)
abbrev Y_b_LeadingZeros64 (R : Type) := Int → (Int → O R) → O R
def b_LeadingZeros64_F (m : Nat) (c0 : Y_b_Len64 R) : Y_b_LeadingZeros64 R := fun a0 κ =>
 c0 a0 (fun r4 =>
 let t5 := (wr .i64 (64 - r4))
 κ t5)
def b_LeadingZeros64 (m : Nat) : Y_b_LeadingZeros64 R := b_LeadingZeros64_F m (b_Len64 m)
abbrev Y_slices_ContainsF (R : Type) := List TsynNode → (Bool → O R) → O R
def slices_ContainsF_F (m : Nat) (c0 : Y_slices_IndexFunc R) : Y_slices_ContainsF R := fun a0 κ =>
 c0 a0 (fun r7 =>
 let t8 := (leI 0 r7)
 κ t8)
def slices_ContainsF (m : Nat) : Y_slices_ContainsF R := slices_ContainsF_F m (slices_IndexFunc m)
abbrev Y_r1_Date (R : Type) := Int → (Int → Int → Int → Bool → O R) → O R
abbrev r1_Date_T1 (R : Type) := Int → Int → Int → O R
abbrev r1_Date_E1 (R : Type) := Int → Int → Int → O R
abbrev r1_Date_V1 (R : Type) := r1_Date_E1 R → Nat → r1_Date_T1 R
def r1_Date_S1 (m : Nat) (c1 : Y_r1_Days R) (ρ : r1_Date_T1 R) (e2 : r1_Date_E1 R) : r1_Date_T1 R := fun x0 x1 x2 =>
 c1 x1 x0 (fun r28 =>
 br (leI r28 x2) (c1 x1 x0 (fun r33 =>
 let t34 := (wr .i64 (x2 - r33))
 let t36 := (wr .i64 (x0 + 1))
 ρ t36 x1 t34))
 (e2 x2 x0 x1))
def r1_Date_L1 (m : Nat) (c1 : Y_r1_Days R) : r1_Date_V1 R := fun e2 => itN Zf.z fun ρ => r1_Date_S1 m c1 ρ e2
theorem r1_Date_L1s {m j : Nat} {c1 : Y_r1_Days R} {e2 : r1_Date_E1 R} : r1_Date_L1 m c1 e2 (j + 1) = r1_Date_S1 m c1 (r1_Date_L1 m c1 e2 j) e2 := rfl
abbrev r1_Date_T0 (R : Type) := Int → Int → O R
abbrev r1_Date_E0 (R : Type) := Int → Int → O R
abbrev r1_Date_V0 (R : Type) := r1_Date_E0 R → Nat → r1_Date_T0 R
def r1_Date_S0 (m : Nat) (c0 : Y_r1_Leap R) (ρ : r1_Date_T0 R) (e0 : r1_Date_E0 R) : r1_Date_T0 R := fun x0 x1 =>
 c0 x0 (fun r16 =>
 br r16 (br (ltI x1 366) (e0 x0 x1)
 (let t22 := (wr .i64 (x1 - 366))
 let t24 := (wr .i64 (x0 + 1))
 ρ t24 t22))
 (br (ltI x1 365) (e0 x0 x1)
 (let t22 := (wr .i64 (x1 - 365))
 let t24 := (wr .i64 (x0 + 1))
 ρ t24 t22)))
def r1_Date_L0 (m : Nat) (c0 : Y_r1_Leap R) : r1_Date_V0 R := fun e0 => itN Zf.z fun ρ => r1_Date_S0 m c0 ρ e0
theorem r1_Date_L0s {m j : Nat} {c0 : Y_r1_Leap R} {e0 : r1_Date_E0 R} : r1_Date_L0 m c0 e0 (j + 1) = r1_Date_S0 m c0 (r1_Date_L0 m c0 e0 j) e0 := rfl
def r1_Date_F (m : Nat) (l0 : r1_Date_V0 R) (l1 : r1_Date_V1 R) : Y_r1_Date R := fun a0 κ =>
 br (ltI a0 0) (κ 0 0 0 false)
 (br (ltI 109572 a0) (κ 0 0 0 false)
 (l0 (fun y0_0 y0_1 =>
 l1 (fun y1_0 y1_1 y1_2 =>
 let t40 := (wr .i64 (y1_0 + 1))
 κ y1_2 y1_1 t40 true) m 1 y0_0 y0_1) m 1900 a0))
def r1_Date (m : Nat) : Y_r1_Date R := r1_Date_F m (r1_Date_L0 m (r1_Leap m)) (r1_Date_L1 m (r1_Days m))
abbrev Y_r9p_take (R : Type) := T9parser → Bs → (Bool → T9parser → O R) → O R
def r9p_take_F (m : Nat) (c0 : Y_r9p_is R) : Y_r9p_take R := fun o0 a1 κ =>
 c0 o0 a1 (fun r7 o0_7 =>
 br (!r7) (κ false o0_7)
 (let t13 := (wr .i64 (o0_7.f_k + 1))
 κ true (T9parser.mk o0_7.f_l t13 o0_7.f_bad o0_7.f_deep o0_7.f_d)))
def r9p_take (m : Nat) : Y_r9p_take R := r9p_take_F m (r9p_is m)
abbrev Y_r9p_name (R : Type) := T9parser → (Bs → T9parser → O R) → O R
def r9p_name_F (m : Nat) (c0 : Y_r9p_fail R) (c1 : Y_r9p_w R) : Y_r9p_name R := fun o0 κ =>
 br (leI 0 o0.f_bad) (c0 o0 (fun o0_15 =>
 κ [] o0_15))
 (c1 o0 (fun r10 o0_10 =>
 br (!(eqI r10.f_Kind 1)) (c0 o0_10 (fun o0_15 =>
 κ [] o0_15))
 (let t20 := (wr .i64 (o0_10.f_k + 1))
 let t31 := (wr .i64 (t20 - 1))
 br (inB t31 o0_10.f_l.length) (let t32 := (el8 o0_10.f_l (iNat t31))
 κ t32.f_Text (T9parser.mk o0_10.f_l t20 o0_10.f_bad o0_10.f_deep o0_10.f_d)) none)))
def r9p_name (m : Nat) : Y_r9p_name R := r9p_name_F m (r9p_fail m) (r9p_w m)
abbrev Y_r9p_in (R : Type) := T9parser → (Bool → T9parser → O R) → O R
def r9p_in_F (m : Nat) (c0 : Y_r9p_limit R) : Y_r9p_in R := fun o0 κ =>
 br (leI 0 o0.f_bad) (κ false o0)
 (br (leI 40 o0.f_d) (c0 o0 (fun o0_14 =>
 κ false o0_14))
 (let t19 := (wr .i64 (o0.f_d + 1))
 κ true (T9parser.mk o0.f_l o0.f_k o0.f_bad o0.f_deep t19)))
def r9p_in (m : Nat) : Y_r9p_in R := r9p_in_F m (r9p_limit m)
abbrev Y_r9p_islit (R : Type) := T9parser → (Bool → T9parser → O R) → O R
def r9p_islit_F (m : Nat) (c0 : Y_r9p_w R) (c1 : Y_r9p_is R) : Y_r9p_islit R := fun o0 κ =>
 c0 o0 (fun r5 o0_5 =>
 br (ltI o0_5.f_bad 0) (br (leI 3 r5.f_Kind) (br (leI r5.f_Kind 6) (κ true o0_5)
 (c1 o0_5 strue (fun r21 o0_21 =>
 br r21 (κ true o0_21)
 (c1 o0_21 sfalse (fun r25 o0_25 =>
 κ r25 o0_25)))))
 (c1 o0_5 strue (fun r21 o0_21 =>
 br r21 (κ true o0_21)
 (c1 o0_21 sfalse (fun r25 o0_25 =>
 κ r25 o0_25)))))
 (κ false o0_5))
def r9p_islit (m : Nat) : Y_r9p_islit R := r9p_islit_F m (r9p_w m) (r9p_is m)
abbrev Y_r1_Day (R : Type) := Int → Int → Int → (Int → Bool → O R) → O R
abbrev r1_Day_T1 (R : Type) := Int → Int → Int → Int → Int → O R
abbrev r1_Day_E1 (R : Type) := Int → Int → O R
abbrev r1_Day_V1 (R : Type) := r1_Day_E1 R → Nat → r1_Day_T1 R
def r1_Day_S1 (m : Nat) (c0 : Y_r1_Days R) (ρ : r1_Day_T1 R) (e2 : r1_Day_E1 R) : r1_Day_T1 R := fun x0 x1 x2 x3 x4 =>
 br (ltI x0 x4) (c0 x1 x0 (fun r55 =>
 let t56 := (wr .i64 (x2 + r55))
 let t51 := (wr .i64 (x0 + 1))
 ρ t51 x1 t56 x3 x4))
 (e2 x3 x2)
def r1_Day_L1 (m : Nat) (c0 : Y_r1_Days R) : r1_Day_V1 R := fun e2 => itN Zf.z fun ρ => r1_Day_S1 m c0 ρ e2
theorem r1_Day_L1s {m j : Nat} {c0 : Y_r1_Days R} {e2 : r1_Day_E1 R} : r1_Day_L1 m c0 e2 (j + 1) = r1_Day_S1 m c0 (r1_Day_L1 m c0 e2 j) e2 := rfl
abbrev r1_Day_T0 (R : Type) := Int → Int → Int → Int → Int → O R
abbrev r1_Day_E0 (R : Type) := Int → Int → Int → Int → O R
abbrev r1_Day_V0 (R : Type) := r1_Day_E0 R → Nat → r1_Day_T0 R
def r1_Day_S0 (m : Nat) (c1 : Y_r1_Leap R) (ρ : r1_Day_T0 R) (e0 : r1_Day_E0 R) : r1_Day_T0 R := fun x0 x1 x2 x3 x4 =>
 br (ltI x0 x2) (let t42 := (wr .i64 (x1 + 365))
 c1 x0 (fun r44 =>
 br r44 (let t46 := (wr .i64 (t42 + 1))
 let t40 := (wr .i64 (x0 + 1))
 ρ t40 t46 x2 x3 x4)
 (let t40 := (wr .i64 (x0 + 1))
 ρ t40 t42 x2 x3 x4)))
 (e0 x2 x1 x3 x4)
def r1_Day_L0 (m : Nat) (c1 : Y_r1_Leap R) : r1_Day_V0 R := fun e0 => itN Zf.z fun ρ => r1_Day_S0 m c1 ρ e0
theorem r1_Day_L0s {m j : Nat} {c1 : Y_r1_Leap R} {e0 : r1_Day_E0 R} : r1_Day_L0 m c1 e0 (j + 1) = r1_Day_S0 m c1 (r1_Day_L0 m c1 e0 j) e0 := rfl
def r1_Day_F (m : Nat) (c0 : Y_r1_Days R) (l0 : r1_Day_V0 R) (l1 : r1_Day_V1 R) : Y_r1_Day R := fun a0 a1 a2 κ =>
 br (ltI a0 1900) (κ 0 false)
 (br (ltI 2199 a0) (κ 0 false)
 (br (ltI a1 1) (κ 0 false)
 (br (ltI 12 a1) (κ 0 false)
 (br (ltI a2 1) (κ 0 false)
 (c0 a0 a1 (fun r33 =>
 br (ltI r33 a2) (κ 0 false)
 (l0 (fun y0_0 y0_1 y0_2 y0_3 =>
 l1 (fun y1_0 y1_1 =>
 let t59 := (wr .i64 (y1_1 + y1_0))
 let t60 := (wr .i64 (t59 - 1))
 κ t60 true) m 1 y0_0 y0_1 y0_2 y0_3) m 1900 0 a0 a2 a1)))))))
def r1_Day (m : Nat) : Y_r1_Day R := r1_Day_F m (r1_Days m) (r1_Day_L0 m (r1_Leap m)) (r1_Day_L1 m (r1_Days m))
abbrev Y_b_Div64 (R : Type) := Int → Int → Int → (Int → Int → O R) → O R
abbrev b_Div64_T1 (R : Type) := Int → Int → Int → Int → Int → Int → Int → Int → Int → O R
abbrev b_Div64_E1 (R : Type) := Int → Int → Int → Int → Int → Int → O R
abbrev b_Div64_V1 (R : Type) := b_Div64_E1 R → Nat → b_Div64_T1 R
def b_Div64_S1 (m : Nat) (ρ : b_Div64_T1 R) (e2 : b_Div64_E1 R) : b_Div64_T1 R := fun x0 x1 x2 x3 x4 x5 x6 x7 x8 =>
 lt (let t115 := (wr .u64 (x7 - 1))
 let t118 := (wr .u64 (x6 + x5))
 br (leI 4294967296 t118) (e2 x0 x1 t115 x2 x3 x4)
 (ρ x0 x1 x2 x3 x4 x5 t118 t115 x8))
 fun j0 =>
 br (leI 4294967296 x7) (j0)
 (let t107 := (wr .u64 (x7 * x8))
 let t109 := (wr .u64 (4294967296 * x6))
 let t111 := (wr .u64 (t109 + x2))
 br (ltI t111 t107) (j0)
 (e2 x0 x1 x7 x2 x3 x4))
def b_Div64_L1 (m : Nat) : b_Div64_V1 R := fun e2 => itN Zf.z fun ρ => b_Div64_S1 m ρ e2
theorem b_Div64_L1s {m j : Nat} {e2 : b_Div64_E1 R} : b_Div64_L1 m e2 (j + 1) = b_Div64_S1 m (b_Div64_L1 m e2 j) e2 := rfl
abbrev b_Div64_T0 (R : Type) := Int → Int → Int → Int → Int → Int → Int → Int → Int → O R
abbrev b_Div64_E0 (R : Type) := Int → Int → Int → Int → Int → Int → Int → Int → O R
abbrev b_Div64_V0 (R : Type) := b_Div64_E0 R → Nat → b_Div64_T0 R
def b_Div64_S0 (m : Nat) (ρ : b_Div64_T0 R) (e0 : b_Div64_E0 R) : b_Div64_T0 R := fun x0 x1 x2 x3 x4 x5 x6 x7 x8 =>
 lt (let t80 := (wr .u64 (x8 - 1))
 let t83 := (wr .u64 (x7 + x3))
 br (leI 4294967296 t83) (e0 x0 x1 x2 t80 x3 x4 x5 x6)
 (ρ x0 x1 x2 x3 x4 x5 x6 t83 t80))
 fun j0 =>
 br (leI 4294967296 x8) (j0)
 (let t72 := (wr .u64 (x8 * x4))
 let t74 := (wr .u64 (4294967296 * x7))
 let t76 := (wr .u64 (t74 + x5))
 br (ltI t76 t72) (j0)
 (e0 x0 x1 x2 x8 x3 x4 x5 x6))
def b_Div64_L0 (m : Nat) : b_Div64_V0 R := fun e0 => itN Zf.z fun ρ => b_Div64_S0 m ρ e0
theorem b_Div64_L0s {m j : Nat} {e0 : b_Div64_E0 R} : b_Div64_L0 m e0 (j + 1) = b_Div64_S0 m (b_Div64_L0 m e0 j) e0 := rfl
def b_Div64_F (m : Nat) (c0 : Y_b_LeadingZeros64 R) (l0 : b_Div64_V0 R) (l1 : b_Div64_V1 R) : Y_b_Div64 R := fun a0 a1 a2 κ =>
 br (eqI a2 0) (none)
 (br (leI a2 a0) (none)
 (br (eqI a0 0) (br (!(eqI a2 0)) (let t30 := (wr .u64 (Int.tdiv a1 a2))
 br (!(eqI a2 0)) (let t33 := (Int.tmod a1 a2)
 κ t30 t33) none) none)
 (c0 a2 (fun r35 =>
 let t36 := (wr .u64 r35)
 br (leI 0 t36) (let t39 := (shlI .u64 a2 t36)
 let t41 := (shrI .u64 t39 32)
 let t43 := (andI .u64 t39 4294967295)
 br (leI 0 t36) (let t46 := (shlI .u64 a0 t36)
 let t49 := (wr .u64 (64 - t36))
 br (leI 0 t49) (let t50 := (shrI .u64 a1 t49)
 let t51 := (orI .u64 t46 t50)
 br (leI 0 t36) (let t54 := (shlI .u64 a1 t36)
 let t56 := (shrI .u64 t54 32)
 let t58 := (andI .u64 t54 4294967295)
 br (!(eqI t41 0)) (let t61 := (wr .u64 (Int.tdiv t51 t41))
 let t65 := (wr .u64 (t61 * t41))
 let t66 := (wr .u64 (t51 - t65))
 l0 (fun y0_0 y0_1 y0_2 y0_3 y0_4 y0_5 y0_6 y0_7 =>
 let t87 := (wr .u64 (y0_7 * 4294967296))
 let t89 := (wr .u64 (t87 + y0_6))
 let t92 := (wr .u64 (y0_3 * y0_1))
 let t93 := (wr .u64 (t89 - t92))
 br (!(eqI y0_4 0)) (let t96 := (wr .u64 (Int.tdiv t93 y0_4))
 let t100 := (wr .u64 (t96 * y0_4))
 let t101 := (wr .u64 (t93 - t100))
 l1 (fun y1_0 y1_1 y1_2 y1_3 y1_4 y1_5 =>
 let t122 := (wr .u64 (y1_5 * 4294967296))
 let t124 := (wr .u64 (t122 + y1_2))
 let t126 := (wr .u64 (y1_4 * 4294967296))
 let t128 := (wr .u64 (t126 + y1_3))
 let t131 := (wr .u64 (y1_2 * y1_1))
 let t132 := (wr .u64 (t128 - t131))
 br (leI 0 y1_0) (let t134 := (shrI .u64 t132 y1_0)
 κ t124 t134) none) m y0_0 y0_1 y0_2 t93 y0_3 y0_4 t101 t96 y0_5) none) m t36 t39 t58 t41 t43 t56 t51 t66 t61) none) none) none) none) none))))
def b_Div64 (m : Nat) : Y_b_Div64 R := b_Div64_F m (b_LeadingZeros64 m) (b_Div64_L0 m) (b_Div64_L1 m)
abbrev Y_r9p_kind (R : Type) := T9parser → (Int → T9parser → O R) → O R
def r9p_kind_F (m : Nat) (c0 : Y_r9p_w R) (c1 : Y_r9_Kind R) (c2 : Y_r9p_fail R) : Y_r9p_kind R := fun o0 κ =>
 br (ltI o0.f_bad 0) (c0 o0 (fun r11 o0_11 =>
 br (eqI r11.f_Kind 2) (c0 o0_11 (fun r16 o0_16 =>
 c1 r16.f_Text (fun r18 =>
 br (eqI r18 0) (c2 o0_16 (fun o0_22 =>
 κ 0 o0_22))
 (let t27 := (wr .i64 (o0_16.f_k + 1))
 κ r18 (T9parser.mk o0_16.f_l t27 o0_16.f_bad o0_16.f_deep o0_16.f_d)))))
 (br (eqI 0 0) (c2 o0_11 (fun o0_22 =>
 κ 0 o0_22))
 (let t27 := (wr .i64 (o0_11.f_k + 1))
 κ 0 (T9parser.mk o0_11.f_l t27 o0_11.f_bad o0_11.f_deep o0_11.f_d)))))
 (br (eqI 0 0) (c2 o0 (fun o0_22 =>
 κ 0 o0_22))
 (let t27 := (wr .i64 (o0.f_k + 1))
 κ 0 (T9parser.mk o0.f_l t27 o0.f_bad o0.f_deep o0.f_d)))
def r9p_kind (m : Nat) : Y_r9p_kind R := r9p_kind_F m (r9p_w m) (r9_Kind m) (r9p_fail m)
abbrev Y_num_Mul (R : Type) := Int → Int → (Int → Bool → O R) → O R
def num_Mul_F (m : Nat) (c0 : Y_num_product R) (c1 : Y_num_narrow R) : Y_num_Mul R := fun a0 a1 κ =>
 c0 a0 a1 (fun r8 =>
 c1 r8 (fun r9_0 r9_1 =>
 κ r9_0 r9_1))
def num_Mul (m : Nat) : Y_num_Mul R := num_Mul_F m (num_product m) (num_narrow m)
abbrev Y_r1_ReadDay (R : Type) := Bs → (Int → Bool → O R) → O R
abbrev r1_ReadDay_T0 (R : Type) := Int → Bs → List Int → O R
abbrev r1_ReadDay_E0 (R : Type) := List Int → O R
abbrev r1_ReadDay_Z0 (R : Type) := Int → Bool → O R
abbrev r1_ReadDay_V0 (R : Type) := r1_ReadDay_E0 R → r1_ReadDay_Z0 R → Nat → r1_ReadDay_T0 R
def r1_ReadDay_S0 (m : Nat) (ρ : r1_ReadDay_T0 R) (e0 : r1_ReadDay_E0 R) (er : r1_ReadDay_Z0 R) : r1_ReadDay_T0 R := fun x0 x1 x2 =>
 lt (br (inB 2 x2.length) (let t50 := (el0 x2 (iNat 2))
 let t51 := (wr .i64 (10 * t50))
 br (inB x0 x1.length) (let t54 := (byteAt x1 x0)
 let t55 := (wr .u8 (t54 - 48))
 let t56 := (wr .i64 t55)
 let t57 := (wr .i64 (t51 + t56))
 br (inB 2 x2.length) (let t24 := (wr .i64 (x0 + 1))
 ρ t24 x1 (x2.set (iNat 2) t57)) none) none) none)
 fun j0 =>
 br (ltI x0 10) (br (eqI x0 4) (let t24 := (wr .i64 (x0 + 1))
 ρ t24 x1 x2)
 (br (eqI x0 7) (let t24 := (wr .i64 (x0 + 1))
 ρ t24 x1 x2)
 (br (inB x0 x1.length) (let t33 := (byteAt x1 x0)
 br (ltI t33 48) (er 0 false)
 (br (inB x0 x1.length) (let t38 := (byteAt x1 x0)
 br (ltI 57 t38) (er 0 false)
 (br (ltI 4 x0) (br (ltI 7 x0) (j0)
 (br (inB 1 x2.length) (let t50 := (el0 x2 (iNat 1))
 let t51 := (wr .i64 (10 * t50))
 br (inB x0 x1.length) (let t54 := (byteAt x1 x0)
 let t55 := (wr .u8 (t54 - 48))
 let t56 := (wr .i64 t55)
 let t57 := (wr .i64 (t51 + t56))
 br (inB 1 x2.length) (let t24 := (wr .i64 (x0 + 1))
 ρ t24 x1 (x2.set (iNat 1) t57)) none) none) none))
 (br (ltI 7 x0) (j0)
 (br (inB 0 x2.length) (let t50 := (el0 x2 (iNat 0))
 let t51 := (wr .i64 (10 * t50))
 br (inB x0 x1.length) (let t54 := (byteAt x1 x0)
 let t55 := (wr .u8 (t54 - 48))
 let t56 := (wr .i64 t55)
 let t57 := (wr .i64 (t51 + t56))
 br (inB 0 x2.length) (let t24 := (wr .i64 (x0 + 1))
 ρ t24 x1 (x2.set (iNat 0) t57)) none) none) none)))) none)) none)))
 (e0 x2)
def r1_ReadDay_L0 (m : Nat) : r1_ReadDay_V0 R := fun e0 er => itN Zf.z fun ρ => r1_ReadDay_S0 m ρ e0 er
theorem r1_ReadDay_L0s {m j : Nat} {e0 : r1_ReadDay_E0 R} {er : r1_ReadDay_Z0 R} : r1_ReadDay_L0 m e0 er (j + 1) = r1_ReadDay_S0 m (r1_ReadDay_L0 m e0 er j) e0 er := rfl
def r1_ReadDay_F (m : Nat) (c0 : Y_r1_Day R) (l0 : r1_ReadDay_V0 R) : Y_r1_ReadDay R := fun a0 κ =>
 let t8 := (a0.length : Int)
 br (!(eqI t8 10)) (κ 0 false)
 (br (inB 4 a0.length) (let t12 := (byteAt a0 4)
 br (!(eqI t12 45)) (κ 0 false)
 (br (inB 7 a0.length) (let t17 := (byteAt a0 7)
 br (!(eqI t17 45)) (κ 0 false)
 (l0 (fun y0_0 =>
 br (inB 0 y0_0.length) (let t61 := (el0 y0_0 (iNat 0))
 br (inB 1 y0_0.length) (let t64 := (el0 y0_0 (iNat 1))
 br (inB 2 y0_0.length) (let t67 := (el0 y0_0 (iNat 2))
 c0 t61 t64 t67 (fun r68_0 r68_1 =>
 κ r68_0 r68_1)) none) none) none) (fun z0_0 z0_1 =>
 κ z0_0 z0_1) m 0 a0 ([0, 0, 0]))) none)) none)
def r1_ReadDay (m : Nat) : Y_r1_ReadDay R := r1_ReadDay_F m (r1_Day m) (r1_ReadDay_L0 m)
abbrev Y_r1_DayText (R : Type) := Int → (Bs → O R) → O R
def r1_DayText_F (m : Nat) (c0 : Y_r1_Date R) (c1 : Y_r1_two R) : Y_r1_DayText R := fun a0 κ =>
 c0 a0 (fun r9_0 r9_1 r9_2 r9_3 =>
 br (!r9_3) (κ [])
 (let t17 := (wr .i64 (Int.tdiv r9_0 100))
 c1 t17 (fun r18 =>
 c1 r9_0 (fun r20 =>
 br (catOk r18 r20) (let t21 := (r18 ++ r20)
 br (catOk t21 s_45) (let t22 := (t21 ++ s_45)
 c1 r9_1 (fun r24 =>
 br (catOk t22 r24) (let t25 := (t22 ++ r24)
 br (catOk t25 s_45) (let t26 := (t25 ++ s_45)
 c1 r9_2 (fun r28 =>
 br (catOk t26 r28) (let t29 := (t26 ++ r28)
 κ t29) none)) none) none)) none) none))))
def r1_DayText (m : Nat) : Y_r1_DayText R := r1_DayText_F m (r1_Date m) (r1_two m)
abbrev Y_r9p_want (R : Type) := T9parser → Bs → (T9parser → O R) → O R
def r9p_want_F (m : Nat) (c0 : Y_r9p_take R) (c1 : Y_r9p_fail R) : Y_r9p_want R := fun o0 a1 κ =>
 c0 o0 a1 (fun r6 o0_6 =>
 br (!r6) (c1 o0_6 (fun o0_9 =>
 κ o0_9))
 (κ o0_6))
def r9p_want (m : Nat) : Y_r9p_want R := r9p_want_F m (r9p_take m) (r9p_fail m)
abbrev Y_r9p_lit (R : Type) := T9parser → (T9Node → T9parser → O R) → O R
def r9p_lit_F (m : Nat) (c0 : Y_r9p_islit R) (c1 : Y_r9p_fail R) (c2 : Y_r9p_w R) : Y_r9p_lit R := fun o0 κ =>
 c0 o0 (fun r6 o0_6 =>
 br (!r6) (c1 o0_6 (fun o0_9 =>
 κ (T9Node.mk [] [] 0 0 0 []) o0_9))
 (c2 o0_6 (fun r12 o0_12 =>
 let t17 := (wr .i64 (o0_12.f_k + 1))
 br (eqI r12.f_Kind 3) (κ (T9Node.mk slit [] 2 r12.f_N r12.f_At []) (T9parser.mk o0_12.f_l t17 o0_12.f_bad o0_12.f_deep o0_12.f_d))
 (br (eqI r12.f_Kind 4) (κ (T9Node.mk slit [] 3 r12.f_N r12.f_At []) (T9parser.mk o0_12.f_l t17 o0_12.f_bad o0_12.f_deep o0_12.f_d))
 (br (eqI r12.f_Kind 5) (κ (T9Node.mk slit [] 4 r12.f_N r12.f_At []) (T9parser.mk o0_12.f_l t17 o0_12.f_bad o0_12.f_deep o0_12.f_d))
 (br (eqI r12.f_Kind 6) (κ (T9Node.mk slit [] 5 r12.f_N r12.f_At []) (T9parser.mk o0_12.f_l t17 o0_12.f_bad o0_12.f_deep o0_12.f_d))
 (br (eqL r12.f_Text strue) (κ (T9Node.mk slit [] 1 1 r12.f_At []) (T9parser.mk o0_12.f_l t17 o0_12.f_bad o0_12.f_deep o0_12.f_d))
 (κ (T9Node.mk slit [] 1 r12.f_N r12.f_At []) (T9parser.mk o0_12.f_l t17 o0_12.f_bad o0_12.f_deep o0_12.f_d)))))))))
def r9p_lit (m : Nat) : Y_r9p_lit R := r9p_lit_F m (r9p_islit m) (r9p_fail m) (r9p_w m)
abbrev Y_typ_Two (R : Type) := Bs → Int → Int → (Int → O R) → O R
def typ_Two_F (m : Nat) (c0 : Y_typ_sum R) (c1 : Y_typ_product R) (c2 : Y_typ_quotient R) (c3 : Y_typ_ordered R) : Y_typ_Two R := fun a0 a1 a2 κ =>
 br (eqL a0 s_43) (c0 a0 a1 a2 (fun r14 =>
 κ r14))
 (br (eqL a0 s_45) (c0 a0 a1 a2 (fun r14 =>
 κ r14))
 (br (eqL a0 s_42) (c1 a1 a2 (fun r19 =>
 κ r19))
 (br (eqL a0 s_47) (c2 a1 a2 (fun r24 =>
 κ r24))
 (br (eqL a0 s_60) (br (eqI a1 a2) (c3 a1 (fun r35 =>
 br r35 (κ 1)
 (κ 0)))
 (κ 0))
 (br (eqL a0 s_60_61) (br (eqI a1 a2) (c3 a1 (fun r35 =>
 br r35 (κ 1)
 (κ 0)))
 (κ 0))
 (br (eqL a0 s_62) (br (eqI a1 a2) (c3 a1 (fun r35 =>
 br r35 (κ 1)
 (κ 0)))
 (κ 0))
 (br (eqL a0 s_62_61) (br (eqI a1 a2) (c3 a1 (fun r35 =>
 br r35 (κ 1)
 (κ 0)))
 (κ 0))
 (br (eqL a0 s_61_61) (br (eqI a1 a2) (c3 a1 (fun r45 =>
 br r45 (κ 1)
 (br (eqI a1 1) (κ 1)
 (κ 0))))
 (κ 0))
 (br (eqL a0 s_33_61) (br (eqI a1 a2) (c3 a1 (fun r45 =>
 br r45 (κ 1)
 (br (eqI a1 1) (κ 1)
 (κ 0))))
 (κ 0))
 (br (eqL a0 sand) (br (eqI a1 1) (br (eqI a2 1) (κ 1)
 (κ 0))
 (κ 0))
 (br (eqL a0 sor) (br (eqI a1 1) (br (eqI a2 1) (κ 1)
 (κ 0))
 (κ 0))
 (br (eqL a0 smin) (br (eqI a1 a2) (c3 a1 (fun r68 =>
 br r68 (κ a1)
 (κ 0)))
 (κ 0))
 (br (eqL a0 smax) (br (eqI a1 a2) (c3 a1 (fun r68 =>
 br r68 (κ a1)
 (κ 0)))
 (κ 0))
 (κ 0))))))))))))))
def typ_Two (m : Nat) : Y_typ_Two R := typ_Two_F m (typ_sum m) (typ_product m) (typ_quotient m) (typ_ordered m)
abbrev Y_mean_one (R : Type) := Bs → TapiValue → (TapiValue → Int → O R) → O R
def mean_one_F (m : Nat) (c0 : Y_typ_One R) (c1 : Y_mean_truth R) (c2 : Y_num_Sub R) (c3 : Y_mean_made R) : Y_mean_one R := fun a0 a1 κ =>
 c0 a0 a1.f_Kind (fun r12 =>
 br (eqI r12 0) (κ (TapiValue.mk 0 0 []) 8)
 (br (eqL a0 snot) (let t20 := (eqI a1.f_N 0)
 c1 t20 (fun r21_0 r21_1 =>
 κ r21_0 r21_1))
 (c2 0 a1.f_N (fun r27_0 r27_1 =>
 c3 r12 r27_0 r27_1 (fun r33_0 r33_1 =>
 κ r33_0 r33_1)))))
def mean_one (m : Nat) : Y_mean_one R := mean_one_F m (typ_One m) (mean_truth m) (num_Sub m) (mean_made m)
abbrev Y_r9_Lit (R : Type) := Int → Int → (Bs → O R) → O R
structure G_r9_Lit (R : Type) where
  r9_Lit : Y_r9_Lit R
def r9_Lit_F (m : Nat) (c0 : Y_r9_Lit R) (c1 : Y_r1_Text R) (c2 : Y_r9_digitsOf R) (c3 : Y_r1_DayText R) : Y_r9_Lit R := fun a0 a1 κ =>
 lt (br (eqI a0 1) (br (eqI a1 0) (κ sfalse)
 (κ strue))
 (br (eqI a0 2) (c1 a1 (fun r28 =>
 κ r28))
 (br (eqI a0 3) (let t32 := (wr .i64 (Int.tdiv a1 100))
 c1 t32 (fun r33 =>
 br (catOk s_36 r33) (let t34 := (s_36 ++ r33)
 br (catOk t34 s_46) (let t35 := (t34 ++ s_46)
 let t37 := (Int.tmod a1 100)
 c2 t37 2 (fun r38 =>
 br (catOk t35 r38) (let t39 := (t35 ++ r38)
 κ t39) none)) none) none))
 (br (eqI a0 4) (let t43 := (wr .i64 (Int.tdiv a1 10000))
 c1 t43 (fun r44 =>
 br (catOk r44 s_46) (let t45 := (r44 ++ s_46)
 let t47 := (Int.tmod a1 10000)
 c2 t47 4 (fun r48 =>
 br (catOk t45 r48) (let t49 := (t45 ++ r48)
 br (catOk t49 s_37) (let t50 := (t49 ++ s_37)
 κ t50) none) none)) none))
 (c3 a1 (fun r52 =>
 κ r52))))))
 fun j0 =>
 br (ltI a1 0) (br (!(eqI a0 1)) (br (!(eqI a0 5)) (let t17 := (wr .i64 (0 - a1))
 c0 a0 t17 (fun r18 =>
 br (catOk s_45 r18) (let t19 := (s_45 ++ r18)
 κ t19) none))
 (j0))
 (j0))
 (j0)
def r9_Lit_B (m : Nat) (g : G_r9_Lit R) : Y_r9_Lit R := r9_Lit_F m g.r9_Lit (r1_Text m) (r9_digitsOf m) (r1_DayText m)
def G_r9_Lit_r : Nat → G_r9_Lit R
  | 0 => ⟨fun _ _ _ => none⟩
  | j + 1 => ⟨r9_Lit_B j (G_r9_Lit_r j)⟩
def r9_Lit (m : Nat) : Y_r9_Lit R := (G_r9_Lit_r (R := R) m).r9_Lit
abbrev Y_r9_digits (R : Type) := Bs → Int → (T9Word → Int → O R) → O R
def r9_digits_F (m : Nat) (c0 : Y_r1_ReadDay R) (c1 : Y_r9_run R) (c2 : Y_r9_percent R) (c3 : Y_r9_number R) (c4 : Y_r9_digit R) : Y_r9_digits R := fun a0 a1 κ =>
 lt (c1 a0 a1 (fun r56 =>
 lt (let t133 := (wr .i64 (a1 + r56))
 br (leI 0 a1 && (leI 0 t133 && (Nat.ble (iNat a1) (iNat t133) && Nat.ble (iNat t133) a0.length))) (let t134 := (cutL a0 (iNat a1) (iNat t133))
 c3 t134 4503599627370496 (fun r135_0 r135_1 =>
 br (!r135_1) (κ (T9Word.mk 0 [] 0 0) 0)
 (let t145 := (wr .i64 (a1 + r56))
 br (leI 0 a1 && (leI 0 t145 && (Nat.ble (iNat a1) (iNat t145) && Nat.ble (iNat t145) a0.length))) (let t146 := (cutL a0 (iNat a1) (iNat t145))
 κ (T9Word.mk 3 t146 r135_0 a1) r56) none))) none)
 fun j2 =>
 let t59 := (wr .i64 (a1 + r56))
 lt (let t94 := (a0.length : Int)
 br (ltI t59 t94) (br (inB t59 a0.length) (let t99 := (byteAt a0 t59)
 br (eqI t99 37) (let t107 := (wr .i64 (a1 + r56))
 br (leI 0 a1 && (leI 0 t107 && (Nat.ble (iNat a1) (iNat t107) && Nat.ble (iNat t107) a0.length))) (let t108 := (cutL a0 (iNat a1) (iNat t107))
 c2 t108 [] (fun r110_0 r110_1 =>
 br (!r110_1) (κ (T9Word.mk 0 [] 0 0) 0)
 (let t119 := (wr .i64 (t59 + 1))
 br (leI 0 a1 && (leI 0 t119 && (Nat.ble (iNat a1) (iNat t119) && Nat.ble (iNat t119) a0.length))) (let t120 := (cutL a0 (iNat a1) (iNat t119))
 let t125 := (wr .i64 (t59 + 1))
 let t127 := (wr .i64 (t125 - a1))
 κ (T9Word.mk 5 t120 r110_0 a1) t127) none))) none)
 (j2)) none)
 (j2))
 fun j3 =>
 let t62 := (a0.length : Int)
 br (ltI t59 t62) (br (inB t59 a0.length) (let t67 := (byteAt a0 t59)
 br (eqI t67 46) (let t72 := (wr .i64 (t59 + 1))
 c1 a0 t72 (fun r73 =>
 br (leI 1 r73) (br (leI r73 4) (let t82 := (wr .i64 (t59 + 1))
 let t84 := (wr .i64 (t59 + 1))
 let t86 := (wr .i64 (t84 + r73))
 br (leI 0 t82 && (leI 0 t86 && (Nat.ble (iNat t82) (iNat t86) && Nat.ble (iNat t86) a0.length))) (let t87 := (cutL a0 (iNat t82) (iNat t86))
 let t89 := (wr .i64 (t59 + 1))
 let t91 := (wr .i64 (t89 + r73))
 let t94 := (a0.length : Int)
 br (ltI t91 t94) (br (inB t91 a0.length) (let t99 := (byteAt a0 t91)
 br (eqI t99 37) (let t107 := (wr .i64 (a1 + r56))
 br (leI 0 a1 && (leI 0 t107 && (Nat.ble (iNat a1) (iNat t107) && Nat.ble (iNat t107) a0.length))) (let t108 := (cutL a0 (iNat a1) (iNat t107))
 c2 t108 t87 (fun r110_0 r110_1 =>
 br (!r110_1) (κ (T9Word.mk 0 [] 0 0) 0)
 (let t119 := (wr .i64 (t91 + 1))
 br (leI 0 a1 && (leI 0 t119 && (Nat.ble (iNat a1) (iNat t119) && Nat.ble (iNat t119) a0.length))) (let t120 := (cutL a0 (iNat a1) (iNat t119))
 let t125 := (wr .i64 (t91 + 1))
 let t127 := (wr .i64 (t125 - a1))
 κ (T9Word.mk 5 t120 r110_0 a1) t127) none))) none)
 (j2)) none)
 (j2)) none)
 (j3))
 (j3)))
 (j3)) none)
 (j3)))
 fun j1 =>
 lt (let t40 := (wr .i64 (a1 + 10))
 br (leI 0 a1 && (leI 0 t40 && (Nat.ble (iNat a1) (iNat t40) && Nat.ble (iNat t40) a0.length))) (let t41 := (cutL a0 (iNat a1) (iNat t40))
 c0 t41 (fun r42_0 r42_1 =>
 br r42_1 (let t49 := (wr .i64 (a1 + 10))
 br (leI 0 a1 && (leI 0 t49 && (Nat.ble (iNat a1) (iNat t49) && Nat.ble (iNat t49) a0.length))) (let t50 := (cutL a0 (iNat a1) (iNat t49))
 κ (T9Word.mk 6 t50 r42_0 a1) 10) none)
 (j1))) none)
 fun j0 =>
 let t17 := (wr .i64 (a1 + 10))
 let t19 := (a0.length : Int)
 br (leI t17 t19) (let t23 := (wr .i64 (a1 + 10))
 let t25 := (a0.length : Int)
 br (eqI t23 t25) (j0)
 (let t30 := (wr .i64 (a1 + 10))
 br (inB t30 a0.length) (let t31 := (byteAt a0 t30)
 c4 t31 (fun r32 =>
 br (!r32) (j0)
 (j1))) none))
 (j1)
def r9_digits (m : Nat) : Y_r9_digits R := r9_digits_F m (r1_ReadDay m) (r9_run m) (r9_percent m) (r9_number m) (r9_digit m)
abbrev Y_num_Wide_Floor (R : Type) := TnumWide → Int → (Int → Bool → O R) → O R
def num_Wide_Floor_F (m : Nat) (c0 : Y_num_Wide_turned R) (c1 : Y_b_Div64 R) (c2 : Y_num_narrow R) (c3 : Y_num_Of R) (c4 : Y_num_Wide_Plus R) : Y_num_Wide_Floor R := fun a0 a1 κ =>
 br (ltI a1 1) (κ 0 false)
 (br (ltI a0.f_Hi 0) (c0 a0 (fun r18 =>
 let t20 := (wr .u64 a1)
 let t23 := (wr .u64 r18.f_Hi)
 br (leI t20 t23) (κ 0 false)
 (let t29 := (wr .u64 r18.f_Hi)
 c1 t29 r18.f_Lo t20 (fun r33_0 r33_1 =>
 br (leI 0 a0.f_Hi) (c2 (TnumWide.mk 0 r33_0) (fun r41_0 r41_1 =>
 κ r41_0 r41_1))
 (c0 (TnumWide.mk 0 r33_0) (fun r46 =>
 br (ltI 0 r33_1) (c3 (-1) (fun r51 =>
 c4 r46 r51 (fun r52_0 r52_1 =>
 c2 r52_0 (fun r56_0 r56_1 =>
 κ r56_0 r56_1))))
 (c2 r46 (fun r56_0 r56_1 =>
 κ r56_0 r56_1))))))))
 (let t20 := (wr .u64 a1)
 let t23 := (wr .u64 a0.f_Hi)
 br (leI t20 t23) (κ 0 false)
 (let t29 := (wr .u64 a0.f_Hi)
 c1 t29 a0.f_Lo t20 (fun r33_0 r33_1 =>
 br (leI 0 a0.f_Hi) (c2 (TnumWide.mk 0 r33_0) (fun r41_0 r41_1 =>
 κ r41_0 r41_1))
 (c0 (TnumWide.mk 0 r33_0) (fun r46 =>
 br (ltI 0 r33_1) (c3 (-1) (fun r51 =>
 c4 r46 r51 (fun r52_0 r52_1 =>
 c2 r52_0 (fun r56_0 r56_1 =>
 κ r56_0 r56_1))))
 (c2 r46 (fun r56_0 r56_1 =>
 κ r56_0 r56_1))))))))
def num_Wide_Floor (m : Nat) : Y_num_Wide_Floor R := num_Wide_Floor_F m (num_Wide_turned m) (b_Div64 m) (num_narrow m) (num_Of m) (num_Wide_Plus m)
abbrev Y_num_MulFloor (R : Type) := Int → Int → Int → (Int → Bool → O R) → O R
def num_MulFloor_F (m : Nat) (c0 : Y_num_product R) (c1 : Y_num_Wide_Floor R) : Y_num_MulFloor R := fun a0 a1 a2 κ =>
 c0 a0 a1 (fun r10 =>
 c1 r10 a2 (fun r12_0 r12_1 =>
 κ r12_0 r12_1))
def num_MulFloor (m : Nat) : Y_num_MulFloor R := num_MulFloor_F m (num_product m) (num_Wide_Floor m)
abbrev Y_r9_Cut (R : Type) := Bs → (List T9Word → Int → O R) → O R
abbrev r9_Cut_T0_1 (R : Type) := Int → Int → Bs → Int → Bs → Int → Int → List T9Word → O R
abbrev r9_Cut_E0_1 (R : Type) := Int → Bs → Int → Int → Bs → Int → Int → List T9Word → O R
abbrev r9_Cut_V0_1 (R : Type) := r9_Cut_E0_1 R → Nat → r9_Cut_T0_1 R
def r9_Cut_S0_1 (m : Nat) (c0 : Y_r9_letter R) (c1 : Y_r9_digit R) (ρ : r9_Cut_T0_1 R) (e5 : r9_Cut_E0_1 R) : r9_Cut_T0_1 R := fun x0 x1 x2 x3 x4 x5 x6 x7 =>
 let t67 := (wr .i64 (x1 + x0))
 let t69 := (x2.length : Int)
 br (ltI t67 t69) (let t75 := (wr .i64 (x1 + x0))
 br (inB t75 x2.length) (let t76 := (byteAt x2 t75)
 c0 t76 (fun r77 =>
 br r77 (let t96 := (wr .i64 (x0 + 1))
 ρ t96 x1 x2 x3 x4 x5 x6 x7)
 (let t82 := (wr .i64 (x1 + x0))
 br (inB t82 x2.length) (let t83 := (byteAt x2 t82)
 c1 t83 (fun r84 =>
 br r84 (let t96 := (wr .i64 (x0 + 1))
 ρ t96 x1 x2 x3 x4 x5 x6 x7)
 (let t90 := (wr .i64 (x1 + x0))
 br (inB t90 x2.length) (let t91 := (byteAt x2 t90)
 br (eqI t91 95) (let t96 := (wr .i64 (x0 + 1))
 ρ t96 x1 x2 x3 x4 x5 x6 x7)
 (e5 x1 x2 x0 x3 x4 x5 x6 x7)) none))) none))) none)
 (e5 x1 x2 x0 x3 x4 x5 x6 x7)
def r9_Cut_L0_1 (m : Nat) (c0 : Y_r9_letter R) (c1 : Y_r9_digit R) : r9_Cut_V0_1 R := fun e5 => itN Zf.z fun ρ => r9_Cut_S0_1 m c0 c1 ρ e5
theorem r9_Cut_L0_1s {m j : Nat} {c0 : Y_r9_letter R} {c1 : Y_r9_digit R} {e5 : r9_Cut_E0_1 R} : r9_Cut_L0_1 m c0 c1 e5 (j + 1) = r9_Cut_S0_1 m c0 c1 (r9_Cut_L0_1 m c0 c1 e5 j) e5 := rfl
abbrev r9_Cut_T0_0 (R : Type) := Int → Bs → List T9Word → O R
abbrev r9_Cut_E0_0 (R : Type) := Int → Bs → List T9Word → O R
abbrev r9_Cut_V0_0 (R : Type) := r9_Cut_E0_0 R → Nat → r9_Cut_T0_0 R
def r9_Cut_S0_0 (m : Nat) (ρ : r9_Cut_T0_0 R) (e2 : r9_Cut_E0_0 R) : r9_Cut_T0_0 R := fun x0 x1 x2 =>
 let t41 := (x1.length : Int)
 br (ltI x0 t41) (br (inB x0 x1.length) (let t46 := (byteAt x1 x0)
 br (!(eqI t46 10)) (let t50 := (wr .i64 (x0 + 1))
 ρ t50 x1 x2)
 (e2 x0 x1 x2)) none)
 (e2 x0 x1 x2)
def r9_Cut_L0_0 (m : Nat) : r9_Cut_V0_0 R := fun e2 => itN Zf.z fun ρ => r9_Cut_S0_0 m ρ e2
theorem r9_Cut_L0_0s {m j : Nat} {e2 : r9_Cut_E0_0 R} : r9_Cut_L0_0 m e2 (j + 1) = r9_Cut_S0_0 m (r9_Cut_L0_0 m e2 j) e2 := rfl
abbrev r9_Cut_T0 (R : Type) := Int → Bs → List T9Word → O R
abbrev r9_Cut_E0 (R : Type) := Bs → List T9Word → O R
abbrev r9_Cut_Z0 (R : Type) := List T9Word → Int → O R
abbrev r9_Cut_V0 (R : Type) := r9_Cut_E0 R → r9_Cut_Z0 R → Nat → r9_Cut_T0 R
def r9_Cut_S0 (m : Nat) (c0 : Y_r9_letter R) (c1 : Y_r9_digit R) (c2 : Y_r9_Kept R) (c3 : Y_r9_digits R) (c4 : Y_r9_run R) (c5 : Y_r9_money R) (c6 : Y_r9_sign R) (l0_0 : r9_Cut_V0_0 R) (l0_1 : r9_Cut_V0_1 R) (ρ : r9_Cut_T0 R) (e0 : r9_Cut_E0 R) (er : r9_Cut_Z0 R) : r9_Cut_T0 R := fun x0 x1 x2 =>
 lt (br (eqI 0 0) (er [] x0)
 (br (okAp 40 (x2.length + [(T9Word.mk 0 [] 0 x0)].length)) (let t202a := (x2 ++ [(T9Word.mk 0 [] 0 x0)])
 let t205 := (wr .i64 (x0 + 0))
 ρ t205 x1 t202a) none))
 fun j0 =>
 let t16 := (x1.length : Int)
 br (ltI x0 t16) (br (inB x0 x1.length) (let t20 := (byteAt x1 x0)
 br (eqI t20 32) (let t36 := (wr .i64 (x0 + 1))
 ρ t36 x1 x2)
 (br (eqI t20 9) (let t36 := (wr .i64 (x0 + 1))
 ρ t36 x1 x2)
 (br (eqI t20 10) (let t36 := (wr .i64 (x0 + 1))
 ρ t36 x1 x2)
 (br (eqI t20 13) (let t36 := (wr .i64 (x0 + 1))
 ρ t36 x1 x2)
 (br (eqI t20 35) (l0_0 (fun y0_0_0 y0_0_1 y0_0_2 =>
 ρ y0_0_0 y0_0_1 y0_0_2) m x0 x1 x2)
 (c0 t20 (fun r64 =>
 br r64 (l0_1 (fun y0_1_0 y0_1_1 y0_1_2 y0_1_3 y0_1_4 y0_1_5 y0_1_6 y0_1_7 =>
 let t102 := (wr .i64 (y0_1_0 + y0_1_2))
 br (leI 0 y0_1_0 && (leI 0 t102 && (Nat.ble (iNat y0_1_0) (iNat t102) && Nat.ble (iNat t102) y0_1_1.length))) (let t103 := (cutL y0_1_1 (iNat y0_1_0) (iNat t102))
 c2 t103 (fun r107 =>
 br r107 (br (ltI 32 y0_1_2) (br (eqI 0 0) (er [] y0_1_0)
 (br (okAp 40 (y0_1_7.length + [(T9Word.mk 2 t103 y0_1_5 y0_1_6)].length)) (let t202a := (y0_1_7 ++ [(T9Word.mk 2 t103 y0_1_5 y0_1_6)])
 let t205 := (wr .i64 (y0_1_0 + 0))
 ρ t205 y0_1_1 t202a) none))
 (br (eqI y0_1_2 0) (er [] y0_1_0)
 (br (okAp 40 (y0_1_7.length + [(T9Word.mk 2 t103 y0_1_5 y0_1_6)].length)) (let t202a := (y0_1_7 ++ [(T9Word.mk 2 t103 y0_1_5 y0_1_6)])
 let t205 := (wr .i64 (y0_1_0 + y0_1_2))
 ρ t205 y0_1_1 t202a) none)))
 (br (ltI 32 y0_1_2) (br (eqI 0 0) (er [] y0_1_0)
 (br (okAp 40 (y0_1_7.length + [(T9Word.mk 1 t103 y0_1_5 y0_1_6)].length)) (let t202a := (y0_1_7 ++ [(T9Word.mk 1 t103 y0_1_5 y0_1_6)])
 let t205 := (wr .i64 (y0_1_0 + 0))
 ρ t205 y0_1_1 t202a) none))
 (br (eqI y0_1_2 0) (er [] y0_1_0)
 (br (okAp 40 (y0_1_7.length + [(T9Word.mk 1 t103 y0_1_5 y0_1_6)].length)) (let t202a := (y0_1_7 ++ [(T9Word.mk 1 t103 y0_1_5 y0_1_6)])
 let t205 := (wr .i64 (y0_1_0 + y0_1_2))
 ρ t205 y0_1_1 t202a) none))))) none) m 0 x0 x1 0 [] 0 x0 x2)
 (c1 t20 (fun r113 =>
 br r113 (c3 x1 x0 (fun r117_0 r117_1 =>
 br (eqI r117_1 0) (er [] x0)
 (br (okAp 40 (x2.length + [r117_0].length)) (let t205 := (wr .i64 (x0 + r117_1))
 ρ t205 x1 (x2 ++ [r117_0])) none)))
 (br (eqI t20 36) (let t125 := (wr .i64 (x0 + 1))
 c4 x1 t125 (fun r126 =>
 let t128 := (wr .i64 (1 + r126))
 lt (let t171 := (wr .i64 (x0 + 1))
 let t173 := (wr .i64 (x0 + 1))
 let t175 := (wr .i64 (t173 + r126))
 br (leI 0 t171 && (leI 0 t175 && (Nat.ble (iNat t171) (iNat t175) && Nat.ble (iNat t175) x1.length))) (let t176 := (cutL x1 (iNat t171) (iNat t175))
 c5 t176 [] (fun r178_0 r178_1 =>
 br (eqI r126 0) (j0)
 (br (!r178_1) (j0)
 (let t191 := (wr .i64 (x0 + t128))
 br (leI 0 x0 && (leI 0 t191 && (Nat.ble (iNat x0) (iNat t191) && Nat.ble (iNat t191) x1.length))) (let t192 := (cutL x1 (iNat x0) (iNat t191))
 br (eqI t128 0) (er [] x0)
 (br (okAp 40 (x2.length + [(T9Word.mk 4 t192 r178_0 x0)].length)) (let t202a := (x2 ++ [(T9Word.mk 4 t192 r178_0 x0)])
 let t205 := (wr .i64 (x0 + t128))
 ρ t205 x1 t202a) none)) none)))) none)
 fun j1 =>
 br (ltI 0 r126) (let t134 := (wr .i64 (x0 + t128))
 let t136 := (x1.length : Int)
 br (ltI t134 t136) (let t143 := (wr .i64 (x0 + t128))
 br (inB t143 x1.length) (let t144 := (byteAt x1 t143)
 br (eqI t144 46) (let t151 := (wr .i64 (x0 + t128))
 let t152 := (wr .i64 (t151 + 1))
 c4 x1 t152 (fun r153 =>
 br (eqI r153 2) (let t159 := (wr .i64 (x0 + t128))
 let t160 := (wr .i64 (t159 + 1))
 let t163 := (wr .i64 (x0 + t128))
 let t164 := (wr .i64 (t163 + 3))
 br (leI 0 t160 && (leI 0 t164 && (Nat.ble (iNat t160) (iNat t164) && Nat.ble (iNat t164) x1.length))) (let t165 := (cutL x1 (iNat t160) (iNat t164))
 let t167 := (wr .i64 (t128 + 3))
 let t171 := (wr .i64 (x0 + 1))
 let t173 := (wr .i64 (x0 + 1))
 let t175 := (wr .i64 (t173 + r126))
 br (leI 0 t171 && (leI 0 t175 && (Nat.ble (iNat t171) (iNat t175) && Nat.ble (iNat t175) x1.length))) (let t176 := (cutL x1 (iNat t171) (iNat t175))
 c5 t176 t165 (fun r178_0 r178_1 =>
 br (eqI r126 0) (j0)
 (br (!r178_1) (j0)
 (let t191 := (wr .i64 (x0 + t167))
 br (leI 0 x0 && (leI 0 t191 && (Nat.ble (iNat x0) (iNat t191) && Nat.ble (iNat t191) x1.length))) (let t192 := (cutL x1 (iNat x0) (iNat t191))
 br (eqI t167 0) (er [] x0)
 (br (okAp 40 (x2.length + [(T9Word.mk 4 t192 r178_0 x0)].length)) (let t202a := (x2 ++ [(T9Word.mk 4 t192 r178_0 x0)])
 let t205 := (wr .i64 (x0 + t167))
 ρ t205 x1 t202a) none)) none)))) none) none)
 (j1)))
 (j1)) none)
 (j1))
 (j1)))
 (br (leI 0 x0 && Nat.ble (iNat x0) x1.length) (let t56 := (cutL x1 (iNat x0) x1.length)
 c6 t56 (fun r57 =>
 let t61 := (r57.length : Int)
 br (eqI t61 0) (er [] x0)
 (br (okAp 40 (x2.length + [(T9Word.mk 7 r57 0 x0)].length)) (let t202a := (x2 ++ [(T9Word.mk 7 r57 0 x0)])
 let t205 := (wr .i64 (x0 + t61))
 ρ t205 x1 t202a) none))) none))))))))))) none)
 (e0 x1 x2)
def r9_Cut_L0 (m : Nat) (c0 : Y_r9_letter R) (c1 : Y_r9_digit R) (c2 : Y_r9_Kept R) (c3 : Y_r9_digits R) (c4 : Y_r9_run R) (c5 : Y_r9_money R) (c6 : Y_r9_sign R) : r9_Cut_V0 R := fun e0 er => itN Zf.z fun ρ => r9_Cut_S0 m c0 c1 c2 c3 c4 c5 c6 (r9_Cut_L0_0 m) (r9_Cut_L0_1 m c0 c1) ρ e0 er
theorem r9_Cut_L0s {m j : Nat} {c0 : Y_r9_letter R} {c1 : Y_r9_digit R} {c2 : Y_r9_Kept R} {c3 : Y_r9_digits R} {c4 : Y_r9_run R} {c5 : Y_r9_money R} {c6 : Y_r9_sign R} {e0 : r9_Cut_E0 R} {er : r9_Cut_Z0 R} : r9_Cut_L0 m c0 c1 c2 c3 c4 c5 c6 e0 er (j + 1) = r9_Cut_S0 m c0 c1 c2 c3 c4 c5 c6 (r9_Cut_L0_0 m) (r9_Cut_L0_1 m c0 c1) (r9_Cut_L0 m c0 c1 c2 c3 c4 c5 c6 e0 er j) e0 er := rfl
def r9_Cut_F (m : Nat) (l0 : r9_Cut_V0 R) : Y_r9_Cut R := fun a0 κ =>
 let t13a := (List.replicate (iNat 0) (T9Word.mk 0 [] 0 0))
 l0 (fun y0_0 y0_1 =>
 let t208 := (y0_0.length : Int)
 br (okAp 40 (y0_1.length + [(T9Word.mk 0 [] 0 t208)].length)) (let t211a := (y0_1 ++ [(T9Word.mk 0 [] 0 t208)])
 κ t211a (-1)) none) (fun z0_0 z0_1 =>
 κ z0_0 z0_1) m 0 a0 t13a
def r9_Cut (m : Nat) : Y_r9_Cut R := r9_Cut_F m (r9_Cut_L0 m (r9_letter m) (r9_digit m) (r9_Kept m) (r9_digits m) (r9_run m) (r9_money m) (r9_sign m))
abbrev Y_r9p_expr (R : Type) := T9parser → (T9Node → T9parser → O R) → O R
abbrev Y_r9p_inside (R : Type) := T9parser → (T9Node → T9parser → O R) → O R
abbrev Y_r9p_row (R : Type) := T9parser → Int → (T9Node → T9parser → O R) → O R
abbrev Y_r9p_un (R : Type) := T9parser → (T9Node → T9parser → O R) → O R
abbrev Y_r9p_prim (R : Type) := T9parser → (T9Node → T9parser → O R) → O R
structure G_r9p_expr (R : Type) where
  r9p_expr : Y_r9p_expr R
  r9p_inside : Y_r9p_inside R
  r9p_row : Y_r9p_row R
  r9p_un : Y_r9p_un R
  r9p_prim : Y_r9p_prim R
def r9p_expr_F (m : Nat) (c0 : Y_r9p_in R) (c1 : Y_r9p_inside R) (c2 : Y_r9p_out R) : Y_r9p_expr R := fun o0 κ =>
 c0 o0 (fun r5 o0_5 =>
 br (!r5) (κ (T9Node.mk [] [] 0 0 0 []) o0_5)
 (c1 o0_5 (fun r9 o0_9 =>
 c2 o0_9 (fun o0_11 =>
 κ (T9Node.mk r9.f_Op r9.f_Name r9.f_Kind r9.f_N r9.f_At r9.f_Kids) o0_11))))
def r9p_expr_B (m : Nat) (g : G_r9p_expr R) : Y_r9p_expr R := r9p_expr_F m (r9p_in m) g.r9p_inside (r9p_out m)
def r9p_inside_F (m : Nat) (c0 : Y_r9p_w R) (c1 : Y_r9p_take R) (c2 : Y_r9p_expr R) (c3 : Y_r9p_want R) (c4 : Y_r9p_row R) : Y_r9p_inside R := fun o0 κ =>
 c0 o0 (fun r8 o0_8 =>
 c1 o0_8 sif (fun r11 o0_11 =>
 br r11 (c2 o0_11 (fun r13 o0_13 =>
 c3 o0_13 sthen (fun o0_15 =>
 c2 o0_15 (fun r17 o0_17 =>
 c3 o0_17 selse (fun o0_19 =>
 c2 o0_19 (fun r21 o0_21 =>
 κ (T9Node.mk sif [] 0 0 r8.f_At [(T9Node.mk r13.f_Op r13.f_Name r13.f_Kind r13.f_N r13.f_At r13.f_Kids), (T9Node.mk r17.f_Op r17.f_Name r17.f_Kind r17.f_N r17.f_At r17.f_Kids), (T9Node.mk r21.f_Op r21.f_Name r21.f_Kind r21.f_N r21.f_At r21.f_Kids)]) o0_21))))))
 (c4 o0_11 0 (fun r29 o0_29 =>
 κ (T9Node.mk r29.f_Op r29.f_Name r29.f_Kind r29.f_N r29.f_At r29.f_Kids) o0_29))))
def r9p_inside_B (m : Nat) (g : G_r9p_expr R) : Y_r9p_inside R := r9p_inside_F m (r9p_w m) (r9p_take m) g.r9p_expr (r9p_want m) g.r9p_row
abbrev r9p_row_T0_0 (R : Type) := Int → List (Bs) → Int → Int → Bs → List T9Word → Int → Int → Bool → Int → Bs → Bs → Int → Int → Int → List T9Node → Bs → Bs → Int → Int → Int → List T9Node → O R
abbrev r9p_row_E0_0 (R : Type) := List (Bs) → Int → Int → Bs → List T9Word → Int → Int → Bool → Int → Bs → Bs → Int → Int → Int → List T9Node → Bs → Bs → Int → Int → Int → List T9Node → O R
abbrev r9p_row_V0_0 (R : Type) := r9p_row_E0_0 R → Nat → r9p_row_T0_0 R
def r9p_row_S0_0 (m : Nat) (c3 : Y_r9p_take R) (ρ : r9p_row_T0_0 R) (e2 : r9p_row_E0_0 R) : r9p_row_T0_0 R := fun x0 x1 x2 x3 x4 x5 x6 x7 x8 x9 x10 x11 x12 x13 x14 x15 x16 x17 x18 x19 x20 x21 =>
 let t33 := (x1.length : Int)
 br (ltI x0 t33) (br (eqL x4 []) (br (inB x0 x1.length) (let t44 := (el2 x1 (iNat x0))
 c3 (T9parser.mk x5 x6 x7 x8 x9) t44 (fun r46 o0_46 =>
 br r46 (br (inB x0 x1.length) (let t49 := (el2 x1 (iNat x0))
 let t40 := (wr .i64 (x0 + 1))
 ρ t40 x1 x2 x3 t49 o0_46.f_l o0_46.f_k o0_46.f_bad o0_46.f_deep o0_46.f_d x10 x11 x12 x13 x14 x15 x16 x17 x18 x19 x20 x21) none)
 (let t40 := (wr .i64 (x0 + 1))
 ρ t40 x1 x2 x3 x4 o0_46.f_l o0_46.f_k o0_46.f_bad o0_46.f_deep o0_46.f_d x10 x11 x12 x13 x14 x15 x16 x17 x18 x19 x20 x21))) none)
 (e2 x1 x2 x3 x4 x5 x6 x7 x8 x9 x10 x11 x12 x13 x14 x15 x16 x17 x18 x19 x20 x21))
 (e2 x1 x2 x3 x4 x5 x6 x7 x8 x9 x10 x11 x12 x13 x14 x15 x16 x17 x18 x19 x20 x21)
def r9p_row_L0_0 (m : Nat) (c3 : Y_r9p_take R) : r9p_row_V0_0 R := fun e2 => itN Zf.z fun ρ => r9p_row_S0_0 m c3 ρ e2
theorem r9p_row_L0_0s {m j : Nat} {c3 : Y_r9p_take R} {e2 : r9p_row_E0_0 R} : r9p_row_L0_0 m c3 e2 (j + 1) = r9p_row_S0_0 m c3 (r9p_row_L0_0 m c3 e2 j) e2 := rfl
abbrev r9p_row_T0 (R : Type) := List (Bs) → Int → List T9Word → Int → Int → Bool → Int → Bs → Bs → Int → Int → Int → List T9Node → Bs → Bs → Int → Int → Int → List T9Node → O R
abbrev r9p_row_Z0 (R : Type) := List T9Word → Int → Int → Bool → Int → Bs → Bs → Int → Int → Int → List T9Node → O R
abbrev r9p_row_V0 (R : Type) := r9p_row_Z0 R → Nat → r9p_row_T0 R
def r9p_row_S0 (m : Nat) (c1 : Y_r9p_row R) (c2 : Y_r9p_w R) (l0_0 : r9p_row_V0_0 R) (ρ : r9p_row_T0 R) (er : r9p_row_Z0 R) : r9p_row_T0 R := fun x0 x1 x2 x3 x4 x5 x6 x7 x8 x9 x10 x11 x12 x13 x14 x15 x16 x17 x18 =>
 c2 (T9parser.mk x2 x3 x4 x5 x6) (fun r29 o0_29 =>
 l0_0 (fun y0_0_0 y0_0_1 y0_0_2 y0_0_3 y0_0_4 y0_0_5 y0_0_6 y0_0_7 y0_0_8 y0_0_9 y0_0_10 y0_0_11 y0_0_12 y0_0_13 y0_0_14 y0_0_15 y0_0_16 y0_0_17 y0_0_18 y0_0_19 y0_0_20 =>
 br (eqL y0_0_3 []) (er y0_0_4 y0_0_5 y0_0_6 y0_0_7 y0_0_8 y0_0_15 y0_0_16 y0_0_17 y0_0_18 y0_0_19 y0_0_20)
 (let t56 := (wr .i64 (y0_0_1 + 1))
 c1 (T9parser.mk y0_0_4 y0_0_5 y0_0_6 y0_0_7 y0_0_8) t56 (fun r57 o0_57 =>
 br (eqI y0_0_1 2) (er o0_57.f_l o0_57.f_k o0_57.f_bad o0_57.f_deep o0_57.f_d y0_0_3 [] 0 0 y0_0_2 ([(T9Node.mk y0_0_15 y0_0_16 y0_0_17 y0_0_18 y0_0_19 y0_0_20), (T9Node.mk r57.f_Op r57.f_Name r57.f_Kind r57.f_N r57.f_At r57.f_Kids)]))
 (ρ y0_0_0 y0_0_1 o0_57.f_l o0_57.f_k o0_57.f_bad o0_57.f_deep o0_57.f_d y0_0_9 y0_0_10 y0_0_11 y0_0_12 y0_0_13 y0_0_14 y0_0_3 [] 0 0 y0_0_2 ([(T9Node.mk y0_0_15 y0_0_16 y0_0_17 y0_0_18 y0_0_19 y0_0_20), (T9Node.mk r57.f_Op r57.f_Name r57.f_Kind r57.f_N r57.f_At r57.f_Kids)]))))) m 0 x0 x1 r29.f_At [] o0_29.f_l o0_29.f_k o0_29.f_bad o0_29.f_deep o0_29.f_d x7 x8 x9 x10 x11 x12 x13 x14 x15 x16 x17 x18)
def r9p_row_L0 (m : Nat) (c1 : Y_r9p_row R) (c2 : Y_r9p_w R) (c3 : Y_r9p_take R) : r9p_row_V0 R := fun er => itN Zf.z fun ρ => r9p_row_S0 m c1 c2 (r9p_row_L0_0 m c3) ρ er
theorem r9p_row_L0s {m j : Nat} {c1 : Y_r9p_row R} {c2 : Y_r9p_w R} {c3 : Y_r9p_take R} {er : r9p_row_Z0 R} : r9p_row_L0 m c1 c2 c3 er (j + 1) = r9p_row_S0 m c1 c2 (r9p_row_L0_0 m c3) (r9p_row_L0 m c1 c2 c3 er j) er := rfl
def r9p_row_F (m : Nat) (c0 : Y_r9p_un R) (c1 : Y_r9p_row R) (l0 : r9p_row_V0 R) : Y_r9p_row R := fun o0 a1 κ =>
 br (eqI a1 5) (c0 o0 (fun r14 o0_14 =>
 κ (T9Node.mk r14.f_Op r14.f_Name r14.f_Kind r14.f_N r14.f_At r14.f_Kids) o0_14))
 (br (inB a1 [[sor], [sand], [s_60, s_60_61, s_62, s_62_61, s_61_61, s_33_61], [s_43, s_45], [s_42, s_47]].length) (let t23 := (el10 ([[sor], [sand], [s_60, s_60_61, s_62, s_62_61, s_61_61, s_33_61], [s_43, s_45], [s_42, s_47]]) (iNat a1))
 let t26 := (wr .i64 (a1 + 1))
 c1 o0 t26 (fun r27 o0_27 =>
 l0 (fun z0_0 z0_1 z0_2 z0_3 z0_4 z0_5 z0_6 z0_7 z0_8 z0_9 z0_10 =>
 κ (T9Node.mk z0_5 z0_6 z0_7 z0_8 z0_9 z0_10) (T9parser.mk z0_0 z0_1 z0_2 z0_3 z0_4)) m t23 a1 o0_27.f_l o0_27.f_k o0_27.f_bad o0_27.f_deep o0_27.f_d [] [] 0 0 0 [] r27.f_Op r27.f_Name r27.f_Kind r27.f_N r27.f_At r27.f_Kids)) none)
def r9p_row_B (m : Nat) (g : G_r9p_expr R) : Y_r9p_row R := r9p_row_F m g.r9p_un g.r9p_row (r9p_row_L0 m g.r9p_row (r9p_w m) (r9p_take m))
def r9p_un_F (m : Nat) (c0 : Y_r9p_w R) (c1 : Y_r9p_take R) (c2 : Y_r9p_prim R) (c3 : Y_r9p_in R) (c4 : Y_r9p_un R) (c5 : Y_r9p_out R) : Y_r9p_un R := fun o0 κ =>
 c0 o0 (fun r7 o0_7 =>
 c1 o0_7 s_45 (fun r10 o0_10 =>
 br r10 (br (eqL sneg []) (c2 o0_10 (fun r16 o0_16 =>
 κ (T9Node.mk r16.f_Op r16.f_Name r16.f_Kind r16.f_N r16.f_At r16.f_Kids) o0_16))
 (c3 o0_10 (fun r18 o0_18 =>
 br (!r18) (κ (T9Node.mk [] [] 0 0 0 []) o0_18)
 (c4 o0_18 (fun r22 o0_22 =>
 c5 o0_22 (fun o0_24 =>
 κ (T9Node.mk sneg [] 0 0 r7.f_At [(T9Node.mk r22.f_Op r22.f_Name r22.f_Kind r22.f_N r22.f_At r22.f_Kids)]) o0_24))))))
 (c1 o0_10 snot (fun r12 o0_12 =>
 br r12 (br (eqL snot []) (c2 o0_12 (fun r16 o0_16 =>
 κ (T9Node.mk r16.f_Op r16.f_Name r16.f_Kind r16.f_N r16.f_At r16.f_Kids) o0_16))
 (c3 o0_12 (fun r18 o0_18 =>
 br (!r18) (κ (T9Node.mk [] [] 0 0 0 []) o0_18)
 (c4 o0_18 (fun r22 o0_22 =>
 c5 o0_22 (fun o0_24 =>
 κ (T9Node.mk snot [] 0 0 r7.f_At [(T9Node.mk r22.f_Op r22.f_Name r22.f_Kind r22.f_N r22.f_At r22.f_Kids)]) o0_24))))))
 (br (eqL [] []) (c2 o0_12 (fun r16 o0_16 =>
 κ (T9Node.mk r16.f_Op r16.f_Name r16.f_Kind r16.f_N r16.f_At r16.f_Kids) o0_16))
 (c3 o0_12 (fun r18 o0_18 =>
 br (!r18) (κ (T9Node.mk [] [] 0 0 0 []) o0_18)
 (c4 o0_18 (fun r22 o0_22 =>
 c5 o0_22 (fun o0_24 =>
 κ (T9Node.mk [] [] 0 0 r7.f_At [(T9Node.mk r22.f_Op r22.f_Name r22.f_Kind r22.f_N r22.f_At r22.f_Kids)]) o0_24))))))))))
def r9p_un_B (m : Nat) (g : G_r9p_expr R) : Y_r9p_un R := r9p_un_F m (r9p_w m) (r9p_take m) g.r9p_prim (r9p_in m) g.r9p_un (r9p_out m)
abbrev r9p_prim_T0 (R : Type) := Int → Int → List T9Word → Int → Int → Bool → Int → Bs → Bs → Int → Int → Int → List T9Node → O R
abbrev r9p_prim_E0 (R : Type) := Int → List T9Word → Int → Int → Bool → Int → Bs → Bs → Int → Int → Int → List T9Node → O R
abbrev r9p_prim_Z0 (R : Type) := List T9Word → Int → Int → Bool → Int → Bs → Bs → Int → Int → Int → List T9Node → O R
abbrev r9p_prim_V0 (R : Type) := r9p_prim_E0 R → r9p_prim_Z0 R → Nat → r9p_prim_T0 R
def r9p_prim_S0 (m : Nat) (c3 : Y_r9p_take R) (c4 : Y_r9p_want R) (c5 : Y_r9p_expr R) (ρ : r9p_prim_T0 R) (e0 : r9p_prim_E0 R) (er : r9p_prim_Z0 R) : r9p_prim_T0 R := fun x0 x1 x2 x3 x4 x5 x6 x7 x8 x9 x10 x11 x12 =>
 br (ltI x1 2) (br (inB x1 [smin, smax].length) (let t29 := (el2 ([smin, smax]) (iNat x1))
 c3 (T9parser.mk x2 x3 x4 x5 x6) t29 (fun r32 o0_32 =>
 br r32 (c4 o0_32 s_40 (fun o0_34 =>
 c5 o0_34 (fun r36 o0_36 =>
 c4 o0_36 s_44 (fun o0_38 =>
 c5 o0_38 (fun r40 o0_40 =>
 c4 o0_40 s_41 (fun o0_42 =>
 er o0_42.f_l o0_42.f_k o0_42.f_bad o0_42.f_deep o0_42.f_d t29 [] 0 0 x0 ([(T9Node.mk r36.f_Op r36.f_Name r36.f_Kind r36.f_N r36.f_At r36.f_Kids), (T9Node.mk r40.f_Op r40.f_Name r40.f_Kind r40.f_N r40.f_At r40.f_Kids)])))))))
 (let t25 := (wr .i64 (x1 + 1))
 ρ x0 t25 o0_32.f_l o0_32.f_k o0_32.f_bad o0_32.f_deep o0_32.f_d x7 x8 x9 x10 x11 x12))) none)
 (e0 x0 x2 x3 x4 x5 x6 x7 x8 x9 x10 x11 x12)
def r9p_prim_L0 (m : Nat) (c3 : Y_r9p_take R) (c4 : Y_r9p_want R) (c5 : Y_r9p_expr R) : r9p_prim_V0 R := fun e0 er => itN Zf.z fun ρ => r9p_prim_S0 m c3 c4 c5 ρ e0 er
theorem r9p_prim_L0s {m j : Nat} {c3 : Y_r9p_take R} {c4 : Y_r9p_want R} {c5 : Y_r9p_expr R} {e0 : r9p_prim_E0 R} {er : r9p_prim_Z0 R} : r9p_prim_L0 m c3 c4 c5 e0 er (j + 1) = r9p_prim_S0 m c3 c4 c5 (r9p_prim_L0 m c3 c4 c5 e0 er j) e0 er := rfl
def r9p_prim_F (m : Nat) (c0 : Y_r9p_w R) (c1 : Y_r9p_islit R) (c2 : Y_r9p_lit R) (c3 : Y_r9p_take R) (c4 : Y_r9p_want R) (c5 : Y_r9p_expr R) (c6 : Y_r9p_name R) (l0 : r9p_prim_V0 R) : Y_r9p_prim R := fun o0 κ =>
 c0 o0 (fun r16 o0_16 =>
 c1 o0_16 (fun r19 o0_19 =>
 br r19 (c2 o0_19 (fun r21 o0_21 =>
 κ (T9Node.mk r21.f_Op r21.f_Name r21.f_Kind r21.f_N r21.f_At r21.f_Kids) o0_21))
 (l0 (fun y0_0 y0_1 y0_2 y0_3 y0_4 y0_5 y0_6 y0_7 y0_8 y0_9 y0_10 y0_11 =>
 c3 (T9parser.mk y0_1 y0_2 y0_3 y0_4 y0_5) s_40 (fun r51 o0_51 =>
 br r51 (c5 o0_51 (fun r53 o0_53 =>
 c4 o0_53 s_41 (fun o0_55 =>
 κ (T9Node.mk r53.f_Op r53.f_Name r53.f_Kind r53.f_N r53.f_At r53.f_Kids) o0_55)))
 (c3 o0_51 slen (fun r59 o0_59 =>
 br r59 (c4 o0_59 s_40 (fun o0_61 =>
 c5 o0_61 (fun r63 o0_63 =>
 c4 o0_63 s_41 (fun o0_65 =>
 κ (T9Node.mk slen [] 0 0 y0_0 [(T9Node.mk r63.f_Op r63.f_Name r63.f_Kind r63.f_N r63.f_At r63.f_Kids)]) o0_65))))
 (c3 o0_59 sat (fun r72 o0_72 =>
 br r72 (c4 o0_72 s_40 (fun o0_74 =>
 c6 o0_74 (fun r76 o0_76 =>
 c4 o0_76 s_44 (fun o0_78 =>
 c5 o0_78 (fun r80 o0_80 =>
 c4 o0_80 s_41 (fun o0_82 =>
 κ (T9Node.mk sat r76 0 0 y0_0 [(T9Node.mk r80.f_Op r80.f_Name r80.f_Kind r80.f_N r80.f_At r80.f_Kids)]) o0_82))))))
 (c3 o0_72 ssum (fun r90 o0_90 =>
 br r90 (c4 o0_90 s_40 (fun o0_92 =>
 c6 o0_92 (fun r94 o0_94 =>
 c4 o0_94 sin (fun o0_96 =>
 c5 o0_96 (fun r98 o0_98 =>
 c4 o0_98 s_58 (fun o0_100 =>
 c5 o0_100 (fun r102 o0_102 =>
 c4 o0_102 s_41 (fun o0_104 =>
 κ (T9Node.mk ssum r94 0 0 y0_0 [(T9Node.mk r98.f_Op r98.f_Name r98.f_Kind r98.f_N r98.f_At r98.f_Kids), (T9Node.mk r102.f_Op r102.f_Name r102.f_Kind r102.f_N r102.f_At r102.f_Kids)]) o0_104))))))))
 (c6 o0_90 (fun r112 o0_112 =>
 κ (T9Node.mk sname r112 0 0 y0_0 []) o0_112)))))))))) (fun z0_0 z0_1 z0_2 z0_3 z0_4 z0_5 z0_6 z0_7 z0_8 z0_9 z0_10 =>
 κ (T9Node.mk z0_5 z0_6 z0_7 z0_8 z0_9 z0_10) (T9parser.mk z0_0 z0_1 z0_2 z0_3 z0_4)) m r16.f_At 0 o0_19.f_l o0_19.f_k o0_19.f_bad o0_19.f_deep o0_19.f_d [] [] 0 0 0 [])))
def r9p_prim_B (m : Nat) (g : G_r9p_expr R) : Y_r9p_prim R := r9p_prim_F m (r9p_w m) (r9p_islit m) (r9p_lit m) (r9p_take m) (r9p_want m) g.r9p_expr (r9p_name m) (r9p_prim_L0 m (r9p_take m) (r9p_want m) g.r9p_expr)
def G_r9p_expr_r : Nat → G_r9p_expr R
  | 0 => ⟨fun _ _ => none, fun _ _ => none, fun _ _ _ => none, fun _ _ => none, fun _ _ => none⟩
  | j + 1 => ⟨r9p_expr_B j (G_r9p_expr_r j), r9p_inside_B j (G_r9p_expr_r j), r9p_row_B j (G_r9p_expr_r j), r9p_un_B j (G_r9p_expr_r j), r9p_prim_B j (G_r9p_expr_r j)⟩
def r9p_expr (m : Nat) : Y_r9p_expr R := (G_r9p_expr_r (R := R) m).r9p_expr
def r9p_inside (m : Nat) : Y_r9p_inside R := (G_r9p_expr_r (R := R) m).r9p_inside
def r9p_row (m : Nat) : Y_r9p_row R := (G_r9p_expr_r (R := R) m).r9p_row
def r9p_un (m : Nat) : Y_r9p_un R := (G_r9p_expr_r (R := R) m).r9p_un
def r9p_prim (m : Nat) : Y_r9p_prim R := (G_r9p_expr_r (R := R) m).r9p_prim
abbrev Y_mean_times (R : Type) := Int → TapiValue → TapiValue → (TapiValue → Int → O R) → O R
def mean_times_F (m : Nat) (c0 : Y_num_Mul R) (c1 : Y_num_MulFloor R) (c2 : Y_mean_made R) : Y_mean_times R := fun a0 a1 a2 κ =>
 c0 a1.f_N a2.f_N (fun r15_0 r15_1 =>
 br (eqI a0 3) (br (eqI a1.f_Kind 4) (c1 a1.f_N a2.f_N 1000000 (fun r35_0 r35_1 =>
 c2 a0 r35_0 r35_1 (fun r41_0 r41_1 =>
 κ r41_0 r41_1)))
 (br (eqI a2.f_Kind 4) (c1 a1.f_N a2.f_N 1000000 (fun r35_0 r35_1 =>
 c2 a0 r35_0 r35_1 (fun r41_0 r41_1 =>
 κ r41_0 r41_1)))
 (c2 a0 r15_0 r15_1 (fun r41_0 r41_1 =>
 κ r41_0 r41_1))))
 (c2 a0 r15_0 r15_1 (fun r41_0 r41_1 =>
 κ r41_0 r41_1)))
def mean_times (m : Nat) : Y_mean_times R := mean_times_F m (num_Mul m) (num_MulFloor m) (mean_made m)
abbrev Y_mean_over (R : Type) := Int → TapiValue → TapiValue → (TapiValue → Int → O R) → O R
def mean_over_F (m : Nat) (c0 : Y_num_Floor R) (c1 : Y_mean_made R) (c2 : Y_num_Sub R) (c3 : Y_num_MulFloor R) : Y_mean_over R := fun a0 a1 a2 κ =>
 br (eqI a2.f_N 0) (κ (TapiValue.mk 0 0 []) 11)
 (br (!(eqI a0 4)) (c0 a1.f_N a2.f_N (fun r26_0 r26_1 =>
 c1 a0 r26_0 r26_1 (fun r32_0 r32_1 =>
 κ r32_0 r32_1)))
 (br (ltI a2.f_N 0) (c2 0 a1.f_N (fun r43_0 r43_1 =>
 c2 0 a2.f_N (fun r48_0 r48_1 =>
 br r43_1 (br (!r48_1) (c1 a0 0 false (fun r58_0 r58_1 =>
 κ r58_0 r58_1))
 (c3 r43_0 1000000 r48_0 (fun r64_0 r64_1 =>
 c1 a0 r64_0 r64_1 (fun r70_0 r70_1 =>
 κ r70_0 r70_1))))
 (c1 a0 0 false (fun r58_0 r58_1 =>
 κ r58_0 r58_1)))))
 (c3 a1.f_N 1000000 a2.f_N (fun r64_0 r64_1 =>
 c1 a0 r64_0 r64_1 (fun r70_0 r70_1 =>
 κ r70_0 r70_1)))))
def mean_over (m : Nat) : Y_mean_over R := mean_over_F m (num_Floor m) (mean_made m) (num_Sub m) (num_MulFloor m)
abbrev Y_r9p_decl (R : Type) := T9parser → (T9Node → T9parser → O R) → O R
abbrev r9p_decl_T0 (R : Type) := List T9Word → Int → Int → Bool → Int → Bs → Bs → Int → Int → Int → List T9Node → Bs → Bs → Int → Int → Int → List T9Node → O R
abbrev r9p_decl_E0 (R : Type) := List T9Word → Int → Int → Bool → Int → Bs → Bs → Int → Int → Int → List T9Node → Bs → Bs → Int → Int → Int → List T9Node → O R
abbrev r9p_decl_V0 (R : Type) := r9p_decl_E0 R → Nat → r9p_decl_T0 R
def r9p_decl_S0 (m : Nat) (c0 : Y_r9p_w R) (c4 : Y_r9p_want R) (c6 : Y_r9p_is R) (c7 : Y_r9p_limit R) (c8 : Y_r9p_lit R) (ρ : r9p_decl_T0 R) (e1 : r9p_decl_E0 R) : r9p_decl_T0 R := fun x0 x1 x2 x3 x4 x5 x6 x7 x8 x9 x10 x11 x12 x13 x14 x15 x16 =>
 br (ltI x2 0) (c6 (T9parser.mk x0 x1 x2 x3 x4) selse (fun r71 o0_71 =>
 br (!r71) (let t76 := (x16.length : Int)
 br (eqI t76 32) (c7 o0_71 (fun o0_79 =>
 e1 o0_79.f_l o0_79.f_k o0_79.f_bad o0_79.f_deep o0_79.f_d x5 x6 x7 x8 x9 x10 x11 x12 x13 x14 x15 x16))
 (c0 o0_71 (fun r81 o0_81 =>
 c8 o0_81 (fun r85 o0_85 =>
 c4 o0_85 s_58 (fun o0_87 =>
 c8 o0_87 (fun r89 o0_89 =>
 c4 o0_89 s_44 (fun o0_91 =>
 br (okAp 80 (x16.length + [(T9Node.mk srow [] 0 0 r81.f_At [(T9Node.mk r85.f_Op r85.f_Name r85.f_Kind r85.f_N r85.f_At r85.f_Kids), (T9Node.mk r89.f_Op r89.f_Name r89.f_Kind r89.f_N r89.f_At r89.f_Kids)])].length)) (let t100a := (x16 ++ [(T9Node.mk srow [] 0 0 r81.f_At [(T9Node.mk r85.f_Op r85.f_Name r85.f_Kind r85.f_N r85.f_At r85.f_Kids), (T9Node.mk r89.f_Op r89.f_Name r89.f_Kind r89.f_N r89.f_At r89.f_Kids)])])
 ρ o0_91.f_l o0_91.f_k o0_91.f_bad o0_91.f_deep o0_91.f_d x5 x6 x7 x8 x9 x10 x11 x12 x13 x14 x15 t100a) none)))))))
 (e1 o0_71.f_l o0_71.f_k o0_71.f_bad o0_71.f_deep o0_71.f_d x5 x6 x7 x8 x9 x10 x11 x12 x13 x14 x15 x16)))
 (e1 x0 x1 x2 x3 x4 x5 x6 x7 x8 x9 x10 x11 x12 x13 x14 x15 x16)
def r9p_decl_L0 (m : Nat) (c0 : Y_r9p_w R) (c4 : Y_r9p_want R) (c6 : Y_r9p_is R) (c7 : Y_r9p_limit R) (c8 : Y_r9p_lit R) : r9p_decl_V0 R := fun e1 => itN Zf.z fun ρ => r9p_decl_S0 m c0 c4 c6 c7 c8 ρ e1
theorem r9p_decl_L0s {m j : Nat} {c0 : Y_r9p_w R} {c4 : Y_r9p_want R} {c6 : Y_r9p_is R} {c7 : Y_r9p_limit R} {c8 : Y_r9p_lit R} {e1 : r9p_decl_E0 R} : r9p_decl_L0 m c0 c4 c6 c7 c8 e1 (j + 1) = r9p_decl_S0 m c0 c4 c6 c7 c8 (r9p_decl_L0 m c0 c4 c6 c7 c8 e1 j) e1 := rfl
def r9p_decl_F (m : Nat) (c0 : Y_r9p_w R) (c1 : Y_r9p_take R) (c2 : Y_r9p_name R) (c3 : Y_r9p_kind R) (c4 : Y_r9p_want R) (c5 : Y_r9p_expr R) (c7 : Y_r9p_limit R) (c8 : Y_r9p_lit R) (c9 : Y_r9p_fail R) (l0 : r9p_decl_V0 R) : Y_r9p_decl R := fun o0 κ =>
 c0 o0 (fun r12 o0_12 =>
 c1 o0_12 sinput (fun r20 o0_20 =>
 br r20 (c2 o0_20 (fun r23 o0_23 =>
 c3 o0_23 (fun r26 o0_26 =>
 c4 o0_26 s_59 (fun o0_29 =>
 κ (T9Node.mk sinput r23 r26 0 r12.f_At []) o0_29))))
 (c1 o0_20 srule (fun r32 o0_32 =>
 br r32 (c2 o0_32 (fun r35 o0_35 =>
 c3 o0_35 (fun r38 o0_38 =>
 c4 o0_38 s_61 (fun o0_41 =>
 c5 o0_41 (fun r43 o0_43 =>
 c4 o0_43 s_59 (fun o0_48 =>
 κ (T9Node.mk srule r35 r38 0 r12.f_At [(T9Node.mk r43.f_Op r43.f_Name r43.f_Kind r43.f_N r43.f_At r43.f_Kids)]) o0_48))))))
 (c1 o0_32 stable (fun r51 o0_51 =>
 br r51 (c2 o0_51 (fun r54 o0_54 =>
 c3 o0_54 (fun r57 o0_57 =>
 c3 o0_57 (fun r60 o0_60 =>
 c4 o0_60 s_123 (fun o0_63 =>
 l0 (fun y0_0 y0_1 y0_2 y0_3 y0_4 y0_5 y0_6 y0_7 y0_8 y0_9 y0_10 y0_11 y0_12 y0_13 y0_14 y0_15 y0_16 =>
 lt (c0 (T9parser.mk y0_0 y0_1 y0_2 y0_3 y0_4) (fun r116 o0_116 =>
 c4 o0_116 selse (fun o0_120 =>
 c8 o0_120 (fun r122 o0_122 =>
 br (okAp 80 (y0_16.length + [(T9Node.mk srow [] 0 0 r116.f_At [(T9Node.mk r122.f_Op r122.f_Name r122.f_Kind r122.f_N r122.f_At r122.f_Kids)])].length)) (let t130a := (y0_16 ++ [(T9Node.mk srow [] 0 0 r116.f_At [(T9Node.mk r122.f_Op r122.f_Name r122.f_Kind r122.f_N r122.f_At r122.f_Kids)])])
 c4 o0_122 s_125 (fun o0_133 =>
 κ (T9Node.mk y0_11 y0_12 y0_13 y0_14 y0_15 t130a) o0_133)) none))))
 fun j0 =>
 br (ltI y0_2 0) (let t110 := (y0_16.length : Int)
 br (eqI t110 32) (c7 (T9parser.mk y0_0 y0_1 y0_2 y0_3 y0_4) (fun o0_114 =>
 c0 o0_114 (fun r116 o0_116 =>
 c4 o0_116 selse (fun o0_120 =>
 c8 o0_120 (fun r122 o0_122 =>
 br (okAp 80 (y0_16.length + [(T9Node.mk srow [] 0 0 r116.f_At [(T9Node.mk r122.f_Op r122.f_Name r122.f_Kind r122.f_N r122.f_At r122.f_Kids)])].length)) (let t130a := (y0_16 ++ [(T9Node.mk srow [] 0 0 r116.f_At [(T9Node.mk r122.f_Op r122.f_Name r122.f_Kind r122.f_N r122.f_At r122.f_Kids)])])
 c4 o0_122 s_125 (fun o0_133 =>
 κ (T9Node.mk y0_11 y0_12 y0_13 y0_14 y0_15 t130a) o0_133)) none)))))
 (j0))
 (j0)) m o0_63.f_l o0_63.f_k o0_63.f_bad o0_63.f_deep o0_63.f_d [] [] 0 0 0 [] stable r54 r60 r57 r12.f_At [])))))
 (c9 o0_51 (fun o0_17 =>
 κ (T9Node.mk [] [] 0 0 r12.f_At []) o0_17))))))))
def r9p_decl (m : Nat) : Y_r9p_decl R := r9p_decl_F m (r9p_w m) (r9p_take m) (r9p_name m) (r9p_kind m) (r9p_want m) (r9p_expr m) (r9p_limit m) (r9p_lit m) (r9p_fail m) (r9p_decl_L0 m (r9p_w m) (r9p_want m) (r9p_is m) (r9p_limit m) (r9p_lit m))
abbrev Y_mean_Op (R : Type) := Bs → TapiValue → TapiValue → (TapiValue → Int → O R) → O R
def mean_Op_F (m : Nat) (c0 : Y_mean_one R) (c1 : Y_typ_Two R) (c2 : Y_num_Add R) (c3 : Y_mean_made R) (c4 : Y_num_Sub R) (c5 : Y_mean_times R) (c6 : Y_mean_over R) (c7 : Y_mean_truth R) : Y_mean_Op R := fun a0 a1 a2 κ =>
 br (eqL a0 sneg) (c0 a0 a1 (fun r21_0 r21_1 =>
 κ r21_0 r21_1))
 (br (eqL a0 snot) (c0 a0 a1 (fun r21_0 r21_1 =>
 κ r21_0 r21_1))
 (c1 a0 a1.f_Kind a2.f_Kind (fun r29 =>
 br (eqI r29 0) (κ (TapiValue.mk 0 0 []) 8)
 (br (eqL a0 s_43) (c2 a1.f_N a2.f_N (fun r41_0 r41_1 =>
 c3 r29 r41_0 r41_1 (fun r47_0 r47_1 =>
 κ r47_0 r47_1)))
 (br (eqL a0 s_45) (c4 a1.f_N a2.f_N (fun r57_0 r57_1 =>
 c3 r29 r57_0 r57_1 (fun r63_0 r63_1 =>
 κ r63_0 r63_1)))
 (br (eqL a0 s_42) (c5 r29 a1 a2 (fun r71_0 r71_1 =>
 κ r71_0 r71_1))
 (br (eqL a0 s_47) (c6 r29 a1 a2 (fun r79_0 r79_1 =>
 κ r79_0 r79_1))
 (br (eqL a0 smin) (let t89 := (bif ltI a2.f_N a1.f_N then a2.f_N else a1.f_N)
 c3 r29 t89 true (fun r90_0 r90_1 =>
 κ r90_0 r90_1))
 (br (eqL a0 smax) (let t100 := (bif ltI a1.f_N a2.f_N then a2.f_N else a1.f_N)
 c3 r29 t100 true (fun r101_0 r101_1 =>
 κ r101_0 r101_1))
 (br (eqL a0 s_60) (let t110 := (ltI a1.f_N a2.f_N)
 c7 t110 (fun r111_0 r111_1 =>
 κ r111_0 r111_1))
 (br (eqL a0 s_60_61) (let t120 := (leI a1.f_N a2.f_N)
 c7 t120 (fun r121_0 r121_1 =>
 κ r121_0 r121_1))
 (br (eqL a0 s_62) (let t130 := (ltI a2.f_N a1.f_N)
 c7 t130 (fun r131_0 r131_1 =>
 κ r131_0 r131_1))
 (br (eqL a0 s_62_61) (let t140 := (leI a2.f_N a1.f_N)
 c7 t140 (fun r141_0 r141_1 =>
 κ r141_0 r141_1))
 (br (eqL a0 s_61_61) (let t150 := (eqI a1.f_N a2.f_N)
 c7 t150 (fun r151_0 r151_1 =>
 κ r151_0 r151_1))
 (br (eqL a0 s_33_61) (let t160 := (!(eqI a1.f_N a2.f_N))
 c7 t160 (fun r161_0 r161_1 =>
 κ r161_0 r161_1))
 (br (eqL a0 sand) (br (!(eqI a1.f_N 0)) (let t172 := (!(eqI a2.f_N 0))
 c7 t172 (fun r174_0 r174_1 =>
 κ r174_0 r174_1))
 (c7 false (fun r174_0 r174_1 =>
 κ r174_0 r174_1)))
 (br (!(eqI a1.f_N 0)) (c7 true (fun r185_0 r185_1 =>
 κ r185_0 r185_1))
 (let t183 := (!(eqI a2.f_N 0))
 c7 t183 (fun r185_0 r185_1 =>
 κ r185_0 r185_1)))))))))))))))))))
def mean_Op (m : Nat) : Y_mean_Op R := mean_Op_F m (mean_one m) (typ_Two m) (num_Add m) (mean_made m) (num_Sub m) (mean_times m) (mean_over m) (mean_truth m)
abbrev Y_r9_Parse (R : Type) := Bs → (T9Node → Int → Bool → O R) → O R
abbrev r9_Parse_T0 (R : Type) := Bs → Bs → Int → Int → Int → List T9Word → Int → Int → Bool → Int → Bs → Bs → Int → Int → Int → List T9Node → List T9Node → O R
abbrev r9_Parse_E0 (R : Type) := Bs → Bs → Int → Int → Int → List T9Node → List T9Word → Int → Int → Bool → Int → Bs → Bs → Int → Int → Int → List T9Node → O R
abbrev r9_Parse_V0 (R : Type) := r9_Parse_E0 R → Nat → r9_Parse_T0 R
def r9_Parse_S0 (m : Nat) (c1 : Y_r9p_decl R) (ρ : r9_Parse_T0 R) (e0 : r9_Parse_E0 R) : r9_Parse_T0 R := fun x0 x1 x2 x3 x4 x5 x6 x7 x8 x9 x10 x11 x12 x13 x14 x15 x16 =>
 br (ltI x7 0) (br (inB x6 x5.length) (let t40 := (el8 x5 (iNat x6))
 br (!(eqI t40.f_Kind 0)) (c1 (T9parser.mk x5 x6 x7 x8 x9) (fun r48 o1_48 =>
 br (okAp 80 (x16.length + [r48].length)) (ρ x0 x1 x2 x3 x4 o1_48.f_l o1_48.f_k o1_48.f_bad o1_48.f_deep o1_48.f_d x10 x11 x12 x13 x14 x15 (x16 ++ [r48])) none))
 (e0 x10 x11 x12 x13 x14 x15 x5 x6 x7 x8 x9 x0 x1 x2 x3 x4 x16)) none)
 (e0 x10 x11 x12 x13 x14 x15 x5 x6 x7 x8 x9 x0 x1 x2 x3 x4 x16)
def r9_Parse_L0 (m : Nat) (c1 : Y_r9p_decl R) : r9_Parse_V0 R := fun e0 => itN Zf.z fun ρ => r9_Parse_S0 m c1 ρ e0
theorem r9_Parse_L0s {m j : Nat} {c1 : Y_r9p_decl R} {e0 : r9_Parse_E0 R} : r9_Parse_L0 m c1 e0 (j + 1) = r9_Parse_S0 m c1 (r9_Parse_L0 m c1 e0 j) e0 := rfl
def r9_Parse_F (m : Nat) (c0 : Y_r9_Cut R) (l0 : r9_Parse_V0 R) : Y_r9_Parse R := fun a0 κ =>
 c0 a0 (fun r11_0 r11_1 =>
 br (leI 0 r11_1) (κ (T9Node.mk [] [] 0 0 0 []) r11_1 false)
 (br (inB 0 r11_0.length) (let t22 := (el8 r11_0 (iNat 0))
 l0 (fun y0_0 y0_1 y0_2 y0_3 y0_4 y0_5 y0_6 y0_7 y0_8 y0_9 y0_10 y0_11 y0_12 y0_13 y0_14 y0_15 y0_16 =>
 br (leI 0 y0_8) (κ (T9Node.mk [] [] 0 0 0 []) y0_8 y0_9)
 (κ (T9Node.mk y0_11 y0_12 y0_13 y0_14 y0_15 y0_16) (-1) false)) m sstatute [] 0 0 t22.f_At r11_0 0 (-1) false 0 [] [] 0 0 0 [] []) none))
def r9_Parse (m : Nat) : Y_r9_Parse R := r9_Parse_F m (r9_Cut m) (r9_Parse_L0 m (r9p_decl m))
abbrev Y_r17_Read (R : Type) := Bs → (TsynNode → T9Node → Bool → O R) → O R
def r17_Read_F (m : Nat) (c0 : Y_r9_Parse R) (c1 : Y_r17_Back R) : Y_r17_Read R := fun a0 κ =>
 c0 a0 (fun r10_0 r10_1 r10_2 =>
 let t18 := (ltI r10_1 0)
 c1 (T9Node.mk r10_0.f_Op r10_0.f_Name r10_0.f_Kind r10_0.f_N r10_0.f_At r10_0.f_Kids) (fun r15 =>
 κ (TsynNode.mk r15.f_Op r15.f_Name r15.f_Kind r15.f_N r15.f_At r15.f_Kids) (T9Node.mk r10_0.f_Op r10_0.f_Name r10_0.f_Kind r10_0.f_N r10_0.f_At r10_0.f_Kids) t18))
def r17_Read (m : Nat) : Y_r17_Read R := r17_Read_F m (r9_Parse m) (r17_Back m)
abbrev Y_fold_Expr (R : Type) := TsynNode → (TsynNode → O R) → O R
structure G_fold_Expr (R : Type) where
  fold_Expr : Y_fold_Expr R
abbrev fold_Expr_T0 (R : Type) := Int → List TsynNode → Int → List TsynNode → Bs → Bs → Int → Int → Int → List TsynNode → Bs → Bs → Int → Int → Int → List TsynNode → O R
abbrev fold_Expr_E0 (R : Type) := Bs → Bs → Int → Int → Int → List TsynNode → Bs → Bs → Int → Int → Int → List TsynNode → List TsynNode → O R
abbrev fold_Expr_V0 (R : Type) := fold_Expr_E0 R → Nat → fold_Expr_T0 R
def fold_Expr_S0 (m : Nat) (c0 : Y_fold_Expr R) (ρ : fold_Expr_T0 R) (e0 : fold_Expr_E0 R) : fold_Expr_T0 R := fun x0 x1 x2 x3 x4 x5 x6 x7 x8 x9 x10 x11 x12 x13 x14 x15 =>
 br (ltI x0 x2) (br (inB x0 x1.length) (let t15 := (el4 x1 (iNat x0))
 c0 (TsynNode.mk t15.f_Op t15.f_Name t15.f_Kind t15.f_N t15.f_At t15.f_Kids) (fun r19 =>
 br (okAp 80 (x3.length + [r19].length)) (let t22 := (wr .i64 (x0 + 1))
 ρ t22 x1 x2 (x3 ++ [r19]) x4 x5 x6 x7 x8 x9 x10 x11 x12 x13 x14 x15) none)) none)
 (e0 x4 x5 x6 x7 x8 x9 x10 x11 x12 x13 x14 x15 x3)
def fold_Expr_L0 (m : Nat) (c0 : Y_fold_Expr R) : fold_Expr_V0 R := fun e0 => itN Zf.z fun ρ => fold_Expr_S0 m c0 ρ e0
theorem fold_Expr_L0s {m j : Nat} {c0 : Y_fold_Expr R} {e0 : fold_Expr_E0 R} : fold_Expr_L0 m c0 e0 (j + 1) = fold_Expr_S0 m c0 (fold_Expr_L0 m c0 e0 j) e0 := rfl
def fold_Expr_F (m : Nat) (c1 : Y_fold_reckoned R) (c2 : Y_slices_ContainsF R) (c3 : Y_fold_value R) (c4 : Y_mean_Op R) (c5 : Y_fold_literal R) (l0 : fold_Expr_V0 R) : Y_fold_Expr R := fun a0 κ =>
 let t12 := (a0.f_Kids.length : Int)
 l0 (fun y0_0 y0_1 y0_2 y0_3 y0_4 y0_5 y0_6 y0_7 y0_8 y0_9 y0_10 y0_11 y0_12 =>
 lt (c1 y0_6 (fun r90 =>
 br r90 (c2 y0_12 (fun r93 =>
 br (!r93) (let t97 := (y0_12.length : Int)
 br (ltI 1 t97) (br (inB 1 y0_12.length) (let t101 := (el4 y0_12 (iNat 1))
 c3 t101 (fun r102 =>
 br (inB 0 y0_12.length) (let t108 := (el4 y0_12 (iNat 0))
 c3 t108 (fun r109 =>
 c4 y0_6 r109 r102 (fun r111_0 r111_1 =>
 br (eqI r111_1 0) (c5 r111_0 y0_10 (fun r119 =>
 κ (TsynNode.mk r119.f_Op r119.f_Name r119.f_Kind r119.f_N r119.f_At r119.f_Kids)))
 (κ (TsynNode.mk y0_6 y0_7 y0_8 y0_9 y0_10 y0_12))))) none)) none)
 (br (inB 0 y0_12.length) (let t108 := (el4 y0_12 (iNat 0))
 c3 t108 (fun r109 =>
 c4 y0_6 r109 (TapiValue.mk 0 0 []) (fun r111_0 r111_1 =>
 br (eqI r111_1 0) (c5 r111_0 y0_10 (fun r119 =>
 κ (TsynNode.mk r119.f_Op r119.f_Name r119.f_Kind r119.f_N r119.f_At r119.f_Kids)))
 (κ (TsynNode.mk y0_6 y0_7 y0_8 y0_9 y0_10 y0_12))))) none))
 (κ (TsynNode.mk y0_6 y0_7 y0_8 y0_9 y0_10 y0_12))))
 (κ (TsynNode.mk y0_6 y0_7 y0_8 y0_9 y0_10 y0_12))))
 fun j2 =>
 lt (br (eqL y0_6 sif) (let t73 := (y0_12.length : Int)
 br (eqI t73 3) (br (inB 0 y0_12.length) (let t79 := (el4 y0_12 (iNat 0)).f_N
 br (eqI t79 1) (br (inB 1 y0_12.length) (let t83 := (el4 y0_12 (iNat 1))
 κ (TsynNode.mk t83.f_Op t83.f_Name t83.f_Kind t83.f_N t83.f_At t83.f_Kids)) none)
 (br (inB 2 y0_12.length) (let t86 := (el4 y0_12 (iNat 2))
 κ (TsynNode.mk t86.f_Op t86.f_Name t86.f_Kind t86.f_N t86.f_At t86.f_Kids)) none)) none)
 (j2))
 (j2))
 fun j1 =>
 lt (let t49 := (y0_12.length : Int)
 br (eqI t49 2) (br (inB 0 y0_12.length) (let t55 := (el4 y0_12 (iNat 0)).f_N
 let t56 := (eqI t55 1)
 let t59 := (eqL y0_6 sand)
 br (eqB t56 t59) (br (inB 1 y0_12.length) (let t63 := (el4 y0_12 (iNat 1))
 κ (TsynNode.mk t63.f_Op t63.f_Name t63.f_Kind t63.f_N t63.f_At t63.f_Kids)) none)
 (br (inB 0 y0_12.length) (let t66 := (el4 y0_12 (iNat 0))
 κ (TsynNode.mk t66.f_Op t66.f_Name t66.f_Kind t66.f_N t66.f_At t66.f_Kids)) none)) none)
 (j1))
 fun j0 =>
 let t26 := (y0_12.length : Int)
 br (ltI 0 t26) (br (inB 0 y0_12.length) (let t32 := (el4 y0_12 (iNat 0)).f_Op
 let t33 := (eqL t32 slit)
 br (!t33) (κ (TsynNode.mk y0_6 y0_7 y0_8 y0_9 y0_10 y0_12))
 (br (eqL y0_6 sand) (j0)
 (br (eqL y0_6 sor) (j0)
 (j1)))) none)
 (κ (TsynNode.mk y0_6 y0_7 y0_8 y0_9 y0_10 y0_12))) m 0 a0.f_Kids t12 [] [] [] 0 0 0 [] a0.f_Op a0.f_Name a0.f_Kind a0.f_N a0.f_At a0.f_Kids
def fold_Expr_B (m : Nat) (g : G_fold_Expr R) : Y_fold_Expr R := fold_Expr_F m (fold_reckoned m) (slices_ContainsF m) (fold_value m) (mean_Op m) (fold_literal m) (fold_Expr_L0 m g.fold_Expr)
def G_fold_Expr_r : Nat → G_fold_Expr R
  | 0 => ⟨fun _ _ => none⟩
  | j + 1 => ⟨fold_Expr_B j (G_fold_Expr_r j)⟩
def fold_Expr (m : Nat) : Y_fold_Expr R := (G_fold_Expr_r (R := R) m).fold_Expr
abbrev Y_fold_Fold (R : Type) := TsynNode → (TsynNode → O R) → O R
abbrev fold_Fold_T0 (R : Type) := Int → Int → Bs → Bs → Int → Int → Int → List TsynNode → Bs → Bs → Int → Int → Int → List TsynNode → O R
abbrev fold_Fold_E0 (R : Type) := Bs → Bs → Int → Int → Int → List TsynNode → Bs → Bs → Int → Int → Int → List TsynNode → O R
abbrev fold_Fold_V0 (R : Type) := fold_Fold_E0 R → Nat → fold_Fold_T0 R
def fold_Fold_S0 (m : Nat) (c1 : Y_fold_Expr R) (ρ : fold_Fold_T0 R) (e0 : fold_Fold_E0 R) : fold_Fold_T0 R := fun x0 x1 x2 x3 x4 x5 x6 x7 x8 x9 x10 x11 x12 x13 =>
 br (ltI x0 x1) (br (inB x0 x7.length) (let t16 := (el4 x7 (iNat x0))
 br (eqL t16.f_Op srule) (let t23 := (t16.f_Kids.length : Int)
 br (ltI 0 t23) (br (inB 0 t16.f_Kids.length) (let t31 := (el4 t16.f_Kids (iNat 0))
 c1 t31 (fun r33 =>
 br (inB x0 x7.length) (let t37 := (wr .i64 (x0 + 1))
 ρ t37 x1 x2 x3 x4 x5 x6 (x7.set (iNat x0) (TsynNode.mk (el4 x7 (iNat x0)).f_Op (el4 x7 (iNat x0)).f_Name (el4 x7 (iNat x0)).f_Kind (el4 x7 (iNat x0)).f_N (el4 x7 (iNat x0)).f_At [r33])) x8 x9 x10 x11 x12 x13) none)) none)
 (let t37 := (wr .i64 (x0 + 1))
 ρ t37 x1 x2 x3 x4 x5 x6 x7 x8 x9 x10 x11 x12 x13))
 (let t37 := (wr .i64 (x0 + 1))
 ρ t37 x1 x2 x3 x4 x5 x6 x7 x8 x9 x10 x11 x12 x13)) none)
 (e0 x8 x9 x10 x11 x12 x13 x2 x3 x4 x5 x6 x7)
def fold_Fold_L0 (m : Nat) (c1 : Y_fold_Expr R) : fold_Fold_V0 R := fun e0 => itN Zf.z fun ρ => fold_Fold_S0 m c1 ρ e0
theorem fold_Fold_L0s {m j : Nat} {c1 : Y_fold_Expr R} {e0 : fold_Fold_E0 R} : fold_Fold_L0 m c1 e0 (j + 1) = fold_Fold_S0 m c1 (fold_Fold_L0 m c1 e0 j) e0 := rfl
def fold_Fold_F (m : Nat) (l0 : fold_Fold_V0 R) : Y_fold_Fold R := fun a0 κ =>
 br (okAp 80 (0 + a0.f_Kids.length)) (let t11 := (a0.f_Kids.length : Int)
 l0 (fun y0_0 y0_1 y0_2 y0_3 y0_4 y0_5 y0_6 y0_7 y0_8 y0_9 y0_10 y0_11 =>
 κ (TsynNode.mk y0_6 y0_7 y0_8 y0_9 y0_10 y0_11)) m 0 t11 a0.f_Op a0.f_Name a0.f_Kind a0.f_N a0.f_At a0.f_Kids [] [] 0 0 0 []) none
def fold_Fold (m : Nat) : Y_fold_Fold R := fold_Fold_F m (fold_Fold_L0 m (fold_Expr m))
abbrev Y_L15_awake (R : Type) := (Bool → O R) → O R
def L15_awake_F (m : Nat) (c0 : Y_r17_Read R) (c1 : Y_fold_Fold R) (c2 : Y_fold_Size R) (c3 : Y_fold_Expr R) (c4 : Y_syn_Same R) : Y_L15_awake R := fun κ =>
 c0 srule_32a_32money_32_61_32_361_32_43_32_362_32_42_323_59 (fun r6_0 r6_1 r6_2 =>
 c1 (TsynNode.mk r6_0.f_Op r6_0.f_Name r6_0.f_Kind r6_0.f_N r6_0.f_At r6_0.f_Kids) (fun r11 =>
 br r6_2 (let t16 := (r11.f_Kids.length : Int)
 br (eqI t16 1) (br (inB 0 r11.f_Kids.length) (let t22 := (el4 r11.f_Kids (iNat 0))
 let t25 := (t22.f_Kids.length : Int)
 br (eqI t25 1) (br (inB 0 r11.f_Kids.length) (let t31 := (el4 r11.f_Kids (iNat 0))
 br (inB 0 t31.f_Kids.length) (let t34 := (el4 t31.f_Kids (iNat 0))
 br (eqL t34.f_Op slit) (br (inB 0 r11.f_Kids.length) (let t42 := (el4 r11.f_Kids (iNat 0))
 br (inB 0 t42.f_Kids.length) (let t45 := (el4 t42.f_Kids (iNat 0))
 br (eqI t45.f_N 700) (br (inB 0 r6_0.f_Kids.length) (let t53 := (el4 r6_0.f_Kids (iNat 0))
 br (inB 0 t53.f_Kids.length) (let t56 := (el4 t53.f_Kids (iNat 0))
 c2 t56 (fun r58 =>
 br (eqI r58 5) (br (inB 0 r6_0.f_Kids.length) (let t64 := (el4 r6_0.f_Kids (iNat 0))
 br (inB 0 t64.f_Kids.length) (let t67 := (el4 t64.f_Kids (iNat 0))
 br (inB 0 r11.f_Kids.length) (let t72 := (el4 r11.f_Kids (iNat 0))
 br (inB 0 t72.f_Kids.length) (let t75 := (el4 t72.f_Kids (iNat 0))
 c3 t67 (fun r69 =>
 c4 r69 t75 (fun r77 =>
 κ r77))) none) none) none) none)
 (κ false))) none) none)
 (κ false)) none) none)
 (κ false)) none) none)
 (κ false)) none)
 (κ false))
 (κ false)))
def L15_awake (m : Nat) : Y_L15_awake R := L15_awake_F m (r17_Read m) (fold_Fold m) (fold_Size m) (fold_Expr m) (syn_Same m)
abbrev Y_L15_FoldLits (R : Type) := Int → Int → Int → (Bool → O R) → O R
def L15_FoldLits_F (m : Nat) (c0 : Y_L15_awake R) (c1 : Y_r9_Lit R) (c2 : Y_r17_Read R) (c3 : Y_fold_Fold R) (c4 : Y_syn_Same R) (c5 : Y_fold_Size R) : Y_L15_FoldLits R := fun a0 a1 a2 κ =>
 c0  (fun r16 =>
 br (!r16) (κ false)
 (br (ltI a0 0) (κ true)
 (br (ltI 4503599627370496 a0) (κ true)
 (br (ltI a1 0) (κ true)
 (br (ltI 4503599627370496 a1) (κ true)
 (br (ltI a2 0) (κ true)
 (br (ltI 3 a2) (κ true)
 (br (inB a2 [s_43, s_45, s_42, s_47].length) (let t48 := (el2 ([s_43, s_45, s_42, s_47]) (iNat a2))
 c1 2 a0 (fun r42 =>
 br (catOk srule_32r_32count_32_61_32 r42) (let t43 := (srule_32r_32count_32_61_32 ++ r42)
 br (catOk t43 s_32) (let t44 := (t43 ++ s_32)
 br (catOk t44 t48) (let t49 := (t44 ++ t48)
 br (catOk t49 s_32) (let t50 := (t49 ++ s_32)
 c1 2 a1 (fun r52 =>
 br (catOk t50 r52) (let t53 := (t50 ++ r52)
 br (catOk t53 s_59) (let t54 := (t53 ++ s_59)
 c2 t54 (fun r57_0 r57_1 r57_2 =>
 c3 (TsynNode.mk r57_0.f_Op r57_0.f_Name r57_0.f_Kind r57_0.f_N r57_0.f_At r57_0.f_Kids) (fun r62 =>
 lt (c4 (TsynNode.mk r62.f_Op r62.f_Name r62.f_Kind r62.f_N r62.f_At r62.f_Kids) (TsynNode.mk r57_0.f_Op r57_0.f_Name r57_0.f_Kind r57_0.f_N r57_0.f_At r57_0.f_Kids) (fun r117 =>
 κ r117))
 fun j0 =>
 br (!r57_2) (κ false)
 (let t68 := (r62.f_Kids.length : Int)
 br (!(eqI t68 1)) (κ false)
 (br (inB 0 r62.f_Kids.length) (let t73 := (el4 r62.f_Kids (iNat 0))
 br (inB 0 t73.f_Kids.length) (let t76 := (el4 t73.f_Kids (iNat 0))
 lt (br (ltI 4503599627370496 0) (j0)
 (br (eqL t76.f_Op slit) (br (eqI t76.f_N 0) (c5 (TsynNode.mk t76.f_Op t76.f_Name t76.f_Kind t76.f_N t76.f_At t76.f_Kids) (fun r129 =>
 let t130 := (eqI r129 1)
 κ t130))
 (κ false))
 (κ false)))
 fun j1 =>
 br (eqI a2 0) (let t89 := (wr .i64 (a0 + a1))
 br (ltI 4503599627370496 t89) (j0)
 (br (eqL t76.f_Op slit) (br (eqI t76.f_N t89) (c5 (TsynNode.mk t76.f_Op t76.f_Name t76.f_Kind t76.f_N t76.f_At t76.f_Kids) (fun r129 =>
 let t130 := (eqI r129 1)
 κ t130))
 (κ false))
 (κ false)))
 (br (eqI a2 1) (let t94 := (wr .i64 (a0 - a1))
 br (ltI 4503599627370496 t94) (j0)
 (br (eqL t76.f_Op slit) (br (eqI t76.f_N t94) (c5 (TsynNode.mk t76.f_Op t76.f_Name t76.f_Kind t76.f_N t76.f_At t76.f_Kids) (fun r129 =>
 let t130 := (eqI r129 1)
 κ t130))
 (κ false))
 (κ false)))
 (br (eqI a2 2) (br (eqI a0 0) (let t108 := (wr .i64 (a0 * a1))
 br (ltI 4503599627370496 t108) (j0)
 (br (eqL t76.f_Op slit) (br (eqI t76.f_N t108) (c5 (TsynNode.mk t76.f_Op t76.f_Name t76.f_Kind t76.f_N t76.f_At t76.f_Kids) (fun r129 =>
 let t130 := (eqI r129 1)
 κ t130))
 (κ false))
 (κ false)))
 (br (!(eqI a0 0)) (let t102 := (wr .i64 (Int.tdiv 4503599627370496 a0))
 let t103 := (leI a1 t102)
 br t103 (let t108 := (wr .i64 (a0 * a1))
 br (!t103) (j0)
 (br (ltI 4503599627370496 t108) (j0)
 (br (eqL t76.f_Op slit) (br (eqI t76.f_N t108) (c5 (TsynNode.mk t76.f_Op t76.f_Name t76.f_Kind t76.f_N t76.f_At t76.f_Kids) (fun r129 =>
 let t130 := (eqI r129 1)
 κ t130))
 (κ false))
 (κ false))))
 (br (!t103) (j0)
 (j1))) none))
 (let t80 := (!(eqI a1 0))
 br t80 (br (!(eqI a1 0)) (let t84 := (wr .i64 (Int.tdiv a0 a1))
 br (!t80) (j0)
 (br (ltI 4503599627370496 t84) (j0)
 (br (eqL t76.f_Op slit) (br (eqI t76.f_N t84) (c5 (TsynNode.mk t76.f_Op t76.f_Name t76.f_Kind t76.f_N t76.f_At t76.f_Kids) (fun r129 =>
 let t130 := (eqI r129 1)
 κ t130))
 (κ false))
 (κ false)))) none)
 (br (!t80) (j0)
 (j1)))))) none) none))))) none) none)) none) none) none) none)) none))))))))
def L15_FoldLits (m : Nat) : Y_L15_FoldLits R := L15_FoldLits_F m (L15_awake m) (r9_Lit m) (r17_Read m) (fold_Fold m) (syn_Same m) (fold_Size m)
end
end Go.Pm
