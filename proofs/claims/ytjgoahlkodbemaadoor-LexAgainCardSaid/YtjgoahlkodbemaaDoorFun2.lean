/-
  Layer 5: the program as functions (written by lift.py), each tied to its run.
-/
import Derived.Test.YtjgoahlkodbemaaDoorOra2
namespace Go.Eng.L05
open Go.Eng Go.Proofs
set_option maxRecDepth 100000
def vRow_iisiiis {α : Type} (r0 : List D) (y : Int → Int → (List UInt8) → Int → Int → Int → (List UInt8) → Option α) : Option α := asCons r0 fun d0 r1 => asI .i64 d0 fun a0 => asCons r1 fun d1 r2 => asI .i64 d1 fun a1 => asCons r2 fun d2 r3 => asS d2 fun a2 => asCons r3 fun d3 r4 => asI .i64 d3 fun a3 => asCons r4 fun d4 r5 => asI .i64 d4 fun a4 => asCons r5 fun d5 r6 => asI .i64 d5 fun a5 => asCons r6 fun d6 r7 => asS d6 fun a6 => asNil r7 (y a0 a1 a2 a3 a4 a5 a6)
theorem vRow_iisiiis_mk {α : Type} (a0 : Int) (a1 : Int) (a2 : List UInt8) (a3 : Int) (a4 : Int) (a5 : Int) (a6 : List UInt8) (y : Int → Int → (List UInt8) → Int → Int → Int → (List UInt8) → Option α) : vRow_iisiiis [(.i .i64 a0), (.i .i64 a1), (.s a2), (.i .i64 a3), (.i .i64 a4), (.i .i64 a5), (.s a6)] y = y a0 a1 a2 a3 a4 a5 a6 := rfl
def vRow_i {α : Type} (r0 : List D) (y : Int → Option α) : Option α := asCons r0 fun d0 r1 => asI .i64 d0 fun a0 => asNil r1 (y a0)
theorem vRow_i_mk {α : Type} (a0 : Int) (y : Int → Option α) : vRow_i [(.i .i64 a0)] y = y a0 := rfl
noncomputable def F3 (x0 : List UInt8) : Option Res := CI env 3 [(.d (.s x0))] []
def r3 (y0 : Bool) : Res := .ret (.d (.b y0)) []
def v3 (o : Option Res) (y : Bool → Option Res) : Option Res := o.bind fun r => match r with
  | .ret v _ => (match unsh v with
    | some u => asD u fun e1 => asB e1 fun y0 => y y0
    | none => none)
  | .pan d _ => some (.pan d [])
theorem v3_mk (y0 : Bool) (y : Bool → Option Res) : v3 (some (r3 y0)) y = y y0 := rfl
def vP3 (o : Option Res) (y : Bool → Option Res) : Option Res := o.bind fun r => match r with
  | .ret v _ => (match unshP v with
    | some u => asD u fun e2 => asB e2 fun y0 => y y0
    | none => none)
  | .pan _ _ => none
theorem vP3_mk (y0 : Bool) (y : Bool → Option Res) : vP3 (some (r3 y0)) y = y y0 := rfl
noncomputable def F4 (x0 : List UInt8) (x1 : List (List D)) : Option Res := CI env 4 [(.d (.s x0)), (.d (.sl 1 x1))] []
def r4 (y0 : Bool) : Res := .ret (.d (.b y0)) []
def v4 (o : Option Res) (y : Bool → Option Res) : Option Res := o.bind fun r => match r with
  | .ret v _ => (match unsh v with
    | some u => asD u fun e1 => asB e1 fun y0 => y y0
    | none => none)
  | .pan d _ => some (.pan d [])
theorem v4_mk (y0 : Bool) (y : Bool → Option Res) : v4 (some (r4 y0)) y = y y0 := rfl
def vP4 (o : Option Res) (y : Bool → Option Res) : Option Res := o.bind fun r => match r with
  | .ret v _ => (match unshP v with
    | some u => asD u fun e2 => asB e2 fun y0 => y y0
    | none => none)
  | .pan _ _ => none
theorem vP4_mk (y0 : Bool) (y : Bool → Option Res) : vP4 (some (r4 y0)) y = y y0 := rfl
noncomputable def F5 (x0 : List UInt8) : Option Res := CI env 5 [(.d (.s x0))] []
def r5 (y0 : Bool) : Res := .ret (.d (.b y0)) []
def v5 (o : Option Res) (y : Bool → Option Res) : Option Res := o.bind fun r => match r with
  | .ret v _ => (match unsh v with
    | some u => asD u fun e1 => asB e1 fun y0 => y y0
    | none => none)
  | .pan d _ => some (.pan d [])
theorem v5_mk (y0 : Bool) (y : Bool → Option Res) : v5 (some (r5 y0)) y = y y0 := rfl
def vP5 (o : Option Res) (y : Bool → Option Res) : Option Res := o.bind fun r => match r with
  | .ret v _ => (match unshP v with
    | some u => asD u fun e2 => asB e2 fun y0 => y y0
    | none => none)
  | .pan _ _ => none
theorem vP5_mk (y0 : Bool) (y : Bool → Option Res) : vP5 (some (r5 y0)) y = y y0 := rfl
noncomputable def F6 (x0 : List UInt8) : Option Res := CI env 6 [(.d (.s x0))] []
def r6 (y0 : List (List D)) (y1 : Int) (y2 : Int) : Res := .ret (.tup [(.d (.sl 7 y0)), (.d (.i .i64 y1)), (.d (.i .i64 y2))]) []
def v6 (o : Option Res) (y : (List (List D)) → Int → Int → Option Res) : Option Res := o.bind fun r => match r with
  | .ret v _ => (match unsh v with
    | some u => asTup u fun q1 => asCons q1 fun e2 q3 => asD e2 fun e10 => asSl 7 e10 fun y0 => asCons q3 fun e4 q5 => asD e4 fun e9 => asI .i64 e9 fun y1 => asCons q5 fun e6 q7 => asD e6 fun e8 => asI .i64 e8 fun y2 => asNil q7 (y y0 y1 y2)
    | none => none)
  | .pan d _ => some (.pan d [])
theorem v6_mk (y0 : List (List D)) (y1 : Int) (y2 : Int) (y : (List (List D)) → Int → Int → Option Res) : v6 (some (r6 y0 y1 y2)) y = y y0 y1 y2 := rfl
def vP6 (o : Option Res) (y : (List (List D)) → Int → Int → Option Res) : Option Res := o.bind fun r => match r with
  | .ret v _ => (match unshP v with
    | some u => asTup u fun q11 => asCons q11 fun e12 q13 => asD e12 fun e20 => asSl 7 e20 fun y0 => asCons q13 fun e14 q15 => asD e14 fun e19 => asI .i64 e19 fun y1 => asCons q15 fun e16 q17 => asD e16 fun e18 => asI .i64 e18 fun y2 => asNil q17 (y y0 y1 y2)
    | none => none)
  | .pan _ _ => none
theorem vP6_mk (y0 : List (List D)) (y1 : Int) (y2 : Int) (y : (List (List D)) → Int → Int → Option Res) : vP6 (some (r6 y0 y1 y2)) y = y y0 y1 y2 := rfl
noncomputable def F7  : Option Res := CI env 7 [] []
def r7 (y0 : Bool) : Res := .ret (.d (.b y0)) []
def v7 (o : Option Res) (y : Bool → Option Res) : Option Res := o.bind fun r => match r with
  | .ret v _ => (match unsh v with
    | some u => asD u fun e1 => asB e1 fun y0 => y y0
    | none => none)
  | .pan d _ => some (.pan d [])
theorem v7_mk (y0 : Bool) (y : Bool → Option Res) : v7 (some (r7 y0)) y = y y0 := rfl
def vP7 (o : Option Res) (y : Bool → Option Res) : Option Res := o.bind fun r => match r with
  | .ret v _ => (match unshP v with
    | some u => asD u fun e2 => asB e2 fun y0 => y y0
    | none => none)
  | .pan _ _ => none
theorem vP7_mk (y0 : Bool) (y : Bool → Option Res) : vP7 (some (r7 y0)) y = y y0 := rfl
noncomputable def F8 (x0 : List UInt8) (x1 : Int) (x2 : Int) : Option Res := CI env 8 [(.d (.s x0)), (.d (.i .i64 x1)), (.d (.i .i64 x2))] []
def r8 (y0 : Bool) : Res := .ret (.d (.b y0)) []
def v8 (o : Option Res) (y : Bool → Option Res) : Option Res := o.bind fun r => match r with
  | .ret v _ => (match unsh v with
    | some u => asD u fun e1 => asB e1 fun y0 => y y0
    | none => none)
  | .pan d _ => some (.pan d [])
theorem v8_mk (y0 : Bool) (y : Bool → Option Res) : v8 (some (r8 y0)) y = y y0 := rfl
def vP8 (o : Option Res) (y : Bool → Option Res) : Option Res := o.bind fun r => match r with
  | .ret v _ => (match unshP v with
    | some u => asD u fun e2 => asB e2 fun y0 => y y0
    | none => none)
  | .pan _ _ => none
theorem vP8_mk (y0 : Bool) (y : Bool → Option Res) : vP8 (some (r8 y0)) y = y y0 := rfl
noncomputable def F9 (x0_0 : Int) (x0_1 : Int) (x0_2 : List UInt8) (x0_3 : Int) (x0_4 : Int) (x0_5 : Int) (x0_6 : List UInt8) (x1_0 : Int) (x1_1 : Int) (x1_2 : List UInt8) (x1_3 : Int) (x1_4 : Int) (x1_5 : Int) (x1_6 : List UInt8) : Option Res := CI env 9 [(.d (.ag [(.i .i64 x0_0), (.i .i64 x0_1), (.s x0_2), (.i .i64 x0_3), (.i .i64 x0_4), (.i .i64 x0_5), (.s x0_6)])), (.d (.ag [(.i .i64 x1_0), (.i .i64 x1_1), (.s x1_2), (.i .i64 x1_3), (.i .i64 x1_4), (.i .i64 x1_5), (.s x1_6)]))] []
def r9 (y0 : Bool) : Res := .ret (.d (.b y0)) []
def v9 (o : Option Res) (y : Bool → Option Res) : Option Res := o.bind fun r => match r with
  | .ret v _ => (match unsh v with
    | some u => asD u fun e1 => asB e1 fun y0 => y y0
    | none => none)
  | .pan d _ => some (.pan d [])
theorem v9_mk (y0 : Bool) (y : Bool → Option Res) : v9 (some (r9 y0)) y = y y0 := rfl
def vP9 (o : Option Res) (y : Bool → Option Res) : Option Res := o.bind fun r => match r with
  | .ret v _ => (match unshP v with
    | some u => asD u fun e2 => asB e2 fun y0 => y y0
    | none => none)
  | .pan _ _ => none
theorem vP9_mk (y0 : Bool) (y : Bool → Option Res) : vP9 (some (r9 y0)) y = y y0 := rfl
noncomputable def F10 (x0 : List UInt8) (x1 : Int) : Option Res := CI env 10 [(.d (.s x0)), (.d (.i .i64 x1))] []
def r10 (y0 : Int) (y1 : Int) (y2 : List UInt8) (y3 : Int) (y4 : Int) (y5 : Int) (y6 : List UInt8) (y7 : Bool) : Res := .ret (.tup [(.d (.ag [(.i .i64 y0), (.i .i64 y1), (.s y2), (.i .i64 y3), (.i .i64 y4), (.i .i64 y5), (.s y6)])), (.d (.b y7))]) []
def v10 (o : Option Res) (y : Int → Int → (List UInt8) → Int → Int → Int → (List UInt8) → Bool → Option Res) : Option Res := o.bind fun r => match r with
  | .ret v _ => (match unsh v with
    | some u => asTup u fun q1 => asCons q1 fun e2 q3 => asD e2 fun e7 => asAg e7 fun q8 => asCons q8 fun e9 q10 => asI .i64 e9 fun y0 => asCons q10 fun e11 q12 => asI .i64 e11 fun y1 => asCons q12 fun e13 q14 => asS e13 fun y2 => asCons q14 fun e15 q16 => asI .i64 e15 fun y3 => asCons q16 fun e17 q18 => asI .i64 e17 fun y4 => asCons q18 fun e19 q20 => asI .i64 e19 fun y5 => asCons q20 fun e21 q22 => asS e21 fun y6 => asNil q22 (asCons q3 fun e4 q5 => asD e4 fun e6 => asB e6 fun y7 => asNil q5 (y y0 y1 y2 y3 y4 y5 y6 y7))
    | none => none)
  | .pan d _ => some (.pan d [])
theorem v10_mk (y0 : Int) (y1 : Int) (y2 : List UInt8) (y3 : Int) (y4 : Int) (y5 : Int) (y6 : List UInt8) (y7 : Bool) (y : Int → Int → (List UInt8) → Int → Int → Int → (List UInt8) → Bool → Option Res) : v10 (some (r10 y0 y1 y2 y3 y4 y5 y6 y7)) y = y y0 y1 y2 y3 y4 y5 y6 y7 := rfl
def vP10 (o : Option Res) (y : Int → Int → (List UInt8) → Int → Int → Int → (List UInt8) → Bool → Option Res) : Option Res := o.bind fun r => match r with
  | .ret v _ => (match unshP v with
    | some u => asTup u fun q23 => asCons q23 fun e24 q25 => asD e24 fun e29 => asAg e29 fun q30 => asCons q30 fun e31 q32 => asI .i64 e31 fun y0 => asCons q32 fun e33 q34 => asI .i64 e33 fun y1 => asCons q34 fun e35 q36 => asS e35 fun y2 => asCons q36 fun e37 q38 => asI .i64 e37 fun y3 => asCons q38 fun e39 q40 => asI .i64 e39 fun y4 => asCons q40 fun e41 q42 => asI .i64 e41 fun y5 => asCons q42 fun e43 q44 => asS e43 fun y6 => asNil q44 (asCons q25 fun e26 q27 => asD e26 fun e28 => asB e28 fun y7 => asNil q27 (y y0 y1 y2 y3 y4 y5 y6 y7))
    | none => none)
  | .pan _ _ => none
theorem vP10_mk (y0 : Int) (y1 : Int) (y2 : List UInt8) (y3 : Int) (y4 : Int) (y5 : Int) (y6 : List UInt8) (y7 : Bool) (y : Int → Int → (List UInt8) → Int → Int → Int → (List UInt8) → Bool → Option Res) : vP10 (some (r10 y0 y1 y2 y3 y4 y5 y6 y7)) y = y y0 y1 y2 y3 y4 y5 y6 y7 := rfl
noncomputable def F11 (x0 : List UInt8) (x1 : Int) : Option Res := CI env 11 [(.d (.s x0)), (.d (.i .i64 x1))] []
def r11 (y0 : Int) (y1 : Int) : Res := .ret (.tup [(.d (.i .i64 y0)), (.d (.i .i64 y1))]) []
def v11 (o : Option Res) (y : Int → Int → Option Res) : Option Res := o.bind fun r => match r with
  | .ret v _ => (match unsh v with
    | some u => asTup u fun q1 => asCons q1 fun e2 q3 => asD e2 fun e7 => asI .i64 e7 fun y0 => asCons q3 fun e4 q5 => asD e4 fun e6 => asI .i64 e6 fun y1 => asNil q5 (y y0 y1)
    | none => none)
  | .pan d _ => some (.pan d [])
theorem v11_mk (y0 : Int) (y1 : Int) (y : Int → Int → Option Res) : v11 (some (r11 y0 y1)) y = y y0 y1 := rfl
def vP11 (o : Option Res) (y : Int → Int → Option Res) : Option Res := o.bind fun r => match r with
  | .ret v _ => (match unshP v with
    | some u => asTup u fun q8 => asCons q8 fun e9 q10 => asD e9 fun e14 => asI .i64 e14 fun y0 => asCons q10 fun e11 q12 => asD e11 fun e13 => asI .i64 e13 fun y1 => asNil q12 (y y0 y1)
    | none => none)
  | .pan _ _ => none
theorem vP11_mk (y0 : Int) (y1 : Int) (y : Int → Int → Option Res) : vP11 (some (r11 y0 y1)) y = y y0 y1 := rfl
noncomputable def F12 (x0 : List UInt8) : Option Res := CI env 12 [(.d (.s x0))] []
def r12 (y0 : Bool) : Res := .ret (.d (.b y0)) []
def v12 (o : Option Res) (y : Bool → Option Res) : Option Res := o.bind fun r => match r with
  | .ret v _ => (match unsh v with
    | some u => asD u fun e1 => asB e1 fun y0 => y y0
    | none => none)
  | .pan d _ => some (.pan d [])
theorem v12_mk (y0 : Bool) (y : Bool → Option Res) : v12 (some (r12 y0)) y = y y0 := rfl
def vP12 (o : Option Res) (y : Bool → Option Res) : Option Res := o.bind fun r => match r with
  | .ret v _ => (match unshP v with
    | some u => asD u fun e2 => asB e2 fun y0 => y y0
    | none => none)
  | .pan _ _ => none
theorem vP12_mk (y0 : Bool) (y : Bool → Option Res) : vP12 (some (r12 y0)) y = y y0 := rfl
noncomputable def F13 (x0 : List UInt8) : Option Res := CI env 13 [(.d (.s x0))] []
def r13 (y0 : Int) (y1 : Int) (y2 : Int) (y3 : List UInt8) (y4 : Int) : Res := .ret (.tup [(.d (.ag [(.i .i64 y0), (.i .i64 y1), (.i .i64 y2), (.s y3)])), (.d (.i .i64 y4))]) []
def v13 (o : Option Res) (y : Int → Int → Int → (List UInt8) → Int → Option Res) : Option Res := o.bind fun r => match r with
  | .ret v _ => (match unsh v with
    | some u => asTup u fun q1 => asCons q1 fun e2 q3 => asD e2 fun e7 => asAg e7 fun q8 => asCons q8 fun e9 q10 => asI .i64 e9 fun y0 => asCons q10 fun e11 q12 => asI .i64 e11 fun y1 => asCons q12 fun e13 q14 => asI .i64 e13 fun y2 => asCons q14 fun e15 q16 => asS e15 fun y3 => asNil q16 (asCons q3 fun e4 q5 => asD e4 fun e6 => asI .i64 e6 fun y4 => asNil q5 (y y0 y1 y2 y3 y4))
    | none => none)
  | .pan d _ => some (.pan d [])
theorem v13_mk (y0 : Int) (y1 : Int) (y2 : Int) (y3 : List UInt8) (y4 : Int) (y : Int → Int → Int → (List UInt8) → Int → Option Res) : v13 (some (r13 y0 y1 y2 y3 y4)) y = y y0 y1 y2 y3 y4 := rfl
def vP13 (o : Option Res) (y : Int → Int → Int → (List UInt8) → Int → Option Res) : Option Res := o.bind fun r => match r with
  | .ret v _ => (match unshP v with
    | some u => asTup u fun q17 => asCons q17 fun e18 q19 => asD e18 fun e23 => asAg e23 fun q24 => asCons q24 fun e25 q26 => asI .i64 e25 fun y0 => asCons q26 fun e27 q28 => asI .i64 e27 fun y1 => asCons q28 fun e29 q30 => asI .i64 e29 fun y2 => asCons q30 fun e31 q32 => asS e31 fun y3 => asNil q32 (asCons q19 fun e20 q21 => asD e20 fun e22 => asI .i64 e22 fun y4 => asNil q21 (y y0 y1 y2 y3 y4))
    | none => none)
  | .pan _ _ => none
theorem vP13_mk (y0 : Int) (y1 : Int) (y2 : Int) (y3 : List UInt8) (y4 : Int) (y : Int → Int → Int → (List UInt8) → Int → Option Res) : vP13 (some (r13 y0 y1 y2 y3 y4)) y = y y0 y1 y2 y3 y4 := rfl
noncomputable def F14 (x0 : List UInt8) : Option Res := CI env 14 [(.d (.s x0))] []
def r14 (y0 : Int) (y1 : Bool) : Res := .ret (.tup [(.d (.i .i64 y0)), (.d (.b y1))]) []
def v14 (o : Option Res) (y : Int → Bool → Option Res) : Option Res := o.bind fun r => match r with
  | .ret v _ => (match unsh v with
    | some u => asTup u fun q1 => asCons q1 fun e2 q3 => asD e2 fun e7 => asI .i64 e7 fun y0 => asCons q3 fun e4 q5 => asD e4 fun e6 => asB e6 fun y1 => asNil q5 (y y0 y1)
    | none => none)
  | .pan d _ => some (.pan d [])
theorem v14_mk (y0 : Int) (y1 : Bool) (y : Int → Bool → Option Res) : v14 (some (r14 y0 y1)) y = y y0 y1 := rfl
def vP14 (o : Option Res) (y : Int → Bool → Option Res) : Option Res := o.bind fun r => match r with
  | .ret v _ => (match unshP v with
    | some u => asTup u fun q8 => asCons q8 fun e9 q10 => asD e9 fun e14 => asI .i64 e14 fun y0 => asCons q10 fun e11 q12 => asD e11 fun e13 => asB e13 fun y1 => asNil q12 (y y0 y1)
    | none => none)
  | .pan _ _ => none
theorem vP14_mk (y0 : Int) (y1 : Bool) (y : Int → Bool → Option Res) : vP14 (some (r14 y0 y1)) y = y y0 y1 := rfl
noncomputable def F15 (x0 : Int) : Option Res := CI env 15 [(.d (.i .u8 x0))] []
def r15 (y0 : Bool) : Res := .ret (.d (.b y0)) []
def v15 (o : Option Res) (y : Bool → Option Res) : Option Res := o.bind fun r => match r with
  | .ret v _ => (match unsh v with
    | some u => asD u fun e1 => asB e1 fun y0 => y y0
    | none => none)
  | .pan d _ => some (.pan d [])
theorem v15_mk (y0 : Bool) (y : Bool → Option Res) : v15 (some (r15 y0)) y = y y0 := rfl
def vP15 (o : Option Res) (y : Bool → Option Res) : Option Res := o.bind fun r => match r with
  | .ret v _ => (match unshP v with
    | some u => asD u fun e2 => asB e2 fun y0 => y y0
    | none => none)
  | .pan _ _ => none
theorem vP15_mk (y0 : Bool) (y : Bool → Option Res) : vP15 (some (r15 y0)) y = y y0 := rfl
noncomputable def F16 (x0 : List UInt8) (x1 : Int) : Option Res := CI env 16 [(.d (.s x0)), (.d (.i .u8 x1))] []
def r16 (y0 : Int) : Res := .ret (.d (.i .i64 y0)) []
def v16 (o : Option Res) (y : Int → Option Res) : Option Res := o.bind fun r => match r with
  | .ret v _ => (match unsh v with
    | some u => asD u fun e1 => asI .i64 e1 fun y0 => y y0
    | none => none)
  | .pan d _ => some (.pan d [])
theorem v16_mk (y0 : Int) (y : Int → Option Res) : v16 (some (r16 y0)) y = y y0 := rfl
def vP16 (o : Option Res) (y : Int → Option Res) : Option Res := o.bind fun r => match r with
  | .ret v _ => (match unshP v with
    | some u => asD u fun e2 => asI .i64 e2 fun y0 => y y0
    | none => none)
  | .pan _ _ => none
theorem vP16_mk (y0 : Int) (y : Int → Option Res) : vP16 (some (r16 y0)) y = y y0 := rfl
noncomputable def F17 (x0 : List UInt8) (x1 : List UInt8) : Option Res := CI env 17 [(.d (.s x0)), (.d (.s x1))] []
def r17 (y0 : Bool) : Res := .ret (.d (.b y0)) []
def v17 (o : Option Res) (y : Bool → Option Res) : Option Res := o.bind fun r => match r with
  | .ret v _ => (match unsh v with
    | some u => asD u fun e1 => asB e1 fun y0 => y y0
    | none => none)
  | .pan d _ => some (.pan d [])
theorem v17_mk (y0 : Bool) (y : Bool → Option Res) : v17 (some (r17 y0)) y = y y0 := rfl
def vP17 (o : Option Res) (y : Bool → Option Res) : Option Res := o.bind fun r => match r with
  | .ret v _ => (match unshP v with
    | some u => asD u fun e2 => asB e2 fun y0 => y y0
    | none => none)
  | .pan _ _ => none
theorem vP17_mk (y0 : Bool) (y : Bool → Option Res) : vP17 (some (r17 y0)) y = y y0 := rfl
noncomputable def F18 (x0 : List UInt8) (x1 : List UInt8) : Option Res := CI env 18 [(.d (.s x0)), (.d (.s x1))] []
def r18 (y0 : List UInt8) (y1 : List UInt8) (y2 : Bool) : Res := .ret (.tup [(.d (.s y0)), (.d (.s y1)), (.d (.b y2))]) []
def v18 (o : Option Res) (y : (List UInt8) → (List UInt8) → Bool → Option Res) : Option Res := o.bind fun r => match r with
  | .ret v _ => (match unsh v with
    | some u => asTup u fun q1 => asCons q1 fun e2 q3 => asD e2 fun e10 => asS e10 fun y0 => asCons q3 fun e4 q5 => asD e4 fun e9 => asS e9 fun y1 => asCons q5 fun e6 q7 => asD e6 fun e8 => asB e8 fun y2 => asNil q7 (y y0 y1 y2)
    | none => none)
  | .pan d _ => some (.pan d [])
theorem v18_mk (y0 : List UInt8) (y1 : List UInt8) (y2 : Bool) (y : (List UInt8) → (List UInt8) → Bool → Option Res) : v18 (some (r18 y0 y1 y2)) y = y y0 y1 y2 := rfl
def vP18 (o : Option Res) (y : (List UInt8) → (List UInt8) → Bool → Option Res) : Option Res := o.bind fun r => match r with
  | .ret v _ => (match unshP v with
    | some u => asTup u fun q11 => asCons q11 fun e12 q13 => asD e12 fun e20 => asS e20 fun y0 => asCons q13 fun e14 q15 => asD e14 fun e19 => asS e19 fun y1 => asCons q15 fun e16 q17 => asD e16 fun e18 => asB e18 fun y2 => asNil q17 (y y0 y1 y2)
    | none => none)
  | .pan _ _ => none
theorem vP18_mk (y0 : List UInt8) (y1 : List UInt8) (y2 : Bool) (y : (List UInt8) → (List UInt8) → Bool → Option Res) : vP18 (some (r18 y0 y1 y2)) y = y y0 y1 y2 := rfl
noncomputable def F19 (x0 : List UInt8) (x1 : List UInt8) : Option Res := CI env 19 [(.d (.s x0)), (.d (.s x1))] []
def r19 (y0 : List UInt8) : Res := .ret (.d (.s y0)) []
def v19 (o : Option Res) (y : (List UInt8) → Option Res) : Option Res := o.bind fun r => match r with
  | .ret v _ => (match unsh v with
    | some u => asD u fun e1 => asS e1 fun y0 => y y0
    | none => none)
  | .pan d _ => some (.pan d [])
theorem v19_mk (y0 : List UInt8) (y : (List UInt8) → Option Res) : v19 (some (r19 y0)) y = y y0 := rfl
def vP19 (o : Option Res) (y : (List UInt8) → Option Res) : Option Res := o.bind fun r => match r with
  | .ret v _ => (match unshP v with
    | some u => asD u fun e2 => asS e2 fun y0 => y y0
    | none => none)
  | .pan _ _ => none
theorem vP19_mk (y0 : List UInt8) (y : (List UInt8) → Option Res) : vP19 (some (r19 y0)) y = y y0 := rfl
noncomputable def F20 (x0 : List UInt8) (x1 : List UInt8) : Option Res := CI env 20 [(.d (.s x0)), (.d (.s x1))] []
def r20 (y0 : Bool) : Res := .ret (.d (.b y0)) []
def v20 (o : Option Res) (y : Bool → Option Res) : Option Res := o.bind fun r => match r with
  | .ret v _ => (match unsh v with
    | some u => asD u fun e1 => asB e1 fun y0 => y y0
    | none => none)
  | .pan d _ => some (.pan d [])
theorem v20_mk (y0 : Bool) (y : Bool → Option Res) : v20 (some (r20 y0)) y = y y0 := rfl
def vP20 (o : Option Res) (y : Bool → Option Res) : Option Res := o.bind fun r => match r with
  | .ret v _ => (match unshP v with
    | some u => asD u fun e2 => asB e2 fun y0 => y y0
    | none => none)
  | .pan _ _ => none
theorem vP20_mk (y0 : Bool) (y : Bool → Option Res) : vP20 (some (r20 y0)) y = y y0 := rfl
noncomputable def F21 (x0 : List UInt8) : Option Res := CI env 21 [(.d (.s x0))] []
def r21 (y0 : List UInt8) : Res := .ret (.d (.s y0)) []
def v21 (o : Option Res) (y : (List UInt8) → Option Res) : Option Res := o.bind fun r => match r with
  | .ret v _ => (match unsh v with
    | some u => asD u fun e1 => asS e1 fun y0 => y y0
    | none => none)
  | .pan d _ => some (.pan d [])
theorem v21_mk (y0 : List UInt8) (y : (List UInt8) → Option Res) : v21 (some (r21 y0)) y = y y0 := rfl
def vP21 (o : Option Res) (y : (List UInt8) → Option Res) : Option Res := o.bind fun r => match r with
  | .ret v _ => (match unshP v with
    | some u => asD u fun e2 => asS e2 fun y0 => y y0
    | none => none)
  | .pan _ _ => none
theorem vP21_mk (y0 : List UInt8) (y : (List UInt8) → Option Res) : vP21 (some (r21 y0)) y = y y0 := rfl
noncomputable def F22 (x0 : List UInt8) : Option Res := CI env 22 [(.d (.s x0))] []
def r22 (y0 : List UInt8) : Res := .ret (.d (.s y0)) []
def v22 (o : Option Res) (y : (List UInt8) → Option Res) : Option Res := o.bind fun r => match r with
  | .ret v _ => (match unsh v with
    | some u => asD u fun e1 => asS e1 fun y0 => y y0
    | none => none)
  | .pan d _ => some (.pan d [])
theorem v22_mk (y0 : List UInt8) (y : (List UInt8) → Option Res) : v22 (some (r22 y0)) y = y y0 := rfl
def vP22 (o : Option Res) (y : (List UInt8) → Option Res) : Option Res := o.bind fun r => match r with
  | .ret v _ => (match unshP v with
    | some u => asD u fun e2 => asS e2 fun y0 => y y0
    | none => none)
  | .pan _ _ => none
theorem vP22_mk (y0 : List UInt8) (y : (List UInt8) → Option Res) : vP22 (some (r22 y0)) y = y y0 := rfl
noncomputable def F23 (x0 : List UInt8) (x1 : Int) (x2 : Int) : Option Res := CI env 23 [(.d (.s x0)), (.d (.i .i64 x1)), (.d (.i .i64 x2))] []
def r23 (y0 : Int) (y1 : D) : Res := .ret (.tup [(.d (.i .i64 y0)), (.d y1)]) []
def v23 (o : Option Res) (y : Int → D → Option Res) : Option Res := o.bind fun r => match r with
  | .ret v _ => (match unsh v with
    | some u => asTup u fun q1 => asCons q1 fun e2 q3 => asD e2 fun e7 => asI .i64 e7 fun y0 => asCons q3 fun e4 q5 => asD e4 fun e6 => (fun y1 => asNil q5 (y y0 y1)) e6
    | none => none)
  | .pan d _ => some (.pan d [])
theorem v23_mk (y0 : Int) (y1 : D) (y : Int → D → Option Res) : v23 (some (r23 y0 y1)) y = y y0 y1 := rfl
def vP23 (o : Option Res) (y : Int → D → Option Res) : Option Res := o.bind fun r => match r with
  | .ret v _ => (match unshP v with
    | some u => asTup u fun q8 => asCons q8 fun e9 q10 => asD e9 fun e14 => asI .i64 e14 fun y0 => asCons q10 fun e11 q12 => asD e11 fun e13 => (fun y1 => asNil q12 (y y0 y1)) e13
    | none => none)
  | .pan _ _ => none
theorem vP23_mk (y0 : Int) (y1 : D) (y : Int → D → Option Res) : vP23 (some (r23 y0 y1)) y = y y0 y1 := rfl
noncomputable def F24 (x0_0 : Int) (x0_1 : Int) (x0_2 : Int) (x0_3 : List UInt8) : Option Res := CI env 24 [(.d (.ag [(.i .i64 x0_0), (.i .i64 x0_1), (.i .i64 x0_2), (.s x0_3)]))] []
def r24 (y0 : List UInt8) (y1 : Int) : Res := .ret (.tup [(.d (.s y0)), (.d (.i .i64 y1))]) []
def v24 (o : Option Res) (y : (List UInt8) → Int → Option Res) : Option Res := o.bind fun r => match r with
  | .ret v _ => (match unsh v with
    | some u => asTup u fun q1 => asCons q1 fun e2 q3 => asD e2 fun e7 => asS e7 fun y0 => asCons q3 fun e4 q5 => asD e4 fun e6 => asI .i64 e6 fun y1 => asNil q5 (y y0 y1)
    | none => none)
  | .pan d _ => some (.pan d [])
theorem v24_mk (y0 : List UInt8) (y1 : Int) (y : (List UInt8) → Int → Option Res) : v24 (some (r24 y0 y1)) y = y y0 y1 := rfl
def vP24 (o : Option Res) (y : (List UInt8) → Int → Option Res) : Option Res := o.bind fun r => match r with
  | .ret v _ => (match unshP v with
    | some u => asTup u fun q8 => asCons q8 fun e9 q10 => asD e9 fun e14 => asS e14 fun y0 => asCons q10 fun e11 q12 => asD e11 fun e13 => asI .i64 e13 fun y1 => asNil q12 (y y0 y1)
    | none => none)
  | .pan _ _ => none
theorem vP24_mk (y0 : List UInt8) (y1 : Int) (y : (List UInt8) → Int → Option Res) : vP24 (some (r24 y0 y1)) y = y y0 y1 := rfl
noncomputable def F25 (x0 : Int) (x1 : Int) : Option Res := CI env 25 [(.d (.i .i64 x0)), (.d (.i .i64 x1))] []
def r25 (y0 : List UInt8) : Res := .ret (.d (.s y0)) []
def v25 (o : Option Res) (y : (List UInt8) → Option Res) : Option Res := o.bind fun r => match r with
  | .ret v _ => (match unsh v with
    | some u => asD u fun e1 => asS e1 fun y0 => y y0
    | none => none)
  | .pan d _ => some (.pan d [])
theorem v25_mk (y0 : List UInt8) (y : (List UInt8) → Option Res) : v25 (some (r25 y0)) y = y y0 := rfl
def vP25 (o : Option Res) (y : (List UInt8) → Option Res) : Option Res := o.bind fun r => match r with
  | .ret v _ => (match unshP v with
    | some u => asD u fun e2 => asS e2 fun y0 => y y0
    | none => none)
  | .pan _ _ => none
theorem vP25_mk (y0 : List UInt8) (y : (List UInt8) → Option Res) : vP25 (some (r25 y0)) y = y y0 := rfl
noncomputable def F29 (x0 : List UInt8) (x1 : List UInt8) : Option Res := CI env 29 [(.d (.s x0)), (.d (.s x1))] []
def r29 (y0 : List UInt8) : Res := .ret (.d (.s y0)) []
def v29 (o : Option Res) (y : (List UInt8) → Option Res) : Option Res := o.bind fun r => match r with
  | .ret v _ => (match unsh v with
    | some u => asD u fun e1 => asS e1 fun y0 => y y0
    | none => none)
  | .pan d _ => some (.pan d [])
theorem v29_mk (y0 : List UInt8) (y : (List UInt8) → Option Res) : v29 (some (r29 y0)) y = y y0 := rfl
def vP29 (o : Option Res) (y : (List UInt8) → Option Res) : Option Res := o.bind fun r => match r with
  | .ret v _ => (match unshP v with
    | some u => asD u fun e2 => asS e2 fun y0 => y y0
    | none => none)
  | .pan _ _ => none
theorem vP29_mk (y0 : List UInt8) (y : (List UInt8) → Option Res) : vP29 (some (r29 y0)) y = y y0 := rfl
noncomputable def F30 (x0 : List UInt8) (x1 : List UInt8) : Option Res := CI env 30 [(.d (.s x0)), (.d (.s x1))] []
def r30 (y0 : Bool) : Res := .ret (.d (.b y0)) []
def v30 (o : Option Res) (y : Bool → Option Res) : Option Res := o.bind fun r => match r with
  | .ret v _ => (match unsh v with
    | some u => asD u fun e1 => asB e1 fun y0 => y y0
    | none => none)
  | .pan d _ => some (.pan d [])
theorem v30_mk (y0 : Bool) (y : Bool → Option Res) : v30 (some (r30 y0)) y = y y0 := rfl
def vP30 (o : Option Res) (y : Bool → Option Res) : Option Res := o.bind fun r => match r with
  | .ret v _ => (match unshP v with
    | some u => asD u fun e2 => asB e2 fun y0 => y y0
    | none => none)
  | .pan _ _ => none
theorem vP30_mk (y0 : Bool) (y : Bool → Option Res) : vP30 (some (r30 y0)) y = y y0 := rfl
noncomputable def F31 (x0 : List UInt8) (x1 : Int) (x2 : Int) : Option Res := CI env 31 [(.d (.s x0)), (.d (.i .i64 x1)), (.d (.i .i64 x2))] []
def r31 (y0 : Int) (y1 : D) : Res := .ret (.tup [(.d (.i .u64 y0)), (.d y1)]) []
def v31 (o : Option Res) (y : Int → D → Option Res) : Option Res := o.bind fun r => match r with
  | .ret v _ => (match unsh v with
    | some u => asTup u fun q1 => asCons q1 fun e2 q3 => asD e2 fun e7 => asI .u64 e7 fun y0 => asCons q3 fun e4 q5 => asD e4 fun e6 => (fun y1 => asNil q5 (y y0 y1)) e6
    | none => none)
  | .pan d _ => some (.pan d [])
theorem v31_mk (y0 : Int) (y1 : D) (y : Int → D → Option Res) : v31 (some (r31 y0 y1)) y = y y0 y1 := rfl
def vP31 (o : Option Res) (y : Int → D → Option Res) : Option Res := o.bind fun r => match r with
  | .ret v _ => (match unshP v with
    | some u => asTup u fun q8 => asCons q8 fun e9 q10 => asD e9 fun e14 => asI .u64 e14 fun y0 => asCons q10 fun e11 q12 => asD e11 fun e13 => (fun y1 => asNil q12 (y y0 y1)) e13
    | none => none)
  | .pan _ _ => none
theorem vP31_mk (y0 : Int) (y1 : D) (y : Int → D → Option Res) : vP31 (some (r31 y0 y1)) y = y y0 y1 := rfl
noncomputable def F32 (x0 : List UInt8) (x1 : Int) (x2 : Int) : Option Res := CI env 32 [(.d (.s x0)), (.d (.i .i64 x1)), (.d (.i .i64 x2))] []
def r32 (y0 : Int) (y1 : D) : Res := .ret (.tup [(.d (.i .i64 y0)), (.d y1)]) []
def v32 (o : Option Res) (y : Int → D → Option Res) : Option Res := o.bind fun r => match r with
  | .ret v _ => (match unsh v with
    | some u => asTup u fun q1 => asCons q1 fun e2 q3 => asD e2 fun e7 => asI .i64 e7 fun y0 => asCons q3 fun e4 q5 => asD e4 fun e6 => (fun y1 => asNil q5 (y y0 y1)) e6
    | none => none)
  | .pan d _ => some (.pan d [])
theorem v32_mk (y0 : Int) (y1 : D) (y : Int → D → Option Res) : v32 (some (r32 y0 y1)) y = y y0 y1 := rfl
def vP32 (o : Option Res) (y : Int → D → Option Res) : Option Res := o.bind fun r => match r with
  | .ret v _ => (match unshP v with
    | some u => asTup u fun q8 => asCons q8 fun e9 q10 => asD e9 fun e14 => asI .i64 e14 fun y0 => asCons q10 fun e11 q12 => asD e11 fun e13 => (fun y1 => asNil q12 (y y0 y1)) e13
    | none => none)
  | .pan _ _ => none
theorem vP32_mk (y0 : Int) (y1 : D) (y : Int → D → Option Res) : vP32 (some (r32 y0 y1)) y = y y0 y1 := rfl
noncomputable def F33 (x0 : List UInt8) (x1 : List UInt8) (x2 : Int) (x3 : Int) (x4 : D) : Option Res := CI env 33 [(.d (.s x0)), (.d (.s x1)), (.d (.i .i64 x2)), (.d (.i .i64 x3)), (.d x4)] []
def r33 (y0 : D) : Res := .ret (.d y0) []
def v33 (o : Option Res) (y : D → Option Res) : Option Res := o.bind fun r => match r with
  | .ret v _ => (match unsh v with
    | some u => asD u fun e1 => (fun y0 => y y0) e1
    | none => none)
  | .pan d _ => some (.pan d [])
theorem v33_mk (y0 : D) (y : D → Option Res) : v33 (some (r33 y0)) y = y y0 := rfl
def vP33 (o : Option Res) (y : D → Option Res) : Option Res := o.bind fun r => match r with
  | .ret v _ => (match unshP v with
    | some u => asD u fun e2 => (fun y0 => y y0) e2
    | none => none)
  | .pan _ _ => none
theorem vP33_mk (y0 : D) (y : D → Option Res) : vP33 (some (r33 y0)) y = y y0 := rfl
noncomputable def F34 (x0_0 : Int) (x0_1 : Int) (x0_2 : Int) (x0_3 : List UInt8) : Option Res := CI env 34 [(.d (.ag [(.i .i64 x0_0), (.i .i64 x0_1), (.i .i64 x0_2), (.s x0_3)]))] []
def r34 (y0 : Int) : Res := .ret (.d (.i .i64 y0)) []
def v34 (o : Option Res) (y : Int → Option Res) : Option Res := o.bind fun r => match r with
  | .ret v _ => (match unsh v with
    | some u => asD u fun e1 => asI .i64 e1 fun y0 => y y0
    | none => none)
  | .pan d _ => some (.pan d [])
theorem v34_mk (y0 : Int) (y : Int → Option Res) : v34 (some (r34 y0)) y = y y0 := rfl
def vP34 (o : Option Res) (y : Int → Option Res) : Option Res := o.bind fun r => match r with
  | .ret v _ => (match unshP v with
    | some u => asD u fun e2 => asI .i64 e2 fun y0 => y y0
    | none => none)
  | .pan _ _ => none
theorem vP34_mk (y0 : Int) (y : Int → Option Res) : vP34 (some (r34 y0)) y = y y0 := rfl
noncomputable def F35 (x0 : Int) (x1 : Int) : Option Res := CI env 35 [(.d (.i .i64 x0)), (.d (.i .i64 x1))] []
def r35 (y0 : List UInt8) : Res := .ret (.d (.s y0)) []
def v35 (o : Option Res) (y : (List UInt8) → Option Res) : Option Res := o.bind fun r => match r with
  | .ret v _ => (match unsh v with
    | some u => asD u fun e1 => asS e1 fun y0 => y y0
    | none => none)
  | .pan d _ => some (.pan d [])
theorem v35_mk (y0 : List UInt8) (y : (List UInt8) → Option Res) : v35 (some (r35 y0)) y = y y0 := rfl
def vP35 (o : Option Res) (y : (List UInt8) → Option Res) : Option Res := o.bind fun r => match r with
  | .ret v _ => (match unshP v with
    | some u => asD u fun e2 => asS e2 fun y0 => y y0
    | none => none)
  | .pan _ _ => none
theorem vP35_mk (y0 : List UInt8) (y : (List UInt8) → Option Res) : vP35 (some (r35 y0)) y = y y0 := rfl
noncomputable def F38 (x0 : List UInt8) (x1 : List UInt8) : Option Res := CI env 38 [(.d (.s x0)), (.d (.s x1))] []
def r38 (y0 : Bool) : Res := .ret (.d (.b y0)) []
def v38 (o : Option Res) (y : Bool → Option Res) : Option Res := o.bind fun r => match r with
  | .ret v _ => (match unsh v with
    | some u => asD u fun e1 => asB e1 fun y0 => y y0
    | none => none)
  | .pan d _ => some (.pan d [])
theorem v38_mk (y0 : Bool) (y : Bool → Option Res) : v38 (some (r38 y0)) y = y y0 := rfl
def vP38 (o : Option Res) (y : Bool → Option Res) : Option Res := o.bind fun r => match r with
  | .ret v _ => (match unshP v with
    | some u => asD u fun e2 => asB e2 fun y0 => y y0
    | none => none)
  | .pan _ _ => none
theorem vP38_mk (y0 : Bool) (y : Bool → Option Res) : vP38 (some (r38 y0)) y = y y0 := rfl
noncomputable def F39 (x0 : List UInt8) (x1 : Int) (x2 : Int) : Option Res := CI env 39 [(.d (.s x0)), (.d (.i .i64 x1)), (.d (.i .i64 x2))] []
def r39 (y0 : Int) (y1 : D) : Res := .ret (.tup [(.d (.i .u64 y0)), (.d y1)]) []
def v39 (o : Option Res) (y : Int → D → Option Res) : Option Res := o.bind fun r => match r with
  | .ret v _ => (match unsh v with
    | some u => asTup u fun q1 => asCons q1 fun e2 q3 => asD e2 fun e7 => asI .u64 e7 fun y0 => asCons q3 fun e4 q5 => asD e4 fun e6 => (fun y1 => asNil q5 (y y0 y1)) e6
    | none => none)
  | .pan d _ => some (.pan d [])
theorem v39_mk (y0 : Int) (y1 : D) (y : Int → D → Option Res) : v39 (some (r39 y0 y1)) y = y y0 y1 := rfl
def vP39 (o : Option Res) (y : Int → D → Option Res) : Option Res := o.bind fun r => match r with
  | .ret v _ => (match unshP v with
    | some u => asTup u fun q8 => asCons q8 fun e9 q10 => asD e9 fun e14 => asI .u64 e14 fun y0 => asCons q10 fun e11 q12 => asD e11 fun e13 => (fun y1 => asNil q12 (y y0 y1)) e13
    | none => none)
  | .pan _ _ => none
theorem vP39_mk (y0 : Int) (y1 : D) (y : Int → D → Option Res) : vP39 (some (r39 y0 y1)) y = y y0 y1 := rfl
noncomputable def F44 (x0 : Int) (x1 : Int) : Option Res := CI env 44 [(.d (.i .i64 x0)), (.d (.i .i64 x1))] []
def r44 (y0 : Int) (y1 : Int) (y2 : Int) : Res := .ret (.tup [(.d (.ag [(.i .i64 y0), (.i .i64 y1)])), (.d (.i .i64 y2))]) []
def v44 (o : Option Res) (y : Int → Int → Int → Option Res) : Option Res := o.bind fun r => match r with
  | .ret v _ => (match unsh v with
    | some u => asTup u fun q1 => asCons q1 fun e2 q3 => asD e2 fun e7 => asAg e7 fun q8 => asCons q8 fun e9 q10 => asI .i64 e9 fun y0 => asCons q10 fun e11 q12 => asI .i64 e11 fun y1 => asNil q12 (asCons q3 fun e4 q5 => asD e4 fun e6 => asI .i64 e6 fun y2 => asNil q5 (y y0 y1 y2))
    | none => none)
  | .pan d _ => some (.pan d [])
theorem v44_mk (y0 : Int) (y1 : Int) (y2 : Int) (y : Int → Int → Int → Option Res) : v44 (some (r44 y0 y1 y2)) y = y y0 y1 y2 := rfl
def vP44 (o : Option Res) (y : Int → Int → Int → Option Res) : Option Res := o.bind fun r => match r with
  | .ret v _ => (match unshP v with
    | some u => asTup u fun q13 => asCons q13 fun e14 q15 => asD e14 fun e19 => asAg e19 fun q20 => asCons q20 fun e21 q22 => asI .i64 e21 fun y0 => asCons q22 fun e23 q24 => asI .i64 e23 fun y1 => asNil q24 (asCons q15 fun e16 q17 => asD e16 fun e18 => asI .i64 e18 fun y2 => asNil q17 (y y0 y1 y2))
    | none => none)
  | .pan _ _ => none
theorem vP44_mk (y0 : Int) (y1 : Int) (y2 : Int) (y : Int → Int → Int → Option Res) : vP44 (some (r44 y0 y1 y2)) y = y y0 y1 y2 := rfl
noncomputable def F45 (x0_0 : Int) (x0_1 : Int) (x0_2 : Int) (x0_3 : List UInt8) : Option Res := CI env 45 [(.d (.ag [(.i .i64 x0_0), (.i .i64 x0_1), (.i .i64 x0_2), (.s x0_3)]))] []
def r45 (y0 : Int) (y1 : Int) : Res := .ret (.d (.ag [(.i .i64 y0), (.i .i64 y1)])) []
def v45 (o : Option Res) (y : Int → Int → Option Res) : Option Res := o.bind fun r => match r with
  | .ret v _ => (match unsh v with
    | some u => asD u fun e1 => asAg e1 fun q2 => asCons q2 fun e3 q4 => asI .i64 e3 fun y0 => asCons q4 fun e5 q6 => asI .i64 e5 fun y1 => asNil q6 (y y0 y1)
    | none => none)
  | .pan d _ => some (.pan d [])
theorem v45_mk (y0 : Int) (y1 : Int) (y : Int → Int → Option Res) : v45 (some (r45 y0 y1)) y = y y0 y1 := rfl
def vP45 (o : Option Res) (y : Int → Int → Option Res) : Option Res := o.bind fun r => match r with
  | .ret v _ => (match unshP v with
    | some u => asD u fun e7 => asAg e7 fun q8 => asCons q8 fun e9 q10 => asI .i64 e9 fun y0 => asCons q10 fun e11 q12 => asI .i64 e11 fun y1 => asNil q12 (y y0 y1)
    | none => none)
  | .pan _ _ => none
theorem vP45_mk (y0 : Int) (y1 : Int) (y : Int → Int → Option Res) : vP45 (some (r45 y0 y1)) y = y y0 y1 := rfl
noncomputable def F53 (x0 : Int) : Option Res := CI env 53 [(.d (.i .u8 x0))] []
def r53 (y0 : Int) : Res := .ret (.d (.i .u8 y0)) []
def v53 (o : Option Res) (y : Int → Option Res) : Option Res := o.bind fun r => match r with
  | .ret v _ => (match unsh v with
    | some u => asD u fun e1 => asI .u8 e1 fun y0 => y y0
    | none => none)
  | .pan d _ => some (.pan d [])
theorem v53_mk (y0 : Int) (y : Int → Option Res) : v53 (some (r53 y0)) y = y y0 := rfl
def vP53 (o : Option Res) (y : Int → Option Res) : Option Res := o.bind fun r => match r with
  | .ret v _ => (match unshP v with
    | some u => asD u fun e2 => asI .u8 e2 fun y0 => y y0
    | none => none)
  | .pan _ _ => none
theorem vP53_mk (y0 : Int) (y : Int → Option Res) : vP53 (some (r53 y0)) y = y y0 := rfl
noncomputable def F54 (x0 : List UInt8) : Option Res := CI env 54 [(.d (.s x0))] []
def r54 (y0 : Bool) : Res := .ret (.d (.b y0)) []
def v54 (o : Option Res) (y : Bool → Option Res) : Option Res := o.bind fun r => match r with
  | .ret v _ => (match unsh v with
    | some u => asD u fun e1 => asB e1 fun y0 => y y0
    | none => none)
  | .pan d _ => some (.pan d [])
theorem v54_mk (y0 : Bool) (y : Bool → Option Res) : v54 (some (r54 y0)) y = y y0 := rfl
def vP54 (o : Option Res) (y : Bool → Option Res) : Option Res := o.bind fun r => match r with
  | .ret v _ => (match unshP v with
    | some u => asD u fun e2 => asB e2 fun y0 => y y0
    | none => none)
  | .pan _ _ => none
theorem vP54_mk (y0 : Bool) (y : Bool → Option Res) : vP54 (some (r54 y0)) y = y y0 := rfl
noncomputable def F58 (x0 : Int) (x1 : Int) : Option Res := CI env 58 [(.d (.i .u64 x0)), (.d (.i .u64 x1))] []
def r58 (y0 : Int) : Res := .ret (.d (.i .u64 y0)) []
def v58 (o : Option Res) (y : Int → Option Res) : Option Res := o.bind fun r => match r with
  | .ret v _ => (match unsh v with
    | some u => asD u fun e1 => asI .u64 e1 fun y0 => y y0
    | none => none)
  | .pan d _ => some (.pan d [])
theorem v58_mk (y0 : Int) (y : Int → Option Res) : v58 (some (r58 y0)) y = y y0 := rfl
def vP58 (o : Option Res) (y : Int → Option Res) : Option Res := o.bind fun r => match r with
  | .ret v _ => (match unshP v with
    | some u => asD u fun e2 => asI .u64 e2 fun y0 => y y0
    | none => none)
  | .pan _ _ => none
theorem vP58_mk (y0 : Int) (y : Int → Option Res) : vP58 (some (r58 y0)) y = y y0 := rfl
noncomputable def F59 (x0 : Int) : Option Res := CI env 59 [(.d (.i .i64 x0))] []
def r59 (y0 : Int) : Res := .ret (.d (.i .u64 y0)) []
def v59 (o : Option Res) (y : Int → Option Res) : Option Res := o.bind fun r => match r with
  | .ret v _ => (match unsh v with
    | some u => asD u fun e1 => asI .u64 e1 fun y0 => y y0
    | none => none)
  | .pan d _ => some (.pan d [])
theorem v59_mk (y0 : Int) (y : Int → Option Res) : v59 (some (r59 y0)) y = y y0 := rfl
def vP59 (o : Option Res) (y : Int → Option Res) : Option Res := o.bind fun r => match r with
  | .ret v _ => (match unshP v with
    | some u => asD u fun e2 => asI .u64 e2 fun y0 => y y0
    | none => none)
  | .pan _ _ => none
theorem vP59_mk (y0 : Int) (y : Int → Option Res) : vP59 (some (r59 y0)) y = y y0 := rfl

/-! custos/lex.digit -/
def V15 : Vw := []
noncomputable def T15 (x0 : Int) : Option Res := (bif (decide (48 ≤ x0)) then (some (r15 (decide (x0 ≤ 57)))) else (some (r15 false)))
theorem F15_t (x0 : Int) : execFV V15 (CI env) (LI env) f15 [(.d (.i .u8 x0))] [] = T15 x0 := by kernel_rfl
theorem F15_of (x0 : Int) {r : Res} (h : T15 x0 = some r) : F15 x0 = some r := CI_V (V := V15) (g := f15) rfl ((F15_t x0).trans h)

/-! custos/lex.behind -/
def V11 : Vw := [(31, .d (.b)), (44, .d (.b)), (65, .d (.i .i64)), (96, .d (.b)), (116, .d (.b)), (140, .d (.b)), (147, .d (.b))]
noncomputable def F11_s0 (x0 : List UInt8) (x1 : Int) : Option Res := (LI env f11_s0 none { tm := [(0, (.d (.s x0))), (1, (.d (.i .i64 x1)))], ob := [], ou := [] }).bind (unK (finK f11))
noncomputable def F11_s0_0 (x0 : List UInt8) (x6 : Int) : Option Res := (LI env f11_s0 (some 0) { tm := [(0, (.d (.s x0))), (6, (.d (.i .i64 x6)))], ob := [], ou := [] }).bind (unK (finK f11))
noncomputable def F11_r13 (x0 : List UInt8) (x1 : Int) (x6 : Int) (x8 : Int) (x29 : Bool) : Option Res := (LI env f11_r13 none { tm := [(0, (.d (.s x0))), (1, (.d (.i .i64 x1))), (6, (.d (.i .i64 x6))), (8, (.d (.i .u8 x8))), (29, (.d (.b x29)))], ob := [], ou := [] }).bind (unK (blockK 0 (seqV V11 (CI env) (LI env) f11_r28 (scpV (LI env) f11_s0.body (finK f11)))))
noncomputable def F11_s0_1 (x0 : List UInt8) (x1 : Int) (x6 : Int) (x7 : Int) : Option Res := (LI env f11_s0 (some 1) { tm := [(0, (.d (.s x0))), (1, (.d (.i .i64 x1))), (6, (.d (.i .i64 x6))), (7, (.d (.i .i64 x7)))], ob := [], ou := [] }).bind (unK (finK f11))
noncomputable def F11_s0_2 (x0 : List UInt8) (x6 : Int) : Option Res := (LI env f11_s0 (some 2) { tm := [(0, (.d (.s x0))), (6, (.d (.i .i64 x6)))], ob := [], ou := [] }).bind (unK (finK f11))
noncomputable def F11_s0_3 (x0 : List UInt8) (x6 : Int) : Option Res := (LI env f11_s0 (some 3) { tm := [(0, (.d (.s x0))), (6, (.d (.i .i64 x6)))], ob := [], ou := [] }).bind (unK (finK f11))
noncomputable def T11 (x0 : List UInt8) (x1 : Int) : Option Res := (F11_s0 x0 x1)
noncomputable def T11_s0 (x0 : List UInt8) (x1 : Int) : Option Res := (nth x0 x1 fun c1 => (bif ((UInt8.toNat c1 : Int) == 40) then (some (r11 1 (IntKind.wrap .i64 (x1 + 1)))) else (bif ((UInt8.toNat c1 : Int) == 41) then (some (r11 2 (IntKind.wrap .i64 (x1 + 1)))) else (bif (decide (97 ≤ (UInt8.toNat c1 : Int))) then (bif (decide ((UInt8.toNat c1 : Int) ≤ 122)) then (F11_s0_0 x0 (IntKind.wrap .i64 (x1 + 1))) else (v15 (F15 (UInt8.toNat c1 : Int)) fun b1 => (bif b1 then (F11_r13 x0 x1 (IntKind.wrap .i64 (x1 + 1)) (UInt8.toNat c1 : Int) b1) else (bif ((UInt8.toNat c1 : Int) == 45) then (bif (decide ((IntKind.wrap .i64 (x1 + 1)) < (List.length x0 : Int))) then (nth x0 (IntKind.wrap .i64 (x1 + 1)) fun c2 => (v15 (F15 (UInt8.toNat c2 : Int)) fun b2 => (F11_r13 x0 x1 (IntKind.wrap .i64 (x1 + 1)) (UInt8.toNat c1 : Int) b2))) else (F11_r13 x0 x1 (IntKind.wrap .i64 (x1 + 1)) (UInt8.toNat c1 : Int) false)) else (F11_r13 x0 x1 (IntKind.wrap .i64 (x1 + 1)) (UInt8.toNat c1 : Int) false))))) else (v15 (F15 (UInt8.toNat c1 : Int)) fun b3 => (bif b3 then (F11_r13 x0 x1 (IntKind.wrap .i64 (x1 + 1)) (UInt8.toNat c1 : Int) b3) else (bif ((UInt8.toNat c1 : Int) == 45) then (bif (decide ((IntKind.wrap .i64 (x1 + 1)) < (List.length x0 : Int))) then (nth x0 (IntKind.wrap .i64 (x1 + 1)) fun c3 => (v15 (F15 (UInt8.toNat c3 : Int)) fun b4 => (F11_r13 x0 x1 (IntKind.wrap .i64 (x1 + 1)) (UInt8.toNat c1 : Int) b4))) else (F11_r13 x0 x1 (IntKind.wrap .i64 (x1 + 1)) (UInt8.toNat c1 : Int) false)) else (F11_r13 x0 x1 (IntKind.wrap .i64 (x1 + 1)) (UInt8.toNat c1 : Int) false))))))))
noncomputable def T11_s0_0 (x0 : List UInt8) (x6 : Int) : Option Res := (bif (decide (x6 < (List.length x0 : Int))) then (nth x0 x6 fun c4 => (bif (decide (97 ≤ (UInt8.toNat c4 : Int))) then (nth x0 x6 fun c5 => (bif (decide ((UInt8.toNat c5 : Int) ≤ 122)) then (F11_s0_0 x0 (IntKind.wrap .i64 (x6 + 1))) else (nth x0 x6 fun c6 => (v15 (F15 (UInt8.toNat c6 : Int)) fun b5 => (bif b5 then (F11_s0_0 x0 (IntKind.wrap .i64 (x6 + 1))) else (nth x0 x6 fun c7 => (bif ((UInt8.toNat c7 : Int) == 95) then (F11_s0_0 x0 (IntKind.wrap .i64 (x6 + 1))) else (some (r11 3 x6))))))))) else (nth x0 x6 fun c8 => (v15 (F15 (UInt8.toNat c8 : Int)) fun b6 => (bif b6 then (F11_s0_0 x0 (IntKind.wrap .i64 (x6 + 1))) else (nth x0 x6 fun c9 => (bif ((UInt8.toNat c9 : Int) == 95) then (F11_s0_0 x0 (IntKind.wrap .i64 (x6 + 1))) else (some (r11 3 x6))))))))) else (some (r11 3 x6)))
noncomputable def T11_r13 (x0 : List UInt8) (x1 : Int) (x6 : Int) (x8 : Int) (x29 : Bool) : Option Res := (bif x29 then (F11_s0_1 x0 x1 x6 6) else (bif (x8 == 60) then (bif (decide (x6 < (List.length x0 : Int))) then (nth x0 x6 fun c10 => (bif ((UInt8.toNat c10 : Int) == 61) then (some (r11 4 (IntKind.wrap .i64 (x6 + 1)))) else (v16 (F16 ([61, 43, 42, 60, 45] : List UInt8) x8) fun n7 => (bif (decide (0 ≤ n7)) then (some (r11 4 x6)) else (bif (x8 == 91) then (F11_s0_2 x0 x6) else (bif (x8 == 34) then (F11_s0_3 x0 x6) else (bif (x8 == 64) then (F11_s0_1 x0 x1 x6 7) else (some (r11 0 0))))))))) else (v16 (F16 ([61, 43, 42, 60, 45] : List UInt8) x8) fun n8 => (bif (decide (0 ≤ n8)) then (some (r11 4 x6)) else (bif (x8 == 91) then (F11_s0_2 x0 x6) else (bif (x8 == 34) then (F11_s0_3 x0 x6) else (bif (x8 == 64) then (F11_s0_1 x0 x1 x6 7) else (some (r11 0 0)))))))) else (v16 (F16 ([61, 43, 42, 60, 45] : List UInt8) x8) fun n9 => (bif (decide (0 ≤ n9)) then (some (r11 4 x6)) else (bif (x8 == 91) then (F11_s0_2 x0 x6) else (bif (x8 == 34) then (F11_s0_3 x0 x6) else (bif (x8 == 64) then (F11_s0_1 x0 x1 x6 7) else (some (r11 0 0)))))))))
noncomputable def T11_s0_1 (x0 : List UInt8) (x1 : Int) (x6 : Int) (x7 : Int) : Option Res := (bif (decide (x6 < (List.length x0 : Int))) then (nth x0 x6 fun c11 => (v15 (F15 (UInt8.toNat c11 : Int)) fun b10 => (bif b10 then (F11_s0_1 x0 x1 (IntKind.wrap .i64 (x6 + 1)) x7) else (bif (x7 == 6) then (bif (decide ((IntKind.wrap .i64 (x6 + 1)) < (List.length x0 : Int))) then (nth x0 x6 fun c12 => (bif ((UInt8.toNat c12 : Int) == 47) then (nth x0 (IntKind.wrap .i64 (x6 + 1)) fun c13 => (v15 (F15 (UInt8.toNat c13 : Int)) fun b11 => (bif b11 then (if (0 : Int) ≤ x1 ∧ x1 ≤ x6 ∧ x6 ≤ (List.length x0 : Int) then (v17 (F17 (List.drop (Int.toNat x1) (List.take (Int.toNat x6) x0)) ([47] : List UInt8)) fun b12 => (bif (!b12) then (F11_s0_1 x0 x1 (IntKind.wrap .i64 (x6 + 1)) x7) else (some (r11 x7 x6)))) else none) else (some (r11 x7 x6))))) else (some (r11 x7 x6)))) else (some (r11 x7 x6))) else (some (r11 x7 x6)))))) else (bif (x7 == 6) then (bif (decide ((IntKind.wrap .i64 (x6 + 1)) < (List.length x0 : Int))) then (nth x0 x6 fun c14 => (bif ((UInt8.toNat c14 : Int) == 47) then (nth x0 (IntKind.wrap .i64 (x6 + 1)) fun c15 => (v15 (F15 (UInt8.toNat c15 : Int)) fun b13 => (bif b13 then (if (0 : Int) ≤ x1 ∧ x1 ≤ x6 ∧ x6 ≤ (List.length x0 : Int) then (v17 (F17 (List.drop (Int.toNat x1) (List.take (Int.toNat x6) x0)) ([47] : List UInt8)) fun b14 => (bif (!b14) then (F11_s0_1 x0 x1 (IntKind.wrap .i64 (x6 + 1)) x7) else (some (r11 x7 x6)))) else none) else (some (r11 x7 x6))))) else (some (r11 x7 x6)))) else (some (r11 x7 x6))) else (some (r11 x7 x6))))
noncomputable def T11_s0_2 (x0 : List UInt8) (x6 : Int) : Option Res := (bif (x6 == (List.length x0 : Int)) then (some (r11 0 0)) else (nth x0 (IntKind.wrap .i64 ((IntKind.wrap .i64 (x6 + 1)) - 1)) fun c16 => (bif ((UInt8.toNat c16 : Int) != 93) then (F11_s0_2 x0 (IntKind.wrap .i64 (x6 + 1))) else (some (r11 5 (IntKind.wrap .i64 (x6 + 1)))))))
noncomputable def T11_s0_3 (x0 : List UInt8) (x6 : Int) : Option Res := (bif (decide ((List.length x0 : Int) ≤ x6)) then (some (r11 0 0)) else (nth x0 x6 fun c17 => (bif ((UInt8.toNat c17 : Int) != 34) then (nth x0 x6 fun c18 => (bif ((UInt8.toNat c18 : Int) == 92) then (F11_s0_3 x0 (IntKind.wrap .i64 ((IntKind.wrap .i64 (x6 + 1)) + 1))) else (F11_s0_3 x0 (IntKind.wrap .i64 (x6 + 1))))) else (some (r11 6 (IntKind.wrap .i64 (x6 + 1)))))))
theorem F11_t (x0 : List UInt8) (x1 : Int) : execFV V11 (CI env) (LI env) f11 [(.d (.s x0)), (.d (.i .i64 x1))] [] = T11 x0 x1 := by kernel_rfl
theorem F11_of (x0 : List UInt8) (x1 : Int) {r : Res} (h : T11 x0 x1 = some r) : F11 x0 x1 = some r := CI_V (V := V11) (g := f11) rfl ((F11_t x0 x1).trans h)
theorem F11_s0_t (x0 : List UInt8) (x1 : Int) : execV V11 (CI env) (LI env) f11_s0.body { tm := [(0, (.d (.s x0))), (1, (.d (.i .i64 x1)))], ob := [], ou := [] } (scpV (LI env) f11_s0.body (finK f11)) = T11_s0 x0 x1 := by kernel_rfl
theorem F11_s0_of (x0 : List UInt8) (x1 : Int) {r : Res} (h : T11_s0 x0 x1 = some r) : F11_s0 x0 x1 = some r := scope_V (V := V11) (a := f11_s0.body) (st := { tm := [(0, (.d (.s x0))), (1, (.d (.i .i64 x1)))], ob := [], ou := [] }) (k := (finK f11)) ((F11_s0_t x0 x1).trans h)
theorem F11_s0_0_t (x0 : List UInt8) (x6 : Int) : execV V11 (CI env) (LI env) (behindC f11_s0.body 0) { tm := [(0, (.d (.s x0))), (6, (.d (.i .i64 x6)))], ob := [], ou := [] } (scpV (LI env) f11_s0.body (finK f11)) = T11_s0_0 x0 x6 := by kernel_rfl
theorem F11_s0_0_of (x0 : List UInt8) (x6 : Int) {r : Res} (h : T11_s0_0 x0 x6 = some r) : F11_s0_0 x0 x6 = some r := label_V (V := V11) (a := f11_s0.body) (m := 0) (ks := [0, 6]) (st := { tm := [(0, (.d (.s x0))), (6, (.d (.i .i64 x6)))], ob := [], ou := [] }) (k := (finK f11)) rfl ((F11_s0_0_t x0 x6).trans h)
theorem F11_r13_t (x0 : List UInt8) (x1 : Int) (x6 : Int) (x8 : Int) (x29 : Bool) : execV V11 (CI env) (LI env) f11_r13.body { tm := [(0, (.d (.s x0))), (1, (.d (.i .i64 x1))), (6, (.d (.i .i64 x6))), (8, (.d (.i .u8 x8))), (29, (.d (.b x29)))], ob := [], ou := [] } (blockK 0 (seqV V11 (CI env) (LI env) f11_r28 (scpV (LI env) f11_s0.body (finK f11)))) = T11_r13 x0 x1 x6 x8 x29 := by kernel_rfl
theorem F11_r13_of (x0 : List UInt8) (x1 : Int) (x6 : Int) (x8 : Int) (x29 : Bool) {r : Res} (h : T11_r13 x0 x1 x6 x8 x29 = some r) : F11_r13 x0 x1 x6 x8 x29 = some r := kp_V (V := V11) (ks := [0, 1, 6, 8, 29]) (a := f11_r13.body) (st := { tm := [(0, (.d (.s x0))), (1, (.d (.i .i64 x1))), (6, (.d (.i .i64 x6))), (8, (.d (.i .u8 x8))), (29, (.d (.b x29)))], ob := [], ou := [] }) (k := (blockK 0 (seqV V11 (CI env) (LI env) f11_r28 (scpV (LI env) f11_s0.body (finK f11))))) ((F11_r13_t x0 x1 x6 x8 x29).trans h)
theorem F11_s0_1_t (x0 : List UInt8) (x1 : Int) (x6 : Int) (x7 : Int) : execV V11 (CI env) (LI env) (behindC f11_s0.body 1) { tm := [(0, (.d (.s x0))), (1, (.d (.i .i64 x1))), (6, (.d (.i .i64 x6))), (7, (.d (.i .i64 x7)))], ob := [], ou := [] } (scpV (LI env) f11_s0.body (finK f11)) = T11_s0_1 x0 x1 x6 x7 := by kernel_rfl
theorem F11_s0_1_of (x0 : List UInt8) (x1 : Int) (x6 : Int) (x7 : Int) {r : Res} (h : T11_s0_1 x0 x1 x6 x7 = some r) : F11_s0_1 x0 x1 x6 x7 = some r := label_V (V := V11) (a := f11_s0.body) (m := 1) (ks := [0, 1, 6, 7]) (st := { tm := [(0, (.d (.s x0))), (1, (.d (.i .i64 x1))), (6, (.d (.i .i64 x6))), (7, (.d (.i .i64 x7)))], ob := [], ou := [] }) (k := (finK f11)) rfl ((F11_s0_1_t x0 x1 x6 x7).trans h)
theorem F11_s0_2_t (x0 : List UInt8) (x6 : Int) : execV V11 (CI env) (LI env) (behindC f11_s0.body 2) { tm := [(0, (.d (.s x0))), (6, (.d (.i .i64 x6)))], ob := [], ou := [] } (scpV (LI env) f11_s0.body (finK f11)) = T11_s0_2 x0 x6 := by kernel_rfl
theorem F11_s0_2_of (x0 : List UInt8) (x6 : Int) {r : Res} (h : T11_s0_2 x0 x6 = some r) : F11_s0_2 x0 x6 = some r := label_V (V := V11) (a := f11_s0.body) (m := 2) (ks := [0, 6]) (st := { tm := [(0, (.d (.s x0))), (6, (.d (.i .i64 x6)))], ob := [], ou := [] }) (k := (finK f11)) rfl ((F11_s0_2_t x0 x6).trans h)
theorem F11_s0_3_t (x0 : List UInt8) (x6 : Int) : execV V11 (CI env) (LI env) (behindC f11_s0.body 3) { tm := [(0, (.d (.s x0))), (6, (.d (.i .i64 x6)))], ob := [], ou := [] } (scpV (LI env) f11_s0.body (finK f11)) = T11_s0_3 x0 x6 := by kernel_rfl
theorem F11_s0_3_of (x0 : List UInt8) (x6 : Int) {r : Res} (h : T11_s0_3 x0 x6 = some r) : F11_s0_3 x0 x6 = some r := label_V (V := V11) (a := f11_s0.body) (m := 3) (ks := [0, 6]) (st := { tm := [(0, (.d (.s x0))), (6, (.d (.i .i64 x6)))], ob := [], ou := [] }) (k := (finK f11)) rfl ((F11_s0_3_t x0 x6).trans h)

/-! internal/strconv.lower -/
def V53 : Vw := []
noncomputable def T53 (x0 : Int) : Option Res := (some (r53 (IntKind.wrap .u8 (BitVec.toNat (BitVec.ofInt (IntKind.bits .u8) x0 ||| BitVec.ofInt (IntKind.bits .u8) 32)))))
theorem F53_t (x0 : Int) : execFV V53 (CI env) (LI env) f53 [(.d (.i .u8 x0))] [] = T53 x0 := by kernel_rfl
theorem F53_of (x0 : Int) {r : Res} (h : T53 x0 = some r) : F53 x0 = some r := CI_V (V := V53) (g := f53) rfl ((F53_t x0).trans h)

/-! internal/strconv.underscoreOK -/
def V54 : Vw := [(32, .d (.i .u8)), (37, .d (.i .u8)), (43, .d (.i .u8)), (49, .d (.i .u8)), (73, .d (.i .u8)), (80, .d (.i .u8))]
noncomputable def F54_r6 (x0 : List UInt8) (x3 : Int) (x4 : Int) (x5 : Bool) : Option Res := (LI env f54_r6 none { tm := [(0, (.d (.s x0))), (3, (.d (.i .i32 x3))), (4, (.d (.i .i64 x4))), (5, (.d (.b x5)))], ob := [], ou := [] }).bind (unK (finK f54))
noncomputable def F54_l0 (x0 : List UInt8) (x3 : Int) (x4 : Int) (x5 : Bool) : Option Res := (LI env f54_l0 none { tm := [(0, (.d (.s x0))), (3, (.d (.i .i32 x3))), (4, (.d (.i .i64 x4))), (5, (.d (.b x5)))], ob := [], ou := [] }).bind (unK (blockK 0 (seqV V54 (CI env) (LI env) f54_r27 (finK f54))))
noncomputable def T54 (x0 : List UInt8) : Option Res := (bif (decide (1 ≤ (List.length x0 : Int))) then (nth x0 0 fun c19 => (bif ((UInt8.toNat c19 : Int) == 45) then (if (0 : Int) ≤ (1 : Int) ∧ (1 : Int) ≤ (List.length x0 : Int) then (F54_r6 (List.drop (Int.toNat (1 : Int)) x0) 94 0 false) else none) else (nth x0 0 fun c20 => (bif ((UInt8.toNat c20 : Int) == 43) then (if (0 : Int) ≤ (1 : Int) ∧ (1 : Int) ≤ (List.length x0 : Int) then (F54_r6 (List.drop (Int.toNat (1 : Int)) x0) 94 0 false) else none) else (F54_r6 x0 94 0 false))))) else (F54_r6 x0 94 0 false))
noncomputable def T54_r6 (x0 : List UInt8) (x3 : Int) (x4 : Int) (x5 : Bool) : Option Res := (bif (decide (2 ≤ (List.length x0 : Int))) then (nth x0 0 fun c21 => (bif ((UInt8.toNat c21 : Int) == 48) then (nth x0 1 fun c22 => (v53 (F53 (UInt8.toNat c22 : Int)) fun n1 => (bif (n1 == 98) then (nth x0 1 fun c23 => (v53 (F53 (UInt8.toNat c23 : Int)) fun n2 => (F54_l0 x0 48 2 (n2 == 120)))) else (nth x0 1 fun c24 => (v53 (F53 (UInt8.toNat c24 : Int)) fun n3 => (bif (n3 == 111) then (nth x0 1 fun c25 => (v53 (F53 (UInt8.toNat c25 : Int)) fun n4 => (F54_l0 x0 48 2 (n4 == 120)))) else (nth x0 1 fun c26 => (v53 (F53 (UInt8.toNat c26 : Int)) fun n5 => (bif (n5 == 120) then (nth x0 1 fun c27 => (v53 (F53 (UInt8.toNat c27 : Int)) fun n6 => (F54_l0 x0 48 2 (n6 == 120)))) else (F54_l0 x0 x3 x4 x5)))))))))) else (F54_l0 x0 x3 x4 x5))) else (F54_l0 x0 x3 x4 x5))
noncomputable def T54_l0 (x0 : List UInt8) (x3 : Int) (x4 : Int) (x5 : Bool) : Option Res := (bif (decide (x4 < (List.length x0 : Int))) then (nth x0 x4 fun c28 => (bif (decide (48 ≤ (UInt8.toNat c28 : Int))) then (nth x0 x4 fun c29 => (bif (decide ((UInt8.toNat c29 : Int) ≤ 57)) then (F54_l0 x0 48 (IntKind.wrap .i64 (x4 + 1)) x5) else (bif x5 then (nth x0 x4 fun c30 => (v53 (F53 (UInt8.toNat c30 : Int)) fun n7 => (bif (decide (97 ≤ n7)) then (nth x0 x4 fun c31 => (v53 (F53 (UInt8.toNat c31 : Int)) fun n8 => (bif (decide (n8 ≤ 102)) then (F54_l0 x0 48 (IntKind.wrap .i64 (x4 + 1)) x5) else (nth x0 x4 fun c32 => (bif ((UInt8.toNat c32 : Int) == 95) then (bif (x3 != 48) then (some (r54 false)) else (F54_l0 x0 95 (IntKind.wrap .i64 (x4 + 1)) x5)) else (bif (x3 == 95) then (some (r54 false)) else (F54_l0 x0 33 (IntKind.wrap .i64 (x4 + 1)) x5))))))) else (nth x0 x4 fun c33 => (bif ((UInt8.toNat c33 : Int) == 95) then (bif (x3 != 48) then (some (r54 false)) else (F54_l0 x0 95 (IntKind.wrap .i64 (x4 + 1)) x5)) else (bif (x3 == 95) then (some (r54 false)) else (F54_l0 x0 33 (IntKind.wrap .i64 (x4 + 1)) x5))))))) else (nth x0 x4 fun c34 => (bif ((UInt8.toNat c34 : Int) == 95) then (bif (x3 != 48) then (some (r54 false)) else (F54_l0 x0 95 (IntKind.wrap .i64 (x4 + 1)) x5)) else (bif (x3 == 95) then (some (r54 false)) else (F54_l0 x0 33 (IntKind.wrap .i64 (x4 + 1)) x5))))))) else (bif x5 then (nth x0 x4 fun c35 => (v53 (F53 (UInt8.toNat c35 : Int)) fun n9 => (bif (decide (97 ≤ n9)) then (nth x0 x4 fun c36 => (v53 (F53 (UInt8.toNat c36 : Int)) fun n10 => (bif (decide (n10 ≤ 102)) then (F54_l0 x0 48 (IntKind.wrap .i64 (x4 + 1)) x5) else (nth x0 x4 fun c37 => (bif ((UInt8.toNat c37 : Int) == 95) then (bif (x3 != 48) then (some (r54 false)) else (F54_l0 x0 95 (IntKind.wrap .i64 (x4 + 1)) x5)) else (bif (x3 == 95) then (some (r54 false)) else (F54_l0 x0 33 (IntKind.wrap .i64 (x4 + 1)) x5))))))) else (nth x0 x4 fun c38 => (bif ((UInt8.toNat c38 : Int) == 95) then (bif (x3 != 48) then (some (r54 false)) else (F54_l0 x0 95 (IntKind.wrap .i64 (x4 + 1)) x5)) else (bif (x3 == 95) then (some (r54 false)) else (F54_l0 x0 33 (IntKind.wrap .i64 (x4 + 1)) x5))))))) else (nth x0 x4 fun c39 => (bif ((UInt8.toNat c39 : Int) == 95) then (bif (x3 != 48) then (some (r54 false)) else (F54_l0 x0 95 (IntKind.wrap .i64 (x4 + 1)) x5)) else (bif (x3 == 95) then (some (r54 false)) else (F54_l0 x0 33 (IntKind.wrap .i64 (x4 + 1)) x5))))))) else (some (r54 (x3 != 95))))
theorem F54_t (x0 : List UInt8) : execFV V54 (CI env) (LI env) f54 [(.d (.s x0))] [] = T54 x0 := by kernel_rfl
theorem F54_of (x0 : List UInt8) {r : Res} (h : T54 x0 = some r) : F54 x0 = some r := CI_V (V := V54) (g := f54) rfl ((F54_t x0).trans h)
theorem F54_r6_t (x0 : List UInt8) (x3 : Int) (x4 : Int) (x5 : Bool) : execV V54 (CI env) (LI env) f54_r6.body { tm := [(0, (.d (.s x0))), (3, (.d (.i .i32 x3))), (4, (.d (.i .i64 x4))), (5, (.d (.b x5)))], ob := [], ou := [] } (finK f54) = T54_r6 x0 x3 x4 x5 := by kernel_rfl
theorem F54_r6_of (x0 : List UInt8) (x3 : Int) (x4 : Int) (x5 : Bool) {r : Res} (h : T54_r6 x0 x3 x4 x5 = some r) : F54_r6 x0 x3 x4 x5 = some r := kp_V (V := V54) (ks := [0, 3, 4, 5]) (a := f54_r6.body) (st := { tm := [(0, (.d (.s x0))), (3, (.d (.i .i32 x3))), (4, (.d (.i .i64 x4))), (5, (.d (.b x5)))], ob := [], ou := [] }) (k := (finK f54)) ((F54_r6_t x0 x3 x4 x5).trans h)
theorem F54_l0_t (x0 : List UInt8) (x3 : Int) (x4 : Int) (x5 : Bool) : execV V54 (CI env) (LI env) f54_l0.body { tm := [(0, (.d (.s x0))), (3, (.d (.i .i32 x3))), (4, (.d (.i .i64 x4))), (5, (.d (.b x5)))], ob := [], ou := [] } (rndV (LI env) [0, 3, 4, 5] f54_l0.body (blockK 0 (seqV V54 (CI env) (LI env) f54_r27 (finK f54)))) = T54_l0 x0 x3 x4 x5 := by kernel_rfl
theorem F54_l0_of (x0 : List UInt8) (x3 : Int) (x4 : Int) (x5 : Bool) {r : Res} (h : T54_l0 x0 x3 x4 x5 = some r) : F54_l0 x0 x3 x4 x5 = some r := loop_V (V := V54) (ks := [0, 3, 4, 5]) (a := f54_l0.body) (st := { tm := [(0, (.d (.s x0))), (3, (.d (.i .i32 x3))), (4, (.d (.i .i64 x4))), (5, (.d (.b x5)))], ob := [], ou := [] }) (k := (blockK 0 (seqV V54 (CI env) (LI env) f54_r27 (finK f54)))) ((F54_l0_t x0 x3 x4 x5).trans h)

/-! internal/strconv.ParseUint -/
def V39 : Vw := [(47, .d (.i .u8)), (59, .d (.i .u8)), (71, .d (.i .u8)), (123, .d (.i .u8)), (127, .d (.i .u8)), (131, .d (.i .u8)), (167, .d (.b))]
noncomputable def F39_r28 (x0 : List UInt8) (x1 : Int) (x2 : Int) (x8 : Bool) (x9 : List UInt8) (x77 : Bool) : Option Res := (LI env f39_r28 none { tm := [(0, (.d (.s x0))), (1, (.d (.i .i64 x1))), (2, (.d (.i .i64 x2))), (8, (.d (.b x8))), (9, (.d (.s x9))), (77, (.d (.b x77)))], ob := [], ou := [] }).bind (unK (seqV V39 (CI env) (LI env) f39_r33 (finK f39)))
noncomputable def F39_r13 (x0 : List UInt8) (x2 : Int) (x8 : Bool) (x9 : List UInt8) (x40 : Bool) : Option Res := (LI env f39_r13 none { tm := [(0, (.d (.s x0))), (2, (.d (.i .i64 x2))), (8, (.d (.b x8))), (9, (.d (.s x9))), (40, (.d (.b x40)))], ob := [], ou := [] }).bind (unK (blockK 1 (blockK 0 (seqV V39 (CI env) (LI env) f39_r27 (finK f39)))))
noncomputable def F39_l0 (x1 : Int) (x8 : Bool) (x9 : List UInt8) (x10 : Int) (x11 : Int) (x12 : Bool) (x13 : Int) (x99 : List UInt8) (x100 : Int) (x101 : Int) : Option Res := (LI env f39_l0 none { tm := [(1, (.d (.i .i64 x1))), (8, (.d (.b x8))), (9, (.d (.s x9))), (10, (.d (.i .u64 x10))), (11, (.d (.i .u64 x11))), (12, (.d (.b x12))), (13, (.d (.i .u64 x13))), (99, (.ownb x99)), (100, (.d (.i .i64 x100))), (101, (.d (.i .i64 x101)))], ob := [], ou := [] }).bind (unK (blockK 3 (seqV V39 (CI env) (LI env) f39_r73 (finK f39))))
noncomputable def F39_r54 (x1 : Int) (x8 : Bool) (x9 : List UInt8) (x10 : Int) (x11 : Int) (x12 : Bool) (x13 : Int) (x15 : Int) (x99 : List UInt8) (x100 : Int) (x101 : Int) (x112 : Bool) : Option Res := (LI env f39_r54 none { tm := [(1, (.d (.i .i64 x1))), (8, (.d (.b x8))), (9, (.d (.s x9))), (10, (.d (.i .u64 x10))), (11, (.d (.i .u64 x11))), (12, (.d (.b x12))), (13, (.d (.i .u64 x13))), (15, (.d (.i .u8 x15))), (99, (.ownb x99)), (100, (.d (.i .i64 x100))), (101, (.d (.i .i64 x101))), (112, (.d (.b x112)))], ob := [], ou := [] }).bind (unK (blockK 5 (seqV V39 (CI env) (LI env) f39_r60 (blockK 4 (seqV V39 (CI env) (LI env) f39_r72 (rndV (LI env) [1, 8, 9, 10, 11, 12, 13, 99, 100, 101] f39_l0.body (blockK 3 (seqV V39 (CI env) (LI env) f39_r73 (finK f39)))))))))
noncomputable def T39 (x0 : List UInt8) (x1 : Int) (x2 : Int) : Option Res := (bif (x0 == []) then (some (r39 0 (.ifc 67 (.i .i64 2)))) else (bif (decide (2 ≤ x1)) then (bif (decide (x1 ≤ 36)) then (F39_r28 x0 x1 x2 (x1 == 0) x0 (x2 == 0)) else (bif (x1 == 0) then (nth x0 0 fun c40 => (bif ((UInt8.toNat c40 : Int) == 48) then (bif (decide (3 ≤ (List.length x0 : Int))) then (nth x0 1 fun c41 => (v53 (F53 (UInt8.toNat c41 : Int)) fun n1 => (F39_r13 x0 x2 (x1 == 0) x0 (n1 == 98)))) else (F39_r13 x0 x2 (x1 == 0) x0 false)) else (F39_r28 x0 10 x2 (x1 == 0) x0 (x2 == 0)))) else (some (r39 0 (.ifc 67 (.i .i64 3)))))) else (bif (x1 == 0) then (nth x0 0 fun c42 => (bif ((UInt8.toNat c42 : Int) == 48) then (bif (decide (3 ≤ (List.length x0 : Int))) then (nth x0 1 fun c43 => (v53 (F53 (UInt8.toNat c43 : Int)) fun n2 => (F39_r13 x0 x2 (x1 == 0) x0 (n2 == 98)))) else (F39_r13 x0 x2 (x1 == 0) x0 false)) else (F39_r28 x0 10 x2 (x1 == 0) x0 (x2 == 0)))) else (some (r39 0 (.ifc 67 (.i .i64 3)))))))
noncomputable def T39_r28 (x0 : List UInt8) (x1 : Int) (x2 : Int) (x8 : Bool) (x9 : List UInt8) (x77 : Bool) : Option Res := (bif x77 then (bif (x1 == 10) then (if (IntKind.wrap .u64 64) < 0 then none else (F39_l0 x1 x8 x9 1844674407370955162 (IntKind.wrap .u64 ((IntKind.wrap .u64 (1 * 2 ^ (min (Int.toNat (IntKind.wrap .u64 64)) (IntKind.bits .u64)))) - 1)) false 0 x0 (List.length x0 : Int) 0)) else (bif (x1 == 16) then (if (IntKind.wrap .u64 64) < 0 then none else (F39_l0 x1 x8 x9 1152921504606846976 (IntKind.wrap .u64 ((IntKind.wrap .u64 (1 * 2 ^ (min (Int.toNat (IntKind.wrap .u64 64)) (IntKind.bits .u64)))) - 1)) false 0 x0 (List.length x0 : Int) 0)) else (if (IntKind.wrap .u64 x1) = 0 then none else (if (IntKind.wrap .u64 64) < 0 then none else (F39_l0 x1 x8 x9 (IntKind.wrap .u64 ((IntKind.wrap .u64 (Int.tdiv 18446744073709551615 (IntKind.wrap .u64 x1))) + 1)) (IntKind.wrap .u64 ((IntKind.wrap .u64 (1 * 2 ^ (min (Int.toNat (IntKind.wrap .u64 64)) (IntKind.bits .u64)))) - 1)) false 0 x0 (List.length x0 : Int) 0))))) else (bif (decide (x2 < 0)) then (some (r39 0 (.ifc 67 (.i .i64 4)))) else (bif (decide (64 < x2)) then (some (r39 0 (.ifc 67 (.i .i64 4)))) else (bif (x1 == 10) then (if (IntKind.wrap .u64 x2) < 0 then none else (F39_l0 x1 x8 x9 1844674407370955162 (IntKind.wrap .u64 ((IntKind.wrap .u64 (1 * 2 ^ (min (Int.toNat (IntKind.wrap .u64 x2)) (IntKind.bits .u64)))) - 1)) false 0 x0 (List.length x0 : Int) 0)) else (bif (x1 == 16) then (if (IntKind.wrap .u64 x2) < 0 then none else (F39_l0 x1 x8 x9 1152921504606846976 (IntKind.wrap .u64 ((IntKind.wrap .u64 (1 * 2 ^ (min (Int.toNat (IntKind.wrap .u64 x2)) (IntKind.bits .u64)))) - 1)) false 0 x0 (List.length x0 : Int) 0)) else (if (IntKind.wrap .u64 x1) = 0 then none else (if (IntKind.wrap .u64 x2) < 0 then none else (F39_l0 x1 x8 x9 (IntKind.wrap .u64 ((IntKind.wrap .u64 (Int.tdiv 18446744073709551615 (IntKind.wrap .u64 x1))) + 1)) (IntKind.wrap .u64 ((IntKind.wrap .u64 (1 * 2 ^ (min (Int.toNat (IntKind.wrap .u64 x2)) (IntKind.bits .u64)))) - 1)) false 0 x0 (List.length x0 : Int) 0))))))))
noncomputable def T39_r13 (x0 : List UInt8) (x2 : Int) (x8 : Bool) (x9 : List UInt8) (x40 : Bool) : Option Res := (bif x40 then (if (0 : Int) ≤ (2 : Int) ∧ (2 : Int) ≤ (List.length x0 : Int) then (F39_r28 (List.drop (Int.toNat (2 : Int)) x0) 2 x2 x8 x9 (x2 == 0)) else none) else (bif (decide (3 ≤ (List.length x0 : Int))) then (nth x0 1 fun c44 => (v53 (F53 (UInt8.toNat c44 : Int)) fun n3 => (bif (n3 == 111) then (if (0 : Int) ≤ (2 : Int) ∧ (2 : Int) ≤ (List.length x0 : Int) then (F39_r28 (List.drop (Int.toNat (2 : Int)) x0) 8 x2 x8 x9 (x2 == 0)) else none) else (bif (decide (3 ≤ (List.length x0 : Int))) then (nth x0 1 fun c45 => (v53 (F53 (UInt8.toNat c45 : Int)) fun n4 => (bif (n4 == 120) then (if (0 : Int) ≤ (2 : Int) ∧ (2 : Int) ≤ (List.length x0 : Int) then (F39_r28 (List.drop (Int.toNat (2 : Int)) x0) 16 x2 x8 x9 (x2 == 0)) else none) else (if (0 : Int) ≤ (1 : Int) ∧ (1 : Int) ≤ (List.length x0 : Int) then (F39_r28 (List.drop (Int.toNat (1 : Int)) x0) 8 x2 x8 x9 (x2 == 0)) else none)))) else (if (0 : Int) ≤ (1 : Int) ∧ (1 : Int) ≤ (List.length x0 : Int) then (F39_r28 (List.drop (Int.toNat (1 : Int)) x0) 8 x2 x8 x9 (x2 == 0)) else none))))) else (bif (decide (3 ≤ (List.length x0 : Int))) then (nth x0 1 fun c46 => (v53 (F53 (UInt8.toNat c46 : Int)) fun n5 => (bif (n5 == 120) then (if (0 : Int) ≤ (2 : Int) ∧ (2 : Int) ≤ (List.length x0 : Int) then (F39_r28 (List.drop (Int.toNat (2 : Int)) x0) 16 x2 x8 x9 (x2 == 0)) else none) else (if (0 : Int) ≤ (1 : Int) ∧ (1 : Int) ≤ (List.length x0 : Int) then (F39_r28 (List.drop (Int.toNat (1 : Int)) x0) 8 x2 x8 x9 (x2 == 0)) else none)))) else (if (0 : Int) ≤ (1 : Int) ∧ (1 : Int) ≤ (List.length x0 : Int) then (F39_r28 (List.drop (Int.toNat (1 : Int)) x0) 8 x2 x8 x9 (x2 == 0)) else none))))
noncomputable def T39_l0 (x1 : Int) (x8 : Bool) (x9 : List UInt8) (x10 : Int) (x11 : Int) (x12 : Bool) (x13 : Int) (x99 : List UInt8) (x100 : Int) (x101 : Int) : Option Res := (bif (decide (x101 < x100)) then (nth x99 x101 fun c6 => (bif ((UInt8.toNat c6 : Int) == 95) then (bif x8 then (F39_l0 x1 x8 x9 x10 x11 true x13 x99 x100 (IntKind.wrap .i64 (x101 + 1))) else (bif (decide (48 ≤ (UInt8.toNat c6 : Int))) then (F39_r54 x1 x8 x9 x10 x11 x12 x13 (UInt8.toNat c6 : Int) x99 x100 x101 (decide ((UInt8.toNat c6 : Int) ≤ 57))) else (F39_r54 x1 x8 x9 x10 x11 x12 x13 (UInt8.toNat c6 : Int) x99 x100 x101 false))) else (bif (decide (48 ≤ (UInt8.toNat c6 : Int))) then (F39_r54 x1 x8 x9 x10 x11 x12 x13 (UInt8.toNat c6 : Int) x99 x100 x101 (decide ((UInt8.toNat c6 : Int) ≤ 57))) else (F39_r54 x1 x8 x9 x10 x11 x12 x13 (UInt8.toNat c6 : Int) x99 x100 x101 false)))) else (bif x12 then (v54 (F54 x9) fun b7 => (bif (!b7) then (some (r39 0 (.ifc 67 (.i .i64 2)))) else (some (r39 x13 .nili)))) else (some (r39 x13 .nili))))
noncomputable def T39_r54 (x1 : Int) (x8 : Bool) (x9 : List UInt8) (x10 : Int) (x11 : Int) (x12 : Bool) (x13 : Int) (x15 : Int) (x99 : List UInt8) (x100 : Int) (x101 : Int) (x112 : Bool) : Option Res := (bif x112 then (bif (decide ((IntKind.wrap .u8 x1) ≤ (IntKind.wrap .u8 (x15 - 48)))) then (some (r39 0 (.ifc 67 (.i .i64 2)))) else (bif (decide (x10 ≤ x13)) then (some (r39 x11 (.ifc 67 (.i .i64 1)))) else (bif (decide ((IntKind.wrap .u64 ((IntKind.wrap .u64 (x13 * (IntKind.wrap .u64 x1))) + (IntKind.wrap .u64 (IntKind.wrap .u8 (x15 - 48))))) < (IntKind.wrap .u64 (x13 * (IntKind.wrap .u64 x1))))) then (some (r39 x11 (.ifc 67 (.i .i64 1)))) else (bif (decide (x11 < (IntKind.wrap .u64 ((IntKind.wrap .u64 (x13 * (IntKind.wrap .u64 x1))) + (IntKind.wrap .u64 (IntKind.wrap .u8 (x15 - 48))))))) then (some (r39 x11 (.ifc 67 (.i .i64 1)))) else (F39_l0 x1 x8 x9 x10 x11 x12 (IntKind.wrap .u64 ((IntKind.wrap .u64 (x13 * (IntKind.wrap .u64 x1))) + (IntKind.wrap .u64 (IntKind.wrap .u8 (x15 - 48))))) x99 x100 (IntKind.wrap .i64 (x101 + 1))))))) else (v53 (F53 x15) fun n8 => (bif (decide (97 ≤ n8)) then (v53 (F53 x15) fun n9 => (bif (decide (n9 ≤ 122)) then (v53 (F53 x15) fun n10 => (bif (decide ((IntKind.wrap .u8 x1) ≤ (IntKind.wrap .u8 ((IntKind.wrap .u8 (n10 - 97)) + 10)))) then (some (r39 0 (.ifc 67 (.i .i64 2)))) else (bif (decide (x10 ≤ x13)) then (some (r39 x11 (.ifc 67 (.i .i64 1)))) else (bif (decide ((IntKind.wrap .u64 ((IntKind.wrap .u64 (x13 * (IntKind.wrap .u64 x1))) + (IntKind.wrap .u64 (IntKind.wrap .u8 ((IntKind.wrap .u8 (n10 - 97)) + 10))))) < (IntKind.wrap .u64 (x13 * (IntKind.wrap .u64 x1))))) then (some (r39 x11 (.ifc 67 (.i .i64 1)))) else (bif (decide (x11 < (IntKind.wrap .u64 ((IntKind.wrap .u64 (x13 * (IntKind.wrap .u64 x1))) + (IntKind.wrap .u64 (IntKind.wrap .u8 ((IntKind.wrap .u8 (n10 - 97)) + 10))))))) then (some (r39 x11 (.ifc 67 (.i .i64 1)))) else (F39_l0 x1 x8 x9 x10 x11 x12 (IntKind.wrap .u64 ((IntKind.wrap .u64 (x13 * (IntKind.wrap .u64 x1))) + (IntKind.wrap .u64 (IntKind.wrap .u8 ((IntKind.wrap .u8 (n10 - 97)) + 10))))) x99 x100 (IntKind.wrap .i64 (x101 + 1)))))))) else (some (r39 0 (.ifc 67 (.i .i64 2)))))) else (some (r39 0 (.ifc 67 (.i .i64 2)))))))
theorem F39_t (x0 : List UInt8) (x1 : Int) (x2 : Int) : execFV V39 (CI env) (LI env) f39 [(.d (.s x0)), (.d (.i .i64 x1)), (.d (.i .i64 x2))] [] = T39 x0 x1 x2 := by kernel_rfl
theorem F39_of (x0 : List UInt8) (x1 : Int) (x2 : Int) {r : Res} (h : T39 x0 x1 x2 = some r) : F39 x0 x1 x2 = some r := CI_V (V := V39) (g := f39) rfl ((F39_t x0 x1 x2).trans h)
theorem F39_r28_t (x0 : List UInt8) (x1 : Int) (x2 : Int) (x8 : Bool) (x9 : List UInt8) (x77 : Bool) : execV V39 (CI env) (LI env) f39_r28.body { tm := [(0, (.d (.s x0))), (1, (.d (.i .i64 x1))), (2, (.d (.i .i64 x2))), (8, (.d (.b x8))), (9, (.d (.s x9))), (77, (.d (.b x77)))], ob := [], ou := [] } (seqV V39 (CI env) (LI env) f39_r33 (finK f39)) = T39_r28 x0 x1 x2 x8 x9 x77 := by kernel_rfl
theorem F39_r28_of (x0 : List UInt8) (x1 : Int) (x2 : Int) (x8 : Bool) (x9 : List UInt8) (x77 : Bool) {r : Res} (h : T39_r28 x0 x1 x2 x8 x9 x77 = some r) : F39_r28 x0 x1 x2 x8 x9 x77 = some r := kp_V (V := V39) (ks := [0, 1, 2, 8, 9, 77]) (a := f39_r28.body) (st := { tm := [(0, (.d (.s x0))), (1, (.d (.i .i64 x1))), (2, (.d (.i .i64 x2))), (8, (.d (.b x8))), (9, (.d (.s x9))), (77, (.d (.b x77)))], ob := [], ou := [] }) (k := (seqV V39 (CI env) (LI env) f39_r33 (finK f39))) ((F39_r28_t x0 x1 x2 x8 x9 x77).trans h)
theorem F39_r13_t (x0 : List UInt8) (x2 : Int) (x8 : Bool) (x9 : List UInt8) (x40 : Bool) : execV V39 (CI env) (LI env) f39_r13.body { tm := [(0, (.d (.s x0))), (2, (.d (.i .i64 x2))), (8, (.d (.b x8))), (9, (.d (.s x9))), (40, (.d (.b x40)))], ob := [], ou := [] } (blockK 1 (blockK 0 (seqV V39 (CI env) (LI env) f39_r27 (finK f39)))) = T39_r13 x0 x2 x8 x9 x40 := by kernel_rfl
theorem F39_r13_of (x0 : List UInt8) (x2 : Int) (x8 : Bool) (x9 : List UInt8) (x40 : Bool) {r : Res} (h : T39_r13 x0 x2 x8 x9 x40 = some r) : F39_r13 x0 x2 x8 x9 x40 = some r := kp_V (V := V39) (ks := [0, 2, 8, 9, 40]) (a := f39_r13.body) (st := { tm := [(0, (.d (.s x0))), (2, (.d (.i .i64 x2))), (8, (.d (.b x8))), (9, (.d (.s x9))), (40, (.d (.b x40)))], ob := [], ou := [] }) (k := (blockK 1 (blockK 0 (seqV V39 (CI env) (LI env) f39_r27 (finK f39))))) ((F39_r13_t x0 x2 x8 x9 x40).trans h)
theorem F39_l0_t (x1 : Int) (x8 : Bool) (x9 : List UInt8) (x10 : Int) (x11 : Int) (x12 : Bool) (x13 : Int) (x99 : List UInt8) (x100 : Int) (x101 : Int) : execV V39 (CI env) (LI env) f39_l0.body { tm := [(1, (.d (.i .i64 x1))), (8, (.d (.b x8))), (9, (.d (.s x9))), (10, (.d (.i .u64 x10))), (11, (.d (.i .u64 x11))), (12, (.d (.b x12))), (13, (.d (.i .u64 x13))), (99, (.ownb x99)), (100, (.d (.i .i64 x100))), (101, (.d (.i .i64 x101)))], ob := [], ou := [] } (rndV (LI env) [1, 8, 9, 10, 11, 12, 13, 99, 100, 101] f39_l0.body (blockK 3 (seqV V39 (CI env) (LI env) f39_r73 (finK f39)))) = T39_l0 x1 x8 x9 x10 x11 x12 x13 x99 x100 x101 := by kernel_rfl
theorem F39_l0_of (x1 : Int) (x8 : Bool) (x9 : List UInt8) (x10 : Int) (x11 : Int) (x12 : Bool) (x13 : Int) (x99 : List UInt8) (x100 : Int) (x101 : Int) {r : Res} (h : T39_l0 x1 x8 x9 x10 x11 x12 x13 x99 x100 x101 = some r) : F39_l0 x1 x8 x9 x10 x11 x12 x13 x99 x100 x101 = some r := loop_V (V := V39) (ks := [1, 8, 9, 10, 11, 12, 13, 99, 100, 101]) (a := f39_l0.body) (st := { tm := [(1, (.d (.i .i64 x1))), (8, (.d (.b x8))), (9, (.d (.s x9))), (10, (.d (.i .u64 x10))), (11, (.d (.i .u64 x11))), (12, (.d (.b x12))), (13, (.d (.i .u64 x13))), (99, (.ownb x99)), (100, (.d (.i .i64 x100))), (101, (.d (.i .i64 x101)))], ob := [], ou := [] }) (k := (blockK 3 (seqV V39 (CI env) (LI env) f39_r73 (finK f39)))) ((F39_l0_t x1 x8 x9 x10 x11 x12 x13 x99 x100 x101).trans h)
theorem F39_r54_t (x1 : Int) (x8 : Bool) (x9 : List UInt8) (x10 : Int) (x11 : Int) (x12 : Bool) (x13 : Int) (x15 : Int) (x99 : List UInt8) (x100 : Int) (x101 : Int) (x112 : Bool) : execV V39 (CI env) (LI env) f39_r54.body { tm := [(1, (.d (.i .i64 x1))), (8, (.d (.b x8))), (9, (.d (.s x9))), (10, (.d (.i .u64 x10))), (11, (.d (.i .u64 x11))), (12, (.d (.b x12))), (13, (.d (.i .u64 x13))), (15, (.d (.i .u8 x15))), (99, (.ownb x99)), (100, (.d (.i .i64 x100))), (101, (.d (.i .i64 x101))), (112, (.d (.b x112)))], ob := [], ou := [] } (blockK 5 (seqV V39 (CI env) (LI env) f39_r60 (blockK 4 (seqV V39 (CI env) (LI env) f39_r72 (rndV (LI env) [1, 8, 9, 10, 11, 12, 13, 99, 100, 101] f39_l0.body (blockK 3 (seqV V39 (CI env) (LI env) f39_r73 (finK f39)))))))) = T39_r54 x1 x8 x9 x10 x11 x12 x13 x15 x99 x100 x101 x112 := by kernel_rfl
theorem F39_r54_of (x1 : Int) (x8 : Bool) (x9 : List UInt8) (x10 : Int) (x11 : Int) (x12 : Bool) (x13 : Int) (x15 : Int) (x99 : List UInt8) (x100 : Int) (x101 : Int) (x112 : Bool) {r : Res} (h : T39_r54 x1 x8 x9 x10 x11 x12 x13 x15 x99 x100 x101 x112 = some r) : F39_r54 x1 x8 x9 x10 x11 x12 x13 x15 x99 x100 x101 x112 = some r := kp_V (V := V39) (ks := [1, 8, 9, 10, 11, 12, 13, 15, 99, 100, 101, 112]) (a := f39_r54.body) (st := { tm := [(1, (.d (.i .i64 x1))), (8, (.d (.b x8))), (9, (.d (.s x9))), (10, (.d (.i .u64 x10))), (11, (.d (.i .u64 x11))), (12, (.d (.b x12))), (13, (.d (.i .u64 x13))), (15, (.d (.i .u8 x15))), (99, (.ownb x99)), (100, (.d (.i .i64 x100))), (101, (.d (.i .i64 x101))), (112, (.d (.b x112)))], ob := [], ou := [] }) (k := (blockK 5 (seqV V39 (CI env) (LI env) f39_r60 (blockK 4 (seqV V39 (CI env) (LI env) f39_r72 (rndV (LI env) [1, 8, 9, 10, 11, 12, 13, 99, 100, 101] f39_l0.body (blockK 3 (seqV V39 (CI env) (LI env) f39_r73 (finK f39))))))))) ((F39_r54_t x1 x8 x9 x10 x11 x12 x13 x15 x99 x100 x101 x112).trans h)

/-! internal/strconv.ParseInt -/
def V32 : Vw := [(29, .tup [.d (.i .u64), .d (.any)]), (33, .d (.b)), (37, .d (.b))]
noncomputable def F32_r20 (x2 : Int) (x8 : Bool) (x9 : Int) : Option Res := (LI env f32_r20 none { tm := [(2, (.d (.i .i64 x2))), (8, (.d (.b x8))), (9, (.d (.i .u64 x9)))], ob := [], ou := [] }).bind (unK (finK f32))
noncomputable def T32 (x0 : List UInt8) (x1 : Int) (x2 : Int) : Option Res := (bif (x0 == []) then (some (r32 0 (.ifc 67 (.i .i64 2)))) else (nth x0 0 fun c47 => (bif ((UInt8.toNat c47 : Int) == 43) then (if (0 : Int) ≤ (1 : Int) ∧ (1 : Int) ≤ (List.length x0 : Int) then (v39 (F39 (List.drop (Int.toNat (1 : Int)) x0) x1 x2) fun n1 d2 => (pIeq true (.d d2) fun v3 => asD v3 fun e4 => asB e4 fun b5 => (bif b5 then (pIeqv true 67 (.d d2) (.d (.ifc 67 (.i .i64 1))) fun v6 => asD v6 fun e7 => asB e7 fun b8 => (bif b8 then (some (r32 0 d2)) else (bif (x2 == 0) then (F32_r20 64 false n1) else (F32_r20 x2 false n1)))) else (bif (x2 == 0) then (F32_r20 64 false n1) else (F32_r20 x2 false n1))))) else none) else (bif ((UInt8.toNat c47 : Int) == 45) then (if (0 : Int) ≤ (1 : Int) ∧ (1 : Int) ≤ (List.length x0 : Int) then (v39 (F39 (List.drop (Int.toNat (1 : Int)) x0) x1 x2) fun n9 d10 => (pIeq true (.d d10) fun v11 => asD v11 fun e12 => asB e12 fun b13 => (bif b13 then (pIeqv true 67 (.d d10) (.d (.ifc 67 (.i .i64 1))) fun v14 => asD v14 fun e15 => asB e15 fun b16 => (bif b16 then (some (r32 0 d10)) else (bif (x2 == 0) then (F32_r20 64 true n9) else (F32_r20 x2 true n9)))) else (bif (x2 == 0) then (F32_r20 64 true n9) else (F32_r20 x2 true n9))))) else none) else (v39 (F39 x0 x1 x2) fun n17 d18 => (pIeq true (.d d18) fun v19 => asD v19 fun e20 => asB e20 fun b21 => (bif b21 then (pIeqv true 67 (.d d18) (.d (.ifc 67 (.i .i64 1))) fun v22 => asD v22 fun e23 => asB e23 fun b24 => (bif b24 then (some (r32 0 d18)) else (bif (x2 == 0) then (F32_r20 64 false n17) else (F32_r20 x2 false n17)))) else (bif (x2 == 0) then (F32_r20 64 false n17) else (F32_r20 x2 false n17)))))))))
noncomputable def T32_r20 (x2 : Int) (x8 : Bool) (x9 : Int) : Option Res := (if (IntKind.wrap .u64 (IntKind.wrap .i64 (x2 - 1))) < 0 then none else (bif (!x8) then (bif (decide ((IntKind.wrap .u64 (1 * 2 ^ (min (Int.toNat (IntKind.wrap .u64 (IntKind.wrap .i64 (x2 - 1)))) (IntKind.bits .u64)))) ≤ x9)) then (some (r32 (IntKind.wrap .i64 (IntKind.wrap .u64 ((IntKind.wrap .u64 (1 * 2 ^ (min (Int.toNat (IntKind.wrap .u64 (IntKind.wrap .i64 (x2 - 1)))) (IntKind.bits .u64)))) - 1))) (.ifc 67 (.i .i64 1)))) else (bif x8 then (bif (decide ((IntKind.wrap .u64 (1 * 2 ^ (min (Int.toNat (IntKind.wrap .u64 (IntKind.wrap .i64 (x2 - 1)))) (IntKind.bits .u64)))) < x9)) then (some (r32 (IntKind.wrap .i64 (0 - (IntKind.wrap .i64 (IntKind.wrap .u64 (1 * 2 ^ (min (Int.toNat (IntKind.wrap .u64 (IntKind.wrap .i64 (x2 - 1)))) (IntKind.bits .u64))))))) (.ifc 67 (.i .i64 1)))) else (bif x8 then (some (r32 (IntKind.wrap .i64 (0 - (IntKind.wrap .i64 x9))) .nili)) else (some (r32 (IntKind.wrap .i64 x9) .nili)))) else (bif x8 then (some (r32 (IntKind.wrap .i64 (0 - (IntKind.wrap .i64 x9))) .nili)) else (some (r32 (IntKind.wrap .i64 x9) .nili))))) else (bif x8 then (bif (decide ((IntKind.wrap .u64 (1 * 2 ^ (min (Int.toNat (IntKind.wrap .u64 (IntKind.wrap .i64 (x2 - 1)))) (IntKind.bits .u64)))) < x9)) then (some (r32 (IntKind.wrap .i64 (0 - (IntKind.wrap .i64 (IntKind.wrap .u64 (1 * 2 ^ (min (Int.toNat (IntKind.wrap .u64 (IntKind.wrap .i64 (x2 - 1)))) (IntKind.bits .u64))))))) (.ifc 67 (.i .i64 1)))) else (bif x8 then (some (r32 (IntKind.wrap .i64 (0 - (IntKind.wrap .i64 x9))) .nili)) else (some (r32 (IntKind.wrap .i64 x9) .nili)))) else (bif x8 then (some (r32 (IntKind.wrap .i64 (0 - (IntKind.wrap .i64 x9))) .nili)) else (some (r32 (IntKind.wrap .i64 x9) .nili))))))
theorem F32_t (x0 : List UInt8) (x1 : Int) (x2 : Int) : execFV V32 (CI env) (LI env) f32 [(.d (.s x0)), (.d (.i .i64 x1)), (.d (.i .i64 x2))] [] = T32 x0 x1 x2 := by kernel_rfl
theorem F32_of (x0 : List UInt8) (x1 : Int) (x2 : Int) {r : Res} (h : T32 x0 x1 x2 = some r) : F32 x0 x1 x2 = some r := CI_V (V := V32) (g := f32) rfl ((F32_t x0 x1 x2).trans h)
theorem F32_r20_t (x2 : Int) (x8 : Bool) (x9 : Int) : execV V32 (CI env) (LI env) f32_r20.body { tm := [(2, (.d (.i .i64 x2))), (8, (.d (.b x8))), (9, (.d (.i .u64 x9)))], ob := [], ou := [] } (finK f32) = T32_r20 x2 x8 x9 := by kernel_rfl
theorem F32_r20_of (x2 : Int) (x8 : Bool) (x9 : Int) {r : Res} (h : T32_r20 x2 x8 x9 = some r) : F32_r20 x2 x8 x9 = some r := kp_V (V := V32) (ks := [2, 8, 9]) (a := f32_r20.body) (st := { tm := [(2, (.d (.i .i64 x2))), (8, (.d (.b x8))), (9, (.d (.i .u64 x9)))], ob := [], ou := [] }) (k := (finK f32)) ((F32_r20_t x2 x8 x9).trans h)

/-! strconv.ParseInt -/
def V23 : Vw := [(13, .tup [.d (.i .i64), .d (.any)]), (17, .d (.b)), (23, .d (.any))]
noncomputable def T23 (x0 : List UInt8) (x1 : Int) (x2 : Int) : Option Res := (v32 (F32 x0 x1 x2) fun n1 d2 => (pIeq true (.d d2) fun v3 => asD v3 fun e4 => asB e4 fun b5 => (bif b5 then (v33 (F33 ([80, 97, 114, 115, 101, 73, 110, 116] : List UInt8) x0 x1 x2 d2) fun d6 => (some (r23 n1 d6))) else (some (r23 n1 .nili)))))
theorem F23_t (x0 : List UInt8) (x1 : Int) (x2 : Int) : execFV V23 (CI env) (LI env) f23 [(.d (.s x0)), (.d (.i .i64 x1)), (.d (.i .i64 x2))] [] = T23 x0 x1 x2 := by kernel_rfl
theorem F23_of (x0 : List UInt8) (x1 : Int) (x2 : Int) {r : Res} (h : T23 x0 x1 x2 = some r) : F23 x0 x1 x2 = some r := CI_V (V := V23) (g := f23) rfl ((F23_t x0 x1 x2).trans h)

/-! strconv.FormatInt -/
def V25 : Vw := [(7, .d (.s))]
noncomputable def T25 (x0 : Int) (x1 : Int) : Option Res := (v35 (F35 x0 x1) fun s1 => (some (r25 s1)))
theorem F25_t (x0 : Int) (x1 : Int) : execFV V25 (CI env) (LI env) f25 [(.d (.i .i64 x0)), (.d (.i .i64 x1))] [] = T25 x0 x1 := by kernel_rfl
theorem F25_of (x0 : Int) (x1 : Int) {r : Res} (h : T25 x0 x1 = some r) : F25 x0 x1 = some r := CI_V (V := V25) (g := f25) rfl ((F25_t x0 x1).trans h)

/-! custos/lex.number -/
def V14 : Vw := [(8, .tup [.d (.i .i64), .d (.any)]), (13, .d (.b)), (20, .d (.s))]
noncomputable def T14 (x0 : List UInt8) : Option Res := (v23 (F23 x0 10 64) fun n1 d2 => (pIeq false (.d d2) fun v3 => asD v3 fun e4 => asB e4 fun b5 => (bif b5 then (bif (decide (n1 ≤ 1099511627776)) then (v25 (F25 n1 10) fun s6 => (bif (s6 == x0) then (some (r14 n1 (decide (0 ≤ n1)))) else (some (r14 n1 false)))) else (some (r14 n1 false))) else (some (r14 n1 false)))))
theorem F14_t (x0 : List UInt8) : execFV V14 (CI env) (LI env) f14 [(.d (.s x0))] [] = T14 x0 := by kernel_rfl
theorem F14_of (x0 : List UInt8) {r : Res} (h : T14 x0 = some r) : F14 x0 = some r := CI_V (V := V14) (g := f14) rfl ((F14_t x0).trans h)

/-! internal/stringslite.HasSuffix -/
def V38 : Vw := []
noncomputable def T38 (x0 : List UInt8) (x1 : List UInt8) : Option Res := (bif (decide ((List.length x1 : Int) ≤ (List.length x0 : Int))) then (if (0 : Int) ≤ (IntKind.wrap .i64 ((List.length x0 : Int) - (List.length x1 : Int))) ∧ (IntKind.wrap .i64 ((List.length x0 : Int) - (List.length x1 : Int))) ≤ (List.length x0 : Int) then (some (r38 ((List.drop (Int.toNat (IntKind.wrap .i64 ((List.length x0 : Int) - (List.length x1 : Int)))) x0) == x1))) else none) else (some (r38 false)))
theorem F38_t (x0 : List UInt8) (x1 : List UInt8) : execFV V38 (CI env) (LI env) f38 [(.d (.s x0)), (.d (.s x1))] [] = T38 x0 x1 := by kernel_rfl
theorem F38_of (x0 : List UInt8) (x1 : List UInt8) {r : Res} (h : T38 x0 x1 = some r) : F38 x0 x1 = some r := CI_V (V := V38) (g := f38) rfl ((F38_t x0 x1).trans h)

/-! internal/stringslite.TrimSuffix -/
def V29 : Vw := [(7, .d (.b))]
noncomputable def T29 (x0 : List UInt8) (x1 : List UInt8) : Option Res := (v38 (F38 x0 x1) fun b1 => (bif b1 then (if (0 : Int) ≤ (IntKind.wrap .i64 ((List.length x0 : Int) - (List.length x1 : Int))) ∧ (IntKind.wrap .i64 ((List.length x0 : Int) - (List.length x1 : Int))) ≤ (List.length x0 : Int) then (some (r29 (List.take (Int.toNat (IntKind.wrap .i64 ((List.length x0 : Int) - (List.length x1 : Int)))) x0))) else none) else (some (r29 x0))))
theorem F29_t (x0 : List UInt8) (x1 : List UInt8) : execFV V29 (CI env) (LI env) f29 [(.d (.s x0)), (.d (.s x1))] [] = T29 x0 x1 := by kernel_rfl
theorem F29_of (x0 : List UInt8) (x1 : List UInt8) {r : Res} (h : T29 x0 x1 = some r) : F29 x0 x1 = some r := CI_V (V := V29) (g := f29) rfl ((F29_t x0 x1).trans h)

/-! strings.TrimSuffix -/
def V19 : Vw := [(7, .d (.s))]
noncomputable def T19 (x0 : List UInt8) (x1 : List UInt8) : Option Res := (v29 (F29 x0 x1) fun s1 => (some (r19 s1)))
theorem F19_t (x0 : List UInt8) (x1 : List UInt8) : execFV V19 (CI env) (LI env) f19 [(.d (.s x0)), (.d (.s x1))] [] = T19 x0 x1 := by kernel_rfl
theorem F19_of (x0 : List UInt8) (x1 : List UInt8) {r : Res} (h : T19 x0 x1 = some r) : F19 x0 x1 = some r := CI_V (V := V19) (g := f19) rfl ((F19_t x0 x1).trans h)

/-! custos/lex.ends -/
def V12 : Vw := [(13, .d (.s)), (14, .tup [.d (.s), .d (.s), .d (.b)]), (20, .tup [.d (.i .i64), .d (.b)]), (31, .tup [.d (.i .i64), .d (.b)])]
noncomputable def T12 (x0 : List UInt8) : Option Res := (if (0 : Int) ≤ (1 : Int) ∧ (1 : Int) ≤ (List.length x0 : Int) then (v19 (F19 (List.drop (Int.toNat (1 : Int)) x0) ([93] : List UInt8)) fun s1 => (v18 (F18 s1 ([44] : List UInt8)) fun s2 s3 b4 => (v14 (F14 s2) fun n5 b6 => (bif (!b4) then (some (r12 false)) else (bif (!b6) then (some (r12 false)) else (v14 (F14 s3) fun n7 b8 => (bif (s3 == ([42] : List UInt8)) then (some (r12 true)) else (bif b8 then (some (r12 (decide (n5 ≤ n7)))) else (some (r12 false)))))))))) else none)
theorem F12_t (x0 : List UInt8) : execFV V12 (CI env) (LI env) f12 [(.d (.s x0))] [] = T12 x0 := by kernel_rfl
theorem F12_of (x0 : List UInt8) {r : Res} (h : T12 x0 = some r) : F12 x0 = some r := CI_V (V := V12) (g := f12) rfl ((F12_t x0).trans h)

/-! internal/stringslite.HasPrefix -/
def V30 : Vw := []
noncomputable def T30 (x0 : List UInt8) (x1 : List UInt8) : Option Res := (bif (decide ((List.length x1 : Int) ≤ (List.length x0 : Int))) then (if (0 : Int) ≤ (List.length x1 : Int) ∧ (List.length x1 : Int) ≤ (List.length x0 : Int) then (some (r30 ((List.take (Int.toNat (List.length x1 : Int)) x0) == x1))) else none) else (some (r30 false)))
theorem F30_t (x0 : List UInt8) (x1 : List UInt8) : execFV V30 (CI env) (LI env) f30 [(.d (.s x0)), (.d (.s x1))] [] = T30 x0 x1 := by kernel_rfl
theorem F30_of (x0 : List UInt8) (x1 : List UInt8) {r : Res} (h : T30 x0 x1 = some r) : F30 x0 x1 = some r := CI_V (V := V30) (g := f30) rfl ((F30_t x0 x1).trans h)

/-! strings.HasPrefix -/
def V20 : Vw := [(7, .d (.b))]
noncomputable def T20 (x0 : List UInt8) (x1 : List UInt8) : Option Res := (v30 (F30 x0 x1) fun b1 => (some (r20 b1)))
theorem F20_t (x0 : List UInt8) (x1 : List UInt8) : execFV V20 (CI env) (LI env) f20 [(.d (.s x0)), (.d (.s x1))] [] = T20 x0 x1 := by kernel_rfl
theorem F20_of (x0 : List UInt8) (x1 : List UInt8) {r : Res} (h : T20 x0 x1 = some r) : F20 x0 x1 = some r := CI_V (V := V20) (g := f20) rfl ((F20_t x0 x1).trans h)

/-! strconv.ParseUint -/
def V31 : Vw := [(14, .tup [.d (.i .u64), .d (.any)]), (18, .d (.b)), (24, .d (.any))]
noncomputable def T31 (x0 : List UInt8) (x1 : Int) (x2 : Int) : Option Res := (v39 (F39 x0 x1 x2) fun n1 d2 => (pIeq true (.d d2) fun v3 => asD v3 fun e4 => asB e4 fun b5 => (bif b5 then (v33 (F33 ([80, 97, 114, 115, 101, 85, 105, 110, 116] : List UInt8) x0 x1 x2 d2) fun d6 => (some (r31 n1 d6))) else (some (r31 n1 .nili)))))
theorem F31_t (x0 : List UInt8) (x1 : Int) (x2 : Int) : execFV V31 (CI env) (LI env) f31 [(.d (.s x0)), (.d (.i .i64 x1)), (.d (.i .i64 x2))] [] = T31 x0 x1 x2 := by kernel_rfl
theorem F31_of (x0 : List UInt8) (x1 : Int) (x2 : Int) {r : Res} (h : T31 x0 x1 x2 = some r) : F31 x0 x1 x2 = some r := CI_V (V := V31) (g := f31) rfl ((F31_t x0 x1 x2).trans h)

/-! custos/value.unquoted -/
def V21 : Vw := [(10, .d (.s)), (35, .tup [.d (.i .u64), .d (.any)])]
noncomputable def F21_l0 (x0 : List UInt8) (x3 : List UInt8) : Option Res := (LI env f21_l0 none { tm := [(0, (.d (.s x0))), (3, (.ownb x3))], ob := [], ou := [] }).bind (unK (blockK 0 (seqV V21 (CI env) (LI env) f21_r14 (finK f21))))
noncomputable def T21 (x0 : List UInt8) : Option Res := (if (0 : Int) ≤ (1 : Int) ∧ (1 : Int) ≤ (List.length x0 : Int) then (v19 (F19 (List.drop (Int.toNat (1 : Int)) x0) ([34] : List UInt8)) fun s1 => (F21_l0 s1 [])) else none)
noncomputable def T21_l0 (x0 : List UInt8) (x3 : List UInt8) : Option Res := (bif (decide (0 < (List.length x0 : Int))) then (nth x0 0 fun c48 => (bif ((UInt8.toNat c48 : Int) == 92) then (bif (decide (1 < (List.length x0 : Int))) then (nth x0 1 fun c49 => (bif ((UInt8.toNat c49 : Int) == 120) then (bif (decide (3 < (List.length x0 : Int))) then (if (0 : Int) ≤ (2 : Int) ∧ (2 : Int) ≤ (4 : Int) ∧ (4 : Int) ≤ (List.length x0 : Int) then (v31 (F31 (List.drop (Int.toNat (2 : Int)) (List.take (Int.toNat (4 : Int)) x0)) 16 8) fun n2 d3 => (opt (bytesOfDs [(.d (.i .u8 (IntKind.wrap .u8 n2)))]) fun v50 => (if List.length x3 + List.length v50 ≤ 140737488355328 then (if (0 : Int) ≤ (4 : Int) ∧ (4 : Int) ≤ (List.length x0 : Int) then (F21_l0 (List.drop (Int.toNat (4 : Int)) x0) (x3 ++ v50)) else none) else none))) else none) else (opt (bytesOfDs [(.d (.i .u8 (UInt8.toNat c49 : Int)))]) fun v51 => (if List.length x3 + List.length v51 ≤ 140737488355328 then (if (0 : Int) ≤ (2 : Int) ∧ (2 : Int) ≤ (List.length x0 : Int) then (F21_l0 (List.drop (Int.toNat (2 : Int)) x0) (x3 ++ v51)) else none) else none))) else (opt (bytesOfDs [(.d (.i .u8 (UInt8.toNat c49 : Int)))]) fun v52 => (if List.length x3 + List.length v52 ≤ 140737488355328 then (if (0 : Int) ≤ (2 : Int) ∧ (2 : Int) ≤ (List.length x0 : Int) then (F21_l0 (List.drop (Int.toNat (2 : Int)) x0) (x3 ++ v52)) else none) else none)))) else (opt (bytesOfDs [(.d (.i .u8 (UInt8.toNat c48 : Int)))]) fun v53 => (if List.length x3 + List.length v53 ≤ 140737488355328 then (if (0 : Int) ≤ (1 : Int) ∧ (1 : Int) ≤ (List.length x0 : Int) then (F21_l0 (List.drop (Int.toNat (1 : Int)) x0) (x3 ++ v53)) else none) else none))) else (opt (bytesOfDs [(.d (.i .u8 (UInt8.toNat c48 : Int)))]) fun v54 => (if List.length x3 + List.length v54 ≤ 140737488355328 then (if (0 : Int) ≤ (1 : Int) ∧ (1 : Int) ≤ (List.length x0 : Int) then (F21_l0 (List.drop (Int.toNat (1 : Int)) x0) (x3 ++ v54)) else none) else none)))) else (some (r21 x3)))
theorem F21_t (x0 : List UInt8) : execFV V21 (CI env) (LI env) f21 [(.d (.s x0))] [] = T21 x0 := by kernel_rfl
theorem F21_of (x0 : List UInt8) {r : Res} (h : T21 x0 = some r) : F21 x0 = some r := CI_V (V := V21) (g := f21) rfl ((F21_t x0).trans h)
theorem F21_l0_t (x0 : List UInt8) (x3 : List UInt8) : execV V21 (CI env) (LI env) f21_l0.body { tm := [(0, (.d (.s x0))), (3, (.ownb x3))], ob := [], ou := [] } (rndV (LI env) [0, 3] f21_l0.body (blockK 0 (seqV V21 (CI env) (LI env) f21_r14 (finK f21)))) = T21_l0 x0 x3 := by kernel_rfl
theorem F21_l0_of (x0 : List UInt8) (x3 : List UInt8) {r : Res} (h : T21_l0 x0 x3 = some r) : F21_l0 x0 x3 = some r := loop_V (V := V21) (ks := [0, 3]) (a := f21_l0.body) (st := { tm := [(0, (.d (.s x0))), (3, (.ownb x3))], ob := [], ou := [] }) (k := (blockK 0 (seqV V21 (CI env) (LI env) f21_r14 (finK f21)))) ((F21_l0_t x0 x3).trans h)

/-! custos/value.quoted -/
def V22 : Vw := []
noncomputable def F22_l0 (x3 : List UInt8) (x8 : List UInt8) (x9 : Int) (x10 : Int) : Option Res := (LI env f22_l0 none { tm := [(3, (.ownb x3)), (8, (.ownb x8)), (9, (.d (.i .i64 x9))), (10, (.d (.i .i64 x10)))], ob := [], ou := [] }).bind (unK (blockK 0 (seqV V22 (CI env) (LI env) f22_r13 (finK f22))))
noncomputable def T22 (x0 : List UInt8) : Option Res := (F22_l0 [34] x0 (List.length x0 : Int) 0)
noncomputable def T22_l0 (x3 : List UInt8) (x8 : List UInt8) (x9 : Int) (x10 : Int) : Option Res := (bif (decide (x10 < x9)) then (nth x8 x10 fun c1 => (bif ((UInt8.toNat c1 : Int) == 34) then (opt (bytesOfDs [(.d (.i .u8 92)), (.d (.i .u8 (UInt8.toNat c1 : Int)))]) fun v55 => (if List.length x3 + List.length v55 ≤ 140737488355328 then (F22_l0 (x3 ++ v55) x8 x9 (IntKind.wrap .i64 (x10 + 1))) else none)) else (bif ((UInt8.toNat c1 : Int) == 92) then (opt (bytesOfDs [(.d (.i .u8 92)), (.d (.i .u8 (UInt8.toNat c1 : Int)))]) fun v56 => (if List.length x3 + List.length v56 ≤ 140737488355328 then (F22_l0 (x3 ++ v56) x8 x9 (IntKind.wrap .i64 (x10 + 1))) else none)) else (bif (decide (32 ≤ (UInt8.toNat c1 : Int))) then (bif (decide ((UInt8.toNat c1 : Int) ≤ 126)) then (opt (bytesOfDs [(.d (.i .u8 (UInt8.toNat c1 : Int)))]) fun v57 => (if List.length x3 + List.length v57 ≤ 140737488355328 then (F22_l0 (x3 ++ v57) x8 x9 (IntKind.wrap .i64 (x10 + 1))) else none)) else (if 4 < 0 then none else (nth ([48, 49, 50, 51, 52, 53, 54, 55, 56, 57, 97, 98, 99, 100, 101, 102] : List UInt8) (Int.fdiv (UInt8.toNat c1 : Int) (2 ^ (min (Int.toNat 4) (IntKind.bits .u8)))) fun c58 => (nth ([48, 49, 50, 51, 52, 53, 54, 55, 56, 57, 97, 98, 99, 100, 101, 102] : List UInt8) (IntKind.wrap .u8 (BitVec.toNat (BitVec.ofInt (IntKind.bits .u8) (UInt8.toNat c1 : Int) &&& BitVec.ofInt (IntKind.bits .u8) 15))) fun c59 => (opt (bytesOfDs [(.d (.i .u8 92)), (.d (.i .u8 120)), (.d (.i .u8 (UInt8.toNat c58 : Int))), (.d (.i .u8 (UInt8.toNat c59 : Int)))]) fun v60 => (if List.length x3 + List.length v60 ≤ 140737488355328 then (F22_l0 (x3 ++ v60) x8 x9 (IntKind.wrap .i64 (x10 + 1))) else none)))))) else (if 4 < 0 then none else (nth ([48, 49, 50, 51, 52, 53, 54, 55, 56, 57, 97, 98, 99, 100, 101, 102] : List UInt8) (Int.fdiv (UInt8.toNat c1 : Int) (2 ^ (min (Int.toNat 4) (IntKind.bits .u8)))) fun c61 => (nth ([48, 49, 50, 51, 52, 53, 54, 55, 56, 57, 97, 98, 99, 100, 101, 102] : List UInt8) (IntKind.wrap .u8 (BitVec.toNat (BitVec.ofInt (IntKind.bits .u8) (UInt8.toNat c1 : Int) &&& BitVec.ofInt (IntKind.bits .u8) 15))) fun c62 => (opt (bytesOfDs [(.d (.i .u8 92)), (.d (.i .u8 120)), (.d (.i .u8 (UInt8.toNat c61 : Int))), (.d (.i .u8 (UInt8.toNat c62 : Int)))]) fun v63 => (if List.length x3 + List.length v63 ≤ 140737488355328 then (F22_l0 (x3 ++ v63) x8 x9 (IntKind.wrap .i64 (x10 + 1))) else none))))))))) else (if List.length x3 + List.length [34] ≤ 140737488355328 then (some (r22 (x3 ++ [34]))) else none))
theorem F22_t (x0 : List UInt8) : execFV V22 (CI env) (LI env) f22 [(.d (.s x0))] [] = T22 x0 := by kernel_rfl
theorem F22_of (x0 : List UInt8) {r : Res} (h : T22 x0 = some r) : F22 x0 = some r := CI_V (V := V22) (g := f22) rfl ((F22_t x0).trans h)
theorem F22_l0_t (x3 : List UInt8) (x8 : List UInt8) (x9 : Int) (x10 : Int) : execV V22 (CI env) (LI env) f22_l0.body { tm := [(3, (.ownb x3)), (8, (.ownb x8)), (9, (.d (.i .i64 x9))), (10, (.d (.i .i64 x10)))], ob := [], ou := [] } (rndV (LI env) [3, 8, 9, 10] f22_l0.body (blockK 0 (seqV V22 (CI env) (LI env) f22_r13 (finK f22)))) = T22_l0 x3 x8 x9 x10 := by kernel_rfl
theorem F22_l0_of (x3 : List UInt8) (x8 : List UInt8) (x9 : Int) (x10 : Int) {r : Res} (h : T22_l0 x3 x8 x9 x10 = some r) : F22_l0 x3 x8 x9 x10 = some r := loop_V (V := V22) (ks := [3, 8, 9, 10]) (a := f22_l0.body) (st := { tm := [(3, (.ownb x3)), (8, (.ownb x8)), (9, (.d (.i .i64 x9))), (10, (.d (.i .i64 x10)))], ob := [], ou := [] }) (k := (blockK 0 (seqV V22 (CI env) (LI env) f22_r13 (finK f22)))) ((F22_l0_t x3 x8 x9 x10).trans h)

/-! custos/rat.gcd -/
def V58 : Vw := []
noncomputable def F58_l0 (x0 : Int) (x1 : Int) : Option Res := (LI env f58_l0 none { tm := [(0, (.d (.i .u64 x0))), (1, (.d (.i .u64 x1)))], ob := [], ou := [] }).bind (unK (blockK 0 (seqV V58 (CI env) (LI env) f58_r3 (finK f58))))
noncomputable def T58 (x0 : Int) (x1 : Int) : Option Res := (F58_l0 x0 x1)
noncomputable def T58_l0 (x0 : Int) (x1 : Int) : Option Res := (bif (x1 != 0) then (if x1 = 0 then none else (F58_l0 x1 (Int.tmod x0 x1))) else (some (r58 x0)))
theorem F58_t (x0 : Int) (x1 : Int) : execFV V58 (CI env) (LI env) f58 [(.d (.i .u64 x0)), (.d (.i .u64 x1))] [] = T58 x0 x1 := by kernel_rfl
theorem F58_of (x0 : Int) (x1 : Int) {r : Res} (h : T58 x0 x1 = some r) : F58 x0 x1 = some r := CI_V (V := V58) (g := f58) rfl ((F58_t x0 x1).trans h)
theorem F58_l0_t (x0 : Int) (x1 : Int) : execV V58 (CI env) (LI env) f58_l0.body { tm := [(0, (.d (.i .u64 x0))), (1, (.d (.i .u64 x1)))], ob := [], ou := [] } (rndV (LI env) [0, 1] f58_l0.body (blockK 0 (seqV V58 (CI env) (LI env) f58_r3 (finK f58)))) = T58_l0 x0 x1 := by kernel_rfl
theorem F58_l0_of (x0 : Int) (x1 : Int) {r : Res} (h : T58_l0 x0 x1 = some r) : F58_l0 x0 x1 = some r := loop_V (V := V58) (ks := [0, 1]) (a := f58_l0.body) (st := { tm := [(0, (.d (.i .u64 x0))), (1, (.d (.i .u64 x1)))], ob := [], ou := [] }) (k := (blockK 0 (seqV V58 (CI env) (LI env) f58_r3 (finK f58)))) ((F58_l0_t x0 x1).trans h)

/-! custos/rat.size -/
def V59 : Vw := []
noncomputable def T59 (x0 : Int) : Option Res := (bif (decide (x0 < 0)) then (some (r59 (IntKind.wrap .u64 (0 - (IntKind.wrap .u64 x0))))) else (some (r59 (IntKind.wrap .u64 x0))))
theorem F59_t (x0 : Int) : execFV V59 (CI env) (LI env) f59 [(.d (.i .i64 x0))] [] = T59 x0 := by kernel_rfl
theorem F59_of (x0 : Int) {r : Res} (h : T59 x0 = some r) : F59 x0 = some r := CI_V (V := V59) (g := f59) rfl ((F59_t x0).trans h)

/-! custos/rat.Of -/
def V44 : Vw := [(14, .d (.i .u64)), (16, .d (.i .u64)), (17, .d (.i .u64)), (19, .d (.i .u64)), (23, .d (.i .u64))]
noncomputable def T44 (x0 : Int) (x1 : Int) : Option Res := (bif (x1 == 0) then (some (r44 0 0 11)) else (v59 (F59 x0) fun n1 => (v59 (F59 x1) fun n2 => (v58 (F58 n1 n2) fun n3 => (vP59 (F59 x0) fun n4 => (if n3 = 0 then none else (vP59 (F59 x1) fun n5 => (if n3 = 0 then none else (bif (x0 != 0) then (bif (decide (9223372036854775807 < (IntKind.wrap .u64 (Int.tdiv n5 n3)))) then (some (r44 0 0 10)) else (bif (decide (9223372036854775808 < (IntKind.wrap .u64 (Int.tdiv n4 n3)))) then (some (r44 0 0 10)) else (bif ((IntKind.wrap .u64 (Int.tdiv n4 n3)) == 9223372036854775808) then (bif (!(((decide (x0 < 0)) == (decide (x1 < 0))) != true)) then (some (r44 0 0 10)) else (bif (((decide (x0 < 0)) == (decide (x1 < 0))) != true) then (some (r44 (IntKind.wrap .i64 ((IntKind.wrap .i64 (0 - (IntKind.wrap .i64 (IntKind.wrap .u64 ((IntKind.wrap .u64 (Int.tdiv n4 n3)) - 1))))) - 1)) (IntKind.wrap .i64 (IntKind.wrap .u64 (Int.tdiv n5 n3))) 0)) else (some (r44 (IntKind.wrap .i64 (IntKind.wrap .u64 (Int.tdiv n4 n3))) (IntKind.wrap .i64 (IntKind.wrap .u64 (Int.tdiv n5 n3))) 0)))) else (bif (((decide (x0 < 0)) == (decide (x1 < 0))) != true) then (some (r44 (IntKind.wrap .i64 ((IntKind.wrap .i64 (0 - (IntKind.wrap .i64 (IntKind.wrap .u64 ((IntKind.wrap .u64 (Int.tdiv n4 n3)) - 1))))) - 1)) (IntKind.wrap .i64 (IntKind.wrap .u64 (Int.tdiv n5 n3))) 0)) else (some (r44 (IntKind.wrap .i64 (IntKind.wrap .u64 (Int.tdiv n4 n3))) (IntKind.wrap .i64 (IntKind.wrap .u64 (Int.tdiv n5 n3))) 0)))))) else (bif (decide (9223372036854775807 < (IntKind.wrap .u64 (Int.tdiv n5 n3)))) then (some (r44 0 0 10)) else (bif (decide (9223372036854775808 < (IntKind.wrap .u64 (Int.tdiv n4 n3)))) then (some (r44 0 0 10)) else (bif ((IntKind.wrap .u64 (Int.tdiv n4 n3)) == 9223372036854775808) then (some (r44 0 0 10)) else (some (r44 (IntKind.wrap .i64 (IntKind.wrap .u64 (Int.tdiv n4 n3))) (IntKind.wrap .i64 (IntKind.wrap .u64 (Int.tdiv n5 n3))) 0))))))))))))))
theorem F44_t (x0 : Int) (x1 : Int) : execFV V44 (CI env) (LI env) f44 [(.d (.i .i64 x0)), (.d (.i .i64 x1))] [] = T44 x0 x1 := by kernel_rfl
theorem F44_of (x0 : Int) (x1 : Int) {r : Res} (h : T44 x0 x1 = some r) : F44 x0 x1 = some r := CI_V (V := V44) (g := f44) rfl ((F44_t x0 x1).trans h)

/-! custos/value.fraction -/
def V45 : Vw := []
noncomputable def T45 (x0_0 : Int) (x0_1 : Int) (x0_2 : Int) (x0_3 : List UInt8) : Option Res := (some (r45 x0_1 x0_2))
theorem F45_t (x0_0 : Int) (x0_1 : Int) (x0_2 : Int) (x0_3 : List UInt8) : execFV V45 (CI env) (LI env) f45 [(.d (.ag [(.i .i64 x0_0), (.i .i64 x0_1), (.i .i64 x0_2), (.s x0_3)]))] [] = T45 x0_0 x0_1 x0_2 x0_3 := by kernel_rfl
theorem F45_of (x0_0 : Int) (x0_1 : Int) (x0_2 : Int) (x0_3 : List UInt8) {r : Res} (h : T45 x0_0 x0_1 x0_2 x0_3 = some r) : F45 x0_0 x0_1 x0_2 x0_3 = some r := CI_V (V := V45) (g := f45) rfl ((F45_t x0_0 x0_1 x0_2 x0_3).trans h)

/-! custos/value.Check -/
def V34 : Vw := [(25, .tup [.ag [.i .i64, .i .i64], .d (.i .i64)]), (38, .ag [.i .i64, .i .i64])]
noncomputable def T34 (x0_0 : Int) (x0_1 : Int) (x0_2 : Int) (x0_3 : List UInt8) : Option Res := (bif (x0_0 == 1) then (bif (x0_2 != 0) then (some (r34 20)) else (bif (!(x0_3 == [])) then (some (r34 20)) else (bif (decide (64 < (List.length x0_3 : Int))) then (some (r34 2)) else (some (r34 0))))) else (bif (x0_0 == 2) then (v44 (F44 x0_1 x0_2) fun n1 n2 n3 => (bif (!(x0_3 == [])) then (some (r34 20)) else (bif (n3 != 0) then (some (r34 20)) else (vP45 (F45 x0_0 x0_1 x0_2 x0_3) fun n4 n5 => (bif (((n1 == n4) && ((n2 == n5) && true)) != true) then (some (r34 20)) else (bif (decide (64 < (List.length x0_3 : Int))) then (some (r34 2)) else (some (r34 0)))))))) else (bif (x0_0 == 3) then (bif (x0_1 != 0) then (some (r34 20)) else (bif (x0_2 != 0) then (some (r34 20)) else (bif (decide (64 < (List.length x0_3 : Int))) then (some (r34 2)) else (some (r34 0))))) else (some (r34 20)))))
theorem F34_t (x0_0 : Int) (x0_1 : Int) (x0_2 : Int) (x0_3 : List UInt8) : execFV V34 (CI env) (LI env) f34 [(.d (.ag [(.i .i64 x0_0), (.i .i64 x0_1), (.i .i64 x0_2), (.s x0_3)]))] [] = T34 x0_0 x0_1 x0_2 x0_3 := by kernel_rfl
theorem F34_of (x0_0 : Int) (x0_1 : Int) (x0_2 : Int) (x0_3 : List UInt8) {r : Res} (h : T34 x0_0 x0_1 x0_2 x0_3 = some r) : F34 x0_0 x0_1 x0_2 x0_3 = some r := CI_V (V := V34) (g := f34) rfl ((F34_t x0_0 x0_1 x0_2 x0_3).trans h)

/-! custos/value.Print -/
def V24 : Vw := [(6, .d (.i .i64)), (16, .d (.s)), (21, .d (.s)), (25, .d (.s)), (29, .d (.s))]
noncomputable def T24 (x0_0 : Int) (x0_1 : Int) (x0_2 : Int) (x0_3 : List UInt8) : Option Res := (v34 (F34 x0_0 x0_1 x0_2 x0_3) fun n1 => (bif (n1 != 0) then (some (r24 [] n1)) else (bif (x0_0 == 1) then (v25 (F25 x0_1 10) fun s2 => (some (r24 s2 0))) else (bif (x0_0 == 2) then (vP25 (F25 x0_1 10) fun s3 => (if List.length s3 + List.length ([47] : List UInt8) ≤ 9223372036854775807 then (vP25 (F25 x0_2 10) fun s4 => (if List.length (s3 ++ ([47] : List UInt8)) + List.length s4 ≤ 9223372036854775807 then (some (r24 ((s3 ++ ([47] : List UInt8)) ++ s4) 0)) else none)) else none)) else (v22 (F22 x0_3) fun s5 => (some (r24 s5 0)))))))
theorem F24_t (x0_0 : Int) (x0_1 : Int) (x0_2 : Int) (x0_3 : List UInt8) : execFV V24 (CI env) (LI env) f24 [(.d (.ag [(.i .i64 x0_0), (.i .i64 x0_1), (.i .i64 x0_2), (.s x0_3)]))] [] = T24 x0_0 x0_1 x0_2 x0_3 := by kernel_rfl
theorem F24_of (x0_0 : Int) (x0_1 : Int) (x0_2 : Int) (x0_3 : List UInt8) {r : Res} (h : T24 x0_0 x0_1 x0_2 x0_3 = some r) : F24 x0_0 x0_1 x0_2 x0_3 = some r := CI_V (V := V24) (g := f24) rfl ((F24_t x0_0 x0_1 x0_2 x0_3).trans h)

/-! custos/value.Parse -/
def V13 : Vw := [(12, .d (.b)), (14, .d (.s)), (17, .d (.s)), (31, .tup [.d (.s), .d (.s), .d (.b)]), (37, .tup [.d (.i .i64), .d (.any)]), (45, .tup [.d (.i .i64), .d (.any)]), (51, .tup [.d (.s), .d (.i .i64)])]
noncomputable def T13 (x0 : List UInt8) : Option Res := (v20 (F20 x0 ([34] : List UInt8)) fun b1 => (bif b1 then (v21 (F21 x0) fun s2 => (v22 (F22 s2) fun s3 => (bif (!(s3 == x0)) then (some (r13 0 0 0 [] 70)) else (bif (decide (64 < (List.length s2 : Int))) then (some (r13 0 0 0 [] 2)) else (some (r13 3 0 0 s2 0)))))) else (v18 (F18 x0 ([47] : List UInt8)) fun s4 s5 b6 => (v23 (F23 s4 10 64) fun n7 d8 => (bif b6 then (v23 (F23 s5 10 64) fun n9 d10 => (v24 (F24 2 n7 n9 []) fun s11 n12 => (bif (n12 != 0) then (some (r13 0 0 0 [] 70)) else (bif (!(s11 == x0)) then (some (r13 0 0 0 [] 70)) else (some (r13 2 n7 n9 [] 0)))))) else (v24 (F24 1 n7 0 []) fun s13 n14 => (bif (n14 != 0) then (some (r13 0 0 0 [] 70)) else (bif (!(s13 == x0)) then (some (r13 0 0 0 [] 70)) else (some (r13 1 n7 0 [] 0))))))))))
theorem F13_t (x0 : List UInt8) : execFV V13 (CI env) (LI env) f13 [(.d (.s x0))] [] = T13 x0 := by kernel_rfl
theorem F13_of (x0 : List UInt8) {r : Res} (h : T13 x0 = some r) : F13 x0 = some r := CI_V (V := V13) (g := f13) rfl ((F13_t x0).trans h)

/-! custos/lex.one -/
def V10 : Vw := [(17, .tup [.d (.i .i64), .d (.i .i64)]), (42, .d (.b)), (48, .tup [.ag [.i .i64, .i .i64, .i .i64, .s], .d (.i .i64)]), (61, .tup [.d (.i .i64), .d (.b)])]
noncomputable def T10 (x0 : List UInt8) (x1 : Int) : Option Res := (v11 (F11 x0 x1) fun n1 n2 => (if (0 : Int) ≤ x1 ∧ x1 ≤ (if n2 > x1 then n2 else x1) ∧ (if n2 > x1 then n2 else x1) ≤ (List.length x0 : Int) then (bif (n1 == 3) then (some (r10 n1 x1 (List.drop (Int.toNat x1) (List.take (Int.toNat (if n2 > x1 then n2 else x1)) x0)) 0 0 0 [] (decide ((List.length (List.drop (Int.toNat x1) (List.take (Int.toNat (if n2 > x1 then n2 else x1)) x0)) : Int) ≤ 16)))) else (bif (n1 == 5) then (v12 (F12 (List.drop (Int.toNat x1) (List.take (Int.toNat (if n2 > x1 then n2 else x1)) x0))) fun b3 => (some (r10 n1 x1 (List.drop (Int.toNat x1) (List.take (Int.toNat (if n2 > x1 then n2 else x1)) x0)) 0 0 0 [] b3))) else (bif (n1 == 6) then (v13 (F13 (List.drop (Int.toNat x1) (List.take (Int.toNat (if n2 > x1 then n2 else x1)) x0))) fun n4 n5 n6 s7 n8 => (some (r10 n1 x1 (List.drop (Int.toNat x1) (List.take (Int.toNat (if n2 > x1 then n2 else x1)) x0)) n4 n5 n6 s7 (n8 == 0)))) else (bif (n1 == 7) then (if (0 : Int) ≤ (1 : Int) ∧ (1 : Int) ≤ (List.length (List.drop (Int.toNat x1) (List.take (Int.toNat (if n2 > x1 then n2 else x1)) x0)) : Int) then (v14 (F14 (List.drop (Int.toNat (1 : Int)) (List.drop (Int.toNat x1) (List.take (Int.toNat (if n2 > x1 then n2 else x1)) x0)))) fun n9 b10 => (some (r10 n1 x1 (List.drop (Int.toNat x1) (List.take (Int.toNat (if n2 > x1 then n2 else x1)) x0)) 1 n9 0 [] b10))) else none) else (some (r10 n1 x1 (List.drop (Int.toNat x1) (List.take (Int.toNat (if n2 > x1 then n2 else x1)) x0)) 0 0 0 [] (n1 != 0))))))) else none))
theorem F10_t (x0 : List UInt8) (x1 : Int) : execFV V10 (CI env) (LI env) f10 [(.d (.s x0)), (.d (.i .i64 x1))] [] = T10 x0 x1 := by kernel_rfl
theorem F10_of (x0 : List UInt8) (x1 : Int) {r : Res} (h : T10 x0 x1 = some r) : F10 x0 x1 = some r := CI_V (V := V10) (g := f10) rfl ((F10_t x0 x1).trans h)

/-! custos/lex.Tokens -/
def V6 : Vw := [(31, .tup [.ag [.i .i64, .i .i64, .s, .i .i64, .i .i64, .i .i64, .s], .d (.b)])]
noncomputable def F6_l0 (x0 : List UInt8) (x5 : List (List D)) (x6 : Int) : Option Res := (LI env f6_l0 none { tm := [(0, (.d (.s x0))), (5, (.own 7 x5)), (6, (.d (.i .i64 x6)))], ob := [], ou := [] }).bind (unK (blockK 0 (seqV V6 (CI env) (LI env) f6_r16 (finK f6))))
noncomputable def T6 (x0 : List UInt8) : Option Res := (bif (decide (16384 < (List.length x0 : Int))) then (some (r6 [] 2 0)) else (F6_l0 x0 [] 0))
noncomputable def T6_l0 (x0 : List UInt8) (x5 : List (List D)) (x6 : Int) : Option Res := (bif (decide (x6 < (List.length x0 : Int))) then (nth x0 x6 fun c64 => (bif ((UInt8.toNat c64 : Int) == 32) then (F6_l0 x0 x5 (IntKind.wrap .i64 (x6 + 1))) else (nth x0 x6 fun c65 => (bif ((UInt8.toNat c65 : Int) == 10) then (F6_l0 x0 x5 (IntKind.wrap .i64 (x6 + 1))) else (v10 (F10 x0 x6) fun n1 n2 s3 n4 n5 n6 s7 b8 => (bif (!b8) then (some (r6 [] 50 x6)) else (if List.length x5 + List.length ([[(.i .i64 n1), (.i .i64 n2), (.s s3), (.i .i64 n4), (.i .i64 n5), (.i .i64 n6), (.s s7)]] : List (List D)) ≤ 1954687338268 then (F6_l0 x0 (x5 ++ ([[(.i .i64 n1), (.i .i64 n2), (.s s3), (.i .i64 n4), (.i .i64 n5), (.i .i64 n6), (.s s7)]] : List (List D))) (IntKind.wrap .i64 (x6 + (List.length s3 : Int)))) else none))))))) else (some (r6 x5 0 0)))
theorem F6_t (x0 : List UInt8) : execFV V6 (CI env) (LI env) f6 [(.d (.s x0))] [] = T6 x0 := by kernel_rfl
theorem F6_of (x0 : List UInt8) {r : Res} (h : T6 x0 = some r) : F6 x0 = some r := CI_V (V := V6) (g := f6) rfl ((F6_t x0).trans h)
theorem F6_l0_t (x0 : List UInt8) (x5 : List (List D)) (x6 : Int) : execV V6 (CI env) (LI env) f6_l0.body { tm := [(0, (.d (.s x0))), (5, (.own 7 x5)), (6, (.d (.i .i64 x6)))], ob := [], ou := [] } (rndV (LI env) [0, 5, 6] f6_l0.body (blockK 0 (seqV V6 (CI env) (LI env) f6_r16 (finK f6)))) = T6_l0 x0 x5 x6 := by kernel_rfl
theorem F6_l0_of (x0 : List UInt8) (x5 : List (List D)) (x6 : Int) {r : Res} (h : T6_l0 x0 x5 x6 = some r) : F6_l0 x0 x5 x6 = some r := loop_V (V := V6) (ks := [0, 5, 6]) (a := f6_l0.body) (st := { tm := [(0, (.d (.s x0))), (5, (.own 7 x5)), (6, (.d (.i .i64 x6)))], ob := [], ou := [] }) (k := (blockK 0 (seqV V6 (CI env) (LI env) f6_r16 (finK f6)))) ((F6_l0_t x0 x5 x6).trans h)

/-! custos/custoslaw05.live -/
def V7 : Vw := [(8, .tup [.d (.sl 7), .d (.i .i64), .d (.i .i64)]), (13, .tup [.d (.sl 7), .d (.i .i64), .d (.i .i64)]), (37, .ro [.i .i64, .i .i64, .s, .i .i64, .i .i64, .i .i64, .s]), (43, .ro [.i .i64, .i .i64, .s, .i .i64, .i .i64, .i .i64, .s]), (50, .ro [.i .i64, .i .i64, .s, .i .i64, .i .i64, .i .i64, .s]), (57, .ro [.i .i64, .i .i64, .s, .i .i64, .i .i64, .i .i64, .s]), (65, .ro [.i .i64, .i .i64, .s, .i .i64, .i .i64, .i .i64, .s]), (72, .ro [.i .i64, .i .i64, .s, .i .i64, .i .i64, .i .i64, .s]), (79, .ro [.i .i64, .i .i64, .s, .i .i64, .i .i64, .i .i64, .s]), (87, .ro [.i .i64, .i .i64, .s, .i .i64, .i .i64, .i .i64, .s])]
noncomputable def T7 : Option Res := (v6 (F6 ([60, 61, 61, 45, 53, 45, 45, 53, 32, 91, 48, 44, 53, 93, 10, 64, 55, 40] : List UInt8)) fun l1 n2 n3 => (v6 (F6 ([97, 32, 49, 47, 50, 32, 48, 53] : List UInt8)) fun l4 n5 n6 => (bif (n2 != 0) then (some (r7 false)) else (bif (n3 != 0) then (some (r7 false)) else (bif (n5 != 50) then (some (r7 false)) else (bif (n6 != 6) then (some (r7 false)) else (bif ((List.length l1 : Int) != 8) then (some (r7 false)) else (nth l1 0 fun r14 => vRow_iisiiis r14 fun n7 n8 s9 n10 n11 n12 s13 => (bif (n7 == 4) then (nth l1 0 fun r22 => vRow_iisiiis r22 fun n15 n16 s17 n18 n19 n20 s21 => (bif (s17 == ([60, 61] : List UInt8)) then (nth l1 2 fun r30 => vRow_iisiiis r30 fun n23 n24 s25 n26 n27 n28 s29 => (bif (n23 == 6) then (nth l1 2 fun r38 => vRow_iisiiis r38 fun n31 n32 s33 n34 n35 n36 s37 => (bif (n35 == (-5)) then (nth l1 5 fun r46 => vRow_iisiiis r46 fun n39 n40 s41 n42 n43 n44 s45 => (bif (n39 == 5) then (nth l1 6 fun r54 => vRow_iisiiis r54 fun n47 n48 s49 n50 n51 n52 s53 => (bif (n47 == 7) then (nth l1 6 fun r62 => vRow_iisiiis r62 fun n55 n56 s57 n58 n59 n60 s61 => (bif (n59 == 7) then (nth l1 7 fun r70 => vRow_iisiiis r70 fun n63 n64 s65 n66 n67 n68 s69 => (some (r7 (n63 == 1)))) else (some (r7 false)))) else (some (r7 false)))) else (some (r7 false)))) else (some (r7 false)))) else (some (r7 false)))) else (some (r7 false)))) else (some (r7 false)))))))))))
theorem F7_t : execFV V7 (CI env) (LI env) f7 [] [] = T7  := by kernel_rfl
theorem F7_of {r : Res} (h : T7  = some r) : F7  = some r := CI_V (V := V7) (g := f7) rfl ((F7_t ).trans h)

/-! custos/custoslaw05.blank -/
def V8 : Vw := []
noncomputable def F8_l0 (x0 : List UInt8) (x2 : Int) (x7 : Int) : Option Res := (LI env f8_l0 none { tm := [(0, (.d (.s x0))), (2, (.d (.i .i64 x2))), (7, (.d (.i .i64 x7)))], ob := [], ou := [] }).bind (unK (blockK 0 (seqV V8 (CI env) (LI env) f8_r7 (finK f8))))
noncomputable def T8 (x0 : List UInt8) (x1 : Int) (x2 : Int) : Option Res := (F8_l0 x0 x2 x1)
noncomputable def T8_l0 (x0 : List UInt8) (x2 : Int) (x7 : Int) : Option Res := (bif (decide (x7 < x2)) then (nth x0 x7 fun c66 => (bif ((UInt8.toNat c66 : Int) != 32) then (nth x0 x7 fun c67 => (bif ((UInt8.toNat c67 : Int) != 10) then (some (r8 false)) else (F8_l0 x0 x2 (IntKind.wrap .i64 (x7 + 1))))) else (F8_l0 x0 x2 (IntKind.wrap .i64 (x7 + 1))))) else (some (r8 true)))
theorem F8_t (x0 : List UInt8) (x1 : Int) (x2 : Int) : execFV V8 (CI env) (LI env) f8 [(.d (.s x0)), (.d (.i .i64 x1)), (.d (.i .i64 x2))] [] = T8 x0 x1 x2 := by kernel_rfl
theorem F8_of (x0 : List UInt8) (x1 : Int) (x2 : Int) {r : Res} (h : T8 x0 x1 x2 = some r) : F8 x0 x1 x2 = some r := CI_V (V := V8) (g := f8) rfl ((F8_t x0 x1 x2).trans h)
theorem F8_l0_t (x0 : List UInt8) (x2 : Int) (x7 : Int) : execV V8 (CI env) (LI env) f8_l0.body { tm := [(0, (.d (.s x0))), (2, (.d (.i .i64 x2))), (7, (.d (.i .i64 x7)))], ob := [], ou := [] } (rndV (LI env) [0, 2, 7] f8_l0.body (blockK 0 (seqV V8 (CI env) (LI env) f8_r7 (finK f8)))) = T8_l0 x0 x2 x7 := by kernel_rfl
theorem F8_l0_of (x0 : List UInt8) (x2 : Int) (x7 : Int) {r : Res} (h : T8_l0 x0 x2 x7 = some r) : F8_l0 x0 x2 x7 = some r := loop_V (V := V8) (ks := [0, 2, 7]) (a := f8_l0.body) (st := { tm := [(0, (.d (.s x0))), (2, (.d (.i .i64 x2))), (7, (.d (.i .i64 x7)))], ob := [], ou := [] }) (k := (blockK 0 (seqV V8 (CI env) (LI env) f8_r7 (finK f8)))) ((F8_l0_t x0 x2 x7).trans h)

/-! custos/custoslaw05.LexStands -/
def V3 : Vw := [(12, .tup [.d (.sl 7), .d (.i .i64), .d (.i .i64)]), (18, .d (.b)), (46, .ro [.i .i64, .i .i64, .s, .i .i64, .i .i64, .i .i64, .s]), (86, .d (.b)), (93, .d (.b)), (99, .d (.b))]
noncomputable def F3_l0 (x0 : List UInt8) (x3 : List (List D)) (x5 : Int) (x6 : Int) (x7 : Int) : Option Res := (LI env f3_l0 none { tm := [(0, (.d (.s x0))), (3, (.d (.sl 7 x3))), (5, (.d (.i .i64 x5))), (6, (.d (.i .i64 x6))), (7, (.d (.i .i64 x7)))], ob := [], ou := [] }).bind (unK (blockK 0 (seqV V3 (CI env) (LI env) f3_r15 (finK f3))))
noncomputable def T3 (x0 : List UInt8) : Option Res := (v6 (F6 x0) fun l1 n2 n3 => (bif (n2 != 0) then (v7 (F7) fun b4 => (bif b4 then (bif ((List.length l1 : Int) == 0) then (bif (decide (0 ≤ n3)) then (bif (decide (n3 < (List.length x0 : Int))) then (some (r3 true)) else (some (r3 (n2 == 2)))) else (some (r3 false))) else (some (r3 false))) else (some (r3 false)))) else (F3_l0 x0 l1 n3 0 0)))
noncomputable def T3_l0 (x0 : List UInt8) (x3 : List (List D)) (x5 : Int) (x6 : Int) (x7 : Int) : Option Res := (bif (decide (x7 < (List.length x3 : Int))) then (nth x3 x7 fun r12 => vRow_iisiiis r12 fun n5 n6 s7 n8 n9 n10 s11 => (bif ((List.length s7 : Int) == 0) then (some (r3 false)) else (bif (decide (n6 < x6)) then (some (r3 false)) else (bif (decide ((IntKind.wrap .i64 ((List.length x0 : Int) - (List.length s7 : Int))) < n6)) then (some (r3 false)) else (if (0 : Int) ≤ n6 ∧ n6 ≤ (IntKind.wrap .i64 (n6 + (List.length s7 : Int))) ∧ (IntKind.wrap .i64 (n6 + (List.length s7 : Int))) ≤ (List.length x0 : Int) then (bif (!((List.drop (Int.toNat n6) (List.take (Int.toNat (IntKind.wrap .i64 (n6 + (List.length s7 : Int)))) x0)) == s7)) then (some (r3 false)) else (vP8 (F8 x0 x6 n6) fun b13 => (bif (!b13) then (some (r3 false)) else (F3_l0 x0 x3 x5 (IntKind.wrap .i64 (n6 + (List.length s7 : Int))) (IntKind.wrap .i64 (x7 + 1)))))) else none))))) else (v7 (F7) fun b14 => (bif b14 then (v8 (F8 x0 x6 (List.length x0 : Int)) fun b15 => (bif b15 then (some (r3 (x5 == 0))) else (some (r3 false)))) else (some (r3 false)))))
theorem F3_t (x0 : List UInt8) : execFV V3 (CI env) (LI env) f3 [(.d (.s x0))] [] = T3 x0 := by kernel_rfl
theorem F3_of (x0 : List UInt8) {r : Res} (h : T3 x0 = some r) : F3 x0 = some r := CI_V (V := V3) (g := f3) rfl ((F3_t x0).trans h)
theorem F3_l0_t (x0 : List UInt8) (x3 : List (List D)) (x5 : Int) (x6 : Int) (x7 : Int) : execV V3 (CI env) (LI env) f3_l0.body { tm := [(0, (.d (.s x0))), (3, (.d (.sl 7 x3))), (5, (.d (.i .i64 x5))), (6, (.d (.i .i64 x6))), (7, (.d (.i .i64 x7)))], ob := [], ou := [] } (rndV (LI env) [0, 3, 5, 6, 7] f3_l0.body (blockK 0 (seqV V3 (CI env) (LI env) f3_r15 (finK f3)))) = T3_l0 x0 x3 x5 x6 x7 := by kernel_rfl
theorem F3_l0_of (x0 : List UInt8) (x3 : List (List D)) (x5 : Int) (x6 : Int) (x7 : Int) {r : Res} (h : T3_l0 x0 x3 x5 x6 x7 = some r) : F3_l0 x0 x3 x5 x6 x7 = some r := loop_V (V := V3) (ks := [0, 3, 5, 6, 7]) (a := f3_l0.body) (st := { tm := [(0, (.d (.s x0))), (3, (.d (.sl 7 x3))), (5, (.d (.i .i64 x5))), (6, (.d (.i .i64 x6))), (7, (.d (.i .i64 x7)))], ob := [], ou := [] }) (k := (blockK 0 (seqV V3 (CI env) (LI env) f3_r15 (finK f3)))) ((F3_l0_t x0 x3 x5 x6 x7).trans h)

/-! custos/custoslaw05.same -/
def V9 : Vw := []
noncomputable def T9 (x0_0 : Int) (x0_1 : Int) (x0_2 : List UInt8) (x0_3 : Int) (x0_4 : Int) (x0_5 : Int) (x0_6 : List UInt8) (x1_0 : Int) (x1_1 : Int) (x1_2 : List UInt8) (x1_3 : Int) (x1_4 : Int) (x1_5 : Int) (x1_6 : List UInt8) : Option Res := (bif (x0_3 == x1_3) then (bif (x0_4 == x1_4) then (bif (x0_5 == x1_5) then (bif (x0_0 == x1_0) then (bif (x0_1 == x1_1) then (bif (x0_2 == x1_2) then (some (r9 (x0_6 == x1_6))) else (some (r9 false))) else (some (r9 false))) else (some (r9 false))) else (bif (x0_0 == x1_0) then (bif (x0_1 == x1_1) then (bif (x0_2 == x1_2) then (some (r9 false)) else (some (r9 false))) else (some (r9 false))) else (some (r9 false)))) else (bif (x0_0 == x1_0) then (bif (x0_1 == x1_1) then (bif (x0_2 == x1_2) then (some (r9 false)) else (some (r9 false))) else (some (r9 false))) else (some (r9 false)))) else (bif (x0_0 == x1_0) then (bif (x0_1 == x1_1) then (bif (x0_2 == x1_2) then (some (r9 false)) else (some (r9 false))) else (some (r9 false))) else (some (r9 false))))
theorem F9_t (x0_0 : Int) (x0_1 : Int) (x0_2 : List UInt8) (x0_3 : Int) (x0_4 : Int) (x0_5 : Int) (x0_6 : List UInt8) (x1_0 : Int) (x1_1 : Int) (x1_2 : List UInt8) (x1_3 : Int) (x1_4 : Int) (x1_5 : Int) (x1_6 : List UInt8) : execFV V9 (CI env) (LI env) f9 [(.d (.ag [(.i .i64 x0_0), (.i .i64 x0_1), (.s x0_2), (.i .i64 x0_3), (.i .i64 x0_4), (.i .i64 x0_5), (.s x0_6)])), (.d (.ag [(.i .i64 x1_0), (.i .i64 x1_1), (.s x1_2), (.i .i64 x1_3), (.i .i64 x1_4), (.i .i64 x1_5), (.s x1_6)]))] [] = T9 x0_0 x0_1 x0_2 x0_3 x0_4 x0_5 x0_6 x1_0 x1_1 x1_2 x1_3 x1_4 x1_5 x1_6 := by kernel_rfl
theorem F9_of (x0_0 : Int) (x0_1 : Int) (x0_2 : List UInt8) (x0_3 : Int) (x0_4 : Int) (x0_5 : Int) (x0_6 : List UInt8) (x1_0 : Int) (x1_1 : Int) (x1_2 : List UInt8) (x1_3 : Int) (x1_4 : Int) (x1_5 : Int) (x1_6 : List UInt8) {r : Res} (h : T9 x0_0 x0_1 x0_2 x0_3 x0_4 x0_5 x0_6 x1_0 x1_1 x1_2 x1_3 x1_4 x1_5 x1_6 = some r) : F9 x0_0 x0_1 x0_2 x0_3 x0_4 x0_5 x0_6 x1_0 x1_1 x1_2 x1_3 x1_4 x1_5 x1_6 = some r := CI_V (V := V9) (g := f9) rfl ((F9_t x0_0 x0_1 x0_2 x0_3 x0_4 x0_5 x0_6 x1_0 x1_1 x1_2 x1_3 x1_4 x1_5 x1_6).trans h)

/-! custos/custoslaw05.LexAgain -/
def V4 : Vw := [(19, .tup [.d (.sl 7), .d (.i .i64), .d (.i .i64)]), (25, .d (.b)), (38, .ro [.i .i64]), (61, .ro [.i .i64, .i .i64, .s, .i .i64, .i .i64, .i .i64, .s]), (68, .tup [.d (.sl 7), .d (.i .i64), .d (.i .i64)]), (75, .d (.b)), (97, .ro [.i .i64, .i .i64, .s, .i .i64, .i .i64, .i .i64, .s]), (102, .ro [.i .i64, .i .i64, .s, .i .i64, .i .i64, .i .i64, .s]), (107, .ro [.i .i64, .i .i64, .s, .i .i64, .i .i64, .i .i64, .s]), (112, .ro [.i .i64, .i .i64, .s, .i .i64, .i .i64, .i .i64, .s]), (118, .ro [.i .i64, .i .i64, .s, .i .i64, .i .i64, .i .i64, .s]), (121, .d (.b)), (123, .d (.b))]
noncomputable def F4_l1 (x1 : List (List D)) (x5 : List (List D)) (x8 : List UInt8) (x9 : Int) : Option Res := (LI env f4_l1 none { tm := [(1, (.d (.sl 1 x1))), (5, (.d (.sl 7 x5))), (8, (.ownb x8)), (9, (.d (.i .i64 x9)))], ob := [], ou := [] }).bind (unK (blockK 0 (seqV V4 (CI env) (LI env) f4_r22 (finK f4))))
noncomputable def F4_l0 (x1 : List (List D)) (x5 : List (List D)) (x8 : List UInt8) (x9 : Int) (x10 : Int) (x11 : Int) : Option Res := (LI env f4_l0 none { tm := [(1, (.d (.sl 1 x1))), (5, (.d (.sl 7 x5))), (8, (.ownb x8)), (9, (.d (.i .i64 x9))), (10, (.d (.i .i64 x10))), (11, (.d (.i .i64 x11)))], ob := [], ou := [] }).bind (unK (blockK 2 (seqV V4 (CI env) (LI env) f4_r20 (blockK 1 (seqV V4 (CI env) (LI env) f4_r21 (rndV (LI env) [1, 5, 8, 9] f4_l1.body (blockK 0 (seqV V4 (CI env) (LI env) f4_r22 (finK f4)))))))))
noncomputable def F4_l2 (x5 : List (List D)) (x12 : List (List D)) (x15 : Int) : Option Res := (LI env f4_l2 none { tm := [(5, (.d (.sl 7 x5))), (12, (.d (.sl 7 x12))), (15, (.d (.i .i64 x15)))], ob := [], ou := [] }).bind (unK (blockK 4 (seqV V4 (CI env) (LI env) f4_r37 (finK f4))))
noncomputable def T4 (x0 : List UInt8) (x1 : List (List D)) : Option Res := (v6 (F6 x0) fun l1 n2 n3 => (bif (n2 != 0) then (v7 (F7) fun b4 => (some (r4 b4))) else (F4_l1 x1 l1 [] 0)))
noncomputable def T4_l1 (x1 : List (List D)) (x5 : List (List D)) (x8 : List UInt8) (x9 : Int) : Option Res := (bif (decide (x9 < (List.length x5 : Int))) then (bif (decide (x9 < (List.length x1 : Int))) then (nth x1 x9 fun r6 => vRow_i r6 fun n5 => (if 3 = 0 then none else (if 3 = 0 then none else (F4_l0 x1 x5 x8 x9 (IntKind.wrap .i64 (1 + (Int.tmod (IntKind.wrap .i64 ((Int.tmod n5 3) + 3)) 3))) 0)))) else (F4_l0 x1 x5 x8 x9 1 0)) else (v6 (F6 x8) fun l7 n8 n9 => (bif (decide (16384 < (List.length x8 : Int))) then (v7 (F7) fun b10 => (bif b10 then (some (r4 (n8 == 2))) else (some (r4 false)))) else (bif (n8 != 0) then (some (r4 false)) else (bif ((List.length l7 : Int) != (List.length x5 : Int)) then (some (r4 false)) else (F4_l2 x5 l7 0))))))
noncomputable def T4_l0 (x1 : List (List D)) (x5 : List (List D)) (x8 : List UInt8) (x9 : Int) (x10 : Int) (x11 : Int) : Option Res := (bif (decide (x11 < x10)) then (if 2 = 0 then none else (bif ((Int.tmod x11 2) == 0) then (if List.length x8 + List.length [32] ≤ 140737488355328 then (F4_l0 x1 x5 (x8 ++ [32]) x9 x10 (IntKind.wrap .i64 (x11 + 1))) else none) else (if List.length x8 + List.length [10] ≤ 140737488355328 then (F4_l0 x1 x5 (x8 ++ [10]) x9 x10 (IntKind.wrap .i64 (x11 + 1))) else none))) else (nth x5 x9 fun r18 => vRow_iisiiis r18 fun n11 n12 s13 n14 n15 n16 s17 => (if List.length x8 + List.length s13 ≤ 140737488355328 then (F4_l1 x1 x5 (x8 ++ s13) (IntKind.wrap .i64 (x9 + 1))) else none)))
noncomputable def T4_l2 (x5 : List (List D)) (x12 : List (List D)) (x15 : Int) : Option Res := (bif (decide (x15 < (List.length x5 : Int))) then (nth x5 x15 fun r26 => vRow_iisiiis r26 fun n19 n20 s21 n22 n23 n24 s25 => (nth x12 x15 fun r34 => vRow_iisiiis r34 fun n27 n28 s29 n30 n31 n32 s33 => (nth x5 x15 fun r42 => vRow_iisiiis r42 fun n35 n36 s37 n38 n39 n40 s41 => (nth x5 x15 fun r50 => vRow_iisiiis r50 fun n43 n44 s45 n46 n47 n48 s49 => (nth x12 x15 fun r58 => vRow_iisiiis r58 fun n51 n52 s53 n54 n55 n56 s57 => (vP9 (F9 n51 n52 s53 n54 n55 n56 s57 n19 n28 s37 n46 n47 n48 s49) fun b59 => (bif (!b59) then (some (r4 false)) else (F4_l2 x5 x12 (IntKind.wrap .i64 (x15 + 1)))))))))) else (v7 (F7) fun b60 => (some (r4 b60))))
theorem F4_t (x0 : List UInt8) (x1 : List (List D)) : execFV V4 (CI env) (LI env) f4 [(.d (.s x0)), (.d (.sl 1 x1))] [] = T4 x0 x1 := by kernel_rfl
theorem F4_of (x0 : List UInt8) (x1 : List (List D)) {r : Res} (h : T4 x0 x1 = some r) : F4 x0 x1 = some r := CI_V (V := V4) (g := f4) rfl ((F4_t x0 x1).trans h)
theorem F4_l1_t (x1 : List (List D)) (x5 : List (List D)) (x8 : List UInt8) (x9 : Int) : execV V4 (CI env) (LI env) f4_l1.body { tm := [(1, (.d (.sl 1 x1))), (5, (.d (.sl 7 x5))), (8, (.ownb x8)), (9, (.d (.i .i64 x9)))], ob := [], ou := [] } (rndV (LI env) [1, 5, 8, 9] f4_l1.body (blockK 0 (seqV V4 (CI env) (LI env) f4_r22 (finK f4)))) = T4_l1 x1 x5 x8 x9 := by kernel_rfl
theorem F4_l1_of (x1 : List (List D)) (x5 : List (List D)) (x8 : List UInt8) (x9 : Int) {r : Res} (h : T4_l1 x1 x5 x8 x9 = some r) : F4_l1 x1 x5 x8 x9 = some r := loop_V (V := V4) (ks := [1, 5, 8, 9]) (a := f4_l1.body) (st := { tm := [(1, (.d (.sl 1 x1))), (5, (.d (.sl 7 x5))), (8, (.ownb x8)), (9, (.d (.i .i64 x9)))], ob := [], ou := [] }) (k := (blockK 0 (seqV V4 (CI env) (LI env) f4_r22 (finK f4)))) ((F4_l1_t x1 x5 x8 x9).trans h)
theorem F4_l0_t (x1 : List (List D)) (x5 : List (List D)) (x8 : List UInt8) (x9 : Int) (x10 : Int) (x11 : Int) : execV V4 (CI env) (LI env) f4_l0.body { tm := [(1, (.d (.sl 1 x1))), (5, (.d (.sl 7 x5))), (8, (.ownb x8)), (9, (.d (.i .i64 x9))), (10, (.d (.i .i64 x10))), (11, (.d (.i .i64 x11)))], ob := [], ou := [] } (rndV (LI env) [1, 5, 8, 9, 10, 11] f4_l0.body (blockK 2 (seqV V4 (CI env) (LI env) f4_r20 (blockK 1 (seqV V4 (CI env) (LI env) f4_r21 (rndV (LI env) [1, 5, 8, 9] f4_l1.body (blockK 0 (seqV V4 (CI env) (LI env) f4_r22 (finK f4))))))))) = T4_l0 x1 x5 x8 x9 x10 x11 := by kernel_rfl
theorem F4_l0_of (x1 : List (List D)) (x5 : List (List D)) (x8 : List UInt8) (x9 : Int) (x10 : Int) (x11 : Int) {r : Res} (h : T4_l0 x1 x5 x8 x9 x10 x11 = some r) : F4_l0 x1 x5 x8 x9 x10 x11 = some r := loop_V (V := V4) (ks := [1, 5, 8, 9, 10, 11]) (a := f4_l0.body) (st := { tm := [(1, (.d (.sl 1 x1))), (5, (.d (.sl 7 x5))), (8, (.ownb x8)), (9, (.d (.i .i64 x9))), (10, (.d (.i .i64 x10))), (11, (.d (.i .i64 x11)))], ob := [], ou := [] }) (k := (blockK 2 (seqV V4 (CI env) (LI env) f4_r20 (blockK 1 (seqV V4 (CI env) (LI env) f4_r21 (rndV (LI env) [1, 5, 8, 9] f4_l1.body (blockK 0 (seqV V4 (CI env) (LI env) f4_r22 (finK f4))))))))) ((F4_l0_t x1 x5 x8 x9 x10 x11).trans h)
theorem F4_l2_t (x5 : List (List D)) (x12 : List (List D)) (x15 : Int) : execV V4 (CI env) (LI env) f4_l2.body { tm := [(5, (.d (.sl 7 x5))), (12, (.d (.sl 7 x12))), (15, (.d (.i .i64 x15)))], ob := [], ou := [] } (rndV (LI env) [5, 12, 15] f4_l2.body (blockK 4 (seqV V4 (CI env) (LI env) f4_r37 (finK f4)))) = T4_l2 x5 x12 x15 := by kernel_rfl
theorem F4_l2_of (x5 : List (List D)) (x12 : List (List D)) (x15 : Int) {r : Res} (h : T4_l2 x5 x12 x15 = some r) : F4_l2 x5 x12 x15 = some r := loop_V (V := V4) (ks := [5, 12, 15]) (a := f4_l2.body) (st := { tm := [(5, (.d (.sl 7 x5))), (12, (.d (.sl 7 x12))), (15, (.d (.i .i64 x15)))], ob := [], ou := [] }) (k := (blockK 4 (seqV V4 (CI env) (LI env) f4_r37 (finK f4)))) ((F4_l2_t x5 x12 x15).trans h)

/-! custos/custoslaw05.LexAhead -/
def V5 : Vw := [(14, .tup [.d (.sl 7), .d (.i .i64), .d (.i .i64)]), (30, .d (.b)), (39, .tup [.d (.sl 7), .d (.i .i64), .d (.i .i64)]), (47, .tup [.d (.sl 7), .d (.i .i64), .d (.i .i64)]), (51, .d (.b))]
noncomputable def T5 (x0 : List UInt8) : Option Res := (v6 (F6 x0) fun l1 n2 n3 => (bif (n2 != 50) then (v7 (F7) fun b4 => (bif b4 then (some (r5 (n2 != 50))) else (some (r5 false)))) else (bif (decide (n3 < 0)) then (v7 (F7) fun b5 => (bif b5 then (some (r5 (n2 != 50))) else (some (r5 false)))) else (bif (decide ((List.length x0 : Int) ≤ n3)) then (v7 (F7) fun b6 => (bif b6 then (some (r5 (n2 != 50))) else (some (r5 false)))) else (if (0 : Int) ≤ n3 ∧ n3 ≤ (List.length x0 : Int) then (v6 (F6 (List.take (Int.toNat n3) x0)) fun l7 n8 n9 => (if (0 : Int) ≤ n3 ∧ n3 ≤ (List.length x0 : Int) then (v6 (F6 (List.drop (Int.toNat n3) x0)) fun l10 n11 n12 => (v7 (F7) fun b13 => (bif b13 then (bif (n8 == 0) then (bif (n11 == 50) then (some (r5 (n12 == 0))) else (some (r5 false))) else (some (r5 false))) else (some (r5 false))))) else none)) else none)))))
theorem F5_t (x0 : List UInt8) : execFV V5 (CI env) (LI env) f5 [(.d (.s x0))] [] = T5 x0 := by kernel_rfl
theorem F5_of (x0 : List UInt8) {r : Res} (h : T5 x0 = some r) : F5 x0 = some r := CI_V (V := V5) (g := f5) rfl ((F5_t x0).trans h)
end Go.Eng.L05
