/- The logic of the walks, part J: how the program's own types lie in cells. Conditions: none; nothing of a program's text stands here. -/
import Derived.Test.YtkpmcldbcljkfaaRtI
import Derived.Test.YtkpmcldbcljkfaaPlB
set_option linter.unusedVariables false
set_option linter.unusedSimpArgs false
namespace Go.Rt
open Go Go.RowKit

/-- An integer: a sign and the digits of its absolute value. -/
structure Z where
  neg : Bool
  abs : List Nat
def zT (z : Z) : List Ty := [tIs (.bool z.neg), tSl encD z.abs]
abbrev encI : Enc Z := encF 2 zT

/-- The number of a sign and the digits of an absolute value. -/
def mkZ (n : Bool) (ds : List Nat) : Z := ⟨n && decide (0 < ds.length), ds⟩
def zval (z : Z) : Int := if z.neg then - (val z.abs : Int) else (val z.abs : Int)
/-- The canonical form of an integer. -/
def ofI (n : Int) : Z := ⟨decide (n < 0), dig n.natAbs⟩

/-- The exponents of a monomial. -/
structure Mo where
  a : Int
  b : Int
  c : Int
  d : Int
def moT (m : Mo) : List Ty := [tIs (.int .i64 m.a), tIs (.int .i64 m.b), tIs (.int .i64 m.c), tIs (.int .i64 m.d)]
abbrev encMo : Enc Mo := encF 4 moT

structure Tm where
  coef : Z
  exp : Mo
def tmT (t : Tm) : List Ty := [tIs (.bool t.coef.neg), tSl encD t.coef.abs, tIs (.int .i64 t.exp.a), tIs (.int .i64 t.exp.b), tIs (.int .i64 t.exp.c), tIs (.int .i64 t.exp.d)]
abbrev encTm : Enc Tm := encF 6 tmT

/-- A polynomial in recursive form. -/
inductive Pol where
  | mk (lv : Int) (c : Z) (cs : List Pol)
def Pol.lv : Pol → Int | .mk l _ _ => l
def Pol.c : Pol → Z | .mk _ c _ => c
def Pol.cs : Pol → List Pol | .mk _ _ cs => cs
mutual
def polT : Pol → List Ty
  | .mk l c cs => [tIs (.int .i64 l), tIs (.bool c.neg), tSl encD c.abs, tSl (encL 4) (polsT cs)]
def polsT : List Pol → List (List Ty)
  | [] => []
  | p :: ps => polT p :: polsT ps
end
abbrev encP : Enc Pol := encF 4 polT
theorem polsT_eq : ∀ ps : List Pol, polsT ps = ps.map polT
  | [] => by simp [polsT]
  | p :: ps => by simp [polsT, polsT_eq ps]
theorem polT_eq (p : Pol) : polT p = [tIs (.int .i64 p.lv), tIs (.bool p.c.neg), tSl encD p.c.abs, tSl encP p.cs] := by
  cases p with
  | mk l c cs => rw [polT, polsT_eq, tSl_map]; rfl

/-- A formula without quantifiers. -/
inductive Mx where
  | mk (kind rel : Int) (poly : Pol) (kids : List Mx)
def Mx.kind : Mx → Int | .mk k _ _ _ => k
def Mx.rel : Mx → Int | .mk _ r _ _ => r
def Mx.poly : Mx → Pol | .mk _ _ p _ => p
def Mx.kids : Mx → List Mx | .mk _ _ _ ks => ks
mutual
def mxT : Mx → List Ty
  | .mk k r p ks => [tIs (.int .i64 k), tIs (.int .i64 r), tIs (.int .i64 p.lv), tIs (.bool p.c.neg), tSl encD p.c.abs, tSl encP p.cs, tSl (encL 7) (mxsT ks)]
def mxsT : List Mx → List (List Ty)
  | [] => []
  | m :: ms => mxT m :: mxsT ms
end
abbrev encM : Enc Mx := encF 7 mxT
theorem mxsT_eq : ∀ ms : List Mx, mxsT ms = ms.map mxT
  | [] => by simp [mxsT]
  | m :: ms => by simp [mxsT, mxsT_eq ms]
theorem mxT_eq (m : Mx) : mxT m = [tIs (.int .i64 m.kind), tIs (.int .i64 m.rel), tIs (.int .i64 m.poly.lv), tIs (.bool m.poly.c.neg), tSl encD m.poly.c.abs, tSl encP m.poly.cs, tSl encM m.kids] := by
  cases m with
  | mk k r p ks => rw [mxT, mxsT_eq, tSl_map]; rfl

/-- A slice as one cell. -/
def encSl {α : Type} (E : Enc α) : Enc (List α) where
  sz := 1
  ag := false
  C xs cs s := ∃ v, cs = [v] ∧ slP E xs v s
  up hl := fun ⟨v, h1, h2⟩ => ⟨v, h1, slP.up hl h2⟩
  len := fun ⟨v, h1, _⟩ => by rw [h1]; rfl
  one := fun ⟨v, h1, h2⟩ => by
    subst h1
    obtain ⟨A, n, c, rfl, _⟩ := h2
    intro u hu
    simp at hu; subst hu; rfl

end Go.Rt
