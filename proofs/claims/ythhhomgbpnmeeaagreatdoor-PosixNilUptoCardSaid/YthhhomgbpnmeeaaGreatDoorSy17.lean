/- A library for walks that a program prints: kinds of data, what a call owns, one lemma for each operation. No conditions. -/
import Derived.Test.YthhhomgbpnmeeaaGreatDoorSy16
import Derived.Scope
set_option linter.all false
namespace Go.Sy
open Go
section
variable {P : Program} {w w' : World} {c : Cx} {G : Gh} {Δ : List Own} {ops : Array Oper} {Q : Exit → Act → World → Prop} {rest : List Oper} {n : Nat} {a : Act} {l : List (Nat × Value)} {d : Nat} {ty : TypeId} {pos : String} {af : Array Edge}
def farith (op : BinOp) (x y : Nat) : Option Nat :=
  match op with
  | .add => FloatKind.f64.format.add x y
  | .sub => FloatKind.f64.format.sub x y
  | .mul => FloatKind.f64.format.mul x y
  | .quo => FloatKind.f64.format.div x y
  | _ => none
theorem binFA {op : BinOp} {xt yt : TypeId} {x y : Operand} {p q : Nat} (r : Nat) (K : Tm n a l) (hx : ev l x = some (.float .f64 p)) (hy : ev l y = some (.float .f64 q)) (hr : farith op p q = some r)
    (k : ∀ a, Tm n a ((d, .float .f64 r) :: l) → wpList P ops Q rest a w) (hd : Nat.blt d n = true := by rfl) :
    wpList P ops Q (⟨some d, .binOp op xt x y yt, ty, pos, af, none⟩ :: rest) a w := by
  refine bin K hx hy rfl (by simp) (r := .float .f64 r) ?_ k hd
  cases op <;> simp only [farith, reduceCtorEq] at hr <;> simp [binOp, Op.floatArith, hr]
theorem cvtIF {src dst : TypeId} {x : Operand} {kd : IntKind} {p : Int} (K : Tm n a l) (hx : ev l x = some (.int kd p)) (hs : ∃ s, P.underlying src = some s) (ht : P.underlying dst = some (.float .f64))
    (k : ∀ a, Tm n a ((d, .float .f64 (FloatKind.f64.nearest p)) :: l) → wpList P ops Q rest a w) (hd : Nat.blt d n = true := by rfl) :
    wpList P ops Q (⟨some d, .convert src dst x, ty, pos, af, none⟩ :: rest) a w := by
  obtain ⟨s, hs⟩ := hs
  refine cvt K hx (v := .float .f64 (FloatKind.f64.nearest p)) ?_ k hd
  simp only [convert, underlying, Sem.run_bind, run_program, Result.andThen_ok, hs, ht, Sem.run_pure, Conv.intToFloat]
theorem zero_cells {v : Value} {m : Nat} (hz : 0 < v.cells.size) : (Builtin.zeroCells v.cells m).toList = (List.replicate m v.cells.toList).flatten := by
  have := range_mod (zs := v.cells.toList) (m := m) (by simpa using hz)
  simp only [Builtin.zeroCells]
  simpa using this
end
end Go.Sy
