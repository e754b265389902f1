/- A library for walks that a program prints: kinds of data, what a call owns, one lemma for each operation. No conditions. -/
import Derived.Test.YthhhomgbpnmeeaaGreatDoorSy2
import Derived.Laws.Cells
set_option linter.all false
namespace Go.Sy
open Go
def lk : List (Nat × Value) → Nat → Option Value
  | [], _ => none
  | (t, v) :: l, s => bif Nat.beq t s then some v else lk l s
def ev (l : List (Nat × Value)) : Operand → Option Value
  | .tmp t => lk l t
  | .const v => some v
  | .global g => some (.pointer (some ⟨g, 0, none⟩))
  | .func f => some (.func (.func f) #[] #[])
structure Tm (n : Nat) (a : Act) (l : List (Nat × Value)) : Prop where
  size : a.tmps.size = n
  get : ∀ t v, lk l t = some v → a.tmps[t]? = some v
  df : a.defers = []
theorem Tm.eval {n a l x v} (K : Tm n a l) (h : ev l x = some v) : a.eval x = v := by
  cases x with
  | tmp t =>
    have := K.get t v h
    simp only [Act.eval, Array.getD_eq_getD_getElem?, this, Option.getD_some]
  | const c => simp only [ev, Option.some.injEq] at h; exact h
  | global g => simp only [ev, Option.some.injEq] at h; exact h
  | func f => simp only [ev, Option.some.injEq] at h; exact h
theorem Tm.put {n a l d v} (K : Tm n a l) (hd : Nat.blt d n = true) : Tm n (a.put (some d) v) ((d, v) :: l) where
  size := by simpa [Act.put] using K.size
  get t u h := by
    have hd' : d < n := by simpa using hd
    have hs := K.size
    simp only [lk] at h
    simp only [Act.put, Array.getElem?_setIfInBounds]
    by_cases e : Nat.beq d t = true
    · have e' : d = t := Nat.eq_of_beq_eq_true e
      rw [e] at h; simp only [cond_true, Option.some.injEq] at h
      rw [if_pos e', if_pos (by omega), h]
    · have e' : d ≠ t := by rintro rfl; simp at e
      rw [if_neg e']
      have : Nat.beq d t = false := by rcases hb : Nat.beq _ _ with _ | _; rfl; exact absurd hb e
      rw [this] at h
      exact K.get t u (by simpa using h)
  df := by simpa [Act.put] using K.df
theorem Tm.keep {n a l} (K : Tm n a l) (l' : List (Nat × Value)) (h : ∀ p ∈ l', lk l p.1 = some p.2) : Tm n a l' where
  size := K.size
  get t v ht := by
    have key : ∀ (m : List (Nat × Value)), (∀ p ∈ m, lk l p.1 = some p.2) → lk m t = some v → lk l t = some v := by
      intro m
      induction m with
      | nil => intro _ h; simp [lk] at h
      | cons p m ih =>
        intro hm hl
        obtain ⟨pt, pv⟩ := p
        simp only [lk] at hl
        by_cases e : Nat.beq pt t = true
        · rw [e] at hl; simp only [cond_true, Option.some.injEq] at hl
          have := hm (pt, pv) (by simp)
          simp only at this
          rw [Nat.eq_of_beq_eq_true e, hl] at this; exact this
        · have : Nat.beq pt t = false := by rcases hb : Nat.beq _ _ with _ | _; rfl; exact absurd hb e
          rw [this] at hl
          exact ih (fun q hq => hm q (List.mem_cons_of_mem _ hq)) (by simpa using hl)
    exact K.get t v (key l' h ht)
  df := K.df
def sub (l : List (Nat × Value)) : List (Nat × Value) → Prop
  | [] => True
  | p :: m => lk l p.1 = some p.2 ∧ sub l m
theorem Tm.sub {n a l} (K : Tm n a l) {l' : List (Nat × Value)} (h : sub l l') : Tm n a l' := by
  refine K.keep l' ?_
  induction l' with
  | nil => simp
  | cons p m ih =>
    intro q hq
    rcases List.mem_cons.1 hq with rfl | hq
    · exact h.1
    · exact ih h.2 q hq
def args0 : Nat → List Value → List (Nat × Value)
  | _, [] => []
  | i, v :: vs => (i, v) :: args0 (i + 1) vs
theorem lk_args0 : ∀ (vs : List Value) (i t : Nat) (v : Value), lk (args0 i vs) t = some v → ∃ j, t = i + j ∧ vs[j]? = some v
  | [], _, _, _, h => by simp [args0, lk] at h
  | u :: vs, i, t, v, h => by
    simp only [args0, lk] at h
    by_cases e : Nat.beq i t = true
    · rw [e] at h; simp only [cond_true, Option.some.injEq] at h
      exact ⟨0, by rw [Nat.eq_of_beq_eq_true e]; rfl, by simpa using h⟩
    · have : Nat.beq i t = false := by rcases hb : Nat.beq _ _ with _ | _; rfl; exact absurd hb e
      rw [this] at h
      obtain ⟨j, h1, h2⟩ := lk_args0 vs (i + 1) t v (by simpa using h)
      exact ⟨j + 1, by omega, by simpa using h2⟩
theorem Tm.init {n : Nat} {vs : List Value} (h : Nat.ble vs.length n = true) :
    Tm n { tmps := vs.toArray ++ Array.replicate (n - vs.toArray.size) undef, defers := [] } (args0 0 vs) where
  size := by have : vs.length ≤ n := by simpa using h
             simp; omega
  get t v ht := by
    obtain ⟨j, h1, h2⟩ := lk_args0 vs 0 t v ht
    have hj := (List.getElem?_eq_some_iff.1 h2).1
    have : t = j := by omega
    subst this
    rw [Array.getElem?_append_left (by simpa using hj)]
    simpa using h2
  df := rfl
section
variable {P : Program} {ops : Array Oper} {Q : Exit → Act → World → Prop} {rest : List Oper} {n : Nat} {a : Act} {w w' : World} {l : List (Nat × Value)} {d : Nat} {ty : TypeId} {pos : String} {af : Array Edge}
theorem op_val {o : Oper} {v : Value} (hg : o.guard = none) (hrun : (execOp a.eval o).run P w = .ok (.value v) w') (hd : o.dst = some d)
    (k : wpList P ops Q rest (a.put (some d) v) w') : wpList P ops Q (o :: rest) a w := by
  unfold wpList
  rw [if_pos (by simp [Region.wanted, hg])]
  refine .inl ?_
  unfold Oper.wp
  rw [hrun, ← hd] at *
  exact k
theorem op_skip {o : Oper} (hg : o.guard = none) (hrun : (execOp a.eval o).run P w = .ok .skip w') (hd : o.dst = none)
    (k : wpList P ops Q rest a w') : wpList P ops Q (o :: rest) a w := by
  unfold wpList
  rw [if_pos (by simp [Region.wanted, hg])]
  refine .inl ?_
  unfold Oper.wp
  rw [hrun]
  unfold Oper.upon Act.put
  rw [hd]
  exact k
theorem op_enter {o : Oper} {f : FuncId} {args : Array Value} (hg : o.guard = none) (hrun : (execOp a.eval o).run P w = .ok (.enter f args) w') (hd : o.dst = some d)
    {R : Ending → World → Prop} (hc : Calls P f args w' R) (k : ∀ e w'', R e w'' → ∃ v, e = .returned v ∧ wpList P ops Q rest (a.put (some d) v) w'') : wpList P ops Q (o :: rest) a w := by
  unfold wpList
  rw [if_pos (by simp [Region.wanted, hg])]
  refine .inl ?_
  unfold Oper.wp
  rw [hrun]
  unfold Oper.upon
  refine hc.mono fun e w'' he => ?_
  obtain ⟨v, rfl, hk⟩ := k e w'' he
  rw [hd]; exact hk
theorem gd_yes {dst : Option Tmp} {op : Op} {j d' : Nat} {c : Bool} (K : Tm n a l) (hj : (ops[j]?).bind (·.dst) = some d') (hv : lk l d' = some (.bool c))
    (k : wpList P ops Q (⟨dst, op, ty, pos, af, none⟩ :: rest) a w) : wpList P ops Q (⟨dst, op, ty, pos, af, some (j, c)⟩ :: rest) a w := by
  unfold wpList at k ⊢
  have hy : yielded ops a.tmps j = some c := by
    simp only [yielded, hj, Option.bind_some, K.get _ _ hv]
  rw [if_pos (by simp [Region.wanted])] at k
  rw [if_pos (by simp [Region.wanted, hy])]
  exact k
theorem mv {x : Operand} {v : Value} (K : Tm n a l) (hx : ev l x = some v) (k : ∀ a, Tm n a ((d, v) :: l) → wpList P ops Q rest a w) (hd : Nat.blt d n = true := by rfl) :
    wpList P ops Q (⟨some d, .move x, ty, pos, af, none⟩ :: rest) a w :=
  op_val rfl (show _ = Result.ok (Next.value v) w by simp only [execOp, K.eval hx]; rfl) rfl (k _ (K.put hd))
theorem asg {x : Operand} {v : Value} (K : Tm n a l) (hx : ev l x = some v) (k : ∀ a, Tm n a ((d, v) :: l) → wpList P ops Q rest a w) (hd : Nat.blt d n = true := by rfl) :
    wpList P ops Q (⟨some d, .assign x, ty, pos, af, none⟩ :: rest) a w :=
  op_val rfl (show _ = Result.ok (Next.value v) w by simp only [execOp, K.eval hx]; rfl) rfl (k _ (K.put hd))
theorem pickT {c x y : Operand} {v : Value} (K : Tm n a l) (hc : ev l c = some (.bool true)) (hx : ev l x = some v) (k : ∀ a, Tm n a ((d, v) :: l) → wpList P ops Q rest a w) (hd : Nat.blt d n = true := by rfl) :
    wpList P ops Q (⟨some d, .pick c x y, ty, pos, af, none⟩ :: rest) a w :=
  op_val rfl (show _ = Result.ok (Next.value v) w by simp [execOp, K.eval hx, K.eval hc, asBool]) rfl (k _ (K.put hd))
theorem pickF {c x y : Operand} {v : Value} (K : Tm n a l) (hc : ev l c = some (.bool false)) (hy : ev l y = some v) (k : ∀ a, Tm n a ((d, v) :: l) → wpList P ops Q rest a w) (hd : Nat.blt d n = true := by rfl) :
    wpList P ops Q (⟨some d, .pick c x y, ty, pos, af, none⟩ :: rest) a w :=
  op_val rfl (show _ = Result.ok (Next.value v) w by simp [execOp, K.eval hy, K.eval hc, asBool]) rfl (k _ (K.put hd))
/-! ### numbers, bools, strings -/
theorem eqGuard_run {op : BinOp} {t : TypeId} {x y : Operand} {u v : Value} (h : plain u = true) (hn : u ≠ .nilIface) : (eqGuard op t x y u v).run P w = .ok () w := by
  unfold eqGuard
  cases op <;> cases u <;> simp_all [plain]
theorem bin {op : BinOp} {xt yt : TypeId} {x y : Operand} {u v r : Value} (K : Tm n a l) (hx : ev l x = some u) (hy : ev l y = some v) (hp : plain u = true) (hn : u ≠ .nilIface)
    (hr : (binOp op xt u v).run P w = .ok r w') (k : ∀ a, Tm n a ((d, r) :: l) → wpList P ops Q rest a w') (hd : Nat.blt d n = true := by rfl) :
    wpList P ops Q (⟨some d, .binOp op xt x y yt, ty, pos, af, none⟩ :: rest) a w :=
  op_val rfl (show _ = Result.ok (Next.value r) w' by simp only [execOp, K.eval hx, K.eval hy, Sem.run_bind, eqGuard_run hp hn, Result.andThen_ok, hr]; rfl) rfl (k _ (K.put hd))
def iop (op : BinOp) (k : IntKind) (x y : Int) : Option Int :=
  match op with
  | .add => some (k.wrap (x + y))
  | .sub => some (k.wrap (x - y))
  | .mul => some (k.wrap (x * y))
  | .and => some (k.wrap (BitVec.ofInt k.bits x &&& BitVec.ofInt k.bits y).toNat)
  | .or => some (k.wrap (BitVec.ofInt k.bits x ||| BitVec.ofInt k.bits y).toNat)
  | .xor => some (k.wrap (BitVec.ofInt k.bits x ^^^ BitVec.ofInt k.bits y).toNat)
  | .andNot => some (k.wrap (BitVec.ofInt k.bits x &&& ~~~ BitVec.ofInt k.bits y).toNat)
  | _ => none
def icmp (op : BinOp) (x y : Int) : Option Bool :=
  match op with
  | .eql => some (x == y)
  | .neq => some (x != y)
  | .lss => some (x < y)
  | .leq => some (x ≤ y)
  | .gtr => some (x > y)
  | .geq => some (x ≥ y)
  | _ => none
theorem binI {op : BinOp} {xt yt : TypeId} {x y : Operand} {kd : IntKind} {p q : Int} (r : Int) (K : Tm n a l) (hx : ev l x = some (.int kd p)) (hy : ev l y = some (.int kd q))
    (hr : iop op kd p q = some r) (k : ∀ a, Tm n a ((d, .int kd r) :: l) → wpList P ops Q rest a w) (hd : Nat.blt d n = true := by rfl) :
    wpList P ops Q (⟨some d, .binOp op xt x y yt, ty, pos, af, none⟩ :: rest) a w := by
  refine bin K hx hy rfl (by simp) (r := .int kd r) ?_ k hd
  cases op <;> simp only [iop, Option.some.injEq] at hr <;> first | (subst hr; simp [binOp, Op.intArith, Op.intBits]; done) | cases hr
theorem binC {op : BinOp} {xt yt : TypeId} {x y : Operand} {kd : IntKind} {p q : Int} (r : Bool) (K : Tm n a l) (hx : ev l x = some (.int kd p)) (hy : ev l y = some (.int kd q))
    (hr : icmp op p q = some r) (k : ∀ a, Tm n a ((d, .bool r) :: l) → wpList P ops Q rest a w) (hd : Nat.blt d n = true := by rfl) :
    wpList P ops Q (⟨some d, .binOp op xt x y yt, ty, pos, af, none⟩ :: rest) a w := by
  refine bin K hx hy rfl (by simp) (r := .bool r) ?_ k hd
  cases op <;> simp only [icmp, Option.some.injEq] at hr <;> first | (subst hr; simp [binOp, Op.intCmp]; done) | cases hr
theorem binDiv {xt yt : TypeId} {x y : Operand} {kd : IntKind} {p q : Int} (r : Int) (K : Tm n a l) (hx : ev l x = some (.int kd p)) (hy : ev l y = some (.int kd q)) (h0 : (q != 0) = true)
    (hr : kd.wrap (p.tdiv q) = r) (k : ∀ a, Tm n a ((d, .int kd r) :: l) → wpList P ops Q rest a w) (hd : Nat.blt d n = true := by rfl) :
    wpList P ops Q (⟨some d, .binOp .quo xt x y yt, ty, pos, af, none⟩ :: rest) a w := by
  have h0' : ¬ q = 0 := by simpa using h0
  refine bin K hx hy rfl (by simp) (r := .int kd r) ?_ k hd
  subst hr; simp [binOp, Op.intDiv, h0']
theorem binRem {xt yt : TypeId} {x y : Operand} {kd : IntKind} {p q : Int} (r : Int) (K : Tm n a l) (hx : ev l x = some (.int kd p)) (hy : ev l y = some (.int kd q)) (h0 : (q != 0) = true)
    (hr : p.tmod q = r) (k : ∀ a, Tm n a ((d, .int kd r) :: l) → wpList P ops Q rest a w) (hd : Nat.blt d n = true := by rfl) :
    wpList P ops Q (⟨some d, .binOp .rem xt x y yt, ty, pos, af, none⟩ :: rest) a w := by
  have h0' : ¬ q = 0 := by simpa using h0
  refine bin K hx hy rfl (by simp) (r := .int kd r) ?_ k hd
  subst hr; simp [binOp, Op.intDiv, h0']
def shr (k : IntKind) (x y : Int) : Int := x.fdiv (2 ^ (min y.toNat k.bits))
theorem binShr {xt yt : TypeId} {x y : Operand} {kd ke : IntKind} {p q : Int} (r : Int) (K : Tm n a l) (hx : ev l x = some (.int kd p)) (hy : ev l y = some (.int ke q)) (h0 : decide (0 ≤ q) = true)
    (hr : shr kd p q = r) (k : ∀ a, Tm n a ((d, .int kd r) :: l) → wpList P ops Q rest a w) (hd : Nat.blt d n = true := by rfl) :
    wpList P ops Q (⟨some d, .binOp .shr xt x y yt, ty, pos, af, none⟩ :: rest) a w := by
  have h0' : ¬ q < 0 := by simpa using h0
  refine bin K hx hy rfl (by simp) (r := .int kd r) ?_ k hd
  subst hr; simp [binOp, Op.shift, h0', shr]
/-! strings -/
def sEq (x y : ByteArray) : Bool := x.toList == y.toList
def sLt (x y : ByteArray) : Bool := Op.bytesLess x.toList y.toList
def scmp (op : BinOp) (x y : ByteArray) : Option Bool :=
  match op with
  | .eql => some (sEq x y)
  | .neq => some (!sEq x y)
  | .lss => some (sLt x y)
  | .leq => some (sLt x y || sEq x y)
  | .gtr => some (!(sLt x y || sEq x y))
  | .geq => some (!sLt x y)
  | _ => none
theorem binS {op : BinOp} {xt yt : TypeId} {x y : Operand} {p q : ByteArray} (r : Bool) (K : Tm n a l) (hx : ev l x = some (.string p)) (hy : ev l y = some (.string q))
    (hr : scmp op p q = some r) (k : ∀ a, Tm n a ((d, .bool r) :: l) → wpList P ops Q rest a w) (hd : Nat.blt d n = true := by rfl) :
    wpList P ops Q (⟨some d, .binOp op xt x y yt, ty, pos, af, none⟩ :: rest) a w := by
  refine bin K hx hy rfl (by simp) (r := .bool r) ?_ k hd
  cases op <;> simp only [scmp, Option.some.injEq] at hr <;> first | (subst hr; simp [binOp, Op.stringOp, sEq, sLt]; done) | cases hr
/-! floats -/
def fcmp (op : BinOp) (x y : Nat) : Option Bool :=
  let c := FloatKind.f64.format.order x y
  match op with
  | .eql => some (c == some .eq)
  | .neq => some (c != some .eq)
  | .lss => some (c == some .lt)
  | .leq => some (c == some .lt || c == some .eq)
  | .gtr => some (c == some .gt)
  | .geq => some (c == some .gt || c == some .eq)
  | _ => none
theorem binF {op : BinOp} {xt yt : TypeId} {x y : Operand} {p q : Nat} (r : Bool) (K : Tm n a l) (hx : ev l x = some (.float .f64 p)) (hy : ev l y = some (.float .f64 q))
    (hr : fcmp op p q = some r) (k : ∀ a, Tm n a ((d, .bool r) :: l) → wpList P ops Q rest a w) (hd : Nat.blt d n = true := by rfl) :
    wpList P ops Q (⟨some d, .binOp op xt x y yt, ty, pos, af, none⟩ :: rest) a w := by
  refine bin K hx hy rfl (by simp) (r := .bool r) ?_ k hd
  cases op <;> simp only [fcmp, Option.some.injEq] at hr <;> first | (subst hr; simp [binOp, Op.floatCmp]; done) | cases hr
theorem notB {xt : TypeId} {x : Operand} {p : Bool} (r : Bool) (K : Tm n a l) (hx : ev l x = some (.bool p)) (hr : (!p) = r) (k : ∀ a, Tm n a ((d, .bool r) :: l) → wpList P ops Q rest a w) (hd : Nat.blt d n = true := by rfl) :
    wpList P ops Q (⟨some d, .unOp .not xt x, ty, pos, af, none⟩ :: rest) a w :=
  op_val rfl (show _ = Result.ok (Next.value (.bool r)) w by simp [execOp, K.eval hx, Op.unary, hr]) rfl (k _ (K.put hd))
theorem negI {xt : TypeId} {x : Operand} {kd : IntKind} {p : Int} (r : Int) (K : Tm n a l) (hx : ev l x = some (.int kd p)) (hr : kd.wrap (0 - p) = r) (k : ∀ a, Tm n a ((d, .int kd r) :: l) → wpList P ops Q rest a w) (hd : Nat.blt d n = true := by rfl) :
    wpList P ops Q (⟨some d, .unOp .neg xt x, ty, pos, af, none⟩ :: rest) a w :=
  op_val rfl (show _ = Result.ok (Next.value (.int kd r)) w by subst hr; simp only [execOp, K.eval hx, Op.unary, Op.intArith]; rfl) rfl (k _ (K.put hd))
theorem cvt {src dst : TypeId} {x : Operand} {u v : Value} (K : Tm n a l) (hx : ev l x = some u) (hr : (convert src dst u).run P w = .ok v w') (k : ∀ a, Tm n a ((d, v) :: l) → wpList P ops Q rest a w') (hd : Nat.blt d n = true := by rfl) :
    wpList P ops Q (⟨some d, .convert src dst x, ty, pos, af, none⟩ :: rest) a w :=
  op_val rfl (show _ = Result.ok (Next.value v) w' by simp only [execOp, K.eval hx, Sem.run_bind, hr, Result.andThen_ok]; rfl) rfl (k _ (K.put hd))
theorem cvtI {src dst : TypeId} {x : Operand} {kd ke : IntKind} {p : Int} (r : Int) (K : Tm n a l) (hx : ev l x = some (.int kd p)) (hs : ∃ s, P.underlying src = some s) (ht : P.underlying dst = some (.int ke)) (hr : ke.wrap p = r)
    (k : ∀ a, Tm n a ((d, .int ke r) :: l) → wpList P ops Q rest a w) (hd : Nat.blt d n = true := by rfl) :
    wpList P ops Q (⟨some d, .convert src dst x, ty, pos, af, none⟩ :: rest) a w := by
  obtain ⟨s, hs⟩ := hs
  refine cvt K hx (v := .int ke r) ?_ k hd
  subst hr
  simp only [convert, underlying, Sem.run_bind, run_program, Result.andThen_ok, hs, ht, Sem.run_pure, Conv.intToInt]
theorem nilck {x : Operand} {p : Addr} (K : Tm n a l) (hx : ev l x = some (.pointer (some p))) (k : ∀ a, Tm n a ((d, .pointer (some p)) :: l) → wpList P ops Q rest a w) (hd : Nat.blt d n = true := by rfl) :
    wpList P ops Q (⟨some d, .nilCheck x, ty, pos, af, none⟩ :: rest) a w :=
  op_val rfl (show _ = Result.ok (Next.value (.pointer (some p))) w by simp only [execOp, K.eval hx]; rfl) rfl (k _ (K.put hd))
theorem extr {x : Operand} {i : Nat} {vs : Array Value} {v : Value} (K : Tm n a l) (hx : ev l x = some (.tuple vs)) (hi : vs[i]? = some v) (k : ∀ a, Tm n a ((d, v) :: l) → wpList P ops Q rest a w) (hd : Nat.blt d n = true := by rfl) :
    wpList P ops Q (⟨some d, .extract x i, ty, pos, af, none⟩ :: rest) a w :=
  op_val rfl (show _ = Result.ok (Next.value v) w by simp only [execOp, K.eval hx, Instr.extract, hi]; rfl) rfl (k _ (K.put hd))
theorem mkfn {fn : Fn} {fs cs : Array Operand} {us vs : Array Value} (K : Tm n a l) (hf : fs.map a.eval = us) (hc : cs.map a.eval = vs) (k : ∀ a, Tm n a ((d, .func fn us vs) :: l) → wpList P ops Q rest a w) (hd : Nat.blt d n = true := by rfl) :
    wpList P ops Q (⟨some d, .makeFunc fn fs cs, ty, pos, af, none⟩ :: rest) a w :=
  op_val rfl (show _ = Result.ok (Next.value (.func fn us vs)) w by simp only [execOp, Instr.makeFunc, hf, hc]; rfl) rfl (k _ (K.put hd))
end
end Go.Sy
