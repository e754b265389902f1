/- A library for walks that a program prints: kinds of data, what a call owns, one lemma for each operation. No conditions. -/
import Derived.Test.YthhhomgbpnmeeaaGreatDoorSy21
import Derived.Laws.StructEq
import Derived.ChangeKeysEq
set_option linter.all false
namespace Go.Sy
open Go
def EqK {α} (P : Program) (k : Kd α) (t : TypeId) (eq : α → α → Bool) (d0 : Nat) : Prop :=
  ∀ (G : Gh) (w : World) (u v : Value) (x y : α) (d : Nat), d0 ≤ d → k.val G u x → k.val G v y → (Op.equalIn d t u v).run P w = .ok (eq x y) w
theorem EqK.up {α} {P : Program} {k : Kd α} {t : TypeId} {eq : α → α → Bool} {d d' : Nat} (h : EqK P k t eq d) (hd : d ≤ d') : EqK P k t eq d' := fun G w u v x y e he => h G w u v x y e (Nat.le_trans hd he)
def fEq (x y : Nat) : Bool := Op.floatEq .f64 x y
theorem eqInt {P : Program} {t : TypeId} {ik : IntKind} (h : P.underlying t = some (.int ik)) : EqK P (kInt ik) t (fun x y => x == y) 1 := by
  intro G w u v x y d hd hu hv
  obtain ⟨d, rfl⟩ : ∃ e, d = e + 1 := ⟨d - 1, by omega⟩
  rw [kInt_val.1 hu, kInt_val.1 hv]
  exact run_equalIn_int w d t ik ik x y h
theorem eqF64 {P : Program} {t : TypeId} {fk : FloatKind} (h : P.underlying t = some (.float fk)) : EqK P kF64 t fEq 1 := by
  intro G w u v x y d hd hu hv
  obtain ⟨d, rfl⟩ : ∃ e, d = e + 1 := ⟨d - 1, by omega⟩
  rw [kF64_val.1 hu, kF64_val.1 hv]
  simp only [Op.equalIn, underlying, Sem.run_bind, run_program, Result.andThen_ok, h, Sem.run_pure]
  rfl
def eqFs (P : Program) (t : TypeId) : Option (List (Nat × TypeId)) :=
  match P.underlying t with
  | some (.struct fs) => if fs.toList.all (fun f => f.name != "_") && !P.stoodInHeld t then some (fs.toList.map fun f => (f.offset, f.type)) else none
  | _ => none
inductive EqF {α} (P : Program) (k : Kd α) (d0 : Nat) : List (Nat × TypeId) → (α → α → Bool) → Prop
  | nil : EqF P k d0 [] fun _ _ => true
  | cons {β} {f : Kd β} (F : Fld k f) {t : TypeId} {eq : β → β → Bool} {rest} {es : α → α → Bool} (hT : tyOf P t = some (f.n, f.ag)) (he : EqK P f t eq d0) (hr : EqF P k d0 rest es) : EqF P k d0 ((F.off, t) :: rest) fun x y => eq (F.get x) (F.get y) && es x y
theorem EqF.run {α} {P : Program} {k : Kd α} {d0 : Nat} {l : List (Nat × TypeId)} {eq : α → α → Bool} (h : EqF P k d0 l eq) : ∀ (fs : List Field) (G : Gh) (w : World) (xs ys : Array Value) (x y : α) (d : Nat), fs.map (fun f => (f.offset, f.type)) = l → fs.all (fun f => f.name != "_") = true → d0 ≤ d →
    k.rep G xs.toList x → k.rep G ys.toList y → (Op.eqFields d xs ys fs).run P w = .ok (eq x y) w := by
  induction h with
  | nil =>
    intro fs G w xs ys x y d hl _ _ _ _
    have : fs = [] := by simpa using hl
    subst this
    rfl
  | @cons β f F t eq rest es hT he hr ih =>
    intro fs G w xs ys x y d hl hn hd hx hy
    cases fs with
    | nil => simp at hl
    | cons g fs =>
      simp only [List.map_cons, List.cons.injEq, Prod.mk.injEq] at hl
      obtain ⟨⟨h1, h2⟩, h3⟩ := hl
      simp only [List.all_cons, Bool.and_eq_true, bne_iff_ne] at hn
      obtain ⟨u, hu, huv⟩ := run_part (P := P) (w := w) (cs := xs) (off := F.off) hT (F.hget hx)
      obtain ⟨v, hv, hvv⟩ := run_part (P := P) (w := w) (cs := ys) (off := F.off) hT (F.hget hy)
      have hee := he G w u v _ _ d hd huv hvv
      simp only [Op.eqFields]
      rw [if_pos hn.1]
      simp only [Sem.run_bind, h1, h2, hu, hv, hee, Result.andThen_ok]
      cases hb : eq (F.get x) (F.get y)
      · simp
      · simp only [Bool.not_true, Bool.false_eq_true, if_false, Bool.true_and]
        exact ih fs G w xs ys x y d h3 (by simpa using hn.2) hd hx hy
theorem eqStruct {α} {P : Program} {k : Kd α} {t : TypeId} {l : List (Nat × TypeId)} {eq : α → α → Bool} {d0 : Nat} (hk : k.ag = true) (hl : eqFs P t = some l) (h : EqF P k d0 l eq) : EqK P k t eq (d0 + 1) := by
  intro G w u v x y d hd hu hv
  obtain ⟨d, rfl⟩ : ∃ e, d = e + 1 := ⟨d - 1, by omega⟩
  obtain ⟨hu1, hu2⟩ := hu
  obtain ⟨hv1, hv2⟩ := hv
  rw [hk] at hu1 hv1
  simp only [if_true] at hu1 hv1
  obtain ⟨xs, rfl⟩ := hu1
  obtain ⟨ys, rfl⟩ := hv1
  unfold eqFs at hl
  split at hl
  · next fs hfs =>
    split at hl
    · next hc =>
      simp only [Bool.and_eq_true, Bool.not_eq_true'] at hc
      simp only [Option.some.injEq] at hl
      have hf : P.fieldsOf t = fs := by unfold Program.fieldsOf; rw [hfs]
      rw [run_equalIn_struct w d t xs ys (by rw [hf]; exact hfs) hc.2, hf]
      exact h.run fs.toList G w xs ys x y d hl hc.1 (by omega) hu2 hv2
    · cases hl
  · cases hl
def eqL {α} (eq : α → α → Bool) : List α → List α → Bool
  | [], _ => true
  | x :: xs, ys => match ys with
    | [] => false
    | y :: ys => eq x y && eqL eq xs ys
theorem eqArr {α} {P : Program} {f : Kd α} {t e : TypeId} {m : Nat} {hm : 0 < m} {eq : α → α → Bool} {d0 : Nat} (ht : arrOf P t = some (m, e)) (hT : tyOf P e = some (f.n, f.ag)) (he : EqK P f e eq d0) : EqK P (kArr m hm f) t (eqL eq) (d0 + 1) := by
  intro G w u v x y d hd hu hv
  obtain ⟨d, rfl⟩ : ∃ e, d = e + 1 := ⟨d - 1, by omega⟩
  obtain ⟨hu1, hx1, hx2, hx3⟩ := hu
  obtain ⟨hv1, hy1, hy2, hy3⟩ := hv
  have hu1' : ∃ cs, u = .agg cs := by simpa [kArr] using hu1
  have hv1' : ∃ cs, v = .agg cs := by simpa [kArr] using hv1
  obtain ⟨xs, rfl⟩ := hu1'
  obtain ⟨ys, rfl⟩ := hv1'
  obtain ⟨i, hi⟩ : ∃ i, P.info? e = some i := by
    unfold tyOf at hT
    cases h : P.info? e with
    | none => simp [h] at hT
    | some i => exact ⟨i, rfl⟩
  have hce : P.cellsOf e = f.n := by
    have h1 := run_sizeOf (w := w) hT
    have h2 := Go.run_sizeOf (P := P) w hi
    rw [h1] at h2
    simp only [Result.ok.injEq, and_true] at h2
    exact h2.symm
  rw [run_equalIn_array w d xs ys (arrOf_und ht) hi, hce]
  have key : ∀ (k q : Nat), q + k = m → (Op.eqItems d e f.n xs ys (List.range' q k)).run P w = .ok (eqL eq (x.drop q) (y.drop q)) w := by
    intro k
    induction k with
    | zero =>
      intro q hq
      have : x.drop q = [] := List.drop_eq_nil_of_le (by omega)
      rw [this]
      rfl
    | succ k ih =>
      intro q hq
      have hqx : q < x.length := by omega
      have hqy : q < y.length := by omega
      have gx := rows_get hx3 (i := q) (List.getElem?_eq_getElem hqx)
      have gy := rows_get hy3 (i := q) (List.getElem?_eq_getElem hqy)
      obtain ⟨a, ha, hav⟩ := run_part (P := P) (w := w) (cs := xs) (off := q * f.n) hT gx
      obtain ⟨b, hb, hbv⟩ := run_part (P := P) (w := w) (cs := ys) (off := q * f.n) hT gy
      have hee := he G w a b _ _ d (by omega) hav hbv
      rw [List.range'_succ]
      simp only [Op.eqItems, Sem.run_bind, ha, hb, hee, Result.andThen_ok]
      rw [List.drop_eq_getElem_cons hqx, List.drop_eq_getElem_cons hqy]
      simp only [eqL]
      cases hc : eq x[q] y[q]
      · simp
      · simp only [Bool.not_true, Bool.false_eq_true, if_false, Bool.true_and]
        exact ih (q + 1) (by omega)
  have := key m 0 (by omega)
  rw [← List.range_eq_range', List.drop_zero, List.drop_zero] at this
  exact this
section
variable {P : Program} {w w' : World} {c : Cx} {G : Gh} {Δ : List Own} {ops : Array Oper} {Q : Exit → Act → World → Prop} {rest : List Oper} {n : Nat} {a : Act} {l : List (Nat × Value)} {d : Nat} {ty : TypeId} {pos : String} {af : Array Edge}
theorem binEq {α} {k : Kd α} {op : BinOp} {xt yt : TypeId} {x y : Operand} {u v : Value} {p q : α} {eq : α → α → Bool} {d0 : Nat} (r : Bool) (K : Tm n a l) (hx : ev l x = some u) (hy : ev l y = some v) (hk : k.ag = true) (hu : k.val G u p) (hv : k.val G v q) (he : EqK P k xt eq d0) (hd0 : d0 ≤ 10000) (hg : P.eqGuardType P.depth xt = false)
    (hr : eqop op (eq p q) = some r) (kk : ∀ a, Tm n a ((d, .bool r) :: l) → wpList P ops Q rest a w) (hd : Nat.blt d n = true := by rfl) :
    wpList P ops Q (⟨some d, .binOp op xt x y yt, ty, pos, af, none⟩ :: rest) a w := by
  have hu1 := hu.1
  have hv1 := hv.1
  rw [hk] at hu1 hv1
  simp only [if_true] at hu1 hv1
  obtain ⟨xs, rfl⟩ := hu1
  obtain ⟨ys, rfl⟩ := hv1
  have hrun := he G w _ _ p q 10000 hd0 hu hv
  have hgd : (eqGuard op xt x y (.agg xs) (.agg ys)).run P w = .ok () w := run_eqGuard_agg w op xt x y xs ys hg
  have hres : (binOp op xt (.agg xs) (.agg ys)).run P w = .ok (.bool r) w := by
    cases op <;> simp only [eqop, Option.some.injEq, reduceCtorEq] at hr
    · subst hr
      rw [run_eql_struct w xt xs ys, hrun]; rfl
    · subst hr
      simp only [binOp, Sem.run_bind]
      rw [show Op.equal xt (.agg xs) (.agg ys) = Op.equalIn 10000 xt (.agg xs) (.agg ys) from rfl, hrun]; rfl
  exact op_val rfl (show _ = Result.ok (Next.value (.bool r)) w by simp only [execOp, K.eval hx, K.eval hy, Sem.run_bind, hgd, Result.andThen_ok, hres]; rfl) rfl (kk _ (K.put hd))
end
end Go.Sy
