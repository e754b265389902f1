/- A library for walks that a program prints: kinds of data, what a call owns, one lemma for each operation. No conditions. -/
import Derived.Test.YthhhomgbpnmeeaaGreatDoorSy4
set_option linter.all false
namespace Go.Sy
open Go
def Fin (c : Cx) (R : Value → Gh → List Own → Prop) (e : Ending) (w : World) : Prop :=
  ∃ v G Δ, e = .returned v ∧ St c G w Δ ∧ R v G Δ
abbrev blocks (Δ : List Own) : List Nat := Δ.filterMap (·.b)
section
variable {P : Program} {w w' : World} {c : Cx} {G : Gh} {Δ : List Own}
theorem St.enter {Δ₁ Δ₂ : List Own} (h : St c G w (Δ₁ ++ Δ₂)) : St ⟨w, blocks Δ₁, G⟩ G w Δ₁ where
  sat := h.sat
  own e he := h.own e (List.mem_append_left _ he)
  nd := (h.sub (List.sublist_append_left Δ₁ Δ₂)).nd
  fr _ _ _ := rfl
  low e he b hb _ := List.mem_filterMap.2 ⟨e, he, hb⟩
  size := Nat.le_refl _
  gle := Gh.refl _
  gnew _ hb := .inl hb
  os := rfl
  tape := rfl
  output := rfl
theorem St.leave {Δ₁ Δ₂ Δ' : List Own} {H : Gh} (h : St c G w (Δ₁ ++ Δ₂)) (h' : St ⟨w, blocks Δ₁, G⟩ H w' Δ') : St c H w' (Δ' ++ Δ₂) := by
  have hnd := h.nd
  rw [List.filterMap_append, List.nodup_append] at hnd
  obtain ⟨nd1, nd2, nd3⟩ := hnd
  have lt2 : ∀ e ∈ Δ₂, ∀ b, e.b = some b → b < w.heap.size ∧ b ∉ blocks Δ₁ := fun e he b hb =>
    ⟨Own.lt (h.own e (List.mem_append_right _ he)) hb, fun hm => nd3 b hm b (List.mem_filterMap.2 ⟨e, he, hb⟩) rfl⟩
  have low1 : ∀ b ∈ blocks Δ₁, b < c.w0.heap.size → b ∈ c.S := by
    intro b hb hlt
    obtain ⟨e, he, hb'⟩ := List.mem_filterMap.1 hb
    exact h.low e (List.mem_append_left _ he) b hb' hlt
  refine ⟨h'.sat, ?_, ?_, ?_, ?_, Nat.le_trans h.size h'.size, Gh.trans h.gle h'.gle, ?_, h'.os.trans h.os, h'.tape.trans h.tape, h'.output.trans h.output⟩
  · intro e he
    rcases List.mem_append.1 he with he | he
    · exact h'.own e he
    · have hok := h.own e (List.mem_append_right _ he)
      refine Own.ok_mono (fun b hb => ?_) h'.gle (fun b hb => ?_) hok
      · obtain ⟨hlt, hns⟩ := lt2 e he b hb
        cases hH : H b with
        | none => rfl
        | some o =>
          rcases h'.gnew b (by rw [hH]; simp) with h1 | h1 | h1
          · exact absurd (hok.2.2 b hb).1 h1
          · have : w.heap.size ≤ b := h1; omega
          · exact absurd h1 hns
      · obtain ⟨hlt, hns⟩ := lt2 e he b hb
        exact h'.fr b hlt hns
  · rw [List.filterMap_append, List.nodup_append]
    refine ⟨h'.nd, nd2, ?_⟩
    rintro b hb1 b2 hb2 rfl
    obtain ⟨e1, he1, hb1'⟩ := List.mem_filterMap.1 hb1
    obtain ⟨e2, he2, hb2'⟩ := List.mem_filterMap.1 hb2
    obtain ⟨hlt, hns⟩ := lt2 e2 he2 b hb2'
    exact hns (h'.low e1 he1 b hb1' hlt)
  · intro b hb hs
    have hlt : b < w.heap.size := Nat.lt_of_lt_of_le hb h.size
    rw [h'.fr b hlt (fun hm => hs (low1 b hm hb))]
    exact h.fr b hb hs
  · intro e he b hb hlt
    rcases List.mem_append.1 he with he | he
    · exact low1 b (h'.low e he b hb (Nat.lt_of_lt_of_le hlt h.size)) hlt
    · exact h.low e (List.mem_append_right _ he) b hb hlt
  · intro b hb
    by_cases hlt : b < c.w0.heap.size
    · rcases h'.gnew b hb with h1 | h1 | h1
      · exact h.gnew b h1
      · have : w.heap.size ≤ b := h1
        have := h.size
        exact .inr (.inl (by omega))
      · exact .inr (.inr (low1 b h1 hlt))
    · exact .inr (.inl (by omega))
def callB (P : Program) (f : FuncId) : Bool :=
  match P.funcs[f]? with
  | some fn => !(fn.name == "runtime.NumGoroutine") && fn.body.isSome
  | none => false
theorem run_callFunc {f : FuncId} (h : callB P f = true) (args : Array Value) : (callFunc f args).run P w = .ok (.enter f args) w := by
  unfold callB at h
  cases hf : P.funcs[f]? with
  | none => simp [hf] at h
  | some fn =>
    simp only [hf, Bool.and_eq_true, Bool.not_eq_true'] at h
    obtain ⟨h1, h2⟩ := h
    have h3 : fn.body.isNone = false := by cases hb : fn.body <;> simp_all
    simp only [callFunc, Sem.run_bind, run_program, Result.andThen_ok, hf, h1, Bool.false_eq_true, if_false, h3, Sem.run_pure]
def evs (l : List (Nat × Value)) : List Operand → Option (List Value)
  | [] => some []
  | x :: xs => match ev l x, evs l xs with
    | some v, some vs => some (v :: vs)
    | _, _ => none
variable {ops : Array Oper} {Q : Exit → Act → World → Prop} {rest : List Oper} {n : Nat} {a : Act} {l : List (Nat × Value)} {d : Nat} {ty : TypeId} {pos : String} {af : Array Edge}
theorem Tm.evs (K : Tm n a l) : ∀ {xs : List Operand} {vs : List Value}, Sy.evs l xs = some vs → xs.map a.eval = vs
  | [], vs, h => by simp [Sy.evs] at h; subst h; rfl
  | x :: xs, vs, h => by
    simp only [Sy.evs] at h
    split at h
    · next v vs' h1 h2 =>
      simp only [Option.some.injEq] at h; subst h
      simp only [List.map_cons, K.eval h1, K.evs h2]
    · cases h
theorem call_run {f : FuncId} {xs : List Operand} {vs : List Value} {tys : Array TypeId} {dst : Option Tmp} (K : Tm n a l) (hv : evs l xs = some vs) (hb : callB P f = true) :
    (execOp a.eval ⟨dst, .call ⟨.value (.func f), xs.toArray, tys⟩, ty, pos, af, none⟩).run P w = .ok (.enter f vs.toArray) w := by
  have := K.evs hv
  simp only [execOp, resolve, Act.eval, Sem.run_bind, Deferred.ofValue, Sem.run_pure, Result.andThen_ok, invoke]
  have e : (#[] ++ Array.map a.eval xs.toArray ++ #[] : Array Value) = vs.toArray := by simp [this]
  rw [e]; exact run_callFunc hb _
theorem cl {f : FuncId} {xs : List Operand} {vs : List Value} {tys : Array TypeId} {R : Value → Gh → List Own → Prop} {Δ₁ Δ₂ : List Own} (K : Tm n a l) (h : St c G w Δ) (hv : evs l xs = some vs) (hb : callB P f = true)
    (hc : St ⟨w, blocks Δ₁, G⟩ G w Δ₁ → Calls P f vs.toArray w (Fin ⟨w, blocks Δ₁, G⟩ R)) (hΔ : Δ₁ ++ Δ₂ = Δ)
    (kk : ∀ a w v H Δ', Tm n a ((d, v) :: l) → Gh.le G H → St c H w (Δ' ++ Δ₂) → R v H Δ' → wpList P ops Q rest a w) (hd : Nat.blt d n = true := by rfl) :
    wpList P ops Q (⟨some d, .call ⟨.value (.func f), xs.toArray, tys⟩, ty, pos, af, none⟩ :: rest) a w := by
  subst hΔ
  refine op_enter rfl (call_run K hv hb) rfl (hc h.enter) ?_
  rintro e w'' ⟨v, H, Δ', rfl, hst, hR⟩
  exact ⟨v, rfl, kk _ w'' v H Δ' (K.put hd) hst.gle (h.leave hst) hR⟩
theorem clp {f : FuncId} {xs : List Operand} {vs : List Value} {tys : Array TypeId} {R : Value → Gh → Prop} (K : Tm n a l) (h : St c G w Δ) (hv : evs l xs = some vs) (hb : callB P f = true)
    (hc : St ⟨w, [], G⟩ G w [] → Calls P f vs.toArray w (Fin ⟨w, [], G⟩ fun v H Δ' => Δ' = [] ∧ R v H))
    (kk : ∀ a w v H, Tm n a ((d, v) :: l) → Gh.le G H → St c H w Δ → R v H → wpList P ops Q rest a w) (hd : Nat.blt d n = true := by rfl) :
    wpList P ops Q (⟨some d, .call ⟨.value (.func f), xs.toArray, tys⟩, ty, pos, af, none⟩ :: rest) a w :=
  cl (Δ₁ := []) (Δ₂ := Δ) K h hv hb hc rfl (fun a w v H Δ' K' hle hst ⟨hΔ, hR⟩ => by subst hΔ; exact kk a w v H K' hle hst hR) hd
theorem clv_run {f : FuncId} {x : Operand} {xs : List Operand} {vs cs : List Value} {tys : Array TypeId} {dst : Option Tmp} (K : Tm n a l) (hx : ev l x = some (.func (.func f) #[] cs.toArray)) (hv : evs l xs = some vs) (hb : callB P f = true) :
    (execOp a.eval ⟨dst, .call ⟨.value x, xs.toArray, tys⟩, ty, pos, af, none⟩).run P w = .ok (.enter f (vs ++ cs).toArray) w := by
  have := K.evs hv
  have hx' := K.eval hx
  simp only [execOp, resolve, hx', Sem.run_bind, Deferred.ofValue, Sem.run_pure, Result.andThen_ok, invoke]
  have e : (#[] ++ Array.map a.eval xs.toArray ++ cs.toArray : Array Value) = (vs ++ cs).toArray := by simp [this]
  rw [e]; exact run_callFunc hb _
theorem clv {f : FuncId} {x : Operand} {xs : List Operand} {vs cs : List Value} {tys : Array TypeId} {R : Value → Gh → List Own → Prop} {Δ₁ Δ₂ : List Own} (K : Tm n a l) (h : St c G w Δ) (hx : ev l x = some (.func (.func f) #[] cs.toArray)) (hv : evs l xs = some vs) (hb : callB P f = true)
    (hc : St ⟨w, blocks Δ₁, G⟩ G w Δ₁ → Calls P f (vs ++ cs).toArray w (Fin ⟨w, blocks Δ₁, G⟩ R)) (hΔ : Δ₁ ++ Δ₂ = Δ)
    (kk : ∀ a w v H Δ', Tm n a ((d, v) :: l) → Gh.le G H → St c H w (Δ' ++ Δ₂) → R v H Δ' → wpList P ops Q rest a w) (hd : Nat.blt d n = true := by rfl) :
    wpList P ops Q (⟨some d, .call ⟨.value x, xs.toArray, tys⟩, ty, pos, af, none⟩ :: rest) a w := by
  subst hΔ
  refine op_enter rfl (clv_run K hx hv hb) rfl (hc h.enter) ?_
  rintro e w'' ⟨v, H, Δ', rfl, hst, hR⟩
  exact ⟨v, rfl, kk _ w'' v H Δ' (K.put hd) hst.gle (h.leave hst) hR⟩
theorem bi {b : Builtin} {xs : List Operand} {vs : List Value} {tys : Array TypeId} {v : Value} (K : Tm n a l) (hv : evs l xs = some vs)
    (hr : (builtin b tys ty (xs.toArray.map fun | .const _ => true | _ => false) vs.toArray).run P w = .ok (.value v) w')
    (kk : ∀ a, Tm n a ((d, v) :: l) → wpList P ops Q rest a w') (hd : Nat.blt d n = true := by rfl) :
    wpList P ops Q (⟨some d, .call ⟨.builtin b, xs.toArray, tys⟩, ty, pos, af, none⟩ :: rest) a w := by
  refine op_val rfl (show _ = Result.ok (Next.value v) w' from ?_) rfl (kk _ (K.put hd))
  have := K.evs hv
  have e : (Array.map a.eval xs.toArray : Array Value) = vs.toArray := by simp [this]
  simp only [execOp, resolve, Sem.run_bind, Sem.run_pure, Result.andThen_ok, invoke]
  rw [e]; exact hr
/-! ### the end of a function -/
variable {fn : Func} {R : Value → Gh → List Own → Prop}
theorem Tm.getD {t : Nat} {v : Value} (K : Tm n a l) (h : lk l t = some v) : a.tmps.getD t undef = v := by
  simp only [Array.getD_eq_getD_getElem?, K.get t v h, Option.getD_some]
theorem enter {f : FuncId} {C : Code} {vs : List Value} {R : Ending → World → Prop} {n : Nat} (hf : P.funcs[f]? = some fn) (hb : fn.body = some C) (hn : fn.ntmps = n) (hl : Nat.ble vs.length n = true)
    (h : ∀ a, Tm n a (args0 0 vs) → C.wp P (bodyPost P fn R) a w) : Calls P f vs.toArray w R := by
  subst hn
  exact calls_of_wp hf hb (h _ (Tm.init hl))
/-! ### what the model's answers say -/
theorem ite_some {α} {b : Bool} {x y : Option α} {r : α} (h : (if b = true then x else y) = some r) : (b = true ∧ x = some r) ∨ (b = false ∧ y = some r) := by
  cases b
  · exact .inr ⟨rfl, by simpa using h⟩
  · exact .inl ⟨rfl, by simpa using h⟩
def gd {α} (b : Bool) (x : Option α) : Option α := if b = true then x else none
theorem gd_some {α} {b : Bool} {x : Option α} {r : α} (h : gd b x = some r) : b = true ∧ x = some r := by
  cases b
  · simp [gd] at h
  · exact ⟨rfl, h⟩
theorem bind_some {α β} {x : Option α} {f : α → Option β} {r : β} (h : x.bind f = some r) : ∃ y, x = some y ∧ f y = some r := Option.bind_eq_some_iff.1 h
end
end Go.Sy
