/- A library for walks that a program prints: kinds of data, what a call owns, one lemma for each operation. No conditions. -/
import Derived.Test.YthhhomgbpnmeeaaGreatDoorSy14
import Derived.Laws.Externs
set_option linter.all false
namespace Go.Sy
open Go
section
variable {P : Program} {w w' : World} {c : Cx} {G : Gh} {Δ : List Own} {ops : Array Oper} {Q : Exit → Act → World → Prop} {rest : List Oper} {n : Nat} {a : Act} {l : List (Nat × Value)} {d : Nat} {ty : TypeId} {pos : String} {af : Array Edge}
def eqop (op : BinOp) (b : Bool) : Option Bool :=
  match op with
  | .eql => some b
  | .neq => some (!b)
  | _ => none
theorem equalIn_pn {d : Nat} {t e : TypeId} {q : Addr} (hu : P.underlying t = some (.pointer e)) : (Op.equalIn (d + 1) t (.pointer (some q)) (.pointer none)).run P w = .ok false w := by
  simp only [Op.equalIn, underlying, Sem.run_bind, run_program, Result.andThen_ok, hu, Sem.run_pure]
theorem equal_pn {t e : TypeId} {q : Addr} (hu : P.underlying t = some (.pointer e)) : (Op.equal t (.pointer (some q)) (.pointer none)).run P w = .ok false w := equalIn_pn (d := 9999) hu
theorem equalIn_pnn {d : Nat} {t e : TypeId} (hu : P.underlying t = some (.pointer e)) : (Op.equalIn (d + 1) t (.pointer none) (.pointer none)).run P w = .ok true w := by
  simp only [Op.equalIn, underlying, Sem.run_bind, run_program, Result.andThen_ok, hu, Sem.run_pure, Option.isNone_none]
theorem equal_pnn {t e : TypeId} (hu : P.underlying t = some (.pointer e)) : (Op.equal t (.pointer none) (.pointer none)).run P w = .ok true w := equalIn_pnn (d := 9999) hu
theorem binE {op : BinOp} {xt yt : TypeId} {x y : Operand} {u v : Value} {b : Bool} (r : Bool) (K : Tm n a l) (hx : ev l x = some u) (hy : ev l y = some v) (hp : plain u = true) (hn : u ≠ .nilIface)
    (h1 : (binOp .eql xt u v).run P w = ((Op.equal xt u v).run P w).andThen fun b w => .ok (.bool b) w) (h2 : (binOp .neq xt u v).run P w = ((Op.equal xt u v).run P w).andThen fun b w => .ok (.bool (!b)) w)
    (he : (Op.equal xt u v).run P w = .ok b w)
    (hr : eqop op b = some r) (k : ∀ a, Tm n a ((d, .bool r) :: l) → wpList P ops Q rest a w) (hd : Nat.blt d n = true := by rfl) :
    wpList P ops Q (⟨some d, .binOp op xt x y yt, ty, pos, af, none⟩ :: rest) a w := by
  refine bin K hx hy hp hn (r := .bool r) ?_ k hd
  cases op <;> simp only [eqop, Option.some.injEq, reduceCtorEq] at hr
  · rw [h1, he, ← hr]; rfl
  · rw [h2, he, ← hr]; rfl
def isPtrT (P : Program) (t : TypeId) : Bool := match P.underlying t with | some (.pointer _) => true | _ => false
theorem isPtrT_out {t : TypeId} (h : isPtrT P t = true) : ∃ e, P.underlying t = some (.pointer e) := by
  unfold isPtrT at h
  split at h
  · next e he => exact ⟨e, he⟩
  · cases h
theorem binPn {op : BinOp} {xt yt : TypeId} {x y : Operand} {u : Value} (r : Bool) (K : Tm n a l) (hx : ev l x = some u) (hu : ∃ q, u = .pointer (some q)) (hy : ev l y = some (.pointer none)) (ht : isPtrT P xt = true)
    (hr : eqop op false = some r) (k : ∀ a, Tm n a ((d, .bool r) :: l) → wpList P ops Q rest a w) (hd : Nat.blt d n = true := by rfl) :
    wpList P ops Q (⟨some d, .binOp op xt x y yt, ty, pos, af, none⟩ :: rest) a w := by
  obtain ⟨q, rfl⟩ := hu
  obtain ⟨e, he⟩ := isPtrT_out ht
  exact binE r K hx hy rfl (by simp) (by simp only [binOp, Sem.run_bind]; rfl) (by simp only [binOp, Sem.run_bind]; rfl) (equal_pn he) hr k hd
theorem binPnn {op : BinOp} {xt yt : TypeId} {x y : Operand} (r : Bool) (K : Tm n a l) (hx : ev l x = some (.pointer none)) (hy : ev l y = some (.pointer none)) (ht : isPtrT P xt = true)
    (hr : eqop op true = some r) (k : ∀ a, Tm n a ((d, .bool r) :: l) → wpList P ops Q rest a w) (hd : Nat.blt d n = true := by rfl) :
    wpList P ops Q (⟨some d, .binOp op xt x y yt, ty, pos, af, none⟩ :: rest) a w := by
  obtain ⟨e, he⟩ := isPtrT_out ht
  exact binE r K hx hy rfl (by simp) (by simp only [binOp, Sem.run_bind]; rfl) (by simp only [binOp, Sem.run_bind]; rfl) (equal_pnn he) hr k hd
theorem st_length {α} {xs : List α} {i : Int} {y : α} : (st xs i y).length = xs.length := List.length_set
theorem ovr_len {α} {xs ys : List α} {o m : Nat} (h : o + m ≤ xs.length) : (ovr xs o (ys.take m)).length = xs.length := by
  unfold ovr; simp only [List.length_append, List.length_take, List.length_drop]; omega
/-! ### functions without a body -/
def ExB (P : Program) (f : FuncId) (e : Array Value → Sem Value) : Prop :=
  ∃ fn, P.funcs[f]? = some fn ∧ (fn.name == "runtime.NumGoroutine") = false ∧ fn.body.isNone = true ∧ Extern.findNext fn = none ∧ Extern.find fn = some e
theorem clx {f : FuncId} {e : Array Value → Sem Value} {xs : List Operand} {vs : List Value} {tys : Array TypeId} (u : Value) (hf : ExB P f e) (K : Tm n a l) (hv : evs l xs = some vs) (hr : (e vs.toArray).run P w = .ok u w)
    (kk : ∀ a, Tm n a ((d, u) :: l) → wpList P ops Q rest a w) (hd : Nat.blt d n = true := by rfl) :
    wpList P ops Q (⟨some d, .call ⟨.value (.func f), xs.toArray, tys⟩, ty, pos, af, none⟩ :: rest) a w := by
  obtain ⟨fn, h1, h2, h3, h4, h5⟩ := hf
  refine op_val rfl (show _ = Result.ok (Next.value u) w from ?_) rfl (kk _ (K.put hd))
  have := K.evs hv
  simp only [execOp, resolve, Act.eval, Sem.run_bind, Deferred.ofValue, Sem.run_pure, Result.andThen_ok, invoke]
  have e1 : (#[] ++ Array.map a.eval xs.toArray ++ #[] : Array Value) = vs.toArray := by simp [this]
  rw [e1, run_callFunc_extern h1 h2 h3 h4 h5, hr]; rfl
theorem x_bits {b : Nat} : (Extern.MathFloatBits.float64bits #[.float .f64 b]).run P w = .ok (.int .u64 b) w := rfl
theorem x_from {b : Int} : (Extern.MathFloatBits.float64frombits #[.int .u64 b]).run P w = .ok (.float .f64 b.toNat) w := rfl
theorem x_cmp {a b : ByteArray} : (Extern.BytealgCompare.compare #[.string a, .string b]).run P w = .ok (.int .i64 (Extern.BytealgCompare.cmp a b)) w := rfl
theorem x_idx {s : ByteArray} {i : Int} : (Extern.BytealgIndexByte.indexByte #[.string s, .int .u8 i]).run P w = .ok (.int .i64 (firstIdx s i.toNat.toUInt8)) w := run_indexByte_string s i w
def countB (s : ByteArray) (c : UInt8) : Int := s.foldl (fun n x => if x == c then n + 1 else n) ((0 : Nat) : Int)
theorem x_cnt {s : ByteArray} {i : Int} : (Extern.BytealgCount.count #[.string s, .int .u8 i]).run P w = .ok (.int .i64 (countB s i.toNat.toUInt8)) w := by
  change Sem.run P (do
    let b ← Extern.Bytes.bytesOf (.string s)
    let c ← Extern.Bytes.asByte (.int .u8 i)
    pure (goInt (b.foldl (fun n x => if x == c then n + 1 else n) (0 : Nat)))) w = _
  simp only [Extern.Bytes.bytesOf, Extern.Bytes.asByte, Sem.run_bind, Sem.run_pure, Result.andThen]
  rfl
/-! ### a call while blocks of one's own are lent -/
theorem St.back {G1 H : Gh} (h : St c G w Δ) (h' : St ⟨w, [], G1⟩ H w' []) : St c G w' Δ := by
  have hfr : ∀ b, b < w.heap.size → w'.heap[b]? = w.heap[b]? := fun b hb => h'.fr b hb (by simp)
  refine ⟨fun b o hb => ?_, fun e he => ?_, h.nd, fun b hb hs => ?_, h.low, Nat.le_trans h.size h'.size, h.gle, h.gnew, h'.os.trans h.os, h'.tape.trans h.tape, h'.output.trans h.output⟩
  · rw [hfr b (h.lt hb)]; exact h.sat b o hb
  · have hok := h.own e he
    exact Own.ok_mono (fun b hb => (hok.2.2 b hb).1) (Gh.refl _) (fun b hb => hfr b (Own.lt hok hb)) hok
  · rw [hfr b (Nat.lt_of_lt_of_le hb h.size)]; exact h.fr b hb hs
theorem clb {f : FuncId} {xs : List Operand} {vs : List Value} {tys : Array TypeId} {R : Value → Gh → Prop} {G1 : Gh} {Δ1 : List Own} {c1 : Cx} (u : Value) (K : Tm n a l) (h : St c G w Δ) (h1 : St c1 G1 w Δ1) (hv : evs l xs = some vs) (hb : callB P f = true)
    (hc : St ⟨w, [], G1⟩ G1 w [] → Calls P f vs.toArray w (Fin ⟨w, [], G1⟩ fun v H Δ' => Δ' = [] ∧ R v H)) (hR : ∀ v H, R v H → v = u)
    (kk : ∀ a w, Tm n a ((d, u) :: l) → St c G w Δ → wpList P ops Q rest a w) (hd : Nat.blt d n = true := by rfl) :
    wpList P ops Q (⟨some d, .call ⟨.value (.func f), xs.toArray, tys⟩, ty, pos, af, none⟩ :: rest) a w := by
  have h0 : St ⟨w, [], G1⟩ G1 w [] := St.enter (Δ₁ := []) (Δ₂ := Δ1) h1
  refine op_enter rfl (call_run K hv hb) rfl (hc h0) ?_
  rintro e w'' ⟨v, H, Δ', rfl, hst, rfl, hRv⟩
  obtain rfl := hR v H hRv
  exact ⟨v, rfl, kk _ w'' (K.put hd) (h.back hst)⟩
def pulls : List Nat → List Own → List Own
  | [], Δ => Δ
  | j :: js, Δ => match Δ[j]? with
    | some o => pulls js (o :: Δ.eraseIdx j)
    | none => Δ
theorem pulls_perm : ∀ (js : List Nat) (Δ : List Own), (pulls js Δ).Perm Δ
  | [], _ => List.Perm.refl _
  | j :: js, Δ => by
    unfold pulls
    split
    · next o ho => exact (pulls_perm js _).trans (cons_erase ho)
    · exact List.Perm.refl _
theorem clw {f : FuncId} {xs : List Operand} {vs : List Value} {tys : Array TypeId} {R : Value → Gh → List Own → Prop} {Δ₁ Δ₂ : List Own} (js : List Nat) (K : Tm n a l) (h : St c G w Δ) (hΔ : pulls js Δ = Δ₁ ++ Δ₂) (hv : evs l xs = some vs) (hb : callB P f = true)
    (hc : St ⟨w, blocks Δ₁, G⟩ G w Δ₁ → Calls P f vs.toArray w (Fin ⟨w, blocks Δ₁, G⟩ R))
    (kk : ∀ a w v H Δ', Tm n a ((d, v) :: l) → Gh.le G H → St c H w (Δ' ++ Δ₂) → R v H Δ' → wpList P ops Q rest a w) (hd : Nat.blt d n = true := by rfl) :
    wpList P ops Q (⟨some d, .call ⟨.value (.func f), xs.toArray, tys⟩, ty, pos, af, none⟩ :: rest) a w :=
  cl K (h.perm (hΔ ▸ pulls_perm js Δ)) hv hb hc rfl kk hd
theorem clr {f : FuncId} {xs : List Operand} {vs : List Value} {tys : Array TypeId} {R : Value → Gh → Prop} {Δ₁ Δ₂ : List Own} (js : List Nat) (K : Tm n a l) (h : St c G w Δ) (hΔ : pulls js Δ = Δ₁ ++ Δ₂) (hv : evs l xs = some vs) (hb : callB P f = true)
    (hc : St ⟨w, blocks Δ₁, G⟩ G w Δ₁ → Calls P f vs.toArray w (Fin ⟨w, blocks Δ₁, G⟩ fun v H Δ' => Δ' = Δ₁ ∧ R v H))
    (kk : ∀ a w v H, Tm n a ((d, v) :: l) → Gh.le G H → St c H w Δ → R v H → wpList P ops Q rest a w) (hd : Nat.blt d n = true := by rfl) :
    wpList P ops Q (⟨some d, .call ⟨.value (.func f), xs.toArray, tys⟩, ty, pos, af, none⟩ :: rest) a w :=
  clw js K h hΔ hv hb hc (fun a w v H Δ' K' hle hst ⟨h1, hR⟩ => by subst h1; exact kk a w v H K' hle (hst.perm (hΔ ▸ (pulls_perm js Δ).symm)) hR) hd
end
end Go.Sy
