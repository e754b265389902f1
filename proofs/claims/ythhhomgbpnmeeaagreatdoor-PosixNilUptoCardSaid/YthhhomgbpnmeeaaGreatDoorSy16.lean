/- A library for walks that a program prints: kinds of data, what a call owns, one lemma for each operation. No conditions. -/
import Derived.Test.YthhhomgbpnmeeaaGreatDoorSy15
set_option linter.all false
namespace Go.Sy
open Go
def fRs {α} (k : Kd α) (xs : List α) (T : TypeId) : Fct := fun _ _ v O => ∃ b m, v = hdr (some b) xs.length m ∧ O = [⟨k, xs, m, some b, T⟩]
theorem monRs {α} {k : Kd α} {xs : List α} {T} : Mon (fRs k xs T) := fun _ _ _ _ _ _ _ _ h => h
section
variable {P : Program} {w w' : World} {c : Cx} {G : Gh} {Δ : List Own} {ops : Array Oper} {Q : Exit → Act → World → Prop} {rest : List Oper} {n : Nat} {a : Act} {l : List (Nat × Value)} {d : Nat} {ty : TypeId} {pos : String} {af : Array Edge}
theorem equalIn_sl {d : Nat} {t e : TypeId} {q : Addr} {m m' : Nat} (hu : P.underlying t = some (.slice e)) : (Op.equalIn (d + 1) t (.slice (some q) m m') (.slice none 0 0)).run P w = .ok false w := by
  simp only [Op.equalIn, underlying, Sem.run_bind, run_program, Result.andThen_ok, hu, Sem.run_pure]
theorem equal_sl {t e : TypeId} {q : Addr} {m m' : Nat} (hu : P.underlying t = some (.slice e)) : (Op.equal t (.slice (some q) m m') (.slice none 0 0)).run P w = .ok false w := equalIn_sl (d := 9999) hu
theorem equalIn_sln {d : Nat} {t e : TypeId} {m m' : Nat} (hu : P.underlying t = some (.slice e)) : (Op.equalIn (d + 1) t (.slice none m m') (.slice none 0 0)).run P w = .ok true w := by
  simp only [Op.equalIn, underlying, Sem.run_bind, run_program, Result.andThen_ok, hu, Sem.run_pure, Option.isNone_none]
theorem equal_sln {t e : TypeId} {m m' : Nat} (hu : P.underlying t = some (.slice e)) : (Op.equal t (.slice none m m') (.slice none 0 0)).run P w = .ok true w := equalIn_sln (d := 9999) hu
theorem binSl {op : BinOp} {xt yt E : TypeId} {x y : Operand} {q : Option Addr} {m m' : Nat} (r : Bool) (K : Tm n a l) (hx : ev l x = some (.slice q m m')) (hy : ev l y = some (.slice none 0 0)) (ht : slOf P xt = some E)
    (hr : eqop op q.isNone = some r) (k : ∀ a, Tm n a ((d, .bool r) :: l) → wpList P ops Q rest a w) (hd : Nat.blt d n = true := by rfl) :
    wpList P ops Q (⟨some d, .binOp op xt x y yt, ty, pos, af, none⟩ :: rest) a w := by
  cases q with
  | none => exact binE r K hx hy rfl (by simp) (by simp only [binOp, Sem.run_bind]; rfl) (by simp only [binOp, Sem.run_bind]; rfl) (equal_sln (slOf_und ht)) hr k hd
  | some q => exact binE r K hx hy rfl (by simp) (by simp only [binOp, Sem.run_bind]; rfl) (by simp only [binOp, Sem.run_bind]; rfl) (equal_sl (slOf_und ht)) hr k hd
theorem appO {α} {k : Kd α} {xs ys : List α} {cap cap2 b : Nat} {b2 : Option Nat} {E t t2 E2 : TypeId} {o q : Operand} {tys : Array TypeId} (j j2 : Nat) (K : Tm n a l) (h : St c G w Δ) (hj : Δ[j]? = some ⟨k, xs, cap, some b, E⟩) (hj2 : Δ[j2]? = some ⟨k, ys, cap2, b2, E2⟩)
    (hx : ev l o = some (hdr (some b) xs.length cap)) (hy : ev l q = some (hdr b2 ys.length cap2)) (ht : tys = #[t, t2]) (hT : slOf P t = some E) (hT2 : slOf P t2 = some E2) (hE : elB P E k.n = true) (hroom : roomB xs.length ys.length = true)
    (kk : ∀ a w b cap, Tm n a ((d, hdr (some b) (xs ++ ys).length cap) :: l) → St c G w (Δ.set j ⟨k, xs ++ ys, cap, some b, E⟩) → wpList P ops Q rest a w) (hd : Nat.blt d n = true := by rfl) :
    wpList P ops Q (⟨some d, .call ⟨.builtin .append, #[o, q], tys⟩, ty, pos, af, none⟩ :: rest) a w := by
  subst ht
  obtain ⟨ns, hn, hr, hf⟩ := own_cells (P := P) h hj2
  obtain ⟨b', cap', w', hrun, hst, hs⟩ := run_append (ty := ty) h hj hT hE (slOf_und hT2) (.inl ⟨_, rfl⟩) rfl hn hr hf (by simpa [roomB] using hroom)
  have hs := hs rfl
  cases b' with
  | none => cases hs
  | some b' =>
    refine bi (xs := [o, q]) K (evs2 hx hy) (v := hdr (some b') (xs ++ ys).length cap') ?_ (fun a K' => kk a w' b' cap' K' hst) hd
    simp only [builtin, Sem.run_bind, hrun, Result.andThen_ok, Sem.run_pure]
theorem appV {α} {k : Kd α} {xs ys : List α} {cap b : Nat} {E t t2 E2 : TypeId} {o q : Operand} {u : Value} {tys : Array TypeId} (j : Nat) (K : Tm n a l) (h : St c G w Δ) (hj : Δ[j]? = some ⟨k, xs, cap, some b, E⟩)
    (hx : ev l o = some (hdr (some b) xs.length cap)) (hy : ev l q = some u) (hu : (kSl k).val G u ys) (ht : tys = #[t, t2]) (hT : slOf P t = some E) (hT2 : slOf P t2 = some E2) (hE : elB P E k.n = true) (hroom : roomB xs.length ys.length = true)
    (kk : ∀ a w b cap, Tm n a ((d, hdr (some b) (xs ++ ys).length cap) :: l) → St c G w (Δ.set j ⟨k, xs ++ ys, cap, some b, E⟩) → wpList P ops Q rest a w) (hd : Nat.blt d n = true := by rfl) :
    wpList P ops Q (⟨some d, .call ⟨.builtin .append, #[o, q], tys⟩, ty, pos, af, none⟩ :: rest) a w := by
  subst ht
  have hu := kSl_val.1 hu
  obtain ⟨hl, ns, hn, hr, hf⟩ := sl_cells (P := P) h hu
  obtain ⟨b', cap', w', hrun, hst, hs⟩ := run_append (ty := ty) h hj hT hE (slOf_und hT2) (.inl ⟨_, rfl⟩) hl hn hr (fun w1 hw1 => by
    have := hf w1 hw1 ys.length (Nat.le_refl _)
    rw [← hn, List.take_length] at this; exact this) (by simpa [roomB] using hroom)
  have hs := hs rfl
  cases b' with
  | none => cases hs
  | some b' =>
    refine bi (xs := [o, q]) K (evs2 hx hy) (v := hdr (some b') (xs ++ ys).length cap') ?_ (fun a K' => kk a w' b' cap' K' hst) hd
    simp only [builtin, Sem.run_bind, hrun, Result.andThen_ok, Sem.run_pure]
theorem clg {f : FuncId} {xs : List Operand} {vs : List Value} {tys : Array TypeId} {R : Value → Gh → List Own → Prop} {Δ₁ Δ₂ : List Own} (js : List Nat) (K : Tm n a l) (h : St c G w Δ) (hΔ : pulls js Δ = Δ₁ ++ Δ₂) (hv : evs l xs = some vs) (hb : callB P f = true)
    (hc : St ⟨w, blocks Δ₁, G⟩ G w Δ₁ → Calls P f vs.toArray w (Fin ⟨w, blocks Δ₁, G⟩ fun v H Δ' => ∃ Δn, Δ' = Δ₁ ++ Δn ∧ R v H Δn))
    (kk : ∀ a w v H Δn, Tm n a ((d, v) :: l) → Gh.le G H → St c H w (Δn ++ Δ) → R v H Δn → wpList P ops Q rest a w) (hd : Nat.blt d n = true := by rfl) :
    wpList P ops Q (⟨some d, .call ⟨.value (.func f), xs.toArray, tys⟩, ty, pos, af, none⟩ :: rest) a w :=
  clw js K h hΔ hv hb hc (fun a w v H Δ' K' hle hst ⟨Δn, h1, hR⟩ => by
    subst h1
    refine kk a w v H Δn K' hle (hst.perm ?_) hR
    refine ((pulls_perm js Δ).symm.append_left Δn).trans ?_
    rw [hΔ, ← List.append_assoc]
    exact List.perm_append_comm.append_right _) hd
end
end Go.Sy
