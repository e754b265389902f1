/- A library for walks that a program prints: kinds of data, what a call owns, one lemma for each operation. No conditions. -/
import Derived.Test.YthhhomgbpnmeeaaGreatDoorSy20
set_option linter.all false
namespace Go.Sy
open Go
def fldT (P : Program) (T i : Nat) : Option TypeId := match P.underlying T with | some (.struct fs) => (fs[i]?).map (·.type) | _ => none
section
variable {P : Program} {w w' : World} {c : Cx} {G : Gh} {Δ : List Own} {ops : Array Oper} {Q : Exit → Act → World → Prop} {rest : List Oper} {n : Nat} {a : Act} {l : List (Nat × Value)} {d : Nat} {ty : TypeId} {pos : String} {af : Array Edge}
theorem gy {dst : Option Tmp} {op : Op} {j d' : Nat} {b cc : Bool} (K : Tm n a l) (hj : (ops[j]?).bind (·.dst) = some d') (hv : lk l d' = some (.bool b)) (hb : b = cc)
    (k : wpList P ops Q (⟨dst, op, ty, pos, af, none⟩ :: rest) a w) : wpList P ops Q (⟨dst, op, ty, pos, af, some (j, cc)⟩ :: rest) a w :=
  gd_yes K hj (hb ▸ hv) k
theorem gnV {o : Oper} {j d' : Nat} {v : Value} {cc : Bool} (K : Tm n a l) (hg : o.guard = some (j, cc)) (hj : (ops[j]?).bind (·.dst) = some d') (hv : lk l d' = some v) (hb : v ≠ .bool cc)
    (hd : o.dst = some d) (k : ∀ a', Tm n a' ((d, undef) :: l) → wpList P ops Q rest a' w) (hdn : Nat.blt d n = true := by rfl) : wpList P ops Q (o :: rest) a w := by
  unfold wpList
  have hy : yielded ops a.tmps j ≠ some cc := by
    simp only [yielded, hj, Option.bind_some, K.get _ _ hv]
    cases v <;> simp_all
  rw [if_neg (by simp [Region.wanted, hg, hy]), hd]
  exact k _ (K.put hdn)
theorem gn {o : Oper} {j d' : Nat} {b cc : Bool} (K : Tm n a l) (hg : o.guard = some (j, cc)) (hj : (ops[j]?).bind (·.dst) = some d') (hv : lk l d' = some (.bool b)) (hb : b = !cc)
    (hd : o.dst = some d) (k : ∀ a', Tm n a' ((d, undef) :: l) → wpList P ops Q rest a' w) (hdn : Nat.blt d n = true := by rfl) : wpList P ops Q (o :: rest) a w :=
  gnV K hg hj hv (by subst hb; simp) hd k hdn
theorem gnU {o : Oper} {j d' : Nat} {cc : Bool} (K : Tm n a l) (hg : o.guard = some (j, cc)) (hj : (ops[j]?).bind (·.dst) = some d') (hv : lk l d' = some undef)
    (hd : o.dst = some d) (k : ∀ a', Tm n a' ((d, undef) :: l) → wpList P ops Q rest a' w) (hdn : Nat.blt d n = true := by rfl) : wpList P ops Q (o :: rest) a w :=
  gnV K hg hj hv (by simp [undef]) hd k hdn
theorem pkT {x y z : Operand} {b : Bool} {v : Value} (K : Tm n a l) (hc : ev l x = some (.bool b)) (hb : b = true) (hx : ev l y = some v) (k : ∀ a, Tm n a ((d, v) :: l) → wpList P ops Q rest a w) (hd : Nat.blt d n = true := by rfl) :
    wpList P ops Q (⟨some d, .pick x y z, ty, pos, af, none⟩ :: rest) a w := pickT K (hb ▸ hc) hx k hd
theorem pkF {x y z : Operand} {b : Bool} {v : Value} (K : Tm n a l) (hc : ev l x = some (.bool b)) (hb : b = false) (hx : ev l z = some v) (k : ∀ a, Tm n a ((d, v) :: l) → wpList P ops Q rest a w) (hd : Nat.blt d n = true := by rfl) :
    wpList P ops Q (⟨some d, .pick x y z, ty, pos, af, none⟩ :: rest) a w := pickF K (hb ▸ hc) hx k hd
theorem fdV {α β} {k : Kd α} {f : Kd β} (F : Fld k f) {T i E : Nat} {x : Operand} {v : Value} {y : α} (K : Tm n a l) (hx : ev l x = some v) (hv : k.val G v y) (hk : k.ag = true) (ho : fldOff P T i = some F.off) (ht : fldT P T i = some E) (hE : tyOf P E = some (f.n, f.ag))
    (kk : ∀ a u, Tm n a ((d, u) :: l) → f.val G u (F.get y) → wpList P ops Q rest a w) (hd : Nat.blt d n = true := by rfl) : wpList P ops Q (⟨some d, .field T x i, ty, pos, af, none⟩ :: rest) a w := by
  obtain ⟨hv1, hv2⟩ := hv
  rw [hk] at hv1
  simp only [if_true] at hv1
  obtain ⟨cs, rfl⟩ := hv1
  have hg := F.hget hv2
  obtain ⟨u, hu, huv⟩ := run_part (P := P) (w := w) (cs := cs) (off := F.off) hE hg
  unfold fldOff at ho
  unfold fldT at ht
  cases hund : P.underlying T with
  | none => simp [hund] at ho
  | some ud =>
    cases ud with
    | struct fs =>
      simp only [hund] at ho ht
      cases hf : fs[i]? with
      | none => simp [hf] at ho
      | some g =>
        simp only [hf, Option.bind_some, Option.map_some, Option.some.injEq] at ho ht
        cases hinf : P.info? g.type with
        | none => simp [hinf] at ho
        | some j =>
          simp only [hinf, Option.bind_some] at ho
          split at ho
          · cases ho
          · simp only [Option.some.injEq] at ho
            refine op_val rfl (show _ = Result.ok (Next.value u) w from ?_) rfl (kk _ u (K.put hd) huv)
            have hu' : (part g.type cs g.offset).run P w = .ok u w := by rw [ho, ht]; exact hu
            simp only [execOp, K.eval hx, Instr.field, underlying, Sem.run_bind, run_program, Result.andThen_ok, hund, Sem.run_pure, hf, asAgg, hu']
    | _ => simp [hund] at ho
theorem cvtBB {xs : List UInt8} {cap b : Nat} {E t : TypeId} {x : Operand} {v : Value} (j : Nat) (K : Tm n a l) (h : St c G w Δ) (hj : Δ[j]? = some ⟨kByte, xs, cap, some b, E⟩) (hx : ev l x = some v) (hv : v = hdr (some b) xs.length cap) (ht : slOf P t = some E) (hE : P.underlying E = some (.int .u8))
    (kk : ∀ a w, Tm n a ((d, hdr (some b) xs.length cap) :: l) → St c G w Δ → wpList P ops Q rest a w) (hd : Nat.blt d n = true := by rfl) : wpList P ops Q (⟨some d, .convert t t x, ty, pos, af, none⟩ :: rest) a w := by
  subst hv
  have hok := h.own _ (List.mem_of_getElem? hj)
  obtain ⟨_, C, fr, h3, h4, h5, h6⟩ := hok.2.2 b rfl
  simp only at h3 h4 h6
  have hlt : b < w.heap.size := (Array.getElem?_eq_some_iff.1 h3).1
  obtain ⟨lo, hi⟩ := fr
  obtain ⟨s1, s2, s3⟩ := h5
  simp only at s1 s3
  obtain ⟨fr', hfr⟩ : ∃ fr' : Nat × Nat, (if lo == hi then (C.size, C.size + 1) else (min lo C.size, max hi (C.size + 1))) = fr' := ⟨_, rfl⟩
  have hsoft : soft kByte.n C fr' := by
    refine ⟨fun i hi' hh => ?_, fun h1 => absurd h1 (by simp [kByte, mk1]), ?_⟩
    · rw [← hfr] at hh
      split at hh
      · simp only at hh; omega
      · next hne =>
        simp only at hh
        have : lo ≠ hi := by simpa using hne
        have h7 : C.size ≤ lo := by
          rcases Nat.lt_or_ge lo C.size with hl | hl
          · exact absurd (show lo ≤ lo ∧ lo < hi from ⟨Nat.le_refl _, by omega⟩) (s1 lo hl)
          · exact hl
        omega
    · rw [← hfr]
      split
      · simp
      · simp only; omega
  obtain ⟨w1, hw1⟩ : ∃ w1, w.freeze ⟨b, C.size, none⟩ 1 = w1 := ⟨_, rfl⟩
  have hheap : ∀ b', w1.heap[b']? = if b' = b then some (.cells C E fr') else w.heap[b']? := by
    intro b'
    rw [← hw1]
    simp only [World.freeze, Nat.one_ne_zero, if_false, Array.getElem?_modify]
    by_cases e : b = b'
    · subst e; rw [if_pos rfl, if_pos rfl, h3, ← hfr]; simp
    · rw [if_neg e, if_neg (fun h => e h.symm)]
  have hsh : (shape b).run P w = .ok (some (E, C.size)) w := by
    show Result.ok (w.shape? b) w = _
    simp [World.shape?, h3]
  have hmark : (markStringish ⟨b, 0, none⟩).run P w = .ok () w1 := by
    simp only [markStringish, Sem.run_bind, hsh, Result.andThen_ok, run_freeze, hw1]
  refine cvt K hx (v := hdr (some b) xs.length cap) (w' := w1) ?_ (fun a K' => kk a w1 K' ?_) hd
  · simp only [convert, underlying, Sem.run_bind, run_program, Result.andThen_ok, slOf_und ht, Sem.run_pure, hdr, Option.map_some, hE, beq_self_eq_true, hmark]
  · have hset : Δ.set j ⟨kByte, xs, cap, some b, E⟩ = Δ := by
      apply List.ext_getElem?
      intro q
      by_cases e : j = q
      · subst e
        rw [List.getElem?_set_self (List.getElem?_eq_some_iff.1 hj).1, hj]
      · rw [List.getElem?_set_ne e]
    rw [← hset]
    refine St.push (e := ⟨kByte, xs, cap, some b, E⟩) ?_ hj
    exact St.put (h.pull hj) hheap (by rw [← hw1]; simp [World.freeze]) (by rw [← hw1]; rfl) (by rw [← hw1]; rfl) (by rw [← hw1]; rfl) hok.1 h4 hsoft h6
def nm {α β : Type} (x : α) (f : α → Option β) : Option β := f x
theorem nm_some {α β : Type} {x : α} {f : α → Option β} {r : β} (h : nm x f = some r) : ∃ y, y = x ∧ f y = some r := ⟨x, rfl, h⟩
end
end Go.Sy
