/- A library for walks that a program prints: kinds of data, what a call owns, one lemma for each operation. No conditions. -/
import Derived.Test.YthhhomgbpnmeeaaGreatDoorSy8
set_option linter.all false
namespace Go.Sy
open Go
def sl2 (lo hi : Int) (n : Nat) : Bool := decide (0 ≤ lo) && decide (lo ≤ hi) && decide (hi ≤ n)
theorem sl2_out {lo hi : Int} {n : Nat} (h : sl2 lo hi n = true) : 0 ≤ lo ∧ lo ≤ hi ∧ hi ≤ n := by
  simp only [sl2, Bool.and_eq_true, decide_eq_true_eq] at h; exact ⟨h.1.1, h.1.2, h.2⟩
def sSub (s : ByteArray) (lo hi : Int) : ByteArray := s.extract lo.toNat hi.toNat
def lSub {α} (xs : List α) (lo hi : Int) : List α := (xs.take hi.toNat).drop lo.toNat
def bo (l : List (Nat × Value)) (o : Option Operand) (dflt x : Int) : Prop := (o = none ∧ x = dflt) ∨ ∃ y k, o = some y ∧ ev l y = some (.int k x)
section
variable {P : Program} {w w' : World} {c : Cx} {G : Gh} {Δ : List Own}
variable {ops : Array Oper} {Q : Exit → Act → World → Prop} {rest : List Oper} {n : Nat} {a : Act} {l : List (Nat × Value)} {d : Nat} {ty : TypeId} {pos : String} {af : Array Edge}
theorem run_bounds {isSlice : Bool} {len cap : Nat} {lo hi : Option Operand} {x y : Int} (K : Tm n a l) (hlo : bo l lo 0 x) (hhi : bo l hi len y) (h0 : 0 ≤ x) (h1 : x ≤ y) (h2 : y ≤ cap) :
    (Instr.sliceBounds isSlice len cap (lo.map a.eval) (hi.map a.eval) none).run P w = .ok (x.toNat, y.toNat, cap) w := by
  have hy0 : 0 ≤ y := by omega
  have ey : ((y.toNat : Nat) : Int) = y := Int.toNat_of_nonneg hy0
  unfold Instr.sliceBounds
  rcases hhi with ⟨rfl, rfl⟩ | ⟨yo, ky, rfl, hy⟩ <;> rcases hlo with ⟨rfl, rfl⟩ | ⟨xo, kx, rfl, hx⟩
  · simp
  · simp only [Option.map_some, Option.map_none, K.eval hx, Instr.sliceBound, asIntOf, Sem.run_bind, Sem.run_pure, Result.andThen_ok, if_pos (And.intro h0 h1), Int.toNat_natCast]
  · simp only [Option.map_some, Option.map_none, K.eval hy, Instr.sliceBound, asIntOf, Sem.run_bind, Sem.run_pure, Result.andThen_ok, if_pos (And.intro hy0 h2), Int.toNat_zero]
  · have h1' : x ≤ ((y.toNat : Nat) : Int) := by omega
    simp only [Option.map_some, K.eval hx, K.eval hy, Instr.sliceBound, asIntOf, Sem.run_bind, Sem.run_pure, Result.andThen_ok, if_pos (And.intro hy0 h2), if_pos (And.intro h0 h1')]
theorem sliceOp {t : TypeId} {x : Operand} {lo hi : Option Operand} {u v : Value} (K : Tm n a l) (hx : ev l x = some u) (hr : (Instr.sliceAt t u (lo.map a.eval) (hi.map a.eval) none).run P w = .ok v w)
    (k : ∀ a, Tm n a ((d, v) :: l) → wpList P ops Q rest a w) (hd : Nat.blt d n = true := by rfl) : wpList P ops Q (⟨some d, .slice t x lo hi none, ty, pos, af, none⟩ :: rest) a w :=
  op_val rfl (show _ = Result.ok (Next.value v) w by simp only [execOp, K.eval hx, Option.map_none, Sem.run_bind, hr, Result.andThen_ok]; rfl) rfl (k _ (K.put hd))
theorem slS {t : TypeId} {x : Operand} {lo hi : Option Operand} {s : ByteArray} (p q : Int) (K : Tm n a l) (hx : ev l x = some (.string s)) (hT : P.underlying t = some .string) (hlo : bo l lo 0 p) (hhi : bo l hi s.size q) (hb : sl2 p q s.size = true)
    (k : ∀ a, Tm n a ((d, .string (sSub s p q)) :: l) → wpList P ops Q rest a w) (hd : Nat.blt d n = true := by rfl) : wpList P ops Q (⟨some d, .slice t x lo hi none, ty, pos, af, none⟩ :: rest) a w := by
  obtain ⟨h0, h1, h2⟩ := sl2_out hb
  refine sliceOp K hx ?_ k hd
  simp only [Instr.sliceAt, underlying, Sem.run_bind, run_program, Result.andThen_ok, hT, Sem.run_pure, Instr.slice, Option.isSome_none, Bool.false_eq_true, if_false, run_bounds K hlo hhi h0 h1 h2]
  rfl
theorem run_slice_sl {t E : TypeId} {s : Nat} {ag : Bool} {a0 : Option Addr} {len cap : Nat} {lo hi : Option Operand} {p q : Int} (K : Tm n a l) (hT : slOf P t = some E) (hE : tyOf P E = some (s, ag)) (hlo : bo l lo 0 p) (hhi : bo l hi len q) (h0 : 0 ≤ p) (h1 : p ≤ q) (h2 : q ≤ cap) :
    (Instr.sliceAt t (.slice a0 len cap) (lo.map a.eval) (hi.map a.eval) none).run P w = .ok (.slice (if cap = p.toNat then a0 else a0.map (·.add (p.toNat * s))) (q.toNat - p.toNat) (cap - p.toNat)) w := by
  simp only [Instr.sliceAt, underlying, Sem.run_bind, run_program, Result.andThen_ok, slOf_und hT, Sem.run_pure, Instr.slice, run_bounds K hlo hhi h0 h1 h2, run_sizeOf hE]
theorem slV {α} {k : Kd α} {t E : TypeId} {ag : Bool} {x : Operand} {lo hi : Option Operand} {v : Value} {xs : List α} (p q : Int) (K : Tm n a l) (hx : ev l x = some v) (hv : (kSl k).val G v xs) (hT : slOf P t = some E) (hE : tyOf P E = some (k.n, ag)) (hlo : bo l lo 0 p) (hhi : bo l hi xs.length q) (hb : sl2 p q xs.length = true)
    (kk : ∀ a u, Tm n a ((d, u) :: l) → (kSl k).val G u (lSub xs p q) → wpList P ops Q rest a w) (hd : Nat.blt d n = true := by rfl) : wpList P ops Q (⟨some d, .slice t x lo hi none, ty, pos, af, none⟩ :: rest) a w := by
  obtain ⟨h0, h1, h2⟩ := sl2_out hb
  obtain ⟨a0, cap, rfl, hl, hc, hp⟩ := kSl_val.1 hv
  refine sliceOp K hx (run_slice_sl K hT hE hlo hhi h0 h1 (by omega)) (fun a K' => kk a _ K' (kSl_val.2 ?_)) hd
  have hlen : (lSub xs p q).length = q.toNat - p.toNat := by simp only [lSub, List.length_drop, List.length_take]; omega
  refine ⟨_, cap - p.toNat, by rw [hlen], by rw [hlen]; omega, ?_, ?_⟩
  · intro he
    split at he
    · have := hc he; omega
    · have := hc (by simpa using he); omega
  · intro u hu
    split at hu
    · next he =>
      obtain ⟨h3, C, T, fr, h4, h5, h6⟩ := hp u hu
      refine ⟨h3, C, T, fr, h4, ?_, ?_⟩
      · have : (cap - p.toNat) * k.n ≤ cap * k.n := Nat.mul_le_mul_right _ (by omega)
        omega
      · have : lSub xs p q = [] := List.eq_nil_of_length_eq_zero (by omega)
        rw [this]; trivial
    · simp only [Option.map_eq_some_iff] at hu
      obtain ⟨u0, rfl, rfl⟩ := hu
      obtain ⟨b, o, sp⟩ := u0
      obtain ⟨h3, C, T, fr, h4, h5, h6⟩ := hp _ rfl
      simp only at h3 h4 h5 h6; subst h3
      rw [add_flat]
      refine ⟨rfl, C, T, fr, h4, ?_, ?_⟩
      · simp only
        have : (cap - p.toNat) * k.n = cap * k.n - p.toNat * k.n := Nat.sub_mul ..
        have : p.toNat * k.n ≤ cap * k.n := Nat.mul_le_mul_right _ (by omega)
        omega
      · have := rows_drop p.toNat (rows_take q.toNat h6)
        rw [List.drop_drop] at this; exact this
theorem slO {α} {k : Kd α} {t E : TypeId} {ag : Bool} {x : Operand} {hi : Option Operand} {xs : List α} {cap : Nat} {b : Option Nat} {v : Value} (j : Nat) (q : Int) (K : Tm n a l) (h : St c G w Δ) (hj : Δ[j]? = some ⟨k, xs, cap, b, E⟩) (hx : ev l x = some v) (hv : v = hdr b xs.length cap)
    (hT : slOf P t = some E) (hE : tyOf P E = some (k.n, ag)) (hhi : bo l hi xs.length q) (hb : sl2 0 q xs.length = true)
    (kk : ∀ a, Tm n a ((d, hdr b (lSub xs 0 q).length cap) :: l) → St c G w (Δ.set j ⟨k, lSub xs 0 q, cap, b, E⟩) → wpList P ops Q rest a w) (hd : Nat.blt d n = true := by rfl) : wpList P ops Q (⟨some d, .slice t x none hi none, ty, pos, af, none⟩ :: rest) a w := by
  subst hv
  obtain ⟨h0, h1, h2⟩ := sl2_out hb
  have hok := h.own _ (List.mem_of_getElem? hj)
  have hc : xs.length ≤ cap := hok.1
  have hlen : (lSub xs 0 q).length = q.toNat := by simp only [lSub, List.length_drop, List.length_take]; simp; omega
  refine sliceOp (v := hdr b (lSub xs 0 q).length cap) K hx ?_ (fun a K' => kk a K' ?_) hd
  · have := run_slice_sl (P := P) (w := w) (a0 := b.map fun b => (⟨b, 0, none⟩ : Addr)) (cap := cap) K hT hE (lo := none) (p := 0) (.inl ⟨rfl, rfl⟩) hhi (by omega) h1 (by omega)
    simp only [hdr] at this ⊢
    rw [this, hlen]
    simp only [Int.toNat_zero, Nat.zero_mul, Nat.sub_zero]
    congr 2
    split
    · rfl
    · cases b <;> simp [Addr.add]
  · refine St.push (e := ⟨k, xs, cap, b, E⟩) ?_ hj
    have hp := h.pull hj
    cases b with
    | none =>
      have h0 : xs = [] := by have := hok.2.1 rfl; simp only at this; exact List.eq_nil_of_length_eq_zero (by omega)
      subst h0
      have e : lSub ([] : List α) 0 q = [] := by simp [lSub]
      rw [e]; exact hp
    | some b =>
      obtain ⟨_, C, fr, h3, h4, h5, h6⟩ := hok.2.2 b rfl
      refine St.put hp (fun b' => ?_) rfl rfl rfl rfl (by omega) h4 h5 ?_
      · split
        · next e => rw [e, h3]
        · rfl
      · simp only [lSub, Int.toNat_zero, List.drop_zero]; exact rows_take _ h6
def subSl {α} (k : Kd α) (b : Option Nat) (o m : Nat) (v : Value) : Prop := ∃ a0 cap, v = .slice a0 m cap ∧ (m = 0 ∨ ∃ b', b = some b' ∧ a0 = some ⟨b', o * k.n, none⟩)
theorem subSl_all {α} {k : Kd α} {xs : List α} {cap : Nat} {b : Option Nat} {E : TypeId} {j : Nat} (h : St c G w Δ) (hj : Δ[j]? = some ⟨k, xs, cap, b, E⟩) : subSl k b 0 xs.length (hdr b xs.length cap) := by
  have hok := h.own _ (List.mem_of_getElem? hj)
  refine ⟨_, cap, rfl, ?_⟩
  cases b with
  | none => left; have := hok.2.1 rfl; have h1 := hok.1; simp only at this h1; omega
  | some b => right; exact ⟨b, rfl, by simp⟩
/-! ### copy -/
def ovr {α} (xs : List α) (o : Nat) (ys : List α) : List α := xs.take o ++ ys ++ xs.drop (o + ys.length)
theorem rows_ovr {α} {k : Kd α} {xs ys : List α} {cs ns : List Value} {o : Nat} (h : rows k G cs xs) (hy : rows k G ns ys) (hn : ns.length = ys.length * k.n) (hl : o + ys.length ≤ xs.length) : rows k G (splice cs (o * k.n) ns) (ovr xs o ys) := by
  have hlen := rows_len h
  have hle : (o + ys.length) * k.n ≤ xs.length * k.n := Nat.mul_le_mul_right _ hl
  rw [Nat.add_mul] at hle
  have h1 : rows k G (cs.take (o * k.n)) (xs.take o) := by
    refine rows_ext ?_ (rows_take o h)
    rw [List.length_take, Nat.min_eq_left (by omega), List.take_take, Nat.min_self]
  have h2 : rows k G (cs.drop (o * k.n + ns.length)) (xs.drop (o + ys.length)) := by
    have := rows_drop (o + ys.length) h
    rw [Nat.add_mul] at this
    rw [hn]; exact this
  refine rows_append (rows_append h1 ?_ hy) ?_ h2
  · simp only [List.length_take]; rw [Nat.min_eq_left (by omega), Nat.min_eq_left (by omega)]
  · simp only [List.length_append, List.length_take, hn]; rw [Nat.min_eq_left (by omega), Nat.min_eq_left (by omega), Nat.add_mul]
theorem own_copy {α} {k : Kd α} {xs zs : List α} {cap : Nat} {b : Option Nat} {E : TypeId} {j o m : Nat} {v : Value} {ns : List Value} (h : St c G w Δ) (hj : Δ[j]? = some ⟨k, xs, cap, b, E⟩) (hs : subSl k b o m v) (hz : zs.length ≤ m) (hl : o + m ≤ xs.length) (hn : ns.length = zs.length * k.n) (hr : rows k G ns zs) :
    ∃ a0 cap', v = .slice a0 m cap' ∧ ∃ w', (match a0 with | some a => storeCells a ns | none => pure () : Sem Unit).run P w = .ok () w' ∧ St c G w' (Δ.set j ⟨k, ovr xs o zs, cap, b, E⟩) := by
  obtain ⟨a0, cap', rfl, hs⟩ := hs
  have hok := h.own _ (List.mem_of_getElem? hj)
  have hpl : ∀ x ∈ ns, plain x = true := by
    have := rows_pl hr
    rw [← hn, List.take_length] at this; exact this
  have hnil : zs = [] → ∃ w', (match a0 with | some a => storeCells a ns | none => pure () : Sem Unit).run P w = .ok () w' ∧ St c G w' (Δ.set j ⟨k, ovr xs o zs, cap, b, E⟩) := by
    rintro rfl
    have hns : ns = [] := List.eq_nil_of_length_eq_zero (by simpa using hn)
    subst hns
    refine ⟨w, by cases a0 <;> rfl, ?_⟩
    have e1 : ovr xs o [] = xs := by simp [ovr]
    rw [e1]
    have : Δ.set j ⟨k, xs, cap, b, E⟩ = Δ := by
      apply List.ext_getElem?
      intro q
      by_cases e : j = q
      · subst e
        rw [List.getElem?_set_self (List.getElem?_eq_some_iff.1 hj).1, hj]
      · rw [List.getElem?_set_ne e]
    rw [this]; exact h
  refine ⟨a0, cap', rfl, ?_⟩
  rcases hs with hm | ⟨b', rfl, rfl⟩
  · exact hnil (List.eq_nil_of_length_eq_zero (by omega))
  · obtain ⟨_, C, fr, h3, h4, h5, h6⟩ := hok.2.2 b' rfl
    simp only at h3 h4 h6
    have hlen : xs.length * k.n ≤ C.toList.length := rows_len h6
    have hle : (o + zs.length) * k.n ≤ xs.length * k.n := Nat.mul_le_mul_right _ (by omega)
    rw [Nat.add_mul] at hle
    simp only [Array.length_toList] at hlen
    obtain ⟨w', hrun, hw⟩ := run_storeCells_block (P := P) (o := o * k.n) ns 0 w C h3 h5 hpl (by omega)
    simp only [Nat.add_zero] at hw
    refine ⟨w', hrun, ?_⟩
    refine St.push (e := ⟨k, xs, cap, some b', E⟩) ?_ hj
    have hsl : (splice C.toList (o * k.n) ns).length = C.toList.length := splice_length (by simp only [Array.length_toList]; omega)
    have hov : (ovr xs o zs).length = xs.length := by simp only [ovr, List.length_append, List.length_take, List.length_drop]; omega
    refine St.put (h.pull hj) (fun b' => hw.heap b') hw.size hw.os hw.tape hw.output (by rw [hov]; exact hok.1) (by simp only [List.size_toArray]; rw [hsl]; simpa using h4) (soft_splice h5 (by simp only [List.size_toArray]; rw [hsl]; simp)) ?_
    exact rows_ovr h6 hr hn (by omega)
theorem cpy {α} {k : Kd α} {xs ys : List α} {cap : Nat} {b : Option Nat} {E t t2 : TypeId} {ag : Bool} {x y : Operand} {u v : Value} {o m : Nat} {tys : Array TypeId} (j : Nat) (K : Tm n a l) (h : St c G w Δ) (hj : Δ[j]? = some ⟨k, xs, cap, b, E⟩) (hx : ev l x = some v) (hv : subSl k b o m v) (hy : ev l y = some u) (hu : (kSl k).val G u ys)
    (hl : o + m ≤ xs.length) (ht : tys = #[t, t2]) (hT : slOf P t = some E) (hE : tyOf P E = some (k.n, ag))
    (kk : ∀ a w, Tm n a ((d, .int .i64 (min ys.length m : Nat)) :: l) → St c G w (Δ.set j ⟨k, ovr xs o (ys.take m), cap, b, E⟩) → wpList P ops Q rest a w) (hd : Nat.blt d n = true := by rfl) :
    wpList P ops Q (⟨some d, .call ⟨.builtin .copy, #[x, y], tys⟩, ty, pos, af, none⟩ :: rest) a w := by
  subst ht
  obtain ⟨hlen, ns, hn, hr, hf⟩ := sl_cells (P := P) h (kSl_val.1 hu)
  have hmin : Nat.min ys.length m = min ys.length m := rfl
  have hf0 := hf w rfl (min ys.length m) (Nat.min_le_left ..)
  have htk : ys.take m = ys.take (min ys.length m) := by
    rcases Nat.le_total ys.length m with h1 | h1
    · rw [Nat.min_eq_left h1, List.take_length, List.take_of_length_le h1]
    · rw [Nat.min_eq_right h1]
  obtain ⟨a0, cap', rfl, w', hrun, hst⟩ := own_copy (P := P) (zs := ys.take m) (ns := ns.take (min ys.length m * k.n)) h hj hv (by simp only [List.length_take]; omega) hl
    (by
      simp only [List.length_take, hn]
      have : min ys.length m * k.n ≤ ys.length * k.n := Nat.mul_le_mul_right _ (Nat.min_le_left ..)
      rw [Nat.min_eq_left this, Nat.min_comm])
    (by
      rw [htk]
      refine rows_ext (cs := ns) ?_ (rows_take _ hr)
      simp only [List.length_take, Nat.min_eq_left (Nat.min_le_left ys.length m), List.take_take, Nat.min_self])
  refine bi (xs := [x, y]) K (evs2 hx hy) (v := .int .i64 (min ys.length m : Nat)) ?_ (fun a K' => kk a w' K' hst) hd
  simp only [builtin, Builtin.copy_, List.getElem?_toArray, List.getElem?_cons_zero, List.getElem?_cons_succ, underlying, Sem.run_bind, run_program, Result.andThen_ok, slOf_und hT, Sem.run_pure, hlen, hmin, run_sizeOf hE, hf0]
  cases a0 <;> simp_all [goInt]
end
end Go.Sy
