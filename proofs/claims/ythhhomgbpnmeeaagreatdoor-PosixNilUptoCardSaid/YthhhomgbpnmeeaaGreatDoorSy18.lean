/- A library for walks that a program prints: kinds of data, what a call owns, one lemma for each operation. No conditions. -/
import Derived.Test.YthhhomgbpnmeeaaGreatDoorSy17
set_option linter.all false
namespace Go.Sy
open Go
def subV {α} (k : Kd α) (b : Option Nat) (cap o m : Nat) : Value := .slice (if cap = o then b.map fun b => ⟨b, 0, none⟩ else b.map fun b => ⟨b, o * k.n, none⟩) m (cap - o)
section
variable {P : Program} {w w' : World} {c : Cx} {G : Gh} {Δ : List Own} {ops : Array Oper} {Q : Exit → Act → World → Prop} {rest : List Oper} {n : Nat} {a : Act} {l : List (Nat × Value)} {d : Nat} {ty : TypeId} {pos : String} {af : Array Edge}
theorem run_slice_own {α} {k : Kd α} {t E : TypeId} {ag : Bool} {b : Option Nat} {len cap : Nat} {lo hi : Option Operand} {p q : Int} (K : Tm n a l) (hT : slOf P t = some E) (hE : tyOf P E = some (k.n, ag)) (hlo : bo l lo 0 p) (hhi : bo l hi len q) (h0 : 0 ≤ p) (h1 : p ≤ q) (h2 : q ≤ cap) :
    (Instr.sliceAt t (hdr b len cap) (lo.map a.eval) (hi.map a.eval) none).run P w = .ok (subV k b cap p.toNat (q.toNat - p.toNat)) w := by
  have := run_slice_sl (P := P) (w := w) (a0 := b.map fun b => (⟨b, 0, none⟩ : Addr)) (cap := cap) K hT hE hlo hhi h0 h1 h2
  rw [show hdr b len cap = .slice (b.map fun b => (⟨b, 0, none⟩ : Addr)) len cap from rfl, this]
  unfold subV
  congr 2
  split
  · rfl
  · cases b <;> simp [add_flat]
theorem slX {α} (k : Kd α) {t E : TypeId} {ag : Bool} {x : Operand} {lo hi : Option Operand} {b : Option Nat} {len cap : Nat} (p q : Int) (K : Tm n a l) (hx : ev l x = some (hdr b len cap)) (hT : slOf P t = some E) (hE : tyOf P E = some (k.n, ag)) (hlo : bo l lo 0 p) (hhi : bo l hi len q) (hb : sl2 p q cap = true)
    (kk : ∀ a, Tm n a ((d, subV k b cap p.toNat (q.toNat - p.toNat)) :: l) → wpList P ops Q rest a w) (hd : Nat.blt d n = true := by rfl) : wpList P ops Q (⟨some d, .slice t x lo hi none, ty, pos, af, none⟩ :: rest) a w := by
  obtain ⟨h0, h1, h2⟩ := sl2_out hb
  exact sliceOp K hx (run_slice_own K hT hE hlo hhi h0 h1 h2) kk hd
theorem sl2_cap {α} {k : Kd α} {xs : List α} {cap : Nat} {b : Option Nat} {E : TypeId} {p q : Int} (j : Nat) (h : St c G w Δ) (hj : Δ[j]? = some ⟨k, xs, cap, b, E⟩) (hb : sl2 p q xs.length = true) : sl2 p q cap = true := by
  obtain ⟨h0, h1, h2⟩ := sl2_out hb
  have hok := h.own _ (List.mem_of_getElem? hj)
  have hc : xs.length ≤ cap := hok.1
  simp only [sl2, Bool.and_eq_true, decide_eq_true_eq]; exact ⟨⟨h0, h1⟩, by omega⟩
theorem ovr_rep {α} {xs : List α} {o m : Nat} {z : α} (h : o + m ≤ xs.length) : (ovr xs o (List.replicate m z)).length = xs.length := by
  unfold ovr; simp only [List.length_append, List.length_take, List.length_drop, List.length_replicate]; omega
theorem b8_eq {n : Int} (h : isB n = true) : ((b8 n).toNat : Int) = n := b8_toNat (by simpa [isB] using h)
theorem subV_sub {α} {k : Kd α} {xs : List α} {cap : Nat} {b : Option Nat} {E : TypeId} {p q : Int} (j : Nat) (h : St c G w Δ) (hj : Δ[j]? = some ⟨k, xs, cap, b, E⟩) (hb : sl2 p q xs.length = true) : subSl k b p.toNat (q.toNat - p.toNat) (subV k b cap p.toNat (q.toNat - p.toNat)) := by
  obtain ⟨h0, h1, h2⟩ := sl2_out hb
  have hok := h.own _ (List.mem_of_getElem? hj)
  have hc : xs.length ≤ cap := hok.1
  refine ⟨_, _, rfl, ?_⟩
  cases b with
  | none => left; have := hok.2.1 rfl; simp only at this; omega
  | some b =>
    by_cases he : cap = p.toNat
    · left; omega
    · right; exact ⟨b, rfl, by rw [if_neg he]; rfl⟩
theorem frzS {α} {k : Kd α} {xs : List α} {cap : Nat} {b : Option Nat} {T : TypeId} {p q : Int} (j : Nat) (h : St c G w Δ) (hj : Δ[j]? = some ⟨k, xs, cap, b, T⟩) (hb : sl2 p q xs.length = true) :
    ∃ H, Gh.le G H ∧ St c H w (Δ.eraseIdx j) ∧ (kSl k).val H (subV k b cap p.toNat (q.toNat - p.toNat)) (lSub xs p q) := by
  obtain ⟨H, h1, h2, h3⟩ := frz j h hj
  refine ⟨H, h1, h2, ?_⟩
  obtain ⟨h4, h5, h6⟩ := sl2_out hb
  obtain ⟨a0, cap', he, hl, hc, hp⟩ := kSl_val.1 h3
  simp only [hdr, Value.slice.injEq] at he
  obtain ⟨rfl, -, rfl⟩ := he
  have hlen : (lSub xs p q).length = q.toNat - p.toNat := by simp only [lSub, List.length_drop, List.length_take]; omega
  unfold subV
  refine kSl_val.2 ⟨_, cap - p.toNat, by rw [hlen], by rw [hlen]; omega, ?_, ?_⟩
  · intro he
    cases b with
    | none => have := hc rfl; omega
    | some b => split at he <;> simp at he
  · intro u hu
    cases b with
    | none => split at hu <;> simp at hu
    | some b =>
      obtain ⟨h7, C, T', fr, h8, h9, h10⟩ := hp ⟨b, 0, none⟩ rfl
      simp only [Nat.zero_add, List.drop_zero] at h8 h9 h10
      split at hu
      · next hcp =>
        simp only [Option.map_some, Option.some.injEq] at hu; subst hu
        refine ⟨rfl, C, T', fr, h8, ?_, ?_⟩
        · have : (cap - p.toNat) * k.n ≤ cap * k.n := Nat.mul_le_mul_right _ (by omega)
          simp only; omega
        · have : lSub xs p q = [] := List.eq_nil_of_length_eq_zero (by omega)
          rw [this]; trivial
      · simp only [Option.map_some, Option.some.injEq] at hu; subst hu
        refine ⟨rfl, C, T', fr, h8, ?_, ?_⟩
        · simp only
          have : (cap - p.toNat) * k.n = cap * k.n - p.toNat * k.n := Nat.sub_mul ..
          have : p.toNat * k.n ≤ cap * k.n := Nat.mul_le_mul_right _ (by omega)
          omega
        · exact rows_drop p.toNat (rows_take q.toNat h10)
/-! ### an array in a box of one's own, as a slice -/
theorem slAo {α β} {k : Kd α} {f : Kd β} {m : Nat} {hm : 0 < m} (F : Fld k (kArr m hm f)) {T E : TypeId} {ag : Bool} {x : Operand} {b e : Nat} (K : Tm n a l) (hx : ev l x = some (.pointer (some (adr b e k.n F.off)))) (hT : arrOf P T = some (m, E)) (hE : tyOf P E = some (f.n, ag))
    (kk : ∀ a, Tm n a ((d, .slice (some (adr b e k.n F.off)) m m) :: l) → wpList P ops Q rest a w) (hd : Nat.blt d n = true := by rfl) : wpList P ops Q (⟨some d, .slice T x none none none, ty, pos, af, none⟩ :: rest) a w := by
  refine sliceOp (v := .slice (some (adr b e k.n F.off)) m m) K hx ?_ kk hd
  have hb : (Instr.sliceBounds false m m (Option.map a.eval none) (Option.map a.eval none) none).run P w = .ok ((0 : Int).toNat, (m : Int).toNat, m) w := run_bounds K (.inl ⟨rfl, rfl⟩) (.inl ⟨rfl, rfl⟩) (by omega) (by omega) (by omega)
  have he : ¬ m = 0 := by omega
  simp only [Option.map_none, Int.toNat_zero, Int.toNat_natCast] at hb
  simp [Instr.sliceAt, underlying, arrOf_und hT, Instr.sureAddr, adr, hb, run_sizeOf hE, add_flat, he]
theorem frzA {α β} {k : Kd α} {f : Kd β} {m : Nat} {hm : 0 < m} (F : Fld k (kArr m hm f)) {x : α} {b : Nat} {T : TypeId} (j : Nat) (h : St c G w Δ) (hj : Δ[j]? = some ⟨k, [x], 1, some b, T⟩) :
    ∃ H, Gh.le G H ∧ St c H w (Δ.eraseIdx j) ∧ (kSl f).val H (.slice (some (adr b 0 k.n F.off)) m m) (F.get x) := by
  obtain ⟨H, h1, h2, h3⟩ := frzB j h hj
  refine ⟨H, h1, h2, ?_⟩
  obtain ⟨p, hp, hat⟩ := kRef_val.1 h3
  simp only [adr, Fld.id, Nat.zero_mul, Nat.zero_add, Value.pointer.injEq, Option.some.injEq] at hp
  subst hp
  obtain ⟨h4, C, T', fr, h5, h6, h7, h8⟩ := at_field F hat
  simp only [Nat.zero_add] at h7 h8
  have hn : (kArr m hm f).n = m * f.n := rfl
  rw [hn] at h7 h8
  refine kSl_val.2 ⟨_, m, by rw [h6], by omega, by simp, ?_⟩
  intro u hu
  simp only [adr, Nat.zero_mul, Nat.zero_add, Option.some.injEq] at hu
  subst hu
  refine ⟨rfl, C, T', fr, h5, ?_, ?_⟩
  · simp only [List.length_take, List.length_drop, Array.length_toList] at h7
    have := Nat.mul_pos hm f.pos
    simp only; omega
  · exact rows_ext (by rw [h6, List.take_take, Nat.min_self]) h8
/-! ### an element of an array value -/
theorem run_part {β} {f : Kd β} {E : TypeId} {cs : Array Value} {off : Nat} {y : β} (hE : tyOf P E = some (f.n, f.ag)) (hr : f.rep G ((cs.toList.drop off).take f.n) y) : ∃ u, (part E cs off).run P w = .ok u w ∧ f.val G u y := by
  have hl := f.len hr
  cases hag : f.ag with
  | true =>
    rw [hag] at hE
    refine ⟨.agg (cs.extract off (off + f.n)), ?_, Kd.val_of_agg hag ?_⟩
    · simp only [part, Sem.run_bind, run_isAgg hE, Result.andThen_ok, if_true, run_sizeOf hE, Sem.run_pure]
    · have : (cs.extract off (off + f.n)).toList = (cs.toList.drop off).take f.n := by
        rw [Array.toList_extract, List.extract_eq_take_drop, Nat.add_sub_cancel_left]
      rw [this]; exact hr
  | false =>
    rw [hag] at hE
    have h1 := f.one hag
    rw [h1] at hr hl
    obtain ⟨v, hv⟩ : ∃ v, (cs.toList.drop off).take 1 = [v] := by
      match hc : (cs.toList.drop off).take 1, hl with
      | [v], _ => exact ⟨v, rfl⟩
    have hget : cs[off]? = some v := by
      have : ((cs.toList.drop off).take 1)[0]? = some v := by rw [hv]; rfl
      rw [List.getElem?_take_of_lt (by omega), List.getElem?_drop] at this
      simpa using this
    refine ⟨v, ?_, Kd.val_of_one hag (by rw [← hv]; exact hr)⟩
    simp only [part, Sem.run_bind, run_isAgg hE, Result.andThen_ok, Bool.false_eq_true, if_false, hget, Sem.run_pure]
theorem ixav {β} [Inhabited β] {f : Kd β} {m : Nat} {hm : 0 < m} {t E : TypeId} {x q : Operand} {v : Value} {xs : List β} {kd : IntKind} {i : Int} (K : Tm n a l) (hx : ev l x = some v) (hv : (kArr m hm f).val G v xs) (hq : ev l q = some (.int kd i)) (hi : inr i m = true)
    (hT : arrOf P t = some (m, E)) (hE : tyOf P E = some (f.n, f.ag)) (kk : ∀ a u, Tm n a ((d, u) :: l) → f.val G u (gt xs i) → wpList P ops Q rest a w) (hd : Nat.blt d n = true := by rfl) :
    wpList P ops Q (⟨some d, .index t x q, ty, pos, af, none⟩ :: rest) a w := by
  obtain ⟨hi0, hi1⟩ := inr_pos hi
  obtain ⟨hv1, h1, h2, h3⟩ := hv
  have hv1' : ∃ cs, v = .agg cs := by simpa [kArr] using hv1
  obtain ⟨cs, rfl⟩ := hv1'
  have hg := rows_get h3 (gt_some (xs := xs) (i := i) (by rw [h1]; exact hi))
  obtain ⟨u, hu, huv⟩ := run_part (P := P) (w := w) hE hg
  refine op_val rfl (show _ = Result.ok (Next.value u) w from ?_) rfl (kk _ u (K.put hd) huv)
  have hu' : (part E cs (i.toNat * f.n)).run P w = .ok u w := hu
  simp only [execOp, K.eval hx, K.eval hq, Instr.index, asIntOf, Sem.run_bind, Sem.run_pure, Result.andThen_ok, underlying, run_program, arrOf_und hT, if_pos (And.intro hi0 hi1), run_sizeOf hE, hu']
/-! ### a row that has an element is there -/
theorem optJ {α} {k : Kd α} {xs : List α} {cap : Nat} {b : Option Nat} {T : TypeId} {j i : Nat} (h : St c G w Δ) (hj : Δ[j]? = some ⟨k, xs, cap, b, T⟩) (hi : i < xs.length) : Δ[j]? = some ⟨k, xs, cap, some (b.getD 0), T⟩ := by
  have hok := h.own _ (List.mem_of_getElem? hj)
  cases b with
  | none => have h1 := hok.1; have := hok.2.1 rfl; simp only at this h1; omega
  | some b => exact hj
theorem optB {α} {k : Kd α} {xs : List α} {cap : Nat} {b : Option Nat} {T : TypeId} {j i : Nat} (h : St c G w Δ) (hj : Δ[j]? = some ⟨k, xs, cap, b, T⟩) (hi : i < xs.length) : some (b.getD 0) = b := by
  have hok := h.own _ (List.mem_of_getElem? hj)
  cases b with
  | none => have h1 := hok.1; have := hok.2.1 rfl; simp only at this h1; omega
  | some b => rfl
theorem ixoO {α} {k : Kd α} {t E T : TypeId} {x q : Operand} {xs : List α} {cap : Nat} {b : Option Nat} {kd : IntKind} {i : Int} {ag : Bool} {v : Value} (j : Nat) (K : Tm n a l) (h : St c G w Δ) (hj : Δ[j]? = some ⟨k, xs, cap, b, T⟩) (hx : ev l x = some v) (hv : v = hdr b xs.length cap) (hq : ev l q = some (.int kd i)) (hi : inr i xs.length = true)
    (hT : slOf P t = some E) (hE : tyOf P E = some (k.n, ag)) (kk : ∀ a, Tm n a ((d, .pointer (some (adr (b.getD 0) i.toNat k.n (Fld.id k).off))) :: l) → wpList P ops Q rest a w) (hd : Nat.blt d n = true := by rfl) :
    wpList P ops Q (⟨some d, .indexAddr t x q, ty, pos, af, none⟩ :: rest) a w := by
  subst hv
  have hb := optB h hj (inr_lt hi)
  refine ixo (b := b.getD 0) (xs := xs) (cap := cap) K ?_ hq hi hT hE kk hd
  rw [hb]; exact hx
/-! ### operations that give nothing -/
theorem op_val0 {o : Oper} {v : Value} (hg : o.guard = none) (hrun : (execOp a.eval o).run P w = .ok (.value v) w') (hd : o.dst = none)
    (k : wpList P ops Q rest a w') : wpList P ops Q (o :: rest) a w := by
  unfold wpList
  rw [if_pos (by simp [Region.wanted, hg])]
  refine .inl ?_
  unfold Oper.wp
  rw [hrun]
  unfold Oper.upon Act.put
  rw [hd]
  exact k
theorem bi0 {b : Builtin} {xs : List Operand} {vs : List Value} {tys : Array TypeId} {v : Value} (K : Tm n a l) (hv : evs l xs = some vs)
    (hr : (builtin b tys ty (xs.toArray.map fun | .const _ => true | _ => false) vs.toArray).run P w = .ok (.value v) w')
    (kk : wpList P ops Q rest a w') : wpList P ops Q (⟨none, .call ⟨.builtin b, xs.toArray, tys⟩, ty, pos, af, none⟩ :: rest) a w := by
  refine op_val0 rfl (show _ = Result.ok (Next.value v) w' from ?_) rfl kk
  have := K.evs hv
  have e : (Array.map a.eval xs.toArray : Array Value) = vs.toArray := by simp [this]
  simp only [execOp, resolve, Sem.run_bind, Sem.run_pure, Result.andThen_ok, invoke]
  rw [e]; exact hr
theorem capO {t E : TypeId} {tys : Array TypeId} {x : Operand} {a0 : Option Addr} {m cap : Nat} (K : Tm n a l) (hx : ev l x = some (.slice a0 m cap)) (ht : tys = #[t]) (hT : slOf P t = some E)
    (kk : ∀ a, Tm n a ((d, .int .i64 cap) :: l) → wpList P ops Q rest a w) (hd : Nat.blt d n = true := by rfl) : wpList P ops Q (⟨some d, .call ⟨.builtin .cap, #[x], tys⟩, ty, pos, af, none⟩ :: rest) a w := by
  subst ht
  refine bi (xs := [x]) K (evs1 hx) (v := .int .i64 cap) ?_ kk hd
  simp [builtin, Builtin.cap_, underlying, slOf_und hT, goInt]
/-! ### what reads as a list of elements -/
def Rd {α} (P : Program) (k : Kd α) (G : Gh) (w : World) (u : Value) (ys : List α) : Prop :=
  (∀ w1 : World, (Builtin.lenOf u).run P w1 = .ok ys.length w1) ∧ ∃ ns : List Value, ns.length = ys.length * k.n ∧ rows k G ns ys ∧
    ∀ w1 : World, w1.heap = w.heap → ∀ m, m ≤ ys.length → (Builtin.firstCells k.n m u).run P w1 = .ok (ns.take (m * k.n)).toArray w1
theorem rd_sub {α} {k : Kd α} {xs : List α} {cap : Nat} {b : Option Nat} {E : TypeId} {j o m : Nat} (h : St c G w Δ) (hj : Δ[j]? = some ⟨k, xs, cap, b, E⟩) (hm : o + m ≤ xs.length) : Rd P k G w (subV k b cap o m) ((xs.drop o).take m) := by
  have hok := h.own _ (List.mem_of_getElem? hj)
  have hlen : ((xs.drop o).take m).length = m := by simp only [List.length_take, List.length_drop]; omega
  refine ⟨fun w1 => by rw [hlen]; rfl, ?_⟩
  cases b with
  | none =>
    have hc := hok.2.1 rfl
    have hl := hok.1
    simp only at hc hl
    have : m = 0 := by omega
    subst this
    refine ⟨[], by simp, by simp [rows], fun w1 _ q hq => ?_⟩
    simp only [List.take_zero, List.length_nil, Nat.le_zero] at hq
    subst hq
    unfold subV
    split <;> simp [Builtin.firstCells]
  | some b =>
    obtain ⟨_, C, fr, h1, h2, h3, h4⟩ := hok.2.2 b rfl
    simp only at h1 h2 h4
    have hl := rows_len h4
    have hle : (o + m) * k.n ≤ xs.length * k.n := Nat.mul_le_mul_right _ hm
    rw [Nat.add_mul] at hle
    refine ⟨(C.toList.drop (o * k.n)).take (m * k.n), by rw [hlen]; simp only [List.length_take, List.length_drop]; omega, ?_, fun w1 hw1 q hq => ?_⟩
    · have hr := rows_take m (rows_drop o h4)
      refine rows_ext ?_ hr
      rw [hlen, List.take_take, Nat.min_self]
    · rw [hlen] at hq
      have hq' : q * k.n ≤ m * k.n := Nat.mul_le_mul_right _ hq
      rw [← hw1] at h1
      rw [List.take_take, Nat.min_eq_left hq']
      unfold subV
      split
      · next he =>
        have hl1 := hok.1
        simp only at hl1
        have : m = 0 := by omega
        subst this
        have : q = 0 := by omega
        subst this
        simp only [Option.map_some, Builtin.firstCells, Nat.zero_mul, List.take_zero]
        exact run_loadCells_block h1 (by simp)
      · simp only [Option.map_some, Builtin.firstCells]
        exact run_loadCells_block h1 (by simp only [List.length_take, List.length_drop]; omega)
theorem rd_own {α} {k : Kd α} {xs : List α} {cap : Nat} {b : Option Nat} {E : TypeId} {j : Nat} (h : St c G w Δ) (hj : Δ[j]? = some ⟨k, xs, cap, b, E⟩) : Rd P k G w (hdr b xs.length cap) xs := by
  have := rd_sub (P := P) (o := 0) (m := xs.length) h hj (by omega)
  rw [List.drop_zero, List.take_length] at this
  have e : subV k b cap 0 xs.length = hdr b xs.length cap := by
    unfold subV
    simp only [Nat.zero_mul, Nat.sub_zero, ite_self]
  rw [e] at this; exact this
theorem own_end {α} {k : Kd α} {xs zs : List α} {cap : Nat} {b : Nat} {E : TypeId} {j o : Nat} {ns : List Value} (h : St c G w Δ) (hj : Δ[j]? = some ⟨k, xs, cap, some b, E⟩) (ho : o ≤ xs.length) (hc : o + zs.length ≤ cap) (hn : ns.length = zs.length * k.n) (hr : rows k G ns zs) :
    ∃ w', (storeCells ⟨b, o * k.n, none⟩ ns).run P w = .ok () w' ∧ St c G w' (Δ.set j ⟨k, xs.take o ++ zs, cap, some b, E⟩) := by
  have hok := h.own _ (List.mem_of_getElem? hj)
  have hpl : ∀ x ∈ ns, plain x = true := by
    have := rows_pl hr
    rw [← hn, List.take_length] at this; exact this
  obtain ⟨_, C, fr, h3, h4, h5, h6⟩ := hok.2.2 b rfl
  simp only at h3 h4 h6
  have hlen : xs.length * k.n ≤ C.toList.length := rows_len h6
  have hle : (o + zs.length) * k.n ≤ cap * k.n := Nat.mul_le_mul_right _ hc
  have hle2 : o * k.n ≤ xs.length * k.n := Nat.mul_le_mul_right _ ho
  rw [Nat.add_mul] at hle
  simp only [Array.length_toList] at hlen
  obtain ⟨w', hrun, hw⟩ := run_storeCells_block (P := P) (o := o * k.n) ns 0 w C h3 h5 hpl (by omega)
  simp only [Nat.add_zero] at hw
  refine ⟨w', hrun, ?_⟩
  refine St.push (e := ⟨k, xs, cap, some b, E⟩) ?_ hj
  have hsl : (splice C.toList (o * k.n) ns).length = C.toList.length := splice_length (by simp only [Array.length_toList]; omega)
  refine St.put (h.pull hj) (fun b' => hw.heap b') hw.size hw.os hw.tape hw.output (by simp only [List.length_append, List.length_take]; omega) (by simp only [List.size_toArray]; rw [hsl]; simpa using h4) (soft_splice h5 (by simp only [List.size_toArray]; rw [hsl]; simp)) ?_
  have hrow : rows k G ((C.toList.take (o * k.n)) ++ ns) (xs.take o ++ zs) := by
    refine rows_append (rows_ext ?_ (rows_take o h6)) ?_ hr
    · rw [List.length_take, Nat.min_eq_left ho, List.take_take, Nat.min_self]
    · simp only [List.length_take, Array.length_toList]; rw [Nat.min_eq_left ho]; omega
  refine rows_ext (cs := (C.toList.take (o * k.n)) ++ ns) ?_ hrow
  have hlt : ((C.toList.take (o * k.n)) ++ ns).length = (xs.take o ++ zs).length * k.n := by
    simp only [List.length_append, List.length_take, Array.length_toList, Nat.add_mul]; rw [Nat.min_eq_left ho]; omega
  rw [← hlt, List.take_length]
  exact (List.take_left' rfl).symm
end
end Go.Sy
