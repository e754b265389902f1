/- A library for walks that a program prints: kinds of data, what a call owns, one lemma for each operation. No conditions. -/
import Derived.Test.YthhhomgbpnmeeaaGreatDoorSy18
import Derived.Laws.Externs
set_option linter.all false
namespace Go.Sy
open Go
theorem sl2_i {p q : Int} {n : Nat} (h0 : 0 ≤ p) (h1 : p ≤ q) (h2 : q ≤ n) : sl2 p q n = true := by
  simp only [sl2, Bool.and_eq_true, decide_eq_true_eq]; exact ⟨⟨h0, h1⟩, h2⟩
def ins {α} (xs : List α) (i : Int) (ys : List α) : List α := xs.take i.toNat ++ ys ++ xs.drop i.toNat
def insB (n : Nat) (i : Int) (m : Nat) : Bool := decide (0 ≤ i) && decide (i ≤ n) && (m == 1) && decide (n + 1 ≤ maxS)
theorem insB_out {n m : Nat} {i : Int} (h : insB n i m = true) : 0 ≤ i ∧ i ≤ n ∧ m = 1 ∧ n + 1 ≤ maxS := by
  simp only [insB, Bool.and_eq_true, decide_eq_true_eq, beq_iff_eq] at h; exact ⟨h.1.1.1, h.1.1.2, h.1.2, h.2⟩
section
variable {P : Program} {w w' : World} {c : Cx} {G : Gh} {Δ : List Own} {ops : Array Oper} {Q : Exit → Act → World → Prop} {rest : List Oper} {n : Nat} {a : Act} {l : List (Nat × Value)} {d : Nat} {ty : TypeId} {pos : String} {af : Array Edge}
theorem subV_0 {α} {k : Kd α} {b : Option Nat} {cap m : Nat} : subV k b cap 0 m = hdr b m cap := by
  unfold subV
  simp only [Nat.zero_mul, Nat.sub_zero, ite_self]
theorem slX0 {α} (k : Kd α) {t E : TypeId} {ag : Bool} {x : Operand} {hi : Option Operand} {b : Option Nat} {len cap : Nat} (q : Int) (K : Tm n a l) (hx : ev l x = some (hdr b len cap)) (hT : slOf P t = some E) (hE : tyOf P E = some (k.n, ag)) (hhi : bo l hi len q) (hb : sl2 0 q cap = true)
    (kk : ∀ a, Tm n a ((d, hdr b q.toNat cap) :: l) → wpList P ops Q rest a w) (hd : Nat.blt d n = true := by rfl) : wpList P ops Q (⟨some d, .slice t x none hi none, ty, pos, af, none⟩ :: rest) a w :=
  slX k 0 q K hx hT hE (.inl ⟨rfl, rfl⟩) hhi hb (fun a K' => kk a (by
    have e : subV k b cap (0 : Int).toNat (q.toNat - (0 : Int).toNat) = hdr b q.toNat cap := subV_0
    rw [← e]; exact K')) hd
theorem appOO {α} {k : Kd α} {xs ys : List α} {cap cap2 : Nat} {b b2 : Option Nat} {E t t2 E2 : TypeId} {o q : Operand} {tys : Array TypeId} (j j2 : Nat) (K : Tm n a l) (h : St c G w Δ) (hj : Δ[j]? = some ⟨k, xs, cap, b, E⟩) (hj2 : Δ[j2]? = some ⟨k, ys, cap2, b2, E2⟩)
    (hx : ev l o = some (hdr b xs.length cap)) (hy : ev l q = some (hdr b2 ys.length cap2)) (ht : tys = #[t, t2]) (hT : slOf P t = some E) (hT2 : slOf P t2 = some E2) (hE : elB P E k.n = true) (hroom : xs.length + ys.length ≤ maxS)
    (kk : ∀ a w b cap, Tm n a ((d, hdr b (xs ++ ys).length cap) :: l) → St c G w (Δ.set j ⟨k, xs ++ ys, cap, b, E⟩) → wpList P ops Q rest a w) (hd : Nat.blt d n = true := by rfl) :
    wpList P ops Q (⟨some d, .call ⟨.builtin .append, #[o, q], tys⟩, ty, pos, af, none⟩ :: rest) a w := by
  subst ht
  obtain ⟨ns, hn, hr, hf⟩ := own_cells (P := P) h hj2
  obtain ⟨b', cap', w', hrun, hst, hs⟩ := run_append (ty := ty) h hj hT hE (slOf_und hT2) (.inl ⟨_, rfl⟩) rfl hn hr hf hroom
  refine bi (xs := [o, q]) K (evs2 hx hy) (v := hdr b' (xs ++ ys).length cap') ?_ (fun a K' => kk a w' b' cap' K' hst) hd
  simp only [builtin, Sem.run_bind, hrun, Result.andThen_ok, Sem.run_pure]
def isIntT (P : Program) (t : TypeId) : Bool := match P.underlying t with | some (.int _) => true | _ => false
theorem isIntT_out {t : TypeId} (h : isIntT P t = true) : ∃ e, P.underlying t = some (.int e) := by
  unfold isIntT at h
  split at h
  · next e he => exact ⟨e, he⟩
  · cases h
theorem appZ {α} {k : Kd α} {xs : List α} {z : α} {cap : Nat} {b : Option Nat} {E t t2 : TypeId} {o q : Operand} {tys : Array TypeId} {i : Nat} {m : Int} (j : Nat) (K : Tm n a l) (h : St c G w Δ) (hj : Δ[j]? = some ⟨k, xs, cap, b, E⟩)
    (hx : ev l o = some (hdr b i cap)) (hy : ev l q = some (.int .i64 m)) (ht : tys = #[t, t2]) (hT : slOf P t = some E) (hT2 : isIntT P t2 = true) (hE : elB P E k.n = true) (hz : Zr P k E z) (hi : i ≤ xs.length) (hm0 : 0 ≤ m) (hbig : cap < i + m.toNat) (hroom : i + m.toNat ≤ maxS)
    (kk : ∀ a w b' cap', Tm n a ((d, hdr (some b') (i + m.toNat) cap') :: l) → St c G w (⟨k, xs.take i ++ List.replicate m.toNat z, cap', some b', E⟩ :: Δ) → wpList P ops Q rest a w) (hd : Nat.blt d n = true := by rfl) :
    wpList P ops Q (⟨some d, .call ⟨.builtin .append, #[o, q], tys⟩, ty, pos, af, none⟩ :: rest) a w := by
  subst ht
  obtain ⟨ik, hik⟩ := isIntT_out hT2
  obtain ⟨inf, v, du, hi', hdu, hs, hby, hzz, hzs⟩ := elB_out hE
  obtain ⟨i2, v2, hi2, hz2, hv2⟩ := hz
  rw [hi'] at hi2; cases hi2
  rw [hzz] at hz2; cases hz2
  have hsz : tyOf P E = some (k.n, isAggD du) := by simp [tyOf, hi', hdu, hs]
  have hpos := k.pos
  have hvl : v.cells.toList.length = k.n := by simpa using hzs
  have hw64 : IntKind.i64.wrap m = m := by unfold maxS at hroom; exact wrap64_id (by omega) (by omega)
  have hnc := nextcap_le hroom hbig
  have hres : ¬ Builtin.nextslicecap (i + m.toNat) cap * inf.bytes > 2 ^ 48 := by
    have h5 := Nat.mul_le_mul hnc hby
    omega
  have hbyt : ¬ m * (inf.bytes : Int) > 2 ^ 48 := by
    have h1 : m * (inf.bytes : Int) ≤ m * 65536 := Int.mul_le_mul_of_nonneg_left (by omega) hm0
    unfold maxS at hroom
    omega
  obtain ⟨hlen, ns, hn, hr, hf⟩ := rd_sub (P := P) (o := 0) (m := i) h hj (by omega)
  rw [List.drop_zero] at hlen hn hr hf
  have hti : (xs.take i).length = i := by simp only [List.length_take]; omega
  rw [hti] at hlen hn hf
  rw [subV_0] at hf
  obtain ⟨nc, hnc'⟩ : ∃ nc, (Question.appendCap (i + m.toNat) cap E).cut (w.tape w.drawn (.appendCap (i + m.toNat) cap E)) = nc := ⟨_, rfl⟩
  have hge : i + m.toNat ≤ nc := by rw [← hnc']; simp only [Question.cut]; omega
  have hint : ¬ (((i + m.toNat : Nat) : Int) > IntKind.i64.max) := by
    have : IntKind.i64.max = 9223372036854775807 := by decide
    unfold maxS at hroom; omega
  have hzc := zero_cells (v := v) (m := m.toNat) (by omega)
  obtain ⟨zs, hzs'⟩ : ∃ zs, Builtin.zeroCells v.cells m.toNat = zs := ⟨_, rfl⟩
  have hzlen : zs.size = m.toNat * k.n := by
    rw [← hzs', ← Array.length_toList, hzc]; simp [List.sum_replicate_nat, hvl]
  have hz0 : ∀ w1 : World, (zeroValue E).run P w1 = .ok v w1 := fun w1 => by simp only [zeroValue, typeInfo, Sem.run_bind, run_program, Result.andThen_ok, hi', hzz, Sem.run_pure]
  have happ : ∀ w1 : World, (if m.toNat * k.n = 0 then pure #[] else do pure (Builtin.zeroCells (← zeroValue E).cells m.toNat) : Sem (Array Value)).run P w1 = .ok zs w1 := by
    intro w1
    by_cases h0 : m.toNat * k.n = 0
    · rw [if_pos h0]
      have : zs = #[] := Array.eq_empty_of_size_eq_zero (by rw [hzlen, h0])
      rw [this]; rfl
    · rw [if_neg h0]
      simp only [Sem.run_bind, hz0, Result.andThen_ok, Sem.run_pure, hzs']
  refine bi (xs := [o, q]) K (evs2 hx hy) (v := hdr (some w.heap.size) (i + m.toNat) nc) (w' := { w with drawn := w.drawn + 1, heap := w.heap.push (.cells (ns.toArray ++ zs ++ Builtin.zeroCells v.cells (nc - (i + m.toNat))) E) }) ?_ (fun a K' => kk a _ _ nc K' ?_) hd
  · have ho0 := hf { w with drawn := w.drawn + 1 } rfl i (Nat.le_refl _)
    rw [← hn, List.take_length] at ho0
    have hch : (choose (.appendCap (i + m.toNat) cap E)).run P w = .ok nc { w with drawn := w.drawn + 1 } := by rw [run_choose, show (Question.appendCap (i + m.toNat) cap E).forced = false from rfl]; simp only [Bool.false_eq_true, if_false, hnc']
    have hti' : ∀ w1 : World, (typeInfo E).run P w1 = .ok inf w1 := fun w1 => by simp only [typeInfo, Sem.run_bind, run_program, Result.andThen_ok, hi', Sem.run_pure]
    have hfit : ¬ (i + m.toNat ≤ cap) := by omega
    simp only [builtin, Builtin.append_, List.getElem?_toArray, List.getElem?_cons_zero, List.getElem?_cons_succ, underlying, Sem.run_bind, run_program, Result.andThen_ok, slOf_und hT, Sem.run_pure, hdr, run_sizeOf hsz, hik, if_true, asInt, asIntOf, hw64, Sem.run_ite, if_neg (show ¬ m < 0 by omega), hti', if_neg hbyt, if_neg hfit, Bool.not_true, Bool.false_eq_true, if_false, true_or, and_true, if_neg hint, if_neg hres, hch, run_askRoom]
    simp only [hdr] at ho0
    by_cases h0 : m.toNat * k.n = 0
    · have hz : zs = #[] := Array.eq_empty_of_size_eq_zero (by rw [hzlen, h0])
      simp only [ho0, Result.andThen_ok, if_pos h0, hz, hz0, newRow, Sem.run_bind, run_newObj, Sem.run_pure, Option.map_some]
    · simp only [ho0, Result.andThen_ok, if_neg h0, hzs', hz0, newRow, Sem.run_bind, run_newObj, Sem.run_pure, Option.map_some]
  · have h' : St c G { w with drawn := w.drawn + 1 } Δ := h.drew
    refine St.new (w := { w with drawn := w.drawn + 1 }) h' rfl rfl rfl rfl (by simp only [List.length_append, hti, List.length_replicate]; exact hge) ?_ ?_
    · simp only [Array.size_append, List.size_toArray, hn, hzlen, Builtin.zeroCells, Array.size_map, Array.size_range, hzs]
      rw [← Nat.add_mul, ← Nat.add_mul]; congr 1; omega
    · simp only [Array.toList_append]
      have hzr : rows k G zs.toList (List.replicate m.toNat z) := by rw [← hzs', hzc]; exact rows_replicate (hv2 G).2 m.toNat
      refine rows_ext (cs := ns ++ zs.toList) ?_ (rows_append hr (by rw [hti]; exact hn) hzr)
      have hlen2 : (ns ++ zs.toList).length = (xs.take i ++ List.replicate m.toNat z).length * k.n := by simp only [List.length_append, hn, hti, List.length_replicate, Array.length_toList, hzlen, Nat.add_mul]
      rw [← hlen2, List.take_length, List.take_left' rfl]
theorem cpIn {α} {k : Kd α} {xs zs : List α} {cap : Nat} {b : Option Nat} {E t t2 : TypeId} {ag : Bool} {x y : Operand} {u : Value} {o m : Nat} {tys : Array TypeId} (j : Nat) (K : Tm n a l) (h : St c G w Δ) (hj : Δ[j]? = some ⟨k, xs, cap, b, E⟩) (hx : ev l x = some (subV k b cap o m)) (hy : ev l y = some u) (hu : Rd P k G w u zs)
    (hl : o + m ≤ xs.length) (ht : tys = #[t, t2]) (hT : slOf P t = some E) (hE : tyOf P E = some (k.n, ag))
    (kk : ∀ a w, Tm n a ((d, .int .i64 (min zs.length m : Nat)) :: l) → St c G w (Δ.set j ⟨k, ovr xs o (zs.take m), cap, b, E⟩) → wpList P ops Q rest a w) (hd : Nat.blt d n = true := by rfl) :
    wpList P ops Q (⟨some d, .call ⟨.builtin .copy, #[x, y], tys⟩, ty, pos, af, none⟩ :: rest) a w := by
  subst ht
  obtain ⟨hlen, ns, hn, hr, hf⟩ := hu
  have hmin : Nat.min zs.length m = min zs.length m := rfl
  have hf0 := hf w rfl (min zs.length m) (Nat.min_le_left ..)
  have htk : zs.take m = zs.take (min zs.length m) := by
    rcases Nat.le_total zs.length m with h1 | h1
    · rw [Nat.min_eq_left h1, List.take_length, List.take_of_length_le h1]
    · rw [Nat.min_eq_right h1]
  have hsub : subSl k b o m (subV k b cap o m) := by
    have hok := h.own _ (List.mem_of_getElem? hj)
    have hc : xs.length ≤ cap := hok.1
    refine ⟨_, _, rfl, ?_⟩
    cases b with
    | none => left; have := hok.2.1 rfl; simp only at this; omega
    | some b =>
      by_cases he : cap = o
      · left; omega
      · right; exact ⟨b, rfl, by rw [if_neg he]; rfl⟩
  obtain ⟨a0, cap', he, w', hrun, hst⟩ := own_copy (P := P) (zs := zs.take m) (ns := ns.take (min zs.length m * k.n)) h hj hsub (by simp only [List.length_take]; omega) hl
    (by
      simp only [List.length_take, hn]
      have : min zs.length m * k.n ≤ zs.length * k.n := Nat.mul_le_mul_right _ (Nat.min_le_left ..)
      rw [Nat.min_eq_left this, Nat.min_comm])
    (by
      rw [htk]
      refine rows_ext (cs := ns) ?_ (rows_take _ hr)
      simp only [List.length_take, Nat.min_eq_left (Nat.min_le_left zs.length m), List.take_take, Nat.min_self])
  rw [he] at hx
  refine bi (xs := [x, y]) K (evs2 hx hy) (v := .int .i64 (min zs.length m : Nat)) ?_ (fun a K' => kk a w' K' hst) hd
  simp only [builtin, Builtin.copy_, List.getElem?_toArray, List.getElem?_cons_zero, List.getElem?_cons_succ, underlying, Sem.run_bind, run_program, Result.andThen_ok, slOf_und hT, Sem.run_pure, hlen, hmin, run_sizeOf hE, hf0]
  cases a0 <;> simp_all [goInt]
theorem run_ovl {α} {k : Kd α} {xs ys : List α} {cap cap2 b b2 : Nat} {E S B : TypeId} {ag : Bool} {j j2 o m : Nat} (h : St c G w Δ) (hj : Δ[j]? = some ⟨k, xs, cap, some b, E⟩) (hj2 : Δ[j2]? = some ⟨k, ys, cap2, some b2, E⟩) (hne : b ≠ b2)
    (hT : slOf P S = some E) (hE : tyOf P E = some (k.n, ag)) (h1 : 1 < k.n) : (Extern.SlicesOverlaps.overlaps #[S, S] #[B] #[hdr (some b2) ys.length cap2, subV k (some b) cap o m]).run P w = .ok (.bool false) w := by
  obtain ⟨_, C, fr, q1, q2, q3, q4⟩ := (h.own _ (List.mem_of_getElem? hj)).2.2 b rfl
  obtain ⟨_, C2, fr2, p1, p2, p3, p4⟩ := (h.own _ (List.mem_of_getElem? hj2)).2.2 b2 rfl
  simp only at q1 q2 p1 p2
  have e1 := q3.2.1 h1
  have e2 := p3.2.1 h1
  subst e1 e2
  have hsb : w.shape? b = some (E, C.size) := by simp [World.shape?, q1]
  have hsa : w.shape? b2 = some (E, C2.size) := by simp [World.shape?, p1]
  have hfb : ∀ o, w.frozen? ⟨b, o, none⟩ = false := fun o => by simp [World.frozen?, q1]
  have hfa : ∀ o, w.frozen? ⟨b2, o, none⟩ = false := fun o => by simp [World.frozen?, p1]
  have hnb : (b2 != b) = true := by simpa using fun e => hne e.symm
  have hnb' : (b2 == b) = false := by simpa using fun e => hne e.symm
  obtain ⟨o', hV⟩ : ∃ o', subV k (some b) cap o m = .slice (some ⟨b, o', none⟩) m (cap - o) := by
    unfold subV
    split
    · exact ⟨0, rfl⟩
    · exact ⟨_, rfl⟩
  rw [hV]
  change Sem.run P (α := Value) (do
    let some t := (#[S, S] : Array TypeId)[0]? | stuck "slices.overlaps: no parameter types"
    let .slice elem ← underlying t | stuck "slices.overlaps: slice type expected"
    let size ← sizeOf elem
    match (some ⟨b2, 0, none⟩ : Option Addr), (some ⟨b, o', none⟩ : Option Addr) with
    | some a, some b =>
      if ys.length = 0 ∨ m = 0 ∨ size = 0 then pure (Value.bool false)
      else if a.block != b.block && (← frozen a) && (← frozen b) then unsupported .addressObserved
      else do
        if a.block != b.block then do
          noView a; noView b
          if ← mayBeOne a b then return Value.bool ((← choose (.extern "sameAddr.stringBytes" 2)) == 1)
        pure (Value.bool (a.block == b.block && a.off < b.off + m * size && b.off < a.off + ys.length * size))
    | _, _ => pure (Value.bool false)) w = _
  have hund : ∀ w1 : World, (underlying S).run P w1 = .ok (.slice E) w1 := fun w1 => by simp only [underlying, Sem.run_bind, run_program, Result.andThen_ok, slOf_und hT, Sem.run_pure]
  have hsz : ∀ w1 : World, (sizeOf E).run P w1 = .ok k.n w1 := fun w1 => run_sizeOf hE
  by_cases h0 : ys.length = 0 ∨ m = 0 ∨ k.n = 0
  · simp only [Sem.run_bind, hund, hsz, Result.andThen_ok, if_pos h0, Sem.run_pure, List.getElem?_toArray, List.getElem?_cons_zero]
  · have hfz : ∀ (a : Addr) (w1 : World), (frozen a).run P w1 = .ok (w1.frozen? a) w1 := fun a w1 => rfl
    have hsh : ∀ (r : Nat) (w1 : World), (shape r).run P w1 = .ok (w1.shape? r) w1 := fun a w1 => rfl
    have hv1 : (noView ⟨b2, 0, none⟩).run P w = .ok () w := by simp only [noView, viewAt, Sem.run_bind, hsh, hsa, Result.andThen_ok, Option.isSome_some, if_true, Sem.run_pure]; rfl
    have hv2 : (noView ⟨b, o', none⟩).run P w = .ok () w := by simp only [noView, viewAt, Sem.run_bind, hsh, hsb, Result.andThen_ok, Option.isSome_some, if_true, Sem.run_pure]; rfl
    have hs1 : (stringish ⟨b2, 0, none⟩).run P w = .ok false w := by simp only [stringish, Sem.run_bind, hfz, hfa, Result.andThen_ok, Bool.false_eq_true, if_false, hsh, hsa, Sem.run_pure]
    have hs2 : (stringish ⟨b, o', none⟩).run P w = .ok false w := by simp only [stringish, Sem.run_bind, hfz, hfb, Result.andThen_ok, Bool.false_eq_true, if_false, hsh, hsb, Sem.run_pure]
    have hmb : (mayBeOne ⟨b2, 0, none⟩ ⟨b, o', none⟩).run P w = .ok false w := by simp [mayBeOne, hs1, hs2]
    simp only [Sem.run_bind, hund, hsz, Result.andThen_ok, if_neg h0, Sem.run_ite, hnb, hfz, hfa, hfb, hv1, hv2, hmb, Bool.and_false, Bool.false_and, Bool.true_and, Bool.false_eq_true, if_false, if_true, Sem.run_pure, hnb', List.getElem?_toArray, List.getElem?_cons_zero]
theorem clrP0 {α} {k : Kd α} {xs : List α} {z : α} {cap : Nat} {b : Option Nat} {E t : TypeId} {x : Operand} {v : Value} {o m : Nat} {tys : Array TypeId} (j : Nat) (K : Tm n a l) (h : St c G w Δ) (hj : Δ[j]? = some ⟨k, xs, cap, b, E⟩) (hx : ev l x = some v) (hv : subSl k b o m v)
    (hl : o + m ≤ xs.length) (ht : tys = #[t]) (hT : slOf P t = some E) (hE : elB P E k.n = true) (hz : Zr P k E z)
    (kk : ∀ w, St c G w (Δ.set j ⟨k, ovr xs o (List.replicate m z), cap, b, E⟩) → wpList P ops Q rest a w) :
    wpList P ops Q (⟨none, .call ⟨.builtin .clear, #[x], tys⟩, ty, pos, af, none⟩ :: rest) a w := by
  subst ht
  obtain ⟨i, v0, du, hi, hdu, hs, hby, hzz, hzs⟩ := elB_out hE
  obtain ⟨i2, v2, hi2, hz2, hv2⟩ := hz
  rw [hi] at hi2; cases hi2
  rw [hzz] at hz2; cases hz2
  have hvl : v0.cells.toList.length = k.n := by simpa using hzs
  have hpos := k.pos
  obtain ⟨a0, cap', rfl, w', hrun, hst⟩ := own_copy (P := P) (zs := List.replicate m z) (ns := (List.replicate m v0.cells.toList).flatten) h hj hv (by simp) hl
    (by simp [List.sum_replicate_nat, hvl]) (rows_replicate (hv2 G).2 m)
  have hz0 : ∀ w1 : World, (zeroValue E).run P w1 = .ok v0 w1 := fun w1 => by simp only [zeroValue, typeInfo, Sem.run_bind, run_program, Result.andThen_ok, hi, hzz, Sem.run_pure]
  have hzc := zero_cells (v := v0) (m := m) (by omega)
  refine bi0 (xs := [x]) K (evs1 hx) (v := .tuple #[]) (w' := w') ?_ (kk w' hst)
  simp only [builtin, Builtin.clear_, List.getElem?_toArray, List.getElem?_cons_zero, underlying, Sem.run_bind, run_program, Result.andThen_ok, slOf_und hT, Sem.run_pure]
  cases a0 with
  | none =>
    simp only [Sem.run_pure, Result.ok.injEq, true_and] at hrun
    subst hrun
    simp
  | some p =>
    cases m with
    | zero =>
      simp only [List.replicate_zero, List.flatten_nil, storeCells, Sem.run_pure, Result.ok.injEq, true_and] at hrun
      subst hrun
      simp
    | succ m =>
      simp only [Sem.run_bind, hz0, Result.andThen_ok, hzc]
      simp only at hrun
      rw [hrun]; rfl
theorem own_some {α} {k : Kd α} {xs : List α} {cap : Nat} {b : Option Nat} {E : TypeId} (j : Nat) (h : St c G w Δ) (hj : Δ[j]? = some ⟨k, xs, cap, b, E⟩) (hp : 0 < xs.length) : ∃ b', b = some b' :=
  ⟨_, (optB h hj hp).symm⟩
theorem own_ne {α β} {k : Kd α} {xs : List α} {cap b : Nat} {E : TypeId} {k2 : Kd β} {ys : List β} {cap2 b2 : Nat} {E2 : TypeId} (i j : Nat) (hij : i < j) (h : St c G w Δ) (hi : Δ[i]? = some ⟨k, xs, cap, some b, E⟩) (hj : Δ[j]? = some ⟨k2, ys, cap2, some b2, E2⟩) : b ≠ b2 := by
  rintro rfl
  have hn := h.nd
  clear h
  induction Δ generalizing i j with
  | nil => simp at hi
  | cons e Δ ih =>
    have hn' : (Δ.filterMap (·.b)).Nodup := by
      simp only [List.filterMap_cons] at hn
      split at hn
      · exact hn
      · exact (List.nodup_cons.1 hn).2
    cases j with
    | zero => omega
    | succ j =>
      cases i with
      | zero =>
        simp only [List.getElem?_cons_zero, Option.some.injEq] at hi
        simp only [List.getElem?_cons_succ] at hj
        subst hi
        simp only [List.filterMap_cons] at hn
        exact (List.nodup_cons.1 hn).1 (List.mem_filterMap.2 ⟨_, List.mem_of_getElem? hj, rfl⟩)
      | succ i => exact ih i j (by omega) (by simpa using hi) (by simpa using hj) hn'
theorem insZ {α} {xs ys : List α} {z : α} {p : Int} {x y u : Nat} (h0 : 0 ≤ p) (h1 : p ≤ xs.length) (h2 : ys.length = 1) (hx : 1 ≤ x) (hy : xs.length - p.toNat ≤ y) (hu : xs.length - p.toNat ≤ u) :
    ovr (ovr (xs.take p.toNat ++ List.replicate ((xs.length : Int) + 1 - p).toNat z) p.toNat (ys.take x)) (p + 1).toNat (((xs.drop p.toNat).take y).take u) = ins xs p ys := by
  obtain ⟨i, rfl⟩ : ∃ i : Nat, p = i := ⟨p.toNat, (Int.toNat_of_nonneg h0).symm⟩
  have e1 : ((i : Int) + 1).toNat = i + 1 := by omega
  have e2 : ((xs.length : Int) + 1 - (i : Int)).toNat = xs.length - i + 1 := by omega
  have e3 : ys.take x = ys := List.take_of_length_le (by omega)
  have e4 : ((xs.drop i).take y).take u = xs.drop i := by
    have hi : (xs.drop i).length = xs.length - i := List.length_drop
    have : ((i : Int)).toNat = i := rfl
    rw [this] at hy hu
    rw [List.take_of_length_le (l := xs.drop i) (by omega), List.take_of_length_le (by omega)]
  rw [Int.toNat_natCast, e1, e2, e3, e4]
  have hti : (xs.take i).length = i := by simp only [List.length_take]; omega
  unfold ovr ins
  rw [Int.toNat_natCast]
  have f1 : (xs.take i ++ List.replicate (xs.length - i + 1) z).take i = xs.take i := by rw [List.take_left' hti]
  have f2 : ((xs.take i ++ List.replicate (xs.length - i + 1) z).take i ++ ys ++ (xs.take i ++ List.replicate (xs.length - i + 1) z).drop (i + ys.length)) = (xs.take i ++ ys) ++ List.replicate (xs.length - i) z := by
    rw [f1]
    congr 1
    rw [List.drop_append, List.drop_eq_nil_of_le (by omega), List.nil_append, List.drop_replicate]
    congr 1; omega
  rw [f2]
  have hl : (xs.take i ++ ys).length = i + 1 := by simp only [List.length_append, hti]; omega
  have hdl : (xs.drop i).length = xs.length - i := List.length_drop
  have hd : ((xs.take i ++ ys) ++ List.replicate (xs.length - i) z).drop (i + 1 + (xs.drop i).length) = [] := List.drop_eq_nil_of_le (by rw [List.length_append, hl, List.length_replicate, hdl]; omega)
  rw [List.take_left' hl, hd, List.append_nil]
theorem insZl {α} {xs ys : List α} {p : Int} (h0 : 0 ≤ p) (h1 : p ≤ xs.length) (h2 : ys.length = 1) : (ins xs p ys).length = p.toNat + ((xs.length : Int) + 1 - p).toNat := by
  simp only [ins, List.length_append, List.length_take, List.length_drop]; omega
theorem insSl {α} {xs ys : List α} {p : Int} (h0 : 0 ≤ p) (h1 : p ≤ xs.length) (h2 : ys.length = 1) : (ins xs p ys).length = ((xs.length : Int) + 1).toNat := by
  simp only [ins, List.length_append, List.length_take, List.length_drop]; omega
theorem insS {α} {xs ys : List α} {p : Int} {x : Nat} (h0 : 0 ≤ p) (h1 : p < xs.length) (h2 : ys.length = 1) (hx : 1 ≤ x) : ovr (xs.take (p + 1).toNat ++ xs.drop p.toNat) p.toNat (ys.take x) = ins xs p ys := by
  obtain ⟨i, rfl⟩ : ∃ i : Nat, p = i := ⟨p.toNat, (Int.toNat_of_nonneg h0).symm⟩
  have e1 : ((i : Int) + 1).toNat = i + 1 := by omega
  have e3 : ys.take x = ys := List.take_of_length_le (by omega)
  rw [Int.toNat_natCast, e1, e3]
  unfold ovr ins
  rw [Int.toNat_natCast, h2]
  have hl : (xs.take (i + 1)).length = i + 1 := by simp only [List.length_take]; omega
  rw [List.take_append_of_le_length (by omega), List.take_take, Nat.min_eq_left (by omega), List.drop_left' hl]
theorem cpSh {α} {k : Kd α} {xs : List α} {cap b : Nat} {E t t2 : TypeId} {ag : Bool} {x y : Operand} {p : Int} {tys : Array TypeId} (K : Tm n a l) (h : St c G w Δ) (hj : Δ[0]? = some ⟨k, xs, cap, some b, E⟩)
    (hx : evs l [x, y] = some [subV k (some b) cap (p + 1).toNat ((((xs.length : Int) + 1).toNat : Int).toNat - (p + 1).toNat), subV k (some b) cap p.toNat ((((xs.length : Int) + 1).toNat : Int).toNat - p.toNat)])
    (h0 : 0 ≤ p ∧ p < xs.length) (hc : xs.length + 1 ≤ cap) (ht : tys = #[t, t2]) (hT : slOf P t = some E) (hE : tyOf P E = some (k.n, ag))
    (kk : ∀ a w, Tm n a ((d, .int .i64 (xs.length - p.toNat : Nat)) :: l) → St c G w (Δ.set 0 ⟨k, xs.take (p + 1).toNat ++ xs.drop p.toNat, cap, some b, E⟩) → wpList P ops Q rest a w) (hd : Nat.blt d n = true := by rfl) :
    wpList P ops Q (⟨some d, .call ⟨.builtin .copy, #[x, y], tys⟩, ty, pos, af, none⟩ :: rest) a w := by
  subst ht
  obtain ⟨h0, h1⟩ := h0
  obtain ⟨i, rfl⟩ : ∃ i : Nat, p = i := ⟨p.toNat, (Int.toNat_of_nonneg h0).symm⟩
  have e1 : ((i : Int) + 1).toNat = i + 1 := by omega
  have e2 : (((xs.length : Int) + 1).toNat : Int).toNat = xs.length + 1 := by omega
  rw [e1, e2, Int.toNat_natCast] at hx
  simp only [e1, Int.toNat_natCast] at kk
  obtain ⟨hlen, ns, hn, hr, hf⟩ := rd_sub (P := P) (o := i) (m := xs.length - i) h hj (by omega)
  have hdl : (xs.drop i).length = xs.length - i := List.length_drop
  rw [List.take_of_length_le (by omega)] at hlen hn hr hf
  have hf0 := hf w rfl (xs.length - i) (by omega)
  rw [hdl] at hn
  rw [← hn, List.take_length] at hf0
  obtain ⟨w', hrun, hst⟩ := own_end (P := P) (o := i + 1) (zs := xs.drop i) h hj (by omega) (by omega) (by rw [hdl]; exact hn) hr
  refine bi (xs := [x, y]) K hx (v := .int .i64 (xs.length - i : Nat)) (w' := w') ?_ (fun a K' => kk a w' K' hst) hd
  have n1 : ¬ cap = i + 1 := by omega
  have n2 : ¬ cap = i := by omega
  have hmin : Nat.min (xs.length + 1 - i) (xs.length + 1 - (i + 1)) = xs.length - i := by show min _ _ = _; omega
  have hf1 : ∀ len cp, (Builtin.firstCells k.n (xs.length - i) (.slice (some ⟨b, i * k.n, none⟩) len cp)).run P w = .ok ns.toArray w := by
    intro len cp
    have : subV k (some b) cap i (xs.length - i) = .slice (some ⟨b, i * k.n, none⟩) (xs.length - i) (cap - i) := by unfold subV; rw [if_neg n2]; rfl
    rw [this] at hf0
    exact hf0
  simp only [builtin, subV, if_neg n1, if_neg n2, Builtin.copy_, List.getElem?_toArray, List.getElem?_cons_zero, List.getElem?_cons_succ, underlying, Sem.run_bind, run_program, Result.andThen_ok, slOf_und hT, Sem.run_pure, Builtin.lenOf, hmin, run_sizeOf hE, hf1, Option.map_some, hrun]
  rfl
theorem clvp {f : FuncId} {x : Operand} {xs : List Operand} {vs cs : List Value} {tys : Array TypeId} {R : Value → Gh → Prop} (K : Tm n a l) (h : St c G w Δ) (hx : ev l x = some (.func (.func f) #[] cs.toArray)) (hv : evs l xs = some vs) (hb : callB P f = true)
    (hc : St ⟨w, [], G⟩ G w [] → Calls P f (vs ++ cs).toArray w (Fin ⟨w, [], G⟩ fun v H Δ' => Δ' = [] ∧ R v H))
    (kk : ∀ a w v H, Tm n a ((d, v) :: l) → Gh.le G H → St c H w Δ → R v H → wpList P ops Q rest a w) (hd : Nat.blt d n = true := by rfl) :
    wpList P ops Q (⟨some d, .call ⟨.value x, xs.toArray, tys⟩, ty, pos, af, none⟩ :: rest) a w :=
  clv (Δ₁ := []) (Δ₂ := Δ) K h hx hv hb hc rfl (fun a w v H Δ' K' hle hst ⟨hΔ, hR⟩ => by subst hΔ; exact kk a w v H K' hle hst hR) hd
/-! ### the iterator of a string -/
def It (c : Cx) (G : Gh) (w : World) (b : Nat) (s : ByteArray) (pos : Nat) : Prop := c.w0.heap.size ≤ b ∧ G b = none ∧ w.heap[b]? = some (.stringIter s pos)
theorem rngS {t : TypeId} {x : Operand} {s : ByteArray} (K : Tm n a l) (h : St c G w Δ) (hx : ev l x = some (.string s)) (hT : P.underlying t = some .string)
    (kk : ∀ a w b, Tm n a ((d, .pointer (some ⟨b, 0, none⟩)) :: l) → St c G w Δ → It c G w b s 0 → wpList P ops Q rest a w) (hd : Nat.blt d n = true := by rfl) :
    wpList P ops Q (⟨some d, .range t x, ty, pos, af, none⟩ :: rest) a w := by
  refine op_val rfl (show _ = Result.ok (Next.value (.pointer (some ⟨w.heap.size, 0, none⟩))) { w with heap := w.heap.push (.stringIter s 0) } from ?_) rfl (kk _ _ w.heap.size (K.put hd) ?_ ⟨h.size, h.fresh, by simp⟩)
  · simp only [execOp, K.eval hx, Instr.range, underlying, Sem.run_bind, run_program, Result.andThen_ok, hT, Sem.run_pure, run_newObj]
  · have hpush : ∀ b, b < w.heap.size → (w.heap.push (.stringIter s 0))[b]? = w.heap[b]? := fun b hb => by rw [Array.getElem?_push, if_neg (by omega)]
    refine ⟨fun b o hb => ?_, fun e he => ?_, h.nd, fun b hb hs => ?_, h.low, ?_, h.gle, h.gnew, h.os, h.tape, h.output⟩
    · show (w.heap.push (.stringIter s 0))[b]? = some o
      rw [hpush b (h.lt hb)]; exact h.sat b o hb
    · have hok := h.own e he
      exact Own.ok_mono (fun b hb => (hok.2.2 b hb).1) (Gh.refl _) (fun b hb => hpush b (Own.lt hok hb)) hok
    · show (w.heap.push (.stringIter s 0))[b]? = _
      rw [hpush b (Nat.lt_of_lt_of_le hb h.size)]; exact h.fr b hb hs
    · have := h.size
      show _ ≤ (w.heap.push (.stringIter s 0)).size
      simp only [Array.size_push]; omega
def runeAt (s : ByteArray) (pos : Nat) : Int := ((Utf8.decode s pos).1 : Int)
def runeW (s : ByteArray) (pos : Nat) : Nat := (Utf8.decode s pos).2
theorem nxS {x : Operand} {s : ByteArray} {q b : Nat} (K : Tm n a l) (h : St c G w Δ) (hx : ev l x = some (.pointer (some ⟨b, 0, none⟩))) (hi : It c G w b s q) (hq : decide (q < s.size) = true)
    (kk : ∀ a w, Tm n a ((d, .tuple #[.bool true, .int .i64 q, .int .i32 (runeAt s q)]) :: l) → St c G w Δ → It c G w b s (q + runeW s q) → wpList P ops Q rest a w) (hd : Nat.blt d n = true := by rfl) :
    wpList P ops Q (⟨some d, .next x true, ty, pos, af, none⟩ :: rest) a w := by
  obtain ⟨h1, h2, h3⟩ := hi
  have hlt : b < w.heap.size := (Array.getElem?_eq_some_iff.1 h3).1
  have hset : ∀ b', b' ≠ b → (w.heap.set b (.stringIter s (q + runeW s q)) hlt)[b']? = w.heap[b']? := fun b' hb => by rw [Array.getElem?_set, if_neg (fun e => hb e.symm)]
  refine op_val rfl (show _ = Result.ok (Next.value (.tuple #[.bool true, .int .i64 q, .int .i32 (runeAt s q)])) { w with heap := w.heap.set b (.stringIter s (q + runeW s q)) hlt } from ?_) rfl (kk _ _ (K.put hd) ?_ ⟨h1, h2, by simp⟩)
  · have hget : (getObj b).run P w = .ok (.stringIter s q) w := by
      simp [getObj, Sem.run, h3]
    have hso : ∀ o, (setObj b o).run P w = .ok () { w with heap := w.heap.set b o hlt } := by
      intro o
      have e : w.heap.setIfInBounds b o = w.heap.set b o hlt := by simp [Array.setIfInBounds, hlt]
      rw [← e]
      simp only [setObj, Sem.run, h3]
    simp only [execOp, K.eval hx, Instr.next, Sem.run_bind, hget, Result.andThen_ok, if_pos (show q < s.size by simpa using hq), hso, Sem.run_pure, runeW, runeAt, goInt]
  · refine ⟨fun b' o hb => ?_, fun e he => ?_, h.nd, fun b' hb hs => ?_, h.low, ?_, h.gle, h.gnew, h.os, h.tape, h.output⟩
    · have : b' ≠ b := by rintro rfl; rw [h2] at hb; cases hb
      show (w.heap.set b _ hlt)[b']? = some o
      rw [hset b' this]; exact h.sat b' o hb
    · have hok := h.own e he
      refine Own.ok_mono (fun b hb => (hok.2.2 b hb).1) (Gh.refl _) (fun b' hb => ?_) hok
      have : b' ≠ b := by
        rintro rfl
        obtain ⟨_, C, fr, h5, _⟩ := hok.2.2 b' hb
        rw [h3] at h5; cases h5
      exact hset b' this
    · have : b' ≠ b := by rintro rfl; omega
      show (w.heap.set b _ hlt)[b']? = _
      rw [hset b' this]; exact h.fr b' hb hs
    · have := h.size
      show _ ≤ (w.heap.set b _ hlt).size
      simp only [Array.size_set]; omega
theorem nxE {x : Operand} {s : ByteArray} {q b : Nat} (K : Tm n a l) (hx : ev l x = some (.pointer (some ⟨b, 0, none⟩))) (hi : It c G w b s q) (hq : decide (q < s.size) = false)
    (kk : ∀ a, Tm n a ((d, .tuple #[.bool false]) :: l) → wpList P ops Q rest a w) (hd : Nat.blt d n = true := by rfl) :
    wpList P ops Q (⟨some d, .next x true, ty, pos, af, none⟩ :: rest) a w := by
  obtain ⟨h1, h2, h3⟩ := hi
  refine op_val rfl (show _ = Result.ok (Next.value (.tuple #[.bool false])) w from ?_) rfl (kk _ (K.put hd))
  have hget : (getObj b).run P w = .ok (.stringIter s q) w := by
    simp [getObj, Sem.run, h3]
  simp only [execOp, K.eval hx, Instr.next, Sem.run_bind, hget, Result.andThen_ok, if_neg (show ¬ q < s.size by simpa using hq), Sem.run_pure]
theorem clpI {f : FuncId} {xs : List Operand} {vs : List Value} {tys : Array TypeId} {R : Value → Gh → Prop} (K : Tm n a l) (h : St c G w Δ) (hv : evs l xs = some vs) (hb : callB P f = true)
    (hc : St ⟨w, [], G⟩ G w [] → Calls P f vs.toArray w (Fin ⟨w, [], G⟩ fun v H Δ' => Δ' = [] ∧ R v H))
    (kk : ∀ a w' v H, Tm n a ((d, v) :: l) → Gh.le G H → St c H w' Δ → R v H → (∀ b s q, It c G w b s q → It c H w' b s q) → wpList P ops Q rest a w') (hd : Nat.blt d n = true := by rfl) :
    wpList P ops Q (⟨some d, .call ⟨.value (.func f), xs.toArray, tys⟩, ty, pos, af, none⟩ :: rest) a w := by
  refine op_enter rfl (call_run K hv hb) rfl (hc (St.enter (Δ₁ := []) (Δ₂ := Δ) h)) ?_
  rintro e w'' ⟨v, H, Δ', rfl, hst, hΔ, hR⟩
  subst hΔ
  refine ⟨v, rfl, kk _ w'' v H (K.put hd) hst.gle (St.leave (Δ₁ := []) (Δ₂ := Δ) (Δ' := []) h hst) hR ?_⟩
  rintro b s q ⟨h1, h2, h3⟩
  have hlt : b < w.heap.size := (Array.getElem?_eq_some_iff.1 h3).1
  refine ⟨h1, ?_, by rw [hst.fr b hlt (by simp)]; exact h3⟩
  cases hH : H b with
  | none => rfl
  | some o =>
    rcases hst.gnew b (by rw [hH]; simp) with h4 | h4 | h4
    · exact absurd h2 h4
    · have : w.heap.size ≤ b := h4; omega
    · simp at h4
theorem cvtIS {src dst : TypeId} {x : Operand} {kd : IntKind} {p : Int} (K : Tm n a l) (hx : ev l x = some (.int kd p)) (hs : ∃ s, P.underlying src = some s) (ht : P.underlying dst = some .string)
    (k : ∀ a, Tm n a ((d, .string (Utf8.encode p)) :: l) → wpList P ops Q rest a w) (hd : Nat.blt d n = true := by rfl) :
    wpList P ops Q (⟨some d, .convert src dst x, ty, pos, af, none⟩ :: rest) a w := by
  obtain ⟨s, hs⟩ := hs
  refine cvt K hx (v := .string (Utf8.encode p)) ?_ k hd
  simp only [convert, underlying, Sem.run_bind, run_program, Result.andThen_ok, hs, ht, Sem.run_pure, Conv.intToString]
/-! ### parts of rows of one's own, gone through -/
theorem inr_sub {p q i : Int} {n : Nat} (h : sl2 p q n = true) (hi : inr i (q.toNat - p.toNat) = true) : inr ((p.toNat + i.toNat : Nat) : Int) n = true := by
  obtain ⟨h0, h1, h2⟩ := sl2_out h
  obtain ⟨h3, h4⟩ := inr_pos hi
  simp only [inr, Bool.and_eq_true, decide_eq_true_eq]; omega
theorem ixsub {α} {k : Kd α} {t E T : TypeId} {x y : Operand} {xs : List α} {cap b : Nat} {kd : IntKind} {p q i : Int} {ag : Bool} (j : Nat) (K : Tm n a l) (h : St c G w Δ) (hj : Δ[j]? = some ⟨k, xs, cap, some b, T⟩) (hx : ev l x = some (subV k (some b) cap p.toNat (q.toNat - p.toNat))) (hq : ev l y = some (.int kd i)) (hs : sl2 p q xs.length = true) (hi : inr i (q.toNat - p.toNat) = true)
    (hT : slOf P t = some E) (hE : tyOf P E = some (k.n, ag)) (kk : ∀ a, Tm n a ((d, .pointer (some (adr b ((p.toNat + i.toNat : Nat) : Int).toNat k.n (Fld.id k).off))) :: l) → wpList P ops Q rest a w) (hd : Nat.blt d n = true := by rfl) :
    wpList P ops Q (⟨some d, .indexAddr t x y, ty, pos, af, none⟩ :: rest) a w := by
  obtain ⟨h0, h1, h2⟩ := sl2_out hs
  obtain ⟨hi0, hi1⟩ := inr_pos hi
  have hc : xs.length ≤ cap := (h.own _ (List.mem_of_getElem? hj)).1
  have he : ¬ cap = p.toNat := by omega
  have hv : subV k (some b) cap p.toNat (q.toNat - p.toNat) = .slice (some ⟨b, p.toNat * k.n, none⟩) (q.toNat - p.toNat) (cap - p.toNat) := by unfold subV; rw [if_neg he]; rfl
  rw [hv] at hx
  refine op_val rfl (show _ = Result.ok (Next.value (.pointer (some ⟨b, p.toNat * k.n + i.toNat * k.n, none⟩))) w from ?_) rfl ?_
  · simp only [execOp, K.eval hx, K.eval hq, Sem.run_bind, run_index_sl hT hE hi0 hi1, Result.andThen_ok]; rfl
  · rw [show (⟨b, p.toNat * k.n + i.toNat * k.n, none⟩ : Addr) = adr b ((p.toNat + i.toNat : Nat) : Int).toNat k.n (Fld.id k).off by rw [Int.toNat_natCast]; simp only [adr, Fld.id, Nat.add_mul, Nat.add_zero]]
    exact kk _ (K.put hd)
end
end Go.Sy
