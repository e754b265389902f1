/- A library for walks that a program prints: kinds of data, what a call owns, one lemma for each operation. No conditions. -/
import Derived.Test.YthhhomgbpnmeeaaGreatDoorSy6
set_option linter.all false
namespace Go.Sy
open Go
def elB (P : Program) (E n : Nat) : Bool :=
  match P.info? E, P.underlying E with
  | some i, some _ => i.size == n && decide (i.bytes ≤ 65536) && (match i.zero with | some v => v.cells.size == n | none => false)
  | _, _ => false
theorem elB_out {P : Program} {E n : Nat} (h : elB P E n = true) : ∃ i v d, P.info? E = some i ∧ P.underlying E = some d ∧ i.size = n ∧ i.bytes ≤ 65536 ∧ i.zero = some v ∧ v.cells.size = n := by
  unfold elB at h
  split at h
  · next i d hi hd =>
    simp only [Bool.and_eq_true, beq_iff_eq, decide_eq_true_eq] at h
    obtain ⟨⟨h1, h2⟩, h3⟩ := h
    split at h3
    · next v hv => exact ⟨i, v, d, hi, hd, h1, h2, hv, by simpa using h3⟩
    · cases h3
  · cases h
theorem growBy_le (m : Nat) (hm : m ≤ maxS) : ∀ (r c : Nat), c ≤ 2147483648 → Builtin.growBy m r c ≤ 2147483648
  | 0, c, h => h
  | r + 1, c, h => by
    simp only [Builtin.growBy]
    split
    · exact h
    · refine growBy_le m hm r _ ?_
      unfold maxS at hm; omega
theorem nextcap_le {m c : Nat} (hm : m ≤ maxS) (hc : c < m) : Builtin.nextslicecap m c ≤ 2147483648 := by
  unfold Builtin.nextslicecap
  unfold maxS at *
  split
  · omega
  · split
    · omega
    · exact growBy_le m hm 4 c (by omega)
section
variable {P : Program} {w w' : World} {c : Cx} {G : Gh} {Δ : List Own}
variable {ops : Array Oper} {Q : Exit → Act → World → Prop} {rest : List Oper} {n : Nat} {a : Act} {l : List (Nat × Value)} {d : Nat} {ty : TypeId} {pos : String} {af : Array Edge}
theorem sl_cells {α} {k : Kd α} {u : Value} {ys : List α} (h : St c G w Δ) (hu : slRep k G u ys) :
    (Builtin.lenOf u).run P w = .ok ys.length w ∧ ∃ ns : List Value, ns.length = ys.length * k.n ∧ rows k G ns ys ∧
      ∀ (w1 : World), w1.heap = w.heap → ∀ m, m ≤ ys.length → (Builtin.firstCells k.n m u).run P w1 = .ok (ns.take (m * k.n)).toArray w1 := by
  obtain ⟨a0, cap, rfl, h1, h2, h3⟩ := hu
  refine ⟨rfl, ?_⟩
  cases a0 with
  | none =>
    have h0 : ys = [] := by have := h2 rfl; exact List.eq_nil_of_length_eq_zero (by omega)
    subst h0
    exact ⟨[], by simp, trivial, fun w1 _ m hm => by simp [Builtin.firstCells]⟩
  | some p =>
    obtain ⟨b, o, sp⟩ := p
    obtain ⟨h4, C, T, fr, h5, h6, h7⟩ := h3 _ rfl
    simp only at h4 h5 h6 h7; subst h4
    have hl := rows_len h7
    have hb := h.sat _ _ h5
    have hlen : ((C.toList.drop o).take (ys.length * k.n)).length = ys.length * k.n := by simp only [List.length_take]; omega
    refine ⟨(C.toList.drop o).take (ys.length * k.n), hlen, ?_, ?_⟩
    · exact rows_ext (cs := C.toList.drop o) (by rw [List.take_take, Nat.min_self]) h7
    · intro w1 hw1 m hm
      rw [← hw1] at hb
      have hle : m * k.n ≤ ys.length * k.n := Nat.mul_le_mul_right _ hm
      rw [List.take_take, Nat.min_eq_left hle]
      exact run_loadCells_block hb (by simp only [List.length_take]; omega)
theorem own_cells {α} {k : Kd α} {xs : List α} {cap : Nat} {b : Option Nat} {E : TypeId} {j : Nat} (h : St c G w Δ) (hj : Δ[j]? = some ⟨k, xs, cap, b, E⟩) :
    ∃ ns : List Value, ns.length = xs.length * k.n ∧ rows k G ns xs ∧ ∀ w1 : World, w1.heap = w.heap → (Builtin.firstCells k.n xs.length (hdr b xs.length cap)).run P w1 = .ok ns.toArray w1 := by
  have hok := h.own _ (List.mem_of_getElem? hj)
  cases b with
  | none =>
    have h0 : xs = [] := by have := hok.2.1 rfl; have h1 := hok.1; simp only at this h1; exact List.eq_nil_of_length_eq_zero (by omega)
    subst h0
    exact ⟨[], by simp, trivial, fun w1 _ => by simp [Builtin.firstCells, hdr]⟩
  | some b =>
    obtain ⟨_, C, fr, h1, h2, h3, h4⟩ := hok.2.2 b rfl
    have hl := rows_len h4
    have hlen : ((C.toList.drop 0).take (xs.length * k.n)).length = xs.length * k.n := by simp only [List.drop_zero, List.length_take]; simp only at hl; omega
    refine ⟨(C.toList.drop 0).take (xs.length * k.n), hlen, ?_, ?_⟩
    · exact rows_ext (cs := C.toList) (by simp only [List.drop_zero]; rw [List.take_take, Nat.min_self]) h4
    · intro w1 hw1
      rw [← hw1] at h1
      exact run_loadCells_block h1 hlen
theorem run_append {α} {k : Kd α} {xs ys : List α} {cap : Nat} {b : Option Nat} {E t t2 : TypeId} {j : Nat} {u : Value} {ns : List Value} {dd : TypeDesc} (h : St c G w Δ) (hj : Δ[j]? = some ⟨k, xs, cap, b, E⟩)
    (hT : slOf P t = some E) (hE : elB P E k.n = true) (ht2 : P.underlying t2 = some dd) (hdd : (∃ e, dd = .slice e) ∨ dd = .string)
    (hl : (Builtin.lenOf u).run P w = .ok ys.length w) (hn : ns.length = ys.length * k.n) (hr : rows k G ns ys) (hf : ∀ w1 : World, w1.heap = w.heap → (Builtin.firstCells k.n ys.length u).run P w1 = .ok ns.toArray w1)
    (hroom : xs.length + ys.length ≤ maxS) :
    ∃ b' cap' w', (Builtin.append_ #[t, t2] ty #[hdr b xs.length cap, u]).run P w = .ok (hdr b' (xs ++ ys).length cap') w' ∧ St c G w' (Δ.set j ⟨k, xs ++ ys, cap', b', E⟩) ∧ (b.isSome = true → b'.isSome = true) := by
  obtain ⟨i, v, du, hi, hdu, hs, hby, hz, hzs⟩ := elB_out hE
  have hok := h.own _ (List.mem_of_getElem? hj)
  have hsz : tyOf P E = some (k.n, isAggD du) := by simp [tyOf, hi, hdu, hs]
  have hpl : ∀ x ∈ ns, plain x = true := by
    have := rows_pl hr
    rw [← hn, List.take_length] at this; exact this
  by_cases hfit : xs.length + ys.length ≤ cap
  · -- there is room
    cases b with
    | none =>
      have hc0 : cap = 0 := hok.2.1 rfl
      have hx0 : xs = [] := List.eq_nil_of_length_eq_zero (by omega)
      have hy0 : ys = [] := List.eq_nil_of_length_eq_zero (by omega)
      subst hx0 hy0
      refine ⟨none, cap, w, ?_, ?_, fun h => h⟩
      · have hf0 := hf w rfl
        simp only [List.length_nil] at hl hf0
        simp only [Builtin.append_, List.getElem?_toArray, List.getElem?_cons_zero, List.getElem?_cons_succ, underlying, Sem.run_bind, run_program, Result.andThen_ok, slOf_und hT, Sem.run_pure, hdr, Option.map_none, List.length_nil, run_sizeOf hsz, ht2,
          hl, Nat.zero_add, List.append_nil]
        rcases hdd with ⟨e, rfl⟩ | rfl <;> simp [hl, hf0]
      · have : Δ.set j ⟨k, [] ++ [], cap, none, E⟩ = Δ := by
          simp only [List.append_nil]
          apply List.ext_getElem?
          intro q
          by_cases e : j = q
          · subst e
            rw [List.getElem?_set_self (List.getElem?_eq_some_iff.1 hj).1, hj]
          · rw [List.getElem?_set_ne e]
        rw [this]; exact h
    | some b =>
      obtain ⟨hgb, C, fr, h1, h2, h3, h4⟩ := hok.2.2 b rfl
      simp only at h1 h2 h4
      have hle : (xs.length + ys.length) * k.n ≤ cap * k.n := Nat.mul_le_mul_right _ hfit
      rw [Nat.add_mul] at hle
      obtain ⟨w', hrun, hw⟩ := run_storeCells_block (P := P) (o := xs.length * k.n) ns 0 w C h1 h3 hpl (by omega)
      simp only [Nat.add_zero] at hw
      refine ⟨some b, cap, w', ?_, ?_, fun _ => rfl⟩
      · have hf0 := hf w rfl
        simp only [Builtin.append_, List.getElem?_toArray, List.getElem?_cons_zero, List.getElem?_cons_succ, underlying, Sem.run_bind, run_program, Result.andThen_ok, slOf_und hT, Sem.run_pure, hdr, Option.map_some, run_sizeOf hsz, ht2]
        rcases hdd with ⟨e, rfl⟩ | rfl <;> simp [hl, hf0, hfit, add_flat, hrun, List.length_append]
      · refine St.push (e := ⟨k, xs, cap, some b, E⟩) ?_ hj
        have hlen : (splice C.toList (xs.length * k.n) ns).length = C.toList.length := splice_length (by simp only [Array.length_toList]; omega)
        refine St.put (h.pull hj) (fun b' => hw.heap b') hw.size hw.os hw.tape hw.output (by simpa using hfit) (by simp only [List.size_toArray]; rw [hlen]; simpa using h2) (soft_splice h3 (by simp only [List.size_toArray]; rw [hlen]; simp)) ?_
        have hl4 : xs.length * k.n ≤ C.toList.length := rows_len h4
        have hrow : rows k G ((C.toList.take (xs.length * k.n)) ++ ns) (xs ++ ys) := by
          refine rows_append (rows_ext (by rw [List.take_take, Nat.min_self]) h4) ?_ hr
          simp only [List.length_take]; omega
        refine rows_ext (cs := (C.toList.take (xs.length * k.n)) ++ ns) ?_ hrow
        simp only [splice, List.length_append, Nat.add_mul]
        have hlt : ((C.toList.take (xs.length * k.n)) ++ ns).length = xs.length * k.n + ys.length * k.n := by
          simp only [List.length_append, List.length_take]; omega
        rw [← hlt, List.take_length, List.take_left' rfl]
  · -- a new block
    have hlt : cap < xs.length + ys.length := by omega
    have hnc := nextcap_le hroom hlt
    have hres : ¬ Builtin.nextslicecap (xs.length + ys.length) cap * i.bytes > 2 ^ 48 := by
      have h5 := Nat.mul_le_mul hnc hby
      omega
    obtain ⟨os_, hos, hor, hof⟩ := own_cells (P := P) h hj
    have hq : (Question.appendCap (xs.length + ys.length) cap E).forced = false := rfl
    obtain ⟨nc, hnc'⟩ : ∃ nc, (Question.appendCap (xs.length + ys.length) cap E).cut (w.tape w.drawn (.appendCap (xs.length + ys.length) cap E)) = nc := ⟨_, rfl⟩
    have hge : xs.length + ys.length ≤ nc := by rw [← hnc']; simp only [Question.cut]; omega
    have hint : ¬ (((xs.length + ys.length : Nat) : Int) > IntKind.i64.max) := by
      have : IntKind.i64.max = 9223372036854775807 := by decide
      unfold maxS at hroom; omega
    refine ⟨some w.heap.size, nc, { w with drawn := w.drawn + 1, heap := w.heap.push (.cells (os_.toArray ++ ns.toArray ++ Builtin.zeroCells v.cells (nc - (xs.length + ys.length))) E) }, ?_, ?_, fun _ => rfl⟩
    · have hf0 := hf { w with drawn := w.drawn + 1 } rfl
      have ho0 := hof { w with drawn := w.drawn + 1 } rfl
      have hz0 : ∀ w1 : World, (zeroValue E).run P w1 = .ok v w1 := fun w1 => by simp only [zeroValue, typeInfo, Sem.run_bind, run_program, Result.andThen_ok, hi, hz, Sem.run_pure]
      have hch : (choose (.appendCap (xs.length + ys.length) cap E)).run P w = .ok nc { w with drawn := w.drawn + 1 } := by rw [run_choose, hq]; simp only [Bool.false_eq_true, if_false, hnc']
      have hti : ∀ w1 : World, (typeInfo E).run P w1 = .ok i w1 := fun w1 => by simp only [typeInfo, Sem.run_bind, run_program, Result.andThen_ok, hi, Sem.run_pure]
      simp only [Builtin.append_, List.getElem?_toArray, List.getElem?_cons_zero, List.getElem?_cons_succ, underlying, Sem.run_bind, run_program, Result.andThen_ok, slOf_und hT, Sem.run_pure, hdr, run_sizeOf hsz, ht2]
      rcases hdd with ⟨e, rfl⟩ | rfl
      all_goals simp only [Bool.false_eq_true, if_false, hl, Result.andThen_ok, if_neg hfit, false_or, Bool.not_false, if_true, Sem.run_ite, Sem.run_bind, hti]
      all_goals rw [if_neg (fun hh => hint hh.1), if_neg hres, hch]
      all_goals simp only [hdr] at ho0
      all_goals simp only [Result.andThen_ok, run_askRoom, ho0, hf0, hz0, newRow, Sem.run_bind, run_newObj, Sem.run_pure, List.length_append, Option.map_some]
    · have hb : Δ.eraseIdx j = Δ.eraseIdx j := rfl
      have h' : St c G { w with drawn := w.drawn + 1 } Δ := h.drew
      refine St.push (e := ⟨k, xs, cap, b, E⟩) ?_ hj
      refine St.new (w := { w with drawn := w.drawn + 1 }) (h'.sub (List.eraseIdx_sublist ..)) rfl rfl rfl rfl (by simpa using hge) ?_ ?_
      · simp only [Array.size_append, List.size_toArray, hos, hn, Builtin.zeroCells, Array.size_map, Array.size_range, hzs]
        rw [← Nat.add_mul, ← Nat.add_mul]; congr 1; omega
      · simp only [Array.toList_append]
        refine rows_ext (cs := os_ ++ ns) ?_ (rows_append hor hos hr)
        have hlen : (os_ ++ ns).length = (xs ++ ys).length * k.n := by simp only [List.length_append, hos, hn, Nat.add_mul]
        rw [← hlen, List.take_length, List.take_left' rfl]
end
end Go.Sy
