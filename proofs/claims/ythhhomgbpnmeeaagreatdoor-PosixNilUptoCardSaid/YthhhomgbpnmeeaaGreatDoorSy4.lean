/- A library for walks that a program prints: kinds of data, what a call owns, one lemma for each operation. No conditions. -/
import Derived.Test.YthhhomgbpnmeeaaGreatDoorSy3
set_option linter.all false
namespace Go.Sy
open Go
def isAggD : TypeDesc → Bool
  | .struct _ => true
  | .array _ _ => true
  | _ => false
def tyOf (P : Program) (t : TypeId) : Option (Nat × Bool) := (P.info? t).bind fun i => (P.underlying t).map fun d => (i.size, isAggD d)
section
variable {P : Program} {w w' : World}
theorem run_sizeOf {t : TypeId} {n : Nat} {b : Bool} (h : tyOf P t = some (n, b)) : (sizeOf t).run P w = .ok n w := by
  unfold tyOf at h
  cases hi : P.info? t with
  | none => simp [hi] at h
  | some i =>
    simp only [hi, Option.bind_some] at h
    cases hd : P.underlying t with
    | none => simp [hd] at h
    | some d =>
      simp only [hd, Option.map_some, Option.some.injEq, Prod.mk.injEq] at h
      simp [sizeOf, typeInfo, hi, h.1]
theorem run_isAgg {t : TypeId} {n : Nat} {b : Bool} (h : tyOf P t = some (n, b)) : (isAgg t).run P w = .ok b w := by
  unfold tyOf at h
  cases hi : P.info? t with
  | none => simp [hi] at h
  | some i =>
    simp only [hi, Option.bind_some] at h
    cases hd : P.underlying t with
    | none => simp [hd] at h
    | some d =>
      simp only [hd, Option.map_some, Option.some.injEq, Prod.mk.injEq] at h
      simp only [isAgg, underlying, Sem.run_bind, run_program, Result.andThen_ok, hd, Sem.run_pure, ← h.2]
      cases d <;> rfl
theorem add_flat (b o n : Nat) : (⟨b, o, none⟩ : Addr).add n = ⟨b, o + n, none⟩ := by
  unfold Addr.add
  split
  · next h => simp [h]
  · rfl
theorem cell_block {b o : Nat} {C : Array Value} {T : TypeId} {fr : Nat × Nat} (h : w.heap[b]? = some (.cells C T fr)) : w.cell? ⟨b, o, none⟩ = C[o]? := by
  simp [World.cell?, h]
theorem run_loadCells_block {b o n : Nat} {C : Array Value} {T : TypeId} {fr : Nat × Nat} (h : w.heap[b]? = some (.cells C T fr)) (hn : ((C.toList.drop o).take n).length = n) :
    (loadCells ⟨b, o, none⟩ n).run P w = .ok ((C.toList.drop o).take n).toArray w := by
  have := run_loadCells_list (P := P) w ⟨b, o, none⟩ ((C.toList.drop o).take n) (fun j v hv => by
    rw [add_flat, cell_block h]
    have : j < n := by
      have := (List.getElem?_eq_some_iff.1 hv).1
      rw [hn] at this; exact this
    rw [List.getElem?_take_of_lt this, List.getElem?_drop] at hv
    simpa using hv)
  rw [hn] at this; exact this
theorem run_loadVar_block {α} {f : Kd α} {G : Gh} {t : TypeId} {b o : Nat} {C : Array Value} {T : TypeId} {fr : Nat × Nat} {x : α} (h : w.heap[b]? = some (.cells C T fr))
    (hT : tyOf P t = some (f.n, f.ag)) (hr : f.rep G ((C.toList.drop o).take f.n) x) : ∃ v, (loadVar t ⟨b, o, none⟩).run P w = .ok v w ∧ f.val G v x := by
  have hl := f.len hr
  cases hag : f.ag with
  | true =>
    refine ⟨.agg ((C.toList.drop o).take f.n).toArray, ?_, Kd.val_of_agg hag (by simpa using hr)⟩
    simp only [loadVar, Sem.run_bind, run_isAgg hT, hag, Result.andThen_ok, if_true, run_sizeOf hT, run_loadCells_block h hl]
    rfl
  | false =>
    have h1 := f.one hag
    rw [h1] at hr hl
    obtain ⟨v, hv⟩ : ∃ v, (C.toList.drop o).take 1 = [v] := by
      match hc : (C.toList.drop o).take 1, hl with
      | [v], _ => exact ⟨v, rfl⟩
    refine ⟨v, ?_, Kd.val_of_one hag (by rw [← hv]; exact hr)⟩
    have hc : C[o]? = some v := by
      have := congrArg (fun l => l[0]?) hv
      simpa using this
    simp only [loadVar, Sem.run_bind, run_isAgg hT, hag, Result.andThen_ok, Bool.false_eq_true, if_false, run_load, cell_block h, hc]
structure Wr (w : World) (b : Nat) (C : Array Value) (T : TypeId) (fr : Nat × Nat) (w' : World) : Prop where
  heap : ∀ b', w'.heap[b']? = if b' = b then some (.cells C T fr) else w.heap[b']?
  size : w'.heap.size = w.heap.size
  os : w'.os = w.os
  tape : w'.tape = w.tape
  output : w'.output = w.output
theorem plain_one {v : Value} (h : plain v = true) : v.oneCell' = true := by cases v <;> simp_all [plain, Value.oneCell']
theorem soft_splice {m : Nat} {C : Array Value} {fr : Nat × Nat} {C' : Array Value} (h : soft m C fr) (hs : C'.size = C.size) : soft m C' fr :=
  ⟨fun i hi => h.1 i (by omega), h.2⟩
theorem run_storeCells_block {m b o : Nat} {T : TypeId} {fr : Nat × Nat} : ∀ (vs : List Value) (i : Nat) (w : World) (C : Array Value), w.heap[b]? = some (.cells C T fr) → soft m C fr →
    (∀ v ∈ vs, plain v = true) → o + i + vs.length ≤ C.size →
    ∃ w', (storeCells ⟨b, o, none⟩ vs i).run P w = .ok () w' ∧ Wr w b (splice C.toList (o + i) vs).toArray T fr w'
  | [], i, w, C, h, _, _, _ => by
    refine ⟨w, rfl, ⟨fun b' => ?_, rfl, rfl, rfl, rfl⟩⟩
    have : (splice C.toList (o + i) []).toArray = C := by simp [splice]
    rw [this]
    split
    · next e => rw [e, h]
    · rfl
  | v :: vs, i, w, C, h, hs, hp, hl => by
    simp only [List.length_cons] at hl
    have hv := hp v (by simp)
    have hlt : o + i < C.size := by omega
    have hc : w.cell? ⟨b, o + i, none⟩ = some C[o + i] := by rw [cell_block h]; simp [hlt]
    have hf : w.frozen? ⟨b, o + i, none⟩ = false := by
      have := hs.1 (o + i) hlt
      obtain ⟨lo, hi⟩ := fr
      simp only [World.frozen?, h]
      simp only [Bool.and_eq_false_iff, decide_eq_false_iff_not]
      simp only at this
      omega
    have hw1 : (w.setCell ⟨b, o + i, none⟩ v).heap[b]? = some (.cells (C.set (o + i) v) T fr) := by
      simp only [World.setCell, Array.getElem?_modify, h]
      simp [Array.setIfInBounds, hlt]
    obtain ⟨w', hr, hw⟩ := run_storeCells_block (o := o) vs (i + 1) (w.setCell ⟨b, o + i, none⟩ v) (C.set (o + i) v) hw1 (soft_splice hs (by simp)) (fun u hu => hp u (by simp [hu])) (by simp; omega)
    refine ⟨w', ?_, ?_⟩
    · simp only [storeCells, Sem.run_bind, add_flat, run_store P w _ v .plain (plain_one hv), hc, hf, Bool.false_eq_true, if_false, Result.andThen_ok, hr]
    · have e : splice (C.set (o + i) v).toList (o + (i + 1)) vs = splice C.toList (o + i) (v :: vs) := by
        simp only [splice, Array.toList_set, List.length_cons]
        have e1 : (C.toList.set (o + i) v).take (o + (i + 1)) = C.toList.take (o + i) ++ [v] := by
          rw [← Nat.add_assoc, List.take_succ_eq_append_getElem (by simpa using hlt), List.getElem_set_self]
          congr 1
          rw [List.take_set_of_le (by omega)]
        have e2 : (C.toList.set (o + i) v).drop (o + (i + 1) + vs.length) = C.toList.drop (o + i + (vs.length + 1)) := by
          rw [List.drop_set_of_lt (by omega)]
          congr 1; omega
        rw [e1, e2]; simp
      rw [e] at hw
      refine ⟨fun b' => ?_, ?_, hw.os, hw.tape, hw.output⟩
      · rw [hw.heap]
        split
        · rfl
        · next hb =>
          simp only [World.setCell, Array.getElem?_modify]
          rw [if_neg (fun e => hb e.symm)]
      · rw [hw.size]; simp [World.setCell]
theorem run_storeVar_block {α} {m : Nat} {f : Kd α} {G : Gh} {t : TypeId} {b o : Nat} {C : Array Value} {T : TypeId} {fr : Nat × Nat} {v : Value} {x : α} {ag : Bool} (h : w.heap[b]? = some (.cells C T fr)) (hs : soft m C fr)
    (hT : tyOf P t = some (f.n, ag)) (hv : f.val G v x) (hl : o + f.n ≤ C.size) : ∃ w', (storeVar t ⟨b, o, none⟩ v).run P w = .ok () w' ∧ Wr w b (splice C.toList o v.cells.toList).toArray T fr w' := by
  have hlen := f.len hv.2
  obtain ⟨w', hr, hw⟩ := run_storeCells_block (P := P) (o := o) v.cells.toList 0 w C h hs (f.pl hv.2) (by omega)
  refine ⟨w', ?_, by simpa using hw⟩
  simp only [storeVar, Sem.run_bind, run_sizeOf hT, Result.andThen_ok]
  rw [if_neg (by simpa using hlen)]
  simpa using hr
/-! ### places in blocks of one's own -/
def adr (b i n off : Nat) : Addr := ⟨b, i * n + off, none⟩
variable {c : Cx} {G : Gh} {Δ : List Own}
theorem cons_erase {α} : ∀ {l : List α} {j : Nat} {x : α}, l[j]? = some x → (x :: l.eraseIdx j).Perm l
  | [], _, _, h => by simp at h
  | y :: l, 0, x, h => by simp at h; subst h; simp
  | y :: l, j + 1, x, h => by
    simp only [List.getElem?_cons_succ] at h
    simp only [List.eraseIdx_cons_succ]
    exact (List.Perm.swap y x _).trans ((cons_erase h).cons y)
theorem St.pull {e : Own} {j : Nat} (h : St c G w Δ) (hj : Δ[j]? = some e) : St c G w (e :: Δ.eraseIdx j) := by
  exact h.perm (cons_erase hj)
theorem set_perm {α} {l : List α} {j : Nat} {x : α} (hj : j < l.length) : (l.set j x).Perm (x :: l.eraseIdx j) := by
  have h := cons_erase (l := l.set j x) (j := j) (x := x) (by simp [hj])
  simp only [List.eraseIdx_set_eq] at h
  exact h.symm
theorem St.push {e e' : Own} {j : Nat} (h : St c G w (e' :: Δ.eraseIdx j)) (hj : Δ[j]? = some e) : St c G w (Δ.set j e') :=
  h.perm (set_perm (List.getElem?_eq_some_iff.1 hj).1)
theorem own_read {α β} {k : Kd α} {xs : List α} {cap b : Nat} {T t : TypeId} {j i : Nat} {x : α} {f : Kd β} (F : Fld k f) (h : St c G w Δ) (hj : Δ[j]? = some ⟨k, xs, cap, some b, T⟩) (hi : xs[i]? = some x)
    (hT : tyOf P t = some (f.n, f.ag)) : ∃ v, (loadVar t (adr b i k.n F.off)).run P w = .ok v w ∧ f.val G v (F.get x) := by
  have hok := h.own _ (List.mem_of_getElem? hj)
  obtain ⟨hn, C, fr, h1, h2, h3, h4⟩ := hok.2.2 b rfl
  have hr := F.hget (rows_get h4 hi)
  rw [List.drop_take, List.drop_drop, List.take_take, Nat.min_eq_left (by have := F.fits; omega)] at hr
  exact run_loadVar_block h1 hT hr
theorem own_write {α β} {k : Kd α} {xs : List α} {cap b : Nat} {T t : TypeId} {j i : Nat} {x : α} {f : Kd β} (F : Fld k f) {v : Value} {y : β} {ag : Bool} (h : St c G w Δ) (hj : Δ[j]? = some ⟨k, xs, cap, some b, T⟩) (hi : xs[i]? = some x)
    (hT : tyOf P t = some (f.n, ag)) (hv : f.val G v y) : ∃ w', (storeVar t (adr b i k.n F.off) v).run P w = .ok () w' ∧ St c G w' (Δ.set j ⟨k, xs.set i (F.set x y), cap, some b, T⟩) := by
  have hok := h.own _ (List.mem_of_getElem? hj)
  obtain ⟨hn, C, fr, h1, h2, h3, h4⟩ := hok.2.2 b rfl
  have hlt := (List.getElem?_eq_some_iff.1 hi).1
  have hlen := rows_len h4
  have hle : i * k.n + k.n ≤ xs.length * k.n := by rw [← Nat.succ_mul]; exact Nat.mul_le_mul_right _ hlt
  have hfit := F.fits
  have hvl := f.len hv.2
  simp only [Array.length_toList] at hlen
  obtain ⟨w', hr, hw⟩ := run_storeVar_block (P := P) (f := f) (o := i * k.n + F.off) h1 h3 hT hv (by omega)
  refine ⟨w', hr, ?_⟩
  have hrep := rows_get h4 hi
  have hset := F.hset hrep hv.2
  have hrow := rows_set hset hlt h4
  have hsl : (splice (List.take k.n (List.drop (i * k.n) C.toList)) F.off v.cells.toList).length = k.n := k.len hset
  have e : splice C.toList (i * k.n) (splice (List.take k.n (List.drop (i * k.n) C.toList)) F.off v.cells.toList) = splice C.toList (i * k.n + F.off) v.cells.toList := by
    have hC : C.toList.length = C.size := by simp
    apply List.ext_getElem?
    intro q
    rw [splice, hsl, splice, splice]
    simp only [List.getElem?_append, List.length_append, List.length_take, List.length_drop, List.getElem?_take, List.getElem?_drop]
    repeat' split
    all_goals first | rfl | omega | (congr 1; omega) | skip
  rw [e] at hrow
  refine St.push (e := ⟨k, xs, cap, some b, T⟩) ?_ hj
  have hvl' : v.cells.size = f.n := by simpa using hvl
  have hsz : (splice C.toList (i * k.n + F.off) v.cells.toList).length = C.toList.length := splice_length (by simp only [Array.length_toList]; omega)
  exact St.put (h.pull hj) (fun b' => hw.heap b') hw.size hw.os hw.tape hw.output (by simpa using hok.1) (by simp only [List.size_toArray]; rw [hsz]; simpa using h2)
    (soft_splice h3 (by simp only [List.size_toArray]; rw [hsz]; simp)) (by simpa using hrow)
/-! ### the steps -/
variable {ops : Array Oper} {Q : Exit → Act → World → Prop} {rest : List Oper} {n : Nat} {a : Act} {l : List (Nat × Value)} {d : Nat} {ty : TypeId} {pos : String} {af : Array Edge}
theorem ld_run {t : TypeId} {x : Operand} {p : Addr} {v : Value} (K : Tm n a l) (hx : ev l x = some (.pointer (some p))) (hr : (loadVar t p).run P w = .ok v w')
    (k : ∀ a, Tm n a ((d, v) :: l) → wpList P ops Q rest a w') (hd : Nat.blt d n = true := by rfl) : wpList P ops Q (⟨some d, .load t x, ty, pos, af, none⟩ :: rest) a w :=
  op_val rfl (show _ = Result.ok (Next.value v) w' by simp only [execOp, K.eval hx, Instr.loadAt, Instr.sureAddr, Sem.run_bind, Sem.run_pure, Result.andThen_ok, hr]) rfl (k _ (K.put hd))
theorem ld {α β} {k : Kd α} {xs : List α} {cap b : Nat} {T t : TypeId} {i : Nat} {x : α} {f : Kd β} {o : Operand} (j : Nat) (F : Fld k f) (K : Tm n a l) (h : St c G w Δ) (hj : Δ[j]? = some ⟨k, xs, cap, some b, T⟩)
    (hx : ev l o = some (.pointer (some (adr b i k.n F.off)))) (hi : xs[i]? = some x) (hT : tyOf P t = some (f.n, f.ag))
    (kk : ∀ a v, Tm n a ((d, v) :: l) → f.val G v (F.get x) → wpList P ops Q rest a w) (hd : Nat.blt d n = true := by rfl) : wpList P ops Q (⟨some d, .load t o, ty, pos, af, none⟩ :: rest) a w := by
  obtain ⟨v, hr, hv⟩ := own_read (P := P) F h hj hi hT
  exact ld_run K hx hr (fun a' K' => kk a' v K' hv) hd
theorem ld1 {α β} {k : Kd α} {xs : List α} {cap b : Nat} {T t : TypeId} {i : Nat} {x : α} {f : Kd β} {o : Operand} (j : Nat) (F : Fld k f) (u : Value) (K : Tm n a l) (h : St c G w Δ) (hj : Δ[j]? = some ⟨k, xs, cap, some b, T⟩)
    (hx : ev l o = some (.pointer (some (adr b i k.n F.off)))) (hi : xs[i]? = some x) (hT : tyOf P t = some (f.n, f.ag)) (hu : ∀ v, f.val G v (F.get x) → v = u)
    (kk : ∀ a, Tm n a ((d, u) :: l) → wpList P ops Q rest a w) (hd : Nat.blt d n = true := by rfl) : wpList P ops Q (⟨some d, .load t o, ty, pos, af, none⟩ :: rest) a w :=
  ld j F K h hj hx hi hT (fun a v K' hv => kk a (hu v hv ▸ K')) hd
theorem ldr {β} {f : Kd β} {t : TypeId} {o : Operand} {u : Value} {x : β} (K : Tm n a l) (h : St c G w Δ) (hx : ev l o = some u) (hu : (kRef f).val G u x) (hT : tyOf P t = some (f.n, f.ag))
    (kk : ∀ a v, Tm n a ((d, v) :: l) → f.val G v x → wpList P ops Q rest a w) (hd : Nat.blt d n = true := by rfl) : wpList P ops Q (⟨some d, .load t o, ty, pos, af, none⟩ :: rest) a w := by
  obtain ⟨⟨b, off, sp⟩, rfl, h0, C, T, fr, h1, h2⟩ := kRef_val.1 hu
  simp only at h0; subst h0
  obtain ⟨v, hr, hv⟩ := run_loadVar_block (P := P) (h.sat _ _ h1) hT h2
  exact ld_run K hx hr (fun a' K' => kk a' v K' hv) hd
theorem ldr1 {β} {f : Kd β} {t : TypeId} {o : Operand} {u : Value} {x : β} (r : Value) (K : Tm n a l) (h : St c G w Δ) (hx : ev l o = some u) (hu : (kRef f).val G u x) (hT : tyOf P t = some (f.n, f.ag)) (hr : ∀ v, f.val G v x → v = r)
    (kk : ∀ a, Tm n a ((d, r) :: l) → wpList P ops Q rest a w) (hd : Nat.blt d n = true := by rfl) : wpList P ops Q (⟨some d, .load t o, ty, pos, af, none⟩ :: rest) a w :=
  ldr K h hx hu hT (fun a v K' hv => kk a (hr v hv ▸ K')) hd
theorem sto {α β} {k : Kd α} {xs : List α} {cap b : Nat} {T t : TypeId} {i : Nat} {x : α} {f : Kd β} {o q : Operand} {v : Value} {y : β} {ag : Bool} (j : Nat) (F : Fld k f) (xs' : List α) (K : Tm n a l) (h : St c G w Δ) (hj : Δ[j]? = some ⟨k, xs, cap, some b, T⟩)
    (hx : ev l o = some (.pointer (some (adr b i k.n F.off)))) (hi : xs[i]? = some x) (hq : ev l q = some v) (hv : f.val G v y) (hT : tyOf P t = some (f.n, ag)) (hxs : xs.set i (F.set x y) = xs') {Δ' : List Own} (hΔ : Δ.set j ⟨k, xs', cap, some b, T⟩ = Δ')
    (kk : ∀ w, St c G w Δ' → wpList P ops Q rest a w) : wpList P ops Q (⟨none, .store t o q, ty, pos, af, none⟩ :: rest) a w := by
  obtain ⟨w', hr, hst⟩ := own_write (P := P) F h hj hi hT hv
  rw [hxs, hΔ] at hst
  refine op_skip rfl (show _ = Result.ok Next.skip w' from ?_) rfl (kk w' hst)
  simp only [execOp, K.eval hx, K.eval hq, Instr.storeAt, Instr.sureAddr, Sem.run_bind, Sem.run_pure, Result.andThen_ok, hr]
theorem adr_box {α} (k : Kd α) (b : Nat) : (⟨b, 0, none⟩ : Addr) = adr b 0 k.n (Fld.id k).off := by simp [adr, Fld.id]
theorem box {α} {k : Kd α} {t : TypeId} {q : Operand} {v : Value} {x : α} (K : Tm n a l) (h : St c G w Δ) (hq : ev l q = some v) (hv : k.val G v x)
    (kk : ∀ a w b, Tm n a ((d, .pointer (some (adr b 0 k.n (Fld.id k).off))) :: l) → St c G w (⟨k, [x], 1, some b, t⟩ :: Δ) → wpList P ops Q rest a w) (hd : Nat.blt d n = true := by rfl) :
    wpList P ops Q (⟨some d, .box t q, ty, pos, af, none⟩ :: rest) a w := by
  refine op_val rfl (show _ = Result.ok (Next.value (.pointer (some ⟨w.heap.size, 0, none⟩))) { w with heap := w.heap.push (.cells v.cells t) } from ?_) rfl (kk _ _ w.heap.size (adr_box k _ ▸ K.put hd) ?_)
  · simp only [execOp, K.eval hq, Instr.box, newVar, newRow, Sem.run_bind, run_newObj, Result.andThen_ok]; rfl
  · have hl := k.len hv.2
    refine h.new rfl rfl rfl rfl (by simp) (by simpa using hl) ⟨?_, trivial⟩
    rw [← hl, List.take_length]; exact hv.2
theorem boxr {α} {k : Kd α} {t : TypeId} {q : Operand} {v : Value} {x : α} (K : Tm n a l) (h : St c G w Δ) (hq : ev l q = some v) (hv : k.val G v x)
    (kk : ∀ a w u H, Tm n a ((d, u) :: l) → Gh.le G H → St c H w Δ → (kRef k).val H u x → wpList P ops Q rest a w) (hd : Nat.blt d n = true := by rfl) :
    wpList P ops Q (⟨some d, .box t q, ty, pos, af, none⟩ :: rest) a w :=
  box K h hq hv (fun a w b K' h' => by
    obtain ⟨H, h1, h2, h3⟩ := h'.freezeBox
    exact kk a w _ H K' h1 h2 (kRef_val.2 ⟨_, rfl, adr_box k b ▸ h3⟩)) hd
def Zr {α} (P : Program) (k : Kd α) (t : TypeId) (z : α) : Prop := ∃ i v, P.info? t = some i ∧ i.zero = some v ∧ ∀ G, k.val G v z
theorem run_zero {α} {k : Kd α} {t : TypeId} {z : α} (h : Zr P k t z) : ∃ v, (∀ w, (zeroValue t).run P w = .ok v w) ∧ ∀ G, k.val G v z := by
  obtain ⟨i, v, h1, h2, h3⟩ := h
  refine ⟨v, fun w => ?_, h3⟩
  simp only [zeroValue, typeInfo, Sem.run_bind, run_program, Result.andThen_ok, h1, h2, Sem.run_pure]
theorem alc {α} {k : Kd α} {t : TypeId} {z : α} (K : Tm n a l) (h : St c G w Δ) (hz : Zr P k t z)
    (kk : ∀ a w b, Tm n a ((d, .pointer (some (adr b 0 k.n (Fld.id k).off))) :: l) → St c G w (⟨k, [z], 1, some b, t⟩ :: Δ) → wpList P ops Q rest a w) (hd : Nat.blt d n = true := by rfl) :
    wpList P ops Q (⟨some d, .alloc t, ty, pos, af, none⟩ :: rest) a w := by
  obtain ⟨v, hzv, hv⟩ := run_zero hz
  refine op_val rfl (show _ = Result.ok (Next.value (.pointer (some ⟨w.heap.size, 0, none⟩))) { w with heap := w.heap.push (.cells v.cells t) } from ?_) rfl (kk _ _ w.heap.size (adr_box k _ ▸ K.put hd) ?_)
  · simp only [execOp, Instr.alloc, newVar, newRow, Sem.run_bind, run_newObj, Result.andThen_ok, hzv w]; rfl
  · have hl := k.len (hv G).2
    refine h.new rfl rfl rfl rfl (by simp) (by simpa using hl) ⟨?_, trivial⟩
    rw [← hl, List.take_length]; exact (hv G).2
def fldOff (P : Program) (T i : Nat) : Option Nat :=
  match P.underlying T with
  | some (.struct fs) => (fs[i]?).bind fun f => (P.info? f.type).bind fun j => if j.size = 0 then none else some f.offset
  | _ => none
theorem run_fieldAt {T i o b off : Nat} (h : fldOff P T i = some o) : (Instr.fieldAt T (.pointer (some ⟨b, off, none⟩)) i).run P w = .ok (.pointer (some ⟨b, off + o, none⟩)) w := by
  unfold fldOff at h
  cases hu : P.underlying T with
  | none => simp [hu] at h
  | some u =>
    cases u with
    | struct fs =>
      simp only [hu] at h
      cases hf : fs[i]? with
      | none => simp [hf] at h
      | some f =>
        simp only [hf, Option.bind_some] at h
        cases hi : P.info? f.type with
        | none => simp [hi] at h
        | some j =>
          simp only [hi, Option.bind_some] at h
          split at h
          · cases h
          · next hne =>
            simp only [Option.some.injEq] at h
            simp only [Instr.fieldAt, underlying, Sem.run_bind, run_program, Result.andThen_ok, hu, Sem.run_pure, hf, Instr.sureAddr, fieldPlace, sizeOf, typeInfo, hi, if_neg hne, add_flat, h]
    | _ => simp [hu] at h
theorem fa {α β γ} {k : Kd α} {f : Kd β} {g : Kd γ} {F : Fld k f} {T i : Nat} {b e : Nat} {o : Operand} (F' : Fld f g) (K : Tm n a l) (hx : ev l o = some (.pointer (some (adr b e k.n F.off)))) (ho : fldOff P T i = some F'.off)
    (kk : ∀ a, Tm n a ((d, .pointer (some (adr b e k.n (F.comp F').off))) :: l) → wpList P ops Q rest a w) (hd : Nat.blt d n = true := by rfl) :
    wpList P ops Q (⟨some d, .fieldAddr T o i, ty, pos, af, none⟩ :: rest) a w := by
  refine op_val rfl (show _ = Result.ok (Next.value (.pointer (some (adr b e k.n (F.comp F').off)))) w from ?_) rfl (kk _ (K.put hd))
  simp only [execOp, K.eval hx, adr, Sem.run_bind, run_fieldAt ho, Result.andThen_ok, Fld.comp]
  rw [Nat.add_assoc]; rfl
theorem at_field {α β} {k : Kd α} {f : Kd β} (F : Fld k f) {p : Addr} {x : α} (h : k.at G p x) : f.at G ⟨p.block, p.off + F.off, none⟩ (F.get x) := by
  obtain ⟨h0, C, T, fr, h1, h2⟩ := h
  refine ⟨rfl, C, T, fr, h1, ?_⟩
  have := F.hget h2
  rw [List.drop_take, List.drop_drop, List.take_take, Nat.min_eq_left (by have := F.fits; omega)] at this
  exact this
theorem far {α β} {k : Kd α} {f : Kd β} {T i : Nat} {u : Value} {x : α} {o : Operand} (F : Fld k f) (K : Tm n a l) (hx : ev l o = some u) (hu : (kRef k).val G u x) (ho : fldOff P T i = some F.off)
    (kk : ∀ a v, Tm n a ((d, v) :: l) → (kRef f).val G v (F.get x) → wpList P ops Q rest a w) (hd : Nat.blt d n = true := by rfl) :
    wpList P ops Q (⟨some d, .fieldAddr T o i, ty, pos, af, none⟩ :: rest) a w := by
  obtain ⟨⟨b, off, sp⟩, rfl, h⟩ := kRef_val.1 hu
  have h0 := h.1
  simp only at h0; subst h0
  have h1 := at_field F h
  refine op_val rfl (show _ = Result.ok (Next.value (.pointer (some ⟨b, off + F.off, none⟩))) w from ?_) rfl (kk _ _ (K.put hd) (kRef_val.2 ⟨_, rfl, h1⟩))
  simp only [execOp, K.eval hx, Sem.run_bind, run_fieldAt ho, Result.andThen_ok]; rfl
end
end Go.Sy
