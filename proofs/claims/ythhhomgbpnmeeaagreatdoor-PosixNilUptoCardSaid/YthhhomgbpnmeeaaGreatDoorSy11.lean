/- A library for walks that a program prints: kinds of data, what a call owns, one lemma for each operation. No conditions. -/
import Derived.Test.YthhhomgbpnmeeaaGreatDoorSy10
set_option linter.all false
namespace Go.Sy
open Go
theorem foldl_splice : ∀ (vs : List Value) (off q : Nat) (C : Array Value), off + q + vs.length ≤ C.size →
    ((vs.zipIdx q).foldl (fun cs (p : Value × Nat) => cs.setIfInBounds (off + p.2) p.1) C).toList = splice C.toList (off + q) vs
  | [], off, q, C, _ => by simp [splice]
  | v :: vs, off, q, C, h => by
    simp only [List.length_cons] at h
    rw [List.zipIdx_cons, List.foldl_cons, foldl_splice vs off (q + 1) _ (by simp; omega)]
    simp only [Array.toList_setIfInBounds, splice, List.length_cons]
    have hlt : off + q < C.toList.length := by simp; omega
    have e1 : (C.toList.set (off + q) v).take (off + (q + 1)) = C.toList.take (off + q) ++ [v] := by
      rw [← Nat.add_assoc, List.take_succ_eq_append_getElem (by simpa using hlt), List.getElem_set_self]
      congr 1
      rw [List.take_set_of_le (by omega)]
    have e2 : (C.toList.set (off + q) v).drop (off + (q + 1) + vs.length) = C.toList.drop (off + q + (vs.length + 1)) := by
      rw [List.drop_set_of_lt (by omega)]
      congr 1; omega
    rw [e1, e2]; simp
inductive Parts {α} (k : Kd α) (pl : Nat → Option (Nat × Nat)) (G : Gh) : α → List (Nat × Value) → α → Prop
  | nil {x} : Parts k pl G x [] x
  | cons {β} {f : Kd β} (F : Fld k f) {i v x y ps z} (hpl : pl i = some (F.off, f.n)) (hv : f.val G v y) (h : Parts k pl G (F.set x y) ps z) : Parts k pl G x ((i, v) :: ps) z
theorem Parts.fill {α} {k : Kd α} {pl : Nat → Option (Nat × Nat)} {G : Gh} {x z : α} {ps : List (Nat × Value)} (h : Parts k pl G x ps z) : ∀ {C : Array Value}, k.rep G C.toList x → ∃ C', Instr.fill pl C ps = some C' ∧ k.rep G C'.toList z := by
  induction h with
  | nil => intro C hC; exact ⟨C, rfl, hC⟩
  | @cons β f F i v x y ps z hpl hv h ih =>
    intro C hC
    have hl := f.len hv.2
    have hk := k.len hC
    have hfit := F.fits
    have hset := F.hset hC hv.2
    have hvs : v.cells.size = f.n := by simpa using hl
    have hCs : C.size = k.n := by simpa using hk
    have e : ((v.cells.zipIdx).foldl (fun cs (p : Value × Nat) => cs.setIfInBounds (F.off + p.2) p.1) C).toList = splice C.toList F.off v.cells.toList := by
      have := foldl_splice v.cells.toList F.off 0 C (by rw [hl]; omega)
      rw [Nat.add_zero] at this
      rw [← this, ← Array.foldl_toList, Array.toList_zipIdx]
    rw [← e] at hset
    obtain ⟨C', h1, h2⟩ := ih hset
    refine ⟨C', ?_, h2⟩
    simp only [Instr.fill, hpl]
    rw [if_neg (by simp only [Bool.or_eq_true, decide_eq_true_eq]; omega)]
    exact h1
def plS (P : Program) (T : TypeId) : Option (List (Nat × Nat)) :=
  match P.underlying T with
  | some (.struct fs) => fs.toList.mapM fun f => (P.info? f.type).map fun i => (f.offset, i.size)
  | _ => none
section
variable {P : Program} {w w' : World} {c : Cx} {G : Gh} {Δ : List Own}
variable {ops : Array Oper} {Q : Exit → Act → World → Prop} {rest : List Oper} {n : Nat} {a : Act} {l : List (Nat × Value)} {d : Nat} {ty : TypeId} {pos : String} {af : Array Edge}
theorem run_places : ∀ (fs : List Field) (ps : List (Nat × Nat)), (fs.mapM fun f => (P.info? f.type).map fun i => (f.offset, i.size)) = some ps →
    (fs.mapM (fun f => (do pure (f.offset, ← sizeOf f.type) : Sem (Nat × Nat)))).run P w = .ok ps w
  | [], ps, h => by simp at h; subst h; simp
  | f :: fs, ps, h => by
    simp only [List.mapM_cons] at h ⊢
    cases hi : P.info? f.type with
    | none => simp [hi] at h
    | some i =>
      simp only [hi, Option.map_some] at h
      cases hr : (fs.mapM fun f => (P.info? f.type).map fun i => (f.offset, i.size)) with
      | none => simp [hr] at h
      | some qs =>
        simp [hr] at h
        subst h
        have := run_places fs qs hr
        have hs : (sizeOf f.type).run P w = .ok i.size w := by simp only [Sem.run_bind, sizeOf, typeInfo, run_program, Result.andThen_ok, hi, Sem.run_pure]
        simp only [Sem.run_bind, hs, Result.andThen_ok, Sem.run_pure, this]
def evp (l : List (Nat × Value)) : List (Nat × Operand) → Option (List (Nat × Value))
  | [] => some []
  | (i, x) :: xs => match ev l x, evp l xs with
    | some v, some vs => some ((i, v) :: vs)
    | _, _ => none
theorem Tm.evp (K : Tm n a l) : ∀ {xs : List (Nat × Operand)} {vs : List (Nat × Value)}, Sy.evp l xs = some vs → xs.map (fun p => (p.1, a.eval p.2)) = vs
  | [], vs, h => by simp [Sy.evp] at h; subst h; rfl
  | (i, x) :: xs, vs, h => by
    simp only [Sy.evp] at h
    split at h
    · next v vs' h1 h2 =>
      simp only [Option.some.injEq] at h; subst h
      simp only [List.map_cons, K.eval h1, K.evp h2]
    · cases h
theorem bld {α} {k : Kd α} {T : TypeId} {xs : List (Nat × Operand)} {vs : List (Nat × Value)} {pl : List (Nat × Nat)} {z0 : α} (z : α) (K : Tm n a l) (_h : St c G w Δ) (hv : evp l xs = some vs) (hpl : plS P T = some pl) (hag : k.ag = true) (hz : Zr P k T z0) (hp : Parts k (fun i => pl[i]?) G z0 vs z)
    (kk : ∀ a u, Tm n a ((d, u) :: l) → k.val G u z → wpList P ops Q rest a w) (hd : Nat.blt d n = true := by rfl) : wpList P ops Q (⟨some d, .build T xs.toArray, ty, pos, af, none⟩ :: rest) a w := by
  obtain ⟨zv, hzr, hzv⟩ := run_zero hz
  obtain ⟨C', h1, h2⟩ := hp.fill (hzv G).2
  have he := K.evp hv
  unfold plS at hpl
  split at hpl
  · next fs hu =>
    refine op_val rfl (show _ = Result.ok (Next.value (.agg C')) w from ?_) rfl (kk _ _ (K.put hd) (Kd.val_of_agg hag h2))
    have hm : (xs.toArray.map fun x => (x.1, a.eval x.2)).toList = vs := by simpa using he
    have hplaces : (fs.mapM (fun f => (do pure (f.offset, ← sizeOf f.type) : Sem (Nat × Nat)))).run P w = .ok pl.toArray w := by
      rw [Array.mapM_eq_mapM_toList, Sem.run_map, run_places _ _ hpl]; rfl
    have h1' : Instr.fill (fun i => pl.toArray[i]?) zv.cells vs = some C' := by simpa using h1
    simp only [execOp, Instr.build, Sem.run_bind, hzr w, Result.andThen_ok, underlying, run_program, hu, Sem.run_pure, hplaces, hm, h1']
  · cases hpl
theorem bldA {β} [Inhabited β] {f : Kd β} {m : Nat} {hm : 0 < m} {T E : TypeId} {ag : Bool} {xs : List (Nat × Operand)} {vs : List (Nat × Value)} {z0 : List β} (z : List β) (K : Tm n a l) (_h : St c G w Δ) (hv : evp l xs = some vs) (hT : arrOf P T = some (m, E)) (hE : tyOf P E = some (f.n, ag)) (hz : Zr P (kArr m hm f) T z0) (hp : Parts (kArr m hm f) (fun i => some (i * f.n, f.n)) G z0 vs z)
    (kk : ∀ a u, Tm n a ((d, u) :: l) → (kArr m hm f).val G u z → wpList P ops Q rest a w) (hd : Nat.blt d n = true := by rfl) : wpList P ops Q (⟨some d, .build T xs.toArray, ty, pos, af, none⟩ :: rest) a w := by
  obtain ⟨zv, hzr, hzv⟩ := run_zero hz
  obtain ⟨C', h1, h2⟩ := hp.fill (hzv G).2
  have he := K.evp hv
  refine op_val rfl (show _ = Result.ok (Next.value (.agg C')) w from ?_) rfl (kk _ _ (K.put hd) (Kd.val_of_agg rfl h2))
  have hm : (xs.toArray.map fun x => (x.1, a.eval x.2)).toList = vs := by simpa using he
  simp only [execOp, Instr.build, Sem.run_bind, hzr w, Result.andThen_ok, underlying, run_program, arrOf_und hT, run_sizeOf hE, hm, h1, Sem.run_pure]
theorem bldS {β} [Inhabited β] {f : Kd β} {m : Nat} (hm : 0 < m) {T E : TypeId} {ag : Bool} {xs : List (Nat × Operand)} {vs : List (Nat × Value)} {e0 : β} (z : List β) (K : Tm n a l) (h : St c G w Δ) (hv : evp l xs = some vs) (hT : slOf P T = some E) (hE : tyOf P E = some (f.n, ag)) (hb : decide (m * f.n ≤ 16777216) = true) (hz : Zr P f E e0)
    (hp : Parts (kArr m hm f) (fun i => some (i * f.n, f.n)) G (List.replicate m e0) vs z)
    (kk : ∀ a w b, Tm n a ((d, hdr (some b) m m) :: l) → St c G w (⟨f, z, m, some b, E⟩ :: Δ) → wpList P ops Q rest a w) (hd : Nat.blt d n = true := by rfl) : wpList P ops Q (⟨some d, .buildSlice T m xs.toArray, ty, pos, af, none⟩ :: rest) a w := by
  obtain ⟨zv, hzr, hzv⟩ := run_zero hz
  have hzl := f.len (hzv G).2
  have hpos := f.pos
  have hb' : m * f.n ≤ 16777216 := by simpa using hb
  have harr : ((Array.range (m * f.n)).map (fun i => zv.cells[i % zv.cells.size]!)) = (List.replicate m zv.cells.toList).flatten.toArray := by
    apply Array.ext'
    have := range_mod (zs := zv.cells.toList) (m := m) (by omega)
    rw [hzl] at this
    have hs : zv.cells.size = f.n := by simpa using hzl
    simpa [hs] using this
  have hrep : (kArr m hm f).rep G (List.replicate m zv.cells.toList).flatten.toArray.toList (List.replicate m e0) := ⟨by simp, by simp [List.sum_replicate_nat, hzl], by simpa using rows_replicate (hzv G).2 m⟩
  obtain ⟨C', h1, h2⟩ := hp.fill hrep
  have he := K.evp hv
  have hm' : (xs.toArray.map fun x => (x.1, a.eval x.2)).toList = vs := by simpa using he
  refine op_val rfl (show _ = Result.ok (Next.value (hdr (some w.heap.size) m m)) { w with heap := w.heap.push (.cells C' E) } from ?_) rfl (kk _ _ w.heap.size (K.put hd) (h.new rfl rfl rfl rfl (by rw [h2.1]; exact Nat.le_refl _) (by simpa using h2.2.1) h2.2.2))
  have hne : m * f.n ≠ 0 := by have := Nat.mul_pos hm hpos; omega
  simp only [execOp, Instr.buildSlice, Sem.run_bind, underlying, run_program, Result.andThen_ok, slOf_und hT, Sem.run_pure, run_sizeOf hE, if_neg (show ¬ m * f.n > 2 ^ 24 by omega), if_neg hne, hzr w, harr, hm', h1, newRow, run_newObj, hdr, Option.map_some]
theorem bldS0 {β} {f : Kd β} {T E : TypeId} {ag : Bool} (K : Tm n a l) (h : St c G w Δ) (hT : slOf P T = some E) (hE : tyOf P E = some (f.n, ag))
    (kk : ∀ a w b, Tm n a ((d, hdr (some b) 0 0) :: l) → St c G w (⟨f, [], 0, some b, E⟩ :: Δ) → wpList P ops Q rest a w) (hd : Nat.blt d n = true := by rfl) : wpList P ops Q (⟨some d, .buildSlice T 0 #[], ty, pos, af, none⟩ :: rest) a w := by
  refine op_val rfl (show _ = Result.ok (Next.value (hdr (some w.heap.size) 0 0)) { w with heap := w.heap.push (.cells #[] E) } from ?_) rfl (kk _ _ w.heap.size (K.put hd) (h.new rfl rfl rfl rfl (by simp) (by simp) (by simp [rows])))
  simp [execOp, Instr.buildSlice, underlying, slOf_und hT, run_sizeOf hE, newRow, hdr, Instr.fill]
  rw [show Array.range 0 = #[] from rfl, Array.map_empty]
end
end Go.Sy
