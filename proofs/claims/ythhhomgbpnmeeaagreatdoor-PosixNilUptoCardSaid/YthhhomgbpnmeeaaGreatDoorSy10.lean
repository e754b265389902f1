/- A library for walks that a program prints: kinds of data, what a call owns, one lemma for each operation. No conditions. -/
import Derived.Test.YthhhomgbpnmeeaaGreatDoorSy9
import Derived.Orders
import Derived.Laws.BytesString
set_option linter.all false
namespace Go.Sy
open Go
section
variable {P : Program} {w w' : World} {c : Cx} {G : Gh} {Δ : List Own}
variable {ops : Array Oper} {Q : Exit → Act → World → Prop} {rest : List Oper} {n : Nat} {a : Act} {l : List (Nat × Value)} {d : Nat} {ty : TypeId} {pos : String} {af : Array Edge}
/-! ### a new block with frozen cells behind its end -/
theorem St.newF {α} {k : Kd α} {xs : List α} {cap : Nat} {T : TypeId} {C : Array Value} {fr : Nat × Nat} (h : St c G w Δ) (hw : ∀ b, w'.heap[b]? = if b = w.heap.size then some (.cells C T fr) else w.heap[b]?) (hs : w'.heap.size = w.heap.size + 1)
    (ho : w'.os = w.os) (ht : w'.tape = w.tape) (hp : w'.output = w.output)
    (hl : xs.length ≤ cap) (hC : C.size = cap * k.n) (hso : soft k.n C fr) (hr : rows k G C.toList xs) : St c G w' (⟨k, xs, cap, some w.heap.size, T⟩ :: Δ) where
  sat b o hb := by
    have := h.sat b o hb
    have lt := h.lt hb
    rw [hw, if_neg (by omega)]; exact this
  own e he := by
    rcases List.mem_cons.1 he with rfl | he
    · refine ⟨hl, by simp, fun b hb => ?_⟩
      simp at hb; subst hb
      refine ⟨h.fresh, C, fr, by rw [hw]; simp, hC, hso, hr⟩
    · have hok := h.own e he
      refine Own.ok_mono (fun b hb => (hok.2.2 b hb).1) (Gh.refl _) (fun b hb => ?_) hok
      have := Own.lt hok hb
      rw [hw, if_neg (by omega)]
  nd := by
    simp only [List.filterMap_cons]
    refine List.nodup_cons.2 ⟨fun hm => ?_, h.nd⟩
    obtain ⟨e, he, hb⟩ := List.mem_filterMap.1 hm
    have := Own.lt (h.own e he) hb
    omega
  fr b hb hs := by
    have := h.size
    rw [hw, if_neg (by omega)]; exact h.fr b hb hs
  low e he b hb hlt := by
    rcases List.mem_cons.1 he with rfl | he
    · simp at hb; subst hb; have := h.size; omega
    · exact h.low e he b hb hlt
  size := by have := h.size; omega
  gle := h.gle
  gnew := h.gnew
  os := ho.trans h.os
  tape := ht.trans h.tape
  output := hp.trans h.output
/-! ### bytes and strings -/
theorem fold_bytes : ∀ (xs : List UInt8) (s : ByteArray), ((xs.map fun b => ((b.toNat : Nat) : Int)).foldl (fun r n => r.push (UInt8.ofNat n.toNat)) s) = ⟨s.data ++ xs.toArray⟩
  | [], s => by simp
  | x :: xs, s => by
    rw [List.map_cons, List.foldl_cons, fold_bytes xs]
    congr 1
    apply Array.ext'
    simp [ByteArray.push]
theorem run_bytesToString' {v : Value} {xs : List UInt8} (h : St c G w Δ) (hv : slRep kByte G v xs) : (Conv.bytesToString v).run P w = .ok (.string (strOf xs)) w := by
  obtain ⟨a0, cap, rfl, h1, h2, h3⟩ := hv
  cases a0 with
  | none =>
    have h0 : xs = [] := by have := h2 rfl; exact List.eq_nil_of_length_eq_zero (by omega)
    subst h0
    simp [Conv.bytesToString, strOf]; rfl
  | some p =>
    obtain ⟨b, o, sp⟩ := p
    obtain ⟨h4, C, T, fr, h5, h6, h7⟩ := h3 _ rfl
    simp only at h4 h5 h6 h7; subst h4
    have hb := h.sat _ _ h5
    have hl := rows_len h7
    have hk : kByte.n = 1 := rfl
    simp only [hk, Nat.mul_one] at hl h6
    have hlen : ((C.toList.drop o).take xs.length).length = xs.length := by simp only [List.length_take]; omega
    have hload := run_loadCells_block (P := P) hb hlen
    rw [bytes_rows h7] at hload
    rw [run_bytesToString w _ xs.length cap (xs.map fun b => ((b.toNat : Nat) : Int)) (by rw [hload]; simp [List.map_map, Function.comp_def]), fold_bytes]
    show Result.ok (Value.string ⟨#[] ++ xs.toArray⟩) w = _
    rw [Array.empty_append]; rfl
theorem cvtBS {src dst E : TypeId} {x : Operand} {v : Value} {xs : List UInt8} (K : Tm n a l) (h : St c G w Δ) (hx : ev l x = some v) (hv : (kSl kByte).val G v xs) (hs : slOf P src = some E) (ht : P.underlying dst = some .string) (hE : P.underlying E = some (.int .u8))
    (k : ∀ a, Tm n a ((d, .string (strOf xs)) :: l) → wpList P ops Q rest a w) (hd : Nat.blt d n = true := by rfl) : wpList P ops Q (⟨some d, .convert src dst x, ty, pos, af, none⟩ :: rest) a w := by
  refine cvt K hx (v := .string (strOf xs)) ?_ k hd
  have hv := kSl_val.1 hv
  have hr := run_bytesToString' (P := P) h hv
  obtain ⟨a0, cap, rfl, _⟩ := hv
  simp only [convert, underlying, Sem.run_bind, run_program, Result.andThen_ok, slOf_und hs, ht, Sem.run_pure, hE, hr]
theorem cvtSB {src dst E : TypeId} {x : Operand} {s : ByteArray} (K : Tm n a l) (h : St c G w Δ) (hx : ev l x = some (.string s)) (hs : P.underlying src = some .string) (ht : slOf P dst = some E) (hE : P.underlying E = some (.int .u8))
    (kk : ∀ a w b cap, Tm n a ((d, hdr (some b) (bts s).length cap) :: l) → St c G w (⟨kByte, bts s, cap, some b, E⟩ :: Δ) → wpList P ops Q rest a w) (hd : Nat.blt d n = true := by rfl) : wpList P ops Q (⟨some d, .convert src dst x, ty, pos, af, none⟩ :: rest) a w := by
  have hsz : s.size = (bts s).length := by simp [bts]
  obtain ⟨nc, hnc⟩ : ∃ nc, (Question.appendCap s.size 0 E).cut (w.tape w.drawn (.appendCap s.size 0 E)) = nc := ⟨_, rfl⟩
  have hge : s.size ≤ nc := by rw [← hnc]; simp only [Question.cut]; omega
  have hch : (choose (.appendCap s.size 0 E)).run P w = .ok nc { w with drawn := w.drawn + 1 } := by
    rw [run_choose, show (Question.appendCap s.size 0 E).forced = false from rfl]; simp only [Bool.false_eq_true, if_false, hnc]
  have hC : ((s.data.map fun b : UInt8 => (Value.int .u8 b.toNat)) ++ Array.replicate (nc - s.size) (Value.int .u8 0)).size = nc := by
    simp only [Array.size_append, Array.size_map, Array.size_replicate]
    have : s.data.size = s.size := rfl
    omega
  have hrow : rows kByte G ((s.data.map fun b : UInt8 => (Value.int .u8 b.toNat)) ++ Array.replicate (nc - s.size) (Value.int .u8 0)).toList (bts s) := by
    simp only [Array.toList_append, Array.toList_map]
    exact rows_ext (cs := (bts s).map fun b : UInt8 => (Value.int .u8 b.toNat)) (by
      have : ((bts s).map fun b : UInt8 => (Value.int .u8 b.toNat)).length = (bts s).length * kByte.n := by simp [kByte, mk1]
      rw [← this, List.take_length]
      exact (List.take_left' rfl).symm) (rows_bytes _)
  obtain ⟨C, hCd⟩ : ∃ C, ((s.data.map fun b : UInt8 => (Value.int .u8 b.toNat)) ++ Array.replicate (nc - s.size) (Value.int .u8 0)) = C := ⟨_, rfl⟩
  rw [hCd] at hC hrow
  have hfz : World.freeze { w with drawn := w.drawn + 1, heap := w.heap.push (.cells C E) } { block := w.heap.size, off := nc } 1 = { w with drawn := w.drawn + 1, heap := w.heap.push (.cells C E (nc, nc + 1)) } := by
    simp only [World.freeze]
    rw [if_neg (by decide)]
    congr 1
    apply Array.ext_getElem?
    intro i
    simp only [Array.getElem?_modify, Array.getElem?_push]
    by_cases e : w.heap.size = i
    · subst e; simp
    · rw [if_neg e, if_neg (fun h => e h.symm), if_neg (fun h => e h.symm)]
  refine cvt K hx (v := hdr (some w.heap.size) (bts s).length nc) (w' := { w with drawn := w.drawn + 1, heap := w.heap.push (.cells C E (nc, nc + 1)) }) ?_ (fun a K' => kk a _ w.heap.size nc K' ?_) hd
  · simp only [convert, underlying, Sem.run_bind, run_program, Result.andThen_ok, slOf_und ht, hs, Sem.run_pure, hE, Conv.stringToBytes, hch, newRow, run_newObj, hCd, markStringish, run_shape, World.shape?, Array.getElem?_push_size, run_freeze, hC, hdr, Option.map_some, ← hsz, hfz]
  · exact St.newF (w := { w with drawn := w.drawn + 1 }) (C := C) (fr := (nc, nc + 1)) h.drew (fun b => by simp only [Array.getElem?_push]) (by simp) rfl rfl rfl (by omega) (by simpa [kByte, mk1] using hC) ⟨fun i hi hh => by simp only at hh; omega, fun h1 => absurd h1 (by simp [kByte, mk1]), Nat.le_succ _⟩ hrow
/-! ### loops -/
def Lp.iter {S R : Type} (step : S → Option (S ⊕ R)) : Nat → S → Option R
  | 0, _ => none
  | k + 1, s => match step s with
    | none => none
    | some (.inl s') => Lp.iter step k s'
    | some (.inr r) => some r
def Lp.big : Nat := 1099511627776
def Lp.run {S R : Type} (step : S → Option (S ⊕ R)) (s : S) : Option R := Lp.iter step Lp.big s
theorem wp_loop_iter {S R : Type} {C : Code} (step : S → Option (S ⊕ R)) (Inv : S → Act → World → Prop) (Done : R → Exit → Act → World → Prop)
    (round : ∀ s y a w, step s = some y → Inv s a w → C.wp P (fun e a' w' => match y with | .inl s' => e = .normal ∧ Inv s' a' w' | .inr r => e ≠ .normal ∧ Done r e a' w') a w) :
    ∀ (k : Nat) (s : S) (r : R), Lp.iter step k s = some r → ∀ a w, Inv s a w → (Code.loop C).wp P (Done r) a w := by
  intro k s r hr a w hI b kk cs
  have key : ∀ (k : Nat) (s : S) (r : R), Lp.iter step k s = some r → ∀ a w, Inv s a w →
      ∃ e a' w', Done r e a' w' ∧ Arrives P (lone (b.at a (.code C :: .inLoop C :: kk)) cs w) b kk cs e a' w' := by
    intro k
    induction k with
    | zero => intro s r h; simp [Lp.iter] at h
    | succ k ih =>
      intro s r h a w hI
      simp only [Lp.iter] at h
      cases hs : step s with
      | none => simp [hs] at h
      | some y =>
        obtain ⟨e, a₁, w₁, hq, harr⟩ := round s y a w hs hI b (.inLoop C :: kk) cs
        cases y with
        | inl s' =>
          simp only [hs] at h
          obtain ⟨rfl, hI'⟩ := hq
          obtain ⟨e₂, a₂, w₂, hq₂, harr₂⟩ := ih s' r h a₁ w₁ hI'
          exact ⟨e₂, a₂, w₂, hq₂, .of_steps (Steps.trans harr (.one step_inLoop)) harr₂⟩
        | inr r' =>
          simp only [hs, Option.some.injEq] at h
          subst h
          obtain ⟨hne, hD⟩ := hq
          exact ⟨e, a₁, w₁, hD, .pass (x := .inLoop C) rfl (fun _ _ => .inl hne) harr⟩
  obtain ⟨e, a', w', hq, harr⟩ := key k s r hr a w hI
  exact ⟨e, a', w', hq, .of_steps (.one step_loop) harr⟩
theorem loop {S R : Type} {C : Code} {step : S → Option (S ⊕ R)} {s : S} {r : R} (Inv : S → Act → World → Prop) (Done : R → Exit → Act → World → Prop) (hr : Lp.run step s = some r) (h0 : Inv s a w)
    (round : ∀ s y a w, step s = some y → Inv s a w → C.wp P (fun e a' w' => match y with | .inl s' => e = .normal ∧ Inv s' a' w' | .inr r => e ≠ .normal ∧ Done r e a' w') a w)
    (hQ : ∀ e a w, Done r e a w → Q e a w) : (Code.loop C).wp P Q a w :=
  Code.wp_mono hQ (wp_loop_iter step Inv Done round _ s r hr a w h0)
/-! ### joins -/
end
end Go.Sy
