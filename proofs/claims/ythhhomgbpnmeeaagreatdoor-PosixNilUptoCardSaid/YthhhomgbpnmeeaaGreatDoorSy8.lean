/- A library for walks that a program prints: kinds of data, what a call owns, one lemma for each operation. No conditions. -/
import Derived.Test.YthhhomgbpnmeeaaGreatDoorSy7
set_option linter.all false
namespace Go.Sy
open Go
/-! ### bytes -/
def kByte : Kd UInt8 := mk1 (fun _ v (x : UInt8) => v = .int .u8 x.toNat) (fun _ h => h) (by rintro _ _ _ rfl; rfl)
theorem kByte_val {G v x} : kByte.val G v x ↔ v = .int .u8 x.toNat := mk1_val (fun _ v (x : UInt8) => v = .int .u8 x.toNat) rfl fun _ _ _ => Iff.rfl
def b8 (n : Int) : UInt8 := UInt8.ofNat n.toNat
theorem b8_toNat {n : Int} (h : 0 ≤ n ∧ n < 256) : ((b8 n).toNat : Int) = n := by
  simp only [b8, UInt8.toNat_ofNat']; omega
def isB (n : Int) : Bool := decide (0 ≤ n) && decide (n < 256)
theorem byte_val {G : Gh} {n : Int} (h : isB n = true) : kByte.val G (.int .u8 n) (b8 n) := by
  have h' : 0 ≤ n ∧ n < 256 := by simpa [isB] using h
  rw [kByte_val, b8_toNat h']
theorem isB_wrap (n : Int) : isB (IntKind.u8.wrap n) = true := by
  have : 0 ≤ IntKind.u8.wrap n ∧ IntKind.u8.wrap n < 256 := by
    simp only [IntKind.wrap, IntKind.bits, IntKind.signed, Bool.false_and, Bool.false_eq_true, if_false]; omega
  simpa [isB] using this
def bts (s : ByteArray) : List UInt8 := s.data.toList
def strOf (xs : List UInt8) : ByteArray := ⟨xs.toArray⟩
theorem rows_bytes {G : Gh} : ∀ (xs : List UInt8), rows kByte G (xs.map fun b => (.int .u8 b.toNat : Value)) xs
  | [] => trivial
  | x :: xs => ⟨⟨_, rfl, rfl⟩, rows_bytes xs⟩
theorem bytes_rows {G : Gh} : ∀ {xs : List UInt8} {cs : List Value}, rows kByte G cs xs → cs.take xs.length = xs.map fun b => (.int .u8 b.toNat : Value)
  | [], _, _ => by simp
  | x :: xs, cs, ⟨⟨v, h1, h2⟩, h3⟩ => by
    have h4 := bytes_rows h3
    simp only [kByte, mk1] at h1 h4
    match cs, h1 with
    | u :: cs, h1 =>
      simp only [List.take_succ_cons, List.take_zero, List.cons.injEq, and_true] at h1
      subst h1; subst h2
      simp only [List.drop_succ_cons, List.drop_zero] at h4
      simp [h4]
section
variable {P : Program} {w w' : World} {c : Cx} {G : Gh} {Δ : List Own}
variable {ops : Array Oper} {Q : Exit → Act → World → Prop} {rest : List Oper} {n : Nat} {a : Act} {l : List (Nat × Value)} {d : Nat} {ty : TypeId} {pos : String} {af : Array Edge}
def roomB (m n : Nat) : Bool := decide (m + n ≤ maxS)
theorem app {α} {k : Kd α} {xs ys : List α} {cap : Nat} {b : Option Nat} {E t t2 E2 : TypeId} {o q : Operand} {u v : Value} {tys : Array TypeId} (j : Nat) (K : Tm n a l) (h : St c G w Δ) (hj : Δ[j]? = some ⟨k, xs, cap, b, E⟩)
    (hx : ev l o = some v) (hv : v = hdr b xs.length cap) (hy : ev l q = some u) (hu : (kSl k).val G u ys) (ht : tys = #[t, t2]) (hT : slOf P t = some E) (hT2 : slOf P t2 = some E2) (hE : elB P E k.n = true) (hroom : roomB xs.length ys.length = true)
    (kk : ∀ a w b cap, Tm n a ((d, hdr b (xs ++ ys).length cap) :: l) → St c G w (Δ.set j ⟨k, xs ++ ys, cap, b, E⟩) → wpList P ops Q rest a w) (hd : Nat.blt d n = true := by rfl) :
    wpList P ops Q (⟨some d, .call ⟨.builtin .append, #[o, q], tys⟩, ty, pos, af, none⟩ :: rest) a w := by
  subst ht hv
  have hu := kSl_val.1 hu
  obtain ⟨hl, ns, hn, hr, hf⟩ := sl_cells (P := P) h hu
  obtain ⟨b', cap', w', hrun, hst, _⟩ := run_append (ty := ty) h hj hT hE (slOf_und hT2) (.inl ⟨_, rfl⟩) hl hn hr (fun w1 hw1 => by
    have := hf w1 hw1 ys.length (Nat.le_refl _)
    rw [← hn, List.take_length] at this; exact this) (by simpa [roomB] using hroom)
  refine bi (xs := [o, q]) K (evs2 hx hy) (v := hdr b' (xs ++ ys).length cap') ?_ (fun a K' => kk a w' b' cap' K' hst) hd
  simp only [builtin, Sem.run_bind, hrun, Result.andThen_ok, Sem.run_pure]
/-! ### make -/
theorem wrap64_id {n : Int} (h : -9223372036854775808 ≤ n) (h2 : n < 9223372036854775808) : IntKind.i64.wrap n = n := by
  have e : IntKind.i64.wrap n = if n % 18446744073709551616 ≥ 9223372036854775808 then n % 18446744073709551616 - 18446744073709551616 else n % 18446744073709551616 := by
    simp [IntKind.wrap, IntKind.bits, IntKind.signed]
  rw [e]; split <;> omega
def mkB (m : Int) : Bool := decide (0 ≤ m) && decide (m ≤ maxS)
theorem range_mod {zs : List Value} {m : Nat} (hz : 0 < zs.length) : ((Array.range (m * zs.length)).map (fun i => zs.toArray[i % zs.length]!)).toList = (List.replicate m zs).flatten := by
  apply List.ext_getElem?
  intro i
  simp only [Array.toList_map, Array.toList_range, List.getElem?_map]
  by_cases hi : i < m * zs.length
  · have hlt := Nat.mod_lt i hz
    rw [List.getElem?_range hi]
    simp only [Option.map_some]
    have : (List.replicate m zs).flatten[i]? = zs[i % zs.length]? := by
      clear hlt
      induction m generalizing i with
      | zero => simp at hi
      | succ m ih =>
        rw [List.replicate_succ, List.flatten_cons, List.getElem?_append]
        by_cases hlt : i < zs.length
        · rw [if_pos hlt, Nat.mod_eq_of_lt hlt]
        · rw [if_neg hlt, ih (i - zs.length) (by rw [Nat.add_mul] at hi; omega)]
          congr 1
          exact (Nat.mod_eq_sub_mod (by omega)).symm
    rw [this, List.getElem?_eq_getElem hlt]
    simp [getElem!_pos, hlt]
  · rw [List.getElem?_eq_none (by simpa using hi), List.getElem?_eq_none]
    · rfl
    · simp only [List.length_flatten, List.map_replicate, List.sum_replicate_nat]; omega
theorem mks {α} {k : Kd α} {z : α} {t E : TypeId} {o q : Operand} {m : Int} (K : Tm n a l) (h : St c G w Δ) (ho : ev l o = some (.int .i64 m)) (hq : ev l q = some (.int .i64 m)) (hm : mkB m = true) (hT : slOf P t = some E) (hE : elB P E k.n = true) (hz : Zr P k E z)
    (kk : ∀ a w b, Tm n a ((d, hdr (some b) (List.replicate m.toNat z).length m.toNat) :: l) → St c G w (⟨k, List.replicate m.toNat z, m.toNat, some b, E⟩ :: Δ) → wpList P ops Q rest a w) (hd : Nat.blt d n = true := by rfl) :
    wpList P ops Q (⟨some d, .makeSlice t o q, ty, pos, af, none⟩ :: rest) a w := by
  obtain ⟨i, v, du, hi, hdu, hs, hby, hzz, hzs⟩ := elB_out hE
  obtain ⟨i2, v2, hi2, hz2, hv2⟩ := hz
  rw [hi] at hi2; cases hi2
  rw [hzz] at hz2; cases hz2
  have hsz : tyOf P E = some (k.n, isAggD du) := by simp [tyOf, hi, hdu, hs]
  obtain ⟨hm0, hm1⟩ : 0 ≤ m ∧ m ≤ maxS := by simpa [mkB] using hm
  have hw : IntKind.i64.wrap m = m := by
    unfold maxS at hm1
    exact wrap64_id (by omega) (by omega)
  have htl : (decide (m < 0) || decide ((i.bytes : Int) * m > 2 ^ 48)) = false := by
    simp only [Bool.or_eq_false_iff, decide_eq_false_iff_not]
    refine ⟨by omega, ?_⟩
    have h1 : (i.bytes : Int) * m ≤ 65536 * m := Int.mul_le_mul_of_nonneg_right (by omega) hm0
    unfold maxS at hm1
    omega
  have hvl : v.cells.toList.length = k.n := by simpa using hzs
  have hcells : (if m.toNat * k.n = 0 then #[] else v.cells : Array Value) = if m.toNat * k.n = 0 then #[] else v.cells := rfl
  refine op_val rfl (show _ = Result.ok (Next.value (.slice (some ⟨w.heap.size, 0, none⟩) m.toNat m.toNat)) { w with heap := w.heap.push (.cells ((List.replicate m.toNat v.cells.toList).flatten.toArray) E) } from ?_) rfl ?_
  · have harr : (Array.range (m.toNat * k.n)).map (fun i => (if m.toNat * k.n = 0 then #[] else v.cells : Array Value)[i % (if m.toNat * k.n = 0 then #[] else v.cells : Array Value).size]!) = (List.replicate m.toNat v.cells.toList).flatten.toArray := by
      split
      · next h0 =>
        have : m.toNat = 0 := by
          rcases Nat.mul_eq_zero.1 h0 with h | h
          · exact h
          · have := k.pos; omega
        rw [this]; simp
      · apply Array.ext'
        have := range_mod (zs := v.cells.toList) (m := m.toNat) (by have := k.pos; omega)
        rw [hvl] at this
        simpa [hzs] using this
    simp only [execOp, K.eval ho, K.eval hq, Instr.makeSlice, asInt, asIntOf, underlying, typeInfo, Sem.run_bind, run_program, Result.andThen_ok, slOf_und hT, Sem.run_pure, hi, hw]
    rw [htl]
    simp only [Bool.false_or, Bool.or_eq_true, decide_eq_true_eq, if_neg (show ¬ (m < 0 ∨ m > m) by omega), Result.andThen_ok, run_askRoom, run_sizeOf hsz, Sem.run_ite, Sem.run_bind]
    have hz0 : ∀ w1 : World, (zeroValue E).run P w1 = .ok v w1 := fun w1 => by simp only [zeroValue, typeInfo, Sem.run_bind, run_program, Result.andThen_ok, hi, hzz, Sem.run_pure]
    by_cases h0 : m.toNat * k.n = 0
    · rw [if_pos h0] at harr ⊢
      simp only [Sem.run_pure, Result.andThen_ok, newRow, Sem.run_bind, run_newObj]
      rw [harr]
    · rw [if_neg h0]
      simp only [if_neg h0] at harr
      simp only [hz0, Sem.run_pure, Result.andThen_ok, newRow, Sem.run_bind, run_newObj]
      rw [harr]
  · have := St.new (w' := { w with heap := w.heap.push (.cells ((List.replicate m.toNat v.cells.toList).flatten.toArray) E) }) (k := k) (xs := List.replicate m.toNat z) (cap := m.toNat) h rfl rfl rfl rfl (by simp)
      (by simp [List.sum_replicate_nat, hvl]) (by simpa using rows_replicate (hv2 G).2 m.toNat)
    refine kk _ _ w.heap.size ?_ this
    have := K.put (v := .slice (some ⟨w.heap.size, 0, none⟩) m.toNat m.toNat) hd
    simpa [hdr] using this
end
end Go.Sy
