/- A library for walks that a program prints: kinds of data, what a call owns, one lemma for each operation. No conditions. -/
import Derived.Test.YthhhomgbpnmeeaaGreatDoorSy11
set_option linter.all false
namespace Go.Sy
open Go
section
variable {P : Program} {ops : Array Oper} {Q : Exit → Act → World → Prop}
def backB (ops : Array Oper) : Bool := (List.range ops.size).all fun i => ((ops[i]?).map (·.after.all fun e => !Region.binds .any e || decide (e.on < i))).getD true
theorem ready_iff {listed : Array Bool} {j : Nat} : j ∈ Region.ready .any ops listed ↔ j < ops.size ∧ listed.getD j true = false ∧ ((ops[j]?).map (·.after.all fun e => !Region.binds .any e || listed.getD e.on false)).getD false = true := by
  simp only [Region.ready, List.mem_filter, List.mem_range, Bool.and_eq_true, Bool.not_eq_true']
structure Ls (ops : Array Oper) (listed : Array Bool) : Prop where
  size : listed.size = ops.size
  closed : ∀ i o, listed.getD i false = true → ops[i]? = some o → ∀ e ∈ o.after, Region.binds .any e = true → listed.getD e.on false = true
theorem Ls.init : Ls ops (Array.replicate ops.size false) where
  size := by simp
  closed i o h := by
    have : (Array.replicate ops.size false).getD i false = false := by
      simp only [Array.getD_eq_getD_getElem?, Array.getElem?_replicate]; split <;> rfl
    rw [this] at h; cases h
theorem getD_true_false {listed : Array Bool} {i : Nat} (h : listed.getD i true = false) : i < listed.size ∧ listed.getD i false = false := by
  rcases Nat.lt_or_ge i listed.size with hl | hl
  · refine ⟨hl, ?_⟩
    simp only [Array.getD_eq_getD_getElem?, Array.getElem?_eq_getElem hl, Option.getD_some] at h ⊢; exact h
  · simp [hl] at h
theorem getD_set {listed : Array Bool} {i j : Nat} (hi : i < listed.size) : (listed.setIfInBounds i true).getD j false = if i = j then true else listed.getD j false := by
  simp only [Array.getD_eq_getD_getElem?, Array.getElem?_setIfInBounds]
  split
  · next e => simp [hi]
  · rfl
theorem Ls.set {listed : Array Bool} {i : Nat} (h : Ls ops listed) (hr : i ∈ Region.ready .any ops listed) : Ls ops (listed.setIfInBounds i true) where
  size := by simpa using h.size
  closed j o hj ho e he hb := by
    obtain ⟨h1, h2, h3⟩ := ready_iff.1 hr
    obtain ⟨h4, h5⟩ := getD_true_false h2
    rw [getD_set h4] at hj ⊢
    split
    · rfl
    · split at hj
      · next e' =>
        subst e'
        rw [ho] at h3
        simp only [Option.map_some, Option.getD_some, Array.all_eq_true'] at h3
        have := h3 e he
        rw [hb] at this; simpa using this
      · exact h.closed j o hj ho e he hb
theorem all_listed {listed : Array Bool} (hB : backB ops = true) (hs : listed.size = ops.size) (hr : Region.ready .any ops listed = []) : ∀ i, i < ops.size → listed.getD i false = true := by
  intro i
  induction i using Nat.strongRecOn with
  | _ i ih =>
    intro hi
    cases hl : listed.getD i false with
    | true => rfl
    | false =>
      have : i ∈ Region.ready .any ops listed := by
        refine ready_iff.2 ⟨hi, ?_, ?_⟩
        · simp only [Array.getD_eq_getD_getElem?, Array.getElem?_eq_getElem (show i < listed.size by omega), Option.getD_some] at hl ⊢; exact hl
        · simp only [backB, List.all_eq_true, List.mem_range] at hB
          have hb := hB i hi
          rw [Array.getElem?_eq_getElem hi] at hb ⊢
          simp only [Option.map_some, Option.getD_some, Array.all_eq_true', Bool.or_eq_true, decide_eq_true_eq] at hb ⊢
          intro e he
          rcases hb e he with h0 | h0
          · exact .inl h0
          · exact .inr (ih e.on h0 (by omega))
      rw [hr] at this; simp at this
def cnt (l : List Bool) : Nat := (l.filter (· == false)).length
theorem cnt_set {listed : Array Bool} {i : Nat} (hi : i < listed.size) (h : listed.getD i false = false) : cnt (listed.setIfInBounds i true).toList + 1 = cnt listed.toList := by
  obtain ⟨xs⟩ := listed
  simp only [List.size_toArray] at hi
  simp only [List.setIfInBounds_toArray]
  simp only [Array.getD_eq_getD_getElem?, List.getElem?_toArray, List.getElem?_eq_getElem hi, Option.getD_some] at h
  induction xs generalizing i with
  | nil => simp at hi
  | cons x xs ih =>
    cases i with
    | zero => simp at h; subst h; simp [cnt]
    | succ i =>
      simp only [List.length_cons, Nat.add_lt_add_iff_right] at hi
      have := ih (i := i) hi (by simpa using h)
      simp only [cnt, List.set_cons_succ, List.filter_cons] at this ⊢
      split <;> simp_all <;> omega
theorem wpAny_inv (I : Array Bool → Act → World → Prop) (hstep : ∀ listed i a w, Ls ops listed → I listed a w → i ∈ Region.ready .any ops listed → wpOp P ops Q i (fun a' w' => I (listed.setIfInBounds i true) a' w') a w)
    (hend : ∀ listed a w, Ls ops listed → I listed a w → Region.ready .any ops listed = [] → Q .normal a w) :
    ∀ (fuel : Nat) (listed : Array Bool) (a : Act) (w : World), Ls ops listed → I listed a w → cnt listed.toList ≤ fuel → wpAny P .any ops Q fuel listed a w := by
  intro fuel
  induction fuel with
  | zero =>
    intro listed a w hL hI hc
    have hnil : Region.ready .any ops listed = [] := by
      cases hr : Region.ready .any ops listed with
      | nil => rfl
      | cons i rs =>
        obtain ⟨h1, h2, h3⟩ := ready_iff.1 (show i ∈ Region.ready .any ops listed by rw [hr]; simp)
        obtain ⟨h4, h5⟩ := getD_true_false h2
        have := cnt_set h4 h5
        omega
    exact ⟨hnil, hend listed a w hL hI hnil⟩
  | succ fuel ih =>
    intro listed a w hL hI hc
    refine ⟨fun hr => hend listed a w hL hI hr, fun i hi => ?_⟩
    refine wpOp_mono (fun a' w' h' => ?_) (hstep listed i a w hL hI hi)
    obtain ⟨h1, h2, h3⟩ := ready_iff.1 hi
    obtain ⟨h4, h5⟩ := getD_true_false h2
    have := cnt_set h4 h5
    exact ih _ a' w' (hL.set hi) h' (by omega)
theorem wpAny_text (hB : backB ops = true) : ∀ (k q : Nat) (listed : Array Bool) (a : Act) (w : World), listed.size = ops.size → (∀ i, i < ops.size → (listed.getD i false = true ↔ i < q)) → q + k = ops.size → wpAny P .any ops Q k listed a w → wpOps P ops Q (List.range' q k) a w
  | 0, q, listed, a, w, _, _, _, h => h.2
  | k + 1, q, listed, a, w, hs, hq, hk, h => by
    have hlt : q < ops.size := by omega
    have hmem : q ∈ Region.ready .any ops listed := by
      refine ready_iff.2 ⟨hlt, ?_, ?_⟩
      · have : listed.getD q false = false := by
          cases hl : listed.getD q false with
          | false => rfl
          | true => have := (hq q hlt).1 hl; omega
        simp only [Array.getD_eq_getD_getElem?, Array.getElem?_eq_getElem (show q < listed.size by omega), Option.getD_some] at this ⊢; exact this
      · simp only [backB, List.all_eq_true, List.mem_range] at hB
        have hb := hB q hlt
        rw [Array.getElem?_eq_getElem hlt] at hb ⊢
        simp only [Option.map_some, Option.getD_some, Array.all_eq_true', Bool.or_eq_true, decide_eq_true_eq] at hb ⊢
        intro e he
        rcases hb e he with h0 | h0
        · exact .inl h0
        · exact .inr ((hq e.on (by omega)).2 h0)
    rw [List.range'_succ, wpOps_cons]
    refine wpOp_mono (fun a' w' h' => ?_) (h.2 q hmem)
    refine wpAny_text hB k (q + 1) _ a' w' (by simpa using hs) (fun i hi => ?_) (by omega) h'
    rw [getD_set (by omega)]
    split
    · next e => subst e; simp
    · next e => rw [hq i hi]; omega
theorem wp_any {id : Nat} {a : Act} {w : World} {dr : Bool} (hm : P.follows .mixedOrders = true) (hB : backB ops = true) (I : Array Bool → Act → World → Prop) (h0 : ∀ w', w' = w ∨ w' = { w with drawn := w.drawn + 1 } → I (Array.replicate ops.size false) a w')
    (hstep : ∀ listed i a w, Ls ops listed → I listed a w → i ∈ Region.ready .any ops listed → wpOp P ops Q i (fun a' w' => I (listed.setIfInBounds i true) a' w') a w)
    (hend : ∀ listed a w, Ls ops listed → I listed a w → Region.ready .any ops listed = [] → Q .normal a w) : (Code.region id ops dr).wp P Q a w := by
  have hc : cnt (Array.replicate ops.size false).toList ≤ ops.size := by simp only [Array.toList_replicate, cnt]; exact Nat.le_trans (List.length_filter_le _ _) (by simp)
  cases dr with
  | true => exact wp_region_any hm (wpAny_inv I hstep hend _ _ _ _ Ls.init (h0 _ (.inr rfl)) hc)
  | false =>
    refine wp_region ?_
    rw [List.range_eq_range']
    refine wpAny_text hB ops.size 0 (Array.replicate ops.size false) a w (by simp) (fun i hi => ?_) (by omega) (wpAny_inv I hstep hend _ _ _ _ Ls.init (h0 _ (.inl rfl)) hc)
    simp [Array.getD_eq_getD_getElem?, hi]
end
section
variable {P : Program} {c : Cx} {Q : Exit → Act → World → Prop} {n : Nat}
def dstOf (opl : List Oper) (i : Nat) : Option Nat := (opl[i]?).bind (·.dst)
def amB (A : List Nat) : List Oper → Nat → Bool
  | [], _ => true
  | o :: os, i => (A.getD i 0 == o.after.toList.foldl (fun s e => if Region.binds .any e then s ||| 1 <<< e.on ||| A.getD e.on 0 else s) 0) && o.after.toList.all (fun e => !Region.binds .any e || decide (e.on < i)) && amB A os (i + 1)
def tailB (A : List Nat) (k m : Nat) : Bool := (List.range k).all fun i => decide (i < m) || (List.range i).all fun j => (A.getD i 0).testBit j
theorem fold_bits {A : List Nat} {j : Nat} : ∀ (es : List Edge) (s : Nat), (es.foldl (fun s e => if Region.binds .any e then s ||| 1 <<< e.on ||| A.getD e.on 0 else s) s).testBit j = true →
    s.testBit j = true ∨ ∃ e ∈ es, Region.binds .any e = true ∧ (e.on = j ∨ (A.getD e.on 0).testBit j = true)
  | [], s, h => .inl h
  | e :: es, s, h => by
    rw [List.foldl_cons] at h
    rcases fold_bits es _ h with h | ⟨e', he, h'⟩
    · split at h
      · next hb =>
        simp only [Nat.testBit_or, Bool.or_eq_true] at h
        rcases h with (h | h) | h
        · exact .inl h
        · refine .inr ⟨e, by simp, hb, .inl ?_⟩
          rw [Nat.one_shiftLeft, Nat.testBit_two_pow] at h; simpa using h
        · exact .inr ⟨e, by simp, hb, .inr h⟩
      · exact .inl h
    · exact .inr ⟨e', by simp [he], h'⟩
theorem amB_get {A : List Nat} : ∀ {os : List Oper} {k : Nat}, amB A os k = true → ∀ (i : Nat) (o : Oper), os[i]? = some o → A.getD (k + i) 0 = o.after.toList.foldl (fun s e => if Region.binds .any e then s ||| 1 <<< e.on ||| A.getD e.on 0 else s) 0 ∧ ∀ e ∈ o.after.toList, Region.binds .any e = true → e.on < k + i
  | [], _, _, i, o, h => by simp at h
  | o' :: os, k, hA, i, o, h => by
    simp only [amB, Bool.and_eq_true, beq_iff_eq, List.all_eq_true, Bool.or_eq_true, Bool.not_eq_true', decide_eq_true_eq] at hA
    cases i with
    | zero =>
      simp only [List.getElem?_cons_zero, Option.some.injEq] at h
      subst h
      exact ⟨hA.1.1, fun e he hb => (hA.1.2 e he).resolve_left (by rw [hb]; simp)⟩
    | succ i =>
      have := amB_get hA.2 i o (by simpa using h)
      rw [show k + 1 + i = k + (i + 1) by omega] at this; exact this
theorem am_back {opl : List Oper} {A : List Nat} (h : amB A opl 0 = true) : backB opl.toArray = true := by
  simp only [backB, List.all_eq_true, List.mem_range]
  intro i hi
  have hi' : i < opl.length := by simpa using hi
  have := (amB_get h i opl[i] (List.getElem?_eq_getElem hi')).2
  rw [show opl.toArray[i]? = some opl[i] by simp [hi']]
  simp only [Option.map_some, Option.getD_some, Array.all_eq_true', Bool.or_eq_true, Bool.not_eq_true', decide_eq_true_eq]
  intro e he
  cases hb : Region.binds .any e with
  | false => exact .inl rfl
  | true => have := this e (by simpa using he) hb; exact .inr (by omega)
theorem am_listed {opl : List Oper} {A : List Nat} {listed : Array Bool} (hA : amB A opl 0 = true) (hL : Ls opl.toArray listed) : ∀ (i j : Nat), i < opl.length → listed.getD i false = true → (A.getD i 0).testBit j = true → listed.getD j false = true := by
  intro i
  induction i using Nat.strongRecOn with
  | _ i ih =>
    intro j hi hl hb
    obtain ⟨h1, h2⟩ := amB_get hA i opl[i] (List.getElem?_eq_getElem hi)
    rw [Nat.zero_add] at h1 h2
    rw [h1] at hb
    rcases fold_bits _ _ hb with h | ⟨e, he, hbe, h⟩
    · simp at h
    · have hon := hL.closed i opl[i] hl (by simp [hi]) e (by simpa using he) hbe
      rcases h with rfl | h
      · exact hon
      · exact ih e.on (h2 e he hbe) j (by have := h2 e he hbe; omega) hon h
theorem am_ready {opl : List Oper} {A : List Nat} {listed : Array Bool} {i j : Nat} (hA : amB A opl 0 = true) (hL : Ls opl.toArray listed) (hr : i ∈ Region.ready .any opl.toArray listed) (hj : (A.getD i 0).testBit j = true) : listed.getD j false = true := by
  obtain ⟨h1, h2, h3⟩ := ready_iff.1 hr
  have hi : i < opl.length := by simpa using h1
  obtain ⟨h4, h5⟩ := amB_get hA i opl[i] (List.getElem?_eq_getElem hi)
  rw [Nat.zero_add] at h4 h5
  rw [h4] at hj
  rcases fold_bits _ _ hj with h | ⟨e, he, hbe, h⟩
  · simp at h
  · rw [show opl.toArray[i]? = some opl[i] by simp [hi]] at h3
    simp only [Option.map_some, Option.getD_some, Array.all_eq_true'] at h3
    have hon := h3 e (by simpa using he)
    rw [hbe] at hon
    have hon' : listed.getD e.on false = true := by simpa using hon
    rcases h with rfl | h
    · exact hon'
    · exact am_listed hA hL e.on j (by have := h5 e he hbe; omega) hon' h
theorem Oper.wp_mono2 {P : Program} {Q Q' : Exit → Act → World → Prop} {o : Oper} {a : Act} {w : World} {K K' : Act → World → Prop} (h : ∀ a w, K a w → K' a w) (hq : ∀ e a w, e ≠ .normal → Q e a w → Q' e a w)
    (hh : o.wp P a w K Q) : o.wp P a w K' Q' := by
  unfold Oper.wp at *
  generalize (execOp a.eval o).run P w = r at *
  cases r with
  | ok n w' =>
    cases n <;> simp only [Oper.upon] at hh ⊢ <;>
      first
        | exact h _ _ hh
        | exact Calls.mono hh (fun e w'' he => by
            cases e with
            | returned v => exact h _ _ he
            | panicked ch => exact hq _ _ _ (by simp) he
            | outgrown => obtain ⟨a0, w0, h0⟩ := he; exact ⟨a0, w0, hq _ _ _ (by simp) h0⟩)
        | exact Rows.mono hh (fun _ _ he => h _ _ he)
  | halt x w' => cases x <;> simp only [Oper.upon] at hh ⊢ <;> exact hq _ _ _ (by simp) hh
theorem wpOp_of_one {opl : List Oper} {i : Nat} {o : Oper} {a : Act} {w : World} {J : Act → World → Prop} (hi : opl[i]? = some o) (h : wpList P opl.toArray (fun e a' w' => e = .normal ∧ J a' w') [o] a w) : wpOp P opl.toArray Q i J a w := by
  unfold wpOp
  rw [show opl.toArray[i]? = some o by simpa using hi]
  unfold wpList at h
  split at h
  · next hw =>
    simp only [hw, if_true]
    rcases h with h | ⟨_, a0, w0, h0, _⟩
    · exact .inl (Oper.wp_mono2 (fun a w h => (show (Exit.normal = .normal ∧ J a w) from h).2) (fun e a w hne h => absurd h.1 hne) h)
    · cases h0
  · next hw => simp only [hw]; exact (show (Exit.normal = .normal ∧ J _ w) from h).2
theorem sub_cons {L : List (Nat × Value)} {d : Nat} {v : Value} : ∀ {l0 : List (Nat × Value)}, sub L l0 → (∀ p ∈ l0, p.1 ≠ d) → sub ((d, v) :: L) l0
  | [], _, _ => trivial
  | p :: ps, ⟨h1, h2⟩, hd => by
    refine ⟨?_, sub_cons h2 fun q hq => hd q (List.mem_cons_of_mem _ hq)⟩
    simp only [lk]
    rw [show Nat.beq d p.1 = false by
      cases hbq : Nat.beq d p.1 with
      | false => rfl
      | true => exact absurd (Nat.eq_of_beq_eq_true hbq).symm (hd p (by simp))]
    exact h1
end
end Go.Sy
