/- A library for walks that a program prints: kinds of data, what a call owns, one lemma for each operation. No conditions. -/
import Derived.Test.YthhhomgbpnmeeaaGreatDoorSy13
set_option linter.all false
namespace Go.Sy
open Go
abbrev Fct := List (Nat × Value) → Gh → Value → List Own → Prop
def fE (u : Value) : Fct := fun _ _ v O => O = [] ∧ v = u
def fT {α} (k : Kd α) (x : α) : Fct := fun _ H v O => O = [] ∧ k.val H v x
def fG (c : Bool) (f : Fct) : Fct := fun L H v O => O = [] ∧ (c = true → f L H v []) ∧ (c = false → v = undef)
def fB {α} (k : Kd α) (x : α) (T : TypeId) : Fct := fun _ _ v O => ∃ b, v = .pointer (some (adr b 0 k.n (Fld.id k).off)) ∧ O = [⟨k, [x], 1, some b, T⟩]
def fR {α} (k : Kd α) (xs : List α) (m : Nat) (T : TypeId) : Fct := fun _ _ v O => ∃ b, v = hdr (some b) xs.length m ∧ O = [⟨k, xs, m, some b, T⟩]
def f0 : Fct := fun _ _ _ O => O = []
def fD (f : List (Nat × Value) → Gh → Value → Prop) : Fct := fun L H v O => O = [] ∧ f L H v
def Lle (L L' : List (Nat × Value)) : Prop := ∀ t u, lk L t = some u → lk L' t = some u
theorem Lle.refl (L : List (Nat × Value)) : Lle L L := fun _ _ h => h
def Mon (f : Fct) : Prop := ∀ L L' G H v O, Lle L L' → Gh.le G H → f L G v O → f L' H v O
theorem monE {u} : Mon (fE u) := fun _ _ _ _ _ _ _ _ h => h
theorem monT {α} {k : Kd α} {x : α} : Mon (fT k x) := fun _ _ _ _ _ _ _ h h' => ⟨h'.1, Kd.val_mono h h'.2⟩
theorem monG {c f} (hf : Mon f) : Mon (fG c f) := fun _ _ _ _ _ _ hl h h' => ⟨h'.1, fun hc => hf _ _ _ _ _ _ hl h (h'.2.1 hc), h'.2.2⟩
theorem monB {α} {k : Kd α} {x : α} {T} : Mon (fB k x T) := fun _ _ _ _ _ _ _ _ h => h
theorem monR {α} {k : Kd α} {xs : List α} {m T} : Mon (fR k xs m T) := fun _ _ _ _ _ _ _ _ h => h
theorem mon0 : Mon f0 := fun _ _ _ _ _ _ _ _ h => h
theorem monD {f : List (Nat × Value) → Gh → Value → Prop} (hf : ∀ L L' G H v, Lle L L' → Gh.le G H → f L G v → f L' H v) : Mon (fD f) := fun _ _ _ _ _ _ hl h h' => ⟨h'.1, hf _ _ _ _ _ hl h h'.2⟩
def MonL : List Fct → Prop
  | [] => True
  | f :: fs => Mon f ∧ MonL fs
theorem MonL.get : ∀ {fs : List Fct}, MonL fs → ∀ f ∈ fs, Mon f
  | [], _, _, h => by simp at h
  | f :: fs, ⟨h1, h2⟩, g, h => by
    rcases List.mem_cons.1 h with rfl | h
    · exact h1
    · exact MonL.get h2 g h
section
variable {P : Program} {c : Cx} {Q : Exit → Act → World → Prop} {n : Nat}
theorem Tm.add {a l t v} (K : Tm n a l) (h : lk l t = some v) : Tm n a ((t, v) :: l) where
  size := K.size
  get s u hs := by
    simp only [lk] at hs
    by_cases e : Nat.beq t s = true
    · rw [e] at hs; simp only [cond_true, Option.some.injEq] at hs
      rw [← Nat.eq_of_beq_eq_true e, ← hs]; exact K.get t v h
    · have : Nat.beq t s = false := by cases hb : Nat.beq t s with | false => rfl | true => exact absurd hb e
      rw [this] at hs; exact K.get s u (by simpa using hs)
  df := K.df
theorem Tm.addx {a L} (K : Tm n a L) : ∀ (ext : List (Nat × Value)), Sy.sub L ext → Tm n a (ext ++ L)
  | [], _ => K
  | p :: ext, h => by
    have ih := K.addx ext h.2
    refine Tm.add ih ?_
    have : ∀ (e : List (Nat × Value)), Sy.sub L e → ∀ t v, lk L t = some v → lk (e ++ L) t = some v := by
      intro e
      induction e with
      | nil => intro _ t v h; exact h
      | cons q e ih2 =>
        intro he t v ht
        obtain ⟨qt, qv⟩ := q
        simp only [List.cons_append, lk]
        by_cases eq : Nat.beq qt t = true
        · rw [eq]; simp only [cond_true]
          have h1 := he.1
          simp only at h1
          rw [Nat.eq_of_beq_eq_true eq, ht] at h1; rw [Option.some.inj h1]
        · have : Nat.beq qt t = false := by cases hb : Nat.beq qt t with | false => rfl | true => exact absurd hb eq
          rw [this]; simp only [cond_false]; exact ih2 he.2 t v ht
    exact this ext h.2 p.1 p.2 h.1
theorem Tm.dropx {a L d u} (ext : List (Nat × Value)) (K : Tm n a ((d, u) :: (ext ++ L))) (h : Sy.sub L ext) : Tm n a ((d, u) :: L) where
  size := K.size
  get s v hs := by
    refine K.get s v ?_
    have : ∀ (e : List (Nat × Value)), Sy.sub L e → ∀ t v, lk L t = some v → lk (e ++ L) t = some v := by
      intro e
      induction e with
      | nil => intro _ t v h; exact h
      | cons q e ih2 =>
        intro he t v ht
        obtain ⟨qt, qv⟩ := q
        simp only [List.cons_append, lk]
        by_cases eq : Nat.beq qt t = true
        · rw [eq]; simp only [cond_true]
          have h1 := he.1
          simp only at h1
          rw [Nat.eq_of_beq_eq_true eq, ht] at h1; rw [Option.some.inj h1]
        · have : Nat.beq qt t = false := by cases hb : Nat.beq qt t with | false => rfl | true => exact absurd hb eq
          rw [this]; simp only [cond_false]; exact ih2 he.2 t v ht
    simp only [lk] at hs ⊢
    by_cases e : Nat.beq d s = true
    · rw [e] at hs ⊢; exact hs
    · have e' : Nat.beq d s = false := by cases hb : Nat.beq d s with | false => rfl | true => exact absurd hb e
      rw [e'] at hs ⊢; simp only [cond_false] at hs ⊢; exact this ext h s v hs
  df := K.df
theorem Tm.dropy {a L} (ext : List (Nat × Value)) (K : Tm n a (ext ++ L)) (h : Sy.sub L ext) : Tm n a L where
  size := K.size
  get s v hs := by
    refine K.get s v ?_
    have : ∀ (e : List (Nat × Value)), Sy.sub L e → ∀ t v, lk L t = some v → lk (e ++ L) t = some v := by
      intro e
      induction e with
      | nil => intro _ t v h; exact h
      | cons q e ih2 =>
        intro he t v ht
        obtain ⟨qt, qv⟩ := q
        simp only [List.cons_append, lk]
        by_cases eq : Nat.beq qt t = true
        · rw [eq]; simp only [cond_true]
          have h1 := he.1
          simp only at h1
          rw [Nat.eq_of_beq_eq_true eq, ht] at h1; rw [Option.some.inj h1]
        · have : Nat.beq qt t = false := by cases hb : Nat.beq qt t with | false => rfl | true => exact absurd hb eq
          rw [this]; simp only [cond_false]; exact ih2 he.2 t v ht
    exact this ext h s v hs
  df := K.df
def kn (opl : List Oper) (φ : List Fct) (H : Gh) (L : List (Nat × Value)) (m : Nat) : List Edge → Prop
  | [] => True
  | e :: es => (if Region.binds .any e && Nat.blt e.on m then match dstOf opl e.on, φ[e.on]? with
      | some d, some f => ∃ v O, lk L d = some v ∧ f L H v O
      | _, _ => True else True) ∧ kn opl φ H L m es
theorem kn_of {opl : List Oper} {φ : List Fct} {H : Gh} {L : List (Nat × Value)} {m : Nat} : ∀ (es : List Edge), (∀ e ∈ es, Region.binds .any e = true → e.on < m → ∀ d f, dstOf opl e.on = some d → φ[e.on]? = some f → ∃ v O, lk L d = some v ∧ f L H v O) → kn opl φ H L m es
  | [], _ => trivial
  | e :: es, h => by
    refine ⟨?_, kn_of es fun e' he' => h e' (List.mem_cons_of_mem _ he')⟩
    split
    · next hb =>
      simp only [Bool.and_eq_true, Nat.blt_eq] at hb
      split
      · next d f hd hf => exact h e (by simp) hb.1 hb.2 d f hd hf
      · trivial
    · trivial
def got (H : Gh) (L : List (Nat × Value)) : List Oper → List Fct → List Own → Prop
  | o :: os, f :: fs, X => match o.dst with
    | some d => ∃ v O X', X = O ++ X' ∧ lk L d = some v ∧ f L H v O ∧ got H L os fs X'
    | none => got H L os fs X
  | _, _, X => X = []
def nxt (ss : List Nat) (i s : Nat) : Nat := if ss.contains i then s + 1 else s
def Hp (P : Program) (c : Cx) (n : Nat) (opl : List Oper) (φ : List Fct) (m : Nat) (l0 : List (Nat × Value)) (G : Gh) (o : Oper) (f : Fct) (Δ Δ' : List Own) : Prop :=
  ∀ a w H L X, Gh.le G H → St c H w (Δ ++ X) → Tm n a L → sub L l0 → kn opl φ H L m o.after.toList →
    wpList P opl.toArray (fun e a' w' => e = .normal ∧ ∃ H' O, Gh.le H H' ∧ St c H' w' (O ++ (Δ' ++ X)) ∧ (match o.dst with | some d => ∃ v, Tm n a' ((d, v) :: L) ∧ f L H' v O | none => Tm n a' L ∧ O = [])) [o] a w
def Hps (P : Program) (c : Cx) (n : Nat) (opl : List Oper) (φ : List Fct) (m : Nat) (l0 : List (Nat × Value)) (G : Gh) (Δs : List (List Own)) (ss : List Nat) : Nat → List Oper → List Fct → List (List Nat) → Prop
  | i, o :: os, f :: fs, st :: sts => (∀ s ∈ st, ∀ Δ Δ', Δs[s]? = some Δ → Δs[nxt ss i s]? = some Δ' → Hp P c n opl φ m l0 G o f Δ Δ') ∧ Hps P c n opl φ m l0 G Δs ss (i + 1) os fs sts
  | _, _, [], _ => True
  | _, _, _ :: _, [] => False
  | _, [], _ :: _, _ => False
theorem Hps.get {opl : List Oper} {φ : List Fct} {m : Nat} {l0 : List (Nat × Value)} {G : Gh} {Δs : List (List Own)} {ss : List Nat} : ∀ {k : Nat} {os : List Oper} {fs : List Fct} {sts : List (List Nat)} {i : Nat} {o : Oper} {f : Fct} {st : List Nat}, Hps P c n opl φ m l0 G Δs ss k os fs sts → os[i]? = some o → fs[i]? = some f → sts[i]? = some st →
    ∀ s ∈ st, ∀ Δ Δ', Δs[s]? = some Δ → Δs[nxt ss (k + i) s]? = some Δ' → Hp P c n opl φ m l0 G o f Δ Δ'
  | _, [], _, _, _, _, _, _, _, h, _, _ => by simp at h
  | _, _ :: _, [], _, _, _, _, _, _, _, h, _ => by simp at h
  | _, _ :: _, _ :: _, [], _, _, _, _, _, _, _, h => by simp at h
  | k, o :: os, f :: fs, st :: sts, 0, _, _, _, h, h1, h2, h3 => by simp at h1 h2 h3; subst h1 h2 h3; exact h.1
  | k, o :: os, f :: fs, st :: sts, i + 1, _, _, _, h, h1, h2, h3 => by
    have := h.2.get (i := i) (by simpa using h1) (by simpa using h2) (by simpa using h3)
    rw [show k + 1 + i = k + (i + 1) by omega] at this
    exact this
def hdB (opl : List Oper) (m : Nat) (l0 : List (Nat × Value)) : Bool :=
  (List.range m).all fun i => match dstOf opl i with
    | some d => (List.range i).all (fun j => dstOf opl j != some d) && l0.all (fun p => !Nat.beq p.1 d)
    | none => true
def stB (A : List Nat) (m : Nat) (ss : List Nat) (sts : List (List Nat)) : Bool :=
  (List.range ss.length).all (fun k => match ss[k]? with | some j => decide (j < m) && sts[j]? == some [k] | none => false) &&
  (List.range m).all fun i => match sts[i]? with
    | some st => (List.range (ss.length + 1)).all fun s => st.contains s ||
        (List.range ss.length).any (fun k => match ss[k]? with
          | some j => (decide (k < s) && (decide (i = j) || (A.getD j 0).testBit i)) || (decide (s ≤ k) && (A.getD i 0).testBit j)
          | none => false)
    | none => false
theorem flat_upd {Os : Nat → List Own} {i : Nat} {O : List Own} (h0 : Os i = []) : ∀ (m : Nat), (i < m → ((List.range m).flatMap fun q => if q = i then O else Os q).Perm (O ++ (List.range m).flatMap Os)) ∧ (m ≤ i → ((List.range m).flatMap fun q => if q = i then O else Os q) = (List.range m).flatMap Os)
  | 0 => ⟨fun h => by omega, fun _ => rfl⟩
  | m + 1 => by
    obtain ⟨ih1, ih2⟩ := flat_upd h0 m
    refine ⟨fun h => ?_, fun h => ?_⟩
    · rw [List.range_succ, List.flatMap_append, List.flatMap_append, List.flatMap_singleton, List.flatMap_singleton]
      by_cases e : m = i
      · subst e
        rw [if_pos rfl, ih2 (Nat.le_refl _), h0, List.append_nil]
        exact List.perm_append_comm
      · rw [if_neg e]
        have := (ih1 (by omega)).append_right (Os m)
        rw [List.append_assoc] at this; exact this
    · rw [List.range_succ, List.flatMap_append, List.flatMap_append, List.flatMap_singleton, List.flatMap_singleton, if_neg (by omega), ih2 (by omega)]
theorem got_of {H : Gh} {L : List (Nat × Value)} {Os : Nat → List Own} : ∀ (os : List Oper) (fs : List Fct) (k : Nat), fs.length ≤ os.length →
    (∀ (i : Nat) (o : Oper) (d : Nat) (f : Fct), os[i]? = some o → fs[i]? = some f → o.dst = some d → ∃ v, lk L d = some v ∧ f L H v (Os (k + i))) →
    (∀ (i : Nat) (o : Oper), os[i]? = some o → i < fs.length → o.dst = none → Os (k + i) = []) → got H L os fs ((List.range' k fs.length).flatMap Os)
  | [], [], _, _, _, _ => by simp [got]
  | [], f :: fs, _, h, _, _ => by simp at h
  | o :: os, [], _, _, _, _ => by simp [got]
  | o :: os, f :: fs, k, hl, h1, h2 => by
    have ih := got_of (H := H) (L := L) (Os := Os) os fs (k + 1) (by simpa using hl) (fun i o' d f' a b e => by
      have := h1 (i + 1) o' d f' (by simpa using a) (by simpa using b) e
      rw [show k + (i + 1) = k + 1 + i by omega] at this; exact this) (fun i o' a b e => by
      have := h2 (i + 1) o' (by simpa using a) (by simp; omega) e
      rw [show k + (i + 1) = k + 1 + i by omega] at this; exact this)
    simp only [List.length_cons, List.range'_succ, List.flatMap_cons]
    unfold got
    split
    · next d hd =>
      obtain ⟨v, h3, h4⟩ := h1 0 o d f rfl rfl hd
      exact ⟨v, Os k, _, rfl, h3, h4, ih⟩
    · next hd =>
      have : Os k = [] := h2 0 o rfl (by simp) hd
      rw [this]; exact ih
theorem Lle.cons {L : List (Nat × Value)} {d : Nat} {v : Value} (h : lk L d = none) : Lle L ((d, v) :: L) := by
  intro t u ht
  simp only [lk]
  cases hb : Nat.beq d t with
  | true => rw [Nat.eq_of_beq_eq_true hb, ht] at h; cases h
  | false => exact ht
theorem lk_rest {a : Act} {l l0 : List (Nat × Value)} (p : Nat → Bool) (K : Tm n a l) (hl : sub l l0) (hp : ∀ x ∈ l0, p x.1 = false) :
    ∃ L, Tm n a L ∧ sub L l0 ∧ ∀ d, p d = true → lk L d = none := by
  have h1 : ∀ (l : List (Nat × Value)) t, p t = false → lk (l.filter fun x => !p x.1) t = lk l t := by
    intro l t ht
    induction l with
    | nil => rfl
    | cons x l ih =>
      obtain ⟨s, v⟩ := x
      simp only [List.filter_cons, lk]
      cases hs : p s with
      | true =>
        have : Nat.beq s t = false := by
          cases hb : Nat.beq s t with
          | false => rfl
          | true => rw [Nat.eq_of_beq_eq_true hb, ht] at hs; cases hs
        simp [this, ih]
      | false => simp [lk, ih]
  have h2 : ∀ (l : List (Nat × Value)) t, p t = true → lk (l.filter fun x => !p x.1) t = none := by
    intro l t ht
    induction l with
    | nil => rfl
    | cons x l ih =>
      obtain ⟨s, v⟩ := x
      simp only [List.filter_cons]
      cases hs : p s with
      | true => simpa using ih
      | false =>
        have : Nat.beq s t = false := by
          cases hb : Nat.beq s t with
          | false => rfl
          | true => rw [Nat.eq_of_beq_eq_true hb, ht] at hs; cases hs
        simp [lk, this, ih]
  refine ⟨l.filter fun x => !p x.1, ⟨K.size, fun t v ht => ?_, K.df⟩, ?_, h2 l⟩
  · cases hpt : p t with
    | true => rw [h2 l t hpt] at ht; cases ht
    | false => rw [h1 l t hpt] at ht; exact K.get t v ht
  · have : ∀ (l0 : List (Nat × Value)), sub l l0 → (∀ x ∈ l0, p x.1 = false) → sub (l.filter fun x => !p x.1) l0 := by
      intro l0
      induction l0 with
      | nil => intro _ _; trivial
      | cons x l0 ih =>
        intro h hp
        exact ⟨by rw [h1 l _ (hp x (by simp))]; exact h.1, ih h.2 fun y hy => hp y (by simp [hy])⟩
    exact this l0 hl hp
theorem wp_hop {id : Nat} {dr : Bool} {opl : List Oper} {a : Act} {w : World} {l : List (Nat × Value)} {G : Gh} {Δs : List (List Own)} {Δ0 : List Own} (m : Nat) (φ : List Fct) (l0 : List (Nat × Value)) (ss : List Nat) (sts : List (List Nat)) (A : List Nat) (hm : P.follows .mixedOrders = true) (hAm : amB A opl 0 = true) (hH : hdB opl m l0 = true) (hT : tailB A opl.length m = true)
    (hS : stB A m ss sts = true) (hφ : φ.length = m) (hml : Nat.ble m opl.length = true) (hmono : MonL φ) (K : Tm n a l) (h : St c G w Δ0) (hΔ0 : Δs[0]? = some Δ0) (hΔl : Δs.length = ss.length + 1) (hl0 : sub l l0) (hops : Hps P c n opl φ m l0 G Δs ss 0 opl φ sts)
    {Δe : List Own} (hΔe : Δs[ss.length]? = some Δe) (hend : ∀ a w H L X, Gh.le G H → St c H w (Δe ++ X) → Tm n a L → sub L l0 → got H L opl φ X → wpList P opl.toArray Q (opl.drop m) a w) : (Code.region id opl.toArray dr).wp P Q a w := by
  have hB := am_back hAm
  have hml' : m ≤ opl.length := by simpa using hml
  have hdst : ∀ i, i < m → ∀ d, dstOf opl i = some d → (∀ j, j < i → dstOf opl j ≠ some d) ∧ ∀ p ∈ l0, p.1 ≠ d := by
    intro i hi d hd
    simp only [hdB, List.all_eq_true, List.mem_range] at hH
    have := hH i hi
    rw [hd] at this
    simp only [Bool.and_eq_true, List.all_eq_true, List.mem_range, bne_iff_ne, ne_eq, Bool.not_eq_true'] at this
    refine ⟨this.1, fun p hp e => ?_⟩
    have := this.2 p hp
    rw [e] at this; simp at this
  simp only [stB, Bool.and_eq_true, List.all_eq_true, List.mem_range] at hS
  obtain ⟨hS1, hS2⟩ := hS
  have hss : ∀ k j, ss[k]? = some j → j < m ∧ sts[j]? = some [k] := by
    intro k j hk
    have hlt := (List.getElem?_eq_some_iff.1 hk).1
    have := hS1 k hlt
    rw [hk] at this
    simp only [Bool.and_eq_true, decide_eq_true_eq, beq_iff_eq] at this
    exact this
  have htl : ∀ (listed : Array Bool) (i : Nat), Ls opl.toArray listed → i ∈ Region.ready .any opl.toArray listed → m ≤ i → ∀ j, j < i → listed.getD j false = true := by
    intro listed i hL hr hi j hj
    obtain ⟨h1, h2, h3⟩ := ready_iff.1 hr
    simp only [tailB, List.all_eq_true, List.mem_range, Bool.or_eq_true, decide_eq_true_eq] at hT
    rcases hT i (by simpa using h1) with hlt | hall
    · omega
    · exact am_ready hAm hL hr (hall j hj)
  let Hd : Array Bool → Act → World → Prop := fun listed a w => (∀ i, m ≤ i → listed.getD i false = false) ∧ ∃ H L s, ∃ (Os : Nat → List Own) (Δ : List Own), s ≤ ss.length ∧ (∀ k j, ss[k]? = some j → (listed.getD j false = true ↔ k < s)) ∧ (∀ i, listed.getD i false = false → Os i = []) ∧ Gh.le G H ∧ Δs[s]? = some Δ ∧
    St c H w (Δ ++ (List.range m).flatMap Os) ∧ Tm n a L ∧ sub L l0 ∧ (∀ i d f, i < m → listed.getD i false = true → dstOf opl i = some d → φ[i]? = some f → ∃ v, lk L d = some v ∧ f L H v (Os i)) ∧ (∀ i, i < m → dstOf opl i = none → Os i = []) ∧ (∀ i d, i < m → listed.getD i false = false → dstOf opl i = some d → lk L d = none)
  let Tl : Array Bool → Act → World → Prop := fun listed a w => ∃ q, m ≤ q ∧ q ≤ opl.length ∧ (∀ i, i < opl.length → (listed.getD i false = true ↔ i < q)) ∧ wpList P opl.toArray Q (opl.drop q) a w
  have hfull : ∀ listed a w, Hd listed a w → (∀ i, i < m → listed.getD i false = true) → wpList P opl.toArray Q (opl.drop m) a w := by
    rintro listed a w ⟨_, H, L, s, Os, Δ, h1, h2, h3, h4, h5, h6, h7, h8, h9, h10, _⟩ hall
    have hs : s = ss.length := by
      rcases Nat.lt_or_ge s ss.length with hlt | hge
      · have hk := List.getElem?_eq_getElem hlt
        have := (h2 s _ hk).1 (hall _ (hss s _ hk).1)
        omega
      · omega
    subst hs
    rw [hΔe] at h5; cases h5
    refine hend a w H L _ h4 h6 h7 h8 ?_
    have := got_of (H := H) (L := L) (Os := Os) opl φ 0 (by omega) (fun i o d f ho hf hd => by
      have him : i < m := by rw [← hφ]; exact (List.getElem?_eq_some_iff.1 hf).1
      rw [Nat.zero_add]
      exact h9 i d f him (hall i him) (by simp only [dstOf, ho, Option.bind_some, hd]) hf) (fun i o ho hi hd => by
      rw [Nat.zero_add]
      exact h10 i (by omega) (by simp only [dstOf, ho, Option.bind_some, hd]))
    rw [hφ, ← List.range_eq_range'] at this; exact this
  have hone : ∀ (q : Nat) (a : Act) (w : World) (listed : Array Bool), q < opl.length → (∀ i, i < opl.length → (listed.getD i false = true ↔ i < q)) → listed.size = opl.length → m ≤ q → wpList P opl.toArray Q (opl.drop q) a w →
      wpOp P opl.toArray Q q (fun a' w' => Hd (listed.setIfInBounds q true) a' w' ∨ Tl (listed.setIfInBounds q true) a' w') a w := by
    intro q a w listed hq hall hls hmq hwp
    have ho : opl[q]? = some opl[q] := List.getElem?_eq_getElem hq
    rw [List.drop_eq_getElem_cons hq] at hwp
    unfold wpList at hwp
    unfold wpOp
    rw [show opl.toArray[q]? = some opl[q] by simpa using ho]
    have hK : ∀ a' w', wpList P opl.toArray Q (opl.drop (q + 1)) a' w' → Hd (listed.setIfInBounds q true) a' w' ∨ Tl (listed.setIfInBounds q true) a' w' := by
      intro a' w' h'
      refine .inr ⟨q + 1, by omega, by omega, fun i hi => ?_, h'⟩
      rw [getD_set (by omega)]
      split
      · next e => subst e; simp
      · next e => rw [hall i hi]; omega
    simp only
    split
    · next hw => rw [if_pos hw] at hwp; exact hwp.imp (Oper.wp_mono hK) (fun h => h)
    · next hw => rw [if_neg hw] at hwp; exact hK _ _ hwp
  have hrep : ∀ i, (Array.replicate opl.toArray.size false).getD i false = false := by
    intro i
    simp only [Array.getD_eq_getD_getElem?, Array.getElem?_replicate]; split <;> rfl
  obtain ⟨L0, K0, hl00, hL0⟩ := lk_rest (fun d => (List.range m).any fun i => dstOf opl i == some d) K hl0 (by
    intro p hp
    simp only [List.any_eq_false, List.mem_range, beq_iff_eq]
    intro i hi hd
    exact (hdst i hi p.1 hd).2 p hp rfl)
  refine wp_any hm hB (fun listed a w => Hd listed a w ∨ Tl listed a w) (fun w' hw' => .inl ⟨fun i _ => hrep i, G, L0, 0, fun _ => [], Δ0, Nat.zero_le _, fun k j _ => by rw [hrep]; simp, fun _ _ => rfl, Gh.refl _, hΔ0, ?_, K0, hl00, fun i d f _ hi => ?_, fun _ _ _ => rfl, fun i d hi _ hd => hL0 d (by simp only [List.any_eq_true, List.mem_range, beq_iff_eq]; exact ⟨i, hi, hd⟩)⟩) ?_ ?_
  · have : (List.range m).flatMap (fun _ => ([] : List Own)) = [] := by simp
    rw [this, List.append_nil]
    rcases hw' with rfl | rfl
    · exact h
    · exact h.drew
  · rw [hrep] at hi; cases hi
  · rintro listed i a w hL hI hr
    obtain ⟨h1, h2, h3⟩ := ready_iff.1 hr
    have h1' : i < opl.length := by simpa using h1
    obtain ⟨h4, h5⟩ := getD_true_false h2
    have hls : listed.size = opl.length := by rw [hL.size]; simp
    rcases hI with hI | ⟨q, hq1, hq2, hq3, hq4⟩
    · by_cases him : i < m
      · obtain ⟨hA, H, L, s, Os, Δ, g1, g2, g3, g4, g5, g6, g7, g8, g9, g10, g11⟩ := hI
        have ho : opl[i]? = some opl[i] := List.getElem?_eq_getElem h1'
        have hf : φ[i]? = some (φ[i]'(by omega)) := List.getElem?_eq_getElem (by omega)
        have hst2 := hS2 i him
        cases hsti : sts[i]? with
        | none => rw [hsti] at hst2; cases hst2
        | some st =>
          rw [hsti] at hst2
          simp only [List.all_eq_true, List.mem_range, Bool.or_eq_true, List.any_eq_true, List.contains_eq_mem, decide_eq_true_eq] at hst2
          have hsm : s ∈ st := by
            rcases hst2 s (by omega) with hin | ⟨k, hk, hkk⟩
            · exact hin
            · exfalso
              have hkj := List.getElem?_eq_getElem hk
              rw [hkj] at hkk
              simp only [Bool.or_eq_true, Bool.and_eq_true, decide_eq_true_eq] at hkk
              have hiff := g2 k _ hkj
              rcases hkk with ⟨hks, he | he⟩ | ⟨hks, he⟩
              · have := hiff.2 hks
                rw [← he, h5] at this; cases this
              · have := am_listed hAm hL _ _ (by have := (hss k _ hkj).1; omega) (hiff.2 hks) he
                rw [h5] at this; cases this
              · have := hiff.1 (am_ready hAm hL hr he)
                omega
          have hstore : ∀ q, ss[q]? = some i → q = s := by
            intro q hq
            have := (hss q i hq).2
            rw [hsti] at this
            cases this
            exact (List.mem_singleton.1 hsm).symm
          have hcont : ss.contains i = true → ss[s]? = some i := by
            intro hc
            simp only [List.contains_eq_mem, decide_eq_true_eq] at hc
            obtain ⟨q, hq, he⟩ := List.getElem_of_mem hc
            have hq' : ss[q]? = some i := by rw [List.getElem?_eq_getElem hq, he]
            have := hstore q hq'
            subst this; exact hq'
          have hs'le : nxt ss i s ≤ ss.length := by
            unfold nxt
            split
            · next hc =>
              have := (List.getElem?_eq_some_iff.1 (hcont hc)).1
              omega
            · exact g1
          obtain ⟨Δ', hΔ'⟩ : ∃ Δ', Δs[nxt ss i s]? = some Δ' := ⟨_, List.getElem?_eq_getElem (by omega)⟩
          have hh := hops.get ho hf hsti s hsm Δ Δ' g5 (by rw [Nat.zero_add]; exact hΔ') a w H L _ g4 g6 g7 g8 (kn_of _ fun e he hb hlt d f hd hf' => by
            rw [show opl.toArray[i]? = some opl[i] by simp [h1']] at h3
            simp only [Option.map_some, Option.getD_some, Array.all_eq_true'] at h3
            have hon := h3 e (by simpa using he)
            rw [hb] at hon
            obtain ⟨v, k1, k2⟩ := g9 e.on d f hlt (by simpa using hon) hd hf'
            exact ⟨v, _, k1, k2⟩)
          refine wpOp_mono ?_ (wpOp_of_one ho hh)
          rintro a' w' ⟨H', O, k1, k2, k3⟩
          have hperm := (flat_upd (O := O) (g3 i h5) m).1 him
          have hnew : St c H' w' (Δ' ++ (List.range m).flatMap fun q => if q = i then O else Os q) := by
            refine k2.perm ?_
            refine (hperm.append_left Δ').trans ?_
            rw [← List.append_assoc, ← List.append_assoc]
            exact List.perm_append_comm.append_right _
          have hstage : ∀ k j, ss[k]? = some j → ((listed.setIfInBounds i true).getD j false = true ↔ k < nxt ss i s) := by
            intro k j hk
            rw [getD_set h4]
            unfold nxt
            split
            · next e =>
              subst e
              have hks := hstore k hk
              have hc : ss.contains i = true := by simp only [List.contains_eq_mem, decide_eq_true_eq]; exact List.mem_of_getElem? hk
              rw [if_pos hc]; simp; omega
            · next e =>
              rw [g2 k j hk]
              split
              · next hc =>
                have hsi := hcont hc
                constructor
                · omega
                · intro hlt
                  have : k ≠ s := by rintro rfl; rw [hsi] at hk; exact e (Option.some.inj hk)
                  omega
              · rfl
          cases hod : opl[i].dst with
          | none =>
            rw [hod] at k3
            obtain ⟨k4, rfl⟩ := k3
            refine .inl ⟨fun j hj => ?_, H', L, nxt ss i s, (fun q => if q = i then [] else Os q), Δ', hs'le, hstage, fun j hj => ?_, Gh.trans g4 k1, hΔ', hnew, k4, g8, fun j d f hj hjl hd hf' => ?_, fun j hj hd => ?_, fun j d hj hjl hd => ?_⟩
            · rw [getD_set h4, if_neg (by omega)]; exact hA j hj
            · simp only
              split
              · rfl
              · next e => rw [getD_set h4, if_neg (fun e' => e e'.symm)] at hj; exact g3 j hj
            · have hne : j ≠ i := by rintro rfl; simp only [dstOf, ho, Option.bind_some, hod] at hd; cases hd
              rw [getD_set h4, if_neg (fun e => hne e.symm)] at hjl
              obtain ⟨v, q1, q2⟩ := g9 j d f hj hjl hd hf'
              simp only [if_neg hne]
              exact ⟨v, q1, hmono.get f (List.mem_of_getElem? hf') _ _ _ _ _ _ (Lle.refl _) k1 q2⟩
            · simp only
              split
              · rfl
              · exact g10 j hj hd
            · have hne : j ≠ i := by rintro rfl; simp only [dstOf, ho, Option.bind_some, hod] at hd; cases hd
              rw [getD_set h4, if_neg (fun e => hne e.symm)] at hjl
              exact g11 j d hj hjl hd
          | some d =>
            rw [hod] at k3
            obtain ⟨v, k4, k5⟩ := k3
            have hd : dstOf opl i = some d := by simp only [dstOf, ho, Option.bind_some, hod]
            obtain ⟨hdj, hdl⟩ := hdst i him d hd
            have hLL : Lle L ((d, v) :: L) := Lle.cons (g11 i d him h5 hd)
            have hdd : ∀ j, j < m → j ≠ i → ∀ d2, dstOf opl j = some d2 → d ≠ d2 := by
              rintro j hj e d2 hd2 rfl
              rcases Nat.lt_or_gt_of_ne e with hlt | hlt
              · exact hdj j hlt hd2
              · exact (hdst j hj d hd2).1 i hlt hd
            refine .inl ⟨fun j hj => ?_, H', (d, v) :: L, nxt ss i s, (fun q => if q = i then O else Os q), Δ', hs'le, hstage, fun j hj => ?_, Gh.trans g4 k1, hΔ', hnew, k4, sub_cons g8 hdl, fun j d2 f hj hjl hd2 hf' => ?_, fun j hj hd2 => ?_, fun j d2 hj hjl hd2 => ?_⟩
            · rw [getD_set h4, if_neg (by omega)]; exact hA j hj
            · simp only
              split
              · next e => subst e; rw [getD_set h4, if_pos rfl] at hj; cases hj
              · next e => rw [getD_set h4, if_neg (fun e' => e e'.symm)] at hj; exact g3 j hj
            · by_cases e : i = j
              · subst e
                rw [hd] at hd2; cases hd2
                rw [hf] at hf'; cases hf'
                simp only [if_true]
                exact ⟨v, by simp [lk], hmono.get _ (List.mem_of_getElem? hf) _ _ _ _ _ _ hLL (Gh.refl _) k5⟩
              · rw [getD_set h4, if_neg e] at hjl
                obtain ⟨v2, q3, q4⟩ := g9 j d2 f hj hjl hd2 hf'
                have ene : ¬ j = i := fun e' => e e'.symm
                simp only [if_neg ene]
                refine ⟨v2, ?_, hmono.get f (List.mem_of_getElem? hf') _ _ _ _ _ _ hLL k1 q4⟩
                have hne : d ≠ d2 := hdd j hj ene d2 hd2
                simp only [lk]
                rw [show Nat.beq d d2 = false by
                  cases hbq : Nat.beq d d2 with
                  | false => rfl
                  | true => exact absurd (Nat.eq_of_beq_eq_true hbq) hne]
                exact q3
            · simp only
              split
              · next e => subst e; rw [hd] at hd2; cases hd2
              · exact g10 j hj hd2
            · by_cases e : j = i
              · subst e; rw [getD_set h4, if_pos rfl] at hjl; cases hjl
              · rw [getD_set h4, if_neg (fun e' => e e'.symm)] at hjl
                simp only [lk]
                rw [show Nat.beq d d2 = false by
                  cases hbq : Nat.beq d d2 with
                  | false => rfl
                  | true => exact absurd (Nat.eq_of_beq_eq_true hbq) (hdd j hj e d2 hd2)]
                exact g11 j d2 hj hjl hd2
      · have hall := htl listed i hL hr (by omega)
        have hi : i = m := by
          rcases Nat.lt_or_ge m i with hlt | hge
          · have := hall m hlt
            rw [hI.1 m (Nat.le_refl _)] at this; cases this
          · omega
        subst hi
        refine hone i a w listed h1' (fun j hj => ?_) hls (Nat.le_refl _) (hfull listed a w hI hall)
        constructor
        · intro hjl
          rcases Nat.lt_or_ge j i with hlt | hge
          · exact hlt
          · rw [hI.1 j hge] at hjl; cases hjl
        · exact hall j
    · have hi : i = q := by
        rcases Nat.lt_trichotomy i q with hlt | he | hgt
        · rw [(hq3 i h1').2 hlt] at h5; cases h5
        · exact he
        · have := htl listed i hL hr (by omega) q hgt
          rw [hq3 q (by omega)] at this; omega
      subst hi
      exact hone i a w listed h1' hq3 hls hq1 hq4
  · rintro listed a w hL hI hr
    have hall := all_listed hB hL.size hr
    rcases hI with hI | ⟨q, hq1, hq2, hq3, hq4⟩
    · have hmm : m = opl.length := by
        rcases Nat.lt_or_ge m opl.length with hlt | hge
        · have := hall m (by simp; omega)
          rw [hI.1 m (Nat.le_refl _)] at this; cases this
        · omega
      have := hfull listed a w hI (fun i hi => hall i (by simp; omega))
      rw [hmm, List.drop_length] at this; exact this
    · have hqq : q = opl.length := by
        rcases Nat.lt_or_ge q opl.length with hlt | hge
        · have := hall q (by simp; omega)
          rw [hq3 q hlt] at this; omega
        · omega
      rw [hqq, List.drop_length] at hq4; exact hq4
/-! ### guarded operations -/
theorem kn_get {opl : List Oper} {φ : List Fct} {H : Gh} {L : List (Nat × Value)} {m d : Nat} {f : Fct} {e : Edge} : ∀ {es : List Edge}, kn opl φ H L m es → e ∈ es → Region.binds .any e = true → Nat.blt e.on m = true → dstOf opl e.on = some d → φ[e.on]? = some f → ∃ v O, lk L d = some v ∧ f L H v O
  | [], _, h, _, _, _, _ => by simp at h
  | e' :: es, hk, h, hb, hl, hd, hf => by
    rcases List.mem_cons.1 h with rfl | h
    · have := hk.1
      rw [hb, hl, hd, hf] at this
      exact this
    · exact kn_get hk.2 h hb hl hd hf
variable {opl : List Oper} {φ : List Fct} {m : Nat} {l0 : List (Nat × Value)} {G : Gh} {Δ : List Own}
def asB : Value → Option Bool
  | .bool b => some b
  | _ => none
theorem asB_ne {v : Value} {c : Bool} (h : v ≠ .bool c) : asB v ≠ some c := by
  cases v <;> simp_all [asB]
theorem Hp.gd {dst d' : Nat} {op : Op} {ty : TypeId} {pos : String} {af : Array Edge} {j : Nat} {cb ctx : Bool} {f fj : Fct} (q : Nat) {e : Edge} (hq : af.toList[q]? = some e) (hj : e.on = j) (hb : Region.binds .any e = true) (hl : Nat.blt e.on m = true) (hd' : dstOf opl e.on = some d') (hfj : φ[e.on]? = some fj)
    (hf : ∀ L H v O, fj L H v O → (ctx = true → v = .bool cb) ∧ (ctx = false → v ≠ .bool cb)) (hn : Nat.blt dst n = true)
    (h1 : ctx = true → Hp P c n opl φ m l0 G ⟨some dst, op, ty, pos, af, none⟩ f Δ Δ) (hf0 : ∀ L H v O, f L H v O → O = []) : Hp P c n opl φ m l0 G ⟨some dst, op, ty, pos, af, some (j, cb)⟩ (fG ctx f) Δ Δ := by
  subst hj
  intro a w H L X hle hst K hs hk
  obtain ⟨v, O, h2, h3⟩ := kn_get hk (List.mem_of_getElem? hq) hb hl hd' hfj
  obtain ⟨h4, h5⟩ := hf _ _ v O h3
  have hdo : (opl.toArray[e.on]?).bind (·.dst) = some d' := by simpa [dstOf] using hd'
  have hy : yielded opl.toArray a.tmps e.on = asB v := by
    simp only [yielded, hdo, Option.bind_some, K.get _ _ h2]
    cases v <;> rfl
  cases hc : ctx with
  | true =>
    have hv := h4 hc
    have h6 := h1 hc a w H L X hle hst K hs hk
    unfold wpList at h6 ⊢
    rw [if_pos (by simp [Region.wanted])] at h6
    rw [if_pos (by simp only [Region.wanted, hy, hv, asB]; simp)]
    rcases h6 with h6 | h6
    · refine .inl (Oper.wp_mono2 (Q := fun e a' w' => e = .normal ∧ ∃ H' O, Gh.le H H' ∧ St c H' w' (O ++ (Δ ++ X)) ∧ ∃ v, Tm n a' ((dst, v) :: L) ∧ f L H' v O) ?_ ?_ h6)
      · rintro a' w' ⟨_, H', O, g1, g2, u, g3, g4⟩
        have := hf0 _ _ _ _ g4
        subst this
        exact ⟨rfl, H', [], g1, g2, u, g3, rfl, fun _ => g4, fun h => by cases h⟩
      · rintro e' a' w' hne ⟨he, _⟩
        exact absurd he hne
    · exact absurd h6.2 (by rintro ⟨a0, w0, h0, _⟩; cases h0)
  | false =>
    have hv := h5 hc
    unfold wpList
    rw [if_neg (by
      simp only [Region.wanted, hy]
      have := asB_ne hv
      simpa using this)]
    exact ⟨rfl, H, [], Gh.refl _, hst, undef, K.put hn, rfl, (fun h => by cases h), fun _ => rfl⟩
theorem gE_t {t : Bool} : ∀ (L : List (Nat × Value)) (H : Gh) (v : Value) (O : List Own), fE (.bool t) L H v O → (t = true → v = .bool true) ∧ (t = false → v ≠ .bool true) := by
  rintro L H v O ⟨_, rfl⟩; exact ⟨fun h => by rw [h], fun h => by rw [h]; simp⟩
theorem gE_f {t : Bool} : ∀ (L : List (Nat × Value)) (H : Gh) (v : Value) (O : List Own), fE (.bool t) L H v O → ((!t) = true → v = .bool false) ∧ ((!t) = false → v ≠ .bool false) := by
  rintro L H v O ⟨_, rfl⟩; cases t <;> simp
theorem gG_t {g t : Bool} : ∀ (L : List (Nat × Value)) (H : Gh) (v : Value) (O : List Own), fG g (fE (.bool t)) L H v O → ((g && t) = true → v = .bool true) ∧ ((g && t) = false → v ≠ .bool true) := by
  rintro L H v O ⟨_, h1, h2⟩
  cases g
  · have := h2 rfl; subst this; simp [undef]
  · have := (h1 rfl).2; subst this; cases t <;> simp
theorem nilE {u} : ∀ L H v O, fE u L H v O → O = [] := fun _ _ _ _ h => h.1
theorem nilT {α} {k : Kd α} {x : α} : ∀ L H v O, fT k x L H v O → O = [] := fun _ _ _ _ h => h.1
def fC (R : Value → Gh → Prop) : Fct := fun _ H v O => O = [] ∧ R v H
theorem monC {R : Value → Gh → Prop} (h : ∀ G H v, Gh.le G H → R v G → R v H) : Mon (fC R) := fun _ _ _ _ _ _ _ hl h' => ⟨h'.1, h _ _ _ hl h'.2⟩
theorem and_i {a b : Bool} (h : a = true) (h' : b = true) : (a && b) = true := by rw [h, h']; rfl
theorem not_f {a : Bool} (h : a = false) : (!a) = true := by rw [h]; rfl
theorem orr {a b : Bool} (h : (!a || b) = true) (ha : a = true) : b = true := by cases a <;> simp_all
def ov {α} [Inhabited α] (x : Option α) : α := x.getD default
theorem ovs {α} [Inhabited α] {x : Option α} (h : x.isSome = true) : x = some (ov x) := by cases x <;> simp_all [ov]
theorem stg1 {ss : List Nat} {i k : Nat} {Δs : List (List Own)} {D D' : List Own} {o : Oper} {f : Fct} (h1 : Δs[k]? = some D) (h2 : Δs[nxt ss i k]? = some D') (h : Hp P c n opl φ m l0 G o f D D') :
    ∀ s ∈ [k], ∀ Δ Δ', Δs[s]? = some Δ → Δs[nxt ss i s]? = some Δ' → Hp P c n opl φ m l0 G o f Δ Δ' := by
  intro s hs Δ Δ' h3 h4
  simp only [List.mem_singleton] at hs; subst hs
  rw [h1] at h3; cases h3
  rw [h2] at h4; cases h4
  exact h
theorem stg2 {ss : List Nat} {i k : Nat} {ks : List Nat} {Δs : List (List Own)} {D D' : List Own} {o : Oper} {f : Fct} (h1 : Δs[k]? = some D) (h2 : Δs[nxt ss i k]? = some D') (h : Hp P c n opl φ m l0 G o f D D')
    (hr : ∀ s ∈ ks, ∀ Δ Δ', Δs[s]? = some Δ → Δs[nxt ss i s]? = some Δ' → Hp P c n opl φ m l0 G o f Δ Δ') : ∀ s ∈ k :: ks, ∀ Δ Δ', Δs[s]? = some Δ → Δs[nxt ss i s]? = some Δ' → Hp P c n opl φ m l0 G o f Δ Δ' := by
  intro s hs
  rcases List.mem_cons.1 hs with rfl | hs
  · intro Δ Δ' h3 h4
    rw [h1] at h3; cases h3
    rw [h2] at h4; cases h4
    exact h
  · exact hr s hs
theorem St.cast {w : World} {Δ' : List Own} (h : St c G w Δ) (e : Δ = Δ') : St c G w Δ' := e ▸ h
end
section
variable {P : Program} {ops : Array Oper} {Q : Exit → Act → World → Prop} {rest : List Oper} {n : Nat} {a : Act} {w w' : World} {l : List (Nat × Value)} {d : Nat} {ty : TypeId} {pos : String} {af : Array Edge}
theorem pickOr {c x y : Operand} {A B : Bool} {v : Value} (K : Tm n a l) (hc : ev l c = some (.bool A)) (hx : ev l x = some (.bool true)) (hy : ev l y = some v) (hv : A = false → v = .bool B) (k : ∀ a, Tm n a ((d, .bool (A || B)) :: l) → wpList P ops Q rest a w) (hd : Nat.blt d n = true := by rfl) :
    wpList P ops Q (⟨some d, .pick c x y, ty, pos, af, none⟩ :: rest) a w := by
  cases A
  · exact pickF K hc (by rw [hy, hv rfl]) (by simpa using k) hd
  · exact pickT K hc hx (by simpa using k) hd
theorem pickAnd {c x y : Operand} {A B : Bool} {v : Value} (K : Tm n a l) (hc : ev l c = some (.bool A)) (hx : ev l x = some v) (hy : ev l y = some (.bool false)) (hv : A = true → v = .bool B) (k : ∀ a, Tm n a ((d, .bool (A && B)) :: l) → wpList P ops Q rest a w) (hd : Nat.blt d n = true := by rfl) :
    wpList P ops Q (⟨some d, .pick c x y, ty, pos, af, none⟩ :: rest) a w := by
  cases A
  · exact pickF K hc hy (by simpa using k) hd
  · exact pickT K hc (by rw [hx, hv rfl]) (by simpa using k) hd
end
end Go.Sy
