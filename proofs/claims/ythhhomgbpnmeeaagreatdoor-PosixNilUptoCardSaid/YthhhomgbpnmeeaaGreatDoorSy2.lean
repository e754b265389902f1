/- A library for walks that a program prints: kinds of data, what a call owns, one lemma for each operation. No conditions. -/
import Derived.Test.YthhhomgbpnmeeaaGreatDoorSy1
set_option linter.all false
namespace Go.Sy
open Go
structure Own where
  {α : Type}
  k : Kd α
  xs : List α
  cap : Nat
  b : Option Nat
  T : TypeId
def soft (m : Nat) (C : Array Value) (fr : Nat × Nat) : Prop := (∀ i, i < C.size → ¬ (fr.1 ≤ i ∧ i < fr.2)) ∧ (1 < m → fr = (0, 0)) ∧ fr.1 ≤ fr.2
def Own.ok (o : Own) (G : Gh) (w : World) : Prop :=
  o.xs.length ≤ o.cap ∧ (o.b = none → o.cap = 0) ∧
    ∀ b, o.b = some b → G b = none ∧ ∃ C fr, w.heap[b]? = some (.cells C o.T fr) ∧ C.size = o.cap * o.k.n ∧ soft o.k.n C fr ∧ rows o.k G C.toList o.xs
abbrev hdr (b : Option Nat) (len cap : Nat) : Value := .slice (b.map fun b => ⟨b, 0, none⟩) len cap
structure Cx where
  w0 : World
  S : List Nat
  G0 : Gh
structure St (c : Cx) (G : Gh) (w : World) (Δ : List Own) : Prop where
  sat : ∀ b o, G b = some o → w.heap[b]? = some o
  own : ∀ e ∈ Δ, e.ok G w
  nd : (Δ.filterMap (·.b)).Nodup
  fr : ∀ b, b < c.w0.heap.size → b ∉ c.S → w.heap[b]? = c.w0.heap[b]?
  low : ∀ e ∈ Δ, ∀ b, e.b = some b → b < c.w0.heap.size → b ∈ c.S
  size : c.w0.heap.size ≤ w.heap.size
  gle : Gh.le c.G0 G
  gnew : ∀ b, G b ≠ none → c.G0 b ≠ none ∨ c.w0.heap.size ≤ b ∨ b ∈ c.S
  os : w.os = c.w0.os
  tape : w.tape = c.w0.tape
  output : w.output = c.w0.output
section
variable {c : Cx} {G : Gh} {w w' : World} {Δ : List Own}
theorem St.lt (h : St c G w Δ) {b : Nat} {o : Obj} (hb : G b = some o) : b < w.heap.size := by
  have := h.sat b o hb
  exact (Array.getElem?_eq_some_iff.1 this).1
theorem St.fresh (h : St c G w Δ) : G w.heap.size = none := by
  cases hb : G w.heap.size with
  | none => rfl
  | some o => exact absurd (h.lt hb) (Nat.lt_irrefl _)
theorem St.same (h : St c G w Δ) (hh : w'.heap = w.heap) (ho : w'.os = w.os) (ht : w'.tape = w.tape) (hp : w'.output = w.output) : St c G w' Δ where
  sat := by rw [hh]; exact h.sat
  own := by
    intro e he
    obtain ⟨h1, h2, h3⟩ := h.own e he
    refine ⟨h1, h2, fun b hb => ?_⟩
    rw [hh]; exact h3 b hb
  nd := h.nd
  fr := by rw [hh]; exact h.fr
  low := h.low
  size := by rw [hh]; exact h.size
  gle := h.gle
  gnew := h.gnew
  os := ho.trans h.os
  tape := ht.trans h.tape
  output := hp.trans h.output
theorem St.drew (h : St c G w Δ) : St c G { w with drawn := w.drawn + 1 } Δ := h.same rfl rfl rfl rfl
theorem St.sub {Δ' : List Own} (h : St c G w Δ) (hs : Δ'.Sublist Δ) : St c G w Δ' where
  sat := h.sat
  own e he := h.own e (hs.subset he)
  nd := (hs.filterMap _).nodup h.nd
  fr := h.fr
  low e he := h.low e (hs.subset he)
  size := h.size
  gle := h.gle
  gnew := h.gnew
  os := h.os
  tape := h.tape
  output := h.output
theorem St.perm {Δ' : List Own} (h : St c G w Δ) (hs : Δ'.Perm Δ) : St c G w Δ' where
  sat := h.sat
  own e he := h.own e (hs.subset he)
  nd := (hs.filterMap _).nodup_iff.2 h.nd
  fr := h.fr
  low e he := h.low e (hs.subset he)
  size := h.size
  gle := h.gle
  gnew := h.gnew
  os := h.os
  tape := h.tape
  output := h.output
theorem Own.ok_mono {e : Own} {H : Gh} (hb : ∀ b, e.b = some b → H b = none) (hle : Gh.le G H) (hw : ∀ b, e.b = some b → w'.heap[b]? = w.heap[b]?) (h : e.ok G w) : e.ok H w' := by
  obtain ⟨h1, h2, h3⟩ := h
  refine ⟨h1, h2, fun b hb' => ?_⟩
  obtain ⟨_, C, fr, h5, h6, h7, h8⟩ := h3 b hb'
  exact ⟨hb b hb', C, fr, by rw [hw b hb', h5], h6, h7, rows_mono hle h8⟩
theorem Own.lt {e : Own} (h : e.ok G w) {b : Nat} (hb : e.b = some b) : b < w.heap.size := by
  obtain ⟨_, C, fr, h5, _⟩ := h.2.2 b hb
  exact (Array.getElem?_eq_some_iff.1 h5).1
theorem St.new {α} {k : Kd α} {xs : List α} {cap : Nat} {T : TypeId} {C : Array Value} (h : St c G w Δ) (hw : w'.heap = w.heap.push (.cells C T (0, 0)))
    (ho : w'.os = w.os) (ht : w'.tape = w.tape) (hp : w'.output = w.output)
    (hl : xs.length ≤ cap) (hC : C.size = cap * k.n) (hr : rows k G C.toList xs) : St c G w' (⟨k, xs, cap, some w.heap.size, T⟩ :: Δ) where
  sat b o hb := by
    have := h.sat b o hb
    have lt := h.lt hb
    rw [hw, Array.getElem?_push, if_neg (by omega)]; exact this
  own e he := by
    rcases List.mem_cons.1 he with rfl | he
    · refine ⟨hl, by simp, fun b hb => ?_⟩
      simp at hb; subst hb
      refine ⟨h.fresh, C, (0, 0), by rw [hw]; simp, hC, ⟨fun i _ hi => by simp at hi, fun _ => rfl, Nat.le_refl _⟩, hr⟩
    · have hok := h.own e he
      refine Own.ok_mono (fun b hb => (hok.2.2 b hb).1) (Gh.refl _) (fun b hb => ?_) hok
      have := Own.lt hok hb
      rw [hw, Array.getElem?_push, if_neg (by omega)]
  nd := by
    simp only [List.filterMap_cons]
    refine List.nodup_cons.2 ⟨fun hm => ?_, h.nd⟩
    obtain ⟨e, he, hb⟩ := List.mem_filterMap.1 hm
    have := Own.lt (h.own e he) hb
    omega
  fr b hb hs := by
    have := h.size
    rw [hw, Array.getElem?_push, if_neg (by omega)]; exact h.fr b hb hs
  low e he b hb hlt := by
    rcases List.mem_cons.1 he with rfl | he
    · simp at hb; subst hb; have := h.size; omega
    · exact h.low e he b hb hlt
  size := by rw [hw]; simp; have := h.size; omega
  gle := h.gle
  gnew := h.gnew
  os := ho.trans h.os
  tape := ht.trans h.tape
  output := hp.trans h.output
def Gh.add (G : Gh) (b : Nat) (o : Obj) : Gh := fun b' => if b' = b then some o else G b'
theorem Gh.le_add {G : Gh} {b : Nat} {o : Obj} (h : G b = none) : Gh.le G (G.add b o) := by
  intro b' o' hb
  simp only [Gh.add]
  split
  · next e => rw [e] at hb; rw [h] at hb; cases hb
  · exact hb
theorem Gh.add_self {G : Gh} {b : Nat} {o : Obj} : (G.add b o) b = some o := by simp [Gh.add]
theorem St.still {e : Own} {b : Nat} {C : Array Value} {fr : Nat × Nat} (h : St c G w (e :: Δ)) (hb : e.b = some b) (hC : w.heap[b]? = some (.cells C e.T fr)) :
    Gh.le G (G.add b (.cells C e.T fr)) ∧ St c (G.add b (.cells C e.T fr)) w Δ := by
  have hok := h.own e (by simp)
  have hn := (hok.2.2 b hb).1
  have hle := Gh.le_add (o := .cells C e.T fr) hn
  have nd : b ∉ Δ.filterMap (·.b) ∧ (Δ.filterMap (·.b)).Nodup := by
    have := h.nd
    simp only [List.filterMap_cons, hb] at this
    exact List.nodup_cons.1 this
  refine ⟨hle, ?_⟩
  exact {
    sat := by
      intro b' o hb'
      simp only [Gh.add] at hb'
      split at hb'
      · next e => subst e; cases hb'; exact hC
      · exact h.sat b' o hb'
    own := by
      intro e' he'
      have hok' := h.own e' (List.mem_cons_of_mem _ he')
      refine Own.ok_mono (fun b' hb' => ?_) hle (fun _ _ => rfl) hok'
      have : b' ≠ b := by
        rintro rfl
        exact nd.1 (List.mem_filterMap.2 ⟨e', he', hb'⟩)
      simp only [Gh.add, if_neg this]
      exact (hok'.2.2 b' hb').1
    nd := nd.2
    fr := h.fr
    low := fun e' he' => h.low e' (List.mem_cons_of_mem _ he')
    size := h.size
    gle := Gh.trans h.gle hle
    gnew := by
      intro b' hb'
      simp only [Gh.add] at hb'
      split at hb'
      · next e' =>
        subst e'
        by_cases hlt : b' < c.w0.heap.size
        · exact .inr (.inr (h.low e (by simp) b' hb hlt))
        · exact .inr (.inl (by omega))
      · exact h.gnew b' hb'
    os := h.os
    tape := h.tape
    output := h.output }
theorem St.freeze {α} {k : Kd α} {xs : List α} {cap : Nat} {b : Option Nat} {T : TypeId} (h : St c G w (⟨k, xs, cap, b, T⟩ :: Δ)) :
    ∃ H, Gh.le G H ∧ St c H w Δ ∧ slRep k H (hdr b xs.length cap) xs := by
  have hok := h.own _ (List.mem_cons_self ..)
  cases b with
  | none =>
    refine ⟨G, Gh.refl _, h.sub (List.sublist_cons_self ..), none, cap, rfl, hok.1, fun _ => hok.2.1 rfl, by simp⟩
  | some b =>
    obtain ⟨hn, C, fr, h1, h2, h3, h4⟩ := hok.2.2 b rfl
    obtain ⟨hle, hst⟩ := h.still (b := b) rfl h1
    refine ⟨_, hle, hst, some ⟨b, 0, none⟩, cap, rfl, hok.1, by simp, fun p hp => ?_⟩
    simp at hp; subst hp
    refine ⟨rfl, C, T, fr, Gh.add_self, by simp only [Nat.zero_add]; exact Nat.le_of_eq h2.symm, ?_⟩
    simp only [List.drop_zero]
    exact rows_mono hle h4
theorem St.freezeBox {α} {k : Kd α} {x : α} {b : Nat} {T : TypeId} (h : St c G w (⟨k, [x], 1, some b, T⟩ :: Δ)) :
    ∃ H, Gh.le G H ∧ St c H w Δ ∧ k.at H ⟨b, 0, none⟩ x := by
  have hok := h.own _ (List.mem_cons_self ..)
  obtain ⟨hn, C, fr, h1, h2, h3, h4⟩ := hok.2.2 b rfl
  obtain ⟨hle, hst⟩ := h.still (b := b) rfl h1
  refine ⟨_, hle, hst, rfl, C, T, fr, Gh.add_self, ?_⟩
  simp only [List.drop_zero]
  exact k.mono hle h4.1
theorem St.put {α β} {k : Kd α} {xs : List α} {cap : Nat} {b : Nat} {T : TypeId} {k' : Kd β} {xs' : List β} {cap' : Nat} {C' : Array Value} {fr : Nat × Nat}
    (h : St c G w (⟨k, xs, cap, some b, T⟩ :: Δ)) (hw : ∀ b', w'.heap[b']? = if b' = b then some (.cells C' T fr) else w.heap[b']?) (hsz : w'.heap.size = w.heap.size)
    (ho : w'.os = w.os) (ht : w'.tape = w.tape) (hp : w'.output = w.output)
    (hl : xs'.length ≤ cap') (hC : C'.size = cap' * k'.n) (hs : soft k'.n C' fr) (hr : rows k' G C'.toList xs') : St c G w' (⟨k', xs', cap', some b, T⟩ :: Δ) where
  sat b' o hb' := by
    have hn := ((h.own _ (List.mem_cons_self ..)).2.2 b rfl).1
    have : b' ≠ b := by rintro rfl; rw [hn] at hb'; cases hb'
    rw [hw, if_neg this]; exact h.sat b' o hb'
  own e he := by
    rcases List.mem_cons.1 he with rfl | he2
    · refine ⟨hl, by simp, fun b' hb' => ?_⟩
      simp at hb'; subst hb'
      exact ⟨((h.own _ (List.mem_cons_self ..)).2.2 b rfl).1, C', fr, by rw [hw, if_pos rfl], hC, hs, hr⟩
    · have hok := h.own e (List.mem_cons_of_mem _ he2)
      refine Own.ok_mono (fun b hb => (hok.2.2 b hb).1) (Gh.refl _) (fun b' hb' => ?_) hok
      have : b' ≠ b := by
        rintro rfl
        have := h.nd
        simp only [List.filterMap_cons] at this
        exact (List.nodup_cons.1 this).1 (List.mem_filterMap.2 ⟨e, he2, hb'⟩)
      rw [hw, if_neg this]
  nd := by have := h.nd; simpa using this
  fr b' hb' hs' := by
    have : b' ≠ b := by rintro rfl; exact hs' (h.low _ (List.mem_cons_self ..) b' rfl hb')
    rw [hw, if_neg this]; exact h.fr b' hb' hs'
  low e he b' hb' hlt := by
    rcases List.mem_cons.1 he with rfl | he
    · simp at hb'; subst hb'; exact h.low _ (List.mem_cons_self ..) b rfl hlt
    · exact h.low e (List.mem_cons_of_mem _ he) b' hb' hlt
  size := by rw [hsz]; exact h.size
  gle := h.gle
  gnew := h.gnew
  os := ho.trans h.os
  tape := ht.trans h.tape
  output := hp.trans h.output
end
end Go.Sy
