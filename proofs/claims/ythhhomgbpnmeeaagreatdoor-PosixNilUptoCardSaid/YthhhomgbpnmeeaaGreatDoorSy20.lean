/- A library for walks that a program prints: kinds of data, what a call owns, one lemma for each operation. No conditions. -/
import Derived.Test.YthhhomgbpnmeeaaGreatDoorSy19
set_option linter.all false
namespace Go.Sy
open Go
def Ind (φ : List Fct) : Prop := ∀ f ∈ φ, ∀ L L' G v O, f L G v O → f L' G v O
theorem ind_nil : Ind [] := fun f hf => by simp at hf
theorem ind_E {u : Value} {φ : List Fct} (h : Ind φ) : Ind (fE u :: φ) := by
  intro f hf
  rcases List.mem_cons.1 hf with rfl | hf
  · exact fun _ _ _ _ _ h => h
  · exact h f hf
theorem ind_T {α} {k : Kd α} {x : α} {φ : List Fct} (h : Ind φ) : Ind (fT k x :: φ) := by
  intro f hf
  rcases List.mem_cons.1 hf with rfl | hf
  · exact fun _ _ _ _ _ h => h
  · exact h f hf
def accL (A : List Nat) (opl : List Oper) (m : Nat) (l1 : List (Nat × Value)) (i : Nat) : List (Nat × Value) :=
  l1.filter fun p => (List.range m).all fun j => dstOf opl j != some p.1 || (A.getD j 0).testBit i
def Hpsm (P : Program) (c : Cx) (n : Nat) (opl : List Oper) (φ : List Fct) (m : Nat) (l0 l1 : List (Nat × Value)) (A : List Nat) (G : Gh) (Δs : List (List Own)) (ss : List Nat) : Nat → List Oper → List Fct → List (List Nat) → Prop
  | i, o :: os, f :: fs, st :: sts => (∀ s ∈ st, ∀ Δ Δ', Δs[s]? = some Δ → Δs[nxt ss i s]? = some Δ' → Hp P c n opl φ m (l0 ++ accL A opl m l1 i) G o f Δ Δ') ∧ Hpsm P c n opl φ m l0 l1 A G Δs ss (i + 1) os fs sts
  | _, _, [], _ => True
  | _, _, _ :: _, [] => False
  | _, [], _ :: _, _ => False
theorem sub_mem : ∀ {l l' : List (Nat × Value)}, sub l l' → ∀ {p}, p ∈ l' → lk l p.1 = some p.2
  | _, _ :: _, h, p, hp => by
    rcases List.mem_cons.1 hp with rfl | hp
    · exact h.1
    · exact sub_mem h.2 hp
theorem sub_of {l : List (Nat × Value)} : ∀ {l' : List (Nat × Value)}, (∀ p ∈ l', lk l p.1 = some p.2) → sub l l'
  | [], _ => trivial
  | p :: l', h => ⟨h p (by simp), sub_of fun q hq => h q (by simp [hq])⟩
theorem sub_left {l a b : List (Nat × Value)} (h : sub l (a ++ b)) : sub l a := sub_of fun _ hp => sub_mem h (List.mem_append_left _ hp)
theorem sub_app {l a b : List (Nat × Value)} (h : sub l a) (h' : sub l b) : sub l (a ++ b) := sub_of fun p hp => by
  rcases List.mem_append.1 hp with hp | hp
  · exact sub_mem h hp
  · exact sub_mem h' hp
section
variable {P : Program} {c : Cx} {Q : Exit → Act → World → Prop} {n : Nat}
theorem Hpsm.get {opl : List Oper} {φ : List Fct} {m : Nat} {l0 l1 : List (Nat × Value)} {A : List Nat} {G : Gh} {Δs : List (List Own)} {ss : List Nat} : ∀ {k : Nat} {os : List Oper} {fs : List Fct} {sts : List (List Nat)} {i : Nat} {o : Oper} {f : Fct} {st : List Nat}, Hpsm P c n opl φ m l0 l1 A G Δs ss k os fs sts → os[i]? = some o → fs[i]? = some f → sts[i]? = some st →
    ∀ s ∈ st, ∀ Δ Δ', Δs[s]? = some Δ → Δs[nxt ss (k + i) s]? = some Δ' → Hp P c n opl φ m (l0 ++ accL A opl m l1 (k + i)) G o f Δ Δ'
  | _, [], _, _, _, _, _, _, _, h, _, _ => by simp at h
  | _, _ :: _, [], _, _, _, _, _, _, _, h, _ => by simp at h
  | _, _ :: _, _ :: _, [], _, _, _, _, _, _, _, h => by simp at h
  | k, o :: os, f :: fs, st :: sts, 0, _, _, _, h, h1, h2, h3 => by simp at h1 h2 h3; subst h1 h2 h3; exact h.1
  | k, o :: os, f :: fs, st :: sts, i + 1, _, _, _, h, h1, h2, h3 => by
    have := h.2.get (i := i) (by simpa using h1) (by simpa using h2) (by simpa using h3)
    rw [show k + 1 + i = k + (i + 1) by omega] at this
    exact this
theorem wp_hopm {id : Nat} {dr : Bool} {opl : List Oper} {a : Act} {w : World} {l : List (Nat × Value)} {G : Gh} {Δs : List (List Own)} {Δ0 : List Own} (m : Nat) (φ : List Fct) (l0 l1 : List (Nat × Value)) (hind : Ind φ) (ss : List Nat) (sts : List (List Nat)) (A : List Nat) (hm : P.follows .mixedOrders = true) (hAm : amB A opl 0 = true) (hH : hdB opl m l0 = true) (hT : tailB A opl.length m = true)
    (hS : stB A m ss sts = true) (hφ : φ.length = m) (hml : Nat.ble m opl.length = true) (hmono : MonL φ) (K : Tm n a l) (h : St c G w Δ0) (hΔ0 : Δs[0]? = some Δ0) (hΔl : Δs.length = ss.length + 1) (hl0 : sub l (l0 ++ l1)) (hops : Hpsm P c n opl φ m l0 l1 A G Δs ss 0 opl φ sts)
    {Δe : List Own} (hΔe : Δs[ss.length]? = some Δe) (hend : ∀ a w H L X, Gh.le G H → St c H w (Δe ++ X) → Tm n a L → sub L l0 → got H L opl φ X → wpList P opl.toArray Q (opl.drop m) a w) : (Code.region id opl.toArray dr).wp P Q a w := by
  have hB := am_back hAm
  have hml' : m ≤ opl.length := by simpa using hml
  have hdst : ∀ i, i < m → ∀ d, dstOf opl i = some d → (∀ j, j < i → dstOf opl j ≠ some d) ∧ ∀ p ∈ l0, p.1 ≠ d := by
    intro i hi d hd
    simp only [hdB, List.all_eq_true, List.mem_range] at hH
    have := hH i hi
    rw [hd] at this
    simp only [Bool.and_eq_true, List.all_eq_true, List.mem_range, bne_iff_ne, ne_eq, Bool.not_eq_true'] at this
    refine ⟨this.1, fun p hp e => ?_⟩
    have := this.2 p hp
    rw [e] at this; simp at this
  simp only [stB, Bool.and_eq_true, List.all_eq_true, List.mem_range] at hS
  obtain ⟨hS1, hS2⟩ := hS
  have hss : ∀ k j, ss[k]? = some j → j < m ∧ sts[j]? = some [k] := by
    intro k j hk
    have hlt := (List.getElem?_eq_some_iff.1 hk).1
    have := hS1 k hlt
    rw [hk] at this
    simp only [Bool.and_eq_true, decide_eq_true_eq, beq_iff_eq] at this
    exact this
  have htl : ∀ (listed : Array Bool) (i : Nat), Ls opl.toArray listed → i ∈ Region.ready .any opl.toArray listed → m ≤ i → ∀ j, j < i → listed.getD j false = true := by
    intro listed i hL hr hi j hj
    obtain ⟨h1, h2, h3⟩ := ready_iff.1 hr
    simp only [tailB, List.all_eq_true, List.mem_range, Bool.or_eq_true, decide_eq_true_eq] at hT
    rcases hT i (by simpa using h1) with hlt | hall
    · omega
    · exact am_ready hAm hL hr (hall j hj)
  let Hd : Array Bool → Act → World → Prop := fun listed a w => (∀ i, m ≤ i → listed.getD i false = false) ∧ ∃ H L s, ∃ (Os : Nat → List Own) (Δ : List Own), s ≤ ss.length ∧ (∀ k j, ss[k]? = some j → (listed.getD j false = true ↔ k < s)) ∧ (∀ i, listed.getD i false = false → Os i = []) ∧ Gh.le G H ∧ Δs[s]? = some Δ ∧
    St c H w (Δ ++ (List.range m).flatMap Os) ∧ Tm n a L ∧ sub L l0 ∧ (∀ i d f, i < m → listed.getD i false = true → dstOf opl i = some d → φ[i]? = some f → ∃ v, lk L d = some v ∧ f L H v (Os i)) ∧ (∀ i, i < m → dstOf opl i = none → Os i = []) ∧ (∀ p ∈ l1, (∀ j, j < m → dstOf opl j = some p.1 → listed.getD j false = false) → lk L p.1 = some p.2)
  let Tl : Array Bool → Act → World → Prop := fun listed a w => ∃ q, m ≤ q ∧ q ≤ opl.length ∧ (∀ i, i < opl.length → (listed.getD i false = true ↔ i < q)) ∧ wpList P opl.toArray Q (opl.drop q) a w
  have hfull : ∀ listed a w, Hd listed a w → (∀ i, i < m → listed.getD i false = true) → wpList P opl.toArray Q (opl.drop m) a w := by
    rintro listed a w ⟨_, H, L, s, Os, Δ, h1, h2, h3, h4, h5, h6, h7, h8, h9, h10, _⟩ hall
    have hs : s = ss.length := by
      rcases Nat.lt_or_ge s ss.length with hlt | hge
      · have hk := List.getElem?_eq_getElem hlt
        have := (h2 s _ hk).1 (hall _ (hss s _ hk).1)
        omega
      · omega
    subst hs
    rw [hΔe] at h5; cases h5
    refine hend a w H L _ h4 h6 h7 h8 ?_
    have := got_of (H := H) (L := L) (Os := Os) opl φ 0 (by omega) (fun i o d f ho hf hd => by
      have him : i < m := by rw [← hφ]; exact (List.getElem?_eq_some_iff.1 hf).1
      rw [Nat.zero_add]
      exact h9 i d f him (hall i him) (by simp only [dstOf, ho, Option.bind_some, hd]) hf) (fun i o ho hi hd => by
      rw [Nat.zero_add]
      exact h10 i (by omega) (by simp only [dstOf, ho, Option.bind_some, hd]))
    rw [hφ, ← List.range_eq_range'] at this; exact this
  have hone : ∀ (q : Nat) (a : Act) (w : World) (listed : Array Bool), q < opl.length → (∀ i, i < opl.length → (listed.getD i false = true ↔ i < q)) → listed.size = opl.length → m ≤ q → wpList P opl.toArray Q (opl.drop q) a w →
      wpOp P opl.toArray Q q (fun a' w' => Hd (listed.setIfInBounds q true) a' w' ∨ Tl (listed.setIfInBounds q true) a' w') a w := by
    intro q a w listed hq hall hls hmq hwp
    have ho : opl[q]? = some opl[q] := List.getElem?_eq_getElem hq
    rw [List.drop_eq_getElem_cons hq] at hwp
    unfold wpList at hwp
    unfold wpOp
    rw [show opl.toArray[q]? = some opl[q] by simpa using ho]
    have hK : ∀ a' w', wpList P opl.toArray Q (opl.drop (q + 1)) a' w' → Hd (listed.setIfInBounds q true) a' w' ∨ Tl (listed.setIfInBounds q true) a' w' := by
      intro a' w' h'
      refine .inr ⟨q + 1, by omega, by omega, fun i hi => ?_, h'⟩
      rw [getD_set (by omega)]
      split
      · next e => subst e; simp
      · next e => rw [hall i hi]; omega
    simp only
    split
    · next hw => rw [if_pos hw] at hwp; exact hwp.imp (Oper.wp_mono hK) (fun h => h)
    · next hw => rw [if_neg hw] at hwp; exact hK _ _ hwp
  have hrep : ∀ i, (Array.replicate opl.toArray.size false).getD i false = false := by
    intro i
    simp only [Array.getD_eq_getD_getElem?, Array.getElem?_replicate]; split <;> rfl
  have hs0 : sub l l0 := sub_left hl0
  have hs1 : ∀ p ∈ l1, lk l p.1 = some p.2 := fun p hp => sub_mem hl0 (List.mem_append_right _ hp)
  refine wp_any hm hB (fun listed a w => Hd listed a w ∨ Tl listed a w) (fun w' hw' => .inl ⟨fun i _ => hrep i, G, l, 0, fun _ => [], Δ0, Nat.zero_le _, fun k j _ => by rw [hrep]; simp, fun _ _ => rfl, Gh.refl _, hΔ0, ?_, K, hs0, fun i d f _ hi => ?_, fun _ _ _ => rfl, fun p hp _ => hs1 p hp⟩) ?_ ?_
  · have : (List.range m).flatMap (fun _ => ([] : List Own)) = [] := by simp
    rw [this, List.append_nil]
    rcases hw' with rfl | rfl
    · exact h
    · exact h.drew
  · rw [hrep] at hi; cases hi
  · rintro listed i a w hL hI hr
    obtain ⟨h1, h2, h3⟩ := ready_iff.1 hr
    have h1' : i < opl.length := by simpa using h1
    obtain ⟨h4, h5⟩ := getD_true_false h2
    have hls : listed.size = opl.length := by rw [hL.size]; simp
    rcases hI with hI | ⟨q, hq1, hq2, hq3, hq4⟩
    · by_cases him : i < m
      · obtain ⟨hA, H, L, s, Os, Δ, g1, g2, g3, g4, g5, g6, g7, g8, g9, g10, g11⟩ := hI
        have ho : opl[i]? = some opl[i] := List.getElem?_eq_getElem h1'
        have hf : φ[i]? = some (φ[i]'(by omega)) := List.getElem?_eq_getElem (by omega)
        have hst2 := hS2 i him
        cases hsti : sts[i]? with
        | none => rw [hsti] at hst2; cases hst2
        | some st =>
          rw [hsti] at hst2
          simp only [List.all_eq_true, List.mem_range, Bool.or_eq_true, List.any_eq_true, List.contains_eq_mem, decide_eq_true_eq] at hst2
          have hsm : s ∈ st := by
            rcases hst2 s (by omega) with hin | ⟨k, hk, hkk⟩
            · exact hin
            · exfalso
              have hkj := List.getElem?_eq_getElem hk
              rw [hkj] at hkk
              simp only [Bool.or_eq_true, Bool.and_eq_true, decide_eq_true_eq] at hkk
              have hiff := g2 k _ hkj
              rcases hkk with ⟨hks, he | he⟩ | ⟨hks, he⟩
              · have := hiff.2 hks
                rw [← he, h5] at this; cases this
              · have := am_listed hAm hL _ _ (by have := (hss k _ hkj).1; omega) (hiff.2 hks) he
                rw [h5] at this; cases this
              · have := hiff.1 (am_ready hAm hL hr he)
                omega
          have hstore : ∀ q, ss[q]? = some i → q = s := by
            intro q hq
            have := (hss q i hq).2
            rw [hsti] at this
            cases this
            exact (List.mem_singleton.1 hsm).symm
          have hcont : ss.contains i = true → ss[s]? = some i := by
            intro hc
            simp only [List.contains_eq_mem, decide_eq_true_eq] at hc
            obtain ⟨q, hq, he⟩ := List.getElem_of_mem hc
            have hq' : ss[q]? = some i := by rw [List.getElem?_eq_getElem hq, he]
            have := hstore q hq'
            subst this; exact hq'
          have hs'le : nxt ss i s ≤ ss.length := by
            unfold nxt
            split
            · next hc =>
              have := (List.getElem?_eq_some_iff.1 (hcont hc)).1
              omega
            · exact g1
          obtain ⟨Δ', hΔ'⟩ : ∃ Δ', Δs[nxt ss i s]? = some Δ' := ⟨_, List.getElem?_eq_getElem (by omega)⟩
          have hacc : sub L (l0 ++ accL A opl m l1 i) := sub_app g8 (sub_of fun p hp => by
            simp only [accL, List.mem_filter, List.all_eq_true, List.mem_range, Bool.or_eq_true, bne_iff_ne, ne_eq] at hp
            refine g11 p hp.1 fun j hj hd => ?_
            rcases hp.2 j hj with h0 | h0
            · exact absurd hd h0
            · cases hl : listed.getD j false with
              | false => rfl
              | true => have := am_listed hAm hL j i (by omega) hl h0; rw [h5] at this; cases this)
          have hh := hops.get ho hf hsti s hsm Δ Δ' g5 (by rw [Nat.zero_add]; exact hΔ') a w H L _ g4 g6 g7 (by rw [Nat.zero_add]; exact hacc) (kn_of _ fun e he hb hlt d f hd hf' => by
            rw [show opl.toArray[i]? = some opl[i] by simp [h1']] at h3
            simp only [Option.map_some, Option.getD_some, Array.all_eq_true'] at h3
            have hon := h3 e (by simpa using he)
            rw [hb] at hon
            obtain ⟨v, k1, k2⟩ := g9 e.on d f hlt (by simpa using hon) hd hf'
            exact ⟨v, _, k1, k2⟩)
          refine wpOp_mono ?_ (wpOp_of_one ho hh)
          rintro a' w' ⟨H', O, k1, k2, k3⟩
          have hperm := (flat_upd (O := O) (g3 i h5) m).1 him
          have hnew : St c H' w' (Δ' ++ (List.range m).flatMap fun q => if q = i then O else Os q) := by
            refine k2.perm ?_
            refine (hperm.append_left Δ').trans ?_
            rw [← List.append_assoc, ← List.append_assoc]
            exact List.perm_append_comm.append_right _
          have hstage : ∀ k j, ss[k]? = some j → ((listed.setIfInBounds i true).getD j false = true ↔ k < nxt ss i s) := by
            intro k j hk
            rw [getD_set h4]
            unfold nxt
            split
            · next e =>
              subst e
              have hks := hstore k hk
              have hc : ss.contains i = true := by simp only [List.contains_eq_mem, decide_eq_true_eq]; exact List.mem_of_getElem? hk
              rw [if_pos hc]; simp; omega
            · next e =>
              rw [g2 k j hk]
              split
              · next hc =>
                have hsi := hcont hc
                constructor
                · omega
                · intro hlt
                  have : k ≠ s := by rintro rfl; rw [hsi] at hk; exact e (Option.some.inj hk)
                  omega
              · rfl
          cases hod : opl[i].dst with
          | none =>
            rw [hod] at k3
            obtain ⟨k4, rfl⟩ := k3
            refine .inl ⟨fun j hj => ?_, H', L, nxt ss i s, (fun q => if q = i then [] else Os q), Δ', hs'le, hstage, fun j hj => ?_, Gh.trans g4 k1, hΔ', hnew, k4, g8, fun j d f hj hjl hd hf' => ?_, fun j hj hd => ?_, fun p hp hpl => g11 p hp fun j hj hd => ?_⟩
            · rw [getD_set h4, if_neg (by omega)]; exact hA j hj
            · simp only
              split
              · rfl
              · next e => rw [getD_set h4, if_neg (fun e' => e e'.symm)] at hj; exact g3 j hj
            · have hne : j ≠ i := by rintro rfl; simp only [dstOf, ho, Option.bind_some, hod] at hd; cases hd
              rw [getD_set h4, if_neg (fun e => hne e.symm)] at hjl
              obtain ⟨v, q1, q2⟩ := g9 j d f hj hjl hd hf'
              simp only [if_neg hne]
              exact ⟨v, q1, hmono.get f (List.mem_of_getElem? hf') _ _ _ _ _ _ (Lle.refl _) k1 q2⟩
            · simp only
              split
              · rfl
              · exact g10 j hj hd
            · have hne : j ≠ i := by rintro rfl; simp only [dstOf, ho, Option.bind_some, hod] at hd; cases hd
              have := hpl j hj hd
              rw [getD_set h4, if_neg (fun e => hne e.symm)] at this; exact this
          | some d =>
            rw [hod] at k3
            obtain ⟨v, k4, k5⟩ := k3
            have hd : dstOf opl i = some d := by simp only [dstOf, ho, Option.bind_some, hod]
            obtain ⟨hdj, hdl⟩ := hdst i him d hd
            have hdd : ∀ j, j < m → j ≠ i → ∀ d2, dstOf opl j = some d2 → d ≠ d2 := by
              rintro j hj e d2 hd2 rfl
              rcases Nat.lt_or_gt_of_ne e with hlt | hlt
              · exact hdj j hlt hd2
              · exact (hdst j hj d hd2).1 i hlt hd
            refine .inl ⟨fun j hj => ?_, H', (d, v) :: L, nxt ss i s, (fun q => if q = i then O else Os q), Δ', hs'le, hstage, fun j hj => ?_, Gh.trans g4 k1, hΔ', hnew, k4, sub_cons g8 hdl, fun j d2 f hj hjl hd2 hf' => ?_, fun j hj hd2 => ?_, fun p hp hpl => ?_⟩
            · rw [getD_set h4, if_neg (by omega)]; exact hA j hj
            · simp only
              split
              · next e => subst e; rw [getD_set h4, if_pos rfl] at hj; cases hj
              · next e => rw [getD_set h4, if_neg (fun e' => e e'.symm)] at hj; exact g3 j hj
            · by_cases e : i = j
              · subst e
                rw [hd] at hd2; cases hd2
                rw [hf] at hf'; cases hf'
                simp only [if_true]
                exact ⟨v, by simp [lk], hind _ (List.mem_of_getElem? hf) _ _ _ _ _ k5⟩
              · rw [getD_set h4, if_neg e] at hjl
                obtain ⟨v2, q3, q4⟩ := g9 j d2 f hj hjl hd2 hf'
                have ene : ¬ j = i := fun e' => e e'.symm
                simp only [if_neg ene]
                refine ⟨v2, ?_, hind f (List.mem_of_getElem? hf') _ _ _ _ _ (hmono.get f (List.mem_of_getElem? hf') _ _ _ _ _ _ (Lle.refl _) k1 q4)⟩
                have hne : d ≠ d2 := hdd j hj ene d2 hd2
                simp only [lk]
                rw [show Nat.beq d d2 = false by
                  cases hbq : Nat.beq d d2 with
                  | false => rfl
                  | true => exact absurd (Nat.eq_of_beq_eq_true hbq) hne]
                exact q3
            · simp only
              split
              · next e => subst e; rw [hd] at hd2; cases hd2
              · exact g10 j hj hd2
            · have hne : d ≠ p.1 := by
                rintro rfl
                have := hpl i him hd
                rw [getD_set h4, if_pos rfl] at this; cases this
              simp only [lk]
              rw [show Nat.beq d p.1 = false by
                cases hbq : Nat.beq d p.1 with
                | false => rfl
                | true => exact absurd (Nat.eq_of_beq_eq_true hbq) hne]
              refine g11 p hp fun j hj hdj2 => ?_
              have hji : j ≠ i := by rintro rfl; rw [hd] at hdj2; cases hdj2; exact hne rfl
              have := hpl j hj hdj2
              rw [getD_set h4, if_neg (fun e => hji e.symm)] at this; exact this
      · have hall := htl listed i hL hr (by omega)
        have hi : i = m := by
          rcases Nat.lt_or_ge m i with hlt | hge
          · have := hall m hlt
            rw [hI.1 m (Nat.le_refl _)] at this; cases this
          · omega
        subst hi
        refine hone i a w listed h1' (fun j hj => ?_) hls (Nat.le_refl _) (hfull listed a w hI hall)
        constructor
        · intro hjl
          rcases Nat.lt_or_ge j i with hlt | hge
          · exact hlt
          · rw [hI.1 j hge] at hjl; cases hjl
        · exact hall j
    · have hi : i = q := by
        rcases Nat.lt_trichotomy i q with hlt | he | hgt
        · rw [(hq3 i h1').2 hlt] at h5; cases h5
        · exact he
        · have := htl listed i hL hr (by omega) q hgt
          rw [hq3 q (by omega)] at this; omega
      subst hi
      exact hone i a w listed h1' hq3 hls hq1 hq4
  · rintro listed a w hL hI hr
    have hall := all_listed hB hL.size hr
    rcases hI with hI | ⟨q, hq1, hq2, hq3, hq4⟩
    · have hmm : m = opl.length := by
        rcases Nat.lt_or_ge m opl.length with hlt | hge
        · have := hall m (by simp; omega)
          rw [hI.1 m (Nat.le_refl _)] at this; cases this
        · omega
      have := hfull listed a w hI (fun i hi => hall i (by simp; omega))
      rw [hmm, List.drop_length] at this; exact this
    · have hqq : q = opl.length := by
        rcases Nat.lt_or_ge q opl.length with hlt | hge
        · have := hall q (by simp; omega)
          rw [hq3 q hlt] at this; omega
        · omega
      rw [hqq, List.drop_length] at hq4; exact hq4
end
end Go.Sy
