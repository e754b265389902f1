/- Plain laws of the plain functions: PosixNil comes to true. The data of the operation is of at most 2 to the 30 bytes. -/
import Derived.Test.YthhhomgbpnmeeaaGreatDoorPl3
set_option linter.all false
namespace Go.Proofs.YthhhomgbpnmeeaaGreatDoor
open Go Go.Sy
set_option maxRecDepth 100000
theorem gt_nat {α} [Inhabited α] {xs : List α} {i : Nat} (h : i < xs.length) : gt xs (i : Int) = xs[i] := by
  simp [gt, List.getD_eq_getElem?_getD, List.getElem?_eq_getElem h]
theorem gt_mem {α} [Inhabited α] {xs : List α} {i : Int} (h0 : 0 ≤ i) (h : i < xs.length) : gt xs i ∈ xs := by
  obtain ⟨n, rfl⟩ : ∃ n : Nat, i = n := ⟨i.toNat, (Int.toNat_of_nonneg h0).symm⟩
  rw [gt_nat (by omega)]
  exact List.getElem_mem _
/-- is a usage within its bounds, and not idle? -/
def okU (u : T56) : Prop := (0 ≤ u.Uid ∧ u.Uid ≤ 65535) ∧ (0 ≤ u.Blocks ∧ u.Blocks ≤ 65535) ∧ (0 ≤ u.Inodes ∧ u.Inodes ≤ 65535) ∧ (-1 ≤ u.MaxBlocks ∧ u.MaxBlocks ≤ 65535) ∧ (-1 ≤ u.MaxInodes ∧ u.MaxInodes ≤ 65535) ∧ ¬ (u.Blocks = 0 ∧ u.Inodes = 0 ∧ u.MaxBlocks = -1 ∧ u.MaxInodes = -1)
/-- right lists of usages -/
def UV (us : List T56) : Prop := us.length ≤ 8 ∧ (∀ u ∈ us, okU u) ∧ us.Pairwise fun a b => a.Uid < b.Uid
theorem m84_eq (a b : Int) : m84 a b = some (decide (a ≥ b) && decide (a ≤ 65535)) := by
  unfold m84
  by_cases h : a ≥ b <;> simp [h]
theorem m139_eq (u : T56) : m139 u = some ((u.Blocks == 0) && ((u.Inodes == 0) && ((u.MaxBlocks == -1) && (u.MaxInodes == -1)))) := by
  unfold m139
  cases u.Blocks == 0 <;> cases u.Inodes == 0 <;> cases u.MaxBlocks == -1 <;> simp
theorem check_tot (us : List T56) : Tot (m83 us) fun e => (e = 0 → UV us) ∧ (UV us → e = 0) := by
  unfold m83
  refine Tot.ite (fun h => Tot.mk ⟨fun h => absurd h (by decide), fun h' => absurd h'.1 (by have := dec_t h; omega)⟩) (fun h => ?_)
  have hlen := dec_f h
  refine Tot.bind (P := fun (y : Unit ⊕ Int) => match y with | .inl _ => UV us | .inr e => e = 3 ∧ ¬ UV us) ?_ ?_
  · refine Tot.run (fun i => 0 ≤ i ∧ i ≤ us.length ∧ (∀ u ∈ us.take i.toNat, okU u) ∧ (us.take i.toNat).Pairwise fun a b => a.Uid < b.Uid) (fun i => (us.length - i).toNat) ⟨by omega, by omega, by simp, by simp⟩ (by omega) ?_
    rintro i ⟨h0, h1, h2, h3⟩
    unfold m83_l_540
    refine Tot.ite (fun hc => ?_) (fun hc => Tot.mk ?_)
    · have hc := dec_t hc
      refine Tot.gd (inr_t h0 hc) ?_
      obtain ⟨n, rfl⟩ : ∃ n : Nat, i = n := ⟨i.toNat, (Int.toNat_of_nonneg h0).symm⟩
      have hn : n < us.length := by omega
      rw [Int.toNat_natCast] at h2 h3
      obtain ⟨u, hu⟩ : ∃ u, us[n] = u := ⟨_, rfl⟩
      have hgt : gt us (n : Int) = u := by rw [gt_nat hn, hu]
      have htk : us.take (n + 1) = us.take n ++ [u] := by rw [List.take_succ_eq_append_getElem hn, hu]
      simp only [hgt, m84_eq, m139_eq, Option.bind_some, Option.isSome_some, Bool.or_true, Sy.gd, if_true, Sy.nm, ov, Option.getD_some]
      have hprev : (decide ((n : Int) > 0) = true → inr (wr ((n : Int) - 1)) us.length = true) := by
        intro h
        have h := dec_t h
        rw [wr_id (by omega) (by omega)]
        exact inr_t (by omega) (by omega)
      obtain ⟨ok, hok⟩ : ∃ ok, (!(decide (u.Uid ≥ 0) && decide (u.Uid ≤ 65535)) || !(decide (u.Blocks ≥ 0) && decide (u.Blocks ≤ 65535)) || !(decide (u.Inodes ≥ 0) && decide (u.Inodes ≤ 65535)) || !(decide (u.MaxBlocks ≥ -1) && decide (u.MaxBlocks ≤ 65535)) || !(decide (u.MaxInodes ≥ -1) && decide (u.MaxInodes ≤ 65535)) || (u.Blocks == 0 && (u.Inodes == 0 && (u.MaxBlocks == -1 && u.MaxInodes == -1)))) = ok := ⟨_, rfl⟩
      rw [hok]
      have hokU : ok = false ↔ okU u := by
        rw [← hok]
        simp only [Bool.or_eq_false_iff, Bool.not_eq_false', Bool.and_eq_true, decide_eq_true_eq, Bool.and_eq_false_imp, beq_iff_eq, okU]
        constructor
        · rintro ⟨⟨⟨⟨⟨a, b⟩, c⟩, d⟩, e⟩, f⟩
          refine ⟨a, b, c, d, e, ?_⟩
          rintro ⟨g1, g2, g3, g4⟩
          have := f g1 g2 g3
          simp [g4] at this
        · rintro ⟨a, b, c, d, e, f⟩
          refine ⟨⟨⟨⟨⟨a, b⟩, c⟩, d⟩, e⟩, ?_⟩
          intro g1 g2 g3
          simp only [beq_eq_false_iff_ne, ne_eq]
          intro g4
          exact f ⟨g1, g2, g3, g4⟩
      by_cases hcond : (!(!ok && decide ((n : Int) > 0)) || inr (wr ((n : Int) - 1)) us.length) = true
      · rw [if_pos hcond]
        rw [wr_id (n := (n : Int) + 1) (by omega) (by omega)]
        refine Tot.ite (fun hb => Tot.mk ⟨rfl, ?_⟩) (fun hb => Tot.mk ⟨⟨by omega, by omega, ?_, ?_⟩, by omega⟩)
        · rintro ⟨_, v2, v3⟩
          rcases Bool.or_eq_true_iff.1 hb with hb | hb
          · have := hokU.2 (v2 u (by rw [← hu]; exact List.getElem_mem _))
            rw [this] at hb; cases hb
          · rw [Bool.and_eq_true] at hb
            have hp := dec_t hb.1
            have hq := dec_t hb.2
            rw [wr_id (by omega) (by omega)] at hq
            obtain ⟨m, rfl⟩ : ∃ m, n = m + 1 := ⟨n - 1, by omega⟩
            have e : (((m + 1 : Nat) : Int) - 1) = (m : Int) := by omega
            rw [e, gt_nat (by omega)] at hq
            have := List.pairwise_iff_getElem.1 v3 m (m + 1) (by omega) hn (by omega)
            rw [hu] at this
            omega
        · rw [Bool.or_eq_false_iff] at hb
          rw [show ((n : Int) + 1).toNat = n + 1 by omega, htk]
          intro x hx
          rcases List.mem_append.1 hx with hx | hx
          · exact h2 x hx
          · rw [List.mem_singleton] at hx; subst hx; exact hokU.1 hb.1
        · rw [Bool.or_eq_false_iff] at hb
          rw [show ((n : Int) + 1).toNat = n + 1 by omega, htk, List.pairwise_append]
          refine ⟨h3, by simp, fun x hx y hy => ?_⟩
          rw [List.mem_singleton] at hy; subst hy
          obtain ⟨q, hq, rfl⟩ := List.getElem_of_mem hx
          simp only [List.length_take] at hq
          have hn0 : 0 < n := by omega
          have hlast : us[n - 1].Uid < y.Uid := by
            have h4 : decide ((n : Int) > 0) = true := by simpa using hn0
            have h5 := hb.2
            rw [h4, Bool.true_and] at h5
            have h5 := dec_f h5
            rw [wr_id (by omega) (by omega), show ((n : Int) - 1) = ((n - 1 : Nat) : Int) by omega, gt_nat (by omega)] at h5
            omega
          rw [List.getElem_take]
          rcases Nat.lt_or_ge q (n - 1) with hlt | hge
          · have h6 := List.pairwise_iff_getElem.1 h3 q (n - 1) (by simp only [List.length_take]; omega) (by simp only [List.length_take]; omega) hlt
            rw [List.getElem_take, List.getElem_take] at h6
            omega
          · have : q = n - 1 := by omega
            subst this; exact hlast
      · exfalso
        apply hcond
        cases ok
        · cases hd : decide ((n : Int) > 0)
          · simp
          · rw [hprev hd]; simp
        · simp
    · have hc := dec_f hc
      have : i.toNat = us.length := by omega
      rw [this, List.take_length] at h2 h3
      exact ⟨by omega, h2, h3⟩
  · rintro (_ | e) h
    · exact Tot.mk ⟨fun _ => h, fun _ => rfl⟩
    · exact Tot.mk ⟨fun h' => absurd (h.1.symm.trans h') (by decide), fun h' => absurd h' h.2⟩
theorem check_ok {us : List T56} (h : UV us) : m83 us = some 0 := by
  obtain ⟨e, he, _, h2⟩ := check_tot us
  rw [he, h2 h]
end Go.Proofs.YthhhomgbpnmeeaaGreatDoor
