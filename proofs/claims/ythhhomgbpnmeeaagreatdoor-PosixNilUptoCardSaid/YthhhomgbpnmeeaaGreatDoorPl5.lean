/- Plain laws of the plain functions: PosixNil comes to true. The data of the operation is of at most 2 to the 30 bytes. -/
import Derived.Test.YthhhomgbpnmeeaaGreatDoorPl4
set_option linter.all false
namespace Go.Proofs.YthhhomgbpnmeeaaGreatDoor
open Go Go.Sy
set_option maxRecDepth 100000
theorem get_tot (us : List T56) (uid : Int) (hl : us.length ≤ 65536) : Tot (m85 us uid) fun u => u.Uid = uid ∧ (u ∈ us ∨ ((∀ x ∈ us, x.Uid ≠ uid) ∧ u = ⟨uid, 0, 0, -1, -1⟩)) := by
  unfold m85
  refine Tot.bind (P := fun (y : Unit ⊕ T56) => match y with | .inl _ => ∀ x ∈ us, x.Uid ≠ uid | .inr u => u.Uid = uid ∧ u ∈ us) ?_ ?_
  · refine Tot.run (fun i => 0 ≤ i ∧ i ≤ us.length ∧ ∀ x ∈ us.take i.toNat, x.Uid ≠ uid) (fun i => (us.length - i).toNat) ⟨by omega, by omega, by simp⟩ (by omega) ?_
    rintro i ⟨h0, h1, h2⟩
    unfold m85_l_36
    refine Tot.ite (fun hc => ?_) (fun hc => Tot.mk ?_)
    · have hc := dec_t hc
      refine Tot.gd (inr_t h0 hc) ?_
      obtain ⟨n, rfl⟩ : ∃ n : Nat, i = n := ⟨i.toNat, (Int.toNat_of_nonneg h0).symm⟩
      have hn : n < us.length := by omega
      rw [gt_nat hn]
      refine Tot.ite (fun h => Tot.mk ⟨beq_t h, List.getElem_mem _⟩) (fun h => ?_)
      rw [wr_id (n := (n : Int) + 1) (by omega) (by omega)]
      refine Tot.mk ⟨⟨by omega, by omega, ?_⟩, by omega⟩
      rw [show ((n : Int) + 1).toNat = n + 1 by omega, List.take_succ_eq_append_getElem hn]
      intro x hx
      rcases List.mem_append.1 hx with hx | hx
      · exact h2 x hx
      · rw [List.mem_singleton] at hx; subst hx; exact beq_f h
    · have hc := dec_f hc
      have : i.toNat = us.length := by omega
      rw [this, List.take_length] at h2
      exact h2
  · rintro (_ | u) h
    · exact Tot.mk ⟨rfl, .inr ⟨h, rfl⟩⟩
    · exact Tot.mk ⟨h.1, .inl h.2⟩
theorem drop_cons {α} {xs : List α} {n : Nat} (h : n < xs.length) : xs.drop n = xs[n] :: xs.drop (n + 1) := List.drop_eq_getElem_cons h
theorem delf_tot (us : List T56) (u : T56) (hl : us.length ≤ 65536) : m140_w_141 us u = some (us.filter fun x => !(x.Uid == u.Uid)) := by
  have h141 : ∀ a b : T56, m141 a b = some (a.Uid == b.Uid) := fun _ _ => rfl
  have hidx : Tot (m220_141 us u) fun i => (i = -1 ∧ ∀ x ∈ us, x.Uid ≠ u.Uid) ∨ (0 ≤ i ∧ i < us.length ∧ (∀ x ∈ us.take i.toNat, x.Uid ≠ u.Uid) ∧ ∀ (h : i.toNat < us.length), us[i.toNat].Uid = u.Uid) := by
    unfold m220_141
    refine Tot.bind (P := fun (y : Unit ⊕ Int) => match y with | .inl _ => ∀ x ∈ us, x.Uid ≠ u.Uid | .inr i => 0 ≤ i ∧ i < us.length ∧ (∀ x ∈ us.take i.toNat, x.Uid ≠ u.Uid) ∧ ∀ (h : i.toNat < us.length), us[i.toNat].Uid = u.Uid) ?_ ?_
    · refine Tot.run (fun i => 0 ≤ i ∧ i ≤ us.length ∧ ∀ x ∈ us.take i.toNat, x.Uid ≠ u.Uid) (fun i => (us.length - i).toNat) ⟨by omega, by omega, by simp⟩ (by omega) ?_
      rintro i ⟨h0, h1, h2⟩
      unfold m220_141_l_32
      refine Tot.ite (fun hc => ?_) (fun hc => Tot.mk ?_)
      · have hc := dec_t hc
        refine Tot.gd (inr_t h0 hc) ?_
        obtain ⟨n, rfl⟩ : ∃ n : Nat, i = n := ⟨i.toNat, (Int.toNat_of_nonneg h0).symm⟩
        have hn : n < us.length := by omega
        rw [gt_nat hn]
        refine Tot.bindE (h141 _ _) ?_
        refine Tot.ite (fun h => Tot.mk ⟨h0, hc, h2, fun _ => beq_t h⟩) (fun h => ?_)
        rw [wr_id (n := (n : Int) + 1) (by omega) (by omega)]
        refine Tot.mk ⟨⟨by omega, by omega, ?_⟩, by omega⟩
        rw [show ((n : Int) + 1).toNat = n + 1 by omega, List.take_succ_eq_append_getElem hn]
        intro x hx
        rcases List.mem_append.1 hx with hx | hx
        · exact h2 x hx
        · rw [List.mem_singleton] at hx; subst hx; exact beq_f h
      · have hc := dec_f hc
        have : i.toNat = us.length := by omega
        rw [this, List.take_length] at h2
        exact h2
    · rintro (_ | i) h
      · exact Tot.mk (.inl ⟨rfl, h⟩)
      · exact Tot.mk (.inr h)
  suffices h : Tot (m140_w_141 us u) fun r => r = us.filter fun x => !(x.Uid == u.Uid) by
    obtain ⟨r, h1, rfl⟩ := h; exact h1
  unfold m140_w_141
  refine Tot.bind hidx ?_
  rintro i (⟨rfl, hi⟩ | ⟨h0, h1, h2, h3⟩)
  · rw [if_pos (by decide)]
    refine Tot.mk ?_
    rw [List.filter_eq_self.2]
    intro x hx
    simpa using hi x hx
  · rw [if_neg (by simp; omega)]
    obtain ⟨n, rfl⟩ : ∃ n : Nat, i = n := ⟨i.toNat, (Int.toNat_of_nonneg h0).symm⟩
    have hn : n < us.length := by omega
    rw [Int.toNat_natCast] at h2
    have h3 : us[n].Uid = u.Uid := h3 hn
    rw [wr_id (n := (n : Int) + 1) (by omega) (by omega)]
    refine Tot.bind (P := fun (p : List T56 × Int) => p.1.length = us.length ∧ 0 ≤ p.2 ∧ p.2 ≤ us.length ∧ p.1.take p.2.toNat = us.filter fun x => !(x.Uid == u.Uid)) ?_ ?_
    · refine Tot.run (fun (p : List T56 × Int × Int) => p.1.length = us.length ∧ 0 ≤ p.2.1 ∧ p.2.1 < p.2.2 ∧ p.2.2 ≤ us.length ∧ p.1.take p.2.1.toNat = (us.take p.2.2.toNat).filter (fun x => !(x.Uid == u.Uid)) ∧ p.1.drop p.2.2.toNat = us.drop p.2.2.toNat) (fun p => (us.length - p.2.2).toNat) ⟨rfl, h0, by show (n : Int) < n + 1; omega, by show (n : Int) + 1 ≤ _; omega, ?_, rfl⟩ (by show (↑us.length - ((n : Int) + 1)).toNat < _; omega) ?_
      · show us.take ((n : Int)).toNat = (us.take ((n : Int) + 1).toNat).filter _
        rw [Int.toNat_natCast, show ((n : Int) + 1).toNat = n + 1 by omega, List.take_succ_eq_append_getElem hn, List.filter_append, List.filter_eq_self.2 (fun x hx => by simpa using h2 x hx)]
        simp [h3]
      · rintro ⟨a, i, j⟩ ⟨q1, q2, q3, q4, q5, q6⟩
        simp only at q1 q2 q3 q4 q5 q6
        unfold m140_w_141_l_51
        simp only
        obtain ⟨i, rfl⟩ : ∃ k : Nat, i = k := ⟨i.toNat, (Int.toNat_of_nonneg q2).symm⟩
        obtain ⟨j, rfl⟩ : ∃ k : Nat, j = k := ⟨j.toNat, (Int.toNat_of_nonneg (by omega)).symm⟩
        rw [Int.toNat_natCast] at q5 q6
        rw [Int.toNat_natCast] at q5
        refine Tot.ite (fun hc => ?_) (fun hc => Tot.mk ⟨q1, q2, by omega, ?_⟩)
        · have hc := dec_t hc
          have hj : j < us.length := by omega
          have hja : j < a.length := by omega
          refine Tot.gd (inr_t (by omega) hc) (Tot.bindE (h141 _ _) ?_)
          have hgj : gt a (j : Int) = us[j] := by
            rw [gt_nat hja]
            have e1 := drop_cons hja
            have e2 := drop_cons hj
            rw [q6, e2] at e1
            exact (List.cons.inj e1).1.symm
          have hdr : a.drop (j + 1) = us.drop (j + 1) := by
            have e1 := drop_cons hja
            have e2 := drop_cons hj
            rw [q6, e2] at e1
            exact (List.cons.inj e1).2.symm
          rw [hgj, wr_id (n := (j : Int) + 1) (by omega) (by omega), wr_id (n := (i : Int) + 1) (by omega) (by omega)]
          refine Tot.ite (fun h => Tot.gd (inr_t q2 (by omega)) (Tot.mk ⟨⟨by simp only [st_len, q1], by simp only; omega, by simp only; omega, by simp only; omega, ?_, ?_⟩, by simp only; omega⟩)) (fun h => Tot.mk ⟨⟨q1, q2, by simp only; omega, by simp only; omega, ?_, ?_⟩, by simp only; omega⟩)
          · simp only
            rw [show ((i : Int) + 1).toNat = i + 1 by omega, show ((j : Int) + 1).toNat = j + 1 by omega, List.take_succ_eq_append_getElem (l := us) hj, List.filter_append, ← q5]
            have hia : i < a.length := by omega
            have e1 : (st a (i : Int) us[j]).take (i + 1) = a.take i ++ [us[j]] := by
              unfold st
              rw [Int.toNat_natCast, List.take_succ_eq_append_getElem (by simpa using hia), List.getElem_set_self]
              congr 1
              rw [List.take_set_of_le (Nat.le_refl i)]
            rw [e1]
            congr 1
            have : us[j].Uid ≠ u.Uid := by simpa using h
            simp [this]
          · simp only
            rw [show ((j : Int) + 1).toNat = j + 1 by omega]
            unfold st
            rw [Int.toNat_natCast, List.drop_set_of_lt (by omega)]
            exact hdr
          · simp only
            rw [show ((j : Int) + 1).toNat = j + 1 by omega, List.take_succ_eq_append_getElem (l := us) hj, List.filter_append, Int.toNat_natCast, ← q5]
            have : us[j].Uid = u.Uid := by simpa using h
            simp [this]
          · simp only
            rw [show ((j : Int) + 1).toNat = j + 1 by omega]
            exact hdr
        · have hc := dec_f hc
          simp only
          have : j = us.length := by omega
          rw [Int.toNat_natCast, q5, this, List.take_length]
    · rintro ⟨a, i⟩ ⟨q1, q2, q3, q4⟩
      simp only at q1 q2 q3 q4 ⊢
      have hov : ∀ m : Nat, i.toNat + m = a.length → (ovr a i.toNat (List.replicate m (⟨0, 0, 0, 0, 0⟩ : T56))).length = a.length := fun m hm => ovr_rep (by omega)
      have hm : i.toNat + ((a.length : Int).toNat - i.toNat) = a.length := by omega
      refine Tot.gd (sl2_i q2 (by omega) (by omega)) (Tot.gd (sl2_i (by omega) q2 (by rw [hov _ hm]; omega)) (Tot.mk ?_))
      rw [← q4]
      unfold lSub ovr
      rw [show (0 : Int).toNat = 0 from rfl, List.drop_zero, List.append_assoc, List.take_append_of_le_length (by simp only [List.length_take]; omega), List.take_take, Nat.min_self]
theorem insB_t {n : Nat} {i : Int} (h0 : 0 ≤ i) (h1 : i ≤ n) (h2 : n ≤ 1000000) : insB n i 1 = true := by
  unfold insB maxS
  simp only [Bool.and_eq_true, decide_eq_true_eq]
  exact ⟨⟨⟨h0, h1⟩, rfl⟩, by omega⟩
/-- the middle of two places -/
theorem mid_eq {a : Int} (h0 : 0 ≤ a) (h1 : a ≤ 1073741824) : wr (shr .u64 (IntKind.u64.wrap (wr a)) 1) = a / 2 := by
  rw [wr_id (n := a) (by omega) (by omega)]
  have e : IntKind.u64.wrap a = a := by simp [IntKind.wrap, IntKind.bits, IntKind.signed]; omega
  rw [e]
  have e2 : shr .u64 a 1 = a / 2 := by
    show a.fdiv (2 ^ (min (1 : Int).toNat 64)) = a / 2
    rw [show (2 : Int) ^ (min (1 : Int).toNat 64) = 2 by decide, Int.fdiv_eq_ediv_of_nonneg _ (by omega)]
  rw [e2, wr_id (by omega) (by omega)]
theorem search_tot (us : List T56) (uid : Int) (hl : us.length ≤ 65536) (hu : 0 ≤ uid ∧ uid ≤ 65535) (hb : ∀ x ∈ us, 0 ≤ x.Uid ∧ x.Uid ≤ 65535) (hs : us.Pairwise fun a b => a.Uid < b.Uid) :
    Tot (m142_143 us uid) fun r => 0 ≤ r.1 ∧ r.1 ≤ us.length ∧ (∀ x ∈ us.take r.1.toNat, x.Uid < uid) ∧ ∀ x ∈ us.drop r.1.toNat, uid ≤ x.Uid := by
  have h143 : ∀ x ∈ us, m143 x uid = some (x.Uid - uid) := by
    intro x hx
    have := hb x hx
    unfold m143
    rw [wr_id (by omega) (by omega)]
  have hmono : ∀ (i j : Nat) (hi : i < us.length) (hj : j < us.length), i ≤ j → us[i].Uid ≤ us[j].Uid := by
    intro i j hi hj hij
    rcases Nat.lt_or_ge i j with h | h
    · have := List.pairwise_iff_getElem.1 hs i j hi hj h
      omega
    · have : i = j := by omega
      subst this; omega
  unfold m142_143
  refine Tot.bind (P := fun (i : Int) => 0 ≤ i ∧ i ≤ us.length ∧ (∀ x ∈ us.take i.toNat, x.Uid < uid) ∧ ∀ x ∈ us.drop i.toNat, uid ≤ x.Uid) ?_ ?_
  · refine Tot.run (R := Int) (fun (p : Int × Int) => 0 ≤ p.1 ∧ p.1 ≤ p.2 ∧ p.2 ≤ us.length ∧ (∀ x ∈ us.take p.1.toNat, x.Uid < uid) ∧ ∀ x ∈ us.drop p.2.toNat, uid ≤ x.Uid) (fun p => (p.2 - p.1).toNat) ⟨by show (0 : Int) ≤ 0; omega, by show (0 : Int) ≤ _; omega, by show (us.length : Int) ≤ _; omega, by simp, by simp⟩ (by show ((us.length : Int) - 0).toNat < _; omega) ?_
    rintro ⟨i, j⟩ ⟨q1, q2, q3, q4, q5⟩
    simp only at q1 q2 q3 q4 q5
    unfold m142_143_l_32
    simp only
    refine Tot.ite (fun hc => ?_) (fun hc => Tot.mk ?_)
    · have hc := dec_t hc
      rw [mid_eq (a := i + j) (by omega) (by omega)]
      obtain ⟨k, hk⟩ : ∃ k : Nat, (i + j) / 2 = k := ⟨((i + j) / 2).toNat, by omega⟩
      rw [hk]
      have hkl : k < us.length := by omega
      refine Tot.gd (inr_t (by omega) (by omega)) ?_
      rw [gt_nat hkl]
      refine Tot.bindE (h143 _ (List.getElem_mem _)) ?_
      rw [wr_id (n := (k : Int) + 1) (by omega) (by omega)]
      refine Tot.ite (fun h => Tot.mk ⟨⟨by simp only; omega, by simp only; omega, q3, ?_, q5⟩, by simp only; omega⟩) (fun h => Tot.mk ⟨⟨q1, by simp only; omega, by simp only; omega, q4, ?_⟩, by simp only; omega⟩)
      · have h := dec_t h
        simp only
        rw [show ((k : Int) + 1).toNat = k + 1 by omega]
        intro x hx
        obtain ⟨q, hq, rfl⟩ := List.getElem_of_mem hx
        simp only [List.length_take] at hq
        rw [List.getElem_take]
        have := hmono q k (by omega) hkl (by omega)
        omega
      · have h := dec_f h
        simp only
        rw [Int.toNat_natCast]
        intro x hx
        obtain ⟨q, hq, rfl⟩ := List.getElem_of_mem hx
        simp only [List.length_drop] at hq
        rw [List.getElem_drop]
        have := hmono k (k + q) hkl (by omega) (by omega)
        omega
    · have hc := dec_f hc
      have : i = j := by omega
      subst this
      exact ⟨q1, q3, q4, q5⟩
  · rintro i ⟨q1, q2, q3, q4⟩
    refine Tot.ite (fun hc => ?_) (fun _ => Tot.mk ⟨q1, q2, q3, q4⟩)
    have hc := dec_t hc
    exact Tot.gd (inr_t q1 hc) (Tot.bindE (h143 _ (gt_mem q1 hc)) (Tot.mk ⟨q1, q2, q3, q4⟩))
/-- what a usage has to be, to be put into a list: all but idle -/
def okN (u : T56) : Prop := (0 ≤ u.Uid ∧ u.Uid ≤ 65535) ∧ (0 ≤ u.Blocks ∧ u.Blocks ≤ 65535) ∧ (0 ≤ u.Inodes ∧ u.Inodes ≤ 65535) ∧ (-1 ≤ u.MaxBlocks ∧ u.MaxBlocks ≤ 65535) ∧ (-1 ≤ u.MaxInodes ∧ u.MaxInodes ≤ 65535)
theorem with_tot (us : List T56) (u : T56) (h : UV us) (hu : okN u) : Tot (m87 us u) fun r => r.2 = 0 → UV r.1 := by
  obtain ⟨v1, v2, v3⟩ := h
  unfold m87
  refine Tot.bindE (show m39 us = some us from if_pos (roomB_t (by omega))) ?_
  refine Tot.bindE (delf_tot us u (by omega)) ?_
  refine Tot.bindE (m139_eq u) ?_
  obtain ⟨fs, hfs⟩ : ∃ fs, us.filter (fun x => !(x.Uid == u.Uid)) = fs := ⟨_, rfl⟩
  rw [hfs]
  have hfl : fs.length ≤ 8 := by rw [← hfs]; exact Nat.le_trans (List.length_filter_le _ _) v1
  have hfm : ∀ x ∈ fs, okU x ∧ x.Uid ≠ u.Uid := by
    intro x hx
    rw [← hfs, List.mem_filter] at hx
    exact ⟨v2 x hx.1, by simpa using hx.2⟩
  have hfp : fs.Pairwise fun a b => a.Uid < b.Uid := by rw [← hfs]; exact v3.filter _
  have hend : ∀ l : List T56, (l.length ≤ 8 → UV l) → Tot (m87_j_36 l) fun r => r.2 = 0 → UV r.1 := by
    intro l hl
    unfold m87_j_36
    refine Tot.ite (fun _ => Tot.mk fun h => absurd h (by decide)) (fun h => Tot.mk fun _ => hl ?_)
    have := dec_f h; omega
  refine Tot.ite (fun hid => ?_) (fun _ => hend fs fun _ => ⟨hfl, fun x hx => (hfm x hx).1, hfp⟩)
  refine Tot.bind (search_tot fs u.Uid (by omega) hu.1 (fun x hx => (hfm x hx).1.1) hfp) ?_
  rintro ⟨i, f⟩ ⟨q1, q2, q3, q4⟩
  simp only at q1 q2 q3 q4
  have hins : m144 fs i [u] = some (ins fs i [u]) := by
    unfold m144
    exact if_pos (insB_t q1 q2 (by omega))
  refine Tot.bindE hins (hend _ fun hl => ⟨hl, ?_, ?_⟩)
  · intro x hx
    simp only [ins, List.append_assoc, List.mem_append, List.mem_singleton] at hx
    rcases hx with hx | rfl | hx
    · exact (hfm x (List.mem_of_mem_take hx)).1
    · obtain ⟨a, b, c, d, e⟩ := hu
      refine ⟨a, b, c, d, e, ?_⟩
      rintro ⟨g1, g2, g3, g4⟩
      simp [g1, g2, g3, g4] at hid
    · exact (hfm x (List.mem_of_mem_drop hx)).1
  · simp only [ins, List.append_assoc]
    rw [List.pairwise_append]
    refine ⟨hfp.sublist (List.take_sublist _ _), ?_, ?_⟩
    · rw [List.singleton_append, List.pairwise_cons]
      refine ⟨fun x hx => ?_, hfp.sublist (List.drop_sublist _ _)⟩
      have h1 := q4 x hx
      have h2 := (hfm x (List.mem_of_mem_drop hx)).2
      omega
    · intro x hx y hy
      have h1 := q3 x hx
      rw [List.singleton_append, List.mem_cons] at hy
      rcases hy with rfl | hy
      · exact h1
      · have h2 := q4 y hy
        omega
theorem okU_get {us : List T56} (h : UV us) {uid : Int} (hu : 0 ≤ uid ∧ uid ≤ 65535) {u : T56} (hg : u.Uid = uid ∧ (u ∈ us ∨ ((∀ x ∈ us, x.Uid ≠ uid) ∧ u = ⟨uid, 0, 0, -1, -1⟩))) : okN u := by
  rcases hg.2 with h1 | ⟨_, rfl⟩
  · have := h.2.1 u h1
    exact ⟨this.1, this.2.1, this.2.2.1, this.2.2.2.1, this.2.2.2.2.1⟩
  · exact ⟨hu, (by decide : (0 : Int) ≤ 0 ∧ (0 : Int) ≤ 65535), (by decide : (0 : Int) ≤ 0 ∧ (0 : Int) ≤ 65535), (by decide : (-1 : Int) ≤ -1 ∧ (-1 : Int) ≤ 65535), (by decide : (-1 : Int) ≤ -1 ∧ (-1 : Int) ≤ 65535)⟩
theorem charge_tot (us : List T56) (uid b i : Int) (h : UV us) : Tot (m46 us uid b i) fun r => r.2 = 0 → UV r.1 := by
  unfold m46
  refine Tot.bindE (check_ok h) ?_
  rw [if_neg (by decide)]
  have key : ∀ e : Bool, (e = false → 0 ≤ uid ∧ uid ≤ 65535 ∧ -65535 ≤ b ∧ b ≤ 65535 ∧ -65535 ≤ i ∧ i ≤ 65535) → Tot (m46_j_103 us uid b i e) fun r => r.2 = 0 → UV r.1 := by
    intro e he
    unfold m46_j_103
    refine Tot.ite (fun _ => Tot.mk fun h => absurd h (by decide)) (fun hb => ?_)
    obtain ⟨u0, u1, b0, b1, i0, i1⟩ := he hb
    refine Tot.bind (get_tot us uid (by have := h.1; omega)) fun u hu => ?_
    have hN := okU_get h ⟨u0, u1⟩ hu
    obtain ⟨n1, n2, n3, n4, n5⟩ := hN
    rw [wr_id (n := u.Blocks + b) (by omega) (by omega), wr_id (n := u.Inodes + i) (by omega) (by omega)]
    have key2 : ∀ e : Bool, (e = false → 0 ≤ u.Blocks + b ∧ u.Blocks + b ≤ 65535 ∧ 0 ≤ u.Inodes + i ∧ u.Inodes + i ≤ 65535) → Tot (m46_j_96 us b i u e) fun r => r.2 = 0 → UV r.1 := by
      intro e he
      unfold m46_j_96
      refine Tot.ite (fun _ => Tot.mk fun h => absurd h (by decide)) (fun hb => ?_)
      obtain ⟨c0, c1, d0, d1⟩ := he hb
      rw [wr_id (n := u.Blocks + b) (by omega) (by omega), wr_id (n := u.Inodes + i) (by omega) (by omega)]
      have h86 : ∀ a b c, Tot (m86 a b c) fun _ => True := by
        intro a b c
        unfold m86
        repeat' first | exact Tot.mk trivial | refine Tot.ite (fun _ => ?_) (fun _ => ?_)
      have key3 : ∀ e : Bool, Tot (m46_j_89 us b i u e) fun r => r.2 = 0 → UV r.1 := by
        intro e
        unfold m46_j_89
        refine Tot.ite (fun _ => Tot.mk fun h => absurd h (by decide)) (fun _ => ?_)
        rw [wr_id (n := u.Blocks + b) (by omega) (by omega), wr_id (n := u.Inodes + i) (by omega) (by omega)]
        exact Tot.bind (with_tot us _ h ⟨n1, ⟨c0, c1⟩, ⟨d0, d1⟩, n4, n5⟩) fun r hr => Tot.mk hr
      refine Tot.bind (h86 _ _ _) fun x _ => Tot.ite (fun _ => key3 _) (fun _ => ?_)
      exact Tot.bind (h86 _ _ _) fun x _ => key3 _
    refine Tot.bindE (m84_eq _ _) (Tot.ite (fun _ => key2 _ fun h => by cases h) (fun hx => ?_))
    refine Tot.bindE (m84_eq _ _) (key2 _ fun hy => ?_)
    simp only [Bool.not_eq_false', Bool.and_eq_true, decide_eq_true_eq] at hx hy
    omega
  refine Tot.bindE (m84_eq _ _) (Tot.ite (fun _ => key _ fun h => by cases h) (fun hx => ?_))
  refine Tot.bindE (m84_eq _ _) (Tot.ite (fun _ => key _ fun h => by cases h) (fun hy => ?_))
  refine Tot.bindE (m84_eq _ _) (key _ fun hz => ?_)
  simp only [Bool.not_eq_false', Bool.and_eq_true, decide_eq_true_eq] at hx hy hz
  omega
theorem limit_tot (us : List T56) (uid b i : Int) (h : UV us) : Tot (m168 us uid b i) fun r => r.2 = 0 → UV r.1 := by
  unfold m168
  refine Tot.bindE (check_ok h) ?_
  rw [if_neg (by decide)]
  have key : ∀ e : Bool, (e = false → 0 ≤ uid ∧ uid ≤ 65535 ∧ -1 ≤ b ∧ b ≤ 65535 ∧ -1 ≤ i ∧ i ≤ 65535) → Tot (m168_j_47 us uid b i e) fun r => r.2 = 0 → UV r.1 := by
    intro e he
    unfold m168_j_47
    refine Tot.ite (fun _ => Tot.mk fun h => absurd h (by decide)) (fun hb => ?_)
    obtain ⟨u0, u1, b0, b1, i0, i1⟩ := he hb
    refine Tot.bind (get_tot us uid (by have := h.1; omega)) fun u hu => ?_
    have hN := okU_get h ⟨u0, u1⟩ hu
    obtain ⟨n1, n2, n3, n4, n5⟩ := hN
    exact Tot.bind (with_tot us _ h ⟨n1, n2, n3, ⟨b0, b1⟩, ⟨i0, i1⟩⟩) fun r hr => Tot.mk hr
  refine Tot.bindE (m84_eq _ _) (Tot.ite (fun _ => key _ fun h => by cases h) (fun hx => ?_))
  refine Tot.bindE (m84_eq _ _) (Tot.ite (fun _ => key _ fun h => by cases h) (fun hy => ?_))
  refine Tot.bindE (m84_eq _ _) (key _ fun hz => ?_)
  simp only [Bool.not_eq_false', Bool.and_eq_true, decide_eq_true_eq] at hx hy hz
  omega
end Go.Proofs.YthhhomgbpnmeeaaGreatDoor
