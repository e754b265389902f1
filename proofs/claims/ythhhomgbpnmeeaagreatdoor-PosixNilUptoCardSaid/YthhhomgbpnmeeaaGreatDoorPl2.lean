/- Plain laws of the plain functions: PosixNil comes to true. The data of the operation is of at most 2 to the 30 bytes. -/
import Derived.Test.YthhhomgbpnmeeaaGreatDoorPl1
set_option linter.all false
namespace Go.Proofs.YthhhomgbpnmeeaaGreatDoor
open Go Go.Sy
set_option maxRecDepth 100000
/-- one byte as a string -/
abbrev s1 (b : UInt8) : ByteArray := ⟨#[b]⟩
theorem index1 (s : ByteArray) (b : UInt8) : ∃ i, m298 s (s1 b) = some i ∧ (i = -1 ∨ (0 ≤ i ∧ i < s.size)) := by
  have h1 : ((s1 b).size : Int) = 1 := rfl
  have h := firstIdx_bd s (((sAt (s1 b) 0).toNat : Int)).toNat.toUInt8
  unfold m298 m322
  by_cases e : sEq (s1 b) s = true
  · rw [h1]; simp only [e, m322_j_20]
    exact ⟨0, rfl, .inr ⟨by omega, by
      have : (s1 b).toList = s.toList := by simpa [sEq] using e
      rw [ByteArray.toList_eq, ByteArray.toList_eq] at this
      have h2 : (s1 b).data.toList.length = s.data.toList.length := by rw [this]
      have h3 : s.data.toList.length = s.size := by simp
      have h4 : (s1 b).data.toList.length = 1 := rfl
      omega⟩⟩
  · rw [h1]
    simp only [e, m322_j_20, m341, h1]
    exact ⟨_, rfl, h⟩
theorem contains1 (s : ByteArray) (b : UInt8) : ∃ r, m254 s (s1 b) = some r := by
  obtain ⟨i, h, _⟩ := index1 s b
  unfold m254
  rw [h]
  exact ⟨_, rfl⟩
theorem mem_st {α} {xs : List α} {i : Int} {y x : α} (h : x ∈ st xs i y) : x ∈ xs ∨ x = y := by
  unfold st at h
  rcases List.mem_or_eq_of_mem_set h with h | h
  · exact .inl h
  · exact .inr h
theorem split1 (s : ByteArray) (b : UInt8) (hs : s.size ≤ 65536) : Tot (m255 s (s1 b)) fun l => l.length ≤ s.size + 1 ∧ ∀ x ∈ l, x.size ≤ s.size := by
  have hp : ((s1 b).size : Int) = 1 := rfl
  have hcb := countB_bd s (((sAt (s1 b) 0).toNat : Int)).toNat.toUInt8
  have hcnt : ∃ k : Int, m324 s (s1 b) = some k ∧ 0 ≤ k ∧ k ≤ s.size := ⟨_, rfl, hcb⟩
  obtain ⟨k, hk, hk0, hk1⟩ := hcnt
  unfold m255 m299
  refine Tot.bind (P := fun l => l.length ≤ s.size + 1 ∧ ∀ x ∈ l, x.size ≤ s.size) ?_ fun l hl => Tot.mk hl
  rw [if_neg (by decide), if_neg (by
    intro h
    have : (s1 b).toList = (⟨#[]⟩ : ByteArray).toList := by simpa [sEq] using h
    rw [ByteArray.toList_eq, ByteArray.toList_eq] at this
    cases this), if_pos (by decide), hk]
  show Tot (m299_j_54 s (s1 b) 0 (wr (k + 1))) _
  rw [wr_id (n := k + 1) (by omega) (by omega)]
  unfold m299_j_54
  rw [wr_id (n := (s.size : Int) + 1) (by omega) (by omega)]
  obtain ⟨n, hn⟩ : ∃ n : Int, imin (k + 1) ((s.size : Int) + 1) = n := ⟨_, rfl⟩
  have hn1 : 1 ≤ n ∧ n ≤ (s.size : Int) + 1 := by
    rw [← hn]; unfold imin; split <;> omega
  rw [hn]
  refine Tot.gd (mkB_t (by omega) (by omega)) ?_
  refine Tot.bind (P := fun (p : List ByteArray × ByteArray × Int) => p.1.length = n.toNat ∧ 0 ≤ p.2.2 ∧ p.2.2 ≤ n - 1 ∧ p.2.1.size ≤ s.size ∧ ∀ x ∈ p.1, x.size ≤ s.size) ?_ ?_
  · refine Tot.run (fun (p : List ByteArray × ByteArray × Int) => p.1.length = n.toNat ∧ 0 ≤ p.2.2 ∧ p.2.2 ≤ n - 1 ∧ p.2.1.size ≤ s.size ∧ ∀ x ∈ p.1, x.size ≤ s.size) (fun p => (n - p.2.2).toNat) ⟨by simp, by show (0 : Int) ≤ 0; omega, by show (0 : Int) ≤ n - 1; omega, Nat.le_refl _, fun x hx => by
      have := List.eq_of_mem_replicate hx
      subst this; simp⟩ (by show (n - 0).toNat < _; omega) ?_
    rintro ⟨a, t, i⟩ ⟨h1, h2, h3, h4, h5⟩
    simp only at h1 h2 h3 h4 h5
    unfold m299_l_40
    simp only
    rw [wr_id (n := (s.size : Int) + 1) (by omega) (by omega), hn, wr_id (n := n - 1) (by omega) (by omega)]
    refine Tot.ite (fun hc => ?_) (fun hc => Tot.mk ⟨h1, h2, h3, h4, h5⟩)
    have hc := dec_t hc
    obtain ⟨m, hm, hmb⟩ := index1 t b
    refine Tot.bindE hm ?_
    refine Tot.ite (fun hd => Tot.mk ⟨h1, h2, h3, h4, h5⟩) (fun hd => ?_)
    have hd := dec_f hd
    have hmb : 0 ≤ m ∧ m < t.size := by
      rcases hmb with h | h
      · omega
      · exact h
    rw [hp, wr_id (n := m + 0) (by omega) (by omega), wr_id (n := m + 1) (by omega) (by omega), wr_id (n := i + 1) (by omega) (by omega)]
    refine Tot.gd (sl2_i (by omega) (by omega) (by omega)) (Tot.gd (inr_t h2 (by rw [h1]; omega)) (Tot.gd (sl2_i (by omega) (by omega) (by omega)) (Tot.mk ⟨⟨?_, ?_, ?_, ?_, ?_⟩, ?_⟩)))
    · simp only [st_len, h1]
    · simp only; omega
    · simp only; omega
    · have := sSub_size (s := t) (lo := m + 1) (hi := t.size) (by omega) (by omega) (by omega)
      simp only; omega
    · intro x hx
      rcases mem_st hx with hx | rfl
      · exact h5 x hx
      · have := sSub_size (s := t) (lo := 0) (hi := m + 0) (by omega) (by omega) (by omega)
        omega
    · simp only; omega
  · rintro ⟨a, t, i⟩ ⟨h1, h2, h3, h4, h5⟩
    simp only at h1 h2 h3 h4 h5
    simp only [wr_id (n := i + 1) (by omega) (by omega)]
    refine Tot.gd (inr_t h2 (by rw [h1]; omega)) (Tot.gd (sl2_i (by omega) (by omega) (by rw [st_len, h1]; omega)) (Tot.mk ⟨?_, ?_⟩))
    · have := lSub_len (xs := st a i t) (lo := 0) (hi := i + 1) (by omega) (by omega) (by rw [st_len, h1]; omega)
      omega
    · intro x hx
      have hx : x ∈ st a i t := by
        unfold lSub at hx
        exact List.mem_of_mem_take (List.mem_of_mem_drop hx)
      rcases mem_st hx with hx | rfl
      · exact h5 x hx
      · exact h4
/-- pieces of a path or a link -/
theorem pieces_tot (s : ByteArray) (most : Int) (whole : Bool) (hm : most ≤ 65536) : Tot (m190 s most whole) fun r => (r.2 = 0 → r.1.length ≤ 65537 ∧ (∀ x ∈ r.1, x.size ≤ 24) ∧ 0 < s.size ∧ (s.size : Int) ≤ most) ∧ (r.2 ≠ 0 → r.1 = []) := by
  unfold m190
  refine Tot.ite (fun _ => Tot.mk ⟨fun h => absurd h (by decide), fun _ => rfl⟩) (fun h1 => Tot.ite (fun _ => Tot.mk ⟨fun h => absurd h (by decide), fun _ => rfl⟩) (fun h2 => ?_))
  have h2 := dec_f h2
  have hpos : 0 < s.size := by
    rcases Nat.eq_zero_or_pos s.size with h | h
    · have : s = ⟨#[]⟩ := by
        obtain ⟨d⟩ := s
        have : d.size = 0 := h
        rw [Array.eq_empty_of_size_eq_zero this]
      subst this
      exact absurd h1 (by simp [sEq])
    · exact h
  have key : ∀ e : Bool, Tot (m190_j_87 s e) fun r => (r.2 = 0 → r.1.length ≤ 65537 ∧ (∀ x ∈ r.1, x.size ≤ 24) ∧ 0 < s.size ∧ (s.size : Int) ≤ most) ∧ (r.2 ≠ 0 → r.1 = []) := by
    intro e
    unfold m190_j_87
    refine Tot.ite (fun _ => Tot.mk ⟨fun h => absurd h (by decide), fun _ => rfl⟩) (fun _ => ?_)
    refine Tot.bind (split1 s 47 (by omega)) ?_
    rintro l ⟨hl, _⟩
    refine Tot.bind (P := fun (y : List ByteArray ⊕ (List ByteArray × Int)) => match y with | .inl p => p.length ≤ 65537 ∧ ∀ x ∈ p, x.size ≤ 24 | .inr r => r.2 ≠ 0 ∧ r.1 = []) ?_ ?_
    · refine Tot.run (fun (p : List ByteArray × Int) => 0 ≤ p.2 ∧ p.2 ≤ l.length ∧ p.1.length ≤ p.2 ∧ ∀ x ∈ p.1, x.size ≤ 24) (fun p => (l.length - p.2).toNat) ⟨by show (0 : Int) ≤ 0; omega, by show (0 : Int) ≤ _; omega, by simp, by simp⟩ (by show (↑l.length - (0 : Int)).toNat < _; omega) ?_
      rintro ⟨a, i⟩ ⟨q1, q2, q3, q4⟩
      simp only at q1 q2 q3 q4
      unfold m190_l_72
      simp only
      refine Tot.ite (fun hc => ?_) (fun hc => Tot.mk ⟨by omega, q4⟩)
      have hc := dec_t hc
      refine Tot.gd (inr_t q1 hc) (Tot.ite (fun _ => Tot.mk ⟨by decide, rfl⟩) (fun h24 => ?_))
      have h24 := dec_f h24
      rw [wr_id (n := i + 1) (by omega) (by omega)]
      refine Tot.ite (fun _ => Tot.gd (roomB_t (by simp only [List.length_cons, List.length_nil]; omega)) (Tot.mk ⟨⟨by simp only; omega, by simp only; omega, by simp only [List.length_append, List.length_cons, List.length_nil]; omega, ?_⟩, by simp only; omega⟩)) (fun _ => Tot.mk ⟨⟨by simp only; omega, by simp only; omega, by simp only; omega, q4⟩, by simp only; omega⟩)
      intro x hx
      rcases List.mem_append.1 hx with hx | hx
      · exact q4 x hx
      · rw [List.mem_singleton] at hx; subst hx; omega
    · rintro (p | r) hp
      · exact Tot.mk ⟨fun _ => ⟨hp.1, hp.2, hpos, by omega⟩, fun h => absurd rfl h⟩
      · exact Tot.mk ⟨fun h => absurd h hp.1, fun _ => hp.2⟩
  obtain ⟨c, hc⟩ := contains1 s 0
  refine Tot.bindE hc ?_
  refine Tot.ite (fun _ => key _) (fun _ => Tot.ite (fun _ => Tot.gd (inr_t (by decide) (by omega)) (key _)) (fun _ => key _))
theorem path_tot (s : ByteArray) : Tot (m230 s) fun r => (r.2 = 0 → r.1.length ≤ 65537 ∧ ∀ x ∈ r.1, x.size ≤ 24) ∧ (r.2 ≠ 0 → r.1 = []) := by
  unfold m230
  exact Tot.bind (pieces_tot s 256 true (by decide)) fun r hr => Tot.mk ⟨fun h => ⟨(hr.1 h).1, (hr.1 h).2.1⟩, hr.2⟩
theorem target_tot (s : ByteArray) : Tot (m116 s) fun r => r.2.2 = 0 → r.2.1.length ≤ 65537 ∧ (∀ x ∈ r.2.1, x.size ≤ 24) ∧ 0 < s.size ∧ s.size ≤ 64 := by
  unfold m116
  refine Tot.bind (pieces_tot s 64 false (by decide)) fun r hr => ?_
  refine Tot.ite (fun h => Tot.mk fun h' => absurd h' (bne_t h)) (fun h => ?_)
  obtain ⟨h1, h2, h3, h4⟩ := hr.1 (bne_f h)
  exact Tot.gd (inr_t (by decide) (by omega)) (Tot.mk fun _ => ⟨h1, h2, h3, by omega⟩)
end Go.Proofs.YthhhomgbpnmeeaaGreatDoor
