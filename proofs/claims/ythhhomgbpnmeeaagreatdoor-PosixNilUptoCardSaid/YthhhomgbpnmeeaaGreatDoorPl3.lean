/- Plain laws of the plain functions: PosixNil comes to true. The data of the operation is of at most 2 to the 30 bytes. -/
import Derived.Test.YthhhomgbpnmeeaaGreatDoorPl2
set_option linter.all false
namespace Go.Proofs.YthhhomgbpnmeeaaGreatDoor
open Go Go.Sy
set_option maxRecDepth 100000
theorem runeW_pos (s : ByteArray) (q : Nat) : 1 ≤ runeW s q := by
  unfold runeW Utf8.decode
  simp only
  repeat' split
  all_goals simp
theorem enc_size (r : Int) (h : 128 ≤ r) : 2 ≤ (Utf8.encode r).size ∧ (Utf8.encode r).size ≤ 4 ∧ ((Utf8.encode r).size = 2 → (sAt (Utf8.encode r) 1).toNat ≠ 0) := by
  unfold Utf8.encode
  simp only
  obtain ⟨c, hc⟩ : ∃ c, (if Utf8.valid r = true then r.toNat else Utf8.runeError) = c := ⟨_, rfl⟩
  have hc128 : 128 ≤ c := by
    rw [← hc]; split
    · omega
    · decide
  rw [hc, if_neg (by omega)]
  split
  · refine ⟨Nat.le_refl 2, show (2 : Nat) ≤ 4 by omega, fun _ => ?_⟩
    show (UInt8.ofNat (128 + c % 64)).toNat ≠ 0
    simp only [UInt8.toNat_ofNat']
    omega
  · split
    · exact ⟨show 2 ≤ 3 by omega, show 3 ≤ 4 by omega, fun h => absurd (show (3 : Nat) = 2 from h) (by omega)⟩
    · exact ⟨show 2 ≤ 4 by omega, Nat.le_refl 4, fun h => absurd (show (4 : Nat) = 2 from h) (by omega)⟩
abbrev C2 : ByteArray := ⟨#[47, 0]⟩
theorem indexRune_tot (c : Int) (h0 : 0 ≤ c) : Tot (m335 C2 c) fun _ => True := by
  unfold m335
  rw [if_pos (by simpa using h0)]
  unfold m335_j_663
  refine Tot.ite (fun _ => ⟨_, rfl, trivial⟩) (fun h1 => ?_)
  have h1 := dec_f h1
  refine Tot.ite (fun _ => ?_) (fun _ => ?_)
  · have : Lp.run (m335_l_24 C2) 0 = some (.inl ()) := by kernel_rfl
    rw [this]
    exact ⟨_, rfl, trivial⟩
  · have hv : Tot (m353 c) fun _ => True := by
      unfold m353 m353_j_6
      repeat' first | exact Tot.mk trivial | refine Tot.ite (fun _ => ?_) (fun _ => ?_)
    refine Tot.bind hv fun v _ => ?_
    refine Tot.ite (fun _ => Tot.mk trivial) (fun _ => ?_)
    refine Tot.bind (P := fun _ => True) ?_ ?_
    · refine Tot.run (fun _ => True) (fun _ => 0) trivial (by decide) fun s _ => ?_
      obtain ⟨e1, e2, e3⟩ := enc_size c (by omega)
      obtain ⟨e, he⟩ : ∃ e, Utf8.encode c = e := ⟨_, rfl⟩
      rw [he] at e1 e2 e3
      unfold m335_l_452
      rw [he, wr_id (n := (e.size : Int) - 1) (by omega) (by omega)]
      have hC : C2.size = 2 := rfl
      rw [hC]
      refine Tot.ite (fun h2 => ?_) (fun _ => Tot.mk trivial)
      have h2 := dec_t h2
      have hz : e.size = 2 := by omega
      rw [hz]
      refine Tot.gd (by decide) (Tot.gd (by decide) ?_)
      have hne : (((sAt C2 ((2 : Nat) - 1 : Int)).toNat : Int) != ((sAt e ((2 : Nat) - 1 : Int)).toNat : Int)) = true := by
        have h3 := e3 hz
        have h4 : ((sAt C2 ((2 : Nat) - 1 : Int)).toNat : Int) = 0 := rfl
        rw [h4]
        have h5 : ((2 : Nat) - 1 : Int) = 1 := rfl
        rw [h5]
        simp only [bne_iff_ne, ne_eq]
        omega
      rw [if_pos hne]
      refine Tot.gd (by decide) (Tot.gd (by decide) ?_)
      have hs : ∀ b, m352 (sSub C2 (wr (((2 : Nat) : Int) - 1 + 1)) ((2 : Nat) : Int)) b = some (-1) := by
        intro b
        unfold m352 m341
        rcases firstIdx_bd (sSub C2 (wr (((2 : Nat) : Int) - 1 + 1)) ((2 : Nat) : Int)) ((b.toNat : Int)).toNat.toUInt8 with h | ⟨h6, h7⟩
        · rw [h]; rfl
        · have : (sSub C2 (wr (((2 : Nat) : Int) - 1 + 1)) ((2 : Nat) : Int)).size = 0 := by kernel_rfl
          omega
      rw [hs]
      exact ⟨_, rfl, trivial⟩
    · rintro (_ | q) _
      · exact Tot.mk trivial
      · exact Tot.mk trivial
theorem valid_tot (s : ByteArray) : Tot (m247 s) fun _ => True := by
  unfold m247
  refine Tot.ite (fun _ => ?_) (fun _ => Tot.mk trivial)
  refine Tot.ite (fun hsz => ?_) (fun _ => Tot.mk trivial)
  have hsz := dec_t hsz
  refine Tot.ite (fun _ => ?_) (fun _ => Tot.mk trivial)
  refine Tot.ite (fun _ => ?_) (fun _ => Tot.mk trivial)
  refine Tot.bind (P := fun _ => True) ?_ fun _ _ => Tot.mk trivial
  unfold m294
  refine Tot.bind (P := fun _ => True) ?_ fun _ _ => Tot.mk trivial
  have key : Tot (m316_j_79 s C2 ()) fun _ => True := by
    unfold m316_j_79
    refine Tot.bind (P := fun _ => True) ?_ ?_
    · refine Tot.run (fun _ => True) (fun q => s.size - q) trivial (by omega) fun q _ => ?_
      unfold m316_l_71
      refine Tot.ite (fun h => ?_) (fun _ => Tot.mk trivial)
      have h := dec_t h
      refine Tot.bind (indexRune_tot _ (by unfold runeAt; omega)) fun _ _ => ?_
      refine Tot.ite (fun _ => Tot.mk trivial) (fun _ => Tot.mk ⟨trivial, ?_⟩)
      have := runeW_pos s q
      omega
    · rintro (_ | q) _
      · exact Tot.mk trivial
      · exact Tot.mk trivial
  unfold m316
  rw [if_neg (by
    intro h
    have h : C2.toList = (⟨#[]⟩ : ByteArray).toList := by simpa [sEq] using h
    rw [ByteArray.toList_eq, ByteArray.toList_eq] at h
    cases h), if_neg (by decide)]
  refine Tot.bind (P := fun _ => True) ⟨_, rfl, trivial⟩ fun b _ => ?_
  refine Tot.ite (fun _ => ?_) (fun _ => key)
  obtain ⟨ac, has⟩ : ∃ ac, m337 C2 = some (ac, true) := ⟨((m337 C2).getD default).1, by kernel_rfl⟩
  refine Tot.bindE has ?_
  refine Tot.ite (fun _ => ?_) (fun h => by cases h)
  refine Tot.bind (P := fun _ => True) ?_ ?_
  · refine Tot.run (fun i => 0 ≤ i) (fun i => (s.size - i).toNat) (Int.le_refl 0) (by omega) fun i hi => ?_
    unfold m316_l_109
    refine Tot.ite (fun h => ?_) (fun _ => Tot.mk trivial)
    have h := dec_t h
    refine Tot.gd (inr_t hi h) ?_
    have hlt := UInt8.toNat_lt (sAt s i)
    unfold m338
    refine Tot.bind (P := fun _ => True) (Tot.gd (inr_t (by omega) (by omega)) (Tot.mk trivial)) fun b _ => ?_
    rw [wr_id (n := i + 1) (by omega) (by omega)]
    exact Tot.ite (fun _ => Tot.mk trivial) (fun _ => Tot.mk ⟨by omega, by omega⟩)
  · rintro (_ | q) _
    · exact Tot.mk trivial
    · exact Tot.mk trivial
theorem one_tot (s : ByteArray) (i : Int) : Tot (m181 s i) fun _ => True := by
  unfold m181
  refine Tot.bind (valid_tot s) fun b _ => ?_
  repeat' first | exact Tot.mk trivial | refine Tot.ite (fun _ => ?_) (fun _ => ?_)
end Go.Proofs.YthhhomgbpnmeeaaGreatDoor
