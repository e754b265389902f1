/- Plain laws of the plain functions: PosixNil comes to true. The data of the operation is of at most 2 to the 30 bytes. -/
import Derived.Test.YthhhomgbpnmeeaaGreatDoorPl5
set_option linter.all false
namespace Go.Proofs.YthhhomgbpnmeeaaGreatDoor
open Go Go.Sy
set_option maxRecDepth 100000
def zs : List UInt8 := List.replicate 16 0
def ino0 : T84 := ⟨0, 0, 0, 0, 0, 0, [0, 0], ByteArray.empty, [], []⟩
def root0 : T84 := ⟨2, 493, 0, 0, 2, 0, [0, 0], ByteArray.empty, [], []⟩
def inos0 : List T84 := ino0 :: root0 :: List.replicate 23 ino0
def t0 : T103 := ⟨⟨3, 0, zs, [⟨0, 0, 1, -1, -1⟩], inos0, List.replicate 25 [], List.replicate 3 []⟩, List.replicate 8 ⟨false, 0, 0, 0⟩⟩
theorem new0 : m17 3 [(0 : UInt8), (0 : UInt8), (0 : UInt8), (0 : UInt8), (0 : UInt8), (0 : UInt8), (0 : UInt8), (0 : UInt8), (0 : UInt8), (0 : UInt8), (0 : UInt8), (0 : UInt8), (0 : UInt8), (0 : UInt8), (0 : UInt8), (0 : UInt8)] = some (some t0, 0) := by kernel_rfl
theorem copy0 : m18 t0 = some t0 := by kernel_rfl
theorem find0 (nm : ByteArray) : m231 zs [] nm = some (0, 4) := by kernel_rfl
theorem may0 (o : T45) (i k : Int) (h : inr i 25 = true) : Tot (m155 t0 o i k) fun _ => True := by
  unfold m155
  refine Tot.gd h ?_
  refine Tot.ite (fun _ => .mk trivial) fun _ => ?_
  refine Tot.ite (fun _ => .mk trivial) fun _ => ?_
  refine Tot.ite (fun _ => .mk trivial) fun _ => .mk trivial
/-- where a walk on the empty tree can end -/
def Wk (r : T210 × Int) : Prop := r.2 ≠ 0 ∨ r = (⟨1, 0, ByteArray.empty⟩, 0) ∨ ∃ nm, nm.size ≤ 24 ∧ r = (⟨0, 1, nm⟩, 0)
theorem walk0 (o : T45) (p : ByteArray) (fol : Bool) : Tot (m159 t0 o p fol) Wk := by
  unfold m159
  refine Tot.bind (path_tot p) fun r hr => ?_
  refine Tot.ite (fun h => .mk (.inl (bne_t h))) fun h => ?_
  have h0 : r.2 = 0 := bne_f h
  obtain ⟨hl, hz⟩ := hr.1 h0
  refine Tot.bind (P := fun y => match y with | .inl q => q = [1] | .inr q => Wk q) (Tot.run (fun s => s.1 = [1] ∧ ∀ x ∈ s.2, x.size ≤ 24) (fun s => s.2.length) ⟨rfl, hz⟩ (by show r.1.length < _; omega) ?_) ?_
  · rintro ⟨sk, ps⟩ ⟨hs, hz⟩
    simp only at hs hz
    subst hs
    unfold m159_l_500
    cases ps with
    | nil =>
      refine Tot.ite (fun h => ?_) fun h => .mk (by simp)
      simp at h
    | cons q rest =>
      refine Tot.ite (fun h => ?_) fun h => ?_
      case refine_2 => simp at h
      refine Tot.gd (by rfl) ?_
      refine Tot.gd (inr_t (by omega) (by simp)) ?_
      have e1 : lSub (q :: rest) 1 ((q :: rest).length : Int) = rest := by
        simp [lSub]
      refine Tot.gd (by simp [sl2]; try omega) ?_
      simp only [e1]
      refine Tot.bind (may0 o _ 1 (by rfl)) fun x _ => ?_
      refine Tot.ite (fun h => .mk (.inl (by simp))) fun h => ?_
      have hz2 : ∀ x ∈ rest, x.size ≤ 24 := fun x hx => hz x (List.mem_cons_of_mem _ hx)
      refine Tot.ite (fun h => .mk ⟨⟨rfl, hz2⟩, by simp⟩) fun h => ?_
      refine Tot.ite (fun h => .gd (by rfl) (.mk ⟨⟨rfl, hz2⟩, by simp⟩)) fun h => ?_
      refine Tot.gd (by rfl) ?_
      refine Tot.bindE (a := (0, 4)) (find0 _) ?_
      refine Tot.ite (fun h => ?_) fun h => by simp at h
      refine Tot.ite (fun h => .mk ?_) fun h => .mk (.inl (by simp))
      refine .inr (.inr ⟨q, hz q (List.mem_cons_self ..), rfl⟩)
  · intro y hy
    cases y with
    | inl q =>
      simp only at hy
      subst hy
      exact Tot.gd (by rfl) (.mk (.inr (.inl rfl)))
    | inr q => exact .mk hy
/-- found: an error, or the root -/
theorem found0 (o : T45) (p : ByteArray) (fol : Bool) : Tot (m153 t0 o p fol) fun r => r.2 ≠ 0 ∨ r = (⟨1, 0, ByteArray.empty⟩, 0) := by
  unfold m153
  refine Tot.bind (walk0 o p fol) fun r hr => ?_
  refine Tot.ite (fun h => ?_) fun h => .mk (.inl (beq_f h))
  refine Tot.ite (fun h' => .mk (.inl (by simp))) fun h' => .mk ?_
  rcases hr with h1 | h1 | ⟨nm, hn, h1⟩
  · exact .inl h1
  · exact .inr h1
  · subst h1; simp at h'
theorem fresh0 (o : T45) (p : ByteArray) : Tot (m150 t0 o p) fun r => r.2 ≠ 0 ∨ ∃ nm, nm.size ≤ 24 ∧ r = (⟨0, 1, nm⟩, 0) := by
  unfold m150
  refine Tot.bind (walk0 o p _) fun r hr => ?_
  refine Tot.ite (fun h => .mk (.inl (bne_t h))) fun h => ?_
  refine Tot.ite (fun h' => .mk (.inl (by simp))) fun h' => ?_
  rcases hr with h1 | h1 | ⟨nm, hn, h1⟩
  · exact absurd (bne_f h) h1
  · subst h1; simp at h'
  · subst h1
    refine Tot.bind (may0 o _ 2 (by rfl)) fun x _ => ?_
    refine Tot.ite (fun _ => .mk (.inl (by simp))) fun _ => .mk (.inr ⟨nm, hn, rfl⟩)
theorem usable0 (o : T45) (k : Int) : Tot (m165 t0 o k) fun r => r.2 ≠ 0 ∨ r = (1, 0) := by
  unfold m165
  refine Tot.bind (found0 o _ _) fun r hr => ?_
  have hj : ∀ b, Tot (m165_j_19 r b) fun r => r.2 ≠ 0 ∨ r = (1, 0) := by
    intro b
    unfold m165_j_19
    refine Tot.ite (fun _ => .mk (.inl (by simp))) fun _ => .mk ?_
    rcases hr with h1 | h1
    · exact .inl h1
    · subst h1; exact .inr rfl
  refine Tot.ite (fun h => ?_) fun h => hj _
  rcases hr with h1 | h1
  · exact absurd (beq_t h) h1
  · subst h1
    exact Tot.bind (may0 o _ k (by rfl)) fun x _ => hj _
theorem regular0 (o : T45) (k : Int) : Tot (m163 t0 o k) fun r => r.2 ≠ 0 := by
  unfold m163
  refine Tot.bind (found0 o _ _) fun r hr => ?_
  refine Tot.ite (fun h => .mk (bne_t h)) fun h => ?_
  rcases hr with h1 | h1
  · exact absurd (bne_f h) h1
  · subst h1
    refine Tot.gd (by rfl) ?_
    refine Tot.ite (fun h => .mk (by simp)) fun h => absurd h (by decide +kernel)
end Go.Proofs.YthhhomgbpnmeeaaGreatDoor
