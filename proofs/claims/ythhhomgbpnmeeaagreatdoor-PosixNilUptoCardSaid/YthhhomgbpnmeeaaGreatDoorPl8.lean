/- Plain laws of the plain functions: PosixNil comes to true. The data of the operation is of at most 2 to the 30 bytes. -/
import Derived.Test.YthhhomgbpnmeeaaGreatDoorPl7
set_option linter.all false
namespace Go.Proofs.YthhhomgbpnmeeaaGreatDoor
open Go Go.Sy
set_option maxRecDepth 100000
def rootL (lk : Int) : T84 := ⟨2, 493, 0, 0, lk, 0, [0, 0], ByteArray.empty, [], []⟩
def inosL (lk : Int) (n : T84) : List T84 := ino0 :: rootL lk :: n :: List.replicate 22 ino0
def tL (us : List T56) (lk : Int) (n : T84) : T103 := ⟨⟨3, 0, zs, us, inosL lk n, List.replicate 25 [], List.replicate 3 []⟩, List.replicate 8 ⟨false, 0, 0, 0⟩⟩
theorem Tot.isSome {α : Type} {x : Option α} (h : x.isSome = true) : Tot x Tr := by
  obtain ⟨r, hr⟩ := Option.isSome_iff_exists.mp h
  exact .eq hr trivial
theorem made0 (lk : Int) (o : T45) (n : T84) : Tot (m151 (tL [⟨0, 0, 1, -1, -1⟩] lk ino0) o n) fun r => r.2.2 ≠ 0 ∨ ∃ us, UV us ∧ r = (tL us lk { n with Uid := o.Uid, Gid := o.Gid, Times := [0, 0] }, 2, 0) := by
  unfold m151
  refine Tot.gd (by kernel_rfl) ?_
  refine Tot.bindE (a := 1) (by kernel_rfl) ?_
  refine Tot.ite (fun h => absurd h (by simp)) fun _ => ?_
  refine Tot.bind (chg _ _ _ _ uv0) fun r hr => ?_
  refine Tot.ite (fun h => .mk (.inl (bne_t h))) fun h => ?_
  rcases hr with h1 | ⟨_, us, hu, h1⟩
  · exact absurd (bne_f h) h1.1
  rw [h1]
  refine Tot.gd (by kernel_rfl) (.mk (.inr ⟨us, hu, ?_⟩))
  kernel_rfl
theorem need0 {n : Nat} (h : n ≤ 24) : m120 (wr (0 + wr (2 + (n : Int)))) = some 1 := by
  unfold m120
  rw [wr_id (n := 2 + (n : Int)) (by omega) (by omega), wr_id (n := 0 + (2 + (n : Int))) (by omega) (by omega), wr_id (n := 0 + (2 + (n : Int)) + 440) (by omega) (by omega), wr_id (n := 0 + (2 + (n : Int)) + 440 - 1) (by omega) (by omega)]
  have : (0 + (2 + (n : Int)) + 440 - 1).tdiv 440 = 1 := by rw [Int.tdiv_eq_ediv_of_nonneg (by omega)]; omega
  rw [this]
  rfl
theorem size0 (nm : ByteArray) (i : Int) : m117 [⟨nm, i⟩] = some (wr (0 + wr (2 + (nm.size : Int)))) := by kernel_rfl
/-- a place is laid for the root's entries -/
theorem place0 (us : List T56) (lk sz : Int) (t : List Nat) (a1 a2 a3 a4 a5 a6 : Int) (a7 : List Nat) (a8 : ByteArray) (D : List (List T87)) (hu : UV us) :
    Tot (m285 ⟨⟨3, 0, zs, us, ino0 :: ⟨2, 493, 0, 0, lk, sz, t, ByteArray.empty, [], []⟩ :: ⟨a1, a2, a3, a4, a5, a6, a7, a8, [], []⟩ :: List.replicate 22 ino0, D, List.replicate 3 []⟩, List.replicate 8 ⟨false, 0, 0, 0⟩⟩ 1 [0]) Tr := by
  unfold m285
  refine Tot.gd (by kernel_rfl) ?_
  refine Tot.bind (chg _ _ _ _ hu) fun r hr => ?_
  obtain ⟨rt, re⟩ := r
  refine Tot.ite (fun h => .mk trivial) fun h => ?_
  rcases hr with h1 | ⟨h2, us, hu, h1⟩
  · exact absurd (bne_f h) h1.1
  simp only at h1 h2
  subst h1
  subst h2
  refine Tot.bindE (a := [true, true, true]) (by kernel_rfl) ?_
  refine Tot.bind (P := Tr) ?_ fun y _ => by cases y <;> exact .mk trivial
  exact Tot.isSome (by kernel_rfl)
theorem put0 (us : List T56) (lk : Int) (a1 a2 a3 a4 a5 a6 : Int) (a7 : List Nat) (a8 nm : ByteArray) (hu : UV us) (hn : nm.size ≤ 24) :
    Tot (m152 (tL us lk ⟨a1, a2, a3, a4, a5, a6, a7, a8, [], []⟩) ⟨0, 1, nm⟩ 2) Tr := by
  unfold m152
  refine Tot.gd (by kernel_rfl) ?_
  refine Tot.bind (P := fun r => r.2 ≠ 0 ∨ r = ([⟨nm, 2⟩], 0)) ?_ fun r hr => ?_
  · show Tot (m227 zs [] nm 2) _
    unfold m227
    refine Tot.bindE (a := 0) (by kernel_rfl) ?_
    refine Tot.ite (fun h => absurd h (by simp)) fun _ => ?_
    refine Tot.bindE (a := (0, false)) (by kernel_rfl) ?_
    refine Tot.bind (one_tot _ _) fun b _ => ?_
    refine Tot.ite (fun h => .mk (.inl (by simp))) fun _ => ?_
    refine Tot.ite (fun h => absurd h (by simp)) fun _ => ?_
    refine Tot.bindE (a := 0) (by kernel_rfl) ?_
    refine Tot.ite (fun h => .mk (.inl (by simp))) fun _ => ?_
    refine Tot.bindE (a := []) (by kernel_rfl) ?_
    exact Tot.bindE (a := [⟨nm, 2⟩]) (by kernel_rfl) (.mk (.inr rfl))
  refine Tot.ite (fun h => .mk trivial) fun h => ?_
  rcases hr with h1 | h1
  · exact absurd (bne_f h) h1
  subst h1
  refine Tot.bind (P := Tr) ?_ fun _ _ => .mk trivial
  unfold m228
  refine Tot.gd (by kernel_rfl) ?_
  refine Tot.bindE (a := 0) (by kernel_rfl) ?_
  refine Tot.bindE (size0 _ _) ?_
  refine Tot.bindE (need0 hn) ?_
  refine Tot.bindE (size0 _ _) ?_
  refine Tot.gd (by kernel_rfl) ?_
  refine Tot.bindE (a := ⟨⟨3, 0, zs, us, ino0 :: ⟨2, 493, 0, 0, lk, wr (0 + wr (2 + (nm.size : Int))), [0, 0], ByteArray.empty, [], []⟩ :: ⟨a1, a2, a3, a4, a5, a6, a7, a8, [], []⟩ :: List.replicate 22 ino0, st (List.replicate 25 []) 1 [⟨nm, 2⟩], List.replicate 3 []⟩, List.replicate 8 ⟨false, 0, 0, 0⟩⟩) (by kernel_rfl) ?_
  refine Tot.ite (fun h => absurd h (by simp)) fun _ => ?_
  refine Tot.bindE (a := [0]) (by kernel_rfl) ?_
  refine Tot.ite (fun h => absurd h (by simp)) fun _ => ?_
  exact Tot.bind (place0 us lk _ _ a1 a2 a3 a4 a5 a6 a7 a8 _ hu) fun _ _ => .mk trivial
theorem create_t (o : T45) : Tot (m90 t0 o) Tr := by
  have hl : ∀ (lk : Int) (kd md li sz : Int) (tx nm : ByteArray) (I : List T84), nm.size ≤ 24 → I = inosL lk ino0 → Tot (m90_j_133 t0 o (kd, md, li, sz, tx) (⟨0, 1, nm⟩, 0) I) Tr := by
    intro lk kd md li sz tx nm I hn hI
    subst hI
    unfold m90_j_133
    refine Tot.bind (made0 lk o _) fun r hr => ?_
    refine Tot.ite (fun h => .mk trivial) fun h => ?_
    rcases hr with h1 | ⟨us, hu, h1⟩
    · exact absurd (bne_f h) h1
    rw [h1]
    exact Tot.bind (put0 us lk _ _ _ _ _ _ _ _ nm hu hn) fun _ _ => .mk trivial
  have hj : ∀ kd md li sz tx, Tot (m90_j_165 t0 o (kd, md, li, sz, tx)) Tr := by
    intro kd md li sz tx
    unfold m90_j_165 m149
    refine Tot.bind (P := Tr) (Tot.ite (fun _ => .mk trivial) fun _ => .mk trivial) fun b _ => ?_
    refine Tot.ite (fun h => .mk trivial) fun h => ?_
    refine Tot.bind (fresh0 o _) fun r hr => ?_
    refine Tot.ite (fun h => .mk trivial) fun h => ?_
    rcases hr with h1 | ⟨nm, hn, h1⟩
    · exact absurd (bne_f h) h1
    subst h1
    refine Tot.ite (fun _ => ?_) fun _ => hl 2 _ _ _ _ _ _ _ hn (by kernel_rfl)
    refine Tot.gd (by kernel_rfl) ?_
    refine Tot.ite (fun _ => .mk trivial) fun _ => ?_
    refine Tot.gd (by kernel_rfl) (Tot.gd (by kernel_rfl) ?_)
    exact hl 3 _ _ _ _ _ _ _ hn (by kernel_rfl)
  unfold m90
  refine Tot.ite (fun _ => hj _ _ _ _ _) fun _ => Tot.ite (fun _ => ?_) fun _ => hj _ _ _ _ _
  refine Tot.bind (target_tot _) fun r _ => ?_
  exact Tot.ite (fun _ => .mk trivial) fun _ => hj _ _ _ _ _
/-- what no kind stands for -/
def bad47 : T58 := ⟨47, 0, [], [], ⟨0, 0, 0, 0, 0, 0, 0, 0, [0, 0]⟩, ⟨0, 0, 0, 0, 0⟩⟩
theorem pair_t {α β γ : Type} {x : Option α} {f : α → β} {g : α → γ} (h : Tot x Tr) : Tot (x.bind fun y => some (f y, g y)) Tr := Tot.bind h fun _ _ => .mk trivial
theorem pairG {α : Type} {x : Option α} {e : α → Int} {g : α → T58 → T103 × T58} (h : Tot x Tr) : Tot (x.bind fun y => (m89 (e y)).bind fun z => some (g y z)) Tr := Tot.bind h fun _ _ => errB _ _
theorem run_t (o : T45) (hv : o.Data.length ≤ 1073741824) : Tot (m48 t0 o) Tr := by
  have h167 : ∀ b, Tot (m104_j_161 t0 o b) Tr := fun b => Tot.ite (fun _ => pair_t (ioFd_t o)) fun _ => errB _ _
  have h121 : ∀ b, Tot (m104_j_121 t0 o b) Tr := fun b => Tot.ite (fun _ => errB _ _) fun _ => Tot.bind (get_tot _ _ (by simp [t0])) fun _ _ => .mk trivial
  have h170 : ∀ b, Tot (m104_j_164 t0 o b) Tr := fun b => Tot.ite (fun _ => pair_t (attrs_t o)) fun _ => Tot.ite (fun _ => Tot.ite (fun _ => h121 _) fun _ => h121 _) fun _ =>
    Tot.ite (fun _ => pair_t statfs_t) fun _ => Tot.ite (fun _ => pair_t (open_t o)) fun _ => Tot.ite (fun _ => h167 _) fun _ => h167 _
  have h173 : ∀ b, Tot (m104_j_167 t0 o b) Tr := fun b => Tot.ite (fun _ => pair_t (stat_t o)) fun _ => Tot.ite (fun _ => pair_t (readdir_t o)) fun _ => Tot.ite (fun _ => h170 _) fun _ => h170 _
  have h176 : ∀ b, Tot (m104_j_170 t0 o b) Tr := fun b => Tot.ite (fun _ => pair_t (io_t o)) fun _ => Tot.ite (fun _ => h173 _) fun _ => h173 _
  have h104 : Tot (m104 t0 o) Tr := Tot.ite (fun _ => pair_t (readlink_t o)) fun _ => Tot.ite (fun _ => h176 _) fun _ => h176 _
  have h233 : ∀ b, Tot (m48_j_212 t0 o b) Tr := fun b => Tot.ite (fun _ => pairG (attr_t o hv)) fun _ => Tot.ite (fun _ => pairG (limit_t o)) fun _ =>
    Tot.ite (fun _ => Tot.bind (tick_t _) fun _ _ => Tot.bind (P := Tr) (Tot.ite (fun _ => .mk trivial) fun _ => .mk trivial) fun _ _ => errB _ _) fun _ =>
    Tot.ite (fun _ => pairG (close_t o)) fun _ => pair_t h104
  have h236 : ∀ b, Tot (m48_j_215 t0 o b) Tr := fun b => Tot.ite (fun _ => pairG (set_t o)) fun _ => Tot.ite (fun _ => pairG (chown_t o)) fun _ => Tot.ite (fun _ => h233 _) fun _ => h233 _
  have h239 : ∀ b, Tot (m48_j_218 t0 o b) Tr := fun b => Tot.ite (fun _ => pairG (create_t o)) fun _ => Tot.ite (fun _ => pairG (link_t o)) fun _ => Tot.ite (fun _ => pairG (unlink_t o)) fun _ =>
    Tot.ite (fun _ => pairG (rmdir_t o)) fun _ => Tot.ite (fun _ => pairG (rename_t o)) fun _ => Tot.ite (fun _ => pairG (trunc_t o)) fun _ => Tot.ite (fun _ => pairG (punch_t o)) fun _ =>
    Tot.ite (fun _ => h236 _) fun _ => h236 _
  exact Tot.ite (fun _ => h239 _) fun _ => Tot.ite (fun _ => h239 _) fun _ => h239 _
theorem run_bad (o : T45) (h : ¬ (1 ≤ o.Kind ∧ o.Kind ≤ 30)) : m48 t0 o = some (t0, bad47) := by
  have hk : ∀ k : Int, 1 ≤ k → k ≤ 30 → (o.Kind == k) = false := by
    intro k h1 h2
    simp only [beq_eq_false_iff_ne, ne_eq]
    omega
  unfold m48 m48_j_218 m48_j_215 m48_j_212 m104 m104_j_170 m104_j_167 m104_j_164 m104_j_161
  simp only [hk 1 (by omega) (by omega), hk 2 (by omega) (by omega), hk 3 (by omega) (by omega), hk 4 (by omega) (by omega), hk 5 (by omega) (by omega), hk 6 (by omega) (by omega), hk 7 (by omega) (by omega), hk 8 (by omega) (by omega), hk 9 (by omega) (by omega), hk 10 (by omega) (by omega), hk 11 (by omega) (by omega), hk 12 (by omega) (by omega), hk 13 (by omega) (by omega), hk 14 (by omega) (by omega), hk 15 (by omega) (by omega), hk 16 (by omega) (by omega), hk 17 (by omega) (by omega), hk 18 (by omega) (by omega), hk 19 (by omega) (by omega), hk 20 (by omega) (by omega), hk 21 (by omega) (by omega), hk 22 (by omega) (by omega), hk 23 (by omega) (by omega), hk 24 (by omega) (by omega), hk 25 (by omega) (by omega), hk 26 (by omega) (by omega), hk 27 (by omega) (by omega), hk 28 (by omega) (by omega), hk 29 (by omega) (by omega), hk 30 (by omega) (by omega), Bool.false_eq_true, if_false]
  rfl
theorem do_t (o : T45) (hv : o.Data.length ≤ 1073741824) : Tot (m20 t0 o) fun r => ¬ (1 ≤ o.Kind ∧ o.Kind ≤ 30) → r.2 = bad47 := by
  have hj : ∀ b, Tot (m20_j_89 t0 o b) fun r => ¬ (1 ≤ o.Kind ∧ o.Kind ≤ 30) → r.2 = bad47 := by
    intro b
    unfold m20_j_89
    refine Tot.ite (fun _ => .mk fun _ => rfl) fun _ => ?_
    refine Tot.bindE copy0 ?_
    obtain ⟨r, hr, _⟩ := run_t o hv
    refine Tot.bindE hr ?_
    have hb : ¬ (1 ≤ o.Kind ∧ o.Kind ≤ 30) → r = (t0, bad47) := fun h => by
      rw [run_bad o h] at hr; injection hr with hr; exact hr.symm
    refine Tot.ite (fun h => .mk fun hk => ?_) fun h => .mk fun hk => ?_
    · rw [hb hk]; rfl
    · rw [hb hk]
  unfold m20
  exact Tot.ite (fun _ => hj _) fun _ => Tot.ite (fun _ => hj _) fun _ => Tot.ite (fun _ => hj _) fun _ => hj _
theorem fixed_t : m13 = some true := by kernel_rfl
theorem same47 : m21 bad47 bad47 = some true := by kernel_rfl
/-- PosixNil holds of every operation -/
theorem nil_law (o : T45) (hv : o.Data.length ≤ 1073741824) : m4 o = some true := by
  have hj : m4_j_182 o t0 false = some true := by
    unfold m4_j_182
    rw [if_neg (by simp)]
    obtain ⟨r, hr, hb⟩ := do_t o hv
    rw [hr]
    simp only [Option.bind_some]
    have h47 : ¬ (1 ≤ o.Kind ∧ o.Kind ≤ 30) → (m21 r.2 (⟨47, 0, ([] : List UInt8), ([] : List ByteArray), (⟨0, 0, 0, 0, 0, 0, 0, 0, List.replicate 2 (0 : Nat)⟩ : T54), (⟨0, 0, 0, 0, 0⟩ : T56)⟩ : T58)) = some true := by
      intro h
      rw [hb h]
      exact same47
    by_cases h1 : o.Kind ≥ 1
    · by_cases h2 : o.Kind ≤ 30
      · simp [h1, h2]
      · simp only [h1, h2, decide_true, decide_false, if_true, Bool.false_eq_true, if_false, h47 (fun h => h2 h.2), Option.bind_some]
    · simp only [h1, decide_false, Bool.false_eq_true, if_false, h47 (fun h => h1 h.1), Option.bind_some]
  unfold m4
  rw [new0]
  simp only [Option.bind_some, fixed_t]
  exact hj
end Go.Proofs.YthhhomgbpnmeeaaGreatDoor
