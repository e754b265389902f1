/- Plain laws of the plain functions: PosixNil comes to true. The data of the operation is of at most 2 to the 30 bytes. -/
import Derived.Test.YthhhomgbpnmeeaaGreatDoorPl6
set_option linter.all false
namespace Go.Proofs.YthhhomgbpnmeeaaGreatDoor
open Go Go.Sy
set_option maxRecDepth 100000
abbrev Tr {α : Type} : α → Prop := fun _ => True
theorem uv0 : UV [⟨0, 0, 1, -1, -1⟩] := by
  refine ⟨by simp, ?_, by simp⟩
  intro u hu
  simp only [List.mem_singleton] at hu
  subst hu
  unfold okU
  decide
theorem root_gt : gt t0.p.Inodes 1 = root0 := by kernel_rfl
theorem fds0 {i : Int} (h0 : 0 ≤ i) (h : i < 8) : (gt t0.fds i).used = false := by
  have : i = 0 ∨ i = 1 ∨ i = 2 ∨ i = 3 ∨ i = 4 ∨ i = 5 ∨ i = 6 ∨ i = 7 := by omega
  rcases this with rfl | rfl | rfl | rfl | rfl | rfl | rfl | rfl <;> rfl
theorem used0 (i : Int) : m170 t0 i = some false := by
  unfold m170
  by_cases h : i ≥ 0
  · by_cases h2 : i < 8
    · simp only [h, h2, decide_true, if_true, inr_t (n := 8) h h2, gd, fds0 h h2]
    · simp [h, h2]
  · simp [h]
/-- the tree's usages are charged -/
theorem chg (t : T103) (u b i : Int) (h : UV t.p.Users) : Tot (m148 t u b i) fun r => (r.2 ≠ 0 ∧ r.1 = t) ∨ (r.2 = 0 ∧ ∃ us, UV us ∧ r.1 = { t with p := { t.p with Users := us } }) := by
  unfold m148
  refine Tot.bind (charge_tot _ u b i h) fun r hr => ?_
  refine Tot.ite (fun h => .mk (.inl ⟨by simp, rfl⟩)) fun h => .mk (.inr ⟨rfl, r.1, hr (bne_f h), rfl⟩)
theorem link_t (o : T45) : Tot (m91 t0 o) Tr := by
  unfold m91
  refine Tot.bind (found0 o _ _) fun r hr => ?_
  refine Tot.ite (fun _ => .mk trivial) fun h => ?_
  rcases hr with h1 | h1
  · exact absurd (bne_f h) h1
  subst h1
  refine Tot.gd (by kernel_rfl) (Tot.ite (fun _ => .mk trivial) fun h => absurd h (by decide +kernel))
theorem unlink_t (o : T45) : Tot (m92 t0 o) Tr := by
  unfold m92
  refine Tot.bind (found0 o _ _) fun r hr => ?_
  refine Tot.ite (fun _ => .mk trivial) fun h => ?_
  rcases hr with h1 | h1
  · exact absurd (bne_f h) h1
  subst h1
  refine Tot.gd (by kernel_rfl) (Tot.ite (fun _ => .mk trivial) fun h => absurd h (by decide +kernel))
theorem rmdir_t (o : T45) : Tot (m93 t0 o) Tr := by
  unfold m93
  refine Tot.bind (found0 o _ _) fun r hr => ?_
  refine Tot.ite (fun _ => .mk trivial) fun h => ?_
  rcases hr with h1 | h1
  · exact absurd (bne_f h) h1
  subst h1
  exact Tot.ite (fun _ => .mk trivial) fun h => absurd h (by decide +kernel)
theorem rename_t (o : T45) : Tot (m94 t0 o) Tr := by
  unfold m94
  refine Tot.bind (found0 o _ _) fun r hr => ?_
  refine Tot.ite (fun _ => .mk trivial) fun h => ?_
  rcases hr with h1 | h1
  · exact absurd (bne_f h) h1
  subst h1
  exact Tot.ite (fun _ => .mk trivial) fun h => absurd h (by decide +kernel)
theorem trunc_t (o : T45) : Tot (m95 t0 o) Tr := by
  unfold m95
  refine Tot.ite (fun _ => .mk trivial) fun h => ?_
  refine Tot.bind (regular0 o _) fun r hr => ?_
  exact Tot.ite (fun _ => .mk trivial) fun h => absurd (bne_f h) hr
theorem punch_t (o : T45) : Tot (m96 t0 o) Tr := by
  have hj : ∀ b, Tot (m96_j_70 t0 o b) Tr := by
    intro b
    unfold m96_j_70
    refine Tot.ite (fun _ => .mk trivial) fun h => ?_
    refine Tot.bind (regular0 o _) fun r hr => ?_
    exact Tot.ite (fun _ => .mk trivial) fun h => absurd (bne_f h) hr
  unfold m96
  exact Tot.ite (fun _ => hj _) fun _ => hj _
theorem inrL {n : Nat} {i : Int} (h : inr i n = true) {m : Nat} (e : m = n) : inr i m = true := by subst e; exact h
theorem chgd_t (t : T103) (i : Int) (b : Bool) (h : inr i t.p.Inodes.length = true) : Tot (m154 t i b) Tr := by
  unfold m154
  exact Tot.gd h (Tot.ite (fun _ => .mk trivial) fun _ => .mk trivial)
theorem bits_t (f : Nat) : Tot (m107 f) Tr := by
  unfold m107 m179 m246
  refine Tot.bind (P := Tr) ?_ fun _ _ => .mk trivial
  refine Tot.bind (P := Tr) (.mk trivial) fun _ _ => Tot.ite (fun _ => .mk trivial) fun _ => .mk trivial
theorem from_t (f : Int) : Tot (m70 f) Tr := by
  unfold m70
  exact Tot.bind (bits_t _) fun _ _ => Tot.ite (fun _ => .mk trivial) fun _ => .mk trivial
theorem set_t (o : T45) : Tot (m97 t0 o) Tr := by
  have hj : ∀ b, Tot (m97_j_144 t0 o b) Tr := by
    intro b
    unfold m97_j_144
    refine Tot.ite (fun _ => .mk trivial) fun h => ?_
    refine Tot.bind (found0 o _ _) fun r hr => ?_
    refine Tot.ite (fun _ => .mk trivial) fun h => ?_
    rcases hr with h1 | h1
    · exact absurd (bne_f h) h1
    subst h1
    refine Tot.gd (by kernel_rfl) (Tot.nm (Tot.nm (Tot.ite (fun _ => .mk trivial) fun h => ?_)))
    refine Tot.ite (fun _ => ?_) fun _ => ?_
    · exact Tot.bind (chgd_t _ _ _ (by simp only [st_len]; kernel_rfl)) fun _ _ => .mk trivial
    · refine Tot.bind (bits_t _) fun b _ => ?_
      refine Tot.bind (from_t _) fun b _ => ?_
      exact Tot.bind (chgd_t _ _ _ (by simp only [st_len]; kernel_rfl)) fun _ _ => .mk trivial
  unfold m97 m149
  refine Tot.ite (fun _ => ?_) fun _ => hj _
  exact Tot.bind (P := Tr) (Tot.ite (fun _ => .mk trivial) fun _ => .mk trivial) fun _ _ => hj _
theorem chown_t (o : T45) : Tot (m98 t0 o) Tr := by
  have hj : ∀ b, Tot (m98_j_172 t0 o b) Tr := by
    intro b
    unfold m98_j_172
    refine Tot.ite (fun _ => .mk trivial) fun h => ?_
    refine Tot.ite (fun _ => .mk trivial) fun h => ?_
    refine Tot.bind (found0 o _ _) fun r hr => ?_
    refine Tot.ite (fun _ => .mk trivial) fun h => ?_
    rcases hr with h1 | h1
    · exact absurd (bne_f h) h1
    subst h1
    refine Tot.gd (by kernel_rfl) ?_
    refine Tot.bindE (a := 0) (by kernel_rfl) ?_
    have he : ∀ (I : List T84) (a1 : Int) (a2 : Nat) (a3 : List UInt8) (a4 : List T56) (a6 : List (List T87)) (a7 : List (List UInt8)) (a8 : List T100), inr 1 I.length = true → Tot (m98_j_138 o (⟨1, 0, ByteArray.empty⟩, 0) (a1, a2, a3, a4, I, a6, a7, a8)) Tr := by
      intro I a1 a2 a3 a4 a6 a7 a8 hI
      unfold m98_j_138
      refine Tot.gd hI (Tot.gd hI ?_)
      exact Tot.bind (chgd_t _ _ _ (by simp only [st_len]; exact hI)) fun _ _ => .mk trivial
    refine Tot.ite (fun _ => ?_) fun _ => he _ _ _ _ _ _ _ _ (by kernel_rfl)
    refine Tot.bind (chg t0 _ _ _ uv0) fun r hr => ?_
    refine Tot.ite (fun _ => .mk trivial) fun h => ?_
    rcases hr with h1 | ⟨_, us, hu, h1⟩
    · exact absurd (bne_f h) h1.1
    rw [h1]
    refine Tot.gd (by kernel_rfl) ?_
    refine Tot.bind (chg _ _ _ _ hu) fun q hq => ?_
    rcases hq with ⟨_, h2⟩ | ⟨_, us, hu, h2⟩
    · rw [h2]; exact he _ _ _ _ _ _ _ _ (by kernel_rfl)
    · rw [h2]; exact he _ _ _ _ _ _ _ _ (by kernel_rfl)
  unfold m98
  refine Tot.ite (fun _ => hj _) fun _ => Tot.ite (fun _ => hj _) fun _ => Tot.ite (fun _ => hj _) fun _ => hj _
theorem fits_t (s : ByteArray) (v : List UInt8) : Tot (m219 s v) Tr := by
  unfold m219
  refine Tot.ite (fun _ => ?_) fun _ => .mk trivial
  refine Tot.ite (fun _ => ?_) fun _ => .mk trivial
  obtain ⟨r, hr⟩ := contains1 s 0
  exact Tot.bindE (a := r) hr (Tot.ite (fun _ => .mk trivial) fun _ => .mk trivial)
theorem drop0 (s : ByteArray) : m166 [] s = some ([], 4) := by rfl
theorem xset_t (s : ByteArray) (v : List UInt8) (hv : v.length ≤ 1073741824) : Tot (m167 [] s v) Tr := by
  unfold m167
  refine Tot.bindE (a := 0) (by kernel_rfl) ?_
  refine Tot.ite (fun h => .mk trivial) fun _ => ?_
  refine Tot.bindE (a := (0, false)) (by kernel_rfl) ?_
  refine Tot.bind (fits_t s v) fun b _ => ?_
  refine Tot.ite (fun h => .mk trivial) fun _ => ?_
  have hj : ∀ b, Tot (m167_j_50 [] s v (0, false) b) Tr := by
    intro b
    unfold m167_j_50
    refine Tot.ite (fun h => .mk trivial) fun _ => ?_
    refine Tot.bindE (a := []) (by kernel_rfl) ?_
    refine Tot.bindE (a := v) (by unfold m42; rw [roomB_t (by omega)]; rfl) ?_
    refine Tot.ite (fun h => absurd h (by simp)) fun _ => ?_
    exact Tot.bind (P := Tr) (by unfold m237; exact Tot.gd (by kernel_rfl) (.mk trivial)) fun _ _ => .mk trivial
  exact Tot.ite (fun _ => hj _) fun _ => hj _
theorem attr_t (o : T45) (hv : o.Data.length ≤ 1073741824) : Tot (m99 t0 o) Tr := by
  unfold m99
  refine Tot.bind (usable0 o _) fun r hr => ?_
  refine Tot.ite (fun _ => .mk trivial) fun h => ?_
  rcases hr with h1 | h1
  · exact absurd (bne_f h) h1
  subst h1
  refine Tot.gd (by kernel_rfl) ?_
  refine Tot.bindE (a := ([], 4)) (drop0 _) ?_
  have hj : ∀ x, Tot (m99_j_123 t0 (1, 0) x) Tr := by
    intro x
    unfold m99_j_123
    refine Tot.ite (fun _ => .mk trivial) fun _ => Tot.ite (fun _ => .mk trivial) fun _ => Tot.ite (fun _ => .mk trivial) fun _ => ?_
    refine Tot.gd (by kernel_rfl) ?_
    exact Tot.bind (chgd_t _ _ _ (by simp only [st_len]; kernel_rfl)) fun _ _ => .mk trivial
  refine Tot.ite (fun _ => ?_) fun _ => hj _
  exact Tot.bind (xset_t _ _ hv) fun _ _ => hj _
theorem limit_t (o : T45) : Tot (m100 t0 o) Tr := by
  unfold m100
  refine Tot.ite (fun _ => .mk trivial) fun _ => ?_
  refine Tot.bind (limit_tot _ _ _ _ uv0) fun _ _ => ?_
  exact Tot.ite (fun _ => .mk trivial) fun _ => Tot.ite (fun _ => .mk trivial) fun _ => .mk trivial
theorem add0 (y : Nat) (h : ((fcmp .geq y 0).getD false) = true) : Tot (farith .add 0 y) Tr := by
  have h0 : FloatKind.f64.format.read 0 = .number false 0 (-1074) := by kernel_rfl
  simp only [fcmp, Option.getD_some, Ieee.Format.order] at h
  simp only [farith, Ieee.Format.add, h0] at h ⊢
  cases hy : FloatKind.f64.format.read y with
  | nan => simp [hy, Ieee.Datum.order] at h
  | infinity s => exact ⟨_, rfl, trivial⟩
  | number s m i => exact ⟨_, rfl, trivial⟩
theorem tick_t (by_ : Nat) : Tot (m101 0 by_) Tr := by
  unfold m101
  refine Tot.ite (fun h => absurd h (by decide +kernel)) fun _ => ?_
  refine Tot.bindE (a := false) (by kernel_rfl) ?_
  unfold m101_j_8
  refine Tot.ite (fun h => absurd h (by simp)) fun _ => ?_
  refine Tot.ite (fun _ => .mk trivial) fun h => ?_
  exact Tot.bind (add0 _ (by simpa using h)) fun _ _ => .mk trivial
theorem close_t (o : T45) : Tot (m103 t0 o) Tr := by
  unfold m103
  refine Tot.bindE (used0 _) ?_
  exact Tot.ite (fun _ => .mk trivial) fun h => absurd h (by simp)
theorem err_t (e : Int) : Tot (m89 e) Tr := ⟨_, rfl, trivial⟩
theorem errB (e : Int) {β : Type} (f : T58 → β) : Tot ((m89 e).bind fun x => some (f x)) Tr := ⟨_, rfl, trivial⟩
theorem readlink_t (o : T45) : Tot (m171 t0 o) Tr := by
  unfold m171
  refine Tot.bind (found0 o _ _) fun r hr => ?_
  refine Tot.ite (fun _ => errB _ _) fun h => ?_
  rcases hr with h1 | h1
  · exact absurd (bne_f h) h1
  subst h1
  refine Tot.gd (by kernel_rfl) (Tot.ite (fun _ => errB _ _) fun h => absurd h (by decide +kernel))
theorem io_t (o : T45) : Tot (m172 t0 o) Tr := by
  have hj : ∀ k b, Tot (m172_j_92 t0 o k b) Tr := by
    intro k b
    unfold m172_j_92
    refine Tot.ite (fun _ => errB _ _) fun h => ?_
    refine Tot.bind (regular0 o _) fun r hr => ?_
    exact Tot.ite (fun _ => errB _ _) fun h => absurd (bne_f h) hr
  have hk : ∀ k, Tot (m172_j_102 t0 o k) Tr := by
    intro k
    unfold m172_j_102
    exact Tot.ite (fun _ => hj _ _) fun _ => Tot.ite (fun _ => hj _ _) fun _ => hj _ _
  unfold m172
  exact Tot.ite (fun _ => hk _) fun _ => hk _
theorem stat_t (o : T45) : Tot (m173 t0 o) Tr := by
  unfold m173
  refine Tot.bind (found0 o _ _) fun r hr => ?_
  refine Tot.ite (fun _ => errB _ _) fun h => ?_
  rcases hr with h1 | h1
  · exact absurd (bne_f h) h1
  subst h1
  refine Tot.gd (by kernel_rfl) ?_
  exact Tot.bindE (a := 0) (by kernel_rfl) (.mk trivial)
theorem after0 (nm : ByteArray) (n : Int) : Tot (m240 zs [] nm n) Tr := by
  unfold m240
  refine Tot.bindE (a := 0) (by kernel_rfl) ?_
  refine Tot.ite (fun _ => .mk trivial) fun _ => ?_
  refine Tot.ite (fun _ => .mk trivial) fun hn => ?_
  have hn := dec_f hn
  have hj : Tot (m240_j_80 [] n 0) Tr := by
    unfold m240_j_80
    have e : imin n ((([] : List T87).length : Int)) = 0 := by
      simp only [imin, List.length_nil]; split <;> omega
    rw [e]
    refine Tot.gd (by kernel_rfl) ?_
    refine Tot.bindE (a := []) ?_ (.mk trivial)
    show Lp.run (m240_l_65 [] n 0) ([], 0) = some []
    have : m240_l_65 [] n 0 ([], 0) = some (.inr []) := by
      unfold m240_l_65
      rw [e]
      kernel_rfl
    show Lp.iter (m240_l_65 [] n 0) (1099511627775 + 1) ([], 0) = some []
    rw [Lp.iter, this]
  refine Tot.ite (fun _ => ?_) fun _ => hj
  refine Tot.bindE (a := (0, false)) (by kernel_rfl) ?_
  exact Tot.ite (fun h => absurd h (by simp)) fun _ => hj
theorem readdir_t (o : T45) : Tot (m174 t0 o) Tr := by
  unfold m174
  refine Tot.ite (fun _ => errB _ _) fun _ => ?_
  refine Tot.bind (found0 o _ _) fun r hr => ?_
  refine Tot.ite (fun _ => errB _ _) fun h => ?_
  rcases hr with h1 | h1
  · exact absurd (bne_f h) h1
  subst h1
  refine Tot.gd (by kernel_rfl) ?_
  refine Tot.ite (fun _ => errB _ _) fun _ => ?_
  refine Tot.bind (may0 o _ 4 (by kernel_rfl)) fun x _ => ?_
  refine Tot.ite (fun _ => errB _ _) fun _ => ?_
  refine Tot.gd (by kernel_rfl) ?_
  exact Tot.bind (after0 _ _) fun _ _ => .mk trivial
theorem attrs_t (o : T45) : Tot (m175 t0 o) Tr := by
  unfold m175
  refine Tot.bind (usable0 o _) fun r hr => ?_
  refine Tot.ite (fun _ => errB _ _) fun h => ?_
  rcases hr with h1 | h1
  · exact absurd (bne_f h) h1
  subst h1
  refine Tot.gd (by kernel_rfl) ?_
  refine Tot.ite (fun _ => ?_) fun _ => ?_
  · exact Tot.bindE (a := []) (by kernel_rfl) (.mk trivial)
  · refine Tot.bindE (a := ([], 4)) (by kernel_rfl) ?_
    exact Tot.ite (fun _ => errB _ _) fun h => absurd h (by simp)
theorem statfs_t : Tot (m176 t0) Tr := by
  have : (m176 t0).isSome = true := by kernel_rfl
  obtain ⟨r, hr⟩ := Option.isSome_iff_exists.mp this
  exact .eq hr trivial
theorem open_t (o : T45) : Tot (m177 t0 o) Tr := by
  have hj : ∀ k, Tot (m177_j_27 t0 o k) Tr := by
    intro k
    unfold m177_j_27
    refine Tot.bind (regular0 o _) fun r hr => ?_
    exact Tot.ite (fun _ => errB _ _) fun h => absurd (bne_f h) hr
  unfold m177
  exact Tot.ite (fun _ => hj _) fun _ => Tot.ite (fun _ => hj _) fun _ => Tot.ite (fun _ => hj _) fun _ => errB _ _
theorem ioFd_t (o : T45) : Tot (m178 t0 o) Tr := by
  have hj : ∀ k, Tot (m178_j_281 t0 o k) Tr := by
    intro k
    unfold m178_j_281
    refine Tot.bindE (used0 _) ?_
    refine Tot.gd (by simp) (Tot.nm ?_)
    exact Tot.ite (fun _ => errB _ _) fun h => absurd h (by simp)
  unfold m178
  exact Tot.ite (fun _ => hj _) fun _ => hj _
end Go.Proofs.YthhhomgbpnmeeaaGreatDoor
