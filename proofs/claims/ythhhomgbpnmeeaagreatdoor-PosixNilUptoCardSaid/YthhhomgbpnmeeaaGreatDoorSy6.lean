/- A library for walks that a program prints: kinds of data, what a call owns, one lemma for each operation. No conditions. -/
import Derived.Test.YthhhomgbpnmeeaaGreatDoorSy5
set_option linter.all false
namespace Go.Sy
open Go
def inr (i : Int) (n : Nat) : Bool := decide (0 ≤ i) && decide (i < n)
theorem inr_pos {i : Int} {n : Nat} (h : inr i n = true) : 0 ≤ i ∧ i < n := by simpa [inr] using h
theorem inr_lt {i : Int} {n : Nat} (h : inr i n = true) : i.toNat < n := by have := inr_pos h; omega
def gt {α} [Inhabited α] (xs : List α) (i : Int) : α := xs.getD i.toNat default
def st {α} (xs : List α) (i : Int) (y : α) : List α := xs.set i.toNat y
theorem gt_some {α} [Inhabited α] {xs : List α} {i : Int} (h : inr i xs.length = true) : xs[i.toNat]? = some (gt xs i) := by
  have := inr_lt h
  simp [gt, List.getD_eq_getElem?_getD, List.getElem?_eq_getElem this]
def slOf (P : Program) (t : TypeId) : Option TypeId := match P.underlying t with | some (.slice e) => some e | _ => none
def arrOf (P : Program) (t : TypeId) : Option (Nat × TypeId) := match P.underlying t with | some (.array m e) => some (m, e) | _ => none
theorem slOf_und {P : Program} {t E : TypeId} (h : slOf P t = some E) : P.underlying t = some (.slice E) := by
  unfold slOf at h; split at h
  · next e he => cases h; exact he
  · cases h
theorem arrOf_und {P : Program} {t E : TypeId} {m : Nat} (h : arrOf P t = some (m, E)) : P.underlying t = some (.array m E) := by
  unfold arrOf at h; split at h
  · next e he => cases h; exact he
  · cases h
section
variable {P : Program} {w w' : World} {c : Cx} {G : Gh} {Δ : List Own}
variable {ops : Array Oper} {Q : Exit → Act → World → Prop} {rest : List Oper} {n : Nat} {a : Act} {l : List (Nat × Value)} {d : Nat} {ty : TypeId} {pos : String} {af : Array Edge}
theorem run_index_sl {t E : TypeId} {b o len cap s : Nat} {ag : Bool} {kd : IntKind} {i : Int} (hT : slOf P t = some E) (hE : tyOf P E = some (s, ag)) (h0 : 0 ≤ i) (h1 : i < len) :
    (Instr.indexAt t (.slice (some ⟨b, o, none⟩) len cap) (.int kd i)).run P w = .ok (.pointer (some ⟨b, o + i.toNat * s, none⟩)) w := by
  simp only [Instr.indexAt, asIntOf, Sem.run_bind, Sem.run_pure, Result.andThen_ok, underlying, run_program, slOf_und hT, if_pos (And.intro h0 h1), run_sizeOf hE, add_flat]
theorem run_index_arr {t E : TypeId} {b o m s : Nat} {ag : Bool} {kd : IntKind} {i : Int} (hT : arrOf P t = some (m, E)) (hE : tyOf P E = some (s, ag)) (h0 : 0 ≤ i) (h1 : i < m) :
    (Instr.indexAt t (.pointer (some ⟨b, o, none⟩)) (.int kd i)).run P w = .ok (.pointer (some ⟨b, o + i.toNat * s, none⟩)) w := by
  simp only [Instr.indexAt, asIntOf, Sem.run_bind, Sem.run_pure, Result.andThen_ok, underlying, run_program, arrOf_und hT, Instr.sureAddr, if_pos (And.intro h0 h1), run_sizeOf hE, add_flat]
theorem ixs {α} [Inhabited α] {k : Kd α} {t E : TypeId} {x q : Operand} {v : Value} {xs : List α} {kd : IntKind} {i : Int} {ag : Bool} (K : Tm n a l) (hx : ev l x = some v) (hv : (kSl k).val G v xs) (hq : ev l q = some (.int kd i)) (hi : inr i xs.length = true)
    (hT : slOf P t = some E) (hE : tyOf P E = some (k.n, ag)) (kk : ∀ a u, Tm n a ((d, u) :: l) → (kRef k).val G u (gt xs i) → wpList P ops Q rest a w) (hd : Nat.blt d n = true := by rfl) :
    wpList P ops Q (⟨some d, .indexAddr t x q, ty, pos, af, none⟩ :: rest) a w := by
  obtain ⟨a0, cap, rfl, h1, h2, h3⟩ := kSl_val.1 hv
  obtain ⟨hi0, hi1⟩ := inr_pos hi
  cases a0 with
  | none => have := h2 rfl; omega
  | some p =>
    obtain ⟨b, o, sp⟩ := p
    obtain ⟨h4, C, T, fr, h5, h6, h7⟩ := h3 _ rfl
    simp only at h4 h5 h6 h7; subst h4
    refine op_val rfl (show _ = Result.ok (Next.value (.pointer (some ⟨b, o + i.toNat * k.n, none⟩))) w from ?_) rfl (kk _ _ (K.put hd) (kRef_val.2 ⟨_, rfl, rfl, C, T, fr, h5, ?_⟩))
    · simp only [execOp, K.eval hx, K.eval hq, Sem.run_bind, run_index_sl hT hE hi0 hi1, Result.andThen_ok]; rfl
    · have := rows_get h7 (gt_some hi)
      rw [List.drop_drop] at this; exact this
theorem ixo {α} {k : Kd α} {t E : TypeId} {x q : Operand} {xs : List α} {cap b : Nat} {kd : IntKind} {i : Int} {ag : Bool} (K : Tm n a l) (hx : ev l x = some (hdr (some b) xs.length cap)) (hq : ev l q = some (.int kd i)) (hi : inr i xs.length = true)
    (hT : slOf P t = some E) (hE : tyOf P E = some (k.n, ag)) (kk : ∀ a, Tm n a ((d, .pointer (some (adr b i.toNat k.n (Fld.id k).off))) :: l) → wpList P ops Q rest a w) (hd : Nat.blt d n = true := by rfl) :
    wpList P ops Q (⟨some d, .indexAddr t x q, ty, pos, af, none⟩ :: rest) a w := by
  obtain ⟨hi0, hi1⟩ := inr_pos hi
  refine op_val rfl (show _ = Result.ok (Next.value (.pointer (some ⟨b, 0 + i.toNat * k.n, none⟩))) w from ?_) rfl ?_
  · simp only [execOp, K.eval hx, K.eval hq, Sem.run_bind, hdr, Option.map_some, run_index_sl hT hE hi0 hi1, Result.andThen_ok]; rfl
  · rw [show (⟨b, 0 + i.toNat * k.n, none⟩ : Addr) = adr b i.toNat k.n (Fld.id k).off by simp [adr, Fld.id]]
    exact kk _ (K.put hd)
theorem ixa {α β} [Inhabited β] {k : Kd α} {f : Kd β} {m : Nat} {hm : 0 < m} {F : Fld k (kArr m hm f)} {t E : TypeId} {x q : Operand} {b e : Nat} {kd : IntKind} {i : Int} {ag : Bool} (K : Tm n a l) (hx : ev l x = some (.pointer (some (adr b e k.n F.off)))) (hq : ev l q = some (.int kd i)) (hi : inr i m = true)
    (hT : arrOf P t = some (m, E)) (hE : tyOf P E = some (f.n, ag)) (kk : ∀ a, Tm n a ((d, .pointer (some (adr b e k.n (F.comp (Fld.idx f i.toNat (inr_lt hi))).off))) :: l) → wpList P ops Q rest a w) (hd : Nat.blt d n = true := by rfl) :
    wpList P ops Q (⟨some d, .indexAddr t x q, ty, pos, af, none⟩ :: rest) a w := by
  obtain ⟨hi0, hi1⟩ := inr_pos hi
  refine op_val rfl (show _ = Result.ok (Next.value (.pointer (some (adr b e k.n (F.comp (Fld.idx f i.toNat (inr_lt hi))).off)))) w from ?_) rfl (kk _ (K.put hd))
  simp only [execOp, K.eval hx, K.eval hq, Sem.run_bind, adr, run_index_arr hT hE hi0 hi1, Result.andThen_ok, Fld.comp, Fld.idx, Nat.add_assoc]; rfl
def sAt (s : ByteArray) (i : Int) : UInt8 := s.data.getD i.toNat 0
theorem ixc {t : TypeId} {x q : Operand} {s : ByteArray} {kd : IntKind} {i : Int} (K : Tm n a l) (hx : ev l x = some (.string s)) (hq : ev l q = some (.int kd i)) (hi : inr i s.size = true) (hT : P.underlying t = some .string)
    (kk : ∀ a, Tm n a ((d, .int .u8 (sAt s i).toNat) :: l) → wpList P ops Q rest a w) (hd : Nat.blt d n = true := by rfl) :
    wpList P ops Q (⟨some d, .index t x q, ty, pos, af, none⟩ :: rest) a w := by
  obtain ⟨hi0, hi1⟩ := inr_pos hi
  refine op_val rfl (show _ = Result.ok (Next.value (.int .u8 (sAt s i).toNat)) w from ?_) rfl (kk _ (K.put hd))
  have hlt : i.toNat < s.size := by omega
  have : s[i.toNat]? = some (sAt s i) := by
    rw [getElem?_pos s i.toNat hlt]
    have hlt' : i.toNat < s.data.size := hlt
    simp only [sAt, Array.getD_eq_getD_getElem?, Array.getElem?_eq_getElem hlt', Option.getD_some]
    rfl
  simp only [execOp, K.eval hx, K.eval hq, Instr.index, asIntOf, Sem.run_bind, Sem.run_pure, Result.andThen_ok, underlying, run_program, hT, if_pos hi0, this]
/-! ### lengths -/
theorem evs1 {x : Operand} {v : Value} (h : ev l x = some v) : evs l [x] = some [v] := by simp only [evs, h]
theorem evs2 {x y : Operand} {v u : Value} (h : ev l x = some v) (h' : ev l y = some u) : evs l [x, y] = some [v, u] := by simp only [evs, h, h']
theorem evs3 {x y z : Operand} {v u s : Value} (h : ev l x = some v) (h' : ev l y = some u) (h'' : ev l z = some s) : evs l [x, y, z] = some [v, u, s] := by simp only [evs, h, h', h'']
theorem lenV {α} {k : Kd α} {t E : TypeId} {tys : Array TypeId} {x : Operand} {v : Value} {xs : List α} (K : Tm n a l) (hx : ev l x = some v) (hv : (kSl k).val G v xs) (ht : tys = #[t]) (hT : slOf P t = some E)
    (kk : ∀ a, Tm n a ((d, .int .i64 xs.length) :: l) → wpList P ops Q rest a w) (hd : Nat.blt d n = true := by rfl) : wpList P ops Q (⟨some d, .call ⟨.builtin .len, #[x], tys⟩, ty, pos, af, none⟩ :: rest) a w := by
  obtain ⟨a0, cap, rfl, _⟩ := kSl_val.1 hv
  subst ht
  refine bi (xs := [x]) K (evs1 hx) (v := .int .i64 xs.length) ?_ kk hd
  simp [builtin, Builtin.len_, underlying, slOf_und hT, goInt]
theorem lenO {t E : TypeId} {tys : Array TypeId} {x : Operand} {a0 : Option Addr} {m cap : Nat} (K : Tm n a l) (hx : ev l x = some (.slice a0 m cap)) (ht : tys = #[t]) (hT : slOf P t = some E)
    (kk : ∀ a, Tm n a ((d, .int .i64 m) :: l) → wpList P ops Q rest a w) (hd : Nat.blt d n = true := by rfl) : wpList P ops Q (⟨some d, .call ⟨.builtin .len, #[x], tys⟩, ty, pos, af, none⟩ :: rest) a w := by
  subst ht
  refine bi (xs := [x]) K (evs1 hx) (v := .int .i64 m) ?_ kk hd
  simp [builtin, Builtin.len_, underlying, slOf_und hT, goInt]
theorem lenS {t : TypeId} {tys : Array TypeId} {x : Operand} {s : ByteArray} (K : Tm n a l) (hx : ev l x = some (.string s)) (ht : tys = #[t]) (hT : P.underlying t = some .string)
    (kk : ∀ a, Tm n a ((d, .int .i64 s.size) :: l) → wpList P ops Q rest a w) (hd : Nat.blt d n = true := by rfl) : wpList P ops Q (⟨some d, .call ⟨.builtin .len, #[x], tys⟩, ty, pos, af, none⟩ :: rest) a w := by
  subst ht
  refine bi (xs := [x]) K (evs1 hx) (v := .int .i64 s.size) ?_ kk hd
  simp [builtin, Builtin.len_, underlying, hT, goInt]
/-! min, max of whole numbers -/
def imin (x y : Int) : Int := if y < x then y else x
def imax (x y : Int) : Int := if y > x then y else x
theorem min2 {tys : Array TypeId} {x y : Operand} {kd ke : IntKind} {p q : Int} (r : Int) (K : Tm n a l) (hx : ev l x = some (.int kd p)) (hy : ev l y = some (.int ke q)) (hr : imin p q = r)
    (kk : ∀ a, Tm n a ((d, .int kd r) :: l) → wpList P ops Q rest a w) (hd : Nat.blt d n = true := by rfl) : wpList P ops Q (⟨some d, .call ⟨.builtin .min, #[x, y], tys⟩, ty, pos, af, none⟩ :: rest) a w := by
  refine bi (xs := [x, y]) K (evs2 hx hy) (v := .int kd r) ?_ kk hd
  subst hr
  simp [builtin, Builtin.min_, Builtin.min2, imin]
theorem max2 {tys : Array TypeId} {x y : Operand} {kd ke : IntKind} {p q : Int} (r : Int) (K : Tm n a l) (hx : ev l x = some (.int kd p)) (hy : ev l y = some (.int ke q)) (hr : imax p q = r)
    (kk : ∀ a, Tm n a ((d, .int kd r) :: l) → wpList P ops Q rest a w) (hd : Nat.blt d n = true := by rfl) : wpList P ops Q (⟨some d, .call ⟨.builtin .max, #[x, y], tys⟩, ty, pos, af, none⟩ :: rest) a w := by
  refine bi (xs := [x, y]) K (evs2 hx hy) (v := .int kd r) ?_ kk hd
  subst hr
  simp [builtin, Builtin.max_, Builtin.max2, imax]
theorem min3 {tys : Array TypeId} {x y z : Operand} {kd ke kf : IntKind} {p q s : Int} (r : Int) (K : Tm n a l) (hx : ev l x = some (.int kd p)) (hy : ev l y = some (.int ke q)) (hz : ev l z = some (.int kf s)) (hr : imin (imin p q) s = r)
    (kk : ∀ a, Tm n a ((d, .int kd r) :: l) → wpList P ops Q rest a w) (hd : Nat.blt d n = true := by rfl) : wpList P ops Q (⟨some d, .call ⟨.builtin .min, #[x, y, z], tys⟩, ty, pos, af, none⟩ :: rest) a w := by
  refine bi (xs := [x, y, z]) K (evs3 hx hy hz) (v := .int kd r) ?_ kk hd
  subst hr
  simp [builtin, Builtin.min_, Builtin.min2, imin]
  rfl
end
end Go.Sy
