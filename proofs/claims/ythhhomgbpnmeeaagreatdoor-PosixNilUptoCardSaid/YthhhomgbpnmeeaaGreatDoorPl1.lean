/- Plain laws of the plain functions: PosixNil comes to true. The data of the operation is of at most 2 to the 30 bytes. -/
import Derived.Test.YthhhomgbpnmeeaaGreatDoorMd
import Derived.Lib.Bytealg
set_option linter.all false
namespace Go.Proofs.YthhhomgbpnmeeaaGreatDoor
open Go Go.Sy
set_option maxRecDepth 100000
/-- x comes to a value of which P holds -/
def Tot {α : Type} (x : Option α) (P : α → Prop) : Prop := ∃ r, x = some r ∧ P r
theorem Tot.mk {α : Type} {P : α → Prop} {a : α} (h : P a) : Tot (some a) P := ⟨a, rfl, h⟩
theorem Tot.eq {α : Type} {P : α → Prop} {x : Option α} {a : α} (e : x = some a) (h : P a) : Tot x P := ⟨a, e, h⟩
theorem Tot.mono {α : Type} {P Q : α → Prop} {x : Option α} (h : Tot x P) (hq : ∀ a, P a → Q a) : Tot x Q := by
  obtain ⟨r, h1, h2⟩ := h
  exact ⟨r, h1, hq r h2⟩
theorem Tot.bind {α β : Type} {P : α → Prop} {Q : β → Prop} {x : Option α} {f : α → Option β} (h : Tot x P) (hf : ∀ a, P a → Tot (f a) Q) : Tot (x.bind f) Q := by
  obtain ⟨r, h1, h2⟩ := h
  subst h1
  exact hf r h2
theorem Tot.bindE {α β : Type} {Q : β → Prop} {x : Option α} {a : α} {f : α → Option β} (h : x = some a) (hf : Tot (f a) Q) : Tot (x.bind f) Q := by
  subst h; exact hf
theorem Tot.gd {α : Type} {P : α → Prop} {x : Option α} {b : Bool} (hb : b = true) (h : Tot x P) : Tot (Sy.gd b x) P := by
  subst hb; exact h
theorem Tot.ite {α : Type} {P : α → Prop} {x y : Option α} {b : Bool} (h : b = true → Tot x P) (h' : b = false → Tot y P) : Tot (if b = true then x else y) P := by
  cases b
  · simpa using h' rfl
  · simpa using h rfl
theorem Tot.nm {α β : Type} {P : β → Prop} {x : α} {f : α → Option β} (h : Tot (f x) P) : Tot (Sy.nm x f) P := h
theorem Lp.tot {S R : Type} {step : S → Option (S ⊕ R)} (Inv : S → Prop) (μ : S → Nat) (Post : R → Prop)
    (h : ∀ s, Inv s → Tot (step s) fun y => match y with | .inl s' => Inv s' ∧ μ s' < μ s | .inr r => Post r) :
    ∀ (k : Nat) (s : S), Inv s → μ s < k → Tot (Lp.iter step k s) Post := by
  intro k
  induction k with
  | zero => intro s _ hk; omega
  | succ k ih =>
    intro s hs hk
    obtain ⟨y, h1, h2⟩ := h s hs
    simp only [Lp.iter, h1]
    cases y with
    | inl s' => exact ih s' h2.1 (by have := h2.2; omega)
    | inr r => exact ⟨r, rfl, h2⟩
theorem Tot.run {S R : Type} {step : S → Option (S ⊕ R)} {s : S} {Post : R → Prop} (Inv : S → Prop) (μ : S → Nat) (h0 : Inv s) (hμ : μ s < 1099511627776)
    (h : ∀ s, Inv s → Tot (step s) fun y => match y with | .inl s' => Inv s' ∧ μ s' < μ s | .inr r => Post r) : Tot (Lp.run step s) Post :=
  Lp.tot Inv μ Post h _ s h0 hμ
theorem wr_id {n : Int} (h : -9223372036854775808 ≤ n) (h2 : n < 9223372036854775808) : wr n = n := wrap64_id h h2
theorem inr_t {i : Int} {n : Nat} (h0 : 0 ≤ i) (h1 : i < n) : inr i n = true := by simp only [inr, Bool.and_eq_true, decide_eq_true_eq]; exact ⟨h0, h1⟩
theorem roomB_t {m n : Nat} (h : m + n ≤ 1073741824) : roomB m n = true := by simp only [roomB, decide_eq_true_eq]; exact h
theorem mkB_t {m : Int} (h0 : 0 ≤ m) (h : m ≤ 1073741824) : mkB m = true := by simp only [mkB, Bool.and_eq_true, decide_eq_true_eq]; exact ⟨h0, h⟩
theorem st_len {α} {xs : List α} {i : Int} {y : α} : (st xs i y).length = xs.length := st_length
/-- the first place of a byte: -1, or a place -/
theorem firstIdx_bd (s : ByteArray) (c : UInt8) : firstIdx s c = -1 ∨ (0 ≤ firstIdx s c ∧ firstIdx s c < s.size) := by
  unfold firstIdx
  cases h : (List.range s.size).find? fun i => s[i]! == c with
  | none => exact .inl rfl
  | some i =>
    have := List.mem_of_find?_eq_some h
    rw [List.mem_range] at this
    simp only
    omega
theorem countB_bd (s : ByteArray) (c : UInt8) : 0 ≤ countB s c ∧ countB s c ≤ s.size := by
  unfold countB
  rw [Lib.foldl_data, Lib.count_foldl]
  have h1 : Lib.countByte s.data.toList c ≤ s.data.toList.length := List.count_le_length
  have h2 : s.data.toList.length = s.size := by simp
  constructor
  · omega
  · omega
theorem sSub_size {s : ByteArray} {lo hi : Int} (h0 : 0 ≤ lo) (h1 : lo ≤ hi) (h2 : hi ≤ s.size) : ((sSub s lo hi).size : Int) = hi - lo := by
  unfold sSub
  rw [ByteArray.size_extract]; omega
theorem lSub_len {α} {xs : List α} {lo hi : Int} (h0 : 0 ≤ lo) (h1 : lo ≤ hi) (h2 : hi ≤ xs.length) : ((lSub xs lo hi).length : Int) = hi - lo := by
  simp only [lSub, List.length_drop, List.length_take]; omega
theorem dec_t {p : Prop} [Decidable p] (h : decide p = true) : p := by simpa using h
theorem dec_f {p : Prop} [Decidable p] (h : decide p = false) : ¬ p := by simpa using h
theorem beq_t {a b : Int} (h : (a == b) = true) : a = b := by simpa using h
theorem beq_f {a b : Int} (h : (a == b) = false) : a ≠ b := by simpa using h
theorem bne_t {a b : Int} (h : (a != b) = true) : a ≠ b := by simpa using h
theorem bne_f {a b : Int} (h : (a != b) = false) : a = b := by simpa using h
end Go.Proofs.YthhhomgbpnmeeaaGreatDoor
