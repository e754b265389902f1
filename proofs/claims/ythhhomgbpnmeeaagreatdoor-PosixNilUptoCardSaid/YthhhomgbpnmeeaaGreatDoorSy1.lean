/- A library for walks that a program prints: kinds of data, what a call owns, one lemma for each operation. No conditions. -/
import Derived.Tactics
import Derived.KernelRfl
set_option linter.all false
namespace Go.Sy
open Go
abbrev Gh := Nat → Option Obj
def Gh.le (G H : Gh) : Prop := ∀ b o, G b = some o → H b = some o
theorem Gh.refl (G : Gh) : Gh.le G G := fun _ _ h => h
theorem Gh.trans {G H K : Gh} (h : Gh.le G H) (h' : Gh.le H K) : Gh.le G K := fun b o e => h' b o (h b o e)
def plain : Value → Bool
  | .agg _ | .tuple _ => false
  | _ => true
structure Kd (α : Type) where
  n : Nat
  ag : Bool
  rep : Gh → List Value → α → Prop
  len : ∀ {G cs x}, rep G cs x → cs.length = n
  mono : ∀ {G H cs x}, Gh.le G H → rep G cs x → rep H cs x
  pl : ∀ {G cs x}, rep G cs x → ∀ c ∈ cs, plain c = true
  one : ag = false → n = 1
  pos : 0 < n
def Kd.val {α} (k : Kd α) (G : Gh) (v : Value) (x : α) : Prop :=
  (if k.ag = true then ∃ cs, v = .agg cs else plain v = true) ∧ k.rep G v.cells.toList x
theorem Kd.val_mono {α} {k : Kd α} {G H : Gh} {v : Value} {x : α} (h : Gh.le G H) (hv : k.val G v x) : k.val H v x := ⟨hv.1, k.mono h hv.2⟩
theorem cells_plain {v : Value} (h : plain v = true) : v.cells = #[v] := by
  cases v <;> simp_all [plain, Value.cells]
theorem Kd.val_of_one {α} {k : Kd α} {G : Gh} {v : Value} {x : α} (ha : k.ag = false) (h : k.rep G [v] x) : k.val G v x := by
  have hp := k.pl h v (by simp)
  refine ⟨by simp [ha, hp], ?_⟩
  rw [cells_plain hp]; exact h
theorem Kd.one_of_val {α} {k : Kd α} {G : Gh} {v : Value} {x : α} (ha : k.ag = false) (h : k.val G v x) : k.rep G [v] x := by
  have hp : plain v = true := by have := h.1; simpa [ha] using this
  have := h.2
  rw [cells_plain hp] at this; exact this
theorem Kd.val_of_agg {α} {k : Kd α} {G : Gh} {cs : Array Value} {x : α} (ha : k.ag = true) (h : k.rep G cs.toList x) : k.val G (.agg cs) x :=
  ⟨by simp [ha], h⟩
/-! ### kinds of one cell -/
def mk1 {α} (f : Gh → Value → α → Prop) (mono : ∀ {G H v x}, Gh.le G H → f G v x → f H v x) (pl : ∀ {G v x}, f G v x → plain v = true) : Kd α where
  n := 1
  ag := false
  rep G cs x := ∃ v, cs = [v] ∧ f G v x
  len := by rintro G cs x ⟨v, rfl, _⟩; rfl
  mono := by rintro G H cs x h ⟨v, rfl, hv⟩; exact ⟨v, rfl, mono h hv⟩
  pl := by rintro G cs x ⟨v, rfl, hv⟩ c hc; simp at hc; subst hc; exact pl hv
  one _ := rfl
  pos := by decide
theorem mk1_val {α} {k : Kd α} (f : Gh → Value → α → Prop) (ha : k.ag = false) (hr : ∀ G cs x, k.rep G cs x ↔ ∃ v, cs = [v] ∧ f G v x) {G : Gh} {v : Value} {x : α} :
    k.val G v x ↔ f G v x := by
  constructor
  · intro h
    obtain ⟨v', hv, hf⟩ := (hr _ _ _).1 (Kd.one_of_val ha h)
    simp at hv; subst hv; exact hf
  · intro h; exact Kd.val_of_one ha ((hr _ _ _).2 ⟨v, rfl, h⟩)
def kInt (k : IntKind) : Kd Int := mk1 (fun _ v x => v = .int k x) (fun _ h => h) (by rintro _ _ _ rfl; rfl)
def kBool : Kd Bool := mk1 (fun _ v x => v = .bool x) (fun _ h => h) (by rintro _ _ _ rfl; rfl)
def kF64 : Kd Nat := mk1 (fun _ v x => v = .float .f64 x) (fun _ h => h) (by rintro _ _ _ rfl; rfl)
def maxS : Nat := 1073741824
def kStr : Kd ByteArray := mk1 (fun _ v x => v = .string x) (fun _ h => h) (by rintro _ _ _ rfl; rfl)
def kEx : Kd Value := mk1 (fun _ v x => v = x ∧ plain v = true) (fun _ h => h) (by rintro _ _ _ ⟨_, h⟩; exact h)
theorem kInt_val {k G v x} : (kInt k).val G v x ↔ v = .int k x := mk1_val (fun _ v x => v = .int k x) rfl fun _ _ _ => Iff.rfl
theorem kBool_val {G v x} : kBool.val G v x ↔ v = .bool x := mk1_val (fun _ v x => v = .bool x) rfl fun _ _ _ => Iff.rfl
theorem kF64_val {G v x} : kF64.val G v x ↔ v = .float .f64 x := mk1_val (fun _ v x => v = .float .f64 x) rfl fun _ _ _ => Iff.rfl
theorem kStr_val {G v x} : kStr.val G v x ↔ v = .string x := mk1_val (fun _ v x => v = .string x) rfl fun _ _ _ => Iff.rfl
theorem kEx_val {G v x} : kEx.val G v x ↔ v = x ∧ plain v = true := mk1_val (fun _ v x => v = x ∧ plain v = true) rfl fun _ _ _ => Iff.rfl
/-! ### rows of elements -/
def rows {α} (k : Kd α) (G : Gh) : List Value → List α → Prop
  | _, [] => True
  | cs, x :: xs => k.rep G (cs.take k.n) x ∧ rows k G (cs.drop k.n) xs
theorem rows_mono {α} {k : Kd α} {G H : Gh} (h : Gh.le G H) : ∀ {xs : List α} {cs : List Value}, rows k G cs xs → rows k H cs xs
  | [], _, _ => trivial
  | _ :: _, _, ⟨h1, h2⟩ => ⟨k.mono h h1, rows_mono h h2⟩
theorem rows_len {α} {k : Kd α} {G : Gh} : ∀ {xs : List α} {cs : List Value}, rows k G cs xs → xs.length * k.n ≤ cs.length
  | [], _, _ => by simp
  | x :: xs, cs, ⟨h1, h2⟩ => by
    have a := k.len h1
    have b := rows_len h2
    simp only [List.length_take, List.length_drop, List.length_cons, Nat.succ_mul] at *
    have := k.pos
    omega
theorem rows_get {α} {k : Kd α} {G : Gh} : ∀ {xs : List α} {cs : List Value} {i : Nat} {x : α}, rows k G cs xs → xs[i]? = some x → k.rep G ((cs.drop (i * k.n)).take k.n) x
  | [], _, _, _, _, h => by simp at h
  | y :: ys, cs, 0, x, ⟨h1, _⟩, h => by simp at h; subst h; simpa using h1
  | y :: ys, cs, i + 1, x, ⟨_, h2⟩, h => by
    have := rows_get h2 (i := i) (x := x) (by simpa using h)
    rw [List.drop_drop] at this
    rw [Nat.succ_mul, Nat.add_comm (i * k.n)]; exact this
def splice (cs : List Value) (o : Nat) (ds : List Value) : List Value := cs.take o ++ ds ++ cs.drop (o + ds.length)
theorem splice_length {cs ds : List Value} {o : Nat} (h : o + ds.length ≤ cs.length) : (splice cs o ds).length = cs.length := by
  simp only [splice, List.length_append, List.length_take, List.length_drop]; omega
theorem rows_set {α} {k : Kd α} {G : Gh} {y : α} {ds : List Value} (hy : k.rep G ds y) : ∀ {xs : List α} {cs : List Value} {i : Nat}, i < xs.length → rows k G cs xs →
    rows k G (splice cs (i * k.n) ds) (xs.set i y)
  | [], _, _, h, _ => by simp at h
  | x :: xs, cs, 0, _, ⟨h1, h2⟩ => by
    have l1 := k.len hy
    refine ⟨?_, ?_⟩
    · simp only [splice, Nat.zero_mul, List.take_zero, List.nil_append]
      rw [List.take_append_of_le_length (by omega), ← l1, List.take_length]; exact hy
    · simp only [splice, Nat.zero_mul, List.take_zero, List.nil_append, Nat.zero_add]
      rw [← l1, List.drop_left', l1]
      · exact h2
      · rfl
  | x :: xs, cs, i + 1, h, ⟨h1, h2⟩ => by
    have l1 := k.len h1
    have l2 := rows_len h2
    simp only [List.length_take, List.length_drop, List.length_cons] at l1 l2 h
    have hle : k.n ≤ cs.length := by omega
    refine ⟨?_, ?_⟩
    · simp only [splice, List.append_assoc]
      rw [List.take_append_of_le_length (by simp only [List.length_take]; rw [Nat.succ_mul]; omega), List.take_take, Nat.min_eq_left (by rw [Nat.succ_mul]; omega)]
      exact h1
    · have := rows_set (cs := cs.drop k.n) hy (i := i) (by omega) h2
      have e : (splice cs ((i + 1) * k.n) ds).drop k.n = splice (cs.drop k.n) (i * k.n) ds := by
        simp only [splice, List.append_assoc]
        rw [List.drop_append_of_le_length (by simp only [List.length_take]; rw [Nat.succ_mul]; omega)]
        rw [List.drop_take, List.drop_drop]
        congr 2
        · rw [Nat.succ_mul]; omega
        · congr 1; rw [Nat.succ_mul]; omega
      rw [e]; exact this
theorem rows_take {α} {k : Kd α} {G : Gh} : ∀ {xs : List α} {cs : List Value} (m : Nat), rows k G cs xs → rows k G cs (xs.take m)
  | [], _, _, _ => by simp [rows]
  | x :: xs, cs, 0, _ => by simp [rows]
  | x :: xs, cs, m + 1, ⟨h1, h2⟩ => by simp only [List.take_succ_cons]; exact ⟨h1, rows_take m h2⟩
theorem rows_drop {α} {k : Kd α} {G : Gh} : ∀ {xs : List α} {cs : List Value} (m : Nat), rows k G cs xs → rows k G (cs.drop (m * k.n)) (xs.drop m)
  | [], _, _, _ => by simp [rows]
  | x :: xs, cs, 0, h => by simpa using h
  | x :: xs, cs, m + 1, ⟨_, h2⟩ => by
    have := rows_drop m h2
    rw [List.drop_drop] at this
    simp only [List.drop_succ_cons]
    rw [Nat.succ_mul, Nat.add_comm]; exact this
theorem rows_ext {α} {k : Kd α} {G : Gh} : ∀ {xs : List α} {cs ds : List Value}, cs.take (xs.length * k.n) = ds.take (xs.length * k.n) → rows k G cs xs → rows k G ds xs
  | [], _, _, _, _ => trivial
  | x :: xs, cs, ds, h, ⟨h1, h2⟩ => by
    simp only [List.length_cons, Nat.succ_mul] at h
    refine ⟨?_, ?_⟩
    · have := congrArg (List.take k.n) h
      simp only [List.take_take, Nat.min_eq_left (Nat.le_add_left k.n (xs.length * k.n))] at this
      rw [← this]; exact h1
    · refine rows_ext ?_ h2
      have := congrArg (List.drop k.n) h
      simp only [List.drop_take] at this
      simpa using this
theorem rows_append {α} {k : Kd α} {G : Gh} : ∀ {xs ys : List α} {cs ds : List Value}, rows k G cs xs → cs.length = xs.length * k.n → rows k G ds ys → rows k G (cs ++ ds) (xs ++ ys)
  | [], ys, cs, ds, _, hl, h => by
    have : cs = [] := by simpa using hl
    subst this; simpa using h
  | x :: xs, ys, cs, ds, ⟨h1, h2⟩, hl, h => by
    have l1 : k.n ≤ cs.length := by rw [hl]; simp only [List.length_cons, Nat.succ_mul]; omega
    refine ⟨?_, ?_⟩
    · rw [List.take_append_of_le_length l1]; exact h1
    · rw [List.drop_append_of_le_length l1]
      exact rows_append h2 (by simp only [List.length_drop, hl, List.length_cons, Nat.succ_mul]; omega) h
theorem rows_pl {α} {k : Kd α} {G : Gh} : ∀ {xs : List α} {cs : List Value}, rows k G cs xs → ∀ c ∈ cs.take (xs.length * k.n), plain c = true
  | [], _, _, c, h => by simp at h
  | x :: xs, cs, ⟨h1, h2⟩, c, h => by
    simp only [List.length_cons, Nat.succ_mul, Nat.add_comm _ k.n, List.take_add] at h
    rcases List.mem_append.1 h with h | h
    · exact k.pl h1 c h
    · exact rows_pl h2 c h
theorem rows_replicate {α} {k : Kd α} {G : Gh} {cs : List Value} {x : α} (h : k.rep G cs x) : ∀ m, rows k G (List.replicate m cs).flatten (List.replicate m x)
  | 0 => by simp [rows]
  | m + 1 => by
    have l := k.len h
    simp only [List.replicate_succ, List.flatten_cons]
    refine ⟨?_, ?_⟩
    · rw [List.take_append_of_le_length (by omega), ← l, List.take_length]; exact h
    · rw [← l, List.drop_left' (by rfl)]; exact rows_replicate h m
/-! ### structs: pairs of kinds, kinds of a structure, arrays -/
def kProd {α β} (k : Kd α) (l : Kd β) : Kd (α × β) where
  n := k.n + l.n
  ag := true
  rep G cs x := cs.length = k.n + l.n ∧ k.rep G (cs.take k.n) x.1 ∧ l.rep G (cs.drop k.n) x.2
  len h := h.1
  mono h r := ⟨r.1, k.mono h r.2.1, l.mono h r.2.2⟩
  pl := by
    rintro G cs x ⟨h, h1, h2⟩ c hc
    rw [← List.take_append_drop k.n cs] at hc
    rcases List.mem_append.1 hc with hc | hc
    · exact k.pl h1 c hc
    · exact l.pl h2 c hc
  one h := by simp at h
  pos := by have := k.pos; omega
def kIso {α β} (k : Kd α) (f : β → α) : Kd β where
  n := k.n
  ag := true
  rep G cs x := k.rep G cs (f x)
  len h := k.len h
  mono h r := k.mono h r
  pl h := k.pl h
  one h := by simp at h
  pos := k.pos
def kArr {α} (m : Nat) (hm : 0 < m) (k : Kd α) : Kd (List α) where
  n := m * k.n
  ag := true
  rep G cs xs := xs.length = m ∧ cs.length = m * k.n ∧ rows k G cs xs
  len h := h.2.1
  mono h r := ⟨r.1, r.2.1, rows_mono h r.2.2⟩
  pl := by
    rintro G cs xs ⟨h1, h2, h3⟩ c hc
    refine rows_pl h3 c ?_
    rw [h1, ← h2, List.take_length]; exact hc
  one h := by simp at h
  pos := Nat.mul_pos hm k.pos
/-! ### immutable memory -/
def Kd.at {α} (k : Kd α) (G : Gh) (p : Addr) (x : α) : Prop :=
  p.spot = none ∧ ∃ C T fr, G p.block = some (.cells C T fr) ∧ k.rep G ((C.toList.drop p.off).take k.n) x
theorem Kd.at_mono {α} {k : Kd α} {G H : Gh} {p : Addr} {x : α} (h : Gh.le G H) : k.at G p x → k.at H p x := by
  rintro ⟨h0, C, T, fr, h1, h2⟩
  exact ⟨h0, C, T, fr, h _ _ h1, k.mono h h2⟩
def kRef {α} (k : Kd α) : Kd α := mk1 (fun G v x => ∃ p, v = .pointer (some p) ∧ k.at G p x)
  (by rintro G H v x h ⟨p, rfl, hp⟩; exact ⟨p, rfl, Kd.at_mono h hp⟩) (by rintro G v x ⟨p, rfl, _⟩; rfl)
theorem kRef_val {α} {k : Kd α} {G v x} : (kRef k).val G v x ↔ ∃ p, v = .pointer (some p) ∧ k.at G p x := mk1_val (fun G v x => ∃ p, v = .pointer (some p) ∧ k.at G p x) rfl fun _ _ _ => Iff.rfl
def slRep {α} (k : Kd α) (G : Gh) (v : Value) (xs : List α) : Prop :=
  ∃ a cap, v = .slice a xs.length cap ∧ xs.length ≤ cap ∧ (a = none → cap = 0) ∧
    ∀ p, a = some p → p.spot = none ∧ ∃ C T fr, G p.block = some (.cells C T fr) ∧ p.off + cap * k.n ≤ C.size ∧ rows k G (C.toList.drop p.off) xs
theorem slRep_mono {α} {k : Kd α} {G H : Gh} {v : Value} {xs : List α} (h : Gh.le G H) : slRep k G v xs → slRep k H v xs := by
  rintro ⟨a, cap, rfl, h1, h2, h3⟩
  refine ⟨a, cap, rfl, h1, h2, fun p hp => ?_⟩
  obtain ⟨h4, C, T, fr, h5, h6, h7⟩ := h3 p hp
  exact ⟨h4, C, T, fr, h _ _ h5, h6, rows_mono h h7⟩
def kSl {α} (k : Kd α) : Kd (List α) := mk1 (slRep k) slRep_mono (by rintro G v xs ⟨a, cap, rfl, _⟩; rfl)
theorem kSl_val {α} {k : Kd α} {G v} {xs : List α} : (kSl k).val G v xs ↔ slRep k G v xs := mk1_val (slRep k) rfl fun _ _ _ => Iff.rfl
/-! ### fields: places within a value -/
structure Fld {α β} (k : Kd α) (f : Kd β) where
  off : Nat
  get : α → β
  set : α → β → α
  fits : off + f.n ≤ k.n
  hget : ∀ {G cs x}, k.rep G cs x → f.rep G ((cs.drop off).take f.n) (get x)
  hset : ∀ {G cs x ds y}, k.rep G cs x → f.rep G ds y → k.rep G (splice cs off ds) (set x y)
def Fld.id {α} (k : Kd α) : Fld k k where
  off := 0
  get x := x
  set _ y := y
  fits := by omega
  hget {G cs x} h := by have := k.len h; rw [List.drop_zero, ← this, List.take_length]; exact h
  hset {G cs x ds y} h h' := by
    have a := k.len h; have b := k.len h'
    have : splice cs 0 ds = ds := by simp only [splice, List.take_zero, List.nil_append, Nat.zero_add]; rw [b, ← a, List.drop_length, List.append_nil]
    rw [this]; exact h'
def Fld.comp {α β γ} {k : Kd α} {f : Kd β} {g : Kd γ} (p : Fld k f) (q : Fld f g) : Fld k g where
  off := p.off + q.off
  get x := q.get (p.get x)
  set x y := p.set x (q.set (p.get x) y)
  fits := by have := p.fits; have := q.fits; omega
  hget {G cs x} h := by
    have := q.hget (p.hget h)
    rw [List.drop_take, List.drop_drop, List.take_take, Nat.min_eq_left (by have := q.fits; omega)] at this
    exact this
  hset {G cs x ds y} h h' := by
    have hk := k.len h
    have hq := q.hset (p.hget h) h'
    have hp := p.hset h hq
    have e : splice cs p.off (splice ((cs.drop p.off).take f.n) q.off ds) = splice cs (p.off + q.off) ds := by
      have l := g.len h'
      have a := p.fits; have b := q.fits
      have hl : (splice ((cs.drop p.off).take f.n) q.off ds).length = f.n := by
        rw [splice_length]
        · simp only [List.length_take, List.length_drop]; omega
        · simp only [List.length_take, List.length_drop]; omega
      apply List.ext_getElem?
      intro i
      rw [splice, hl, splice, splice]
      simp only [List.getElem?_append, List.length_append, List.length_take, List.length_drop, List.getElem?_take, List.getElem?_drop]
      repeat' split
      all_goals first | rfl | omega | (congr 1; omega) | skip
    rw [e] at hp; exact hp
def Fld.fst {α β} (k : Kd α) (l : Kd β) : Fld (kProd k l) k where
  off := 0
  get x := x.1
  set x y := (y, x.2)
  fits := by simp [kProd]
  hget {G cs x} h := by rw [List.drop_zero]; exact h.2.1
  hset {G cs x ds y} h h' := by
    obtain ⟨h0, h1, h2⟩ := h
    have l1 := k.len h'
    have e1 : (splice cs 0 ds).take k.n = ds := by
      simp only [splice, List.take_zero, List.nil_append]
      rw [List.take_append_of_le_length (by omega), ← l1, List.take_length]
    have e2 : (splice cs 0 ds).drop k.n = cs.drop k.n := by
      simp only [splice, List.take_zero, List.nil_append, Nat.zero_add]
      rw [← l1, List.drop_left' (by rfl)]
    refine ⟨by rw [splice_length (by omega)]; exact h0, by rw [e1]; exact h', by rw [e2]; exact h2⟩
def Fld.snd {α β} (k : Kd α) (l : Kd β) : Fld (kProd k l) l where
  off := k.n
  get x := x.2
  set x y := (x.1, y)
  fits := by simp [kProd]
  hget {G cs x} h := by
    obtain ⟨h0, h1, h2⟩ := h
    have := l.len h2
    rw [← this, List.take_length]; exact h2
  hset {G cs x ds y} h h' := by
    obtain ⟨h0, h1, h2⟩ := h
    have l2 := l.len h'
    have e : splice cs k.n ds = cs.take k.n ++ ds := by
      simp only [splice]
      rw [l2, ← h0, List.drop_length, List.append_nil]
    have lt : (cs.take k.n).length = k.n := by simp only [List.length_take]; omega
    refine ⟨by rw [splice_length (by omega)]; exact h0, ?_, ?_⟩
    · rw [e, List.take_append_of_le_length (by omega), List.take_take, Nat.min_self]; exact h1
    · rw [e, List.drop_left' lt]; exact h'
def Fld.iso {α β} (k : Kd α) (f : β → α) (g : α → β) (hfg : ∀ x, f (g x) = x) : Fld (kIso k f) k where
  off := 0
  get x := f x
  set _ y := g y
  fits := by simp [kIso]
  hget {G cs x} h := (Fld.id k).hget h
  hset {G cs x ds y} h h' := by
    show k.rep G _ (f (g y))
    rw [hfg]; exact (Fld.id k).hset (x := f x) h h'
def Fld.idx {α} [Inhabited α] {m : Nat} {hm : 0 < m} (k : Kd α) (i : Nat) (hi : i < m) : Fld (kArr m hm k) k where
  off := i * k.n
  get xs := xs.getD i default
  set xs y := xs.set i y
  fits := by
    show i * k.n + k.n ≤ m * k.n
    rw [← Nat.succ_mul]; exact Nat.mul_le_mul_right _ hi
  hget {G cs xs} h := by
    obtain ⟨h1, h2, h3⟩ := h
    refine rows_get h3 (i := i) ?_
    rw [List.getD_eq_getElem?_getD, List.getElem?_eq_getElem (by omega)]; rfl
  hset {G cs xs ds y} h h' := by
    obtain ⟨h1, h2, h3⟩ := h
    have l := k.len h'
    have hle : i * k.n + k.n ≤ m * k.n := by rw [← Nat.succ_mul]; exact Nat.mul_le_mul_right _ hi
    refine ⟨by simpa using h1, ?_, rows_set h' (by omega) h3⟩
    rw [splice_length (by omega)]; exact h2
end Go.Sy
