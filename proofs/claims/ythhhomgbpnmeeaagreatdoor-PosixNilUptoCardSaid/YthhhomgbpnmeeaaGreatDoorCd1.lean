/- PosixNil: from the walk and the plain law to the row and its card, where what is read is of bulk at most 1048576. -/
import Derived.Test.YthhhomgbpnmeeaaGreatDoorSy22
import Derived.ChangeSame
import Derived.ChangeArms
import Derived.ChangeReads
import Derived.ReadAgain
import Derived.ChangeBook
import Derived.Deep.Slices
import Derived.RowKit
import Derived.WideShapes
set_option linter.all false
namespace Go.Sy
open Go Go.ChangeShapes Go.WideShapes Go.Deep Go.RowKit
/-- all that stands in a world, as what lies still -/
def still (W : World) : Gh := fun b => W.heap[b]?
theorem st0 (W : World) : St ⟨W, [], still W⟩ (still W) W [] where
  sat _ _ h := h
  own _ h := by cases h
  nd := by simp
  fr _ _ _ := rfl
  low _ h := by cases h
  size := Nat.le_refl _
  gle := Gh.refl _
  gnew _ h := .inl h
  os := rfl
  tape := rfl
  output := rfl
theorem St.old {W w : World} {G : Gh} {Δ : List Own} {g : Gh} (h : St ⟨W, [], g⟩ G w Δ) {b : Nat} (hb : b < W.heap.size) : w.heap[b]? = W.heap[b]? := h.fr b hb (by simp)
theorem St.kept {W w : World} {G : Gh} {Δ : List Own} {g : Gh} (h : St ⟨W, [], g⟩ G w Δ) (may : MemPlace → Prop) : W.keptBut w may := by
  refine ⟨h.os, h.output, fun i hi => ?_⟩
  rw [h.old hi]
  cases W.heap[i]? with
  | none => rfl
  | some o => cases o <;> simp
theorem St.same_at {W w : World} {G : Gh} {Δ : List Own} {g : Gh} (h : St ⟨W, [], g⟩ G w Δ) {p : MemPlace} (hp : p.block < W.heap.size) : W.sameAt w p := by
  cases p <;> simp only [MemPlace.block] at hp <;> simp only [World.sameAt] <;> simp [World.cell?, h.old hp]
section
variable {H : Type} {enc : TypeId × Value → H} {P : Program} {W : World}
theorem row_le {p : Program} {fits : TypeId → Bool} {e : TypeId} : ∀ {d count off n : Nat}, rowAt p fits d e count off n = true → off ≤ count * p.cellsOf e
  | 0, _, _, _, h => by simp [rowAt] at h
  | d + 1, count, off, n, h => by
    unfold rowAt at h
    simp only at h
    split at h
    · simp at h
    · rename_i hs
      have hpos : 0 < p.cellsOf e := Nat.pos_of_ne_zero hs
      have hd := Nat.div_add_mod off (p.cellsOf e)
      have hm := Nat.mod_lt off hpos
      simp only [Bool.or_eq_true, Bool.and_eq_true, beq_iff_eq, decide_eq_true_eq] at h
      rcases h with ⟨⟨h1, h2⟩, _⟩ | ⟨h1, _⟩
      · have : p.cellsOf e * (off / p.cellsOf e) ≤ p.cellsOf e * count := Nat.mul_le_mul_left _ (by omega)
        rw [Nat.mul_comm count]; omega
      · have : p.cellsOf e * (off / p.cellsOf e + 1) ≤ p.cellsOf e * count := Nat.mul_le_mul_left _ (by omega)
        rw [Nat.mul_add] at this
        rw [Nat.mul_comm count]; omega
theorem lies_le {p : Program} {e : TypeId} : ∀ {d count off n : Nat} {u : TypeId}, liesAt p d e count off u n = true → off ≤ count * p.cellsOf e
  | 0, _, _, _, _, h => by simp [liesAt] at h
  | d + 1, count, off, n, u, h => by
    unfold liesAt at h
    simp only [Bool.or_eq_true] at h
    rcases h with h | h
    · exact row_le h
    · split at h
      · exact lies_le h
      · simp at h
/-- a slice's place, by what the input is -/
theorem has_out {r : Reach} {base : Nat} {a : Addr} {e : TypeId} {n : Nat} (h : W.has P r base a e n) : a.spot = none ∧ ∃ C T fr, W.heap[a.block]? = some (.cells C T fr) ∧ a.off ≤ C.size := by
  obtain ⟨_, h1, row, cells, h2, h3⟩ := h
  refine ⟨h1, ?_⟩
  unfold World.shape? at h2
  split at h2
  · rename_i C T fr hh
    simp only [Option.some.injEq, Prod.mk.injEq] at h2
    obtain ⟨rfl, rfl⟩ := h2
    refine ⟨C, T, fr, hh, ?_⟩
    have := lies_le h3
    have h4 := Nat.div_mul_le_self C.size (P.cellsOf T)
    omega
  · simp at h2
/-- bytes that came in -/
theorem open_bytes {t e : TypeId} {r : Reach} {base : Nat} {v : Value} {n : Nat} {x : DataW H × List MemPlace} (ht : P.underlying t = some (.slice e)) (he : P.underlying e = some (.int .u8)) (hc : P.cellsOf e = 1)
    (hv : Cell.okWide P W r base t v) (h : DataW.trod enc P W 0 (fun _ => true) true n t [v] = some x) :
    ∃ xs : List UInt8, (kSl kByte).val (still W) v xs ∧ (xs = [] ∨ ∃ es sp, x.1 = .slice es sp ∧ xs.length = es.length) := by
  rcases open_slice1 ht hc h with ⟨hcs, rfl⟩ | ⟨a, len, cap, m, n', V, D, Pl, hcs, hb, hl, hm, hmm, rfl, hx⟩
  · simp only [List.cons.injEq, and_true] at hcs
    subst hcs
    exact ⟨[], nil_sl, .inl rfl⟩
  · simp only [List.cons.injEq, and_true] at hcs
    subst hcs
    simp only [if_true] at hmm
    obtain rfl : cap = m := hmm.symm
    have hh : W.has P r base a e cap := by
      simp only [Cell.okWide, ht, Cell.ok] at hv
      exact hv.2.2
    obtain ⟨hs, C, T, fr, hC, ho⟩ := has_out hh
    have hcell : ∀ i, i < cap → C[a.off + i]? = some (V i) := by
      intro i hi
      have := (hx i hi).1
      obtain ⟨ab, ao, asp⟩ := a
      simp only at hs hC
      subst hs
      by_cases h0 : i = 0
      · subst h0
        simpa [World.cell?, Addr.add, hC] using this
      · simpa [World.cell?, Addr.add, hC, h0] using this
    have hval : ∀ i, i < cap → ∃ y : UInt8, V i = .int .u8 y.toNat := by
      intro i hi
      obtain ⟨k, h1, _, h2⟩ := DataW.trod_int he (hx i hi).2
      simp only [List.cons.injEq, and_true] at h1
      simp only [Lit.wf, IntKind.min, IntKind.max, Bool.and_eq_true, decide_eq_true_eq] at h2
      refine ⟨b8 k, ?_⟩
      rw [b8_toNat (by revert h2; simp [IntKind.bits, IntKind.signed]; omega), h1]
    obtain ⟨F, hF⟩ := choose_lt (α := UInt8) hval
    refine ⟨(List.range len).map F, kSl_val.2 ⟨some a, cap, by simp, by simpa using hl, by simp, ?_⟩, .inr ⟨_, _, rfl, by simp⟩⟩
    rintro p hp
    cases hp
    refine ⟨hs, C, T, fr, hC, ?_, ?_⟩
    · show a.off + cap * 1 ≤ C.size
      rcases Nat.eq_zero_or_pos cap with h0 | h0
      · omega
      · have := (Array.getElem?_eq_some_iff.1 (hcell (cap - 1) (by omega))).1
        omega
    · have key : ∀ (m o : Nat), o + m ≤ len → rows kByte (still W) (C.toList.drop (a.off + o)) ((List.range m).map fun i => F (o + i)) := by
        intro m
        induction m with
        | zero => intro o _; simp [rows]
        | succ m ih =>
          intro o hom
          rw [List.range_succ_eq_map]
          simp only [List.map_cons, List.map_map, Nat.add_zero, rows]
          have hg : C.toList[a.off + o]? = some (V o) := by
            have := hcell o (by omega)
            simpa using this
          refine ⟨?_, ?_⟩
          · refine ⟨V o, ?_, hF o (by omega)⟩
            show (C.toList.drop (a.off + o)).take 1 = _
            rw [List.take_one]
            simp [hg]
          · have := ih (o + 1) (by omega)
            have e1 : (C.toList.drop (a.off + o)).drop kByte.n = C.toList.drop (a.off + (o + 1)) := by
              rw [List.drop_drop]; rfl
            rw [e1]
            have e2 : ((fun i => F (o + i)) ∘ Nat.succ) = fun i => F (o + 1 + i) := by
              funext i; simp only [Function.comp]; congr 1; omega
            rw [e2]; exact this
      have := key len 0 (by omega)
      simpa using this
theorem DataW.trod_float {k : FloatKind} {t : TypeId} {base : Nat} {spare : Nat → Bool} {held : Bool} {fuel : Nat} {cs : List Value} {x : DataW H × List MemPlace} (ht : P.underlying t = some (.float k)) (h : DataW.trod enc P W base spare held fuel t cs = some x) : ∃ n, cs = [.float k n] := by
  cases fuel with
  | zero => simp [DataW.trod] at h
  | succ n =>
    unfold DataW.trod at h
    rw [ht] at h
    split at h <;> simp_all
/-- behind a call that writes nothing that was there: it returns true, its arguments read as they did -/
theorem post_of_still {f : Func} {s : ChangeSpec} {apart fresh handsOn again : Bool} {W' : World} {args : Array Value} {v : Value} {ds gs : List (DataW H)} {before : List MemPlace} {T : TypeId → Prop} {G g : Gh} {Δ : List Own}
    (hW : DataW.Whole enc P f.params.toList s.vars apart W args.toList ds gs before) (hvs : s.vars = []) (hst : St ⟨W, [], g⟩ G W' Δ)
    (K : Kids P T) (hz : ∀ t e, T t → P.underlying t = some (.slice e) → 0 < P.cellsOf e) (hT : ∀ t ∈ f.params.toList, T t)
    (hres : ∀ (b : Nat) (sp : Nat → Bool) (hd : Bool), DataW.TrodAll enc P W' b sp hd f.resultTypes.toList (v.resultList f.resultTypes.size) (s.fn H (ds ++ gs)).results [])
    (hargs : (s.fn H (ds ++ gs)).args = ds) (hvars : (s.fn H (ds ++ gs)).vars = [])
    (hok : ∀ (j : Nat) (t : TypeId) (r : Value), f.resultTypes[j]? = some t → (v.resultList f.resultTypes.size)[j]? = some r → Value.okWide P W' .any 0 t r) :
    s.post enc P f apart fresh handsOn again W args v W' := by
  have hW' := hW
  have hlt : ∀ p ∈ before, p.block < W.heap.size := fun p hp => by simpa using hW.lt p hp
  obtain ⟨pa, pv, hA, hV, hps, hfz, hnd⟩ := hW
  rw [hvs] at hV
  obtain ⟨rfl, rfl⟩ := trodVars_none hV
  simp only [List.append_nil] at hps hargs hvars hres
  subst hps
  have carry : ∀ {ts : List TypeId} {vs : List Value} {ds : List (DataW H)} {ps : List MemPlace}, DataW.TrodAll enc P W 0 (fun _ => true) true ts vs ds ps → (∀ p ∈ ps, p.block < W.heap.size) → DataW.TrodAll enc P W' 0 (fun _ => true) true ts vs ds ps := by
    intro ts
    induction ts with
    | nil => intro vs ds ps h _; obtain ⟨rfl, rfl, rfl⟩ := trodAll_nil h; exact rfl
    | cons t ts ih =>
      intro vs ds ps h hp
      obtain ⟨v, vs1, d, ds1, a, b, rfl, rfl, rfl, ⟨n, h1⟩, h2⟩ := trodAll_cons h
      exact ⟨a, b, ⟨n, DataW.trod_carry n _ _ _ h1 fun p hpm => hst.same_at (hp p (List.mem_append_left _ hpm))⟩, ih h2 (fun p hpm => hp p (List.mem_append_right _ hpm)), rfl⟩
  have hA' := carry hA hlt
  have hag : ∀ sp : Nat → Bool, (∀ p ∈ before, sp p.block = true) → DataW.TrodAll enc P W' 0 sp true f.params.toList args.toList (s.fn H (ds ++ [])).args before := by
    intro sp hsp
    simp only [List.append_nil]
    rw [hargs]
    exact DataW.TrodAll.respare K hz hT hA' hsp
  have hvg : ∀ sp : Nat → Bool, DataW.TrodVars enc P W' sp s.vars (s.fn H (ds ++ [])).vars [] := by
    intro sp
    simp only [List.append_nil]
    rw [hvs, hvars]; exact rfl
  refine ⟨ds, [], before, [], before, [], hW', by simpa using hres _ _ _, hag _ (fun p hp => by simpa using hlt p hp), hvg _, World.keptBut_mono (fun p hp => ⟨hp, Or.inr (by simpa using hp)⟩) (hst.kept (· ∈ before)), fun _ => ?_⟩
  refine ⟨hok, _, _, ([] ++ before) ++ [], ⟨[] ++ before, [], trodAll_append (hag _ (fun _ _ => rfl)) (by simpa using hres _ _ _), hvg _, rfl, ?_, ?_⟩, ?_⟩
  · intro b off hp
    have hp' : MemPlace.cell b off ∈ before := by simpa using hp
    have := hlt _ hp'
    simp only [World.frozen?, hst.old (show b < W.heap.size from this)]
    have := hfz b off hp'
    simpa [World.frozen?] using this
  · intro ha
    simpa using hnd ha
  · intro p hp _
    simpa using hp
end
end Go.Sy
