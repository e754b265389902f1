/- A library for walks that a program prints: kinds of data, what a call owns, one lemma for each operation. No conditions. -/
import Derived.Test.YthhhomgbpnmeeaaGreatDoorSy12
set_option linter.all false
namespace Go.Sy
open Go
theorem zr_prod {α β} {k : Kd α} {l : Kd β} {G : Gh} {c d : List Value} {x : α} {y : β} (h : k.rep G c x) (h' : l.rep G d y) : (kProd k l).rep G (c ++ d) (x, y) := by
  have l1 := k.len h
  have l2 := l.len h'
  refine ⟨by simp [l1, l2], ?_, ?_⟩
  · rw [← l1, List.take_left' rfl]; exact h
  · rw [← l1, List.drop_left' rfl]; exact h'
theorem zr_iso {α β} {k : Kd α} {f : β → α} {G : Gh} {c : List Value} {x : β} (h : k.rep G c (f x)) : (kIso k f).rep G c x := h
theorem zr_arr {α} {k : Kd α} {m : Nat} {hm : 0 < m} {G : Gh} {c : List Value} {x : α} (h : k.rep G c x) : (kArr m hm k).rep G (List.replicate m c).flatten (List.replicate m x) :=
  ⟨by simp, by simp [List.sum_replicate_nat, k.len h], rows_replicate h m⟩
theorem zr_int {k : IntKind} {G : Gh} {n : Int} : (kInt k).rep G [.int k n] n := ⟨_, rfl, rfl⟩
theorem zr_byte {G : Gh} : kByte.rep G [.int .u8 0] 0 := ⟨_, rfl, rfl⟩
theorem zr_bool {G : Gh} {b : Bool} : kBool.rep G [.bool b] b := ⟨_, rfl, rfl⟩
theorem zr_str {G : Gh} {s : ByteArray} : kStr.rep G [.string s] s := ⟨_, rfl, rfl⟩
theorem zr_f64 {G : Gh} {n : Nat} : kF64.rep G [.float .f64 n] n := ⟨_, rfl, rfl⟩
theorem nil_slRep {α} {k : Kd α} {G : Gh} : slRep k G (.slice none 0 0) [] := ⟨none, 0, rfl, Nat.le_refl _, fun _ => rfl, by simp⟩
theorem zr_sl {α} {k : Kd α} {G : Gh} : (kSl k).rep G [.slice none 0 0] [] := ⟨_, rfl, nil_slRep⟩
theorem zr_ex {G : Gh} {v : Value} (h : plain v = true) : kEx.rep G [v] v := ⟨_, rfl, rfl, h⟩
theorem nil_sl {α} {k : Kd α} {G : Gh} : (kSl k).val G (.slice none 0 0) [] := kSl_val.2 nil_slRep
theorem ex_val {G : Gh} {v : Value} (h : plain v = true) : kEx.val G v v := kEx_val.2 ⟨rfl, h⟩
theorem int_val {G : Gh} {k : IntKind} {n : Int} : (kInt k).val G (.int k n) n := kInt_val.2 rfl
theorem bool_val {G : Gh} {b : Bool} : kBool.val G (.bool b) b := kBool_val.2 rfl
theorem str_val {G : Gh} {s : ByteArray} : kStr.val G (.string s) s := kStr_val.2 rfl
theorem f64_val {G : Gh} {n : Nat} : kF64.val G (.float .f64 n) n := kF64_val.2 rfl
section
variable {P : Program} {w w' : World} {c : Cx} {G : Gh} {Δ : List Own}
variable {ops : Array Oper} {Q : Exit → Act → World → Prop} {rest : List Oper} {n : Nat} {a : Act} {l : List (Nat × Value)} {d : Nat} {ty : TypeId} {pos : String} {af : Array Edge}
theorem St.nil {α} (k : Kd α) (T : TypeId) (h : St c G w Δ) : St c G w (⟨k, [], 0, none, T⟩ :: Δ) where
  sat := h.sat
  own e he := by
    rcases List.mem_cons.1 he with rfl | he
    · exact ⟨Nat.le_refl _, fun _ => rfl, by simp⟩
    · exact h.own e he
  nd := by simpa using h.nd
  fr := h.fr
  low e he b hb := by
    rcases List.mem_cons.1 he with rfl | he
    · cases hb
    · exact h.low e he b hb
  size := h.size
  gle := h.gle
  gnew := h.gnew
  os := h.os
  tape := h.tape
  output := h.output
theorem St.drop {e : Own} (h : St c G w (e :: Δ)) : St c G w Δ := h.sub (List.sublist_cons_self ..)
theorem frz {α} {k : Kd α} {xs : List α} {cap : Nat} {b : Option Nat} {T : TypeId} (j : Nat) (h : St c G w Δ) (hj : Δ[j]? = some ⟨k, xs, cap, b, T⟩) : ∃ H, Gh.le G H ∧ St c H w (Δ.eraseIdx j) ∧ (kSl k).val H (hdr b xs.length cap) xs := by
  obtain ⟨H, h1, h2, h3⟩ := (h.pull hj).freeze
  exact ⟨H, h1, h2, kSl_val.2 h3⟩
theorem frzB {α} {k : Kd α} {x : α} {b : Nat} {T : TypeId} (j : Nat) (h : St c G w Δ) (hj : Δ[j]? = some ⟨k, [x], 1, some b, T⟩) : ∃ H, Gh.le G H ∧ St c H w (Δ.eraseIdx j) ∧ (kRef k).val H (.pointer (some (adr b 0 k.n (Fld.id k).off))) x := by
  obtain ⟨H, h1, h2, h3⟩ := (h.pull hj).freezeBox
  exact ⟨H, h1, h2, kRef_val.2 ⟨_, rfl, adr_box k b ▸ h3⟩⟩
theorem ifT {x y : Code} {o : Operand} {b : Bool} (K : Tm n a l) (hx : ev l o = some (.bool b)) (hb : b = true) (h : x.wp P Q a w) : (Code.cond o x y).wp P Q a w := wp_cond_true (by rw [K.eval hx, hb]) h
theorem ifF {x y : Code} {o : Operand} {b : Bool} (K : Tm n a l) (hx : ev l o = some (.bool b)) (hb : b = false) (h : y.wp P Q a w) : (Code.cond o x y).wp P Q a w := wp_cond_false (by rw [K.eval hx, hb]) h
/-! ### results -/
def resB (P : Program) (l : List (Nat × Value)) (w : World) : List ResultVar → List Value → Prop
  | [], [] => True
  | .tmp t :: rs, v :: vs => lk l t = some v ∧ resB P l w rs vs
  | .cell p t :: rs, v :: vs => (∃ q, lk l p = some (.pointer (some q)) ∧ (loadVar t q).run P w = .ok v w) ∧ resB P l w rs vs
  | _, _ => False
def resOne (a : Act) : ResultVar → Sem Value
  | .tmp t => pure (a.tmps.getD t undef)
  | .cell p t => do loadVar t (← asAddr (a.tmps.getD p undef))
theorem run_res (K : Tm n a l) : ∀ (rs : List ResultVar) (vs : List Value), resB P l w rs vs → (rs.mapM (resOne a)).run P w = .ok vs w
  | [], [], _ => by simp
  | [], _ :: _, h => by simp [resB] at h
  | .tmp t :: rs, [], h => by simp [resB] at h
  | .cell p t :: rs, [], h => by simp [resB] at h
  | .tmp t :: rs, v :: vs, h => by
    have ih := run_res K rs vs h.2
    simp only [List.mapM_cons, Sem.run_bind, resOne, Sem.run_pure, Result.andThen_ok, ih, K.getD h.1]
  | .cell p t :: rs, v :: vs, h => by
    have ih := run_res K rs vs h.2
    obtain ⟨q, h1, h2⟩ := h.1
    simp only [List.mapM_cons, Sem.run_bind, resOne, Sem.run_pure, Result.andThen_ok, ih, K.getD h1, asAddr, h2]
def pack : List Value → Value
  | [v] => v
  | vs => .tuple vs.toArray
theorem fin {fn : Func} {R : Value → Gh → List Own → Prop} {rs : List ResultVar} {e : Exit} (vs : List Value) (K : Tm n a l) (h : St c G w Δ) (hr : fn.results = rs.toArray) (hv : resB P l w rs vs) (he : e = .ret ∨ e = .normal) (hR : R (pack vs) G Δ) : bodyPost P fn (Fin c R) e a w := by
  have hrun : (results fn a.tmps).run P w = .ok (pack vs) w := by
    have he : results fn a.tmps = (do let vs ← fn.results.mapM (resOne a); pure (if h : vs.size = 1 then vs[0] else .tuple vs)) := by
      unfold results
      congr 1
    rw [he, hr, Array.mapM_eq_mapM_toList]
    simp only [Sem.run_bind, Sem.run_map, run_res K rs vs hv, Result.andThen_ok]
    clear he hR hv
    match vs with
    | [] => simp [pack]
    | [v] => simp [pack]
    | v :: u :: vs => simp [pack]
  rcases he with rfl | rfl
  · exact ⟨K.df, _, hrun, _, G, Δ, rfl, h, hR⟩
  · exact ⟨K.df, _, hrun, _, G, Δ, rfl, h, hR⟩
theorem Tm.lk_eq (K : Tm n a l) (t : Nat) {v : Option Value} (h : lk l t = v) : lk l t = v := h
theorem resOwn {α β} {k : Kd α} {xs : List α} {cap b : Nat} {T t : TypeId} {i : Nat} {x : α} {f : Kd β} {p : Nat} (j : Nat) (F : Fld k f) (h : St c G w Δ) (hj : Δ[j]? = some ⟨k, xs, cap, some b, T⟩) (hp : lk l p = some (.pointer (some (adr b i k.n F.off)))) (hi : xs[i]? = some x) (hT : tyOf P t = some (f.n, f.ag)) :
    ∃ v, f.val G v (F.get x) ∧ ∃ q, lk l p = some (.pointer (some q)) ∧ (loadVar t q).run P w = .ok v w := by
  obtain ⟨v, hr, hv⟩ := own_read (P := P) F h hj hi hT
  exact ⟨v, hv, _, hp, hr⟩
def selL (js : List Nat) (Δ : List Own) : List Own := js.filterMap (Δ[·]?)
def nodupB : List Nat → Bool
  | [] => true
  | j :: js => !js.contains j && nodupB js
theorem St.sel {Δ : List Own} (js : List Nat) (hj : nodupB js = true) (h : St c G w Δ) : St c G w (selL js Δ) := by
  have hnd : js.Nodup := by
    induction js with
    | nil => exact List.nodup_nil
    | cons j js ih =>
      simp only [nodupB, Bool.and_eq_true, Bool.not_eq_true', List.contains_eq_mem, decide_eq_false_iff_not] at hj
      exact List.nodup_cons.2 ⟨hj.1, ih hj.2⟩
  refine ⟨h.sat, fun e he => ?_, ?_, h.fr, fun e he => ?_, h.size, h.gle, h.gnew, h.os, h.tape, h.output⟩
  · obtain ⟨j, _, hj'⟩ := List.mem_filterMap.1 he
    exact h.own e (List.mem_of_getElem? hj')
  · -- places are told apart, so are the blocks
    clear hj
    have hinj : ∀ (i j : Nat) (e f : Own) (b : Nat), Δ[i]? = some e → Δ[j]? = some f → e.b = some b → f.b = some b → i = j := by
      intro i j e f b hi hj he hf
      have hn := h.nd
      clear h hnd
      induction Δ generalizing i j with
      | nil => simp at hi
      | cons d Δ ih =>
        simp only [List.filterMap_cons] at hn
        have hn' : (Δ.filterMap (·.b)).Nodup := by
          split at hn
          · exact hn
          · exact (List.nodup_cons.1 hn).2
        cases i with
        | zero =>
          cases j with
          | zero => rfl
          | succ j =>
            simp only [List.getElem?_cons_zero, Option.some.injEq] at hi
            simp only [List.getElem?_cons_succ] at hj
            subst hi
            rw [he] at hn
            exact absurd (List.mem_filterMap.2 ⟨f, List.mem_of_getElem? hj, hf⟩) (List.nodup_cons.1 hn).1
        | succ i =>
          cases j with
          | zero =>
            simp only [List.getElem?_cons_zero, Option.some.injEq] at hj
            simp only [List.getElem?_cons_succ] at hi
            subst hj
            rw [hf] at hn
            exact absurd (List.mem_filterMap.2 ⟨e, List.mem_of_getElem? hi, he⟩) (List.nodup_cons.1 hn).1
          | succ j => exact congrArg (· + 1) (ih i j (by simpa using hi) (by simpa using hj) hn')
    induction js with
    | nil => exact List.nodup_nil
    | cons j js ih =>
      have hnd' := List.nodup_cons.1 hnd
      have ih' := ih hnd'.2
      simp only [selL, List.filterMap_cons] at ih' ⊢
      cases hj : Δ[j]? with
      | none => exact ih'
      | some e =>
        simp only [List.filterMap_cons]
        cases hb : e.b with
        | none => exact ih'
        | some b =>
          refine List.nodup_cons.2 ⟨fun hm => ?_, ih'⟩
          obtain ⟨f, hf, hfb⟩ := List.mem_filterMap.1 hm
          obtain ⟨i, hi, hif⟩ := List.mem_filterMap.1 hf
          have := hinj j i e f b hj hif hb hfb
          subst this
          exact hnd'.1 hi
  · obtain ⟨j, _, hj'⟩ := List.mem_filterMap.1 he
    exact h.low e (List.mem_of_getElem? hj')
theorem joinS {S : Type} {x y : Code} (J : S → Act → World → Prop) (M : S → Prop) (k : ∀ s, M s → ∀ a w, J s a w → y.wp P Q a w) (s : (∀ s, M s → ∀ a w, J s a w → y.wp P Q a w) → x.wp P (Exit.then (y.wp P Q) Q) a w) : (Code.seq x y).wp P Q a w := wp_seq (s k)
end
end Go.Sy
