/- A library for walks that a program prints: kinds of data, what a call owns, one lemma for each operation. No conditions. -/
import Derived.Test.YthhhomgbpnmeeaaGreatDoorSy22
set_option linter.all false
namespace Go.Sy
open Go
section
variable {P : Program} {c : Cx} {G : Gh} {Δ : List Own} {opl : List Oper} {φ : List Fct} {l0 : List (Nat × Value)} {n m d : Nat} {op : Op} {ty : TypeId} {pos : String} {af : Array Edge}
theorem kE {u : Value} {d : Nat} {L : List (Nat × Value)} {H : Gh} (k : ∃ v O, lk L d = some v ∧ fE u L H v O) : lk L d = some u := by
  obtain ⟨v, O, h, -, rfl⟩ := k
  exact h
theorem hpX {u : Value} (ext : List (Nat × Value)) (hx : ∀ {H L}, Sy.sub L l0 → kn opl φ H L m af.toList → Sy.sub L ext)
    (step : ∀ {a w H X L Q}, Gh.le G H → St c H w (Δ ++ X) → Tm n a (ext ++ L) → (∀ a, Tm n a ((d, u) :: (ext ++ L)) → wpList P opl.toArray Q [] a w) → wpList P opl.toArray Q [⟨some d, op, ty, pos, af, none⟩] a w) :
    Hp P c n opl φ m l0 G ⟨some d, op, ty, pos, af, none⟩ (fE u) Δ Δ := by
  intro a w H L X e h K hs hk
  have h1 := hx hs hk
  exact step e h (K.addx _ h1) fun a K => wpList_nil ⟨rfl, H, [], Gh.refl _, h, _, K.dropx _ h1, rfl, rfl⟩
theorem hpT {β : Type} {k : Kd β} {x : β} (ext : List (Nat × Value)) (hx : ∀ {H L}, Sy.sub L l0 → kn opl φ H L m af.toList → Sy.sub L ext)
    (step : ∀ {a w H X L Q}, Gh.le G H → St c H w (Δ ++ X) → Tm n a (ext ++ L) → (∀ a v, Tm n a ((d, v) :: (ext ++ L)) → k.val H v x → wpList P opl.toArray Q [] a w) → wpList P opl.toArray Q [⟨some d, op, ty, pos, af, none⟩] a w) :
    Hp P c n opl φ m l0 G ⟨some d, op, ty, pos, af, none⟩ (fT k x) Δ Δ := by
  intro a w H L X e h K hs hk
  have h1 := hx hs hk
  exact step e h (K.addx _ h1) fun a v K q => wpList_nil ⟨rfl, H, [], Gh.refl _, h, _, K.dropx _ h1, rfl, q⟩
theorem hpQ {α : Type} {k : Kd α} {x : α} {u : Value} {t : Nat} (hk : ∀ {H L}, kn opl φ H L m af.toList → ∃ v O, lk L t = some v ∧ fT k x L H v O)
    (step : ∀ {a w H X L Q v}, Gh.le G H → St c H w (Δ ++ X) → Tm n a ((t, v) :: L) → k.val H v x → (∀ a, Tm n a ((d, u) :: (t, v) :: L) → wpList P opl.toArray Q [] a w) → wpList P opl.toArray Q [⟨some d, op, ty, pos, af, none⟩] a w) :
    Hp P c n opl φ m l0 G ⟨some d, op, ty, pos, af, none⟩ (fE u) Δ Δ := by
  intro a w H L X e h K hs hk'
  obtain ⟨v, O, h1, -, q⟩ := hk hk'
  have h2 : Sy.sub L [(t, v)] := ⟨h1, trivial⟩
  exact step e h (K.addx _ h2) q fun a K => wpList_nil ⟨rfl, H, [], Gh.refl _, h, _, K.dropx _ h2, rfl, rfl⟩
theorem hpR {α β : Type} {k : Kd α} {x : α} {k2 : Kd β} {y : β} {t : Nat} (hk : ∀ {H L}, kn opl φ H L m af.toList → ∃ v O, lk L t = some v ∧ fT k x L H v O)
    (step : ∀ {a w H X L Q v}, Gh.le G H → St c H w (Δ ++ X) → Tm n a ((t, v) :: L) → k.val H v x → (∀ a u, Tm n a ((d, u) :: (t, v) :: L) → k2.val H u y → wpList P opl.toArray Q [] a w) → wpList P opl.toArray Q [⟨some d, op, ty, pos, af, none⟩] a w) :
    Hp P c n opl φ m l0 G ⟨some d, op, ty, pos, af, none⟩ (fT k2 y) Δ Δ := by
  intro a w H L X e h K hs hk'
  obtain ⟨v, O, h1, -, q⟩ := hk hk'
  have h2 : Sy.sub L [(t, v)] := ⟨h1, trivial⟩
  exact step e h (K.addx _ h2) q fun a u K q2 => wpList_nil ⟨rfl, H, [], Gh.refl _, h, _, K.dropx _ h2, rfl, q2⟩
end
/-! ### a region that draws, at one stage -/
class MonC (f : Fct) : Prop where
  h : Mon f
class MonR (R : Value → Gh → Prop) : Prop where
  h : ∀ G H v, Gh.le G H → R v G → R v H
class MonLs (fs : List Fct) : Prop where
  h : MonL fs
instance {u : Value} : MonC (fE u) := ⟨monE⟩
instance {α : Type} {k : Kd α} {x : α} : MonC (fT k x) := ⟨monT⟩
instance {cd : Bool} {f : Fct} [i : MonC f] : MonC (fG cd f) := ⟨monG i.h⟩
instance {R : Value → Gh → Prop} [i : MonR R] : MonC (fC R) := ⟨monC i.h⟩
instance : MonLs [] := ⟨trivial⟩
instance {f : Fct} {fs : List Fct} [i : MonC f] [j : MonLs fs] : MonLs (f :: fs) := ⟨i.h, j.h⟩
class NoB (f : Fct) : Prop where
  h : ∀ {L H v O}, f L H v O → O = []
class NoBs (fs : List Fct) : Prop where
  h : ∀ f ∈ fs, NoB f
instance {u : Value} : NoB (fE u) := ⟨fun h => h.1⟩
instance {α : Type} {k : Kd α} {x : α} : NoB (fT k x) := ⟨fun h => h.1⟩
instance {cd : Bool} {f : Fct} : NoB (fG cd f) := ⟨fun h => h.1⟩
instance {R : Value → Gh → Prop} : NoB (fC R) := ⟨fun h => h.1⟩
instance : NoBs [] := ⟨by simp⟩
instance {f : Fct} {fs : List Fct} [i : NoB f] [j : NoBs fs] : NoBs (f :: fs) := ⟨fun g hg => by
  rcases List.mem_cons.1 hg with rfl | hg
  · exact i
  · exact j.h g hg⟩
def amOf (opl : List Oper) : List Nat :=
  opl.foldl (fun A o => A ++ [o.after.toList.foldl (fun s e => if Region.binds .any e then s ||| 1 <<< e.on ||| A.getD e.on 0 else s) 0]) []
def hopB (opl : List Oper) (m : Nat) (l0 : List (Nat × Value)) : Bool :=
  amB (amOf opl) opl 0 && hdB opl m l0 && tailB (amOf opl) opl.length m && stB (amOf opl) m [] (List.replicate m [0]) && Nat.ble m opl.length
section
variable {P : Program} {c : Cx} {G : Gh} {Δ : List Own} {opl : List Oper} {φ : List Fct} {l0 : List (Nat × Value)} {n m : Nat} {Q : Exit → Act → World → Prop}
def Hp1 (P : Program) (c : Cx) (n : Nat) (opl : List Oper) (φ : List Fct) (m : Nat) (l0 : List (Nat × Value)) (G : Gh) (Δ : List Own) : List Oper → List Fct → Prop
  | o :: os, f :: fs => Hp P c n opl φ m l0 G o f Δ Δ ∧ Hp1 P c n opl φ m l0 G Δ os fs
  | _, [] => True
  | [], _ :: _ => False
theorem Hp1.all : ∀ {os : List Oper} {fs : List Fct} {i : Nat}, Hp1 P c n opl φ m l0 G Δ os fs → Hps P c n opl φ m l0 G [Δ] [] i os fs (List.replicate fs.length [0])
  | _, [], _, _ => by unfold Hps; split <;> simp_all
  | [], _ :: _, _, h => h.elim
  | o :: os, f :: fs, i, h => by
    refine ⟨stg1 rfl rfl h.1, Hp1.all h.2⟩
theorem got_all {H : Gh} {L : List (Nat × Value)} : ∀ {os : List Oper} {fs : List Fct} {X : List Own}, (∀ f ∈ fs, NoB f) → got H L os fs X → X = [] ∧ ∀ i f d, fs[i]? = some f → dstOf os i = some d → ∃ v, lk L d = some v ∧ f L H v []
  | [], fs, X, _, h => by
    have : X = [] := by cases fs <;> exact h
    exact ⟨this, fun i f d _ hd => by simp [dstOf] at hd⟩
  | o :: os, [], X, _, h => ⟨h, fun i f d hf => by simp at hf⟩
  | o :: os, f :: fs, X, hb, h => by
    have hb2 : ∀ g ∈ fs, NoB g := fun g hg => hb g (List.mem_cons_of_mem _ hg)
    unfold got at h
    cases hd : o.dst with
    | none =>
      rw [hd] at h
      obtain ⟨h1, h2⟩ := got_all hb2 h
      refine ⟨h1, fun i g d hg hdd => ?_⟩
      cases i with
      | zero => simp [dstOf, hd] at hdd
      | succ i => exact h2 i g d (by simpa using hg) (by simpa [dstOf] using hdd)
    | some d0 =>
      rw [hd] at h
      obtain ⟨v, O, X', rfl, h3, h4, h5⟩ := h
      obtain ⟨rfl, h2⟩ := got_all hb2 h5
      have hO := (hb f (List.mem_cons_self ..)).h h4
      subst hO
      refine ⟨rfl, fun i g d hg hdd => ?_⟩
      cases i with
      | zero =>
        simp only [List.getElem?_cons_zero, Option.some.injEq] at hg
        subst hg
        simp only [dstOf, List.getElem?_cons_zero, Option.bind_some, hd, Option.some.injEq] at hdd
        subst hdd
        exact ⟨v, h3, h4⟩
      | succ i => exact h2 i g d (by simpa using hg) (by simpa [dstOf] using hdd)
theorem wh {id : Nat} {dr : Bool} {a : Act} {w : World} {l : List (Nat × Value)} (m : Nat) (φ : List Fct) (l0 : List (Nat × Value)) (hm : P.follows .mixedOrders = true) [hmono : MonLs φ] [hno : NoBs φ] (K : Tm n a l) (h : St c G w Δ) (hl0 : sub l l0) (hops : Hp1 P c n opl φ m l0 G Δ opl φ)
    (hend : ∀ a w H L, Gh.le G H → St c H w Δ → Tm n a L → sub L l0 → (∀ i {f d}, φ[i]? = some f → dstOf opl i = some d → ∃ v, lk L d = some v ∧ f L H v []) → wpList P opl.toArray Q (opl.drop m) a w)
    (hφ : φ.length = m := by rfl) (hB : hopB opl m l0 = true := by kernel_rfl) : (Code.region id opl.toArray dr).wp P Q a w := by
  simp only [hopB, Bool.and_eq_true] at hB
  obtain ⟨⟨⟨⟨h1, h2⟩, h3⟩, h4⟩, h5⟩ := hB
  refine wp_hop (Δs := [Δ]) m φ l0 [] (List.replicate m [0]) (amOf opl) hm h1 h2 h3 h4 hφ h5 hmono.h K h rfl rfl hl0 (by subst hφ; exact Hp1.all hops) rfl ?_
  intro a w H L X e h K hs hg
  obtain ⟨rfl, hg2⟩ := got_all hno.h hg
  rw [List.append_nil] at h
  exact hend a w H L e h K hs fun i f d => hg2 i f d
theorem gE {u : Value} {d : Nat} {L : List (Nat × Value)} {H : Gh} (h : ∃ v, lk L d = some v ∧ fE u L H v []) : lk L d = some u := by
  obtain ⟨v, h, -, rfl⟩ := h
  exact h
end
theorem k1 {A R : Prop} {u : Value} {d : Nat} {L : List (Nat × Value)} {H : Gh} : A → (∃ v O, lk L d = some v ∧ fE u L H v O) ∧ R → sub L [(d, u)] := fun _ k => ⟨kE k.1, trivial⟩
theorem k2 {A R : Prop} {u v : Value} {d e : Nat} {L : List (Nat × Value)} {H : Gh} : A → (∃ x O, lk L d = some x ∧ fE u L H x O) ∧ (∃ x O, lk L e = some x ∧ fE v L H x O) ∧ R → sub L [(d, u), (e, v)] := fun _ k => ⟨kE k.1, kE k.2.1, trivial⟩
/-! ### guarded operations -/
section
variable {P : Program} {ops : Array Oper} {Q : Exit → Act → World → Prop} {rest : List Oper} {n : Nat} {a : Act} {w : World} {l : List (Nat × Value)} {d : Nat} {op : Op} {ty : TypeId} {pos : String} {af : Array Edge}
theorem g1 {j d' : Nat} {b cc : Bool} (K : Tm n a l) (hb : b = !cc) (k : ∀ a', Tm n a' ((d, undef) :: l) → wpList P ops Q rest a' w) (hj : (ops[j]?).bind (·.dst) = some d' := by rfl) (hv : lk l d' = some (.bool b) := by rfl)
    (hdn : Nat.blt d n = true := by rfl) : wpList P ops Q (⟨some d, op, ty, pos, af, some (j, cc)⟩ :: rest) a w := gn K rfl hj hv hb rfl k hdn
theorem g2 {dst : Option Tmp} {j d' : Nat} {b cc : Bool} (K : Tm n a l) (hb : b = cc) (k : wpList P ops Q (⟨dst, op, ty, pos, af, none⟩ :: rest) a w) (hj : (ops[j]?).bind (·.dst) = some d' := by rfl) (hv : lk l d' = some (.bool b) := by rfl) :
    wpList P ops Q (⟨dst, op, ty, pos, af, some (j, cc)⟩ :: rest) a w := gy K hj hv hb k
end
/-! ### short names -/
abbrev wr : Int → Int := IntKind.i64.wrap
def lks (l : List (Nat × Value)) : List (Nat × Value) → List (Option Value)
  | [] => []
  | p :: m => lk l p.1 :: lks l m
def vls : List (Nat × Value) → List (Option Value)
  | [] => []
  | p :: m => some p.2 :: vls m
theorem so {l : List (Nat × Value)} : ∀ {l' : List (Nat × Value)}, lks l l' = vls l' → sub l l'
  | [], _ => trivial
  | p :: m, h => by
    simp only [lks, vls, List.cons.injEq] at h
    exact ⟨h.1, so h.2⟩
abbrev Jn (c : Cx) (G0 : Gh) (Δ : List Own) (n : Nat) (l : List (Nat × Value)) (a : Act) (w : World) : Prop := ∃ G : Gh, Gh.le G0 G ∧ St c G w Δ ∧ Tm n a l
abbrev pA {α β : Type} {k : Kd α} {f : Kd β} (b : Nat) (F : Fld k f) : Value := .pointer (some (adr b 0 k.n F.off))
abbrev hS {α : Type} (b : Nat) (xs : List α) (m : Nat) : Value := hdr (some b) xs.length m
theorem vI {k : IntKind} {G : Gh} {x : Int} : ∀ v, (kInt k).val G v x → v = .int k x := fun _ => kInt_val.1
theorem vS {G : Gh} {x : ByteArray} : ∀ v, kStr.val G v x → v = .string x := fun _ => kStr_val.1
theorem vB {G : Gh} {x : Bool} : ∀ v, kBool.val G v x → v = .bool x := fun _ => kBool_val.1
theorem vF {G : Gh} {x : Nat} : ∀ v, kF64.val G v x → v = .float .f64 x := fun _ => kF64_val.1
theorem vX {G : Gh} {x : Value} : ∀ v, kEx.val G v x → v = x := fun _ h => (kEx_val.1 h).1
theorem gr {G : Gh} : Gh.le G G := Gh.refl G
abbrev ws := @wp_seq
abbrev wl := @wp_region_lit
abbrev wn := @wpList_nil
abbrev wb := @wp_block
abbrev wt := @wp_ret
abbrev wk := @wp_skip
abbrev bs := @bind_some
abbrev im := @ite_some
abbrev gs := @gd_some
theorem oi {α : Type} {x y : α} (h : some x = some y) : x = y := Option.some.inj h
section
variable {P : Program} {Q : Exit → Act → World → Prop} {a : Act} {w : World} {n : Nat} {l : List (Nat × Value)}
theorem sl {id : Nat} {os : List Oper} {y : Code} (h : wpList P os.toArray (Exit.then (y.wp P Q) Q) os a w) : (Code.seq (.region id os.toArray false) y).wp P Q a w := wp_seq (wp_region_lit h)
theorem nsl {id : Nat} {os : List Oper} {ops : Array Oper} {y : Code} (h : wpList P os.toArray (Exit.then (y.wp P Q) Q) os a w) : wpList P ops (Exit.then ((Code.seq (.region id os.toArray false) y).wp P Q) Q) [] a w := wpList_nil (sl h)
theorem ifm {α : Type} {x y : Code} {o : Operand} {b : Bool} {m1 m2 : Option α} {r : α} (hm : (if b = true then m1 else m2) = some r) (K : Tm n a l) (hx : ev l o = some (.bool b))
    (h1 : b = true → m1 = some r → x.wp P Q a w) (h2 : b = false → m2 = some r → y.wp P Q a w) : (Code.cond o x y).wp P Q a w := by
  rcases ite_some hm with ⟨hb, h⟩ | ⟨hb, h⟩
  · exact ifT K hx hb (h1 hb h)
  · exact ifF K hx hb (h2 hb h)
theorem fr {c : Cx} {G : Gh} {Δ : List Own} (fn : Func) {R : Value → Gh → List Own → Prop} {rv : ResultVar} {v : Value} (K : Tm n a l) (h : St c G w Δ) (hr : fn.results = [rv].toArray) (hv : resB P l w [rv] [v]) (hR : R v G Δ) : bodyPost P fn (Fin c R) .ret a w :=
  fin [v] K h hr hv (.inl rfl) hR
end
end Go.Sy
