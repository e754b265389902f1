/- PosixNil: from the walk and the plain law to the row and its card, where what is read is of bulk at most 1048576. -/
import Derived.Test.YthhhomgbpnmeeaaGreatDoorCd4
set_option linter.all false
namespace Go.Proofs.YthhhomgbpnmeeaaGreatDoor
open Go Go.Sy Go.ChangeShapes Go.WideShapes Go.ChangeAt Go.RowKit
set_option maxRecDepth 100000
/-- the cells of a variable that reads so -/
def flat : Nat → DataW Unit → List Value
  | 0, _ => []
  | _ + 1, .lit (.int k n) => [.int k n]
  | n + 1, .agg l => l.flatMap (flat n)
  | _ + 1, _ => []
/-- A WORLD FOR THE WITNESS: the settled one, the three variables holding what the row lists. -/
noncomputable def laidWorld (os : Os) : World :=
  let put (d : DataW Unit) (o : Obj) : Obj := match o with
    | .cells _ t frozen => .cells (flat 3 d).toArray t frozen
    | o => o
  { World.holding Tryz.prog os ⟨#[], #[], []⟩ with heap := (((World.holding Tryz.prog os ⟨#[], #[], []⟩).heap.modify 2 (put Rows.laid_cloister_sha_keys)).modify 5 (put Rows.laid_unicode_utf8_acceptRanges)).modify 4 (put Rows.laid_unicode_utf8_first) }
def arg4 : Value := .agg #[.int .i64 0, .int .i64 0, .int .i64 0, .string ⟨#[]⟩, .string ⟨#[]⟩, .slice none 0 0, .int .i64 0, .int .i64 0, .int .i64 0, .float .f64 0]
theorem laid_met (os : Os) : laidMet Tryz.prog Rows.posixNilUptoRow.laid ((laidWorld os).forCall (fun _ _ => 0) ⟨#[], #[arg4], []⟩).memory :=
  laidMet_of_run' 8 (by as_aux_lemma => kernel_rfl) (by as_aux_lemma => kernel_rfl)
theorem reads4 (os : Os) {H : Type} (enc : TypeId × Value → H) : ∃ places, DataW.whole enc Tryz.prog ((laidWorld os).forCall (fun _ _ => 0) ⟨#[], #[arg4], []⟩).memory Tryz.f4.params.toList Rows.posixNilSpec.vars false #[arg4].toList 8 =
    some ([.agg [.lit (.int .i64 0), .lit (.int .i64 0), .lit (.int .i64 0), .lit (.string []), .lit (.string []), .nil, .lit (.int .i64 0), .lit (.int .i64 0), .lit (.int .i64 0), .lit (.float .f64 0)]], [], places) :=
  ⟨[], by kernel_rfl⟩
theorem liftedUpto4 (os : Os) (started : os.Started) (H : Type) (enc : TypeId × Value → H) (F : Stop.Interp) :
    ReturnsInHanded {} Tryz.checked os 4 .any ((Rows.OpenSpec.upto Rows.posixNilSpec).preRow enc Tryz.prog Tryz.f4 Rows.posixNilUptoRow.domain false Rows.posixNilUptoRow.laid) (((Rows.OpenSpec.upto Rows.posixNilSpec).at F).post enc Tryz.prog Tryz.f4 false true false false) := by
  obtain ⟨places, hx⟩ := reads4 os enc
  refine returnsInHanded_of_row (C := Tryz.checked) (s := Rows.OpenSpec.upto Rows.posixNilSpec) own started (by as_aux_lemma => kernel_rfl) Tryz.func4
    (witness_row_at (enc := enc) (C := Tryz.checked) false (laidWorld os) #[arg4] rfl (by as_aux_lemma => kernel_rfl) (by as_aux_lemma => kernel_rfl) (by as_aux_lemma => kernel_rfl)
      (OpenSpec.preRow_of_cond 8 hx (by as_aux_lemma => kernel_rfl) (fun k hk => by cases hk; kernel_rfl) (by as_aux_lemma => kernel_rfl) (laid_met os))) ?_
  intro W base args ds gs before hval hW _ hcond _ _ _ _
  exact contract4 H enc W base args ds gs before hval hW (hcond _ rfl)
theorem said4 : Rows.PosixNilUptoSaid :=
  OpenClaim.holds_of_cond 4 Tryz.f4 rfl rfl rfl rfl rfl rfl rfl ⟨rfl, rfl, rfl, rfl, rfl⟩ rfl rfl rfl rfl rfl (by as_aux_lemma => kernel_rfl) Tryz.func4 closed4
    (of_decide_eq_true (by as_aux_lemma => kernel_rfl)) (by as_aux_lemma => (unfold Func.isWrapper; first | (rw [if_pos (by decide +kernel)]; kernel_rfl) | (rw [if_neg (by decide +kernel)]; exact ⟨rfl, rfl⟩)))
    (fun os started H enc _ F => by rw [OpenClaim.pre_eq_preRow]; exact liftedUpto4 os started H enc F)
theorem plain4 (f : FuncId) (fn : Func) (hf : Tryz.pinned.checked.prog.funcNamed "cloister/cloisterlaw22.PosixNil" = some f) (hfn : Tryz.pinned.checked.prog.funcs[f]? = some fn) :
    false = Tryz.pinned.checked.prog.looks [] ∧ ∀ (j : Nat) t, fn.params[j]? = some t → Tryz.pinned.checked.prog.wantsStandIn t = false := by
  obtain rfl : f = 4 := Option.some.inj ((show Tryz.prog.funcNamed "cloister/cloisterlaw22.PosixNil" = some 4 by kernel_rfl).symm.trans hf) |>.symm
  obtain rfl : fn = Tryz.f4 := (Option.some.inj (Tryz.func4.symm.trans hfn)).symm
  refine ⟨by kernel_rfl, fun j t ht => ?_⟩
  rw [Tryz.params4] at ht
  obtain rfl : t = 45 := by simpa using Array.mem_of_getElem? ht
  exact (show Tryz.prog.wantsStandIn 45 = false by kernel_rfl)
/-- ████ THE CARD ████ -/
theorem posixNilUpto : Rows.PosixNilUptoCardSaid :=
  Claim7.holds_tied_plain_at .later [] _ _ _ _ said4 (fun _ h => by cases h) (by as_aux_lemma => kernel_rfl) (fun _ h => by cases h) posixNilUpto_row_tie rfl ⟨rfl, rfl⟩ (by as_aux_lemma => kernel_rfl) rfl plain4 (by as_aux_lemma => kernel_rfl)
#print axioms posixNilUpto
end Go.Proofs.YthhhomgbpnmeeaaGreatDoor
