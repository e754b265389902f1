/- PosixNil: from the walk and the plain law to the row and its card, where what is read is of bulk at most 1048576. -/
import Derived.Test.YthhhomgbpnmeeaaGreatDoorCd1
import Derived.Test.YthhhomgbpnmeeaaGreatDoorPl8
import Derived.Test.YthhhomgbpnmeeaaGreatDoorFn3
import Derived.Test.YthhhomgbpnmeeaaGreatDoorCards
import Derived.Test.YthhhomgbpnmeeaaGreatDoorTie
import Derived.WalkKit
import Derived.ProofKit
import Derived.OpenShut
import Derived.Deep.DeepHandedRow
import Derived.Lib.LaidTab
set_option linter.all false
namespace Go.Proofs.YthhhomgbpnmeeaaGreatDoor
open Go Go.Sy Go.ChangeShapes Go.WideShapes Go.ChangeAt Go.RowKit
set_option maxRecDepth 100000
theorem one_le_bulk {H : Type} (d : DataW H) : 1 ≤ Rows.uptoBulk d := by
  cases d with
  | lit l => cases l <;> simp [Rows.uptoBulk]
  | nil => simp [Rows.uptoBulk]
  | ptr d => simp [Rows.uptoBulk]
  | slice elems spare => simp [Rows.uptoBulk]
  | agg parts => simp [Rows.uptoBulk]
  | iface t d => simp [Rows.uptoBulk]
  | map entries => simp [Rows.uptoBulk]
  | held h => simp [Rows.uptoBulk]
theorem part_bulk {H : Type} {d : DataW H} {l : List (DataW H)} (h : d ∈ l) : Rows.uptoBulk d ≤ Rows.uptoBulkAll l := by
  induction l with
  | nil => cases h
  | cons x r ih =>
    simp only [Rows.uptoBulkAll]
    cases List.mem_cons.1 h with
    | inl e => subst e; omega
    | inr e => have := ih e; omega
theorem len_bulk {H : Type} (l : List (DataW H)) : l.length ≤ Rows.uptoBulkAll l := by
  induction l with
  | nil => simp [Rows.uptoBulkAll]
  | cons x r ih => have := one_le_bulk x; simp only [Rows.uptoBulkAll, List.length_cons]; omega
theorem own : ownKnob Tryz.prog.godebug = none := by kernel_rfl
theorem laidOut : laidOutB Tryz.prog = true := by kernel_rfl
theorem reads45 : Tryz.prog.readableRec 45 = true := by kernel_rfl
theorem cells45 : Tryz.prog.cellsOf 45 = 10 := by kernel_rfl
theorem types45 : Tryz.prog.cellTypes Tryz.prog.depth 45 = some [30, 3, 3, 9, 9, 43, 3, 3, 3, 31] := by kernel_rfl
/-- an operation that came in -/
theorem open45 {H : Type} {enc : TypeId × Value → H} {W : World} {base : Nat} {v : Value} {d : DataW H} {p : List MemPlace}
    (hv : Value.okWide Tryz.prog W .any base 45 v) (h : DataW.Trod enc Tryz.prog W 0 (fun _ => true) true 45 v d p) :
    ∃ o : T45, k45.val (still W) v o ∧ o.Data.length ≤ Rows.uptoBulk d := by
  have hv' := hv
  simp only [Value.okWide, Tryz.underlying45] at hv'
  obtain ⟨cs, rfl, hsz, ts, hts, _, hrow⟩ := hv'
  rw [types45] at hts
  simp only [Option.some.injEq] at hts
  subst hts
  rw [cells45] at hsz
  obtain ⟨n, hn⟩ := h
  obtain ⟨xs, m, rfl, hx, hl, hxl, hf⟩ := DataW.trod_struct Tryz.underlying45 hn
  obtain ⟨rfl, rfl⟩ := Prod.mk.inj hx
  obtain ⟨l⟩ := cs
  simp only [List.size_toArray] at hsz
  match l, hsz with
  | [c0, c1, c2, c3, c4', c5, c6, c7, c8, c9], _ =>
  match xs, hxl with
  | [y0, y1, y2, y3, y4, y5, y6, y7, y8, y9], _ =>
  have i1 : ∀ t : TypeId, t = 3 ∨ t = 30 ∨ t = 9 ∨ t = 43 ∨ t = 31 → Tryz.prog.cellsOf t = 1 := by
    rintro t (rfl | rfl | rfl | rfl | rfl) <;> kernel_rfl
  have f0 : DataW.trod enc Tryz.prog W 0 (fun _ => true) true m 30 [c0] = some y0 := by
    have := hf 0 { name := "Kind", type := 30, offset := 0, embedded := false, tag := "", pkgPath := "", byteOffset := 0 } rfl
    rw [show Tryz.prog.cellsOf (Field.type { name := "Kind", type := 30, offset := 0, embedded := false, tag := "", pkgPath := "", byteOffset := 0 }) = 1 from i1 30 (by simp)] at this
    exact this
  have f1 : DataW.trod enc Tryz.prog W 0 (fun _ => true) true m 3 [c1] = some y1 := by
    have := hf 1 { name := "Uid", type := 3, offset := 1, embedded := false, tag := "", pkgPath := "", byteOffset := 8 } rfl
    rw [show Tryz.prog.cellsOf (Field.type { name := "Uid", type := 3, offset := 1, embedded := false, tag := "", pkgPath := "", byteOffset := 8 }) = 1 from i1 3 (by simp)] at this
    exact this
  have f2 : DataW.trod enc Tryz.prog W 0 (fun _ => true) true m 3 [c2] = some y2 := by
    have := hf 2 { name := "Gid", type := 3, offset := 2, embedded := false, tag := "", pkgPath := "", byteOffset := 16 } rfl
    rw [show Tryz.prog.cellsOf (Field.type { name := "Gid", type := 3, offset := 2, embedded := false, tag := "", pkgPath := "", byteOffset := 16 }) = 1 from i1 3 (by simp)] at this
    exact this
  have f3 : DataW.trod enc Tryz.prog W 0 (fun _ => true) true m 9 [c3] = some y3 := by
    have := hf 3 { name := "Path", type := 9, offset := 3, embedded := false, tag := "", pkgPath := "", byteOffset := 24 } rfl
    rw [show Tryz.prog.cellsOf (Field.type { name := "Path", type := 9, offset := 3, embedded := false, tag := "", pkgPath := "", byteOffset := 24 }) = 1 from i1 9 (by simp)] at this
    exact this
  have f4 : DataW.trod enc Tryz.prog W 0 (fun _ => true) true m 9 [c4'] = some y4 := by
    have := hf 4 { name := "Other", type := 9, offset := 4, embedded := false, tag := "", pkgPath := "", byteOffset := 40 } rfl
    rw [show Tryz.prog.cellsOf (Field.type { name := "Other", type := 9, offset := 4, embedded := false, tag := "", pkgPath := "", byteOffset := 40 }) = 1 from i1 9 (by simp)] at this
    exact this
  have f5 : DataW.trod enc Tryz.prog W 0 (fun _ => true) true m 43 [c5] = some y5 := by
    have := hf 5 { name := "Data", type := 43, offset := 5, embedded := false, tag := "", pkgPath := "", byteOffset := 56 } rfl
    rw [show Tryz.prog.cellsOf (Field.type { name := "Data", type := 43, offset := 5, embedded := false, tag := "", pkgPath := "", byteOffset := 56 }) = 1 from i1 43 (by simp)] at this
    exact this
  have f6 : DataW.trod enc Tryz.prog W 0 (fun _ => true) true m 3 [c6] = some y6 := by
    have := hf 6 { name := "Off", type := 3, offset := 6, embedded := false, tag := "", pkgPath := "", byteOffset := 80 } rfl
    rw [show Tryz.prog.cellsOf (Field.type { name := "Off", type := 3, offset := 6, embedded := false, tag := "", pkgPath := "", byteOffset := 80 }) = 1 from i1 3 (by simp)] at this
    exact this
  have f7 : DataW.trod enc Tryz.prog W 0 (fun _ => true) true m 3 [c7] = some y7 := by
    have := hf 7 { name := "N", type := 3, offset := 7, embedded := false, tag := "", pkgPath := "", byteOffset := 88 } rfl
    rw [show Tryz.prog.cellsOf (Field.type { name := "N", type := 3, offset := 7, embedded := false, tag := "", pkgPath := "", byteOffset := 88 }) = 1 from i1 3 (by simp)] at this
    exact this
  have f8 : DataW.trod enc Tryz.prog W 0 (fun _ => true) true m 3 [c8] = some y8 := by
    have := hf 8 { name := "Mode", type := 3, offset := 8, embedded := false, tag := "", pkgPath := "", byteOffset := 96 } rfl
    rw [show Tryz.prog.cellsOf (Field.type { name := "Mode", type := 3, offset := 8, embedded := false, tag := "", pkgPath := "", byteOffset := 96 }) = 1 from i1 3 (by simp)] at this
    exact this
  have f9 : DataW.trod enc Tryz.prog W 0 (fun _ => true) true m 31 [c9] = some y9 := by
    have := hf 9 { name := "Time", type := 31, offset := 9, embedded := false, tag := "", pkgPath := "", byteOffset := 104 } rfl
    rw [show Tryz.prog.cellsOf (Field.type { name := "Time", type := 31, offset := 9, embedded := false, tag := "", pkgPath := "", byteOffset := 104 }) = 1 from i1 31 (by simp)] at this
    exact this
  have u3 : Tryz.prog.underlying 3 = some (.int .i64) := by kernel_rfl
  have u30 : Tryz.prog.underlying 30 = some (.int .i64) := by kernel_rfl
  have u9 : Tryz.prog.underlying 9 = some .string := by kernel_rfl
  have u31 : Tryz.prog.underlying 31 = some (.float .f64) := by kernel_rfl
  have u43 : Tryz.prog.underlying 43 = some (.slice 5) := by kernel_rfl
  obtain ⟨n0, e0, _⟩ := DataW.trod_int u30 f0
  obtain ⟨n1, e1, _⟩ := DataW.trod_int u3 f1
  obtain ⟨n2, e2, _⟩ := DataW.trod_int u3 f2
  obtain ⟨n3, e3, _⟩ := DataW.trod_string u9 f3
  obtain ⟨n4, e4, _⟩ := DataW.trod_string u9 f4
  obtain ⟨n6, e6, _⟩ := DataW.trod_int u3 f6
  obtain ⟨n7, e7, _⟩ := DataW.trod_int u3 f7
  obtain ⟨n8, e8, _⟩ := DataW.trod_int u3 f8
  obtain ⟨n9, e9⟩ := Sy.DataW.trod_float u31 f9
  have h5 : Cell.okWide Tryz.prog W .any base 43 c5 := by
    obtain ⟨u, hu, hc⟩ := hrow 5 c5 rfl
    simp only [List.length_cons, List.length_nil] at hu
    cases hu
    exact hc
  obtain ⟨bs, hb, hbl⟩ := open_bytes u43 (by kernel_rfl) (by kernel_rfl) h5 f5
  simp only [List.cons.injEq, and_true] at e0 e1 e2 e3 e4 e6 e7 e8 e9
  subst e0 e1 e2 e3 e4 e6 e7 e8 e9
  refine ⟨⟨n0, n1, n2, n3, n4, bs, n6, n7, n8, n9⟩, ⟨⟨_, rfl⟩, ?_⟩, ?_⟩
  · have hp5 : (kSl kByte).rep (still W) [c5] bs := Kd.one_of_val rfl hb
    exact ⟨rfl, ⟨_, rfl, rfl⟩, rfl, ⟨_, rfl, rfl⟩, rfl, ⟨_, rfl, rfl⟩, rfl, ⟨_, rfl, rfl⟩, rfl, ⟨_, rfl, rfl⟩, rfl, hp5, rfl, ⟨_, rfl, rfl⟩, rfl, ⟨_, rfl, rfl⟩, rfl, ⟨_, rfl, rfl⟩, ⟨_, rfl, rfl⟩⟩
  · rcases hbl with rfl | ⟨es, sp, hy, hlen⟩
    · simp
    · have h1 : Rows.uptoBulk y5.1 ≤ Rows.uptoBulkAll (List.map (·.1) [y0, y1, y2, y3, y4, y5, y6, y7, y8, y9]) := part_bulk (by simp)
      have h2 := len_bulk es
      rw [hy] at h1
      simp only [Rows.uptoBulk] at h1 ⊢
      show bs.length ≤ _
      omega
/-- WHAT THE WALK GIVES, for every argument. -/
theorem contract4 (H : Type) (enc : TypeId × Value → H) (W : World) (base : Nat) (args : Array Value) (ds gs : List (DataW H)) (before : List MemPlace)
    (hval : ∀ (j : Nat) t v, Tryz.f4.params[j]? = some t → args[j]? = some v → Value.okWide Tryz.prog W .any base t v)
    (hW : DataW.Whole enc Tryz.prog Tryz.f4.params.toList Rows.posixNilSpec.vars false W args.toList ds gs before) (hk : Rows.uptoSmall H (ds ++ gs) = true) :
    Calls Tryz.prog 4 args W fun e W' => ∃ v, e = .returned v ∧ Rows.posixNilSpec.post enc Tryz.prog Tryz.f4 false true false false W args v W' := by
  have hW' := hW
  obtain ⟨p, q, hA, hV, rfl, hfz, hnd⟩ := hW
  rw [Tryz.params4] at hA hval
  obtain ⟨v0, d0, rfl, rfl, h0⟩ := trodAll_one hA
  obtain ⟨rfl, rfl⟩ := trodVars_none hV
  obtain ⟨o, hv, hb⟩ := open45 (hval 0 45 v0 rfl rfl) h0
  have hsz : o.Data.length ≤ 1073741824 := by
    have h := of_decide_eq_true hk
    simp only [List.append_nil, Rows.uptoBulkAll] at h
    omega
  refine (c4 (nil_law o hsz) (c := ⟨W, [], still W⟩) hv (st0 W)).mono fun e W' => ?_
  rintro ⟨v, G, Δ, rfl, hst, _, hr⟩
  have hv2 : v = .bool true := hr
  subst hv2
  refine ⟨_, rfl, post_of_still hW' rfl hst (kids_book laidOut reads45) (fun _ _ => book_sized reads45) (fun t ht => ?_) (fun _ _ _ => ?_) rfl rfl ?_⟩
  · rw [Tryz.params4] at ht
    simp only [List.mem_singleton, Array.toList] at ht
    subst ht
    exact ⟨of_decide_eq_true (by kernel_rfl), book_self 45⟩
  · exact trodAll_mk1 (shut_bool Tryz.underlying4 true)
  · exact ok_one (t := 4) (by kernel_rfl) rfl (okWide_bool_mk Tryz.underlying4 true)
end Go.Proofs.YthhhomgbpnmeeaaGreatDoor
