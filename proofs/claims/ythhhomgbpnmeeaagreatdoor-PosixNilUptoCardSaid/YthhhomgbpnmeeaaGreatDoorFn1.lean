/- Each Go function does what its plain function says, where that comes to a value; printed by a program. -/
import Derived.Test.YthhhomgbpnmeeaaGreatDoorFn0
set_option linter.all false
namespace Go.Proofs.YthhhomgbpnmeeaaGreatDoor
open Go Go.Sy
set_option maxRecDepth 100000
set_option maxHeartbeats 2000000
open Tryz
variable {c : Cx} {G0 : Gh} {w : World}
theorem c284 {p0 : List T87} {p1 : Int} {p2 r : List T87} (hm : m284 p0 p1 p2 = some r) {b : Option Nat} {m : Nat} {b1 m1 : Nat} (h : St c G0 w [⟨k87, p0, m, b, 87⟩, ⟨k87, p2, m1, some b1, 87⟩]) : Calls prog 284 #[hdr b p0.length m, .int .i64 p1, hdr (some b1) p2.length m1] w (Fin c fun v H Δ => ∃ b2 m2, Δ = [⟨k87, r, m2, b2, 87⟩] ∧ v = hdr b2 r.length m2) := by
 obtain ⟨g, hm⟩ := gs hm
 obtain rfl := oi hm
 obtain ⟨i0, i1, i2, i3⟩ := insB_out g
 have hc : p0.length ≤ m := (h.own _ (List.mem_cons_self ..)).1
 have hN : (p1.toNat : Int) = p1 := Int.toNat_of_nonneg i0
 have hw : wr ((p0.length : Int) + (p2.length : Int)) = (p0.length : Int) + 1 := by rw [i2]; unfold maxS at i3; exact wrap64_id (by omega) (by omega)
 have hw2 : wr ((p0.length : Int) + 1 - p1) = (p0.length : Int) + 1 - p1 := by unfold maxS at i3; exact wrap64_id (by omega) (by omega)
 have hw3 : wr (p1 + (p2.length : Int)) = p1 + 1 := by rw [i2]; unfold maxS at i3; exact wrap64_id (by omega) (by omega)
 have hz : ins p0 p1 p2 = p0.take p1.toNat ++ p2 ++ p0.drop p1.toNat := rfl
 refine enter (n := 95) func284 rfl rfl rfl fun a K => sl <| asg K rfl fun a K => nsl <| mv K rfl fun a K => mv K rfl fun a K => slX k87 (p1) ((p0.length : Int)) K rfl s85 t87 (.inr ⟨_, _, rfl, rfl⟩) (.inl ⟨rfl, rfl⟩) (sl2_i i0 (by omega) (by omega)) fun a K => nsl <| mv K rfl fun a K => lenO K rfl rfl s85 fun a K => asg K rfl fun a K => wn <| ws <| sl <| mv K rfl fun a K => binC _ K rfl rfl rfl fun a K => wn <| ifF K rfl (by simp [i2]) <| wk <| sl <| mv K rfl fun a K => lenO K rfl rfl s85 fun a K => asg K rfl fun a K => wn <| ws <| sl <| mv K rfl fun a K => mv K rfl fun a K => binC _ K rfl rfl rfl fun a K => wn ?_
 rcases Bool.eq_false_or_eq_true (p1 == (p0.length : Int)) with c1 | c1
 · refine ifT K rfl c1 <| sl <| mv K rfl fun a K => mv K rfl fun a K => appOO 0 1 K h rfl rfl rfl rfl rfl s85 s85 e87 (by omega) fun a w b3 m3 K h => asg K rfl fun a K => wn <| wt ?_
   have e : p0 ++ p2 = ins p0 p1 p2 := by (have h1 : p1 = (p0.length : Int) := by simpa using c1); subst h1; simp [ins]
   exact fi f284 [_] K (St.sel [0] rfl h) rfl ⟨rfl, ⟨⟩⟩ (.inl rfl) ⟨b3, m3, by rw [← e]; rfl, by rw [← e]; rfl⟩
 have c1n : p1 < (p0.length : Int) := by (have : p1 ≠ (p0.length : Int) := by simpa using c1); omega
 refine ifF K rfl c1 <| wk <| ws <| sl <| mv K rfl fun a K => mv K rfl fun a K => binI _ K rfl rfl (congrArg some hw) fun a K => mv K rfl fun a K => capO K rfl rfl s85 fun a K => binC _ K rfl rfl rfl fun a K => wn ?_
 rcases Bool.eq_false_or_eq_true (decide ((p0.length : Int) + 1 > (m : Int))) with c2 | c2
 · have c2n : m < p0.length + 1 := by (have : (p0.length : Int) + 1 > (m : Int) := by simpa using c2); omega
   refine ifT K rfl c2 <| sl <| mv K rfl fun a K => mv K rfl fun a K => slX0 k87 p1 K rfl s85 t87 (.inr ⟨_, _, rfl, rfl⟩) (sl2_i (by omega) i0 (by omega)) fun a K => mv K rfl fun a K => mv K rfl fun a K => binI _ K rfl rfl (congrArg some hw) fun a K => mv K rfl fun a K => binI _ K rfl rfl (congrArg some hw2) fun a K => appZ 0 K h rfl rfl rfl rfl s85 it3 e87 z87 (by omega) (by omega) (by omega) (by unfold maxS at i3 ⊢; omega) fun a w b3 m3 K h => asg K rfl fun a K => nsl <| mv K rfl fun a K => mv K rfl fun a K => slX k87 (p1) (((p1.toNat + ((p0.length : Int) + 1 - p1).toNat : Nat) : Int)) K rfl s85 t87 (.inr ⟨_, _, rfl, rfl⟩) (.inl ⟨rfl, rfl⟩) (sl2_i i0 (by omega) (by have := (h.own _ (List.mem_cons_self ..)).1; simp only [List.length_append, List.length_take, List.length_replicate] at this; omega)) fun a K => mv K rfl fun a K => cpIn 0 K h rfl rfl rfl (rd_own (j := 2) h rfl) (by simp only [List.length_append, List.length_take, List.length_replicate]; omega) rfl s85 t87 fun a w K h => wn <| ws ?_
   have hm3 : p1.toNat + ((p0.length : Int) + 1 - p1).toNat ≤ m3 := by have := (h.own _ (List.mem_cons_self ..)).1; simp only [ovr, List.length_append, List.length_take, List.length_drop, List.length_replicate] at this; omega
   refine wp_hop (Δs := [[⟨k87, ovr (p0.take p1.toNat ++ List.replicate ((p0.length : Int) + 1 - p1).toNat (⟨ByteArray.empty, 0⟩ : T87)) p1.toNat (p2.take ((p1.toNat + ((p0.length : Int) + 1 - p1).toNat : Nat) - p1.toNat)), m3, some b3, 87⟩, ⟨k87, p0, m, b, 87⟩, ⟨k87, p2, m1, some b1, 87⟩]]) 8 [(fE (hdr (some b3) (p1.toNat + ((p0.length : Int) + 1 - p1).toNat) m3)), (fE (.int .i64 p1)), (fE (.int .i64 (p2.length : Int))), (fE (.int .i64 (p1 + 1))), (fE (subV k87 (some b3) m3 (p1 + 1).toNat (((((p1.toNat + ((p0.length : Int) + 1 - p1).toNat) : Nat) : Int)).toNat - (p1 + 1).toNat))), (fE (hdr b p0.length m)), (fE (.int .i64 p1)), (fE (subV k87 b m (p1).toNat (((p0.length : Int)).toNat - (p1).toNat)))] [(0, hdr b p0.length m), (1, .int .i64 p1), (7, .int .i64 (p2.length : Int)), (9, hdr (some b3) (p1.toNat + ((p0.length : Int) + 1 - p1).toNat) m3)] [] [[0], [0], [0], [0], [0], [0], [0], [0]] [0, 0, 0, 6, 15, 0, 0, 96, 255] mx (by kernel_rfl) (by kernel_rfl) (by kernel_rfl) (by kernel_rfl) rfl rfl ⟨monE, monE, monE, monE, monE, monE, monE, monE, ⟨⟩⟩ K h rfl rfl ⟨rfl, rfl, rfl, rfl, ⟨⟩⟩ ⟨(stg1 rfl rfl ?_), (stg1 rfl rfl ?_), (stg1 rfl rfl ?_), (stg1 rfl rfl ?_), (stg1 rfl rfl ?_), (stg1 rfl rfl ?_), (stg1 rfl rfl ?_), (stg1 rfl rfl ?_), ⟨⟩⟩ rfl ?_
   · intro a w H L X e h K hs hk
     have hx : Sy.sub L [(9, _)] := ⟨hs.2.2.2.1, ⟨⟩⟩
     replace K := K.addx _ hx
     refine mv K rfl fun a K => wn <| ⟨rfl, H, [], gr, h, _, K.dropx _ hx, ⟨rfl, rfl⟩⟩
   · intro a w H L X e h K hs hk
     have hx : Sy.sub L [(1, _)] := ⟨hs.2.1, ⟨⟩⟩
     replace K := K.addx _ hx
     refine mv K rfl fun a K => wn <| ⟨rfl, H, [], gr, h, _, K.dropx _ hx, ⟨rfl, rfl⟩⟩
   · intro a w H L X e h K hs hk
     have hx : Sy.sub L [(7, _)] := ⟨hs.2.2.1, ⟨⟩⟩
     replace K := K.addx _ hx
     refine mv K rfl fun a K => wn <| ⟨rfl, H, [], gr, h, _, K.dropx _ hx, ⟨rfl, rfl⟩⟩
   · intro a w H L X e h K hs hk
     obtain ⟨_, _, l47, -, rfl⟩ := hk.1
     obtain ⟨_, _, l48, -, rfl⟩ := hk.2.1
     have hx : Sy.sub L [(47, _), (48, _)] := ⟨l47, l48, ⟨⟩⟩
     replace K := K.addx _ hx
     refine binI _ K rfl rfl (congrArg some hw3) fun a K => wn <| ⟨rfl, H, [], gr, h, _, K.dropx _ hx, ⟨rfl, rfl⟩⟩
   · intro a w H L X e h K hs hk
     obtain ⟨_, _, l46, -, rfl⟩ := hk.1
     obtain ⟨_, _, l49, -, rfl⟩ := hk.2.1
     have hx : Sy.sub L [(46, _), (49, _)] := ⟨l46, l49, ⟨⟩⟩
     replace K := K.addx _ hx
     refine slX k87 (p1 + 1) ((((p1.toNat + ((p0.length : Int) + 1 - p1).toNat) : Nat) : Int)) K rfl s85 t87 (.inr ⟨_, _, rfl, rfl⟩) (.inl ⟨rfl, rfl⟩) (sl2_i (by omega) (by omega) (by omega)) fun a K => wn <| ⟨rfl, H, [], gr, h, _, K.dropx _ hx, ⟨rfl, rfl⟩⟩
   · intro a w H L X e h K hs hk
     have hx : Sy.sub L [(0, _)] := ⟨hs.1, ⟨⟩⟩
     replace K := K.addx _ hx
     refine mv K rfl fun a K => wn <| ⟨rfl, H, [], gr, h, _, K.dropx _ hx, ⟨rfl, rfl⟩⟩
   · intro a w H L X e h K hs hk
     have hx : Sy.sub L [(1, _)] := ⟨hs.2.1, ⟨⟩⟩
     replace K := K.addx _ hx
     refine mv K rfl fun a K => wn <| ⟨rfl, H, [], gr, h, _, K.dropx _ hx, ⟨rfl, rfl⟩⟩
   · intro a w H L X e h K hs hk
     obtain ⟨_, _, l51, -, rfl⟩ := hk.1
     obtain ⟨_, _, l52, -, rfl⟩ := hk.2.1
     have hx : Sy.sub L [(51, _), (52, _)] := ⟨l51, l52, ⟨⟩⟩
     replace K := K.addx _ hx
     refine slX k87 (p1) ((p0.length : Int)) K rfl s85 t87 (.inr ⟨_, _, rfl, rfl⟩) (.inl ⟨rfl, rfl⟩) (sl2_i i0 (by omega) (by omega)) fun a K => wn <| ⟨rfl, H, [], gr, h, _, K.dropx _ hx, ⟨rfl, rfl⟩⟩
   intro a w H L X e h K hs hg
   obtain ⟨_, _, _, rfl, r0, ⟨rfl, rfl⟩, hg⟩ := hg
   obtain ⟨_, _, _, rfl, r1, ⟨rfl, rfl⟩, hg⟩ := hg
   obtain ⟨_, _, _, rfl, r2, ⟨rfl, rfl⟩, hg⟩ := hg
   obtain ⟨_, _, _, rfl, r3, ⟨rfl, rfl⟩, hg⟩ := hg
   obtain ⟨_, _, _, rfl, r4, ⟨rfl, rfl⟩, hg⟩ := hg
   obtain ⟨_, _, _, rfl, r5, ⟨rfl, rfl⟩, hg⟩ := hg
   obtain ⟨_, _, _, rfl, r6, ⟨rfl, rfl⟩, hg⟩ := hg
   obtain ⟨_, _, _, rfl, r7, ⟨rfl, rfl⟩, hg⟩ := hg
   obtain rfl := hg
   replace h := St.cast (Δ' := [⟨k87, ovr (p0.take p1.toNat ++ List.replicate ((p0.length : Int) + 1 - p1).toNat (⟨ByteArray.empty, 0⟩ : T87)) p1.toNat (p2.take ((p1.toNat + ((p0.length : Int) + 1 - p1).toNat : Nat) - p1.toNat)), m3, some b3, 87⟩, ⟨k87, p0, m, b, 87⟩, ⟨k87, p2, m1, some b1, 87⟩]) h rfl
   replace K := K.sub (l' := [(50, _), (53, _), (0, _), (1, _), (7, _), (9, _)]) ⟨r4, r7, hs.1, hs.2.1, hs.2.2.1, hs.2.2.2.1, ⟨⟩⟩
   refine cpIn 0 K h rfl rfl rfl (rd_sub (j := 1) (o := p1.toNat) (m := (p0.length : Int).toNat - p1.toNat) h rfl (by omega)) (by simp only [ovr, List.length_append, List.length_take, List.length_drop, List.length_replicate]; omega) rfl s85 t87 fun a w K h => wn <| sl <| mv K rfl fun a K => asg K rfl fun a K => wn <| wt ?_
   rw [insZ (x := (p1.toNat + ((p0.length : Int) + 1 - p1).toNat) - p1.toNat) (y := (p0.length : Int).toNat - p1.toNat) (u := ((p1.toNat + ((p0.length : Int) + 1 - p1).toNat : Nat) : Int).toNat - (p1 + 1).toNat) i0 i1 i2 (by omega) (by omega) (by omega)] at h
   exact fi f284 [_] K (St.sel [0] rfl h) rfl ⟨rfl, ⟨⟩⟩ (.inl rfl) ⟨some b3, m3, rfl, by rw [insZl i0 i1 i2]; rfl⟩
 have c2n : p0.length + 1 ≤ m := by (have : ¬ ((p0.length : Int) + 1 > (m : Int)) := by simpa using c2); omega
 obtain ⟨b, rfl⟩ := own_some 0 h rfl (show 0 < p0.length by omega)
 have hne : b ≠ b1 := own_ne 0 1 (by decide) h rfl rfl
 refine ifF K rfl c2 <| wk <| sl <| mv K rfl fun a K => mv K rfl fun a K => mv K rfl fun a K => binI _ K rfl rfl (congrArg some hw) fun a K => slX0 k87 ((p0.length : Int) + 1) K rfl s85 t87 (.inr ⟨_, _, rfl, rfl⟩) (sl2_i (by omega) (by omega) (by omega)) fun a K => asg K rfl fun a K => wn <| ws <| sl <| mv K rfl fun a K => mv K rfl fun a K => mv K rfl fun a K => mv K rfl fun a K => binI _ K rfl rfl (congrArg some hw3) fun a K => slX k87 (p1 + 1) ((((p0.length : Int) + 1).toNat : Int)) K rfl s85 t87 (.inr ⟨_, _, rfl, rfl⟩) (.inl ⟨rfl, rfl⟩) (sl2_i (by omega) (by omega) (by omega)) fun a K => clx (.bool false) x310 K rfl (run_ovl (j := 0) (j2 := 1) h rfl rfl hne s85 t87 (by decide)) fun a K => notB _ K rfl rfl fun a K => wn <| ifT K rfl rfl <| ws ?_
 refine wp_hop (Δs := [[⟨k87, p0, m, some b, 87⟩, ⟨k87, p2, m1, some b1, 87⟩]]) 8 [(fE (hdr (some b) ((p0.length : Int) + 1).toNat m)), (fE (.int .i64 p1)), (fE (.int .i64 (p2.length : Int))), (fE (.int .i64 (p1 + 1))), (fE (subV k87 (some b) m (p1 + 1).toNat (((((p0.length : Int) + 1).toNat : Int)).toNat - (p1 + 1).toNat))), (fE (hdr (some b) ((p0.length : Int) + 1).toNat m)), (fE (.int .i64 p1)), (fE (subV k87 (some b) m (p1).toNat (((((p0.length : Int) + 1).toNat : Int)).toNat - (p1).toNat)))] [(0, hdr (some b) ((p0.length : Int) + 1).toNat m), (1, .int .i64 p1), (7, .int .i64 (p2.length : Int)), (2, hdr (some b1) p2.length m1)] [] [[0], [0], [0], [0], [0], [0], [0], [0]] [0, 0, 0, 6, 15, 0, 0, 96, 255] mx (by kernel_rfl) (by kernel_rfl) (by kernel_rfl) (by kernel_rfl) rfl rfl ⟨monE, monE, monE, monE, monE, monE, monE, monE, ⟨⟩⟩ K h rfl rfl ⟨rfl, rfl, rfl, rfl, ⟨⟩⟩ ⟨(stg1 rfl rfl ?_), (stg1 rfl rfl ?_), (stg1 rfl rfl ?_), (stg1 rfl rfl ?_), (stg1 rfl rfl ?_), (stg1 rfl rfl ?_), (stg1 rfl rfl ?_), (stg1 rfl rfl ?_), ⟨⟩⟩ rfl ?_
 · intro a w H L X e h K hs hk
   have hx : Sy.sub L [(0, _)] := ⟨hs.1, ⟨⟩⟩
   replace K := K.addx _ hx
   refine mv K rfl fun a K => wn <| ⟨rfl, H, [], gr, h, _, K.dropx _ hx, ⟨rfl, rfl⟩⟩
 · intro a w H L X e h K hs hk
   have hx : Sy.sub L [(1, _)] := ⟨hs.2.1, ⟨⟩⟩
   replace K := K.addx _ hx
   refine mv K rfl fun a K => wn <| ⟨rfl, H, [], gr, h, _, K.dropx _ hx, ⟨rfl, rfl⟩⟩
 · intro a w H L X e h K hs hk
   have hx : Sy.sub L [(7, _)] := ⟨hs.2.2.1, ⟨⟩⟩
   replace K := K.addx _ hx
   refine mv K rfl fun a K => wn <| ⟨rfl, H, [], gr, h, _, K.dropx _ hx, ⟨rfl, rfl⟩⟩
 · intro a w H L X e h K hs hk
   obtain ⟨_, _, l70, -, rfl⟩ := hk.1
   obtain ⟨_, _, l71, -, rfl⟩ := hk.2.1
   have hx : Sy.sub L [(70, _), (71, _)] := ⟨l70, l71, ⟨⟩⟩
   replace K := K.addx _ hx
   refine binI _ K rfl rfl (congrArg some hw3) fun a K => wn <| ⟨rfl, H, [], gr, h, _, K.dropx _ hx, ⟨rfl, rfl⟩⟩
 · intro a w H L X e h K hs hk
   obtain ⟨_, _, l69, -, rfl⟩ := hk.1
   obtain ⟨_, _, l72, -, rfl⟩ := hk.2.1
   have hx : Sy.sub L [(69, _), (72, _)] := ⟨l69, l72, ⟨⟩⟩
   replace K := K.addx _ hx
   refine slX k87 (p1 + 1) ((((p0.length : Int) + 1).toNat : Int)) K rfl s85 t87 (.inr ⟨_, _, rfl, rfl⟩) (.inl ⟨rfl, rfl⟩) (sl2_i (by omega) (by omega) (by omega)) fun a K => wn <| ⟨rfl, H, [], gr, h, _, K.dropx _ hx, ⟨rfl, rfl⟩⟩
 · intro a w H L X e h K hs hk
   have hx : Sy.sub L [(0, _)] := ⟨hs.1, ⟨⟩⟩
   replace K := K.addx _ hx
   refine mv K rfl fun a K => wn <| ⟨rfl, H, [], gr, h, _, K.dropx _ hx, ⟨rfl, rfl⟩⟩
 · intro a w H L X e h K hs hk
   have hx : Sy.sub L [(1, _)] := ⟨hs.2.1, ⟨⟩⟩
   replace K := K.addx _ hx
   refine mv K rfl fun a K => wn <| ⟨rfl, H, [], gr, h, _, K.dropx _ hx, ⟨rfl, rfl⟩⟩
 · intro a w H L X e h K hs hk
   obtain ⟨_, _, l74, -, rfl⟩ := hk.1
   obtain ⟨_, _, l75, -, rfl⟩ := hk.2.1
   have hx : Sy.sub L [(74, _), (75, _)] := ⟨l74, l75, ⟨⟩⟩
   replace K := K.addx _ hx
   refine slX k87 (p1) ((((p0.length : Int) + 1).toNat : Int)) K rfl s85 t87 (.inr ⟨_, _, rfl, rfl⟩) (.inl ⟨rfl, rfl⟩) (sl2_i i0 (by omega) (by omega)) fun a K => wn <| ⟨rfl, H, [], gr, h, _, K.dropx _ hx, ⟨rfl, rfl⟩⟩
 intro a w H L X e h K hs hg
 obtain ⟨_, _, _, rfl, r0, ⟨rfl, rfl⟩, hg⟩ := hg
 obtain ⟨_, _, _, rfl, r1, ⟨rfl, rfl⟩, hg⟩ := hg
 obtain ⟨_, _, _, rfl, r2, ⟨rfl, rfl⟩, hg⟩ := hg
 obtain ⟨_, _, _, rfl, r3, ⟨rfl, rfl⟩, hg⟩ := hg
 obtain ⟨_, _, _, rfl, r4, ⟨rfl, rfl⟩, hg⟩ := hg
 obtain ⟨_, _, _, rfl, r5, ⟨rfl, rfl⟩, hg⟩ := hg
 obtain ⟨_, _, _, rfl, r6, ⟨rfl, rfl⟩, hg⟩ := hg
 obtain ⟨_, _, _, rfl, r7, ⟨rfl, rfl⟩, hg⟩ := hg
 obtain rfl := hg
 replace h := St.cast (Δ' := [⟨k87, p0, m, some b, 87⟩, ⟨k87, p2, m1, some b1, 87⟩]) h rfl
 replace K := K.sub (l' := [(73, _), (76, _), (0, _), (1, _), (7, _), (2, _)]) ⟨r4, r7, hs.1, hs.2.1, hs.2.2.1, hs.2.2.2.1, ⟨⟩⟩
 refine cpSh K h rfl rfl (by omega) (by omega) rfl s85 t87 fun a w K h => nsl <| mv K rfl fun a K => mv K rfl fun a K => slX k87 (p1) ((((p0.length : Int) + 1).toNat : Int)) K rfl s85 t87 (.inr ⟨_, _, rfl, rfl⟩) (.inl ⟨rfl, rfl⟩) (sl2_i i0 (by omega) (by omega)) fun a K => mv K rfl fun a K => cpIn 0 K h rfl rfl rfl (rd_own (j := 1) h rfl) (by simp only [List.length_append, List.length_take, List.length_drop]; omega) rfl s85 t87 fun a w K h => nsl <| mv K rfl fun a K => asg K rfl fun a K => wn <| wt ?_
 rw [insS (x := (((p0.length : Int) + 1).toNat : Int).toNat - p1.toNat) i0 c1n i2 (by omega)] at h
 exact fi f284 [_] K (St.sel [0] rfl h) rfl ⟨rfl, ⟨⟩⟩ (.inl rfl) ⟨some b, m, rfl, by rw [insSl i0 i1 i2]; rfl⟩
abbrev R227 (r : (List T87) × Int) (v : Value) (H : Gh) : Prop := ∃ u0, v = .tuple #[u0, .int .i64 r.2] ∧ (kSl k87).val H u0 r.1
instance monR227 {r : (List T87) × Int} : MonR (R227 r) := by
 constructor
 rintro G H v e ⟨u0, rfl, q0⟩
 exact ⟨u0, rfl, Kd.val_mono e q0⟩
theorem c227 {p0 : (List UInt8)} {p1 : (List T87)} {p2 : ByteArray} {p3 : Int} {r : (List T87) × Int} (hm : m227 p0 p1 p2 p3 = some r) {vp0 : Value} {vp1 : Value} (hp0 : (a22.val G0 vp0 p0)) (hp1 : ((kSl k87).val G0 vp1 p1)) (h : St c G0 w []) : Calls prog 227 #[vp0, vp1, .string p2, .int .i64 p3] w (FO c [] (R227 r)) := by
 unfold m227 at hm
 refine enter (n := 49) func227 rfl rfl rfl fun a K => sl <| boxr K h rfl hp0 fun a w v_1 G1 K e_1 h q_2 => asg K rfl fun a K => asg K rfl fun a K => wn <| ws <| sl <| ldr K h rfl q_2 t22 fun a v_3 K q_4 => mv K rfl fun a K => ?_
 obtain ⟨x_5, hx_5, hm⟩ := bs hm
 refine clp K h rfl b110 (fun h => c110 hx_5 q_4 (Kd.val_mono e_1 hp1) h) fun a w v G2 K e_2 h hR_6 => ?_
 obtain rfl := hR_6
 refine asg K rfl fun a K => nsl <| mv K rfl fun a K => binC _ K rfl rfl rfl fun a K => wn <| ifm hm K rfl (fun _ hm => ?_) fun _ hm => ?_
 · refine sl <| mv K rfl fun a K => asg K rfl fun a K => asg K rfl fun a K => wn <| wt ?_
   obtain rfl := oi hm
   exact fi f227 [_, _] K (St.sel [] rfl h) rfl ⟨rfl, rfl, ⟨⟩⟩ (.inl rfl) ⟨rfl, ⟨_, rfl, nil_sl⟩⟩
 refine wk <| sl <| ldr K h rfl (Kd.val_mono e_2 q_2) t22 fun a v_8 K q_9 => mv K rfl fun a K => mv K rfl fun a K => ?_
 obtain ⟨x_10, hx_10, hm⟩ := bs hm
 refine clp K h rfl b283 (fun h => c283 hx_10 q_9 (Kd.val_mono (Gh.trans e_1 e_2) hp1) h) fun a w v G3 K e_3 h hR_11 => ?_
 obtain rfl := hR_11
 refine mv K rfl fun a K => extr K rfl rfl fun a K => extr K rfl rfl fun a K => asg K rfl fun a K => asg K rfl fun a K => wn <| ws <| wb <| sl <| mv K rfl fun a K => mv K rfl fun a K => ?_
 obtain ⟨x_12, hx_12, hm⟩ := bs hm
 refine clp K h rfl b181 (fun h => c181 hx_12 h) fun a w v G4 K e_4 h hR_13 => ?_
 obtain rfl := hR_13
 refine notB _ K rfl rfl fun a K => asg K rfl fun a K => wn <| ifm hm K rfl (fun _ hm => ?_) fun _ hm => ?_
 · refine sl <| asg K rfl fun a K => asg K rfl fun a K => wn <| wt ?_
   obtain rfl := oi hm
   exact fi f227 [_, _] K (St.sel [] rfl h) rfl ⟨rfl, rfl, ⟨⟩⟩ (.inl rfl) ⟨rfl, ⟨_, rfl, nil_sl⟩⟩
 refine sl <| mv K rfl fun a K => asg K rfl fun a K => wn <| ifm hm K rfl (fun _ hm => ?_) fun _ hm => ?_
 · refine sl <| asg K rfl fun a K => asg K rfl fun a K => wn <| wt ?_
   obtain rfl := oi hm
   exact fi f227 [_, _] K (St.sel [] rfl h) rfl ⟨rfl, rfl, ⟨⟩⟩ (.inl rfl) ⟨rfl, ⟨_, rfl, nil_sl⟩⟩
 refine sl <| mv K rfl fun a K => ?_
 obtain ⟨x_16, hx_16, hm⟩ := bs hm
 refine clp K h rfl b117 (fun h => c117 hx_16 (Kd.val_mono (Gh.trans e_1 (Gh.trans e_2 (Gh.trans e_3 e_4))) hp1) h) fun a w v G5 K e_5 h hR_17 => ?_
 obtain rfl := hR_17
 refine binI _ K rfl rfl rfl fun a K => mv K rfl fun a K => lenS K rfl rfl u9 fun a K => binI _ K rfl rfl rfl fun a K => binC _ K rfl rfl rfl fun a K => asg K rfl fun a K => wn <| ifm hm K rfl (fun _ hm => ?_) fun _ hm => ?_
 · refine sl <| asg K rfl fun a K => asg K rfl fun a K => wn <| wt ?_
   obtain rfl := oi hm
   exact fi f227 [_, _] K (St.sel [] rfl h) rfl ⟨rfl, rfl, ⟨⟩⟩ (.inl rfl) ⟨rfl, ⟨_, rfl, nil_sl⟩⟩
 refine wk <| sl <| mv K rfl fun a K => ?_
 obtain ⟨x_19, hx_19, hm⟩ := bs hm
 refine clg (Δ₁ := []) (Δ₂ := _) [] K h rfl rfl b43 (fun h => cV43 hx_19 (Kd.val_mono (Gh.trans e_1 (Gh.trans e_2 (Gh.trans e_3 (Gh.trans e_4 e_5)))) hp1) h) fun a w v_22 G6 Δx K e_6 h hR_23 => ?_
 obtain ⟨bk_20, cp_21, rfl, rfl⟩ := hR_23
 replace h := St.cast (Δ' := [⟨k87, x_19, cp_21, bk_20, 87⟩]) h rfl
 refine mv K rfl fun a K => mv K rfl fun a K => mv K rfl fun a K => bld (⟨p2, p3⟩ : T87) K h rfl pl87 rfl z87 (.cons F87_0 rfl str_val (.cons F87_1 rfl int_val .nil)) fun a v_24 K q_25 => bldS (f := k87) (by decide) [(⟨p2, p3⟩ : T87)] K h rfl s85 t87 rfl z87 (.cons (Fld.idx k87 0 (by decide)) rfl q_25 .nil) fun a w bk_26 K h => ?_
 obtain ⟨x_27, hx_27, hm⟩ := bs hm
 refine clw (Δ₁ := [⟨k87, x_19, cp_21, bk_20, 87⟩, ⟨k87, [(⟨p2, p3⟩ : T87)], 1, (some bk_26), 87⟩]) (Δ₂ := _) [0, 1] K h rfl rfl b284 (fun h => c284 hx_27 h) fun a w v_30 G7 Δx K e_7 h hR_31 => ?_
 obtain ⟨bk_28, cp_29, rfl, rfl⟩ := hR_31
 replace h := St.cast (Δ' := [⟨k87, x_27, cp_29, bk_28, 87⟩]) h rfl
 refine asg K rfl fun a K => asg K rfl fun a K => wn <| wt ?_
 obtain ⟨G8, e_8, h, q_32⟩ := frz 0 h rfl
 obtain rfl := oi hm
 exact fi f227 [_, _] K (St.sel [] rfl h) rfl ⟨rfl, rfl, ⟨⟩⟩ (.inl rfl) ⟨rfl, ⟨_, rfl, q_32⟩⟩
abbrev R120 (r : Int) (v : Value) (H : Gh) : Prop := v = .int .i64 r
instance monR120 {r : Int} : MonR (R120 r) := ⟨fun _ _ _ _ h => h⟩
theorem c120 {p0 : Int} {r : Int} (hm : m120 p0 = some r) (h : St c G0 w []) : Calls prog 120 #[.int .i64 p0] w (FO c [] (R120 r)) := by
 unfold m120 at hm
 refine enter (n := 7) func120 rfl rfl rfl fun a K => sl <| asg K rfl fun a K => nsl <| mv K rfl fun a K => binI _ K rfl rfl rfl fun a K => binI _ K rfl rfl rfl fun a K => binDiv _ K rfl rfl rfl rfl fun a K => asg K rfl fun a K => wn <| wt ?_
 obtain rfl := oi hm
 exact fr f120 K (St.sel [] rfl h) rfl ⟨rfl, ⟨⟩⟩ ⟨rfl, rfl⟩
abbrev R154 (r : T103) (v : Value) (H : Gh) : Prop := v = .tuple #[]
instance monR154 {r : T103} : MonR (R154 r) := ⟨fun _ _ _ _ h => h⟩
theorem c154 {p0 : T103} {p1 : Int} {p2 : Bool} {B0 q0 q1 q2 n0 n1 n2 : Nat} {r : T103} (hm : m154 p0 p1 p2 = some r) (h : St c G0 w ((o3 B0 q0 q1 q2 n0 n1 n2 p0))) : Calls prog 154 #[(pA B0 Ik103o), .int .i64 p1, .bool p2] w (FO c (o3 B0 q0 q1 q2 n0 n1 n2 r) (R154 r)) := by
 unfold m154 at hm
 refine enter (n := 33) func154 rfl rfl rfl fun a K => sl <| mv K rfl fun a K => nilck K rfl fun a K => fa F103_0o K rfl o103_0o fun a K => fa F37_4o K rfl o37_4o fun a K => ld1 0 (J103_0o.comp F37_4o) (hS q0 p0.p.Inodes n0) K h rfl rfl rfl t33 vX fun a K => mv K rfl fun a K => ?_
 obtain ⟨g_1, hm⟩ := gs hm
 refine ixo K rfl rfl g_1 s33 t84 fun a K => asg K rfl fun a K => wn <| ws <| wh 8 [fE _, fE _, fE _, fE _, fE _, fE _, fE _, fE _] [(0, _), (2, _), (6, _)] mx K h (so rfl) ⟨hpX [(6, _)] (fun s _ => ⟨s.2.2.1, ⟨⟩⟩) fun _ _ K t => mv K rfl t, hpX [(0, _)] (fun s _ => ⟨s.1, ⟨⟩⟩) fun _ _ K t => mv K rfl t, hpX [(15, _)] k1 fun _ _ K t => nilck K rfl t, hpX [(16, _)] k1 fun _ _ K t => fa F103_0o K rfl o103_0o t, hpX [(17, _)] k1 fun _ _ K t => fa F37_1o K rfl o37_1o t, hpX [(18, _)] k1 fun _ h K t => ld1 0 (J103_0o.comp F37_1o) (.float .f64 p0.p.Now) K h rfl rfl rfl t31 vF t, hpX [(14, _)] k1 fun _ _ K t => nilck K rfl t, hpX [(20, _)] k1 fun _ _ K t => fa F84_6 K rfl o84_6 t, ⟨⟩⟩ ?_
 intro a w G9 L e_9 h K hs hg
 replace K := K.sub (l' := [(19, _), (21, _), (0, _), (2, _), (6, _)]) ⟨gE (hg 5 rfl rfl), gE (hg 7 rfl rfl), hs.1, hs.2.1, hs.2.2.1, ⟨⟩⟩
 refine ixa K rfl rfl (show inr 1 2 = true from rfl) r52 t31 fun a K => ?_
 have hl_16 : (st p0.p.Inodes p1 ({ (gt p0.p.Inodes p1) with Times := (st ((gt p0.p.Inodes p1).Times) 1 p0.p.Now) } : T84)).length = p0.p.Inodes.length := st_length
 refine sto 1 (J84_6.comp (Fld.idx kF64 ((1 : Int)).toNat (inr_lt (show inr 1 2 = true from rfl)))) ((st p0.p.Inodes p1 ({ (gt p0.p.Inodes p1) with Times := (st ((gt p0.p.Inodes p1).Times) 1 p0.p.Now) } : T84))) K h rfl rfl (gt_some g_1) rfl f64_val t31 rfl rfl fun w h => nsl <| mv K rfl fun a K => wn <| ifm hm K rfl (fun _ hm => ?_) fun _ hm => ?_
 · refine wh 8 [fE _, fE _, fE _, fE _, fE _, fE _, fE _, fE _] [(0, _), (6, _)] mx K h (so rfl) ⟨hpX [(6, _)] (fun s _ => ⟨s.2.1, ⟨⟩⟩) fun _ _ K t => mv K rfl t, hpX [(0, _)] (fun s _ => ⟨s.1, ⟨⟩⟩) fun _ _ K t => mv K rfl t, hpX [(25, _)] k1 fun _ _ K t => nilck K rfl t, hpX [(26, _)] k1 fun _ _ K t => fa F103_0o K rfl o103_0o t, hpX [(27, _)] k1 fun _ _ K t => fa F37_1o K rfl o37_1o t, hpX [(28, _)] k1 fun _ h K t => ld1 0 (J103_0o.comp F37_1o) (.float .f64 p0.p.Now) K h rfl rfl rfl t31 vF t, hpX [(24, _)] k1 fun _ _ K t => nilck K rfl t, hpX [(30, _)] k1 fun _ _ K t => fa F84_6 K rfl o84_6 t, ⟨⟩⟩ ?_
   intro a w G18 L e_18 h K hs hg
   replace K := K.sub (l' := [(29, _), (31, _)]) ⟨gE (hg 5 rfl rfl), gE (hg 7 rfl rfl), ⟨⟩⟩
   refine ixa K rfl rfl (show inr 0 2 = true from rfl) r52 t31 fun a K => ?_
   have hl_32 : (st (st p0.p.Inodes p1 ({ (gt p0.p.Inodes p1) with Times := (st ((gt p0.p.Inodes p1).Times) 1 p0.p.Now) } : T84)) p1 ({ (gt (st p0.p.Inodes p1 ({ (gt p0.p.Inodes p1) with Times := (st ((gt p0.p.Inodes p1).Times) 1 p0.p.Now) } : T84)) p1) with Times := (st ((gt (st p0.p.Inodes p1 ({ (gt p0.p.Inodes p1) with Times := (st ((gt p0.p.Inodes p1).Times) 1 p0.p.Now) } : T84)) p1).Times) 0 p0.p.Now) } : T84)).length = p0.p.Inodes.length := (st_length).trans hl_16
   refine sto 1 (J84_6.comp (Fld.idx kF64 ((0 : Int)).toNat (inr_lt (show inr 0 2 = true from rfl)))) ((st (st p0.p.Inodes p1 ({ (gt p0.p.Inodes p1) with Times := (st ((gt p0.p.Inodes p1).Times) 1 p0.p.Now) } : T84)) p1 ({ (gt (st p0.p.Inodes p1 ({ (gt p0.p.Inodes p1) with Times := (st ((gt p0.p.Inodes p1).Times) 1 p0.p.Now) } : T84)) p1) with Times := (st ((gt (st p0.p.Inodes p1 ({ (gt p0.p.Inodes p1) with Times := (st ((gt p0.p.Inodes p1).Times) 1 p0.p.Now) } : T84)) p1).Times) 0 p0.p.Now) } : T84))) K h rfl rfl (gt_some (by rw [hl_16]; exact g_1)) rfl f64_val t31 rfl rfl fun w h => wn ?_
   replace h := (St.cast (St.sel [0, 1, 2, 3] rfl h) (show ([⟨k103o, [(⟨(⟨p0.p.Homes, p0.p.Now, p0.p.Salt, p0.p.Users, (hS q0 p0.p.Inodes n0), (hS q1 p0.p.Dirs n1), (hS q2 p0.p.Blocks n2)⟩ : T37o), p0.fds⟩ : T103o)], 1, (some B0), 103⟩, ⟨k84, (st (st p0.p.Inodes p1 ({ (gt p0.p.Inodes p1) with Times := (st ((gt p0.p.Inodes p1).Times) 1 p0.p.Now) } : T84)) p1 ({ (gt (st p0.p.Inodes p1 ({ (gt p0.p.Inodes p1) with Times := (st ((gt p0.p.Inodes p1).Times) 1 p0.p.Now) } : T84)) p1) with Times := (st ((gt (st p0.p.Inodes p1 ({ (gt p0.p.Inodes p1) with Times := (st ((gt p0.p.Inodes p1).Times) 1 p0.p.Now) } : T84)) p1).Times) 0 p0.p.Now) } : T84)), n0, (some q0), 84⟩, ⟨(kSl k87), p0.p.Dirs, n1, (some q1), 85⟩, ⟨(kSl kByte), p0.p.Blocks, n2, (some q2), 43⟩] : List Own) = [⟨k103o, [(⟨(⟨p0.p.Homes, p0.p.Now, p0.p.Salt, p0.p.Users, (hdr (some q0) (st (st p0.p.Inodes p1 ({ (gt p0.p.Inodes p1) with Times := (st ((gt p0.p.Inodes p1).Times) 1 p0.p.Now) } : T84)) p1 ({ (gt (st p0.p.Inodes p1 ({ (gt p0.p.Inodes p1) with Times := (st ((gt p0.p.Inodes p1).Times) 1 p0.p.Now) } : T84)) p1) with Times := (st ((gt (st p0.p.Inodes p1 ({ (gt p0.p.Inodes p1) with Times := (st ((gt p0.p.Inodes p1).Times) 1 p0.p.Now) } : T84)) p1).Times) 0 p0.p.Now) } : T84)).length n0), (hS q1 p0.p.Dirs n1), (hS q2 p0.p.Blocks n2)⟩ : T37o), p0.fds⟩ : T103o)], 1, (some B0), 103⟩, ⟨k84, (st (st p0.p.Inodes p1 ({ (gt p0.p.Inodes p1) with Times := (st ((gt p0.p.Inodes p1).Times) 1 p0.p.Now) } : T84)) p1 ({ (gt (st p0.p.Inodes p1 ({ (gt p0.p.Inodes p1) with Times := (st ((gt p0.p.Inodes p1).Times) 1 p0.p.Now) } : T84)) p1) with Times := (st ((gt (st p0.p.Inodes p1 ({ (gt p0.p.Inodes p1) with Times := (st ((gt p0.p.Inodes p1).Times) 1 p0.p.Now) } : T84)) p1).Times) 0 p0.p.Now) } : T84)), n0, (some q0), 84⟩, ⟨(kSl k87), p0.p.Dirs, n1, (some q1), 85⟩, ⟨(kSl kByte), p0.p.Blocks, n2, (some q2), 43⟩] by rw [hl_32]))
   obtain rfl := oi hm
   exact fi f154 [] K h rfl trivial (.inr rfl) ⟨rfl, rfl⟩
 refine wk ?_
 replace h := (St.cast (St.sel [0, 1, 2, 3] rfl h) (show ([⟨k103o, [(⟨(⟨p0.p.Homes, p0.p.Now, p0.p.Salt, p0.p.Users, (hS q0 p0.p.Inodes n0), (hS q1 p0.p.Dirs n1), (hS q2 p0.p.Blocks n2)⟩ : T37o), p0.fds⟩ : T103o)], 1, (some B0), 103⟩, ⟨k84, (st p0.p.Inodes p1 ({ (gt p0.p.Inodes p1) with Times := (st ((gt p0.p.Inodes p1).Times) 1 p0.p.Now) } : T84)), n0, (some q0), 84⟩, ⟨(kSl k87), p0.p.Dirs, n1, (some q1), 85⟩, ⟨(kSl kByte), p0.p.Blocks, n2, (some q2), 43⟩] : List Own) = [⟨k103o, [(⟨(⟨p0.p.Homes, p0.p.Now, p0.p.Salt, p0.p.Users, (hdr (some q0) (st p0.p.Inodes p1 ({ (gt p0.p.Inodes p1) with Times := (st ((gt p0.p.Inodes p1).Times) 1 p0.p.Now) } : T84)).length n0), (hS q1 p0.p.Dirs n1), (hS q2 p0.p.Blocks n2)⟩ : T37o), p0.fds⟩ : T103o)], 1, (some B0), 103⟩, ⟨k84, (st p0.p.Inodes p1 ({ (gt p0.p.Inodes p1) with Times := (st ((gt p0.p.Inodes p1).Times) 1 p0.p.Now) } : T84)), n0, (some q0), 84⟩, ⟨(kSl k87), p0.p.Dirs, n1, (some q1), 85⟩, ⟨(kSl kByte), p0.p.Blocks, n2, (some q2), 43⟩] by rw [hl_16]))
 obtain rfl := oi hm
 exact fi f154 [] K h rfl trivial (.inr rfl) ⟨rfl, rfl⟩
abbrev R244 (r : (List Bool)) (v : Value) (H : Gh) : Prop := (kSl kBool).val H v r
instance monR244 {r : (List Bool)} : MonR (R244 r) := ⟨fun _ _ _ e h => Kd.val_mono e h⟩
theorem c244 {p0 : T103} {B0 q0 q1 q2 n0 n1 n2 : Nat} {r : (List Bool)} (hm : m244 p0 = some r) (h : St c G0 w ((o3 B0 q0 q1 q2 n0 n1 n2 p0))) : Calls prog 244 #[(pA B0 Ik103o)] w (Fin c fun v H Δ => ∃ Δn, Δ = (o3 B0 q0 q1 q2 n0 n1 n2 p0) ++ Δn ∧ ∃ b2 m2, Δn = [⟨kBool, r, m2, b2, 4⟩] ∧ v = hdr b2 r.length m2) := by
 unfold m244 at hm
 refine enter (n := 58) func244 rfl rfl rfl fun a K => sl <| asg K rfl fun a K => nsl <| mv K rfl fun a K => nilck K rfl fun a K => fa F103_0o K rfl o103_0o fun a K => fa F37_0o K rfl o37_0o fun a K => ld1 0 (J103_0o.comp F37_0o) (.int .i64 p0.p.Homes) K h rfl rfl rfl t3 vI fun a K => ?_
 obtain ⟨g_1, hm⟩ := gs hm
 refine mks K h rfl rfl g_1 s127 e4 z4 fun a w bk_2 K h => asg K rfl fun a K => wn <| ws <| sl <| mv K rfl fun a K => lenO K rfl rfl s127 fun a K => mv K rfl fun a K => wn <| wb ?_
 obtain ⟨p_15, hp_15, hm⟩ := bs hm
 refine loop (S := (List Bool) × Int) (R := (List Bool)) (fun s_10 a w => Jn c G0 (⟨kBool, s_10.1, (p0.p.Homes).toNat, (some bk_2), 4⟩ :: o3 B0 q0 q1 q2 n0 n1 n2 p0) 58 [(0, (pA B0 Ik103o)), (2, .slice none 0 0), (3, hdr (some bk_2) s_10.1.length ((p0.p.Homes).toNat)), (17, .int .i64 ((List.replicate (p0.p.Homes).toNat false).length : Int)), (18, .int .i64 s_10.2)] a w) (fun (p_15 : (List Bool)) e a w => e = .exit 0 ∧ Jn c G0 (⟨kBool, p_15, (p0.p.Homes).toNat, (some bk_2), 4⟩ :: o3 B0 q0 q1 q2 n0 n1 n2 p0) 58 [(0, (pA B0 Ik103o)), (2, .slice none 0 0), (3, hdr (some bk_2) p_15.length ((p0.p.Homes).toNat))] a w) hp_15 ⟨G0, gr, (St.sel [0, 1, 2, 3, 4] rfl h), (K.sub (so rfl))⟩ ?_ ?_
 · intro s_10 y_17 a w hm hI
   obtain ⟨G2, e_2, h, K⟩ := hI
   unfold m244_l_16 at hm
   refine sl <| binC _ K rfl rfl rfl fun a K => wn <| ws <| ifm hm K rfl (fun _ hm => ?_) fun _ hm => ?_
   · refine wk <| ws <| wb <| sl <| mv K rfl fun a K => asg K rfl fun a K => wn <| wl <| mv K rfl fun a K => mv K rfl fun a K => ?_
     obtain ⟨g_19, hm⟩ := gs hm
     refine ixo K rfl rfl g_19 s127 t4 fun a K => ?_
     have hl_20 : (st s_10.1 s_10.2 true).length = s_10.1.length := st_length
     refine sto 0 IkBool ((st s_10.1 s_10.2 true)) K h rfl rfl (gt_some g_19) rfl bool_val t4 rfl rfl fun w h => wn <| wl <| binI _ K rfl rfl rfl fun a K => mv K rfl fun a K => wn ?_
     obtain rfl := oi hm
     exact ⟨rfl, ⟨G2, e_2, (St.sel [0, 1, 2, 3, 4] rfl h), (K.sub ⟨rfl, rfl, (show lk _ 3 = some (hdr (some bk_2) (st s_10.1 s_10.2 true).length ((p0.p.Homes).toNat)) by rw [hl_20]; rfl), rfl, rfl, ⟨⟩⟩)⟩⟩
   refine wp_exit ?_
   obtain rfl := oi hm
   exact ⟨by simp, rfl, ⟨G2, e_2, (St.sel [0, 1, 2, 3, 4] rfl h), (K.sub (so rfl))⟩⟩
 intro e a w hD
 obtain ⟨rfl, ⟨G3, e_3, h, K⟩⟩ := hD
 refine ws <| sl <| mv K rfl fun a K => nilck K rfl fun a K => fa F103_0o K rfl o103_0o fun a K => fa F37_4o K rfl o37_4o fun a K => ld1 1 (J103_0o.comp F37_4o) (hS q0 p0.p.Inodes n0) K h rfl rfl rfl t33 vX fun a K => lenO K rfl rfl s33 fun a K => mv K rfl fun a K => wn <| wb ?_
 obtain ⟨p_363, hp_363, hm⟩ := bs hm
 refine loop (S := (List Bool) × Int) (R := (List Bool)) (fun s_248 a w => Jn c G3 (⟨kBool, s_248.1, (p0.p.Homes).toNat, (some bk_2), 4⟩ :: o3 B0 q0 q1 q2 n0 n1 n2 p0) 58 [(2, .slice none 0 0), (3, hdr (some bk_2) s_248.1.length ((p0.p.Homes).toNat)), (29, hdr (some q0) p0.p.Inodes.length n0), (30, .int .i64 (p0.p.Inodes.length : Int)), (31, .int .i64 s_248.2)] a w) (fun (p_363 : (List Bool)) e a w => e = .exit 2 ∧ Jn c G3 (⟨kBool, p_363, (p0.p.Homes).toNat, (some bk_2), 4⟩ :: o3 B0 q0 q1 q2 n0 n1 n2 p0) 58 [(2, .slice none 0 0), (3, hdr (some bk_2) p_363.length ((p0.p.Homes).toNat))] a w) hp_363 ⟨G3, gr, (St.sel [0, 1, 2, 3, 4] rfl h), (K.sub (so rfl))⟩ ?_ ?_
 · intro s_248 y_365 a w hm hI
   obtain ⟨G35, e_35, h, K⟩ := hI
   unfold m244_l_364 at hm
   refine sl <| binC _ K rfl rfl rfl fun a K => wn <| ws <| ifm hm K rfl (fun _ hm => ?_) fun _ hm => ?_
   · refine wk <| ws <| wb <| ws <| wl ?_
     obtain ⟨g_367, hm⟩ := gs hm
     refine ixo K rfl rfl g_367 s33 t84 fun a K => ld 2 Ik84 K h rfl rfl (gt_some g_367) t84 fun a v_368 K q_369 => ?_
     replace q_369 : k84.val _ v_368 (gt p0.p.Inodes s_248.2) := q_369
     refine alc K h z84 fun a w bk_370 K h => sto 0 Ik84 ([(gt p0.p.Inodes s_248.2)]) K h rfl rfl rfl rfl q_369 t84 rfl rfl fun w h => nsl <| fa F84_9 K rfl o84_9 fun a K => ld 0 J84_9 K h rfl rfl rfl t82 fun a v_371 K q_372 => ?_
     replace q_372 : (kSl k94).val _ v_371 ((gt p0.p.Inodes s_248.2).Extents) := q_372
     refine lenV K rfl q_372 rfl s82 fun a K => mv K rfl fun a K => wn <| wb ?_
     obtain ⟨p_451, hp_451, hm⟩ := bs hm
     refine loop (S := (List Bool) × Int) (R := (List Bool) × Int × Bool) (fun s_424 a w => Jn c G35 (⟨k84, [(gt p0.p.Inodes s_248.2)], 1, (some bk_370), 84⟩ :: ⟨kBool, s_424.1, (p0.p.Homes).toNat, (some bk_2), 4⟩ :: o3 B0 q0 q1 q2 n0 n1 n2 p0) 58 [(2, .slice none 0 0), (3, hdr (some bk_2) s_424.1.length ((p0.p.Homes).toNat)), (6, (pA bk_370 Ik84)), (29, hdr (some q0) p0.p.Inodes.length n0), (30, .int .i64 (p0.p.Inodes.length : Int)), (31, .int .i64 s_248.2), (32, .bool (decide (s_248.2 < (p0.p.Inodes.length : Int)))), (33, .pointer (some (adr q0 s_248.2.toNat k84.n Ik84.off))), (34, v_368), (35, (pA bk_370 J84_9)), (36, v_371), (37, .int .i64 (((gt p0.p.Inodes s_248.2).Extents).length : Int)), (38, .int .i64 s_424.2)] a w) (fun (p_451 : (List Bool) × Int × Bool) e a w => e = .exit 4 ∧ Jn c G35 (⟨k84, [(gt p0.p.Inodes s_248.2)], 1, (some bk_370), 84⟩ :: ⟨kBool, p_451.1, (p0.p.Homes).toNat, (some bk_2), 4⟩ :: o3 B0 q0 q1 q2 n0 n1 n2 p0) 58 [(2, .slice none 0 0), (3, hdr (some bk_2) p_451.1.length ((p0.p.Homes).toNat)), (6, (pA bk_370 Ik84)), (29, hdr (some q0) p0.p.Inodes.length n0), (30, .int .i64 (p0.p.Inodes.length : Int)), (31, .int .i64 s_248.2), (32, .bool (decide (s_248.2 < (p0.p.Inodes.length : Int)))), (33, .pointer (some (adr q0 s_248.2.toNat k84.n Ik84.off))), (34, v_368), (35, (pA bk_370 J84_9)), (36, v_371), (37, .int .i64 (((gt p0.p.Inodes s_248.2).Extents).length : Int)), (38, .int .i64 p_451.2.1), (39, .bool p_451.2.2)] a w) hp_451 ⟨G35, gr, (St.sel [0, 1, 2, 3, 4, 5] rfl h), (K.sub (so rfl))⟩ ?_ ?_
     · intro s_424 y_453 a w hm hI
       obtain ⟨G59, e_59, h, K⟩ := hI
       unfold m244_l_452 at hm
       refine sl <| binC _ K rfl rfl rfl fun a K => wn <| ws <| ifm hm K rfl (fun _ hm => ?_) fun _ hm => ?_
       · refine wk <| ws <| wb <| ws <| wl ?_
         obtain ⟨g_455, hm⟩ := gs hm
         refine ixs K rfl (Kd.val_mono e_59 q_372) rfl g_455 s82 t94 fun a v_456 K q_457 => ldr K h rfl q_457 t94 fun a v_458 K q_459 => ?_
         replace q_459 : k94.val _ v_458 (gt ((gt p0.p.Inodes s_248.2).Extents) s_424.2) := q_459
         refine alc K h z94 fun a w bk_460 K h => sto 0 Ik94 ([(gt ((gt p0.p.Inodes s_248.2).Extents) s_424.2)]) K h rfl rfl rfl rfl q_459 t94 rfl rfl fun w h => nsl <| fa F94_2 K rfl o94_2 fun a K => ld1 0 J94_2 (.int .i64 ((gt ((gt p0.p.Inodes s_248.2).Extents) s_424.2).Len)) K h rfl rfl rfl t3 vI fun a K => mv K rfl fun a K => wn <| wb ?_
         obtain ⟨p_473, hp_473, hm⟩ := bs hm
         refine loop (S := (List Bool) × Int) (R := (List Bool) × Int × Bool) (fun s_468 a w => Jn c G59 (⟨k94, [(gt ((gt p0.p.Inodes s_248.2).Extents) s_424.2)], 1, (some bk_460), 94⟩ :: ⟨k84, [(gt p0.p.Inodes s_248.2)], 1, (some bk_370), 84⟩ :: ⟨kBool, s_468.1, (p0.p.Homes).toNat, (some bk_2), 4⟩ :: o3 B0 q0 q1 q2 n0 n1 n2 p0) 58 [(2, .slice none 0 0), (3, hdr (some bk_2) s_468.1.length ((p0.p.Homes).toNat)), (6, (pA bk_370 Ik84)), (8, (pA bk_460 Ik94)), (29, hdr (some q0) p0.p.Inodes.length n0), (30, .int .i64 (p0.p.Inodes.length : Int)), (31, .int .i64 s_248.2), (32, .bool (decide (s_248.2 < (p0.p.Inodes.length : Int)))), (33, .pointer (some (adr q0 s_248.2.toNat k84.n Ik84.off))), (34, v_368), (35, (pA bk_370 J84_9)), (36, v_371), (37, .int .i64 (((gt p0.p.Inodes s_248.2).Extents).length : Int)), (38, .int .i64 s_424.2), (39, .bool (decide (s_424.2 < (((gt p0.p.Inodes s_248.2).Extents).length : Int)))), (40, v_456), (41, v_458), (42, (pA bk_460 J94_2)), (43, .int .i64 ((gt ((gt p0.p.Inodes s_248.2).Extents) s_424.2).Len)), (44, .int .i64 s_468.2)] a w) (fun (p_473 : (List Bool) × Int × Bool) e a w => e = .exit 6 ∧ Jn c G59 (⟨k94, [(gt ((gt p0.p.Inodes s_248.2).Extents) s_424.2)], 1, (some bk_460), 94⟩ :: ⟨k84, [(gt p0.p.Inodes s_248.2)], 1, (some bk_370), 84⟩ :: ⟨kBool, p_473.1, (p0.p.Homes).toNat, (some bk_2), 4⟩ :: o3 B0 q0 q1 q2 n0 n1 n2 p0) 58 [(2, .slice none 0 0), (3, hdr (some bk_2) p_473.1.length ((p0.p.Homes).toNat)), (6, (pA bk_370 Ik84)), (8, (pA bk_460 Ik94)), (29, hdr (some q0) p0.p.Inodes.length n0), (30, .int .i64 (p0.p.Inodes.length : Int)), (31, .int .i64 s_248.2), (32, .bool (decide (s_248.2 < (p0.p.Inodes.length : Int)))), (33, .pointer (some (adr q0 s_248.2.toNat k84.n Ik84.off))), (34, v_368), (35, (pA bk_370 J84_9)), (36, v_371), (37, .int .i64 (((gt p0.p.Inodes s_248.2).Extents).length : Int)), (38, .int .i64 s_424.2), (39, .bool (decide (s_424.2 < (((gt p0.p.Inodes s_248.2).Extents).length : Int)))), (40, v_456), (41, v_458), (42, (pA bk_460 J94_2)), (43, .int .i64 ((gt ((gt p0.p.Inodes s_248.2).Extents) s_424.2).Len)), (44, .int .i64 p_473.2.1), (45, .bool p_473.2.2)] a w) hp_473 ⟨G59, gr, (St.sel [0, 1, 2, 3, 4, 5, 6] rfl h), (K.sub (so rfl))⟩ ?_ ?_
         · intro s_468 y_475 a w hm hI
           obtain ⟨G65, e_65, h, K⟩ := hI
           unfold m244_l_474 at hm
           refine sl <| binC _ K rfl rfl rfl fun a K => wn <| ws <| ifm hm K rfl (fun _ hm => ?_) fun _ hm => ?_
           · refine wk <| ws <| wb <| sl <| mv K rfl fun a K => asg K rfl fun a K => wn <| wl <| mv K rfl fun a K => fa F94_1 K rfl o94_1 fun a K => ld1 0 J94_1 (.int .i64 ((gt ((gt p0.p.Inodes s_248.2).Extents) s_424.2).Home)) K h rfl rfl rfl t3 vI fun a K => binI _ K rfl rfl rfl fun a K => mv K rfl fun a K => binI _ K rfl rfl rfl fun a K => ?_
             obtain ⟨g_477, hm⟩ := gs hm
             refine ixo K rfl rfl g_477 s127 t4 fun a K => ?_
             have hl_478 : (st s_468.1 (wr ((wr ((gt ((gt p0.p.Inodes s_248.2).Extents) s_424.2).Home - 25)) + s_468.2)) false).length = s_468.1.length := st_length
             refine sto 2 IkBool ((st s_468.1 (wr ((wr ((gt ((gt p0.p.Inodes s_248.2).Extents) s_424.2).Home - 25)) + s_468.2)) false)) K h rfl rfl (gt_some g_477) rfl bool_val t4 rfl rfl fun w h => wn <| wl <| binI _ K rfl rfl rfl fun a K => mv K rfl fun a K => wn ?_
             obtain rfl := oi hm
             exact ⟨rfl, ⟨G65, e_65, (St.sel [0, 1, 2, 3, 4, 5, 6] rfl h), (K.sub ⟨rfl, (show lk _ 3 = some (hdr (some bk_2) (st s_468.1 (wr ((wr ((gt ((gt p0.p.Inodes s_248.2).Extents) s_424.2).Home - 25)) + s_468.2)) false).length ((p0.p.Homes).toNat)) by rw [hl_478]; rfl), rfl, rfl, rfl, rfl, rfl, rfl, rfl, rfl, rfl, rfl, rfl, rfl, rfl, rfl, rfl, rfl, rfl, rfl, ⟨⟩⟩)⟩⟩
           refine wp_exit ?_
           obtain rfl := oi hm
           exact ⟨by simp, rfl, ⟨G65, e_65, (St.sel [0, 1, 2, 3, 4, 5, 6] rfl h), (K.sub (so rfl))⟩⟩
         intro e a w hD
         obtain ⟨rfl, ⟨G66, e_66, h, K⟩⟩ := hD
         refine wl <| binI _ K rfl rfl rfl fun a K => mv K rfl fun a K => wn ?_
         obtain rfl := oi hm
         exact ⟨rfl, ⟨G66, (Gh.trans e_59 e_66), (St.sel [1, 2, 3, 4, 5, 6] rfl h), (K.sub (so rfl))⟩⟩
       refine wp_exit ?_
       obtain rfl := oi hm
       exact ⟨by simp, rfl, ⟨G59, e_59, (St.sel [0, 1, 2, 3, 4, 5] rfl h), (K.sub (so rfl))⟩⟩
     intro e a w hD
     obtain ⟨rfl, ⟨G63, e_63, h, K⟩⟩ := hD
     refine wl <| binI _ K rfl rfl rfl fun a K => mv K rfl fun a K => wn ?_
     obtain rfl := oi hm
     exact ⟨rfl, ⟨G63, (Gh.trans e_35 e_63), (St.sel [1, 2, 3, 4, 5] rfl h), (K.sub (so rfl))⟩⟩
   refine wp_exit ?_
   obtain rfl := oi hm
   exact ⟨by simp, rfl, ⟨G35, e_35, (St.sel [0, 1, 2, 3, 4] rfl h), (K.sub (so rfl))⟩⟩
 intro e a w hD
 obtain ⟨rfl, ⟨G51, e_51, h, K⟩⟩ := hD
 refine sl <| mv K rfl fun a K => asg K rfl fun a K => wn <| wt ?_
 obtain rfl := oi hm
 exact fr f244 K (St.sel [1, 2, 3, 4, 0] rfl h) rfl ⟨rfl, ⟨⟩⟩ ⟨_, rfl, (some bk_2), (p0.p.Homes).toNat, rfl, rfl⟩
abbrev R257 (r : Bool) (v : Value) (H : Gh) : Prop := v = .bool r
instance monR257 {r : Bool} : MonR (R257 r) := ⟨fun _ _ _ _ h => h⟩
theorem c257 {p0 : T94} {r : Bool} (hm : m257 p0 = some r) {vp0 : Value} (hp0 : (k94.val G0 vp0 p0)) (h : St c G0 w []) : Calls prog 257 #[vp0] w (FO c [] (R257 r)) := by
 unfold m257 at hm
 refine enter (n := 37) func257 rfl rfl rfl fun a K => sl <| boxr K h rfl hp0 fun a w v_1 G1 K e_1 h q_2 => asg K rfl fun a K => nsl <| far F94_2 K rfl q_2 o94_2 fun a v_3 K q_4 => ldr1 (.int .i64 p0.Len) K h rfl q_4 t3 vI fun a K => binC _ K rfl rfl rfl fun a K => mv K rfl fun a K => ?_
 rcases im hm with ⟨c_5, hm⟩ | ⟨c_5, hm⟩
 · refine g2 K c_5 <| far F94_2 K rfl q_2 o94_2 fun a v_6 K q_7 => g2 K c_5 <| ldr1 (.int .i64 p0.Len) K h rfl q_7 t3 vI fun a K => g2 K c_5 <| binC _ K rfl rfl rfl fun a K => pkT K rfl c_5 rfl fun a K => mv K rfl fun a K => ?_
   rcases im hm with ⟨c_8, hm⟩ | ⟨c_8, hm⟩
   · refine g2 K c_8 <| far F94_0 K rfl q_2 o94_0 fun a v_9 K q_10 => g2 K c_8 <| ldr1 (.int .i64 p0.From) K h rfl q_10 t3 vI fun a K => g2 K c_8 <| binC _ K rfl rfl rfl fun a K => pkT K rfl c_8 rfl fun a K => mv K rfl fun a K => ?_
     rcases im hm with ⟨c_11, hm⟩ | ⟨c_11, hm⟩
     · refine g2 K c_11 <| far F94_0 K rfl q_2 o94_0 fun a v_12 K q_13 => g2 K c_11 <| ldr1 (.int .i64 p0.From) K h rfl q_13 t3 vI fun a K => g2 K c_11 <| far F94_2 K rfl q_2 o94_2 fun a v_14 K q_15 => g2 K c_11 <| ldr1 (.int .i64 p0.Len) K h rfl q_15 t3 vI fun a K => g2 K c_11 <| binI _ K rfl rfl rfl fun a K => g2 K c_11 <| binC _ K rfl rfl rfl fun a K => pkT K rfl c_11 rfl fun a K => mv K rfl fun a K => ?_
       rcases im hm with ⟨c_16, hm⟩ | ⟨c_16, hm⟩
       · refine g2 K c_16 <| far F94_1 K rfl q_2 o94_1 fun a v_17 K q_18 => g2 K c_16 <| ldr1 (.int .i64 p0.Home) K h rfl q_18 t3 vI fun a K => g2 K c_16 <| binC _ K rfl rfl rfl fun a K => pkT K rfl c_16 rfl fun a K => mv K rfl fun a K => ?_
         rcases im hm with ⟨c_19, hm⟩ | ⟨c_19, hm⟩
         · refine g2 K c_19 <| far F94_1 K rfl q_2 o94_1 fun a v_20 K q_21 => g2 K c_19 <| ldr1 (.int .i64 p0.Home) K h rfl q_21 t3 vI fun a K => g2 K c_19 <| far F94_2 K rfl q_2 o94_2 fun a v_22 K q_23 => g2 K c_19 <| ldr1 (.int .i64 p0.Len) K h rfl q_23 t3 vI fun a K => g2 K c_19 <| binI _ K rfl rfl rfl fun a K => g2 K c_19 <| binC _ K rfl rfl rfl fun a K => pkT K rfl c_19 rfl fun a K => asg K rfl fun a K => wn <| wt ?_
           obtain rfl := oi hm
           exact fr f257 K (St.sel [] rfl h) rfl ⟨rfl, ⟨⟩⟩ ⟨rfl, rfl⟩
         refine g1 K c_19 fun a K => g1 K c_19 fun a K => g1 K c_19 fun a K => g1 K c_19 fun a K => g1 K c_19 fun a K => g1 K c_19 fun a K => pkF K rfl c_19 rfl fun a K => asg K rfl fun a K => wn <| wt ?_
         obtain rfl := oi hm
         exact fr f257 K (St.sel [] rfl h) rfl ⟨rfl, ⟨⟩⟩ ⟨rfl, rfl⟩
       refine g1 K c_16 fun a K => g1 K c_16 fun a K => g1 K c_16 fun a K => pkF K rfl c_16 rfl fun a K => mv K rfl fun a K => g1 K rfl fun a K => g1 K rfl fun a K => g1 K rfl fun a K => g1 K rfl fun a K => g1 K rfl fun a K => g1 K rfl fun a K => pkF K rfl rfl rfl fun a K => asg K rfl fun a K => wn <| wt ?_
       obtain rfl := oi hm
       exact fr f257 K (St.sel [] rfl h) rfl ⟨rfl, ⟨⟩⟩ ⟨rfl, rfl⟩
     refine g1 K c_11 fun a K => g1 K c_11 fun a K => g1 K c_11 fun a K => g1 K c_11 fun a K => g1 K c_11 fun a K => g1 K c_11 fun a K => pkF K rfl c_11 rfl fun a K => mv K rfl fun a K => g1 K rfl fun a K => g1 K rfl fun a K => g1 K rfl fun a K => pkF K rfl rfl rfl fun a K => mv K rfl fun a K => g1 K rfl fun a K => g1 K rfl fun a K => g1 K rfl fun a K => g1 K rfl fun a K => g1 K rfl fun a K => g1 K rfl fun a K => pkF K rfl rfl rfl fun a K => asg K rfl fun a K => wn <| wt ?_
     obtain rfl := oi hm
     exact fr f257 K (St.sel [] rfl h) rfl ⟨rfl, ⟨⟩⟩ ⟨rfl, rfl⟩
   refine g1 K c_8 fun a K => g1 K c_8 fun a K => g1 K c_8 fun a K => pkF K rfl c_8 rfl fun a K => mv K rfl fun a K => g1 K rfl fun a K => g1 K rfl fun a K => g1 K rfl fun a K => g1 K rfl fun a K => g1 K rfl fun a K => g1 K rfl fun a K => pkF K rfl rfl rfl fun a K => mv K rfl fun a K => g1 K rfl fun a K => g1 K rfl fun a K => g1 K rfl fun a K => pkF K rfl rfl rfl fun a K => mv K rfl fun a K => g1 K rfl fun a K => g1 K rfl fun a K => g1 K rfl fun a K => g1 K rfl fun a K => g1 K rfl fun a K => g1 K rfl fun a K => pkF K rfl rfl rfl fun a K => asg K rfl fun a K => wn <| wt ?_
   obtain rfl := oi hm
   exact fr f257 K (St.sel [] rfl h) rfl ⟨rfl, ⟨⟩⟩ ⟨rfl, rfl⟩
 refine g1 K c_5 fun a K => g1 K c_5 fun a K => g1 K c_5 fun a K => pkF K rfl c_5 rfl fun a K => mv K rfl fun a K => g1 K rfl fun a K => g1 K rfl fun a K => g1 K rfl fun a K => pkF K rfl rfl rfl fun a K => mv K rfl fun a K => g1 K rfl fun a K => g1 K rfl fun a K => g1 K rfl fun a K => g1 K rfl fun a K => g1 K rfl fun a K => g1 K rfl fun a K => pkF K rfl rfl rfl fun a K => mv K rfl fun a K => g1 K rfl fun a K => g1 K rfl fun a K => g1 K rfl fun a K => pkF K rfl rfl rfl fun a K => mv K rfl fun a K => g1 K rfl fun a K => g1 K rfl fun a K => g1 K rfl fun a K => g1 K rfl fun a K => g1 K rfl fun a K => g1 K rfl fun a K => pkF K rfl rfl rfl fun a K => asg K rfl fun a K => wn <| wt ?_
 obtain rfl := oi hm
 exact fr f257 K (St.sel [] rfl h) rfl ⟨rfl, ⟨⟩⟩ ⟨rfl, rfl⟩
abbrev R193 (r : Int) (v : Value) (H : Gh) : Prop := v = .int .i64 r
instance monR193 {r : Int} : MonR (R193 r) := ⟨fun _ _ _ _ h => h⟩
theorem c193 {p0 : (List T94)} {r : Int} (hm : m193 p0 = some r) {vp0 : Value} (hp0 : ((kSl k94).val G0 vp0 p0)) (h : St c G0 w []) : Calls prog 193 #[vp0] w (FO c [] (R193 r)) := by
 unfold m193 at hm
 refine enter (n := 74) func193 rfl rfl rfl fun a K => sl <| asg K rfl fun a K => wn <| ws <| sl <| mv K rfl fun a K => lenV K rfl hp0 rfl s82 fun a K => binC _ K rfl rfl rfl fun a K => wn <| ifm hm K rfl (fun _ hm => ?_) fun _ hm => ?_
 · refine sl <| asg K rfl fun a K => wn <| wt ?_
   obtain rfl := oi hm
   exact fr f193 K (St.sel [] rfl h) rfl ⟨rfl, ⟨⟩⟩ ⟨rfl, rfl⟩
 refine wk <| sl <| alc K h z298 fun a w bk_2 K h => wn <| ws <| sl <| mv K rfl fun a K => lenV K rfl hp0 rfl s82 fun a K => mv K rfl fun a K => wn <| wb ?_
 obtain ⟨y_209, hy_209, hm⟩ := bs hm
 refine loop (S := (List Bool) × Int) (R := Unit ⊕ Int) (fun s_140 a w => Jn c G0 [⟨a298, [s_140.1], 1, (some bk_2), 298⟩] 74 [(0, vp0), (2, .int .i64 0), (3, (pA bk_2 (Fld.id a298))), (11, vp0), (12, .int .i64 (p0.length : Int)), (13, .int .i64 s_140.2)] a w) (fun (y : Unit ⊕ Int) e a w => match y with | .inl p_210 => e = .exit 0 ∧ Jn c G0 [] 74 [(2, .int .i64 0)] a w | .inr q => e = .ret ∧ bodyPost prog f193 (FO c [] (R193 q)) e a w) hy_209 ⟨G0, gr, (St.sel [0] rfl h), (K.sub (so rfl))⟩ ?_ ?_
 · intro s_140 y_212 a w hm hI
   obtain ⟨G16, e_16, h, K⟩ := hI
   unfold m193_l_211 at hm
   refine sl <| binC _ K rfl rfl rfl fun a K => wn <| ws <| ifm hm K rfl (fun _ hm => ?_) fun _ hm => ?_
   · refine wk <| ws <| wb <| sl <| mv K rfl fun a K => ?_
     obtain ⟨g_214, hm⟩ := gs hm
     refine ixs K rfl (Kd.val_mono e_16 hp0) rfl g_214 s82 t94 fun a v_215 K q_216 => ldr K h rfl q_216 t94 fun a v_217 K q_218 => alc K h z94 fun a w bk_219 K h => asg K rfl fun a K => sto 0 Ik94 ([(gt p0 s_140.2)]) K h rfl rfl rfl rfl q_218 t94 rfl rfl fun w h => wn <| ws <| sl <| ld 0 Ik94 K h rfl rfl rfl t94 fun a v_220 K q_221 => ?_
     obtain ⟨x_222, hx_222, hm⟩ := bs hm
     refine clp K h rfl b257 (fun h => c257 hx_222 q_221 h) fun a w v G25 K e_25 h hR_223 => ?_
     obtain rfl := hR_223
     refine notB _ K rfl rfl fun a K => wn <| ifm hm K rfl (fun _ hm => ?_) fun _ hm => ?_
     · refine sl <| asg K rfl fun a K => wn <| wt ?_
       obtain rfl := oi hm
       exact ⟨by simp, rfl, (fr f193 K (St.sel [] rfl h) rfl ⟨rfl, ⟨⟩⟩ ⟨rfl, rfl⟩)⟩
     refine wk <| joinS (S := Unit) (fun s_240 a w => Jn c G25 [⟨k94, [(gt p0 s_140.2)], 1, (some bk_219), 94⟩, ⟨a298, [s_140.1], 1, (some bk_2), 298⟩] 74 [(0, vp0), (2, .int .i64 0), (3, (pA bk_2 (Fld.id a298))), (4, .int .i64 s_140.2), (5, (pA bk_219 Ik94)), (11, vp0), (12, .int .i64 (p0.length : Int)), (13, .int .i64 s_140.2), (14, .bool (decide (s_140.2 < (p0.length : Int)))), (15, .int .i64 s_140.2), (16, v_215), (17, v_217), (18, v_220), (19, .bool x_222), (20, .bool (!x_222)), (21, .int .i64 s_140.2), (22, .bool (decide (s_140.2 > 0)))] a w) (fun s_240 => m193_j_264 p0 s_140 s_240 = some y_212) (fun s_240 hm a w hJ => ?_) (fun kk_265 => ?_)
     · obtain ⟨G27, e_27, h, K⟩ := hJ
       unfold m193_j_264 at hm
       refine sl <| fa F94_2 K rfl o94_2 fun a K => ld1 0 J94_2 (.int .i64 ((gt p0 s_140.2).Len)) K h rfl rfl rfl t3 vI fun a K => mv K rfl fun a K => wn <| wb ?_
       obtain ⟨y_255, hy_255, hm⟩ := bs hm
       refine loop (S := (List Bool) × Int) (R := ((List Bool) × Int × Bool) ⊕ Int) (fun s_250 a w => Jn c G27 [⟨k94, [(gt p0 s_140.2)], 1, (some bk_219), 94⟩, ⟨a298, [s_250.1], 1, (some bk_2), 298⟩] 74 [(0, vp0), (2, .int .i64 0), (3, (pA bk_2 (Fld.id a298))), (4, .int .i64 s_140.2), (5, (pA bk_219 Ik94)), (11, vp0), (12, .int .i64 (p0.length : Int)), (13, .int .i64 s_140.2), (14, .bool (decide (s_140.2 < (p0.length : Int)))), (15, .int .i64 s_140.2), (16, v_215), (17, v_217), (18, v_220), (19, .bool x_222), (20, .bool (!x_222)), (21, .int .i64 s_140.2), (22, .bool (decide (s_140.2 > 0))), (56, (pA bk_219 J94_2)), (57, .int .i64 ((gt p0 s_140.2).Len)), (58, .int .i64 s_250.2)] a w) (fun (y : ((List Bool) × Int × Bool) ⊕ Int) e a w => match y with | .inl p_256 => e = .exit 2 ∧ Jn c G27 [⟨k94, [(gt p0 s_140.2)], 1, (some bk_219), 94⟩, ⟨a298, [p_256.1], 1, (some bk_2), 298⟩] 74 [(0, vp0), (2, .int .i64 0), (3, (pA bk_2 (Fld.id a298))), (4, .int .i64 s_140.2), (5, (pA bk_219 Ik94)), (11, vp0), (12, .int .i64 (p0.length : Int)), (13, .int .i64 s_140.2), (14, .bool (decide (s_140.2 < (p0.length : Int)))), (15, .int .i64 s_140.2), (16, v_215), (17, v_217), (18, v_220), (19, .bool x_222), (20, .bool (!x_222)), (21, .int .i64 s_140.2), (22, .bool (decide (s_140.2 > 0))), (56, (pA bk_219 J94_2)), (57, .int .i64 ((gt p0 s_140.2).Len)), (58, .int .i64 p_256.2.1), (59, .bool p_256.2.2)] a w | .inr q => e = .ret ∧ bodyPost prog f193 (FO c [] (R193 q)) e a w) hy_255 ⟨G27, gr, (St.sel [0, 1] rfl h), (K.sub (so rfl))⟩ ?_ ?_
       · intro s_250 y_258 a w hm hI
         obtain ⟨G29, e_29, h, K⟩ := hI
         unfold m193_l_257 at hm
         refine sl <| binC _ K rfl rfl rfl fun a K => wn <| ws <| ifm hm K rfl (fun _ hm => ?_) fun _ hm => ?_
         · refine wk <| ws <| wb <| sl <| mv K rfl fun a K => asg K rfl fun a K => wn <| ws <| sl <| fa F94_1 K rfl o94_1 fun a K => ld1 0 J94_1 (.int .i64 ((gt p0 s_140.2).Home)) K h rfl rfl rfl t3 vI fun a K => mv K rfl fun a K => binI _ K rfl rfl rfl fun a K => ?_
           obtain ⟨g_260, hm⟩ := gs hm
           refine ixa K rfl rfl g_260 r298 t4 fun a K => ld1 1 ((Fld.id a298).comp (Fld.idx kBool ((wr ((gt p0 s_140.2).Home + s_250.2))).toNat (inr_lt g_260))) (.bool (gt s_250.1 (wr ((gt p0 s_140.2).Home + s_250.2)))) K h rfl rfl rfl t4 vB fun a K => wn <| ifm hm K rfl (fun _ hm => ?_) fun _ hm => ?_
           · refine sl <| asg K rfl fun a K => wn <| wt ?_
             obtain rfl := oi hm
             exact ⟨by simp, rfl, (fr f193 K (St.sel [] rfl h) rfl ⟨rfl, ⟨⟩⟩ ⟨rfl, rfl⟩)⟩
           refine wk <| wl <| fa F94_1 K rfl o94_1 fun a K => ld1 0 J94_1 (.int .i64 ((gt p0 s_140.2).Home)) K h rfl rfl rfl t3 vI fun a K => mv K rfl fun a K => binI _ K rfl rfl rfl fun a K => ?_
           obtain ⟨g_262, hm⟩ := gs hm
           refine ixa K rfl rfl g_262 r298 t4 fun a K => sto 1 ((Fld.id a298).comp (Fld.idx kBool ((wr ((gt p0 s_140.2).Home + s_250.2))).toNat (inr_lt g_262))) ([(st s_250.1 (wr ((gt p0 s_140.2).Home + s_250.2)) true)]) K h rfl rfl rfl rfl bool_val t4 rfl rfl fun w h => wn <| wl <| binI _ K rfl rfl rfl fun a K => mv K rfl fun a K => wn ?_
           obtain rfl := oi hm
           exact ⟨rfl, ⟨G29, e_29, (St.sel [0, 1] rfl h), (K.sub (so rfl))⟩⟩
         refine wp_exit ?_
         obtain rfl := oi hm
         exact ⟨by simp, rfl, ⟨G29, e_29, (St.sel [0, 1] rfl h), (K.sub (so rfl))⟩⟩
       intro e a w hD
       rcases y_255 with p_256 | q_263
       · simp only [Sum.elim_inl, Sum.elim_inr] at hm
         obtain ⟨rfl, ⟨G30, e_30, h, K⟩⟩ := hD
         refine wl <| binI _ K rfl rfl rfl fun a K => mv K rfl fun a K => wn ?_
         obtain rfl := oi hm
         exact ⟨rfl, ⟨G30, (Gh.trans e_16 (Gh.trans e_25 (Gh.trans e_27 e_30))), (St.sel [1] rfl h), (K.sub (so rfl))⟩⟩
       simp only [Sum.elim_inr] at hm
       obtain rfl := oi hm
       obtain ⟨rfl, hD⟩ := hD
       exact ⟨by simp, rfl, hD⟩
     refine sl <| mv K rfl fun a K => binC _ K rfl rfl rfl fun a K => wn <| ifm hm K rfl (fun _ hm => ?_) fun _ hm => ?_
     · refine sl <| mv K rfl fun a K => mv K rfl fun a K => binI _ K rfl rfl rfl fun a K => ?_
       obtain ⟨g_267, hm⟩ := gs hm
       refine ixs K rfl (Kd.val_mono (Gh.trans e_16 e_25) hp0) rfl g_267 s82 t94 fun a v_268 K q_269 => ldr K h rfl q_269 t94 fun a v_270 K q_271 => alc K h z94 fun a w bk_272 K h => sto 0 Ik94 ([(gt p0 (wr (s_140.2 - 1)))]) K h rfl rfl rfl rfl q_271 t94 rfl rfl fun w h => wn <| joinS (S := Bool) (fun s_275 a w => Jn c G25 [⟨k94, [(gt p0 (wr (s_140.2 - 1)))], 1, (some bk_272), 94⟩, ⟨k94, [(gt p0 s_140.2)], 1, (some bk_219), 94⟩, ⟨a298, [s_140.1], 1, (some bk_2), 298⟩] 74 [(0, vp0), (2, .int .i64 0), (3, (pA bk_2 (Fld.id a298))), (4, .int .i64 s_140.2), (5, (pA bk_219 Ik94)), (6, (pA bk_272 Ik94)), (11, vp0), (12, .int .i64 (p0.length : Int)), (13, .int .i64 s_140.2), (14, .bool (decide (s_140.2 < (p0.length : Int)))), (15, .int .i64 s_140.2), (16, v_215), (17, v_217), (18, v_220), (19, .bool x_222), (20, .bool (!x_222)), (21, .int .i64 s_140.2), (22, .bool (decide (s_140.2 > 0))), (23, vp0), (24, .int .i64 s_140.2), (25, .int .i64 (wr (s_140.2 - 1))), (26, v_268), (27, v_270), (28, (pA bk_219 J94_0)), (29, .int .i64 ((gt p0 s_140.2).From)), (30, (pA bk_272 J94_0)), (31, .int .i64 ((gt p0 (wr (s_140.2 - 1))).From)), (32, (pA bk_272 J94_2)), (33, .int .i64 ((gt p0 (wr (s_140.2 - 1))).Len)), (34, .int .i64 (wr ((gt p0 (wr (s_140.2 - 1))).From + (gt p0 (wr (s_140.2 - 1))).Len))), (35, .bool (decide ((gt p0 s_140.2).From < (wr ((gt p0 (wr (s_140.2 - 1))).From + (gt p0 (wr (s_140.2 - 1))).Len))))), (36, .bool (decide ((gt p0 s_140.2).From < (wr ((gt p0 (wr (s_140.2 - 1))).From + (gt p0 (wr (s_140.2 - 1))).Len))))), (55, .bool s_275)] a w) (fun s_275 => m193_j_277 p0 s_140 s_275 = some y_212) (fun s_275 hm a w hJ => ?_) (fun kk_278 => ?_)
       · obtain ⟨G31, e_31, h, K⟩ := hJ
         unfold m193_j_277 at hm
         refine ifm hm K rfl (fun _ hm => ?_) fun _ hm => ?_
         · refine sl <| asg K rfl fun a K => wn <| wt ?_
           obtain rfl := oi hm
           exact ⟨by simp, rfl, (fr f193 K (St.sel [] rfl h) rfl ⟨rfl, ⟨⟩⟩ ⟨rfl, rfl⟩)⟩
         refine wk <| kk_265 () hm _ _ ⟨G31, e_31, (St.sel [1, 2] rfl h), (K.sub (so rfl))⟩
       refine wl <| fa F94_0 K rfl o94_0 fun a K => ld1 1 J94_0 (.int .i64 ((gt p0 s_140.2).From)) K h rfl rfl rfl t3 vI fun a K => fa F94_0 K rfl o94_0 fun a K => ld1 0 J94_0 (.int .i64 ((gt p0 (wr (s_140.2 - 1))).From)) K h rfl rfl rfl t3 vI fun a K => fa F94_2 K rfl o94_2 fun a K => ld1 0 J94_2 (.int .i64 ((gt p0 (wr (s_140.2 - 1))).Len)) K h rfl rfl rfl t3 vI fun a K => binI _ K rfl rfl rfl fun a K => binC _ K rfl rfl rfl fun a K => mv K rfl fun a K => ?_
       rcases im hm with ⟨c_279, hm⟩ | ⟨c_279, hm⟩
       · refine g1 K c_279 fun a K => g1 K c_279 fun a K => g1 K c_279 fun a K => g1 K c_279 fun a K => g1 K c_279 fun a K => g1 K c_279 fun a K => g1 K c_279 fun a K => g1 K c_279 fun a K => g1 K c_279 fun a K => gnU K rfl rfl rfl rfl fun a K => gnU K rfl rfl rfl rfl fun a K => gnU K rfl rfl rfl rfl fun a K => gnU K rfl rfl rfl rfl fun a K => gnU K rfl rfl rfl rfl fun a K => gnU K rfl rfl rfl rfl fun a K => gnU K rfl rfl rfl rfl fun a K => gnU K rfl rfl rfl rfl fun a K => g1 K c_279 fun a K => pkT K rfl c_279 rfl fun a K => wn <| kk_278 true hm _ _ ⟨G25, gr, (St.sel [0, 1, 2] rfl h), (K.sub (so rfl))⟩
       refine g2 K c_279 <| fa F94_0 K rfl o94_0 fun a K => g2 K c_279 <| ld1 1 J94_0 (.int .i64 ((gt p0 s_140.2).From)) K h rfl rfl rfl t3 vI fun a K => g2 K c_279 <| fa F94_0 K rfl o94_0 fun a K => g2 K c_279 <| ld1 0 J94_0 (.int .i64 ((gt p0 (wr (s_140.2 - 1))).From)) K h rfl rfl rfl t3 vI fun a K => g2 K c_279 <| fa F94_2 K rfl o94_2 fun a K => g2 K c_279 <| ld1 0 J94_2 (.int .i64 ((gt p0 (wr (s_140.2 - 1))).Len)) K h rfl rfl rfl t3 vI fun a K => g2 K c_279 <| binI _ K rfl rfl rfl fun a K => g2 K c_279 <| binC _ K rfl rfl rfl fun a K => g2 K c_279 <| mv K rfl fun a K => ?_
       rcases im hm with ⟨c_280, hm⟩ | ⟨c_280, hm⟩
       · refine g2 K c_280 <| fa F94_1 K rfl o94_1 fun a K => g2 K c_280 <| ld1 1 J94_1 (.int .i64 ((gt p0 s_140.2).Home)) K h rfl rfl rfl t3 vI fun a K => g2 K c_280 <| fa F94_1 K rfl o94_1 fun a K => g2 K c_280 <| ld1 0 J94_1 (.int .i64 ((gt p0 (wr (s_140.2 - 1))).Home)) K h rfl rfl rfl t3 vI fun a K => g2 K c_280 <| fa F94_2 K rfl o94_2 fun a K => g2 K c_280 <| ld1 0 J94_2 (.int .i64 ((gt p0 (wr (s_140.2 - 1))).Len)) K h rfl rfl rfl t3 vI fun a K => g2 K c_280 <| binI _ K rfl rfl rfl fun a K => g2 K c_280 <| binC _ K rfl rfl rfl fun a K => g2 K c_279 <| pkT K rfl c_280 rfl fun a K => pkF K rfl c_279 rfl fun a K => wn <| kk_278 ((gt p0 s_140.2).Home == (wr ((gt p0 (wr (s_140.2 - 1))).Home + (gt p0 (wr (s_140.2 - 1))).Len))) hm _ _ ⟨G25, gr, (St.sel [0, 1, 2] rfl h), (K.sub (so rfl))⟩
       refine g1 K c_280 fun a K => g1 K c_280 fun a K => g1 K c_280 fun a K => g1 K c_280 fun a K => g1 K c_280 fun a K => g1 K c_280 fun a K => g1 K c_280 fun a K => g1 K c_280 fun a K => g2 K c_279 <| pkF K rfl c_280 rfl fun a K => pkF K rfl c_279 rfl fun a K => wn <| kk_278 false hm _ _ ⟨G25, gr, (St.sel [0, 1, 2] rfl h), (K.sub (so rfl))⟩
     refine wk <| kk_265 () hm _ _ ⟨G25, gr, (St.sel [0, 1] rfl h), (K.sub (so rfl))⟩
   refine wp_exit ?_
   obtain rfl := oi hm
   exact ⟨by simp, rfl, ⟨G16, e_16, (St.sel [] rfl h), (K.sub ⟨rfl, ⟨⟩⟩)⟩⟩
 intro e a w hD
 rcases y_209 with p_210 | q_281
 · simp only [Sum.elim_inl, Sum.elim_inr] at hm
   obtain ⟨rfl, ⟨G24, e_24, h, K⟩⟩ := hD
   refine sl <| asg K rfl fun a K => wn <| wt ?_
   obtain rfl := oi hm
   exact fr f193 K (St.sel [] rfl h) rfl ⟨rfl, ⟨⟩⟩ ⟨rfl, rfl⟩
 simp only [Sum.elim_inr] at hm
 obtain rfl := oi hm
 obtain ⟨rfl, hD⟩ := hD
 exact hD
abbrev R233 (r : Int × Int) (v : Value) (H : Gh) : Prop := v = .tuple #[.int .i64 r.1, .int .i64 r.2]
instance monR233 {r : Int × Int} : MonR (R233 r) := ⟨fun _ _ _ _ h => h⟩
theorem c233 {p0 : (List T94)} {p1 : Int} {r : Int × Int} (hm : m233 p0 p1 = some r) {vp0 : Value} (hp0 : ((kSl k94).val G0 vp0 p0)) (h : St c G0 w []) : Calls prog 233 #[vp0, .int .i64 p1] w (FO c [] (R233 r)) := by
 unfold m233 at hm
 refine enter (n := 46) func233 rfl rfl rfl fun a K => sl <| asg K rfl fun a K => asg K rfl fun a K => wn <| ws <| wb <| sl <| mv K rfl fun a K => ?_
 obtain ⟨x_10, hx_10, hm⟩ := bs hm
 refine clp K h rfl b193 (fun h => c193 hx_10 hp0 h) fun a w v G3 K e_3 h hR_11 => ?_
 obtain rfl := hR_11
 refine binC _ K rfl rfl rfl fun a K => asg K rfl fun a K => wn <| ifm hm K rfl (fun _ hm => ?_) fun _ hm => ?_
 · refine sl <| asg K rfl fun a K => asg K rfl fun a K => wn <| wt ?_
   obtain rfl := oi hm
   exact fi f233 [_, _] K (St.sel [] rfl h) rfl ⟨rfl, rfl, ⟨⟩⟩ (.inl rfl) ⟨rfl, rfl⟩
 refine joinS (S := Bool) (fun s_14 a w => Jn c G3 [] 46 [(0, vp0), (1, .int .i64 p1), (4, .int .i64 0), (5, .int .i64 0), (12, .bool s_14)] a w) (fun s_14 => m233_j_75 p0 p1 s_14 = some r) (fun s_14 hm a w hJ => ?_) (fun kk_76 => ?_)
 · obtain ⟨G4, e_4, h, K⟩ := hJ
   unfold m233_j_75 at hm
   refine ifm hm K rfl (fun _ hm => ?_) fun _ hm => ?_
   · refine sl <| asg K rfl fun a K => asg K rfl fun a K => wn <| wt ?_
     obtain rfl := oi hm
     exact fi f233 [_, _] K (St.sel [] rfl h) rfl ⟨rfl, rfl, ⟨⟩⟩ (.inl rfl) ⟨rfl, rfl⟩
   refine wk <| ws <| sl <| mv K rfl fun a K => lenV K rfl (Kd.val_mono (Gh.trans e_3 e_4) hp0) rfl s82 fun a K => mv K rfl fun a K => wn <| wb ?_
   obtain ⟨y_57, hy_57, hm⟩ := bs hm
   refine loop (S := Int) (R := Unit ⊕ (Int × Int)) (fun s_43 a w => Jn c G4 [] 46 [(1, .int .i64 p1), (4, .int .i64 0), (5, .int .i64 0), (19, vp0), (20, .int .i64 (p0.length : Int)), (21, .int .i64 s_43)] a w) (fun (y : Unit ⊕ (Int × Int)) e a w => match y with | .inl p_58 => e = .exit 1 ∧ Jn c G4 [] 46 [(4, .int .i64 0), (5, .int .i64 0)] a w | .inr q => e = .ret ∧ bodyPost prog f233 (FO c [] (R233 q)) e a w) hy_57 ⟨G4, gr, (St.sel [] rfl h), (K.sub (so rfl))⟩ ?_ ?_
   · intro s_43 y_60 a w hm hI
     obtain ⟨G8, e_8, h, K⟩ := hI
     unfold m233_l_59 at hm
     refine sl <| binC _ K rfl rfl rfl fun a K => wn <| ws <| ifm hm K rfl (fun _ hm => ?_) fun _ hm => ?_
     · refine wk <| ws <| wb <| ws <| wl ?_
       obtain ⟨g_62, hm⟩ := gs hm
       refine ixs K rfl (Kd.val_mono (Gh.trans e_3 (Gh.trans e_4 e_8)) hp0) rfl g_62 s82 t94 fun a v_63 K q_64 => ldr K h rfl q_64 t94 fun a v_65 K q_66 => alc K h z94 fun a w bk_67 K h => sto 0 Ik94 ([(gt p0 s_43)]) K h rfl rfl rfl rfl q_66 t94 rfl rfl fun w h => wn <| joinS (S := Bool) (fun s_69 a w => Jn c G8 [⟨k94, [(gt p0 s_43)], 1, (some bk_67), 94⟩] 46 [(1, .int .i64 p1), (4, .int .i64 0), (5, .int .i64 0), (7, (pA bk_67 Ik94)), (19, vp0), (20, .int .i64 (p0.length : Int)), (21, .int .i64 s_43), (22, .bool (decide (s_43 < (p0.length : Int)))), (23, v_63), (24, v_65), (25, .int .i64 p1), (26, (pA bk_67 J94_0)), (27, .int .i64 ((gt p0 s_43).From)), (28, .bool (decide (p1 ≥ (gt p0 s_43).From))), (29, .bool (decide (p1 ≥ (gt p0 s_43).From))), (37, .bool s_69)] a w) (fun s_69 => m233_j_71 p0 p1 s_43 s_69 = some y_60) (fun s_69 hm a w hJ => ?_) (fun kk_72 => ?_)
       · obtain ⟨G11, e_11, h, K⟩ := hJ
         unfold m233_j_71 at hm
         refine ifm hm K rfl (fun _ hm => ?_) fun _ hm => ?_
         · refine sl <| fa F94_1 K rfl o94_1 fun a K => ld1 0 J94_1 (.int .i64 ((gt p0 s_43).Home)) K h rfl rfl rfl t3 vI fun a K => mv K rfl fun a K => binI _ K rfl rfl rfl fun a K => fa F94_0 K rfl o94_0 fun a K => ld1 0 J94_0 (.int .i64 ((gt p0 s_43).From)) K h rfl rfl rfl t3 vI fun a K => binI _ K rfl rfl rfl fun a K => asg K rfl fun a K => asg K rfl fun a K => wn <| wt ?_
           obtain rfl := oi hm
           exact ⟨by simp, rfl, (fi f233 [_, _] K (St.sel [] rfl h) rfl ⟨rfl, rfl, ⟨⟩⟩ (.inl rfl) ⟨rfl, rfl⟩)⟩
         refine wk <| wl <| binI _ K rfl rfl rfl fun a K => mv K rfl fun a K => wn ?_
         obtain rfl := oi hm
         exact ⟨rfl, ⟨G11, (Gh.trans e_8 e_11), (St.sel [] rfl h), (K.sub (so rfl))⟩⟩
       refine wl <| mv K rfl fun a K => fa F94_0 K rfl o94_0 fun a K => ld1 0 J94_0 (.int .i64 ((gt p0 s_43).From)) K h rfl rfl rfl t3 vI fun a K => binC _ K rfl rfl rfl fun a K => mv K rfl fun a K => ?_
       rcases im hm with ⟨c_73, hm⟩ | ⟨c_73, hm⟩
       · refine g2 K c_73 <| mv K rfl fun a K => g2 K c_73 <| fa F94_0 K rfl o94_0 fun a K => g2 K c_73 <| ld1 0 J94_0 (.int .i64 ((gt p0 s_43).From)) K h rfl rfl rfl t3 vI fun a K => g2 K c_73 <| fa F94_2 K rfl o94_2 fun a K => g2 K c_73 <| ld1 0 J94_2 (.int .i64 ((gt p0 s_43).Len)) K h rfl rfl rfl t3 vI fun a K => g2 K c_73 <| binI _ K rfl rfl rfl fun a K => g2 K c_73 <| binC _ K rfl rfl rfl fun a K => pkT K rfl c_73 rfl fun a K => wn <| kk_72 (decide (p1 < (wr ((gt p0 s_43).From + (gt p0 s_43).Len)))) hm _ _ ⟨G8, gr, (St.sel [0] rfl h), (K.sub (so rfl))⟩
       refine g1 K c_73 fun a K => g1 K c_73 fun a K => g1 K c_73 fun a K => g1 K c_73 fun a K => g1 K c_73 fun a K => g1 K c_73 fun a K => g1 K c_73 fun a K => pkF K rfl c_73 rfl fun a K => wn <| kk_72 false hm _ _ ⟨G8, gr, (St.sel [0] rfl h), (K.sub (so rfl))⟩
     refine wp_exit ?_
     obtain rfl := oi hm
     exact ⟨by simp, rfl, ⟨G8, e_8, (St.sel [] rfl h), (K.sub (so rfl))⟩⟩
   intro e a w hD
   rcases y_57 with p_58 | q_74
   · simp only [Sum.elim_inl, Sum.elim_inr] at hm
     obtain ⟨rfl, ⟨G10, e_10, h, K⟩⟩ := hD
     refine sl <| asg K rfl fun a K => asg K rfl fun a K => wn <| wt ?_
     obtain rfl := oi hm
     exact fi f233 [_, _] K (St.sel [] rfl h) rfl ⟨rfl, rfl, ⟨⟩⟩ (.inl rfl) ⟨rfl, rfl⟩
   simp only [Sum.elim_inr] at hm
   obtain rfl := oi hm
   obtain ⟨rfl, hD⟩ := hD
   exact hD
 refine wl <| mv K rfl fun a K => binC _ K rfl rfl rfl fun a K => mv K rfl fun a K => ?_
 rcases im hm with ⟨c_77, hm⟩ | ⟨c_77, hm⟩
 · refine g1 K c_77 fun a K => g1 K c_77 fun a K => pkT K rfl c_77 rfl fun a K => asg K rfl fun a K => wn <| kk_76 true hm _ _ ⟨G3, gr, (St.sel [] rfl h), (K.sub (so rfl))⟩
 refine g2 K c_77 <| mv K rfl fun a K => g2 K c_77 <| binC _ K rfl rfl rfl fun a K => pkF K rfl c_77 rfl fun a K => asg K rfl fun a K => wn <| kk_76 (decide (p1 ≥ 40)) hm _ _ ⟨G3, gr, (St.sel [] rfl h), (K.sub (so rfl))⟩
abbrev R331 (r : (List Bool)) (v : Value) (H : Gh) : Prop := (kSl kBool).val H v r
instance monR331 {r : (List Bool)} : MonR (R331 r) := ⟨fun _ _ _ e h => Kd.val_mono e h⟩
theorem c331 {p0 : (List Bool)} {p1 : Int} {r : (List Bool)} (hm : m331 p0 p1 = some r) {vp0 : Value} (hp0 : ((kSl kBool).val G0 vp0 p0)) (h : St c G0 w []) : Calls prog 331 #[vp0, .int .i64 p1] w (FO c [] (R331 r)) := by
 unfold m331 at hm
 refine enter (n := 15) func331 rfl rfl rfl fun a K => sl <| asg K rfl fun a K => nsl <| mv K rfl fun a K => mv K rfl fun a K => binI _ K rfl rfl rfl fun a K => mv K rfl fun a K => lenV K rfl hp0 rfl s127 fun a K => mv K rfl fun a K => binI _ K rfl rfl rfl fun a K => binI _ K rfl rfl rfl fun a K => min2 _ K rfl rfl rfl fun a K => ?_
 obtain ⟨g_1, hm⟩ := gs hm
 refine slV (wr (p1 * 8)) (imin (p0.length : Int) (wr ((wr (p1 + 1)) * 8))) K rfl hp0 s127 t4 (.inr ⟨_, _, rfl, rfl⟩) (.inr ⟨_, _, rfl, rfl⟩) g_1 fun a v_2 K q_3 => asg K rfl fun a K => wn <| wt ?_
 obtain rfl := oi hm
 exact fr f331 K (St.sel [] rfl h) rfl ⟨rfl, ⟨⟩⟩ ⟨rfl, q_3⟩
abbrev R327 (r : Int) (v : Value) (H : Gh) : Prop := v = .int .i64 r
instance monR327 {r : Int} : MonR (R327 r) := ⟨fun _ _ _ _ h => h⟩
theorem c327 {p0 : (List Bool)} {p1 : Int} {r : Int} (hm : m327 p0 p1 = some r) {vp0 : Value} (hp0 : ((kSl kBool).val G0 vp0 p0)) (h : St c G0 w []) : Calls prog 327 #[vp0, .int .i64 p1] w (FO c [] (R327 r)) := by
 unfold m327 at hm
 refine enter (n := 47) func327 rfl rfl rfl fun a K => sl <| asg K rfl fun a K => wn <| wp_scope_straight <| ws <| joinS (S := Bool) (fun s_8 a w => Jn c G0 [] 47 [(0, vp0), (1, .int .i64 p1), (4, .int .i64 0), (17, .bool s_8)] a w) (fun s_8 => m327_j_47 p0 p1 s_8 = some r) (fun s_8 hm a w hJ => ?_) (fun kk_48 => ?_)
 · obtain ⟨G2, e_2, h, K⟩ := hJ
   unfold m327_j_47 at hm
   refine ifm hm K rfl (fun _ hm => ?_) fun _ hm => ?_
   · refine sl <| asg K rfl fun a K => wn <| wt ?_
     obtain rfl := oi hm
     exact fr f327 K (St.sel [] rfl h) rfl ⟨rfl, ⟨⟩⟩ ⟨rfl, rfl⟩
   refine wk <| sl <| mv K rfl fun a K => binDiv _ K rfl rfl rfl rfl fun a K => asg K rfl fun a K => nsl <| asg K rfl fun a K => wn <| ws <| wp_label <| ws <| sl <| mv K rfl fun a K => mv K rfl fun a K => ?_
   obtain ⟨x_10, hx_10, hm⟩ := bs hm
   refine clp K h rfl b331 (fun h => c331 hx_10 (Kd.val_mono e_2 hp0) h) fun a w v_12 G3 K e_3 h hR_11 => lenV K rfl hR_11 rfl s127 fun a K => mv K rfl fun a K => wn <| wb ?_
   obtain ⟨p_37, hp_37, hm⟩ := bs hm
   refine loop (S := Int × Int) (R := Int) (fun s_28 a w => Jn c G3 [] 47 [(1, .int .i64 p1), (4, .int .i64 0), (5, .int .i64 (wr ((p1).tdiv 8))), (6, .int .i64 s_28.1), (22, v_12), (23, .int .i64 (x_10.length : Int)), (24, .int .i64 s_28.2)] a w) (fun (p_37 : Int) e a w => e = .exit 0 ∧ Jn c G3 [] 47 [(4, .int .i64 0), (6, .int .i64 p_37)] a w) hp_37 ⟨G3, gr, (St.sel [] rfl h), (K.sub (so rfl))⟩ ?_ ?_
   · intro s_28 y_39 a w hm hI
     obtain ⟨G5, e_5, h, K⟩ := hI
     unfold m327_l_38 at hm
     refine sl <| binC _ K rfl rfl rfl fun a K => wn <| ws <| ifm hm K rfl (fun _ hm => ?_) fun _ hm => ?_
     · refine wk <| ws <| wb <| sl <| mv K rfl fun a K => ?_
       obtain ⟨g_41, hm⟩ := gs hm
       refine ixs K rfl (Kd.val_mono e_5 hR_11) rfl g_41 s127 t4 fun a v_42 K q_43 => ldr1 (.bool (gt x_10 s_28.2)) K h rfl q_43 t4 vB fun a K => asg K rfl fun a K => asg K rfl fun a K => nsl <| mv K rfl fun a K => binI _ K rfl rfl rfl fun a K => mv K rfl fun a K => binI _ K rfl rfl rfl fun a K => asg K rfl fun a K => wn <| wb <| sl <| mv K rfl fun a K => notB _ K rfl rfl fun a K => asg K rfl fun a K => wn <| ifm hm K rfl (fun _ hm => ?_) fun _ hm => ?_
       · refine wp_exit <| wl <| binI _ K rfl rfl rfl fun a K => mv K rfl fun a K => wn ?_
         obtain rfl := oi hm
         exact ⟨rfl, ⟨G5, e_5, (St.sel [] rfl h), (K.sub (so rfl))⟩⟩
       refine sl <| mv K rfl fun a K => mv K rfl fun a K => binC _ K rfl rfl rfl fun a K => asg K rfl fun a K => wn <| ifm hm K rfl (fun _ hm => ?_) fun _ hm => ?_
       · refine sl <| mv K rfl fun a K => asg K rfl fun a K => wn <| wp_exit ?_
         obtain rfl := oi hm
         exact ⟨by simp, rfl, ⟨G5, e_5, (St.sel [] rfl h), (K.sub (so rfl))⟩⟩
       refine sl <| mv K rfl fun a K => binC _ K rfl rfl rfl fun a K => asg K rfl fun a K => wn <| ifm hm K rfl (fun _ hm => ?_) fun _ hm => ?_
       · refine wl <| mv K rfl fun a K => asg K rfl fun a K => wn <| wl <| binI _ K rfl rfl rfl fun a K => mv K rfl fun a K => wn ?_
         obtain rfl := oi hm
         exact ⟨rfl, ⟨G5, e_5, (St.sel [] rfl h), (K.sub (so rfl))⟩⟩
       refine wk <| wl <| binI _ K rfl rfl rfl fun a K => mv K rfl fun a K => wn ?_
       obtain rfl := oi hm
       exact ⟨rfl, ⟨G5, e_5, (St.sel [] rfl h), (K.sub (so rfl))⟩⟩
     refine wp_exit ?_
     obtain rfl := oi hm
     exact ⟨by simp, rfl, ⟨G5, e_5, (St.sel [] rfl h), (K.sub (so rfl))⟩⟩
   intro e a w hD
   obtain ⟨rfl, ⟨G6, e_6, h, K⟩⟩ := hD
   refine sl <| mv K rfl fun a K => asg K rfl fun a K => wn <| wt ?_
   obtain rfl := oi hm
   exact fr f327 K (St.sel [] rfl h) rfl ⟨rfl, ⟨⟩⟩ ⟨rfl, rfl⟩
 refine wl <| mv K rfl fun a K => binC _ K rfl rfl rfl fun a K => mv K rfl fun a K => ?_
 rcases im hm with ⟨c_49, hm⟩ | ⟨c_49, hm⟩
 · refine g1 K c_49 fun a K => g1 K c_49 fun a K => g1 K c_49 fun a K => g1 K c_49 fun a K => pkT K rfl c_49 rfl fun a K => wn <| kk_48 true hm _ _ ⟨G0, gr, (St.sel [] rfl h), (K.sub (so rfl))⟩
 refine g2 K c_49 <| mv K rfl fun a K => g2 K c_49 <| mv K rfl fun a K => g2 K c_49 <| lenV K rfl hp0 rfl s127 fun a K => g2 K c_49 <| binC _ K rfl rfl rfl fun a K => pkF K rfl c_49 rfl fun a K => wn <| kk_48 (decide (p1 ≥ (p0.length : Int))) hm _ _ ⟨G0, gr, (St.sel [] rfl h), (K.sub (so rfl))⟩
abbrev R328 (r : Int) (v : Value) (H : Gh) : Prop := v = .int .i64 r
instance monR328 {r : Int} : MonR (R328 r) := ⟨fun _ _ _ _ h => h⟩
theorem c328 {p0 : (List Bool)} {r : Int} (hm : m328 p0 = some r) {vp0 : Value} (hp0 : ((kSl kBool).val G0 vp0 p0)) (h : St c G0 w []) : Calls prog 328 #[vp0] w (FO c [] (R328 r)) := by
 unfold m328 at hm
 refine enter (n := 8) func328 rfl rfl rfl fun a K => sl <| asg K rfl fun a K => nsl <| mv K rfl fun a K => lenV K rfl hp0 rfl s127 fun a K => binI _ K rfl rfl rfl fun a K => binI _ K rfl rfl rfl fun a K => binDiv _ K rfl rfl rfl rfl fun a K => asg K rfl fun a K => wn <| wt ?_
 obtain rfl := oi hm
 exact fr f328 K (St.sel [] rfl h) rfl ⟨rfl, ⟨⟩⟩ ⟨rfl, rfl⟩
abbrev R243 (r : Int) (v : Value) (H : Gh) : Prop := v = .int .i64 r
instance monR243 {r : Int} : MonR (R243 r) := ⟨fun _ _ _ _ h => h⟩
theorem c243 {p0 : (List Bool)} {r : Int} (hm : m243 p0 = some r) {vp0 : Value} (hp0 : ((kSl kBool).val G0 vp0 p0)) (h : St c G0 w []) : Calls prog 243 #[vp0] w (FO c [] (R243 r)) := by
 unfold m243 at hm
 refine enter (n := 17) func243 rfl rfl rfl fun a K => sl <| asg K rfl fun a K => nsl <| asg K rfl fun a K => wn <| ws <| sl <| mv K rfl fun a K => lenV K rfl hp0 rfl s127 fun a K => mv K rfl fun a K => wn <| wb ?_
 obtain ⟨p_19, hp_19, hm⟩ := bs hm
 refine loop (S := Int × Int) (R := Int) (fun s_12 a w => Jn c G0 [] 17 [(2, .int .i64 0), (3, .int .i64 s_12.1), (6, vp0), (7, .int .i64 (p0.length : Int)), (8, .int .i64 s_12.2)] a w) (fun (p_19 : Int) e a w => e = .exit 0 ∧ Jn c G0 [] 17 [(2, .int .i64 0), (3, .int .i64 p_19)] a w) hp_19 ⟨G0, gr, (St.sel [] rfl h), (K.sub (so rfl))⟩ ?_ ?_
 · intro s_12 y_21 a w hm hI
   obtain ⟨G2, e_2, h, K⟩ := hI
   unfold m243_l_20 at hm
   refine sl <| binC _ K rfl rfl rfl fun a K => wn <| ws <| ifm hm K rfl (fun _ hm => ?_) fun _ hm => ?_
   · refine wk <| ws <| wb <| ws <| wl ?_
     obtain ⟨g_23, hm⟩ := gs hm
     refine ixs K rfl (Kd.val_mono e_2 hp0) rfl g_23 s127 t4 fun a v_24 K q_25 => ldr1 (.bool (gt p0 s_12.2)) K h rfl q_25 t4 vB fun a K => asg K rfl fun a K => nsl <| mv K rfl fun a K => wn <| ifm hm K rfl (fun _ hm => ?_) fun _ hm => ?_
     · refine wl <| mv K rfl fun a K => binI _ K rfl rfl rfl fun a K => asg K rfl fun a K => wn <| wl <| binI _ K rfl rfl rfl fun a K => mv K rfl fun a K => wn ?_
       obtain rfl := oi hm
       exact ⟨rfl, ⟨G2, e_2, (St.sel [] rfl h), (K.sub (so rfl))⟩⟩
     refine wk <| wl <| binI _ K rfl rfl rfl fun a K => mv K rfl fun a K => wn ?_
     obtain rfl := oi hm
     exact ⟨rfl, ⟨G2, e_2, (St.sel [] rfl h), (K.sub (so rfl))⟩⟩
   refine wp_exit ?_
   obtain rfl := oi hm
   exact ⟨by simp, rfl, ⟨G2, e_2, (St.sel [] rfl h), (K.sub (so rfl))⟩⟩
 intro e a w hD
 obtain ⟨rfl, ⟨G3, e_3, h, K⟩⟩ := hD
 refine sl <| mv K rfl fun a K => asg K rfl fun a K => wn <| wt ?_
 obtain rfl := oi hm
 exact fr f243 K (St.sel [] rfl h) rfl ⟨rfl, ⟨⟩⟩ ⟨rfl, rfl⟩
abbrev R246 (r : Bool) (v : Value) (H : Gh) : Prop := v = .bool r
instance monR246 {r : Bool} : MonR (R246 r) := ⟨fun _ _ _ _ h => h⟩
theorem c246 {p0 : Nat} {r : Bool} (hm : m246 p0 = some r) (h : St c G0 w []) : Calls prog 246 #[.float .f64 p0] w (FO c [] (R246 r)) := by
 unfold m246 at hm
 refine enter (n := 6) func246 rfl rfl rfl fun a K => sl <| asg K rfl fun a K => nsl <| mv K rfl fun a K => mv K rfl fun a K => binF _ K rfl rfl rfl fun a K => asg K rfl fun a K => wn <| wt ?_
 obtain rfl := oi hm
 exact fr f246 K (St.sel [] rfl h) rfl ⟨rfl, ⟨⟩⟩ ⟨rfl, rfl⟩
abbrev R179 (r : Nat) (v : Value) (H : Gh) : Prop := v = .float .f64 r
instance monR179 {r : Nat} : MonR (R179 r) := ⟨fun _ _ _ _ h => h⟩
theorem c179 {p0 : Nat} {r : Nat} (hm : m179 p0 = some r) (h : St c G0 w []) : Calls prog 179 #[.float .f64 p0] w (FO c [] (R179 r)) := by
 unfold m179 at hm
 refine enter (n := 7) func179 rfl rfl rfl fun a K => sl <| asg K rfl fun a K => wn <| ws <| sl <| mv K rfl fun a K => ?_
 obtain ⟨x_1, hx_1, hm⟩ := bs hm
 refine clp K h rfl b246 (fun h => c246 hx_1 h) fun a w v G1 K e_1 h hR_2 => ?_
 obtain rfl := hR_2
 refine wn <| ifm hm K rfl (fun _ hm => ?_) fun _ hm => ?_
 · refine sl <| clx (.float .f64 ((9221120237041090560 : Int).toNat)) x131 K rfl x_from fun a K => asg K rfl fun a K => wn <| wt ?_
   obtain rfl := oi hm
   exact fr f179 K (St.sel [] rfl h) rfl ⟨rfl, ⟨⟩⟩ ⟨rfl, rfl⟩
 refine wk <| sl <| mv K rfl fun a K => asg K rfl fun a K => wn <| wt ?_
 obtain rfl := oi hm
 exact fr f179 K (St.sel [] rfl h) rfl ⟨rfl, ⟨⟩⟩ ⟨rfl, rfl⟩
abbrev R350 (r : Nat) (v : Value) (H : Gh) : Prop := v = .float .f64 r
instance monR350 {r : Nat} : MonR (R350 r) := ⟨fun _ _ _ _ h => h⟩
theorem c350 {p0 : Int} {p1 : Int} {r : Nat} (hm : m350 p0 p1 = some r) (h : St c G0 w []) : Calls prog 350 #[.int .i64 p0, .int .i64 p1] w (FO c [] (R350 r)) := by
 unfold m350 at hm
 refine enter (n := 11) func350 rfl rfl rfl fun a K => sl <| asg K rfl fun a K => nsl <| mv K rfl fun a K => cvtIF K rfl ⟨_, u3⟩ u31 fun a K => mv K rfl fun a K => cvtIF K rfl ⟨_, u3⟩ u31 fun a K => ?_
 obtain ⟨x_1, hx_1, hm⟩ := bs hm
 refine binFA _ K rfl rfl hx_1 fun a K => ?_
 obtain ⟨x_2, hx_2, hm⟩ := bs hm
 refine clp K h rfl b179 (fun h => c179 hx_2 h) fun a w v G1 K e_1 h hR_3 => ?_
 obtain rfl := hR_3
 refine asg K rfl fun a K => wn <| wt ?_
 obtain rfl := oi hm
 exact fr f350 K (St.sel [] rfl h) rfl ⟨rfl, ⟨⟩⟩ ⟨rfl, rfl⟩
abbrev R329 (r : Nat × Int) (v : Value) (H : Gh) : Prop := v = .tuple #[.float .f64 r.1, .int .i64 r.2]
instance monR329 {r : Nat × Int} : MonR (R329 r) := ⟨fun _ _ _ _ h => h⟩
theorem c329 {p0 : (List Bool)} {p1 : Int} {r : Nat × Int} (hm : m329 p0 p1 = some r) {vp0 : Value} (hp0 : ((kSl kBool).val G0 vp0 p0)) (h : St c G0 w []) : Calls prog 329 #[vp0, .int .i64 p1] w (FO c [] (R329 r)) := by
 unfold m329 at hm
 refine enter (n := 27) func329 rfl rfl rfl fun a K => sl <| asg K rfl fun a K => asg K rfl fun a K => wn <| ws <| joinS (S := Bool) (fun s_14 a w => Jn c G0 [] 27 [(0, vp0), (1, .int .i64 p1), (4, .float .f64 (0 : Nat)), (5, .int .i64 0), (15, .bool s_14)] a w) (fun s_14 => m329_j_23 p0 p1 s_14 = some r) (fun s_14 hm a w hJ => ?_) (fun kk_24 => ?_)
 · obtain ⟨G5, e_5, h, K⟩ := hJ
   unfold m329_j_23 at hm
   refine ifm hm K rfl (fun _ hm => ?_) fun _ hm => ?_
   · refine sl <| asg K rfl fun a K => asg K rfl fun a K => wn <| wt ?_
     obtain rfl := oi hm
     exact fi f329 [_, _] K (St.sel [] rfl h) rfl ⟨rfl, rfl, ⟨⟩⟩ (.inl rfl) ⟨rfl, rfl⟩
   refine wk <| sl <| mv K rfl fun a K => mv K rfl fun a K => ?_
   obtain ⟨x_16, hx_16, hm⟩ := bs hm
   refine clp K h rfl b331 (fun h => c331 hx_16 (Kd.val_mono e_5 hp0) h) fun a w v_18 G6 K e_6 h hR_17 => asg K rfl fun a K => nsl <| mv K rfl fun a K => ?_
   obtain ⟨x_19, hx_19, hm⟩ := bs hm
   refine clp K h rfl b243 (fun h => c243 hx_19 hR_17 h) fun a w v G7 K e_7 h hR_20 => ?_
   obtain rfl := hR_20
   refine asg K rfl fun a K => nsl <| mv K rfl fun a K => mv K rfl fun a K => lenV K rfl (Kd.val_mono e_7 hR_17) rfl s127 fun a K => mv K rfl fun a K => binI _ K rfl rfl rfl fun a K => ?_
   obtain ⟨x_21, hx_21, hm⟩ := bs hm
   refine clp K h rfl b350 (fun h => c350 hx_21 h) fun a w v G8 K e_8 h hR_22 => ?_
   obtain rfl := hR_22
   refine asg K rfl fun a K => asg K rfl fun a K => wn <| wt ?_
   obtain rfl := oi hm
   exact fi f329 [_, _] K (St.sel [] rfl h) rfl ⟨rfl, rfl, ⟨⟩⟩ (.inl rfl) ⟨rfl, rfl⟩
 refine wl <| mv K rfl fun a K => binC _ K rfl rfl rfl fun a K => mv K rfl fun a K => ?_
 rcases im hm with ⟨c_25, hm⟩ | ⟨c_25, hm⟩
 · refine g1 K c_25 fun a K => g1 K c_25 fun a K => g1 K c_25 fun a K => g1 K c_25 fun a K => pkT K rfl c_25 rfl fun a K => wn <| kk_24 true hm _ _ ⟨G0, gr, (St.sel [] rfl h), (K.sub (so rfl))⟩
 refine g2 K c_25 <| mv K rfl fun a K => g2 K c_25 <| mv K rfl fun a K => gy K rfl rfl c_25 ?_
 obtain ⟨x_26, hx_26, hm⟩ := bs hm
 refine clp K h rfl b328 (fun h => c328 hx_26 hp0 h) fun a w v G9 K e_9 h hR_27 => ?_
 obtain rfl := hR_27
 refine g2 K c_25 <| binC _ K rfl rfl rfl fun a K => pkF K rfl c_25 rfl fun a K => wn <| kk_24 (decide (p1 ≥ x_26)) hm _ _ ⟨G9, e_9, (St.sel [] rfl h), (K.sub (so rfl))⟩
abbrev R330 (r : Int) (v : Value) (H : Gh) : Prop := v = .int .i64 r
instance monR330 {r : Int} : MonR (R330 r) := ⟨fun _ _ _ _ h => h⟩
theorem c330 {p0 : Nat} {p1 : Nat} {r : Int} (hm : m330 p0 p1 = some r) (h : St c G0 w []) : Calls prog 330 #[.float .f64 p0, .float .f64 p1] w (FO c [] (R330 r)) := by
 unfold m330 at hm
 refine enter (n := 28) func330 rfl rfl rfl fun a K => sl <| asg K rfl fun a K => wn <| ws <| sl <| mv K rfl fun a K => ?_
 obtain ⟨x_1, hx_1, hm⟩ := bs hm
 refine clp K h rfl b246 (fun h => c246 hx_1 h) fun a w v G1 K e_1 h hR_2 => ?_
 obtain rfl := hR_2
 refine mv K rfl fun a K => ?_
 obtain ⟨x_3, hx_3, hm⟩ := bs hm
 refine clp K h rfl b246 (fun h => c246 hx_3 h) fun a w v G2 K e_2 h hR_4 => ?_
 obtain rfl := hR_4
 refine asg K rfl fun a K => asg K rfl fun a K => wn <| wb <| joinS (S := Bool) (fun s_6 a w => Jn c G2 [] 28 [(0, .float .f64 p0), (1, .float .f64 p1), (4, .int .i64 0), (5, .bool x_1), (6, .bool x_3), (11, .bool s_6)] a w) (fun s_6 => m330_j_12 p0 p1 x_1 x_3 s_6 = some r) (fun s_6 hm a w hJ => ?_) (fun kk_13 => ?_)
 · obtain ⟨G3, e_3, h, K⟩ := hJ
   unfold m330_j_12 at hm
   refine ifm hm K rfl (fun _ hm => ?_) fun _ hm => ?_
   · refine sl <| asg K rfl fun a K => wn <| wt ?_
     obtain rfl := oi hm
     exact fr f330 K (St.sel [] rfl h) rfl ⟨rfl, ⟨⟩⟩ ⟨rfl, rfl⟩
   refine sl <| mv K rfl fun a K => asg K rfl fun a K => wn <| ifm hm K rfl (fun _ hm => ?_) fun _ hm => ?_
   · refine sl <| asg K rfl fun a K => wn <| wt ?_
     obtain rfl := oi hm
     exact fr f330 K (St.sel [] rfl h) rfl ⟨rfl, ⟨⟩⟩ ⟨rfl, rfl⟩
   refine sl <| mv K rfl fun a K => asg K rfl fun a K => wn <| ifm hm K rfl (fun _ hm => ?_) fun _ hm => ?_
   · refine sl <| asg K rfl fun a K => wn <| wt ?_
     obtain rfl := oi hm
     exact fr f330 K (St.sel [] rfl h) rfl ⟨rfl, ⟨⟩⟩ ⟨rfl, rfl⟩
   refine sl <| mv K rfl fun a K => mv K rfl fun a K => binF _ K rfl rfl rfl fun a K => asg K rfl fun a K => wn <| ifm hm K rfl (fun _ hm => ?_) fun _ hm => ?_
   · refine sl <| asg K rfl fun a K => wn <| wt ?_
     obtain rfl := oi hm
     exact fr f330 K (St.sel [] rfl h) rfl ⟨rfl, ⟨⟩⟩ ⟨rfl, rfl⟩
   refine sl <| mv K rfl fun a K => mv K rfl fun a K => binF _ K rfl rfl rfl fun a K => asg K rfl fun a K => wn <| ifm hm K rfl (fun _ hm => ?_) fun _ hm => ?_
   · refine sl <| asg K rfl fun a K => wn <| wt ?_
     obtain rfl := oi hm
     exact fr f330 K (St.sel [] rfl h) rfl ⟨rfl, ⟨⟩⟩ ⟨rfl, rfl⟩
   refine wk <| sl <| asg K rfl fun a K => wn <| wt ?_
   obtain rfl := oi hm
   exact fr f330 K (St.sel [] rfl h) rfl ⟨rfl, ⟨⟩⟩ ⟨rfl, rfl⟩
 refine wl <| mv K rfl fun a K => mv K rfl fun a K => ?_
 rcases im hm with ⟨c_14, hm⟩ | ⟨c_14, hm⟩
 · refine g2 K c_14 <| mv K rfl fun a K => pkT K rfl c_14 rfl fun a K => asg K rfl fun a K => wn <| kk_13 x_3 hm _ _ ⟨G2, gr, (St.sel [] rfl h), (K.sub (so rfl))⟩
 refine g1 K c_14 fun a K => pkF K rfl c_14 rfl fun a K => asg K rfl fun a K => wn <| kk_13 false hm _ _ ⟨G2, gr, (St.sel [] rfl h), (K.sub (so rfl))⟩
abbrev R312 (r : Int × Int) (v : Value) (H : Gh) : Prop := v = .tuple #[.int .i64 r.1, .int .i64 r.2]
instance monR312 {r : Int × Int} : MonR (R312 r) := ⟨fun _ _ _ _ h => h⟩
theorem c312 {p0 : (List Bool)} {p1 : Int} {r : Int × Int} (hm : m312 p0 p1 = some r) {vp0 : Value} (hp0 : ((kSl kBool).val G0 vp0 p0)) (h : St c G0 w []) : Calls prog 312 #[vp0, .int .i64 p1] w (FO c [] (R312 r)) := by
 unfold m312 at hm
 refine enter (n := 59) func312 rfl rfl rfl fun a K => sl <| asg K rfl fun a K => asg K rfl fun a K => wn <| wp_scope_straight <| ws <| sl <| mv K rfl fun a K => mv K rfl fun a K => ?_
 obtain ⟨x_1, hx_1, hm⟩ := bs hm
 refine clp K h rfl b327 (fun h => c327 hx_1 hp0 h) fun a w v G1 K e_1 h hR_2 => ?_
 obtain rfl := hR_2
 refine asg K rfl fun a K => nsl <| mv K rfl fun a K => binC _ K rfl rfl rfl fun a K => wn <| ifm hm K rfl (fun _ hm => ?_) fun _ hm => ?_
 · refine sl <| mv K rfl fun a K => asg K rfl fun a K => asg K rfl fun a K => wn <| wt ?_
   obtain rfl := oi hm
   exact fi f312 [_, _] K (St.sel [] rfl h) rfl ⟨rfl, rfl, ⟨⟩⟩ (.inl rfl) ⟨rfl, rfl⟩
 refine wk <| sl <| asg K rfl fun a K => asg K rfl fun a K => wn <| ws <| wp_label <| ws <| sl <| mv K rfl fun a K => ?_
 obtain ⟨x_4, hx_4, hm⟩ := bs hm
 refine clp K h rfl b328 (fun h => c328 hx_4 (Kd.val_mono e_1 hp0) h) fun a w v G2 K e_2 h hR_5 => ?_
 obtain rfl := hR_5
 refine mv K rfl fun a K => wn <| wb ?_
 obtain ⟨p_174, hp_174, hm⟩ := bs hm
 refine loop (S := Int × Nat × Int) (R := Int) (fun s_117 a w => Jn c G2 [] 59 [(0, vp0), (4, .int .i64 0), (5, .int .i64 0), (7, .int .i64 s_117.1), (8, .float .f64 s_117.2.1), (21, .int .i64 x_4), (22, .int .i64 s_117.2.2)] a w) (fun (p_174 : Int) e a w => e = .exit 0 ∧ Jn c G2 [] 59 [(4, .int .i64 0), (5, .int .i64 0), (7, .int .i64 p_174)] a w) hp_174 ⟨G2, gr, (St.sel [] rfl h), (K.sub (so rfl))⟩ ?_ ?_
 · intro s_117 y_176 a w hm hI
   obtain ⟨G28, e_28, h, K⟩ := hI
   unfold m312_l_175 at hm
   refine sl <| binC _ K rfl rfl rfl fun a K => wn <| ws <| ifm hm K rfl (fun _ hm => ?_) fun _ hm => ?_
   · refine wk <| ws <| wb <| sl <| mv K rfl fun a K => asg K rfl fun a K => nsl <| mv K rfl fun a K => mv K rfl fun a K => ?_
     obtain ⟨x_178, hx_178, hm⟩ := bs hm
     refine clp K h rfl b329 (fun h => c329 hx_178 (Kd.val_mono (Gh.trans e_1 (Gh.trans e_2 e_28)) hp0) h) fun a w v G42 K e_42 h hR_179 => ?_
     obtain rfl := hR_179
     refine mv K rfl fun a K => extr K rfl rfl fun a K => extr K rfl rfl fun a K => asg K rfl fun a K => asg K rfl fun a K => wn <| ws <| joinS (S := Bool) (fun s_193 a w => Jn c G42 [] 59 [(0, vp0), (4, .int .i64 0), (5, .int .i64 0), (7, .int .i64 s_117.1), (8, .float .f64 s_117.2.1), (9, .int .i64 s_117.2.2), (10, .float .f64 x_178.1), (21, .int .i64 x_4), (22, .int .i64 s_117.2.2), (23, .bool (decide (s_117.2.2 < x_4))), (24, .int .i64 s_117.2.2), (26, vp0), (27, .int .i64 s_117.2.2), (29, .float .f64 x_178.1), (30, .int .i64 x_178.2), (31, .int .i64 s_117.1), (32, .bool (decide (s_117.1 ≥ 0))), (33, .bool (decide (s_117.1 ≥ 0))), (38, .bool s_193)] a w) (fun s_193 => m312_j_227 p0 s_117 x_178 s_193 = some y_176) (fun s_193 hm a w hJ => ?_) (fun kk_228 => ?_)
     · obtain ⟨G47, e_47, h, K⟩ := hJ
       unfold m312_j_227 at hm
       refine ifm hm K rfl (fun _ hm => ?_) fun _ hm => ?_
       · refine wp_exit <| wl <| binI _ K rfl rfl rfl fun a K => mv K rfl fun a K => wn ?_
         obtain rfl := oi hm
         exact ⟨rfl, ⟨G47, (Gh.trans e_28 (Gh.trans e_42 e_47)), (St.sel [] rfl h), (K.sub (so rfl))⟩⟩
       refine wk <| sl <| mv K rfl fun a K => mv K rfl fun a K => ?_
       obtain ⟨x_195, hx_195, hm⟩ := bs hm
       refine clp K h rfl b331 (fun h => c331 hx_195 (Kd.val_mono (Gh.trans e_1 (Gh.trans e_2 (Gh.trans e_28 (Gh.trans e_42 e_47)))) hp0) h) fun a w v_197 G48 K e_48 h hR_196 => lenV K rfl hR_196 rfl s127 fun a K => mv K rfl fun a K => wn <| wb ?_
       obtain ⟨y_215, hy_215, hm⟩ := bs hm
       refine loop (S := Int) (R := (Int × Int × Bool × Int × Bool × Int × Bool × Bool × Bool × Int × Int) ⊕ (Int × Bool)) (fun s_209 a w => Jn c G48 [] 59 [(0, vp0), (4, .int .i64 0), (5, .int .i64 0), (7, .int .i64 s_117.1), (8, .float .f64 s_117.2.1), (9, .int .i64 s_117.2.2), (10, .float .f64 x_178.1), (21, .int .i64 x_4), (22, .int .i64 s_117.2.2), (23, .bool (decide (s_117.2.2 < x_4))), (24, .int .i64 s_117.2.2), (26, vp0), (27, .int .i64 s_117.2.2), (29, .float .f64 x_178.1), (30, .int .i64 x_178.2), (31, .int .i64 s_117.1), (32, .bool (decide (s_117.1 ≥ 0))), (33, .bool (decide (s_117.1 ≥ 0))), (38, .bool s_193), (39, vp0), (40, .int .i64 s_117.2.2), (41, v_197), (42, .int .i64 (x_195.length : Int)), (43, .int .i64 s_209)] a w) (fun (y : (Int × Int × Bool × Int × Bool × Int × Bool × Bool × Bool × Int × Int) ⊕ (Int × Bool)) e a w => match y with | .inl p_216 => e = .exit 1 ∧ ∃ (G51 : Gh) (v_217 : Value), Gh.le G48 G51 ∧ St c G51 w [] ∧ Tm 59 a [(0, vp0), (4, .int .i64 0), (5, .int .i64 0), (7, .int .i64 p_216.1), (8, .float .f64 x_178.1), (9, .int .i64 s_117.2.2), (10, .float .f64 x_178.1), (12, .int .i64 p_216.2.1), (13, .bool p_216.2.2.1), (21, .int .i64 x_4), (22, .int .i64 s_117.2.2), (23, .bool (decide (s_117.2.2 < x_4))), (24, .int .i64 s_117.2.2), (26, vp0), (27, .int .i64 s_117.2.2), (29, .float .f64 x_178.1), (30, .int .i64 x_178.2), (31, .int .i64 s_117.1), (32, .bool (decide (s_117.1 ≥ 0))), (33, .bool (decide (s_117.1 ≥ 0))), (38, .bool s_193), (39, vp0), (40, .int .i64 s_117.2.2), (41, v_197), (42, .int .i64 (x_195.length : Int)), (43, .int .i64 p_216.2.2.2.1), (44, .bool p_216.2.2.2.2.1), (45, .int .i64 p_216.2.2.2.2.2.1), (46, v_217), (47, .bool p_216.2.2.2.2.2.2.2.1), (48, .bool p_216.2.2.2.2.2.2.2.2.1), (49, .int .i64 s_117.2.2), (50, .int .i64 (wr (s_117.2.2 * 8))), (51, .int .i64 p_216.2.2.2.2.2.2.2.2.2.1), (52, .int .i64 p_216.2.2.2.2.2.2.2.2.2.2), (53, .float .f64 x_178.1)] ∧ (kRef kBool).val G51 v_217 p_216.2.2.2.2.2.2.1 | .inr p_219 => e = .exit 2 ∧ Jn c G48 [] 59 [(0, vp0), (4, .int .i64 0), (5, .int .i64 0), (7, .int .i64 s_117.1), (8, .float .f64 s_117.2.1), (9, .int .i64 s_117.2.2), (10, .float .f64 x_178.1), (21, .int .i64 x_4), (22, .int .i64 s_117.2.2), (23, .bool (decide (s_117.2.2 < x_4))), (24, .int .i64 s_117.2.2), (26, vp0), (27, .int .i64 s_117.2.2), (29, .float .f64 x_178.1), (30, .int .i64 x_178.2), (31, .int .i64 s_117.1), (32, .bool (decide (s_117.1 ≥ 0))), (33, .bool (decide (s_117.1 ≥ 0))), (38, .bool s_193), (39, vp0), (40, .int .i64 s_117.2.2), (41, v_197), (42, .int .i64 (x_195.length : Int)), (43, .int .i64 p_219.1), (44, .bool p_219.2)] a w) hy_215 ⟨G48, gr, (St.sel [] rfl h), (K.sub (so rfl))⟩ ?_ ?_
       · intro s_209 y_221 a w hm hI
         obtain ⟨G50, e_50, h, K⟩ := hI
         unfold m312_l_220 at hm
         refine sl <| binC _ K rfl rfl rfl fun a K => wn <| ws <| ifm hm K rfl (fun _ hm => ?_) fun _ hm => ?_
         · refine wk <| ws <| wb <| sl <| mv K rfl fun a K => ?_
           obtain ⟨g_223, hm⟩ := gs hm
           refine ixs K rfl (Kd.val_mono e_50 hR_196) rfl g_223 s127 t4 fun a v_224 K q_225 => ldr1 (.bool (gt x_195 s_209)) K h rfl q_225 t4 vB fun a K => asg K rfl fun a K => asg K rfl fun a K => nsl <| mv K rfl fun a K => wn <| ifm hm K rfl (fun _ hm => ?_) fun _ hm => ?_
           · refine sl <| mv K rfl fun a K => binI _ K rfl rfl rfl fun a K => mv K rfl fun a K => binI _ K rfl rfl rfl fun a K => mv K rfl fun a K => asg K rfl fun a K => asg K rfl fun a K => wn <| wp_exit ?_
             obtain rfl := oi hm
             exact ⟨by simp, rfl, ⟨G50, v_224, e_50, (St.sel [] rfl h), (K.sub (so rfl)), q_225⟩⟩
           refine wk <| wl <| binI _ K rfl rfl rfl fun a K => mv K rfl fun a K => wn ?_
           obtain rfl := oi hm
           exact ⟨rfl, ⟨G50, e_50, (St.sel [] rfl h), (K.sub (so rfl))⟩⟩
         refine wp_exit ?_
         obtain rfl := oi hm
         exact ⟨by simp, rfl, ⟨G50, e_50, (St.sel [] rfl h), (K.sub (so rfl))⟩⟩
       intro e a w hD
       rcases y_215 with p_216 | p_219
       · simp only [Sum.elim_inl, Sum.elim_inr] at hm
         obtain ⟨rfl, ⟨G51, v_217, e_51, h, K, q_218⟩⟩ := hD
         refine wl <| binI _ K rfl rfl rfl fun a K => mv K rfl fun a K => wn ?_
         obtain rfl := oi hm
         exact ⟨rfl, ⟨G51, (Gh.trans e_28 (Gh.trans e_42 (Gh.trans e_47 (Gh.trans e_48 e_51)))), (St.sel [] rfl h), (K.sub (so rfl))⟩⟩
       simp only [Sum.elim_inr] at hm
       obtain ⟨rfl, ⟨G52, e_52, h, K⟩⟩ := hD
       refine wl <| binI _ K rfl rfl rfl fun a K => mv K rfl fun a K => wn ?_
       obtain rfl := oi hm
       exact ⟨rfl, ⟨G52, (Gh.trans e_28 (Gh.trans e_42 (Gh.trans e_47 (Gh.trans e_48 e_52)))), (St.sel [] rfl h), (K.sub (so rfl))⟩⟩
     refine wl <| mv K rfl fun a K => binC _ K rfl rfl rfl fun a K => mv K rfl fun a K => ?_
     rcases im hm with ⟨c_229, hm⟩ | ⟨c_229, hm⟩
     · refine g2 K c_229 <| mv K rfl fun a K => g2 K c_229 <| mv K rfl fun a K => gy K rfl rfl c_229 ?_
       obtain ⟨x_230, hx_230, hm⟩ := bs hm
       refine clp K h rfl b330 (fun h => c330 hx_230 h) fun a w v G53 K e_53 h hR_231 => ?_
       obtain rfl := hR_231
       refine g2 K c_229 <| binC _ K rfl rfl rfl fun a K => pkT K rfl c_229 rfl fun a K => wn <| kk_228 (decide (x_230 ≤ 0)) hm _ _ ⟨G53, e_53, (St.sel [] rfl h), (K.sub (so rfl))⟩
     refine g1 K c_229 fun a K => g1 K c_229 fun a K => g1 K c_229 fun a K => g1 K c_229 fun a K => pkF K rfl c_229 rfl fun a K => wn <| kk_228 false hm _ _ ⟨G42, gr, (St.sel [] rfl h), (K.sub (so rfl))⟩
   refine wp_exit ?_
   obtain rfl := oi hm
   exact ⟨by simp, rfl, ⟨G28, e_28, (St.sel [] rfl h), (K.sub (so rfl))⟩⟩
 intro e a w hD
 obtain ⟨rfl, ⟨G41, e_41, h, K⟩⟩ := hD
 refine ws <| sl <| mv K rfl fun a K => binC _ K rfl rfl rfl fun a K => wn <| ifm hm K rfl (fun _ hm => ?_) fun _ hm => ?_
 · refine sl <| asg K rfl fun a K => asg K rfl fun a K => wn <| wt ?_
   obtain rfl := oi hm
   exact fi f312 [_, _] K (St.sel [] rfl h) rfl ⟨rfl, rfl, ⟨⟩⟩ (.inl rfl) ⟨rfl, rfl⟩
 refine wk <| sl <| mv K rfl fun a K => asg K rfl fun a K => asg K rfl fun a K => wn <| wt ?_
 obtain rfl := oi hm
 exact fi f312 [_, _] K (St.sel [] rfl h) rfl ⟨rfl, rfl, ⟨⟩⟩ (.inl rfl) ⟨rfl, rfl⟩
abbrev R281 (r : (List Int)) (v : Value) (H : Gh) : Prop := a313.val H v r
instance monR281 {r : (List Int)} : MonR (R281 r) := ⟨fun _ _ _ e h => Kd.val_mono e h⟩
theorem c281 {p0 : (List T94)} {r : (List Int)} (hm : m281 p0 = some r) {vp0 : Value} (hp0 : ((kSl k94).val G0 vp0 p0)) (h : St c G0 w []) : Calls prog 281 #[vp0] w (FO c [] (R281 r)) := by
 unfold m281 at hm
 refine enter (n := 31) func281 rfl rfl rfl fun a K => sl <| alc K h z313 fun a w bk_1 K h => nsl <| alc K h z313 fun a w bk_2 K h => wn <| ws <| sl <| mv K rfl fun a K => lenV K rfl hp0 rfl s82 fun a K => mv K rfl fun a K => wn <| wb ?_
 obtain ⟨p_69, hp_69, hm⟩ := bs hm
 refine loop (S := (List Int) × Int) (R := (List Int)) (fun s_46 a w => Jn c G0 [⟨a313, [s_46.1], 1, (some bk_2), 313⟩, ⟨a313, [(List.replicate 40 0)], 1, (some bk_1), 313⟩] 31 [(2, (pA bk_1 (Fld.id a313))), (3, (pA bk_2 (Fld.id a313))), (7, vp0), (8, .int .i64 (p0.length : Int)), (9, .int .i64 s_46.2)] a w) (fun (p_69 : (List Int)) e a w => e = .exit 0 ∧ Jn c G0 [⟨a313, [p_69], 1, (some bk_2), 313⟩, ⟨a313, [(List.replicate 40 0)], 1, (some bk_1), 313⟩] 31 [(2, (pA bk_1 (Fld.id a313))), (3, (pA bk_2 (Fld.id a313)))] a w) hp_69 ⟨G0, gr, (St.sel [0, 1] rfl h), (K.sub (so rfl))⟩ ?_ ?_
 · intro s_46 y_71 a w hm hI
   obtain ⟨G8, e_8, h, K⟩ := hI
   unfold m281_l_70 at hm
   refine sl <| binC _ K rfl rfl rfl fun a K => wn <| ws <| ifm hm K rfl (fun _ hm => ?_) fun _ hm => ?_
   · refine wk <| ws <| wb <| ws <| wl ?_
     obtain ⟨g_73, hm⟩ := gs hm
     refine ixs K rfl (Kd.val_mono e_8 hp0) rfl g_73 s82 t94 fun a v_74 K q_75 => ldr K h rfl q_75 t94 fun a v_76 K q_77 => alc K h z94 fun a w bk_78 K h => sto 0 Ik94 ([(gt p0 s_46.2)]) K h rfl rfl rfl rfl q_77 t94 rfl rfl fun w h => nsl <| fa F94_2 K rfl o94_2 fun a K => ld1 0 J94_2 (.int .i64 ((gt p0 s_46.2).Len)) K h rfl rfl rfl t3 vI fun a K => mv K rfl fun a K => wn <| wb ?_
     obtain ⟨p_88, hp_88, hm⟩ := bs hm
     refine loop (S := (List Int) × Int) (R := (List Int) × Int × Bool) (fun s_84 a w => Jn c G8 [⟨k94, [(gt p0 s_46.2)], 1, (some bk_78), 94⟩, ⟨a313, [s_84.1], 1, (some bk_2), 313⟩, ⟨a313, [(List.replicate 40 0)], 1, (some bk_1), 313⟩] 31 [(2, (pA bk_1 (Fld.id a313))), (3, (pA bk_2 (Fld.id a313))), (5, (pA bk_78 Ik94)), (7, vp0), (8, .int .i64 (p0.length : Int)), (9, .int .i64 s_46.2), (10, .bool (decide (s_46.2 < (p0.length : Int)))), (11, v_74), (12, v_76), (13, (pA bk_78 J94_2)), (14, .int .i64 ((gt p0 s_46.2).Len)), (15, .int .i64 s_84.2)] a w) (fun (p_88 : (List Int) × Int × Bool) e a w => e = .exit 2 ∧ Jn c G8 [⟨k94, [(gt p0 s_46.2)], 1, (some bk_78), 94⟩, ⟨a313, [p_88.1], 1, (some bk_2), 313⟩, ⟨a313, [(List.replicate 40 0)], 1, (some bk_1), 313⟩] 31 [(2, (pA bk_1 (Fld.id a313))), (3, (pA bk_2 (Fld.id a313))), (5, (pA bk_78 Ik94)), (7, vp0), (8, .int .i64 (p0.length : Int)), (9, .int .i64 s_46.2), (10, .bool (decide (s_46.2 < (p0.length : Int)))), (11, v_74), (12, v_76), (13, (pA bk_78 J94_2)), (14, .int .i64 ((gt p0 s_46.2).Len)), (15, .int .i64 p_88.2.1), (16, .bool p_88.2.2)] a w) hp_88 ⟨G8, gr, (St.sel [0, 1, 2] rfl h), (K.sub (so rfl))⟩ ?_ ?_
     · intro s_84 y_90 a w hm hI
       obtain ⟨G14, e_14, h, K⟩ := hI
       unfold m281_l_89 at hm
       refine sl <| binC _ K rfl rfl rfl fun a K => wn <| ws <| ifm hm K rfl (fun _ hm => ?_) fun _ hm => ?_
       · refine wk <| ws <| wb <| sl <| mv K rfl fun a K => asg K rfl fun a K => wn <| wl <| fa F94_0 K rfl o94_0 fun a K => ld1 0 J94_0 (.int .i64 ((gt p0 s_46.2).From)) K h rfl rfl rfl t3 vI fun a K => mv K rfl fun a K => binI _ K rfl rfl rfl fun a K => fa F94_1 K rfl o94_1 fun a K => ld1 0 J94_1 (.int .i64 ((gt p0 s_46.2).Home)) K h rfl rfl rfl t3 vI fun a K => mv K rfl fun a K => binI _ K rfl rfl rfl fun a K => binI _ K rfl rfl rfl fun a K => ?_
         obtain ⟨g_92, hm⟩ := gs hm
         refine ixa K rfl rfl g_92 r313 t3 fun a K => sto 1 ((Fld.id a313).comp (Fld.idx (kInt .i64) ((wr ((gt p0 s_46.2).From + s_84.2))).toNat (inr_lt g_92))) ([(st s_84.1 (wr ((gt p0 s_46.2).From + s_84.2)) (wr ((wr ((gt p0 s_46.2).Home + s_84.2)) + 1)))]) K h rfl rfl rfl rfl int_val t3 rfl rfl fun w h => wn <| wl <| binI _ K rfl rfl rfl fun a K => mv K rfl fun a K => wn ?_
         obtain rfl := oi hm
         exact ⟨rfl, ⟨G14, e_14, (St.sel [0, 1, 2] rfl h), (K.sub (so rfl))⟩⟩
       refine wp_exit ?_
       obtain rfl := oi hm
       exact ⟨by simp, rfl, ⟨G14, e_14, (St.sel [0, 1, 2] rfl h), (K.sub (so rfl))⟩⟩
     intro e a w hD
     obtain ⟨rfl, ⟨G15, e_15, h, K⟩⟩ := hD
     refine wl <| binI _ K rfl rfl rfl fun a K => mv K rfl fun a K => wn ?_
     obtain rfl := oi hm
     exact ⟨rfl, ⟨G15, (Gh.trans e_8 e_15), (St.sel [1, 2] rfl h), (K.sub (so rfl))⟩⟩
   refine wp_exit ?_
   obtain rfl := oi hm
   exact ⟨by simp, rfl, ⟨G8, e_8, (St.sel [0, 1] rfl h), (K.sub (so rfl))⟩⟩
 intro e a w hD
 obtain ⟨rfl, ⟨G12, e_12, h, K⟩⟩ := hD
 refine sl <| ld 0 (Fld.id a313) K h rfl rfl rfl t313 fun a v_93 K q_94 => sto 1 (Fld.id a313) ([p_69]) K h rfl rfl rfl rfl q_94 t313 rfl rfl fun w h => wn <| wt ?_
 obtain ⟨v_95, q_96, rb_97⟩ := resOwn (P := prog) (i := 0) (p := 2) 1 (Fld.id a313) h rfl (K.lk_eq 2 rfl) rfl t313
 obtain rfl := oi hm
 exact fr f281 K (St.sel [] rfl h) rfl ⟨rb_97, ⟨⟩⟩ ⟨rfl, q_96⟩
abbrev R351 (r : Int) (v : Value) (H : Gh) : Prop := v = .int .i64 r
instance monR351 {r : Int} : MonR (R351 r) := ⟨fun _ _ _ _ h => h⟩
theorem c351 {p0 : (List Int)} {p1 : Int} {r : Int} (hm : m351 p0 p1 = some r) {vp0 : Value} (hp0 : ((kSl (kInt .i64)).val G0 vp0 p0)) (h : St c G0 w []) : Calls prog 351 #[vp0, .int .i64 p1] w (FO c [] (R351 r)) := by
 unfold m351 at hm
 refine enter (n := 19) func351 rfl rfl rfl fun a K => sl <| asg K rfl fun a K => wn <| ws <| sl <| mv K rfl fun a K => lenV K rfl hp0 rfl s267 fun a K => mv K rfl fun a K => wn <| wb ?_
 obtain ⟨y_18, hy_18, hm⟩ := bs hm
 refine loop (S := Int) (R := Unit ⊕ Int) (fun s_12 a w => Jn c G0 [] 19 [(0, vp0), (1, .int .i64 p1), (4, .int .i64 0), (7, .int .i64 (p0.length : Int)), (8, .int .i64 s_12)] a w) (fun (y : Unit ⊕ Int) e a w => match y with | .inl p_19 => e = .exit 0 ∧ Jn c G0 [] 19 [(4, .int .i64 0)] a w | .inr q => e = .ret ∧ bodyPost prog f351 (FO c [] (R351 q)) e a w) hy_18 ⟨G0, gr, (St.sel [] rfl h), (K.sub (so rfl))⟩ ?_ ?_
 · intro s_12 y_21 a w hm hI
   obtain ⟨G2, e_2, h, K⟩ := hI
   unfold m351_l_20 at hm
   refine sl <| binC _ K rfl rfl rfl fun a K => wn <| ws <| ifm hm K rfl (fun _ hm => ?_) fun _ hm => ?_
   · refine wk <| ws <| wb <| sl <| mv K rfl fun a K => asg K rfl fun a K => nsl <| mv K rfl fun a K => mv K rfl fun a K => mv K rfl fun a K => ?_
     obtain ⟨g_23, hm⟩ := gs hm
     refine ixs K rfl (Kd.val_mono e_2 hp0) rfl g_23 s267 t3 fun a v_24 K q_25 => ldr1 (.int .i64 (gt p0 s_12)) K h rfl q_25 t3 vI fun a K => binC _ K rfl rfl rfl fun a K => wn <| ifm hm K rfl (fun _ hm => ?_) fun _ hm => ?_
     · refine sl <| mv K rfl fun a K => asg K rfl fun a K => wn <| wt ?_
       obtain rfl := oi hm
       exact ⟨by simp, rfl, (fr f351 K (St.sel [] rfl h) rfl ⟨rfl, ⟨⟩⟩ ⟨rfl, rfl⟩)⟩
     refine wk <| wl <| binI _ K rfl rfl rfl fun a K => mv K rfl fun a K => wn ?_
     obtain rfl := oi hm
     exact ⟨rfl, ⟨G2, e_2, (St.sel [] rfl h), (K.sub (so rfl))⟩⟩
   refine wp_exit ?_
   obtain rfl := oi hm
   exact ⟨by simp, rfl, ⟨G2, e_2, (St.sel [] rfl h), (K.sub ⟨rfl, ⟨⟩⟩)⟩⟩
 intro e a w hD
 rcases y_18 with p_19 | q_27
 · simp only [Sum.elim_inl, Sum.elim_inr] at hm
   obtain ⟨rfl, ⟨G3, e_3, h, K⟩⟩ := hD
   refine sl <| asg K rfl fun a K => wn <| wt ?_
   obtain rfl := oi hm
   exact fr f351 K (St.sel [] rfl h) rfl ⟨rfl, ⟨⟩⟩ ⟨rfl, rfl⟩
 simp only [Sum.elim_inr] at hm
 obtain rfl := oi hm
 obtain ⟨rfl, hD⟩ := hD
 exact hD
abbrev R332 (r : Bool) (v : Value) (H : Gh) : Prop := v = .bool r
instance monR332 {r : Bool} : MonR (R332 r) := ⟨fun _ _ _ _ h => h⟩
theorem c332 {p0 : (List Int)} {p1 : Int} {r : Bool} (hm : m332 p0 p1 = some r) {vp0 : Value} (hp0 : ((kSl (kInt .i64)).val G0 vp0 p0)) (h : St c G0 w []) : Calls prog 332 #[vp0, .int .i64 p1] w (FO c [] (R332 r)) := by
 unfold m332 at hm
 refine enter (n := 9) func332 rfl rfl rfl fun a K => sl <| asg K rfl fun a K => nsl <| mv K rfl fun a K => mv K rfl fun a K => ?_
 obtain ⟨x_1, hx_1, hm⟩ := bs hm
 refine clp K h rfl b351 (fun h => c351 hx_1 hp0 h) fun a w v G1 K e_1 h hR_2 => ?_
 obtain rfl := hR_2
 refine binC _ K rfl rfl rfl fun a K => asg K rfl fun a K => wn <| wt ?_
 obtain rfl := oi hm
 exact fr f332 K (St.sel [] rfl h) rfl ⟨rfl, ⟨⟩⟩ ⟨rfl, rfl⟩
abbrev R282 (r : (List T94)) (v : Value) (H : Gh) : Prop := (kSl k94).val H v r
instance monR282 {r : (List T94)} : MonR (R282 r) := ⟨fun _ _ _ e h => Kd.val_mono e h⟩
theorem c282 {p0 : (List Int)} {r : (List T94)} (hm : m282 p0 = some r) {vp0 : Value} (hp0 : (a313.val G0 vp0 p0)) (h : St c G0 w []) : Calls prog 282 #[vp0] w (FO c [] (R282 r)) := by
 unfold m282 at hm
 refine enter (n := 71) func282 rfl rfl rfl fun a K => sl <| boxr K h rfl hp0 fun a w v_1 G1 K e_1 h q_2 => asg K rfl fun a K => nsl <| asg K rfl fun a K => wn <| ws <| sl <| ldr K h rfl q_2 t313 fun a v_3 K q_4 => ?_
 replace q_4 : a313.val _ v_3 p0 := q_4
 refine mv K rfl fun a K => wn <| wb ?_
 replace h := St.nil k94 94 h
 obtain ⟨p_408, hp_408, hm⟩ := bs hm
 refine loop (S := (List T94) × Int) (R := (List T94)) (fun s_272 a w => ∃ (G81 : Gh) (bk_273 : Option Nat) (cp_274 : Nat), Gh.le G1 G81 ∧ St c G81 w [⟨k94, s_272.1, cp_274, bk_273, 94⟩] ∧ Tm 71 a [(2, .slice none 0 0), (3, hdr bk_273 s_272.1.length cp_274), (7, v_3), (8, .int .i64 s_272.2)]) (fun (p_408 : (List T94)) e a w => e = .exit 0 ∧ ∃ (G121 : Gh) (bk_409 : Option Nat) (cp_410 : Nat), Gh.le G1 G121 ∧ St c G121 w [⟨k94, p_408, cp_410, bk_409, 94⟩] ∧ Tm 71 a [(2, .slice none 0 0), (3, hdr bk_409 p_408.length cp_410)]) hp_408 ⟨G1, none, 0, gr, (St.sel [0] rfl h), (K.sub (so rfl))⟩ ?_ ?_
 · intro s_272 y_412 a w hm hI
   obtain ⟨G81, bk_273, cp_274, e_81, h, K⟩ := hI
   unfold m282_l_411 at hm
   refine sl <| binC _ K rfl rfl rfl fun a K => wn <| ws <| ifm hm K rfl (fun _ hm => ?_) fun _ hm => ?_
   · refine wk <| ws <| wb <| sl <| mv K rfl fun a K => ?_
     obtain ⟨g_414, hm⟩ := gs hm
     refine ixav K rfl (show a313.val _ _ _ from (Kd.val_mono e_81 q_4)) rfl g_414 r313 t3 fun a v_415 K q_416 => ?_
     obtain rfl := kInt_val.1 q_416
     refine asg K rfl fun a K => asg K rfl fun a K => wn <| ws <| sl <| mv K rfl fun a K => binC _ K rfl rfl rfl fun a K => wn <| ifm hm K rfl (fun _ hm => ?_) fun _ hm => ?_
     · refine wp_exit <| wl <| binI _ K rfl rfl rfl fun a K => mv K rfl fun a K => wn ?_
       obtain rfl := oi hm
       exact ⟨rfl, ⟨G81, bk_273, cp_274, e_81, (St.sel [0] rfl h), (K.sub (so rfl))⟩⟩
     refine wk <| ws <| sl <| mv K rfl fun a K => lenO K rfl rfl s82 fun a K => asg K rfl fun a K => wn <| ws ?_
     obtain ⟨x_422, hx_422, hm⟩ := nm_some hm
     obtain ⟨g_432, hm⟩ := gs hm
     obtain ⟨g_448, hm⟩ := gs hm
     obtain ⟨x_472, hx_472, hm⟩ := nm_some hm
     obtain ⟨g_484, hm⟩ := gs hm
     obtain ⟨g_500, hm⟩ := gs hm
     obtain ⟨x_527, hx_527, hm⟩ := nm_some hm
     refine wh 37 [fE _, fE _, (fE (.bool x_422)), (fG x_422 (fE (hdr bk_273 s_272.1.length cp_274))), (fG x_422 (fE (.int .i64 (s_272.1.length : Int)))), (fG x_422 (fE (.int .i64 (wr ((s_272.1.length : Int) - 1))))), (fG x_422 (fE (.pointer (some (adr (bk_273.getD 0) ((wr ((s_272.1.length : Int) - 1)).toNat) k94.n Ik94.off))))), (fG x_422 (fE (.pointer (some (adr (bk_273.getD 0) ((wr ((s_272.1.length : Int) - 1)).toNat) k94.n J94_0.off))))), (fG x_422 (fE (.int .i64 ((gt s_272.1 (wr ((s_272.1.length : Int) - 1))).From)))), (fG x_422 (fE (hdr bk_273 s_272.1.length cp_274))), (fG x_422 (fE (.int .i64 (s_272.1.length : Int)))), (fG x_422 (fE (.int .i64 (wr ((s_272.1.length : Int) - 1))))), (fG x_422 (fE (.pointer (some (adr (bk_273.getD 0) ((wr ((s_272.1.length : Int) - 1)).toNat) k94.n Ik94.off))))), (fG x_422 (fE (.pointer (some (adr (bk_273.getD 0) ((wr ((s_272.1.length : Int) - 1)).toNat) k94.n J94_2.off))))), (fG x_422 (fE (.int .i64 ((gt s_272.1 (wr ((s_272.1.length : Int) - 1))).Len)))), (fG x_422 (fE (.int .i64 (wr ((gt s_272.1 (wr ((s_272.1.length : Int) - 1))).From + (gt s_272.1 (wr ((s_272.1.length : Int) - 1))).Len))))), (fG x_422 (fE (.int .i64 s_272.2))), (fG x_422 (fE (.bool ((wr ((gt s_272.1 (wr ((s_272.1.length : Int) - 1))).From + (gt s_272.1 (wr ((s_272.1.length : Int) - 1))).Len)) == s_272.2)))), (fE (.bool x_472)), fE _, (fG x_472 (fE (hdr bk_273 s_272.1.length cp_274))), (fG x_472 (fE (.int .i64 (s_272.1.length : Int)))), (fG x_472 (fE (.int .i64 (wr ((s_272.1.length : Int) - 1))))), (fG x_472 (fE (.pointer (some (adr (bk_273.getD 0) ((wr ((s_272.1.length : Int) - 1)).toNat) k94.n Ik94.off))))), (fG x_472 (fE (.pointer (some (adr (bk_273.getD 0) ((wr ((s_272.1.length : Int) - 1)).toNat) k94.n J94_1.off))))), (fG x_472 (fE (.int .i64 ((gt s_272.1 (wr ((s_272.1.length : Int) - 1))).Home)))), (fG x_472 (fE (hdr bk_273 s_272.1.length cp_274))), (fG x_472 (fE (.int .i64 (s_272.1.length : Int)))), (fG x_472 (fE (.int .i64 (wr ((s_272.1.length : Int) - 1))))), (fG x_472 (fE (.pointer (some (adr (bk_273.getD 0) ((wr ((s_272.1.length : Int) - 1)).toNat) k94.n Ik94.off))))), (fG x_472 (fE (.pointer (some (adr (bk_273.getD 0) ((wr ((s_272.1.length : Int) - 1)).toNat) k94.n J94_2.off))))), (fG x_472 (fE (.int .i64 ((gt s_272.1 (wr ((s_272.1.length : Int) - 1))).Len)))), (fG x_472 (fE (.int .i64 (wr ((gt s_272.1 (wr ((s_272.1.length : Int) - 1))).Home + (gt s_272.1 (wr ((s_272.1.length : Int) - 1))).Len))))), (fG x_472 (fE (.int .i64 (gt p0 s_272.2)))), (fG x_472 (fE (.int .i64 (wr ((gt p0 s_272.2) - 1))))), (fG x_472 (fE (.bool ((wr ((gt s_272.1 (wr ((s_272.1.length : Int) - 1))).Home + (gt s_272.1 (wr ((s_272.1.length : Int) - 1))).Len)) == (wr ((gt p0 s_272.2) - 1)))))), (fE (.bool x_527))] [(2, _), (3, _), (4, _), (5, _), (6, _), (7, _), (8, _), (9, _), (10, _), (11, _), (12, _), (13, _), (14, _), (15, _)] mx K h (so rfl) ⟨hpX [(6, _)] (fun s _ => ⟨s.2.2.2.2.1, ⟨⟩⟩) fun _ _ K t => mv K rfl t, hpX [(16, _)] k1 fun _ _ K t => binC _ K rfl rfl rfl t, ?_, Hp.gd 0 rfl rfl rfl rfl rfl rfl gE_t rfl (fun hc => hpX [(3, _)] (fun s _ => ⟨s.2.1, ⟨⟩⟩) fun _ _ K t => mv K rfl t) nilE, Hp.gd 0 rfl rfl rfl rfl rfl rfl gE_t rfl (fun hc => hpX [(6, _)] (fun s _ => ⟨s.2.2.2.2.1, ⟨⟩⟩) fun _ _ K t => mv K rfl t) nilE, ?_, ?_, ?_, ?_, Hp.gd 0 rfl rfl rfl rfl rfl rfl gE_t rfl (fun hc => hpX [(3, _)] (fun s _ => ⟨s.2.1, ⟨⟩⟩) fun _ _ K t => mv K rfl t) nilE, Hp.gd 0 rfl rfl rfl rfl rfl rfl gE_t rfl (fun hc => hpX [(6, _)] (fun s _ => ⟨s.2.2.2.2.1, ⟨⟩⟩) fun _ _ K t => mv K rfl t) nilE, ?_, ?_, ?_, ?_, ?_, Hp.gd 0 rfl rfl rfl rfl rfl rfl gE_t rfl (fun hc => hpX [(4, _)] (fun s _ => ⟨s.2.2.1, ⟨⟩⟩) fun _ _ K t => mv K rfl t) nilE, ?_, ?_, hpX [(34, _)] k1 fun _ _ K t => mv K rfl t, Hp.gd 0 rfl rfl rfl rfl rfl rfl gE_t rfl (fun hc => hpX [(3, _)] (fun s _ => ⟨s.2.1, ⟨⟩⟩) fun _ _ K t => mv K rfl t) nilE, Hp.gd 0 rfl rfl rfl rfl rfl rfl gE_t rfl (fun hc => hpX [(6, _)] (fun s _ => ⟨s.2.2.2.2.1, ⟨⟩⟩) fun _ _ K t => mv K rfl t) nilE, ?_, ?_, ?_, ?_, Hp.gd 0 rfl rfl rfl rfl rfl rfl gE_t rfl (fun hc => hpX [(3, _)] (fun s _ => ⟨s.2.1, ⟨⟩⟩) fun _ _ K t => mv K rfl t) nilE, Hp.gd 0 rfl rfl rfl rfl rfl rfl gE_t rfl (fun hc => hpX [(6, _)] (fun s _ => ⟨s.2.2.2.2.1, ⟨⟩⟩) fun _ _ K t => mv K rfl t) nilE, ?_, ?_, ?_, ?_, ?_, Hp.gd 0 rfl rfl rfl rfl rfl rfl gE_t rfl (fun hc => hpX [(5, _)] (fun s _ => ⟨s.2.2.2.1, ⟨⟩⟩) fun _ _ K t => mv K rfl t) nilE, ?_, ?_, ?_, ⟨⟩⟩ ?_
     · intro a w G124 L X e_124 h K hs hk
       obtain ⟨v_420, _, l_421, -, rfl⟩ := hk.1
       have hx : Sy.sub L [(17, .bool (decide ((s_272.1.length : Int) > 0)))] := ⟨l_421, ⟨⟩⟩
       replace K := K.addx _ hx
       refine mv K rfl fun a K => wn <| ⟨rfl, G124, [], gr, h, _, K.dropx _ hx, ⟨rfl, congrArg Value.bool hx_422.symm⟩⟩
     · refine Hp.gd 1 rfl rfl rfl rfl rfl rfl gE_t rfl (fun hc => ?_) nilE
       intro a w G127 L X e_127 h K hs hk
       obtain ⟨v_423, _, l_424, -, f_425, -⟩ := hk.1
       obtain ⟨-, rfl⟩ := f_425 hc
       have hx : Sy.sub L [(20, .int .i64 (s_272.1.length : Int))] := ⟨l_424, ⟨⟩⟩
       replace K := K.addx _ hx
       refine binI _ K rfl rfl rfl fun a K => wn <| ⟨rfl, G127, [], gr, h, _, K.dropx _ hx, ⟨rfl, rfl⟩⟩
     · refine Hp.gd 2 rfl rfl rfl rfl rfl rfl gE_t rfl (fun hc => ?_) nilE
       intro a w G128 L X e_128 h K hs hk
       obtain ⟨v_426, _, l_427, -, f_428, -⟩ := hk.1
       obtain ⟨-, rfl⟩ := f_428 hc
       obtain ⟨v_429, _, l_430, -, f_431, -⟩ := hk.2.1
       obtain ⟨-, rfl⟩ := f_431 hc
       have hx : Sy.sub L [(19, hdr bk_273 s_272.1.length cp_274), (21, .int .i64 (wr ((s_272.1.length : Int) - 1)))] := ⟨l_427, l_430, ⟨⟩⟩
       replace K := K.addx _ hx
       refine ixoO 0 K h rfl rfl rfl rfl (orr g_432 hc) s82 t94 fun a K => wn <| ⟨rfl, G128, [], gr, h, _, K.dropx _ hx, ⟨rfl, rfl⟩⟩
     · refine Hp.gd 1 rfl rfl rfl rfl rfl rfl gE_t rfl (fun hc => ?_) nilE
       intro a w G129 L X e_129 h K hs hk
       obtain ⟨v_433, _, l_434, -, f_435, -⟩ := hk.1
       obtain ⟨-, rfl⟩ := f_435 hc
       have hx : Sy.sub L [(22, .pointer (some (adr (bk_273.getD 0) ((wr ((s_272.1.length : Int) - 1)).toNat) k94.n Ik94.off)))] := ⟨l_434, ⟨⟩⟩
       replace K := K.addx _ hx
       refine fa F94_0 K rfl o94_0 fun a K => wn <| ⟨rfl, G129, [], gr, h, _, K.dropx _ hx, ⟨rfl, rfl⟩⟩
     · refine Hp.gd 1 rfl rfl rfl rfl rfl rfl gE_t rfl (fun hc => ?_) nilE
       intro a w G130 L X e_130 h K hs hk
       obtain ⟨v_436, _, l_437, -, f_438, -⟩ := hk.1
       obtain ⟨-, rfl⟩ := f_438 hc
       have hx : Sy.sub L [(23, .pointer (some (adr (bk_273.getD 0) ((wr ((s_272.1.length : Int) - 1)).toNat) k94.n J94_0.off)))] := ⟨l_437, ⟨⟩⟩
       replace K := K.addx _ hx
       refine ld1 0 J94_0 (.int .i64 ((gt s_272.1 (wr ((s_272.1.length : Int) - 1))).From)) K h (optJ h rfl (inr_lt (orr g_432 hc))) rfl (gt_some (orr g_432 hc)) t3 vI fun a K => wn <| ⟨rfl, G130, [], gr, h, _, K.dropx _ hx, ⟨rfl, rfl⟩⟩
     · refine Hp.gd 1 rfl rfl rfl rfl rfl rfl gE_t rfl (fun hc => ?_) nilE
       intro a w G133 L X e_133 h K hs hk
       obtain ⟨v_439, _, l_440, -, f_441, -⟩ := hk.1
       obtain ⟨-, rfl⟩ := f_441 hc
       have hx : Sy.sub L [(26, .int .i64 (s_272.1.length : Int))] := ⟨l_440, ⟨⟩⟩
       replace K := K.addx _ hx
       refine binI _ K rfl rfl rfl fun a K => wn <| ⟨rfl, G133, [], gr, h, _, K.dropx _ hx, ⟨rfl, rfl⟩⟩
     · refine Hp.gd 2 rfl rfl rfl rfl rfl rfl gE_t rfl (fun hc => ?_) nilE
       intro a w G134 L X e_134 h K hs hk
       obtain ⟨v_442, _, l_443, -, f_444, -⟩ := hk.1
       obtain ⟨-, rfl⟩ := f_444 hc
       obtain ⟨v_445, _, l_446, -, f_447, -⟩ := hk.2.1
       obtain ⟨-, rfl⟩ := f_447 hc
       have hx : Sy.sub L [(25, hdr bk_273 s_272.1.length cp_274), (27, .int .i64 (wr ((s_272.1.length : Int) - 1)))] := ⟨l_443, l_446, ⟨⟩⟩
       replace K := K.addx _ hx
       refine ixoO 0 K h rfl rfl rfl rfl (orr g_448 hc) s82 t94 fun a K => wn <| ⟨rfl, G134, [], gr, h, _, K.dropx _ hx, ⟨rfl, rfl⟩⟩
     · refine Hp.gd 1 rfl rfl rfl rfl rfl rfl gE_t rfl (fun hc => ?_) nilE
       intro a w G135 L X e_135 h K hs hk
       obtain ⟨v_449, _, l_450, -, f_451, -⟩ := hk.1
       obtain ⟨-, rfl⟩ := f_451 hc
       have hx : Sy.sub L [(28, .pointer (some (adr (bk_273.getD 0) ((wr ((s_272.1.length : Int) - 1)).toNat) k94.n Ik94.off)))] := ⟨l_450, ⟨⟩⟩
       replace K := K.addx _ hx
       refine fa F94_2 K rfl o94_2 fun a K => wn <| ⟨rfl, G135, [], gr, h, _, K.dropx _ hx, ⟨rfl, rfl⟩⟩
     · refine Hp.gd 1 rfl rfl rfl rfl rfl rfl gE_t rfl (fun hc => ?_) nilE
       intro a w G136 L X e_136 h K hs hk
       obtain ⟨v_452, _, l_453, -, f_454, -⟩ := hk.1
       obtain ⟨-, rfl⟩ := f_454 hc
       have hx : Sy.sub L [(29, .pointer (some (adr (bk_273.getD 0) ((wr ((s_272.1.length : Int) - 1)).toNat) k94.n J94_2.off)))] := ⟨l_453, ⟨⟩⟩
       replace K := K.addx _ hx
       refine ld1 0 J94_2 (.int .i64 ((gt s_272.1 (wr ((s_272.1.length : Int) - 1))).Len)) K h (optJ h rfl (inr_lt (orr g_448 hc))) rfl (gt_some (orr g_448 hc)) t3 vI fun a K => wn <| ⟨rfl, G136, [], gr, h, _, K.dropx _ hx, ⟨rfl, rfl⟩⟩
     · refine Hp.gd 2 rfl rfl rfl rfl rfl rfl gE_t rfl (fun hc => ?_) nilE
       intro a w G137 L X e_137 h K hs hk
       obtain ⟨v_455, _, l_456, -, f_457, -⟩ := hk.1
       obtain ⟨-, rfl⟩ := f_457 hc
       obtain ⟨v_458, _, l_459, -, f_460, -⟩ := hk.2.1
       obtain ⟨-, rfl⟩ := f_460 hc
       have hx : Sy.sub L [(24, .int .i64 ((gt s_272.1 (wr ((s_272.1.length : Int) - 1))).From)), (30, .int .i64 ((gt s_272.1 (wr ((s_272.1.length : Int) - 1))).Len))] := ⟨l_456, l_459, ⟨⟩⟩
       replace K := K.addx _ hx
       refine binI _ K rfl rfl rfl fun a K => wn <| ⟨rfl, G137, [], gr, h, _, K.dropx _ hx, ⟨rfl, rfl⟩⟩
     · refine Hp.gd 2 rfl rfl rfl rfl rfl rfl gE_t rfl (fun hc => ?_) nilE
       intro a w G139 L X e_139 h K hs hk
       obtain ⟨v_461, _, l_462, -, f_463, -⟩ := hk.1
       obtain ⟨-, rfl⟩ := f_463 hc
       obtain ⟨v_464, _, l_465, -, f_466, -⟩ := hk.2.1
       obtain ⟨-, rfl⟩ := f_466 hc
       have hx : Sy.sub L [(31, .int .i64 (wr ((gt s_272.1 (wr ((s_272.1.length : Int) - 1))).From + (gt s_272.1 (wr ((s_272.1.length : Int) - 1))).Len))), (32, .int .i64 s_272.2)] := ⟨l_462, l_465, ⟨⟩⟩
       replace K := K.addx _ hx
       refine binC _ K rfl rfl rfl fun a K => wn <| ⟨rfl, G139, [], gr, h, _, K.dropx _ hx, ⟨rfl, rfl⟩⟩
     · intro a w G140 L X e_140 h K hs hk
       obtain ⟨v_467, _, l_468, -, rfl⟩ := hk.1
       obtain ⟨v_469, _, l_470, -, f_471, -⟩ := hk.2.1
       have hx : Sy.sub L [(18, .bool x_422), (33, v_469)] := ⟨l_468, l_470, ⟨⟩⟩
       replace K := K.addx _ hx
       refine pickAnd K rfl rfl rfl (fun hA => (f_471 hA).2) fun a K => wn <| ⟨rfl, G140, [], gr, h, _, K.dropx _ hx, ⟨rfl, congrArg Value.bool hx_472.symm⟩⟩
     · refine Hp.gd 1 rfl rfl rfl rfl rfl rfl gE_t rfl (fun hc => ?_) nilE
       intro a w G144 L X e_144 h K hs hk
       obtain ⟨v_475, _, l_476, -, f_477, -⟩ := hk.1
       obtain ⟨-, rfl⟩ := f_477 hc
       have hx : Sy.sub L [(37, .int .i64 (s_272.1.length : Int))] := ⟨l_476, ⟨⟩⟩
       replace K := K.addx _ hx
       refine binI _ K rfl rfl rfl fun a K => wn <| ⟨rfl, G144, [], gr, h, _, K.dropx _ hx, ⟨rfl, rfl⟩⟩
     · refine Hp.gd 2 rfl rfl rfl rfl rfl rfl gE_t rfl (fun hc => ?_) nilE
       intro a w G145 L X e_145 h K hs hk
       obtain ⟨v_478, _, l_479, -, f_480, -⟩ := hk.1
       obtain ⟨-, rfl⟩ := f_480 hc
       obtain ⟨v_481, _, l_482, -, f_483, -⟩ := hk.2.1
       obtain ⟨-, rfl⟩ := f_483 hc
       have hx : Sy.sub L [(36, hdr bk_273 s_272.1.length cp_274), (38, .int .i64 (wr ((s_272.1.length : Int) - 1)))] := ⟨l_479, l_482, ⟨⟩⟩
       replace K := K.addx _ hx
       refine ixoO 0 K h rfl rfl rfl rfl (orr g_484 hc) s82 t94 fun a K => wn <| ⟨rfl, G145, [], gr, h, _, K.dropx _ hx, ⟨rfl, rfl⟩⟩
     · refine Hp.gd 1 rfl rfl rfl rfl rfl rfl gE_t rfl (fun hc => ?_) nilE
       intro a w G146 L X e_146 h K hs hk
       obtain ⟨v_485, _, l_486, -, f_487, -⟩ := hk.1
       obtain ⟨-, rfl⟩ := f_487 hc
       have hx : Sy.sub L [(39, .pointer (some (adr (bk_273.getD 0) ((wr ((s_272.1.length : Int) - 1)).toNat) k94.n Ik94.off)))] := ⟨l_486, ⟨⟩⟩
       replace K := K.addx _ hx
       refine fa F94_1 K rfl o94_1 fun a K => wn <| ⟨rfl, G146, [], gr, h, _, K.dropx _ hx, ⟨rfl, rfl⟩⟩
     · refine Hp.gd 1 rfl rfl rfl rfl rfl rfl gE_t rfl (fun hc => ?_) nilE
       intro a w G147 L X e_147 h K hs hk
       obtain ⟨v_488, _, l_489, -, f_490, -⟩ := hk.1
       obtain ⟨-, rfl⟩ := f_490 hc
       have hx : Sy.sub L [(40, .pointer (some (adr (bk_273.getD 0) ((wr ((s_272.1.length : Int) - 1)).toNat) k94.n J94_1.off)))] := ⟨l_489, ⟨⟩⟩
       replace K := K.addx _ hx
       refine ld1 0 J94_1 (.int .i64 ((gt s_272.1 (wr ((s_272.1.length : Int) - 1))).Home)) K h (optJ h rfl (inr_lt (orr g_484 hc))) rfl (gt_some (orr g_484 hc)) t3 vI fun a K => wn <| ⟨rfl, G147, [], gr, h, _, K.dropx _ hx, ⟨rfl, rfl⟩⟩
     · refine Hp.gd 1 rfl rfl rfl rfl rfl rfl gE_t rfl (fun hc => ?_) nilE
       intro a w G150 L X e_150 h K hs hk
       obtain ⟨v_491, _, l_492, -, f_493, -⟩ := hk.1
       obtain ⟨-, rfl⟩ := f_493 hc
       have hx : Sy.sub L [(43, .int .i64 (s_272.1.length : Int))] := ⟨l_492, ⟨⟩⟩
       replace K := K.addx _ hx
       refine binI _ K rfl rfl rfl fun a K => wn <| ⟨rfl, G150, [], gr, h, _, K.dropx _ hx, ⟨rfl, rfl⟩⟩
     · refine Hp.gd 2 rfl rfl rfl rfl rfl rfl gE_t rfl (fun hc => ?_) nilE
       intro a w G151 L X e_151 h K hs hk
       obtain ⟨v_494, _, l_495, -, f_496, -⟩ := hk.1
       obtain ⟨-, rfl⟩ := f_496 hc
       obtain ⟨v_497, _, l_498, -, f_499, -⟩ := hk.2.1
       obtain ⟨-, rfl⟩ := f_499 hc
       have hx : Sy.sub L [(42, hdr bk_273 s_272.1.length cp_274), (44, .int .i64 (wr ((s_272.1.length : Int) - 1)))] := ⟨l_495, l_498, ⟨⟩⟩
       replace K := K.addx _ hx
       refine ixoO 0 K h rfl rfl rfl rfl (orr g_500 hc) s82 t94 fun a K => wn <| ⟨rfl, G151, [], gr, h, _, K.dropx _ hx, ⟨rfl, rfl⟩⟩
     · refine Hp.gd 1 rfl rfl rfl rfl rfl rfl gE_t rfl (fun hc => ?_) nilE
       intro a w G152 L X e_152 h K hs hk
       obtain ⟨v_501, _, l_502, -, f_503, -⟩ := hk.1
       obtain ⟨-, rfl⟩ := f_503 hc
       have hx : Sy.sub L [(45, .pointer (some (adr (bk_273.getD 0) ((wr ((s_272.1.length : Int) - 1)).toNat) k94.n Ik94.off)))] := ⟨l_502, ⟨⟩⟩
       replace K := K.addx _ hx
       refine fa F94_2 K rfl o94_2 fun a K => wn <| ⟨rfl, G152, [], gr, h, _, K.dropx _ hx, ⟨rfl, rfl⟩⟩
     · refine Hp.gd 1 rfl rfl rfl rfl rfl rfl gE_t rfl (fun hc => ?_) nilE
       intro a w G153 L X e_153 h K hs hk
       obtain ⟨v_504, _, l_505, -, f_506, -⟩ := hk.1
       obtain ⟨-, rfl⟩ := f_506 hc
       have hx : Sy.sub L [(46, .pointer (some (adr (bk_273.getD 0) ((wr ((s_272.1.length : Int) - 1)).toNat) k94.n J94_2.off)))] := ⟨l_505, ⟨⟩⟩
       replace K := K.addx _ hx
       refine ld1 0 J94_2 (.int .i64 ((gt s_272.1 (wr ((s_272.1.length : Int) - 1))).Len)) K h (optJ h rfl (inr_lt (orr g_500 hc))) rfl (gt_some (orr g_500 hc)) t3 vI fun a K => wn <| ⟨rfl, G153, [], gr, h, _, K.dropx _ hx, ⟨rfl, rfl⟩⟩
     · refine Hp.gd 2 rfl rfl rfl rfl rfl rfl gE_t rfl (fun hc => ?_) nilE
       intro a w G154 L X e_154 h K hs hk
       obtain ⟨v_507, _, l_508, -, f_509, -⟩ := hk.1
       obtain ⟨-, rfl⟩ := f_509 hc
       obtain ⟨v_510, _, l_511, -, f_512, -⟩ := hk.2.1
       obtain ⟨-, rfl⟩ := f_512 hc
       have hx : Sy.sub L [(41, .int .i64 ((gt s_272.1 (wr ((s_272.1.length : Int) - 1))).Home)), (47, .int .i64 ((gt s_272.1 (wr ((s_272.1.length : Int) - 1))).Len))] := ⟨l_508, l_511, ⟨⟩⟩
       replace K := K.addx _ hx
       refine binI _ K rfl rfl rfl fun a K => wn <| ⟨rfl, G154, [], gr, h, _, K.dropx _ hx, ⟨rfl, rfl⟩⟩
     · refine Hp.gd 1 rfl rfl rfl rfl rfl rfl gE_t rfl (fun hc => ?_) nilE
       intro a w G156 L X e_156 h K hs hk
       obtain ⟨v_513, _, l_514, -, f_515, -⟩ := hk.1
       obtain ⟨-, rfl⟩ := f_515 hc
       have hx : Sy.sub L [(49, .int .i64 (gt p0 s_272.2))] := ⟨l_514, ⟨⟩⟩
       replace K := K.addx _ hx
       refine binI _ K rfl rfl rfl fun a K => wn <| ⟨rfl, G156, [], gr, h, _, K.dropx _ hx, ⟨rfl, rfl⟩⟩
     · refine Hp.gd 2 rfl rfl rfl rfl rfl rfl gE_t rfl (fun hc => ?_) nilE
       intro a w G157 L X e_157 h K hs hk
       obtain ⟨v_516, _, l_517, -, f_518, -⟩ := hk.1
       obtain ⟨-, rfl⟩ := f_518 hc
       obtain ⟨v_519, _, l_520, -, f_521, -⟩ := hk.2.1
       obtain ⟨-, rfl⟩ := f_521 hc
       have hx : Sy.sub L [(48, .int .i64 (wr ((gt s_272.1 (wr ((s_272.1.length : Int) - 1))).Home + (gt s_272.1 (wr ((s_272.1.length : Int) - 1))).Len))), (50, .int .i64 (wr ((gt p0 s_272.2) - 1)))] := ⟨l_517, l_520, ⟨⟩⟩
       replace K := K.addx _ hx
       refine binC _ K rfl rfl rfl fun a K => wn <| ⟨rfl, G157, [], gr, h, _, K.dropx _ hx, ⟨rfl, rfl⟩⟩
     · intro a w G158 L X e_158 h K hs hk
       obtain ⟨v_522, _, l_523, -, rfl⟩ := hk.1
       obtain ⟨v_524, _, l_525, -, f_526, -⟩ := hk.2.1
       have hx : Sy.sub L [(35, .bool x_472), (51, v_524)] := ⟨l_523, l_525, ⟨⟩⟩
       replace K := K.addx _ hx
       refine pickAnd K rfl rfl rfl (fun hA => (f_526 hA).2) fun a K => wn <| ⟨rfl, G158, [], gr, h, _, K.dropx _ hx, ⟨rfl, congrArg Value.bool hx_527.symm⟩⟩
     intro a w G159 L e_159 h K hs hg
     replace K := K.sub (l' := [(16, _), (17, _), (18, _), (34, _), (35, _), (52, _), (2, _), (3, _), (4, _), (5, _), (6, _), (7, _), (8, _), (9, _), (10, _), (11, _), (12, _), (13, _), (14, _), (15, _)]) ⟨gE (hg 0 rfl rfl), gE (hg 1 rfl rfl), gE (hg 2 rfl rfl), gE (hg 18 rfl rfl), gE (hg 19 rfl rfl), gE (hg 36 rfl rfl), hs.1, hs.2.1, hs.2.2.1, hs.2.2.2.1, hs.2.2.2.2.1, hs.2.2.2.2.2.1, hs.2.2.2.2.2.2.1, hs.2.2.2.2.2.2.2.1, hs.2.2.2.2.2.2.2.2.1, hs.2.2.2.2.2.2.2.2.2.1, hs.2.2.2.2.2.2.2.2.2.2.1, hs.2.2.2.2.2.2.2.2.2.2.2.1, hs.2.2.2.2.2.2.2.2.2.2.2.2.1, hs.2.2.2.2.2.2.2.2.2.2.2.2.2.1, ⟨⟩⟩
     refine wn <| ifm hm K rfl (fun _ hm => ?_) fun _ hm => ?_
     · refine sl <| mv K rfl fun a K => mv K rfl fun a K => binI _ K rfl rfl rfl fun a K => ?_
       obtain ⟨g_535, hm⟩ := gs hm
       refine ixoO 0 K h rfl rfl rfl rfl g_535 s82 t94 fun a K => fa F94_2 K rfl o94_2 fun a K => ld1 0 J94_2 (.int .i64 ((gt s_272.1 (wr ((s_272.1.length : Int) - 1))).Len)) K h (optJ h rfl (inr_lt g_535)) rfl (gt_some g_535) t3 vI fun a K => binI _ K rfl rfl rfl fun a K => ?_
       obtain ⟨g_536, hm⟩ := gs hm
       refine ixoO 0 K h rfl rfl rfl rfl g_536 s82 t94 fun a K => fa F94_2 K rfl o94_2 fun a K => ?_
       have hl_537 : (st s_272.1 (wr ((s_272.1.length : Int) - 1)) ({ (gt s_272.1 (wr ((s_272.1.length : Int) - 1))) with Len := (wr ((gt s_272.1 (wr ((s_272.1.length : Int) - 1))).Len + 1)) } : T94)).length = s_272.1.length := st_length
       have hob := optB (j := 0) h rfl (inr_lt g_536)
       refine sto 0 J94_2 ((st s_272.1 (wr ((s_272.1.length : Int) - 1)) ({ (gt s_272.1 (wr ((s_272.1.length : Int) - 1))) with Len := (wr ((gt s_272.1 (wr ((s_272.1.length : Int) - 1))).Len + 1)) } : T94))) K h (optJ h rfl (inr_lt g_536)) rfl (gt_some g_536) rfl int_val t3 rfl rfl fun w h => ?_
       rw [hob] at h
       refine wn <| wp_exit <| wl <| binI _ K rfl rfl rfl fun a K => mv K rfl fun a K => wn ?_
       obtain rfl := oi hm
       exact ⟨rfl, ⟨G159, bk_273, cp_274, (Gh.trans e_81 e_159), (St.sel [0] rfl h), (K.sub ⟨rfl, (show lk _ 3 = some (hdr bk_273 (st s_272.1 (wr ((s_272.1.length : Int) - 1)) ({ (gt s_272.1 (wr ((s_272.1.length : Int) - 1))) with Len := (wr ((gt s_272.1 (wr ((s_272.1.length : Int) - 1))).Len + 1)) } : T94)).length cp_274) by rw [hl_537]; rfl), rfl, rfl, ⟨⟩⟩)⟩⟩
     refine wk <| wl <| mv K rfl fun a K => mv K rfl fun a K => mv K rfl fun a K => binI _ K rfl rfl rfl fun a K => bld (⟨s_272.2, (wr ((gt p0 s_272.2) - 1)), 1⟩ : T94) K h rfl pl94 rfl z94 (.cons F94_0 rfl int_val (.cons F94_1 rfl int_val (.cons F94_2 rfl int_val .nil))) fun a v_538 K q_539 => bldS (f := k94) (by decide) [(⟨s_272.2, (wr ((gt p0 s_272.2) - 1)), 1⟩ : T94)] K h rfl s82 t94 rfl z94 (.cons (Fld.idx k94 0 (by decide)) rfl q_539 .nil) fun a w bk_540 K h => ?_
     obtain ⟨G160, e_160, h, q_541⟩ := frz 0 h rfl
     obtain ⟨g_544, hm⟩ := gs hm
     refine app 0 K h rfl rfl rfl rfl q_541 rfl s82 s82 e94 g_544 fun a w bk_542 cp_543 K h => asg K rfl fun a K => wn <| wl <| binI _ K rfl rfl rfl fun a K => mv K rfl fun a K => wn ?_
     obtain rfl := oi hm
     exact ⟨rfl, ⟨G160, bk_542, cp_543, (Gh.trans e_81 (Gh.trans e_159 e_160)), (St.sel [0] rfl h), (K.sub (so rfl))⟩⟩
   refine wp_exit ?_
   obtain rfl := oi hm
   exact ⟨by simp, rfl, ⟨G81, bk_273, cp_274, e_81, (St.sel [0] rfl h), (K.sub (so rfl))⟩⟩
 intro e a w hD
 obtain ⟨rfl, ⟨G121, bk_409, cp_410, e_121, h, K⟩⟩ := hD
 refine sl <| mv K rfl fun a K => asg K rfl fun a K => wn <| wt ?_
 obtain ⟨G161, e_161, h, q_545⟩ := frz 0 h rfl
 obtain rfl := oi hm
 exact fr f282 K (St.sel [] rfl h) rfl ⟨rfl, ⟨⟩⟩ ⟨rfl, q_545⟩
abbrev R313 (r : (List T94) × Int) (v : Value) (H : Gh) : Prop := ∃ u0, v = .tuple #[u0, .int .i64 r.2] ∧ (kSl k94).val H u0 r.1
instance monR313 {r : (List T94) × Int} : MonR (R313 r) := by
 constructor
 rintro G H v e ⟨u0, rfl, q0⟩
 exact ⟨u0, rfl, Kd.val_mono e q0⟩
theorem c313 {p0 : (List T94)} {p1 : Int} {p2 : Int} {r : (List T94) × Int} (hm : m313 p0 p1 p2 = some r) {vp0 : Value} (hp0 : ((kSl k94).val G0 vp0 p0)) (h : St c G0 w []) : Calls prog 313 #[vp0, .int .i64 p1, .int .i64 p2] w (FO c [] (R313 r)) := by
 unfold m313 at hm
 refine enter (n := 46) func313 rfl rfl rfl fun a K => sl <| asg K rfl fun a K => asg K rfl fun a K => wn <| ws <| wb <| sl <| mv K rfl fun a K => ?_
 obtain ⟨x_14, hx_14, hm⟩ := bs hm
 refine clp K h rfl b193 (fun h => c193 hx_14 hp0 h) fun a w v G3 K e_3 h hR_15 => ?_
 obtain rfl := hR_15
 refine binC _ K rfl rfl rfl fun a K => asg K rfl fun a K => wn <| ifm hm K rfl (fun _ hm => ?_) fun _ hm => ?_
 · refine sl <| asg K rfl fun a K => asg K rfl fun a K => wn <| wt ?_
   obtain rfl := oi hm
   exact fi f313 [_, _] K (St.sel [] rfl h) rfl ⟨rfl, rfl, ⟨⟩⟩ (.inl rfl) ⟨rfl, ⟨_, rfl, nil_sl⟩⟩
 refine joinS (S := Bool) (fun s_20 a w => Jn c G3 [] 46 [(0, vp0), (1, .int .i64 p1), (2, .int .i64 p2), (6, .slice none 0 0), (7, .int .i64 0), (13, .bool s_20)] a w) (fun s_20 => m313_j_60 p0 p1 p2 s_20 = some r) (fun s_20 hm a w hJ => ?_) (fun kk_61 => ?_)
 · obtain ⟨G4, e_4, h, K⟩ := hJ
   unfold m313_j_60 at hm
   refine ifm hm K rfl (fun _ hm => ?_) fun _ hm => ?_
   · refine sl <| asg K rfl fun a K => asg K rfl fun a K => wn <| wt ?_
     obtain rfl := oi hm
     exact fi f313 [_, _] K (St.sel [] rfl h) rfl ⟨rfl, rfl, ⟨⟩⟩ (.inl rfl) ⟨rfl, ⟨_, rfl, nil_sl⟩⟩
   refine wk <| sl <| mv K rfl fun a K => ?_
   obtain ⟨x_22, hx_22, hm⟩ := bs hm
   refine clp K h rfl b281 (fun h => c281 hx_22 (Kd.val_mono (Gh.trans e_3 e_4) hp0) h) fun a w v_24 G5 K e_5 h hR_23 => alc K h z313 fun a w bk_25 K h => sto 0 (Fld.id a313) ([x_22]) K h rfl rfl rfl rfl hR_23 t313 rfl rfl fun w h => wn <| ws <| joinS (S := Bool) (fun s_45 a w => Jn c G5 [⟨a313, [x_22], 1, (some bk_25), 313⟩] 46 [(1, .int .i64 p1), (2, .int .i64 p2), (6, .slice none 0 0), (7, .int .i64 0), (8, (pA bk_25 (Fld.id a313))), (39, .bool s_45)] a w) (fun s_45 => m313_j_53 p1 p2 x_22 s_45 = some r) (fun s_45 hm a w hJ => ?_) (fun kk_54 => ?_)
   · obtain ⟨G13, e_13, h, K⟩ := hJ
     unfold m313_j_53 at hm
     refine ifm hm K rfl (fun _ hm => ?_) fun _ hm => ?_
     · refine sl <| asg K rfl fun a K => asg K rfl fun a K => wn <| wt ?_
       obtain rfl := oi hm
       exact fi f313 [_, _] K (St.sel [] rfl h) rfl ⟨rfl, rfl, ⟨⟩⟩ (.inl rfl) ⟨rfl, ⟨_, rfl, nil_sl⟩⟩
     refine wk <| sl <| mv K rfl fun a K => mv K rfl fun a K => binI _ K rfl rfl rfl fun a K => ?_
     obtain ⟨g_47, hm⟩ := gs hm
     refine ixa K rfl rfl g_47 r313 t3 fun a K => sto 0 ((Fld.id a313).comp (Fld.idx (kInt .i64) (p1).toNat (inr_lt g_47))) ([(st x_22 p1 (wr (p2 + 1)))]) K h rfl rfl rfl rfl int_val t3 rfl rfl fun w h => nsl <| ld 0 (Fld.id a313) K h rfl rfl rfl t313 fun a v_48 K q_49 => ?_
     obtain ⟨x_50, hx_50, hm⟩ := bs hm
     refine clp K h rfl b282 (fun h => c282 hx_50 q_49 h) fun a w v_52 G14 K e_14 h hR_51 => asg K rfl fun a K => asg K rfl fun a K => wn <| wt ?_
     obtain rfl := oi hm
     exact fi f313 [_, _] K (St.sel [] rfl h) rfl ⟨rfl, rfl, ⟨⟩⟩ (.inl rfl) ⟨rfl, ⟨v_52, rfl, hR_51⟩⟩
   refine wl <| mv K rfl fun a K => ?_
   obtain ⟨g_55, hm⟩ := gs hm
   refine ixa K rfl rfl g_55 r313 t3 fun a K => ld1 0 ((Fld.id a313).comp (Fld.idx (kInt .i64) (p1).toNat (inr_lt g_55))) (.int .i64 (gt x_22 p1)) K h rfl rfl rfl t3 vI fun a K => binC _ K rfl rfl rfl fun a K => mv K rfl fun a K => ?_
   rcases im hm with ⟨c_56, hm⟩ | ⟨c_56, hm⟩
   · refine g1 K c_56 fun a K => g1 K c_56 fun a K => g1 K c_56 fun a K => g1 K c_56 fun a K => pkT K rfl c_56 rfl fun a K => wn <| kk_54 true hm _ _ ⟨G5, gr, (St.sel [0] rfl h), (K.sub (so rfl))⟩
   refine g2 K c_56 <| slAo (Fld.id a313) K rfl r313 t3 fun a K => g2 K c_56 <| mv K rfl fun a K => g2 K c_56 <| binI _ K rfl rfl rfl fun a K => gy K rfl rfl c_56 ?_
   have h0 := h
   obtain ⟨G15, e_15, h, q_57⟩ := frzA (Fld.id a313) 0 h rfl
   obtain ⟨x_58, hx_58, hm⟩ := bs hm
   refine clb _ K h0 h rfl b332 (fun h => c332 hx_58 q_57 h) (fun _ _ hR => hR) fun a w K h => pkF K rfl c_56 rfl fun a K => wn <| kk_54 x_58 hm _ _ ⟨G5, gr, (St.sel [0] rfl h), (K.sub (so rfl))⟩
 refine wl <| mv K rfl fun a K => binC _ K rfl rfl rfl fun a K => mv K rfl fun a K => ?_
 rcases im hm with ⟨c_62, hm⟩ | ⟨c_62, hm⟩
 · refine g1 K c_62 fun a K => g1 K c_62 fun a K => pkT K rfl c_62 rfl fun a K => mv K rfl fun a K => g1 K rfl fun a K => g1 K rfl fun a K => pkT K rfl rfl rfl fun a K => mv K rfl fun a K => g1 K rfl fun a K => g1 K rfl fun a K => pkT K rfl rfl rfl fun a K => asg K rfl fun a K => wn <| kk_61 true hm _ _ ⟨G3, gr, (St.sel [] rfl h), (K.sub (so rfl))⟩
 refine g2 K c_62 <| mv K rfl fun a K => g2 K c_62 <| binC _ K rfl rfl rfl fun a K => pkF K rfl c_62 rfl fun a K => mv K rfl fun a K => ?_
 rcases im hm with ⟨c_63, hm⟩ | ⟨c_63, hm⟩
 · refine g1 K c_63 fun a K => g1 K c_63 fun a K => pkT K rfl c_63 rfl fun a K => mv K rfl fun a K => g1 K rfl fun a K => g1 K rfl fun a K => pkT K rfl rfl rfl fun a K => asg K rfl fun a K => wn <| kk_61 true hm _ _ ⟨G3, gr, (St.sel [] rfl h), (K.sub (so rfl))⟩
 refine g2 K c_63 <| mv K rfl fun a K => g2 K c_63 <| binC _ K rfl rfl rfl fun a K => pkF K rfl c_63 rfl fun a K => mv K rfl fun a K => ?_
 rcases im hm with ⟨c_64, hm⟩ | ⟨c_64, hm⟩
 · refine g1 K c_64 fun a K => g1 K c_64 fun a K => pkT K rfl c_64 rfl fun a K => asg K rfl fun a K => wn <| kk_61 true hm _ _ ⟨G3, gr, (St.sel [] rfl h), (K.sub (so rfl))⟩
 refine g2 K c_64 <| mv K rfl fun a K => g2 K c_64 <| binC _ K rfl rfl rfl fun a K => pkF K rfl c_64 rfl fun a K => asg K rfl fun a K => wn <| kk_61 (decide (p2 ≥ 256)) hm _ _ ⟨G3, gr, (St.sel [] rfl h), (K.sub (so rfl))⟩
abbrev R285 (r : T103 × Int) (v : Value) (H : Gh) : Prop := v = .int .i64 r.2
instance monR285 {r : T103 × Int} : MonR (R285 r) := ⟨fun _ _ _ _ h => h⟩
theorem c285 {p0 : T103} {p1 : Int} {p2 : (List Int)} {B0 q0 q1 q2 n0 n1 n2 : Nat} {r : T103 × Int} (hm : m285 p0 p1 p2 = some r) {vp2 : Value} (hp2 : ((kSl (kInt .i64)).val G0 vp2 p2)) (h : St c G0 w ((o3 B0 q0 q1 q2 n0 n1 n2 p0))) : Calls prog 285 #[(pA B0 Ik103o), .int .i64 p1, vp2] w (FO c (o3 B0 q0 q1 q2 n0 n1 n2 r.1) (R285 r)) := by
 unfold m285 at hm
 refine enter (n := 99) func285 rfl rfl rfl fun a K => sl <| asg K rfl fun a K => nsl <| mv K rfl fun a K => nilck K rfl fun a K => fa F103_0o K rfl o103_0o fun a K => fa F37_4o K rfl o37_4o fun a K => ld1 0 (J103_0o.comp F37_4o) (hS q0 p0.p.Inodes n0) K h rfl rfl rfl t33 vX fun a K => mv K rfl fun a K => ?_
 obtain ⟨g_1, hm⟩ := gs hm
 refine ixo K rfl rfl g_1 s33 t84 fun a K => asg K rfl fun a K => wn <| ws <| sl <| mv K rfl fun a K => mv K rfl fun a K => nilck K rfl fun a K => fa F84_2 K rfl o84_2 fun a K => ld1 1 J84_2 (.int .i64 ((gt p0.p.Inodes p1).Uid)) K h rfl rfl (gt_some g_1) t3 vI fun a K => mv K rfl fun a K => lenV K rfl hp2 rfl s267 fun a K => ?_
 obtain ⟨x_2, hx_2, hm⟩ := bs hm
 refine clw (Δ₁ := (o3 B0 q0 q1 q2 n0 n1 n2 p0)) (Δ₂ := _) [3, 3, 3, 3] K h rfl rfl b148 (fun h => c148 hx_2 h) fun a w v G1 Δx K e_1 h hR_3 => ?_
 obtain ⟨rfl, hR_3⟩ := hR_3
 replace h := St.cast (Δ' := (o3 B0 q0 q1 q2 n0 n1 n2 x_2.1)) h rfl
 obtain rfl := hR_3
 refine asg K rfl fun a K => nsl <| mv K rfl fun a K => binC _ K rfl rfl rfl fun a K => wn <| ifm hm K rfl (fun _ hm => ?_) fun _ hm => ?_
 · refine sl <| mv K rfl fun a K => asg K rfl fun a K => wn <| wt ?_
   obtain rfl := oi hm
   exact fr f285 K (St.sel [0, 1, 2, 3] rfl h) rfl ⟨rfl, ⟨⟩⟩ ⟨rfl, rfl⟩
 refine wk <| sl <| mv K rfl fun a K => ?_
 obtain ⟨x_8, hx_8, hm⟩ := bs hm
 refine clg (Δ₁ := (o3 B0 q0 q1 q2 n0 n1 n2 x_2.1)) (Δ₂ := _) [3, 3, 3, 3] K h rfl rfl b244 (fun h => c244 hx_8 h) fun a w v_10 G2 Δx K e_2 h hR_9 => ?_
 obtain ⟨bk_11, cp_12, rfl, rfl⟩ := hR_9
 replace h := St.cast (Δ' := (⟨kBool, x_8, cp_12, bk_11, 4⟩ :: o3 B0 q0 q1 q2 n0 n1 n2 x_2.1)) h rfl
 refine asg K rfl fun a K => nsl <| asg K rfl fun a K => wn <| ws <| sl <| mv K rfl fun a K => lenV K rfl (Kd.val_mono (Gh.trans e_1 e_2) hp2) rfl s267 fun a K => mv K rfl fun a K => wn <| wb ?_
 obtain ⟨y_180, hy_180, hm⟩ := bs hm
 refine loop (S := (List Bool) × (List T84) × (List (List UInt8)) × Int × Int) (R := ((List T84) × (List (List UInt8))) ⊕ (T103 × Int)) (fun s_124 a w => Jn c G2 [⟨kBool, s_124.1, cp_12, bk_11, 4⟩, ⟨k103o, [(⟨(⟨x_2.1.p.Homes, x_2.1.p.Now, x_2.1.p.Salt, x_2.1.p.Users, (hS q0 s_124.2.1 n0), (hS q1 x_2.1.p.Dirs n1), (hS q2 s_124.2.2.1 n2)⟩ : T37o), x_2.1.fds⟩ : T103o)], 1, (some B0), 103⟩, ⟨k84, s_124.2.1, n0, (some q0), 84⟩, ⟨(kSl k87), x_2.1.p.Dirs, n1, (some q1), 85⟩, ⟨(kSl kByte), s_124.2.2.1, n2, (some q2), 43⟩] 99 [(0, (pA B0 Ik103o)), (6, .int .i64 0), (7, .pointer (some (adr q0 p1.toNat k84.n Ik84.off))), (9, hdr bk_11 s_124.1.length cp_12), (10, .int .i64 s_124.2.2.2.1), (37, vp2), (38, .int .i64 (p2.length : Int)), (39, .int .i64 s_124.2.2.2.2)] a w) (fun (y : ((List T84) × (List (List UInt8))) ⊕ (T103 × Int)) e a w => match y with | .inl p_181 => e = .exit 0 ∧ Jn c G2 [⟨k103o, [(⟨(⟨x_2.1.p.Homes, x_2.1.p.Now, x_2.1.p.Salt, x_2.1.p.Users, (hS q0 p_181.1 n0), (hS q1 x_2.1.p.Dirs n1), (hS q2 p_181.2 n2)⟩ : T37o), x_2.1.fds⟩ : T103o)], 1, (some B0), 103⟩, ⟨k84, p_181.1, n0, (some q0), 84⟩, ⟨(kSl k87), x_2.1.p.Dirs, n1, (some q1), 85⟩, ⟨(kSl kByte), p_181.2, n2, (some q2), 43⟩] 99 [(6, .int .i64 0)] a w | .inr q => e = .ret ∧ bodyPost prog f285 (FO c (o3 B0 q0 q1 q2 n0 n1 n2 q.1) (R285 q)) e a w) hy_180 ⟨G2, gr, (St.sel [0, 1, 2, 3, 4] rfl h), (K.sub (so rfl))⟩ ?_ ?_
 · intro s_124 y_183 a w hm hI
   obtain ⟨G34, e_34, h, K⟩ := hI
   unfold m285_l_182 at hm
   refine sl <| binC _ K rfl rfl rfl fun a K => wn <| ws <| ifm hm K rfl (fun _ hm => ?_) fun _ hm => ?_
   · refine wk <| ws <| wb <| ws <| wl ?_
     obtain ⟨g_185, hm⟩ := gs hm
     refine ixs K rfl (Kd.val_mono (Gh.trans e_1 (Gh.trans e_2 e_34)) hp2) rfl g_185 s267 t3 fun a v_186 K q_187 => ldr1 (.int .i64 (gt p2 s_124.2.2.2.2)) K h rfl q_187 t3 vI fun a K => asg K rfl fun a K => wn <| joinS (S := Int × Int × Int × (List T94) × Int × Int × Int × Bool) (fun s_194 a w => ∃ (G52 : Gh) (v_195 : Value), Gh.le G34 G52 ∧ St c G52 w [⟨kBool, s_124.1, cp_12, bk_11, 4⟩, ⟨k103o, [(⟨(⟨x_2.1.p.Homes, x_2.1.p.Now, x_2.1.p.Salt, x_2.1.p.Users, (hS q0 s_124.2.1 n0), (hS q1 x_2.1.p.Dirs n1), (hS q2 s_124.2.2.1 n2)⟩ : T37o), x_2.1.fds⟩ : T103o)], 1, (some B0), 103⟩, ⟨k84, s_124.2.1, n0, (some q0), 84⟩, ⟨(kSl k87), x_2.1.p.Dirs, n1, (some q1), 85⟩, ⟨(kSl kByte), s_124.2.2.1, n2, (some q2), 43⟩] ∧ Tm 99 a [(0, (pA B0 Ik103o)), (6, .int .i64 0), (7, .pointer (some (adr q0 p1.toNat k84.n Ik84.off))), (9, hdr bk_11 s_124.1.length cp_12), (10, .int .i64 s_194.1), (12, .int .i64 (gt p2 s_124.2.2.2.2)), (13, .int .i64 s_194.2.1), (14, .int .i64 s_194.2.2.1), (37, vp2), (38, .int .i64 (p2.length : Int)), (39, .int .i64 s_124.2.2.2.2), (40, .bool (decide (s_124.2.2.2.2 < (p2.length : Int)))), (41, v_186), (42, .int .i64 (gt p2 s_124.2.2.2.2)), (44, .pointer (some (adr q0 p1.toNat k84.n Ik84.off))), (45, .pointer (some (adr q0 p1.toNat k84.n Ik84.off))), (46, .pointer (some (adr q0 p1.toNat k84.n J84_9.off))), (47, v_195), (48, .int .i64 (gt p2 s_124.2.2.2.2)), (49, .int .i64 (wr ((gt p2 s_124.2.2.2.2) - 1))), (51, .int .i64 s_194.2.2.2.2.1), (52, .int .i64 s_194.2.2.2.2.2.1), (53, .int .i64 s_194.2.2.2.2.2.2.1), (54, .bool s_194.2.2.2.2.2.2.2)] ∧ ((kSl k94)).val G52 v_195 s_194.2.2.2.1) (fun s_194 => m285_j_231 p1 p2 x_2 s_124 s_194 = some y_183) (fun s_194 hm a w hJ => ?_) (fun kk_232 => ?_)
     · obtain ⟨G52, v_195, e_52, h, K, q_196⟩ := hJ
       unfold m285_j_231 at hm
       refine sl <| mv K rfl fun a K => mv K rfl fun a K => ?_
       have h0 := h
       obtain ⟨G53, e_53, h, q_197⟩ := frz 0 h rfl
       obtain ⟨x_198, hx_198, hm⟩ := bs hm
       refine clb _ K h0 h rfl b312 (fun h => c312 hx_198 q_197 h) (fun _ _ hR => hR) fun a w K h => mv K rfl fun a K => extr K rfl rfl fun a K => extr K rfl rfl fun a K => asg K rfl fun a K => asg K rfl fun a K => wn <| ws <| sl <| mv K rfl fun a K => binC _ K rfl rfl rfl fun a K => wn <| ifm hm K rfl (fun _ hm => ?_) fun _ hm => ?_
       · refine sl <| asg K rfl fun a K => wn <| wt ?_
         replace h := (St.sel [1, 2, 3, 4] rfl h)
         replace h := St.cast (Δ' := [⟨k103o, [(⟨(⟨x_2.1.p.Homes, x_2.1.p.Now, x_2.1.p.Salt, x_2.1.p.Users, (hS q0 s_124.2.1 n0), (hS q1 x_2.1.p.Dirs n1), (hS q2 s_124.2.2.1 n2)⟩ : T37o), x_2.1.fds⟩ : T103o)], 1, (some B0), 103⟩, ⟨k84, s_124.2.1, n0, (some q0), 84⟩, ⟨(kSl k87), x_2.1.p.Dirs, n1, (some q1), 85⟩, ⟨(kSl kByte), s_124.2.2.1, n2, (some q2), 43⟩]) h rfl
         obtain rfl := oi hm
         exact ⟨by simp, rfl, (fr f285 K h rfl ⟨rfl, ⟨⟩⟩ ⟨rfl, rfl⟩)⟩
       refine wk <| sl <| mv K rfl fun a K => mv K rfl fun a K => ?_
       obtain ⟨g_201, hm⟩ := gs hm
       refine ixoO 0 K h rfl rfl rfl rfl g_201 s127 t4 fun a K => ?_
       have hl_202 : (st s_124.1 x_198.1 false).length = s_124.1.length := st_length
       have hob := optB (j := 0) h rfl (inr_lt g_201)
       refine sto 0 IkBool ((st s_124.1 x_198.1 false)) K h (optJ h rfl (inr_lt g_201)) rfl (gt_some g_201) rfl bool_val t4 rfl rfl fun w h => ?_
       rw [hob] at h
       refine nsl <| mv K rfl fun a K => mv K rfl fun a K => nilck K rfl fun a K => fa F84_9 K rfl o84_9 fun a K => ?_
       obtain ⟨g_203, hm⟩ := gs hm
       refine ld 2 J84_9 K h rfl rfl (gt_some g_203) t82 fun a v_204 K q_205 => ?_
       replace q_205 : (kSl k94).val _ v_204 ((gt s_124.2.1 p1).Extents) := q_205
       refine mv K rfl fun a K => mv K rfl fun a K => binI _ K rfl rfl rfl fun a K => ?_
       obtain ⟨x_206, hx_206, hm⟩ := bs hm
       refine clp K h rfl b313 (fun h => c313 hx_206 q_205 h) fun a w v G55 K e_55 h hR_207 => ?_
       obtain ⟨v_208, rfl, q_209⟩ := hR_207
       refine mv K rfl fun a K => extr K rfl rfl fun a K => extr K rfl rfl fun a K => nilck K rfl fun a K => fa F84_9 K rfl o84_9 fun a K => ?_
       have hl_210 : (st s_124.2.1 p1 ({ (gt s_124.2.1 p1) with Extents := x_206.1 } : T84)).length = s_124.2.1.length := st_length
       refine sto 2 J84_9 ((st s_124.2.1 p1 ({ (gt s_124.2.1 p1) with Extents := x_206.1 } : T84))) K h rfl rfl (gt_some g_203) rfl q_209 t82 rfl rfl fun w h => wn <| ws <| sl <| mv K rfl fun a K => nilck K rfl fun a K => fa F84_0 K rfl o84_0 fun a K => ld1 2 J84_0 (.int .i64 ((gt (st s_124.2.1 p1 ({ (gt s_124.2.1 p1) with Extents := x_206.1 } : T84)) p1).Kind)) K h rfl rfl (gt_some (by rw [hl_210]; exact g_203)) t51 vI fun a K => binC _ K rfl rfl rfl fun a K => wn <| ifm hm K rfl (fun _ hm => ?_) fun _ hm => ?_
       · obtain ⟨g_220, hm⟩ := gs hm
         refine wp_hop (Δs := [[⟨kBool, (st s_124.1 x_198.1 false), cp_12, bk_11, 4⟩, ⟨k103o, [(⟨(⟨x_2.1.p.Homes, x_2.1.p.Now, x_2.1.p.Salt, x_2.1.p.Users, (hS q0 s_124.2.1 n0), (hS q1 x_2.1.p.Dirs n1), (hS q2 s_124.2.2.1 n2)⟩ : T37o), x_2.1.fds⟩ : T103o)], 1, (some B0), 103⟩, ⟨k84, (st s_124.2.1 p1 ({ (gt s_124.2.1 p1) with Extents := x_206.1 } : T84)), n0, (some q0), 84⟩, ⟨(kSl k87), x_2.1.p.Dirs, n1, (some q1), 85⟩, ⟨(kSl kByte), s_124.2.2.1, n2, (some q2), 43⟩]]) 7 [(fE (pA B0 Ik103o)), (fE (pA B0 Ik103o)), (fE (pA B0 J103_0o)), (fE (pA B0 (J103_0o.comp F37_6o))), (fE (hS q2 s_124.2.2.1 n2)), (fE (.int .i64 x_198.1)), (fR kByte (List.replicate ((440 : Int)).toNat (0 : UInt8)) (((440 : Int)).toNat) 5)] [(0, (pA B0 Ik103o)), (6, .int .i64 0), (7, .pointer (some (adr q0 p1.toNat k84.n Ik84.off))), (9, hdr bk_11 s_124.1.length cp_12), (10, .int .i64 s_194.1), (12, .int .i64 (gt p2 s_124.2.2.2.2)), (13, .int .i64 s_194.2.1), (14, .int .i64 s_194.2.2.1), (15, .int .i64 x_198.1), (16, .int .i64 x_198.2), (37, vp2), (38, .int .i64 (p2.length : Int)), (39, .int .i64 s_124.2.2.2.2), (40, .bool (decide (s_124.2.2.2.2 < (p2.length : Int)))), (41, v_186), (42, .int .i64 (gt p2 s_124.2.2.2.2)), (44, .pointer (some (adr q0 p1.toNat k84.n Ik84.off))), (45, .pointer (some (adr q0 p1.toNat k84.n Ik84.off))), (46, .pointer (some (adr q0 p1.toNat k84.n J84_9.off))), (47, v_195), (48, .int .i64 (gt p2 s_124.2.2.2.2)), (49, .int .i64 (wr ((gt p2 s_124.2.2.2.2) - 1))), (51, .int .i64 s_194.2.2.2.2.1), (52, .int .i64 s_194.2.2.2.2.2.1), (53, .int .i64 s_194.2.2.2.2.2.2.1), (54, .bool s_194.2.2.2.2.2.2.2), (59, hdr bk_11 s_124.1.length cp_12), (60, .int .i64 s_194.1), (62, .int .i64 x_198.1), (63, .int .i64 x_198.2), (64, .int .i64 x_198.2), (65, .bool (x_198.2 != 0)), (66, hdr bk_11 s_124.1.length cp_12), (67, .int .i64 x_198.1), (68, .pointer (some (adr (bk_11.getD 0) x_198.1.toNat kBool.n IkBool.off))), (70, .pointer (some (adr q0 p1.toNat k84.n Ik84.off))), (71, .pointer (some (adr q0 p1.toNat k84.n Ik84.off))), (72, .pointer (some (adr q0 p1.toNat k84.n Ik84.off))), (73, .pointer (some (adr q0 p1.toNat k84.n J84_9.off))), (74, v_204), (75, .int .i64 (gt p2 s_124.2.2.2.2)), (76, .int .i64 x_198.1), (77, .int .i64 (wr (25 + x_198.1))), (79, v_208), (81, .pointer (some (adr q0 p1.toNat k84.n Ik84.off))), (82, .pointer (some (adr q0 p1.toNat k84.n J84_9.off))), (83, .pointer (some (adr q0 p1.toNat k84.n Ik84.off))), (84, .pointer (some (adr q0 p1.toNat k84.n Ik84.off))), (85, .pointer (some (adr q0 p1.toNat k84.n J84_0.off))), (86, .int .i64 ((gt (st s_124.2.1 p1 ({ (gt s_124.2.1 p1) with Extents := x_206.1 } : T84)) p1).Kind)), (87, .bool ((gt (st s_124.2.1 p1 ({ (gt s_124.2.1 p1) with Extents := x_206.1 } : T84)) p1).Kind == 1))] [] [[0], [0], [0], [0], [0], [0], [0]] [0, 1, 3, 7, 15, 0, 0, 127, 255] mx (by kernel_rfl) (by kernel_rfl) (by kernel_rfl) (by kernel_rfl) rfl rfl ⟨monE, monE, monE, monE, monE, monE, monR, ⟨⟩⟩ K h rfl rfl ⟨rfl, rfl, rfl, rfl, rfl, rfl, rfl, rfl, rfl, rfl, rfl, rfl, rfl, rfl, rfl, rfl, rfl, rfl, rfl, rfl, rfl, rfl, rfl, rfl, rfl, rfl, rfl, rfl, rfl, rfl, rfl, rfl, rfl, rfl, rfl, rfl, rfl, rfl, rfl, rfl, rfl, rfl, rfl, rfl, rfl, rfl, rfl, rfl, rfl, rfl, rfl, ⟨⟩⟩ ⟨(stg1 rfl rfl ?_), (stg1 rfl rfl ?_), (stg1 rfl rfl ?_), (stg1 rfl rfl ?_), (stg1 rfl rfl ?_), (stg1 rfl rfl ?_), (stg1 rfl rfl ?_), ⟨⟩⟩ rfl ?_
         · exact hpX [(0, _)] (fun s _ => ⟨s.1, ⟨⟩⟩) fun _ _ K t => mv K rfl t
         · exact hpX [(88, _)] k1 fun _ _ K t => nilck K rfl t
         · exact hpX [(89, _)] k1 fun _ _ K t => fa F103_0o K rfl o103_0o t
         · exact hpX [(90, _)] k1 fun _ _ K t => fa F37_6o K rfl o37_6o t
         · exact hpX [(91, _)] k1 fun _ h K t => ld1 1 (J103_0o.comp F37_6o) (hS q2 s_124.2.2.1 n2) K h rfl rfl rfl t35 vX t
         · exact hpX [(15, _)] (fun s _ => ⟨s.2.2.2.2.2.2.2.2.1, ⟨⟩⟩) fun _ _ K t => mv K rfl t
         · intro a w G62 L X e_62 h K hs hk
           have hx : Sy.sub L [] := trivial
           replace K := K.addx _ hx
           refine mks K h rfl rfl g_220 s43 e5 z5 fun a w bk_221 K h => wn <| ⟨rfl, G62, [_], gr, h, _, K.dropx _ hx, ⟨bk_221, rfl, rfl⟩⟩
         intro a w G63 L X e_63 h K hs hg
         obtain ⟨_, _, _, rfl, l_222, ⟨rfl, rfl⟩, hg⟩ := hg
         obtain ⟨_, _, _, rfl, l_223, ⟨rfl, rfl⟩, hg⟩ := hg
         obtain ⟨_, _, _, rfl, l_224, ⟨rfl, rfl⟩, hg⟩ := hg
         obtain ⟨_, _, _, rfl, l_225, ⟨rfl, rfl⟩, hg⟩ := hg
         obtain ⟨_, _, _, rfl, l_226, ⟨rfl, rfl⟩, hg⟩ := hg
         obtain ⟨_, _, _, rfl, l_227, ⟨rfl, rfl⟩, hg⟩ := hg
         obtain ⟨_, _, _, rfl, l6x, ⟨bk_221, rfl, rfl⟩, hg⟩ := hg
         obtain rfl := hg
         replace h := St.cast (Δ' := [⟨kBool, (st s_124.1 x_198.1 false), cp_12, bk_11, 4⟩, ⟨k103o, [(⟨(⟨x_2.1.p.Homes, x_2.1.p.Now, x_2.1.p.Salt, x_2.1.p.Users, (hS q0 s_124.2.1 n0), (hS q1 x_2.1.p.Dirs n1), (hS q2 s_124.2.2.1 n2)⟩ : T37o), x_2.1.fds⟩ : T103o)], 1, (some B0), 103⟩, ⟨k84, (st s_124.2.1 p1 ({ (gt s_124.2.1 p1) with Extents := x_206.1 } : T84)), n0, (some q0), 84⟩, ⟨(kSl k87), x_2.1.p.Dirs, n1, (some q1), 85⟩, ⟨(kSl kByte), s_124.2.2.1, n2, (some q2), 43⟩, ⟨kByte, (List.replicate ((440 : Int)).toNat (0 : UInt8)), ((440 : Int)).toNat, (some bk_221), 5⟩]) h rfl
         replace K := K.sub (l' := [(88, _), (89, _), (90, _), (91, _), (92, _), (93, _), (94, _), (0, _), (6, _), (7, _), (9, _), (10, _), (12, _), (13, _), (14, _), (15, _), (16, _), (37, _), (38, _), (39, _), (40, _), (41, _), (42, _), (44, _), (45, _), (46, _), (47, _), (48, _), (49, _), (51, _), (52, _), (53, _), (54, _), (59, _), (60, _), (62, _), (63, _), (64, _), (65, _), (66, _), (67, _), (68, _), (70, _), (71, _), (72, _), (73, _), (74, _), (75, _), (76, _), (77, _), (79, _), (81, _), (82, _), (83, _), (84, _), (85, _), (86, _), (87, _)]) ⟨l_222, l_223, l_224, l_225, l_226, l_227, l6x, hs.1, hs.2.1, hs.2.2.1, hs.2.2.2.1, hs.2.2.2.2.1, hs.2.2.2.2.2.1, hs.2.2.2.2.2.2.1, hs.2.2.2.2.2.2.2.1, hs.2.2.2.2.2.2.2.2.1, hs.2.2.2.2.2.2.2.2.2.1, hs.2.2.2.2.2.2.2.2.2.2.1, hs.2.2.2.2.2.2.2.2.2.2.2.1, hs.2.2.2.2.2.2.2.2.2.2.2.2.1, hs.2.2.2.2.2.2.2.2.2.2.2.2.2.1, hs.2.2.2.2.2.2.2.2.2.2.2.2.2.2.1, hs.2.2.2.2.2.2.2.2.2.2.2.2.2.2.2.1, hs.2.2.2.2.2.2.2.2.2.2.2.2.2.2.2.2.1, hs.2.2.2.2.2.2.2.2.2.2.2.2.2.2.2.2.2.1, hs.2.2.2.2.2.2.2.2.2.2.2.2.2.2.2.2.2.2.1, hs.2.2.2.2.2.2.2.2.2.2.2.2.2.2.2.2.2.2.2.1, hs.2.2.2.2.2.2.2.2.2.2.2.2.2.2.2.2.2.2.2.2.1, hs.2.2.2.2.2.2.2.2.2.2.2.2.2.2.2.2.2.2.2.2.2.1, hs.2.2.2.2.2.2.2.2.2.2.2.2.2.2.2.2.2.2.2.2.2.2.1, hs.2.2.2.2.2.2.2.2.2.2.2.2.2.2.2.2.2.2.2.2.2.2.2.1, hs.2.2.2.2.2.2.2.2.2.2.2.2.2.2.2.2.2.2.2.2.2.2.2.2.1, hs.2.2.2.2.2.2.2.2.2.2.2.2.2.2.2.2.2.2.2.2.2.2.2.2.2.1, hs.2.2.2.2.2.2.2.2.2.2.2.2.2.2.2.2.2.2.2.2.2.2.2.2.2.2.1, hs.2.2.2.2.2.2.2.2.2.2.2.2.2.2.2.2.2.2.2.2.2.2.2.2.2.2.2.1, hs.2.2.2.2.2.2.2.2.2.2.2.2.2.2.2.2.2.2.2.2.2.2.2.2.2.2.2.2.1, hs.2.2.2.2.2.2.2.2.2.2.2.2.2.2.2.2.2.2.2.2.2.2.2.2.2.2.2.2.2.1, hs.2.2.2.2.2.2.2.2.2.2.2.2.2.2.2.2.2.2.2.2.2.2.2.2.2.2.2.2.2.2.1, hs.2.2.2.2.2.2.2.2.2.2.2.2.2.2.2.2.2.2.2.2.2.2.2.2.2.2.2.2.2.2.2.1, hs.2.2.2.2.2.2.2.2.2.2.2.2.2.2.2.2.2.2.2.2.2.2.2.2.2.2.2.2.2.2.2.2.1, hs.2.2.2.2.2.2.2.2.2.2.2.2.2.2.2.2.2.2.2.2.2.2.2.2.2.2.2.2.2.2.2.2.2.1, hs.2.2.2.2.2.2.2.2.2.2.2.2.2.2.2.2.2.2.2.2.2.2.2.2.2.2.2.2.2.2.2.2.2.2.1, hs.2.2.2.2.2.2.2.2.2.2.2.2.2.2.2.2.2.2.2.2.2.2.2.2.2.2.2.2.2.2.2.2.2.2.2.1, hs.2.2.2.2.2.2.2.2.2.2.2.2.2.2.2.2.2.2.2.2.2.2.2.2.2.2.2.2.2.2.2.2.2.2.2.2.1, hs.2.2.2.2.2.2.2.2.2.2.2.2.2.2.2.2.2.2.2.2.2.2.2.2.2.2.2.2.2.2.2.2.2.2.2.2.2.1, hs.2.2.2.2.2.2.2.2.2.2.2.2.2.2.2.2.2.2.2.2.2.2.2.2.2.2.2.2.2.2.2.2.2.2.2.2.2.2.1, hs.2.2.2.2.2.2.2.2.2.2.2.2.2.2.2.2.2.2.2.2.2.2.2.2.2.2.2.2.2.2.2.2.2.2.2.2.2.2.2.1, hs.2.2.2.2.2.2.2.2.2.2.2.2.2.2.2.2.2.2.2.2.2.2.2.2.2.2.2.2.2.2.2.2.2.2.2.2.2.2.2.2.1, hs.2.2.2.2.2.2.2.2.2.2.2.2.2.2.2.2.2.2.2.2.2.2.2.2.2.2.2.2.2.2.2.2.2.2.2.2.2.2.2.2.2.1, hs.2.2.2.2.2.2.2.2.2.2.2.2.2.2.2.2.2.2.2.2.2.2.2.2.2.2.2.2.2.2.2.2.2.2.2.2.2.2.2.2.2.2.1, hs.2.2.2.2.2.2.2.2.2.2.2.2.2.2.2.2.2.2.2.2.2.2.2.2.2.2.2.2.2.2.2.2.2.2.2.2.2.2.2.2.2.2.2.1, hs.2.2.2.2.2.2.2.2.2.2.2.2.2.2.2.2.2.2.2.2.2.2.2.2.2.2.2.2.2.2.2.2.2.2.2.2.2.2.2.2.2.2.2.2.1, hs.2.2.2.2.2.2.2.2.2.2.2.2.2.2.2.2.2.2.2.2.2.2.2.2.2.2.2.2.2.2.2.2.2.2.2.2.2.2.2.2.2.2.2.2.2.1, hs.2.2.2.2.2.2.2.2.2.2.2.2.2.2.2.2.2.2.2.2.2.2.2.2.2.2.2.2.2.2.2.2.2.2.2.2.2.2.2.2.2.2.2.2.2.2.1, hs.2.2.2.2.2.2.2.2.2.2.2.2.2.2.2.2.2.2.2.2.2.2.2.2.2.2.2.2.2.2.2.2.2.2.2.2.2.2.2.2.2.2.2.2.2.2.2.1, hs.2.2.2.2.2.2.2.2.2.2.2.2.2.2.2.2.2.2.2.2.2.2.2.2.2.2.2.2.2.2.2.2.2.2.2.2.2.2.2.2.2.2.2.2.2.2.2.2.1, hs.2.2.2.2.2.2.2.2.2.2.2.2.2.2.2.2.2.2.2.2.2.2.2.2.2.2.2.2.2.2.2.2.2.2.2.2.2.2.2.2.2.2.2.2.2.2.2.2.2.1, hs.2.2.2.2.2.2.2.2.2.2.2.2.2.2.2.2.2.2.2.2.2.2.2.2.2.2.2.2.2.2.2.2.2.2.2.2.2.2.2.2.2.2.2.2.2.2.2.2.2.2.1, ⟨⟩⟩
         obtain ⟨g_228, hm⟩ := gs hm
         refine ixo K rfl rfl g_228 s35 t43 fun a K => ?_
         obtain ⟨G64, e_64, h, q_229⟩ := frz 5 h rfl
         have hl_230 : (st s_124.2.2.1 x_198.1 (List.replicate ((440 : Int)).toNat (0 : UInt8))).length = s_124.2.2.1.length := st_length
         refine sto 4 (Fld.id (kSl kByte)) ((st s_124.2.2.1 x_198.1 (List.replicate ((440 : Int)).toNat (0 : UInt8)))) K h rfl rfl (gt_some g_228) rfl q_229 t43 rfl rfl fun w h => wn <| wl <| mv K rfl fun a K => binI _ K rfl rfl rfl fun a K => asg K rfl fun a K => wn <| wl <| binI _ K rfl rfl rfl fun a K => mv K rfl fun a K => wn ?_
         obtain rfl := oi hm
         exact ⟨rfl, ⟨G64, (Gh.trans e_34 (Gh.trans e_52 (Gh.trans e_55 (Gh.trans e_63 e_64)))), (St.cast (St.sel [0, 1, 2, 3, 4] rfl h) (show ([⟨kBool, (st s_124.1 x_198.1 false), cp_12, bk_11, 4⟩, ⟨k103o, [(⟨(⟨x_2.1.p.Homes, x_2.1.p.Now, x_2.1.p.Salt, x_2.1.p.Users, (hS q0 s_124.2.1 n0), (hS q1 x_2.1.p.Dirs n1), (hS q2 s_124.2.2.1 n2)⟩ : T37o), x_2.1.fds⟩ : T103o)], 1, (some B0), 103⟩, ⟨k84, (st s_124.2.1 p1 ({ (gt s_124.2.1 p1) with Extents := x_206.1 } : T84)), n0, (some q0), 84⟩, ⟨(kSl k87), x_2.1.p.Dirs, n1, (some q1), 85⟩, ⟨(kSl kByte), (st s_124.2.2.1 x_198.1 (List.replicate ((440 : Int)).toNat (0 : UInt8))), n2, (some q2), 43⟩] : List Own) = [⟨kBool, (st s_124.1 x_198.1 false), cp_12, bk_11, 4⟩, ⟨k103o, [(⟨(⟨x_2.1.p.Homes, x_2.1.p.Now, x_2.1.p.Salt, x_2.1.p.Users, (hdr (some q0) (st s_124.2.1 p1 ({ (gt s_124.2.1 p1) with Extents := x_206.1 } : T84)).length n0), (hS q1 x_2.1.p.Dirs n1), (hdr (some q2) (st s_124.2.2.1 x_198.1 (List.replicate ((440 : Int)).toNat (0 : UInt8))).length n2)⟩ : T37o), x_2.1.fds⟩ : T103o)], 1, (some B0), 103⟩, ⟨k84, (st s_124.2.1 p1 ({ (gt s_124.2.1 p1) with Extents := x_206.1 } : T84)), n0, (some q0), 84⟩, ⟨(kSl k87), x_2.1.p.Dirs, n1, (some q1), 85⟩, ⟨(kSl kByte), (st s_124.2.2.1 x_198.1 (List.replicate ((440 : Int)).toNat (0 : UInt8))), n2, (some q2), 43⟩] by rw [hl_210, hl_230])), (K.sub ⟨rfl, rfl, rfl, (show lk _ 9 = some (hdr bk_11 (st s_124.1 x_198.1 false).length cp_12) by rw [hl_202]; rfl), rfl, rfl, rfl, rfl, ⟨⟩⟩)⟩⟩
       refine wk <| wl <| mv K rfl fun a K => binI _ K rfl rfl rfl fun a K => asg K rfl fun a K => wn <| wl <| binI _ K rfl rfl rfl fun a K => mv K rfl fun a K => wn ?_
       obtain rfl := oi hm
       exact ⟨rfl, ⟨G55, (Gh.trans e_34 (Gh.trans e_52 e_55)), (St.cast (St.sel [0, 1, 2, 3, 4] rfl h) (show ([⟨kBool, (st s_124.1 x_198.1 false), cp_12, bk_11, 4⟩, ⟨k103o, [(⟨(⟨x_2.1.p.Homes, x_2.1.p.Now, x_2.1.p.Salt, x_2.1.p.Users, (hS q0 s_124.2.1 n0), (hS q1 x_2.1.p.Dirs n1), (hS q2 s_124.2.2.1 n2)⟩ : T37o), x_2.1.fds⟩ : T103o)], 1, (some B0), 103⟩, ⟨k84, (st s_124.2.1 p1 ({ (gt s_124.2.1 p1) with Extents := x_206.1 } : T84)), n0, (some q0), 84⟩, ⟨(kSl k87), x_2.1.p.Dirs, n1, (some q1), 85⟩, ⟨(kSl kByte), s_124.2.2.1, n2, (some q2), 43⟩] : List Own) = [⟨kBool, (st s_124.1 x_198.1 false), cp_12, bk_11, 4⟩, ⟨k103o, [(⟨(⟨x_2.1.p.Homes, x_2.1.p.Now, x_2.1.p.Salt, x_2.1.p.Users, (hdr (some q0) (st s_124.2.1 p1 ({ (gt s_124.2.1 p1) with Extents := x_206.1 } : T84)).length n0), (hS q1 x_2.1.p.Dirs n1), (hS q2 s_124.2.2.1 n2)⟩ : T37o), x_2.1.fds⟩ : T103o)], 1, (some B0), 103⟩, ⟨k84, (st s_124.2.1 p1 ({ (gt s_124.2.1 p1) with Extents := x_206.1 } : T84)), n0, (some q0), 84⟩, ⟨(kSl k87), x_2.1.p.Dirs, n1, (some q1), 85⟩, ⟨(kSl kByte), s_124.2.2.1, n2, (some q2), 43⟩] by rw [hl_210])), (K.sub ⟨rfl, rfl, rfl, (show lk _ 9 = some (hdr bk_11 (st s_124.1 x_198.1 false).length cp_12) by rw [hl_202]; rfl), rfl, rfl, rfl, rfl, ⟨⟩⟩)⟩⟩
     refine sl <| mv K rfl fun a K => nilck K rfl fun a K => fa F84_9 K rfl o84_9 fun a K => ?_
     obtain ⟨g_233, hm⟩ := gs hm
     refine ld 2 J84_9 K h rfl rfl (gt_some g_233) t82 fun a v_234 K q_235 => ?_
     replace q_235 : (kSl k94).val _ v_234 ((gt s_124.2.1 p1).Extents) := q_235
     refine mv K rfl fun a K => binI _ K rfl rfl rfl fun a K => ?_
     obtain ⟨x_236, hx_236, hm⟩ := bs hm
     refine clp K h rfl b233 (fun h => c233 hx_236 q_235 h) fun a w v G65 K e_65 h hR_237 => ?_
     obtain rfl := hR_237
     refine mv K rfl fun a K => extr K rfl rfl fun a K => extr K rfl rfl fun a K => asg K rfl fun a K => asg K rfl fun a K => nsl <| mv K rfl fun a K => binC _ K rfl rfl rfl fun a K => wn <| ifm hm K rfl (fun _ hm => ?_) fun _ hm => ?_
     · refine wl <| mv K rfl fun a K => binI _ K rfl rfl rfl fun a K => binI _ K rfl rfl rfl fun a K => asg K rfl fun a K => wn <| kk_232 ((wr ((wr (x_236.1 - 25)) + 1)), x_236.1, x_236.2, (gt s_124.2.1 p1).Extents, x_236.1, x_236.2, x_236.2, (x_236.2 == 0)) hm _ _ ⟨G65, v_234, e_65, (St.sel [0, 1, 2, 3, 4] rfl h), (K.sub (so rfl)), (Kd.val_mono e_65 q_235)⟩
     refine wk <| kk_232 (s_124.2.2.2.1, x_236.1, x_236.2, (gt s_124.2.1 p1).Extents, x_236.1, x_236.2, x_236.2, (x_236.2 == 0)) hm _ _ ⟨G65, v_234, e_65, (St.sel [0, 1, 2, 3, 4] rfl h), (K.sub (so rfl)), (Kd.val_mono e_65 q_235)⟩
   refine wp_exit ?_
   obtain rfl := oi hm
   exact ⟨by simp, rfl, ⟨G34, e_34, (St.sel [1, 2, 3, 4] rfl h), (K.sub ⟨rfl, ⟨⟩⟩)⟩⟩
 intro e a w hD
 rcases y_180 with p_181 | q_239
 · simp only [Sum.elim_inl, Sum.elim_inr] at hm
   obtain ⟨rfl, ⟨G50, e_50, h, K⟩⟩ := hD
   refine sl <| asg K rfl fun a K => wn <| wt ?_
   obtain rfl := oi hm
   exact fr f285 K (St.sel [0, 1, 2, 3] rfl h) rfl ⟨rfl, ⟨⟩⟩ ⟨rfl, rfl⟩
 simp only [Sum.elim_inr] at hm
 obtain rfl := oi hm
 obtain ⟨rfl, hD⟩ := hD
 exact hD
abbrev R228 (r : T103 × Int) (v : Value) (H : Gh) : Prop := v = .int .i64 r.2
instance monR228 {r : T103 × Int} : MonR (R228 r) := ⟨fun _ _ _ _ h => h⟩
theorem c228 {p0 : T103} {p1 : Int} {p2 : (List T87)} {B0 q0 q1 q2 n0 n1 n2 : Nat} {r : T103 × Int} (hm : m228 p0 p1 p2 = some r) {vp2 : Value} (hp2 : ((kSl k87).val G0 vp2 p2)) (h : St c G0 w ((o3 B0 q0 q1 q2 n0 n1 n2 p0))) : Calls prog 228 #[(pA B0 Ik103o), .int .i64 p1, vp2] w (FO c (o3 B0 q0 q1 q2 n0 n1 n2 r.1) (R228 r)) := by
 unfold m228 at hm
 refine enter (n := 68) func228 rfl rfl rfl fun a K => sl <| asg K rfl fun a K => nsl <| mv K rfl fun a K => nilck K rfl fun a K => fa F103_0o K rfl o103_0o fun a K => fa F37_4o K rfl o37_4o fun a K => ld1 0 (J103_0o.comp F37_4o) (hS q0 p0.p.Inodes n0) K h rfl rfl rfl t33 vX fun a K => mv K rfl fun a K => ?_
 obtain ⟨g_1, hm⟩ := gs hm
 refine ixo K rfl rfl g_1 s33 t84 fun a K => asg K rfl fun a K => nsl <| mv K rfl fun a K => nilck K rfl fun a K => fa F84_5 K rfl o84_5 fun a K => ld1 1 J84_5 (.int .i64 ((gt p0.p.Inodes p1).Size)) K h rfl rfl (gt_some g_1) t3 vI fun a K => ?_
 obtain ⟨x_2, hx_2, hm⟩ := bs hm
 refine clp K h rfl b120 (fun h => c120 hx_2 h) fun a w v G1 K e_1 h hR_3 => ?_
 obtain rfl := hR_3
 refine mv K rfl fun a K => ?_
 obtain ⟨x_4, hx_4, hm⟩ := bs hm
 refine clp K h rfl b117 (fun h => c117 hx_4 (Kd.val_mono e_1 hp2) h) fun a w v G2 K e_2 h hR_5 => ?_
 obtain rfl := hR_5
 obtain ⟨x_6, hx_6, hm⟩ := bs hm
 refine clp K h rfl b120 (fun h => c120 hx_6 h) fun a w v G3 K e_3 h hR_7 => ?_
 obtain rfl := hR_7
 refine asg K rfl fun a K => asg K rfl fun a K => wn <| ws ?_
 obtain ⟨x_19, hx_19, hm⟩ := bs hm
 have hl_29 : (st p0.p.Inodes p1 ({ (gt p0.p.Inodes p1) with Size := x_19 } : T84)).length = p0.p.Inodes.length := st_length
 refine wp_hop (Δs := [(o3 B0 q0 q1 q2 n0 n1 n2 p0), [⟨k103o, [(⟨(⟨p0.p.Homes, p0.p.Now, p0.p.Salt, p0.p.Users, (hS q0 p0.p.Inodes n0), (hS q1 p0.p.Dirs n1), (hS q2 p0.p.Blocks n2)⟩ : T37o), p0.fds⟩ : T103o)], 1, (some B0), 103⟩, ⟨k84, (st p0.p.Inodes p1 ({ (gt p0.p.Inodes p1) with Size := x_19 } : T84)), n0, (some q0), 84⟩, ⟨(kSl k87), p0.p.Dirs, n1, (some q1), 85⟩, ⟨(kSl kByte), p0.p.Blocks, n2, (some q2), 43⟩]]) 13 [(fE (.pointer (some (adr q0 p1.toNat k84.n Ik84.off)))), (fE (pA B0 Ik103o)), (fE (pA B0 Ik103o)), (fE (pA B0 J103_0o)), (fE (pA B0 (J103_0o.comp F37_5o))), (fE (hS q1 p0.p.Dirs n1)), (fE (.int .i64 p1)), (fT (kSl k87) p2), (fE (.int .i64 x_19)), (fT (kSl k87) p2), (fE (.pointer (some (adr q0 p1.toNat k84.n Ik84.off)))), (fE (.pointer (some (adr q0 p1.toNat k84.n J84_5.off)))), f0] [(0, (pA B0 Ik103o)), (1, .int .i64 p1), (2, vp2), (6, .int .i64 0), (7, .pointer (some (adr q0 p1.toNat k84.n Ik84.off))), (8, .int .i64 x_2), (9, .int .i64 x_6)] [12] [[0], [0], [0], [0], [0], [0], [0, 1], [0], [0], [0, 1], [0], [0], [0]] [0, 0, 2, 6, 14, 30, 0, 0, 128, 0, 447, 1471, 3519, 8191, 16383] mx (by kernel_rfl) (by kernel_rfl) (by kernel_rfl) (by kernel_rfl) rfl rfl ⟨monE, monE, monE, monE, monE, monE, monE, monT, monE, monT, monE, monE, mon0, ⟨⟩⟩ K h rfl rfl ⟨rfl, rfl, rfl, rfl, rfl, rfl, rfl, ⟨⟩⟩ ⟨(stg1 rfl rfl ?_), (stg1 rfl rfl ?_), (stg1 rfl rfl ?_), (stg1 rfl rfl ?_), (stg1 rfl rfl ?_), (stg1 rfl rfl ?_), (stg2 rfl rfl ?_ (stg1 rfl rfl ?_)), (stg1 rfl rfl ?_), (stg1 rfl rfl ?_), (stg2 rfl rfl ?_ (stg1 rfl rfl ?_)), (stg1 rfl rfl ?_), (stg1 rfl rfl ?_), (stg1 rfl rfl ?_), ⟨⟩⟩ rfl ?_
 · exact hpX [(7, _)] (fun s _ => ⟨s.2.2.2.2.1, ⟨⟩⟩) fun _ _ K t => mv K rfl t
 · exact hpX [(0, _)] (fun s _ => ⟨s.1, ⟨⟩⟩) fun _ _ K t => mv K rfl t
 · exact hpX [(28, _)] k1 fun _ _ K t => nilck K rfl t
 · exact hpX [(29, _)] k1 fun _ _ K t => fa F103_0o K rfl o103_0o t
 · exact hpX [(30, _)] k1 fun _ _ K t => fa F37_5o K rfl o37_5o t
 · exact hpX [(31, _)] k1 fun _ h K t => ld1 0 (J103_0o.comp F37_5o) (hS q1 p0.p.Dirs n1) K h rfl rfl rfl t34 vX t
 · exact hpX [(1, _)] (fun s _ => ⟨s.2.1, ⟨⟩⟩) fun _ _ K t => mv K rfl t
 · exact hpX [(1, _)] (fun s _ => ⟨s.2.1, ⟨⟩⟩) fun _ _ K t => mv K rfl t
 · intro a w G11 L X e_11 h K hs hk
   have hx : Sy.sub L [(2, _)] := ⟨hs.2.2.1, ⟨⟩⟩
   replace K := K.addx _ hx
   refine mv K rfl fun a K => wn <| ⟨rfl, G11, [], gr, h, _, K.dropx _ hx, ⟨rfl, (Kd.val_mono (Gh.trans e_1 (Gh.trans e_2 (Gh.trans e_3 e_11))) hp2)⟩⟩
 · intro a w G12 L X e_12 h K hs hk
   obtain ⟨v_16, _, l_17, -, q_18⟩ := hk.1
   have hx : Sy.sub L [(34, _)] := ⟨l_17, ⟨⟩⟩
   replace K := K.addx _ hx
   refine clp K h rfl b117 (fun h => c117 hx_19 q_18 h) fun a w v G13 K e_13 h hR_20 => ?_
   obtain rfl := hR_20
   refine wn <| ⟨rfl, G13, [], e_13, h, _, K.dropx _ hx, ⟨rfl, rfl⟩⟩
 · intro a w G14 L X e_14 h K hs hk
   have hx : Sy.sub L [(2, _)] := ⟨hs.2.2.1, ⟨⟩⟩
   replace K := K.addx _ hx
   refine mv K rfl fun a K => wn <| ⟨rfl, G14, [], gr, h, _, K.dropx _ hx, ⟨rfl, (Kd.val_mono (Gh.trans e_1 (Gh.trans e_2 (Gh.trans e_3 e_14))) hp2)⟩⟩
 · intro a w G19 L X e_19 h K hs hk
   have hx : Sy.sub L [(2, _)] := ⟨hs.2.2.1, ⟨⟩⟩
   replace K := K.addx _ hx
   refine mv K rfl fun a K => wn <| ⟨rfl, G19, [], gr, h, _, K.dropx _ hx, ⟨rfl, (Kd.val_mono (Gh.trans e_1 (Gh.trans e_2 (Gh.trans e_3 e_19))) hp2)⟩⟩
 · exact hpX [(27, _)] k1 fun _ _ K t => nilck K rfl t
 · exact hpX [(37, _)] k1 fun _ _ K t => fa F84_5 K rfl o84_5 t
 · intro a w G17 L X e_17 h K hs hk
   obtain ⟨v_25, _, l_26, -, rfl⟩ := hk.2.1
   obtain ⟨v_27, _, l_28, -, rfl⟩ := hk.1
   have hx : Sy.sub L [(35, _), (38, _)] := ⟨l_26, l_28, ⟨⟩⟩
   replace K := K.addx _ hx
   refine sto 1 J84_5 ((st p0.p.Inodes p1 ({ (gt p0.p.Inodes p1) with Size := x_19 } : T84))) K h rfl rfl (gt_some g_1) rfl int_val t3 rfl rfl fun w h => wn <| ⟨rfl, G17, [], gr, h, K.dropy _ hx, rfl⟩
 intro a w G20 L X e_20 h K hs hg
 obtain ⟨_, _, _, rfl, -, ⟨rfl, -⟩, hg⟩ := hg
 obtain ⟨_, _, _, rfl, -, ⟨rfl, -⟩, hg⟩ := hg
 obtain ⟨_, _, _, rfl, -, ⟨rfl, -⟩, hg⟩ := hg
 obtain ⟨_, _, _, rfl, -, ⟨rfl, -⟩, hg⟩ := hg
 obtain ⟨_, _, _, rfl, -, ⟨rfl, -⟩, hg⟩ := hg
 obtain ⟨_, _, _, rfl, l_30, ⟨rfl, rfl⟩, hg⟩ := hg
 obtain ⟨_, _, _, rfl, l_31, ⟨rfl, rfl⟩, hg⟩ := hg
 obtain ⟨_, _, _, rfl, -, ⟨rfl, -⟩, hg⟩ := hg
 obtain ⟨_, _, _, rfl, -, ⟨rfl, -⟩, hg⟩ := hg
 obtain ⟨v_32, _, _, rfl, l_34, ⟨rfl, q_33⟩, hg⟩ := hg
 obtain ⟨_, _, _, rfl, -, ⟨rfl, -⟩, hg⟩ := hg
 obtain ⟨_, _, _, rfl, -, ⟨rfl, -⟩, hg⟩ := hg
 obtain rfl := hg
 replace h := St.cast (Δ' := [⟨k103o, [(⟨(⟨p0.p.Homes, p0.p.Now, p0.p.Salt, p0.p.Users, (hS q0 p0.p.Inodes n0), (hS q1 p0.p.Dirs n1), (hS q2 p0.p.Blocks n2)⟩ : T37o), p0.fds⟩ : T103o)], 1, (some B0), 103⟩, ⟨k84, (st p0.p.Inodes p1 ({ (gt p0.p.Inodes p1) with Size := x_19 } : T84)), n0, (some q0), 84⟩, ⟨(kSl k87), p0.p.Dirs, n1, (some q1), 85⟩, ⟨(kSl kByte), p0.p.Blocks, n2, (some q2), 43⟩]) h rfl
 replace K := K.sub (l' := [(32, _), (33, _), (36, _), (0, _), (1, _), (6, _), (8, _), (9, _)]) ⟨l_30, l_31, l_34, hs.1, hs.2.1, hs.2.2.2.1, hs.2.2.2.2.2.1, hs.2.2.2.2.2.2.1, ⟨⟩⟩
 obtain ⟨g_35, hm⟩ := gs hm
 refine ixo K rfl rfl g_35 s34 t85 fun a K => ?_
 have hl_36 : (st p0.p.Dirs p1 p2).length = p0.p.Dirs.length := st_length
 refine sto 2 (Fld.id (kSl k87)) ((st p0.p.Dirs p1 p2)) K h rfl rfl (gt_some g_35) rfl q_33 t85 rfl rfl fun w h => wn <| sl <| mv K rfl fun a K => mv K rfl fun a K => ?_
 obtain ⟨x_37, hx_37, hm⟩ := bs hm
 replace h := St.cast h (show ([⟨k103o, [(⟨(⟨p0.p.Homes, p0.p.Now, p0.p.Salt, p0.p.Users, (hS q0 p0.p.Inodes n0), (hS q1 p0.p.Dirs n1), (hS q2 p0.p.Blocks n2)⟩ : T37o), p0.fds⟩ : T103o)], 1, (some B0), 103⟩, ⟨k84, (st p0.p.Inodes p1 ({ (gt p0.p.Inodes p1) with Size := x_19 } : T84)), n0, (some q0), 84⟩, ⟨(kSl k87), (st p0.p.Dirs p1 p2), n1, (some q1), 85⟩, ⟨(kSl kByte), p0.p.Blocks, n2, (some q2), 43⟩] : List Own) = [⟨k103o, [(⟨(⟨p0.p.Homes, p0.p.Now, p0.p.Salt, p0.p.Users, (hdr (some q0) (st p0.p.Inodes p1 ({ (gt p0.p.Inodes p1) with Size := x_19 } : T84)).length n0), (hdr (some q1) (st p0.p.Dirs p1 p2).length n1), (hS q2 p0.p.Blocks n2)⟩ : T37o), p0.fds⟩ : T103o)], 1, (some B0), 103⟩, ⟨k84, (st p0.p.Inodes p1 ({ (gt p0.p.Inodes p1) with Size := x_19 } : T84)), n0, (some q0), 84⟩, ⟨(kSl k87), (st p0.p.Dirs p1 p2), n1, (some q1), 85⟩, ⟨(kSl kByte), p0.p.Blocks, n2, (some q2), 43⟩] by rw [hl_29, hl_36])
 refine clw (Δ₁ := (o3 B0 q0 q1 q2 n0 n1 n2 ({ p0 with p := ({ p0.p with Inodes := (st p0.p.Inodes p1 ({ (gt p0.p.Inodes p1) with Size := x_19 } : T84)), Dirs := (st p0.p.Dirs p1 p2) } : T37) } : T103))) (Δ₂ := _) [3, 3, 3, 3] K h rfl rfl b154 (fun h => c154 hx_37 h) fun a w v G21 Δx K e_21 h hR_38 => ?_
 obtain ⟨rfl, hR_38⟩ := hR_38
 replace h := St.cast (Δ' := (o3 B0 q0 q1 q2 n0 n1 n2 x_37)) h rfl
 obtain rfl := hR_38
 refine wn <| ws <| sl <| mv K rfl fun a K => mv K rfl fun a K => binC _ K rfl rfl rfl fun a K => wn <| ifm hm K rfl (fun _ hm => ?_) fun _ hm => ?_
 · refine wl <| mv K rfl fun a K => mv K rfl fun a K => mv K rfl fun a K => mv K rfl fun a K => ?_
   cases hm
 refine wk <| sl <| asg K rfl fun a K => wn <| ws <| sl <| mv K rfl fun a K => asg K rfl fun a K => wn <| wb ?_
 replace h := St.nil (kInt .i64) 3 h
 obtain ⟨p_69, hp_69, hm⟩ := bs hm
 refine loop (S := (List Int) × Int) (R := (List Int)) (fun s_59 a w => ∃ (G25 : Gh) (bk_60 : Option Nat) (cp_61 : Nat), Gh.le G21 G25 ∧ St c G25 w (⟨(kInt .i64), s_59.1, cp_61, bk_60, 3⟩ :: o3 B0 q0 q1 q2 n0 n1 n2 x_37) ∧ Tm 68 a [(0, (pA B0 Ik103o)), (1, .int .i64 p1), (6, .int .i64 0), (9, .int .i64 x_6), (10, hdr bk_60 s_59.1.length cp_61), (11, .int .i64 s_59.2)]) (fun (p_69 : (List Int)) e a w => e = .exit 0 ∧ ∃ (G27 : Gh) (bk_70 : Option Nat) (cp_71 : Nat), Gh.le G21 G27 ∧ St c G27 w (⟨(kInt .i64), p_69, cp_71, bk_70, 3⟩ :: o3 B0 q0 q1 q2 n0 n1 n2 x_37) ∧ Tm 68 a [(0, (pA B0 Ik103o)), (1, .int .i64 p1), (6, .int .i64 0), (10, hdr bk_70 p_69.length cp_71)]) hp_69 ⟨G21, none, 0, gr, (St.sel [0, 1, 2, 3, 4] rfl h), (K.sub (so rfl))⟩ ?_ ?_
 · intro s_59 y_73 a w hm hI
   obtain ⟨G25, bk_60, cp_61, e_25, h, K⟩ := hI
   unfold m228_l_72 at hm
   refine ws <| sl <| mv K rfl fun a K => mv K rfl fun a K => binC _ K rfl rfl rfl fun a K => wn <| ifm hm K rfl (fun _ hm => ?_) fun _ hm => ?_
   · refine wk <| ws <| wb <| wl <| mv K rfl fun a K => mv K rfl fun a K => bldS (f := (kInt .i64)) (by decide) [s_59.2] K h rfl s267 t3 rfl z3 (.cons (Fld.idx (kInt .i64) 0 (by decide)) rfl int_val .nil) fun a w bk_75 K h => ?_
     obtain ⟨G28, e_28, h, q_76⟩ := frz 0 h rfl
     obtain ⟨g_79, hm⟩ := gs hm
     refine app 0 K h rfl rfl rfl rfl (show (kSl (kInt .i64)).val _ _ _ from q_76) rfl s267 s267 e3 g_79 fun a w bk_77 cp_78 K h => asg K rfl fun a K => wn <| wl <| mv K rfl fun a K => binI _ K rfl rfl rfl fun a K => asg K rfl fun a K => wn ?_
     obtain rfl := oi hm
     exact ⟨rfl, ⟨G28, bk_77, cp_78, (Gh.trans e_25 e_28), (St.sel [0, 1, 2, 3, 4] rfl h), (K.sub (so rfl))⟩⟩
   refine wp_exit ?_
   obtain rfl := oi hm
   exact ⟨by simp, rfl, ⟨G25, bk_60, cp_61, e_25, (St.sel [0, 1, 2, 3, 4] rfl h), (K.sub (so rfl))⟩⟩
 intro e a w hD
 obtain ⟨rfl, ⟨G27, bk_70, cp_71, e_27, h, K⟩⟩ := hD
 refine ws <| sl <| mv K rfl fun a K => lenO K rfl rfl s267 fun a K => binC _ K rfl rfl rfl fun a K => wn <| ifm hm K rfl (fun _ hm => ?_) fun _ hm => ?_
 · refine sl <| asg K rfl fun a K => wn <| wt ?_
   obtain rfl := oi hm
   exact fr f228 K (St.sel [1, 2, 3, 4] rfl h) rfl ⟨rfl, ⟨⟩⟩ ⟨rfl, rfl⟩
 refine wk <| sl <| mv K rfl fun a K => mv K rfl fun a K => mv K rfl fun a K => ?_
 obtain ⟨G29, e_29, h, q_81⟩ := frz 0 h rfl
 obtain ⟨x_82, hx_82, hm⟩ := bs hm
 refine clw (Δ₁ := (o3 B0 q0 q1 q2 n0 n1 n2 x_37)) (Δ₂ := _) [3, 3, 3, 3] K h rfl rfl b285 (fun h => c285 hx_82 q_81 h) fun a w v G30 Δx K e_30 h hR_83 => ?_
 obtain ⟨rfl, hR_83⟩ := hR_83
 replace h := St.cast (Δ' := (o3 B0 q0 q1 q2 n0 n1 n2 x_82.1)) h rfl
 obtain rfl := hR_83
 refine asg K rfl fun a K => wn <| wt ?_
 obtain rfl := oi hm
 exact fr f228 K (St.sel [0, 1, 2, 3] rfl h) rfl ⟨rfl, ⟨⟩⟩ ⟨rfl, rfl⟩
abbrev R152 (r : T103 × Int) (v : Value) (H : Gh) : Prop := v = .int .i64 r.2
instance monR152 {r : T103 × Int} : MonR (R152 r) := ⟨fun _ _ _ _ h => h⟩
theorem c152 {p0 : T103} {p1 : T210} {p2 : Int} {B0 q0 q1 q2 n0 n1 n2 : Nat} {r : T103 × Int} (hm : m152 p0 p1 p2 = some r) {vp1 : Value} (hp1 : (k210.val G0 vp1 p1)) (h : St c G0 w ((o3 B0 q0 q1 q2 n0 n1 n2 p0))) : Calls prog 152 #[(pA B0 Ik103o), vp1, .int .i64 p2] w (FO c (o3 B0 q0 q1 q2 n0 n1 n2 r.1) (R152 r)) := by
 unfold m152 at hm
 refine enter (n := 37) func152 rfl rfl rfl fun a K => sl <| boxr K h rfl hp1 fun a w v_1 G1 K e_1 h q_2 => asg K rfl fun a K => wn <| ws ?_
 obtain ⟨g_30, hm⟩ := gs hm
 obtain ⟨x_50, hx_50, hm⟩ := bs hm
 refine wh 22 [fE _, fE _, fE _, fE _, (fT a22 p0.p.Salt), fE _, fE _, fE _, fE _, fE _, (fT (kRef (kInt .i64)) p1.parent), fE _, fE _, (fT (kSl k87) (gt p0.p.Dirs p1.parent)), (fT (kRef kStr) p1.name), fE _, fE _, (fC (R227 x_50)), (fC (R227 x_50)), (fT (kSl k87) x_50.1), (fE (.int .i64 x_50.2)), (fT (kSl k87) x_50.1)] [(0, _), (2, _), (4, _), (6, _)] mx K h (so rfl) ⟨hpX [(0, _)] (fun s _ => ⟨s.1, ⟨⟩⟩) fun _ _ K t => mv K rfl t, hpX [(10, _)] k1 fun _ _ K t => nilck K rfl t, hpX [(11, _)] k1 fun _ _ K t => fa F103_0o K rfl o103_0o t, hpX [(12, _)] k1 fun _ _ K t => fa F37_2o K rfl o37_2o t, hpT [(13, _)] k1 fun _ h K t => ld 0 (J103_0o.comp F37_2o) K h rfl rfl rfl t22 t, hpX [(0, _)] (fun s _ => ⟨s.1, ⟨⟩⟩) fun _ _ K t => mv K rfl t, hpX [(15, _)] k1 fun _ _ K t => nilck K rfl t, hpX [(16, _)] k1 fun _ _ K t => fa F103_0o K rfl o103_0o t, hpX [(17, _)] k1 fun _ _ K t => fa F37_5o K rfl o37_5o t, hpX [(18, _)] k1 fun _ h K t => ld1 0 (J103_0o.comp F37_5o) (hS q1 p0.p.Dirs n1) K h rfl rfl rfl t34 vX t, hpT [(4, _)] (fun s _ => ⟨s.2.2.1, ⟨⟩⟩) fun e _ K t => far F210_1 K rfl (Kd.val_mono e q_2) o210_1 t, hpQ (t := 20) (fun k => k.1) fun _ h K q t => ldr1 (.int .i64 p1.parent) K h rfl q t3 vI t, hpX [(19, _), (21, _)] k2 fun _ _ K t => ixo K rfl rfl g_30 s34 t85 t, hpT [(22, _)] k1 fun _ h K t => ld 2 (Fld.id (kSl k87)) K h rfl rfl (gt_some g_30) t85 t, hpT [(4, _)] (fun s _ => ⟨s.2.2.1, ⟨⟩⟩) fun e _ K t => far F210_2 K rfl (Kd.val_mono e q_2) o210_2 t, hpQ (t := 24) (fun k => k.1) fun _ h K q t => ldr1 (.string p1.name) K h rfl q t9 vS t, hpX [(2, _)] (fun s _ => ⟨s.2.1, ⟨⟩⟩) fun _ _ K t => mv K rfl t, ?_, ?_, ?_, ?_, ?_, ⟨⟩⟩ ?_
 · intro a w G19 L X e_19 h K hs hk
   obtain ⟨v_40, _, l_41, -, q_42⟩ := hk.1
   obtain ⟨v_43, _, l_44, -, q_45⟩ := hk.2.1
   obtain ⟨v_46, _, l_47, -, rfl⟩ := hk.2.2.1
   obtain ⟨v_48, _, l_49, -, rfl⟩ := hk.2.2.2.1
   have hx : Sy.sub L [(14, v_40), (23, v_43), (25, .string p1.name), (26, .int .i64 p2)] := ⟨l_41, l_44, l_47, l_49, ⟨⟩⟩
   replace K := K.addx _ hx
   refine clp K h rfl b227 (fun h => c227 hx_50 q_42 q_45 h) fun a w v G20 K e_20 h hR_51 => wn <| ⟨rfl, G20, [], e_20, h, _, K.dropx _ hx, ⟨rfl, hR_51⟩⟩
 · intro a w G21 L X e_21 h K hs hk
   obtain ⟨v_54, _, l_55, -, hR_56⟩ := hk.1
   obtain ⟨v_57, rfl, q_58⟩ := id hR_56
   have hx : Sy.sub L [(27, .tuple #[v_57, .int .i64 x_50.2])] := ⟨l_55, ⟨⟩⟩
   replace K := K.addx _ hx
   refine mv K rfl fun a K => wn <| ⟨rfl, G21, [], gr, h, _, K.dropx _ hx, ⟨rfl, hR_56⟩⟩
 · intro a w G22 L X e_22 h K hs hk
   obtain ⟨v_59, _, l_60, -, hR_61⟩ := hk.1
   obtain ⟨v_62, rfl, q_63⟩ := id hR_61
   have hx : Sy.sub L [(9, .tuple #[v_62, .int .i64 x_50.2])] := ⟨l_60, ⟨⟩⟩
   replace K := K.addx _ hx
   refine extr K rfl rfl fun a K => wn <| ⟨rfl, G22, [], gr, h, _, K.dropx _ hx, ⟨rfl, q_63⟩⟩
 · intro a w G23 L X e_23 h K hs hk
   obtain ⟨v_64, _, l_65, -, hR_66⟩ := hk.1
   obtain ⟨v_67, rfl, q_68⟩ := id hR_66
   have hx : Sy.sub L [(9, .tuple #[v_67, .int .i64 x_50.2])] := ⟨l_65, ⟨⟩⟩
   replace K := K.addx _ hx
   refine extr K rfl rfl fun a K => wn <| ⟨rfl, G23, [], gr, h, _, K.dropx _ hx, ⟨rfl, rfl⟩⟩
 · intro a w G24 L X e_24 h K hs hk
   obtain ⟨v_69, _, l_70, -, q_71⟩ := hk.1
   have hx : Sy.sub L [(28, v_69)] := ⟨l_70, ⟨⟩⟩
   replace K := K.addx _ hx
   refine asg K rfl fun a K => wn <| ⟨rfl, G24, [], gr, h, _, K.dropx _ hx, ⟨rfl, q_71⟩⟩
 intro a w G25 L e_25 h K hs hg
 obtain ⟨v_73, l_75, -, q_74⟩ := hg 21 rfl rfl
 replace K := K.sub (l' := [(29, _), (7, _), (0, _), (4, _), (6, _)]) ⟨gE (hg 20 rfl rfl), l_75, hs.1, hs.2.2.1, hs.2.2.2.1, ⟨⟩⟩
 refine asg K rfl fun a K => wn <| ws <| sl <| mv K rfl fun a K => binC _ K rfl rfl rfl fun a K => wn <| ifm hm K rfl (fun _ hm => ?_) fun _ hm => ?_
 · refine sl <| asg K rfl fun a K => wn <| wt ?_
   obtain rfl := oi hm
   exact fr f152 K (St.sel [0, 1, 2, 3] rfl h) rfl ⟨rfl, ⟨⟩⟩ ⟨rfl, rfl⟩
 refine wk <| sl <| mv K rfl fun a K => far F210_1 K rfl (Kd.val_mono e_25 q_2) o210_1 fun a v_77 K q_78 => ldr1 (.int .i64 p1.parent) K h rfl q_78 t3 vI fun a K => mv K rfl fun a K => ?_
 obtain ⟨x_79, hx_79, hm⟩ := bs hm
 refine clw (Δ₁ := (o3 B0 q0 q1 q2 n0 n1 n2 p0)) (Δ₂ := _) [3, 3, 3, 3] K h rfl rfl b228 (fun h => c228 hx_79 q_74 h) fun a w v G26 Δx K e_26 h hR_80 => ?_
 obtain ⟨rfl, hR_80⟩ := hR_80
 replace h := St.cast (Δ' := (o3 B0 q0 q1 q2 n0 n1 n2 x_79.1)) h rfl
 obtain rfl := hR_80
 refine asg K rfl fun a K => wn <| wt ?_
 obtain rfl := oi hm
 exact fr f152 K (St.sel [0, 1, 2, 3] rfl h) rfl ⟨rfl, ⟨⟩⟩ ⟨rfl, rfl⟩
abbrev R90 (r : T103 × Int) (v : Value) (H : Gh) : Prop := v = .int .i64 r.2
instance monR90 {r : T103 × Int} : MonR (R90 r) := ⟨fun _ _ _ _ h => h⟩
theorem c90 {p0 : T103} {p1 : T45} {B0 q0 q1 q2 n0 n1 n2 : Nat} {r : T103 × Int} (hm : m90 p0 p1 = some r) {vp1 : Value} (hp1 : (k45.val G0 vp1 p1)) (h : St c G0 w ((o3 B0 q0 q1 q2 n0 n1 n2 p0))) : Calls prog 90 #[(pA B0 Ik103o), vp1] w (FO c (o3 B0 q0 q1 q2 n0 n1 n2 r.1) (R90 r)) := by
 unfold m90 at hm
 refine enter (n := 96) func90 rfl rfl rfl fun a K => sl <| boxr K h rfl hp1 fun a w v_1 G1 K e_1 h q_2 => asg K rfl fun a K => nsl <| far F45_8 K rfl q_2 o45_8 fun a v_3 K q_4 => ?_
 replace q_4 : (kRef (kInt .i64)).val _ v_3 p1.Mode := q_4
 refine ldr1 (.int .i64 p1.Mode) K h rfl q_4 t3 vI fun a K => bld (⟨1, p1.Mode, 0, 0, 1, 0, (List.replicate 2 (0 : Nat)), ByteArray.empty, ([] : (List T108)), ([] : (List T94))⟩ : T84) K h rfl pl84 rfl z84 (.cons F84_0 rfl int_val (.cons F84_1 rfl int_val (.cons F84_4 rfl int_val .nil))) fun a v_5 K q_6 => alc K h z84 fun a w bk_7 K h => sto 0 Ik84 ([(⟨1, p1.Mode, 0, 0, 1, 0, (List.replicate 2 (0 : Nat)), ByteArray.empty, ([] : (List T108)), ([] : (List T94))⟩ : T84)]) K h rfl rfl rfl rfl q_6 t84 rfl rfl fun w h => wn <| joinS (S := Int × Int × Int × Int × ByteArray) (fun s_71 a w => Jn c G1 (⟨k84, [(⟨s_71.1, s_71.2.1, 0, 0, s_71.2.2.1, s_71.2.2.2.1, (List.replicate 2 (0 : Nat)), s_71.2.2.2.2, ([] : (List T108)), ([] : (List T94))⟩ : T84)], 1, (some bk_7), 84⟩ :: o3 B0 q0 q1 q2 n0 n1 n2 p0) 96 [(0, (pA B0 Ik103o)), (3, v_1), (4, .int .i64 0), (5, (pA bk_7 Ik84))] a w) (fun s_71 => m90_j_165 p0 p1 s_71 = some r) (fun s_71 hm a w hJ => ?_) (fun kk_166 => ?_)
 · obtain ⟨G28, e_28, h, K⟩ := hJ
   unfold m90_j_165 at hm
   refine ws <| sl <| fa F84_1 K rfl o84_1 fun a K => ld1 0 J84_1 (.int .i64 s_71.2.1) K h rfl rfl rfl t3 vI fun a K => ?_
   obtain ⟨x_72, hx_72, hm⟩ := bs hm
   refine clp K h rfl b149 (fun h => c149 hx_72 h) fun a w v G29 K e_29 h hR_73 => ?_
   obtain rfl := hR_73
   refine wn <| ifm hm K rfl (fun _ hm => ?_) fun _ hm => ?_
   · refine sl <| asg K rfl fun a K => wn <| wt ?_
     obtain rfl := oi hm
     exact fr f90 K (St.sel [1, 2, 3, 4] rfl h) rfl ⟨rfl, ⟨⟩⟩ ⟨rfl, rfl⟩
   refine wk <| sl <| mv K rfl fun a K => ldr K h rfl (Kd.val_mono (Gh.trans e_28 e_29) q_2) t45 fun a v_75 K q_76 => ?_
   replace q_76 : k45.val _ v_75 p1 := q_76
   refine far F45_3 K rfl (Kd.val_mono (Gh.trans e_28 e_29) q_2) o45_3 fun a v_77 K q_78 => ?_
   replace q_78 : (kRef kStr).val _ v_77 p1.Path_ := q_78
   refine ldr1 (.string p1.Path_) K h rfl q_78 t9 vS fun a K => ?_
   obtain ⟨x_79, hx_79, hm⟩ := bs hm
   refine clr (Δ₁ := (o3 B0 q0 q1 q2 n0 n1 n2 p0)) (Δ₂ := _) [4, 4, 4, 4] K h rfl rfl b150 (fun h => c150 hx_79 q_76 h) fun a w v G30 K e_30 h hR_80 => ?_
   obtain ⟨v_81, rfl, q_82⟩ := hR_80
   refine mv K rfl fun a K => extr K rfl rfl fun a K => extr K rfl rfl fun a K => alc K h z210 fun a w bk_83 K h => sto 0 Ik210 ([x_79.1]) K h rfl rfl rfl rfl q_82 t210 rfl rfl fun w h => asg K rfl fun a K => wn <| ws <| sl <| mv K rfl fun a K => binC _ K rfl rfl rfl fun a K => wn <| ifm hm K rfl (fun _ hm => ?_) fun _ hm => ?_
   · refine sl <| mv K rfl fun a K => asg K rfl fun a K => wn <| wt ?_
     obtain rfl := oi hm
     exact fr f90 K (St.sel [2, 3, 4, 5] rfl h) rfl ⟨rfl, ⟨⟩⟩ ⟨rfl, rfl⟩
   refine wk <| joinS (S := (List T84)) (fun s_115 a w => Jn c G30 [⟨k210, [x_79.1], 1, (some bk_83), 210⟩, ⟨k84, [(⟨s_71.1, s_71.2.1, 0, 0, s_71.2.2.1, s_71.2.2.2.1, (List.replicate 2 (0 : Nat)), s_71.2.2.2.2, ([] : (List T108)), ([] : (List T94))⟩ : T84)], 1, (some bk_7), 84⟩, ⟨k103o, [(⟨(⟨p0.p.Homes, p0.p.Now, p0.p.Salt, p0.p.Users, (hS q0 s_115 n0), (hS q1 p0.p.Dirs n1), (hS q2 p0.p.Blocks n2)⟩ : T37o), p0.fds⟩ : T103o)], 1, (some B0), 103⟩, ⟨k84, s_115, n0, (some q0), 84⟩, ⟨(kSl k87), p0.p.Dirs, n1, (some q1), 85⟩, ⟨(kSl kByte), p0.p.Blocks, n2, (some q2), 43⟩] 96 [(0, (pA B0 Ik103o)), (3, v_1), (4, .int .i64 0), (5, (pA bk_7 Ik84)), (9, (pA bk_83 Ik210)), (10, .int .i64 x_79.2)] a w) (fun s_115 => m90_j_133 p0 p1 s_71 x_79 s_115 = some r) (fun s_115 hm a w hJ => ?_) (fun kk_134 => ?_)
   · obtain ⟨G47, e_47, h, K⟩ := hJ
     unfold m90_j_133 at hm
     refine sl <| mv K rfl fun a K => ldr K h rfl (Kd.val_mono (Gh.trans e_28 (Gh.trans e_29 (Gh.trans e_30 e_47))) q_2) t45 fun a v_116 K q_117 => ?_
     replace q_117 : k45.val _ v_116 p1 := q_117
     refine ld 1 Ik84 K h rfl rfl rfl t84 fun a v_118 K q_119 => ?_
     replace q_119 : k84.val _ v_118 (⟨s_71.1, s_71.2.1, 0, 0, s_71.2.2.1, s_71.2.2.2.1, (List.replicate 2 (0 : Nat)), s_71.2.2.2.2, ([] : (List T108)), ([] : (List T94))⟩ : T84) := q_119
     obtain ⟨x_120, hx_120, hm⟩ := bs hm
     refine clw (Δ₁ := (o3 B0 q0 q1 q2 n0 n1 n2 ({ p0 with p := ({ p0.p with Inodes := s_115 } : T37) } : T103))) (Δ₂ := _) [5, 5, 5, 5] K h rfl rfl b151 (fun h => c151 hx_120 q_117 q_119 h) fun a w v G48 Δx K e_48 h hR_121 => ?_
     obtain ⟨rfl, hR_121⟩ := hR_121
     replace h := St.cast (Δ' := (o3 B0 q0 q1 q2 n0 n1 n2 x_120.1 ++ [⟨k210, [x_79.1], 1, (some bk_83), 210⟩, ⟨k84, [(⟨s_71.1, s_71.2.1, 0, 0, s_71.2.2.1, s_71.2.2.2.1, (List.replicate 2 (0 : Nat)), s_71.2.2.2.2, ([] : (List T108)), ([] : (List T94))⟩ : T84)], 1, (some bk_7), 84⟩])) h rfl
     obtain rfl := hR_121
     refine mv K rfl fun a K => extr K rfl rfl fun a K => extr K rfl rfl fun a K => asg K rfl fun a K => asg K rfl fun a K => wn <| ws <| sl <| mv K rfl fun a K => binC _ K rfl rfl rfl fun a K => wn <| ifm hm K rfl (fun _ hm => ?_) fun _ hm => ?_
     · refine sl <| mv K rfl fun a K => asg K rfl fun a K => wn <| wt ?_
       obtain rfl := oi hm
       exact fr f90 K (St.sel [0, 1, 2, 3] rfl h) rfl ⟨rfl, ⟨⟩⟩ ⟨rfl, rfl⟩
     refine wk <| sl <| mv K rfl fun a K => ld 4 Ik210 K h rfl rfl rfl t210 fun a v_126 K q_127 => ?_
     replace q_127 : k210.val _ v_126 x_79.1 := q_127
     refine mv K rfl fun a K => ?_
     obtain ⟨x_128, hx_128, hm⟩ := bs hm
     refine clw (Δ₁ := (o3 B0 q0 q1 q2 n0 n1 n2 x_120.1)) (Δ₂ := _) [3, 3, 3, 3] K h rfl rfl b152 (fun h => c152 hx_128 q_127 h) fun a w v G49 Δx K e_49 h hR_129 => ?_
     obtain ⟨rfl, hR_129⟩ := hR_129
     replace h := St.cast (Δ' := (o3 B0 q0 q1 q2 n0 n1 n2 x_128.1 ++ [⟨k210, [x_79.1], 1, (some bk_83), 210⟩, ⟨k84, [(⟨s_71.1, s_71.2.1, 0, 0, s_71.2.2.1, s_71.2.2.2.1, (List.replicate 2 (0 : Nat)), s_71.2.2.2.2, ([] : (List T108)), ([] : (List T94))⟩ : T84)], 1, (some bk_7), 84⟩])) h rfl
     obtain rfl := hR_129
     refine asg K rfl fun a K => wn <| wt ?_
     obtain rfl := oi hm
     exact fr f90 K (St.sel [0, 1, 2, 3] rfl h) rfl ⟨rfl, ⟨⟩⟩ ⟨rfl, rfl⟩
   refine sl <| fa F84_0 K rfl o84_0 fun a K => ld1 1 J84_0 (.int .i64 s_71.1) K h rfl rfl rfl t51 vI fun a K => binC _ K rfl rfl rfl fun a K => wn <| ifm hm K rfl (fun _ hm => ?_) fun _ hm => ?_
   · refine ws <| ws <| wh 7 [fE _, fE _, fE _, fE _, fE _, fE _, fE _] [(0, _), (3, _), (4, _), (5, _), (9, _), (10, _)] mx K h (so rfl) ⟨hpX [(0, _)] (fun s _ => ⟨s.1, ⟨⟩⟩) fun _ _ K t => mv K rfl t, hpX [(58, _)] k1 fun _ _ K t => nilck K rfl t, hpX [(59, _)] k1 fun _ _ K t => fa F103_0o K rfl o103_0o t, hpX [(60, _)] k1 fun _ _ K t => fa F37_4o K rfl o37_4o t, hpX [(61, _)] k1 fun _ h K t => ld1 2 (J103_0o.comp F37_4o) (hS q0 p0.p.Inodes n0) K h rfl rfl rfl t33 vX t, hpX [(9, _)] (fun s _ => ⟨s.2.2.2.2.1, ⟨⟩⟩) fun _ _ K t => fa F210_1 K rfl o210_1 t, hpX [(63, _)] k1 fun _ h K t => ld1 0 J210_1 (.int .i64 x_79.1.parent) K h rfl rfl rfl t3 vI t, ⟨⟩⟩ ?_
     intro a w G57 L e_57 h K hs hg
     replace K := K.sub (l' := [(62, _), (64, _), (0, _), (3, _), (4, _), (5, _), (9, _), (10, _)]) ⟨gE (hg 4 rfl rfl), gE (hg 6 rfl rfl), hs.1, hs.2.1, hs.2.2.1, hs.2.2.2.1, hs.2.2.2.2.1, hs.2.2.2.2.2.1, ⟨⟩⟩
     obtain ⟨g_148, hm⟩ := gs hm
     refine ixo K rfl rfl g_148 s33 t84 fun a K => fa F84_4 K rfl o84_4 fun a K => ld1 3 J84_4 (.int .i64 ((gt p0.p.Inodes x_79.1.parent).Links)) K h rfl rfl (gt_some g_148) t3 vI fun a K => binC _ K rfl rfl rfl fun a K => wn <| ifm hm K rfl (fun _ hm => ?_) fun _ hm => ?_
     · refine sl <| asg K rfl fun a K => wn <| wt ?_
       obtain rfl := oi hm
       exact fr f90 K (St.sel [2, 3, 4, 5] rfl h) rfl ⟨rfl, ⟨⟩⟩ ⟨rfl, rfl⟩
     refine wk <| wh 7 [fE _, fE _, fE _, fE _, fE _, fE _, fE _] [(0, _), (3, _), (4, _), (5, _), (9, _), (10, _)] mx K h (so rfl) ⟨hpX [(0, _)] (fun s _ => ⟨s.1, ⟨⟩⟩) fun _ _ K t => mv K rfl t, hpX [(69, _)] k1 fun _ _ K t => nilck K rfl t, hpX [(70, _)] k1 fun _ _ K t => fa F103_0o K rfl o103_0o t, hpX [(71, _)] k1 fun _ _ K t => fa F37_4o K rfl o37_4o t, hpX [(72, _)] k1 fun _ h K t => ld1 2 (J103_0o.comp F37_4o) (hS q0 p0.p.Inodes n0) K h rfl rfl rfl t33 vX t, hpX [(9, _)] (fun s _ => ⟨s.2.2.2.2.1, ⟨⟩⟩) fun _ _ K t => fa F210_1 K rfl o210_1 t, hpX [(74, _)] k1 fun _ h K t => ld1 0 J210_1 (.int .i64 x_79.1.parent) K h rfl rfl rfl t3 vI t, ⟨⟩⟩ ?_
     intro a w G65 L e_65 h K hs hg
     replace K := K.sub (l' := [(73, _), (75, _), (0, _), (3, _), (4, _), (5, _), (9, _), (10, _)]) ⟨gE (hg 4 rfl rfl), gE (hg 6 rfl rfl), hs.1, hs.2.1, hs.2.2.1, hs.2.2.2.1, hs.2.2.2.2.1, hs.2.2.2.2.2.1, ⟨⟩⟩
     obtain ⟨g_162, hm⟩ := gs hm
     refine ixo K rfl rfl g_162 s33 t84 fun a K => fa F84_4 K rfl o84_4 fun a K => ld1 3 J84_4 (.int .i64 ((gt p0.p.Inodes x_79.1.parent).Links)) K h rfl rfl (gt_some g_162) t3 vI fun a K => binI _ K rfl rfl rfl fun a K => ?_
     obtain ⟨g_163, hm⟩ := gs hm
     refine ixo K rfl rfl g_163 s33 t84 fun a K => fa F84_4 K rfl o84_4 fun a K => ?_
     have hl_164 : (st p0.p.Inodes x_79.1.parent ({ (gt p0.p.Inodes x_79.1.parent) with Links := (wr ((gt p0.p.Inodes x_79.1.parent).Links + 1)) } : T84)).length = p0.p.Inodes.length := st_length
     refine sto 3 J84_4 ((st p0.p.Inodes x_79.1.parent ({ (gt p0.p.Inodes x_79.1.parent) with Links := (wr ((gt p0.p.Inodes x_79.1.parent).Links + 1)) } : T84))) K h rfl rfl (gt_some g_163) rfl int_val t3 rfl rfl fun w h => wn <| kk_134 (st p0.p.Inodes x_79.1.parent ({ (gt p0.p.Inodes x_79.1.parent) with Links := (wr ((gt p0.p.Inodes x_79.1.parent).Links + 1)) } : T84)) hm _ _ ⟨G65, (Gh.trans e_57 e_65), (St.cast (St.sel [0, 1, 2, 3, 4, 5] rfl h) (show ([⟨k210, [x_79.1], 1, (some bk_83), 210⟩, ⟨k84, [(⟨s_71.1, s_71.2.1, 0, 0, s_71.2.2.1, s_71.2.2.2.1, (List.replicate 2 (0 : Nat)), s_71.2.2.2.2, ([] : (List T108)), ([] : (List T94))⟩ : T84)], 1, (some bk_7), 84⟩, ⟨k103o, [(⟨(⟨p0.p.Homes, p0.p.Now, p0.p.Salt, p0.p.Users, (hS q0 p0.p.Inodes n0), (hS q1 p0.p.Dirs n1), (hS q2 p0.p.Blocks n2)⟩ : T37o), p0.fds⟩ : T103o)], 1, (some B0), 103⟩, ⟨k84, (st p0.p.Inodes x_79.1.parent ({ (gt p0.p.Inodes x_79.1.parent) with Links := (wr ((gt p0.p.Inodes x_79.1.parent).Links + 1)) } : T84)), n0, (some q0), 84⟩, ⟨(kSl k87), p0.p.Dirs, n1, (some q1), 85⟩, ⟨(kSl kByte), p0.p.Blocks, n2, (some q2), 43⟩] : List Own) = [⟨k210, [x_79.1], 1, (some bk_83), 210⟩, ⟨k84, [(⟨s_71.1, s_71.2.1, 0, 0, s_71.2.2.1, s_71.2.2.2.1, (List.replicate 2 (0 : Nat)), s_71.2.2.2.2, ([] : (List T108)), ([] : (List T94))⟩ : T84)], 1, (some bk_7), 84⟩, ⟨k103o, [(⟨(⟨p0.p.Homes, p0.p.Now, p0.p.Salt, p0.p.Users, (hdr (some q0) (st p0.p.Inodes x_79.1.parent ({ (gt p0.p.Inodes x_79.1.parent) with Links := (wr ((gt p0.p.Inodes x_79.1.parent).Links + 1)) } : T84)).length n0), (hS q1 p0.p.Dirs n1), (hS q2 p0.p.Blocks n2)⟩ : T37o), p0.fds⟩ : T103o)], 1, (some B0), 103⟩, ⟨k84, (st p0.p.Inodes x_79.1.parent ({ (gt p0.p.Inodes x_79.1.parent) with Links := (wr ((gt p0.p.Inodes x_79.1.parent).Links + 1)) } : T84)), n0, (some q0), 84⟩, ⟨(kSl k87), p0.p.Dirs, n1, (some q1), 85⟩, ⟨(kSl kByte), p0.p.Blocks, n2, (some q2), 43⟩] by rw [hl_164])), (K.sub (so rfl))⟩
   refine wk <| kk_134 p0.p.Inodes hm _ _ ⟨G30, gr, (St.sel [0, 1, 2, 3, 4, 5] rfl h), (K.sub (so rfl))⟩
 refine sl <| far F45_0 K rfl q_2 o45_0 fun a v_167 K q_168 => ?_
 replace q_168 : (kRef (kInt .i64)).val _ v_167 p1.Kind := q_168
 refine ldr1 (.int .i64 p1.Kind) K h rfl q_168 t30 vI fun a K => wn <| wb <| sl <| binC _ K rfl rfl rfl fun a K => asg K rfl fun a K => wn <| ifm hm K rfl (fun _ hm => ?_) fun _ hm => ?_
 · refine wl <| fa F84_0 K rfl o84_0 fun a K => sto 0 J84_0 ([(⟨2, p1.Mode, 0, 0, 1, 0, (List.replicate 2 (0 : Nat)), ByteArray.empty, ([] : (List T108)), ([] : (List T94))⟩ : T84)]) K h rfl rfl rfl rfl int_val t51 rfl rfl fun w h => fa F84_4 K rfl o84_4 fun a K => sto 0 J84_4 ([(⟨2, p1.Mode, 0, 0, 2, 0, (List.replicate 2 (0 : Nat)), ByteArray.empty, ([] : (List T108)), ([] : (List T94))⟩ : T84)]) K h rfl rfl rfl rfl int_val t3 rfl rfl fun w h => wn <| kk_166 (2, p1.Mode, 2, 0, ByteArray.empty) hm _ _ ⟨G1, gr, (St.sel [0, 1, 2, 3, 4] rfl h), (K.sub (so rfl))⟩
 refine sl <| binC _ K rfl rfl rfl fun a K => asg K rfl fun a K => wn <| ifm hm K rfl (fun _ hm => ?_) fun _ hm => ?_
 · refine ws <| sl <| far F45_4 K rfl q_2 o45_4 fun a v_171 K q_172 => ?_
   replace q_172 : (kRef kStr).val _ v_171 p1.Other := q_172
   refine ldr1 (.string p1.Other) K h rfl q_172 t9 vS fun a K => ?_
   obtain ⟨x_173, hx_173, hm⟩ := bs hm
   refine clp K h rfl b116 (fun h => c116 hx_173 h) fun a w v G66 K e_66 h hR_174 => ?_
   obtain ⟨v_175, rfl, q_176⟩ := hR_174
   refine mv K rfl fun a K => extr K rfl rfl fun a K => extr K rfl rfl fun a K => extr K rfl rfl fun a K => asg K rfl fun a K => asg K rfl fun a K => asg K rfl fun a K => nsl <| mv K rfl fun a K => binC _ K rfl rfl rfl fun a K => wn <| ifm hm K rfl (fun _ hm => ?_) fun _ hm => ?_
   · refine sl <| asg K rfl fun a K => wn <| wt ?_
     obtain rfl := oi hm
     exact fr f90 K (St.sel [1, 2, 3, 4] rfl h) rfl ⟨rfl, ⟨⟩⟩ ⟨rfl, rfl⟩
   refine wk ?_
   refine wp_hop (Δs := [(⟨k84, [(⟨1, p1.Mode, 0, 0, 1, 0, (List.replicate 2 (0 : Nat)), ByteArray.empty, ([] : (List T108)), ([] : (List T94))⟩ : T84)], 1, (some bk_7), 84⟩ :: o3 B0 q0 q1 q2 n0 n1 n2 p0), (⟨k84, [(⟨3, p1.Mode, 0, 0, 1, 0, (List.replicate 2 (0 : Nat)), ByteArray.empty, ([] : (List T108)), ([] : (List T94))⟩ : T84)], 1, (some bk_7), 84⟩ :: o3 B0 q0 q1 q2 n0 n1 n2 p0), (⟨k84, [(⟨3, 511, 0, 0, 1, 0, (List.replicate 2 (0 : Nat)), ByteArray.empty, ([] : (List T108)), ([] : (List T94))⟩ : T84)], 1, (some bk_7), 84⟩ :: o3 B0 q0 q1 q2 n0 n1 n2 p0), (⟨k84, [(⟨3, 511, 0, 0, 1, 0, (List.replicate 2 (0 : Nat)), p1.Other, ([] : (List T108)), ([] : (List T94))⟩ : T84)], 1, (some bk_7), 84⟩ :: o3 B0 q0 q1 q2 n0 n1 n2 p0)]) 11 [(fT (kRef kStr) p1.Other), (fE (.string p1.Other)), (fT (kRef kStr) p1.Other), (fE (.string p1.Other)), (fE (.int .i64 (p1.Other.size : Int))), (fE (pA bk_7 J84_0)), f0, (fE (pA bk_7 J84_1)), f0, (fE (pA bk_7 J84_7)), f0] [(0, (pA B0 Ik103o)), (3, v_1), (4, .int .i64 0), (5, (pA bk_7 Ik84))] [6, 8, 10] [[0, 1, 2], [0, 1, 2], [0, 1, 2, 3], [0, 1, 2, 3], [0, 1, 2, 3], [0], [0], [1], [1], [2], [2]] [0, 1, 0, 4, 12, 0, 32, 96, 224, 483, 995, 2047, 4095] mx (by kernel_rfl) (by kernel_rfl) (by kernel_rfl) (by kernel_rfl) rfl rfl ⟨monT, monE, monT, monE, monE, monE, mon0, monE, mon0, monE, mon0, ⟨⟩⟩ K h rfl rfl ⟨rfl, rfl, rfl, rfl, ⟨⟩⟩ ⟨(stg2 rfl rfl ?_ (stg2 rfl rfl ?_ (stg1 rfl rfl ?_))), (stg2 rfl rfl ?_ (stg2 rfl rfl ?_ (stg1 rfl rfl ?_))), (stg2 rfl rfl ?_ (stg2 rfl rfl ?_ (stg2 rfl rfl ?_ (stg1 rfl rfl ?_)))), (stg2 rfl rfl ?_ (stg2 rfl rfl ?_ (stg2 rfl rfl ?_ (stg1 rfl rfl ?_)))), (stg2 rfl rfl ?_ (stg2 rfl rfl ?_ (stg2 rfl rfl ?_ (stg1 rfl rfl ?_)))), (stg1 rfl rfl ?_), (stg1 rfl rfl ?_), (stg1 rfl rfl ?_), (stg1 rfl rfl ?_), (stg1 rfl rfl ?_), (stg1 rfl rfl ?_), ⟨⟩⟩ rfl ?_
   · exact hpT [(3, _)] (fun s _ => ⟨s.2.1, ⟨⟩⟩) fun e _ K t => far F45_4 K rfl (Kd.val_mono (Gh.trans e_66 e) q_2) o45_4 t
   · exact hpT [(3, _)] (fun s _ => ⟨s.2.1, ⟨⟩⟩) fun e _ K t => far F45_4 K rfl (Kd.val_mono (Gh.trans e_66 e) q_2) o45_4 t
   · exact hpT [(3, _)] (fun s _ => ⟨s.2.1, ⟨⟩⟩) fun e _ K t => far F45_4 K rfl (Kd.val_mono (Gh.trans e_66 e) q_2) o45_4 t
   · exact hpQ (t := 32) (fun k => k.1) fun _ h K q t => ldr1 (.string p1.Other) K h rfl q t9 vS t
   · exact hpQ (t := 32) (fun k => k.1) fun _ h K q t => ldr1 (.string p1.Other) K h rfl q t9 vS t
   · exact hpQ (t := 32) (fun k => k.1) fun _ h K q t => ldr1 (.string p1.Other) K h rfl q t9 vS t
   · exact hpT [(3, _)] (fun s _ => ⟨s.2.1, ⟨⟩⟩) fun e _ K t => far F45_4 K rfl (Kd.val_mono (Gh.trans e_66 e) q_2) o45_4 t
   · exact hpT [(3, _)] (fun s _ => ⟨s.2.1, ⟨⟩⟩) fun e _ K t => far F45_4 K rfl (Kd.val_mono (Gh.trans e_66 e) q_2) o45_4 t
   · exact hpT [(3, _)] (fun s _ => ⟨s.2.1, ⟨⟩⟩) fun e _ K t => far F45_4 K rfl (Kd.val_mono (Gh.trans e_66 e) q_2) o45_4 t
   · exact hpT [(3, _)] (fun s _ => ⟨s.2.1, ⟨⟩⟩) fun e _ K t => far F45_4 K rfl (Kd.val_mono (Gh.trans e_66 e) q_2) o45_4 t
   · exact hpQ (t := 34) (fun k => k.1) fun _ h K q t => ldr1 (.string p1.Other) K h rfl q t9 vS t
   · exact hpQ (t := 34) (fun k => k.1) fun _ h K q t => ldr1 (.string p1.Other) K h rfl q t9 vS t
   · exact hpQ (t := 34) (fun k => k.1) fun _ h K q t => ldr1 (.string p1.Other) K h rfl q t9 vS t
   · exact hpQ (t := 34) (fun k => k.1) fun _ h K q t => ldr1 (.string p1.Other) K h rfl q t9 vS t
   · exact hpX [(35, _)] k1 fun _ _ K t => lenS K rfl rfl u9 t
   · exact hpX [(35, _)] k1 fun _ _ K t => lenS K rfl rfl u9 t
   · exact hpX [(35, _)] k1 fun _ _ K t => lenS K rfl rfl u9 t
   · exact hpX [(35, _)] k1 fun _ _ K t => lenS K rfl rfl u9 t
   · exact hpX [(5, _)] (fun s _ => ⟨s.2.2.2.1, ⟨⟩⟩) fun _ _ K t => fa F84_0 K rfl o84_0 t
   · intro a w G73 L X e_73 h K hs hk
     obtain ⟨v_190, _, l_191, -, rfl⟩ := hk.1
     have hx : Sy.sub L [(37, _)] := ⟨l_191, ⟨⟩⟩
     replace K := K.addx _ hx
     refine sto 0 J84_0 ([(⟨3, p1.Mode, 0, 0, 1, 0, (List.replicate 2 (0 : Nat)), ByteArray.empty, ([] : (List T108)), ([] : (List T94))⟩ : T84)]) K h rfl rfl rfl rfl int_val t51 rfl rfl fun w h => wn <| ⟨rfl, G73, [], gr, h, K.dropy _ hx, rfl⟩
   · exact hpX [(5, _)] (fun s _ => ⟨s.2.2.2.1, ⟨⟩⟩) fun _ _ K t => fa F84_1 K rfl o84_1 t
   · intro a w G75 L X e_75 h K hs hk
     obtain ⟨v_192, _, l_193, -, rfl⟩ := hk.1
     have hx : Sy.sub L [(38, _)] := ⟨l_193, ⟨⟩⟩
     replace K := K.addx _ hx
     refine sto 0 J84_1 ([(⟨3, 511, 0, 0, 1, 0, (List.replicate 2 (0 : Nat)), ByteArray.empty, ([] : (List T108)), ([] : (List T94))⟩ : T84)]) K h rfl rfl rfl rfl int_val t3 rfl rfl fun w h => wn <| ⟨rfl, G75, [], gr, h, K.dropy _ hx, rfl⟩
   · exact hpX [(5, _)] (fun s _ => ⟨s.2.2.2.1, ⟨⟩⟩) fun _ _ K t => fa F84_7 K rfl o84_7 t
   · intro a w G77 L X e_77 h K hs hk
     obtain ⟨v_194, _, l_195, -, rfl⟩ := hk.2.1
     obtain ⟨v_196, _, l_197, -, rfl⟩ := hk.1
     have hx : Sy.sub L [(33, _), (39, _)] := ⟨l_195, l_197, ⟨⟩⟩
     replace K := K.addx _ hx
     refine sto 0 J84_7 ([(⟨3, 511, 0, 0, 1, 0, (List.replicate 2 (0 : Nat)), p1.Other, ([] : (List T108)), ([] : (List T94))⟩ : T84)]) K h rfl rfl rfl rfl str_val t9 rfl rfl fun w h => wn <| ⟨rfl, G77, [], gr, h, K.dropy _ hx, rfl⟩
   intro a w G91 L X e_91 h K hs hg
   obtain ⟨_, _, _, rfl, -, ⟨rfl, -⟩, hg⟩ := hg
   obtain ⟨_, _, _, rfl, -, ⟨rfl, -⟩, hg⟩ := hg
   obtain ⟨_, _, _, rfl, -, ⟨rfl, -⟩, hg⟩ := hg
   obtain ⟨_, _, _, rfl, -, ⟨rfl, -⟩, hg⟩ := hg
   obtain ⟨_, _, _, rfl, l_229, ⟨rfl, rfl⟩, hg⟩ := hg
   obtain ⟨_, _, _, rfl, -, ⟨rfl, -⟩, hg⟩ := hg
   obtain ⟨_, _, _, rfl, -, ⟨rfl, -⟩, hg⟩ := hg
   obtain ⟨_, _, _, rfl, -, ⟨rfl, -⟩, hg⟩ := hg
   obtain rfl := hg
   replace h := St.cast (Δ' := (⟨k84, [(⟨3, 511, 0, 0, 1, 0, (List.replicate 2 (0 : Nat)), p1.Other, ([] : (List T108)), ([] : (List T94))⟩ : T84)], 1, (some bk_7), 84⟩ :: o3 B0 q0 q1 q2 n0 n1 n2 p0)) h rfl
   replace K := K.sub (l' := [(36, _), (0, _), (3, _), (4, _), (5, _)]) ⟨l_229, hs.1, hs.2.1, hs.2.2.1, hs.2.2.2.1, ⟨⟩⟩
   refine fa F84_5 K rfl o84_5 fun a K => sto 0 J84_5 ([(⟨3, 511, 0, 0, 1, (p1.Other.size : Int), (List.replicate 2 (0 : Nat)), p1.Other, ([] : (List T108)), ([] : (List T94))⟩ : T84)]) K h rfl rfl rfl rfl int_val t3 rfl rfl fun w h => wn <| kk_166 (3, 511, 1, (p1.Other.size : Int), p1.Other) hm _ _ ⟨G91, (Gh.trans e_66 e_91), (St.sel [0, 1, 2, 3, 4] rfl h), (K.sub (so rfl))⟩
 refine wk <| kk_166 (1, p1.Mode, 1, 0, ByteArray.empty) hm _ _ ⟨G1, gr, (St.sel [0, 1, 2, 3, 4] rfl h), (K.sub (so rfl))⟩
abbrev R89 (r : T58) (v : Value) (H : Gh) : Prop := k58.val H v r
instance monR89 {r : T58} : MonR (R89 r) := ⟨fun _ _ _ e h => Kd.val_mono e h⟩
theorem c89 {p0 : Int} {r : T58} (hm : m89 p0 = some r) (h : St c G0 w []) : Calls prog 89 #[.int .i64 p0] w (FO c [] (R89 r)) := by
 unfold m89 at hm
 refine enter (n := 5) func89 rfl rfl rfl fun a K => sl <| alc K h z58 fun a w bk_1 K h => nsl <| mv K rfl fun a K => bld (⟨p0, 0, ([] : (List UInt8)), ([] : (List ByteArray)), (⟨0, 0, 0, 0, 0, 0, 0, 0, (List.replicate 2 (0 : Nat))⟩ : T54), Z56⟩ : T58) K h rfl pl58 rfl z58 (.cons F58_0 rfl int_val .nil) fun a v_2 K q_3 => sto 0 Ik58 ([(⟨p0, 0, ([] : (List UInt8)), ([] : (List ByteArray)), (⟨0, 0, 0, 0, 0, 0, 0, 0, (List.replicate 2 (0 : Nat))⟩ : T54), Z56⟩ : T58)]) K h rfl rfl rfl rfl q_3 t58 rfl rfl fun w h => wn <| wt ?_
 obtain ⟨v_4, q_5, rb_6⟩ := resOwn (P := prog) (i := 0) (p := 2) 0 Ik58 h rfl (K.lk_eq 2 rfl) rfl t58
 obtain rfl := oi hm
 exact fr f89 K (St.sel [] rfl h) rfl ⟨rb_6, ⟨⟩⟩ ⟨rfl, q_5⟩
abbrev R153 (r : T210 × Int) (v : Value) (H : Gh) : Prop := ∃ u0, v = .tuple #[u0, .int .i64 r.2] ∧ k210.val H u0 r.1
instance monR153 {r : T210 × Int} : MonR (R153 r) := by
 constructor
 rintro G H v e ⟨u0, rfl, q0⟩
 exact ⟨u0, rfl, Kd.val_mono e q0⟩
theorem c153 {p0 : T103} {p1 : T45} {p2 : ByteArray} {p3 : Bool} {B0 q0 q1 q2 n0 n1 n2 : Nat} {r : T210 × Int} (hm : m153 p0 p1 p2 p3 = some r) {vp1 : Value} (hp1 : (k45.val G0 vp1 p1)) (h : St c G0 w ((o3 B0 q0 q1 q2 n0 n1 n2 p0))) : Calls prog 153 #[(pA B0 Ik103o), vp1, .string p2, .bool p3] w (FO c (o3 B0 q0 q1 q2 n0 n1 n2 p0) (R153 r)) := by
 unfold m153 at hm
 refine enter (n := 29) func153 rfl rfl rfl fun a K => sl <| boxr K h rfl hp1 fun a w v_1 G1 K e_1 h q_2 => alc K h z210 fun a w bk_3 K h => asg K rfl fun a K => nsl <| mv K rfl fun a K => ldr K h rfl q_2 t45 fun a v_4 K q_5 => mv K rfl fun a K => mv K rfl fun a K => ?_
 obtain ⟨x_6, hx_6, hm⟩ := bs hm
 refine clr (Δ₁ := (o3 B0 q0 q1 q2 n0 n1 n2 p0)) (Δ₂ := _) [4, 4, 4, 4] K h rfl rfl b159 (fun h => c159 hx_6 q_5 h) fun a w v G2 K e_2 h hR_7 => ?_
 obtain ⟨v_8, rfl, q_9⟩ := hR_7
 refine mv K rfl fun a K => extr K rfl rfl fun a K => extr K rfl rfl fun a K => alc K h z210 fun a w bk_10 K h => sto 0 Ik210 ([x_6.1]) K h rfl rfl rfl rfl q_9 t210 rfl rfl fun w h => asg K rfl fun a K => wn <| ws <| sl <| mv K rfl fun a K => binC _ K rfl rfl rfl fun a K => mv K rfl fun a K => ?_
 rcases im hm with ⟨c_11, hm⟩ | ⟨c_11, hm⟩
 · refine g2 K c_11 <| fa F210_0 K rfl o210_0 fun a K => g2 K c_11 <| ld1 0 J210_0 (.int .i64 x_6.1.inode) K h rfl rfl rfl t3 vI fun a K => g2 K c_11 <| binC _ K rfl rfl rfl fun a K => pkT K rfl c_11 rfl fun a K => wn <| ifm hm K rfl (fun _ hm => ?_) fun _ hm => ?_
   · refine wl <| asg K rfl fun a K => wn <| sl <| ld 0 Ik210 K h rfl rfl rfl t210 fun a v_13 K q_14 => mv K rfl fun a K => sto 1 Ik210 ([x_6.1]) K h rfl rfl rfl rfl q_14 t210 rfl rfl fun w h => asg K rfl fun a K => wn <| wt ?_
     obtain ⟨v_15, q_16, rb_17⟩ := resOwn (P := prog) (i := 0) (p := 8) 1 Ik210 h rfl (K.lk_eq 8 rfl) rfl t210
     obtain rfl := oi hm
     exact fi f153 [_, _] K (St.sel [2, 3, 4, 5] rfl h) rfl ⟨rb_17, rfl, ⟨⟩⟩ (.inl rfl) ⟨rfl, ⟨v_15, rfl, q_16⟩⟩
   refine wk <| sl <| ld 0 Ik210 K h rfl rfl rfl t210 fun a v_18 K q_19 => mv K rfl fun a K => sto 1 Ik210 ([x_6.1]) K h rfl rfl rfl rfl q_19 t210 rfl rfl fun w h => asg K rfl fun a K => wn <| wt ?_
   obtain ⟨v_20, q_21, rb_22⟩ := resOwn (P := prog) (i := 0) (p := 8) 1 Ik210 h rfl (K.lk_eq 8 rfl) rfl t210
   obtain rfl := oi hm
   exact fi f153 [_, _] K (St.sel [2, 3, 4, 5] rfl h) rfl ⟨rb_22, rfl, ⟨⟩⟩ (.inl rfl) ⟨rfl, ⟨v_20, rfl, q_21⟩⟩
 refine g1 K c_11 fun a K => g1 K c_11 fun a K => g1 K c_11 fun a K => pkF K rfl c_11 rfl fun a K => wn <| ifF K rfl rfl <| wk <| sl <| ld 0 Ik210 K h rfl rfl rfl t210 fun a v_23 K q_24 => mv K rfl fun a K => sto 1 Ik210 ([x_6.1]) K h rfl rfl rfl rfl q_24 t210 rfl rfl fun w h => asg K rfl fun a K => wn <| wt ?_
 obtain ⟨v_25, q_26, rb_27⟩ := resOwn (P := prog) (i := 0) (p := 8) 1 Ik210 h rfl (K.lk_eq 8 rfl) rfl t210
 obtain rfl := oi hm
 exact fi f153 [_, _] K (St.sel [2, 3, 4, 5] rfl h) rfl ⟨rb_27, rfl, ⟨⟩⟩ (.inl rfl) ⟨rfl, ⟨v_25, rfl, q_26⟩⟩
abbrev R91 (r : Int) (v : Value) (H : Gh) : Prop := v = .int .i64 r
instance monR91 {r : Int} : MonR (R91 r) := ⟨fun _ _ _ _ h => h⟩
theorem c91 {p0 : T103} {p1 : T45} {B0 q0 q1 q2 n0 n1 n2 : Nat} {r : Int} (hm : m91 p0 p1 = some r) {vp1 : Value} (hp1 : (k45.val G0 vp1 p1)) (h : St c G0 w ((o3 B0 q0 q1 q2 n0 n1 n2 p0))) : Calls prog 91 #[(pA B0 Ik103o), vp1] w (FO c (o3 B0 q0 q1 q2 n0 n1 n2 p0) (R91 r)) := by
 unfold m91 at hm
 refine enter (n := 78) func91 rfl rfl rfl fun a K => sl <| boxr K h rfl hp1 fun a w v_1 G1 K e_1 h q_2 => asg K rfl fun a K => nsl <| mv K rfl fun a K => ldr K h rfl q_2 t45 fun a v_3 K q_4 => far F45_3 K rfl q_2 o45_3 fun a v_5 K q_6 => ldr1 (.string p1.Path_) K h rfl q_6 t9 vS fun a K => ?_
 obtain ⟨x_7, hx_7, hm⟩ := bs hm
 refine clr (Δ₁ := (o3 B0 q0 q1 q2 n0 n1 n2 p0)) (Δ₂ := _) [3, 3, 3, 3] K h rfl rfl b153 (fun h => c153 hx_7 q_4 h) fun a w v G2 K e_2 h hR_8 => ?_
 obtain ⟨v_9, rfl, q_10⟩ := hR_8
 refine mv K rfl fun a K => extr K rfl rfl fun a K => extr K rfl rfl fun a K => alc K h z210 fun a w bk_11 K h => sto 0 Ik210 ([x_7.1]) K h rfl rfl rfl rfl q_10 t210 rfl rfl fun w h => asg K rfl fun a K => wn <| ws <| wb <| sl <| mv K rfl fun a K => binC _ K rfl rfl rfl fun a K => asg K rfl fun a K => wn <| ifm hm K rfl (fun _ hm => ?_) fun _ hm => ?_
 · refine sl <| mv K rfl fun a K => asg K rfl fun a K => wn <| wt ?_
   obtain rfl := oi hm
   exact fr f91 K (St.sel [1, 2, 3, 4] rfl h) rfl ⟨rfl, ⟨⟩⟩ ⟨rfl, rfl⟩
 refine ws <| wh 7 [fE _, fE _, fE _, fE _, fE _, fE _, fE _] [(0, _), (3, _), (4, _), (5, _), (6, _)] mx K h (so rfl) ⟨hpX [(0, _)] (fun s _ => ⟨s.1, ⟨⟩⟩) fun _ _ K t => mv K rfl t, hpX [(21, _)] k1 fun _ _ K t => nilck K rfl t, hpX [(22, _)] k1 fun _ _ K t => fa F103_0o K rfl o103_0o t, hpX [(23, _)] k1 fun _ _ K t => fa F37_4o K rfl o37_4o t, hpX [(24, _)] k1 fun _ h K t => ld1 1 (J103_0o.comp F37_4o) (hS q0 p0.p.Inodes n0) K h rfl rfl rfl t33 vX t, hpX [(5, _)] (fun s _ => ⟨s.2.2.2.1, ⟨⟩⟩) fun _ _ K t => fa F210_0 K rfl o210_0 t, hpX [(26, _)] k1 fun _ h K t => ld1 0 J210_0 (.int .i64 x_7.1.inode) K h rfl rfl rfl t3 vI t, ⟨⟩⟩ ?_
 intro a w G10 L e_10 h K hs hg
 replace K := K.sub (l' := [(25, _), (27, _), (0, _), (3, _), (4, _), (5, _), (6, _)]) ⟨gE (hg 4 rfl rfl), gE (hg 6 rfl rfl), hs.1, hs.2.1, hs.2.2.1, hs.2.2.2.1, hs.2.2.2.2.1, ⟨⟩⟩
 obtain ⟨g_25, hm⟩ := gs hm
 refine ixo K rfl rfl g_25 s33 t84 fun a K => fa F84_0 K rfl o84_0 fun a K => ld1 2 J84_0 (.int .i64 ((gt p0.p.Inodes x_7.1.inode).Kind)) K h rfl rfl (gt_some g_25) t51 vI fun a K => binC _ K rfl rfl rfl fun a K => asg K rfl fun a K => wn <| ifm hm K rfl (fun _ hm => ?_) fun _ hm => ?_
 · refine sl <| asg K rfl fun a K => wn <| wt ?_
   obtain rfl := oi hm
   exact fr f91 K (St.sel [1, 2, 3, 4] rfl h) rfl ⟨rfl, ⟨⟩⟩ ⟨rfl, rfl⟩
 refine wk <| sl <| mv K rfl fun a K => ldr K h rfl (Kd.val_mono (Gh.trans e_2 e_10) q_2) t45 fun a v_27 K q_28 => far F45_4 K rfl (Kd.val_mono (Gh.trans e_2 e_10) q_2) o45_4 fun a v_29 K q_30 => ldr1 (.string p1.Other) K h rfl q_30 t9 vS fun a K => ?_
 cases hm
abbrev R92 (r : Int) (v : Value) (H : Gh) : Prop := v = .int .i64 r
instance monR92 {r : Int} : MonR (R92 r) := ⟨fun _ _ _ _ h => h⟩
theorem c92 {p0 : T103} {p1 : T45} {B0 q0 q1 q2 n0 n1 n2 : Nat} {r : Int} (hm : m92 p0 p1 = some r) {vp1 : Value} (hp1 : (k45.val G0 vp1 p1)) (h : St c G0 w ((o3 B0 q0 q1 q2 n0 n1 n2 p0))) : Calls prog 92 #[(pA B0 Ik103o), vp1] w (FO c (o3 B0 q0 q1 q2 n0 n1 n2 p0) (R92 r)) := by
 unfold m92 at hm
 refine enter (n := 45) func92 rfl rfl rfl fun a K => sl <| boxr K h rfl hp1 fun a w v_1 G1 K e_1 h q_2 => asg K rfl fun a K => nsl <| mv K rfl fun a K => ldr K h rfl q_2 t45 fun a v_3 K q_4 => far F45_3 K rfl q_2 o45_3 fun a v_5 K q_6 => ldr1 (.string p1.Path_) K h rfl q_6 t9 vS fun a K => ?_
 obtain ⟨x_7, hx_7, hm⟩ := bs hm
 refine clr (Δ₁ := (o3 B0 q0 q1 q2 n0 n1 n2 p0)) (Δ₂ := _) [3, 3, 3, 3] K h rfl rfl b153 (fun h => c153 hx_7 q_4 h) fun a w v G2 K e_2 h hR_8 => ?_
 obtain ⟨v_9, rfl, q_10⟩ := hR_8
 refine mv K rfl fun a K => extr K rfl rfl fun a K => extr K rfl rfl fun a K => alc K h z210 fun a w bk_11 K h => sto 0 Ik210 ([x_7.1]) K h rfl rfl rfl rfl q_10 t210 rfl rfl fun w h => asg K rfl fun a K => wn <| ws <| wb <| sl <| mv K rfl fun a K => binC _ K rfl rfl rfl fun a K => asg K rfl fun a K => wn <| ifm hm K rfl (fun _ hm => ?_) fun _ hm => ?_
 · refine sl <| mv K rfl fun a K => asg K rfl fun a K => wn <| wt ?_
   obtain rfl := oi hm
   exact fr f92 K (St.sel [1, 2, 3, 4] rfl h) rfl ⟨rfl, ⟨⟩⟩ ⟨rfl, rfl⟩
 refine ws <| wh 7 [fE _, fE _, fE _, fE _, fE _, fE _, fE _] [(0, _), (3, _), (4, _), (5, _)] mx K h (so rfl) ⟨hpX [(0, _)] (fun s _ => ⟨s.1, ⟨⟩⟩) fun _ _ K t => mv K rfl t, hpX [(20, _)] k1 fun _ _ K t => nilck K rfl t, hpX [(21, _)] k1 fun _ _ K t => fa F103_0o K rfl o103_0o t, hpX [(22, _)] k1 fun _ _ K t => fa F37_4o K rfl o37_4o t, hpX [(23, _)] k1 fun _ h K t => ld1 1 (J103_0o.comp F37_4o) (hS q0 p0.p.Inodes n0) K h rfl rfl rfl t33 vX t, hpX [(5, _)] (fun s _ => ⟨s.2.2.2.1, ⟨⟩⟩) fun _ _ K t => fa F210_0 K rfl o210_0 t, hpX [(25, _)] k1 fun _ h K t => ld1 0 J210_0 (.int .i64 x_7.1.inode) K h rfl rfl rfl t3 vI t, ⟨⟩⟩ ?_
 intro a w G10 L e_10 h K hs hg
 replace K := K.sub (l' := [(24, _), (26, _), (0, _), (3, _), (4, _), (5, _)]) ⟨gE (hg 4 rfl rfl), gE (hg 6 rfl rfl), hs.1, hs.2.1, hs.2.2.1, hs.2.2.2.1, ⟨⟩⟩
 obtain ⟨g_25, hm⟩ := gs hm
 refine ixo K rfl rfl g_25 s33 t84 fun a K => fa F84_0 K rfl o84_0 fun a K => ld1 2 J84_0 (.int .i64 ((gt p0.p.Inodes x_7.1.inode).Kind)) K h rfl rfl (gt_some g_25) t51 vI fun a K => binC _ K rfl rfl rfl fun a K => asg K rfl fun a K => wn <| ifm hm K rfl (fun _ hm => ?_) fun _ hm => ?_
 · refine sl <| asg K rfl fun a K => wn <| wt ?_
   obtain rfl := oi hm
   exact fr f92 K (St.sel [1, 2, 3, 4] rfl h) rfl ⟨rfl, ⟨⟩⟩ ⟨rfl, rfl⟩
 refine sl <| mv K rfl fun a K => ldr K h rfl (Kd.val_mono (Gh.trans e_2 e_10) q_2) t45 fun a v_27 K q_28 => fa F210_1 K rfl o210_1 fun a K => ld1 0 J210_1 (.int .i64 x_7.1.parent) K h rfl rfl rfl t3 vI fun a K => ?_
 cases hm
abbrev R93 (r : Int) (v : Value) (H : Gh) : Prop := v = .int .i64 r
instance monR93 {r : Int} : MonR (R93 r) := ⟨fun _ _ _ _ h => h⟩
theorem c93 {p0 : T103} {p1 : T45} {B0 q0 q1 q2 n0 n1 n2 : Nat} {r : Int} (hm : m93 p0 p1 = some r) {vp1 : Value} (hp1 : (k45.val G0 vp1 p1)) (h : St c G0 w ((o3 B0 q0 q1 q2 n0 n1 n2 p0))) : Calls prog 93 #[(pA B0 Ik103o), vp1] w (FO c (o3 B0 q0 q1 q2 n0 n1 n2 p0) (R93 r)) := by
 unfold m93 at hm
 refine enter (n := 63) func93 rfl rfl rfl fun a K => sl <| boxr K h rfl hp1 fun a w v_1 G1 K e_1 h q_2 => asg K rfl fun a K => nsl <| mv K rfl fun a K => ldr K h rfl q_2 t45 fun a v_3 K q_4 => far F45_3 K rfl q_2 o45_3 fun a v_5 K q_6 => ldr1 (.string p1.Path_) K h rfl q_6 t9 vS fun a K => ?_
 obtain ⟨x_7, hx_7, hm⟩ := bs hm
 refine clr (Δ₁ := (o3 B0 q0 q1 q2 n0 n1 n2 p0)) (Δ₂ := _) [3, 3, 3, 3] K h rfl rfl b153 (fun h => c153 hx_7 q_4 h) fun a w v G2 K e_2 h hR_8 => ?_
 obtain ⟨v_9, rfl, q_10⟩ := hR_8
 refine mv K rfl fun a K => extr K rfl rfl fun a K => extr K rfl rfl fun a K => alc K h z210 fun a w bk_11 K h => sto 0 Ik210 ([x_7.1]) K h rfl rfl rfl rfl q_10 t210 rfl rfl fun w h => asg K rfl fun a K => wn <| ws <| wb <| sl <| mv K rfl fun a K => binC _ K rfl rfl rfl fun a K => asg K rfl fun a K => wn <| ifm hm K rfl (fun _ hm => ?_) fun _ hm => ?_
 · refine sl <| mv K rfl fun a K => asg K rfl fun a K => wn <| wt ?_
   obtain rfl := oi hm
   exact fr f93 K (St.sel [1, 2, 3, 4] rfl h) rfl ⟨rfl, ⟨⟩⟩ ⟨rfl, rfl⟩
 refine sl <| fa F210_2 K rfl o210_2 fun a K => ld1 0 J210_2 (.string x_7.1.name) K h rfl rfl rfl t9 vS fun a K => binS _ K rfl rfl rfl fun a K => asg K rfl fun a K => wn <| ifm hm K rfl (fun _ hm => ?_) fun _ hm => ?_
 · refine sl <| asg K rfl fun a K => wn <| wt ?_
   obtain rfl := oi hm
   exact fr f93 K (St.sel [1, 2, 3, 4] rfl h) rfl ⟨rfl, ⟨⟩⟩ ⟨rfl, rfl⟩
 refine ws <| wh 7 [fE _, fE _, fE _, fE _, fE _, fE _, fE _] [(0, _), (3, _), (4, _), (5, _)] mx K h (so rfl) ⟨hpX [(0, _)] (fun s _ => ⟨s.1, ⟨⟩⟩) fun _ _ K t => mv K rfl t, hpX [(24, _)] k1 fun _ _ K t => nilck K rfl t, hpX [(25, _)] k1 fun _ _ K t => fa F103_0o K rfl o103_0o t, hpX [(26, _)] k1 fun _ _ K t => fa F37_4o K rfl o37_4o t, hpX [(27, _)] k1 fun _ h K t => ld1 1 (J103_0o.comp F37_4o) (hS q0 p0.p.Inodes n0) K h rfl rfl rfl t33 vX t, hpX [(5, _)] (fun s _ => ⟨s.2.2.2.1, ⟨⟩⟩) fun _ _ K t => fa F210_0 K rfl o210_0 t, hpX [(29, _)] k1 fun _ h K t => ld1 0 J210_0 (.int .i64 x_7.1.inode) K h rfl rfl rfl t3 vI t, ⟨⟩⟩ ?_
 intro a w G10 L e_10 h K hs hg
 replace K := K.sub (l' := [(28, _), (30, _), (0, _), (3, _), (4, _), (5, _)]) ⟨gE (hg 4 rfl rfl), gE (hg 6 rfl rfl), hs.1, hs.2.1, hs.2.2.1, hs.2.2.2.1, ⟨⟩⟩
 obtain ⟨g_26, hm⟩ := gs hm
 refine ixo K rfl rfl g_26 s33 t84 fun a K => fa F84_0 K rfl o84_0 fun a K => ld1 2 J84_0 (.int .i64 ((gt p0.p.Inodes x_7.1.inode).Kind)) K h rfl rfl (gt_some g_26) t51 vI fun a K => binC _ K rfl rfl rfl fun a K => asg K rfl fun a K => wn <| ifm hm K rfl (fun _ hm => ?_) fun _ hm => ?_
 · refine sl <| asg K rfl fun a K => wn <| wt ?_
   obtain rfl := oi hm
   exact fr f93 K (St.sel [1, 2, 3, 4] rfl h) rfl ⟨rfl, ⟨⟩⟩ ⟨rfl, rfl⟩
 refine sl <| mv K rfl fun a K => ldr K h rfl (Kd.val_mono (Gh.trans e_2 e_10) q_2) t45 fun a v_28 K q_29 => fa F210_1 K rfl o210_1 fun a K => ld1 0 J210_1 (.int .i64 x_7.1.parent) K h rfl rfl rfl t3 vI fun a K => ?_
 obtain ⟨x_30, hx_30, hm⟩ := bs hm
 refine clr (Δ₁ := (o3 B0 q0 q1 q2 n0 n1 n2 p0)) (Δ₂ := _) [4, 4, 4, 4] K h rfl rfl b155 (fun h => c155 hx_30 q_29 h) fun a w v G11 K e_11 h hR_31 => ?_
 obtain rfl := hR_31
 refine notB _ K rfl rfl fun a K => asg K rfl fun a K => wn <| ifm hm K rfl (fun _ hm => ?_) fun _ hm => ?_
 · refine sl <| asg K rfl fun a K => wn <| wt ?_
   obtain rfl := oi hm
   exact fr f93 K (St.sel [1, 2, 3, 4] rfl h) rfl ⟨rfl, ⟨⟩⟩ ⟨rfl, rfl⟩
 refine ws <| wh 7 [fE _, fE _, fE _, fE _, fE _, fE _, fE _] [(0, _), (4, _), (5, _)] mx K h (so rfl) ⟨hpX [(0, _)] (fun s _ => ⟨s.1, ⟨⟩⟩) fun _ _ K t => mv K rfl t, hpX [(43, _)] k1 fun _ _ K t => nilck K rfl t, hpX [(44, _)] k1 fun _ _ K t => fa F103_0o K rfl o103_0o t, hpX [(45, _)] k1 fun _ _ K t => fa F37_5o K rfl o37_5o t, hpX [(46, _)] k1 fun _ h K t => ld1 1 (J103_0o.comp F37_5o) (hS q1 p0.p.Dirs n1) K h rfl rfl rfl t34 vX t, hpX [(5, _)] (fun s _ => ⟨s.2.2.1, ⟨⟩⟩) fun _ _ K t => fa F210_0 K rfl o210_0 t, hpX [(48, _)] k1 fun _ h K t => ld1 0 J210_0 (.int .i64 x_7.1.inode) K h rfl rfl rfl t3 vI t, ⟨⟩⟩ ?_
 intro a w G19 L e_19 h K hs hg
 replace K := K.sub (l' := [(47, _), (49, _), (0, _), (4, _), (5, _)]) ⟨gE (hg 4 rfl rfl), gE (hg 6 rfl rfl), hs.1, hs.2.1, hs.2.2.1, ⟨⟩⟩
 obtain ⟨g_45, hm⟩ := gs hm
 refine ixo K rfl rfl g_45 s34 t85 fun a K => ld 3 (Fld.id (kSl k87)) K h rfl rfl (gt_some g_45) t85 fun a v_46 K q_47 => lenV K rfl q_47 rfl s85 fun a K => binC _ K rfl rfl rfl fun a K => asg K rfl fun a K => wn <| ifm hm K rfl (fun _ hm => ?_) fun _ hm => ?_
 · refine sl <| asg K rfl fun a K => wn <| wt ?_
   obtain rfl := oi hm
   exact fr f93 K (St.sel [1, 2, 3, 4] rfl h) rfl ⟨rfl, ⟨⟩⟩ ⟨rfl, rfl⟩
 refine wk <| sl <| mv K rfl fun a K => ld 0 Ik210 K h rfl rfl rfl t210 fun a v_49 K q_50 => ?_
 cases hm
abbrev R94 (r : Int) (v : Value) (H : Gh) : Prop := v = .int .i64 r
instance monR94 {r : Int} : MonR (R94 r) := ⟨fun _ _ _ _ h => h⟩
theorem c94 {p0 : T103} {p1 : T45} {B0 q0 q1 q2 n0 n1 n2 : Nat} {r : Int} (hm : m94 p0 p1 = some r) {vp1 : Value} (hp1 : (k45.val G0 vp1 p1)) (h : St c G0 w ((o3 B0 q0 q1 q2 n0 n1 n2 p0))) : Calls prog 94 #[(pA B0 Ik103o), vp1] w (FO c (o3 B0 q0 q1 q2 n0 n1 n2 p0) (R94 r)) := by
 unfold m94 at hm
 refine enter (n := 100) func94 rfl rfl rfl fun a K => sl <| boxr K h rfl hp1 fun a w v_1 G1 K e_1 h q_2 => asg K rfl fun a K => nsl <| mv K rfl fun a K => ldr K h rfl q_2 t45 fun a v_3 K q_4 => far F45_3 K rfl q_2 o45_3 fun a v_5 K q_6 => ldr1 (.string p1.Path_) K h rfl q_6 t9 vS fun a K => ?_
 obtain ⟨x_7, hx_7, hm⟩ := bs hm
 refine clr (Δ₁ := (o3 B0 q0 q1 q2 n0 n1 n2 p0)) (Δ₂ := _) [3, 3, 3, 3] K h rfl rfl b153 (fun h => c153 hx_7 q_4 h) fun a w v G2 K e_2 h hR_8 => ?_
 obtain ⟨v_9, rfl, q_10⟩ := hR_8
 refine mv K rfl fun a K => extr K rfl rfl fun a K => extr K rfl rfl fun a K => alc K h z210 fun a w bk_11 K h => sto 0 Ik210 ([x_7.1]) K h rfl rfl rfl rfl q_10 t210 rfl rfl fun w h => asg K rfl fun a K => wn <| ws <| wb <| sl <| mv K rfl fun a K => binC _ K rfl rfl rfl fun a K => asg K rfl fun a K => wn <| ifm hm K rfl (fun _ hm => ?_) fun _ hm => ?_
 · refine sl <| mv K rfl fun a K => asg K rfl fun a K => wn <| wt ?_
   obtain rfl := oi hm
   exact fr f94 K (St.sel [1, 2, 3, 4] rfl h) rfl ⟨rfl, ⟨⟩⟩ ⟨rfl, rfl⟩
 refine sl <| fa F210_2 K rfl o210_2 fun a K => ld1 0 J210_2 (.string x_7.1.name) K h rfl rfl rfl t9 vS fun a K => binS _ K rfl rfl rfl fun a K => asg K rfl fun a K => wn <| ifm hm K rfl (fun _ hm => ?_) fun _ hm => ?_
 · refine sl <| asg K rfl fun a K => wn <| wt ?_
   obtain rfl := oi hm
   exact fr f94 K (St.sel [1, 2, 3, 4] rfl h) rfl ⟨rfl, ⟨⟩⟩ ⟨rfl, rfl⟩
 refine wk <| sl <| mv K rfl fun a K => ldr K h rfl (Kd.val_mono e_2 q_2) t45 fun a v_14 K q_15 => far F45_4 K rfl (Kd.val_mono e_2 q_2) o45_4 fun a v_16 K q_17 => ldr1 (.string p1.Other) K h rfl q_17 t9 vS fun a K => ?_
 cases hm
abbrev R163 (r : Int × Int) (v : Value) (H : Gh) : Prop := v = .tuple #[.int .i64 r.1, .int .i64 r.2]
instance monR163 {r : Int × Int} : MonR (R163 r) := ⟨fun _ _ _ _ h => h⟩
theorem c163 {p0 : T103} {p1 : T45} {p2 : Int} {B0 q0 q1 q2 n0 n1 n2 : Nat} {r : Int × Int} (hm : m163 p0 p1 p2 = some r) {vp1 : Value} (hp1 : (k45.val G0 vp1 p1)) (h : St c G0 w ((o3 B0 q0 q1 q2 n0 n1 n2 p0))) : Calls prog 163 #[(pA B0 Ik103o), vp1, .int .i64 p2] w (FO c (o3 B0 q0 q1 q2 n0 n1 n2 p0) (R163 r)) := by
 unfold m163 at hm
 refine enter (n := 44) func163 rfl rfl rfl fun a K => sl <| boxr K h rfl hp1 fun a w v_1 G1 K e_1 h q_2 => asg K rfl fun a K => asg K rfl fun a K => nsl <| mv K rfl fun a K => ldr K h rfl q_2 t45 fun a v_3 K q_4 => far F45_3 K rfl q_2 o45_3 fun a v_5 K q_6 => ldr1 (.string p1.Path_) K h rfl q_6 t9 vS fun a K => ?_
 obtain ⟨x_7, hx_7, hm⟩ := bs hm
 refine clr (Δ₁ := (o3 B0 q0 q1 q2 n0 n1 n2 p0)) (Δ₂ := _) [3, 3, 3, 3] K h rfl rfl b153 (fun h => c153 hx_7 q_4 h) fun a w v G2 K e_2 h hR_8 => ?_
 obtain ⟨v_9, rfl, q_10⟩ := hR_8
 refine mv K rfl fun a K => extr K rfl rfl fun a K => extr K rfl rfl fun a K => alc K h z210 fun a w bk_11 K h => sto 0 Ik210 ([x_7.1]) K h rfl rfl rfl rfl q_10 t210 rfl rfl fun w h => asg K rfl fun a K => wn <| ws <| wb <| sl <| mv K rfl fun a K => binC _ K rfl rfl rfl fun a K => asg K rfl fun a K => wn <| ifm hm K rfl (fun _ hm => ?_) fun _ hm => ?_
 · refine sl <| mv K rfl fun a K => asg K rfl fun a K => asg K rfl fun a K => wn <| wt ?_
   obtain rfl := oi hm
   exact fi f163 [_, _] K (St.sel [1, 2, 3, 4] rfl h) rfl ⟨rfl, rfl, ⟨⟩⟩ (.inl rfl) ⟨rfl, rfl⟩
 refine ws <| wh 7 [fE _, fE _, fE _, fE _, fE _, fE _, fE _] [(0, _), (2, _), (4, _), (6, _), (7, _), (8, _)] mx K h (so rfl) ⟨hpX [(0, _)] (fun s _ => ⟨s.1, ⟨⟩⟩) fun _ _ K t => mv K rfl t, hpX [(23, _)] k1 fun _ _ K t => nilck K rfl t, hpX [(24, _)] k1 fun _ _ K t => fa F103_0o K rfl o103_0o t, hpX [(25, _)] k1 fun _ _ K t => fa F37_4o K rfl o37_4o t, hpX [(26, _)] k1 fun _ h K t => ld1 1 (J103_0o.comp F37_4o) (hS q0 p0.p.Inodes n0) K h rfl rfl rfl t33 vX t, hpX [(8, _)] (fun s _ => ⟨s.2.2.2.2.2.1, ⟨⟩⟩) fun _ _ K t => fa F210_0 K rfl o210_0 t, hpX [(28, _)] k1 fun _ h K t => ld1 0 J210_0 (.int .i64 x_7.1.inode) K h rfl rfl rfl t3 vI t, ⟨⟩⟩ ?_
 intro a w G10 L e_10 h K hs hg
 replace K := K.sub (l' := [(27, _), (29, _), (0, _), (2, _), (4, _), (6, _), (7, _), (8, _)]) ⟨gE (hg 4 rfl rfl), gE (hg 6 rfl rfl), hs.1, hs.2.1, hs.2.2.1, hs.2.2.2.1, hs.2.2.2.2.1, hs.2.2.2.2.2.1, ⟨⟩⟩
 obtain ⟨g_25, hm⟩ := gs hm
 refine ixo K rfl rfl g_25 s33 t84 fun a K => fa F84_0 K rfl o84_0 fun a K => ld1 2 J84_0 (.int .i64 ((gt p0.p.Inodes x_7.1.inode).Kind)) K h rfl rfl (gt_some g_25) t51 vI fun a K => binC _ K rfl rfl rfl fun a K => asg K rfl fun a K => wn <| ifm hm K rfl (fun _ hm => ?_) fun _ hm => ?_
 · refine sl <| asg K rfl fun a K => asg K rfl fun a K => wn <| wt ?_
   obtain rfl := oi hm
   exact fi f163 [_, _] K (St.sel [1, 2, 3, 4] rfl h) rfl ⟨rfl, rfl, ⟨⟩⟩ (.inl rfl) ⟨rfl, rfl⟩
 refine sl <| mv K rfl fun a K => ldr K h rfl (Kd.val_mono (Gh.trans e_2 e_10) q_2) t45 fun a v_27 K q_28 => fa F210_0 K rfl o210_0 fun a K => ld1 0 J210_0 (.int .i64 x_7.1.inode) K h rfl rfl rfl t3 vI fun a K => mv K rfl fun a K => ?_
 obtain ⟨x_29, hx_29, hm⟩ := bs hm
 refine clr (Δ₁ := (o3 B0 q0 q1 q2 n0 n1 n2 p0)) (Δ₂ := _) [4, 4, 4, 4] K h rfl rfl b155 (fun h => c155 hx_29 q_28 h) fun a w v G11 K e_11 h hR_30 => ?_
 obtain rfl := hR_30
 refine notB _ K rfl rfl fun a K => asg K rfl fun a K => wn <| ifm hm K rfl (fun _ hm => ?_) fun _ hm => ?_
 · refine sl <| asg K rfl fun a K => asg K rfl fun a K => wn <| wt ?_
   obtain rfl := oi hm
   exact fi f163 [_, _] K (St.sel [1, 2, 3, 4] rfl h) rfl ⟨rfl, rfl, ⟨⟩⟩ (.inl rfl) ⟨rfl, rfl⟩
 refine wk <| sl <| fa F210_0 K rfl o210_0 fun a K => ld1 0 J210_0 (.int .i64 x_7.1.inode) K h rfl rfl rfl t3 vI fun a K => asg K rfl fun a K => asg K rfl fun a K => wn <| wt ?_
 obtain rfl := oi hm
 exact fi f163 [_, _] K (St.sel [1, 2, 3, 4] rfl h) rfl ⟨rfl, rfl, ⟨⟩⟩ (.inl rfl) ⟨rfl, rfl⟩
abbrev R95 (r : Int) (v : Value) (H : Gh) : Prop := v = .int .i64 r
instance monR95 {r : Int} : MonR (R95 r) := ⟨fun _ _ _ _ h => h⟩
theorem c95 {p0 : T103} {p1 : T45} {B0 q0 q1 q2 n0 n1 n2 : Nat} {r : Int} (hm : m95 p0 p1 = some r) {vp1 : Value} (hp1 : (k45.val G0 vp1 p1)) (h : St c G0 w ((o3 B0 q0 q1 q2 n0 n1 n2 p0))) : Calls prog 95 #[(pA B0 Ik103o), vp1] w (FO c (o3 B0 q0 q1 q2 n0 n1 n2 p0) (R95 r)) := by
 unfold m95 at hm
 refine enter (n := 62) func95 rfl rfl rfl fun a K => sl <| boxr K h rfl hp1 fun a w v_1 G1 K e_1 h q_2 => asg K rfl fun a K => wn <| ws <| sl <| far F45_7 K rfl q_2 o45_7 fun a v_3 K q_4 => ldr1 (.int .i64 p1.N) K h rfl q_4 t3 vI fun a K => binC _ K rfl rfl rfl fun a K => wn <| ifm hm K rfl (fun _ hm => ?_) fun _ hm => ?_
 · refine sl <| asg K rfl fun a K => wn <| wt ?_
   obtain rfl := oi hm
   exact fr f95 K (St.sel [0, 1, 2, 3] rfl h) rfl ⟨rfl, ⟨⟩⟩ ⟨rfl, rfl⟩
 refine wk <| sl <| mv K rfl fun a K => ldr K h rfl q_2 t45 fun a v_6 K q_7 => ?_
 obtain ⟨x_8, hx_8, hm⟩ := bs hm
 refine clr (Δ₁ := (o3 B0 q0 q1 q2 n0 n1 n2 p0)) (Δ₂ := _) [3, 3, 3, 3] K h rfl rfl b163 (fun h => c163 hx_8 q_7 h) fun a w v G2 K e_2 h hR_9 => ?_
 obtain rfl := hR_9
 refine mv K rfl fun a K => extr K rfl rfl fun a K => extr K rfl rfl fun a K => asg K rfl fun a K => asg K rfl fun a K => wn <| ws <| wb <| sl <| mv K rfl fun a K => binC _ K rfl rfl rfl fun a K => asg K rfl fun a K => wn <| ifm hm K rfl (fun _ hm => ?_) fun _ hm => ?_
 · refine sl <| mv K rfl fun a K => asg K rfl fun a K => wn <| wt ?_
   obtain rfl := oi hm
   exact fr f95 K (St.sel [0, 1, 2, 3] rfl h) rfl ⟨rfl, ⟨⟩⟩ ⟨rfl, rfl⟩
 refine sl <| far F45_7 K rfl (Kd.val_mono e_2 q_2) o45_7 fun a v_11 K q_12 => ldr1 (.int .i64 p1.N) K h rfl q_12 t3 vI fun a K => binC _ K rfl rfl rfl fun a K => asg K rfl fun a K => wn <| ifm hm K rfl (fun _ hm => ?_) fun _ hm => ?_
 · refine sl <| asg K rfl fun a K => wn <| wt ?_
   obtain rfl := oi hm
   exact fr f95 K (St.sel [0, 1, 2, 3] rfl h) rfl ⟨rfl, ⟨⟩⟩ ⟨rfl, rfl⟩
 refine wk <| sl <| mv K rfl fun a K => mv K rfl fun a K => far F45_7 K rfl (Kd.val_mono e_2 q_2) o45_7 fun a v_14 K q_15 => ldr1 (.int .i64 p1.N) K h rfl q_15 t3 vI fun a K => ?_
 cases hm
abbrev R96 (r : Int) (v : Value) (H : Gh) : Prop := v = .int .i64 r
instance monR96 {r : Int} : MonR (R96 r) := ⟨fun _ _ _ _ h => h⟩
theorem c96 {p0 : T103} {p1 : T45} {B0 q0 q1 q2 n0 n1 n2 : Nat} {r : Int} (hm : m96 p0 p1 = some r) {vp1 : Value} (hp1 : (k45.val G0 vp1 p1)) (h : St c G0 w ((o3 B0 q0 q1 q2 n0 n1 n2 p0))) : Calls prog 96 #[(pA B0 Ik103o), vp1] w (FO c (o3 B0 q0 q1 q2 n0 n1 n2 p0) (R96 r)) := by
 unfold m96 at hm
 refine enter (n := 87) func96 rfl rfl rfl fun a K => sl <| boxr K h rfl hp1 fun a w v_1 G1 K e_1 h q_2 => asg K rfl fun a K => wn <| ws <| joinS (S := Bool) (fun s_22 a w => Jn c G1 (o3 B0 q0 q1 q2 n0 n1 n2 p0) 87 [(0, (pA B0 Ik103o)), (3, v_1), (4, .int .i64 0), (18, .bool s_22)] a w) (fun s_22 => m96_j_70 p0 p1 s_22 = some r) (fun s_22 hm a w hJ => ?_) (fun kk_71 => ?_)
 · obtain ⟨G3, e_3, h, K⟩ := hJ
   unfold m96_j_70 at hm
   refine ifm hm K rfl (fun _ hm => ?_) fun _ hm => ?_
   · refine sl <| asg K rfl fun a K => wn <| wt ?_
     obtain rfl := oi hm
     exact fr f96 K (St.sel [0, 1, 2, 3] rfl h) rfl ⟨rfl, ⟨⟩⟩ ⟨rfl, rfl⟩
   refine wk <| sl <| mv K rfl fun a K => ldr K h rfl (Kd.val_mono e_3 q_2) t45 fun a v_24 K q_25 => ?_
   obtain ⟨x_26, hx_26, hm⟩ := bs hm
   refine clr (Δ₁ := (o3 B0 q0 q1 q2 n0 n1 n2 p0)) (Δ₂ := _) [3, 3, 3, 3] K h rfl rfl b163 (fun h => c163 hx_26 q_25 h) fun a w v G4 K e_4 h hR_27 => ?_
   obtain rfl := hR_27
   refine mv K rfl fun a K => extr K rfl rfl fun a K => extr K rfl rfl fun a K => asg K rfl fun a K => asg K rfl fun a K => wn <| ws <| sl <| mv K rfl fun a K => binC _ K rfl rfl rfl fun a K => wn <| ifm hm K rfl (fun _ hm => ?_) fun _ hm => ?_
   · refine sl <| mv K rfl fun a K => asg K rfl fun a K => wn <| wt ?_
     obtain rfl := oi hm
     exact fr f96 K (St.sel [0, 1, 2, 3] rfl h) rfl ⟨rfl, ⟨⟩⟩ ⟨rfl, rfl⟩
   refine wk <| sl <| mv K rfl fun a K => nilck K rfl fun a K => fa F103_0o K rfl o103_0o fun a K => fa F37_4o K rfl o37_4o fun a K => ld1 0 (J103_0o.comp F37_4o) (hS q0 p0.p.Inodes n0) K h rfl rfl rfl t33 vX fun a K => mv K rfl fun a K => ?_
   obtain ⟨g_29, hm⟩ := gs hm
   refine ixo K rfl rfl g_29 s33 t84 fun a K => fa F84_5 K rfl o84_5 fun a K => ld1 1 J84_5 (.int .i64 ((gt p0.p.Inodes x_26.1).Size)) K h rfl rfl (gt_some g_29) t3 vI fun a K => asg K rfl fun a K => wn <| ws <| joinS (S := Bool) (fun s_49 a w => Jn c G4 (o3 B0 q0 q1 q2 n0 n1 n2 p0) 87 [(0, (pA B0 Ik103o)), (3, v_1), (4, .int .i64 0), (5, .int .i64 x_26.1), (7, .int .i64 ((gt p0.p.Inodes x_26.1).Size)), (45, .bool s_49)] a w) (fun s_49 => m96_j_63 p0 p1 x_26 s_49 = some r) (fun s_49 hm a w hJ => ?_) (fun kk_64 => ?_)
   · obtain ⟨G6, e_6, h, K⟩ := hJ
     unfold m96_j_63 at hm
     refine ifm hm K rfl (fun _ hm => ?_) fun _ hm => ?_
     · refine sl <| asg K rfl fun a K => wn <| wt ?_
       obtain rfl := oi hm
       exact fr f96 K (St.sel [0, 1, 2, 3] rfl h) rfl ⟨rfl, ⟨⟩⟩ ⟨rfl, rfl⟩
     refine wk <| sl <| far F45_6 K rfl (Kd.val_mono (Gh.trans e_3 (Gh.trans e_4 e_6)) q_2) o45_6 fun a v_51 K q_52 => ldr1 (.int .i64 p1.Off) K h rfl q_52 t3 vI fun a K => far F45_7 K rfl (Kd.val_mono (Gh.trans e_3 (Gh.trans e_4 e_6)) q_2) o45_7 fun a v_53 K q_54 => ldr1 (.int .i64 p1.N) K h rfl q_54 t3 vI fun a K => mv K rfl fun a K => far F45_6 K rfl (Kd.val_mono (Gh.trans e_3 (Gh.trans e_4 e_6)) q_2) o45_6 fun a v_55 K q_56 => ldr1 (.int .i64 p1.Off) K h rfl q_56 t3 vI fun a K => binI _ K rfl rfl rfl fun a K => min2 _ K rfl rfl rfl fun a K => binI _ K rfl rfl rfl fun a K => asg K rfl fun a K => nsl <| mv K rfl fun a K => binDiv _ K rfl rfl rfl rfl fun a K => asg K rfl fun a K => wn <| ws <| sl <| mv K rfl fun a K => mv K rfl fun a K => binC _ K rfl rfl rfl fun a K => wn <| ifm hm K rfl (fun _ hm => ?_) fun _ hm => ?_
     · refine wl <| mv K rfl fun a K => ?_
       cases hm
     refine wk <| ws <| sl <| far F45_6 K rfl (Kd.val_mono (Gh.trans e_3 (Gh.trans e_4 e_6)) q_2) o45_6 fun a v_61 K q_62 => ldr1 (.int .i64 p1.Off) K h rfl q_62 t3 vI fun a K => ?_
     cases hm
   refine wl <| far F45_6 K rfl (Kd.val_mono (Gh.trans e_3 e_4) q_2) o45_6 fun a v_65 K q_66 => ldr1 (.int .i64 p1.Off) K h rfl q_66 t3 vI fun a K => mv K rfl fun a K => binC _ K rfl rfl rfl fun a K => mv K rfl fun a K => ?_
   rcases im hm with ⟨c_67, hm⟩ | ⟨c_67, hm⟩
   · refine g1 K c_67 fun a K => g1 K c_67 fun a K => g1 K c_67 fun a K => pkT K rfl c_67 rfl fun a K => wn <| kk_64 true hm _ _ ⟨G4, gr, (St.sel [0, 1, 2, 3] rfl h), (K.sub (so rfl))⟩
   refine g2 K c_67 <| far F45_7 K rfl (Kd.val_mono (Gh.trans e_3 e_4) q_2) o45_7 fun a v_68 K q_69 => g2 K c_67 <| ldr1 (.int .i64 p1.N) K h rfl q_69 t3 vI fun a K => g2 K c_67 <| binC _ K rfl rfl rfl fun a K => pkF K rfl c_67 rfl fun a K => wn <| kk_64 (p1.N == 0) hm _ _ ⟨G4, gr, (St.sel [0, 1, 2, 3] rfl h), (K.sub (so rfl))⟩
 refine wl <| far F45_6 K rfl q_2 o45_6 fun a v_72 K q_73 => ldr1 (.int .i64 p1.Off) K h rfl q_73 t3 vI fun a K => binC _ K rfl rfl rfl fun a K => mv K rfl fun a K => ?_
 rcases im hm with ⟨c_74, hm⟩ | ⟨c_74, hm⟩
 · refine g1 K c_74 fun a K => g1 K c_74 fun a K => g1 K c_74 fun a K => pkT K rfl c_74 rfl fun a K => wn <| kk_71 true hm _ _ ⟨G1, gr, (St.sel [0, 1, 2, 3] rfl h), (K.sub (so rfl))⟩
 refine g2 K c_74 <| far F45_7 K rfl q_2 o45_7 fun a v_75 K q_76 => g2 K c_74 <| ldr1 (.int .i64 p1.N) K h rfl q_76 t3 vI fun a K => g2 K c_74 <| binC _ K rfl rfl rfl fun a K => pkF K rfl c_74 rfl fun a K => wn <| kk_71 (decide (p1.N < 0)) hm _ _ ⟨G1, gr, (St.sel [0, 1, 2, 3] rfl h), (K.sub (so rfl))⟩
abbrev R107 (r : Int) (v : Value) (H : Gh) : Prop := v = .int .u64 r
instance monR107 {r : Int} : MonR (R107 r) := ⟨fun _ _ _ _ h => h⟩
theorem c107 {p0 : Nat} {r : Int} (hm : m107 p0 = some r) (h : St c G0 w []) : Calls prog 107 #[.float .f64 p0] w (FO c [] (R107 r)) := by
 unfold m107 at hm
 refine enter (n := 6) func107 rfl rfl rfl fun a K => sl <| asg K rfl fun a K => nsl <| mv K rfl fun a K => ?_
 obtain ⟨x_1, hx_1, hm⟩ := bs hm
 refine clp K h rfl b179 (fun h => c179 hx_1 h) fun a w v G1 K e_1 h hR_2 => ?_
 obtain rfl := hR_2
 refine clx (.int .u64 ((x_1 : Nat) : Int)) x44 K rfl x_bits fun a K => asg K rfl fun a K => wn <| wt ?_
 obtain rfl := oi hm
 exact fr f107 K (St.sel [] rfl h) rfl ⟨rfl, ⟨⟩⟩ ⟨rfl, rfl⟩
abbrev R70 (r : Nat × Int) (v : Value) (H : Gh) : Prop := v = .tuple #[.float .f64 r.1, .int .i64 r.2]
instance monR70 {r : Nat × Int} : MonR (R70 r) := ⟨fun _ _ _ _ h => h⟩
theorem c70 {p0 : Int} {r : Nat × Int} (hm : m70 p0 = some r) (h : St c G0 w []) : Calls prog 70 #[.int .u64 p0] w (FO c [] (R70 r)) := by
 unfold m70 at hm
 refine enter (n := 12) func70 rfl rfl rfl fun a K => sl <| asg K rfl fun a K => asg K rfl fun a K => nsl <| mv K rfl fun a K => clx (.float .f64 (p0.toNat)) x131 K rfl x_from fun a K => asg K rfl fun a K => wn <| ws <| sl <| mv K rfl fun a K => ?_
 obtain ⟨x_1, hx_1, hm⟩ := bs hm
 refine clp K h rfl b107 (fun h => c107 hx_1 h) fun a w v G1 K e_1 h hR_2 => ?_
 obtain rfl := hR_2
 refine mv K rfl fun a K => binC _ K rfl rfl rfl fun a K => wn <| ifm hm K rfl (fun _ hm => ?_) fun _ hm => ?_
 · refine sl <| asg K rfl fun a K => asg K rfl fun a K => wn <| wt ?_
   obtain rfl := oi hm
   exact fi f70 [_, _] K (St.sel [] rfl h) rfl ⟨rfl, rfl, ⟨⟩⟩ (.inl rfl) ⟨rfl, rfl⟩
 refine wk <| sl <| mv K rfl fun a K => asg K rfl fun a K => asg K rfl fun a K => wn <| wt ?_
 obtain rfl := oi hm
 exact fi f70 [_, _] K (St.sel [] rfl h) rfl ⟨rfl, rfl, ⟨⟩⟩ (.inl rfl) ⟨rfl, rfl⟩
abbrev R97 (r : T103 × Int) (v : Value) (H : Gh) : Prop := v = .int .i64 r.2
instance monR97 {r : T103 × Int} : MonR (R97 r) := ⟨fun _ _ _ _ h => h⟩
theorem c97 {p0 : T103} {p1 : T45} {B0 q0 q1 q2 n0 n1 n2 : Nat} {r : T103 × Int} (hm : m97 p0 p1 = some r) {vp1 : Value} (hp1 : (k45.val G0 vp1 p1)) (h : St c G0 w ((o3 B0 q0 q1 q2 n0 n1 n2 p0))) : Calls prog 97 #[(pA B0 Ik103o), vp1] w (FO c (o3 B0 q0 q1 q2 n0 n1 n2 r.1) (R97 r)) := by
 unfold m97 at hm
 refine enter (n := 72) func97 rfl rfl rfl fun a K => sl <| boxr K h rfl hp1 fun a w v_1 G1 K e_1 h q_2 => asg K rfl fun a K => wn <| ws <| joinS (S := Bool) (fun s_28 a w => Jn c G1 (o3 B0 q0 q1 q2 n0 n1 n2 p0) 72 [(0, (pA B0 Ik103o)), (3, v_1), (4, .int .i64 0), (15, .bool s_28)] a w) (fun s_28 => m97_j_144 p0 p1 s_28 = some r) (fun s_28 hm a w hJ => ?_) (fun kk_145 => ?_)
 · obtain ⟨G6, e_6, h, K⟩ := hJ
   unfold m97_j_144 at hm
   refine ifm hm K rfl (fun _ hm => ?_) fun _ hm => ?_
   · refine sl <| asg K rfl fun a K => wn <| wt ?_
     obtain rfl := oi hm
     exact fr f97 K (St.sel [0, 1, 2, 3] rfl h) rfl ⟨rfl, ⟨⟩⟩ ⟨rfl, rfl⟩
   refine wk <| sl <| mv K rfl fun a K => ldr K h rfl (Kd.val_mono e_6 q_2) t45 fun a v_30 K q_31 => ?_
   replace q_31 : k45.val _ v_30 p1 := q_31
   refine far F45_3 K rfl (Kd.val_mono e_6 q_2) o45_3 fun a v_32 K q_33 => ?_
   replace q_33 : (kRef kStr).val _ v_32 p1.Path_ := q_33
   refine ldr1 (.string p1.Path_) K h rfl q_33 t9 vS fun a K => ?_
   obtain ⟨x_34, hx_34, hm⟩ := bs hm
   refine clr (Δ₁ := (o3 B0 q0 q1 q2 n0 n1 n2 p0)) (Δ₂ := _) [3, 3, 3, 3] K h rfl rfl b153 (fun h => c153 hx_34 q_31 h) fun a w v G7 K e_7 h hR_35 => ?_
   obtain ⟨v_36, rfl, q_37⟩ := hR_35
   refine mv K rfl fun a K => extr K rfl rfl fun a K => extr K rfl rfl fun a K => alc K h z210 fun a w bk_38 K h => sto 0 Ik210 ([x_34.1]) K h rfl rfl rfl rfl q_37 t210 rfl rfl fun w h => asg K rfl fun a K => wn <| ws <| sl <| mv K rfl fun a K => binC _ K rfl rfl rfl fun a K => wn <| ifm hm K rfl (fun _ hm => ?_) fun _ hm => ?_
   · refine sl <| mv K rfl fun a K => asg K rfl fun a K => wn <| wt ?_
     obtain rfl := oi hm
     exact fr f97 K (St.sel [1, 2, 3, 4] rfl h) rfl ⟨rfl, ⟨⟩⟩ ⟨rfl, rfl⟩
   refine wk <| ws <| wh 7 [fE _, fE _, fE _, fE _, fE _, fE _, fE _] [(0, _), (3, _), (4, _), (5, _)] mx K h (so rfl) ⟨hpX [(0, _)] (fun s _ => ⟨s.1, ⟨⟩⟩) fun _ _ K t => mv K rfl t, hpX [(27, _)] k1 fun _ _ K t => nilck K rfl t, hpX [(28, _)] k1 fun _ _ K t => fa F103_0o K rfl o103_0o t, hpX [(29, _)] k1 fun _ _ K t => fa F37_4o K rfl o37_4o t, hpX [(30, _)] k1 fun _ h K t => ld1 1 (J103_0o.comp F37_4o) (hS q0 p0.p.Inodes n0) K h rfl rfl rfl t33 vX t, hpX [(5, _)] (fun s _ => ⟨s.2.2.2.1, ⟨⟩⟩) fun _ _ K t => fa F210_0 K rfl o210_0 t, hpX [(32, _)] k1 fun _ h K t => ld1 0 J210_0 (.int .i64 x_34.1.inode) K h rfl rfl rfl t3 vI t, ⟨⟩⟩ ?_
   intro a w G15 L e_15 h K hs hg
   replace K := K.sub (l' := [(31, _), (33, _), (0, _), (3, _), (4, _), (5, _)]) ⟨gE (hg 4 rfl rfl), gE (hg 6 rfl rfl), hs.1, hs.2.1, hs.2.2.1, hs.2.2.2.1, ⟨⟩⟩
   obtain ⟨g_52, hm⟩ := gs hm
   refine ixo K rfl rfl g_52 s33 t84 fun a K => asg K rfl fun a K => wn <| ws <| wb <| ws ?_
   obtain ⟨x_62, hx_62, hm⟩ := nm_some hm
   obtain ⟨x_89, hx_89, hm⟩ := nm_some hm
   refine wh 12 [(fT (kRef (kInt .i64)) p1.Uid), fE _, fE _, (fE (.bool x_62)), (fG x_62 (fT (kRef (kInt .i64)) p1.Uid)), (fG x_62 (fE (.int .i64 p1.Uid))), (fG x_62 (fE (.pointer (some (adr q0 x_34.1.inode.toNat k84.n Ik84.off))))), (fG x_62 (fE (.pointer (some (adr q0 x_34.1.inode.toNat k84.n Ik84.off))))), (fG x_62 (fE (.pointer (some (adr q0 x_34.1.inode.toNat k84.n J84_2.off))))), (fG x_62 (fE (.int .i64 ((gt p0.p.Inodes x_34.1.inode).Uid)))), (fG x_62 (fE (.bool (p1.Uid != (gt p0.p.Inodes x_34.1.inode).Uid)))), (fE (.bool x_89))] [(0, _), (3, _), (4, _), (5, _), (7, _)] mx K h (so rfl) ⟨hpT [(3, _)] (fun s _ => ⟨s.2.1, ⟨⟩⟩) fun e _ K t => far F45_1 K rfl (Kd.val_mono (Gh.trans e_6 (Gh.trans e_7 (Gh.trans e_15 e))) q_2) o45_1 t, hpQ (t := 47) (fun k => k.1) fun _ h K q t => ldr1 (.int .i64 p1.Uid) K h rfl q t3 vI t, hpX [(48, _)] k1 fun _ _ K t => binC _ K rfl rfl rfl t, ?_, Hp.gd 0 rfl rfl rfl rfl rfl rfl gE_t rfl (fun hc => hpT [(3, _)] (fun s _ => ⟨s.2.1, ⟨⟩⟩) fun e _ K t => far F45_1 K rfl (Kd.val_mono (Gh.trans e_6 (Gh.trans e_7 (Gh.trans e_15 e))) q_2) o45_1 t) nilT, ?_, Hp.gd 0 rfl rfl rfl rfl rfl rfl gE_t rfl (fun hc => hpX [(7, _)] (fun s _ => ⟨s.2.2.2.2.1, ⟨⟩⟩) fun _ _ K t => mv K rfl t) nilE, ?_, ?_, ?_, ?_, ?_, ⟨⟩⟩ ?_
   · intro a w G19 L X e_19 h K hs hk
     obtain ⟨v_60, _, l_61, -, rfl⟩ := hk.1
     have hx : Sy.sub L [(49, .bool (p1.Uid != 0))] := ⟨l_61, ⟨⟩⟩
     replace K := K.addx _ hx
     refine mv K rfl fun a K => wn <| ⟨rfl, G19, [], gr, h, _, K.dropx _ hx, ⟨rfl, congrArg Value.bool hx_62.symm⟩⟩
   · refine Hp.gd 1 rfl rfl rfl rfl rfl rfl gE_t rfl (fun hc => ?_) nilE
     intro a w G21 L X e_21 h K hs hk
     obtain ⟨v_65, _, l_66, -, f_67, -⟩ := hk.1
     obtain ⟨-, q_68⟩ := f_67 hc
     have hx : Sy.sub L [(51, v_65)] := ⟨l_66, ⟨⟩⟩
     replace K := K.addx _ hx
     refine ldr1 (.int .i64 p1.Uid) K h rfl q_68 t3 vI fun a K => wn <| ⟨rfl, G21, [], gr, h, _, K.dropx _ hx, ⟨rfl, rfl⟩⟩
   · refine Hp.gd 1 rfl rfl rfl rfl rfl rfl gE_t rfl (fun hc => ?_) nilE
     intro a w G23 L X e_23 h K hs hk
     obtain ⟨v_69, _, l_70, -, f_71, -⟩ := hk.1
     obtain ⟨-, rfl⟩ := f_71 hc
     have hx : Sy.sub L [(53, .pointer (some (adr q0 x_34.1.inode.toNat k84.n Ik84.off)))] := ⟨l_70, ⟨⟩⟩
     replace K := K.addx _ hx
     refine nilck K rfl fun a K => wn <| ⟨rfl, G23, [], gr, h, _, K.dropx _ hx, ⟨rfl, rfl⟩⟩
   · refine Hp.gd 1 rfl rfl rfl rfl rfl rfl gE_t rfl (fun hc => ?_) nilE
     intro a w G24 L X e_24 h K hs hk
     obtain ⟨v_72, _, l_73, -, f_74, -⟩ := hk.1
     obtain ⟨-, rfl⟩ := f_74 hc
     have hx : Sy.sub L [(54, .pointer (some (adr q0 x_34.1.inode.toNat k84.n Ik84.off)))] := ⟨l_73, ⟨⟩⟩
     replace K := K.addx _ hx
     refine fa F84_2 K rfl o84_2 fun a K => wn <| ⟨rfl, G24, [], gr, h, _, K.dropx _ hx, ⟨rfl, rfl⟩⟩
   · refine Hp.gd 1 rfl rfl rfl rfl rfl rfl gE_t rfl (fun hc => ?_) nilE
     intro a w G25 L X e_25 h K hs hk
     obtain ⟨v_75, _, l_76, -, f_77, -⟩ := hk.1
     obtain ⟨-, rfl⟩ := f_77 hc
     have hx : Sy.sub L [(55, .pointer (some (adr q0 x_34.1.inode.toNat k84.n J84_2.off)))] := ⟨l_76, ⟨⟩⟩
     replace K := K.addx _ hx
     refine ld1 2 J84_2 (.int .i64 ((gt p0.p.Inodes x_34.1.inode).Uid)) K h rfl rfl (gt_some g_52) t3 vI fun a K => wn <| ⟨rfl, G25, [], gr, h, _, K.dropx _ hx, ⟨rfl, rfl⟩⟩
   · refine Hp.gd 2 rfl rfl rfl rfl rfl rfl gE_t rfl (fun hc => ?_) nilE
     intro a w G26 L X e_26 h K hs hk
     obtain ⟨v_78, _, l_79, -, f_80, -⟩ := hk.1
     obtain ⟨-, rfl⟩ := f_80 hc
     obtain ⟨v_81, _, l_82, -, f_83, -⟩ := hk.2.1
     obtain ⟨-, rfl⟩ := f_83 hc
     have hx : Sy.sub L [(52, .int .i64 p1.Uid), (56, .int .i64 ((gt p0.p.Inodes x_34.1.inode).Uid))] := ⟨l_79, l_82, ⟨⟩⟩
     replace K := K.addx _ hx
     refine binC _ K rfl rfl rfl fun a K => wn <| ⟨rfl, G26, [], gr, h, _, K.dropx _ hx, ⟨rfl, rfl⟩⟩
   · intro a w G27 L X e_27 h K hs hk
     obtain ⟨v_84, _, l_85, -, rfl⟩ := hk.1
     obtain ⟨v_86, _, l_87, -, f_88, -⟩ := hk.2.1
     have hx : Sy.sub L [(50, .bool x_62), (57, v_86)] := ⟨l_85, l_87, ⟨⟩⟩
     replace K := K.addx _ hx
     refine pickAnd K rfl rfl rfl (fun hA => (f_88 hA).2) fun a K => wn <| ⟨rfl, G27, [], gr, h, _, K.dropx _ hx, ⟨rfl, congrArg Value.bool hx_89.symm⟩⟩
   intro a w G28 L e_28 h K hs hg
   replace K := K.sub (l' := [(58, _), (0, _), (3, _), (4, _), (5, _), (7, _)]) ⟨gE (hg 11 rfl rfl), hs.1, hs.2.1, hs.2.2.1, hs.2.2.2.1, hs.2.2.2.2.1, ⟨⟩⟩
   refine asg K rfl fun a K => wn <| ifm hm K rfl (fun _ hm => ?_) fun _ hm => ?_
   · refine sl <| asg K rfl fun a K => wn <| wt ?_
     obtain rfl := oi hm
     exact fr f97 K (St.sel [1, 2, 3, 4] rfl h) rfl ⟨rfl, ⟨⟩⟩ ⟨rfl, rfl⟩
   refine sl <| far F45_0 K rfl (Kd.val_mono (Gh.trans e_6 (Gh.trans e_7 (Gh.trans e_15 e_28))) q_2) o45_0 fun a v_92 K q_93 => ?_
   replace q_93 : (kRef (kInt .i64)).val _ v_92 p1.Kind := q_93
   refine ldr1 (.int .i64 p1.Kind) K h rfl q_93 t30 vI fun a K => binC _ K rfl rfl rfl fun a K => asg K rfl fun a K => wn <| ifm hm K rfl (fun _ hm => ?_) fun _ hm => ?_
   · refine wl <| mv K rfl fun a K => far F45_8 K rfl (Kd.val_mono (Gh.trans e_6 (Gh.trans e_7 (Gh.trans e_15 e_28))) q_2) o45_8 fun a v_95 K q_96 => ?_
     replace q_96 : (kRef (kInt .i64)).val _ v_95 p1.Mode := q_96
     refine ldr1 (.int .i64 p1.Mode) K h rfl q_96 t3 vI fun a K => nilck K rfl fun a K => fa F84_1 K rfl o84_1 fun a K => ?_
     have hl_97 : (st p0.p.Inodes x_34.1.inode ({ (gt p0.p.Inodes x_34.1.inode) with Mode := p1.Mode } : T84)).length = p0.p.Inodes.length := st_length
     refine sto 2 J84_1 ((st p0.p.Inodes x_34.1.inode ({ (gt p0.p.Inodes x_34.1.inode) with Mode := p1.Mode } : T84))) K h rfl rfl (gt_some g_52) rfl int_val t3 rfl rfl fun w h => wn <| sl <| mv K rfl fun a K => fa F210_0 K rfl o210_0 fun a K => ld1 0 J210_0 (.int .i64 x_34.1.inode) K h rfl rfl rfl t3 vI fun a K => ?_
     obtain ⟨x_98, hx_98, hm⟩ := bs hm
     replace h := St.cast h (show ([⟨k210, [x_34.1], 1, (some bk_38), 210⟩, ⟨k103o, [(⟨(⟨p0.p.Homes, p0.p.Now, p0.p.Salt, p0.p.Users, (hS q0 p0.p.Inodes n0), (hS q1 p0.p.Dirs n1), (hS q2 p0.p.Blocks n2)⟩ : T37o), p0.fds⟩ : T103o)], 1, (some B0), 103⟩, ⟨k84, (st p0.p.Inodes x_34.1.inode ({ (gt p0.p.Inodes x_34.1.inode) with Mode := p1.Mode } : T84)), n0, (some q0), 84⟩, ⟨(kSl k87), p0.p.Dirs, n1, (some q1), 85⟩, ⟨(kSl kByte), p0.p.Blocks, n2, (some q2), 43⟩] : List Own) = [⟨k210, [x_34.1], 1, (some bk_38), 210⟩, ⟨k103o, [(⟨(⟨p0.p.Homes, p0.p.Now, p0.p.Salt, p0.p.Users, (hdr (some q0) (st p0.p.Inodes x_34.1.inode ({ (gt p0.p.Inodes x_34.1.inode) with Mode := p1.Mode } : T84)).length n0), (hS q1 p0.p.Dirs n1), (hS q2 p0.p.Blocks n2)⟩ : T37o), p0.fds⟩ : T103o)], 1, (some B0), 103⟩, ⟨k84, (st p0.p.Inodes x_34.1.inode ({ (gt p0.p.Inodes x_34.1.inode) with Mode := p1.Mode } : T84)), n0, (some q0), 84⟩, ⟨(kSl k87), p0.p.Dirs, n1, (some q1), 85⟩, ⟨(kSl kByte), p0.p.Blocks, n2, (some q2), 43⟩] by rw [hl_97])
     refine clw (Δ₁ := (o3 B0 q0 q1 q2 n0 n1 n2 ({ p0 with p := ({ p0.p with Inodes := (st p0.p.Inodes x_34.1.inode ({ (gt p0.p.Inodes x_34.1.inode) with Mode := p1.Mode } : T84)) } : T37) } : T103))) (Δ₂ := _) [4, 4, 4, 4] K h rfl rfl b154 (fun h => c154 hx_98 h) fun a w v G29 Δx K e_29 h hR_99 => ?_
     obtain ⟨rfl, hR_99⟩ := hR_99
     replace h := St.cast (Δ' := (o3 B0 q0 q1 q2 n0 n1 n2 x_98 ++ [⟨k210, [x_34.1], 1, (some bk_38), 210⟩])) h rfl
     obtain rfl := hR_99
     refine nsl <| asg K rfl fun a K => wn <| wt ?_
     obtain rfl := oi hm
     exact fr f97 K (St.sel [0, 1, 2, 3] rfl h) rfl ⟨rfl, ⟨⟩⟩ ⟨rfl, rfl⟩
   obtain ⟨x_110, hx_110, hm⟩ := bs hm
   obtain ⟨x_114, hx_114, hm⟩ := bs hm
   have hl_135 : (st p0.p.Inodes x_34.1.inode ({ (gt p0.p.Inodes x_34.1.inode) with Times := (st ((gt p0.p.Inodes x_34.1.inode).Times) 0 x_114.1) } : T84)).length = p0.p.Inodes.length := st_length
   refine wp_hop (Δs := [(⟨k210, [x_34.1], 1, (some bk_38), 210⟩ :: o3 B0 q0 q1 q2 n0 n1 n2 p0), [⟨k210, [x_34.1], 1, (some bk_38), 210⟩, ⟨k103o, [(⟨(⟨p0.p.Homes, p0.p.Now, p0.p.Salt, p0.p.Users, (hS q0 p0.p.Inodes n0), (hS q1 p0.p.Dirs n1), (hS q2 p0.p.Blocks n2)⟩ : T37o), p0.fds⟩ : T103o)], 1, (some B0), 103⟩, ⟨k84, (st p0.p.Inodes x_34.1.inode ({ (gt p0.p.Inodes x_34.1.inode) with Times := (st ((gt p0.p.Inodes x_34.1.inode).Times) 0 x_114.1) } : T84)), n0, (some q0), 84⟩, ⟨(kSl k87), p0.p.Dirs, n1, (some q1), 85⟩, ⟨(kSl kByte), p0.p.Blocks, n2, (some q2), 43⟩]]) 12 [(fE (.pointer (some (adr q0 x_34.1.inode.toNat k84.n Ik84.off)))), (fT (kRef kF64) p1.Time), (fE (.float .f64 p1.Time)), (fE (.int .u64 x_110)), (fC (R70 x_114)), (fC (R70 x_114)), (fE (.float .f64 x_114.1)), (fE (.int .i64 x_114.2)), (fE (.pointer (some (adr q0 x_34.1.inode.toNat k84.n Ik84.off)))), (fE (.pointer (some (adr q0 x_34.1.inode.toNat k84.n J84_6.off)))), (fE (.pointer (some (adr q0 x_34.1.inode.toNat k84.n (J84_6.comp (Fld.idx kF64 ((0 : Int)).toNat (inr_lt (show inr 0 2 = true from rfl)))).off)))), f0] [(0, (pA B0 Ik103o)), (3, v_1), (4, .int .i64 0), (5, (pA bk_38 Ik210)), (7, .pointer (some (adr q0 x_34.1.inode.toNat k84.n Ik84.off)))] [11] [[0], [0], [0], [0], [0], [0], [0], [0, 1], [0], [0], [0], [0]] [0, 0, 2, 6, 14, 30, 62, 62, 1, 257, 895, 1919] mx (by kernel_rfl) (by kernel_rfl) (by kernel_rfl) (by kernel_rfl) rfl rfl ⟨monE, monT, monE, monE, (monC monR70.h), (monC monR70.h), monE, monE, monE, monE, monE, mon0, ⟨⟩⟩ K h rfl rfl ⟨rfl, rfl, rfl, rfl, rfl, ⟨⟩⟩ ⟨(stg1 rfl rfl ?_), (stg1 rfl rfl ?_), (stg1 rfl rfl ?_), (stg1 rfl rfl ?_), (stg1 rfl rfl ?_), (stg1 rfl rfl ?_), (stg1 rfl rfl ?_), (stg2 rfl rfl ?_ (stg1 rfl rfl ?_)), (stg1 rfl rfl ?_), (stg1 rfl rfl ?_), (stg1 rfl rfl ?_), (stg1 rfl rfl ?_), ⟨⟩⟩ rfl ?_
   · exact hpX [(7, _)] (fun s _ => ⟨s.2.2.2.2.1, ⟨⟩⟩) fun _ _ K t => mv K rfl t
   · exact hpT [(3, _)] (fun s _ => ⟨s.2.1, ⟨⟩⟩) fun e _ K t => far F45_9 K rfl (Kd.val_mono (Gh.trans e_6 (Gh.trans e_7 (Gh.trans e_15 (Gh.trans e_28 e)))) q_2) o45_9 t
   · exact hpQ (t := 37) (fun k => k.1) fun _ h K q t => ldr1 (.float .f64 p1.Time) K h rfl q t31 vF t
   · intro a w G33 L X e_33 h K hs hk
     obtain ⟨v_108, _, l_109, -, rfl⟩ := hk.1
     have hx : Sy.sub L [(38, _)] := ⟨l_109, ⟨⟩⟩
     replace K := K.addx _ hx
     refine clp K h rfl b107 (fun h => c107 hx_110 h) fun a w v G34 K e_34 h hR_111 => ?_
     obtain rfl := hR_111
     refine wn <| ⟨rfl, G34, [], e_34, h, _, K.dropx _ hx, ⟨rfl, rfl⟩⟩
   · intro a w G35 L X e_35 h K hs hk
     obtain ⟨v_112, _, l_113, -, rfl⟩ := hk.1
     have hx : Sy.sub L [(39, _)] := ⟨l_113, ⟨⟩⟩
     replace K := K.addx _ hx
     refine clp K h rfl b70 (fun h => c70 hx_114 h) fun a w v G36 K e_36 h hR_115 => wn <| ⟨rfl, G36, [], e_36, h, _, K.dropx _ hx, ⟨rfl, hR_115⟩⟩
   · intro a w G37 L X e_37 h K hs hk
     obtain ⟨v_116, _, l_117, -, hR_118⟩ := hk.1
     obtain rfl := id hR_118
     have hx : Sy.sub L [(40, _)] := ⟨l_117, ⟨⟩⟩
     replace K := K.addx _ hx
     refine mv K rfl fun a K => wn <| ⟨rfl, G37, [], gr, h, _, K.dropx _ hx, ⟨rfl, hR_118⟩⟩
   · intro a w G38 L X e_38 h K hs hk
     obtain ⟨v_119, _, l_120, -, hR_121⟩ := hk.1
     obtain rfl := id hR_121
     have hx : Sy.sub L [(35, _)] := ⟨l_120, ⟨⟩⟩
     replace K := K.addx _ hx
     refine extr K rfl rfl fun a K => wn <| ⟨rfl, G38, [], gr, h, _, K.dropx _ hx, ⟨rfl, rfl⟩⟩
   · intro a w G39 L X e_39 h K hs hk
     obtain ⟨v_122, _, l_123, -, hR_124⟩ := hk.1
     obtain rfl := id hR_124
     have hx : Sy.sub L [(35, _)] := ⟨l_123, ⟨⟩⟩
     replace K := K.addx _ hx
     refine extr K rfl rfl fun a K => wn <| ⟨rfl, G39, [], gr, h, _, K.dropx _ hx, ⟨rfl, rfl⟩⟩
   · intro a w G44 L X e_44 h K hs hk
     obtain ⟨v_136, _, l_137, -, hR_138⟩ := hk.1
     obtain rfl := id hR_138
     have hx : Sy.sub L [(35, _)] := ⟨l_137, ⟨⟩⟩
     replace K := K.addx _ hx
     refine extr K rfl rfl fun a K => wn <| ⟨rfl, G44, [], gr, h, _, K.dropx _ hx, ⟨rfl, rfl⟩⟩
   · exact hpX [(36, _)] k1 fun _ _ K t => nilck K rfl t
   · exact hpX [(43, _)] k1 fun _ _ K t => fa F84_6 K rfl o84_6 t
   · exact hpX [(44, _)] k1 fun _ _ K t => ixa K rfl rfl (show inr 0 2 = true from rfl) r52 t31 t
   · intro a w G43 L X e_43 h K hs hk
     obtain ⟨v_131, _, l_132, -, rfl⟩ := hk.2.1
     obtain ⟨v_133, _, l_134, -, rfl⟩ := hk.1
     have hx : Sy.sub L [(41, _), (45, _)] := ⟨l_132, l_134, ⟨⟩⟩
     replace K := K.addx _ hx
     refine sto 2 (J84_6.comp (Fld.idx kF64 ((0 : Int)).toNat (inr_lt (show inr 0 2 = true from rfl)))) ((st p0.p.Inodes x_34.1.inode ({ (gt p0.p.Inodes x_34.1.inode) with Times := (st ((gt p0.p.Inodes x_34.1.inode).Times) 0 x_114.1) } : T84))) K h rfl rfl (gt_some g_52) rfl f64_val t31 rfl rfl fun w h => wn <| ⟨rfl, G43, [], gr, h, K.dropy _ hx, rfl⟩
   intro a w G45 L X e_45 h K hs hg
   obtain ⟨_, _, _, rfl, -, ⟨rfl, -⟩, hg⟩ := hg
   obtain ⟨_, _, _, rfl, -, ⟨rfl, -⟩, hg⟩ := hg
   obtain ⟨_, _, _, rfl, -, ⟨rfl, -⟩, hg⟩ := hg
   obtain ⟨_, _, _, rfl, -, ⟨rfl, -⟩, hg⟩ := hg
   obtain ⟨_, _, _, rfl, -, ⟨rfl, -⟩, hg⟩ := hg
   obtain ⟨_, _, _, rfl, -, ⟨rfl, -⟩, hg⟩ := hg
   obtain ⟨_, _, _, rfl, -, ⟨rfl, -⟩, hg⟩ := hg
   obtain ⟨_, _, _, rfl, -, ⟨rfl, -⟩, hg⟩ := hg
   obtain ⟨_, _, _, rfl, -, ⟨rfl, -⟩, hg⟩ := hg
   obtain ⟨_, _, _, rfl, -, ⟨rfl, -⟩, hg⟩ := hg
   obtain ⟨_, _, _, rfl, -, ⟨rfl, -⟩, hg⟩ := hg
   obtain rfl := hg
   replace h := St.cast (Δ' := [⟨k210, [x_34.1], 1, (some bk_38), 210⟩, ⟨k103o, [(⟨(⟨p0.p.Homes, p0.p.Now, p0.p.Salt, p0.p.Users, (hS q0 p0.p.Inodes n0), (hS q1 p0.p.Dirs n1), (hS q2 p0.p.Blocks n2)⟩ : T37o), p0.fds⟩ : T103o)], 1, (some B0), 103⟩, ⟨k84, (st p0.p.Inodes x_34.1.inode ({ (gt p0.p.Inodes x_34.1.inode) with Times := (st ((gt p0.p.Inodes x_34.1.inode).Times) 0 x_114.1) } : T84)), n0, (some q0), 84⟩, ⟨(kSl k87), p0.p.Dirs, n1, (some q1), 85⟩, ⟨(kSl kByte), p0.p.Blocks, n2, (some q2), 43⟩]) h rfl
   replace K := K.sub (l' := [(0, _), (4, _), (5, _)]) ⟨hs.1, hs.2.2.1, hs.2.2.2.1, ⟨⟩⟩
   refine wn <| sl <| mv K rfl fun a K => fa F210_0 K rfl o210_0 fun a K => ld1 0 J210_0 (.int .i64 x_34.1.inode) K h rfl rfl rfl t3 vI fun a K => ?_
   obtain ⟨x_139, hx_139, hm⟩ := bs hm
   replace h := St.cast h (show ([⟨k210, [x_34.1], 1, (some bk_38), 210⟩, ⟨k103o, [(⟨(⟨p0.p.Homes, p0.p.Now, p0.p.Salt, p0.p.Users, (hS q0 p0.p.Inodes n0), (hS q1 p0.p.Dirs n1), (hS q2 p0.p.Blocks n2)⟩ : T37o), p0.fds⟩ : T103o)], 1, (some B0), 103⟩, ⟨k84, (st p0.p.Inodes x_34.1.inode ({ (gt p0.p.Inodes x_34.1.inode) with Times := (st ((gt p0.p.Inodes x_34.1.inode).Times) 0 x_114.1) } : T84)), n0, (some q0), 84⟩, ⟨(kSl k87), p0.p.Dirs, n1, (some q1), 85⟩, ⟨(kSl kByte), p0.p.Blocks, n2, (some q2), 43⟩] : List Own) = [⟨k210, [x_34.1], 1, (some bk_38), 210⟩, ⟨k103o, [(⟨(⟨p0.p.Homes, p0.p.Now, p0.p.Salt, p0.p.Users, (hdr (some q0) (st p0.p.Inodes x_34.1.inode ({ (gt p0.p.Inodes x_34.1.inode) with Times := (st ((gt p0.p.Inodes x_34.1.inode).Times) 0 x_114.1) } : T84)).length n0), (hS q1 p0.p.Dirs n1), (hS q2 p0.p.Blocks n2)⟩ : T37o), p0.fds⟩ : T103o)], 1, (some B0), 103⟩, ⟨k84, (st p0.p.Inodes x_34.1.inode ({ (gt p0.p.Inodes x_34.1.inode) with Times := (st ((gt p0.p.Inodes x_34.1.inode).Times) 0 x_114.1) } : T84)), n0, (some q0), 84⟩, ⟨(kSl k87), p0.p.Dirs, n1, (some q1), 85⟩, ⟨(kSl kByte), p0.p.Blocks, n2, (some q2), 43⟩] by rw [hl_135])
   refine clw (Δ₁ := (o3 B0 q0 q1 q2 n0 n1 n2 ({ p0 with p := ({ p0.p with Inodes := (st p0.p.Inodes x_34.1.inode ({ (gt p0.p.Inodes x_34.1.inode) with Times := (st ((gt p0.p.Inodes x_34.1.inode).Times) 0 x_114.1) } : T84)) } : T37) } : T103))) (Δ₂ := _) [4, 4, 4, 4] K h rfl rfl b154 (fun h => c154 hx_139 h) fun a w v G46 Δx K e_46 h hR_140 => ?_
   obtain ⟨rfl, hR_140⟩ := hR_140
   replace h := St.cast (Δ' := (o3 B0 q0 q1 q2 n0 n1 n2 x_139 ++ [⟨k210, [x_34.1], 1, (some bk_38), 210⟩])) h rfl
   obtain rfl := hR_140
   refine nsl <| asg K rfl fun a K => wn <| wt ?_
   obtain rfl := oi hm
   exact fr f97 K (St.sel [0, 1, 2, 3] rfl h) rfl ⟨rfl, ⟨⟩⟩ ⟨rfl, rfl⟩
 refine wl <| far F45_0 K rfl q_2 o45_0 fun a v_146 K q_147 => ?_
 replace q_147 : (kRef (kInt .i64)).val _ v_146 p1.Kind := q_147
 refine ldr1 (.int .i64 p1.Kind) K h rfl q_147 t30 vI fun a K => binC _ K rfl rfl rfl fun a K => mv K rfl fun a K => ?_
 rcases im hm with ⟨c_148, hm⟩ | ⟨c_148, hm⟩
 · refine g2 K c_148 <| far F45_8 K rfl q_2 o45_8 fun a v_149 K q_150 => ?_
   replace q_150 : (kRef (kInt .i64)).val _ v_149 p1.Mode := q_150
   refine g2 K c_148 <| ldr1 (.int .i64 p1.Mode) K h rfl q_150 t3 vI fun a K => gy K rfl rfl c_148 ?_
   obtain ⟨x_151, hx_151, hm⟩ := bs hm
   refine clp K h rfl b149 (fun h => c149 hx_151 h) fun a w v G47 K e_47 h hR_152 => ?_
   obtain rfl := hR_152
   refine pkT K rfl c_148 rfl fun a K => wn <| kk_145 x_151 hm _ _ ⟨G47, e_47, (St.sel [0, 1, 2, 3] rfl h), (K.sub (so rfl))⟩
 refine g1 K c_148 fun a K => g1 K c_148 fun a K => g1 K c_148 fun a K => pkF K rfl c_148 rfl fun a K => wn <| kk_145 false hm _ _ ⟨G1, gr, (St.sel [0, 1, 2, 3] rfl h), (K.sub (so rfl))⟩
abbrev R121 (r : Int) (v : Value) (H : Gh) : Prop := v = .int .i64 r
instance monR121 {r : Int} : MonR (R121 r) := ⟨fun _ _ _ _ h => h⟩
theorem c121 {p0 : (List T94)} {r : Int} (hm : m121 p0 = some r) {vp0 : Value} (hp0 : ((kSl k94).val G0 vp0 p0)) (h : St c G0 w []) : Calls prog 121 #[vp0] w (FO c [] (R121 r)) := by
 unfold m121 at hm
 refine enter (n := 21) func121 rfl rfl rfl fun a K => sl <| asg K rfl fun a K => nsl <| asg K rfl fun a K => wn <| ws <| sl <| mv K rfl fun a K => ?_
 obtain ⟨x_1, hx_1, hm⟩ := bs hm
 refine clp K h rfl b193 (fun h => c193 hx_1 hp0 h) fun a w v G1 K e_1 h hR_2 => ?_
 obtain rfl := hR_2
 refine binC _ K rfl rfl rfl fun a K => wn <| ifm hm K rfl (fun _ hm => ?_) fun _ hm => ?_
 · refine sl <| mv K rfl fun a K => lenV K rfl (Kd.val_mono e_1 hp0) rfl s82 fun a K => mv K rfl fun a K => wn <| wb ?_
   obtain ⟨p_28, hp_28, hm⟩ := bs hm
   refine loop (S := Int × Int) (R := Int) (fun s_19 a w => Jn c G1 [] 21 [(2, .int .i64 0), (3, .int .i64 s_19.1), (9, vp0), (10, .int .i64 (p0.length : Int)), (11, .int .i64 s_19.2)] a w) (fun (p_28 : Int) e a w => e = .exit 0 ∧ Jn c G1 [] 21 [(2, .int .i64 0), (3, .int .i64 p_28)] a w) hp_28 ⟨G1, gr, (St.sel [] rfl h), (K.sub (so rfl))⟩ ?_ ?_
   · intro s_19 y_30 a w hm hI
     obtain ⟨G3, e_3, h, K⟩ := hI
     unfold m121_l_29 at hm
     refine sl <| binC _ K rfl rfl rfl fun a K => wn <| ws <| ifm hm K rfl (fun _ hm => ?_) fun _ hm => ?_
     · refine wk <| ws <| wb <| ws <| wl ?_
       obtain ⟨g_32, hm⟩ := gs hm
       refine ixs K rfl (Kd.val_mono (Gh.trans e_1 e_3) hp0) rfl g_32 s82 t94 fun a v_33 K q_34 => ldr K h rfl q_34 t94 fun a v_35 K q_36 => alc K h z94 fun a w bk_37 K h => sto 0 Ik94 ([(gt p0 s_19.2)]) K h rfl rfl rfl rfl q_36 t94 rfl rfl fun w h => wn <| wl <| mv K rfl fun a K => fa F94_2 K rfl o94_2 fun a K => ld1 0 J94_2 (.int .i64 ((gt p0 s_19.2).Len)) K h rfl rfl rfl t3 vI fun a K => binI _ K rfl rfl rfl fun a K => asg K rfl fun a K => wn <| wl <| binI _ K rfl rfl rfl fun a K => mv K rfl fun a K => wn ?_
       obtain rfl := oi hm
       exact ⟨rfl, ⟨G3, e_3, (St.sel [] rfl h), (K.sub (so rfl))⟩⟩
     refine wp_exit ?_
     obtain rfl := oi hm
     exact ⟨by simp, rfl, ⟨G3, e_3, (St.sel [] rfl h), (K.sub (so rfl))⟩⟩
   intro e a w hD
   obtain ⟨rfl, ⟨G4, e_4, h, K⟩⟩ := hD
   refine sl <| mv K rfl fun a K => asg K rfl fun a K => wn <| wt ?_
   obtain rfl := oi hm
   exact fr f121 K (St.sel [] rfl h) rfl ⟨rfl, ⟨⟩⟩ ⟨rfl, rfl⟩
 refine wk <| sl <| mv K rfl fun a K => asg K rfl fun a K => wn <| wt ?_
 obtain rfl := oi hm
 exact fr f121 K (St.sel [] rfl h) rfl ⟨rfl, ⟨⟩⟩ ⟨rfl, rfl⟩
abbrev R98 (r : T103 × Int) (v : Value) (H : Gh) : Prop := v = .int .i64 r.2
instance monR98 {r : T103 × Int} : MonR (R98 r) := ⟨fun _ _ _ _ h => h⟩
theorem c98 {p0 : T103} {p1 : T45} {B0 q0 q1 q2 n0 n1 n2 : Nat} {r : T103 × Int} (hm : m98 p0 p1 = some r) {vp1 : Value} (hp1 : (k45.val G0 vp1 p1)) (h : St c G0 w ((o3 B0 q0 q1 q2 n0 n1 n2 p0))) : Calls prog 98 #[(pA B0 Ik103o), vp1] w (FO c (o3 B0 q0 q1 q2 n0 n1 n2 r.1) (R98 r)) := by
 unfold m98 at hm
 refine enter (n := 94) func98 rfl rfl rfl fun a K => sl <| boxr K h rfl hp1 fun a w v_1 G1 K e_1 h q_2 => asg K rfl fun a K => wn <| ws <| wb <| joinS (S := Bool) (fun s_43 a w => Jn c G1 (o3 B0 q0 q1 q2 n0 n1 n2 p0) 94 [(0, (pA B0 Ik103o)), (3, v_1), (4, .int .i64 0), (10, .bool s_43)] a w) (fun s_43 => m98_j_172 p0 p1 s_43 = some r) (fun s_43 hm a w hJ => ?_) (fun kk_173 => ?_)
 · obtain ⟨G3, e_3, h, K⟩ := hJ
   unfold m98_j_172 at hm
   refine ifm hm K rfl (fun _ hm => ?_) fun _ hm => ?_
   · refine sl <| asg K rfl fun a K => wn <| wt ?_
     obtain rfl := oi hm
     exact fr f98 K (St.sel [0, 1, 2, 3] rfl h) rfl ⟨rfl, ⟨⟩⟩ ⟨rfl, rfl⟩
   refine sl <| far F45_1 K rfl (Kd.val_mono e_3 q_2) o45_1 fun a v_45 K q_46 => ?_
   replace q_46 : (kRef (kInt .i64)).val _ v_45 p1.Uid := q_46
   refine ldr1 (.int .i64 p1.Uid) K h rfl q_46 t3 vI fun a K => binC _ K rfl rfl rfl fun a K => asg K rfl fun a K => wn <| ifm hm K rfl (fun _ hm => ?_) fun _ hm => ?_
   · refine sl <| asg K rfl fun a K => wn <| wt ?_
     obtain rfl := oi hm
     exact fr f98 K (St.sel [0, 1, 2, 3] rfl h) rfl ⟨rfl, ⟨⟩⟩ ⟨rfl, rfl⟩
   refine wk <| sl <| mv K rfl fun a K => ldr K h rfl (Kd.val_mono e_3 q_2) t45 fun a v_48 K q_49 => ?_
   replace q_49 : k45.val _ v_48 p1 := q_49
   refine far F45_3 K rfl (Kd.val_mono e_3 q_2) o45_3 fun a v_50 K q_51 => ?_
   replace q_51 : (kRef kStr).val _ v_50 p1.Path_ := q_51
   refine ldr1 (.string p1.Path_) K h rfl q_51 t9 vS fun a K => ?_
   obtain ⟨x_52, hx_52, hm⟩ := bs hm
   refine clr (Δ₁ := (o3 B0 q0 q1 q2 n0 n1 n2 p0)) (Δ₂ := _) [3, 3, 3, 3] K h rfl rfl b153 (fun h => c153 hx_52 q_49 h) fun a w v G4 K e_4 h hR_53 => ?_
   obtain ⟨v_54, rfl, q_55⟩ := hR_53
   refine mv K rfl fun a K => extr K rfl rfl fun a K => extr K rfl rfl fun a K => alc K h z210 fun a w bk_56 K h => sto 0 Ik210 ([x_52.1]) K h rfl rfl rfl rfl q_55 t210 rfl rfl fun w h => asg K rfl fun a K => wn <| ws <| sl <| mv K rfl fun a K => binC _ K rfl rfl rfl fun a K => wn <| ifm hm K rfl (fun _ hm => ?_) fun _ hm => ?_
   · refine sl <| mv K rfl fun a K => asg K rfl fun a K => wn <| wt ?_
     obtain rfl := oi hm
     exact fr f98 K (St.sel [1, 2, 3, 4] rfl h) rfl ⟨rfl, ⟨⟩⟩ ⟨rfl, rfl⟩
   refine wk <| ws <| wh 7 [fE _, fE _, fE _, fE _, fE _, fE _, fE _] [(0, _), (3, _), (4, _), (5, _)] mx K h (so rfl) ⟨hpX [(0, _)] (fun s _ => ⟨s.1, ⟨⟩⟩) fun _ _ K t => mv K rfl t, hpX [(44, _)] k1 fun _ _ K t => nilck K rfl t, hpX [(45, _)] k1 fun _ _ K t => fa F103_0o K rfl o103_0o t, hpX [(46, _)] k1 fun _ _ K t => fa F37_4o K rfl o37_4o t, hpX [(47, _)] k1 fun _ h K t => ld1 1 (J103_0o.comp F37_4o) (hS q0 p0.p.Inodes n0) K h rfl rfl rfl t33 vX t, hpX [(5, _)] (fun s _ => ⟨s.2.2.2.1, ⟨⟩⟩) fun _ _ K t => fa F210_0 K rfl o210_0 t, hpX [(49, _)] k1 fun _ h K t => ld1 0 J210_0 (.int .i64 x_52.1.inode) K h rfl rfl rfl t3 vI t, ⟨⟩⟩ ?_
   intro a w G12 L e_12 h K hs hg
   replace K := K.sub (l' := [(48, _), (50, _), (0, _), (3, _), (4, _), (5, _)]) ⟨gE (hg 4 rfl rfl), gE (hg 6 rfl rfl), hs.1, hs.2.1, hs.2.2.1, hs.2.2.2.1, ⟨⟩⟩
   obtain ⟨g_70, hm⟩ := gs hm
   refine ixo K rfl rfl g_70 s33 t84 fun a K => asg K rfl fun a K => wn <| joinS (S := Int × Nat × (List UInt8) × (List T56) × (List T84) × (List (List T87)) × (List (List UInt8)) × (List T100)) (fun s_103 a w => Jn c G12 [⟨k103o, [(⟨(⟨s_103.1, s_103.2.1, s_103.2.2.1, s_103.2.2.2.1, (hS q0 s_103.2.2.2.2.1 n0), (hS q1 s_103.2.2.2.2.2.1 n1), (hS q2 s_103.2.2.2.2.2.2.1 n2)⟩ : T37o), s_103.2.2.2.2.2.2.2⟩ : T103o)], 1, (some B0), 103⟩, ⟨k84, s_103.2.2.2.2.1, n0, (some q0), 84⟩, ⟨(kSl k87), s_103.2.2.2.2.2.1, n1, (some q1), 85⟩, ⟨(kSl kByte), s_103.2.2.2.2.2.2.1, n2, (some q2), 43⟩, ⟨k210, [x_52.1], 1, (some bk_56), 210⟩] 94 [(0, (pA B0 Ik103o)), (3, v_1), (4, .int .i64 0), (5, (pA bk_56 Ik210)), (7, .pointer (some (adr q0 x_52.1.inode.toNat k84.n Ik84.off)))] a w) (fun s_103 => m98_j_138 p1 x_52 s_103 = some r) (fun s_103 hm a w hJ => ?_) (fun kk_139 => ?_)
   · obtain ⟨G23, e_23, h, K⟩ := hJ
     unfold m98_j_138 at hm
     refine ws ?_
     obtain ⟨g_122, hm⟩ := gs hm
     have hl_123 : (st s_103.2.2.2.2.1 x_52.1.inode ({ (gt s_103.2.2.2.2.1 x_52.1.inode) with Uid := p1.N } : T84)).length = s_103.2.2.2.2.1.length := st_length
     refine wp_hop (Δs := [[⟨k103o, [(⟨(⟨s_103.1, s_103.2.1, s_103.2.2.1, s_103.2.2.2.1, (hS q0 s_103.2.2.2.2.1 n0), (hS q1 s_103.2.2.2.2.2.1 n1), (hS q2 s_103.2.2.2.2.2.2.1 n2)⟩ : T37o), s_103.2.2.2.2.2.2.2⟩ : T103o)], 1, (some B0), 103⟩, ⟨k84, s_103.2.2.2.2.1, n0, (some q0), 84⟩, ⟨(kSl k87), s_103.2.2.2.2.2.1, n1, (some q1), 85⟩, ⟨(kSl kByte), s_103.2.2.2.2.2.2.1, n2, (some q2), 43⟩, ⟨k210, [x_52.1], 1, (some bk_56), 210⟩], [⟨k103o, [(⟨(⟨s_103.1, s_103.2.1, s_103.2.2.1, s_103.2.2.2.1, (hS q0 s_103.2.2.2.2.1 n0), (hS q1 s_103.2.2.2.2.2.1 n1), (hS q2 s_103.2.2.2.2.2.2.1 n2)⟩ : T37o), s_103.2.2.2.2.2.2.2⟩ : T103o)], 1, (some B0), 103⟩, ⟨k84, (st s_103.2.2.2.2.1 x_52.1.inode ({ (gt s_103.2.2.2.2.1 x_52.1.inode) with Uid := p1.N } : T84)), n0, (some q0), 84⟩, ⟨(kSl k87), s_103.2.2.2.2.2.1, n1, (some q1), 85⟩, ⟨(kSl kByte), s_103.2.2.2.2.2.2.1, n2, (some q2), 43⟩, ⟨k210, [x_52.1], 1, (some bk_56), 210⟩]]) 9 [(fE (.pointer (some (adr q0 x_52.1.inode.toNat k84.n Ik84.off)))), (fE (.pointer (some (adr q0 x_52.1.inode.toNat k84.n Ik84.off)))), (fT (kRef (kInt .i64)) p1.N), (fE (.int .i64 p1.N)), (fT (kRef (kInt .i64)) p1.Mode), (fE (.int .i64 p1.Mode)), (fE (.pointer (some (adr q0 x_52.1.inode.toNat k84.n Ik84.off)))), (fE (.pointer (some (adr q0 x_52.1.inode.toNat k84.n J84_2.off)))), f0] [(0, (pA B0 Ik103o)), (3, v_1), (4, .int .i64 0), (5, (pA bk_56 Ik210)), (7, .pointer (some (adr q0 x_52.1.inode.toNat k84.n Ik84.off)))] [8] [[0], [0, 1], [0], [0], [0, 1], [0, 1], [0], [0], [0]] [0, 0, 0, 4, 0, 16, 13, 77, 205, 511, 1023, 2047] mx (by kernel_rfl) (by kernel_rfl) (by kernel_rfl) (by kernel_rfl) rfl rfl ⟨monE, monE, monT, monE, monT, monE, monE, monE, mon0, ⟨⟩⟩ K h rfl rfl ⟨rfl, rfl, rfl, rfl, rfl, ⟨⟩⟩ ⟨(stg1 rfl rfl ?_), (stg2 rfl rfl ?_ (stg1 rfl rfl ?_)), (stg1 rfl rfl ?_), (stg1 rfl rfl ?_), (stg2 rfl rfl ?_ (stg1 rfl rfl ?_)), (stg2 rfl rfl ?_ (stg1 rfl rfl ?_)), (stg1 rfl rfl ?_), (stg1 rfl rfl ?_), (stg1 rfl rfl ?_), ⟨⟩⟩ rfl ?_
     · exact hpX [(7, _)] (fun s _ => ⟨s.2.2.2.2.1, ⟨⟩⟩) fun _ _ K t => mv K rfl t
     · exact hpX [(7, _)] (fun s _ => ⟨s.2.2.2.2.1, ⟨⟩⟩) fun _ _ K t => mv K rfl t
     · exact hpX [(7, _)] (fun s _ => ⟨s.2.2.2.2.1, ⟨⟩⟩) fun _ _ K t => mv K rfl t
     · exact hpT [(3, _)] (fun s _ => ⟨s.2.1, ⟨⟩⟩) fun e _ K t => far F45_7 K rfl (Kd.val_mono (Gh.trans e_3 (Gh.trans e_4 (Gh.trans e_12 (Gh.trans e_23 e)))) q_2) o45_7 t
     · exact hpQ (t := 82) (fun k => k.1) fun _ h K q t => ldr1 (.int .i64 p1.N) K h rfl q t3 vI t
     · exact hpT [(3, _)] (fun s _ => ⟨s.2.1, ⟨⟩⟩) fun e _ K t => far F45_8 K rfl (Kd.val_mono (Gh.trans e_3 (Gh.trans e_4 (Gh.trans e_12 (Gh.trans e_23 e)))) q_2) o45_8 t
     · exact hpT [(3, _)] (fun s _ => ⟨s.2.1, ⟨⟩⟩) fun e _ K t => far F45_8 K rfl (Kd.val_mono (Gh.trans e_3 (Gh.trans e_4 (Gh.trans e_12 (Gh.trans e_23 e)))) q_2) o45_8 t
     · exact hpQ (t := 84) (fun k => k.1) fun _ h K q t => ldr1 (.int .i64 p1.Mode) K h rfl q t3 vI t
     · exact hpQ (t := 84) (fun k => k.1) fun _ h K q t => ldr1 (.int .i64 p1.Mode) K h rfl q t3 vI t
     · exact hpX [(80, _)] k1 fun _ _ K t => nilck K rfl t
     · exact hpX [(86, _)] k1 fun _ _ K t => fa F84_2 K rfl o84_2 t
     · intro a w G32 L X e_32 h K hs hk
       obtain ⟨v_118, _, l_119, -, rfl⟩ := hk.2.1
       obtain ⟨v_120, _, l_121, -, rfl⟩ := hk.1
       have hx : Sy.sub L [(83, _), (87, _)] := ⟨l_119, l_121, ⟨⟩⟩
       replace K := K.addx _ hx
       refine sto 1 J84_2 ((st s_103.2.2.2.2.1 x_52.1.inode ({ (gt s_103.2.2.2.2.1 x_52.1.inode) with Uid := p1.N } : T84))) K h rfl rfl (gt_some g_122) rfl int_val t3 rfl rfl fun w h => wn <| ⟨rfl, G32, [], gr, h, K.dropy _ hx, rfl⟩
     intro a w G36 L X e_36 h K hs hg
     obtain ⟨_, _, _, rfl, -, ⟨rfl, -⟩, hg⟩ := hg
     obtain ⟨_, _, _, rfl, l_129, ⟨rfl, rfl⟩, hg⟩ := hg
     obtain ⟨_, _, _, rfl, -, ⟨rfl, -⟩, hg⟩ := hg
     obtain ⟨_, _, _, rfl, -, ⟨rfl, -⟩, hg⟩ := hg
     obtain ⟨_, _, _, rfl, -, ⟨rfl, -⟩, hg⟩ := hg
     obtain ⟨_, _, _, rfl, l_130, ⟨rfl, rfl⟩, hg⟩ := hg
     obtain ⟨_, _, _, rfl, -, ⟨rfl, -⟩, hg⟩ := hg
     obtain ⟨_, _, _, rfl, -, ⟨rfl, -⟩, hg⟩ := hg
     obtain rfl := hg
     replace h := St.cast (Δ' := [⟨k103o, [(⟨(⟨s_103.1, s_103.2.1, s_103.2.2.1, s_103.2.2.2.1, (hS q0 s_103.2.2.2.2.1 n0), (hS q1 s_103.2.2.2.2.2.1 n1), (hS q2 s_103.2.2.2.2.2.2.1 n2)⟩ : T37o), s_103.2.2.2.2.2.2.2⟩ : T103o)], 1, (some B0), 103⟩, ⟨k84, (st s_103.2.2.2.2.1 x_52.1.inode ({ (gt s_103.2.2.2.2.1 x_52.1.inode) with Uid := p1.N } : T84)), n0, (some q0), 84⟩, ⟨(kSl k87), s_103.2.2.2.2.2.1, n1, (some q1), 85⟩, ⟨(kSl kByte), s_103.2.2.2.2.2.2.1, n2, (some q2), 43⟩, ⟨k210, [x_52.1], 1, (some bk_56), 210⟩]) h rfl
     replace K := K.sub (l' := [(81, _), (85, _), (0, _), (4, _), (5, _)]) ⟨l_129, l_130, hs.1, hs.2.2.1, hs.2.2.2.1, ⟨⟩⟩
     refine nilck K rfl fun a K => fa F84_3 K rfl o84_3 fun a K => ?_
     obtain ⟨g_131, hm⟩ := gs hm
     have hl_132 : (st (st s_103.2.2.2.2.1 x_52.1.inode ({ (gt s_103.2.2.2.2.1 x_52.1.inode) with Uid := p1.N } : T84)) x_52.1.inode ({ (gt (st s_103.2.2.2.2.1 x_52.1.inode ({ (gt s_103.2.2.2.2.1 x_52.1.inode) with Uid := p1.N } : T84)) x_52.1.inode) with Gid := p1.Mode } : T84)).length = s_103.2.2.2.2.1.length := (st_length).trans hl_123
     refine sto 1 J84_3 ((st (st s_103.2.2.2.2.1 x_52.1.inode ({ (gt s_103.2.2.2.2.1 x_52.1.inode) with Uid := p1.N } : T84)) x_52.1.inode ({ (gt (st s_103.2.2.2.2.1 x_52.1.inode ({ (gt s_103.2.2.2.2.1 x_52.1.inode) with Uid := p1.N } : T84)) x_52.1.inode) with Gid := p1.Mode } : T84))) K h rfl rfl (gt_some (by rw [hl_123]; exact g_131)) rfl int_val t3 rfl rfl fun w h => wn <| sl <| mv K rfl fun a K => fa F210_0 K rfl o210_0 fun a K => ld1 4 J210_0 (.int .i64 x_52.1.inode) K h rfl rfl rfl t3 vI fun a K => ?_
     obtain ⟨x_133, hx_133, hm⟩ := bs hm
     replace h := St.cast h (show ([⟨k103o, [(⟨(⟨s_103.1, s_103.2.1, s_103.2.2.1, s_103.2.2.2.1, (hS q0 s_103.2.2.2.2.1 n0), (hS q1 s_103.2.2.2.2.2.1 n1), (hS q2 s_103.2.2.2.2.2.2.1 n2)⟩ : T37o), s_103.2.2.2.2.2.2.2⟩ : T103o)], 1, (some B0), 103⟩, ⟨k84, (st (st s_103.2.2.2.2.1 x_52.1.inode ({ (gt s_103.2.2.2.2.1 x_52.1.inode) with Uid := p1.N } : T84)) x_52.1.inode ({ (gt (st s_103.2.2.2.2.1 x_52.1.inode ({ (gt s_103.2.2.2.2.1 x_52.1.inode) with Uid := p1.N } : T84)) x_52.1.inode) with Gid := p1.Mode } : T84)), n0, (some q0), 84⟩, ⟨(kSl k87), s_103.2.2.2.2.2.1, n1, (some q1), 85⟩, ⟨(kSl kByte), s_103.2.2.2.2.2.2.1, n2, (some q2), 43⟩, ⟨k210, [x_52.1], 1, (some bk_56), 210⟩] : List Own) = [⟨k103o, [(⟨(⟨s_103.1, s_103.2.1, s_103.2.2.1, s_103.2.2.2.1, (hdr (some q0) (st (st s_103.2.2.2.2.1 x_52.1.inode ({ (gt s_103.2.2.2.2.1 x_52.1.inode) with Uid := p1.N } : T84)) x_52.1.inode ({ (gt (st s_103.2.2.2.2.1 x_52.1.inode ({ (gt s_103.2.2.2.2.1 x_52.1.inode) with Uid := p1.N } : T84)) x_52.1.inode) with Gid := p1.Mode } : T84)).length n0), (hS q1 s_103.2.2.2.2.2.1 n1), (hS q2 s_103.2.2.2.2.2.2.1 n2)⟩ : T37o), s_103.2.2.2.2.2.2.2⟩ : T103o)], 1, (some B0), 103⟩, ⟨k84, (st (st s_103.2.2.2.2.1 x_52.1.inode ({ (gt s_103.2.2.2.2.1 x_52.1.inode) with Uid := p1.N } : T84)) x_52.1.inode ({ (gt (st s_103.2.2.2.2.1 x_52.1.inode ({ (gt s_103.2.2.2.2.1 x_52.1.inode) with Uid := p1.N } : T84)) x_52.1.inode) with Gid := p1.Mode } : T84)), n0, (some q0), 84⟩, ⟨(kSl k87), s_103.2.2.2.2.2.1, n1, (some q1), 85⟩, ⟨(kSl kByte), s_103.2.2.2.2.2.2.1, n2, (some q2), 43⟩, ⟨k210, [x_52.1], 1, (some bk_56), 210⟩] by rw [hl_132])
     refine clw (Δ₁ := (o3 B0 q0 q1 q2 n0 n1 n2 (⟨(⟨s_103.1, s_103.2.1, s_103.2.2.1, s_103.2.2.2.1, (st (st s_103.2.2.2.2.1 x_52.1.inode ({ (gt s_103.2.2.2.2.1 x_52.1.inode) with Uid := p1.N } : T84)) x_52.1.inode ({ (gt (st s_103.2.2.2.2.1 x_52.1.inode ({ (gt s_103.2.2.2.2.1 x_52.1.inode) with Uid := p1.N } : T84)) x_52.1.inode) with Gid := p1.Mode } : T84)), s_103.2.2.2.2.2.1, s_103.2.2.2.2.2.2.1⟩ : T37), s_103.2.2.2.2.2.2.2⟩ : T103))) (Δ₂ := _) [3, 3, 3, 3] K h rfl rfl b154 (fun h => c154 hx_133 h) fun a w v G37 Δx K e_37 h hR_134 => ?_
     obtain ⟨rfl, hR_134⟩ := hR_134
     replace h := St.cast (Δ' := (o3 B0 q0 q1 q2 n0 n1 n2 x_133 ++ [⟨k210, [x_52.1], 1, (some bk_56), 210⟩])) h rfl
     obtain rfl := hR_134
     refine nsl <| asg K rfl fun a K => wn <| wt ?_
     obtain rfl := oi hm
     exact fr f98 K (St.sel [0, 1, 2, 3] rfl h) rfl ⟨rfl, ⟨⟩⟩ ⟨rfl, rfl⟩
   refine sl <| mv K rfl fun a K => nilck K rfl fun a K => fa F84_9 K rfl o84_9 fun a K => ld 2 J84_9 K h rfl rfl (gt_some g_70) t82 fun a v_140 K q_141 => ?_
   replace q_141 : (kSl k94).val _ v_140 ((gt p0.p.Inodes x_52.1.inode).Extents) := q_141
   obtain ⟨x_142, hx_142, hm⟩ := bs hm
   refine clp K h rfl b121 (fun h => c121 hx_142 q_141 h) fun a w v G38 K e_38 h hR_143 => ?_
   obtain rfl := hR_143
   refine asg K rfl fun a K => wn <| ws <| wh 6 [fE _, fE _, fE _, fE _, (fT (kRef (kInt .i64)) p1.N), fE _] [(0, _), (3, _), (4, _), (5, _), (7, _), (8, _)] mx K h (so rfl) ⟨hpX [(7, _)] (fun s _ => ⟨s.2.2.2.2.1, ⟨⟩⟩) fun _ _ K t => mv K rfl t, hpX [(57, _)] k1 fun _ _ K t => nilck K rfl t, hpX [(58, _)] k1 fun _ _ K t => fa F84_2 K rfl o84_2 t, hpX [(59, _)] k1 fun _ h K t => ld1 2 J84_2 (.int .i64 ((gt p0.p.Inodes x_52.1.inode).Uid)) K h rfl rfl (gt_some g_70) t3 vI t, hpT [(3, _)] (fun s _ => ⟨s.2.1, ⟨⟩⟩) fun e _ K t => far F45_7 K rfl (Kd.val_mono (Gh.trans e_3 (Gh.trans e_4 (Gh.trans e_12 (Gh.trans e_38 e)))) q_2) o45_7 t, hpQ (t := 61) (fun k => k.1) fun _ h K q t => ldr1 (.int .i64 p1.N) K h rfl q t3 vI t, ⟨⟩⟩ ?_
   intro a w G45 L e_45 h K hs hg
   replace K := K.sub (l' := [(60, _), (62, _), (0, _), (3, _), (4, _), (5, _), (7, _), (8, _)]) ⟨gE (hg 3 rfl rfl), gE (hg 5 rfl rfl), hs.1, hs.2.1, hs.2.2.1, hs.2.2.2.1, hs.2.2.2.2.1, hs.2.2.2.2.2.1, ⟨⟩⟩
   refine binC _ K rfl rfl rfl fun a K => wn <| ifm hm K rfl (fun _ hm => ?_) fun _ hm => ?_
   · refine ws <| sl <| mv K rfl fun a K => far F45_7 K rfl (Kd.val_mono (Gh.trans e_3 (Gh.trans e_4 (Gh.trans e_12 (Gh.trans e_38 e_45)))) q_2) o45_7 fun a v_158 K q_159 => ?_
     replace q_159 : (kRef (kInt .i64)).val _ v_158 p1.N := q_159
     refine ldr1 (.int .i64 p1.N) K h rfl q_159 t3 vI fun a K => mv K rfl fun a K => ?_
     obtain ⟨x_160, hx_160, hm⟩ := bs hm
     refine clw (Δ₁ := (o3 B0 q0 q1 q2 n0 n1 n2 p0)) (Δ₂ := _) [4, 4, 4, 4] K h rfl rfl b148 (fun h => c148 hx_160 h) fun a w v G46 Δx K e_46 h hR_161 => ?_
     obtain ⟨rfl, hR_161⟩ := hR_161
     replace h := St.cast (Δ' := (o3 B0 q0 q1 q2 n0 n1 n2 x_160.1 ++ [⟨k210, [x_52.1], 1, (some bk_56), 210⟩])) h rfl
     obtain rfl := hR_161
     refine asg K rfl fun a K => nsl <| mv K rfl fun a K => binC _ K rfl rfl rfl fun a K => wn <| ifm hm K rfl (fun _ hm => ?_) fun _ hm => ?_
     · refine sl <| mv K rfl fun a K => asg K rfl fun a K => wn <| wt ?_
       obtain rfl := oi hm
       exact fr f98 K (St.sel [0, 1, 2, 3] rfl h) rfl ⟨rfl, ⟨⟩⟩ ⟨rfl, rfl⟩
     refine wk <| wl <| mv K rfl fun a K => mv K rfl fun a K => nilck K rfl fun a K => fa F84_2 K rfl o84_2 fun a K => ?_
     obtain ⟨g_166, hm⟩ := gs hm
     refine ld1 1 J84_2 (.int .i64 ((gt x_160.1.p.Inodes x_52.1.inode).Uid)) K h rfl rfl (gt_some g_166) t3 vI fun a K => mv K rfl fun a K => negI _ K rfl rfl fun a K => ?_
     obtain ⟨x_167, hx_167, hm⟩ := bs hm
     refine clw (Δ₁ := (o3 B0 q0 q1 q2 n0 n1 n2 x_160.1)) (Δ₂ := _) [3, 3, 3, 3] K h rfl rfl b148 (fun h => c148 hx_167 h) fun a w v G47 Δx K e_47 h hR_168 => ?_
     obtain ⟨rfl, hR_168⟩ := hR_168
     replace h := St.cast (Δ' := (o3 B0 q0 q1 q2 n0 n1 n2 x_167.1 ++ [⟨k210, [x_52.1], 1, (some bk_56), 210⟩])) h rfl
     obtain rfl := hR_168
     refine wn <| kk_139 (x_167.1.p.Homes, x_167.1.p.Now, x_167.1.p.Salt, x_167.1.p.Users, x_167.1.p.Inodes, x_167.1.p.Dirs, x_167.1.p.Blocks, x_167.1.fds) hm _ _ ⟨G47, (Gh.trans e_38 (Gh.trans e_45 (Gh.trans e_46 e_47))), (St.sel [0, 1, 2, 3, 4] rfl h), (K.sub (so rfl))⟩
   refine wk <| kk_139 (p0.p.Homes, p0.p.Now, p0.p.Salt, p0.p.Users, p0.p.Inodes, p0.p.Dirs, p0.p.Blocks, p0.fds) hm _ _ ⟨G45, (Gh.trans e_38 e_45), (St.sel [1, 2, 3, 4, 0] rfl h), (K.sub (so rfl))⟩
 refine wl <| far F45_7 K rfl q_2 o45_7 fun a v_174 K q_175 => ?_
 replace q_175 : (kRef (kInt .i64)).val _ v_174 p1.N := q_175
 refine ldr1 (.int .i64 p1.N) K h rfl q_175 t3 vI fun a K => binC _ K rfl rfl rfl fun a K => mv K rfl fun a K => ?_
 rcases im hm with ⟨c_176, hm⟩ | ⟨c_176, hm⟩
 · refine g1 K c_176 fun a K => g1 K c_176 fun a K => g1 K c_176 fun a K => pkT K rfl c_176 rfl fun a K => mv K rfl fun a K => g1 K rfl fun a K => g1 K rfl fun a K => g1 K rfl fun a K => pkT K rfl rfl rfl fun a K => mv K rfl fun a K => g1 K rfl fun a K => g1 K rfl fun a K => g1 K rfl fun a K => pkT K rfl rfl rfl fun a K => asg K rfl fun a K => wn <| kk_173 true hm _ _ ⟨G1, gr, (St.sel [0, 1, 2, 3] rfl h), (K.sub (so rfl))⟩
 refine g2 K c_176 <| far F45_7 K rfl q_2 o45_7 fun a v_177 K q_178 => ?_
 replace q_178 : (kRef (kInt .i64)).val _ v_177 p1.N := q_178
 refine g2 K c_176 <| ldr1 (.int .i64 p1.N) K h rfl q_178 t3 vI fun a K => g2 K c_176 <| binC _ K rfl rfl rfl fun a K => pkF K rfl c_176 rfl fun a K => mv K rfl fun a K => ?_
 rcases im hm with ⟨c_179, hm⟩ | ⟨c_179, hm⟩
 · refine g1 K c_179 fun a K => g1 K c_179 fun a K => g1 K c_179 fun a K => pkT K rfl c_179 rfl fun a K => mv K rfl fun a K => g1 K rfl fun a K => g1 K rfl fun a K => g1 K rfl fun a K => pkT K rfl rfl rfl fun a K => asg K rfl fun a K => wn <| kk_173 true hm _ _ ⟨G1, gr, (St.sel [0, 1, 2, 3] rfl h), (K.sub (so rfl))⟩
 refine g2 K c_179 <| far F45_8 K rfl q_2 o45_8 fun a v_180 K q_181 => ?_
 replace q_181 : (kRef (kInt .i64)).val _ v_180 p1.Mode := q_181
 refine g2 K c_179 <| ldr1 (.int .i64 p1.Mode) K h rfl q_181 t3 vI fun a K => g2 K c_179 <| binC _ K rfl rfl rfl fun a K => pkF K rfl c_179 rfl fun a K => mv K rfl fun a K => ?_
 rcases im hm with ⟨c_182, hm⟩ | ⟨c_182, hm⟩
 · refine g1 K c_182 fun a K => g1 K c_182 fun a K => g1 K c_182 fun a K => pkT K rfl c_182 rfl fun a K => asg K rfl fun a K => wn <| kk_173 true hm _ _ ⟨G1, gr, (St.sel [0, 1, 2, 3] rfl h), (K.sub (so rfl))⟩
 refine g2 K c_182 <| far F45_8 K rfl q_2 o45_8 fun a v_183 K q_184 => ?_
 replace q_184 : (kRef (kInt .i64)).val _ v_183 p1.Mode := q_184
 refine g2 K c_182 <| ldr1 (.int .i64 p1.Mode) K h rfl q_184 t3 vI fun a K => g2 K c_182 <| binC _ K rfl rfl rfl fun a K => pkF K rfl c_182 rfl fun a K => asg K rfl fun a K => wn <| kk_173 (decide (p1.Mode > 65535)) hm _ _ ⟨G1, gr, (St.sel [0, 1, 2, 3] rfl h), (K.sub (so rfl))⟩
abbrev R165 (r : Int × Int) (v : Value) (H : Gh) : Prop := v = .tuple #[.int .i64 r.1, .int .i64 r.2]
instance monR165 {r : Int × Int} : MonR (R165 r) := ⟨fun _ _ _ _ h => h⟩
theorem c165 {p0 : T103} {p1 : T45} {p2 : Int} {B0 q0 q1 q2 n0 n1 n2 : Nat} {r : Int × Int} (hm : m165 p0 p1 p2 = some r) {vp1 : Value} (hp1 : (k45.val G0 vp1 p1)) (h : St c G0 w ((o3 B0 q0 q1 q2 n0 n1 n2 p0))) : Calls prog 165 #[(pA B0 Ik103o), vp1, .int .i64 p2] w (FO c (o3 B0 q0 q1 q2 n0 n1 n2 p0) (R165 r)) := by
 unfold m165 at hm
 refine enter (n := 32) func165 rfl rfl rfl fun a K => sl <| boxr K h rfl hp1 fun a w v_1 G1 K e_1 h q_2 => asg K rfl fun a K => asg K rfl fun a K => nsl <| mv K rfl fun a K => ldr K h rfl q_2 t45 fun a v_3 K q_4 => far F45_3 K rfl q_2 o45_3 fun a v_5 K q_6 => ldr1 (.string p1.Path_) K h rfl q_6 t9 vS fun a K => ?_
 obtain ⟨x_7, hx_7, hm⟩ := bs hm
 refine clr (Δ₁ := (o3 B0 q0 q1 q2 n0 n1 n2 p0)) (Δ₂ := _) [3, 3, 3, 3] K h rfl rfl b153 (fun h => c153 hx_7 q_4 h) fun a w v G2 K e_2 h hR_8 => ?_
 obtain ⟨v_9, rfl, q_10⟩ := hR_8
 refine mv K rfl fun a K => extr K rfl rfl fun a K => extr K rfl rfl fun a K => alc K h z210 fun a w bk_11 K h => sto 0 Ik210 ([x_7.1]) K h rfl rfl rfl rfl q_10 t210 rfl rfl fun w h => asg K rfl fun a K => wn <| ws <| joinS (S := Bool) (fun s_17 a w => Jn c G2 (⟨k210, [x_7.1], 1, (some bk_11), 210⟩ :: o3 B0 q0 q1 q2 n0 n1 n2 p0) 32 [(6, .int .i64 0), (7, .int .i64 0), (8, (pA bk_11 Ik210)), (9, .int .i64 x_7.2), (28, .bool s_17)] a w) (fun s_17 => m165_j_19 x_7 s_17 = some r) (fun s_17 hm a w hJ => ?_) (fun kk_20 => ?_)
 · obtain ⟨G4, e_4, h, K⟩ := hJ
   unfold m165_j_19 at hm
   refine ifm hm K rfl (fun _ hm => ?_) fun _ hm => ?_
   · refine wl <| asg K rfl fun a K => wn <| sl <| fa F210_0 K rfl o210_0 fun a K => ld1 0 J210_0 (.int .i64 x_7.1.inode) K h rfl rfl rfl t3 vI fun a K => mv K rfl fun a K => asg K rfl fun a K => asg K rfl fun a K => wn <| wt ?_
     obtain rfl := oi hm
     exact fi f165 [_, _] K (St.sel [1, 2, 3, 4] rfl h) rfl ⟨rfl, rfl, ⟨⟩⟩ (.inl rfl) ⟨rfl, rfl⟩
   refine wk <| sl <| fa F210_0 K rfl o210_0 fun a K => ld1 0 J210_0 (.int .i64 x_7.1.inode) K h rfl rfl rfl t3 vI fun a K => mv K rfl fun a K => asg K rfl fun a K => asg K rfl fun a K => wn <| wt ?_
   obtain rfl := oi hm
   exact fi f165 [_, _] K (St.sel [1, 2, 3, 4] rfl h) rfl ⟨rfl, rfl, ⟨⟩⟩ (.inl rfl) ⟨rfl, rfl⟩
 refine wl <| mv K rfl fun a K => binC _ K rfl rfl rfl fun a K => mv K rfl fun a K => ?_
 rcases im hm with ⟨c_21, hm⟩ | ⟨c_21, hm⟩
 · refine g2 K c_21 <| mv K rfl fun a K => g2 K c_21 <| ldr K h rfl (Kd.val_mono e_2 q_2) t45 fun a v_22 K q_23 => g2 K c_21 <| fa F210_0 K rfl o210_0 fun a K => g2 K c_21 <| ld1 0 J210_0 (.int .i64 x_7.1.inode) K h rfl rfl rfl t3 vI fun a K => g2 K c_21 <| mv K rfl fun a K => gy K rfl rfl c_21 ?_
   obtain ⟨x_24, hx_24, hm⟩ := bs hm
   refine clr (Δ₁ := (o3 B0 q0 q1 q2 n0 n1 n2 p0)) (Δ₂ := _) [4, 4, 4, 4] K h rfl rfl b155 (fun h => c155 hx_24 q_23 h) fun a w v G5 K e_5 h hR_25 => ?_
   obtain rfl := hR_25
   refine g2 K c_21 <| notB _ K rfl rfl fun a K => pkT K rfl c_21 rfl fun a K => wn <| kk_20 (!x_24) hm _ _ ⟨G5, e_5, (St.sel [0, 1, 2, 3, 4] rfl h), (K.sub (so rfl))⟩
 refine g1 K c_21 fun a K => g1 K c_21 fun a K => g1 K c_21 fun a K => g1 K c_21 fun a K => g1 K c_21 fun a K => g1 K c_21 fun a K => g1 K c_21 fun a K => pkF K rfl c_21 rfl fun a K => wn <| kk_20 false hm _ _ ⟨G2, gr, (St.sel [0, 1, 2, 3, 4] rfl h), (K.sub (so rfl))⟩
abbrev R219 (r : Bool) (v : Value) (H : Gh) : Prop := v = .bool r
instance monR219 {r : Bool} : MonR (R219 r) := ⟨fun _ _ _ _ h => h⟩
theorem c219 {p0 : ByteArray} {p1 : (List UInt8)} {r : Bool} (hm : m219 p0 p1 = some r) {vp1 : Value} (hp1 : ((kSl kByte).val G0 vp1 p1)) (h : St c G0 w []) : Calls prog 219 #[.string p0, vp1] w (FO c [] (R219 r)) := by
 unfold m219 at hm
 refine enter (n := 23) func219 rfl rfl rfl fun a K => sl <| asg K rfl fun a K => nsl <| mv K rfl fun a K => lenS K rfl rfl u9 fun a K => binC _ K rfl rfl rfl fun a K => mv K rfl fun a K => ?_
 rcases im hm with ⟨c_1, hm⟩ | ⟨c_1, hm⟩
 · refine g2 K c_1 <| mv K rfl fun a K => g2 K c_1 <| lenS K rfl rfl u9 fun a K => g2 K c_1 <| binC _ K rfl rfl rfl fun a K => pkT K rfl c_1 rfl fun a K => mv K rfl fun a K => ?_
   rcases im hm with ⟨c_2, hm⟩ | ⟨c_2, hm⟩
   · refine g2 K c_2 <| mv K rfl fun a K => gy K rfl rfl c_2 ?_
     obtain ⟨x_3, hx_3, hm⟩ := bs hm
     refine clp K h rfl b254 (fun h => c254 hx_3 h) fun a w v G1 K e_1 h hR_4 => ?_
     obtain rfl := hR_4
     refine g2 K c_2 <| notB _ K rfl rfl fun a K => pkT K rfl c_2 rfl fun a K => mv K rfl fun a K => ?_
     rcases im hm with ⟨c_5, hm⟩ | ⟨c_5, hm⟩
     · refine g2 K c_5 <| mv K rfl fun a K => g2 K c_5 <| lenV K rfl (Kd.val_mono e_1 hp1) rfl s43 fun a K => g2 K c_5 <| binC _ K rfl rfl rfl fun a K => pkT K rfl c_5 rfl fun a K => asg K rfl fun a K => wn <| wt ?_
       obtain rfl := oi hm
       exact fr f219 K (St.sel [] rfl h) rfl ⟨rfl, ⟨⟩⟩ ⟨rfl, rfl⟩
     refine g1 K c_5 fun a K => g1 K c_5 fun a K => g1 K c_5 fun a K => pkF K rfl c_5 rfl fun a K => asg K rfl fun a K => wn <| wt ?_
     obtain rfl := oi hm
     exact fr f219 K (St.sel [] rfl h) rfl ⟨rfl, ⟨⟩⟩ ⟨rfl, rfl⟩
   refine g1 K c_2 fun a K => g1 K c_2 fun a K => g1 K c_2 fun a K => pkF K rfl c_2 rfl fun a K => mv K rfl fun a K => g1 K rfl fun a K => g1 K rfl fun a K => g1 K rfl fun a K => pkF K rfl rfl rfl fun a K => asg K rfl fun a K => wn <| wt ?_
   obtain rfl := oi hm
   exact fr f219 K (St.sel [] rfl h) rfl ⟨rfl, ⟨⟩⟩ ⟨rfl, rfl⟩
 refine g1 K c_1 fun a K => g1 K c_1 fun a K => g1 K c_1 fun a K => pkF K rfl c_1 rfl fun a K => mv K rfl fun a K => g1 K rfl fun a K => g1 K rfl fun a K => g1 K rfl fun a K => pkF K rfl rfl rfl fun a K => mv K rfl fun a K => g1 K rfl fun a K => g1 K rfl fun a K => g1 K rfl fun a K => pkF K rfl rfl rfl fun a K => asg K rfl fun a K => wn <| wt ?_
 obtain rfl := oi hm
 exact fr f219 K (St.sel [] rfl h) rfl ⟨rfl, ⟨⟩⟩ ⟨rfl, rfl⟩
end Go.Proofs.YthhhomgbpnmeeaaGreatDoor
