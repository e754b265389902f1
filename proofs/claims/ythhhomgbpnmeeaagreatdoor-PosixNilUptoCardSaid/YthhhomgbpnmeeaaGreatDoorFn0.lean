/- Each Go function does what its plain function says, where that comes to a value; printed by a program. -/
import Derived.Test.YthhhomgbpnmeeaaGreatDoorMd
set_option linter.all false
namespace Go.Proofs.YthhhomgbpnmeeaaGreatDoor
open Go Go.Sy
set_option maxRecDepth 100000
set_option maxHeartbeats 2000000
open Tryz
variable {c : Cx} {G0 : Gh} {w : World}
abbrev R84 (r : Bool) (v : Value) (H : Gh) : Prop := v = .bool r
instance monR84 {r : Bool} : MonR (R84 r) := ⟨fun _ _ _ _ h => h⟩
theorem c84 {p0 : Int} {p1 : Int} {r : Bool} (hm : m84 p0 p1 = some r) (h : St c G0 w []) : Calls prog 84 #[.int .i64 p0, .int .i64 p1] w (FO c [] (R84 r)) := by
 unfold m84 at hm
 refine enter (n := 12) func84 rfl rfl rfl fun a K => sl <| asg K rfl fun a K => nsl <| mv K rfl fun a K => mv K rfl fun a K => binC _ K rfl rfl rfl fun a K => mv K rfl fun a K => ?_
 rcases im hm with ⟨c_1, hm⟩ | ⟨c_1, hm⟩
 · refine g2 K c_1 <| mv K rfl fun a K => g2 K c_1 <| binC _ K rfl rfl rfl fun a K => pkT K rfl c_1 rfl fun a K => asg K rfl fun a K => wn <| wt ?_
   obtain rfl := oi hm
   exact fr f84 K (St.sel [] rfl h) rfl ⟨rfl, ⟨⟩⟩ ⟨rfl, rfl⟩
 refine g1 K c_1 fun a K => g1 K c_1 fun a K => pkF K rfl c_1 rfl fun a K => asg K rfl fun a K => wn <| wt ?_
 obtain rfl := oi hm
 exact fr f84 K (St.sel [] rfl h) rfl ⟨rfl, ⟨⟩⟩ ⟨rfl, rfl⟩
abbrev R139 (r : Bool) (v : Value) (H : Gh) : Prop := v = .bool r
instance monR139 {r : Bool} : MonR (R139 r) := ⟨fun _ _ _ _ h => h⟩
theorem c139 {p0 : T56} {r : Bool} (hm : m139 p0 = some r) {vp0 : Value} (hp0 : (k56.val G0 vp0 p0)) (h : St c G0 w []) : Calls prog 139 #[vp0] w (FO c [] (R139 r)) := by
 unfold m139 at hm
 refine enter (n := 21) func139 rfl rfl rfl fun a K => sl <| boxr K h rfl hp0 fun a w v_1 G1 K e_1 h q_2 => asg K rfl fun a K => nsl <| far F56_1 K rfl q_2 o56_1 fun a v_3 K q_4 => ldr1 (.int .i64 p0.Blocks) K h rfl q_4 t3 vI fun a K => binC _ K rfl rfl rfl fun a K => mv K rfl fun a K => ?_
 rcases im hm with ⟨c_5, hm⟩ | ⟨c_5, hm⟩
 · refine g2 K c_5 <| far F56_2 K rfl q_2 o56_2 fun a v_6 K q_7 => g2 K c_5 <| ldr1 (.int .i64 p0.Inodes) K h rfl q_7 t3 vI fun a K => g2 K c_5 <| binC _ K rfl rfl rfl fun a K => pkT K rfl c_5 rfl fun a K => mv K rfl fun a K => ?_
   rcases im hm with ⟨c_8, hm⟩ | ⟨c_8, hm⟩
   · refine g2 K c_8 <| far F56_3 K rfl q_2 o56_3 fun a v_9 K q_10 => g2 K c_8 <| ldr1 (.int .i64 p0.MaxBlocks) K h rfl q_10 t3 vI fun a K => g2 K c_8 <| binC _ K rfl rfl rfl fun a K => pkT K rfl c_8 rfl fun a K => mv K rfl fun a K => ?_
     rcases im hm with ⟨c_11, hm⟩ | ⟨c_11, hm⟩
     · refine g2 K c_11 <| far F56_4 K rfl q_2 o56_4 fun a v_12 K q_13 => g2 K c_11 <| ldr1 (.int .i64 p0.MaxInodes) K h rfl q_13 t3 vI fun a K => g2 K c_11 <| binC _ K rfl rfl rfl fun a K => pkT K rfl c_11 rfl fun a K => asg K rfl fun a K => wn <| wt ?_
       obtain rfl := oi hm
       exact fr f139 K (St.sel [] rfl h) rfl ⟨rfl, ⟨⟩⟩ ⟨rfl, rfl⟩
     refine g1 K c_11 fun a K => g1 K c_11 fun a K => g1 K c_11 fun a K => pkF K rfl c_11 rfl fun a K => asg K rfl fun a K => wn <| wt ?_
     obtain rfl := oi hm
     exact fr f139 K (St.sel [] rfl h) rfl ⟨rfl, ⟨⟩⟩ ⟨rfl, rfl⟩
   refine g1 K c_8 fun a K => g1 K c_8 fun a K => g1 K c_8 fun a K => pkF K rfl c_8 rfl fun a K => mv K rfl fun a K => g1 K rfl fun a K => g1 K rfl fun a K => g1 K rfl fun a K => pkF K rfl rfl rfl fun a K => asg K rfl fun a K => wn <| wt ?_
   obtain rfl := oi hm
   exact fr f139 K (St.sel [] rfl h) rfl ⟨rfl, ⟨⟩⟩ ⟨rfl, rfl⟩
 refine g1 K c_5 fun a K => g1 K c_5 fun a K => g1 K c_5 fun a K => pkF K rfl c_5 rfl fun a K => mv K rfl fun a K => g1 K rfl fun a K => g1 K rfl fun a K => g1 K rfl fun a K => pkF K rfl rfl rfl fun a K => mv K rfl fun a K => g1 K rfl fun a K => g1 K rfl fun a K => g1 K rfl fun a K => pkF K rfl rfl rfl fun a K => asg K rfl fun a K => wn <| wt ?_
 obtain rfl := oi hm
 exact fr f139 K (St.sel [] rfl h) rfl ⟨rfl, ⟨⟩⟩ ⟨rfl, rfl⟩
abbrev R83 (r : Int) (v : Value) (H : Gh) : Prop := v = .int .i64 r
instance monR83 {r : Int} : MonR (R83 r) := ⟨fun _ _ _ _ h => h⟩
theorem c83 {p0 : (List T56)} {r : Int} (hm : m83 p0 = some r) {vp0 : Value} (hp0 : ((kSl k56).val G0 vp0 p0)) (h : St c G0 w []) : Calls prog 83 #[vp0] w (FO c [] (R83 r)) := by
 unfold m83 at hm
 refine enter (n := 63) func83 rfl rfl rfl fun a K => sl <| asg K rfl fun a K => wn <| ws <| sl <| mv K rfl fun a K => lenV K rfl hp0 rfl s32 fun a K => binC _ K rfl rfl rfl fun a K => wn <| ifm hm K rfl (fun _ hm => ?_) fun _ hm => ?_
 · refine sl <| asg K rfl fun a K => wn <| wt ?_
   obtain rfl := oi hm
   exact fr f83 K (St.sel [] rfl h) rfl ⟨rfl, ⟨⟩⟩ ⟨rfl, rfl⟩
 refine wk <| ws <| sl <| mv K rfl fun a K => lenV K rfl hp0 rfl s32 fun a K => mv K rfl fun a K => wn <| wb ?_
 obtain ⟨y_538, hy_538, hm⟩ := bs hm
 refine loop (S := Int) (R := Unit ⊕ Int) (fun s_359 a w => Jn c G0 [] 63 [(0, vp0), (2, .int .i64 0), (8, vp0), (9, .int .i64 (p0.length : Int)), (10, .int .i64 s_359)] a w) (fun (y : Unit ⊕ Int) e a w => match y with | .inl p_539 => e = .exit 0 ∧ Jn c G0 [] 63 [(2, .int .i64 0)] a w | .inr q => e = .ret ∧ bodyPost prog f83 (FO c [] (R83 q)) e a w) hy_538 ⟨G0, gr, (St.sel [] rfl h), (K.sub (so rfl))⟩ ?_ ?_
 · intro s_359 y_541 a w hm hI
   obtain ⟨G110, e_110, h, K⟩ := hI
   unfold m83_l_540 at hm
   refine sl <| binC _ K rfl rfl rfl fun a K => wn <| ws <| ifm hm K rfl (fun _ hm => ?_) fun _ hm => ?_
   · refine wk <| ws <| wb <| sl <| mv K rfl fun a K => ?_
     obtain ⟨g_543, hm⟩ := gs hm
     refine ixs K rfl (Kd.val_mono e_110 hp0) rfl g_543 s32 t56 fun a v_544 K q_545 => ldr K h rfl q_545 t56 fun a v_546 K q_547 => alc K h z56 fun a w bk_548 K h => asg K rfl fun a K => sto 0 Ik56 ([(gt p0 s_359)]) K h rfl rfl rfl rfl q_547 t56 rfl rfl fun w h => wn <| ws ?_
     obtain ⟨x_553, hx_553, hm⟩ := bs hm
     obtain ⟨g_565, hm⟩ := gs hm
     obtain ⟨x_575, hx_575, hm⟩ := nm_some hm
     obtain ⟨g_584, hm⟩ := gs hm
     obtain ⟨x_594, hx_594, hm⟩ := nm_some hm
     obtain ⟨g_603, hm⟩ := gs hm
     obtain ⟨x_613, hx_613, hm⟩ := nm_some hm
     obtain ⟨g_622, hm⟩ := gs hm
     obtain ⟨x_632, hx_632, hm⟩ := nm_some hm
     obtain ⟨g_641, hm⟩ := gs hm
     obtain ⟨x_648, hx_648, hm⟩ := nm_some hm
     obtain ⟨x_657, hx_657, hm⟩ := nm_some hm
     obtain ⟨g_668, hm⟩ := gs hm
     obtain ⟨x_696, hx_696, hm⟩ := nm_some hm
     obtain ⟨x_702, hx_702, hm⟩ := nm_some hm
     refine wh 47 [fE _, fE _, (fE (.bool x_553)), fE _, fE _, (fG (!(!x_553)) (fE (pA bk_548 J56_1))), (fG (!(!x_553)) (fE (.int .i64 ((gt p0 s_359).Blocks)))), (fG (!(!x_553)) (fE (.bool (ov (m84 ((gt p0 s_359).Blocks) 0))))), (fG (!(!x_553)) (fE (.bool (!(ov (m84 ((gt p0 s_359).Blocks) 0)))))), (fE (.bool x_575)), fE _, (fG (!x_575) (fE (pA bk_548 J56_2))), (fG (!x_575) (fE (.int .i64 ((gt p0 s_359).Inodes)))), (fG (!x_575) (fE (.bool (ov (m84 ((gt p0 s_359).Inodes) 0))))), (fG (!x_575) (fE (.bool (!(ov (m84 ((gt p0 s_359).Inodes) 0)))))), (fE (.bool x_594)), fE _, (fG (!x_594) (fE (pA bk_548 J56_3))), (fG (!x_594) (fE (.int .i64 ((gt p0 s_359).MaxBlocks)))), (fG (!x_594) (fE (.bool (ov (m84 ((gt p0 s_359).MaxBlocks) (-1)))))), (fG (!x_594) (fE (.bool (!(ov (m84 ((gt p0 s_359).MaxBlocks) (-1))))))), (fE (.bool x_613)), fE _, (fG (!x_613) (fE (pA bk_548 J56_4))), (fG (!x_613) (fE (.int .i64 ((gt p0 s_359).MaxInodes)))), (fG (!x_613) (fE (.bool (ov (m84 ((gt p0 s_359).MaxInodes) (-1)))))), (fG (!x_613) (fE (.bool (!(ov (m84 ((gt p0 s_359).MaxInodes) (-1))))))), (fE (.bool x_632)), fE _, (fG (!x_632) (fT k56 (gt p0 s_359))), (fG (!x_632) (fE (.bool (ov (m139 (gt p0 s_359)))))), (fE (.bool x_648)), fE _, (fG (!x_648) (fE (.int .i64 s_359))), (fG (!x_648) (fE (.bool (decide (s_359 > 0))))), (fG (!x_648) (fE (.bool x_657))), (fG ((!x_648) && x_657) (fT (kSl k56) p0)), (fG ((!x_648) && x_657) (fE (.int .i64 s_359))), (fG ((!x_648) && x_657) (fE (.int .i64 (wr (s_359 - 1))))), (fG ((!x_648) && x_657) (fT (kRef k56) (gt p0 (wr (s_359 - 1))))), (fG ((!x_648) && x_657) (fT (kRef (kInt .i64)) ((gt p0 (wr (s_359 - 1))).Uid))), (fG ((!x_648) && x_657) (fE (.int .i64 ((gt p0 (wr (s_359 - 1))).Uid)))), (fG ((!x_648) && x_657) (fE (pA bk_548 J56_0))), (fG ((!x_648) && x_657) (fE (.int .i64 ((gt p0 s_359).Uid)))), (fG ((!x_648) && x_657) (fE (.bool (decide ((gt p0 (wr (s_359 - 1))).Uid ≥ (gt p0 s_359).Uid))))), (fG (!x_648) (fE (.bool x_696))), (fE (.bool x_702))] [(0, _), (2, _), (3, _), (4, _), (8, _), (9, _), (10, _), (11, _), (12, _), (13, _), (14, _)] mx K h (so rfl) ⟨hpX [(4, _)] (fun s _ => ⟨s.2.2.2.1, ⟨⟩⟩) fun _ _ K t => fa F56_0 K rfl o56_0 t, hpX [(15, _)] k1 fun _ h K t => ld1 0 J56_0 (.int .i64 ((gt p0 s_359).Uid)) K h rfl rfl rfl t3 vI t, ?_, hpX [(17, _)] k1 fun _ _ K t => notB _ K rfl rfl t, hpX [(18, _)] k1 fun _ _ K t => mv K rfl t, Hp.gd 0 rfl rfl rfl rfl rfl rfl gE_f rfl (fun hc => hpX [(4, _)] (fun s _ => ⟨s.2.2.2.1, ⟨⟩⟩) fun _ _ K t => fa F56_1 K rfl o56_1 t) nilE, ?_, ?_, ?_, ?_, hpX [(24, _)] k1 fun _ _ K t => mv K rfl t, Hp.gd 0 rfl rfl rfl rfl rfl rfl gE_f rfl (fun hc => hpX [(4, _)] (fun s _ => ⟨s.2.2.2.1, ⟨⟩⟩) fun _ _ K t => fa F56_2 K rfl o56_2 t) nilE, ?_, ?_, ?_, ?_, hpX [(30, _)] k1 fun _ _ K t => mv K rfl t, Hp.gd 0 rfl rfl rfl rfl rfl rfl gE_f rfl (fun hc => hpX [(4, _)] (fun s _ => ⟨s.2.2.2.1, ⟨⟩⟩) fun _ _ K t => fa F56_3 K rfl o56_3 t) nilE, ?_, ?_, ?_, ?_, hpX [(36, _)] k1 fun _ _ K t => mv K rfl t, Hp.gd 0 rfl rfl rfl rfl rfl rfl gE_f rfl (fun hc => hpX [(4, _)] (fun s _ => ⟨s.2.2.2.1, ⟨⟩⟩) fun _ _ K t => fa F56_4 K rfl o56_4 t) nilE, ?_, ?_, ?_, ?_, hpX [(42, _)] k1 fun _ _ K t => mv K rfl t, Hp.gd 0 rfl rfl rfl rfl rfl rfl gE_f rfl (fun hc => hpT [(4, _)] (fun s _ => ⟨s.2.2.2.1, ⟨⟩⟩) fun _ h K t => ld 0 Ik56 K h rfl rfl rfl t56 t) nilT, ?_, ?_, hpX [(46, _)] k1 fun _ _ K t => mv K rfl t, Hp.gd 0 rfl rfl rfl rfl rfl rfl gE_f rfl (fun hc => hpX [(3, _)] (fun s _ => ⟨s.2.2.1, ⟨⟩⟩) fun _ _ K t => mv K rfl t) nilE, ?_, ?_, ?_, Hp.gd 0 rfl rfl rfl rfl rfl rfl gG_t rfl (fun hc => hpX [(3, _)] (fun s _ => ⟨s.2.2.1, ⟨⟩⟩) fun _ _ K t => mv K rfl t) nilE, ?_, ?_, ?_, ?_, Hp.gd 0 rfl rfl rfl rfl rfl rfl gG_t rfl (fun hc => hpX [(4, _)] (fun s _ => ⟨s.2.2.2.1, ⟨⟩⟩) fun _ _ K t => fa F56_0 K rfl o56_0 t) nilE, ?_, ?_, ?_, ?_, ⟨⟩⟩ ?_
     · intro a w G168 L X e_168 h K hs hk
       obtain ⟨v_551, _, l_552, -, rfl⟩ := hk.1
       have hx : Sy.sub L [(16, .int .i64 ((gt p0 s_359).Uid))] := ⟨l_552, ⟨⟩⟩
       replace K := K.addx _ hx
       refine clp K h rfl b84 (fun h => c84 hx_553 h) fun a w v G169 K e_169 h hR_554 => ?_
       obtain rfl := hR_554
       refine wn <| ⟨rfl, G169, [], e_169, h, _, K.dropx _ hx, ⟨rfl, rfl⟩⟩
     · refine Hp.gd 1 rfl rfl rfl rfl rfl rfl gE_f rfl (fun hc => ?_) nilE
       intro a w G173 L X e_173 h K hs hk
       obtain ⟨v_559, _, l_560, -, f_561, -⟩ := hk.1
       obtain ⟨-, rfl⟩ := f_561 hc
       have hx : Sy.sub L [(20, (pA bk_548 J56_1))] := ⟨l_560, ⟨⟩⟩
       replace K := K.addx _ hx
       refine ld1 0 J56_1 (.int .i64 ((gt p0 s_359).Blocks)) K h rfl rfl rfl t3 vI fun a K => wn <| ⟨rfl, G173, [], gr, h, _, K.dropx _ hx, ⟨rfl, rfl⟩⟩
     · refine Hp.gd 1 rfl rfl rfl rfl rfl rfl gE_f rfl (fun hc => ?_) nilE
       intro a w G174 L X e_174 h K hs hk
       obtain ⟨v_562, _, l_563, -, f_564, -⟩ := hk.1
       obtain ⟨-, rfl⟩ := f_564 hc
       have hx : Sy.sub L [(21, .int .i64 ((gt p0 s_359).Blocks))] := ⟨l_563, ⟨⟩⟩
       replace K := K.addx _ hx
       refine clp K h rfl b84 (fun h => c84 (ovs (orr g_565 hc)) h) fun a w v G175 K e_175 h hR_566 => ?_
       obtain rfl := hR_566
       refine wn <| ⟨rfl, G175, [], e_175, h, _, K.dropx _ hx, ⟨rfl, rfl⟩⟩
     · refine Hp.gd 1 rfl rfl rfl rfl rfl rfl gE_f rfl (fun hc => ?_) nilE
       intro a w G176 L X e_176 h K hs hk
       obtain ⟨v_567, _, l_568, -, f_569, -⟩ := hk.1
       obtain ⟨-, rfl⟩ := f_569 hc
       have hx : Sy.sub L [(22, .bool (ov (m84 ((gt p0 s_359).Blocks) 0)))] := ⟨l_568, ⟨⟩⟩
       replace K := K.addx _ hx
       refine notB _ K rfl rfl fun a K => wn <| ⟨rfl, G176, [], gr, h, _, K.dropx _ hx, ⟨rfl, rfl⟩⟩
     · intro a w G177 L X e_177 h K hs hk
       obtain ⟨v_570, _, l_571, -, rfl⟩ := hk.1
       obtain ⟨v_572, _, l_573, -, f_574, -⟩ := hk.2.1
       have hx : Sy.sub L [(19, .bool (!x_553)), (23, v_572)] := ⟨l_571, l_573, ⟨⟩⟩
       replace K := K.addx _ hx
       refine pickOr K rfl rfl rfl (fun hA => (f_574 (not_f hA)).2) fun a K => wn <| ⟨rfl, G177, [], gr, h, _, K.dropx _ hx, ⟨rfl, congrArg Value.bool hx_575.symm⟩⟩
     · refine Hp.gd 1 rfl rfl rfl rfl rfl rfl gE_f rfl (fun hc => ?_) nilE
       intro a w G180 L X e_180 h K hs hk
       obtain ⟨v_578, _, l_579, -, f_580, -⟩ := hk.1
       obtain ⟨-, rfl⟩ := f_580 hc
       have hx : Sy.sub L [(26, (pA bk_548 J56_2))] := ⟨l_579, ⟨⟩⟩
       replace K := K.addx _ hx
       refine ld1 0 J56_2 (.int .i64 ((gt p0 s_359).Inodes)) K h rfl rfl rfl t3 vI fun a K => wn <| ⟨rfl, G180, [], gr, h, _, K.dropx _ hx, ⟨rfl, rfl⟩⟩
     · refine Hp.gd 1 rfl rfl rfl rfl rfl rfl gE_f rfl (fun hc => ?_) nilE
       intro a w G181 L X e_181 h K hs hk
       obtain ⟨v_581, _, l_582, -, f_583, -⟩ := hk.1
       obtain ⟨-, rfl⟩ := f_583 hc
       have hx : Sy.sub L [(27, .int .i64 ((gt p0 s_359).Inodes))] := ⟨l_582, ⟨⟩⟩
       replace K := K.addx _ hx
       refine clp K h rfl b84 (fun h => c84 (ovs (orr g_584 hc)) h) fun a w v G182 K e_182 h hR_585 => ?_
       obtain rfl := hR_585
       refine wn <| ⟨rfl, G182, [], e_182, h, _, K.dropx _ hx, ⟨rfl, rfl⟩⟩
     · refine Hp.gd 1 rfl rfl rfl rfl rfl rfl gE_f rfl (fun hc => ?_) nilE
       intro a w G183 L X e_183 h K hs hk
       obtain ⟨v_586, _, l_587, -, f_588, -⟩ := hk.1
       obtain ⟨-, rfl⟩ := f_588 hc
       have hx : Sy.sub L [(28, .bool (ov (m84 ((gt p0 s_359).Inodes) 0)))] := ⟨l_587, ⟨⟩⟩
       replace K := K.addx _ hx
       refine notB _ K rfl rfl fun a K => wn <| ⟨rfl, G183, [], gr, h, _, K.dropx _ hx, ⟨rfl, rfl⟩⟩
     · intro a w G184 L X e_184 h K hs hk
       obtain ⟨v_589, _, l_590, -, rfl⟩ := hk.1
       obtain ⟨v_591, _, l_592, -, f_593, -⟩ := hk.2.1
       have hx : Sy.sub L [(25, .bool x_575), (29, v_591)] := ⟨l_590, l_592, ⟨⟩⟩
       replace K := K.addx _ hx
       refine pickOr K rfl rfl rfl (fun hA => (f_593 (not_f hA)).2) fun a K => wn <| ⟨rfl, G184, [], gr, h, _, K.dropx _ hx, ⟨rfl, congrArg Value.bool hx_594.symm⟩⟩
     · refine Hp.gd 1 rfl rfl rfl rfl rfl rfl gE_f rfl (fun hc => ?_) nilE
       intro a w G187 L X e_187 h K hs hk
       obtain ⟨v_597, _, l_598, -, f_599, -⟩ := hk.1
       obtain ⟨-, rfl⟩ := f_599 hc
       have hx : Sy.sub L [(32, (pA bk_548 J56_3))] := ⟨l_598, ⟨⟩⟩
       replace K := K.addx _ hx
       refine ld1 0 J56_3 (.int .i64 ((gt p0 s_359).MaxBlocks)) K h rfl rfl rfl t3 vI fun a K => wn <| ⟨rfl, G187, [], gr, h, _, K.dropx _ hx, ⟨rfl, rfl⟩⟩
     · refine Hp.gd 1 rfl rfl rfl rfl rfl rfl gE_f rfl (fun hc => ?_) nilE
       intro a w G188 L X e_188 h K hs hk
       obtain ⟨v_600, _, l_601, -, f_602, -⟩ := hk.1
       obtain ⟨-, rfl⟩ := f_602 hc
       have hx : Sy.sub L [(33, .int .i64 ((gt p0 s_359).MaxBlocks))] := ⟨l_601, ⟨⟩⟩
       replace K := K.addx _ hx
       refine clp K h rfl b84 (fun h => c84 (ovs (orr g_603 hc)) h) fun a w v G189 K e_189 h hR_604 => ?_
       obtain rfl := hR_604
       refine wn <| ⟨rfl, G189, [], e_189, h, _, K.dropx _ hx, ⟨rfl, rfl⟩⟩
     · refine Hp.gd 1 rfl rfl rfl rfl rfl rfl gE_f rfl (fun hc => ?_) nilE
       intro a w G190 L X e_190 h K hs hk
       obtain ⟨v_605, _, l_606, -, f_607, -⟩ := hk.1
       obtain ⟨-, rfl⟩ := f_607 hc
       have hx : Sy.sub L [(34, .bool (ov (m84 ((gt p0 s_359).MaxBlocks) (-1))))] := ⟨l_606, ⟨⟩⟩
       replace K := K.addx _ hx
       refine notB _ K rfl rfl fun a K => wn <| ⟨rfl, G190, [], gr, h, _, K.dropx _ hx, ⟨rfl, rfl⟩⟩
     · intro a w G191 L X e_191 h K hs hk
       obtain ⟨v_608, _, l_609, -, rfl⟩ := hk.1
       obtain ⟨v_610, _, l_611, -, f_612, -⟩ := hk.2.1
       have hx : Sy.sub L [(31, .bool x_594), (35, v_610)] := ⟨l_609, l_611, ⟨⟩⟩
       replace K := K.addx _ hx
       refine pickOr K rfl rfl rfl (fun hA => (f_612 (not_f hA)).2) fun a K => wn <| ⟨rfl, G191, [], gr, h, _, K.dropx _ hx, ⟨rfl, congrArg Value.bool hx_613.symm⟩⟩
     · refine Hp.gd 1 rfl rfl rfl rfl rfl rfl gE_f rfl (fun hc => ?_) nilE
       intro a w G194 L X e_194 h K hs hk
       obtain ⟨v_616, _, l_617, -, f_618, -⟩ := hk.1
       obtain ⟨-, rfl⟩ := f_618 hc
       have hx : Sy.sub L [(38, (pA bk_548 J56_4))] := ⟨l_617, ⟨⟩⟩
       replace K := K.addx _ hx
       refine ld1 0 J56_4 (.int .i64 ((gt p0 s_359).MaxInodes)) K h rfl rfl rfl t3 vI fun a K => wn <| ⟨rfl, G194, [], gr, h, _, K.dropx _ hx, ⟨rfl, rfl⟩⟩
     · refine Hp.gd 1 rfl rfl rfl rfl rfl rfl gE_f rfl (fun hc => ?_) nilE
       intro a w G195 L X e_195 h K hs hk
       obtain ⟨v_619, _, l_620, -, f_621, -⟩ := hk.1
       obtain ⟨-, rfl⟩ := f_621 hc
       have hx : Sy.sub L [(39, .int .i64 ((gt p0 s_359).MaxInodes))] := ⟨l_620, ⟨⟩⟩
       replace K := K.addx _ hx
       refine clp K h rfl b84 (fun h => c84 (ovs (orr g_622 hc)) h) fun a w v G196 K e_196 h hR_623 => ?_
       obtain rfl := hR_623
       refine wn <| ⟨rfl, G196, [], e_196, h, _, K.dropx _ hx, ⟨rfl, rfl⟩⟩
     · refine Hp.gd 1 rfl rfl rfl rfl rfl rfl gE_f rfl (fun hc => ?_) nilE
       intro a w G197 L X e_197 h K hs hk
       obtain ⟨v_624, _, l_625, -, f_626, -⟩ := hk.1
       obtain ⟨-, rfl⟩ := f_626 hc
       have hx : Sy.sub L [(40, .bool (ov (m84 ((gt p0 s_359).MaxInodes) (-1))))] := ⟨l_625, ⟨⟩⟩
       replace K := K.addx _ hx
       refine notB _ K rfl rfl fun a K => wn <| ⟨rfl, G197, [], gr, h, _, K.dropx _ hx, ⟨rfl, rfl⟩⟩
     · intro a w G198 L X e_198 h K hs hk
       obtain ⟨v_627, _, l_628, -, rfl⟩ := hk.1
       obtain ⟨v_629, _, l_630, -, f_631, -⟩ := hk.2.1
       have hx : Sy.sub L [(37, .bool x_613), (41, v_629)] := ⟨l_628, l_630, ⟨⟩⟩
       replace K := K.addx _ hx
       refine pickOr K rfl rfl rfl (fun hA => (f_631 (not_f hA)).2) fun a K => wn <| ⟨rfl, G198, [], gr, h, _, K.dropx _ hx, ⟨rfl, congrArg Value.bool hx_632.symm⟩⟩
     · refine Hp.gd 1 rfl rfl rfl rfl rfl rfl gE_f rfl (fun hc => ?_) nilE
       intro a w G201 L X e_201 h K hs hk
       obtain ⟨v_637, _, l_638, -, f_639, -⟩ := hk.1
       obtain ⟨-, q_640⟩ := f_639 hc
       have hx : Sy.sub L [(44, v_637)] := ⟨l_638, ⟨⟩⟩
       replace K := K.addx _ hx
       refine clp K h rfl b139 (fun h => c139 (ovs (orr g_641 hc)) q_640 h) fun a w v G202 K e_202 h hR_642 => ?_
       obtain rfl := hR_642
       refine wn <| ⟨rfl, G202, [], e_202, h, _, K.dropx _ hx, ⟨rfl, rfl⟩⟩
     · intro a w G203 L X e_203 h K hs hk
       obtain ⟨v_643, _, l_644, -, rfl⟩ := hk.1
       obtain ⟨v_645, _, l_646, -, f_647, -⟩ := hk.2.1
       have hx : Sy.sub L [(43, .bool x_632), (45, v_645)] := ⟨l_644, l_646, ⟨⟩⟩
       replace K := K.addx _ hx
       refine pickOr K rfl rfl rfl (fun hA => (f_647 (not_f hA)).2) fun a K => wn <| ⟨rfl, G203, [], gr, h, _, K.dropx _ hx, ⟨rfl, congrArg Value.bool hx_648.symm⟩⟩
     · refine Hp.gd 1 rfl rfl rfl rfl rfl rfl gE_f rfl (fun hc => ?_) nilE
       intro a w G206 L X e_206 h K hs hk
       obtain ⟨v_651, _, l_652, -, f_653, -⟩ := hk.1
       obtain ⟨-, rfl⟩ := f_653 hc
       have hx : Sy.sub L [(48, .int .i64 s_359)] := ⟨l_652, ⟨⟩⟩
       replace K := K.addx _ hx
       refine binC _ K rfl rfl rfl fun a K => wn <| ⟨rfl, G206, [], gr, h, _, K.dropx _ hx, ⟨rfl, rfl⟩⟩
     · refine Hp.gd 1 rfl rfl rfl rfl rfl rfl gE_f rfl (fun hc => ?_) nilE
       intro a w G207 L X e_207 h K hs hk
       obtain ⟨v_654, _, l_655, -, f_656, -⟩ := hk.1
       obtain ⟨-, rfl⟩ := f_656 hc
       have hx : Sy.sub L [(49, .bool (decide (s_359 > 0)))] := ⟨l_655, ⟨⟩⟩
       replace K := K.addx _ hx
       refine mv K rfl fun a K => wn <| ⟨rfl, G207, [], gr, h, _, K.dropx _ hx, ⟨rfl, congrArg Value.bool hx_657.symm⟩⟩
     · refine Hp.gd 0 rfl rfl rfl rfl rfl rfl gG_t rfl (fun hc => ?_) nilT
       intro a w G208 L X e_208 h K hs hk
       have hx : Sy.sub L [(0, vp0)] := ⟨hs.1, ⟨⟩⟩
       replace K := K.addx _ hx
       refine mv K rfl fun a K => wn <| ⟨rfl, G208, [], gr, h, _, K.dropx _ hx, ⟨rfl, (Kd.val_mono (Gh.trans e_110 e_208) hp0)⟩⟩
     · refine Hp.gd 1 rfl rfl rfl rfl rfl rfl gG_t rfl (fun hc => ?_) nilE
       intro a w G210 L X e_210 h K hs hk
       obtain ⟨v_658, _, l_659, -, f_660, -⟩ := hk.1
       obtain ⟨-, rfl⟩ := f_660 hc
       have hx : Sy.sub L [(52, .int .i64 s_359)] := ⟨l_659, ⟨⟩⟩
       replace K := K.addx _ hx
       refine binI _ K rfl rfl rfl fun a K => wn <| ⟨rfl, G210, [], gr, h, _, K.dropx _ hx, ⟨rfl, rfl⟩⟩
     · refine Hp.gd 2 rfl rfl rfl rfl rfl rfl gG_t rfl (fun hc => ?_) nilT
       intro a w G211 L X e_211 h K hs hk
       obtain ⟨v_661, _, l_662, -, f_663, -⟩ := hk.1
       obtain ⟨-, q_664⟩ := f_663 hc
       obtain ⟨v_665, _, l_666, -, f_667, -⟩ := hk.2.1
       obtain ⟨-, rfl⟩ := f_667 hc
       have hx : Sy.sub L [(51, v_661), (53, .int .i64 (wr (s_359 - 1)))] := ⟨l_662, l_666, ⟨⟩⟩
       replace K := K.addx _ hx
       refine ixs K rfl q_664 rfl (orr g_668 hc) s32 t56 fun a v_669 K q_670 => wn <| ⟨rfl, G211, [], gr, h, _, K.dropx _ hx, ⟨rfl, q_670⟩⟩
     · refine Hp.gd 1 rfl rfl rfl rfl rfl rfl gG_t rfl (fun hc => ?_) nilT
       intro a w G212 L X e_212 h K hs hk
       obtain ⟨v_671, _, l_672, -, f_673, -⟩ := hk.1
       obtain ⟨-, q_674⟩ := f_673 hc
       have hx : Sy.sub L [(54, v_671)] := ⟨l_672, ⟨⟩⟩
       replace K := K.addx _ hx
       refine far F56_0 K rfl q_674 o56_0 fun a v_675 K q_676 => ?_
       replace q_676 : (kRef (kInt .i64)).val _ v_675 ((gt p0 (wr (s_359 - 1))).Uid) := q_676
       refine wn <| ⟨rfl, G212, [], gr, h, _, K.dropx _ hx, ⟨rfl, q_676⟩⟩
     · refine Hp.gd 1 rfl rfl rfl rfl rfl rfl gG_t rfl (fun hc => ?_) nilE
       intro a w G213 L X e_213 h K hs hk
       obtain ⟨v_677, _, l_678, -, f_679, -⟩ := hk.1
       obtain ⟨-, q_680⟩ := f_679 hc
       have hx : Sy.sub L [(55, v_677)] := ⟨l_678, ⟨⟩⟩
       replace K := K.addx _ hx
       refine ldr1 (.int .i64 ((gt p0 (wr (s_359 - 1))).Uid)) K h rfl q_680 t3 vI fun a K => wn <| ⟨rfl, G213, [], gr, h, _, K.dropx _ hx, ⟨rfl, rfl⟩⟩
     · refine Hp.gd 1 rfl rfl rfl rfl rfl rfl gG_t rfl (fun hc => ?_) nilE
       intro a w G215 L X e_215 h K hs hk
       obtain ⟨v_681, _, l_682, -, f_683, -⟩ := hk.1
       obtain ⟨-, rfl⟩ := f_683 hc
       have hx : Sy.sub L [(57, (pA bk_548 J56_0))] := ⟨l_682, ⟨⟩⟩
       replace K := K.addx _ hx
       refine ld1 0 J56_0 (.int .i64 ((gt p0 s_359).Uid)) K h rfl rfl rfl t3 vI fun a K => wn <| ⟨rfl, G215, [], gr, h, _, K.dropx _ hx, ⟨rfl, rfl⟩⟩
     · refine Hp.gd 2 rfl rfl rfl rfl rfl rfl gG_t rfl (fun hc => ?_) nilE
       intro a w G216 L X e_216 h K hs hk
       obtain ⟨v_684, _, l_685, -, f_686, -⟩ := hk.1
       obtain ⟨-, rfl⟩ := f_686 hc
       obtain ⟨v_687, _, l_688, -, f_689, -⟩ := hk.2.1
       obtain ⟨-, rfl⟩ := f_689 hc
       have hx : Sy.sub L [(56, .int .i64 ((gt p0 (wr (s_359 - 1))).Uid)), (58, .int .i64 ((gt p0 s_359).Uid))] := ⟨l_685, l_688, ⟨⟩⟩
       replace K := K.addx _ hx
       refine binC _ K rfl rfl rfl fun a K => wn <| ⟨rfl, G216, [], gr, h, _, K.dropx _ hx, ⟨rfl, rfl⟩⟩
     · refine Hp.gd 2 rfl rfl rfl rfl rfl rfl gE_f rfl (fun hc => ?_) nilE
       intro a w G217 L X e_217 h K hs hk
       obtain ⟨v_690, _, l_691, -, f_692, -⟩ := hk.1
       obtain ⟨-, rfl⟩ := f_692 hc
       obtain ⟨v_693, _, l_694, -, f_695, -⟩ := hk.2.1
       have hx : Sy.sub L [(50, .bool x_657), (59, v_693)] := ⟨l_691, l_694, ⟨⟩⟩
       replace K := K.addx _ hx
       refine pickAnd K rfl rfl rfl (fun hA => (f_695 (and_i hc hA)).2) fun a K => wn <| ⟨rfl, G217, [], gr, h, _, K.dropx _ hx, ⟨rfl, congrArg Value.bool hx_696.symm⟩⟩
     · intro a w G218 L X e_218 h K hs hk
       obtain ⟨v_697, _, l_698, -, rfl⟩ := hk.1
       obtain ⟨v_699, _, l_700, -, f_701, -⟩ := hk.2.1
       have hx : Sy.sub L [(47, .bool x_648), (60, v_699)] := ⟨l_698, l_700, ⟨⟩⟩
       replace K := K.addx _ hx
       refine pickOr K rfl rfl rfl (fun hA => (f_701 (not_f hA)).2) fun a K => wn <| ⟨rfl, G218, [], gr, h, _, K.dropx _ hx, ⟨rfl, congrArg Value.bool hx_702.symm⟩⟩
     intro a w G219 L e_219 h K hs hg
     replace K := K.sub (l' := [(15, _), (16, _), (17, _), (18, _), (19, _), (24, _), (25, _), (30, _), (31, _), (36, _), (37, _), (42, _), (43, _), (46, _), (47, _), (61, _), (0, _), (2, _), (3, _), (4, _), (8, _), (9, _), (10, _), (11, _), (12, _), (13, _), (14, _)]) ⟨gE (hg 0 rfl rfl), gE (hg 1 rfl rfl), gE (hg 2 rfl rfl), gE (hg 3 rfl rfl), gE (hg 4 rfl rfl), gE (hg 9 rfl rfl), gE (hg 10 rfl rfl), gE (hg 15 rfl rfl), gE (hg 16 rfl rfl), gE (hg 21 rfl rfl), gE (hg 22 rfl rfl), gE (hg 27 rfl rfl), gE (hg 28 rfl rfl), gE (hg 31 rfl rfl), gE (hg 32 rfl rfl), gE (hg 46 rfl rfl), hs.1, hs.2.1, hs.2.2.1, hs.2.2.2.1, hs.2.2.2.2.1, hs.2.2.2.2.2.1, hs.2.2.2.2.2.2.1, hs.2.2.2.2.2.2.2.1, hs.2.2.2.2.2.2.2.2.1, hs.2.2.2.2.2.2.2.2.2.1, hs.2.2.2.2.2.2.2.2.2.2.1, ⟨⟩⟩
     refine wn <| ifm hm K rfl (fun _ hm => ?_) fun _ hm => ?_
     · refine sl <| asg K rfl fun a K => wn <| wt ?_
       obtain rfl := oi hm
       exact ⟨by simp, rfl, (fr f83 K (St.sel [] rfl h) rfl ⟨rfl, ⟨⟩⟩ ⟨rfl, rfl⟩)⟩
     refine wk <| wl <| binI _ K rfl rfl rfl fun a K => mv K rfl fun a K => wn ?_
     obtain rfl := oi hm
     exact ⟨rfl, ⟨G219, (Gh.trans e_110 e_219), (St.sel [] rfl h), (K.sub (so rfl))⟩⟩
   refine wp_exit ?_
   obtain rfl := oi hm
   exact ⟨by simp, rfl, ⟨G110, e_110, (St.sel [] rfl h), (K.sub ⟨rfl, ⟨⟩⟩)⟩⟩
 intro e a w hD
 rcases y_538 with p_539 | q_720
 · simp only [Sum.elim_inl, Sum.elim_inr] at hm
   obtain ⟨rfl, ⟨G165, e_165, h, K⟩⟩ := hD
   refine sl <| asg K rfl fun a K => wn <| wt ?_
   obtain rfl := oi hm
   exact fr f83 K (St.sel [] rfl h) rfl ⟨rfl, ⟨⟩⟩ ⟨rfl, rfl⟩
 simp only [Sum.elim_inr] at hm
 obtain rfl := oi hm
 obtain ⟨rfl, hD⟩ := hD
 exact hD
abbrev R85 (r : T56) (v : Value) (H : Gh) : Prop := k56.val H v r
instance monR85 {r : T56} : MonR (R85 r) := ⟨fun _ _ _ e h => Kd.val_mono e h⟩
theorem c85 {p0 : (List T56)} {p1 : Int} {r : T56} (hm : m85 p0 p1 = some r) {vp0 : Value} (hp0 : ((kSl k56).val G0 vp0 p0)) (h : St c G0 w []) : Calls prog 85 #[vp0, .int .i64 p1] w (FO c [] (R85 r)) := by
 unfold m85 at hm
 refine enter (n := 21) func85 rfl rfl rfl fun a K => sl <| alc K h z56 fun a w bk_1 K h => wn <| ws <| sl <| mv K rfl fun a K => lenV K rfl hp0 rfl s32 fun a K => mv K rfl fun a K => wn <| wb ?_
 obtain ⟨y_34, hy_34, hm⟩ := bs hm
 refine loop (S := Int) (R := Unit ⊕ T56) (fun s_23 a w => Jn c G0 [⟨k56, [Z56], 1, (some bk_1), 56⟩] 21 [(1, .int .i64 p1), (4, (pA bk_1 Ik56)), (7, vp0), (8, .int .i64 (p0.length : Int)), (9, .int .i64 s_23)] a w) (fun (y : Unit ⊕ T56) e a w => match y with | .inl p_35 => e = .exit 0 ∧ Jn c G0 [⟨k56, [Z56], 1, (some bk_1), 56⟩] 21 [(1, .int .i64 p1), (4, (pA bk_1 Ik56))] a w | .inr q => e = .ret ∧ bodyPost prog f85 (FO c [] (R85 q)) e a w) hy_34 ⟨G0, gr, (St.sel [0] rfl h), (K.sub (so rfl))⟩ ?_ ?_
 · intro s_23 y_37 a w hm hI
   obtain ⟨G2, e_2, h, K⟩ := hI
   unfold m85_l_36 at hm
   refine sl <| binC _ K rfl rfl rfl fun a K => wn <| ws <| ifm hm K rfl (fun _ hm => ?_) fun _ hm => ?_
   · refine wk <| ws <| wb <| ws <| wl ?_
     obtain ⟨g_39, hm⟩ := gs hm
     refine ixs K rfl (Kd.val_mono e_2 hp0) rfl g_39 s32 t56 fun a v_40 K q_41 => ldr K h rfl q_41 t56 fun a v_42 K q_43 => alc K h z56 fun a w bk_44 K h => sto 0 Ik56 ([(gt p0 s_23)]) K h rfl rfl rfl rfl q_43 t56 rfl rfl fun w h => nsl <| fa F56_0 K rfl o56_0 fun a K => ld1 0 J56_0 (.int .i64 ((gt p0 s_23).Uid)) K h rfl rfl rfl t3 vI fun a K => mv K rfl fun a K => binC _ K rfl rfl rfl fun a K => wn <| ifm hm K rfl (fun _ hm => ?_) fun _ hm => ?_
     · refine sl <| ld 0 Ik56 K h rfl rfl rfl t56 fun a v_46 K q_47 => sto 1 Ik56 ([(gt p0 s_23)]) K h rfl rfl rfl rfl q_47 t56 rfl rfl fun w h => wn <| wt ?_
       obtain ⟨v_48, q_49, rb_50⟩ := resOwn (P := prog) (i := 0) (p := 4) 1 Ik56 h rfl (K.lk_eq 4 rfl) rfl t56
       obtain rfl := oi hm
       exact ⟨by simp, rfl, (fr f85 K (St.sel [] rfl h) rfl ⟨rb_50, ⟨⟩⟩ ⟨rfl, q_49⟩)⟩
     refine wk <| wl <| binI _ K rfl rfl rfl fun a K => mv K rfl fun a K => wn ?_
     obtain rfl := oi hm
     exact ⟨rfl, ⟨G2, e_2, (St.sel [1] rfl h), (K.sub (so rfl))⟩⟩
   refine wp_exit ?_
   obtain rfl := oi hm
   exact ⟨by simp, rfl, ⟨G2, e_2, (St.sel [0] rfl h), (K.sub (so rfl))⟩⟩
 intro e a w hD
 rcases y_34 with p_35 | q_56
 · simp only [Sum.elim_inl, Sum.elim_inr] at hm
   obtain ⟨rfl, ⟨G3, e_3, h, K⟩⟩ := hD
   refine sl <| mv K rfl fun a K => bld (⟨p1, 0, 0, (-1), (-1)⟩ : T56) K h rfl pl56 rfl z56 (.cons F56_0 rfl int_val (.cons F56_3 rfl int_val (.cons F56_4 rfl int_val .nil))) fun a v_51 K q_52 => sto 0 Ik56 ([(⟨p1, 0, 0, (-1), (-1)⟩ : T56)]) K h rfl rfl rfl rfl q_52 t56 rfl rfl fun w h => wn <| wt ?_
   obtain ⟨v_53, q_54, rb_55⟩ := resOwn (P := prog) (i := 0) (p := 4) 0 Ik56 h rfl (K.lk_eq 4 rfl) rfl t56
   obtain rfl := oi hm
   exact fr f85 K (St.sel [] rfl h) rfl ⟨rb_55, ⟨⟩⟩ ⟨rfl, q_54⟩
 simp only [Sum.elim_inr] at hm
 obtain rfl := oi hm
 obtain ⟨rfl, hD⟩ := hD
 exact hD
abbrev R86 (r : Bool) (v : Value) (H : Gh) : Prop := v = .bool r
instance monR86 {r : Bool} : MonR (R86 r) := ⟨fun _ _ _ _ h => h⟩
theorem c86 {p0 : Int} {p1 : Int} {p2 : Int} {r : Bool} (hm : m86 p0 p1 p2 = some r) (h : St c G0 w []) : Calls prog 86 #[.int .i64 p0, .int .i64 p1, .int .i64 p2] w (FO c [] (R86 r)) := by
 unfold m86 at hm
 refine enter (n := 18) func86 rfl rfl rfl fun a K => sl <| asg K rfl fun a K => nsl <| mv K rfl fun a K => binC _ K rfl rfl rfl fun a K => mv K rfl fun a K => ?_
 rcases im hm with ⟨c_1, hm⟩ | ⟨c_1, hm⟩
 · refine g2 K c_1 <| mv K rfl fun a K => g2 K c_1 <| binC _ K rfl rfl rfl fun a K => pkT K rfl c_1 rfl fun a K => mv K rfl fun a K => ?_
   rcases im hm with ⟨c_2, hm⟩ | ⟨c_2, hm⟩
   · refine g2 K c_2 <| mv K rfl fun a K => g2 K c_2 <| mv K rfl fun a K => g2 K c_2 <| binC _ K rfl rfl rfl fun a K => pkT K rfl c_2 rfl fun a K => asg K rfl fun a K => wn <| wt ?_
     obtain rfl := oi hm
     exact fr f86 K (St.sel [] rfl h) rfl ⟨rfl, ⟨⟩⟩ ⟨rfl, rfl⟩
   refine g1 K c_2 fun a K => g1 K c_2 fun a K => g1 K c_2 fun a K => pkF K rfl c_2 rfl fun a K => asg K rfl fun a K => wn <| wt ?_
   obtain rfl := oi hm
   exact fr f86 K (St.sel [] rfl h) rfl ⟨rfl, ⟨⟩⟩ ⟨rfl, rfl⟩
 refine g1 K c_1 fun a K => g1 K c_1 fun a K => pkF K rfl c_1 rfl fun a K => mv K rfl fun a K => g1 K rfl fun a K => g1 K rfl fun a K => g1 K rfl fun a K => pkF K rfl rfl rfl fun a K => asg K rfl fun a K => wn <| wt ?_
 obtain rfl := oi hm
 exact fr f86 K (St.sel [] rfl h) rfl ⟨rfl, ⟨⟩⟩ ⟨rfl, rfl⟩
theorem cO39 {p0 r : List T56} (hm : m39 p0 = some r) {b m : Nat} (h : St c G0 w [⟨k56, p0, m, some b, 56⟩]) : Calls prog 39 #[hdr (some b) p0.length m] w (Fin c fun v H Δ => ∃ Δn, Δ = [⟨k56, p0, m, some b, 56⟩] ++ Δn ∧ ∃ b2 m2, Δn = [⟨k56, r, m2, some b2, 56⟩] ∧ v = hdr (some b2) r.length m2) := by
 obtain ⟨g, hm⟩ := gs hm
 obtain rfl := oi hm
 refine enter (n := 8) func39 rfl rfl rfl fun a K => sl <| asg K rfl fun a K => wn <| ws <| sl <| mv K rfl fun a K => binSl _ K rfl rfl s32 rfl fun a K => wn <| ifF K rfl rfl <| wk <| sl <| bldS0 (f := k56) K h s32 t56 fun a w b2 K h => mv K rfl fun a K => appO 0 1 K h rfl rfl rfl rfl rfl s32 s32 e56 g fun a w b3 m3 K h => asg K rfl fun a K => wn <| wt <| fr f39 K (St.sel [1, 0] rfl h) rfl ⟨rfl, ⟨⟩⟩ ⟨_, rfl, b3, m3, rfl, rfl⟩
theorem cV39 {p0 r : List T56} (hm : m39 p0 = some r) {v0 : Value} (h0 : (kSl k56).val G0 v0 p0) (h : St c G0 w []) : Calls prog 39 #[v0] w (Fin c fun v H Δ => ∃ Δn, Δ = [] ++ Δn ∧ ∃ b2 m2, Δn = [⟨k56, r, m2, b2, 56⟩] ∧ v = hdr b2 r.length m2) := by
 obtain ⟨g, hm⟩ := gs hm
 obtain rfl := oi hm
 obtain ⟨q, cp, rfl, hl, hq, -⟩ := kSl_val.1 h0
 cases q with
 | none =>
    obtain rfl := List.eq_nil_of_length_eq_zero (show p0.length = 0 by have := hq rfl; omega)
    simp only [List.length_nil]
    refine enter (n := 8) func39 rfl rfl rfl fun a K => ?_
    refine ws ?_
    refine wl ?_
    refine asg K rfl fun a K => ?_
    refine wn ?_
    refine ws ?_
    refine ws ?_
    refine wl ?_
    refine mv K rfl fun a K => ?_
    refine binSl _ K rfl rfl s32 rfl fun a K => ?_
    refine wn ?_
    refine ifT K rfl rfl ?_
    refine ws ?_
    refine wl ?_
    refine asg K rfl fun a K => ?_
    refine wn ?_
    refine wt ?_
    replace h := St.nil k56 56 h
    exact fr f39 K h rfl ⟨rfl, ⟨⟩⟩ ⟨_, rfl, none, 0, rfl, rfl⟩
 | some q =>
    refine enter (n := 8) func39 rfl rfl rfl fun a K => ?_
    refine ws ?_
    refine wl ?_
    refine asg K rfl fun a K => ?_
    refine wn ?_
    refine ws ?_
    refine ws ?_
    refine wl ?_
    refine mv K rfl fun a K => ?_
    refine binSl _ K rfl rfl s32 rfl fun a K => ?_
    refine wn ?_
    refine ifF K rfl rfl ?_
    refine wk ?_
    refine ws ?_
    refine wl ?_
    refine bldS0 (f := k56) K h s32 t56 fun a w b2 K h => ?_
    refine mv K rfl fun a K => ?_
    refine appV 0 K h rfl rfl rfl h0 rfl s32 s32 e56 g fun a w b3 m3 K h => ?_
    refine asg K rfl fun a K => ?_
    refine wn ?_
    refine wt ?_
    exact fr f39 K h rfl ⟨rfl, ⟨⟩⟩ ⟨_, rfl, some b3, m3, rfl, rfl⟩
abbrev R141 (r : Bool) (v : Value) (H : Gh) : Prop := v = .bool r
instance monR141 {r : Bool} : MonR (R141 r) := ⟨fun _ _ _ _ h => h⟩
theorem c141 {p0 : T56} {pc0 : T56} {r : Bool} (hm : m141 p0 pc0 = some r) {vp0 : Value} {vc0 : Value} (hp0 : (k56.val G0 vp0 p0)) (hc0 : ((kRef k56).val G0 vc0 pc0)) (h : St c G0 w []) : Calls prog 141 #[vp0, vc0] w (FO c [] (R141 r)) := by
 unfold m141 at hm
 refine enter (n := 9) func141 rfl rfl rfl fun a K => sl <| boxr K h rfl hp0 fun a w v_1 G1 K e_1 h q_2 => asg K rfl fun a K => nsl <| far F56_0 K rfl q_2 o56_0 fun a v_3 K q_4 => ldr1 (.int .i64 p0.Uid) K h rfl q_4 t3 vI fun a K => far F56_0 K rfl (Kd.val_mono e_1 hc0) o56_0 fun a v_5 K q_6 => ldr1 (.int .i64 pc0.Uid) K h rfl q_6 t3 vI fun a K => binC _ K rfl rfl rfl fun a K => asg K rfl fun a K => wn <| wt ?_
 obtain rfl := oi hm
 exact fr f141 K (St.sel [] rfl h) rfl ⟨rfl, ⟨⟩⟩ ⟨rfl, rfl⟩
abbrev R220_141 (r : Int) (v : Value) (H : Gh) : Prop := v = .int .i64 r
instance monR220_141 {r : Int} : MonR (R220_141 r) := ⟨fun _ _ _ _ h => h⟩
theorem c220_141 {p0 : (List T56)} {p1c0 : T56} {r : Int} (hm : m220_141 p0 p1c0 = some r) {vp0 : Value} {vp1c0 : Value} (hp0 : ((kSl k56).val G0 vp0 p0)) (hp1c0 : ((kRef k56).val G0 vp1c0 p1c0)) (h : St c G0 w []) : Calls prog 220 #[vp0, .func (.func 141) #[] #[vp1c0]] w (FO c [] (R220_141 r)) := by
 unfold m220_141 at hm
 refine enter (n := 19) func220 rfl rfl rfl fun a K => sl <| asg K rfl fun a K => wn <| ws <| sl <| mv K rfl fun a K => lenV K rfl hp0 rfl s32 fun a K => mv K rfl fun a K => wn <| wb ?_
 obtain ⟨y_30, hy_30, hm⟩ := bs hm
 refine loop (S := Int) (R := Unit ⊕ Int) (fun s_20 a w => Jn c G0 [] 19 [(0, vp0), (1, .func (.func 141) #[] #[vp1c0]), (4, .int .i64 0), (7, .int .i64 (p0.length : Int)), (8, .int .i64 s_20)] a w) (fun (y : Unit ⊕ Int) e a w => match y with | .inl p_31 => e = .exit 0 ∧ Jn c G0 [] 19 [(4, .int .i64 0)] a w | .inr q => e = .ret ∧ bodyPost prog f220 (FO c [] (R220_141 q)) e a w) hy_30 ⟨G0, gr, (St.sel [] rfl h), (K.sub (so rfl))⟩ ?_ ?_
 · intro s_20 y_33 a w hm hI
   obtain ⟨G4, e_4, h, K⟩ := hI
   unfold m220_141_l_32 at hm
   refine sl <| binC _ K rfl rfl rfl fun a K => wn <| ws <| ifm hm K rfl (fun _ hm => ?_) fun _ hm => ?_
   · refine wk <| ws <| wb <| sl <| mv K rfl fun a K => asg K rfl fun a K => nsl <| mv K rfl fun a K => mv K rfl fun a K => mv K rfl fun a K => ?_
     obtain ⟨g_35, hm⟩ := gs hm
     refine ixs K rfl (Kd.val_mono e_4 hp0) rfl g_35 s32 t56 fun a v_36 K q_37 => ldr K h rfl q_37 t56 fun a v_38 K q_39 => ?_
     obtain ⟨x_40, hx_40, hm⟩ := bs hm
     refine clvp K h rfl rfl b141 (fun h => c141 hx_40 q_39 (Kd.val_mono e_4 hp1c0) h) fun a w v G7 K e_7 h hR_41 => ?_
     obtain rfl := hR_41
     refine wn <| ifm hm K rfl (fun _ hm => ?_) fun _ hm => ?_
     · refine sl <| mv K rfl fun a K => asg K rfl fun a K => wn <| wt ?_
       obtain rfl := oi hm
       exact ⟨by simp, rfl, (fr f220 K (St.sel [] rfl h) rfl ⟨rfl, ⟨⟩⟩ ⟨rfl, rfl⟩)⟩
     refine wk <| wl <| binI _ K rfl rfl rfl fun a K => mv K rfl fun a K => wn ?_
     obtain rfl := oi hm
     exact ⟨rfl, ⟨G7, (Gh.trans e_4 e_7), (St.sel [] rfl h), (K.sub (so rfl))⟩⟩
   refine wp_exit ?_
   obtain rfl := oi hm
   exact ⟨by simp, rfl, ⟨G4, e_4, (St.sel [] rfl h), (K.sub ⟨rfl, ⟨⟩⟩)⟩⟩
 intro e a w hD
 rcases y_30 with p_31 | q_43
 · simp only [Sum.elim_inl, Sum.elim_inr] at hm
   obtain ⟨rfl, ⟨G6, e_6, h, K⟩⟩ := hD
   refine sl <| asg K rfl fun a K => wn <| wt ?_
   obtain rfl := oi hm
   exact fr f220 K (St.sel [] rfl h) rfl ⟨rfl, ⟨⟩⟩ ⟨rfl, rfl⟩
 simp only [Sum.elim_inr] at hm
 obtain rfl := oi hm
 obtain ⟨rfl, hD⟩ := hD
 exact hD
abbrev R140_w_141 (r : (List T56)) (v : Value) (H : Gh) : Prop := (kSl k56).val H v r
instance monR140_w_141 {r : (List T56)} : MonR (R140_w_141 r) := ⟨fun _ _ _ e h => Kd.val_mono e h⟩
theorem c140_w_141 {p0 : (List T56)} {p1c0 : T56} {pq0 : Option Nat} {pn0 : Nat} {r : (List T56)} (hm : m140_w_141 p0 p1c0 = some r) {vp1c0 : Value} (hp1c0 : ((kRef k56).val G0 vp1c0 p1c0)) (h : St c G0 w ([⟨k56, p0, pn0, pq0, 56⟩])) : Calls prog 140 #[hdr pq0 p0.length pn0, .func (.func 141) #[] #[vp1c0]] w (Fin c fun v H Δ => ∃ b2 m2, Δ = [⟨k56, r, m2, b2, 56⟩] ∧ v = hdr b2 r.length m2) := by
 unfold m140_w_141 at hm
 replace h := St.cast (Δ' := [⟨k56, p0, pn0, pq0, 56⟩]) h rfl
 refine enter (n := 42) func140 rfl rfl rfl fun a K => sl <| asg K rfl fun a K => nsl <| mv K rfl fun a K => mv K rfl fun a K => ?_
 have h0 := h
 obtain ⟨G1, e_1, h, q_1⟩ := frz 0 h rfl
 obtain ⟨x_2, hx_2, hm⟩ := bs hm
 refine clb _ K h0 h rfl b220 (fun h => c220_141 hx_2 q_1 (Kd.val_mono e_1 hp1c0) h) (fun _ _ hR => hR) fun a w K h => asg K rfl fun a K => wn <| ws <| sl <| mv K rfl fun a K => binC _ K rfl rfl rfl fun a K => wn <| ifm hm K rfl (fun _ hm => ?_) fun _ hm => ?_
 · refine sl <| mv K rfl fun a K => asg K rfl fun a K => wn <| wt ?_
   obtain rfl := oi hm
   exact fr f140 K (St.sel [0] rfl h) rfl ⟨rfl, ⟨⟩⟩ ⟨pq0, pn0, rfl, rfl⟩
 refine wk <| ws <| sl <| mv K rfl fun a K => binI _ K rfl rfl rfl fun a K => asg K rfl fun a K => wn <| wb ?_
 obtain ⟨p_50, hp_50, hm⟩ := bs hm
 refine loop (S := (List T56) × Int × Int) (R := (List T56) × Int) (fun s_34 a w => Jn c G0 [⟨k56, s_34.1, pn0, pq0, 56⟩] 42 [(0, hdr pq0 s_34.1.length pn0), (1, .func (.func 141) #[] #[vp1c0]), (4, .slice none 0 0), (5, .int .i64 s_34.2.1), (6, .int .i64 s_34.2.2)] a w) (fun (p_50 : (List T56) × Int) e a w => e = .exit 0 ∧ Jn c G0 [⟨k56, p_50.1, pn0, pq0, 56⟩] 42 [(0, hdr pq0 p_50.1.length pn0), (4, .slice none 0 0), (5, .int .i64 p_50.2)] a w) hp_50 ⟨G0, gr, (St.sel [0] rfl h), (K.sub (so rfl))⟩ ?_ ?_
 · intro s_34 y_52 a w hm hI
   obtain ⟨G6, e_6, h, K⟩ := hI
   unfold m140_w_141_l_51 at hm
   refine ws <| sl <| mv K rfl fun a K => mv K rfl fun a K => lenO K rfl rfl s32 fun a K => binC _ K rfl rfl rfl fun a K => wn <| ifm hm K rfl (fun _ hm => ?_) fun _ hm => ?_
   · refine wk <| ws <| wb <| sl <| mv K rfl fun a K => mv K rfl fun a K => ?_
     obtain ⟨g_54, hm⟩ := gs hm
     refine ixoO 0 K h rfl rfl rfl rfl g_54 s32 t56 fun a K => ld 0 Ik56 K h (optJ h rfl (inr_lt g_54)) rfl (gt_some g_54) t56 fun a v_55 K q_56 => ?_
     replace q_56 : k56.val _ v_55 (gt s_34.1 s_34.2.2) := q_56
     refine alc K h z56 fun a w bk_57 K h => sto 0 Ik56 ([(gt s_34.1 s_34.2.2)]) K h rfl rfl rfl rfl q_56 t56 rfl rfl fun w h => nsl <| mv K rfl fun a K => ld 0 Ik56 K h rfl rfl rfl t56 fun a v_58 K q_59 => ?_
     replace q_59 : k56.val _ v_58 (gt s_34.1 s_34.2.2) := q_59
     obtain ⟨x_60, hx_60, hm⟩ := bs hm
     refine clvp K h rfl rfl b141 (fun h => c141 hx_60 q_59 (Kd.val_mono e_6 hp1c0) h) fun a w v G9 K e_9 h hR_61 => ?_
     obtain rfl := hR_61
     refine notB _ K rfl rfl fun a K => wn <| ifm hm K rfl (fun _ hm => ?_) fun _ hm => ?_
     · refine sl <| mv K rfl fun a K => mv K rfl fun a K => ld 0 Ik56 K h rfl rfl rfl t56 fun a v_63 K q_64 => ?_
       replace q_64 : k56.val _ v_63 (gt s_34.1 s_34.2.2) := q_64
       obtain ⟨g_65, hm⟩ := gs hm
       refine ixoO 1 K h rfl rfl rfl rfl g_65 s32 t56 fun a K => ?_
       have hl_66 : (st s_34.1 s_34.2.1 (gt s_34.1 s_34.2.2)).length = s_34.1.length := st_length
       have hob := optB (j := 1) h rfl (inr_lt g_65)
       refine sto 1 Ik56 ((st s_34.1 s_34.2.1 (gt s_34.1 s_34.2.2))) K h (optJ h rfl (inr_lt g_65)) rfl (gt_some g_65) rfl q_64 t56 rfl rfl fun w h => ?_
       rw [hob] at h
       refine wn <| wl <| mv K rfl fun a K => binI _ K rfl rfl rfl fun a K => asg K rfl fun a K => wn <| wl <| mv K rfl fun a K => binI _ K rfl rfl rfl fun a K => asg K rfl fun a K => wn ?_
       obtain rfl := oi hm
       exact ⟨rfl, ⟨G9, (Gh.trans e_6 e_9), (St.sel [1] rfl h), (K.sub ⟨(show lk _ 0 = some (hdr pq0 (st s_34.1 s_34.2.1 (gt s_34.1 s_34.2.2)).length pn0) by rw [hl_66]; rfl), rfl, rfl, rfl, rfl, ⟨⟩⟩)⟩⟩
     refine wk <| wl <| mv K rfl fun a K => binI _ K rfl rfl rfl fun a K => asg K rfl fun a K => wn ?_
     obtain rfl := oi hm
     exact ⟨rfl, ⟨G9, (Gh.trans e_6 e_9), (St.sel [1] rfl h), (K.sub (so rfl))⟩⟩
   refine wp_exit ?_
   obtain rfl := oi hm
   exact ⟨by simp, rfl, ⟨G6, e_6, (St.sel [0] rfl h), (K.sub (so rfl))⟩⟩
 intro e a w hD
 obtain ⟨rfl, ⟨G8, e_8, h, K⟩⟩ := hD
 refine sl <| mv K rfl fun a K => mv K rfl fun a K => ?_
 obtain ⟨g_67, hm⟩ := gs hm
 refine slX k56 p_50.2 (p_50.1.length : Int) K rfl s32 t56 (.inr ⟨_, _, rfl, rfl⟩) (.inl ⟨rfl, rfl⟩) (sl2_cap 0 h rfl g_67) fun a K => clrP0 0 K h rfl rfl (subV_sub 0 h rfl g_67) (by have := sl2_out g_67; omega) rfl s32 e56 z56 fun w h => ?_
 have hl_68 : (ovr p_50.1 ((p_50.2).toNat) (List.replicate ((((p_50.1.length : Int)).toNat - (p_50.2).toNat)) Z56)).length = p_50.1.length := ovr_rep (by have := sl2_out g_67; omega)
 refine nsl <| mv K rfl fun a K => mv K rfl fun a K => ?_
 obtain ⟨g_69, hm⟩ := gs hm
 refine slO 0 p_50.2 K h rfl rfl (by rw [hl_68]) s32 t56 (.inr ⟨_, _, rfl, rfl⟩) g_69 fun a K h => asg K rfl fun a K => wn <| wt ?_
 obtain rfl := oi hm
 exact fr f140 K (St.sel [0] rfl h) rfl ⟨rfl, ⟨⟩⟩ ⟨pq0, pn0, rfl, rfl⟩
abbrev R143 (r : Int) (v : Value) (H : Gh) : Prop := v = .int .i64 r
instance monR143 {r : Int} : MonR (R143 r) := ⟨fun _ _ _ _ h => h⟩
theorem c143 {p0 : T56} {p1 : Int} {r : Int} (hm : m143 p0 p1 = some r) {vp0 : Value} (hp0 : (k56.val G0 vp0 p0)) (h : St c G0 w []) : Calls prog 143 #[vp0, .int .i64 p1] w (FO c [] (R143 r)) := by
 unfold m143 at hm
 refine enter (n := 9) func143 rfl rfl rfl fun a K => sl <| boxr K h rfl hp0 fun a w v_1 G1 K e_1 h q_2 => asg K rfl fun a K => nsl <| far F56_0 K rfl q_2 o56_0 fun a v_3 K q_4 => ldr1 (.int .i64 p0.Uid) K h rfl q_4 t3 vI fun a K => mv K rfl fun a K => binI _ K rfl rfl rfl fun a K => asg K rfl fun a K => wn <| wt ?_
 obtain rfl := oi hm
 exact fr f143 K (St.sel [] rfl h) rfl ⟨rfl, ⟨⟩⟩ ⟨rfl, rfl⟩
abbrev R142_143 (r : Int × Bool) (v : Value) (H : Gh) : Prop := v = .tuple #[.int .i64 r.1, .bool r.2]
instance monR142_143 {r : Int × Bool} : MonR (R142_143 r) := ⟨fun _ _ _ _ h => h⟩
theorem c142_143 {p0 : (List T56)} {p1 : Int} {r : Int × Bool} (hm : m142_143 p0 p1 = some r) {vp0 : Value} (hp0 : ((kSl k56).val G0 vp0 p0)) (h : St c G0 w []) : Calls prog 142 #[vp0, .int .i64 p1, .func (.func 143) #[] #[]] w (FO c [] (R142_143 r)) := by
 unfold m142_143 at hm
 refine enter (n := 49) func142 rfl rfl rfl fun a K => sl <| asg K rfl fun a K => asg K rfl fun a K => nsl <| mv K rfl fun a K => lenV K rfl hp0 rfl s32 fun a K => asg K rfl fun a K => nsl <| mv K rfl fun a K => asg K rfl fun a K => asg K rfl fun a K => wn <| ws <| wb ?_
 obtain ⟨p_31, hp_31, hm⟩ := bs hm
 refine loop (S := Int × Int) (R := Int) (fun s_20 a w => Jn c G0 [] 49 [(0, vp0), (1, .int .i64 p1), (2, .func (.func 143) #[] #[]), (6, .int .i64 0), (7, .bool false), (8, .int .i64 (p0.length : Int)), (9, .int .i64 s_20.1), (10, .int .i64 s_20.2)] a w) (fun (p_31 : Int) e a w => e = .exit 0 ∧ Jn c G0 [] 49 [(0, vp0), (1, .int .i64 p1), (2, .func (.func 143) #[] #[]), (6, .int .i64 0), (7, .bool false), (8, .int .i64 (p0.length : Int)), (9, .int .i64 p_31)] a w) hp_31 ⟨G0, gr, (St.sel [] rfl h), (K.sub (so rfl))⟩ ?_ ?_
 · intro s_20 y_33 a w hm hI
   obtain ⟨G4, e_4, h, K⟩ := hI
   unfold m142_143_l_32 at hm
   refine ws <| sl <| mv K rfl fun a K => mv K rfl fun a K => binC _ K rfl rfl rfl fun a K => wn <| ifm hm K rfl (fun _ hm => ?_) fun _ hm => ?_
   · refine wk <| wb <| sl <| mv K rfl fun a K => mv K rfl fun a K => binI _ K rfl rfl rfl fun a K => cvtI _ K rfl ⟨_, u3⟩ u80 rfl fun a K => binShr _ K rfl rfl rfl rfl fun a K => cvtI _ K rfl ⟨_, u80⟩ u3 rfl fun a K => asg K rfl fun a K => nsl <| mv K rfl fun a K => mv K rfl fun a K => mv K rfl fun a K => ?_
     obtain ⟨g_35, hm⟩ := gs hm
     refine ixs K rfl (Kd.val_mono e_4 hp0) rfl g_35 s32 t56 fun a v_36 K q_37 => ldr K h rfl q_37 t56 fun a v_38 K q_39 => mv K rfl fun a K => ?_
     obtain ⟨x_40, hx_40, hm⟩ := bs hm
     refine clvp K h rfl rfl b143 (fun h => c143 hx_40 q_39 h) fun a w v G7 K e_7 h hR_41 => ?_
     obtain rfl := hR_41
     refine binC _ K rfl rfl rfl fun a K => wn <| ifm hm K rfl (fun _ hm => ?_) fun _ hm => ?_
     · refine wl <| mv K rfl fun a K => binI _ K rfl rfl rfl fun a K => asg K rfl fun a K => wn ?_
       obtain rfl := oi hm
       exact ⟨rfl, ⟨G7, (Gh.trans e_4 e_7), (St.sel [] rfl h), (K.sub (so rfl))⟩⟩
     refine wl <| mv K rfl fun a K => asg K rfl fun a K => wn ?_
     obtain rfl := oi hm
     exact ⟨rfl, ⟨G7, (Gh.trans e_4 e_7), (St.sel [] rfl h), (K.sub (so rfl))⟩⟩
   refine wp_exit ?_
   obtain rfl := oi hm
   exact ⟨by simp, rfl, ⟨G4, e_4, (St.sel [] rfl h), (K.sub (so rfl))⟩⟩
 intro e a w hD
 obtain ⟨rfl, ⟨G6, e_6, h, K⟩⟩ := hD
 refine sl <| mv K rfl fun a K => mv K rfl fun a K => mv K rfl fun a K => binC _ K rfl rfl rfl fun a K => mv K rfl fun a K => ?_
 rcases im hm with ⟨c_43, hm⟩ | ⟨c_43, hm⟩
 · refine g2 K c_43 <| mv K rfl fun a K => g2 K c_43 <| mv K rfl fun a K => g2 K c_43 <| mv K rfl fun a K => gy K rfl rfl c_43 ?_
   obtain ⟨g_44, hm⟩ := gs hm
   refine ixs K rfl (Kd.val_mono e_6 hp0) rfl g_44 s32 t56 fun a v_45 K q_46 => g2 K c_43 <| ldr K h rfl q_46 t56 fun a v_47 K q_48 => g2 K c_43 <| mv K rfl fun a K => gy K rfl rfl c_43 ?_
   obtain ⟨x_49, hx_49, hm⟩ := bs hm
   refine clvp K h rfl rfl b143 (fun h => c143 hx_49 q_48 h) fun a w v G8 K e_8 h hR_50 => ?_
   obtain rfl := hR_50
   refine g2 K c_43 <| binC _ K rfl rfl rfl fun a K => pkT K rfl c_43 rfl fun a K => asg K rfl fun a K => asg K rfl fun a K => wn <| wt ?_
   obtain rfl := oi hm
   exact fi f142 [_, _] K (St.sel [] rfl h) rfl ⟨rfl, rfl, ⟨⟩⟩ (.inl rfl) ⟨rfl, rfl⟩
 refine g1 K c_43 fun a K => g1 K c_43 fun a K => g1 K c_43 fun a K => g1 K c_43 fun a K => g1 K c_43 fun a K => g1 K c_43 fun a K => g1 K c_43 fun a K => g1 K c_43 fun a K => pkF K rfl c_43 rfl fun a K => asg K rfl fun a K => asg K rfl fun a K => wn <| wt ?_
 obtain rfl := oi hm
 exact fi f142 [_, _] K (St.sel [] rfl h) rfl ⟨rfl, rfl, ⟨⟩⟩ (.inl rfl) ⟨rfl, rfl⟩
theorem c144 {p0 : List T56} {p1 : Int} {p2 r : List T56} (hm : m144 p0 p1 p2 = some r) {b : Option Nat} {m : Nat} {b1 m1 : Nat} (h : St c G0 w [⟨k56, p0, m, b, 56⟩, ⟨k56, p2, m1, some b1, 56⟩]) : Calls prog 144 #[hdr b p0.length m, .int .i64 p1, hdr (some b1) p2.length m1] w (Fin c fun v H Δ => ∃ b2 m2, Δ = [⟨k56, r, m2, b2, 56⟩] ∧ v = hdr b2 r.length m2) := by
 obtain ⟨g, hm⟩ := gs hm
 obtain rfl := oi hm
 obtain ⟨i0, i1, i2, i3⟩ := insB_out g
 have hc : p0.length ≤ m := (h.own _ (List.mem_cons_self ..)).1
 have hN : (p1.toNat : Int) = p1 := Int.toNat_of_nonneg i0
 have hw : wr ((p0.length : Int) + (p2.length : Int)) = (p0.length : Int) + 1 := by rw [i2]; unfold maxS at i3; exact wrap64_id (by omega) (by omega)
 have hw2 : wr ((p0.length : Int) + 1 - p1) = (p0.length : Int) + 1 - p1 := by unfold maxS at i3; exact wrap64_id (by omega) (by omega)
 have hw3 : wr (p1 + (p2.length : Int)) = p1 + 1 := by rw [i2]; unfold maxS at i3; exact wrap64_id (by omega) (by omega)
 have hz : ins p0 p1 p2 = p0.take p1.toNat ++ p2 ++ p0.drop p1.toNat := rfl
 refine enter (n := 95) func144 rfl rfl rfl fun a K => sl <| asg K rfl fun a K => nsl <| mv K rfl fun a K => mv K rfl fun a K => slX k56 (p1) ((p0.length : Int)) K rfl s32 t56 (.inr ⟨_, _, rfl, rfl⟩) (.inl ⟨rfl, rfl⟩) (sl2_i i0 (by omega) (by omega)) fun a K => nsl <| mv K rfl fun a K => lenO K rfl rfl s32 fun a K => asg K rfl fun a K => wn <| ws <| sl <| mv K rfl fun a K => binC _ K rfl rfl rfl fun a K => wn <| ifF K rfl (by simp [i2]) <| wk <| sl <| mv K rfl fun a K => lenO K rfl rfl s32 fun a K => asg K rfl fun a K => wn <| ws <| sl <| mv K rfl fun a K => mv K rfl fun a K => binC _ K rfl rfl rfl fun a K => wn ?_
 rcases Bool.eq_false_or_eq_true (p1 == (p0.length : Int)) with c1 | c1
 · refine ifT K rfl c1 <| sl <| mv K rfl fun a K => mv K rfl fun a K => appOO 0 1 K h rfl rfl rfl rfl rfl s32 s32 e56 (by omega) fun a w b3 m3 K h => asg K rfl fun a K => wn <| wt ?_
   have e : p0 ++ p2 = ins p0 p1 p2 := by (have h1 : p1 = (p0.length : Int) := by simpa using c1); subst h1; simp [ins]
   exact fi f144 [_] K (St.sel [0] rfl h) rfl ⟨rfl, ⟨⟩⟩ (.inl rfl) ⟨b3, m3, by rw [← e]; rfl, by rw [← e]; rfl⟩
 have c1n : p1 < (p0.length : Int) := by (have : p1 ≠ (p0.length : Int) := by simpa using c1); omega
 refine ifF K rfl c1 <| wk <| ws <| sl <| mv K rfl fun a K => mv K rfl fun a K => binI _ K rfl rfl (congrArg some hw) fun a K => mv K rfl fun a K => capO K rfl rfl s32 fun a K => binC _ K rfl rfl rfl fun a K => wn ?_
 rcases Bool.eq_false_or_eq_true (decide ((p0.length : Int) + 1 > (m : Int))) with c2 | c2
 · have c2n : m < p0.length + 1 := by (have : (p0.length : Int) + 1 > (m : Int) := by simpa using c2); omega
   refine ifT K rfl c2 <| sl <| mv K rfl fun a K => mv K rfl fun a K => slX0 k56 p1 K rfl s32 t56 (.inr ⟨_, _, rfl, rfl⟩) (sl2_i (by omega) i0 (by omega)) fun a K => mv K rfl fun a K => mv K rfl fun a K => binI _ K rfl rfl (congrArg some hw) fun a K => mv K rfl fun a K => binI _ K rfl rfl (congrArg some hw2) fun a K => appZ 0 K h rfl rfl rfl rfl s32 it3 e56 z56 (by omega) (by omega) (by omega) (by unfold maxS at i3 ⊢; omega) fun a w b3 m3 K h => asg K rfl fun a K => nsl <| mv K rfl fun a K => mv K rfl fun a K => slX k56 (p1) (((p1.toNat + ((p0.length : Int) + 1 - p1).toNat : Nat) : Int)) K rfl s32 t56 (.inr ⟨_, _, rfl, rfl⟩) (.inl ⟨rfl, rfl⟩) (sl2_i i0 (by omega) (by have := (h.own _ (List.mem_cons_self ..)).1; simp only [List.length_append, List.length_take, List.length_replicate] at this; omega)) fun a K => mv K rfl fun a K => cpIn 0 K h rfl rfl rfl (rd_own (j := 2) h rfl) (by simp only [List.length_append, List.length_take, List.length_replicate]; omega) rfl s32 t56 fun a w K h => wn <| ws ?_
   have hm3 : p1.toNat + ((p0.length : Int) + 1 - p1).toNat ≤ m3 := by have := (h.own _ (List.mem_cons_self ..)).1; simp only [ovr, List.length_append, List.length_take, List.length_drop, List.length_replicate] at this; omega
   refine wp_hop (Δs := [[⟨k56, ovr (p0.take p1.toNat ++ List.replicate ((p0.length : Int) + 1 - p1).toNat Z56) p1.toNat (p2.take ((p1.toNat + ((p0.length : Int) + 1 - p1).toNat : Nat) - p1.toNat)), m3, some b3, 56⟩, ⟨k56, p0, m, b, 56⟩, ⟨k56, p2, m1, some b1, 56⟩]]) 8 [(fE (hdr (some b3) (p1.toNat + ((p0.length : Int) + 1 - p1).toNat) m3)), (fE (.int .i64 p1)), (fE (.int .i64 (p2.length : Int))), (fE (.int .i64 (p1 + 1))), (fE (subV k56 (some b3) m3 (p1 + 1).toNat (((((p1.toNat + ((p0.length : Int) + 1 - p1).toNat) : Nat) : Int)).toNat - (p1 + 1).toNat))), (fE (hdr b p0.length m)), (fE (.int .i64 p1)), (fE (subV k56 b m (p1).toNat (((p0.length : Int)).toNat - (p1).toNat)))] [(0, hdr b p0.length m), (1, .int .i64 p1), (7, .int .i64 (p2.length : Int)), (9, hdr (some b3) (p1.toNat + ((p0.length : Int) + 1 - p1).toNat) m3)] [] [[0], [0], [0], [0], [0], [0], [0], [0]] [0, 0, 0, 6, 15, 0, 0, 96, 255] mx (by kernel_rfl) (by kernel_rfl) (by kernel_rfl) (by kernel_rfl) rfl rfl ⟨monE, monE, monE, monE, monE, monE, monE, monE, ⟨⟩⟩ K h rfl rfl ⟨rfl, rfl, rfl, rfl, ⟨⟩⟩ ⟨(stg1 rfl rfl ?_), (stg1 rfl rfl ?_), (stg1 rfl rfl ?_), (stg1 rfl rfl ?_), (stg1 rfl rfl ?_), (stg1 rfl rfl ?_), (stg1 rfl rfl ?_), (stg1 rfl rfl ?_), ⟨⟩⟩ rfl ?_
   · intro a w H L X e h K hs hk
     have hx : Sy.sub L [(9, _)] := ⟨hs.2.2.2.1, ⟨⟩⟩
     replace K := K.addx _ hx
     refine mv K rfl fun a K => wn <| ⟨rfl, H, [], gr, h, _, K.dropx _ hx, ⟨rfl, rfl⟩⟩
   · intro a w H L X e h K hs hk
     have hx : Sy.sub L [(1, _)] := ⟨hs.2.1, ⟨⟩⟩
     replace K := K.addx _ hx
     refine mv K rfl fun a K => wn <| ⟨rfl, H, [], gr, h, _, K.dropx _ hx, ⟨rfl, rfl⟩⟩
   · intro a w H L X e h K hs hk
     have hx : Sy.sub L [(7, _)] := ⟨hs.2.2.1, ⟨⟩⟩
     replace K := K.addx _ hx
     refine mv K rfl fun a K => wn <| ⟨rfl, H, [], gr, h, _, K.dropx _ hx, ⟨rfl, rfl⟩⟩
   · intro a w H L X e h K hs hk
     obtain ⟨_, _, l47, -, rfl⟩ := hk.1
     obtain ⟨_, _, l48, -, rfl⟩ := hk.2.1
     have hx : Sy.sub L [(47, _), (48, _)] := ⟨l47, l48, ⟨⟩⟩
     replace K := K.addx _ hx
     refine binI _ K rfl rfl (congrArg some hw3) fun a K => wn <| ⟨rfl, H, [], gr, h, _, K.dropx _ hx, ⟨rfl, rfl⟩⟩
   · intro a w H L X e h K hs hk
     obtain ⟨_, _, l46, -, rfl⟩ := hk.1
     obtain ⟨_, _, l49, -, rfl⟩ := hk.2.1
     have hx : Sy.sub L [(46, _), (49, _)] := ⟨l46, l49, ⟨⟩⟩
     replace K := K.addx _ hx
     refine slX k56 (p1 + 1) ((((p1.toNat + ((p0.length : Int) + 1 - p1).toNat) : Nat) : Int)) K rfl s32 t56 (.inr ⟨_, _, rfl, rfl⟩) (.inl ⟨rfl, rfl⟩) (sl2_i (by omega) (by omega) (by omega)) fun a K => wn <| ⟨rfl, H, [], gr, h, _, K.dropx _ hx, ⟨rfl, rfl⟩⟩
   · intro a w H L X e h K hs hk
     have hx : Sy.sub L [(0, _)] := ⟨hs.1, ⟨⟩⟩
     replace K := K.addx _ hx
     refine mv K rfl fun a K => wn <| ⟨rfl, H, [], gr, h, _, K.dropx _ hx, ⟨rfl, rfl⟩⟩
   · intro a w H L X e h K hs hk
     have hx : Sy.sub L [(1, _)] := ⟨hs.2.1, ⟨⟩⟩
     replace K := K.addx _ hx
     refine mv K rfl fun a K => wn <| ⟨rfl, H, [], gr, h, _, K.dropx _ hx, ⟨rfl, rfl⟩⟩
   · intro a w H L X e h K hs hk
     obtain ⟨_, _, l51, -, rfl⟩ := hk.1
     obtain ⟨_, _, l52, -, rfl⟩ := hk.2.1
     have hx : Sy.sub L [(51, _), (52, _)] := ⟨l51, l52, ⟨⟩⟩
     replace K := K.addx _ hx
     refine slX k56 (p1) ((p0.length : Int)) K rfl s32 t56 (.inr ⟨_, _, rfl, rfl⟩) (.inl ⟨rfl, rfl⟩) (sl2_i i0 (by omega) (by omega)) fun a K => wn <| ⟨rfl, H, [], gr, h, _, K.dropx _ hx, ⟨rfl, rfl⟩⟩
   intro a w H L X e h K hs hg
   obtain ⟨_, _, _, rfl, r0, ⟨rfl, rfl⟩, hg⟩ := hg
   obtain ⟨_, _, _, rfl, r1, ⟨rfl, rfl⟩, hg⟩ := hg
   obtain ⟨_, _, _, rfl, r2, ⟨rfl, rfl⟩, hg⟩ := hg
   obtain ⟨_, _, _, rfl, r3, ⟨rfl, rfl⟩, hg⟩ := hg
   obtain ⟨_, _, _, rfl, r4, ⟨rfl, rfl⟩, hg⟩ := hg
   obtain ⟨_, _, _, rfl, r5, ⟨rfl, rfl⟩, hg⟩ := hg
   obtain ⟨_, _, _, rfl, r6, ⟨rfl, rfl⟩, hg⟩ := hg
   obtain ⟨_, _, _, rfl, r7, ⟨rfl, rfl⟩, hg⟩ := hg
   obtain rfl := hg
   replace h := St.cast (Δ' := [⟨k56, ovr (p0.take p1.toNat ++ List.replicate ((p0.length : Int) + 1 - p1).toNat Z56) p1.toNat (p2.take ((p1.toNat + ((p0.length : Int) + 1 - p1).toNat : Nat) - p1.toNat)), m3, some b3, 56⟩, ⟨k56, p0, m, b, 56⟩, ⟨k56, p2, m1, some b1, 56⟩]) h rfl
   replace K := K.sub (l' := [(50, _), (53, _), (0, _), (1, _), (7, _), (9, _)]) ⟨r4, r7, hs.1, hs.2.1, hs.2.2.1, hs.2.2.2.1, ⟨⟩⟩
   refine cpIn 0 K h rfl rfl rfl (rd_sub (j := 1) (o := p1.toNat) (m := (p0.length : Int).toNat - p1.toNat) h rfl (by omega)) (by simp only [ovr, List.length_append, List.length_take, List.length_drop, List.length_replicate]; omega) rfl s32 t56 fun a w K h => wn <| sl <| mv K rfl fun a K => asg K rfl fun a K => wn <| wt ?_
   rw [insZ (x := (p1.toNat + ((p0.length : Int) + 1 - p1).toNat) - p1.toNat) (y := (p0.length : Int).toNat - p1.toNat) (u := ((p1.toNat + ((p0.length : Int) + 1 - p1).toNat : Nat) : Int).toNat - (p1 + 1).toNat) i0 i1 i2 (by omega) (by omega) (by omega)] at h
   exact fi f144 [_] K (St.sel [0] rfl h) rfl ⟨rfl, ⟨⟩⟩ (.inl rfl) ⟨some b3, m3, rfl, by rw [insZl i0 i1 i2]; rfl⟩
 have c2n : p0.length + 1 ≤ m := by (have : ¬ ((p0.length : Int) + 1 > (m : Int)) := by simpa using c2); omega
 obtain ⟨b, rfl⟩ := own_some 0 h rfl (show 0 < p0.length by omega)
 have hne : b ≠ b1 := own_ne 0 1 (by decide) h rfl rfl
 refine ifF K rfl c2 <| wk <| sl <| mv K rfl fun a K => mv K rfl fun a K => mv K rfl fun a K => binI _ K rfl rfl (congrArg some hw) fun a K => slX0 k56 ((p0.length : Int) + 1) K rfl s32 t56 (.inr ⟨_, _, rfl, rfl⟩) (sl2_i (by omega) (by omega) (by omega)) fun a K => asg K rfl fun a K => wn <| ws <| sl <| mv K rfl fun a K => mv K rfl fun a K => mv K rfl fun a K => mv K rfl fun a K => binI _ K rfl rfl (congrArg some hw3) fun a K => slX k56 (p1 + 1) ((((p0.length : Int) + 1).toNat : Int)) K rfl s32 t56 (.inr ⟨_, _, rfl, rfl⟩) (.inl ⟨rfl, rfl⟩) (sl2_i (by omega) (by omega) (by omega)) fun a K => clx (.bool false) x221 K rfl (run_ovl (j := 0) (j2 := 1) h rfl rfl hne s32 t56 (by decide)) fun a K => notB _ K rfl rfl fun a K => wn <| ifT K rfl rfl <| ws ?_
 refine wp_hop (Δs := [[⟨k56, p0, m, some b, 56⟩, ⟨k56, p2, m1, some b1, 56⟩]]) 8 [(fE (hdr (some b) ((p0.length : Int) + 1).toNat m)), (fE (.int .i64 p1)), (fE (.int .i64 (p2.length : Int))), (fE (.int .i64 (p1 + 1))), (fE (subV k56 (some b) m (p1 + 1).toNat (((((p0.length : Int) + 1).toNat : Int)).toNat - (p1 + 1).toNat))), (fE (hdr (some b) ((p0.length : Int) + 1).toNat m)), (fE (.int .i64 p1)), (fE (subV k56 (some b) m (p1).toNat (((((p0.length : Int) + 1).toNat : Int)).toNat - (p1).toNat)))] [(0, hdr (some b) ((p0.length : Int) + 1).toNat m), (1, .int .i64 p1), (7, .int .i64 (p2.length : Int)), (2, hdr (some b1) p2.length m1)] [] [[0], [0], [0], [0], [0], [0], [0], [0]] [0, 0, 0, 6, 15, 0, 0, 96, 255] mx (by kernel_rfl) (by kernel_rfl) (by kernel_rfl) (by kernel_rfl) rfl rfl ⟨monE, monE, monE, monE, monE, monE, monE, monE, ⟨⟩⟩ K h rfl rfl ⟨rfl, rfl, rfl, rfl, ⟨⟩⟩ ⟨(stg1 rfl rfl ?_), (stg1 rfl rfl ?_), (stg1 rfl rfl ?_), (stg1 rfl rfl ?_), (stg1 rfl rfl ?_), (stg1 rfl rfl ?_), (stg1 rfl rfl ?_), (stg1 rfl rfl ?_), ⟨⟩⟩ rfl ?_
 · intro a w H L X e h K hs hk
   have hx : Sy.sub L [(0, _)] := ⟨hs.1, ⟨⟩⟩
   replace K := K.addx _ hx
   refine mv K rfl fun a K => wn <| ⟨rfl, H, [], gr, h, _, K.dropx _ hx, ⟨rfl, rfl⟩⟩
 · intro a w H L X e h K hs hk
   have hx : Sy.sub L [(1, _)] := ⟨hs.2.1, ⟨⟩⟩
   replace K := K.addx _ hx
   refine mv K rfl fun a K => wn <| ⟨rfl, H, [], gr, h, _, K.dropx _ hx, ⟨rfl, rfl⟩⟩
 · intro a w H L X e h K hs hk
   have hx : Sy.sub L [(7, _)] := ⟨hs.2.2.1, ⟨⟩⟩
   replace K := K.addx _ hx
   refine mv K rfl fun a K => wn <| ⟨rfl, H, [], gr, h, _, K.dropx _ hx, ⟨rfl, rfl⟩⟩
 · intro a w H L X e h K hs hk
   obtain ⟨_, _, l70, -, rfl⟩ := hk.1
   obtain ⟨_, _, l71, -, rfl⟩ := hk.2.1
   have hx : Sy.sub L [(70, _), (71, _)] := ⟨l70, l71, ⟨⟩⟩
   replace K := K.addx _ hx
   refine binI _ K rfl rfl (congrArg some hw3) fun a K => wn <| ⟨rfl, H, [], gr, h, _, K.dropx _ hx, ⟨rfl, rfl⟩⟩
 · intro a w H L X e h K hs hk
   obtain ⟨_, _, l69, -, rfl⟩ := hk.1
   obtain ⟨_, _, l72, -, rfl⟩ := hk.2.1
   have hx : Sy.sub L [(69, _), (72, _)] := ⟨l69, l72, ⟨⟩⟩
   replace K := K.addx _ hx
   refine slX k56 (p1 + 1) ((((p0.length : Int) + 1).toNat : Int)) K rfl s32 t56 (.inr ⟨_, _, rfl, rfl⟩) (.inl ⟨rfl, rfl⟩) (sl2_i (by omega) (by omega) (by omega)) fun a K => wn <| ⟨rfl, H, [], gr, h, _, K.dropx _ hx, ⟨rfl, rfl⟩⟩
 · intro a w H L X e h K hs hk
   have hx : Sy.sub L [(0, _)] := ⟨hs.1, ⟨⟩⟩
   replace K := K.addx _ hx
   refine mv K rfl fun a K => wn <| ⟨rfl, H, [], gr, h, _, K.dropx _ hx, ⟨rfl, rfl⟩⟩
 · intro a w H L X e h K hs hk
   have hx : Sy.sub L [(1, _)] := ⟨hs.2.1, ⟨⟩⟩
   replace K := K.addx _ hx
   refine mv K rfl fun a K => wn <| ⟨rfl, H, [], gr, h, _, K.dropx _ hx, ⟨rfl, rfl⟩⟩
 · intro a w H L X e h K hs hk
   obtain ⟨_, _, l74, -, rfl⟩ := hk.1
   obtain ⟨_, _, l75, -, rfl⟩ := hk.2.1
   have hx : Sy.sub L [(74, _), (75, _)] := ⟨l74, l75, ⟨⟩⟩
   replace K := K.addx _ hx
   refine slX k56 (p1) ((((p0.length : Int) + 1).toNat : Int)) K rfl s32 t56 (.inr ⟨_, _, rfl, rfl⟩) (.inl ⟨rfl, rfl⟩) (sl2_i i0 (by omega) (by omega)) fun a K => wn <| ⟨rfl, H, [], gr, h, _, K.dropx _ hx, ⟨rfl, rfl⟩⟩
 intro a w H L X e h K hs hg
 obtain ⟨_, _, _, rfl, r0, ⟨rfl, rfl⟩, hg⟩ := hg
 obtain ⟨_, _, _, rfl, r1, ⟨rfl, rfl⟩, hg⟩ := hg
 obtain ⟨_, _, _, rfl, r2, ⟨rfl, rfl⟩, hg⟩ := hg
 obtain ⟨_, _, _, rfl, r3, ⟨rfl, rfl⟩, hg⟩ := hg
 obtain ⟨_, _, _, rfl, r4, ⟨rfl, rfl⟩, hg⟩ := hg
 obtain ⟨_, _, _, rfl, r5, ⟨rfl, rfl⟩, hg⟩ := hg
 obtain ⟨_, _, _, rfl, r6, ⟨rfl, rfl⟩, hg⟩ := hg
 obtain ⟨_, _, _, rfl, r7, ⟨rfl, rfl⟩, hg⟩ := hg
 obtain rfl := hg
 replace h := St.cast (Δ' := [⟨k56, p0, m, some b, 56⟩, ⟨k56, p2, m1, some b1, 56⟩]) h rfl
 replace K := K.sub (l' := [(73, _), (76, _), (0, _), (1, _), (7, _), (2, _)]) ⟨r4, r7, hs.1, hs.2.1, hs.2.2.1, hs.2.2.2.1, ⟨⟩⟩
 refine cpSh K h rfl rfl (by omega) (by omega) rfl s32 t56 fun a w K h => nsl <| mv K rfl fun a K => mv K rfl fun a K => slX k56 (p1) ((((p0.length : Int) + 1).toNat : Int)) K rfl s32 t56 (.inr ⟨_, _, rfl, rfl⟩) (.inl ⟨rfl, rfl⟩) (sl2_i i0 (by omega) (by omega)) fun a K => mv K rfl fun a K => cpIn 0 K h rfl rfl rfl (rd_own (j := 1) h rfl) (by simp only [List.length_append, List.length_take, List.length_drop]; omega) rfl s32 t56 fun a w K h => nsl <| mv K rfl fun a K => asg K rfl fun a K => wn <| wt ?_
 rw [insS (x := (((p0.length : Int) + 1).toNat : Int).toNat - p1.toNat) i0 c1n i2 (by omega)] at h
 exact fi f144 [_] K (St.sel [0] rfl h) rfl ⟨rfl, ⟨⟩⟩ (.inl rfl) ⟨some b, m, rfl, by rw [insSl i0 i1 i2]; rfl⟩
abbrev R87 (r : (List T56) × Int) (v : Value) (H : Gh) : Prop := ∃ u0, v = .tuple #[u0, .int .i64 r.2] ∧ (kSl k56).val H u0 r.1
instance monR87 {r : (List T56) × Int} : MonR (R87 r) := by
 constructor
 rintro G H v e ⟨u0, rfl, q0⟩
 exact ⟨u0, rfl, Kd.val_mono e q0⟩
theorem c87 {p0 : (List T56)} {p1 : T56} {r : (List T56) × Int} (hm : m87 p0 p1 = some r) {vp0 : Value} {vp1 : Value} (hp0 : ((kSl k56).val G0 vp0 p0)) (hp1 : (k56.val G0 vp1 p1)) (h : St c G0 w []) : Calls prog 87 #[vp0, vp1] w (FO c [] (R87 r)) := by
 unfold m87 at hm
 refine enter (n := 32) func87 rfl rfl rfl fun a K => sl <| boxr K h rfl hp1 fun a w v_1 G1 K e_1 h q_2 => asg K rfl fun a K => asg K rfl fun a K => nsl <| mv K rfl fun a K => ?_
 obtain ⟨x_3, hx_3, hm⟩ := bs hm
 refine clg (Δ₁ := []) (Δ₂ := _) [] K h rfl rfl b39 (fun h => cV39 hx_3 (Kd.val_mono e_1 hp0) h) fun a w v_6 G2 Δx K e_2 h hR_7 => ?_
 obtain ⟨bk_4, cp_5, rfl, rfl⟩ := hR_7
 replace h := St.cast (Δ' := [⟨k56, x_3, cp_5, bk_4, 56⟩]) h rfl
 refine mkfn (us := #[]) (vs := #[v_1]) K (by simp) (by simp only [List.map_toArray, List.map_cons, List.map_nil, K.eval (x := .tmp 3) rfl]) fun a K => ?_
 obtain ⟨x_8, hx_8, hm⟩ := bs hm
 refine clw (Δ₁ := [⟨k56, x_3, cp_5, bk_4, 56⟩]) (Δ₂ := _) [0] K h rfl rfl b140 (fun h => c140_w_141 hx_8 (Kd.val_mono e_2 q_2) h) fun a w v_10 G3 Δx K e_3 h hR_9 => ?_
 obtain ⟨bk_11, cp_12, rfl, rfl⟩ := hR_9
 replace h := St.cast (Δ' := [⟨k56, x_8, cp_12, bk_11, 56⟩]) h rfl
 refine asg K rfl fun a K => wn <| joinS (S := (List T56)) (fun s_31 a w => ∃ (G8 : Gh) (bk_32 : Option Nat) (cp_33 : Nat), Gh.le G3 G8 ∧ St c G8 w [⟨k56, s_31, cp_33, bk_32, 56⟩] ∧ Tm 32 a [(4, .slice none 0 0), (5, .int .i64 0), (6, hdr bk_32 s_31.length cp_33)]) (fun s_31 => m87_j_36 s_31 = some r) (fun s_31 hm a w hJ => ?_) (fun kk_37 => ?_)
 · obtain ⟨G8, bk_32, cp_33, e_8, h, K⟩ := hJ
   unfold m87_j_36 at hm
   refine ws <| sl <| mv K rfl fun a K => lenO K rfl rfl s32 fun a K => binC _ K rfl rfl rfl fun a K => wn <| ifm hm K rfl (fun _ hm => ?_) fun _ hm => ?_
   · refine sl <| asg K rfl fun a K => asg K rfl fun a K => wn <| wt ?_
     obtain rfl := oi hm
     exact fi f87 [_, _] K (St.sel [] rfl h) rfl ⟨rfl, rfl, ⟨⟩⟩ (.inl rfl) ⟨rfl, ⟨_, rfl, nil_sl⟩⟩
   refine wk <| sl <| mv K rfl fun a K => asg K rfl fun a K => asg K rfl fun a K => wn <| wt ?_
   obtain ⟨G9, e_9, h, q_35⟩ := frz 0 h rfl
   obtain rfl := oi hm
   exact fi f87 [_, _] K (St.sel [] rfl h) rfl ⟨rfl, rfl, ⟨⟩⟩ (.inl rfl) ⟨rfl, ⟨_, rfl, q_35⟩⟩
 refine sl <| ldr K h rfl (Kd.val_mono (Gh.trans e_2 e_3) q_2) t56 fun a v_38 K q_39 => ?_
 obtain ⟨x_40, hx_40, hm⟩ := bs hm
 refine clp K h rfl b139 (fun h => c139 hx_40 q_39 h) fun a w v G10 K e_10 h hR_41 => ?_
 obtain rfl := hR_41
 refine notB _ K rfl rfl fun a K => wn <| ifm hm K rfl (fun _ hm => ?_) fun _ hm => ?_
 · refine sl <| mv K rfl fun a K => far F56_0 K rfl (Kd.val_mono (Gh.trans e_2 (Gh.trans e_3 e_10)) q_2) o56_0 fun a v_43 K q_44 => ldr1 (.int .i64 p1.Uid) K h rfl q_44 t3 vI fun a K => ?_
   have h0 := h
   obtain ⟨G11, e_11, h, q_45⟩ := frz 0 h rfl
   obtain ⟨x_46, hx_46, hm⟩ := bs hm
   refine clb _ K h0 h rfl b142 (fun h => c142_143 hx_46 q_45 h) (fun _ _ hR => hR) fun a w K h => mv K rfl fun a K => extr K rfl rfl fun a K => extr K rfl rfl fun a K => asg K rfl fun a K => asg K rfl fun a K => wn <| wl <| mv K rfl fun a K => mv K rfl fun a K => ldr K h rfl (Kd.val_mono (Gh.trans e_2 (Gh.trans e_3 e_10)) q_2) t56 fun a v_48 K q_49 => bldS (f := k56) (by decide) [p1] K h rfl s32 t56 rfl z56 (.cons (Fld.idx k56 0 (by decide)) rfl q_49 .nil) fun a w bk_50 K h => ?_
   obtain ⟨x_51, hx_51, hm⟩ := bs hm
   refine clw (Δ₁ := [⟨k56, x_8, cp_12, bk_11, 56⟩, ⟨k56, [p1], 1, (some bk_50), 56⟩]) (Δ₂ := _) [0, 1] K h rfl rfl b144 (fun h => c144 hx_51 h) fun a w v_54 G13 Δx K e_13 h hR_55 => ?_
   obtain ⟨bk_52, cp_53, rfl, rfl⟩ := hR_55
   replace h := St.cast (Δ' := [⟨k56, x_51, cp_53, bk_52, 56⟩]) h rfl
   refine asg K rfl fun a K => wn <| kk_37 x_51 hm _ _ ⟨G13, bk_52, cp_53, (Gh.trans e_10 e_13), (St.sel [0] rfl h), (K.sub (so rfl))⟩
 refine wk <| kk_37 x_8 hm _ _ ⟨G10, bk_11, cp_12, e_10, (St.sel [0] rfl h), (K.sub (so rfl))⟩
abbrev R46 (r : (List T56) × Int) (v : Value) (H : Gh) : Prop := ∃ u0, v = .tuple #[u0, .int .i64 r.2] ∧ (kSl k56).val H u0 r.1
instance monR46 {r : (List T56) × Int} : MonR (R46 r) := by
 constructor
 rintro G H v e ⟨u0, rfl, q0⟩
 exact ⟨u0, rfl, Kd.val_mono e q0⟩
theorem c46 {p0 : (List T56)} {p1 : Int} {p2 : Int} {p3 : Int} {r : (List T56) × Int} (hm : m46 p0 p1 p2 p3 = some r) {vp0 : Value} (hp0 : ((kSl k56).val G0 vp0 p0)) (h : St c G0 w []) : Calls prog 46 #[vp0, .int .i64 p1, .int .i64 p2, .int .i64 p3] w (FO c [] (R46 r)) := by
 unfold m46 at hm
 refine enter (n := 73) func46 rfl rfl rfl fun a K => sl <| asg K rfl fun a K => asg K rfl fun a K => wn <| ws <| wb <| sl <| mv K rfl fun a K => ?_
 obtain ⟨x_24, hx_24, hm⟩ := bs hm
 refine clp K h rfl b83 (fun h => c83 hx_24 hp0 h) fun a w v G9 K e_9 h hR_25 => ?_
 obtain rfl := hR_25
 refine binC _ K rfl rfl rfl fun a K => asg K rfl fun a K => wn <| ifm hm K rfl (fun _ hm => ?_) fun _ hm => ?_
 · refine sl <| asg K rfl fun a K => asg K rfl fun a K => wn <| wt ?_
   obtain rfl := oi hm
   exact fi f46 [_, _] K (St.sel [] rfl h) rfl ⟨rfl, rfl, ⟨⟩⟩ (.inl rfl) ⟨rfl, ⟨_, rfl, nil_sl⟩⟩
 refine joinS (S := Bool) (fun s_35 a w => Jn c G9 [] 73 [(0, vp0), (1, .int .i64 p1), (2, .int .i64 p2), (3, .int .i64 p3), (8, .slice none 0 0), (9, .int .i64 0), (15, .bool s_35)] a w) (fun s_35 => m46_j_103 p0 p1 p2 p3 s_35 = some r) (fun s_35 hm a w hJ => ?_) (fun kk_104 => ?_)
 · obtain ⟨G13, e_13, h, K⟩ := hJ
   unfold m46_j_103 at hm
   refine ifm hm K rfl (fun _ hm => ?_) fun _ hm => ?_
   · refine sl <| asg K rfl fun a K => asg K rfl fun a K => wn <| wt ?_
     obtain rfl := oi hm
     exact fi f46 [_, _] K (St.sel [] rfl h) rfl ⟨rfl, rfl, ⟨⟩⟩ (.inl rfl) ⟨rfl, ⟨_, rfl, nil_sl⟩⟩
   refine wk <| sl <| mv K rfl fun a K => mv K rfl fun a K => ?_
   obtain ⟨x_37, hx_37, hm⟩ := bs hm
   refine clp K h rfl b85 (fun h => c85 hx_37 (Kd.val_mono (Gh.trans e_9 e_13) hp0) h) fun a w v_39 G14 K e_14 h hR_38 => alc K h z56 fun a w bk_40 K h => sto 0 Ik56 ([x_37]) K h rfl rfl rfl rfl hR_38 t56 rfl rfl fun w h => nsl <| fa F56_1 K rfl o56_1 fun a K => ld1 0 J56_1 (.int .i64 x_37.Blocks) K h rfl rfl rfl t3 vI fun a K => mv K rfl fun a K => binI _ K rfl rfl rfl fun a K => fa F56_1 K rfl o56_1 fun a K => sto 0 J56_1 ([({ x_37 with Blocks := (wr (x_37.Blocks + p2)) } : T56)]) K h rfl rfl rfl rfl int_val t3 rfl rfl fun w h => nsl <| fa F56_2 K rfl o56_2 fun a K => ld1 0 J56_2 (.int .i64 x_37.Inodes) K h rfl rfl rfl t3 vI fun a K => mv K rfl fun a K => binI _ K rfl rfl rfl fun a K => fa F56_2 K rfl o56_2 fun a K => sto 0 J56_2 ([({ x_37 with Blocks := (wr (x_37.Blocks + p2)), Inodes := (wr (x_37.Inodes + p3)) } : T56)]) K h rfl rfl rfl rfl int_val t3 rfl rfl fun w h => wn <| ws <| wb <| joinS (S := Bool) (fun s_74 a w => Jn c G14 [⟨k56, [({ x_37 with Blocks := (wr (x_37.Blocks + p2)), Inodes := (wr (x_37.Inodes + p3)) } : T56)], 1, (some bk_40), 56⟩] 73 [(0, vp0), (2, .int .i64 p2), (3, .int .i64 p3), (8, .slice none 0 0), (9, .int .i64 0), (10, (pA bk_40 Ik56)), (42, .bool s_74)] a w) (fun s_74 => m46_j_96 p0 p2 p3 x_37 s_74 = some r) (fun s_74 hm a w hJ => ?_) (fun kk_97 => ?_)
   · obtain ⟨G27, e_27, h, K⟩ := hJ
     unfold m46_j_96 at hm
     refine ifm hm K rfl (fun _ hm => ?_) fun _ hm => ?_
     · refine sl <| asg K rfl fun a K => asg K rfl fun a K => wn <| wt ?_
       obtain rfl := oi hm
       exact fi f46 [_, _] K (St.sel [] rfl h) rfl ⟨rfl, rfl, ⟨⟩⟩ (.inl rfl) ⟨rfl, ⟨_, rfl, nil_sl⟩⟩
     refine joinS (S := Bool) (fun s_81 a w => Jn c G27 [⟨k56, [({ x_37 with Blocks := (wr (x_37.Blocks + p2)), Inodes := (wr (x_37.Inodes + p3)) } : T56)], 1, (some bk_40), 56⟩] 73 [(0, vp0), (8, .slice none 0 0), (9, .int .i64 0), (10, (pA bk_40 Ik56)), (53, .bool s_81)] a w) (fun s_81 => m46_j_89 p0 p2 p3 x_37 s_81 = some r) (fun s_81 hm a w hJ => ?_) (fun kk_90 => ?_)
     · obtain ⟨G30, e_30, h, K⟩ := hJ
       unfold m46_j_89 at hm
       refine ifm hm K rfl (fun _ hm => ?_) fun _ hm => ?_
       · refine sl <| asg K rfl fun a K => asg K rfl fun a K => wn <| wt ?_
         obtain rfl := oi hm
         exact fi f46 [_, _] K (St.sel [] rfl h) rfl ⟨rfl, rfl, ⟨⟩⟩ (.inl rfl) ⟨rfl, ⟨_, rfl, nil_sl⟩⟩
       refine wk <| sl <| mv K rfl fun a K => ld 0 Ik56 K h rfl rfl rfl t56 fun a v_83 K q_84 => ?_
       obtain ⟨x_85, hx_85, hm⟩ := bs hm
       refine clp K h rfl b87 (fun h => c87 hx_85 (Kd.val_mono (Gh.trans e_9 (Gh.trans e_13 (Gh.trans e_14 (Gh.trans e_27 e_30)))) hp0) q_84 h) fun a w v G31 K e_31 h hR_86 => ?_
       obtain ⟨v_87, rfl, q_88⟩ := hR_86
       refine extr K rfl rfl fun a K => extr K rfl rfl fun a K => asg K rfl fun a K => asg K rfl fun a K => wn <| wt ?_
       obtain rfl := oi hm
       exact fi f46 [_, _] K (St.sel [] rfl h) rfl ⟨rfl, rfl, ⟨⟩⟩ (.inl rfl) ⟨rfl, ⟨v_87, rfl, q_88⟩⟩
     refine wl <| mv K rfl fun a K => fa F56_1 K rfl o56_1 fun a K => ld1 0 J56_1 (.int .i64 (wr (x_37.Blocks + p2))) K h rfl rfl rfl t3 vI fun a K => fa F56_3 K rfl o56_3 fun a K => ld1 0 J56_3 (.int .i64 x_37.MaxBlocks) K h rfl rfl rfl t3 vI fun a K => ?_
     obtain ⟨x_91, hx_91, hm⟩ := bs hm
     refine clp K h rfl b86 (fun h => c86 hx_91 h) fun a w v G32 K e_32 h hR_92 => ?_
     obtain rfl := hR_92
     refine mv K rfl fun a K => ?_
     rcases im hm with ⟨c_93, hm⟩ | ⟨c_93, hm⟩
     · refine g1 K c_93 fun a K => g1 K c_93 fun a K => g1 K c_93 fun a K => g1 K c_93 fun a K => g1 K c_93 fun a K => g1 K c_93 fun a K => pkT K rfl c_93 rfl fun a K => asg K rfl fun a K => wn <| kk_90 true hm _ _ ⟨G32, e_32, (St.sel [0] rfl h), (K.sub (so rfl))⟩
     refine g2 K c_93 <| mv K rfl fun a K => g2 K c_93 <| fa F56_2 K rfl o56_2 fun a K => g2 K c_93 <| ld1 0 J56_2 (.int .i64 (wr (x_37.Inodes + p3))) K h rfl rfl rfl t3 vI fun a K => g2 K c_93 <| fa F56_4 K rfl o56_4 fun a K => g2 K c_93 <| ld1 0 J56_4 (.int .i64 x_37.MaxInodes) K h rfl rfl rfl t3 vI fun a K => gy K rfl rfl c_93 ?_
     obtain ⟨x_94, hx_94, hm⟩ := bs hm
     refine clp K h rfl b86 (fun h => c86 hx_94 h) fun a w v G33 K e_33 h hR_95 => ?_
     obtain rfl := hR_95
     refine pkF K rfl c_93 rfl fun a K => asg K rfl fun a K => wn <| kk_90 x_94 hm _ _ ⟨G33, (Gh.trans e_32 e_33), (St.sel [0] rfl h), (K.sub (so rfl))⟩
   refine wl <| fa F56_1 K rfl o56_1 fun a K => ld1 0 J56_1 (.int .i64 (wr (x_37.Blocks + p2))) K h rfl rfl rfl t3 vI fun a K => ?_
   obtain ⟨x_98, hx_98, hm⟩ := bs hm
   refine clp K h rfl b84 (fun h => c84 hx_98 h) fun a w v G34 K e_34 h hR_99 => ?_
   obtain rfl := hR_99
   refine notB _ K rfl rfl fun a K => mv K rfl fun a K => ?_
   rcases im hm with ⟨c_100, hm⟩ | ⟨c_100, hm⟩
   · refine g1 K c_100 fun a K => g1 K c_100 fun a K => g1 K c_100 fun a K => g1 K c_100 fun a K => pkT K rfl c_100 rfl fun a K => asg K rfl fun a K => wn <| kk_97 true hm _ _ ⟨G34, e_34, (St.sel [0] rfl h), (K.sub (so rfl))⟩
   refine g2 K c_100 <| fa F56_2 K rfl o56_2 fun a K => g2 K c_100 <| ld1 0 J56_2 (.int .i64 (wr (x_37.Inodes + p3))) K h rfl rfl rfl t3 vI fun a K => gy K rfl rfl c_100 ?_
   obtain ⟨x_101, hx_101, hm⟩ := bs hm
   refine clp K h rfl b84 (fun h => c84 hx_101 h) fun a w v G35 K e_35 h hR_102 => ?_
   obtain rfl := hR_102
   refine g2 K c_100 <| notB _ K rfl rfl fun a K => pkF K rfl c_100 rfl fun a K => asg K rfl fun a K => wn <| kk_97 (!x_101) hm _ _ ⟨G35, (Gh.trans e_34 e_35), (St.sel [0] rfl h), (K.sub (so rfl))⟩
 refine wl <| mv K rfl fun a K => ?_
 obtain ⟨x_105, hx_105, hm⟩ := bs hm
 refine clp K h rfl b84 (fun h => c84 hx_105 h) fun a w v G36 K e_36 h hR_106 => ?_
 obtain rfl := hR_106
 refine notB _ K rfl rfl fun a K => mv K rfl fun a K => ?_
 rcases im hm with ⟨c_107, hm⟩ | ⟨c_107, hm⟩
 · refine g1 K c_107 fun a K => g1 K c_107 fun a K => g1 K c_107 fun a K => pkT K rfl c_107 rfl fun a K => mv K rfl fun a K => g1 K rfl fun a K => g1 K rfl fun a K => g1 K rfl fun a K => pkT K rfl rfl rfl fun a K => asg K rfl fun a K => wn <| kk_104 true hm _ _ ⟨G36, e_36, (St.sel [] rfl h), (K.sub (so rfl))⟩
 refine g2 K c_107 <| mv K rfl fun a K => gy K rfl rfl c_107 ?_
 obtain ⟨x_108, hx_108, hm⟩ := bs hm
 refine clp K h rfl b84 (fun h => c84 hx_108 h) fun a w v G37 K e_37 h hR_109 => ?_
 obtain rfl := hR_109
 refine g2 K c_107 <| notB _ K rfl rfl fun a K => pkF K rfl c_107 rfl fun a K => mv K rfl fun a K => ?_
 rcases im hm with ⟨c_110, hm⟩ | ⟨c_110, hm⟩
 · refine g1 K c_110 fun a K => g1 K c_110 fun a K => g1 K c_110 fun a K => pkT K rfl c_110 rfl fun a K => asg K rfl fun a K => wn <| kk_104 true hm _ _ ⟨G37, (Gh.trans e_36 e_37), (St.sel [] rfl h), (K.sub (so rfl))⟩
 refine g2 K c_110 <| mv K rfl fun a K => gy K rfl rfl c_110 ?_
 obtain ⟨x_111, hx_111, hm⟩ := bs hm
 refine clp K h rfl b84 (fun h => c84 hx_111 h) fun a w v G38 K e_38 h hR_112 => ?_
 obtain rfl := hR_112
 refine g2 K c_110 <| notB _ K rfl rfl fun a K => pkF K rfl c_110 rfl fun a K => asg K rfl fun a K => wn <| kk_104 (!x_111) hm _ _ ⟨G38, (Gh.trans e_36 (Gh.trans e_37 e_38)), (St.sel [] rfl h), (K.sub (so rfl))⟩
abbrev R17 (r : (Option T103) × Int) (up : Value) (v : Value) (H : Gh) : Prop := v = .tuple #[up, .int .i64 r.2]
instance monR17 {r : (Option T103) × Int} {up : Value} : MonR (R17 r up) := ⟨fun _ _ _ _ h => h⟩
theorem c17 {p0 : Int} {p1 : (List UInt8)} {r : (Option T103) × Int} (hm : m17 p0 p1 = some r) {vp1 : Value} (hp1 : (a22.val G0 vp1 p1)) (h : St c G0 w []) : Calls prog 17 #[.int .i64 p0, vp1] w (Fin c fun v H Δ => ∃ (up : Value) (Δp : List Own), Δ = Δp ∧ pto103 r.1 up Δp ∧ R17 r up v H) := by
 unfold m17 at hm
 refine enter (n := 32) func17 rfl rfl rfl fun a K => sl <| boxr K h rfl hp1 fun a w v_1 G1 K e_1 h q_2 => asg K rfl fun a K => asg K rfl fun a K => wn <| ws <| joinS (S := Bool) (fun s_10 a w => Jn c G1 [] 32 [(0, .int .i64 p0), (3, v_1), (4, .pointer none), (5, .int .i64 0), (12, .bool s_10)] a w) (fun s_10 => m17_j_54 p0 p1 s_10 = some r) (fun s_10 hm a w hJ => ?_) (fun kk_55 => ?_)
 · obtain ⟨G3, e_3, h, K⟩ := hJ
   unfold m17_j_54 at hm
   refine ifm hm K rfl (fun _ hm => ?_) fun _ hm => ?_
   · refine sl <| asg K rfl fun a K => asg K rfl fun a K => wn <| wt ?_
     obtain rfl := oi hm
     exact fi f17 [_, _] K (St.sel [] rfl h) rfl ⟨rfl, rfl, ⟨⟩⟩ (.inl rfl) ⟨.pointer none, [], rfl, ⟨rfl, rfl⟩, rfl⟩
   refine wk <| ws ?_
   obtain ⟨g_14, hm⟩ := gs hm
   obtain ⟨g_16, hm⟩ := gs hm
   obtain ⟨g_20, hm⟩ := gs hm
   refine wp_hop (Δs := [[]]) 8 [(fE (.int .i64 p0)), (fT a22 p1), (fR k84 (List.replicate ((25 : Int)).toNat Z84) (((25 : Int)).toNat) 84), (fR (kSl k87) (List.replicate ((25 : Int)).toNat ([] : (List T87))) (((25 : Int)).toNat) 85), (fE (.int .i64 p0)), (fR (kSl kByte) (List.replicate (p0).toNat ([] : (List UInt8))) ((p0).toNat) 43), (fD fun L H v => ∃ h_15 h_16 h_18, lk L 15 = some h_15 ∧ lk L 16 = some h_16 ∧ lk L 18 = some h_18 ∧ k37o.val H v (⟨p0, (0 : Nat), p1, ([] : (List T56)), (h_15), (h_16), (h_18)⟩ : T37o)), (fB k37o (⟨0, (0 : Nat), (List.replicate 16 (0 : UInt8)), ([] : (List T56)), (.slice none 0 0 : Value), (.slice none 0 0 : Value), (.slice none 0 0 : Value)⟩ : T37o) 37)] [(0, .int .i64 p0), (3, v_1), (4, .pointer none), (5, .int .i64 0)] [] [[0], [0], [0], [0], [0], [0], [0], [0]] [0, 0, 0, 0, 0, 16, 63, 0, 255] mx (by kernel_rfl) (by kernel_rfl) (by kernel_rfl) (by kernel_rfl) rfl rfl ⟨monE, monT, monR, monR, monE, monR, (monD (by rintro L L' G H v hl hg ⟨h_15, h_16, h_18, a_15, a_16, a_18, q⟩; exact ⟨h_15, h_16, h_18, hl _ _ a_15, hl _ _ a_16, hl _ _ a_18, Kd.val_mono hg q⟩)), monB, ⟨⟩⟩ K h rfl rfl ⟨rfl, rfl, rfl, rfl, ⟨⟩⟩ ⟨(stg1 rfl rfl ?_), (stg1 rfl rfl ?_), (stg1 rfl rfl ?_), (stg1 rfl rfl ?_), (stg1 rfl rfl ?_), (stg1 rfl rfl ?_), (stg1 rfl rfl ?_), (stg1 rfl rfl ?_), ⟨⟩⟩ rfl ?_
   · exact hpX [(0, _)] (fun s _ => ⟨s.1, ⟨⟩⟩) fun _ _ K t => mv K rfl t
   · exact hpT [(3, _)] (fun s _ => ⟨s.2.1, ⟨⟩⟩) fun e h K t => ldr K h rfl (Kd.val_mono (Gh.trans e_3 e) q_2) t22 t
   · intro a w G6 L X e_6 h K hs hk
     have hx : Sy.sub L [] := trivial
     replace K := K.addx _ hx
     refine mks K h rfl rfl g_14 s33 e84 z84 fun a w bk_15 K h => wn <| ⟨rfl, G6, [_], gr, h, _, K.dropx _ hx, ⟨bk_15, rfl, rfl⟩⟩
   · intro a w G7 L X e_7 h K hs hk
     have hx : Sy.sub L [] := trivial
     replace K := K.addx _ hx
     refine mks K h rfl rfl g_16 s34 e85 z85 fun a w bk_17 K h => wn <| ⟨rfl, G7, [_], gr, h, _, K.dropx _ hx, ⟨bk_17, rfl, rfl⟩⟩
   · exact hpX [(0, _)] (fun s _ => ⟨s.1, ⟨⟩⟩) fun _ _ K t => mv K rfl t
   · intro a w G9 L X e_9 h K hs hk
     obtain ⟨v_18, _, l_19, -, rfl⟩ := hk.1
     have hx : Sy.sub L [(17, _)] := ⟨l_19, ⟨⟩⟩
     replace K := K.addx _ hx
     refine mks K h rfl rfl g_20 s35 e43 z43 fun a w bk_21 K h => wn <| ⟨rfl, G9, [_], gr, h, _, K.dropx _ hx, ⟨bk_21, rfl, rfl⟩⟩
   · intro a w G10 L X e_10 h K hs hk
     obtain ⟨v_22, _, l_23, -, rfl⟩ := hk.1
     obtain ⟨v_24, _, l_25, -, q_26⟩ := hk.2.1
     obtain ⟨_, _, l_28, bk_29, rfl, -⟩ := hk.2.2.1
     obtain ⟨_, _, l_31, bk_32, rfl, -⟩ := hk.2.2.2.1
     obtain ⟨_, _, l_34, bk_35, rfl, -⟩ := hk.2.2.2.2.1
     have hx : Sy.sub L [(13, _), (14, _), (15, _), (16, _), (18, _)] := ⟨l_23, l_25, l_28, l_31, l_34, ⟨⟩⟩
     replace K := K.addx _ hx
     refine bld (⟨p0, (0 : Nat), p1, ([] : (List T56)), (hdr (some bk_29) (List.replicate ((25 : Int)).toNat Z84).length (((25 : Int)).toNat)), (hdr (some bk_32) (List.replicate ((25 : Int)).toNat ([] : (List T87))).length (((25 : Int)).toNat)), (hdr (some bk_35) (List.replicate (p0).toNat ([] : (List UInt8))).length ((p0).toNat))⟩ : T37o) K h rfl pl37 rfl z37o (.cons F37_0o rfl int_val (.cons F37_2o rfl q_26 (.cons F37_4o rfl (show kEx.val _ _ _ from (ex_val rfl)) (.cons F37_5o rfl (show kEx.val _ _ _ from (ex_val rfl)) (.cons F37_6o rfl (show kEx.val _ _ _ from (ex_val rfl)) .nil))))) fun a v_36 K q_37 => wn <| ⟨rfl, G10, [], gr, h, _, K.dropx _ hx, ⟨rfl, _, _, _, l_28, l_31, l_34, q_37⟩⟩
   · intro a w G11 L X e_11 h K hs hk
     have hx : Sy.sub L [] := trivial
     replace K := K.addx _ hx
     refine alc K h z37o fun a w bk_38 K h => wn <| ⟨rfl, G11, [_], gr, h, _, K.dropx _ hx, ⟨bk_38, rfl, rfl⟩⟩
   intro a w G12 L X e_12 h K hs hg
   obtain ⟨_, _, _, rfl, -, ⟨rfl, -⟩, hg⟩ := hg
   obtain ⟨_, _, _, rfl, -, ⟨rfl, -⟩, hg⟩ := hg
   obtain ⟨_, _, _, rfl, l2x, ⟨bk_15, rfl, rfl⟩, hg⟩ := hg
   obtain ⟨_, _, _, rfl, l3x, ⟨bk_17, rfl, rfl⟩, hg⟩ := hg
   obtain ⟨_, _, _, rfl, -, ⟨rfl, -⟩, hg⟩ := hg
   obtain ⟨_, _, _, rfl, l5x, ⟨bk_21, rfl, rfl⟩, hg⟩ := hg
   obtain ⟨v_39, _, _, rfl, l6x, ⟨rfl, h_15, h_16, h_18, a_15, a_16, a_18, q_40⟩, hg⟩ := hg
   obtain rfl := Option.some.inj (a_15.symm.trans l2x)
   obtain rfl := Option.some.inj (a_16.symm.trans l3x)
   obtain rfl := Option.some.inj (a_18.symm.trans l5x)
   obtain ⟨_, _, _, rfl, l7x, ⟨bk_38, rfl, rfl⟩, hg⟩ := hg
   obtain rfl := hg
   replace h := St.cast (Δ' := [⟨k84, (List.replicate ((25 : Int)).toNat Z84), ((25 : Int)).toNat, (some bk_15), 84⟩, ⟨(kSl k87), (List.replicate ((25 : Int)).toNat ([] : (List T87))), ((25 : Int)).toNat, (some bk_17), 85⟩, ⟨(kSl kByte), (List.replicate (p0).toNat ([] : (List UInt8))), (p0).toNat, (some bk_21), 43⟩, ⟨k37o, [(⟨0, (0 : Nat), (List.replicate 16 (0 : UInt8)), ([] : (List T56)), (.slice none 0 0 : Value), (.slice none 0 0 : Value), (.slice none 0 0 : Value)⟩ : T37o)], 1, (some bk_38), 37⟩]) h rfl
   replace K := K.sub (l' := [(15, _), (16, _), (18, _), (19, _), (6, _), (4, _), (5, _)]) ⟨l2x, l3x, l5x, l6x, l7x, hs.2.2.1, hs.2.2.2.1, ⟨⟩⟩
   refine sto 3 Ik37o ([(⟨p0, (0 : Nat), p1, ([] : (List T56)), (hdr (some bk_15) (List.replicate ((25 : Int)).toNat Z84).length (((25 : Int)).toNat)), (hdr (some bk_17) (List.replicate ((25 : Int)).toNat ([] : (List T87))).length (((25 : Int)).toNat)), (hdr (some bk_21) (List.replicate (p0).toNat ([] : (List UInt8))).length ((p0).toNat))⟩ : T37o)]) K h rfl rfl rfl rfl q_40 t37o rfl rfl fun w h => wn <| sl <| fa F37_4o K rfl o37_4o fun a K => ld1 3 J37_4o (hdr (some bk_15) (List.replicate ((25 : Int)).toNat Z84).length (((25 : Int)).toNat)) K h rfl rfl rfl t33 vX fun a K => bld (⟨2, 493, 0, 0, 2, 0, (List.replicate 2 (0 : Nat)), ByteArray.empty, ([] : (List T108)), ([] : (List T94))⟩ : T84) K h rfl pl84 rfl z84 (.cons F84_0 rfl int_val (.cons F84_1 rfl int_val (.cons F84_4 rfl int_val .nil))) fun a v_41 K q_42 => ?_
   obtain ⟨g_43, hm⟩ := gs hm
   refine ixo K rfl rfl g_43 s33 t84 fun a K => ?_
   have hl_44 : (st (List.replicate ((25 : Int)).toNat Z84) 1 (⟨2, 493, 0, 0, 2, 0, (List.replicate 2 (0 : Nat)), ByteArray.empty, ([] : (List T108)), ([] : (List T94))⟩ : T84)).length = (List.replicate ((25 : Int)).toNat Z84).length := st_length
   refine sto 0 Ik84 ((st (List.replicate ((25 : Int)).toNat Z84) 1 (⟨2, 493, 0, 0, 2, 0, (List.replicate 2 (0 : Nat)), ByteArray.empty, ([] : (List T108)), ([] : (List T94))⟩ : T84))) K h rfl rfl (gt_some g_43) rfl q_42 t84 rfl rfl fun w h => wn <| ws <| wl ?_
   obtain ⟨x_45, hx_45, hm⟩ := bs hm
   refine clp K h rfl b46 (fun h => c46 hx_45 nil_sl h) fun a w v G13 K e_13 h hR_46 => ?_
   obtain ⟨v_47, rfl, q_48⟩ := hR_46
   refine mv K rfl fun a K => extr K rfl rfl fun a K => extr K rfl rfl fun a K => fa F37_3o K rfl o37_3o fun a K => sto 3 J37_3o ([(⟨p0, (0 : Nat), p1, x_45.1, (hdr (some bk_15) (List.replicate ((25 : Int)).toNat Z84).length (((25 : Int)).toNat)), (hdr (some bk_17) (List.replicate ((25 : Int)).toNat ([] : (List T87))).length (((25 : Int)).toNat)), (hdr (some bk_21) (List.replicate (p0).toNat ([] : (List UInt8))).length ((p0).toNat))⟩ : T37o)]) K h rfl rfl rfl rfl q_48 t32 rfl rfl fun w h => nsl <| ld 3 Ik37o K h rfl rfl rfl t37o fun a v_49 K q_50 => ?_
   replace q_50 : k37o.val _ v_49 (⟨p0, (0 : Nat), p1, x_45.1, (hdr (some bk_15) (List.replicate ((25 : Int)).toNat Z84).length (((25 : Int)).toNat)), (hdr (some bk_17) (List.replicate ((25 : Int)).toNat ([] : (List T87))).length (((25 : Int)).toNat)), (hdr (some bk_21) (List.replicate (p0).toNat ([] : (List UInt8))).length ((p0).toNat))⟩ : T37o) := q_50
   refine bld (⟨(⟨p0, (0 : Nat), p1, x_45.1, (hdr (some bk_15) (List.replicate ((25 : Int)).toNat Z84).length (((25 : Int)).toNat)), (hdr (some bk_17) (List.replicate ((25 : Int)).toNat ([] : (List T87))).length (((25 : Int)).toNat)), (hdr (some bk_21) (List.replicate (p0).toNat ([] : (List UInt8))).length ((p0).toNat))⟩ : T37o), (List.replicate 8 (⟨false, 0, 0, 0⟩ : T100))⟩ : T103o) K h rfl pl103 rfl z103o (.cons F103_0o rfl q_50 .nil) fun a v_51 K q_52 => box K h rfl q_52 fun a w bk_53 K h => asg K rfl fun a K => asg K rfl fun a K => wn <| wt ?_
   replace h := (St.cast (St.sel [0, 1, 2, 3] rfl h) (show ([⟨k103o, [(⟨(⟨p0, (0 : Nat), p1, x_45.1, (hdr (some bk_15) (List.replicate ((25 : Int)).toNat Z84).length (((25 : Int)).toNat)), (hdr (some bk_17) (List.replicate ((25 : Int)).toNat ([] : (List T87))).length (((25 : Int)).toNat)), (hdr (some bk_21) (List.replicate (p0).toNat ([] : (List UInt8))).length ((p0).toNat))⟩ : T37o), (List.replicate 8 (⟨false, 0, 0, 0⟩ : T100))⟩ : T103o)], 1, (some bk_53), 103⟩, ⟨k84, (st (List.replicate ((25 : Int)).toNat Z84) 1 (⟨2, 493, 0, 0, 2, 0, (List.replicate 2 (0 : Nat)), ByteArray.empty, ([] : (List T108)), ([] : (List T94))⟩ : T84)), ((25 : Int)).toNat, (some bk_15), 84⟩, ⟨(kSl k87), (List.replicate ((25 : Int)).toNat ([] : (List T87))), ((25 : Int)).toNat, (some bk_17), 85⟩, ⟨(kSl kByte), (List.replicate (p0).toNat ([] : (List UInt8))), (p0).toNat, (some bk_21), 43⟩] : List Own) = [⟨k103o, [(⟨(⟨p0, (0 : Nat), p1, x_45.1, (hdr (some bk_15) (st (List.replicate ((25 : Int)).toNat Z84) 1 (⟨2, 493, 0, 0, 2, 0, (List.replicate 2 (0 : Nat)), ByteArray.empty, ([] : (List T108)), ([] : (List T94))⟩ : T84)).length (((25 : Int)).toNat)), (hdr (some bk_17) (List.replicate ((25 : Int)).toNat ([] : (List T87))).length (((25 : Int)).toNat)), (hdr (some bk_21) (List.replicate (p0).toNat ([] : (List UInt8))).length ((p0).toNat))⟩ : T37o), (List.replicate 8 (⟨false, 0, 0, 0⟩ : T100))⟩ : T103o)], 1, (some bk_53), 103⟩, ⟨k84, (st (List.replicate ((25 : Int)).toNat Z84) 1 (⟨2, 493, 0, 0, 2, 0, (List.replicate 2 (0 : Nat)), ByteArray.empty, ([] : (List T108)), ([] : (List T94))⟩ : T84)), ((25 : Int)).toNat, (some bk_15), 84⟩, ⟨(kSl k87), (List.replicate ((25 : Int)).toNat ([] : (List T87))), ((25 : Int)).toNat, (some bk_17), 85⟩, ⟨(kSl kByte), (List.replicate (p0).toNat ([] : (List UInt8))), (p0).toNat, (some bk_21), 43⟩] by rw [hl_44]))
   obtain rfl := oi hm
   exact fi f17 [_, _] K h rfl ⟨rfl, rfl, ⟨⟩⟩ (.inl rfl) ⟨(pA bk_53 Ik103o), [⟨k103o, [(⟨(⟨p0, (0 : Nat), p1, x_45.1, (hdr (some bk_15) (List.replicate ((25 : Int)).toNat Z84).length (((25 : Int)).toNat)), (hdr (some bk_17) (List.replicate ((25 : Int)).toNat ([] : (List T87))).length (((25 : Int)).toNat)), (hdr (some bk_21) (List.replicate (p0).toNat ([] : (List UInt8))).length ((p0).toNat))⟩ : T37o), (List.replicate 8 (⟨false, 0, 0, 0⟩ : T100))⟩ : T103o)], 1, (some bk_53), 103⟩, ⟨k84, (st (List.replicate ((25 : Int)).toNat Z84) 1 (⟨2, 493, 0, 0, 2, 0, (List.replicate 2 (0 : Nat)), ByteArray.empty, ([] : (List T108)), ([] : (List T94))⟩ : T84)), ((25 : Int)).toNat, (some bk_15), 84⟩, ⟨(kSl k87), (List.replicate ((25 : Int)).toNat ([] : (List T87))), ((25 : Int)).toNat, (some bk_17), 85⟩, ⟨(kSl kByte), (List.replicate (p0).toNat ([] : (List UInt8))), (p0).toNat, (some bk_21), 43⟩], rfl, ⟨bk_53, bk_15, bk_17, bk_21, ((25 : Int)).toNat, ((25 : Int)).toNat, (p0).toNat, rfl, rfl⟩, rfl⟩
 refine wl <| mv K rfl fun a K => binC _ K rfl rfl rfl fun a K => mv K rfl fun a K => ?_
 rcases im hm with ⟨c_56, hm⟩ | ⟨c_56, hm⟩
 · refine g1 K c_56 fun a K => g1 K c_56 fun a K => pkT K rfl c_56 rfl fun a K => wn <| kk_55 true hm _ _ ⟨G1, gr, (St.sel [] rfl h), (K.sub (so rfl))⟩
 refine g2 K c_56 <| mv K rfl fun a K => g2 K c_56 <| binC _ K rfl rfl rfl fun a K => pkF K rfl c_56 rfl fun a K => wn <| kk_55 (decide (p0 > 195)) hm _ _ ⟨G1, gr, (St.sel [] rfl h), (K.sub (so rfl))⟩
theorem cO80 {p0 r : List T84} (hm : m80 p0 = some r) {b m : Nat} (h : St c G0 w [⟨k84, p0, m, some b, 84⟩]) : Calls prog 80 #[hdr (some b) p0.length m] w (Fin c fun v H Δ => ∃ Δn, Δ = [⟨k84, p0, m, some b, 84⟩] ++ Δn ∧ ∃ b2 m2, Δn = [⟨k84, r, m2, some b2, 84⟩] ∧ v = hdr (some b2) r.length m2) := by
 obtain ⟨g, hm⟩ := gs hm
 obtain rfl := oi hm
 refine enter (n := 8) func80 rfl rfl rfl fun a K => sl <| asg K rfl fun a K => wn <| ws <| sl <| mv K rfl fun a K => binSl _ K rfl rfl s33 rfl fun a K => wn <| ifF K rfl rfl <| wk <| sl <| bldS0 (f := k84) K h s33 t84 fun a w b2 K h => mv K rfl fun a K => appO 0 1 K h rfl rfl rfl rfl rfl s33 s33 e84 g fun a w b3 m3 K h => asg K rfl fun a K => wn <| wt <| fr f80 K (St.sel [1, 0] rfl h) rfl ⟨rfl, ⟨⟩⟩ ⟨_, rfl, b3, m3, rfl, rfl⟩
theorem cV80 {p0 r : List T84} (hm : m80 p0 = some r) {v0 : Value} (h0 : (kSl k84).val G0 v0 p0) (h : St c G0 w []) : Calls prog 80 #[v0] w (Fin c fun v H Δ => ∃ Δn, Δ = [] ++ Δn ∧ ∃ b2 m2, Δn = [⟨k84, r, m2, b2, 84⟩] ∧ v = hdr b2 r.length m2) := by
 obtain ⟨g, hm⟩ := gs hm
 obtain rfl := oi hm
 obtain ⟨q, cp, rfl, hl, hq, -⟩ := kSl_val.1 h0
 cases q with
 | none =>
    obtain rfl := List.eq_nil_of_length_eq_zero (show p0.length = 0 by have := hq rfl; omega)
    simp only [List.length_nil]
    refine enter (n := 8) func80 rfl rfl rfl fun a K => ?_
    refine ws ?_
    refine wl ?_
    refine asg K rfl fun a K => ?_
    refine wn ?_
    refine ws ?_
    refine ws ?_
    refine wl ?_
    refine mv K rfl fun a K => ?_
    refine binSl _ K rfl rfl s33 rfl fun a K => ?_
    refine wn ?_
    refine ifT K rfl rfl ?_
    refine ws ?_
    refine wl ?_
    refine asg K rfl fun a K => ?_
    refine wn ?_
    refine wt ?_
    replace h := St.nil k84 84 h
    exact fr f80 K h rfl ⟨rfl, ⟨⟩⟩ ⟨_, rfl, none, 0, rfl, rfl⟩
 | some q =>
    refine enter (n := 8) func80 rfl rfl rfl fun a K => ?_
    refine ws ?_
    refine wl ?_
    refine asg K rfl fun a K => ?_
    refine wn ?_
    refine ws ?_
    refine ws ?_
    refine wl ?_
    refine mv K rfl fun a K => ?_
    refine binSl _ K rfl rfl s33 rfl fun a K => ?_
    refine wn ?_
    refine ifF K rfl rfl ?_
    refine wk ?_
    refine ws ?_
    refine wl ?_
    refine bldS0 (f := k84) K h s33 t84 fun a w b2 K h => ?_
    refine mv K rfl fun a K => ?_
    refine appV 0 K h rfl rfl rfl h0 rfl s33 s33 e84 g fun a w b3 m3 K h => ?_
    refine asg K rfl fun a K => ?_
    refine wn ?_
    refine wt ?_
    exact fr f80 K h rfl ⟨rfl, ⟨⟩⟩ ⟨_, rfl, some b3, m3, rfl, rfl⟩
theorem cO81 {p0 r : List (List T87)} (hm : m81 p0 = some r) {b m : Nat} (h : St c G0 w [⟨(kSl k87), p0, m, some b, 85⟩]) : Calls prog 81 #[hdr (some b) p0.length m] w (Fin c fun v H Δ => ∃ Δn, Δ = [⟨(kSl k87), p0, m, some b, 85⟩] ++ Δn ∧ ∃ b2 m2, Δn = [⟨(kSl k87), r, m2, some b2, 85⟩] ∧ v = hdr (some b2) r.length m2) := by
 obtain ⟨g, hm⟩ := gs hm
 obtain rfl := oi hm
 refine enter (n := 8) func81 rfl rfl rfl fun a K => sl <| asg K rfl fun a K => wn <| ws <| sl <| mv K rfl fun a K => binSl _ K rfl rfl s34 rfl fun a K => wn <| ifF K rfl rfl <| wk <| sl <| bldS0 (f := (kSl k87)) K h s34 t85 fun a w b2 K h => mv K rfl fun a K => appO 0 1 K h rfl rfl rfl rfl rfl s34 s34 e85 g fun a w b3 m3 K h => asg K rfl fun a K => wn <| wt <| fr f81 K (St.sel [1, 0] rfl h) rfl ⟨rfl, ⟨⟩⟩ ⟨_, rfl, b3, m3, rfl, rfl⟩
theorem cV81 {p0 r : List (List T87)} (hm : m81 p0 = some r) {v0 : Value} (h0 : (kSl (kSl k87)).val G0 v0 p0) (h : St c G0 w []) : Calls prog 81 #[v0] w (Fin c fun v H Δ => ∃ Δn, Δ = [] ++ Δn ∧ ∃ b2 m2, Δn = [⟨(kSl k87), r, m2, b2, 85⟩] ∧ v = hdr b2 r.length m2) := by
 obtain ⟨g, hm⟩ := gs hm
 obtain rfl := oi hm
 obtain ⟨q, cp, rfl, hl, hq, -⟩ := kSl_val.1 h0
 cases q with
 | none =>
    obtain rfl := List.eq_nil_of_length_eq_zero (show p0.length = 0 by have := hq rfl; omega)
    simp only [List.length_nil]
    refine enter (n := 8) func81 rfl rfl rfl fun a K => ?_
    refine ws ?_
    refine wl ?_
    refine asg K rfl fun a K => ?_
    refine wn ?_
    refine ws ?_
    refine ws ?_
    refine wl ?_
    refine mv K rfl fun a K => ?_
    refine binSl _ K rfl rfl s34 rfl fun a K => ?_
    refine wn ?_
    refine ifT K rfl rfl ?_
    refine ws ?_
    refine wl ?_
    refine asg K rfl fun a K => ?_
    refine wn ?_
    refine wt ?_
    replace h := St.nil (kSl k87) 85 h
    exact fr f81 K h rfl ⟨rfl, ⟨⟩⟩ ⟨_, rfl, none, 0, rfl, rfl⟩
 | some q =>
    refine enter (n := 8) func81 rfl rfl rfl fun a K => ?_
    refine ws ?_
    refine wl ?_
    refine asg K rfl fun a K => ?_
    refine wn ?_
    refine ws ?_
    refine ws ?_
    refine wl ?_
    refine mv K rfl fun a K => ?_
    refine binSl _ K rfl rfl s34 rfl fun a K => ?_
    refine wn ?_
    refine ifF K rfl rfl ?_
    refine wk ?_
    refine ws ?_
    refine wl ?_
    refine bldS0 (f := (kSl k87)) K h s34 t85 fun a w b2 K h => ?_
    refine mv K rfl fun a K => ?_
    refine appV 0 K h rfl rfl rfl h0 rfl s34 s34 e85 g fun a w b3 m3 K h => ?_
    refine asg K rfl fun a K => ?_
    refine wn ?_
    refine wt ?_
    exact fr f81 K h rfl ⟨rfl, ⟨⟩⟩ ⟨_, rfl, some b3, m3, rfl, rfl⟩
theorem cO82 {p0 r : List (List UInt8)} (hm : m82 p0 = some r) {b m : Nat} (h : St c G0 w [⟨(kSl kByte), p0, m, some b, 43⟩]) : Calls prog 82 #[hdr (some b) p0.length m] w (Fin c fun v H Δ => ∃ Δn, Δ = [⟨(kSl kByte), p0, m, some b, 43⟩] ++ Δn ∧ ∃ b2 m2, Δn = [⟨(kSl kByte), r, m2, some b2, 43⟩] ∧ v = hdr (some b2) r.length m2) := by
 obtain ⟨g, hm⟩ := gs hm
 obtain rfl := oi hm
 refine enter (n := 8) func82 rfl rfl rfl fun a K => sl <| asg K rfl fun a K => wn <| ws <| sl <| mv K rfl fun a K => binSl _ K rfl rfl s35 rfl fun a K => wn <| ifF K rfl rfl <| wk <| sl <| bldS0 (f := (kSl kByte)) K h s35 t43 fun a w b2 K h => mv K rfl fun a K => appO 0 1 K h rfl rfl rfl rfl rfl s35 s35 e43 g fun a w b3 m3 K h => asg K rfl fun a K => wn <| wt <| fr f82 K (St.sel [1, 0] rfl h) rfl ⟨rfl, ⟨⟩⟩ ⟨_, rfl, b3, m3, rfl, rfl⟩
theorem cV82 {p0 r : List (List UInt8)} (hm : m82 p0 = some r) {v0 : Value} (h0 : (kSl (kSl kByte)).val G0 v0 p0) (h : St c G0 w []) : Calls prog 82 #[v0] w (Fin c fun v H Δ => ∃ Δn, Δ = [] ++ Δn ∧ ∃ b2 m2, Δn = [⟨(kSl kByte), r, m2, b2, 43⟩] ∧ v = hdr b2 r.length m2) := by
 obtain ⟨g, hm⟩ := gs hm
 obtain rfl := oi hm
 obtain ⟨q, cp, rfl, hl, hq, -⟩ := kSl_val.1 h0
 cases q with
 | none =>
    obtain rfl := List.eq_nil_of_length_eq_zero (show p0.length = 0 by have := hq rfl; omega)
    simp only [List.length_nil]
    refine enter (n := 8) func82 rfl rfl rfl fun a K => ?_
    refine ws ?_
    refine wl ?_
    refine asg K rfl fun a K => ?_
    refine wn ?_
    refine ws ?_
    refine ws ?_
    refine wl ?_
    refine mv K rfl fun a K => ?_
    refine binSl _ K rfl rfl s35 rfl fun a K => ?_
    refine wn ?_
    refine ifT K rfl rfl ?_
    refine ws ?_
    refine wl ?_
    refine asg K rfl fun a K => ?_
    refine wn ?_
    refine wt ?_
    replace h := St.nil (kSl kByte) 43 h
    exact fr f82 K h rfl ⟨rfl, ⟨⟩⟩ ⟨_, rfl, none, 0, rfl, rfl⟩
 | some q =>
    refine enter (n := 8) func82 rfl rfl rfl fun a K => ?_
    refine ws ?_
    refine wl ?_
    refine asg K rfl fun a K => ?_
    refine wn ?_
    refine ws ?_
    refine ws ?_
    refine wl ?_
    refine mv K rfl fun a K => ?_
    refine binSl _ K rfl rfl s35 rfl fun a K => ?_
    refine wn ?_
    refine ifF K rfl rfl ?_
    refine wk ?_
    refine ws ?_
    refine wl ?_
    refine bldS0 (f := (kSl kByte)) K h s35 t43 fun a w b2 K h => ?_
    refine mv K rfl fun a K => ?_
    refine appV 0 K h rfl rfl rfl h0 rfl s35 s35 e43 g fun a w b3 m3 K h => ?_
    refine asg K rfl fun a K => ?_
    refine wn ?_
    refine wt ?_
    exact fr f82 K h rfl ⟨rfl, ⟨⟩⟩ ⟨_, rfl, some b3, m3, rfl, rfl⟩
abbrev R38_o (r : T37) (up : T37o) (v : Value) (H : Gh) : Prop := k37o.val H v up
instance monR38_o {r : T37} {up : T37o} : MonR (R38_o r up) := ⟨fun _ _ _ e h => Kd.val_mono e h⟩
theorem c38_o {p0 : T37} {q0 : Nat} {q1 : Nat} {q2 : Nat} {n0 n1 n2 : Nat} {r : T37} (hm : m38_o p0 = some r) {vp0 : Value} (hp0 : (k37o.val G0 vp0 (os37 q0 q1 q2 n0 n1 n2 p0))) (h : St c G0 w ((osr37 q0 q1 q2 n0 n1 n2 p0))) : Calls prog 38 #[vp0] w (Fin c fun v H Δ => ∃ Δn, Δ = (osr37 q0 q1 q2 n0 n1 n2 p0) ++ Δn ∧ ∃ (oq0 : Nat) (oq1 : Nat) (oq2 : Nat) (on0 on1 on2 : Nat), Δn = osr37 oq0 oq1 oq2 on0 on1 on2 r ∧ R38_o r (os37 oq0 oq1 oq2 on0 on1 on2 r) v H) := by
 unfold m38_o at hm
 replace h := St.cast (Δ' := [⟨k84, p0.Inodes, n0, (some q0), 84⟩, ⟨(kSl k87), p0.Dirs, n1, (some q1), 85⟩, ⟨(kSl kByte), p0.Blocks, n2, (some q2), 43⟩]) h rfl
 refine enter (n := 16) func38 rfl rfl rfl fun a K => sl <| box K h rfl hp0 fun a w bk_1 K h => alc K h z37o fun a w bk_2 K h => wn <| ws ?_
 obtain ⟨x_7, hx_7, hm⟩ := bs hm
 obtain ⟨x_16, hx_16, hm⟩ := bs hm
 obtain ⟨x_25, hx_25, hm⟩ := bs hm
 refine wp_hop (Δs := [[⟨k37o, [(⟨0, (0 : Nat), (List.replicate 16 (0 : UInt8)), ([] : (List T56)), (.slice none 0 0 : Value), (.slice none 0 0 : Value), (.slice none 0 0 : Value)⟩ : T37o)], 1, (some bk_2), 37⟩, ⟨k37o, [(⟨p0.Homes, p0.Now, p0.Salt, p0.Users, (hS q0 p0.Inodes n0), (hS q1 p0.Dirs n1), (hS q2 p0.Blocks n2)⟩ : T37o)], 1, (some bk_1), 37⟩, ⟨k84, p0.Inodes, n0, (some q0), 84⟩, ⟨(kSl k87), p0.Dirs, n1, (some q1), 85⟩, ⟨(kSl kByte), p0.Blocks, n2, (some q2), 43⟩]]) 10 [(fE (pA bk_1 J37_4o)), (fE (hS q0 p0.Inodes n0)), (fRs k84 x_7 84), (fE (pA bk_1 J37_5o)), (fE (hS q1 p0.Dirs n1)), (fRs (kSl k87) x_16 85), (fE (pA bk_1 J37_6o)), (fE (hS q2 p0.Blocks n2)), (fRs (kSl kByte) x_25 43), (fE (pA bk_1 J37_4o))] [(1, (pA bk_1 Ik37o)), (2, (pA bk_2 Ik37o))] [] [[0], [0], [0], [0], [0], [0], [0], [0], [0], [0]] [0, 1, 3, 0, 8, 31, 0, 64, 255, 223, 1023, 2047, 4095, 8191, 16383] mx (by kernel_rfl) (by kernel_rfl) (by kernel_rfl) (by kernel_rfl) rfl rfl ⟨monE, monE, monRs, monE, monE, monRs, monE, monE, monRs, monE, ⟨⟩⟩ K h rfl rfl ⟨rfl, rfl, ⟨⟩⟩ ⟨(stg1 rfl rfl ?_), (stg1 rfl rfl ?_), (stg1 rfl rfl ?_), (stg1 rfl rfl ?_), (stg1 rfl rfl ?_), (stg1 rfl rfl ?_), (stg1 rfl rfl ?_), (stg1 rfl rfl ?_), (stg1 rfl rfl ?_), (stg1 rfl rfl ?_), ⟨⟩⟩ rfl ?_
 · exact hpX [(1, _)] (fun s _ => ⟨s.1, ⟨⟩⟩) fun _ _ K t => fa F37_4o K rfl o37_4o t
 · exact hpX [(3, _)] k1 fun _ h K t => ld1 1 J37_4o (hS q0 p0.Inodes n0) K h rfl rfl rfl t33 vX t
 · intro a w G3 L X e_3 h K hs hk
   obtain ⟨v_5, _, l_6, -, rfl⟩ := hk.1
   have hx : Sy.sub L [(4, _)] := ⟨l_6, ⟨⟩⟩
   replace K := K.addx _ hx
   refine clg (Δ₁ := [⟨k84, p0.Inodes, n0, (some q0), 84⟩]) (Δ₂ := _) [2] K h rfl rfl b80 (fun h => cO80 hx_7 h) fun a w v_10 G4 Δx K e_4 h hR_11 => ?_
   obtain ⟨bk_8, cp_9, rfl, rfl⟩ := hR_11
   refine wn <| ⟨rfl, G4, [_], e_4, h, _, K.dropx _ hx, ⟨bk_8, cp_9, rfl, rfl⟩⟩
 · exact hpX [(1, _)] (fun s _ => ⟨s.1, ⟨⟩⟩) fun _ _ K t => fa F37_5o K rfl o37_5o t
 · exact hpX [(6, _)] k1 fun _ h K t => ld1 1 J37_5o (hS q1 p0.Dirs n1) K h rfl rfl rfl t34 vX t
 · intro a w G7 L X e_7 h K hs hk
   obtain ⟨v_14, _, l_15, -, rfl⟩ := hk.1
   have hx : Sy.sub L [(7, _)] := ⟨l_15, ⟨⟩⟩
   replace K := K.addx _ hx
   refine clg (Δ₁ := [⟨(kSl k87), p0.Dirs, n1, (some q1), 85⟩]) (Δ₂ := _) [3] K h rfl rfl b81 (fun h => cO81 hx_16 h) fun a w v_19 G8 Δx K e_8 h hR_20 => ?_
   obtain ⟨bk_17, cp_18, rfl, rfl⟩ := hR_20
   refine wn <| ⟨rfl, G8, [_], e_8, h, _, K.dropx _ hx, ⟨bk_17, cp_18, rfl, rfl⟩⟩
 · exact hpX [(1, _)] (fun s _ => ⟨s.1, ⟨⟩⟩) fun _ _ K t => fa F37_6o K rfl o37_6o t
 · exact hpX [(9, _)] k1 fun _ h K t => ld1 1 J37_6o (hS q2 p0.Blocks n2) K h rfl rfl rfl t35 vX t
 · intro a w G11 L X e_11 h K hs hk
   obtain ⟨v_23, _, l_24, -, rfl⟩ := hk.1
   have hx : Sy.sub L [(10, _)] := ⟨l_24, ⟨⟩⟩
   replace K := K.addx _ hx
   refine clg (Δ₁ := [⟨(kSl kByte), p0.Blocks, n2, (some q2), 43⟩]) (Δ₂ := _) [4] K h rfl rfl b82 (fun h => cO82 hx_25 h) fun a w v_28 G12 Δx K e_12 h hR_29 => ?_
   obtain ⟨bk_26, cp_27, rfl, rfl⟩ := hR_29
   refine wn <| ⟨rfl, G12, [_], e_12, h, _, K.dropx _ hx, ⟨bk_26, cp_27, rfl, rfl⟩⟩
 · exact hpX [(1, _)] (fun s _ => ⟨s.1, ⟨⟩⟩) fun _ _ K t => fa F37_4o K rfl o37_4o t
 intro a w G14 L X e_14 h K hs hg
 obtain ⟨_, _, _, rfl, -, ⟨rfl, -⟩, hg⟩ := hg
 obtain ⟨_, _, _, rfl, -, ⟨rfl, -⟩, hg⟩ := hg
 obtain ⟨_, _, _, rfl, l2x, ⟨bk_8, cp_9, rfl, rfl⟩, hg⟩ := hg
 obtain ⟨_, _, _, rfl, -, ⟨rfl, -⟩, hg⟩ := hg
 obtain ⟨_, _, _, rfl, -, ⟨rfl, -⟩, hg⟩ := hg
 obtain ⟨_, _, _, rfl, l5x, ⟨bk_17, cp_18, rfl, rfl⟩, hg⟩ := hg
 obtain ⟨_, _, _, rfl, -, ⟨rfl, -⟩, hg⟩ := hg
 obtain ⟨_, _, _, rfl, -, ⟨rfl, -⟩, hg⟩ := hg
 obtain ⟨_, _, _, rfl, l8x, ⟨bk_26, cp_27, rfl, rfl⟩, hg⟩ := hg
 obtain ⟨_, _, _, rfl, l_30, ⟨rfl, rfl⟩, hg⟩ := hg
 obtain rfl := hg
 replace h := St.cast (Δ' := [⟨k37o, [(⟨0, (0 : Nat), (List.replicate 16 (0 : UInt8)), ([] : (List T56)), (.slice none 0 0 : Value), (.slice none 0 0 : Value), (.slice none 0 0 : Value)⟩ : T37o)], 1, (some bk_2), 37⟩, ⟨k37o, [(⟨p0.Homes, p0.Now, p0.Salt, p0.Users, (hS q0 p0.Inodes n0), (hS q1 p0.Dirs n1), (hS q2 p0.Blocks n2)⟩ : T37o)], 1, (some bk_1), 37⟩, ⟨k84, p0.Inodes, n0, (some q0), 84⟩, ⟨(kSl k87), p0.Dirs, n1, (some q1), 85⟩, ⟨(kSl kByte), p0.Blocks, n2, (some q2), 43⟩, ⟨k84, x_7, cp_9, (some bk_8), 84⟩, ⟨(kSl k87), x_16, cp_18, (some bk_17), 85⟩, ⟨(kSl kByte), x_25, cp_27, (some bk_26), 43⟩]) h rfl
 replace K := K.sub (l' := [(5, _), (8, _), (11, _), (12, _), (1, _), (2, _)]) ⟨l2x, l5x, l8x, l_30, hs.1, hs.2.1, ⟨⟩⟩
 refine sto 1 J37_4o ([(⟨p0.Homes, p0.Now, p0.Salt, p0.Users, (hS bk_8 x_7 cp_9), (hS q1 p0.Dirs n1), (hS q2 p0.Blocks n2)⟩ : T37o)]) K h rfl rfl rfl rfl (show kEx.val _ _ _ from (ex_val rfl)) t33 rfl rfl fun w h => fa F37_5o K rfl o37_5o fun a K => sto 1 J37_5o ([(⟨p0.Homes, p0.Now, p0.Salt, p0.Users, (hS bk_8 x_7 cp_9), (hS bk_17 x_16 cp_18), (hS q2 p0.Blocks n2)⟩ : T37o)]) K h rfl rfl rfl rfl (show kEx.val _ _ _ from (ex_val rfl)) t34 rfl rfl fun w h => fa F37_6o K rfl o37_6o fun a K => sto 1 J37_6o ([(⟨p0.Homes, p0.Now, p0.Salt, p0.Users, (hS bk_8 x_7 cp_9), (hS bk_17 x_16 cp_18), (hS bk_26 x_25 cp_27)⟩ : T37o)]) K h rfl rfl rfl rfl (show kEx.val _ _ _ from (ex_val rfl)) t35 rfl rfl fun w h => wn <| sl <| ld 1 Ik37o K h rfl rfl rfl t37o fun a v_31 K q_32 => sto 0 Ik37o ([(⟨p0.Homes, p0.Now, p0.Salt, p0.Users, (hS bk_8 x_7 cp_9), (hS bk_17 x_16 cp_18), (hS bk_26 x_25 cp_27)⟩ : T37o)]) K h rfl rfl rfl rfl q_32 t37o rfl rfl fun w h => wn <| wt ?_
 obtain ⟨v_33, q_34, rb_35⟩ := resOwn (P := prog) (i := 0) (p := 2) 0 Ik37o h rfl (K.lk_eq 2 rfl) rfl t37o
 obtain rfl := oi hm
 exact fr f38 K (St.sel [2, 3, 4, 5, 6, 7] rfl h) rfl ⟨rb_35, ⟨⟩⟩ ⟨_, rfl, bk_8, bk_17, bk_26, cp_9, cp_18, cp_27, rfl, q_34⟩
abbrev R18 (r : T103) (up : Value) (v : Value) (H : Gh) : Prop := v = up
instance monR18 {r : T103} {up : Value} : MonR (R18 r up) := ⟨fun _ _ _ _ h => h⟩
theorem c18 {p0 : T103} {B0 q0 q1 q2 n0 n1 n2 : Nat} {r : T103} (hm : m18 p0 = some r) (h : St c G0 w ((o3 B0 q0 q1 q2 n0 n1 n2 p0))) : Calls prog 18 #[(pA B0 Ik103o)] w (Fin c fun v H Δ => ∃ (up : Value) (Δp : List Own), Δ = (o3 B0 q0 q1 q2 n0 n1 n2 p0) ++ Δp ∧ pto103 (some r) up Δp ∧ R18 r up v H) := by
 unfold m18 at hm
 refine enter (n := 16) func18 rfl rfl rfl fun a K => sl <| asg K rfl fun a K => wn <| ws <| sl <| mv K rfl fun a K => binPn _ K rfl ⟨_, rfl⟩ rfl pt24 rfl fun a K => wn <| ifF K rfl rfl <| wk <| ws ?_
 obtain ⟨x_12, hx_12, hm⟩ := bs hm
 refine wp_hop (Δs := [(o3 B0 q0 q1 q2 n0 n1 n2 p0)]) 9 [(fE (pA B0 Ik103o)), (fE (pA B0 Ik103o)), (fE (pA B0 J103_0o)), (fT k37o (⟨p0.p.Homes, p0.p.Now, p0.p.Salt, p0.p.Users, (hS q0 p0.p.Inodes n0), (hS q1 p0.p.Dirs n1), (hS q2 p0.p.Blocks n2)⟩ : T37o)), (fS37 x_12), (fE (pA B0 Ik103o)), (fE (pA B0 Ik103o)), (fE (pA B0 J103_1o)), (fT a101 p0.fds)] [(0, (pA B0 Ik103o)), (2, .pointer none)] [] [[0], [0], [0], [0], [0], [0], [0], [0], [0]] [0, 1, 3, 7, 15, 0, 32, 96, 224, 511, 1023, 2047] mx (by kernel_rfl) (by kernel_rfl) (by kernel_rfl) (by kernel_rfl) rfl rfl ⟨monE, monE, monE, monT, monS37, monE, monE, monE, monT, ⟨⟩⟩ K h rfl rfl ⟨rfl, rfl, ⟨⟩⟩ ⟨(stg1 rfl rfl ?_), (stg1 rfl rfl ?_), (stg1 rfl rfl ?_), (stg1 rfl rfl ?_), (stg1 rfl rfl ?_), (stg1 rfl rfl ?_), (stg1 rfl rfl ?_), (stg1 rfl rfl ?_), (stg1 rfl rfl ?_), ⟨⟩⟩ rfl ?_
 · exact hpX [(0, _)] (fun s _ => ⟨s.1, ⟨⟩⟩) fun _ _ K t => mv K rfl t
 · exact hpX [(5, _)] k1 fun _ _ K t => nilck K rfl t
 · exact hpX [(6, _)] k1 fun _ _ K t => fa F103_0o K rfl o103_0o t
 · exact hpT [(7, _)] k1 fun _ h K t => ld 0 J103_0o K h rfl rfl rfl t37o t
 · intro a w G5 L X e_5 h K hs hk
   obtain ⟨v_9, _, l_10, -, q_11⟩ := hk.1
   have hx : Sy.sub L [(8, _)] := ⟨l_10, ⟨⟩⟩
   replace K := K.addx _ hx
   refine clg (Δ₁ := (osr37 q0 q1 q2 n0 n1 n2 p0.p)) (Δ₂ := _) [3, 3, 3] K h rfl rfl b38 (fun h => c38_o hx_12 q_11 h) fun a w v_14 G6 Δx K e_6 h hR_13 => ?_
   obtain ⟨bk_15, bk_17, bk_19, cp_16, cp_18, cp_20, rfl, hR_13⟩ := hR_13
   replace hR_13 : k37o.val _ v_14 (⟨x_12.Homes, x_12.Now, x_12.Salt, x_12.Users, (hS bk_15 x_12.Inodes cp_16), (hS bk_17 x_12.Dirs cp_18), (hS bk_19 x_12.Blocks cp_20)⟩ : T37o) := hR_13
   refine wn <| ⟨rfl, G6, [_, _, _], e_6, h, _, K.dropx _ hx, ⟨bk_15, bk_17, bk_19, cp_16, cp_18, cp_20, rfl, hR_13⟩⟩
 · exact hpX [(0, _)] (fun s _ => ⟨s.1, ⟨⟩⟩) fun _ _ K t => mv K rfl t
 · exact hpX [(10, _)] k1 fun _ _ K t => nilck K rfl t
 · exact hpX [(11, _)] k1 fun _ _ K t => fa F103_1o K rfl o103_1o t
 · exact hpT [(12, _)] k1 fun _ h K t => ld 0 J103_1o K h rfl rfl rfl t101 t
 intro a w G11 L X e_11 h K hs hg
 obtain ⟨_, _, _, rfl, -, ⟨rfl, -⟩, hg⟩ := hg
 obtain ⟨_, _, _, rfl, -, ⟨rfl, -⟩, hg⟩ := hg
 obtain ⟨_, _, _, rfl, -, ⟨rfl, -⟩, hg⟩ := hg
 obtain ⟨_, _, _, rfl, -, ⟨rfl, -⟩, hg⟩ := hg
 obtain ⟨v_32, _, _, rfl, l4x, ⟨bk_15, bk_17, bk_19, cp_16, cp_18, cp_20, rfl, q_33⟩, hg⟩ := hg
 obtain ⟨_, _, _, rfl, -, ⟨rfl, -⟩, hg⟩ := hg
 obtain ⟨_, _, _, rfl, -, ⟨rfl, -⟩, hg⟩ := hg
 obtain ⟨_, _, _, rfl, -, ⟨rfl, -⟩, hg⟩ := hg
 obtain ⟨v_34, _, _, rfl, l_36, ⟨rfl, q_35⟩, hg⟩ := hg
 obtain rfl := hg
 replace h := St.cast (Δ' := (o3 B0 q0 q1 q2 n0 n1 n2 p0 ++ [⟨k84, x_12.Inodes, cp_16, (some bk_15), 84⟩, ⟨(kSl k87), x_12.Dirs, cp_18, (some bk_17), 85⟩, ⟨(kSl kByte), x_12.Blocks, cp_20, (some bk_19), 43⟩])) h rfl
 replace K := K.sub (l' := [(9, _), (13, _), (2, _)]) ⟨l4x, l_36, hs.2.1, ⟨⟩⟩
 refine bld (⟨(⟨x_12.Homes, x_12.Now, x_12.Salt, x_12.Users, (hS bk_15 x_12.Inodes cp_16), (hS bk_17 x_12.Dirs cp_18), (hS bk_19 x_12.Blocks cp_20)⟩ : T37o), p0.fds⟩ : T103o) K h rfl pl103 rfl z103o (.cons F103_0o rfl q_33 (.cons F103_1o rfl q_35 .nil)) fun a v_37 K q_38 => box K h rfl q_38 fun a w bk_39 K h => asg K rfl fun a K => wn <| wt ?_
 obtain rfl := oi hm
 exact fr f18 K (St.sel [1, 2, 3, 4, 0, 5, 6, 7] rfl h) rfl ⟨rfl, ⟨⟩⟩ ⟨(pA bk_39 Ik103o), [⟨k103o, [(⟨(⟨x_12.Homes, x_12.Now, x_12.Salt, x_12.Users, (hS bk_15 x_12.Inodes cp_16), (hS bk_17 x_12.Dirs cp_18), (hS bk_19 x_12.Blocks cp_20)⟩ : T37o), p0.fds⟩ : T103o)], 1, (some bk_39), 103⟩, ⟨k84, x_12.Inodes, cp_16, (some bk_15), 84⟩, ⟨(kSl k87), x_12.Dirs, cp_18, (some bk_17), 85⟩, ⟨(kSl kByte), x_12.Blocks, cp_20, (some bk_19), 43⟩], rfl, ⟨bk_39, bk_15, bk_17, bk_19, cp_16, cp_18, cp_20, rfl, rfl⟩, rfl⟩
abbrev R341 (r : Int) (v : Value) (H : Gh) : Prop := v = .int .i64 r
instance monR341 {r : Int} : MonR (R341 r) := ⟨fun _ _ _ _ h => h⟩
theorem c341 {p0 : ByteArray} {p1 : UInt8} {r : Int} (hm : m341 p0 p1 = some r) (h : St c G0 w []) : Calls prog 341 #[.string p0, .int .u8 (p1.toNat : Int)] w (FO c [] (R341 r)) := by
 unfold m341 at hm
 refine enter (n := 8) func341 rfl rfl rfl fun a K => sl <| asg K rfl fun a K => nsl <| mv K rfl fun a K => mv K rfl fun a K => clx (.int .i64 (firstIdx p0 ((p1.toNat : Int)).toNat.toUInt8)) x356 K rfl x_idx fun a K => asg K rfl fun a K => wn <| wt ?_
 obtain rfl := oi hm
 exact fr f341 K (St.sel [] rfl h) rfl ⟨rfl, ⟨⟩⟩ ⟨rfl, rfl⟩
abbrev R322 (r : Int) (v : Value) (H : Gh) : Prop := v = .int .i64 r
instance monR322 {r : Int} : MonR (R322 r) := ⟨fun _ _ _ _ h => h⟩
theorem c322 {p0 : ByteArray} {p1 : ByteArray} {r : Int} (hm : m322 p0 p1 = some r) (h : St c G0 w []) : Calls prog 322 #[.string p0, .string p1] w (FO c [] (R322 r)) := by
 unfold m322 at hm
 refine enter (n := 143) func322 rfl rfl rfl fun a K => sl <| asg K rfl fun a K => nsl <| mv K rfl fun a K => lenS K rfl rfl u9 fun a K => asg K rfl fun a K => wn <| ws <| wb <| joinS (S := Bool) (fun s_13 a w => Jn c G0 [] 143 [(0, .string p0), (1, .string p1), (4, .int .i64 0), (5, .int .i64 (p1.size : Int)), (16, .bool s_13)] a w) (fun s_13 => m322_j_20 p0 p1 s_13 = some r) (fun s_13 hm a w hJ => ?_) (fun kk_21 => ?_)
 · obtain ⟨G3, e_3, h, K⟩ := hJ
   unfold m322_j_20 at hm
   refine ifm hm K rfl (fun _ hm => ?_) fun _ hm => ?_
   · refine sl <| asg K rfl fun a K => wn <| wt ?_
     obtain rfl := oi hm
     exact fr f322 K (St.sel [] rfl h) rfl ⟨rfl, ⟨⟩⟩ ⟨rfl, rfl⟩
   refine sl <| mv K rfl fun a K => binC _ K rfl rfl rfl fun a K => asg K rfl fun a K => wn <| ifm hm K rfl (fun _ hm => ?_) fun _ hm => ?_
   · refine sl <| mv K rfl fun a K => mv K rfl fun a K => ?_
     obtain ⟨g_16, hm⟩ := gs hm
     refine ixc K rfl rfl g_16 u9 fun a K => ?_
     obtain ⟨x_17, hx_17, hm⟩ := bs hm
     refine clp K h rfl b341 (fun h => c341 hx_17 h) fun a w v G4 K e_4 h hR_18 => ?_
     obtain rfl := hR_18
     refine asg K rfl fun a K => wn <| wt ?_
     obtain rfl := oi hm
     exact fr f322 K (St.sel [] rfl h) rfl ⟨rfl, ⟨⟩⟩ ⟨rfl, rfl⟩
   refine sl <| mv K rfl fun a K => mv K rfl fun a K => lenS K rfl rfl u9 fun a K => binC _ K rfl rfl rfl fun a K => asg K rfl fun a K => wn <| ifm hm K rfl (fun _ hm => ?_) fun _ hm => ?_
   · refine sl <| asg K rfl fun a K => wn <| wt ?_
     obtain rfl := oi hm
     exact fr f322 K (St.sel [] rfl h) rfl ⟨rfl, ⟨⟩⟩ ⟨rfl, rfl⟩
   refine sl <| mv K rfl fun a K => ?_
   cases hm
 refine wl <| mv K rfl fun a K => binC _ K rfl rfl rfl fun a K => mv K rfl fun a K => ?_
 rcases im hm with ⟨c_22, hm⟩ | ⟨c_22, hm⟩
 · refine g1 K c_22 fun a K => g1 K c_22 fun a K => g1 K c_22 fun a K => pkT K rfl c_22 rfl fun a K => asg K rfl fun a K => wn <| kk_21 true hm _ _ ⟨G0, gr, (St.sel [] rfl h), (K.sub (so rfl))⟩
 refine g2 K c_22 <| mv K rfl fun a K => g2 K c_22 <| mv K rfl fun a K => g2 K c_22 <| binS _ K rfl rfl rfl fun a K => pkF K rfl c_22 rfl fun a K => asg K rfl fun a K => wn <| kk_21 (sEq p1 p0) hm _ _ ⟨G0, gr, (St.sel [] rfl h), (K.sub (so rfl))⟩
abbrev R298 (r : Int) (v : Value) (H : Gh) : Prop := v = .int .i64 r
instance monR298 {r : Int} : MonR (R298 r) := ⟨fun _ _ _ _ h => h⟩
theorem c298 {p0 : ByteArray} {p1 : ByteArray} {r : Int} (hm : m298 p0 p1 = some r) (h : St c G0 w []) : Calls prog 298 #[.string p0, .string p1] w (FO c [] (R298 r)) := by
 unfold m298 at hm
 refine enter (n := 8) func298 rfl rfl rfl fun a K => sl <| asg K rfl fun a K => nsl <| mv K rfl fun a K => mv K rfl fun a K => ?_
 obtain ⟨x_1, hx_1, hm⟩ := bs hm
 refine clp K h rfl b322 (fun h => c322 hx_1 h) fun a w v G1 K e_1 h hR_2 => ?_
 obtain rfl := hR_2
 refine asg K rfl fun a K => wn <| wt ?_
 obtain rfl := oi hm
 exact fr f298 K (St.sel [] rfl h) rfl ⟨rfl, ⟨⟩⟩ ⟨rfl, rfl⟩
abbrev R254 (r : Bool) (v : Value) (H : Gh) : Prop := v = .bool r
instance monR254 {r : Bool} : MonR (R254 r) := ⟨fun _ _ _ _ h => h⟩
theorem c254 {p0 : ByteArray} {p1 : ByteArray} {r : Bool} (hm : m254 p0 p1 = some r) (h : St c G0 w []) : Calls prog 254 #[.string p0, .string p1] w (FO c [] (R254 r)) := by
 unfold m254 at hm
 refine enter (n := 9) func254 rfl rfl rfl fun a K => sl <| asg K rfl fun a K => nsl <| mv K rfl fun a K => mv K rfl fun a K => ?_
 obtain ⟨x_1, hx_1, hm⟩ := bs hm
 refine clp K h rfl b298 (fun h => c298 hx_1 h) fun a w v G1 K e_1 h hR_2 => ?_
 obtain rfl := hR_2
 refine binC _ K rfl rfl rfl fun a K => asg K rfl fun a K => wn <| wt ?_
 obtain rfl := oi hm
 exact fr f254 K (St.sel [] rfl h) rfl ⟨rfl, ⟨⟩⟩ ⟨rfl, rfl⟩
abbrev R345 (r : Int) (v : Value) (H : Gh) : Prop := v = .int .i64 r
instance monR345 {r : Int} : MonR (R345 r) := ⟨fun _ _ _ _ h => h⟩
theorem c345 {p0 : ByteArray} {r : Int} (hm : m345 p0 = some r) (h : St c G0 w []) : Calls prog 345 #[.string p0] w (FO c [] (R345 r)) := by
 unfold m345 at hm
 refine enter (n := 10) func345 rfl rfl rfl fun a K => sl <| asg K rfl fun a K => wn <| ws <| sl <| mv K rfl fun a K => rngS K h rfl u9 fun a w bk_1 K h hi_2 => wn <| wb ?_
 obtain ⟨p_14, hp_14, hm⟩ := bs hm
 refine loop (S := Int × Nat) (R := Int) (fun s_9 a w => ∃ (G2 : Gh), Gh.le G0 G2 ∧ St c G2 w [] ∧ Tm 10 a [(2, .int .i64 s_9.1), (4, (.pointer (some ⟨bk_1, 0, none⟩)))] ∧ It c G2 w bk_1 p0 s_9.2) (fun (p_14 : Int) e a w => e = .exit 0 ∧ Jn c G0 [] 10 [(2, .int .i64 p_14)] a w) hp_14 ⟨G0, gr, (St.sel [] rfl h), (K.sub (so rfl)), hi_2⟩ ?_ ?_
 · intro s_9 y_16 a w hm hI
   obtain ⟨G2, e_2, h, K, hi_10⟩ := hI
   unfold m345_l_15 at hm
   refine ws <| wl ?_
   rcases im hm with ⟨c_17, hm⟩ | ⟨c_17, hm⟩
   · refine nxS K h rfl hi_10 c_17 fun a w K h hi_18 => extr K rfl rfl fun a K => wn <| ws <| ifT K rfl rfl <| wk <| wb <| wl <| mv K rfl fun a K => binI _ K rfl rfl rfl fun a K => asg K rfl fun a K => wn ?_
     obtain rfl := oi hm
     exact ⟨rfl, ⟨G2, e_2, (St.sel [] rfl h), (K.sub (so rfl)), hi_18⟩⟩
   refine nxE K rfl hi_10 c_17 fun a K => extr K rfl rfl fun a K => wn <| ws <| ifF K rfl rfl <| wp_exit ?_
   obtain rfl := oi hm
   exact ⟨by simp, rfl, ⟨G2, e_2, (St.sel [] rfl h), (K.sub ⟨rfl, ⟨⟩⟩)⟩⟩
 intro e a w hD
 obtain ⟨rfl, ⟨G3, e_3, h, K⟩⟩ := hD
 refine sl <| mv K rfl fun a K => asg K rfl fun a K => wn <| wt ?_
 obtain rfl := oi hm
 exact fr f345 K (St.sel [] rfl h) rfl ⟨rfl, ⟨⟩⟩ ⟨rfl, rfl⟩
abbrev R358 (r : Int × Int) (v : Value) (H : Gh) : Prop := v = .tuple #[.int .i32 r.1, .int .i64 r.2]
instance monR358 {r : Int × Int} : MonR (R358 r) := ⟨fun _ _ _ _ h => h⟩
theorem c358 {p0 : ByteArray} {r : Int × Int} (hm : m358 p0 = some r) (h : St c G0 w []) : Calls prog 358 #[.string p0] w (FO c [] (R358 r)) := by
 unfold m358 at hm
 refine enter (n := 117) func358 rfl rfl rfl fun a K => sl <| asg K rfl fun a K => asg K rfl fun a K => nsl <| mv K rfl fun a K => lenS K rfl rfl u9 fun a K => asg K rfl fun a K => wn <| ws <| sl <| mv K rfl fun a K => binC _ K rfl rfl rfl fun a K => wn <| ifm hm K rfl (fun _ hm => ?_) fun _ hm => ?_
 · refine sl <| asg K rfl fun a K => asg K rfl fun a K => wn <| wt ?_
   obtain rfl := oi hm
   exact fi f358 [_, _] K (St.sel [] rfl h) rfl ⟨rfl, rfl, ⟨⟩⟩ (.inl rfl) ⟨rfl, rfl⟩
 refine wk <| sl <| mv K rfl fun a K => ?_
 obtain ⟨g_2, hm⟩ := gs hm
 refine ixc K rfl rfl g_2 u9 fun a K => asg K rfl fun a K => nsl <| mv K rfl fun a K => ?_
 cases hm
abbrev R346 (r : Int × Int) (v : Value) (H : Gh) : Prop := v = .tuple #[.int .i32 r.1, .int .i64 r.2]
instance monR346 {r : Int × Int} : MonR (R346 r) := ⟨fun _ _ _ _ h => h⟩
theorem c346 {p0 : ByteArray} {r : Int × Int} (hm : m346 p0 = some r) (h : St c G0 w []) : Calls prog 346 #[.string p0] w (FO c [] (R346 r)) := by
 unfold m346 at hm
 refine enter (n := 19) func346 rfl rfl rfl fun a K => sl <| asg K rfl fun a K => asg K rfl fun a K => wn <| ws <| joinS (S := Bool) (fun s_3 a w => Jn c G0 [] 19 [(0, .string p0), (2, .int .i32 0), (3, .int .i64 0), (10, .bool s_3)] a w) (fun s_3 => m346_j_8 p0 s_3 = some r) (fun s_3 hm a w hJ => ?_) (fun kk_9 => ?_)
 · obtain ⟨G1, e_1, h, K⟩ := hJ
   unfold m346_j_8 at hm
   refine ifm hm K rfl (fun _ hm => ?_) fun _ hm => ?_
   · refine sl <| mv K rfl fun a K => ?_
     obtain ⟨g_5, hm⟩ := gs hm
     refine ixc K rfl rfl g_5 u9 fun a K => cvtI _ K rfl ⟨_, u5⟩ u21 rfl fun a K => asg K rfl fun a K => asg K rfl fun a K => wn <| wt ?_
     obtain rfl := oi hm
     exact fi f346 [_, _] K (St.sel [] rfl h) rfl ⟨rfl, rfl, ⟨⟩⟩ (.inl rfl) ⟨rfl, rfl⟩
   refine wl <| mv K rfl fun a K => ?_
   obtain ⟨x_6, hx_6, hm⟩ := bs hm
   refine clp K h rfl b358 (fun h => c358 hx_6 h) fun a w v G2 K e_2 h hR_7 => ?_
   obtain rfl := hR_7
   refine mv K rfl fun a K => extr K rfl rfl fun a K => extr K rfl rfl fun a K => asg K rfl fun a K => asg K rfl fun a K => wn <| wt ?_
   obtain rfl := oi hm
   exact fi f346 [_, _] K (St.sel [] rfl h) rfl ⟨rfl, rfl, ⟨⟩⟩ (.inl rfl) ⟨rfl, rfl⟩
 refine wl <| mv K rfl fun a K => binS _ K rfl rfl rfl fun a K => mv K rfl fun a K => ?_
 rcases im hm with ⟨c_10, hm⟩ | ⟨c_10, hm⟩
 · refine g2 K c_10 <| mv K rfl fun a K => gy K rfl rfl c_10 ?_
   obtain ⟨g_11, hm⟩ := gs hm
   refine ixc K rfl rfl g_11 u9 fun a K => g2 K c_10 <| binC _ K rfl rfl rfl fun a K => pkT K rfl c_10 rfl fun a K => wn <| kk_9 (decide (((sAt p0 (0 : Int)).toNat : Int) < 128)) hm _ _ ⟨G0, gr, (St.sel [] rfl h), (K.sub (so rfl))⟩
 refine g1 K c_10 fun a K => g1 K c_10 fun a K => g1 K c_10 fun a K => pkF K rfl c_10 rfl fun a K => wn <| kk_9 false hm _ _ ⟨G0, gr, (St.sel [] rfl h), (K.sub (so rfl))⟩
abbrev R323 (r : (List ByteArray)) (v : Value) (H : Gh) : Prop := (kSl kStr).val H v r
instance monR323 {r : (List ByteArray)} : MonR (R323 r) := ⟨fun _ _ _ e h => Kd.val_mono e h⟩
theorem c323 {p0 : ByteArray} {p1 : Int} {r : (List ByteArray)} (hm : m323 p0 p1 = some r) (h : St c G0 w []) : Calls prog 323 #[.string p0, .int .i64 p1] w (FO c [] (R323 r)) := by
 unfold m323 at hm
 refine enter (n := 50) func323 rfl rfl rfl fun a K => sl <| asg K rfl fun a K => nsl <| mv K rfl fun a K => ?_
 obtain ⟨x_1, hx_1, hm⟩ := bs hm
 refine clp K h rfl b345 (fun h => c345 hx_1 h) fun a w v G1 K e_1 h hR_2 => ?_
 obtain rfl := hR_2
 refine asg K rfl fun a K => wn <| joinS (S := Int) (fun s_9 a w => Jn c G1 [] 50 [(0, .string p0), (1, .int .i64 s_9), (4, .slice none 0 0)] a w) (fun s_9 => m323_j_51 p0 s_9 = some r) (fun s_9 hm a w hJ => ?_) (fun kk_52 => ?_)
 · obtain ⟨G3, e_3, h, K⟩ := hJ
   unfold m323_j_51 at hm
   refine sl <| mv K rfl fun a K => ?_
   obtain ⟨g_10, hm⟩ := gs hm
   refine mks K h rfl rfl g_10 s50 e9 z9 fun a w bk_11 K h => asg K rfl fun a K => wn <| ws <| sl <| asg K rfl fun a K => wn <| wb ?_
   obtain ⟨p_36, hp_36, hm⟩ := bs hm
   refine loop (S := (List ByteArray) × ByteArray × Int) (R := (List ByteArray) × ByteArray) (fun s_27 a w => Jn c G3 [⟨kStr, s_27.1, (s_9).toNat, (some bk_11), 9⟩] 50 [(0, .string s_27.2.1), (1, .int .i64 s_9), (4, .slice none 0 0), (6, hdr (some bk_11) s_27.1.length ((s_9).toNat)), (7, .int .i64 s_27.2.2)] a w) (fun (p_36 : (List ByteArray) × ByteArray) e a w => e = .exit 0 ∧ Jn c G3 [⟨kStr, p_36.1, (s_9).toNat, (some bk_11), 9⟩] 50 [(0, .string p_36.2), (1, .int .i64 s_9), (4, .slice none 0 0), (6, hdr (some bk_11) p_36.1.length ((s_9).toNat))] a w) hp_36 ⟨G3, gr, (St.sel [0] rfl h), (K.sub (so rfl))⟩ ?_ ?_
   · intro s_27 y_38 a w hm hI
     obtain ⟨G7, e_7, h, K⟩ := hI
     unfold m323_l_37 at hm
     refine ws <| sl <| mv K rfl fun a K => mv K rfl fun a K => binI _ K rfl rfl rfl fun a K => binC _ K rfl rfl rfl fun a K => wn <| ifm hm K rfl (fun _ hm => ?_) fun _ hm => ?_
     · refine wk <| ws <| wb <| sl <| mv K rfl fun a K => ?_
       obtain ⟨x_40, hx_40, hm⟩ := bs hm
       refine clp K h rfl b346 (fun h => c346 hx_40 h) fun a w v G10 K e_10 h hR_41 => ?_
       obtain rfl := hR_41
       refine mv K rfl fun a K => extr K rfl rfl fun a K => extr K rfl rfl fun a K => asg K rfl fun a K => asg K rfl fun a K => nsl <| mv K rfl fun a K => mv K rfl fun a K => mv K rfl fun a K => mv K rfl fun a K => ?_
       obtain ⟨g_42, hm⟩ := gs hm
       refine slS 0 x_40.2 K rfl u9 (.inl ⟨rfl, rfl⟩) (.inr ⟨_, _, rfl, rfl⟩) g_42 fun a K => ?_
       obtain ⟨g_43, hm⟩ := gs hm
       refine ixo K rfl rfl g_43 s50 t9 fun a K => ?_
       have hl_44 : (st s_27.1 s_27.2.2 (sSub s_27.2.1 0 x_40.2)).length = s_27.1.length := st_length
       refine sto 0 IkStr ((st s_27.1 s_27.2.2 (sSub s_27.2.1 0 x_40.2))) K h rfl rfl (gt_some g_43) rfl str_val t9 rfl rfl fun w h => wn <| wl <| mv K rfl fun a K => mv K rfl fun a K => ?_
       obtain ⟨g_45, hm⟩ := gs hm
       refine slS x_40.2 (s_27.2.1.size : Int) K rfl u9 (.inr ⟨_, _, rfl, rfl⟩) (.inl ⟨rfl, rfl⟩) g_45 fun a K => asg K rfl fun a K => wn <| wl <| mv K rfl fun a K => binI _ K rfl rfl rfl fun a K => asg K rfl fun a K => wn ?_
       obtain rfl := oi hm
       exact ⟨rfl, ⟨G10, (Gh.trans e_7 e_10), (St.sel [0] rfl h), (K.sub ⟨rfl, rfl, rfl, (show lk _ 6 = some (hdr (some bk_11) (st s_27.1 s_27.2.2 (sSub s_27.2.1 0 x_40.2)).length ((s_9).toNat)) by rw [hl_44]; rfl), rfl, ⟨⟩⟩)⟩⟩
     refine wp_exit ?_
     obtain rfl := oi hm
     exact ⟨by simp, rfl, ⟨G7, e_7, (St.sel [0] rfl h), (K.sub (so rfl))⟩⟩
   intro e a w hD
   obtain ⟨rfl, ⟨G9, e_9, h, K⟩⟩ := hD
   refine ws <| sl <| mv K rfl fun a K => binC _ K rfl rfl rfl fun a K => wn <| ifm hm K rfl (fun _ hm => ?_) fun _ hm => ?_
   · refine wl <| mv K rfl fun a K => mv K rfl fun a K => binI _ K rfl rfl rfl fun a K => mv K rfl fun a K => ?_
     obtain ⟨g_47, hm⟩ := gs hm
     refine ixo K rfl rfl g_47 s50 t9 fun a K => ?_
     have hl_48 : (st p_36.1 (wr (s_9 - 1)) p_36.2).length = p_36.1.length := st_length
     refine sto 0 IkStr ((st p_36.1 (wr (s_9 - 1)) p_36.2)) K h rfl rfl (gt_some g_47) rfl str_val t9 rfl rfl fun w h => wn <| sl <| mv K rfl fun a K => asg K rfl fun a K => wn <| wt ?_
     obtain ⟨G11, e_11, h, q_49⟩ := frz 0 h rfl
     rw [hl_48] at q_49
     obtain rfl := oi hm
     exact fr f323 K (St.sel [] rfl h) rfl ⟨rfl, ⟨⟩⟩ ⟨rfl, q_49⟩
   refine wk <| sl <| mv K rfl fun a K => asg K rfl fun a K => wn <| wt ?_
   obtain ⟨G12, e_12, h, q_50⟩ := frz 0 h rfl
   obtain rfl := oi hm
   exact fr f323 K (St.sel [] rfl h) rfl ⟨rfl, ⟨⟩⟩ ⟨rfl, q_50⟩
 refine joinS (S := Bool) (fun s_54 a w => Jn c G1 [] 50 [(0, .string p0), (1, .int .i64 p1), (4, .slice none 0 0), (5, .int .i64 x_1), (18, .bool s_54)] a w) (fun s_54 => m323_j_56 p0 p1 x_1 s_54 = some r) (fun s_54 hm a w hJ => ?_) (fun kk_57 => ?_)
 · obtain ⟨G13, e_13, h, K⟩ := hJ
   unfold m323_j_56 at hm
   refine ifm hm K rfl (fun _ hm => ?_) fun _ hm => ?_
   · refine wl <| mv K rfl fun a K => asg K rfl fun a K => wn <| kk_52 x_1 hm _ _ ⟨G13, e_13, (St.sel [] rfl h), (K.sub (so rfl))⟩
   refine wk <| kk_52 p1 hm _ _ ⟨G13, e_13, (St.sel [] rfl h), (K.sub (so rfl))⟩
 refine wl <| mv K rfl fun a K => binC _ K rfl rfl rfl fun a K => mv K rfl fun a K => ?_
 rcases im hm with ⟨c_58, hm⟩ | ⟨c_58, hm⟩
 · refine g1 K c_58 fun a K => g1 K c_58 fun a K => g1 K c_58 fun a K => pkT K rfl c_58 rfl fun a K => wn <| kk_57 true hm _ _ ⟨G1, gr, (St.sel [] rfl h), (K.sub (so rfl))⟩
 refine g2 K c_58 <| mv K rfl fun a K => g2 K c_58 <| mv K rfl fun a K => g2 K c_58 <| binC _ K rfl rfl rfl fun a K => pkF K rfl c_58 rfl fun a K => wn <| kk_57 (decide (p1 > x_1)) hm _ _ ⟨G1, gr, (St.sel [] rfl h), (K.sub (so rfl))⟩
abbrev R324 (r : Int) (v : Value) (H : Gh) : Prop := v = .int .i64 r
instance monR324 {r : Int} : MonR (R324 r) := ⟨fun _ _ _ _ h => h⟩
theorem c324 {p0 : ByteArray} {p1 : ByteArray} {r : Int} (hm : m324 p0 p1 = some r) (h : St c G0 w []) : Calls prog 324 #[.string p0, .string p1] w (FO c [] (R324 r)) := by
 unfold m324 at hm
 refine enter (n := 34) func324 rfl rfl rfl fun a K => sl <| asg K rfl fun a K => wn <| ws <| sl <| mv K rfl fun a K => lenS K rfl rfl u9 fun a K => binC _ K rfl rfl rfl fun a K => wn <| ifm hm K rfl (fun _ hm => ?_) fun _ hm => ?_
 · refine sl <| mv K rfl fun a K => ?_
   obtain ⟨x_2, hx_2, hm⟩ := bs hm
   refine clp K h rfl b345 (fun h => c345 hx_2 h) fun a w v G1 K e_1 h hR_3 => ?_
   obtain rfl := hR_3
   refine binI _ K rfl rfl rfl fun a K => asg K rfl fun a K => wn <| wt ?_
   obtain rfl := oi hm
   exact fr f324 K (St.sel [] rfl h) rfl ⟨rfl, ⟨⟩⟩ ⟨rfl, rfl⟩
 refine wk <| ws <| sl <| mv K rfl fun a K => lenS K rfl rfl u9 fun a K => binC _ K rfl rfl rfl fun a K => wn <| ifm hm K rfl (fun _ hm => ?_) fun _ hm => ?_
 · refine sl <| mv K rfl fun a K => mv K rfl fun a K => ?_
   obtain ⟨g_5, hm⟩ := gs hm
   refine ixc K rfl rfl g_5 u9 fun a K => clx (.int .i64 (countB p0 (((sAt p1 (0 : Int)).toNat : Int)).toNat.toUInt8)) x347 K rfl x_cnt fun a K => asg K rfl fun a K => wn <| wt ?_
   obtain rfl := oi hm
   exact fr f324 K (St.sel [] rfl h) rfl ⟨rfl, ⟨⟩⟩ ⟨rfl, rfl⟩
 refine wk <| sl <| asg K rfl fun a K => wn <| wb ?_
 obtain ⟨q_27, hq_27, hm⟩ := bs hm
 refine loop (S := ByteArray × Int) (R := Int) (fun s_15 a w => Jn c G0 [] 34 [(0, .string s_15.1), (1, .string p1), (4, .int .i64 0), (5, .int .i64 s_15.2)] a w) (fun (q : Int) e a w => e = .ret ∧ bodyPost prog f324 (FO c [] (R324 q)) e a w) hq_27 ⟨G0, gr, (St.sel [] rfl h), (K.sub (so rfl))⟩ ?_ ?_
 · intro s_15 y_22 a w hm hI
   obtain ⟨G5, e_5, h, K⟩ := hI
   unfold m324_l_21 at hm
   refine wb <| sl <| mv K rfl fun a K => mv K rfl fun a K => ?_
   obtain ⟨x_23, hx_23, hm⟩ := bs hm
   refine clp K h rfl b298 (fun h => c298 hx_23 h) fun a w v G7 K e_7 h hR_24 => ?_
   obtain rfl := hR_24
   refine asg K rfl fun a K => wn <| ws <| sl <| mv K rfl fun a K => binC _ K rfl rfl rfl fun a K => wn <| ifm hm K rfl (fun _ hm => ?_) fun _ hm => ?_
   · refine sl <| mv K rfl fun a K => asg K rfl fun a K => wn <| wt ?_
     obtain rfl := oi hm
     exact ⟨by simp, rfl, (fr f324 K (St.sel [] rfl h) rfl ⟨rfl, ⟨⟩⟩ ⟨rfl, rfl⟩)⟩
   refine wk <| sl <| mv K rfl fun a K => binI _ K rfl rfl rfl fun a K => asg K rfl fun a K => wn <| wl <| mv K rfl fun a K => mv K rfl fun a K => mv K rfl fun a K => lenS K rfl rfl u9 fun a K => binI _ K rfl rfl rfl fun a K => ?_
   obtain ⟨g_26, hm⟩ := gs hm
   refine slS (wr (x_23 + (p1.size : Int))) (s_15.1.size : Int) K rfl u9 (.inr ⟨_, _, rfl, rfl⟩) (.inl ⟨rfl, rfl⟩) g_26 fun a K => asg K rfl fun a K => wn ?_
   obtain rfl := oi hm
   exact ⟨rfl, ⟨G7, (Gh.trans e_5 e_7), (St.sel [] rfl h), (K.sub (so rfl))⟩⟩
 intro e a w hD
 obtain rfl := oi hm
 obtain ⟨rfl, hD⟩ := hD
 exact hD
abbrev R299 (r : (List ByteArray)) (v : Value) (H : Gh) : Prop := (kSl kStr).val H v r
instance monR299 {r : (List ByteArray)} : MonR (R299 r) := ⟨fun _ _ _ e h => Kd.val_mono e h⟩
theorem c299 {p0 : ByteArray} {p1 : ByteArray} {p2 : Int} {p3 : Int} {r : (List ByteArray)} (hm : m299 p0 p1 p2 p3 = some r) (h : St c G0 w []) : Calls prog 299 #[.string p0, .string p1, .int .i64 p2, .int .i64 p3] w (FO c [] (R299 r)) := by
 unfold m299 at hm
 refine enter (n := 66) func299 rfl rfl rfl fun a K => sl <| asg K rfl fun a K => wn <| ws <| sl <| mv K rfl fun a K => binC _ K rfl rfl rfl fun a K => wn <| ifm hm K rfl (fun _ hm => ?_) fun _ hm => ?_
 · refine sl <| asg K rfl fun a K => wn <| wt ?_
   obtain rfl := oi hm
   exact fr f299 K (St.sel [] rfl h) rfl ⟨rfl, ⟨⟩⟩ ⟨rfl, nil_sl⟩
 refine wk <| ws <| sl <| mv K rfl fun a K => binS _ K rfl rfl rfl fun a K => wn <| ifm hm K rfl (fun _ hm => ?_) fun _ hm => ?_
 · refine sl <| mv K rfl fun a K => mv K rfl fun a K => ?_
   obtain ⟨x_3, hx_3, hm⟩ := bs hm
   refine clp K h rfl b323 (fun h => c323 hx_3 h) fun a w v_5 G1 K e_1 h hR_4 => asg K rfl fun a K => wn <| wt ?_
   obtain rfl := oi hm
   exact fr f299 K (St.sel [] rfl h) rfl ⟨rfl, ⟨⟩⟩ ⟨rfl, hR_4⟩
 refine wk <| joinS (S := Int) (fun s_9 a w => Jn c G0 [] 66 [(0, .string p0), (1, .string p1), (2, .int .i64 p2), (3, .int .i64 s_9), (8, .slice none 0 0)] a w) (fun s_9 => m299_j_54 p0 p1 p2 s_9 = some r) (fun s_9 hm a w hJ => ?_) (fun kk_55 => ?_)
 · obtain ⟨G3, e_3, h, K⟩ := hJ
   unfold m299_j_54 at hm
   refine sl <| mv K rfl fun a K => mv K rfl fun a K => lenS K rfl rfl u9 fun a K => binI _ K rfl rfl rfl fun a K => min2 _ K rfl rfl rfl fun a K => asg K rfl fun a K => nsl <| mv K rfl fun a K => ?_
   obtain ⟨g_10, hm⟩ := gs hm
   refine mks K h rfl rfl g_10 s50 e9 z9 fun a w bk_11 K h => asg K rfl fun a K => nsl <| mv K rfl fun a K => binI _ K rfl rfl rfl fun a K => asg K rfl fun a K => nsl <| asg K rfl fun a K => wn <| ws <| wb ?_
   obtain ⟨p_39, hp_39, hm⟩ := bs hm
   refine loop (S := (List ByteArray) × ByteArray × Int) (R := (List ByteArray) × ByteArray × Int) (fun s_29 a w => Jn c G3 [⟨kStr, s_29.1, ((imin s_9 (wr ((p0.size : Int) + 1)))).toNat, (some bk_11), 9⟩] 66 [(0, .string s_29.2.1), (1, .string p1), (2, .int .i64 p2), (3, .int .i64 (wr ((imin s_9 (wr ((p0.size : Int) + 1))) - 1))), (8, .slice none 0 0), (9, hdr (some bk_11) s_29.1.length (((imin s_9 (wr ((p0.size : Int) + 1)))).toNat)), (10, .int .i64 s_29.2.2)] a w) (fun (p_39 : (List ByteArray) × ByteArray × Int) e a w => e = .exit 0 ∧ Jn c G3 [⟨kStr, p_39.1, ((imin s_9 (wr ((p0.size : Int) + 1)))).toNat, (some bk_11), 9⟩] 66 [(0, .string p_39.2.1), (8, .slice none 0 0), (9, hdr (some bk_11) p_39.1.length (((imin s_9 (wr ((p0.size : Int) + 1)))).toNat)), (10, .int .i64 p_39.2.2)] a w) hp_39 ⟨G3, gr, (St.sel [0] rfl h), (K.sub (so rfl))⟩ ?_ ?_
   · intro s_29 y_41 a w hm hI
     obtain ⟨G7, e_7, h, K⟩ := hI
     unfold m299_l_40 at hm
     refine ws <| sl <| mv K rfl fun a K => mv K rfl fun a K => binC _ K rfl rfl rfl fun a K => wn <| ifm hm K rfl (fun _ hm => ?_) fun _ hm => ?_
     · refine wk <| wb <| sl <| mv K rfl fun a K => mv K rfl fun a K => ?_
       obtain ⟨x_43, hx_43, hm⟩ := bs hm
       refine clp K h rfl b298 (fun h => c298 hx_43 h) fun a w v G10 K e_10 h hR_44 => ?_
       obtain rfl := hR_44
       refine asg K rfl fun a K => wn <| ws <| sl <| mv K rfl fun a K => binC _ K rfl rfl rfl fun a K => wn <| ifm hm K rfl (fun _ hm => ?_) fun _ hm => ?_
       · refine wp_exit ?_
         obtain rfl := oi hm
         exact ⟨by simp, rfl, ⟨G10, (Gh.trans e_7 e_10), (St.sel [0] rfl h), (K.sub (so rfl))⟩⟩
       refine wk <| sl <| mv K rfl fun a K => mv K rfl fun a K => mv K rfl fun a K => mv K rfl fun a K => mv K rfl fun a K => binI _ K rfl rfl rfl fun a K => ?_
       obtain ⟨g_46, hm⟩ := gs hm
       refine slS 0 (wr (x_43 + p2)) K rfl u9 (.inl ⟨rfl, rfl⟩) (.inr ⟨_, _, rfl, rfl⟩) g_46 fun a K => ?_
       obtain ⟨g_47, hm⟩ := gs hm
       refine ixo K rfl rfl g_47 s50 t9 fun a K => ?_
       have hl_48 : (st s_29.1 s_29.2.2 (sSub s_29.2.1 0 (wr (x_43 + p2)))).length = s_29.1.length := st_length
       refine sto 0 IkStr ((st s_29.1 s_29.2.2 (sSub s_29.2.1 0 (wr (x_43 + p2))))) K h rfl rfl (gt_some g_47) rfl str_val t9 rfl rfl fun w h => nsl <| mv K rfl fun a K => mv K rfl fun a K => mv K rfl fun a K => lenS K rfl rfl u9 fun a K => binI _ K rfl rfl rfl fun a K => ?_
       obtain ⟨g_49, hm⟩ := gs hm
       refine slS (wr (x_43 + (p1.size : Int))) (s_29.2.1.size : Int) K rfl u9 (.inr ⟨_, _, rfl, rfl⟩) (.inl ⟨rfl, rfl⟩) g_49 fun a K => asg K rfl fun a K => wn <| wl <| mv K rfl fun a K => binI _ K rfl rfl rfl fun a K => asg K rfl fun a K => wn ?_
       obtain rfl := oi hm
       exact ⟨rfl, ⟨G10, (Gh.trans e_7 e_10), (St.sel [0] rfl h), (K.sub ⟨rfl, rfl, rfl, rfl, rfl, (show lk _ 9 = some (hdr (some bk_11) (st s_29.1 s_29.2.2 (sSub s_29.2.1 0 (wr (x_43 + p2)))).length (((imin s_9 (wr ((p0.size : Int) + 1)))).toNat)) by rw [hl_48]; rfl), rfl, ⟨⟩⟩)⟩⟩
     refine wp_exit ?_
     obtain rfl := oi hm
     exact ⟨by simp, rfl, ⟨G7, e_7, (St.sel [0] rfl h), (K.sub (so rfl))⟩⟩
   intro e a w hD
   obtain ⟨rfl, ⟨G9, e_9, h, K⟩⟩ := hD
   refine sl <| mv K rfl fun a K => mv K rfl fun a K => mv K rfl fun a K => ?_
   obtain ⟨g_50, hm⟩ := gs hm
   refine ixo K rfl rfl g_50 s50 t9 fun a K => ?_
   have hl_51 : (st p_39.1 p_39.2.2 p_39.2.1).length = p_39.1.length := st_length
   refine sto 0 IkStr ((st p_39.1 p_39.2.2 p_39.2.1)) K h rfl rfl (gt_some g_50) rfl str_val t9 rfl rfl fun w h => nsl <| mv K rfl fun a K => mv K rfl fun a K => binI _ K rfl rfl rfl fun a K => ?_
   obtain ⟨g_52, hm⟩ := gs hm
   refine slO 0 (wr (p_39.2.2 + 1)) K h rfl rfl (by rw [hl_51]) s50 t9 (.inr ⟨_, _, rfl, rfl⟩) g_52 fun a K h => asg K rfl fun a K => wn <| wt ?_
   obtain ⟨G11, e_11, h, q_53⟩ := frz 0 h rfl
   obtain rfl := oi hm
   exact fr f299 K (St.sel [] rfl h) rfl ⟨rfl, ⟨⟩⟩ ⟨rfl, q_53⟩
 refine sl <| mv K rfl fun a K => binC _ K rfl rfl rfl fun a K => wn <| ifm hm K rfl (fun _ hm => ?_) fun _ hm => ?_
 · refine wl <| mv K rfl fun a K => mv K rfl fun a K => ?_
   obtain ⟨x_57, hx_57, hm⟩ := bs hm
   refine clp K h rfl b324 (fun h => c324 hx_57 h) fun a w v G12 K e_12 h hR_58 => ?_
   obtain rfl := hR_58
   refine binI _ K rfl rfl rfl fun a K => asg K rfl fun a K => wn <| kk_55 (wr (x_57 + 1)) hm _ _ ⟨G12, e_12, (St.sel [] rfl h), (K.sub (so rfl))⟩
 refine wk <| kk_55 p3 hm _ _ ⟨G0, gr, (St.sel [] rfl h), (K.sub (so rfl))⟩
abbrev R255 (r : (List ByteArray)) (v : Value) (H : Gh) : Prop := (kSl kStr).val H v r
instance monR255 {r : (List ByteArray)} : MonR (R255 r) := ⟨fun _ _ _ e h => Kd.val_mono e h⟩
theorem c255 {p0 : ByteArray} {p1 : ByteArray} {r : (List ByteArray)} (hm : m255 p0 p1 = some r) (h : St c G0 w []) : Calls prog 255 #[.string p0, .string p1] w (FO c [] (R255 r)) := by
 unfold m255 at hm
 refine enter (n := 8) func255 rfl rfl rfl fun a K => sl <| asg K rfl fun a K => nsl <| mv K rfl fun a K => mv K rfl fun a K => ?_
 obtain ⟨x_1, hx_1, hm⟩ := bs hm
 refine clp K h rfl b299 (fun h => c299 hx_1 h) fun a w v_3 G1 K e_1 h hR_2 => asg K rfl fun a K => wn <| wt ?_
 obtain rfl := oi hm
 exact fr f255 K (St.sel [] rfl h) rfl ⟨rfl, ⟨⟩⟩ ⟨rfl, hR_2⟩
abbrev R190 (r : (List ByteArray) × Int) (v : Value) (H : Gh) : Prop := ∃ u0, v = .tuple #[u0, .int .i64 r.2] ∧ (kSl kStr).val H u0 r.1
instance monR190 {r : (List ByteArray) × Int} : MonR (R190 r) := by
 constructor
 rintro G H v e ⟨u0, rfl, q0⟩
 exact ⟨u0, rfl, Kd.val_mono e q0⟩
theorem c190 {p0 : ByteArray} {p1 : Int} {p2 : Bool} {r : (List ByteArray) × Int} (hm : m190 p0 p1 p2 = some r) (h : St c G0 w []) : Calls prog 190 #[.string p0, .int .i64 p1, .bool p2] w (FO c [] (R190 r)) := by
 unfold m190 at hm
 refine enter (n := 48) func190 rfl rfl rfl fun a K => sl <| asg K rfl fun a K => asg K rfl fun a K => wn <| ws <| wb <| sl <| mv K rfl fun a K => binS _ K rfl rfl rfl fun a K => asg K rfl fun a K => wn <| ifm hm K rfl (fun _ hm => ?_) fun _ hm => ?_
 · refine sl <| asg K rfl fun a K => asg K rfl fun a K => wn <| wt ?_
   obtain rfl := oi hm
   exact fi f190 [_, _] K (St.sel [] rfl h) rfl ⟨rfl, rfl, ⟨⟩⟩ (.inl rfl) ⟨rfl, ⟨_, rfl, nil_sl⟩⟩
 refine sl <| mv K rfl fun a K => lenS K rfl rfl u9 fun a K => mv K rfl fun a K => binC _ K rfl rfl rfl fun a K => asg K rfl fun a K => wn <| ifm hm K rfl (fun _ hm => ?_) fun _ hm => ?_
 · refine sl <| asg K rfl fun a K => asg K rfl fun a K => wn <| wt ?_
   obtain rfl := oi hm
   exact fi f190 [_, _] K (St.sel [] rfl h) rfl ⟨rfl, rfl, ⟨⟩⟩ (.inl rfl) ⟨rfl, ⟨_, rfl, nil_sl⟩⟩
 refine joinS (S := Bool) (fun s_24 a w => Jn c G0 [] 48 [(0, .string p0), (6, .slice none 0 0), (7, .int .i64 0), (19, .bool s_24)] a w) (fun s_24 => m190_j_87 p0 s_24 = some r) (fun s_24 hm a w hJ => ?_) (fun kk_88 => ?_)
 · obtain ⟨G5, e_5, h, K⟩ := hJ
   unfold m190_j_87 at hm
   refine ifm hm K rfl (fun _ hm => ?_) fun _ hm => ?_
   · refine sl <| asg K rfl fun a K => asg K rfl fun a K => wn <| wt ?_
     obtain rfl := oi hm
     exact fi f190 [_, _] K (St.sel [] rfl h) rfl ⟨rfl, rfl, ⟨⟩⟩ (.inl rfl) ⟨rfl, ⟨_, rfl, nil_sl⟩⟩
   refine wk <| sl <| asg K rfl fun a K => wn <| ws <| sl <| mv K rfl fun a K => ?_
   obtain ⟨x_26, hx_26, hm⟩ := bs hm
   refine clp K h rfl b255 (fun h => c255 hx_26 h) fun a w v_28 G6 K e_6 h hR_27 => lenV K rfl hR_27 rfl s50 fun a K => mv K rfl fun a K => wn <| wb ?_
   replace h := St.nil kStr 9 h
   obtain ⟨y_68, hy_68, hm⟩ := bs hm
   refine loop (S := (List ByteArray) × Int) (R := (List ByteArray) ⊕ ((List ByteArray) × Int)) (fun s_54 a w => ∃ (G10 : Gh) (bk_55 : Option Nat) (cp_56 : Nat), Gh.le G6 G10 ∧ St c G10 w [⟨kStr, s_54.1, cp_56, bk_55, 9⟩] ∧ Tm 48 a [(6, .slice none 0 0), (7, .int .i64 0), (8, hdr bk_55 s_54.1.length cp_56), (31, v_28), (32, .int .i64 (x_26.length : Int)), (33, .int .i64 s_54.2)]) (fun (y : (List ByteArray) ⊕ ((List ByteArray) × Int)) e a w => match y with | .inl p_69 => e = .exit 1 ∧ ∃ (G12 : Gh) (bk_70 : Option Nat) (cp_71 : Nat), Gh.le G6 G12 ∧ St c G12 w [⟨kStr, p_69, cp_71, bk_70, 9⟩] ∧ Tm 48 a [(6, .slice none 0 0), (7, .int .i64 0), (8, hdr bk_70 p_69.length cp_71)] | .inr q => e = .ret ∧ bodyPost prog f190 (FO c [] (R190 q)) e a w) hy_68 ⟨G6, none, 0, gr, (St.sel [0] rfl h), (K.sub (so rfl))⟩ ?_ ?_
   · intro s_54 y_73 a w hm hI
     obtain ⟨G10, bk_55, cp_56, e_10, h, K⟩ := hI
     unfold m190_l_72 at hm
     refine sl <| binC _ K rfl rfl rfl fun a K => wn <| ws <| ifm hm K rfl (fun _ hm => ?_) fun _ hm => ?_
     · refine wk <| ws <| wb <| ws <| wl ?_
       obtain ⟨g_75, hm⟩ := gs hm
       refine ixs K rfl (Kd.val_mono e_10 hR_27) rfl g_75 s50 t9 fun a v_76 K q_77 => ldr1 (.string (gt x_26 s_54.2)) K h rfl q_77 t9 vS fun a K => asg K rfl fun a K => wn <| ws <| sl <| mv K rfl fun a K => lenS K rfl rfl u9 fun a K => binC _ K rfl rfl rfl fun a K => wn <| ifm hm K rfl (fun _ hm => ?_) fun _ hm => ?_
       · refine sl <| asg K rfl fun a K => asg K rfl fun a K => wn <| wt ?_
         obtain rfl := oi hm
         exact ⟨by simp, rfl, (fi f190 [_, _] K (St.sel [] rfl h) rfl ⟨rfl, rfl, ⟨⟩⟩ (.inl rfl) ⟨rfl, ⟨_, rfl, nil_sl⟩⟩)⟩
       refine wk <| sl <| mv K rfl fun a K => binS _ K rfl rfl rfl fun a K => wn <| ifm hm K rfl (fun _ hm => ?_) fun _ hm => ?_
       · refine wl <| mv K rfl fun a K => mv K rfl fun a K => bldS (f := kStr) (by decide) [(gt x_26 s_54.2)] K h rfl s50 t9 rfl z9 (.cons (Fld.idx kStr 0 (by decide)) rfl str_val .nil) fun a w bk_80 K h => ?_
         obtain ⟨G13, e_13, h, q_81⟩ := frz 0 h rfl
         obtain ⟨g_84, hm⟩ := gs hm
         refine app 0 K h rfl rfl rfl rfl q_81 rfl s50 s50 e9 g_84 fun a w bk_82 cp_83 K h => asg K rfl fun a K => wn <| wl <| binI _ K rfl rfl rfl fun a K => mv K rfl fun a K => wn ?_
         obtain rfl := oi hm
         exact ⟨rfl, ⟨G13, bk_82, cp_83, (Gh.trans e_10 e_13), (St.sel [0] rfl h), (K.sub (so rfl))⟩⟩
       refine wk <| wl <| binI _ K rfl rfl rfl fun a K => mv K rfl fun a K => wn ?_
       obtain rfl := oi hm
       exact ⟨rfl, ⟨G10, bk_55, cp_56, e_10, (St.sel [0] rfl h), (K.sub (so rfl))⟩⟩
     refine wp_exit ?_
     obtain rfl := oi hm
     exact ⟨by simp, rfl, ⟨G10, bk_55, cp_56, e_10, (St.sel [0] rfl h), (K.sub (so rfl))⟩⟩
   intro e a w hD
   rcases y_68 with p_69 | q_86
   · simp only [Sum.elim_inl, Sum.elim_inr] at hm
     obtain ⟨rfl, ⟨G12, bk_70, cp_71, e_12, h, K⟩⟩ := hD
     refine sl <| mv K rfl fun a K => asg K rfl fun a K => asg K rfl fun a K => wn <| wt ?_
     obtain ⟨G14, e_14, h, q_85⟩ := frz 0 h rfl
     obtain rfl := oi hm
     exact fi f190 [_, _] K (St.sel [] rfl h) rfl ⟨rfl, rfl, ⟨⟩⟩ (.inl rfl) ⟨rfl, ⟨_, rfl, q_85⟩⟩
   simp only [Sum.elim_inr] at hm
   obtain rfl := oi hm
   obtain ⟨rfl, hD⟩ := hD
   exact hD
 refine wl <| mv K rfl fun a K => ?_
 obtain ⟨x_89, hx_89, hm⟩ := bs hm
 refine clp K h rfl b254 (fun h => c254 hx_89 h) fun a w v G15 K e_15 h hR_90 => ?_
 obtain rfl := hR_90
 refine mv K rfl fun a K => ?_
 rcases im hm with ⟨c_91, hm⟩ | ⟨c_91, hm⟩
 · refine g1 K c_91 fun a K => g1 K c_91 fun a K => gnU K rfl rfl rfl rfl fun a K => gnU K rfl rfl rfl rfl fun a K => gnU K rfl rfl rfl rfl fun a K => g1 K c_91 fun a K => pkT K rfl c_91 rfl fun a K => asg K rfl fun a K => wn <| kk_88 true hm _ _ ⟨G15, e_15, (St.sel [] rfl h), (K.sub (so rfl))⟩
 refine g2 K c_91 <| mv K rfl fun a K => g2 K c_91 <| mv K rfl fun a K => ?_
 rcases im hm with ⟨c_92, hm⟩ | ⟨c_92, hm⟩
 · refine g2 K c_92 <| mv K rfl fun a K => gy K rfl rfl c_92 ?_
   obtain ⟨g_93, hm⟩ := gs hm
   refine ixc K rfl rfl g_93 u9 fun a K => g2 K c_92 <| binC _ K rfl rfl rfl fun a K => g2 K c_91 <| pkT K rfl c_92 rfl fun a K => pkF K rfl c_91 rfl fun a K => asg K rfl fun a K => wn <| kk_88 (((sAt p0 (0 : Int)).toNat : Int) != 47) hm _ _ ⟨G15, e_15, (St.sel [] rfl h), (K.sub (so rfl))⟩
 refine g1 K c_92 fun a K => g1 K c_92 fun a K => g1 K c_92 fun a K => g2 K c_91 <| pkF K rfl c_92 rfl fun a K => pkF K rfl c_91 rfl fun a K => asg K rfl fun a K => wn <| kk_88 false hm _ _ ⟨G15, e_15, (St.sel [] rfl h), (K.sub (so rfl))⟩
abbrev R116 (r : Bool × (List ByteArray) × Int) (v : Value) (H : Gh) : Prop := ∃ u1, v = .tuple #[.bool r.1, u1, .int .i64 r.2.2] ∧ (kSl kStr).val H u1 r.2.1
instance monR116 {r : Bool × (List ByteArray) × Int} : MonR (R116 r) := by
 constructor
 rintro G H v e ⟨u1, rfl, q1⟩
 exact ⟨u1, rfl, Kd.val_mono e q1⟩
theorem c116 {p0 : ByteArray} {r : Bool × (List ByteArray) × Int} (hm : m116 p0 = some r) (h : St c G0 w []) : Calls prog 116 #[.string p0] w (FO c [] (R116 r)) := by
 unfold m116 at hm
 refine enter (n := 19) func116 rfl rfl rfl fun a K => sl <| asg K rfl fun a K => asg K rfl fun a K => asg K rfl fun a K => nsl <| mv K rfl fun a K => ?_
 obtain ⟨x_1, hx_1, hm⟩ := bs hm
 refine clp K h rfl b190 (fun h => c190 hx_1 h) fun a w v G1 K e_1 h hR_2 => ?_
 obtain ⟨v_3, rfl, q_4⟩ := hR_2
 refine mv K rfl fun a K => extr K rfl rfl fun a K => extr K rfl rfl fun a K => asg K rfl fun a K => asg K rfl fun a K => wn <| ws <| sl <| mv K rfl fun a K => binC _ K rfl rfl rfl fun a K => wn <| ifm hm K rfl (fun _ hm => ?_) fun _ hm => ?_
 · refine sl <| mv K rfl fun a K => asg K rfl fun a K => asg K rfl fun a K => asg K rfl fun a K => wn <| wt ?_
   obtain rfl := oi hm
   exact fi f116 [_, _, _] K (St.sel [] rfl h) rfl ⟨rfl, rfl, rfl, ⟨⟩⟩ (.inl rfl) ⟨rfl, ⟨_, rfl, nil_sl⟩⟩
 refine wk <| sl <| mv K rfl fun a K => ?_
 obtain ⟨g_6, hm⟩ := gs hm
 refine ixc K rfl rfl g_6 u9 fun a K => binC _ K rfl rfl rfl fun a K => mv K rfl fun a K => asg K rfl fun a K => asg K rfl fun a K => asg K rfl fun a K => wn <| wt ?_
 obtain rfl := oi hm
 exact fi f116 [_, _, _] K (St.sel [] rfl h) rfl ⟨rfl, rfl, rfl, ⟨⟩⟩ (.inl rfl) ⟨rfl, ⟨v_3, rfl, q_4⟩⟩
abbrev R149 (r : Bool) (v : Value) (H : Gh) : Prop := v = .bool r
instance monR149 {r : Bool} : MonR (R149 r) := ⟨fun _ _ _ _ h => h⟩
theorem c149 {p0 : Int} {r : Bool} (hm : m149 p0 = some r) (h : St c G0 w []) : Calls prog 149 #[.int .i64 p0] w (FO c [] (R149 r)) := by
 unfold m149 at hm
 refine enter (n := 9) func149 rfl rfl rfl fun a K => sl <| asg K rfl fun a K => nsl <| mv K rfl fun a K => binC _ K rfl rfl rfl fun a K => mv K rfl fun a K => ?_
 rcases im hm with ⟨c_1, hm⟩ | ⟨c_1, hm⟩
 · refine g1 K c_1 fun a K => g1 K c_1 fun a K => pkT K rfl c_1 rfl fun a K => asg K rfl fun a K => wn <| wt ?_
   obtain rfl := oi hm
   exact fr f149 K (St.sel [] rfl h) rfl ⟨rfl, ⟨⟩⟩ ⟨rfl, rfl⟩
 refine g2 K c_1 <| mv K rfl fun a K => g2 K c_1 <| binC _ K rfl rfl rfl fun a K => pkF K rfl c_1 rfl fun a K => asg K rfl fun a K => wn <| wt ?_
 obtain rfl := oi hm
 exact fr f149 K (St.sel [] rfl h) rfl ⟨rfl, ⟨⟩⟩ ⟨rfl, rfl⟩
abbrev R230 (r : (List ByteArray) × Int) (v : Value) (H : Gh) : Prop := ∃ u0, v = .tuple #[u0, .int .i64 r.2] ∧ (kSl kStr).val H u0 r.1
instance monR230 {r : (List ByteArray) × Int} : MonR (R230 r) := by
 constructor
 rintro G H v e ⟨u0, rfl, q0⟩
 exact ⟨u0, rfl, Kd.val_mono e q0⟩
theorem c230 {p0 : ByteArray} {r : (List ByteArray) × Int} (hm : m230 p0 = some r) (h : St c G0 w []) : Calls prog 230 #[.string p0] w (FO c [] (R230 r)) := by
 unfold m230 at hm
 refine enter (n := 8) func230 rfl rfl rfl fun a K => sl <| asg K rfl fun a K => asg K rfl fun a K => nsl <| mv K rfl fun a K => ?_
 obtain ⟨x_1, hx_1, hm⟩ := bs hm
 refine clp K h rfl b190 (fun h => c190 hx_1 h) fun a w v G1 K e_1 h hR_2 => ?_
 obtain ⟨v_3, rfl, q_4⟩ := hR_2
 refine extr K rfl rfl fun a K => extr K rfl rfl fun a K => asg K rfl fun a K => asg K rfl fun a K => wn <| wt ?_
 obtain rfl := oi hm
 exact fi f230 [_, _] K (St.sel [] rfl h) rfl ⟨rfl, rfl, ⟨⟩⟩ (.inl rfl) ⟨rfl, ⟨v_3, rfl, q_4⟩⟩
abbrev R155 (r : Bool) (v : Value) (H : Gh) : Prop := v = .bool r
instance monR155 {r : Bool} : MonR (R155 r) := ⟨fun _ _ _ _ h => h⟩
theorem c155 {p0 : T103} {p1 : T45} {p2 : Int} {p3 : Int} {B0 q0 q1 q2 n0 n1 n2 : Nat} {r : Bool} (hm : m155 p0 p1 p2 p3 = some r) {vp1 : Value} (hp1 : (k45.val G0 vp1 p1)) (h : St c G0 w ((o3 B0 q0 q1 q2 n0 n1 n2 p0))) : Calls prog 155 #[(pA B0 Ik103o), vp1, .int .i64 p2, .int .i64 p3] w (FO c (o3 B0 q0 q1 q2 n0 n1 n2 p0) (R155 r)) := by
 unfold m155 at hm
 refine enter (n := 46) func155 rfl rfl rfl fun a K => sl <| boxr K h rfl hp1 fun a w v_1 G1 K e_1 h q_2 => asg K rfl fun a K => nsl <| mv K rfl fun a K => nilck K rfl fun a K => fa F103_0o K rfl o103_0o fun a K => fa F37_4o K rfl o37_4o fun a K => ld1 0 (J103_0o.comp F37_4o) (hS q0 p0.p.Inodes n0) K h rfl rfl rfl t33 vX fun a K => mv K rfl fun a K => ?_
 obtain ⟨g_3, hm⟩ := gs hm
 refine ixo K rfl rfl g_3 s33 t84 fun a K => ld 1 Ik84 K h rfl rfl (gt_some g_3) t84 fun a v_4 K q_5 => alc K h z84 fun a w bk_6 K h => sto 0 Ik84 ([(gt p0.p.Inodes p2)]) K h rfl rfl rfl rfl q_5 t84 rfl rfl fun w h => nsl <| fa F84_1 K rfl o84_1 fun a K => ld1 0 J84_1 (.int .i64 ((gt p0.p.Inodes p2).Mode)) K h rfl rfl rfl t3 vI fun a K => asg K rfl fun a K => wn <| ws <| wb <| sl <| far F45_1 K rfl q_2 o45_1 fun a v_7 K q_8 => ldr1 (.int .i64 p1.Uid) K h rfl q_8 t3 vI fun a K => binC _ K rfl rfl rfl fun a K => asg K rfl fun a K => wn <| ifm hm K rfl (fun _ hm => ?_) fun _ hm => ?_
 · refine sl <| asg K rfl fun a K => wn <| wt ?_
   obtain rfl := oi hm
   exact fr f155 K (St.sel [1, 2, 3, 4] rfl h) rfl ⟨rfl, ⟨⟩⟩ ⟨rfl, rfl⟩
 refine sl <| far F45_1 K rfl q_2 o45_1 fun a v_10 K q_11 => ldr1 (.int .i64 p1.Uid) K h rfl q_11 t3 vI fun a K => fa F84_2 K rfl o84_2 fun a K => ld1 0 J84_2 (.int .i64 ((gt p0.p.Inodes p2).Uid)) K h rfl rfl rfl t3 vI fun a K => binC _ K rfl rfl rfl fun a K => asg K rfl fun a K => wn <| ifm hm K rfl (fun _ hm => ?_) fun _ hm => ?_
 · refine wl <| mv K rfl fun a K => binShr _ K rfl rfl rfl rfl fun a K => asg K rfl fun a K => wn <| sl <| mv K rfl fun a K => mv K rfl fun a K => binI _ K rfl rfl rfl fun a K => mv K rfl fun a K => binC _ K rfl rfl rfl fun a K => asg K rfl fun a K => wn <| wt ?_
   obtain rfl := oi hm
   exact fr f155 K (St.sel [1, 2, 3, 4] rfl h) rfl ⟨rfl, ⟨⟩⟩ ⟨rfl, rfl⟩
 refine sl <| far F45_2 K rfl q_2 o45_2 fun a v_13 K q_14 => ldr1 (.int .i64 p1.Gid) K h rfl q_14 t3 vI fun a K => fa F84_3 K rfl o84_3 fun a K => ld1 0 J84_3 (.int .i64 ((gt p0.p.Inodes p2).Gid)) K h rfl rfl rfl t3 vI fun a K => binC _ K rfl rfl rfl fun a K => asg K rfl fun a K => wn <| ifm hm K rfl (fun _ hm => ?_) fun _ hm => ?_
 · refine wl <| mv K rfl fun a K => binShr _ K rfl rfl rfl rfl fun a K => asg K rfl fun a K => wn <| sl <| mv K rfl fun a K => mv K rfl fun a K => binI _ K rfl rfl rfl fun a K => mv K rfl fun a K => binC _ K rfl rfl rfl fun a K => asg K rfl fun a K => wn <| wt ?_
   obtain rfl := oi hm
   exact fr f155 K (St.sel [1, 2, 3, 4] rfl h) rfl ⟨rfl, ⟨⟩⟩ ⟨rfl, rfl⟩
 refine wk <| sl <| mv K rfl fun a K => mv K rfl fun a K => binI _ K rfl rfl rfl fun a K => mv K rfl fun a K => binC _ K rfl rfl rfl fun a K => asg K rfl fun a K => wn <| wt ?_
 obtain rfl := oi hm
 exact fr f155 K (St.sel [1, 2, 3, 4] rfl h) rfl ⟨rfl, ⟨⟩⟩ ⟨rfl, rfl⟩
abbrev R117 (r : Int) (v : Value) (H : Gh) : Prop := v = .int .i64 r
instance monR117 {r : Int} : MonR (R117 r) := ⟨fun _ _ _ _ h => h⟩
theorem c117 {p0 : (List T87)} {r : Int} (hm : m117 p0 = some r) {vp0 : Value} (hp0 : ((kSl k87).val G0 vp0 p0)) (h : St c G0 w []) : Calls prog 117 #[vp0] w (FO c [] (R117 r)) := by
 unfold m117 at hm
 refine enter (n := 20) func117 rfl rfl rfl fun a K => sl <| asg K rfl fun a K => nsl <| asg K rfl fun a K => wn <| ws <| sl <| mv K rfl fun a K => lenV K rfl hp0 rfl s85 fun a K => mv K rfl fun a K => wn <| wb ?_
 obtain ⟨p_25, hp_25, hm⟩ := bs hm
 refine loop (S := Int × Int) (R := Int) (fun s_16 a w => Jn c G0 [] 20 [(2, .int .i64 0), (3, .int .i64 s_16.1), (6, vp0), (7, .int .i64 (p0.length : Int)), (8, .int .i64 s_16.2)] a w) (fun (p_25 : Int) e a w => e = .exit 0 ∧ Jn c G0 [] 20 [(2, .int .i64 0), (3, .int .i64 p_25)] a w) hp_25 ⟨G0, gr, (St.sel [] rfl h), (K.sub (so rfl))⟩ ?_ ?_
 · intro s_16 y_27 a w hm hI
   obtain ⟨G2, e_2, h, K⟩ := hI
   unfold m117_l_26 at hm
   refine sl <| binC _ K rfl rfl rfl fun a K => wn <| ws <| ifm hm K rfl (fun _ hm => ?_) fun _ hm => ?_
   · refine wk <| ws <| wb <| ws <| wl ?_
     obtain ⟨g_29, hm⟩ := gs hm
     refine ixs K rfl (Kd.val_mono e_2 hp0) rfl g_29 s85 t87 fun a v_30 K q_31 => ldr K h rfl q_31 t87 fun a v_32 K q_33 => alc K h z87 fun a w bk_34 K h => sto 0 Ik87 ([(gt p0 s_16.2)]) K h rfl rfl rfl rfl q_33 t87 rfl rfl fun w h => wn <| wl <| mv K rfl fun a K => fa F87_0 K rfl o87_0 fun a K => ld1 0 J87_0 (.string ((gt p0 s_16.2).Name)) K h rfl rfl rfl t9 vS fun a K => lenS K rfl rfl u9 fun a K => binI _ K rfl rfl rfl fun a K => binI _ K rfl rfl rfl fun a K => asg K rfl fun a K => wn <| wl <| binI _ K rfl rfl rfl fun a K => mv K rfl fun a K => wn ?_
     obtain rfl := oi hm
     exact ⟨rfl, ⟨G2, e_2, (St.sel [] rfl h), (K.sub (so rfl))⟩⟩
   refine wp_exit ?_
   obtain rfl := oi hm
   exact ⟨by simp, rfl, ⟨G2, e_2, (St.sel [] rfl h), (K.sub (so rfl))⟩⟩
 intro e a w hD
 obtain ⟨rfl, ⟨G3, e_3, h, K⟩⟩ := hD
 refine sl <| mv K rfl fun a K => asg K rfl fun a K => wn <| wt ?_
 obtain rfl := oi hm
 exact fr f117 K (St.sel [] rfl h) rfl ⟨rfl, ⟨⟩⟩ ⟨rfl, rfl⟩
abbrev R352 (r : Int) (v : Value) (H : Gh) : Prop := v = .int .i64 r
instance monR352 {r : Int} : MonR (R352 r) := ⟨fun _ _ _ _ h => h⟩
theorem c352 {p0 : ByteArray} {p1 : UInt8} {r : Int} (hm : m352 p0 p1 = some r) (h : St c G0 w []) : Calls prog 352 #[.string p0, .int .u8 (p1.toNat : Int)] w (FO c [] (R352 r)) := by
 unfold m352 at hm
 refine enter (n := 8) func352 rfl rfl rfl fun a K => sl <| asg K rfl fun a K => nsl <| mv K rfl fun a K => mv K rfl fun a K => ?_
 obtain ⟨x_1, hx_1, hm⟩ := bs hm
 refine clp K h rfl b341 (fun h => c341 hx_1 h) fun a w v G1 K e_1 h hR_2 => ?_
 obtain rfl := hR_2
 refine asg K rfl fun a K => wn <| wt ?_
 obtain rfl := oi hm
 exact fr f352 K (St.sel [] rfl h) rfl ⟨rfl, ⟨⟩⟩ ⟨rfl, rfl⟩
abbrev R353 (r : Bool) (v : Value) (H : Gh) : Prop := v = .bool r
instance monR353 {r : Bool} : MonR (R353 r) := ⟨fun _ _ _ _ h => h⟩
theorem c353 {p0 : Int} {r : Bool} (hm : m353 p0 = some r) (h : St c G0 w []) : Calls prog 353 #[.int .i32 p0] w (FO c [] (R353 r)) := by
 unfold m353 at hm
 refine enter (n := 17) func353 rfl rfl rfl fun a K => sl <| asg K rfl fun a K => wn <| ws <| wb <| joinS (S := Bool) (fun s_2 a w => Jn c G0 [] 17 [(0, .int .i32 p0), (2, .bool false), (3, .bool s_2)] a w) (fun s_2 => m353_j_6 p0 s_2 = some r) (fun s_2 hm a w hJ => ?_) (fun kk_7 => ?_)
 · obtain ⟨G1, e_1, h, K⟩ := hJ
   unfold m353_j_6 at hm
   refine ifm hm K rfl (fun _ hm => ?_) fun _ hm => ?_
   · refine sl <| asg K rfl fun a K => wn <| wt ?_
     obtain rfl := oi hm
     exact fr f353 K (St.sel [] rfl h) rfl ⟨rfl, ⟨⟩⟩ ⟨rfl, rfl⟩
   refine sl <| mv K rfl fun a K => binC _ K rfl rfl rfl fun a K => mv K rfl fun a K => ?_
   rcases im hm with ⟨c_4, hm⟩ | ⟨c_4, hm⟩
   · refine g2 K c_4 <| mv K rfl fun a K => g2 K c_4 <| binC _ K rfl rfl rfl fun a K => pkT K rfl c_4 rfl fun a K => asg K rfl fun a K => wn <| ifm hm K rfl (fun _ hm => ?_) fun _ hm => ?_
     · refine sl <| asg K rfl fun a K => wn <| wt ?_
       obtain rfl := oi hm
       exact fr f353 K (St.sel [] rfl h) rfl ⟨rfl, ⟨⟩⟩ ⟨rfl, rfl⟩
     refine wk <| sl <| asg K rfl fun a K => wn <| wt ?_
     obtain rfl := oi hm
     exact fr f353 K (St.sel [] rfl h) rfl ⟨rfl, ⟨⟩⟩ ⟨rfl, rfl⟩
   refine g1 K c_4 fun a K => g1 K c_4 fun a K => pkF K rfl c_4 rfl fun a K => asg K rfl fun a K => wn <| ifF K rfl rfl <| wk <| sl <| asg K rfl fun a K => wn <| wt ?_
   obtain rfl := oi hm
   exact fr f353 K (St.sel [] rfl h) rfl ⟨rfl, ⟨⟩⟩ ⟨rfl, rfl⟩
 refine wl <| mv K rfl fun a K => binC _ K rfl rfl rfl fun a K => mv K rfl fun a K => ?_
 rcases im hm with ⟨c_8, hm⟩ | ⟨c_8, hm⟩
 · refine g2 K c_8 <| mv K rfl fun a K => g2 K c_8 <| binC _ K rfl rfl rfl fun a K => pkT K rfl c_8 rfl fun a K => asg K rfl fun a K => wn <| kk_7 (decide (p0 < 55296)) hm _ _ ⟨G0, gr, (St.sel [] rfl h), (K.sub (so rfl))⟩
 refine g1 K c_8 fun a K => g1 K c_8 fun a K => pkF K rfl c_8 rfl fun a K => asg K rfl fun a K => wn <| kk_7 false hm _ _ ⟨G0, gr, (St.sel [] rfl h), (K.sub (so rfl))⟩
abbrev R335 (r : Int) (v : Value) (H : Gh) : Prop := v = .int .i64 r
instance monR335 {r : Int} : MonR (R335 r) := ⟨fun _ _ _ _ h => h⟩
theorem c335 {p0 : ByteArray} {p1 : Int} {r : Int} (hm : m335 p0 p1 = some r) (h : St c G0 w []) : Calls prog 335 #[.string p0, .int .i32 p1] w (FO c [] (R335 r)) := by
 unfold m335 at hm
 refine enter (n := 187) func335 rfl rfl rfl fun a K => sl <| asg K rfl fun a K => wn <| wb <| joinS (S := Bool) (fun s_2 a w => Jn c G0 [] 187 [(0, .string p0), (1, .int .i32 p1), (4, .int .i64 0), (160, .bool s_2)] a w) (fun s_2 => m335_j_663 p0 p1 s_2 = some r) (fun s_2 hm a w hJ => ?_) (fun kk_664 => ?_)
 · obtain ⟨G1, e_1, h, K⟩ := hJ
   unfold m335_j_663 at hm
   refine ifm hm K rfl (fun _ hm => ?_) fun _ hm => ?_
   · refine sl <| mv K rfl fun a K => mv K rfl fun a K => cvtI _ K rfl ⟨_, u21⟩ u5 rfl fun a K => ?_
     obtain ⟨x_4, hx_4, hm⟩ := bs hm
     refine clp K h rfl b352 (fun h => by have z := c352 hx_4 h; rw [b8_eq (isB_wrap _)] at z; exact z) fun a w v G2 K e_2 h hR_5 => ?_
     obtain rfl := hR_5
     refine asg K rfl fun a K => wn <| wt ?_
     obtain rfl := oi hm
     exact fr f335 K (St.sel [] rfl h) rfl ⟨rfl, ⟨⟩⟩ ⟨rfl, rfl⟩
   refine sl <| mv K rfl fun a K => binC _ K rfl rfl rfl fun a K => asg K rfl fun a K => wn <| ifm hm K rfl (fun _ hm => ?_) fun _ hm => ?_
   · refine ws <| sl <| mv K rfl fun a K => rngS K h rfl u9 fun a w bk_7 K h hi_8 => wn <| wb ?_
     obtain ⟨y_22, hy_22, hm⟩ := bs hm
     refine loop (S := Nat) (R := Unit ⊕ Int) (fun s_17 a w => ∃ (G4 : Gh), Gh.le G1 G4 ∧ St c G4 w [] ∧ Tm 187 a [(4, .int .i64 0), (175, (.pointer (some ⟨bk_7, 0, none⟩)))] ∧ It c G4 w bk_7 p0 s_17) (fun (y : Unit ⊕ Int) e a w => match y with | .inl p_23 => e = .exit 9 ∧ Jn c G1 [] 187 [(4, .int .i64 0)] a w | .inr q => e = .ret ∧ bodyPost prog f335 (FO c [] (R335 q)) e a w) hy_22 ⟨G1, gr, (St.sel [] rfl h), (K.sub (so rfl)), hi_8⟩ ?_ ?_
     · intro s_17 y_25 a w hm hI
       obtain ⟨G4, e_4, h, K, hi_18⟩ := hI
       unfold m335_l_24 at hm
       refine ws <| wl ?_
       rcases im hm with ⟨c_26, hm⟩ | ⟨c_26, hm⟩
       · refine nxS K h rfl hi_18 c_26 fun a w K h hi_27 => extr K rfl rfl fun a K => wn <| ws <| ifT K rfl rfl <| wk <| wb <| sl <| extr K rfl rfl fun a K => extr K rfl rfl fun a K => asg K rfl fun a K => asg K rfl fun a K => nsl <| mv K rfl fun a K => binC _ K rfl rfl rfl fun a K => wn <| ifm hm K rfl (fun _ hm => ?_) fun _ hm => ?_
         · refine sl <| mv K rfl fun a K => asg K rfl fun a K => wn <| wt ?_
           obtain rfl := oi hm
           exact ⟨by simp, rfl, (fr f335 K (St.sel [] rfl h) rfl ⟨rfl, ⟨⟩⟩ ⟨rfl, rfl⟩)⟩
         refine wk ?_
         obtain rfl := oi hm
         exact ⟨rfl, ⟨G4, e_4, (St.sel [] rfl h), (K.sub (so rfl)), hi_27⟩⟩
       refine nxE K rfl hi_18 c_26 fun a K => extr K rfl rfl fun a K => wn <| ws <| ifF K rfl rfl <| wp_exit ?_
       obtain rfl := oi hm
       exact ⟨by simp, rfl, ⟨G4, e_4, (St.sel [] rfl h), (K.sub ⟨rfl, ⟨⟩⟩)⟩⟩
     intro e a w hD
     rcases y_22 with p_23 | q_29
     · simp only [Sum.elim_inl, Sum.elim_inr] at hm
       obtain ⟨rfl, ⟨G5, e_5, h, K⟩⟩ := hD
       refine sl <| asg K rfl fun a K => wn <| wt ?_
       obtain rfl := oi hm
       exact fr f335 K (St.sel [] rfl h) rfl ⟨rfl, ⟨⟩⟩ ⟨rfl, rfl⟩
     simp only [Sum.elim_inr] at hm
     obtain rfl := oi hm
     obtain ⟨rfl, hD⟩ := hD
     exact hD
   refine sl <| mv K rfl fun a K => ?_
   obtain ⟨x_30, hx_30, hm⟩ := bs hm
   refine clp K h rfl b353 (fun h => c353 hx_30 h) fun a w v G6 K e_6 h hR_31 => ?_
   obtain rfl := hR_31
   refine notB _ K rfl rfl fun a K => asg K rfl fun a K => wn <| ifm hm K rfl (fun _ hm => ?_) fun _ hm => ?_
   · refine sl <| asg K rfl fun a K => wn <| wt ?_
     obtain rfl := oi hm
     exact fr f335 K (St.sel [] rfl h) rfl ⟨rfl, ⟨⟩⟩ ⟨rfl, rfl⟩
   refine wp_scope_straight <| sl <| mv K rfl fun a K => cvtIS K rfl ⟨_, u21⟩ u9 fun a K => asg K rfl fun a K => nsl <| mv K rfl fun a K => lenS K rfl rfl u9 fun a K => binI _ K rfl rfl rfl fun a K => asg K rfl fun a K => nsl <| mv K rfl fun a K => asg K rfl fun a K => nsl <| asg K rfl fun a K => wn <| ws <| wb ?_
   obtain ⟨y_450, hy_450, hm⟩ := bs hm
   refine loop (S := Unit) (R := Unit ⊕ Int) (fun s_241 a w => Jn c G6 [] 187 [(0, .string p0), (1, .int .i32 p1), (4, .int .i64 0), (7, .string (Utf8.encode p1)), (8, .int .i64 (wr (((Utf8.encode p1).size : Int) - 1))), (9, .int .i64 (wr (((Utf8.encode p1).size : Int) - 1))), (10, .int .i64 0)] a w) (fun (y : Unit ⊕ Int) e a w => match y with | .inl p_451 => e = .exit 1 ∧ Jn c G6 [] 187 [(0, .string p0), (1, .int .i32 p1), (4, .int .i64 0), (7, .string (Utf8.encode p1)), (8, .int .i64 (wr (((Utf8.encode p1).size : Int) - 1))), (9, .int .i64 (wr (((Utf8.encode p1).size : Int) - 1)))] a w | .inr q => e = .ret ∧ bodyPost prog f335 (FO c [] (R335 q)) e a w) hy_450 ⟨G6, gr, (St.sel [] rfl h), (K.sub (so rfl))⟩ ?_ ?_
   · intro s_241 y_453 a w hm hI
     obtain ⟨G87, e_87, h, K⟩ := hI
     unfold m335_l_452 at hm
     refine ws <| sl <| mv K rfl fun a K => mv K rfl fun a K => lenS K rfl rfl u9 fun a K => binC _ K rfl rfl rfl fun a K => wn <| ifm hm K rfl (fun _ hm => ?_) fun _ hm => ?_
     · refine wk <| wb <| wp_scope_straight <| joinS (S := Int) (fun s_494 a w => Jn c G87 [] 187 [(0, .string p0), (1, .int .i32 p1), (4, .int .i64 0), (7, .string (Utf8.encode p1)), (8, .int .i64 (wr (((Utf8.encode p1).size : Int) - 1))), (9, .int .i64 s_494), (10, .int .i64 0), (23, .int .i64 (wr (((Utf8.encode p1).size : Int) - 1))), (24, .string p0), (25, .int .i64 (p0.size : Int)), (26, .bool (decide ((wr (((Utf8.encode p1).size : Int) - 1)) < (p0.size : Int)))), (27, .string p0), (28, .int .i64 (wr (((Utf8.encode p1).size : Int) - 1))), (29, .int .u8 ((sAt p0 (wr (((Utf8.encode p1).size : Int) - 1))).toNat : Int)), (30, .string (Utf8.encode p1)), (31, .int .i64 (wr (((Utf8.encode p1).size : Int) - 1))), (32, .int .u8 ((sAt (Utf8.encode p1) (wr (((Utf8.encode p1).size : Int) - 1))).toNat : Int)), (33, .bool (((sAt p0 (wr (((Utf8.encode p1).size : Int) - 1))).toNat : Int) != ((sAt (Utf8.encode p1) (wr (((Utf8.encode p1).size : Int) - 1))).toNat : Int)))] a w) (fun s_494 => m335_j_621 p0 p1 s_494 = some y_453) (fun s_494 hm a w hJ => ?_) (fun kk_622 => ?_)
       · obtain ⟨G185, e_185, h, K⟩ := hJ
         unfold m335_j_621 at hm
         refine ws <| sl <| asg K rfl fun a K => wn <| wb ?_
         obtain ⟨p_588, hp_588, hm⟩ := bs hm
         refine loop (S := Int) (R := Int × Int × Bool) (fun s_556 a w => Jn c G185 [] 187 [(0, .string p0), (1, .int .i32 p1), (4, .int .i64 0), (7, .string (Utf8.encode p1)), (8, .int .i64 (wr (((Utf8.encode p1).size : Int) - 1))), (9, .int .i64 s_494), (10, .int .i64 0), (12, .int .i64 s_556), (23, .int .i64 (wr (((Utf8.encode p1).size : Int) - 1))), (24, .string p0), (25, .int .i64 (p0.size : Int)), (26, .bool (decide ((wr (((Utf8.encode p1).size : Int) - 1)) < (p0.size : Int)))), (27, .string p0), (28, .int .i64 (wr (((Utf8.encode p1).size : Int) - 1))), (29, .int .u8 ((sAt p0 (wr (((Utf8.encode p1).size : Int) - 1))).toNat : Int)), (30, .string (Utf8.encode p1)), (31, .int .i64 (wr (((Utf8.encode p1).size : Int) - 1))), (32, .int .u8 ((sAt (Utf8.encode p1) (wr (((Utf8.encode p1).size : Int) - 1))).toNat : Int)), (33, .bool (((sAt p0 (wr (((Utf8.encode p1).size : Int) - 1))).toNat : Int) != ((sAt (Utf8.encode p1) (wr (((Utf8.encode p1).size : Int) - 1))).toNat : Int)))] a w) (fun (p_588 : Int × Int × Bool) e a w => e = .exit 3 ∧ Jn c G185 [] 187 [(0, .string p0), (1, .int .i32 p1), (4, .int .i64 0), (7, .string (Utf8.encode p1)), (8, .int .i64 (wr (((Utf8.encode p1).size : Int) - 1))), (9, .int .i64 s_494), (10, .int .i64 0), (12, .int .i64 p_588.1), (23, .int .i64 (wr (((Utf8.encode p1).size : Int) - 1))), (24, .string p0), (25, .int .i64 (p0.size : Int)), (26, .bool (decide ((wr (((Utf8.encode p1).size : Int) - 1)) < (p0.size : Int)))), (27, .string p0), (28, .int .i64 (wr (((Utf8.encode p1).size : Int) - 1))), (29, .int .u8 ((sAt p0 (wr (((Utf8.encode p1).size : Int) - 1))).toNat : Int)), (30, .string (Utf8.encode p1)), (31, .int .i64 (wr (((Utf8.encode p1).size : Int) - 1))), (32, .int .u8 ((sAt (Utf8.encode p1) (wr (((Utf8.encode p1).size : Int) - 1))).toNat : Int)), (33, .bool (((sAt p0 (wr (((Utf8.encode p1).size : Int) - 1))).toNat : Int) != ((sAt (Utf8.encode p1) (wr (((Utf8.encode p1).size : Int) - 1))).toNat : Int))), (48, .int .i64 p_588.2.1), (49, .string (Utf8.encode p1)), (50, .int .i64 ((Utf8.encode p1).size : Int)), (51, .bool p_588.2.2)] a w) hp_588 ⟨G185, gr, (St.sel [] rfl h), (K.sub (so rfl))⟩ ?_ ?_
         · intro s_556 y_590 a w hm hI
           obtain ⟨G209, e_209, h, K⟩ := hI
           unfold m335_l_589 at hm
           refine ws <| sl <| mv K rfl fun a K => mv K rfl fun a K => lenS K rfl rfl u9 fun a K => binC _ K rfl rfl rfl fun a K => wn <| ifm hm K rfl (fun _ hm => ?_) fun _ hm => ?_
           · refine wk <| ws <| wb <| ws ?_
             obtain ⟨g_600, hm⟩ := gs hm
             obtain ⟨g_609, hm⟩ := gs hm
             refine wh 10 [fE _, fE _, fE _, fE _, fE _, fE _, fE _, fE _, fE _, fE _] [(0, _), (1, _), (4, _), (7, _), (8, _), (9, _), (10, _), (12, _), (23, _), (24, _), (25, _), (26, _), (27, _), (28, _), (29, _), (30, _), (31, _), (32, _), (33, _), (48, _), (49, _), (50, _), (51, _)] mx K h (so rfl) ⟨hpX [(0, _)] (fun s _ => ⟨s.1, ⟨⟩⟩) fun _ _ K t => mv K rfl t, hpX [(9, _)] (fun s _ => ⟨s.2.2.2.2.2.1, ⟨⟩⟩) fun _ _ K t => mv K rfl t, hpX [(12, _)] (fun s _ => ⟨s.2.2.2.2.2.2.2.1, ⟨⟩⟩) fun _ _ K t => mv K rfl t, hpX [(55, _), (56, _)] k2 fun _ _ K t => binI _ K rfl rfl rfl t, hpX [(54, _), (57, _)] k2 fun _ _ K t => ixc K rfl rfl g_600 u9 t, hpX [(7, _)] (fun s _ => ⟨s.2.2.2.1, ⟨⟩⟩) fun _ _ K t => mv K rfl t, hpX [(8, _)] (fun s _ => ⟨s.2.2.2.2.1, ⟨⟩⟩) fun _ _ K t => mv K rfl t, hpX [(12, _)] (fun s _ => ⟨s.2.2.2.2.2.2.2.1, ⟨⟩⟩) fun _ _ K t => mv K rfl t, hpX [(60, _), (61, _)] k2 fun _ _ K t => binI _ K rfl rfl rfl t, hpX [(59, _), (62, _)] k2 fun _ _ K t => ixc K rfl rfl g_609 u9 t, ⟨⟩⟩ ?_
             intro a w G232 L e_232 h K hs hg
             replace K := K.sub (l' := [(54, _), (55, _), (56, _), (57, _), (58, _), (59, _), (60, _), (61, _), (62, _), (63, _), (0, _), (1, _), (4, _), (7, _), (8, _), (9, _), (10, _), (12, _), (23, _), (24, _), (25, _), (26, _), (27, _), (28, _), (29, _), (30, _), (31, _), (32, _), (33, _), (48, _), (49, _), (50, _), (51, _)]) ⟨gE (hg 0 rfl rfl), gE (hg 1 rfl rfl), gE (hg 2 rfl rfl), gE (hg 3 rfl rfl), gE (hg 4 rfl rfl), gE (hg 5 rfl rfl), gE (hg 6 rfl rfl), gE (hg 7 rfl rfl), gE (hg 8 rfl rfl), gE (hg 9 rfl rfl), hs.1, hs.2.1, hs.2.2.1, hs.2.2.2.1, hs.2.2.2.2.1, hs.2.2.2.2.2.1, hs.2.2.2.2.2.2.1, hs.2.2.2.2.2.2.2.1, hs.2.2.2.2.2.2.2.2.1, hs.2.2.2.2.2.2.2.2.2.1, hs.2.2.2.2.2.2.2.2.2.2.1, hs.2.2.2.2.2.2.2.2.2.2.2.1, hs.2.2.2.2.2.2.2.2.2.2.2.2.1, hs.2.2.2.2.2.2.2.2.2.2.2.2.2.1, hs.2.2.2.2.2.2.2.2.2.2.2.2.2.2.1, hs.2.2.2.2.2.2.2.2.2.2.2.2.2.2.2.1, hs.2.2.2.2.2.2.2.2.2.2.2.2.2.2.2.2.1, hs.2.2.2.2.2.2.2.2.2.2.2.2.2.2.2.2.2.1, hs.2.2.2.2.2.2.2.2.2.2.2.2.2.2.2.2.2.2.1, hs.2.2.2.2.2.2.2.2.2.2.2.2.2.2.2.2.2.2.2.1, hs.2.2.2.2.2.2.2.2.2.2.2.2.2.2.2.2.2.2.2.2.1, hs.2.2.2.2.2.2.2.2.2.2.2.2.2.2.2.2.2.2.2.2.2.1, hs.2.2.2.2.2.2.2.2.2.2.2.2.2.2.2.2.2.2.2.2.2.2.1, ⟨⟩⟩
             refine binC _ K rfl rfl rfl fun a K => wn <| ifm hm K rfl (fun _ hm => ?_) fun _ hm => ?_
             · cases hm
             refine wk <| wl <| mv K rfl fun a K => binI _ K rfl rfl rfl fun a K => asg K rfl fun a K => wn ?_
             obtain rfl := oi hm
             exact ⟨rfl, ⟨G232, (Gh.trans e_209 e_232), (St.sel [] rfl h), (K.sub (so rfl))⟩⟩
           refine wp_exit ?_
           obtain rfl := oi hm
           exact ⟨by simp, rfl, ⟨G209, e_209, (St.sel [] rfl h), (K.sub (so rfl))⟩⟩
         intro e a w hD
         obtain ⟨rfl, ⟨G221, e_221, h, K⟩⟩ := hD
         refine ws <| sl <| mv K rfl fun a K => mv K rfl fun a K => binI _ K rfl rfl rfl fun a K => asg K rfl fun a K => wn <| wt ?_
         obtain rfl := oi hm
         exact ⟨by simp, rfl, (fr f335 K (St.sel [] rfl h) rfl ⟨rfl, ⟨⟩⟩ ⟨rfl, rfl⟩)⟩
       refine ws ?_
       obtain ⟨g_627, hm⟩ := gs hm
       obtain ⟨g_632, hm⟩ := gs hm
       refine wh 6 [fE _, fE _, fE _, fE _, fE _, fE _] [(0, _), (1, _), (4, _), (7, _), (8, _), (9, _), (10, _), (23, _), (24, _), (25, _), (26, _)] mx K h (so rfl) ⟨hpX [(0, _)] (fun s _ => ⟨s.1, ⟨⟩⟩) fun _ _ K t => mv K rfl t, hpX [(9, _)] (fun s _ => ⟨s.2.2.2.2.2.1, ⟨⟩⟩) fun _ _ K t => mv K rfl t, hpX [(27, _), (28, _)] k2 fun _ _ K t => ixc K rfl rfl g_627 u9 t, hpX [(7, _)] (fun s _ => ⟨s.2.2.2.1, ⟨⟩⟩) fun _ _ K t => mv K rfl t, hpX [(8, _)] (fun s _ => ⟨s.2.2.2.2.1, ⟨⟩⟩) fun _ _ K t => mv K rfl t, hpX [(30, _), (31, _)] k2 fun _ _ K t => ixc K rfl rfl g_632 u9 t, ⟨⟩⟩ ?_
       intro a w G239 L e_239 h K hs hg
       replace K := K.sub (l' := [(27, _), (28, _), (29, _), (30, _), (31, _), (32, _), (0, _), (1, _), (4, _), (7, _), (8, _), (9, _), (10, _), (23, _), (24, _), (25, _), (26, _)]) ⟨gE (hg 0 rfl rfl), gE (hg 1 rfl rfl), gE (hg 2 rfl rfl), gE (hg 3 rfl rfl), gE (hg 4 rfl rfl), gE (hg 5 rfl rfl), hs.1, hs.2.1, hs.2.2.1, hs.2.2.2.1, hs.2.2.2.2.1, hs.2.2.2.2.2.1, hs.2.2.2.2.2.2.1, hs.2.2.2.2.2.2.2.1, hs.2.2.2.2.2.2.2.2.1, hs.2.2.2.2.2.2.2.2.2.1, hs.2.2.2.2.2.2.2.2.2.2.1, ⟨⟩⟩
       refine binC _ K rfl rfl rfl fun a K => wn <| ifm hm K rfl (fun _ hm => ?_) fun _ hm => ?_
       · refine ws ?_
         obtain ⟨g_646, hm⟩ := gs hm
         obtain ⟨g_651, hm⟩ := gs hm
         refine wh 7 [fE _, fE _, fE _, fE _, fE _, fE _, fE _] [(0, _), (1, _), (4, _), (7, _), (8, _), (9, _), (10, _), (23, _), (24, _), (25, _), (26, _), (27, _), (28, _), (29, _), (30, _), (31, _), (32, _), (33, _)] mx K h (so rfl) ⟨hpX [(0, _)] (fun s _ => ⟨s.1, ⟨⟩⟩) fun _ _ K t => mv K rfl t, hpX [(9, _)] (fun s _ => ⟨s.2.2.2.2.2.1, ⟨⟩⟩) fun _ _ K t => mv K rfl t, hpX [(35, _)] k1 fun _ _ K t => binI _ K rfl rfl rfl t, hpX [(34, _), (36, _)] k2 fun _ _ K t => slS (wr ((wr (((Utf8.encode p1).size : Int) - 1)) + 1)) (p0.size : Int) K rfl u9 (.inr ⟨_, _, rfl, rfl⟩) (.inl ⟨rfl, rfl⟩) g_646 t, hpX [(7, _)] (fun s _ => ⟨s.2.2.2.1, ⟨⟩⟩) fun _ _ K t => mv K rfl t, hpX [(8, _)] (fun s _ => ⟨s.2.2.2.2.1, ⟨⟩⟩) fun _ _ K t => mv K rfl t, hpX [(38, _), (39, _)] k2 fun _ _ K t => ixc K rfl rfl g_651 u9 t, ⟨⟩⟩ ?_
         intro a w G247 L e_247 h K hs hg
         replace K := K.sub (l' := [(34, _), (35, _), (36, _), (37, _), (38, _), (39, _), (40, _), (0, _), (1, _), (4, _), (7, _), (8, _), (9, _), (10, _), (23, _), (24, _), (25, _), (26, _), (27, _), (28, _), (29, _), (30, _), (31, _), (32, _), (33, _)]) ⟨gE (hg 0 rfl rfl), gE (hg 1 rfl rfl), gE (hg 2 rfl rfl), gE (hg 3 rfl rfl), gE (hg 4 rfl rfl), gE (hg 5 rfl rfl), gE (hg 6 rfl rfl), hs.1, hs.2.1, hs.2.2.1, hs.2.2.2.1, hs.2.2.2.2.1, hs.2.2.2.2.2.1, hs.2.2.2.2.2.2.1, hs.2.2.2.2.2.2.2.1, hs.2.2.2.2.2.2.2.2.1, hs.2.2.2.2.2.2.2.2.2.1, hs.2.2.2.2.2.2.2.2.2.2.1, hs.2.2.2.2.2.2.2.2.2.2.2.1, hs.2.2.2.2.2.2.2.2.2.2.2.2.1, hs.2.2.2.2.2.2.2.2.2.2.2.2.2.1, hs.2.2.2.2.2.2.2.2.2.2.2.2.2.2.1, hs.2.2.2.2.2.2.2.2.2.2.2.2.2.2.2.1, hs.2.2.2.2.2.2.2.2.2.2.2.2.2.2.2.2.1, hs.2.2.2.2.2.2.2.2.2.2.2.2.2.2.2.2.2.1, ⟨⟩⟩
         obtain ⟨x_659, hx_659, hm⟩ := bs hm
         refine clp K h rfl b352 (fun h => c352 hx_659 h) fun a w v G248 K e_248 h hR_660 => ?_
         obtain rfl := hR_660
         refine asg K rfl fun a K => wn <| ws <| sl <| mv K rfl fun a K => binC _ K rfl rfl rfl fun a K => wn <| ifm hm K rfl (fun _ hm => ?_) fun _ hm => ?_
         · refine sl <| asg K rfl fun a K => wn <| wt ?_
           obtain rfl := oi hm
           exact ⟨by simp, rfl, (fr f335 K (St.sel [] rfl h) rfl ⟨rfl, ⟨⟩⟩ ⟨rfl, rfl⟩)⟩
         refine wk <| wl <| mv K rfl fun a K => mv K rfl fun a K => binI _ K rfl rfl rfl fun a K => binI _ K rfl rfl rfl fun a K => asg K rfl fun a K => wn <| kk_622 (wr ((wr (((Utf8.encode p1).size : Int) - 1)) + (wr (x_659 + 1)))) hm _ _ ⟨G248, (Gh.trans e_239 (Gh.trans e_247 e_248)), (St.sel [] rfl h), (K.sub (so rfl))⟩
       refine wk <| kk_622 (wr (((Utf8.encode p1).size : Int) - 1)) hm _ _ ⟨G239, e_239, (St.sel [] rfl h), (K.sub (so rfl))⟩
     refine wp_exit ?_
     obtain rfl := oi hm
     exact ⟨by simp, rfl, ⟨G87, e_87, (St.sel [] rfl h), (K.sub (so rfl))⟩⟩
   intro e a w hD
   rcases y_450 with p_451 | q_662
   · simp only [Sum.elim_inl, Sum.elim_inr] at hm
     obtain ⟨rfl, ⟨G168, e_168, h, K⟩⟩ := hD
     refine ws <| sl <| asg K rfl fun a K => wn <| wt ?_
     obtain rfl := oi hm
     exact fr f335 K (St.sel [] rfl h) rfl ⟨rfl, ⟨⟩⟩ ⟨rfl, rfl⟩
   simp only [Sum.elim_inr] at hm
   obtain rfl := oi hm
   obtain ⟨rfl, hD⟩ := hD
   exact hD
 refine wl <| mv K rfl fun a K => binC _ K rfl rfl rfl fun a K => mv K rfl fun a K => ?_
 rcases im hm with ⟨c_665, hm⟩ | ⟨c_665, hm⟩
 · refine g2 K c_665 <| mv K rfl fun a K => g2 K c_665 <| binC _ K rfl rfl rfl fun a K => pkT K rfl c_665 rfl fun a K => asg K rfl fun a K => wn <| kk_664 (decide (p1 < 128)) hm _ _ ⟨G0, gr, (St.sel [] rfl h), (K.sub (so rfl))⟩
 refine g1 K c_665 fun a K => g1 K c_665 fun a K => pkF K rfl c_665 rfl fun a K => asg K rfl fun a K => wn <| kk_664 false hm _ _ ⟨G0, gr, (St.sel [] rfl h), (K.sub (so rfl))⟩
abbrev R336 (r : Bool) (v : Value) (H : Gh) : Prop := v = .bool r
instance monR336 {r : Bool} : MonR (R336 r) := ⟨fun _ _ _ _ h => h⟩
theorem c336 {p0 : Int} {r : Bool} (hm : m336 p0 = some r) (h : St c G0 w []) : Calls prog 336 #[.int .i64 p0] w (FO c [] (R336 r)) := by
 unfold m336 at hm
 refine enter (n := 5) func336 rfl rfl rfl fun a K => sl <| asg K rfl fun a K => nsl <| mv K rfl fun a K => binC _ K rfl rfl rfl fun a K => asg K rfl fun a K => wn <| wt ?_
 obtain rfl := oi hm
 exact fr f336 K (St.sel [] rfl h) rfl ⟨rfl, ⟨⟩⟩ ⟨rfl, rfl⟩
abbrev R337 (r : (List Bool) × Bool) (v : Value) (H : Gh) : Prop := ∃ u0, v = .tuple #[u0, .bool r.2] ∧ a298.val H u0 r.1
instance monR337 {r : (List Bool) × Bool} : MonR (R337 r) := by
 constructor
 rintro G H v e ⟨u0, rfl, q0⟩
 exact ⟨u0, rfl, Kd.val_mono e q0⟩
theorem c337 {p0 : ByteArray} {r : (List Bool) × Bool} (hm : m337 p0 = some r) (h : St c G0 w []) : Calls prog 337 #[.string p0] w (FO c [] (R337 r)) := by
 unfold m337 at hm
 refine enter (n := 21) func337 rfl rfl rfl fun a K => sl <| alc K h z359 fun a w bk_1 K h => asg K rfl fun a K => wn <| ws <| sl <| asg K rfl fun a K => wn <| wb ?_
 obtain ⟨y_22, hy_22, hm⟩ := bs hm
 refine loop (S := (List Bool) × Int) (R := (List Bool) ⊕ ((List Bool) × Bool)) (fun s_15 a w => Jn c G0 [⟨a298, [s_15.1], 1, (some bk_1), 359⟩] 21 [(0, .string p0), (2, (pA bk_1 (Fld.id a298))), (3, .bool false), (4, .int .i64 s_15.2)] a w) (fun (y : (List Bool) ⊕ ((List Bool) × Bool)) e a w => match y with | .inl p_23 => e = .exit 0 ∧ Jn c G0 [⟨a298, [p_23], 1, (some bk_1), 359⟩] 21 [(2, (pA bk_1 (Fld.id a298))), (3, .bool false)] a w | .inr q => e = .ret ∧ bodyPost prog f337 (FO c [] (R337 q)) e a w) hy_22 ⟨G0, gr, (St.sel [0] rfl h), (K.sub (so rfl))⟩ ?_ ?_
 · intro s_15 y_25 a w hm hI
   obtain ⟨G2, e_2, h, K⟩ := hI
   unfold m337_l_24 at hm
   refine ws <| sl <| mv K rfl fun a K => mv K rfl fun a K => lenS K rfl rfl u9 fun a K => binC _ K rfl rfl rfl fun a K => wn <| ifm hm K rfl (fun _ hm => ?_) fun _ hm => ?_
   · refine wk <| ws <| wb <| sl <| mv K rfl fun a K => mv K rfl fun a K => ?_
     obtain ⟨g_27, hm⟩ := gs hm
     refine ixc K rfl rfl g_27 u9 fun a K => asg K rfl fun a K => wn <| ws <| sl <| mv K rfl fun a K => binC _ K rfl rfl rfl fun a K => wn <| ifm hm K rfl (fun _ hm => ?_) fun _ hm => ?_
     · refine sl <| ld 0 (Fld.id a298) K h rfl rfl rfl t359 fun a v_29 K q_30 => sto 0 (Fld.id a298) ([s_15.1]) K h rfl rfl rfl rfl q_30 t359 rfl rfl fun w h => asg K rfl fun a K => wn <| wt ?_
       obtain ⟨v_31, q_32, rb_33⟩ := resOwn (P := prog) (i := 0) (p := 2) 0 (Fld.id a298) h rfl (K.lk_eq 2 rfl) rfl t359
       obtain rfl := oi hm
       exact ⟨by simp, rfl, (fi f337 [_, _] K (St.sel [] rfl h) rfl ⟨rb_33, rfl, ⟨⟩⟩ (.inl rfl) ⟨rfl, ⟨v_31, rfl, q_32⟩⟩)⟩
     refine wk <| wl <| mv K rfl fun a K => ?_
     obtain ⟨g_34, hm⟩ := gs hm
     refine ixa K rfl rfl g_34 r359 t4 fun a K => sto 0 ((Fld.id a298).comp (Fld.idx kBool (((sAt p0 s_15.2).toNat : Int)).toNat (inr_lt g_34))) ([(st s_15.1 ((sAt p0 s_15.2).toNat : Int) true)]) K h rfl rfl rfl rfl bool_val t4 rfl rfl fun w h => wn <| wl <| mv K rfl fun a K => binI _ K rfl rfl rfl fun a K => asg K rfl fun a K => wn ?_
     obtain rfl := oi hm
     exact ⟨rfl, ⟨G2, e_2, (St.sel [0] rfl h), (K.sub (so rfl))⟩⟩
   refine wp_exit ?_
   obtain rfl := oi hm
   exact ⟨by simp, rfl, ⟨G2, e_2, (St.sel [0] rfl h), (K.sub (so rfl))⟩⟩
 intro e a w hD
 rcases y_22 with p_23 | q_40
 · simp only [Sum.elim_inl, Sum.elim_inr] at hm
   obtain ⟨rfl, ⟨G3, e_3, h, K⟩⟩ := hD
   refine sl <| ld 0 (Fld.id a298) K h rfl rfl rfl t359 fun a v_35 K q_36 => sto 0 (Fld.id a298) ([p_23]) K h rfl rfl rfl rfl q_36 t359 rfl rfl fun w h => asg K rfl fun a K => wn <| wt ?_
   obtain ⟨v_37, q_38, rb_39⟩ := resOwn (P := prog) (i := 0) (p := 2) 0 (Fld.id a298) h rfl (K.lk_eq 2 rfl) rfl t359
   obtain rfl := oi hm
   exact fi f337 [_, _] K (St.sel [] rfl h) rfl ⟨rb_39, rfl, ⟨⟩⟩ (.inl rfl) ⟨rfl, ⟨v_37, rfl, q_38⟩⟩
 simp only [Sum.elim_inr] at hm
 obtain rfl := oi hm
 obtain ⟨rfl, hD⟩ := hD
 exact hD
abbrev R338 (r : Bool) (v : Value) (H : Gh) : Prop := v = .bool r
instance monR338 {r : Bool} : MonR (R338 r) := ⟨fun _ _ _ _ h => h⟩
theorem c338 {p0 : (List Bool)} {p1 : UInt8} {B0 : Nat} {r : Bool} (hm : m338 p0 p1 = some r) (h : St c G0 w ((own359 B0 p0))) : Calls prog 338 #[(pA B0 (Fld.id a298)), .int .u8 (p1.toNat : Int)] w (FO c (own359 B0 p0) (R338 r)) := by
 unfold m338 at hm
 replace h := St.cast (Δ' := [⟨a298, [p0], 1, (some B0), 359⟩]) h rfl
 refine enter (n := 10) func338 rfl rfl rfl fun a K => sl <| asg K rfl fun a K => nsl <| mv K rfl fun a K => mv K rfl fun a K => nilck K rfl fun a K => ?_
 obtain ⟨g_1, hm⟩ := gs hm
 refine ixa K rfl rfl g_1 r359 t4 fun a K => ld1 0 ((Fld.id a298).comp (Fld.idx kBool ((p1.toNat : Int)).toNat (inr_lt g_1))) (.bool (gt p0 (p1.toNat : Int))) K h rfl rfl rfl t4 vB fun a K => asg K rfl fun a K => wn <| wt ?_
 obtain rfl := oi hm
 exact fr f338 K (St.sel [0] rfl h) rfl ⟨rfl, ⟨⟩⟩ ⟨rfl, rfl⟩
abbrev R316 (r : Int) (v : Value) (H : Gh) : Prop := v = .int .i64 r
instance monR316 {r : Int} : MonR (R316 r) := ⟨fun _ _ _ _ h => h⟩
theorem c316 {p0 : ByteArray} {p1 : ByteArray} {r : Int} (hm : m316 p0 p1 = some r) (h : St c G0 w []) : Calls prog 316 #[.string p0, .string p1] w (FO c [] (R316 r)) := by
 unfold m316 at hm
 refine enter (n := 55) func316 rfl rfl rfl fun a K => sl <| asg K rfl fun a K => wn <| ws <| sl <| mv K rfl fun a K => binS _ K rfl rfl rfl fun a K => wn <| ifm hm K rfl (fun _ hm => ?_) fun _ hm => ?_
 · refine sl <| asg K rfl fun a K => wn <| wt ?_
   obtain rfl := oi hm
   exact fr f316 K (St.sel [] rfl h) rfl ⟨rfl, ⟨⟩⟩ ⟨rfl, rfl⟩
 refine wk <| ws <| sl <| mv K rfl fun a K => lenS K rfl rfl u9 fun a K => binC _ K rfl rfl rfl fun a K => wn <| ifm hm K rfl (fun _ hm => ?_) fun _ hm => ?_
 · refine sl <| mv K rfl fun a K => ?_
   obtain ⟨g_3, hm⟩ := gs hm
   refine ixc K rfl rfl g_3 u9 fun a K => cvtI _ K rfl ⟨_, u5⟩ u21 rfl fun a K => asg K rfl fun a K => wn <| joinS (S := Int) (fun s_5 a w => Jn c G0 [] 55 [(0, .string p0), (1, .string p1), (4, .int .i64 0), (5, .int .i32 s_5)] a w) (fun s_5 => m316_j_8 p0 s_5 = some r) (fun s_5 hm a w hJ => ?_) (fun kk_9 => ?_)
   · obtain ⟨G1, e_1, h, K⟩ := hJ
     unfold m316_j_8 at hm
     refine sl <| mv K rfl fun a K => mv K rfl fun a K => ?_
     obtain ⟨x_6, hx_6, hm⟩ := bs hm
     refine clp K h rfl b335 (fun h => c335 hx_6 h) fun a w v G2 K e_2 h hR_7 => ?_
     obtain rfl := hR_7
     refine asg K rfl fun a K => wn <| wt ?_
     obtain rfl := oi hm
     exact fr f316 K (St.sel [] rfl h) rfl ⟨rfl, ⟨⟩⟩ ⟨rfl, rfl⟩
   refine sl <| mv K rfl fun a K => binC _ K rfl rfl rfl fun a K => wn <| ifm hm K rfl (fun _ hm => ?_) fun _ hm => ?_
   · refine wl <| asg K rfl fun a K => wn <| kk_9 65533 hm _ _ ⟨G0, gr, (St.sel [] rfl h), (K.sub (so rfl))⟩
   refine wk <| kk_9 (IntKind.i32.wrap (((sAt p1 (0 : Int)).toNat : Int))) hm _ _ ⟨G0, gr, (St.sel [] rfl h), (K.sub (so rfl))⟩
 refine wk <| joinS (S := Unit) (fun s_47 a w => Jn c G0 [] 55 [(0, .string p0), (1, .string p1), (4, .int .i64 0)] a w) (fun s_47 => m316_j_79 p0 p1 s_47 = some r) (fun s_47 hm a w hJ => ?_) (fun kk_80 => ?_)
 · obtain ⟨G12, e_12, h, K⟩ := hJ
   unfold m316_j_79 at hm
   refine ws <| sl <| mv K rfl fun a K => rngS K h rfl u9 fun a w bk_48 K h hi_49 => wn <| wb ?_
   obtain ⟨y_69, hy_69, hm⟩ := bs hm
   refine loop (S := Nat) (R := Unit ⊕ Int) (fun s_62 a w => ∃ (G16 : Gh), Gh.le G12 G16 ∧ St c G16 w [] ∧ Tm 55 a [(1, .string p1), (4, .int .i64 0), (45, (.pointer (some ⟨bk_48, 0, none⟩)))] ∧ It c G16 w bk_48 p0 s_62) (fun (y : Unit ⊕ Int) e a w => match y with | .inl p_70 => e = .exit 2 ∧ Jn c G12 [] 55 [(4, .int .i64 0)] a w | .inr q => e = .ret ∧ bodyPost prog f316 (FO c [] (R316 q)) e a w) hy_69 ⟨G12, gr, (St.sel [] rfl h), (K.sub (so rfl)), hi_49⟩ ?_ ?_
   · intro s_62 y_72 a w hm hI
     obtain ⟨G16, e_16, h, K, hi_63⟩ := hI
     unfold m316_l_71 at hm
     refine ws <| wl ?_
     rcases im hm with ⟨c_73, hm⟩ | ⟨c_73, hm⟩
     · refine nxS K h rfl hi_63 c_73 fun a w K h hi_74 => extr K rfl rfl fun a K => wn <| ws <| ifT K rfl rfl <| wk <| wb <| sl <| extr K rfl rfl fun a K => extr K rfl rfl fun a K => asg K rfl fun a K => asg K rfl fun a K => nsl <| mv K rfl fun a K => mv K rfl fun a K => ?_
       obtain ⟨x_75, hx_75, hm⟩ := bs hm
       refine clpI K h rfl b335 (fun h => c335 hx_75 h) fun a w v G19 K e_19 h hR_76 hI => ?_
       replace hi_74 := hI _ _ _ hi_74
       obtain rfl := hR_76
       refine binC _ K rfl rfl rfl fun a K => wn <| ifm hm K rfl (fun _ hm => ?_) fun _ hm => ?_
       · refine sl <| mv K rfl fun a K => asg K rfl fun a K => wn <| wt ?_
         obtain rfl := oi hm
         exact ⟨by simp, rfl, (fr f316 K (St.sel [] rfl h) rfl ⟨rfl, ⟨⟩⟩ ⟨rfl, rfl⟩)⟩
       refine wk ?_
       obtain rfl := oi hm
       exact ⟨rfl, ⟨G19, (Gh.trans e_16 e_19), (St.sel [] rfl h), (K.sub (so rfl)), hi_74⟩⟩
     refine nxE K rfl hi_63 c_73 fun a K => extr K rfl rfl fun a K => wn <| ws <| ifF K rfl rfl <| wp_exit ?_
     obtain rfl := oi hm
     exact ⟨by simp, rfl, ⟨G16, e_16, (St.sel [] rfl h), (K.sub ⟨rfl, ⟨⟩⟩)⟩⟩
   intro e a w hD
   rcases y_69 with p_70 | q_78
   · simp only [Sum.elim_inl, Sum.elim_inr] at hm
     obtain ⟨rfl, ⟨G18, e_18, h, K⟩⟩ := hD
     refine sl <| asg K rfl fun a K => wn <| wt ?_
     obtain rfl := oi hm
     exact fr f316 K (St.sel [] rfl h) rfl ⟨rfl, ⟨⟩⟩ ⟨rfl, rfl⟩
   simp only [Sum.elim_inr] at hm
   obtain rfl := oi hm
   obtain ⟨rfl, hD⟩ := hD
   exact hD
 refine sl <| mv K rfl fun a K => lenS K rfl rfl u9 fun a K => ?_
 obtain ⟨x_81, hx_81, hm⟩ := bs hm
 refine clp K h rfl b336 (fun h => c336 hx_81 h) fun a w v G20 K e_20 h hR_82 => ?_
 obtain rfl := hR_82
 refine wn <| ifm hm K rfl (fun _ hm => ?_) fun _ hm => ?_
 · refine sl <| mv K rfl fun a K => ?_
   obtain ⟨x_84, hx_84, hm⟩ := bs hm
   refine clp K h rfl b337 (fun h => c337 hx_84 h) fun a w v G21 K e_21 h hR_85 => ?_
   obtain ⟨v_86, rfl, q_87⟩ := hR_85
   refine mv K rfl fun a K => extr K rfl rfl fun a K => extr K rfl rfl fun a K => alc K h z359 fun a w bk_88 K h => sto 0 (Fld.id a298) ([x_84.1]) K h rfl rfl rfl rfl q_87 t359 rfl rfl fun w h => asg K rfl fun a K => nsl <| mv K rfl fun a K => wn <| ifm hm K rfl (fun _ hm => ?_) fun _ hm => ?_
   · refine ws <| sl <| asg K rfl fun a K => wn <| wb ?_
     obtain ⟨y_107, hy_107, hm⟩ := bs hm
     refine loop (S := Int) (R := Unit ⊕ Int) (fun s_101 a w => Jn c G21 [⟨a298, [x_84.1], 1, (some bk_88), 359⟩] 55 [(0, .string p0), (1, .string p1), (4, .int .i64 0), (6, (pA bk_88 (Fld.id a298))), (8, .int .i64 s_101)] a w) (fun (y : Unit ⊕ Int) e a w => match y with | .inl p_108 => e = .exit 0 ∧ Jn c G21 [] 55 [(0, .string p0), (1, .string p1), (4, .int .i64 0)] a w | .inr q => e = .ret ∧ bodyPost prog f316 (FO c [] (R316 q)) e a w) hy_107 ⟨G21, gr, (St.sel [0] rfl h), (K.sub (so rfl))⟩ ?_ ?_
     · intro s_101 y_110 a w hm hI
       obtain ⟨G25, e_25, h, K⟩ := hI
       unfold m316_l_109 at hm
       refine ws <| sl <| mv K rfl fun a K => mv K rfl fun a K => lenS K rfl rfl u9 fun a K => binC _ K rfl rfl rfl fun a K => wn <| ifm hm K rfl (fun _ hm => ?_) fun _ hm => ?_
       · refine wk <| ws <| wb <| sl <| mv K rfl fun a K => mv K rfl fun a K => ?_
         obtain ⟨g_112, hm⟩ := gs hm
         refine ixc K rfl rfl g_112 u9 fun a K => ?_
         obtain ⟨x_113, hx_113, hm⟩ := bs hm
         refine clr (Δ₁ := (own359 bk_88 x_84.1)) (Δ₂ := _) [0] K h rfl rfl b338 (fun h => c338 hx_113 h) fun a w v G28 K e_28 h hR_114 => ?_
         obtain rfl := hR_114
         refine wn <| ifm hm K rfl (fun _ hm => ?_) fun _ hm => ?_
         · refine sl <| mv K rfl fun a K => asg K rfl fun a K => wn <| wt ?_
           obtain rfl := oi hm
           exact ⟨by simp, rfl, (fr f316 K (St.sel [] rfl h) rfl ⟨rfl, ⟨⟩⟩ ⟨rfl, rfl⟩)⟩
         refine wk <| wl <| mv K rfl fun a K => binI _ K rfl rfl rfl fun a K => asg K rfl fun a K => wn ?_
         obtain rfl := oi hm
         exact ⟨rfl, ⟨G28, (Gh.trans e_25 e_28), (St.sel [0] rfl h), (K.sub (so rfl))⟩⟩
       refine wp_exit ?_
       obtain rfl := oi hm
       exact ⟨by simp, rfl, ⟨G25, e_25, (St.sel [] rfl h), (K.sub (so rfl))⟩⟩
     intro e a w hD
     rcases y_107 with p_108 | q_116
     · simp only [Sum.elim_inl, Sum.elim_inr] at hm
       obtain ⟨rfl, ⟨G27, e_27, h, K⟩⟩ := hD
       refine sl <| asg K rfl fun a K => wn <| wt ?_
       obtain rfl := oi hm
       exact fr f316 K (St.sel [] rfl h) rfl ⟨rfl, ⟨⟩⟩ ⟨rfl, rfl⟩
     simp only [Sum.elim_inr] at hm
     obtain rfl := oi hm
     obtain ⟨rfl, hD⟩ := hD
     exact hD
   refine wk <| kk_80 () hm _ _ ⟨G21, (Gh.trans e_20 e_21), (St.sel [] rfl h), (K.sub (so rfl))⟩
 refine wk <| kk_80 () hm _ _ ⟨G20, e_20, (St.sel [] rfl h), (K.sub (so rfl))⟩
abbrev R294 (r : Bool) (v : Value) (H : Gh) : Prop := v = .bool r
instance monR294 {r : Bool} : MonR (R294 r) := ⟨fun _ _ _ _ h => h⟩
theorem c294 {p0 : ByteArray} {p1 : ByteArray} {r : Bool} (hm : m294 p0 p1 = some r) (h : St c G0 w []) : Calls prog 294 #[.string p0, .string p1] w (FO c [] (R294 r)) := by
 unfold m294 at hm
 refine enter (n := 9) func294 rfl rfl rfl fun a K => sl <| asg K rfl fun a K => nsl <| mv K rfl fun a K => mv K rfl fun a K => ?_
 obtain ⟨x_1, hx_1, hm⟩ := bs hm
 refine clp K h rfl b316 (fun h => c316 hx_1 h) fun a w v G1 K e_1 h hR_2 => ?_
 obtain rfl := hR_2
 refine binC _ K rfl rfl rfl fun a K => asg K rfl fun a K => wn <| wt ?_
 obtain rfl := oi hm
 exact fr f294 K (St.sel [] rfl h) rfl ⟨rfl, ⟨⟩⟩ ⟨rfl, rfl⟩
abbrev R247 (r : Bool) (v : Value) (H : Gh) : Prop := v = .bool r
instance monR247 {r : Bool} : MonR (R247 r) := ⟨fun _ _ _ _ h => h⟩
theorem c247 {p0 : ByteArray} {r : Bool} (hm : m247 p0 = some r) (h : St c G0 w []) : Calls prog 247 #[.string p0] w (FO c [] (R247 r)) := by
 unfold m247 at hm
 refine enter (n := 24) func247 rfl rfl rfl fun a K => sl <| asg K rfl fun a K => nsl <| mv K rfl fun a K => lenS K rfl rfl u9 fun a K => binC _ K rfl rfl rfl fun a K => mv K rfl fun a K => ?_
 rcases im hm with ⟨c_1, hm⟩ | ⟨c_1, hm⟩
 · refine g2 K c_1 <| mv K rfl fun a K => g2 K c_1 <| lenS K rfl rfl u9 fun a K => g2 K c_1 <| binC _ K rfl rfl rfl fun a K => pkT K rfl c_1 rfl fun a K => mv K rfl fun a K => ?_
   rcases im hm with ⟨c_2, hm⟩ | ⟨c_2, hm⟩
   · refine g2 K c_2 <| mv K rfl fun a K => g2 K c_2 <| binS _ K rfl rfl rfl fun a K => pkT K rfl c_2 rfl fun a K => mv K rfl fun a K => ?_
     rcases im hm with ⟨c_3, hm⟩ | ⟨c_3, hm⟩
     · refine g2 K c_3 <| mv K rfl fun a K => g2 K c_3 <| binS _ K rfl rfl rfl fun a K => pkT K rfl c_3 rfl fun a K => mv K rfl fun a K => ?_
       rcases im hm with ⟨c_4, hm⟩ | ⟨c_4, hm⟩
       · refine g2 K c_4 <| mv K rfl fun a K => gy K rfl rfl c_4 ?_
         obtain ⟨x_5, hx_5, hm⟩ := bs hm
         refine clp K h rfl b294 (fun h => c294 hx_5 h) fun a w v G1 K e_1 h hR_6 => ?_
         obtain rfl := hR_6
         refine g2 K c_4 <| notB _ K rfl rfl fun a K => pkT K rfl c_4 rfl fun a K => asg K rfl fun a K => wn <| wt ?_
         obtain rfl := oi hm
         exact fr f247 K (St.sel [] rfl h) rfl ⟨rfl, ⟨⟩⟩ ⟨rfl, rfl⟩
       refine g1 K c_4 fun a K => g1 K c_4 fun a K => g1 K c_4 fun a K => pkF K rfl c_4 rfl fun a K => asg K rfl fun a K => wn <| wt ?_
       obtain rfl := oi hm
       exact fr f247 K (St.sel [] rfl h) rfl ⟨rfl, ⟨⟩⟩ ⟨rfl, rfl⟩
     refine g1 K c_3 fun a K => g1 K c_3 fun a K => pkF K rfl c_3 rfl fun a K => mv K rfl fun a K => g1 K rfl fun a K => g1 K rfl fun a K => g1 K rfl fun a K => pkF K rfl rfl rfl fun a K => asg K rfl fun a K => wn <| wt ?_
     obtain rfl := oi hm
     exact fr f247 K (St.sel [] rfl h) rfl ⟨rfl, ⟨⟩⟩ ⟨rfl, rfl⟩
   refine g1 K c_2 fun a K => g1 K c_2 fun a K => pkF K rfl c_2 rfl fun a K => mv K rfl fun a K => g1 K rfl fun a K => g1 K rfl fun a K => pkF K rfl rfl rfl fun a K => mv K rfl fun a K => g1 K rfl fun a K => g1 K rfl fun a K => g1 K rfl fun a K => pkF K rfl rfl rfl fun a K => asg K rfl fun a K => wn <| wt ?_
   obtain rfl := oi hm
   exact fr f247 K (St.sel [] rfl h) rfl ⟨rfl, ⟨⟩⟩ ⟨rfl, rfl⟩
 refine g1 K c_1 fun a K => g1 K c_1 fun a K => g1 K c_1 fun a K => pkF K rfl c_1 rfl fun a K => mv K rfl fun a K => g1 K rfl fun a K => g1 K rfl fun a K => pkF K rfl rfl rfl fun a K => mv K rfl fun a K => g1 K rfl fun a K => g1 K rfl fun a K => pkF K rfl rfl rfl fun a K => mv K rfl fun a K => g1 K rfl fun a K => g1 K rfl fun a K => g1 K rfl fun a K => pkF K rfl rfl rfl fun a K => asg K rfl fun a K => wn <| wt ?_
 obtain rfl := oi hm
 exact fr f247 K (St.sel [] rfl h) rfl ⟨rfl, ⟨⟩⟩ ⟨rfl, rfl⟩
abbrev R181 (r : Bool) (v : Value) (H : Gh) : Prop := v = .bool r
instance monR181 {r : Bool} : MonR (R181 r) := ⟨fun _ _ _ _ h => h⟩
theorem c181 {p0 : ByteArray} {p1 : Int} {r : Bool} (hm : m181 p0 p1 = some r) (h : St c G0 w []) : Calls prog 181 #[.string p0, .int .i64 p1] w (FO c [] (R181 r)) := by
 unfold m181 at hm
 refine enter (n := 15) func181 rfl rfl rfl fun a K => sl <| asg K rfl fun a K => nsl <| mv K rfl fun a K => ?_
 obtain ⟨x_1, hx_1, hm⟩ := bs hm
 refine clp K h rfl b247 (fun h => c247 hx_1 h) fun a w v G1 K e_1 h hR_2 => ?_
 obtain rfl := hR_2
 refine mv K rfl fun a K => ?_
 rcases im hm with ⟨c_3, hm⟩ | ⟨c_3, hm⟩
 · refine g2 K c_3 <| mv K rfl fun a K => g2 K c_3 <| binC _ K rfl rfl rfl fun a K => pkT K rfl c_3 rfl fun a K => mv K rfl fun a K => ?_
   rcases im hm with ⟨c_4, hm⟩ | ⟨c_4, hm⟩
   · refine g2 K c_4 <| mv K rfl fun a K => g2 K c_4 <| binC _ K rfl rfl rfl fun a K => pkT K rfl c_4 rfl fun a K => asg K rfl fun a K => wn <| wt ?_
     obtain rfl := oi hm
     exact fr f181 K (St.sel [] rfl h) rfl ⟨rfl, ⟨⟩⟩ ⟨rfl, rfl⟩
   refine g1 K c_4 fun a K => g1 K c_4 fun a K => pkF K rfl c_4 rfl fun a K => asg K rfl fun a K => wn <| wt ?_
   obtain rfl := oi hm
   exact fr f181 K (St.sel [] rfl h) rfl ⟨rfl, ⟨⟩⟩ ⟨rfl, rfl⟩
 refine g1 K c_3 fun a K => g1 K c_3 fun a K => pkF K rfl c_3 rfl fun a K => mv K rfl fun a K => g1 K rfl fun a K => g1 K rfl fun a K => pkF K rfl rfl rfl fun a K => asg K rfl fun a K => wn <| wt ?_
 obtain rfl := oi hm
 exact fr f181 K (St.sel [] rfl h) rfl ⟨rfl, ⟨⟩⟩ ⟨rfl, rfl⟩
abbrev R182 (r : Int) (v : Value) (H : Gh) : Prop := v = .int .i64 r
instance monR182 {r : Int} : MonR (R182 r) := ⟨fun _ _ _ _ h => h⟩
theorem c182 {p0 : (List UInt8)} {p1 : ByteArray} {p2 : ByteArray} {r : Int} (hm : m182 p0 p1 p2 = some r) {vp0 : Value} (hp0 : (a22.val G0 vp0 p0)) (h : St c G0 w []) : Calls prog 182 #[vp0, .string p1, .string p2] w (FO c [] (R182 r)) := by
 unfold m182 at hm
 refine enter (n := 22) func182 rfl rfl rfl fun a K => sl <| boxr K h rfl hp0 fun a w v_1 G1 K e_1 h q_2 => asg K rfl fun a K => wn <| ws <| sl <| mv K rfl fun a K => mv K rfl fun a K => binS _ K rfl rfl rfl fun a K => wn <| ifm hm K rfl (fun _ hm => ?_) fun _ hm => ?_
 · refine sl <| asg K rfl fun a K => wn <| wt ?_
   obtain rfl := oi hm
   exact fr f182 K (St.sel [] rfl h) rfl ⟨rfl, ⟨⟩⟩ ⟨rfl, rfl⟩
 refine wk <| ws ?_
 cases hm
abbrev R110 (r : Int) (v : Value) (H : Gh) : Prop := v = .int .i64 r
instance monR110 {r : Int} : MonR (R110 r) := ⟨fun _ _ _ _ h => h⟩
theorem c110 {p0 : (List UInt8)} {p1 : (List T87)} {r : Int} (hm : m110 p0 p1 = some r) {vp0 : Value} {vp1 : Value} (hp0 : (a22.val G0 vp0 p0)) (hp1 : ((kSl k87).val G0 vp1 p1)) (h : St c G0 w []) : Calls prog 110 #[vp0, vp1] w (FO c [] (R110 r)) := by
 unfold m110 at hm
 refine enter (n := 41) func110 rfl rfl rfl fun a K => sl <| boxr K h rfl hp0 fun a w v_1 G1 K e_1 h q_2 => asg K rfl fun a K => wn <| ws <| sl <| mv K rfl fun a K => ?_
 obtain ⟨x_3, hx_3, hm⟩ := bs hm
 refine clp K h rfl b117 (fun h => c117 hx_3 (Kd.val_mono e_1 hp1) h) fun a w v G2 K e_2 h hR_4 => ?_
 obtain rfl := hR_4
 refine binC _ K rfl rfl rfl fun a K => wn <| ifm hm K rfl (fun _ hm => ?_) fun _ hm => ?_
 · refine sl <| asg K rfl fun a K => wn <| wt ?_
   obtain rfl := oi hm
   exact fr f110 K (St.sel [] rfl h) rfl ⟨rfl, ⟨⟩⟩ ⟨rfl, rfl⟩
 refine wk <| ws <| sl <| mv K rfl fun a K => lenV K rfl (Kd.val_mono (Gh.trans e_1 e_2) hp1) rfl s85 fun a K => mv K rfl fun a K => wn <| wb ?_
 obtain ⟨y_287, hy_287, hm⟩ := bs hm
 refine loop (S := Int) (R := Unit ⊕ Int) (fun s_193 a w => Jn c G2 [] 41 [(1, vp1), (2, v_1), (4, .int .i64 0), (10, vp1), (11, .int .i64 (p1.length : Int)), (12, .int .i64 s_193)] a w) (fun (y : Unit ⊕ Int) e a w => match y with | .inl p_288 => e = .exit 0 ∧ Jn c G2 [] 41 [(4, .int .i64 0)] a w | .inr q => e = .ret ∧ bodyPost prog f110 (FO c [] (R110 q)) e a w) hy_287 ⟨G2, gr, (St.sel [] rfl h), (K.sub (so rfl))⟩ ?_ ?_
 · intro s_193 y_290 a w hm hI
   obtain ⟨G56, e_56, h, K⟩ := hI
   unfold m110_l_289 at hm
   refine sl <| binC _ K rfl rfl rfl fun a K => wn <| ws <| ifm hm K rfl (fun _ hm => ?_) fun _ hm => ?_
   · refine wk <| ws <| wb <| sl <| mv K rfl fun a K => ?_
     obtain ⟨g_292, hm⟩ := gs hm
     refine ixs K rfl (Kd.val_mono (Gh.trans e_1 (Gh.trans e_2 e_56)) hp1) rfl g_292 s85 t87 fun a v_293 K q_294 => ldr K h rfl q_294 t87 fun a v_295 K q_296 => alc K h z87 fun a w bk_297 K h => asg K rfl fun a K => sto 0 Ik87 ([(gt p1 s_193)]) K h rfl rfl rfl rfl q_296 t87 rfl rfl fun w h => wn <| ws ?_
     obtain ⟨x_306, hx_306, hm⟩ := bs hm
     obtain ⟨x_318, hx_318, hm⟩ := nm_some hm
     obtain ⟨g_331, hm⟩ := gs hm
     obtain ⟨g_357, hm⟩ := gs hm
     obtain ⟨x_368, hx_368, hm⟩ := nm_some hm
     obtain ⟨x_374, hx_374, hm⟩ := nm_some hm
     refine wh 23 [fE _, fE _, fE _, fE _, (fE (.bool x_306)), fE _, fE _, (fG (!(!x_306)) (fE (.int .i64 s_193))), (fG (!(!x_306)) (fE (.bool (decide (s_193 > 0))))), (fG (!(!x_306)) (fE (.bool x_318))), (fG ((!(!x_306)) && x_318) (fT a22 p0)), (fG ((!(!x_306)) && x_318) (fT (kSl k87) p1)), (fG ((!(!x_306)) && x_318) (fE (.int .i64 s_193))), (fG ((!(!x_306)) && x_318) (fE (.int .i64 (wr (s_193 - 1))))), (fG ((!(!x_306)) && x_318) (fT (kRef k87) (gt p1 (wr (s_193 - 1))))), (fG ((!(!x_306)) && x_318) (fT (kRef kStr) ((gt p1 (wr (s_193 - 1))).Name))), (fG ((!(!x_306)) && x_318) (fE (.string ((gt p1 (wr (s_193 - 1))).Name)))), (fG ((!(!x_306)) && x_318) (fE (pA bk_297 J87_0))), (fG ((!(!x_306)) && x_318) (fE (.string ((gt p1 s_193).Name)))), (fG ((!(!x_306)) && x_318) (fE (.int .i64 (ov (m182 p0 ((gt p1 (wr (s_193 - 1))).Name) ((gt p1 s_193).Name)))))), (fG ((!(!x_306)) && x_318) (fE (.bool (decide ((ov (m182 p0 ((gt p1 (wr (s_193 - 1))).Name) ((gt p1 s_193).Name))) ≥ 0))))), (fG (!(!x_306)) (fE (.bool x_368))), (fE (.bool x_374))] [(1, _), (2, _), (4, _), (5, _), (6, _), (10, _), (11, _), (12, _), (13, _), (14, _), (15, _), (16, _)] mx K h (so rfl) ⟨hpX [(6, _)] (fun s _ => ⟨s.2.2.2.2.1, ⟨⟩⟩) fun _ _ K t => fa F87_0 K rfl o87_0 t, hpX [(17, _)] k1 fun _ h K t => ld1 0 J87_0 (.string ((gt p1 s_193).Name)) K h rfl rfl rfl t9 vS t, hpX [(6, _)] (fun s _ => ⟨s.2.2.2.2.1, ⟨⟩⟩) fun _ _ K t => fa F87_1 K rfl o87_1 t, hpX [(19, _)] k1 fun _ h K t => ld1 0 J87_1 (.int .i64 ((gt p1 s_193).Inode)) K h rfl rfl rfl t3 vI t, ?_, hpX [(21, _)] k1 fun _ _ K t => notB _ K rfl rfl t, hpX [(22, _)] k1 fun _ _ K t => mv K rfl t, Hp.gd 0 rfl rfl rfl rfl rfl rfl gE_f rfl (fun hc => hpX [(5, _)] (fun s _ => ⟨s.2.2.2.1, ⟨⟩⟩) fun _ _ K t => mv K rfl t) nilE, ?_, ?_, Hp.gd 0 rfl rfl rfl rfl rfl rfl gG_t rfl (fun hc => hpT [(2, _)] (fun s _ => ⟨s.2.1, ⟨⟩⟩) fun e h K t => ldr K h rfl (Kd.val_mono (Gh.trans e_2 (Gh.trans e_56 e)) q_2) t22 t) nilT, ?_, Hp.gd 0 rfl rfl rfl rfl rfl rfl gG_t rfl (fun hc => hpX [(5, _)] (fun s _ => ⟨s.2.2.2.1, ⟨⟩⟩) fun _ _ K t => mv K rfl t) nilE, ?_, ?_, ?_, ?_, Hp.gd 0 rfl rfl rfl rfl rfl rfl gG_t rfl (fun hc => hpX [(6, _)] (fun s _ => ⟨s.2.2.2.2.1, ⟨⟩⟩) fun _ _ K t => fa F87_0 K rfl o87_0 t) nilE, ?_, ?_, ?_, ?_, ?_, ⟨⟩⟩ ?_
     · intro a w G88 L X e_88 h K hs hk
       obtain ⟨v_302, _, l_303, -, rfl⟩ := hk.1
       obtain ⟨v_304, _, l_305, -, rfl⟩ := hk.2.1
       have hx : Sy.sub L [(18, .string ((gt p1 s_193).Name)), (20, .int .i64 ((gt p1 s_193).Inode))] := ⟨l_303, l_305, ⟨⟩⟩
       replace K := K.addx _ hx
       refine clp K h rfl b181 (fun h => c181 hx_306 h) fun a w v G89 K e_89 h hR_307 => ?_
       obtain rfl := hR_307
       refine wn <| ⟨rfl, G89, [], e_89, h, _, K.dropx _ hx, ⟨rfl, rfl⟩⟩
     · refine Hp.gd 1 rfl rfl rfl rfl rfl rfl gE_f rfl (fun hc => ?_) nilE
       intro a w G93 L X e_93 h K hs hk
       obtain ⟨v_312, _, l_313, -, f_314, -⟩ := hk.1
       obtain ⟨-, rfl⟩ := f_314 hc
       have hx : Sy.sub L [(24, .int .i64 s_193)] := ⟨l_313, ⟨⟩⟩
       replace K := K.addx _ hx
       refine binC _ K rfl rfl rfl fun a K => wn <| ⟨rfl, G93, [], gr, h, _, K.dropx _ hx, ⟨rfl, rfl⟩⟩
     · refine Hp.gd 1 rfl rfl rfl rfl rfl rfl gE_f rfl (fun hc => ?_) nilE
       intro a w G94 L X e_94 h K hs hk
       obtain ⟨v_315, _, l_316, -, f_317, -⟩ := hk.1
       obtain ⟨-, rfl⟩ := f_317 hc
       have hx : Sy.sub L [(25, .bool (decide (s_193 > 0)))] := ⟨l_316, ⟨⟩⟩
       replace K := K.addx _ hx
       refine mv K rfl fun a K => wn <| ⟨rfl, G94, [], gr, h, _, K.dropx _ hx, ⟨rfl, congrArg Value.bool hx_318.symm⟩⟩
     · refine Hp.gd 0 rfl rfl rfl rfl rfl rfl gG_t rfl (fun hc => ?_) nilT
       intro a w G96 L X e_96 h K hs hk
       have hx : Sy.sub L [(1, vp1)] := ⟨hs.1, ⟨⟩⟩
       replace K := K.addx _ hx
       refine mv K rfl fun a K => wn <| ⟨rfl, G96, [], gr, h, _, K.dropx _ hx, ⟨rfl, (Kd.val_mono (Gh.trans e_1 (Gh.trans e_2 (Gh.trans e_56 e_96))) hp1)⟩⟩
     · refine Hp.gd 1 rfl rfl rfl rfl rfl rfl gG_t rfl (fun hc => ?_) nilE
       intro a w G98 L X e_98 h K hs hk
       obtain ⟨v_321, _, l_322, -, f_323, -⟩ := hk.1
       obtain ⟨-, rfl⟩ := f_323 hc
       have hx : Sy.sub L [(29, .int .i64 s_193)] := ⟨l_322, ⟨⟩⟩
       replace K := K.addx _ hx
       refine binI _ K rfl rfl rfl fun a K => wn <| ⟨rfl, G98, [], gr, h, _, K.dropx _ hx, ⟨rfl, rfl⟩⟩
     · refine Hp.gd 2 rfl rfl rfl rfl rfl rfl gG_t rfl (fun hc => ?_) nilT
       intro a w G99 L X e_99 h K hs hk
       obtain ⟨v_324, _, l_325, -, f_326, -⟩ := hk.1
       obtain ⟨-, q_327⟩ := f_326 hc
       obtain ⟨v_328, _, l_329, -, f_330, -⟩ := hk.2.1
       obtain ⟨-, rfl⟩ := f_330 hc
       have hx : Sy.sub L [(28, v_324), (30, .int .i64 (wr (s_193 - 1)))] := ⟨l_325, l_329, ⟨⟩⟩
       replace K := K.addx _ hx
       refine ixs K rfl q_327 rfl (orr g_331 hc) s85 t87 fun a v_332 K q_333 => wn <| ⟨rfl, G99, [], gr, h, _, K.dropx _ hx, ⟨rfl, q_333⟩⟩
     · refine Hp.gd 1 rfl rfl rfl rfl rfl rfl gG_t rfl (fun hc => ?_) nilT
       intro a w G100 L X e_100 h K hs hk
       obtain ⟨v_334, _, l_335, -, f_336, -⟩ := hk.1
       obtain ⟨-, q_337⟩ := f_336 hc
       have hx : Sy.sub L [(31, v_334)] := ⟨l_335, ⟨⟩⟩
       replace K := K.addx _ hx
       refine far F87_0 K rfl q_337 o87_0 fun a v_338 K q_339 => ?_
       replace q_339 : (kRef kStr).val _ v_338 ((gt p1 (wr (s_193 - 1))).Name) := q_339
       refine wn <| ⟨rfl, G100, [], gr, h, _, K.dropx _ hx, ⟨rfl, q_339⟩⟩
     · refine Hp.gd 1 rfl rfl rfl rfl rfl rfl gG_t rfl (fun hc => ?_) nilE
       intro a w G101 L X e_101 h K hs hk
       obtain ⟨v_340, _, l_341, -, f_342, -⟩ := hk.1
       obtain ⟨-, q_343⟩ := f_342 hc
       have hx : Sy.sub L [(32, v_340)] := ⟨l_341, ⟨⟩⟩
       replace K := K.addx _ hx
       refine ldr1 (.string ((gt p1 (wr (s_193 - 1))).Name)) K h rfl q_343 t9 vS fun a K => wn <| ⟨rfl, G101, [], gr, h, _, K.dropx _ hx, ⟨rfl, rfl⟩⟩
     · refine Hp.gd 1 rfl rfl rfl rfl rfl rfl gG_t rfl (fun hc => ?_) nilE
       intro a w G103 L X e_103 h K hs hk
       obtain ⟨v_344, _, l_345, -, f_346, -⟩ := hk.1
       obtain ⟨-, rfl⟩ := f_346 hc
       have hx : Sy.sub L [(34, (pA bk_297 J87_0))] := ⟨l_345, ⟨⟩⟩
       replace K := K.addx _ hx
       refine ld1 0 J87_0 (.string ((gt p1 s_193).Name)) K h rfl rfl rfl t9 vS fun a K => wn <| ⟨rfl, G103, [], gr, h, _, K.dropx _ hx, ⟨rfl, rfl⟩⟩
     · refine Hp.gd 3 rfl rfl rfl rfl rfl rfl gG_t rfl (fun hc => ?_) nilE
       intro a w G104 L X e_104 h K hs hk
       obtain ⟨v_347, _, l_348, -, f_349, -⟩ := hk.1
       obtain ⟨-, q_350⟩ := f_349 hc
       obtain ⟨v_351, _, l_352, -, f_353, -⟩ := hk.2.1
       obtain ⟨-, rfl⟩ := f_353 hc
       obtain ⟨v_354, _, l_355, -, f_356, -⟩ := hk.2.2.1
       obtain ⟨-, rfl⟩ := f_356 hc
       have hx : Sy.sub L [(27, v_347), (33, .string ((gt p1 (wr (s_193 - 1))).Name)), (35, .string ((gt p1 s_193).Name))] := ⟨l_348, l_352, l_355, ⟨⟩⟩
       replace K := K.addx _ hx
       refine clp K h rfl b182 (fun h => c182 (ovs (orr g_357 hc)) q_350 h) fun a w v G105 K e_105 h hR_358 => ?_
       obtain rfl := hR_358
       refine wn <| ⟨rfl, G105, [], e_105, h, _, K.dropx _ hx, ⟨rfl, rfl⟩⟩
     · refine Hp.gd 1 rfl rfl rfl rfl rfl rfl gG_t rfl (fun hc => ?_) nilE
       intro a w G106 L X e_106 h K hs hk
       obtain ⟨v_359, _, l_360, -, f_361, -⟩ := hk.1
       obtain ⟨-, rfl⟩ := f_361 hc
       have hx : Sy.sub L [(36, .int .i64 (ov (m182 p0 ((gt p1 (wr (s_193 - 1))).Name) ((gt p1 s_193).Name))))] := ⟨l_360, ⟨⟩⟩
       replace K := K.addx _ hx
       refine binC _ K rfl rfl rfl fun a K => wn <| ⟨rfl, G106, [], gr, h, _, K.dropx _ hx, ⟨rfl, rfl⟩⟩
     · refine Hp.gd 2 rfl rfl rfl rfl rfl rfl gE_f rfl (fun hc => ?_) nilE
       intro a w G107 L X e_107 h K hs hk
       obtain ⟨v_362, _, l_363, -, f_364, -⟩ := hk.1
       obtain ⟨-, rfl⟩ := f_364 hc
       obtain ⟨v_365, _, l_366, -, f_367, -⟩ := hk.2.1
       have hx : Sy.sub L [(26, .bool x_318), (37, v_365)] := ⟨l_363, l_366, ⟨⟩⟩
       replace K := K.addx _ hx
       refine pickAnd K rfl rfl rfl (fun hA => (f_367 (and_i hc hA)).2) fun a K => wn <| ⟨rfl, G107, [], gr, h, _, K.dropx _ hx, ⟨rfl, congrArg Value.bool hx_368.symm⟩⟩
     · intro a w G108 L X e_108 h K hs hk
       obtain ⟨v_369, _, l_370, -, rfl⟩ := hk.1
       obtain ⟨v_371, _, l_372, -, f_373, -⟩ := hk.2.1
       have hx : Sy.sub L [(23, .bool (!x_306)), (38, v_371)] := ⟨l_370, l_372, ⟨⟩⟩
       replace K := K.addx _ hx
       refine pickOr K rfl rfl rfl (fun hA => (f_373 (not_f hA)).2) fun a K => wn <| ⟨rfl, G108, [], gr, h, _, K.dropx _ hx, ⟨rfl, congrArg Value.bool hx_374.symm⟩⟩
     intro a w G109 L e_109 h K hs hg
     replace K := K.sub (l' := [(17, _), (18, _), (19, _), (20, _), (21, _), (22, _), (23, _), (39, _), (1, _), (2, _), (4, _), (5, _), (6, _), (10, _), (11, _), (12, _), (13, _), (14, _), (15, _), (16, _)]) ⟨gE (hg 0 rfl rfl), gE (hg 1 rfl rfl), gE (hg 2 rfl rfl), gE (hg 3 rfl rfl), gE (hg 4 rfl rfl), gE (hg 5 rfl rfl), gE (hg 6 rfl rfl), gE (hg 22 rfl rfl), hs.1, hs.2.1, hs.2.2.1, hs.2.2.2.1, hs.2.2.2.2.1, hs.2.2.2.2.2.1, hs.2.2.2.2.2.2.1, hs.2.2.2.2.2.2.2.1, hs.2.2.2.2.2.2.2.2.1, hs.2.2.2.2.2.2.2.2.2.1, hs.2.2.2.2.2.2.2.2.2.2.1, hs.2.2.2.2.2.2.2.2.2.2.2.1, ⟨⟩⟩
     refine wn <| ifm hm K rfl (fun _ hm => ?_) fun _ hm => ?_
     · refine sl <| asg K rfl fun a K => wn <| wt ?_
       obtain rfl := oi hm
       exact ⟨by simp, rfl, (fr f110 K (St.sel [] rfl h) rfl ⟨rfl, ⟨⟩⟩ ⟨rfl, rfl⟩)⟩
     refine wk <| wl <| binI _ K rfl rfl rfl fun a K => mv K rfl fun a K => wn ?_
     obtain rfl := oi hm
     exact ⟨rfl, ⟨G109, (Gh.trans e_56 e_109), (St.sel [] rfl h), (K.sub (so rfl))⟩⟩
   refine wp_exit ?_
   obtain rfl := oi hm
   exact ⟨by simp, rfl, ⟨G56, e_56, (St.sel [] rfl h), (K.sub ⟨rfl, ⟨⟩⟩)⟩⟩
 intro e a w hD
 rcases y_287 with p_288 | q_384
 · simp only [Sum.elim_inl, Sum.elim_inr] at hm
   obtain ⟨rfl, ⟨G83, e_83, h, K⟩⟩ := hD
   refine sl <| asg K rfl fun a K => wn <| wt ?_
   obtain rfl := oi hm
   exact fr f110 K (St.sel [] rfl h) rfl ⟨rfl, ⟨⟩⟩ ⟨rfl, rfl⟩
 simp only [Sum.elim_inr] at hm
 obtain rfl := oi hm
 obtain ⟨rfl, hD⟩ := hD
 exact hD
abbrev R309 (r : Int) (v : Value) (H : Gh) : Prop := v = .int .i64 r
instance monR309 {r : Int} : MonR (R309 r) := ⟨fun _ _ _ _ h => h⟩
theorem c309 {p0 : T87} {p1 : ByteArray} {pc0 : (List UInt8)} {r : Int} (hm : m309 p0 p1 pc0 = some r) {vp0 : Value} {vc0 : Value} (hp0 : (k87.val G0 vp0 p0)) (hc0 : ((kRef a22).val G0 vc0 pc0)) (h : St c G0 w []) : Calls prog 309 #[vp0, .string p1, vc0] w (FO c [] (R309 r)) := by
 unfold m309 at hm
 refine enter (n := 11) func309 rfl rfl rfl fun a K => sl <| boxr K h rfl hp0 fun a w v_1 G1 K e_1 h q_2 => asg K rfl fun a K => nsl <| ldr K h rfl (Kd.val_mono e_1 hc0) t22 fun a v_3 K q_4 => far F87_0 K rfl q_2 o87_0 fun a v_5 K q_6 => ldr1 (.string p0.Name) K h rfl q_6 t9 vS fun a K => mv K rfl fun a K => ?_
 obtain ⟨x_7, hx_7, hm⟩ := bs hm
 refine clp K h rfl b182 (fun h => c182 hx_7 q_4 h) fun a w v G2 K e_2 h hR_8 => ?_
 obtain rfl := hR_8
 refine asg K rfl fun a K => wn <| wt ?_
 obtain rfl := oi hm
 exact fr f309 K (St.sel [] rfl h) rfl ⟨rfl, ⟨⟩⟩ ⟨rfl, rfl⟩
abbrev R308_309 (r : Int × Bool) (v : Value) (H : Gh) : Prop := v = .tuple #[.int .i64 r.1, .bool r.2]
instance monR308_309 {r : Int × Bool} : MonR (R308_309 r) := ⟨fun _ _ _ _ h => h⟩
theorem c308_309 {p0 : (List T87)} {p1 : ByteArray} {p2c0 : (List UInt8)} {r : Int × Bool} (hm : m308_309 p0 p1 p2c0 = some r) {vp0 : Value} {vp2c0 : Value} (hp0 : ((kSl k87).val G0 vp0 p0)) (hp2c0 : ((kRef a22).val G0 vp2c0 p2c0)) (h : St c G0 w []) : Calls prog 308 #[vp0, .string p1, .func (.func 309) #[] #[vp2c0]] w (FO c [] (R308_309 r)) := by
 unfold m308_309 at hm
 refine enter (n := 49) func308 rfl rfl rfl fun a K => sl <| asg K rfl fun a K => asg K rfl fun a K => nsl <| mv K rfl fun a K => lenV K rfl hp0 rfl s85 fun a K => asg K rfl fun a K => nsl <| mv K rfl fun a K => asg K rfl fun a K => asg K rfl fun a K => wn <| ws <| wb ?_
 obtain ⟨p_31, hp_31, hm⟩ := bs hm
 refine loop (S := Int × Int) (R := Int) (fun s_20 a w => Jn c G0 [] 49 [(0, vp0), (1, .string p1), (2, .func (.func 309) #[] #[vp2c0]), (6, .int .i64 0), (7, .bool false), (8, .int .i64 (p0.length : Int)), (9, .int .i64 s_20.1), (10, .int .i64 s_20.2)] a w) (fun (p_31 : Int) e a w => e = .exit 0 ∧ Jn c G0 [] 49 [(0, vp0), (1, .string p1), (2, .func (.func 309) #[] #[vp2c0]), (6, .int .i64 0), (7, .bool false), (8, .int .i64 (p0.length : Int)), (9, .int .i64 p_31)] a w) hp_31 ⟨G0, gr, (St.sel [] rfl h), (K.sub (so rfl))⟩ ?_ ?_
 · intro s_20 y_33 a w hm hI
   obtain ⟨G4, e_4, h, K⟩ := hI
   unfold m308_309_l_32 at hm
   refine ws <| sl <| mv K rfl fun a K => mv K rfl fun a K => binC _ K rfl rfl rfl fun a K => wn <| ifm hm K rfl (fun _ hm => ?_) fun _ hm => ?_
   · refine wk <| wb <| sl <| mv K rfl fun a K => mv K rfl fun a K => binI _ K rfl rfl rfl fun a K => cvtI _ K rfl ⟨_, u3⟩ u80 rfl fun a K => binShr _ K rfl rfl rfl rfl fun a K => cvtI _ K rfl ⟨_, u80⟩ u3 rfl fun a K => asg K rfl fun a K => nsl <| mv K rfl fun a K => mv K rfl fun a K => mv K rfl fun a K => ?_
     obtain ⟨g_35, hm⟩ := gs hm
     refine ixs K rfl (Kd.val_mono e_4 hp0) rfl g_35 s85 t87 fun a v_36 K q_37 => ldr K h rfl q_37 t87 fun a v_38 K q_39 => mv K rfl fun a K => ?_
     obtain ⟨x_40, hx_40, hm⟩ := bs hm
     refine clvp K h rfl rfl b309 (fun h => c309 hx_40 q_39 (Kd.val_mono e_4 hp2c0) h) fun a w v G7 K e_7 h hR_41 => ?_
     obtain rfl := hR_41
     refine binC _ K rfl rfl rfl fun a K => wn <| ifm hm K rfl (fun _ hm => ?_) fun _ hm => ?_
     · refine wl <| mv K rfl fun a K => binI _ K rfl rfl rfl fun a K => asg K rfl fun a K => wn ?_
       obtain rfl := oi hm
       exact ⟨rfl, ⟨G7, (Gh.trans e_4 e_7), (St.sel [] rfl h), (K.sub (so rfl))⟩⟩
     refine wl <| mv K rfl fun a K => asg K rfl fun a K => wn ?_
     obtain rfl := oi hm
     exact ⟨rfl, ⟨G7, (Gh.trans e_4 e_7), (St.sel [] rfl h), (K.sub (so rfl))⟩⟩
   refine wp_exit ?_
   obtain rfl := oi hm
   exact ⟨by simp, rfl, ⟨G4, e_4, (St.sel [] rfl h), (K.sub (so rfl))⟩⟩
 intro e a w hD
 obtain ⟨rfl, ⟨G6, e_6, h, K⟩⟩ := hD
 refine sl <| mv K rfl fun a K => mv K rfl fun a K => mv K rfl fun a K => binC _ K rfl rfl rfl fun a K => mv K rfl fun a K => ?_
 rcases im hm with ⟨c_43, hm⟩ | ⟨c_43, hm⟩
 · refine g2 K c_43 <| mv K rfl fun a K => g2 K c_43 <| mv K rfl fun a K => g2 K c_43 <| mv K rfl fun a K => gy K rfl rfl c_43 ?_
   obtain ⟨g_44, hm⟩ := gs hm
   refine ixs K rfl (Kd.val_mono e_6 hp0) rfl g_44 s85 t87 fun a v_45 K q_46 => g2 K c_43 <| ldr K h rfl q_46 t87 fun a v_47 K q_48 => g2 K c_43 <| mv K rfl fun a K => gy K rfl rfl c_43 ?_
   obtain ⟨x_49, hx_49, hm⟩ := bs hm
   refine clvp K h rfl rfl b309 (fun h => c309 hx_49 q_48 (Kd.val_mono e_6 hp2c0) h) fun a w v G8 K e_8 h hR_50 => ?_
   obtain rfl := hR_50
   refine g2 K c_43 <| binC _ K rfl rfl rfl fun a K => pkT K rfl c_43 rfl fun a K => asg K rfl fun a K => asg K rfl fun a K => wn <| wt ?_
   obtain rfl := oi hm
   exact fi f308 [_, _] K (St.sel [] rfl h) rfl ⟨rfl, rfl, ⟨⟩⟩ (.inl rfl) ⟨rfl, rfl⟩
 refine g1 K c_43 fun a K => g1 K c_43 fun a K => g1 K c_43 fun a K => g1 K c_43 fun a K => g1 K c_43 fun a K => g1 K c_43 fun a K => g1 K c_43 fun a K => g1 K c_43 fun a K => pkF K rfl c_43 rfl fun a K => asg K rfl fun a K => asg K rfl fun a K => wn <| wt ?_
 obtain rfl := oi hm
 exact fi f308 [_, _] K (St.sel [] rfl h) rfl ⟨rfl, rfl, ⟨⟩⟩ (.inl rfl) ⟨rfl, rfl⟩
abbrev R283 (r : Int × Bool) (v : Value) (H : Gh) : Prop := v = .tuple #[.int .i64 r.1, .bool r.2]
instance monR283 {r : Int × Bool} : MonR (R283 r) := ⟨fun _ _ _ _ h => h⟩
theorem c283 {p0 : (List UInt8)} {p1 : (List T87)} {p2 : ByteArray} {r : Int × Bool} (hm : m283 p0 p1 p2 = some r) {vp0 : Value} {vp1 : Value} (hp0 : (a22.val G0 vp0 p0)) (hp1 : ((kSl k87).val G0 vp1 p1)) (h : St c G0 w []) : Calls prog 283 #[vp0, vp1, .string p2] w (FO c [] (R283 r)) := by
 unfold m283 at hm
 refine enter (n := 14) func283 rfl rfl rfl fun a K => sl <| boxr K h rfl hp0 fun a w v_1 G1 K e_1 h q_2 => asg K rfl fun a K => asg K rfl fun a K => nsl <| mv K rfl fun a K => mv K rfl fun a K => mkfn (us := #[]) (vs := #[v_1]) K (by simp) (by simp only [List.map_toArray, List.map_cons, List.map_nil, K.eval (x := .tmp 3) rfl]) fun a K => ?_
 obtain ⟨x_3, hx_3, hm⟩ := bs hm
 refine clp K h rfl b308 (fun h => c308_309 hx_3 (Kd.val_mono e_1 hp1) q_2 h) fun a w v G2 K e_2 h hR_4 => ?_
 obtain rfl := hR_4
 refine extr K rfl rfl fun a K => extr K rfl rfl fun a K => asg K rfl fun a K => asg K rfl fun a K => wn <| wt ?_
 obtain rfl := oi hm
 exact fi f283 [_, _] K (St.sel [] rfl h) rfl ⟨rfl, rfl, ⟨⟩⟩ (.inl rfl) ⟨rfl, rfl⟩
abbrev R231 (r : Int × Int) (v : Value) (H : Gh) : Prop := v = .tuple #[.int .i64 r.1, .int .i64 r.2]
instance monR231 {r : Int × Int} : MonR (R231 r) := ⟨fun _ _ _ _ h => h⟩
theorem c231 {p0 : (List UInt8)} {p1 : (List T87)} {p2 : ByteArray} {r : Int × Int} (hm : m231 p0 p1 p2 = some r) {vp0 : Value} {vp1 : Value} (hp0 : (a22.val G0 vp0 p0)) (hp1 : ((kSl k87).val G0 vp1 p1)) (h : St c G0 w []) : Calls prog 231 #[vp0, vp1, .string p2] w (FO c [] (R231 r)) := by
 unfold m231 at hm
 refine enter (n := 31) func231 rfl rfl rfl fun a K => sl <| boxr K h rfl hp0 fun a w v_1 G1 K e_1 h q_2 => asg K rfl fun a K => asg K rfl fun a K => wn <| ws <| sl <| ldr K h rfl q_2 t22 fun a v_3 K q_4 => mv K rfl fun a K => ?_
 obtain ⟨x_5, hx_5, hm⟩ := bs hm
 refine clp K h rfl b110 (fun h => c110 hx_5 q_4 (Kd.val_mono e_1 hp1) h) fun a w v G2 K e_2 h hR_6 => ?_
 obtain rfl := hR_6
 refine asg K rfl fun a K => nsl <| mv K rfl fun a K => binC _ K rfl rfl rfl fun a K => wn <| ifm hm K rfl (fun _ hm => ?_) fun _ hm => ?_
 · refine sl <| mv K rfl fun a K => asg K rfl fun a K => asg K rfl fun a K => wn <| wt ?_
   obtain rfl := oi hm
   exact fi f231 [_, _] K (St.sel [] rfl h) rfl ⟨rfl, rfl, ⟨⟩⟩ (.inl rfl) ⟨rfl, rfl⟩
 refine wk <| sl <| ldr K h rfl (Kd.val_mono e_2 q_2) t22 fun a v_8 K q_9 => mv K rfl fun a K => mv K rfl fun a K => ?_
 obtain ⟨x_10, hx_10, hm⟩ := bs hm
 refine clp K h rfl b283 (fun h => c283 hx_10 q_9 (Kd.val_mono (Gh.trans e_1 e_2) hp1) h) fun a w v G3 K e_3 h hR_11 => ?_
 obtain rfl := hR_11
 refine mv K rfl fun a K => extr K rfl rfl fun a K => extr K rfl rfl fun a K => asg K rfl fun a K => asg K rfl fun a K => wn <| ws <| sl <| mv K rfl fun a K => notB _ K rfl rfl fun a K => wn <| ifm hm K rfl (fun _ hm => ?_) fun _ hm => ?_
 · refine sl <| asg K rfl fun a K => asg K rfl fun a K => wn <| wt ?_
   obtain rfl := oi hm
   exact fi f231 [_, _] K (St.sel [] rfl h) rfl ⟨rfl, rfl, ⟨⟩⟩ (.inl rfl) ⟨rfl, rfl⟩
 refine wk <| sl <| mv K rfl fun a K => mv K rfl fun a K => ?_
 obtain ⟨g_13, hm⟩ := gs hm
 refine ixs K rfl (Kd.val_mono (Gh.trans e_1 (Gh.trans e_2 e_3)) hp1) rfl g_13 s85 t87 fun a v_14 K q_15 => far F87_1 K rfl q_15 o87_1 fun a v_16 K q_17 => ldr1 (.int .i64 ((gt p1 x_10.1).Inode)) K h rfl q_17 t3 vI fun a K => asg K rfl fun a K => asg K rfl fun a K => wn <| wt ?_
 obtain rfl := oi hm
 exact fi f231 [_, _] K (St.sel [] rfl h) rfl ⟨rfl, rfl, ⟨⟩⟩ (.inl rfl) ⟨rfl, rfl⟩
abbrev R159 (r : T210 × Int) (v : Value) (H : Gh) : Prop := ∃ u0, v = .tuple #[u0, .int .i64 r.2] ∧ k210.val H u0 r.1
instance monR159 {r : T210 × Int} : MonR (R159 r) := by
 constructor
 rintro G H v e ⟨u0, rfl, q0⟩
 exact ⟨u0, rfl, Kd.val_mono e q0⟩
theorem c159 {p0 : T103} {p1 : T45} {p2 : ByteArray} {p3 : Bool} {B0 q0 q1 q2 n0 n1 n2 : Nat} {r : T210 × Int} (hm : m159 p0 p1 p2 p3 = some r) {vp1 : Value} (hp1 : (k45.val G0 vp1 p1)) (h : St c G0 w ((o3 B0 q0 q1 q2 n0 n1 n2 p0))) : Calls prog 159 #[(pA B0 Ik103o), vp1, .string p2, .bool p3] w (FO c (o3 B0 q0 q1 q2 n0 n1 n2 p0) (R159 r)) := by
 unfold m159 at hm
 refine enter (n := 152) func159 rfl rfl rfl fun a K => sl <| boxr K h rfl hp1 fun a w v_1 G1 K e_1 h q_2 => alc K h z210 fun a w bk_3 K h => asg K rfl fun a K => wn <| wp_scope_straight <| sl <| mv K rfl fun a K => ?_
 obtain ⟨x_4, hx_4, hm⟩ := bs hm
 refine clp K h rfl b230 (fun h => c230 hx_4 h) fun a w v G2 K e_2 h hR_5 => ?_
 obtain ⟨v_6, rfl, q_7⟩ := hR_5
 refine mv K rfl fun a K => extr K rfl rfl fun a K => extr K rfl rfl fun a K => asg K rfl fun a K => asg K rfl fun a K => wn <| ws <| sl <| mv K rfl fun a K => binC _ K rfl rfl rfl fun a K => wn <| ifm hm K rfl (fun _ hm => ?_) fun _ hm => ?_
 · refine sl <| bld Z210 K h rfl pl210 rfl z210 .nil fun a v_9 K q_10 => mv K rfl fun a K => sto 0 Ik210 ([Z210]) K h rfl rfl rfl rfl q_10 t210 rfl rfl fun w h => asg K rfl fun a K => wn <| wt ?_
   obtain ⟨v_11, q_12, rb_13⟩ := resOwn (P := prog) (i := 0) (p := 8) 0 Ik210 h rfl (K.lk_eq 8 rfl) rfl t210
   obtain rfl := oi hm
   exact fi f159 [_, _] K (St.sel [1, 2, 3, 4] rfl h) rfl ⟨rb_13, rfl, ⟨⟩⟩ (.inl rfl) ⟨rfl, ⟨v_11, rfl, q_12⟩⟩
 refine wk <| sl <| bldS (f := (kInt .i64)) (by decide) [1] K h rfl s267 t3 rfl z3 (.cons (Fld.idx (kInt .i64) 0 (by decide)) rfl int_val .nil) fun a w bk_14 K h => asg K rfl fun a K => asg K rfl fun a K => wn <| ws <| wp_label <| ws <| wb ?_
 obtain ⟨y_496, hy_496, hm⟩ := bs hm
 refine loop (S := (List Int) × (List ByteArray)) (R := (List Int) ⊕ (T210 × Int)) (fun s_334 a w => ∃ (G74 : Gh) (bk_335 : Option Nat) (cp_336 : Nat) (v_337 : Value), Gh.le G2 G74 ∧ St c G74 w (⟨(kInt .i64), s_334.1, cp_336, bk_335, 3⟩ :: ⟨k210, [Z210], 1, (some bk_3), 210⟩ :: o3 B0 q0 q1 q2 n0 n1 n2 p0) ∧ Tm 152 a [(0, (pA B0 Ik103o)), (3, .bool p3), (5, v_1), (8, (pA bk_3 Ik210)), (9, .int .i64 0), (10, v_337), (12, hdr bk_335 s_334.1.length cp_336), (13, .int .i64 0)] ∧ ((kSl kStr)).val G74 v_337 s_334.2) (fun (y : (List Int) ⊕ (T210 × Int)) e a w => match y with | .inl p_497 => e = .exit 0 ∧ ∃ (G110 : Gh) (bk_498 : Option Nat) (cp_499 : Nat), Gh.le G2 G110 ∧ St c G110 w (⟨(kInt .i64), p_497, cp_499, bk_498, 3⟩ :: ⟨k210, [Z210], 1, (some bk_3), 210⟩ :: o3 B0 q0 q1 q2 n0 n1 n2 p0) ∧ Tm 152 a [(8, (pA bk_3 Ik210)), (9, .int .i64 0), (12, hdr bk_498 p_497.length cp_499)] | .inr q => e = .ret ∧ bodyPost prog f159 (FO c (o3 B0 q0 q1 q2 n0 n1 n2 p0) (R159 q)) e a w) hy_496 ⟨G2, (some bk_14), 1, v_6, gr, (St.sel [0, 1, 2, 3, 4, 5] rfl h), (K.sub (so rfl)), q_7⟩ ?_ ?_
 · intro s_334 y_501 a w hm hI
   obtain ⟨G74, bk_335, cp_336, v_337, e_74, h, K, q_338⟩ := hI
   unfold m159_l_500 at hm
   refine ws <| sl <| mv K rfl fun a K => lenV K rfl q_338 rfl s50 fun a K => binC _ K rfl rfl rfl fun a K => wn <| ifm hm K rfl (fun _ hm => ?_) fun _ hm => ?_
   · refine wk <| wb <| ws ?_
     obtain ⟨g_511, hm⟩ := gs hm
     obtain ⟨g_517, hm⟩ := gs hm
     refine wh 10 [fE _, fE _, fE _, fE _, fE _, fE _, (fT (kSl kStr) s_334.2), (fT (kRef kStr) (gt s_334.2 0)), fE _, fE _] [(0, _), (3, _), (5, _), (8, _), (9, _), (10, _), (12, _), (13, _), (33, _), (34, _), (35, _)] mx K h (so rfl) ⟨hpX [(12, _)] (fun s _ => ⟨s.2.2.2.2.2.2.1, ⟨⟩⟩) fun _ _ K t => mv K rfl t, hpX [(12, _)] (fun s _ => ⟨s.2.2.2.2.2.2.1, ⟨⟩⟩) fun _ _ K t => mv K rfl t, hpX [(37, _)] k1 fun _ _ K t => lenO K rfl rfl s267 t, hpX [(38, _)] k1 fun _ _ K t => binI _ K rfl rfl rfl t, hpX [(36, _), (39, _)] k2 fun _ h K t => ixoO 0 K h rfl rfl rfl rfl g_511 s267 t3 t, hpX [(40, _)] k1 fun _ h K t => ld1 0 (Fld.id (kInt .i64)) (.int .i64 (gt s_334.1 (wr ((s_334.1.length : Int) - 1)))) K h (optJ h rfl (inr_lt g_511)) rfl (gt_some g_511) t3 vI t, ?_, hpR (t := 42) (fun k => k.1) fun _ _ K q t => ixs K rfl q rfl g_517 s50 t9 t, hpQ (t := 43) (fun k => k.1) fun _ h K q t => ldr1 (.string (gt s_334.2 0)) K h rfl q t9 vS t, hpX [(41, _)] k1 fun _ _ K t => asg K rfl t, ⟨⟩⟩ ?_
     · intro a w G117 L X e_117 h K hs hk
       have hx : Sy.sub L [(10, v_337)] := ⟨hs.2.2.2.2.2.1, ⟨⟩⟩
       replace K := K.addx _ hx
       refine mv K rfl fun a K => wn <| ⟨rfl, G117, [], gr, h, _, K.dropx _ hx, ⟨rfl, (Kd.val_mono e_117 q_338)⟩⟩
     intro a w G121 L e_121 h K hs hg
     obtain ⟨v_531, l_533, -, q_532⟩ := hg 6 rfl rfl
     obtain ⟨v_534, l_536, -, q_535⟩ := hg 7 rfl rfl
     replace K := K.sub (l' := [(36, _), (37, _), (38, _), (39, _), (40, _), (41, _), (42, _), (43, _), (44, _), (14, _), (0, _), (3, _), (5, _), (8, _), (9, _), (10, _), (12, _), (13, _), (33, _), (34, _), (35, _)]) ⟨gE (hg 0 rfl rfl), gE (hg 1 rfl rfl), gE (hg 2 rfl rfl), gE (hg 3 rfl rfl), gE (hg 4 rfl rfl), gE (hg 5 rfl rfl), l_533, l_536, gE (hg 8 rfl rfl), gE (hg 9 rfl rfl), hs.1, hs.2.1, hs.2.2.1, hs.2.2.2.1, hs.2.2.2.2.1, hs.2.2.2.2.2.1, hs.2.2.2.2.2.2.1, hs.2.2.2.2.2.2.2.1, hs.2.2.2.2.2.2.2.2.1, hs.2.2.2.2.2.2.2.2.2.1, hs.2.2.2.2.2.2.2.2.2.2.1, ⟨⟩⟩
     refine asg K rfl fun a K => wn <| sl <| mv K rfl fun a K => ?_
     obtain ⟨g_539, hm⟩ := gs hm
     refine slV 1 (s_334.2.length : Int) K rfl (show (kSl kStr).val _ _ _ from (Kd.val_mono e_121 q_338)) s50 t9 (.inr ⟨_, _, rfl, rfl⟩) (.inl ⟨rfl, rfl⟩) g_539 fun a v_540 K q_541 => asg K rfl fun a K => wn <| ws <| sl <| mv K rfl fun a K => ldr K h rfl (Kd.val_mono (Gh.trans e_2 (Gh.trans e_74 e_121)) q_2) t45 fun a v_542 K q_543 => mv K rfl fun a K => ?_
     obtain ⟨x_544, hx_544, hm⟩ := bs hm
     refine clr (Δ₁ := (o3 B0 q0 q1 q2 n0 n1 n2 p0)) (Δ₂ := _) [5, 5, 5, 5] K h rfl rfl b155 (fun h => c155 hx_544 q_543 h) fun a w v G122 K e_122 h hR_545 => ?_
     obtain rfl := hR_545
     refine notB _ K rfl rfl fun a K => wn <| ifm hm K rfl (fun _ hm => ?_) fun _ hm => ?_
     · refine sl <| bld Z210 K h rfl pl210 rfl z210 .nil fun a v_547 K q_548 => sto 1 Ik210 ([Z210]) K h rfl rfl rfl rfl q_548 t210 rfl rfl fun w h => asg K rfl fun a K => wn <| wt ?_
       obtain ⟨v_549, q_550, rb_551⟩ := resOwn (P := prog) (i := 0) (p := 8) 1 Ik210 h rfl (K.lk_eq 8 rfl) rfl t210
       replace h := (St.sel [2, 3, 4, 5] rfl h)
       replace h := St.cast (Δ' := (o3 B0 q0 q1 q2 n0 n1 n2 p0)) h rfl
       obtain rfl := oi hm
       exact ⟨by simp, rfl, (fi f159 [_, _] K h rfl ⟨rb_551, rfl, ⟨⟩⟩ (.inl rfl) ⟨rfl, ⟨v_549, rfl, q_550⟩⟩)⟩
     refine wk <| ws <| sl <| mv K rfl fun a K => wn <| wb <| sl <| binS _ K rfl rfl rfl fun a K => asg K rfl fun a K => wn <| ifm hm K rfl (fun _ hm => ?_) fun _ hm => ?_
     · refine wp_exit ?_
       obtain rfl := oi hm
       exact ⟨rfl, ⟨G122, bk_335, cp_336, v_540, (Gh.trans e_74 (Gh.trans e_121 e_122)), (St.sel [0, 1, 2, 3, 4, 5] rfl h), (K.sub (so rfl)), (Kd.val_mono e_122 q_541)⟩⟩
     refine sl <| binS _ K rfl rfl rfl fun a K => asg K rfl fun a K => wn <| ifm hm K rfl (fun _ hm => ?_) fun _ hm => ?_
     · refine sl <| mv K rfl fun a K => mv K rfl fun a K => lenO K rfl rfl s267 fun a K => binI _ K rfl rfl rfl fun a K => max2 _ K rfl rfl rfl fun a K => ?_
       obtain ⟨g_554, hm⟩ := gs hm
       refine slO 0 (imax 1 (wr ((s_334.1.length : Int) - 1))) K h rfl rfl rfl s267 t3 (.inr ⟨_, _, rfl, rfl⟩) g_554 fun a K h => asg K rfl fun a K => wn <| wp_exit ?_
       obtain rfl := oi hm
       exact ⟨rfl, ⟨G122, bk_335, cp_336, v_540, (Gh.trans e_74 (Gh.trans e_121 e_122)), (St.sel [0, 1, 2, 3, 4, 5] rfl h), (K.sub (so rfl)), (Kd.val_mono e_122 q_541)⟩⟩
     refine wk <| ws ?_
     obtain ⟨g_577, hm⟩ := gs hm
     obtain ⟨x_590, hx_590, hm⟩ := bs hm
     refine wp_hop (Δs := [(⟨(kInt .i64), s_334.1, cp_336, bk_335, 3⟩ :: ⟨k210, [Z210], 1, (some bk_3), 210⟩ :: o3 B0 q0 q1 q2 n0 n1 n2 p0)]) 19 [(fE (pA B0 Ik103o)), (fE (pA B0 Ik103o)), (fE (pA B0 J103_0o)), (fE (pA B0 (J103_0o.comp F37_2o))), (fT a22 p0.p.Salt), (fE (pA B0 Ik103o)), (fE (pA B0 Ik103o)), (fE (pA B0 J103_0o)), (fE (pA B0 (J103_0o.comp F37_5o))), (fE (hS q1 p0.p.Dirs n1)), (fE (.int .i64 (gt s_334.1 (wr ((s_334.1.length : Int) - 1))))), (fE (.pointer (some (adr q1 ((gt s_334.1 (wr ((s_334.1.length : Int) - 1))).toNat) (kSl k87).n (Fld.id (kSl k87)).off)))), (fT (kSl k87) (gt p0.p.Dirs (gt s_334.1 (wr ((s_334.1.length : Int) - 1))))), (fE (.string (gt s_334.2 0))), (fC (R231 x_590)), (fC (R231 x_590)), (fE (.int .i64 x_590.1)), (fE (.int .i64 x_590.2)), (fE (.int .i64 x_590.1))] [(0, (pA B0 Ik103o)), (3, .bool p3), (5, v_1), (8, (pA bk_3 Ik210)), (9, .int .i64 0), (10, v_540), (12, hdr bk_335 s_334.1.length cp_336), (13, .int .i64 0), (14, .int .i64 (gt s_334.1 (wr ((s_334.1.length : Int) - 1)))), (15, .string (gt s_334.2 0)), (33, v_337), (34, .int .i64 (s_334.2.length : Int)), (35, .bool (decide ((s_334.2.length : Int) > 0))), (36, hdr bk_335 s_334.1.length cp_336), (37, hdr bk_335 s_334.1.length cp_336), (38, .int .i64 (s_334.1.length : Int)), (39, .int .i64 (wr ((s_334.1.length : Int) - 1))), (40, .pointer (some (adr (bk_335.getD 0) ((wr ((s_334.1.length : Int) - 1)).toNat) (kInt .i64).n (Fld.id (kInt .i64)).off))), (41, .int .i64 (gt s_334.1 (wr ((s_334.1.length : Int) - 1)))), (42, v_531), (43, v_534), (44, .string (gt s_334.2 0)), (45, v_337), (46, v_540), (47, (pA B0 Ik103o)), (48, v_542), (49, .int .i64 (gt s_334.1 (wr ((s_334.1.length : Int) - 1)))), (50, .bool x_544), (51, .bool (!x_544)), (53, .string (gt s_334.2 0)), (54, .bool (sEq (gt s_334.2 0) (⟨#[46]⟩ : ByteArray))), (55, .bool (sEq (gt s_334.2 0) (⟨#[46]⟩ : ByteArray))), (56, .bool (sEq (gt s_334.2 0) (⟨#[46, 46]⟩ : ByteArray))), (57, .bool (sEq (gt s_334.2 0) (⟨#[46, 46]⟩ : ByteArray)))] [] [[0], [0], [0], [0], [0], [0], [0], [0], [0], [0], [0], [0], [0], [0], [0], [0], [0], [0], [0]] [0, 1, 3, 7, 15, 0, 32, 96, 224, 480, 0, 2016, 4064, 0, 16383, 32767, 65535, 65535, 131071, 524287] mx (by kernel_rfl) (by kernel_rfl) (by kernel_rfl) (by kernel_rfl) rfl rfl ⟨monE, monE, monE, monE, monT, monE, monE, monE, monE, monE, monE, monE, monT, monE, (monC monR231.h), (monC monR231.h), monE, monE, monE, ⟨⟩⟩ K h rfl rfl ⟨rfl, rfl, rfl, rfl, rfl, rfl, rfl, rfl, rfl, rfl, rfl, rfl, rfl, rfl, rfl, rfl, rfl, rfl, rfl, rfl, rfl, rfl, rfl, rfl, rfl, rfl, rfl, rfl, rfl, rfl, rfl, rfl, rfl, rfl, ⟨⟩⟩ ⟨(stg1 rfl rfl ?_), (stg1 rfl rfl ?_), (stg1 rfl rfl ?_), (stg1 rfl rfl ?_), (stg1 rfl rfl ?_), (stg1 rfl rfl ?_), (stg1 rfl rfl ?_), (stg1 rfl rfl ?_), (stg1 rfl rfl ?_), (stg1 rfl rfl ?_), (stg1 rfl rfl ?_), (stg1 rfl rfl ?_), (stg1 rfl rfl ?_), (stg1 rfl rfl ?_), (stg1 rfl rfl ?_), (stg1 rfl rfl ?_), (stg1 rfl rfl ?_), (stg1 rfl rfl ?_), (stg1 rfl rfl ?_), ⟨⟩⟩ rfl ?_
     · exact hpX [(0, _)] (fun s _ => ⟨s.1, ⟨⟩⟩) fun _ _ K t => mv K rfl t
     · exact hpX [(65, _)] k1 fun _ _ K t => nilck K rfl t
     · exact hpX [(66, _)] k1 fun _ _ K t => fa F103_0o K rfl o103_0o t
     · exact hpX [(67, _)] k1 fun _ _ K t => fa F37_2o K rfl o37_2o t
     · exact hpT [(68, _)] k1 fun _ h K t => ld 2 (J103_0o.comp F37_2o) K h rfl rfl rfl t22 t
     · exact hpX [(0, _)] (fun s _ => ⟨s.1, ⟨⟩⟩) fun _ _ K t => mv K rfl t
     · exact hpX [(70, _)] k1 fun _ _ K t => nilck K rfl t
     · exact hpX [(71, _)] k1 fun _ _ K t => fa F103_0o K rfl o103_0o t
     · exact hpX [(72, _)] k1 fun _ _ K t => fa F37_5o K rfl o37_5o t
     · exact hpX [(73, _)] k1 fun _ h K t => ld1 2 (J103_0o.comp F37_5o) (hS q1 p0.p.Dirs n1) K h rfl rfl rfl t34 vX t
     · exact hpX [(14, _)] (fun s _ => ⟨s.2.2.2.2.2.2.2.2.1, ⟨⟩⟩) fun _ _ K t => mv K rfl t
     · exact hpX [(74, _), (75, _)] k2 fun _ _ K t => ixo K rfl rfl g_577 s34 t85 t
     · exact hpT [(76, _)] k1 fun _ h K t => ld 4 (Fld.id (kSl k87)) K h rfl rfl (gt_some g_577) t85 t
     · exact hpX [(15, _)] (fun s _ => ⟨s.2.2.2.2.2.2.2.2.2.1, ⟨⟩⟩) fun _ _ K t => mv K rfl t
     · intro a w G137 L X e_137 h K hs hk
       obtain ⟨v_582, _, l_583, -, q_584⟩ := hk.1
       obtain ⟨v_585, _, l_586, -, q_587⟩ := hk.2.1
       obtain ⟨v_588, _, l_589, -, rfl⟩ := hk.2.2.1
       have hx : Sy.sub L [(69, _), (77, _), (78, _)] := ⟨l_583, l_586, l_589, ⟨⟩⟩
       replace K := K.addx _ hx
       refine clp K h rfl b231 (fun h => c231 hx_590 q_584 q_587 h) fun a w v G138 K e_138 h hR_591 => wn <| ⟨rfl, G138, [], e_138, h, _, K.dropx _ hx, ⟨rfl, hR_591⟩⟩
     · intro a w G139 L X e_139 h K hs hk
       obtain ⟨v_592, _, l_593, -, hR_594⟩ := hk.1
       obtain rfl := id hR_594
       have hx : Sy.sub L [(79, _)] := ⟨l_593, ⟨⟩⟩
       replace K := K.addx _ hx
       refine mv K rfl fun a K => wn <| ⟨rfl, G139, [], gr, h, _, K.dropx _ hx, ⟨rfl, hR_594⟩⟩
     · intro a w G140 L X e_140 h K hs hk
       obtain ⟨v_595, _, l_596, -, hR_597⟩ := hk.1
       obtain rfl := id hR_597
       have hx : Sy.sub L [(64, _)] := ⟨l_596, ⟨⟩⟩
       replace K := K.addx _ hx
       refine extr K rfl rfl fun a K => wn <| ⟨rfl, G140, [], gr, h, _, K.dropx _ hx, ⟨rfl, rfl⟩⟩
     · intro a w G141 L X e_141 h K hs hk
       obtain ⟨v_598, _, l_599, -, hR_600⟩ := hk.1
       obtain rfl := id hR_600
       have hx : Sy.sub L [(64, _)] := ⟨l_599, ⟨⟩⟩
       replace K := K.addx _ hx
       refine extr K rfl rfl fun a K => wn <| ⟨rfl, G141, [], gr, h, _, K.dropx _ hx, ⟨rfl, rfl⟩⟩
     · exact hpX [(80, _)] k1 fun _ _ K t => asg K rfl t
     intro a w G143 L X e_143 h K hs hg
     obtain ⟨_, _, _, rfl, l_603, ⟨rfl, rfl⟩, hg⟩ := hg
     obtain ⟨_, _, _, rfl, l_604, ⟨rfl, rfl⟩, hg⟩ := hg
     obtain ⟨_, _, _, rfl, l_605, ⟨rfl, rfl⟩, hg⟩ := hg
     obtain ⟨_, _, _, rfl, l_606, ⟨rfl, rfl⟩, hg⟩ := hg
     obtain ⟨v_607, _, _, rfl, l_609, ⟨rfl, q_608⟩, hg⟩ := hg
     obtain ⟨_, _, _, rfl, l_610, ⟨rfl, rfl⟩, hg⟩ := hg
     obtain ⟨_, _, _, rfl, l_611, ⟨rfl, rfl⟩, hg⟩ := hg
     obtain ⟨_, _, _, rfl, l_612, ⟨rfl, rfl⟩, hg⟩ := hg
     obtain ⟨_, _, _, rfl, l_613, ⟨rfl, rfl⟩, hg⟩ := hg
     obtain ⟨_, _, _, rfl, l_614, ⟨rfl, rfl⟩, hg⟩ := hg
     obtain ⟨_, _, _, rfl, l_615, ⟨rfl, rfl⟩, hg⟩ := hg
     obtain ⟨_, _, _, rfl, l_616, ⟨rfl, rfl⟩, hg⟩ := hg
     obtain ⟨v_617, _, _, rfl, l_619, ⟨rfl, q_618⟩, hg⟩ := hg
     obtain ⟨_, _, _, rfl, l_620, ⟨rfl, rfl⟩, hg⟩ := hg
     obtain ⟨v_621, _, _, rfl, l_623, ⟨rfl, hR_622⟩, hg⟩ := hg
     obtain rfl := id hR_622
     obtain ⟨v_624, _, _, rfl, l_626, ⟨rfl, hR_625⟩, hg⟩ := hg
     obtain rfl := id hR_625
     obtain ⟨_, _, _, rfl, l_627, ⟨rfl, rfl⟩, hg⟩ := hg
     obtain ⟨_, _, _, rfl, l_628, ⟨rfl, rfl⟩, hg⟩ := hg
     obtain ⟨_, _, _, rfl, l_629, ⟨rfl, rfl⟩, hg⟩ := hg
     obtain rfl := hg
     replace h := St.cast (Δ' := (⟨(kInt .i64), s_334.1, cp_336, bk_335, 3⟩ :: ⟨k210, [Z210], 1, (some bk_3), 210⟩ :: o3 B0 q0 q1 q2 n0 n1 n2 p0)) h rfl
     replace K := K.sub (l' := [(65, _), (66, _), (67, _), (68, _), (69, _), (70, _), (71, _), (72, _), (73, _), (74, _), (75, _), (76, _), (77, _), (78, _), (79, _), (64, _), (80, _), (81, _), (16, _), (0, _), (3, _), (5, _), (8, _), (9, _), (10, _), (12, _), (13, _), (14, _), (15, _), (33, _), (34, _), (35, _), (36, _), (37, _), (38, _), (39, _), (40, _), (41, _), (42, _), (43, _), (44, _), (45, _), (46, _), (47, _), (48, _), (49, _), (50, _), (51, _), (53, _), (54, _), (55, _), (56, _), (57, _)]) ⟨l_603, l_604, l_605, l_606, l_609, l_610, l_611, l_612, l_613, l_614, l_615, l_616, l_619, l_620, l_623, l_626, l_627, l_628, l_629, hs.1, hs.2.1, hs.2.2.1, hs.2.2.2.1, hs.2.2.2.2.1, hs.2.2.2.2.2.1, hs.2.2.2.2.2.2.1, hs.2.2.2.2.2.2.2.1, hs.2.2.2.2.2.2.2.2.1, hs.2.2.2.2.2.2.2.2.2.1, hs.2.2.2.2.2.2.2.2.2.2.1, hs.2.2.2.2.2.2.2.2.2.2.2.1, hs.2.2.2.2.2.2.2.2.2.2.2.2.1, hs.2.2.2.2.2.2.2.2.2.2.2.2.2.1, hs.2.2.2.2.2.2.2.2.2.2.2.2.2.2.1, hs.2.2.2.2.2.2.2.2.2.2.2.2.2.2.2.1, hs.2.2.2.2.2.2.2.2.2.2.2.2.2.2.2.2.1, hs.2.2.2.2.2.2.2.2.2.2.2.2.2.2.2.2.2.1, hs.2.2.2.2.2.2.2.2.2.2.2.2.2.2.2.2.2.2.1, hs.2.2.2.2.2.2.2.2.2.2.2.2.2.2.2.2.2.2.2.1, hs.2.2.2.2.2.2.2.2.2.2.2.2.2.2.2.2.2.2.2.2.1, hs.2.2.2.2.2.2.2.2.2.2.2.2.2.2.2.2.2.2.2.2.2.1, hs.2.2.2.2.2.2.2.2.2.2.2.2.2.2.2.2.2.2.2.2.2.2.1, hs.2.2.2.2.2.2.2.2.2.2.2.2.2.2.2.2.2.2.2.2.2.2.2.1, hs.2.2.2.2.2.2.2.2.2.2.2.2.2.2.2.2.2.2.2.2.2.2.2.2.1, hs.2.2.2.2.2.2.2.2.2.2.2.2.2.2.2.2.2.2.2.2.2.2.2.2.2.1, hs.2.2.2.2.2.2.2.2.2.2.2.2.2.2.2.2.2.2.2.2.2.2.2.2.2.2.1, hs.2.2.2.2.2.2.2.2.2.2.2.2.2.2.2.2.2.2.2.2.2.2.2.2.2.2.2.1, hs.2.2.2.2.2.2.2.2.2.2.2.2.2.2.2.2.2.2.2.2.2.2.2.2.2.2.2.2.1, hs.2.2.2.2.2.2.2.2.2.2.2.2.2.2.2.2.2.2.2.2.2.2.2.2.2.2.2.2.2.1, hs.2.2.2.2.2.2.2.2.2.2.2.2.2.2.2.2.2.2.2.2.2.2.2.2.2.2.2.2.2.2.1, hs.2.2.2.2.2.2.2.2.2.2.2.2.2.2.2.2.2.2.2.2.2.2.2.2.2.2.2.2.2.2.2.1, hs.2.2.2.2.2.2.2.2.2.2.2.2.2.2.2.2.2.2.2.2.2.2.2.2.2.2.2.2.2.2.2.2.1, hs.2.2.2.2.2.2.2.2.2.2.2.2.2.2.2.2.2.2.2.2.2.2.2.2.2.2.2.2.2.2.2.2.2.1, ⟨⟩⟩
     refine asg K rfl fun a K => wn <| sl <| mv K rfl fun a K => lenV K rfl (Kd.val_mono (Gh.trans e_122 e_143) q_541) rfl s50 fun a K => binC _ K rfl rfl rfl fun a K => asg K rfl fun a K => wn <| ws <| sl <| mv K rfl fun a K => binC _ K rfl rfl rfl fun a K => wn <| ifm hm K rfl (fun _ hm => ?_) fun _ hm => ?_
     · refine ws <| sl <| mv K rfl fun a K => wn <| ifm hm K rfl (fun _ hm => ?_) fun _ hm => ?_
       · refine sl <| mv K rfl fun a K => mv K rfl fun a K => bld (⟨0, (gt s_334.1 (wr ((s_334.1.length : Int) - 1))), (gt s_334.2 0)⟩ : T210) K h rfl pl210 rfl z210 (.cons F210_1 rfl int_val (.cons F210_2 rfl str_val .nil)) fun a v_632 K q_633 => sto 1 Ik210 ([(⟨0, (gt s_334.1 (wr ((s_334.1.length : Int) - 1))), (gt s_334.2 0)⟩ : T210)]) K h rfl rfl rfl rfl q_633 t210 rfl rfl fun w h => asg K rfl fun a K => wn <| wt ?_
         obtain ⟨v_634, q_635, rb_636⟩ := resOwn (P := prog) (i := 0) (p := 8) 1 Ik210 h rfl (K.lk_eq 8 rfl) rfl t210
         replace h := (St.sel [2, 3, 4, 5] rfl h)
         replace h := St.cast (Δ' := (o3 B0 q0 q1 q2 n0 n1 n2 p0)) h rfl
         obtain rfl := oi hm
         exact ⟨by simp, rfl, (fi f159 [_, _] K h rfl ⟨rb_636, rfl, ⟨⟩⟩ (.inl rfl) ⟨rfl, ⟨v_634, rfl, q_635⟩⟩)⟩
       refine wk <| sl <| bld Z210 K h rfl pl210 rfl z210 .nil fun a v_637 K q_638 => sto 1 Ik210 ([Z210]) K h rfl rfl rfl rfl q_638 t210 rfl rfl fun w h => asg K rfl fun a K => wn <| wt ?_
       obtain ⟨v_639, q_640, rb_641⟩ := resOwn (P := prog) (i := 0) (p := 8) 1 Ik210 h rfl (K.lk_eq 8 rfl) rfl t210
       replace h := (St.sel [2, 3, 4, 5] rfl h)
       replace h := St.cast (Δ' := (o3 B0 q0 q1 q2 n0 n1 n2 p0)) h rfl
       obtain rfl := oi hm
       exact ⟨by simp, rfl, (fi f159 [_, _] K h rfl ⟨rb_641, rfl, ⟨⟩⟩ (.inl rfl) ⟨rfl, ⟨v_639, rfl, q_640⟩⟩)⟩
     refine wk <| sl <| mv K rfl fun a K => nilck K rfl fun a K => fa F103_0o K rfl o103_0o fun a K => fa F37_4o K rfl o37_4o fun a K => ld1 2 (J103_0o.comp F37_4o) (hS q0 p0.p.Inodes n0) K h rfl rfl rfl t33 vX fun a K => mv K rfl fun a K => ?_
     obtain ⟨g_642, hm⟩ := gs hm
     refine ixo K rfl rfl g_642 s33 t84 fun a K => ld 3 Ik84 K h rfl rfl (gt_some g_642) t84 fun a v_643 K q_644 => alc K h z84 fun a w bk_645 K h => sto 0 Ik84 ([(gt p0.p.Inodes x_590.1)]) K h rfl rfl rfl rfl q_644 t84 rfl rfl fun w h => wn <| ws <| wb <| joinS (S := Bool × Bool) (fun s_648 a w => Jn c G143 (⟨k84, [(gt p0.p.Inodes x_590.1)], 1, (some bk_645), 84⟩ :: ⟨(kInt .i64), s_334.1, cp_336, bk_335, 3⟩ :: ⟨k210, [Z210], 1, (some bk_3), 210⟩ :: o3 B0 q0 q1 q2 n0 n1 n2 p0) 152 [(0, (pA B0 Ik103o)), (3, .bool p3), (5, v_1), (8, (pA bk_3 Ik210)), (9, .int .i64 0), (10, v_540), (12, hdr bk_335 s_334.1.length cp_336), (13, .int .i64 0), (14, .int .i64 (gt s_334.1 (wr ((s_334.1.length : Int) - 1)))), (15, .string (gt s_334.2 0)), (16, .int .i64 x_590.1), (17, .int .i64 x_590.2), (18, .bool (((lSub s_334.2 1 (s_334.2.length : Int)).length : Int) == 0)), (19, (pA bk_645 Ik84)), (33, v_337), (34, .int .i64 (s_334.2.length : Int)), (35, .bool (decide ((s_334.2.length : Int) > 0))), (36, hdr bk_335 s_334.1.length cp_336), (37, hdr bk_335 s_334.1.length cp_336), (38, .int .i64 (s_334.1.length : Int)), (39, .int .i64 (wr ((s_334.1.length : Int) - 1))), (40, .pointer (some (adr (bk_335.getD 0) ((wr ((s_334.1.length : Int) - 1)).toNat) (kInt .i64).n (Fld.id (kInt .i64)).off))), (41, .int .i64 (gt s_334.1 (wr ((s_334.1.length : Int) - 1)))), (42, v_531), (43, v_534), (44, .string (gt s_334.2 0)), (45, v_337), (46, v_540), (47, (pA B0 Ik103o)), (48, v_542), (49, .int .i64 (gt s_334.1 (wr ((s_334.1.length : Int) - 1)))), (50, .bool x_544), (51, .bool (!x_544)), (53, .string (gt s_334.2 0)), (54, .bool (sEq (gt s_334.2 0) (⟨#[46]⟩ : ByteArray))), (55, .bool (sEq (gt s_334.2 0) (⟨#[46]⟩ : ByteArray))), (56, .bool (sEq (gt s_334.2 0) (⟨#[46, 46]⟩ : ByteArray))), (57, .bool (sEq (gt s_334.2 0) (⟨#[46, 46]⟩ : ByteArray))), (65, (pA B0 Ik103o)), (66, (pA B0 Ik103o)), (67, (pA B0 J103_0o)), (68, (pA B0 (J103_0o.comp F37_2o))), (69, v_607), (70, (pA B0 Ik103o)), (71, (pA B0 Ik103o)), (72, (pA B0 J103_0o)), (73, (pA B0 (J103_0o.comp F37_5o))), (74, hdr (some q1) p0.p.Dirs.length n1), (75, .int .i64 (gt s_334.1 (wr ((s_334.1.length : Int) - 1)))), (76, .pointer (some (adr q1 ((gt s_334.1 (wr ((s_334.1.length : Int) - 1))).toNat) (kSl k87).n (Fld.id (kSl k87)).off))), (77, v_617), (78, .string (gt s_334.2 0)), (80, .int .i64 x_590.1), (81, .int .i64 x_590.2), (82, v_540), (83, .int .i64 ((lSub s_334.2 1 (s_334.2.length : Int)).length : Int)), (84, .bool (((lSub s_334.2 1 (s_334.2.length : Int)).length : Int) == 0)), (85, .int .i64 x_590.2), (86, .bool (x_590.2 != 0)), (92, (pA B0 Ik103o)), (93, (pA B0 Ik103o)), (94, (pA B0 J103_0o)), (95, (pA B0 (J103_0o.comp F37_4o))), (96, hdr (some q0) p0.p.Inodes.length n0), (97, .int .i64 x_590.1), (98, .pointer (some (adr q0 x_590.1.toNat k84.n Ik84.off))), (99, v_643), (100, .bool s_648.1), (101, (pA bk_645 J84_0)), (102, .int .i64 ((gt p0.p.Inodes x_590.1).Kind)), (103, .bool ((gt p0.p.Inodes x_590.1).Kind == 3)), (104, .bool ((gt p0.p.Inodes x_590.1).Kind == 3)), (110, .bool s_648.2)] a w) (fun s_648 => m159_j_673 p0 s_334 x_590 x_590 s_648 = some y_501) (fun s_648 hm a w hJ => ?_) (fun kk_674 => ?_)
     · obtain ⟨G144, e_144, h, K⟩ := hJ
       unfold m159_j_673 at hm
       refine ifm hm K rfl (fun _ hm => ?_) fun _ hm => ?_
       · refine ws <| sl <| mv K rfl fun a K => binI _ K rfl rfl rfl fun a K => asg K rfl fun a K => nsl <| mv K rfl fun a K => binC _ K rfl rfl rfl fun a K => wn <| ifm hm K rfl (fun _ hm => ?_) fun _ hm => ?_
         · refine sl <| bld Z210 K h rfl pl210 rfl z210 .nil fun a v_651 K q_652 => sto 2 Ik210 ([Z210]) K h rfl rfl rfl rfl q_652 t210 rfl rfl fun w h => asg K rfl fun a K => wn <| wt ?_
           obtain ⟨v_653, q_654, rb_655⟩ := resOwn (P := prog) (i := 0) (p := 8) 2 Ik210 h rfl (K.lk_eq 8 rfl) rfl t210
           replace h := (St.sel [3, 4, 5, 6] rfl h)
           replace h := St.cast (Δ' := (o3 B0 q0 q1 q2 n0 n1 n2 p0)) h rfl
           obtain rfl := oi hm
           exact ⟨by simp, rfl, (fi f159 [_, _] K h rfl ⟨rb_655, rfl, ⟨⟩⟩ (.inl rfl) ⟨rfl, ⟨v_653, rfl, q_654⟩⟩)⟩
         refine wk <| sl <| fa F84_7 K rfl o84_7 fun a K => ld1 0 J84_7 (.string ((gt p0.p.Inodes x_590.1).Link)) K h rfl rfl rfl t9 vS fun a K => ?_
         cases hm
       refine sl <| mv K rfl fun a K => asg K rfl fun a K => wn <| ifm hm K rfl (fun _ hm => ?_) fun _ hm => ?_
       · refine sl <| mv K rfl fun a K => mv K rfl fun a K => mv K rfl fun a K => bld (⟨x_590.1, (gt s_334.1 (wr ((s_334.1.length : Int) - 1))), (gt s_334.2 0)⟩ : T210) K h rfl pl210 rfl z210 (.cons F210_0 rfl int_val (.cons F210_1 rfl int_val (.cons F210_2 rfl str_val .nil))) fun a v_657 K q_658 => sto 2 Ik210 ([(⟨x_590.1, (gt s_334.1 (wr ((s_334.1.length : Int) - 1))), (gt s_334.2 0)⟩ : T210)]) K h rfl rfl rfl rfl q_658 t210 rfl rfl fun w h => asg K rfl fun a K => wn <| wt ?_
         obtain ⟨v_659, q_660, rb_661⟩ := resOwn (P := prog) (i := 0) (p := 8) 2 Ik210 h rfl (K.lk_eq 8 rfl) rfl t210
         replace h := (St.sel [3, 4, 5, 6] rfl h)
         replace h := St.cast (Δ' := (o3 B0 q0 q1 q2 n0 n1 n2 p0)) h rfl
         obtain rfl := oi hm
         exact ⟨by simp, rfl, (fi f159 [_, _] K h rfl ⟨rb_661, rfl, ⟨⟩⟩ (.inl rfl) ⟨rfl, ⟨v_659, rfl, q_660⟩⟩)⟩
       refine sl <| fa F84_0 K rfl o84_0 fun a K => ld1 0 J84_0 (.int .i64 ((gt p0.p.Inodes x_590.1).Kind)) K h rfl rfl rfl t51 vI fun a K => binC _ K rfl rfl rfl fun a K => asg K rfl fun a K => wn <| ifm hm K rfl (fun _ hm => ?_) fun _ hm => ?_
       · refine sl <| bld Z210 K h rfl pl210 rfl z210 .nil fun a v_663 K q_664 => sto 2 Ik210 ([Z210]) K h rfl rfl rfl rfl q_664 t210 rfl rfl fun w h => asg K rfl fun a K => wn <| wt ?_
         obtain ⟨v_665, q_666, rb_667⟩ := resOwn (P := prog) (i := 0) (p := 8) 2 Ik210 h rfl (K.lk_eq 8 rfl) rfl t210
         replace h := (St.sel [3, 4, 5, 6] rfl h)
         replace h := St.cast (Δ' := (o3 B0 q0 q1 q2 n0 n1 n2 p0)) h rfl
         obtain rfl := oi hm
         exact ⟨by simp, rfl, (fi f159 [_, _] K h rfl ⟨rb_667, rfl, ⟨⟩⟩ (.inl rfl) ⟨rfl, ⟨v_665, rfl, q_666⟩⟩)⟩
       refine wk <| wl <| mv K rfl fun a K => mv K rfl fun a K => bldS (f := (kInt .i64)) (by decide) [x_590.1] K h rfl s267 t3 rfl z3 (.cons (Fld.idx (kInt .i64) 0 (by decide)) rfl int_val .nil) fun a w bk_668 K h => ?_
       obtain ⟨G145, e_145, h, q_669⟩ := frz 0 h rfl
       obtain ⟨g_672, hm⟩ := gs hm
       refine app 1 K h rfl rfl rfl rfl (show (kSl (kInt .i64)).val _ _ _ from q_669) rfl s267 s267 e3 g_672 fun a w bk_670 cp_671 K h => asg K rfl fun a K => wn ?_
       obtain rfl := oi hm
       exact ⟨rfl, ⟨G145, bk_670, cp_671, v_540, (Gh.trans e_74 (Gh.trans e_121 (Gh.trans e_122 (Gh.trans e_143 (Gh.trans e_144 e_145))))), (St.sel [1, 2, 3, 4, 5, 6] rfl h), (K.sub (so rfl)), (Kd.val_mono (Gh.trans e_122 (Gh.trans e_143 (Gh.trans e_144 e_145))) q_541)⟩⟩
     refine wl <| fa F84_0 K rfl o84_0 fun a K => ld1 0 J84_0 (.int .i64 ((gt p0.p.Inodes x_590.1).Kind)) K h rfl rfl rfl t51 vI fun a K => binC _ K rfl rfl rfl fun a K => mv K rfl fun a K => ?_
     rcases im hm with ⟨c_675, hm⟩ | ⟨c_675, hm⟩
     · refine g2 K c_675 <| mv K rfl fun a K => g2 K c_675 <| notB _ K rfl rfl fun a K => g2 K c_675 <| mv K rfl fun a K => ?_
       rcases im hm with ⟨c_676, hm⟩ | ⟨c_676, hm⟩
       · refine g1 K c_676 fun a K => g2 K c_675 <| pkT K rfl c_676 rfl fun a K => pkT K rfl c_675 rfl fun a K => asg K rfl fun a K => wn <| kk_674 (true, true) hm _ _ ⟨G143, gr, (St.sel [0, 1, 2, 3, 4, 5, 6] rfl h), (K.sub (so rfl))⟩
       refine g2 K c_676 <| mv K rfl fun a K => g2 K c_675 <| pkF K rfl c_676 rfl fun a K => pkT K rfl c_675 rfl fun a K => asg K rfl fun a K => wn <| kk_674 (p3, p3) hm _ _ ⟨G143, gr, (St.sel [0, 1, 2, 3, 4, 5, 6] rfl h), (K.sub (so rfl))⟩
     refine g1 K c_675 fun a K => g1 K c_675 fun a K => g1 K c_675 fun a K => gnU K rfl rfl rfl rfl fun a K => g1 K c_675 fun a K => pkF K rfl c_675 rfl fun a K => asg K rfl fun a K => wn <| kk_674 (false, false) hm _ _ ⟨G143, gr, (St.sel [0, 1, 2, 3, 4, 5, 6] rfl h), (K.sub (so rfl))⟩
   refine wp_exit ?_
   obtain rfl := oi hm
   exact ⟨by simp, rfl, ⟨G74, bk_335, cp_336, e_74, (St.sel [0, 1, 2, 3, 4, 5] rfl h), (K.sub (so rfl))⟩⟩
 intro e a w hD
 rcases y_496 with p_497 | q_683
 · simp only [Sum.elim_inl, Sum.elim_inr] at hm
   obtain ⟨rfl, ⟨G110, bk_498, cp_499, e_110, h, K⟩⟩ := hD
   refine sl <| mv K rfl fun a K => mv K rfl fun a K => lenO K rfl rfl s267 fun a K => binI _ K rfl rfl rfl fun a K => ?_
   obtain ⟨g_677, hm⟩ := gs hm
   refine ixoO 0 K h rfl rfl rfl rfl g_677 s267 t3 fun a K => ld1 0 (Fld.id (kInt .i64)) (.int .i64 (gt p_497 (wr ((p_497.length : Int) - 1)))) K h (optJ h rfl (inr_lt g_677)) rfl (gt_some g_677) t3 vI fun a K => bld (⟨(gt p_497 (wr ((p_497.length : Int) - 1))), 0, ByteArray.empty⟩ : T210) K h rfl pl210 rfl z210 (.cons F210_0 rfl int_val .nil) fun a v_678 K q_679 => sto 1 Ik210 ([(⟨(gt p_497 (wr ((p_497.length : Int) - 1))), 0, ByteArray.empty⟩ : T210)]) K h rfl rfl rfl rfl q_679 t210 rfl rfl fun w h => asg K rfl fun a K => wn <| wt ?_
   obtain ⟨v_680, q_681, rb_682⟩ := resOwn (P := prog) (i := 0) (p := 8) 1 Ik210 h rfl (K.lk_eq 8 rfl) rfl t210
   obtain rfl := oi hm
   exact fi f159 [_, _] K (St.sel [2, 3, 4, 5] rfl h) rfl ⟨rb_682, rfl, ⟨⟩⟩ (.inl rfl) ⟨rfl, ⟨v_680, rfl, q_681⟩⟩
 simp only [Sum.elim_inr] at hm
 obtain rfl := oi hm
 obtain ⟨rfl, hD⟩ := hD
 exact hD
abbrev R150 (r : T210 × Int) (v : Value) (H : Gh) : Prop := ∃ u0, v = .tuple #[u0, .int .i64 r.2] ∧ k210.val H u0 r.1
instance monR150 {r : T210 × Int} : MonR (R150 r) := by
 constructor
 rintro G H v e ⟨u0, rfl, q0⟩
 exact ⟨u0, rfl, Kd.val_mono e q0⟩
theorem c150 {p0 : T103} {p1 : T45} {p2 : ByteArray} {B0 q0 q1 q2 n0 n1 n2 : Nat} {r : T210 × Int} (hm : m150 p0 p1 p2 = some r) {vp1 : Value} (hp1 : (k45.val G0 vp1 p1)) (h : St c G0 w ((o3 B0 q0 q1 q2 n0 n1 n2 p0))) : Calls prog 150 #[(pA B0 Ik103o), vp1, .string p2] w (FO c (o3 B0 q0 q1 q2 n0 n1 n2 p0) (R150 r)) := by
 unfold m150 at hm
 refine enter (n := 36) func150 rfl rfl rfl fun a K => sl <| boxr K h rfl hp1 fun a w v_1 G1 K e_1 h q_2 => alc K h z210 fun a w bk_3 K h => asg K rfl fun a K => nsl <| mv K rfl fun a K => ldr K h rfl q_2 t45 fun a v_4 K q_5 => mv K rfl fun a K => ?_
 obtain ⟨x_6, hx_6, hm⟩ := bs hm
 refine clr (Δ₁ := (o3 B0 q0 q1 q2 n0 n1 n2 p0)) (Δ₂ := _) [4, 4, 4, 4] K h rfl rfl b159 (fun h => c159 hx_6 q_5 h) fun a w v G2 K e_2 h hR_7 => ?_
 obtain ⟨v_8, rfl, q_9⟩ := hR_7
 refine mv K rfl fun a K => extr K rfl rfl fun a K => extr K rfl rfl fun a K => alc K h z210 fun a w bk_10 K h => sto 0 Ik210 ([x_6.1]) K h rfl rfl rfl rfl q_9 t210 rfl rfl fun w h => asg K rfl fun a K => wn <| ws <| wb <| sl <| mv K rfl fun a K => binC _ K rfl rfl rfl fun a K => asg K rfl fun a K => wn <| ifm hm K rfl (fun _ hm => ?_) fun _ hm => ?_
 · refine sl <| ld 0 Ik210 K h rfl rfl rfl t210 fun a v_12 K q_13 => mv K rfl fun a K => sto 1 Ik210 ([x_6.1]) K h rfl rfl rfl rfl q_13 t210 rfl rfl fun w h => asg K rfl fun a K => wn <| wt ?_
   obtain ⟨v_14, q_15, rb_16⟩ := resOwn (P := prog) (i := 0) (p := 6) 1 Ik210 h rfl (K.lk_eq 6 rfl) rfl t210
   obtain rfl := oi hm
   exact fi f150 [_, _] K (St.sel [2, 3, 4, 5] rfl h) rfl ⟨rb_16, rfl, ⟨⟩⟩ (.inl rfl) ⟨rfl, ⟨v_14, rfl, q_15⟩⟩
 refine sl <| fa F210_0 K rfl o210_0 fun a K => ld1 0 J210_0 (.int .i64 x_6.1.inode) K h rfl rfl rfl t3 vI fun a K => binC _ K rfl rfl rfl fun a K => asg K rfl fun a K => wn <| ifm hm K rfl (fun _ hm => ?_) fun _ hm => ?_
 · refine sl <| ld 0 Ik210 K h rfl rfl rfl t210 fun a v_18 K q_19 => sto 1 Ik210 ([x_6.1]) K h rfl rfl rfl rfl q_19 t210 rfl rfl fun w h => asg K rfl fun a K => wn <| wt ?_
   obtain ⟨v_20, q_21, rb_22⟩ := resOwn (P := prog) (i := 0) (p := 6) 1 Ik210 h rfl (K.lk_eq 6 rfl) rfl t210
   obtain rfl := oi hm
   exact fi f150 [_, _] K (St.sel [2, 3, 4, 5] rfl h) rfl ⟨rb_22, rfl, ⟨⟩⟩ (.inl rfl) ⟨rfl, ⟨v_20, rfl, q_21⟩⟩
 refine sl <| mv K rfl fun a K => ldr K h rfl (Kd.val_mono e_2 q_2) t45 fun a v_23 K q_24 => fa F210_1 K rfl o210_1 fun a K => ld1 0 J210_1 (.int .i64 x_6.1.parent) K h rfl rfl rfl t3 vI fun a K => ?_
 obtain ⟨x_25, hx_25, hm⟩ := bs hm
 refine clr (Δ₁ := (o3 B0 q0 q1 q2 n0 n1 n2 p0)) (Δ₂ := _) [5, 5, 5, 5] K h rfl rfl b155 (fun h => c155 hx_25 q_24 h) fun a w v G3 K e_3 h hR_26 => ?_
 obtain rfl := hR_26
 refine notB _ K rfl rfl fun a K => asg K rfl fun a K => wn <| ifm hm K rfl (fun _ hm => ?_) fun _ hm => ?_
 · refine sl <| ld 0 Ik210 K h rfl rfl rfl t210 fun a v_28 K q_29 => sto 1 Ik210 ([x_6.1]) K h rfl rfl rfl rfl q_29 t210 rfl rfl fun w h => asg K rfl fun a K => wn <| wt ?_
   obtain ⟨v_30, q_31, rb_32⟩ := resOwn (P := prog) (i := 0) (p := 6) 1 Ik210 h rfl (K.lk_eq 6 rfl) rfl t210
   obtain rfl := oi hm
   exact fi f150 [_, _] K (St.sel [2, 3, 4, 5] rfl h) rfl ⟨rb_32, rfl, ⟨⟩⟩ (.inl rfl) ⟨rfl, ⟨v_30, rfl, q_31⟩⟩
 refine wk <| sl <| ld 0 Ik210 K h rfl rfl rfl t210 fun a v_33 K q_34 => sto 1 Ik210 ([x_6.1]) K h rfl rfl rfl rfl q_34 t210 rfl rfl fun w h => asg K rfl fun a K => wn <| wt ?_
 obtain ⟨v_35, q_36, rb_37⟩ := resOwn (P := prog) (i := 0) (p := 6) 1 Ik210 h rfl (K.lk_eq 6 rfl) rfl t210
 obtain rfl := oi hm
 exact fi f150 [_, _] K (St.sel [2, 3, 4, 5] rfl h) rfl ⟨rb_37, rfl, ⟨⟩⟩ (.inl rfl) ⟨rfl, ⟨v_35, rfl, q_36⟩⟩
abbrev R226 (r : Bool) (v : Value) (H : Gh) : Prop := v = .bool r
instance monR226 {r : Bool} : MonR (R226 r) := ⟨fun _ _ _ _ h => h⟩
theorem c226 {p0 : T84} {r : Bool} (hm : m226 p0 = some r) {vp0 : Value} (hp0 : (k84.val G0 vp0 p0)) (h : St c G0 w []) : Calls prog 226 #[vp0] w (FO c [] (R226 r)) := by
 unfold m226 at hm
 refine enter (n := 6) func226 rfl rfl rfl fun a K => sl <| boxr K h rfl hp0 fun a w v_1 G1 K e_1 h q_2 => asg K rfl fun a K => nsl <| far F84_0 K rfl q_2 o84_0 fun a v_3 K q_4 => ldr1 (.int .i64 p0.Kind) K h rfl q_4 t51 vI fun a K => binC _ K rfl rfl rfl fun a K => asg K rfl fun a K => wn <| wt ?_
 obtain rfl := oi hm
 exact fr f226 K (St.sel [] rfl h) rfl ⟨rfl, ⟨⟩⟩ ⟨rfl, rfl⟩
abbrev R225_226 (r : Int) (v : Value) (H : Gh) : Prop := v = .int .i64 r
instance monR225_226 {r : Int} : MonR (R225_226 r) := ⟨fun _ _ _ _ h => h⟩
theorem c225_226 {p0 : (List T84)} {r : Int} (hm : m225_226 p0 = some r) {vp0 : Value} (hp0 : ((kSl k84).val G0 vp0 p0)) (h : St c G0 w []) : Calls prog 225 #[vp0, .func (.func 226) #[] #[]] w (FO c [] (R225_226 r)) := by
 unfold m225_226 at hm
 refine enter (n := 19) func225 rfl rfl rfl fun a K => sl <| asg K rfl fun a K => wn <| ws <| sl <| mv K rfl fun a K => lenV K rfl hp0 rfl s33 fun a K => mv K rfl fun a K => wn <| wb ?_
 obtain ⟨y_30, hy_30, hm⟩ := bs hm
 refine loop (S := Int) (R := Unit ⊕ Int) (fun s_20 a w => Jn c G0 [] 19 [(0, vp0), (1, .func (.func 226) #[] #[]), (4, .int .i64 0), (7, .int .i64 (p0.length : Int)), (8, .int .i64 s_20)] a w) (fun (y : Unit ⊕ Int) e a w => match y with | .inl p_31 => e = .exit 0 ∧ Jn c G0 [] 19 [(4, .int .i64 0)] a w | .inr q => e = .ret ∧ bodyPost prog f225 (FO c [] (R225_226 q)) e a w) hy_30 ⟨G0, gr, (St.sel [] rfl h), (K.sub (so rfl))⟩ ?_ ?_
 · intro s_20 y_33 a w hm hI
   obtain ⟨G4, e_4, h, K⟩ := hI
   unfold m225_226_l_32 at hm
   refine sl <| binC _ K rfl rfl rfl fun a K => wn <| ws <| ifm hm K rfl (fun _ hm => ?_) fun _ hm => ?_
   · refine wk <| ws <| wb <| sl <| mv K rfl fun a K => asg K rfl fun a K => nsl <| mv K rfl fun a K => mv K rfl fun a K => mv K rfl fun a K => ?_
     obtain ⟨g_35, hm⟩ := gs hm
     refine ixs K rfl (Kd.val_mono e_4 hp0) rfl g_35 s33 t84 fun a v_36 K q_37 => ldr K h rfl q_37 t84 fun a v_38 K q_39 => ?_
     obtain ⟨x_40, hx_40, hm⟩ := bs hm
     refine clvp K h rfl rfl b226 (fun h => c226 hx_40 q_39 h) fun a w v G7 K e_7 h hR_41 => ?_
     obtain rfl := hR_41
     refine wn <| ifm hm K rfl (fun _ hm => ?_) fun _ hm => ?_
     · refine sl <| mv K rfl fun a K => asg K rfl fun a K => wn <| wt ?_
       obtain rfl := oi hm
       exact ⟨by simp, rfl, (fr f225 K (St.sel [] rfl h) rfl ⟨rfl, ⟨⟩⟩ ⟨rfl, rfl⟩)⟩
     refine wk <| wl <| binI _ K rfl rfl rfl fun a K => mv K rfl fun a K => wn ?_
     obtain rfl := oi hm
     exact ⟨rfl, ⟨G7, (Gh.trans e_4 e_7), (St.sel [] rfl h), (K.sub (so rfl))⟩⟩
   refine wp_exit ?_
   obtain rfl := oi hm
   exact ⟨by simp, rfl, ⟨G4, e_4, (St.sel [] rfl h), (K.sub ⟨rfl, ⟨⟩⟩)⟩⟩
 intro e a w hD
 rcases y_30 with p_31 | q_43
 · simp only [Sum.elim_inl, Sum.elim_inr] at hm
   obtain ⟨rfl, ⟨G6, e_6, h, K⟩⟩ := hD
   refine sl <| asg K rfl fun a K => wn <| wt ?_
   obtain rfl := oi hm
   exact fr f225 K (St.sel [] rfl h) rfl ⟨rfl, ⟨⟩⟩ ⟨rfl, rfl⟩
 simp only [Sum.elim_inr] at hm
 obtain rfl := oi hm
 obtain ⟨rfl, hD⟩ := hD
 exact hD
abbrev R148 (r : T103 × Int) (v : Value) (H : Gh) : Prop := v = .int .i64 r.2
instance monR148 {r : T103 × Int} : MonR (R148 r) := ⟨fun _ _ _ _ h => h⟩
theorem c148 {p0 : T103} {p1 : Int} {p2 : Int} {p3 : Int} {B0 q0 q1 q2 n0 n1 n2 : Nat} {r : T103 × Int} (hm : m148 p0 p1 p2 p3 = some r) (h : St c G0 w ((o3 B0 q0 q1 q2 n0 n1 n2 p0))) : Calls prog 148 #[(pA B0 Ik103o), .int .i64 p1, .int .i64 p2, .int .i64 p3] w (FO c (o3 B0 q0 q1 q2 n0 n1 n2 r.1) (R148 r)) := by
 unfold m148 at hm
 refine enter (n := 30) func148 rfl rfl rfl fun a K => sl <| asg K rfl fun a K => nsl <| mv K rfl fun a K => nilck K rfl fun a K => fa F103_0o K rfl o103_0o fun a K => fa F37_3o K rfl o37_3o fun a K => ld 0 (J103_0o.comp F37_3o) K h rfl rfl rfl t32 fun a v_1 K q_2 => mv K rfl fun a K => mv K rfl fun a K => mv K rfl fun a K => ?_
 obtain ⟨x_3, hx_3, hm⟩ := bs hm
 refine clp K h rfl b46 (fun h => c46 hx_3 q_2 h) fun a w v G1 K e_1 h hR_4 => ?_
 obtain ⟨v_5, rfl, q_6⟩ := hR_4
 refine mv K rfl fun a K => extr K rfl rfl fun a K => extr K rfl rfl fun a K => asg K rfl fun a K => asg K rfl fun a K => wn <| ws <| sl <| mv K rfl fun a K => binC _ K rfl rfl rfl fun a K => wn <| ifm hm K rfl (fun _ hm => ?_) fun _ hm => ?_
 · refine sl <| asg K rfl fun a K => wn <| wt ?_
   obtain rfl := oi hm
   exact fr f148 K (St.sel [0, 1, 2, 3] rfl h) rfl ⟨rfl, ⟨⟩⟩ ⟨rfl, rfl⟩
 refine wk <| sl <| mv K rfl fun a K => mv K rfl fun a K => nilck K rfl fun a K => fa F103_0o K rfl o103_0o fun a K => fa F37_3o K rfl o37_3o fun a K => sto 0 (J103_0o.comp F37_3o) ([(⟨(⟨p0.p.Homes, p0.p.Now, p0.p.Salt, x_3.1, (hS q0 p0.p.Inodes n0), (hS q1 p0.p.Dirs n1), (hS q2 p0.p.Blocks n2)⟩ : T37o), p0.fds⟩ : T103o)]) K h rfl rfl rfl rfl q_6 t32 rfl rfl fun w h => nsl <| asg K rfl fun a K => wn <| wt ?_
 obtain rfl := oi hm
 exact fr f148 K (St.sel [0, 1, 2, 3] rfl h) rfl ⟨rfl, ⟨⟩⟩ ⟨rfl, rfl⟩
abbrev R151 (r : T103 × Int × Int) (v : Value) (H : Gh) : Prop := v = .tuple #[.int .i64 r.2.1, .int .i64 r.2.2]
instance monR151 {r : T103 × Int × Int} : MonR (R151 r) := ⟨fun _ _ _ _ h => h⟩
theorem c151 {p0 : T103} {p1 : T45} {p2 : T84} {B0 q0 q1 q2 n0 n1 n2 : Nat} {r : T103 × Int × Int} (hm : m151 p0 p1 p2 = some r) {vp1 : Value} {vp2 : Value} (hp1 : (k45.val G0 vp1 p1)) (hp2 : (k84.val G0 vp2 p2)) (h : St c G0 w ((o3 B0 q0 q1 q2 n0 n1 n2 p0))) : Calls prog 151 #[(pA B0 Ik103o), vp1, vp2] w (FO c (o3 B0 q0 q1 q2 n0 n1 n2 r.1) (R151 r)) := by
 unfold m151 at hm
 refine enter (n := 55) func151 rfl rfl rfl fun a K => sl <| boxr K h rfl hp1 fun a w v_1 G1 K e_1 h q_2 => box K h rfl (show k84.val _ _ _ from (Kd.val_mono e_1 hp2)) fun a w bk_3 K h => asg K rfl fun a K => asg K rfl fun a K => nsl <| mv K rfl fun a K => nilck K rfl fun a K => fa F103_0o K rfl o103_0o fun a K => fa F37_4o K rfl o37_4o fun a K => ld1 1 (J103_0o.comp F37_4o) (hS q0 p0.p.Inodes n0) K h rfl rfl rfl t33 vX fun a K => ?_
 obtain ⟨g_4, hm⟩ := gs hm
 refine slX k84 1 (p0.p.Inodes.length : Int) K rfl s33 t84 (.inr ⟨_, _, rfl, rfl⟩) (.inl ⟨rfl, rfl⟩) (sl2_cap 2 h rfl g_4) fun a K => ?_
 have h0 := h
 obtain ⟨G2, e_2, h, q_5⟩ := frzS 2 h rfl g_4
 obtain ⟨x_6, hx_6, hm⟩ := bs hm
 refine clb _ K h0 h rfl b225 (fun h => c225_226 hx_6 q_5 h) (fun _ _ hR => hR) fun a w K h => asg K rfl fun a K => wn <| ws <| sl <| mv K rfl fun a K => binC _ K rfl rfl rfl fun a K => wn <| ifm hm K rfl (fun _ hm => ?_) fun _ hm => ?_
 · refine sl <| asg K rfl fun a K => asg K rfl fun a K => wn <| wt ?_
   obtain rfl := oi hm
   exact fi f151 [_, _] K (St.sel [1, 2, 3, 4] rfl h) rfl ⟨rfl, rfl, ⟨⟩⟩ (.inl rfl) ⟨rfl, rfl⟩
 refine wk <| ws <| sl <| mv K rfl fun a K => far F45_1 K rfl q_2 o45_1 fun a v_9 K q_10 => ?_
 replace q_10 : (kRef (kInt .i64)).val _ v_9 p1.Uid := q_10
 refine ldr1 (.int .i64 p1.Uid) K h rfl q_10 t3 vI fun a K => ?_
 obtain ⟨x_11, hx_11, hm⟩ := bs hm
 refine clw (Δ₁ := (o3 B0 q0 q1 q2 n0 n1 n2 p0)) (Δ₂ := _) [4, 4, 4, 4] K h rfl rfl b148 (fun h => c148 hx_11 h) fun a w v G4 Δx K e_4 h hR_12 => ?_
 obtain ⟨rfl, hR_12⟩ := hR_12
 replace h := St.cast (Δ' := (o3 B0 q0 q1 q2 n0 n1 n2 x_11.1 ++ [⟨k84, [p2], 1, (some bk_3), 84⟩])) h rfl
 obtain rfl := hR_12
 refine asg K rfl fun a K => nsl <| mv K rfl fun a K => binC _ K rfl rfl rfl fun a K => wn <| ifm hm K rfl (fun _ hm => ?_) fun _ hm => ?_
 · refine sl <| mv K rfl fun a K => asg K rfl fun a K => asg K rfl fun a K => wn <| wt ?_
   obtain rfl := oi hm
   exact fi f151 [_, _] K (St.sel [0, 1, 2, 3] rfl h) rfl ⟨rfl, rfl, ⟨⟩⟩ (.inl rfl) ⟨rfl, rfl⟩
 refine wk <| ws ?_
 refine wp_hop (Δs := [(o3 B0 q0 q1 q2 n0 n1 n2 x_11.1 ++ [⟨k84, [p2], 1, (some bk_3), 84⟩]), (o3 B0 q0 q1 q2 n0 n1 n2 x_11.1 ++ [⟨k84, [({ p2 with Uid := p1.Uid } : T84)], 1, (some bk_3), 84⟩]), (o3 B0 q0 q1 q2 n0 n1 n2 x_11.1 ++ [⟨k84, [({ p2 with Uid := p1.Uid, Gid := p1.Gid } : T84)], 1, (some bk_3), 84⟩])]) 19 [(fT (kRef (kInt .i64)) p1.Uid), (fE (.int .i64 p1.Uid)), (fT (kRef (kInt .i64)) p1.Gid), (fE (.int .i64 p1.Gid)), (fE (pA B0 Ik103o)), (fE (pA B0 Ik103o)), (fE (pA B0 J103_0o)), (fE (pA B0 (J103_0o.comp F37_1o))), (fE (.float .f64 x_11.1.p.Now)), (fE (pA B0 Ik103o)), (fE (pA B0 Ik103o)), (fE (pA B0 J103_0o)), (fE (pA B0 (J103_0o.comp F37_1o))), (fE (.float .f64 x_11.1.p.Now)), (fT a52 [x_11.1.p.Now, x_11.1.p.Now]), (fE (pA bk_3 J84_2)), f0, (fE (pA bk_3 J84_3)), f0] [(0, (pA B0 Ik103o)), (4, v_1), (5, (pA bk_3 Ik84)), (6, .int .i64 0), (7, .int .i64 0), (8, .int .i64 x_6)] [16, 18] [[0], [0], [0, 1], [0, 1], [0, 1, 2], [0, 1, 2], [0, 1, 2], [0, 1, 2], [0, 1, 2], [0, 1, 2], [0, 1, 2], [0, 1, 2], [0, 1, 2], [0, 1, 2], [0, 1, 2], [0], [0], [1], [1]] [0, 1, 0, 4, 0, 16, 48, 112, 240, 0, 512, 1536, 3584, 7680, 16368, 3, 32771, 98319, 229391, 524287, 1048575] mx (by kernel_rfl) (by kernel_rfl) (by kernel_rfl) (by kernel_rfl) rfl rfl ⟨monT, monE, monT, monE, monE, monE, monE, monE, monE, monE, monE, monE, monE, monE, monT, monE, mon0, monE, mon0, ⟨⟩⟩ K h rfl rfl ⟨rfl, rfl, rfl, rfl, rfl, rfl, ⟨⟩⟩ ⟨(stg1 rfl rfl ?_), (stg1 rfl rfl ?_), (stg2 rfl rfl ?_ (stg1 rfl rfl ?_)), (stg2 rfl rfl ?_ (stg1 rfl rfl ?_)), (stg2 rfl rfl ?_ (stg2 rfl rfl ?_ (stg1 rfl rfl ?_))), (stg2 rfl rfl ?_ (stg2 rfl rfl ?_ (stg1 rfl rfl ?_))), (stg2 rfl rfl ?_ (stg2 rfl rfl ?_ (stg1 rfl rfl ?_))), (stg2 rfl rfl ?_ (stg2 rfl rfl ?_ (stg1 rfl rfl ?_))), (stg2 rfl rfl ?_ (stg2 rfl rfl ?_ (stg1 rfl rfl ?_))), (stg2 rfl rfl ?_ (stg2 rfl rfl ?_ (stg1 rfl rfl ?_))), (stg2 rfl rfl ?_ (stg2 rfl rfl ?_ (stg1 rfl rfl ?_))), (stg2 rfl rfl ?_ (stg2 rfl rfl ?_ (stg1 rfl rfl ?_))), (stg2 rfl rfl ?_ (stg2 rfl rfl ?_ (stg1 rfl rfl ?_))), (stg2 rfl rfl ?_ (stg2 rfl rfl ?_ (stg1 rfl rfl ?_))), (stg2 rfl rfl ?_ (stg2 rfl rfl ?_ (stg1 rfl rfl ?_))), (stg1 rfl rfl ?_), (stg1 rfl rfl ?_), (stg1 rfl rfl ?_), (stg1 rfl rfl ?_), ⟨⟩⟩ rfl ?_
 · exact hpT [(4, _)] (fun s _ => ⟨s.2.1, ⟨⟩⟩) fun e _ K t => far F45_1 K rfl (Kd.val_mono (Gh.trans e_4 e) q_2) o45_1 t
 · exact hpQ (t := 26) (fun k => k.1) fun _ h K q t => ldr1 (.int .i64 p1.Uid) K h rfl q t3 vI t
 · exact hpT [(4, _)] (fun s _ => ⟨s.2.1, ⟨⟩⟩) fun e _ K t => far F45_2 K rfl (Kd.val_mono (Gh.trans e_4 e) q_2) o45_2 t
 · exact hpT [(4, _)] (fun s _ => ⟨s.2.1, ⟨⟩⟩) fun e _ K t => far F45_2 K rfl (Kd.val_mono (Gh.trans e_4 e) q_2) o45_2 t
 · exact hpQ (t := 28) (fun k => k.1) fun _ h K q t => ldr1 (.int .i64 p1.Gid) K h rfl q t3 vI t
 · exact hpQ (t := 28) (fun k => k.1) fun _ h K q t => ldr1 (.int .i64 p1.Gid) K h rfl q t3 vI t
 · exact hpX [(0, _)] (fun s _ => ⟨s.1, ⟨⟩⟩) fun _ _ K t => mv K rfl t
 · exact hpX [(0, _)] (fun s _ => ⟨s.1, ⟨⟩⟩) fun _ _ K t => mv K rfl t
 · exact hpX [(0, _)] (fun s _ => ⟨s.1, ⟨⟩⟩) fun _ _ K t => mv K rfl t
 · exact hpX [(30, _)] k1 fun _ _ K t => nilck K rfl t
 · exact hpX [(30, _)] k1 fun _ _ K t => nilck K rfl t
 · exact hpX [(30, _)] k1 fun _ _ K t => nilck K rfl t
 · exact hpX [(31, _)] k1 fun _ _ K t => fa F103_0o K rfl o103_0o t
 · exact hpX [(31, _)] k1 fun _ _ K t => fa F103_0o K rfl o103_0o t
 · exact hpX [(31, _)] k1 fun _ _ K t => fa F103_0o K rfl o103_0o t
 · exact hpX [(32, _)] k1 fun _ _ K t => fa F37_1o K rfl o37_1o t
 · exact hpX [(32, _)] k1 fun _ _ K t => fa F37_1o K rfl o37_1o t
 · exact hpX [(32, _)] k1 fun _ _ K t => fa F37_1o K rfl o37_1o t
 · exact hpX [(33, _)] k1 fun _ h K t => ld1 0 (J103_0o.comp F37_1o) (.float .f64 x_11.1.p.Now) K h rfl rfl rfl t31 vF t
 · exact hpX [(33, _)] k1 fun _ h K t => ld1 0 (J103_0o.comp F37_1o) (.float .f64 x_11.1.p.Now) K h rfl rfl rfl t31 vF t
 · exact hpX [(33, _)] k1 fun _ h K t => ld1 0 (J103_0o.comp F37_1o) (.float .f64 x_11.1.p.Now) K h rfl rfl rfl t31 vF t
 · exact hpX [(0, _)] (fun s _ => ⟨s.1, ⟨⟩⟩) fun _ _ K t => mv K rfl t
 · exact hpX [(0, _)] (fun s _ => ⟨s.1, ⟨⟩⟩) fun _ _ K t => mv K rfl t
 · exact hpX [(0, _)] (fun s _ => ⟨s.1, ⟨⟩⟩) fun _ _ K t => mv K rfl t
 · exact hpX [(35, _)] k1 fun _ _ K t => nilck K rfl t
 · exact hpX [(35, _)] k1 fun _ _ K t => nilck K rfl t
 · exact hpX [(35, _)] k1 fun _ _ K t => nilck K rfl t
 · exact hpX [(36, _)] k1 fun _ _ K t => fa F103_0o K rfl o103_0o t
 · exact hpX [(36, _)] k1 fun _ _ K t => fa F103_0o K rfl o103_0o t
 · exact hpX [(36, _)] k1 fun _ _ K t => fa F103_0o K rfl o103_0o t
 · exact hpX [(37, _)] k1 fun _ _ K t => fa F37_1o K rfl o37_1o t
 · exact hpX [(37, _)] k1 fun _ _ K t => fa F37_1o K rfl o37_1o t
 · exact hpX [(37, _)] k1 fun _ _ K t => fa F37_1o K rfl o37_1o t
 · exact hpX [(38, _)] k1 fun _ h K t => ld1 0 (J103_0o.comp F37_1o) (.float .f64 x_11.1.p.Now) K h rfl rfl rfl t31 vF t
 · exact hpX [(38, _)] k1 fun _ h K t => ld1 0 (J103_0o.comp F37_1o) (.float .f64 x_11.1.p.Now) K h rfl rfl rfl t31 vF t
 · exact hpX [(38, _)] k1 fun _ h K t => ld1 0 (J103_0o.comp F37_1o) (.float .f64 x_11.1.p.Now) K h rfl rfl rfl t31 vF t
 · exact hpT [(34, _), (39, _)] k2 fun _ h K t => bldA (f := kF64) [x_11.1.p.Now, x_11.1.p.Now] K h rfl r52 t31 z52 (.cons (Fld.idx kF64 0 (by decide)) rfl f64_val (.cons (Fld.idx kF64 1 (by decide)) rfl f64_val .nil)) t
 · exact hpT [(34, _), (39, _)] k2 fun _ h K t => bldA (f := kF64) [x_11.1.p.Now, x_11.1.p.Now] K h rfl r52 t31 z52 (.cons (Fld.idx kF64 0 (by decide)) rfl f64_val (.cons (Fld.idx kF64 1 (by decide)) rfl f64_val .nil)) t
 · exact hpT [(34, _), (39, _)] k2 fun _ h K t => bldA (f := kF64) [x_11.1.p.Now, x_11.1.p.Now] K h rfl r52 t31 z52 (.cons (Fld.idx kF64 0 (by decide)) rfl f64_val (.cons (Fld.idx kF64 1 (by decide)) rfl f64_val .nil)) t
 · exact hpX [(5, _)] (fun s _ => ⟨s.2.2.1, ⟨⟩⟩) fun _ _ K t => fa F84_2 K rfl o84_2 t
 · intro a w G21 L X e_21 h K hs hk
   obtain ⟨v_49, _, l_50, -, rfl⟩ := hk.2.1
   obtain ⟨v_51, _, l_52, -, rfl⟩ := hk.1
   have hx : Sy.sub L [(27, _), (41, _)] := ⟨l_50, l_52, ⟨⟩⟩
   replace K := K.addx _ hx
   refine sto 4 J84_2 ([({ p2 with Uid := p1.Uid } : T84)]) K h rfl rfl rfl rfl int_val t3 rfl rfl fun w h => wn <| ⟨rfl, G21, [], gr, h, K.dropy _ hx, rfl⟩
 · exact hpX [(5, _)] (fun s _ => ⟨s.2.2.1, ⟨⟩⟩) fun _ _ K t => fa F84_3 K rfl o84_3 t
 · intro a w G23 L X e_23 h K hs hk
   obtain ⟨v_53, _, l_54, -, rfl⟩ := hk.2.1
   obtain ⟨v_55, _, l_56, -, rfl⟩ := hk.1
   have hx : Sy.sub L [(29, _), (42, _)] := ⟨l_54, l_56, ⟨⟩⟩
   replace K := K.addx _ hx
   refine sto 4 J84_3 ([({ p2 with Uid := p1.Uid, Gid := p1.Gid } : T84)]) K h rfl rfl rfl rfl int_val t3 rfl rfl fun w h => wn <| ⟨rfl, G23, [], gr, h, K.dropy _ hx, rfl⟩
 intro a w G48 L X e_48 h K hs hg
 obtain ⟨_, _, _, rfl, -, ⟨rfl, -⟩, hg⟩ := hg
 obtain ⟨_, _, _, rfl, -, ⟨rfl, -⟩, hg⟩ := hg
 obtain ⟨_, _, _, rfl, -, ⟨rfl, -⟩, hg⟩ := hg
 obtain ⟨_, _, _, rfl, -, ⟨rfl, -⟩, hg⟩ := hg
 obtain ⟨_, _, _, rfl, -, ⟨rfl, -⟩, hg⟩ := hg
 obtain ⟨_, _, _, rfl, -, ⟨rfl, -⟩, hg⟩ := hg
 obtain ⟨_, _, _, rfl, -, ⟨rfl, -⟩, hg⟩ := hg
 obtain ⟨_, _, _, rfl, -, ⟨rfl, -⟩, hg⟩ := hg
 obtain ⟨_, _, _, rfl, -, ⟨rfl, -⟩, hg⟩ := hg
 obtain ⟨_, _, _, rfl, -, ⟨rfl, -⟩, hg⟩ := hg
 obtain ⟨_, _, _, rfl, -, ⟨rfl, -⟩, hg⟩ := hg
 obtain ⟨_, _, _, rfl, -, ⟨rfl, -⟩, hg⟩ := hg
 obtain ⟨_, _, _, rfl, -, ⟨rfl, -⟩, hg⟩ := hg
 obtain ⟨_, _, _, rfl, -, ⟨rfl, -⟩, hg⟩ := hg
 obtain ⟨v_106, _, _, rfl, l_108, ⟨rfl, q_107⟩, hg⟩ := hg
 obtain ⟨_, _, _, rfl, -, ⟨rfl, -⟩, hg⟩ := hg
 obtain ⟨_, _, _, rfl, -, ⟨rfl, -⟩, hg⟩ := hg
 obtain rfl := hg
 replace h := St.cast (Δ' := (o3 B0 q0 q1 q2 n0 n1 n2 x_11.1 ++ [⟨k84, [({ p2 with Uid := p1.Uid, Gid := p1.Gid } : T84)], 1, (some bk_3), 84⟩])) h rfl
 replace K := K.sub (l' := [(40, _), (0, _), (5, _), (6, _), (7, _), (8, _)]) ⟨l_108, hs.1, hs.2.2.1, hs.2.2.2.1, hs.2.2.2.2.1, hs.2.2.2.2.2.1, ⟨⟩⟩
 refine fa F84_6 K rfl o84_6 fun a K => sto 4 J84_6 ([({ p2 with Uid := p1.Uid, Gid := p1.Gid, Times := [x_11.1.p.Now, x_11.1.p.Now] } : T84)]) K h rfl rfl rfl rfl q_107 t52 rfl rfl fun w h => wn <| ws <| wh 8 [fE _, fE _, fE _, fE _, fE _, fE _, fE _, (fT k84 ({ p2 with Uid := p1.Uid, Gid := p1.Gid, Times := [x_11.1.p.Now, x_11.1.p.Now] } : T84))] [(0, _), (5, _), (6, _), (7, _), (8, _)] mx K h (so rfl) ⟨hpX [(0, _)] (fun s _ => ⟨s.1, ⟨⟩⟩) fun _ _ K t => mv K rfl t, hpX [(44, _)] k1 fun _ _ K t => nilck K rfl t, hpX [(45, _)] k1 fun _ _ K t => fa F103_0o K rfl o103_0o t, hpX [(46, _)] k1 fun _ _ K t => fa F37_4o K rfl o37_4o t, hpX [(47, _)] k1 fun _ h K t => ld1 0 (J103_0o.comp F37_4o) (hS q0 x_11.1.p.Inodes n0) K h rfl rfl rfl t33 vX t, hpX [(8, _)] (fun s _ => ⟨s.2.2.2.2.1, ⟨⟩⟩) fun _ _ K t => mv K rfl t, hpX [(49, _)] k1 fun _ _ K t => binI _ K rfl rfl rfl t, hpT [(5, _)] (fun s _ => ⟨s.2.1, ⟨⟩⟩) fun _ h K t => ld 4 Ik84 K h rfl rfl rfl t84 t, ⟨⟩⟩ ?_
 intro a w G57 L e_57 h K hs hg
 obtain ⟨v_123, l_125, -, q_124⟩ := hg 7 rfl rfl
 replace K := K.sub (l' := [(48, _), (50, _), (51, _), (6, _), (7, _), (8, _)]) ⟨gE (hg 4 rfl rfl), gE (hg 6 rfl rfl), l_125, hs.2.2.1, hs.2.2.2.1, hs.2.2.2.2.1, ⟨⟩⟩
 obtain ⟨g_126, hm⟩ := gs hm
 refine ixo K rfl rfl g_126 s33 t84 fun a K => ?_
 have hl_127 : (st x_11.1.p.Inodes (wr (1 + x_6)) ({ p2 with Uid := p1.Uid, Gid := p1.Gid, Times := [x_11.1.p.Now, x_11.1.p.Now] } : T84)).length = x_11.1.p.Inodes.length := st_length
 refine sto 1 Ik84 ((st x_11.1.p.Inodes (wr (1 + x_6)) ({ p2 with Uid := p1.Uid, Gid := p1.Gid, Times := [x_11.1.p.Now, x_11.1.p.Now] } : T84))) K h rfl rfl (gt_some g_126) rfl q_124 t84 rfl rfl fun w h => nsl <| mv K rfl fun a K => binI _ K rfl rfl rfl fun a K => asg K rfl fun a K => asg K rfl fun a K => wn <| wt ?_
 replace h := (St.cast (St.sel [0, 1, 2, 3] rfl h) (show ([⟨k103o, [(⟨(⟨x_11.1.p.Homes, x_11.1.p.Now, x_11.1.p.Salt, x_11.1.p.Users, (hS q0 x_11.1.p.Inodes n0), (hS q1 x_11.1.p.Dirs n1), (hS q2 x_11.1.p.Blocks n2)⟩ : T37o), x_11.1.fds⟩ : T103o)], 1, (some B0), 103⟩, ⟨k84, (st x_11.1.p.Inodes (wr (1 + x_6)) ({ p2 with Uid := p1.Uid, Gid := p1.Gid, Times := [x_11.1.p.Now, x_11.1.p.Now] } : T84)), n0, (some q0), 84⟩, ⟨(kSl k87), x_11.1.p.Dirs, n1, (some q1), 85⟩, ⟨(kSl kByte), x_11.1.p.Blocks, n2, (some q2), 43⟩] : List Own) = [⟨k103o, [(⟨(⟨x_11.1.p.Homes, x_11.1.p.Now, x_11.1.p.Salt, x_11.1.p.Users, (hdr (some q0) (st x_11.1.p.Inodes (wr (1 + x_6)) ({ p2 with Uid := p1.Uid, Gid := p1.Gid, Times := [x_11.1.p.Now, x_11.1.p.Now] } : T84)).length n0), (hS q1 x_11.1.p.Dirs n1), (hS q2 x_11.1.p.Blocks n2)⟩ : T37o), x_11.1.fds⟩ : T103o)], 1, (some B0), 103⟩, ⟨k84, (st x_11.1.p.Inodes (wr (1 + x_6)) ({ p2 with Uid := p1.Uid, Gid := p1.Gid, Times := [x_11.1.p.Now, x_11.1.p.Now] } : T84)), n0, (some q0), 84⟩, ⟨(kSl k87), x_11.1.p.Dirs, n1, (some q1), 85⟩, ⟨(kSl kByte), x_11.1.p.Blocks, n2, (some q2), 43⟩] by rw [hl_127]))
 obtain rfl := oi hm
 exact fi f151 [_, _] K h rfl ⟨rfl, rfl, ⟨⟩⟩ (.inl rfl) ⟨rfl, rfl⟩
theorem cO43 {p0 r : List T87} (hm : m43 p0 = some r) {b m : Nat} (h : St c G0 w [⟨k87, p0, m, some b, 87⟩]) : Calls prog 43 #[hdr (some b) p0.length m] w (Fin c fun v H Δ => ∃ Δn, Δ = [⟨k87, p0, m, some b, 87⟩] ++ Δn ∧ ∃ b2 m2, Δn = [⟨k87, r, m2, some b2, 87⟩] ∧ v = hdr (some b2) r.length m2) := by
 obtain ⟨g, hm⟩ := gs hm
 obtain rfl := oi hm
 refine enter (n := 8) func43 rfl rfl rfl fun a K => sl <| asg K rfl fun a K => wn <| ws <| sl <| mv K rfl fun a K => binSl _ K rfl rfl s85 rfl fun a K => wn <| ifF K rfl rfl <| wk <| sl <| bldS0 (f := k87) K h s85 t87 fun a w b2 K h => mv K rfl fun a K => appO 0 1 K h rfl rfl rfl rfl rfl s85 s85 e87 g fun a w b3 m3 K h => asg K rfl fun a K => wn <| wt <| fr f43 K (St.sel [1, 0] rfl h) rfl ⟨rfl, ⟨⟩⟩ ⟨_, rfl, b3, m3, rfl, rfl⟩
theorem cV43 {p0 r : List T87} (hm : m43 p0 = some r) {v0 : Value} (h0 : (kSl k87).val G0 v0 p0) (h : St c G0 w []) : Calls prog 43 #[v0] w (Fin c fun v H Δ => ∃ Δn, Δ = [] ++ Δn ∧ ∃ b2 m2, Δn = [⟨k87, r, m2, b2, 87⟩] ∧ v = hdr b2 r.length m2) := by
 obtain ⟨g, hm⟩ := gs hm
 obtain rfl := oi hm
 obtain ⟨q, cp, rfl, hl, hq, -⟩ := kSl_val.1 h0
 cases q with
 | none =>
    obtain rfl := List.eq_nil_of_length_eq_zero (show p0.length = 0 by have := hq rfl; omega)
    simp only [List.length_nil]
    refine enter (n := 8) func43 rfl rfl rfl fun a K => ?_
    refine ws ?_
    refine wl ?_
    refine asg K rfl fun a K => ?_
    refine wn ?_
    refine ws ?_
    refine ws ?_
    refine wl ?_
    refine mv K rfl fun a K => ?_
    refine binSl _ K rfl rfl s85 rfl fun a K => ?_
    refine wn ?_
    refine ifT K rfl rfl ?_
    refine ws ?_
    refine wl ?_
    refine asg K rfl fun a K => ?_
    refine wn ?_
    refine wt ?_
    replace h := St.nil k87 87 h
    exact fr f43 K h rfl ⟨rfl, ⟨⟩⟩ ⟨_, rfl, none, 0, rfl, rfl⟩
 | some q =>
    refine enter (n := 8) func43 rfl rfl rfl fun a K => ?_
    refine ws ?_
    refine wl ?_
    refine asg K rfl fun a K => ?_
    refine wn ?_
    refine ws ?_
    refine ws ?_
    refine wl ?_
    refine mv K rfl fun a K => ?_
    refine binSl _ K rfl rfl s85 rfl fun a K => ?_
    refine wn ?_
    refine ifF K rfl rfl ?_
    refine wk ?_
    refine ws ?_
    refine wl ?_
    refine bldS0 (f := k87) K h s85 t87 fun a w b2 K h => ?_
    refine mv K rfl fun a K => ?_
    refine appV 0 K h rfl rfl rfl h0 rfl s85 s85 e87 g fun a w b3 m3 K h => ?_
    refine asg K rfl fun a K => ?_
    refine wn ?_
    refine wt ?_
    exact fr f43 K h rfl ⟨rfl, ⟨⟩⟩ ⟨_, rfl, some b3, m3, rfl, rfl⟩
end Go.Proofs.YthhhomgbpnmeeaaGreatDoor
