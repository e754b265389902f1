/- Each Go function does what its plain function says, where that comes to a value; printed by a program. -/
import Derived.Test.YthhhomgbpnmeeaaGreatDoorFn1
set_option linter.all false
namespace Go.Proofs.YthhhomgbpnmeeaaGreatDoor
open Go Go.Sy
set_option maxRecDepth 100000
set_option maxHeartbeats 2000000
open Tryz
variable {c : Cx} {G0 : Gh} {w : World}
abbrev R135 (r : Int) (v : Value) (H : Gh) : Prop := v = .int .i64 r
instance monR135 {r : Int} : MonR (R135 r) := ⟨fun _ _ _ _ h => h⟩
theorem c135 {p0 : (List T108)} {r : Int} (hm : m135 p0 = some r) {vp0 : Value} (hp0 : ((kSl k108).val G0 vp0 p0)) (h : St c G0 w []) : Calls prog 135 #[vp0] w (FO c [] (R135 r)) := by
 unfold m135 at hm
 refine enter (n := 37) func135 rfl rfl rfl fun a K => sl <| asg K rfl fun a K => wn <| ws <| sl <| mv K rfl fun a K => lenV K rfl hp0 rfl s81 fun a K => binC _ K rfl rfl rfl fun a K => wn <| ifm hm K rfl (fun _ hm => ?_) fun _ hm => ?_
 · refine sl <| asg K rfl fun a K => wn <| wt ?_
   obtain rfl := oi hm
   exact fr f135 K (St.sel [] rfl h) rfl ⟨rfl, ⟨⟩⟩ ⟨rfl, rfl⟩
 refine wk <| ws <| sl <| mv K rfl fun a K => lenV K rfl hp0 rfl s81 fun a K => mv K rfl fun a K => wn <| wb ?_
 obtain ⟨y_265, hy_265, hm⟩ := bs hm
 refine loop (S := Int) (R := Unit ⊕ Int) (fun s_177 a w => Jn c G0 [] 37 [(0, vp0), (2, .int .i64 0), (8, vp0), (9, .int .i64 (p0.length : Int)), (10, .int .i64 s_177)] a w) (fun (y : Unit ⊕ Int) e a w => match y with | .inl p_266 => e = .exit 0 ∧ Jn c G0 [] 37 [(2, .int .i64 0)] a w | .inr q => e = .ret ∧ bodyPost prog f135 (FO c [] (R135 q)) e a w) hy_265 ⟨G0, gr, (St.sel [] rfl h), (K.sub (so rfl))⟩ ?_ ?_
 · intro s_177 y_268 a w hm hI
   obtain ⟨G48, e_48, h, K⟩ := hI
   unfold m135_l_267 at hm
   refine sl <| binC _ K rfl rfl rfl fun a K => wn <| ws <| ifm hm K rfl (fun _ hm => ?_) fun _ hm => ?_
   · refine wk <| ws <| wb <| sl <| mv K rfl fun a K => ?_
     obtain ⟨g_270, hm⟩ := gs hm
     refine ixs K rfl (Kd.val_mono e_48 hp0) rfl g_270 s81 t108 fun a v_271 K q_272 => ldr K h rfl q_272 t108 fun a v_273 K q_274 => alc K h z108 fun a w bk_275 K h => asg K rfl fun a K => sto 0 Ik108 ([(gt p0 s_177)]) K h rfl rfl rfl rfl q_274 t108 rfl rfl fun w h => wn <| ws ?_
     obtain ⟨x_287, hx_287, hm⟩ := bs hm
     obtain ⟨x_299, hx_299, hm⟩ := nm_some hm
     obtain ⟨g_310, hm⟩ := gs hm
     obtain ⟨x_338, hx_338, hm⟩ := nm_some hm
     obtain ⟨x_344, hx_344, hm⟩ := nm_some hm
     refine wh 21 [fE _, fE _, fE _, (fT (kSl kByte) ((gt p0 s_177).Value)), (fE (.bool x_287)), fE _, fE _, (fG (!(!x_287)) (fE (.int .i64 s_177))), (fG (!(!x_287)) (fE (.bool (decide (s_177 > 0))))), (fG (!(!x_287)) (fE (.bool x_299))), (fG ((!(!x_287)) && x_299) (fT (kSl k108) p0)), (fG ((!(!x_287)) && x_299) (fE (.int .i64 s_177))), (fG ((!(!x_287)) && x_299) (fE (.int .i64 (wr (s_177 - 1))))), (fG ((!(!x_287)) && x_299) (fT (kRef k108) (gt p0 (wr (s_177 - 1))))), (fG ((!(!x_287)) && x_299) (fT (kRef kStr) ((gt p0 (wr (s_177 - 1))).Name))), (fG ((!(!x_287)) && x_299) (fE (.string ((gt p0 (wr (s_177 - 1))).Name)))), (fG ((!(!x_287)) && x_299) (fE (pA bk_275 J108_0))), (fG ((!(!x_287)) && x_299) (fE (.string ((gt p0 s_177).Name)))), (fG ((!(!x_287)) && x_299) (fE (.bool (!sLt ((gt p0 (wr (s_177 - 1))).Name) ((gt p0 s_177).Name))))), (fG (!(!x_287)) (fE (.bool x_338))), (fE (.bool x_344))] [(0, _), (2, _), (3, _), (4, _), (8, _), (9, _), (10, _), (11, _), (12, _), (13, _), (14, _)] mx K h (so rfl) ⟨hpX [(4, _)] (fun s _ => ⟨s.2.2.2.1, ⟨⟩⟩) fun _ _ K t => fa F108_0 K rfl o108_0 t, hpX [(15, _)] k1 fun _ h K t => ld1 0 J108_0 (.string ((gt p0 s_177).Name)) K h rfl rfl rfl t9 vS t, hpX [(4, _)] (fun s _ => ⟨s.2.2.2.1, ⟨⟩⟩) fun _ _ K t => fa F108_1 K rfl o108_1 t, hpT [(17, _)] k1 fun _ h K t => ld 0 J108_1 K h rfl rfl rfl t43 t, ?_, hpX [(19, _)] k1 fun _ _ K t => notB _ K rfl rfl t, hpX [(20, _)] k1 fun _ _ K t => mv K rfl t, Hp.gd 0 rfl rfl rfl rfl rfl rfl gE_f rfl (fun hc => hpX [(3, _)] (fun s _ => ⟨s.2.2.1, ⟨⟩⟩) fun _ _ K t => mv K rfl t) nilE, ?_, ?_, ?_, Hp.gd 0 rfl rfl rfl rfl rfl rfl gG_t rfl (fun hc => hpX [(3, _)] (fun s _ => ⟨s.2.2.1, ⟨⟩⟩) fun _ _ K t => mv K rfl t) nilE, ?_, ?_, ?_, ?_, Hp.gd 0 rfl rfl rfl rfl rfl rfl gG_t rfl (fun hc => hpX [(4, _)] (fun s _ => ⟨s.2.2.2.1, ⟨⟩⟩) fun _ _ K t => fa F108_0 K rfl o108_0 t) nilE, ?_, ?_, ?_, ?_, ⟨⟩⟩ ?_
     · intro a w G77 L X e_77 h K hs hk
       obtain ⟨v_282, _, l_283, -, rfl⟩ := hk.1
       obtain ⟨v_284, _, l_285, -, q_286⟩ := hk.2.1
       have hx : Sy.sub L [(16, .string ((gt p0 s_177).Name)), (18, v_284)] := ⟨l_283, l_285, ⟨⟩⟩
       replace K := K.addx _ hx
       refine clp K h rfl b219 (fun h => c219 hx_287 q_286 h) fun a w v G78 K e_78 h hR_288 => ?_
       obtain rfl := hR_288
       refine wn <| ⟨rfl, G78, [], e_78, h, _, K.dropx _ hx, ⟨rfl, rfl⟩⟩
     · refine Hp.gd 1 rfl rfl rfl rfl rfl rfl gE_f rfl (fun hc => ?_) nilE
       intro a w G82 L X e_82 h K hs hk
       obtain ⟨v_293, _, l_294, -, f_295, -⟩ := hk.1
       obtain ⟨-, rfl⟩ := f_295 hc
       have hx : Sy.sub L [(22, .int .i64 s_177)] := ⟨l_294, ⟨⟩⟩
       replace K := K.addx _ hx
       refine binC _ K rfl rfl rfl fun a K => wn <| ⟨rfl, G82, [], gr, h, _, K.dropx _ hx, ⟨rfl, rfl⟩⟩
     · refine Hp.gd 1 rfl rfl rfl rfl rfl rfl gE_f rfl (fun hc => ?_) nilE
       intro a w G83 L X e_83 h K hs hk
       obtain ⟨v_296, _, l_297, -, f_298, -⟩ := hk.1
       obtain ⟨-, rfl⟩ := f_298 hc
       have hx : Sy.sub L [(23, .bool (decide (s_177 > 0)))] := ⟨l_297, ⟨⟩⟩
       replace K := K.addx _ hx
       refine mv K rfl fun a K => wn <| ⟨rfl, G83, [], gr, h, _, K.dropx _ hx, ⟨rfl, congrArg Value.bool hx_299.symm⟩⟩
     · refine Hp.gd 0 rfl rfl rfl rfl rfl rfl gG_t rfl (fun hc => ?_) nilT
       intro a w G84 L X e_84 h K hs hk
       have hx : Sy.sub L [(0, vp0)] := ⟨hs.1, ⟨⟩⟩
       replace K := K.addx _ hx
       refine mv K rfl fun a K => wn <| ⟨rfl, G84, [], gr, h, _, K.dropx _ hx, ⟨rfl, (Kd.val_mono (Gh.trans e_48 e_84) hp0)⟩⟩
     · refine Hp.gd 1 rfl rfl rfl rfl rfl rfl gG_t rfl (fun hc => ?_) nilE
       intro a w G86 L X e_86 h K hs hk
       obtain ⟨v_300, _, l_301, -, f_302, -⟩ := hk.1
       obtain ⟨-, rfl⟩ := f_302 hc
       have hx : Sy.sub L [(26, .int .i64 s_177)] := ⟨l_301, ⟨⟩⟩
       replace K := K.addx _ hx
       refine binI _ K rfl rfl rfl fun a K => wn <| ⟨rfl, G86, [], gr, h, _, K.dropx _ hx, ⟨rfl, rfl⟩⟩
     · refine Hp.gd 2 rfl rfl rfl rfl rfl rfl gG_t rfl (fun hc => ?_) nilT
       intro a w G87 L X e_87 h K hs hk
       obtain ⟨v_303, _, l_304, -, f_305, -⟩ := hk.1
       obtain ⟨-, q_306⟩ := f_305 hc
       obtain ⟨v_307, _, l_308, -, f_309, -⟩ := hk.2.1
       obtain ⟨-, rfl⟩ := f_309 hc
       have hx : Sy.sub L [(25, v_303), (27, .int .i64 (wr (s_177 - 1)))] := ⟨l_304, l_308, ⟨⟩⟩
       replace K := K.addx _ hx
       refine ixs K rfl q_306 rfl (orr g_310 hc) s81 t108 fun a v_311 K q_312 => wn <| ⟨rfl, G87, [], gr, h, _, K.dropx _ hx, ⟨rfl, q_312⟩⟩
     · refine Hp.gd 1 rfl rfl rfl rfl rfl rfl gG_t rfl (fun hc => ?_) nilT
       intro a w G88 L X e_88 h K hs hk
       obtain ⟨v_313, _, l_314, -, f_315, -⟩ := hk.1
       obtain ⟨-, q_316⟩ := f_315 hc
       have hx : Sy.sub L [(28, v_313)] := ⟨l_314, ⟨⟩⟩
       replace K := K.addx _ hx
       refine far F108_0 K rfl q_316 o108_0 fun a v_317 K q_318 => ?_
       replace q_318 : (kRef kStr).val _ v_317 ((gt p0 (wr (s_177 - 1))).Name) := q_318
       refine wn <| ⟨rfl, G88, [], gr, h, _, K.dropx _ hx, ⟨rfl, q_318⟩⟩
     · refine Hp.gd 1 rfl rfl rfl rfl rfl rfl gG_t rfl (fun hc => ?_) nilE
       intro a w G89 L X e_89 h K hs hk
       obtain ⟨v_319, _, l_320, -, f_321, -⟩ := hk.1
       obtain ⟨-, q_322⟩ := f_321 hc
       have hx : Sy.sub L [(29, v_319)] := ⟨l_320, ⟨⟩⟩
       replace K := K.addx _ hx
       refine ldr1 (.string ((gt p0 (wr (s_177 - 1))).Name)) K h rfl q_322 t9 vS fun a K => wn <| ⟨rfl, G89, [], gr, h, _, K.dropx _ hx, ⟨rfl, rfl⟩⟩
     · refine Hp.gd 1 rfl rfl rfl rfl rfl rfl gG_t rfl (fun hc => ?_) nilE
       intro a w G91 L X e_91 h K hs hk
       obtain ⟨v_323, _, l_324, -, f_325, -⟩ := hk.1
       obtain ⟨-, rfl⟩ := f_325 hc
       have hx : Sy.sub L [(31, (pA bk_275 J108_0))] := ⟨l_324, ⟨⟩⟩
       replace K := K.addx _ hx
       refine ld1 0 J108_0 (.string ((gt p0 s_177).Name)) K h rfl rfl rfl t9 vS fun a K => wn <| ⟨rfl, G91, [], gr, h, _, K.dropx _ hx, ⟨rfl, rfl⟩⟩
     · refine Hp.gd 2 rfl rfl rfl rfl rfl rfl gG_t rfl (fun hc => ?_) nilE
       intro a w G92 L X e_92 h K hs hk
       obtain ⟨v_326, _, l_327, -, f_328, -⟩ := hk.1
       obtain ⟨-, rfl⟩ := f_328 hc
       obtain ⟨v_329, _, l_330, -, f_331, -⟩ := hk.2.1
       obtain ⟨-, rfl⟩ := f_331 hc
       have hx : Sy.sub L [(30, .string ((gt p0 (wr (s_177 - 1))).Name)), (32, .string ((gt p0 s_177).Name))] := ⟨l_327, l_330, ⟨⟩⟩
       replace K := K.addx _ hx
       refine binS _ K rfl rfl rfl fun a K => wn <| ⟨rfl, G92, [], gr, h, _, K.dropx _ hx, ⟨rfl, rfl⟩⟩
     · refine Hp.gd 2 rfl rfl rfl rfl rfl rfl gE_f rfl (fun hc => ?_) nilE
       intro a w G93 L X e_93 h K hs hk
       obtain ⟨v_332, _, l_333, -, f_334, -⟩ := hk.1
       obtain ⟨-, rfl⟩ := f_334 hc
       obtain ⟨v_335, _, l_336, -, f_337, -⟩ := hk.2.1
       have hx : Sy.sub L [(24, .bool x_299), (33, v_335)] := ⟨l_333, l_336, ⟨⟩⟩
       replace K := K.addx _ hx
       refine pickAnd K rfl rfl rfl (fun hA => (f_337 (and_i hc hA)).2) fun a K => wn <| ⟨rfl, G93, [], gr, h, _, K.dropx _ hx, ⟨rfl, congrArg Value.bool hx_338.symm⟩⟩
     · intro a w G94 L X e_94 h K hs hk
       obtain ⟨v_339, _, l_340, -, rfl⟩ := hk.1
       obtain ⟨v_341, _, l_342, -, f_343, -⟩ := hk.2.1
       have hx : Sy.sub L [(21, .bool (!x_287)), (34, v_341)] := ⟨l_340, l_342, ⟨⟩⟩
       replace K := K.addx _ hx
       refine pickOr K rfl rfl rfl (fun hA => (f_343 (not_f hA)).2) fun a K => wn <| ⟨rfl, G94, [], gr, h, _, K.dropx _ hx, ⟨rfl, congrArg Value.bool hx_344.symm⟩⟩
     intro a w G95 L e_95 h K hs hg
     obtain ⟨v_348, l_350, -, q_349⟩ := hg 3 rfl rfl
     replace K := K.sub (l' := [(15, _), (16, _), (17, _), (18, _), (19, _), (20, _), (21, _), (35, _), (0, _), (2, _), (3, _), (4, _), (8, _), (9, _), (10, _), (11, _), (12, _), (13, _), (14, _)]) ⟨gE (hg 0 rfl rfl), gE (hg 1 rfl rfl), gE (hg 2 rfl rfl), l_350, gE (hg 4 rfl rfl), gE (hg 5 rfl rfl), gE (hg 6 rfl rfl), gE (hg 20 rfl rfl), hs.1, hs.2.1, hs.2.2.1, hs.2.2.2.1, hs.2.2.2.2.1, hs.2.2.2.2.2.1, hs.2.2.2.2.2.2.1, hs.2.2.2.2.2.2.2.1, hs.2.2.2.2.2.2.2.2.1, hs.2.2.2.2.2.2.2.2.2.1, hs.2.2.2.2.2.2.2.2.2.2.1, ⟨⟩⟩
     refine wn <| ifm hm K rfl (fun _ hm => ?_) fun _ hm => ?_
     · refine sl <| asg K rfl fun a K => wn <| wt ?_
       obtain rfl := oi hm
       exact ⟨by simp, rfl, (fr f135 K (St.sel [] rfl h) rfl ⟨rfl, ⟨⟩⟩ ⟨rfl, rfl⟩)⟩
     refine wk <| wl <| binI _ K rfl rfl rfl fun a K => mv K rfl fun a K => wn ?_
     obtain rfl := oi hm
     exact ⟨rfl, ⟨G95, (Gh.trans e_48 e_95), (St.sel [] rfl h), (K.sub (so rfl))⟩⟩
   refine wp_exit ?_
   obtain rfl := oi hm
   exact ⟨by simp, rfl, ⟨G48, e_48, (St.sel [] rfl h), (K.sub ⟨rfl, ⟨⟩⟩)⟩⟩
 intro e a w hD
 rcases y_265 with p_266 | q_356
 · simp only [Sum.elim_inl, Sum.elim_inr] at hm
   obtain ⟨rfl, ⟨G72, e_72, h, K⟩⟩ := hD
   refine sl <| asg K rfl fun a K => wn <| wt ?_
   obtain rfl := oi hm
   exact fr f135 K (St.sel [] rfl h) rfl ⟨rfl, ⟨⟩⟩ ⟨rfl, rfl⟩
 simp only [Sum.elim_inr] at hm
 obtain rfl := oi hm
 obtain ⟨rfl, hD⟩ := hD
 exact hD
abbrev R314 (r : Int) (v : Value) (H : Gh) : Prop := v = .int .i64 r
instance monR314 {r : Int} : MonR (R314 r) := ⟨fun _ _ _ _ h => h⟩
theorem c314 {p0 : ByteArray} {p1 : ByteArray} {r : Int} (hm : m314 p0 p1 = some r) (h : St c G0 w []) : Calls prog 314 #[.string p0, .string p1] w (FO c [] (R314 r)) := by
 unfold m314 at hm
 refine enter (n := 8) func314 rfl rfl rfl fun a K => sl <| asg K rfl fun a K => nsl <| mv K rfl fun a K => mv K rfl fun a K => clx (.int .i64 (Extern.BytealgCompare.cmp p0 p1)) x333 K rfl x_cmp fun a K => asg K rfl fun a K => wn <| wt ?_
 obtain rfl := oi hm
 exact fr f314 K (St.sel [] rfl h) rfl ⟨rfl, ⟨⟩⟩ ⟨rfl, rfl⟩
abbrev R290 (r : Int) (v : Value) (H : Gh) : Prop := v = .int .i64 r
instance monR290 {r : Int} : MonR (R290 r) := ⟨fun _ _ _ _ h => h⟩
theorem c290 {p0 : ByteArray} {p1 : ByteArray} {r : Int} (hm : m290 p0 p1 = some r) (h : St c G0 w []) : Calls prog 290 #[.string p0, .string p1] w (FO c [] (R290 r)) := by
 unfold m290 at hm
 refine enter (n := 8) func290 rfl rfl rfl fun a K => sl <| asg K rfl fun a K => nsl <| mv K rfl fun a K => mv K rfl fun a K => ?_
 obtain ⟨x_1, hx_1, hm⟩ := bs hm
 refine clp K h rfl b314 (fun h => c314 hx_1 h) fun a w v G1 K e_1 h hR_2 => ?_
 obtain rfl := hR_2
 refine asg K rfl fun a K => wn <| wt ?_
 obtain rfl := oi hm
 exact fr f290 K (St.sel [] rfl h) rfl ⟨rfl, ⟨⟩⟩ ⟨rfl, rfl⟩
abbrev R289 (r : Int) (v : Value) (H : Gh) : Prop := v = .int .i64 r
instance monR289 {r : Int} : MonR (R289 r) := ⟨fun _ _ _ _ h => h⟩
theorem c289 {p0 : T108} {p1 : ByteArray} {r : Int} (hm : m289 p0 p1 = some r) {vp0 : Value} (hp0 : (k108.val G0 vp0 p0)) (h : St c G0 w []) : Calls prog 289 #[vp0, .string p1] w (FO c [] (R289 r)) := by
 unfold m289 at hm
 refine enter (n := 9) func289 rfl rfl rfl fun a K => sl <| boxr K h rfl hp0 fun a w v_1 G1 K e_1 h q_2 => asg K rfl fun a K => nsl <| far F108_0 K rfl q_2 o108_0 fun a v_3 K q_4 => ldr1 (.string p0.Name) K h rfl q_4 t9 vS fun a K => mv K rfl fun a K => ?_
 obtain ⟨x_5, hx_5, hm⟩ := bs hm
 refine clp K h rfl b290 (fun h => c290 hx_5 h) fun a w v G2 K e_2 h hR_6 => ?_
 obtain rfl := hR_6
 refine asg K rfl fun a K => wn <| wt ?_
 obtain rfl := oi hm
 exact fr f289 K (St.sel [] rfl h) rfl ⟨rfl, ⟨⟩⟩ ⟨rfl, rfl⟩
abbrev R288_289 (r : Int × Bool) (v : Value) (H : Gh) : Prop := v = .tuple #[.int .i64 r.1, .bool r.2]
instance monR288_289 {r : Int × Bool} : MonR (R288_289 r) := ⟨fun _ _ _ _ h => h⟩
theorem c288_289 {p0 : (List T108)} {p1 : ByteArray} {r : Int × Bool} (hm : m288_289 p0 p1 = some r) {vp0 : Value} (hp0 : ((kSl k108).val G0 vp0 p0)) (h : St c G0 w []) : Calls prog 288 #[vp0, .string p1, .func (.func 289) #[] #[]] w (FO c [] (R288_289 r)) := by
 unfold m288_289 at hm
 refine enter (n := 49) func288 rfl rfl rfl fun a K => sl <| asg K rfl fun a K => asg K rfl fun a K => nsl <| mv K rfl fun a K => lenV K rfl hp0 rfl s81 fun a K => asg K rfl fun a K => nsl <| mv K rfl fun a K => asg K rfl fun a K => asg K rfl fun a K => wn <| ws <| wb ?_
 obtain ⟨p_31, hp_31, hm⟩ := bs hm
 refine loop (S := Int × Int) (R := Int) (fun s_20 a w => Jn c G0 [] 49 [(0, vp0), (1, .string p1), (2, .func (.func 289) #[] #[]), (6, .int .i64 0), (7, .bool false), (8, .int .i64 (p0.length : Int)), (9, .int .i64 s_20.1), (10, .int .i64 s_20.2)] a w) (fun (p_31 : Int) e a w => e = .exit 0 ∧ Jn c G0 [] 49 [(0, vp0), (1, .string p1), (2, .func (.func 289) #[] #[]), (6, .int .i64 0), (7, .bool false), (8, .int .i64 (p0.length : Int)), (9, .int .i64 p_31)] a w) hp_31 ⟨G0, gr, (St.sel [] rfl h), (K.sub (so rfl))⟩ ?_ ?_
 · intro s_20 y_33 a w hm hI
   obtain ⟨G4, e_4, h, K⟩ := hI
   unfold m288_289_l_32 at hm
   refine ws <| sl <| mv K rfl fun a K => mv K rfl fun a K => binC _ K rfl rfl rfl fun a K => wn <| ifm hm K rfl (fun _ hm => ?_) fun _ hm => ?_
   · refine wk <| wb <| sl <| mv K rfl fun a K => mv K rfl fun a K => binI _ K rfl rfl rfl fun a K => cvtI _ K rfl ⟨_, u3⟩ u80 rfl fun a K => binShr _ K rfl rfl rfl rfl fun a K => cvtI _ K rfl ⟨_, u80⟩ u3 rfl fun a K => asg K rfl fun a K => nsl <| mv K rfl fun a K => mv K rfl fun a K => mv K rfl fun a K => ?_
     obtain ⟨g_35, hm⟩ := gs hm
     refine ixs K rfl (Kd.val_mono e_4 hp0) rfl g_35 s81 t108 fun a v_36 K q_37 => ldr K h rfl q_37 t108 fun a v_38 K q_39 => mv K rfl fun a K => ?_
     obtain ⟨x_40, hx_40, hm⟩ := bs hm
     refine clvp K h rfl rfl b289 (fun h => c289 hx_40 q_39 h) fun a w v G7 K e_7 h hR_41 => ?_
     obtain rfl := hR_41
     refine binC _ K rfl rfl rfl fun a K => wn <| ifm hm K rfl (fun _ hm => ?_) fun _ hm => ?_
     · refine wl <| mv K rfl fun a K => binI _ K rfl rfl rfl fun a K => asg K rfl fun a K => wn ?_
       obtain rfl := oi hm
       exact ⟨rfl, ⟨G7, (Gh.trans e_4 e_7), (St.sel [] rfl h), (K.sub (so rfl))⟩⟩
     refine wl <| mv K rfl fun a K => asg K rfl fun a K => wn ?_
     obtain rfl := oi hm
     exact ⟨rfl, ⟨G7, (Gh.trans e_4 e_7), (St.sel [] rfl h), (K.sub (so rfl))⟩⟩
   refine wp_exit ?_
   obtain rfl := oi hm
   exact ⟨by simp, rfl, ⟨G4, e_4, (St.sel [] rfl h), (K.sub (so rfl))⟩⟩
 intro e a w hD
 obtain ⟨rfl, ⟨G6, e_6, h, K⟩⟩ := hD
 refine sl <| mv K rfl fun a K => mv K rfl fun a K => mv K rfl fun a K => binC _ K rfl rfl rfl fun a K => mv K rfl fun a K => ?_
 rcases im hm with ⟨c_43, hm⟩ | ⟨c_43, hm⟩
 · refine g2 K c_43 <| mv K rfl fun a K => g2 K c_43 <| mv K rfl fun a K => g2 K c_43 <| mv K rfl fun a K => gy K rfl rfl c_43 ?_
   obtain ⟨g_44, hm⟩ := gs hm
   refine ixs K rfl (Kd.val_mono e_6 hp0) rfl g_44 s81 t108 fun a v_45 K q_46 => g2 K c_43 <| ldr K h rfl q_46 t108 fun a v_47 K q_48 => g2 K c_43 <| mv K rfl fun a K => gy K rfl rfl c_43 ?_
   obtain ⟨x_49, hx_49, hm⟩ := bs hm
   refine clvp K h rfl rfl b289 (fun h => c289 hx_49 q_48 h) fun a w v G8 K e_8 h hR_50 => ?_
   obtain rfl := hR_50
   refine g2 K c_43 <| binC _ K rfl rfl rfl fun a K => pkT K rfl c_43 rfl fun a K => asg K rfl fun a K => asg K rfl fun a K => wn <| wt ?_
   obtain rfl := oi hm
   exact fi f288 [_, _] K (St.sel [] rfl h) rfl ⟨rfl, rfl, ⟨⟩⟩ (.inl rfl) ⟨rfl, rfl⟩
 refine g1 K c_43 fun a K => g1 K c_43 fun a K => g1 K c_43 fun a K => g1 K c_43 fun a K => g1 K c_43 fun a K => g1 K c_43 fun a K => g1 K c_43 fun a K => g1 K c_43 fun a K => pkF K rfl c_43 rfl fun a K => asg K rfl fun a K => asg K rfl fun a K => wn <| wt ?_
 obtain rfl := oi hm
 exact fi f288 [_, _] K (St.sel [] rfl h) rfl ⟨rfl, rfl, ⟨⟩⟩ (.inl rfl) ⟨rfl, rfl⟩
abbrev R234 (r : Int × Bool) (v : Value) (H : Gh) : Prop := v = .tuple #[.int .i64 r.1, .bool r.2]
instance monR234 {r : Int × Bool} : MonR (R234 r) := ⟨fun _ _ _ _ h => h⟩
theorem c234 {p0 : (List T108)} {p1 : ByteArray} {r : Int × Bool} (hm : m234 p0 p1 = some r) {vp0 : Value} (hp0 : ((kSl k108).val G0 vp0 p0)) (h : St c G0 w []) : Calls prog 234 #[vp0, .string p1] w (FO c [] (R234 r)) := by
 unfold m234 at hm
 refine enter (n := 11) func234 rfl rfl rfl fun a K => sl <| asg K rfl fun a K => asg K rfl fun a K => nsl <| mv K rfl fun a K => mv K rfl fun a K => ?_
 obtain ⟨x_1, hx_1, hm⟩ := bs hm
 refine clp K h rfl b288 (fun h => c288_289 hx_1 hp0 h) fun a w v G1 K e_1 h hR_2 => ?_
 obtain rfl := hR_2
 refine extr K rfl rfl fun a K => extr K rfl rfl fun a K => asg K rfl fun a K => asg K rfl fun a K => wn <| wt ?_
 obtain rfl := oi hm
 exact fi f234 [_, _] K (St.sel [] rfl h) rfl ⟨rfl, rfl, ⟨⟩⟩ (.inl rfl) ⟨rfl, rfl⟩
abbrev R166 (r : (List T108) × Int) (v : Value) (H : Gh) : Prop := ∃ u0, v = .tuple #[u0, .int .i64 r.2] ∧ (kSl k108).val H u0 r.1
instance monR166 {r : (List T108) × Int} : MonR (R166 r) := by
 constructor
 rintro G H v e ⟨u0, rfl, q0⟩
 exact ⟨u0, rfl, Kd.val_mono e q0⟩
theorem c166 {p0 : (List T108)} {p1 : ByteArray} {r : (List T108) × Int} (hm : m166 p0 p1 = some r) {vp0 : Value} (hp0 : ((kSl k108).val G0 vp0 p0)) (h : St c G0 w []) : Calls prog 166 #[vp0, .string p1] w (FO c [] (R166 r)) := by
 unfold m166 at hm
 refine enter (n := 28) func166 rfl rfl rfl fun a K => sl <| asg K rfl fun a K => asg K rfl fun a K => wn <| ws <| sl <| mv K rfl fun a K => ?_
 obtain ⟨x_1, hx_1, hm⟩ := bs hm
 refine clp K h rfl b135 (fun h => c135 hx_1 hp0 h) fun a w v G1 K e_1 h hR_2 => ?_
 obtain rfl := hR_2
 refine asg K rfl fun a K => nsl <| mv K rfl fun a K => binC _ K rfl rfl rfl fun a K => wn <| ifm hm K rfl (fun _ hm => ?_) fun _ hm => ?_
 · refine sl <| mv K rfl fun a K => asg K rfl fun a K => asg K rfl fun a K => wn <| wt ?_
   obtain rfl := oi hm
   exact fi f166 [_, _] K (St.sel [] rfl h) rfl ⟨rfl, rfl, ⟨⟩⟩ (.inl rfl) ⟨rfl, ⟨_, rfl, nil_sl⟩⟩
 refine wk <| sl <| mv K rfl fun a K => mv K rfl fun a K => ?_
 obtain ⟨x_4, hx_4, hm⟩ := bs hm
 refine clp K h rfl b234 (fun h => c234 hx_4 (Kd.val_mono e_1 hp0) h) fun a w v G2 K e_2 h hR_5 => ?_
 obtain rfl := hR_5
 refine mv K rfl fun a K => extr K rfl rfl fun a K => extr K rfl rfl fun a K => asg K rfl fun a K => asg K rfl fun a K => wn <| ws <| sl <| mv K rfl fun a K => notB _ K rfl rfl fun a K => wn <| ifm hm K rfl (fun _ hm => ?_) fun _ hm => ?_
 · refine sl <| asg K rfl fun a K => asg K rfl fun a K => wn <| wt ?_
   obtain rfl := oi hm
   exact fi f166 [_, _] K (St.sel [] rfl h) rfl ⟨rfl, rfl, ⟨⟩⟩ (.inl rfl) ⟨rfl, ⟨_, rfl, nil_sl⟩⟩
 refine wk <| sl <| mv K rfl fun a K => ?_
 cases hm
theorem cO42 {p0 r : List UInt8} (hm : m42 p0 = some r) {b m : Nat} (h : St c G0 w [⟨kByte, p0, m, some b, 5⟩]) : Calls prog 42 #[hdr (some b) p0.length m] w (Fin c fun v H Δ => ∃ Δn, Δ = [⟨kByte, p0, m, some b, 5⟩] ++ Δn ∧ ∃ b2 m2, Δn = [⟨kByte, r, m2, some b2, 5⟩] ∧ v = hdr (some b2) r.length m2) := by
 obtain ⟨g, hm⟩ := gs hm
 obtain rfl := oi hm
 refine enter (n := 8) func42 rfl rfl rfl fun a K => sl <| asg K rfl fun a K => wn <| ws <| sl <| mv K rfl fun a K => binSl _ K rfl rfl s43 rfl fun a K => wn <| ifF K rfl rfl <| wk <| sl <| bldS0 (f := kByte) K h s43 t5 fun a w b2 K h => mv K rfl fun a K => appO 0 1 K h rfl rfl rfl rfl rfl s43 s43 e5 g fun a w b3 m3 K h => asg K rfl fun a K => wn <| wt <| fr f42 K (St.sel [1, 0] rfl h) rfl ⟨rfl, ⟨⟩⟩ ⟨_, rfl, b3, m3, rfl, rfl⟩
theorem cV42 {p0 r : List UInt8} (hm : m42 p0 = some r) {v0 : Value} (h0 : (kSl kByte).val G0 v0 p0) (h : St c G0 w []) : Calls prog 42 #[v0] w (Fin c fun v H Δ => ∃ Δn, Δ = [] ++ Δn ∧ ∃ b2 m2, Δn = [⟨kByte, r, m2, b2, 5⟩] ∧ v = hdr b2 r.length m2) := by
 obtain ⟨g, hm⟩ := gs hm
 obtain rfl := oi hm
 obtain ⟨q, cp, rfl, hl, hq, -⟩ := kSl_val.1 h0
 cases q with
 | none =>
    obtain rfl := List.eq_nil_of_length_eq_zero (show p0.length = 0 by have := hq rfl; omega)
    simp only [List.length_nil]
    refine enter (n := 8) func42 rfl rfl rfl fun a K => ?_
    refine ws ?_
    refine wl ?_
    refine asg K rfl fun a K => ?_
    refine wn ?_
    refine ws ?_
    refine ws ?_
    refine wl ?_
    refine mv K rfl fun a K => ?_
    refine binSl _ K rfl rfl s43 rfl fun a K => ?_
    refine wn ?_
    refine ifT K rfl rfl ?_
    refine ws ?_
    refine wl ?_
    refine asg K rfl fun a K => ?_
    refine wn ?_
    refine wt ?_
    replace h := St.nil kByte 5 h
    exact fr f42 K h rfl ⟨rfl, ⟨⟩⟩ ⟨_, rfl, none, 0, rfl, rfl⟩
 | some q =>
    refine enter (n := 8) func42 rfl rfl rfl fun a K => ?_
    refine ws ?_
    refine wl ?_
    refine asg K rfl fun a K => ?_
    refine wn ?_
    refine ws ?_
    refine ws ?_
    refine wl ?_
    refine mv K rfl fun a K => ?_
    refine binSl _ K rfl rfl s43 rfl fun a K => ?_
    refine wn ?_
    refine ifF K rfl rfl ?_
    refine wk ?_
    refine ws ?_
    refine wl ?_
    refine bldS0 (f := kByte) K h s43 t5 fun a w b2 K h => ?_
    refine mv K rfl fun a K => ?_
    refine appV 0 K h rfl rfl rfl h0 rfl s43 s43 e5 g fun a w b3 m3 K h => ?_
    refine asg K rfl fun a K => ?_
    refine wn ?_
    refine wt ?_
    exact fr f42 K h rfl ⟨rfl, ⟨⟩⟩ ⟨_, rfl, some b3, m3, rfl, rfl⟩
abbrev R236 (r : (List T108)) (v : Value) (H : Gh) : Prop := (kSl k108).val H v r
instance monR236 {r : (List T108)} : MonR (R236 r) := ⟨fun _ _ _ e h => Kd.val_mono e h⟩
theorem c236 {p0 : (List T108)} {r : (List T108)} (hm : m236 p0 = some r) {vp0 : Value} (hp0 : ((kSl k108).val G0 vp0 p0)) (h : St c G0 w []) : Calls prog 236 #[vp0] w (Fin c fun v H Δ => ∃ Δn, Δ = [] ++ Δn ∧ ∃ b2 m2, Δn = [⟨k108, r, m2, b2, 108⟩] ∧ v = hdr b2 r.length m2) := by
 unfold m236 at hm
 refine enter (n := 23) func236 rfl rfl rfl fun a K => sl <| asg K rfl fun a K => nsl <| asg K rfl fun a K => wn <| ws <| sl <| mv K rfl fun a K => lenV K rfl hp0 rfl s81 fun a K => mv K rfl fun a K => wn <| wb ?_
 replace h := St.nil k108 108 h
 obtain ⟨p_158, hp_158, hm⟩ := bs hm
 refine loop (S := (List T108) × Int) (R := (List T108)) (fun s_104 a w => ∃ (G26 : Gh) (bk_105 : Option Nat) (cp_106 : Nat), Gh.le G0 G26 ∧ St c G26 w [⟨k108, s_104.1, cp_106, bk_105, 108⟩] ∧ Tm 23 a [(2, .slice none 0 0), (3, hdr bk_105 s_104.1.length cp_106), (6, vp0), (7, .int .i64 (p0.length : Int)), (8, .int .i64 s_104.2)]) (fun (p_158 : (List T108)) e a w => e = .exit 0 ∧ ∃ (G39 : Gh) (bk_159 : Option Nat) (cp_160 : Nat), Gh.le G0 G39 ∧ St c G39 w [⟨k108, p_158, cp_160, bk_159, 108⟩] ∧ Tm 23 a [(2, .slice none 0 0), (3, hdr bk_159 p_158.length cp_160)]) hp_158 ⟨G0, none, 0, gr, (St.sel [0] rfl h), (K.sub (so rfl))⟩ ?_ ?_
 · intro s_104 y_162 a w hm hI
   obtain ⟨G26, bk_105, cp_106, e_26, h, K⟩ := hI
   unfold m236_l_161 at hm
   refine sl <| binC _ K rfl rfl rfl fun a K => wn <| ws <| ifm hm K rfl (fun _ hm => ?_) fun _ hm => ?_
   · refine wk <| ws <| wb <| ws <| wl ?_
     obtain ⟨g_164, hm⟩ := gs hm
     refine ixs K rfl (Kd.val_mono e_26 hp0) rfl g_164 s81 t108 fun a v_165 K q_166 => ldr K h rfl q_166 t108 fun a v_167 K q_168 => alc K h z108 fun a w bk_169 K h => sto 0 Ik108 ([(gt p0 s_104.2)]) K h rfl rfl rfl rfl q_168 t108 rfl rfl fun w h => wn ?_
     obtain ⟨x_179, hx_179, hm⟩ := bs hm
     refine wp_hop (Δs := [[⟨k108, [(gt p0 s_104.2)], 1, (some bk_169), 108⟩, ⟨k108, s_104.1, cp_106, bk_105, 108⟩]]) 8 [(fE (hdr bk_105 s_104.1.length cp_106)), (fE (pA bk_169 J108_0)), (fE (.string ((gt p0 s_104.2).Name))), (fE (pA bk_169 J108_1)), (fT (kSl kByte) ((gt p0 s_104.2).Value)), (fT (kSl kByte) x_179), (fT k108 (⟨(gt p0 s_104.2).Name, x_179⟩ : T108)), (fR k108 [(⟨(gt p0 s_104.2).Name, x_179⟩ : T108)] 1 108)] [(2, .slice none 0 0), (3, hdr bk_105 s_104.1.length cp_106), (5, (pA bk_169 Ik108)), (6, vp0), (7, .int .i64 (p0.length : Int)), (8, .int .i64 s_104.2), (9, .bool (decide (s_104.2 < (p0.length : Int)))), (10, v_165), (11, v_167)] [] [[0], [0], [0], [0], [0], [0], [0], [0]] [0, 0, 2, 0, 8, 24, 62, 126, 255, 511] mx (by kernel_rfl) (by kernel_rfl) (by kernel_rfl) (by kernel_rfl) rfl rfl ⟨monE, monE, monE, monE, monT, monT, monT, monR, ⟨⟩⟩ K h rfl rfl ⟨rfl, rfl, rfl, rfl, rfl, rfl, rfl, rfl, rfl, ⟨⟩⟩ ⟨(stg1 rfl rfl ?_), (stg1 rfl rfl ?_), (stg1 rfl rfl ?_), (stg1 rfl rfl ?_), (stg1 rfl rfl ?_), (stg1 rfl rfl ?_), (stg1 rfl rfl ?_), (stg1 rfl rfl ?_), ⟨⟩⟩ rfl ?_
     · exact hpX [(3, _)] (fun s _ => ⟨s.2.1, ⟨⟩⟩) fun _ _ K t => mv K rfl t
     · exact hpX [(5, _)] (fun s _ => ⟨s.2.2.1, ⟨⟩⟩) fun _ _ K t => fa F108_0 K rfl o108_0 t
     · exact hpX [(13, _)] k1 fun _ h K t => ld1 0 J108_0 (.string ((gt p0 s_104.2).Name)) K h rfl rfl rfl t9 vS t
     · exact hpX [(5, _)] (fun s _ => ⟨s.2.2.1, ⟨⟩⟩) fun _ _ K t => fa F108_1 K rfl o108_1 t
     · exact hpT [(15, _)] k1 fun _ h K t => ld 0 J108_1 K h rfl rfl rfl t43 t
     · intro a w G45 L X e_45 h K hs hk
       obtain ⟨v_176, _, l_177, -, q_178⟩ := hk.1
       have hx : Sy.sub L [(16, _)] := ⟨l_177, ⟨⟩⟩
       replace K := K.addx _ hx
       refine clg (Δ₁ := []) (Δ₂ := _) [] K h rfl rfl b42 (fun h => cV42 hx_179 q_178 h) fun a w v_182 G46 Δx K e_46 h hR_183 => ?_
       obtain ⟨bk_180, cp_181, rfl, rfl⟩ := hR_183
       obtain ⟨G47, e_47, h, q_184⟩ := frz 0 h rfl
       refine wn <| ⟨rfl, G47, [], (Gh.trans e_46 e_47), h, _, K.dropx _ hx, ⟨rfl, q_184⟩⟩
     · intro a w G48 L X e_48 h K hs hk
       obtain ⟨v_185, _, l_186, -, rfl⟩ := hk.1
       obtain ⟨v_187, _, l_188, -, q_189⟩ := hk.2.1
       have hx : Sy.sub L [(14, _), (17, _)] := ⟨l_186, l_188, ⟨⟩⟩
       replace K := K.addx _ hx
       refine bld (⟨(gt p0 s_104.2).Name, x_179⟩ : T108) K h rfl pl108 rfl z108 (.cons F108_0 rfl str_val (.cons F108_1 rfl q_189 .nil)) fun a v_190 K q_191 => wn <| ⟨rfl, G48, [], gr, h, _, K.dropx _ hx, ⟨rfl, q_191⟩⟩
     · intro a w G49 L X e_49 h K hs hk
       obtain ⟨v_192, _, l_193, -, q_194⟩ := hk.1
       have hx : Sy.sub L [(18, _)] := ⟨l_193, ⟨⟩⟩
       replace K := K.addx _ hx
       refine bldS (f := k108) (by decide) [(⟨(gt p0 s_104.2).Name, x_179⟩ : T108)] K h rfl s81 t108 rfl z108 (.cons (Fld.idx k108 0 (by decide)) rfl q_194 .nil) fun a w bk_195 K h => wn <| ⟨rfl, G49, [_], gr, h, _, K.dropx _ hx, ⟨bk_195, rfl, rfl⟩⟩
     intro a w G50 L X e_50 h K hs hg
     obtain ⟨_, _, _, rfl, l_196, ⟨rfl, rfl⟩, hg⟩ := hg
     obtain ⟨_, _, _, rfl, l_197, ⟨rfl, rfl⟩, hg⟩ := hg
     obtain ⟨_, _, _, rfl, l_198, ⟨rfl, rfl⟩, hg⟩ := hg
     obtain ⟨_, _, _, rfl, l_199, ⟨rfl, rfl⟩, hg⟩ := hg
     obtain ⟨v_200, _, _, rfl, l_202, ⟨rfl, q_201⟩, hg⟩ := hg
     obtain ⟨v_203, _, _, rfl, l_205, ⟨rfl, q_204⟩, hg⟩ := hg
     obtain ⟨v_206, _, _, rfl, l_208, ⟨rfl, q_207⟩, hg⟩ := hg
     obtain ⟨_, _, _, rfl, l7x, ⟨bk_195, rfl, rfl⟩, hg⟩ := hg
     obtain rfl := hg
     replace h := St.cast (Δ' := [⟨k108, [(gt p0 s_104.2)], 1, (some bk_169), 108⟩, ⟨k108, s_104.1, cp_106, bk_105, 108⟩, ⟨k108, [(⟨(gt p0 s_104.2).Name, x_179⟩ : T108)], 1, (some bk_195), 108⟩]) h rfl
     replace K := K.sub (l' := [(12, _), (13, _), (14, _), (15, _), (16, _), (17, _), (18, _), (19, _), (2, _), (3, _), (5, _), (6, _), (7, _), (8, _), (9, _), (10, _), (11, _)]) ⟨l_196, l_197, l_198, l_199, l_202, l_205, l_208, l7x, hs.1, hs.2.1, hs.2.2.1, hs.2.2.2.1, hs.2.2.2.2.1, hs.2.2.2.2.2.1, hs.2.2.2.2.2.2.1, hs.2.2.2.2.2.2.2.1, hs.2.2.2.2.2.2.2.2.1, ⟨⟩⟩
     obtain ⟨G51, e_51, h, q_209⟩ := frz 2 h rfl
     obtain ⟨g_212, hm⟩ := gs hm
     refine app 1 K h rfl rfl rfl rfl q_209 rfl s81 s81 e108 g_212 fun a w bk_210 cp_211 K h => asg K rfl fun a K => wn <| wl <| binI _ K rfl rfl rfl fun a K => mv K rfl fun a K => wn ?_
     obtain rfl := oi hm
     exact ⟨rfl, ⟨G51, bk_210, cp_211, (Gh.trans e_26 (Gh.trans e_50 e_51)), (St.sel [1] rfl h), (K.sub (so rfl))⟩⟩
   refine wp_exit ?_
   obtain rfl := oi hm
   exact ⟨by simp, rfl, ⟨G26, bk_105, cp_106, e_26, (St.sel [0] rfl h), (K.sub (so rfl))⟩⟩
 intro e a w hD
 obtain ⟨rfl, ⟨G39, bk_159, cp_160, e_39, h, K⟩⟩ := hD
 refine sl <| mv K rfl fun a K => asg K rfl fun a K => wn <| wt ?_
 obtain rfl := oi hm
 exact fr f236 K (St.sel [0] rfl h) rfl ⟨rfl, ⟨⟩⟩ ⟨_, rfl, bk_159, cp_160, rfl, rfl⟩
theorem c237 {p0 : List T108} {p1 : Int} {p2 r : List T108} (hm : m237 p0 p1 p2 = some r) {b : Option Nat} {m : Nat} {b1 m1 : Nat} (h : St c G0 w [⟨k108, p0, m, b, 108⟩, ⟨k108, p2, m1, some b1, 108⟩]) : Calls prog 237 #[hdr b p0.length m, .int .i64 p1, hdr (some b1) p2.length m1] w (Fin c fun v H Δ => ∃ b2 m2, Δ = [⟨k108, r, m2, b2, 108⟩] ∧ v = hdr b2 r.length m2) := by
 obtain ⟨g, hm⟩ := gs hm
 obtain rfl := oi hm
 obtain ⟨i0, i1, i2, i3⟩ := insB_out g
 have hc : p0.length ≤ m := (h.own _ (List.mem_cons_self ..)).1
 have hN : (p1.toNat : Int) = p1 := Int.toNat_of_nonneg i0
 have hw : wr ((p0.length : Int) + (p2.length : Int)) = (p0.length : Int) + 1 := by rw [i2]; unfold maxS at i3; exact wrap64_id (by omega) (by omega)
 have hw2 : wr ((p0.length : Int) + 1 - p1) = (p0.length : Int) + 1 - p1 := by unfold maxS at i3; exact wrap64_id (by omega) (by omega)
 have hw3 : wr (p1 + (p2.length : Int)) = p1 + 1 := by rw [i2]; unfold maxS at i3; exact wrap64_id (by omega) (by omega)
 have hz : ins p0 p1 p2 = p0.take p1.toNat ++ p2 ++ p0.drop p1.toNat := rfl
 refine enter (n := 95) func237 rfl rfl rfl fun a K => sl <| asg K rfl fun a K => nsl <| mv K rfl fun a K => mv K rfl fun a K => slX k108 (p1) ((p0.length : Int)) K rfl s81 t108 (.inr ⟨_, _, rfl, rfl⟩) (.inl ⟨rfl, rfl⟩) (sl2_i i0 (by omega) (by omega)) fun a K => nsl <| mv K rfl fun a K => lenO K rfl rfl s81 fun a K => asg K rfl fun a K => wn <| ws <| sl <| mv K rfl fun a K => binC _ K rfl rfl rfl fun a K => wn <| ifF K rfl (by simp [i2]) <| wk <| sl <| mv K rfl fun a K => lenO K rfl rfl s81 fun a K => asg K rfl fun a K => wn <| ws <| sl <| mv K rfl fun a K => mv K rfl fun a K => binC _ K rfl rfl rfl fun a K => wn ?_
 rcases Bool.eq_false_or_eq_true (p1 == (p0.length : Int)) with c1 | c1
 · refine ifT K rfl c1 <| sl <| mv K rfl fun a K => mv K rfl fun a K => appOO 0 1 K h rfl rfl rfl rfl rfl s81 s81 e108 (by omega) fun a w b3 m3 K h => asg K rfl fun a K => wn <| wt ?_
   have e : p0 ++ p2 = ins p0 p1 p2 := by (have h1 : p1 = (p0.length : Int) := by simpa using c1); subst h1; simp [ins]
   exact fi f237 [_] K (St.sel [0] rfl h) rfl ⟨rfl, ⟨⟩⟩ (.inl rfl) ⟨b3, m3, by rw [← e]; rfl, by rw [← e]; rfl⟩
 have c1n : p1 < (p0.length : Int) := by (have : p1 ≠ (p0.length : Int) := by simpa using c1); omega
 refine ifF K rfl c1 <| wk <| ws <| sl <| mv K rfl fun a K => mv K rfl fun a K => binI _ K rfl rfl (congrArg some hw) fun a K => mv K rfl fun a K => capO K rfl rfl s81 fun a K => binC _ K rfl rfl rfl fun a K => wn ?_
 rcases Bool.eq_false_or_eq_true (decide ((p0.length : Int) + 1 > (m : Int))) with c2 | c2
 · have c2n : m < p0.length + 1 := by (have : (p0.length : Int) + 1 > (m : Int) := by simpa using c2); omega
   refine ifT K rfl c2 <| sl <| mv K rfl fun a K => mv K rfl fun a K => slX0 k108 p1 K rfl s81 t108 (.inr ⟨_, _, rfl, rfl⟩) (sl2_i (by omega) i0 (by omega)) fun a K => mv K rfl fun a K => mv K rfl fun a K => binI _ K rfl rfl (congrArg some hw) fun a K => mv K rfl fun a K => binI _ K rfl rfl (congrArg some hw2) fun a K => appZ 0 K h rfl rfl rfl rfl s81 it3 e108 z108 (by omega) (by omega) (by omega) (by unfold maxS at i3 ⊢; omega) fun a w b3 m3 K h => asg K rfl fun a K => nsl <| mv K rfl fun a K => mv K rfl fun a K => slX k108 (p1) (((p1.toNat + ((p0.length : Int) + 1 - p1).toNat : Nat) : Int)) K rfl s81 t108 (.inr ⟨_, _, rfl, rfl⟩) (.inl ⟨rfl, rfl⟩) (sl2_i i0 (by omega) (by have := (h.own _ (List.mem_cons_self ..)).1; simp only [List.length_append, List.length_take, List.length_replicate] at this; omega)) fun a K => mv K rfl fun a K => cpIn 0 K h rfl rfl rfl (rd_own (j := 2) h rfl) (by simp only [List.length_append, List.length_take, List.length_replicate]; omega) rfl s81 t108 fun a w K h => wn <| ws ?_
   have hm3 : p1.toNat + ((p0.length : Int) + 1 - p1).toNat ≤ m3 := by have := (h.own _ (List.mem_cons_self ..)).1; simp only [ovr, List.length_append, List.length_take, List.length_drop, List.length_replicate] at this; omega
   refine wp_hop (Δs := [[⟨k108, ovr (p0.take p1.toNat ++ List.replicate ((p0.length : Int) + 1 - p1).toNat (⟨ByteArray.empty, ([] : (List UInt8))⟩ : T108)) p1.toNat (p2.take ((p1.toNat + ((p0.length : Int) + 1 - p1).toNat : Nat) - p1.toNat)), m3, some b3, 108⟩, ⟨k108, p0, m, b, 108⟩, ⟨k108, p2, m1, some b1, 108⟩]]) 8 [(fE (hdr (some b3) (p1.toNat + ((p0.length : Int) + 1 - p1).toNat) m3)), (fE (.int .i64 p1)), (fE (.int .i64 (p2.length : Int))), (fE (.int .i64 (p1 + 1))), (fE (subV k108 (some b3) m3 (p1 + 1).toNat (((((p1.toNat + ((p0.length : Int) + 1 - p1).toNat) : Nat) : Int)).toNat - (p1 + 1).toNat))), (fE (hdr b p0.length m)), (fE (.int .i64 p1)), (fE (subV k108 b m (p1).toNat (((p0.length : Int)).toNat - (p1).toNat)))] [(0, hdr b p0.length m), (1, .int .i64 p1), (7, .int .i64 (p2.length : Int)), (9, hdr (some b3) (p1.toNat + ((p0.length : Int) + 1 - p1).toNat) m3)] [] [[0], [0], [0], [0], [0], [0], [0], [0]] [0, 0, 0, 6, 15, 0, 0, 96, 255] mx (by kernel_rfl) (by kernel_rfl) (by kernel_rfl) (by kernel_rfl) rfl rfl ⟨monE, monE, monE, monE, monE, monE, monE, monE, ⟨⟩⟩ K h rfl rfl ⟨rfl, rfl, rfl, rfl, ⟨⟩⟩ ⟨(stg1 rfl rfl ?_), (stg1 rfl rfl ?_), (stg1 rfl rfl ?_), (stg1 rfl rfl ?_), (stg1 rfl rfl ?_), (stg1 rfl rfl ?_), (stg1 rfl rfl ?_), (stg1 rfl rfl ?_), ⟨⟩⟩ rfl ?_
   · intro a w H L X e h K hs hk
     have hx : Sy.sub L [(9, _)] := ⟨hs.2.2.2.1, ⟨⟩⟩
     replace K := K.addx _ hx
     refine mv K rfl fun a K => wn <| ⟨rfl, H, [], gr, h, _, K.dropx _ hx, ⟨rfl, rfl⟩⟩
   · intro a w H L X e h K hs hk
     have hx : Sy.sub L [(1, _)] := ⟨hs.2.1, ⟨⟩⟩
     replace K := K.addx _ hx
     refine mv K rfl fun a K => wn <| ⟨rfl, H, [], gr, h, _, K.dropx _ hx, ⟨rfl, rfl⟩⟩
   · intro a w H L X e h K hs hk
     have hx : Sy.sub L [(7, _)] := ⟨hs.2.2.1, ⟨⟩⟩
     replace K := K.addx _ hx
     refine mv K rfl fun a K => wn <| ⟨rfl, H, [], gr, h, _, K.dropx _ hx, ⟨rfl, rfl⟩⟩
   · intro a w H L X e h K hs hk
     obtain ⟨_, _, l47, -, rfl⟩ := hk.1
     obtain ⟨_, _, l48, -, rfl⟩ := hk.2.1
     have hx : Sy.sub L [(47, _), (48, _)] := ⟨l47, l48, ⟨⟩⟩
     replace K := K.addx _ hx
     refine binI _ K rfl rfl (congrArg some hw3) fun a K => wn <| ⟨rfl, H, [], gr, h, _, K.dropx _ hx, ⟨rfl, rfl⟩⟩
   · intro a w H L X e h K hs hk
     obtain ⟨_, _, l46, -, rfl⟩ := hk.1
     obtain ⟨_, _, l49, -, rfl⟩ := hk.2.1
     have hx : Sy.sub L [(46, _), (49, _)] := ⟨l46, l49, ⟨⟩⟩
     replace K := K.addx _ hx
     refine slX k108 (p1 + 1) ((((p1.toNat + ((p0.length : Int) + 1 - p1).toNat) : Nat) : Int)) K rfl s81 t108 (.inr ⟨_, _, rfl, rfl⟩) (.inl ⟨rfl, rfl⟩) (sl2_i (by omega) (by omega) (by omega)) fun a K => wn <| ⟨rfl, H, [], gr, h, _, K.dropx _ hx, ⟨rfl, rfl⟩⟩
   · intro a w H L X e h K hs hk
     have hx : Sy.sub L [(0, _)] := ⟨hs.1, ⟨⟩⟩
     replace K := K.addx _ hx
     refine mv K rfl fun a K => wn <| ⟨rfl, H, [], gr, h, _, K.dropx _ hx, ⟨rfl, rfl⟩⟩
   · intro a w H L X e h K hs hk
     have hx : Sy.sub L [(1, _)] := ⟨hs.2.1, ⟨⟩⟩
     replace K := K.addx _ hx
     refine mv K rfl fun a K => wn <| ⟨rfl, H, [], gr, h, _, K.dropx _ hx, ⟨rfl, rfl⟩⟩
   · intro a w H L X e h K hs hk
     obtain ⟨_, _, l51, -, rfl⟩ := hk.1
     obtain ⟨_, _, l52, -, rfl⟩ := hk.2.1
     have hx : Sy.sub L [(51, _), (52, _)] := ⟨l51, l52, ⟨⟩⟩
     replace K := K.addx _ hx
     refine slX k108 (p1) ((p0.length : Int)) K rfl s81 t108 (.inr ⟨_, _, rfl, rfl⟩) (.inl ⟨rfl, rfl⟩) (sl2_i i0 (by omega) (by omega)) fun a K => wn <| ⟨rfl, H, [], gr, h, _, K.dropx _ hx, ⟨rfl, rfl⟩⟩
   intro a w H L X e h K hs hg
   obtain ⟨_, _, _, rfl, r0, ⟨rfl, rfl⟩, hg⟩ := hg
   obtain ⟨_, _, _, rfl, r1, ⟨rfl, rfl⟩, hg⟩ := hg
   obtain ⟨_, _, _, rfl, r2, ⟨rfl, rfl⟩, hg⟩ := hg
   obtain ⟨_, _, _, rfl, r3, ⟨rfl, rfl⟩, hg⟩ := hg
   obtain ⟨_, _, _, rfl, r4, ⟨rfl, rfl⟩, hg⟩ := hg
   obtain ⟨_, _, _, rfl, r5, ⟨rfl, rfl⟩, hg⟩ := hg
   obtain ⟨_, _, _, rfl, r6, ⟨rfl, rfl⟩, hg⟩ := hg
   obtain ⟨_, _, _, rfl, r7, ⟨rfl, rfl⟩, hg⟩ := hg
   obtain rfl := hg
   replace h := St.cast (Δ' := [⟨k108, ovr (p0.take p1.toNat ++ List.replicate ((p0.length : Int) + 1 - p1).toNat (⟨ByteArray.empty, ([] : (List UInt8))⟩ : T108)) p1.toNat (p2.take ((p1.toNat + ((p0.length : Int) + 1 - p1).toNat : Nat) - p1.toNat)), m3, some b3, 108⟩, ⟨k108, p0, m, b, 108⟩, ⟨k108, p2, m1, some b1, 108⟩]) h rfl
   replace K := K.sub (l' := [(50, _), (53, _), (0, _), (1, _), (7, _), (9, _)]) ⟨r4, r7, hs.1, hs.2.1, hs.2.2.1, hs.2.2.2.1, ⟨⟩⟩
   refine cpIn 0 K h rfl rfl rfl (rd_sub (j := 1) (o := p1.toNat) (m := (p0.length : Int).toNat - p1.toNat) h rfl (by omega)) (by simp only [ovr, List.length_append, List.length_take, List.length_drop, List.length_replicate]; omega) rfl s81 t108 fun a w K h => wn <| sl <| mv K rfl fun a K => asg K rfl fun a K => wn <| wt ?_
   rw [insZ (x := (p1.toNat + ((p0.length : Int) + 1 - p1).toNat) - p1.toNat) (y := (p0.length : Int).toNat - p1.toNat) (u := ((p1.toNat + ((p0.length : Int) + 1 - p1).toNat : Nat) : Int).toNat - (p1 + 1).toNat) i0 i1 i2 (by omega) (by omega) (by omega)] at h
   exact fi f237 [_] K (St.sel [0] rfl h) rfl ⟨rfl, ⟨⟩⟩ (.inl rfl) ⟨some b3, m3, rfl, by rw [insZl i0 i1 i2]; rfl⟩
 have c2n : p0.length + 1 ≤ m := by (have : ¬ ((p0.length : Int) + 1 > (m : Int)) := by simpa using c2); omega
 obtain ⟨b, rfl⟩ := own_some 0 h rfl (show 0 < p0.length by omega)
 have hne : b ≠ b1 := own_ne 0 1 (by decide) h rfl rfl
 refine ifF K rfl c2 <| wk <| sl <| mv K rfl fun a K => mv K rfl fun a K => mv K rfl fun a K => binI _ K rfl rfl (congrArg some hw) fun a K => slX0 k108 ((p0.length : Int) + 1) K rfl s81 t108 (.inr ⟨_, _, rfl, rfl⟩) (sl2_i (by omega) (by omega) (by omega)) fun a K => asg K rfl fun a K => wn <| ws <| sl <| mv K rfl fun a K => mv K rfl fun a K => mv K rfl fun a K => mv K rfl fun a K => binI _ K rfl rfl (congrArg some hw3) fun a K => slX k108 (p1 + 1) ((((p0.length : Int) + 1).toNat : Int)) K rfl s81 t108 (.inr ⟨_, _, rfl, rfl⟩) (.inl ⟨rfl, rfl⟩) (sl2_i (by omega) (by omega) (by omega)) fun a K => clx (.bool false) x291 K rfl (run_ovl (j := 0) (j2 := 1) h rfl rfl hne s81 t108 (by decide)) fun a K => notB _ K rfl rfl fun a K => wn <| ifT K rfl rfl <| ws ?_
 refine wp_hop (Δs := [[⟨k108, p0, m, some b, 108⟩, ⟨k108, p2, m1, some b1, 108⟩]]) 8 [(fE (hdr (some b) ((p0.length : Int) + 1).toNat m)), (fE (.int .i64 p1)), (fE (.int .i64 (p2.length : Int))), (fE (.int .i64 (p1 + 1))), (fE (subV k108 (some b) m (p1 + 1).toNat (((((p0.length : Int) + 1).toNat : Int)).toNat - (p1 + 1).toNat))), (fE (hdr (some b) ((p0.length : Int) + 1).toNat m)), (fE (.int .i64 p1)), (fE (subV k108 (some b) m (p1).toNat (((((p0.length : Int) + 1).toNat : Int)).toNat - (p1).toNat)))] [(0, hdr (some b) ((p0.length : Int) + 1).toNat m), (1, .int .i64 p1), (7, .int .i64 (p2.length : Int)), (2, hdr (some b1) p2.length m1)] [] [[0], [0], [0], [0], [0], [0], [0], [0]] [0, 0, 0, 6, 15, 0, 0, 96, 255] mx (by kernel_rfl) (by kernel_rfl) (by kernel_rfl) (by kernel_rfl) rfl rfl ⟨monE, monE, monE, monE, monE, monE, monE, monE, ⟨⟩⟩ K h rfl rfl ⟨rfl, rfl, rfl, rfl, ⟨⟩⟩ ⟨(stg1 rfl rfl ?_), (stg1 rfl rfl ?_), (stg1 rfl rfl ?_), (stg1 rfl rfl ?_), (stg1 rfl rfl ?_), (stg1 rfl rfl ?_), (stg1 rfl rfl ?_), (stg1 rfl rfl ?_), ⟨⟩⟩ rfl ?_
 · intro a w H L X e h K hs hk
   have hx : Sy.sub L [(0, _)] := ⟨hs.1, ⟨⟩⟩
   replace K := K.addx _ hx
   refine mv K rfl fun a K => wn <| ⟨rfl, H, [], gr, h, _, K.dropx _ hx, ⟨rfl, rfl⟩⟩
 · intro a w H L X e h K hs hk
   have hx : Sy.sub L [(1, _)] := ⟨hs.2.1, ⟨⟩⟩
   replace K := K.addx _ hx
   refine mv K rfl fun a K => wn <| ⟨rfl, H, [], gr, h, _, K.dropx _ hx, ⟨rfl, rfl⟩⟩
 · intro a w H L X e h K hs hk
   have hx : Sy.sub L [(7, _)] := ⟨hs.2.2.1, ⟨⟩⟩
   replace K := K.addx _ hx
   refine mv K rfl fun a K => wn <| ⟨rfl, H, [], gr, h, _, K.dropx _ hx, ⟨rfl, rfl⟩⟩
 · intro a w H L X e h K hs hk
   obtain ⟨_, _, l70, -, rfl⟩ := hk.1
   obtain ⟨_, _, l71, -, rfl⟩ := hk.2.1
   have hx : Sy.sub L [(70, _), (71, _)] := ⟨l70, l71, ⟨⟩⟩
   replace K := K.addx _ hx
   refine binI _ K rfl rfl (congrArg some hw3) fun a K => wn <| ⟨rfl, H, [], gr, h, _, K.dropx _ hx, ⟨rfl, rfl⟩⟩
 · intro a w H L X e h K hs hk
   obtain ⟨_, _, l69, -, rfl⟩ := hk.1
   obtain ⟨_, _, l72, -, rfl⟩ := hk.2.1
   have hx : Sy.sub L [(69, _), (72, _)] := ⟨l69, l72, ⟨⟩⟩
   replace K := K.addx _ hx
   refine slX k108 (p1 + 1) ((((p0.length : Int) + 1).toNat : Int)) K rfl s81 t108 (.inr ⟨_, _, rfl, rfl⟩) (.inl ⟨rfl, rfl⟩) (sl2_i (by omega) (by omega) (by omega)) fun a K => wn <| ⟨rfl, H, [], gr, h, _, K.dropx _ hx, ⟨rfl, rfl⟩⟩
 · intro a w H L X e h K hs hk
   have hx : Sy.sub L [(0, _)] := ⟨hs.1, ⟨⟩⟩
   replace K := K.addx _ hx
   refine mv K rfl fun a K => wn <| ⟨rfl, H, [], gr, h, _, K.dropx _ hx, ⟨rfl, rfl⟩⟩
 · intro a w H L X e h K hs hk
   have hx : Sy.sub L [(1, _)] := ⟨hs.2.1, ⟨⟩⟩
   replace K := K.addx _ hx
   refine mv K rfl fun a K => wn <| ⟨rfl, H, [], gr, h, _, K.dropx _ hx, ⟨rfl, rfl⟩⟩
 · intro a w H L X e h K hs hk
   obtain ⟨_, _, l74, -, rfl⟩ := hk.1
   obtain ⟨_, _, l75, -, rfl⟩ := hk.2.1
   have hx : Sy.sub L [(74, _), (75, _)] := ⟨l74, l75, ⟨⟩⟩
   replace K := K.addx _ hx
   refine slX k108 (p1) ((((p0.length : Int) + 1).toNat : Int)) K rfl s81 t108 (.inr ⟨_, _, rfl, rfl⟩) (.inl ⟨rfl, rfl⟩) (sl2_i i0 (by omega) (by omega)) fun a K => wn <| ⟨rfl, H, [], gr, h, _, K.dropx _ hx, ⟨rfl, rfl⟩⟩
 intro a w H L X e h K hs hg
 obtain ⟨_, _, _, rfl, r0, ⟨rfl, rfl⟩, hg⟩ := hg
 obtain ⟨_, _, _, rfl, r1, ⟨rfl, rfl⟩, hg⟩ := hg
 obtain ⟨_, _, _, rfl, r2, ⟨rfl, rfl⟩, hg⟩ := hg
 obtain ⟨_, _, _, rfl, r3, ⟨rfl, rfl⟩, hg⟩ := hg
 obtain ⟨_, _, _, rfl, r4, ⟨rfl, rfl⟩, hg⟩ := hg
 obtain ⟨_, _, _, rfl, r5, ⟨rfl, rfl⟩, hg⟩ := hg
 obtain ⟨_, _, _, rfl, r6, ⟨rfl, rfl⟩, hg⟩ := hg
 obtain ⟨_, _, _, rfl, r7, ⟨rfl, rfl⟩, hg⟩ := hg
 obtain rfl := hg
 replace h := St.cast (Δ' := [⟨k108, p0, m, some b, 108⟩, ⟨k108, p2, m1, some b1, 108⟩]) h rfl
 replace K := K.sub (l' := [(73, _), (76, _), (0, _), (1, _), (7, _), (2, _)]) ⟨r4, r7, hs.1, hs.2.1, hs.2.2.1, hs.2.2.2.1, ⟨⟩⟩
 refine cpSh K h rfl rfl (by omega) (by omega) rfl s81 t108 fun a w K h => nsl <| mv K rfl fun a K => mv K rfl fun a K => slX k108 (p1) ((((p0.length : Int) + 1).toNat : Int)) K rfl s81 t108 (.inr ⟨_, _, rfl, rfl⟩) (.inl ⟨rfl, rfl⟩) (sl2_i i0 (by omega) (by omega)) fun a K => mv K rfl fun a K => cpIn 0 K h rfl rfl rfl (rd_own (j := 1) h rfl) (by simp only [List.length_append, List.length_take, List.length_drop]; omega) rfl s81 t108 fun a w K h => nsl <| mv K rfl fun a K => asg K rfl fun a K => wn <| wt ?_
 rw [insS (x := (((p0.length : Int) + 1).toNat : Int).toNat - p1.toNat) i0 c1n i2 (by omega)] at h
 exact fi f237 [_] K (St.sel [0] rfl h) rfl ⟨rfl, ⟨⟩⟩ (.inl rfl) ⟨some b, m, rfl, by rw [insSl i0 i1 i2]; rfl⟩
abbrev R167 (r : (List T108) × Int) (v : Value) (H : Gh) : Prop := ∃ u0, v = .tuple #[u0, .int .i64 r.2] ∧ (kSl k108).val H u0 r.1
instance monR167 {r : (List T108) × Int} : MonR (R167 r) := by
 constructor
 rintro G H v e ⟨u0, rfl, q0⟩
 exact ⟨u0, rfl, Kd.val_mono e q0⟩
theorem c167 {p0 : (List T108)} {p1 : ByteArray} {p2 : (List UInt8)} {r : (List T108) × Int} (hm : m167 p0 p1 p2 = some r) {vp0 : Value} {vp2 : Value} (hp0 : ((kSl k108).val G0 vp0 p0)) (hp2 : ((kSl kByte).val G0 vp2 p2)) (h : St c G0 w []) : Calls prog 167 #[vp0, .string p1, vp2] w (FO c [] (R167 r)) := by
 unfold m167 at hm
 refine enter (n := 54) func167 rfl rfl rfl fun a K => sl <| asg K rfl fun a K => asg K rfl fun a K => wn <| ws <| sl <| mv K rfl fun a K => ?_
 obtain ⟨x_1, hx_1, hm⟩ := bs hm
 refine clp K h rfl b135 (fun h => c135 hx_1 hp0 h) fun a w v G1 K e_1 h hR_2 => ?_
 obtain rfl := hR_2
 refine asg K rfl fun a K => nsl <| mv K rfl fun a K => binC _ K rfl rfl rfl fun a K => wn <| ifm hm K rfl (fun _ hm => ?_) fun _ hm => ?_
 · refine sl <| mv K rfl fun a K => asg K rfl fun a K => asg K rfl fun a K => wn <| wt ?_
   obtain rfl := oi hm
   exact fi f167 [_, _] K (St.sel [] rfl h) rfl ⟨rfl, rfl, ⟨⟩⟩ (.inl rfl) ⟨rfl, ⟨_, rfl, nil_sl⟩⟩
 refine wk <| sl <| mv K rfl fun a K => mv K rfl fun a K => ?_
 obtain ⟨x_4, hx_4, hm⟩ := bs hm
 refine clp K h rfl b234 (fun h => c234 hx_4 (Kd.val_mono e_1 hp0) h) fun a w v G2 K e_2 h hR_5 => ?_
 obtain rfl := hR_5
 refine mv K rfl fun a K => extr K rfl rfl fun a K => extr K rfl rfl fun a K => asg K rfl fun a K => asg K rfl fun a K => wn <| ws <| wb <| sl <| mv K rfl fun a K => mv K rfl fun a K => ?_
 obtain ⟨x_15, hx_15, hm⟩ := bs hm
 refine clp K h rfl b219 (fun h => c219 hx_15 (Kd.val_mono (Gh.trans e_1 e_2) hp2) h) fun a w v G5 K e_5 h hR_16 => ?_
 obtain rfl := hR_16
 refine notB _ K rfl rfl fun a K => asg K rfl fun a K => wn <| ifm hm K rfl (fun _ hm => ?_) fun _ hm => ?_
 · refine sl <| asg K rfl fun a K => asg K rfl fun a K => wn <| wt ?_
   obtain rfl := oi hm
   exact fi f167 [_, _] K (St.sel [] rfl h) rfl ⟨rfl, rfl, ⟨⟩⟩ (.inl rfl) ⟨rfl, ⟨_, rfl, nil_sl⟩⟩
 refine joinS (S := Bool) (fun s_19 a w => Jn c G5 [] 54 [(0, vp0), (1, .string p1), (2, vp2), (6, .slice none 0 0), (7, .int .i64 0), (9, .int .i64 x_4.1), (10, .bool x_4.2), (29, .bool s_19)] a w) (fun s_19 => m167_j_50 p0 p1 p2 x_4 s_19 = some r) (fun s_19 hm a w hJ => ?_) (fun kk_51 => ?_)
 · obtain ⟨G6, e_6, h, K⟩ := hJ
   unfold m167_j_50 at hm
   refine ifm hm K rfl (fun _ hm => ?_) fun _ hm => ?_
   · refine sl <| asg K rfl fun a K => asg K rfl fun a K => wn <| wt ?_
     obtain rfl := oi hm
     exact fi f167 [_, _] K (St.sel [] rfl h) rfl ⟨rfl, rfl, ⟨⟩⟩ (.inl rfl) ⟨rfl, ⟨_, rfl, nil_sl⟩⟩
   refine wk <| sl <| mv K rfl fun a K => ?_
   obtain ⟨x_21, hx_21, hm⟩ := bs hm
   refine clg (Δ₁ := []) (Δ₂ := _) [] K h rfl rfl b236 (fun h => c236 hx_21 (Kd.val_mono (Gh.trans e_1 (Gh.trans e_2 (Gh.trans e_5 e_6))) hp0) h) fun a w v_23 G7 Δx K e_7 h hR_22 => ?_
   obtain ⟨bk_24, cp_25, rfl, rfl⟩ := hR_22
   replace h := St.cast (Δ' := [⟨k108, x_21, cp_25, bk_24, 108⟩]) h rfl
   refine asg K rfl fun a K => nsl <| mv K rfl fun a K => mv K rfl fun a K => ?_
   obtain ⟨x_26, hx_26, hm⟩ := bs hm
   refine clg (Δ₁ := []) (Δ₂ := _) [] K h rfl rfl b42 (fun h => cV42 hx_26 (Kd.val_mono (Gh.trans e_1 (Gh.trans e_2 (Gh.trans e_5 (Gh.trans e_6 e_7)))) hp2) h) fun a w v_29 G8 Δx K e_8 h hR_30 => ?_
   obtain ⟨bk_27, cp_28, rfl, rfl⟩ := hR_30
   replace h := St.cast (Δ' := [⟨kByte, x_26, cp_28, bk_27, 5⟩, ⟨k108, x_21, cp_25, bk_24, 108⟩]) h rfl
   obtain ⟨G9, e_9, h, q_31⟩ := frz 0 h rfl
   refine bld (⟨p1, x_26⟩ : T108) K h rfl pl108 rfl z108 (.cons F108_0 rfl str_val (.cons F108_1 rfl q_31 .nil)) fun a v_32 K q_33 => alc K h z108 fun a w bk_34 K h => sto 0 Ik108 ([(⟨p1, x_26⟩ : T108)]) K h rfl rfl rfl rfl q_33 t108 rfl rfl fun w h => wn <| ws <| sl <| mv K rfl fun a K => wn <| ifm hm K rfl (fun _ hm => ?_) fun _ hm => ?_
   · refine sl <| mv K rfl fun a K => mv K rfl fun a K => ld 0 Ik108 K h rfl rfl rfl t108 fun a v_36 K q_37 => ?_
     replace q_37 : k108.val _ v_36 (⟨p1, x_26⟩ : T108) := q_37
     obtain ⟨g_38, hm⟩ := gs hm
     refine ixoO 1 K h rfl rfl rfl rfl g_38 s81 t108 fun a K => ?_
     have hl_39 : (st x_21 x_4.1 (⟨p1, x_26⟩ : T108)).length = x_21.length := st_length
     have hob := optB (j := 1) h rfl (inr_lt g_38)
     refine sto 1 Ik108 ((st x_21 x_4.1 (⟨p1, x_26⟩ : T108))) K h (optJ h rfl (inr_lt g_38)) rfl (gt_some g_38) rfl q_37 t108 rfl rfl fun w h => ?_
     rw [hob] at h
     refine nsl <| mv K rfl fun a K => asg K rfl fun a K => asg K rfl fun a K => wn <| wt ?_
     obtain ⟨G10, e_10, h, q_40⟩ := frz 1 h rfl
     rw [hl_39] at q_40
     obtain rfl := oi hm
     exact fi f167 [_, _] K (St.sel [] rfl h) rfl ⟨rfl, rfl, ⟨⟩⟩ (.inl rfl) ⟨rfl, ⟨_, rfl, q_40⟩⟩
   refine wk <| sl <| mv K rfl fun a K => mv K rfl fun a K => ld 0 Ik108 K h rfl rfl rfl t108 fun a v_41 K q_42 => ?_
   replace q_42 : k108.val _ v_41 (⟨p1, x_26⟩ : T108) := q_42
   refine bldS (f := k108) (by decide) [(⟨p1, x_26⟩ : T108)] K h rfl s81 t108 rfl z108 (.cons (Fld.idx k108 0 (by decide)) rfl q_42 .nil) fun a w bk_43 K h => ?_
   obtain ⟨x_44, hx_44, hm⟩ := bs hm
   refine clw (Δ₁ := [⟨k108, x_21, cp_25, bk_24, 108⟩, ⟨k108, [(⟨p1, x_26⟩ : T108)], 1, (some bk_43), 108⟩]) (Δ₂ := _) [0, 2] K h rfl rfl b237 (fun h => c237 hx_44 h) fun a w v_47 G11 Δx K e_11 h hR_48 => ?_
   obtain ⟨bk_45, cp_46, rfl, rfl⟩ := hR_48
   replace h := St.cast (Δ' := [⟨k108, x_44, cp_46, bk_45, 108⟩, ⟨k108, [(⟨p1, x_26⟩ : T108)], 1, (some bk_34), 108⟩]) h rfl
   refine asg K rfl fun a K => asg K rfl fun a K => wn <| wt ?_
   obtain ⟨G12, e_12, h, q_49⟩ := frz 0 h rfl
   obtain rfl := oi hm
   exact fi f167 [_, _] K (St.sel [] rfl h) rfl ⟨rfl, rfl, ⟨⟩⟩ (.inl rfl) ⟨rfl, ⟨_, rfl, q_49⟩⟩
 refine wl <| mv K rfl fun a K => notB _ K rfl rfl fun a K => mv K rfl fun a K => ?_
 rcases im hm with ⟨c_52, hm⟩ | ⟨c_52, hm⟩
 · refine g2 K c_52 <| mv K rfl fun a K => g2 K c_52 <| lenV K rfl (Kd.val_mono (Gh.trans e_1 (Gh.trans e_2 e_5)) hp0) rfl s81 fun a K => g2 K c_52 <| binC _ K rfl rfl rfl fun a K => pkT K rfl c_52 rfl fun a K => asg K rfl fun a K => wn <| kk_51 ((p0.length : Int) == 4) hm _ _ ⟨G5, gr, (St.sel [] rfl h), (K.sub (so rfl))⟩
 refine g1 K c_52 fun a K => g1 K c_52 fun a K => g1 K c_52 fun a K => pkF K rfl c_52 rfl fun a K => asg K rfl fun a K => wn <| kk_51 false hm _ _ ⟨G5, gr, (St.sel [] rfl h), (K.sub (so rfl))⟩
abbrev R99 (r : T103 × Int) (v : Value) (H : Gh) : Prop := v = .int .i64 r.2
instance monR99 {r : T103 × Int} : MonR (R99 r) := ⟨fun _ _ _ _ h => h⟩
theorem c99 {p0 : T103} {p1 : T45} {B0 q0 q1 q2 n0 n1 n2 : Nat} {r : T103 × Int} (hm : m99 p0 p1 = some r) {vp1 : Value} (hp1 : (k45.val G0 vp1 p1)) (h : St c G0 w ((o3 B0 q0 q1 q2 n0 n1 n2 p0))) : Calls prog 99 #[(pA B0 Ik103o), vp1] w (FO c (o3 B0 q0 q1 q2 n0 n1 n2 r.1) (R99 r)) := by
 unfold m99 at hm
 refine enter (n := 64) func99 rfl rfl rfl fun a K => sl <| boxr K h rfl hp1 fun a w v_1 G1 K e_1 h q_2 => asg K rfl fun a K => nsl <| mv K rfl fun a K => ldr K h rfl q_2 t45 fun a v_3 K q_4 => ?_
 replace q_4 : k45.val _ v_3 p1 := q_4
 obtain ⟨x_5, hx_5, hm⟩ := bs hm
 refine clr (Δ₁ := (o3 B0 q0 q1 q2 n0 n1 n2 p0)) (Δ₂ := _) [3, 3, 3, 3] K h rfl rfl b165 (fun h => c165 hx_5 q_4 h) fun a w v G2 K e_2 h hR_6 => ?_
 obtain rfl := hR_6
 refine mv K rfl fun a K => extr K rfl rfl fun a K => extr K rfl rfl fun a K => asg K rfl fun a K => asg K rfl fun a K => wn <| ws <| sl <| mv K rfl fun a K => binC _ K rfl rfl rfl fun a K => wn <| ifm hm K rfl (fun _ hm => ?_) fun _ hm => ?_
 · refine sl <| mv K rfl fun a K => asg K rfl fun a K => wn <| wt ?_
   obtain rfl := oi hm
   exact fr f99 K (St.sel [0, 1, 2, 3] rfl h) rfl ⟨rfl, ⟨⟩⟩ ⟨rfl, rfl⟩
 refine wk <| sl <| mv K rfl fun a K => nilck K rfl fun a K => fa F103_0o K rfl o103_0o fun a K => fa F37_4o K rfl o37_4o fun a K => ld1 0 (J103_0o.comp F37_4o) (hS q0 p0.p.Inodes n0) K h rfl rfl rfl t33 vX fun a K => mv K rfl fun a K => ?_
 obtain ⟨g_8, hm⟩ := gs hm
 refine ixo K rfl rfl g_8 s33 t84 fun a K => asg K rfl fun a K => wn <| ws ?_
 obtain ⟨x_27, hx_27, hm⟩ := bs hm
 refine wh 11 [fE _, fE _, fE _, (fT (kSl k108) ((gt p0.p.Inodes x_5.1).Xattrs)), (fT (kRef kStr) p1.Other), fE _, (fC (R166 x_27)), (fC (R166 x_27)), (fT (kSl k108) x_27.1), (fE (.int .i64 x_27.2)), (fT (kSl k108) x_27.1)] [(0, _), (3, _), (4, _), (5, _), (6, _), (7, _)] mx K h (so rfl) ⟨hpX [(7, _)] (fun s _ => ⟨s.2.2.2.2.2.1, ⟨⟩⟩) fun _ _ K t => mv K rfl t, hpX [(26, _)] k1 fun _ _ K t => nilck K rfl t, hpX [(27, _)] k1 fun _ _ K t => fa F84_8 K rfl o84_8 t, hpT [(28, _)] k1 fun _ h K t => ld 1 J84_8 K h rfl rfl (gt_some g_8) t81 t, hpT [(3, _)] (fun s _ => ⟨s.2.1, ⟨⟩⟩) fun e _ K t => far F45_4 K rfl (Kd.val_mono (Gh.trans e_2 e) q_2) o45_4 t, hpQ (t := 30) (fun k => k.1) fun _ h K q t => ldr1 (.string p1.Other) K h rfl q t9 vS t, ?_, ?_, ?_, ?_, ?_, ⟨⟩⟩ ?_
 · intro a w G9 L X e_9 h K hs hk
   obtain ⟨v_22, _, l_23, -, q_24⟩ := hk.1
   obtain ⟨v_25, _, l_26, -, rfl⟩ := hk.2.1
   have hx : Sy.sub L [(29, v_22), (31, .string p1.Other)] := ⟨l_23, l_26, ⟨⟩⟩
   replace K := K.addx _ hx
   refine clp K h rfl b166 (fun h => c166 hx_27 q_24 h) fun a w v G10 K e_10 h hR_28 => wn <| ⟨rfl, G10, [], e_10, h, _, K.dropx _ hx, ⟨rfl, hR_28⟩⟩
 · intro a w G11 L X e_11 h K hs hk
   obtain ⟨v_31, _, l_32, -, hR_33⟩ := hk.1
   obtain ⟨v_34, rfl, q_35⟩ := id hR_33
   have hx : Sy.sub L [(32, .tuple #[v_34, .int .i64 x_27.2])] := ⟨l_32, ⟨⟩⟩
   replace K := K.addx _ hx
   refine mv K rfl fun a K => wn <| ⟨rfl, G11, [], gr, h, _, K.dropx _ hx, ⟨rfl, hR_33⟩⟩
 · intro a w G12 L X e_12 h K hs hk
   obtain ⟨v_36, _, l_37, -, hR_38⟩ := hk.1
   obtain ⟨v_39, rfl, q_40⟩ := id hR_38
   have hx : Sy.sub L [(25, .tuple #[v_39, .int .i64 x_27.2])] := ⟨l_37, ⟨⟩⟩
   replace K := K.addx _ hx
   refine extr K rfl rfl fun a K => wn <| ⟨rfl, G12, [], gr, h, _, K.dropx _ hx, ⟨rfl, q_40⟩⟩
 · intro a w G13 L X e_13 h K hs hk
   obtain ⟨v_41, _, l_42, -, hR_43⟩ := hk.1
   obtain ⟨v_44, rfl, q_45⟩ := id hR_43
   have hx : Sy.sub L [(25, .tuple #[v_44, .int .i64 x_27.2])] := ⟨l_42, ⟨⟩⟩
   replace K := K.addx _ hx
   refine extr K rfl rfl fun a K => wn <| ⟨rfl, G13, [], gr, h, _, K.dropx _ hx, ⟨rfl, rfl⟩⟩
 · intro a w G14 L X e_14 h K hs hk
   obtain ⟨v_46, _, l_47, -, q_48⟩ := hk.1
   have hx : Sy.sub L [(33, v_46)] := ⟨l_47, ⟨⟩⟩
   replace K := K.addx _ hx
   refine asg K rfl fun a K => wn <| ⟨rfl, G14, [], gr, h, _, K.dropx _ hx, ⟨rfl, q_48⟩⟩
 intro a w G15 L e_15 h K hs hg
 obtain ⟨v_50, l_52, -, q_51⟩ := hg 10 rfl rfl
 replace K := K.sub (l' := [(34, _), (8, _), (0, _), (3, _), (4, _), (5, _), (6, _), (7, _)]) ⟨gE (hg 9 rfl rfl), l_52, hs.1, hs.2.1, hs.2.2.1, hs.2.2.2.1, hs.2.2.2.2.1, hs.2.2.2.2.2.1, ⟨⟩⟩
 refine asg K rfl fun a K => wn <| joinS (S := Int × (List T108)) (fun s_110 a w => ∃ (G31 : Gh) (v_111 : Value), Gh.le G15 G31 ∧ St c G31 w (o3 B0 q0 q1 q2 n0 n1 n2 p0) ∧ Tm 64 a [(0, (pA B0 Ik103o)), (4, .int .i64 0), (5, .int .i64 x_5.1), (6, .int .i64 s_110.1), (7, .pointer (some (adr q0 x_5.1.toNat k84.n Ik84.off))), (8, v_111)] ∧ ((kSl k108)).val G31 v_111 s_110.2) (fun s_110 => m99_j_123 p0 x_5 s_110 = some r) (fun s_110 hm a w hJ => ?_) (fun kk_124 => ?_)
 · obtain ⟨G31, v_111, e_31, h, K, q_112⟩ := hJ
   unfold m99_j_123 at hm
   refine ws <| sl <| mv K rfl fun a K => wn <| wb <| sl <| binC _ K rfl rfl rfl fun a K => asg K rfl fun a K => wn <| ifm hm K rfl (fun _ hm => ?_) fun _ hm => ?_
   · refine sl <| asg K rfl fun a K => wn <| wt ?_
     obtain rfl := oi hm
     exact fr f99 K (St.sel [0, 1, 2, 3] rfl h) rfl ⟨rfl, ⟨⟩⟩ ⟨rfl, rfl⟩
   refine sl <| binC _ K rfl rfl rfl fun a K => asg K rfl fun a K => wn <| ifm hm K rfl (fun _ hm => ?_) fun _ hm => ?_
   · refine sl <| asg K rfl fun a K => wn <| wt ?_
     obtain rfl := oi hm
     exact fr f99 K (St.sel [0, 1, 2, 3] rfl h) rfl ⟨rfl, ⟨⟩⟩ ⟨rfl, rfl⟩
   refine sl <| binC _ K rfl rfl rfl fun a K => asg K rfl fun a K => wn <| ifm hm K rfl (fun _ hm => ?_) fun _ hm => ?_
   · refine sl <| asg K rfl fun a K => wn <| wt ?_
     obtain rfl := oi hm
     exact fr f99 K (St.sel [0, 1, 2, 3] rfl h) rfl ⟨rfl, ⟨⟩⟩ ⟨rfl, rfl⟩
   refine wk <| sl <| mv K rfl fun a K => mv K rfl fun a K => nilck K rfl fun a K => fa F84_8 K rfl o84_8 fun a K => ?_
   obtain ⟨g_116, hm⟩ := gs hm
   have hl_117 : (st p0.p.Inodes x_5.1 ({ (gt p0.p.Inodes x_5.1) with Xattrs := s_110.2 } : T84)).length = p0.p.Inodes.length := st_length
   refine sto 1 J84_8 ((st p0.p.Inodes x_5.1 ({ (gt p0.p.Inodes x_5.1) with Xattrs := s_110.2 } : T84))) K h rfl rfl (gt_some g_116) rfl q_112 t81 rfl rfl fun w h => nsl <| mv K rfl fun a K => mv K rfl fun a K => ?_
   obtain ⟨x_118, hx_118, hm⟩ := bs hm
   replace h := St.cast h (show ([⟨k103o, [(⟨(⟨p0.p.Homes, p0.p.Now, p0.p.Salt, p0.p.Users, (hS q0 p0.p.Inodes n0), (hS q1 p0.p.Dirs n1), (hS q2 p0.p.Blocks n2)⟩ : T37o), p0.fds⟩ : T103o)], 1, (some B0), 103⟩, ⟨k84, (st p0.p.Inodes x_5.1 ({ (gt p0.p.Inodes x_5.1) with Xattrs := s_110.2 } : T84)), n0, (some q0), 84⟩, ⟨(kSl k87), p0.p.Dirs, n1, (some q1), 85⟩, ⟨(kSl kByte), p0.p.Blocks, n2, (some q2), 43⟩] : List Own) = [⟨k103o, [(⟨(⟨p0.p.Homes, p0.p.Now, p0.p.Salt, p0.p.Users, (hdr (some q0) (st p0.p.Inodes x_5.1 ({ (gt p0.p.Inodes x_5.1) with Xattrs := s_110.2 } : T84)).length n0), (hS q1 p0.p.Dirs n1), (hS q2 p0.p.Blocks n2)⟩ : T37o), p0.fds⟩ : T103o)], 1, (some B0), 103⟩, ⟨k84, (st p0.p.Inodes x_5.1 ({ (gt p0.p.Inodes x_5.1) with Xattrs := s_110.2 } : T84)), n0, (some q0), 84⟩, ⟨(kSl k87), p0.p.Dirs, n1, (some q1), 85⟩, ⟨(kSl kByte), p0.p.Blocks, n2, (some q2), 43⟩] by rw [hl_117])
   refine clw (Δ₁ := (o3 B0 q0 q1 q2 n0 n1 n2 ({ p0 with p := ({ p0.p with Inodes := (st p0.p.Inodes x_5.1 ({ (gt p0.p.Inodes x_5.1) with Xattrs := s_110.2 } : T84)) } : T37) } : T103))) (Δ₂ := _) [3, 3, 3, 3] K h rfl rfl b154 (fun h => c154 hx_118 h) fun a w v G32 Δx K e_32 h hR_119 => ?_
   obtain ⟨rfl, hR_119⟩ := hR_119
   replace h := St.cast (Δ' := (o3 B0 q0 q1 q2 n0 n1 n2 x_118)) h rfl
   obtain rfl := hR_119
   refine nsl <| asg K rfl fun a K => wn <| wt ?_
   obtain rfl := oi hm
   exact fr f99 K (St.sel [0, 1, 2, 3] rfl h) rfl ⟨rfl, ⟨⟩⟩ ⟨rfl, rfl⟩
 refine sl <| far F45_0 K rfl (Kd.val_mono (Gh.trans e_2 e_15) q_2) o45_0 fun a v_125 K q_126 => ?_
 replace q_126 : (kRef (kInt .i64)).val _ v_125 p1.Kind := q_126
 refine ldr1 (.int .i64 p1.Kind) K h rfl q_126 t30 vI fun a K => binC _ K rfl rfl rfl fun a K => wn <| ifm hm K rfl (fun _ hm => ?_) fun _ hm => ?_
 · obtain ⟨x_156, hx_156, hm⟩ := bs hm
   refine wh 13 [fE _, fE _, fE _, (fT (kSl k108) ((gt p0.p.Inodes x_5.1).Xattrs)), (fT (kRef kStr) p1.Other), fE _, (fT (kRef (kSl kByte)) p1.Data), (fT (kSl kByte) p1.Data), (fC (R167 x_156)), (fC (R167 x_156)), (fT (kSl k108) x_156.1), (fE (.int .i64 x_156.2)), (fT (kSl k108) x_156.1)] [(0, _), (3, _), (4, _), (5, _), (6, _), (7, _)] mx K h (so rfl) ⟨hpX [(7, _)] (fun s _ => ⟨s.2.2.2.2.2.1, ⟨⟩⟩) fun _ _ K t => mv K rfl t, hpX [(39, _)] k1 fun _ _ K t => nilck K rfl t, hpX [(40, _)] k1 fun _ _ K t => fa F84_8 K rfl o84_8 t, hpT [(41, _)] k1 fun _ h K t => ld 1 J84_8 K h rfl rfl (gt_some g_8) t81 t, hpT [(3, _)] (fun s _ => ⟨s.2.1, ⟨⟩⟩) fun e _ K t => far F45_4 K rfl (Kd.val_mono (Gh.trans e_2 (Gh.trans e_15 e)) q_2) o45_4 t, hpQ (t := 43) (fun k => k.1) fun _ h K q t => ldr1 (.string p1.Other) K h rfl q t9 vS t, hpT [(3, _)] (fun s _ => ⟨s.2.1, ⟨⟩⟩) fun e _ K t => far F45_5 K rfl (Kd.val_mono (Gh.trans e_2 (Gh.trans e_15 e)) q_2) o45_5 t, hpR (t := 45) (fun k => k.1) fun _ h K q t => ldr K h rfl q t43 t, ?_, ?_, ?_, ?_, ?_, ⟨⟩⟩ ?_
   · intro a w G41 L X e_41 h K hs hk
     obtain ⟨v_148, _, l_149, -, q_150⟩ := hk.1
     obtain ⟨v_151, _, l_152, -, rfl⟩ := hk.2.1
     obtain ⟨v_153, _, l_154, -, q_155⟩ := hk.2.2.1
     have hx : Sy.sub L [(42, v_148), (44, .string p1.Other), (46, v_153)] := ⟨l_149, l_152, l_154, ⟨⟩⟩
     replace K := K.addx _ hx
     refine clp K h rfl b167 (fun h => c167 hx_156 q_150 q_155 h) fun a w v G42 K e_42 h hR_157 => wn <| ⟨rfl, G42, [], e_42, h, _, K.dropx _ hx, ⟨rfl, hR_157⟩⟩
   · intro a w G43 L X e_43 h K hs hk
     obtain ⟨v_160, _, l_161, -, hR_162⟩ := hk.1
     obtain ⟨v_163, rfl, q_164⟩ := id hR_162
     have hx : Sy.sub L [(47, .tuple #[v_163, .int .i64 x_156.2])] := ⟨l_161, ⟨⟩⟩
     replace K := K.addx _ hx
     refine mv K rfl fun a K => wn <| ⟨rfl, G43, [], gr, h, _, K.dropx _ hx, ⟨rfl, hR_162⟩⟩
   · intro a w G44 L X e_44 h K hs hk
     obtain ⟨v_165, _, l_166, -, hR_167⟩ := hk.1
     obtain ⟨v_168, rfl, q_169⟩ := id hR_167
     have hx : Sy.sub L [(38, .tuple #[v_168, .int .i64 x_156.2])] := ⟨l_166, ⟨⟩⟩
     replace K := K.addx _ hx
     refine extr K rfl rfl fun a K => wn <| ⟨rfl, G44, [], gr, h, _, K.dropx _ hx, ⟨rfl, q_169⟩⟩
   · intro a w G45 L X e_45 h K hs hk
     obtain ⟨v_170, _, l_171, -, hR_172⟩ := hk.1
     obtain ⟨v_173, rfl, q_174⟩ := id hR_172
     have hx : Sy.sub L [(38, .tuple #[v_173, .int .i64 x_156.2])] := ⟨l_171, ⟨⟩⟩
     replace K := K.addx _ hx
     refine extr K rfl rfl fun a K => wn <| ⟨rfl, G45, [], gr, h, _, K.dropx _ hx, ⟨rfl, rfl⟩⟩
   · intro a w G46 L X e_46 h K hs hk
     obtain ⟨v_175, _, l_176, -, q_177⟩ := hk.1
     have hx : Sy.sub L [(48, v_175)] := ⟨l_176, ⟨⟩⟩
     replace K := K.addx _ hx
     refine asg K rfl fun a K => wn <| ⟨rfl, G46, [], gr, h, _, K.dropx _ hx, ⟨rfl, q_177⟩⟩
   intro a w G47 L e_47 h K hs hg
   obtain ⟨v_179, l_181, -, q_180⟩ := hg 12 rfl rfl
   replace K := K.sub (l' := [(49, _), (8, _), (0, _), (4, _), (5, _), (6, _), (7, _)]) ⟨gE (hg 11 rfl rfl), l_181, hs.1, hs.2.2.1, hs.2.2.2.1, hs.2.2.2.2.1, hs.2.2.2.2.2.1, ⟨⟩⟩
   refine asg K rfl fun a K => wn <| kk_124 (x_156.2, x_156.1) hm _ _ ⟨G47, v_179, e_47, (St.sel [0, 1, 2, 3] rfl h), (K.sub (so rfl)), q_180⟩
 refine wk <| kk_124 (x_27.2, x_27.1) hm _ _ ⟨G15, v_50, gr, (St.sel [0, 1, 2, 3] rfl h), (K.sub (so rfl)), q_51⟩
abbrev R168 (r : (List T56) × Int) (v : Value) (H : Gh) : Prop := ∃ u0, v = .tuple #[u0, .int .i64 r.2] ∧ (kSl k56).val H u0 r.1
instance monR168 {r : (List T56) × Int} : MonR (R168 r) := by
 constructor
 rintro G H v e ⟨u0, rfl, q0⟩
 exact ⟨u0, rfl, Kd.val_mono e q0⟩
theorem c168 {p0 : (List T56)} {p1 : Int} {p2 : Int} {p3 : Int} {r : (List T56) × Int} (hm : m168 p0 p1 p2 p3 = some r) {vp0 : Value} (hp0 : ((kSl k56).val G0 vp0 p0)) (h : St c G0 w []) : Calls prog 168 #[vp0, .int .i64 p1, .int .i64 p2, .int .i64 p3] w (FO c [] (R168 r)) := by
 unfold m168 at hm
 refine enter (n := 41) func168 rfl rfl rfl fun a K => sl <| asg K rfl fun a K => asg K rfl fun a K => wn <| ws <| wb <| sl <| mv K rfl fun a K => ?_
 obtain ⟨x_24, hx_24, hm⟩ := bs hm
 refine clp K h rfl b83 (fun h => c83 hx_24 hp0 h) fun a w v G9 K e_9 h hR_25 => ?_
 obtain rfl := hR_25
 refine binC _ K rfl rfl rfl fun a K => asg K rfl fun a K => wn <| ifm hm K rfl (fun _ hm => ?_) fun _ hm => ?_
 · refine sl <| asg K rfl fun a K => asg K rfl fun a K => wn <| wt ?_
   obtain rfl := oi hm
   exact fi f168 [_, _] K (St.sel [] rfl h) rfl ⟨rfl, rfl, ⟨⟩⟩ (.inl rfl) ⟨rfl, ⟨_, rfl, nil_sl⟩⟩
 refine joinS (S := Bool) (fun s_35 a w => Jn c G9 [] 41 [(0, vp0), (1, .int .i64 p1), (2, .int .i64 p2), (3, .int .i64 p3), (8, .slice none 0 0), (9, .int .i64 0), (15, .bool s_35)] a w) (fun s_35 => m168_j_47 p0 p1 p2 p3 s_35 = some r) (fun s_35 hm a w hJ => ?_) (fun kk_48 => ?_)
 · obtain ⟨G13, e_13, h, K⟩ := hJ
   unfold m168_j_47 at hm
   refine ifm hm K rfl (fun _ hm => ?_) fun _ hm => ?_
   · refine sl <| asg K rfl fun a K => asg K rfl fun a K => wn <| wt ?_
     obtain rfl := oi hm
     exact fi f168 [_, _] K (St.sel [] rfl h) rfl ⟨rfl, rfl, ⟨⟩⟩ (.inl rfl) ⟨rfl, ⟨_, rfl, nil_sl⟩⟩
   refine wk <| sl <| mv K rfl fun a K => mv K rfl fun a K => ?_
   obtain ⟨x_37, hx_37, hm⟩ := bs hm
   refine clp K h rfl b85 (fun h => c85 hx_37 (Kd.val_mono (Gh.trans e_9 e_13) hp0) h) fun a w v_39 G14 K e_14 h hR_38 => alc K h z56 fun a w bk_40 K h => sto 0 Ik56 ([x_37]) K h rfl rfl rfl rfl hR_38 t56 rfl rfl fun w h => nsl <| mv K rfl fun a K => mv K rfl fun a K => fa F56_3 K rfl o56_3 fun a K => sto 0 J56_3 ([({ x_37 with MaxBlocks := p2 } : T56)]) K h rfl rfl rfl rfl int_val t3 rfl rfl fun w h => fa F56_4 K rfl o56_4 fun a K => sto 0 J56_4 ([({ x_37 with MaxBlocks := p2, MaxInodes := p3 } : T56)]) K h rfl rfl rfl rfl int_val t3 rfl rfl fun w h => nsl <| mv K rfl fun a K => ld 0 Ik56 K h rfl rfl rfl t56 fun a v_41 K q_42 => ?_
   obtain ⟨x_43, hx_43, hm⟩ := bs hm
   refine clp K h rfl b87 (fun h => c87 hx_43 (Kd.val_mono (Gh.trans e_9 (Gh.trans e_13 e_14)) hp0) q_42 h) fun a w v G15 K e_15 h hR_44 => ?_
   obtain ⟨v_45, rfl, q_46⟩ := hR_44
   refine extr K rfl rfl fun a K => extr K rfl rfl fun a K => asg K rfl fun a K => asg K rfl fun a K => wn <| wt ?_
   obtain rfl := oi hm
   exact fi f168 [_, _] K (St.sel [] rfl h) rfl ⟨rfl, rfl, ⟨⟩⟩ (.inl rfl) ⟨rfl, ⟨v_45, rfl, q_46⟩⟩
 refine wl <| mv K rfl fun a K => ?_
 obtain ⟨x_49, hx_49, hm⟩ := bs hm
 refine clp K h rfl b84 (fun h => c84 hx_49 h) fun a w v G16 K e_16 h hR_50 => ?_
 obtain rfl := hR_50
 refine notB _ K rfl rfl fun a K => mv K rfl fun a K => ?_
 rcases im hm with ⟨c_51, hm⟩ | ⟨c_51, hm⟩
 · refine g1 K c_51 fun a K => g1 K c_51 fun a K => g1 K c_51 fun a K => pkT K rfl c_51 rfl fun a K => mv K rfl fun a K => g1 K rfl fun a K => g1 K rfl fun a K => g1 K rfl fun a K => pkT K rfl rfl rfl fun a K => asg K rfl fun a K => wn <| kk_48 true hm _ _ ⟨G16, e_16, (St.sel [] rfl h), (K.sub (so rfl))⟩
 refine g2 K c_51 <| mv K rfl fun a K => gy K rfl rfl c_51 ?_
 obtain ⟨x_52, hx_52, hm⟩ := bs hm
 refine clp K h rfl b84 (fun h => c84 hx_52 h) fun a w v G17 K e_17 h hR_53 => ?_
 obtain rfl := hR_53
 refine g2 K c_51 <| notB _ K rfl rfl fun a K => pkF K rfl c_51 rfl fun a K => mv K rfl fun a K => ?_
 rcases im hm with ⟨c_54, hm⟩ | ⟨c_54, hm⟩
 · refine g1 K c_54 fun a K => g1 K c_54 fun a K => g1 K c_54 fun a K => pkT K rfl c_54 rfl fun a K => asg K rfl fun a K => wn <| kk_48 true hm _ _ ⟨G17, (Gh.trans e_16 e_17), (St.sel [] rfl h), (K.sub (so rfl))⟩
 refine g2 K c_54 <| mv K rfl fun a K => gy K rfl rfl c_54 ?_
 obtain ⟨x_55, hx_55, hm⟩ := bs hm
 refine clp K h rfl b84 (fun h => c84 hx_55 h) fun a w v G18 K e_18 h hR_56 => ?_
 obtain rfl := hR_56
 refine g2 K c_54 <| notB _ K rfl rfl fun a K => pkF K rfl c_54 rfl fun a K => asg K rfl fun a K => wn <| kk_48 (!x_55) hm _ _ ⟨G18, (Gh.trans e_16 (Gh.trans e_17 e_18)), (St.sel [] rfl h), (K.sub (so rfl))⟩
abbrev R100 (r : T103 × Int) (v : Value) (H : Gh) : Prop := v = .int .i64 r.2
instance monR100 {r : T103 × Int} : MonR (R100 r) := ⟨fun _ _ _ _ h => h⟩
theorem c100 {p0 : T103} {p1 : T45} {B0 q0 q1 q2 n0 n1 n2 : Nat} {r : T103 × Int} (hm : m100 p0 p1 = some r) {vp1 : Value} (hp1 : (k45.val G0 vp1 p1)) (h : St c G0 w ((o3 B0 q0 q1 q2 n0 n1 n2 p0))) : Calls prog 100 #[(pA B0 Ik103o), vp1] w (FO c (o3 B0 q0 q1 q2 n0 n1 n2 r.1) (R100 r)) := by
 unfold m100 at hm
 refine enter (n := 35) func100 rfl rfl rfl fun a K => sl <| boxr K h rfl hp1 fun a w v_1 G1 K e_1 h q_2 => asg K rfl fun a K => wn <| ws <| sl <| far F45_1 K rfl q_2 o45_1 fun a v_3 K q_4 => ldr1 (.int .i64 p1.Uid) K h rfl q_4 t3 vI fun a K => binC _ K rfl rfl rfl fun a K => wn <| ifm hm K rfl (fun _ hm => ?_) fun _ hm => ?_
 · refine sl <| asg K rfl fun a K => wn <| wt ?_
   obtain rfl := oi hm
   exact fr f100 K (St.sel [0, 1, 2, 3] rfl h) rfl ⟨rfl, ⟨⟩⟩ ⟨rfl, rfl⟩
 refine wk <| ws ?_
 obtain ⟨x_40, hx_40, hm⟩ := bs hm
 refine wh 16 [fE _, fE _, fE _, fE _, (fT (kSl k56) p0.p.Users), (fT (kRef (kInt .i64)) p1.N), fE _, (fT (kRef (kInt .i64)) p1.Off), fE _, (fT (kRef (kInt .i64)) p1.Mode), fE _, (fC (R168 x_40)), (fC (R168 x_40)), (fT (kSl k56) x_40.1), (fE (.int .i64 x_40.2)), (fT (kSl k56) x_40.1)] [(0, _), (3, _), (4, _)] mx K h (so rfl) ⟨hpX [(0, _)] (fun s _ => ⟨s.1, ⟨⟩⟩) fun _ _ K t => mv K rfl t, hpX [(11, _)] k1 fun _ _ K t => nilck K rfl t, hpX [(12, _)] k1 fun _ _ K t => fa F103_0o K rfl o103_0o t, hpX [(13, _)] k1 fun _ _ K t => fa F37_3o K rfl o37_3o t, hpT [(14, _)] k1 fun _ h K t => ld 0 (J103_0o.comp F37_3o) K h rfl rfl rfl t32 t, hpT [(3, _)] (fun s _ => ⟨s.2.1, ⟨⟩⟩) fun e _ K t => far F45_7 K rfl (Kd.val_mono e q_2) o45_7 t, hpQ (t := 16) (fun k => k.1) fun _ h K q t => ldr1 (.int .i64 p1.N) K h rfl q t3 vI t, hpT [(3, _)] (fun s _ => ⟨s.2.1, ⟨⟩⟩) fun e _ K t => far F45_6 K rfl (Kd.val_mono e q_2) o45_6 t, hpQ (t := 18) (fun k => k.1) fun _ h K q t => ldr1 (.int .i64 p1.Off) K h rfl q t3 vI t, hpT [(3, _)] (fun s _ => ⟨s.2.1, ⟨⟩⟩) fun e _ K t => far F45_8 K rfl (Kd.val_mono e q_2) o45_8 t, hpQ (t := 20) (fun k => k.1) fun _ h K q t => ldr1 (.int .i64 p1.Mode) K h rfl q t3 vI t, ?_, ?_, ?_, ?_, ?_, ⟨⟩⟩ ?_
 · intro a w G13 L X e_13 h K hs hk
   obtain ⟨v_31, _, l_32, -, q_33⟩ := hk.1
   obtain ⟨v_34, _, l_35, -, rfl⟩ := hk.2.1
   obtain ⟨v_36, _, l_37, -, rfl⟩ := hk.2.2.1
   obtain ⟨v_38, _, l_39, -, rfl⟩ := hk.2.2.2.1
   have hx : Sy.sub L [(15, v_31), (17, .int .i64 p1.N), (19, .int .i64 p1.Off), (21, .int .i64 p1.Mode)] := ⟨l_32, l_35, l_37, l_39, ⟨⟩⟩
   replace K := K.addx _ hx
   refine clp K h rfl b168 (fun h => c168 hx_40 q_33 h) fun a w v G14 K e_14 h hR_41 => wn <| ⟨rfl, G14, [], e_14, h, _, K.dropx _ hx, ⟨rfl, hR_41⟩⟩
 · intro a w G15 L X e_15 h K hs hk
   obtain ⟨v_44, _, l_45, -, hR_46⟩ := hk.1
   obtain ⟨v_47, rfl, q_48⟩ := id hR_46
   have hx : Sy.sub L [(22, .tuple #[v_47, .int .i64 x_40.2])] := ⟨l_45, ⟨⟩⟩
   replace K := K.addx _ hx
   refine mv K rfl fun a K => wn <| ⟨rfl, G15, [], gr, h, _, K.dropx _ hx, ⟨rfl, hR_46⟩⟩
 · intro a w G16 L X e_16 h K hs hk
   obtain ⟨v_49, _, l_50, -, hR_51⟩ := hk.1
   obtain ⟨v_52, rfl, q_53⟩ := id hR_51
   have hx : Sy.sub L [(10, .tuple #[v_52, .int .i64 x_40.2])] := ⟨l_50, ⟨⟩⟩
   replace K := K.addx _ hx
   refine extr K rfl rfl fun a K => wn <| ⟨rfl, G16, [], gr, h, _, K.dropx _ hx, ⟨rfl, q_53⟩⟩
 · intro a w G17 L X e_17 h K hs hk
   obtain ⟨v_54, _, l_55, -, hR_56⟩ := hk.1
   obtain ⟨v_57, rfl, q_58⟩ := id hR_56
   have hx : Sy.sub L [(10, .tuple #[v_57, .int .i64 x_40.2])] := ⟨l_55, ⟨⟩⟩
   replace K := K.addx _ hx
   refine extr K rfl rfl fun a K => wn <| ⟨rfl, G17, [], gr, h, _, K.dropx _ hx, ⟨rfl, rfl⟩⟩
 · intro a w G18 L X e_18 h K hs hk
   obtain ⟨v_59, _, l_60, -, q_61⟩ := hk.1
   have hx : Sy.sub L [(23, v_59)] := ⟨l_60, ⟨⟩⟩
   replace K := K.addx _ hx
   refine asg K rfl fun a K => wn <| ⟨rfl, G18, [], gr, h, _, K.dropx _ hx, ⟨rfl, q_61⟩⟩
 intro a w G19 L e_19 h K hs hg
 obtain ⟨v_63, l_65, -, q_64⟩ := hg 15 rfl rfl
 replace K := K.sub (l' := [(24, _), (5, _), (0, _), (4, _)]) ⟨gE (hg 14 rfl rfl), l_65, hs.1, hs.2.2.1, ⟨⟩⟩
 refine asg K rfl fun a K => wn <| ws <| sl <| mv K rfl fun a K => wn <| wb <| sl <| binC _ K rfl rfl rfl fun a K => asg K rfl fun a K => wn <| ifm hm K rfl (fun _ hm => ?_) fun _ hm => ?_
 · refine sl <| mv K rfl fun a K => mv K rfl fun a K => nilck K rfl fun a K => fa F103_0o K rfl o103_0o fun a K => fa F37_3o K rfl o37_3o fun a K => sto 0 (J103_0o.comp F37_3o) ([(⟨(⟨p0.p.Homes, p0.p.Now, p0.p.Salt, x_40.1, (hS q0 p0.p.Inodes n0), (hS q1 p0.p.Dirs n1), (hS q2 p0.p.Blocks n2)⟩ : T37o), p0.fds⟩ : T103o)]) K h rfl rfl rfl rfl q_64 t32 rfl rfl fun w h => nsl <| asg K rfl fun a K => wn <| wt ?_
   obtain rfl := oi hm
   exact fr f100 K (St.sel [0, 1, 2, 3] rfl h) rfl ⟨rfl, ⟨⟩⟩ ⟨rfl, rfl⟩
 refine sl <| binC _ K rfl rfl rfl fun a K => asg K rfl fun a K => wn <| ifm hm K rfl (fun _ hm => ?_) fun _ hm => ?_
 · refine sl <| asg K rfl fun a K => wn <| wt ?_
   obtain rfl := oi hm
   exact fr f100 K (St.sel [0, 1, 2, 3] rfl h) rfl ⟨rfl, ⟨⟩⟩ ⟨rfl, rfl⟩
 refine wk <| sl <| asg K rfl fun a K => wn <| wt ?_
 obtain rfl := oi hm
 exact fr f100 K (St.sel [0, 1, 2, 3] rfl h) rfl ⟨rfl, ⟨⟩⟩ ⟨rfl, rfl⟩
abbrev R169 (r : Bool) (v : Value) (H : Gh) : Prop := v = .bool r
instance monR169 {r : Bool} : MonR (R169 r) := ⟨fun _ _ _ _ h => h⟩
theorem c169 {p0 : Nat} {r : Bool} (hm : m169 p0 = some r) (h : St c G0 w []) : Calls prog 169 #[.float .f64 p0] w (FO c [] (R169 r)) := by
 unfold m169 at hm
 refine enter (n := 7) func169 rfl rfl rfl fun a K => sl <| asg K rfl fun a K => nsl <| mv K rfl fun a K => clx (.int .u64 ((p0 : Nat) : Int)) x44 K rfl x_bits fun a K => cvtI _ K rfl ⟨_, u111⟩ u2 rfl fun a K => binC _ K rfl rfl rfl fun a K => asg K rfl fun a K => wn <| wt ?_
 obtain rfl := oi hm
 exact fr f169 K (St.sel [] rfl h) rfl ⟨rfl, ⟨⟩⟩ ⟨rfl, rfl⟩
abbrev R101 (r : Nat × Int) (v : Value) (H : Gh) : Prop := v = .tuple #[.float .f64 r.1, .int .i64 r.2]
instance monR101 {r : Nat × Int} : MonR (R101 r) := ⟨fun _ _ _ _ h => h⟩
theorem c101 {p0 : Nat} {p1 : Nat} {r : Nat × Int} (hm : m101 p0 p1 = some r) (h : St c G0 w []) : Calls prog 101 #[.float .f64 p0, .float .f64 p1] w (FO c [] (R101 r)) := by
 unfold m101 at hm
 refine enter (n := 21) func101 rfl rfl rfl fun a K => sl <| asg K rfl fun a K => asg K rfl fun a K => wn <| ws <| wb <| joinS (S := Bool) (fun s_4 a w => Jn c G0 [] 21 [(0, .float .f64 p0), (1, .float .f64 p1), (4, .float .f64 (0 : Nat)), (5, .int .i64 0), (6, .bool s_4)] a w) (fun s_4 => m101_j_8 p0 p1 s_4 = some r) (fun s_4 hm a w hJ => ?_) (fun kk_9 => ?_)
 · obtain ⟨G2, e_2, h, K⟩ := hJ
   unfold m101_j_8 at hm
   refine ifm hm K rfl (fun _ hm => ?_) fun _ hm => ?_
   · refine sl <| asg K rfl fun a K => asg K rfl fun a K => wn <| wt ?_
     obtain rfl := oi hm
     exact fi f101 [_, _] K (St.sel [] rfl h) rfl ⟨rfl, rfl, ⟨⟩⟩ (.inl rfl) ⟨rfl, rfl⟩
   refine sl <| mv K rfl fun a K => binF _ K rfl rfl rfl fun a K => notB _ K rfl rfl fun a K => asg K rfl fun a K => wn <| ifm hm K rfl (fun _ hm => ?_) fun _ hm => ?_
   · refine sl <| asg K rfl fun a K => asg K rfl fun a K => wn <| wt ?_
     obtain rfl := oi hm
     exact fi f101 [_, _] K (St.sel [] rfl h) rfl ⟨rfl, rfl, ⟨⟩⟩ (.inl rfl) ⟨rfl, rfl⟩
   refine wk <| sl <| mv K rfl fun a K => mv K rfl fun a K => ?_
   obtain ⟨x_7, hx_7, hm⟩ := bs hm
   refine binFA _ K rfl rfl hx_7 fun a K => asg K rfl fun a K => asg K rfl fun a K => wn <| wt ?_
   obtain rfl := oi hm
   exact fi f101 [_, _] K (St.sel [] rfl h) rfl ⟨rfl, rfl, ⟨⟩⟩ (.inl rfl) ⟨rfl, rfl⟩
 refine wl <| mv K rfl fun a K => binF _ K rfl rfl rfl fun a K => notB _ K rfl rfl fun a K => mv K rfl fun a K => ?_
 rcases im hm with ⟨c_10, hm⟩ | ⟨c_10, hm⟩
 · refine g1 K c_10 fun a K => g1 K c_10 fun a K => pkT K rfl c_10 rfl fun a K => asg K rfl fun a K => wn <| kk_9 true hm _ _ ⟨G0, gr, (St.sel [] rfl h), (K.sub (so rfl))⟩
 refine g2 K c_10 <| mv K rfl fun a K => gy K rfl rfl c_10 ?_
 obtain ⟨x_11, hx_11, hm⟩ := bs hm
 refine clp K h rfl b169 (fun h => c169 hx_11 h) fun a w v G3 K e_3 h hR_12 => ?_
 obtain rfl := hR_12
 refine pkF K rfl c_10 rfl fun a K => asg K rfl fun a K => wn <| kk_9 x_11 hm _ _ ⟨G3, e_3, (St.sel [] rfl h), (K.sub (so rfl))⟩
abbrev R102 (r : Int) (v : Value) (H : Gh) : Prop := v = .int .i64 r
instance monR102 {r : Int} : MonR (R102 r) := ⟨fun _ _ _ _ h => h⟩
theorem c102 {p0 : Int} {p1 : Int} {p2 : Int} {r : Int} (hm : m102 p0 p1 p2 = some r) (h : St c G0 w []) : Calls prog 102 #[.int .i64 p0, .int .i64 p1, .int .i64 p2] w (FO c [] (R102 r)) := by
 unfold m102 at hm
 refine enter (n := 12) func102 rfl rfl rfl fun a K => sl <| asg K rfl fun a K => wn <| ws <| sl <| mv K rfl fun a K => mv K rfl fun a K => binC _ K rfl rfl rfl fun a K => wn <| ifm hm K rfl (fun _ hm => ?_) fun _ hm => ?_
 · refine sl <| mv K rfl fun a K => asg K rfl fun a K => wn <| wt ?_
   obtain rfl := oi hm
   exact fr f102 K (St.sel [] rfl h) rfl ⟨rfl, ⟨⟩⟩ ⟨rfl, rfl⟩
 refine wk <| sl <| mv K rfl fun a K => asg K rfl fun a K => wn <| wt ?_
 obtain rfl := oi hm
 exact fr f102 K (St.sel [] rfl h) rfl ⟨rfl, ⟨⟩⟩ ⟨rfl, rfl⟩
abbrev R170 (r : Bool) (v : Value) (H : Gh) : Prop := v = .bool r
instance monR170 {r : Bool} : MonR (R170 r) := ⟨fun _ _ _ _ h => h⟩
theorem c170 {p0 : T103} {p1 : Int} {B0 q0 q1 q2 n0 n1 n2 : Nat} {r : Bool} (hm : m170 p0 p1 = some r) (h : St c G0 w ((o3 B0 q0 q1 q2 n0 n1 n2 p0))) : Calls prog 170 #[(pA B0 Ik103o), .int .i64 p1] w (FO c (o3 B0 q0 q1 q2 n0 n1 n2 p0) (R170 r)) := by
 unfold m170 at hm
 refine enter (n := 20) func170 rfl rfl rfl fun a K => sl <| asg K rfl fun a K => nsl <| mv K rfl fun a K => binC _ K rfl rfl rfl fun a K => mv K rfl fun a K => ?_
 rcases im hm with ⟨c_1, hm⟩ | ⟨c_1, hm⟩
 · refine g2 K c_1 <| mv K rfl fun a K => g2 K c_1 <| binC _ K rfl rfl rfl fun a K => pkT K rfl c_1 rfl fun a K => mv K rfl fun a K => ?_
   rcases im hm with ⟨c_2, hm⟩ | ⟨c_2, hm⟩
   · refine g2 K c_2 <| mv K rfl fun a K => g2 K c_2 <| mv K rfl fun a K => g2 K c_2 <| nilck K rfl fun a K => g2 K c_2 <| fa F103_1o K rfl o103_1o fun a K => gy K rfl rfl c_2 ?_
     obtain ⟨g_3, hm⟩ := gs hm
     refine ixa K rfl rfl g_3 r101 t100 fun a K => g2 K c_2 <| fa F100_0 K rfl o100_0 fun a K => g2 K c_2 <| ld1 0 ((J103_1o.comp (Fld.idx k100 (p1).toNat (inr_lt g_3))).comp F100_0) (.bool ((gt p0.fds p1).used)) K h rfl rfl rfl t4 vB fun a K => pkT K rfl c_2 rfl fun a K => asg K rfl fun a K => wn <| wt ?_
     obtain rfl := oi hm
     exact fr f170 K (St.sel [0, 1, 2, 3] rfl h) rfl ⟨rfl, ⟨⟩⟩ ⟨rfl, rfl⟩
   refine g1 K c_2 fun a K => g1 K c_2 fun a K => g1 K c_2 fun a K => g1 K c_2 fun a K => g1 K c_2 fun a K => g1 K c_2 fun a K => g1 K c_2 fun a K => pkF K rfl c_2 rfl fun a K => asg K rfl fun a K => wn <| wt ?_
   obtain rfl := oi hm
   exact fr f170 K (St.sel [0, 1, 2, 3] rfl h) rfl ⟨rfl, ⟨⟩⟩ ⟨rfl, rfl⟩
 refine g1 K c_1 fun a K => g1 K c_1 fun a K => pkF K rfl c_1 rfl fun a K => mv K rfl fun a K => g1 K rfl fun a K => g1 K rfl fun a K => g1 K rfl fun a K => g1 K rfl fun a K => g1 K rfl fun a K => g1 K rfl fun a K => g1 K rfl fun a K => pkF K rfl rfl rfl fun a K => asg K rfl fun a K => wn <| wt ?_
 obtain rfl := oi hm
 exact fr f170 K (St.sel [0, 1, 2, 3] rfl h) rfl ⟨rfl, ⟨⟩⟩ ⟨rfl, rfl⟩
abbrev R103 (r : Int) (v : Value) (H : Gh) : Prop := v = .int .i64 r
instance monR103 {r : Int} : MonR (R103 r) := ⟨fun _ _ _ _ h => h⟩
theorem c103 {p0 : T103} {p1 : T45} {B0 q0 q1 q2 n0 n1 n2 : Nat} {r : Int} (hm : m103 p0 p1 = some r) {vp1 : Value} (hp1 : (k45.val G0 vp1 p1)) (h : St c G0 w ((o3 B0 q0 q1 q2 n0 n1 n2 p0))) : Calls prog 103 #[(pA B0 Ik103o), vp1] w (FO c (o3 B0 q0 q1 q2 n0 n1 n2 p0) (R103 r)) := by
 unfold m103 at hm
 refine enter (n := 14) func103 rfl rfl rfl fun a K => sl <| boxr K h rfl hp1 fun a w v_1 G1 K e_1 h q_2 => asg K rfl fun a K => wn <| ws <| sl <| mv K rfl fun a K => far F45_6 K rfl q_2 o45_6 fun a v_3 K q_4 => ldr1 (.int .i64 p1.Off) K h rfl q_4 t3 vI fun a K => ?_
 obtain ⟨x_5, hx_5, hm⟩ := bs hm
 refine clr (Δ₁ := (o3 B0 q0 q1 q2 n0 n1 n2 p0)) (Δ₂ := _) [3, 3, 3, 3] K h rfl rfl b170 (fun h => c170 hx_5 h) fun a w v G2 K e_2 h hR_6 => ?_
 obtain rfl := hR_6
 refine notB _ K rfl rfl fun a K => wn <| ifm hm K rfl (fun _ hm => ?_) fun _ hm => ?_
 · refine sl <| asg K rfl fun a K => wn <| wt ?_
   obtain rfl := oi hm
   exact fr f103 K (St.sel [0, 1, 2, 3] rfl h) rfl ⟨rfl, ⟨⟩⟩ ⟨rfl, rfl⟩
 refine wk <| sl <| mv K rfl fun a K => far F45_6 K rfl (Kd.val_mono e_2 q_2) o45_6 fun a v_8 K q_9 => ldr1 (.int .i64 p1.Off) K h rfl q_9 t3 vI fun a K => ?_
 cases hm
abbrev R171 (r : T58) (v : Value) (H : Gh) : Prop := k58.val H v r
instance monR171 {r : T58} : MonR (R171 r) := ⟨fun _ _ _ e h => Kd.val_mono e h⟩
theorem c171 {p0 : T103} {p1 : T45} {B0 q0 q1 q2 n0 n1 n2 : Nat} {r : T58} (hm : m171 p0 p1 = some r) {vp1 : Value} (hp1 : (k45.val G0 vp1 p1)) (h : St c G0 w ((o3 B0 q0 q1 q2 n0 n1 n2 p0))) : Calls prog 171 #[(pA B0 Ik103o), vp1] w (FO c (o3 B0 q0 q1 q2 n0 n1 n2 p0) (R171 r)) := by
 unfold m171 at hm
 refine enter (n := 49) func171 rfl rfl rfl fun a K => sl <| boxr K h rfl hp1 fun a w v_1 G1 K e_1 h q_2 => alc K h z58 fun a w bk_3 K h => nsl <| mv K rfl fun a K => ldr K h rfl q_2 t45 fun a v_4 K q_5 => far F45_3 K rfl q_2 o45_3 fun a v_6 K q_7 => ldr1 (.string p1.Path_) K h rfl q_7 t9 vS fun a K => ?_
 obtain ⟨x_8, hx_8, hm⟩ := bs hm
 refine clr (Δ₁ := (o3 B0 q0 q1 q2 n0 n1 n2 p0)) (Δ₂ := _) [4, 4, 4, 4] K h rfl rfl b153 (fun h => c153 hx_8 q_5 h) fun a w v G2 K e_2 h hR_9 => ?_
 obtain ⟨v_10, rfl, q_11⟩ := hR_9
 refine mv K rfl fun a K => extr K rfl rfl fun a K => extr K rfl rfl fun a K => alc K h z210 fun a w bk_12 K h => sto 0 Ik210 ([x_8.1]) K h rfl rfl rfl rfl q_11 t210 rfl rfl fun w h => asg K rfl fun a K => wn <| ws <| wb <| sl <| mv K rfl fun a K => binC _ K rfl rfl rfl fun a K => asg K rfl fun a K => wn <| ifm hm K rfl (fun _ hm => ?_) fun _ hm => ?_
 · refine sl <| mv K rfl fun a K => ?_
   obtain ⟨x_14, hx_14, hm⟩ := bs hm
   refine clp K h rfl b89 (fun h => c89 hx_14 h) fun a w v_16 G3 K e_3 h hR_15 => sto 1 Ik58 ([x_14]) K h rfl rfl rfl rfl hR_15 t58 rfl rfl fun w h => wn <| wt ?_
   obtain ⟨v_17, q_18, rb_19⟩ := resOwn (P := prog) (i := 0) (p := 4) 1 Ik58 h rfl (K.lk_eq 4 rfl) rfl t58
   obtain rfl := oi hm
   exact fr f171 K (St.sel [2, 3, 4, 5] rfl h) rfl ⟨rb_19, ⟨⟩⟩ ⟨rfl, q_18⟩
 refine ws <| wh 7 [fE _, fE _, fE _, fE _, fE _, fE _, fE _] [(0, _), (4, _), (5, _)] mx K h (so rfl) ⟨hpX [(0, _)] (fun s _ => ⟨s.1, ⟨⟩⟩) fun _ _ K t => mv K rfl t, hpX [(22, _)] k1 fun _ _ K t => nilck K rfl t, hpX [(23, _)] k1 fun _ _ K t => fa F103_0o K rfl o103_0o t, hpX [(24, _)] k1 fun _ _ K t => fa F37_4o K rfl o37_4o t, hpX [(25, _)] k1 fun _ h K t => ld1 2 (J103_0o.comp F37_4o) (hS q0 p0.p.Inodes n0) K h rfl rfl rfl t33 vX t, hpX [(5, _)] (fun s _ => ⟨s.2.2.1, ⟨⟩⟩) fun _ _ K t => fa F210_0 K rfl o210_0 t, hpX [(27, _)] k1 fun _ h K t => ld1 0 J210_0 (.int .i64 x_8.1.inode) K h rfl rfl rfl t3 vI t, ⟨⟩⟩ ?_
 intro a w G11 L e_11 h K hs hg
 replace K := K.sub (l' := [(26, _), (28, _), (0, _), (4, _), (5, _)]) ⟨gE (hg 4 rfl rfl), gE (hg 6 rfl rfl), hs.1, hs.2.1, hs.2.2.1, ⟨⟩⟩
 obtain ⟨g_32, hm⟩ := gs hm
 refine ixo K rfl rfl g_32 s33 t84 fun a K => fa F84_0 K rfl o84_0 fun a K => ld1 3 J84_0 (.int .i64 ((gt p0.p.Inodes x_8.1.inode).Kind)) K h rfl rfl (gt_some g_32) t51 vI fun a K => binC _ K rfl rfl rfl fun a K => asg K rfl fun a K => wn <| ifm hm K rfl (fun _ hm => ?_) fun _ hm => ?_
 · refine ws <| wl ?_
   obtain ⟨x_34, hx_34, hm⟩ := bs hm
   refine clp K h rfl b89 (fun h => c89 hx_34 h) fun a w v_36 G12 K e_12 h hR_35 => sto 1 Ik58 ([x_34]) K h rfl rfl rfl rfl hR_35 t58 rfl rfl fun w h => wn <| wt ?_
   obtain ⟨v_37, q_38, rb_39⟩ := resOwn (P := prog) (i := 0) (p := 4) 1 Ik58 h rfl (K.lk_eq 4 rfl) rfl t58
   obtain rfl := oi hm
   exact fr f171 K (St.sel [2, 3, 4, 5] rfl h) rfl ⟨rb_39, ⟨⟩⟩ ⟨rfl, q_38⟩
 refine wk <| ws <| wh 7 [fE _, fE _, fE _, fE _, fE _, fE _, fE _] [(0, _), (4, _), (5, _)] mx K h (so rfl) ⟨hpX [(0, _)] (fun s _ => ⟨s.1, ⟨⟩⟩) fun _ _ K t => mv K rfl t, hpX [(34, _)] k1 fun _ _ K t => nilck K rfl t, hpX [(35, _)] k1 fun _ _ K t => fa F103_0o K rfl o103_0o t, hpX [(36, _)] k1 fun _ _ K t => fa F37_4o K rfl o37_4o t, hpX [(37, _)] k1 fun _ h K t => ld1 2 (J103_0o.comp F37_4o) (hS q0 p0.p.Inodes n0) K h rfl rfl rfl t33 vX t, hpX [(5, _)] (fun s _ => ⟨s.2.2.1, ⟨⟩⟩) fun _ _ K t => fa F210_0 K rfl o210_0 t, hpX [(39, _)] k1 fun _ h K t => ld1 0 J210_0 (.int .i64 x_8.1.inode) K h rfl rfl rfl t3 vI t, ⟨⟩⟩ ?_
 intro a w G20 L e_20 h K hs hg
 replace K := K.sub (l' := [(38, _), (40, _), (4, _)]) ⟨gE (hg 4 rfl rfl), gE (hg 6 rfl rfl), hs.2.1, ⟨⟩⟩
 obtain ⟨g_52, hm⟩ := gs hm
 refine ixo K rfl rfl g_52 s33 t84 fun a K => fa F84_7 K rfl o84_7 fun a K => ld1 3 J84_7 (.string ((gt p0.p.Inodes x_8.1.inode).Link)) K h rfl rfl (gt_some g_52) t9 vS fun a K => asg K rfl fun a K => nsl <| mv K rfl fun a K => cvtSB K h rfl u9 s43 u5 fun a w bk_53 cp_54 K h => mv K rfl fun a K => lenS K rfl rfl u9 fun a K => ?_
 obtain ⟨G21, e_21, h, q_55⟩ := frz 0 h rfl
 refine bld (⟨0, (((gt p0.p.Inodes x_8.1.inode).Link).size : Int), (bts ((gt p0.p.Inodes x_8.1.inode).Link)), ([] : (List ByteArray)), (⟨0, 0, 0, 0, 0, 0, 0, 0, (List.replicate 2 (0 : Nat))⟩ : T54), Z56⟩ : T58) K h rfl pl58 rfl z58 (.cons F58_2 rfl q_55 (.cons F58_1 rfl int_val .nil)) fun a v_56 K q_57 => sto 1 Ik58 ([(⟨0, (((gt p0.p.Inodes x_8.1.inode).Link).size : Int), (bts ((gt p0.p.Inodes x_8.1.inode).Link)), ([] : (List ByteArray)), (⟨0, 0, 0, 0, 0, 0, 0, 0, (List.replicate 2 (0 : Nat))⟩ : T54), Z56⟩ : T58)]) K h rfl rfl rfl rfl q_57 t58 rfl rfl fun w h => wn <| wt ?_
 obtain ⟨v_58, q_59, rb_60⟩ := resOwn (P := prog) (i := 0) (p := 4) 1 Ik58 h rfl (K.lk_eq 4 rfl) rfl t58
 obtain rfl := oi hm
 exact fr f171 K (St.sel [2, 3, 4, 5] rfl h) rfl ⟨rb_60, ⟨⟩⟩ ⟨rfl, q_59⟩
abbrev R238 (r : (List UInt8)) (v : Value) (H : Gh) : Prop := (kSl kByte).val H v r
instance monR238 {r : (List UInt8)} : MonR (R238 r) := ⟨fun _ _ _ e h => Kd.val_mono e h⟩
theorem c238 {p0 : T103} {p1 : Int} {p2 : Int} {p3 : Int} {B0 q0 q1 q2 n0 n1 n2 : Nat} {r : (List UInt8)} (hm : m238 p0 p1 p2 p3 = some r) (h : St c G0 w ((o3 B0 q0 q1 q2 n0 n1 n2 p0))) : Calls prog 238 #[(pA B0 Ik103o), .int .i64 p1, .int .i64 p2, .int .i64 p3] w (FO c (o3 B0 q0 q1 q2 n0 n1 n2 p0) (R238 r)) := by
 unfold m238 at hm
 refine enter (n := 83) func238 rfl rfl rfl fun a K => sl <| asg K rfl fun a K => nsl <| mv K rfl fun a K => nilck K rfl fun a K => fa F103_0o K rfl o103_0o fun a K => fa F37_4o K rfl o37_4o fun a K => ld1 0 (J103_0o.comp F37_4o) (hS q0 p0.p.Inodes n0) K h rfl rfl rfl t33 vX fun a K => mv K rfl fun a K => ?_
 obtain ⟨g_1, hm⟩ := gs hm
 refine ixo K rfl rfl g_1 s33 t84 fun a K => ld 1 Ik84 K h rfl rfl (gt_some g_1) t84 fun a v_2 K q_3 => ?_
 replace q_3 : k84.val _ v_2 (gt p0.p.Inodes p1) := q_3
 refine alc K h z84 fun a w bk_4 K h => sto 0 Ik84 ([(gt p0.p.Inodes p1)]) K h rfl rfl rfl rfl q_3 t84 rfl rfl fun w h => nsl <| mv K rfl fun a K => min2 _ K rfl rfl rfl fun a K => asg K rfl fun a K => nsl <| asg K rfl fun a K => wn <| ws <| sl <| mv K rfl fun a K => asg K rfl fun a K => wn <| wb ?_
 replace h := St.nil kByte 5 h
 obtain ⟨p_114, hp_114, hm⟩ := bs hm
 refine loop (S := (List UInt8) × Int) (R := (List UInt8)) (fun s_76 a w => ∃ (G12 : Gh) (bk_77 : Option Nat) (cp_78 : Nat), Gh.le G0 G12 ∧ St c G12 w (⟨kByte, s_76.1, cp_78, bk_77, 5⟩ :: ⟨k84, [(gt p0.p.Inodes p1)], 1, (some bk_4), 84⟩ :: o3 B0 q0 q1 q2 n0 n1 n2 p0) ∧ Tm 83 a [(0, (pA B0 Ik103o)), (3, .int .i64 (imin p3 17600)), (8, .slice none 0 0), (9, (pA bk_4 Ik84)), (10, hdr bk_77 s_76.1.length cp_78), (11, .int .i64 s_76.2)]) (fun (p_114 : (List UInt8)) e a w => e = .exit 0 ∧ ∃ (G18 : Gh) (bk_115 : Option Nat) (cp_116 : Nat), Gh.le G0 G18 ∧ St c G18 w (⟨kByte, p_114, cp_116, bk_115, 5⟩ :: o3 B0 q0 q1 q2 n0 n1 n2 p0) ∧ Tm 83 a [(8, .slice none 0 0), (10, hdr bk_115 p_114.length cp_116)]) hp_114 ⟨G0, none, 0, gr, (St.sel [0, 1, 2, 3, 4, 5] rfl h), (K.sub (so rfl))⟩ ?_ ?_
 · intro s_76 y_118 a w hm hI
   obtain ⟨G12, bk_77, cp_78, e_12, h, K⟩ := hI
   unfold m238_l_117 at hm
   refine ws <| joinS (S := Bool) (fun s_126 a w => Jn c G12 (⟨kByte, s_76.1, cp_78, bk_77, 5⟩ :: ⟨k84, [(gt p0.p.Inodes p1)], 1, (some bk_4), 84⟩ :: o3 B0 q0 q1 q2 n0 n1 n2 p0) 83 [(0, (pA B0 Ik103o)), (3, .int .i64 (imin p3 17600)), (8, .slice none 0 0), (9, (pA bk_4 Ik84)), (10, hdr bk_77 s_76.1.length cp_78), (11, .int .i64 s_76.2), (27, .int .i64 s_76.2), (28, (pA bk_4 J84_5)), (29, .int .i64 ((gt p0.p.Inodes p1).Size)), (30, .bool (decide (s_76.2 < (gt p0.p.Inodes p1).Size))), (31, .bool (decide (s_76.2 < (gt p0.p.Inodes p1).Size))), (36, .bool s_126)] a w) (fun s_126 => m238_j_150 p0 p1 p3 s_76 s_126 = some y_118) (fun s_126 hm a w hJ => ?_) (fun kk_151 => ?_)
   · obtain ⟨G20, e_20, h, K⟩ := hJ
     unfold m238_j_150 at hm
     refine ifm hm K rfl (fun _ hm => ?_) fun _ hm => ?_
     · refine wk <| wb <| sl <| fa F84_5 K rfl o84_5 fun a K => ld1 1 J84_5 (.int .i64 ((gt p0.p.Inodes p1).Size)) K h rfl rfl rfl t3 vI fun a K => mv K rfl fun a K => binDiv _ K rfl rfl rfl rfl fun a K => binI _ K rfl rfl rfl fun a K => binI _ K rfl rfl rfl fun a K => mv K rfl fun a K => mv K rfl fun a K => binI _ K rfl rfl rfl fun a K => mv K rfl fun a K => lenO K rfl rfl s43 fun a K => binI _ K rfl rfl rfl fun a K => min3 _ K rfl rfl rfl rfl fun a K => asg K rfl fun a K => nsl <| mv K rfl fun a K => mv K rfl fun a K => binI _ K rfl rfl rfl fun a K => ?_
       obtain ⟨g_128, hm⟩ := gs hm
       refine mks K h rfl rfl g_128 s43 e5 z5 fun a w bk_129 K h => asg K rfl fun a K => wn <| ws <| sl <| fa F84_9 K rfl o84_9 fun a K => ld 2 J84_9 K h rfl rfl rfl t82 fun a v_130 K q_131 => ?_
       replace q_131 : (kSl k94).val _ v_130 ((gt p0.p.Inodes p1).Extents) := q_131
       refine mv K rfl fun a K => binDiv _ K rfl rfl rfl rfl fun a K => ?_
       obtain ⟨x_132, hx_132, hm⟩ := bs hm
       refine clp K h rfl b233 (fun h => c233 hx_132 q_131 h) fun a w v G21 K e_21 h hR_133 => ?_
       obtain rfl := hR_133
       refine mv K rfl fun a K => extr K rfl rfl fun a K => extr K rfl rfl fun a K => asg K rfl fun a K => asg K rfl fun a K => nsl <| mv K rfl fun a K => binC _ K rfl rfl rfl fun a K => wn <| ifm hm K rfl (fun _ hm => ?_) fun _ hm => ?_
       · refine wl <| mv K rfl fun a K => mv K rfl fun a K => nilck K rfl fun a K => fa F103_0o K rfl o103_0o fun a K => fa F37_6o K rfl o37_6o fun a K => ld1 3 (J103_0o.comp F37_6o) (hS q2 p0.p.Blocks n2) K h rfl rfl rfl t35 vX fun a K => mv K rfl fun a K => binI _ K rfl rfl rfl fun a K => ?_
         obtain ⟨g_135, hm⟩ := gs hm
         refine ixo K rfl rfl g_135 s35 t43 fun a K => ld 6 (Fld.id (kSl kByte)) K h rfl rfl (gt_some g_135) t43 fun a v_136 K q_137 => ?_
         replace q_137 : (kSl kByte).val _ v_136 (gt p0.p.Blocks (wr (x_132.1 - 25))) := q_137
         refine mv K rfl fun a K => binRem _ K rfl rfl rfl rfl fun a K => ?_
         obtain ⟨g_138, hm⟩ := gs hm
         refine slV ((s_76.2).tmod 440) ((gt p0.p.Blocks (wr (x_132.1 - 25))).length : Int) K rfl q_137 s43 t5 (.inr ⟨_, _, rfl, rfl⟩) (.inl ⟨rfl, rfl⟩) g_138 fun a v_139 K q_140 => cpy 0 K h rfl rfl (subSl_all (j := 0) h rfl) rfl q_140 (by omega) rfl s43 t5 fun a w K h => ?_
         have hl_141 : (ovr (List.replicate ((wr ((imin (imin ((gt p0.p.Inodes p1).Size) (wr ((wr ((wr ((s_76.2).tdiv 440)) + 1)) * 440))) (wr ((wr (s_76.2 + (imin p3 17600))) - (s_76.1.length : Int)))) - s_76.2))).toNat (0 : UInt8)) 0 ((lSub (gt p0.p.Blocks (wr (x_132.1 - 25))) ((s_76.2).tmod 440) ((gt p0.p.Blocks (wr (x_132.1 - 25))).length : Int)).take ((List.replicate ((wr ((imin (imin ((gt p0.p.Inodes p1).Size) (wr ((wr ((wr ((s_76.2).tdiv 440)) + 1)) * 440))) (wr ((wr (s_76.2 + (imin p3 17600))) - (s_76.1.length : Int)))) - s_76.2))).toNat (0 : UInt8)).length))).length = (List.replicate ((wr ((imin (imin ((gt p0.p.Inodes p1).Size) (wr ((wr ((wr ((s_76.2).tdiv 440)) + 1)) * 440))) (wr ((wr (s_76.2 + (imin p3 17600))) - (s_76.1.length : Int)))) - s_76.2))).toNat (0 : UInt8)).length := ovr_len (by omega)
         refine wn <| sl <| mv K rfl fun a K => mv K rfl fun a K => ?_
         obtain ⟨G22, e_22, h, q_142⟩ := frz 0 h rfl
         rw [hl_141] at q_142
         obtain ⟨g_145, hm⟩ := gs hm
         refine app 0 K h rfl rfl rfl rfl q_142 rfl s43 s43 e5 g_145 fun a w bk_143 cp_144 K h => asg K rfl fun a K => wn <| wl <| mv K rfl fun a K => asg K rfl fun a K => wn ?_
         obtain rfl := oi hm
         exact ⟨rfl, ⟨G22, bk_143, cp_144, (Gh.trans e_12 (Gh.trans e_20 (Gh.trans e_21 e_22))), (St.sel [0, 1, 2, 3, 4, 5] rfl h), (K.sub (so rfl))⟩⟩
       refine wk <| sl <| mv K rfl fun a K => mv K rfl fun a K => ?_
       obtain ⟨G23, e_23, h, q_146⟩ := frz 0 h rfl
       obtain ⟨g_149, hm⟩ := gs hm
       refine app 0 K h rfl rfl rfl rfl q_146 rfl s43 s43 e5 g_149 fun a w bk_147 cp_148 K h => asg K rfl fun a K => wn <| wl <| mv K rfl fun a K => asg K rfl fun a K => wn ?_
       obtain rfl := oi hm
       exact ⟨rfl, ⟨G23, bk_147, cp_148, (Gh.trans e_12 (Gh.trans e_20 (Gh.trans e_21 e_23))), (St.sel [0, 1, 2, 3, 4, 5] rfl h), (K.sub (so rfl))⟩⟩
     refine wp_exit ?_
     obtain rfl := oi hm
     exact ⟨by simp, rfl, ⟨G20, bk_77, cp_78, (Gh.trans e_12 e_20), (St.sel [0, 2, 3, 4, 5] rfl h), (K.sub (so rfl))⟩⟩
   refine wl <| mv K rfl fun a K => fa F84_5 K rfl o84_5 fun a K => ld1 1 J84_5 (.int .i64 ((gt p0.p.Inodes p1).Size)) K h rfl rfl rfl t3 vI fun a K => binC _ K rfl rfl rfl fun a K => mv K rfl fun a K => ?_
   rcases im hm with ⟨c_152, hm⟩ | ⟨c_152, hm⟩
   · refine g2 K c_152 <| mv K rfl fun a K => g2 K c_152 <| lenO K rfl rfl s43 fun a K => g2 K c_152 <| mv K rfl fun a K => g2 K c_152 <| binC _ K rfl rfl rfl fun a K => pkT K rfl c_152 rfl fun a K => wn <| kk_151 (decide ((s_76.1.length : Int) < (imin p3 17600))) hm _ _ ⟨G12, gr, (St.sel [0, 1, 2, 3, 4, 5] rfl h), (K.sub (so rfl))⟩
   refine g1 K c_152 fun a K => g1 K c_152 fun a K => g1 K c_152 fun a K => g1 K c_152 fun a K => pkF K rfl c_152 rfl fun a K => wn <| kk_151 false hm _ _ ⟨G12, gr, (St.sel [0, 1, 2, 3, 4, 5] rfl h), (K.sub (so rfl))⟩
 intro e a w hD
 obtain ⟨rfl, ⟨G18, bk_115, cp_116, e_18, h, K⟩⟩ := hD
 refine sl <| mv K rfl fun a K => asg K rfl fun a K => wn <| wt ?_
 obtain ⟨G24, e_24, h, q_153⟩ := frz 0 h rfl
 obtain rfl := oi hm
 exact fr f238 K (St.sel [0, 1, 2, 3] rfl h) rfl ⟨rfl, ⟨⟩⟩ ⟨rfl, q_153⟩
abbrev R293 (r : (List Int)) (v : Value) (H : Gh) : Prop := (kSl (kInt .i64)).val H v r
instance monR293 {r : (List Int)} : MonR (R293 r) := ⟨fun _ _ _ e h => Kd.val_mono e h⟩
theorem c293 {p0 : (List T94)} {p1 : Int} {p2 : Int} {r : (List Int)} (hm : m293 p0 p1 p2 = some r) {vp0 : Value} (hp0 : ((kSl k94).val G0 vp0 p0)) (h : St c G0 w []) : Calls prog 293 #[vp0, .int .i64 p1, .int .i64 p2] w (FO c [] (R293 r)) := by
 unfold m293 at hm
 refine enter (n := 30) func293 rfl rfl rfl fun a K => sl <| asg K rfl fun a K => nsl <| asg K rfl fun a K => wn <| ws <| sl <| mv K rfl fun a K => asg K rfl fun a K => wn <| wb ?_
 replace h := St.nil (kInt .i64) 3 h
 obtain ⟨p_35, hp_35, hm⟩ := bs hm
 refine loop (S := (List Int) × Int) (R := (List Int)) (fun s_22 a w => ∃ (G6 : Gh) (bk_23 : Option Nat) (cp_24 : Nat), Gh.le G0 G6 ∧ St c G6 w [⟨(kInt .i64), s_22.1, cp_24, bk_23, 3⟩] ∧ Tm 30 a [(0, vp0), (2, .int .i64 p2), (6, .slice none 0 0), (7, hdr bk_23 s_22.1.length cp_24), (8, .int .i64 s_22.2)]) (fun (p_35 : (List Int)) e a w => e = .exit 0 ∧ ∃ (G9 : Gh) (bk_36 : Option Nat) (cp_37 : Nat), Gh.le G0 G9 ∧ St c G9 w [⟨(kInt .i64), p_35, cp_37, bk_36, 3⟩] ∧ Tm 30 a [(6, .slice none 0 0), (7, hdr bk_36 p_35.length cp_37)]) hp_35 ⟨G0, none, 0, gr, (St.sel [0] rfl h), (K.sub (so rfl))⟩ ?_ ?_
 · intro s_22 y_39 a w hm hI
   obtain ⟨G6, bk_23, cp_24, e_6, h, K⟩ := hI
   unfold m293_l_38 at hm
   refine ws <| sl <| mv K rfl fun a K => mv K rfl fun a K => binC _ K rfl rfl rfl fun a K => wn <| ifm hm K rfl (fun _ hm => ?_) fun _ hm => ?_
   · refine wk <| ws <| wb <| sl <| mv K rfl fun a K => mv K rfl fun a K => ?_
     obtain ⟨x_41, hx_41, hm⟩ := bs hm
     refine clp K h rfl b233 (fun h => c233 hx_41 (Kd.val_mono e_6 hp0) h) fun a w v G10 K e_10 h hR_42 => ?_
     obtain rfl := hR_42
     refine mv K rfl fun a K => extr K rfl rfl fun a K => extr K rfl rfl fun a K => asg K rfl fun a K => asg K rfl fun a K => nsl <| mv K rfl fun a K => binC _ K rfl rfl rfl fun a K => wn <| ifm hm K rfl (fun _ hm => ?_) fun _ hm => ?_
     · refine wl <| mv K rfl fun a K => mv K rfl fun a K => bldS (f := (kInt .i64)) (by decide) [s_22.2] K h rfl s267 t3 rfl z3 (.cons (Fld.idx (kInt .i64) 0 (by decide)) rfl int_val .nil) fun a w bk_44 K h => ?_
       obtain ⟨G11, e_11, h, q_45⟩ := frz 0 h rfl
       obtain ⟨g_48, hm⟩ := gs hm
       refine app 0 K h rfl rfl rfl rfl (show (kSl (kInt .i64)).val _ _ _ from q_45) rfl s267 s267 e3 g_48 fun a w bk_46 cp_47 K h => asg K rfl fun a K => wn <| wl <| mv K rfl fun a K => binI _ K rfl rfl rfl fun a K => asg K rfl fun a K => wn ?_
       obtain rfl := oi hm
       exact ⟨rfl, ⟨G11, bk_46, cp_47, (Gh.trans e_6 (Gh.trans e_10 e_11)), (St.sel [0] rfl h), (K.sub (so rfl))⟩⟩
     refine wk <| wl <| mv K rfl fun a K => binI _ K rfl rfl rfl fun a K => asg K rfl fun a K => wn ?_
     obtain rfl := oi hm
     exact ⟨rfl, ⟨G10, bk_23, cp_24, (Gh.trans e_6 e_10), (St.sel [0] rfl h), (K.sub (so rfl))⟩⟩
   refine wp_exit ?_
   obtain rfl := oi hm
   exact ⟨by simp, rfl, ⟨G6, bk_23, cp_24, e_6, (St.sel [0] rfl h), (K.sub (so rfl))⟩⟩
 intro e a w hD
 obtain ⟨rfl, ⟨G9, bk_36, cp_37, e_9, h, K⟩⟩ := hD
 refine sl <| mv K rfl fun a K => asg K rfl fun a K => wn <| wt ?_
 obtain ⟨G12, e_12, h, q_49⟩ := frz 0 h rfl
 obtain rfl := oi hm
 exact fr f293 K (St.sel [] rfl h) rfl ⟨rfl, ⟨⟩⟩ ⟨rfl, q_49⟩
abbrev R164 (r : T103) (v : Value) (H : Gh) : Prop := v = .tuple #[]
instance monR164 {r : T103} : MonR (R164 r) := ⟨fun _ _ _ _ h => h⟩
theorem c164 {p0 : T103} {p1 : Int} {p2 : Int} {p3 : (List UInt8)} {B0 q0 q1 q2 n0 n1 n2 : Nat} {r : T103} (hm : m164 p0 p1 p2 p3 = some r) {vp3 : Value} (hp3 : ((kSl kByte).val G0 vp3 p3)) (h : St c G0 w ((o3 B0 q0 q1 q2 n0 n1 n2 p0))) : Calls prog 164 #[(pA B0 Ik103o), .int .i64 p1, .int .i64 p2, vp3] w (FO c (o3 B0 q0 q1 q2 n0 n1 n2 r) (R164 r)) := by
 unfold m164 at hm
 refine enter (n := 71) func164 rfl rfl rfl fun a K => wb ?_
 obtain ⟨p_365, hp_365, hm⟩ := bs hm
 refine loop (S := (List (List UInt8)) × Int × (List UInt8)) (R := (List (List UInt8))) (fun s_242 a w => ∃ (G64 : Gh) (v_243 : Value), Gh.le G0 G64 ∧ St c G64 w [⟨k103o, [(⟨(⟨p0.p.Homes, p0.p.Now, p0.p.Salt, p0.p.Users, (hS q0 p0.p.Inodes n0), (hS q1 p0.p.Dirs n1), (hS q2 s_242.1 n2)⟩ : T37o), p0.fds⟩ : T103o)], 1, (some B0), 103⟩, ⟨k84, p0.p.Inodes, n0, (some q0), 84⟩, ⟨(kSl k87), p0.p.Dirs, n1, (some q1), 85⟩, ⟨(kSl kByte), s_242.1, n2, (some q2), 43⟩] ∧ Tm 71 a [(0, (pA B0 Ik103o)), (1, .int .i64 p1), (2, .int .i64 s_242.2.1), (3, v_243)] ∧ ((kSl kByte)).val G64 v_243 s_242.2.2) (fun (p_365 : (List (List UInt8))) e a w => e = .exit 0 ∧ Jn c G0 [⟨k103o, [(⟨(⟨p0.p.Homes, p0.p.Now, p0.p.Salt, p0.p.Users, (hS q0 p0.p.Inodes n0), (hS q1 p0.p.Dirs n1), (hS q2 p_365 n2)⟩ : T37o), p0.fds⟩ : T103o)], 1, (some B0), 103⟩, ⟨k84, p0.p.Inodes, n0, (some q0), 84⟩, ⟨(kSl k87), p0.p.Dirs, n1, (some q1), 85⟩, ⟨(kSl kByte), p_365, n2, (some q2), 43⟩] 71 [] a w) hp_365 ⟨G0, vp3, gr, (St.sel [0, 1, 2, 3] rfl h), (K.sub (so rfl)), hp3⟩ ?_ ?_
 · intro s_242 y_367 a w hm hI
   obtain ⟨G64, v_243, e_64, h, K, q_244⟩ := hI
   unfold m164_l_366 at hm
   refine ws <| sl <| mv K rfl fun a K => lenV K rfl q_244 rfl s43 fun a K => binC _ K rfl rfl rfl fun a K => wn <| ifm hm K rfl (fun _ hm => ?_) fun _ hm => ?_
   · refine wk <| wb <| sl <| mv K rfl fun a K => lenV K rfl q_244 rfl s43 fun a K => mv K rfl fun a K => binRem _ K rfl rfl rfl rfl fun a K => binI _ K rfl rfl rfl fun a K => min2 _ K rfl rfl rfl fun a K => asg K rfl fun a K => wn <| joinS (S := (List (List UInt8)) × Int × Int × (List T94) × Int × Int × Int × Bool) (fun s_413 a w => ∃ (G108 : Gh) (v_414 : Value), Gh.le G64 G108 ∧ St c G108 w [⟨k103o, [(⟨(⟨p0.p.Homes, p0.p.Now, p0.p.Salt, p0.p.Users, (hS q0 p0.p.Inodes n0), (hS q1 p0.p.Dirs n1), (hS q2 s_413.1 n2)⟩ : T37o), p0.fds⟩ : T103o)], 1, (some B0), 103⟩, ⟨k84, p0.p.Inodes, n0, (some q0), 84⟩, ⟨(kSl k87), p0.p.Dirs, n1, (some q1), 85⟩, ⟨(kSl kByte), s_413.1, n2, (some q2), 43⟩] ∧ Tm 71 a [(0, (pA B0 Ik103o)), (1, .int .i64 p1), (2, .int .i64 s_242.2.1), (3, v_243), (8, .int .i64 (imin (s_242.2.2.length : Int) (wr (440 - ((s_242.2.1).tmod 440))))), (9, .int .i64 s_413.2.1), (10, .int .i64 s_413.2.2.1), (12, v_243), (13, .int .i64 (s_242.2.2.length : Int)), (14, .bool (decide ((s_242.2.2.length : Int) > 0))), (15, v_243), (16, .int .i64 (s_242.2.2.length : Int)), (17, .int .i64 s_242.2.1), (18, .int .i64 ((s_242.2.1).tmod 440)), (19, .int .i64 (wr (440 - ((s_242.2.1).tmod 440)))), (20, .int .i64 (imin (s_242.2.2.length : Int) (wr (440 - ((s_242.2.1).tmod 440))))), (22, (pA B0 Ik103o)), (23, (pA B0 Ik103o)), (24, (pA B0 J103_0o)), (25, (pA B0 (J103_0o.comp F37_4o))), (26, hdr (some q0) p0.p.Inodes.length n0), (27, .int .i64 p1), (28, .pointer (some (adr q0 p1.toNat k84.n Ik84.off))), (29, .pointer (some (adr q0 p1.toNat k84.n J84_9.off))), (30, v_414), (31, .int .i64 s_242.2.1), (32, .int .i64 (wr ((s_242.2.1).tdiv 440))), (34, .int .i64 s_413.2.2.2.2.1), (35, .int .i64 s_413.2.2.2.2.2.1), (36, .int .i64 s_413.2.2.2.2.2.2.1), (37, .bool s_413.2.2.2.2.2.2.2)] ∧ ((kSl k94)).val G108 v_414 s_413.2.2.2.1) (fun s_413 => m164_j_441 s_242 s_413 = some y_367) (fun s_413 hm a w hJ => ?_) (fun kk_442 => ?_)
     · obtain ⟨G108, v_414, e_108, h, K, q_415⟩ := hJ
       unfold m164_j_441 at hm
       obtain ⟨g_425, hm⟩ := gs hm
       refine wp_hopm (Δs := [[⟨k103o, [(⟨(⟨p0.p.Homes, p0.p.Now, p0.p.Salt, p0.p.Users, (hS q0 p0.p.Inodes n0), (hS q1 p0.p.Dirs n1), (hS q2 s_413.1 n2)⟩ : T37o), p0.fds⟩ : T103o)], 1, (some B0), 103⟩, ⟨k84, p0.p.Inodes, n0, (some q0), 84⟩, ⟨(kSl k87), p0.p.Dirs, n1, (some q1), 85⟩, ⟨(kSl kByte), s_413.1, n2, (some q2), 43⟩]]) 7 [(fE (.int .i64 s_242.2.1)), (fE (.int .i64 (imin (s_242.2.2.length : Int) (wr (440 - ((s_242.2.1).tmod 440)))))), (fE (.int .i64 (wr (s_242.2.1 + (imin (s_242.2.2.length : Int) (wr (440 - ((s_242.2.1).tmod 440)))))))), (fT (kSl kByte) s_242.2.2), (fE (.int .i64 (imin (s_242.2.2.length : Int) (wr (440 - ((s_242.2.1).tmod 440)))))), (fT (kSl kByte) (lSub s_242.2.2 (imin (s_242.2.2.length : Int) (wr (440 - ((s_242.2.1).tmod 440)))) (s_242.2.2.length : Int))), (fE (.int .i64 (wr (s_242.2.1 + (imin (s_242.2.2.length : Int) (wr (440 - ((s_242.2.1).tmod 440))))))))] [(0, (pA B0 Ik103o)), (1, .int .i64 p1), (3, v_243), (8, .int .i64 (imin (s_242.2.2.length : Int) (wr (440 - ((s_242.2.1).tmod 440))))), (9, .int .i64 s_413.2.1), (10, .int .i64 s_413.2.2.1), (12, v_243), (13, .int .i64 (s_242.2.2.length : Int)), (14, .bool (decide ((s_242.2.2.length : Int) > 0))), (15, v_243), (16, .int .i64 (s_242.2.2.length : Int)), (17, .int .i64 s_242.2.1), (18, .int .i64 ((s_242.2.1).tmod 440)), (19, .int .i64 (wr (440 - ((s_242.2.1).tmod 440)))), (20, .int .i64 (imin (s_242.2.2.length : Int) (wr (440 - ((s_242.2.1).tmod 440))))), (22, (pA B0 Ik103o)), (23, (pA B0 Ik103o)), (24, (pA B0 J103_0o)), (25, (pA B0 (J103_0o.comp F37_4o))), (26, hdr (some q0) p0.p.Inodes.length n0), (27, .int .i64 p1), (28, .pointer (some (adr q0 p1.toNat k84.n Ik84.off))), (29, .pointer (some (adr q0 p1.toNat k84.n J84_9.off))), (30, v_414), (31, .int .i64 s_242.2.1), (32, .int .i64 (wr ((s_242.2.1).tdiv 440))), (34, .int .i64 s_413.2.2.2.2.1), (35, .int .i64 s_413.2.2.2.2.2.1), (36, .int .i64 s_413.2.2.2.2.2.2.1), (37, .bool s_413.2.2.2.2.2.2.2)] [(2, .int .i64 s_242.2.1)] (ind_E (ind_E (ind_E (ind_T (ind_E (ind_T (ind_E ind_nil))))))) [] [[0], [0], [0], [0], [0], [0], [0]] [0, 0, 3, 0, 0, 24, 7, 127] mx (by kernel_rfl) (by kernel_rfl) (by kernel_rfl) (by kernel_rfl) rfl rfl ⟨monE, monE, monE, monT, monE, monT, monE, ⟨⟩⟩ K h rfl rfl ⟨rfl, rfl, rfl, rfl, rfl, rfl, rfl, rfl, rfl, rfl, rfl, rfl, rfl, rfl, rfl, rfl, rfl, rfl, rfl, rfl, rfl, rfl, rfl, rfl, rfl, rfl, rfl, rfl, rfl, rfl, rfl, ⟨⟩⟩ ⟨(stg1 rfl rfl ?_), (stg1 rfl rfl ?_), (stg1 rfl rfl ?_), (stg1 rfl rfl ?_), (stg1 rfl rfl ?_), (stg1 rfl rfl ?_), (stg1 rfl rfl ?_), ⟨⟩⟩ rfl ?_
       · exact hpX [(2, _)] (fun s _ => ⟨s.2.2.2.2.2.2.2.2.2.2.2.2.2.2.2.2.2.2.2.2.2.2.2.2.2.2.2.2.2.2.1, ⟨⟩⟩) fun _ _ K t => mv K rfl t
       · exact hpX [(8, _)] (fun s _ => ⟨s.2.2.2.1, ⟨⟩⟩) fun _ _ K t => mv K rfl t
       · exact hpX [(65, _), (66, _)] k2 fun _ _ K t => binI _ K rfl rfl rfl t
       · intro a w G112 L X e_112 h K hs hk
         have hx : Sy.sub L [(3, _)] := ⟨hs.2.2.1, ⟨⟩⟩
         replace K := K.addx _ hx
         refine mv K rfl fun a K => wn <| ⟨rfl, G112, [], gr, h, _, K.dropx _ hx, ⟨rfl, (Kd.val_mono (Gh.trans e_108 e_112) q_244)⟩⟩
       · exact hpX [(8, _)] (fun s _ => ⟨s.2.2.2.1, ⟨⟩⟩) fun _ _ K t => mv K rfl t
       · intro a w G114 L X e_114 h K hs hk
         obtain ⟨v_420, _, l_421, -, q_422⟩ := hk.1
         obtain ⟨v_423, _, l_424, -, rfl⟩ := hk.2.1
         have hx : Sy.sub L [(68, _), (69, _)] := ⟨l_421, l_424, ⟨⟩⟩
         replace K := K.addx _ hx
         refine slV (imin (s_242.2.2.length : Int) (wr (440 - ((s_242.2.1).tmod 440)))) (s_242.2.2.length : Int) K rfl q_422 s43 t5 (.inr ⟨_, _, rfl, rfl⟩) (.inl ⟨rfl, rfl⟩) g_425 fun a v_426 K q_427 => wn <| ⟨rfl, G114, [], gr, h, _, K.dropx _ hx, ⟨rfl, q_427⟩⟩
       · exact hpX [(67, _)] k1 fun _ _ K t => asg K rfl t
       intro a w G116 L X e_116 h K hs hg
       obtain ⟨_, _, _, rfl, l_430, ⟨rfl, rfl⟩, hg⟩ := hg
       obtain ⟨_, _, _, rfl, l_431, ⟨rfl, rfl⟩, hg⟩ := hg
       obtain ⟨_, _, _, rfl, l_432, ⟨rfl, rfl⟩, hg⟩ := hg
       obtain ⟨v_433, _, _, rfl, l_435, ⟨rfl, q_434⟩, hg⟩ := hg
       obtain ⟨_, _, _, rfl, l_436, ⟨rfl, rfl⟩, hg⟩ := hg
       obtain ⟨v_437, _, _, rfl, l_439, ⟨rfl, q_438⟩, hg⟩ := hg
       obtain ⟨_, _, _, rfl, l_440, ⟨rfl, rfl⟩, hg⟩ := hg
       obtain rfl := hg
       replace h := St.cast (Δ' := [⟨k103o, [(⟨(⟨p0.p.Homes, p0.p.Now, p0.p.Salt, p0.p.Users, (hS q0 p0.p.Inodes n0), (hS q1 p0.p.Dirs n1), (hS q2 s_413.1 n2)⟩ : T37o), p0.fds⟩ : T103o)], 1, (some B0), 103⟩, ⟨k84, p0.p.Inodes, n0, (some q0), 84⟩, ⟨(kSl k87), p0.p.Dirs, n1, (some q1), 85⟩, ⟨(kSl kByte), s_413.1, n2, (some q2), 43⟩]) h rfl
       replace K := K.sub (l' := [(65, _), (66, _), (67, _), (68, _), (69, _), (70, _), (2, _), (0, _), (1, _), (3, _), (8, _), (9, _), (10, _), (12, _), (13, _), (14, _), (15, _), (16, _), (17, _), (18, _), (19, _), (20, _), (22, _), (23, _), (24, _), (25, _), (26, _), (27, _), (28, _), (29, _), (30, _), (31, _), (32, _), (34, _), (35, _), (36, _), (37, _)]) ⟨l_430, l_431, l_432, l_435, l_436, l_439, l_440, hs.1, hs.2.1, hs.2.2.1, hs.2.2.2.1, hs.2.2.2.2.1, hs.2.2.2.2.2.1, hs.2.2.2.2.2.2.1, hs.2.2.2.2.2.2.2.1, hs.2.2.2.2.2.2.2.2.1, hs.2.2.2.2.2.2.2.2.2.1, hs.2.2.2.2.2.2.2.2.2.2.1, hs.2.2.2.2.2.2.2.2.2.2.2.1, hs.2.2.2.2.2.2.2.2.2.2.2.2.1, hs.2.2.2.2.2.2.2.2.2.2.2.2.2.1, hs.2.2.2.2.2.2.2.2.2.2.2.2.2.2.1, hs.2.2.2.2.2.2.2.2.2.2.2.2.2.2.2.1, hs.2.2.2.2.2.2.2.2.2.2.2.2.2.2.2.2.1, hs.2.2.2.2.2.2.2.2.2.2.2.2.2.2.2.2.2.1, hs.2.2.2.2.2.2.2.2.2.2.2.2.2.2.2.2.2.2.1, hs.2.2.2.2.2.2.2.2.2.2.2.2.2.2.2.2.2.2.2.1, hs.2.2.2.2.2.2.2.2.2.2.2.2.2.2.2.2.2.2.2.2.1, hs.2.2.2.2.2.2.2.2.2.2.2.2.2.2.2.2.2.2.2.2.2.1, hs.2.2.2.2.2.2.2.2.2.2.2.2.2.2.2.2.2.2.2.2.2.2.1, hs.2.2.2.2.2.2.2.2.2.2.2.2.2.2.2.2.2.2.2.2.2.2.2.1, hs.2.2.2.2.2.2.2.2.2.2.2.2.2.2.2.2.2.2.2.2.2.2.2.2.1, hs.2.2.2.2.2.2.2.2.2.2.2.2.2.2.2.2.2.2.2.2.2.2.2.2.2.1, hs.2.2.2.2.2.2.2.2.2.2.2.2.2.2.2.2.2.2.2.2.2.2.2.2.2.2.1, hs.2.2.2.2.2.2.2.2.2.2.2.2.2.2.2.2.2.2.2.2.2.2.2.2.2.2.2.1, hs.2.2.2.2.2.2.2.2.2.2.2.2.2.2.2.2.2.2.2.2.2.2.2.2.2.2.2.2.1, hs.2.2.2.2.2.2.2.2.2.2.2.2.2.2.2.2.2.2.2.2.2.2.2.2.2.2.2.2.2.1, ⟨⟩⟩
       refine asg K rfl fun a K => wn ?_
       obtain rfl := oi hm
       exact ⟨rfl, ⟨G116, v_437, (Gh.trans e_64 (Gh.trans e_108 e_116)), (St.sel [0, 1, 2, 3] rfl h), (K.sub (so rfl)), q_438⟩⟩
     refine sl <| mv K rfl fun a K => nilck K rfl fun a K => fa F103_0o K rfl o103_0o fun a K => fa F37_4o K rfl o37_4o fun a K => ld1 0 (J103_0o.comp F37_4o) (hS q0 p0.p.Inodes n0) K h rfl rfl rfl t33 vX fun a K => mv K rfl fun a K => ?_
     obtain ⟨g_443, hm⟩ := gs hm
     refine ixo K rfl rfl g_443 s33 t84 fun a K => fa F84_9 K rfl o84_9 fun a K => ld 1 J84_9 K h rfl rfl (gt_some g_443) t82 fun a v_444 K q_445 => ?_
     replace q_445 : (kSl k94).val _ v_444 ((gt p0.p.Inodes p1).Extents) := q_445
     refine mv K rfl fun a K => binDiv _ K rfl rfl rfl rfl fun a K => ?_
     obtain ⟨x_446, hx_446, hm⟩ := bs hm
     refine clp K h rfl b233 (fun h => c233 hx_446 q_445 h) fun a w v G117 K e_117 h hR_447 => ?_
     obtain rfl := hR_447
     refine mv K rfl fun a K => extr K rfl rfl fun a K => extr K rfl rfl fun a K => asg K rfl fun a K => asg K rfl fun a K => nsl <| mv K rfl fun a K => binC _ K rfl rfl rfl fun a K => wn <| ifm hm K rfl (fun _ hm => ?_) fun _ hm => ?_
     · refine sl <| mv K rfl fun a K => nilck K rfl fun a K => fa F103_0o K rfl o103_0o fun a K => fa F37_6o K rfl o37_6o fun a K => ld1 0 (J103_0o.comp F37_6o) (hS q2 s_242.1 n2) K h rfl rfl rfl t35 vX fun a K => mv K rfl fun a K => binI _ K rfl rfl rfl fun a K => ?_
       obtain ⟨g_449, hm⟩ := gs hm
       refine ixo K rfl rfl g_449 s35 t43 fun a K => ld 3 (Fld.id (kSl kByte)) K h rfl rfl (gt_some g_449) t43 fun a v_450 K q_451 => ?_
       replace q_451 : (kSl kByte).val _ v_450 (gt s_242.1 (wr (x_446.1 - 25))) := q_451
       obtain ⟨x_452, hx_452, hm⟩ := bs hm
       refine clg (Δ₁ := []) (Δ₂ := _) [] K h rfl rfl b42 (fun h => cV42 hx_452 q_451 h) fun a w v_455 G118 Δx K e_118 h hR_456 => ?_
       obtain ⟨bk_453, cp_454, rfl, rfl⟩ := hR_456
       replace h := St.cast (Δ' := [⟨kByte, x_452, cp_454, bk_453, 5⟩, ⟨k103o, [(⟨(⟨p0.p.Homes, p0.p.Now, p0.p.Salt, p0.p.Users, (hS q0 p0.p.Inodes n0), (hS q1 p0.p.Dirs n1), (hS q2 s_242.1 n2)⟩ : T37o), p0.fds⟩ : T103o)], 1, (some B0), 103⟩, ⟨k84, p0.p.Inodes, n0, (some q0), 84⟩, ⟨(kSl k87), p0.p.Dirs, n1, (some q1), 85⟩, ⟨(kSl kByte), s_242.1, n2, (some q2), 43⟩]) h rfl
       refine asg K rfl fun a K => wn <| ws ?_
       obtain ⟨g_463, hm⟩ := gs hm
       obtain ⟨g_469, hm⟩ := gs hm
       refine wh 7 [fE _, fE _, fE _, fE _, (fT (kSl kByte) s_242.2.2), fE _, (fT (kSl kByte) (lSub s_242.2.2 0 (imin (s_242.2.2.length : Int) (wr (440 - ((s_242.2.1).tmod 440))))))] [(0, _), (1, _), (2, _), (3, _), (8, _), (9, _), (10, _), (11, _), (12, _), (13, _), (14, _), (15, _), (16, _), (17, _), (18, _), (19, _), (20, _), (22, _), (23, _), (24, _), (25, _), (26, _), (27, _), (28, _), (29, _), (30, _), (31, _), (32, _), (34, _), (35, _), (36, _), (37, _), (38, _), (39, _), (40, _), (41, _), (42, _), (43, _), (44, _), (45, _), (46, _), (47, _)] mx K h (so rfl) ⟨hpX [(11, _)] (fun s _ => ⟨s.2.2.2.2.2.2.2.1, ⟨⟩⟩) fun _ _ K t => mv K rfl t, hpX [(2, _)] (fun s _ => ⟨s.2.2.1, ⟨⟩⟩) fun _ _ K t => mv K rfl t, hpX [(49, _)] k1 fun _ _ K t => binRem _ K rfl rfl rfl rfl t, hpX [(48, _), (50, _)] k2 fun _ h K t => slX kByte ((s_242.2.1).tmod 440) (x_452.length : Int) K rfl s43 t5 (.inr ⟨_, _, rfl, rfl⟩) (.inl ⟨rfl, rfl⟩) (sl2_cap 0 h rfl g_463) t, ?_, hpX [(8, _)] (fun s _ => ⟨s.2.2.2.2.1, ⟨⟩⟩) fun _ _ K t => mv K rfl t, ?_, ⟨⟩⟩ ?_
       · intro a w G123 L X e_123 h K hs hk
         have hx : Sy.sub L [(3, v_243)] := ⟨hs.2.2.2.1, ⟨⟩⟩
         replace K := K.addx _ hx
         refine mv K rfl fun a K => wn <| ⟨rfl, G123, [], gr, h, _, K.dropx _ hx, ⟨rfl, (Kd.val_mono (Gh.trans e_117 (Gh.trans e_118 e_123)) q_244)⟩⟩
       · intro a w G125 L X e_125 h K hs hk
         obtain ⟨v_464, _, l_465, -, q_466⟩ := hk.1
         obtain ⟨v_467, _, l_468, -, rfl⟩ := hk.2.1
         have hx : Sy.sub L [(52, v_464), (53, .int .i64 (imin (s_242.2.2.length : Int) (wr (440 - ((s_242.2.1).tmod 440)))))] := ⟨l_465, l_468, ⟨⟩⟩
         replace K := K.addx _ hx
         refine slV 0 (imin (s_242.2.2.length : Int) (wr (440 - ((s_242.2.1).tmod 440)))) K rfl q_466 s43 t5 (.inl ⟨rfl, rfl⟩) (.inr ⟨_, _, rfl, rfl⟩) g_469 fun a v_470 K q_471 => wn <| ⟨rfl, G125, [], gr, h, _, K.dropx _ hx, ⟨rfl, q_471⟩⟩
       intro a w G126 L e_126 h K hs hg
       obtain ⟨v_476, l_478, -, q_477⟩ := hg 4 rfl rfl
       obtain ⟨v_480, l_482, -, q_481⟩ := hg 6 rfl rfl
       replace K := K.sub (l' := [(48, _), (49, _), (50, _), (51, _), (52, _), (53, _), (54, _), (0, _), (1, _), (2, _), (3, _), (8, _), (9, _), (10, _), (11, _), (12, _), (13, _), (14, _), (15, _), (16, _), (17, _), (18, _), (19, _), (20, _), (22, _), (23, _), (24, _), (25, _), (26, _), (27, _), (28, _), (29, _), (30, _), (31, _), (32, _), (34, _), (35, _), (36, _), (37, _), (38, _), (39, _), (40, _), (41, _), (42, _), (43, _), (44, _), (45, _), (46, _), (47, _)]) ⟨gE (hg 0 rfl rfl), gE (hg 1 rfl rfl), gE (hg 2 rfl rfl), gE (hg 3 rfl rfl), l_478, gE (hg 5 rfl rfl), l_482, hs.1, hs.2.1, hs.2.2.1, hs.2.2.2.1, hs.2.2.2.2.1, hs.2.2.2.2.2.1, hs.2.2.2.2.2.2.1, hs.2.2.2.2.2.2.2.1, hs.2.2.2.2.2.2.2.2.1, hs.2.2.2.2.2.2.2.2.2.1, hs.2.2.2.2.2.2.2.2.2.2.1, hs.2.2.2.2.2.2.2.2.2.2.2.1, hs.2.2.2.2.2.2.2.2.2.2.2.2.1, hs.2.2.2.2.2.2.2.2.2.2.2.2.2.1, hs.2.2.2.2.2.2.2.2.2.2.2.2.2.2.1, hs.2.2.2.2.2.2.2.2.2.2.2.2.2.2.2.1, hs.2.2.2.2.2.2.2.2.2.2.2.2.2.2.2.2.1, hs.2.2.2.2.2.2.2.2.2.2.2.2.2.2.2.2.2.1, hs.2.2.2.2.2.2.2.2.2.2.2.2.2.2.2.2.2.2.1, hs.2.2.2.2.2.2.2.2.2.2.2.2.2.2.2.2.2.2.2.1, hs.2.2.2.2.2.2.2.2.2.2.2.2.2.2.2.2.2.2.2.2.1, hs.2.2.2.2.2.2.2.2.2.2.2.2.2.2.2.2.2.2.2.2.2.1, hs.2.2.2.2.2.2.2.2.2.2.2.2.2.2.2.2.2.2.2.2.2.2.1, hs.2.2.2.2.2.2.2.2.2.2.2.2.2.2.2.2.2.2.2.2.2.2.2.1, hs.2.2.2.2.2.2.2.2.2.2.2.2.2.2.2.2.2.2.2.2.2.2.2.2.1, hs.2.2.2.2.2.2.2.2.2.2.2.2.2.2.2.2.2.2.2.2.2.2.2.2.2.1, hs.2.2.2.2.2.2.2.2.2.2.2.2.2.2.2.2.2.2.2.2.2.2.2.2.2.2.1, hs.2.2.2.2.2.2.2.2.2.2.2.2.2.2.2.2.2.2.2.2.2.2.2.2.2.2.2.1, hs.2.2.2.2.2.2.2.2.2.2.2.2.2.2.2.2.2.2.2.2.2.2.2.2.2.2.2.2.1, hs.2.2.2.2.2.2.2.2.2.2.2.2.2.2.2.2.2.2.2.2.2.2.2.2.2.2.2.2.2.1, hs.2.2.2.2.2.2.2.2.2.2.2.2.2.2.2.2.2.2.2.2.2.2.2.2.2.2.2.2.2.2.1, hs.2.2.2.2.2.2.2.2.2.2.2.2.2.2.2.2.2.2.2.2.2.2.2.2.2.2.2.2.2.2.2.1, hs.2.2.2.2.2.2.2.2.2.2.2.2.2.2.2.2.2.2.2.2.2.2.2.2.2.2.2.2.2.2.2.2.1, hs.2.2.2.2.2.2.2.2.2.2.2.2.2.2.2.2.2.2.2.2.2.2.2.2.2.2.2.2.2.2.2.2.2.1, hs.2.2.2.2.2.2.2.2.2.2.2.2.2.2.2.2.2.2.2.2.2.2.2.2.2.2.2.2.2.2.2.2.2.2.1, hs.2.2.2.2.2.2.2.2.2.2.2.2.2.2.2.2.2.2.2.2.2.2.2.2.2.2.2.2.2.2.2.2.2.2.2.1, hs.2.2.2.2.2.2.2.2.2.2.2.2.2.2.2.2.2.2.2.2.2.2.2.2.2.2.2.2.2.2.2.2.2.2.2.2.1, hs.2.2.2.2.2.2.2.2.2.2.2.2.2.2.2.2.2.2.2.2.2.2.2.2.2.2.2.2.2.2.2.2.2.2.2.2.2.1, hs.2.2.2.2.2.2.2.2.2.2.2.2.2.2.2.2.2.2.2.2.2.2.2.2.2.2.2.2.2.2.2.2.2.2.2.2.2.2.1, hs.2.2.2.2.2.2.2.2.2.2.2.2.2.2.2.2.2.2.2.2.2.2.2.2.2.2.2.2.2.2.2.2.2.2.2.2.2.2.2.1, hs.2.2.2.2.2.2.2.2.2.2.2.2.2.2.2.2.2.2.2.2.2.2.2.2.2.2.2.2.2.2.2.2.2.2.2.2.2.2.2.2.1, hs.2.2.2.2.2.2.2.2.2.2.2.2.2.2.2.2.2.2.2.2.2.2.2.2.2.2.2.2.2.2.2.2.2.2.2.2.2.2.2.2.2.1, ⟨⟩⟩
       refine cpy 0 K h rfl rfl (subV_sub 0 h rfl g_463) rfl q_481 (by have := sl2_out g_463; omega) rfl s43 t5 fun a w K h => ?_
       have hl_483 : (ovr x_452 ((((s_242.2.1).tmod 440)).toNat) ((lSub s_242.2.2 0 (imin (s_242.2.2.length : Int) (wr (440 - ((s_242.2.1).tmod 440))))).take (((x_452.length : Int)).toNat - (((s_242.2.1).tmod 440)).toNat))).length = x_452.length := ovr_len (by have := sl2_out g_463; omega)
       refine wn <| wl <| mv K rfl fun a K => nilck K rfl fun a K => fa F103_0o K rfl o103_0o fun a K => fa F37_6o K rfl o37_6o fun a K => ld1 1 (J103_0o.comp F37_6o) (hS q2 s_242.1 n2) K h rfl rfl rfl t35 vX fun a K => mv K rfl fun a K => binI _ K rfl rfl rfl fun a K => mv K rfl fun a K => ?_
       obtain ⟨g_484, hm⟩ := gs hm
       refine ixo K rfl rfl g_484 s35 t43 fun a K => ?_
       obtain ⟨G127, e_127, h, q_485⟩ := frz 0 h rfl
       rw [hl_483] at q_485
       have hl_486 : (st s_242.1 (wr (x_446.1 - 25)) (ovr x_452 ((((s_242.2.1).tmod 440)).toNat) ((lSub s_242.2.2 0 (imin (s_242.2.2.length : Int) (wr (440 - ((s_242.2.1).tmod 440))))).take (((x_452.length : Int)).toNat - (((s_242.2.1).tmod 440)).toNat)))).length = s_242.1.length := st_length
       refine sto 3 (Fld.id (kSl kByte)) ((st s_242.1 (wr (x_446.1 - 25)) (ovr x_452 ((((s_242.2.1).tmod 440)).toNat) ((lSub s_242.2.2 0 (imin (s_242.2.2.length : Int) (wr (440 - ((s_242.2.1).tmod 440))))).take (((x_452.length : Int)).toNat - (((s_242.2.1).tmod 440)).toNat))))) K h rfl rfl (gt_some g_484) rfl q_485 t43 rfl rfl fun w h => wn <| kk_442 ((st s_242.1 (wr (x_446.1 - 25)) (ovr x_452 ((((s_242.2.1).tmod 440)).toNat) ((lSub s_242.2.2 0 (imin (s_242.2.2.length : Int) (wr (440 - ((s_242.2.1).tmod 440))))).take (((x_452.length : Int)).toNat - (((s_242.2.1).tmod 440)).toNat)))), x_446.1, x_446.2, (gt p0.p.Inodes p1).Extents, x_446.1, x_446.2, x_446.2, (x_446.2 == 0)) hm _ _ ⟨G127, v_444, (Gh.trans e_117 (Gh.trans e_118 (Gh.trans e_126 e_127))), (St.cast (St.sel [0, 1, 2, 3] rfl h) (show ([⟨k103o, [(⟨(⟨p0.p.Homes, p0.p.Now, p0.p.Salt, p0.p.Users, (hS q0 p0.p.Inodes n0), (hS q1 p0.p.Dirs n1), (hS q2 s_242.1 n2)⟩ : T37o), p0.fds⟩ : T103o)], 1, (some B0), 103⟩, ⟨k84, p0.p.Inodes, n0, (some q0), 84⟩, ⟨(kSl k87), p0.p.Dirs, n1, (some q1), 85⟩, ⟨(kSl kByte), (st s_242.1 (wr (x_446.1 - 25)) (ovr x_452 ((((s_242.2.1).tmod 440)).toNat) ((lSub s_242.2.2 0 (imin (s_242.2.2.length : Int) (wr (440 - ((s_242.2.1).tmod 440))))).take (((x_452.length : Int)).toNat - (((s_242.2.1).tmod 440)).toNat)))), n2, (some q2), 43⟩] : List Own) = [⟨k103o, [(⟨(⟨p0.p.Homes, p0.p.Now, p0.p.Salt, p0.p.Users, (hS q0 p0.p.Inodes n0), (hS q1 p0.p.Dirs n1), (hdr (some q2) (st s_242.1 (wr (x_446.1 - 25)) (ovr x_452 ((((s_242.2.1).tmod 440)).toNat) ((lSub s_242.2.2 0 (imin (s_242.2.2.length : Int) (wr (440 - ((s_242.2.1).tmod 440))))).take (((x_452.length : Int)).toNat - (((s_242.2.1).tmod 440)).toNat)))).length n2)⟩ : T37o), p0.fds⟩ : T103o)], 1, (some B0), 103⟩, ⟨k84, p0.p.Inodes, n0, (some q0), 84⟩, ⟨(kSl k87), p0.p.Dirs, n1, (some q1), 85⟩, ⟨(kSl kByte), (st s_242.1 (wr (x_446.1 - 25)) (ovr x_452 ((((s_242.2.1).tmod 440)).toNat) ((lSub s_242.2.2 0 (imin (s_242.2.2.length : Int) (wr (440 - ((s_242.2.1).tmod 440))))).take (((x_452.length : Int)).toNat - (((s_242.2.1).tmod 440)).toNat)))), n2, (some q2), 43⟩] by rw [hl_486])), (K.sub (so rfl)), (Kd.val_mono (Gh.trans e_117 (Gh.trans e_118 (Gh.trans e_126 e_127))) q_445)⟩
     refine wk <| kk_442 (s_242.1, x_446.1, x_446.2, (gt p0.p.Inodes p1).Extents, x_446.1, x_446.2, x_446.2, (x_446.2 == 0)) hm _ _ ⟨G117, v_444, e_117, (St.sel [0, 1, 2, 3] rfl h), (K.sub (so rfl)), (Kd.val_mono e_117 q_445)⟩
   refine wp_exit ?_
   obtain rfl := oi hm
   exact ⟨by simp, rfl, ⟨G64, e_64, (St.sel [0, 1, 2, 3] rfl h), (K.sub trivial)⟩⟩
 intro e a w hD
 obtain ⟨rfl, ⟨G96, e_96, h, K⟩⟩ := hD
 obtain rfl := oi hm
 exact fi f164 [] K (St.sel [0, 1, 2, 3] rfl h) rfl trivial (.inr rfl) ⟨rfl, rfl⟩
abbrev R239 (r : T103 × Int × Int) (v : Value) (H : Gh) : Prop := v = .tuple #[.int .i64 r.2.1, .int .i64 r.2.2]
instance monR239 {r : T103 × Int × Int} : MonR (R239 r) := ⟨fun _ _ _ _ h => h⟩
theorem c239 {p0 : T103} {p1 : Int} {p2 : Int} {p3 : (List UInt8)} {B0 q0 q1 q2 n0 n1 n2 : Nat} {r : T103 × Int × Int} (hm : m239 p0 p1 p2 p3 = some r) {vp3 : Value} (hp3 : ((kSl kByte).val G0 vp3 p3)) (h : St c G0 w ((o3 B0 q0 q1 q2 n0 n1 n2 p0))) : Calls prog 239 #[(pA B0 Ik103o), .int .i64 p1, .int .i64 p2, vp3] w (FO c (o3 B0 q0 q1 q2 n0 n1 n2 r.1) (R239 r)) := by
 unfold m239 at hm
 refine enter (n := 76) func239 rfl rfl rfl fun a K => sl <| asg K rfl fun a K => asg K rfl fun a K => nsl <| mv K rfl fun a K => mv K rfl fun a K => lenV K rfl hp3 rfl s43 fun a K => min2 _ K rfl rfl rfl fun a K => ?_
 obtain ⟨g_1, hm⟩ := gs hm
 refine slV 0 (imin (p3.length : Int) 1760) K rfl hp3 s43 t5 (.inl ⟨rfl, rfl⟩) (.inr ⟨_, _, rfl, rfl⟩) g_1 fun a v_2 K q_3 => asg K rfl fun a K => wn <| ws <| sl <| mv K rfl fun a K => lenV K rfl q_3 rfl s43 fun a K => binC _ K rfl rfl rfl fun a K => wn <| ifm hm K rfl (fun _ hm => ?_) fun _ hm => ?_
 · refine sl <| asg K rfl fun a K => asg K rfl fun a K => wn <| wt ?_
   obtain rfl := oi hm
   exact fi f239 [_, _] K (St.sel [0, 1, 2, 3] rfl h) rfl ⟨rfl, rfl, ⟨⟩⟩ (.inl rfl) ⟨rfl, rfl⟩
 refine wk <| ws <| sl <| mv K rfl fun a K => binC _ K rfl rfl rfl fun a K => wn <| ifm hm K rfl (fun _ hm => ?_) fun _ hm => ?_
 · refine sl <| asg K rfl fun a K => asg K rfl fun a K => wn <| wt ?_
   obtain rfl := oi hm
   exact fi f239 [_, _] K (St.sel [0, 1, 2, 3] rfl h) rfl ⟨rfl, rfl, ⟨⟩⟩ (.inl rfl) ⟨rfl, rfl⟩
 refine wk <| sl <| mv K rfl fun a K => mv K rfl fun a K => lenV K rfl q_3 rfl s43 fun a K => mv K rfl fun a K => binI _ K rfl rfl rfl fun a K => min2 _ K rfl rfl rfl fun a K => ?_
 obtain ⟨g_6, hm⟩ := gs hm
 refine slV 0 (imin ((lSub p3 0 (imin (p3.length : Int) 1760)).length : Int) (wr (17600 - p2))) K rfl q_3 s43 t5 (.inl ⟨rfl, rfl⟩) (.inr ⟨_, _, rfl, rfl⟩) g_6 fun a v_7 K q_8 => asg K rfl fun a K => nsl <| mv K rfl fun a K => nilck K rfl fun a K => fa F103_0o K rfl o103_0o fun a K => fa F37_4o K rfl o37_4o fun a K => ld1 0 (J103_0o.comp F37_4o) (hS q0 p0.p.Inodes n0) K h rfl rfl rfl t33 vX fun a K => mv K rfl fun a K => ?_
 obtain ⟨g_9, hm⟩ := gs hm
 refine ixo K rfl rfl g_9 s33 t84 fun a K => asg K rfl fun a K => wn <| ws <| ws ?_
 obtain ⟨x_29, hx_29, hm⟩ := bs hm
 obtain ⟨x_38, hx_38, hm⟩ := bs hm
 refine wh 14 [fE _, fE _, fE _, fE _, fE _, (fT (kSl k94) ((gt p0.p.Inodes p1).Extents)), fE _, fE _, fE _, (fT (kSl kByte) (lSub (lSub p3 0 (imin (p3.length : Int) 1760)) 0 (imin ((lSub p3 0 (imin (p3.length : Int) 1760)).length : Int) (wr (17600 - p2))))), fE _, fE _, (fE (.int .i64 x_29)), (fT (kSl (kInt .i64)) x_38)] [(0, _), (1, _), (2, _), (3, _), (8, _), (9, _), (10, _)] mx K h (so rfl) ⟨hpX [(0, _)] (fun s _ => ⟨s.1, ⟨⟩⟩) fun _ _ K t => mv K rfl t, hpX [(1, _)] (fun s _ => ⟨s.2.1, ⟨⟩⟩) fun _ _ K t => mv K rfl t, hpX [(10, _)] (fun s _ => ⟨s.2.2.2.2.2.2.1, ⟨⟩⟩) fun _ _ K t => mv K rfl t, hpX [(38, _)] k1 fun _ _ K t => nilck K rfl t, hpX [(39, _)] k1 fun _ _ K t => fa F84_9 K rfl o84_9 t, hpT [(40, _)] k1 fun _ h K t => ld 1 J84_9 K h rfl rfl (gt_some g_9) t82 t, hpX [(2, _)] (fun s _ => ⟨s.2.2.1, ⟨⟩⟩) fun _ _ K t => mv K rfl t, hpX [(42, _)] k1 fun _ _ K t => binDiv _ K rfl rfl rfl rfl t, hpX [(2, _)] (fun s _ => ⟨s.2.2.1, ⟨⟩⟩) fun _ _ K t => mv K rfl t, ?_, hpQ (t := 45) (fun k => k.1) fun _ _ K q t => lenV K rfl q rfl s43 t, hpX [(44, _), (46, _)] k2 fun _ _ K t => binI _ K rfl rfl rfl t, ?_, ?_, ⟨⟩⟩ ?_
 · intro a w G10 L X e_10 h K hs hk
   have hx : Sy.sub L [(3, v_7)] := ⟨hs.2.2.2.1, ⟨⟩⟩
   replace K := K.addx _ hx
   refine mv K rfl fun a K => wn <| ⟨rfl, G10, [], gr, h, _, K.dropx _ hx, ⟨rfl, (Kd.val_mono e_10 q_8)⟩⟩
 · intro a w G13 L X e_13 h K hs hk
   obtain ⟨v_27, _, l_28, -, rfl⟩ := hk.1
   have hx : Sy.sub L [(47, .int .i64 (wr (p2 + ((lSub (lSub p3 0 (imin (p3.length : Int) 1760)) 0 (imin ((lSub p3 0 (imin (p3.length : Int) 1760)).length : Int) (wr (17600 - p2)))).length : Int))))] := ⟨l_28, ⟨⟩⟩
   replace K := K.addx _ hx
   refine clp K h rfl b120 (fun h => c120 hx_29 h) fun a w v G14 K e_14 h hR_30 => ?_
   obtain rfl := hR_30
   refine wn <| ⟨rfl, G14, [], e_14, h, _, K.dropx _ hx, ⟨rfl, rfl⟩⟩
 · intro a w G15 L X e_15 h K hs hk
   obtain ⟨v_31, _, l_32, -, q_33⟩ := hk.1
   obtain ⟨v_34, _, l_35, -, rfl⟩ := hk.2.1
   obtain ⟨v_36, _, l_37, -, rfl⟩ := hk.2.2.1
   have hx : Sy.sub L [(41, v_31), (43, .int .i64 (wr ((p2).tdiv 440))), (48, .int .i64 x_29)] := ⟨l_32, l_35, l_37, ⟨⟩⟩
   replace K := K.addx _ hx
   refine clp K h rfl b293 (fun h => c293 hx_38 q_33 h) fun a w v_40 G16 K e_16 h hR_39 => wn <| ⟨rfl, G16, [], e_16, h, _, K.dropx _ hx, ⟨rfl, hR_39⟩⟩
 intro a w G17 L e_17 h K hs hg
 obtain ⟨v_43, l_45, -, q_44⟩ := hg 13 rfl rfl
 replace K := K.sub (l' := [(36, _), (37, _), (49, _), (0, _), (1, _), (2, _), (3, _), (8, _), (9, _), (10, _)]) ⟨gE (hg 0 rfl rfl), gE (hg 1 rfl rfl), l_45, hs.1, hs.2.1, hs.2.2.1, hs.2.2.2.1, hs.2.2.2.2.1, hs.2.2.2.2.2.1, hs.2.2.2.2.2.2.1, ⟨⟩⟩
 obtain ⟨x_46, hx_46, hm⟩ := bs hm
 refine clw (Δ₁ := (o3 B0 q0 q1 q2 n0 n1 n2 p0)) (Δ₂ := _) [3, 3, 3, 3] K h rfl rfl b285 (fun h => c285 hx_46 q_44 h) fun a w v G18 Δx K e_18 h hR_47 => ?_
 obtain ⟨rfl, hR_47⟩ := hR_47
 replace h := St.cast (Δ' := (o3 B0 q0 q1 q2 n0 n1 n2 x_46.1)) h rfl
 obtain rfl := hR_47
 refine asg K rfl fun a K => wn <| sl <| mv K rfl fun a K => binC _ K rfl rfl rfl fun a K => wn <| ifm hm K rfl (fun _ hm => ?_) fun _ hm => ?_
 · refine sl <| mv K rfl fun a K => asg K rfl fun a K => asg K rfl fun a K => wn <| wt ?_
   obtain rfl := oi hm
   exact fi f239 [_, _] K (St.sel [0, 1, 2, 3] rfl h) rfl ⟨rfl, rfl, ⟨⟩⟩ (.inl rfl) ⟨rfl, rfl⟩
 refine wk <| sl <| mv K rfl fun a K => mv K rfl fun a K => mv K rfl fun a K => mv K rfl fun a K => ?_
 obtain ⟨x_52, hx_52, hm⟩ := bs hm
 refine clw (Δ₁ := (o3 B0 q0 q1 q2 n0 n1 n2 x_46.1)) (Δ₂ := _) [3, 3, 3, 3] K h rfl rfl b164 (fun h => c164 hx_52 (Kd.val_mono (Gh.trans e_17 e_18) q_8) h) fun a w v G19 Δx K e_19 h hR_53 => ?_
 obtain ⟨rfl, hR_53⟩ := hR_53
 replace h := St.cast (Δ' := (o3 B0 q0 q1 q2 n0 n1 n2 x_52)) h rfl
 obtain rfl := hR_53
 refine nsl <| mv K rfl fun a K => mv K rfl fun a K => nilck K rfl fun a K => fa F84_5 K rfl o84_5 fun a K => ?_
 obtain ⟨g_57, hm⟩ := gs hm
 refine ld1 1 J84_5 (.int .i64 ((gt x_52.p.Inodes p1).Size)) K h rfl rfl (gt_some g_57) t3 vI fun a K => mv K rfl fun a K => mv K rfl fun a K => lenV K rfl (Kd.val_mono (Gh.trans e_17 (Gh.trans e_18 e_19)) q_8) rfl s43 fun a K => binI _ K rfl rfl rfl fun a K => max2 _ K rfl rfl rfl fun a K => nilck K rfl fun a K => fa F84_5 K rfl o84_5 fun a K => ?_
 have hl_58 : (st x_52.p.Inodes p1 ({ (gt x_52.p.Inodes p1) with Size := (imax ((gt x_52.p.Inodes p1).Size) (wr (p2 + ((lSub (lSub p3 0 (imin (p3.length : Int) 1760)) 0 (imin ((lSub p3 0 (imin (p3.length : Int) 1760)).length : Int) (wr (17600 - p2)))).length : Int)))) } : T84)).length = x_52.p.Inodes.length := st_length
 refine sto 1 J84_5 ((st x_52.p.Inodes p1 ({ (gt x_52.p.Inodes p1) with Size := (imax ((gt x_52.p.Inodes p1).Size) (wr (p2 + ((lSub (lSub p3 0 (imin (p3.length : Int) 1760)) 0 (imin ((lSub p3 0 (imin (p3.length : Int) 1760)).length : Int) (wr (17600 - p2)))).length : Int)))) } : T84))) K h rfl rfl (gt_some g_57) rfl int_val t3 rfl rfl fun w h => nsl <| mv K rfl fun a K => mv K rfl fun a K => ?_
 obtain ⟨x_59, hx_59, hm⟩ := bs hm
 replace h := St.cast h (show ([⟨k103o, [(⟨(⟨x_52.p.Homes, x_52.p.Now, x_52.p.Salt, x_52.p.Users, (hS q0 x_52.p.Inodes n0), (hS q1 x_52.p.Dirs n1), (hS q2 x_52.p.Blocks n2)⟩ : T37o), x_52.fds⟩ : T103o)], 1, (some B0), 103⟩, ⟨k84, (st x_52.p.Inodes p1 ({ (gt x_52.p.Inodes p1) with Size := (imax ((gt x_52.p.Inodes p1).Size) (wr (p2 + ((lSub (lSub p3 0 (imin (p3.length : Int) 1760)) 0 (imin ((lSub p3 0 (imin (p3.length : Int) 1760)).length : Int) (wr (17600 - p2)))).length : Int)))) } : T84)), n0, (some q0), 84⟩, ⟨(kSl k87), x_52.p.Dirs, n1, (some q1), 85⟩, ⟨(kSl kByte), x_52.p.Blocks, n2, (some q2), 43⟩] : List Own) = [⟨k103o, [(⟨(⟨x_52.p.Homes, x_52.p.Now, x_52.p.Salt, x_52.p.Users, (hdr (some q0) (st x_52.p.Inodes p1 ({ (gt x_52.p.Inodes p1) with Size := (imax ((gt x_52.p.Inodes p1).Size) (wr (p2 + ((lSub (lSub p3 0 (imin (p3.length : Int) 1760)) 0 (imin ((lSub p3 0 (imin (p3.length : Int) 1760)).length : Int) (wr (17600 - p2)))).length : Int)))) } : T84)).length n0), (hS q1 x_52.p.Dirs n1), (hS q2 x_52.p.Blocks n2)⟩ : T37o), x_52.fds⟩ : T103o)], 1, (some B0), 103⟩, ⟨k84, (st x_52.p.Inodes p1 ({ (gt x_52.p.Inodes p1) with Size := (imax ((gt x_52.p.Inodes p1).Size) (wr (p2 + ((lSub (lSub p3 0 (imin (p3.length : Int) 1760)) 0 (imin ((lSub p3 0 (imin (p3.length : Int) 1760)).length : Int) (wr (17600 - p2)))).length : Int)))) } : T84)), n0, (some q0), 84⟩, ⟨(kSl k87), x_52.p.Dirs, n1, (some q1), 85⟩, ⟨(kSl kByte), x_52.p.Blocks, n2, (some q2), 43⟩] by rw [hl_58])
 refine clw (Δ₁ := (o3 B0 q0 q1 q2 n0 n1 n2 ({ x_52 with p := ({ x_52.p with Inodes := (st x_52.p.Inodes p1 ({ (gt x_52.p.Inodes p1) with Size := (imax ((gt x_52.p.Inodes p1).Size) (wr (p2 + ((lSub (lSub p3 0 (imin (p3.length : Int) 1760)) 0 (imin ((lSub p3 0 (imin (p3.length : Int) 1760)).length : Int) (wr (17600 - p2)))).length : Int)))) } : T84)) } : T37) } : T103))) (Δ₂ := _) [3, 3, 3, 3] K h rfl rfl b154 (fun h => c154 hx_59 h) fun a w v G20 Δx K e_20 h hR_60 => ?_
 obtain ⟨rfl, hR_60⟩ := hR_60
 replace h := St.cast (Δ' := (o3 B0 q0 q1 q2 n0 n1 n2 x_59)) h rfl
 obtain rfl := hR_60
 refine nsl <| mv K rfl fun a K => lenV K rfl (Kd.val_mono (Gh.trans e_17 (Gh.trans e_18 (Gh.trans e_19 e_20))) q_8) rfl s43 fun a K => asg K rfl fun a K => asg K rfl fun a K => wn <| wt ?_
 obtain rfl := oi hm
 exact fi f239 [_, _] K (St.sel [0, 1, 2, 3] rfl h) rfl ⟨rfl, rfl, ⟨⟩⟩ (.inl rfl) ⟨rfl, rfl⟩
abbrev R172 (r : T103 × T58) (v : Value) (H : Gh) : Prop := k58.val H v r.2
instance monR172 {r : T103 × T58} : MonR (R172 r) := ⟨fun _ _ _ e h => Kd.val_mono e h⟩
theorem c172 {p0 : T103} {p1 : T45} {B0 q0 q1 q2 n0 n1 n2 : Nat} {r : T103 × T58} (hm : m172 p0 p1 = some r) {vp1 : Value} (hp1 : (k45.val G0 vp1 p1)) (h : St c G0 w ((o3 B0 q0 q1 q2 n0 n1 n2 p0))) : Calls prog 172 #[(pA B0 Ik103o), vp1] w (FO c (o3 B0 q0 q1 q2 n0 n1 n2 r.1) (R172 r)) := by
 unfold m172 at hm
 refine enter (n := 65) func172 rfl rfl rfl fun a K => sl <| boxr K h rfl hp1 fun a w v_1 G1 K e_1 h q_2 => alc K h z58 fun a w bk_3 K h => nsl <| asg K rfl fun a K => wn <| joinS (S := Int) (fun s_7 a w => Jn c G1 (⟨k58, [Z58], 1, (some bk_3), 58⟩ :: o3 B0 q0 q1 q2 n0 n1 n2 p0) 65 [(0, (pA B0 Ik103o)), (3, v_1), (4, (pA bk_3 Ik58)), (5, .int .i64 s_7)] a w) (fun s_7 => m172_j_102 p0 p1 s_7 = some r) (fun s_7 hm a w hJ => ?_) (fun kk_103 => ?_)
 · obtain ⟨G2, e_2, h, K⟩ := hJ
   unfold m172_j_102 at hm
   refine ws <| joinS (S := Bool) (fun s_42 a w => Jn c G2 (⟨k58, [Z58], 1, (some bk_3), 58⟩ :: o3 B0 q0 q1 q2 n0 n1 n2 p0) 65 [(0, (pA B0 Ik103o)), (3, v_1), (4, (pA bk_3 Ik58)), (5, .int .i64 s_7), (25, .bool s_42)] a w) (fun s_42 => m172_j_92 p0 p1 s_7 s_42 = some r) (fun s_42 hm a w hJ => ?_) (fun kk_93 => ?_)
   · obtain ⟨G5, e_5, h, K⟩ := hJ
     unfold m172_j_92 at hm
     refine ifm hm K rfl (fun _ hm => ?_) fun _ hm => ?_
     · refine ws <| wl ?_
       obtain ⟨x_44, hx_44, hm⟩ := bs hm
       refine clp K h rfl b89 (fun h => c89 hx_44 h) fun a w v_46 G6 K e_6 h hR_45 => sto 0 Ik58 ([x_44]) K h rfl rfl rfl rfl hR_45 t58 rfl rfl fun w h => wn <| wt ?_
       obtain ⟨v_47, q_48, rb_49⟩ := resOwn (P := prog) (i := 0) (p := 4) 0 Ik58 h rfl (K.lk_eq 4 rfl) rfl t58
       obtain rfl := oi hm
       exact fr f172 K (St.sel [1, 2, 3, 4] rfl h) rfl ⟨rb_49, ⟨⟩⟩ ⟨rfl, q_48⟩
     refine wk <| sl <| mv K rfl fun a K => ldr K h rfl (Kd.val_mono (Gh.trans e_2 e_5) q_2) t45 fun a v_50 K q_51 => mv K rfl fun a K => ?_
     obtain ⟨x_52, hx_52, hm⟩ := bs hm
     refine clr (Δ₁ := (o3 B0 q0 q1 q2 n0 n1 n2 p0)) (Δ₂ := _) [4, 4, 4, 4] K h rfl rfl b163 (fun h => c163 hx_52 q_51 h) fun a w v G7 K e_7 h hR_53 => ?_
     obtain rfl := hR_53
     refine mv K rfl fun a K => extr K rfl rfl fun a K => extr K rfl rfl fun a K => asg K rfl fun a K => asg K rfl fun a K => wn <| ws <| sl <| mv K rfl fun a K => binC _ K rfl rfl rfl fun a K => wn <| ifm hm K rfl (fun _ hm => ?_) fun _ hm => ?_
     · refine sl <| mv K rfl fun a K => ?_
       obtain ⟨x_55, hx_55, hm⟩ := bs hm
       refine clp K h rfl b89 (fun h => c89 hx_55 h) fun a w v_57 G8 K e_8 h hR_56 => sto 0 Ik58 ([x_55]) K h rfl rfl rfl rfl hR_56 t58 rfl rfl fun w h => wn <| wt ?_
       obtain ⟨v_58, q_59, rb_60⟩ := resOwn (P := prog) (i := 0) (p := 4) 0 Ik58 h rfl (K.lk_eq 4 rfl) rfl t58
       obtain rfl := oi hm
       exact fr f172 K (St.sel [1, 2, 3, 4] rfl h) rfl ⟨rb_60, ⟨⟩⟩ ⟨rfl, q_59⟩
     refine wk <| ws <| sl <| far F45_0 K rfl (Kd.val_mono (Gh.trans e_2 (Gh.trans e_5 e_7)) q_2) o45_0 fun a v_61 K q_62 => ldr1 (.int .i64 p1.Kind) K h rfl q_62 t30 vI fun a K => binC _ K rfl rfl rfl fun a K => wn <| ifm hm K rfl (fun _ hm => ?_) fun _ hm => ?_
     · refine sl <| mv K rfl fun a K => mv K rfl fun a K => far F45_6 K rfl (Kd.val_mono (Gh.trans e_2 (Gh.trans e_5 e_7)) q_2) o45_6 fun a v_64 K q_65 => ldr1 (.int .i64 p1.Off) K h rfl q_65 t3 vI fun a K => far F45_7 K rfl (Kd.val_mono (Gh.trans e_2 (Gh.trans e_5 e_7)) q_2) o45_7 fun a v_66 K q_67 => ldr1 (.int .i64 p1.N) K h rfl q_67 t3 vI fun a K => ?_
       obtain ⟨x_68, hx_68, hm⟩ := bs hm
       refine clr (Δ₁ := (o3 B0 q0 q1 q2 n0 n1 n2 p0)) (Δ₂ := _) [4, 4, 4, 4] K h rfl rfl b238 (fun h => c238 hx_68 h) fun a w v_70 G9 K e_9 h hR_69 => asg K rfl fun a K => nsl <| mv K rfl fun a K => mv K rfl fun a K => lenV K rfl hR_69 rfl s43 fun a K => bld (⟨0, (x_68.length : Int), x_68, ([] : (List ByteArray)), (⟨0, 0, 0, 0, 0, 0, 0, 0, (List.replicate 2 (0 : Nat))⟩ : T54), Z56⟩ : T58) K h rfl pl58 rfl z58 (.cons F58_2 rfl hR_69 (.cons F58_1 rfl int_val .nil)) fun a v_71 K q_72 => sto 0 Ik58 ([(⟨0, (x_68.length : Int), x_68, ([] : (List ByteArray)), (⟨0, 0, 0, 0, 0, 0, 0, 0, (List.replicate 2 (0 : Nat))⟩ : T54), Z56⟩ : T58)]) K h rfl rfl rfl rfl q_72 t58 rfl rfl fun w h => wn <| wt ?_
       obtain ⟨v_73, q_74, rb_75⟩ := resOwn (P := prog) (i := 0) (p := 4) 0 Ik58 h rfl (K.lk_eq 4 rfl) rfl t58
       obtain rfl := oi hm
       exact fr f172 K (St.sel [1, 2, 3, 4] rfl h) rfl ⟨rb_75, ⟨⟩⟩ ⟨rfl, q_74⟩
     refine wk <| sl <| mv K rfl fun a K => mv K rfl fun a K => far F45_6 K rfl (Kd.val_mono (Gh.trans e_2 (Gh.trans e_5 e_7)) q_2) o45_6 fun a v_76 K q_77 => ldr1 (.int .i64 p1.Off) K h rfl q_77 t3 vI fun a K => far F45_5 K rfl (Kd.val_mono (Gh.trans e_2 (Gh.trans e_5 e_7)) q_2) o45_5 fun a v_78 K q_79 => ldr K h rfl q_79 t43 fun a v_80 K q_81 => ?_
     obtain ⟨x_82, hx_82, hm⟩ := bs hm
     refine clw (Δ₁ := (o3 B0 q0 q1 q2 n0 n1 n2 p0)) (Δ₂ := _) [4, 4, 4, 4] K h rfl rfl b239 (fun h => c239 hx_82 q_81 h) fun a w v G10 Δx K e_10 h hR_83 => ?_
     obtain ⟨rfl, hR_83⟩ := hR_83
     replace h := St.cast (Δ' := (o3 B0 q0 q1 q2 n0 n1 n2 x_82.1 ++ [⟨k58, [Z58], 1, (some bk_3), 58⟩])) h rfl
     obtain rfl := hR_83
     refine mv K rfl fun a K => extr K rfl rfl fun a K => extr K rfl rfl fun a K => asg K rfl fun a K => asg K rfl fun a K => nsl <| mv K rfl fun a K => mv K rfl fun a K => bld (⟨x_82.2.2, x_82.2.1, ([] : (List UInt8)), ([] : (List ByteArray)), (⟨0, 0, 0, 0, 0, 0, 0, 0, (List.replicate 2 (0 : Nat))⟩ : T54), Z56⟩ : T58) K h rfl pl58 rfl z58 (.cons F58_0 rfl int_val (.cons F58_1 rfl int_val .nil)) fun a v_87 K q_88 => sto 4 Ik58 ([(⟨x_82.2.2, x_82.2.1, ([] : (List UInt8)), ([] : (List ByteArray)), (⟨0, 0, 0, 0, 0, 0, 0, 0, (List.replicate 2 (0 : Nat))⟩ : T54), Z56⟩ : T58)]) K h rfl rfl rfl rfl q_88 t58 rfl rfl fun w h => wn <| wt ?_
     obtain ⟨v_89, q_90, rb_91⟩ := resOwn (P := prog) (i := 0) (p := 4) 4 Ik58 h rfl (K.lk_eq 4 rfl) rfl t58
     obtain rfl := oi hm
     exact fr f172 K (St.sel [0, 1, 2, 3] rfl h) rfl ⟨rb_91, ⟨⟩⟩ ⟨rfl, q_90⟩
   refine wl <| far F45_6 K rfl (Kd.val_mono e_2 q_2) o45_6 fun a v_94 K q_95 => ldr1 (.int .i64 p1.Off) K h rfl q_95 t3 vI fun a K => binC _ K rfl rfl rfl fun a K => mv K rfl fun a K => ?_
   rcases im hm with ⟨c_96, hm⟩ | ⟨c_96, hm⟩
   · refine g1 K c_96 fun a K => g1 K c_96 fun a K => g1 K c_96 fun a K => g1 K c_96 fun a K => gnU K rfl rfl rfl rfl fun a K => gnU K rfl rfl rfl rfl fun a K => gnU K rfl rfl rfl rfl fun a K => g1 K c_96 fun a K => pkT K rfl c_96 rfl fun a K => wn <| kk_93 true hm _ _ ⟨G2, gr, (St.sel [0, 1, 2, 3, 4] rfl h), (K.sub (so rfl))⟩
   refine g2 K c_96 <| far F45_7 K rfl (Kd.val_mono e_2 q_2) o45_7 fun a v_97 K q_98 => g2 K c_96 <| ldr1 (.int .i64 p1.N) K h rfl q_98 t3 vI fun a K => g2 K c_96 <| binC _ K rfl rfl rfl fun a K => g2 K c_96 <| mv K rfl fun a K => ?_
   rcases im hm with ⟨c_99, hm⟩ | ⟨c_99, hm⟩
   · refine g2 K c_99 <| far F45_0 K rfl (Kd.val_mono e_2 q_2) o45_0 fun a v_100 K q_101 => g2 K c_99 <| ldr1 (.int .i64 p1.Kind) K h rfl q_101 t30 vI fun a K => g2 K c_99 <| binC _ K rfl rfl rfl fun a K => g2 K c_96 <| pkT K rfl c_99 rfl fun a K => pkF K rfl c_96 rfl fun a K => wn <| kk_93 (p1.Kind == 9) hm _ _ ⟨G2, gr, (St.sel [0, 1, 2, 3, 4] rfl h), (K.sub (so rfl))⟩
   refine g1 K c_99 fun a K => g1 K c_99 fun a K => g1 K c_99 fun a K => g2 K c_96 <| pkF K rfl c_99 rfl fun a K => pkF K rfl c_96 rfl fun a K => wn <| kk_93 false hm _ _ ⟨G2, gr, (St.sel [0, 1, 2, 3, 4] rfl h), (K.sub (so rfl))⟩
 refine sl <| far F45_0 K rfl q_2 o45_0 fun a v_104 K q_105 => ldr1 (.int .i64 p1.Kind) K h rfl q_105 t30 vI fun a K => binC _ K rfl rfl rfl fun a K => wn <| ifm hm K rfl (fun _ hm => ?_) fun _ hm => ?_
 · refine wl <| asg K rfl fun a K => wn <| kk_103 2 hm _ _ ⟨G1, gr, (St.sel [0, 1, 2, 3, 4] rfl h), (K.sub (so rfl))⟩
 refine wk <| kk_103 4 hm _ _ ⟨G1, gr, (St.sel [0, 1, 2, 3, 4] rfl h), (K.sub (so rfl))⟩
abbrev R173 (r : T58) (v : Value) (H : Gh) : Prop := k58.val H v r
instance monR173 {r : T58} : MonR (R173 r) := ⟨fun _ _ _ e h => Kd.val_mono e h⟩
theorem c173 {p0 : T103} {p1 : T45} {B0 q0 q1 q2 n0 n1 n2 : Nat} {r : T58} (hm : m173 p0 p1 = some r) {vp1 : Value} (hp1 : (k45.val G0 vp1 p1)) (h : St c G0 w ((o3 B0 q0 q1 q2 n0 n1 n2 p0))) : Calls prog 173 #[(pA B0 Ik103o), vp1] w (FO c (o3 B0 q0 q1 q2 n0 n1 n2 p0) (R173 r)) := by
 unfold m173 at hm
 refine enter (n := 53) func173 rfl rfl rfl fun a K => sl <| boxr K h rfl hp1 fun a w v_1 G1 K e_1 h q_2 => alc K h z58 fun a w bk_3 K h => nsl <| mv K rfl fun a K => ldr K h rfl q_2 t45 fun a v_4 K q_5 => far F45_3 K rfl q_2 o45_3 fun a v_6 K q_7 => ldr1 (.string p1.Path_) K h rfl q_7 t9 vS fun a K => far F45_0 K rfl q_2 o45_0 fun a v_8 K q_9 => ldr1 (.int .i64 p1.Kind) K h rfl q_9 t30 vI fun a K => binC _ K rfl rfl rfl fun a K => ?_
 obtain ⟨x_10, hx_10, hm⟩ := bs hm
 refine clr (Δ₁ := (o3 B0 q0 q1 q2 n0 n1 n2 p0)) (Δ₂ := _) [4, 4, 4, 4] K h rfl rfl b153 (fun h => c153 hx_10 q_5 h) fun a w v G2 K e_2 h hR_11 => ?_
 obtain ⟨v_12, rfl, q_13⟩ := hR_11
 refine mv K rfl fun a K => extr K rfl rfl fun a K => extr K rfl rfl fun a K => alc K h z210 fun a w bk_14 K h => sto 0 Ik210 ([x_10.1]) K h rfl rfl rfl rfl q_13 t210 rfl rfl fun w h => asg K rfl fun a K => wn <| ws <| sl <| mv K rfl fun a K => binC _ K rfl rfl rfl fun a K => wn <| ifm hm K rfl (fun _ hm => ?_) fun _ hm => ?_
 · refine sl <| mv K rfl fun a K => ?_
   obtain ⟨x_16, hx_16, hm⟩ := bs hm
   refine clp K h rfl b89 (fun h => c89 hx_16 h) fun a w v_18 G3 K e_3 h hR_17 => sto 1 Ik58 ([x_16]) K h rfl rfl rfl rfl hR_17 t58 rfl rfl fun w h => wn <| wt ?_
   obtain ⟨v_19, q_20, rb_21⟩ := resOwn (P := prog) (i := 0) (p := 4) 1 Ik58 h rfl (K.lk_eq 4 rfl) rfl t58
   obtain rfl := oi hm
   exact fr f173 K (St.sel [2, 3, 4, 5] rfl h) rfl ⟨rb_21, ⟨⟩⟩ ⟨rfl, q_20⟩
 refine wk <| ws ?_
 obtain ⟨g_36, hm⟩ := gs hm
 refine wp_hop (Δs := [(⟨k210, [x_10.1], 1, (some bk_14), 210⟩ :: ⟨k58, [Z58], 1, (some bk_3), 58⟩ :: o3 B0 q0 q1 q2 n0 n1 n2 p0)]) 10 [(fE (pA B0 Ik103o)), (fE (pA B0 Ik103o)), (fE (pA B0 J103_0o)), (fE (pA B0 (J103_0o.comp F37_4o))), (fE (hS q0 p0.p.Inodes n0)), (fE (pA bk_14 J210_0)), (fE (.int .i64 x_10.1.inode)), (fE (.pointer (some (adr q0 x_10.1.inode.toNat k84.n Ik84.off)))), (fT k84 (gt p0.p.Inodes x_10.1.inode)), (fB k84 Z84 84)] [(0, (pA B0 Ik103o)), (4, (pA bk_3 Ik58)), (5, (pA bk_14 Ik210))] [] [[0], [0], [0], [0], [0], [0], [0], [0], [0], [0]] [0, 1, 3, 7, 15, 0, 32, 127, 255, 0, 1023] mx (by kernel_rfl) (by kernel_rfl) (by kernel_rfl) (by kernel_rfl) rfl rfl ⟨monE, monE, monE, monE, monE, monE, monE, monE, monT, monB, ⟨⟩⟩ K h rfl rfl ⟨rfl, rfl, rfl, ⟨⟩⟩ ⟨(stg1 rfl rfl ?_), (stg1 rfl rfl ?_), (stg1 rfl rfl ?_), (stg1 rfl rfl ?_), (stg1 rfl rfl ?_), (stg1 rfl rfl ?_), (stg1 rfl rfl ?_), (stg1 rfl rfl ?_), (stg1 rfl rfl ?_), (stg1 rfl rfl ?_), ⟨⟩⟩ rfl ?_
 · exact hpX [(0, _)] (fun s _ => ⟨s.1, ⟨⟩⟩) fun _ _ K t => mv K rfl t
 · exact hpX [(23, _)] k1 fun _ _ K t => nilck K rfl t
 · exact hpX [(24, _)] k1 fun _ _ K t => fa F103_0o K rfl o103_0o t
 · exact hpX [(25, _)] k1 fun _ _ K t => fa F37_4o K rfl o37_4o t
 · exact hpX [(26, _)] k1 fun _ h K t => ld1 2 (J103_0o.comp F37_4o) (hS q0 p0.p.Inodes n0) K h rfl rfl rfl t33 vX t
 · exact hpX [(5, _)] (fun s _ => ⟨s.2.2.1, ⟨⟩⟩) fun _ _ K t => fa F210_0 K rfl o210_0 t
 · exact hpX [(28, _)] k1 fun _ h K t => ld1 0 J210_0 (.int .i64 x_10.1.inode) K h rfl rfl rfl t3 vI t
 · exact hpX [(27, _), (29, _)] k2 fun _ _ K t => ixo K rfl rfl g_36 s33 t84 t
 · exact hpT [(30, _)] k1 fun _ h K t => ld 3 Ik84 K h rfl rfl (gt_some g_36) t84 t
 · intro a w G13 L X e_13 h K hs hk
   have hx : Sy.sub L [] := trivial
   replace K := K.addx _ hx
   refine alc K h z84 fun a w bk_41 K h => wn <| ⟨rfl, G13, [_], gr, h, _, K.dropx _ hx, ⟨bk_41, rfl, rfl⟩⟩
 intro a w G14 L X e_14 h K hs hg
 obtain ⟨_, _, _, rfl, -, ⟨rfl, -⟩, hg⟩ := hg
 obtain ⟨_, _, _, rfl, -, ⟨rfl, -⟩, hg⟩ := hg
 obtain ⟨_, _, _, rfl, -, ⟨rfl, -⟩, hg⟩ := hg
 obtain ⟨_, _, _, rfl, -, ⟨rfl, -⟩, hg⟩ := hg
 obtain ⟨_, _, _, rfl, -, ⟨rfl, -⟩, hg⟩ := hg
 obtain ⟨_, _, _, rfl, -, ⟨rfl, -⟩, hg⟩ := hg
 obtain ⟨_, _, _, rfl, -, ⟨rfl, -⟩, hg⟩ := hg
 obtain ⟨_, _, _, rfl, -, ⟨rfl, -⟩, hg⟩ := hg
 obtain ⟨v_42, _, _, rfl, l_44, ⟨rfl, q_43⟩, hg⟩ := hg
 obtain ⟨_, _, _, rfl, l9x, ⟨bk_41, rfl, rfl⟩, hg⟩ := hg
 obtain rfl := hg
 replace h := St.cast (Δ' := (⟨k210, [x_10.1], 1, (some bk_14), 210⟩ :: ⟨k58, [Z58], 1, (some bk_3), 58⟩ :: o3 B0 q0 q1 q2 n0 n1 n2 p0 ++ [⟨k84, [Z84], 1, (some bk_41), 84⟩])) h rfl
 replace K := K.sub (l' := [(31, _), (7, _), (4, _), (5, _)]) ⟨l_44, l9x, hs.2.1, hs.2.2.1, ⟨⟩⟩
 refine sto 6 Ik84 ([(gt p0.p.Inodes x_10.1.inode)]) K h rfl rfl rfl rfl q_43 t84 rfl rfl fun w h => wn <| ws ?_
 obtain ⟨x_66, hx_66, hm⟩ := bs hm
 refine wh 19 [fE _, fE _, fE _, fE _, fE _, fE _, fE _, fE _, fE _, fE _, fE _, fE _, fE _, fE _, fE _, (fT (kSl k94) ((gt p0.p.Inodes x_10.1.inode).Extents)), (fE (.int .i64 x_66)), fE _, (fT a52 ((gt p0.p.Inodes x_10.1.inode).Times))] [(4, _), (5, _), (7, _)] mx K h (so rfl) ⟨hpX [(5, _)] (fun s _ => ⟨s.2.1, ⟨⟩⟩) fun _ _ K t => fa F210_0 K rfl o210_0 t, hpX [(32, _)] k1 fun _ h K t => ld1 0 J210_0 (.int .i64 x_10.1.inode) K h rfl rfl rfl t3 vI t, hpX [(7, _)] (fun s _ => ⟨s.2.2.1, ⟨⟩⟩) fun _ _ K t => fa F84_0 K rfl o84_0 t, hpX [(34, _)] k1 fun _ h K t => ld1 6 J84_0 (.int .i64 ((gt p0.p.Inodes x_10.1.inode).Kind)) K h rfl rfl rfl t51 vI t, hpX [(7, _)] (fun s _ => ⟨s.2.2.1, ⟨⟩⟩) fun _ _ K t => fa F84_1 K rfl o84_1 t, hpX [(36, _)] k1 fun _ h K t => ld1 6 J84_1 (.int .i64 ((gt p0.p.Inodes x_10.1.inode).Mode)) K h rfl rfl rfl t3 vI t, hpX [(7, _)] (fun s _ => ⟨s.2.2.1, ⟨⟩⟩) fun _ _ K t => fa F84_2 K rfl o84_2 t, hpX [(38, _)] k1 fun _ h K t => ld1 6 J84_2 (.int .i64 ((gt p0.p.Inodes x_10.1.inode).Uid)) K h rfl rfl rfl t3 vI t, hpX [(7, _)] (fun s _ => ⟨s.2.2.1, ⟨⟩⟩) fun _ _ K t => fa F84_3 K rfl o84_3 t, hpX [(40, _)] k1 fun _ h K t => ld1 6 J84_3 (.int .i64 ((gt p0.p.Inodes x_10.1.inode).Gid)) K h rfl rfl rfl t3 vI t, hpX [(7, _)] (fun s _ => ⟨s.2.2.1, ⟨⟩⟩) fun _ _ K t => fa F84_4 K rfl o84_4 t, hpX [(42, _)] k1 fun _ h K t => ld1 6 J84_4 (.int .i64 ((gt p0.p.Inodes x_10.1.inode).Links)) K h rfl rfl rfl t3 vI t, hpX [(7, _)] (fun s _ => ⟨s.2.2.1, ⟨⟩⟩) fun _ _ K t => fa F84_5 K rfl o84_5 t, hpX [(44, _)] k1 fun _ h K t => ld1 6 J84_5 (.int .i64 ((gt p0.p.Inodes x_10.1.inode).Size)) K h rfl rfl rfl t3 vI t, hpX [(7, _)] (fun s _ => ⟨s.2.2.1, ⟨⟩⟩) fun _ _ K t => fa F84_9 K rfl o84_9 t, hpT [(46, _)] k1 fun _ h K t => ld 6 J84_9 K h rfl rfl rfl t82 t, ?_, hpX [(7, _)] (fun s _ => ⟨s.2.2.1, ⟨⟩⟩) fun _ _ K t => fa F84_6 K rfl o84_6 t, hpT [(49, _)] k1 fun _ h K t => ld 6 J84_6 K h rfl rfl rfl t52 t, ⟨⟩⟩ ?_
 · intro a w G31 L X e_31 h K hs hk
   obtain ⟨v_63, _, l_64, -, q_65⟩ := hk.1
   have hx : Sy.sub L [(47, v_63)] := ⟨l_64, ⟨⟩⟩
   replace K := K.addx _ hx
   refine clp K h rfl b121 (fun h => c121 hx_66 q_65 h) fun a w v G32 K e_32 h hR_67 => ?_
   obtain rfl := hR_67
   refine wn <| ⟨rfl, G32, [], e_32, h, _, K.dropx _ hx, ⟨rfl, rfl⟩⟩
 intro a w G35 L e_35 h K hs hg
 obtain ⟨v_80, l_82, -, q_81⟩ := hg 18 rfl rfl
 replace K := K.sub (l' := [(33, _), (35, _), (37, _), (39, _), (41, _), (43, _), (45, _), (48, _), (50, _), (4, _)]) ⟨gE (hg 1 rfl rfl), gE (hg 3 rfl rfl), gE (hg 5 rfl rfl), gE (hg 7 rfl rfl), gE (hg 9 rfl rfl), gE (hg 11 rfl rfl), gE (hg 13 rfl rfl), gE (hg 16 rfl rfl), l_82, hs.1, ⟨⟩⟩
 refine bld (⟨x_10.1.inode, (gt p0.p.Inodes x_10.1.inode).Kind, (gt p0.p.Inodes x_10.1.inode).Mode, (gt p0.p.Inodes x_10.1.inode).Uid, (gt p0.p.Inodes x_10.1.inode).Gid, (gt p0.p.Inodes x_10.1.inode).Links, (gt p0.p.Inodes x_10.1.inode).Size, x_66, (gt p0.p.Inodes x_10.1.inode).Times⟩ : T54) K h rfl pl54 rfl z54 (.cons F54_0 rfl int_val (.cons F54_1 rfl int_val (.cons F54_2 rfl int_val (.cons F54_3 rfl int_val (.cons F54_4 rfl int_val (.cons F54_5 rfl int_val (.cons F54_6 rfl int_val (.cons F54_7 rfl int_val (.cons F54_8 rfl q_81 .nil))))))))) fun a v_83 K q_84 => bld (⟨0, 0, ([] : (List UInt8)), ([] : (List ByteArray)), (⟨x_10.1.inode, (gt p0.p.Inodes x_10.1.inode).Kind, (gt p0.p.Inodes x_10.1.inode).Mode, (gt p0.p.Inodes x_10.1.inode).Uid, (gt p0.p.Inodes x_10.1.inode).Gid, (gt p0.p.Inodes x_10.1.inode).Links, (gt p0.p.Inodes x_10.1.inode).Size, x_66, (gt p0.p.Inodes x_10.1.inode).Times⟩ : T54), Z56⟩ : T58) K h rfl pl58 rfl z58 (.cons F58_4 rfl q_84 .nil) fun a v_85 K q_86 => sto 1 Ik58 ([(⟨0, 0, ([] : (List UInt8)), ([] : (List ByteArray)), (⟨x_10.1.inode, (gt p0.p.Inodes x_10.1.inode).Kind, (gt p0.p.Inodes x_10.1.inode).Mode, (gt p0.p.Inodes x_10.1.inode).Uid, (gt p0.p.Inodes x_10.1.inode).Gid, (gt p0.p.Inodes x_10.1.inode).Links, (gt p0.p.Inodes x_10.1.inode).Size, x_66, (gt p0.p.Inodes x_10.1.inode).Times⟩ : T54), Z56⟩ : T58)]) K h rfl rfl rfl rfl q_86 t58 rfl rfl fun w h => wn <| wt ?_
 obtain ⟨v_87, q_88, rb_89⟩ := resOwn (P := prog) (i := 0) (p := 4) 1 Ik58 h rfl (K.lk_eq 4 rfl) rfl t58
 obtain rfl := oi hm
 exact fr f173 K (St.sel [2, 3, 4, 5] rfl h) rfl ⟨rb_89, ⟨⟩⟩ ⟨rfl, q_88⟩
abbrev R240 (r : (List ByteArray) × Int) (v : Value) (H : Gh) : Prop := ∃ u0, v = .tuple #[u0, .int .i64 r.2] ∧ (kSl kStr).val H u0 r.1
instance monR240 {r : (List ByteArray) × Int} : MonR (R240 r) := by
 constructor
 rintro G H v e ⟨u0, rfl, q0⟩
 exact ⟨u0, rfl, Kd.val_mono e q0⟩
theorem c240 {p0 : (List UInt8)} {p1 : (List T87)} {p2 : ByteArray} {p3 : Int} {r : (List ByteArray) × Int} (hm : m240 p0 p1 p2 p3 = some r) {vp0 : Value} {vp1 : Value} (hp0 : (a22.val G0 vp0 p0)) (hp1 : ((kSl k87).val G0 vp1 p1)) (h : St c G0 w []) : Calls prog 240 #[vp0, vp1, .string p2, .int .i64 p3] w (FO c [] (R240 r)) := by
 unfold m240 at hm
 refine enter (n := 60) func240 rfl rfl rfl fun a K => sl <| boxr K h rfl hp0 fun a w v_1 G1 K e_1 h q_2 => asg K rfl fun a K => asg K rfl fun a K => wn <| ws <| sl <| ldr K h rfl q_2 t22 fun a v_3 K q_4 => mv K rfl fun a K => ?_
 obtain ⟨x_5, hx_5, hm⟩ := bs hm
 refine clp K h rfl b110 (fun h => c110 hx_5 q_4 (Kd.val_mono e_1 hp1) h) fun a w v G2 K e_2 h hR_6 => ?_
 obtain rfl := hR_6
 refine asg K rfl fun a K => nsl <| mv K rfl fun a K => binC _ K rfl rfl rfl fun a K => wn <| ifm hm K rfl (fun _ hm => ?_) fun _ hm => ?_
 · refine sl <| mv K rfl fun a K => asg K rfl fun a K => asg K rfl fun a K => wn <| wt ?_
   obtain rfl := oi hm
   exact fi f240 [_, _] K (St.sel [] rfl h) rfl ⟨rfl, rfl, ⟨⟩⟩ (.inl rfl) ⟨rfl, ⟨_, rfl, nil_sl⟩⟩
 refine wk <| ws <| sl <| mv K rfl fun a K => binC _ K rfl rfl rfl fun a K => wn <| ifm hm K rfl (fun _ hm => ?_) fun _ hm => ?_
 · refine sl <| asg K rfl fun a K => asg K rfl fun a K => wn <| wt ?_
   obtain rfl := oi hm
   exact fi f240 [_, _] K (St.sel [] rfl h) rfl ⟨rfl, rfl, ⟨⟩⟩ (.inl rfl) ⟨rfl, ⟨_, rfl, nil_sl⟩⟩
 refine wk <| sl <| asg K rfl fun a K => wn <| joinS (S := Int) (fun s_15 a w => Jn c G2 [] 60 [(1, vp1), (3, .int .i64 p3), (8, .slice none 0 0), (9, .int .i64 0), (11, .int .i64 s_15)] a w) (fun s_15 => m240_j_80 p1 p3 s_15 = some r) (fun s_15 hm a w hJ => ?_) (fun kk_81 => ?_)
 · obtain ⟨G4, e_4, h, K⟩ := hJ
   unfold m240_j_80 at hm
   refine sl <| asg K rfl fun a K => wn <| ws <| sl <| mv K rfl fun a K => mv K rfl fun a K => mv K rfl fun a K => lenV K rfl (Kd.val_mono (Gh.trans e_1 (Gh.trans e_2 e_4)) hp1) rfl s85 fun a K => mv K rfl fun a K => mv K rfl fun a K => mv K rfl fun a K => lenV K rfl (Kd.val_mono (Gh.trans e_1 (Gh.trans e_2 e_4)) hp1) rfl s85 fun a K => min2 _ K rfl rfl rfl fun a K => binI _ K rfl rfl rfl fun a K => min2 _ K rfl rfl rfl fun a K => ?_
   obtain ⟨g_16, hm⟩ := gs hm
   refine slV s_15 (imin (p1.length : Int) (wr (s_15 + (imin p3 (p1.length : Int))))) K rfl (show (kSl k87).val _ _ _ from (Kd.val_mono (Gh.trans e_1 (Gh.trans e_2 e_4)) hp1)) s85 t87 (.inr ⟨_, _, rfl, rfl⟩) (.inr ⟨_, _, rfl, rfl⟩) g_16 fun a v_17 K q_18 => lenV K rfl q_18 rfl s85 fun a K => mv K rfl fun a K => wn <| wb ?_
   replace h := St.nil kStr 9 h
   obtain ⟨p_62, hp_62, hm⟩ := bs hm
   refine loop (S := (List ByteArray) × Int) (R := (List ByteArray)) (fun s_46 a w => ∃ (G8 : Gh) (bk_47 : Option Nat) (cp_48 : Nat), Gh.le G4 G8 ∧ St c G8 w [⟨kStr, s_46.1, cp_48, bk_47, 9⟩] ∧ Tm 60 a [(8, .slice none 0 0), (9, .int .i64 0), (13, hdr bk_47 s_46.1.length cp_48), (47, v_17), (48, .int .i64 ((lSub p1 s_15 (imin (p1.length : Int) (wr (s_15 + (imin p3 (p1.length : Int)))))).length : Int)), (49, .int .i64 s_46.2)]) (fun (p_62 : (List ByteArray)) e a w => e = .exit 0 ∧ ∃ (G10 : Gh) (bk_63 : Option Nat) (cp_64 : Nat), Gh.le G4 G10 ∧ St c G10 w [⟨kStr, p_62, cp_64, bk_63, 9⟩] ∧ Tm 60 a [(8, .slice none 0 0), (9, .int .i64 0), (13, hdr bk_63 p_62.length cp_64)]) hp_62 ⟨G4, none, 0, gr, (St.sel [0] rfl h), (K.sub (so rfl))⟩ ?_ ?_
   · intro s_46 y_66 a w hm hI
     obtain ⟨G8, bk_47, cp_48, e_8, h, K⟩ := hI
     unfold m240_l_65 at hm
     refine sl <| binC _ K rfl rfl rfl fun a K => wn <| ws <| ifm hm K rfl (fun _ hm => ?_) fun _ hm => ?_
     · refine wk <| ws <| wb <| ws <| wl ?_
       obtain ⟨g_68, hm⟩ := gs hm
       refine ixs K rfl (Kd.val_mono e_8 q_18) rfl g_68 s85 t87 fun a v_69 K q_70 => ldr K h rfl q_70 t87 fun a v_71 K q_72 => alc K h z87 fun a w bk_73 K h => sto 0 Ik87 ([(gt (lSub p1 s_15 (imin (p1.length : Int) (wr (s_15 + (imin p3 (p1.length : Int)))))) s_46.2)]) K h rfl rfl rfl rfl q_72 t87 rfl rfl fun w h => wn <| wl <| mv K rfl fun a K => fa F87_0 K rfl o87_0 fun a K => ld1 0 J87_0 (.string ((gt (lSub p1 s_15 (imin (p1.length : Int) (wr (s_15 + (imin p3 (p1.length : Int)))))) s_46.2).Name)) K h rfl rfl rfl t9 vS fun a K => bldS (f := kStr) (by decide) [(gt (lSub p1 s_15 (imin (p1.length : Int) (wr (s_15 + (imin p3 (p1.length : Int)))))) s_46.2).Name] K h rfl s50 t9 rfl z9 (.cons (Fld.idx kStr 0 (by decide)) rfl str_val .nil) fun a w bk_74 K h => ?_
       obtain ⟨G11, e_11, h, q_75⟩ := frz 0 h rfl
       obtain ⟨g_78, hm⟩ := gs hm
       refine app 1 K h rfl rfl rfl rfl q_75 rfl s50 s50 e9 g_78 fun a w bk_76 cp_77 K h => asg K rfl fun a K => wn <| wl <| binI _ K rfl rfl rfl fun a K => mv K rfl fun a K => wn ?_
       obtain rfl := oi hm
       exact ⟨rfl, ⟨G11, bk_76, cp_77, (Gh.trans e_8 e_11), (St.sel [1] rfl h), (K.sub (so rfl))⟩⟩
     refine wp_exit ?_
     obtain rfl := oi hm
     exact ⟨by simp, rfl, ⟨G8, bk_47, cp_48, e_8, (St.sel [0] rfl h), (K.sub (so rfl))⟩⟩
   intro e a w hD
   obtain ⟨rfl, ⟨G10, bk_63, cp_64, e_10, h, K⟩⟩ := hD
   refine sl <| mv K rfl fun a K => asg K rfl fun a K => asg K rfl fun a K => wn <| wt ?_
   obtain ⟨G12, e_12, h, q_79⟩ := frz 0 h rfl
   obtain rfl := oi hm
   exact fi f240 [_, _] K (St.sel [] rfl h) rfl ⟨rfl, rfl, ⟨⟩⟩ (.inl rfl) ⟨rfl, ⟨_, rfl, q_79⟩⟩
 refine sl <| mv K rfl fun a K => binS _ K rfl rfl rfl fun a K => wn <| ifm hm K rfl (fun _ hm => ?_) fun _ hm => ?_
 · refine sl <| asg K rfl fun a K => nsl <| ldr K h rfl (Kd.val_mono e_2 q_2) t22 fun a v_83 K q_84 => mv K rfl fun a K => mv K rfl fun a K => ?_
   obtain ⟨x_85, hx_85, hm⟩ := bs hm
   refine clp K h rfl b283 (fun h => c283 hx_85 q_84 (Kd.val_mono (Gh.trans e_1 e_2) hp1) h) fun a w v G13 K e_13 h hR_86 => ?_
   obtain rfl := hR_86
   refine mv K rfl fun a K => extr K rfl rfl fun a K => extr K rfl rfl fun a K => asg K rfl fun a K => asg K rfl fun a K => nsl <| mv K rfl fun a K => wn <| ifm hm K rfl (fun _ hm => ?_) fun _ hm => ?_
   · refine wl <| mv K rfl fun a K => binI _ K rfl rfl rfl fun a K => asg K rfl fun a K => wn <| kk_81 (wr (x_85.1 + 1)) hm _ _ ⟨G13, e_13, (St.sel [] rfl h), (K.sub (so rfl))⟩
   refine wk <| kk_81 x_85.1 hm _ _ ⟨G13, e_13, (St.sel [] rfl h), (K.sub (so rfl))⟩
 refine wk <| kk_81 0 hm _ _ ⟨G2, gr, (St.sel [] rfl h), (K.sub (so rfl))⟩
abbrev R174 (r : T58) (v : Value) (H : Gh) : Prop := k58.val H v r
instance monR174 {r : T58} : MonR (R174 r) := ⟨fun _ _ _ e h => Kd.val_mono e h⟩
theorem c174 {p0 : T103} {p1 : T45} {B0 q0 q1 q2 n0 n1 n2 : Nat} {r : T58} (hm : m174 p0 p1 = some r) {vp1 : Value} (hp1 : (k45.val G0 vp1 p1)) (h : St c G0 w ((o3 B0 q0 q1 q2 n0 n1 n2 p0))) : Calls prog 174 #[(pA B0 Ik103o), vp1] w (FO c (o3 B0 q0 q1 q2 n0 n1 n2 p0) (R174 r)) := by
 unfold m174 at hm
 refine enter (n := 73) func174 rfl rfl rfl fun a K => sl <| boxr K h rfl hp1 fun a w v_1 G1 K e_1 h q_2 => alc K h z58 fun a w bk_3 K h => wn <| ws <| sl <| far F45_7 K rfl q_2 o45_7 fun a v_4 K q_5 => ldr1 (.int .i64 p1.N) K h rfl q_5 t3 vI fun a K => binC _ K rfl rfl rfl fun a K => wn <| ifm hm K rfl (fun _ hm => ?_) fun _ hm => ?_
 · refine ws <| wl ?_
   obtain ⟨x_7, hx_7, hm⟩ := bs hm
   refine clp K h rfl b89 (fun h => c89 hx_7 h) fun a w v_9 G2 K e_2 h hR_8 => sto 0 Ik58 ([x_7]) K h rfl rfl rfl rfl hR_8 t58 rfl rfl fun w h => wn <| wt ?_
   obtain ⟨v_10, q_11, rb_12⟩ := resOwn (P := prog) (i := 0) (p := 4) 0 Ik58 h rfl (K.lk_eq 4 rfl) rfl t58
   obtain rfl := oi hm
   exact fr f174 K (St.sel [1, 2, 3, 4] rfl h) rfl ⟨rb_12, ⟨⟩⟩ ⟨rfl, q_11⟩
 refine wk <| sl <| mv K rfl fun a K => ldr K h rfl q_2 t45 fun a v_13 K q_14 => far F45_3 K rfl q_2 o45_3 fun a v_15 K q_16 => ldr1 (.string p1.Path_) K h rfl q_16 t9 vS fun a K => ?_
 obtain ⟨x_17, hx_17, hm⟩ := bs hm
 refine clr (Δ₁ := (o3 B0 q0 q1 q2 n0 n1 n2 p0)) (Δ₂ := _) [4, 4, 4, 4] K h rfl rfl b153 (fun h => c153 hx_17 q_14 h) fun a w v G3 K e_3 h hR_18 => ?_
 obtain ⟨v_19, rfl, q_20⟩ := hR_18
 refine mv K rfl fun a K => extr K rfl rfl fun a K => extr K rfl rfl fun a K => alc K h z210 fun a w bk_21 K h => sto 0 Ik210 ([x_17.1]) K h rfl rfl rfl rfl q_20 t210 rfl rfl fun w h => asg K rfl fun a K => wn <| ws <| wb <| sl <| mv K rfl fun a K => binC _ K rfl rfl rfl fun a K => asg K rfl fun a K => wn <| ifm hm K rfl (fun _ hm => ?_) fun _ hm => ?_
 · refine sl <| mv K rfl fun a K => ?_
   obtain ⟨x_23, hx_23, hm⟩ := bs hm
   refine clp K h rfl b89 (fun h => c89 hx_23 h) fun a w v_25 G4 K e_4 h hR_24 => sto 1 Ik58 ([x_23]) K h rfl rfl rfl rfl hR_24 t58 rfl rfl fun w h => wn <| wt ?_
   obtain ⟨v_26, q_27, rb_28⟩ := resOwn (P := prog) (i := 0) (p := 4) 1 Ik58 h rfl (K.lk_eq 4 rfl) rfl t58
   obtain rfl := oi hm
   exact fr f174 K (St.sel [2, 3, 4, 5] rfl h) rfl ⟨rb_28, ⟨⟩⟩ ⟨rfl, q_27⟩
 refine ws <| wh 7 [fE _, fE _, fE _, fE _, fE _, fE _, fE _] [(0, _), (3, _), (4, _), (5, _)] mx K h (so rfl) ⟨hpX [(0, _)] (fun s _ => ⟨s.1, ⟨⟩⟩) fun _ _ K t => mv K rfl t, hpX [(27, _)] k1 fun _ _ K t => nilck K rfl t, hpX [(28, _)] k1 fun _ _ K t => fa F103_0o K rfl o103_0o t, hpX [(29, _)] k1 fun _ _ K t => fa F37_4o K rfl o37_4o t, hpX [(30, _)] k1 fun _ h K t => ld1 2 (J103_0o.comp F37_4o) (hS q0 p0.p.Inodes n0) K h rfl rfl rfl t33 vX t, hpX [(5, _)] (fun s _ => ⟨s.2.2.2.1, ⟨⟩⟩) fun _ _ K t => fa F210_0 K rfl o210_0 t, hpX [(32, _)] k1 fun _ h K t => ld1 0 J210_0 (.int .i64 x_17.1.inode) K h rfl rfl rfl t3 vI t, ⟨⟩⟩ ?_
 intro a w G12 L e_12 h K hs hg
 replace K := K.sub (l' := [(31, _), (33, _), (0, _), (3, _), (4, _), (5, _)]) ⟨gE (hg 4 rfl rfl), gE (hg 6 rfl rfl), hs.1, hs.2.1, hs.2.2.1, hs.2.2.2.1, ⟨⟩⟩
 obtain ⟨g_41, hm⟩ := gs hm
 refine ixo K rfl rfl g_41 s33 t84 fun a K => fa F84_0 K rfl o84_0 fun a K => ld1 3 J84_0 (.int .i64 ((gt p0.p.Inodes x_17.1.inode).Kind)) K h rfl rfl (gt_some g_41) t51 vI fun a K => binC _ K rfl rfl rfl fun a K => asg K rfl fun a K => wn <| ifm hm K rfl (fun _ hm => ?_) fun _ hm => ?_
 · refine ws <| wl ?_
   obtain ⟨x_43, hx_43, hm⟩ := bs hm
   refine clp K h rfl b89 (fun h => c89 hx_43 h) fun a w v_45 G13 K e_13 h hR_44 => sto 1 Ik58 ([x_43]) K h rfl rfl rfl rfl hR_44 t58 rfl rfl fun w h => wn <| wt ?_
   obtain ⟨v_46, q_47, rb_48⟩ := resOwn (P := prog) (i := 0) (p := 4) 1 Ik58 h rfl (K.lk_eq 4 rfl) rfl t58
   obtain rfl := oi hm
   exact fr f174 K (St.sel [2, 3, 4, 5] rfl h) rfl ⟨rb_48, ⟨⟩⟩ ⟨rfl, q_47⟩
 refine sl <| mv K rfl fun a K => ldr K h rfl (Kd.val_mono (Gh.trans e_3 e_12) q_2) t45 fun a v_49 K q_50 => fa F210_0 K rfl o210_0 fun a K => ld1 0 J210_0 (.int .i64 x_17.1.inode) K h rfl rfl rfl t3 vI fun a K => ?_
 obtain ⟨x_51, hx_51, hm⟩ := bs hm
 refine clr (Δ₁ := (o3 B0 q0 q1 q2 n0 n1 n2 p0)) (Δ₂ := _) [5, 5, 5, 5] K h rfl rfl b155 (fun h => c155 hx_51 q_50 h) fun a w v G14 K e_14 h hR_52 => ?_
 obtain rfl := hR_52
 refine notB _ K rfl rfl fun a K => asg K rfl fun a K => wn <| ifm hm K rfl (fun _ hm => ?_) fun _ hm => ?_
 · refine ws <| wl ?_
   obtain ⟨x_54, hx_54, hm⟩ := bs hm
   refine clp K h rfl b89 (fun h => c89 hx_54 h) fun a w v_56 G15 K e_15 h hR_55 => sto 1 Ik58 ([x_54]) K h rfl rfl rfl rfl hR_55 t58 rfl rfl fun w h => wn <| wt ?_
   obtain ⟨v_57, q_58, rb_59⟩ := resOwn (P := prog) (i := 0) (p := 4) 1 Ik58 h rfl (K.lk_eq 4 rfl) rfl t58
   obtain rfl := oi hm
   exact fr f174 K (St.sel [2, 3, 4, 5] rfl h) rfl ⟨rb_59, ⟨⟩⟩ ⟨rfl, q_58⟩
 refine wk <| ws ?_
 obtain ⟨g_84, hm⟩ := gs hm
 obtain ⟨x_109, hx_109, hm⟩ := bs hm
 refine wh 23 [fE _, fE _, fE _, fE _, (fT a22 p0.p.Salt), fE _, fE _, fE _, fE _, fE _, fE _, fE _, fE _, (fT (kSl k87) (gt p0.p.Dirs x_17.1.inode)), (fT (kRef kStr) p1.Other), fE _, (fT (kRef (kInt .i64)) p1.N), fE _, (fC (R240 x_109)), (fC (R240 x_109)), (fT (kSl kStr) x_109.1), (fE (.int .i64 x_109.2)), (fT (kSl kStr) x_109.1)] [(0, _), (3, _), (4, _), (5, _)] mx K h (so rfl) ⟨hpX [(0, _)] (fun s _ => ⟨s.1, ⟨⟩⟩) fun _ _ K t => mv K rfl t, hpX [(48, _)] k1 fun _ _ K t => nilck K rfl t, hpX [(49, _)] k1 fun _ _ K t => fa F103_0o K rfl o103_0o t, hpX [(50, _)] k1 fun _ _ K t => fa F37_2o K rfl o37_2o t, hpT [(51, _)] k1 fun _ h K t => ld 2 (J103_0o.comp F37_2o) K h rfl rfl rfl t22 t, hpX [(0, _)] (fun s _ => ⟨s.1, ⟨⟩⟩) fun _ _ K t => mv K rfl t, hpX [(53, _)] k1 fun _ _ K t => nilck K rfl t, hpX [(54, _)] k1 fun _ _ K t => fa F103_0o K rfl o103_0o t, hpX [(55, _)] k1 fun _ _ K t => fa F37_5o K rfl o37_5o t, hpX [(56, _)] k1 fun _ h K t => ld1 2 (J103_0o.comp F37_5o) (hS q1 p0.p.Dirs n1) K h rfl rfl rfl t34 vX t, hpX [(5, _)] (fun s _ => ⟨s.2.2.2.1, ⟨⟩⟩) fun _ _ K t => fa F210_0 K rfl o210_0 t, hpX [(58, _)] k1 fun _ h K t => ld1 0 J210_0 (.int .i64 x_17.1.inode) K h rfl rfl rfl t3 vI t, hpX [(57, _), (59, _)] k2 fun _ _ K t => ixo K rfl rfl g_84 s34 t85 t, hpT [(60, _)] k1 fun _ h K t => ld 4 (Fld.id (kSl k87)) K h rfl rfl (gt_some g_84) t85 t, hpT [(3, _)] (fun s _ => ⟨s.2.1, ⟨⟩⟩) fun e _ K t => far F45_4 K rfl (Kd.val_mono (Gh.trans e_3 (Gh.trans e_12 (Gh.trans e_14 e))) q_2) o45_4 t, hpQ (t := 62) (fun k => k.1) fun _ h K q t => ldr1 (.string p1.Other) K h rfl q t9 vS t, hpT [(3, _)] (fun s _ => ⟨s.2.1, ⟨⟩⟩) fun e _ K t => far F45_7 K rfl (Kd.val_mono (Gh.trans e_3 (Gh.trans e_12 (Gh.trans e_14 e))) q_2) o45_7 t, hpQ (t := 64) (fun k => k.1) fun _ h K q t => ldr1 (.int .i64 p1.N) K h rfl q t3 vI t, ?_, ?_, ?_, ?_, ?_, ⟨⟩⟩ ?_
 · intro a w G34 L X e_34 h K hs hk
   obtain ⟨v_99, _, l_100, -, q_101⟩ := hk.1
   obtain ⟨v_102, _, l_103, -, q_104⟩ := hk.2.1
   obtain ⟨v_105, _, l_106, -, rfl⟩ := hk.2.2.1
   obtain ⟨v_107, _, l_108, -, rfl⟩ := hk.2.2.2.1
   have hx : Sy.sub L [(52, v_99), (61, v_102), (63, .string p1.Other), (65, .int .i64 p1.N)] := ⟨l_100, l_103, l_106, l_108, ⟨⟩⟩
   replace K := K.addx _ hx
   refine clp K h rfl b240 (fun h => c240 hx_109 q_101 q_104 h) fun a w v G35 K e_35 h hR_110 => wn <| ⟨rfl, G35, [], e_35, h, _, K.dropx _ hx, ⟨rfl, hR_110⟩⟩
 · intro a w G36 L X e_36 h K hs hk
   obtain ⟨v_113, _, l_114, -, hR_115⟩ := hk.1
   obtain ⟨v_116, rfl, q_117⟩ := id hR_115
   have hx : Sy.sub L [(66, .tuple #[v_116, .int .i64 x_109.2])] := ⟨l_114, ⟨⟩⟩
   replace K := K.addx _ hx
   refine mv K rfl fun a K => wn <| ⟨rfl, G36, [], gr, h, _, K.dropx _ hx, ⟨rfl, hR_115⟩⟩
 · intro a w G37 L X e_37 h K hs hk
   obtain ⟨v_118, _, l_119, -, hR_120⟩ := hk.1
   obtain ⟨v_121, rfl, q_122⟩ := id hR_120
   have hx : Sy.sub L [(47, .tuple #[v_121, .int .i64 x_109.2])] := ⟨l_119, ⟨⟩⟩
   replace K := K.addx _ hx
   refine extr K rfl rfl fun a K => wn <| ⟨rfl, G37, [], gr, h, _, K.dropx _ hx, ⟨rfl, q_122⟩⟩
 · intro a w G38 L X e_38 h K hs hk
   obtain ⟨v_123, _, l_124, -, hR_125⟩ := hk.1
   obtain ⟨v_126, rfl, q_127⟩ := id hR_125
   have hx : Sy.sub L [(47, .tuple #[v_126, .int .i64 x_109.2])] := ⟨l_124, ⟨⟩⟩
   replace K := K.addx _ hx
   refine extr K rfl rfl fun a K => wn <| ⟨rfl, G38, [], gr, h, _, K.dropx _ hx, ⟨rfl, rfl⟩⟩
 · intro a w G39 L X e_39 h K hs hk
   obtain ⟨v_128, _, l_129, -, q_130⟩ := hk.1
   have hx : Sy.sub L [(67, v_128)] := ⟨l_129, ⟨⟩⟩
   replace K := K.addx _ hx
   refine asg K rfl fun a K => wn <| ⟨rfl, G39, [], gr, h, _, K.dropx _ hx, ⟨rfl, q_130⟩⟩
 intro a w G40 L e_40 h K hs hg
 obtain ⟨v_132, l_134, -, q_133⟩ := hg 22 rfl rfl
 replace K := K.sub (l' := [(68, _), (7, _), (4, _)]) ⟨gE (hg 21 rfl rfl), l_134, hs.2.2.1, ⟨⟩⟩
 refine asg K rfl fun a K => wn <| sl <| mv K rfl fun a K => mv K rfl fun a K => lenV K rfl q_133 rfl s50 fun a K => bld (⟨0, (x_109.1.length : Int), ([] : (List UInt8)), x_109.1, (⟨0, 0, 0, 0, 0, 0, 0, 0, (List.replicate 2 (0 : Nat))⟩ : T54), Z56⟩ : T58) K h rfl pl58 rfl z58 (.cons F58_3 rfl q_133 (.cons F58_1 rfl int_val .nil)) fun a v_135 K q_136 => sto 1 Ik58 ([(⟨0, (x_109.1.length : Int), ([] : (List UInt8)), x_109.1, (⟨0, 0, 0, 0, 0, 0, 0, 0, (List.replicate 2 (0 : Nat))⟩ : T54), Z56⟩ : T58)]) K h rfl rfl rfl rfl q_136 t58 rfl rfl fun w h => wn <| wt ?_
 obtain ⟨v_137, q_138, rb_139⟩ := resOwn (P := prog) (i := 0) (p := 4) 1 Ik58 h rfl (K.lk_eq 4 rfl) rfl t58
 obtain rfl := oi hm
 exact fr f174 K (St.sel [2, 3, 4, 5] rfl h) rfl ⟨rb_139, ⟨⟩⟩ ⟨rfl, q_138⟩
abbrev R241 (r : (List ByteArray)) (v : Value) (H : Gh) : Prop := (kSl kStr).val H v r
instance monR241 {r : (List ByteArray)} : MonR (R241 r) := ⟨fun _ _ _ e h => Kd.val_mono e h⟩
theorem c241 {p0 : (List T108)} {r : (List ByteArray)} (hm : m241 p0 = some r) {vp0 : Value} (hp0 : ((kSl k108).val G0 vp0 p0)) (h : St c G0 w []) : Calls prog 241 #[vp0] w (FO c [] (R241 r)) := by
 unfold m241 at hm
 refine enter (n := 19) func241 rfl rfl rfl fun a K => sl <| asg K rfl fun a K => nsl <| asg K rfl fun a K => wn <| ws <| sl <| mv K rfl fun a K => lenV K rfl hp0 rfl s81 fun a K => mv K rfl fun a K => wn <| wb ?_
 replace h := St.nil kStr 9 h
 obtain ⟨p_44, hp_44, hm⟩ := bs hm
 refine loop (S := (List ByteArray) × Int) (R := (List ByteArray)) (fun s_28 a w => ∃ (G4 : Gh) (bk_29 : Option Nat) (cp_30 : Nat), Gh.le G0 G4 ∧ St c G4 w [⟨kStr, s_28.1, cp_30, bk_29, 9⟩] ∧ Tm 19 a [(2, .slice none 0 0), (3, hdr bk_29 s_28.1.length cp_30), (6, vp0), (7, .int .i64 (p0.length : Int)), (8, .int .i64 s_28.2)]) (fun (p_44 : (List ByteArray)) e a w => e = .exit 0 ∧ ∃ (G6 : Gh) (bk_45 : Option Nat) (cp_46 : Nat), Gh.le G0 G6 ∧ St c G6 w [⟨kStr, p_44, cp_46, bk_45, 9⟩] ∧ Tm 19 a [(2, .slice none 0 0), (3, hdr bk_45 p_44.length cp_46)]) hp_44 ⟨G0, none, 0, gr, (St.sel [0] rfl h), (K.sub (so rfl))⟩ ?_ ?_
 · intro s_28 y_48 a w hm hI
   obtain ⟨G4, bk_29, cp_30, e_4, h, K⟩ := hI
   unfold m241_l_47 at hm
   refine sl <| binC _ K rfl rfl rfl fun a K => wn <| ws <| ifm hm K rfl (fun _ hm => ?_) fun _ hm => ?_
   · refine wk <| ws <| wb <| ws <| wl ?_
     obtain ⟨g_50, hm⟩ := gs hm
     refine ixs K rfl (Kd.val_mono e_4 hp0) rfl g_50 s81 t108 fun a v_51 K q_52 => ldr K h rfl q_52 t108 fun a v_53 K q_54 => alc K h z108 fun a w bk_55 K h => sto 0 Ik108 ([(gt p0 s_28.2)]) K h rfl rfl rfl rfl q_54 t108 rfl rfl fun w h => wn <| wl <| mv K rfl fun a K => fa F108_0 K rfl o108_0 fun a K => ld1 0 J108_0 (.string ((gt p0 s_28.2).Name)) K h rfl rfl rfl t9 vS fun a K => bldS (f := kStr) (by decide) [(gt p0 s_28.2).Name] K h rfl s50 t9 rfl z9 (.cons (Fld.idx kStr 0 (by decide)) rfl str_val .nil) fun a w bk_56 K h => ?_
     obtain ⟨G7, e_7, h, q_57⟩ := frz 0 h rfl
     obtain ⟨g_60, hm⟩ := gs hm
     refine app 1 K h rfl rfl rfl rfl q_57 rfl s50 s50 e9 g_60 fun a w bk_58 cp_59 K h => asg K rfl fun a K => wn <| wl <| binI _ K rfl rfl rfl fun a K => mv K rfl fun a K => wn ?_
     obtain rfl := oi hm
     exact ⟨rfl, ⟨G7, bk_58, cp_59, (Gh.trans e_4 e_7), (St.sel [1] rfl h), (K.sub (so rfl))⟩⟩
   refine wp_exit ?_
   obtain rfl := oi hm
   exact ⟨by simp, rfl, ⟨G4, bk_29, cp_30, e_4, (St.sel [0] rfl h), (K.sub (so rfl))⟩⟩
 intro e a w hD
 obtain ⟨rfl, ⟨G6, bk_45, cp_46, e_6, h, K⟩⟩ := hD
 refine sl <| mv K rfl fun a K => asg K rfl fun a K => wn <| wt ?_
 obtain ⟨G8, e_8, h, q_61⟩ := frz 0 h rfl
 obtain rfl := oi hm
 exact fr f241 K (St.sel [] rfl h) rfl ⟨rfl, ⟨⟩⟩ ⟨rfl, q_61⟩
abbrev R242 (r : (List UInt8) × Int) (v : Value) (H : Gh) : Prop := ∃ u0, v = .tuple #[u0, .int .i64 r.2] ∧ (kSl kByte).val H u0 r.1
instance monR242 {r : (List UInt8) × Int} : MonR (R242 r) := by
 constructor
 rintro G H v e ⟨u0, rfl, q0⟩
 exact ⟨u0, rfl, Kd.val_mono e q0⟩
theorem c242 {p0 : (List T108)} {p1 : ByteArray} {r : (List UInt8) × Int} (hm : m242 p0 p1 = some r) {vp0 : Value} (hp0 : ((kSl k108).val G0 vp0 p0)) (h : St c G0 w []) : Calls prog 242 #[vp0, .string p1] w (FO c [] (R242 r)) := by
 unfold m242 at hm
 refine enter (n := 28) func242 rfl rfl rfl fun a K => sl <| asg K rfl fun a K => asg K rfl fun a K => wn <| ws <| sl <| mv K rfl fun a K => ?_
 obtain ⟨x_1, hx_1, hm⟩ := bs hm
 refine clp K h rfl b135 (fun h => c135 hx_1 hp0 h) fun a w v G1 K e_1 h hR_2 => ?_
 obtain rfl := hR_2
 refine asg K rfl fun a K => nsl <| mv K rfl fun a K => binC _ K rfl rfl rfl fun a K => wn <| ifm hm K rfl (fun _ hm => ?_) fun _ hm => ?_
 · refine sl <| mv K rfl fun a K => asg K rfl fun a K => asg K rfl fun a K => wn <| wt ?_
   obtain rfl := oi hm
   exact fi f242 [_, _] K (St.sel [] rfl h) rfl ⟨rfl, rfl, ⟨⟩⟩ (.inl rfl) ⟨rfl, ⟨_, rfl, nil_sl⟩⟩
 refine wk <| sl <| mv K rfl fun a K => mv K rfl fun a K => ?_
 obtain ⟨x_4, hx_4, hm⟩ := bs hm
 refine clp K h rfl b234 (fun h => c234 hx_4 (Kd.val_mono e_1 hp0) h) fun a w v G2 K e_2 h hR_5 => ?_
 obtain rfl := hR_5
 refine mv K rfl fun a K => extr K rfl rfl fun a K => extr K rfl rfl fun a K => asg K rfl fun a K => asg K rfl fun a K => wn <| ws <| sl <| mv K rfl fun a K => notB _ K rfl rfl fun a K => wn <| ifm hm K rfl (fun _ hm => ?_) fun _ hm => ?_
 · refine sl <| asg K rfl fun a K => asg K rfl fun a K => wn <| wt ?_
   obtain rfl := oi hm
   exact fi f242 [_, _] K (St.sel [] rfl h) rfl ⟨rfl, rfl, ⟨⟩⟩ (.inl rfl) ⟨rfl, ⟨_, rfl, nil_sl⟩⟩
 refine wk <| sl <| mv K rfl fun a K => mv K rfl fun a K => ?_
 obtain ⟨g_7, hm⟩ := gs hm
 refine ixs K rfl (Kd.val_mono (Gh.trans e_1 e_2) hp0) rfl g_7 s81 t108 fun a v_8 K q_9 => far F108_1 K rfl q_9 o108_1 fun a v_10 K q_11 => ldr K h rfl q_11 t43 fun a v_12 K q_13 => ?_
 cases hm
abbrev R175 (r : T58) (v : Value) (H : Gh) : Prop := k58.val H v r
instance monR175 {r : T58} : MonR (R175 r) := ⟨fun _ _ _ e h => Kd.val_mono e h⟩
theorem c175 {p0 : T103} {p1 : T45} {B0 q0 q1 q2 n0 n1 n2 : Nat} {r : T58} (hm : m175 p0 p1 = some r) {vp1 : Value} (hp1 : (k45.val G0 vp1 p1)) (h : St c G0 w ((o3 B0 q0 q1 q2 n0 n1 n2 p0))) : Calls prog 175 #[(pA B0 Ik103o), vp1] w (FO c (o3 B0 q0 q1 q2 n0 n1 n2 p0) (R175 r)) := by
 unfold m175 at hm
 refine enter (n := 50) func175 rfl rfl rfl fun a K => sl <| boxr K h rfl hp1 fun a w v_1 G1 K e_1 h q_2 => alc K h z58 fun a w bk_3 K h => nsl <| mv K rfl fun a K => ldr K h rfl q_2 t45 fun a v_4 K q_5 => ?_
 obtain ⟨x_6, hx_6, hm⟩ := bs hm
 refine clr (Δ₁ := (o3 B0 q0 q1 q2 n0 n1 n2 p0)) (Δ₂ := _) [4, 4, 4, 4] K h rfl rfl b165 (fun h => c165 hx_6 q_5 h) fun a w v G2 K e_2 h hR_7 => ?_
 obtain rfl := hR_7
 refine mv K rfl fun a K => extr K rfl rfl fun a K => extr K rfl rfl fun a K => asg K rfl fun a K => asg K rfl fun a K => wn <| ws <| sl <| mv K rfl fun a K => binC _ K rfl rfl rfl fun a K => wn <| ifm hm K rfl (fun _ hm => ?_) fun _ hm => ?_
 · refine sl <| mv K rfl fun a K => ?_
   obtain ⟨x_9, hx_9, hm⟩ := bs hm
   refine clp K h rfl b89 (fun h => c89 hx_9 h) fun a w v_11 G3 K e_3 h hR_10 => sto 0 Ik58 ([x_9]) K h rfl rfl rfl rfl hR_10 t58 rfl rfl fun w h => wn <| wt ?_
   obtain ⟨v_12, q_13, rb_14⟩ := resOwn (P := prog) (i := 0) (p := 4) 0 Ik58 h rfl (K.lk_eq 4 rfl) rfl t58
   obtain rfl := oi hm
   exact fr f175 K (St.sel [1, 2, 3, 4] rfl h) rfl ⟨rb_14, ⟨⟩⟩ ⟨rfl, q_13⟩
 refine wk <| sl <| mv K rfl fun a K => nilck K rfl fun a K => fa F103_0o K rfl o103_0o fun a K => fa F37_4o K rfl o37_4o fun a K => ld1 1 (J103_0o.comp F37_4o) (hS q0 p0.p.Inodes n0) K h rfl rfl rfl t33 vX fun a K => mv K rfl fun a K => ?_
 obtain ⟨g_15, hm⟩ := gs hm
 refine ixo K rfl rfl g_15 s33 t84 fun a K => fa F84_8 K rfl o84_8 fun a K => ld 2 J84_8 K h rfl rfl (gt_some g_15) t81 fun a v_16 K q_17 => asg K rfl fun a K => wn <| ws <| sl <| far F45_0 K rfl (Kd.val_mono e_2 q_2) o45_0 fun a v_18 K q_19 => ldr1 (.int .i64 p1.Kind) K h rfl q_19 t30 vI fun a K => binC _ K rfl rfl rfl fun a K => wn <| ifm hm K rfl (fun _ hm => ?_) fun _ hm => ?_
 · refine sl <| mv K rfl fun a K => ?_
   obtain ⟨x_21, hx_21, hm⟩ := bs hm
   refine clp K h rfl b241 (fun h => c241 hx_21 q_17 h) fun a w v_23 G4 K e_4 h hR_22 => mv K rfl fun a K => lenV K rfl (Kd.val_mono e_4 q_17) rfl s81 fun a K => bld (⟨0, (((gt p0.p.Inodes x_6.1).Xattrs).length : Int), ([] : (List UInt8)), x_21, (⟨0, 0, 0, 0, 0, 0, 0, 0, (List.replicate 2 (0 : Nat))⟩ : T54), Z56⟩ : T58) K h rfl pl58 rfl z58 (.cons F58_3 rfl hR_22 (.cons F58_1 rfl int_val .nil)) fun a v_24 K q_25 => sto 0 Ik58 ([(⟨0, (((gt p0.p.Inodes x_6.1).Xattrs).length : Int), ([] : (List UInt8)), x_21, (⟨0, 0, 0, 0, 0, 0, 0, 0, (List.replicate 2 (0 : Nat))⟩ : T54), Z56⟩ : T58)]) K h rfl rfl rfl rfl q_25 t58 rfl rfl fun w h => wn <| wt ?_
   obtain ⟨v_26, q_27, rb_28⟩ := resOwn (P := prog) (i := 0) (p := 4) 0 Ik58 h rfl (K.lk_eq 4 rfl) rfl t58
   obtain rfl := oi hm
   exact fr f175 K (St.sel [1, 2, 3, 4] rfl h) rfl ⟨rb_28, ⟨⟩⟩ ⟨rfl, q_27⟩
 refine wk <| sl <| mv K rfl fun a K => far F45_4 K rfl (Kd.val_mono e_2 q_2) o45_4 fun a v_29 K q_30 => ldr1 (.string p1.Other) K h rfl q_30 t9 vS fun a K => ?_
 obtain ⟨x_31, hx_31, hm⟩ := bs hm
 refine clp K h rfl b242 (fun h => c242 hx_31 q_17 h) fun a w v G5 K e_5 h hR_32 => ?_
 obtain ⟨v_33, rfl, q_34⟩ := hR_32
 refine mv K rfl fun a K => extr K rfl rfl fun a K => extr K rfl rfl fun a K => asg K rfl fun a K => asg K rfl fun a K => wn <| ws <| sl <| mv K rfl fun a K => binC _ K rfl rfl rfl fun a K => wn <| ifm hm K rfl (fun _ hm => ?_) fun _ hm => ?_
 · refine ws <| wl ?_
   obtain ⟨x_36, hx_36, hm⟩ := bs hm
   refine clp K h rfl b89 (fun h => c89 hx_36 h) fun a w v_38 G6 K e_6 h hR_37 => sto 0 Ik58 ([x_36]) K h rfl rfl rfl rfl hR_37 t58 rfl rfl fun w h => wn <| wt ?_
   obtain ⟨v_39, q_40, rb_41⟩ := resOwn (P := prog) (i := 0) (p := 4) 0 Ik58 h rfl (K.lk_eq 4 rfl) rfl t58
   obtain rfl := oi hm
   exact fr f175 K (St.sel [1, 2, 3, 4] rfl h) rfl ⟨rb_41, ⟨⟩⟩ ⟨rfl, q_40⟩
 refine wk <| sl <| mv K rfl fun a K => mv K rfl fun a K => lenV K rfl q_34 rfl s43 fun a K => bld (⟨0, (x_31.1.length : Int), x_31.1, ([] : (List ByteArray)), (⟨0, 0, 0, 0, 0, 0, 0, 0, (List.replicate 2 (0 : Nat))⟩ : T54), Z56⟩ : T58) K h rfl pl58 rfl z58 (.cons F58_2 rfl q_34 (.cons F58_1 rfl int_val .nil)) fun a v_42 K q_43 => sto 0 Ik58 ([(⟨0, (x_31.1.length : Int), x_31.1, ([] : (List ByteArray)), (⟨0, 0, 0, 0, 0, 0, 0, 0, (List.replicate 2 (0 : Nat))⟩ : T54), Z56⟩ : T58)]) K h rfl rfl rfl rfl q_43 t58 rfl rfl fun w h => wn <| wt ?_
 obtain ⟨v_44, q_45, rb_46⟩ := resOwn (P := prog) (i := 0) (p := 4) 0 Ik58 h rfl (K.lk_eq 4 rfl) rfl t58
 obtain rfl := oi hm
 exact fr f175 K (St.sel [1, 2, 3, 4] rfl h) rfl ⟨rb_46, ⟨⟩⟩ ⟨rfl, q_45⟩
abbrev R176 (r : T58) (v : Value) (H : Gh) : Prop := k58.val H v r
instance monR176 {r : T58} : MonR (R176 r) := ⟨fun _ _ _ e h => Kd.val_mono e h⟩
theorem c176 {p0 : T103} {B0 q0 q1 q2 n0 n1 n2 : Nat} {r : T58} (hm : m176 p0 = some r) (h : St c G0 w ((o3 B0 q0 q1 q2 n0 n1 n2 p0))) : Calls prog 176 #[(pA B0 Ik103o)] w (FO c (o3 B0 q0 q1 q2 n0 n1 n2 p0) (R176 r)) := by
 unfold m176 at hm
 refine enter (n := 34) func176 rfl rfl rfl fun a K => sl <| alc K h z58 fun a w bk_1 K h => nsl <| asg K rfl fun a K => wn <| ws <| sl <| mv K rfl fun a K => nilck K rfl fun a K => fa F103_0o K rfl o103_0o fun a K => fa F37_4o K rfl o37_4o fun a K => ld1 1 (J103_0o.comp F37_4o) (hS q0 p0.p.Inodes n0) K h rfl rfl rfl t33 vX fun a K => ?_
 obtain ⟨g_2, hm⟩ := gs hm
 refine slX k84 1 (p0.p.Inodes.length : Int) K rfl s33 t84 (.inr ⟨_, _, rfl, rfl⟩) (.inl ⟨rfl, rfl⟩) (sl2_cap 2 h rfl g_2) fun a K => lenO K rfl rfl s33 fun a K => mv K rfl fun a K => wn <| wb ?_
 obtain ⟨p_27, hp_27, hm⟩ := bs hm
 refine loop (S := Int × Int) (R := Int) (fun s_18 a w => Jn c G0 (⟨k58, [Z58], 1, (some bk_1), 58⟩ :: o3 B0 q0 q1 q2 n0 n1 n2 p0) 34 [(0, (pA B0 Ik103o)), (2, (pA bk_1 Ik58)), (3, .int .i64 s_18.1), (11, (subV k84 (some q0) n0 (((1 : Int)).toNat) (((p0.p.Inodes.length : Int)).toNat - ((1 : Int)).toNat))), (12, .int .i64 (((((p0.p.Inodes.length : Int)).toNat - ((1 : Int)).toNat) : Nat) : Int)), (13, .int .i64 s_18.2)] a w) (fun (p_27 : Int) e a w => e = .exit 0 ∧ Jn c G0 (⟨k58, [Z58], 1, (some bk_1), 58⟩ :: o3 B0 q0 q1 q2 n0 n1 n2 p0) 34 [(0, (pA B0 Ik103o)), (2, (pA bk_1 Ik58)), (3, .int .i64 p_27)] a w) hp_27 ⟨G0, gr, (St.sel [0, 1, 2, 3, 4] rfl h), (K.sub (so rfl))⟩ ?_ ?_
 · intro s_18 y_29 a w hm hI
   obtain ⟨G2, e_2, h, K⟩ := hI
   unfold m176_l_28 at hm
   refine sl <| binC _ K rfl rfl rfl fun a K => wn <| ws <| ifm hm K rfl (fun _ hm => ?_) fun _ hm => ?_
   · refine wk <| ws <| wb <| ws <| wl ?_
     obtain ⟨g_31, hm⟩ := gs hm
     have gx_32 := inr_sub g_2 g_31
     refine ixsub 2 K h rfl rfl rfl g_2 g_31 s33 t84 fun a K => ld 2 Ik84 K h rfl rfl (gt_some gx_32) t84 fun a v_33 K q_34 => alc K h z84 fun a w bk_35 K h => sto 0 Ik84 ([(gt p0.p.Inodes ((((1 : Int)).toNat + (s_18.2).toNat : Nat) : Int))]) K h rfl rfl rfl rfl q_34 t84 rfl rfl fun w h => nsl <| fa F84_0 K rfl o84_0 fun a K => ld1 0 J84_0 (.int .i64 ((gt p0.p.Inodes ((((1 : Int)).toNat + (s_18.2).toNat : Nat) : Int)).Kind)) K h rfl rfl rfl t51 vI fun a K => binC _ K rfl rfl rfl fun a K => wn <| ifm hm K rfl (fun _ hm => ?_) fun _ hm => ?_
     · refine wl <| mv K rfl fun a K => binI _ K rfl rfl rfl fun a K => asg K rfl fun a K => wn <| wl <| binI _ K rfl rfl rfl fun a K => mv K rfl fun a K => wn ?_
       obtain rfl := oi hm
       exact ⟨rfl, ⟨G2, e_2, (St.sel [1, 2, 3, 4, 5] rfl h), (K.sub (so rfl))⟩⟩
     refine wk <| wl <| binI _ K rfl rfl rfl fun a K => mv K rfl fun a K => wn ?_
     obtain rfl := oi hm
     exact ⟨rfl, ⟨G2, e_2, (St.sel [1, 2, 3, 4, 5] rfl h), (K.sub (so rfl))⟩⟩
   refine wp_exit ?_
   obtain rfl := oi hm
   exact ⟨by simp, rfl, ⟨G2, e_2, (St.sel [0, 1, 2, 3, 4] rfl h), (K.sub (so rfl))⟩⟩
 intro e a w hD
 obtain ⟨rfl, ⟨G3, e_3, h, K⟩⟩ := hD
 refine ws ?_
 obtain ⟨x_39, hx_39, hm⟩ := bs hm
 obtain ⟨x_48, hx_48, hm⟩ := bs hm
 refine wh 10 [fE _, (fT (kSl kBool) x_39), (fE (.int .i64 x_48)), fE _, fE _, fE _, fE _, fE _, fE _, (fT k54 (⟨p_27, 0, 0, 0, 0, 0, 0, p0.p.Homes, (List.replicate 2 (0 : Nat))⟩ : T54))] [(0, _), (2, _), (3, _)] mx K h (so rfl) ⟨hpX [(0, _)] (fun s _ => ⟨s.1, ⟨⟩⟩) fun _ _ K t => mv K rfl t, ?_, ?_, hpX [(0, _)] (fun s _ => ⟨s.1, ⟨⟩⟩) fun _ _ K t => mv K rfl t, hpX [(26, _)] k1 fun _ _ K t => nilck K rfl t, hpX [(27, _)] k1 fun _ _ K t => fa F103_0o K rfl o103_0o t, hpX [(28, _)] k1 fun _ _ K t => fa F37_0o K rfl o37_0o t, hpX [(29, _)] k1 fun _ h K t => ld1 1 (J103_0o.comp F37_0o) (.int .i64 p0.p.Homes) K h rfl rfl rfl t3 vI t, hpX [(3, _)] (fun s _ => ⟨s.2.2.1, ⟨⟩⟩) fun _ _ K t => mv K rfl t, ?_, ⟨⟩⟩ ?_
 · intro a w G5 L X e_5 h K hs hk
   obtain ⟨v_37, _, l_38, -, rfl⟩ := hk.1
   have hx : Sy.sub L [(23, (pA B0 Ik103o))] := ⟨l_38, ⟨⟩⟩
   replace K := K.addx _ hx
   refine clg (Δ₁ := (o3 B0 q0 q1 q2 n0 n1 n2 p0)) (Δ₂ := _) [4, 4, 4, 4] K h rfl rfl b244 (fun h => c244 hx_39 h) fun a w v_41 G6 Δx K e_6 h hR_40 => ?_
   obtain ⟨bk_42, cp_43, rfl, rfl⟩ := hR_40
   obtain ⟨G7, e_7, h, q_44⟩ := frz 0 h rfl
   refine wn <| ⟨rfl, G7, [], (Gh.trans e_6 e_7), h, _, K.dropx _ hx, ⟨rfl, q_44⟩⟩
 · intro a w G8 L X e_8 h K hs hk
   obtain ⟨v_45, _, l_46, -, q_47⟩ := hk.1
   have hx : Sy.sub L [(24, v_45)] := ⟨l_46, ⟨⟩⟩
   replace K := K.addx _ hx
   refine clp K h rfl b243 (fun h => c243 hx_48 q_47 h) fun a w v G9 K e_9 h hR_49 => ?_
   obtain rfl := hR_49
   refine wn <| ⟨rfl, G9, [], e_9, h, _, K.dropx _ hx, ⟨rfl, rfl⟩⟩
 · exact hpT [(30, _), (31, _)] k2 fun _ h K t => bld (⟨p_27, 0, 0, 0, 0, 0, 0, p0.p.Homes, (List.replicate 2 (0 : Nat))⟩ : T54) K h rfl pl54 rfl z54 (.cons F54_7 rfl int_val (.cons F54_0 rfl int_val .nil)) t
 intro a w G17 L e_17 h K hs hg
 obtain ⟨v_65, l_67, -, q_66⟩ := hg 9 rfl rfl
 replace K := K.sub (l' := [(25, _), (32, _), (2, _)]) ⟨gE (hg 2 rfl rfl), l_67, hs.2.1, ⟨⟩⟩
 refine bld (⟨0, x_48, ([] : (List UInt8)), ([] : (List ByteArray)), (⟨p_27, 0, 0, 0, 0, 0, 0, p0.p.Homes, (List.replicate 2 (0 : Nat))⟩ : T54), Z56⟩ : T58) K h rfl pl58 rfl z58 (.cons F58_1 rfl int_val (.cons F58_4 rfl q_66 .nil)) fun a v_68 K q_69 => sto 0 Ik58 ([(⟨0, x_48, ([] : (List UInt8)), ([] : (List ByteArray)), (⟨p_27, 0, 0, 0, 0, 0, 0, p0.p.Homes, (List.replicate 2 (0 : Nat))⟩ : T54), Z56⟩ : T58)]) K h rfl rfl rfl rfl q_69 t58 rfl rfl fun w h => wn <| wt ?_
 obtain ⟨v_70, q_71, rb_72⟩ := resOwn (P := prog) (i := 0) (p := 2) 0 Ik58 h rfl (K.lk_eq 2 rfl) rfl t58
 obtain rfl := oi hm
 exact fr f176 K (St.sel [1, 2, 3, 4] rfl h) rfl ⟨rb_72, ⟨⟩⟩ ⟨rfl, q_71⟩
abbrev R177 (r : T58) (v : Value) (H : Gh) : Prop := k58.val H v r
instance monR177 {r : T58} : MonR (R177 r) := ⟨fun _ _ _ e h => Kd.val_mono e h⟩
theorem c177 {p0 : T103} {p1 : T45} {B0 q0 q1 q2 n0 n1 n2 : Nat} {r : T58} (hm : m177 p0 p1 = some r) {vp1 : Value} (hp1 : (k45.val G0 vp1 p1)) (h : St c G0 w ((o3 B0 q0 q1 q2 n0 n1 n2 p0))) : Calls prog 177 #[(pA B0 Ik103o), vp1] w (FO c (o3 B0 q0 q1 q2 n0 n1 n2 p0) (R177 r)) := by
 unfold m177 at hm
 refine enter (n := 48) func177 rfl rfl rfl fun a K => sl <| boxr K h rfl hp1 fun a w v_1 G1 K e_1 h q_2 => alc K h z58 fun a w bk_3 K h => nsl <| asg K rfl fun a K => wn <| joinS (S := Int) (fun s_15 a w => Jn c G1 (⟨k58, [Z58], 1, (some bk_3), 58⟩ :: o3 B0 q0 q1 q2 n0 n1 n2 p0) 48 [(0, (pA B0 Ik103o)), (3, v_1), (4, (pA bk_3 Ik58)), (5, .int .i64 s_15)] a w) (fun s_15 => m177_j_27 p0 p1 s_15 = some r) (fun s_15 hm a w hJ => ?_) (fun kk_28 => ?_)
 · obtain ⟨G3, e_3, h, K⟩ := hJ
   unfold m177_j_27 at hm
   refine sl <| mv K rfl fun a K => ldr K h rfl (Kd.val_mono e_3 q_2) t45 fun a v_16 K q_17 => mv K rfl fun a K => ?_
   obtain ⟨x_18, hx_18, hm⟩ := bs hm
   refine clr (Δ₁ := (o3 B0 q0 q1 q2 n0 n1 n2 p0)) (Δ₂ := _) [4, 4, 4, 4] K h rfl rfl b163 (fun h => c163 hx_18 q_17 h) fun a w v G4 K e_4 h hR_19 => ?_
   obtain rfl := hR_19
   refine mv K rfl fun a K => extr K rfl rfl fun a K => extr K rfl rfl fun a K => asg K rfl fun a K => asg K rfl fun a K => wn <| ws <| sl <| mv K rfl fun a K => binC _ K rfl rfl rfl fun a K => wn <| ifm hm K rfl (fun _ hm => ?_) fun _ hm => ?_
   · refine sl <| mv K rfl fun a K => ?_
     obtain ⟨x_21, hx_21, hm⟩ := bs hm
     refine clp K h rfl b89 (fun h => c89 hx_21 h) fun a w v_23 G5 K e_5 h hR_22 => sto 0 Ik58 ([x_21]) K h rfl rfl rfl rfl hR_22 t58 rfl rfl fun w h => wn <| wt ?_
     obtain ⟨v_24, q_25, rb_26⟩ := resOwn (P := prog) (i := 0) (p := 4) 0 Ik58 h rfl (K.lk_eq 4 rfl) rfl t58
     obtain rfl := oi hm
     exact fr f177 K (St.sel [1, 2, 3, 4] rfl h) rfl ⟨rb_26, ⟨⟩⟩ ⟨rfl, q_25⟩
   refine wk <| sl <| mv K rfl fun a K => nilck K rfl fun a K => fa F103_1o K rfl o103_1o fun a K => slAo J103_1o K rfl r101 t100 fun a K => ?_
   cases hm
 refine sl <| far F45_8 K rfl q_2 o45_8 fun a v_29 K q_30 => ldr1 (.int .i64 p1.Mode) K h rfl q_30 t3 vI fun a K => wn <| wb <| sl <| binC _ K rfl rfl rfl fun a K => asg K rfl fun a K => wn <| ifm hm K rfl (fun _ hm => ?_) fun _ hm => ?_
 · refine wl <| asg K rfl fun a K => wn <| kk_28 4 hm _ _ ⟨G1, gr, (St.sel [0, 1, 2, 3, 4] rfl h), (K.sub (so rfl))⟩
 refine sl <| binC _ K rfl rfl rfl fun a K => asg K rfl fun a K => wn <| ifm hm K rfl (fun _ hm => ?_) fun _ hm => ?_
 · refine wl <| asg K rfl fun a K => wn <| kk_28 2 hm _ _ ⟨G1, gr, (St.sel [0, 1, 2, 3, 4] rfl h), (K.sub (so rfl))⟩
 refine sl <| binC _ K rfl rfl rfl fun a K => asg K rfl fun a K => wn <| ifm hm K rfl (fun _ hm => ?_) fun _ hm => ?_
 · refine wl <| asg K rfl fun a K => wn <| kk_28 6 hm _ _ ⟨G1, gr, (St.sel [0, 1, 2, 3, 4] rfl h), (K.sub (so rfl))⟩
 refine ws <| wl ?_
 obtain ⟨x_34, hx_34, hm⟩ := bs hm
 refine clp K h rfl b89 (fun h => c89 hx_34 h) fun a w v_36 G6 K e_6 h hR_35 => sto 0 Ik58 ([x_34]) K h rfl rfl rfl rfl hR_35 t58 rfl rfl fun w h => wn <| wt ?_
 obtain ⟨v_37, q_38, rb_39⟩ := resOwn (P := prog) (i := 0) (p := 4) 0 Ik58 h rfl (K.lk_eq 4 rfl) rfl t58
 obtain rfl := oi hm
 exact fr f177 K (St.sel [1, 2, 3, 4] rfl h) rfl ⟨rb_39, ⟨⟩⟩ ⟨rfl, q_38⟩
abbrev R178 (r : T58) (v : Value) (H : Gh) : Prop := k58.val H v r
instance monR178 {r : T58} : MonR (R178 r) := ⟨fun _ _ _ e h => Kd.val_mono e h⟩
theorem c178 {p0 : T103} {p1 : T45} {B0 q0 q1 q2 n0 n1 n2 : Nat} {r : T58} (hm : m178 p0 p1 = some r) {vp1 : Value} (hp1 : (k45.val G0 vp1 p1)) (h : St c G0 w ((o3 B0 q0 q1 q2 n0 n1 n2 p0))) : Calls prog 178 #[(pA B0 Ik103o), vp1] w (FO c (o3 B0 q0 q1 q2 n0 n1 n2 p0) (R178 r)) := by
 unfold m178 at hm
 refine enter (n := 93) func178 rfl rfl rfl fun a K => sl <| boxr K h rfl hp1 fun a w v_1 G1 K e_1 h q_2 => alc K h z58 fun a w bk_3 K h => nsl <| asg K rfl fun a K => wn <| joinS (S := Int) (fun s_7 a w => Jn c G1 (⟨k58, [Z58], 1, (some bk_3), 58⟩ :: o3 B0 q0 q1 q2 n0 n1 n2 p0) 93 [(0, (pA B0 Ik103o)), (3, v_1), (4, (pA bk_3 Ik58)), (5, .int .i64 s_7)] a w) (fun s_7 => m178_j_281 p0 p1 s_7 = some r) (fun s_7 hm a w hJ => ?_) (fun kk_282 => ?_)
 · obtain ⟨G2, e_2, h, K⟩ := hJ
   unfold m178_j_281 at hm
   refine ws <| wb <| ws ?_
   obtain ⟨x_96, hx_96, hm⟩ := bs hm
   obtain ⟨g_120, hm⟩ := gs hm
   obtain ⟨x_141, hx_141, hm⟩ := nm_some hm
   refine wh 18 [fE _, (fT (kRef (kInt .i64)) p1.Off), fE _, (fE (.bool x_96)), fE _, fE _, (fG (!(!x_96)) (fE (pA B0 Ik103o))), (fG (!(!x_96)) (fT (kRef (kInt .i64)) p1.Off)), (fG (!(!x_96)) (fE (.int .i64 p1.Off))), (fG (!(!x_96)) (fE (pA B0 Ik103o))), (fG (!(!x_96)) (fE (pA B0 J103_1o))), (fG (!(!x_96)) (fE (.pointer (some (adr B0 0 k103o.n (J103_1o.off + (p1.Off).toNat * k100.n)))))), (fG (!(!x_96)) (fE (.pointer (some (adr B0 0 k103o.n ((J103_1o.off + (p1.Off).toNat * k100.n) + F100_3.off)))))), (fG (!(!x_96)) (fE (.int .i64 ((gt p0.fds p1.Off).mode)))), (fG (!(!x_96)) (fE (.int .i64 s_7))), (fG (!(!x_96)) (fE (.int .i64 (wr (((BitVec.ofInt IntKind.i64.bits (gt p0.fds p1.Off).mode &&& BitVec.ofInt IntKind.i64.bits s_7).toNat : Int)))))), (fG (!(!x_96)) (fE (.bool ((wr (((BitVec.ofInt IntKind.i64.bits (gt p0.fds p1.Off).mode &&& BitVec.ofInt IntKind.i64.bits s_7).toNat : Int))) == 0)))), (fE (.bool x_141))] [(0, _), (3, _), (4, _), (5, _)] mx K h (so rfl) ⟨hpX [(0, _)] (fun s _ => ⟨s.1, ⟨⟩⟩) fun _ _ K t => mv K rfl t, hpT [(3, _)] (fun s _ => ⟨s.2.1, ⟨⟩⟩) fun e _ K t => far F45_6 K rfl (Kd.val_mono (Gh.trans e_2 e) q_2) o45_6 t, hpQ (t := 13) (fun k => k.1) fun _ h K q t => ldr1 (.int .i64 p1.Off) K h rfl q t3 vI t, ?_, hpX [(15, _)] k1 fun _ _ K t => notB _ K rfl rfl t, hpX [(16, _)] k1 fun _ _ K t => mv K rfl t, Hp.gd 0 rfl rfl rfl rfl rfl rfl gE_f rfl (fun hc => hpX [(0, _)] (fun s _ => ⟨s.1, ⟨⟩⟩) fun _ _ K t => mv K rfl t) nilE, Hp.gd 0 rfl rfl rfl rfl rfl rfl gE_f rfl (fun hc => hpT [(3, _)] (fun s _ => ⟨s.2.1, ⟨⟩⟩) fun e _ K t => far F45_6 K rfl (Kd.val_mono (Gh.trans e_2 e) q_2) o45_6 t) nilT, ?_, ?_, ?_, ?_, ?_, ?_, Hp.gd 0 rfl rfl rfl rfl rfl rfl gE_f rfl (fun hc => hpX [(5, _)] (fun s _ => ⟨s.2.2.2.1, ⟨⟩⟩) fun _ _ K t => mv K rfl t) nilE, ?_, ?_, ?_, ⟨⟩⟩ ?_
   · intro a w G29 L X e_29 h K hs hk
     obtain ⟨v_92, _, l_93, -, rfl⟩ := hk.1
     obtain ⟨v_94, _, l_95, -, rfl⟩ := hk.2.1
     have hx : Sy.sub L [(12, (pA B0 Ik103o)), (14, .int .i64 p1.Off)] := ⟨l_93, l_95, ⟨⟩⟩
     replace K := K.addx _ hx
     refine clr (Δ₁ := (o3 B0 q0 q1 q2 n0 n1 n2 p0)) (Δ₂ := _) [4, 4, 4, 4] K h rfl rfl b170 (fun h => c170 hx_96 h) fun a w v G30 K e_30 h hR_97 => ?_
     obtain rfl := hR_97
     refine wn <| ⟨rfl, G30, [], e_30, h, _, K.dropx _ hx, ⟨rfl, rfl⟩⟩
   · refine Hp.gd 1 rfl rfl rfl rfl rfl rfl gE_f rfl (fun hc => ?_) nilE
     intro a w G35 L X e_35 h K hs hk
     obtain ⟨v_104, _, l_105, -, f_106, -⟩ := hk.1
     obtain ⟨-, q_107⟩ := f_106 hc
     have hx : Sy.sub L [(19, v_104)] := ⟨l_105, ⟨⟩⟩
     replace K := K.addx _ hx
     refine ldr1 (.int .i64 p1.Off) K h rfl q_107 t3 vI fun a K => wn <| ⟨rfl, G35, [], gr, h, _, K.dropx _ hx, ⟨rfl, rfl⟩⟩
   · refine Hp.gd 1 rfl rfl rfl rfl rfl rfl gE_f rfl (fun hc => ?_) nilE
     intro a w G36 L X e_36 h K hs hk
     obtain ⟨v_108, _, l_109, -, f_110, -⟩ := hk.1
     obtain ⟨-, rfl⟩ := f_110 hc
     have hx : Sy.sub L [(18, (pA B0 Ik103o))] := ⟨l_109, ⟨⟩⟩
     replace K := K.addx _ hx
     refine nilck K rfl fun a K => wn <| ⟨rfl, G36, [], gr, h, _, K.dropx _ hx, ⟨rfl, rfl⟩⟩
   · refine Hp.gd 1 rfl rfl rfl rfl rfl rfl gE_f rfl (fun hc => ?_) nilE
     intro a w G37 L X e_37 h K hs hk
     obtain ⟨v_111, _, l_112, -, f_113, -⟩ := hk.1
     obtain ⟨-, rfl⟩ := f_113 hc
     have hx : Sy.sub L [(21, (pA B0 Ik103o))] := ⟨l_112, ⟨⟩⟩
     replace K := K.addx _ hx
     refine fa F103_1o K rfl o103_1o fun a K => wn <| ⟨rfl, G37, [], gr, h, _, K.dropx _ hx, ⟨rfl, rfl⟩⟩
   · refine Hp.gd 2 rfl rfl rfl rfl rfl rfl gE_f rfl (fun hc => ?_) nilE
     intro a w G38 L X e_38 h K hs hk
     obtain ⟨v_114, _, l_115, -, f_116, -⟩ := hk.2.1
     obtain ⟨-, rfl⟩ := f_116 hc
     obtain ⟨v_117, _, l_118, -, f_119, -⟩ := hk.1
     obtain ⟨-, rfl⟩ := f_119 hc
     have hx : Sy.sub L [(20, .int .i64 p1.Off), (22, (pA B0 J103_1o))] := ⟨l_115, l_118, ⟨⟩⟩
     replace K := K.addx _ hx
     refine ixa K rfl rfl (orr g_120 hc) r101 t100 fun a K => wn <| ⟨rfl, G38, [], gr, h, _, K.dropx _ hx, ⟨rfl, rfl⟩⟩
   · refine Hp.gd 1 rfl rfl rfl rfl rfl rfl gE_f rfl (fun hc => ?_) nilE
     intro a w G39 L X e_39 h K hs hk
     obtain ⟨v_121, _, l_122, -, f_123, -⟩ := hk.1
     obtain ⟨-, rfl⟩ := f_123 hc
     have hx : Sy.sub L [(23, .pointer (some (adr B0 0 k103o.n (J103_1o.off + (p1.Off).toNat * k100.n))))] := ⟨l_122, ⟨⟩⟩
     replace K := K.addx _ hx
     refine fa (F := J103_1o.comp (Fld.idx k100 (p1.Off).toNat (inr_lt (orr g_120 hc)))) (b := B0) (e := 0) F100_3 K rfl o100_3 fun a K => wn <| ⟨rfl, G39, [], gr, h, _, K.dropx _ hx, ⟨rfl, rfl⟩⟩
   · refine Hp.gd 1 rfl rfl rfl rfl rfl rfl gE_f rfl (fun hc => ?_) nilE
     intro a w G40 L X e_40 h K hs hk
     obtain ⟨v_124, _, l_125, -, f_126, -⟩ := hk.1
     obtain ⟨-, rfl⟩ := f_126 hc
     have hx : Sy.sub L [(24, .pointer (some (adr B0 0 k103o.n ((J103_1o.off + (p1.Off).toNat * k100.n) + F100_3.off))))] := ⟨l_125, ⟨⟩⟩
     replace K := K.addx _ hx
     refine ld1 1 ((J103_1o.comp (Fld.idx k100 (p1.Off).toNat (inr_lt (orr g_120 hc)))).comp F100_3) (.int .i64 ((gt p0.fds p1.Off).mode)) K h rfl rfl rfl t3 vI fun a K => wn <| ⟨rfl, G40, [], gr, h, _, K.dropx _ hx, ⟨rfl, rfl⟩⟩
   · refine Hp.gd 2 rfl rfl rfl rfl rfl rfl gE_f rfl (fun hc => ?_) nilE
     intro a w G42 L X e_42 h K hs hk
     obtain ⟨v_127, _, l_128, -, f_129, -⟩ := hk.1
     obtain ⟨-, rfl⟩ := f_129 hc
     obtain ⟨v_130, _, l_131, -, f_132, -⟩ := hk.2.1
     obtain ⟨-, rfl⟩ := f_132 hc
     have hx : Sy.sub L [(25, .int .i64 ((gt p0.fds p1.Off).mode)), (26, .int .i64 s_7)] := ⟨l_128, l_131, ⟨⟩⟩
     replace K := K.addx _ hx
     refine binI _ K rfl rfl rfl fun a K => wn <| ⟨rfl, G42, [], gr, h, _, K.dropx _ hx, ⟨rfl, rfl⟩⟩
   · refine Hp.gd 1 rfl rfl rfl rfl rfl rfl gE_f rfl (fun hc => ?_) nilE
     intro a w G43 L X e_43 h K hs hk
     obtain ⟨v_133, _, l_134, -, f_135, -⟩ := hk.1
     obtain ⟨-, rfl⟩ := f_135 hc
     have hx : Sy.sub L [(27, .int .i64 (wr (((BitVec.ofInt IntKind.i64.bits (gt p0.fds p1.Off).mode &&& BitVec.ofInt IntKind.i64.bits s_7).toNat : Int))))] := ⟨l_134, ⟨⟩⟩
     replace K := K.addx _ hx
     refine binC _ K rfl rfl rfl fun a K => wn <| ⟨rfl, G43, [], gr, h, _, K.dropx _ hx, ⟨rfl, rfl⟩⟩
   · intro a w G44 L X e_44 h K hs hk
     obtain ⟨v_136, _, l_137, -, rfl⟩ := hk.1
     obtain ⟨v_138, _, l_139, -, f_140, -⟩ := hk.2.1
     have hx : Sy.sub L [(17, .bool (!x_96)), (28, v_138)] := ⟨l_137, l_139, ⟨⟩⟩
     replace K := K.addx _ hx
     refine pickOr K rfl rfl rfl (fun hA => (f_140 (not_f hA)).2) fun a K => wn <| ⟨rfl, G44, [], gr, h, _, K.dropx _ hx, ⟨rfl, congrArg Value.bool hx_141.symm⟩⟩
   intro a w G45 L e_45 h K hs hg
   replace K := K.sub (l' := [(29, _), (0, _), (3, _), (4, _), (5, _)]) ⟨gE (hg 17 rfl rfl), hs.1, hs.2.1, hs.2.2.1, hs.2.2.2.1, ⟨⟩⟩
   refine asg K rfl fun a K => wn <| ifm hm K rfl (fun _ hm => ?_) fun _ hm => ?_
   · refine ws <| wl ?_
     obtain ⟨x_144, hx_144, hm⟩ := bs hm
     refine clp K h rfl b89 (fun h => c89 hx_144 h) fun a w v_146 G46 K e_46 h hR_145 => sto 0 Ik58 ([x_144]) K h rfl rfl rfl rfl hR_145 t58 rfl rfl fun w h => wn <| wt ?_
     obtain ⟨v_147, q_148, rb_149⟩ := resOwn (P := prog) (i := 0) (p := 4) 0 Ik58 h rfl (K.lk_eq 4 rfl) rfl t58
     obtain rfl := oi hm
     exact fr f178 K (St.sel [1, 2, 3, 4] rfl h) rfl ⟨rb_149, ⟨⟩⟩ ⟨rfl, q_148⟩
   refine joinS (S := Bool) (fun s_153 a w => Jn c G45 (⟨k58, [Z58], 1, (some bk_3), 58⟩ :: o3 B0 q0 q1 q2 n0 n1 n2 p0) 93 [(0, (pA B0 Ik103o)), (3, v_1), (4, (pA bk_3 Ik58)), (5, .int .i64 s_7), (31, .bool s_153)] a w) (fun s_153 => m178_j_276 p1 s_7 s_153 = some r) (fun s_153 hm a w hJ => ?_) (fun kk_277 => ?_)
   · obtain ⟨G47, e_47, h, K⟩ := hJ
     unfold m178_j_276 at hm
     refine ifm hm K rfl (fun _ hm => ?_) fun _ hm => ?_
     · refine ws <| wl ?_
       obtain ⟨x_155, hx_155, hm⟩ := bs hm
       refine clp K h rfl b89 (fun h => c89 hx_155 h) fun a w v_157 G48 K e_48 h hR_156 => sto 0 Ik58 ([x_155]) K h rfl rfl rfl rfl hR_156 t58 rfl rfl fun w h => wn <| wt ?_
       obtain ⟨v_158, q_159, rb_160⟩ := resOwn (P := prog) (i := 0) (p := 4) 0 Ik58 h rfl (K.lk_eq 4 rfl) rfl t58
       obtain rfl := oi hm
       exact fr f178 K (St.sel [1, 2, 3, 4] rfl h) rfl ⟨rb_160, ⟨⟩⟩ ⟨rfl, q_159⟩
     refine wk <| ws <| wh 5 [fE _, (fT (kRef (kInt .i64)) p1.Off), fE _, fE _, fE _] [(0, _), (3, _), (4, _), (5, _)] mx K h (so rfl) ⟨hpX [(0, _)] (fun s _ => ⟨s.1, ⟨⟩⟩) fun _ _ K t => mv K rfl t, hpT [(3, _)] (fun s _ => ⟨s.2.1, ⟨⟩⟩) fun e _ K t => far F45_6 K rfl (Kd.val_mono (Gh.trans e_2 (Gh.trans e_45 (Gh.trans e_47 e))) q_2) o45_6 t, hpQ (t := 41) (fun k => k.1) fun _ h K q t => ldr1 (.int .i64 p1.Off) K h rfl q t3 vI t, hpX [(40, _)] k1 fun _ _ K t => nilck K rfl t, hpX [(43, _)] k1 fun _ _ K t => fa F103_1o K rfl o103_1o t, ⟨⟩⟩ ?_
     intro a w G54 L e_54 h K hs hg
     replace K := K.sub (l' := [(42, _), (44, _), (0, _), (3, _), (4, _), (5, _)]) ⟨gE (hg 2 rfl rfl), gE (hg 4 rfl rfl), hs.1, hs.2.1, hs.2.2.1, hs.2.2.2.1, ⟨⟩⟩
     obtain ⟨g_172, hm⟩ := gs hm
     refine ixa K rfl rfl g_172 r101 t100 fun a K => asg K rfl fun a K => nsl <| bld Z58 K h rfl pl58 rfl z58 .nil fun a v_173 K q_174 => alc K h z58 fun a w bk_175 K h => sto 0 Ik58 ([Z58]) K h rfl rfl rfl rfl q_174 t58 rfl rfl fun w h => wn <| ws <| sl <| mv K rfl fun a K => binC _ K rfl rfl rfl fun a K => wn <| ifm hm K rfl (fun _ hm => ?_) fun _ hm => ?_
     · refine ws <| wh 11 [fE _, fE _, fE _, fE _, fE _, fE _, fE _, fE _, fE _, (fT (kRef (kInt .i64)) p1.N), fE _] [(0, _), (3, _), (4, _), (6, _), (7, _)] mx K h (so rfl) ⟨hpX [(0, _)] (fun s _ => ⟨s.1, ⟨⟩⟩) fun _ _ K t => mv K rfl t, hpX [(6, _)] (fun s _ => ⟨s.2.2.2.1, ⟨⟩⟩) fun _ _ K t => mv K rfl t, hpX [(50, _)] k1 fun _ _ K t => nilck K rfl t, hpX [(51, _)] k1 fun _ _ K t => fa F100_1 K rfl o100_1 t, hpX [(52, _)] k1 fun _ h K t => ld1 2 ((J103_1o.comp (Fld.idx k100 (p1.Off).toNat (inr_lt g_172))).comp F100_1) (.int .i64 ((gt p0.fds p1.Off).inode)) K h rfl rfl rfl t3 vI t, hpX [(6, _)] (fun s _ => ⟨s.2.2.2.1, ⟨⟩⟩) fun _ _ K t => mv K rfl t, hpX [(54, _)] k1 fun _ _ K t => nilck K rfl t, hpX [(55, _)] k1 fun _ _ K t => fa F100_2 K rfl o100_2 t, hpX [(56, _)] k1 fun _ h K t => ld1 2 ((J103_1o.comp (Fld.idx k100 (p1.Off).toNat (inr_lt g_172))).comp F100_2) (.int .i64 ((gt p0.fds p1.Off).at_)) K h rfl rfl rfl t3 vI t, hpT [(3, _)] (fun s _ => ⟨s.2.1, ⟨⟩⟩) fun e _ K t => far F45_7 K rfl (Kd.val_mono (Gh.trans e_2 (Gh.trans e_45 (Gh.trans e_47 (Gh.trans e_54 e)))) q_2) o45_7 t, hpQ (t := 58) (fun k => k.1) fun _ h K q t => ldr1 (.int .i64 p1.N) K h rfl q t3 vI t, ⟨⟩⟩ ?_
       intro a w G90 L e_90 h K hs hg
       replace K := K.sub (l' := [(49, _), (53, _), (57, _), (59, _), (4, _), (6, _), (7, _)]) ⟨gE (hg 0 rfl rfl), gE (hg 4 rfl rfl), gE (hg 8 rfl rfl), gE (hg 10 rfl rfl), hs.2.2.1, hs.2.2.2.1, hs.2.2.2.2.1, ⟨⟩⟩
       cases hm
     cases hm
   refine wl <| far F45_7 K rfl (Kd.val_mono (Gh.trans e_2 e_45) q_2) o45_7 fun a v_278 K q_279 => ldr1 (.int .i64 p1.N) K h rfl q_279 t3 vI fun a K => binC _ K rfl rfl rfl fun a K => mv K rfl fun a K => ?_
   rcases im hm with ⟨c_280, hm⟩ | ⟨c_280, hm⟩
   · refine g2 K c_280 <| mv K rfl fun a K => g2 K c_280 <| binC _ K rfl rfl rfl fun a K => pkT K rfl c_280 rfl fun a K => asg K rfl fun a K => wn <| kk_277 (s_7 == 1) hm _ _ ⟨G45, gr, (St.sel [0, 1, 2, 3, 4] rfl h), (K.sub (so rfl))⟩
   refine g1 K c_280 fun a K => g1 K c_280 fun a K => pkF K rfl c_280 rfl fun a K => asg K rfl fun a K => wn <| kk_277 false hm _ _ ⟨G45, gr, (St.sel [0, 1, 2, 3, 4] rfl h), (K.sub (so rfl))⟩
 refine sl <| far F45_0 K rfl q_2 o45_0 fun a v_283 K q_284 => ldr1 (.int .i64 p1.Kind) K h rfl q_284 t30 vI fun a K => binC _ K rfl rfl rfl fun a K => wn <| ifm hm K rfl (fun _ hm => ?_) fun _ hm => ?_
 · refine wl <| asg K rfl fun a K => wn <| kk_282 2 hm _ _ ⟨G1, gr, (St.sel [0, 1, 2, 3, 4] rfl h), (K.sub (so rfl))⟩
 refine wk <| kk_282 1 hm _ _ ⟨G1, gr, (St.sel [0, 1, 2, 3, 4] rfl h), (K.sub (so rfl))⟩
abbrev R104 (r : T103 × T58) (v : Value) (H : Gh) : Prop := k58.val H v r.2
instance monR104 {r : T103 × T58} : MonR (R104 r) := ⟨fun _ _ _ e h => Kd.val_mono e h⟩
theorem c104 {p0 : T103} {p1 : T45} {B0 q0 q1 q2 n0 n1 n2 : Nat} {r : T103 × T58} (hm : m104 p0 p1 = some r) {vp1 : Value} (hp1 : (k45.val G0 vp1 p1)) (h : St c G0 w ((o3 B0 q0 q1 q2 n0 n1 n2 p0))) : Calls prog 104 #[(pA B0 Ik103o), vp1] w (FO c (o3 B0 q0 q1 q2 n0 n1 n2 r.1) (R104 r)) := by
 unfold m104 at hm
 refine enter (n := 71) func104 rfl rfl rfl fun a K => sl <| boxr K h rfl hp1 fun a w v_1 G1 K e_1 h q_2 => alc K h z58 fun a w bk_3 K h => wn <| ws <| sl <| far F45_0 K rfl q_2 o45_0 fun a v_4 K q_5 => ldr1 (.int .i64 p1.Kind) K h rfl q_5 t30 vI fun a K => wn <| wb <| sl <| binC _ K rfl rfl rfl fun a K => asg K rfl fun a K => wn <| ifm hm K rfl (fun _ hm => ?_) fun _ hm => ?_
 · refine sl <| mv K rfl fun a K => ldr K h rfl q_2 t45 fun a v_7 K q_8 => ?_
   obtain ⟨x_9, hx_9, hm⟩ := bs hm
   refine clr (Δ₁ := (o3 B0 q0 q1 q2 n0 n1 n2 p0)) (Δ₂ := _) [4, 4, 4, 4] K h rfl rfl b171 (fun h => c171 hx_9 q_8 h) fun a w v_11 G2 K e_2 h hR_10 => sto 0 Ik58 ([x_9]) K h rfl rfl rfl rfl hR_10 t58 rfl rfl fun w h => wn <| wt ?_
   obtain ⟨v_12, q_13, rb_14⟩ := resOwn (P := prog) (i := 0) (p := 4) 0 Ik58 h rfl (K.lk_eq 4 rfl) rfl t58
   obtain rfl := oi hm
   exact fr f104 K (St.sel [1, 2, 3, 4] rfl h) rfl ⟨rb_14, ⟨⟩⟩ ⟨rfl, q_13⟩
 refine joinS (S := Bool) (fun s_16 a w => Jn c G1 (⟨k58, [Z58], 1, (some bk_3), 58⟩ :: o3 B0 q0 q1 q2 n0 n1 n2 p0) 71 [(0, (pA B0 Ik103o)), (3, v_1), (4, (pA bk_3 Ik58)), (6, .int .i64 p1.Kind), (12, .bool s_16)] a w) (fun s_16 => m104_j_170 p0 p1 s_16 = some r) (fun s_16 hm a w hJ => ?_) (fun kk_171 => ?_)
 · obtain ⟨G3, e_3, h, K⟩ := hJ
   unfold m104_j_170 at hm
   refine ifm hm K rfl (fun _ hm => ?_) fun _ hm => ?_
   · refine sl <| mv K rfl fun a K => ldr K h rfl (Kd.val_mono e_3 q_2) t45 fun a v_18 K q_19 => ?_
     obtain ⟨x_20, hx_20, hm⟩ := bs hm
     refine clw (Δ₁ := (o3 B0 q0 q1 q2 n0 n1 n2 p0)) (Δ₂ := _) [4, 4, 4, 4] K h rfl rfl b172 (fun h => c172 hx_20 q_19 h) fun a w v_22 G4 Δx K e_4 h hR_21 => ?_
     obtain ⟨rfl, hR_21⟩ := hR_21
     replace h := St.cast (Δ' := (o3 B0 q0 q1 q2 n0 n1 n2 x_20.1 ++ [⟨k58, [Z58], 1, (some bk_3), 58⟩])) h rfl
     refine sto 4 Ik58 ([x_20.2]) K h rfl rfl rfl rfl hR_21 t58 rfl rfl fun w h => wn <| wt ?_
     obtain ⟨v_26, q_27, rb_28⟩ := resOwn (P := prog) (i := 0) (p := 4) 4 Ik58 h rfl (K.lk_eq 4 rfl) rfl t58
     obtain rfl := oi hm
     exact fr f104 K (St.sel [0, 1, 2, 3] rfl h) rfl ⟨rb_28, ⟨⟩⟩ ⟨rfl, q_27⟩
   refine joinS (S := Bool) (fun s_30 a w => Jn c G3 (⟨k58, [Z58], 1, (some bk_3), 58⟩ :: o3 B0 q0 q1 q2 n0 n1 n2 p0) 71 [(0, (pA B0 Ik103o)), (3, v_1), (4, (pA bk_3 Ik58)), (6, .int .i64 p1.Kind), (18, .bool s_30)] a w) (fun s_30 => m104_j_167 p0 p1 s_30 = some r) (fun s_30 hm a w hJ => ?_) (fun kk_168 => ?_)
   · obtain ⟨G5, e_5, h, K⟩ := hJ
     unfold m104_j_167 at hm
     refine ifm hm K rfl (fun _ hm => ?_) fun _ hm => ?_
     · refine sl <| mv K rfl fun a K => ldr K h rfl (Kd.val_mono (Gh.trans e_3 e_5) q_2) t45 fun a v_32 K q_33 => ?_
       obtain ⟨x_34, hx_34, hm⟩ := bs hm
       refine clr (Δ₁ := (o3 B0 q0 q1 q2 n0 n1 n2 p0)) (Δ₂ := _) [4, 4, 4, 4] K h rfl rfl b173 (fun h => c173 hx_34 q_33 h) fun a w v_36 G6 K e_6 h hR_35 => sto 0 Ik58 ([x_34]) K h rfl rfl rfl rfl hR_35 t58 rfl rfl fun w h => wn <| wt ?_
       obtain ⟨v_37, q_38, rb_39⟩ := resOwn (P := prog) (i := 0) (p := 4) 0 Ik58 h rfl (K.lk_eq 4 rfl) rfl t58
       obtain rfl := oi hm
       exact fr f104 K (St.sel [1, 2, 3, 4] rfl h) rfl ⟨rb_39, ⟨⟩⟩ ⟨rfl, q_38⟩
     refine sl <| binC _ K rfl rfl rfl fun a K => asg K rfl fun a K => wn <| ifm hm K rfl (fun _ hm => ?_) fun _ hm => ?_
     · refine sl <| mv K rfl fun a K => ldr K h rfl (Kd.val_mono (Gh.trans e_3 e_5) q_2) t45 fun a v_41 K q_42 => ?_
       obtain ⟨x_43, hx_43, hm⟩ := bs hm
       refine clr (Δ₁ := (o3 B0 q0 q1 q2 n0 n1 n2 p0)) (Δ₂ := _) [4, 4, 4, 4] K h rfl rfl b174 (fun h => c174 hx_43 q_42 h) fun a w v_45 G7 K e_7 h hR_44 => sto 0 Ik58 ([x_43]) K h rfl rfl rfl rfl hR_44 t58 rfl rfl fun w h => wn <| wt ?_
       obtain ⟨v_46, q_47, rb_48⟩ := resOwn (P := prog) (i := 0) (p := 4) 0 Ik58 h rfl (K.lk_eq 4 rfl) rfl t58
       obtain rfl := oi hm
       exact fr f104 K (St.sel [1, 2, 3, 4] rfl h) rfl ⟨rb_48, ⟨⟩⟩ ⟨rfl, q_47⟩
     refine joinS (S := Bool) (fun s_50 a w => Jn c G5 (⟨k58, [Z58], 1, (some bk_3), 58⟩ :: o3 B0 q0 q1 q2 n0 n1 n2 p0) 71 [(0, (pA B0 Ik103o)), (3, v_1), (4, (pA bk_3 Ik58)), (6, .int .i64 p1.Kind), (29, .bool s_50)] a w) (fun s_50 => m104_j_164 p0 p1 s_50 = some r) (fun s_50 hm a w hJ => ?_) (fun kk_165 => ?_)
     · obtain ⟨G8, e_8, h, K⟩ := hJ
       unfold m104_j_164 at hm
       refine ifm hm K rfl (fun _ hm => ?_) fun _ hm => ?_
       · refine sl <| mv K rfl fun a K => ldr K h rfl (Kd.val_mono (Gh.trans e_3 (Gh.trans e_5 e_8)) q_2) t45 fun a v_52 K q_53 => ?_
         obtain ⟨x_54, hx_54, hm⟩ := bs hm
         refine clr (Δ₁ := (o3 B0 q0 q1 q2 n0 n1 n2 p0)) (Δ₂ := _) [4, 4, 4, 4] K h rfl rfl b175 (fun h => c175 hx_54 q_53 h) fun a w v_56 G9 K e_9 h hR_55 => sto 0 Ik58 ([x_54]) K h rfl rfl rfl rfl hR_55 t58 rfl rfl fun w h => wn <| wt ?_
         obtain ⟨v_57, q_58, rb_59⟩ := resOwn (P := prog) (i := 0) (p := 4) 0 Ik58 h rfl (K.lk_eq 4 rfl) rfl t58
         obtain rfl := oi hm
         exact fr f104 K (St.sel [1, 2, 3, 4] rfl h) rfl ⟨rb_59, ⟨⟩⟩ ⟨rfl, q_58⟩
       refine sl <| binC _ K rfl rfl rfl fun a K => asg K rfl fun a K => wn <| ifm hm K rfl (fun _ hm => ?_) fun _ hm => ?_
       · refine ws <| joinS (S := Bool) (fun s_86 a w => Jn c G8 (⟨k58, [Z58], 1, (some bk_3), 58⟩ :: o3 B0 q0 q1 q2 n0 n1 n2 p0) 71 [(0, (pA B0 Ik103o)), (3, v_1), (4, (pA bk_3 Ik58)), (44, .bool s_86)] a w) (fun s_86 => m104_j_121 p0 p1 s_86 = some r) (fun s_86 hm a w hJ => ?_) (fun kk_122 => ?_)
         · obtain ⟨G12, e_12, h, K⟩ := hJ
           unfold m104_j_121 at hm
           refine ifm hm K rfl (fun _ hm => ?_) fun _ hm => ?_
           · refine ws <| wl ?_
             obtain ⟨x_88, hx_88, hm⟩ := bs hm
             refine clp K h rfl b89 (fun h => c89 hx_88 h) fun a w v_90 G13 K e_13 h hR_89 => sto 0 Ik58 ([x_88]) K h rfl rfl rfl rfl hR_89 t58 rfl rfl fun w h => wn <| wt ?_
             obtain ⟨v_91, q_92, rb_93⟩ := resOwn (P := prog) (i := 0) (p := 4) 0 Ik58 h rfl (K.lk_eq 4 rfl) rfl t58
             obtain rfl := oi hm
             exact fr f104 K (St.sel [1, 2, 3, 4] rfl h) rfl ⟨rb_93, ⟨⟩⟩ ⟨rfl, q_92⟩
           refine wk <| ws <| wh 7 [fE _, fE _, fE _, fE _, (fT (kSl k56) p0.p.Users), (fT (kRef (kInt .i64)) p1.N), fE _] [(0, _), (3, _), (4, _)] mx K h (so rfl) ⟨hpX [(0, _)] (fun s _ => ⟨s.1, ⟨⟩⟩) fun _ _ K t => mv K rfl t, hpX [(46, _)] k1 fun _ _ K t => nilck K rfl t, hpX [(47, _)] k1 fun _ _ K t => fa F103_0o K rfl o103_0o t, hpX [(48, _)] k1 fun _ _ K t => fa F37_3o K rfl o37_3o t, hpT [(49, _)] k1 fun _ h K t => ld 1 (J103_0o.comp F37_3o) K h rfl rfl rfl t32 t, hpT [(3, _)] (fun s _ => ⟨s.2.1, ⟨⟩⟩) fun e _ K t => far F45_7 K rfl (Kd.val_mono (Gh.trans e_3 (Gh.trans e_5 (Gh.trans e_8 (Gh.trans e_12 e)))) q_2) o45_7 t, hpQ (t := 51) (fun k => k.1) fun _ h K q t => ldr1 (.int .i64 p1.N) K h rfl q t3 vI t, ⟨⟩⟩ ?_
           intro a w G21 L e_21 h K hs hg
           obtain ⟨v_109, l_111, -, q_110⟩ := hg 4 rfl rfl
           replace K := K.sub (l' := [(50, _), (52, _), (4, _)]) ⟨l_111, gE (hg 6 rfl rfl), hs.2.2.1, ⟨⟩⟩
           obtain ⟨x_113, hx_113, hm⟩ := bs hm
           refine clp K h rfl b85 (fun h => c85 hx_113 q_110 h) fun a w v_115 G22 K e_22 h hR_114 => bld (⟨0, 0, ([] : (List UInt8)), ([] : (List ByteArray)), (⟨0, 0, 0, 0, 0, 0, 0, 0, (List.replicate 2 (0 : Nat))⟩ : T54), x_113⟩ : T58) K h rfl pl58 rfl z58 (.cons F58_5 rfl hR_114 .nil) fun a v_116 K q_117 => sto 0 Ik58 ([(⟨0, 0, ([] : (List UInt8)), ([] : (List ByteArray)), (⟨0, 0, 0, 0, 0, 0, 0, 0, (List.replicate 2 (0 : Nat))⟩ : T54), x_113⟩ : T58)]) K h rfl rfl rfl rfl q_117 t58 rfl rfl fun w h => wn <| wt ?_
           obtain ⟨v_118, q_119, rb_120⟩ := resOwn (P := prog) (i := 0) (p := 4) 0 Ik58 h rfl (K.lk_eq 4 rfl) rfl t58
           obtain rfl := oi hm
           exact fr f104 K (St.sel [1, 2, 3, 4] rfl h) rfl ⟨rb_120, ⟨⟩⟩ ⟨rfl, q_119⟩
         refine wl <| far F45_7 K rfl (Kd.val_mono (Gh.trans e_3 (Gh.trans e_5 e_8)) q_2) o45_7 fun a v_123 K q_124 => ldr1 (.int .i64 p1.N) K h rfl q_124 t3 vI fun a K => binC _ K rfl rfl rfl fun a K => mv K rfl fun a K => ?_
         rcases im hm with ⟨c_125, hm⟩ | ⟨c_125, hm⟩
         · refine g1 K c_125 fun a K => g1 K c_125 fun a K => g1 K c_125 fun a K => pkT K rfl c_125 rfl fun a K => wn <| kk_122 true hm _ _ ⟨G8, gr, (St.sel [0, 1, 2, 3, 4] rfl h), (K.sub (so rfl))⟩
         refine g2 K c_125 <| far F45_7 K rfl (Kd.val_mono (Gh.trans e_3 (Gh.trans e_5 e_8)) q_2) o45_7 fun a v_126 K q_127 => g2 K c_125 <| ldr1 (.int .i64 p1.N) K h rfl q_127 t3 vI fun a K => g2 K c_125 <| binC _ K rfl rfl rfl fun a K => pkF K rfl c_125 rfl fun a K => wn <| kk_122 (decide (p1.N > 65535)) hm _ _ ⟨G8, gr, (St.sel [0, 1, 2, 3, 4] rfl h), (K.sub (so rfl))⟩
       refine sl <| binC _ K rfl rfl rfl fun a K => asg K rfl fun a K => wn <| ifm hm K rfl (fun _ hm => ?_) fun _ hm => ?_
       · refine sl <| mv K rfl fun a K => ?_
         obtain ⟨x_129, hx_129, hm⟩ := bs hm
         refine clr (Δ₁ := (o3 B0 q0 q1 q2 n0 n1 n2 p0)) (Δ₂ := _) [4, 4, 4, 4] K h rfl rfl b176 (fun h => c176 hx_129 h) fun a w v_131 G23 K e_23 h hR_130 => sto 0 Ik58 ([x_129]) K h rfl rfl rfl rfl hR_130 t58 rfl rfl fun w h => wn <| wt ?_
         obtain ⟨v_132, q_133, rb_134⟩ := resOwn (P := prog) (i := 0) (p := 4) 0 Ik58 h rfl (K.lk_eq 4 rfl) rfl t58
         obtain rfl := oi hm
         exact fr f104 K (St.sel [1, 2, 3, 4] rfl h) rfl ⟨rb_134, ⟨⟩⟩ ⟨rfl, q_133⟩
       refine sl <| binC _ K rfl rfl rfl fun a K => asg K rfl fun a K => wn <| ifm hm K rfl (fun _ hm => ?_) fun _ hm => ?_
       · refine sl <| mv K rfl fun a K => ldr K h rfl (Kd.val_mono (Gh.trans e_3 (Gh.trans e_5 e_8)) q_2) t45 fun a v_136 K q_137 => ?_
         obtain ⟨x_138, hx_138, hm⟩ := bs hm
         refine clr (Δ₁ := (o3 B0 q0 q1 q2 n0 n1 n2 p0)) (Δ₂ := _) [4, 4, 4, 4] K h rfl rfl b177 (fun h => c177 hx_138 q_137 h) fun a w v_140 G24 K e_24 h hR_139 => sto 0 Ik58 ([x_138]) K h rfl rfl rfl rfl hR_139 t58 rfl rfl fun w h => wn <| wt ?_
         obtain ⟨v_141, q_142, rb_143⟩ := resOwn (P := prog) (i := 0) (p := 4) 0 Ik58 h rfl (K.lk_eq 4 rfl) rfl t58
         obtain rfl := oi hm
         exact fr f104 K (St.sel [1, 2, 3, 4] rfl h) rfl ⟨rb_143, ⟨⟩⟩ ⟨rfl, q_142⟩
       refine joinS (S := Bool) (fun s_145 a w => Jn c G8 (⟨k58, [Z58], 1, (some bk_3), 58⟩ :: o3 B0 q0 q1 q2 n0 n1 n2 p0) 71 [(0, (pA B0 Ik103o)), (3, v_1), (4, (pA bk_3 Ik58)), (64, .bool s_145)] a w) (fun s_145 => m104_j_161 p0 p1 s_145 = some r) (fun s_145 hm a w hJ => ?_) (fun kk_162 => ?_)
       · obtain ⟨G25, e_25, h, K⟩ := hJ
         unfold m104_j_161 at hm
         refine ifm hm K rfl (fun _ hm => ?_) fun _ hm => ?_
         · refine sl <| mv K rfl fun a K => ldr K h rfl (Kd.val_mono (Gh.trans e_3 (Gh.trans e_5 (Gh.trans e_8 e_25))) q_2) t45 fun a v_147 K q_148 => ?_
           obtain ⟨x_149, hx_149, hm⟩ := bs hm
           refine clr (Δ₁ := (o3 B0 q0 q1 q2 n0 n1 n2 p0)) (Δ₂ := _) [4, 4, 4, 4] K h rfl rfl b178 (fun h => c178 hx_149 q_148 h) fun a w v_151 G26 K e_26 h hR_150 => sto 0 Ik58 ([x_149]) K h rfl rfl rfl rfl hR_150 t58 rfl rfl fun w h => wn <| wt ?_
           obtain ⟨v_152, q_153, rb_154⟩ := resOwn (P := prog) (i := 0) (p := 4) 0 Ik58 h rfl (K.lk_eq 4 rfl) rfl t58
           obtain rfl := oi hm
           exact fr f104 K (St.sel [1, 2, 3, 4] rfl h) rfl ⟨rb_154, ⟨⟩⟩ ⟨rfl, q_153⟩
         refine wk <| ws <| wl ?_
         obtain ⟨x_155, hx_155, hm⟩ := bs hm
         refine clp K h rfl b89 (fun h => c89 hx_155 h) fun a w v_157 G27 K e_27 h hR_156 => sto 0 Ik58 ([x_155]) K h rfl rfl rfl rfl hR_156 t58 rfl rfl fun w h => wn <| wt ?_
         obtain ⟨v_158, q_159, rb_160⟩ := resOwn (P := prog) (i := 0) (p := 4) 0 Ik58 h rfl (K.lk_eq 4 rfl) rfl t58
         obtain rfl := oi hm
         exact fr f104 K (St.sel [1, 2, 3, 4] rfl h) rfl ⟨rb_160, ⟨⟩⟩ ⟨rfl, q_159⟩
       refine sl <| binC _ K rfl rfl rfl fun a K => asg K rfl fun a K => wn <| ifm hm K rfl (fun _ hm => ?_) fun _ hm => ?_
       · refine wk <| kk_162 (p1.Kind == 28) hm _ _ ⟨G8, gr, (St.sel [0, 1, 2, 3, 4] rfl h), (K.sub (so rfl))⟩
       refine wl <| binC _ K rfl rfl rfl fun a K => asg K rfl fun a K => wn <| kk_162 (p1.Kind == 29) hm _ _ ⟨G8, gr, (St.sel [0, 1, 2, 3, 4] rfl h), (K.sub (so rfl))⟩
     refine sl <| binC _ K rfl rfl rfl fun a K => asg K rfl fun a K => wn <| ifm hm K rfl (fun _ hm => ?_) fun _ hm => ?_
     · refine wk <| kk_165 (p1.Kind == 20) hm _ _ ⟨G5, gr, (St.sel [0, 1, 2, 3, 4] rfl h), (K.sub (so rfl))⟩
     refine wl <| binC _ K rfl rfl rfl fun a K => asg K rfl fun a K => wn <| kk_165 (p1.Kind == 21) hm _ _ ⟨G5, gr, (St.sel [0, 1, 2, 3, 4] rfl h), (K.sub (so rfl))⟩
   refine sl <| binC _ K rfl rfl rfl fun a K => asg K rfl fun a K => wn <| ifm hm K rfl (fun _ hm => ?_) fun _ hm => ?_
   · refine wk <| kk_168 (p1.Kind == 13) hm _ _ ⟨G3, gr, (St.sel [0, 1, 2, 3, 4] rfl h), (K.sub (so rfl))⟩
   refine wl <| binC _ K rfl rfl rfl fun a K => asg K rfl fun a K => wn <| kk_168 (p1.Kind == 14) hm _ _ ⟨G3, gr, (St.sel [0, 1, 2, 3, 4] rfl h), (K.sub (so rfl))⟩
 refine sl <| binC _ K rfl rfl rfl fun a K => asg K rfl fun a K => wn <| ifm hm K rfl (fun _ hm => ?_) fun _ hm => ?_
 · refine wk <| kk_171 (p1.Kind == 9) hm _ _ ⟨G1, gr, (St.sel [0, 1, 2, 3, 4] rfl h), (K.sub (so rfl))⟩
 refine wl <| binC _ K rfl rfl rfl fun a K => asg K rfl fun a K => wn <| kk_171 (p1.Kind == 10) hm _ _ ⟨G1, gr, (St.sel [0, 1, 2, 3, 4] rfl h), (K.sub (so rfl))⟩
abbrev R48 (r : T103 × T58) (v : Value) (H : Gh) : Prop := k58.val H v r.2
instance monR48 {r : T103 × T58} : MonR (R48 r) := ⟨fun _ _ _ e h => Kd.val_mono e h⟩
theorem c48 {p0 : T103} {p1 : T45} {B0 q0 q1 q2 n0 n1 n2 : Nat} {r : T103 × T58} (hm : m48 p0 p1 = some r) {vp1 : Value} (hp1 : (k45.val G0 vp1 p1)) (h : St c G0 w ((o3 B0 q0 q1 q2 n0 n1 n2 p0))) : Calls prog 48 #[(pA B0 Ik103o), vp1] w (FO c (o3 B0 q0 q1 q2 n0 n1 n2 r.1) (R48 r)) := by
 unfold m48 at hm
 refine enter (n := 109) func48 rfl rfl rfl fun a K => sl <| boxr K h rfl hp1 fun a w v_1 G1 K e_1 h q_2 => alc K h z58 fun a w bk_3 K h => wn <| ws <| sl <| far F45_0 K rfl q_2 o45_0 fun a v_4 K q_5 => ldr1 (.int .i64 p1.Kind) K h rfl q_5 t30 vI fun a K => wn <| wb <| joinS (S := Bool) (fun s_8 a w => Jn c G1 (⟨k58, [Z58], 1, (some bk_3), 58⟩ :: o3 B0 q0 q1 q2 n0 n1 n2 p0) 109 [(0, (pA B0 Ik103o)), (3, v_1), (4, (pA bk_3 Ik58)), (8, .int .i64 p1.Kind), (9, .bool s_8)] a w) (fun s_8 => m48_j_218 p0 p1 s_8 = some r) (fun s_8 hm a w hJ => ?_) (fun kk_219 => ?_)
 · obtain ⟨G2, e_2, h, K⟩ := hJ
   unfold m48_j_218 at hm
   refine ifm hm K rfl (fun _ hm => ?_) fun _ hm => ?_
   · refine sl <| mv K rfl fun a K => ldr K h rfl (Kd.val_mono e_2 q_2) t45 fun a v_10 K q_11 => ?_
     obtain ⟨x_12, hx_12, hm⟩ := bs hm
     refine clw (Δ₁ := (o3 B0 q0 q1 q2 n0 n1 n2 p0)) (Δ₂ := _) [4, 4, 4, 4] K h rfl rfl b90 (fun h => c90 hx_12 q_11 h) fun a w v G3 Δx K e_3 h hR_13 => ?_
     obtain ⟨rfl, hR_13⟩ := hR_13
     replace h := St.cast (Δ' := (o3 B0 q0 q1 q2 n0 n1 n2 x_12.1 ++ [⟨k58, [Z58], 1, (some bk_3), 58⟩])) h rfl
     obtain rfl := hR_13
     obtain ⟨x_17, hx_17, hm⟩ := bs hm
     refine clp K h rfl b89 (fun h => c89 hx_17 h) fun a w v_19 G4 K e_4 h hR_18 => sto 4 Ik58 ([x_17]) K h rfl rfl rfl rfl hR_18 t58 rfl rfl fun w h => wn <| wt ?_
     obtain ⟨v_20, q_21, rb_22⟩ := resOwn (P := prog) (i := 0) (p := 4) 4 Ik58 h rfl (K.lk_eq 4 rfl) rfl t58
     obtain rfl := oi hm
     exact fr f48 K (St.sel [0, 1, 2, 3] rfl h) rfl ⟨rb_22, ⟨⟩⟩ ⟨rfl, q_21⟩
   refine sl <| binC _ K rfl rfl rfl fun a K => asg K rfl fun a K => wn <| ifm hm K rfl (fun _ hm => ?_) fun _ hm => ?_
   · refine sl <| mv K rfl fun a K => ldr K h rfl (Kd.val_mono e_2 q_2) t45 fun a v_24 K q_25 => ?_
     obtain ⟨x_26, hx_26, hm⟩ := bs hm
     refine clr (Δ₁ := (o3 B0 q0 q1 q2 n0 n1 n2 p0)) (Δ₂ := _) [4, 4, 4, 4] K h rfl rfl b91 (fun h => c91 hx_26 q_25 h) fun a w v G5 K e_5 h hR_27 => ?_
     obtain rfl := hR_27
     obtain ⟨x_28, hx_28, hm⟩ := bs hm
     refine clp K h rfl b89 (fun h => c89 hx_28 h) fun a w v_30 G6 K e_6 h hR_29 => sto 0 Ik58 ([x_28]) K h rfl rfl rfl rfl hR_29 t58 rfl rfl fun w h => wn <| wt ?_
     obtain ⟨v_31, q_32, rb_33⟩ := resOwn (P := prog) (i := 0) (p := 4) 0 Ik58 h rfl (K.lk_eq 4 rfl) rfl t58
     obtain rfl := oi hm
     exact fr f48 K (St.sel [1, 2, 3, 4] rfl h) rfl ⟨rb_33, ⟨⟩⟩ ⟨rfl, q_32⟩
   refine sl <| binC _ K rfl rfl rfl fun a K => asg K rfl fun a K => wn <| ifm hm K rfl (fun _ hm => ?_) fun _ hm => ?_
   · refine sl <| mv K rfl fun a K => ldr K h rfl (Kd.val_mono e_2 q_2) t45 fun a v_35 K q_36 => ?_
     obtain ⟨x_37, hx_37, hm⟩ := bs hm
     refine clr (Δ₁ := (o3 B0 q0 q1 q2 n0 n1 n2 p0)) (Δ₂ := _) [4, 4, 4, 4] K h rfl rfl b92 (fun h => c92 hx_37 q_36 h) fun a w v G7 K e_7 h hR_38 => ?_
     obtain rfl := hR_38
     obtain ⟨x_39, hx_39, hm⟩ := bs hm
     refine clp K h rfl b89 (fun h => c89 hx_39 h) fun a w v_41 G8 K e_8 h hR_40 => sto 0 Ik58 ([x_39]) K h rfl rfl rfl rfl hR_40 t58 rfl rfl fun w h => wn <| wt ?_
     obtain ⟨v_42, q_43, rb_44⟩ := resOwn (P := prog) (i := 0) (p := 4) 0 Ik58 h rfl (K.lk_eq 4 rfl) rfl t58
     obtain rfl := oi hm
     exact fr f48 K (St.sel [1, 2, 3, 4] rfl h) rfl ⟨rb_44, ⟨⟩⟩ ⟨rfl, q_43⟩
   refine sl <| binC _ K rfl rfl rfl fun a K => asg K rfl fun a K => wn <| ifm hm K rfl (fun _ hm => ?_) fun _ hm => ?_
   · refine sl <| mv K rfl fun a K => ldr K h rfl (Kd.val_mono e_2 q_2) t45 fun a v_46 K q_47 => ?_
     obtain ⟨x_48, hx_48, hm⟩ := bs hm
     refine clr (Δ₁ := (o3 B0 q0 q1 q2 n0 n1 n2 p0)) (Δ₂ := _) [4, 4, 4, 4] K h rfl rfl b93 (fun h => c93 hx_48 q_47 h) fun a w v G9 K e_9 h hR_49 => ?_
     obtain rfl := hR_49
     obtain ⟨x_50, hx_50, hm⟩ := bs hm
     refine clp K h rfl b89 (fun h => c89 hx_50 h) fun a w v_52 G10 K e_10 h hR_51 => sto 0 Ik58 ([x_50]) K h rfl rfl rfl rfl hR_51 t58 rfl rfl fun w h => wn <| wt ?_
     obtain ⟨v_53, q_54, rb_55⟩ := resOwn (P := prog) (i := 0) (p := 4) 0 Ik58 h rfl (K.lk_eq 4 rfl) rfl t58
     obtain rfl := oi hm
     exact fr f48 K (St.sel [1, 2, 3, 4] rfl h) rfl ⟨rb_55, ⟨⟩⟩ ⟨rfl, q_54⟩
   refine sl <| binC _ K rfl rfl rfl fun a K => asg K rfl fun a K => wn <| ifm hm K rfl (fun _ hm => ?_) fun _ hm => ?_
   · refine sl <| mv K rfl fun a K => ldr K h rfl (Kd.val_mono e_2 q_2) t45 fun a v_57 K q_58 => ?_
     obtain ⟨x_59, hx_59, hm⟩ := bs hm
     refine clr (Δ₁ := (o3 B0 q0 q1 q2 n0 n1 n2 p0)) (Δ₂ := _) [4, 4, 4, 4] K h rfl rfl b94 (fun h => c94 hx_59 q_58 h) fun a w v G11 K e_11 h hR_60 => ?_
     obtain rfl := hR_60
     obtain ⟨x_61, hx_61, hm⟩ := bs hm
     refine clp K h rfl b89 (fun h => c89 hx_61 h) fun a w v_63 G12 K e_12 h hR_62 => sto 0 Ik58 ([x_61]) K h rfl rfl rfl rfl hR_62 t58 rfl rfl fun w h => wn <| wt ?_
     obtain ⟨v_64, q_65, rb_66⟩ := resOwn (P := prog) (i := 0) (p := 4) 0 Ik58 h rfl (K.lk_eq 4 rfl) rfl t58
     obtain rfl := oi hm
     exact fr f48 K (St.sel [1, 2, 3, 4] rfl h) rfl ⟨rb_66, ⟨⟩⟩ ⟨rfl, q_65⟩
   refine sl <| binC _ K rfl rfl rfl fun a K => asg K rfl fun a K => wn <| ifm hm K rfl (fun _ hm => ?_) fun _ hm => ?_
   · refine sl <| mv K rfl fun a K => ldr K h rfl (Kd.val_mono e_2 q_2) t45 fun a v_68 K q_69 => ?_
     obtain ⟨x_70, hx_70, hm⟩ := bs hm
     refine clr (Δ₁ := (o3 B0 q0 q1 q2 n0 n1 n2 p0)) (Δ₂ := _) [4, 4, 4, 4] K h rfl rfl b95 (fun h => c95 hx_70 q_69 h) fun a w v G13 K e_13 h hR_71 => ?_
     obtain rfl := hR_71
     obtain ⟨x_72, hx_72, hm⟩ := bs hm
     refine clp K h rfl b89 (fun h => c89 hx_72 h) fun a w v_74 G14 K e_14 h hR_73 => sto 0 Ik58 ([x_72]) K h rfl rfl rfl rfl hR_73 t58 rfl rfl fun w h => wn <| wt ?_
     obtain ⟨v_75, q_76, rb_77⟩ := resOwn (P := prog) (i := 0) (p := 4) 0 Ik58 h rfl (K.lk_eq 4 rfl) rfl t58
     obtain rfl := oi hm
     exact fr f48 K (St.sel [1, 2, 3, 4] rfl h) rfl ⟨rb_77, ⟨⟩⟩ ⟨rfl, q_76⟩
   refine sl <| binC _ K rfl rfl rfl fun a K => asg K rfl fun a K => wn <| ifm hm K rfl (fun _ hm => ?_) fun _ hm => ?_
   · refine sl <| mv K rfl fun a K => ldr K h rfl (Kd.val_mono e_2 q_2) t45 fun a v_79 K q_80 => ?_
     obtain ⟨x_81, hx_81, hm⟩ := bs hm
     refine clr (Δ₁ := (o3 B0 q0 q1 q2 n0 n1 n2 p0)) (Δ₂ := _) [4, 4, 4, 4] K h rfl rfl b96 (fun h => c96 hx_81 q_80 h) fun a w v G15 K e_15 h hR_82 => ?_
     obtain rfl := hR_82
     obtain ⟨x_83, hx_83, hm⟩ := bs hm
     refine clp K h rfl b89 (fun h => c89 hx_83 h) fun a w v_85 G16 K e_16 h hR_84 => sto 0 Ik58 ([x_83]) K h rfl rfl rfl rfl hR_84 t58 rfl rfl fun w h => wn <| wt ?_
     obtain ⟨v_86, q_87, rb_88⟩ := resOwn (P := prog) (i := 0) (p := 4) 0 Ik58 h rfl (K.lk_eq 4 rfl) rfl t58
     obtain rfl := oi hm
     exact fr f48 K (St.sel [1, 2, 3, 4] rfl h) rfl ⟨rb_88, ⟨⟩⟩ ⟨rfl, q_87⟩
   refine joinS (S := Bool) (fun s_90 a w => Jn c G2 (⟨k58, [Z58], 1, (some bk_3), 58⟩ :: o3 B0 q0 q1 q2 n0 n1 n2 p0) 109 [(0, (pA B0 Ik103o)), (3, v_1), (4, (pA bk_3 Ik58)), (8, .int .i64 p1.Kind), (53, .bool s_90)] a w) (fun s_90 => m48_j_215 p0 p1 s_90 = some r) (fun s_90 hm a w hJ => ?_) (fun kk_216 => ?_)
   · obtain ⟨G17, e_17, h, K⟩ := hJ
     unfold m48_j_215 at hm
     refine ifm hm K rfl (fun _ hm => ?_) fun _ hm => ?_
     · refine sl <| mv K rfl fun a K => ldr K h rfl (Kd.val_mono (Gh.trans e_2 e_17) q_2) t45 fun a v_92 K q_93 => ?_
       obtain ⟨x_94, hx_94, hm⟩ := bs hm
       refine clw (Δ₁ := (o3 B0 q0 q1 q2 n0 n1 n2 p0)) (Δ₂ := _) [4, 4, 4, 4] K h rfl rfl b97 (fun h => c97 hx_94 q_93 h) fun a w v G18 Δx K e_18 h hR_95 => ?_
       obtain ⟨rfl, hR_95⟩ := hR_95
       replace h := St.cast (Δ' := (o3 B0 q0 q1 q2 n0 n1 n2 x_94.1 ++ [⟨k58, [Z58], 1, (some bk_3), 58⟩])) h rfl
       obtain rfl := hR_95
       obtain ⟨x_99, hx_99, hm⟩ := bs hm
       refine clp K h rfl b89 (fun h => c89 hx_99 h) fun a w v_101 G19 K e_19 h hR_100 => sto 4 Ik58 ([x_99]) K h rfl rfl rfl rfl hR_100 t58 rfl rfl fun w h => wn <| wt ?_
       obtain ⟨v_102, q_103, rb_104⟩ := resOwn (P := prog) (i := 0) (p := 4) 4 Ik58 h rfl (K.lk_eq 4 rfl) rfl t58
       obtain rfl := oi hm
       exact fr f48 K (St.sel [0, 1, 2, 3] rfl h) rfl ⟨rb_104, ⟨⟩⟩ ⟨rfl, q_103⟩
     refine sl <| binC _ K rfl rfl rfl fun a K => asg K rfl fun a K => wn <| ifm hm K rfl (fun _ hm => ?_) fun _ hm => ?_
     · refine sl <| mv K rfl fun a K => ldr K h rfl (Kd.val_mono (Gh.trans e_2 e_17) q_2) t45 fun a v_106 K q_107 => ?_
       obtain ⟨x_108, hx_108, hm⟩ := bs hm
       refine clw (Δ₁ := (o3 B0 q0 q1 q2 n0 n1 n2 p0)) (Δ₂ := _) [4, 4, 4, 4] K h rfl rfl b98 (fun h => c98 hx_108 q_107 h) fun a w v G20 Δx K e_20 h hR_109 => ?_
       obtain ⟨rfl, hR_109⟩ := hR_109
       replace h := St.cast (Δ' := (o3 B0 q0 q1 q2 n0 n1 n2 x_108.1 ++ [⟨k58, [Z58], 1, (some bk_3), 58⟩])) h rfl
       obtain rfl := hR_109
       obtain ⟨x_113, hx_113, hm⟩ := bs hm
       refine clp K h rfl b89 (fun h => c89 hx_113 h) fun a w v_115 G21 K e_21 h hR_114 => sto 4 Ik58 ([x_113]) K h rfl rfl rfl rfl hR_114 t58 rfl rfl fun w h => wn <| wt ?_
       obtain ⟨v_116, q_117, rb_118⟩ := resOwn (P := prog) (i := 0) (p := 4) 4 Ik58 h rfl (K.lk_eq 4 rfl) rfl t58
       obtain rfl := oi hm
       exact fr f48 K (St.sel [0, 1, 2, 3] rfl h) rfl ⟨rb_118, ⟨⟩⟩ ⟨rfl, q_117⟩
     refine joinS (S := Bool) (fun s_120 a w => Jn c G17 (⟨k58, [Z58], 1, (some bk_3), 58⟩ :: o3 B0 q0 q1 q2 n0 n1 n2 p0) 109 [(0, (pA B0 Ik103o)), (3, v_1), (4, (pA bk_3 Ik58)), (8, .int .i64 p1.Kind), (66, .bool s_120)] a w) (fun s_120 => m48_j_212 p0 p1 s_120 = some r) (fun s_120 hm a w hJ => ?_) (fun kk_213 => ?_)
     · obtain ⟨G22, e_22, h, K⟩ := hJ
       unfold m48_j_212 at hm
       refine ifm hm K rfl (fun _ hm => ?_) fun _ hm => ?_
       · refine sl <| mv K rfl fun a K => ldr K h rfl (Kd.val_mono (Gh.trans e_2 (Gh.trans e_17 e_22)) q_2) t45 fun a v_122 K q_123 => ?_
         obtain ⟨x_124, hx_124, hm⟩ := bs hm
         refine clw (Δ₁ := (o3 B0 q0 q1 q2 n0 n1 n2 p0)) (Δ₂ := _) [4, 4, 4, 4] K h rfl rfl b99 (fun h => c99 hx_124 q_123 h) fun a w v G23 Δx K e_23 h hR_125 => ?_
         obtain ⟨rfl, hR_125⟩ := hR_125
         replace h := St.cast (Δ' := (o3 B0 q0 q1 q2 n0 n1 n2 x_124.1 ++ [⟨k58, [Z58], 1, (some bk_3), 58⟩])) h rfl
         obtain rfl := hR_125
         obtain ⟨x_129, hx_129, hm⟩ := bs hm
         refine clp K h rfl b89 (fun h => c89 hx_129 h) fun a w v_131 G24 K e_24 h hR_130 => sto 4 Ik58 ([x_129]) K h rfl rfl rfl rfl hR_130 t58 rfl rfl fun w h => wn <| wt ?_
         obtain ⟨v_132, q_133, rb_134⟩ := resOwn (P := prog) (i := 0) (p := 4) 4 Ik58 h rfl (K.lk_eq 4 rfl) rfl t58
         obtain rfl := oi hm
         exact fr f48 K (St.sel [0, 1, 2, 3] rfl h) rfl ⟨rb_134, ⟨⟩⟩ ⟨rfl, q_133⟩
       refine sl <| binC _ K rfl rfl rfl fun a K => asg K rfl fun a K => wn <| ifm hm K rfl (fun _ hm => ?_) fun _ hm => ?_
       · refine sl <| mv K rfl fun a K => ldr K h rfl (Kd.val_mono (Gh.trans e_2 (Gh.trans e_17 e_22)) q_2) t45 fun a v_136 K q_137 => ?_
         obtain ⟨x_138, hx_138, hm⟩ := bs hm
         refine clw (Δ₁ := (o3 B0 q0 q1 q2 n0 n1 n2 p0)) (Δ₂ := _) [4, 4, 4, 4] K h rfl rfl b100 (fun h => c100 hx_138 q_137 h) fun a w v G25 Δx K e_25 h hR_139 => ?_
         obtain ⟨rfl, hR_139⟩ := hR_139
         replace h := St.cast (Δ' := (o3 B0 q0 q1 q2 n0 n1 n2 x_138.1 ++ [⟨k58, [Z58], 1, (some bk_3), 58⟩])) h rfl
         obtain rfl := hR_139
         obtain ⟨x_143, hx_143, hm⟩ := bs hm
         refine clp K h rfl b89 (fun h => c89 hx_143 h) fun a w v_145 G26 K e_26 h hR_144 => sto 4 Ik58 ([x_143]) K h rfl rfl rfl rfl hR_144 t58 rfl rfl fun w h => wn <| wt ?_
         obtain ⟨v_146, q_147, rb_148⟩ := resOwn (P := prog) (i := 0) (p := 4) 4 Ik58 h rfl (K.lk_eq 4 rfl) rfl t58
         obtain rfl := oi hm
         exact fr f48 K (St.sel [0, 1, 2, 3] rfl h) rfl ⟨rb_148, ⟨⟩⟩ ⟨rfl, q_147⟩
       refine sl <| binC _ K rfl rfl rfl fun a K => asg K rfl fun a K => wn <| ifm hm K rfl (fun _ hm => ?_) fun _ hm => ?_
       · refine ws ?_
         obtain ⟨x_167, hx_167, hm⟩ := bs hm
         refine wh 12 [fE _, fE _, fE _, fE _, fE _, (fT (kRef kF64) p1.Time), fE _, (fC (R101 x_167)), (fC (R101 x_167)), (fE (.float .f64 x_167.1)), (fE (.int .i64 x_167.2)), fE _] [(0, _), (3, _), (4, _)] mx K h (so rfl) ⟨hpX [(0, _)] (fun s _ => ⟨s.1, ⟨⟩⟩) fun _ _ K t => mv K rfl t, hpX [(82, _)] k1 fun _ _ K t => nilck K rfl t, hpX [(83, _)] k1 fun _ _ K t => fa F103_0o K rfl o103_0o t, hpX [(84, _)] k1 fun _ _ K t => fa F37_1o K rfl o37_1o t, hpX [(85, _)] k1 fun _ h K t => ld1 1 (J103_0o.comp F37_1o) (.float .f64 p0.p.Now) K h rfl rfl rfl t31 vF t, hpT [(3, _)] (fun s _ => ⟨s.2.1, ⟨⟩⟩) fun e _ K t => far F45_9 K rfl (Kd.val_mono (Gh.trans e_2 (Gh.trans e_17 (Gh.trans e_22 e))) q_2) o45_9 t, hpQ (t := 87) (fun k => k.1) fun _ h K q t => ldr1 (.float .f64 p1.Time) K h rfl q t31 vF t, ?_, ?_, ?_, ?_, hpX [(90, _)] k1 fun _ _ K t => asg K rfl t, ⟨⟩⟩ ?_
         · intro a w G34 L X e_34 h K hs hk
           obtain ⟨v_163, _, l_164, -, rfl⟩ := hk.1
           obtain ⟨v_165, _, l_166, -, rfl⟩ := hk.2.1
           have hx : Sy.sub L [(86, .float .f64 p0.p.Now), (88, .float .f64 p1.Time)] := ⟨l_164, l_166, ⟨⟩⟩
           replace K := K.addx _ hx
           refine clp K h rfl b101 (fun h => c101 hx_167 h) fun a w v G35 K e_35 h hR_168 => wn <| ⟨rfl, G35, [], e_35, h, _, K.dropx _ hx, ⟨rfl, hR_168⟩⟩
         · intro a w G36 L X e_36 h K hs hk
           obtain ⟨v_169, _, l_170, -, hR_171⟩ := hk.1
           obtain rfl := id hR_171
           have hx : Sy.sub L [(89, .tuple #[.float .f64 x_167.1, .int .i64 x_167.2])] := ⟨l_170, ⟨⟩⟩
           replace K := K.addx _ hx
           refine mv K rfl fun a K => wn <| ⟨rfl, G36, [], gr, h, _, K.dropx _ hx, ⟨rfl, hR_171⟩⟩
         · intro a w G37 L X e_37 h K hs hk
           obtain ⟨v_172, _, l_173, -, hR_174⟩ := hk.1
           obtain rfl := id hR_174
           have hx : Sy.sub L [(81, .tuple #[.float .f64 x_167.1, .int .i64 x_167.2])] := ⟨l_173, ⟨⟩⟩
           replace K := K.addx _ hx
           refine extr K rfl rfl fun a K => wn <| ⟨rfl, G37, [], gr, h, _, K.dropx _ hx, ⟨rfl, rfl⟩⟩
         · intro a w G38 L X e_38 h K hs hk
           obtain ⟨v_175, _, l_176, -, hR_177⟩ := hk.1
           obtain rfl := id hR_177
           have hx : Sy.sub L [(81, .tuple #[.float .f64 x_167.1, .int .i64 x_167.2])] := ⟨l_176, ⟨⟩⟩
           replace K := K.addx _ hx
           refine extr K rfl rfl fun a K => wn <| ⟨rfl, G38, [], gr, h, _, K.dropx _ hx, ⟨rfl, rfl⟩⟩
         intro a w G40 L e_40 h K hs hg
         replace K := K.sub (l' := [(91, _), (5, _), (0, _), (3, _), (4, _)]) ⟨gE (hg 10 rfl rfl), gE (hg 11 rfl rfl), hs.1, hs.2.1, hs.2.2.1, ⟨⟩⟩
         refine asg K rfl fun a K => wn <| sl <| mv K rfl fun a K => mv K rfl fun a K => nilck K rfl fun a K => fa F103_0o K rfl o103_0o fun a K => fa F37_1o K rfl o37_1o fun a K => sto 1 (J103_0o.comp F37_1o) ([(⟨(⟨p0.p.Homes, x_167.1, p0.p.Salt, p0.p.Users, (hS q0 p0.p.Inodes n0), (hS q1 p0.p.Dirs n1), (hS q2 p0.p.Blocks n2)⟩ : T37o), p0.fds⟩ : T103o)]) K h rfl rfl rfl rfl f64_val t31 rfl rfl fun w h => nsl <| mv K rfl fun a K => ?_
         obtain ⟨x_182, hx_182, hm⟩ := bs hm
         refine clp K h rfl b102 (fun h => c102 hx_182 h) fun a w v G41 K e_41 h hR_183 => ?_
         obtain rfl := hR_183
         obtain ⟨x_184, hx_184, hm⟩ := bs hm
         refine clp K h rfl b89 (fun h => c89 hx_184 h) fun a w v_186 G42 K e_42 h hR_185 => sto 0 Ik58 ([x_184]) K h rfl rfl rfl rfl hR_185 t58 rfl rfl fun w h => wn <| wt ?_
         obtain ⟨v_187, q_188, rb_189⟩ := resOwn (P := prog) (i := 0) (p := 4) 0 Ik58 h rfl (K.lk_eq 4 rfl) rfl t58
         obtain rfl := oi hm
         exact fr f48 K (St.sel [1, 2, 3, 4] rfl h) rfl ⟨rb_189, ⟨⟩⟩ ⟨rfl, q_188⟩
       refine sl <| binC _ K rfl rfl rfl fun a K => asg K rfl fun a K => wn <| ifm hm K rfl (fun _ hm => ?_) fun _ hm => ?_
       · refine sl <| mv K rfl fun a K => ldr K h rfl (Kd.val_mono (Gh.trans e_2 (Gh.trans e_17 e_22)) q_2) t45 fun a v_191 K q_192 => ?_
         obtain ⟨x_193, hx_193, hm⟩ := bs hm
         refine clr (Δ₁ := (o3 B0 q0 q1 q2 n0 n1 n2 p0)) (Δ₂ := _) [4, 4, 4, 4] K h rfl rfl b103 (fun h => c103 hx_193 q_192 h) fun a w v G43 K e_43 h hR_194 => ?_
         obtain rfl := hR_194
         obtain ⟨x_195, hx_195, hm⟩ := bs hm
         refine clp K h rfl b89 (fun h => c89 hx_195 h) fun a w v_197 G44 K e_44 h hR_196 => sto 0 Ik58 ([x_195]) K h rfl rfl rfl rfl hR_196 t58 rfl rfl fun w h => wn <| wt ?_
         obtain ⟨v_198, q_199, rb_200⟩ := resOwn (P := prog) (i := 0) (p := 4) 0 Ik58 h rfl (K.lk_eq 4 rfl) rfl t58
         obtain rfl := oi hm
         exact fr f48 K (St.sel [1, 2, 3, 4] rfl h) rfl ⟨rb_200, ⟨⟩⟩ ⟨rfl, q_199⟩
       refine wk <| sl <| mv K rfl fun a K => ldr K h rfl (Kd.val_mono (Gh.trans e_2 (Gh.trans e_17 e_22)) q_2) t45 fun a v_201 K q_202 => ?_
       obtain ⟨x_203, hx_203, hm⟩ := bs hm
       refine clw (Δ₁ := (o3 B0 q0 q1 q2 n0 n1 n2 p0)) (Δ₂ := _) [4, 4, 4, 4] K h rfl rfl b104 (fun h => c104 hx_203 q_202 h) fun a w v_205 G45 Δx K e_45 h hR_204 => ?_
       obtain ⟨rfl, hR_204⟩ := hR_204
       replace h := St.cast (Δ' := (o3 B0 q0 q1 q2 n0 n1 n2 x_203.1 ++ [⟨k58, [Z58], 1, (some bk_3), 58⟩])) h rfl
       refine sto 4 Ik58 ([x_203.2]) K h rfl rfl rfl rfl hR_204 t58 rfl rfl fun w h => wn <| wt ?_
       obtain ⟨v_209, q_210, rb_211⟩ := resOwn (P := prog) (i := 0) (p := 4) 4 Ik58 h rfl (K.lk_eq 4 rfl) rfl t58
       obtain rfl := oi hm
       exact fr f48 K (St.sel [0, 1, 2, 3] rfl h) rfl ⟨rb_211, ⟨⟩⟩ ⟨rfl, q_210⟩
     refine sl <| binC _ K rfl rfl rfl fun a K => asg K rfl fun a K => wn <| ifm hm K rfl (fun _ hm => ?_) fun _ hm => ?_
     · refine wk <| kk_213 (p1.Kind == 19) hm _ _ ⟨G17, gr, (St.sel [0, 1, 2, 3, 4] rfl h), (K.sub (so rfl))⟩
     refine wl <| binC _ K rfl rfl rfl fun a K => asg K rfl fun a K => wn <| kk_213 (p1.Kind == 22) hm _ _ ⟨G17, gr, (St.sel [0, 1, 2, 3, 4] rfl h), (K.sub (so rfl))⟩
   refine sl <| binC _ K rfl rfl rfl fun a K => asg K rfl fun a K => wn <| ifm hm K rfl (fun _ hm => ?_) fun _ hm => ?_
   · refine wk <| kk_216 (p1.Kind == 15) hm _ _ ⟨G2, gr, (St.sel [0, 1, 2, 3, 4] rfl h), (K.sub (so rfl))⟩
   refine wl <| binC _ K rfl rfl rfl fun a K => asg K rfl fun a K => wn <| kk_216 (p1.Kind == 17) hm _ _ ⟨G2, gr, (St.sel [0, 1, 2, 3, 4] rfl h), (K.sub (so rfl))⟩
 refine sl <| binC _ K rfl rfl rfl fun a K => asg K rfl fun a K => wn <| ifm hm K rfl (fun _ hm => ?_) fun _ hm => ?_
 · refine wk <| kk_219 (p1.Kind == 1) hm _ _ ⟨G1, gr, (St.sel [0, 1, 2, 3, 4] rfl h), (K.sub (so rfl))⟩
 refine sl <| binC _ K rfl rfl rfl fun a K => asg K rfl fun a K => wn <| ifm hm K rfl (fun _ hm => ?_) fun _ hm => ?_
 · refine wk <| kk_219 (p1.Kind == 3) hm _ _ ⟨G1, gr, (St.sel [0, 1, 2, 3, 4] rfl h), (K.sub (so rfl))⟩
 refine wl <| binC _ K rfl rfl rfl fun a K => asg K rfl fun a K => wn <| kk_219 (p1.Kind == 6) hm _ _ ⟨G1, gr, (St.sel [0, 1, 2, 3, 4] rfl h), (K.sub (so rfl))⟩
abbrev R20 (r : T103 × T58) (v : Value) (H : Gh) : Prop := k58.val H v r.2
instance monR20 {r : T103 × T58} : MonR (R20 r) := ⟨fun _ _ _ e h => Kd.val_mono e h⟩
theorem c20 {p0 : T103} {p1 : T45} {B0 q0 q1 q2 n0 n1 n2 : Nat} {r : T103 × T58} (hm : m20 p0 p1 = some r) {vp1 : Value} (hp1 : (k45.val G0 vp1 p1)) (h : St c G0 w ((o3 B0 q0 q1 q2 n0 n1 n2 p0))) : Calls prog 20 #[(pA B0 Ik103o), vp1] w (Fin c fun v H Δ => ∃ (q0_0 : Nat) (q0_1 : Nat) (q0_2 : Nat) (n0_0 n0_1 n0_2 : Nat), Δ = (o3 B0 q0_0 q0_1 q0_2 n0_0 n0_1 n0_2 r.1) ∧ R20 r v H) := by
 unfold m20 at hm
 refine enter (n := 46) func20 rfl rfl rfl fun a K => sl <| boxr K h rfl hp1 fun a w v_1 G1 K e_1 h q_2 => alc K h z58 fun a w bk_3 K h => wn <| ws <| sl <| mv K rfl fun a K => binPn _ K rfl ⟨_, rfl⟩ rfl pt24 rfl fun a K => wn <| ifF K rfl rfl <| wk <| ws <| joinS (S := Bool) (fun s_46 a w => Jn c G1 (⟨k58, [Z58], 1, (some bk_3), 58⟩ :: o3 B0 q0 q1 q2 n0 n1 n2 p0) 46 [(0, (pA B0 Ik103o)), (3, v_1), (4, (pA bk_3 Ik58)), (27, .bool s_46)] a w) (fun s_46 => m20_j_89 p0 p1 s_46 = some r) (fun s_46 hm a w hJ => ?_) (fun kk_90 => ?_)
 · obtain ⟨G3, e_3, h, K⟩ := hJ
   unfold m20_j_89 at hm
   refine ifm hm K rfl (fun _ hm => ?_) fun _ hm => ?_
   · refine sl <| bld (⟨47, 0, ([] : (List UInt8)), ([] : (List ByteArray)), (⟨0, 0, 0, 0, 0, 0, 0, 0, (List.replicate 2 (0 : Nat))⟩ : T54), Z56⟩ : T58) K h rfl pl58 rfl z58 (.cons F58_0 rfl int_val .nil) fun a v_48 K q_49 => sto 0 Ik58 ([(⟨47, 0, ([] : (List UInt8)), ([] : (List ByteArray)), (⟨0, 0, 0, 0, 0, 0, 0, 0, (List.replicate 2 (0 : Nat))⟩ : T54), Z56⟩ : T58)]) K h rfl rfl rfl rfl q_49 t58 rfl rfl fun w h => wn <| wt ?_
     obtain ⟨v_50, q_51, rb_52⟩ := resOwn (P := prog) (i := 0) (p := 4) 0 Ik58 h rfl (K.lk_eq 4 rfl) rfl t58
     obtain rfl := oi hm
     exact fr f20 K (St.sel [1, 2, 3, 4] rfl h) rfl ⟨rb_52, ⟨⟩⟩ ⟨q0, q1, q2, n0, n1, n2, rfl, q_51⟩
   refine wk <| sl <| mv K rfl fun a K => ?_
   obtain ⟨x_53, hx_53, hm⟩ := bs hm
   refine clw (Δ₁ := (o3 B0 q0 q1 q2 n0 n1 n2 p0)) (Δ₂ := _) [4, 4, 4, 4] K h rfl rfl b18 (fun h => c18 hx_53 h) fun a w v_55 G4 Δx K e_4 h hR_54 => ?_
   obtain ⟨u_57, D_58, rfl, hP_56, hR_54⟩ := hR_54
   obtain rfl := hR_54
   obtain ⟨bk_60, bk_61, bk_62, bk_63, cp_64, cp_65, cp_66, rfl, rfl⟩ := hP_56
   replace h := St.cast (Δ' := (o3 B0 q0 q1 q2 n0 n1 n2 p0 ++ (o3 bk_60 bk_61 bk_62 bk_63 cp_64 cp_65 cp_66 x_53 ++ [⟨k58, [Z58], 1, (some bk_3), 58⟩]))) h rfl
   refine asg K rfl fun a K => nsl <| mv K rfl fun a K => ldr K h rfl (Kd.val_mono (Gh.trans e_3 e_4) q_2) t45 fun a v_67 K q_68 => ?_
   obtain ⟨x_69, hx_69, hm⟩ := bs hm
   refine clw (Δ₁ := (o3 bk_60 bk_61 bk_62 bk_63 cp_64 cp_65 cp_66 x_53)) (Δ₂ := _) [7, 7, 7, 7] K h rfl rfl b48 (fun h => c48 hx_69 q_68 h) fun a w v_71 G5 Δx K e_5 h hR_70 => ?_
   obtain ⟨rfl, hR_70⟩ := hR_70
   replace h := St.cast (Δ' := (o3 bk_60 bk_61 bk_62 bk_63 cp_64 cp_65 cp_66 x_69.1 ++ (o3 B0 q0 q1 q2 n0 n1 n2 p0 ++ [⟨k58, [Z58], 1, (some bk_3), 58⟩]))) h rfl
   refine alc K h z58 fun a w bk_75 K h => sto 0 Ik58 ([x_69.2]) K h rfl rfl rfl rfl hR_70 t58 rfl rfl fun w h => wn <| ws <| sl <| fa F58_0 K rfl o58_0 fun a K => ld1 0 J58_0 (.int .i64 x_69.2.Err) K h rfl rfl rfl t28 vI fun a K => binC _ K rfl rfl rfl fun a K => wn <| ifm hm K rfl (fun _ hm => ?_) fun _ hm => ?_
   · refine sl <| fa F58_0 K rfl o58_0 fun a K => ld1 0 J58_0 (.int .i64 x_69.2.Err) K h rfl rfl rfl t28 vI fun a K => bld (⟨x_69.2.Err, 0, ([] : (List UInt8)), ([] : (List ByteArray)), (⟨0, 0, 0, 0, 0, 0, 0, 0, (List.replicate 2 (0 : Nat))⟩ : T54), Z56⟩ : T58) K h rfl pl58 rfl z58 (.cons F58_0 rfl int_val .nil) fun a v_77 K q_78 => sto 9 Ik58 ([(⟨x_69.2.Err, 0, ([] : (List UInt8)), ([] : (List ByteArray)), (⟨0, 0, 0, 0, 0, 0, 0, 0, (List.replicate 2 (0 : Nat))⟩ : T54), Z56⟩ : T58)]) K h rfl rfl rfl rfl q_78 t58 rfl rfl fun w h => wn <| wt ?_
     obtain ⟨v_79, q_80, rb_81⟩ := resOwn (P := prog) (i := 0) (p := 4) 9 Ik58 h rfl (K.lk_eq 4 rfl) rfl t58
     obtain rfl := oi hm
     exact fr f20 K (St.sel [5, 6, 7, 8] rfl h) rfl ⟨rb_81, ⟨⟩⟩ ⟨q0, q1, q2, n0, n1, n2, rfl, q_80⟩
   refine wk <| sl <| mv K rfl fun a K => mv K rfl fun a K => nilck K rfl fun a K => ld 1 Ik103o K h rfl rfl rfl t103o fun a v_82 K q_83 => nilck K rfl fun a K => sto 5 Ik103o ([(⟨(⟨x_69.1.p.Homes, x_69.1.p.Now, x_69.1.p.Salt, x_69.1.p.Users, (hS bk_61 x_69.1.p.Inodes cp_64), (hS bk_62 x_69.1.p.Dirs cp_65), (hS bk_63 x_69.1.p.Blocks cp_66)⟩ : T37o), x_69.1.fds⟩ : T103o)]) K h rfl rfl rfl rfl q_83 t103o rfl rfl fun w h => nsl <| ld 0 Ik58 K h rfl rfl rfl t58 fun a v_84 K q_85 => sto 9 Ik58 ([x_69.2]) K h rfl rfl rfl rfl q_85 t58 rfl rfl fun w h => wn <| wt ?_
   obtain ⟨v_86, q_87, rb_88⟩ := resOwn (P := prog) (i := 0) (p := 4) 9 Ik58 h rfl (K.lk_eq 4 rfl) rfl t58
   obtain rfl := oi hm
   exact fr f20 K (St.sel [5, 2, 3, 4] rfl h) rfl ⟨rb_88, ⟨⟩⟩ ⟨bk_61, bk_62, bk_63, cp_64, cp_65, cp_66, rfl, q_87⟩
 refine wl <| far F45_1 K rfl q_2 o45_1 fun a v_91 K q_92 => ldr1 (.int .i64 p1.Uid) K h rfl q_92 t3 vI fun a K => binC _ K rfl rfl rfl fun a K => mv K rfl fun a K => ?_
 rcases im hm with ⟨c_93, hm⟩ | ⟨c_93, hm⟩
 · refine g1 K c_93 fun a K => g1 K c_93 fun a K => g1 K c_93 fun a K => pkT K rfl c_93 rfl fun a K => mv K rfl fun a K => g1 K rfl fun a K => g1 K rfl fun a K => g1 K rfl fun a K => pkT K rfl rfl rfl fun a K => mv K rfl fun a K => g1 K rfl fun a K => g1 K rfl fun a K => g1 K rfl fun a K => pkT K rfl rfl rfl fun a K => wn <| kk_90 true hm _ _ ⟨G1, gr, (St.sel [0, 1, 2, 3, 4] rfl h), (K.sub (so rfl))⟩
 refine g2 K c_93 <| far F45_1 K rfl q_2 o45_1 fun a v_94 K q_95 => g2 K c_93 <| ldr1 (.int .i64 p1.Uid) K h rfl q_95 t3 vI fun a K => g2 K c_93 <| binC _ K rfl rfl rfl fun a K => pkF K rfl c_93 rfl fun a K => mv K rfl fun a K => ?_
 rcases im hm with ⟨c_96, hm⟩ | ⟨c_96, hm⟩
 · refine g1 K c_96 fun a K => g1 K c_96 fun a K => g1 K c_96 fun a K => pkT K rfl c_96 rfl fun a K => mv K rfl fun a K => g1 K rfl fun a K => g1 K rfl fun a K => g1 K rfl fun a K => pkT K rfl rfl rfl fun a K => wn <| kk_90 true hm _ _ ⟨G1, gr, (St.sel [0, 1, 2, 3, 4] rfl h), (K.sub (so rfl))⟩
 refine g2 K c_96 <| far F45_2 K rfl q_2 o45_2 fun a v_97 K q_98 => g2 K c_96 <| ldr1 (.int .i64 p1.Gid) K h rfl q_98 t3 vI fun a K => g2 K c_96 <| binC _ K rfl rfl rfl fun a K => pkF K rfl c_96 rfl fun a K => mv K rfl fun a K => ?_
 rcases im hm with ⟨c_99, hm⟩ | ⟨c_99, hm⟩
 · refine g1 K c_99 fun a K => g1 K c_99 fun a K => g1 K c_99 fun a K => pkT K rfl c_99 rfl fun a K => wn <| kk_90 true hm _ _ ⟨G1, gr, (St.sel [0, 1, 2, 3, 4] rfl h), (K.sub (so rfl))⟩
 refine g2 K c_99 <| far F45_2 K rfl q_2 o45_2 fun a v_100 K q_101 => g2 K c_99 <| ldr1 (.int .i64 p1.Gid) K h rfl q_101 t3 vI fun a K => g2 K c_99 <| binC _ K rfl rfl rfl fun a K => pkF K rfl c_99 rfl fun a K => wn <| kk_90 (decide (p1.Gid > 65535)) hm _ _ ⟨G1, gr, (St.sel [0, 1, 2, 3, 4] rfl h), (K.sub (so rfl))⟩
abbrev R37 (r : Bool) (v : Value) (H : Gh) : Prop := v = .bool r
instance monR37 {r : Bool} : MonR (R37 r) := ⟨fun _ _ _ _ h => h⟩
theorem c37 {r : Bool} (hm : m37 = some r) (h : St c G0 w []) : Calls prog 37 #[] w (FO c [] (R37 r)) := by
 unfold m37 at hm
 refine enter (n := 1) func37 rfl rfl rfl fun a K => sl <| asg K rfl fun a K => nsl <| asg K rfl fun a K => wn <| wt ?_
 obtain rfl := oi hm
 exact fr f37 K (St.sel [] rfl h) rfl ⟨rfl, ⟨⟩⟩ ⟨rfl, rfl⟩
abbrev R13 (r : Bool) (v : Value) (H : Gh) : Prop := v = .bool r
instance monR13 {r : Bool} : MonR (R13 r) := ⟨fun _ _ _ _ h => h⟩
theorem c13 {r : Bool} (hm : m13 = some r) (h : St c G0 w []) : Calls prog 13 #[] w (FO c [] (R13 r)) := by
 unfold m13 at hm
 refine enter (n := 66) func13 rfl rfl rfl fun a K => sl <| asg K rfl fun a K => nsl <| bldA (f := kByte) [(b8 1), (0 : UInt8), (0 : UInt8), (0 : UInt8), (0 : UInt8), (0 : UInt8), (0 : UInt8), (0 : UInt8), (0 : UInt8), (0 : UInt8), (0 : UInt8), (0 : UInt8), (0 : UInt8), (0 : UInt8), (0 : UInt8), (0 : UInt8)] K h rfl r22 t5 z22 (.cons (Fld.idx kByte 0 (by decide)) rfl (show kByte.val _ _ _ from (byte_val rfl)) .nil) fun a v_1 K q_2 => ?_
 obtain ⟨x_3, hx_3, hm⟩ := bs hm
 refine clw (Δ₁ := []) (Δ₂ := _) [] K h rfl rfl b17 (fun h => c17 hx_3 q_2 h) fun a w v_5 G1 Δx K e_1 h hR_4 => ?_
 obtain ⟨u_7, D_8, rfl, hP_6, hR_4⟩ := hR_4
 obtain rfl := hR_4
 rcases hqx_9 : x_3.1 with _ | x_9
 · simp only [hqx_9] at hm hP_6
   obtain ⟨rfl, rfl⟩ := hP_6
   replace h := St.cast (Δ' := []) h rfl
   refine mv K rfl fun a K => extr K rfl rfl fun a K => extr K rfl rfl fun a K => asg K rfl fun a K => asg K rfl fun a K => wn <| ws <| joinS (S := Unit) (fun s_23 a w => Jn c G1 [] 66 [(0, .bool false), (1, .pointer none), (17, .bool true)] a w) (fun s_23 => m13_j_24 s_23 = some r) (fun s_23 hm a w hJ => ?_) (fun kk_25 => ?_)
   · obtain ⟨G3, e_3, h, K⟩ := hJ
     unfold m13_j_24 at hm
     refine ifT K rfl rfl <| sl <| asg K rfl fun a K => wn <| wt ?_
     obtain rfl := oi hm
     exact fr f13 K (St.sel [] rfl h) rfl ⟨rfl, ⟨⟩⟩ ⟨rfl, rfl⟩
   refine wl <| mv K rfl fun a K => binC _ K rfl rfl rfl fun a K => mv K rfl fun a K => ?_
   rcases im hm with ⟨c_26, hm⟩ | ⟨c_26, hm⟩
   · refine g1 K c_26 fun a K => g1 K c_26 fun a K => pkT K rfl c_26 rfl fun a K => wn <| kk_25 () hm _ _ ⟨G1, gr, (St.sel [] rfl h), (K.sub (so rfl))⟩
   refine g2 K c_26 <| mv K rfl fun a K => g2 K c_26 <| binPnn _ K rfl rfl pt24 rfl fun a K => pkF K rfl c_26 rfl fun a K => wn <| kk_25 () hm _ _ ⟨G1, gr, (St.sel [] rfl h), (K.sub (so rfl))⟩
 simp only [hqx_9] at hm hP_6
 obtain ⟨bk_10, bk_11, bk_12, bk_13, cp_14, cp_15, cp_16, rfl, rfl⟩ := hP_6
 replace h := St.cast (Δ' := (o3 bk_10 bk_11 bk_12 bk_13 cp_14 cp_15 cp_16 x_9)) h rfl
 refine mv K rfl fun a K => extr K rfl rfl fun a K => extr K rfl rfl fun a K => asg K rfl fun a K => asg K rfl fun a K => wn <| ws <| joinS (S := Bool) (fun s_34 a w => Jn c G1 (o3 bk_10 bk_11 bk_12 bk_13 cp_14 cp_15 cp_16 x_9) 66 [(0, .bool false), (1, (pA bk_10 Ik103o)), (17, .bool s_34)] a w) (fun s_34 => m13_j_226 x_9 s_34 = some r) (fun s_34 hm a w hJ => ?_) (fun kk_227 => ?_)
 · obtain ⟨G5, e_5, h, K⟩ := hJ
   unfold m13_j_226 at hm
   refine ifm hm K rfl (fun _ hm => ?_) fun _ hm => ?_
   · refine sl <| asg K rfl fun a K => wn <| wt ?_
     obtain rfl := oi hm
     exact fr f13 K (St.sel [] rfl h) rfl ⟨rfl, ⟨⟩⟩ ⟨rfl, rfl⟩
   refine wk <| ws <| sl <| bld (⟨1, 0, 0, (⟨#[47, 97]⟩ : ByteArray), ByteArray.empty, ([] : (List UInt8)), 0, 0, 493, (0 : Nat)⟩ : T45) K h rfl pl45 rfl z45 (.cons F45_0 rfl int_val (.cons F45_3 rfl str_val (.cons F45_8 rfl int_val .nil))) fun a v_36 K q_37 => bld (⟨3, 0, 0, (⟨#[47, 97, 47, 102]⟩ : ByteArray), ByteArray.empty, ([] : (List UInt8)), 0, 0, 420, (0 : Nat)⟩ : T45) K h rfl pl45 rfl z45 (.cons F45_0 rfl int_val (.cons F45_3 rfl str_val (.cons F45_8 rfl int_val .nil))) fun a v_38 K q_39 => bldS (f := k45) (by decide) [(⟨1, 0, 0, (⟨#[47, 97]⟩ : ByteArray), ByteArray.empty, ([] : (List UInt8)), 0, 0, 493, (0 : Nat)⟩ : T45), (⟨3, 0, 0, (⟨#[47, 97, 47, 102]⟩ : ByteArray), ByteArray.empty, ([] : (List UInt8)), 0, 0, 420, (0 : Nat)⟩ : T45)] K h rfl s23 t45 rfl z45 (.cons (Fld.idx k45 0 (by decide)) rfl q_37 (.cons (Fld.idx k45 1 (by decide)) rfl q_39 .nil)) fun a w bk_40 K h => lenO K rfl rfl s23 fun a K => mv K rfl fun a K => wn <| wb ?_
   obtain ⟨y_121, hy_121, hm⟩ := bs hm
   refine loop (S := Int × Nat × (List UInt8) × (List T56) × (List T84) × (List (List T87)) × (List (List UInt8)) × (List T100) × Int) (R := (Int × Nat × (List UInt8) × (List T56) × (List T84) × (List (List T87)) × (List (List UInt8)) × (List T100)) ⊕ Bool) (fun s_92 a w => ∃ (G9 : Gh) (bk_93 : Nat) (cp_94 : Nat) (bk_95 : Nat) (cp_96 : Nat) (bk_97 : Nat) (cp_98 : Nat), Gh.le G5 G9 ∧ St c G9 w [⟨k45, [(⟨1, 0, 0, (⟨#[47, 97]⟩ : ByteArray), ByteArray.empty, ([] : (List UInt8)), 0, 0, 493, (0 : Nat)⟩ : T45), (⟨3, 0, 0, (⟨#[47, 97, 47, 102]⟩ : ByteArray), ByteArray.empty, ([] : (List UInt8)), 0, 0, 420, (0 : Nat)⟩ : T45)], 2, (some bk_40), 45⟩, ⟨k103o, [(⟨(⟨s_92.1, s_92.2.1, s_92.2.2.1, s_92.2.2.2.1, (hS bk_93 s_92.2.2.2.2.1 cp_94), (hS bk_95 s_92.2.2.2.2.2.1 cp_96), (hS bk_97 s_92.2.2.2.2.2.2.1 cp_98)⟩ : T37o), s_92.2.2.2.2.2.2.2.1⟩ : T103o)], 1, (some bk_10), 103⟩, ⟨k84, s_92.2.2.2.2.1, cp_94, (some bk_93), 84⟩, ⟨(kSl k87), s_92.2.2.2.2.2.1, cp_96, (some bk_95), 85⟩, ⟨(kSl kByte), s_92.2.2.2.2.2.2.1, cp_98, (some bk_97), 43⟩] ∧ Tm 66 a [(0, .bool false), (1, (pA bk_10 Ik103o)), (20, hdr (some bk_40) [(⟨1, 0, 0, (⟨#[47, 97]⟩ : ByteArray), ByteArray.empty, ([] : (List UInt8)), 0, 0, 493, (0 : Nat)⟩ : T45), (⟨3, 0, 0, (⟨#[47, 97, 47, 102]⟩ : ByteArray), ByteArray.empty, ([] : (List UInt8)), 0, 0, 420, (0 : Nat)⟩ : T45)].length 2), (21, .int .i64 ([(⟨1, 0, 0, (⟨#[47, 97]⟩ : ByteArray), ByteArray.empty, ([] : (List UInt8)), 0, 0, 493, (0 : Nat)⟩ : T45), (⟨3, 0, 0, (⟨#[47, 97, 47, 102]⟩ : ByteArray), ByteArray.empty, ([] : (List UInt8)), 0, 0, 420, (0 : Nat)⟩ : T45)].length : Int)), (22, .int .i64 s_92.2.2.2.2.2.2.2.2)]) (fun (y : (Int × Nat × (List UInt8) × (List T56) × (List T84) × (List (List T87)) × (List (List UInt8)) × (List T100)) ⊕ Bool) e a w => match y with | .inl p_122 => e = .exit 0 ∧ ∃ (G11 : Gh) (bk_123 : Nat) (cp_124 : Nat) (bk_125 : Nat) (cp_126 : Nat) (bk_127 : Nat) (cp_128 : Nat), Gh.le G5 G11 ∧ St c G11 w [⟨k103o, [(⟨(⟨p_122.1, p_122.2.1, p_122.2.2.1, p_122.2.2.2.1, (hS bk_123 p_122.2.2.2.2.1 cp_124), (hS bk_125 p_122.2.2.2.2.2.1 cp_126), (hS bk_127 p_122.2.2.2.2.2.2.1 cp_128)⟩ : T37o), p_122.2.2.2.2.2.2.2⟩ : T103o)], 1, (some bk_10), 103⟩, ⟨k84, p_122.2.2.2.2.1, cp_124, (some bk_123), 84⟩, ⟨(kSl k87), p_122.2.2.2.2.2.1, cp_126, (some bk_125), 85⟩, ⟨(kSl kByte), p_122.2.2.2.2.2.2.1, cp_128, (some bk_127), 43⟩] ∧ Tm 66 a [(0, .bool false), (1, (pA bk_10 Ik103o))] | .inr q => e = .ret ∧ bodyPost prog f13 (FO c [] (R13 q)) e a w) hy_121 ⟨G5, bk_11, cp_14, bk_12, cp_15, bk_13, cp_16, gr, (St.sel [0, 1, 2, 3, 4] rfl h), (K.sub (so rfl))⟩ ?_ ?_
   · intro s_92 y_130 a w hm hI
     obtain ⟨G9, bk_93, cp_94, bk_95, cp_96, bk_97, cp_98, e_9, h, K⟩ := hI
     unfold m13_l_129 at hm
     refine sl <| binC _ K rfl rfl rfl fun a K => wn <| ws <| ifm hm K rfl (fun _ hm => ?_) fun _ hm => ?_
     · refine wk <| ws <| wb <| ws <| wl ?_
       obtain ⟨g_132, hm⟩ := gs hm
       refine ixo K rfl rfl g_132 s23 t45 fun a K => ld 0 Ik45 K h rfl rfl (gt_some g_132) t45 fun a v_133 K q_134 => alc K h z45 fun a w bk_135 K h => sto 0 Ik45 ([(gt [(⟨1, 0, 0, (⟨#[47, 97]⟩ : ByteArray), ByteArray.empty, ([] : (List UInt8)), 0, 0, 493, (0 : Nat)⟩ : T45), (⟨3, 0, 0, (⟨#[47, 97, 47, 102]⟩ : ByteArray), ByteArray.empty, ([] : (List UInt8)), 0, 0, 420, (0 : Nat)⟩ : T45)] s_92.2.2.2.2.2.2.2.2)]) K h rfl rfl rfl rfl q_134 t45 rfl rfl fun w h => nsl <| mv K rfl fun a K => ld 0 Ik45 K h rfl rfl rfl t45 fun a v_136 K q_137 => ?_
       obtain ⟨x_138, hx_138, hm⟩ := bs hm
       refine clw (Δ₁ := (o3 bk_10 bk_93 bk_95 bk_97 cp_94 cp_96 cp_98 (⟨(⟨s_92.1, s_92.2.1, s_92.2.2.1, s_92.2.2.2.1, s_92.2.2.2.2.1, s_92.2.2.2.2.2.1, s_92.2.2.2.2.2.2.1⟩ : T37), s_92.2.2.2.2.2.2.2.1⟩ : T103))) (Δ₂ := _) [5, 5, 5, 5] K h rfl rfl b20 (fun h => c20 hx_138 q_137 h) fun a w v_140 G12 Δx K e_12 h hR_139 => ?_
       obtain ⟨bk_141, bk_143, bk_145, cp_142, cp_144, cp_146, rfl, hR_139⟩ := hR_139
       replace h := St.cast (Δ' := (o3 bk_10 bk_141 bk_143 bk_145 cp_142 cp_144 cp_146 x_138.1 ++ [⟨k45, [(gt [(⟨1, 0, 0, (⟨#[47, 97]⟩ : ByteArray), ByteArray.empty, ([] : (List UInt8)), 0, 0, 493, (0 : Nat)⟩ : T45), (⟨3, 0, 0, (⟨#[47, 97, 47, 102]⟩ : ByteArray), ByteArray.empty, ([] : (List UInt8)), 0, 0, 420, (0 : Nat)⟩ : T45)] s_92.2.2.2.2.2.2.2.2)], 1, (some bk_135), 45⟩, ⟨k45, [(⟨1, 0, 0, (⟨#[47, 97]⟩ : ByteArray), ByteArray.empty, ([] : (List UInt8)), 0, 0, 493, (0 : Nat)⟩ : T45), (⟨3, 0, 0, (⟨#[47, 97, 47, 102]⟩ : ByteArray), ByteArray.empty, ([] : (List UInt8)), 0, 0, 420, (0 : Nat)⟩ : T45)], 2, (some bk_40), 45⟩])) h rfl
       refine fdV F58_0 K rfl hR_139 rfl o58_0 ft58_0 t28 fun a v_150 K q_151 => ?_
       obtain rfl : v_150 = .int .i64 x_138.2.Err := kInt_val.1 q_151
       refine binC _ K rfl rfl rfl fun a K => wn <| ifm hm K rfl (fun _ hm => ?_) fun _ hm => ?_
       · refine sl <| asg K rfl fun a K => wn <| wt ?_
         obtain rfl := oi hm
         exact ⟨by simp, rfl, (fr f13 K (St.sel [] rfl h) rfl ⟨rfl, ⟨⟩⟩ ⟨rfl, rfl⟩)⟩
       refine wk <| wl <| binI _ K rfl rfl rfl fun a K => mv K rfl fun a K => wn ?_
       obtain rfl := oi hm
       exact ⟨rfl, ⟨G12, bk_141, cp_142, bk_143, cp_144, bk_145, cp_146, (Gh.trans e_9 e_12), (St.sel [5, 0, 1, 2, 3] rfl h), (K.sub (so rfl))⟩⟩
     refine wp_exit ?_
     obtain rfl := oi hm
     exact ⟨by simp, rfl, ⟨G9, bk_93, cp_94, bk_95, cp_96, bk_97, cp_98, e_9, (St.sel [1, 2, 3, 4] rfl h), (K.sub (so rfl))⟩⟩
   intro e a w hD
   rcases y_121 with p_122 | q_225
   · simp only [Sum.elim_inl, Sum.elim_inr] at hm
     obtain ⟨rfl, ⟨G11, bk_123, cp_124, bk_125, cp_126, bk_127, cp_128, e_11, h, K⟩⟩ := hD
     refine sl <| mv K rfl fun a K => bldS (f := kByte) (by decide) [(b8 97), (b8 98), (b8 99)] K h rfl s43 t5 rfl z5 (.cons (Fld.idx kByte 0 (by decide)) rfl (show kByte.val _ _ _ from (byte_val rfl)) (.cons (Fld.idx kByte 1 (by decide)) rfl (show kByte.val _ _ _ from (byte_val rfl)) (.cons (Fld.idx kByte 2 (by decide)) rfl (show kByte.val _ _ _ from (byte_val rfl)) .nil))) fun a w bk_153 K h => cvtBB 0 K h rfl rfl rfl s43 u5 fun a w K h => ?_
     obtain ⟨G13, e_13, h, q_154⟩ := frz 0 h rfl
     refine bld (⟨10, 0, 0, (⟨#[47, 97, 47, 102]⟩ : ByteArray), ByteArray.empty, [(b8 97), (b8 98), (b8 99)], 500, 0, 0, (0 : Nat)⟩ : T45) K h rfl pl45 rfl z45 (.cons F45_0 rfl int_val (.cons F45_3 rfl str_val (.cons F45_6 rfl int_val (.cons F45_5 rfl q_154 .nil)))) fun a v_155 K q_156 => ?_
     obtain ⟨x_157, hx_157, hm⟩ := bs hm
     refine clw (Δ₁ := (o3 bk_10 bk_123 bk_125 bk_127 cp_124 cp_126 cp_128 (⟨(⟨p_122.1, p_122.2.1, p_122.2.2.1, p_122.2.2.2.1, p_122.2.2.2.2.1, p_122.2.2.2.2.2.1, p_122.2.2.2.2.2.2.1⟩ : T37), p_122.2.2.2.2.2.2.2⟩ : T103))) (Δ₂ := _) [3, 3, 3, 3] K h rfl rfl b20 (fun h => c20 hx_157 q_156 h) fun a w v_159 G14 Δx K e_14 h hR_158 => ?_
     obtain ⟨bk_160, bk_162, bk_164, cp_161, cp_163, cp_165, rfl, hR_158⟩ := hR_158
     replace h := St.cast (Δ' := (o3 bk_10 bk_160 bk_162 bk_164 cp_161 cp_163 cp_165 x_157.1)) h rfl
     refine alc K h z58 fun a w bk_169 K h => sto 0 Ik58 ([x_157.2]) K h rfl rfl rfl rfl hR_158 t58 rfl rfl fun w h => nsl <| mv K rfl fun a K => bld (⟨9, 0, 0, (⟨#[47, 97, 47, 102]⟩ : ByteArray), ByteArray.empty, ([] : (List UInt8)), 498, 9, 0, (0 : Nat)⟩ : T45) K h rfl pl45 rfl z45 (.cons F45_0 rfl int_val (.cons F45_3 rfl str_val (.cons F45_6 rfl int_val (.cons F45_7 rfl int_val .nil)))) fun a v_170 K q_171 => ?_
     obtain ⟨x_172, hx_172, hm⟩ := bs hm
     refine clw (Δ₁ := (o3 bk_10 bk_160 bk_162 bk_164 cp_161 cp_163 cp_165 x_157.1)) (Δ₂ := _) [4, 4, 4, 4] K h rfl rfl b20 (fun h => c20 hx_172 q_171 h) fun a w v_174 G15 Δx K e_15 h hR_173 => ?_
     obtain ⟨bk_175, bk_177, bk_179, cp_176, cp_178, cp_180, rfl, hR_173⟩ := hR_173
     replace h := St.cast (Δ' := (o3 bk_10 bk_175 bk_177 bk_179 cp_176 cp_178 cp_180 x_172.1 ++ [⟨k58, [x_157.2], 1, (some bk_169), 58⟩])) h rfl
     refine alc K h z58 fun a w bk_184 K h => sto 0 Ik58 ([x_172.2]) K h rfl rfl rfl rfl hR_173 t58 rfl rfl fun w h => wn <| ws <| wl ?_
     obtain ⟨x_185, hx_185, hm⟩ := bs hm
     refine clp K h rfl b37 (fun h => c37 hx_185 h) fun a w v G16 K e_16 h hR_186 => ?_
     obtain rfl := hR_186
     refine mv K rfl fun a K => ?_
     rcases im hm with ⟨c_187, hm⟩ | ⟨c_187, hm⟩
     · refine g2 K c_187 <| fa F58_1 K rfl o58_1 fun a K => g2 K c_187 <| ld1 5 J58_1 (.int .i64 x_157.2.N) K h rfl rfl rfl t3 vI fun a K => g2 K c_187 <| binC _ K rfl rfl rfl fun a K => pkT K rfl c_187 rfl fun a K => mv K rfl fun a K => ?_
       rcases im hm with ⟨c_188, hm⟩ | ⟨c_188, hm⟩
       · refine g2 K c_188 <| fa F58_2 K rfl o58_2 fun a K => g2 K c_188 <| ld 0 J58_2 K h rfl rfl rfl t43 fun a v_189 K q_190 => g2 K c_188 <| cvtBS K h rfl q_190 s43 u9 u5 fun a K => g2 K c_188 <| binS _ K rfl rfl rfl fun a K => pkT K rfl c_188 rfl fun a K => mv K rfl fun a K => ?_
         rcases im hm with ⟨c_191, hm⟩ | ⟨c_191, hm⟩
         · refine g2 K c_191 <| mv K rfl fun a K => g2 K c_191 <| bld (⟨25, 0, 0, ByteArray.empty, ByteArray.empty, ([] : (List UInt8)), 0, 0, 0, (0 : Nat)⟩ : T45) K h rfl pl45 rfl z45 (.cons F45_0 rfl int_val .nil) fun a v_192 K q_193 => gy K rfl rfl c_191 ?_
           obtain ⟨x_194, hx_194, hm⟩ := bs hm
           refine clw (Δ₁ := (o3 bk_10 bk_175 bk_177 bk_179 cp_176 cp_178 cp_180 x_172.1)) (Δ₂ := _) [4, 4, 4, 4] K h rfl rfl b20 (fun h => c20 hx_194 q_193 h) fun a w v_196 G17 Δx K e_17 h hR_195 => ?_
           obtain ⟨bk_197, bk_199, bk_201, cp_198, cp_200, cp_202, rfl, hR_195⟩ := hR_195
           replace h := St.cast (Δ' := (o3 bk_10 bk_197 bk_199 bk_201 cp_198 cp_200 cp_202 x_194.1 ++ [⟨k58, [x_172.2], 1, (some bk_184), 58⟩, ⟨k58, [x_157.2], 1, (some bk_169), 58⟩])) h rfl
           refine g2 K c_191 <| fdV F58_1 K rfl hR_195 rfl o58_1 ft58_1 t3 fun a v_206 K q_207 => ?_
           obtain rfl : v_206 = .int .i64 x_194.2.N := kInt_val.1 q_207
           refine g2 K c_191 <| binC _ K rfl rfl rfl fun a K => pkT K rfl c_191 rfl fun a K => mv K rfl fun a K => ?_
           rcases im hm with ⟨c_208, hm⟩ | ⟨c_208, hm⟩
           · refine g2 K c_208 <| mv K rfl fun a K => g2 K c_208 <| bld (⟨2, 0, 0, (⟨#[47, 97]⟩ : ByteArray), ByteArray.empty, ([] : (List UInt8)), 0, 0, 0, (0 : Nat)⟩ : T45) K h rfl pl45 rfl z45 (.cons F45_0 rfl int_val (.cons F45_3 rfl str_val .nil)) fun a v_209 K q_210 => gy K rfl rfl c_208 ?_
             obtain ⟨x_211, hx_211, hm⟩ := bs hm
             refine clw (Δ₁ := (o3 bk_10 bk_197 bk_199 bk_201 cp_198 cp_200 cp_202 x_194.1)) (Δ₂ := _) [3, 3, 3, 3] K h rfl rfl b20 (fun h => c20 hx_211 q_210 h) fun a w v_213 G18 Δx K e_18 h hR_212 => ?_
             obtain ⟨bk_214, bk_216, bk_218, cp_215, cp_217, cp_219, rfl, hR_212⟩ := hR_212
             replace h := St.cast (Δ' := (o3 bk_10 bk_214 bk_216 bk_218 cp_215 cp_217 cp_219 x_211.1 ++ [⟨k58, [x_172.2], 1, (some bk_184), 58⟩, ⟨k58, [x_157.2], 1, (some bk_169), 58⟩])) h rfl
             refine g2 K c_208 <| fdV F58_0 K rfl hR_212 rfl o58_0 ft58_0 t28 fun a v_223 K q_224 => ?_
             obtain rfl : v_223 = .int .i64 x_211.2.Err := kInt_val.1 q_224
             refine g2 K c_208 <| binC _ K rfl rfl rfl fun a K => pkT K rfl c_208 rfl fun a K => asg K rfl fun a K => wn <| wt ?_
             obtain rfl := oi hm
             exact fr f13 K (St.sel [] rfl h) rfl ⟨rfl, ⟨⟩⟩ ⟨rfl, rfl⟩
           refine g1 K c_208 fun a K => g1 K c_208 fun a K => g1 K c_208 fun a K => g1 K c_208 fun a K => g1 K c_208 fun a K => pkF K rfl c_208 rfl fun a K => asg K rfl fun a K => wn <| wt ?_
           obtain rfl := oi hm
           exact fr f13 K (St.sel [] rfl h) rfl ⟨rfl, ⟨⟩⟩ ⟨rfl, rfl⟩
         refine g1 K c_191 fun a K => g1 K c_191 fun a K => g1 K c_191 fun a K => g1 K c_191 fun a K => g1 K c_191 fun a K => pkF K rfl c_191 rfl fun a K => mv K rfl fun a K => g1 K rfl fun a K => g1 K rfl fun a K => g1 K rfl fun a K => g1 K rfl fun a K => g1 K rfl fun a K => pkF K rfl rfl rfl fun a K => asg K rfl fun a K => wn <| wt ?_
         obtain rfl := oi hm
         exact fr f13 K (St.sel [] rfl h) rfl ⟨rfl, ⟨⟩⟩ ⟨rfl, rfl⟩
       refine g1 K c_188 fun a K => g1 K c_188 fun a K => g1 K c_188 fun a K => g1 K c_188 fun a K => pkF K rfl c_188 rfl fun a K => mv K rfl fun a K => g1 K rfl fun a K => g1 K rfl fun a K => g1 K rfl fun a K => g1 K rfl fun a K => g1 K rfl fun a K => pkF K rfl rfl rfl fun a K => mv K rfl fun a K => g1 K rfl fun a K => g1 K rfl fun a K => g1 K rfl fun a K => g1 K rfl fun a K => g1 K rfl fun a K => pkF K rfl rfl rfl fun a K => asg K rfl fun a K => wn <| wt ?_
       obtain rfl := oi hm
       exact fr f13 K (St.sel [] rfl h) rfl ⟨rfl, ⟨⟩⟩ ⟨rfl, rfl⟩
     refine g1 K c_187 fun a K => g1 K c_187 fun a K => g1 K c_187 fun a K => pkF K rfl c_187 rfl fun a K => mv K rfl fun a K => g1 K rfl fun a K => g1 K rfl fun a K => g1 K rfl fun a K => g1 K rfl fun a K => pkF K rfl rfl rfl fun a K => mv K rfl fun a K => g1 K rfl fun a K => g1 K rfl fun a K => g1 K rfl fun a K => g1 K rfl fun a K => g1 K rfl fun a K => pkF K rfl rfl rfl fun a K => mv K rfl fun a K => g1 K rfl fun a K => g1 K rfl fun a K => g1 K rfl fun a K => g1 K rfl fun a K => g1 K rfl fun a K => pkF K rfl rfl rfl fun a K => asg K rfl fun a K => wn <| wt ?_
     obtain rfl := oi hm
     exact fr f13 K (St.sel [] rfl h) rfl ⟨rfl, ⟨⟩⟩ ⟨rfl, rfl⟩
   simp only [Sum.elim_inr] at hm
   obtain rfl := oi hm
   obtain ⟨rfl, hD⟩ := hD
   exact hD
 refine wl <| mv K rfl fun a K => binC _ K rfl rfl rfl fun a K => mv K rfl fun a K => ?_
 rcases im hm with ⟨c_228, hm⟩ | ⟨c_228, hm⟩
 · refine g1 K c_228 fun a K => g1 K c_228 fun a K => pkT K rfl c_228 rfl fun a K => wn <| kk_227 true hm _ _ ⟨G1, gr, (St.sel [0, 1, 2, 3] rfl h), (K.sub (so rfl))⟩
 refine g2 K c_228 <| mv K rfl fun a K => g2 K c_228 <| binPn _ K rfl ⟨_, rfl⟩ rfl pt24 rfl fun a K => pkF K rfl c_228 rfl fun a K => wn <| kk_227 false hm _ _ ⟨G1, gr, (St.sel [0, 1, 2, 3] rfl h), (K.sub (so rfl))⟩
abbrev R18_n (r : (Option T103)) (up : Value) (v : Value) (H : Gh) : Prop := v = up
instance monR18_n {r : (Option T103)} {up : Value} : MonR (R18_n r up) := ⟨fun _ _ _ _ h => h⟩
theorem c18_n {r : (Option T103)} (hm : m18_n = some r) (h : St c G0 w []) : Calls prog 18 #[.pointer none] w (Fin c fun v H Δ => ∃ (up : Value) (Δp : List Own), Δ = Δp ∧ pto103 r up Δp ∧ R18_n r up v H) := by
 unfold m18_n at hm
 refine enter (n := 16) func18 rfl rfl rfl fun a K => sl <| asg K rfl fun a K => wn <| ws <| sl <| mv K rfl fun a K => binPnn _ K rfl rfl pt24 rfl fun a K => wn <| ifT K rfl rfl <| sl <| asg K rfl fun a K => wn <| wt ?_
 obtain rfl := oi hm
 exact fr f18 K (St.sel [] rfl h) rfl ⟨rfl, ⟨⟩⟩ ⟨.pointer none, [], rfl, ⟨rfl, rfl⟩, rfl⟩
abbrev R19_n (r : Int) (v : Value) (H : Gh) : Prop := v = .int .i64 r
instance monR19_n {r : Int} : MonR (R19_n r) := ⟨fun _ _ _ _ h => h⟩
theorem c19_n {r : Int} (hm : m19_n = some r) (h : St c G0 w []) : Calls prog 19 #[.pointer none] w (FO c [] (R19_n r)) := by
 unfold m19_n at hm
 refine enter (n := 20) func19 rfl rfl rfl fun a K => sl <| asg K rfl fun a K => wn <| ws <| sl <| mv K rfl fun a K => binPnn _ K rfl rfl pt24 rfl fun a K => wn <| ifT K rfl rfl <| sl <| asg K rfl fun a K => wn <| wt ?_
 obtain rfl := oi hm
 exact fr f19 K (St.sel [] rfl h) rfl ⟨rfl, ⟨⟩⟩ ⟨rfl, rfl⟩
abbrev R20_n (r : T58) (v : Value) (H : Gh) : Prop := k58.val H v r
instance monR20_n {r : T58} : MonR (R20_n r) := ⟨fun _ _ _ e h => Kd.val_mono e h⟩
theorem c20_n {p1 : T45} {r : T58} (hm : m20_n p1 = some r) {vp1 : Value} (hp1 : (k45.val G0 vp1 p1)) (h : St c G0 w []) : Calls prog 20 #[.pointer none, vp1] w (FO c [] (R20_n r)) := by
 unfold m20_n at hm
 refine enter (n := 46) func20 rfl rfl rfl fun a K => sl <| boxr K h rfl hp1 fun a w v_1 G1 K e_1 h q_2 => alc K h z58 fun a w bk_3 K h => wn <| ws <| sl <| mv K rfl fun a K => binPnn _ K rfl rfl pt24 rfl fun a K => wn <| ifT K rfl rfl <| sl <| bld (⟨1, 0, ([] : (List UInt8)), ([] : (List ByteArray)), (⟨0, 0, 0, 0, 0, 0, 0, 0, (List.replicate 2 (0 : Nat))⟩ : T54), Z56⟩ : T58) K h rfl pl58 rfl z58 (.cons F58_0 rfl int_val .nil) fun a v_4 K q_5 => sto 0 Ik58 ([(⟨1, 0, ([] : (List UInt8)), ([] : (List ByteArray)), (⟨0, 0, 0, 0, 0, 0, 0, 0, (List.replicate 2 (0 : Nat))⟩ : T54), Z56⟩ : T58)]) K h rfl rfl rfl rfl q_5 t58 rfl rfl fun w h => wn <| wt ?_
 obtain ⟨v_6, q_7, rb_8⟩ := resOwn (P := prog) (i := 0) (p := 4) 0 Ik58 h rfl (K.lk_eq 4 rfl) rfl t58
 obtain rfl := oi hm
 exact fr f20 K (St.sel [] rfl h) rfl ⟨rb_8, ⟨⟩⟩ ⟨rfl, q_7⟩
abbrev R15_n (r : T37) (v : Value) (H : Gh) : Prop := k37.val H v r
instance monR15_n {r : T37} : MonR (R15_n r) := ⟨fun _ _ _ e h => Kd.val_mono e h⟩
theorem c15_n {r : T37} (hm : m15_n = some r) (h : St c G0 w []) : Calls prog 15 #[.pointer none] w (FO c [] (R15_n r)) := by
 unfold m15_n at hm
 refine enter (n := 87) func15 rfl rfl rfl fun a K => sl <| alc K h z37 fun a w bk_1 K h => wn <| ws <| sl <| mv K rfl fun a K => binPnn _ K rfl rfl pt24 rfl fun a K => wn <| ifT K rfl rfl <| sl <| bld (⟨0, (0 : Nat), (List.replicate 16 (0 : UInt8)), ([] : (List T56)), ([] : (List T84)), ([] : (List (List T87))), ([] : (List (List UInt8)))⟩ : T37) K h rfl pl37 rfl z37 .nil fun a v_2 K q_3 => sto 0 Ik37 ([(⟨0, (0 : Nat), (List.replicate 16 (0 : UInt8)), ([] : (List T56)), ([] : (List T84)), ([] : (List (List T87))), ([] : (List (List UInt8)))⟩ : T37)]) K h rfl rfl rfl rfl q_3 t37 rfl rfl fun w h => wn <| wt ?_
 obtain ⟨v_4, q_5, rb_6⟩ := resOwn (P := prog) (i := 0) (p := 2) 0 Ik37 h rfl (K.lk_eq 2 rfl) rfl t37
 obtain rfl := oi hm
 exact fr f15 K (St.sel [] rfl h) rfl ⟨rb_6, ⟨⟩⟩ ⟨rfl, q_5⟩
abbrev R49 (r : Bool) (v : Value) (H : Gh) : Prop := v = .bool r
instance monR49 {r : Bool} : MonR (R49 r) := ⟨fun _ _ _ _ h => h⟩
theorem c49 {p0 : (List ByteArray)} {p1 : (List ByteArray)} {r : Bool} (hm : m49 p0 p1 = some r) {vp0 : Value} {vp1 : Value} (hp0 : ((kSl kStr).val G0 vp0 p0)) (hp1 : ((kSl kStr).val G0 vp1 p1)) (h : St c G0 w []) : Calls prog 49 #[vp0, vp1] w (FO c [] (R49 r)) := by
 unfold m49 at hm
 refine enter (n := 26) func49 rfl rfl rfl fun a K => sl <| asg K rfl fun a K => wn <| ws <| sl <| mv K rfl fun a K => lenV K rfl hp0 rfl s50 fun a K => mv K rfl fun a K => lenV K rfl hp1 rfl s50 fun a K => binC _ K rfl rfl rfl fun a K => wn <| ifm hm K rfl (fun _ hm => ?_) fun _ hm => ?_
 · refine sl <| asg K rfl fun a K => wn <| wt ?_
   obtain rfl := oi hm
   exact fr f49 K (St.sel [] rfl h) rfl ⟨rfl, ⟨⟩⟩ ⟨rfl, rfl⟩
 refine wk <| ws <| sl <| mv K rfl fun a K => lenV K rfl hp0 rfl s50 fun a K => mv K rfl fun a K => wn <| wb ?_
 obtain ⟨y_124, hy_124, hm⟩ := bs hm
 refine loop (S := Int) (R := Unit ⊕ Bool) (fun s_83 a w => Jn c G0 [] 26 [(0, vp0), (1, vp1), (4, .bool false), (12, .int .i64 (p0.length : Int)), (13, .int .i64 s_83)] a w) (fun (y : Unit ⊕ Bool) e a w => match y with | .inl p_125 => e = .exit 0 ∧ Jn c G0 [] 26 [(4, .bool false)] a w | .inr q => e = .ret ∧ bodyPost prog f49 (FO c [] (R49 q)) e a w) hy_124 ⟨G0, gr, (St.sel [] rfl h), (K.sub (so rfl))⟩ ?_ ?_
 · intro s_83 y_127 a w hm hI
   obtain ⟨G20, e_20, h, K⟩ := hI
   unfold m49_l_126 at hm
   refine sl <| binC _ K rfl rfl rfl fun a K => wn <| ws <| ifm hm K rfl (fun _ hm => ?_) fun _ hm => ?_
   · refine wk <| ws <| wb <| sl <| mv K rfl fun a K => asg K rfl fun a K => wn <| ws ?_
     obtain ⟨g_134, hm⟩ := gs hm
     obtain ⟨g_145, hm⟩ := gs hm
     refine wh 8 [(fT (kSl kStr) p0), fE _, (fT (kRef kStr) (gt p0 s_83)), fE _, (fT (kSl kStr) p1), fE _, (fT (kRef kStr) (gt p1 s_83)), fE _] [(0, _), (1, _), (4, _), (5, _), (12, _), (13, _), (14, _), (15, _)] mx K h (so rfl) ⟨?_, hpX [(5, _)] (fun s _ => ⟨s.2.2.2.1, ⟨⟩⟩) fun _ _ K t => mv K rfl t, ?_, hpQ (t := 18) (fun k => k.1) fun _ h K q t => ldr1 (.string (gt p0 s_83)) K h rfl q t9 vS t, ?_, hpX [(5, _)] (fun s _ => ⟨s.2.2.2.1, ⟨⟩⟩) fun _ _ K t => mv K rfl t, ?_, hpQ (t := 22) (fun k => k.1) fun _ h K q t => ldr1 (.string (gt p1 s_83)) K h rfl q t9 vS t, ⟨⟩⟩ ?_
     · intro a w G31 L X e_31 h K hs hk
       have hx : Sy.sub L [(0, vp0)] := ⟨hs.1, ⟨⟩⟩
       replace K := K.addx _ hx
       refine mv K rfl fun a K => wn <| ⟨rfl, G31, [], gr, h, _, K.dropx _ hx, ⟨rfl, (Kd.val_mono (Gh.trans e_20 e_31) hp0)⟩⟩
     · intro a w G33 L X e_33 h K hs hk
       obtain ⟨v_129, _, l_130, -, q_131⟩ := hk.1
       obtain ⟨v_132, _, l_133, -, rfl⟩ := hk.2.1
       have hx : Sy.sub L [(16, v_129), (17, .int .i64 s_83)] := ⟨l_130, l_133, ⟨⟩⟩
       replace K := K.addx _ hx
       refine ixs K rfl q_131 rfl g_134 s50 t9 fun a v_135 K q_136 => wn <| ⟨rfl, G33, [], gr, h, _, K.dropx _ hx, ⟨rfl, q_136⟩⟩
     · intro a w G35 L X e_35 h K hs hk
       have hx : Sy.sub L [(1, vp1)] := ⟨hs.2.1, ⟨⟩⟩
       replace K := K.addx _ hx
       refine mv K rfl fun a K => wn <| ⟨rfl, G35, [], gr, h, _, K.dropx _ hx, ⟨rfl, (Kd.val_mono (Gh.trans e_20 e_35) hp1)⟩⟩
     · intro a w G37 L X e_37 h K hs hk
       obtain ⟨v_140, _, l_141, -, q_142⟩ := hk.1
       obtain ⟨v_143, _, l_144, -, rfl⟩ := hk.2.1
       have hx : Sy.sub L [(20, v_140), (21, .int .i64 s_83)] := ⟨l_141, l_144, ⟨⟩⟩
       replace K := K.addx _ hx
       refine ixs K rfl q_142 rfl g_145 s50 t9 fun a v_146 K q_147 => wn <| ⟨rfl, G37, [], gr, h, _, K.dropx _ hx, ⟨rfl, q_147⟩⟩
     intro a w G39 L e_39 h K hs hg
     obtain ⟨v_151, l_153, -, q_152⟩ := hg 0 rfl rfl
     obtain ⟨v_155, l_157, -, q_156⟩ := hg 2 rfl rfl
     obtain ⟨v_159, l_161, -, q_160⟩ := hg 4 rfl rfl
     obtain ⟨v_163, l_165, -, q_164⟩ := hg 6 rfl rfl
     replace K := K.sub (l' := [(16, _), (17, _), (18, _), (19, _), (20, _), (21, _), (22, _), (23, _), (0, _), (1, _), (4, _), (5, _), (12, _), (13, _), (14, _), (15, _)]) ⟨l_153, gE (hg 1 rfl rfl), l_157, gE (hg 3 rfl rfl), l_161, gE (hg 5 rfl rfl), l_165, gE (hg 7 rfl rfl), hs.1, hs.2.1, hs.2.2.1, hs.2.2.2.1, hs.2.2.2.2.1, hs.2.2.2.2.2.1, hs.2.2.2.2.2.2.1, hs.2.2.2.2.2.2.2.1, ⟨⟩⟩
     refine binS _ K rfl rfl rfl fun a K => wn <| ifm hm K rfl (fun _ hm => ?_) fun _ hm => ?_
     · refine sl <| asg K rfl fun a K => wn <| wt ?_
       obtain rfl := oi hm
       exact ⟨by simp, rfl, (fr f49 K (St.sel [] rfl h) rfl ⟨rfl, ⟨⟩⟩ ⟨rfl, rfl⟩)⟩
     refine wk <| wl <| binI _ K rfl rfl rfl fun a K => mv K rfl fun a K => wn ?_
     obtain rfl := oi hm
     exact ⟨rfl, ⟨G39, (Gh.trans e_20 e_39), (St.sel [] rfl h), (K.sub (so rfl))⟩⟩
   refine wp_exit ?_
   obtain rfl := oi hm
   exact ⟨by simp, rfl, ⟨G20, e_20, (St.sel [] rfl h), (K.sub ⟨rfl, ⟨⟩⟩)⟩⟩
 intro e a w hD
 rcases y_124 with p_125 | q_168
 · simp only [Sum.elim_inl, Sum.elim_inr] at hm
   obtain ⟨rfl, ⟨G30, e_30, h, K⟩⟩ := hD
   refine sl <| asg K rfl fun a K => wn <| wt ?_
   obtain rfl := oi hm
   exact fr f49 K (St.sel [] rfl h) rfl ⟨rfl, ⟨⟩⟩ ⟨rfl, rfl⟩
 simp only [Sum.elim_inr] at hm
 obtain rfl := oi hm
 obtain ⟨rfl, hD⟩ := hD
 exact hD
abbrev R21 (r : Bool) (v : Value) (H : Gh) : Prop := v = .bool r
instance monR21 {r : Bool} : MonR (R21 r) := ⟨fun _ _ _ _ h => h⟩
theorem c21 {p0 : T58} {p1 : T58} {r : Bool} (hm : m21 p0 p1 = some r) {vp0 : Value} {vp1 : Value} (hp0 : (k58.val G0 vp0 p0)) (hp1 : (k58.val G0 vp1 p1)) (h : St c G0 w []) : Calls prog 21 #[vp0, vp1] w (FO c [] (R21 r)) := by
 unfold m21 at hm
 refine enter (n := 71) func21 rfl rfl rfl fun a K => sl <| box K h rfl hp0 fun a w bk_1 K h => box K h rfl hp1 fun a w bk_2 K h => asg K rfl fun a K => wn <| ws <| sl <| mv K rfl fun a K => wn <| wb ?_
 obtain ⟨y_102, hy_102, hm⟩ := bs hm
 refine loop (S := Int) (R := Unit ⊕ Bool) (fun s_68 a w => Jn c G0 [⟨k58, [p1], 1, (some bk_2), 58⟩, ⟨k58, [p0], 1, (some bk_1), 58⟩] 71 [(2, (pA bk_1 Ik58)), (3, (pA bk_2 Ik58)), (4, .bool false), (6, .int .i64 s_68)] a w) (fun (y : Unit ⊕ Bool) e a w => match y with | .inl p_103 => e = .exit 0 ∧ Jn c G0 [⟨k58, [p1], 1, (some bk_2), 58⟩, ⟨k58, [p0], 1, (some bk_1), 58⟩] 71 [(2, (pA bk_1 Ik58)), (3, (pA bk_2 Ik58)), (4, .bool false)] a w | .inr q => e = .ret ∧ bodyPost prog f21 (FO c [] (R21 q)) e a w) hy_102 ⟨G0, gr, (St.sel [0, 1] rfl h), (K.sub (so rfl))⟩ ?_ ?_
 · intro s_68 y_105 a w hm hI
   obtain ⟨G26, e_26, h, K⟩ := hI
   unfold m21_l_104 at hm
   refine sl <| binC _ K rfl rfl rfl fun a K => wn <| ws <| ifm hm K rfl (fun _ hm => ?_) fun _ hm => ?_
   · refine wk <| ws <| wb <| sl <| mv K rfl fun a K => asg K rfl fun a K => wn <| ws ?_
     obtain ⟨g_113, hm⟩ := gs hm
     obtain ⟨g_124, hm⟩ := gs hm
     refine wh 11 [fE _, fE _, fE _, fE _, fE _, fE _, fE _, fE _, fE _, fE _, fE _] [(2, _), (3, _), (4, _), (5, _), (6, _), (7, _), (8, _)] mx K h (so rfl) ⟨hpX [(5, _)] (fun s _ => ⟨s.2.2.2.1, ⟨⟩⟩) fun _ _ K t => mv K rfl t, hpX [(2, _)] (fun s _ => ⟨s.1, ⟨⟩⟩) fun _ _ K t => fa F58_4 K rfl o58_4 t, hpX [(10, _)] k1 fun _ _ K t => fa F54_8 K rfl o54_8 t, hpX [(9, _), (11, _)] (fun _ k => ⟨kE k.2.1, kE k.1, ⟨⟩⟩) fun _ _ K t => ixa K rfl rfl g_113 r52 t31 t, hpX [(12, _)] k1 fun _ h K t => ld1 1 ((J58_4.comp F54_8).comp (Fld.idx kF64 (s_68).toNat (inr_lt g_113))) (.float .f64 (gt p0.Stat.Times s_68)) K h rfl rfl rfl t31 vF t, hpX [(13, _)] k1 fun _ _ K t => clx (.int .u64 (((gt p0.Stat.Times s_68) : Nat) : Int)) x44 K rfl x_bits t, hpX [(5, _)] (fun s _ => ⟨s.2.2.2.1, ⟨⟩⟩) fun _ _ K t => mv K rfl t, hpX [(3, _)] (fun s _ => ⟨s.2.1, ⟨⟩⟩) fun _ _ K t => fa F58_4 K rfl o58_4 t, hpX [(16, _)] k1 fun _ _ K t => fa F54_8 K rfl o54_8 t, hpX [(15, _), (17, _)] (fun _ k => ⟨kE k.2.1, kE k.1, ⟨⟩⟩) fun _ _ K t => ixa K rfl rfl g_124 r52 t31 t, hpX [(18, _)] k1 fun _ h K t => ld1 0 ((J58_4.comp F54_8).comp (Fld.idx kF64 (s_68).toNat (inr_lt g_124))) (.float .f64 (gt p1.Stat.Times s_68)) K h rfl rfl rfl t31 vF t, ⟨⟩⟩ ?_
     intro a w G51 L e_51 h K hs hg
     replace K := K.sub (l' := [(9, _), (10, _), (11, _), (12, _), (13, _), (14, _), (15, _), (16, _), (17, _), (18, _), (19, _), (2, _), (3, _), (4, _), (5, _), (6, _), (7, _), (8, _)]) ⟨gE (hg 0 rfl rfl), gE (hg 1 rfl rfl), gE (hg 2 rfl rfl), gE (hg 3 rfl rfl), gE (hg 4 rfl rfl), gE (hg 5 rfl rfl), gE (hg 6 rfl rfl), gE (hg 7 rfl rfl), gE (hg 8 rfl rfl), gE (hg 9 rfl rfl), gE (hg 10 rfl rfl), hs.1, hs.2.1, hs.2.2.1, hs.2.2.2.1, hs.2.2.2.2.1, hs.2.2.2.2.2.1, hs.2.2.2.2.2.2.1, ⟨⟩⟩
     refine clx (.int .u64 (((gt p1.Stat.Times s_68) : Nat) : Int)) x44 K rfl x_bits fun a K => binC _ K rfl rfl rfl fun a K => wn <| ifm hm K rfl (fun _ hm => ?_) fun _ hm => ?_
     · refine sl <| asg K rfl fun a K => wn <| wt ?_
       obtain rfl := oi hm
       exact ⟨by simp, rfl, (fr f21 K (St.sel [] rfl h) rfl ⟨rfl, ⟨⟩⟩ ⟨rfl, rfl⟩)⟩
     refine wk <| wl <| binI _ K rfl rfl rfl fun a K => mv K rfl fun a K => wn ?_
     obtain rfl := oi hm
     exact ⟨rfl, ⟨G51, (Gh.trans e_26 e_51), (St.sel [0, 1] rfl h), (K.sub (so rfl))⟩⟩
   refine wp_exit ?_
   obtain rfl := oi hm
   exact ⟨by simp, rfl, ⟨G26, e_26, (St.sel [0, 1] rfl h), (K.sub (so rfl))⟩⟩
 intro e a w hD
 rcases y_102 with p_103 | q_166
 · simp only [Sum.elim_inl, Sum.elim_inr] at hm
   obtain ⟨rfl, ⟨G39, e_39, h, K⟩⟩ := hD
   refine sl <| bldA (f := kF64) [(0 : Nat), (0 : Nat)] K h rfl r52 t31 z52 .nil fun a v_139 K q_140 => bldA (f := kF64) [(0 : Nat), (0 : Nat)] K h rfl r52 t31 z52 .nil fun a v_141 K q_142 => fa F58_4 K rfl o58_4 fun a K => fa F54_8 K rfl o54_8 fun a K => sto 1 (J58_4.comp F54_8) ([({ p0 with Stat := ({ p0.Stat with Times := [(0 : Nat), (0 : Nat)] } : T54) } : T58)]) K h rfl rfl rfl rfl q_140 t52 rfl rfl fun w h => fa F58_4 K rfl o58_4 fun a K => fa F54_8 K rfl o54_8 fun a K => sto 0 (J58_4.comp F54_8) ([({ p1 with Stat := ({ p1.Stat with Times := [(0 : Nat), (0 : Nat)] } : T54) } : T58)]) K h rfl rfl rfl rfl q_142 t52 rfl rfl fun w h => nsl <| fa F58_0 K rfl o58_0 fun a K => ld1 1 J58_0 (.int .i64 p0.Err) K h rfl rfl rfl t28 vI fun a K => fa F58_0 K rfl o58_0 fun a K => ld1 0 J58_0 (.int .i64 p1.Err) K h rfl rfl rfl t28 vI fun a K => binC _ K rfl rfl rfl fun a K => mv K rfl fun a K => ?_
   rcases im hm with ⟨c_143, hm⟩ | ⟨c_143, hm⟩
   · refine g2 K c_143 <| fa F58_1 K rfl o58_1 fun a K => g2 K c_143 <| ld1 1 J58_1 (.int .i64 p0.N) K h rfl rfl rfl t3 vI fun a K => g2 K c_143 <| fa F58_1 K rfl o58_1 fun a K => g2 K c_143 <| ld1 0 J58_1 (.int .i64 p1.N) K h rfl rfl rfl t3 vI fun a K => g2 K c_143 <| binC _ K rfl rfl rfl fun a K => pkT K rfl c_143 rfl fun a K => mv K rfl fun a K => ?_
     rcases im hm with ⟨c_144, hm⟩ | ⟨c_144, hm⟩
     · refine g2 K c_144 <| fa F58_2 K rfl o58_2 fun a K => g2 K c_144 <| ld 1 J58_2 K h rfl rfl rfl t43 fun a v_145 K q_146 => g2 K c_144 <| cvtBS K h rfl q_146 s43 u9 u5 fun a K => g2 K c_144 <| fa F58_2 K rfl o58_2 fun a K => g2 K c_144 <| ld 0 J58_2 K h rfl rfl rfl t43 fun a v_147 K q_148 => g2 K c_144 <| cvtBS K h rfl q_148 s43 u9 u5 fun a K => g2 K c_144 <| binS _ K rfl rfl rfl fun a K => pkT K rfl c_144 rfl fun a K => mv K rfl fun a K => ?_
       rcases im hm with ⟨c_149, hm⟩ | ⟨c_149, hm⟩
       · refine g2 K c_149 <| fa F58_3 K rfl o58_3 fun a K => g2 K c_149 <| ld 1 J58_3 K h rfl rfl rfl t50 fun a v_150 K q_151 => g2 K c_149 <| fa F58_3 K rfl o58_3 fun a K => g2 K c_149 <| ld 0 J58_3 K h rfl rfl rfl t50 fun a v_152 K q_153 => gy K rfl rfl c_149 ?_
         obtain ⟨x_154, hx_154, hm⟩ := bs hm
         refine clp K h rfl b49 (fun h => c49 hx_154 q_151 q_153 h) fun a w v G52 K e_52 h hR_155 => ?_
         obtain rfl := hR_155
         refine pkT K rfl c_149 rfl fun a K => mv K rfl fun a K => ?_
         rcases im hm with ⟨c_156, hm⟩ | ⟨c_156, hm⟩
         · refine g2 K c_156 <| fa F58_4 K rfl o58_4 fun a K => g2 K c_156 <| ld 1 J58_4 K h rfl rfl rfl t54 fun a v_157 K q_158 => g2 K c_156 <| fa F58_4 K rfl o58_4 fun a K => g2 K c_156 <| ld 0 J58_4 K h rfl rfl rfl t54 fun a v_159 K q_160 => g2 K c_156 <| binEq _ K rfl rfl rfl q_158 q_160 eq54 (by decide) eg54 rfl fun a K => pkT K rfl c_156 rfl fun a K => mv K rfl fun a K => ?_
           rcases im hm with ⟨c_161, hm⟩ | ⟨c_161, hm⟩
           · refine g2 K c_161 <| fa F58_5 K rfl o58_5 fun a K => g2 K c_161 <| ld 1 J58_5 K h rfl rfl rfl t56 fun a v_162 K q_163 => g2 K c_161 <| fa F58_5 K rfl o58_5 fun a K => g2 K c_161 <| ld 0 J58_5 K h rfl rfl rfl t56 fun a v_164 K q_165 => g2 K c_161 <| binEq _ K rfl rfl rfl q_163 q_165 eq56 (by decide) eg56 rfl fun a K => pkT K rfl c_161 rfl fun a K => asg K rfl fun a K => wn <| wt ?_
             obtain rfl := oi hm
             exact fr f21 K (St.sel [] rfl h) rfl ⟨rfl, ⟨⟩⟩ ⟨rfl, rfl⟩
           refine g1 K c_161 fun a K => g1 K c_161 fun a K => g1 K c_161 fun a K => g1 K c_161 fun a K => g1 K c_161 fun a K => pkF K rfl c_161 rfl fun a K => asg K rfl fun a K => wn <| wt ?_
           obtain rfl := oi hm
           exact fr f21 K (St.sel [] rfl h) rfl ⟨rfl, ⟨⟩⟩ ⟨rfl, rfl⟩
         refine g1 K c_156 fun a K => g1 K c_156 fun a K => g1 K c_156 fun a K => g1 K c_156 fun a K => g1 K c_156 fun a K => pkF K rfl c_156 rfl fun a K => mv K rfl fun a K => g1 K rfl fun a K => g1 K rfl fun a K => g1 K rfl fun a K => g1 K rfl fun a K => g1 K rfl fun a K => pkF K rfl rfl rfl fun a K => asg K rfl fun a K => wn <| wt ?_
         obtain rfl := oi hm
         exact fr f21 K (St.sel [] rfl h) rfl ⟨rfl, ⟨⟩⟩ ⟨rfl, rfl⟩
       refine g1 K c_149 fun a K => g1 K c_149 fun a K => g1 K c_149 fun a K => g1 K c_149 fun a K => g1 K c_149 fun a K => pkF K rfl c_149 rfl fun a K => mv K rfl fun a K => g1 K rfl fun a K => g1 K rfl fun a K => g1 K rfl fun a K => g1 K rfl fun a K => g1 K rfl fun a K => pkF K rfl rfl rfl fun a K => mv K rfl fun a K => g1 K rfl fun a K => g1 K rfl fun a K => g1 K rfl fun a K => g1 K rfl fun a K => g1 K rfl fun a K => pkF K rfl rfl rfl fun a K => asg K rfl fun a K => wn <| wt ?_
       obtain rfl := oi hm
       exact fr f21 K (St.sel [] rfl h) rfl ⟨rfl, ⟨⟩⟩ ⟨rfl, rfl⟩
     refine g1 K c_144 fun a K => g1 K c_144 fun a K => g1 K c_144 fun a K => g1 K c_144 fun a K => g1 K c_144 fun a K => g1 K c_144 fun a K => g1 K c_144 fun a K => pkF K rfl c_144 rfl fun a K => mv K rfl fun a K => g1 K rfl fun a K => g1 K rfl fun a K => g1 K rfl fun a K => g1 K rfl fun a K => g1 K rfl fun a K => pkF K rfl rfl rfl fun a K => mv K rfl fun a K => g1 K rfl fun a K => g1 K rfl fun a K => g1 K rfl fun a K => g1 K rfl fun a K => g1 K rfl fun a K => pkF K rfl rfl rfl fun a K => mv K rfl fun a K => g1 K rfl fun a K => g1 K rfl fun a K => g1 K rfl fun a K => g1 K rfl fun a K => g1 K rfl fun a K => pkF K rfl rfl rfl fun a K => asg K rfl fun a K => wn <| wt ?_
     obtain rfl := oi hm
     exact fr f21 K (St.sel [] rfl h) rfl ⟨rfl, ⟨⟩⟩ ⟨rfl, rfl⟩
   refine g1 K c_143 fun a K => g1 K c_143 fun a K => g1 K c_143 fun a K => g1 K c_143 fun a K => g1 K c_143 fun a K => pkF K rfl c_143 rfl fun a K => mv K rfl fun a K => g1 K rfl fun a K => g1 K rfl fun a K => g1 K rfl fun a K => g1 K rfl fun a K => g1 K rfl fun a K => g1 K rfl fun a K => g1 K rfl fun a K => pkF K rfl rfl rfl fun a K => mv K rfl fun a K => g1 K rfl fun a K => g1 K rfl fun a K => g1 K rfl fun a K => g1 K rfl fun a K => g1 K rfl fun a K => pkF K rfl rfl rfl fun a K => mv K rfl fun a K => g1 K rfl fun a K => g1 K rfl fun a K => g1 K rfl fun a K => g1 K rfl fun a K => g1 K rfl fun a K => pkF K rfl rfl rfl fun a K => mv K rfl fun a K => g1 K rfl fun a K => g1 K rfl fun a K => g1 K rfl fun a K => g1 K rfl fun a K => g1 K rfl fun a K => pkF K rfl rfl rfl fun a K => asg K rfl fun a K => wn <| wt ?_
   obtain rfl := oi hm
   exact fr f21 K (St.sel [] rfl h) rfl ⟨rfl, ⟨⟩⟩ ⟨rfl, rfl⟩
 simp only [Sum.elim_inr] at hm
 obtain rfl := oi hm
 obtain ⟨rfl, hD⟩ := hD
 exact hD
end Go.Proofs.YthhhomgbpnmeeaaGreatDoor
