/- Each Go function does what its plain function says, where that comes to a value; printed by a program. -/
import Derived.Test.YthhhomgbpnmeeaaGreatDoorFn2
set_option linter.all false
namespace Go.Proofs.YthhhomgbpnmeeaaGreatDoor
open Go Go.Sy
set_option maxRecDepth 100000
set_option maxHeartbeats 2000000
open Tryz
variable {c : Cx} {G0 : Gh} {w : World}
abbrev R4 (r : Bool) (v : Value) (H : Gh) : Prop := v = .bool r
instance monR4 {r : Bool} : MonR (R4 r) := ⟨fun _ _ _ _ h => h⟩
theorem c4 {p0 : T45} {r : Bool} (hm : m4 p0 = some r) {vp0 : Value} (hp0 : (k45.val G0 vp0 p0)) (h : St c G0 w []) : Calls prog 4 #[vp0] w (FO c [] (R4 r)) := by
 unfold m4 at hm
 refine enter (n := 62) func4 rfl rfl rfl fun a K => sl <| boxr K h rfl hp0 fun a w v_1 G1 K e_1 h q_2 => asg K rfl fun a K => nsl <| asg K rfl fun a K => nsl <| bldA (f := kByte) [(0 : UInt8), (0 : UInt8), (0 : UInt8), (0 : UInt8), (0 : UInt8), (0 : UInt8), (0 : UInt8), (0 : UInt8), (0 : UInt8), (0 : UInt8), (0 : UInt8), (0 : UInt8), (0 : UInt8), (0 : UInt8), (0 : UInt8), (0 : UInt8)] K h rfl r22 t5 z22 .nil fun a v_3 K q_4 => ?_
 obtain ⟨x_5, hx_5, hm⟩ := bs hm
 refine clw (Δ₁ := []) (Δ₂ := _) [] K h rfl rfl b17 (fun h => c17 hx_5 q_4 h) fun a w v_7 G2 Δx K e_2 h hR_6 => ?_
 obtain ⟨u_9, D_10, rfl, hP_8, hR_6⟩ := hR_6
 obtain rfl := hR_6
 rcases hqx_11 : x_5.1 with _ | x_11
 · simp only [hqx_11] at hm hP_8
   obtain ⟨rfl, rfl⟩ := hP_8
   replace h := St.cast (Δ' := []) h rfl
   refine mv K rfl fun a K => extr K rfl rfl fun a K => extr K rfl rfl fun a K => asg K rfl fun a K => asg K rfl fun a K => wn <| ws <| joinS (S := Unit) (fun s_34 a w => Jn c G2 [] 62 [(1, v_1), (2, .bool false), (4, .pointer none), (45, .bool true)] a w) (fun s_34 => m4_j_35 s_34 = some r) (fun s_34 hm a w hJ => ?_) (fun kk_36 => ?_)
   · obtain ⟨G7, e_7, h, K⟩ := hJ
     unfold m4_j_35 at hm
     refine ifT K rfl rfl <| sl <| asg K rfl fun a K => wn <| wt ?_
     obtain rfl := oi hm
     exact fr f4 K (St.sel [] rfl h) rfl ⟨rfl, ⟨⟩⟩ ⟨rfl, rfl⟩
   refine wl ?_
   obtain ⟨x_37, hx_37, hm⟩ := bs hm
   refine clp K h rfl b13 (fun h => c13 hx_37 h) fun a w v G8 K e_8 h hR_38 => ?_
   obtain rfl := hR_38
   refine notB _ K rfl rfl fun a K => mv K rfl fun a K => ?_
   rcases im hm with ⟨c_39, hm⟩ | ⟨c_39, hm⟩
   · refine g1 K c_39 fun a K => g1 K c_39 fun a K => pkT K rfl c_39 rfl fun a K => mv K rfl fun a K => g1 K rfl fun a K => g1 K rfl fun a K => pkT K rfl rfl rfl fun a K => mv K rfl fun a K => g1 K rfl fun a K => g1 K rfl fun a K => g1 K rfl fun a K => pkT K rfl rfl rfl fun a K => mv K rfl fun a K => g1 K rfl fun a K => g1 K rfl fun a K => g1 K rfl fun a K => pkT K rfl rfl rfl fun a K => mv K rfl fun a K => g1 K rfl fun a K => g1 K rfl fun a K => g1 K rfl fun a K => g1 K rfl fun a K => g1 K rfl fun a K => pkT K rfl rfl rfl fun a K => mv K rfl fun a K => g1 K rfl fun a K => g1 K rfl fun a K => g1 K rfl fun a K => g1 K rfl fun a K => g1 K rfl fun a K => pkT K rfl rfl rfl fun a K => wn <| kk_36 () hm _ _ ⟨G8, e_8, (St.sel [] rfl h), (K.sub (so rfl))⟩
   refine g2 K c_39 <| mv K rfl fun a K => g2 K c_39 <| binC _ K rfl rfl rfl fun a K => pkF K rfl c_39 rfl fun a K => mv K rfl fun a K => ?_
   rcases im hm with ⟨c_40, hm⟩ | ⟨c_40, hm⟩
   · refine g1 K c_40 fun a K => g1 K c_40 fun a K => pkT K rfl c_40 rfl fun a K => mv K rfl fun a K => g1 K rfl fun a K => g1 K rfl fun a K => g1 K rfl fun a K => pkT K rfl rfl rfl fun a K => mv K rfl fun a K => g1 K rfl fun a K => g1 K rfl fun a K => g1 K rfl fun a K => pkT K rfl rfl rfl fun a K => mv K rfl fun a K => g1 K rfl fun a K => g1 K rfl fun a K => g1 K rfl fun a K => g1 K rfl fun a K => g1 K rfl fun a K => pkT K rfl rfl rfl fun a K => mv K rfl fun a K => g1 K rfl fun a K => g1 K rfl fun a K => g1 K rfl fun a K => g1 K rfl fun a K => g1 K rfl fun a K => pkT K rfl rfl rfl fun a K => wn <| kk_36 () hm _ _ ⟨G8, e_8, (St.sel [] rfl h), (K.sub (so rfl))⟩
   refine g2 K c_40 <| mv K rfl fun a K => g2 K c_40 <| binPnn _ K rfl rfl pt24 rfl fun a K => pkF K rfl c_40 rfl fun a K => mv K rfl fun a K => g1 K rfl fun a K => g1 K rfl fun a K => g1 K rfl fun a K => pkT K rfl rfl rfl fun a K => mv K rfl fun a K => g1 K rfl fun a K => g1 K rfl fun a K => g1 K rfl fun a K => pkT K rfl rfl rfl fun a K => mv K rfl fun a K => g1 K rfl fun a K => g1 K rfl fun a K => g1 K rfl fun a K => g1 K rfl fun a K => g1 K rfl fun a K => pkT K rfl rfl rfl fun a K => mv K rfl fun a K => g1 K rfl fun a K => g1 K rfl fun a K => g1 K rfl fun a K => g1 K rfl fun a K => g1 K rfl fun a K => pkT K rfl rfl rfl fun a K => wn <| kk_36 () hm _ _ ⟨G8, e_8, (St.sel [] rfl h), (K.sub (so rfl))⟩
 simp only [hqx_11] at hm hP_8
 obtain ⟨bk_12, bk_13, bk_14, bk_15, cp_16, cp_17, cp_18, rfl, rfl⟩ := hP_8
 replace h := St.cast (Δ' := (o3 bk_12 bk_13 bk_14 bk_15 cp_16 cp_17 cp_18 x_11)) h rfl
 refine mv K rfl fun a K => extr K rfl rfl fun a K => extr K rfl rfl fun a K => asg K rfl fun a K => asg K rfl fun a K => wn <| ws <| joinS (S := Bool) (fun s_147 a w => Jn c G2 (o3 bk_12 bk_13 bk_14 bk_15 cp_16 cp_17 cp_18 x_11) 62 [(1, v_1), (2, .bool false), (4, (pA bk_12 Ik103o)), (45, .bool s_147)] a w) (fun s_147 => m4_j_182 p0 x_11 s_147 = some r) (fun s_147 hm a w hJ => ?_) (fun kk_183 => ?_)
 · obtain ⟨G25, e_25, h, K⟩ := hJ
   unfold m4_j_182 at hm
   refine ifm hm K rfl (fun _ hm => ?_) fun _ hm => ?_
   · refine sl <| asg K rfl fun a K => wn <| wt ?_
     obtain rfl := oi hm
     exact fr f4 K (St.sel [] rfl h) rfl ⟨rfl, ⟨⟩⟩ ⟨rfl, rfl⟩
   refine wk <| sl <| mv K rfl fun a K => ldr K h rfl (Kd.val_mono (Gh.trans e_2 e_25) q_2) t45 fun a v_149 K q_150 => ?_
   obtain ⟨x_151, hx_151, hm⟩ := bs hm
   refine clw (Δ₁ := (o3 bk_12 bk_13 bk_14 bk_15 cp_16 cp_17 cp_18 x_11)) (Δ₂ := _) [3, 3, 3, 3] K h rfl rfl b20 (fun h => c20 hx_151 q_150 h) fun a w v_153 G26 Δx K e_26 h hR_152 => ?_
   obtain ⟨bk_154, bk_156, bk_158, cp_155, cp_157, cp_159, rfl, hR_152⟩ := hR_152
   replace h := St.cast (Δ' := (o3 bk_12 bk_154 bk_156 bk_158 cp_155 cp_157 cp_159 x_151.1)) h rfl
   refine alc K h z58 fun a w bk_163 K h => sto 0 Ik58 ([x_151.2]) K h rfl rfl rfl rfl hR_152 t58 rfl rfl fun w h => nsl <| far F45_0 K rfl (Kd.val_mono (Gh.trans e_2 (Gh.trans e_25 e_26)) q_2) o45_0 fun a v_164 K q_165 => ldr1 (.int .i64 p0.Kind) K h rfl q_165 t30 vI fun a K => binC _ K rfl rfl rfl fun a K => mv K rfl fun a K => ?_
   rcases im hm with ⟨c_166, hm⟩ | ⟨c_166, hm⟩
   · refine g2 K c_166 <| far F45_0 K rfl (Kd.val_mono (Gh.trans e_2 (Gh.trans e_25 e_26)) q_2) o45_0 fun a v_167 K q_168 => g2 K c_166 <| ldr1 (.int .i64 p0.Kind) K h rfl q_168 t30 vI fun a K => g2 K c_166 <| binC _ K rfl rfl rfl fun a K => pkT K rfl c_166 rfl fun a K => mv K rfl fun a K => ?_
     rcases im hm with ⟨c_169, hm⟩ | ⟨c_169, hm⟩
     · refine g1 K c_169 fun a K => g1 K c_169 fun a K => g1 K c_169 fun a K => pkT K rfl c_169 rfl fun a K => asg K rfl fun a K => wn <| wt ?_
       obtain rfl := oi hm
       exact fr f4 K (St.sel [] rfl h) rfl ⟨rfl, ⟨⟩⟩ ⟨rfl, rfl⟩
     refine g2 K c_169 <| ld 0 Ik58 K h rfl rfl rfl t58 fun a v_170 K q_171 => g2 K c_169 <| bld (⟨47, 0, ([] : (List UInt8)), ([] : (List ByteArray)), (⟨0, 0, 0, 0, 0, 0, 0, 0, (List.replicate 2 (0 : Nat))⟩ : T54), Z56⟩ : T58) K h rfl pl58 rfl z58 (.cons F58_0 rfl int_val .nil) fun a v_172 K q_173 => gy K rfl rfl c_169 ?_
     obtain ⟨x_174, hx_174, hm⟩ := bs hm
     refine clp K h rfl b21 (fun h => c21 hx_174 q_171 q_173 h) fun a w v G27 K e_27 h hR_175 => ?_
     obtain rfl := hR_175
     refine pkF K rfl c_169 rfl fun a K => asg K rfl fun a K => wn <| wt ?_
     obtain rfl := oi hm
     exact fr f4 K (St.sel [] rfl h) rfl ⟨rfl, ⟨⟩⟩ ⟨rfl, rfl⟩
   refine g1 K c_166 fun a K => g1 K c_166 fun a K => g1 K c_166 fun a K => pkF K rfl c_166 rfl fun a K => mv K rfl fun a K => g2 K rfl <| ld 0 Ik58 K h rfl rfl rfl t58 fun a v_176 K q_177 => g2 K rfl <| bld (⟨47, 0, ([] : (List UInt8)), ([] : (List ByteArray)), (⟨0, 0, 0, 0, 0, 0, 0, 0, (List.replicate 2 (0 : Nat))⟩ : T54), Z56⟩ : T58) K h rfl pl58 rfl z58 (.cons F58_0 rfl int_val .nil) fun a v_178 K q_179 => gy K rfl rfl rfl ?_
   obtain ⟨x_180, hx_180, hm⟩ := bs hm
   refine clp K h rfl b21 (fun h => c21 hx_180 q_177 q_179 h) fun a w v G28 K e_28 h hR_181 => ?_
   obtain rfl := hR_181
   refine pkF K rfl rfl rfl fun a K => asg K rfl fun a K => wn <| wt ?_
   obtain rfl := oi hm
   exact fr f4 K (St.sel [] rfl h) rfl ⟨rfl, ⟨⟩⟩ ⟨rfl, rfl⟩
 refine wl ?_
 obtain ⟨x_184, hx_184, hm⟩ := bs hm
 refine clp K h rfl b13 (fun h => c13 hx_184 h) fun a w v G29 K e_29 h hR_185 => ?_
 obtain rfl := hR_185
 refine notB _ K rfl rfl fun a K => mv K rfl fun a K => ?_
 rcases im hm with ⟨c_186, hm⟩ | ⟨c_186, hm⟩
 · refine g1 K c_186 fun a K => g1 K c_186 fun a K => pkT K rfl c_186 rfl fun a K => mv K rfl fun a K => g1 K rfl fun a K => g1 K rfl fun a K => pkT K rfl rfl rfl fun a K => mv K rfl fun a K => g1 K rfl fun a K => g1 K rfl fun a K => g1 K rfl fun a K => pkT K rfl rfl rfl fun a K => mv K rfl fun a K => g1 K rfl fun a K => g1 K rfl fun a K => g1 K rfl fun a K => pkT K rfl rfl rfl fun a K => mv K rfl fun a K => g1 K rfl fun a K => g1 K rfl fun a K => g1 K rfl fun a K => g1 K rfl fun a K => g1 K rfl fun a K => pkT K rfl rfl rfl fun a K => mv K rfl fun a K => g1 K rfl fun a K => g1 K rfl fun a K => g1 K rfl fun a K => g1 K rfl fun a K => g1 K rfl fun a K => pkT K rfl rfl rfl fun a K => wn <| kk_183 true hm _ _ ⟨G29, e_29, (St.sel [0, 1, 2, 3] rfl h), (K.sub (so rfl))⟩
 refine g2 K c_186 <| mv K rfl fun a K => g2 K c_186 <| binC _ K rfl rfl rfl fun a K => pkF K rfl c_186 rfl fun a K => mv K rfl fun a K => ?_
 rcases im hm with ⟨c_187, hm⟩ | ⟨c_187, hm⟩
 · refine g1 K c_187 fun a K => g1 K c_187 fun a K => pkT K rfl c_187 rfl fun a K => mv K rfl fun a K => g1 K rfl fun a K => g1 K rfl fun a K => g1 K rfl fun a K => pkT K rfl rfl rfl fun a K => mv K rfl fun a K => g1 K rfl fun a K => g1 K rfl fun a K => g1 K rfl fun a K => pkT K rfl rfl rfl fun a K => mv K rfl fun a K => g1 K rfl fun a K => g1 K rfl fun a K => g1 K rfl fun a K => g1 K rfl fun a K => g1 K rfl fun a K => pkT K rfl rfl rfl fun a K => mv K rfl fun a K => g1 K rfl fun a K => g1 K rfl fun a K => g1 K rfl fun a K => g1 K rfl fun a K => g1 K rfl fun a K => pkT K rfl rfl rfl fun a K => wn <| kk_183 true hm _ _ ⟨G29, e_29, (St.sel [0, 1, 2, 3] rfl h), (K.sub (so rfl))⟩
 refine g2 K c_187 <| mv K rfl fun a K => g2 K c_187 <| binPn _ K rfl ⟨_, rfl⟩ rfl pt24 rfl fun a K => pkF K rfl c_187 rfl fun a K => mv K rfl fun a K => g2 K rfl <| mv K rfl fun a K => gy K rfl rfl rfl ?_
 obtain ⟨x_188, hx_188, hm⟩ := bs hm
 refine clw (Δ₁ := []) (Δ₂ := _) [] K h rfl rfl b18 (fun h => c18_n hx_188 h) fun a w v_190 G30 Δx K e_30 h hR_189 => ?_
 obtain ⟨u_192, D_193, rfl, hP_191, hR_189⟩ := hR_189
 obtain rfl := hR_189
 rcases hqx_194 : x_188 with _ | x_194
 · simp only [hqx_194] at hm hP_191
   obtain ⟨rfl, rfl⟩ := hP_191
   replace h := St.cast (Δ' := (o3 bk_12 bk_13 bk_14 bk_15 cp_16 cp_17 cp_18 x_11)) h rfl
   refine g2 K rfl <| binPnn _ K rfl rfl pt24 rfl fun a K => pkF K rfl rfl rfl fun a K => mv K rfl fun a K => g2 K rfl <| mv K rfl fun a K => gy K rfl rfl rfl ?_
   obtain ⟨x_202, hx_202, hm⟩ := bs hm
   refine clp K h rfl b19 (fun h => c19_n hx_202 h) fun a w v G31 K e_31 h hR_203 => ?_
   obtain rfl := hR_203
   refine g2 K rfl <| binC _ K rfl rfl rfl fun a K => pkF K rfl rfl rfl fun a K => mv K rfl fun a K => ?_
   rcases im hm with ⟨c_204, hm⟩ | ⟨c_204, hm⟩
   · refine g1 K c_204 fun a K => g1 K c_204 fun a K => g1 K c_204 fun a K => g1 K c_204 fun a K => g1 K c_204 fun a K => pkT K rfl c_204 rfl fun a K => mv K rfl fun a K => g1 K rfl fun a K => g1 K rfl fun a K => g1 K rfl fun a K => g1 K rfl fun a K => g1 K rfl fun a K => pkT K rfl rfl rfl fun a K => wn <| kk_183 true hm _ _ ⟨G31, (Gh.trans e_29 (Gh.trans e_30 e_31)), (St.sel [0, 1, 2, 3] rfl h), (K.sub (so rfl))⟩
   refine g2 K c_204 <| mv K rfl fun a K => g2 K c_204 <| ldr K h rfl (Kd.val_mono (Gh.trans e_2 (Gh.trans e_29 (Gh.trans e_30 e_31))) q_2) t45 fun a v_205 K q_206 => gy K rfl rfl c_204 ?_
   obtain ⟨x_207, hx_207, hm⟩ := bs hm
   refine clp K h rfl b20 (fun h => c20_n hx_207 q_206 h) fun a w v_209 G32 K e_32 h hR_208 => g2 K c_204 <| fdV F58_0 K rfl hR_208 rfl o58_0 ft58_0 t28 fun a v_210 K q_211 => ?_
   obtain rfl : v_210 = .int .i64 x_207.Err := kInt_val.1 q_211
   refine g2 K c_204 <| binC _ K rfl rfl rfl fun a K => pkF K rfl c_204 rfl fun a K => mv K rfl fun a K => ?_
   rcases im hm with ⟨c_212, hm⟩ | ⟨c_212, hm⟩
   · refine g1 K c_212 fun a K => g1 K c_212 fun a K => g1 K c_212 fun a K => g1 K c_212 fun a K => g1 K c_212 fun a K => pkT K rfl c_212 rfl fun a K => wn <| kk_183 true hm _ _ ⟨G32, (Gh.trans e_29 (Gh.trans e_30 (Gh.trans e_31 e_32))), (St.sel [0, 1, 2, 3] rfl h), (K.sub (so rfl))⟩
   refine g2 K c_212 <| mv K rfl fun a K => gy K rfl rfl c_212 ?_
   obtain ⟨x_213, hx_213, hm⟩ := bs hm
   refine clp K h rfl b15 (fun h => c15_n hx_213 h) fun a w v_215 G33 K e_33 h hR_214 => g2 K c_212 <| fdV F37_4 K rfl hR_214 rfl o37_4 ft37_4 t33 fun a v_216 K q_217 => g2 K c_212 <| lenV K rfl q_217 rfl s33 fun a K => g2 K c_212 <| binC _ K rfl rfl rfl fun a K => pkF K rfl c_212 rfl fun a K => wn <| kk_183 ((x_213.Inodes.length : Int) != 0) hm _ _ ⟨G33, (Gh.trans e_29 (Gh.trans e_30 (Gh.trans e_31 (Gh.trans e_32 e_33)))), (St.sel [0, 1, 2, 3] rfl h), (K.sub (so rfl))⟩
 simp only [hqx_194] at hm hP_191
 obtain ⟨bk_195, bk_196, bk_197, bk_198, cp_199, cp_200, cp_201, rfl, rfl⟩ := hP_191
 replace h := St.cast (Δ' := (o3 bk_195 bk_196 bk_197 bk_198 cp_199 cp_200 cp_201 x_194 ++ (o3 bk_12 bk_13 bk_14 bk_15 cp_16 cp_17 cp_18 x_11))) h rfl
 refine g2 K rfl <| binPn _ K rfl ⟨_, rfl⟩ rfl pt24 rfl fun a K => pkF K rfl rfl rfl fun a K => mv K rfl fun a K => g1 K rfl fun a K => g1 K rfl fun a K => g1 K rfl fun a K => pkT K rfl rfl rfl fun a K => mv K rfl fun a K => g1 K rfl fun a K => g1 K rfl fun a K => g1 K rfl fun a K => g1 K rfl fun a K => g1 K rfl fun a K => pkT K rfl rfl rfl fun a K => mv K rfl fun a K => g1 K rfl fun a K => g1 K rfl fun a K => g1 K rfl fun a K => g1 K rfl fun a K => g1 K rfl fun a K => pkT K rfl rfl rfl fun a K => wn <| kk_183 true hm _ _ ⟨G30, (Gh.trans e_29 e_30), (St.sel [4, 5, 6, 7] rfl h), (K.sub (so rfl))⟩
end Go.Proofs.YthhhomgbpnmeeaaGreatDoor
