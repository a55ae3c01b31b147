/- runs -/
import Derived.Test.YtinkiihdnepfjaaGreatDoorCdA
import Derived.Test.YtinkiihdnepfjaaGreatDoorCdB
import Derived.Test.YtinkiihdnepfjaaGreatDoorCdC
set_option linter.unusedSimpArgs false
set_option linter.unusedVariables false
set_option maxRecDepth 100000
namespace Go.Proofs.YtinkiihdnepfjaaGreatDoor.Code
open Go.Fw Go.Fw.K
noncomputable def A9 : AFunc := ⟨1, (.seq (.region [.op 0 (.mov 2 (.const (.bool false)))] [])
 (.seq (.region [.op 0 (.mov 10 (.tmp 0)),
 .op 1 (.call 11 17 [.tmp 10, .const (.int .i64 0), .const (.int .i64 2)]),
 .op 2 (.bin 12 .add .plain (.const (.int .i64 3)) (.tmp 11)),
 .op 3 (.mov 3 (.tmp 12))] [])
 (.seq (.region [.op 0 (.mov 13 (.tmp 3)),
 .op 1 (.call 14 16 [.tmp 13, .const (.int .i64 30)]),
 .op 2 (.mov 4 (.tmp 14))] [])
 (.seq (.seq (.region [.op 0 (.mov 15 (.tmp 4)),
 .op 1 (.bin 16 .eql .ptr (.tmp 15) (.const (.nilPtr)))] [])
 (.cond (.tmp 16)
 (.seq (.region [.op 0 (.mov 2 (.const (.bool false)))] [])
 .ret)
 .skip))
 (.seq (.seq (.region [.op 0 (.mov 5 (.const (.int .i64 0)))] [])
 (.block 0 (.loop ⟨[3, 4, 5], []⟩ [((.exit 0), ⟨[3, 4], []⟩), (.ret, ⟨[2], []⟩)]
 (.seq (.seq (.region [.op 0 (.mov 17 (.tmp 5)),
 .op 1 (.bin 18 .lss .plain (.tmp 17) (.const (.int .i64 200)))] [])
 (.cond (.tmp 18)
 .skip
 (.exit 0)))
 (.seq (.block 1 (.seq (.seq (.region [.op 0 (.mov 6 (.const (.int .i64 0)))] [])
 (.block 2 (.loop ⟨[3, 4, 5, 6], []⟩ [((.exit 2), ⟨[3, 4, 5], []⟩), (.ret, ⟨[2], []⟩)]
 (.seq (.seq (.region [.op 0 (.mov 21 (.tmp 6)),
 .op 1 (.mov 22 (.tmp 3)),
 .op 2 (.bin 23 .leq .plain (.tmp 21) (.tmp 22))] [])
 (.cond (.tmp 23)
 .skip
 (.exit 2)))
 (.seq (.block 3 (.seq (.region [.op 0 (.mov 26 (.tmp 6)),
 .op 1 (.bin 27 .neq .plain (.tmp 26) (.const (.int .i64 1))),
 .op 2 (.mov 28 (.tmp 27)),
 .guard 28 true [.op 3 (.mov 29 (.tmp 4)),
 .op 4 (.mov 30 (.tmp 6)),
 .op 5 (.call 31 19 [.tmp 29, .tmp 30, .const (.int .i64 1)]),
 .op 6 (.un 32 .not (.tmp 31))] [] [32],
 .op 7 (.pick 33 (.tmp 28) (.tmp 32) (.const (.bool false)))] [])
 (.cond (.tmp 33)
 (.seq (.region [.op 0 (.mov 2 (.const (.bool false)))] [])
 .ret)
 .skip)))
 (.region [.op 0 (.mov 24 (.tmp 6)),
 .op 1 (.bin 25 .add .plain (.tmp 24) (.const (.int .i64 1))),
 .op 2 (.mov 6 (.tmp 25))] []))))))
 (.seq (.region [.op 0 (.mov 7 (.const (.int .i64 0)))] [])
 (.seq (.seq (.region [.op 0 (.mov 34 (.tmp 4)),
 .op 1 (.call 35 33 [.tmp 34, .const (.int .i64 0)]),
 .op 2 (.len 36 false (.tmp 35)),
 .op 3 (.mov 37 (.const (.int .i64 0)))] [])
 (.block 4 (.loop ⟨[3, 4, 5, 7, 35, 36, 37], []⟩ [((.exit 4), ⟨[3, 4, 5, 7], []⟩), (.ret, ⟨[2], []⟩)]
 (.seq (.region [.op 0 (.bin 38 .lss .plain (.tmp 37) (.tmp 36))] [])
 (.seq (.cond (.tmp 38)
 .skip
 (.exit 4))
 (.seq (.block 5 (.seq (.region [.op 0 (.iaddr 39 none 9 (.tmp 35) (.tmp 37)),
 .op 1 (.load 40 true 9 (.tmp 39)),
 .op 2 (.alloc 9 true [.str [], .str [], .int .i64 0, .int .i64 0, .int .i64 0, .int .i64 0, .int .i64 0, .int .i64 0, .bool false]),
 .op 3 (.store true 9 (.tmp 9) (.tmp 40))] [])
 (.seq (.region [.op 0 (.faddr 41 8 (.tmp 9)),
 .op 1 (.load 42 false 1 (.tmp 41))] [])
 (.join [(.ret, ⟨[2], []⟩), (.normal, ⟨[3, 4, 5, 7, 35, 36, 37], []⟩)] (.cond (.tmp 42)
 (.seq (.region [.op 0 (.mov 43 (.tmp 7)),
 .op 1 (.bin 44 .add .plain (.tmp 43) (.const (.int .i64 1))),
 .op 2 (.mov 7 (.tmp 44))] [])
 (.seq (.region [.op 0 (.faddr 45 0 (.tmp 9)),
 .op 1 (.faddr 46 1 (.tmp 45)),
 .op 2 (.load 47 false 1 (.tmp 46)),
 .op 3 (.bin 48 .neq .plain (.tmp 47) (.const (.str [105, 100, 48])))] [])
 (.cond (.tmp 48)
 (.seq (.region [.op 0 (.mov 2 (.const (.bool false)))] [])
 .ret)
 .skip)))
 .skip)))))
 (.region [.op 0 (.bin 49 .add .plain (.tmp 37) (.const (.int .i64 1))),
 .op 1 (.mov 37 (.tmp 49))] [])))))))
 (.seq (.region [.op 0 (.mov 50 (.tmp 7)),
 .op 1 (.bin 51 .gtr .plain (.tmp 50) (.const (.int .i64 1)))] [])
 (.cond (.tmp 51)
 (.seq (.region [.op 0 (.mov 2 (.const (.bool false)))] [])
 .ret)
 .skip))))))
 (.region [.op 0 (.mov 19 (.tmp 5)),
 .op 1 (.bin 20 .add .plain (.tmp 19) (.const (.int .i64 1))),
 .op 2 (.mov 5 (.tmp 20))] []))))))
 (.seq (.region [.op 0 (.mov 52 (.tmp 4)),
 .op 1 (.call 53 33 [.tmp 52, .const (.int .i64 0)]),
 .op 2 (.len 54 false (.tmp 53)),
 .op 3 (.mov 55 (.tmp 3)),
 .op 4 (.bin 56 .eql .plain (.tmp 54) (.tmp 55)),
 .op 5 (.mov 57 (.tmp 56)),
 .guard 57 true [.op 6 (.call 58 22 [])] [] [58],
 .op 7 (.pick 59 (.tmp 57) (.tmp 58) (.const (.bool false))),
 .op 8 (.mov 2 (.tmp 59))] [])
 .ret)))))),
 [.tmp 2]⟩
theorem ok9 : funcOk Tryz.prog (drawOk Tryz.prog) Tryz.f9 A9 = true := by kernel_rfl
noncomputable def L9_1 (call : TCall) (xs : List AVal) (h : TH) : KJ :=
U4 (fun g11 g12 g13 g14 =>
V (kLeq g14 g11) fun v15 =>
C v15
(V (kNeq g14 (.int .i64 1)) fun v16 =>
Jn (G v16 true
(R (call 19 [g12, g14, (.int .i64 1)] h) fun v17 h18 =>
V (kNot v17) fun v19 =>
.out 0 [v19] h18)
(.out 0 [skipV] h)) fun _ x21 h20 =>
U1 (fun g22 =>
V (kPick v16 g22 (.bool false)) fun v23 =>
C v23
(.out 2 [(.bool false)] h20)
(V (kAdd g14 (.int .i64 1)) fun v24 =>
.out 0 [g11, g12, g13, v24] h20)) x21)
(.out 1 [g11, g12, g13] h)) xs
noncomputable def L9_2 (call : TCall) (xs : List AVal) (h : TH) : KJ :=
U7 (fun g34 g35 g36 g37 g38 g39 g40 =>
V (kLss g40 g39) fun v41 =>
C v41
(V (kIaddr 9 g38 g40) fun v42 =>
V (kLdA h 9 v42) fun v43 =>
V (kStL [.str [], .str [], .int .i64 0, .int .i64 0, .int .i64 0, .int .i64 0, .int .i64 0, .int .i64 0, .bool false] 0 9 v43) fun c44 =>
V (kLdL c44 false 8 1) fun v45 =>
Jn (C v45
(V (kAdd g37 (.int .i64 1)) fun v46 =>
V (kLdL c44 false 1 1) fun v47 =>
V (kNeq v47 (.str [105, 100, 48])) fun v48 =>
C v48
(.out 0 [(.bool false)] h)
(.out 1 [g34, g35, g36, v46, g38, g39, g40] h))
(.out 1 [g34, g35, g36, g37, g38, g39, g40] h)) fun i51 x50 h49 =>
ifB (Nat.beq i51 0) (U1 (fun g52 =>
.out 2 [g52] h49) x50) (
ifB (Nat.beq i51 1) (U7 (fun g53 g54 g55 g56 g57 g58 g59 =>
V (kAdd g59 (.int .i64 1)) fun v60 =>
.out 0 [g53, g54, g55, g56, g57, g58, v60] h49) x50) (
.no)))
(.out 1 [g34, g35, g36, g37] h)) xs
noncomputable def L9_0 (call : TCall) (xs : List AVal) (h : TH) : KJ :=
U3 (fun g7 g8 g9 =>
V (kLss g9 (.int .i64 200)) fun v10 =>
C v10
(Jn (Lp (L9_1 call) [g7, g8, g9, (.int .i64 0)] h) fun i27 x26 h25 =>
ifB (Nat.beq i27 1) (U3 (fun g28 g29 g30 =>
R (call 33 [g29, (.int .i64 0)] h25) fun v31 h32 =>
V (kLen false v31) fun v33 =>
Jn (Lp (L9_2 call) [g28, g29, g30, (.int .i64 0), v31, v33, (.int .i64 0)] h32) fun i63 x62 h61 =>
ifB (Nat.beq i63 1) (U4 (fun g64 g65 g66 g67 =>
V (kGtr g67 (.int .i64 1)) fun v68 =>
C v68
(.out 2 [(.bool false)] h61)
(V (kAdd g66 (.int .i64 1)) fun v69 =>
.out 0 [g64, g65, v69] h61)) x62) (
ifB (Nat.beq i63 2) (U1 (fun g70 =>
.out 2 [g70] h61) x62) (
.no))) x26) (
ifB (Nat.beq i27 2) (U1 (fun g71 =>
.out 2 [g71] h25) x26) (
.no)))
(.out 1 [g7, g8] h)) xs
noncomputable def F9 (call : TCall) (args : List AVal) (h : TH) : KR := ans (U1 (fun a0 =>
R (call 17 [a0, (.int .i64 0), (.int .i64 2)] h) fun v1 h2 =>
V (kAdd (.int .i64 3) v1) fun v3 =>
R (call 16 [v3, (.int .i64 30)] h2) fun v4 h5 =>
V (kEq .ptr v4 (.nilPtr)) fun v6 =>
C v6
(.out 0 [(.bool false)] h5)
(Jn (Lp (L9_0 call) [v3, v4, (.int .i64 0)] h5) fun i74 x73 h72 =>
ifB (Nat.beq i74 1) (U2 (fun g75 g76 =>
R (call 33 [g76, (.int .i64 0)] h72) fun v77 h78 =>
V (kLen false v77) fun v79 =>
V (kEql v79 g75) fun v80 =>
Jn (G v80 true
(R (call 22 [] h78) fun v81 h82 =>
.out 0 [v81] h82)
(.out 0 [skipV] h78)) fun _ x84 h83 =>
U1 (fun g85 =>
V (kPick v80 g85 (.bool false)) fun v86 =>
.out 0 [v86] h83) x84) x73) (
ifB (Nat.beq i74 2) (U1 (fun g87 =>
.out 0 [g87] h72) x73) (
.no)))) args)
theorem st9 (call : TCall) (args : List AVal) (h : TH) : kFunc call A9 args h = F9 call args h := by kernel_rfl
noncomputable def tblS : Tr TFn := (.node none (.node none (.node none (.node none (.node none (.node none (.node (some F63) (.node (some F127) .nil .nil) (.node (some F191) .nil .nil)) (.node (some F95) (.node none (.node (some F287) .nil .nil) .nil) .nil)) (.node (some F47) (.node (some F79) (.node (some F143) (.node (some F271) .nil .nil) .nil) .nil) (.node (some F111) (.node (some F175) .nil .nil) .nil))) (.node (some F23) (.node (some F39) (.node none (.node (some F135) (.node (some F263) .nil .nil) .nil) (.node (some F199) .nil .nil)) (.node none (.node (some F167) (.node (some F295) .nil .nil) .nil) .nil)) (.node none (.node (some F87) (.node (some F151) (.node (some F279) .nil .nil) .nil) (.node (some F215) .nil .nil)) (.node (some F119) (.node (some F183) .nil .nil) .nil)))) (.node none (.node (some F19) (.node none (.node (some F67) .nil .nil) (.node (some F99) (.node (some F163) .nil .nil) .nil)) (.node (some F51) (.node (some F83) (.node (some F147) (.node (some F275) .nil .nil) .nil) .nil) (.node (some F115) (.node (some F179) .nil .nil) .nil))) (.node (some F27) (.node (some F43) (.node (some F75) (.node (some F139) (.node (some F267) .nil .nil) .nil) .nil) (.node (some F107) (.node (some F171) .nil .nil) .nil)) (.node (some F59) (.node none (.node (some F155) .nil .nil) (.node (some F219) .nil .nil)) (.node (some F123) .nil .nil))))) (.node none (.node (some F9) (.node (some F17) (.node (some F33) (.node (some F65) (.node none (.node (some F257) .nil .nil) .nil) .nil) (.node (some F97) (.node (some F161) (.node (some F289) .nil .nil) .nil) .nil)) (.node none (.node (some F81) (.node (some F145) .nil .nil) (.node (some F209) .nil .nil)) (.node (some F113) (.node (some F177) .nil .nil) .nil))) (.node none (.node (some F41) (.node (some F73) (.node (some F137) (.node (some F265) .nil .nil) .nil) (.node (some F201) .nil .nil)) .nil) (.node (some F57) (.node none (.node (some F153) (.node (some F281) .nil .nil) .nil) (.node (some F217) .nil .nil)) .nil))) (.node none (.node (some F21) (.node (some F37) (.node (some F69) (.node (some F133) .nil .nil) (.node (some F197) .nil .nil)) (.node (some F101) (.node (some F165) .nil .nil) (.node (some F229) .nil .nil))) (.node none (.node (some F85) (.node (some F149) .nil .nil) (.node (some F213) .nil .nil)) (.node (some F117) .nil .nil))) (.node none (.node (some F45) (.node (some F77) (.node (some F141) (.node (some F269) .nil .nil) .nil) .nil) (.node (some F109) .nil .nil)) (.node (some F61) (.node (some F93) (.node (some F157) (.node (some F285) .nil .nil) .nil) .nil) (.node (some F125) (.node (some F189) .nil .nil) .nil)))))) (.node none (.node none (.node none (.node (some F16) (.node (some F32) (.node (some F64) (.node (some F128) .nil .nil) (.node (some F192) .nil .nil)) (.node (some F96) (.node none (.node (some F288) .nil .nil) .nil) (.node (some F224) .nil .nil))) (.node none (.node none (.node (some F144) (.node (some F272) .nil .nil) .nil) .nil) (.node (some F112) (.node (some F176) .nil .nil) .nil))) (.node (some F24) (.node (some F40) (.node none (.node (some F136) (.node (some F264) .nil .nil) .nil) (.node (some F200) .nil .nil)) (.node (some F104) (.node none (.node (some F296) .nil .nil) .nil) .nil)) (.node none (.node (some F88) (.node (some F152) (.node (some F280) .nil .nil) .nil) (.node (some F216) .nil .nil)) .nil))) (.node none (.node none (.node (some F36) (.node none (.node (some F132) (.node (some F260) .nil .nil) .nil) (.node (some F196) .nil .nil)) (.node (some F100) (.node (some F164) .nil .nil) .nil)) (.node (some F52) (.node none (.node (some F148) (.node (some F276) .nil .nil) .nil) (.node (some F212) .nil .nil)) (.node none (.node (some F180) .nil .nil) .nil))) (.node (some F28) (.node (some F44) (.node (some F76) (.node (some F140) (.node (some F268) .nil .nil) .nil) (.node (some F204) .nil .nil)) (.node (some F108) (.node (some F172) .nil .nil) .nil)) (.node (some F60) (.node (some F92) (.node (some F156) (.node (some F284) .nil .nil) .nil) .nil) (.node (some F124) .nil .nil))))) (.node none (.node none (.node (some F18) (.node none (.node (some F66) (.node (some F130) .nil .nil) .nil) (.node (some F98) (.node (some F162) .nil .nil) (.node (some F226) .nil .nil))) (.node (some F50) (.node (some F82) (.node (some F146) (.node (some F274) .nil .nil) .nil) (.node (some F210) .nil .nil)) (.node (some F114) (.node (some F178) .nil .nil) .nil))) (.node (some F26) (.node (some F42) (.node (some F74) (.node (some F138) (.node (some F266) .nil .nil) .nil) (.node (some F202) .nil .nil)) (.node (some F106) .nil .nil)) (.node (some F58) (.node none (.node (some F154) (.node (some F282) .nil .nil) .nil) .nil) .nil))) (.node none (.node (some F22) (.node none (.node none (.node (some F134) .nil .nil) (.node (some F198) .nil .nil)) (.node (some F102) (.node (some F166) .nil .nil) .nil)) (.node none (.node (some F86) (.node (some F150) (.node (some F278) .nil .nil) .nil) .nil) (.node none (.node (some F182) .nil .nil) .nil))) (.node (some F30) (.node (some F46) (.node (some F78) (.node none (.node (some F270) .nil .nil) .nil) (.node (some F206) .nil .nil)) (.node (some F110) (.node (some F174) .nil .nil) .nil)) (.node (some F62) (.node (some F94) (.node (some F158) (.node (some F286) .nil .nil) .nil) .nil) (.node (some F126) (.node (some F190) .nil .nil) .nil)))))))
noncomputable def tblA : Tr AFn := (.node none (.node none (.node none (.node none (.node none (.node none (.node (some (.code A63)) (.node (some (.code A127)) .nil .nil) (.node (some (.code A191)) .nil .nil)) (.node (some (.code A95)) (.node none (.node (some (.code A287)) .nil .nil) .nil) .nil)) (.node (some (.code A47)) (.node (some (.code A79)) (.node (some (.code A143)) (.node (some (.code A271)) .nil .nil) .nil) .nil) (.node (some (.code A111)) (.node (some (.code A175)) .nil .nil) .nil))) (.node (some (.code A23)) (.node (some (.code A39)) (.node none (.node (some (.code A135)) (.node (some (.code A263)) .nil .nil) .nil) (.node (some (.code A199)) .nil .nil)) (.node none (.node (some (.code A167)) (.node (some (.code A295)) .nil .nil) .nil) .nil)) (.node none (.node (some (.code A87)) (.node (some (.code A151)) (.node (some (.code A279)) .nil .nil) .nil) (.node (some (.code A215)) .nil .nil)) (.node (some (.code A119)) (.node (some (.code A183)) .nil .nil) .nil)))) (.node none (.node (some (.code A19)) (.node none (.node (some (.code A67)) .nil .nil) (.node (some (.code A99)) (.node (some (.code A163)) .nil .nil) .nil)) (.node (some (.code A51)) (.node (some (.code A83)) (.node (some (.code A147)) (.node (some (.code A275)) .nil .nil) .nil) .nil) (.node (some (.code A115)) (.node (some (.code A179)) .nil .nil) .nil))) (.node (some (.code A27)) (.node (some (.code A43)) (.node (some (.code A75)) (.node (some (.code A139)) (.node (some (.code A267)) .nil .nil) .nil) .nil) (.node (some (.code A107)) (.node (some (.code A171)) .nil .nil) .nil)) (.node (some (.code A59)) (.node none (.node (some (.code A155)) .nil .nil) (.node (some (.code A219)) .nil .nil)) (.node (some (.code A123)) .nil .nil))))) (.node none (.node (some (.code A9)) (.node (some (.code A17)) (.node (some (.code A33)) (.node (some (.code A65)) (.node none (.node (some (.code A257)) .nil .nil) .nil) .nil) (.node (some (.code A97)) (.node (some (.code A161)) (.node (some (.code A289)) .nil .nil) .nil) .nil)) (.node none (.node (some (.code A81)) (.node (some (.code A145)) .nil .nil) (.node (some (.code A209)) .nil .nil)) (.node (some (.code A113)) (.node (some (.code A177)) .nil .nil) .nil))) (.node none (.node (some (.code A41)) (.node (some (.code A73)) (.node (some (.code A137)) (.node (some (.code A265)) .nil .nil) .nil) (.node (some (.code A201)) .nil .nil)) .nil) (.node (some (.code A57)) (.node none (.node (some (.code A153)) (.node (some (.code A281)) .nil .nil) .nil) (.node (some (.code A217)) .nil .nil)) .nil))) (.node none (.node (some (.code A21)) (.node (some (.code A37)) (.node (some (.code A69)) (.node (some (.code A133)) .nil .nil) (.node (some (.code A197)) .nil .nil)) (.node (some (.code A101)) (.node (some (.code A165)) .nil .nil) (.node (some (.code A229)) .nil .nil))) (.node none (.node (some (.code A85)) (.node (some (.code A149)) .nil .nil) (.node (some (.code A213)) .nil .nil)) (.node (some (.code A117)) .nil .nil))) (.node none (.node (some (.code A45)) (.node (some (.code A77)) (.node (some (.code A141)) (.node (some (.code A269)) .nil .nil) .nil) .nil) (.node (some (.code A109)) .nil .nil)) (.node (some (.code A61)) (.node (some (.code A93)) (.node (some (.code A157)) (.node (some (.code A285)) .nil .nil) .nil) .nil) (.node (some (.code A125)) (.node (some (.code A189)) .nil .nil) .nil)))))) (.node none (.node none (.node none (.node (some (.code A16)) (.node (some (.code A32)) (.node (some (.code A64)) (.node (some (.code A128)) .nil .nil) (.node (some (.code A192)) .nil .nil)) (.node (some (.code A96)) (.node none (.node (some (.code A288)) .nil .nil) .nil) (.node (some (.code A224)) .nil .nil))) (.node none (.node none (.node (some (.code A144)) (.node (some (.code A272)) .nil .nil) .nil) .nil) (.node (some (.code A112)) (.node (some (.code A176)) .nil .nil) .nil))) (.node (some (.code A24)) (.node (some (.code A40)) (.node none (.node (some (.code A136)) (.node (some (.code A264)) .nil .nil) .nil) (.node (some (.code A200)) .nil .nil)) (.node (some (.code A104)) (.node none (.node (some (.code A296)) .nil .nil) .nil) .nil)) (.node none (.node (some (.code A88)) (.node (some (.code A152)) (.node (some (.code A280)) .nil .nil) .nil) (.node (some (.code A216)) .nil .nil)) .nil))) (.node none (.node none (.node (some (.code A36)) (.node none (.node (some (.code A132)) (.node (some (.code A260)) .nil .nil) .nil) (.node (some (.code A196)) .nil .nil)) (.node (some (.code A100)) (.node (some (.code A164)) .nil .nil) .nil)) (.node (some (.code A52)) (.node none (.node (some (.code A148)) (.node (some (.code A276)) .nil .nil) .nil) (.node (some (.code A212)) .nil .nil)) (.node none (.node (some (.code A180)) .nil .nil) .nil))) (.node (some (.code A28)) (.node (some (.code A44)) (.node (some (.code A76)) (.node (some (.code A140)) (.node (some (.code A268)) .nil .nil) .nil) (.node (some (.code A204)) .nil .nil)) (.node (some (.code A108)) (.node (some (.code A172)) .nil .nil) .nil)) (.node (some (.code A60)) (.node (some (.code A92)) (.node (some (.code A156)) (.node (some (.code A284)) .nil .nil) .nil) .nil) (.node (some (.code A124)) .nil .nil))))) (.node none (.node none (.node (some (.code A18)) (.node none (.node (some (.code A66)) (.node (some (.code A130)) .nil .nil) .nil) (.node (some (.code A98)) (.node (some (.code A162)) .nil .nil) (.node (some (.code A226)) .nil .nil))) (.node (some (.code A50)) (.node (some (.code A82)) (.node (some (.code A146)) (.node (some (.code A274)) .nil .nil) .nil) (.node (some (.code A210)) .nil .nil)) (.node (some (.code A114)) (.node (some (.code A178)) .nil .nil) .nil))) (.node (some (.code A26)) (.node (some (.code A42)) (.node (some (.code A74)) (.node (some (.code A138)) (.node (some (.code A266)) .nil .nil) .nil) (.node (some (.code A202)) .nil .nil)) (.node (some (.code A106)) .nil .nil)) (.node (some (.code A58)) (.node none (.node (some (.code A154)) (.node (some (.code A282)) .nil .nil) .nil) .nil) .nil))) (.node none (.node (some (.code A22)) (.node none (.node none (.node (some (.code A134)) .nil .nil) (.node (some (.code A198)) .nil .nil)) (.node (some (.code A102)) (.node (some (.code A166)) .nil .nil) .nil)) (.node none (.node (some (.code A86)) (.node (some (.code A150)) (.node (some (.code A278)) .nil .nil) .nil) .nil) (.node none (.node (some (.code A182)) .nil .nil) .nil))) (.node (some (.code A30)) (.node (some (.code A46)) (.node (some (.code A78)) (.node none (.node (some (.code A270)) .nil .nil) .nil) (.node (some (.code A206)) .nil .nil)) (.node (some (.code A110)) (.node (some (.code A174)) .nil .nil) .nil)) (.node (some (.code A62)) (.node (some (.code A94)) (.node (some (.code A158)) (.node (some (.code A286)) .nil .nil) .nil) .nil) (.node (some (.code A126)) (.node (some (.code A190)) .nil .nil) .nil)))))))
theorem tbl_is : Tr.All2 Is tblS tblA := ⟨⟨⟨⟨⟨⟨⟨is_code st63 (by kernel_rfl), ⟨is_code st127 (by kernel_rfl), trivial, trivial⟩, ⟨is_code st191 (by kernel_rfl), trivial, trivial⟩⟩, ⟨is_code st95 (by kernel_rfl), ⟨⟨is_code st287 (by kernel_rfl), trivial, trivial⟩, trivial⟩, trivial⟩⟩, ⟨is_code st47 (by kernel_rfl), ⟨is_code st79 (by kernel_rfl), ⟨is_code st143 (by kernel_rfl), ⟨is_code st271 (by kernel_rfl), trivial, trivial⟩, trivial⟩, trivial⟩, ⟨is_code st111 (by kernel_rfl), ⟨is_code st175 (by kernel_rfl), trivial, trivial⟩, trivial⟩⟩⟩, ⟨is_code st23 (by kernel_rfl), ⟨is_code st39 (by kernel_rfl), ⟨⟨is_code st135 (by kernel_rfl), ⟨is_code st263 (by kernel_rfl), trivial, trivial⟩, trivial⟩, ⟨is_code st199 (by kernel_rfl), trivial, trivial⟩⟩, ⟨⟨is_code st167 (by kernel_rfl), ⟨is_code st295 (by kernel_rfl), trivial, trivial⟩, trivial⟩, trivial⟩⟩, ⟨⟨is_code st87 (by kernel_rfl), ⟨is_code st151 (by kernel_rfl), ⟨is_code st279 (by kernel_rfl), trivial, trivial⟩, trivial⟩, ⟨is_code st215 (by kernel_rfl), trivial, trivial⟩⟩, ⟨is_code st119 (by kernel_rfl), ⟨is_code st183 (by kernel_rfl), trivial, trivial⟩, trivial⟩⟩⟩⟩, ⟨⟨is_code st19 (by kernel_rfl), ⟨⟨is_code st67 (by kernel_rfl), trivial, trivial⟩, ⟨is_code st99 (by kernel_rfl), ⟨is_code st163 (by kernel_rfl), trivial, trivial⟩, trivial⟩⟩, ⟨is_code st51 (by kernel_rfl), ⟨is_code st83 (by kernel_rfl), ⟨is_code st147 (by kernel_rfl), ⟨is_code st275 (by kernel_rfl), trivial, trivial⟩, trivial⟩, trivial⟩, ⟨is_code st115 (by kernel_rfl), ⟨is_code st179 (by kernel_rfl), trivial, trivial⟩, trivial⟩⟩⟩, ⟨is_code st27 (by kernel_rfl), ⟨is_code st43 (by kernel_rfl), ⟨is_code st75 (by kernel_rfl), ⟨is_code st139 (by kernel_rfl), ⟨is_code st267 (by kernel_rfl), trivial, trivial⟩, trivial⟩, trivial⟩, ⟨is_code st107 (by kernel_rfl), ⟨is_code st171 (by kernel_rfl), trivial, trivial⟩, trivial⟩⟩, ⟨is_code st59 (by kernel_rfl), ⟨⟨is_code st155 (by kernel_rfl), trivial, trivial⟩, ⟨is_code st219 (by kernel_rfl), trivial, trivial⟩⟩, ⟨is_code st123 (by kernel_rfl), trivial, trivial⟩⟩⟩⟩⟩, ⟨⟨is_code st9 (by kernel_rfl), ⟨is_code st17 (by kernel_rfl), ⟨is_code st33 (by kernel_rfl), ⟨is_code st65 (by kernel_rfl), ⟨⟨is_code st257 (by kernel_rfl), trivial, trivial⟩, trivial⟩, trivial⟩, ⟨is_code st97 (by kernel_rfl), ⟨is_code st161 (by kernel_rfl), ⟨is_code st289 (by kernel_rfl), trivial, trivial⟩, trivial⟩, trivial⟩⟩, ⟨⟨is_code st81 (by kernel_rfl), ⟨is_code st145 (by kernel_rfl), trivial, trivial⟩, ⟨is_code st209 (by kernel_rfl), trivial, trivial⟩⟩, ⟨is_code st113 (by kernel_rfl), ⟨is_code st177 (by kernel_rfl), trivial, trivial⟩, trivial⟩⟩⟩, ⟨⟨is_code st41 (by kernel_rfl), ⟨is_code st73 (by kernel_rfl), ⟨is_code st137 (by kernel_rfl), ⟨is_code st265 (by kernel_rfl), trivial, trivial⟩, trivial⟩, ⟨is_code st201 (by kernel_rfl), trivial, trivial⟩⟩, trivial⟩, ⟨is_code st57 (by kernel_rfl), ⟨⟨is_code st153 (by kernel_rfl), ⟨is_code st281 (by kernel_rfl), trivial, trivial⟩, trivial⟩, ⟨is_code st217 (by kernel_rfl), trivial, trivial⟩⟩, trivial⟩⟩⟩, ⟨⟨is_code st21 (by kernel_rfl), ⟨is_code st37 (by kernel_rfl), ⟨is_code st69 (by kernel_rfl), ⟨is_code st133 (by kernel_rfl), trivial, trivial⟩, ⟨is_code st197 (by kernel_rfl), trivial, trivial⟩⟩, ⟨is_code st101 (by kernel_rfl), ⟨is_code st165 (by kernel_rfl), trivial, trivial⟩, ⟨is_code st229 (by kernel_rfl), trivial, trivial⟩⟩⟩, ⟨⟨is_code st85 (by kernel_rfl), ⟨is_code st149 (by kernel_rfl), trivial, trivial⟩, ⟨is_code st213 (by kernel_rfl), trivial, trivial⟩⟩, ⟨is_code st117 (by kernel_rfl), trivial, trivial⟩⟩⟩, ⟨⟨is_code st45 (by kernel_rfl), ⟨is_code st77 (by kernel_rfl), ⟨is_code st141 (by kernel_rfl), ⟨is_code st269 (by kernel_rfl), trivial, trivial⟩, trivial⟩, trivial⟩, ⟨is_code st109 (by kernel_rfl), trivial, trivial⟩⟩, ⟨is_code st61 (by kernel_rfl), ⟨is_code st93 (by kernel_rfl), ⟨is_code st157 (by kernel_rfl), ⟨is_code st285 (by kernel_rfl), trivial, trivial⟩, trivial⟩, trivial⟩, ⟨is_code st125 (by kernel_rfl), ⟨is_code st189 (by kernel_rfl), trivial, trivial⟩, trivial⟩⟩⟩⟩⟩⟩, ⟨⟨⟨⟨is_code st16 (by kernel_rfl), ⟨is_code st32 (by kernel_rfl), ⟨is_code st64 (by kernel_rfl), ⟨is_code st128 (by kernel_rfl), trivial, trivial⟩, ⟨is_code st192 (by kernel_rfl), trivial, trivial⟩⟩, ⟨is_code st96 (by kernel_rfl), ⟨⟨is_code st288 (by kernel_rfl), trivial, trivial⟩, trivial⟩, ⟨is_code st224 (by kernel_rfl), trivial, trivial⟩⟩⟩, ⟨⟨⟨is_code st144 (by kernel_rfl), ⟨is_code st272 (by kernel_rfl), trivial, trivial⟩, trivial⟩, trivial⟩, ⟨is_code st112 (by kernel_rfl), ⟨is_code st176 (by kernel_rfl), trivial, trivial⟩, trivial⟩⟩⟩, ⟨is_code st24 (by kernel_rfl), ⟨is_code st40 (by kernel_rfl), ⟨⟨is_code st136 (by kernel_rfl), ⟨is_code st264 (by kernel_rfl), trivial, trivial⟩, trivial⟩, ⟨is_code st200 (by kernel_rfl), trivial, trivial⟩⟩, ⟨is_code st104 (by kernel_rfl), ⟨⟨is_code st296 (by kernel_rfl), trivial, trivial⟩, trivial⟩, trivial⟩⟩, ⟨⟨is_code st88 (by kernel_rfl), ⟨is_code st152 (by kernel_rfl), ⟨is_code st280 (by kernel_rfl), trivial, trivial⟩, trivial⟩, ⟨is_code st216 (by kernel_rfl), trivial, trivial⟩⟩, trivial⟩⟩⟩, ⟨⟨⟨is_code st36 (by kernel_rfl), ⟨⟨is_code st132 (by kernel_rfl), ⟨is_code st260 (by kernel_rfl), trivial, trivial⟩, trivial⟩, ⟨is_code st196 (by kernel_rfl), trivial, trivial⟩⟩, ⟨is_code st100 (by kernel_rfl), ⟨is_code st164 (by kernel_rfl), trivial, trivial⟩, trivial⟩⟩, ⟨is_code st52 (by kernel_rfl), ⟨⟨is_code st148 (by kernel_rfl), ⟨is_code st276 (by kernel_rfl), trivial, trivial⟩, trivial⟩, ⟨is_code st212 (by kernel_rfl), trivial, trivial⟩⟩, ⟨⟨is_code st180 (by kernel_rfl), trivial, trivial⟩, trivial⟩⟩⟩, ⟨is_code st28 (by kernel_rfl), ⟨is_code st44 (by kernel_rfl), ⟨is_code st76 (by kernel_rfl), ⟨is_code st140 (by kernel_rfl), ⟨is_code st268 (by kernel_rfl), trivial, trivial⟩, trivial⟩, ⟨is_code st204 (by kernel_rfl), trivial, trivial⟩⟩, ⟨is_code st108 (by kernel_rfl), ⟨is_code st172 (by kernel_rfl), trivial, trivial⟩, trivial⟩⟩, ⟨is_code st60 (by kernel_rfl), ⟨is_code st92 (by kernel_rfl), ⟨is_code st156 (by kernel_rfl), ⟨is_code st284 (by kernel_rfl), trivial, trivial⟩, trivial⟩, trivial⟩, ⟨is_code st124 (by kernel_rfl), trivial, trivial⟩⟩⟩⟩⟩, ⟨⟨⟨is_code st18 (by kernel_rfl), ⟨⟨is_code st66 (by kernel_rfl), ⟨is_code st130 (by kernel_rfl), trivial, trivial⟩, trivial⟩, ⟨is_code st98 (by kernel_rfl), ⟨is_code st162 (by kernel_rfl), trivial, trivial⟩, ⟨is_code st226 (by kernel_rfl), trivial, trivial⟩⟩⟩, ⟨is_code st50 (by kernel_rfl), ⟨is_code st82 (by kernel_rfl), ⟨is_code st146 (by kernel_rfl), ⟨is_code st274 (by kernel_rfl), trivial, trivial⟩, trivial⟩, ⟨is_code st210 (by kernel_rfl), trivial, trivial⟩⟩, ⟨is_code st114 (by kernel_rfl), ⟨is_code st178 (by kernel_rfl), trivial, trivial⟩, trivial⟩⟩⟩, ⟨is_code st26 (by kernel_rfl), ⟨is_code st42 (by kernel_rfl), ⟨is_code st74 (by kernel_rfl), ⟨is_code st138 (by kernel_rfl), ⟨is_code st266 (by kernel_rfl), trivial, trivial⟩, trivial⟩, ⟨is_code st202 (by kernel_rfl), trivial, trivial⟩⟩, ⟨is_code st106 (by kernel_rfl), trivial, trivial⟩⟩, ⟨is_code st58 (by kernel_rfl), ⟨⟨is_code st154 (by kernel_rfl), ⟨is_code st282 (by kernel_rfl), trivial, trivial⟩, trivial⟩, trivial⟩, trivial⟩⟩⟩, ⟨⟨is_code st22 (by kernel_rfl), ⟨⟨⟨is_code st134 (by kernel_rfl), trivial, trivial⟩, ⟨is_code st198 (by kernel_rfl), trivial, trivial⟩⟩, ⟨is_code st102 (by kernel_rfl), ⟨is_code st166 (by kernel_rfl), trivial, trivial⟩, trivial⟩⟩, ⟨⟨is_code st86 (by kernel_rfl), ⟨is_code st150 (by kernel_rfl), ⟨is_code st278 (by kernel_rfl), trivial, trivial⟩, trivial⟩, trivial⟩, ⟨⟨is_code st182 (by kernel_rfl), trivial, trivial⟩, trivial⟩⟩⟩, ⟨is_code st30 (by kernel_rfl), ⟨is_code st46 (by kernel_rfl), ⟨is_code st78 (by kernel_rfl), ⟨⟨is_code st270 (by kernel_rfl), trivial, trivial⟩, trivial⟩, ⟨is_code st206 (by kernel_rfl), trivial, trivial⟩⟩, ⟨is_code st110 (by kernel_rfl), ⟨is_code st174 (by kernel_rfl), trivial, trivial⟩, trivial⟩⟩, ⟨is_code st62 (by kernel_rfl), ⟨is_code st94 (by kernel_rfl), ⟨is_code st158 (by kernel_rfl), ⟨is_code st286 (by kernel_rfl), trivial, trivial⟩, trivial⟩, trivial⟩, ⟨is_code st126 (by kernel_rfl), ⟨is_code st190 (by kernel_rfl), trivial, trivial⟩, trivial⟩⟩⟩⟩⟩⟩⟩
theorem tbl_all : Tr.AllK (FnOk Tryz.prog (drawOk Tryz.prog)) tblA 1 0 := ⟨⟨⟨⟨⟨⟨⟨⟨_, Tryz.func63, by decide +kernel, ok63⟩, ⟨⟨_, Tryz.func127, by decide +kernel, ok127⟩, trivial, trivial⟩, ⟨⟨_, Tryz.func191, by decide +kernel, ok191⟩, trivial, trivial⟩⟩, ⟨⟨_, Tryz.func95, by decide +kernel, ok95⟩, ⟨⟨⟨_, Tryz.func287, by decide +kernel, ok287⟩, trivial, trivial⟩, trivial⟩, trivial⟩⟩, ⟨⟨_, Tryz.func47, by decide +kernel, ok47⟩, ⟨⟨_, Tryz.func79, by decide +kernel, ok79⟩, ⟨⟨_, Tryz.func143, by decide +kernel, ok143⟩, ⟨⟨_, Tryz.func271, by decide +kernel, ok271⟩, trivial, trivial⟩, trivial⟩, trivial⟩, ⟨⟨_, Tryz.func111, by decide +kernel, ok111⟩, ⟨⟨_, Tryz.func175, by decide +kernel, ok175⟩, trivial, trivial⟩, trivial⟩⟩⟩, ⟨⟨_, Tryz.func23, by decide +kernel, ok23⟩, ⟨⟨_, Tryz.func39, by decide +kernel, ok39⟩, ⟨⟨⟨_, Tryz.func135, by decide +kernel, ok135⟩, ⟨⟨_, Tryz.func263, by decide +kernel, ok263⟩, trivial, trivial⟩, trivial⟩, ⟨⟨_, Tryz.func199, by decide +kernel, ok199⟩, trivial, trivial⟩⟩, ⟨⟨⟨_, Tryz.func167, by decide +kernel, ok167⟩, ⟨⟨_, Tryz.func295, by decide +kernel, ok295⟩, trivial, trivial⟩, trivial⟩, trivial⟩⟩, ⟨⟨⟨_, Tryz.func87, by decide +kernel, ok87⟩, ⟨⟨_, Tryz.func151, by decide +kernel, ok151⟩, ⟨⟨_, Tryz.func279, by decide +kernel, ok279⟩, trivial, trivial⟩, trivial⟩, ⟨⟨_, Tryz.func215, by decide +kernel, ok215⟩, trivial, trivial⟩⟩, ⟨⟨_, Tryz.func119, by decide +kernel, ok119⟩, ⟨⟨_, Tryz.func183, by decide +kernel, ok183⟩, trivial, trivial⟩, trivial⟩⟩⟩⟩, ⟨⟨⟨_, Tryz.func19, by decide +kernel, ok19⟩, ⟨⟨⟨_, Tryz.func67, by decide +kernel, ok67⟩, trivial, trivial⟩, ⟨⟨_, Tryz.func99, by decide +kernel, ok99⟩, ⟨⟨_, Tryz.func163, by decide +kernel, ok163⟩, trivial, trivial⟩, trivial⟩⟩, ⟨⟨_, Tryz.func51, by decide +kernel, ok51⟩, ⟨⟨_, Tryz.func83, by decide +kernel, ok83⟩, ⟨⟨_, Tryz.func147, by decide +kernel, ok147⟩, ⟨⟨_, Tryz.func275, by decide +kernel, ok275⟩, trivial, trivial⟩, trivial⟩, trivial⟩, ⟨⟨_, Tryz.func115, by decide +kernel, ok115⟩, ⟨⟨_, Tryz.func179, by decide +kernel, ok179⟩, trivial, trivial⟩, trivial⟩⟩⟩, ⟨⟨_, Tryz.func27, by decide +kernel, ok27⟩, ⟨⟨_, Tryz.func43, by decide +kernel, ok43⟩, ⟨⟨_, Tryz.func75, by decide +kernel, ok75⟩, ⟨⟨_, Tryz.func139, by decide +kernel, ok139⟩, ⟨⟨_, Tryz.func267, by decide +kernel, ok267⟩, trivial, trivial⟩, trivial⟩, trivial⟩, ⟨⟨_, Tryz.func107, by decide +kernel, ok107⟩, ⟨⟨_, Tryz.func171, by decide +kernel, ok171⟩, trivial, trivial⟩, trivial⟩⟩, ⟨⟨_, Tryz.func59, by decide +kernel, ok59⟩, ⟨⟨⟨_, Tryz.func155, by decide +kernel, ok155⟩, trivial, trivial⟩, ⟨⟨_, Tryz.func219, by decide +kernel, ok219⟩, trivial, trivial⟩⟩, ⟨⟨_, Tryz.func123, by decide +kernel, ok123⟩, trivial, trivial⟩⟩⟩⟩⟩, ⟨⟨⟨_, Tryz.func9, by decide +kernel, ok9⟩, ⟨⟨_, Tryz.func17, by decide +kernel, ok17⟩, ⟨⟨_, Tryz.func33, by decide +kernel, ok33⟩, ⟨⟨_, Tryz.func65, by decide +kernel, ok65⟩, ⟨⟨⟨_, Tryz.func257, by decide +kernel, ok257⟩, trivial, trivial⟩, trivial⟩, trivial⟩, ⟨⟨_, Tryz.func97, by decide +kernel, ok97⟩, ⟨⟨_, Tryz.func161, by decide +kernel, ok161⟩, ⟨⟨_, Tryz.func289, by decide +kernel, ok289⟩, trivial, trivial⟩, trivial⟩, trivial⟩⟩, ⟨⟨⟨_, Tryz.func81, by decide +kernel, ok81⟩, ⟨⟨_, Tryz.func145, by decide +kernel, ok145⟩, trivial, trivial⟩, ⟨⟨_, Tryz.func209, by decide +kernel, ok209⟩, trivial, trivial⟩⟩, ⟨⟨_, Tryz.func113, by decide +kernel, ok113⟩, ⟨⟨_, Tryz.func177, by decide +kernel, ok177⟩, trivial, trivial⟩, trivial⟩⟩⟩, ⟨⟨⟨_, Tryz.func41, by decide +kernel, ok41⟩, ⟨⟨_, Tryz.func73, by decide +kernel, ok73⟩, ⟨⟨_, Tryz.func137, by decide +kernel, ok137⟩, ⟨⟨_, Tryz.func265, by decide +kernel, ok265⟩, trivial, trivial⟩, trivial⟩, ⟨⟨_, Tryz.func201, by decide +kernel, ok201⟩, trivial, trivial⟩⟩, trivial⟩, ⟨⟨_, Tryz.func57, by decide +kernel, ok57⟩, ⟨⟨⟨_, Tryz.func153, by decide +kernel, ok153⟩, ⟨⟨_, Tryz.func281, by decide +kernel, ok281⟩, trivial, trivial⟩, trivial⟩, ⟨⟨_, Tryz.func217, by decide +kernel, ok217⟩, trivial, trivial⟩⟩, trivial⟩⟩⟩, ⟨⟨⟨_, Tryz.func21, by decide +kernel, ok21⟩, ⟨⟨_, Tryz.func37, by decide +kernel, ok37⟩, ⟨⟨_, Tryz.func69, by decide +kernel, ok69⟩, ⟨⟨_, Tryz.func133, by decide +kernel, ok133⟩, trivial, trivial⟩, ⟨⟨_, Tryz.func197, by decide +kernel, ok197⟩, trivial, trivial⟩⟩, ⟨⟨_, Tryz.func101, by decide +kernel, ok101⟩, ⟨⟨_, Tryz.func165, by decide +kernel, ok165⟩, trivial, trivial⟩, ⟨⟨_, Tryz.func229, by decide +kernel, ok229⟩, trivial, trivial⟩⟩⟩, ⟨⟨⟨_, Tryz.func85, by decide +kernel, ok85⟩, ⟨⟨_, Tryz.func149, by decide +kernel, ok149⟩, trivial, trivial⟩, ⟨⟨_, Tryz.func213, by decide +kernel, ok213⟩, trivial, trivial⟩⟩, ⟨⟨_, Tryz.func117, by decide +kernel, ok117⟩, trivial, trivial⟩⟩⟩, ⟨⟨⟨_, Tryz.func45, by decide +kernel, ok45⟩, ⟨⟨_, Tryz.func77, by decide +kernel, ok77⟩, ⟨⟨_, Tryz.func141, by decide +kernel, ok141⟩, ⟨⟨_, Tryz.func269, by decide +kernel, ok269⟩, trivial, trivial⟩, trivial⟩, trivial⟩, ⟨⟨_, Tryz.func109, by decide +kernel, ok109⟩, trivial, trivial⟩⟩, ⟨⟨_, Tryz.func61, by decide +kernel, ok61⟩, ⟨⟨_, Tryz.func93, by decide +kernel, ok93⟩, ⟨⟨_, Tryz.func157, by decide +kernel, ok157⟩, ⟨⟨_, Tryz.func285, by decide +kernel, ok285⟩, trivial, trivial⟩, trivial⟩, trivial⟩, ⟨⟨_, Tryz.func125, by decide +kernel, ok125⟩, ⟨⟨_, Tryz.func189, by decide +kernel, ok189⟩, trivial, trivial⟩, trivial⟩⟩⟩⟩⟩⟩, ⟨⟨⟨⟨⟨_, Tryz.func16, by decide +kernel, ok16⟩, ⟨⟨_, Tryz.func32, by decide +kernel, ok32⟩, ⟨⟨_, Tryz.func64, by decide +kernel, ok64⟩, ⟨⟨_, Tryz.func128, by decide +kernel, ok128⟩, trivial, trivial⟩, ⟨⟨_, Tryz.func192, by decide +kernel, ok192⟩, trivial, trivial⟩⟩, ⟨⟨_, Tryz.func96, by decide +kernel, ok96⟩, ⟨⟨⟨_, Tryz.func288, by decide +kernel, ok288⟩, trivial, trivial⟩, trivial⟩, ⟨⟨_, Tryz.func224, by decide +kernel, ok224⟩, trivial, trivial⟩⟩⟩, ⟨⟨⟨⟨_, Tryz.func144, by decide +kernel, ok144⟩, ⟨⟨_, Tryz.func272, by decide +kernel, ok272⟩, trivial, trivial⟩, trivial⟩, trivial⟩, ⟨⟨_, Tryz.func112, by decide +kernel, ok112⟩, ⟨⟨_, Tryz.func176, by decide +kernel, ok176⟩, trivial, trivial⟩, trivial⟩⟩⟩, ⟨⟨_, Tryz.func24, by decide +kernel, ok24⟩, ⟨⟨_, Tryz.func40, by decide +kernel, ok40⟩, ⟨⟨⟨_, Tryz.func136, by decide +kernel, ok136⟩, ⟨⟨_, Tryz.func264, by decide +kernel, ok264⟩, trivial, trivial⟩, trivial⟩, ⟨⟨_, Tryz.func200, by decide +kernel, ok200⟩, trivial, trivial⟩⟩, ⟨⟨_, Tryz.func104, by decide +kernel, ok104⟩, ⟨⟨⟨_, Tryz.func296, by decide +kernel, ok296⟩, trivial, trivial⟩, trivial⟩, trivial⟩⟩, ⟨⟨⟨_, Tryz.func88, by decide +kernel, ok88⟩, ⟨⟨_, Tryz.func152, by decide +kernel, ok152⟩, ⟨⟨_, Tryz.func280, by decide +kernel, ok280⟩, trivial, trivial⟩, trivial⟩, ⟨⟨_, Tryz.func216, by decide +kernel, ok216⟩, trivial, trivial⟩⟩, trivial⟩⟩⟩, ⟨⟨⟨⟨_, Tryz.func36, by decide +kernel, ok36⟩, ⟨⟨⟨_, Tryz.func132, by decide +kernel, ok132⟩, ⟨⟨_, Tryz.func260, by decide +kernel, ok260⟩, trivial, trivial⟩, trivial⟩, ⟨⟨_, Tryz.func196, by decide +kernel, ok196⟩, trivial, trivial⟩⟩, ⟨⟨_, Tryz.func100, by decide +kernel, ok100⟩, ⟨⟨_, Tryz.func164, by decide +kernel, ok164⟩, trivial, trivial⟩, trivial⟩⟩, ⟨⟨_, Tryz.func52, by decide +kernel, ok52⟩, ⟨⟨⟨_, Tryz.func148, by decide +kernel, ok148⟩, ⟨⟨_, Tryz.func276, by decide +kernel, ok276⟩, trivial, trivial⟩, trivial⟩, ⟨⟨_, Tryz.func212, by decide +kernel, ok212⟩, trivial, trivial⟩⟩, ⟨⟨⟨_, Tryz.func180, by decide +kernel, ok180⟩, trivial, trivial⟩, trivial⟩⟩⟩, ⟨⟨_, Tryz.func28, by decide +kernel, ok28⟩, ⟨⟨_, Tryz.func44, by decide +kernel, ok44⟩, ⟨⟨_, Tryz.func76, by decide +kernel, ok76⟩, ⟨⟨_, Tryz.func140, by decide +kernel, ok140⟩, ⟨⟨_, Tryz.func268, by decide +kernel, ok268⟩, trivial, trivial⟩, trivial⟩, ⟨⟨_, Tryz.func204, by decide +kernel, ok204⟩, trivial, trivial⟩⟩, ⟨⟨_, Tryz.func108, by decide +kernel, ok108⟩, ⟨⟨_, Tryz.func172, by decide +kernel, ok172⟩, trivial, trivial⟩, trivial⟩⟩, ⟨⟨_, Tryz.func60, by decide +kernel, ok60⟩, ⟨⟨_, Tryz.func92, by decide +kernel, ok92⟩, ⟨⟨_, Tryz.func156, by decide +kernel, ok156⟩, ⟨⟨_, Tryz.func284, by decide +kernel, ok284⟩, trivial, trivial⟩, trivial⟩, trivial⟩, ⟨⟨_, Tryz.func124, by decide +kernel, ok124⟩, trivial, trivial⟩⟩⟩⟩⟩, ⟨⟨⟨⟨_, Tryz.func18, by decide +kernel, ok18⟩, ⟨⟨⟨_, Tryz.func66, by decide +kernel, ok66⟩, ⟨⟨_, Tryz.func130, by decide +kernel, ok130⟩, trivial, trivial⟩, trivial⟩, ⟨⟨_, Tryz.func98, by decide +kernel, ok98⟩, ⟨⟨_, Tryz.func162, by decide +kernel, ok162⟩, trivial, trivial⟩, ⟨⟨_, Tryz.func226, by decide +kernel, ok226⟩, trivial, trivial⟩⟩⟩, ⟨⟨_, Tryz.func50, by decide +kernel, ok50⟩, ⟨⟨_, Tryz.func82, by decide +kernel, ok82⟩, ⟨⟨_, Tryz.func146, by decide +kernel, ok146⟩, ⟨⟨_, Tryz.func274, by decide +kernel, ok274⟩, trivial, trivial⟩, trivial⟩, ⟨⟨_, Tryz.func210, by decide +kernel, ok210⟩, trivial, trivial⟩⟩, ⟨⟨_, Tryz.func114, by decide +kernel, ok114⟩, ⟨⟨_, Tryz.func178, by decide +kernel, ok178⟩, trivial, trivial⟩, trivial⟩⟩⟩, ⟨⟨_, Tryz.func26, by decide +kernel, ok26⟩, ⟨⟨_, Tryz.func42, by decide +kernel, ok42⟩, ⟨⟨_, Tryz.func74, by decide +kernel, ok74⟩, ⟨⟨_, Tryz.func138, by decide +kernel, ok138⟩, ⟨⟨_, Tryz.func266, by decide +kernel, ok266⟩, trivial, trivial⟩, trivial⟩, ⟨⟨_, Tryz.func202, by decide +kernel, ok202⟩, trivial, trivial⟩⟩, ⟨⟨_, Tryz.func106, by decide +kernel, ok106⟩, trivial, trivial⟩⟩, ⟨⟨_, Tryz.func58, by decide +kernel, ok58⟩, ⟨⟨⟨_, Tryz.func154, by decide +kernel, ok154⟩, ⟨⟨_, Tryz.func282, by decide +kernel, ok282⟩, trivial, trivial⟩, trivial⟩, trivial⟩, trivial⟩⟩⟩, ⟨⟨⟨_, Tryz.func22, by decide +kernel, ok22⟩, ⟨⟨⟨⟨_, Tryz.func134, by decide +kernel, ok134⟩, trivial, trivial⟩, ⟨⟨_, Tryz.func198, by decide +kernel, ok198⟩, trivial, trivial⟩⟩, ⟨⟨_, Tryz.func102, by decide +kernel, ok102⟩, ⟨⟨_, Tryz.func166, by decide +kernel, ok166⟩, trivial, trivial⟩, trivial⟩⟩, ⟨⟨⟨_, Tryz.func86, by decide +kernel, ok86⟩, ⟨⟨_, Tryz.func150, by decide +kernel, ok150⟩, ⟨⟨_, Tryz.func278, by decide +kernel, ok278⟩, trivial, trivial⟩, trivial⟩, trivial⟩, ⟨⟨⟨_, Tryz.func182, by decide +kernel, ok182⟩, trivial, trivial⟩, trivial⟩⟩⟩, ⟨⟨_, Tryz.func30, by decide +kernel, ok30⟩, ⟨⟨_, Tryz.func46, by decide +kernel, ok46⟩, ⟨⟨_, Tryz.func78, by decide +kernel, ok78⟩, ⟨⟨⟨_, Tryz.func270, by decide +kernel, ok270⟩, trivial, trivial⟩, trivial⟩, ⟨⟨_, Tryz.func206, by decide +kernel, ok206⟩, trivial, trivial⟩⟩, ⟨⟨_, Tryz.func110, by decide +kernel, ok110⟩, ⟨⟨_, Tryz.func174, by decide +kernel, ok174⟩, trivial, trivial⟩, trivial⟩⟩, ⟨⟨_, Tryz.func62, by decide +kernel, ok62⟩, ⟨⟨_, Tryz.func94, by decide +kernel, ok94⟩, ⟨⟨_, Tryz.func158, by decide +kernel, ok158⟩, ⟨⟨_, Tryz.func286, by decide +kernel, ok286⟩, trivial, trivial⟩, trivial⟩, trivial⟩, ⟨⟨_, Tryz.func126, by decide +kernel, ok126⟩, ⟨⟨_, Tryz.func190, by decide +kernel, ok190⟩, trivial, trivial⟩, trivial⟩⟩⟩⟩⟩⟩⟩
theorem prog_ok : CallOk Tryz.prog (E fun f => tblA.get f) := E_ok fun f a h => by
  have := tbl_all.get f a h
  simpa using this
end Go.Proofs.YtinkiihdnepfjaaGreatDoor.Code
