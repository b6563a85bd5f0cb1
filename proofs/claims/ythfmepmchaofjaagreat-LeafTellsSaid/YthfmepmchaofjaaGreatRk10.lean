/-
Checks of contracts by the kernel.
-/
import Derived.Test.YthfmepmchaofjaaGreatRw
set_option linter.all false
namespace Go.Proofs.YthfmepmchaofjaaGreat.Ev.Rf
noncomputable section
open Go Ev
set_option maxRecDepth 100000
theorem k131_ok : jF (xF PT 2000000000000 131 (gP 131) c131 a0 h0 k0) (exN tb [(51, 0x7f61b68098a98801abad2c8566b89286d7a209fd66cc62686bb88278d38f06763e650b098a269e35954a709e0f6bad2c807ee7660aae4c6b4659ab04c6e3b3670b08ea16b0b566cc62630)]) = true := by decide +kernel
theorem k81_1_ok : jF (xF PT 2000000000000 81 (gP 81) c81_1 a81_1 h0 k0) (exN tb [(77, 0xb0182e867b0f5241e84867c1f5e02e6867e0f55dd867f0f5ee9259e12f553b259ee1f5a2589f18a2f567d6a7f1881f5702e6258e1ffe9e8258ea1f5d02e6f18d0f537bf18601cd2e6080e800bdeb1080e30f59058933b8f76a761f5102e62b731b5894b8066d56)]) = true := by decide +kernel
theorem k86_1_ok : jF (xF PT 2000000000000 86 (gP 86) c86_1 a0 h0 k0) (exN tb [(21, 0xf6d50f5d426f5f5d936b3a1f6de1103a94268155936f2dbd836a1)]) = true := by decide +kernel
theorem k103_ok : jF (xF PT 2000000000000 103 (gP 103) c103 a103 h0 k0) (exN tb [(62, 0x11857d2b654d58d7b7e23de23de100c6e23ce406f6d523be11857d2b654d58d7b7e23de23de100c6e23ce406f6d523bea36108426fb81083cbc56a7226b56d26cc630b57817c331690c56a7226b56d26cc630b57817c38f7eb8c68746)]) = true := by decide +kernel
theorem k17_ok : jF (xF PT 2000000000000 17 (gP 17) c17 a17 h0 k0) (exN tb [(74, 0xc169066d0eb3c2363eb7273fbc4366223e3e60dd30a00306f36885075222e218c18c4701b3cc486260d76d1e75d26147b863666d0ec47c783eb4f9337f564a6223ea160dd4e900459f3813e650f66222e727a2734d901c472a6d5836d02fae36cfe587266036c686e753d)]) = true := by decide +kernel
theorem k17_1_ok : jF (xF PT 2000000000000 17 (gP 17) c17_1 a17_1 h0 k0) (exN tb [(70, 0xc120675d394362363eb7273fb73156223e864e4c830a00306f346675222e218d04f8b3cc486260d76d1e75d261479c1e7550c47c783eb4f9337017156223ea16014c84e900459f3687f66222e727a24f8c472a6d5836d02fae36cfe587266036c686e753d)]) = true := by decide +kernel
theorem k22_1_ok : jF (xF PT 2000000000000 22 (gP 22) c22_1 a0 h0 k0) (exN tb [(23, 0xf4800aea919e4b1e2064b6e5164b6ef2926ded24115287afd6876e6cf0693691156)]) = true := by decide +kernel
theorem k18_ok : jF (xF PT 2000000000000 18 (gP 18) c18 a18 h0 k0) (exN tb [(46, 0xb087dc106618da4b810808501e622bb89ec9221e221e21fe7c6ab2e506163c4b89ec9220e220e21fe0e63a6156c06b86c281568f6c521ee9015633b21eeb77917f79b4f2)]) = true := by decide +kernel
theorem k134_ok : jF (xF PT 2000000000000 134 (gP 134) c134 a0 h0 k0) (exN tb [(21, 0xc4b87897926c4828d396d050e06aef16b700b3d6b7e26c2e3391e2c8390e)]) = true := by decide +kernel
theorem k133_ok : jF (xF PT 2000000000000 133 (gP 133) c133 a0 h0 k0) (exN tb [(46, 0x2362566a7b2db2db2db2db2ddfa1182a6c159d0195f2633de703e95f2633de703e95f2633dee3917590b3336712862b6808d9ab02e4884882067524914f6a76f06)]) = true := by decide +kernel
theorem k109_ok : jF (xF PT 2000000000000 109 (gP 109) c109 a0 h0 k0) (exN tb [(48, 0xb1b225ce03625ce68d677e276099b00ceeb6625be25be00fe7fe7f3a7655b873eb225ce03625ce68d677e276099b00ceeb6625be25be00fe7fe7f3a7655b63759624f359624f3872e)]) = true := by decide +kernel
theorem k43_ok : jF (xF PT 2000000000000 43 (gP 43) c43 a43 h0 k0) (exN tb [(92, 0x4e87d7d7aab600a08027244e70099836296116027244e70099526109766dae976aa7b18500d7c5c26b1196950871020bd0881843a6b17b1c1db50b4fb21639d126956123020d4fb4fb243ee0243e240e7ec505962c633ae33a6b17b1c1db50b4fb21639d126956123020d4fb4fb243ee0243e240e7ec505962c633aa4336336d05186ce)]) = true := by decide +kernel
theorem k92_ok : jF (xF PT 2000000000000 92 (gP 92) c92 a92 h0 k0) (exN tb [(59, 0x7bc746f37d261b622fe58d5ad5ad5ad5ad5ad10ae6218ae6182e23810286f29110286f29110286f25076d6e307e80d6cc600747fb8917036cc67506659db5675d7a44684b14c94c94c95071feefb810b196f3)]) = true := by decide +kernel
theorem k57_ok : jF (xF PT 2000000000000 57 (gP 57) c57 a0 h0 k57) (exN tb [(43, 0x4e610f5237e70a7a86fa7a8024e81596247ed02e6062e157b462daa3610c15ac410ca89543ec4542e0fcb1f5237e70a7a86fa7a8024e81596247ed00e6286541e)]) = true := by decide +kernel
theorem k93_ok : jF (xF PT 2000000000000 93 (gP 93) c93 a93 h0 k0) (exN tb [(103, 0x206f081b5851800e4650e461374ab756857137f99857b111623ee2a6a274750786706747f22a6a2c4786706489c47d3952681b283175292392695294068684c712850c3ae56b410d08366259d080012850c3ae56b410d08366259d080024924d012166ee00190abbe4a6abae55c67f00d6c6700f0c6712800f89a16128f89785e1b6e8039a62660bac5cd226957)]) = true := by decide +kernel
theorem k116_ok : jF (xF PT 2000000000000 116 (gP 116) c116 a116 h0 k0) (exN tb [(143, 0xd0e162017b1c634a70756a86d8ed38600c9e1c6c262c6b54cb4db5960c9e1c6d06874eb70f2e96a1576336721c634a5265086d8ed3860bbc81a2c65461526266596bbc1c6866f8970d5127043620837a8895648b20b3a6201c6d0242ed0c110956d091b6b530814db566c110956d09fa9062e5fdf00c8e5768369295648b819e66a81c6d0242ed07b8e0271b6543078a2665667b8e7086668c81d5f063be5ed336d332a2b6259308ca347836786dba156246266f661303ca50e46c474cbcb800a8c7c6c4)]) = true := by decide +kernel
theorem k18_1_ok : jF (xF PT 2000000000000 18 (gP 18) c18_1 a18_1 h0 k0) (exN tb [(39, 0xb087dc1065072b62765c640680f67221e221e21fe0e65c640680f67220e220e21fe0e6303d6296c281568f6c521ee9015633b21eeb77917f79b4f2)]) = true := by decide +kernel
theorem k62_ok : jF (xF PT 2000000000000 62 (gP 62) c62 a62 h0 k0) (exN tb [(82, 0x206d26417d357d32a84236e786a1d2756db77b18a134ab187b6e48bcb8b122fe808409d85d630b17d310fc7fd784236e237ed2756db778ea7034a8ea00a148b857b14e6896ae691515d6b28d6ad3100c4e6b6b1784236e33a258d5a80785e48b118c261b6201184e870ab7e061eb1928d4acc640b)]) = true := by decide +kernel
theorem k17_2_ok : jF (xF PT 2000000000000 17 (gP 17) c17_2 a17_2 h0 k0) (exN tb [(61, 0xc15c6436003eb7273fb40fa83e65530a0030631a16de865e218306b3c556260d76d1e75d261471965c6703363eb4f9337136fa8a16554e900459f3228126865e727459c47a155836d02fae36cfe587266036c686e753d)]) = true := by decide +kernel
theorem k71_1_ok : jF (xF PT 2000000000000 71 (gP 71) c71_1 a0 h0 k0) (exN tb [(44, 0x70f22b64a73368d733612d536661bd299c65962f6aa86091715582b766339686f661b663be12e6909c8e40904268daa05e488488df64f64f6f251f06)]) = true := by decide +kernel
theorem k86_ok : jF (xF PT 2000000000000 86 (gP 86) c86 a0 h0 k0) (exN tb [(9, 0xf6df5df06a1936f2dbd836a1)]) = true := by decide +kernel
theorem k55_ok : jF (xF PT 2000000000000 55 (gP 55) c55 a0 h0 k0) (exN tb [(42, 0x5669178d7906538e537ea263537ea2796ce9566917747fb8366806da819001ee6ca819001eec410156f32b6b65ef4780800036286102b65d666bebc)]) = true := by decide +kernel
theorem k69_ok : jF (xF PT 2000000000000 69 (gP 69) c69 a0 h0 k0) (exN tb [(7, 0x666a7867b173773773)]) = true := by decide +kernel
theorem k48_ok : jF (xF PT 2000000000000 48 (gP 48) c48 a0 h0 k0) (exN tb [(26, 0x70d1d70d1da1c58267d63031710b38267d630317746a763055b0e9e187105d74260a8)]) = true := by decide +kernel
theorem k21_ok : jF (xF PT 2000000000000 21 (gP 21) c21 a21 h0 k0) (exN tb [(45, 0x24184e877ac1e80cb68427d8ac0e7fc73656902958abfe8c6148252e53631a45c624d16e040612e3803e8a8ce960538e1b26336012e601316917d19426b1426)]) = true := by decide +kernel
theorem k121_ok : jF (xF PT 2000000000000 121 (gP 121) c121 a0 h0 k0) (exN tb [(32, 0x95526b89205261060209f7eb01e6375c6f0740c57f0740808c1e1165d6637b8875a1873e01da2339d1c51f06)]) = true := by decide +kernel
theorem k14_ok : jF (xF PT 2000000000000 14 (gP 14) c14 a0 h0 k0) (exN tb [(15, 0xdd91c60119622651a79b0d51b88527a796fcef06)]) = true := by decide +kernel
theorem k128_ok : jF (xF PT 2000000000000 128 (gP 128) c128 a0 h0 k0) (exN tb [(15, 0xdd91c60119622651a79b0d51b88527a796fcef06)]) = true := by decide +kernel
theorem k70_ok : jF (xF PT 2000000000000 70 (gP 70) c70 a0 h0 k0) (exN tb [(19, 0x9508775182e637b87436306b8651b8852724e0fe7339d1c51f06)]) = true := by decide +kernel
theorem k111_ok : jF (xF PT 2000000000000 111 (gP 111) c111 a0 h0 k0) (exN tb [(6, 0x6686773a9673750)]) = true := by decide +kernel
theorem k16_ok : jF (xF PT 2000000000000 16 (gP 16) c16 a0 h0 k0) (exN tb [(33, 0xaee3c8408075c579091d14e6b5c720b0ea37402c76f620b6cb25969d87ac857758f6928bb66191f1f6640b)]) = true := by decide +kernel
theorem k33_5_ok : jF (xF PT 2000000000000 33 (gP 33) c33_5 a33_5 h0 k0) (exN tb [(27, 0x536e300acb68e49e009c52612131e08c900ac24ae1209c526d2c08c610ac397ea209c3ca08c535e)]) = true := by decide +kernel
theorem k117_ok : jF (xF PT 2000000000000 117 (gP 117) c117 a0 h0 k0) (exN tb [(20, 0x40012566d9e317026b13d6226ae924608608608d5226608608608d5)]) = true := by decide +kernel
theorem k135_ok : jF (xF PT 2000000000000 135 (gP 135) c135 a135 h0 k0) (exN tb [(38, 0x619f6ec2c802e6116c2c2096b9bb955a5e922b275d655a21e364c44266430e0906460337566e09067863661062960cde596aa7)]) = true := by decide +kernel
theorem k65_ok : jF (xF PT 2000000000000 65 (gP 65) c65 a65 h0 k0) (exN tb [(31, 0x5d6a8860a8cd086be6b623fef073aa837306d7e2796d7ea423be61fb81085104824928ee60c7e817c38e8c68746)]) = true := by decide +kernel
theorem k35_ok : jF (xF PT 2000000000000 35 (gP 35) c35 a0 h0 k0) (exN tb [(37, 0xf1b1dd6aa71e6041085054b1e64370395ba209f16dced044b1085015740039286ee62095495074754927647601911267fad5)]) = true := by decide +kernel
theorem k129_ok : jF (xF PT 2000000000000 129 (gP 129) c129 a0 h0 k0) (exN tb [(14, 0x236d359d84b84b84b156753d6410d7cc62baf06)]) = true := by decide +kernel
theorem k83_ok : jF (xF PT 2000000000000 83 (gP 83) c83 a0 h0 k0) (exN tb [(14, 0xc0659d84b84b84b156d263d6f1f66ae660558e8)]) = true := by decide +kernel
theorem k77_ok : jF (xF PT 2000000000000 77 (gP 77) c77 a0 h0 k0) (exN tb [(16, 0x4e610f5237e70a7a86fa7a8024e81596247ed00e6286541e)]) = true := by decide +kernel
theorem k108_ok : jF (xF PT 2000000000000 108 (gP 108) c108 a0 h0 k0) (exN tb [(23, 0xc44e636660691abcea12f63d8504e636691436913d6c4602f615609d10f3)]) = true := by decide +kernel
theorem k81_ok : jF (xF PT 2000000000000 81 (gP 81) c81 a81 h0 k0) (exN tb [(14, 0x58d33b8f76a761f5102e62b731b5894b8066d56)]) = true := by decide +kernel
theorem k122_ok : jF (xF PT 2000000000000 122 (gP 122) c122 a0 h0 k0) (exN tb [(19, 0x12b6957914260bde95791936739b691390e904267310f3f06)]) = true := by decide +kernel
theorem k33_3_ok : jF (xF PT 2000000000000 33 (gP 33) c33_3 a33_3 h0 k0) (exN tb [(9, 0x536e610ac397ea209c3ca08c535e)]) = true := by decide +kernel
theorem k61_ok : jF (xF PT 2000000000000 61 (gP 61) c61 a61 h0 k0) (exN tb [(30, 0x9ccb0827630cd6927902f691b287042a7e8626c26bb654b0f6732a6b287042a39a218d495c6b4f2)]) = true := by decide +kernel
theorem k40_ok : jF (xF PT 2000000000000 40 (gP 40) c40 a0 h0 k0) (exN tb [(17, 0xa36751fa156e168f70c2e156955d6b1156950ddb3ab6dc6)]) = true := by decide +kernel
theorem k80_ok : jF (xF PT 2000000000000 80 (gP 80) c80 a0 h0 k0) (exN tb [(15, 0xd288267fa9c6826b6c7faf39b682630507912c6f3)]) = true := by decide +kernel
theorem k95_ok : jF (xF PT 2000000000000 95 (gP 95) c95 a0 h0 k0) (exN tb [(26, 0x206016039ac4daacb8bfc6001538daacb8bfc60bfc248bfc60236937f225ae5cd226957)]) = true := by decide +kernel
theorem k63_ok : jF (xF PT 2000000000000 63 (gP 63) c63 a0 h0 k0) (exN tb [(21, 0x1066d66e302760aa619684d66d49d66e3d02b6d0eb656d5d63ba426)]) = true := by decide +kernel
theorem k68_ok : jF (xF PT 2000000000000 68 (gP 68) c68 a68 h0 k0) (exN tb [(23, 0x40657df378f6240e247aa6c16036d2a138dba23a60daaf96240f7fa8552968f701)]) = true := by decide +kernel
theorem k79_ok : jF (xF PT 2000000000000 79 (gP 79) c79 a0 h0 k0) (exN tb [(12, 0x8dae3a4c6322623ae256016322601d37)]) = true := by decide +kernel
theorem k46_ok : jF (xF PT 2000000000000 46 (gP 46) c46 a46 h0 k0) (exN tb [(15, 0xd5f2690b181b6296d1942675406a73ba3ba608256)]) = true := by decide +kernel
theorem k85_ok : jF (xF PT 2000000000000 85 (gP 85) c85 a0 h0 k0) (exN tb [(12, 0x256b5940019c7196712e036196712e9a6c4)]) = true := by decide +kernel
theorem k125_ok : jF (xF PT 2000000000000 125 (gP 125) c125 a0 h0 k0) (exN tb [(11, 0x95b5c1169d85c68269c68f62b68f624)]) = true := by decide +kernel
theorem k82_ok : jF (xF PT 2000000000000 82 (gP 82) c82 a0 h0 k0) (exN tb [(10, 0x95b5c1169d85c6658e4ba504ba24)]) = true := by decide +kernel
theorem k102_ok : jF (xF PT 2000000000000 102 (gP 102) c102 a0 h0 k0) (exN tb [(19, 0xb770739c6e1b9cab9e50d0d8ad0e35bd6f64062c661d49)]) = true := by decide +kernel
theorem k33_2_ok : jF (xF PT 2000000000000 33 (gP 33) c33_2 a33_2 h0 k0) (exN tb [(2, 0x536e535e)]) = true := by decide +kernel
theorem k56_ok : jF (xF PT 2000000000000 56 (gP 56) c56 a56 h0 k0) (exN tb [(17, 0x7a62c6b082769b6747539b101d917d8a6f601b4d7a0e6489)]) = true := by decide +kernel
theorem k45_ok : jF (xF PT 2000000000000 45 (gP 45) c45 a0 h0 k0) (exN tb [(10, 0x256075e2266d8e60a8cb1268c072e7)]) = true := by decide +kernel
theorem k127_ok : jF (xF PT 2000000000000 127 (gP 127) c127 a0 h0 k0) (exN tb [(15, 0x75618d891336126602f6336919b69ffe11630826)]) = true := by decide +kernel
theorem k127_1_ok : jF (xF PT 2000000000000 127 (gP 127) c127_1 a0 h0 k0) (exN tb [(14, 0x75618d8913363165ba33650761f479c6e0d7826)]) = true := by decide +kernel
theorem k67_ok : jF (xF PT 2000000000000 67 (gP 67) c67 a0 h0 k0) (exN tb [(10, 0x58d018f7014c884b101f2d28)]) = true := by decide +kernel
theorem k44_ok : jF (xF PT 2000000000000 44 (gP 44) c44 a0 h0 k0) (exN tb [(11, 0xd3d324244265f84f63a64f6c4026)]) = true := by decide +kernel
theorem k71_ok : jF (xF PT 2000000000000 71 (gP 71) c71 a0 h0 k0) (exN tb [(9, 0x50174e066159e01066ae9f2f06)]) = true := by decide +kernel
theorem k33_1_ok : jF (xF PT 2000000000000 33 (gP 33) c33_1 a33_1 h0 k0) (exN tb [(2, 0x947eb64e)]) = true := by decide +kernel
theorem k6_ok : jF (xF PT 2000000000000 6 (gP 6) c6 a6 h0 k0) (exN tb [(15, 0x155d0868746e7055587f162c6296d19426b1c5)]) = true := by decide +kernel
theorem k132_ok : jF (xF PT 2000000000000 132 (gP 132) c132 a0 h0 k0) (exN tb [(17, 0x568b0657eb09e23076949c4e816bbd9fae21af6ccab1286c4)]) = true := by decide +kernel
theorem k81_3_ok : jF (xF PT 2000000000000 81 (gP 81) c81_3 a81_3 h0 k0) (exN tb [(8, 0xab657df3790b572968f701)]) = true := by decide +kernel
theorem k32_ok : jF (xF PT 2000000000000 32 (gP 32) c32 a0 h0 k0) (exN tb [(10, 0x1ae9137011574015773f2ecc)]) = true := by decide +kernel
theorem k78_ok : jF (xF PT 2000000000000 78 (gP 78) c78 a0 h0 k78) (exN tb [(4, 0x409cc226541e)]) = true := by decide +kernel
theorem k118_ok : jF (xF PT 2000000000000 118 (gP 118) c118 a0 h0 k0) (exN tb [(6, 0x2424ab60360b0ef3)]) = true := by decide +kernel
theorem k113_ok : jF (xF PT 2000000000000 113 (gP 113) c113 a0 h0 k0) (exN tb [(8, 0x52d246e2978075f287c6f06)]) = true := by decide +kernel
theorem k33_ok : jF (xF PT 2000000000000 33 (gP 33) c33 a33 h0 k0) (exN tb [(2, 0x947eb63e)]) = true := by decide +kernel
theorem k41_ok : jF (xF PT 2000000000000 41 (gP 41) c41 a0 h0 k0) (exN tb [(5, 0xe101245164b8)]) = true := by decide +kernel
theorem k126_ok : jF (xF PT 2000000000000 126 (gP 126) c126 a0 h0 k0) (exN tb [(9, 0x40f16539278278278539509b00e)]) = true := by decide +kernel
theorem k54_ok : jF (xF PT 2000000000000 54 (gP 54) c54 a0 h0 k0) (exN tb [(5, 0xc4061e712e426106)]) = true := by decide +kernel
theorem k37_ok : jF (xF PT 2000000000000 37 (gP 37) c37 a0 h0 k37) (exN tb [(2, 0xdf63d6)]) = true := by decide +kernel
end
end Go.Proofs.YthfmepmchaofjaaGreat.Ev.Rf
