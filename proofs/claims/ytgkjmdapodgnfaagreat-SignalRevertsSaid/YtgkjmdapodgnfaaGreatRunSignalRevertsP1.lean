/- SignalReverts: the functions that its law reaches, as plain functions, and that the machine's calls come to what these say. Conditions: those that stand at each. -/
import Derived.Test.YtgkjmdapodgnfaaGreatProg
import Derived.Test.YtgkjmdapodgnfaaGreatAuto
set_option linter.all false
set_option maxRecDepth 100000
set_option maxHeartbeats 4000000
set_option synthInstance.maxSize 100000
set_option synthInstance.maxHeartbeats 1000000
namespace Go.Proofs.YtgkjmdapodgnfaaGreat
open Go.RowKit Go.Proofs.YtgkjmdapodgnfaaGreat.Sep Go.Proofs.YtgkjmdapodgnfaaGreat.Walk Go.Proofs.Tryz
attribute [local irreducible] V W At T Code.rounds RdO RdOk
set_option autoImplicit true
set_option relaxedAutoImplicit true
theorem inf3 : (Tryz.prog.info? 3).map (·.size) = some 1 := by kernel_rfl
@[reducible, instance] def iinf3 := Inf.mk inf3
theorem inf4 : (Tryz.prog.info? 4).map (·.size) = some 1 := by kernel_rfl
@[reducible, instance] def iinf4 := Inf.mk inf4
theorem inf5 : (Tryz.prog.info? 5).map (·.size) = some 1 := by kernel_rfl
@[reducible, instance] def iinf5 := Inf.mk inf5
theorem inf24 : (Tryz.prog.info? 24).map (·.size) = some 16 := by kernel_rfl
@[reducible, instance] def iinf24 := Inf.mk inf24
theorem inf27 : (Tryz.prog.info? 27).map (·.size) = some 1 := by kernel_rfl
@[reducible, instance] def iinf27 := Inf.mk inf27
theorem inf29 : (Tryz.prog.info? 29).map (·.size) = some 6 := by kernel_rfl
@[reducible, instance] def iinf29 := Inf.mk inf29
theorem inf33 : (Tryz.prog.info? 33).map (·.size) = some 7 := by kernel_rfl
@[reducible, instance] def iinf33 := Inf.mk inf33
theorem inf34 : (Tryz.prog.info? 34).map (·.size) = some 14 := by kernel_rfl
@[reducible, instance] def iinf34 := Inf.mk inf34
theorem inf39 : (Tryz.prog.info? 39).map (·.size) = some 1 := by kernel_rfl
@[reducible, instance] def iinf39 := Inf.mk inf39
theorem inf44 : (Tryz.prog.info? 44).map (·.size) = some 1 := by kernel_rfl
@[reducible, instance] def iinf44 := Inf.mk inf44
theorem inf48 : (Tryz.prog.info? 48).map (·.size) = some 1 := by kernel_rfl
@[reducible, instance] def iinf48 := Inf.mk inf48
theorem inf53 : (Tryz.prog.info? 53).map (·.size) = some 1 := by kernel_rfl
@[reducible, instance] def iinf53 := Inf.mk inf53
theorem inf56 : (Tryz.prog.info? 56).map (·.size) = some 4 := by kernel_rfl
@[reducible, instance] def iinf56 := Inf.mk inf56
theorem inf69 : (Tryz.prog.info? 69).map (·.size) = some 1 := by kernel_rfl
@[reducible, instance] def iinf69 := Inf.mk inf69
theorem inf80 : (Tryz.prog.info? 80).map (·.size) = some 2 := by kernel_rfl
@[reducible, instance] def iinf80 := Inf.mk inf80
theorem inf90 : (Tryz.prog.info? 90).map (·.size) = some 1 := by kernel_rfl
@[reducible, instance] def iinf90 := Inf.mk inf90
theorem inf110 : (Tryz.prog.info? 110).map (·.size) = some 2 := by kernel_rfl
@[reducible, instance] def iinf110 := Inf.mk inf110
theorem inf111 : (Tryz.prog.info? 111).map (·.size) = some 1 := by kernel_rfl
@[reducible, instance] def iinf111 := Inf.mk inf111
theorem inf113 : (Tryz.prog.info? 113).map (·.size) = some 3 := by kernel_rfl
@[reducible, instance] def iinf113 := Inf.mk inf113
theorem inf114 : (Tryz.prog.info? 114).map (·.size) = some 6 := by kernel_rfl
@[reducible, instance] def iinf114 := Inf.mk inf114
theorem inf125 : (Tryz.prog.info? 125).map (·.size) = some 10 := by kernel_rfl
@[reducible, instance] def iinf125 := Inf.mk inf125
theorem inf126 : (Tryz.prog.info? 126).map (·.size) = some 20 := by kernel_rfl
@[reducible, instance] def iinf126 := Inf.mk inf126
theorem inf249 : (Tryz.prog.info? 249).map (·.size) = some 32 := by kernel_rfl
@[reducible, instance] def iinf249 := Inf.mk inf249
theorem inf252 : (Tryz.prog.info? 252).map (·.size) = some 1 := by kernel_rfl
@[reducible, instance] def iinf252 := Inf.mk inf252
theorem inf254 : (Tryz.prog.info? 254).map (·.size) = some 4 := by kernel_rfl
@[reducible, instance] def iinf254 := Inf.mk inf254
theorem inf263 : (Tryz.prog.info? 263).map (·.size) = some 4 := by kernel_rfl
@[reducible, instance] def iinf263 := Inf.mk inf263
theorem fo24_0 : fieldOff Tryz.prog 24 0 = some 0 := by kernel_rfl
@[reducible, instance] def ifo24_0 := FO.mk fo24_0
theorem fo24_1 : fieldOff Tryz.prog 24 1 = some 1 := by kernel_rfl
@[reducible, instance] def ifo24_1 := FO.mk fo24_1
theorem fo24_2 : fieldOff Tryz.prog 24 2 = some 2 := by kernel_rfl
@[reducible, instance] def ifo24_2 := FO.mk fo24_2
theorem fo24_3 : fieldOff Tryz.prog 24 3 = some 3 := by kernel_rfl
@[reducible, instance] def ifo24_3 := FO.mk fo24_3
theorem fo24_4 : fieldOff Tryz.prog 24 4 = some 4 := by kernel_rfl
@[reducible, instance] def ifo24_4 := FO.mk fo24_4
theorem fo24_5 : fieldOff Tryz.prog 24 5 = some 5 := by kernel_rfl
@[reducible, instance] def ifo24_5 := FO.mk fo24_5
theorem fo24_6 : fieldOff Tryz.prog 24 6 = some 6 := by kernel_rfl
@[reducible, instance] def ifo24_6 := FO.mk fo24_6
theorem fo24_7 : fieldOff Tryz.prog 24 7 = some 7 := by kernel_rfl
@[reducible, instance] def ifo24_7 := FO.mk fo24_7
theorem fo24_8 : fieldOff Tryz.prog 24 8 = some 8 := by kernel_rfl
@[reducible, instance] def ifo24_8 := FO.mk fo24_8
theorem fo24_9 : fieldOff Tryz.prog 24 9 = some 9 := by kernel_rfl
@[reducible, instance] def ifo24_9 := FO.mk fo24_9
theorem fo24_10 : fieldOff Tryz.prog 24 10 = some 10 := by kernel_rfl
@[reducible, instance] def ifo24_10 := FO.mk fo24_10
theorem fo24_11 : fieldOff Tryz.prog 24 11 = some 11 := by kernel_rfl
@[reducible, instance] def ifo24_11 := FO.mk fo24_11
theorem fo24_12 : fieldOff Tryz.prog 24 12 = some 12 := by kernel_rfl
@[reducible, instance] def ifo24_12 := FO.mk fo24_12
theorem fo24_13 : fieldOff Tryz.prog 24 13 = some 13 := by kernel_rfl
@[reducible, instance] def ifo24_13 := FO.mk fo24_13
theorem fo24_14 : fieldOff Tryz.prog 24 14 = some 14 := by kernel_rfl
@[reducible, instance] def ifo24_14 := FO.mk fo24_14
theorem fo24_15 : fieldOff Tryz.prog 24 15 = some 15 := by kernel_rfl
@[reducible, instance] def ifo24_15 := FO.mk fo24_15
theorem fo29_0 : fieldOff Tryz.prog 29 0 = some 0 := by kernel_rfl
@[reducible, instance] def ifo29_0 := FO.mk fo29_0
theorem fo29_1 : fieldOff Tryz.prog 29 1 = some 1 := by kernel_rfl
@[reducible, instance] def ifo29_1 := FO.mk fo29_1
theorem fo29_2 : fieldOff Tryz.prog 29 2 = some 2 := by kernel_rfl
@[reducible, instance] def ifo29_2 := FO.mk fo29_2
theorem fo29_3 : fieldOff Tryz.prog 29 3 = some 3 := by kernel_rfl
@[reducible, instance] def ifo29_3 := FO.mk fo29_3
theorem fo29_4 : fieldOff Tryz.prog 29 4 = some 4 := by kernel_rfl
@[reducible, instance] def ifo29_4 := FO.mk fo29_4
theorem fo29_5 : fieldOff Tryz.prog 29 5 = some 5 := by kernel_rfl
@[reducible, instance] def ifo29_5 := FO.mk fo29_5
theorem fo33_1 : fieldOff Tryz.prog 33 1 = some 1 := by kernel_rfl
@[reducible, instance] def ifo33_1 := FO.mk fo33_1
theorem fo33_2 : fieldOff Tryz.prog 33 2 = some 2 := by kernel_rfl
@[reducible, instance] def ifo33_2 := FO.mk fo33_2
theorem fo33_3 : fieldOff Tryz.prog 33 3 = some 4 := by kernel_rfl
@[reducible, instance] def ifo33_3 := FO.mk fo33_3
theorem fo33_4 : fieldOff Tryz.prog 33 4 = some 5 := by kernel_rfl
@[reducible, instance] def ifo33_4 := FO.mk fo33_4
theorem fo33_5 : fieldOff Tryz.prog 33 5 = some 6 := by kernel_rfl
@[reducible, instance] def ifo33_5 := FO.mk fo33_5
theorem fo56_2 : fieldOff Tryz.prog 56 2 = some 2 := by kernel_rfl
@[reducible, instance] def ifo56_2 := FO.mk fo56_2
theorem fo72_0 : fieldOff Tryz.prog 72 0 = some 0 := by kernel_rfl
@[reducible, instance] def ifo72_0 := FO.mk fo72_0
theorem fo72_1 : fieldOff Tryz.prog 72 1 = some 1 := by kernel_rfl
@[reducible, instance] def ifo72_1 := FO.mk fo72_1
theorem fo99_0 : fieldOff Tryz.prog 99 0 = some 0 := by kernel_rfl
@[reducible, instance] def ifo99_0 := FO.mk fo99_0
theorem fo99_1 : fieldOff Tryz.prog 99 1 = some 1 := by kernel_rfl
@[reducible, instance] def ifo99_1 := FO.mk fo99_1
theorem fo99_2 : fieldOff Tryz.prog 99 2 = some 2 := by kernel_rfl
@[reducible, instance] def ifo99_2 := FO.mk fo99_2
theorem fo99_3 : fieldOff Tryz.prog 99 3 = some 3 := by kernel_rfl
@[reducible, instance] def ifo99_3 := FO.mk fo99_3
theorem fo99_4 : fieldOff Tryz.prog 99 4 = some 4 := by kernel_rfl
@[reducible, instance] def ifo99_4 := FO.mk fo99_4
theorem fo99_6 : fieldOff Tryz.prog 99 6 = some 6 := by kernel_rfl
@[reducible, instance] def ifo99_6 := FO.mk fo99_6
theorem fo113_0 : fieldOff Tryz.prog 113 0 = some 0 := by kernel_rfl
@[reducible, instance] def ifo113_0 := FO.mk fo113_0
theorem fo113_1 : fieldOff Tryz.prog 113 1 = some 1 := by kernel_rfl
@[reducible, instance] def ifo113_1 := FO.mk fo113_1
theorem fo113_2 : fieldOff Tryz.prog 113 2 = some 2 := by kernel_rfl
@[reducible, instance] def ifo113_2 := FO.mk fo113_2
theorem fo117_0 : fieldOff Tryz.prog 117 0 = some 0 := by kernel_rfl
@[reducible, instance] def ifo117_0 := FO.mk fo117_0
theorem fo117_1 : fieldOff Tryz.prog 117 1 = some 16 := by kernel_rfl
@[reducible, instance] def ifo117_1 := FO.mk fo117_1
theorem fo117_2 : fieldOff Tryz.prog 117 2 = some 18 := by kernel_rfl
@[reducible, instance] def ifo117_2 := FO.mk fo117_2
theorem fo117_3 : fieldOff Tryz.prog 117 3 = some 30 := by kernel_rfl
@[reducible, instance] def ifo117_3 := FO.mk fo117_3
theorem fo125_0 : fieldOff Tryz.prog 125 0 = some 0 := by kernel_rfl
@[reducible, instance] def ifo125_0 := FO.mk fo125_0
theorem fo125_1 : fieldOff Tryz.prog 125 1 = some 1 := by kernel_rfl
@[reducible, instance] def ifo125_1 := FO.mk fo125_1
theorem fo125_2 : fieldOff Tryz.prog 125 2 = some 2 := by kernel_rfl
@[reducible, instance] def ifo125_2 := FO.mk fo125_2
theorem fo125_3 : fieldOff Tryz.prog 125 3 = some 3 := by kernel_rfl
@[reducible, instance] def ifo125_3 := FO.mk fo125_3
theorem fo128_0 : fieldOff Tryz.prog 128 0 = some 0 := by kernel_rfl
@[reducible, instance] def ifo128_0 := FO.mk fo128_0
theorem fo128_1 : fieldOff Tryz.prog 128 1 = some 16 := by kernel_rfl
@[reducible, instance] def ifo128_1 := FO.mk fo128_1
theorem fo128_2 : fieldOff Tryz.prog 128 2 = some 17 := by kernel_rfl
@[reducible, instance] def ifo128_2 := FO.mk fo128_2
theorem fo128_3 : fieldOff Tryz.prog 128 3 = some 18 := by kernel_rfl
@[reducible, instance] def ifo128_3 := FO.mk fo128_3
theorem fo128_4 : fieldOff Tryz.prog 128 4 = some 19 := by kernel_rfl
@[reducible, instance] def ifo128_4 := FO.mk fo128_4
theorem fo128_5 : fieldOff Tryz.prog 128 5 = some 20 := by kernel_rfl
@[reducible, instance] def ifo128_5 := FO.mk fo128_5
theorem fo128_6 : fieldOff Tryz.prog 128 6 = some 21 := by kernel_rfl
@[reducible, instance] def ifo128_6 := FO.mk fo128_6
theorem fo128_7 : fieldOff Tryz.prog 128 7 = some 22 := by kernel_rfl
@[reducible, instance] def ifo128_7 := FO.mk fo128_7
theorem fo156_0 : fieldOff Tryz.prog 156 0 = some 0 := by kernel_rfl
@[reducible, instance] def ifo156_0 := FO.mk fo156_0
theorem fo156_1 : fieldOff Tryz.prog 156 1 = some 1 := by kernel_rfl
@[reducible, instance] def ifo156_1 := FO.mk fo156_1
theorem fo156_2 : fieldOff Tryz.prog 156 2 = some 2 := by kernel_rfl
@[reducible, instance] def ifo156_2 := FO.mk fo156_2
theorem fo156_3 : fieldOff Tryz.prog 156 3 = some 3 := by kernel_rfl
@[reducible, instance] def ifo156_3 := FO.mk fo156_3
theorem fo156_4 : fieldOff Tryz.prog 156 4 = some 4 := by kernel_rfl
@[reducible, instance] def ifo156_4 := FO.mk fo156_4
theorem fo156_5 : fieldOff Tryz.prog 156 5 = some 5 := by kernel_rfl
@[reducible, instance] def ifo156_5 := FO.mk fo156_5
theorem fo156_6 : fieldOff Tryz.prog 156 6 = some 6 := by kernel_rfl
@[reducible, instance] def ifo156_6 := FO.mk fo156_6
theorem fo156_7 : fieldOff Tryz.prog 156 7 = some 7 := by kernel_rfl
@[reducible, instance] def ifo156_7 := FO.mk fo156_7
theorem fo156_8 : fieldOff Tryz.prog 156 8 = some 8 := by kernel_rfl
@[reducible, instance] def ifo156_8 := FO.mk fo156_8
theorem fo156_9 : fieldOff Tryz.prog 156 9 = some 9 := by kernel_rfl
@[reducible, instance] def ifo156_9 := FO.mk fo156_9
theorem fo156_10 : fieldOff Tryz.prog 156 10 = some 10 := by kernel_rfl
@[reducible, instance] def ifo156_10 := FO.mk fo156_10
theorem fo156_11 : fieldOff Tryz.prog 156 11 = some 11 := by kernel_rfl
@[reducible, instance] def ifo156_11 := FO.mk fo156_11
theorem fo156_12 : fieldOff Tryz.prog 156 12 = some 12 := by kernel_rfl
@[reducible, instance] def ifo156_12 := FO.mk fo156_12
theorem fo156_13 : fieldOff Tryz.prog 156 13 = some 13 := by kernel_rfl
@[reducible, instance] def ifo156_13 := FO.mk fo156_13
theorem fo156_14 : fieldOff Tryz.prog 156 14 = some 14 := by kernel_rfl
@[reducible, instance] def ifo156_14 := FO.mk fo156_14
theorem fo156_15 : fieldOff Tryz.prog 156 15 = some 15 := by kernel_rfl
@[reducible, instance] def ifo156_15 := FO.mk fo156_15
theorem fo158_0 : fieldOff Tryz.prog 158 0 = some 0 := by kernel_rfl
@[reducible, instance] def ifo158_0 := FO.mk fo158_0
theorem fo158_1 : fieldOff Tryz.prog 158 1 = some 1 := by kernel_rfl
@[reducible, instance] def ifo158_1 := FO.mk fo158_1
theorem fo158_2 : fieldOff Tryz.prog 158 2 = some 2 := by kernel_rfl
@[reducible, instance] def ifo158_2 := FO.mk fo158_2
theorem fo158_3 : fieldOff Tryz.prog 158 3 = some 3 := by kernel_rfl
@[reducible, instance] def ifo158_3 := FO.mk fo158_3
theorem fo158_4 : fieldOff Tryz.prog 158 4 = some 4 := by kernel_rfl
@[reducible, instance] def ifo158_4 := FO.mk fo158_4
theorem fo158_5 : fieldOff Tryz.prog 158 5 = some 5 := by kernel_rfl
@[reducible, instance] def ifo158_5 := FO.mk fo158_5
theorem fo158_6 : fieldOff Tryz.prog 158 6 = some 6 := by kernel_rfl
@[reducible, instance] def ifo158_6 := FO.mk fo158_6
theorem fo158_7 : fieldOff Tryz.prog 158 7 = some 7 := by kernel_rfl
@[reducible, instance] def ifo158_7 := FO.mk fo158_7
theorem fo158_8 : fieldOff Tryz.prog 158 8 = some 8 := by kernel_rfl
@[reducible, instance] def ifo158_8 := FO.mk fo158_8
theorem fo161_0 : fieldOff Tryz.prog 161 0 = some 0 := by kernel_rfl
@[reducible, instance] def ifo161_0 := FO.mk fo161_0
theorem fo161_1 : fieldOff Tryz.prog 161 1 = some 1 := by kernel_rfl
@[reducible, instance] def ifo161_1 := FO.mk fo161_1
theorem fo161_2 : fieldOff Tryz.prog 161 2 = some 2 := by kernel_rfl
@[reducible, instance] def ifo161_2 := FO.mk fo161_2
theorem fo161_3 : fieldOff Tryz.prog 161 3 = some 3 := by kernel_rfl
@[reducible, instance] def ifo161_3 := FO.mk fo161_3
theorem fo161_4 : fieldOff Tryz.prog 161 4 = some 4 := by kernel_rfl
@[reducible, instance] def ifo161_4 := FO.mk fo161_4
theorem fo161_5 : fieldOff Tryz.prog 161 5 = some 5 := by kernel_rfl
@[reducible, instance] def ifo161_5 := FO.mk fo161_5
theorem fo161_6 : fieldOff Tryz.prog 161 6 = some 6 := by kernel_rfl
@[reducible, instance] def ifo161_6 := FO.mk fo161_6
theorem fo187_0 : fieldOff Tryz.prog 187 0 = some 0 := by kernel_rfl
@[reducible, instance] def ifo187_0 := FO.mk fo187_0
theorem fo187_1 : fieldOff Tryz.prog 187 1 = some 1 := by kernel_rfl
@[reducible, instance] def ifo187_1 := FO.mk fo187_1
theorem fo187_2 : fieldOff Tryz.prog 187 2 = some 2 := by kernel_rfl
@[reducible, instance] def ifo187_2 := FO.mk fo187_2
theorem fo187_3 : fieldOff Tryz.prog 187 3 = some 3 := by kernel_rfl
@[reducible, instance] def ifo187_3 := FO.mk fo187_3
theorem fo216_0 : fieldOff Tryz.prog 216 0 = some 0 := by kernel_rfl
@[reducible, instance] def ifo216_0 := FO.mk fo216_0
theorem fo216_1 : fieldOff Tryz.prog 216 1 = some 1 := by kernel_rfl
@[reducible, instance] def ifo216_1 := FO.mk fo216_1
theorem fo216_2 : fieldOff Tryz.prog 216 2 = some 2 := by kernel_rfl
@[reducible, instance] def ifo216_2 := FO.mk fo216_2
theorem fo216_3 : fieldOff Tryz.prog 216 3 = some 3 := by kernel_rfl
@[reducible, instance] def ifo216_3 := FO.mk fo216_3
theorem fo218_0 : fieldOff Tryz.prog 218 0 = some 0 := by kernel_rfl
@[reducible, instance] def ifo218_0 := FO.mk fo218_0
theorem fo218_1 : fieldOff Tryz.prog 218 1 = some 1 := by kernel_rfl
@[reducible, instance] def ifo218_1 := FO.mk fo218_1
theorem fo218_2 : fieldOff Tryz.prog 218 2 = some 2 := by kernel_rfl
@[reducible, instance] def ifo218_2 := FO.mk fo218_2
theorem fo218_3 : fieldOff Tryz.prog 218 3 = some 3 := by kernel_rfl
@[reducible, instance] def ifo218_3 := FO.mk fo218_3
theorem fo221_0 : fieldOff Tryz.prog 221 0 = some 0 := by kernel_rfl
@[reducible, instance] def ifo221_0 := FO.mk fo221_0
theorem fo221_1 : fieldOff Tryz.prog 221 1 = some 1 := by kernel_rfl
@[reducible, instance] def ifo221_1 := FO.mk fo221_1
theorem fo221_2 : fieldOff Tryz.prog 221 2 = some 2 := by kernel_rfl
@[reducible, instance] def ifo221_2 := FO.mk fo221_2
theorem fo221_3 : fieldOff Tryz.prog 221 3 = some 3 := by kernel_rfl
@[reducible, instance] def ifo221_3 := FO.mk fo221_3
theorem fo221_4 : fieldOff Tryz.prog 221 4 = some 4 := by kernel_rfl
@[reducible, instance] def ifo221_4 := FO.mk fo221_4
theorem fo245_0 : fieldOff Tryz.prog 245 0 = some 0 := by kernel_rfl
@[reducible, instance] def ifo245_0 := FO.mk fo245_0
theorem fo245_1 : fieldOff Tryz.prog 245 1 = some 1 := by kernel_rfl
@[reducible, instance] def ifo245_1 := FO.mk fo245_1
theorem fo245_2 : fieldOff Tryz.prog 245 2 = some 2 := by kernel_rfl
@[reducible, instance] def ifo245_2 := FO.mk fo245_2
theorem fo245_3 : fieldOff Tryz.prog 245 3 = some 3 := by kernel_rfl
@[reducible, instance] def ifo245_3 := FO.mk fo245_3
theorem fo245_4 : fieldOff Tryz.prog 245 4 = some 4 := by kernel_rfl
@[reducible, instance] def ifo245_4 := FO.mk fo245_4
theorem fo245_5 : fieldOff Tryz.prog 245 5 = some 5 := by kernel_rfl
@[reducible, instance] def ifo245_5 := FO.mk fo245_5
theorem fo248_0 : fieldOff Tryz.prog 248 0 = some 0 := by kernel_rfl
@[reducible, instance] def ifo248_0 := FO.mk fo248_0
theorem fo248_1 : fieldOff Tryz.prog 248 1 = some 1 := by kernel_rfl
@[reducible, instance] def ifo248_1 := FO.mk fo248_1
theorem fo248_2 : fieldOff Tryz.prog 248 2 = some 2 := by kernel_rfl
@[reducible, instance] def ifo248_2 := FO.mk fo248_2
theorem fo248_3 : fieldOff Tryz.prog 248 3 = some 3 := by kernel_rfl
@[reducible, instance] def ifo248_3 := FO.mk fo248_3
theorem fo248_4 : fieldOff Tryz.prog 248 4 = some 4 := by kernel_rfl
@[reducible, instance] def ifo248_4 := FO.mk fo248_4
theorem fo251_0 : fieldOff Tryz.prog 251 0 = some 0 := by kernel_rfl
@[reducible, instance] def ifo251_0 := FO.mk fo251_0
theorem fo251_1 : fieldOff Tryz.prog 251 1 = some 1 := by kernel_rfl
@[reducible, instance] def ifo251_1 := FO.mk fo251_1
theorem fo254_0 : fieldOff Tryz.prog 254 0 = some 0 := by kernel_rfl
@[reducible, instance] def ifo254_0 := FO.mk fo254_0
theorem fo254_1 : fieldOff Tryz.prog 254 1 = some 1 := by kernel_rfl
@[reducible, instance] def ifo254_1 := FO.mk fo254_1
theorem fo254_2 : fieldOff Tryz.prog 254 2 = some 2 := by kernel_rfl
@[reducible, instance] def ifo254_2 := FO.mk fo254_2
theorem fo254_3 : fieldOff Tryz.prog 254 3 = some 3 := by kernel_rfl
@[reducible, instance] def ifo254_3 := FO.mk fo254_3
theorem fo263_0 : fieldOff Tryz.prog 263 0 = some 0 := by kernel_rfl
@[reducible, instance] def ifo263_0 := FO.mk fo263_0
theorem fo263_1 : fieldOff Tryz.prog 263 1 = some 1 := by kernel_rfl
@[reducible, instance] def ifo263_1 := FO.mk fo263_1
theorem fo263_2 : fieldOff Tryz.prog 263 2 = some 2 := by kernel_rfl
@[reducible, instance] def ifo263_2 := FO.mk fo263_2
theorem fo263_3 : fieldOff Tryz.prog 263 3 = some 3 := by kernel_rfl
@[reducible, instance] def ifo263_3 := FO.mk fo263_3
theorem ap3 : (Tryz.prog.info? 3).map (fun i => (i.zero, i.size, i.bytes)) = some (some (.int .i64 0), 1, 8) := by kernel_rfl
theorem ap4 : (Tryz.prog.info? 4).map (fun i => (i.zero, i.size, i.bytes)) = some (some (.bool false), 1, 1) := by kernel_rfl
theorem ap5 : (Tryz.prog.info? 5).map (fun i => (i.zero, i.size, i.bytes)) = some (some (.int .u8 0), 1, 1) := by kernel_rfl
theorem ap27 : (Tryz.prog.info? 27).map (fun i => (i.zero, i.size, i.bytes)) = some (some (.slice none 0 0), 1, 24) := by kernel_rfl
theorem ap29 : (Tryz.prog.info? 29).map (fun i => (i.zero, i.size, i.bytes)) = some (some (.agg #[.int .i64 0, .int .i64 0, .int .i64 0, .int .i64 0, .int .i64 0, .slice none 0 0]), 6, 64) := by kernel_rfl
theorem ap44 : (Tryz.prog.info? 44).map (fun i => (i.zero, i.size, i.bytes)) = some (some (.int .i64 0), 1, 8) := by kernel_rfl
theorem ap56 : (Tryz.prog.info? 56).map (fun i => (i.zero, i.size, i.bytes)) = some (some (.agg #[.int .i64 0, .int .i64 0, .int .i64 0, .slice none 0 0]), 4, 48) := by kernel_rfl
theorem ze24 : (Tryz.prog.info? 24).bind (·.zero) = some (Value.agg (#[vi (0), vi (0), vi (0), vi (0), vi (0), vi (0), vi (0), vi (0), vi (0), vi (0), vi (0), vi (0), vi (0), vi (0), vb false, vb false])) := by kernel_rfl
theorem ze27 : (Tryz.prog.info? 27).bind (·.zero) = some (vs none 0 0) := by kernel_rfl
theorem ze29 : (Tryz.prog.info? 29).bind (·.zero) = some (Value.agg (#[vi (0), vi (0), vi (0), vi (0), vi (0), vs none 0 0])) := by kernel_rfl
theorem ze33 : (Tryz.prog.info? 33).bind (·.zero) = some (Value.agg (#[vi (0), vi (0), vi (0), vi (0), vi (0), vi (0), vi (0)])) := by kernel_rfl
theorem ze34 : (Tryz.prog.info? 34).bind (·.zero) = some (Value.agg (#[vi (0), vi (0), vi (0), vi (0), vi (0), vi (0), vi (0), vi (0), vi (0), vi (0), vi (0), vi (0), vi (0), vi (0)])) := by kernel_rfl
theorem ze80 : (Tryz.prog.info? 80).bind (·.zero) = some (Value.agg (#[vs none 0 0, vs none 0 0])) := by kernel_rfl
theorem ze125 : (Tryz.prog.info? 125).bind (·.zero) = some (Value.agg (#[Value.pointer none, Value.pointer none, Value.pointer none, vi (0), vi (0), vi (0), vi (0), vi (0), vi (0), vi (0)])) := by kernel_rfl
theorem ze263 : (Tryz.prog.info? 263).bind (·.zero) = some (Value.agg (#[vi (0), vi (0), vi (0), vb false])) := by kernel_rfl
theorem mo : Tryz.prog.follows .mixedOrders = true := by kernel_rfl
@[reducible, instance] def iu3 := Und.mk underlying3
@[reducible, instance] def iu4 := Und.mk underlying4
@[reducible, instance] def iu5 := Und.mk underlying5
@[reducible, instance] def iu24 := Und.mk underlying24
@[reducible, instance] def iu27 := Und.mk underlying27
@[reducible, instance] def iu29 := Und.mk underlying29
@[reducible, instance] def iu30 := Und.mk underlying30
@[reducible, instance] def iu31 := Und.mk underlying31
@[reducible, instance] def iu33 := Und.mk underlying33
@[reducible, instance] def iu34 := Und.mk underlying34
@[reducible, instance] def iu39 := Und.mk underlying39
@[reducible, instance] def iu40 := Und.mk underlying40
@[reducible, instance] def iu44 := Und.mk underlying44
@[reducible, instance] def iu48 := Und.mk underlying48
@[reducible, instance] def iu53 := Und.mk underlying53
@[reducible, instance] def iu66 := Und.mk underlying66
@[reducible, instance] def iu69 := Und.mk underlying69
@[reducible, instance] def iu70 := Und.mk underlying70
@[reducible, instance] def iu80 := Und.mk underlying80
@[reducible, instance] def iu90 := Und.mk underlying90
@[reducible, instance] def iu110 := Und.mk underlying110
@[reducible, instance] def iu111 := Und.mk underlying111
@[reducible, instance] def iu114 := Und.mk underlying114
@[reducible, instance] def iu115 := Und.mk underlying115
@[reducible, instance] def iu118 := Und.mk underlying118
@[reducible, instance] def iu119 := Und.mk underlying119
@[reducible, instance] def iu120 := Und.mk underlying120
@[reducible, instance] def iu121 := Und.mk underlying121
@[reducible, instance] def iu122 := Und.mk underlying122
@[reducible, instance] def iu123 := Und.mk underlying123
@[reducible, instance] def iu126 := Und.mk underlying126
@[reducible, instance] def iu152 := Und.mk underlying152
@[reducible, instance] def iu153 := Und.mk underlying153
@[reducible, instance] def iu154 := Und.mk underlying154
@[reducible, instance] def iu159 := Und.mk underlying159
@[reducible, instance] def iu214 := Und.mk underlying214
@[reducible, instance] def iu246 := Und.mk underlying246
@[reducible, instance] def iu249 := Und.mk underlying249
@[reducible, instance] def iu252 := Und.mk underlying252
@[reducible, instance] def iu263 := Und.mk underlying263
@[reducible, instance] def iu288 := Und.mk underlying288
@[reducible, instance] def iu303 := Und.mk underlying303
structure api_Config where
 Mode : Int
 Modulus : Int
 Window : Int
 T1 : Int
 N2 : Int
 Hold : Int
 Wait : Int
 Keep : Int
 Queue : Int
 Size : Int
 Ring : Int
 Rate : Int
 Bad : Int
 Good : Int
 Revert : Bool
 Wide : Bool
deriving DecidableEq, Inhabited
abbrev api_Config.Q (b : Nat) (l0 l1 l2 l3 l4 l5 l6 l7 l8 l9 l10 l11 l12 l13 : Int) (l14 l15 : Bool) (L : List As) : List As := blk b (#[vi l0, vi l1, vi l2, vi l3, vi l4, vi l5, vi l6, vi l7, vi l8, vi l9, vi l10, vi l11, vi l12, vi l13, vb l14, vb l15]) 24 :: L
abbrev api_Config.P (b : Nat) (x : api_Config) (L : List As) : List As := api_Config.Q b x.Mode x.Modulus x.Window x.T1 x.N2 x.Hold x.Wait x.Keep x.Queue x.Size x.Ring x.Rate x.Bad x.Good x.Revert x.Wide L
def api_Config.at (b : Nat) (x : api_Config) : As := fun h => True ∧ Sp (api_Config.P b x []) h
theorem api_Config.open {b : Nat} {x : api_Config} {L : List As} {w0 w : World} (hs : Sep.St (api_Config.at b x :: L) w0 w) : True ∧ Sep.St (api_Config.P b x L) w0 w := by
 obtain ⟨ho, ht, hu, h, hon, h1, h2, hd, e1, e2, ⟨hi, hA⟩, hl⟩ := hs
 exact ⟨hi, St.open (m := api_Config.P b x []) ⟨ho, ht, hu, h, hon, h1, h2, hd, e1, e2, hA, hl⟩⟩
theorem api_Config.close {b : Nat} {l0 l1 l2 l3 l4 l5 l6 l7 l8 l9 l10 l11 l12 l13 : Int} {l14 l15 : Bool} {L : List As} {w0 w : World} (hi : True) (hs : Sep.St (api_Config.Q b l0 l1 l2 l3 l4 l5 l6 l7 l8 l9 l10 l11 l12 l13 l14 l15 L) w0 w) : Sep.St (api_Config.at b ({ Mode := l0, Modulus := l1, Window := l2, T1 := l3, N2 := l4, Hold := l5, Wait := l6, Keep := l7, Queue := l8, Size := l9, Ring := l10, Rate := l11, Bad := l12, Good := l13, Revert := l14, Wide := l15 } : api_Config) :: L) w0 w := by
 have h2 := St.join (m := api_Config.Q b l0 l1 l2 l3 l4 l5 l6 l7 l8 l9 l10 l11 l12 l13 l14 l15 []) hs
 exact h2.mono fun h hh => ⟨hi, hh⟩
def signalmanlaw20_Good.f (a0 : Int) (a1 : Int) (a2 : Int) (a3 : Bool) (a4 : Bool) : Option api_Config := some (({ Mode := iand .i64 a0 (1), Modulus := 128, Window := w64 (1 + (iand .i64 a1 (15))), T1 := 60, N2 := 20, Hold := 2, Wait := 15, Keep := 32, Queue := 20, Size := 20, Ring := 800, Rate := w64 (1 + (iand .i64 a2 (63))), Bad := 3, Good := 2, Revert := a3, Wide := a4 } : api_Config))
theorem signalmanlaw20_Good.calls (H : signalmanlaw20_Good.f a0 a1 a2 a3 a4 = some r) (HS : St [R] w0 w) : Calls Tryz.prog 13 #[vi a0, vi a1, vi a2, vb a3, vb a4] w (Ret fun u w => u = Value.agg #[vi r.Mode, vi r.Modulus, vi r.Window, vi r.T1, vi r.N2, vi r.Hold, vi r.Wait, vi r.Keep, vi r.Queue, vi r.Size, vi r.Ring, vi r.Rate, vi r.Bad, vi r.Good, vb r.Revert, vb r.Wide] ∧ St [R] w0 w) := by
 refine calls_enter func13 rfl rfl (go ?_)
 refine W.e (Y.alloc (z := Value.agg (#[vi (0), vi (0), vi (0), vi (0), vi (0), vi (0), vi (0), vi (0), vi (0), vi (0), vi (0), vi (0), vi (0), vi (0), vb false, vb false])) HS ze24) rfl ?_
 rintro _ w ⟨_, rfl, HS⟩
 refine go ?_
 refine W.r (X.and rfl rfl) rfl (go ?_)
 refine W.r (X.and rfl rfl) rfl (go ?_)
 refine W.r (X.and rfl rfl) rfl (go ?_)
 refine W.r (X.bd (Value.agg #[vi (iand .i64 a0 (1)), vi (128), vi (w64 (1 + (iand .i64 a1 (15)))), vi (60), vi (20), vi (2), vi (15), vi (32), vi (20), vi (20), vi (800), vi (w64 (1 + (iand .i64 a2 (63)))), vi (3), vi (2), vb a3, vb a4]) rfl (fun _ => by kernel_rfl)) rfl ?_
 refine W.e (Y.alloc (z := Value.agg (#[vi (0), vi (0), vi (0), vi (0), vi (0), vi (0), vi (0), vi (0), vi (0), vi (0), vi (0), vi (0), vi (0), vi (0), vb false, vb false])) HS ze24) rfl ?_
 rintro _ w ⟨_, rfl, HS⟩
 refine W.ss HS rfl rfl rfl rfl fun w HS => go ?_
 refine W.ss HS rfl rfl rfl rfl fun w HS => go ?_
 have hv3 := run_loadSt (P := Tryz.prog) (p := 0) 1 [vi (iand .i64 a0 (1)), vi (128), vi (w64 (1 + (iand .i64 a1 (15)))), vi (60), vi (20), vi (2), vi (15), vi (32), vi (20), vi (20), vi (800), vi (w64 (1 + (iand .i64 a2 (63)))), vi (3), vi (2), vb a3, vb a4] HS rfl underlying24 rfl inf24 rfl
 have HS := HS.ke [2]
 cases H
 exact At.retv1 rfl ⟨_, rfl, hv3⟩ ⟨_, rfl, rfl, HS⟩
def shape_within.f (a0 : Int) (a1 : Int) (a2 : Int) : Option Bool := (if a0 ≥ a1 then some (decide (a0 ≤ a2)) else some false)
theorem shape_within.calls (H : shape_within.f a0 a1 a2 = some r) (HS : St [R] w0 w) : Calls Tryz.prog 124 #[vi a0, vi a1, vi a2] w (Ret fun u w => u = vb r ∧ St [R] w0 w) := by
 refine calls_enter func124 rfl rfl (go ?_)
 refine W.cd 10 H rfl (fun _ H => go ?_) (fun _ H => go ?_)
 ·exact rt
 ·exact rt
def shape_Most.f (a0 : api_Config) : Option Int := some (w64 ((w64 (2 * (w64 ((imax (1) (imin a0.Size (1000))) + 16)))) + 2))
theorem shape_Most.calls (H : shape_Most.f a0 = some r) (HS : St [R] w0 w) : Calls Tryz.prog 125 #[Value.agg #[vi a0.Mode, vi a0.Modulus, vi a0.Window, vi a0.T1, vi a0.N2, vi a0.Hold, vi a0.Wait, vi a0.Keep, vi a0.Queue, vi a0.Size, vi a0.Ring, vi a0.Rate, vi a0.Bad, vi a0.Good, vb a0.Revert, vb a0.Wide]] w (Ret fun u w => u = vi r ∧ St [R] w0 w) := by
 refine calls_enter func125 rfl rfl (go ?_)
 refine W.e (Y.box HS rfl) rfl ?_
 rintro _ w ⟨_, rfl, HS⟩
 refine go ?_
 have HS := HS.ke [1]
 exact rt
mutual
def shape_Check.j4  (x11 : Bool) : Option Int := (if x11 = true then some (0) else some (1))
def shape_Check.j3 (a0 : api_Config) (x3 : Bool) (x5 : Bool) (x7 : Bool) (x9 : Bool) : Option Int := (if x3 = true then (if x5 = true then (if x7 = true then (if x9 = true then (shape_Check.j4 (decide ((w64 (a0.Keep * a0.Rate)) ≥ 32))) else (shape_Check.j4 false)) else (shape_Check.j4 false)) else (shape_Check.j4 false)) else (shape_Check.j4 false))
def shape_Check.j2 (a0 : api_Config) (x3 : Bool) (x5 : Bool) (x7 : Bool) : Option Int := ((shape_within.f a0.Bad 1 16).bind fun t22 => (if t22 = true then ((shape_within.f a0.Good 1 16).bind fun t25 => (shape_Check.j3 a0 x3 x5 x7 t25)) else (shape_Check.j3 a0 x3 x5 x7 false)))
def shape_Check.j1 (a0 : api_Config) (x3 : Bool) (x5 : Bool) : Option Int := ((shape_within.f a0.Window 1 (w64 (a0.Modulus.tdiv (8)))).bind fun t29 => (if t29 = true then ((shape_within.f a0.Queue 0 1000).bind fun t32 => (if t32 = true then ((shape_within.f a0.Size 1 1000).bind fun t35 => (if t35 = true then ((shape_within.f a0.Rate 1 4096).bind fun t38 => (if t38 = true then ((shape_Most.f a0).bind fun t41 => ((shape_within.f a0.Ring t41 1048576).bind fun t43 => (shape_Check.j2 a0 x3 x5 t43))) else (shape_Check.j2 a0 x3 x5 false))) else (shape_Check.j2 a0 x3 x5 false))) else (shape_Check.j2 a0 x3 x5 false))) else (shape_Check.j2 a0 x3 x5 false)))
def shape_Check.j0 (a0 : api_Config) (x3 : Bool) : Option Int := ((shape_within.f a0.T1 1 1048576).bind fun t47 => (if t47 = true then ((shape_within.f a0.N2 1 100).bind fun t50 => (if t50 = true then ((shape_within.f a0.Hold 0 1048576).bind fun t53 => (if t53 = true then ((shape_within.f a0.Wait 1 1048576).bind fun t56 => (if t56 = true then ((shape_within.f a0.Keep 1 65536).bind fun t59 => (shape_Check.j1 a0 x3 t59)) else (shape_Check.j1 a0 x3 false))) else (shape_Check.j1 a0 x3 false))) else (shape_Check.j1 a0 x3 false))) else (shape_Check.j1 a0 x3 false)))
end
def shape_Check.f (a0 : api_Config) : Option Int := (if a0.Mode = 0 then (if a0.Modulus = 128 then (shape_Check.j0 a0 true) else (shape_Check.j0 a0 (decide (a0.Modulus = 32768)))) else (if a0.Mode = 1 then (if a0.Modulus = 128 then (shape_Check.j0 a0 true) else (shape_Check.j0 a0 (decide (a0.Modulus = 32768)))) else (shape_Check.j0 a0 false)))
theorem shape_Check.calls (H : shape_Check.f a0 = some r) (HS : St [R] w0 w) : Calls Tryz.prog 87 #[Value.agg #[vi a0.Mode, vi a0.Modulus, vi a0.Window, vi a0.T1, vi a0.N2, vi a0.Hold, vi a0.Wait, vi a0.Keep, vi a0.Queue, vi a0.Size, vi a0.Ring, vi a0.Rate, vi a0.Bad, vi a0.Good, vb a0.Revert, vb a0.Wide]] w (Ret fun u w => u = vi r ∧ St [R] w0 w) := by
 refine calls_enter func87 rfl rfl (go ?_)
 refine W.e (Y.box HS rfl) rfl ?_
 rintro _ w ⟨nb1, rfl, HS⟩
 refine gs ?_
 refine V.mj (σ := Bool) [1] (fun x3 w => St [api_Config.at nb1 a0, R] w0 w ∧ shape_Check.j0 a0 x3 = some r) (fun x3 => [(3, vb x3)]) ?_ ?_
 ·refine go ?_
  refine W.cd 10 H rfl (fun _ H => go ?_) (fun _ H => go ?_)
  ·refine W.cd 19 H rfl (fun _ H => go ?_) (fun _ H => go ?_)
   ·have HS := api_Config.close tv HS
    exact At.mt _ ⟨HS, H⟩
   ·have HS := api_Config.close tv HS
    exact At.mt _ ⟨HS, H⟩
  ·refine W.cd 15 H rfl (fun _ H => go ?_) (fun _ H => go ?_)
   ·refine W.cd 19 H rfl (fun _ H => go ?_) (fun _ H => go ?_)
    ·have HS := api_Config.close tv HS
     exact At.mt _ ⟨HS, H⟩
    ·have HS := api_Config.close tv HS
     exact At.mt _ ⟨HS, H⟩
   ·have HS := api_Config.close tv HS
    exact At.mt _ ⟨HS, H⟩
 ·rintro x3 w ⟨HS, H⟩
  refine V.mj (σ := Bool) [1, 3] (fun x5 w => St [api_Config.at nb1 a0, R] w0 w ∧ shape_Check.j1 a0 x3 x5 = some r) (fun x5 => [(4, vb x5)]) ?_ ?_
  ·refine go ?_
   obtain ⟨_, HS⟩ := api_Config.open HS
   refine go ?_
   refine W.kl H func124 (fun _ h => shape_within.calls h HS.j0) ?_
   rintro _ _ w H ⟨rfl, HS⟩
   have HS := HS.o0
   refine go ?_
   refine W.cv 28 H rfl (fun _ H => go ?_) (fun _ H => go ?_)
   ·refine W.kl H func124 (fun _ h => shape_within.calls h HS.j0) ?_
    rintro _ _ w H ⟨rfl, HS⟩
    have HS := HS.o0
    refine go ?_
    refine W.cv 33 H rfl (fun _ H => go ?_) (fun _ H => go ?_)
    ·refine W.kl H func124 (fun _ h => shape_within.calls h HS.j0) ?_
     rintro _ _ w H ⟨rfl, HS⟩
     have HS := HS.o0
     refine go ?_
     refine W.cv 38 H rfl (fun _ H => go ?_) (fun _ H => go ?_)
     ·refine W.kl H func124 (fun _ h => shape_within.calls h HS.j0) ?_
      rintro _ _ w H ⟨rfl, HS⟩
      have HS := HS.o0
      refine go ?_
      refine W.cv 43 H rfl (fun _ H => go ?_) (fun _ H => go ?_)
      ·refine W.kl H func124 (fun _ h => shape_within.calls h HS.j0) ?_
       rintro _ _ w H ⟨rfl, HS⟩
       have HS := HS.o0
       refine go ?_
       have HS := api_Config.close tv HS
       exact At.mt _ ⟨HS, H⟩
      ·have HS := api_Config.close tv HS
       exact At.mt _ ⟨HS, H⟩
     ·have HS := api_Config.close tv HS
      exact At.mt _ ⟨HS, H⟩
    ·have HS := api_Config.close tv HS
     exact At.mt _ ⟨HS, H⟩
   ·have HS := api_Config.close tv HS
    exact At.mt _ ⟨HS, H⟩
  ·rintro x5 w ⟨HS, H⟩
   refine V.mj (σ := Bool) [1, 3, 4] (fun x7 w => St [api_Config.at nb1 a0, R] w0 w ∧ shape_Check.j2 a0 x3 x5 x7 = some r) (fun x7 => [(5, vb x7)]) ?_ ?_
   ·obtain ⟨_, HS⟩ := api_Config.open HS
    apply V.da [5, 9, 14, 19, 25, 26] [6, 7, 8, 10, 11, 12, 13, 15, 16, 17, 18, 20, 21, 22, 23, 24, 27, 28] [(48, _), (49, _), (50, _), (51, _), (52, _)] mo HS
    rfl
    refine T.e [49, 52] [10, 11, 12, 13, 15, 16, 17, 18, 20, 21, 22, 23, 24, 27, 28] [0, 1, 2, 3, 4] (fun w HS => ?_) ⟨rd, rd, rd, rd, .n1 51 rfl rfl (fun w HS => X.quo rfl rfl (by decide)), rds⟩
    refine Y.kl H func124 (fun _ h => shape_within.calls h HS.j0) ?_
    rintro _ _ w H ⟨rfl, HS⟩
    have HS := HS.o0
    refine ite_c H (fun c31 H => ?_) (fun c31 H => ?_)
    ·apply T.na [(53, _), (54, _), (55, _), (56, _)] HS
     exact nmk
     refine T.eG [56, 54] [15, 16, 17, 18, 20, 21, 22, 23, 24, 27, 28] [6, 7, 8] fun w HS => ?_
     refine Y.kl H func124 (fun _ h => shape_within.calls h HS.j0) ?_
     rintro _ _ w H ⟨rfl, HS⟩
     have HS := HS.o0
     refine ite_c H (fun c34 H => ?_) (fun c34 H => ?_)
     ·apply T.na [(57, _), (58, _), (59, _), (60, _), (61, _)] HS
      exact nmk
      refine T.eG [61, 59] [20, 21, 22, 23, 24, 27, 28] [10, 11, 12, 13] fun w HS => ?_
      refine Y.kl H func124 (fun _ h => shape_within.calls h HS.j0) ?_
      rintro _ _ w H ⟨rfl, HS⟩
      have HS := HS.o0
      refine ite_c H (fun c37 H => ?_) (fun c37 H => ?_)
      ·apply T.na [(62, _), (63, _), (64, _), (65, _), (66, _)] HS
       exact nmk
       refine T.eG [66, 64] [27, 28] [15, 16, 17, 18] fun w HS => ?_
       refine Y.kl H func124 (fun _ h => shape_within.calls h HS.j0) ?_
       rintro _ _ w H ⟨rfl, HS⟩
       have HS := HS.o0
       refine ite_c H (fun c40 H => ?_) (fun c40 H => ?_)
       ·apply T.na [(67, _), (68, _), (69, _), (70, _), (71, _), (72, _)] HS
        exact nmk
        refine T.eG [72, 69] [27, 28] [20, 21, 24] fun w HS => ?_
        refine Y.kl H func125 (fun _ h => shape_Most.calls h HS.j0) ?_
        rintro _ _ w H ⟨rfl, HS⟩
        have HS := HS.o0
        refine T.nw HS ?_
        refine T.eG [71, 73, 69] [] [22, 23] fun w HS => ?_
        refine Y.kl H func124 (fun _ h => shape_within.calls h HS.j0) ?_
        rintro _ _ w H ⟨rfl, HS⟩
        have HS := HS.o0
        apply T.na [(74, _), (75, _), (5, _)] HS
        exact nmk
        refine T.ff [1, 3, 4, 5] fun w HS => ?_
        have HS := api_Config.close tv HS
        exact At.mt _ ⟨HS, H⟩
       ·apply T.na [(67, _), (68, _), (69, _), (70, _), (71, _), (72, _)] HS
        exact nmk
        refine T.dp [26] [27, 28] [(73, undef)] nmk ?_
        refine T.dp [] [] [(74, undef), (75, vb false), (5, vb false)] nmk ?_
        refine T.ff [1, 3, 4, 5] fun w HS => ?_
        have HS := api_Config.close tv HS
        exact At.mt _ ⟨HS, H⟩
      ·apply T.na [(62, _), (63, _), (64, _), (65, _), (66, _)] HS
       exact nmk
       refine T.dp [25, 26] [27, 28] [(67, undef), (68, vb false), (69, vb false), (70, undef), (71, undef), (72, undef)] nmk ?_
       refine T.dp [26] [27, 28] [(73, undef)] nmk ?_
       refine T.dp [] [] [(74, undef), (75, vb false), (5, vb false)] nmk ?_
       refine T.ff [1, 3, 4, 5] fun w HS => ?_
       have HS := api_Config.close tv HS
       exact At.mt _ ⟨HS, H⟩
     ·apply T.na [(57, _), (58, _), (59, _), (60, _), (61, _)] HS
      exact nmk
      refine T.dp [19, 25, 26] [20, 21, 22, 23, 24, 27, 28] [(62, undef), (63, vb false), (64, vb false), (65, undef), (66, undef)] nmk ?_
      refine T.dp [25, 26] [27, 28] [(67, undef), (68, vb false), (69, vb false), (70, undef), (71, undef), (72, undef)] nmk ?_
      refine T.dp [26] [27, 28] [(73, undef)] nmk ?_
      refine T.dp [] [] [(74, undef), (75, vb false), (5, vb false)] nmk ?_
      refine T.ff [1, 3, 4, 5] fun w HS => ?_
      have HS := api_Config.close tv HS
      exact At.mt _ ⟨HS, H⟩
    ·apply T.na [(53, _), (54, _), (55, _), (56, _)] HS
     exact nmk
     refine T.dp [14, 19, 25, 26] [15, 16, 17, 18, 20, 21, 22, 23, 24, 27, 28] [(57, undef), (58, vb false), (59, vb false), (60, undef), (61, undef)] nmk ?_
     refine T.dp [19, 25, 26] [20, 21, 22, 23, 24, 27, 28] [(62, undef), (63, vb false), (64, vb false), (65, undef), (66, undef)] nmk ?_
     refine T.dp [25, 26] [27, 28] [(67, undef), (68, vb false), (69, vb false), (70, undef), (71, undef), (72, undef)] nmk ?_
     refine T.dp [26] [27, 28] [(73, undef)] nmk ?_
     refine T.dp [] [] [(74, undef), (75, vb false), (5, vb false)] nmk ?_
     refine T.ff [1, 3, 4, 5] fun w HS => ?_
     have HS := api_Config.close tv HS
     exact At.mt _ ⟨HS, H⟩
   ·rintro x7 w ⟨HS, H⟩
    refine V.mj (σ := Bool) [1, 3, 4, 5] (fun x9 w => St [api_Config.at nb1 a0, R] w0 w ∧ shape_Check.j3 a0 x3 x5 x7 x9 = some r) (fun x9 => [(6, vb x9)]) ?_ ?_
    ·refine go ?_
     obtain ⟨_, HS⟩ := api_Config.open HS
     refine go ?_
     refine W.kl H func124 (fun _ h => shape_within.calls h HS.j0) ?_
     rintro _ _ w H ⟨rfl, HS⟩
     have HS := HS.o0
     refine go ?_
     refine W.cv 79 H rfl (fun _ H => go ?_) (fun _ H => go ?_)
     ·refine W.kl H func124 (fun _ h => shape_within.calls h HS.j0) ?_
      rintro _ _ w H ⟨rfl, HS⟩
      have HS := HS.o0
      refine go ?_
      have HS := api_Config.close tv HS
      exact At.mt _ ⟨HS, H⟩
     ·have HS := api_Config.close tv HS
      exact At.mt _ ⟨HS, H⟩
    ·rintro x9 w ⟨HS, H⟩
     refine V.seq ?_
     refine V.mj (σ := Bool) [] (fun x11 w => St [api_Config.at nb1 a0, R] w0 w ∧ shape_Check.j4 x11 = some r) (fun x11 => [(101, vb x11)]) ?_ ?_
     ·refine go ?_
      refine W.cv 85 H rfl (fun _ H => go ?_) (fun _ H => go ?_)
      ·refine W.cv 88 H rfl (fun _ H => go ?_) (fun _ H => go ?_)
       ·refine W.cv 91 H rfl (fun _ H => go ?_) (fun _ H => go ?_)
        ·refine W.cv 94 H rfl (fun _ H => go ?_) (fun _ H => go ?_)
         ·obtain ⟨_, HS⟩ := api_Config.open HS
          refine go ?_
          have HS := api_Config.close tv HS
          exact At.mt _ ⟨HS, H⟩
         ·exact At.mt _ ⟨HS, H⟩
        ·exact At.mt _ ⟨HS, H⟩
       ·exact At.mt _ ⟨HS, H⟩
      ·exact At.mt _ ⟨HS, H⟩
     ·rintro x11 w ⟨HS, H⟩
      refine V.cv H rfl (fun _ H => go ?_) (fun _ H => go ?_)
      ·have HS := HS.ke [1]
       exact rt
      ·have HS := HS.ke [1]
       exact rt
def arq_cut.f (a0 : Int) (a1 : Int) (a2 : Int) : Option Int := some (imax a1 (imin a0 a2))
theorem arq_cut.calls (H : arq_cut.f a0 a1 a2 = some r) (HS : St [R] w0 w) : Calls Tryz.prog 126 #[vi a0, vi a1, vi a2] w (Ret fun u w => u = vi r ∧ St [R] w0 w) := by
 refine calls_enter func126 rfl rfl (go ?_)
 exact rt
def backlog_Cut.f (a0 : Int) (a1 : Int) : Option (Int × Int) := some (imax (8) (imin a0 (32768)), imax (1) (imin a1 (w64 ((imax (8) (imin a0 (32768))).tdiv (8)))))
theorem backlog_Cut.calls (H : backlog_Cut.f a0 a1 = some r) (HS : St [R] w0 w) : Calls Tryz.prog 173 #[vi a0, vi a1] w (Ret fun u w => u = Value.tuple #[vi r.1, vi r.2] ∧ St [R] w0 w) := by
 refine calls_enter func173 rfl rfl (go ?_)
 refine W.r (X.quo rfl rfl (by decide)) rfl (go ?_)
 exact rt
structure backlog_Log where
 m : Int
 window : Int
 queue : Int
 first : Int
 out : Int
 l : List (List Int)
deriving DecidableEq, Inhabited
abbrev backlog_Log.Q (b : Nat) (l0 l1 l2 l3 l4 : Int) (l5 : List (List Int)) (a5 : Option Addr) (c5 : Nat) (d5 : List Value) (L : List As) : List As := blk b (#[vi l0, vi l1, vi l2, vi l3, vi l4, vs a5 l5.length c5]) 245 :: row 27 1 (.slice a5 l5.length c5) l5.length d5 :: tie (El.sl (El.int .u8)) d5 l5 :: L
abbrev backlog_Log.P (b : Nat) (x : backlog_Log) (a5 : Option Addr) (c5 : Nat) (d5 : List Value) (L : List As) : List As := backlog_Log.Q b x.m x.window x.queue x.first x.out x.l a5 c5 d5 L
def backlog_Log.at (b : Nat) (x : backlog_Log) : As := fun h => True ∧ ∃ a5 : Option Addr, ∃ c5 : Nat, ∃ d5 : List Value, Sp (backlog_Log.P b x a5 c5 d5 []) h
theorem backlog_Log.open {b : Nat} {x : backlog_Log} {L : List As} {w0 w : World} (hs : Sep.St (backlog_Log.at b x :: L) w0 w) : ∃ a5 : Option Addr, ∃ c5 : Nat, ∃ d5 : List Value, True ∧ Sep.St (backlog_Log.P b x a5 c5 d5 L) w0 w := by
 obtain ⟨ho, ht, hu, h, hon, h1, h2, hd, e1, e2, ⟨hi, a5, c5, d5, hA⟩, hl⟩ := hs
 exact ⟨a5, c5, d5, hi, St.open (m := backlog_Log.P b x a5 c5 d5 []) ⟨ho, ht, hu, h, hon, h1, h2, hd, e1, e2, hA, hl⟩⟩
theorem backlog_Log.close {b : Nat} {l0 l1 l2 l3 l4 : Int} {l5 : List (List Int)} {a5 : Option Addr} {c5 : Nat} {d5 : List Value} {L : List As} {w0 w : World} (hi : True) (hs : Sep.St (backlog_Log.Q b l0 l1 l2 l3 l4 l5 a5 c5 d5 L) w0 w) : Sep.St (backlog_Log.at b ({ m := l0, window := l1, queue := l2, first := l3, out := l4, l := l5 } : backlog_Log) :: L) w0 w := by
 have h2 := St.join (m := backlog_Log.Q b l0 l1 l2 l3 l4 l5 a5 c5 d5 []) hs
 exact h2.mono fun h hh => ⟨hi, _, _, _, hh⟩
def backlog_New.f (a0 : Int) (a1 : Int) (a2 : Int) : Option backlog_Log := ((backlog_Cut.f a0 a1).bind fun t1 => some (({ m := t1.1, window := t1.2, queue := imax (0) (imin a2 (1000)), first := 0, out := 0, l := ([] : List (List Int)) } : backlog_Log)))
theorem backlog_New.calls (H : backlog_New.f a0 a1 a2 = some r) (HS : St [R] w0 w) : Calls Tryz.prog 127 #[vi a0, vi a1, vi a2] w (Ret fun u w => ∃ bq0, u = pt bq0 ∧ St [backlog_Log.at bq0 r, R] w0 w) := by
 refine calls_enter func127 rfl rfl (go ?_)
 refine W.kl H func173 (fun _ h => backlog_Cut.calls h HS.j0) ?_
 rintro t1 _ w H ⟨rfl, HS⟩
 have HS := HS.o0
 refine go ?_
 refine W.r (X.bd (Value.agg #[vi t1.1, vi t1.2, vi (imax (0) (imin a2 (1000))), vi (0), vi (0), vs none 0 0]) rfl (fun _ => by kernel_rfl)) rfl ?_
 refine W.e (Y.box HS rfl) rfl ?_
 rintro _ w ⟨_, rfl, HS⟩
 refine go ?_
 have HS := backlog_Log.close (l5 := ([] : List (List Int))) tv ((row_nilE (El.sl (El.int .u8)) 27 1 HS).b [2])
 exact rt
structure reorder_Order where
 m : Int
 window : Int
 next : Int
 kept : List (Int × (List Int))
 ready : List (List Int)
deriving DecidableEq, Inhabited
abbrev reorder_Order.Q (b : Nat) (l0 l1 l2 : Int) (l3 : List (Int × (List Int))) (l4 : List (List Int)) (b3 : Nat) (k3 : List (Int × Value)) (a4 : Option Addr) (c4 : Nat) (d4 : List Value) (L : List As) : List As := blk b (#[vi l0, vi l1, vi l2, Value.map (some b3), vs a4 l4.length c4]) 248 :: mblk b3 k3 :: tieM (El.sl (El.int .u8)) k3 l3 :: row 27 1 (.slice a4 l4.length c4) l4.length d4 :: tie (El.sl (El.int .u8)) d4 l4 :: L
abbrev reorder_Order.P (b : Nat) (x : reorder_Order) (b3 : Nat) (k3 : List (Int × Value)) (a4 : Option Addr) (c4 : Nat) (d4 : List Value) (L : List As) : List As := reorder_Order.Q b x.m x.window x.next x.kept x.ready b3 k3 a4 c4 d4 L
def reorder_Order.at (b : Nat) (x : reorder_Order) : As := fun h => True ∧ ∃ b3 : Nat, ∃ k3 : List (Int × Value), ∃ a4 : Option Addr, ∃ c4 : Nat, ∃ d4 : List Value, Sp (reorder_Order.P b x b3 k3 a4 c4 d4 []) h
theorem reorder_Order.open {b : Nat} {x : reorder_Order} {L : List As} {w0 w : World} (hs : Sep.St (reorder_Order.at b x :: L) w0 w) : ∃ b3 : Nat, ∃ k3 : List (Int × Value), ∃ a4 : Option Addr, ∃ c4 : Nat, ∃ d4 : List Value, True ∧ Sep.St (reorder_Order.P b x b3 k3 a4 c4 d4 L) w0 w := by
 obtain ⟨ho, ht, hu, h, hon, h1, h2, hd, e1, e2, ⟨hi, b3, k3, a4, c4, d4, hA⟩, hl⟩ := hs
 exact ⟨b3, k3, a4, c4, d4, hi, St.open (m := reorder_Order.P b x b3 k3 a4 c4 d4 []) ⟨ho, ht, hu, h, hon, h1, h2, hd, e1, e2, hA, hl⟩⟩
theorem reorder_Order.close {b : Nat} {l0 l1 l2 : Int} {l3 : List (Int × (List Int))} {l4 : List (List Int)} {b3 : Nat} {k3 : List (Int × Value)} {a4 : Option Addr} {c4 : Nat} {d4 : List Value} {L : List As} {w0 w : World} (hi : True) (hs : Sep.St (reorder_Order.Q b l0 l1 l2 l3 l4 b3 k3 a4 c4 d4 L) w0 w) : Sep.St (reorder_Order.at b ({ m := l0, window := l1, next := l2, kept := l3, ready := l4 } : reorder_Order) :: L) w0 w := by
 have h2 := St.join (m := reorder_Order.Q b l0 l1 l2 l3 l4 b3 k3 a4 c4 d4 []) hs
 exact h2.mono fun h hh => ⟨hi, _, _, _, _, _, hh⟩
def reorder_New.f (a0 : Int) (a1 : Int) : Option reorder_Order := ((backlog_Cut.f a0 a1).bind fun t1 => some (({ m := t1.1, window := t1.2, next := 0, kept := ([] : List (Int × (List Int))), ready := ([] : List (List Int)) } : reorder_Order)))
theorem reorder_New.calls (H : reorder_New.f a0 a1 = some r) (HS : St [R] w0 w) : Calls Tryz.prog 128 #[vi a0, vi a1] w (Ret fun u w => ∃ bq0, u = pt bq0 ∧ St [reorder_Order.at bq0 r, R] w0 w) := by
 refine calls_enter func128 rfl rfl (go ?_)
 refine W.kl H func173 (fun _ h => backlog_Cut.calls h HS.j0) ?_
 rintro t1 _ w H ⟨rfl, HS⟩
 have HS := HS.o0
 refine go ?_
 refine W.e (Y.makeMap HS) rfl ?_
 rintro _ w ⟨mb3, rfl, HS⟩
 have HS := St.put (A := tieM (El.sl (El.int .u8)) ([]) (([] : List (Int × (List Int))))) (fun _ => tv) HS
 refine W.r (X.bd (Value.agg #[vi t1.1, vi t1.2, vi (0), Value.map (some mb3), vs none 0 0]) rfl (fun _ => by kernel_rfl)) rfl (W.e (Y.box HS rfl) rfl ?_)
 rintro _ w ⟨_, rfl, HS⟩
 refine go ?_
 have HS := reorder_Order.close (l4 := ([] : List (List Int))) tv ((row_nilE (El.sl (El.int .u8)) 27 1 HS).b [2, 3, 2])
 exact rt
structure clock_Set where
 now : Int
 left : List Int
deriving DecidableEq, Inhabited
abbrev clock_Set.Q (b : Nat) (l0 : Int) (l1 : List Int) (L : List As) : List As := blk b (([Value.int .u32 l0] ++ l1.map (Value.int .i64)).toArray) 251 :: L
abbrev clock_Set.P (b : Nat) (x : clock_Set) (L : List As) : List As := clock_Set.Q b x.now x.left L
def clock_Set.at (b : Nat) (x : clock_Set) : As := fun h => (x.left.length = 32) ∧ Sp (clock_Set.P b x []) h
theorem clock_Set.open {b : Nat} {x : clock_Set} {L : List As} {w0 w : World} (hs : Sep.St (clock_Set.at b x :: L) w0 w) : (x.left.length = 32) ∧ Sep.St (clock_Set.P b x L) w0 w := by
 obtain ⟨ho, ht, hu, h, hon, h1, h2, hd, e1, e2, ⟨hi, hA⟩, hl⟩ := hs
 exact ⟨hi, St.open (m := clock_Set.P b x []) ⟨ho, ht, hu, h, hon, h1, h2, hd, e1, e2, hA, hl⟩⟩
theorem clock_Set.close {b : Nat} {l0 : Int} {l1 : List Int} {L : List As} {w0 w : World} (hi : l1.length = 32) (hs : Sep.St (clock_Set.Q b l0 l1 L) w0 w) : Sep.St (clock_Set.at b ({ now := l0, left := l1 } : clock_Set) :: L) w0 w := by
 have h2 := St.join (m := clock_Set.Q b l0 l1 []) hs
 exact h2.mono fun h hh => ⟨hi, hh⟩
def clock_New.f (a0 : Int) : Option clock_Set := some ({ now := a0, left := List.replicate 32 0 } : clock_Set)
theorem clock_New.calls (H : clock_New.f a0 = some r) (HS : St [R] w0 w) : Calls Tryz.prog 129 #[Value.int .u32 a0] w (Ret fun u w => ∃ bq0, u = pt bq0 ∧ St [clock_Set.at bq0 r, R] w0 w) := by
 refine calls_enter func129 rfl rfl (go ?_)
 refine W.r (X.bd (Value.agg (([Value.int .u32 a0] ++ (List.replicate 32 0).map (Value.int .i64)).toArray)) rfl (fun _ => by kernel_rfl)) rfl ?_
 refine W.e (Y.box HS rfl) rfl ?_
 rintro _ w ⟨_, rfl, HS⟩
 refine go ?_
 have HS := clock_Set.close (by first | exact (by simp) | (simp only [List.length_set]; exact (by simp))) HS
 exact rt
structure arq_Arq where
 m : Int
 t1 : Int
 n2 : Int
 size : Int
 state : Int
 tag : Int
 tries : Int
 rejected : Bool
 log : backlog_Log
 order : reorder_Order
 timers : clock_Set
 out : List (List Int)
 inds : List Int
 sent : Int
 acked : Int
 lost : Int
deriving DecidableEq, Inhabited
abbrev arq_Arq.Q (b : Nat) (l0 l1 l2 l3 l4 l5 l6 : Int) (l7 : Bool) (l8 : backlog_Log) (l9 : reorder_Order) (l10 : clock_Set) (l11 : List (List Int)) (l12 : List Int) (l13 l14 l15 : Int) (b8 b9 b10 : Nat) (a11 : Option Addr) (c11 : Nat) (d11 : List Value) (a12 : Option Addr) (c12 : Nat) (L : List As) : List As := blk b (#[vi l0, vi l1, vi l2, vi l3, vi l4, vi l5, vi l6, vb l7, pt b8, pt b9, pt b10, vs a11 l11.length c11, vs a12 l12.length c12, vi l13, vi l14, vi l15]) 156 :: backlog_Log.at b8 l8 :: reorder_Order.at b9 l9 :: clock_Set.at b10 l10 :: row 27 1 (.slice a11 l11.length c11) l11.length d11 :: tie (El.sl (El.int .u8)) d11 l11 :: row 3 1 (.slice a12 l12.length c12) l12.length (l12.map (Value.int .i64)) :: L
abbrev arq_Arq.P (b : Nat) (x : arq_Arq) (b8 b9 b10 : Nat) (a11 : Option Addr) (c11 : Nat) (d11 : List Value) (a12 : Option Addr) (c12 : Nat) (L : List As) : List As := arq_Arq.Q b x.m x.t1 x.n2 x.size x.state x.tag x.tries x.rejected x.log x.order x.timers x.out x.inds x.sent x.acked x.lost b8 b9 b10 a11 c11 d11 a12 c12 L
def arq_Arq.at (b : Nat) (x : arq_Arq) : As := fun h => True ∧ ∃ b8 : Nat, ∃ b9 : Nat, ∃ b10 : Nat, ∃ a11 : Option Addr, ∃ c11 : Nat, ∃ d11 : List Value, ∃ a12 : Option Addr, ∃ c12 : Nat, Sp (arq_Arq.P b x b8 b9 b10 a11 c11 d11 a12 c12 []) h
theorem arq_Arq.open {b : Nat} {x : arq_Arq} {L : List As} {w0 w : World} (hs : Sep.St (arq_Arq.at b x :: L) w0 w) : ∃ b8 : Nat, ∃ b9 : Nat, ∃ b10 : Nat, ∃ a11 : Option Addr, ∃ c11 : Nat, ∃ d11 : List Value, ∃ a12 : Option Addr, ∃ c12 : Nat, True ∧ Sep.St (arq_Arq.P b x b8 b9 b10 a11 c11 d11 a12 c12 L) w0 w := by
 obtain ⟨ho, ht, hu, h, hon, h1, h2, hd, e1, e2, ⟨hi, b8, b9, b10, a11, c11, d11, a12, c12, hA⟩, hl⟩ := hs
 exact ⟨b8, b9, b10, a11, c11, d11, a12, c12, hi, St.open (m := arq_Arq.P b x b8 b9 b10 a11 c11 d11 a12 c12 []) ⟨ho, ht, hu, h, hon, h1, h2, hd, e1, e2, hA, hl⟩⟩
theorem arq_Arq.close {b : Nat} {l0 l1 l2 l3 l4 l5 l6 : Int} {l7 : Bool} {l8 : backlog_Log} {l9 : reorder_Order} {l10 : clock_Set} {l11 : List (List Int)} {l12 : List Int} {l13 l14 l15 : Int} {b8 b9 b10 : Nat} {a11 : Option Addr} {c11 : Nat} {d11 : List Value} {a12 : Option Addr} {c12 : Nat} {L : List As} {w0 w : World} (hi : True) (hs : Sep.St (arq_Arq.Q b l0 l1 l2 l3 l4 l5 l6 l7 l8 l9 l10 l11 l12 l13 l14 l15 b8 b9 b10 a11 c11 d11 a12 c12 L) w0 w) : Sep.St (arq_Arq.at b ({ m := l0, t1 := l1, n2 := l2, size := l3, state := l4, tag := l5, tries := l6, rejected := l7, log := l8, order := l9, timers := l10, out := l11, inds := l12, sent := l13, acked := l14, lost := l15 } : arq_Arq) :: L) w0 w := by
 have h2 := St.join (m := arq_Arq.Q b l0 l1 l2 l3 l4 l5 l6 l7 l8 l9 l10 l11 l12 l13 l14 l15 b8 b9 b10 a11 c11 d11 a12 c12 []) hs
 exact h2.mono fun h hh => ⟨hi, _, _, _, _, _, _, _, _, hh⟩
mutual
def arq_New.j0 (a0 : api_Config) (x3 : Int) : Option arq_Arq := ((arq_cut.f a0.T1 1 1048576).bind fun t7 => ((arq_cut.f a0.N2 1 100).bind fun t9 => ((arq_cut.f a0.Size 1 1000).bind fun t11 => ((backlog_New.f x3 a0.Window a0.Queue).bind fun t13 => ((reorder_New.f x3 a0.Window).bind fun t15 => ((clock_New.f 0).bind fun t17 => some (({ m := x3, t1 := t7, n2 := t9, size := t11, state := 0, tag := 0, tries := 0, rejected := false, log := t13, order := t15, timers := t17, out := ([] : List (List Int)), inds := ([] : List Int), sent := 0, acked := 0, lost := 0 } : arq_Arq))))))))
end
def arq_New.f (a0 : api_Config) : Option arq_Arq := (if a0.Modulus = 32768 then (arq_New.j0 a0 32768) else (arq_New.j0 a0 128))
theorem arq_New.calls (H : arq_New.f a0 = some r) (HS : St [R] w0 w) : Calls Tryz.prog 88 #[Value.agg #[vi a0.Mode, vi a0.Modulus, vi a0.Window, vi a0.T1, vi a0.N2, vi a0.Hold, vi a0.Wait, vi a0.Keep, vi a0.Queue, vi a0.Size, vi a0.Ring, vi a0.Rate, vi a0.Bad, vi a0.Good, vb a0.Revert, vb a0.Wide]] w (Ret fun u w => ∃ bq0, u = pt bq0 ∧ St [arq_Arq.at bq0 r, R] w0 w) := by
 refine calls_enter func88 rfl rfl (go ?_)
 refine W.e (Y.box HS rfl) rfl ?_
 rintro _ w ⟨nb1, rfl, HS⟩
 refine gs ?_
 refine V.seq ?_
 refine gs ?_
 refine V.mj (σ := Int) [1] (fun x3 w => St [api_Config.at nb1 a0, R] w0 w ∧ arq_New.j0 a0 x3 = some r) (fun x3 => [(3, vi x3)]) ?_ ?_
 ·refine go ?_
  refine V.cd H rfl (fun _ H => go ?_) (fun _ H => go ?_)
  ·have HS := api_Config.close tv HS
   exact At.mt _ ⟨HS, H⟩
  ·have HS := api_Config.close tv HS
   exact At.mt _ ⟨HS, H⟩
 ·rintro x3 w ⟨HS, H⟩
  refine go ?_
  obtain ⟨_, HS⟩ := api_Config.open HS
  apply V.da [3, 6, 9, 15, 19, 20, 22] [21, 23] [(7, _), (8, _), (9, _), (11, _), (12, _), (14, _), (15, _), (17, _), (18, _), (19, _), (20, _), (21, _), (23, _), (24, _), (25, _)] mo HS
  rfl
  refine T.e [9] [21, 23] [1, 2] fun w HS => ?_
  refine Y.kl H func126 (fun _ h => arq_cut.calls h HS.j0) ?_
  rintro t7 _ w H ⟨rfl, HS⟩
  have HS := HS.o0
  refine T.nw HS ?_
  refine T.e [12] [21, 23] [4, 5] fun w HS => ?_
  refine Y.kl H func126 (fun _ h => arq_cut.calls h HS.j0) ?_
  rintro t9 _ w H ⟨rfl, HS⟩
  have HS := HS.o0
  refine T.nw HS ?_
  refine T.e [15] [21, 23] [7, 8] fun w HS => ?_
  refine Y.kl H func126 (fun _ h => arq_cut.calls h HS.j0) ?_
  rintro t11 _ w H ⟨rfl, HS⟩
  have HS := HS.o0
  refine T.nw HS ?_
  refine T.e [17, 19, 21] [21, 23] [10, 11, 12, 13, 14] fun w HS => ?_
  refine Y.kl H func127 (fun _ h => backlog_New.calls h HS.j0) ?_
  rintro _ _ w H ⟨bt13_0, rfl, HS⟩
  have HS := HS.o1
  refine T.nw HS ?_
  refine T.e [23, 25] [21, 23] [16, 17, 18] fun w HS => ?_
  refine Y.kl H func128 (fun _ h => reorder_New.calls h HS.j0) ?_
  rintro _ _ w H ⟨bt15_0, rfl, HS⟩
  have HS := HS.o1
  refine T.nw HS ?_
  refine T.e [] [23] [] fun w HS => ?_
  refine Y.kl H func129 (fun _ h => clock_New.calls h HS.j0) ?_
  rintro _ _ w H ⟨bt17_0, rfl, HS⟩
  have HS := HS.o1
  apply T.na [(27, _), (28, _)] HS
  exact nmk
  refine T.e [28] [] [0, 21] (fun w HS => ?_) ⟨rd, .ns [(7, _), (10, _), (13, _), (16, _), (22, _), (26, _), (27, _)] ⟨rfl, rfl, rfl, rfl, rfl, rfl, rfl, tv⟩ rfl (fun w HS => X.bd (Value.agg #[vi x3, vi t7, vi t9, vi t11, vi (0), vi (0), vi (0), vb false, pt bt13_0, pt bt15_0, pt bt17_0, vs none 0 0, vs none 0 0, vi (0), vi (0), vi (0)]) rfl (fun _ => by kernel_rfl)), rds⟩
  refine ⟨_, Y.box HS rfl, ?_⟩
  rintro _ w ⟨_, rfl, HS⟩
  apply T.na [(29, _), (2, _)] HS
  exact nmk
  refine T.ff [2] fun w HS => ?_
  refine go ?_
  have HS := (arq_Arq.close (l11 := ([] : List (List Int))) (l12 := ([] : List Int)) tv ((row_nilF (Value.int .i64) 3 1 (row_nilE (El.sl (El.int .u8)) 27 1 HS)).b [3, 5, 4, 3, 1, 1])).ke [0, 1]
  exact rt
structure aps_Aps where
 hold : Int
 wait : Int
 revert : Bool
 command : Int
 remote : Int
 own : Int
 bad : Int
 left : Int
 line : Int
deriving DecidableEq, Inhabited
abbrev aps_Aps.Q (b : Nat) (l0 l1 : Int) (l2 : Bool) (l3 l4 l5 l6 l7 l8 : Int) (L : List As) : List As := blk b (#[vi l0, vi l1, vb l2, vi l3, vi l4, vi l5, vi l6, vi l7, vi l8]) 158 :: L
abbrev aps_Aps.P (b : Nat) (x : aps_Aps) (L : List As) : List As := aps_Aps.Q b x.hold x.wait x.revert x.command x.remote x.own x.bad x.left x.line L
def aps_Aps.at (b : Nat) (x : aps_Aps) : As := fun h => True ∧ Sp (aps_Aps.P b x []) h
theorem aps_Aps.open {b : Nat} {x : aps_Aps} {L : List As} {w0 w : World} (hs : Sep.St (aps_Aps.at b x :: L) w0 w) : True ∧ Sep.St (aps_Aps.P b x L) w0 w := by
 obtain ⟨ho, ht, hu, h, hon, h1, h2, hd, e1, e2, ⟨hi, hA⟩, hl⟩ := hs
 exact ⟨hi, St.open (m := aps_Aps.P b x []) ⟨ho, ht, hu, h, hon, h1, h2, hd, e1, e2, hA, hl⟩⟩
theorem aps_Aps.close {b : Nat} {l0 l1 : Int} {l2 : Bool} {l3 l4 l5 l6 l7 l8 : Int} {L : List As} {w0 w : World} (hi : True) (hs : Sep.St (aps_Aps.Q b l0 l1 l2 l3 l4 l5 l6 l7 l8 L) w0 w) : Sep.St (aps_Aps.at b ({ hold := l0, wait := l1, revert := l2, command := l3, remote := l4, own := l5, bad := l6, left := l7, line := l8 } : aps_Aps) :: L) w0 w := by
 have h2 := St.join (m := aps_Aps.Q b l0 l1 l2 l3 l4 l5 l6 l7 l8 []) hs
 exact h2.mono fun h hh => ⟨hi, hh⟩
def aps_New.f (a0 : Int) (a1 : Int) (a2 : Bool) : Option aps_Aps := some (({ hold := imax (0) (imin a0 (1048576)), wait := imax (1) (imin a1 (1048576)), revert := a2, command := 0, remote := 0, own := 0, bad := 0, left := 0, line := 0 } : aps_Aps))
theorem aps_New.calls (H : aps_New.f a0 a1 a2 = some r) (HS : St [R] w0 w) : Calls Tryz.prog 89 #[vi a0, vi a1, vb a2] w (Ret fun u w => ∃ bq0, u = pt bq0 ∧ St [aps_Aps.at bq0 r, R] w0 w) := by
 refine calls_enter func89 rfl rfl (go ?_)
 refine W.r (X.bd (Value.agg #[vi (imax (0) (imin a0 (1048576))), vi (imax (1) (imin a1 (1048576))), vb a2, vi (0), vi (0), vi (0), vi (0), vi (0), vi (0)]) rfl (fun _ => by kernel_rfl)) rfl ?_
 refine W.e (Y.box HS rfl) rfl ?_
 rintro _ w ⟨_, rfl, HS⟩
 refine go ?_
 have HS := aps_Aps.close tv HS
 exact rt
structure twins_Table where
 known : Bool
 highest : Int
 at_ : Int
 came : List Bool
deriving DecidableEq, Inhabited
abbrev twins_Table.Q (b : Nat) (l0 : Bool) (l1 l2 : Int) (l3 : List Bool) (a3 : Option Addr) (c3 : Nat) (L : List As) : List As := blk b (#[vb l0, Value.int .u32 l1, vi l2, vs a3 l3.length c3]) 216 :: row 4 1 (.slice a3 l3.length c3) l3.length (l3.map Value.bool) :: L
abbrev twins_Table.P (b : Nat) (x : twins_Table) (a3 : Option Addr) (c3 : Nat) (L : List As) : List As := twins_Table.Q b x.known x.highest x.at_ x.came a3 c3 L
def twins_Table.at (b : Nat) (x : twins_Table) : As := fun h => True ∧ ∃ a3 : Option Addr, ∃ c3 : Nat, Sp (twins_Table.P b x a3 c3 []) h
theorem twins_Table.open {b : Nat} {x : twins_Table} {L : List As} {w0 w : World} (hs : Sep.St (twins_Table.at b x :: L) w0 w) : ∃ a3 : Option Addr, ∃ c3 : Nat, True ∧ Sep.St (twins_Table.P b x a3 c3 L) w0 w := by
 obtain ⟨ho, ht, hu, h, hon, h1, h2, hd, e1, e2, ⟨hi, a3, c3, hA⟩, hl⟩ := hs
 exact ⟨a3, c3, hi, St.open (m := twins_Table.P b x a3 c3 []) ⟨ho, ht, hu, h, hon, h1, h2, hd, e1, e2, hA, hl⟩⟩
theorem twins_Table.close {b : Nat} {l0 : Bool} {l1 l2 : Int} {l3 : List Bool} {a3 : Option Addr} {c3 : Nat} {L : List As} {w0 w : World} (hi : True) (hs : Sep.St (twins_Table.Q b l0 l1 l2 l3 a3 c3 L) w0 w) : Sep.St (twins_Table.at b ({ known := l0, highest := l1, at_ := l2, came := l3 } : twins_Table) :: L) w0 w := by
 have h2 := St.join (m := twins_Table.Q b l0 l1 l2 l3 a3 c3 []) hs
 exact h2.mono fun h hh => ⟨hi, _, _, hh⟩
def twins_New.f (a0 : Int) : Option twins_Table := (if 0 ≤ imax (1) (imin a0 (4096)) ∧ imax (1) (imin a0 (4096)) ≤ 1099511627776 then some (({ known := false, highest := 0, at_ := 0, came := List.replicate (imax (1) (imin a0 (4096))).toNat false } : twins_Table)) else none)
theorem twins_New.calls (H : twins_New.f a0 = some r) (HS : St [R] w0 w) : Calls Tryz.prog 90 #[vi a0] w (Ret fun u w => ∃ bq0, u = pt bq0 ∧ St [twins_Table.at bq0 r, R] w0 w) := by
 refine calls_enter func90 rfl rfl (go ?_)
 obtain ⟨c1, H⟩ := ite_n H
 refine W.e (Y.makeSl (g := Value.bool) (N := imax (1) (imin a0 (4096))) false underlying214 ap4 rfl HS rfl rfl c1 (by decide)) rfl ?_
 rintro _ w ⟨ra2, rc3, rfl, HS⟩
 refine W.r (X.bd (Value.agg #[vb false, Value.int .u32 (0), vi (0), vs ra2 (List.replicate (imax (1) (imin a0 (4096))).toNat false).length rc3]) rfl (fun _ => by kernel_rfl)) rfl (W.e (Y.box HS rfl) rfl ?_)
 rintro _ w ⟨_, rfl, HS⟩
 refine go ?_
 have HS := twins_Table.close tv HS
 exact rt
mutual
def fcs_turned.l0 : Nat → Int → Int → Int → Option Int
 | 0, _, _, _ => none
 | k + 1, a1, x1, x2 => (if x2 < 8 then (if (iand .u32 x1 (1)) = 1 then (fcs_turned.l0 k a1 (ixor .u32 (x1.fdiv (2 ^ (min (1 : Int).toNat IntKind.u32.bits))) a1) (w64 (x2 + 1))) else (fcs_turned.l0 k a1 (x1.fdiv (2 ^ (min (1 : Int).toNat IntKind.u32.bits))) (w64 (x2 + 1)))) else some x1)
end
def fcs_turned.f (k : Nat) (a0 : Int) (a1 : Int) : Option Int := (fcs_turned.l0 k a1 a0 0)
theorem fcs_turned.calls (H : fcs_turned.f k a0 a1 = some r) (HS : St [R] w0 w) : Calls Tryz.prog 308 #[Value.int .u32 a0, Value.int .u32 a1] w (Ret fun u w => u = Value.int .u32 r ∧ St [R] w0 w) := by
 refine calls_enter func308 rfl rfl (go ?_)
 refine V.lj (σ := Int × Int) [1] (fun kq (x1, x2) w => St [R] w0 w ∧ fcs_turned.l0 kq a1 x1 x2 = some r ∧ kq ≤ k) (fun (x1, x2) => [(0, Value.int .u32 x1), (6, vi x2)]) (_, _) ⟨HS, H, Nat.le_refl _⟩ ?_
 rintro kq3 ⟨x1, x2⟩ w ⟨HS, H, _⟩
 cases kq3 with
 | zero => exact absurd H (by simp [fcs_turned.l0])
 | succ kq3 =>
  simp only [fcs_turned.l0] at H
  refine go ?_
  refine V.cd H rfl (fun _ H => go ?_) (fun _ H => go ?_)
  ·refine W.r (X.and rfl rfl) rfl (go ?_)
   refine W.r (X.shr rfl rfl (by decide)) rfl (go ?_)
   refine V.cd H rfl (fun _ H => go ?_) (fun _ H => go ?_)
   ·refine W.r (X.xor rfl rfl) rfl (go ?_)
    exact At.rn (_, _) ⟨HS, H, by omega⟩
   ·exact At.rn (_, _) ⟨HS, H, by omega⟩
  ·exact rt
mutual
def fcs_sum.l0 : Nat → (List Int) → Int → Int → Int → Option Int
 | 0, _, _, _, _ => none
 | k + 1, a0, a2, x1, x2 => (if x2 < (a0.length : Int) then (if 0 ≤ x2 ∧ x2 < (a0.length : Int) then ((fcs_turned.f k (ixor .u32 x1 (IntKind.u32.wrap (a0.getD x2.toNat 0))) a2).bind fun t9 => (fcs_sum.l0 k a0 a2 t9 (w64 (x2 + 1)))) else none) else some (icom .u32 x1))
end
def fcs_sum.f (k : Nat) (a0 : List Int) (a1 : Int) (a2 : Int) : Option Int := (fcs_sum.l0 k a0 a2 a1 0)
theorem fcs_sum.calls (H : fcs_sum.f k a0 a1 a2 = some r) (HS : St [R] w0 w) (hr0 : dB R sa0 sc0 a0) : Calls Tryz.prog 290 #[vs sa0 a0.length sc0, Value.int .u32 a1, Value.int .u32 a2] w (Ret fun u w => u = Value.int .u32 r ∧ St [R] w0 w) := by
 refine calls_enter func290 rfl rfl (go ?_)
 refine V.lj (σ := Int × Int) [2, 9, 10] (fun kq (x1, x2) w => St [R] w0 w ∧ fcs_sum.l0 kq a0 a2 x1 x2 = some r ∧ kq ≤ k) (fun (x1, x2) => [(1, Value.int .u32 x1), (11, vi x2)]) (_, _) ⟨HS, H, Nat.le_refl _⟩ ?_
 rintro kq3 ⟨x1, x2⟩ w ⟨HS, H, _⟩
 cases kq3 with
 | zero => exact absurd H (by simp [fcs_sum.l0])
 | succ kq3 =>
  simp only [fcs_sum.l0] at H
  refine go ?_
  refine V.cd H rfl (fun _ H => go ?_) (fun _ H => go ?_)
  ·obtain ⟨c6, H⟩ := ite_n H
   obtain ⟨_, _, hh⟩ := (rdC.at 0 hr0 HS rfl).some (by decide) c6.1 c6.2; subst hh
   refine go ?_
   refine W.r (X.load underlying5 rfl rfl ((rdC.at 0 hr0 HS rfl).cellI c6.1 c6.2)) rfl (go ?_)
   refine W.r (X.xor rfl rfl) rfl (go ?_)
   refine W.kl H func308 (fun _ h => fcs_turned.calls h HS.j0) ?_
   rintro _ _ w H ⟨rfl, HS⟩
   have HS := HS.o0
   refine go ?_
   exact At.rn (_, _) ⟨HS, H, by omega⟩
  ·refine W.r (X.com rfl) rfl (go ?_)
   exact rt
def fcs_Short.f (k : Nat) (a0 : List Int) : Option Int := ((fcs_sum.f k a0 65535 33800).bind fun t1 => some (IntKind.u16.wrap t1))
theorem fcs_Short.calls (H : fcs_Short.f k a0 = some r) (HS : St [R] w0 w) (hr0 : dB R sa0 sc0 a0) : Calls Tryz.prog 258 #[vs sa0 a0.length sc0] w (Ret fun u w => u = Value.int .u16 r ∧ St [R] w0 w) := by
 refine calls_enter func258 rfl rfl (go ?_)
 refine W.kl H func290 (fun _ h => fcs_sum.calls h HS.j0 (rdC.part 0 hr0 rfl)) ?_
 rintro _ _ w H ⟨rfl, HS⟩
 have HS := HS.o0
 refine go ?_
 exact rt
def fcs_Long.f (k : Nat) (a0 : List Int) : Option Int := ((fcs_sum.f k a0 4294967295 3988292384).bind fun t1 => some t1)
theorem fcs_Long.calls (H : fcs_Long.f k a0 = some r) (HS : St [R] w0 w) (hr0 : dB R sa0 sc0 a0) : Calls Tryz.prog 259 #[vs sa0 a0.length sc0] w (Ret fun u w => u = Value.int .u32 r ∧ St [R] w0 w) := by
 refine calls_enter func259 rfl rfl (go ?_)
 refine W.kl H func290 (fun _ h => fcs_sum.calls h HS.j0 (rdC.part 0 hr0 rfl)) ?_
 rintro _ _ w H ⟨rfl, HS⟩
 have HS := HS.o0
 refine go ?_
 exact rt
mutual
def fcs_tail.l1 : Nat → Int → Int → Int → (List Int) → Option (List Int)
 | 0, _, _, _, _ => none
 | k + 1, x3, x7, x8, x11 => (if x8 < x3 then (if (x11.length : Int) + ([IntKind.u8.wrap x7] : List Int).length ≤ 1099511627776 then (fcs_tail.l1 k x3 (x7.fdiv (2 ^ (min (8 : Int).toNat IntKind.u32.bits))) (w64 (x8 + 1)) (x11 ++ ([IntKind.u8.wrap x7] : List Int))) else none) else some x11)
def fcs_tail.j0 (k : Nat)  (x3 : Int) (x4 : Int) : Option (List Int) := (fcs_tail.l1 k x3 x4 0 ([] : List Int))
end
def fcs_tail.f (k : Nat) (a0 : List Int) (a1 : Bool) : Option (List Int) := ((fcs_Short.f k a0).bind fun t1 => (if a1 = true then ((fcs_Long.f k a0).bind fun t22 => (fcs_tail.j0 k 4 t22)) else (fcs_tail.j0 k 2 (IntKind.u32.wrap t1))))
theorem fcs_tail.calls (H : fcs_tail.f k a0 a1 = some r) (HS : St [R] w0 w) (hr0 : dB R sa0 sc0 a0) : Calls Tryz.prog 216 #[vs sa0 a0.length sc0, vb a1] w (Ret fun u w => ∃ aq0 cq0, u = vs aq0 r.length cq0 ∧ St [rB aq0 cq0 r, R] w0 w) := by
 refine calls_enter func216 rfl rfl (go ?_)
 refine W.kl H func258 (fun _ h => fcs_Short.calls h HS.j0 (rdC.part 0 hr0 rfl)) ?_
 rintro _ _ w H ⟨rfl, HS⟩
 have HS := HS.o0
 refine gs ?_
 refine V.mj (σ := Int × Int) [] (fun (x3, x4) w => St [R] w0 w ∧ ∃ kf5, kf5 ≤ k ∧ fcs_tail.j0 kf5 x3 x4 = some r) (fun (x3, x4) => [(5, vi x3), (6, Value.int .u32 x4)]) ?_ ?_
 ·refine go ?_
  refine V.cv H rfl (fun _ H => go ?_) (fun _ H => go ?_)
  ·refine W.kl H func259 (fun _ h => fcs_Long.calls h HS.j0 (rdC.part 0 hr0 rfl)) ?_
   rintro _ _ w H ⟨rfl, HS⟩
   have HS := HS.o0
   refine go ?_
   exact At.mt (_, _) ⟨HS, k, by omega, H⟩
  ·exact At.mt (_, _) ⟨HS, k, by omega, H⟩
 ·rintro ⟨x3, x4⟩ w ⟨HS, kf5, _, H⟩
  refine go ?_
  have HS := row_nilF (Value.int .u8) 5 1 HS
  refine V.lj (σ := Int × Int × Option Addr × Nat × List Int) [14] (fun kq (x7, x8, ra9, rc10, x11) w => St [rB ra9 rc10 x11, R] w0 w ∧ fcs_tail.l1 kq x3 x7 x8 x11 = some r ∧ kq ≤ kf5) (fun (x7, x8, ra9, rc10, x11) => [(6, Value.int .u32 x7), (7, vs ra9 x11.length rc10), (15, vi x8)]) (_, _, _, _, _) ⟨HS, H, Nat.le_refl _⟩ ?_
  rintro kq12 ⟨x7, x8, ra9, rc10, x11⟩ w ⟨HS, H, _⟩
  cases kq12 with
  | zero => exact absurd H (by simp [fcs_tail.l1])
  | succ kq12 =>
   simp only [fcs_tail.l1] at H
   refine go ?_
   refine V.cd H rfl (fun _ H => go ?_) (fun _ H => go ?_)
   ·refine W.e (Y.ls (e := 5) (Value.int .u8) ([IntKind.u8.wrap x7] : List Int) HS rfl rfl (fun _ => by kernel_rfl)) rfl ?_
    rintro _ w ⟨_, rfl, HS⟩
    obtain ⟨_, H⟩ := ite_n H
    refine W.e (Y.appF (Value.int .u8) (fun _ => rfl) 1 underlying27 ap5 rfl HS rfl rfl rfl (rdC.at 0 row_rd HS rfl) (by omega) (by omega)) rfl ?_
    rintro _ w ⟨_, _, rfl, HS⟩
    refine go ?_
    refine W.r (X.shr rfl rfl (by decide)) rfl (go ?_)
    have HS := HS.ke [1, 1]
    exact At.rn (_, _, _, _, _) ⟨HS, H, by omega⟩
   ·exact rt
def slices_Grow_Sbytebyte.f (a1 : Int) : Option (List Int) := (if a1 < 0 then none else (if (w64 (a1 - 0)) > 0 then (if w64 (a1 - 0) ≤ 1099511627776 then some ([] : List Int) else none) else some ([] : List Int)))
theorem slices_Grow_Sbytebyte.calls (H : slices_Grow_Sbytebyte.f a1 = some r) (HS : St [R] w0 w) : Calls Tryz.prog 257 #[vs none 0 0, vi a1] w (Ret fun u w => ∃ aq0 cq0, u = vs aq0 r.length cq0 ∧ St [rB aq0 cq0 r, R] w0 w) := by
 refine calls_enter func257 rfl rfl (go ?_)
 refine V.cd H rfl (fun _ H => ?_) (fun _ H => go ?_)
 ·exact nomatch H
 ·refine W.r (X.cap underlying27 rfl) rfl (go ?_)
  refine V.cd H rfl (fun _ H => go ?_) (fun _ H => go ?_)
  ·refine W.r (X.cap underlying27 rfl) rfl ?_
   refine W.r (X.nilH underlying27 inf5 rfl rfl) rfl (go ?_)
   obtain ⟨_, H⟩ := ite_n H
   refine W.e (Y.appN (kk := (w64 (a1 - 0)).toNat) (kI := w64 (a1 - 0)) underlying27 underlying3 ap5 rfl HS rfl rfl (by omega) (by omega) (by omega) (by decide)) rfl ?_
   rintro _ w ⟨ig4, ic5, _, rfl, _, _, _, HS⟩
   refine go ?_
   refine W.r (X.rawH (j := (0 : Int)) underlying27 inf5 rfl rfl ⟨(by omega), (by omega)⟩) rfl (go ?_)
   refine At.again 4 (v := vs (some ⟨ig4, 0, none⟩) ([] : List Int).length ic5) rfl ?_
   have HS := HS.row_shut (m := ([] : List Int).length) (c := ic5) (off := 0) (cs := ([] : List Int).map (Value.int .u8)) (Nat.zero_le _) (by omega) (by omega) (by simp) rfl
   exact rt
  ·have HS := row_nilF (Value.int .u8) 5 1 HS
   exact rt
mutual
def slices_Concat_Sbytebyte.l0 : Nat → (List (List Int)) → Int → Int → Option (List Int)
 | 0, _, _, _ => none
 | k + 1, a0, x2, x3 => (if x3 < (a0.length : Int) then (if 0 ≤ x3 ∧ x3 < (a0.length : Int) then (if (w64 (x2 + ((a0.getD x3.toNat []).length : Int))) < 0 then none else (slices_Concat_Sbytebyte.l0 k a0 (w64 (x2 + ((a0.getD x3.toNat []).length : Int))) (w64 (x3 + 1)))) else none) else ((slices_Grow_Sbytebyte.f x2).bind fun t17 => (slices_Concat_Sbytebyte.l1 k a0 0 t17)))
def slices_Concat_Sbytebyte.l1 : Nat → (List (List Int)) → Int → (List Int) → Option (List Int)
 | 0, _, _, _ => none
 | k + 1, a0, x20, x23 => (if x20 < (a0.length : Int) then (if 0 ≤ x20 ∧ x20 < (a0.length : Int) then (if (x23.length : Int) + (a0.getD x20.toNat []).length ≤ 1099511627776 then (slices_Concat_Sbytebyte.l1 k a0 (w64 (x20 + 1)) (x23 ++ (a0.getD x20.toNat []))) else none) else none) else some x23)
end
def slices_Concat_Sbytebyte.f (k : Nat) (a0 : List (List Int)) : Option (List Int) := (slices_Concat_Sbytebyte.l0 k a0 0 0)
theorem slices_Concat_Sbytebyte.calls (H : slices_Concat_Sbytebyte.f k a0 = some r) (HS : St [R] w0 w) (hr0 : rdC R 1 (.slice sa0 a0.length sc0) a0.length sd0) (ht0 : ∀ h, R h → tie (El.sl (El.int .u8)) sd0 a0 h) : Calls Tryz.prog 215 #[vs sa0 a0.length sc0] w (Ret fun u w => ∃ aq0 cq0, u = vs aq0 r.length cq0 ∧ St [rB aq0 cq0 r, R] w0 w) := by
 refine calls_enter func215 rfl rfl ?_
 have HS := St.more 0 HS rfl ht0 tie.pers
 refine go ?_
 refine V.lj (σ := Int × Int) [0, 9, 10] (fun kq (x2, x3) w => St [tie (El.sl (El.int .u8)) sd0 a0, R] w0 w ∧ slices_Concat_Sbytebyte.l0 kq a0 x2 x3 = some r ∧ kq ≤ k) (fun (x2, x3) => [(3, vi x2), (11, vi x3)]) (_, _) ⟨HS, H, Nat.le_refl _⟩ ?_
 rintro kq4 ⟨x2, x3⟩ w ⟨HS, H, _⟩
 cases kq4 with
 | zero => exact absurd H (by simp [slices_Concat_Sbytebyte.l0])
 | succ kq4 =>
  simp only [slices_Concat_Sbytebyte.l0] at H
  refine go ?_
  refine V.cd H rfl (fun _ H => go ?_) (fun _ H => go ?_)
  ·obtain ⟨c7, H⟩ := ite_n H
   obtain ⟨_, _, hh⟩ := (rdC.at 1 hr0 HS rfl).some (by decide) c7.1 c7.2; subst hh
   refine go ?_
   obtain ⟨_, hc11, HS⟩ := St.tie_at 0 HS rfl ([]) c7.1 c7.2
   obtain ⟨_, _, he15, HN⟩ := St.sl_openF (Value.int .u8) (fun t => tie_int t) HS; clear HS; subst he15; have HS := HN
   refine W.r (X.load underlying27 rfl rfl ((rdC.at 2 hr0 HS rfl).cellEl0 (hc11 0 _ rfl))) rfl (go ?_)
   refine V.cd H rfl (fun _ H => ?_) (fun _ H => go ?_)
   ·exact nomatch H
   ·have HS := HS.ke [1, 1]
    exact At.rn (_, _) ⟨HS, H, by omega⟩
  ·refine W.kl H func257 (fun _ h => slices_Grow_Sbytebyte.calls h HS.j0) ?_
   rintro _ _ w H ⟨_, _, rfl, HS⟩
   have HS := HS.o1
   refine go ?_
   refine V.lj (σ := Int × Option Addr × Nat × List Int) [25, 26] (fun kq (x20, ra21, rc22, x23) w => St [rB ra21 rc22 x23, tie (El.sl (El.int .u8)) sd0 a0, R] w0 w ∧ slices_Concat_Sbytebyte.l1 kq a0 x20 x23 = some r ∧ kq ≤ kq4) (fun (x20, ra21, rc22, x23) => [(6, vs ra21 x23.length rc22), (27, vi x20)]) (_, _, _, _) ⟨HS, H, Nat.le_refl _⟩ ?_
   rintro kq24 ⟨x20, ra21, rc22, x23⟩ w ⟨HS, H, _⟩
   cases kq24 with
   | zero => exact absurd H (by simp [slices_Concat_Sbytebyte.l1])
   | succ kq24 =>
    simp only [slices_Concat_Sbytebyte.l1] at H
    refine go ?_
    refine V.cd H rfl (fun _ H => go ?_) (fun _ H => go ?_)
    ·obtain ⟨c27, H⟩ := ite_n H
     obtain ⟨_, _, hh⟩ := (rdC.at 2 hr0 HS rfl).some (by decide) c27.1 c27.2; subst hh
     refine go ?_
     obtain ⟨_, hc31, HS⟩ := St.tie_at 1 HS rfl ([]) c27.1 c27.2
     obtain ⟨_, _, he35, HN⟩ := St.sl_openF (Value.int .u8) (fun t => tie_int t) HS; clear HS; subst he35; have HS := HN
     refine W.r (X.load underlying27 rfl rfl ((rdC.at 3 hr0 HS rfl).cellEl0 (hc31 0 _ rfl))) rfl (go ?_)
     obtain ⟨_, H⟩ := ite_n H
     refine W.e (Y.appF (Value.int .u8) (fun _ => rfl) 1 underlying27 ap5 rfl HS rfl rfl rfl (rdC.at 0 fsl.rd HS rfl) (by omega) (by omega)) rfl ?_
     rintro _ w ⟨_, _, rfl, HS⟩
     refine go ?_
     have HS := HS.ke [1, 1, 1]
     exact At.rn (_, _, _, _) ⟨HS, H, by omega⟩
    ·have HS := HS.ke [0, 1]
     exact rt
def fcs_Put.f (k : Nat) (a0 : List Int) (a1 : Bool) : Option (List Int) := ((fcs_tail.f k a0 a1).bind fun t1 => ((slices_Concat_Sbytebyte.f k ([a0, t1] : List (List Int))).bind fun t6 => some t6))
theorem fcs_Put.calls (H : fcs_Put.f k a0 a1 = some r) (HS : St [fB sa0 sc0 a0, R] w0 w) : Calls Tryz.prog 174 #[vs sa0 a0.length sc0, vb a1] w (Ret fun u w => ∃ aq0 cq0, u = vs aq0 r.length cq0 ∧ St [rB aq0 cq0 r, R] w0 w) := by
 refine calls_enter func174 rfl rfl (go ?_)
 refine W.kl H func216 (fun _ h => fcs_tail.calls h HS.j0 (rdC.part 0 fsl.rd rfl)) ?_
 rintro t1 _ w H ⟨at1_0, ct1_0, rfl, HS⟩
 have HS := St.row_freeze HS.o1
 refine W.e (Y.lc (e := 27) (sz := 1) [vs sa0 a0.length sc0, vs at1_0 t1.length ct1_0] HS rfl rfl (fun _ => by kernel_rfl)) rfl ?_
 rintro _ w ⟨_, rfl, HS⟩
 have HS := St.tie_cons (((St.sl_close (E := (El.int .u8)) (St.swap (St.put (A := tie (El.int .u8) (a0.map (Value.int .u8)) a0) (fun _ => int_tie) ((St.tie_cons (((St.sl_close (E := (El.int .u8)) (St.swap (St.put (A := tie (El.int .u8) (t1.map (Value.int .u8)) t1) (fun _ => int_tie) ((St.put (A := tie (El.sl (El.int .u8)) ([]) (([] : List (List Int)))) (fun _ => tie.nil) HS).more 2 rfl (fun _ t => t) fsl.pers)))).fr 1).fr 1)).more 3 rfl (fun _ t => t) fsl.pers)))).fr 1).fr 1)
 refine W.kl H func215 (fun _ h => slices_Concat_Sbytebyte.calls h HS.j0 (rdC.part 1 row_rd rfl) (fun h hh => let ⟨_, l, t⟩ := Sp.has 0 hh rfl; tie.mono t l)) ?_
 rintro _ _ w H ⟨_, _, rfl, HS⟩
 have HS := HS.o1
 refine go ?_
 have HS := HS.ke [0, 4]
 exact rt
def frame_size.f (k : Nat) (a0 : Bool) : Option Int := ((fcs_Put.f k ([] : List Int) a0).bind fun t1 => some (t1.length : Int))
theorem frame_size.calls (H : frame_size.f k a0 = some r) (HS : St [R] w0 w) : Calls Tryz.prog 130 #[vb a0] w (Ret fun u w => u = vi r ∧ St [R] w0 w) := by
 refine calls_enter func130 rfl rfl (go ?_)
 have HS := (St.row_freeze (row_nilF (Value.int .u8) 5 1 HS)).more 0 rfl (fun _ t => t) fsl.pers
 refine W.kl H func174 (fun _ h => fcs_Put.calls h HS.j1) ?_
 rintro _ _ w H ⟨_, _, rfl, HS⟩
 have HS := HS.o1
 refine go ?_
 have HS := HS.ke [2]
 exact rt
structure frame_Reader where
 wide : Bool
 most : Int
 state : Int
 b : List Int
deriving DecidableEq, Inhabited
abbrev frame_Reader.Q (b : Nat) (l0 : Bool) (l1 l2 : Int) (l3 : List Int) (a3 : Option Addr) (c3 : Nat) (L : List As) : List As := blk b (#[vb l0, vi l1, vi l2, vs a3 l3.length c3]) 218 :: row 5 1 (.slice a3 l3.length c3) l3.length (l3.map (Value.int .u8)) :: L
abbrev frame_Reader.P (b : Nat) (x : frame_Reader) (a3 : Option Addr) (c3 : Nat) (L : List As) : List As := frame_Reader.Q b x.wide x.most x.state x.b a3 c3 L
def frame_Reader.at (b : Nat) (x : frame_Reader) : As := fun h => True ∧ ∃ a3 : Option Addr, ∃ c3 : Nat, Sp (frame_Reader.P b x a3 c3 []) h
theorem frame_Reader.open {b : Nat} {x : frame_Reader} {L : List As} {w0 w : World} (hs : Sep.St (frame_Reader.at b x :: L) w0 w) : ∃ a3 : Option Addr, ∃ c3 : Nat, True ∧ Sep.St (frame_Reader.P b x a3 c3 L) w0 w := by
 obtain ⟨ho, ht, hu, h, hon, h1, h2, hd, e1, e2, ⟨hi, a3, c3, hA⟩, hl⟩ := hs
 exact ⟨a3, c3, hi, St.open (m := frame_Reader.P b x a3 c3 []) ⟨ho, ht, hu, h, hon, h1, h2, hd, e1, e2, hA, hl⟩⟩
theorem frame_Reader.close {b : Nat} {l0 : Bool} {l1 l2 : Int} {l3 : List Int} {a3 : Option Addr} {c3 : Nat} {L : List As} {w0 w : World} (hi : True) (hs : Sep.St (frame_Reader.Q b l0 l1 l2 l3 a3 c3 L) w0 w) : Sep.St (frame_Reader.at b ({ wide := l0, most := l1, state := l2, b := l3 } : frame_Reader) :: L) w0 w := by
 have h2 := St.join (m := frame_Reader.Q b l0 l1 l2 l3 a3 c3 []) hs
 exact h2.mono fun h hh => ⟨hi, _, _, hh⟩
def frame_New.f (k : Nat) (a0 : Int) (a1 : Bool) : Option frame_Reader := ((frame_size.f k a1).bind fun t1 => some (({ wide := a1, most := w64 ((imax (1) (imin a0 (65536))) + t1), state := 0, b := ([] : List Int) } : frame_Reader)))
theorem frame_New.calls (H : frame_New.f k a0 a1 = some r) (HS : St [R] w0 w) : Calls Tryz.prog 91 #[vi a0, vb a1] w (Ret fun u w => ∃ bq0, u = pt bq0 ∧ St [frame_Reader.at bq0 r, R] w0 w) := by
 refine calls_enter func91 rfl rfl (go ?_)
 refine W.kl H func130 (fun _ h => frame_size.calls h HS.j0) ?_
 rintro t1 _ w H ⟨rfl, HS⟩
 have HS := HS.o0
 refine go ?_
 refine W.r (X.bd (Value.agg #[vb a1, vi (w64 ((imax (1) (imin a0 (65536))) + t1)), vi (0), vs none 0 0]) rfl (fun _ => by kernel_rfl)) rfl ?_
 refine W.e (Y.box HS rfl) rfl ?_
 rintro _ w ⟨_, rfl, HS⟩
 refine go ?_
 have HS := frame_Reader.close (l3 := ([] : List Int)) tv ((row_nilF (Value.int .u8) 5 1 HS).b [1])
 exact rt
def monitor_cut.f (a0 : Int) (a1 : Int) (a2 : Int) : Option Int := some (imax a1 (imin a0 a2))
theorem monitor_cut.calls (H : monitor_cut.f a0 a1 a2 = some r) (HS : St [R] w0 w) : Calls Tryz.prog 131 #[vi a0, vi a1, vi a2] w (Ret fun u w => u = vi r ∧ St [R] w0 w) := by
 refine calls_enter func131 rfl rfl (go ?_)
 exact rt
def tally_cut.f (a0 : Int) (a1 : Int) (a2 : Int) : Option Int := some (imax a1 (imin a0 a2))
theorem tally_cut.calls (H : tally_cut.f a0 a1 a2 = some r) (HS : St [R] w0 w) : Calls Tryz.prog 175 #[vi a0, vi a1, vi a2] w (Ret fun u w => u = vi r ∧ St [R] w0 w) := by
 refine calls_enter func175 rfl rfl (go ?_)
 exact rt
structure tally_Window where
 l : List Bool
 at_ : Int
 kept : Int
 sum : (Nat × Nat)
deriving DecidableEq, Inhabited
abbrev tally_Window.Q (b : Nat) (l0 : List Bool) (l1 l2 : Int) (l3 : (Nat × Nat)) (a0 : Option Addr) (c0 : Nat) (L : List As) : List As := blk b (#[vs a0 l0.length c0, vi l1, vi l2, Value.complex .f64 l3.1 l3.2]) 254 :: row 4 1 (.slice a0 l0.length c0) l0.length (l0.map Value.bool) :: L
abbrev tally_Window.P (b : Nat) (x : tally_Window) (a0 : Option Addr) (c0 : Nat) (L : List As) : List As := tally_Window.Q b x.l x.at_ x.kept x.sum a0 c0 L
def tally_Window.at (b : Nat) (x : tally_Window) : As := fun h => True ∧ ∃ a0 : Option Addr, ∃ c0 : Nat, Sp (tally_Window.P b x a0 c0 []) h
theorem tally_Window.open {b : Nat} {x : tally_Window} {L : List As} {w0 w : World} (hs : Sep.St (tally_Window.at b x :: L) w0 w) : ∃ a0 : Option Addr, ∃ c0 : Nat, True ∧ Sep.St (tally_Window.P b x a0 c0 L) w0 w := by
 obtain ⟨ho, ht, hu, h, hon, h1, h2, hd, e1, e2, ⟨hi, a0, c0, hA⟩, hl⟩ := hs
 exact ⟨a0, c0, hi, St.open (m := tally_Window.P b x a0 c0 []) ⟨ho, ht, hu, h, hon, h1, h2, hd, e1, e2, hA, hl⟩⟩
theorem tally_Window.close {b : Nat} {l0 : List Bool} {l1 l2 : Int} {l3 : (Nat × Nat)} {a0 : Option Addr} {c0 : Nat} {L : List As} {w0 w : World} (hi : True) (hs : Sep.St (tally_Window.Q b l0 l1 l2 l3 a0 c0 L) w0 w) : Sep.St (tally_Window.at b ({ l := l0, at_ := l1, kept := l2, sum := l3 } : tally_Window) :: L) w0 w := by
 have h2 := St.join (m := tally_Window.Q b l0 l1 l2 l3 a0 c0 []) hs
 exact h2.mono fun h hh => ⟨hi, _, _, hh⟩
def tally_New.f (a0 : Int) : Option tally_Window := ((tally_cut.f a0 1 1000).bind fun t1 => (if 0 ≤ t1 ∧ t1 ≤ 1099511627776 then some (({ l := List.replicate t1.toNat false, at_ := 0, kept := 0, sum := ((0, 0) : Nat × Nat) } : tally_Window)) else none))
theorem tally_New.calls (H : tally_New.f a0 = some r) (HS : St [R] w0 w) : Calls Tryz.prog 132 #[vi a0] w (Ret fun u w => ∃ bq0, u = pt bq0 ∧ St [tally_Window.at bq0 r, R] w0 w) := by
 refine calls_enter func132 rfl rfl (go ?_)
 refine W.kl H func175 (fun _ h => tally_cut.calls h HS.j0) ?_
 rintro t1 _ w H ⟨rfl, HS⟩
 have HS := HS.o0
 obtain ⟨c3, H⟩ := ite_n H
 refine W.e (Y.makeSl (g := Value.bool) (N := t1) false underlying214 ap4 rfl HS rfl rfl c3 (by decide)) rfl ?_
 rintro _ w ⟨ra4, rc5, rfl, HS⟩
 refine W.r (X.bd (Value.agg #[vs ra4 (List.replicate t1.toNat false).length rc5, vi (0), vi (0), Value.complex .f64 (((0, 0) : Nat × Nat)).1 (((0, 0) : Nat × Nat)).2]) rfl (fun _ => by kernel_rfl)) rfl (W.e (Y.box HS rfl) rfl ?_)
 rintro _ w ⟨_, rfl, HS⟩
 refine go ?_
 have HS := tally_Window.close tv HS
 exact rt
structure monitor_Monitor where
 bad : Int
 good : Int
 silent : Int
 w : tally_Window
 row : Int
 silence : Int
 state : Int
deriving DecidableEq, Inhabited
abbrev monitor_Monitor.Q (b : Nat) (l0 l1 l2 : Int) (l3 : tally_Window) (l4 l5 l6 : Int) (b3 : Nat) (L : List As) : List As := blk b (#[vi l0, vi l1, vi l2, pt b3, vi l4, vi l5, vi l6]) 161 :: tally_Window.at b3 l3 :: L
abbrev monitor_Monitor.P (b : Nat) (x : monitor_Monitor) (b3 : Nat) (L : List As) : List As := monitor_Monitor.Q b x.bad x.good x.silent x.w x.row x.silence x.state b3 L
def monitor_Monitor.at (b : Nat) (x : monitor_Monitor) : As := fun h => True ∧ ∃ b3 : Nat, Sp (monitor_Monitor.P b x b3 []) h
theorem monitor_Monitor.open {b : Nat} {x : monitor_Monitor} {L : List As} {w0 w : World} (hs : Sep.St (monitor_Monitor.at b x :: L) w0 w) : ∃ b3 : Nat, True ∧ Sep.St (monitor_Monitor.P b x b3 L) w0 w := by
 obtain ⟨ho, ht, hu, h, hon, h1, h2, hd, e1, e2, ⟨hi, b3, hA⟩, hl⟩ := hs
 exact ⟨b3, hi, St.open (m := monitor_Monitor.P b x b3 []) ⟨ho, ht, hu, h, hon, h1, h2, hd, e1, e2, hA, hl⟩⟩
theorem monitor_Monitor.close {b : Nat} {l0 l1 l2 : Int} {l3 : tally_Window} {l4 l5 l6 : Int} {b3 : Nat} {L : List As} {w0 w : World} (hi : True) (hs : Sep.St (monitor_Monitor.Q b l0 l1 l2 l3 l4 l5 l6 b3 L) w0 w) : Sep.St (monitor_Monitor.at b ({ bad := l0, good := l1, silent := l2, w := l3, row := l4, silence := l5, state := l6 } : monitor_Monitor) :: L) w0 w := by
 have h2 := St.join (m := monitor_Monitor.Q b l0 l1 l2 l3 l4 l5 l6 b3 []) hs
 exact h2.mono fun h hh => ⟨hi, _, hh⟩
def monitor_New.f (a0 : Int) (a1 : Int) (a2 : Int) : Option monitor_Monitor := ((monitor_cut.f a0 1 16).bind fun t1 => ((monitor_cut.f a1 1 16).bind fun t3 => ((monitor_cut.f a2 1 1073741824).bind fun t5 => ((tally_New.f 16).bind fun t7 => some ({ bad := t1, good := t3, silent := t5, w := t7, row := 0, silence := 0, state := 0 } : monitor_Monitor)))))
theorem monitor_New.calls (H : monitor_New.f a0 a1 a2 = some r) (HS : St [R] w0 w) : Calls Tryz.prog 92 #[vi a0, vi a1, vi a2] w (Ret fun u w => ∃ bq0, u = pt bq0 ∧ St [monitor_Monitor.at bq0 r, R] w0 w) := by
 refine calls_enter func92 rfl rfl (go ?_)
 refine W.kl H func131 (fun _ h => monitor_cut.calls h HS.j0) ?_
 rintro t1 _ w H ⟨rfl, HS⟩
 have HS := HS.o0
 refine go ?_
 refine W.kl H func131 (fun _ h => monitor_cut.calls h HS.j0) ?_
 rintro t3 _ w H ⟨rfl, HS⟩
 have HS := HS.o0
 refine go ?_
 refine W.kl H func131 (fun _ h => monitor_cut.calls h HS.j0) ?_
 rintro t5 _ w H ⟨rfl, HS⟩
 have HS := HS.o0
 refine W.kl H func132 (fun _ h => tally_New.calls h HS.j0) ?_
 rintro _ _ w H ⟨bt7_0, rfl, HS⟩
 have HS := HS.o1
 refine W.r (X.bd (Value.agg #[vi t1, vi t3, vi t5, pt bt7_0, vi (0), vi (0), vi (0)]) rfl (fun _ => by kernel_rfl)) rfl (W.e (Y.box HS rfl) rfl ?_)
 rintro _ w ⟨_, rfl, HS⟩
 refine go ?_
 have HS := monitor_Monitor.close tv HS
 exact rt
structure ring_Ring where
 room : Int
 b : List Int
 begun : Int
 pieces : List Int
 dropped : Int
deriving DecidableEq, Inhabited
abbrev ring_Ring.Q (b : Nat) (l0 : Int) (l1 : List Int) (l2 : Int) (l3 : List Int) (l4 : Int) (a1 : Option Addr) (c1 : Nat) (a3 : Option Addr) (c3 : Nat) (L : List As) : List As := blk b (#[vi l0, vs a1 l1.length c1, vi l2, vs a3 l3.length c3, vi l4]) 221 :: row 5 1 (.slice a1 l1.length c1) l1.length (l1.map (Value.int .u8)) :: row 3 1 (.slice a3 l3.length c3) l3.length (l3.map (Value.int .i64)) :: L
abbrev ring_Ring.P (b : Nat) (x : ring_Ring) (a1 : Option Addr) (c1 : Nat) (a3 : Option Addr) (c3 : Nat) (L : List As) : List As := ring_Ring.Q b x.room x.b x.begun x.pieces x.dropped a1 c1 a3 c3 L
def ring_Ring.at (b : Nat) (x : ring_Ring) : As := fun h => True ∧ ∃ a1 : Option Addr, ∃ c1 : Nat, ∃ a3 : Option Addr, ∃ c3 : Nat, Sp (ring_Ring.P b x a1 c1 a3 c3 []) h
theorem ring_Ring.open {b : Nat} {x : ring_Ring} {L : List As} {w0 w : World} (hs : Sep.St (ring_Ring.at b x :: L) w0 w) : ∃ a1 : Option Addr, ∃ c1 : Nat, ∃ a3 : Option Addr, ∃ c3 : Nat, True ∧ Sep.St (ring_Ring.P b x a1 c1 a3 c3 L) w0 w := by
 obtain ⟨ho, ht, hu, h, hon, h1, h2, hd, e1, e2, ⟨hi, a1, c1, a3, c3, hA⟩, hl⟩ := hs
 exact ⟨a1, c1, a3, c3, hi, St.open (m := ring_Ring.P b x a1 c1 a3 c3 []) ⟨ho, ht, hu, h, hon, h1, h2, hd, e1, e2, hA, hl⟩⟩
theorem ring_Ring.close {b : Nat} {l0 : Int} {l1 : List Int} {l2 : Int} {l3 : List Int} {l4 : Int} {a1 : Option Addr} {c1 : Nat} {a3 : Option Addr} {c3 : Nat} {L : List As} {w0 w : World} (hi : True) (hs : Sep.St (ring_Ring.Q b l0 l1 l2 l3 l4 a1 c1 a3 c3 L) w0 w) : Sep.St (ring_Ring.at b ({ room := l0, b := l1, begun := l2, pieces := l3, dropped := l4 } : ring_Ring) :: L) w0 w := by
 have h2 := St.join (m := ring_Ring.Q b l0 l1 l2 l3 l4 a1 c1 a3 c3 []) hs
 exact h2.mono fun h hh => ⟨hi, _, _, _, _, hh⟩
def ring_New.f (a0 : Int) : Option ring_Ring := some (({ room := imax (0) (imin a0 (1048576)), b := ([] : List Int), begun := 0, pieces := ([] : List Int), dropped := 0 } : ring_Ring))
theorem ring_New.calls (H : ring_New.f a0 = some r) (HS : St [R] w0 w) : Calls Tryz.prog 93 #[vi a0] w (Ret fun u w => ∃ bq0, u = pt bq0 ∧ St [ring_Ring.at bq0 r, R] w0 w) := by
 refine calls_enter func93 rfl rfl (go ?_)
 refine W.r (X.bd (Value.agg #[vi (imax (0) (imin a0 (1048576))), vs none 0 0, vi (0), vs none 0 0, vi (0)]) rfl (fun _ => by kernel_rfl)) rfl ?_
 refine W.e (Y.box HS rfl) rfl ?_
 rintro _ w ⟨_, rfl, HS⟩
 refine go ?_
 have HS := ring_Ring.close (l1 := ([] : List Int)) (l3 := ([] : List Int)) tv ((row_nilF (Value.int .i64) 3 1 (row_nilF (Value.int .u8) 5 1 HS)).b [2, 1])
 exact rt
structure api_Counts where
 Good : Int
 Bad : Int
 Aborts : Int
 Runts : Int
 Giants : Int
 Dropped : Int
 Twins : Int
deriving DecidableEq, Inhabited
structure station_side where
 reader : frame_Reader
 monitor : monitor_Monitor
 ring : ring_Ring
 counts : api_Counts
deriving DecidableEq, Inhabited
structure station_Station where
 c : api_Config
 arq : arq_Arq
 aps : aps_Aps
 twins : twins_Table
 number : Int
 steps : Int
 line : Int
 sides : (station_side × station_side)
deriving DecidableEq, Inhabited
abbrev station_Station.Q (b : Nat) (l0 l1 l2 l3 l4 l5 l6 l7 l8 l9 l10 l11 l12 l13 : Int) (l14 l15 : Bool) (l16 : arq_Arq) (l17 : aps_Aps) (l18 : twins_Table) (l19 l20 l21 : Int) (l22 : frame_Reader) (l23 : monitor_Monitor) (l24 : ring_Ring) (l25 l26 l27 l28 l29 l30 l31 : Int) (l32 : frame_Reader) (l33 : monitor_Monitor) (l34 : ring_Ring) (l35 l36 l37 l38 l39 l40 l41 : Int) (b16 b17 b18 b22 b23 b24 b32 b33 b34 : Nat) (L : List As) : List As := blk b (#[vi l0, vi l1, vi l2, vi l3, vi l4, vi l5, vi l6, vi l7, vi l8, vi l9, vi l10, vi l11, vi l12, vi l13, vb l14, vb l15, pt b16, pt b17, pt b18, Value.int .u32 l19, vi l20, vi l21, pt b22, pt b23, pt b24, vi l25, vi l26, vi l27, vi l28, vi l29, vi l30, vi l31, pt b32, pt b33, pt b34, vi l35, vi l36, vi l37, vi l38, vi l39, vi l40, vi l41]) 128 :: arq_Arq.at b16 l16 :: aps_Aps.at b17 l17 :: twins_Table.at b18 l18 :: frame_Reader.at b22 l22 :: monitor_Monitor.at b23 l23 :: ring_Ring.at b24 l24 :: frame_Reader.at b32 l32 :: monitor_Monitor.at b33 l33 :: ring_Ring.at b34 l34 :: L
abbrev station_Station.P (b : Nat) (x : station_Station) (b16 b17 b18 b22 b23 b24 b32 b33 b34 : Nat) (L : List As) : List As := station_Station.Q b x.c.Mode x.c.Modulus x.c.Window x.c.T1 x.c.N2 x.c.Hold x.c.Wait x.c.Keep x.c.Queue x.c.Size x.c.Ring x.c.Rate x.c.Bad x.c.Good x.c.Revert x.c.Wide x.arq x.aps x.twins x.number x.steps x.line x.sides.1.reader x.sides.1.monitor x.sides.1.ring x.sides.1.counts.Good x.sides.1.counts.Bad x.sides.1.counts.Aborts x.sides.1.counts.Runts x.sides.1.counts.Giants x.sides.1.counts.Dropped x.sides.1.counts.Twins x.sides.2.reader x.sides.2.monitor x.sides.2.ring x.sides.2.counts.Good x.sides.2.counts.Bad x.sides.2.counts.Aborts x.sides.2.counts.Runts x.sides.2.counts.Giants x.sides.2.counts.Dropped x.sides.2.counts.Twins b16 b17 b18 b22 b23 b24 b32 b33 b34 L
def station_Station.at (b : Nat) (x : station_Station) : As := fun h => True ∧ ∃ b16 : Nat, ∃ b17 : Nat, ∃ b18 : Nat, ∃ b22 : Nat, ∃ b23 : Nat, ∃ b24 : Nat, ∃ b32 : Nat, ∃ b33 : Nat, ∃ b34 : Nat, Sp (station_Station.P b x b16 b17 b18 b22 b23 b24 b32 b33 b34 []) h
theorem station_Station.open {b : Nat} {x : station_Station} {L : List As} {w0 w : World} (hs : Sep.St (station_Station.at b x :: L) w0 w) : ∃ b16 : Nat, ∃ b17 : Nat, ∃ b18 : Nat, ∃ b22 : Nat, ∃ b23 : Nat, ∃ b24 : Nat, ∃ b32 : Nat, ∃ b33 : Nat, ∃ b34 : Nat, True ∧ Sep.St (station_Station.P b x b16 b17 b18 b22 b23 b24 b32 b33 b34 L) w0 w := by
 obtain ⟨ho, ht, hu, h, hon, h1, h2, hd, e1, e2, ⟨hi, b16, b17, b18, b22, b23, b24, b32, b33, b34, hA⟩, hl⟩ := hs
 exact ⟨b16, b17, b18, b22, b23, b24, b32, b33, b34, hi, St.open (m := station_Station.P b x b16 b17 b18 b22 b23 b24 b32 b33 b34 []) ⟨ho, ht, hu, h, hon, h1, h2, hd, e1, e2, hA, hl⟩⟩
theorem station_Station.close {b : Nat} {l0 l1 l2 l3 l4 l5 l6 l7 l8 l9 l10 l11 l12 l13 : Int} {l14 l15 : Bool} {l16 : arq_Arq} {l17 : aps_Aps} {l18 : twins_Table} {l19 l20 l21 : Int} {l22 : frame_Reader} {l23 : monitor_Monitor} {l24 : ring_Ring} {l25 l26 l27 l28 l29 l30 l31 : Int} {l32 : frame_Reader} {l33 : monitor_Monitor} {l34 : ring_Ring} {l35 l36 l37 l38 l39 l40 l41 : Int} {b16 b17 b18 b22 b23 b24 b32 b33 b34 : Nat} {L : List As} {w0 w : World} (hi : True) (hs : Sep.St (station_Station.Q b l0 l1 l2 l3 l4 l5 l6 l7 l8 l9 l10 l11 l12 l13 l14 l15 l16 l17 l18 l19 l20 l21 l22 l23 l24 l25 l26 l27 l28 l29 l30 l31 l32 l33 l34 l35 l36 l37 l38 l39 l40 l41 b16 b17 b18 b22 b23 b24 b32 b33 b34 L) w0 w) : Sep.St (station_Station.at b ({ c := ({ Mode := l0, Modulus := l1, Window := l2, T1 := l3, N2 := l4, Hold := l5, Wait := l6, Keep := l7, Queue := l8, Size := l9, Ring := l10, Rate := l11, Bad := l12, Good := l13, Revert := l14, Wide := l15 } : api_Config), arq := l16, aps := l17, twins := l18, number := l19, steps := l20, line := l21, sides := (({ reader := l22, monitor := l23, ring := l24, counts := ({ Good := l25, Bad := l26, Aborts := l27, Runts := l28, Giants := l29, Dropped := l30, Twins := l31 } : api_Counts) } : station_side), ({ reader := l32, monitor := l33, ring := l34, counts := ({ Good := l35, Bad := l36, Aborts := l37, Runts := l38, Giants := l39, Dropped := l40, Twins := l41 } : api_Counts) } : station_side)) } : station_Station) :: L) w0 w := by
 have h2 := St.join (m := station_Station.Q b l0 l1 l2 l3 l4 l5 l6 l7 l8 l9 l10 l11 l12 l13 l14 l15 l16 l17 l18 l19 l20 l21 l22 l23 l24 l25 l26 l27 l28 l29 l30 l31 l32 l33 l34 l35 l36 l37 l38 l39 l40 l41 b16 b17 b18 b22 b23 b24 b32 b33 b34 []) hs
 exact h2.mono fun h hh => ⟨hi, _, _, _, _, _, _, _, _, _, hh⟩
def station_New.f (k : Nat) (a0 : api_Config) : Option (Option station_Station × Int) := ((shape_Check.f a0).bind fun t3 => (if t3 = 0 then ((arq_New.f a0).bind fun t6 => ((aps_New.f a0.Hold a0.Wait a0.Revert).bind fun t8 => ((twins_New.f (imin (w64 (a0.Modulus.tdiv (2))) (1024))).bind fun t10 => ((frame_New.f k (w64 (a0.Size + 11)) a0.Wide).bind fun t17 => ((monitor_New.f a0.Bad a0.Good (w64 (3 * a0.Keep))).bind fun t19 => ((ring_New.f a0.Ring).bind fun t21 => ((frame_New.f k (w64 (a0.Size + 11)) a0.Wide).bind fun t26 => ((monitor_New.f a0.Bad a0.Good (w64 (3 * a0.Keep))).bind fun t28 => ((ring_New.f a0.Ring).bind fun t30 => some (some ({ c := a0, arq := t6, aps := t8, twins := t10, number := 0, steps := 0, line := 0, sides := (({ reader := t17, monitor := t19, ring := t21, counts := ({ Good := 0, Bad := 0, Aborts := 0, Runts := 0, Giants := 0, Dropped := 0, Twins := 0 } : api_Counts) } : station_side), ({ reader := t26, monitor := t28, ring := t30, counts := ({ Good := 0, Bad := 0, Aborts := 0, Runts := 0, Giants := 0, Dropped := 0, Twins := 0 } : api_Counts) } : station_side)) } : station_Station), 0)))))))))) else some (none, t3)))
theorem station_New.calls (H : station_New.f k a0 = some r) (HS : St [R] w0 w) : Calls Tryz.prog 59 #[Value.agg #[vi a0.Mode, vi a0.Modulus, vi a0.Window, vi a0.T1, vi a0.N2, vi a0.Hold, vi a0.Wait, vi a0.Keep, vi a0.Queue, vi a0.Size, vi a0.Ring, vi a0.Rate, vi a0.Bad, vi a0.Good, vb a0.Revert, vb a0.Wide]] w (Ret fun u w => ∃ bq0, u = Value.tuple #[optv bq0 r.1, vi r.2] ∧ St [optAt station_Station.at bq0 r.1, R] w0 w) := by
 refine calls_enter func59 rfl rfl (go ?_)
 refine W.e (Y.box HS rfl) rfl ?_
 rintro _ w ⟨nb1, rfl, HS⟩
 refine go ?_
 refine W.kl H func87 (fun _ h => shape_Check.calls h HS.j0) ?_
 rintro _ _ w H ⟨rfl, HS⟩
 have HS := HS.o0
 refine go ?_
 refine V.cm H rfl (fun _ H => go ?_) (fun _ H => go ?_)
 ·apply V.da [2, 9, 14, 16] [15, 17] [(12, _), (13, _), (15, _), (16, _), (17, _), (18, _), (19, _), (20, _), (22, _), (23, _), (24, _), (25, _)] mo HS
  rfl
  refine T.e [13] [15, 17] [1] (fun w HS => ?_) ⟨rd, rd, rd, rd, rd, rd, rd, rd, rd, rd, .n1 23 rfl rfl (fun w HS => X.quo rfl rfl (by decide)), .n1 24 rfl rfl (fun w HS => X.min2 rfl rfl), rds⟩
  refine Y.kl H func88 (fun _ h => arq_New.calls h HS.j0) ?_
  rintro _ _ w H ⟨bt6_0, rfl, HS⟩
  have HS := HS.o1
  refine T.nw HS ?_
  refine T.e [16, 18, 20] [15, 17] [3, 4, 5, 6, 7, 8] (fun w HS => ?_) ⟨rd, rd, rd, rd, rd, rd, rd, rd, rd, .n1 23 rfl rfl (fun w HS => X.quo rfl rfl (by decide)), .n1 24 rfl rfl (fun w HS => X.min2 rfl rfl), rds⟩
  refine Y.kl H func89 (fun _ h => aps_New.calls h HS.j0) ?_
  rintro _ _ w H ⟨bt8_0, rfl, HS⟩
  have HS := HS.o1
  refine T.nw HS ?_
  refine T.e [25] [17] [10, 11, 12, 13] (fun w HS => ?_) ⟨rd, rd, rd, .n1 23 rfl rfl (fun w HS => X.quo rfl rfl (by decide)), .n1 24 rfl rfl (fun w HS => X.min2 rfl rfl), rds⟩
  refine Y.kl H func90 (fun _ h => twins_New.calls h HS.j0) ?_
  rintro _ _ w H ⟨bt10_0, rfl, HS⟩
  have HS := HS.o1
  apply T.na [(26, _), (27, _)] HS
  exact nmk
  refine T.e [27] [] [0, 15] (fun w HS => ?_) ⟨rd, .ns [(12, _), (14, _), (21, _), (26, _)] ⟨rfl, rfl, rfl, rfl, tv⟩ rfl (fun w HS => X.bd (Value.agg #[vi a0.Mode, vi a0.Modulus, vi a0.Window, vi a0.T1, vi a0.N2, vi a0.Hold, vi a0.Wait, vi a0.Keep, vi a0.Queue, vi a0.Size, vi a0.Ring, vi a0.Rate, vi a0.Bad, vi a0.Good, vb a0.Revert, vb a0.Wide, pt bt6_0, pt bt8_0, pt bt10_0, Value.int .u32 (0), vi (0), vi (0), Value.pointer none, Value.pointer none, Value.pointer none, vi (0), vi (0), vi (0), vi (0), vi (0), vi (0), vi (0), Value.pointer none, Value.pointer none, Value.pointer none, vi (0), vi (0), vi (0), vi (0), vi (0), vi (0), vi (0)]) rfl (fun _ => by kernel_rfl)), rds⟩
  refine ⟨_, Y.box HS rfl, ?_⟩
  rintro _ w ⟨nb12, rfl, HS⟩
  apply T.na [(28, _), (5, _)] HS
  exact nmk
  refine T.ff [1, 5] fun w HS => ?_
  refine go ?_
  refine V.rs 2 [(1, pt nb1), (5, pt nb12), (29, vi (0))] (go ?_)
  apply V.da [7, 15, 18, 23] [19, 22] [(32, _), (33, _), (34, _), (35, _), (36, _), (37, _), (38, _), (40, _), (41, _), (42, _), (43, _), (44, _), (45, _), (46, _), (48, _), (49, _), (52, _), (53, _)] mo HS
  rfl
  refine T.e [36, 38] [19, 22] [2, 3, 4, 5, 6] fun w HS => ?_
  refine Y.kl H func91 (fun _ h => frame_New.calls h HS.j0) ?_
  rintro _ _ w H ⟨bt17_0, rfl, HS⟩
  have HS := HS.o1
  refine T.nw HS ?_
  refine T.e [41, 43, 46] [19, 22] [8, 9, 10, 11, 12, 13, 14] fun w HS => ?_
  refine Y.kl H func92 (fun _ h => monitor_New.calls h HS.j0) ?_
  rintro _ _ w H ⟨bt19_0, rfl, HS⟩
  have HS := HS.o1
  refine T.nw HS ?_
  refine T.e [49] [] [16, 17] fun w HS => ?_
  refine Y.kl H func93 (fun _ h => ring_New.calls h HS.j0) ?_
  rintro _ _ w H ⟨bt21_0, rfl, HS⟩
  have HS := HS.o1
  apply T.na [(50, _), (51, _), (54, _)] HS
  exact nmk
  refine T.e [51, 54] [] [0, 1, 19, 20, 21, 22] (fun w HS => ?_) ⟨rd, rd, .ns [(39, _), (47, _), (50, _)] ⟨rfl, rfl, rfl, tv⟩ rfl (fun w HS => X.bd (Value.agg #[pt bt17_0, pt bt19_0, pt bt21_0, vi (0), vi (0), vi (0), vi (0), vi (0), vi (0), vi (0)]) rfl (fun _ => by kernel_rfl)), rds⟩
  refine ⟨_, Y.storeSt (c' := #[vi a0.Mode, vi a0.Modulus, vi a0.Window, vi a0.T1, vi a0.N2, vi a0.Hold, vi a0.Wait, vi a0.Keep, vi a0.Queue, vi a0.Size, vi a0.Ring, vi a0.Rate, vi a0.Bad, vi a0.Good, vb a0.Revert, vb a0.Wide, pt bt6_0, pt bt8_0, pt bt10_0, Value.int .u32 (0), vi (0), vi (0), pt bt17_0, pt bt19_0, pt bt21_0, vi (0), vi (0), vi (0), vi (0), vi (0), vi (0), vi (0), Value.pointer none, Value.pointer none, Value.pointer none, vi (0), vi (0), vi (0), vi (0), vi (0), vi (0), vi (0)]) 3 [pt bt17_0, pt bt19_0, pt bt21_0, vi (0), vi (0), vi (0), vi (0), vi (0), vi (0), vi (0)] HS rfl inf125 rfl rfl rfl rfl rfl rfl, ?_⟩
  rintro _ w HS
  refine T.nn HS ?_
  refine T.ff [1, 5, 29] fun w HS => ?_
  refine go ?_
  refine At.ow [(1, pt nb1), (5, pt nb12), (29, vi (1))] (go ?_)
  apply V.da [7, 15, 18, 23] [19, 22] [(32, _), (33, _), (34, _), (35, _), (36, _), (37, _), (38, _), (40, _), (41, _), (42, _), (43, _), (44, _), (45, _), (46, _), (48, _), (49, _), (52, _), (53, _)] mo HS
  rfl
  refine T.e [36, 38] [19, 22] [2, 3, 4, 5, 6] fun w HS => ?_
  refine Y.kl H func91 (fun _ h => frame_New.calls h HS.j0) ?_
  rintro _ _ w H ⟨bt26_0, rfl, HS⟩
  have HS := HS.o1
  refine T.nw HS ?_
  refine T.e [41, 43, 46] [19, 22] [8, 9, 10, 11, 12, 13, 14] fun w HS => ?_
  refine Y.kl H func92 (fun _ h => monitor_New.calls h HS.j0) ?_
  rintro _ _ w H ⟨bt28_0, rfl, HS⟩
  have HS := HS.o1
  refine T.nw HS ?_
  refine T.e [49] [] [16, 17] fun w HS => ?_
  refine Y.kl H func93 (fun _ h => ring_New.calls h HS.j0) ?_
  rintro _ _ w H ⟨bt30_0, rfl, HS⟩
  have HS := HS.o1
  apply T.na [(50, _), (51, _), (54, _)] HS
  exact nmk
  refine T.e [51, 54] [] [0, 1, 19, 20, 21, 22] (fun w HS => ?_) ⟨rd, rd, .ns [(39, _), (47, _), (50, _)] ⟨rfl, rfl, rfl, tv⟩ rfl (fun w HS => X.bd (Value.agg #[pt bt26_0, pt bt28_0, pt bt30_0, vi (0), vi (0), vi (0), vi (0), vi (0), vi (0), vi (0)]) rfl (fun _ => by kernel_rfl)), rds⟩
  refine ⟨_, Y.storeSt (c' := #[vi a0.Mode, vi a0.Modulus, vi a0.Window, vi a0.T1, vi a0.N2, vi a0.Hold, vi a0.Wait, vi a0.Keep, vi a0.Queue, vi a0.Size, vi a0.Ring, vi a0.Rate, vi a0.Bad, vi a0.Good, vb a0.Revert, vb a0.Wide, pt bt6_0, pt bt8_0, pt bt10_0, Value.int .u32 (0), vi (0), vi (0), pt bt17_0, pt bt19_0, pt bt21_0, vi (0), vi (0), vi (0), vi (0), vi (0), vi (0), vi (0), pt bt26_0, pt bt28_0, pt bt30_0, vi (0), vi (0), vi (0), vi (0), vi (0), vi (0), vi (0)]) 6 [pt bt26_0, pt bt28_0, pt bt30_0, vi (0), vi (0), vi (0), vi (0), vi (0), vi (0), vi (0)] HS rfl inf125 rfl rfl rfl rfl rfl rfl, ?_⟩
  rintro _ w HS
  refine T.nn HS ?_
  refine T.ff [1, 5, 29] fun w HS => ?_
  refine go ?_
  refine At.ow [(1, pt nb1), (5, pt nb12), (29, vi (2))] (go ?_)
  have HS := (station_Station.close tv (HS.b [6, 8, 7, 6, 5, 4, 3, 2, 1])).ke [0, 1]
  exact rt
 ·have HS := (HS.more (B := optAt station_Station.at 0 none) 0 rfl (fun _ _ => tv) (fun _ => tv)).ke [0, 1]
  exact rt
structure pipe_Pipe where
 room : Int
 b : List Int
 cut : Bool
 stall : Bool
deriving DecidableEq, Inhabited
abbrev pipe_Pipe.Q (b : Nat) (l0 : Int) (l1 : List Int) (l2 l3 : Bool) (a1 : Option Addr) (c1 : Nat) (L : List As) : List As := blk b (#[vi l0, vs a1 l1.length c1, vb l2, vb l3]) 187 :: row 5 1 (.slice a1 l1.length c1) l1.length (l1.map (Value.int .u8)) :: L
abbrev pipe_Pipe.P (b : Nat) (x : pipe_Pipe) (a1 : Option Addr) (c1 : Nat) (L : List As) : List As := pipe_Pipe.Q b x.room x.b x.cut x.stall a1 c1 L
def pipe_Pipe.at (b : Nat) (x : pipe_Pipe) : As := fun h => True ∧ ∃ a1 : Option Addr, ∃ c1 : Nat, Sp (pipe_Pipe.P b x a1 c1 []) h
theorem pipe_Pipe.open {b : Nat} {x : pipe_Pipe} {L : List As} {w0 w : World} (hs : Sep.St (pipe_Pipe.at b x :: L) w0 w) : ∃ a1 : Option Addr, ∃ c1 : Nat, True ∧ Sep.St (pipe_Pipe.P b x a1 c1 L) w0 w := by
 obtain ⟨ho, ht, hu, h, hon, h1, h2, hd, e1, e2, ⟨hi, a1, c1, hA⟩, hl⟩ := hs
 exact ⟨a1, c1, hi, St.open (m := pipe_Pipe.P b x a1 c1 []) ⟨ho, ht, hu, h, hon, h1, h2, hd, e1, e2, hA, hl⟩⟩
theorem pipe_Pipe.close {b : Nat} {l0 : Int} {l1 : List Int} {l2 l3 : Bool} {a1 : Option Addr} {c1 : Nat} {L : List As} {w0 w : World} (hi : True) (hs : Sep.St (pipe_Pipe.Q b l0 l1 l2 l3 a1 c1 L) w0 w) : Sep.St (pipe_Pipe.at b ({ room := l0, b := l1, cut := l2, stall := l3 } : pipe_Pipe) :: L) w0 w := by
 have h2 := St.join (m := pipe_Pipe.Q b l0 l1 l2 l3 a1 c1 []) hs
 exact h2.mono fun h hh => ⟨hi, _, _, hh⟩
def pipe_New.f (a0 : Int) : Option pipe_Pipe := some (({ room := imax (0) (imin a0 (1048576)), b := ([] : List Int), cut := false, stall := false } : pipe_Pipe))
theorem pipe_New.calls (H : pipe_New.f a0 = some r) (HS : St [R] w0 w) : Calls Tryz.prog 60 #[vi a0] w (Ret fun u w => ∃ bq0, u = pt bq0 ∧ St [pipe_Pipe.at bq0 r, R] w0 w) := by
 refine calls_enter func60 rfl rfl (go ?_)
 refine W.r (X.bd (Value.agg #[vi (imax (0) (imin a0 (1048576))), vs none 0 0, vb false, vb false]) rfl (fun _ => by kernel_rfl)) rfl ?_
 refine W.e (Y.box HS rfl) rfl ?_
 rintro _ w ⟨_, rfl, HS⟩
 refine go ?_
 have HS := pipe_Pipe.close (l1 := ([] : List Int)) tv ((row_nilF (Value.int .u8) 5 1 HS).b [1])
 exact rt
structure world_way where
 pipe : pipe_Pipe
 sent : List (List Int)
 got : List (List Int)
deriving DecidableEq, Inhabited
structure world_World where
 c : api_Config
 stations : (station_Station × station_Station)
 ways : ((world_way × world_way) × (world_way × world_way))
 now : Int
deriving DecidableEq, Inhabited
end Go.Proofs.YtgkjmdapodgnfaaGreat
