/- WorldClean: the functions that its law reaches, as plain functions, and that the machine's calls come to what these say. Conditions: those that stand at each. -/
import Derived.Test.YtaejcbpijdacmaaGreatProg
import Derived.Test.YtaejcbpijdacmaaGreatAuto
set_option linter.all false
set_option maxRecDepth 100000
set_option maxHeartbeats 4000000
set_option synthInstance.maxSize 100000
set_option synthInstance.maxHeartbeats 1000000
namespace Go.Proofs.YtaejcbpijdacmaaGreat
open Go.RowKit Go.Proofs.YtaejcbpijdacmaaGreat.Sep Go.Proofs.YtaejcbpijdacmaaGreat.Walk Go.Proofs.Tryz
attribute [local irreducible] V W At T Code.rounds RdO RdOk
set_option autoImplicit true
set_option relaxedAutoImplicit true
theorem inf3:(Tryz.prog.info? 3).map (·.size)=some 1:=by kernel_rfl
@[reducible,instance] def iinf3:=Inf.mk inf3
theorem inf4:(Tryz.prog.info? 4).map (·.size)=some 1:=by kernel_rfl
@[reducible,instance] def iinf4:=Inf.mk inf4
theorem inf5:(Tryz.prog.info? 5).map (·.size)=some 1:=by kernel_rfl
@[reducible,instance] def iinf5:=Inf.mk inf5
theorem inf23:(Tryz.prog.info? 23).map (·.size)=some 16:=by kernel_rfl
@[reducible,instance] def iinf23:=Inf.mk inf23
theorem inf32:(Tryz.prog.info? 32).map (·.size)=some 1:=by kernel_rfl
@[reducible,instance] def iinf32:=Inf.mk inf32
theorem inf35:(Tryz.prog.info? 35).map (·.size)=some 1:=by kernel_rfl
@[reducible,instance] def iinf35:=Inf.mk inf35
theorem inf39:(Tryz.prog.info? 39).map (·.size)=some 7:=by kernel_rfl
@[reducible,instance] def iinf39:=Inf.mk inf39
theorem inf48:(Tryz.prog.info? 48).map (·.size)=some 1:=by kernel_rfl
@[reducible,instance] def iinf48:=Inf.mk inf48
theorem inf53:(Tryz.prog.info? 53).map (·.size)=some 1:=by kernel_rfl
@[reducible,instance] def iinf53:=Inf.mk inf53
theorem inf55:(Tryz.prog.info? 55).map (·.size)=some 2:=by kernel_rfl
@[reducible,instance] def iinf55:=Inf.mk inf55
theorem inf73:(Tryz.prog.info? 73).map (·.size)=some 7:=by kernel_rfl
@[reducible,instance] def iinf73:=Inf.mk inf73
theorem inf76:(Tryz.prog.info? 76).map (·.size)=some 2:=by kernel_rfl
@[reducible,instance] def iinf76:=Inf.mk inf76
theorem inf77:(Tryz.prog.info? 77).map (·.size)=some 1:=by kernel_rfl
@[reducible,instance] def iinf77:=Inf.mk inf77
theorem inf79:(Tryz.prog.info? 79).map (·.size)=some 3:=by kernel_rfl
@[reducible,instance] def iinf79:=Inf.mk inf79
theorem inf80:(Tryz.prog.info? 80).map (·.size)=some 6:=by kernel_rfl
@[reducible,instance] def iinf80:=Inf.mk inf80
theorem inf95:(Tryz.prog.info? 95).map (·.size)=some 1:=by kernel_rfl
@[reducible,instance] def iinf95:=Inf.mk inf95
theorem inf100:(Tryz.prog.info? 100).map (·.size)=some 10:=by kernel_rfl
@[reducible,instance] def iinf100:=Inf.mk inf100
theorem inf101:(Tryz.prog.info? 101).map (·.size)=some 20:=by kernel_rfl
@[reducible,instance] def iinf101:=Inf.mk inf101
theorem inf141:(Tryz.prog.info? 141).map (·.size)=some 1:=by kernel_rfl
@[reducible,instance] def iinf141:=Inf.mk inf141
theorem inf161:(Tryz.prog.info? 161).map (·.size)=some 4:=by kernel_rfl
@[reducible,instance] def iinf161:=Inf.mk inf161
theorem inf251:(Tryz.prog.info? 251).map (·.size)=some 32:=by kernel_rfl
@[reducible,instance] def iinf251:=Inf.mk inf251
theorem inf254:(Tryz.prog.info? 254).map (·.size)=some 1:=by kernel_rfl
@[reducible,instance] def iinf254:=Inf.mk inf254
theorem inf256:(Tryz.prog.info? 256).map (·.size)=some 4:=by kernel_rfl
@[reducible,instance] def iinf256:=Inf.mk inf256
theorem je:fieldOff Tryz.prog 23 0=some 0:=by kernel_rfl
@[reducible,instance] def ifo23_0:=FO.mk je
theorem iE:fieldOff Tryz.prog 23 1=some 1:=by kernel_rfl
@[reducible,instance] def ifo23_1:=FO.mk iE
theorem iG:fieldOff Tryz.prog 23 2=some 2:=by kernel_rfl
@[reducible,instance] def ifo23_2:=FO.mk iG
theorem jk:fieldOff Tryz.prog 23 3=some 3:=by kernel_rfl
@[reducible,instance] def ifo23_3:=FO.mk jk
theorem iM:fieldOff Tryz.prog 23 4=some 4:=by kernel_rfl
@[reducible,instance] def ifo23_4:=FO.mk iM
theorem iK:fieldOff Tryz.prog 23 5=some 5:=by kernel_rfl
@[reducible,instance] def ifo23_5:=FO.mk iK
theorem jp:fieldOff Tryz.prog 23 6=some 6:=by kernel_rfl
@[reducible,instance] def ifo23_6:=FO.mk jp
theorem ji:fieldOff Tryz.prog 23 7=some 7:=by kernel_rfl
@[reducible,instance] def ifo23_7:=FO.mk ji
theorem jr:fieldOff Tryz.prog 23 8=some 8:=by kernel_rfl
@[reducible,instance] def ifo23_8:=FO.mk jr
theorem jq:fieldOff Tryz.prog 23 9=some 9:=by kernel_rfl
@[reducible,instance] def ifo23_9:=FO.mk jq
theorem gG:fieldOff Tryz.prog 23 10=some 10:=by kernel_rfl
@[reducible,instance] def ifo23_10:=FO.mk gG
theorem gM:fieldOff Tryz.prog 23 11=some 11:=by kernel_rfl
@[reducible,instance] def ifo23_11:=FO.mk gM
theorem hJ:fieldOff Tryz.prog 23 12=some 12:=by kernel_rfl
@[reducible,instance] def ifo23_12:=FO.mk hJ
theorem gK:fieldOff Tryz.prog 23 13=some 13:=by kernel_rfl
@[reducible,instance] def ifo23_13:=FO.mk gK
theorem fT:fieldOff Tryz.prog 23 14=some 14:=by kernel_rfl
@[reducible,instance] def ifo23_14:=FO.mk fT
theorem iy:fieldOff Tryz.prog 23 15=some 15:=by kernel_rfl
@[reducible,instance] def ifo23_15:=FO.mk iy
theorem iU:fieldOff Tryz.prog 39 1=some 1:=by kernel_rfl
@[reducible,instance] def ifo39_1:=FO.mk iU
theorem iC:fieldOff Tryz.prog 39 2=some 2:=by kernel_rfl
@[reducible,instance] def ifo39_2:=FO.mk iC
theorem jo:fieldOff Tryz.prog 39 3=some 4:=by kernel_rfl
@[reducible,instance] def ifo39_3:=FO.mk jo
theorem iX:fieldOff Tryz.prog 39 4=some 5:=by kernel_rfl
@[reducible,instance] def ifo39_4:=FO.mk iX
theorem iJ:fieldOff Tryz.prog 39 5=some 6:=by kernel_rfl
@[reducible,instance] def ifo39_5:=FO.mk iJ
theorem jm:fieldOff Tryz.prog 50 0=some 0:=by kernel_rfl
@[reducible,instance] def ifo50_0:=FO.mk jm
theorem jd:fieldOff Tryz.prog 50 1=some 1:=by kernel_rfl
@[reducible,instance] def ifo50_1:=FO.mk jd
theorem jl:fieldOff Tryz.prog 50 2=some 2:=by kernel_rfl
@[reducible,instance] def ifo50_2:=FO.mk jl
theorem jt:fieldOff Tryz.prog 50 3=some 3:=by kernel_rfl
@[reducible,instance] def ifo50_3:=FO.mk jt
theorem iQ:fieldOff Tryz.prog 50 4=some 4:=by kernel_rfl
@[reducible,instance] def ifo50_4:=FO.mk iQ
theorem jg:fieldOff Tryz.prog 50 5=some 5:=by kernel_rfl
@[reducible,instance] def ifo50_5:=FO.mk jg
theorem iV:fieldOff Tryz.prog 50 6=some 6:=by kernel_rfl
@[reducible,instance] def ifo50_6:=FO.mk iV
theorem iN:fieldOff Tryz.prog 57 0=some 0:=by kernel_rfl
@[reducible,instance] def ifo57_0:=FO.mk iN
theorem iB:fieldOff Tryz.prog 57 1=some 1:=by kernel_rfl
@[reducible,instance] def ifo57_1:=FO.mk iB
theorem js:fieldOff Tryz.prog 57 2=some 3:=by kernel_rfl
@[reducible,instance] def ifo57_2:=FO.mk js
theorem ju:fieldOff Tryz.prog 57 3=some 5:=by kernel_rfl
@[reducible,instance] def ifo57_3:=FO.mk ju
theorem jb:fieldOff Tryz.prog 73 0=some 0:=by kernel_rfl
@[reducible,instance] def ifo73_0:=FO.mk jb
theorem iL:fieldOff Tryz.prog 73 1=some 1:=by kernel_rfl
@[reducible,instance] def ifo73_1:=FO.mk iL
theorem jh:fieldOff Tryz.prog 73 2=some 2:=by kernel_rfl
@[reducible,instance] def ifo73_2:=FO.mk jh
theorem iS:fieldOff Tryz.prog 73 3=some 3:=by kernel_rfl
@[reducible,instance] def ifo73_3:=FO.mk iS
theorem iI:fieldOff Tryz.prog 73 4=some 4:=by kernel_rfl
@[reducible,instance] def ifo73_4:=FO.mk iI
theorem iW:fieldOff Tryz.prog 73 5=some 5:=by kernel_rfl
@[reducible,instance] def ifo73_5:=FO.mk iW
theorem jf:fieldOff Tryz.prog 73 6=some 6:=by kernel_rfl
@[reducible,instance] def ifo73_6:=FO.mk jf
theorem jn:fieldOff Tryz.prog 79 0=some 0:=by kernel_rfl
@[reducible,instance] def ifo79_0:=FO.mk jn
theorem iZ:fieldOff Tryz.prog 79 1=some 1:=by kernel_rfl
@[reducible,instance] def ifo79_1:=FO.mk iZ
theorem iO:fieldOff Tryz.prog 79 2=some 2:=by kernel_rfl
@[reducible,instance] def ifo79_2:=FO.mk iO
theorem jc:fieldOff Tryz.prog 83 0=some 0:=by kernel_rfl
@[reducible,instance] def ifo83_0:=FO.mk jc
theorem ja:fieldOff Tryz.prog 83 1=some 16:=by kernel_rfl
@[reducible,instance] def ifo83_1:=FO.mk ja
theorem iD:fieldOff Tryz.prog 83 2=some 18:=by kernel_rfl
@[reducible,instance] def ifo83_2:=FO.mk iD
theorem iY:fieldOff Tryz.prog 83 3=some 30:=by kernel_rfl
@[reducible,instance] def ifo83_3:=FO.mk iY
theorem ic:fieldOff Tryz.prog 100 0=some 0:=by kernel_rfl
@[reducible,instance] def ifo100_0:=FO.mk ic
theorem gn:fieldOff Tryz.prog 100 1=some 1:=by kernel_rfl
@[reducible,instance] def ifo100_1:=FO.mk gn
theorem fL:fieldOff Tryz.prog 100 2=some 2:=by kernel_rfl
@[reducible,instance] def ifo100_2:=FO.mk fL
theorem hQ:fieldOff Tryz.prog 100 3=some 3:=by kernel_rfl
@[reducible,instance] def ifo100_3:=FO.mk hQ
theorem hU:fieldOff Tryz.prog 103 0=some 0:=by kernel_rfl
@[reducible,instance] def ifo103_0:=FO.mk hU
theorem fy:fieldOff Tryz.prog 103 1=some 16:=by kernel_rfl
@[reducible,instance] def ifo103_1:=FO.mk fy
theorem fv:fieldOff Tryz.prog 103 2=some 17:=by kernel_rfl
@[reducible,instance] def ifo103_2:=FO.mk fv
theorem iu:fieldOff Tryz.prog 103 3=some 18:=by kernel_rfl
@[reducible,instance] def ifo103_3:=FO.mk iu
theorem gx:fieldOff Tryz.prog 103 4=some 19:=by kernel_rfl
@[reducible,instance] def ifo103_4:=FO.mk gx
theorem gP:fieldOff Tryz.prog 103 5=some 20:=by kernel_rfl
@[reducible,instance] def ifo103_5:=FO.mk gP
theorem hZ:fieldOff Tryz.prog 103 6=some 21:=by kernel_rfl
@[reducible,instance] def ifo103_6:=FO.mk hZ
theorem gu:fieldOff Tryz.prog 103 7=some 22:=by kernel_rfl
@[reducible,instance] def ifo103_7:=FO.mk gu
theorem gl:fieldOff Tryz.prog 151 0=some 0:=by kernel_rfl
@[reducible,instance] def ifo151_0:=FO.mk gl
theorem gj:fieldOff Tryz.prog 151 1=some 1:=by kernel_rfl
@[reducible,instance] def ifo151_1:=FO.mk gj
theorem io:fieldOff Tryz.prog 151 2=some 2:=by kernel_rfl
@[reducible,instance] def ifo151_2:=FO.mk io
theorem gW:fieldOff Tryz.prog 151 3=some 3:=by kernel_rfl
@[reducible,instance] def ifo151_3:=FO.mk gW
theorem fw:fieldOff Tryz.prog 158 0=some 0:=by kernel_rfl
@[reducible,instance] def ifo158_0:=FO.mk fw
theorem ib:fieldOff Tryz.prog 158 1=some 1:=by kernel_rfl
@[reducible,instance] def ifo158_1:=FO.mk ib
theorem ip:fieldOff Tryz.prog 158 2=some 2:=by kernel_rfl
@[reducible,instance] def ifo158_2:=FO.mk ip
theorem fN:fieldOff Tryz.prog 158 3=some 3:=by kernel_rfl
@[reducible,instance] def ifo158_3:=FO.mk fN
theorem gS:fieldOff Tryz.prog 158 4=some 4:=by kernel_rfl
@[reducible,instance] def ifo158_4:=FO.mk gS
theorem gq:fieldOff Tryz.prog 158 5=some 5:=by kernel_rfl
@[reducible,instance] def ifo158_5:=FO.mk gq
theorem gB:fieldOff Tryz.prog 158 6=some 6:=by kernel_rfl
@[reducible,instance] def ifo158_6:=FO.mk gB
theorem gN:fieldOff Tryz.prog 158 7=some 7:=by kernel_rfl
@[reducible,instance] def ifo158_7:=FO.mk gN
theorem gL:fieldOff Tryz.prog 158 8=some 8:=by kernel_rfl
@[reducible,instance] def ifo158_8:=FO.mk gL
theorem fA:fieldOff Tryz.prog 158 9=some 9:=by kernel_rfl
@[reducible,instance] def ifo158_9:=FO.mk fA
theorem fE:fieldOff Tryz.prog 158 10=some 10:=by kernel_rfl
@[reducible,instance] def ifo158_10:=FO.mk fE
theorem fx:fieldOff Tryz.prog 158 11=some 11:=by kernel_rfl
@[reducible,instance] def ifo158_11:=FO.mk fx
theorem fG:fieldOff Tryz.prog 158 12=some 12:=by kernel_rfl
@[reducible,instance] def ifo158_12:=FO.mk fG
theorem fI:fieldOff Tryz.prog 158 13=some 13:=by kernel_rfl
@[reducible,instance] def ifo158_13:=FO.mk fI
theorem fH:fieldOff Tryz.prog 158 14=some 14:=by kernel_rfl
@[reducible,instance] def ifo158_14:=FO.mk fH
theorem fJ:fieldOff Tryz.prog 158 15=some 15:=by kernel_rfl
@[reducible,instance] def ifo158_15:=FO.mk fJ
theorem gk:fieldOff Tryz.prog 161 0=some 0:=by kernel_rfl
@[reducible,instance] def ifo161_0:=FO.mk gk
theorem iw:fieldOff Tryz.prog 161 1=some 1:=by kernel_rfl
@[reducible,instance] def ifo161_1:=FO.mk iw
theorem gv:fieldOff Tryz.prog 161 2=some 2:=by kernel_rfl
@[reducible,instance] def ifo161_2:=FO.mk gv
theorem fD:fieldOff Tryz.prog 161 3=some 3:=by kernel_rfl
@[reducible,instance] def ifo161_3:=FO.mk fD
theorem ie:fieldOff Tryz.prog 168 0=some 0:=by kernel_rfl
@[reducible,instance] def ifo168_0:=FO.mk ie
theorem ig:fieldOff Tryz.prog 168 1=some 1:=by kernel_rfl
@[reducible,instance] def ifo168_1:=FO.mk ig
theorem fX:fieldOff Tryz.prog 168 2=some 2:=by kernel_rfl
@[reducible,instance] def ifo168_2:=FO.mk fX
theorem gE:fieldOff Tryz.prog 168 3=some 3:=by kernel_rfl
@[reducible,instance] def ifo168_3:=FO.mk gE
theorem gX:fieldOff Tryz.prog 168 4=some 4:=by kernel_rfl
@[reducible,instance] def ifo168_4:=FO.mk gX
theorem iA:fieldOff Tryz.prog 168 5=some 5:=by kernel_rfl
@[reducible,instance] def ifo168_5:=FO.mk iA
theorem fO:fieldOff Tryz.prog 168 6=some 6:=by kernel_rfl
@[reducible,instance] def ifo168_6:=FO.mk fO
theorem gI:fieldOff Tryz.prog 168 7=some 7:=by kernel_rfl
@[reducible,instance] def ifo168_7:=FO.mk gI
theorem ii:fieldOff Tryz.prog 168 8=some 8:=by kernel_rfl
@[reducible,instance] def ifo168_8:=FO.mk ii
theorem gD:fieldOff Tryz.prog 171 0=some 0:=by kernel_rfl
@[reducible,instance] def ifo171_0:=FO.mk gD
theorem fU:fieldOff Tryz.prog 171 1=some 1:=by kernel_rfl
@[reducible,instance] def ifo171_1:=FO.mk fU
theorem ir:fieldOff Tryz.prog 171 2=some 2:=by kernel_rfl
@[reducible,instance] def ifo171_2:=FO.mk ir
theorem ij:fieldOff Tryz.prog 171 3=some 3:=by kernel_rfl
@[reducible,instance] def ifo171_3:=FO.mk ij
theorem fR:fieldOff Tryz.prog 171 4=some 4:=by kernel_rfl
@[reducible,instance] def ifo171_4:=FO.mk fR
theorem fM:fieldOff Tryz.prog 171 5=some 5:=by kernel_rfl
@[reducible,instance] def ifo171_5:=FO.mk fM
theorem gC:fieldOff Tryz.prog 171 6=some 6:=by kernel_rfl
@[reducible,instance] def ifo171_6:=FO.mk gC
theorem ix:fieldOff Tryz.prog 195 0=some 0:=by kernel_rfl
@[reducible,instance] def ifo195_0:=FO.mk ix
theorem gi:fieldOff Tryz.prog 195 1=some 1:=by kernel_rfl
@[reducible,instance] def ifo195_1:=FO.mk gi
theorem gQ:fieldOff Tryz.prog 195 2=some 2:=by kernel_rfl
@[reducible,instance] def ifo195_2:=FO.mk gQ
theorem gY:fieldOff Tryz.prog 195 3=some 3:=by kernel_rfl
@[reducible,instance] def ifo195_3:=FO.mk gY
theorem fP:fieldOff Tryz.prog 195 4=some 4:=by kernel_rfl
@[reducible,instance] def ifo195_4:=FO.mk fP
theorem iv:fieldOff Tryz.prog 200 0=some 0:=by kernel_rfl
@[reducible,instance] def ifo200_0:=FO.mk iv
theorem il:fieldOff Tryz.prog 200 1=some 1:=by kernel_rfl
@[reducible,instance] def ifo200_1:=FO.mk il
theorem iq:fieldOff Tryz.prog 200 2=some 2:=by kernel_rfl
@[reducible,instance] def ifo200_2:=FO.mk iq
theorem gf:fieldOff Tryz.prog 200 3=some 3:=by kernel_rfl
@[reducible,instance] def ifo200_3:=FO.mk gf
theorem gy:fieldOff Tryz.prog 202 0=some 0:=by kernel_rfl
@[reducible,instance] def ifo202_0:=FO.mk gy
theorem fS:fieldOff Tryz.prog 202 1=some 1:=by kernel_rfl
@[reducible,instance] def ifo202_1:=FO.mk fS
theorem ge:fieldOff Tryz.prog 202 2=some 2:=by kernel_rfl
@[reducible,instance] def ifo202_2:=FO.mk ge
theorem gJ:fieldOff Tryz.prog 202 3=some 3:=by kernel_rfl
@[reducible,instance] def ifo202_3:=FO.mk gJ
theorem gT:fieldOff Tryz.prog 239 0=some 0:=by kernel_rfl
@[reducible,instance] def ifo239_0:=FO.mk gT
theorem gV:fieldOff Tryz.prog 239 1=some 1:=by kernel_rfl
@[reducible,instance] def ifo239_1:=FO.mk gV
theorem gH:fieldOff Tryz.prog 239 2=some 2:=by kernel_rfl
@[reducible,instance] def ifo239_2:=FO.mk gH
theorem gh:fieldOff Tryz.prog 239 3=some 3:=by kernel_rfl
@[reducible,instance] def ifo239_3:=FO.mk gh
theorem gU:fieldOff Tryz.prog 239 4=some 4:=by kernel_rfl
@[reducible,instance] def ifo239_4:=FO.mk gU
theorem fV:fieldOff Tryz.prog 239 5=some 5:=by kernel_rfl
@[reducible,instance] def ifo239_5:=FO.mk fV
theorem gZ:fieldOff Tryz.prog 248 0=some 0:=by kernel_rfl
@[reducible,instance] def ifo248_0:=FO.mk gZ
theorem ik:fieldOff Tryz.prog 248 1=some 1:=by kernel_rfl
@[reducible,instance] def ifo248_1:=FO.mk ik
theorem gA:fieldOff Tryz.prog 248 2=some 2:=by kernel_rfl
@[reducible,instance] def ifo248_2:=FO.mk gA
theorem hH:fieldOff Tryz.prog 248 3=some 3:=by kernel_rfl
@[reducible,instance] def ifo248_3:=FO.mk hH
theorem ia:fieldOff Tryz.prog 248 4=some 4:=by kernel_rfl
@[reducible,instance] def ifo248_4:=FO.mk ia
theorem gR:fieldOff Tryz.prog 253 0=some 0:=by kernel_rfl
@[reducible,instance] def ifo253_0:=FO.mk gR
theorem gO:fieldOff Tryz.prog 253 1=some 1:=by kernel_rfl
@[reducible,instance] def ifo253_1:=FO.mk gO
theorem fZ:fieldOff Tryz.prog 256 0=some 0:=by kernel_rfl
@[reducible,instance] def ifo256_0:=FO.mk fZ
theorem fY:fieldOff Tryz.prog 256 1=some 1:=by kernel_rfl
@[reducible,instance] def ifo256_1:=FO.mk fY
theorem fQ:fieldOff Tryz.prog 256 2=some 2:=by kernel_rfl
@[reducible,instance] def ifo256_2:=FO.mk fQ
theorem fW:fieldOff Tryz.prog 256 3=some 3:=by kernel_rfl
@[reducible,instance] def ifo256_3:=FO.mk fW
theorem ap3:(Tryz.prog.info? 3).map (fun i=>(i.zero,i.size,i.bytes))=some (some (.int .i64 0),1,8):=by kernel_rfl
theorem ap4:(Tryz.prog.info? 4).map (fun i=>(i.zero,i.size,i.bytes))=some (some (.bool false),1,1):=by kernel_rfl
theorem ap5:(Tryz.prog.info? 5).map (fun i=>(i.zero,i.size,i.bytes))=some (some (.int .u8 0),1,1):=by kernel_rfl
theorem ap35:(Tryz.prog.info? 35).map (fun i=>(i.zero,i.size,i.bytes))=some (some (.slice none 0 0),1,24):=by kernel_rfl
theorem ap48:(Tryz.prog.info? 48).map (fun i=>(i.zero,i.size,i.bytes))=some (some (.slice none 0 0),1,24):=by kernel_rfl
theorem ze23:(Tryz.prog.info? 23).bind (·.zero)=some (Value.agg (#[vi (0),vi (0),vi (0),vi (0),vi (0),vi (0),vi (0),vi (0),vi (0),vi (0),vi (0),vi (0),vi (0),vi (0),vb false,vb false])):=by kernel_rfl
theorem ze39:(Tryz.prog.info? 39).bind (·.zero)=some (Value.agg (#[vi (0),vi (0),vi (0),vi (0),vi (0),vi (0),vi (0)])):=by kernel_rfl
theorem ze48:(Tryz.prog.info? 48).bind (·.zero)=some (vs none 0 0):=by kernel_rfl
theorem ze55:(Tryz.prog.info? 55).bind (·.zero)=some (Value.agg (#[vs none 0 0,vs none 0 0])):=by kernel_rfl
theorem ze73:(Tryz.prog.info? 73).bind (·.zero)=some (Value.agg (#[vi (0),vi (0),vi (0),vi (0),vi (0),vi (0),vi (0)])):=by kernel_rfl
theorem ze100:(Tryz.prog.info? 100).bind (·.zero)=some (Value.agg (#[Value.pointer none,Value.pointer none,Value.pointer none,vi (0),vi (0),vi (0),vi (0),vi (0),vi (0),vi (0)])):=by kernel_rfl
theorem ze161:(Tryz.prog.info? 161).bind (·.zero)=some (Value.agg (#[vi (0),vi (0),vi (0),vb false])):=by kernel_rfl
theorem mo:Tryz.prog.follows .mixedOrders=true:=by kernel_rfl
@[reducible,instance] def iu3:=Und.mk underlying3
@[reducible,instance] def iu4:=Und.mk underlying4
@[reducible,instance] def iu5:=Und.mk underlying5
@[reducible,instance] def iu9:=Und.mk underlying9
@[reducible,instance] def iu23:=Und.mk underlying23
@[reducible,instance] def iu25:=Und.mk underlying25
@[reducible,instance] def iu32:=Und.mk underlying32
@[reducible,instance] def iu35:=Und.mk underlying35
@[reducible,instance] def iu37:=Und.mk underlying37
@[reducible,instance] def iu39:=Und.mk underlying39
@[reducible,instance] def iu45:=Und.mk underlying45
@[reducible,instance] def iu48:=Und.mk underlying48
@[reducible,instance] def iu53:=Und.mk underlying53
@[reducible,instance] def iu54:=Und.mk underlying54
@[reducible,instance] def iu55:=Und.mk underlying55
@[reducible,instance] def iu73:=Und.mk underlying73
@[reducible,instance] def iu76:=Und.mk underlying76
@[reducible,instance] def iu77:=Und.mk underlying77
@[reducible,instance] def iu80:=Und.mk underlying80
@[reducible,instance] def iu81:=Und.mk underlying81
@[reducible,instance] def iu92:=Und.mk underlying92
@[reducible,instance] def iu93:=Und.mk underlying93
@[reducible,instance] def iu94:=Und.mk underlying94
@[reducible,instance] def iu95:=Und.mk underlying95
@[reducible,instance] def iu96:=Und.mk underlying96
@[reducible,instance] def iu97:=Und.mk underlying97
@[reducible,instance] def iu98:=Und.mk underlying98
@[reducible,instance] def iu101:=Und.mk underlying101
@[reducible,instance] def iu141:=Und.mk underlying141
@[reducible,instance] def iu154:=Und.mk underlying154
@[reducible,instance] def iu155:=Und.mk underlying155
@[reducible,instance] def iu156:=Und.mk underlying156
@[reducible,instance] def iu161:=Und.mk underlying161
@[reducible,instance] def iu169:=Und.mk underlying169
@[reducible,instance] def iu172:=Und.mk underlying172
@[reducible,instance] def iu246:=Und.mk underlying246
@[reducible,instance] def iu251:=Und.mk underlying251
@[reducible,instance] def iu254:=Und.mk underlying254
@[reducible,instance] def iu280:=Und.mk underlying280
@[reducible,instance] def iu285:=Und.mk underlying285
structure aw where
 Mode:Int
 Modulus:Int
 Window:Int
 T1:Int
 N2:Int
 Hold:Int
 Wait:Int
 Keep:Int
 Queue:Int
 Size:Int
 Ring:Int
 Rate:Int
 Bad:Int
 Good:Int
 Revert:Bool
 Wide:Bool
deriving DecidableEq,Inhabited
abbrev aw.Q (b:Nat) (l0 l1 l2 l3 l4 l5 l6 l7 l8 l9 l10 l11 l12 l13:Int) (l14 l15:Bool) (L:List As):List As:=blk b (#[vi l0,vi l1,vi l2,vi l3,vi l4,vi l5,vi l6,vi l7,vi l8,vi l9,vi l10,vi l11,vi l12,vi l13,vb l14,vb l15]) 23::L
abbrev aw.P (b:Nat) (x:aw) (L:List As):List As:=aw.Q b x.Mode x.Modulus x.Window x.T1 x.N2 x.Hold x.Wait x.Keep x.Queue x.Size x.Ring x.Rate x.Bad x.Good x.Revert x.Wide L
def aw.at (b:Nat) (x:aw):As:=fun h=>True∧Sp (aw.P b x []) h
theorem aw.open {b:Nat} {x:aw} {L:List As} {w0 w:World} (hs:Sep.St (aw.at b x::L) w0 w):True∧Sep.St (aw.P b x L) w0 w:=by
 obtain ⟨ho,ht,hu,h,hon,h1,h2,hd,e1,e2,⟨hi,hA⟩,hl⟩:=hs
 exact ⟨hi,St.open (m:=aw.P b x []) ⟨ho,ht,hu,h,hon,h1,h2,hd,e1,e2,hA,hl⟩⟩
theorem aw.close {b:Nat} {l0 l1 l2 l3 l4 l5 l6 l7 l8 l9 l10 l11 l12 l13:Int} {l14 l15:Bool} {L:List As} {w0 w:World} (hi:True) (hs:Sep.St (aw.Q b l0 l1 l2 l3 l4 l5 l6 l7 l8 l9 l10 l11 l12 l13 l14 l15 L) w0 w):Sep.St (aw.at b ({Mode:=l0,Modulus:=l1,Window:=l2,T1:=l3,N2:=l4,Hold:=l5,Wait:=l6,Keep:=l7,Queue:=l8,Size:=l9,Ring:=l10,Rate:=l11,Bad:=l12,Good:=l13,Revert:=l14,Wide:=l15}:aw)::L) w0 w:=by
 have h2:=St.join (m:=aw.Q b l0 l1 l2 l3 l4 l5 l6 l7 l8 l9 l10 l11 l12 l13 l14 l15 []) hs
 exact h2.mono fun h hh=>⟨hi,hh⟩
def dg.f (a0:Int) (a1:Int) (a2:Int) (a3:Bool) (a4:Bool):Option aw:=some (({Mode:=iand .i64 a0 (1),Modulus:=128,Window:=w64 (1+(iand .i64 a1 (15))),T1:=60,N2:=20,Hold:=2,Wait:=15,Keep:=32,Queue:=20,Size:=20,Ring:=800,Rate:=w64 (1+(iand .i64 a2 (63))),Bad:=3,Good:=2,Revert:=a3,Wide:=a4}:aw))
theorem dg.calls (H:dg.f a0 a1 a2 a3 a4=some r) (HS:St [R] w0 w):Calls Tryz.prog 24 #[vi a0,vi a1,vi a2,vb a3,vb a4] w (Ret fun u w=>u=Value.agg #[vi r.Mode,vi r.Modulus,vi r.Window,vi r.T1,vi r.N2,vi r.Hold,vi r.Wait,vi r.Keep,vi r.Queue,vi r.Size,vi r.Ring,vi r.Rate,vi r.Bad,vi r.Good,vb r.Revert,vb r.Wide]∧St [R] w0 w):=by
 refine calls_enter func24 Z Z (go ?_)
 refine W.e (Y.alloc (z:=Value.agg (#[vi (0),vi (0),vi (0),vi (0),vi (0),vi (0),vi (0),vi (0),vi (0),vi (0),vi (0),vi (0),vi (0),vi (0),vb false,vb false])) HS ze23) Z ?_
 rintro _ w ⟨_,rfl,HS⟩
 refine go ?_
 refine W.r (X.and Z Z) Z (go ?_)
 refine W.r (X.and Z Z) Z (go ?_)
 refine W.r (X.and Z Z) Z (go ?_)
 refine W.r (X.bd (Value.agg #[vi (iand .i64 a0 (1)),vi (128),vi (w64 (1+(iand .i64 a1 (15)))),vi (60),vi (20),vi (2),vi (15),vi (32),vi (20),vi (20),vi (800),vi (w64 (1+(iand .i64 a2 (63)))),vi (3),vi (2),vb a3,vb a4]) Z (fun _=>by kernel_rfl)) Z ?_
 refine W.e (Y.alloc (z:=Value.agg (#[vi (0),vi (0),vi (0),vi (0),vi (0),vi (0),vi (0),vi (0),vi (0),vi (0),vi (0),vi (0),vi (0),vi (0),vb false,vb false])) HS ze23) Z ?_
 rintro _ w ⟨_,rfl,HS⟩
 refine W.ss HS Z Z Z Z fun w HS=>go ?_
 refine W.ss HS Z Z Z Z fun w HS=>go ?_
 have hv3:=run_loadSt (P:=Tryz.prog) (p:=0) 1 [vi (iand .i64 a0 (1)),vi (128),vi (w64 (1+(iand .i64 a1 (15)))),vi (60),vi (20),vi (2),vi (15),vi (32),vi (20),vi (20),vi (800),vi (w64 (1+(iand .i64 a2 (63)))),vi (3),vi (2),vb a3,vb a4] HS rfl underlying23 rfl inf23 rfl
 have HS:=HS.ke [2]
 cases H
 exact At.retv1 Z ⟨_,Z,hv3⟩ ⟨_,Z,Z,HS⟩
def bx.f (a0:Int) (a1:Int) (a2:Int):Option Bool:=(if a0≥a1 then some (decide (a0≤a2)) else some false)
theorem bx.calls (H:bx.f a0 a1 a2=some r) (HS:St [R] w0 w):Calls Tryz.prog 163 #[vi a0,vi a1,vi a2] w (Ret fun u w=>u=vb r∧St [R] w0 w):=by
 refine calls_enter func163 Z Z (go ?_)
 refine W.cd 10 H Z (fun _ H=>go ?_) (fun _ H=>go ?_)
 ·exact rt
 ·exact rt
def fk.f (a0:aw):Option Int:=some (w64 ((w64 (2*(w64 ((imax (1) (imin a0.Size (1000)))+16))))+2))
theorem fk.calls (H:fk.f a0=some r) (HS:St [R] w0 w):Calls Tryz.prog 164 #[Value.agg #[vi a0.Mode,vi a0.Modulus,vi a0.Window,vi a0.T1,vi a0.N2,vi a0.Hold,vi a0.Wait,vi a0.Keep,vi a0.Queue,vi a0.Size,vi a0.Ring,vi a0.Rate,vi a0.Bad,vi a0.Good,vb a0.Revert,vb a0.Wide]] w (Ret fun u w=>u=vi r∧St [R] w0 w):=by
 refine calls_enter func164 Z Z (go ?_)
 refine W.e (Y.box HS Z) Z ?_
 rintro _ w ⟨_,rfl,HS⟩
 refine go ?_
 have HS:=HS.ke [1]
 exact rt
mutual
def ba.j4 (x11:Bool):Option Int:=(if x11=true then some (0) else some (1))
def ba.j3 (a0:aw) (x3:Bool) (x5:Bool) (x7:Bool) (x9:Bool):Option Int:=(if x3=true then (if x5=true then (if x7=true then (if x9=true then (ba.j4 (decide ((w64 (a0.Keep*a0.Rate))≥32))) else (ba.j4 false)) else (ba.j4 false)) else (ba.j4 false)) else (ba.j4 false))
def ba.j2 (a0:aw) (x3:Bool) (x5:Bool) (x7:Bool):Option Int:=((bx.f a0.Bad 1 16).bind fun t22=>(if t22=true then ((bx.f a0.Good 1 16).bind fun t25=>(ba.j3 a0 x3 x5 x7 t25)) else (ba.j3 a0 x3 x5 x7 false)))
def ba.j1 (a0:aw) (x3:Bool) (x5:Bool):Option Int:=((bx.f a0.Window 1 (w64 (a0.Modulus.tdiv (8)))).bind fun t29=>(if t29=true then ((bx.f a0.Queue 0 1000).bind fun t32=>(if t32=true then ((bx.f a0.Size 1 1000).bind fun t35=>(if t35=true then ((bx.f a0.Rate 1 4096).bind fun t38=>(if t38=true then ((fk.f a0).bind fun t41=>((bx.f a0.Ring t41 1048576).bind fun t43=>(ba.j2 a0 x3 x5 t43))) else (ba.j2 a0 x3 x5 false))) else (ba.j2 a0 x3 x5 false))) else (ba.j2 a0 x3 x5 false))) else (ba.j2 a0 x3 x5 false)))
def ba.j0 (a0:aw) (x3:Bool):Option Int:=((bx.f a0.T1 1 1048576).bind fun t47=>(if t47=true then ((bx.f a0.N2 1 100).bind fun t50=>(if t50=true then ((bx.f a0.Hold 0 1048576).bind fun t53=>(if t53=true then ((bx.f a0.Wait 1 1048576).bind fun t56=>(if t56=true then ((bx.f a0.Keep 1 65536).bind fun t59=>(ba.j1 a0 x3 t59)) else (ba.j1 a0 x3 false))) else (ba.j1 a0 x3 false))) else (ba.j1 a0 x3 false))) else (ba.j1 a0 x3 false)))
end
def ba.f (a0:aw):Option Int:=(if a0.Mode=0 then (if a0.Modulus=128 then (ba.j0 a0 true) else (ba.j0 a0 (decide (a0.Modulus=32768)))) else (if a0.Mode=1 then (if a0.Modulus=128 then (ba.j0 a0 true) else (ba.j0 a0 (decide (a0.Modulus=32768)))) else (ba.j0 a0 false)))
theorem ba.calls (H:ba.f a0=some r) (HS:St [R] w0 w):Calls Tryz.prog 101 #[Value.agg #[vi a0.Mode,vi a0.Modulus,vi a0.Window,vi a0.T1,vi a0.N2,vi a0.Hold,vi a0.Wait,vi a0.Keep,vi a0.Queue,vi a0.Size,vi a0.Ring,vi a0.Rate,vi a0.Bad,vi a0.Good,vb a0.Revert,vb a0.Wide]] w (Ret fun u w=>u=vi r∧St [R] w0 w):=by
 refine calls_enter func101 Z Z (go ?_)
 refine W.e (Y.box HS Z) Z ?_
 rintro _ w ⟨nb1,rfl,HS⟩
 refine gs ?_
 refine V.mj (σ:=Bool) [1] (fun x3 w=>St [aw.at nb1 a0,R] w0 w∧ba.j0 a0 x3=some r) (fun x3=>[(3,vb x3)]) ?_ ?_
 ·refine go ?_
  refine W.cd 10 H Z (fun _ H=>go ?_) (fun _ H=>go ?_)
  ·refine W.cd 19 H Z (fun _ H=>go ?_) (fun _ H=>go ?_)
   ·have HS:=aw.close tv HS
    exact At.mt _ ⟨HS,H⟩
   ·have HS:=aw.close tv HS
    exact At.mt _ ⟨HS,H⟩
  ·refine W.cd 15 H Z (fun _ H=>go ?_) (fun _ H=>go ?_)
   ·refine W.cd 19 H Z (fun _ H=>go ?_) (fun _ H=>go ?_)
    ·have HS:=aw.close tv HS
     exact At.mt _ ⟨HS,H⟩
    ·have HS:=aw.close tv HS
     exact At.mt _ ⟨HS,H⟩
   ·have HS:=aw.close tv HS
    exact At.mt _ ⟨HS,H⟩
 ·rintro x3 w ⟨HS,H⟩
  refine V.mj (σ:=Bool) [1,3] (fun x5 w=>St [aw.at nb1 a0,R] w0 w∧ba.j1 a0 x3 x5=some r) (fun x5=>[(4,vb x5)]) ?_ ?_
  ·refine go ?_
   obtain ⟨_,HS⟩:=aw.open HS
   refine go ?_
   refine W.kl H func163 (fun _ h=>bx.calls h HS.j0) ?_
   rintro _ _ w H ⟨rfl,HS⟩
   have HS:=HS.o0
   refine go ?_
   refine W.cv 28 H Z (fun _ H=>go ?_) (fun _ H=>go ?_)
   ·refine W.kl H func163 (fun _ h=>bx.calls h HS.j0) ?_
    rintro _ _ w H ⟨rfl,HS⟩
    have HS:=HS.o0
    refine go ?_
    refine W.cv 33 H Z (fun _ H=>go ?_) (fun _ H=>go ?_)
    ·refine W.kl H func163 (fun _ h=>bx.calls h HS.j0) ?_
     rintro _ _ w H ⟨rfl,HS⟩
     have HS:=HS.o0
     refine go ?_
     refine W.cv 38 H Z (fun _ H=>go ?_) (fun _ H=>go ?_)
     ·refine W.kl H func163 (fun _ h=>bx.calls h HS.j0) ?_
      rintro _ _ w H ⟨rfl,HS⟩
      have HS:=HS.o0
      refine go ?_
      refine W.cv 43 H Z (fun _ H=>go ?_) (fun _ H=>go ?_)
      ·refine W.kl H func163 (fun _ h=>bx.calls h HS.j0) ?_
       rintro _ _ w H ⟨rfl,HS⟩
       have HS:=HS.o0
       refine go ?_
       have HS:=aw.close tv HS
       exact At.mt _ ⟨HS,H⟩
      ·have HS:=aw.close tv HS
       exact At.mt _ ⟨HS,H⟩
     ·have HS:=aw.close tv HS
      exact At.mt _ ⟨HS,H⟩
    ·have HS:=aw.close tv HS
     exact At.mt _ ⟨HS,H⟩
   ·have HS:=aw.close tv HS
    exact At.mt _ ⟨HS,H⟩
  ·rintro x5 w ⟨HS,H⟩
   refine V.mj (σ:=Bool) [1,3,4] (fun x7 w=>St [aw.at nb1 a0,R] w0 w∧ba.j2 a0 x3 x5 x7=some r) (fun x7=>[(5,vb x7)]) ?_ ?_
   ·obtain ⟨_,HS⟩:=aw.open HS
    apply V.da [5,9,14,19,25,26] [6,7,8,10,11,12,13,15,16,17,18,20,21,22,23,24,27,28] [(48,_),(49,_),(50,_),(51,_),(52,_)] mo HS
    rfl
    refine T.e [49,52] [10,11,12,13,15,16,17,18,20,21,22,23,24,27,28] [0,1,2,3,4] (fun w HS=>?_) ⟨rd,rd,rd,rd,.n1 51 Z Z (fun w HS=>X.quo Z Z (by decide)),rds⟩
    refine Y.kl H func163 (fun _ h=>bx.calls h HS.j0) ?_
    rintro _ _ w H ⟨rfl,HS⟩
    have HS:=HS.o0
    refine ite_c H (fun c31 H=>?_) (fun c31 H=>?_)
    ·apply T.na [(53,_),(54,_),(55,_),(56,_)] HS
     exact nmk
     refine T.eG [56,54] [15,16,17,18,20,21,22,23,24,27,28] [6,7,8] fun w HS=>?_
     refine Y.kl H func163 (fun _ h=>bx.calls h HS.j0) ?_
     rintro _ _ w H ⟨rfl,HS⟩
     have HS:=HS.o0
     refine ite_c H (fun c34 H=>?_) (fun c34 H=>?_)
     ·apply T.na [(57,_),(58,_),(59,_),(60,_),(61,_)] HS
      exact nmk
      refine T.eG [61,59] [20,21,22,23,24,27,28] [10,11,12,13] fun w HS=>?_
      refine Y.kl H func163 (fun _ h=>bx.calls h HS.j0) ?_
      rintro _ _ w H ⟨rfl,HS⟩
      have HS:=HS.o0
      refine ite_c H (fun c37 H=>?_) (fun c37 H=>?_)
      ·apply T.na [(62,_),(63,_),(64,_),(65,_),(66,_)] HS
       exact nmk
       refine T.eG [66,64] [27,28] [15,16,17,18] fun w HS=>?_
       refine Y.kl H func163 (fun _ h=>bx.calls h HS.j0) ?_
       rintro _ _ w H ⟨rfl,HS⟩
       have HS:=HS.o0
       refine ite_c H (fun c40 H=>?_) (fun c40 H=>?_)
       ·apply T.na [(67,_),(68,_),(69,_),(70,_),(71,_),(72,_)] HS
        exact nmk
        refine T.eG [72,69] [27,28] [20,21,24] fun w HS=>?_
        refine Y.kl H func164 (fun _ h=>fk.calls h HS.j0) ?_
        rintro _ _ w H ⟨rfl,HS⟩
        have HS:=HS.o0
        refine T.nw HS ?_
        refine T.eG [71,73,69] [] [22,23] fun w HS=>?_
        refine Y.kl H func163 (fun _ h=>bx.calls h HS.j0) ?_
        rintro _ _ w H ⟨rfl,HS⟩
        have HS:=HS.o0
        apply T.na [(74,_),(75,_),(5,_)] HS
        exact nmk
        refine T.ff [1,3,4,5] fun w HS=>?_
        have HS:=aw.close tv HS
        exact At.mt _ ⟨HS,H⟩
       ·apply T.na [(67,_),(68,_),(69,_),(70,_),(71,_),(72,_)] HS
        exact nmk
        refine T.dp [26] [27,28] [(73,undef)] nmk ?_
        refine T.dp [] [] [(74,undef),(75,vb false),(5,vb false)] nmk ?_
        refine T.ff [1,3,4,5] fun w HS=>?_
        have HS:=aw.close tv HS
        exact At.mt _ ⟨HS,H⟩
      ·apply T.na [(62,_),(63,_),(64,_),(65,_),(66,_)] HS
       exact nmk
       refine T.dp [25,26] [27,28] [(67,undef),(68,vb false),(69,vb false),(70,undef),(71,undef),(72,undef)] nmk ?_
       refine T.dp [26] [27,28] [(73,undef)] nmk ?_
       refine T.dp [] [] [(74,undef),(75,vb false),(5,vb false)] nmk ?_
       refine T.ff [1,3,4,5] fun w HS=>?_
       have HS:=aw.close tv HS
       exact At.mt _ ⟨HS,H⟩
     ·apply T.na [(57,_),(58,_),(59,_),(60,_),(61,_)] HS
      exact nmk
      refine T.dp [19,25,26] [20,21,22,23,24,27,28] [(62,undef),(63,vb false),(64,vb false),(65,undef),(66,undef)] nmk ?_
      refine T.dp [25,26] [27,28] [(67,undef),(68,vb false),(69,vb false),(70,undef),(71,undef),(72,undef)] nmk ?_
      refine T.dp [26] [27,28] [(73,undef)] nmk ?_
      refine T.dp [] [] [(74,undef),(75,vb false),(5,vb false)] nmk ?_
      refine T.ff [1,3,4,5] fun w HS=>?_
      have HS:=aw.close tv HS
      exact At.mt _ ⟨HS,H⟩
    ·apply T.na [(53,_),(54,_),(55,_),(56,_)] HS
     exact nmk
     refine T.dp [14,19,25,26] [15,16,17,18,20,21,22,23,24,27,28] [(57,undef),(58,vb false),(59,vb false),(60,undef),(61,undef)] nmk ?_
     refine T.dp [19,25,26] [20,21,22,23,24,27,28] [(62,undef),(63,vb false),(64,vb false),(65,undef),(66,undef)] nmk ?_
     refine T.dp [25,26] [27,28] [(67,undef),(68,vb false),(69,vb false),(70,undef),(71,undef),(72,undef)] nmk ?_
     refine T.dp [26] [27,28] [(73,undef)] nmk ?_
     refine T.dp [] [] [(74,undef),(75,vb false),(5,vb false)] nmk ?_
     refine T.ff [1,3,4,5] fun w HS=>?_
     have HS:=aw.close tv HS
     exact At.mt _ ⟨HS,H⟩
   ·rintro x7 w ⟨HS,H⟩
    refine V.mj (σ:=Bool) [1,3,4,5] (fun x9 w=>St [aw.at nb1 a0,R] w0 w∧ba.j3 a0 x3 x5 x7 x9=some r) (fun x9=>[(6,vb x9)]) ?_ ?_
    ·refine go ?_
     obtain ⟨_,HS⟩:=aw.open HS
     refine go ?_
     refine W.kl H func163 (fun _ h=>bx.calls h HS.j0) ?_
     rintro _ _ w H ⟨rfl,HS⟩
     have HS:=HS.o0
     refine go ?_
     refine W.cv 79 H Z (fun _ H=>go ?_) (fun _ H=>go ?_)
     ·refine W.kl H func163 (fun _ h=>bx.calls h HS.j0) ?_
      rintro _ _ w H ⟨rfl,HS⟩
      have HS:=HS.o0
      refine go ?_
      have HS:=aw.close tv HS
      exact At.mt _ ⟨HS,H⟩
     ·have HS:=aw.close tv HS
      exact At.mt _ ⟨HS,H⟩
    ·rintro x9 w ⟨HS,H⟩
     refine V.seq ?_
     refine V.mj (σ:=Bool) [] (fun x11 w=>St [aw.at nb1 a0,R] w0 w∧ba.j4 x11=some r) (fun x11=>[(101,vb x11)]) ?_ ?_
     ·refine go ?_
      refine W.cv 85 H Z (fun _ H=>go ?_) (fun _ H=>go ?_)
      ·refine W.cv 88 H Z (fun _ H=>go ?_) (fun _ H=>go ?_)
       ·refine W.cv 91 H Z (fun _ H=>go ?_) (fun _ H=>go ?_)
        ·refine W.cv 94 H Z (fun _ H=>go ?_) (fun _ H=>go ?_)
         ·obtain ⟨_,HS⟩:=aw.open HS
          refine go ?_
          have HS:=aw.close tv HS
          exact At.mt _ ⟨HS,H⟩
         ·exact At.mt _ ⟨HS,H⟩
        ·exact At.mt _ ⟨HS,H⟩
       ·exact At.mt _ ⟨HS,H⟩
      ·exact At.mt _ ⟨HS,H⟩
     ·rintro x11 w ⟨HS,H⟩
      refine V.cv H Z (fun _ H=>go ?_) (fun _ H=>go ?_)
      ·have HS:=HS.ke [1]
       exact rt
      ·have HS:=HS.ke [1]
       exact rt
def eP.f (a0:Int) (a1:Int) (a2:Int):Option Int:=some (imax a1 (imin a0 a2))
theorem eP.calls (H:eP.f a0 a1 a2=some r) (HS:St [R] w0 w):Calls Tryz.prog 165 #[vi a0,vi a1,vi a2] w (Ret fun u w=>u=vi r∧St [R] w0 w):=by
 refine calls_enter func165 Z Z (go ?_)
 exact rt
def eK.f (a0:Int) (a1:Int):Option (Int × Int):=some (imax (8) (imin a0 (32768)),imax (1) (imin a1 (w64 ((imax (8) (imin a0 (32768))).tdiv (8)))))
theorem eK.calls (H:eK.f a0 a1=some r) (HS:St [R] w0 w):Calls Tryz.prog 226 #[vi a0,vi a1] w (Ret fun u w=>u=Value.tuple #[vi r.1,vi r.2]∧St [R] w0 w):=by
 refine calls_enter func226 Z Z (go ?_)
 refine W.r (X.quo Z Z (by decide)) Z (go ?_)
 exact rt
structure aC where
 m:Int
 window:Int
 queue:Int
 first:Int
 out:Int
 l:List (List Int)
deriving DecidableEq,Inhabited
abbrev aC.Q (b:Nat) (l0 l1 l2 l3 l4:Int) (l5:List (List Int)) (a5:Option Addr) (c5:Nat) (d5:List Value) (L:List As):List As:=blk b (#[vi l0,vi l1,vi l2,vi l3,vi l4,vs a5 l5.length c5]) 239::row 48 1 (.slice a5 l5.length c5) l5.length d5::tie (El.sl (El.int .u8)) d5 l5::L
abbrev aC.P (b:Nat) (x:aC) (a5:Option Addr) (c5:Nat) (d5:List Value) (L:List As):List As:=aC.Q b x.m x.window x.queue x.first x.out x.l a5 c5 d5 L
def aC.at (b:Nat) (x:aC):As:=fun h=>True∧∃a5:Option Addr,∃c5:Nat,∃d5:List Value,Sp (aC.P b x a5 c5 d5 []) h
theorem aC.open {b:Nat} {x:aC} {L:List As} {w0 w:World} (hs:Sep.St (aC.at b x::L) w0 w):∃a5:Option Addr,∃c5:Nat,∃d5:List Value,True∧Sep.St (aC.P b x a5 c5 d5 L) w0 w:=by
 obtain ⟨ho,ht,hu,h,hon,h1,h2,hd,e1,e2,⟨hi,a5,c5,d5,hA⟩,hl⟩:=hs
 exact ⟨a5,c5,d5,hi,St.open (m:=aC.P b x a5 c5 d5 []) ⟨ho,ht,hu,h,hon,h1,h2,hd,e1,e2,hA,hl⟩⟩
theorem aC.close {b:Nat} {l0 l1 l2 l3 l4:Int} {l5:List (List Int)} {a5:Option Addr} {c5:Nat} {d5:List Value} {L:List As} {w0 w:World} (hi:True) (hs:Sep.St (aC.Q b l0 l1 l2 l3 l4 l5 a5 c5 d5 L) w0 w):Sep.St (aC.at b ({m:=l0,window:=l1,queue:=l2,first:=l3,out:=l4,l:=l5}:aC)::L) w0 w:=by
 have h2:=St.join (m:=aC.Q b l0 l1 l2 l3 l4 l5 a5 c5 d5 []) hs
 exact h2.mono fun h hh=>⟨hi,_,_,_,hh⟩
def fi.f (a0:Int) (a1:Int) (a2:Int):Option aC:=((eK.f a0 a1).bind fun t1=>some (({m:=t1.1,window:=t1.2,queue:=imax (0) (imin a2 (1000)),first:=0,out:=0,l:=([]:List (List Int))}:aC)))
theorem fi.calls (H:fi.f a0 a1 a2=some r) (HS:St [R] w0 w):Calls Tryz.prog 166 #[vi a0,vi a1,vi a2] w (Ret fun u w=>∃bq0,u=pt bq0∧St [aC.at bq0 r,R] w0 w):=by
 refine calls_enter func166 Z Z (go ?_)
 refine W.kl H func226 (fun _ h=>eK.calls h HS.j0) ?_
 rintro t1 _ w H ⟨rfl,HS⟩
 have HS:=HS.o0
 refine go ?_
 refine W.r (X.bd (Value.agg #[vi t1.1,vi t1.2,vi (imax (0) (imin a2 (1000))),vi (0),vi (0),vs none 0 0]) Z (fun _=>by kernel_rfl)) Z ?_
 refine W.e (Y.box HS Z) Z ?_
 rintro _ w ⟨_,rfl,HS⟩
 refine go ?_
 have HS:=aC.close (l5:=([]:List (List Int))) tv ((row_nilE (El.sl (El.int .u8)) 48 1 HS).b [2])
 exact rt
structure aD where
 m:Int
 window:Int
 next:Int
 kept:List (Int × (List Int))
 ready:List (List Int)
deriving DecidableEq,Inhabited
abbrev aD.Q (b:Nat) (l0 l1 l2:Int) (l3:List (Int × (List Int))) (l4:List (List Int)) (b3:Nat) (k3:List (Int × Value)) (a4:Option Addr) (c4:Nat) (d4:List Value) (L:List As):List As:=blk b (#[vi l0,vi l1,vi l2,Value.map (some b3),vs a4 l4.length c4]) 248::mblk b3 k3::tieM (El.sl (El.int .u8)) k3 l3::row 48 1 (.slice a4 l4.length c4) l4.length d4::tie (El.sl (El.int .u8)) d4 l4::L
abbrev aD.P (b:Nat) (x:aD) (b3:Nat) (k3:List (Int × Value)) (a4:Option Addr) (c4:Nat) (d4:List Value) (L:List As):List As:=aD.Q b x.m x.window x.next x.kept x.ready b3 k3 a4 c4 d4 L
def aD.at (b:Nat) (x:aD):As:=fun h=>True∧∃b3:Nat,∃k3:List (Int × Value),∃a4:Option Addr,∃c4:Nat,∃d4:List Value,Sp (aD.P b x b3 k3 a4 c4 d4 []) h
theorem aD.open {b:Nat} {x:aD} {L:List As} {w0 w:World} (hs:Sep.St (aD.at b x::L) w0 w):∃b3:Nat,∃k3:List (Int × Value),∃a4:Option Addr,∃c4:Nat,∃d4:List Value,True∧Sep.St (aD.P b x b3 k3 a4 c4 d4 L) w0 w:=by
 obtain ⟨ho,ht,hu,h,hon,h1,h2,hd,e1,e2,⟨hi,b3,k3,a4,c4,d4,hA⟩,hl⟩:=hs
 exact ⟨b3,k3,a4,c4,d4,hi,St.open (m:=aD.P b x b3 k3 a4 c4 d4 []) ⟨ho,ht,hu,h,hon,h1,h2,hd,e1,e2,hA,hl⟩⟩
theorem aD.close {b:Nat} {l0 l1 l2:Int} {l3:List (Int × (List Int))} {l4:List (List Int)} {b3:Nat} {k3:List (Int × Value)} {a4:Option Addr} {c4:Nat} {d4:List Value} {L:List As} {w0 w:World} (hi:True) (hs:Sep.St (aD.Q b l0 l1 l2 l3 l4 b3 k3 a4 c4 d4 L) w0 w):Sep.St (aD.at b ({m:=l0,window:=l1,next:=l2,kept:=l3,ready:=l4}:aD)::L) w0 w:=by
 have h2:=St.join (m:=aD.Q b l0 l1 l2 l3 l4 b3 k3 a4 c4 d4 []) hs
 exact h2.mono fun h hh=>⟨hi,_,_,_,_,_,hh⟩
def fd.f (a0:Int) (a1:Int):Option aD:=((eK.f a0 a1).bind fun t1=>some (({m:=t1.1,window:=t1.2,next:=0,kept:=([]:List (Int × (List Int))),ready:=([]:List (List Int))}:aD)))
theorem fd.calls (H:fd.f a0 a1=some r) (HS:St [R] w0 w):Calls Tryz.prog 167 #[vi a0,vi a1] w (Ret fun u w=>∃bq0,u=pt bq0∧St [aD.at bq0 r,R] w0 w):=by
 refine calls_enter func167 Z Z (go ?_)
 refine W.kl H func226 (fun _ h=>eK.calls h HS.j0) ?_
 rintro t1 _ w H ⟨rfl,HS⟩
 have HS:=HS.o0
 refine go ?_
 refine W.e (Y.makeMap HS) Z ?_
 rintro _ w ⟨mb3,rfl,HS⟩
 have HS:=St.put (A:=tieM (El.sl (El.int .u8)) ([]) (([]:List (Int × (List Int))))) (fun _=>tv) HS
 refine W.r (X.bd (Value.agg #[vi t1.1,vi t1.2,vi (0),Value.map (some mb3),vs none 0 0]) Z (fun _=>by kernel_rfl)) Z (W.e (Y.box HS Z) Z ?_)
 rintro _ w ⟨_,rfl,HS⟩
 refine go ?_
 have HS:=aD.close (l4:=([]:List (List Int))) tv ((row_nilE (El.sl (El.int .u8)) 48 1 HS).b [2,3,2])
 exact rt
structure aI where
 now:Int
 left:List Int
deriving DecidableEq,Inhabited
abbrev aI.Q (b:Nat) (l0:Int) (l1:List Int) (L:List As):List As:=blk b (([Value.int .u32 l0]++l1.map (Value.int .i64)).toArray) 253::L
abbrev aI.P (b:Nat) (x:aI) (L:List As):List As:=aI.Q b x.now x.left L
def aI.at (b:Nat) (x:aI):As:=fun h=>(x.left.length=32)∧Sp (aI.P b x []) h
theorem aI.open {b:Nat} {x:aI} {L:List As} {w0 w:World} (hs:Sep.St (aI.at b x::L) w0 w):(x.left.length=32)∧Sep.St (aI.P b x L) w0 w:=by
 obtain ⟨ho,ht,hu,h,hon,h1,h2,hd,e1,e2,⟨hi,hA⟩,hl⟩:=hs
 exact ⟨hi,St.open (m:=aI.P b x []) ⟨ho,ht,hu,h,hon,h1,h2,hd,e1,e2,hA,hl⟩⟩
theorem aI.close {b:Nat} {l0:Int} {l1:List Int} {L:List As} {w0 w:World} (hi:l1.length=32) (hs:Sep.St (aI.Q b l0 l1 L) w0 w):Sep.St (aI.at b ({now:=l0,left:=l1}:aI)::L) w0 w:=by
 have h2:=St.join (m:=aI.Q b l0 l1 []) hs
 exact h2.mono fun h hh=>⟨hi,hh⟩
def fo.f (a0:Int):Option aI:=some ({now:=a0,left:=List.replicate 32 0}:aI)
theorem fo.calls (H:fo.f a0=some r) (HS:St [R] w0 w):Calls Tryz.prog 168 #[Value.int .u32 a0] w (Ret fun u w=>∃bq0,u=pt bq0∧St [aI.at bq0 r,R] w0 w):=by
 refine calls_enter func168 Z Z (go ?_)
 refine W.r (X.bd (Value.agg (([Value.int .u32 a0]++(List.replicate 32 0).map (Value.int .i64)).toArray)) Z (fun _=>by kernel_rfl)) Z ?_
 refine W.e (Y.box HS Z) Z ?_
 rintro _ w ⟨_,rfl,HS⟩
 refine go ?_
 have HS:=aI.close (by first|exact (by simp)|(simp only [List.length_set];exact (by simp))) HS
 exact rt
structure ae where
 m:Int
 t1:Int
 n2:Int
 size:Int
 state:Int
 tag:Int
 tries:Int
 rejected:Bool
 log:aC
 order:aD
 timers:aI
 out:List (List Int)
 inds:List Int
 sent:Int
 acked:Int
 lost:Int
deriving DecidableEq,Inhabited
abbrev ae.Q (b:Nat) (l0 l1 l2 l3 l4 l5 l6:Int) (l7:Bool) (l8:aC) (l9:aD) (l10:aI) (l11:List (List Int)) (l12:List Int) (l13 l14 l15:Int) (b8 b9 b10:Nat) (a11:Option Addr) (c11:Nat) (d11:List Value) (a12:Option Addr) (c12:Nat) (L:List As):List As:=blk b (#[vi l0,vi l1,vi l2,vi l3,vi l4,vi l5,vi l6,vb l7,pt b8,pt b9,pt b10,vs a11 l11.length c11,vs a12 l12.length c12,vi l13,vi l14,vi l15]) 158::aC.at b8 l8::aD.at b9 l9::aI.at b10 l10::row 48 1 (.slice a11 l11.length c11) l11.length d11::tie (El.sl (El.int .u8)) d11 l11::row 3 1 (.slice a12 l12.length c12) l12.length (l12.map (Value.int .i64))::L
abbrev ae.P (b:Nat) (x:ae) (b8 b9 b10:Nat) (a11:Option Addr) (c11:Nat) (d11:List Value) (a12:Option Addr) (c12:Nat) (L:List As):List As:=ae.Q b x.m x.t1 x.n2 x.size x.state x.tag x.tries x.rejected x.log x.order x.timers x.out x.inds x.sent x.acked x.lost b8 b9 b10 a11 c11 d11 a12 c12 L
def ae.at (b:Nat) (x:ae):As:=fun h=>True∧∃b8:Nat,∃b9:Nat,∃b10:Nat,∃a11:Option Addr,∃c11:Nat,∃d11:List Value,∃a12:Option Addr,∃c12:Nat,Sp (ae.P b x b8 b9 b10 a11 c11 d11 a12 c12 []) h
theorem ae.open {b:Nat} {x:ae} {L:List As} {w0 w:World} (hs:Sep.St (ae.at b x::L) w0 w):∃b8:Nat,∃b9:Nat,∃b10:Nat,∃a11:Option Addr,∃c11:Nat,∃d11:List Value,∃a12:Option Addr,∃c12:Nat,True∧Sep.St (ae.P b x b8 b9 b10 a11 c11 d11 a12 c12 L) w0 w:=by
 obtain ⟨ho,ht,hu,h,hon,h1,h2,hd,e1,e2,⟨hi,b8,b9,b10,a11,c11,d11,a12,c12,hA⟩,hl⟩:=hs
 exact ⟨b8,b9,b10,a11,c11,d11,a12,c12,hi,St.open (m:=ae.P b x b8 b9 b10 a11 c11 d11 a12 c12 []) ⟨ho,ht,hu,h,hon,h1,h2,hd,e1,e2,hA,hl⟩⟩
theorem ae.close {b:Nat} {l0 l1 l2 l3 l4 l5 l6:Int} {l7:Bool} {l8:aC} {l9:aD} {l10:aI} {l11:List (List Int)} {l12:List Int} {l13 l14 l15:Int} {b8 b9 b10:Nat} {a11:Option Addr} {c11:Nat} {d11:List Value} {a12:Option Addr} {c12:Nat} {L:List As} {w0 w:World} (hi:True) (hs:Sep.St (ae.Q b l0 l1 l2 l3 l4 l5 l6 l7 l8 l9 l10 l11 l12 l13 l14 l15 b8 b9 b10 a11 c11 d11 a12 c12 L) w0 w):Sep.St (ae.at b ({m:=l0,t1:=l1,n2:=l2,size:=l3,state:=l4,tag:=l5,tries:=l6,rejected:=l7,log:=l8,order:=l9,timers:=l10,out:=l11,inds:=l12,sent:=l13,acked:=l14,lost:=l15}:ae)::L) w0 w:=by
 have h2:=St.join (m:=ae.Q b l0 l1 l2 l3 l4 l5 l6 l7 l8 l9 l10 l11 l12 l13 l14 l15 b8 b9 b10 a11 c11 d11 a12 c12 []) hs
 exact h2.mono fun h hh=>⟨hi,_,_,_,_,_,_,_,_,hh⟩
mutual
def eB.j0 (a0:aw) (x3:Int):Option ae:=((eP.f a0.T1 1 1048576).bind fun t7=>((eP.f a0.N2 1 100).bind fun t9=>((eP.f a0.Size 1 1000).bind fun t11=>((fi.f x3 a0.Window a0.Queue).bind fun t13=>((fd.f x3 a0.Window).bind fun t15=>((fo.f 0).bind fun t17=>some (({m:=x3,t1:=t7,n2:=t9,size:=t11,state:=0,tag:=0,tries:=0,rejected:=false,log:=t13,order:=t15,timers:=t17,out:=([]:List (List Int)),inds:=([]:List Int),sent:=0,acked:=0,lost:=0}:ae))))))))
end
def eB.f (a0:aw):Option ae:=(if a0.Modulus=32768 then (eB.j0 a0 32768) else (eB.j0 a0 128))
theorem eB.calls (H:eB.f a0=some r) (HS:St [R] w0 w):Calls Tryz.prog 102 #[Value.agg #[vi a0.Mode,vi a0.Modulus,vi a0.Window,vi a0.T1,vi a0.N2,vi a0.Hold,vi a0.Wait,vi a0.Keep,vi a0.Queue,vi a0.Size,vi a0.Ring,vi a0.Rate,vi a0.Bad,vi a0.Good,vb a0.Revert,vb a0.Wide]] w (Ret fun u w=>∃bq0,u=pt bq0∧St [ae.at bq0 r,R] w0 w):=by
 refine calls_enter func102 Z Z (go ?_)
 refine W.e (Y.box HS Z) Z ?_
 rintro _ w ⟨nb1,rfl,HS⟩
 refine gs ?_
 refine V.seq ?_
 refine gs ?_
 refine V.mj (σ:=Int) [1] (fun x3 w=>St [aw.at nb1 a0,R] w0 w∧eB.j0 a0 x3=some r) (fun x3=>[(3,vi x3)]) ?_ ?_
 ·refine go ?_
  refine V.cd H Z (fun _ H=>go ?_) (fun _ H=>go ?_)
  ·have HS:=aw.close tv HS
   exact At.mt _ ⟨HS,H⟩
  ·have HS:=aw.close tv HS
   exact At.mt _ ⟨HS,H⟩
 ·rintro x3 w ⟨HS,H⟩
  refine go ?_
  obtain ⟨_,HS⟩:=aw.open HS
  apply V.da [3,6,9,15,19,20,22] [21,23] [(7,_),(8,_),(9,_),(11,_),(12,_),(14,_),(15,_),(17,_),(18,_),(19,_),(20,_),(21,_),(23,_),(24,_),(25,_)] mo HS
  rfl
  refine T.e [9] [21,23] [1,2] fun w HS=>?_
  refine Y.kl H func165 (fun _ h=>eP.calls h HS.j0) ?_
  rintro t7 _ w H ⟨rfl,HS⟩
  have HS:=HS.o0
  refine T.nw HS ?_
  refine T.e [12] [21,23] [4,5] fun w HS=>?_
  refine Y.kl H func165 (fun _ h=>eP.calls h HS.j0) ?_
  rintro t9 _ w H ⟨rfl,HS⟩
  have HS:=HS.o0
  refine T.nw HS ?_
  refine T.e [15] [21,23] [7,8] fun w HS=>?_
  refine Y.kl H func165 (fun _ h=>eP.calls h HS.j0) ?_
  rintro t11 _ w H ⟨rfl,HS⟩
  have HS:=HS.o0
  refine T.nw HS ?_
  refine T.e [17,19,21] [21,23] [10,11,12,13,14] fun w HS=>?_
  refine Y.kl H func166 (fun _ h=>fi.calls h HS.j0) ?_
  rintro _ _ w H ⟨bt13_0,rfl,HS⟩
  have HS:=HS.o1
  refine T.nw HS ?_
  refine T.e [23,25] [21,23] [16,17,18] fun w HS=>?_
  refine Y.kl H func167 (fun _ h=>fd.calls h HS.j0) ?_
  rintro _ _ w H ⟨bt15_0,rfl,HS⟩
  have HS:=HS.o1
  refine T.nw HS ?_
  refine T.e [] [23] [] fun w HS=>?_
  refine Y.kl H func168 (fun _ h=>fo.calls h HS.j0) ?_
  rintro _ _ w H ⟨bt17_0,rfl,HS⟩
  have HS:=HS.o1
  apply T.na [(27,_),(28,_)] HS
  exact nmk
  refine T.e [28] [] [0,21] (fun w HS=>?_) ⟨rd,.ns [(7,_),(10,_),(13,_),(16,_),(22,_),(26,_),(27,_)] ⟨Z,Z,Z,Z,Z,Z,Z,tv⟩ Z (fun w HS=>X.bd (Value.agg #[vi x3,vi t7,vi t9,vi t11,vi (0),vi (0),vi (0),vb false,pt bt13_0,pt bt15_0,pt bt17_0,vs none 0 0,vs none 0 0,vi (0),vi (0),vi (0)]) Z (fun _=>by kernel_rfl)),rds⟩
  refine ⟨_,Y.box HS Z,?_⟩
  rintro _ w ⟨_,rfl,HS⟩
  apply T.na [(29,_),(2,_)] HS
  exact nmk
  refine T.ff [2] fun w HS=>?_
  refine go ?_
  have HS:=(ae.close (l11:=([]:List (List Int))) (l12:=([]:List Int)) tv ((row_nilF (Value.int .i64) 3 1 (row_nilE (El.sl (El.int .u8)) 48 1 HS)).b [3,5,4,3,1,1])).ke [0,1]
  exact rt
structure aH where
 hold:Int
 wait:Int
 revert:Bool
 command:Int
 remote:Int
 own:Int
 bad:Int
 left:Int
 line:Int
deriving DecidableEq,Inhabited
abbrev aH.Q (b:Nat) (l0 l1:Int) (l2:Bool) (l3 l4 l5 l6 l7 l8:Int) (L:List As):List As:=blk b (#[vi l0,vi l1,vb l2,vi l3,vi l4,vi l5,vi l6,vi l7,vi l8]) 168::L
abbrev aH.P (b:Nat) (x:aH) (L:List As):List As:=aH.Q b x.hold x.wait x.revert x.command x.remote x.own x.bad x.left x.line L
def aH.at (b:Nat) (x:aH):As:=fun h=>True∧Sp (aH.P b x []) h
theorem aH.open {b:Nat} {x:aH} {L:List As} {w0 w:World} (hs:Sep.St (aH.at b x::L) w0 w):True∧Sep.St (aH.P b x L) w0 w:=by
 obtain ⟨ho,ht,hu,h,hon,h1,h2,hd,e1,e2,⟨hi,hA⟩,hl⟩:=hs
 exact ⟨hi,St.open (m:=aH.P b x []) ⟨ho,ht,hu,h,hon,h1,h2,hd,e1,e2,hA,hl⟩⟩
theorem aH.close {b:Nat} {l0 l1:Int} {l2:Bool} {l3 l4 l5 l6 l7 l8:Int} {L:List As} {w0 w:World} (hi:True) (hs:Sep.St (aH.Q b l0 l1 l2 l3 l4 l5 l6 l7 l8 L) w0 w):Sep.St (aH.at b ({hold:=l0,wait:=l1,revert:=l2,command:=l3,remote:=l4,own:=l5,bad:=l6,left:=l7,line:=l8}:aH)::L) w0 w:=by
 have h2:=St.join (m:=aH.Q b l0 l1 l2 l3 l4 l5 l6 l7 l8 []) hs
 exact h2.mono fun h hh=>⟨hi,hh⟩
def fq.f (a0:Int) (a1:Int) (a2:Bool):Option aH:=some (({hold:=imax (0) (imin a0 (1048576)),wait:=imax (1) (imin a1 (1048576)),revert:=a2,command:=0,remote:=0,own:=0,bad:=0,left:=0,line:=0}:aH))
theorem fq.calls (H:fq.f a0 a1 a2=some r) (HS:St [R] w0 w):Calls Tryz.prog 103 #[vi a0,vi a1,vb a2] w (Ret fun u w=>∃bq0,u=pt bq0∧St [aH.at bq0 r,R] w0 w):=by
 refine calls_enter func103 Z Z (go ?_)
 refine W.r (X.bd (Value.agg #[vi (imax (0) (imin a0 (1048576))),vi (imax (1) (imin a1 (1048576))),vb a2,vi (0),vi (0),vi (0),vi (0),vi (0),vi (0)]) Z (fun _=>by kernel_rfl)) Z ?_
 refine W.e (Y.box HS Z) Z ?_
 rintro _ w ⟨_,rfl,HS⟩
 refine go ?_
 have HS:=aH.close tv HS
 exact rt
structure aK where
 known:Bool
 highest:Int
 at_:Int
 came:List Bool
deriving DecidableEq,Inhabited
abbrev aK.Q (b:Nat) (l0:Bool) (l1 l2:Int) (l3:List Bool) (a3:Option Addr) (c3:Nat) (L:List As):List As:=blk b (#[vb l0,Value.int .u32 l1,vi l2,vs a3 l3.length c3]) 200::row 4 1 (.slice a3 l3.length c3) l3.length (l3.map Value.bool)::L
abbrev aK.P (b:Nat) (x:aK) (a3:Option Addr) (c3:Nat) (L:List As):List As:=aK.Q b x.known x.highest x.at_ x.came a3 c3 L
def aK.at (b:Nat) (x:aK):As:=fun h=>True∧∃a3:Option Addr,∃c3:Nat,Sp (aK.P b x a3 c3 []) h
theorem aK.open {b:Nat} {x:aK} {L:List As} {w0 w:World} (hs:Sep.St (aK.at b x::L) w0 w):∃a3:Option Addr,∃c3:Nat,True∧Sep.St (aK.P b x a3 c3 L) w0 w:=by
 obtain ⟨ho,ht,hu,h,hon,h1,h2,hd,e1,e2,⟨hi,a3,c3,hA⟩,hl⟩:=hs
 exact ⟨a3,c3,hi,St.open (m:=aK.P b x a3 c3 []) ⟨ho,ht,hu,h,hon,h1,h2,hd,e1,e2,hA,hl⟩⟩
theorem aK.close {b:Nat} {l0:Bool} {l1 l2:Int} {l3:List Bool} {a3:Option Addr} {c3:Nat} {L:List As} {w0 w:World} (hi:True) (hs:Sep.St (aK.Q b l0 l1 l2 l3 a3 c3 L) w0 w):Sep.St (aK.at b ({known:=l0,highest:=l1,at_:=l2,came:=l3}:aK)::L) w0 w:=by
 have h2:=St.join (m:=aK.Q b l0 l1 l2 l3 a3 c3 []) hs
 exact h2.mono fun h hh=>⟨hi,_,_,hh⟩
def eZ.f (a0:Int):Option aK:=(if 0≤imax (1) (imin a0 (4096))∧imax (1) (imin a0 (4096))≤1099511627776 then some (({known:=false,highest:=0,at_:=0,came:=List.replicate (imax (1) (imin a0 (4096))).toNat false}:aK)) else none)
theorem eZ.calls (H:eZ.f a0=some r) (HS:St [R] w0 w):Calls Tryz.prog 104 #[vi a0] w (Ret fun u w=>∃bq0,u=pt bq0∧St [aK.at bq0 r,R] w0 w):=by
 refine calls_enter func104 Z Z (go ?_)
 obtain ⟨c1,H⟩:=ite_n H
 refine W.e (Y.makeSl (g:=Value.bool) (N:=imax (1) (imin a0 (4096))) false underlying172 ap4 Z HS Z Z c1 (by decide)) Z ?_
 rintro _ w ⟨ra2,rc3,rfl,HS⟩
 refine W.r (X.bd (Value.agg #[vb false,Value.int .u32 (0),vi (0),vs ra2 (List.replicate (imax (1) (imin a0 (4096))).toNat false).length rc3]) Z (fun _=>by kernel_rfl)) Z (W.e (Y.box HS Z) Z ?_)
 rintro _ w ⟨_,rfl,HS⟩
 refine go ?_
 have HS:=aK.close tv HS
 exact rt
mutual
def cV.l0:Nat→Int→Int→Int→Option Int
 |0,_,_,_=>none
 |k+1,a1,x1,x2=>(if x2<8 then (if (iand .u32 x1 (1))=1 then (cV.l0 k a1 (ixor .u32 (x1.fdiv (2^(min (1:Int).toNat IntKind.u32.bits))) a1) (w64 (x2+1))) else (cV.l0 k a1 (x1.fdiv (2^(min (1:Int).toNat IntKind.u32.bits))) (w64 (x2+1)))) else some x1)
end
def cV.f (k:Nat) (a0:Int) (a1:Int):Option Int:=(cV.l0 k a1 a0 0)
theorem cV.calls (H:cV.f k a0 a1=some r) (HS:St [R] w0 w):Calls Tryz.prog 319 #[Value.int .u32 a0,Value.int .u32 a1] w (Ret fun u w=>u=Value.int .u32 r∧St [R] w0 w):=by
 refine calls_enter func319 Z Z (go ?_)
 refine V.lj (σ:=Int × Int) [1] (fun kq (x1,x2) w=>St [R] w0 w∧cV.l0 kq a1 x1 x2=some r∧kq≤k) (fun (x1,x2)=>[(0,Value.int .u32 x1),(6,vi x2)]) (_,_) ⟨HS,H,Nat.le_refl _⟩ ?_
 rintro kq3 ⟨x1,x2⟩ w ⟨HS,H,_⟩
 cases kq3 with
 |zero=>exact absurd H (by simp [cV.l0])
 |succ kq3=>
  simp only [cV.l0] at H
  refine go ?_
  refine V.cd H Z (fun _ H=>go ?_) (fun _ H=>go ?_)
  ·refine W.r (X.and Z Z) Z (go ?_)
   refine W.r (X.shr Z Z (by decide)) Z (go ?_)
   refine V.cd H Z (fun _ H=>go ?_) (fun _ H=>go ?_)
   ·refine W.r (X.xor Z Z) Z (go ?_)
    exact At.rn (_,_) ⟨HS,H,by omega⟩
   ·exact At.rn (_,_) ⟨HS,H,by omega⟩
  ·exact rt
mutual
def dL.l0:Nat→(List Int)→Int→Int→Int→Option Int
 |0,_,_,_,_=>none
 |k+1,a0,a2,x1,x2=>(if x2<(a0.length:Int) then (if 0≤x2∧x2<(a0.length:Int) then ((cV.f k (ixor .u32 x1 (IntKind.u32.wrap (a0.getD x2.toNat 0))) a2).bind fun t9=>(dL.l0 k a0 a2 t9 (w64 (x2+1)))) else none) else some (icom .u32 x1))
end
def dL.f (k:Nat) (a0:List Int) (a1:Int) (a2:Int):Option Int:=(dL.l0 k a0 a2 a1 0)
theorem dL.calls (H:dL.f k a0 a1 a2=some r) (HS:St [R] w0 w) (hr0:dB R sa0 sc0 a0):Calls Tryz.prog 313 #[vs sa0 a0.length sc0,Value.int .u32 a1,Value.int .u32 a2] w (Ret fun u w=>u=Value.int .u32 r∧St [R] w0 w):=by
 refine calls_enter func313 Z Z (go ?_)
 refine V.lj (σ:=Int × Int) [2,9,10] (fun kq (x1,x2) w=>St [R] w0 w∧dL.l0 kq a0 a2 x1 x2=some r∧kq≤k) (fun (x1,x2)=>[(1,Value.int .u32 x1),(11,vi x2)]) (_,_) ⟨HS,H,Nat.le_refl _⟩ ?_
 rintro kq3 ⟨x1,x2⟩ w ⟨HS,H,_⟩
 cases kq3 with
 |zero=>exact absurd H (by simp [dL.l0])
 |succ kq3=>
  simp only [dL.l0] at H
  refine go ?_
  refine V.cd H Z (fun _ H=>go ?_) (fun _ H=>go ?_)
  ·obtain ⟨c6,H⟩:=ite_n H
   obtain ⟨_,_,hh⟩:=(rdC.at 0 hr0 HS rfl).some (by decide) c6.1 c6.2;subst hh
   refine go ?_
   refine W.r (X.load underlying5 Z Z ((rdC.at 0 hr0 HS Z).cellI c6.1 c6.2)) Z (go ?_)
   refine W.r (X.xor Z Z) Z (go ?_)
   refine W.kl H func319 (fun _ h=>cV.calls h HS.j0) ?_
   rintro _ _ w H ⟨rfl,HS⟩
   have HS:=HS.o0
   refine go ?_
   exact At.rn (_,_) ⟨HS,H,by omega⟩
  ·refine W.r (X.com Z) Z (go ?_)
   exact rt
def fj.f (k:Nat) (a0:List Int):Option Int:=((dL.f k a0 65535 33800).bind fun t1=>some (IntKind.u16.wrap t1))
theorem fj.calls (H:fj.f k a0=some r) (HS:St [R] w0 w) (hr0:dB R sa0 sc0 a0):Calls Tryz.prog 297 #[vs sa0 a0.length sc0] w (Ret fun u w=>u=Value.int .u16 r∧St [R] w0 w):=by
 refine calls_enter func297 Z Z (go ?_)
 refine W.kl H func313 (fun _ h=>dL.calls h HS.j0 (rdC.part 0 hr0 Z)) ?_
 rintro _ _ w H ⟨rfl,HS⟩
 have HS:=HS.o0
 refine go ?_
 exact rt
def ft.f (k:Nat) (a0:List Int):Option Int:=((dL.f k a0 4294967295 3988292384).bind fun t1=>some t1)
theorem ft.calls (H:ft.f k a0=some r) (HS:St [R] w0 w) (hr0:dB R sa0 sc0 a0):Calls Tryz.prog 298 #[vs sa0 a0.length sc0] w (Ret fun u w=>u=Value.int .u32 r∧St [R] w0 w):=by
 refine calls_enter func298 Z Z (go ?_)
 refine W.kl H func313 (fun _ h=>dL.calls h HS.j0 (rdC.part 0 hr0 Z)) ?_
 rintro _ _ w H ⟨rfl,HS⟩
 have HS:=HS.o0
 refine go ?_
 exact rt
mutual
def cg.l1:Nat→Int→Int→Int→(List Int)→Option (List Int)
 |0,_,_,_,_=>none
 |k+1,x3,x7,x8,x11=>(if x8<x3 then (if (x11.length:Int)+([IntKind.u8.wrap x7]:List Int).length≤1099511627776 then (cg.l1 k x3 (x7.fdiv (2^(min (8:Int).toNat IntKind.u32.bits))) (w64 (x8+1)) (x11++([IntKind.u8.wrap x7]:List Int))) else none) else some x11)
def cg.j0 (k:Nat) (x3:Int) (x4:Int):Option (List Int):=(cg.l1 k x3 x4 0 ([]:List Int))
end
def cg.f (k:Nat) (a0:List Int) (a1:Bool):Option (List Int):=((fj.f k a0).bind fun t1=>(if a1=true then ((ft.f k a0).bind fun t22=>(cg.j0 k 4 t22)) else (cg.j0 k 2 (IntKind.u32.wrap t1))))
theorem cg.calls (H:cg.f k a0 a1=some r) (HS:St [R] w0 w) (hr0:dB R sa0 sc0 a0):Calls Tryz.prog 267 #[vs sa0 a0.length sc0,vb a1] w (Ret fun u w=>∃aq0 cq0,u=vs aq0 r.length cq0∧St [rB aq0 cq0 r,R] w0 w):=by
 refine calls_enter func267 Z Z (go ?_)
 refine W.kl H func297 (fun _ h=>fj.calls h HS.j0 (rdC.part 0 hr0 Z)) ?_
 rintro _ _ w H ⟨rfl,HS⟩
 have HS:=HS.o0
 refine gs ?_
 refine V.mj (σ:=Int × Int) [] (fun (x3,x4) w=>St [R] w0 w∧∃kf5,kf5≤k∧cg.j0 kf5 x3 x4=some r) (fun (x3,x4)=>[(5,vi x3),(6,Value.int .u32 x4)]) ?_ ?_
 ·refine go ?_
  refine V.cv H Z (fun _ H=>go ?_) (fun _ H=>go ?_)
  ·refine W.kl H func298 (fun _ h=>ft.calls h HS.j0 (rdC.part 0 hr0 Z)) ?_
   rintro _ _ w H ⟨rfl,HS⟩
   have HS:=HS.o0
   refine go ?_
   exact At.mt (_,_) ⟨HS,k,by omega,H⟩
  ·exact At.mt (_,_) ⟨HS,k,by omega,H⟩
 ·rintro ⟨x3,x4⟩ w ⟨HS,kf5,_,H⟩
  refine go ?_
  have HS:=row_nilF (Value.int .u8) 5 1 HS
  refine V.lj (σ:=Int × Int × Option Addr × Nat × List Int) [14] (fun kq (x7,x8,ra9,rc10,x11) w=>St [rB ra9 rc10 x11,R] w0 w∧cg.l1 kq x3 x7 x8 x11=some r∧kq≤kf5) (fun (x7,x8,ra9,rc10,x11)=>[(6,Value.int .u32 x7),(7,vs ra9 x11.length rc10),(15,vi x8)]) (_,_,_,_,_) ⟨HS,H,Nat.le_refl _⟩ ?_
  rintro kq12 ⟨x7,x8,ra9,rc10,x11⟩ w ⟨HS,H,_⟩
  cases kq12 with
  |zero=>exact absurd H (by simp [cg.l1])
  |succ kq12=>
   simp only [cg.l1] at H
   refine go ?_
   refine V.cd H Z (fun _ H=>go ?_) (fun _ H=>go ?_)
   ·refine W.e (Y.ls (e:=5) (Value.int .u8) ([IntKind.u8.wrap x7]:List Int) HS Z Z (fun _=>by kernel_rfl)) Z ?_
    rintro _ w ⟨_,rfl,HS⟩
    obtain ⟨_,H⟩:=ite_n H
    refine W.e (Y.appF (Value.int .u8) (fun _=>Z) 1 underlying48 ap5 Z HS Z Z Z (rdC.at 0 row_rd HS Z) (by omega) (by omega)) Z ?_
    rintro _ w ⟨_,_,rfl,HS⟩
    refine go ?_
    refine W.r (X.shr Z Z (by decide)) Z (go ?_)
    have HS:=HS.ke [1,1]
    exact At.rn (_,_,_,_,_) ⟨HS,H,by omega⟩
   ·exact rt
def cH.f (a1:Int):Option (List Int):=(if a1<0 then none else (if (w64 (a1-0))>0 then (if w64 (a1-0)≤1099511627776 then some ([]:List Int) else none) else some ([]:List Int)))
theorem cH.calls (H:cH.f a1=some r) (HS:St [R] w0 w):Calls Tryz.prog 237 #[vs none 0 0,vi a1] w (Ret fun u w=>∃aq0 cq0,u=vs aq0 r.length cq0∧St [rB aq0 cq0 r,R] w0 w):=by
 refine calls_enter func237 Z Z (go ?_)
 refine V.cd H Z (fun _ H=>?_) (fun _ H=>go ?_)
 ·exact nomatch H
 ·refine W.r (X.cap underlying48 Z) Z (go ?_)
  refine V.cd H Z (fun _ H=>go ?_) (fun _ H=>go ?_)
  ·refine W.r (X.cap underlying48 Z) Z ?_
   refine W.r (X.nilH underlying48 inf5 Z Z) Z (go ?_)
   obtain ⟨_,H⟩:=ite_n H
   refine W.e (Y.appN (kk:=(w64 (a1-0)).toNat) (kI:=w64 (a1-0)) underlying48 underlying3 ap5 Z HS Z Z (by omega) (by omega) (by omega) (by decide)) Z ?_
   rintro _ w ⟨ig4,ic5,_,rfl,_,_,_,HS⟩
   refine go ?_
   refine W.r (X.rawH (j:=(0:Int)) underlying48 inf5 Z Z ⟨(by omega),(by omega)⟩) Z (go ?_)
   refine At.again 4 (v:=vs (some ⟨ig4,0,none⟩) ([]:List Int).length ic5) Z ?_
   have HS:=HS.row_shut (m:=([]:List Int).length) (c:=ic5) (off:=0) (cs:=([]:List Int).map (Value.int .u8)) (Nat.zero_le _) (by omega) (by omega) (by simp) rfl
   exact rt
  ·have HS:=row_nilF (Value.int .u8) 5 1 HS
   exact rt
mutual
def aG.l0:Nat→(List (List Int))→Int→Int→Option (List Int)
 |0,_,_,_=>none
 |k+1,a0,x2,x3=>(if x3<(a0.length:Int) then (if 0≤x3∧x3<(a0.length:Int) then (if (w64 (x2+((a0.getD x3.toNat []).length:Int)))<0 then none else (aG.l0 k a0 (w64 (x2+((a0.getD x3.toNat []).length:Int))) (w64 (x3+1)))) else none) else ((cH.f x2).bind fun t17=>(aG.l1 k a0 0 t17)))
def aG.l1:Nat→(List (List Int))→Int→(List Int)→Option (List Int)
 |0,_,_,_=>none
 |k+1,a0,x20,x23=>(if x20<(a0.length:Int) then (if 0≤x20∧x20<(a0.length:Int) then (if (x23.length:Int)+(a0.getD x20.toNat []).length≤1099511627776 then (aG.l1 k a0 (w64 (x20+1)) (x23++(a0.getD x20.toNat []))) else none) else none) else some x23)
end
def aG.f (k:Nat) (a0:List (List Int)):Option (List Int):=(aG.l0 k a0 0 0)
theorem aG.calls (H:aG.f k a0=some r) (HS:St [R] w0 w) (hr0:rdC R 1 (.slice sa0 a0.length sc0) a0.length sd0) (ht0:∀h,R h→tie (El.sl (El.int .u8)) sd0 a0 h):Calls Tryz.prog 187 #[vs sa0 a0.length sc0] w (Ret fun u w=>∃aq0 cq0,u=vs aq0 r.length cq0∧St [rB aq0 cq0 r,R] w0 w):=by
 refine calls_enter func187 Z Z ?_
 have HS:=St.more 0 HS rfl ht0 tie.pers
 refine go ?_
 refine V.lj (σ:=Int × Int) [0,9,10] (fun kq (x2,x3) w=>St [tie (El.sl (El.int .u8)) sd0 a0,R] w0 w∧aG.l0 kq a0 x2 x3=some r∧kq≤k) (fun (x2,x3)=>[(3,vi x2),(11,vi x3)]) (_,_) ⟨HS,H,Nat.le_refl _⟩ ?_
 rintro kq4 ⟨x2,x3⟩ w ⟨HS,H,_⟩
 cases kq4 with
 |zero=>exact absurd H (by simp [aG.l0])
 |succ kq4=>
  simp only [aG.l0] at H
  refine go ?_
  refine V.cd H Z (fun _ H=>go ?_) (fun _ H=>go ?_)
  ·obtain ⟨c7,H⟩:=ite_n H
   obtain ⟨_,_,hh⟩:=(rdC.at 1 hr0 HS rfl).some (by decide) c7.1 c7.2;subst hh
   refine go ?_
   obtain ⟨_,hc11,HS⟩:=St.tie_at 0 HS rfl ([]) c7.1 c7.2
   obtain ⟨_,_,he15,HN⟩:=St.sl_openF (Value.int .u8) (fun t=>tie_int t) HS;clear HS;subst he15;have HS:=HN
   refine W.r (X.load underlying48 Z Z ((rdC.at 2 hr0 HS Z).cellEl0 (hc11 0 _ Z))) Z (go ?_)
   refine V.cd H Z (fun _ H=>?_) (fun _ H=>go ?_)
   ·exact nomatch H
   ·have HS:=HS.ke [1,1]
    exact At.rn (_,_) ⟨HS,H,by omega⟩
  ·refine W.kl H func237 (fun _ h=>cH.calls h HS.j0) ?_
   rintro _ _ w H ⟨_,_,rfl,HS⟩
   have HS:=HS.o1
   refine go ?_
   refine V.lj (σ:=Int × Option Addr × Nat × List Int) [25,26] (fun kq (x20,ra21,rc22,x23) w=>St [rB ra21 rc22 x23,tie (El.sl (El.int .u8)) sd0 a0,R] w0 w∧aG.l1 kq a0 x20 x23=some r∧kq≤kq4) (fun (x20,ra21,rc22,x23)=>[(6,vs ra21 x23.length rc22),(27,vi x20)]) (_,_,_,_) ⟨HS,H,Nat.le_refl _⟩ ?_
   rintro kq24 ⟨x20,ra21,rc22,x23⟩ w ⟨HS,H,_⟩
   cases kq24 with
   |zero=>exact absurd H (by simp [aG.l1])
   |succ kq24=>
    simp only [aG.l1] at H
    refine go ?_
    refine V.cd H Z (fun _ H=>go ?_) (fun _ H=>go ?_)
    ·obtain ⟨c27,H⟩:=ite_n H
     obtain ⟨_,_,hh⟩:=(rdC.at 2 hr0 HS rfl).some (by decide) c27.1 c27.2;subst hh
     refine go ?_
     obtain ⟨_,hc31,HS⟩:=St.tie_at 1 HS rfl ([]) c27.1 c27.2
     obtain ⟨_,_,he35,HN⟩:=St.sl_openF (Value.int .u8) (fun t=>tie_int t) HS;clear HS;subst he35;have HS:=HN
     refine W.r (X.load underlying48 Z Z ((rdC.at 3 hr0 HS Z).cellEl0 (hc31 0 _ Z))) Z (go ?_)
     obtain ⟨_,H⟩:=ite_n H
     refine W.e (Y.appF (Value.int .u8) (fun _=>Z) 1 underlying48 ap5 Z HS Z Z Z (rdC.at 0 fsl.rd HS Z) (by omega) (by omega)) Z ?_
     rintro _ w ⟨_,_,rfl,HS⟩
     refine go ?_
     have HS:=HS.ke [1,1,1]
     exact At.rn (_,_,_,_) ⟨HS,H,by omega⟩
    ·have HS:=HS.ke [0,1]
     exact rt
def fh.f (k:Nat) (a0:List Int) (a1:Bool):Option (List Int):=((cg.f k a0 a1).bind fun t1=>((aG.f k ([a0,t1]:List (List Int))).bind fun t6=>some t6))
theorem fh.calls (H:fh.f k a0 a1=some r) (HS:St [fB sa0 sc0 a0,R] w0 w):Calls Tryz.prog 227 #[vs sa0 a0.length sc0,vb a1] w (Ret fun u w=>∃aq0 cq0,u=vs aq0 r.length cq0∧St [rB aq0 cq0 r,R] w0 w):=by
 refine calls_enter func227 Z Z (go ?_)
 refine W.kl H func267 (fun _ h=>cg.calls h HS.j0 (rdC.part 0 fsl.rd Z)) ?_
 rintro t1 _ w H ⟨at1_0,ct1_0,rfl,HS⟩
 have HS:=St.row_freeze HS.o1
 refine W.e (Y.lc (e:=48) (sz:=1) [vs sa0 a0.length sc0,vs at1_0 t1.length ct1_0] HS Z Z (fun _=>by kernel_rfl)) Z ?_
 rintro _ w ⟨_,rfl,HS⟩
 have HS:=St.tie_cons (((St.sl_close (E:=(El.int .u8)) (St.swap (St.put (A:=tie (El.int .u8) (a0.map (Value.int .u8)) a0) (fun _=>int_tie) ((St.tie_cons (((St.sl_close (E:=(El.int .u8)) (St.swap (St.put (A:=tie (El.int .u8) (t1.map (Value.int .u8)) t1) (fun _=>int_tie) ((St.put (A:=tie (El.sl (El.int .u8)) ([]) (([]:List (List Int)))) (fun _=>tie.nil) HS).more 2 rfl (fun _ t=>t) fsl.pers)))).fr 1).fr 1)).more 3 rfl (fun _ t=>t) fsl.pers)))).fr 1).fr 1)
 refine W.kl H func187 (fun _ h=>aG.calls h HS.j0 (rdC.part 1 row_rd Z) (fun h hh=>let ⟨_,l,t⟩:=Sp.has 0 hh Z;tie.mono t l)) ?_
 rintro _ _ w H ⟨_,_,rfl,HS⟩
 have HS:=HS.o1
 refine go ?_
 have HS:=HS.ke [0,4]
 exact rt
def eS.f (k:Nat) (a0:Bool):Option Int:=((fh.f k ([]:List Int) a0).bind fun t1=>some (t1.length:Int))
theorem eS.calls (H:eS.f k a0=some r) (HS:St [R] w0 w):Calls Tryz.prog 169 #[vb a0] w (Ret fun u w=>u=vi r∧St [R] w0 w):=by
 refine calls_enter func169 Z Z (go ?_)
 have HS:=(St.row_freeze (row_nilF (Value.int .u8) 5 1 HS)).more 0 rfl (fun _ t=>t) fsl.pers
 refine W.kl H func227 (fun _ h=>fh.calls h HS.j1) ?_
 rintro _ _ w H ⟨_,_,rfl,HS⟩
 have HS:=HS.o1
 refine go ?_
 have HS:=HS.ke [2]
 exact rt
structure az where
 wide:Bool
 most:Int
 state:Int
 b:List Int
deriving DecidableEq,Inhabited
abbrev az.Q (b:Nat) (l0:Bool) (l1 l2:Int) (l3:List Int) (a3:Option Addr) (c3:Nat) (L:List As):List As:=blk b (#[vb l0,vi l1,vi l2,vs a3 l3.length c3]) 202::row 5 1 (.slice a3 l3.length c3) l3.length (l3.map (Value.int .u8))::L
abbrev az.P (b:Nat) (x:az) (a3:Option Addr) (c3:Nat) (L:List As):List As:=az.Q b x.wide x.most x.state x.b a3 c3 L
def az.at (b:Nat) (x:az):As:=fun h=>True∧∃a3:Option Addr,∃c3:Nat,Sp (az.P b x a3 c3 []) h
theorem az.open {b:Nat} {x:az} {L:List As} {w0 w:World} (hs:Sep.St (az.at b x::L) w0 w):∃a3:Option Addr,∃c3:Nat,True∧Sep.St (az.P b x a3 c3 L) w0 w:=by
 obtain ⟨ho,ht,hu,h,hon,h1,h2,hd,e1,e2,⟨hi,a3,c3,hA⟩,hl⟩:=hs
 exact ⟨a3,c3,hi,St.open (m:=az.P b x a3 c3 []) ⟨ho,ht,hu,h,hon,h1,h2,hd,e1,e2,hA,hl⟩⟩
theorem az.close {b:Nat} {l0:Bool} {l1 l2:Int} {l3:List Int} {a3:Option Addr} {c3:Nat} {L:List As} {w0 w:World} (hi:True) (hs:Sep.St (az.Q b l0 l1 l2 l3 a3 c3 L) w0 w):Sep.St (az.at b ({wide:=l0,most:=l1,state:=l2,b:=l3}:az)::L) w0 w:=by
 have h2:=St.join (m:=az.Q b l0 l1 l2 l3 a3 c3 []) hs
 exact h2.mono fun h hh=>⟨hi,_,_,hh⟩
def dP.f (k:Nat) (a0:Int) (a1:Bool):Option az:=((eS.f k a1).bind fun t1=>some (({wide:=a1,most:=w64 ((imax (1) (imin a0 (65536)))+t1),state:=0,b:=([]:List Int)}:az)))
theorem dP.calls (H:dP.f k a0 a1=some r) (HS:St [R] w0 w):Calls Tryz.prog 105 #[vi a0,vb a1] w (Ret fun u w=>∃bq0,u=pt bq0∧St [az.at bq0 r,R] w0 w):=by
 refine calls_enter func105 Z Z (go ?_)
 refine W.kl H func169 (fun _ h=>eS.calls h HS.j0) ?_
 rintro t1 _ w H ⟨rfl,HS⟩
 have HS:=HS.o0
 refine go ?_
 refine W.r (X.bd (Value.agg #[vb a1,vi (w64 ((imax (1) (imin a0 (65536)))+t1)),vi (0),vs none 0 0]) Z (fun _=>by kernel_rfl)) Z ?_
 refine W.e (Y.box HS Z) Z ?_
 rintro _ w ⟨_,rfl,HS⟩
 refine go ?_
 have HS:=az.close (l3:=([]:List Int)) tv ((row_nilF (Value.int .u8) 5 1 HS).b [1])
 exact rt
def df.f (a0:Int) (a1:Int) (a2:Int):Option Int:=some (imax a1 (imin a0 a2))
theorem df.calls (H:df.f a0 a1 a2=some r) (HS:St [R] w0 w):Calls Tryz.prog 170 #[vi a0,vi a1,vi a2] w (Ret fun u w=>u=vi r∧St [R] w0 w):=by
 refine calls_enter func170 Z Z (go ?_)
 exact rt
def fu.f (a0:Int) (a1:Int) (a2:Int):Option Int:=some (imax a1 (imin a0 a2))
theorem fu.calls (H:fu.f a0 a1 a2=some r) (HS:St [R] w0 w):Calls Tryz.prog 228 #[vi a0,vi a1,vi a2] w (Ret fun u w=>u=vi r∧St [R] w0 w):=by
 refine calls_enter func228 Z Z (go ?_)
 exact rt
structure aP where
 l:List Bool
 at_:Int
 kept:Int
 sum:(Nat × Nat)
deriving DecidableEq,Inhabited
abbrev aP.Q (b:Nat) (l0:List Bool) (l1 l2:Int) (l3:(Nat × Nat)) (a0:Option Addr) (c0:Nat) (L:List As):List As:=blk b (#[vs a0 l0.length c0,vi l1,vi l2,Value.complex .f64 l3.1 l3.2]) 256::row 4 1 (.slice a0 l0.length c0) l0.length (l0.map Value.bool)::L
abbrev aP.P (b:Nat) (x:aP) (a0:Option Addr) (c0:Nat) (L:List As):List As:=aP.Q b x.l x.at_ x.kept x.sum a0 c0 L
def aP.at (b:Nat) (x:aP):As:=fun h=>True∧∃a0:Option Addr,∃c0:Nat,Sp (aP.P b x a0 c0 []) h
theorem aP.open {b:Nat} {x:aP} {L:List As} {w0 w:World} (hs:Sep.St (aP.at b x::L) w0 w):∃a0:Option Addr,∃c0:Nat,True∧Sep.St (aP.P b x a0 c0 L) w0 w:=by
 obtain ⟨ho,ht,hu,h,hon,h1,h2,hd,e1,e2,⟨hi,a0,c0,hA⟩,hl⟩:=hs
 exact ⟨a0,c0,hi,St.open (m:=aP.P b x a0 c0 []) ⟨ho,ht,hu,h,hon,h1,h2,hd,e1,e2,hA,hl⟩⟩
theorem aP.close {b:Nat} {l0:List Bool} {l1 l2:Int} {l3:(Nat × Nat)} {a0:Option Addr} {c0:Nat} {L:List As} {w0 w:World} (hi:True) (hs:Sep.St (aP.Q b l0 l1 l2 l3 a0 c0 L) w0 w):Sep.St (aP.at b ({l:=l0,at_:=l1,kept:=l2,sum:=l3}:aP)::L) w0 w:=by
 have h2:=St.join (m:=aP.Q b l0 l1 l2 l3 a0 c0 []) hs
 exact h2.mono fun h hh=>⟨hi,_,_,hh⟩
def fm.f (a0:Int):Option aP:=((fu.f a0 1 1000).bind fun t1=>(if 0≤t1∧t1≤1099511627776 then some (({l:=List.replicate t1.toNat false,at_:=0,kept:=0,sum:=((0,0):Nat × Nat)}:aP)) else none))
theorem fm.calls (H:fm.f a0=some r) (HS:St [R] w0 w):Calls Tryz.prog 171 #[vi a0] w (Ret fun u w=>∃bq0,u=pt bq0∧St [aP.at bq0 r,R] w0 w):=by
 refine calls_enter func171 Z Z (go ?_)
 refine W.kl H func228 (fun _ h=>fu.calls h HS.j0) ?_
 rintro t1 _ w H ⟨rfl,HS⟩
 have HS:=HS.o0
 obtain ⟨c3,H⟩:=ite_n H
 refine W.e (Y.makeSl (g:=Value.bool) (N:=t1) false underlying172 ap4 Z HS Z Z c3 (by decide)) Z ?_
 rintro _ w ⟨ra4,rc5,rfl,HS⟩
 refine W.r (X.bd (Value.agg #[vs ra4 (List.replicate t1.toNat false).length rc5,vi (0),vi (0),Value.complex .f64 (((0,0):Nat × Nat)).1 (((0,0):Nat × Nat)).2]) Z (fun _=>by kernel_rfl)) Z (W.e (Y.box HS Z) Z ?_)
 rintro _ w ⟨_,rfl,HS⟩
 refine go ?_
 have HS:=aP.close tv HS
 exact rt
structure ap where
 bad:Int
 good:Int
 silent:Int
 w:aP
 row:Int
 silence:Int
 state:Int
deriving DecidableEq,Inhabited
abbrev ap.Q (b:Nat) (l0 l1 l2:Int) (l3:aP) (l4 l5 l6:Int) (b3:Nat) (L:List As):List As:=blk b (#[vi l0,vi l1,vi l2,pt b3,vi l4,vi l5,vi l6]) 171::aP.at b3 l3::L
abbrev ap.P (b:Nat) (x:ap) (b3:Nat) (L:List As):List As:=ap.Q b x.bad x.good x.silent x.w x.row x.silence x.state b3 L
def ap.at (b:Nat) (x:ap):As:=fun h=>True∧∃b3:Nat,Sp (ap.P b x b3 []) h
theorem ap.open {b:Nat} {x:ap} {L:List As} {w0 w:World} (hs:Sep.St (ap.at b x::L) w0 w):∃b3:Nat,True∧Sep.St (ap.P b x b3 L) w0 w:=by
 obtain ⟨ho,ht,hu,h,hon,h1,h2,hd,e1,e2,⟨hi,b3,hA⟩,hl⟩:=hs
 exact ⟨b3,hi,St.open (m:=ap.P b x b3 []) ⟨ho,ht,hu,h,hon,h1,h2,hd,e1,e2,hA,hl⟩⟩
theorem ap.close {b:Nat} {l0 l1 l2:Int} {l3:aP} {l4 l5 l6:Int} {b3:Nat} {L:List As} {w0 w:World} (hi:True) (hs:Sep.St (ap.Q b l0 l1 l2 l3 l4 l5 l6 b3 L) w0 w):Sep.St (ap.at b ({bad:=l0,good:=l1,silent:=l2,w:=l3,row:=l4,silence:=l5,state:=l6}:ap)::L) w0 w:=by
 have h2:=St.join (m:=ap.Q b l0 l1 l2 l3 l4 l5 l6 b3 []) hs
 exact h2.mono fun h hh=>⟨hi,_,hh⟩
def dD.f (a0:Int) (a1:Int) (a2:Int):Option ap:=((df.f a0 1 16).bind fun t1=>((df.f a1 1 16).bind fun t3=>((df.f a2 1 1073741824).bind fun t5=>((fm.f 16).bind fun t7=>some ({bad:=t1,good:=t3,silent:=t5,w:=t7,row:=0,silence:=0,state:=0}:ap)))))
theorem dD.calls (H:dD.f a0 a1 a2=some r) (HS:St [R] w0 w):Calls Tryz.prog 106 #[vi a0,vi a1,vi a2] w (Ret fun u w=>∃bq0,u=pt bq0∧St [ap.at bq0 r,R] w0 w):=by
 refine calls_enter func106 Z Z (go ?_)
 refine W.kl H func170 (fun _ h=>df.calls h HS.j0) ?_
 rintro t1 _ w H ⟨rfl,HS⟩
 have HS:=HS.o0
 refine go ?_
 refine W.kl H func170 (fun _ h=>df.calls h HS.j0) ?_
 rintro t3 _ w H ⟨rfl,HS⟩
 have HS:=HS.o0
 refine go ?_
 refine W.kl H func170 (fun _ h=>df.calls h HS.j0) ?_
 rintro t5 _ w H ⟨rfl,HS⟩
 have HS:=HS.o0
 refine W.kl H func171 (fun _ h=>fm.calls h HS.j0) ?_
 rintro _ _ w H ⟨bt7_0,rfl,HS⟩
 have HS:=HS.o1
 refine W.r (X.bd (Value.agg #[vi t1,vi t3,vi t5,pt bt7_0,vi (0),vi (0),vi (0)]) Z (fun _=>by kernel_rfl)) Z (W.e (Y.box HS Z) Z ?_)
 rintro _ w ⟨_,rfl,HS⟩
 refine go ?_
 have HS:=ap.close tv HS
 exact rt
structure aJ where
 room:Int
 b:List Int
 begun:Int
 pieces:List Int
 dropped:Int
deriving DecidableEq,Inhabited
abbrev aJ.Q (b:Nat) (l0:Int) (l1:List Int) (l2:Int) (l3:List Int) (l4:Int) (a1:Option Addr) (c1:Nat) (a3:Option Addr) (c3:Nat) (L:List As):List As:=blk b (#[vi l0,vs a1 l1.length c1,vi l2,vs a3 l3.length c3,vi l4]) 195::row 5 1 (.slice a1 l1.length c1) l1.length (l1.map (Value.int .u8))::row 3 1 (.slice a3 l3.length c3) l3.length (l3.map (Value.int .i64))::L
abbrev aJ.P (b:Nat) (x:aJ) (a1:Option Addr) (c1:Nat) (a3:Option Addr) (c3:Nat) (L:List As):List As:=aJ.Q b x.room x.b x.begun x.pieces x.dropped a1 c1 a3 c3 L
def aJ.at (b:Nat) (x:aJ):As:=fun h=>True∧∃a1:Option Addr,∃c1:Nat,∃a3:Option Addr,∃c3:Nat,Sp (aJ.P b x a1 c1 a3 c3 []) h
theorem aJ.open {b:Nat} {x:aJ} {L:List As} {w0 w:World} (hs:Sep.St (aJ.at b x::L) w0 w):∃a1:Option Addr,∃c1:Nat,∃a3:Option Addr,∃c3:Nat,True∧Sep.St (aJ.P b x a1 c1 a3 c3 L) w0 w:=by
 obtain ⟨ho,ht,hu,h,hon,h1,h2,hd,e1,e2,⟨hi,a1,c1,a3,c3,hA⟩,hl⟩:=hs
 exact ⟨a1,c1,a3,c3,hi,St.open (m:=aJ.P b x a1 c1 a3 c3 []) ⟨ho,ht,hu,h,hon,h1,h2,hd,e1,e2,hA,hl⟩⟩
theorem aJ.close {b:Nat} {l0:Int} {l1:List Int} {l2:Int} {l3:List Int} {l4:Int} {a1:Option Addr} {c1:Nat} {a3:Option Addr} {c3:Nat} {L:List As} {w0 w:World} (hi:True) (hs:Sep.St (aJ.Q b l0 l1 l2 l3 l4 a1 c1 a3 c3 L) w0 w):Sep.St (aJ.at b ({room:=l0,b:=l1,begun:=l2,pieces:=l3,dropped:=l4}:aJ)::L) w0 w:=by
 have h2:=St.join (m:=aJ.Q b l0 l1 l2 l3 l4 a1 c1 a3 c3 []) hs
 exact h2.mono fun h hh=>⟨hi,_,_,_,_,hh⟩
def eN.f (a0:Int):Option aJ:=some (({room:=imax (0) (imin a0 (1048576)),b:=([]:List Int),begun:=0,pieces:=([]:List Int),dropped:=0}:aJ))
theorem eN.calls (H:eN.f a0=some r) (HS:St [R] w0 w):Calls Tryz.prog 107 #[vi a0] w (Ret fun u w=>∃bq0,u=pt bq0∧St [aJ.at bq0 r,R] w0 w):=by
 refine calls_enter func107 Z Z (go ?_)
 refine W.r (X.bd (Value.agg #[vi (imax (0) (imin a0 (1048576))),vs none 0 0,vi (0),vs none 0 0,vi (0)]) Z (fun _=>by kernel_rfl)) Z ?_
 refine W.e (Y.box HS Z) Z ?_
 rintro _ w ⟨_,rfl,HS⟩
 refine go ?_
 have HS:=aJ.close (l1:=([]:List Int)) (l3:=([]:List Int)) tv ((row_nilF (Value.int .i64) 3 1 (row_nilF (Value.int .u8) 5 1 HS)).b [2,1])
 exact rt
structure aM where
 Good:Int
 Bad:Int
 Aborts:Int
 Runts:Int
 Giants:Int
 Dropped:Int
 Twins:Int
deriving DecidableEq,Inhabited
structure aU where
 reader:az
 monitor:ap
 ring:aJ
 counts:aM
deriving DecidableEq,Inhabited
structure aa where
 c:aw
 arq:ae
 aps:aH
 twins:aK
 number:Int
 steps:Int
 line:Int
 sides:(aU × aU)
deriving DecidableEq,Inhabited
abbrev aa.Q (b:Nat) (l0 l1 l2 l3 l4 l5 l6 l7 l8 l9 l10 l11 l12 l13:Int) (l14 l15:Bool) (l16:ae) (l17:aH) (l18:aK) (l19 l20 l21:Int) (l22:az) (l23:ap) (l24:aJ) (l25 l26 l27 l28 l29 l30 l31:Int) (l32:az) (l33:ap) (l34:aJ) (l35 l36 l37 l38 l39 l40 l41:Int) (b16 b17 b18 b22 b23 b24 b32 b33 b34:Nat) (L:List As):List As:=blk b (#[vi l0,vi l1,vi l2,vi l3,vi l4,vi l5,vi l6,vi l7,vi l8,vi l9,vi l10,vi l11,vi l12,vi l13,vb l14,vb l15,pt b16,pt b17,pt b18,Value.int .u32 l19,vi l20,vi l21,pt b22,pt b23,pt b24,vi l25,vi l26,vi l27,vi l28,vi l29,vi l30,vi l31,pt b32,pt b33,pt b34,vi l35,vi l36,vi l37,vi l38,vi l39,vi l40,vi l41]) 103::ae.at b16 l16::aH.at b17 l17::aK.at b18 l18::az.at b22 l22::ap.at b23 l23::aJ.at b24 l24::az.at b32 l32::ap.at b33 l33::aJ.at b34 l34::L
abbrev aa.P (b:Nat) (x:aa) (b16 b17 b18 b22 b23 b24 b32 b33 b34:Nat) (L:List As):List As:=aa.Q b x.c.Mode x.c.Modulus x.c.Window x.c.T1 x.c.N2 x.c.Hold x.c.Wait x.c.Keep x.c.Queue x.c.Size x.c.Ring x.c.Rate x.c.Bad x.c.Good x.c.Revert x.c.Wide x.arq x.aps x.twins x.number x.steps x.line x.sides.1.reader x.sides.1.monitor x.sides.1.ring x.sides.1.counts.Good x.sides.1.counts.Bad x.sides.1.counts.Aborts x.sides.1.counts.Runts x.sides.1.counts.Giants x.sides.1.counts.Dropped x.sides.1.counts.Twins x.sides.2.reader x.sides.2.monitor x.sides.2.ring x.sides.2.counts.Good x.sides.2.counts.Bad x.sides.2.counts.Aborts x.sides.2.counts.Runts x.sides.2.counts.Giants x.sides.2.counts.Dropped x.sides.2.counts.Twins b16 b17 b18 b22 b23 b24 b32 b33 b34 L
def aa.at (b:Nat) (x:aa):As:=fun h=>True∧∃b16:Nat,∃b17:Nat,∃b18:Nat,∃b22:Nat,∃b23:Nat,∃b24:Nat,∃b32:Nat,∃b33:Nat,∃b34:Nat,Sp (aa.P b x b16 b17 b18 b22 b23 b24 b32 b33 b34 []) h
theorem aa.open {b:Nat} {x:aa} {L:List As} {w0 w:World} (hs:Sep.St (aa.at b x::L) w0 w):∃b16:Nat,∃b17:Nat,∃b18:Nat,∃b22:Nat,∃b23:Nat,∃b24:Nat,∃b32:Nat,∃b33:Nat,∃b34:Nat,True∧Sep.St (aa.P b x b16 b17 b18 b22 b23 b24 b32 b33 b34 L) w0 w:=by
 obtain ⟨ho,ht,hu,h,hon,h1,h2,hd,e1,e2,⟨hi,b16,b17,b18,b22,b23,b24,b32,b33,b34,hA⟩,hl⟩:=hs
 exact ⟨b16,b17,b18,b22,b23,b24,b32,b33,b34,hi,St.open (m:=aa.P b x b16 b17 b18 b22 b23 b24 b32 b33 b34 []) ⟨ho,ht,hu,h,hon,h1,h2,hd,e1,e2,hA,hl⟩⟩
theorem aa.close {b:Nat} {l0 l1 l2 l3 l4 l5 l6 l7 l8 l9 l10 l11 l12 l13:Int} {l14 l15:Bool} {l16:ae} {l17:aH} {l18:aK} {l19 l20 l21:Int} {l22:az} {l23:ap} {l24:aJ} {l25 l26 l27 l28 l29 l30 l31:Int} {l32:az} {l33:ap} {l34:aJ} {l35 l36 l37 l38 l39 l40 l41:Int} {b16 b17 b18 b22 b23 b24 b32 b33 b34:Nat} {L:List As} {w0 w:World} (hi:True) (hs:Sep.St (aa.Q b l0 l1 l2 l3 l4 l5 l6 l7 l8 l9 l10 l11 l12 l13 l14 l15 l16 l17 l18 l19 l20 l21 l22 l23 l24 l25 l26 l27 l28 l29 l30 l31 l32 l33 l34 l35 l36 l37 l38 l39 l40 l41 b16 b17 b18 b22 b23 b24 b32 b33 b34 L) w0 w):Sep.St (aa.at b ({c:=({Mode:=l0,Modulus:=l1,Window:=l2,T1:=l3,N2:=l4,Hold:=l5,Wait:=l6,Keep:=l7,Queue:=l8,Size:=l9,Ring:=l10,Rate:=l11,Bad:=l12,Good:=l13,Revert:=l14,Wide:=l15}:aw),arq:=l16,aps:=l17,twins:=l18,number:=l19,steps:=l20,line:=l21,sides:=(({reader:=l22,monitor:=l23,ring:=l24,counts:=({Good:=l25,Bad:=l26,Aborts:=l27,Runts:=l28,Giants:=l29,Dropped:=l30,Twins:=l31}:aM)}:aU),({reader:=l32,monitor:=l33,ring:=l34,counts:=({Good:=l35,Bad:=l36,Aborts:=l37,Runts:=l38,Giants:=l39,Dropped:=l40,Twins:=l41}:aM)}:aU))}:aa)::L) w0 w:=by
 have h2:=St.join (m:=aa.Q b l0 l1 l2 l3 l4 l5 l6 l7 l8 l9 l10 l11 l12 l13 l14 l15 l16 l17 l18 l19 l20 l21 l22 l23 l24 l25 l26 l27 l28 l29 l30 l31 l32 l33 l34 l35 l36 l37 l38 l39 l40 l41 b16 b17 b18 b22 b23 b24 b32 b33 b34 []) hs
 exact h2.mono fun h hh=>⟨hi,_,_,_,_,_,_,_,_,_,hh⟩
def dk.f (k:Nat) (a0:aw):Option (Option aa × Int):=((ba.f a0).bind fun t3=>(if t3=0 then ((eB.f a0).bind fun t6=>((fq.f a0.Hold a0.Wait a0.Revert).bind fun t8=>((eZ.f (imin (w64 (a0.Modulus.tdiv (2))) (1024))).bind fun t10=>((dP.f k (w64 (a0.Size+11)) a0.Wide).bind fun t17=>((dD.f a0.Bad a0.Good (w64 (3*a0.Keep))).bind fun t19=>((eN.f a0.Ring).bind fun t21=>((dP.f k (w64 (a0.Size+11)) a0.Wide).bind fun t26=>((dD.f a0.Bad a0.Good (w64 (3*a0.Keep))).bind fun t28=>((eN.f a0.Ring).bind fun t30=>some (some ({c:=a0,arq:=t6,aps:=t8,twins:=t10,number:=0,steps:=0,line:=0,sides:=(({reader:=t17,monitor:=t19,ring:=t21,counts:=({Good:=0,Bad:=0,Aborts:=0,Runts:=0,Giants:=0,Dropped:=0,Twins:=0}:aM)}:aU),({reader:=t26,monitor:=t28,ring:=t30,counts:=({Good:=0,Bad:=0,Aborts:=0,Runts:=0,Giants:=0,Dropped:=0,Twins:=0}:aM)}:aU))}:aa),0)))))))))) else some (none,t3)))
theorem dk.calls (H:dk.f k a0=some r) (HS:St [R] w0 w):Calls Tryz.prog 46 #[Value.agg #[vi a0.Mode,vi a0.Modulus,vi a0.Window,vi a0.T1,vi a0.N2,vi a0.Hold,vi a0.Wait,vi a0.Keep,vi a0.Queue,vi a0.Size,vi a0.Ring,vi a0.Rate,vi a0.Bad,vi a0.Good,vb a0.Revert,vb a0.Wide]] w (Ret fun u w=>∃bq0,u=Value.tuple #[optv bq0 r.1,vi r.2]∧St [optAt aa.at bq0 r.1,R] w0 w):=by
 refine calls_enter func46 Z Z (go ?_)
 refine W.e (Y.box HS Z) Z ?_
 rintro _ w ⟨nb1,rfl,HS⟩
 refine go ?_
 refine W.kl H func101 (fun _ h=>ba.calls h HS.j0) ?_
 rintro _ _ w H ⟨rfl,HS⟩
 have HS:=HS.o0
 refine go ?_
 refine V.cm H Z (fun _ H=>go ?_) (fun _ H=>go ?_)
 ·apply V.da [2,9,14,16] [15,17] [(12,_),(13,_),(15,_),(16,_),(17,_),(18,_),(19,_),(20,_),(22,_),(23,_),(24,_),(25,_)] mo HS
  rfl
  refine T.e [13] [15,17] [1] (fun w HS=>?_) ⟨rd,rd,rd,rd,rd,rd,rd,rd,rd,rd,.n1 23 Z Z (fun w HS=>X.quo Z Z (by decide)),.n1 24 Z Z (fun w HS=>X.min2 Z Z),rds⟩
  refine Y.kl H func102 (fun _ h=>eB.calls h HS.j0) ?_
  rintro _ _ w H ⟨bt6_0,rfl,HS⟩
  have HS:=HS.o1
  refine T.nw HS ?_
  refine T.e [16,18,20] [15,17] [3,4,5,6,7,8] (fun w HS=>?_) ⟨rd,rd,rd,rd,rd,rd,rd,rd,rd,.n1 23 Z Z (fun w HS=>X.quo Z Z (by decide)),.n1 24 Z Z (fun w HS=>X.min2 Z Z),rds⟩
  refine Y.kl H func103 (fun _ h=>fq.calls h HS.j0) ?_
  rintro _ _ w H ⟨bt8_0,rfl,HS⟩
  have HS:=HS.o1
  refine T.nw HS ?_
  refine T.e [25] [17] [10,11,12,13] (fun w HS=>?_) ⟨rd,rd,rd,.n1 23 Z Z (fun w HS=>X.quo Z Z (by decide)),.n1 24 Z Z (fun w HS=>X.min2 Z Z),rds⟩
  refine Y.kl H func104 (fun _ h=>eZ.calls h HS.j0) ?_
  rintro _ _ w H ⟨bt10_0,rfl,HS⟩
  have HS:=HS.o1
  apply T.na [(26,_),(27,_)] HS
  exact nmk
  refine T.e [27] [] [0,15] (fun w HS=>?_) ⟨rd,.ns [(12,_),(14,_),(21,_),(26,_)] ⟨Z,Z,Z,Z,tv⟩ Z (fun w HS=>X.bd (Value.agg #[vi a0.Mode,vi a0.Modulus,vi a0.Window,vi a0.T1,vi a0.N2,vi a0.Hold,vi a0.Wait,vi a0.Keep,vi a0.Queue,vi a0.Size,vi a0.Ring,vi a0.Rate,vi a0.Bad,vi a0.Good,vb a0.Revert,vb a0.Wide,pt bt6_0,pt bt8_0,pt bt10_0,Value.int .u32 (0),vi (0),vi (0),Value.pointer none,Value.pointer none,Value.pointer none,vi (0),vi (0),vi (0),vi (0),vi (0),vi (0),vi (0),Value.pointer none,Value.pointer none,Value.pointer none,vi (0),vi (0),vi (0),vi (0),vi (0),vi (0),vi (0)]) Z (fun _=>by kernel_rfl)),rds⟩
  refine ⟨_,Y.box HS Z,?_⟩
  rintro _ w ⟨nb12,rfl,HS⟩
  apply T.na [(28,_),(5,_)] HS
  exact nmk
  refine T.ff [1,5] fun w HS=>?_
  refine go ?_
  refine V.rs 2 [(1,pt nb1),(5,pt nb12),(29,vi (0))] (go ?_)
  apply V.da [7,15,18,23] [19,22] [(32,_),(33,_),(34,_),(35,_),(36,_),(37,_),(38,_),(40,_),(41,_),(42,_),(43,_),(44,_),(45,_),(46,_),(48,_),(49,_),(52,_),(53,_)] mo HS
  rfl
  refine T.e [36,38] [19,22] [2,3,4,5,6] fun w HS=>?_
  refine Y.kl H func105 (fun _ h=>dP.calls h HS.j0) ?_
  rintro _ _ w H ⟨bt17_0,rfl,HS⟩
  have HS:=HS.o1
  refine T.nw HS ?_
  refine T.e [41,43,46] [19,22] [8,9,10,11,12,13,14] fun w HS=>?_
  refine Y.kl H func106 (fun _ h=>dD.calls h HS.j0) ?_
  rintro _ _ w H ⟨bt19_0,rfl,HS⟩
  have HS:=HS.o1
  refine T.nw HS ?_
  refine T.e [49] [] [16,17] fun w HS=>?_
  refine Y.kl H func107 (fun _ h=>eN.calls h HS.j0) ?_
  rintro _ _ w H ⟨bt21_0,rfl,HS⟩
  have HS:=HS.o1
  apply T.na [(50,_),(51,_),(54,_)] HS
  exact nmk
  refine T.e [51,54] [] [0,1,19,20,21,22] (fun w HS=>?_) ⟨rd,rd,.ns [(39,_),(47,_),(50,_)] ⟨Z,Z,Z,tv⟩ Z (fun w HS=>X.bd (Value.agg #[pt bt17_0,pt bt19_0,pt bt21_0,vi (0),vi (0),vi (0),vi (0),vi (0),vi (0),vi (0)]) Z (fun _=>by kernel_rfl)),rds⟩
  refine ⟨_,Y.storeSt (c':=#[vi a0.Mode,vi a0.Modulus,vi a0.Window,vi a0.T1,vi a0.N2,vi a0.Hold,vi a0.Wait,vi a0.Keep,vi a0.Queue,vi a0.Size,vi a0.Ring,vi a0.Rate,vi a0.Bad,vi a0.Good,vb a0.Revert,vb a0.Wide,pt bt6_0,pt bt8_0,pt bt10_0,Value.int .u32 (0),vi (0),vi (0),pt bt17_0,pt bt19_0,pt bt21_0,vi (0),vi (0),vi (0),vi (0),vi (0),vi (0),vi (0),Value.pointer none,Value.pointer none,Value.pointer none,vi (0),vi (0),vi (0),vi (0),vi (0),vi (0),vi (0)]) 3 [pt bt17_0,pt bt19_0,pt bt21_0,vi (0),vi (0),vi (0),vi (0),vi (0),vi (0),vi (0)] HS Z inf100 Z Z Z Z Z Z,?_⟩
  rintro _ w HS
  refine T.nn HS ?_
  refine T.ff [1,5,29] fun w HS=>?_
  refine go ?_
  refine At.ow [(1,pt nb1),(5,pt nb12),(29,vi (1))] (go ?_)
  apply V.da [7,15,18,23] [19,22] [(32,_),(33,_),(34,_),(35,_),(36,_),(37,_),(38,_),(40,_),(41,_),(42,_),(43,_),(44,_),(45,_),(46,_),(48,_),(49,_),(52,_),(53,_)] mo HS
  rfl
  refine T.e [36,38] [19,22] [2,3,4,5,6] fun w HS=>?_
  refine Y.kl H func105 (fun _ h=>dP.calls h HS.j0) ?_
  rintro _ _ w H ⟨bt26_0,rfl,HS⟩
  have HS:=HS.o1
  refine T.nw HS ?_
  refine T.e [41,43,46] [19,22] [8,9,10,11,12,13,14] fun w HS=>?_
  refine Y.kl H func106 (fun _ h=>dD.calls h HS.j0) ?_
  rintro _ _ w H ⟨bt28_0,rfl,HS⟩
  have HS:=HS.o1
  refine T.nw HS ?_
  refine T.e [49] [] [16,17] fun w HS=>?_
  refine Y.kl H func107 (fun _ h=>eN.calls h HS.j0) ?_
  rintro _ _ w H ⟨bt30_0,rfl,HS⟩
  have HS:=HS.o1
  apply T.na [(50,_),(51,_),(54,_)] HS
  exact nmk
  refine T.e [51,54] [] [0,1,19,20,21,22] (fun w HS=>?_) ⟨rd,rd,.ns [(39,_),(47,_),(50,_)] ⟨Z,Z,Z,tv⟩ Z (fun w HS=>X.bd (Value.agg #[pt bt26_0,pt bt28_0,pt bt30_0,vi (0),vi (0),vi (0),vi (0),vi (0),vi (0),vi (0)]) Z (fun _=>by kernel_rfl)),rds⟩
  refine ⟨_,Y.storeSt (c':=#[vi a0.Mode,vi a0.Modulus,vi a0.Window,vi a0.T1,vi a0.N2,vi a0.Hold,vi a0.Wait,vi a0.Keep,vi a0.Queue,vi a0.Size,vi a0.Ring,vi a0.Rate,vi a0.Bad,vi a0.Good,vb a0.Revert,vb a0.Wide,pt bt6_0,pt bt8_0,pt bt10_0,Value.int .u32 (0),vi (0),vi (0),pt bt17_0,pt bt19_0,pt bt21_0,vi (0),vi (0),vi (0),vi (0),vi (0),vi (0),vi (0),pt bt26_0,pt bt28_0,pt bt30_0,vi (0),vi (0),vi (0),vi (0),vi (0),vi (0),vi (0)]) 6 [pt bt26_0,pt bt28_0,pt bt30_0,vi (0),vi (0),vi (0),vi (0),vi (0),vi (0),vi (0)] HS Z inf100 Z Z Z Z Z Z,?_⟩
  rintro _ w HS
  refine T.nn HS ?_
  refine T.ff [1,5,29] fun w HS=>?_
  refine go ?_
  refine At.ow [(1,pt nb1),(5,pt nb12),(29,vi (2))] (go ?_)
  have HS:=(aa.close tv (HS.b [6,8,7,6,5,4,3,2,1])).ke [0,1]
  exact rt
 ·have HS:=(HS.more (B:=optAt aa.at 0 none) 0 rfl (fun _ _=>tv) (fun _=>tv)).ke [0,1]
  exact rt
structure au where
 room:Int
 b:List Int
 cut:Bool
 stall:Bool
deriving DecidableEq,Inhabited
abbrev au.Q (b:Nat) (l0:Int) (l1:List Int) (l2 l3:Bool) (a1:Option Addr) (c1:Nat) (L:List As):List As:=blk b (#[vi l0,vs a1 l1.length c1,vb l2,vb l3]) 151::row 5 1 (.slice a1 l1.length c1) l1.length (l1.map (Value.int .u8))::L
abbrev au.P (b:Nat) (x:au) (a1:Option Addr) (c1:Nat) (L:List As):List As:=au.Q b x.room x.b x.cut x.stall a1 c1 L
def au.at (b:Nat) (x:au):As:=fun h=>True∧∃a1:Option Addr,∃c1:Nat,Sp (au.P b x a1 c1 []) h
theorem au.open {b:Nat} {x:au} {L:List As} {w0 w:World} (hs:Sep.St (au.at b x::L) w0 w):∃a1:Option Addr,∃c1:Nat,True∧Sep.St (au.P b x a1 c1 L) w0 w:=by
 obtain ⟨ho,ht,hu,h,hon,h1,h2,hd,e1,e2,⟨hi,a1,c1,hA⟩,hl⟩:=hs
 exact ⟨a1,c1,hi,St.open (m:=au.P b x a1 c1 []) ⟨ho,ht,hu,h,hon,h1,h2,hd,e1,e2,hA,hl⟩⟩
theorem au.close {b:Nat} {l0:Int} {l1:List Int} {l2 l3:Bool} {a1:Option Addr} {c1:Nat} {L:List As} {w0 w:World} (hi:True) (hs:Sep.St (au.Q b l0 l1 l2 l3 a1 c1 L) w0 w):Sep.St (au.at b ({room:=l0,b:=l1,cut:=l2,stall:=l3}:au)::L) w0 w:=by
 have h2:=St.join (m:=au.Q b l0 l1 l2 l3 a1 c1 []) hs
 exact h2.mono fun h hh=>⟨hi,_,_,hh⟩
def eM.f (a0:Int):Option au:=some (({room:=imax (0) (imin a0 (1048576)),b:=([]:List Int),cut:=false,stall:=false}:au))
theorem eM.calls (H:eM.f a0=some r) (HS:St [R] w0 w):Calls Tryz.prog 47 #[vi a0] w (Ret fun u w=>∃bq0,u=pt bq0∧St [au.at bq0 r,R] w0 w):=by
 refine calls_enter func47 Z Z (go ?_)
 refine W.r (X.bd (Value.agg #[vi (imax (0) (imin a0 (1048576))),vs none 0 0,vb false,vb false]) Z (fun _=>by kernel_rfl)) Z ?_
 refine W.e (Y.box HS Z) Z ?_
 rintro _ w ⟨_,rfl,HS⟩
 refine go ?_
 have HS:=au.close (l1:=([]:List Int)) tv ((row_nilF (Value.int .u8) 5 1 HS).b [1])
 exact rt
structure bL where
 pipe:au
 sent:List (List Int)
 got:List (List Int)
deriving DecidableEq,Inhabited
structure ah where
 c:aw
 stations:(aa × aa)
 ways:((bL × bL) × (bL × bL))
 now:Int
deriving DecidableEq,Inhabited
end Go.Proofs.YtaejcbpijdacmaaGreat
