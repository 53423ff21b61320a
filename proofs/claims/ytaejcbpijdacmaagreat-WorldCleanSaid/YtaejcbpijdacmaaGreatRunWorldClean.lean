/- WorldClean: the functions that its law reaches, as plain functions, and that the machine's calls come to what these say. Conditions: those that stand at each. -/
import Derived.Test.YtaejcbpijdacmaaGreatRunWorldCleanP7
set_option linter.all false
set_option maxRecDepth 100000
set_option maxHeartbeats 4000000
set_option synthInstance.maxSize 100000
set_option synthInstance.maxHeartbeats 1000000
namespace Go.Proofs.YtaejcbpijdacmaaGreat
open Go.RowKit Go.Proofs.YtaejcbpijdacmaaGreat.Sep Go.Proofs.YtaejcbpijdacmaaGreat.Walk Go.Proofs.Tryz
attribute [local irreducible] V W At T Code.rounds RdO RdOk
set_option autoImplicit true
set_option relaxedAutoImplicit true
mutual
def bi.j1 (x14:Bool):Option Bool:=(if x14=true then some false else some true)
def bi.j0 (k:Nat) (a0:ag) (x11:Bool):Option Bool:=(if x11=true then some false else ((aN.f k a0.heard.2 a0.said.1).bind fun t17=>(if t17=true then ((bj.f a0.W.stations.1).bind fun t24=>(bi.j1 (decide (t24.Acked>(a0.heard.2.length:Int))))) else (bi.j1 true))))
end
def bi.f (k:Nat) (a0:ag):Option Bool:=((aN.f k a0.heard.1 a0.said.2).bind fun t26=>(if t26=true then ((bj.f a0.W.stations.2).bind fun t33=>(bi.j0 k a0 (decide (t33.Acked>(a0.heard.1.length:Int))))) else (bi.j0 k a0 true)))
theorem bi.calls (H:bi.f k a0=some r) (HS:St [blk b0 (#[pt b0_p0,vs a1_p0 a0.said.1.length c1_p0,vs a2_p0 a0.said.2.length c2_p0,vs a3_p0 a0.heard.1.length c3_p0,vs a4_p0 a0.heard.2.length c4_p0,vi a0.Downs]) 57,ah.at b0_p0 a0.W,row 35 1 (.slice a1_p0 a0.said.1.length c1_p0) a0.said.1.length d1_p0,tie (El.sl (El.sl (El.int .u8))) d1_p0 a0.said.1,row 35 1 (.slice a2_p0 a0.said.2.length c2_p0) a0.said.2.length d2_p0,tie (El.sl (El.sl (El.int .u8))) d2_p0 a0.said.2,row 48 1 (.slice a3_p0 a0.heard.1.length c3_p0) a0.heard.1.length d3_p0,tie (El.sl (El.int .u8)) d3_p0 a0.heard.1,row 48 1 (.slice a4_p0 a0.heard.2.length c4_p0) a0.heard.2.length d4_p0,tie (El.sl (El.int .u8)) d4_p0 a0.heard.2,R] w0 w):Calls Tryz.prog 23 #[pt b0] w (Ret fun u w=>u=vb r∧St [blk b0 (#[pt b0_p0,vs a1_p0 a0.said.1.length c1_p0,vs a2_p0 a0.said.2.length c2_p0,vs a3_p0 a0.heard.1.length c3_p0,vs a4_p0 a0.heard.2.length c4_p0,vi a0.Downs]) 57,ah.at b0_p0 a0.W,row 35 1 (.slice a1_p0 a0.said.1.length c1_p0) a0.said.1.length d1_p0,tie (El.sl (El.sl (El.int .u8))) d1_p0 a0.said.1,row 35 1 (.slice a2_p0 a0.said.2.length c2_p0) a0.said.2.length d2_p0,tie (El.sl (El.sl (El.int .u8))) d2_p0 a0.said.2,row 48 1 (.slice a3_p0 a0.heard.1.length c3_p0) a0.heard.1.length d3_p0,tie (El.sl (El.int .u8)) d3_p0 a0.heard.1,row 48 1 (.slice a4_p0 a0.heard.2.length c4_p0) a0.heard.2.length d4_p0,tie (El.sl (El.int .u8)) d4_p0 a0.heard.2,R] w0 w):=by
 refine calls_enter func23 Z Z (go ?_)
 refine V.rs 2 [(0,pt b0),(3,vi (0))] ?_
 refine V.seq ?_
 refine V.seq ?_
 refine gs ?_
 refine V.seq ?_
 refine gs ?_
 refine V.mj (σ:=Bool) [0,3] (fun x11 w=>St [blk b0 (#[pt b0_p0,vs a1_p0 a0.said.1.length c1_p0,vs a2_p0 a0.said.2.length c2_p0,vs a3_p0 a0.heard.1.length c3_p0,vs a4_p0 a0.heard.2.length c4_p0,vi a0.Downs]) 57,ah.at b0_p0 a0.W,row 35 1 (.slice a1_p0 a0.said.1.length c1_p0) a0.said.1.length d1_p0,tie (El.sl (El.sl (El.int .u8))) d1_p0 a0.said.1,row 35 1 (.slice a2_p0 a0.said.2.length c2_p0) a0.said.2.length d2_p0,tie (El.sl (El.sl (El.int .u8))) d2_p0 a0.said.2,row 48 1 (.slice a3_p0 a0.heard.1.length c3_p0) a0.heard.1.length d3_p0,tie (El.sl (El.int .u8)) d3_p0 a0.heard.1,row 48 1 (.slice a4_p0 a0.heard.2.length c4_p0) a0.heard.2.length d4_p0,tie (El.sl (El.int .u8)) d4_p0 a0.heard.2,R] w0 w∧∃kf12,kf12≤k∧bi.j0 kf12 a0 x11=some r) (fun x11=>[(41,vb x11)]) ?_ ?_
 ·apply V.da [13,22,23] [14,15,16,17,18,19,20,21,24,25,26,27,28,29,30,31,32,33] [(8,_),(9,_),(10,_),(11,_),(12,_),(13,_),(14,_),(15,_),(16,_),(17,_),(18,_),(19,_),(20,_)] mo HS
  rfl
  refine T.e [13,20] [24,32,33] [0,1,2,3,4,5,6,7,8,9,10,11,12] fun w HS=>?_
  refine Y.kl H func72 (fun _ h=>aN.calls h HS.j0 (rdC.part 6 row_rd Z) (fun h hh=>let ⟨_,l,t⟩:=Sp.has 7 hh Z;tie.mono t l) (rdC.part 4 row_rd Z) (fun h hh=>let ⟨_,l,t⟩:=Sp.has 5 hh Z;tie.mono t l)) ?_
  rintro _ _ w H ⟨rfl,HS⟩
  have HS:=HS.o0
  refine ite_c H (fun c28 H=>?_) (fun c28 H=>?_)
  ·apply T.na [(21,_),(22,_),(23,_),(24,_),(25,_),(26,_),(27,_),(28,_),(29,_),(33,_),(34,_),(35,_),(36,_),(37,_),(38,_),(39,_)] HS
   exact nmk
   refine T.eG [27,29,23] [24,32,33] [14,15,16,17,18,19,20,21] fun w HS=>?_
   refine ⟨_,Y.cl (vs:=[pt b0_p0,vi (1)]) func13 (calls_enter func13 Z Z ?_),fun _ _ h=>h⟩
   refine go ?_
   refine W.inl (Y.cl (vs:=[vi (1)]) func53 (calls_enter func53 Z Z ?_)) Z Z Z
   refine go ?_
   refine At.ret1 Z Z ⟨_,Z,?_⟩
   refine go ?_
   have HS:=HS.fr 1
   obtain ⟨_,_,_,_,_,_,_,_,_,_,_,_,_,_,_,_,_,_,_,_,_,_,_,_,_,_,_,_,_,_,_,HS⟩:=ah.open HS
   refine go ?_
   refine At.ret1 Z Z ⟨_,Z,?_⟩
   refine T.nw HS ?_
   refine T.eG [30,23] [] [] fun w HS=>?_
   have HS:=HS.fr 2
   obtain ⟨_,_,_,_,_,_,_,_,_,_,HS⟩:=aa.open HS
   refine Y.kl H func17 (fun _ h=>bj.calls h HS.j10) ?_
   rintro t33 _ w H ⟨rfl,HS⟩
   have HS:=HS.o10
   apply T.na [(31,_),(32,_),(40,_),(41,_)] HS
   exact nmk
   refine T.ff [0,3,41] (fun w HS=>?_) ⟨.gw [(31,_),(23,_)] 15 false 23 ⟨Z,Z,tv⟩ Z (sb (n_t c28)) (fun w HS=>X.fdK (vi t33.Acked) Z (fun _=>by kernel_rfl)),rds⟩
   have HS:=(ah.close tv ((aa.close tv HS).b [1,1])).b [1]
   exact At.mt _ ⟨HS,k,by omega,H⟩
  ·apply T.na [(21,_),(22,_),(23,_),(24,_),(25,_),(26,_),(27,_),(28,_),(29,_),(33,_),(34,_),(35,_),(36,_),(37,_),(38,_),(39,_)] HS
   exact nmk
   refine T.dp [23] [24,32,33] [(30,undef)] nmk ?_
   refine T.dp [] [] [(31,undef),(32,undef),(40,undef),(41,vb true)] nmk ?_
   refine T.ff [0,3,41] fun w HS=>?_
   exact At.mt _ ⟨HS,k,by omega,H⟩
 ·rintro x11 w ⟨HS,kf12,_,H⟩
  refine V.cv H Z (fun _ H=>go ?_) (fun _ H=>go ?_)
  ·exact rt
  ·refine At.ow [(0,pt b0),(3,vi (1))] ?_
   refine V.seq ?_
   refine V.seq ?_
   refine gs ?_
   refine V.seq ?_
   refine gs ?_
   refine V.mj (σ:=Bool) [0,3] (fun x14 w=>St [blk b0 (#[pt b0_p0,vs a1_p0 a0.said.1.length c1_p0,vs a2_p0 a0.said.2.length c2_p0,vs a3_p0 a0.heard.1.length c3_p0,vs a4_p0 a0.heard.2.length c4_p0,vi a0.Downs]) 57,ah.at b0_p0 a0.W,row 35 1 (.slice a1_p0 a0.said.1.length c1_p0) a0.said.1.length d1_p0,tie (El.sl (El.sl (El.int .u8))) d1_p0 a0.said.1,row 35 1 (.slice a2_p0 a0.said.2.length c2_p0) a0.said.2.length d2_p0,tie (El.sl (El.sl (El.int .u8))) d2_p0 a0.said.2,row 48 1 (.slice a3_p0 a0.heard.1.length c3_p0) a0.heard.1.length d3_p0,tie (El.sl (El.int .u8)) d3_p0 a0.heard.1,row 48 1 (.slice a4_p0 a0.heard.2.length c4_p0) a0.heard.2.length d4_p0,tie (El.sl (El.int .u8)) d4_p0 a0.heard.2,R] w0 w∧bi.j1 x14=some r) (fun x14=>[(41,vb x14)]) ?_ ?_
   ·apply V.da [13,22,23] [14,15,16,17,18,19,20,21,24,25,26,27,28,29,30,31,32,33] [(8,_),(9,_),(10,_),(11,_),(12,_),(13,_),(14,_),(15,_),(16,_),(17,_),(18,_),(19,_),(20,_)] mo HS
    rfl
    refine T.e [13,20] [24,32,33] [0,1,2,3,4,5,6,7,8,9,10,11,12] fun w HS=>?_
    refine Y.kl H func72 (fun _ h=>aN.calls h HS.j0 (rdC.part 8 row_rd Z) (fun h hh=>let ⟨_,l,t⟩:=Sp.has 9 hh Z;tie.mono t l) (rdC.part 2 row_rd Z) (fun h hh=>let ⟨_,l,t⟩:=Sp.has 3 hh Z;tie.mono t l)) ?_
    rintro _ _ w H ⟨rfl,HS⟩
    have HS:=HS.o0
    refine ite_c H (fun c19 H=>?_) (fun c19 H=>?_)
    ·apply T.na [(21,_),(22,_),(23,_),(24,_),(25,_),(26,_),(27,_),(28,_),(29,_),(33,_),(34,_),(35,_),(36,_),(37,_),(38,_),(39,_)] HS
     exact nmk
     refine T.eG [27,29,23] [24,32,33] [14,15,16,17,18,19,20,21] fun w HS=>?_
     refine ⟨_,Y.cl (vs:=[pt b0_p0,vi (0)]) func13 (calls_enter func13 Z Z ?_),fun _ _ h=>h⟩
     refine go ?_
     refine W.inl (Y.cl (vs:=[vi (0)]) func53 (calls_enter func53 Z Z ?_)) Z Z Z
     refine go ?_
     refine At.ret1 Z Z ⟨_,Z,?_⟩
     refine go ?_
     have HS:=HS.fr 1
     obtain ⟨_,_,_,_,_,_,_,_,_,_,_,_,_,_,_,_,_,_,_,_,_,_,_,_,_,_,_,_,_,_,_,HS⟩:=ah.open HS
     refine go ?_
     refine At.ret1 Z Z ⟨_,Z,?_⟩
     refine T.nw HS ?_
     refine T.eG [30,23] [] [] fun w HS=>?_
     have HS:=HS.fr 1
     obtain ⟨_,_,_,_,_,_,_,_,_,_,HS⟩:=aa.open HS
     refine Y.kl H func17 (fun _ h=>bj.calls h HS.j10) ?_
     rintro t24 _ w H ⟨rfl,HS⟩
     have HS:=HS.o10
     apply T.na [(31,_),(32,_),(40,_),(41,_)] HS
     exact nmk
     refine T.ff [0,3,41] (fun w HS=>?_) ⟨.gw [(31,_),(23,_)] 15 false 23 ⟨Z,Z,tv⟩ Z (sb (n_t c19)) (fun w HS=>X.fdK (vi t24.Acked) Z (fun _=>by kernel_rfl)),rds⟩
     have HS:=(ah.close tv ((aa.close tv HS).b [1])).b [1]
     exact At.mt _ ⟨HS,H⟩
    ·apply T.na [(21,_),(22,_),(23,_),(24,_),(25,_),(26,_),(27,_),(28,_),(29,_),(33,_),(34,_),(35,_),(36,_),(37,_),(38,_),(39,_)] HS
     exact nmk
     refine T.dp [23] [24,32,33] [(30,undef)] nmk ?_
     refine T.dp [] [] [(31,undef),(32,undef),(40,undef),(41,vb true)] nmk ?_
     refine T.ff [0,3,41] fun w HS=>?_
     exact At.mt _ ⟨HS,H⟩
   ·rintro x14 w ⟨HS,H⟩
    refine V.cv H Z (fun _ H=>go ?_) (fun _ H=>go ?_)
    ·exact rt
    ·refine At.ow [(0,pt b0),(3,vi (2))] (go ?_)
     exact rt
def bO.f (k:Nat) (a0:ah) (a1:Int) (a2:Int):Option (List (List Int)):=(if a1≥0 then (if a1<2 then (if a2≥0 then (if a2<2 then (if 0≤a1∧a1<2 then (if a1=0 then (if 0≤a2∧a2<2 then (if a2=0 then ((bR.f k a0.ways.1.1.got).bind fun t32=>some t32) else ((bR.f k a0.ways.1.2.got).bind fun t58=>some t58)) else none) else (if 0≤a2∧a2<2 then (if a2=0 then ((bR.f k a0.ways.2.1.got).bind fun t86=>some t86) else ((bR.f k a0.ways.2.2.got).bind fun t112=>some t112)) else none)) else none) else some (([]:List (List Int)))) else some (([]:List (List Int)))) else some (([]:List (List Int)))) else some (([]:List (List Int))))
theorem bO.calls (H:bO.f k a0 a1 a2=some r) (HS:St [blk b0 (#[vi a0.c.Mode,vi a0.c.Modulus,vi a0.c.Window,vi a0.c.T1,vi a0.c.N2,vi a0.c.Hold,vi a0.c.Wait,vi a0.c.Keep,vi a0.c.Queue,vi a0.c.Size,vi a0.c.Ring,vi a0.c.Rate,vi a0.c.Bad,vi a0.c.Good,vb a0.c.Revert,vb a0.c.Wide,pt b16_p0,pt b17_p0,pt b18_p0,vs a19_p0 a0.ways.1.1.sent.length c19_p0,vs a20_p0 a0.ways.1.1.got.length c20_p0,pt b21_p0,vs a22_p0 a0.ways.1.2.sent.length c22_p0,vs a23_p0 a0.ways.1.2.got.length c23_p0,pt b24_p0,vs a25_p0 a0.ways.2.1.sent.length c25_p0,vs a26_p0 a0.ways.2.1.got.length c26_p0,pt b27_p0,vs a28_p0 a0.ways.2.2.sent.length c28_p0,vs a29_p0 a0.ways.2.2.got.length c29_p0,vi a0.now]) 83,aa.at b16_p0 a0.stations.1,aa.at b17_p0 a0.stations.2,au.at b18_p0 a0.ways.1.1.pipe,row 48 1 (.slice a19_p0 a0.ways.1.1.sent.length c19_p0) a0.ways.1.1.sent.length d19_p0,tie (El.sl (El.int .u8)) d19_p0 a0.ways.1.1.sent,row 48 1 (.slice a20_p0 a0.ways.1.1.got.length c20_p0) a0.ways.1.1.got.length d20_p0,tie (El.sl (El.int .u8)) d20_p0 a0.ways.1.1.got,au.at b21_p0 a0.ways.1.2.pipe,row 48 1 (.slice a22_p0 a0.ways.1.2.sent.length c22_p0) a0.ways.1.2.sent.length d22_p0,tie (El.sl (El.int .u8)) d22_p0 a0.ways.1.2.sent,row 48 1 (.slice a23_p0 a0.ways.1.2.got.length c23_p0) a0.ways.1.2.got.length d23_p0,tie (El.sl (El.int .u8)) d23_p0 a0.ways.1.2.got,au.at b24_p0 a0.ways.2.1.pipe,row 48 1 (.slice a25_p0 a0.ways.2.1.sent.length c25_p0) a0.ways.2.1.sent.length d25_p0,tie (El.sl (El.int .u8)) d25_p0 a0.ways.2.1.sent,row 48 1 (.slice a26_p0 a0.ways.2.1.got.length c26_p0) a0.ways.2.1.got.length d26_p0,tie (El.sl (El.int .u8)) d26_p0 a0.ways.2.1.got,au.at b27_p0 a0.ways.2.2.pipe,row 48 1 (.slice a28_p0 a0.ways.2.2.sent.length c28_p0) a0.ways.2.2.sent.length d28_p0,tie (El.sl (El.int .u8)) d28_p0 a0.ways.2.2.sent,row 48 1 (.slice a29_p0 a0.ways.2.2.got.length c29_p0) a0.ways.2.2.got.length d29_p0,tie (El.sl (El.int .u8)) d29_p0 a0.ways.2.2.got,R] w0 w):Calls Tryz.prog 16 #[pt b0,vi a1,vi a2] w (Ret fun u w=>∃aq0 cq0 dq0,u=vs aq0 r.length cq0∧St [row 48 1 (.slice aq0 r.length cq0) r.length dq0,tie (El.sl (El.int .u8)) dq0 r,blk b0 (#[vi a0.c.Mode,vi a0.c.Modulus,vi a0.c.Window,vi a0.c.T1,vi a0.c.N2,vi a0.c.Hold,vi a0.c.Wait,vi a0.c.Keep,vi a0.c.Queue,vi a0.c.Size,vi a0.c.Ring,vi a0.c.Rate,vi a0.c.Bad,vi a0.c.Good,vb a0.c.Revert,vb a0.c.Wide,pt b16_p0,pt b17_p0,pt b18_p0,vs a19_p0 a0.ways.1.1.sent.length c19_p0,vs a20_p0 a0.ways.1.1.got.length c20_p0,pt b21_p0,vs a22_p0 a0.ways.1.2.sent.length c22_p0,vs a23_p0 a0.ways.1.2.got.length c23_p0,pt b24_p0,vs a25_p0 a0.ways.2.1.sent.length c25_p0,vs a26_p0 a0.ways.2.1.got.length c26_p0,pt b27_p0,vs a28_p0 a0.ways.2.2.sent.length c28_p0,vs a29_p0 a0.ways.2.2.got.length c29_p0,vi a0.now]) 83,aa.at b16_p0 a0.stations.1,aa.at b17_p0 a0.stations.2,au.at b18_p0 a0.ways.1.1.pipe,row 48 1 (.slice a19_p0 a0.ways.1.1.sent.length c19_p0) a0.ways.1.1.sent.length d19_p0,tie (El.sl (El.int .u8)) d19_p0 a0.ways.1.1.sent,row 48 1 (.slice a20_p0 a0.ways.1.1.got.length c20_p0) a0.ways.1.1.got.length d20_p0,tie (El.sl (El.int .u8)) d20_p0 a0.ways.1.1.got,au.at b21_p0 a0.ways.1.2.pipe,row 48 1 (.slice a22_p0 a0.ways.1.2.sent.length c22_p0) a0.ways.1.2.sent.length d22_p0,tie (El.sl (El.int .u8)) d22_p0 a0.ways.1.2.sent,row 48 1 (.slice a23_p0 a0.ways.1.2.got.length c23_p0) a0.ways.1.2.got.length d23_p0,tie (El.sl (El.int .u8)) d23_p0 a0.ways.1.2.got,au.at b24_p0 a0.ways.2.1.pipe,row 48 1 (.slice a25_p0 a0.ways.2.1.sent.length c25_p0) a0.ways.2.1.sent.length d25_p0,tie (El.sl (El.int .u8)) d25_p0 a0.ways.2.1.sent,row 48 1 (.slice a26_p0 a0.ways.2.1.got.length c26_p0) a0.ways.2.1.got.length d26_p0,tie (El.sl (El.int .u8)) d26_p0 a0.ways.2.1.got,au.at b27_p0 a0.ways.2.2.pipe,row 48 1 (.slice a28_p0 a0.ways.2.2.sent.length c28_p0) a0.ways.2.2.sent.length d28_p0,tie (El.sl (El.int .u8)) d28_p0 a0.ways.2.2.sent,row 48 1 (.slice a29_p0 a0.ways.2.2.got.length c29_p0) a0.ways.2.2.got.length d29_p0,tie (El.sl (El.int .u8)) d29_p0 a0.ways.2.2.got,R] w0 w):=by
 refine calls_enter func16 Z Z (go ?_)
 refine W.inl (Y.cl (vs:=[pt b0,vi a1,vi a2]) func51 (calls_enter func51 Z Z ?_)) Z Z Z
 refine go ?_
 refine W.inl (Y.cl (vs:=[vi a1]) func53 (calls_enter func53 Z Z ?_)) Z Z Z
 refine go ?_
 refine W.cd 5 H Z (fun _ H=>go ?_) (fun _ H=>go ?_)
 ·refine At.ret1 Z Z ⟨_,Z,?_⟩
  refine go ?_
  refine W.cm 11 H Z (fun _ H=>go ?_) (fun _ H=>go ?_)
  ·refine W.inl (Y.cl (vs:=[vi a2]) func53 (calls_enter func53 Z Z ?_)) Z Z Z
   refine go ?_
   refine W.cd 5 H Z (fun _ H=>go ?_) (fun _ H=>go ?_)
   ·refine At.ret1 Z Z ⟨_,Z,?_⟩
    refine go ?_
    refine V.cm H Z (fun _ H=>go ?_) (fun _ H=>go ?_)
    ·obtain ⟨c5,H⟩:=ite_n H
     refine ite_c H (fun c6 H=>?_) (fun _ H=>?_)
     ·refine W.r (X.indexArK 0 c6 underlying81 inf80 Z Z c5.1 c5.2) Z ?_
      obtain ⟨c7,H⟩:=ite_n H
      refine ite_c H (fun c8 H=>?_) (fun _ H=>?_)
      ·refine W.r (X.indexArK 0 c8 underlying80 inf79 Z Z c7.1 c7.2) Z (go ?_)
       refine At.ret2 Z Z Z ⟨_,Z,?_⟩
       refine go ?_
       refine W.kl H func64 (fun _ h=>bR.calls h HS.j0 (rdC.part 6 row_rd Z) (fun h hh=>let ⟨_,l,t⟩:=Sp.has 7 hh Z;tie.mono t l)) ?_
       rintro _ _ w H ⟨_,_,_,rfl,HS⟩
       have HS:=HS.o2
       refine go ?_
       exact rt
      ·have hk34:a2=1:=by omega
       refine W.r (X.indexArK 1 hk34 underlying80 inf79 Z Z c7.1 c7.2) Z (go ?_)
       refine At.ret2 Z Z Z ⟨_,Z,?_⟩
       refine go ?_
       refine W.kl H func64 (fun _ h=>bR.calls h HS.j0 (rdC.part 11 row_rd Z) (fun h hh=>let ⟨_,l,t⟩:=Sp.has 12 hh Z;tie.mono t l)) ?_
       rintro _ _ w H ⟨_,_,_,rfl,HS⟩
       have HS:=HS.o2
       refine go ?_
       exact rt
     ·have hk60:a1=1:=by omega
      refine W.r (X.indexArK 1 hk60 underlying81 inf80 Z Z c5.1 c5.2) Z ?_
      obtain ⟨c61,H⟩:=ite_n H
      refine ite_c H (fun c62 H=>?_) (fun _ H=>?_)
      ·refine W.r (X.indexArK 0 c62 underlying80 inf79 Z Z c61.1 c61.2) Z (go ?_)
       refine At.ret2 Z Z Z ⟨_,Z,?_⟩
       refine go ?_
       refine W.kl H func64 (fun _ h=>bR.calls h HS.j0 (rdC.part 16 row_rd Z) (fun h hh=>let ⟨_,l,t⟩:=Sp.has 17 hh Z;tie.mono t l)) ?_
       rintro _ _ w H ⟨_,_,_,rfl,HS⟩
       have HS:=HS.o2
       refine go ?_
       exact rt
      ·have hk88:a2=1:=by omega
       refine W.r (X.indexArK 1 hk88 underlying80 inf79 Z Z c61.1 c61.2) Z (go ?_)
       refine At.ret2 Z Z Z ⟨_,Z,?_⟩
       refine go ?_
       refine W.kl H func64 (fun _ h=>bR.calls h HS.j0 (rdC.part 21 row_rd Z) (fun h hh=>let ⟨_,l,t⟩:=Sp.has 22 hh Z;tie.mono t l)) ?_
       rintro _ _ w H ⟨_,_,_,rfl,HS⟩
       have HS:=HS.o2
       refine go ?_
       exact rt
    ·refine At.ret2 Z Z Z ⟨_,Z,?_⟩
     refine go ?_
     have HS:=row_nilE (El.sl (El.int .u8)) 48 1 HS
     exact rt
   ·refine At.ret1 Z Z ⟨_,Z,?_⟩
    refine go ?_
    refine At.ret2 Z Z Z ⟨_,Z,?_⟩
    refine go ?_
    have HS:=row_nilE (El.sl (El.int .u8)) 48 1 HS
    exact rt
  ·refine At.ret2 Z Z Z ⟨_,Z,?_⟩
   refine go ?_
   have HS:=row_nilE (El.sl (El.int .u8)) 48 1 HS
   exact rt
 ·refine At.ret1 Z Z ⟨_,Z,?_⟩
  refine go ?_
  refine At.ret2 Z Z Z ⟨_,Z,?_⟩
  refine go ?_
  have HS:=row_nilE (El.sl (El.int .u8)) 48 1 HS
  exact rt
mutual
def aZ.l0:Nat→(List (List Int))→(List (List Int))→Int→Int→Option Bool
 |0,_,_,_,_=>none
 |k+1,a0,a1,x3,x4=>(if x4<(a1.length:Int) then (aZ.j1 a0 a1 x3 x4 (aZ.l0 k a0 a1) (decide (x3<(a0.length:Int)))) else (aZ.j1 a0 a1 x3 x4 (aZ.l0 k a0 a1) false))
def aZ.j1 (a0:List (List Int)) (a1:List (List Int)) (x3:Int) (x4:Int) (Lq9:Int→Int→Option Bool) (x7:Bool):Option Bool:=(if x7=true then (if 0≤x4∧x4<(a1.length:Int) then (if 0≤x3∧x3<(a0.length:Int) then (if sEq (a1.getD x4.toNat []) (a0.getD x3.toNat [])=true then (Lq9 (w64 (x3+1)) (w64 (x4+1))) else (Lq9 x3 (w64 (x4+1)))) else none) else none) else some (decide (x3=(a0.length:Int))))
end
def aZ.f (k:Nat) (a0:List (List Int)) (a1:List (List Int)):Option Bool:=(aZ.l0 k a0 a1 0 0)
theorem aZ.calls (H:aZ.f k a0 a1=some r) (HS:St [R] w0 w) (hr0:rdC R 1 (.slice sa0 a0.length sc0) a0.length sd0) (ht0:∀h,R h→tie (El.sl (El.int .u8)) sd0 a0 h) (hr1:rdC R 1 (.slice sa1 a1.length sc1) a1.length sd1) (ht1:∀h,R h→tie (El.sl (El.int .u8)) sd1 a1 h):Calls Tryz.prog 71 #[vs sa0 a0.length sc0,vs sa1 a1.length sc1] w (Ret fun u w=>u=vb r∧St [R] w0 w):=by
 refine calls_enter func71 Z Z ?_
 have HS:=St.more 1 (St.more 0 HS rfl ht0 tie.pers) rfl ht1 tie.pers
 refine go ?_
 refine V.lj (σ:=Int × Int) [0,1] (fun kq (x3,x4) w=>St [tie (El.sl (El.int .u8)) sd1 a1,tie (El.sl (El.int .u8)) sd0 a0,R] w0 w∧aZ.l0 kq a0 a1 x3 x4=some r∧kq≤k) (fun (x3,x4)=>[(5,vi x3),(6,vi x4)]) (_,_) ⟨HS,H,Nat.le_refl _⟩ ?_
 rintro kq5 ⟨x3,x4⟩ w ⟨HS,H,_⟩
 cases kq5 with
 |zero=>exact absurd H (by simp [aZ.l0])
 |succ kq5=>
  simp only [aZ.l0] at H
  refine V.seq ?_
  refine V.mj (σ:=Bool) [0,1,5,6] (fun x7 w=>St [tie (El.sl (El.int .u8)) sd1 a1,tie (El.sl (El.int .u8)) sd0 a0,R] w0 w∧∃kl10,kl10≤kq5∧aZ.j1 a0 a1 x3 x4 (aZ.l0 kl10 a0 a1) x7=some r) (fun x7=>[(16,vb x7)]) ?_ ?_
  ·refine go ?_
   refine W.cd 11 H Z (fun _ H=>go ?_) (fun _ H=>go ?_)
   ·exact At.mt _ ⟨HS,kq5,by omega,H⟩
   ·exact At.mt _ ⟨HS,kq5,by omega,H⟩
  ·rintro x7 w ⟨HS,kl10,_,H⟩
   refine V.cv H Z (fun _ H=>go ?_) (fun _ H=>go ?_)
   ·obtain ⟨c12,H⟩:=ite_n H
    obtain ⟨_,_,hh⟩:=(rdC.at 2 hr1 HS rfl).some (by decide) c12.1 c12.2;subst hh
    obtain ⟨_,hc16,HS⟩:=St.tie_at 0 HS rfl ([]) c12.1 c12.2
    obtain ⟨_,_,he20,HN⟩:=St.sl_openF (Value.int .u8) (fun t=>tie_int t) HS;clear HS;subst he20;have HS:=HN
    obtain ⟨c21,H⟩:=ite_n H
    obtain ⟨_,_,hh⟩:=(rdC.at 3 hr0 HS rfl).some (by decide) c21.1 c21.2;subst hh
    obtain ⟨_,hc25,HS⟩:=St.tie_at 2 HS rfl ([]) c21.1 c21.2
    obtain ⟨_,_,he29,HN⟩:=St.sl_openF (Value.int .u8) (fun t=>tie_int t) HS;clear HS;subst he29;have HS:=HN
    apply V.da [] [] [(19,_),(20,_),(21,_),(22,_),(23,_),(24,_),(25,_),(26,_),(27,_),(28,_),(29,_)] mo HS
    rfl
    refine T.ff [0,1,5,6,29] (fun w HS=>?_) ⟨rd,rd,rd,.n1 21 Z Z (fun w HS=>X.load underlying48 Z Z ((rdC.at 4 hr1 HS Z).cellEl0 (hc16 0 _ Z))),.n1 22 Z Z (fun w HS=>X.bytesStr underlying48 underlying5 underlying9 Z (rdC.at 1 fsl.rd HS Z)),rd,rd,rd,.n1 26 Z Z (fun w HS=>X.load underlying48 Z Z ((rdC.at 4 hr0 HS Z).cellEl0 (hc25 0 _ Z))),.n1 27 Z Z (fun w HS=>X.bytesStr underlying48 underlying5 underlying9 Z (rdC.at 0 fsl.rd HS Z)),.n2 23 28 Z Z Z (fun w HS=>X.eqStr (a:=a1.getD x4.toNat []) (b:=a0.getD x3.toNat []) Z Z),rds⟩
    refine go ?_
    refine V.cv H Z (fun _ H=>go ?_) (fun _ H=>go ?_)
    ·have HS:=HS.ke [2,2,2]
     exact At.rn (_,_) ⟨HS,H,by omega⟩
    ·have HS:=HS.ke [2,2,2]
     exact At.rn (_,_) ⟨HS,H,by omega⟩
   ·have HS:=HS.ke [2]
    exact rt
def cN.f (k:Nat) (a0:ag):Option Bool:=((bO.f k a0.W (w64 ((0:Int).tdiv (2))) ((0:Int).tmod (2))).bind fun t13=>((bB.f k a0.W (w64 ((0:Int).tdiv (2))) ((0:Int).tmod (2))).bind fun t15=>((aZ.f k t13 t15).bind fun t17=>(if t17=true then ((bO.f k a0.W (w64 ((1:Int).tdiv (2))) ((1:Int).tmod (2))).bind fun t46=>((bB.f k a0.W (w64 ((1:Int).tdiv (2))) ((1:Int).tmod (2))).bind fun t48=>((aZ.f k t46 t48).bind fun t50=>(if t50=true then ((bO.f k a0.W (w64 ((2:Int).tdiv (2))) ((2:Int).tmod (2))).bind fun t57=>((bB.f k a0.W (w64 ((2:Int).tdiv (2))) ((2:Int).tmod (2))).bind fun t59=>((aZ.f k t57 t59).bind fun t61=>(if t61=true then ((bO.f k a0.W (w64 ((3:Int).tdiv (2))) ((3:Int).tmod (2))).bind fun t68=>((bB.f k a0.W (w64 ((3:Int).tdiv (2))) ((3:Int).tmod (2))).bind fun t70=>((aZ.f k t68 t70).bind fun t72=>(if t72=true then some true else some false)))) else some false)))) else some false)))) else some false))))
theorem cN.calls (H:cN.f k a0=some r) (HS:St [blk b0 (#[pt b0_p0,vs a1_p0 a0.said.1.length c1_p0,vs a2_p0 a0.said.2.length c2_p0,vs a3_p0 a0.heard.1.length c3_p0,vs a4_p0 a0.heard.2.length c4_p0,vi a0.Downs]) 57,ah.at b0_p0 a0.W,row 35 1 (.slice a1_p0 a0.said.1.length c1_p0) a0.said.1.length d1_p0,tie (El.sl (El.sl (El.int .u8))) d1_p0 a0.said.1,row 35 1 (.slice a2_p0 a0.said.2.length c2_p0) a0.said.2.length d2_p0,tie (El.sl (El.sl (El.int .u8))) d2_p0 a0.said.2,row 48 1 (.slice a3_p0 a0.heard.1.length c3_p0) a0.heard.1.length d3_p0,tie (El.sl (El.int .u8)) d3_p0 a0.heard.1,row 48 1 (.slice a4_p0 a0.heard.2.length c4_p0) a0.heard.2.length d4_p0,tie (El.sl (El.int .u8)) d4_p0 a0.heard.2,R] w0 w):Calls Tryz.prog 22 #[pt b0] w (Ret fun u w=>u=vb r∧St [blk b0 (#[pt b0_p0,vs a1_p0 a0.said.1.length c1_p0,vs a2_p0 a0.said.2.length c2_p0,vs a3_p0 a0.heard.1.length c3_p0,vs a4_p0 a0.heard.2.length c4_p0,vi a0.Downs]) 57,ah.at b0_p0 a0.W,row 35 1 (.slice a1_p0 a0.said.1.length c1_p0) a0.said.1.length d1_p0,tie (El.sl (El.sl (El.int .u8))) d1_p0 a0.said.1,row 35 1 (.slice a2_p0 a0.said.2.length c2_p0) a0.said.2.length d2_p0,tie (El.sl (El.sl (El.int .u8))) d2_p0 a0.said.2,row 48 1 (.slice a3_p0 a0.heard.1.length c3_p0) a0.heard.1.length d3_p0,tie (El.sl (El.int .u8)) d3_p0 a0.heard.1,row 48 1 (.slice a4_p0 a0.heard.2.length c4_p0) a0.heard.2.length d4_p0,tie (El.sl (El.int .u8)) d4_p0 a0.heard.2,R] w0 w):=by
 refine calls_enter func22 Z Z (go ?_)
 refine V.rs 4 [(0,pt b0),(3,vi (0))] (go ?_)
 apply V.da [8,17,18] [19] [(8,_),(9,_),(10,_),(11,_),(12,_),(13,_),(14,_),(15,_),(17,_),(18,_),(19,_),(20,_),(21,_),(22,_),(23,_),(24,_)] mo HS
 rfl
 refine T.e [11,13,15] [19] [0,1,2,3,4,5,6,7] (fun w HS=>?_) ⟨rd,rd,rd,rd,rd,.n1 12 Z Z (fun w HS=>X.quo Z Z (by decide)),rd,.n1 14 Z Z (fun w HS=>X.rem Z Z (by decide)),rd,rd,rd,rd,rd,.n1 21 Z Z (fun w HS=>X.quo Z Z (by decide)),rd,.n1 23 Z Z (fun w HS=>X.rem Z Z (by decide)),rds⟩
 have HS:=HS.fr 1
 obtain ⟨_,_,_,_,_,_,_,_,_,_,_,_,_,_,_,_,_,_,_,_,_,_,_,_,_,_,_,_,_,_,_,HS⟩:=ah.open HS
 refine Y.kl H func16 (fun _ h=>bO.calls h HS.j23) ?_
 rintro _ _ w H ⟨_,_,_,rfl,HS⟩
 have HS:=HS.o25
 refine T.nw HS ?_
 refine T.e [20,22,24] [19] [9,10,11,12,13,14,15,16] (fun w HS=>?_) ⟨rd,rd,rd,rd,rd,.n1 21 Z Z (fun w HS=>X.quo Z Z (by decide)),rd,.n1 23 Z Z (fun w HS=>X.rem Z Z (by decide)),rds⟩
 have HS:=HS.b [2,2,2,2,2,2,2,2,2,2,2,2,2,2,2,2,2,2,2,2,2,2,2]
 refine Y.kl H func42 (fun _ h=>bB.calls h HS.j23) ?_
 rintro _ _ w H ⟨_,_,_,rfl,HS⟩
 have HS:=HS.o25
 refine T.nw HS ?_
 refine T.e [16,25] [] [] fun w HS=>?_
 refine Y.kl H func71 (fun _ h=>aZ.calls h HS.j0 (rdC.part 25 row_rd Z) (fun h hh=>let ⟨_,l,t⟩:=Sp.has 26 hh Z;tie.mono t l) (rdC.part 0 row_rd Z) (fun h hh=>let ⟨_,l,t⟩:=Sp.has 1 hh Z;tie.mono t l)) ?_
 rintro _ _ w H ⟨rfl,HS⟩
 have HS:=HS.o0
 apply T.na [(26,_),(27,_)] HS
 exact nmk
 refine T.ff [0,3,27] fun w HS=>?_
 refine go ?_
 refine V.cx H Z (fun _ H=>go ?_) (fun _ H=>go ?_)
 ·refine At.ow [(0,pt b0),(3,vi (1))] (go ?_)
  apply V.da [8,17,18] [19] [(8,_),(9,_),(10,_),(11,_),(12,_),(13,_),(14,_),(15,_),(17,_),(18,_),(19,_),(20,_),(21,_),(22,_),(23,_),(24,_)] mo HS
  rfl
  refine T.e [11,13,15] [19] [0,1,2,3,4,5,6,7] (fun w HS=>?_) ⟨rd,rd,rd,rd,rd,.n1 12 Z Z (fun w HS=>X.quo Z Z (by decide)),rd,.n1 14 Z Z (fun w HS=>X.rem Z Z (by decide)),rd,rd,rd,rd,rd,.n1 21 Z Z (fun w HS=>X.quo Z Z (by decide)),rd,.n1 23 Z Z (fun w HS=>X.rem Z Z (by decide)),rds⟩
  have HS:=HS.b [2,2,2,2,2,2,2,2,2,2,2,2,2,2,2,2,2,2,2,2,2,2,2]
  refine Y.kl H func16 (fun _ h=>bO.calls h HS.j23) ?_
  rintro _ _ w H ⟨_,_,_,rfl,HS⟩
  have HS:=HS.o25
  refine T.nw HS ?_
  refine T.e [20,22,24] [19] [9,10,11,12,13,14,15,16] (fun w HS=>?_) ⟨rd,rd,rd,rd,rd,.n1 21 Z Z (fun w HS=>X.quo Z Z (by decide)),rd,.n1 23 Z Z (fun w HS=>X.rem Z Z (by decide)),rds⟩
  have HS:=HS.b [2,2,2,2,2,2,2,2,2,2,2,2,2,2,2,2,2,2,2,2,2,2,2]
  refine Y.kl H func42 (fun _ h=>bB.calls h HS.j23) ?_
  rintro _ _ w H ⟨_,_,_,rfl,HS⟩
  have HS:=HS.o25
  refine T.nw HS ?_
  refine T.e [16,25] [] [] fun w HS=>?_
  refine Y.kl H func71 (fun _ h=>aZ.calls h HS.j0 (rdC.part 25 row_rd Z) (fun h hh=>let ⟨_,l,t⟩:=Sp.has 26 hh Z;tie.mono t l) (rdC.part 0 row_rd Z) (fun h hh=>let ⟨_,l,t⟩:=Sp.has 1 hh Z;tie.mono t l)) ?_
  rintro _ _ w H ⟨rfl,HS⟩
  have HS:=HS.o0
  apply T.na [(26,_),(27,_)] HS
  exact nmk
  refine T.ff [0,3,27] fun w HS=>?_
  refine go ?_
  refine V.cx H Z (fun _ H=>go ?_) (fun _ H=>go ?_)
  ·refine At.ow [(0,pt b0),(3,vi (2))] (go ?_)
   apply V.da [8,17,18] [19] [(8,_),(9,_),(10,_),(11,_),(12,_),(13,_),(14,_),(15,_),(17,_),(18,_),(19,_),(20,_),(21,_),(22,_),(23,_),(24,_)] mo HS
   rfl
   refine T.e [11,13,15] [19] [0,1,2,3,4,5,6,7] (fun w HS=>?_) ⟨rd,rd,rd,rd,rd,.n1 12 Z Z (fun w HS=>X.quo Z Z (by decide)),rd,.n1 14 Z Z (fun w HS=>X.rem Z Z (by decide)),rd,rd,rd,rd,rd,.n1 21 Z Z (fun w HS=>X.quo Z Z (by decide)),rd,.n1 23 Z Z (fun w HS=>X.rem Z Z (by decide)),rds⟩
   have HS:=HS.b [2,2,2,2,2,2,2,2,2,2,2,2,2,2,2,2,2,2,2,2,2,2,2]
   refine Y.kl H func16 (fun _ h=>bO.calls h HS.j23) ?_
   rintro _ _ w H ⟨_,_,_,rfl,HS⟩
   have HS:=HS.o25
   refine T.nw HS ?_
   refine T.e [20,22,24] [19] [9,10,11,12,13,14,15,16] (fun w HS=>?_) ⟨rd,rd,rd,rd,rd,.n1 21 Z Z (fun w HS=>X.quo Z Z (by decide)),rd,.n1 23 Z Z (fun w HS=>X.rem Z Z (by decide)),rds⟩
   have HS:=HS.b [2,2,2,2,2,2,2,2,2,2,2,2,2,2,2,2,2,2,2,2,2,2,2]
   refine Y.kl H func42 (fun _ h=>bB.calls h HS.j23) ?_
   rintro _ _ w H ⟨_,_,_,rfl,HS⟩
   have HS:=HS.o25
   refine T.nw HS ?_
   refine T.e [16,25] [] [] fun w HS=>?_
   refine Y.kl H func71 (fun _ h=>aZ.calls h HS.j0 (rdC.part 25 row_rd Z) (fun h hh=>let ⟨_,l,t⟩:=Sp.has 26 hh Z;tie.mono t l) (rdC.part 0 row_rd Z) (fun h hh=>let ⟨_,l,t⟩:=Sp.has 1 hh Z;tie.mono t l)) ?_
   rintro _ _ w H ⟨rfl,HS⟩
   have HS:=HS.o0
   apply T.na [(26,_),(27,_)] HS
   exact nmk
   refine T.ff [0,3,27] fun w HS=>?_
   refine go ?_
   refine V.cx H Z (fun _ H=>go ?_) (fun _ H=>go ?_)
   ·refine At.ow [(0,pt b0),(3,vi (3))] (go ?_)
    apply V.da [8,17,18] [19] [(8,_),(9,_),(10,_),(11,_),(12,_),(13,_),(14,_),(15,_),(17,_),(18,_),(19,_),(20,_),(21,_),(22,_),(23,_),(24,_)] mo HS
    rfl
    refine T.e [11,13,15] [19] [0,1,2,3,4,5,6,7] (fun w HS=>?_) ⟨rd,rd,rd,rd,rd,.n1 12 Z Z (fun w HS=>X.quo Z Z (by decide)),rd,.n1 14 Z Z (fun w HS=>X.rem Z Z (by decide)),rd,rd,rd,rd,rd,.n1 21 Z Z (fun w HS=>X.quo Z Z (by decide)),rd,.n1 23 Z Z (fun w HS=>X.rem Z Z (by decide)),rds⟩
    have HS:=HS.b [2,2,2,2,2,2,2,2,2,2,2,2,2,2,2,2,2,2,2,2,2,2,2]
    refine Y.kl H func16 (fun _ h=>bO.calls h HS.j23) ?_
    rintro _ _ w H ⟨_,_,_,rfl,HS⟩
    have HS:=HS.o25
    refine T.nw HS ?_
    refine T.e [20,22,24] [19] [9,10,11,12,13,14,15,16] (fun w HS=>?_) ⟨rd,rd,rd,rd,rd,.n1 21 Z Z (fun w HS=>X.quo Z Z (by decide)),rd,.n1 23 Z Z (fun w HS=>X.rem Z Z (by decide)),rds⟩
    have HS:=HS.b [2,2,2,2,2,2,2,2,2,2,2,2,2,2,2,2,2,2,2,2,2,2,2]
    refine Y.kl H func42 (fun _ h=>bB.calls h HS.j23) ?_
    rintro _ _ w H ⟨_,_,_,rfl,HS⟩
    have HS:=HS.o25
    refine T.nw HS ?_
    refine T.e [16,25] [] [] fun w HS=>?_
    refine Y.kl H func71 (fun _ h=>aZ.calls h HS.j0 (rdC.part 25 row_rd Z) (fun h hh=>let ⟨_,l,t⟩:=Sp.has 26 hh Z;tie.mono t l) (rdC.part 0 row_rd Z) (fun h hh=>let ⟨_,l,t⟩:=Sp.has 1 hh Z;tie.mono t l)) ?_
    rintro _ _ w H ⟨rfl,HS⟩
    have HS:=HS.o0
    apply T.na [(26,_),(27,_)] HS
    exact nmk
    refine T.ff [0,3,27] fun w HS=>?_
    refine go ?_
    refine V.cx H Z (fun _ H=>go ?_) (fun _ H=>go ?_)
    ·refine At.ow [(0,pt b0),(3,vi (4))] (go ?_)
     have HS:=(ah.close tv (HS.b [2,2,2,2,2,2,2,2,2,2,2,2,2,2,2,2,2,2,2,2,2,2,2])).ke [17,0,16,16,16,16,16,16,16,16,16]
     exact rt
    ·have HS:=(ah.close tv (HS.b [2,2,2,2,2,2,2,2,2,2,2,2,2,2,2,2,2,2,2,2,2,2,2])).ke [17,0,16,16,16,16,16,16,16,16,16]
     exact rt
   ·have HS:=(ah.close tv (HS.b [2,2,2,2,2,2,2,2,2,2,2,2,2,2,2,2,2,2,2,2,2,2,2])).ke [13,0,12,12,12,12,12,12,12,12,12]
    exact rt
  ·have HS:=(ah.close tv (HS.b [2,2,2,2,2,2,2,2,2,2,2,2,2,2,2,2,2,2,2,2,2,2,2])).ke [9,0,8,8,8,8,8,8,8,8,8]
   exact rt
 ·have HS:=(ah.close tv (HS.b [2,2,2,2,2,2,2,2,2,2,2,2,2,2,2,2,2,2,2,2,2,2,2])).ke [5,0,4,4,4,4,4,4,4,4,4]
  exact rt
mutual
def aA.l0:Nat→(List (List Int))→Int→Int→ag→Option Bool
 |0,_,_,_,_=>none
 |k+1,a4,t9,x25,x26=>(if x25<(a4.length:Int) then (if 0≤x25∧x25<(a4.length:Int) then (if ((a4.getD x25.toNat []).length:Int)>20 then some true else ((ak.f k x26 ({Way:=3,At:=x25,Line:=0,Kind:=0,N:=0,C:=0,B:=a4.getD x25.toNat []}:aY)).bind fun t40=>(aA.l0 k a4 t9 (w64 (x25+1)) t40))) else none) else ((ak.f k x26 ({Way:=0,At:=0,Line:=0,Kind:=0,N:=w64 ((w64 ((w64 (2+(a4.length:Int)))*2))*t9),C:=0,B:=[]}:aY)).bind fun t42=>((bk.f t42.W.stations.1 0).bind fun t50=>(if t50.Bad=0 then (if t50.Aborts=0 then (if t50.Runts=0 then (if t50.Giants=0 then (aA.j1 k a4 t42 (!(decide (t50.Dropped=0)))) else (aA.j1 k a4 t42 true)) else (aA.j1 k a4 t42 true)) else (aA.j1 k a4 t42 true)) else (aA.j1 k a4 t42 true)))))
def aA.j4 (k:Nat) (a4:List (List Int)) (t42:ag) (x253:Bool):Option Bool:=(if x253=true then some false else (if t42.Downs=0 then ((bT.f t42 1).bind fun t259=>((aL.f k t42 0).bind fun t261=>(if t259=t261 then ((bT.f t42 0).bind fun t264=>((aL.f k t42 1).bind fun t266=>(if t264=t266 then ((aL.f k t42 0).bind fun t269=>((aL.f k t42 1).bind fun t271=>(if (w64 (t269+t271))=(a4.length:Int) then ((bi.f k t42).bind fun t274=>(if t274=true then ((cN.f k t42).bind fun t277=>some t277) else some false)) else some false))) else some false))) else some false))) else some false))
def aA.j3 (k:Nat) (a4:List (List Int)) (t42:ag) (x200:Bool):Option Bool:=(if x200=true then some false else ((bk.f t42.W.stations.2 1).bind fun t209=>(if t209.Bad=0 then (if t209.Aborts=0 then (if t209.Runts=0 then (if t209.Giants=0 then (aA.j4 k a4 t42 (!(decide (t209.Dropped=0)))) else (aA.j4 k a4 t42 true)) else (aA.j4 k a4 t42 true)) else (aA.j4 k a4 t42 true)) else (aA.j4 k a4 t42 true))))
def aA.j2 (k:Nat) (a4:List (List Int)) (t42:ag) (x147:Bool):Option Bool:=(if x147=true then some false else ((bk.f t42.W.stations.2 0).bind fun t156=>(if t156.Bad=0 then (if t156.Aborts=0 then (if t156.Runts=0 then (if t156.Giants=0 then (aA.j3 k a4 t42 (!(decide (t156.Dropped=0)))) else (aA.j3 k a4 t42 true)) else (aA.j3 k a4 t42 true)) else (aA.j3 k a4 t42 true)) else (aA.j3 k a4 t42 true))))
def aA.j1 (k:Nat) (a4:List (List Int)) (t42:ag) (x94:Bool):Option Bool:=(if x94=true then some false else ((bk.f t42.W.stations.1 1).bind fun t103=>(if t103.Bad=0 then (if t103.Aborts=0 then (if t103.Runts=0 then (if t103.Giants=0 then (aA.j2 k a4 t42 (!(decide (t103.Dropped=0)))) else (aA.j2 k a4 t42 true)) else (aA.j2 k a4 t42 true)) else (aA.j2 k a4 t42 true)) else (aA.j2 k a4 t42 true))))
end
def aA.f (k:Nat) (a0:Int) (a1:Int) (a2:Int) (a3:Bool) (a4:List (List Int)):Option Bool:=((bP.f k).bind fun t1=>(if t1=true then (if (a4.length:Int)>15 then some t1 else ((dg.f a0 a1 a2 false a3).bind fun t6=>((cS.f ({t6 with T1:=1000,Ring:=4000}:aw)).bind fun t9=>((br.f k ({t6 with T1:=1000,Ring:=4000}:aw)).bind fun t11=>(if t11.isNone=true then some false else ((ak.f k (t11.getD default) ({Way:=1,At:=0,Line:=0,Kind:=0,N:=0,C:=0,B:=[]}:aY)).bind fun t21=>((ak.f k t21 ({Way:=0,At:=0,Line:=0,Kind:=0,N:=w64 (4*t9),C:=0,B:=[]}:aY)).bind fun t23=>(aA.l0 k a4 t9 0 t23)))))))) else some t1))
theorem aA.calls (H:aA.f k a0 a1 a2 a3 a4=some r) (HS:St [R] w0 w) (hr4:rdC R 1 (.slice sa4 a4.length sc4) a4.length sd4) (ht4:∀h,R h→tie (El.sl (El.int .u8)) sd4 a4 h):Calls Tryz.prog 7 #[vi a0,vi a1,vi a2,vb a3,vs sa4 a4.length sc4] w (Ret fun u w=>u=vb r∧St [R] w0 w):=by
 refine calls_enter func7 Z Z ?_
 have HS:=St.more 0 HS rfl ht4 tie.pers
 refine go ?_
 refine W.kl H func8 (fun _ h=>bP.calls h HS.j0) ?_
 rintro _ _ w H ⟨rfl,HS⟩
 have HS:=HS.o0
 refine go ?_
 refine W.cx 22 H Z (fun _ H=>go ?_) (fun _ H=>go ?_)
 ·refine V.cd H Z (fun _ H=>go ?_) (fun _ H=>go ?_)
  ·have HS:=HS.ke [1]
   exact rt
  ·refine W.kl H func24 (fun _ h=>dg.calls h HS.j0) ?_
   rintro t6 _ w H ⟨rfl,HS⟩
   have HS:=HS.o0
   refine W.e (Y.alloc (z:=Value.agg (#[vi (0),vi (0),vi (0),vi (0),vi (0),vi (0),vi (0),vi (0),vi (0),vi (0),vi (0),vi (0),vi (0),vi (0),vb false,vb false])) HS ze23) Z ?_
   rintro _ w ⟨nb8,rfl,HS⟩
   refine W.ss HS Z Z Z Z fun w HS=>go ?_
   refine W.sr 3 HS Z Z Z fun w HS=>go ?_
   refine W.sr 10 HS Z Z Z fun w HS=>go ?_
   refine W.kl H func11 (fun _ h=>cS.calls h HS.j0) ?_
   rintro t9 _ w H ⟨rfl,HS⟩
   have HS:=HS.o0
   refine go ?_
   obtain ⟨_,A12,H⟩:=bind_s H
   refine ite_c H (fun c13 H=>?_) (fun c13 H=>?_)
   ·refine W.e (Y.cl func20 (br.calls A12 HS.j0)) Z ?_
    rintro _ w ⟨bt11_0,rfl,HS⟩
    have HS:=St.optN c13 HS.o1
    rw [optv_n c13]
    refine go ?_
    refine W.r (X.eqP underlying45 Z Z) Z (go ?_)
    have HS:=HS.ke [2]
    exact rt
   ·refine W.e (Y.cl func20 (br.calls A12 HS.j0)) Z ?_
    rintro _ w ⟨bt11_0,rfl,HS⟩
    have HS:=St.optS default c13 HS.o1
    rw [optv_s c13]
    refine go ?_
    refine W.r (X.eqP underlying45 Z Z) Z (go ?_)
    refine W.r (X.bd (Value.agg #[vi (1),vi (0),vi (0),vi (0),vi (0),Value.int .u8 (0),vs none 0 0]) Z (fun _=>by kernel_rfl)) Z ?_
    refine W.kl H func21 (fun _ h=>ak.calls h HS.j1 (rdC.nil Z)) ?_
    rintro _ _ w H ⟨rfl,HS⟩
    have HS:=HS.o1
    refine go ?_
    refine W.r (X.bd (Value.agg #[vi (0),vi (0),vi (0),vi (0),vi (w64 (4*t9)),Value.int .u8 (0),vs none 0 0]) Z (fun _=>by kernel_rfl)) Z ?_
    refine W.kl H func21 (fun _ h=>ak.calls h HS.j1 (rdC.nil Z)) ?_
    rintro _ _ w H ⟨rfl,HS⟩
    have HS:=HS.o1
    refine go ?_
    have HS:=aw.close tv (HS.b [1])
    refine V.lj (σ:=Int × ag) [4,13,14] (fun kq (x25,x26) w=>St [aw.at nb8 ({t6 with T1:=1000,Ring:=4000}:aw),ag.at bt11_0 x26,tie (El.sl (El.int .u8)) sd4 a4,R] w0 w∧aA.l0 kq a4 t9 x25 x26=some r∧kq≤k) (fun (x25,x26)=>[(15,vi x25)]) (_,_) ⟨HS,H,Nat.le_refl _⟩ ?_
    rintro kq27 ⟨x25,x26⟩ w ⟨HS,H,_⟩
    cases kq27 with
    |zero=>exact absurd H (by simp [aA.l0])
    |succ kq27=>
     simp only [aA.l0] at H
     refine go ?_
     refine V.cd H Z (fun _ H=>go ?_) (fun _ H=>go ?_)
     ·obtain ⟨c30,H⟩:=ite_n H
      obtain ⟨_,_,hh⟩:=(rdC.at 3 hr4 HS rfl).some (by decide) c30.1 c30.2;subst hh
      refine go ?_
      obtain ⟨_,hc34,HS⟩:=St.tie_at 2 HS rfl ([]) c30.1 c30.2
      obtain ⟨ea35,em36,he38,HN⟩:=St.sl_openF (Value.int .u8) (fun t=>tie_int t) HS;clear HS;subst he38;have HS:=HN
      refine W.r (X.load underlying48 Z Z ((rdC.at 4 hr4 HS Z).cellEl0 (hc34 0 _ Z))) Z (go ?_)
      refine V.cd H Z (fun _ H=>go ?_) (fun _ H=>go ?_)
      ·have HS:=HS.ke [4]
       exact rt
      ·refine W.r (X.load underlying48 Z Z ((rdC.at 4 hr4 HS Z).cellEl0 (hc34 0 _ Z))) Z ?_
       refine W.r (X.bd (Value.agg #[vi (3),vi x25,vi (0),vi (0),vi (0),Value.int .u8 (0),vs ea35 (a4.getD x25.toNat []).length em36]) Z (fun _=>by kernel_rfl)) Z ?_
       have HS:=HS.b [2]
       refine W.kl H func21 (fun _ h=>ak.calls h HS.j1 (rdC.part 0 fsl.rd Z)) ?_
       rintro _ _ w H ⟨rfl,HS⟩
       have HS:=HS.o1
       refine go ?_
       have HS:=HS.ke [2,0,1,1]
       exact At.rn (_,_) ⟨HS,H,by omega⟩
     ·refine W.r (X.bd (Value.agg #[vi (0),vi (0),vi (0),vi (0),vi (w64 ((w64 ((w64 (2+(a4.length:Int)))*2))*t9)),Value.int .u8 (0),vs none 0 0]) Z (fun _=>by kernel_rfl)) Z ?_
      have HS:=HS.b [1]
      refine W.kl H func21 (fun _ h=>ak.calls h HS.j1 (rdC.nil Z)) ?_
      rintro t42 _ w H ⟨rfl,HS⟩
      have HS:=HS.o1
      refine go ?_
      refine V.rs 2 [(4,vs sa4 a4.length sc4),(14,pt bt11_0),(16,vi (0))] (go ?_)
      refine V.rs 2 [(4,vs sa4 a4.length sc4),(14,pt bt11_0),(16,vi (0)),(17,vi (0))] (go ?_)
      obtain ⟨b0_44,_,_,_,_,_,_,_,_,_,_,_,_,_,HS⟩:=ag.open HS
      refine go ?_
      refine W.inl (Y.cl (vs:=[pt b0_44,vi (0)]) func13 (calls_enter func13 Z Z ?_)) Z Z Z
      refine go ?_
      refine W.inl (Y.cl (vs:=[vi (0)]) func53 (calls_enter func53 Z Z ?_)) Z Z Z
      refine go ?_
      refine At.ret1 Z Z ⟨_,Z,?_⟩
      refine go ?_
      have HS:=HS.fr 1
      obtain ⟨_,_,_,_,_,_,_,_,_,_,_,_,_,_,_,_,_,_,_,_,_,_,_,_,_,_,_,_,_,_,_,HS⟩:=ah.open HS
      refine go ?_
      refine At.ret1 Z Z ⟨_,Z,?_⟩
      refine go ?_
      have HS:=HS.fr 1
      obtain ⟨_,_,_,_,_,_,_,_,_,_,HS⟩:=aa.open HS
      refine W.kl H func45 (fun _ h=>bk.calls h HS.j10) ?_
      rintro t50 _ w H ⟨rfl,HS⟩
      have HS:=HS.o10
      refine W.e (Y.alloc (z:=Value.agg (#[vi (0),vi (0),vi (0),vi (0),vi (0),vi (0),vi (0)])) HS ze73) Z ?_
      rintro _ w ⟨nb52,rfl,HS⟩
      refine W.ss HS Z Z Z Z fun w HS=>?_
      refine gs ?_
      refine V.mj (σ:=Bool) [4,14,16,17] (fun x94 w=>St [ag.at bt11_0 t42,aM.at nb52 t50,aw.at nb8 ({t6 with T1:=1000,Ring:=4000}:aw),tie (El.sl (El.int .u8)) sd4 a4,R] w0 w∧∃kf95,kf95≤kq27∧aA.j1 kf95 a4 t42 x94=some r) (fun x94=>[(116,vb x94)]) ?_ ?_
      ·refine go ?_
       refine W.cm 97 H Z (fun _ H=>go ?_) (fun _ H=>go ?_)
       ·refine W.cm 102 H Z (fun _ H=>go ?_) (fun _ H=>go ?_)
        ·refine W.cm 107 H Z (fun _ H=>go ?_) (fun _ H=>go ?_)
         ·refine W.cm 112 H Z (fun _ H=>go ?_) (fun _ H=>go ?_)
          ·have HS:=(aM.close tv ((ag.close tv ((ah.close tv ((aa.close tv (HS.b [1,1,1,1,1,1,1,1,1,1])).b [2,0,1,1,1,1,1,1,1,1,1,1,1,1,1,1,1,1,1,1,1,1,1])).b [2,0,1,1,1,1,1,1,1,1])).b [1])).b [1]
           exact At.mt _ ⟨HS,kq27,by omega,H⟩
          ·have HS:=(aM.close tv ((ag.close tv ((ah.close tv ((aa.close tv (HS.b [1,1,1,1,1,1,1,1,1,1])).b [2,0,1,1,1,1,1,1,1,1,1,1,1,1,1,1,1,1,1,1,1,1,1])).b [2,0,1,1,1,1,1,1,1,1])).b [1])).b [1]
           exact At.mt _ ⟨HS,kq27,by omega,H⟩
         ·have HS:=(aM.close tv ((ag.close tv ((ah.close tv ((aa.close tv (HS.b [1,1,1,1,1,1,1,1,1,1])).b [2,0,1,1,1,1,1,1,1,1,1,1,1,1,1,1,1,1,1,1,1,1,1])).b [2,0,1,1,1,1,1,1,1,1])).b [1])).b [1]
          exact At.mt _ ⟨HS,kq27,by omega,H⟩
        ·have HS:=(aM.close tv ((ag.close tv ((ah.close tv ((aa.close tv (HS.b [1,1,1,1,1,1,1,1,1,1])).b [2,0,1,1,1,1,1,1,1,1,1,1,1,1,1,1,1,1,1,1,1,1,1])).b [2,0,1,1,1,1,1,1,1,1])).b [1])).b [1]
         exact At.mt _ ⟨HS,kq27,by omega,H⟩
       ·have HS:=(aM.close tv ((ag.close tv ((ah.close tv ((aa.close tv (HS.b [1,1,1,1,1,1,1,1,1,1])).b [2,0,1,1,1,1,1,1,1,1,1,1,1,1,1,1,1,1,1,1,1,1,1])).b [2,0,1,1,1,1,1,1,1,1])).b [1])).b [1]
        exact At.mt _ ⟨HS,kq27,by omega,H⟩
      ·rintro x94 w ⟨HS,kf95,_,H⟩
       refine V.cv H Z (fun _ H=>go ?_) (fun _ H=>go ?_)
       ·have HS:=HS.ke [4]
        exact rt
       ·refine At.ow [(4,vs sa4 a4.length sc4),(14,pt bt11_0),(16,vi (0)),(17,vi (1))] (go ?_)
        obtain ⟨b0_97,_,_,_,_,_,_,_,_,_,_,_,_,_,HS⟩:=ag.open HS
        refine go ?_
        refine W.inl (Y.cl (vs:=[pt b0_97,vi (0)]) func13 (calls_enter func13 Z Z ?_)) Z Z Z
        refine go ?_
        refine W.inl (Y.cl (vs:=[vi (0)]) func53 (calls_enter func53 Z Z ?_)) Z Z Z
        refine go ?_
        refine At.ret1 Z Z ⟨_,Z,?_⟩
        refine go ?_
        have HS:=HS.fr 1
        obtain ⟨_,_,_,_,_,_,_,_,_,_,_,_,_,_,_,_,_,_,_,_,_,_,_,_,_,_,_,_,_,_,_,HS⟩:=ah.open HS
        refine go ?_
        refine At.ret1 Z Z ⟨_,Z,?_⟩
        refine go ?_
        have HS:=HS.fr 1
        obtain ⟨_,_,_,_,_,_,_,_,_,_,HS⟩:=aa.open HS
        refine W.kl H func45 (fun _ h=>bk.calls h HS.j10) ?_
        rintro t103 _ w H ⟨rfl,HS⟩
        have HS:=HS.o10
        refine W.e (Y.alloc (z:=Value.agg (#[vi (0),vi (0),vi (0),vi (0),vi (0),vi (0),vi (0)])) HS ze73) Z ?_
        rintro _ w ⟨nb105,rfl,HS⟩
        refine W.ss HS Z Z Z Z fun w HS=>?_
        refine gs ?_
        refine V.mj (σ:=Bool) [4,14,16,17] (fun x147 w=>St [ag.at bt11_0 t42,aM.at nb105 t103,aM.at nb52 t50,aw.at nb8 ({t6 with T1:=1000,Ring:=4000}:aw),tie (El.sl (El.int .u8)) sd4 a4,R] w0 w∧∃kf148,kf148≤kf95∧aA.j2 kf148 a4 t42 x147=some r) (fun x147=>[(116,vb x147)]) ?_ ?_
        ·refine go ?_
         refine W.cm 97 H Z (fun _ H=>go ?_) (fun _ H=>go ?_)
         ·refine W.cm 102 H Z (fun _ H=>go ?_) (fun _ H=>go ?_)
          ·refine W.cm 107 H Z (fun _ H=>go ?_) (fun _ H=>go ?_)
           ·refine W.cm 112 H Z (fun _ H=>go ?_) (fun _ H=>go ?_)
            ·have HS:=(aM.close tv ((ag.close tv ((ah.close tv ((aa.close tv (HS.b [1,1,1,1,1,1,1,1,1,1])).b [2,0,1,1,1,1,1,1,1,1,1,1,1,1,1,1,1,1,1,1,1,1,1])).b [2,0,1,1,1,1,1,1,1,1])).b [1])).b [1]
             exact At.mt _ ⟨HS,kf95,by omega,H⟩
            ·have HS:=(aM.close tv ((ag.close tv ((ah.close tv ((aa.close tv (HS.b [1,1,1,1,1,1,1,1,1,1])).b [2,0,1,1,1,1,1,1,1,1,1,1,1,1,1,1,1,1,1,1,1,1,1])).b [2,0,1,1,1,1,1,1,1,1])).b [1])).b [1]
             exact At.mt _ ⟨HS,kf95,by omega,H⟩
           ·have HS:=(aM.close tv ((ag.close tv ((ah.close tv ((aa.close tv (HS.b [1,1,1,1,1,1,1,1,1,1])).b [2,0,1,1,1,1,1,1,1,1,1,1,1,1,1,1,1,1,1,1,1,1,1])).b [2,0,1,1,1,1,1,1,1,1])).b [1])).b [1]
            exact At.mt _ ⟨HS,kf95,by omega,H⟩
          ·have HS:=(aM.close tv ((ag.close tv ((ah.close tv ((aa.close tv (HS.b [1,1,1,1,1,1,1,1,1,1])).b [2,0,1,1,1,1,1,1,1,1,1,1,1,1,1,1,1,1,1,1,1,1,1])).b [2,0,1,1,1,1,1,1,1,1])).b [1])).b [1]
           exact At.mt _ ⟨HS,kf95,by omega,H⟩
         ·have HS:=(aM.close tv ((ag.close tv ((ah.close tv ((aa.close tv (HS.b [1,1,1,1,1,1,1,1,1,1])).b [2,0,1,1,1,1,1,1,1,1,1,1,1,1,1,1,1,1,1,1,1,1,1])).b [2,0,1,1,1,1,1,1,1,1])).b [1])).b [1]
          exact At.mt _ ⟨HS,kf95,by omega,H⟩
        ·rintro x147 w ⟨HS,kf148,_,H⟩
         refine V.cv H Z (fun _ H=>go ?_) (fun _ H=>go ?_)
         ·have HS:=HS.ke [5]
          exact rt
         ·refine At.ow [(4,vs sa4 a4.length sc4),(14,pt bt11_0),(16,vi (0)),(17,vi (2))] (go ?_)
          refine At.ow [(4,vs sa4 a4.length sc4),(14,pt bt11_0),(16,vi (1))] (go ?_)
          refine V.rs 2 [(4,vs sa4 a4.length sc4),(14,pt bt11_0),(16,vi (1)),(17,vi (0))] (go ?_)
          obtain ⟨b0_150,_,_,_,_,_,_,_,_,_,_,_,_,_,HS⟩:=ag.open HS
          refine go ?_
          refine W.inl (Y.cl (vs:=[pt b0_150,vi (1)]) func13 (calls_enter func13 Z Z ?_)) Z Z Z
          refine go ?_
          refine W.inl (Y.cl (vs:=[vi (1)]) func53 (calls_enter func53 Z Z ?_)) Z Z Z
          refine go ?_
          refine At.ret1 Z Z ⟨_,Z,?_⟩
          refine go ?_
          have HS:=HS.fr 1
          obtain ⟨_,_,_,_,_,_,_,_,_,_,_,_,_,_,_,_,_,_,_,_,_,_,_,_,_,_,_,_,_,_,_,HS⟩:=ah.open HS
          refine go ?_
          refine At.ret1 Z Z ⟨_,Z,?_⟩
          refine go ?_
          have HS:=HS.fr 2
          obtain ⟨_,_,_,_,_,_,_,_,_,_,HS⟩:=aa.open HS
          refine W.kl H func45 (fun _ h=>bk.calls h HS.j10) ?_
          rintro t156 _ w H ⟨rfl,HS⟩
          have HS:=HS.o10
          refine W.e (Y.alloc (z:=Value.agg (#[vi (0),vi (0),vi (0),vi (0),vi (0),vi (0),vi (0)])) HS ze73) Z ?_
          rintro _ w ⟨nb158,rfl,HS⟩
          refine W.ss HS Z Z Z Z fun w HS=>?_
          refine gs ?_
          refine V.mj (σ:=Bool) [4,14,16,17] (fun x200 w=>St [ag.at bt11_0 t42,aM.at nb158 t156,aM.at nb105 t103,aM.at nb52 t50,aw.at nb8 ({t6 with T1:=1000,Ring:=4000}:aw),tie (El.sl (El.int .u8)) sd4 a4,R] w0 w∧∃kf201,kf201≤kf148∧aA.j3 kf201 a4 t42 x200=some r) (fun x200=>[(116,vb x200)]) ?_ ?_
          ·refine go ?_
           refine W.cm 97 H Z (fun _ H=>go ?_) (fun _ H=>go ?_)
           ·refine W.cm 102 H Z (fun _ H=>go ?_) (fun _ H=>go ?_)
            ·refine W.cm 107 H Z (fun _ H=>go ?_) (fun _ H=>go ?_)
             ·refine W.cm 112 H Z (fun _ H=>go ?_) (fun _ H=>go ?_)
              ·have HS:=(aM.close tv ((ag.close tv ((ah.close tv ((aa.close tv (HS.b [1,1,1,1,1,1,1,1,1,1])).b [2,2,0,1,1,1,1,1,1,1,1,1,1,1,1,1,1,1,1,1,1,1,1])).b [2,0,1,1,1,1,1,1,1,1])).b [1])).b [1]
               exact At.mt _ ⟨HS,kf148,by omega,H⟩
              ·have HS:=(aM.close tv ((ag.close tv ((ah.close tv ((aa.close tv (HS.b [1,1,1,1,1,1,1,1,1,1])).b [2,2,0,1,1,1,1,1,1,1,1,1,1,1,1,1,1,1,1,1,1,1,1])).b [2,0,1,1,1,1,1,1,1,1])).b [1])).b [1]
               exact At.mt _ ⟨HS,kf148,by omega,H⟩
             ·have HS:=(aM.close tv ((ag.close tv ((ah.close tv ((aa.close tv (HS.b [1,1,1,1,1,1,1,1,1,1])).b [2,2,0,1,1,1,1,1,1,1,1,1,1,1,1,1,1,1,1,1,1,1,1])).b [2,0,1,1,1,1,1,1,1,1])).b [1])).b [1]
              exact At.mt _ ⟨HS,kf148,by omega,H⟩
            ·have HS:=(aM.close tv ((ag.close tv ((ah.close tv ((aa.close tv (HS.b [1,1,1,1,1,1,1,1,1,1])).b [2,2,0,1,1,1,1,1,1,1,1,1,1,1,1,1,1,1,1,1,1,1,1])).b [2,0,1,1,1,1,1,1,1,1])).b [1])).b [1]
             exact At.mt _ ⟨HS,kf148,by omega,H⟩
           ·have HS:=(aM.close tv ((ag.close tv ((ah.close tv ((aa.close tv (HS.b [1,1,1,1,1,1,1,1,1,1])).b [2,2,0,1,1,1,1,1,1,1,1,1,1,1,1,1,1,1,1,1,1,1,1])).b [2,0,1,1,1,1,1,1,1,1])).b [1])).b [1]
            exact At.mt _ ⟨HS,kf148,by omega,H⟩
          ·rintro x200 w ⟨HS,kf201,_,H⟩
           refine V.cv H Z (fun _ H=>go ?_) (fun _ H=>go ?_)
           ·have HS:=HS.ke [6]
            exact rt
           ·refine At.ow [(4,vs sa4 a4.length sc4),(14,pt bt11_0),(16,vi (1)),(17,vi (1))] (go ?_)
            obtain ⟨b0_203,_,_,_,_,_,_,_,_,_,_,_,_,_,HS⟩:=ag.open HS
            refine go ?_
            refine W.inl (Y.cl (vs:=[pt b0_203,vi (1)]) func13 (calls_enter func13 Z Z ?_)) Z Z Z
            refine go ?_
            refine W.inl (Y.cl (vs:=[vi (1)]) func53 (calls_enter func53 Z Z ?_)) Z Z Z
            refine go ?_
            refine At.ret1 Z Z ⟨_,Z,?_⟩
            refine go ?_
            have HS:=HS.fr 1
            obtain ⟨_,_,_,_,_,_,_,_,_,_,_,_,_,_,_,_,_,_,_,_,_,_,_,_,_,_,_,_,_,_,_,HS⟩:=ah.open HS
            refine go ?_
            refine At.ret1 Z Z ⟨_,Z,?_⟩
            refine go ?_
            have HS:=HS.fr 2
            obtain ⟨_,_,_,_,_,_,_,_,_,_,HS⟩:=aa.open HS
            refine W.kl H func45 (fun _ h=>bk.calls h HS.j10) ?_
            rintro t209 _ w H ⟨rfl,HS⟩
            have HS:=HS.o10
            refine W.e (Y.alloc (z:=Value.agg (#[vi (0),vi (0),vi (0),vi (0),vi (0),vi (0),vi (0)])) HS ze73) Z ?_
            rintro _ w ⟨nb211,rfl,HS⟩
            refine W.ss HS Z Z Z Z fun w HS=>?_
            refine gs ?_
            refine V.mj (σ:=Bool) [4,14,16,17] (fun x253 w=>St [ag.at bt11_0 t42,aM.at nb211 t209,aM.at nb158 t156,aM.at nb105 t103,aM.at nb52 t50,aw.at nb8 ({t6 with T1:=1000,Ring:=4000}:aw),tie (El.sl (El.int .u8)) sd4 a4,R] w0 w∧∃kf254,kf254≤kf201∧aA.j4 kf254 a4 t42 x253=some r) (fun x253=>[(116,vb x253)]) ?_ ?_
            ·refine go ?_
             refine W.cm 97 H Z (fun _ H=>go ?_) (fun _ H=>go ?_)
             ·refine W.cm 102 H Z (fun _ H=>go ?_) (fun _ H=>go ?_)
              ·refine W.cm 107 H Z (fun _ H=>go ?_) (fun _ H=>go ?_)
               ·refine W.cm 112 H Z (fun _ H=>go ?_) (fun _ H=>go ?_)
                ·have HS:=(aM.close tv ((ag.close tv ((ah.close tv ((aa.close tv (HS.b [1,1,1,1,1,1,1,1,1,1])).b [2,2,0,1,1,1,1,1,1,1,1,1,1,1,1,1,1,1,1,1,1,1,1])).b [2,0,1,1,1,1,1,1,1,1])).b [1])).b [1]
                 exact At.mt _ ⟨HS,kf201,by omega,H⟩
                ·have HS:=(aM.close tv ((ag.close tv ((ah.close tv ((aa.close tv (HS.b [1,1,1,1,1,1,1,1,1,1])).b [2,2,0,1,1,1,1,1,1,1,1,1,1,1,1,1,1,1,1,1,1,1,1])).b [2,0,1,1,1,1,1,1,1,1])).b [1])).b [1]
                 exact At.mt _ ⟨HS,kf201,by omega,H⟩
               ·have HS:=(aM.close tv ((ag.close tv ((ah.close tv ((aa.close tv (HS.b [1,1,1,1,1,1,1,1,1,1])).b [2,2,0,1,1,1,1,1,1,1,1,1,1,1,1,1,1,1,1,1,1,1,1])).b [2,0,1,1,1,1,1,1,1,1])).b [1])).b [1]
                exact At.mt _ ⟨HS,kf201,by omega,H⟩
              ·have HS:=(aM.close tv ((ag.close tv ((ah.close tv ((aa.close tv (HS.b [1,1,1,1,1,1,1,1,1,1])).b [2,2,0,1,1,1,1,1,1,1,1,1,1,1,1,1,1,1,1,1,1,1,1])).b [2,0,1,1,1,1,1,1,1,1])).b [1])).b [1]
               exact At.mt _ ⟨HS,kf201,by omega,H⟩
             ·have HS:=(aM.close tv ((ag.close tv ((ah.close tv ((aa.close tv (HS.b [1,1,1,1,1,1,1,1,1,1])).b [2,2,0,1,1,1,1,1,1,1,1,1,1,1,1,1,1,1,1,1,1,1,1])).b [2,0,1,1,1,1,1,1,1,1])).b [1])).b [1]
              exact At.mt _ ⟨HS,kf201,by omega,H⟩
            ·rintro x253 w ⟨HS,kf254,_,H⟩
             refine V.cv H Z (fun _ H=>go ?_) (fun _ H=>go ?_)
             ·have HS:=HS.ke [7]
              exact rt
             ·refine At.ow [(4,vs sa4 a4.length sc4),(14,pt bt11_0),(16,vi (1)),(17,vi (2))] (go ?_)
              refine At.ow [(4,vs sa4 a4.length sc4),(14,pt bt11_0),(16,vi (2))] (go ?_)
              obtain ⟨_,_,_,_,_,_,_,_,_,_,_,_,_,_,HS⟩:=ag.open HS
              have HS:=(tieL.frz (HS.fr 3)).b [1,1,1]
              have HS:=(tieL.frz (HS.fr 5)).b [1,1,1,1,1]
              refine go ?_
              refine W.cd 122 H Z (fun _ H=>go ?_) (fun _ H=>go ?_)
              ·refine W.kl H func25 (fun _ h=>bT.calls h HS.j10) ?_
               rintro _ _ w H ⟨rfl,HS⟩
               have HS:=HS.o10
               refine go ?_
               refine W.kl H func26 (fun _ h=>aL.calls h HS.j10) ?_
               rintro _ _ w H ⟨rfl,HS⟩
               have HS:=HS.o10
               refine go ?_
               refine W.cd 129 H Z (fun _ H=>go ?_) (fun _ H=>go ?_)
               ·refine W.kl H func25 (fun _ h=>bT.calls h HS.j10) ?_
                rintro _ _ w H ⟨rfl,HS⟩
                have HS:=HS.o10
                refine go ?_
                refine W.kl H func26 (fun _ h=>aL.calls h HS.j10) ?_
                rintro _ _ w H ⟨rfl,HS⟩
                have HS:=HS.o10
                refine go ?_
                refine W.cd 136 H Z (fun _ H=>go ?_) (fun _ H=>go ?_)
                ·refine W.kl H func26 (fun _ h=>aL.calls h HS.j10) ?_
                 rintro _ _ w H ⟨rfl,HS⟩
                 have HS:=HS.o10
                 refine go ?_
                 refine W.kl H func26 (fun _ h=>aL.calls h HS.j10) ?_
                 rintro _ _ w H ⟨rfl,HS⟩
                 have HS:=HS.o10
                 refine go ?_
                 refine W.cd 146 H Z (fun _ H=>go ?_) (fun _ H=>go ?_)
                 ·refine W.kl H func23 (fun _ h=>bi.calls h HS.j10) ?_
                  rintro _ _ w H ⟨rfl,HS⟩
                  have HS:=HS.o10
                  refine go ?_
                  refine W.cv 150 H Z (fun _ H=>go ?_) (fun _ H=>go ?_)
                  ·refine W.kl H func22 (fun _ h=>cN.calls h HS.j10) ?_
                   rintro _ _ w H ⟨rfl,HS⟩
                   have HS:=HS.o10
                   refine go ?_
                   have HS:=HS.ke [16]
                   exact rt
                  ·have HS:=HS.ke [16]
                   exact rt
                 ·have HS:=HS.ke [16]
                  exact rt
                ·have HS:=HS.ke [16]
                 exact rt
               ·have HS:=HS.ke [16]
                exact rt
              ·have HS:=HS.ke [16]
               exact rt
 ·have HS:=HS.ke [1]
  exact rt
def aA.Pure:Prop:=∀(a0:Int) (a1:Int) (a2:Int) (a3:Bool) (a4:List (List Int)),(Lit.int .i64 a0).wf=true→(Lit.int .i64 a1).wf=true→(Lit.int .i64 a2).wf=true→(∀z∈a4,((∀z1∈z,(Lit.int .u8 z1).wf=true)∧(z.length:Int)≤9223372036854775807))→(a4.length:Int)≤9223372036854775807→∃k,aA.f k a0 a1 a2 a3 a4=some true
end Go.Proofs.YtaejcbpijdacmaaGreat
