/- WorldClean: the functions that its law reaches, as plain functions, and that the machine's calls come to what these say. Conditions: those that stand at each. -/
import Derived.Test.YtaejcbpijdacmaaGreatRunWorldCleanP6
set_option linter.all false
set_option maxRecDepth 100000
set_option maxHeartbeats 4000000
set_option synthInstance.maxSize 100000
set_option synthInstance.maxHeartbeats 1000000
namespace Go.Proofs.YtaejcbpijdacmaaGreat
open Go.RowKit Go.Proofs.YtaejcbpijdacmaaGreat.Sep Go.Proofs.YtaejcbpijdacmaaGreat.Walk Go.Proofs.Tryz
attribute [local irreducible] V W At T Code.rounds RdO RdOk
set_option autoImplicit true
set_option relaxedAutoImplicit true
mutual
def ak.j0 (k:Nat) (x43:ag):Option ag:=((aj.f k x43).bind fun t45=>some t45)
def ak.l1:Nat→aY→Int→ag→Option ag
 |0,_,_,_=>none
 |k+1,a1,x48,x49=>(if x48<a1.N then ((av.f k x49.W).bind fun t55=>((aj.f k ({x49 with W:=t55}:ag)).bind fun t57=>(ak.l1 k a1 (w64 (x48+1)) t57))) else (ak.j0 k x49))
def ak.j2 (k:Nat) (x129:ag):Option ag:=((aj.f k x129).bind fun t131=>some t131)
def ak.l3:Nat→aY→Int→ag→Option ag
 |0,_,_,_=>none
 |k+1,a1,x134,x135=>(if x134<a1.N then ((av.f k x135.W).bind fun t141=>((aj.f k ({x135 with W:=t141}:ag)).bind fun t143=>(ak.l3 k a1 (w64 (x134+1)) t143))) else (ak.j2 k x135))
def ak.j4 (k:Nat) (x192:ag):Option ag:=((aj.f k x192).bind fun t194=>some t194)
def ak.l5:Nat→aY→Int→ag→Option ag
 |0,_,_,_=>none
 |k+1,a1,x197,x198=>(if x197<a1.N then ((av.f k x198.W).bind fun t204=>((aj.f k ({x198 with W:=t204}:ag)).bind fun t206=>(ak.l5 k a1 (w64 (x197+1)) t206))) else (ak.j4 k x198))
def ak.j6 (k:Nat) (x226:ag):Option ag:=((aj.f k x226).bind fun t228=>some t228)
def ak.l7:Nat→aY→Int→ag→Option ag
 |0,_,_,_=>none
 |k+1,a1,x231,x232=>(if x231<a1.N then ((av.f k x232.W).bind fun t238=>((aj.f k ({x232 with W:=t238}:ag)).bind fun t240=>(ak.l7 k a1 (w64 (x231+1)) t240))) else (ak.j6 k x232))
end
def ak.f (k:Nat) (a0:ag) (a1:aY):Option ag:=(if (iand .i64 a1.At (1))≥0 then (if (iand .i64 a1.At (1))<2 then (if 0≤iand .i64 a1.At (1)∧iand .i64 a1.At (1)<2 then (if iand .i64 a1.At (1)=0 then (if a1.Way=0 then (ak.l1 k a1 0 a0) else (if a1.Way=1 then ((bS.f k a0.W.stations.1).bind fun t60=>(ak.j0 k ({a0 with W:=({a0.W with stations:=(t60.2,a0.W.stations.2),ways:=a0.W.ways}:ah)}:ag))) else (if a1.Way=2 then ((di.f k a0.W.stations.1).bind fun t63=>(ak.j0 k ({a0 with W:=({a0.W with stations:=(t63.2,a0.W.stations.2),ways:=a0.W.ways}:ah)}:ag))) else (if a1.Way=3 then ((bW.f k a0.W.stations.1 a1.B).bind fun t66=>((bt.f t66.1).bind fun t68=>(if t68=0 then (if 0≤w64 ((a0.said.1.length:Int)-1)∧w64 ((a0.said.1.length:Int)-1)<(a0.said.1.length:Int) then (if (([]:List Int).length:Int)+a1.B.length≤1099511627776 then (if ((a0.said.1.getD (w64 ((a0.said.1.length:Int)-1)).toNat []).length:Int)+(([([]:List Int)++a1.B]:List (List Int))).length≤1099511627776 then (ak.j0 k ({a0 with W:=({a0.W with stations:=(t66.2,a0.W.stations.2),ways:=a0.W.ways}:ah),said:=(a0.said.1.set (w64 ((a0.said.1.length:Int)-1)).toNat ((a0.said.1.getD (w64 ((a0.said.1.length:Int)-1)).toNat [])++([([]:List Int)++a1.B]:List (List Int))),a0.said.2)}:ag)) else none) else none) else none) else (ak.j0 k ({a0 with W:=({a0.W with stations:=(t66.2,a0.W.stations.2),ways:=a0.W.ways}:ah)}:ag))))) else (if a1.Way=5 then ((cY.f a0.W.stations.1 a1.N).bind fun t90=>(ak.j0 k ({a0 with W:=({a0.W with stations:=(t90.2,a0.W.stations.2),ways:=a0.W.ways}:ah)}:ag))) else (if a1.Way=6 then ((cL.f a0.W a1.Line a1.At a1.Kind a1.N a1.C).bind fun t93=>(ak.j0 k ({a0 with W:=t93.2}:ag))) else (ak.j0 k a0))))))) else (if a1.Way=0 then (ak.l3 k a1 0 a0) else (if a1.Way=1 then ((bS.f k a0.W.stations.2).bind fun t146=>(ak.j2 k ({a0 with W:=({a0.W with stations:=(a0.W.stations.1,t146.2),ways:=a0.W.ways}:ah)}:ag))) else (if a1.Way=2 then ((di.f k a0.W.stations.2).bind fun t149=>(ak.j2 k ({a0 with W:=({a0.W with stations:=(a0.W.stations.1,t149.2),ways:=a0.W.ways}:ah)}:ag))) else (if a1.Way=3 then ((bW.f k a0.W.stations.2 a1.B).bind fun t152=>((bt.f t152.1).bind fun t154=>(if t154=0 then (if 0≤w64 ((a0.said.2.length:Int)-1)∧w64 ((a0.said.2.length:Int)-1)<(a0.said.2.length:Int) then (if (([]:List Int).length:Int)+a1.B.length≤1099511627776 then (if ((a0.said.2.getD (w64 ((a0.said.2.length:Int)-1)).toNat []).length:Int)+(([([]:List Int)++a1.B]:List (List Int))).length≤1099511627776 then (ak.j2 k ({a0 with W:=({a0.W with stations:=(a0.W.stations.1,t152.2),ways:=a0.W.ways}:ah),said:=(a0.said.1,a0.said.2.set (w64 ((a0.said.2.length:Int)-1)).toNat ((a0.said.2.getD (w64 ((a0.said.2.length:Int)-1)).toNat [])++([([]:List Int)++a1.B]:List (List Int))))}:ag)) else none) else none) else none) else (ak.j2 k ({a0 with W:=({a0.W with stations:=(a0.W.stations.1,t152.2),ways:=a0.W.ways}:ah)}:ag))))) else (if a1.Way=5 then ((cY.f a0.W.stations.2 a1.N).bind fun t176=>(ak.j2 k ({a0 with W:=({a0.W with stations:=(a0.W.stations.1,t176.2),ways:=a0.W.ways}:ah)}:ag))) else (if a1.Way=6 then ((cL.f a0.W a1.Line a1.At a1.Kind a1.N a1.C).bind fun t179=>(ak.j2 k ({a0 with W:=t179.2}:ag))) else (ak.j2 k a0)))))))) else none) else (if a1.Way=0 then (ak.l5 k a1 0 a0) else (if a1.Way=1 then none else (if a1.Way=2 then none else (if a1.Way=3 then none else (if a1.Way=5 then none else (if a1.Way=6 then ((cL.f a0.W a1.Line a1.At a1.Kind a1.N a1.C).bind fun t213=>(ak.j4 k ({a0 with W:=t213.2}:ag))) else (ak.j4 k a0)))))))) else (if a1.Way=0 then (ak.l7 k a1 0 a0) else (if a1.Way=1 then none else (if a1.Way=2 then none else (if a1.Way=3 then none else (if a1.Way=5 then none else (if a1.Way=6 then ((cL.f a0.W a1.Line a1.At a1.Kind a1.N a1.C).bind fun t247=>(ak.j6 k ({a0 with W:=t247.2}:ag))) else (ak.j6 k a0))))))))
theorem ak.calls (H:ak.f k a0 a1=some r) (HS:St [ag.at b0 a0,R] w0 w) (hr1_6:dB R sa1_6 sc1_6 a1.B):Calls Tryz.prog 21 #[pt b0,Value.agg #[vi a1.Way,vi a1.At,vi a1.Line,vi a1.Kind,vi a1.N,Value.int .u8 a1.C,vs sa1_6 a1.B.length sc1_6]] w (Ret fun u w=>u=Value.tuple #[]∧St [ag.at b0 r,R] w0 w):=by
 unfold ak.f at H
 refine calls_enter func21 Z Z ?_
 have H:_=some r:=H
 refine go ?_
 refine W.e (Y.box HS Z) Z ?_
 rintro _ w ⟨nb1,rfl,HS⟩
 refine go ?_
 have HS:=HS.fr 1
 obtain ⟨b0_2,a1_2,c1_2,d1_2,a2_2,c2_2,d2_2,a3_2,c3_2,d3_2,a4_2,c4_2,d4_2,_,HS⟩:=ag.open HS
 apply V.da [7] [8] [(8,_),(9,_),(10,_),(11,_),(12,_),(13,_),(14,_)] mo HS
 rfl
 refine T.e [11,14] [] [0,1,2,3,4,5,6] (fun w HS=>?_) ⟨rd,rd,rd,rd,rd,rd,.n1 13 Z Z (fun w HS=>X.and Z Z),rds⟩
 refine ⟨_,Y.cl (vs:=[pt b0_2,vi (iand .i64 a1.At (1))]) func13 (calls_enter func13 Z Z ?_),fun _ _ h=>h⟩
 refine go ?_
 refine W.inl (Y.cl (vs:=[vi (iand .i64 a1.At (1))]) func53 (calls_enter func53 Z Z ?_)) Z Z Z
 refine go ?_
 refine W.cd 5 H Z (fun _ H=>go ?_) (fun _ H=>go ?_)
 ·refine At.ret1 Z Z ⟨_,Z,?_⟩
  refine go ?_
  refine V.cm H Z (fun _ H=>go ?_) (fun _ H=>go ?_)
  ·have HS:=HS.fr 1
   obtain ⟨b16_6,b17_6,b18_6,a19_6,c19_6,d19_6,a20_6,c20_6,d20_6,b21_6,a22_6,c22_6,d22_6,a23_6,c23_6,d23_6,b24_6,a25_6,c25_6,d25_6,a26_6,c26_6,d26_6,b27_6,a28_6,c28_6,d28_6,a29_6,c29_6,d29_6,_,HS⟩:=ah.open HS
   refine go ?_
   obtain ⟨c8,H⟩:=ite_n H
   refine ite_c H (fun c9 H=>?_) (fun _ H=>?_)
   ·refine W.r (X.indexArK 0 c9 underlying76 inf32 Z Z c8.1 c8.2) Z (go ?_)
    refine At.ret1 Z Z ⟨_,Z,?_⟩
    apply T.na [(15,_),(4,_)] HS
    exact nmk
    refine T.ff [0,3,4] fun w HS=>?_
    refine gs ?_
    refine V.mj (σ:=ag) [0] (fun x43 w=>St [ag.at b0 x43,blk nb1 (#[vi a1.Way,vi a1.At,vi a1.Line,vi a1.Kind,vi a1.N,Value.int .u8 a1.C,vs sa1_6 a1.B.length sc1_6]) 50,R] w0 w∧∃kf44,kf44≤k∧ak.j0 kf44 x43=some r) (fun _=>[]) ?_ ?_
    ·refine go ?_
     refine V.cd H Z (fun _ H=>go ?_) (fun _ H=>go ?_)
     ·have HS:=ag.close tv ((ah.close tv HS).b [1])
      refine V.lj (σ:=Int × ag) [0,3] (fun kq (x48,x49) w=>St [ag.at b0 x49,blk nb1 (#[vi a1.Way,vi a1.At,vi a1.Line,vi a1.Kind,vi a1.N,Value.int .u8 a1.C,vs sa1_6 a1.B.length sc1_6]) 50,R] w0 w∧ak.l1 kq a1 x48 x49=some r∧kq≤k) (fun (x48,x49)=>[(5,vi x48)]) (_,_) ⟨HS,H,Nat.le_refl _⟩ ?_
      rintro kq50 ⟨x48,x49⟩ w ⟨HS,H,_⟩
      cases kq50 with
      |zero=>exact absurd H (by simp [ak.l1])
      |succ kq50=>
       simp only [ak.l1] at H
       refine go ?_
       refine V.cd H Z (fun _ H=>go ?_) (fun _ H=>go ?_)
       ·obtain ⟨_,_,_,_,_,_,_,_,_,_,_,_,_,_,HS⟩:=ag.open HS
        refine go ?_
        have HS:=HS.b [1]
        refine W.kl H func15 (fun _ h=>av.calls h HS.j1) ?_
        rintro _ _ w H ⟨rfl,HS⟩
        have HS:=HS.o1
        refine go ?_
        have HS:=ag.close tv (HS.b [1])
        refine W.kl H func70 (fun _ h=>aj.calls h HS.j1) ?_
        rintro _ _ w H ⟨rfl,HS⟩
        have HS:=HS.o1
        refine go ?_
        exact At.rn (_,_) ⟨HS,H,by omega⟩
       ·exact At.mt _ ⟨HS,kq50,by omega,H⟩
     ·refine V.cd H Z (fun _ H=>go ?_) (fun _ H=>go ?_)
      ·have HS:=HS.b [1]
       refine W.kl H func14 (fun _ h=>bS.calls h HS.j1) ?_
       rintro _ _ w H ⟨rfl,HS⟩
       have HS:=HS.o1
       refine go ?_
       have HS:=ag.close tv ((ah.close tv (HS.b [1])).b [1])
       exact At.mt _ ⟨HS,k,by omega,H⟩
      ·refine V.cd H Z (fun _ H=>go ?_) (fun _ H=>go ?_)
       ·have HS:=HS.b [1]
        refine W.kl H func31 (fun _ h=>di.calls h HS.j1) ?_
        rintro _ _ w H ⟨rfl,HS⟩
        have HS:=HS.o1
        refine go ?_
        have HS:=ag.close tv ((ah.close tv (HS.b [1])).b [1])
        exact At.mt _ ⟨HS,k,by omega,H⟩
       ·refine V.cd H Z (fun _ H=>go ?_) (fun _ H=>go ?_)
        ·have HS:=HS.b [1]
         refine W.kl H func33 (fun _ h=>bW.calls h HS.j1 (rdC.part 32 hr1_6 Z)) ?_
         rintro t66 _ w H ⟨rfl,HS⟩
         have HS:=HS.o1
         refine go ?_
         refine W.kl H func10 (fun _ h=>bt.calls h HS.j0) ?_
         rintro _ _ w H ⟨rfl,HS⟩
         have HS:=HS.o0
         refine go ?_
         refine V.cd H Z (fun _ H=>go ?_) (fun _ H=>go ?_)
         ·apply V.da [] [] [(50,_),(51,_),(52,_),(53,_),(54,_),(55,_),(56,_),(57,_),(58,_),(59,_),(7,_)] mo HS
          rfl
          refine T.ff [0,3,7] (fun w HS=>?_) ⟨rd,rd,rd,.n1 52 Z Z (fun w HS=>X.and Z Z),rd,rd,.n2 53 55 Z Z Z (fun w HS=>X.indexArK 0 c9 underlying54 inf53 Z Z c8.1 c8.2),rds⟩
          refine go ?_
          obtain ⟨c71,H⟩:=ite_n H
          obtain ⟨eb72,eo73,hh⟩:=(rdC.at 24 row_rd HS rfl).some (by decide) c71.1 c71.2;subst hh
          obtain ⟨dz,lz,_,_,ed78,hc75,hz,HS⟩:=tieL.at (HS.fr 25) (fC 24 HS rfl) rfl c71.1 c71.2
          have HS:=HS.b [0,0,1,1,1,1,1,1,1,1,1,1,1,1,1,1,1,1,1,1,1,1,1,1,1,1,1]
          apply V.da [22,23,24,26] [25] [(60,_),(61,_),(62,_),(63,_),(64,_),(65,_),(66,_),(67,_),(68,_),(69,_),(70,_),(71,_),(72,_),(73,_),(74,_),(75,_),(76,_),(77,_),(78,_),(79,_),(80,_),(81,_)] mo HS
          rfl
          refine T.e [81] [25] [20,21] (fun w HS=>?_) ⟨rd,rd,rd,.n1 62 Z Z (fun w HS=>X.and Z Z),rd,rd,.n2 63 65 Z Z Z (fun w HS=>X.indexArK 0 c9 underlying54 inf53 Z Z c8.1 c8.2),rd,rd,rd,rd,rd,.n1 71 Z Z (fun w HS=>X.and Z Z),rd,rd,.n2 72 74 Z Z Z (fun w HS=>X.indexArK 0 c9 underlying54 inf53 Z Z c8.1 c8.2),rd,rd,rd,.n1 78 Z Z (fun w HS=>X.load underlying35 Z Z ((rdC.at 26 row_rd HS Z).cellEl0 (hc75 0 _ Z))),rds⟩
          obtain ⟨_,H⟩:=ite_n H
          have HS:=row_nilF (Value.int .u8) 5 1 HS
          have HS:Sep.St _ w0 w:=HS
          refine ⟨_,Y.appF (Value.int .u8) (fun _=>Z) 0 underlying48 ap5 Z HS Z Z Z (rdC.at 36 hr1_6 HS Z) (by omega) (by omega),?_⟩
          rintro _ w ⟨ra81,rc82,rfl,HS⟩
          refine T.nw HS ?_
          refine T.e [82] [25] [] (fun w HS=>?_) ⟨rd,rd,rd,.n1 62 Z Z (fun w HS=>X.and Z Z),rd,rd,.n2 63 65 Z Z Z (fun w HS=>X.indexArK 0 c9 underlying54 inf53 Z Z c8.1 c8.2),rd,rd,rd,rd,rd,.n1 71 Z Z (fun w HS=>X.and Z Z),rd,rd,.n2 72 74 Z Z Z (fun w HS=>X.indexArK 0 c9 underlying54 inf53 Z Z c8.1 c8.2),rd,rd,rd,.n1 78 Z Z (fun w HS=>X.load underlying35 Z Z ((rdC.at 27 row_rd HS Z).cellEl0 (hc75 0 _ Z))),rds⟩
          have HS:=St.row_freeze HS
          refine ⟨_,Y.lc (e:=48) (sz:=1) [vs ra81 (([]:List Int)++a1.B).length rc82] HS Z Z (fun _=>by kernel_rfl),?_⟩
          rintro _ w ⟨lb83,rfl,HS⟩
          have HS:=St.tie_cons (((St.sl_close (E:=(El.int .u8)) (St.swap (St.put (A:=tie (El.int .u8) ((([]:List Int)++a1.B).map (Value.int .u8)) (([]:List Int)++a1.B)) (fun _=>int_tie) ((St.put (A:=tie (El.sl (El.int .u8)) ([]) (([]:List (List Int)))) (fun _=>tie.nil) HS).more 2 rfl (fun _ t=>t) fsl.pers)))).fr 1).fr 1)
          refine T.nw HS ?_
          refine T.e [79,83] [] [9,10,11,12,13,14,15,16,17,18,19] (fun w HS=>?_) ⟨rd,rd,rd,.n1 62 Z Z (fun w HS=>X.and Z Z),rd,rd,.n2 63 65 Z Z Z (fun w HS=>X.indexArK 0 c9 underlying54 inf53 Z Z c8.1 c8.2),rd,rd,rd,rd,rd,.n1 71 Z Z (fun w HS=>X.and Z Z),rd,rd,.n2 72 74 Z Z Z (fun w HS=>X.indexArK 0 c9 underlying54 inf53 Z Z c8.1 c8.2),rd,rd,rd,.n1 78 Z Z (fun w HS=>X.load underlying35 Z Z ((rdC.at 29 row_rd HS Z).cellEl0 (hc75 0 _ Z))),rds⟩
          obtain ⟨_,H⟩:=ite_n H
          have HS:Sep.St _ w0 w:=HS
          refine ⟨_,Y.app (xs:=a0.said.1.getD (w64 ((a0.said.1.length:Int)-1)).toNat []) (ys:=([([]:List Int)++a1.B]:List (List Int))) 3 underlying35 ap48 Z (by decide) HS Z Z Z (rdC.at 1 row_rd HS Z) (St.tie_one 0 HS Z) (by omega) (by omega),?_⟩
          rintro _ w ⟨ra87,rc88,rfl,HS⟩
          have HS:=St.tie_app 1 (HS.fr 4) rfl
          apply T.na [(84,_),(85,_)] HS
          exact nmk
          refine T.e [84,85] [] [0,1,2,3,4,5,6,7,8,25] (fun w HS=>?_) ⟨rd,rd,rd,.n1 62 Z Z (fun w HS=>X.and Z Z),rd,rd,.n2 63 65 Z Z Z (fun w HS=>X.indexArK 0 c9 underlying54 inf53 Z Z c8.1 c8.2),rds⟩
          have HS:=HS.fr 4
          refine ⟨_,Y.storeRow (v:=vs ra87 ((a0.said.1.getD (w64 ((a0.said.1.length:Int)-1)).toNat [])++([([]:List Int)++a1.B]:List (List Int))).length rc88) 29 HS Z inf35 Z Z (by rfl) c71.1 c71.2,?_⟩
          rintro _ w HS
          refine T.nn HS ?_
          refine T.ff [0] fun w HS=>?_
          have HS:Sep.St [row 48 1 (.slice ra87 ((a0.said.1.getD (w64 ((a0.said.1.length:Int)-1)).toNat [])++([([]:List Int)++a1.B]:List (List Int))).length rc88) ((a0.said.1.getD (w64 ((a0.said.1.length:Int)-1)).toNat [])++([([]:List Int)++a1.B]:List (List Int))).length (ed78++([vs ra81 (([]:List Int)++a1.B).length rc82])),tie (El.sl (El.int .u8)) (ed78++([vs ra81 (([]:List Int)++a1.B).length rc82])) ((a0.said.1.getD (w64 ((a0.said.1.length:Int)-1)).toNat [])++([([]:List Int)++a1.B]:List (List Int))),tie (El.sl (El.int .u8)) ([vs ra81 (([]:List Int)++a1.B).length rc82]) (([([]:List Int)++a1.B]:List (List Int))),row 48 1 (.slice (some ⟨lb83,0,none⟩) (([([]:List Int)++a1.B]:List (List Int))).length 1) (([([]:List Int)++a1.B]:List (List Int))).length ([vs ra81 (([]:List Int)++a1.B).length rc82]),fsl 1 (.slice ra81 (([]:List Int)++a1.B).length rc82) (([]:List Int)++a1.B).length ((([]:List Int)++a1.B).map (Value.int .u8)),aa.at b16_6 t66.2,blk b0_2 (#[vi a0.W.c.Mode,vi a0.W.c.Modulus,vi a0.W.c.Window,vi a0.W.c.T1,vi a0.W.c.N2,vi a0.W.c.Hold,vi a0.W.c.Wait,vi a0.W.c.Keep,vi a0.W.c.Queue,vi a0.W.c.Size,vi a0.W.c.Ring,vi a0.W.c.Rate,vi a0.W.c.Bad,vi a0.W.c.Good,vb a0.W.c.Revert,vb a0.W.c.Wide,pt b16_6,pt b17_6,pt b18_6,vs a19_6 a0.W.ways.1.1.sent.length c19_6,vs a20_6 a0.W.ways.1.1.got.length c20_6,pt b21_6,vs a22_6 a0.W.ways.1.2.sent.length c22_6,vs a23_6 a0.W.ways.1.2.got.length c23_6,pt b24_6,vs a25_6 a0.W.ways.2.1.sent.length c25_6,vs a26_6 a0.W.ways.2.1.got.length c26_6,pt b27_6,vs a28_6 a0.W.ways.2.2.sent.length c28_6,vs a29_6 a0.W.ways.2.2.got.length c29_6,vi a0.W.now]) 83,aa.at b17_6 a0.W.stations.2,au.at b18_6 a0.W.ways.1.1.pipe,row 48 1 (.slice a19_6 a0.W.ways.1.1.sent.length c19_6) a0.W.ways.1.1.sent.length d19_6,tie (El.sl (El.int .u8)) d19_6 a0.W.ways.1.1.sent,row 48 1 (.slice a20_6 a0.W.ways.1.1.got.length c20_6) a0.W.ways.1.1.got.length d20_6,tie (El.sl (El.int .u8)) d20_6 a0.W.ways.1.1.got,au.at b21_6 a0.W.ways.1.2.pipe,row 48 1 (.slice a22_6 a0.W.ways.1.2.sent.length c22_6) a0.W.ways.1.2.sent.length d22_6,tie (El.sl (El.int .u8)) d22_6 a0.W.ways.1.2.sent,row 48 1 (.slice a23_6 a0.W.ways.1.2.got.length c23_6) a0.W.ways.1.2.got.length d23_6,tie (El.sl (El.int .u8)) d23_6 a0.W.ways.1.2.got,au.at b24_6 a0.W.ways.2.1.pipe,row 48 1 (.slice a25_6 a0.W.ways.2.1.sent.length c25_6) a0.W.ways.2.1.sent.length d25_6,tie (El.sl (El.int .u8)) d25_6 a0.W.ways.2.1.sent,row 48 1 (.slice a26_6 a0.W.ways.2.1.got.length c26_6) a0.W.ways.2.1.got.length d26_6,tie (El.sl (El.int .u8)) d26_6 a0.W.ways.2.1.got,au.at b27_6 a0.W.ways.2.2.pipe,row 48 1 (.slice a28_6 a0.W.ways.2.2.sent.length c28_6) a0.W.ways.2.2.sent.length d28_6,tie (El.sl (El.int .u8)) d28_6 a0.W.ways.2.2.sent,row 48 1 (.slice a29_6 a0.W.ways.2.2.got.length c29_6) a0.W.ways.2.2.got.length d29_6,tie (El.sl (El.int .u8)) d29_6 a0.W.ways.2.2.got,blk b0 (#[pt b0_2,vs (some ⟨eb72,eo73,none⟩) (a0.said.1.set (w64 ((a0.said.1.length:Int)-1)).toNat ((a0.said.1.getD (w64 ((a0.said.1.length:Int)-1)).toNat [])++([([]:List Int)++a1.B]:List (List Int)))).length c1_2,vs a2_2 a0.said.2.length c2_2,vs a3_2 a0.heard.1.length c3_2,vs a4_2 a0.heard.2.length c4_2,vi a0.Downs]) 57,row 35 1 (.slice (some ⟨eb72,eo73,none⟩) (a0.said.1.set (w64 ((a0.said.1.length:Int)-1)).toNat ((a0.said.1.getD (w64 ((a0.said.1.length:Int)-1)).toNat [])++([([]:List Int)++a1.B]:List (List Int)))).length c1_2) (a0.said.1.set (w64 ((a0.said.1.length:Int)-1)).toNat ((a0.said.1.getD (w64 ((a0.said.1.length:Int)-1)).toNat [])++([([]:List Int)++a1.B]:List (List Int)))).length (d1_2.set (w64 ((a0.said.1.length:Int)-1)).toNat (vs ra87 ((a0.said.1.getD (w64 ((a0.said.1.length:Int)-1)).toNat [])++([([]:List Int)++a1.B]:List (List Int))).length rc88)),tie (El.sl (El.sl (El.int .u8))) dz lz,row 35 1 (.slice a2_2 a0.said.2.length c2_2) a0.said.2.length d2_2,tieL d2_2 a0.said.2,row 48 1 (.slice a3_2 a0.heard.1.length c3_2) a0.heard.1.length d3_2,tie (El.sl (El.int .u8)) d3_2 a0.heard.1,row 48 1 (.slice a4_2 a0.heard.2.length c4_2) a0.heard.2.length d4_2,tie (El.sl (El.int .u8)) d4_2 a0.heard.2,blk nb1 (#[vi a1.Way,vi a1.At,vi a1.Line,vi a1.Kind,vi a1.N,Value.int .u8 a1.C,vs sa1_6 a1.B.length sc1_6]) 50,R] w0 w:=by rw [List.length_set];exact HS
          have HS:=hz (HS.b [30,0,0])
          refine go ?_
          have HS:=(ag.close tv ((ah.close tv (HS.b [5,4,4,4,4,4,4,4,4,4,4,4,4,4,4,4,4,4,4,4,4,4,4])).b [5,0,4,0,3,3,3,3,3,3])).ke [0,3,3]
          exact At.mt _ ⟨HS,k,by omega,H⟩
         ·have HS:=ag.close tv ((ah.close tv (HS.b [1])).b [1])
          exact At.mt _ ⟨HS,k,by omega,H⟩
        ·refine V.cd H Z (fun _ H=>go ?_) (fun _ H=>go ?_)
         ·have HS:=HS.b [1]
          refine W.kl H func37 (fun _ h=>cY.calls h HS.j1) ?_
          rintro _ _ w H ⟨rfl,HS⟩
          have HS:=HS.o1
          refine go ?_
          have HS:=ag.close tv ((ah.close tv (HS.b [1])).b [1])
          exact At.mt _ ⟨HS,k,by omega,H⟩
         ·refine V.cd H Z (fun _ H=>?_) (fun _ H=>go ?_)
          ·apply V.da [14] [] [(94,_),(95,_),(96,_),(97,_),(98,_),(99,_),(100,_),(101,_),(102,_),(103,_),(104,_),(105,_),(106,_),(107,_)] mo HS
           rfl
           refine T.e [97,99,101,103,105,107] [] [0,1,2,3,4,5,6,7,8,9,10,11,12,13] fun w HS=>?_
           have HS:=ah.close tv HS
           refine Y.kl H func12 (fun _ h=>cL.calls h HS.j1) ?_
           rintro _ _ w H ⟨rfl,HS⟩
           have HS:=HS.o1
           refine T.nw HS ?_
           refine T.ff [0] fun w HS=>?_
           refine go ?_
           have HS:=ag.close tv (HS.b [1])
           exact At.mt _ ⟨HS,k,by omega,H⟩
          ·have HS:=ag.close tv ((ah.close tv HS).b [1])
           exact At.mt _ ⟨HS,k,by omega,H⟩
    ·rintro x43 w ⟨HS,kf44,_,H⟩
     unfold ak.j0 at H
     refine go ?_
     refine W.kl H func70 (fun _ h=>aj.calls h HS.j1) ?_
     rintro _ _ w H ⟨rfl,HS⟩
     have HS:=HS.o1
     refine go ?_
     have HS:=HS.ke [0,1]
     exact rt
   ·have hk95:iand .i64 a1.At (1)=1:=by omega
    refine W.r (X.indexArK 1 hk95 underlying76 inf32 Z Z c8.1 c8.2) Z (go ?_)
    refine At.ret1 Z Z ⟨_,Z,?_⟩
    apply T.na [(15,_),(4,_)] HS
    exact nmk
    refine T.ff [0,3,4] fun w HS=>?_
    refine gs ?_
    refine V.mj (σ:=ag) [0] (fun x129 w=>St [ag.at b0 x129,blk nb1 (#[vi a1.Way,vi a1.At,vi a1.Line,vi a1.Kind,vi a1.N,Value.int .u8 a1.C,vs sa1_6 a1.B.length sc1_6]) 50,R] w0 w∧∃kf130,kf130≤k∧ak.j2 kf130 x129=some r) (fun _=>[]) ?_ ?_
    ·refine go ?_
     refine V.cd H Z (fun _ H=>go ?_) (fun _ H=>go ?_)
     ·have HS:=ag.close tv ((ah.close tv HS).b [1])
      refine V.lj (σ:=Int × ag) [0,3] (fun kq (x134,x135) w=>St [ag.at b0 x135,blk nb1 (#[vi a1.Way,vi a1.At,vi a1.Line,vi a1.Kind,vi a1.N,Value.int .u8 a1.C,vs sa1_6 a1.B.length sc1_6]) 50,R] w0 w∧ak.l3 kq a1 x134 x135=some r∧kq≤k) (fun (x134,x135)=>[(5,vi x134)]) (_,_) ⟨HS,H,Nat.le_refl _⟩ ?_
      rintro kq136 ⟨x134,x135⟩ w ⟨HS,H,_⟩
      cases kq136 with
      |zero=>exact absurd H (by simp [ak.l3])
      |succ kq136=>
       simp only [ak.l3] at H
       refine go ?_
       refine V.cd H Z (fun _ H=>go ?_) (fun _ H=>go ?_)
       ·obtain ⟨_,_,_,_,_,_,_,_,_,_,_,_,_,_,HS⟩:=ag.open HS
        refine go ?_
        have HS:=HS.b [1]
        refine W.kl H func15 (fun _ h=>av.calls h HS.j1) ?_
        rintro _ _ w H ⟨rfl,HS⟩
        have HS:=HS.o1
        refine go ?_
        have HS:=ag.close tv (HS.b [1])
        refine W.kl H func70 (fun _ h=>aj.calls h HS.j1) ?_
        rintro _ _ w H ⟨rfl,HS⟩
        have HS:=HS.o1
        refine go ?_
        exact At.rn (_,_) ⟨HS,H,by omega⟩
       ·exact At.mt _ ⟨HS,kq136,by omega,H⟩
     ·refine V.cd H Z (fun _ H=>go ?_) (fun _ H=>go ?_)
      ·have HS:=HS.b [2]
       refine W.kl H func14 (fun _ h=>bS.calls h HS.j1) ?_
       rintro _ _ w H ⟨rfl,HS⟩
       have HS:=HS.o1
       refine go ?_
       have HS:=ag.close tv ((ah.close tv (HS.b [1,1])).b [1])
       exact At.mt _ ⟨HS,k,by omega,H⟩
      ·refine V.cd H Z (fun _ H=>go ?_) (fun _ H=>go ?_)
       ·have HS:=HS.b [2]
        refine W.kl H func31 (fun _ h=>di.calls h HS.j1) ?_
        rintro _ _ w H ⟨rfl,HS⟩
        have HS:=HS.o1
        refine go ?_
        have HS:=ag.close tv ((ah.close tv (HS.b [1,1])).b [1])
        exact At.mt _ ⟨HS,k,by omega,H⟩
       ·refine V.cd H Z (fun _ H=>go ?_) (fun _ H=>go ?_)
        ·have HS:=HS.b [2]
         refine W.kl H func33 (fun _ h=>bW.calls h HS.j1 (rdC.part 32 hr1_6 Z)) ?_
         rintro t152 _ w H ⟨rfl,HS⟩
         have HS:=HS.o1
         refine go ?_
         refine W.kl H func10 (fun _ h=>bt.calls h HS.j0) ?_
         rintro _ _ w H ⟨rfl,HS⟩
         have HS:=HS.o0
         refine go ?_
         refine V.cd H Z (fun _ H=>go ?_) (fun _ H=>go ?_)
         ·apply V.da [] [] [(50,_),(51,_),(52,_),(53,_),(54,_),(55,_),(56,_),(57,_),(58,_),(59,_),(7,_)] mo HS
          rfl
          refine T.ff [0,3,7] (fun w HS=>?_) ⟨rd,rd,rd,.n1 52 Z Z (fun w HS=>X.and Z Z),rd,rd,.n2 53 55 Z Z Z (fun w HS=>X.indexArK 1 hk95 underlying54 inf53 Z Z c8.1 c8.2),rds⟩
          refine go ?_
          obtain ⟨c157,H⟩:=ite_n H
          obtain ⟨eb158,eo159,hh⟩:=(rdC.at 26 row_rd HS rfl).some (by decide) c157.1 c157.2;subst hh
          obtain ⟨dz,lz,_,_,ed164,hc161,hz,HS⟩:=tieL.at (HS.fr 27) (fC 26 HS rfl) rfl c157.1 c157.2
          have HS:=HS.b [0,0,1,1,1,1,1,1,1,1,1,1,1,1,1,1,1,1,1,1,1,1,1,1,1,1,1,1,1]
          apply V.da [22,23,24,26] [25] [(60,_),(61,_),(62,_),(63,_),(64,_),(65,_),(66,_),(67,_),(68,_),(69,_),(70,_),(71,_),(72,_),(73,_),(74,_),(75,_),(76,_),(77,_),(78,_),(79,_),(80,_),(81,_)] mo HS
          rfl
          refine T.e [81] [25] [20,21] (fun w HS=>?_) ⟨rd,rd,rd,.n1 62 Z Z (fun w HS=>X.and Z Z),rd,rd,.n2 63 65 Z Z Z (fun w HS=>X.indexArK 1 hk95 underlying54 inf53 Z Z c8.1 c8.2),rd,rd,rd,rd,rd,.n1 71 Z Z (fun w HS=>X.and Z Z),rd,rd,.n2 72 74 Z Z Z (fun w HS=>X.indexArK 1 hk95 underlying54 inf53 Z Z c8.1 c8.2),rd,rd,rd,.n1 78 Z Z (fun w HS=>X.load underlying35 Z Z ((rdC.at 28 row_rd HS Z).cellEl0 (hc161 0 _ Z))),rds⟩
          obtain ⟨_,H⟩:=ite_n H
          have HS:=row_nilF (Value.int .u8) 5 1 HS
          have HS:Sep.St _ w0 w:=HS
          refine ⟨_,Y.appF (Value.int .u8) (fun _=>Z) 0 underlying48 ap5 Z HS Z Z Z (rdC.at 36 hr1_6 HS Z) (by omega) (by omega),?_⟩
          rintro _ w ⟨ra167,rc168,rfl,HS⟩
          refine T.nw HS ?_
          refine T.e [82] [25] [] (fun w HS=>?_) ⟨rd,rd,rd,.n1 62 Z Z (fun w HS=>X.and Z Z),rd,rd,.n2 63 65 Z Z Z (fun w HS=>X.indexArK 1 hk95 underlying54 inf53 Z Z c8.1 c8.2),rd,rd,rd,rd,rd,.n1 71 Z Z (fun w HS=>X.and Z Z),rd,rd,.n2 72 74 Z Z Z (fun w HS=>X.indexArK 1 hk95 underlying54 inf53 Z Z c8.1 c8.2),rd,rd,rd,.n1 78 Z Z (fun w HS=>X.load underlying35 Z Z ((rdC.at 29 row_rd HS Z).cellEl0 (hc161 0 _ Z))),rds⟩
          have HS:=St.row_freeze HS
          refine ⟨_,Y.lc (e:=48) (sz:=1) [vs ra167 (([]:List Int)++a1.B).length rc168] HS Z Z (fun _=>by kernel_rfl),?_⟩
          rintro _ w ⟨lb169,rfl,HS⟩
          have HS:=St.tie_cons (((St.sl_close (E:=(El.int .u8)) (St.swap (St.put (A:=tie (El.int .u8) ((([]:List Int)++a1.B).map (Value.int .u8)) (([]:List Int)++a1.B)) (fun _=>int_tie) ((St.put (A:=tie (El.sl (El.int .u8)) ([]) (([]:List (List Int)))) (fun _=>tie.nil) HS).more 2 rfl (fun _ t=>t) fsl.pers)))).fr 1).fr 1)
          refine T.nw HS ?_
          refine T.e [79,83] [] [9,10,11,12,13,14,15,16,17,18,19] (fun w HS=>?_) ⟨rd,rd,rd,.n1 62 Z Z (fun w HS=>X.and Z Z),rd,rd,.n2 63 65 Z Z Z (fun w HS=>X.indexArK 1 hk95 underlying54 inf53 Z Z c8.1 c8.2),rd,rd,rd,rd,rd,.n1 71 Z Z (fun w HS=>X.and Z Z),rd,rd,.n2 72 74 Z Z Z (fun w HS=>X.indexArK 1 hk95 underlying54 inf53 Z Z c8.1 c8.2),rd,rd,rd,.n1 78 Z Z (fun w HS=>X.load underlying35 Z Z ((rdC.at 31 row_rd HS Z).cellEl0 (hc161 0 _ Z))),rds⟩
          obtain ⟨_,H⟩:=ite_n H
          have HS:Sep.St _ w0 w:=HS
          refine ⟨_,Y.app (xs:=a0.said.2.getD (w64 ((a0.said.2.length:Int)-1)).toNat []) (ys:=([([]:List Int)++a1.B]:List (List Int))) 3 underlying35 ap48 Z (by decide) HS Z Z Z (rdC.at 1 row_rd HS Z) (St.tie_one 0 HS Z) (by omega) (by omega),?_⟩
          rintro _ w ⟨ra173,rc174,rfl,HS⟩
          have HS:=St.tie_app 1 (HS.fr 4) rfl
          apply T.na [(84,_),(85,_)] HS
          exact nmk
          refine T.e [84,85] [] [0,1,2,3,4,5,6,7,8,25] (fun w HS=>?_) ⟨rd,rd,rd,.n1 62 Z Z (fun w HS=>X.and Z Z),rd,rd,.n2 63 65 Z Z Z (fun w HS=>X.indexArK 1 hk95 underlying54 inf53 Z Z c8.1 c8.2),rds⟩
          have HS:=HS.fr 4
          refine ⟨_,Y.storeRow (v:=vs ra173 ((a0.said.2.getD (w64 ((a0.said.2.length:Int)-1)).toNat [])++([([]:List Int)++a1.B]:List (List Int))).length rc174) 31 HS Z inf35 Z Z (by rfl) c157.1 c157.2,?_⟩
          rintro _ w HS
          refine T.nn HS ?_
          refine T.ff [0] fun w HS=>?_
          have HS:Sep.St [row 48 1 (.slice ra173 ((a0.said.2.getD (w64 ((a0.said.2.length:Int)-1)).toNat [])++([([]:List Int)++a1.B]:List (List Int))).length rc174) ((a0.said.2.getD (w64 ((a0.said.2.length:Int)-1)).toNat [])++([([]:List Int)++a1.B]:List (List Int))).length (ed164++([vs ra167 (([]:List Int)++a1.B).length rc168])),tie (El.sl (El.int .u8)) (ed164++([vs ra167 (([]:List Int)++a1.B).length rc168])) ((a0.said.2.getD (w64 ((a0.said.2.length:Int)-1)).toNat [])++([([]:List Int)++a1.B]:List (List Int))),tie (El.sl (El.int .u8)) ([vs ra167 (([]:List Int)++a1.B).length rc168]) (([([]:List Int)++a1.B]:List (List Int))),row 48 1 (.slice (some ⟨lb169,0,none⟩) (([([]:List Int)++a1.B]:List (List Int))).length 1) (([([]:List Int)++a1.B]:List (List Int))).length ([vs ra167 (([]:List Int)++a1.B).length rc168]),fsl 1 (.slice ra167 (([]:List Int)++a1.B).length rc168) (([]:List Int)++a1.B).length ((([]:List Int)++a1.B).map (Value.int .u8)),aa.at b17_6 t152.2,blk b0_2 (#[vi a0.W.c.Mode,vi a0.W.c.Modulus,vi a0.W.c.Window,vi a0.W.c.T1,vi a0.W.c.N2,vi a0.W.c.Hold,vi a0.W.c.Wait,vi a0.W.c.Keep,vi a0.W.c.Queue,vi a0.W.c.Size,vi a0.W.c.Ring,vi a0.W.c.Rate,vi a0.W.c.Bad,vi a0.W.c.Good,vb a0.W.c.Revert,vb a0.W.c.Wide,pt b16_6,pt b17_6,pt b18_6,vs a19_6 a0.W.ways.1.1.sent.length c19_6,vs a20_6 a0.W.ways.1.1.got.length c20_6,pt b21_6,vs a22_6 a0.W.ways.1.2.sent.length c22_6,vs a23_6 a0.W.ways.1.2.got.length c23_6,pt b24_6,vs a25_6 a0.W.ways.2.1.sent.length c25_6,vs a26_6 a0.W.ways.2.1.got.length c26_6,pt b27_6,vs a28_6 a0.W.ways.2.2.sent.length c28_6,vs a29_6 a0.W.ways.2.2.got.length c29_6,vi a0.W.now]) 83,aa.at b16_6 a0.W.stations.1,au.at b18_6 a0.W.ways.1.1.pipe,row 48 1 (.slice a19_6 a0.W.ways.1.1.sent.length c19_6) a0.W.ways.1.1.sent.length d19_6,tie (El.sl (El.int .u8)) d19_6 a0.W.ways.1.1.sent,row 48 1 (.slice a20_6 a0.W.ways.1.1.got.length c20_6) a0.W.ways.1.1.got.length d20_6,tie (El.sl (El.int .u8)) d20_6 a0.W.ways.1.1.got,au.at b21_6 a0.W.ways.1.2.pipe,row 48 1 (.slice a22_6 a0.W.ways.1.2.sent.length c22_6) a0.W.ways.1.2.sent.length d22_6,tie (El.sl (El.int .u8)) d22_6 a0.W.ways.1.2.sent,row 48 1 (.slice a23_6 a0.W.ways.1.2.got.length c23_6) a0.W.ways.1.2.got.length d23_6,tie (El.sl (El.int .u8)) d23_6 a0.W.ways.1.2.got,au.at b24_6 a0.W.ways.2.1.pipe,row 48 1 (.slice a25_6 a0.W.ways.2.1.sent.length c25_6) a0.W.ways.2.1.sent.length d25_6,tie (El.sl (El.int .u8)) d25_6 a0.W.ways.2.1.sent,row 48 1 (.slice a26_6 a0.W.ways.2.1.got.length c26_6) a0.W.ways.2.1.got.length d26_6,tie (El.sl (El.int .u8)) d26_6 a0.W.ways.2.1.got,au.at b27_6 a0.W.ways.2.2.pipe,row 48 1 (.slice a28_6 a0.W.ways.2.2.sent.length c28_6) a0.W.ways.2.2.sent.length d28_6,tie (El.sl (El.int .u8)) d28_6 a0.W.ways.2.2.sent,row 48 1 (.slice a29_6 a0.W.ways.2.2.got.length c29_6) a0.W.ways.2.2.got.length d29_6,tie (El.sl (El.int .u8)) d29_6 a0.W.ways.2.2.got,blk b0 (#[pt b0_2,vs a1_2 a0.said.1.length c1_2,vs (some ⟨eb158,eo159,none⟩) (a0.said.2.set (w64 ((a0.said.2.length:Int)-1)).toNat ((a0.said.2.getD (w64 ((a0.said.2.length:Int)-1)).toNat [])++([([]:List Int)++a1.B]:List (List Int)))).length c2_2,vs a3_2 a0.heard.1.length c3_2,vs a4_2 a0.heard.2.length c4_2,vi a0.Downs]) 57,row 35 1 (.slice a1_2 a0.said.1.length c1_2) a0.said.1.length d1_2,tieL d1_2 a0.said.1,row 35 1 (.slice (some ⟨eb158,eo159,none⟩) (a0.said.2.set (w64 ((a0.said.2.length:Int)-1)).toNat ((a0.said.2.getD (w64 ((a0.said.2.length:Int)-1)).toNat [])++([([]:List Int)++a1.B]:List (List Int)))).length c2_2) (a0.said.2.set (w64 ((a0.said.2.length:Int)-1)).toNat ((a0.said.2.getD (w64 ((a0.said.2.length:Int)-1)).toNat [])++([([]:List Int)++a1.B]:List (List Int)))).length (d2_2.set (w64 ((a0.said.2.length:Int)-1)).toNat (vs ra173 ((a0.said.2.getD (w64 ((a0.said.2.length:Int)-1)).toNat [])++([([]:List Int)++a1.B]:List (List Int))).length rc174)),tie (El.sl (El.sl (El.int .u8))) dz lz,row 48 1 (.slice a3_2 a0.heard.1.length c3_2) a0.heard.1.length d3_2,tie (El.sl (El.int .u8)) d3_2 a0.heard.1,row 48 1 (.slice a4_2 a0.heard.2.length c4_2) a0.heard.2.length d4_2,tie (El.sl (El.int .u8)) d4_2 a0.heard.2,blk nb1 (#[vi a1.Way,vi a1.At,vi a1.Line,vi a1.Kind,vi a1.N,Value.int .u8 a1.C,vs sa1_6 a1.B.length sc1_6]) 50,R] w0 w:=by rw [List.length_set];exact HS
          have HS:=hz (HS.b [32,0,0])
          refine go ?_
          have HS:=(ag.close tv ((ah.close tv (HS.b [5,5,4,4,4,4,4,4,4,4,4,4,4,4,4,4,4,4,4,4,4,4,4])).b [5,0,4,4,4,0,3,3,3,3])).ke [0,3,3]
          exact At.mt _ ⟨HS,k,by omega,H⟩
         ·have HS:=ag.close tv ((ah.close tv (HS.b [1,1])).b [1])
          exact At.mt _ ⟨HS,k,by omega,H⟩
        ·refine V.cd H Z (fun _ H=>go ?_) (fun _ H=>go ?_)
         ·have HS:=HS.b [2]
          refine W.kl H func37 (fun _ h=>cY.calls h HS.j1) ?_
          rintro _ _ w H ⟨rfl,HS⟩
          have HS:=HS.o1
          refine go ?_
          have HS:=ag.close tv ((ah.close tv (HS.b [1,1])).b [1])
          exact At.mt _ ⟨HS,k,by omega,H⟩
         ·refine V.cd H Z (fun _ H=>?_) (fun _ H=>go ?_)
          ·apply V.da [14] [] [(94,_),(95,_),(96,_),(97,_),(98,_),(99,_),(100,_),(101,_),(102,_),(103,_),(104,_),(105,_),(106,_),(107,_)] mo HS
           rfl
           refine T.e [97,99,101,103,105,107] [] [0,1,2,3,4,5,6,7,8,9,10,11,12,13] fun w HS=>?_
           have HS:=ah.close tv HS
           refine Y.kl H func12 (fun _ h=>cL.calls h HS.j1) ?_
           rintro _ _ w H ⟨rfl,HS⟩
           have HS:=HS.o1
           refine T.nw HS ?_
           refine T.ff [0] fun w HS=>?_
           refine go ?_
           have HS:=ag.close tv (HS.b [1])
           exact At.mt _ ⟨HS,k,by omega,H⟩
          ·have HS:=ag.close tv ((ah.close tv HS).b [1])
           exact At.mt _ ⟨HS,k,by omega,H⟩
    ·rintro x129 w ⟨HS,kf130,_,H⟩
     unfold ak.j2 at H
     refine go ?_
     refine W.kl H func70 (fun _ h=>aj.calls h HS.j1) ?_
     rintro _ _ w H ⟨rfl,HS⟩
     have HS:=HS.o1
     refine go ?_
     have HS:=HS.ke [0,1]
     exact rt
  ·refine At.ret1 Z Z ⟨_,Z,?_⟩
   apply T.na [(15,_),(4,_)] HS
   exact nmk
   refine T.ff [0,3,4] fun w HS=>?_
   refine gs ?_
   refine V.mj (σ:=ag) [0] (fun x192 w=>St [ag.at b0 x192,blk nb1 (#[vi a1.Way,vi a1.At,vi a1.Line,vi a1.Kind,vi a1.N,Value.int .u8 a1.C,vs sa1_6 a1.B.length sc1_6]) 50,R] w0 w∧∃kf193,kf193≤k∧ak.j4 kf193 x192=some r) (fun _=>[]) ?_ ?_
   ·refine go ?_
    refine V.cd H Z (fun _ H=>go ?_) (fun _ H=>go ?_)
    ·have HS:=ag.close tv HS
     refine V.lj (σ:=Int × ag) [0,3] (fun kq (x197,x198) w=>St [ag.at b0 x198,blk nb1 (#[vi a1.Way,vi a1.At,vi a1.Line,vi a1.Kind,vi a1.N,Value.int .u8 a1.C,vs sa1_6 a1.B.length sc1_6]) 50,R] w0 w∧ak.l5 kq a1 x197 x198=some r∧kq≤k) (fun (x197,x198)=>[(5,vi x197)]) (_,_) ⟨HS,H,Nat.le_refl _⟩ ?_
     rintro kq199 ⟨x197,x198⟩ w ⟨HS,H,_⟩
     cases kq199 with
     |zero=>exact absurd H (by simp [ak.l5])
     |succ kq199=>
      simp only [ak.l5] at H
      refine go ?_
      refine V.cd H Z (fun _ H=>go ?_) (fun _ H=>go ?_)
      ·obtain ⟨_,_,_,_,_,_,_,_,_,_,_,_,_,_,HS⟩:=ag.open HS
       refine go ?_
       have HS:=HS.b [1]
       refine W.kl H func15 (fun _ h=>av.calls h HS.j1) ?_
       rintro _ _ w H ⟨rfl,HS⟩
       have HS:=HS.o1
       refine go ?_
       have HS:=ag.close tv (HS.b [1])
       refine W.kl H func70 (fun _ h=>aj.calls h HS.j1) ?_
       rintro _ _ w H ⟨rfl,HS⟩
       have HS:=HS.o1
       refine go ?_
       exact At.rn (_,_) ⟨HS,H,by omega⟩
      ·exact At.mt _ ⟨HS,kq199,by omega,H⟩
    ·refine V.cd H Z (fun _ H=>go ?_) (fun _ H=>go ?_)
     ·exact nomatch H
     ·refine V.cd H Z (fun _ H=>go ?_) (fun _ H=>go ?_)
      ·exact nomatch H
      ·refine V.cd H Z (fun _ H=>go ?_) (fun _ H=>go ?_)
       ·exact nomatch H
       ·refine V.cd H Z (fun _ H=>go ?_) (fun _ H=>go ?_)
        ·exact nomatch H
        ·refine V.cd H Z (fun _ H=>?_) (fun _ H=>go ?_)
         ·apply V.da [14] [] [(94,_),(95,_),(96,_),(97,_),(98,_),(99,_),(100,_),(101,_),(102,_),(103,_),(104,_),(105,_),(106,_),(107,_)] mo HS
          rfl
          refine T.e [97,99,101,103,105,107] [] [0,1,2,3,4,5,6,7,8,9,10,11,12,13] fun w HS=>?_
          have HS:=HS.b [1]
          refine Y.kl H func12 (fun _ h=>cL.calls h HS.j1) ?_
          rintro _ _ w H ⟨rfl,HS⟩
          have HS:=HS.o1
          refine T.nw HS ?_
          refine T.ff [0] fun w HS=>?_
          refine go ?_
          have HS:=ag.close tv (HS.b [1])
          exact At.mt _ ⟨HS,k,by omega,H⟩
         ·have HS:=ag.close tv HS
          exact At.mt _ ⟨HS,k,by omega,H⟩
   ·rintro x192 w ⟨HS,kf193,_,H⟩
    unfold ak.j4 at H
    refine go ?_
    refine W.kl H func70 (fun _ h=>aj.calls h HS.j1) ?_
    rintro _ _ w H ⟨rfl,HS⟩
    have HS:=HS.o1
    refine go ?_
    have HS:=HS.ke [0,1]
    exact rt
 ·refine At.ret1 Z Z ⟨_,Z,?_⟩
  refine go ?_
  refine At.ret1 Z Z ⟨_,Z,?_⟩
  apply T.na [(15,_),(4,_)] HS
  exact nmk
  refine T.ff [0,3,4] fun w HS=>?_
  refine gs ?_
  refine V.mj (σ:=ag) [0] (fun x226 w=>St [ag.at b0 x226,blk nb1 (#[vi a1.Way,vi a1.At,vi a1.Line,vi a1.Kind,vi a1.N,Value.int .u8 a1.C,vs sa1_6 a1.B.length sc1_6]) 50,R] w0 w∧∃kf227,kf227≤k∧ak.j6 kf227 x226=some r) (fun _=>[]) ?_ ?_
  ·refine go ?_
   refine V.cd H Z (fun _ H=>go ?_) (fun _ H=>go ?_)
   ·have HS:=ag.close tv HS
    refine V.lj (σ:=Int × ag) [0,3] (fun kq (x231,x232) w=>St [ag.at b0 x232,blk nb1 (#[vi a1.Way,vi a1.At,vi a1.Line,vi a1.Kind,vi a1.N,Value.int .u8 a1.C,vs sa1_6 a1.B.length sc1_6]) 50,R] w0 w∧ak.l7 kq a1 x231 x232=some r∧kq≤k) (fun (x231,x232)=>[(5,vi x231)]) (_,_) ⟨HS,H,Nat.le_refl _⟩ ?_
    rintro kq233 ⟨x231,x232⟩ w ⟨HS,H,_⟩
    cases kq233 with
    |zero=>exact absurd H (by simp [ak.l7])
    |succ kq233=>
     simp only [ak.l7] at H
     refine go ?_
     refine V.cd H Z (fun _ H=>go ?_) (fun _ H=>go ?_)
     ·obtain ⟨_,_,_,_,_,_,_,_,_,_,_,_,_,_,HS⟩:=ag.open HS
      refine go ?_
      have HS:=HS.b [1]
      refine W.kl H func15 (fun _ h=>av.calls h HS.j1) ?_
      rintro _ _ w H ⟨rfl,HS⟩
      have HS:=HS.o1
      refine go ?_
      have HS:=ag.close tv (HS.b [1])
      refine W.kl H func70 (fun _ h=>aj.calls h HS.j1) ?_
      rintro _ _ w H ⟨rfl,HS⟩
      have HS:=HS.o1
      refine go ?_
      exact At.rn (_,_) ⟨HS,H,by omega⟩
     ·exact At.mt _ ⟨HS,kq233,by omega,H⟩
   ·refine V.cd H Z (fun _ H=>go ?_) (fun _ H=>go ?_)
    ·exact nomatch H
    ·refine V.cd H Z (fun _ H=>go ?_) (fun _ H=>go ?_)
     ·exact nomatch H
     ·refine V.cd H Z (fun _ H=>go ?_) (fun _ H=>go ?_)
      ·exact nomatch H
      ·refine V.cd H Z (fun _ H=>go ?_) (fun _ H=>go ?_)
       ·exact nomatch H
       ·refine V.cd H Z (fun _ H=>?_) (fun _ H=>go ?_)
        ·apply V.da [14] [] [(94,_),(95,_),(96,_),(97,_),(98,_),(99,_),(100,_),(101,_),(102,_),(103,_),(104,_),(105,_),(106,_),(107,_)] mo HS
         rfl
         refine T.e [97,99,101,103,105,107] [] [0,1,2,3,4,5,6,7,8,9,10,11,12,13] fun w HS=>?_
         have HS:=HS.b [1]
         refine Y.kl H func12 (fun _ h=>cL.calls h HS.j1) ?_
         rintro _ _ w H ⟨rfl,HS⟩
         have HS:=HS.o1
         refine T.nw HS ?_
         refine T.ff [0] fun w HS=>?_
         refine go ?_
         have HS:=ag.close tv (HS.b [1])
         exact At.mt _ ⟨HS,k,by omega,H⟩
        ·have HS:=ag.close tv HS
         exact At.mt _ ⟨HS,k,by omega,H⟩
  ·rintro x226 w ⟨HS,kf227,_,H⟩
   unfold ak.j6 at H
   refine go ?_
   refine W.kl H func70 (fun _ h=>aj.calls h HS.j1) ?_
   rintro _ _ w H ⟨rfl,HS⟩
   have HS:=HS.o1
   refine go ?_
   have HS:=HS.ke [0,1]
   exact rt
def dM.f (a0:aJ):Option Int:=some a0.dropped
theorem dM.calls (H:dM.f a0=some r) (HS:St [blk b0 (#[vi a0.room,vs a1_p0 a0.b.length c1_p0,vi a0.begun,vs a3_p0 a0.pieces.length c3_p0,vi a0.dropped]) 195,rB a1_p0 c1_p0 a0.b,row 3 1 (.slice a3_p0 a0.pieces.length c3_p0) a0.pieces.length (a0.pieces.map (Value.int .i64)),R] w0 w):Calls Tryz.prog 100 #[pt b0] w (Ret fun u w=>u=vi r∧St [blk b0 (#[vi a0.room,vs a1_p0 a0.b.length c1_p0,vi a0.begun,vs a3_p0 a0.pieces.length c3_p0,vi a0.dropped]) 195,rB a1_p0 c1_p0 a0.b,row 3 1 (.slice a3_p0 a0.pieces.length c3_p0) a0.pieces.length (a0.pieces.map (Value.int .i64)),R] w0 w):=by
 refine calls_enter func100 Z Z (go ?_)
 exact rt
abbrev aM.Q (b:Nat) (l0 l1 l2 l3 l4 l5 l6:Int) (L:List As):List As:=blk b (#[vi l0,vi l1,vi l2,vi l3,vi l4,vi l5,vi l6]) 73::L
abbrev aM.P (b:Nat) (x:aM) (L:List As):List As:=aM.Q b x.Good x.Bad x.Aborts x.Runts x.Giants x.Dropped x.Twins L
def aM.at (b:Nat) (x:aM):As:=fun h=>True∧Sp (aM.P b x []) h
theorem aM.open {b:Nat} {x:aM} {L:List As} {w0 w:World} (hs:Sep.St (aM.at b x::L) w0 w):True∧Sep.St (aM.P b x L) w0 w:=by
 obtain ⟨ho,ht,hu,h,hon,h1,h2,hd,e1,e2,⟨hi,hA⟩,hl⟩:=hs
 exact ⟨hi,St.open (m:=aM.P b x []) ⟨ho,ht,hu,h,hon,h1,h2,hd,e1,e2,hA,hl⟩⟩
theorem aM.close {b:Nat} {l0 l1 l2 l3 l4 l5 l6:Int} {L:List As} {w0 w:World} (hi:True) (hs:Sep.St (aM.Q b l0 l1 l2 l3 l4 l5 l6 L) w0 w):Sep.St (aM.at b ({Good:=l0,Bad:=l1,Aborts:=l2,Runts:=l3,Giants:=l4,Dropped:=l5,Twins:=l6}:aM)::L) w0 w:=by
 have h2:=St.join (m:=aM.Q b l0 l1 l2 l3 l4 l5 l6 []) hs
 exact h2.mono fun h hh=>⟨hi,hh⟩
mutual
def bk.j0 (a0:aa) (a1:Int) (x17:aM):Option aM:=(if 0≤a1∧a1<2 then (if a1=0 then ((dM.f a0.sides.1.ring).bind fun t23=>some ({x17 with Dropped:=t23}:aM)) else ((dM.f a0.sides.2.ring).bind fun t33=>some ({x17 with Dropped:=t33}:aM))) else none)
end
def bk.f (a0:aa) (a1:Int):Option aM:=((cK.f a1).bind fun t13=>(if t13=true then (if 0≤a1∧a1<2 then (if a1=0 then (bk.j0 a0 a1 a0.sides.1.counts) else (bk.j0 a0 a1 a0.sides.2.counts)) else none) else some ({Good:=0,Bad:=0,Aborts:=0,Runts:=0,Giants:=0,Dropped:=0,Twins:=0}:aM)))
theorem bk.calls (H:bk.f a0 a1=some r) (HS:St [blk b0 (#[vi a0.c.Mode,vi a0.c.Modulus,vi a0.c.Window,vi a0.c.T1,vi a0.c.N2,vi a0.c.Hold,vi a0.c.Wait,vi a0.c.Keep,vi a0.c.Queue,vi a0.c.Size,vi a0.c.Ring,vi a0.c.Rate,vi a0.c.Bad,vi a0.c.Good,vb a0.c.Revert,vb a0.c.Wide,pt b16_p0,pt b17_p0,pt b18_p0,Value.int .u32 a0.number,vi a0.steps,vi a0.line,pt b22_p0,pt b23_p0,pt b24_p0,vi a0.sides.1.counts.Good,vi a0.sides.1.counts.Bad,vi a0.sides.1.counts.Aborts,vi a0.sides.1.counts.Runts,vi a0.sides.1.counts.Giants,vi a0.sides.1.counts.Dropped,vi a0.sides.1.counts.Twins,pt b32_p0,pt b33_p0,pt b34_p0,vi a0.sides.2.counts.Good,vi a0.sides.2.counts.Bad,vi a0.sides.2.counts.Aborts,vi a0.sides.2.counts.Runts,vi a0.sides.2.counts.Giants,vi a0.sides.2.counts.Dropped,vi a0.sides.2.counts.Twins]) 103,ae.at b16_p0 a0.arq,aH.at b17_p0 a0.aps,aK.at b18_p0 a0.twins,az.at b22_p0 a0.sides.1.reader,ap.at b23_p0 a0.sides.1.monitor,aJ.at b24_p0 a0.sides.1.ring,az.at b32_p0 a0.sides.2.reader,ap.at b33_p0 a0.sides.2.monitor,aJ.at b34_p0 a0.sides.2.ring,R] w0 w):Calls Tryz.prog 45 #[pt b0,vi a1] w (Ret fun u w=>u=Value.agg #[vi r.Good,vi r.Bad,vi r.Aborts,vi r.Runts,vi r.Giants,vi r.Dropped,vi r.Twins]∧St [blk b0 (#[vi a0.c.Mode,vi a0.c.Modulus,vi a0.c.Window,vi a0.c.T1,vi a0.c.N2,vi a0.c.Hold,vi a0.c.Wait,vi a0.c.Keep,vi a0.c.Queue,vi a0.c.Size,vi a0.c.Ring,vi a0.c.Rate,vi a0.c.Bad,vi a0.c.Good,vb a0.c.Revert,vb a0.c.Wide,pt b16_p0,pt b17_p0,pt b18_p0,Value.int .u32 a0.number,vi a0.steps,vi a0.line,pt b22_p0,pt b23_p0,pt b24_p0,vi a0.sides.1.counts.Good,vi a0.sides.1.counts.Bad,vi a0.sides.1.counts.Aborts,vi a0.sides.1.counts.Runts,vi a0.sides.1.counts.Giants,vi a0.sides.1.counts.Dropped,vi a0.sides.1.counts.Twins,pt b32_p0,pt b33_p0,pt b34_p0,vi a0.sides.2.counts.Good,vi a0.sides.2.counts.Bad,vi a0.sides.2.counts.Aborts,vi a0.sides.2.counts.Runts,vi a0.sides.2.counts.Giants,vi a0.sides.2.counts.Dropped,vi a0.sides.2.counts.Twins]) 103,ae.at b16_p0 a0.arq,aH.at b17_p0 a0.aps,aK.at b18_p0 a0.twins,az.at b22_p0 a0.sides.1.reader,ap.at b23_p0 a0.sides.1.monitor,aJ.at b24_p0 a0.sides.1.ring,az.at b32_p0 a0.sides.2.reader,ap.at b33_p0 a0.sides.2.monitor,aJ.at b34_p0 a0.sides.2.ring,R] w0 w):=by
 refine calls_enter func45 Z Z (go ?_)
 refine W.e (Y.alloc (z:=Value.agg (#[vi (0),vi (0),vi (0),vi (0),vi (0),vi (0),vi (0)])) HS ze73) Z ?_
 rintro _ w ⟨nb1,rfl,HS⟩
 refine go ?_
 refine W.kl H func99 (fun _ h=>cK.calls h HS.j0) ?_
 rintro _ _ w H ⟨rfl,HS⟩
 have HS:=HS.o0
 refine go ?_
 refine V.cx H Z (fun _ H=>?_) (fun _ H=>go ?_)
 ·refine gs ?_
  refine V.mj (σ:=Nat × aM) [0,1,4] (fun (nb16,x17) w=>St [aM.at nb16 x17,aM.at nb1 ({Good:=0,Bad:=0,Aborts:=0,Runts:=0,Giants:=0,Dropped:=0,Twins:=0}:aM),blk b0 (#[vi a0.c.Mode,vi a0.c.Modulus,vi a0.c.Window,vi a0.c.T1,vi a0.c.N2,vi a0.c.Hold,vi a0.c.Wait,vi a0.c.Keep,vi a0.c.Queue,vi a0.c.Size,vi a0.c.Ring,vi a0.c.Rate,vi a0.c.Bad,vi a0.c.Good,vb a0.c.Revert,vb a0.c.Wide,pt b16_p0,pt b17_p0,pt b18_p0,Value.int .u32 a0.number,vi a0.steps,vi a0.line,pt b22_p0,pt b23_p0,pt b24_p0,vi a0.sides.1.counts.Good,vi a0.sides.1.counts.Bad,vi a0.sides.1.counts.Aborts,vi a0.sides.1.counts.Runts,vi a0.sides.1.counts.Giants,vi a0.sides.1.counts.Dropped,vi a0.sides.1.counts.Twins,pt b32_p0,pt b33_p0,pt b34_p0,vi a0.sides.2.counts.Good,vi a0.sides.2.counts.Bad,vi a0.sides.2.counts.Aborts,vi a0.sides.2.counts.Runts,vi a0.sides.2.counts.Giants,vi a0.sides.2.counts.Dropped,vi a0.sides.2.counts.Twins]) 103,ae.at b16_p0 a0.arq,aH.at b17_p0 a0.aps,aK.at b18_p0 a0.twins,az.at b22_p0 a0.sides.1.reader,ap.at b23_p0 a0.sides.1.monitor,aJ.at b24_p0 a0.sides.1.ring,az.at b32_p0 a0.sides.2.reader,ap.at b33_p0 a0.sides.2.monitor,aJ.at b34_p0 a0.sides.2.ring,R] w0 w∧bk.j0 a0 a1 x17=some r) (fun (nb16,x17)=>[(5,pt nb16)]) ?_ ?_
  ·refine go ?_
   obtain ⟨c40,H⟩:=ite_n H
   refine ite_c H (fun c41 H=>?_) (fun _ H=>?_)
   ·refine W.r (X.indexArK 0 c41 underlying101 inf100 Z Z c40.1 c40.2) Z (go ?_)
    refine W.e (Y.alloc (z:=Value.agg (#[vi (0),vi (0),vi (0),vi (0),vi (0),vi (0),vi (0)])) HS ze73) Z ?_
    rintro _ w ⟨_,rfl,HS⟩
    refine W.ss HS Z Z Z Z fun w HS=>go ?_
    have HS:=(aM.close tv ((aM.close tv HS).b [1])).b [1]
    exact At.mt (_,_) ⟨HS,H⟩
   ·have hk43:a1=1:=by omega
    refine W.r (X.indexArK 1 hk43 underlying101 inf100 Z Z c40.1 c40.2) Z (go ?_)
    refine W.e (Y.alloc (z:=Value.agg (#[vi (0),vi (0),vi (0),vi (0),vi (0),vi (0),vi (0)])) HS ze73) Z ?_
    rintro _ w ⟨_,rfl,HS⟩
    refine W.ss HS Z Z Z Z fun w HS=>go ?_
    have HS:=(aM.close tv ((aM.close tv HS).b [1])).b [1]
    exact At.mt (_,_) ⟨HS,H⟩
  ·rintro ⟨nb16,x17⟩ w ⟨HS,H⟩
   refine go ?_
   obtain ⟨c19,H⟩:=ite_n H
   refine ite_c H (fun c20 H=>?_) (fun _ H=>?_)
   ·refine W.r (X.indexArK 0 c20 underlying101 inf100 Z Z c19.1 c19.2) Z (go ?_)
    have HS:=HS.fr 8
    obtain ⟨_,_,_,_,_,HS⟩:=aJ.open HS
    refine W.kl H func100 (fun _ h=>dM.calls h HS.j3) ?_
    rintro t23 _ w H ⟨rfl,HS⟩
    have HS:=HS.o3.fr 3
    obtain ⟨_,HS⟩:=aM.open HS
    refine go ?_
    refine W.sr 5 HS Z Z Z fun w HS=>go ?_
    have HS:=HS.fr 4
    obtain ⟨_,HS⟩:=aM.open HS
    refine W.ss HS Z Z Z Z fun w HS=>go ?_
    have hv29:=run_loadSt (P:=Tryz.prog) (p:=0) 0 [vi x17.Good,vi x17.Bad,vi x17.Aborts,vi x17.Runts,vi x17.Giants,vi t23,vi x17.Twins] HS rfl underlying73 rfl inf73 rfl
    have HS:=(aJ.close tv (HS.b [2,2,2])).ke [3,3,3,3,3,3,0,2,2,2,2]
    cases H
    exact At.retv1 Z ⟨_,Z,hv29⟩ ⟨_,Z,Z,HS⟩
   ·have hk30:a1=1:=by omega
    refine W.r (X.indexArK 1 hk30 underlying101 inf100 Z Z c19.1 c19.2) Z (go ?_)
    have HS:=HS.fr 11
    obtain ⟨_,_,_,_,_,HS⟩:=aJ.open HS
    refine W.kl H func100 (fun _ h=>dM.calls h HS.j3) ?_
    rintro t33 _ w H ⟨rfl,HS⟩
    have HS:=HS.o3.fr 3
    obtain ⟨_,HS⟩:=aM.open HS
    refine go ?_
    refine W.sr 5 HS Z Z Z fun w HS=>go ?_
    have HS:=HS.fr 4
    obtain ⟨_,HS⟩:=aM.open HS
    refine W.ss HS Z Z Z Z fun w HS=>go ?_
    have hv39:=run_loadSt (P:=Tryz.prog) (p:=0) 0 [vi x17.Good,vi x17.Bad,vi x17.Aborts,vi x17.Runts,vi x17.Giants,vi t33,vi x17.Twins] HS rfl underlying73 rfl inf73 rfl
    have HS:=(aJ.close tv (HS.b [2,2,2])).ke [3,3,3,3,3,3,3,3,3,0,2]
    cases H
    exact At.retv1 Z ⟨_,Z,hv39⟩ ⟨_,Z,Z,HS⟩
 ·refine W.r (X.bd (Value.agg #[vi (0),vi (0),vi (0),vi (0),vi (0),vi (0),vi (0)]) Z (fun _=>by kernel_rfl)) Z ?_
  refine W.ss HS Z Z Z Z fun w HS=>go ?_
  have hv45:=run_loadSt (P:=Tryz.prog) (p:=0) 0 [vi (0),vi (0),vi (0),vi (0),vi (0),vi (0),vi (0)] HS rfl underlying73 rfl inf73 rfl
  have HS:=HS.ke [1,1,1,1,1,1,1,1,1,1,1]
  cases H
  exact At.retv1 Z ⟨_,Z,hv45⟩ ⟨_,Z,Z,HS⟩
def bT.f (a0:ag) (a1:Int):Option Int:=(if 0≤iand .i64 a1 (1)∧iand .i64 a1 (1)<2 then (if iand .i64 a1 (1)=0 then some (a0.heard.1.length:Int) else some (a0.heard.2.length:Int)) else none)
theorem bT.calls (H:bT.f a0 a1=some r) (HS:St [blk b0 (#[pt b0_p0,vs a1_p0 a0.said.1.length c1_p0,vs a2_p0 a0.said.2.length c2_p0,vs a3_p0 a0.heard.1.length c3_p0,vs a4_p0 a0.heard.2.length c4_p0,vi a0.Downs]) 57,ah.at b0_p0 a0.W,row 35 1 (.slice a1_p0 a0.said.1.length c1_p0) a0.said.1.length d1_p0,tie (El.sl (El.sl (El.int .u8))) d1_p0 a0.said.1,row 35 1 (.slice a2_p0 a0.said.2.length c2_p0) a0.said.2.length d2_p0,tie (El.sl (El.sl (El.int .u8))) d2_p0 a0.said.2,row 48 1 (.slice a3_p0 a0.heard.1.length c3_p0) a0.heard.1.length d3_p0,tie (El.sl (El.int .u8)) d3_p0 a0.heard.1,row 48 1 (.slice a4_p0 a0.heard.2.length c4_p0) a0.heard.2.length d4_p0,tie (El.sl (El.int .u8)) d4_p0 a0.heard.2,R] w0 w):Calls Tryz.prog 25 #[pt b0,vi a1] w (Ret fun u w=>u=vi r∧St [blk b0 (#[pt b0_p0,vs a1_p0 a0.said.1.length c1_p0,vs a2_p0 a0.said.2.length c2_p0,vs a3_p0 a0.heard.1.length c3_p0,vs a4_p0 a0.heard.2.length c4_p0,vi a0.Downs]) 57,ah.at b0_p0 a0.W,row 35 1 (.slice a1_p0 a0.said.1.length c1_p0) a0.said.1.length d1_p0,tie (El.sl (El.sl (El.int .u8))) d1_p0 a0.said.1,row 35 1 (.slice a2_p0 a0.said.2.length c2_p0) a0.said.2.length d2_p0,tie (El.sl (El.sl (El.int .u8))) d2_p0 a0.said.2,row 48 1 (.slice a3_p0 a0.heard.1.length c3_p0) a0.heard.1.length d3_p0,tie (El.sl (El.int .u8)) d3_p0 a0.heard.1,row 48 1 (.slice a4_p0 a0.heard.2.length c4_p0) a0.heard.2.length d4_p0,tie (El.sl (El.int .u8)) d4_p0 a0.heard.2,R] w0 w):=by
 refine calls_enter func25 Z Z (go ?_)
 refine W.r (X.and Z Z) Z (go ?_)
 obtain ⟨c1,H⟩:=ite_n H
 refine ite_c H (fun c2 H=>?_) (fun _ H=>?_)
 ·refine W.r (X.indexArK 0 c2 underlying55 inf35 Z Z c1.1 c1.2) Z (go ?_)
  exact rt
 ·have hk3:iand .i64 a1 (1)=1:=by omega
  refine W.r (X.indexArK 1 hk3 underlying55 inf35 Z Z c1.1 c1.2) Z (go ?_)
  exact rt
mutual
def aL.l0:Nat→ag→Int→Int→Int→Option Int
 |0,_,_,_,_=>none
 |k+1,a0,a1,x11,x12=>(if 0≤iand .i64 a1 (1)∧iand .i64 a1 (1)<2 then (if iand .i64 a1 (1)=0 then (aL.j1 a0 a1 x11 x12 (aL.l0 k a0 a1) (decide (x12<(a0.said.1.length:Int)))) else (aL.j1 a0 a1 x11 x12 (aL.l0 k a0 a1) (decide (x12<(a0.said.2.length:Int))))) else none)
def aL.j1 (a0:ag) (a1:Int) (x11:Int) (x12:Int) (Lq17:Int→Int→Option Int) (x15:Bool):Option Int:=(if x15=true then (if 0≤iand .i64 a1 (1)∧iand .i64 a1 (1)<2 then (if iand .i64 a1 (1)=0 then (if 0≤x12∧x12<(a0.said.1.length:Int) then (Lq17 (w64 (x11+((a0.said.1.getD x12.toNat []).length:Int))) (w64 (x12+1))) else none) else (if 0≤x12∧x12<(a0.said.2.length:Int) then (Lq17 (w64 (x11+((a0.said.2.getD x12.toNat []).length:Int))) (w64 (x12+1))) else none)) else none) else some x11)
end
def aL.f (k:Nat) (a0:ag) (a1:Int):Option Int:=(aL.l0 k a0 a1 0 0)
theorem aL.calls (H:aL.f k a0 a1=some r) (HS:St [blk b0 (#[pt b0_p0,vs a1_p0 a0.said.1.length c1_p0,vs a2_p0 a0.said.2.length c2_p0,vs a3_p0 a0.heard.1.length c3_p0,vs a4_p0 a0.heard.2.length c4_p0,vi a0.Downs]) 57,ah.at b0_p0 a0.W,row 35 1 (.slice a1_p0 a0.said.1.length c1_p0) a0.said.1.length d1_p0,tie (El.sl (El.sl (El.int .u8))) d1_p0 a0.said.1,row 35 1 (.slice a2_p0 a0.said.2.length c2_p0) a0.said.2.length d2_p0,tie (El.sl (El.sl (El.int .u8))) d2_p0 a0.said.2,row 48 1 (.slice a3_p0 a0.heard.1.length c3_p0) a0.heard.1.length d3_p0,tie (El.sl (El.int .u8)) d3_p0 a0.heard.1,row 48 1 (.slice a4_p0 a0.heard.2.length c4_p0) a0.heard.2.length d4_p0,tie (El.sl (El.int .u8)) d4_p0 a0.heard.2,R] w0 w):Calls Tryz.prog 26 #[pt b0,vi a1] w (Ret fun u w=>u=vi r∧St [blk b0 (#[pt b0_p0,vs a1_p0 a0.said.1.length c1_p0,vs a2_p0 a0.said.2.length c2_p0,vs a3_p0 a0.heard.1.length c3_p0,vs a4_p0 a0.heard.2.length c4_p0,vi a0.Downs]) 57,ah.at b0_p0 a0.W,row 35 1 (.slice a1_p0 a0.said.1.length c1_p0) a0.said.1.length d1_p0,tie (El.sl (El.sl (El.int .u8))) d1_p0 a0.said.1,row 35 1 (.slice a2_p0 a0.said.2.length c2_p0) a0.said.2.length d2_p0,tie (El.sl (El.sl (El.int .u8))) d2_p0 a0.said.2,row 48 1 (.slice a3_p0 a0.heard.1.length c3_p0) a0.heard.1.length d3_p0,tie (El.sl (El.int .u8)) d3_p0 a0.heard.1,row 48 1 (.slice a4_p0 a0.heard.2.length c4_p0) a0.heard.2.length d4_p0,tie (El.sl (El.int .u8)) d4_p0 a0.heard.2,R] w0 w):=by
 refine calls_enter func26 Z Z (go ?_)
 refine V.lj (σ:=Int × Int) [0,1] (fun kq (x11,x12) w=>St [blk b0 (#[pt b0_p0,vs a1_p0 a0.said.1.length c1_p0,vs a2_p0 a0.said.2.length c2_p0,vs a3_p0 a0.heard.1.length c3_p0,vs a4_p0 a0.heard.2.length c4_p0,vi a0.Downs]) 57,ah.at b0_p0 a0.W,row 35 1 (.slice a1_p0 a0.said.1.length c1_p0) a0.said.1.length d1_p0,tie (El.sl (El.sl (El.int .u8))) d1_p0 a0.said.1,row 35 1 (.slice a2_p0 a0.said.2.length c2_p0) a0.said.2.length d2_p0,tie (El.sl (El.sl (El.int .u8))) d2_p0 a0.said.2,row 48 1 (.slice a3_p0 a0.heard.1.length c3_p0) a0.heard.1.length d3_p0,tie (El.sl (El.int .u8)) d3_p0 a0.heard.1,row 48 1 (.slice a4_p0 a0.heard.2.length c4_p0) a0.heard.2.length d4_p0,tie (El.sl (El.int .u8)) d4_p0 a0.heard.2,R] w0 w∧aL.l0 kq a0 a1 x11 x12=some r∧kq≤k) (fun (x11,x12)=>[(5,vi x11),(6,vi x12)]) (_,_) ⟨HS,H,Nat.le_refl _⟩ ?_
 rintro kq13 ⟨x11,x12⟩ w ⟨HS,H,_⟩
 cases kq13 with
 |zero=>exact absurd H (by simp [aL.l0])
 |succ kq13=>
  simp only [aL.l0] at H
  refine V.seq ?_
  refine V.mj (σ:=Bool) [0,1,5,6] (fun x15 w=>St [blk b0 (#[pt b0_p0,vs a1_p0 a0.said.1.length c1_p0,vs a2_p0 a0.said.2.length c2_p0,vs a3_p0 a0.heard.1.length c3_p0,vs a4_p0 a0.heard.2.length c4_p0,vi a0.Downs]) 57,ah.at b0_p0 a0.W,row 35 1 (.slice a1_p0 a0.said.1.length c1_p0) a0.said.1.length d1_p0,tie (El.sl (El.sl (El.int .u8))) d1_p0 a0.said.1,row 35 1 (.slice a2_p0 a0.said.2.length c2_p0) a0.said.2.length d2_p0,tie (El.sl (El.sl (El.int .u8))) d2_p0 a0.said.2,row 48 1 (.slice a3_p0 a0.heard.1.length c3_p0) a0.heard.1.length d3_p0,tie (El.sl (El.int .u8)) d3_p0 a0.heard.1,row 48 1 (.slice a4_p0 a0.heard.2.length c4_p0) a0.heard.2.length d4_p0,tie (El.sl (El.int .u8)) d4_p0 a0.heard.2,R] w0 w∧∃kl18,kl18≤kq13∧aL.j1 a0 a1 x11 x12 (aL.l0 kl18 a0 a1) x15=some r) (fun x15=>[(16,vb x15)]) ?_ ?_
  ·refine go ?_
   refine W.r (X.and Z Z) Z (go ?_)
   obtain ⟨c41,H⟩:=ite_n H
   refine ite_c H (fun c42 H=>?_) (fun _ H=>?_)
   ·refine W.r (X.indexArK 0 c42 underlying54 inf53 Z Z c41.1 c41.2) Z (go ?_)
    exact At.mt _ ⟨HS,kq13,by omega,H⟩
   ·have hk43:iand .i64 a1 (1)=1:=by omega
    refine W.r (X.indexArK 1 hk43 underlying54 inf53 Z Z c41.1 c41.2) Z (go ?_)
    exact At.mt _ ⟨HS,kq13,by omega,H⟩
  ·rintro x15 w ⟨HS,kl18,_,H⟩
   refine V.cv H Z (fun _ H=>go ?_) (fun _ H=>go ?_)
   ·refine W.r (X.and Z Z) Z (go ?_)
    obtain ⟨c20,H⟩:=ite_n H
    refine ite_c H (fun c21 H=>?_) (fun _ H=>?_)
    ·refine W.r (X.indexArK 0 c21 underlying54 inf53 Z Z c20.1 c20.2) Z (go ?_)
     obtain ⟨c22,H⟩:=ite_n H
     obtain ⟨_,_,hh⟩:=(rdC.at 2 row_rd HS rfl).some (by decide) c22.1 c22.2;subst hh
     refine go ?_
     obtain ⟨_,hc26,HS⟩:=St.tie_at 3 HS rfl ([]) c22.1 c22.2
     obtain ⟨_,_,_,he30,HN⟩:=St.sl_open HS;clear HS;subst he30;have HS:=HN
     refine W.r (X.load underlying35 Z Z ((rdC.at 4 row_rd HS Z).cellEl0 (hc26 0 _ Z))) Z (go ?_)
     have HS:=HS.ke [2,2,2,2,2,2,2,2,2,2,2]
     exact At.rn (_,_) ⟨HS,H,by omega⟩
    ·have hk31:iand .i64 a1 (1)=1:=by omega
     refine W.r (X.indexArK 1 hk31 underlying54 inf53 Z Z c20.1 c20.2) Z (go ?_)
     obtain ⟨c32,H⟩:=ite_n H
     obtain ⟨_,_,hh⟩:=(rdC.at 4 row_rd HS rfl).some (by decide) c32.1 c32.2;subst hh
     refine go ?_
     obtain ⟨_,hc36,HS⟩:=St.tie_at 5 HS rfl ([]) c32.1 c32.2
     obtain ⟨_,_,_,he40,HN⟩:=St.sl_open HS;clear HS;subst he40;have HS:=HN
     refine W.r (X.load underlying35 Z Z ((rdC.at 6 row_rd HS Z).cellEl0 (hc36 0 _ Z))) Z (go ?_)
     have HS:=HS.ke [2,2,2,2,2,2,2,2,2,2,2]
     exact At.rn (_,_) ⟨HS,H,by omega⟩
   ·exact rt
mutual
def aN.l0:Nat→(List (List Int))→(List (List (List Int)))→Int→(List Bool)→Option Bool
 |0,_,_,_,_=>none
 |k+1,a0,a1,x10,x13=>(if x10<(a1.length:Int) then (if (([]:List Bool).length:Int)+x13.length≤1099511627776 then (aN.l1 k a0 a1 x10 x13 0 (([]:List Bool)++x13)) else none) else (if 0≤(a0.length:Int)∧(a0.length:Int)<(x13.length:Int) then some (x13.getD (a0.length:Int).toNat false) else none))
def aN.l1:Nat→(List (List Int))→(List (List (List Int)))→Int→(List Bool)→Int→(List Bool)→Option Bool
 |0,_,_,_,_,_,_=>none
 |k+1,a0,a1,x10,x13,x21,x24=>(if x21≤(a0.length:Int) then (aN.l2 k a0 a1 x10 x13 x21 0 x24) else (aN.l0 k a0 a1 (w64 (x10+1)) x24))
def aN.l2:Nat→(List (List Int))→(List (List (List Int)))→Int→(List Bool)→Int→Int→(List Bool)→Option Bool
 |0,_,_,_,_,_,_,_=>none
 |k+1,a0,a1,x10,x13,x21,x28,x31=>(if 0≤x21∧x21<(x13.length:Int) then (if x13.getD x21.toNat false=true then (if 0≤x10∧x10<(a1.length:Int) then (if x28<((a1.getD x10.toNat []).length:Int) then (if (w64 (x21+x28))<(a0.length:Int) then (if 0≤w64 (x21+x28)∧w64 (x21+x28)<(a0.length:Int) then (if 0≤x28∧x28<((a1.getD x10.toNat []).length:Int) then (if sEq (a0.getD (w64 (x21+x28)).toNat []) ((a1.getD x10.toNat []).getD x28.toNat [])=true then (if 0≤w64 ((w64 (x21+x28))+1)∧w64 ((w64 (x21+x28))+1)<(x31.length:Int) then (aN.l2 k a0 a1 x10 x13 x21 (w64 (x28+1)) (x31.set (w64 ((w64 (x21+x28))+1)).toNat true)) else none) else (aN.l1 k a0 a1 x10 x13 (w64 (x21+1)) x31)) else none) else none) else (aN.l1 k a0 a1 x10 x13 (w64 (x21+1)) x31)) else (aN.l1 k a0 a1 x10 x13 (w64 (x21+1)) x31)) else none) else (aN.l1 k a0 a1 x10 x13 (w64 (x21+1)) x31)) else none)
end
def aN.f (k:Nat) (a0:List (List Int)) (a1:List (List (List Int))):Option Bool:=(if 0≤w64 ((a0.length:Int)+1)∧w64 ((a0.length:Int)+1)≤1099511627776 then (if 0≤(0:Int)∧(0:Int)<((List.replicate (w64 ((a0.length:Int)+1)).toNat false).length:Int) then (aN.l0 k a0 a1 0 ((List.replicate (w64 ((a0.length:Int)+1)).toNat false).set (0:Int).toNat true)) else none) else none)
theorem aN.calls (H:aN.f k a0 a1=some r) (HS:St [R] w0 w) (hr0:rdC R 1 (.slice sa0 a0.length sc0) a0.length sd0) (ht0:∀h,R h→tie (El.sl (El.int .u8)) sd0 a0 h) (hr1:rdC R 1 (.slice sa1 a1.length sc1) a1.length sd1) (ht1:∀h,R h→tie (El.sl (El.sl (El.int .u8))) sd1 a1 h):Calls Tryz.prog 72 #[vs sa0 a0.length sc0,vs sa1 a1.length sc1] w (Ret fun u w=>u=vb r∧St [R] w0 w):=by
 refine calls_enter func72 Z Z ?_
 have HS:=St.more 1 (St.more 0 HS rfl ht0 tie.pers) rfl ht1 tie.pers
 refine go ?_
 obtain ⟨c1,H⟩:=ite_n H
 refine W.e (Y.makeSl (g:=Value.bool) (N:=w64 ((a0.length:Int)+1)) false underlying172 ap4 Z HS Z Z c1 (by decide)) Z ?_
 rintro _ w ⟨_,rc3,rfl,HS⟩
 refine go ?_
 obtain ⟨c4,H⟩:=ite_n H
 obtain ⟨eb5,eo6,hh⟩:=(rdC.at 0 row_rd HS rfl).some (by decide) c4.1 c4.2;subst hh
 refine go ?_
 refine W.en (Y.storeRowF vb (fun _=>Z) 0 HS Z inf4 Z Z c4.1 c4.2) Z ?_
 rintro _ w HS
 refine W.again 5 (v:=vs (some ⟨eb5,eo6,none⟩) ((List.replicate (w64 ((a0.length:Int)+1)).toNat false).set (0:Int).toNat true).length rc3) (by rw [List.length_set];rfl) ?_
 refine W.again 14 (v:=vs (some ⟨eb5,eo6,none⟩) ((List.replicate (w64 ((a0.length:Int)+1)).toNat false).set (0:Int).toNat true).length rc3) (by rw [List.length_set];rfl) (go ?_)
 refine V.lj (σ:=Int × Option Addr × Nat × List Bool) [0,1] (fun kq (x10,ra11,rc12,x13) w=>St [row 4 1 (.slice ra11 x13.length rc12) x13.length (x13.map Value.bool),tie (El.sl (El.sl (El.int .u8))) sd1 a1,tie (El.sl (El.int .u8)) sd0 a0,R] w0 w∧aN.l0 kq a0 a1 x10 x13=some r∧kq≤k) (fun (x10,ra11,rc12,x13)=>[(5,vs ra11 x13.length rc12),(6,vi x10)]) (_,_,_,_) ⟨HS,H,Nat.le_refl _⟩ ?_
 rintro kq14 ⟨x10,ra11,rc12,x13⟩ w ⟨HS,H,_⟩
 cases kq14 with
 |zero=>exact absurd H (by simp [aN.l0])
 |succ kq14=>
  simp only [aN.l0] at H
  refine go ?_
  refine V.cd H Z (fun _ H=>go ?_) (fun _ H=>go ?_)
  ·obtain ⟨_,H⟩:=ite_n H
   have HS:=row_nilF vb 4 1 HS
   have HS:Sep.St [row 4 1 (.slice none ([]:List Bool).length 0) ([]:List Bool).length (([]:List Bool).map Value.bool),row 4 1 (.slice ra11 x13.length rc12) x13.length (x13.map Value.bool),tie (El.sl (El.sl (El.int .u8))) sd1 a1,tie (El.sl (El.int .u8)) sd0 a0,R] w0 w:=HS
   refine W.e (Y.appF vb (fun _=>Z) 0 underlying172 ap4 Z HS Z Z Z (rdC.at 1 row_rd HS Z) (by omega) (by omega)) Z ?_
   rintro _ w ⟨_,_,rfl,HS⟩
   refine go ?_
   refine V.lj (σ:=Int × Option Addr × Nat × List Bool) [0,1,5,6] (fun kq (x21,ra22,rc23,x24) w=>St [row 4 1 (.slice ra22 x24.length rc23) x24.length (x24.map Value.bool),row 4 1 (.slice ra11 x13.length rc12) x13.length (x13.map Value.bool),tie (El.sl (El.sl (El.int .u8))) sd1 a1,tie (El.sl (El.int .u8)) sd0 a0,R] w0 w∧aN.l1 kq a0 a1 x10 x13 x21 x24=some r∧kq≤kq14) (fun (x21,ra22,rc23,x24)=>[(7,vs ra22 x24.length rc23),(8,vi x21)]) (_,_,_,_) ⟨HS,H,Nat.le_refl _⟩ ?_
   rintro kq25 ⟨x21,ra22,rc23,x24⟩ w ⟨HS,H,_⟩
   cases kq25 with
   |zero=>exact absurd H (by simp [aN.l1])
   |succ kq25=>
    simp only [aN.l1] at H
    refine go ?_
    refine V.cd H Z (fun _ H=>go ?_) (fun _ H=>go ?_)
    ·refine V.lj (σ:=Int × Option Addr × Nat × List Bool) [0,1,5,6,8] (fun kq (x28,ra29,rc30,x31) w=>St [row 4 1 (.slice ra29 x31.length rc30) x31.length (x31.map Value.bool),row 4 1 (.slice ra11 x13.length rc12) x13.length (x13.map Value.bool),tie (El.sl (El.sl (El.int .u8))) sd1 a1,tie (El.sl (El.int .u8)) sd0 a0,R] w0 w∧aN.l2 kq a0 a1 x10 x13 x21 x28 x31=some r∧kq≤kq25) (fun (x28,ra29,rc30,x31)=>[(7,vs ra29 x31.length rc30),(9,vi x28)]) (_,_,_,_) ⟨HS,H,Nat.le_refl _⟩ ?_
     rintro kq32 ⟨x28,ra29,rc30,x31⟩ w ⟨HS,H,_⟩
     cases kq32 with
     |zero=>exact absurd H (by simp [aN.l2])
     |succ kq32=>
      simp only [aN.l2] at H
      refine go ?_
      obtain ⟨c34,H⟩:=ite_n H
      obtain ⟨_,_,hh⟩:=(rdC.at 1 row_rd HS rfl).some (by decide) c34.1 c34.2;subst hh
      refine ite_c H (fun c37 H=>?_) (fun c37 H=>?_)
      ·obtain ⟨c38,H⟩:=ite_n H
       obtain ⟨_,_,hh⟩:=(rdC.at 4 hr1 HS rfl).some (by decide) c38.1 c38.2;subst hh
       obtain ⟨_,hc42,HS⟩:=St.tie_at 2 HS rfl ([]) c38.1 c38.2
       obtain ⟨_,_,_,he46,HN⟩:=St.sl_open HS;clear HS;subst he46;have HS:=HN
       refine ite_c H (fun c47 H=>?_) (fun c47 H=>?_)
       ·refine ite_c H (fun c48 H=>?_) (fun c48 H=>?_)
        ·obtain ⟨c49,H⟩:=ite_n H
         obtain ⟨_,_,hh⟩:=(rdC.at 6 hr0 HS rfl).some (by decide) c49.1 c49.2;subst hh
         obtain ⟨_,hc53,HS⟩:=St.tie_at 5 HS rfl ([]) c49.1 c49.2
         obtain ⟨_,_,he57,HN⟩:=St.sl_openF (Value.int .u8) (fun t=>tie_int t) HS;clear HS;subst he57;have HS:=HN
         obtain ⟨c58,H⟩:=ite_n H
         obtain ⟨_,_,hh⟩:=(rdC.at 1 fsl.rd HS rfl).some (by decide) c58.1 c58.2;subst hh
         obtain ⟨_,hc62,HS⟩:=St.tie_at 2 HS rfl ([]) c58.1 c58.2
         obtain ⟨_,_,he66,HN⟩:=St.sl_openF (Value.int .u8) (fun t=>tie_int t) HS;clear HS;subst he66;have HS:=HN
         apply V.da [] [] [(30,_),(31,_),(32,_),(33,_),(34,_),(35,_),(36,_),(37,_),(38,_),(39,_),(40,_),(41,_),(42,_),(43,_),(44,_),(45,_),(46,_),(47,_),(48,_),(49,_),(50,_),(51,_),(52,_),(53,_),(54,_),(55,_),(56,_),(57,_),(58,_),(59,_),(60,_),(61,_),(62,_),(63,_),(64,_),(65,_),(66,_),(67,_),(68,_)] mo HS
         rfl
         refine T.ff [0,1,5,6,7,8,9,68] (fun w HS=>?_) ⟨rd,rd,rd,.n1 32 Z Z (fun w HS=>X.load underlying4 Z Z ((rdC.at 5 row_rd HS Z).cellB c34.1 c34.2)),rd,rd,rd,rd,rd,.gw [(38,_),(34,_)] 4 true 34 ⟨Z,Z,tv⟩ Z (sb c37) (fun w HS=>X.load underlying35 Z Z ((rdC.at 8 hr1 HS Z).cellEl0 (hc42 0 _ Z))),rd,rd,rd,rd,rd,rd,rd,rd,rd,rd,rd,rd,rd,rd,rd,rd,rd,.gw [(56,_),(51,_)] 21 true 51 ⟨Z,Z,tv⟩ Z (sb (dT c48)) (fun w HS=>X.load underlying48 Z Z ((rdC.at 8 hr0 HS Z).cellEl0 (hc53 0 _ Z))),.gw [(57,_),(51,_)] 21 true 51 ⟨Z,Z,tv⟩ Z (sb (dT c48)) (fun w HS=>X.bytesStr underlying48 underlying5 underlying9 Z (rdC.at 1 fsl.rd HS Z)),rd,rd,rd,.gw [(61,_),(51,_)] 21 true 51 ⟨Z,Z,tv⟩ Z (sb (dT c48)) (fun w HS=>X.load underlying35 Z Z ((rdC.at 8 hr1 HS Z).cellEl0 (hc42 0 _ Z))),rd,rd,.gw [(64,_),(51,_)] 21 true 51 ⟨Z,Z,tv⟩ Z (sb (dT c48)) (fun w HS=>X.load underlying48 Z Z ((rdC.at 2 fsl.rd HS Z).cellEl0 (hc62 0 _ Z))),.gw [(65,_),(51,_)] 21 true 51 ⟨Z,Z,tv⟩ Z (sb (dT c48)) (fun w HS=>X.bytesStr underlying48 underlying5 underlying9 Z (rdC.at 0 fsl.rd HS Z)),.gw [(58,_),(66,_),(51,_)] 21 true 51 ⟨Z,Z,Z,tv⟩ Z (sb (dT c48)) (fun w HS=>X.eqStr (a:=a0.getD (w64 (x21+x28)).toNat []) (b:=(a1.getD x10.toNat []).getD x28.toNat []) Z Z),rds⟩
         refine go ?_
         refine V.cv H Z (fun _ H=>go ?_) (fun _ H=>go ?_)
         ·obtain ⟨c68,H⟩:=ite_n H
          obtain ⟨eb69,eo70,hh⟩:=(rdC.at 4 row_rd HS rfl).some (by decide) c68.1 c68.2;subst hh
          refine go ?_
          refine W.en (Y.storeRowF vb (fun _=>Z) 4 HS Z inf4 Z Z c68.1 c68.2) Z ?_
          rintro _ w HS
          refine W.again 7 (v:=vs (some ⟨eb69,eo70,none⟩) (x31.set (w64 ((w64 (x21+x28))+1)).toNat true).length rc30) (by rw [List.length_set];rfl) ?_
          refine W.again 71 (v:=vs (some ⟨eb69,eo70,none⟩) (x31.set (w64 ((w64 (x21+x28))+1)).toNat true).length rc30) (by rw [List.length_set];rfl) (go ?_)
          have HS:=HS.ke [4,4,4,4,4]
          exact At.rn (_,_,_,_) ⟨HS,H,by omega⟩
         ·have HS:=HS.ke [4,4,4,4,4]
          exact At.rn (_,_,_,_) ⟨HS,H,by omega⟩
        ·apply V.da [] [] [(30,_),(31,_),(32,_),(33,_),(34,_),(35,_),(36,_),(37,_),(38,_),(39,_),(40,_),(41,_),(42,_),(43,_),(44,_),(45,_),(46,_),(47,_),(48,_),(49,_),(50,_),(51,_),(52,_),(53,_),(54,_),(55,_),(56,_),(57,_),(58,_),(59,_),(60,_),(61,_),(62,_),(63,_),(64,_),(65,_),(66,_),(67,_),(68,_)] mo HS
         rfl
         refine T.ff [0,1,5,6,7,8,9,68] (fun w HS=>?_) ⟨rd,rd,rd,.n1 32 Z Z (fun w HS=>X.load underlying4 Z Z ((rdC.at 3 row_rd HS Z).cellB c34.1 c34.2)),rd,rd,rd,rd,rd,.gw [(38,_),(34,_)] 4 true 34 ⟨Z,Z,tv⟩ Z (sb c37) (fun w HS=>X.load underlying35 Z Z ((rdC.at 6 hr1 HS Z).cellEl0 (hc42 0 _ Z))),rds⟩
         refine go ?_
         have HS:=HS.ke [2,2,2,2,2]
         exact At.rn (_,_,_,_) ⟨HS,H,by omega⟩
       ·apply V.da [] [] [(30,_),(31,_),(32,_),(33,_),(34,_),(35,_),(36,_),(37,_),(38,_),(39,_),(40,_),(41,_),(42,_),(43,_),(44,_),(45,_),(46,_),(47,_),(48,_),(49,_),(50,_),(51,_),(52,_),(53,_),(54,_),(55,_),(56,_),(57,_),(58,_),(59,_),(60,_),(61,_),(62,_),(63,_),(64,_),(65,_),(66,_),(67,_),(68,_)] mo HS
        rfl
        refine T.ff [0,1,5,6,7,8,9,68] (fun w HS=>?_) ⟨rd,rd,rd,.n1 32 Z Z (fun w HS=>X.load underlying4 Z Z ((rdC.at 3 row_rd HS Z).cellB c34.1 c34.2)),rd,rd,rd,rd,rd,.gw [(38,_),(34,_)] 4 true 34 ⟨Z,Z,tv⟩ Z (sb c37) (fun w HS=>X.load underlying35 Z Z ((rdC.at 6 hr1 HS Z).cellEl0 (hc42 0 _ Z))),rds⟩
        refine go ?_
        have HS:=HS.ke [2,2,2,2,2]
        exact At.rn (_,_,_,_) ⟨HS,H,by omega⟩
      ·apply V.da [] [] [(30,_),(31,_),(32,_),(33,_),(34,_),(35,_),(36,_),(37,_),(38,_),(39,_),(40,_),(41,_),(42,_),(43,_),(44,_),(45,_),(46,_),(47,_),(48,_),(49,_),(50,_),(51,_),(52,_),(53,_),(54,_),(55,_),(56,_),(57,_),(58,_),(59,_),(60,_),(61,_),(62,_),(63,_),(64,_),(65,_),(66,_),(67,_),(68,_)] mo HS
       rfl
       refine T.ff [0,1,5,6,7,8,9,68] (fun w HS=>?_) ⟨rd,rd,rd,.n1 32 Z Z (fun w HS=>X.load underlying4 Z Z ((rdC.at 1 row_rd HS Z).cellB c34.1 c34.2)),rds⟩
       refine go ?_
       exact At.rn (_,_,_,_) ⟨HS,H,by omega⟩
    ·have HS:=HS.ke [0,1,1,1]
     exact At.rn (_,_,_,_) ⟨HS,H,by omega⟩
  ·obtain ⟨c71,H⟩:=ite_n H
   obtain ⟨_,_,hh⟩:=(rdC.at 0 row_rd HS rfl).some (by decide) c71.1 c71.2;subst hh
   refine go ?_
   refine W.r (X.load underlying4 Z Z ((rdC.at 0 row_rd HS Z).cellB c71.1 c71.2)) Z (go ?_)
   have HS:=HS.ke [3]
   exact rt
def eQ.f (a0:ae):Option Int:=some a0.state
theorem eQ.calls (H:eQ.f a0=some r) (HS:St [blk b0 (#[vi a0.m,vi a0.t1,vi a0.n2,vi a0.size,vi a0.state,vi a0.tag,vi a0.tries,vb a0.rejected,pt b8_p0,pt b9_p0,pt b10_p0,vs a11_p0 a0.out.length c11_p0,vs a12_p0 a0.inds.length c12_p0,vi a0.sent,vi a0.acked,vi a0.lost]) 158,aC.at b8_p0 a0.log,aD.at b9_p0 a0.order,aI.at b10_p0 a0.timers,row 48 1 (.slice a11_p0 a0.out.length c11_p0) a0.out.length d11_p0,tie (El.sl (El.int .u8)) d11_p0 a0.out,row 3 1 (.slice a12_p0 a0.inds.length c12_p0) a0.inds.length (a0.inds.map (Value.int .i64)),R] w0 w):Calls Tryz.prog 65 #[pt b0] w (Ret fun u w=>u=vi r∧St [blk b0 (#[vi a0.m,vi a0.t1,vi a0.n2,vi a0.size,vi a0.state,vi a0.tag,vi a0.tries,vb a0.rejected,pt b8_p0,pt b9_p0,pt b10_p0,vs a11_p0 a0.out.length c11_p0,vs a12_p0 a0.inds.length c12_p0,vi a0.sent,vi a0.acked,vi a0.lost]) 158,aC.at b8_p0 a0.log,aD.at b9_p0 a0.order,aI.at b10_p0 a0.timers,row 48 1 (.slice a11_p0 a0.out.length c11_p0) a0.out.length d11_p0,tie (El.sl (El.int .u8)) d11_p0 a0.out,row 3 1 (.slice a12_p0 a0.inds.length c12_p0) a0.inds.length (a0.inds.map (Value.int .i64)),R] w0 w):=by
 refine calls_enter func65 Z Z (go ?_)
 exact rt
def eW.f (a0:ae):Option (Int × Int × Int):=some (a0.sent,a0.acked,a0.lost)
theorem eW.calls (H:eW.f a0=some r) (HS:St [blk b0 (#[vi a0.m,vi a0.t1,vi a0.n2,vi a0.size,vi a0.state,vi a0.tag,vi a0.tries,vb a0.rejected,pt b8_p0,pt b9_p0,pt b10_p0,vs a11_p0 a0.out.length c11_p0,vs a12_p0 a0.inds.length c12_p0,vi a0.sent,vi a0.acked,vi a0.lost]) 158,aC.at b8_p0 a0.log,aD.at b9_p0 a0.order,aI.at b10_p0 a0.timers,row 48 1 (.slice a11_p0 a0.out.length c11_p0) a0.out.length d11_p0,tie (El.sl (El.int .u8)) d11_p0 a0.out,row 3 1 (.slice a12_p0 a0.inds.length c12_p0) a0.inds.length (a0.inds.map (Value.int .i64)),R] w0 w):Calls Tryz.prog 68 #[pt b0] w (Ret fun u w=>u=Value.tuple #[vi r.1,vi r.2.1,vi r.2.2]∧St [blk b0 (#[vi a0.m,vi a0.t1,vi a0.n2,vi a0.size,vi a0.state,vi a0.tag,vi a0.tries,vb a0.rejected,pt b8_p0,pt b9_p0,pt b10_p0,vs a11_p0 a0.out.length c11_p0,vs a12_p0 a0.inds.length c12_p0,vi a0.sent,vi a0.acked,vi a0.lost]) 158,aC.at b8_p0 a0.log,aD.at b9_p0 a0.order,aI.at b10_p0 a0.timers,row 48 1 (.slice a11_p0 a0.out.length c11_p0) a0.out.length d11_p0,tie (El.sl (El.int .u8)) d11_p0 a0.out,row 3 1 (.slice a12_p0 a0.inds.length c12_p0) a0.inds.length (a0.inds.map (Value.int .i64)),R] w0 w):=by
 refine calls_enter func68 Z Z (go ?_)
 apply V.da [] [] [(5,_),(6,_),(7,_),(8,_),(9,_),(10,_),(11,_),(12,_),(13,_),(14,_),(15,_),(16,_),(2,_),(3,_),(4,_)] mo HS
 rfl
 refine T.ff [2,3,4] fun w HS=>?_
 refine go ?_
 exact rt
def cX.f (a0:ap):Option Int:=some a0.state
theorem cX.calls (H:cX.f a0=some r) (HS:St [blk b0 (#[vi a0.bad,vi a0.good,vi a0.silent,pt b3_p0,vi a0.row,vi a0.silence,vi a0.state]) 171,aP.at b3_p0 a0.w,R] w0 w):Calls Tryz.prog 69 #[pt b0] w (Ret fun u w=>u=vi r∧St [blk b0 (#[vi a0.bad,vi a0.good,vi a0.silent,pt b3_p0,vi a0.row,vi a0.silence,vi a0.state]) 171,aP.at b3_p0 a0.w,R] w0 w):=by
 refine calls_enter func69 Z Z (go ?_)
 exact rt
structure bh where
 State:Int
 Line:Int
 Lines:(Int × Int)
 Sent:Int
 Acked:Int
 Lost:Int
deriving DecidableEq,Inhabited
abbrev bh.Q (b:Nat) (l0 l1 l2 l3 l4 l5 l6:Int) (L:List As):List As:=blk b (#[vi l0,vi l1,vi l2,vi l3,vi l4,vi l5,vi l6]) 39::L
abbrev bh.P (b:Nat) (x:bh) (L:List As):List As:=bh.Q b x.State x.Line x.Lines.1 x.Lines.2 x.Sent x.Acked x.Lost L
def bh.at (b:Nat) (x:bh):As:=fun h=>True∧Sp (bh.P b x []) h
theorem bh.open {b:Nat} {x:bh} {L:List As} {w0 w:World} (hs:Sep.St (bh.at b x::L) w0 w):True∧Sep.St (bh.P b x L) w0 w:=by
 obtain ⟨ho,ht,hu,h,hon,h1,h2,hd,e1,e2,⟨hi,hA⟩,hl⟩:=hs
 exact ⟨hi,St.open (m:=bh.P b x []) ⟨ho,ht,hu,h,hon,h1,h2,hd,e1,e2,hA,hl⟩⟩
theorem bh.close {b:Nat} {l0 l1 l2 l3 l4 l5 l6:Int} {L:List As} {w0 w:World} (hi:True) (hs:Sep.St (bh.Q b l0 l1 l2 l3 l4 l5 l6 L) w0 w):Sep.St (bh.at b ({State:=l0,Line:=l1,Lines:=(l2,l3),Sent:=l4,Acked:=l5,Lost:=l6}:bh)::L) w0 w:=by
 have h2:=St.join (m:=bh.Q b l0 l1 l2 l3 l4 l5 l6 []) hs
 exact h2.mono fun h hh=>⟨hi,hh⟩
abbrev aU.Q (b:Nat) (l0:az) (l1:ap) (l2:aJ) (l3 l4 l5 l6 l7 l8 l9:Int) (b0 b1 b2:Nat) (L:List As):List As:=blk b (#[pt b0,pt b1,pt b2,vi l3,vi l4,vi l5,vi l6,vi l7,vi l8,vi l9]) 100::az.at b0 l0::ap.at b1 l1::aJ.at b2 l2::L
abbrev aU.P (b:Nat) (x:aU) (b0 b1 b2:Nat) (L:List As):List As:=aU.Q b x.reader x.monitor x.ring x.counts.Good x.counts.Bad x.counts.Aborts x.counts.Runts x.counts.Giants x.counts.Dropped x.counts.Twins b0 b1 b2 L
def aU.at (b:Nat) (x:aU):As:=fun h=>True∧∃b0:Nat,∃b1:Nat,∃b2:Nat,Sp (aU.P b x b0 b1 b2 []) h
theorem aU.open {b:Nat} {x:aU} {L:List As} {w0 w:World} (hs:Sep.St (aU.at b x::L) w0 w):∃b0:Nat,∃b1:Nat,∃b2:Nat,True∧Sep.St (aU.P b x b0 b1 b2 L) w0 w:=by
 obtain ⟨ho,ht,hu,h,hon,h1,h2,hd,e1,e2,⟨hi,b0,b1,b2,hA⟩,hl⟩:=hs
 exact ⟨b0,b1,b2,hi,St.open (m:=aU.P b x b0 b1 b2 []) ⟨ho,ht,hu,h,hon,h1,h2,hd,e1,e2,hA,hl⟩⟩
theorem aU.close {b:Nat} {l0:az} {l1:ap} {l2:aJ} {l3 l4 l5 l6 l7 l8 l9:Int} {b0 b1 b2:Nat} {L:List As} {w0 w:World} (hi:True) (hs:Sep.St (aU.Q b l0 l1 l2 l3 l4 l5 l6 l7 l8 l9 b0 b1 b2 L) w0 w):Sep.St (aU.at b ({reader:=l0,monitor:=l1,ring:=l2,counts:=({Good:=l3,Bad:=l4,Aborts:=l5,Runts:=l6,Giants:=l7,Dropped:=l8,Twins:=l9}:aM)}:aU)::L) w0 w:=by
 have h2:=St.join (m:=aU.Q b l0 l1 l2 l3 l4 l5 l6 l7 l8 l9 b0 b1 b2 []) hs
 exact h2.mono fun h hh=>⟨hi,_,_,_,hh⟩
mutual
def bj.j1 (a0:aa) (x17:bh):Option bh:=((eW.f a0.arq).bind fun t21=>((cX.f a0.sides.1.monitor).bind fun t34=>((cX.f a0.sides.2.monitor).bind fun t41=>some (({x17 with Lines:=(t34,t41),Sent:=t21.1,Acked:=t21.2.1,Lost:=t21.2.2}:bh)))))
def bj.j0 (a0:aa) (x14:bh):Option bh:=((bu.f a0).bind fun t48=>(if t48=true then (bj.j1 a0 ({x14 with Line:=0}:bh)) else (bj.j1 a0 x14)))
end
def bj.f (a0:aa):Option bh:=((eQ.f a0.arq).bind fun t55=>((db.f a0.aps).bind fun t60=>(bj.j0 a0 ({State:=t55,Line:=t60,Lines:=(0,0),Sent:=0,Acked:=0,Lost:=0}:bh))))
theorem bj.calls (H:bj.f a0=some r) (HS:St [blk b0 (#[vi a0.c.Mode,vi a0.c.Modulus,vi a0.c.Window,vi a0.c.T1,vi a0.c.N2,vi a0.c.Hold,vi a0.c.Wait,vi a0.c.Keep,vi a0.c.Queue,vi a0.c.Size,vi a0.c.Ring,vi a0.c.Rate,vi a0.c.Bad,vi a0.c.Good,vb a0.c.Revert,vb a0.c.Wide,pt b16_p0,pt b17_p0,pt b18_p0,Value.int .u32 a0.number,vi a0.steps,vi a0.line,pt b22_p0,pt b23_p0,pt b24_p0,vi a0.sides.1.counts.Good,vi a0.sides.1.counts.Bad,vi a0.sides.1.counts.Aborts,vi a0.sides.1.counts.Runts,vi a0.sides.1.counts.Giants,vi a0.sides.1.counts.Dropped,vi a0.sides.1.counts.Twins,pt b32_p0,pt b33_p0,pt b34_p0,vi a0.sides.2.counts.Good,vi a0.sides.2.counts.Bad,vi a0.sides.2.counts.Aborts,vi a0.sides.2.counts.Runts,vi a0.sides.2.counts.Giants,vi a0.sides.2.counts.Dropped,vi a0.sides.2.counts.Twins]) 103,ae.at b16_p0 a0.arq,aH.at b17_p0 a0.aps,aK.at b18_p0 a0.twins,az.at b22_p0 a0.sides.1.reader,ap.at b23_p0 a0.sides.1.monitor,aJ.at b24_p0 a0.sides.1.ring,az.at b32_p0 a0.sides.2.reader,ap.at b33_p0 a0.sides.2.monitor,aJ.at b34_p0 a0.sides.2.ring,R] w0 w):Calls Tryz.prog 17 #[pt b0] w (Ret fun u w=>u=Value.agg #[vi r.State,vi r.Line,vi r.Lines.1,vi r.Lines.2,vi r.Sent,vi r.Acked,vi r.Lost]∧St [blk b0 (#[vi a0.c.Mode,vi a0.c.Modulus,vi a0.c.Window,vi a0.c.T1,vi a0.c.N2,vi a0.c.Hold,vi a0.c.Wait,vi a0.c.Keep,vi a0.c.Queue,vi a0.c.Size,vi a0.c.Ring,vi a0.c.Rate,vi a0.c.Bad,vi a0.c.Good,vb a0.c.Revert,vb a0.c.Wide,pt b16_p0,pt b17_p0,pt b18_p0,Value.int .u32 a0.number,vi a0.steps,vi a0.line,pt b22_p0,pt b23_p0,pt b24_p0,vi a0.sides.1.counts.Good,vi a0.sides.1.counts.Bad,vi a0.sides.1.counts.Aborts,vi a0.sides.1.counts.Runts,vi a0.sides.1.counts.Giants,vi a0.sides.1.counts.Dropped,vi a0.sides.1.counts.Twins,pt b32_p0,pt b33_p0,pt b34_p0,vi a0.sides.2.counts.Good,vi a0.sides.2.counts.Bad,vi a0.sides.2.counts.Aborts,vi a0.sides.2.counts.Runts,vi a0.sides.2.counts.Giants,vi a0.sides.2.counts.Dropped,vi a0.sides.2.counts.Twins]) 103,ae.at b16_p0 a0.arq,aH.at b17_p0 a0.aps,aK.at b18_p0 a0.twins,az.at b22_p0 a0.sides.1.reader,ap.at b23_p0 a0.sides.1.monitor,aJ.at b24_p0 a0.sides.1.ring,az.at b32_p0 a0.sides.2.reader,ap.at b33_p0 a0.sides.2.monitor,aJ.at b34_p0 a0.sides.2.ring,R] w0 w):=by
 refine calls_enter func17 Z Z (go ?_)
 refine W.e (Y.alloc (z:=Value.agg (#[vi (0),vi (0),vi (0),vi (0),vi (0),vi (0),vi (0)])) HS ze39) Z ?_
 rintro _ w ⟨nb1,rfl,HS⟩
 refine gs ?_
 refine V.mj (σ:=Nat × bh) [0,2] (fun (nb13,x14) w=>St [bh.at nb13 x14,bh.at nb1 (({State:=0,Line:=0,Lines:=(0,0),Sent:=0,Acked:=0,Lost:=0}:bh)),blk b0 (#[vi a0.c.Mode,vi a0.c.Modulus,vi a0.c.Window,vi a0.c.T1,vi a0.c.N2,vi a0.c.Hold,vi a0.c.Wait,vi a0.c.Keep,vi a0.c.Queue,vi a0.c.Size,vi a0.c.Ring,vi a0.c.Rate,vi a0.c.Bad,vi a0.c.Good,vb a0.c.Revert,vb a0.c.Wide,pt b16_p0,pt b17_p0,pt b18_p0,Value.int .u32 a0.number,vi a0.steps,vi a0.line,pt b22_p0,pt b23_p0,pt b24_p0,vi a0.sides.1.counts.Good,vi a0.sides.1.counts.Bad,vi a0.sides.1.counts.Aborts,vi a0.sides.1.counts.Runts,vi a0.sides.1.counts.Giants,vi a0.sides.1.counts.Dropped,vi a0.sides.1.counts.Twins,pt b32_p0,pt b33_p0,pt b34_p0,vi a0.sides.2.counts.Good,vi a0.sides.2.counts.Bad,vi a0.sides.2.counts.Aborts,vi a0.sides.2.counts.Runts,vi a0.sides.2.counts.Giants,vi a0.sides.2.counts.Dropped,vi a0.sides.2.counts.Twins]) 103,ae.at b16_p0 a0.arq,aH.at b17_p0 a0.aps,aK.at b18_p0 a0.twins,az.at b22_p0 a0.sides.1.reader,ap.at b23_p0 a0.sides.1.monitor,aJ.at b24_p0 a0.sides.1.ring,az.at b32_p0 a0.sides.2.reader,ap.at b33_p0 a0.sides.2.monitor,aJ.at b34_p0 a0.sides.2.ring,R] w0 w∧bj.j0 a0 x14=some r) (fun (nb13,x14)=>[(3,pt nb13)]) ?_ ?_
 ·apply V.da [4,9,11,12] [10] [(6,_),(7,_),(8,_),(9,_),(11,_),(12,_),(13,_),(14,_)] mo HS
  rfl
  refine T.pm (es':=[4,11,9,12]) Z ?_
  refine T.two Z Z ⟨.mv 0,.nc 6,.fa 7 fy,.ld 8 1 underlying92,.mv 0,.nc 11,.fa 12 fv,.ld 13 1 underlying93,tv⟩ (T.step (es:=[11,9,12]) _ [(9,pt b16_p0)] Z ⟨.inr ⟨Z,Z⟩,tv⟩ (Or.inl Z) (by intro d hd;cases hd;exact ⟨by decide,Z,Z⟩) [10] [0,1,2,3] Z Z Z Z Z (fun w HS=>?_)) (T.step (es:=[4,9,12]) _ [] Z tv (Or.inl Z) (by intro d hd;cases hd;exact ⟨by decide,Z,Z⟩) [10] [] Z Z Z Z Z (fun w HS=>?_))
  ·have HS:Sep.St _ w0 w:=HS
   have HS:=HS.fr 2
   obtain ⟨_,_,_,_,_,_,_,_,_,HS⟩:=ae.open HS
   refine Y.kl H func65 (fun _ h=>eQ.calls h HS.j7) ?_
   rintro t55 _ w H ⟨rfl,HS⟩
   have HS:=HS.o7
   refine T.nw HS ?_
   refine T.two Z Z ⟨.mv 0,.nc 11,.fa 12 fv,.ld 13 8 underlying93,tv⟩ (T.step (es:=[9,12]) _ [] Z tv (Or.inl Z) (by intro d hd;cases hd;exact ⟨by decide,Z,Z⟩) [10] [] Z Z Z Z Z (fun w HS=>?_)) (T.step (es:=[11,12]) _ [(14,pt b17_p0)] Z ⟨.inr ⟨Z,Z⟩,tv⟩ (Or.inl Z) (by intro d hd;cases hd;exact ⟨by decide,Z,Z⟩) [] [5,6,7,8] Z Z Z Z Z (fun w HS=>?_))
   ·have HS:Sep.St _ w0 w:=HS
    refine ⟨_,Y.alloc (z:=Value.agg (#[vi (0),vi (0),vi (0),vi (0),vi (0),vi (0),vi (0)])) HS ze39,?_⟩
    rintro _ w ⟨_,rfl,HS⟩
    refine T.nw HS ?_
    refine T.e [14] [] [5,6,7,8] fun w HS=>?_
    have HS:=HS.fr 10
    obtain ⟨_,HS⟩:=aH.open HS
    refine Y.kl H func66 (fun _ h=>db.calls h HS.j1) ?_
    rintro t60 _ w H ⟨rfl,HS⟩
    have HS:=HS.o1
    apply T.na [(15,_),(16,_)] HS
    exact nmk
    refine T.e [3,16] [] [10] (fun w HS=>?_) ⟨.n2 10 15 Z Z Z (fun w HS=>X.bd (Value.agg #[vi t55,vi t60,vi (0),vi (0),vi (0),vi (0),vi (0)]) Z (fun _=>by kernel_rfl)),rds⟩
    refine ⟨_,Y.storeSt (c':=#[vi t55,vi t60,vi (0),vi (0),vi (0),vi (0),vi (0)]) 1 [vi t55,vi t60,vi (0),vi (0),vi (0),vi (0),vi (0)] HS Z inf39 Z Z Z Z Z Z,?_⟩
    rintro _ w HS
    refine T.nn HS ?_
    refine T.ff [0,2,3] fun w HS=>?_
    have HS:=(aH.close tv ((ae.close tv ((bh.close tv ((bh.close tv (HS.b [1])).b [9])).b [3,3,3,3,3,3,3])).b [3])).b [3,2,2,1]
    exact At.mt (_,_) ⟨HS,H⟩
   ·have HS:Sep.St _ w0 w:=HS
    have HS:=HS.fr 9
    obtain ⟨_,HS⟩:=aH.open HS
    refine Y.kl H func66 (fun _ h=>db.calls h HS.j1) ?_
    rintro t64 _ w H ⟨rfl,HS⟩
    have HS:=HS.o1
    apply T.na [(15,_),(16,_)] HS
    exact nmk
    refine T.e [] [] [] (fun w HS=>?_) ⟨.n2 10 15 Z Z Z (fun w HS=>X.bd (Value.agg #[vi t55,vi t64,vi (0),vi (0),vi (0),vi (0),vi (0)]) Z (fun _=>by kernel_rfl)),rds⟩
    refine ⟨_,Y.alloc (z:=Value.agg (#[vi (0),vi (0),vi (0),vi (0),vi (0),vi (0),vi (0)])) HS ze39,?_⟩
    rintro _ w ⟨_,rfl,HS⟩
    refine T.nw HS ?_
    refine T.e [3,16] [] [10] (fun w HS=>?_) ⟨.n2 10 15 Z Z Z (fun w HS=>X.bd (Value.agg #[vi t55,vi t64,vi (0),vi (0),vi (0),vi (0),vi (0)]) Z (fun _=>by kernel_rfl)),rds⟩
    refine ⟨_,Y.storeSt (c':=#[vi t55,vi t64,vi (0),vi (0),vi (0),vi (0),vi (0)]) 0 [vi t55,vi t64,vi (0),vi (0),vi (0),vi (0),vi (0)] HS Z inf39 Z Z Z Z Z Z,?_⟩
    rintro _ w HS
    refine T.nn HS ?_
    refine T.ff [0,2,3] fun w HS=>?_
    have HS:=(aH.close tv ((ae.close tv ((bh.close tv ((bh.close tv HS).b [9])).b [3,3,3,3,3,3,3])).b [3])).b [3,2,2,1]
    exact At.mt (_,_) ⟨HS,H⟩
  ·have HS:Sep.St _ w0 w:=HS
   refine ⟨_,Y.alloc (z:=Value.agg (#[vi (0),vi (0),vi (0),vi (0),vi (0),vi (0),vi (0)])) HS ze39,?_⟩
   rintro _ w ⟨_,rfl,HS⟩
   refine T.nw HS ?_
   refine T.e [9] [10] [0,1,2,3] fun w HS=>?_
   have HS:=HS.fr 3
   obtain ⟨_,_,_,_,_,_,_,_,_,HS⟩:=ae.open HS
   refine Y.kl H func65 (fun _ h=>eQ.calls h HS.j7) ?_
   rintro t70 _ w H ⟨rfl,HS⟩
   have HS:=HS.o7
   refine T.nw HS ?_
   refine T.e [14] [] [5,6,7,8] fun w HS=>?_
   have HS:=HS.fr 10
   obtain ⟨_,HS⟩:=aH.open HS
   refine Y.kl H func66 (fun _ h=>db.calls h HS.j1) ?_
   rintro t74 _ w H ⟨rfl,HS⟩
   have HS:=HS.o1
   apply T.na [(15,_),(16,_)] HS
   exact nmk
   refine T.e [3,16] [] [10] (fun w HS=>?_) ⟨.n2 10 15 Z Z Z (fun w HS=>X.bd (Value.agg #[vi t70,vi t74,vi (0),vi (0),vi (0),vi (0),vi (0)]) Z (fun _=>by kernel_rfl)),rds⟩
   refine ⟨_,Y.storeSt (c':=#[vi t70,vi t74,vi (0),vi (0),vi (0),vi (0),vi (0)]) 8 [vi t70,vi t74,vi (0),vi (0),vi (0),vi (0),vi (0)] HS Z inf39 Z Z Z Z Z Z,?_⟩
   rintro _ w HS
   refine T.nn HS ?_
   refine T.ff [0,2,3] fun w HS=>?_
   have HS:=(aH.close tv ((ae.close tv ((bh.close tv ((bh.close tv (HS.b [8])).b [9])).b [3,3,3,3,3,3,3])).b [3])).b [3,2,2,1]
   exact At.mt (_,_) ⟨HS,H⟩
 ·rintro ⟨nb13,x14⟩ w ⟨HS,H⟩
  refine V.mj (σ:=bh) [0,2,3] (fun x17 w=>St [bh.at nb13 x17,bh.at nb1 (({State:=0,Line:=0,Lines:=(0,0),Sent:=0,Acked:=0,Lost:=0}:bh)),blk b0 (#[vi a0.c.Mode,vi a0.c.Modulus,vi a0.c.Window,vi a0.c.T1,vi a0.c.N2,vi a0.c.Hold,vi a0.c.Wait,vi a0.c.Keep,vi a0.c.Queue,vi a0.c.Size,vi a0.c.Ring,vi a0.c.Rate,vi a0.c.Bad,vi a0.c.Good,vb a0.c.Revert,vb a0.c.Wide,pt b16_p0,pt b17_p0,pt b18_p0,Value.int .u32 a0.number,vi a0.steps,vi a0.line,pt b22_p0,pt b23_p0,pt b24_p0,vi a0.sides.1.counts.Good,vi a0.sides.1.counts.Bad,vi a0.sides.1.counts.Aborts,vi a0.sides.1.counts.Runts,vi a0.sides.1.counts.Giants,vi a0.sides.1.counts.Dropped,vi a0.sides.1.counts.Twins,pt b32_p0,pt b33_p0,pt b34_p0,vi a0.sides.2.counts.Good,vi a0.sides.2.counts.Bad,vi a0.sides.2.counts.Aborts,vi a0.sides.2.counts.Runts,vi a0.sides.2.counts.Giants,vi a0.sides.2.counts.Dropped,vi a0.sides.2.counts.Twins]) 103,ae.at b16_p0 a0.arq,aH.at b17_p0 a0.aps,aK.at b18_p0 a0.twins,az.at b22_p0 a0.sides.1.reader,ap.at b23_p0 a0.sides.1.monitor,aJ.at b24_p0 a0.sides.1.ring,az.at b32_p0 a0.sides.2.reader,ap.at b33_p0 a0.sides.2.monitor,aJ.at b34_p0 a0.sides.2.ring,R] w0 w∧bj.j1 a0 x17=some r) (fun _=>[]) ?_ ?_
  ·refine go ?_
   have HS:=HS.b [2,2,2,2,2,2,2,2,2,2]
   refine W.kl H func67 (fun _ h=>bu.calls h HS.j10) ?_
   rintro _ _ w H ⟨rfl,HS⟩
   have HS:=HS.o10
   refine go ?_
   refine V.cv H Z (fun _ H=>go ?_) (fun _ H=>go ?_)
   ·have HS:=HS.fr 10
    obtain ⟨_,HS⟩:=bh.open HS
    refine go ?_
    refine W.sr 1 HS Z Z Z fun w HS=>go ?_
    have HS:=(bh.close tv HS).b [0,10]
    exact At.mt _ ⟨HS,H⟩
   ·have HS:=HS.b [10,10]
    exact At.mt _ ⟨HS,H⟩
  ·rintro x17 w ⟨HS,H⟩
   refine go ?_
   have HS:=HS.fr 3
   obtain ⟨_,_,_,_,_,_,_,_,_,HS⟩:=ae.open HS
   refine W.kl H func68 (fun _ h=>eW.calls h HS.j7) ?_
   rintro t21 _ w H ⟨rfl,HS⟩
   have HS:=HS.o7
   refine go ?_
   have HS:=HS.fr 7
   obtain ⟨_,HS⟩:=bh.open HS
   refine go ?_
   refine W.sr 4 HS Z Z Z fun w HS=>go ?_
   refine W.sr 5 HS Z Z Z fun w HS=>go ?_
   refine W.sr 6 HS Z Z Z fun w HS=>go ?_
   refine V.rs 2 [(2,pt nb1),(3,pt nb13),(35,Value.agg #[pt b22_p0,pt b23_p0,pt b24_p0,vi a0.sides.1.counts.Good,vi a0.sides.1.counts.Bad,vi a0.sides.1.counts.Aborts,vi a0.sides.1.counts.Runts,vi a0.sides.1.counts.Giants,vi a0.sides.1.counts.Dropped,vi a0.sides.1.counts.Twins,pt b32_p0,pt b33_p0,pt b34_p0,vi a0.sides.2.counts.Good,vi a0.sides.2.counts.Bad,vi a0.sides.2.counts.Aborts,vi a0.sides.2.counts.Runts,vi a0.sides.2.counts.Giants,vi a0.sides.2.counts.Dropped,vi a0.sides.2.counts.Twins]),(36,vi (0))] (go ?_)
   refine W.r (X.ixK (Value.agg #[pt b22_p0,pt b23_p0,pt b24_p0,vi a0.sides.1.counts.Good,vi a0.sides.1.counts.Bad,vi a0.sides.1.counts.Aborts,vi a0.sides.1.counts.Runts,vi a0.sides.1.counts.Giants,vi a0.sides.1.counts.Dropped,vi a0.sides.1.counts.Twins]) Z Z (fun _=>by kernel_rfl)) Z ?_
   refine W.e (Y.alloc (z:=Value.agg (#[Value.pointer none,Value.pointer none,Value.pointer none,vi (0),vi (0),vi (0),vi (0),vi (0),vi (0),vi (0)])) HS ze100) Z ?_
   rintro _ w ⟨_,rfl,HS⟩
   refine go ?_
   refine W.ss HS Z Z Z Z fun w HS=>go ?_
   have HS:=HS.fr 14
   obtain ⟨_,_,HS⟩:=ap.open HS
   refine W.kl H func69 (fun _ h=>cX.calls h HS.j2) ?_
   rintro t34 _ w H ⟨rfl,HS⟩
   have HS:=HS.o2
   refine go ?_
   refine W.sr 2 HS Z Z Z fun w HS=>go ?_
   refine At.ow [(2,pt nb1),(3,pt nb13),(35,Value.agg #[pt b22_p0,pt b23_p0,pt b24_p0,vi a0.sides.1.counts.Good,vi a0.sides.1.counts.Bad,vi a0.sides.1.counts.Aborts,vi a0.sides.1.counts.Runts,vi a0.sides.1.counts.Giants,vi a0.sides.1.counts.Dropped,vi a0.sides.1.counts.Twins,pt b32_p0,pt b33_p0,pt b34_p0,vi a0.sides.2.counts.Good,vi a0.sides.2.counts.Bad,vi a0.sides.2.counts.Aborts,vi a0.sides.2.counts.Runts,vi a0.sides.2.counts.Giants,vi a0.sides.2.counts.Dropped,vi a0.sides.2.counts.Twins]),(36,vi (1))] (go ?_)
   refine W.r (X.ixK (Value.agg #[pt b32_p0,pt b33_p0,pt b34_p0,vi a0.sides.2.counts.Good,vi a0.sides.2.counts.Bad,vi a0.sides.2.counts.Aborts,vi a0.sides.2.counts.Runts,vi a0.sides.2.counts.Giants,vi a0.sides.2.counts.Dropped,vi a0.sides.2.counts.Twins]) Z Z (fun _=>by kernel_rfl)) Z ?_
   refine W.e (Y.alloc (z:=Value.agg (#[Value.pointer none,Value.pointer none,Value.pointer none,vi (0),vi (0),vi (0),vi (0),vi (0),vi (0),vi (0)])) HS ze100) Z ?_
   rintro _ w ⟨_,rfl,HS⟩
   refine go ?_
   refine W.ss HS Z Z Z Z fun w HS=>go ?_
   have HS:=HS.fr 19
   obtain ⟨_,_,HS⟩:=ap.open HS
   refine W.kl H func69 (fun _ h=>cX.calls h HS.j2) ?_
   rintro t41 _ w H ⟨rfl,HS⟩
   have HS:=HS.o2
   refine go ?_
   refine W.sr 3 HS Z Z Z fun w HS=>go ?_
   refine At.ow [(2,pt nb1),(3,pt nb13),(35,Value.agg #[pt b22_p0,pt b23_p0,pt b24_p0,vi a0.sides.1.counts.Good,vi a0.sides.1.counts.Bad,vi a0.sides.1.counts.Aborts,vi a0.sides.1.counts.Runts,vi a0.sides.1.counts.Giants,vi a0.sides.1.counts.Dropped,vi a0.sides.1.counts.Twins,pt b32_p0,pt b33_p0,pt b34_p0,vi a0.sides.2.counts.Good,vi a0.sides.2.counts.Bad,vi a0.sides.2.counts.Aborts,vi a0.sides.2.counts.Runts,vi a0.sides.2.counts.Giants,vi a0.sides.2.counts.Dropped,vi a0.sides.2.counts.Twins]),(36,vi (2))] (go ?_)
   have HS:=HS.fr 14
   obtain ⟨_,HS⟩:=bh.open HS
   refine W.ss HS Z Z Z Z fun w HS=>go ?_
   have hv47:=run_loadSt (P:=Tryz.prog) (p:=0) 0 [vi x17.State,vi x17.Line,vi t34,vi t41,vi t21.1,vi t21.2.1,vi t21.2.2] HS rfl underlying39 rfl inf39 rfl
   have HS:=(ap.close tv ((ap.close tv ((ae.close tv (HS.b [8,8,8,8,8,8,8])).b [5,5])).b [3,3])).ke [7,2,6,6,6,1,5,5,0,4,4]
   cases H
   exact At.retv1 Z ⟨_,Z,hv47⟩ ⟨_,Z,Z,HS⟩
end Go.Proofs.YtaejcbpijdacmaaGreat
