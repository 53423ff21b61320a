/- WorldCuts: the functions that its law reaches, as plain functions, and that the machine's calls come to what these say. Conditions: those that stand at each. -/
import Derived.Test.YtaejcbpijdacmaaGreatRunWorldCutsP4
set_option linter.all false
set_option maxRecDepth 100000
set_option maxHeartbeats 4000000
set_option synthInstance.maxSize 100000
set_option synthInstance.maxHeartbeats 1000000
namespace Go.Proofs.YtaejcbpijdacmaaGreat
open Go.RowKit Go.Proofs.YtaejcbpijdacmaaGreat.Sep Go.Proofs.YtaejcbpijdacmaaGreat.Walk Go.Proofs.Tryz
def world_World_Sent.f (k : Nat) (a0 : world_World) (a1 : Int) (a2 : Int) : Option (List (List Int)) := (if a1 ≥ 0 then (if a1 < 2 then (if a2 ≥ 0 then (if a2 < 2 then (if 0 ≤ a1 ∧ a1 < 2 then (if a1 = 0 then (if 0 ≤ a2 ∧ a2 < 2 then (if a2 = 0 then ((world_own.f k a0.ways.1.1.sent).bind fun t32 => some t32) else ((world_own.f k a0.ways.1.2.sent).bind fun t58 => some t58)) else none) else (if 0 ≤ a2 ∧ a2 < 2 then (if a2 = 0 then ((world_own.f k a0.ways.2.1.sent).bind fun t86 => some t86) else ((world_own.f k a0.ways.2.2.sent).bind fun t112 => some t112)) else none)) else none) else some (([] : List (List Int)))) else some (([] : List (List Int)))) else some (([] : List (List Int)))) else some (([] : List (List Int))))
theorem world_World_Sent.calls {k : Nat} {a0 : world_World} {a1 : Int} {a2 : Int} {R : As} {w0 w : World} {b0 : Nat} {b16_p0 : Nat} {b17_p0 : Nat} {b18_p0 : Nat} {a19_p0 : Option Addr} {c19_p0 : Nat} {d19_p0 : List Value} {a20_p0 : Option Addr} {c20_p0 : Nat} {d20_p0 : List Value} {b21_p0 : Nat} {a22_p0 : Option Addr} {c22_p0 : Nat} {d22_p0 : List Value} {a23_p0 : Option Addr} {c23_p0 : Nat} {d23_p0 : List Value} {b24_p0 : Nat} {a25_p0 : Option Addr} {c25_p0 : Nat} {d25_p0 : List Value} {a26_p0 : Option Addr} {c26_p0 : Nat} {d26_p0 : List Value} {b27_p0 : Nat} {a28_p0 : Option Addr} {c28_p0 : Nat} {d28_p0 : List Value} {a29_p0 : Option Addr} {c29_p0 : Nat} {d29_p0 : List Value} {r : List (List Int)} (H : world_World_Sent.f k a0 a1 a2 = some r) (HS : Sep.St [blk b0 (#[vi a0.c.Mode, vi a0.c.Modulus, vi a0.c.Window, vi a0.c.T1, vi a0.c.N2, vi a0.c.Hold, vi a0.c.Wait, vi a0.c.Keep, vi a0.c.Queue, vi a0.c.Size, vi a0.c.Ring, vi a0.c.Rate, vi a0.c.Bad, vi a0.c.Good, vb a0.c.Revert, vb a0.c.Wide, pt b16_p0, pt b17_p0, pt b18_p0, vs a19_p0 a0.ways.1.1.sent.length c19_p0, vs a20_p0 a0.ways.1.1.got.length c20_p0, pt b21_p0, vs a22_p0 a0.ways.1.2.sent.length c22_p0, vs a23_p0 a0.ways.1.2.got.length c23_p0, pt b24_p0, vs a25_p0 a0.ways.2.1.sent.length c25_p0, vs a26_p0 a0.ways.2.1.got.length c26_p0, pt b27_p0, vs a28_p0 a0.ways.2.2.sent.length c28_p0, vs a29_p0 a0.ways.2.2.got.length c29_p0, vi a0.now]) 83, station_Station.at b16_p0 a0.stations.1, station_Station.at b17_p0 a0.stations.2, pipe_Pipe.at b18_p0 a0.ways.1.1.pipe, row 48 1 (.slice a19_p0 a0.ways.1.1.sent.length c19_p0) a0.ways.1.1.sent.length d19_p0, tie (El.sl (El.int .u8)) d19_p0 a0.ways.1.1.sent, row 48 1 (.slice a20_p0 a0.ways.1.1.got.length c20_p0) a0.ways.1.1.got.length d20_p0, tie (El.sl (El.int .u8)) d20_p0 a0.ways.1.1.got, pipe_Pipe.at b21_p0 a0.ways.1.2.pipe, row 48 1 (.slice a22_p0 a0.ways.1.2.sent.length c22_p0) a0.ways.1.2.sent.length d22_p0, tie (El.sl (El.int .u8)) d22_p0 a0.ways.1.2.sent, row 48 1 (.slice a23_p0 a0.ways.1.2.got.length c23_p0) a0.ways.1.2.got.length d23_p0, tie (El.sl (El.int .u8)) d23_p0 a0.ways.1.2.got, pipe_Pipe.at b24_p0 a0.ways.2.1.pipe, row 48 1 (.slice a25_p0 a0.ways.2.1.sent.length c25_p0) a0.ways.2.1.sent.length d25_p0, tie (El.sl (El.int .u8)) d25_p0 a0.ways.2.1.sent, row 48 1 (.slice a26_p0 a0.ways.2.1.got.length c26_p0) a0.ways.2.1.got.length d26_p0, tie (El.sl (El.int .u8)) d26_p0 a0.ways.2.1.got, pipe_Pipe.at b27_p0 a0.ways.2.2.pipe, row 48 1 (.slice a28_p0 a0.ways.2.2.sent.length c28_p0) a0.ways.2.2.sent.length d28_p0, tie (El.sl (El.int .u8)) d28_p0 a0.ways.2.2.sent, row 48 1 (.slice a29_p0 a0.ways.2.2.got.length c29_p0) a0.ways.2.2.got.length d29_p0, tie (El.sl (El.int .u8)) d29_p0 a0.ways.2.2.got, R] w0 w)  : Calls Tryz.prog 42 #[pt b0, vi a1, vi a2] w (Ret fun u w => ∃ (aq0 : Option Addr) (cq0 : Nat) (dq0 : List Value), u = vs aq0 r.length cq0 ∧ Sep.St [row 48 1 (.slice aq0 r.length cq0) r.length dq0, tie (El.sl (El.int .u8)) dq0 r, blk b0 (#[vi a0.c.Mode, vi a0.c.Modulus, vi a0.c.Window, vi a0.c.T1, vi a0.c.N2, vi a0.c.Hold, vi a0.c.Wait, vi a0.c.Keep, vi a0.c.Queue, vi a0.c.Size, vi a0.c.Ring, vi a0.c.Rate, vi a0.c.Bad, vi a0.c.Good, vb a0.c.Revert, vb a0.c.Wide, pt b16_p0, pt b17_p0, pt b18_p0, vs a19_p0 a0.ways.1.1.sent.length c19_p0, vs a20_p0 a0.ways.1.1.got.length c20_p0, pt b21_p0, vs a22_p0 a0.ways.1.2.sent.length c22_p0, vs a23_p0 a0.ways.1.2.got.length c23_p0, pt b24_p0, vs a25_p0 a0.ways.2.1.sent.length c25_p0, vs a26_p0 a0.ways.2.1.got.length c26_p0, pt b27_p0, vs a28_p0 a0.ways.2.2.sent.length c28_p0, vs a29_p0 a0.ways.2.2.got.length c29_p0, vi a0.now]) 83, station_Station.at b16_p0 a0.stations.1, station_Station.at b17_p0 a0.stations.2, pipe_Pipe.at b18_p0 a0.ways.1.1.pipe, row 48 1 (.slice a19_p0 a0.ways.1.1.sent.length c19_p0) a0.ways.1.1.sent.length d19_p0, tie (El.sl (El.int .u8)) d19_p0 a0.ways.1.1.sent, row 48 1 (.slice a20_p0 a0.ways.1.1.got.length c20_p0) a0.ways.1.1.got.length d20_p0, tie (El.sl (El.int .u8)) d20_p0 a0.ways.1.1.got, pipe_Pipe.at b21_p0 a0.ways.1.2.pipe, row 48 1 (.slice a22_p0 a0.ways.1.2.sent.length c22_p0) a0.ways.1.2.sent.length d22_p0, tie (El.sl (El.int .u8)) d22_p0 a0.ways.1.2.sent, row 48 1 (.slice a23_p0 a0.ways.1.2.got.length c23_p0) a0.ways.1.2.got.length d23_p0, tie (El.sl (El.int .u8)) d23_p0 a0.ways.1.2.got, pipe_Pipe.at b24_p0 a0.ways.2.1.pipe, row 48 1 (.slice a25_p0 a0.ways.2.1.sent.length c25_p0) a0.ways.2.1.sent.length d25_p0, tie (El.sl (El.int .u8)) d25_p0 a0.ways.2.1.sent, row 48 1 (.slice a26_p0 a0.ways.2.1.got.length c26_p0) a0.ways.2.1.got.length d26_p0, tie (El.sl (El.int .u8)) d26_p0 a0.ways.2.1.got, pipe_Pipe.at b27_p0 a0.ways.2.2.pipe, row 48 1 (.slice a28_p0 a0.ways.2.2.sent.length c28_p0) a0.ways.2.2.sent.length d28_p0, tie (El.sl (El.int .u8)) d28_p0 a0.ways.2.2.sent, row 48 1 (.slice a29_p0 a0.ways.2.2.got.length c29_p0) a0.ways.2.2.got.length d29_p0, tie (El.sl (El.int .u8)) d29_p0 a0.ways.2.2.got, R] w0 w) := by
 unfold world_World_Sent.f at H
 refine calls_enter func42 rfl rfl ?_
 have H : _ = some r := H
 refine V.seq (V.region (W.as rfl (W.nx (V.seq (V.region (W.mv rfl (W.mv rfl (W.mv rfl ?_))))))))
 refine W.inl (Y.cl (vs := [pt b0, vi a1, vi a2]) func51 (calls_enter func51 rfl rfl ?_)) rfl rfl rfl
 refine V.seq (V.region (W.as rfl (W.as rfl (W.nx (V.seq (V.seq (V.region (W.mv rfl ?_))))))))
 refine W.inl (Y.cl (vs := [vi a1]) func53 (calls_enter func53 rfl rfl ?_)) rfl rfl rfl
 refine V.seq (V.region (W.as rfl (W.nx (V.seq (V.region (W.mv rfl (W.r (X.cmp (decide (a1 ≥ 0)) rfl rfl rfl rfl) rfl (W.mv rfl ?_))))))))
 by_cases c1 : a1 ≥ 0
 ·replace H := ite_t c1 H
  refine W.want 5 rfl (sb (dT c1)) (W.mv rfl (W.want 5 rfl (sb (dT c1)) (W.r (X.cmp (decide (a1 < 2)) rfl rfl rfl rfl) rfl (W.r (X.pickT (sb (dT c1)) rfl) rfl (W.as rfl (W.nx (V.ret ?_)))))))
  refine At.ret1 rfl rfl ⟨_, rfl, ?_⟩
  refine W.r (X.not rfl) rfl (W.mv rfl ?_)
  by_cases c2 : a1 < 2
  ·replace H := ite_t c2 H
   refine W.want 11 rfl (sb (n_t (dT c2))) (W.mv rfl (W.want 11 rfl (sb (n_t (dT c2))) ?_))
   refine W.inl (Y.cl (vs := [vi a2]) func53 (calls_enter func53 rfl rfl ?_)) rfl rfl rfl
   refine V.seq (V.region (W.as rfl (W.nx (V.seq (V.region (W.mv rfl (W.r (X.cmp (decide (a2 ≥ 0)) rfl rfl rfl rfl) rfl (W.mv rfl ?_))))))))
   by_cases c3 : a2 ≥ 0
   ·replace H := ite_t c3 H
    refine W.want 5 rfl (sb (dT c3)) (W.mv rfl (W.want 5 rfl (sb (dT c3)) (W.r (X.cmp (decide (a2 < 2)) rfl rfl rfl rfl) rfl (W.r (X.pickT (sb (dT c3)) rfl) rfl (W.as rfl (W.nx (V.ret ?_)))))))
    refine At.ret1 rfl rfl ⟨_, rfl, ?_⟩
    refine W.want 11 rfl (sb (n_t (dT c2))) (W.r (X.not rfl) rfl (W.r (X.pickF (sb (n_t (dT c2))) rfl) rfl (W.nx ?_)))
    by_cases c4 : a2 < 2
    ·replace H := ite_t c4 H
     refine V.condF (sb (n_t (dT c4))) (V.skip (At.next (V.seq (V.region (W.mv rfl (W.mv rfl (W.mv rfl (W.nc rfl (W.fa fo83_2 rfl ?_)))))))))
     obtain ⟨c5, H⟩ := ite_n H
     by_cases c6 : a1 = 0
     ·replace H := ite_t c6 H
      refine W.r (X.indexArK 0 c6 underlying81 inf80 rfl rfl c5.1 c5.2) rfl ?_
      obtain ⟨c7, H⟩ := ite_n H
      by_cases c8 : a2 = 0
      ·replace H := ite_t c8 H
       refine W.r (X.indexArK 0 c8 underlying80 inf79 rfl rfl c7.1 c7.2) rfl (W.as rfl (W.as rfl (W.nx (V.ret ?_))))
       refine At.ret2 rfl rfl rfl ⟨_, rfl, ?_⟩
       refine W.mv rfl (W.r (X.extract rfl rfl) rfl (W.r (X.extract rfl rfl) rfl (W.as rfl (W.as rfl (W.nx (V.seq (V.seq (V.region (W.mv rfl (W.r (X.not rfl) rfl (W.nx (V.condF rfl (V.skip (At.next (V.seq (V.region (W.mv rfl (W.nc rfl (W.fa fo79_1 rfl (W.ld 0 HS underlying35 rfl rfl rfl rfl ?_))))))))))))))))))))
       obtain ⟨t32, A33, H⟩ := bind_s H
       refine W.e (Y.cl func64 (world_own.calls A33 HS.j0 (rdC.part 4 row_rd rfl) (fun h hh => let ⟨_, l, t⟩ := Sp.has 5 hh rfl; tie.mono t l))) rfl ?_
       rintro _ w ⟨at32_0, ct32_0, dt32_0, rfl, HS⟩
       replace HS := HS.o2
       refine W.as rfl (W.nx (V.ret ?_))
       cases H
       exact At.ret1 rfl rfl ⟨_, rfl, at32_0, ct32_0, dt32_0, rfl, HS⟩
      ·replace H := ite_f c8 H
       have hk34 : a2 = 1 := by omega
       refine W.r (X.indexArK 1 hk34 underlying80 inf79 rfl rfl c7.1 c7.2) rfl (W.as rfl (W.as rfl (W.nx (V.ret ?_))))
       refine At.ret2 rfl rfl rfl ⟨_, rfl, ?_⟩
       refine W.mv rfl (W.r (X.extract rfl rfl) rfl (W.r (X.extract rfl rfl) rfl (W.as rfl (W.as rfl (W.nx (V.seq (V.seq (V.region (W.mv rfl (W.r (X.not rfl) rfl (W.nx (V.condF rfl (V.skip (At.next (V.seq (V.region (W.mv rfl (W.nc rfl (W.fa fo79_1 rfl (W.ld 0 HS underlying35 rfl rfl rfl rfl ?_))))))))))))))))))))
       obtain ⟨t58, A59, H⟩ := bind_s H
       refine W.e (Y.cl func64 (world_own.calls A59 HS.j0 (rdC.part 9 row_rd rfl) (fun h hh => let ⟨_, l, t⟩ := Sp.has 10 hh rfl; tie.mono t l))) rfl ?_
       rintro _ w ⟨at58_0, ct58_0, dt58_0, rfl, HS⟩
       replace HS := HS.o2
       refine W.as rfl (W.nx (V.ret ?_))
       cases H
       exact At.ret1 rfl rfl ⟨_, rfl, at58_0, ct58_0, dt58_0, rfl, HS⟩
     ·replace H := ite_f c6 H
      have hk60 : a1 = 1 := by omega
      refine W.r (X.indexArK 1 hk60 underlying81 inf80 rfl rfl c5.1 c5.2) rfl ?_
      obtain ⟨c61, H⟩ := ite_n H
      by_cases c62 : a2 = 0
      ·replace H := ite_t c62 H
       refine W.r (X.indexArK 0 c62 underlying80 inf79 rfl rfl c61.1 c61.2) rfl (W.as rfl (W.as rfl (W.nx (V.ret ?_))))
       refine At.ret2 rfl rfl rfl ⟨_, rfl, ?_⟩
       refine W.mv rfl (W.r (X.extract rfl rfl) rfl (W.r (X.extract rfl rfl) rfl (W.as rfl (W.as rfl (W.nx (V.seq (V.seq (V.region (W.mv rfl (W.r (X.not rfl) rfl (W.nx (V.condF rfl (V.skip (At.next (V.seq (V.region (W.mv rfl (W.nc rfl (W.fa fo79_1 rfl (W.ld 0 HS underlying35 rfl rfl rfl rfl ?_))))))))))))))))))))
       obtain ⟨t86, A87, H⟩ := bind_s H
       refine W.e (Y.cl func64 (world_own.calls A87 HS.j0 (rdC.part 14 row_rd rfl) (fun h hh => let ⟨_, l, t⟩ := Sp.has 15 hh rfl; tie.mono t l))) rfl ?_
       rintro _ w ⟨at86_0, ct86_0, dt86_0, rfl, HS⟩
       replace HS := HS.o2
       refine W.as rfl (W.nx (V.ret ?_))
       cases H
       exact At.ret1 rfl rfl ⟨_, rfl, at86_0, ct86_0, dt86_0, rfl, HS⟩
      ·replace H := ite_f c62 H
       have hk88 : a2 = 1 := by omega
       refine W.r (X.indexArK 1 hk88 underlying80 inf79 rfl rfl c61.1 c61.2) rfl (W.as rfl (W.as rfl (W.nx (V.ret ?_))))
       refine At.ret2 rfl rfl rfl ⟨_, rfl, ?_⟩
       refine W.mv rfl (W.r (X.extract rfl rfl) rfl (W.r (X.extract rfl rfl) rfl (W.as rfl (W.as rfl (W.nx (V.seq (V.seq (V.region (W.mv rfl (W.r (X.not rfl) rfl (W.nx (V.condF rfl (V.skip (At.next (V.seq (V.region (W.mv rfl (W.nc rfl (W.fa fo79_1 rfl (W.ld 0 HS underlying35 rfl rfl rfl rfl ?_))))))))))))))))))))
       obtain ⟨t112, A113, H⟩ := bind_s H
       refine W.e (Y.cl func64 (world_own.calls A113 HS.j0 (rdC.part 19 row_rd rfl) (fun h hh => let ⟨_, l, t⟩ := Sp.has 20 hh rfl; tie.mono t l))) rfl ?_
       rintro _ w ⟨at112_0, ct112_0, dt112_0, rfl, HS⟩
       replace HS := HS.o2
       refine W.as rfl (W.nx (V.ret ?_))
       cases H
       exact At.ret1 rfl rfl ⟨_, rfl, at112_0, ct112_0, dt112_0, rfl, HS⟩
    ·replace H := ite_f c4 H
     refine V.condT (sb (n_f (dF c4))) (V.seq (V.region (W.as rfl (W.as rfl (W.nx (V.ret (At.thenRet ?_)))))))
     refine At.ret2 rfl rfl rfl ⟨_, rfl, ?_⟩
     refine W.mv rfl (W.r (X.extract rfl rfl) rfl (W.r (X.extract rfl rfl) rfl (W.as rfl (W.as rfl (W.nx (V.seq (V.seq (V.region (W.mv rfl (W.r (X.not rfl) rfl (W.nx (V.condT rfl (V.seq (V.region (W.as rfl (W.nx (V.ret (At.thenRet ?_))))))))))))))))))
     replace HS := row_nilE (El.sl (El.int .u8)) 48 1 HS
     cases H
     exact At.ret1 rfl rfl ⟨_, rfl, none, 0, [], rfl, HS⟩
   ·replace H := ite_f c3 H
    refine W.pass 5 rfl (sb (dF c3)) rfl rfl (W.pass 5 rfl (sb (dF c3)) rfl rfl (W.r (X.pickF (sb (dF c3)) rfl) rfl (W.as rfl (W.nx (V.ret ?_)))))
    refine At.ret1 rfl rfl ⟨_, rfl, ?_⟩
    refine W.want 11 rfl (sb (n_t (dT c2))) (W.r (X.not rfl) rfl (W.r (X.pickF (sb (n_t (dT c2))) rfl) rfl (W.nx (V.condT rfl (V.seq (V.region (W.as rfl (W.as rfl (W.nx (V.ret (At.thenRet ?_)))))))))))
    refine At.ret2 rfl rfl rfl ⟨_, rfl, ?_⟩
    refine W.mv rfl (W.r (X.extract rfl rfl) rfl (W.r (X.extract rfl rfl) rfl (W.as rfl (W.as rfl (W.nx (V.seq (V.seq (V.region (W.mv rfl (W.r (X.not rfl) rfl (W.nx (V.condT rfl (V.seq (V.region (W.as rfl (W.nx (V.ret (At.thenRet ?_))))))))))))))))))
    replace HS := row_nilE (El.sl (El.int .u8)) 48 1 HS
    cases H
    exact At.ret1 rfl rfl ⟨_, rfl, none, 0, [], rfl, HS⟩
  ·replace H := ite_f c2 H
   refine W.pass 11 rfl (sb (n_f (dF c2))) rfl rfl (W.pass 11 rfl (sb (n_f (dF c2))) rfl rfl (W.pass 11 rfl (sb (n_f (dF c2))) rfl rfl (W.r (X.pickT (sb (n_f (dF c2))) rfl) rfl (W.nx (V.condT rfl (V.seq (V.region (W.as rfl (W.as rfl (W.nx (V.ret (At.thenRet ?_))))))))))))
   refine At.ret2 rfl rfl rfl ⟨_, rfl, ?_⟩
   refine W.mv rfl (W.r (X.extract rfl rfl) rfl (W.r (X.extract rfl rfl) rfl (W.as rfl (W.as rfl (W.nx (V.seq (V.seq (V.region (W.mv rfl (W.r (X.not rfl) rfl (W.nx (V.condT rfl (V.seq (V.region (W.as rfl (W.nx (V.ret (At.thenRet ?_))))))))))))))))))
   replace HS := row_nilE (El.sl (El.int .u8)) 48 1 HS
   cases H
   exact At.ret1 rfl rfl ⟨_, rfl, none, 0, [], rfl, HS⟩
 ·replace H := ite_f c1 H
  refine W.pass 5 rfl (sb (dF c1)) rfl rfl (W.pass 5 rfl (sb (dF c1)) rfl rfl (W.r (X.pickF (sb (dF c1)) rfl) rfl (W.as rfl (W.nx (V.ret ?_)))))
  refine At.ret1 rfl rfl ⟨_, rfl, ?_⟩
  refine W.r (X.not rfl) rfl (W.mv rfl (W.pass 11 rfl rfl rfl rfl (W.pass 11 rfl rfl rfl rfl (W.pass 11 rfl rfl rfl rfl (W.r (X.pickT rfl rfl) rfl (W.nx (V.condT rfl (V.seq (V.region (W.as rfl (W.as rfl (W.nx (V.ret (At.thenRet ?_))))))))))))))
  refine At.ret2 rfl rfl rfl ⟨_, rfl, ?_⟩
  refine W.mv rfl (W.r (X.extract rfl rfl) rfl (W.r (X.extract rfl rfl) rfl (W.as rfl (W.as rfl (W.nx (V.seq (V.seq (V.region (W.mv rfl (W.r (X.not rfl) rfl (W.nx (V.condT rfl (V.seq (V.region (W.as rfl (W.nx (V.ret (At.thenRet ?_))))))))))))))))))
  replace HS := row_nilE (El.sl (El.int .u8)) 48 1 HS
  cases H
  exact At.ret1 rfl rfl ⟨_, rfl, none, 0, [], rfl, HS⟩
mutual
def signalmanlaw21_alive.j0  : Option Bool := some false
def signalmanlaw21_alive.j1 (k : Nat) (t3 : Option world_World × Int) (t3 : Option world_World × Int) (t3 : Option world_World × Int) (x15 : Bool) : Option Bool := (if x15 = true then some false else ((world_World_Now.f (t3.1.getD default)).bind fun t20 => ((station_Station_Connect.f k ((t3.1.getD default).stations.1)).bind fun t22 => ((world_World_Step.f k ({ c := ({ Mode := (t3.1.getD default).c.Mode, Modulus := (t3.1.getD default).c.Modulus, Window := (t3.1.getD default).c.Window, T1 := (t3.1.getD default).c.T1, N2 := (t3.1.getD default).c.N2, Hold := (t3.1.getD default).c.Hold, Wait := (t3.1.getD default).c.Wait, Keep := (t3.1.getD default).c.Keep, Queue := (t3.1.getD default).c.Queue, Size := (t3.1.getD default).c.Size, Ring := (t3.1.getD default).c.Ring, Rate := (t3.1.getD default).c.Rate, Bad := (t3.1.getD default).c.Bad, Good := (t3.1.getD default).c.Good, Revert := (t3.1.getD default).c.Revert, Wide := (t3.1.getD default).c.Wide } : api_Config), stations := (t22.2, (t3.1.getD default).stations.2), ways := ((({ pipe := (t3.1.getD default).ways.1.1.pipe, sent := (t3.1.getD default).ways.1.1.sent, got := (t3.1.getD default).ways.1.1.got } : world_way), ({ pipe := (t3.1.getD default).ways.1.2.pipe, sent := (t3.1.getD default).ways.1.2.sent, got := (t3.1.getD default).ways.1.2.got } : world_way)), (({ pipe := (t3.1.getD default).ways.2.1.pipe, sent := (t3.1.getD default).ways.2.1.sent, got := (t3.1.getD default).ways.2.1.got } : world_way), ({ pipe := (t3.1.getD default).ways.2.2.pipe, sent := (t3.1.getD default).ways.2.2.sent, got := (t3.1.getD default).ways.2.2.got } : world_way))), now := (t3.1.getD default).now } : world_World)).bind fun t24 => (if t20 = 0 then ((signalmanlaw21_num.f t22.1).bind fun t27 => (if t27 = 0 then ((world_World_Now.f t24).bind fun t32 => (if t32 = 1 then ((world_World_Sent.f k t24 0 0).bind fun t35 => some (decide ((t35.length : Int) = 1))) else some false)) else some false)) else some false)))))
end
def signalmanlaw21_alive.f (k : Nat)  : Option Bool := ((signalmanlaw20_Good.f 0 3 30 false false).bind fun t1 => ((world_New.f k t1).bind fun t3 => (if t3.1.isNone = true then ((signalmanlaw21_num.f t3.2).bind fun t9 => (if t9 = 0 then signalmanlaw21_alive.j0 else signalmanlaw21_alive.j0)) else ((signalmanlaw21_num.f t3.2).bind fun t37 => (if t37 = 0 then (signalmanlaw21_alive.j1 k t3 t3 t3 false) else (signalmanlaw21_alive.j1 k t3 t3 t3 true))))))
theorem signalmanlaw21_alive.calls {k : Nat}  {R : As} {w0 w : World}  {r : Bool} (H : signalmanlaw21_alive.f k  = some r) (HS : Sep.St [R] w0 w)  : Calls Tryz.prog 8 #[] w (Ret fun u w => u = vb r ∧ Sep.St [R] w0 w) := by
 unfold signalmanlaw21_alive.f at H
 refine calls_enter func8 rfl rfl ?_
 have H : _ = some r := H
 refine V.seq (V.region (W.as rfl (W.nx (V.seq (V.region ?_)))))
 obtain ⟨t1, A2, H⟩ := bind_s H
 refine W.e (Y.cl func24 (signalmanlaw20_Good.calls A2 HS.j0)) rfl ?_
 rintro _ w ⟨rfl, HS⟩
 replace HS := HS.o0
 obtain ⟨t3, A4, H⟩ := bind_s H
 by_cases c5 : t3.1.isNone = true
 ·replace H := ite_t c5 H
  refine W.e (Y.cl func9 (world_New.calls A4 HS.j0)) rfl ?_
  rintro _ w ⟨bt3_0, rfl, HS⟩
  replace HS := HS.o1
  replace HS := St.optN c5 HS
  rw [optv_n c5]
  refine W.mv rfl (W.r (X.extract rfl rfl) rfl (W.r (X.extract rfl rfl) rfl (W.as rfl (W.as rfl (W.nx (V.seq (V.meet (σ := Unit) (fun st w => match st with | _ => Sep.St [R] w0 w ∧ signalmanlaw21_alive.j0 = some r) (fun st => match st with | _ => [(1, Value.pointer none), (26, vb true)]) ?_ ?_)))))))
  ·refine V.region (W.mv rfl ?_)
   obtain ⟨t9, A10, H⟩ := bind_s H
   refine W.e (Y.cl func10 (signalmanlaw21_num.calls A10 HS.j0)) rfl ?_
   rintro _ w ⟨rfl, HS⟩
   replace HS := HS.o0
   refine W.r (X.cmp (!(decide (t9 = 0))) rfl rfl rfl rfl) rfl (W.mv rfl ?_)
   by_cases c11 : t9 = 0
   ·replace H := ite_t c11 H
    refine W.want 13 rfl (sb (n_t (dT c11))) (W.mv rfl (W.want 13 rfl (sb (n_t (dT c11))) (W.r (X.eqP underlying25 rfl rfl) rfl (W.r (X.pickF (sb (n_t (dT c11))) rfl) rfl (W.mv rfl (W.pass 17 rfl rfl rfl rfl (W.pass 17 rfl rfl rfl rfl (W.pass 17 rfl rfl rfl rfl (W.r (X.pickT rfl rfl) rfl (W.mv rfl (W.pass 22 rfl rfl rfl rfl (W.pass 22 rfl rfl rfl rfl (W.pass 22 rfl rfl rfl rfl (W.r (X.pickT rfl rfl) rfl (W.nil ?_)))))))))))))))
    exact At.meet () ⟨rfl, rfl, tv⟩ ⟨HS, H⟩
   ·replace H := ite_f c11 H
    refine W.pass 13 rfl (sb (n_f (dF c11))) rfl rfl (W.pass 13 rfl (sb (n_f (dF c11))) rfl rfl (W.r (X.pickT (sb (n_f (dF c11))) rfl) rfl (W.mv rfl (W.pass 17 rfl rfl rfl rfl (W.pass 17 rfl rfl rfl rfl (W.pass 17 rfl rfl rfl rfl (W.r (X.pickT rfl rfl) rfl (W.mv rfl (W.pass 22 rfl rfl rfl rfl (W.pass 22 rfl rfl rfl rfl (W.pass 22 rfl rfl rfl rfl (W.r (X.pickT rfl rfl) rfl (W.nil ?_)))))))))))))
    exact At.meet () ⟨rfl, rfl, tv⟩ ⟨HS, H⟩
  ·rintro ⟨⟩ w ⟨HS, H⟩
   unfold signalmanlaw21_alive.j0 at H
   refine V.condT rfl (V.seq (V.region (W.as rfl (W.nx (V.ret (At.thenRet ?_))))))
   cases H
   exact At.ret1 rfl rfl ⟨_, rfl, rfl, HS⟩
 ·replace H := ite_f c5 H
  refine W.e (Y.cl func9 (world_New.calls A4 HS.j0)) rfl ?_
  rintro _ w ⟨bt3_0, rfl, HS⟩
  replace HS := HS.o1
  replace HS := St.optS default c5 HS
  rw [optv_s c5]
  refine W.mv rfl (W.r (X.extract rfl rfl) rfl (W.r (X.extract rfl rfl) rfl (W.as rfl (W.as rfl (W.nx (V.seq (V.meet (σ := Bool) (fun st w => match st with | x15 => Sep.St [world_World.at bt3_0 (t3.1.getD default), R] w0 w ∧ ∃ kf16, kf16 ≤ k ∧ signalmanlaw21_alive.j1 kf16 t3 t3 t3 x15 = some r) (fun st => match st with | x15 => [(1, pt bt3_0), (26, vb x15)]) ?_ ?_)))))))
  ·refine V.region (W.mv rfl ?_)
   obtain ⟨t37, A38, H⟩ := bind_s H
   refine W.e (Y.cl func10 (signalmanlaw21_num.calls A38 HS.j0)) rfl ?_
   rintro _ w ⟨rfl, HS⟩
   replace HS := HS.o0
   refine W.r (X.cmp (!(decide (t37 = 0))) rfl rfl rfl rfl) rfl (W.mv rfl ?_)
   by_cases c39 : t37 = 0
   ·replace H := ite_t c39 H
    refine W.want 13 rfl (sb (n_t (dT c39))) (W.mv rfl (W.want 13 rfl (sb (n_t (dT c39))) (W.r (X.eqP underlying25 rfl rfl) rfl (W.r (X.pickF (sb (n_t (dT c39))) rfl) rfl (W.mv rfl (W.want 17 rfl rfl (W.mv rfl (W.want 17 rfl rfl ?_))))))))
    refine W.inl (Y.cl (vs := [pt bt3_0, vi (0)]) func13 (calls_enter func13 rfl rfl ?_)) rfl rfl rfl
    refine V.seq (V.region (W.as rfl (W.nx (V.seq (V.seq (V.region (W.mv rfl ?_)))))))
    refine W.inl (Y.cl (vs := [vi (0)]) func53 (calls_enter func53 rfl rfl ?_)) rfl rfl rfl
    refine V.seq (V.region (W.as rfl (W.nx (V.seq (V.region (W.mv rfl (W.r (X.cmp true (by decide) rfl rfl rfl) rfl (W.mv rfl (W.want 5 rfl rfl (W.mv rfl (W.want 5 rfl rfl (W.r (X.cmp true (by decide) rfl rfl rfl) rfl (W.r (X.pickT rfl rfl) rfl (W.as rfl (W.nx (V.ret ?_))))))))))))))))
    refine At.ret1 rfl rfl ⟨_, rfl, ?_⟩
    refine W.r (X.not rfl) rfl (W.nx (V.condF rfl (V.skip (At.next (V.seq (V.region (W.mv rfl (W.mv rfl (W.nc rfl ?_)))))))))
    obtain ⟨b16_40, b17_40, b18_40, a19_40, c19_40, d19_40, a20_40, c20_40, d20_40, b21_40, a22_40, c22_40, d22_40, a23_40, c23_40, d23_40, b24_40, a25_40, c25_40, d25_40, a26_40, c26_40, d26_40, b27_40, a28_40, c28_40, d28_40, a29_40, c29_40, d29_40, hi41, HS⟩ := world_World.open HS
    refine W.fa fo83_1 rfl (W.r (X.indexArK 0 rfl underlying76 inf32 rfl rfl (by decide) (by decide)) rfl (W.ld 0 HS underlying32 rfl rfl rfl rfl (W.as rfl (W.nx (V.ret ?_)))))
    refine At.ret1 rfl rfl ⟨_, rfl, ?_⟩
    refine W.want 17 rfl rfl (W.r (X.eqP underlying32 rfl rfl) rfl (W.r (X.pickF rfl rfl) rfl (W.mv rfl (W.want 22 rfl rfl (W.mv rfl (W.want 22 rfl rfl ?_))))))
    refine W.inl (Y.cl (vs := [pt bt3_0, vi (2)]) func13 (calls_enter func13 rfl rfl ?_)) rfl rfl rfl
    refine V.seq (V.region (W.as rfl (W.nx (V.seq (V.seq (V.region (W.mv rfl ?_)))))))
    refine W.inl (Y.cl (vs := [vi (2)]) func53 (calls_enter func53 rfl rfl ?_)) rfl rfl rfl
    refine V.seq (V.region (W.as rfl (W.nx (V.seq (V.region (W.mv rfl (W.r (X.cmp true (by decide) rfl rfl rfl) rfl (W.mv rfl (W.want 5 rfl rfl (W.mv rfl (W.want 5 rfl rfl (W.r (X.cmp false (by decide) rfl rfl rfl) rfl (W.r (X.pickT rfl rfl) rfl (W.as rfl (W.nx (V.ret ?_))))))))))))))))
    refine At.ret1 rfl rfl ⟨_, rfl, ?_⟩
    refine W.r (X.not rfl) rfl (W.nx (V.condT rfl (V.seq (V.region (W.as rfl (W.nx (V.ret (At.thenRet ?_))))))))
    refine At.ret1 rfl rfl ⟨_, rfl, ?_⟩
    refine W.want 22 rfl rfl (W.r (X.neP underlying32 rfl rfl) rfl (W.r (X.pickF rfl rfl) rfl (W.nil ?_)))
    replace HS := world_World.close tv HS
    exact At.meet false ⟨rfl, rfl, tv⟩ ⟨HS, k, by omega, H⟩
   ·replace H := ite_f c39 H
    refine W.pass 13 rfl (sb (n_f (dF c39))) rfl rfl (W.pass 13 rfl (sb (n_f (dF c39))) rfl rfl (W.r (X.pickT (sb (n_f (dF c39))) rfl) rfl (W.mv rfl (W.pass 17 rfl rfl rfl rfl (W.pass 17 rfl rfl rfl rfl (W.pass 17 rfl rfl rfl rfl (W.r (X.pickT rfl rfl) rfl (W.mv rfl (W.pass 22 rfl rfl rfl rfl (W.pass 22 rfl rfl rfl rfl (W.pass 22 rfl rfl rfl rfl (W.r (X.pickT rfl rfl) rfl (W.nil ?_)))))))))))))
    exact At.meet true ⟨rfl, rfl, tv⟩ ⟨HS, k, by omega, H⟩
  ·rintro x15 w ⟨HS, kf16, hkkf16, H⟩
   unfold signalmanlaw21_alive.j1 at H
   by_cases c17 : x15 = true
   ·replace H := ite_t c17 H
    refine V.condT (sb c17) (V.seq (V.region (W.as rfl (W.nx (V.ret (At.thenRet ?_))))))
    replace HS := HS.pk [1] [0]
    cases H
    exact At.ret1 rfl rfl ⟨_, rfl, rfl, HS⟩
   ·replace H := ite_f c17 H
    refine V.condF (sb (b_f c17)) (V.skip (At.next (V.seq (V.region (W.mv rfl ?_)))))
    obtain ⟨b16_18, b17_18, b18_18, a19_18, c19_18, d19_18, a20_18, c20_18, d20_18, b21_18, a22_18, c22_18, d22_18, a23_18, c23_18, d23_18, b24_18, a25_18, c25_18, d25_18, a26_18, c26_18, d26_18, b27_18, a28_18, c28_18, d28_18, a29_18, c29_18, d29_18, hi19, HS⟩ := world_World.open HS
    obtain ⟨t20, A21, H⟩ := bind_s H
    refine W.e (Y.cl func18 (world_World_Now.calls A21 HS.j23)) rfl ?_
    rintro _ w ⟨rfl, HS⟩
    replace HS := HS.o23
    refine W.as rfl (W.nx (V.seq (V.region (W.mv rfl ?_))))
    refine W.inl (Y.cl (vs := [pt bt3_0, vi (0)]) func13 (calls_enter func13 rfl rfl ?_)) rfl rfl rfl
    refine V.seq (V.region (W.as rfl (W.nx (V.seq (V.seq (V.region (W.mv rfl ?_)))))))
    refine W.inl (Y.cl (vs := [vi (0)]) func53 (calls_enter func53 rfl rfl ?_)) rfl rfl rfl
    refine V.seq (V.region (W.as rfl (W.nx (V.seq (V.region (W.mv rfl (W.r (X.cmp true (by decide) rfl rfl rfl) rfl (W.mv rfl (W.want 5 rfl rfl (W.mv rfl (W.want 5 rfl rfl (W.r (X.cmp true (by decide) rfl rfl rfl) rfl (W.r (X.pickT rfl rfl) rfl (W.as rfl (W.nx (V.ret ?_))))))))))))))))
    refine At.ret1 rfl rfl ⟨_, rfl, ?_⟩
    refine W.r (X.not rfl) rfl (W.nx (V.condF rfl (V.skip (At.next (V.seq (V.region (W.mv rfl (W.mv rfl (W.nc rfl (W.fa fo83_1 rfl (W.r (X.indexArK 0 rfl underlying76 inf32 rfl rfl (by decide) (by decide)) rfl (W.ld 0 HS underlying32 rfl rfl rfl rfl (W.as rfl (W.nx (V.ret ?_)))))))))))))))
    refine At.ret1 rfl rfl ⟨_, rfl, ?_⟩
    obtain ⟨t22, A23, H⟩ := bind_s H
    replace HS := HS.pm [1, 0, 2, 3, 4, 5, 6, 7, 8, 9, 10, 11, 12, 13, 14, 15, 16, 17, 18, 19, 20, 21, 22, 23]
    refine W.e (Y.cl func14 (station_Station_Connect.calls A23 HS.j1)) rfl ?_
    rintro _ w ⟨rfl, HS⟩
    replace HS := HS.o1
    refine W.as rfl (W.nx (V.seq (V.region (W.mv rfl ?_))))
    replace HS := HS.pm [1, 0, 2, 3, 4, 5, 6, 7, 8, 9, 10, 11, 12, 13, 14, 15, 16, 17, 18, 19, 20, 21, 22, 23]
    replace HS := world_World.close tv HS
    obtain ⟨t24, A25, H⟩ := bind_s H
    refine W.e (Y.cl func15 (world_World_Step.calls A25 HS.j1)) rfl ?_
    rintro _ w ⟨rfl, HS⟩
    replace HS := HS.o1
    refine W.nx (V.seq (V.region (W.mv rfl (W.r (X.cmp (decide (t20 = 0)) rfl rfl rfl rfl) rfl (W.mv rfl ?_)))))
    by_cases c26 : t20 = 0
    ·replace H := ite_t c26 H
     refine W.want 36 rfl (sb (dT c26)) (W.mv rfl (W.want 36 rfl (sb (dT c26)) ?_))
     obtain ⟨t27, A28, H⟩ := bind_s H
     refine W.e (Y.cl func10 (signalmanlaw21_num.calls A28 HS.j0)) rfl ?_
     rintro _ w ⟨rfl, HS⟩
     replace HS := HS.o0
     refine W.want 36 rfl (sb (dT c26)) (W.r (X.cmp (decide (t27 = 0)) rfl rfl rfl rfl) rfl (W.r (X.pickT (sb (dT c26)) rfl) rfl (W.mv rfl ?_)))
     by_cases c29 : t27 = 0
     ·replace H := ite_t c29 H
      refine W.want 41 rfl (sb (dT c29)) (W.mv rfl (W.want 41 rfl (sb (dT c29)) ?_))
      obtain ⟨b16_30, b17_30, b18_30, a19_30, c19_30, d19_30, a20_30, c20_30, d20_30, b21_30, a22_30, c22_30, d22_30, a23_30, c23_30, d23_30, b24_30, a25_30, c25_30, d25_30, a26_30, c26_30, d26_30, b27_30, a28_30, c28_30, d28_30, a29_30, c29_30, d29_30, hi31, HS⟩ := world_World.open HS
      obtain ⟨t32, A33, H⟩ := bind_s H
      refine W.e (Y.cl func18 (world_World_Now.calls A33 HS.j23)) rfl ?_
      rintro _ w ⟨rfl, HS⟩
      replace HS := HS.o23
      refine W.want 41 rfl (sb (dT c29)) (W.r (X.cmp (decide (t32 = 1)) rfl rfl rfl rfl) rfl (W.r (X.pickT (sb (dT c29)) rfl) rfl (W.mv rfl ?_)))
      by_cases c34 : t32 = 1
      ·replace H := ite_t c34 H
       refine W.want 46 rfl (sb (dT c34)) (W.mv rfl (W.want 46 rfl (sb (dT c34)) ?_))
       obtain ⟨t35, A36, H⟩ := bind_s H
       refine W.e (Y.cl func42 (world_World_Sent.calls A36 HS.j23)) rfl ?_
       rintro _ w ⟨at35_0, ct35_0, dt35_0, rfl, HS⟩
       replace HS := HS.o25
       refine W.want 46 rfl (sb (dT c34)) (W.r (X.lenSl underlying35 rfl) rfl (W.want 46 rfl (sb (dT c34)) (W.r (X.cmp (decide ((t35.length : Int) = 1)) rfl rfl rfl rfl) rfl (W.r (X.pickT (sb (dT c34)) rfl) rfl (W.as rfl (W.nx (V.ret ?_)))))))
       replace HS := HS.pk [25] [0, 1, 2, 3, 4, 5, 6, 7, 8, 9, 10, 11, 12, 13, 14, 15, 16, 17, 18, 19, 20, 21, 22, 23, 24]
       cases H
       exact At.ret1 rfl rfl ⟨_, rfl, rfl, HS⟩
      ·replace H := ite_f c34 H
       refine W.pass 46 rfl (sb (dF c34)) rfl rfl (W.pass 46 rfl (sb (dF c34)) rfl rfl (W.pass 46 rfl (sb (dF c34)) rfl rfl (W.pass 46 rfl (sb (dF c34)) rfl rfl (W.r (X.pickF (sb (dF c34)) rfl) rfl (W.as rfl (W.nx (V.ret ?_)))))))
       replace HS := HS.pk [23] [0, 1, 2, 3, 4, 5, 6, 7, 8, 9, 10, 11, 12, 13, 14, 15, 16, 17, 18, 19, 20, 21, 22]
       cases H
       exact At.ret1 rfl rfl ⟨_, rfl, rfl, HS⟩
     ·replace H := ite_f c29 H
      refine W.pass 41 rfl (sb (dF c29)) rfl rfl (W.pass 41 rfl (sb (dF c29)) rfl rfl (W.pass 41 rfl (sb (dF c29)) rfl rfl (W.r (X.pickF (sb (dF c29)) rfl) rfl (W.mv rfl (W.pass 46 rfl rfl rfl rfl (W.pass 46 rfl rfl rfl rfl (W.pass 46 rfl rfl rfl rfl (W.pass 46 rfl rfl rfl rfl (W.r (X.pickF rfl rfl) rfl (W.as rfl (W.nx (V.ret ?_))))))))))))
      replace HS := HS.pk [1] [0]
      cases H
      exact At.ret1 rfl rfl ⟨_, rfl, rfl, HS⟩
    ·replace H := ite_f c26 H
     refine W.pass 36 rfl (sb (dF c26)) rfl rfl (W.pass 36 rfl (sb (dF c26)) rfl rfl (W.pass 36 rfl (sb (dF c26)) rfl rfl (W.r (X.pickF (sb (dF c26)) rfl) rfl (W.mv rfl (W.pass 41 rfl rfl rfl rfl (W.pass 41 rfl rfl rfl rfl (W.pass 41 rfl rfl rfl rfl (W.r (X.pickF rfl rfl) rfl (W.mv rfl (W.pass 46 rfl rfl rfl rfl (W.pass 46 rfl rfl rfl rfl (W.pass 46 rfl rfl rfl rfl (W.pass 46 rfl rfl rfl rfl (W.r (X.pickF rfl rfl) rfl (W.as rfl (W.nx (V.ret ?_)))))))))))))))))
     replace HS := HS.pk [1] [0]
     cases H
     exact At.ret1 rfl rfl ⟨_, rfl, rfl, HS⟩
def signalmanref15_within.f (a0 : Int) (a1 : Int) (a2 : Int) : Option Bool := (if a0 ≥ a1 then some (decide (a0 ≤ a2)) else some false)
theorem signalmanref15_within.calls {a0 : Int} {a1 : Int} {a2 : Int} {R : As} {w0 w : World}  {r : Bool} (H : signalmanref15_within.f a0 a1 a2 = some r) (HS : Sep.St [R] w0 w)  : Calls Tryz.prog 108 #[vi a0, vi a1, vi a2] w (Ret fun u w => u = vb r ∧ Sep.St [R] w0 w) := by
 unfold signalmanref15_within.f at H
 refine calls_enter func108 rfl rfl ?_
 have H : _ = some r := H
 refine V.seq (V.region (W.as rfl (W.nx (V.seq (V.region (W.mv rfl (W.mv rfl (W.r (X.cmp (decide (a0 ≥ a1)) rfl rfl rfl rfl) rfl (W.mv rfl ?_)))))))))
 by_cases c1 : a0 ≥ a1
 ·replace H := ite_t c1 H
  refine W.want 10 rfl (sb (dT c1)) (W.mv rfl (W.want 10 rfl (sb (dT c1)) (W.mv rfl (W.want 10 rfl (sb (dT c1)) (W.r (X.cmp (decide (a0 ≤ a2)) rfl rfl rfl rfl) rfl (W.r (X.pickT (sb (dT c1)) rfl) rfl (W.as rfl (W.nx (V.ret ?_)))))))))
  cases H
  exact At.ret1 rfl rfl ⟨_, rfl, rfl, HS⟩
 ·replace H := ite_f c1 H
  refine W.pass 10 rfl (sb (dF c1)) rfl rfl (W.pass 10 rfl (sb (dF c1)) rfl rfl (W.pass 10 rfl (sb (dF c1)) rfl rfl (W.r (X.pickF (sb (dF c1)) rfl) rfl (W.as rfl (W.nx (V.ret ?_))))))
  cases H
  exact At.ret1 rfl rfl ⟨_, rfl, rfl, HS⟩
def signalmanref1_Cut.f (a0 : Int) (a1 : Int) (a2 : Int) : Option Int := (if a0 < a1 then some a1 else (if a0 > a2 then some a2 else some a0))
theorem signalmanref1_Cut.calls {a0 : Int} {a1 : Int} {a2 : Int} {R : As} {w0 w : World}  {r : Int} (H : signalmanref1_Cut.f a0 a1 a2 = some r) (HS : Sep.St [R] w0 w)  : Calls Tryz.prog 77 #[vi a0, vi a1, vi a2] w (Ret fun u w => u = vi r ∧ Sep.St [R] w0 w) := by
 unfold signalmanref1_Cut.f at H
 refine calls_enter func77 rfl rfl ?_
 have H : _ = some r := H
 refine V.seq (V.region (W.as rfl (W.nx (V.seq (V.block (V.seq (V.region (W.mv rfl (W.mv rfl (W.r (X.cmp (decide (a0 < a1)) rfl rfl rfl rfl) rfl (W.as rfl (W.nx ?_))))))))))))
 by_cases c1 : a0 < a1
 ·replace H := ite_t c1 H
  refine V.condT (sb (dT c1)) (V.seq (V.region (W.mv rfl (W.as rfl (W.nx (V.ret (At.blockRet (At.thenRet ?_))))))))
  cases H
  exact At.ret1 rfl rfl ⟨_, rfl, rfl, HS⟩
 ·replace H := ite_f c1 H
  refine V.condF (sb (dF c1)) (V.seq (V.region (W.mv rfl (W.mv rfl (W.r (X.cmp (decide (a0 > a2)) rfl rfl rfl rfl) rfl (W.as rfl (W.nx ?_)))))))
  by_cases c2 : a0 > a2
  ·replace H := ite_t c2 H
   refine V.condT (sb (dT c2)) (V.seq (V.region (W.mv rfl (W.as rfl (W.nx (V.ret (At.blockRet (At.thenRet ?_))))))))
   cases H
   exact At.ret1 rfl rfl ⟨_, rfl, rfl, HS⟩
  ·replace H := ite_f c2 H
   refine V.condF (sb (dF c2)) (V.skip (At.blockEnd (At.next (V.seq (V.region (W.mv rfl (W.as rfl (W.nx (V.ret ?_)))))))))
   cases H
   exact At.ret1 rfl rfl ⟨_, rfl, rfl, HS⟩
def signalmanref15_Most.f (a0 : api_Config) : Option Int := ((signalmanref1_Cut.f a0.Size 1 1000).bind fun t2 => some (w64 ((w64 (2 * (w64 (t2 + 16)))) + 2)))
theorem signalmanref15_Most.calls {a0 : api_Config} {R : As} {w0 w : World}  {r : Int} (H : signalmanref15_Most.f a0 = some r) (HS : Sep.St [R] w0 w)  : Calls Tryz.prog 50 #[Value.agg #[vi a0.Mode, vi a0.Modulus, vi a0.Window, vi a0.T1, vi a0.N2, vi a0.Hold, vi a0.Wait, vi a0.Keep, vi a0.Queue, vi a0.Size, vi a0.Ring, vi a0.Rate, vi a0.Bad, vi a0.Good, vb a0.Revert, vb a0.Wide]] w (Ret fun u w => u = vi r ∧ Sep.St [R] w0 w) := by
 unfold signalmanref15_Most.f at H
 refine calls_enter func50 rfl rfl ?_
 have H : _ = some r := H
 refine V.seq (V.region (W.e (Y.box HS rfl) rfl ?_))
 rintro _ w ⟨nb1, rfl, HS⟩
 refine W.as rfl (W.nx (V.seq (V.region (W.fa fo23_9 rfl (W.ld 0 HS underlying3 rfl rfl rfl rfl ?_)))))
 obtain ⟨t2, A3, H⟩ := bind_s H
 refine W.e (Y.cl func77 (signalmanref1_Cut.calls A3 HS.j0)) rfl ?_
 rintro _ w ⟨rfl, HS⟩
 replace HS := HS.o0
 refine W.r (X.add rfl rfl) rfl (W.r (X.mul rfl rfl) rfl (W.r (X.add rfl rfl) rfl (W.as rfl (W.nx (V.ret ?_)))))
 replace HS := HS.pk [1] [0]
 cases H
 exact At.ret1 rfl rfl ⟨_, rfl, rfl, HS⟩
mutual
def signalmanref15_Check.j3  (x9 : Bool) : Option Int := (if x9 = true then some (0) else some (1))
def signalmanref15_Check.j2 (a0 : api_Config) (x7 : Bool) : Option Int := (if x7 = true then ((signalmanref15_Most.f a0).bind fun t15 => ((signalmanref15_within.f a0.Ring t15 1048576).bind fun t17 => (if t17 = true then (signalmanref15_Check.j3 (decide ((w64 (a0.Keep * a0.Rate)) ≥ 32))) else (signalmanref15_Check.j3 false)))) else (signalmanref15_Check.j3 false))
def signalmanref15_Check.j1 (a0 : api_Config) (x5 : Bool) : Option Int := (if x5 = true then ((signalmanref15_within.f a0.Keep 1 65536).bind fun t23 => (if t23 = true then ((signalmanref15_within.f a0.Queue 0 1000).bind fun t26 => (if t26 = true then ((signalmanref15_within.f a0.Size 1 1000).bind fun t29 => (if t29 = true then ((signalmanref15_within.f a0.Rate 1 4096).bind fun t32 => (if t32 = true then ((signalmanref15_within.f a0.Bad 1 16).bind fun t35 => (if t35 = true then ((signalmanref15_within.f a0.Good 1 16).bind fun t38 => (signalmanref15_Check.j2 a0 t38)) else (signalmanref15_Check.j2 a0 false))) else (signalmanref15_Check.j2 a0 false))) else (signalmanref15_Check.j2 a0 false))) else (signalmanref15_Check.j2 a0 false))) else (signalmanref15_Check.j2 a0 false))) else (signalmanref15_Check.j2 a0 false))
def signalmanref15_Check.j0 (a0 : api_Config) (x3 : Bool) : Option Int := (if x3 = true then ((signalmanref15_within.f a0.Window 1 (w64 (a0.Modulus.tdiv (8)))).bind fun t43 => (if t43 = true then ((signalmanref15_within.f a0.T1 1 1048576).bind fun t46 => (if t46 = true then ((signalmanref15_within.f a0.Wait 1 1048576).bind fun t49 => (if t49 = true then ((signalmanref15_within.f a0.N2 1 100).bind fun t52 => (if t52 = true then ((signalmanref15_within.f a0.Hold 0 1048576).bind fun t55 => (signalmanref15_Check.j1 a0 t55)) else (signalmanref15_Check.j1 a0 false))) else (signalmanref15_Check.j1 a0 false))) else (signalmanref15_Check.j1 a0 false))) else (signalmanref15_Check.j1 a0 false))) else (signalmanref15_Check.j1 a0 false))
end
def signalmanref15_Check.f (a0 : api_Config) : Option Int := (if a0.Mode = 0 then (if a0.Modulus = 128 then (signalmanref15_Check.j0 a0 true) else (signalmanref15_Check.j0 a0 (decide (a0.Modulus = 32768)))) else (if a0.Mode = 1 then (if a0.Modulus = 128 then (signalmanref15_Check.j0 a0 true) else (signalmanref15_Check.j0 a0 (decide (a0.Modulus = 32768)))) else (signalmanref15_Check.j0 a0 false)))
theorem signalmanref15_Check.calls {a0 : api_Config} {R : As} {w0 w : World}  {r : Int} (H : signalmanref15_Check.f a0 = some r) (HS : Sep.St [R] w0 w)  : Calls Tryz.prog 48 #[Value.agg #[vi a0.Mode, vi a0.Modulus, vi a0.Window, vi a0.T1, vi a0.N2, vi a0.Hold, vi a0.Wait, vi a0.Keep, vi a0.Queue, vi a0.Size, vi a0.Ring, vi a0.Rate, vi a0.Bad, vi a0.Good, vb a0.Revert, vb a0.Wide]] w (Ret fun u w => u = vi r ∧ Sep.St [R] w0 w) := by
 unfold signalmanref15_Check.f at H
 refine calls_enter func48 rfl rfl ?_
 have H : _ = some r := H
 refine V.seq (V.region (W.e (Y.box HS rfl) rfl ?_))
 rintro _ w ⟨nb1, rfl, HS⟩
 refine W.as rfl (W.nx (V.meet (σ := Bool) (fun st w => match st with | x3 => Sep.St [api_Config.at nb1 a0, R] w0 w ∧ signalmanref15_Check.j0 a0 x3 = some r) (fun st => match st with | x3 => [(1, pt nb1), (3, vb x3)]) ?_ ?_))
 ·refine V.region (W.fa fo23_0 rfl (W.ld 0 HS underlying3 rfl rfl rfl rfl (W.r (X.cmp (decide (a0.Mode = 0)) rfl rfl rfl rfl) rfl (W.mv rfl ?_))))
  by_cases c57 : a0.Mode = 0
  ·replace H := ite_t c57 H
   refine W.pass 7 rfl (sb (dT c57)) rfl rfl (W.pass 7 rfl (sb (dT c57)) rfl rfl (W.pass 7 rfl (sb (dT c57)) rfl rfl (W.r (X.pickT (sb (dT c57)) rfl) rfl (W.mv rfl (W.want 12 rfl rfl (W.fa fo23_1 rfl (W.want 12 rfl rfl (W.ld 0 HS underlying3 rfl rfl rfl rfl (W.want 12 rfl rfl (W.r (X.cmp (decide (a0.Modulus = 128)) rfl rfl rfl rfl) rfl (W.want 12 rfl rfl (W.mv rfl ?_))))))))))))
   by_cases c58 : a0.Modulus = 128
   ·replace H := ite_t c58 H
    refine W.pass 16 rfl (sb (dT c58)) rfl rfl (W.pass 16 rfl (sb (dT c58)) rfl rfl (W.pass 16 rfl (sb (dT c58)) rfl rfl (W.want 12 rfl rfl (W.r (X.pickT (sb (dT c58)) rfl) rfl (W.r (X.pickT rfl rfl) rfl (W.as rfl (W.nil ?_)))))))
    replace HS := api_Config.close tv HS
    exact At.meet true ⟨rfl, rfl, tv⟩ ⟨HS, H⟩
   ·replace H := ite_f c58 H
    refine W.want 16 rfl (sb (dF c58)) (W.fa fo23_1 rfl (W.want 16 rfl (sb (dF c58)) (W.ld 0 HS underlying3 rfl rfl rfl rfl (W.want 16 rfl (sb (dF c58)) (W.r (X.cmp (decide (a0.Modulus = 32768)) rfl rfl rfl rfl) rfl (W.want 12 rfl rfl (W.r (X.pickF (sb (dF c58)) rfl) rfl (W.r (X.pickT rfl rfl) rfl (W.as rfl (W.nil ?_))))))))))
    replace HS := api_Config.close tv HS
    exact At.meet (decide (a0.Modulus = 32768)) ⟨rfl, rfl, tv⟩ ⟨HS, H⟩
  ·replace H := ite_f c57 H
   refine W.want 7 rfl (sb (dF c57)) (W.fa fo23_0 rfl (W.want 7 rfl (sb (dF c57)) (W.ld 0 HS underlying3 rfl rfl rfl rfl (W.want 7 rfl (sb (dF c57)) (W.r (X.cmp (decide (a0.Mode = 1)) rfl rfl rfl rfl) rfl (W.r (X.pickF (sb (dF c57)) rfl) rfl (W.mv rfl ?_)))))))
   by_cases c59 : a0.Mode = 1
   ·replace H := ite_t c59 H
    refine W.want 12 rfl (sb (dT c59)) (W.fa fo23_1 rfl (W.want 12 rfl (sb (dT c59)) (W.ld 0 HS underlying3 rfl rfl rfl rfl (W.want 12 rfl (sb (dT c59)) (W.r (X.cmp (decide (a0.Modulus = 128)) rfl rfl rfl rfl) rfl (W.want 12 rfl (sb (dT c59)) (W.mv rfl ?_)))))))
    by_cases c60 : a0.Modulus = 128
    ·replace H := ite_t c60 H
     refine W.pass 16 rfl (sb (dT c60)) rfl rfl (W.pass 16 rfl (sb (dT c60)) rfl rfl (W.pass 16 rfl (sb (dT c60)) rfl rfl (W.want 12 rfl (sb (dT c59)) (W.r (X.pickT (sb (dT c60)) rfl) rfl (W.r (X.pickT (sb (dT c59)) rfl) rfl (W.as rfl (W.nil ?_)))))))
     replace HS := api_Config.close tv HS
     exact At.meet true ⟨rfl, rfl, tv⟩ ⟨HS, H⟩
    ·replace H := ite_f c60 H
     refine W.want 16 rfl (sb (dF c60)) (W.fa fo23_1 rfl (W.want 16 rfl (sb (dF c60)) (W.ld 0 HS underlying3 rfl rfl rfl rfl (W.want 16 rfl (sb (dF c60)) (W.r (X.cmp (decide (a0.Modulus = 32768)) rfl rfl rfl rfl) rfl (W.want 12 rfl (sb (dT c59)) (W.r (X.pickF (sb (dF c60)) rfl) rfl (W.r (X.pickT (sb (dT c59)) rfl) rfl (W.as rfl (W.nil ?_))))))))))
     replace HS := api_Config.close tv HS
     exact At.meet (decide (a0.Modulus = 32768)) ⟨rfl, rfl, tv⟩ ⟨HS, H⟩
   ·replace H := ite_f c59 H
    refine W.pass 12 rfl (sb (dF c59)) rfl rfl (W.pass 12 rfl (sb (dF c59)) rfl rfl (W.pass 12 rfl (sb (dF c59)) rfl rfl (W.pass 12 rfl (sb (dF c59)) rfl rfl (W.passU 16 rfl rfl rfl (W.passU 16 rfl rfl rfl (W.passU 16 rfl rfl rfl (W.pass 12 rfl (sb (dF c59)) rfl rfl (W.r (X.pickF (sb (dF c59)) rfl) rfl (W.as rfl (W.nil ?_))))))))))
    replace HS := api_Config.close tv HS
    exact At.meet false ⟨rfl, rfl, tv⟩ ⟨HS, H⟩
 ·rintro x3 w ⟨HS, H⟩
  unfold signalmanref15_Check.j0 at H
  refine V.meet (σ := Bool) (fun st w => match st with | x5 => Sep.St [api_Config.at nb1 a0, R] w0 w ∧ signalmanref15_Check.j1 a0 x5 = some r) (fun st => match st with | x5 => [(1, pt nb1), (3, vb x5)]) ?_ ?_
  ·refine V.region (W.mv rfl (W.mv rfl ?_))
   by_cases c40 : x3 = true
   ·replace H := ite_t c40 H
    refine W.want 23 rfl (sb c40) ?_
    obtain ⟨hi42, HS⟩ := api_Config.open HS
    refine W.fa fo23_2 rfl (W.want 23 rfl (sb c40) (W.ld 0 HS underlying3 rfl rfl rfl rfl (W.want 23 rfl (sb c40) (W.fa fo23_1 rfl (W.want 23 rfl (sb c40) (W.ld 0 HS underlying3 rfl rfl rfl rfl (W.want 23 rfl (sb c40) (W.r (X.quo rfl rfl (by decide)) rfl (W.want 23 rfl (sb c40) ?_)))))))))
    obtain ⟨t43, A44, H⟩ := bind_s H
    refine W.e (Y.cl func108 (signalmanref15_within.calls A44 HS.j0)) rfl ?_
    rintro _ w ⟨rfl, HS⟩
    replace HS := HS.o0
    refine W.r (X.pickT (sb c40) rfl) rfl (W.mv rfl ?_)
    by_cases c45 : t43 = true
    ·replace H := ite_t c45 H
     refine W.want 31 rfl (sb c45) (W.fa fo23_3 rfl (W.want 31 rfl (sb c45) (W.ld 0 HS underlying3 rfl rfl rfl rfl (W.want 31 rfl (sb c45) ?_))))
     obtain ⟨t46, A47, H⟩ := bind_s H
     refine W.e (Y.cl func108 (signalmanref15_within.calls A47 HS.j0)) rfl ?_
     rintro _ w ⟨rfl, HS⟩
     replace HS := HS.o0
     refine W.r (X.pickT (sb c45) rfl) rfl (W.mv rfl ?_)
     by_cases c48 : t46 = true
     ·replace H := ite_t c48 H
      refine W.want 36 rfl (sb c48) (W.fa fo23_6 rfl (W.want 36 rfl (sb c48) (W.ld 0 HS underlying3 rfl rfl rfl rfl (W.want 36 rfl (sb c48) ?_))))
      obtain ⟨t49, A50, H⟩ := bind_s H
      refine W.e (Y.cl func108 (signalmanref15_within.calls A50 HS.j0)) rfl ?_
      rintro _ w ⟨rfl, HS⟩
      replace HS := HS.o0
      refine W.r (X.pickT (sb c48) rfl) rfl (W.mv rfl ?_)
      by_cases c51 : t49 = true
      ·replace H := ite_t c51 H
       refine W.want 41 rfl (sb c51) (W.fa fo23_4 rfl (W.want 41 rfl (sb c51) (W.ld 0 HS underlying3 rfl rfl rfl rfl (W.want 41 rfl (sb c51) ?_))))
       obtain ⟨t52, A53, H⟩ := bind_s H
       refine W.e (Y.cl func108 (signalmanref15_within.calls A53 HS.j0)) rfl ?_
       rintro _ w ⟨rfl, HS⟩
       replace HS := HS.o0
       refine W.r (X.pickT (sb c51) rfl) rfl (W.mv rfl ?_)
       by_cases c54 : t52 = true
       ·replace H := ite_t c54 H
        refine W.want 46 rfl (sb c54) (W.fa fo23_5 rfl (W.want 46 rfl (sb c54) (W.ld 0 HS underlying3 rfl rfl rfl rfl (W.want 46 rfl (sb c54) ?_))))
        obtain ⟨t55, A56, H⟩ := bind_s H
        refine W.e (Y.cl func108 (signalmanref15_within.calls A56 HS.j0)) rfl ?_
        rintro _ w ⟨rfl, HS⟩
        replace HS := HS.o0
        refine W.r (X.pickT (sb c54) rfl) rfl (W.as rfl (W.nil ?_))
        replace HS := api_Config.close tv HS
        exact At.meet t55 ⟨rfl, rfl, tv⟩ ⟨HS, H⟩
       ·replace H := ite_f c54 H
        refine W.pass 46 rfl (sb (b_f c54)) rfl rfl (W.pass 46 rfl (sb (b_f c54)) rfl rfl (W.pass 46 rfl (sb (b_f c54)) rfl rfl (W.r (X.pickF (sb (b_f c54)) rfl) rfl (W.as rfl (W.nil ?_)))))
        replace HS := api_Config.close tv HS
        exact At.meet false ⟨rfl, rfl, tv⟩ ⟨HS, H⟩
      ·replace H := ite_f c51 H
       refine W.pass 41 rfl (sb (b_f c51)) rfl rfl (W.pass 41 rfl (sb (b_f c51)) rfl rfl (W.pass 41 rfl (sb (b_f c51)) rfl rfl (W.r (X.pickF (sb (b_f c51)) rfl) rfl (W.mv rfl (W.pass 46 rfl rfl rfl rfl (W.pass 46 rfl rfl rfl rfl (W.pass 46 rfl rfl rfl rfl (W.r (X.pickF rfl rfl) rfl (W.as rfl (W.nil ?_))))))))))
       replace HS := api_Config.close tv HS
       exact At.meet false ⟨rfl, rfl, tv⟩ ⟨HS, H⟩
     ·replace H := ite_f c48 H
      refine W.pass 36 rfl (sb (b_f c48)) rfl rfl (W.pass 36 rfl (sb (b_f c48)) rfl rfl (W.pass 36 rfl (sb (b_f c48)) rfl rfl (W.r (X.pickF (sb (b_f c48)) rfl) rfl (W.mv rfl (W.pass 41 rfl rfl rfl rfl (W.pass 41 rfl rfl rfl rfl (W.pass 41 rfl rfl rfl rfl (W.r (X.pickF rfl rfl) rfl (W.mv rfl (W.pass 46 rfl rfl rfl rfl (W.pass 46 rfl rfl rfl rfl (W.pass 46 rfl rfl rfl rfl (W.r (X.pickF rfl rfl) rfl (W.as rfl (W.nil ?_)))))))))))))))
      replace HS := api_Config.close tv HS
      exact At.meet false ⟨rfl, rfl, tv⟩ ⟨HS, H⟩
    ·replace H := ite_f c45 H
     refine W.pass 31 rfl (sb (b_f c45)) rfl rfl (W.pass 31 rfl (sb (b_f c45)) rfl rfl (W.pass 31 rfl (sb (b_f c45)) rfl rfl (W.r (X.pickF (sb (b_f c45)) rfl) rfl (W.mv rfl (W.pass 36 rfl rfl rfl rfl (W.pass 36 rfl rfl rfl rfl (W.pass 36 rfl rfl rfl rfl (W.r (X.pickF rfl rfl) rfl (W.mv rfl (W.pass 41 rfl rfl rfl rfl (W.pass 41 rfl rfl rfl rfl (W.pass 41 rfl rfl rfl rfl (W.r (X.pickF rfl rfl) rfl (W.mv rfl (W.pass 46 rfl rfl rfl rfl (W.pass 46 rfl rfl rfl rfl (W.pass 46 rfl rfl rfl rfl (W.r (X.pickF rfl rfl) rfl (W.as rfl (W.nil ?_))))))))))))))))))))
     replace HS := api_Config.close tv HS
     exact At.meet false ⟨rfl, rfl, tv⟩ ⟨HS, H⟩
   ·replace H := ite_f c40 H
    refine W.pass 23 rfl (sb (b_f c40)) rfl rfl (W.pass 23 rfl (sb (b_f c40)) rfl rfl (W.pass 23 rfl (sb (b_f c40)) rfl rfl (W.pass 23 rfl (sb (b_f c40)) rfl rfl (W.pass 23 rfl (sb (b_f c40)) rfl rfl (W.pass 23 rfl (sb (b_f c40)) rfl rfl (W.r (X.pickF (sb (b_f c40)) rfl) rfl (W.mv rfl (W.pass 31 rfl rfl rfl rfl (W.pass 31 rfl rfl rfl rfl (W.pass 31 rfl rfl rfl rfl (W.r (X.pickF rfl rfl) rfl (W.mv rfl (W.pass 36 rfl rfl rfl rfl (W.pass 36 rfl rfl rfl rfl (W.pass 36 rfl rfl rfl rfl (W.r (X.pickF rfl rfl) rfl (W.mv rfl (W.pass 41 rfl rfl rfl rfl (W.pass 41 rfl rfl rfl rfl (W.pass 41 rfl rfl rfl rfl (W.r (X.pickF rfl rfl) rfl (W.mv rfl (W.pass 46 rfl rfl rfl rfl (W.pass 46 rfl rfl rfl rfl (W.pass 46 rfl rfl rfl rfl (W.r (X.pickF rfl rfl) rfl (W.as rfl (W.nil ?_))))))))))))))))))))))))))))
    exact At.meet false ⟨rfl, rfl, tv⟩ ⟨HS, H⟩
  ·rintro x5 w ⟨HS, H⟩
   unfold signalmanref15_Check.j1 at H
   refine V.meet (σ := Bool) (fun st w => match st with | x7 => Sep.St [api_Config.at nb1 a0, R] w0 w ∧ signalmanref15_Check.j2 a0 x7 = some r) (fun st => match st with | x7 => [(1, pt nb1), (3, vb x7)]) ?_ ?_
   ·refine V.region (W.mv rfl (W.mv rfl ?_))
    by_cases c20 : x5 = true
    ·replace H := ite_t c20 H
     refine W.want 52 rfl (sb c20) ?_
     obtain ⟨hi22, HS⟩ := api_Config.open HS
     refine W.fa fo23_7 rfl (W.want 52 rfl (sb c20) (W.ld 0 HS underlying3 rfl rfl rfl rfl (W.want 52 rfl (sb c20) ?_)))
     obtain ⟨t23, A24, H⟩ := bind_s H
     refine W.e (Y.cl func108 (signalmanref15_within.calls A24 HS.j0)) rfl ?_
     rintro _ w ⟨rfl, HS⟩
     replace HS := HS.o0
     refine W.r (X.pickT (sb c20) rfl) rfl (W.mv rfl ?_)
     by_cases c25 : t23 = true
     ·replace H := ite_t c25 H
      refine W.want 57 rfl (sb c25) (W.fa fo23_8 rfl (W.want 57 rfl (sb c25) (W.ld 0 HS underlying3 rfl rfl rfl rfl (W.want 57 rfl (sb c25) ?_))))
      obtain ⟨t26, A27, H⟩ := bind_s H
      refine W.e (Y.cl func108 (signalmanref15_within.calls A27 HS.j0)) rfl ?_
      rintro _ w ⟨rfl, HS⟩
      replace HS := HS.o0
      refine W.r (X.pickT (sb c25) rfl) rfl (W.mv rfl ?_)
      by_cases c28 : t26 = true
      ·replace H := ite_t c28 H
       refine W.want 62 rfl (sb c28) (W.fa fo23_9 rfl (W.want 62 rfl (sb c28) (W.ld 0 HS underlying3 rfl rfl rfl rfl (W.want 62 rfl (sb c28) ?_))))
       obtain ⟨t29, A30, H⟩ := bind_s H
       refine W.e (Y.cl func108 (signalmanref15_within.calls A30 HS.j0)) rfl ?_
       rintro _ w ⟨rfl, HS⟩
       replace HS := HS.o0
       refine W.r (X.pickT (sb c28) rfl) rfl (W.mv rfl ?_)
       by_cases c31 : t29 = true
       ·replace H := ite_t c31 H
        refine W.want 67 rfl (sb c31) (W.fa fo23_11 rfl (W.want 67 rfl (sb c31) (W.ld 0 HS underlying3 rfl rfl rfl rfl (W.want 67 rfl (sb c31) ?_))))
        obtain ⟨t32, A33, H⟩ := bind_s H
        refine W.e (Y.cl func108 (signalmanref15_within.calls A33 HS.j0)) rfl ?_
        rintro _ w ⟨rfl, HS⟩
        replace HS := HS.o0
        refine W.r (X.pickT (sb c31) rfl) rfl (W.mv rfl ?_)
        by_cases c34 : t32 = true
        ·replace H := ite_t c34 H
         refine W.want 72 rfl (sb c34) (W.fa fo23_12 rfl (W.want 72 rfl (sb c34) (W.ld 0 HS underlying3 rfl rfl rfl rfl (W.want 72 rfl (sb c34) ?_))))
         obtain ⟨t35, A36, H⟩ := bind_s H
         refine W.e (Y.cl func108 (signalmanref15_within.calls A36 HS.j0)) rfl ?_
         rintro _ w ⟨rfl, HS⟩
         replace HS := HS.o0
         refine W.r (X.pickT (sb c34) rfl) rfl (W.mv rfl ?_)
         by_cases c37 : t35 = true
         ·replace H := ite_t c37 H
          refine W.want 77 rfl (sb c37) (W.fa fo23_13 rfl (W.want 77 rfl (sb c37) (W.ld 0 HS underlying3 rfl rfl rfl rfl (W.want 77 rfl (sb c37) ?_))))
          obtain ⟨t38, A39, H⟩ := bind_s H
          refine W.e (Y.cl func108 (signalmanref15_within.calls A39 HS.j0)) rfl ?_
          rintro _ w ⟨rfl, HS⟩
          replace HS := HS.o0
          refine W.r (X.pickT (sb c37) rfl) rfl (W.as rfl (W.nil ?_))
          replace HS := api_Config.close tv HS
          exact At.meet t38 ⟨rfl, rfl, tv⟩ ⟨HS, H⟩
         ·replace H := ite_f c37 H
          refine W.pass 77 rfl (sb (b_f c37)) rfl rfl (W.pass 77 rfl (sb (b_f c37)) rfl rfl (W.pass 77 rfl (sb (b_f c37)) rfl rfl (W.r (X.pickF (sb (b_f c37)) rfl) rfl (W.as rfl (W.nil ?_)))))
          replace HS := api_Config.close tv HS
          exact At.meet false ⟨rfl, rfl, tv⟩ ⟨HS, H⟩
        ·replace H := ite_f c34 H
         refine W.pass 72 rfl (sb (b_f c34)) rfl rfl (W.pass 72 rfl (sb (b_f c34)) rfl rfl (W.pass 72 rfl (sb (b_f c34)) rfl rfl (W.r (X.pickF (sb (b_f c34)) rfl) rfl (W.mv rfl (W.pass 77 rfl rfl rfl rfl (W.pass 77 rfl rfl rfl rfl (W.pass 77 rfl rfl rfl rfl (W.r (X.pickF rfl rfl) rfl (W.as rfl (W.nil ?_))))))))))
         replace HS := api_Config.close tv HS
         exact At.meet false ⟨rfl, rfl, tv⟩ ⟨HS, H⟩
       ·replace H := ite_f c31 H
        refine W.pass 67 rfl (sb (b_f c31)) rfl rfl (W.pass 67 rfl (sb (b_f c31)) rfl rfl (W.pass 67 rfl (sb (b_f c31)) rfl rfl (W.r (X.pickF (sb (b_f c31)) rfl) rfl (W.mv rfl (W.pass 72 rfl rfl rfl rfl (W.pass 72 rfl rfl rfl rfl (W.pass 72 rfl rfl rfl rfl (W.r (X.pickF rfl rfl) rfl (W.mv rfl (W.pass 77 rfl rfl rfl rfl (W.pass 77 rfl rfl rfl rfl (W.pass 77 rfl rfl rfl rfl (W.r (X.pickF rfl rfl) rfl (W.as rfl (W.nil ?_)))))))))))))))
        replace HS := api_Config.close tv HS
        exact At.meet false ⟨rfl, rfl, tv⟩ ⟨HS, H⟩
      ·replace H := ite_f c28 H
       refine W.pass 62 rfl (sb (b_f c28)) rfl rfl (W.pass 62 rfl (sb (b_f c28)) rfl rfl (W.pass 62 rfl (sb (b_f c28)) rfl rfl (W.r (X.pickF (sb (b_f c28)) rfl) rfl (W.mv rfl (W.pass 67 rfl rfl rfl rfl (W.pass 67 rfl rfl rfl rfl (W.pass 67 rfl rfl rfl rfl (W.r (X.pickF rfl rfl) rfl (W.mv rfl (W.pass 72 rfl rfl rfl rfl (W.pass 72 rfl rfl rfl rfl (W.pass 72 rfl rfl rfl rfl (W.r (X.pickF rfl rfl) rfl (W.mv rfl (W.pass 77 rfl rfl rfl rfl (W.pass 77 rfl rfl rfl rfl (W.pass 77 rfl rfl rfl rfl (W.r (X.pickF rfl rfl) rfl (W.as rfl (W.nil ?_))))))))))))))))))))
       replace HS := api_Config.close tv HS
       exact At.meet false ⟨rfl, rfl, tv⟩ ⟨HS, H⟩
     ·replace H := ite_f c25 H
      refine W.pass 57 rfl (sb (b_f c25)) rfl rfl (W.pass 57 rfl (sb (b_f c25)) rfl rfl (W.pass 57 rfl (sb (b_f c25)) rfl rfl (W.r (X.pickF (sb (b_f c25)) rfl) rfl (W.mv rfl (W.pass 62 rfl rfl rfl rfl (W.pass 62 rfl rfl rfl rfl (W.pass 62 rfl rfl rfl rfl (W.r (X.pickF rfl rfl) rfl (W.mv rfl (W.pass 67 rfl rfl rfl rfl (W.pass 67 rfl rfl rfl rfl (W.pass 67 rfl rfl rfl rfl (W.r (X.pickF rfl rfl) rfl (W.mv rfl (W.pass 72 rfl rfl rfl rfl (W.pass 72 rfl rfl rfl rfl (W.pass 72 rfl rfl rfl rfl (W.r (X.pickF rfl rfl) rfl (W.mv rfl (W.pass 77 rfl rfl rfl rfl (W.pass 77 rfl rfl rfl rfl (W.pass 77 rfl rfl rfl rfl (W.r (X.pickF rfl rfl) rfl (W.as rfl (W.nil ?_)))))))))))))))))))))))))
      replace HS := api_Config.close tv HS
      exact At.meet false ⟨rfl, rfl, tv⟩ ⟨HS, H⟩
    ·replace H := ite_f c20 H
     refine W.pass 52 rfl (sb (b_f c20)) rfl rfl (W.pass 52 rfl (sb (b_f c20)) rfl rfl (W.pass 52 rfl (sb (b_f c20)) rfl rfl (W.r (X.pickF (sb (b_f c20)) rfl) rfl (W.mv rfl (W.pass 57 rfl rfl rfl rfl (W.pass 57 rfl rfl rfl rfl (W.pass 57 rfl rfl rfl rfl (W.r (X.pickF rfl rfl) rfl (W.mv rfl (W.pass 62 rfl rfl rfl rfl (W.pass 62 rfl rfl rfl rfl (W.pass 62 rfl rfl rfl rfl (W.r (X.pickF rfl rfl) rfl (W.mv rfl (W.pass 67 rfl rfl rfl rfl (W.pass 67 rfl rfl rfl rfl (W.pass 67 rfl rfl rfl rfl (W.r (X.pickF rfl rfl) rfl (W.mv rfl (W.pass 72 rfl rfl rfl rfl (W.pass 72 rfl rfl rfl rfl (W.pass 72 rfl rfl rfl rfl (W.r (X.pickF rfl rfl) rfl (W.mv rfl (W.pass 77 rfl rfl rfl rfl (W.pass 77 rfl rfl rfl rfl (W.pass 77 rfl rfl rfl rfl (W.r (X.pickF rfl rfl) rfl (W.as rfl (W.nil ?_))))))))))))))))))))))))))))))
     exact At.meet false ⟨rfl, rfl, tv⟩ ⟨HS, H⟩
   ·rintro x7 w ⟨HS, H⟩
    unfold signalmanref15_Check.j2 at H
    refine V.meet (σ := Bool) (fun st w => match st with | x9 => Sep.St [api_Config.at nb1 a0, R] w0 w ∧ signalmanref15_Check.j3 x9 = some r) (fun st => match st with | x9 => [(3, vb x9)]) ?_ ?_
    ·by_cases c12 : x7 = true
     ·replace H := ite_t c12 H
      obtain ⟨hi14, HS⟩ := api_Config.open HS
      refine V.dr [5, 6] [7, 8, 9, 10, 11, 12, 13, 14, 15, 16] [(82, vb x7), (83, vb x7), (84, po nb1 (0 + 10)), (85, vi a0.Ring), (86, Value.agg #[vi a0.Mode, vi a0.Modulus, vi a0.Window, vi a0.T1, vi a0.N2, vi a0.Hold, vi a0.Wait, vi a0.Keep, vi a0.Queue, vi a0.Size, vi a0.Ring, vi a0.Rate, vi a0.Bad, vi a0.Good, vb a0.Revert, vb a0.Wide])] mo HS ?_
      refine T.evG [(86, _), (83, _)] [7, 8, 9, 10, 11, 12, 13, 14, 15, 16] [0, 1, 4] ⟨rfl, rfl, tv⟩ ⟨.mv 3, .mv 82, .gw [(1, _), (83, _)] 1 true 83 ⟨rfl, rfl, tv⟩ rfl (sb c12) (fun w HS => X.fieldAddr 10 fo23_10 rfl), .gw [(84, _), (83, _)] 1 true 83 ⟨rfl, rfl, tv⟩ rfl (sb c12) (fun w HS => X.loadAt 0 HS rfl underlying3 rfl rfl rfl), .gw [(1, _), (83, _)] 1 true 83 ⟨rfl, rfl, tv⟩ rfl (sb c12) (fun w HS => X.loadSt 0 [vi a0.Mode, vi a0.Modulus, vi a0.Window, vi a0.T1, vi a0.N2, vi a0.Hold, vi a0.Wait, vi a0.Keep, vi a0.Queue, vi a0.Size, vi a0.Ring, vi a0.Rate, vi a0.Bad, vi a0.Good, vb a0.Revert, vb a0.Wide] HS rfl underlying23 rfl inf23 rfl rfl), tv⟩ rfl (Or.inr ⟨1, true, 83, rfl, rfl, (sb c12)⟩) (fun w HS => ?_)
      obtain ⟨t15, A16, H⟩ := bind_s H
      refine ⟨_, Y.cl func50 (signalmanref15_Most.calls A16 HS.j0), ?_⟩
      rintro _ w ⟨rfl, HS⟩
      replace HS := HS.o0
      refine T.nw HS ?_
      refine T.evG [(85, _), (87, _), (83, _)] [] [2, 3] ⟨rfl, rfl, rfl, tv⟩ ⟨.gw [(1, _), (83, _)] 1 true 83 ⟨rfl, rfl, tv⟩ rfl (sb c12) (fun w HS => X.fieldAddr 10 fo23_10 rfl), .gw [(84, _), (83, _)] 1 true 83 ⟨rfl, rfl, tv⟩ rfl (sb c12) (fun w HS => X.loadAt 0 HS rfl underlying3 rfl rfl rfl), tv⟩ rfl (Or.inr ⟨1, true, 83, rfl, rfl, (sb c12)⟩) (fun w HS => ?_)
      obtain ⟨t17, A18, H⟩ := bind_s H
      refine ⟨_, Y.cl func108 (signalmanref15_within.calls A18 HS.j0), ?_⟩
      rintro _ w ⟨rfl, HS⟩
      replace HS := HS.o0
      by_cases c19 : t17 = true
      ·replace H := ite_t c19 H
       refine T.nm [(88, vb t17), (89, vb t17), (90, vb t17), (91, po nb1 (0 + 7)), (92, vi a0.Keep), (93, po nb1 (0 + 11)), (94, vi a0.Rate), (95, vi (w64 (a0.Keep * a0.Rate))), (96, vb (decide ((w64 (a0.Keep * a0.Rate)) ≥ 32))), (97, vb (decide ((w64 (a0.Keep * a0.Rate)) ≥ 32))), (3, vb (decide ((w64 (a0.Keep * a0.Rate)) ≥ 32)))] HS ⟨.inl ⟨rfl, rfl⟩, ⟨.inr ⟨by decide, rfl⟩, ⟨.inr ⟨by decide, rfl⟩, ⟨.inr ⟨by decide, rfl⟩, ⟨.inr ⟨by decide, rfl⟩, ⟨.inr ⟨by decide, rfl⟩, ⟨.inr ⟨by decide, rfl⟩, ⟨.inr ⟨by decide, rfl⟩, ⟨.inr ⟨by decide, rfl⟩, ⟨.inr ⟨by decide, rfl⟩, ⟨.inr ⟨by decide, rfl⟩, tv⟩⟩⟩⟩⟩⟩⟩⟩⟩⟩⟩ ?_
       refine T.fn [(3, _)] ⟨rfl, tv⟩ ⟨.n2 83 88 rfl rfl rfl (fun w HS => X.pickT (sb c12) rfl), .mv 89, .gw [(1, _), (90, _)] 8 true 90 ⟨rfl, rfl, tv⟩ rfl (sb c19) (fun w HS => X.fieldAddr 7 fo23_7 rfl), .gw [(91, _), (90, _)] 8 true 90 ⟨rfl, rfl, tv⟩ rfl (sb c19) (fun w HS => X.loadAt 0 HS rfl underlying3 rfl rfl rfl), .gw [(1, _), (90, _)] 8 true 90 ⟨rfl, rfl, tv⟩ rfl (sb c19) (fun w HS => X.fieldAddr 11 fo23_11 rfl), .gw [(93, _), (90, _)] 8 true 90 ⟨rfl, rfl, tv⟩ rfl (sb c19) (fun w HS => X.loadAt 0 HS rfl underlying3 rfl rfl rfl), .gw [(92, _), (94, _), (90, _)] 8 true 90 ⟨rfl, rfl, rfl, tv⟩ rfl (sb c19) (fun w HS => X.mul rfl rfl), .gw [(95, _), (90, _)] 8 true 90 ⟨rfl, rfl, tv⟩ rfl (sb c19) (fun w HS => X.cmp (decide ((w64 (a0.Keep * a0.Rate)) ≥ 32)) rfl rfl rfl rfl), .n2 90 96 rfl rfl rfl (fun w HS => X.pickT (sb c19) rfl), .as 97, tv⟩ (fun w HS => ?_)
       replace HS := api_Config.close tv HS
       exact At.meet (decide ((w64 (a0.Keep * a0.Rate)) ≥ 32)) ⟨rfl, tv⟩ ⟨HS, H⟩
      ·replace H := ite_f c19 H
       refine T.nm [(88, vb t17), (89, vb t17), (90, vb t17), (91, undef), (92, undef), (93, undef), (94, undef), (95, undef), (96, undef), (97, vb false), (3, vb false)] HS ⟨.inl ⟨rfl, rfl⟩, ⟨.inr ⟨by decide, rfl⟩, ⟨.inr ⟨by decide, rfl⟩, ⟨.inr ⟨by decide, rfl⟩, ⟨.inr ⟨by decide, rfl⟩, ⟨.inr ⟨by decide, rfl⟩, ⟨.inr ⟨by decide, rfl⟩, ⟨.inr ⟨by decide, rfl⟩, ⟨.inr ⟨by decide, rfl⟩, ⟨.inr ⟨by decide, rfl⟩, ⟨.inr ⟨by decide, rfl⟩, tv⟩⟩⟩⟩⟩⟩⟩⟩⟩⟩⟩ ?_
       refine T.fn [(3, _)] ⟨rfl, tv⟩ ⟨.n2 83 88 rfl rfl rfl (fun w HS => X.pickT (sb c12) rfl), .mv 89, .gp 8 true false 90 rfl rfl (Option.some.inj (sb (b_f c19))) rfl, .gp 8 true false 90 rfl rfl (Option.some.inj (sb (b_f c19))) rfl, .gp 8 true false 90 rfl rfl (Option.some.inj (sb (b_f c19))) rfl, .gp 8 true false 90 rfl rfl (Option.some.inj (sb (b_f c19))) rfl, .gp 8 true false 90 rfl rfl (Option.some.inj (sb (b_f c19))) rfl, .gp 8 true false 90 rfl rfl (Option.some.inj (sb (b_f c19))) rfl, .n2 90 96 rfl rfl rfl (fun w HS => X.pickF (sb (b_f c19)) rfl), .as 97, tv⟩ (fun w HS => ?_)
       replace HS := api_Config.close tv HS
       exact At.meet false ⟨rfl, tv⟩ ⟨HS, H⟩
     ·replace H := ite_f c12 H
      refine V.dr [5, 6] [7, 8, 9, 10, 11, 12, 13, 14, 15, 16] [(82, vb x7), (83, vb x7), (84, undef), (85, undef), (86, undef)] mo HS ?_
      refine T.drop (es' := [6]) (bl' := [7, 8, 9, 10, 11, 12, 13, 14, 15, 16]) [(87, undef)] rfl ⟨.inr ⟨by decide, rfl⟩, tv⟩ ?_
      refine T.drop (es' := []) (bl' := []) [(88, undef), (89, vb false), (90, vb false), (91, undef), (92, undef), (93, undef), (94, undef), (95, undef), (96, undef), (97, vb false), (3, vb false)] rfl ⟨.inr ⟨by decide, rfl⟩, ⟨.inr ⟨by decide, rfl⟩, ⟨.inr ⟨by decide, rfl⟩, ⟨.inr ⟨by decide, rfl⟩, ⟨.inr ⟨by decide, rfl⟩, ⟨.inr ⟨by decide, rfl⟩, ⟨.inr ⟨by decide, rfl⟩, ⟨.inr ⟨by decide, rfl⟩, ⟨.inr ⟨by decide, rfl⟩, ⟨.inr ⟨by decide, rfl⟩, ⟨.inr ⟨by decide, rfl⟩, tv⟩⟩⟩⟩⟩⟩⟩⟩⟩⟩⟩ ?_
      refine T.fn [(3, _)] ⟨rfl, tv⟩ ⟨.mv 3, .mv 82, .gp 1 true false 83 rfl rfl (Option.some.inj (sb (b_f c12))) rfl, .gp 1 true false 83 rfl rfl (Option.some.inj (sb (b_f c12))) rfl, .gp 1 true false 83 rfl rfl (Option.some.inj (sb (b_f c12))) rfl, .gp 1 true false 83 rfl rfl (Option.some.inj (sb (b_f c12))) rfl, .gp 1 true false 83 rfl rfl (Option.some.inj (sb (b_f c12))) rfl, .n2 83 88 rfl rfl rfl (fun w HS => X.pickF (sb (b_f c12)) rfl), .mv 89, .gp 8 true false 90 rfl rfl rfl rfl, .gp 8 true false 90 rfl rfl rfl rfl, .gp 8 true false 90 rfl rfl rfl rfl, .gp 8 true false 90 rfl rfl rfl rfl, .gp 8 true false 90 rfl rfl rfl rfl, .gp 8 true false 90 rfl rfl rfl rfl, .n2 90 96 rfl rfl rfl (fun w HS => X.pickF rfl rfl), .as 97, tv⟩ (fun w HS => ?_)
      exact At.meet false ⟨rfl, tv⟩ ⟨HS, H⟩
    ·rintro x9 w ⟨HS, H⟩
     unfold signalmanref15_Check.j3 at H
     refine V.seq (V.seq (V.region (W.mv rfl (W.r (X.not rfl) rfl (W.nx ?_)))))
     by_cases c11 : x9 = true
     ·replace H := ite_t c11 H
      refine V.condF (sb (n_t c11)) (V.skip (At.next (V.seq (V.region (W.as rfl (W.nx (V.ret ?_)))))))
      replace HS := HS.pk [1] [0]
      cases H
      exact At.ret1 rfl rfl ⟨_, rfl, rfl, HS⟩
     ·replace H := ite_f c11 H
      refine V.condT (sb (n_f (b_f c11))) (V.seq (V.region (W.as rfl (W.nx (V.ret (At.thenRet ?_))))))
      replace HS := HS.pk [1] [0]
      cases H
      exact At.ret1 rfl rfl ⟨_, rfl, rfl, HS⟩
mutual
def signalmanref20_Steps.j1 (x1 : Int) (x4 : Int) : Option Int := (if ¬ (x4 = 0) then (if (x1.tmod x4) > 0 then some (w64 ((w64 (x1.tdiv x4)) + 1)) else some (w64 (x1.tdiv x4))) else none)
def signalmanref20_Steps.j0  (x1 : Int) (x2 : Int) : Option Int := (if x2 < 1 then (signalmanref20_Steps.j1 x1 1) else (signalmanref20_Steps.j1 x1 x2))
end
def signalmanref20_Steps.f (a0 : Int) (a1 : Int) : Option Int := (if a0 < 0 then (signalmanref20_Steps.j0 0 a1) else (signalmanref20_Steps.j0 a0 a1))
theorem signalmanref20_Steps.calls {a0 : Int} {a1 : Int} {R : As} {w0 w : World}  {r : Int} (H : signalmanref20_Steps.f a0 a1 = some r) (HS : Sep.St [R] w0 w)  : Calls Tryz.prog 49 #[vi a0, vi a1] w (Ret fun u w => u = vi r ∧ Sep.St [R] w0 w) := by
 unfold signalmanref20_Steps.f at H
 refine calls_enter func49 rfl rfl ?_
 have H : _ = some r := H
 refine V.seq (V.region (W.as rfl (W.nx (V.meet (σ := Int × Int) (fun st w => match st with | (x1, x2) => Sep.St [R] w0 w ∧ signalmanref20_Steps.j0 x1 x2 = some r) (fun st => match st with | (x1, x2) => [(0, vi x1), (1, vi x2)]) ?_ ?_))))
 ·refine V.seq (V.region (W.mv rfl (W.r (X.cmp (decide (a0 < 0)) rfl rfl rfl rfl) rfl (W.nx ?_))))
  by_cases c9 : a0 < 0
  ·replace H := ite_t c9 H
   refine V.condT (sb (dT c9)) (V.region (W.as rfl (W.nil ?_)))
   exact At.meet (0, a1) ⟨rfl, rfl, tv⟩ ⟨HS, H⟩
  ·replace H := ite_f c9 H
   refine V.condF (sb (dF c9)) (V.skip ?_)
   exact At.meet (a0, a1) ⟨rfl, rfl, tv⟩ ⟨HS, H⟩
 ·rintro ⟨x1, x2⟩ w ⟨HS, H⟩
  unfold signalmanref20_Steps.j0 at H
  refine V.meet (σ := Int) (fun st w => match st with | x4 => Sep.St [R] w0 w ∧ signalmanref20_Steps.j1 x1 x4 = some r) (fun st => match st with | x4 => [(0, vi x1), (1, vi x4)]) ?_ ?_
  ·refine V.seq (V.region (W.mv rfl (W.r (X.cmp (decide (x2 < 1)) rfl rfl rfl rfl) rfl (W.nx ?_))))
   by_cases c8 : x2 < 1
   ·replace H := ite_t c8 H
    refine V.condT (sb (dT c8)) (V.region (W.as rfl (W.nil ?_)))
    exact At.meet (1) ⟨rfl, rfl, tv⟩ ⟨HS, H⟩
   ·replace H := ite_f c8 H
    refine V.condF (sb (dF c8)) (V.skip ?_)
    exact At.meet x2 ⟨rfl, rfl, tv⟩ ⟨HS, H⟩
  ·rintro x4 w ⟨HS, H⟩
   unfold signalmanref20_Steps.j1 at H
   refine V.seq (V.region (W.mv rfl (W.mv rfl ?_)))
   obtain ⟨c6, H⟩ := ite_n H
   refine W.r (X.quo rfl rfl c6) rfl (W.as rfl (W.nx (V.seq (V.seq (V.region (W.mv rfl (W.mv rfl (W.r (X.rem rfl rfl c6) rfl (W.r (X.cmp (decide ((x1.tmod x4) > 0)) rfl rfl rfl rfl) rfl (W.nx ?_))))))))))
   by_cases c7 : (x1.tmod x4) > 0
   ·replace H := ite_t c7 H
    refine V.condT (sb (dT c7)) (V.region (W.mv rfl (W.r (X.add rfl rfl) rfl (W.as rfl (W.nx (V.seq (V.region (W.mv rfl (W.as rfl (W.nx (V.ret ?_)))))))))))
    cases H
    exact At.ret1 rfl rfl ⟨_, rfl, rfl, HS⟩
   ·replace H := ite_f c7 H
    refine V.condF (sb (dF c7)) (V.skip (At.next (V.seq (V.region (W.mv rfl (W.as rfl (W.nx (V.ret ?_))))))))
    cases H
    exact At.ret1 rfl rfl ⟨_, rfl, rfl, HS⟩
def signalmanref20_Latency.f (a0 : api_Config) : Option Int := ((signalmanref15_Check.f a0).bind fun t3 => (if t3 = 0 then ((signalmanref15_Most.f a0).bind fun t6 => ((signalmanref20_Steps.f (w64 ((w64 (2 * t6)) + 96)) a0.Rate).bind fun t8 => some (w64 (t8 + 4)))) else some (0)))
theorem signalmanref20_Latency.calls {a0 : api_Config} {R : As} {w0 w : World}  {r : Int} (H : signalmanref20_Latency.f a0 = some r) (HS : Sep.St [R] w0 w)  : Calls Tryz.prog 11 #[Value.agg #[vi a0.Mode, vi a0.Modulus, vi a0.Window, vi a0.T1, vi a0.N2, vi a0.Hold, vi a0.Wait, vi a0.Keep, vi a0.Queue, vi a0.Size, vi a0.Ring, vi a0.Rate, vi a0.Bad, vi a0.Good, vb a0.Revert, vb a0.Wide]] w (Ret fun u w => u = vi r ∧ Sep.St [R] w0 w) := by
 unfold signalmanref20_Latency.f at H
 refine calls_enter func11 rfl rfl ?_
 have H : _ = some r := H
 refine V.seq (V.region (W.e (Y.box HS rfl) rfl ?_))
 rintro _ w ⟨nb1, rfl, HS⟩
 refine W.as rfl (W.nx (V.seq (V.seq (V.region (W.r (X.loadSt 0 [vi a0.Mode, vi a0.Modulus, vi a0.Window, vi a0.T1, vi a0.N2, vi a0.Hold, vi a0.Wait, vi a0.Keep, vi a0.Queue, vi a0.Size, vi a0.Ring, vi a0.Rate, vi a0.Bad, vi a0.Good, vb a0.Revert, vb a0.Wide] HS rfl underlying23 rfl inf23 rfl rfl) rfl ?_)))))
 obtain ⟨t3, A4, H⟩ := bind_s H
 refine W.e (Y.cl func48 (signalmanref15_Check.calls A4 HS.j0)) rfl ?_
 rintro _ w ⟨rfl, HS⟩
 replace HS := HS.o0
 refine W.r (X.cmp (!(decide (t3 = 0))) rfl rfl rfl rfl) rfl (W.nx ?_)
 by_cases c5 : t3 = 0
 ·replace H := ite_t c5 H
  refine V.condF (sb (n_t (dT c5))) (V.skip (At.next (V.seq (V.dr [1, 6] [2, 3, 7, 8] [(6, Value.agg #[vi a0.Mode, vi a0.Modulus, vi a0.Window, vi a0.T1, vi a0.N2, vi a0.Hold, vi a0.Wait, vi a0.Keep, vi a0.Queue, vi a0.Size, vi a0.Ring, vi a0.Rate, vi a0.Bad, vi a0.Good, vb a0.Revert, vb a0.Wide]), (10, po nb1 (0 + 11)), (11, vi a0.Rate)] mo HS ?_))))
  refine T.ev [(6, _)] [7, 8] [0] ⟨rfl, tv⟩ ⟨.n1 1 rfl rfl (fun w HS => X.loadSt 0 [vi a0.Mode, vi a0.Modulus, vi a0.Window, vi a0.T1, vi a0.N2, vi a0.Hold, vi a0.Wait, vi a0.Keep, vi a0.Queue, vi a0.Size, vi a0.Ring, vi a0.Rate, vi a0.Bad, vi a0.Good, vb a0.Revert, vb a0.Wide] HS rfl underlying23 rfl inf23 rfl rfl), .fa 1 fo23_11, .ld 10 0 underlying3, tv⟩ rfl (fun w HS => ?_)
  obtain ⟨t6, A7, H⟩ := bind_s H
  refine ⟨_, Y.cl func50 (signalmanref15_Most.calls A7 HS.j0), ?_⟩
  rintro _ w ⟨rfl, HS⟩
  replace HS := HS.o0
  refine T.nm [(7, vi t6), (8, vi (w64 (2 * t6))), (9, vi (w64 ((w64 (2 * t6)) + 96)))] HS ⟨.inl ⟨rfl, rfl⟩, ⟨.inr ⟨by decide, rfl⟩, ⟨.inr ⟨by decide, rfl⟩, tv⟩⟩⟩ ?_
  refine T.ev [(9, _), (11, _)] [] [2, 3, 4, 5] ⟨rfl, rfl, tv⟩ ⟨.n1 7 rfl rfl (fun w HS => X.mul rfl rfl), .n1 8 rfl rfl (fun w HS => X.add rfl rfl), .fa 1 fo23_11, .ld 10 0 underlying3, tv⟩ rfl (fun w HS => ?_)
  obtain ⟨t8, A9, H⟩ := bind_s H
  refine ⟨_, Y.cl func49 (signalmanref20_Steps.calls A9 HS.j0), ?_⟩
  rintro _ w ⟨rfl, HS⟩
  replace HS := HS.o0
  refine T.nm [(12, vi t8), (13, vi (w64 (t8 + 4))), (2, vi (w64 (t8 + 4)))] HS ⟨.inl ⟨rfl, rfl⟩, ⟨.inr ⟨by decide, rfl⟩, ⟨.inr ⟨by decide, rfl⟩, tv⟩⟩⟩ ?_
  refine T.fn [(2, _)] ⟨rfl, tv⟩ ⟨.n1 12 rfl rfl (fun w HS => X.add rfl rfl), .as 13, tv⟩ (fun w HS => ?_)
  refine At.next (V.ret ?_)
  replace HS := HS.pk [1] [0]
  cases H
  exact At.ret1 rfl rfl ⟨_, rfl, rfl, HS⟩
 ·replace H := ite_f c5 H
  refine V.condT (sb (n_f (dF c5))) (V.seq (V.region (W.as rfl (W.nx (V.ret (At.thenRet ?_))))))
  replace HS := HS.pk [1] [0]
  cases H
  exact At.ret1 rfl rfl ⟨_, rfl, rfl, HS⟩
def slices_Insert_Sbytebyte.f (a0 : List Int) (a1 : Int) (a2 : List Int) : Option (List Int) := (if 0 ≤ a1 ∧ a1 ≤ (a0.length : Int) ∧ (a0.length : Int) ≤ (a0.length : Int) then (if (a2.length : Int) = 0 then some a0 else (if a1 = (a0.length : Int) then (if (a0.length : Int) + a2.length ≤ 1099511627776 then some (a0 ++ a2) else none) else (if (a0.length : Int) + a2.length ≤ 1099511627776 then some ((a0.take a1.toNat ++ a2) ++ a0.drop a1.toNat) else none))) else none)
theorem slices_Insert_Sbytebyte.calls {a0 : List Int} {a1 : Int} {a2 : List Int} {R : As} {w0 w : World} {sa0 : Option Addr} {sc0 : Nat} {sa2 : Option Addr} {sc2 : Nat} {r : List Int} (H : slices_Insert_Sbytebyte.f a0 a1 a2 = some r) (HS : Sep.St [row 5 1 (.slice sa0 a0.length sc0) a0.length (a0.map (Value.int .u8)), row 5 1 (.slice sa2 a2.length sc2) a2.length (a2.map (Value.int .u8)), R] w0 w)  : Calls Tryz.prog 111 #[vs sa0 a0.length sc0, vi a1, vs sa2 a2.length sc2] w (Ret fun u w => ∃ (aq0 : Option Addr) (cq0 : Nat), u = vs aq0 r.length cq0 ∧ Sep.St [row 5 1 (.slice aq0 r.length cq0) r.length (r.map (Value.int .u8)), R] w0 w) := by
 unfold slices_Insert_Sbytebyte.f at H
 refine calls_enter func111 rfl rfl ?_
 have H : _ = some r := H
 refine V.seq (V.region (W.as rfl (W.nx (V.seq (V.region (W.mv rfl (W.mv rfl ?_)))))))
 obtain ⟨c1, H⟩ := ite_n H
 refine W.r (X.slL underlying48 inf5 rfl rfl c1) rfl (W.nx (V.seq (V.region (W.mv rfl (W.r (X.lenSl underlying48 rfl) rfl (W.as rfl (W.nx (V.seq (V.seq (V.region (W.mv rfl (W.r (X.cmp (decide ((a2.length : Int) = 0)) rfl rfl rfl rfl) rfl (W.nx ?_)))))))))))))
 by_cases c4 : (a2.length : Int) = 0
 ·replace H := ite_t c4 H
  refine V.condT (sb (dT c4)) (V.seq (V.region (W.mv rfl (W.as rfl (W.nx (V.ret (At.thenRet ?_)))))))
  replace HS := HS.pk [0, 2] [1]
  cases H
  exact At.ret1 rfl rfl ⟨_, rfl, sa0, sc0, rfl, HS⟩
 ·replace H := ite_f c4 H
  refine V.condF (sb (dF c4)) (V.skip (At.next (V.seq (V.region (W.mv rfl (W.r (X.lenSl underlying48 rfl) rfl (W.as rfl (W.nx (V.seq (V.seq (V.region (W.mv rfl (W.mv rfl (W.r (X.cmp (decide (a1 = (a0.length : Int))) rfl rfl rfl rfl) rfl (W.nx ?_)))))))))))))))
  by_cases c5 : a1 = (a0.length : Int)
  ·replace H := ite_t c5 H
   refine V.condT (sb (dT c5)) (V.seq (V.region (W.mv rfl (W.mv rfl ?_))))
   obtain ⟨c6, H⟩ := ite_n H
   refine W.e (Y.appF (Value.int .u8) (fun _ => rfl) 0 underlying48 ap5 rfl HS rfl rfl rfl (rdC.at 1 row_rd HS rfl) (by omega) (by omega)) rfl ?_
   rintro _ w ⟨ra7, rc8, rfl, HS⟩
   refine W.as rfl (W.nx (V.ret (At.thenRet ?_)))
   replace HS := HS.pk [0, 2] [1]
   cases H
   exact At.ret1 rfl rfl ⟨_, rfl, ra7, rc8, rfl, HS⟩
  ·replace H := ite_f c5 H
   refine V.condF (sb (dF c5)) (V.skip (At.next (V.seq (V.seq (V.region (W.mv rfl (W.mv rfl (W.r (X.add rfl rfl) rfl (W.mv rfl ?_)))))))))
   obtain ⟨c9, H⟩ := ite_n H
   obtain ⟨ig10, io11, iu12, rfl, hc13, hm14, hf15, h416, HN⟩ := HS.row_open (by omega); clear HS; have HS := HN
   replace HS := HS.fr 1
   obtain ⟨ig17, io18, iu19, rfl, hc20, hm21, hf22, h423, HN⟩ := HS.row_open (by omega); clear HS; have HS := HN
   have hne24 := St.blk_ne HS
   have hwa : w64 ((a0.length : Int) + (a2.length : Int)) = (a0.length : Int) + (a2.length : Int) := w64_in ⟨by omega, by omega⟩
   have hwb : w64 (a1 + (a2.length : Int)) = a1 + (a2.length : Int) := w64_in ⟨by omega, by omega⟩
   have hwc : w64 (w64 ((a0.length : Int) + (a2.length : Int)) - a1) = (a0.length : Int) + (a2.length : Int) - a1 := by rw [hwa]; exact w64_in ⟨by omega, by omega⟩
   refine W.r (X.cap underlying48 rfl) rfl (W.r (X.cmp (decide ((w64 ((a0.length : Int) + (a2.length : Int))) > (sc0 : Int))) rfl rfl rfl rfl) rfl (W.nx ?_))
   by_cases c25 : (w64 ((a0.length : Int) + (a2.length : Int))) > (sc0 : Int)
   ·skip
    refine V.condT (sb (dT c25)) (V.seq (V.region (W.mv rfl (W.mv rfl (W.r (X.rawH (j := a1) underlying48 inf5 rfl rfl ⟨(by omega), (by omega)⟩) rfl (W.mv rfl (W.mv rfl (W.r (X.add rfl rfl) rfl (W.mv rfl (W.r (X.sub rfl rfl) rfl (W.e (Y.appZ (kk := a0.length + a2.length - a1.toNat) (kI := w64 ((w64 ((a0.length : Int) + (a2.length : Int))) - a1)) 1 underlying48 underlying3 ap5 rfl HS rfl rfl rfl (by omega) (by omega) (by omega) (by omega) (by omega) (by decide)) rfl ?_)))))))))))
    rintro _ w ⟨ig26, ic27, iR28, rfl, hc29, hm30, hf31, h432, HS⟩
    refine W.as rfl (W.nx (V.seq (V.region (W.mv rfl (W.mv rfl (W.r (X.rawL (i := a1) underlying48 inf5 rfl rfl ⟨(by omega), (by omega)⟩ (by omega)) rfl (W.mv rfl (W.e (Y.copyB (ds := (a2.map (Value.int .u8))) 0 underlying48 inf5 HS rfl rfl rfl (fun j u hu => readO0 1 HS rfl h423 (by omega) j u hu) (oneM (fun _ => rfl)) (by simp only [size_setMany, List.length_drop, List.length_map, true_and, true_or, or_true] <;> omega) (by simp only [size_setMany, List.length_drop, List.length_map, true_and, true_or, or_true] <;> omega)) rfl ?_))))))))
    rintro _ w ⟨rfl, HS⟩
    refine W.nx (V.seq (V.dr [8] [] [(46, vs (some ⟨ig26, 0, none⟩) (a1.toNat + (a0.length + a2.length - a1.toNat)) ic27), (47, vi a1), (48, vi (a2.length : Int)), (49, vi (w64 (a1 + (a2.length : Int)))), (50, vs (some ⟨ig26, 0 + (w64 (a1 + (a2.length : Int))).toNat, none⟩) ((a1.toNat + (a0.length + a2.length - a1.toNat)) - (w64 (a1 + (a2.length : Int))).toNat) (ic27 - (w64 (a1 + (a2.length : Int))).toNat)), (51, vs (some ⟨ig10, io11, none⟩) a0.length sc0), (52, vi a1), (53, vs (some ⟨ig10, io11 + a1.toNat, none⟩) (a0.length - a1.toNat) (sc0 - a1.toNat))] mo HS ?_))
    refine T.ev [(50, _), (53, _)] [] [0, 1, 2, 3, 4, 5, 6, 7] ⟨rfl, rfl, tv⟩ ⟨.mv 9, .mv 1, .mv 7, .n2 47 48 rfl rfl rfl (fun w HS => X.add rfl rfl), .n2 46 49 rfl rfl rfl (fun w HS => X.rawL (i := w64 (a1 + (a2.length : Int))) underlying48 inf5 rfl rfl ⟨(by omega), (by omega)⟩ (by omega)), .mv 0, .mv 1, .n2 51 52 rfl rfl rfl (fun w HS => X.rawL (i := a1) underlying48 inf5 rfl rfl ⟨(by omega), (by omega)⟩ (by omega)), tv⟩ rfl (fun w HS => ?_)
    refine ⟨_, Y.copyB (ds := ((a0.map (Value.int .u8)).drop a1.toNat)) 0 underlying48 inf5 HS rfl rfl rfl (fun j u hu => readO 2 HS rfl h416 (by omega) (by omega) j u hu) (fun u hu => oneM (fun _ => rfl) u (List.mem_of_mem_drop hu)) (by simp only [size_setMany, List.length_drop, List.length_map, true_and, true_or, or_true] <;> omega) (by simp only [size_setMany, List.length_drop, List.length_map, true_and, true_or, or_true] <;> omega), ?_⟩
    rintro _ w ⟨rfl, HS⟩
    refine T.nw HS ?_
    refine T.fn [(9, _)] ⟨rfl, tv⟩ tv (fun w HS => ?_)
    refine At.next (V.seq (V.region (W.mv rfl (W.as rfl (W.nx (V.ret (At.thenRet ?_)))))))
    have he35 : ((a0.take a1.toNat ++ a2) ++ a0.drop a1.toNat).length = a1.toNat + (a0.length + a2.length - a1.toNat) := by simp only [List.length_append, List.length_take, List.length_drop]; omega
    refine At.again 6 (v := vs (some ⟨ig26, 0, none⟩) ((a0.take a1.toNat ++ a2) ++ a0.drop a1.toNat).length ic27) (by rw [he35]; rfl) ?_
    have hl36 := ins_new (i := a1.toNat) (n := a0.length) (m := a2.length) (xs := a0) (vs := a2) (g := (Value.int .u8)) (o1 := 0 + a1.toNat) (o2 := 0 + (w64 (a1 + (a2.length : Int))).toNat) (t := ((a0.take a1.toNat ++ a2) ++ a0.drop a1.toNat).length) (by rw [h432, ← h416, List.take_take, show min a1.toNat a0.length = a1.toNat by omega]) rfl rfl (by omega) (by omega) (by omega) (by omega) (by omega)
    replace HS := HS.row_shut (m := ((a0.take a1.toNat ++ a2) ++ a0.drop a1.toNat).length) (c := ic27) (cs := ((a0.take a1.toNat ++ a2) ++ a0.drop a1.toNat).map (Value.int .u8)) (by omega) (by omega) (by simp only [size_setMany]; omega) hl36 (by rw [List.length_map])
    replace HS := HS.pk [0, 3] [1, 2]
    cases H
    exact At.ret1 rfl rfl ⟨_, rfl, (some ⟨ig26, 0, none⟩), ic27, rfl, HS⟩
   ·skip
    refine V.condF (sb (dF c25)) (V.skip (At.next (V.seq (V.region (W.mv rfl (W.mv rfl (W.mv rfl (W.r (X.add rfl rfl) rfl (W.r (X.rawH (j := w64 ((a0.length : Int) + (a2.length : Int))) underlying48 inf5 rfl rfl ⟨(by omega), (by omega)⟩) rfl (W.as rfl (W.nx (V.seq (V.seq (V.region (W.mv rfl (W.mv rfl (W.mv rfl (W.mv rfl (W.r (X.add rfl rfl) rfl (W.r (X.rawL (i := w64 (a1 + (a2.length : Int))) underlying48 inf5 rfl rfl ⟨(by omega), (by omega)⟩ (by omega)) rfl (W.r (X.overlaps (tR := 4) 0 1 func173 (by kernel_rfl) (by kernel_rfl) (by kernel_rfl) (by kernel_rfl) underlying48 inf5 HS rfl rfl hne24 (by omega) rfl rfl) rfl (W.r (X.not rfl) rfl (W.nx (V.condT rfl (V.seq (V.dr [8] [] [(69, vs (some ⟨ig10, io11, none⟩) ((w64 ((a0.length : Int) + (a2.length : Int))).toNat) sc0), (70, vi a1), (71, vi (a2.length : Int)), (72, vi (w64 (a1 + (a2.length : Int)))), (73, vs (some ⟨ig10, io11 + (w64 (a1 + (a2.length : Int))).toNat, none⟩) (((w64 ((a0.length : Int) + (a2.length : Int))).toNat) - (w64 (a1 + (a2.length : Int))).toNat) (sc0 - (w64 (a1 + (a2.length : Int))).toNat)), (74, vs (some ⟨ig10, io11, none⟩) ((w64 ((a0.length : Int) + (a2.length : Int))).toNat) sc0), (75, vi a1), (76, vs (some ⟨ig10, io11 + a1.toNat, none⟩) (((w64 ((a0.length : Int) + (a2.length : Int))).toNat) - a1.toNat) (sc0 - a1.toNat))] mo HS ?_))))))))))))))))))))))))))
    refine T.ev [(73, _), (76, _)] [] [0, 1, 2, 3, 4, 5, 6, 7] ⟨rfl, rfl, tv⟩ ⟨.mv 0, .mv 1, .mv 7, .n2 70 71 rfl rfl rfl (fun w HS => X.add rfl rfl), .n2 69 72 rfl rfl rfl (fun w HS => X.rawL (i := w64 (a1 + (a2.length : Int))) underlying48 inf5 rfl rfl ⟨(by omega), (by omega)⟩ (by omega)), .mv 0, .mv 1, .n2 74 75 rfl rfl rfl (fun w HS => X.rawL (i := a1) underlying48 inf5 rfl rfl ⟨(by omega), (by omega)⟩ (by omega)), tv⟩ rfl (fun w HS => ?_)
    refine ⟨_, Y.copyB (ds := ((a0.map (Value.int .u8)).drop a1.toNat)) 1 underlying48 inf5 HS rfl rfl rfl (fun j u hu => readO 1 HS rfl h416 (by omega) (by omega) j u hu) (fun u hu => oneM (fun _ => rfl) u (List.mem_of_mem_drop hu)) (by simp only [size_setMany, List.length_drop, List.length_map, true_and, true_or, or_true] <;> omega) (by simp only [size_setMany, List.length_drop, List.length_map, true_and, true_or, or_true] <;> omega), ?_⟩
    rintro _ w ⟨rfl, HS⟩
    refine T.nw HS ?_
    refine T.fn [(0, _), (1, _), (2, _)] ⟨rfl, rfl, rfl, tv⟩ tv (fun w HS => ?_)
    refine At.next (V.seq (V.region (W.mv rfl (W.mv rfl (W.r (X.rawL (i := a1) underlying48 inf5 rfl rfl ⟨(by omega), (by omega)⟩ (by omega)) rfl (W.mv rfl (W.e (Y.copyB (ds := (a2.map (Value.int .u8))) 1 underlying48 inf5 HS rfl rfl rfl (fun j u hu => readO0 0 HS rfl h423 (by omega) j u hu) (oneM (fun _ => rfl)) (by simp only [size_setMany, List.length_drop, List.length_map, true_and, true_or, or_true] <;> omega) (by simp only [size_setMany, List.length_drop, List.length_map, true_and, true_or, or_true] <;> omega)) rfl ?_)))))))
    rintro _ w ⟨rfl, HS⟩
    refine W.nx (V.seq (V.region (W.mv rfl (W.as rfl (W.nx (V.ret (At.thenRet ?_)))))))
    have he41 : ((a0.take a1.toNat ++ a2) ++ a0.drop a1.toNat).length = (w64 ((a0.length : Int) + (a2.length : Int))).toNat := by simp only [List.length_append, List.length_take, List.length_drop]; omega
    refine At.again 6 (v := vs (some ⟨ig10, io11, none⟩) ((a0.take a1.toNat ++ a2) ++ a0.drop a1.toNat).length sc0) (by rw [he41]; rfl) ?_
    replace HS := HS.fr 1
    have hl42 := ins_here (i := a1.toNat) (n := a0.length) (m := a2.length) (xs := a0) (vs := a2) (g := (Value.int .u8)) (o1 := io11 + (w64 (a1 + (a2.length : Int))).toNat) (o2 := io11 + a1.toNat) (t := ((a0.take a1.toNat ++ a2) ++ a0.drop a1.toNat).length) h416 rfl rfl (by omega) (by omega) (by omega) rfl (by omega)
    replace HS := HS.row_shut (m := ((a0.take a1.toNat ++ a2) ++ a0.drop a1.toNat).length) (c := sc0) (cs := ((a0.take a1.toNat ++ a2) ++ a0.drop a1.toNat).map (Value.int .u8)) (by omega) (by omega) (by simp only [size_setMany]; omega) hl42 (by rw [List.length_map])
    replace HS := HS.pk [0, 2] [1]
    cases H
    exact At.ret1 rfl rfl ⟨_, rfl, (some ⟨ig10, io11, none⟩), sc0, rfl, HS⟩
mutual
def pipe_Pipe_Fault.j0 (a0 : pipe_Pipe) (a2 : Int) (a3 : Int) (x15 : Bool) : Option (Bool × pipe_Pipe) := (if x15 = true then some (false, a0) else (if 0 ≤ a2 ∧ a2 < (a0.b.length : Int) then some (true, ({ a0 with b := a0.b.set a2.toNat a3 } : pipe_Pipe)) else none))
def pipe_Pipe_Fault.j1 (a0 : pipe_Pipe) (a2 : Int) (a3 : Int) (x28 : Bool) : Option (Bool × pipe_Pipe) := (if x28 = true then some (false, a0) else ((slices_Insert_Sbytebyte.f a0.b a2 ([a3] : List Int)).bind fun t36 => some (true, ({ a0 with b := t36 } : pipe_Pipe))))
end
def pipe_Pipe_Fault.f (a0 : pipe_Pipe) (a1 : Int) (a2 : Int) (a3 : Int) : Option (Bool × pipe_Pipe) := (if a1 = 0 then some (true, ({ a0 with cut := false, stall := false } : pipe_Pipe)) else (if a1 = 1 then some (true, ({ a0 with cut := true } : pipe_Pipe)) else (if a1 = 2 then some (true, ({ a0 with stall := true } : pipe_Pipe)) else (if a1 = 3 then ((pipe_Pipe_gone.f a0 a2).bind fun t11 => some (true, t11.2)) else (if a1 = 4 then (if a2 < 0 then (pipe_Pipe_Fault.j0 a0 a2 a3 true) else (pipe_Pipe_Fault.j0 a0 a2 a3 (decide (a2 ≥ (a0.b.length : Int))))) else (if a1 = 5 then (if a2 < 0 then (pipe_Pipe_Fault.j1 a0 a2 a3 true) else (if a2 > (a0.b.length : Int) then (pipe_Pipe_Fault.j1 a0 a2 a3 true) else ((pipe_Pipe_Room.f a0).bind fun t42 => (pipe_Pipe_Fault.j1 a0 a2 a3 (decide (t42 = 0)))))) else some (false, a0)))))))
theorem pipe_Pipe_Fault.calls {a0 : pipe_Pipe} {a1 : Int} {a2 : Int} {a3 : Int} {R : As} {w0 w : World} {b0 : Nat} {r : Bool × pipe_Pipe} (H : pipe_Pipe_Fault.f a0 a1 a2 a3 = some r) (HS : Sep.St [pipe_Pipe.at b0 a0, R] w0 w)  : Calls Tryz.prog 52 #[pt b0, vi a1, vi a2, Value.int .u8 a3] w (Ret fun u w => u = vb r.1 ∧ Sep.St [pipe_Pipe.at b0 r.2, R] w0 w) := by
 unfold pipe_Pipe_Fault.f at H
 refine calls_enter func52 rfl rfl ?_
 have H : _ = some r := H
 refine V.seq (V.region (W.as rfl (W.nx (V.seq (V.seq (V.region (W.mv rfl (W.nx (V.block (V.seq (V.region (W.r (X.cmp (decide (a1 = 0)) rfl rfl rfl rfl) rfl (W.as rfl (W.nx ?_))))))))))))))
 by_cases c1 : a1 = 0
 ·replace H := ite_t c1 H
  refine V.condT (sb (dT c1)) (V.region (W.mv rfl (W.mv rfl (W.nc rfl ?_))))
  obtain ⟨a1_2, c1_2, hi3, HS⟩ := pipe_Pipe.open HS
  refine W.fa fo151_2 rfl (W.st 0 2 HS inf4 rfl rfl rfl rfl rfl rfl fun w HS => ?_)
  refine W.nc rfl (W.fa fo151_3 rfl (W.st 0 3 HS inf4 rfl rfl rfl rfl rfl rfl fun w HS => ?_))
  refine W.nil (At.blockEnd (At.next (V.seq (V.region (W.as rfl (W.nx (V.ret ?_)))))))
  replace HS := pipe_Pipe.close tv HS
  cases H
  exact At.ret1 rfl rfl ⟨_, rfl, rfl, HS⟩
 ·replace H := ite_f c1 H
  refine V.condF (sb (dF c1)) (V.seq (V.region (W.r (X.cmp (decide (a1 = 1)) rfl rfl rfl rfl) rfl (W.as rfl (W.nx ?_)))))
  by_cases c4 : a1 = 1
  ·replace H := ite_t c4 H
   refine V.condT (sb (dT c4)) (V.region (W.mv rfl (W.nc rfl ?_)))
   obtain ⟨a1_5, c1_5, hi6, HS⟩ := pipe_Pipe.open HS
   refine W.fa fo151_2 rfl (W.st 0 2 HS inf4 rfl rfl rfl rfl rfl rfl fun w HS => ?_)
   refine W.nil (At.blockEnd (At.next (V.seq (V.region (W.as rfl (W.nx (V.ret ?_)))))))
   replace HS := pipe_Pipe.close tv HS
   cases H
   exact At.ret1 rfl rfl ⟨_, rfl, rfl, HS⟩
  ·replace H := ite_f c4 H
   refine V.condF (sb (dF c4)) (V.seq (V.region (W.r (X.cmp (decide (a1 = 2)) rfl rfl rfl rfl) rfl (W.as rfl (W.nx ?_)))))
   by_cases c7 : a1 = 2
   ·replace H := ite_t c7 H
    refine V.condT (sb (dT c7)) (V.region (W.mv rfl (W.nc rfl ?_)))
    obtain ⟨a1_8, c1_8, hi9, HS⟩ := pipe_Pipe.open HS
    refine W.fa fo151_3 rfl (W.st 0 3 HS inf4 rfl rfl rfl rfl rfl rfl fun w HS => ?_)
    refine W.nil (At.blockEnd (At.next (V.seq (V.region (W.as rfl (W.nx (V.ret ?_)))))))
    replace HS := pipe_Pipe.close tv HS
    cases H
    exact At.ret1 rfl rfl ⟨_, rfl, rfl, HS⟩
   ·replace H := ite_f c7 H
    refine V.condF (sb (dF c7)) (V.seq (V.region (W.r (X.cmp (decide (a1 = 3)) rfl rfl rfl rfl) rfl (W.as rfl (W.nx ?_)))))
    by_cases c10 : a1 = 3
    ·replace H := ite_t c10 H
     refine V.condT (sb (dT c10)) (V.region (W.mv rfl (W.mv rfl ?_)))
     obtain ⟨t11, A12, H⟩ := bind_s H
     refine W.e (Y.cl func109 (pipe_Pipe_gone.calls A12 HS.j1)) rfl ?_
     rintro _ w ⟨at11_0, ct11_0, rfl, HS⟩
     replace HS := HS.o2
     refine W.nil (At.blockEnd (At.next (V.seq (V.region (W.as rfl (W.nx (V.ret ?_)))))))
     replace HS := HS.pk [1, 2] [0]
     cases H
     exact At.ret1 rfl rfl ⟨_, rfl, rfl, HS⟩
    ·replace H := ite_f c10 H
     refine V.condF (sb (dF c10)) (V.seq (V.region (W.r (X.cmp (decide (a1 = 4)) rfl rfl rfl rfl) rfl (W.as rfl (W.nx ?_)))))
     by_cases c13 : a1 = 4
     ·replace H := ite_t c13 H
      refine V.condT (sb (dT c13)) (V.seq (V.meet (σ := Bool) (fun st w => match st with | x15 => Sep.St [pipe_Pipe.at b0 a0, R] w0 w ∧ pipe_Pipe_Fault.j0 a0 a2 a3 x15 = some r) (fun st => match st with | x15 => [(0, pt b0), (2, vi a2), (3, Value.int .u8 a3), (45, vb x15)]) ?_ ?_))
      ·refine V.region (W.mv rfl (W.r (X.cmp (decide (a2 < 0)) rfl rfl rfl rfl) rfl (W.mv rfl ?_)))
       by_cases c23 : a2 < 0
       ·replace H := ite_t c23 H
        refine W.pass 37 rfl (sb (dT c23)) rfl rfl (W.pass 37 rfl (sb (dT c23)) rfl rfl (W.pass 37 rfl (sb (dT c23)) rfl rfl (W.pass 37 rfl (sb (dT c23)) rfl rfl (W.pass 37 rfl (sb (dT c23)) rfl rfl (W.pass 37 rfl (sb (dT c23)) rfl rfl (W.pass 37 rfl (sb (dT c23)) rfl rfl (W.r (X.pickT (sb (dT c23)) rfl) rfl (W.nil ?_))))))))
        exact At.meet true ⟨rfl, rfl, rfl, rfl, tv⟩ ⟨HS, H⟩
       ·replace H := ite_f c23 H
        refine W.want 37 rfl (sb (dF c23)) (W.mv rfl (W.want 37 rfl (sb (dF c23)) (W.mv rfl (W.want 37 rfl (sb (dF c23)) (W.nc rfl (W.want 37 rfl (sb (dF c23)) ?_))))))
        obtain ⟨a1_24, c1_24, hi25, HS⟩ := pipe_Pipe.open HS
        refine W.fa fo151_1 rfl (W.want 37 rfl (sb (dF c23)) (W.ld 0 HS underlying48 rfl rfl rfl rfl (W.want 37 rfl (sb (dF c23)) (W.r (X.lenSl underlying48 rfl) rfl (W.want 37 rfl (sb (dF c23)) (W.r (X.cmp (decide (a2 ≥ (a0.b.length : Int))) rfl rfl rfl rfl) rfl (W.r (X.pickF (sb (dF c23)) rfl) rfl (W.nil ?_))))))))
        replace HS := pipe_Pipe.close tv HS
        exact At.meet (decide (a2 ≥ (a0.b.length : Int))) ⟨rfl, rfl, rfl, rfl, tv⟩ ⟨HS, H⟩
      ·rintro x15 w ⟨HS, H⟩
       unfold pipe_Pipe_Fault.j0 at H
       by_cases c17 : x15 = true
       ·replace H := ite_t c17 H
        refine V.condT (sb c17) (V.seq (V.region (W.as rfl (W.nx (V.ret (At.thenRet (At.blockRet (At.thenRet ?_))))))))
        cases H
        exact At.ret1 rfl rfl ⟨_, rfl, rfl, HS⟩
       ·replace H := ite_f c17 H
        refine V.condF (sb (b_f c17)) (V.skip (At.next (V.region (W.mv rfl (W.nc rfl ?_)))))
        obtain ⟨a1_18, c1_18, hi19, HS⟩ := pipe_Pipe.open HS
        refine W.fa fo151_1 rfl (W.ld 0 HS underlying48 rfl rfl rfl rfl (W.mv rfl (W.mv rfl ?_)))
        obtain ⟨c20, H⟩ := ite_n H
        obtain ⟨eb21, eo22, hh⟩ := (rdC.at 1 row_rd HS rfl).some (by decide) c20.1 c20.2; subst hh
        refine W.r (X.indexSl underlying48 inf5 rfl rfl c20.1 c20.2) rfl (W.en (Y.storeRowF (Value.int .u8) (fun _ => rfl) 1 HS rfl inf5 rfl rfl c20.1 c20.2) rfl ?_)
        rintro _ w HS
        have HS : Sep.St [blk b0 (#[vi a0.room, vs (some ⟨eb21, eo22, none⟩) (a0.b.set a2.toNat a3).length c1_18, vb a0.cut, vb a0.stall]) 151, row 5 1 (.slice (some ⟨eb21, eo22, none⟩) (a0.b.set a2.toNat a3).length c1_18) (a0.b.set a2.toNat a3).length ((a0.b.set a2.toNat a3).map (Value.int .u8)), R] w0 w := by simpa only [List.length_set, List.set_cons_succ, List.set_cons_zero] using HS
        refine W.again 49 (v := vs (some ⟨eb21, eo22, none⟩) (a0.b.set a2.toNat a3).length c1_18) (by rw [List.length_set]; rfl) ?_
        refine W.nil (At.blockEnd (At.next (V.seq (V.region (W.as rfl (W.nx (V.ret ?_)))))))
        replace HS := pipe_Pipe.close tv HS
        cases H
        exact At.ret1 rfl rfl ⟨_, rfl, rfl, HS⟩
     ·replace H := ite_f c13 H
      refine V.condF (sb (dF c13)) (V.seq (V.region (W.r (X.cmp (decide (a1 = 5)) rfl rfl rfl rfl) rfl (W.as rfl (W.nx ?_)))))
      by_cases c26 : a1 = 5
      ·replace H := ite_t c26 H
       refine V.condT (sb (dT c26)) (V.seq (V.meet (σ := Bool) (fun st w => match st with | x28 => Sep.St [pipe_Pipe.at b0 a0, R] w0 w ∧ pipe_Pipe_Fault.j1 a0 a2 a3 x28 = some r) (fun st => match st with | x28 => [(0, pt b0), (2, vi a2), (3, Value.int .u8 a3), (70, vb x28)]) ?_ ?_))
       ·refine V.region (W.mv rfl (W.r (X.cmp (decide (a2 < 0)) rfl rfl rfl rfl) rfl (W.mv rfl ?_)))
        by_cases c38 : a2 < 0
        ·replace H := ite_t c38 H
         refine W.pass 57 rfl (sb (dT c38)) rfl rfl (W.pass 57 rfl (sb (dT c38)) rfl rfl (W.pass 57 rfl (sb (dT c38)) rfl rfl (W.pass 57 rfl (sb (dT c38)) rfl rfl (W.pass 57 rfl (sb (dT c38)) rfl rfl (W.pass 57 rfl (sb (dT c38)) rfl rfl (W.pass 57 rfl (sb (dT c38)) rfl rfl (W.r (X.pickT (sb (dT c38)) rfl) rfl (W.mv rfl (W.pass 66 rfl rfl rfl rfl (W.pass 66 rfl rfl rfl rfl (W.pass 66 rfl rfl rfl rfl (W.r (X.pickT rfl rfl) rfl (W.nil ?_)))))))))))))
         exact At.meet true ⟨rfl, rfl, rfl, rfl, tv⟩ ⟨HS, H⟩
        ·replace H := ite_f c38 H
         refine W.want 57 rfl (sb (dF c38)) (W.mv rfl (W.want 57 rfl (sb (dF c38)) (W.mv rfl (W.want 57 rfl (sb (dF c38)) (W.nc rfl (W.want 57 rfl (sb (dF c38)) ?_))))))
         obtain ⟨a1_39, c1_39, hi40, HS⟩ := pipe_Pipe.open HS
         refine W.fa fo151_1 rfl (W.want 57 rfl (sb (dF c38)) (W.ld 0 HS underlying48 rfl rfl rfl rfl (W.want 57 rfl (sb (dF c38)) (W.r (X.lenSl underlying48 rfl) rfl (W.want 57 rfl (sb (dF c38)) (W.r (X.cmp (decide (a2 > (a0.b.length : Int))) rfl rfl rfl rfl) rfl (W.r (X.pickF (sb (dF c38)) rfl) rfl (W.mv rfl ?_))))))))
         by_cases c41 : a2 > (a0.b.length : Int)
         ·replace H := ite_t c41 H
          refine W.pass 66 rfl (sb (dT c41)) rfl rfl (W.pass 66 rfl (sb (dT c41)) rfl rfl (W.pass 66 rfl (sb (dT c41)) rfl rfl (W.r (X.pickT (sb (dT c41)) rfl) rfl (W.nil ?_))))
          replace HS := pipe_Pipe.close tv HS
          exact At.meet true ⟨rfl, rfl, rfl, rfl, tv⟩ ⟨HS, H⟩
         ·replace H := ite_f c41 H
          refine W.want 66 rfl (sb (dF c41)) (W.mv rfl (W.want 66 rfl (sb (dF c41)) ?_))
          obtain ⟨t42, A43, H⟩ := bind_s H
          refine W.e (Y.cl func110 (pipe_Pipe_Room.calls A43 HS.j2)) rfl ?_
          rintro _ w ⟨rfl, HS⟩
          replace HS := HS.o2
          refine W.want 66 rfl (sb (dF c41)) (W.r (X.cmp (decide (t42 = 0)) rfl rfl rfl rfl) rfl (W.r (X.pickF (sb (dF c41)) rfl) rfl (W.nil ?_)))
          replace HS := pipe_Pipe.close tv HS
          exact At.meet (decide (t42 = 0)) ⟨rfl, rfl, rfl, rfl, tv⟩ ⟨HS, H⟩
       ·rintro x28 w ⟨HS, H⟩
        unfold pipe_Pipe_Fault.j1 at H
        by_cases c30 : x28 = true
        ·replace H := ite_t c30 H
         refine V.condT (sb c30) (V.seq (V.region (W.as rfl (W.nx (V.ret (At.thenRet (At.blockRet (At.thenRet ?_))))))))
         cases H
         exact At.ret1 rfl rfl ⟨_, rfl, rfl, HS⟩
        ·replace H := ite_f c30 H
         refine V.condF (sb (b_f c30)) (V.skip (At.next (V.region (W.mv rfl (W.mv rfl (W.nc rfl ?_))))))
         obtain ⟨a1_31, c1_31, hi32, HS⟩ := pipe_Pipe.open HS
         refine W.fa fo151_1 rfl (W.ld 0 HS underlying48 rfl rfl rfl rfl (W.mv rfl (W.mv rfl (W.e (Y.ls (e := 5) (Value.int .u8) ([a3] : List Int) HS rfl rfl (fun _ => by kernel_rfl)) rfl ?_))))
         rintro _ w ⟨lb35, rfl, HS⟩
         obtain ⟨t36, A37, H⟩ := bind_s H
         replace HS := HS.pm [2, 0, 1, 3]
         refine W.e (Y.cl func111 (slices_Insert_Sbytebyte.calls A37 HS.j2)) rfl ?_
         rintro _ w ⟨at36_0, ct36_0, rfl, HS⟩
         replace HS := HS.o1
         refine W.nc rfl (W.fa fo151_1 rfl (W.st 1 1 HS inf48 rfl rfl rfl rfl rfl rfl fun w HS => ?_))
         refine W.nil (At.blockEnd (At.next (V.seq (V.region (W.as rfl (W.nx (V.ret ?_)))))))
         replace HS := HS.pm [1, 0, 2]
         replace HS := pipe_Pipe.close tv HS
         cases H
         exact At.ret1 rfl rfl ⟨_, rfl, rfl, HS⟩
      ·replace H := ite_f c26 H
       refine V.condF (sb (dF c26)) (V.seq (V.region (W.as rfl (W.nx (V.ret (At.blockRet (At.thenRet ?_)))))))
       cases H
       exact At.ret1 rfl rfl ⟨_, rfl, rfl, HS⟩
def world_World_Fault.f (a0 : world_World) (a1 : Int) (a2 : Int) (a3 : Int) (a4 : Int) (a5 : Int) : Option (Bool × world_World) := (if a1 ≥ 0 then (if a1 < 2 then (if a2 ≥ 0 then (if a2 < 2 then (if 0 ≤ a1 ∧ a1 < 2 then (if a1 = 0 then (if 0 ≤ a2 ∧ a2 < 2 then (if a2 = 0 then ((pipe_Pipe_Fault.f a0.ways.1.1.pipe a3 a4 a5).bind fun t11 => some (t11.1, ({ a0 with ways := ((({ a0.ways.1.1 with pipe := t11.2 } : world_way), a0.ways.1.2), a0.ways.2) } : world_World))) else ((pipe_Pipe_Fault.f a0.ways.1.2.pipe a3 a4 a5).bind fun t14 => some (t14.1, ({ a0 with ways := ((a0.ways.1.1, ({ a0.ways.1.2 with pipe := t14.2 } : world_way)), a0.ways.2) } : world_World)))) else none) else (if 0 ≤ a2 ∧ a2 < 2 then (if a2 = 0 then ((pipe_Pipe_Fault.f a0.ways.2.1.pipe a3 a4 a5).bind fun t19 => some (t19.1, ({ a0 with ways := (a0.ways.1, (({ a0.ways.2.1 with pipe := t19.2 } : world_way), a0.ways.2.2)) } : world_World))) else ((pipe_Pipe_Fault.f a0.ways.2.2.pipe a3 a4 a5).bind fun t22 => some (t22.1, ({ a0 with ways := (a0.ways.1, (a0.ways.2.1, ({ a0.ways.2.2 with pipe := t22.2 } : world_way))) } : world_World)))) else none)) else none) else some (false, a0)) else some (false, a0)) else some (false, a0)) else some (false, a0))
theorem world_World_Fault.calls {a0 : world_World} {a1 : Int} {a2 : Int} {a3 : Int} {a4 : Int} {a5 : Int} {R : As} {w0 w : World} {b0 : Nat} {r : Bool × world_World} (H : world_World_Fault.f a0 a1 a2 a3 a4 a5 = some r) (HS : Sep.St [world_World.at b0 a0, R] w0 w)  : Calls Tryz.prog 12 #[pt b0, vi a1, vi a2, vi a3, vi a4, Value.int .u8 a5] w (Ret fun u w => u = vb r.1 ∧ Sep.St [world_World.at b0 r.2, R] w0 w) := by
 unfold world_World_Fault.f at H
 refine calls_enter func12 rfl rfl ?_
 have H : _ = some r := H
 refine V.seq (V.region (W.as rfl (W.nx (V.seq (V.region (W.mv rfl (W.mv rfl (W.mv rfl ?_))))))))
 refine W.inl (Y.cl (vs := [pt b0, vi a1, vi a2]) func51 (calls_enter func51 rfl rfl ?_)) rfl rfl rfl
 refine V.seq (V.region (W.as rfl (W.as rfl (W.nx (V.seq (V.seq (V.region (W.mv rfl ?_))))))))
 refine W.inl (Y.cl (vs := [vi a1]) func53 (calls_enter func53 rfl rfl ?_)) rfl rfl rfl
 refine V.seq (V.region (W.as rfl (W.nx (V.seq (V.region (W.mv rfl (W.r (X.cmp (decide (a1 ≥ 0)) rfl rfl rfl rfl) rfl (W.mv rfl ?_))))))))
 by_cases c1 : a1 ≥ 0
 ·replace H := ite_t c1 H
  refine W.want 5 rfl (sb (dT c1)) (W.mv rfl (W.want 5 rfl (sb (dT c1)) (W.r (X.cmp (decide (a1 < 2)) rfl rfl rfl rfl) rfl (W.r (X.pickT (sb (dT c1)) rfl) rfl (W.as rfl (W.nx (V.ret ?_)))))))
  refine At.ret1 rfl rfl ⟨_, rfl, ?_⟩
  refine W.r (X.not rfl) rfl (W.mv rfl ?_)
  by_cases c2 : a1 < 2
  ·replace H := ite_t c2 H
   refine W.want 11 rfl (sb (n_t (dT c2))) (W.mv rfl (W.want 11 rfl (sb (n_t (dT c2))) ?_))
   refine W.inl (Y.cl (vs := [vi a2]) func53 (calls_enter func53 rfl rfl ?_)) rfl rfl rfl
   refine V.seq (V.region (W.as rfl (W.nx (V.seq (V.region (W.mv rfl (W.r (X.cmp (decide (a2 ≥ 0)) rfl rfl rfl rfl) rfl (W.mv rfl ?_))))))))
   by_cases c3 : a2 ≥ 0
   ·replace H := ite_t c3 H
    refine W.want 5 rfl (sb (dT c3)) (W.mv rfl (W.want 5 rfl (sb (dT c3)) (W.r (X.cmp (decide (a2 < 2)) rfl rfl rfl rfl) rfl (W.r (X.pickT (sb (dT c3)) rfl) rfl (W.as rfl (W.nx (V.ret ?_)))))))
    refine At.ret1 rfl rfl ⟨_, rfl, ?_⟩
    refine W.want 11 rfl (sb (n_t (dT c2))) (W.r (X.not rfl) rfl (W.r (X.pickF (sb (n_t (dT c2))) rfl) rfl (W.nx ?_)))
    by_cases c4 : a2 < 2
    ·replace H := ite_t c4 H
     refine V.condF (sb (n_t (dT c4))) (V.skip (At.next (V.seq (V.region (W.mv rfl (W.mv rfl (W.mv rfl (W.nc rfl ?_))))))))
     obtain ⟨b16_5, b17_5, b18_5, a19_5, c19_5, d19_5, a20_5, c20_5, d20_5, b21_5, a22_5, c22_5, d22_5, a23_5, c23_5, d23_5, b24_5, a25_5, c25_5, d25_5, a26_5, c26_5, d26_5, b27_5, a28_5, c28_5, d28_5, a29_5, c29_5, d29_5, hi6, HS⟩ := world_World.open HS
     refine W.fa fo83_2 rfl ?_
     obtain ⟨c7, H⟩ := ite_n H
     by_cases c8 : a1 = 0
     ·replace H := ite_t c8 H
      refine W.r (X.indexArK 0 c8 underlying81 inf80 rfl rfl c7.1 c7.2) rfl ?_
      obtain ⟨c9, H⟩ := ite_n H
      by_cases c10 : a2 = 0
      ·replace H := ite_t c10 H
       refine W.r (X.indexArK 0 c10 underlying80 inf79 rfl rfl c9.1 c9.2) rfl (W.as rfl (W.as rfl (W.nx (V.ret ?_))))
       refine At.ret2 rfl rfl rfl ⟨_, rfl, ?_⟩
       refine W.mv rfl (W.r (X.extract rfl rfl) rfl (W.r (X.extract rfl rfl) rfl (W.as rfl (W.as rfl (W.nx (V.seq (V.region (W.mv rfl (W.mv rfl (W.want 23 rfl rfl (W.mv rfl (W.want 23 rfl rfl (W.nc rfl (W.want 23 rfl rfl (W.fa fo79_0 rfl (W.want 23 rfl rfl (W.ld 0 HS underlying77 rfl rfl rfl rfl (W.want 23 rfl rfl (W.mv rfl (W.want 23 rfl rfl (W.mv rfl (W.want 23 rfl rfl (W.mv rfl (W.want 23 rfl rfl ?_))))))))))))))))))))))))
       obtain ⟨t11, A12, H⟩ := bind_s H
       replace HS := HS.pm [3, 0, 1, 2, 4, 5, 6, 7, 8, 9, 10, 11, 12, 13, 14, 15, 16, 17, 18, 19, 20, 21, 22, 23]
       refine W.e (Y.cl func52 (pipe_Pipe_Fault.calls A12 HS.j1)) rfl ?_
       rintro _ w ⟨rfl, HS⟩
       replace HS := HS.o1
       refine W.r (X.pickT rfl rfl) rfl (W.as rfl (W.nx (V.ret ?_)))
       replace HS := HS.pm [1, 2, 3, 0, 4, 5, 6, 7, 8, 9, 10, 11, 12, 13, 14, 15, 16, 17, 18, 19, 20, 21, 22, 23]
       replace HS := world_World.close tv HS
       cases H
       exact At.ret1 rfl rfl ⟨_, rfl, rfl, HS⟩
      ·replace H := ite_f c10 H
       have hk13 : a2 = 1 := by omega
       refine W.r (X.indexArK 1 hk13 underlying80 inf79 rfl rfl c9.1 c9.2) rfl (W.as rfl (W.as rfl (W.nx (V.ret ?_))))
       refine At.ret2 rfl rfl rfl ⟨_, rfl, ?_⟩
       refine W.mv rfl (W.r (X.extract rfl rfl) rfl (W.r (X.extract rfl rfl) rfl (W.as rfl (W.as rfl (W.nx (V.seq (V.region (W.mv rfl (W.mv rfl (W.want 23 rfl rfl (W.mv rfl (W.want 23 rfl rfl (W.nc rfl (W.want 23 rfl rfl (W.fa fo79_0 rfl (W.want 23 rfl rfl (W.ld 0 HS underlying77 rfl rfl rfl rfl (W.want 23 rfl rfl (W.mv rfl (W.want 23 rfl rfl (W.mv rfl (W.want 23 rfl rfl (W.mv rfl (W.want 23 rfl rfl ?_))))))))))))))))))))))))
       obtain ⟨t14, A15, H⟩ := bind_s H
       replace HS := HS.pm [8, 0, 1, 2, 3, 4, 5, 6, 7, 9, 10, 11, 12, 13, 14, 15, 16, 17, 18, 19, 20, 21, 22, 23]
       refine W.e (Y.cl func52 (pipe_Pipe_Fault.calls A15 HS.j1)) rfl ?_
       rintro _ w ⟨rfl, HS⟩
       replace HS := HS.o1
       refine W.r (X.pickT rfl rfl) rfl (W.as rfl (W.nx (V.ret ?_)))
       replace HS := HS.pm [1, 2, 3, 4, 5, 6, 7, 8, 0, 9, 10, 11, 12, 13, 14, 15, 16, 17, 18, 19, 20, 21, 22, 23]
       replace HS := world_World.close tv HS
       cases H
       exact At.ret1 rfl rfl ⟨_, rfl, rfl, HS⟩
     ·replace H := ite_f c8 H
      have hk16 : a1 = 1 := by omega
      refine W.r (X.indexArK 1 hk16 underlying81 inf80 rfl rfl c7.1 c7.2) rfl ?_
      obtain ⟨c17, H⟩ := ite_n H
      by_cases c18 : a2 = 0
      ·replace H := ite_t c18 H
       refine W.r (X.indexArK 0 c18 underlying80 inf79 rfl rfl c17.1 c17.2) rfl (W.as rfl (W.as rfl (W.nx (V.ret ?_))))
       refine At.ret2 rfl rfl rfl ⟨_, rfl, ?_⟩
       refine W.mv rfl (W.r (X.extract rfl rfl) rfl (W.r (X.extract rfl rfl) rfl (W.as rfl (W.as rfl (W.nx (V.seq (V.region (W.mv rfl (W.mv rfl (W.want 23 rfl rfl (W.mv rfl (W.want 23 rfl rfl (W.nc rfl (W.want 23 rfl rfl (W.fa fo79_0 rfl (W.want 23 rfl rfl (W.ld 0 HS underlying77 rfl rfl rfl rfl (W.want 23 rfl rfl (W.mv rfl (W.want 23 rfl rfl (W.mv rfl (W.want 23 rfl rfl (W.mv rfl (W.want 23 rfl rfl ?_))))))))))))))))))))))))
       obtain ⟨t19, A20, H⟩ := bind_s H
       replace HS := HS.pm [13, 0, 1, 2, 3, 4, 5, 6, 7, 8, 9, 10, 11, 12, 14, 15, 16, 17, 18, 19, 20, 21, 22, 23]
       refine W.e (Y.cl func52 (pipe_Pipe_Fault.calls A20 HS.j1)) rfl ?_
       rintro _ w ⟨rfl, HS⟩
       replace HS := HS.o1
       refine W.r (X.pickT rfl rfl) rfl (W.as rfl (W.nx (V.ret ?_)))
       replace HS := HS.pm [1, 2, 3, 4, 5, 6, 7, 8, 9, 10, 11, 12, 13, 0, 14, 15, 16, 17, 18, 19, 20, 21, 22, 23]
       replace HS := world_World.close tv HS
       cases H
       exact At.ret1 rfl rfl ⟨_, rfl, rfl, HS⟩
      ·replace H := ite_f c18 H
       have hk21 : a2 = 1 := by omega
       refine W.r (X.indexArK 1 hk21 underlying80 inf79 rfl rfl c17.1 c17.2) rfl (W.as rfl (W.as rfl (W.nx (V.ret ?_))))
       refine At.ret2 rfl rfl rfl ⟨_, rfl, ?_⟩
       refine W.mv rfl (W.r (X.extract rfl rfl) rfl (W.r (X.extract rfl rfl) rfl (W.as rfl (W.as rfl (W.nx (V.seq (V.region (W.mv rfl (W.mv rfl (W.want 23 rfl rfl (W.mv rfl (W.want 23 rfl rfl (W.nc rfl (W.want 23 rfl rfl (W.fa fo79_0 rfl (W.want 23 rfl rfl (W.ld 0 HS underlying77 rfl rfl rfl rfl (W.want 23 rfl rfl (W.mv rfl (W.want 23 rfl rfl (W.mv rfl (W.want 23 rfl rfl (W.mv rfl (W.want 23 rfl rfl ?_))))))))))))))))))))))))
       obtain ⟨t22, A23, H⟩ := bind_s H
       replace HS := HS.pm [18, 0, 1, 2, 3, 4, 5, 6, 7, 8, 9, 10, 11, 12, 13, 14, 15, 16, 17, 19, 20, 21, 22, 23]
       refine W.e (Y.cl func52 (pipe_Pipe_Fault.calls A23 HS.j1)) rfl ?_
       rintro _ w ⟨rfl, HS⟩
       replace HS := HS.o1
       refine W.r (X.pickT rfl rfl) rfl (W.as rfl (W.nx (V.ret ?_)))
       replace HS := HS.pm [1, 2, 3, 4, 5, 6, 7, 8, 9, 10, 11, 12, 13, 14, 15, 16, 17, 18, 0, 19, 20, 21, 22, 23]
       replace HS := world_World.close tv HS
       cases H
       exact At.ret1 rfl rfl ⟨_, rfl, rfl, HS⟩
    ·replace H := ite_f c4 H
     refine V.condT (sb (n_f (dF c4))) (V.seq (V.region (W.as rfl (W.as rfl (W.nx (V.ret (At.thenRet ?_)))))))
     refine At.ret2 rfl rfl rfl ⟨_, rfl, ?_⟩
     refine W.mv rfl (W.r (X.extract rfl rfl) rfl (W.r (X.extract rfl rfl) rfl (W.as rfl (W.as rfl (W.nx (V.seq (V.region (W.mv rfl (W.mv rfl (W.pass 23 rfl rfl rfl rfl (W.pass 23 rfl rfl rfl rfl (W.pass 23 rfl rfl rfl rfl (W.pass 23 rfl rfl rfl rfl (W.pass 23 rfl rfl rfl rfl (W.pass 23 rfl rfl rfl rfl (W.pass 23 rfl rfl rfl rfl (W.pass 23 rfl rfl rfl rfl (W.r (X.pickF rfl rfl) rfl (W.as rfl (W.nx (V.ret ?_)))))))))))))))))))))
     cases H
     exact At.ret1 rfl rfl ⟨_, rfl, rfl, HS⟩
   ·replace H := ite_f c3 H
    refine W.pass 5 rfl (sb (dF c3)) rfl rfl (W.pass 5 rfl (sb (dF c3)) rfl rfl (W.r (X.pickF (sb (dF c3)) rfl) rfl (W.as rfl (W.nx (V.ret ?_)))))
    refine At.ret1 rfl rfl ⟨_, rfl, ?_⟩
    refine W.want 11 rfl (sb (n_t (dT c2))) (W.r (X.not rfl) rfl (W.r (X.pickF (sb (n_t (dT c2))) rfl) rfl (W.nx (V.condT rfl (V.seq (V.region (W.as rfl (W.as rfl (W.nx (V.ret (At.thenRet ?_)))))))))))
    refine At.ret2 rfl rfl rfl ⟨_, rfl, ?_⟩
    refine W.mv rfl (W.r (X.extract rfl rfl) rfl (W.r (X.extract rfl rfl) rfl (W.as rfl (W.as rfl (W.nx (V.seq (V.region (W.mv rfl (W.mv rfl (W.pass 23 rfl rfl rfl rfl (W.pass 23 rfl rfl rfl rfl (W.pass 23 rfl rfl rfl rfl (W.pass 23 rfl rfl rfl rfl (W.pass 23 rfl rfl rfl rfl (W.pass 23 rfl rfl rfl rfl (W.pass 23 rfl rfl rfl rfl (W.pass 23 rfl rfl rfl rfl (W.r (X.pickF rfl rfl) rfl (W.as rfl (W.nx (V.ret ?_)))))))))))))))))))))
    cases H
    exact At.ret1 rfl rfl ⟨_, rfl, rfl, HS⟩
  ·replace H := ite_f c2 H
   refine W.pass 11 rfl (sb (n_f (dF c2))) rfl rfl (W.pass 11 rfl (sb (n_f (dF c2))) rfl rfl (W.pass 11 rfl (sb (n_f (dF c2))) rfl rfl (W.r (X.pickT (sb (n_f (dF c2))) rfl) rfl (W.nx (V.condT rfl (V.seq (V.region (W.as rfl (W.as rfl (W.nx (V.ret (At.thenRet ?_))))))))))))
   refine At.ret2 rfl rfl rfl ⟨_, rfl, ?_⟩
   refine W.mv rfl (W.r (X.extract rfl rfl) rfl (W.r (X.extract rfl rfl) rfl (W.as rfl (W.as rfl (W.nx (V.seq (V.region (W.mv rfl (W.mv rfl (W.pass 23 rfl rfl rfl rfl (W.pass 23 rfl rfl rfl rfl (W.pass 23 rfl rfl rfl rfl (W.pass 23 rfl rfl rfl rfl (W.pass 23 rfl rfl rfl rfl (W.pass 23 rfl rfl rfl rfl (W.pass 23 rfl rfl rfl rfl (W.pass 23 rfl rfl rfl rfl (W.r (X.pickF rfl rfl) rfl (W.as rfl (W.nx (V.ret ?_)))))))))))))))))))))
   cases H
   exact At.ret1 rfl rfl ⟨_, rfl, rfl, HS⟩
 ·replace H := ite_f c1 H
  refine W.pass 5 rfl (sb (dF c1)) rfl rfl (W.pass 5 rfl (sb (dF c1)) rfl rfl (W.r (X.pickF (sb (dF c1)) rfl) rfl (W.as rfl (W.nx (V.ret ?_)))))
  refine At.ret1 rfl rfl ⟨_, rfl, ?_⟩
  refine W.r (X.not rfl) rfl (W.mv rfl (W.pass 11 rfl rfl rfl rfl (W.pass 11 rfl rfl rfl rfl (W.pass 11 rfl rfl rfl rfl (W.r (X.pickT rfl rfl) rfl (W.nx (V.condT rfl (V.seq (V.region (W.as rfl (W.as rfl (W.nx (V.ret (At.thenRet ?_))))))))))))))
  refine At.ret2 rfl rfl rfl ⟨_, rfl, ?_⟩
  refine W.mv rfl (W.r (X.extract rfl rfl) rfl (W.r (X.extract rfl rfl) rfl (W.as rfl (W.as rfl (W.nx (V.seq (V.region (W.mv rfl (W.mv rfl (W.pass 23 rfl rfl rfl rfl (W.pass 23 rfl rfl rfl rfl (W.pass 23 rfl rfl rfl rfl (W.pass 23 rfl rfl rfl rfl (W.pass 23 rfl rfl rfl rfl (W.pass 23 rfl rfl rfl rfl (W.pass 23 rfl rfl rfl rfl (W.pass 23 rfl rfl rfl rfl (W.r (X.pickF rfl rfl) rfl (W.as rfl (W.nx (V.ret ?_)))))))))))))))))))))
  cases H
  exact At.ret1 rfl rfl ⟨_, rfl, rfl, HS⟩
def world_World_Got.f (k : Nat) (a0 : world_World) (a1 : Int) (a2 : Int) : Option (List (List Int)) := (if a1 ≥ 0 then (if a1 < 2 then (if a2 ≥ 0 then (if a2 < 2 then (if 0 ≤ a1 ∧ a1 < 2 then (if a1 = 0 then (if 0 ≤ a2 ∧ a2 < 2 then (if a2 = 0 then ((world_own.f k a0.ways.1.1.got).bind fun t32 => some t32) else ((world_own.f k a0.ways.1.2.got).bind fun t58 => some t58)) else none) else (if 0 ≤ a2 ∧ a2 < 2 then (if a2 = 0 then ((world_own.f k a0.ways.2.1.got).bind fun t86 => some t86) else ((world_own.f k a0.ways.2.2.got).bind fun t112 => some t112)) else none)) else none) else some (([] : List (List Int)))) else some (([] : List (List Int)))) else some (([] : List (List Int)))) else some (([] : List (List Int))))
theorem world_World_Got.calls {k : Nat} {a0 : world_World} {a1 : Int} {a2 : Int} {R : As} {w0 w : World} {b0 : Nat} {b16_p0 : Nat} {b17_p0 : Nat} {b18_p0 : Nat} {a19_p0 : Option Addr} {c19_p0 : Nat} {d19_p0 : List Value} {a20_p0 : Option Addr} {c20_p0 : Nat} {d20_p0 : List Value} {b21_p0 : Nat} {a22_p0 : Option Addr} {c22_p0 : Nat} {d22_p0 : List Value} {a23_p0 : Option Addr} {c23_p0 : Nat} {d23_p0 : List Value} {b24_p0 : Nat} {a25_p0 : Option Addr} {c25_p0 : Nat} {d25_p0 : List Value} {a26_p0 : Option Addr} {c26_p0 : Nat} {d26_p0 : List Value} {b27_p0 : Nat} {a28_p0 : Option Addr} {c28_p0 : Nat} {d28_p0 : List Value} {a29_p0 : Option Addr} {c29_p0 : Nat} {d29_p0 : List Value} {r : List (List Int)} (H : world_World_Got.f k a0 a1 a2 = some r) (HS : Sep.St [blk b0 (#[vi a0.c.Mode, vi a0.c.Modulus, vi a0.c.Window, vi a0.c.T1, vi a0.c.N2, vi a0.c.Hold, vi a0.c.Wait, vi a0.c.Keep, vi a0.c.Queue, vi a0.c.Size, vi a0.c.Ring, vi a0.c.Rate, vi a0.c.Bad, vi a0.c.Good, vb a0.c.Revert, vb a0.c.Wide, pt b16_p0, pt b17_p0, pt b18_p0, vs a19_p0 a0.ways.1.1.sent.length c19_p0, vs a20_p0 a0.ways.1.1.got.length c20_p0, pt b21_p0, vs a22_p0 a0.ways.1.2.sent.length c22_p0, vs a23_p0 a0.ways.1.2.got.length c23_p0, pt b24_p0, vs a25_p0 a0.ways.2.1.sent.length c25_p0, vs a26_p0 a0.ways.2.1.got.length c26_p0, pt b27_p0, vs a28_p0 a0.ways.2.2.sent.length c28_p0, vs a29_p0 a0.ways.2.2.got.length c29_p0, vi a0.now]) 83, station_Station.at b16_p0 a0.stations.1, station_Station.at b17_p0 a0.stations.2, pipe_Pipe.at b18_p0 a0.ways.1.1.pipe, row 48 1 (.slice a19_p0 a0.ways.1.1.sent.length c19_p0) a0.ways.1.1.sent.length d19_p0, tie (El.sl (El.int .u8)) d19_p0 a0.ways.1.1.sent, row 48 1 (.slice a20_p0 a0.ways.1.1.got.length c20_p0) a0.ways.1.1.got.length d20_p0, tie (El.sl (El.int .u8)) d20_p0 a0.ways.1.1.got, pipe_Pipe.at b21_p0 a0.ways.1.2.pipe, row 48 1 (.slice a22_p0 a0.ways.1.2.sent.length c22_p0) a0.ways.1.2.sent.length d22_p0, tie (El.sl (El.int .u8)) d22_p0 a0.ways.1.2.sent, row 48 1 (.slice a23_p0 a0.ways.1.2.got.length c23_p0) a0.ways.1.2.got.length d23_p0, tie (El.sl (El.int .u8)) d23_p0 a0.ways.1.2.got, pipe_Pipe.at b24_p0 a0.ways.2.1.pipe, row 48 1 (.slice a25_p0 a0.ways.2.1.sent.length c25_p0) a0.ways.2.1.sent.length d25_p0, tie (El.sl (El.int .u8)) d25_p0 a0.ways.2.1.sent, row 48 1 (.slice a26_p0 a0.ways.2.1.got.length c26_p0) a0.ways.2.1.got.length d26_p0, tie (El.sl (El.int .u8)) d26_p0 a0.ways.2.1.got, pipe_Pipe.at b27_p0 a0.ways.2.2.pipe, row 48 1 (.slice a28_p0 a0.ways.2.2.sent.length c28_p0) a0.ways.2.2.sent.length d28_p0, tie (El.sl (El.int .u8)) d28_p0 a0.ways.2.2.sent, row 48 1 (.slice a29_p0 a0.ways.2.2.got.length c29_p0) a0.ways.2.2.got.length d29_p0, tie (El.sl (El.int .u8)) d29_p0 a0.ways.2.2.got, R] w0 w)  : Calls Tryz.prog 16 #[pt b0, vi a1, vi a2] w (Ret fun u w => ∃ (aq0 : Option Addr) (cq0 : Nat) (dq0 : List Value), u = vs aq0 r.length cq0 ∧ Sep.St [row 48 1 (.slice aq0 r.length cq0) r.length dq0, tie (El.sl (El.int .u8)) dq0 r, blk b0 (#[vi a0.c.Mode, vi a0.c.Modulus, vi a0.c.Window, vi a0.c.T1, vi a0.c.N2, vi a0.c.Hold, vi a0.c.Wait, vi a0.c.Keep, vi a0.c.Queue, vi a0.c.Size, vi a0.c.Ring, vi a0.c.Rate, vi a0.c.Bad, vi a0.c.Good, vb a0.c.Revert, vb a0.c.Wide, pt b16_p0, pt b17_p0, pt b18_p0, vs a19_p0 a0.ways.1.1.sent.length c19_p0, vs a20_p0 a0.ways.1.1.got.length c20_p0, pt b21_p0, vs a22_p0 a0.ways.1.2.sent.length c22_p0, vs a23_p0 a0.ways.1.2.got.length c23_p0, pt b24_p0, vs a25_p0 a0.ways.2.1.sent.length c25_p0, vs a26_p0 a0.ways.2.1.got.length c26_p0, pt b27_p0, vs a28_p0 a0.ways.2.2.sent.length c28_p0, vs a29_p0 a0.ways.2.2.got.length c29_p0, vi a0.now]) 83, station_Station.at b16_p0 a0.stations.1, station_Station.at b17_p0 a0.stations.2, pipe_Pipe.at b18_p0 a0.ways.1.1.pipe, row 48 1 (.slice a19_p0 a0.ways.1.1.sent.length c19_p0) a0.ways.1.1.sent.length d19_p0, tie (El.sl (El.int .u8)) d19_p0 a0.ways.1.1.sent, row 48 1 (.slice a20_p0 a0.ways.1.1.got.length c20_p0) a0.ways.1.1.got.length d20_p0, tie (El.sl (El.int .u8)) d20_p0 a0.ways.1.1.got, pipe_Pipe.at b21_p0 a0.ways.1.2.pipe, row 48 1 (.slice a22_p0 a0.ways.1.2.sent.length c22_p0) a0.ways.1.2.sent.length d22_p0, tie (El.sl (El.int .u8)) d22_p0 a0.ways.1.2.sent, row 48 1 (.slice a23_p0 a0.ways.1.2.got.length c23_p0) a0.ways.1.2.got.length d23_p0, tie (El.sl (El.int .u8)) d23_p0 a0.ways.1.2.got, pipe_Pipe.at b24_p0 a0.ways.2.1.pipe, row 48 1 (.slice a25_p0 a0.ways.2.1.sent.length c25_p0) a0.ways.2.1.sent.length d25_p0, tie (El.sl (El.int .u8)) d25_p0 a0.ways.2.1.sent, row 48 1 (.slice a26_p0 a0.ways.2.1.got.length c26_p0) a0.ways.2.1.got.length d26_p0, tie (El.sl (El.int .u8)) d26_p0 a0.ways.2.1.got, pipe_Pipe.at b27_p0 a0.ways.2.2.pipe, row 48 1 (.slice a28_p0 a0.ways.2.2.sent.length c28_p0) a0.ways.2.2.sent.length d28_p0, tie (El.sl (El.int .u8)) d28_p0 a0.ways.2.2.sent, row 48 1 (.slice a29_p0 a0.ways.2.2.got.length c29_p0) a0.ways.2.2.got.length d29_p0, tie (El.sl (El.int .u8)) d29_p0 a0.ways.2.2.got, R] w0 w) := by
 unfold world_World_Got.f at H
 refine calls_enter func16 rfl rfl ?_
 have H : _ = some r := H
 refine V.seq (V.region (W.as rfl (W.nx (V.seq (V.region (W.mv rfl (W.mv rfl (W.mv rfl ?_))))))))
 refine W.inl (Y.cl (vs := [pt b0, vi a1, vi a2]) func51 (calls_enter func51 rfl rfl ?_)) rfl rfl rfl
 refine V.seq (V.region (W.as rfl (W.as rfl (W.nx (V.seq (V.seq (V.region (W.mv rfl ?_))))))))
 refine W.inl (Y.cl (vs := [vi a1]) func53 (calls_enter func53 rfl rfl ?_)) rfl rfl rfl
 refine V.seq (V.region (W.as rfl (W.nx (V.seq (V.region (W.mv rfl (W.r (X.cmp (decide (a1 ≥ 0)) rfl rfl rfl rfl) rfl (W.mv rfl ?_))))))))
 by_cases c1 : a1 ≥ 0
 ·replace H := ite_t c1 H
  refine W.want 5 rfl (sb (dT c1)) (W.mv rfl (W.want 5 rfl (sb (dT c1)) (W.r (X.cmp (decide (a1 < 2)) rfl rfl rfl rfl) rfl (W.r (X.pickT (sb (dT c1)) rfl) rfl (W.as rfl (W.nx (V.ret ?_)))))))
  refine At.ret1 rfl rfl ⟨_, rfl, ?_⟩
  refine W.r (X.not rfl) rfl (W.mv rfl ?_)
  by_cases c2 : a1 < 2
  ·replace H := ite_t c2 H
   refine W.want 11 rfl (sb (n_t (dT c2))) (W.mv rfl (W.want 11 rfl (sb (n_t (dT c2))) ?_))
   refine W.inl (Y.cl (vs := [vi a2]) func53 (calls_enter func53 rfl rfl ?_)) rfl rfl rfl
   refine V.seq (V.region (W.as rfl (W.nx (V.seq (V.region (W.mv rfl (W.r (X.cmp (decide (a2 ≥ 0)) rfl rfl rfl rfl) rfl (W.mv rfl ?_))))))))
   by_cases c3 : a2 ≥ 0
   ·replace H := ite_t c3 H
    refine W.want 5 rfl (sb (dT c3)) (W.mv rfl (W.want 5 rfl (sb (dT c3)) (W.r (X.cmp (decide (a2 < 2)) rfl rfl rfl rfl) rfl (W.r (X.pickT (sb (dT c3)) rfl) rfl (W.as rfl (W.nx (V.ret ?_)))))))
    refine At.ret1 rfl rfl ⟨_, rfl, ?_⟩
    refine W.want 11 rfl (sb (n_t (dT c2))) (W.r (X.not rfl) rfl (W.r (X.pickF (sb (n_t (dT c2))) rfl) rfl (W.nx ?_)))
    by_cases c4 : a2 < 2
    ·replace H := ite_t c4 H
     refine V.condF (sb (n_t (dT c4))) (V.skip (At.next (V.seq (V.region (W.mv rfl (W.mv rfl (W.mv rfl (W.nc rfl (W.fa fo83_2 rfl ?_)))))))))
     obtain ⟨c5, H⟩ := ite_n H
     by_cases c6 : a1 = 0
     ·replace H := ite_t c6 H
      refine W.r (X.indexArK 0 c6 underlying81 inf80 rfl rfl c5.1 c5.2) rfl ?_
      obtain ⟨c7, H⟩ := ite_n H
      by_cases c8 : a2 = 0
      ·replace H := ite_t c8 H
       refine W.r (X.indexArK 0 c8 underlying80 inf79 rfl rfl c7.1 c7.2) rfl (W.as rfl (W.as rfl (W.nx (V.ret ?_))))
       refine At.ret2 rfl rfl rfl ⟨_, rfl, ?_⟩
       refine W.mv rfl (W.r (X.extract rfl rfl) rfl (W.r (X.extract rfl rfl) rfl (W.as rfl (W.as rfl (W.nx (V.seq (V.seq (V.region (W.mv rfl (W.r (X.not rfl) rfl (W.nx (V.condF rfl (V.skip (At.next (V.seq (V.region (W.mv rfl (W.nc rfl (W.fa fo79_2 rfl (W.ld 0 HS underlying35 rfl rfl rfl rfl ?_))))))))))))))))))))
       obtain ⟨t32, A33, H⟩ := bind_s H
       refine W.e (Y.cl func64 (world_own.calls A33 HS.j0 (rdC.part 6 row_rd rfl) (fun h hh => let ⟨_, l, t⟩ := Sp.has 7 hh rfl; tie.mono t l))) rfl ?_
       rintro _ w ⟨at32_0, ct32_0, dt32_0, rfl, HS⟩
       replace HS := HS.o2
       refine W.as rfl (W.nx (V.ret ?_))
       cases H
       exact At.ret1 rfl rfl ⟨_, rfl, at32_0, ct32_0, dt32_0, rfl, HS⟩
      ·replace H := ite_f c8 H
       have hk34 : a2 = 1 := by omega
       refine W.r (X.indexArK 1 hk34 underlying80 inf79 rfl rfl c7.1 c7.2) rfl (W.as rfl (W.as rfl (W.nx (V.ret ?_))))
       refine At.ret2 rfl rfl rfl ⟨_, rfl, ?_⟩
       refine W.mv rfl (W.r (X.extract rfl rfl) rfl (W.r (X.extract rfl rfl) rfl (W.as rfl (W.as rfl (W.nx (V.seq (V.seq (V.region (W.mv rfl (W.r (X.not rfl) rfl (W.nx (V.condF rfl (V.skip (At.next (V.seq (V.region (W.mv rfl (W.nc rfl (W.fa fo79_2 rfl (W.ld 0 HS underlying35 rfl rfl rfl rfl ?_))))))))))))))))))))
       obtain ⟨t58, A59, H⟩ := bind_s H
       refine W.e (Y.cl func64 (world_own.calls A59 HS.j0 (rdC.part 11 row_rd rfl) (fun h hh => let ⟨_, l, t⟩ := Sp.has 12 hh rfl; tie.mono t l))) rfl ?_
       rintro _ w ⟨at58_0, ct58_0, dt58_0, rfl, HS⟩
       replace HS := HS.o2
       refine W.as rfl (W.nx (V.ret ?_))
       cases H
       exact At.ret1 rfl rfl ⟨_, rfl, at58_0, ct58_0, dt58_0, rfl, HS⟩
     ·replace H := ite_f c6 H
      have hk60 : a1 = 1 := by omega
      refine W.r (X.indexArK 1 hk60 underlying81 inf80 rfl rfl c5.1 c5.2) rfl ?_
      obtain ⟨c61, H⟩ := ite_n H
      by_cases c62 : a2 = 0
      ·replace H := ite_t c62 H
       refine W.r (X.indexArK 0 c62 underlying80 inf79 rfl rfl c61.1 c61.2) rfl (W.as rfl (W.as rfl (W.nx (V.ret ?_))))
       refine At.ret2 rfl rfl rfl ⟨_, rfl, ?_⟩
       refine W.mv rfl (W.r (X.extract rfl rfl) rfl (W.r (X.extract rfl rfl) rfl (W.as rfl (W.as rfl (W.nx (V.seq (V.seq (V.region (W.mv rfl (W.r (X.not rfl) rfl (W.nx (V.condF rfl (V.skip (At.next (V.seq (V.region (W.mv rfl (W.nc rfl (W.fa fo79_2 rfl (W.ld 0 HS underlying35 rfl rfl rfl rfl ?_))))))))))))))))))))
       obtain ⟨t86, A87, H⟩ := bind_s H
       refine W.e (Y.cl func64 (world_own.calls A87 HS.j0 (rdC.part 16 row_rd rfl) (fun h hh => let ⟨_, l, t⟩ := Sp.has 17 hh rfl; tie.mono t l))) rfl ?_
       rintro _ w ⟨at86_0, ct86_0, dt86_0, rfl, HS⟩
       replace HS := HS.o2
       refine W.as rfl (W.nx (V.ret ?_))
       cases H
       exact At.ret1 rfl rfl ⟨_, rfl, at86_0, ct86_0, dt86_0, rfl, HS⟩
      ·replace H := ite_f c62 H
       have hk88 : a2 = 1 := by omega
       refine W.r (X.indexArK 1 hk88 underlying80 inf79 rfl rfl c61.1 c61.2) rfl (W.as rfl (W.as rfl (W.nx (V.ret ?_))))
       refine At.ret2 rfl rfl rfl ⟨_, rfl, ?_⟩
       refine W.mv rfl (W.r (X.extract rfl rfl) rfl (W.r (X.extract rfl rfl) rfl (W.as rfl (W.as rfl (W.nx (V.seq (V.seq (V.region (W.mv rfl (W.r (X.not rfl) rfl (W.nx (V.condF rfl (V.skip (At.next (V.seq (V.region (W.mv rfl (W.nc rfl (W.fa fo79_2 rfl (W.ld 0 HS underlying35 rfl rfl rfl rfl ?_))))))))))))))))))))
       obtain ⟨t112, A113, H⟩ := bind_s H
       refine W.e (Y.cl func64 (world_own.calls A113 HS.j0 (rdC.part 21 row_rd rfl) (fun h hh => let ⟨_, l, t⟩ := Sp.has 22 hh rfl; tie.mono t l))) rfl ?_
       rintro _ w ⟨at112_0, ct112_0, dt112_0, rfl, HS⟩
       replace HS := HS.o2
       refine W.as rfl (W.nx (V.ret ?_))
       cases H
       exact At.ret1 rfl rfl ⟨_, rfl, at112_0, ct112_0, dt112_0, rfl, HS⟩
    ·replace H := ite_f c4 H
     refine V.condT (sb (n_f (dF c4))) (V.seq (V.region (W.as rfl (W.as rfl (W.nx (V.ret (At.thenRet ?_)))))))
     refine At.ret2 rfl rfl rfl ⟨_, rfl, ?_⟩
     refine W.mv rfl (W.r (X.extract rfl rfl) rfl (W.r (X.extract rfl rfl) rfl (W.as rfl (W.as rfl (W.nx (V.seq (V.seq (V.region (W.mv rfl (W.r (X.not rfl) rfl (W.nx (V.condT rfl (V.seq (V.region (W.as rfl (W.nx (V.ret (At.thenRet ?_))))))))))))))))))
     replace HS := row_nilE (El.sl (El.int .u8)) 48 1 HS
     cases H
     exact At.ret1 rfl rfl ⟨_, rfl, none, 0, [], rfl, HS⟩
   ·replace H := ite_f c3 H
    refine W.pass 5 rfl (sb (dF c3)) rfl rfl (W.pass 5 rfl (sb (dF c3)) rfl rfl (W.r (X.pickF (sb (dF c3)) rfl) rfl (W.as rfl (W.nx (V.ret ?_)))))
    refine At.ret1 rfl rfl ⟨_, rfl, ?_⟩
    refine W.want 11 rfl (sb (n_t (dT c2))) (W.r (X.not rfl) rfl (W.r (X.pickF (sb (n_t (dT c2))) rfl) rfl (W.nx (V.condT rfl (V.seq (V.region (W.as rfl (W.as rfl (W.nx (V.ret (At.thenRet ?_)))))))))))
    refine At.ret2 rfl rfl rfl ⟨_, rfl, ?_⟩
    refine W.mv rfl (W.r (X.extract rfl rfl) rfl (W.r (X.extract rfl rfl) rfl (W.as rfl (W.as rfl (W.nx (V.seq (V.seq (V.region (W.mv rfl (W.r (X.not rfl) rfl (W.nx (V.condT rfl (V.seq (V.region (W.as rfl (W.nx (V.ret (At.thenRet ?_))))))))))))))))))
    replace HS := row_nilE (El.sl (El.int .u8)) 48 1 HS
    cases H
    exact At.ret1 rfl rfl ⟨_, rfl, none, 0, [], rfl, HS⟩
  ·replace H := ite_f c2 H
   refine W.pass 11 rfl (sb (n_f (dF c2))) rfl rfl (W.pass 11 rfl (sb (n_f (dF c2))) rfl rfl (W.pass 11 rfl (sb (n_f (dF c2))) rfl rfl (W.r (X.pickT (sb (n_f (dF c2))) rfl) rfl (W.nx (V.condT rfl (V.seq (V.region (W.as rfl (W.as rfl (W.nx (V.ret (At.thenRet ?_))))))))))))
   refine At.ret2 rfl rfl rfl ⟨_, rfl, ?_⟩
   refine W.mv rfl (W.r (X.extract rfl rfl) rfl (W.r (X.extract rfl rfl) rfl (W.as rfl (W.as rfl (W.nx (V.seq (V.seq (V.region (W.mv rfl (W.r (X.not rfl) rfl (W.nx (V.condT rfl (V.seq (V.region (W.as rfl (W.nx (V.ret (At.thenRet ?_))))))))))))))))))
   replace HS := row_nilE (El.sl (El.int .u8)) 48 1 HS
   cases H
   exact At.ret1 rfl rfl ⟨_, rfl, none, 0, [], rfl, HS⟩
 ·replace H := ite_f c1 H
  refine W.pass 5 rfl (sb (dF c1)) rfl rfl (W.pass 5 rfl (sb (dF c1)) rfl rfl (W.r (X.pickF (sb (dF c1)) rfl) rfl (W.as rfl (W.nx (V.ret ?_)))))
  refine At.ret1 rfl rfl ⟨_, rfl, ?_⟩
  refine W.r (X.not rfl) rfl (W.mv rfl (W.pass 11 rfl rfl rfl rfl (W.pass 11 rfl rfl rfl rfl (W.pass 11 rfl rfl rfl rfl (W.r (X.pickT rfl rfl) rfl (W.nx (V.condT rfl (V.seq (V.region (W.as rfl (W.as rfl (W.nx (V.ret (At.thenRet ?_))))))))))))))
  refine At.ret2 rfl rfl rfl ⟨_, rfl, ?_⟩
  refine W.mv rfl (W.r (X.extract rfl rfl) rfl (W.r (X.extract rfl rfl) rfl (W.as rfl (W.as rfl (W.nx (V.seq (V.seq (V.region (W.mv rfl (W.r (X.not rfl) rfl (W.nx (V.condT rfl (V.seq (V.region (W.as rfl (W.nx (V.ret (At.thenRet ?_))))))))))))))))))
  replace HS := row_nilE (El.sl (El.int .u8)) 48 1 HS
  cases H
  exact At.ret1 rfl rfl ⟨_, rfl, none, 0, [], rfl, HS⟩
def arq_Arq_State.f (a0 : arq_Arq) : Option Int := some a0.state
theorem arq_Arq_State.calls {a0 : arq_Arq} {R : As} {w0 w : World} {b0 : Nat} {b8_p0 : Nat} {b9_p0 : Nat} {b10_p0 : Nat} {a11_p0 : Option Addr} {c11_p0 : Nat} {d11_p0 : List Value} {a12_p0 : Option Addr} {c12_p0 : Nat} {r : Int} (H : arq_Arq_State.f a0 = some r) (HS : Sep.St [blk b0 (#[vi a0.m, vi a0.t1, vi a0.n2, vi a0.size, vi a0.state, vi a0.tag, vi a0.tries, vb a0.rejected, pt b8_p0, pt b9_p0, pt b10_p0, vs a11_p0 a0.out.length c11_p0, vs a12_p0 a0.inds.length c12_p0, vi a0.sent, vi a0.acked, vi a0.lost]) 158, backlog_Log.at b8_p0 a0.log, reorder_Order.at b9_p0 a0.order, clock_Set.at b10_p0 a0.timers, row 48 1 (.slice a11_p0 a0.out.length c11_p0) a0.out.length d11_p0, tie (El.sl (El.int .u8)) d11_p0 a0.out, row 3 1 (.slice a12_p0 a0.inds.length c12_p0) a0.inds.length (a0.inds.map (Value.int .i64)), R] w0 w)  : Calls Tryz.prog 65 #[pt b0] w (Ret fun u w => u = vi r ∧ Sep.St [blk b0 (#[vi a0.m, vi a0.t1, vi a0.n2, vi a0.size, vi a0.state, vi a0.tag, vi a0.tries, vb a0.rejected, pt b8_p0, pt b9_p0, pt b10_p0, vs a11_p0 a0.out.length c11_p0, vs a12_p0 a0.inds.length c12_p0, vi a0.sent, vi a0.acked, vi a0.lost]) 158, backlog_Log.at b8_p0 a0.log, reorder_Order.at b9_p0 a0.order, clock_Set.at b10_p0 a0.timers, row 48 1 (.slice a11_p0 a0.out.length c11_p0) a0.out.length d11_p0, tie (El.sl (El.int .u8)) d11_p0 a0.out, row 3 1 (.slice a12_p0 a0.inds.length c12_p0) a0.inds.length (a0.inds.map (Value.int .i64)), R] w0 w) := by
 unfold arq_Arq_State.f at H
 refine calls_enter func65 rfl rfl ?_
 have H : _ = some r := H
 refine V.seq (V.region (W.as rfl (W.nx (V.seq (V.region (W.mv rfl (W.nc rfl (W.fa fo158_4 rfl (W.ld 0 HS underlying3 rfl rfl rfl rfl (W.as rfl (W.nx (V.ret ?_))))))))))))
 cases H
 exact At.ret1 rfl rfl ⟨_, rfl, rfl, HS⟩
def arq_Arq_Counts.f (a0 : arq_Arq) : Option (Int × Int × Int) := some (a0.sent, a0.acked, a0.lost)
theorem arq_Arq_Counts.calls {a0 : arq_Arq} {R : As} {w0 w : World} {b0 : Nat} {b8_p0 : Nat} {b9_p0 : Nat} {b10_p0 : Nat} {a11_p0 : Option Addr} {c11_p0 : Nat} {d11_p0 : List Value} {a12_p0 : Option Addr} {c12_p0 : Nat} {r : Int × Int × Int} (H : arq_Arq_Counts.f a0 = some r) (HS : Sep.St [blk b0 (#[vi a0.m, vi a0.t1, vi a0.n2, vi a0.size, vi a0.state, vi a0.tag, vi a0.tries, vb a0.rejected, pt b8_p0, pt b9_p0, pt b10_p0, vs a11_p0 a0.out.length c11_p0, vs a12_p0 a0.inds.length c12_p0, vi a0.sent, vi a0.acked, vi a0.lost]) 158, backlog_Log.at b8_p0 a0.log, reorder_Order.at b9_p0 a0.order, clock_Set.at b10_p0 a0.timers, row 48 1 (.slice a11_p0 a0.out.length c11_p0) a0.out.length d11_p0, tie (El.sl (El.int .u8)) d11_p0 a0.out, row 3 1 (.slice a12_p0 a0.inds.length c12_p0) a0.inds.length (a0.inds.map (Value.int .i64)), R] w0 w)  : Calls Tryz.prog 68 #[pt b0] w (Ret fun u w => u = Value.tuple #[vi r.1, vi r.2.1, vi r.2.2] ∧ Sep.St [blk b0 (#[vi a0.m, vi a0.t1, vi a0.n2, vi a0.size, vi a0.state, vi a0.tag, vi a0.tries, vb a0.rejected, pt b8_p0, pt b9_p0, pt b10_p0, vs a11_p0 a0.out.length c11_p0, vs a12_p0 a0.inds.length c12_p0, vi a0.sent, vi a0.acked, vi a0.lost]) 158, backlog_Log.at b8_p0 a0.log, reorder_Order.at b9_p0 a0.order, clock_Set.at b10_p0 a0.timers, row 48 1 (.slice a11_p0 a0.out.length c11_p0) a0.out.length d11_p0, tie (El.sl (El.int .u8)) d11_p0 a0.out, row 3 1 (.slice a12_p0 a0.inds.length c12_p0) a0.inds.length (a0.inds.map (Value.int .i64)), R] w0 w) := by
 unfold arq_Arq_Counts.f at H
 refine calls_enter func68 rfl rfl ?_
 have H : _ = some r := H
 refine V.seq (V.region (W.as rfl (W.as rfl (W.as rfl (W.nx (V.seq (V.dr [] [] [(5, pt b0), (6, pt b0), (7, po b0 (0 + 13)), (8, vi a0.sent), (9, pt b0), (10, pt b0), (11, po b0 (0 + 14)), (12, vi a0.acked), (13, pt b0), (14, pt b0), (15, po b0 (0 + 15)), (16, vi a0.lost), (2, vi a0.sent), (3, vi a0.acked), (4, vi a0.lost)] mo HS ?_)))))))
 refine T.fn [(2, _), (3, _), (4, _)] ⟨rfl, rfl, rfl, tv⟩ ⟨.mv 0, .nc 5, .fa 6 fo158_13, .ld 7 0 underlying3, .mv 0, .nc 9, .fa 10 fo158_14, .ld 11 0 underlying3, .mv 0, .nc 13, .fa 14 fo158_15, .ld 15 0 underlying3, .as 8, .as 12, .as 16, tv⟩ (fun w HS => ?_)
 refine At.next (V.ret ?_)
 cases H
 exact At.ret3 rfl rfl rfl rfl ⟨_, rfl, rfl, HS⟩
def monitor_Monitor_State.f (a0 : monitor_Monitor) : Option Int := some a0.state
theorem monitor_Monitor_State.calls {a0 : monitor_Monitor} {R : As} {w0 w : World} {b0 : Nat} {b3_p0 : Nat} {r : Int} (H : monitor_Monitor_State.f a0 = some r) (HS : Sep.St [blk b0 (#[vi a0.bad, vi a0.good, vi a0.silent, pt b3_p0, vi a0.row, vi a0.silence, vi a0.state]) 171, tally_Window.at b3_p0 a0.w, R] w0 w)  : Calls Tryz.prog 69 #[pt b0] w (Ret fun u w => u = vi r ∧ Sep.St [blk b0 (#[vi a0.bad, vi a0.good, vi a0.silent, pt b3_p0, vi a0.row, vi a0.silence, vi a0.state]) 171, tally_Window.at b3_p0 a0.w, R] w0 w) := by
 unfold monitor_Monitor_State.f at H
 refine calls_enter func69 rfl rfl ?_
 have H : _ = some r := H
 refine V.seq (V.region (W.as rfl (W.nx (V.seq (V.region (W.mv rfl (W.nc rfl (W.fa fo171_6 rfl (W.ld 0 HS underlying3 rfl rfl rfl rfl (W.as rfl (W.nx (V.ret ?_))))))))))))
 cases H
 exact At.ret1 rfl rfl ⟨_, rfl, rfl, HS⟩
structure api_Status where
 State : Int
 Line : Int
 Lines : (Int × Int)
 Sent : Int
 Acked : Int
 Lost : Int
deriving DecidableEq, Inhabited
def api_Status.at (b : Nat) (x : api_Status) : As := fun h => True ∧ Sp [blk b (#[vi x.State, vi x.Line, vi x.Lines.1, vi x.Lines.2, vi x.Sent, vi x.Acked, vi x.Lost]) 39] h
theorem api_Status.open {b : Nat} {x : api_Status} {L : List As} {w0 w : World} (hs : Sep.St (api_Status.at b x :: L) w0 w) : True ∧ Sep.St (blk b (#[vi x.State, vi x.Line, vi x.Lines.1, vi x.Lines.2, vi x.Sent, vi x.Acked, vi x.Lost]) 39 :: L) w0 w := by
 obtain ⟨ho, ht, hu, h, hon, h1, h2, hd, e1, e2, ⟨hi, hA⟩, hl⟩ := hs
 exact ⟨hi, St.open (m := [blk b (#[vi x.State, vi x.Line, vi x.Lines.1, vi x.Lines.2, vi x.Sent, vi x.Acked, vi x.Lost]) 39]) ⟨ho, ht, hu, h, hon, h1, h2, hd, e1, e2, hA, hl⟩⟩
theorem api_Status.close {b : Nat} {l0 : Int} {l1 : Int} {l2 : Int} {l3 : Int} {l4 : Int} {l5 : Int} {l6 : Int}  {L : List As} {w0 w : World} (hi : True) (hs : Sep.St (blk b (#[vi l0, vi l1, vi l2, vi l3, vi l4, vi l5, vi l6]) 39 :: L) w0 w) : Sep.St (api_Status.at b ({ State := l0, Line := l1, Lines := (l2, l3), Sent := l4, Acked := l5, Lost := l6 } : api_Status) :: L) w0 w := by
 have h2 := St.join (m := [blk b (#[vi l0, vi l1, vi l2, vi l3, vi l4, vi l5, vi l6]) 39]) hs
 exact h2.mono fun h hh => ⟨hi, hh⟩
def station_side.at (b : Nat) (x : station_side) : As := fun h => True ∧ ∃ b0 : Nat, ∃ b1 : Nat, ∃ b2 : Nat, Sp [blk b (#[pt b0, pt b1, pt b2, vi x.counts.Good, vi x.counts.Bad, vi x.counts.Aborts, vi x.counts.Runts, vi x.counts.Giants, vi x.counts.Dropped, vi x.counts.Twins]) 100, frame_Reader.at b0 x.reader, monitor_Monitor.at b1 x.monitor, ring_Ring.at b2 x.ring] h
theorem station_side.open {b : Nat} {x : station_side} {L : List As} {w0 w : World} (hs : Sep.St (station_side.at b x :: L) w0 w) : ∃ b0 : Nat, ∃ b1 : Nat, ∃ b2 : Nat, True ∧ Sep.St (blk b (#[pt b0, pt b1, pt b2, vi x.counts.Good, vi x.counts.Bad, vi x.counts.Aborts, vi x.counts.Runts, vi x.counts.Giants, vi x.counts.Dropped, vi x.counts.Twins]) 100 :: frame_Reader.at b0 x.reader :: monitor_Monitor.at b1 x.monitor :: ring_Ring.at b2 x.ring :: L) w0 w := by
 obtain ⟨ho, ht, hu, h, hon, h1, h2, hd, e1, e2, ⟨hi, b0, b1, b2, hA⟩, hl⟩ := hs
 exact ⟨b0, b1, b2, hi, St.open (m := [blk b (#[pt b0, pt b1, pt b2, vi x.counts.Good, vi x.counts.Bad, vi x.counts.Aborts, vi x.counts.Runts, vi x.counts.Giants, vi x.counts.Dropped, vi x.counts.Twins]) 100, frame_Reader.at b0 x.reader, monitor_Monitor.at b1 x.monitor, ring_Ring.at b2 x.ring]) ⟨ho, ht, hu, h, hon, h1, h2, hd, e1, e2, hA, hl⟩⟩
theorem station_side.close {b : Nat} {l0 : frame_Reader} {l1 : monitor_Monitor} {l2 : ring_Ring} {l3 : Int} {l4 : Int} {l5 : Int} {l6 : Int} {l7 : Int} {l8 : Int} {l9 : Int} {b0 : Nat} {b1 : Nat} {b2 : Nat} {L : List As} {w0 w : World} (hi : True) (hs : Sep.St (blk b (#[pt b0, pt b1, pt b2, vi l3, vi l4, vi l5, vi l6, vi l7, vi l8, vi l9]) 100 :: frame_Reader.at b0 l0 :: monitor_Monitor.at b1 l1 :: ring_Ring.at b2 l2 :: L) w0 w) : Sep.St (station_side.at b ({ reader := l0, monitor := l1, ring := l2, counts := ({ Good := l3, Bad := l4, Aborts := l5, Runts := l6, Giants := l7, Dropped := l8, Twins := l9 } : api_Counts) } : station_side) :: L) w0 w := by
 have h2 := St.join (m := [blk b (#[pt b0, pt b1, pt b2, vi l3, vi l4, vi l5, vi l6, vi l7, vi l8, vi l9]) 100, frame_Reader.at b0 l0, monitor_Monitor.at b1 l1, ring_Ring.at b2 l2]) hs
 exact h2.mono fun h hh => ⟨hi, _, _, _, hh⟩
mutual
def station_Station_Status.j1 (a0 : station_Station) (x17 : api_Status) : Option api_Status := ((arq_Arq_Counts.f a0.arq).bind fun t21 => ((monitor_Monitor_State.f a0.sides.1.monitor).bind fun t34 => ((monitor_Monitor_State.f a0.sides.2.monitor).bind fun t41 => some (({ x17 with Lines := (t34, t41), Sent := t21.1, Acked := t21.2.1, Lost := t21.2.2 } : api_Status)))))
def station_Station_Status.j0 (a0 : station_Station) (x14 : api_Status) : Option api_Status := ((station_Station_twice.f a0).bind fun t48 => (if t48 = true then (station_Station_Status.j1 a0 ({ x14 with Line := 0 } : api_Status)) else (station_Station_Status.j1 a0 x14)))
end
def station_Station_Status.f (a0 : station_Station) : Option api_Status := ((arq_Arq_State.f a0.arq).bind fun t55 => ((aps_Aps_Line.f a0.aps).bind fun t60 => (station_Station_Status.j0 a0 ({ State := t55, Line := t60, Lines := (0, 0), Sent := 0, Acked := 0, Lost := 0 } : api_Status))))
theorem station_Station_Status.calls {a0 : station_Station} {R : As} {w0 w : World} {b0 : Nat} {b16_p0 : Nat} {b17_p0 : Nat} {b18_p0 : Nat} {b22_p0 : Nat} {b23_p0 : Nat} {b24_p0 : Nat} {b32_p0 : Nat} {b33_p0 : Nat} {b34_p0 : Nat} {r : api_Status} (H : station_Station_Status.f a0 = some r) (HS : Sep.St [blk b0 (#[vi a0.c.Mode, vi a0.c.Modulus, vi a0.c.Window, vi a0.c.T1, vi a0.c.N2, vi a0.c.Hold, vi a0.c.Wait, vi a0.c.Keep, vi a0.c.Queue, vi a0.c.Size, vi a0.c.Ring, vi a0.c.Rate, vi a0.c.Bad, vi a0.c.Good, vb a0.c.Revert, vb a0.c.Wide, pt b16_p0, pt b17_p0, pt b18_p0, Value.int .u32 a0.number, vi a0.steps, vi a0.line, pt b22_p0, pt b23_p0, pt b24_p0, vi a0.sides.1.counts.Good, vi a0.sides.1.counts.Bad, vi a0.sides.1.counts.Aborts, vi a0.sides.1.counts.Runts, vi a0.sides.1.counts.Giants, vi a0.sides.1.counts.Dropped, vi a0.sides.1.counts.Twins, pt b32_p0, pt b33_p0, pt b34_p0, vi a0.sides.2.counts.Good, vi a0.sides.2.counts.Bad, vi a0.sides.2.counts.Aborts, vi a0.sides.2.counts.Runts, vi a0.sides.2.counts.Giants, vi a0.sides.2.counts.Dropped, vi a0.sides.2.counts.Twins]) 103, arq_Arq.at b16_p0 a0.arq, aps_Aps.at b17_p0 a0.aps, twins_Table.at b18_p0 a0.twins, frame_Reader.at b22_p0 a0.sides.1.reader, monitor_Monitor.at b23_p0 a0.sides.1.monitor, ring_Ring.at b24_p0 a0.sides.1.ring, frame_Reader.at b32_p0 a0.sides.2.reader, monitor_Monitor.at b33_p0 a0.sides.2.monitor, ring_Ring.at b34_p0 a0.sides.2.ring, R] w0 w)  : Calls Tryz.prog 17 #[pt b0] w (Ret fun u w => u = Value.agg #[vi r.State, vi r.Line, vi r.Lines.1, vi r.Lines.2, vi r.Sent, vi r.Acked, vi r.Lost] ∧ Sep.St [blk b0 (#[vi a0.c.Mode, vi a0.c.Modulus, vi a0.c.Window, vi a0.c.T1, vi a0.c.N2, vi a0.c.Hold, vi a0.c.Wait, vi a0.c.Keep, vi a0.c.Queue, vi a0.c.Size, vi a0.c.Ring, vi a0.c.Rate, vi a0.c.Bad, vi a0.c.Good, vb a0.c.Revert, vb a0.c.Wide, pt b16_p0, pt b17_p0, pt b18_p0, Value.int .u32 a0.number, vi a0.steps, vi a0.line, pt b22_p0, pt b23_p0, pt b24_p0, vi a0.sides.1.counts.Good, vi a0.sides.1.counts.Bad, vi a0.sides.1.counts.Aborts, vi a0.sides.1.counts.Runts, vi a0.sides.1.counts.Giants, vi a0.sides.1.counts.Dropped, vi a0.sides.1.counts.Twins, pt b32_p0, pt b33_p0, pt b34_p0, vi a0.sides.2.counts.Good, vi a0.sides.2.counts.Bad, vi a0.sides.2.counts.Aborts, vi a0.sides.2.counts.Runts, vi a0.sides.2.counts.Giants, vi a0.sides.2.counts.Dropped, vi a0.sides.2.counts.Twins]) 103, arq_Arq.at b16_p0 a0.arq, aps_Aps.at b17_p0 a0.aps, twins_Table.at b18_p0 a0.twins, frame_Reader.at b22_p0 a0.sides.1.reader, monitor_Monitor.at b23_p0 a0.sides.1.monitor, ring_Ring.at b24_p0 a0.sides.1.ring, frame_Reader.at b32_p0 a0.sides.2.reader, monitor_Monitor.at b33_p0 a0.sides.2.monitor, ring_Ring.at b34_p0 a0.sides.2.ring, R] w0 w) := by
 unfold station_Station_Status.f at H
 refine calls_enter func17 rfl rfl ?_
 have H : _ = some r := H
 refine V.seq (V.region (W.e (Y.alloc (z := Value.agg (#[vi (0), vi (0), vi (0), vi (0), vi (0), vi (0), vi (0)])) HS ze39) rfl ?_))
 rintro _ w ⟨nb1, rfl, HS⟩
 refine W.nx (V.meet (σ := Nat × api_Status) (fun st w => match st with | (nb13, x14) => Sep.St [api_Status.at nb13 x14, api_Status.at nb1 (({ State := 0, Line := 0, Lines := (0, 0), Sent := 0, Acked := 0, Lost := 0 } : api_Status)), blk b0 (#[vi a0.c.Mode, vi a0.c.Modulus, vi a0.c.Window, vi a0.c.T1, vi a0.c.N2, vi a0.c.Hold, vi a0.c.Wait, vi a0.c.Keep, vi a0.c.Queue, vi a0.c.Size, vi a0.c.Ring, vi a0.c.Rate, vi a0.c.Bad, vi a0.c.Good, vb a0.c.Revert, vb a0.c.Wide, pt b16_p0, pt b17_p0, pt b18_p0, Value.int .u32 a0.number, vi a0.steps, vi a0.line, pt b22_p0, pt b23_p0, pt b24_p0, vi a0.sides.1.counts.Good, vi a0.sides.1.counts.Bad, vi a0.sides.1.counts.Aborts, vi a0.sides.1.counts.Runts, vi a0.sides.1.counts.Giants, vi a0.sides.1.counts.Dropped, vi a0.sides.1.counts.Twins, pt b32_p0, pt b33_p0, pt b34_p0, vi a0.sides.2.counts.Good, vi a0.sides.2.counts.Bad, vi a0.sides.2.counts.Aborts, vi a0.sides.2.counts.Runts, vi a0.sides.2.counts.Giants, vi a0.sides.2.counts.Dropped, vi a0.sides.2.counts.Twins]) 103, arq_Arq.at b16_p0 a0.arq, aps_Aps.at b17_p0 a0.aps, twins_Table.at b18_p0 a0.twins, frame_Reader.at b22_p0 a0.sides.1.reader, monitor_Monitor.at b23_p0 a0.sides.1.monitor, ring_Ring.at b24_p0 a0.sides.1.ring, frame_Reader.at b32_p0 a0.sides.2.reader, monitor_Monitor.at b33_p0 a0.sides.2.monitor, ring_Ring.at b34_p0 a0.sides.2.ring, R] w0 w ∧ station_Station_Status.j0 a0 x14 = some r) (fun st => match st with | (nb13, x14) => [(0, pt b0), (2, pt nb1), (3, pt nb13)]) ?_ ?_)
 ·refine V.dr [4, 9, 11, 12] [10] [(6, pt b0), (7, pt b0), (8, po b0 (0 + 16)), (9, pt b16_p0), (11, pt b0), (12, pt b0), (13, po b0 (0 + 17)), (14, pt b17_p0)] mo HS ?_
  refine T.pm (es' := [4, 11, 9, 12]) rfl ?_
  refine T.two rfl rfl ⟨.mv 0, .nc 6, .fa 7 fo103_1, .ld 8 1 underlying92, .mv 0, .nc 11, .fa 12 fo103_2, .ld 13 1 underlying93, tv⟩ (T.step (es := [11, 9, 12]) _ [(9, pt b16_p0)] rfl ⟨.inr ⟨rfl, rfl⟩, tv⟩ (Or.inl rfl) (by intro d hd; cases hd; exact ⟨by decide, rfl, rfl⟩) [10] [0, 1, 2, 3] rfl rfl rfl rfl rfl (fun w HS => ?_)) (T.step (es := [4, 9, 12]) _ [] rfl tv (Or.inl rfl) (by intro d hd; cases hd; exact ⟨by decide, rfl, rfl⟩) [10] [] rfl rfl rfl rfl rfl (fun w HS => ?_))
  ·have HS : Sep.St [blk nb1 (#[vi (0), vi (0), vi (0), vi (0), vi (0), vi (0), vi (0)]) 39, blk b0 (#[vi a0.c.Mode, vi a0.c.Modulus, vi a0.c.Window, vi a0.c.T1, vi a0.c.N2, vi a0.c.Hold, vi a0.c.Wait, vi a0.c.Keep, vi a0.c.Queue, vi a0.c.Size, vi a0.c.Ring, vi a0.c.Rate, vi a0.c.Bad, vi a0.c.Good, vb a0.c.Revert, vb a0.c.Wide, pt b16_p0, pt b17_p0, pt b18_p0, Value.int .u32 a0.number, vi a0.steps, vi a0.line, pt b22_p0, pt b23_p0, pt b24_p0, vi a0.sides.1.counts.Good, vi a0.sides.1.counts.Bad, vi a0.sides.1.counts.Aborts, vi a0.sides.1.counts.Runts, vi a0.sides.1.counts.Giants, vi a0.sides.1.counts.Dropped, vi a0.sides.1.counts.Twins, pt b32_p0, pt b33_p0, pt b34_p0, vi a0.sides.2.counts.Good, vi a0.sides.2.counts.Bad, vi a0.sides.2.counts.Aborts, vi a0.sides.2.counts.Runts, vi a0.sides.2.counts.Giants, vi a0.sides.2.counts.Dropped, vi a0.sides.2.counts.Twins]) 103, arq_Arq.at b16_p0 a0.arq, aps_Aps.at b17_p0 a0.aps, twins_Table.at b18_p0 a0.twins, frame_Reader.at b22_p0 a0.sides.1.reader, monitor_Monitor.at b23_p0 a0.sides.1.monitor, ring_Ring.at b24_p0 a0.sides.1.ring, frame_Reader.at b32_p0 a0.sides.2.reader, monitor_Monitor.at b33_p0 a0.sides.2.monitor, ring_Ring.at b34_p0 a0.sides.2.ring, R] w0 w := HS
   replace HS := HS.fr 2
   obtain ⟨b8_53, b9_53, b10_53, a11_53, c11_53, d11_53, a12_53, c12_53, hi54, HS⟩ := arq_Arq.open HS
   obtain ⟨t55, A56, H⟩ := bind_s H
   refine ⟨_, Y.cl func65 (arq_Arq_State.calls A56 HS.j7), ?_⟩
   rintro _ w ⟨rfl, HS⟩
   replace HS := HS.o7
   refine T.nw HS ?_
   refine T.two rfl rfl ⟨.mv 0, .nc 11, .fa 12 fo103_2, .ld 13 8 underlying93, tv⟩ (T.step (es := [9, 12]) _ [] rfl tv (Or.inl rfl) (by intro d hd; cases hd; exact ⟨by decide, rfl, rfl⟩) [10] [] rfl rfl rfl rfl rfl (fun w HS => ?_)) (T.step (es := [11, 12]) _ [(14, pt b17_p0)] rfl ⟨.inr ⟨rfl, rfl⟩, tv⟩ (Or.inl rfl) (by intro d hd; cases hd; exact ⟨by decide, rfl, rfl⟩) [] [5, 6, 7, 8] rfl rfl rfl rfl rfl (fun w HS => ?_))
   ·have HS : Sep.St [blk b16_p0 (#[vi a0.arq.m, vi a0.arq.t1, vi a0.arq.n2, vi a0.arq.size, vi a0.arq.state, vi a0.arq.tag, vi a0.arq.tries, vb a0.arq.rejected, pt b8_53, pt b9_53, pt b10_53, vs a11_53 a0.arq.out.length c11_53, vs a12_53 a0.arq.inds.length c12_53, vi a0.arq.sent, vi a0.arq.acked, vi a0.arq.lost]) 158, backlog_Log.at b8_53 a0.arq.log, reorder_Order.at b9_53 a0.arq.order, clock_Set.at b10_53 a0.arq.timers, row 48 1 (.slice a11_53 a0.arq.out.length c11_53) a0.arq.out.length d11_53, tie (El.sl (El.int .u8)) d11_53 a0.arq.out, row 3 1 (.slice a12_53 a0.arq.inds.length c12_53) a0.arq.inds.length (a0.arq.inds.map (Value.int .i64)), blk nb1 (#[vi (0), vi (0), vi (0), vi (0), vi (0), vi (0), vi (0)]) 39, blk b0 (#[vi a0.c.Mode, vi a0.c.Modulus, vi a0.c.Window, vi a0.c.T1, vi a0.c.N2, vi a0.c.Hold, vi a0.c.Wait, vi a0.c.Keep, vi a0.c.Queue, vi a0.c.Size, vi a0.c.Ring, vi a0.c.Rate, vi a0.c.Bad, vi a0.c.Good, vb a0.c.Revert, vb a0.c.Wide, pt b16_p0, pt b17_p0, pt b18_p0, Value.int .u32 a0.number, vi a0.steps, vi a0.line, pt b22_p0, pt b23_p0, pt b24_p0, vi a0.sides.1.counts.Good, vi a0.sides.1.counts.Bad, vi a0.sides.1.counts.Aborts, vi a0.sides.1.counts.Runts, vi a0.sides.1.counts.Giants, vi a0.sides.1.counts.Dropped, vi a0.sides.1.counts.Twins, pt b32_p0, pt b33_p0, pt b34_p0, vi a0.sides.2.counts.Good, vi a0.sides.2.counts.Bad, vi a0.sides.2.counts.Aborts, vi a0.sides.2.counts.Runts, vi a0.sides.2.counts.Giants, vi a0.sides.2.counts.Dropped, vi a0.sides.2.counts.Twins]) 103, aps_Aps.at b17_p0 a0.aps, twins_Table.at b18_p0 a0.twins, frame_Reader.at b22_p0 a0.sides.1.reader, monitor_Monitor.at b23_p0 a0.sides.1.monitor, ring_Ring.at b24_p0 a0.sides.1.ring, frame_Reader.at b32_p0 a0.sides.2.reader, monitor_Monitor.at b33_p0 a0.sides.2.monitor, ring_Ring.at b34_p0 a0.sides.2.ring, R] w0 w := HS
    refine ⟨_, Y.alloc (z := Value.agg (#[vi (0), vi (0), vi (0), vi (0), vi (0), vi (0), vi (0)])) HS ze39, ?_⟩
    rintro _ w ⟨nb57, rfl, HS⟩
    refine T.nw HS ?_
    refine T.ev [(14, _)] [] [5, 6, 7, 8] ⟨rfl, tv⟩ ⟨.mv 0, .nc 11, .fa 12 fo103_2, .ld 13 9 underlying93, tv⟩ rfl (fun w HS => ?_)
    replace HS := HS.fr 10
    obtain ⟨hi59, HS⟩ := aps_Aps.open HS
    obtain ⟨t60, A61, H⟩ := bind_s H
    refine ⟨_, Y.cl func66 (aps_Aps_Line.calls A61 HS.j1), ?_⟩
    rintro _ w ⟨rfl, HS⟩
    replace HS := HS.o1
    refine T.nm [(15, vi t60), (16, Value.agg #[vi t55, vi t60, vi (0), vi (0), vi (0), vi (0), vi (0)])] HS ⟨.inl ⟨rfl, rfl⟩, ⟨.inr ⟨by decide, rfl⟩, tv⟩⟩ ?_
    refine T.ev [(3, _), (16, _)] [] [10] ⟨rfl, rfl, tv⟩ ⟨.n2 10 15 rfl rfl rfl (fun w HS => X.bd (Value.agg #[vi t55, vi t60, vi (0), vi (0), vi (0), vi (0), vi (0)]) rfl (fun _ => by kernel_rfl)), tv⟩ rfl (fun w HS => ?_)
    refine ⟨_, Y.storeSt (c' := #[vi t55, vi t60, vi (0), vi (0), vi (0), vi (0), vi (0)]) 1 [vi t55, vi t60, vi (0), vi (0), vi (0), vi (0), vi (0)] HS rfl inf39 rfl rfl rfl rfl rfl rfl, ?_⟩
    rintro _ w HS
    refine T.nn HS ?_
    refine T.fn [(0, _), (2, _), (3, _)] ⟨rfl, rfl, rfl, tv⟩ tv (fun w HS => ?_)
    replace HS := HS.pm [1, 0, 2, 3, 4, 5, 6, 7, 8, 9, 10, 11, 12, 13, 14, 15, 16, 17, 18]
    replace HS := api_Status.close tv HS
    replace HS := HS.pm [9, 0, 1, 2, 3, 4, 5, 6, 7, 8, 10, 11, 12, 13, 14, 15, 16, 17, 18]
    replace HS := api_Status.close tv HS
    replace HS := HS.pm [3, 4, 5, 6, 7, 8, 9, 0, 1, 2, 10, 11, 12, 13, 14, 15, 16, 17, 18]
    replace HS := arq_Arq.close tv HS
    replace HS := HS.pm [3, 0, 1, 2, 4, 5, 6, 7, 8, 9, 10, 11, 12]
    replace HS := aps_Aps.close tv HS
    replace HS := HS.pk [3, 2, 4, 1, 0, 5, 6, 7, 8, 9, 10, 11, 12] []
    exact At.meet (nb57, ({ State := t55, Line := t60, Lines := (0, 0), Sent := 0, Acked := 0, Lost := 0 } : api_Status)) ⟨rfl, rfl, rfl, tv⟩ ⟨HS, H⟩
   ·have HS : Sep.St [blk b16_p0 (#[vi a0.arq.m, vi a0.arq.t1, vi a0.arq.n2, vi a0.arq.size, vi a0.arq.state, vi a0.arq.tag, vi a0.arq.tries, vb a0.arq.rejected, pt b8_53, pt b9_53, pt b10_53, vs a11_53 a0.arq.out.length c11_53, vs a12_53 a0.arq.inds.length c12_53, vi a0.arq.sent, vi a0.arq.acked, vi a0.arq.lost]) 158, backlog_Log.at b8_53 a0.arq.log, reorder_Order.at b9_53 a0.arq.order, clock_Set.at b10_53 a0.arq.timers, row 48 1 (.slice a11_53 a0.arq.out.length c11_53) a0.arq.out.length d11_53, tie (El.sl (El.int .u8)) d11_53 a0.arq.out, row 3 1 (.slice a12_53 a0.arq.inds.length c12_53) a0.arq.inds.length (a0.arq.inds.map (Value.int .i64)), blk nb1 (#[vi (0), vi (0), vi (0), vi (0), vi (0), vi (0), vi (0)]) 39, blk b0 (#[vi a0.c.Mode, vi a0.c.Modulus, vi a0.c.Window, vi a0.c.T1, vi a0.c.N2, vi a0.c.Hold, vi a0.c.Wait, vi a0.c.Keep, vi a0.c.Queue, vi a0.c.Size, vi a0.c.Ring, vi a0.c.Rate, vi a0.c.Bad, vi a0.c.Good, vb a0.c.Revert, vb a0.c.Wide, pt b16_p0, pt b17_p0, pt b18_p0, Value.int .u32 a0.number, vi a0.steps, vi a0.line, pt b22_p0, pt b23_p0, pt b24_p0, vi a0.sides.1.counts.Good, vi a0.sides.1.counts.Bad, vi a0.sides.1.counts.Aborts, vi a0.sides.1.counts.Runts, vi a0.sides.1.counts.Giants, vi a0.sides.1.counts.Dropped, vi a0.sides.1.counts.Twins, pt b32_p0, pt b33_p0, pt b34_p0, vi a0.sides.2.counts.Good, vi a0.sides.2.counts.Bad, vi a0.sides.2.counts.Aborts, vi a0.sides.2.counts.Runts, vi a0.sides.2.counts.Giants, vi a0.sides.2.counts.Dropped, vi a0.sides.2.counts.Twins]) 103, aps_Aps.at b17_p0 a0.aps, twins_Table.at b18_p0 a0.twins, frame_Reader.at b22_p0 a0.sides.1.reader, monitor_Monitor.at b23_p0 a0.sides.1.monitor, ring_Ring.at b24_p0 a0.sides.1.ring, frame_Reader.at b32_p0 a0.sides.2.reader, monitor_Monitor.at b33_p0 a0.sides.2.monitor, ring_Ring.at b34_p0 a0.sides.2.ring, R] w0 w := HS
    replace HS := HS.fr 9
    obtain ⟨hi63, HS⟩ := aps_Aps.open HS
    obtain ⟨t64, A65, H⟩ := bind_s H
    refine ⟨_, Y.cl func66 (aps_Aps_Line.calls A65 HS.j1), ?_⟩
    rintro _ w ⟨rfl, HS⟩
    replace HS := HS.o1
    refine T.nm [(15, vi t64), (16, Value.agg #[vi t55, vi t64, vi (0), vi (0), vi (0), vi (0), vi (0)])] HS ⟨.inl ⟨rfl, rfl⟩, ⟨.inr ⟨by decide, rfl⟩, tv⟩⟩ ?_
    refine T.ev [] [] [] tv ⟨.n2 10 15 rfl rfl rfl (fun w HS => X.bd (Value.agg #[vi t55, vi t64, vi (0), vi (0), vi (0), vi (0), vi (0)]) rfl (fun _ => by kernel_rfl)), tv⟩ rfl (fun w HS => ?_)
    refine ⟨_, Y.alloc (z := Value.agg (#[vi (0), vi (0), vi (0), vi (0), vi (0), vi (0), vi (0)])) HS ze39, ?_⟩
    rintro _ w ⟨nb66, rfl, HS⟩
    refine T.nw HS ?_
    refine T.ev [(3, _), (16, _)] [] [10] ⟨rfl, rfl, tv⟩ ⟨.n2 10 15 rfl rfl rfl (fun w HS => X.bd (Value.agg #[vi t55, vi t64, vi (0), vi (0), vi (0), vi (0), vi (0)]) rfl (fun _ => by kernel_rfl)), tv⟩ rfl (fun w HS => ?_)
    refine ⟨_, Y.storeSt (c' := #[vi t55, vi t64, vi (0), vi (0), vi (0), vi (0), vi (0)]) 0 [vi t55, vi t64, vi (0), vi (0), vi (0), vi (0), vi (0)] HS rfl inf39 rfl rfl rfl rfl rfl rfl, ?_⟩
    rintro _ w HS
    refine T.nn HS ?_
    refine T.fn [(0, _), (2, _), (3, _)] ⟨rfl, rfl, rfl, tv⟩ tv (fun w HS => ?_)
    replace HS := api_Status.close tv HS
    replace HS := HS.pm [9, 0, 1, 2, 3, 4, 5, 6, 7, 8, 10, 11, 12, 13, 14, 15, 16, 17, 18]
    replace HS := api_Status.close tv HS
    replace HS := HS.pm [3, 4, 5, 6, 7, 8, 9, 0, 1, 2, 10, 11, 12, 13, 14, 15, 16, 17, 18]
    replace HS := arq_Arq.close tv HS
    replace HS := HS.pm [3, 0, 1, 2, 4, 5, 6, 7, 8, 9, 10, 11, 12]
    replace HS := aps_Aps.close tv HS
    replace HS := HS.pk [3, 2, 4, 1, 0, 5, 6, 7, 8, 9, 10, 11, 12] []
    exact At.meet (nb66, ({ State := t55, Line := t64, Lines := (0, 0), Sent := 0, Acked := 0, Lost := 0 } : api_Status)) ⟨rfl, rfl, rfl, tv⟩ ⟨HS, H⟩
  ·have HS : Sep.St [blk nb1 (#[vi (0), vi (0), vi (0), vi (0), vi (0), vi (0), vi (0)]) 39, blk b0 (#[vi a0.c.Mode, vi a0.c.Modulus, vi a0.c.Window, vi a0.c.T1, vi a0.c.N2, vi a0.c.Hold, vi a0.c.Wait, vi a0.c.Keep, vi a0.c.Queue, vi a0.c.Size, vi a0.c.Ring, vi a0.c.Rate, vi a0.c.Bad, vi a0.c.Good, vb a0.c.Revert, vb a0.c.Wide, pt b16_p0, pt b17_p0, pt b18_p0, Value.int .u32 a0.number, vi a0.steps, vi a0.line, pt b22_p0, pt b23_p0, pt b24_p0, vi a0.sides.1.counts.Good, vi a0.sides.1.counts.Bad, vi a0.sides.1.counts.Aborts, vi a0.sides.1.counts.Runts, vi a0.sides.1.counts.Giants, vi a0.sides.1.counts.Dropped, vi a0.sides.1.counts.Twins, pt b32_p0, pt b33_p0, pt b34_p0, vi a0.sides.2.counts.Good, vi a0.sides.2.counts.Bad, vi a0.sides.2.counts.Aborts, vi a0.sides.2.counts.Runts, vi a0.sides.2.counts.Giants, vi a0.sides.2.counts.Dropped, vi a0.sides.2.counts.Twins]) 103, arq_Arq.at b16_p0 a0.arq, aps_Aps.at b17_p0 a0.aps, twins_Table.at b18_p0 a0.twins, frame_Reader.at b22_p0 a0.sides.1.reader, monitor_Monitor.at b23_p0 a0.sides.1.monitor, ring_Ring.at b24_p0 a0.sides.1.ring, frame_Reader.at b32_p0 a0.sides.2.reader, monitor_Monitor.at b33_p0 a0.sides.2.monitor, ring_Ring.at b34_p0 a0.sides.2.ring, R] w0 w := HS
   refine ⟨_, Y.alloc (z := Value.agg (#[vi (0), vi (0), vi (0), vi (0), vi (0), vi (0), vi (0)])) HS ze39, ?_⟩
   rintro _ w ⟨nb67, rfl, HS⟩
   refine T.nw HS ?_
   refine T.ev [(9, _)] [10] [0, 1, 2, 3] ⟨rfl, tv⟩ ⟨.mv 0, .nc 6, .fa 7 fo103_1, .ld 8 2 underlying92, .mv 0, .nc 11, .fa 12 fo103_2, .ld 13 2 underlying93, tv⟩ rfl (fun w HS => ?_)
   replace HS := HS.fr 3
   obtain ⟨b8_68, b9_68, b10_68, a11_68, c11_68, d11_68, a12_68, c12_68, hi69, HS⟩ := arq_Arq.open HS
   obtain ⟨t70, A71, H⟩ := bind_s H
   refine ⟨_, Y.cl func65 (arq_Arq_State.calls A71 HS.j7), ?_⟩
   rintro _ w ⟨rfl, HS⟩
   replace HS := HS.o7
   refine T.nw HS ?_
   refine T.ev [(14, _)] [] [5, 6, 7, 8] ⟨rfl, tv⟩ ⟨.mv 0, .nc 11, .fa 12 fo103_2, .ld 13 9 underlying93, tv⟩ rfl (fun w HS => ?_)
   replace HS := HS.fr 10
   obtain ⟨hi73, HS⟩ := aps_Aps.open HS
   obtain ⟨t74, A75, H⟩ := bind_s H
   refine ⟨_, Y.cl func66 (aps_Aps_Line.calls A75 HS.j1), ?_⟩
   rintro _ w ⟨rfl, HS⟩
   replace HS := HS.o1
   refine T.nm [(15, vi t74), (16, Value.agg #[vi t70, vi t74, vi (0), vi (0), vi (0), vi (0), vi (0)])] HS ⟨.inl ⟨rfl, rfl⟩, ⟨.inr ⟨by decide, rfl⟩, tv⟩⟩ ?_
   refine T.ev [(3, _), (16, _)] [] [10] ⟨rfl, rfl, tv⟩ ⟨.n2 10 15 rfl rfl rfl (fun w HS => X.bd (Value.agg #[vi t70, vi t74, vi (0), vi (0), vi (0), vi (0), vi (0)]) rfl (fun _ => by kernel_rfl)), tv⟩ rfl (fun w HS => ?_)
   refine ⟨_, Y.storeSt (c' := #[vi t70, vi t74, vi (0), vi (0), vi (0), vi (0), vi (0)]) 8 [vi t70, vi t74, vi (0), vi (0), vi (0), vi (0), vi (0)] HS rfl inf39 rfl rfl rfl rfl rfl rfl, ?_⟩
   rintro _ w HS
   refine T.nn HS ?_
   refine T.fn [(0, _), (2, _), (3, _)] ⟨rfl, rfl, rfl, tv⟩ tv (fun w HS => ?_)
   replace HS := HS.pm [8, 0, 1, 2, 3, 4, 5, 6, 7, 9, 10, 11, 12, 13, 14, 15, 16, 17, 18]
   replace HS := api_Status.close tv HS
   replace HS := HS.pm [9, 0, 1, 2, 3, 4, 5, 6, 7, 8, 10, 11, 12, 13, 14, 15, 16, 17, 18]
   replace HS := api_Status.close tv HS
   replace HS := HS.pm [3, 4, 5, 6, 7, 8, 9, 0, 1, 2, 10, 11, 12, 13, 14, 15, 16, 17, 18]
   replace HS := arq_Arq.close tv HS
   replace HS := HS.pm [3, 0, 1, 2, 4, 5, 6, 7, 8, 9, 10, 11, 12]
   replace HS := aps_Aps.close tv HS
   replace HS := HS.pk [3, 2, 4, 1, 0, 5, 6, 7, 8, 9, 10, 11, 12] []
   exact At.meet (nb67, ({ State := t70, Line := t74, Lines := (0, 0), Sent := 0, Acked := 0, Lost := 0 } : api_Status)) ⟨rfl, rfl, rfl, tv⟩ ⟨HS, H⟩
 ·rintro ⟨nb13, x14⟩ w ⟨HS, H⟩
  unfold station_Station_Status.j0 at H
  refine V.meet (σ := api_Status) (fun st w => match st with | x17 => Sep.St [api_Status.at nb13 x17, api_Status.at nb1 (({ State := 0, Line := 0, Lines := (0, 0), Sent := 0, Acked := 0, Lost := 0 } : api_Status)), blk b0 (#[vi a0.c.Mode, vi a0.c.Modulus, vi a0.c.Window, vi a0.c.T1, vi a0.c.N2, vi a0.c.Hold, vi a0.c.Wait, vi a0.c.Keep, vi a0.c.Queue, vi a0.c.Size, vi a0.c.Ring, vi a0.c.Rate, vi a0.c.Bad, vi a0.c.Good, vb a0.c.Revert, vb a0.c.Wide, pt b16_p0, pt b17_p0, pt b18_p0, Value.int .u32 a0.number, vi a0.steps, vi a0.line, pt b22_p0, pt b23_p0, pt b24_p0, vi a0.sides.1.counts.Good, vi a0.sides.1.counts.Bad, vi a0.sides.1.counts.Aborts, vi a0.sides.1.counts.Runts, vi a0.sides.1.counts.Giants, vi a0.sides.1.counts.Dropped, vi a0.sides.1.counts.Twins, pt b32_p0, pt b33_p0, pt b34_p0, vi a0.sides.2.counts.Good, vi a0.sides.2.counts.Bad, vi a0.sides.2.counts.Aborts, vi a0.sides.2.counts.Runts, vi a0.sides.2.counts.Giants, vi a0.sides.2.counts.Dropped, vi a0.sides.2.counts.Twins]) 103, arq_Arq.at b16_p0 a0.arq, aps_Aps.at b17_p0 a0.aps, twins_Table.at b18_p0 a0.twins, frame_Reader.at b22_p0 a0.sides.1.reader, monitor_Monitor.at b23_p0 a0.sides.1.monitor, ring_Ring.at b24_p0 a0.sides.1.ring, frame_Reader.at b32_p0 a0.sides.2.reader, monitor_Monitor.at b33_p0 a0.sides.2.monitor, ring_Ring.at b34_p0 a0.sides.2.ring, R] w0 w ∧ station_Station_Status.j1 a0 x17 = some r) (fun st => match st with | x17 => [(0, pt b0), (2, pt nb1), (3, pt nb13)]) ?_ ?_
  ·refine V.seq (V.region (W.mv rfl ?_))
   obtain ⟨t48, A49, H⟩ := bind_s H
   replace HS := HS.pm [2, 3, 4, 5, 6, 7, 8, 9, 10, 11, 0, 1, 12]
   refine W.e (Y.cl func67 (station_Station_twice.calls A49 HS.j10)) rfl ?_
   rintro _ w ⟨rfl, HS⟩
   replace HS := HS.o10
   refine W.nx ?_
   by_cases c50 : t48 = true
   ·replace H := ite_t c50 H
    refine V.condT (sb c50) (V.region ?_)
    replace HS := HS.fr 10
    obtain ⟨hi52, HS⟩ := api_Status.open HS
    refine W.fa fo39_1 rfl (W.st 0 1 HS inf3 rfl rfl rfl rfl rfl rfl fun w HS => ?_)
    refine W.nil ?_
    replace HS := api_Status.close tv HS
    replace HS := HS.pk [0, 11, 1, 2, 3, 4, 5, 6, 7, 8, 9, 10, 12] []
    exact At.meet ({ x14 with Line := 0 } : api_Status) ⟨rfl, rfl, rfl, tv⟩ ⟨HS, H⟩
   ·replace H := ite_f c50 H
    refine V.condF (sb (b_f c50)) (V.skip ?_)
    replace HS := HS.pk [10, 11, 0, 1, 2, 3, 4, 5, 6, 7, 8, 9, 12] []
    exact At.meet x14 ⟨rfl, rfl, rfl, tv⟩ ⟨HS, H⟩
  ·rintro x17 w ⟨HS, H⟩
   unfold station_Station_Status.j1 at H
   refine V.seq (V.region (W.mv rfl (W.nc rfl (W.fa fo103_1 rfl (W.ld 2 HS underlying92 rfl rfl rfl rfl ?_)))))
   replace HS := HS.fr 3
   obtain ⟨b8_19, b9_19, b10_19, a11_19, c11_19, d11_19, a12_19, c12_19, hi20, HS⟩ := arq_Arq.open HS
   obtain ⟨t21, A22, H⟩ := bind_s H
   refine W.e (Y.cl func68 (arq_Arq_Counts.calls A22 HS.j7)) rfl ?_
   rintro _ w ⟨rfl, HS⟩
   replace HS := HS.o7
   refine W.mv rfl (W.r (X.extract rfl rfl) rfl (W.r (X.extract rfl rfl) rfl (W.r (X.extract rfl rfl) rfl ?_)))
   replace HS := HS.fr 7
   obtain ⟨hi24, HS⟩ := api_Status.open HS
   refine W.fa fo39_3 rfl (W.st 0 4 HS inf3 rfl rfl rfl rfl rfl rfl fun w HS => ?_)
   refine W.fa fo39_4 rfl (W.st 0 5 HS inf3 rfl rfl rfl rfl rfl rfl fun w HS => ?_)
   refine W.fa fo39_5 rfl (W.st 0 6 HS inf3 rfl rfl rfl rfl rfl rfl fun w HS => ?_)
   refine W.nx (V.seq (V.seq (V.region (W.mv rfl (W.nc rfl (W.fa fo103_7 rfl (W.r (X.loadSt 9 [pt b22_p0, pt b23_p0, pt b24_p0, vi a0.sides.1.counts.Good, vi a0.sides.1.counts.Bad, vi a0.sides.1.counts.Aborts, vi a0.sides.1.counts.Runts, vi a0.sides.1.counts.Giants, vi a0.sides.1.counts.Dropped, vi a0.sides.1.counts.Twins, pt b32_p0, pt b33_p0, pt b34_p0, vi a0.sides.2.counts.Good, vi a0.sides.2.counts.Bad, vi a0.sides.2.counts.Aborts, vi a0.sides.2.counts.Runts, vi a0.sides.2.counts.Giants, vi a0.sides.2.counts.Dropped, vi a0.sides.2.counts.Twins] HS rfl underlying101 rfl inf101 rfl rfl) rfl (W.mv rfl (W.nx (V.block (V.rounds 2 [(2, pt nb1), (3, pt nb13), (35, Value.agg #[pt b22_p0, pt b23_p0, pt b24_p0, vi a0.sides.1.counts.Good, vi a0.sides.1.counts.Bad, vi a0.sides.1.counts.Aborts, vi a0.sides.1.counts.Runts, vi a0.sides.1.counts.Giants, vi a0.sides.1.counts.Dropped, vi a0.sides.1.counts.Twins, pt b32_p0, pt b33_p0, pt b34_p0, vi a0.sides.2.counts.Good, vi a0.sides.2.counts.Bad, vi a0.sides.2.counts.Aborts, vi a0.sides.2.counts.Runts, vi a0.sides.2.counts.Giants, vi a0.sides.2.counts.Dropped, vi a0.sides.2.counts.Twins]), (36, vi (0))] ⟨rfl, rfl, rfl, rfl, tv⟩ ?_)))))))))))
   refine V.seq (V.region (W.r (X.cmp true (by decide) rfl rfl rfl) rfl (W.nx (V.seq (V.condT rfl (V.skip (At.next (V.seq (V.block (V.seq (V.region (W.mv rfl (W.r (X.ixK (Value.agg #[pt b22_p0, pt b23_p0, pt b24_p0, vi a0.sides.1.counts.Good, vi a0.sides.1.counts.Bad, vi a0.sides.1.counts.Aborts, vi a0.sides.1.counts.Runts, vi a0.sides.1.counts.Giants, vi a0.sides.1.counts.Dropped, vi a0.sides.1.counts.Twins]) rfl rfl (fun _ => by kernel_rfl)) rfl (W.e (Y.alloc (z := Value.agg (#[Value.pointer none, Value.pointer none, Value.pointer none, vi (0), vi (0), vi (0), vi (0), vi (0), vi (0), vi (0)])) HS ze100) rfl ?_))))))))))))))
   rintro _ w ⟨nb31, rfl, HS⟩
   refine W.as rfl (W.en (Y.storeSt (c' := #[pt b22_p0, pt b23_p0, pt b24_p0, vi a0.sides.1.counts.Good, vi a0.sides.1.counts.Bad, vi a0.sides.1.counts.Aborts, vi a0.sides.1.counts.Runts, vi a0.sides.1.counts.Giants, vi a0.sides.1.counts.Dropped, vi a0.sides.1.counts.Twins]) 0 [pt b22_p0, pt b23_p0, pt b24_p0, vi a0.sides.1.counts.Good, vi a0.sides.1.counts.Bad, vi a0.sides.1.counts.Aborts, vi a0.sides.1.counts.Runts, vi a0.sides.1.counts.Giants, vi a0.sides.1.counts.Dropped, vi a0.sides.1.counts.Twins] HS rfl inf100 rfl rfl rfl rfl rfl rfl) rfl ?_)
   rintro _ w HS
   refine W.nx (V.region (W.mv rfl (W.fa fo100_1 rfl (W.ld 0 HS underlying97 rfl rfl rfl rfl ?_))))
   replace HS := HS.fr 14
   obtain ⟨b3_32, hi33, HS⟩ := monitor_Monitor.open HS
   obtain ⟨t34, A35, H⟩ := bind_s H
   refine W.e (Y.cl func69 (monitor_Monitor_State.calls A35 HS.j2)) rfl ?_
   rintro _ w ⟨rfl, HS⟩
   replace HS := HS.o2
   refine W.fa fo39_2 rfl (W.r (X.indexArK 0 rfl underlying37 inf3 rfl rfl (by decide) (by decide)) rfl (W.st 3 2 HS inf3 rfl rfl rfl rfl rfl rfl fun w HS => ?_))
   refine W.nil (At.blockEnd (At.next (V.region (W.r (X.add rfl rfl) rfl (W.mv rfl (W.nil (At.onward [(2, pt nb1), (3, pt nb13), (35, Value.agg #[pt b22_p0, pt b23_p0, pt b24_p0, vi a0.sides.1.counts.Good, vi a0.sides.1.counts.Bad, vi a0.sides.1.counts.Aborts, vi a0.sides.1.counts.Runts, vi a0.sides.1.counts.Giants, vi a0.sides.1.counts.Dropped, vi a0.sides.1.counts.Twins, pt b32_p0, pt b33_p0, pt b34_p0, vi a0.sides.2.counts.Good, vi a0.sides.2.counts.Bad, vi a0.sides.2.counts.Aborts, vi a0.sides.2.counts.Runts, vi a0.sides.2.counts.Giants, vi a0.sides.2.counts.Dropped, vi a0.sides.2.counts.Twins]), (36, vi (1))] ⟨rfl, rfl, rfl, rfl, tv⟩ ?_)))))))
   refine V.seq (V.region (W.r (X.cmp true (by decide) rfl rfl rfl) rfl (W.nx (V.seq (V.condT rfl (V.skip (At.next (V.seq (V.block (V.seq (V.region (W.mv rfl (W.r (X.ixK (Value.agg #[pt b32_p0, pt b33_p0, pt b34_p0, vi a0.sides.2.counts.Good, vi a0.sides.2.counts.Bad, vi a0.sides.2.counts.Aborts, vi a0.sides.2.counts.Runts, vi a0.sides.2.counts.Giants, vi a0.sides.2.counts.Dropped, vi a0.sides.2.counts.Twins]) rfl rfl (fun _ => by kernel_rfl)) rfl (W.e (Y.alloc (z := Value.agg (#[Value.pointer none, Value.pointer none, Value.pointer none, vi (0), vi (0), vi (0), vi (0), vi (0), vi (0), vi (0)])) HS ze100) rfl ?_))))))))))))))
   rintro _ w ⟨nb38, rfl, HS⟩
   refine W.as rfl (W.en (Y.storeSt (c' := #[pt b32_p0, pt b33_p0, pt b34_p0, vi a0.sides.2.counts.Good, vi a0.sides.2.counts.Bad, vi a0.sides.2.counts.Aborts, vi a0.sides.2.counts.Runts, vi a0.sides.2.counts.Giants, vi a0.sides.2.counts.Dropped, vi a0.sides.2.counts.Twins]) 0 [pt b32_p0, pt b33_p0, pt b34_p0, vi a0.sides.2.counts.Good, vi a0.sides.2.counts.Bad, vi a0.sides.2.counts.Aborts, vi a0.sides.2.counts.Runts, vi a0.sides.2.counts.Giants, vi a0.sides.2.counts.Dropped, vi a0.sides.2.counts.Twins] HS rfl inf100 rfl rfl rfl rfl rfl rfl) rfl ?_)
   rintro _ w HS
   refine W.nx (V.region (W.mv rfl (W.fa fo100_1 rfl (W.ld 0 HS underlying97 rfl rfl rfl rfl ?_))))
   replace HS := HS.fr 19
   obtain ⟨b3_39, hi40, HS⟩ := monitor_Monitor.open HS
   obtain ⟨t41, A42, H⟩ := bind_s H
   refine W.e (Y.cl func69 (monitor_Monitor_State.calls A42 HS.j2)) rfl ?_
   rintro _ w ⟨rfl, HS⟩
   replace HS := HS.o2
   refine W.fa fo39_2 rfl (W.r (X.indexArK 1 rfl underlying37 inf3 rfl rfl (by decide) (by decide)) rfl (W.st 6 3 HS inf3 rfl rfl rfl rfl rfl rfl fun w HS => ?_))
   refine W.nil (At.blockEnd (At.next (V.region (W.r (X.add rfl rfl) rfl (W.mv rfl (W.nil (At.onward [(2, pt nb1), (3, pt nb13), (35, Value.agg #[pt b22_p0, pt b23_p0, pt b24_p0, vi a0.sides.1.counts.Good, vi a0.sides.1.counts.Bad, vi a0.sides.1.counts.Aborts, vi a0.sides.1.counts.Runts, vi a0.sides.1.counts.Giants, vi a0.sides.1.counts.Dropped, vi a0.sides.1.counts.Twins, pt b32_p0, pt b33_p0, pt b34_p0, vi a0.sides.2.counts.Good, vi a0.sides.2.counts.Bad, vi a0.sides.2.counts.Aborts, vi a0.sides.2.counts.Runts, vi a0.sides.2.counts.Giants, vi a0.sides.2.counts.Dropped, vi a0.sides.2.counts.Twins]), (36, vi (2))] ⟨rfl, rfl, rfl, rfl, tv⟩ ?_)))))))
   refine V.seq (V.region (W.r (X.cmp false (by decide) rfl rfl rfl) rfl (W.nx (V.seq (V.condF rfl (V.exit (At.thenExit (At.thenExit (At.blockExit (At.next (V.seq (V.region (W.r (X.loadSt 6 [vi x17.State, vi x17.Line, vi t34, vi t41, vi t21.1, vi t21.2.1, vi t21.2.2] HS rfl underlying39 rfl inf39 rfl rfl) rfl ?_)))))))))))))
   replace HS := HS.fr 14
   obtain ⟨hi46, HS⟩ := api_Status.open HS
   refine W.en (Y.storeSt (c' := #[vi x17.State, vi x17.Line, vi t34, vi t41, vi t21.1, vi t21.2.1, vi t21.2.2]) 0 [vi x17.State, vi x17.Line, vi t34, vi t41, vi t21.1, vi t21.2.1, vi t21.2.2] HS rfl inf39 rfl rfl rfl rfl rfl rfl) rfl ?_
   rintro _ w HS
   refine W.nx (V.ret ?_)
   have hv47 := run_loadSt (P := Tryz.prog) (p := 0) 0 [vi x17.State, vi x17.Line, vi t34, vi t41, vi t21.1, vi t21.2.1, vi t21.2.2] HS rfl underlying39 rfl inf39 rfl
   replace HS := HS.pm [8, 9, 10, 11, 12, 13, 14, 0, 1, 2, 3, 4, 5, 6, 7, 15, 16, 17, 18, 19, 20, 21, 22]
   replace HS := arq_Arq.close tv HS
   replace HS := HS.pm [5, 6, 0, 1, 2, 3, 4, 7, 8, 9, 10, 11, 12, 13, 14, 15, 16]
   replace HS := monitor_Monitor.close tv HS
   replace HS := HS.pm [3, 4, 0, 1, 2, 5, 6, 7, 8, 9, 10, 11, 12, 13, 14, 15]
   replace HS := monitor_Monitor.close tv HS
   replace HS := HS.pk [7, 2, 8, 9, 10, 1, 11, 12, 0, 13, 14] [3, 4, 5, 6]
   cases H
   exact At.retv1 rfl ⟨_, rfl, hv47⟩ ⟨_, rfl, rfl, HS⟩
mutual
def signalmanlaw21_WorldCuts.j1 (a0 : api_Config) : Option Bool := ((signalmanref20_Latency.f a0).bind fun t18 => some (decide (t18 = 0)))
def signalmanlaw21_WorldCuts.l3 : Nat → Int → Int → world_World → Option Bool
 | 0, _, _, _ => none
 | k + 1, a1, x33, x34 => (if x33 < 4 then ((world_World_Fault.f x34 (w64 (x33.tdiv (2))) (x33.tmod (2)) 1 0 0).bind fun t38 => (if t38.1 = true then (signalmanlaw21_WorldCuts.l3 k a1 (w64 (x33 + 1)) t38.2) else some false)) else ((station_Station_Connect.f k x34.stations.1).bind fun t43 => (signalmanlaw21_WorldCuts.l4 k a1 0 ({ x34 with stations := (t43.2, x34.stations.2) } : world_World))))
def signalmanlaw21_WorldCuts.l4 : Nat → Int → Int → world_World → Option Bool
 | 0, _, _, _ => none
 | k + 1, a1, x67, x68 => (if x67 < a1 then ((world_World_Step.f k x68).bind fun t72 => (signalmanlaw21_WorldCuts.l4 k a1 (w64 (x67 + 1)) t72)) else (signalmanlaw21_WorldCuts.l5 k a1 x68 0))
def signalmanlaw21_WorldCuts.l5 : Nat → Int → world_World → Int → Option Bool
 | 0, _, _, _ => none
 | k + 1, a1, x68, x74 => (if x74 < 4 then ((world_World_Got.f k x68 (w64 (x74.tdiv (2))) (x74.tmod (2))).bind fun t80 => (if (t80.length : Int) = 0 then (signalmanlaw21_WorldCuts.l5 k a1 x68 (w64 (x74 + 1))) else some false)) else ((station_Station_Status.f x68.stations.2).bind fun t87 => (if t87.State = 0 then ((station_Station_Status.f x68.stations.1).bind fun t92 => (if t92.State = 2 then some false else ((world_World_Now.f x68).bind fun t95 => some (decide (t95 = a1))))) else some false)))
def signalmanlaw21_WorldCuts.j2 (k : Nat) (a0 : api_Config) (a1 : Int) (t10 : Option world_World × Int) (t10 : Option world_World × Int) (t10 : Option world_World × Int) (x26 : Bool) : Option Bool := (if x26 = true then ((signalmanref20_Latency.f a0).bind fun t31 => some (decide (t31 = 0))) else (signalmanlaw21_WorldCuts.l3 k a1 0 (t10.1.getD default)))
def signalmanlaw21_WorldCuts.j0 (k : Nat) (a0 : api_Config) (a1 : Int) (t2 : Bool) (x5 : Bool) : Option Bool := (if x5 = true then some t2 else ((world_New.f k a0).bind fun t10 => (if t10.1.isNone = true then ((signalmanlaw21_num.f t10.2).bind fun t20 => (if t20 = 0 then (signalmanlaw21_WorldCuts.j1 a0) else (signalmanlaw21_WorldCuts.j1 a0))) else ((signalmanlaw21_num.f t10.2).bind fun t97 => (if t97 = 0 then (signalmanlaw21_WorldCuts.j2 k a0 a1 t10 t10 t10 false) else (signalmanlaw21_WorldCuts.j2 k a0 a1 t10 t10 t10 true))))))
end
def signalmanlaw21_WorldCuts.f (k : Nat) (a0 : api_Config) (a1 : Int) : Option Bool := ((signalmanlaw21_alive.f k ).bind fun t2 => (if t2 = true then (if a1 < 0 then (signalmanlaw21_WorldCuts.j0 k a0 a1 t2 true) else (signalmanlaw21_WorldCuts.j0 k a0 a1 t2 (decide (a1 > 500)))) else (signalmanlaw21_WorldCuts.j0 k a0 a1 t2 true)))
theorem signalmanlaw21_WorldCuts.calls {k : Nat} {a0 : api_Config} {a1 : Int} {R : As} {w0 w : World}  {r : Bool} (H : signalmanlaw21_WorldCuts.f k a0 a1 = some r) (HS : Sep.St [R] w0 w)  : Calls Tryz.prog 3 #[Value.agg #[vi a0.Mode, vi a0.Modulus, vi a0.Window, vi a0.T1, vi a0.N2, vi a0.Hold, vi a0.Wait, vi a0.Keep, vi a0.Queue, vi a0.Size, vi a0.Ring, vi a0.Rate, vi a0.Bad, vi a0.Good, vb a0.Revert, vb a0.Wide], vi a1] w (Ret fun u w => u = vb r ∧ Sep.St [R] w0 w) := by
 unfold signalmanlaw21_WorldCuts.f at H
 refine calls_enter func3 rfl rfl ?_
 have H : _ = some r := H
 refine V.seq (V.region (W.e (Y.box HS rfl) rfl ?_))
 rintro _ w ⟨nb1, rfl, HS⟩
 refine W.as rfl (W.nx (V.seq (V.region ?_)))
 obtain ⟨t2, A3, H⟩ := bind_s H
 refine W.e (Y.cl func8 (signalmanlaw21_alive.calls A3 HS.j0)) rfl ?_
 rintro _ w ⟨rfl, HS⟩
 replace HS := HS.o0
 refine W.as rfl (W.nx (V.seq (V.meet (σ := Bool) (fun st w => match st with | x5 => Sep.St [api_Config.at nb1 a0, R] w0 w ∧ ∃ kf6, kf6 ≤ k ∧ signalmanlaw21_WorldCuts.j0 kf6 a0 a1 t2 x5 = some r) (fun st => match st with | x5 => [(1, vi a1), (2, pt nb1), (5, vb t2), (21, vb x5)]) ?_ ?_)))
 ·refine V.region (W.mv rfl (W.r (X.not rfl) rfl (W.mv rfl ?_)))
  by_cases c100 : t2 = true
  ·replace H := ite_t c100 H
   refine W.want 14 rfl (sb (n_t c100)) (W.mv rfl (W.want 14 rfl (sb (n_t c100)) (W.r (X.cmp (decide (a1 < 0)) rfl rfl rfl rfl) rfl (W.r (X.pickF (sb (n_t c100)) rfl) rfl (W.mv rfl ?_)))))
   by_cases c101 : a1 < 0
   ·replace H := ite_t c101 H
    refine W.pass 18 rfl (sb (dT c101)) rfl rfl (W.pass 18 rfl (sb (dT c101)) rfl rfl (W.r (X.pickT (sb (dT c101)) rfl) rfl (W.nil ?_)))
    replace HS := api_Config.close tv HS
    exact At.meet true ⟨rfl, rfl, rfl, rfl, tv⟩ ⟨HS, k, by omega, H⟩
   ·replace H := ite_f c101 H
    refine W.want 18 rfl (sb (dF c101)) (W.mv rfl (W.want 18 rfl (sb (dF c101)) (W.r (X.cmp (decide (a1 > 500)) rfl rfl rfl rfl) rfl (W.r (X.pickF (sb (dF c101)) rfl) rfl (W.nil ?_)))))
    replace HS := api_Config.close tv HS
    exact At.meet (decide (a1 > 500)) ⟨rfl, rfl, rfl, rfl, tv⟩ ⟨HS, k, by omega, H⟩
  ·replace H := ite_f c100 H
   refine W.pass 14 rfl (sb (n_f (b_f c100))) rfl rfl (W.pass 14 rfl (sb (n_f (b_f c100))) rfl rfl (W.r (X.pickT (sb (n_f (b_f c100))) rfl) rfl (W.mv rfl (W.pass 18 rfl rfl rfl rfl (W.pass 18 rfl rfl rfl rfl (W.r (X.pickT rfl rfl) rfl (W.nil ?_)))))))
   replace HS := api_Config.close tv HS
   exact At.meet true ⟨rfl, rfl, rfl, rfl, tv⟩ ⟨HS, k, by omega, H⟩
 ·rintro x5 w ⟨HS, kf6, hkkf6, H⟩
  unfold signalmanlaw21_WorldCuts.j0 at H
  by_cases c7 : x5 = true
  ·replace H := ite_t c7 H
   refine V.condT (sb c7) (V.seq (V.region (W.mv rfl (W.as rfl (W.nx (V.ret (At.thenRet ?_)))))))
   replace HS := HS.pk [1] [0]
   cases H
   exact At.ret1 rfl rfl ⟨_, rfl, rfl, HS⟩
  ·replace H := ite_f c7 H
   refine V.condF (sb (b_f c7)) (V.skip (At.next (V.seq (V.region ?_))))
   obtain ⟨hi9, HS⟩ := api_Config.open HS
   refine W.r (X.loadSt 0 [vi a0.Mode, vi a0.Modulus, vi a0.Window, vi a0.T1, vi a0.N2, vi a0.Hold, vi a0.Wait, vi a0.Keep, vi a0.Queue, vi a0.Size, vi a0.Ring, vi a0.Rate, vi a0.Bad, vi a0.Good, vb a0.Revert, vb a0.Wide] HS rfl underlying23 rfl inf23 rfl rfl) rfl ?_
   obtain ⟨t10, A11, H⟩ := bind_s H
   by_cases c12 : t10.1.isNone = true
   ·replace H := ite_t c12 H
    refine W.e (Y.cl func9 (world_New.calls A11 HS.j0)) rfl ?_
    rintro _ w ⟨bt10_0, rfl, HS⟩
    replace HS := HS.o1
    replace HS := St.optN c12 HS
    rw [optv_n c12]
    refine W.mv rfl (W.r (X.extract rfl rfl) rfl (W.r (X.extract rfl rfl) rfl (W.as rfl (W.as rfl (W.nx (V.seq (V.meet (σ := Unit) (fun st w => match st with | _ => Sep.St [api_Config.at nb1 a0, R] w0 w ∧ signalmanlaw21_WorldCuts.j1 a0 = some r) (fun st => match st with | _ => [(1, vi a1), (2, pt nb1), (6, Value.pointer none), (34, vb true)]) ?_ ?_)))))))
    ·refine V.region (W.mv rfl ?_)
     obtain ⟨t20, A21, H⟩ := bind_s H
     refine W.e (Y.cl func10 (signalmanlaw21_num.calls A21 HS.j0)) rfl ?_
     rintro _ w ⟨rfl, HS⟩
     replace HS := HS.o0
     refine W.r (X.cmp (!(decide (t20 = 0))) rfl rfl rfl rfl) rfl (W.mv rfl ?_)
     by_cases c22 : t20 = 0
     ·replace H := ite_t c22 H
      refine W.want 31 rfl (sb (n_t (dT c22))) (W.mv rfl (W.want 31 rfl (sb (n_t (dT c22))) (W.r (X.eqP underlying25 rfl rfl) rfl (W.r (X.pickF (sb (n_t (dT c22))) rfl) rfl (W.nil ?_)))))
      replace HS := api_Config.close tv HS
      exact At.meet () ⟨rfl, rfl, rfl, rfl, tv⟩ ⟨HS, H⟩
     ·replace H := ite_f c22 H
      refine W.pass 31 rfl (sb (n_f (dF c22))) rfl rfl (W.pass 31 rfl (sb (n_f (dF c22))) rfl rfl (W.r (X.pickT (sb (n_f (dF c22))) rfl) rfl (W.nil ?_)))
      replace HS := api_Config.close tv HS
      exact At.meet () ⟨rfl, rfl, rfl, rfl, tv⟩ ⟨HS, H⟩
    ·rintro ⟨⟩ w ⟨HS, H⟩
     unfold signalmanlaw21_WorldCuts.j1 at H
     refine V.condT rfl (V.seq (V.region ?_))
     obtain ⟨hi17, HS⟩ := api_Config.open HS
     refine W.r (X.loadSt 0 [vi a0.Mode, vi a0.Modulus, vi a0.Window, vi a0.T1, vi a0.N2, vi a0.Hold, vi a0.Wait, vi a0.Keep, vi a0.Queue, vi a0.Size, vi a0.Ring, vi a0.Rate, vi a0.Bad, vi a0.Good, vb a0.Revert, vb a0.Wide] HS rfl underlying23 rfl inf23 rfl rfl) rfl ?_
     obtain ⟨t18, A19, H⟩ := bind_s H
     refine W.e (Y.cl func11 (signalmanref20_Latency.calls A19 HS.j0)) rfl ?_
     rintro _ w ⟨rfl, HS⟩
     replace HS := HS.o0
     refine W.r (X.cmp (decide (t18 = 0)) rfl rfl rfl rfl) rfl (W.as rfl (W.nx (V.ret (At.thenRet ?_))))
     replace HS := HS.pk [1] [0]
     cases H
     exact At.ret1 rfl rfl ⟨_, rfl, rfl, HS⟩
   ·replace H := ite_f c12 H
    refine W.e (Y.cl func9 (world_New.calls A11 HS.j0)) rfl ?_
    rintro _ w ⟨bt10_0, rfl, HS⟩
    replace HS := HS.o1
    replace HS := St.optS default c12 HS
    rw [optv_s c12]
    refine W.mv rfl (W.r (X.extract rfl rfl) rfl (W.r (X.extract rfl rfl) rfl (W.as rfl (W.as rfl (W.nx (V.seq (V.meet (σ := Bool) (fun st w => match st with | x26 => Sep.St [api_Config.at nb1 a0, world_World.at bt10_0 (t10.1.getD default), R] w0 w ∧ ∃ kf27, kf27 ≤ kf6 ∧ signalmanlaw21_WorldCuts.j2 kf27 a0 a1 t10 t10 t10 x26 = some r) (fun st => match st with | x26 => [(1, vi a1), (2, pt nb1), (6, pt bt10_0), (34, vb x26)]) ?_ ?_)))))))
    ·refine V.region (W.mv rfl ?_)
     obtain ⟨t97, A98, H⟩ := bind_s H
     refine W.e (Y.cl func10 (signalmanlaw21_num.calls A98 HS.j0)) rfl ?_
     rintro _ w ⟨rfl, HS⟩
     replace HS := HS.o0
     refine W.r (X.cmp (!(decide (t97 = 0))) rfl rfl rfl rfl) rfl (W.mv rfl ?_)
     by_cases c99 : t97 = 0
     ·replace H := ite_t c99 H
      refine W.want 31 rfl (sb (n_t (dT c99))) (W.mv rfl (W.want 31 rfl (sb (n_t (dT c99))) (W.r (X.eqP underlying25 rfl rfl) rfl (W.r (X.pickF (sb (n_t (dT c99))) rfl) rfl (W.nil ?_)))))
      replace HS := HS.pm [1, 0, 2]
      replace HS := api_Config.close tv HS
      exact At.meet false ⟨rfl, rfl, rfl, rfl, tv⟩ ⟨HS, kf6, by omega, H⟩
     ·replace H := ite_f c99 H
      refine W.pass 31 rfl (sb (n_f (dF c99))) rfl rfl (W.pass 31 rfl (sb (n_f (dF c99))) rfl rfl (W.r (X.pickT (sb (n_f (dF c99))) rfl) rfl (W.nil ?_)))
      replace HS := HS.pm [1, 0, 2]
      replace HS := api_Config.close tv HS
      exact At.meet true ⟨rfl, rfl, rfl, rfl, tv⟩ ⟨HS, kf6, by omega, H⟩
    ·rintro x26 w ⟨HS, kf27, hkkf27, H⟩
     unfold signalmanlaw21_WorldCuts.j2 at H
     by_cases c28 : x26 = true
     ·replace H := ite_t c28 H
      refine V.condT (sb c28) (V.seq (V.region ?_))
      obtain ⟨hi30, HS⟩ := api_Config.open HS
      refine W.r (X.loadSt 0 [vi a0.Mode, vi a0.Modulus, vi a0.Window, vi a0.T1, vi a0.N2, vi a0.Hold, vi a0.Wait, vi a0.Keep, vi a0.Queue, vi a0.Size, vi a0.Ring, vi a0.Rate, vi a0.Bad, vi a0.Good, vb a0.Revert, vb a0.Wide] HS rfl underlying23 rfl inf23 rfl rfl) rfl ?_
      obtain ⟨t31, A32, H⟩ := bind_s H
      refine W.e (Y.cl func11 (signalmanref20_Latency.calls A32 HS.j0)) rfl ?_
      rintro _ w ⟨rfl, HS⟩
      replace HS := HS.o0
      refine W.r (X.cmp (decide (t31 = 0)) rfl rfl rfl rfl) rfl (W.as rfl (W.nx (V.ret (At.thenRet ?_))))
      replace HS := HS.pk [2] [0, 1]
      cases H
      exact At.ret1 rfl rfl ⟨_, rfl, rfl, HS⟩
     ·replace H := ite_f c28 H
      refine V.condF (sb (b_f c28)) (V.skip (At.next (V.seq (V.seq (V.region (W.as rfl (W.nx (V.block (V.loop (σ := Int × world_World) (fun kq (st : Int × world_World) w => match st with | (x33, x34) => Sep.St [api_Config.at nb1 a0, world_World.at bt10_0 x34, R] w0 w ∧ signalmanlaw21_WorldCuts.l3 kq a1 x33 x34 = some r ∧ kq ≤ kf27) (fun st => match st with | (x33, x34) => [(1, vi a1), (6, pt bt10_0), (8, vi x33)]) kf27 (0, t10.1.getD default) ⟨rfl, rfl, rfl, tv⟩ ⟨HS, H, Nat.le_refl _⟩ ?_)))))))))
      rintro kq35 ⟨x33, x34⟩ w ⟨HS, H, hk36⟩
      cases kq35 with
      | zero => exact absurd H (by simp [signalmanlaw21_WorldCuts.l3])
      | succ kq35 =>
       simp only [signalmanlaw21_WorldCuts.l3] at H
       refine V.seq (V.seq (V.region (W.mv rfl (W.r (X.cmp (decide (x33 < 4)) rfl rfl rfl rfl) rfl (W.nx ?_)))))
       by_cases c37 : x33 < 4
       ·replace H := ite_t c37 H
        refine V.condT (sb (dT c37)) (V.skip (At.next (V.seq (V.block (V.seq (V.region (W.mv rfl (W.mv rfl (W.r (X.quo rfl rfl (by decide)) rfl (W.mv rfl (W.r (X.rem rfl rfl (by decide)) rfl ?_)))))))))))
        obtain ⟨t38, A39, H⟩ := bind_s H
        replace HS := HS.pm [1, 0, 2]
        refine W.e (Y.cl func12 (world_World_Fault.calls A39 HS.j1)) rfl ?_
        rintro _ w ⟨rfl, HS⟩
        replace HS := HS.o1
        refine W.r (X.not rfl) rfl (W.nx ?_)
        by_cases c40 : t38.1 = true
        ·replace H := ite_t c40 H
         refine V.condF (sb (n_t c40)) (V.skip (At.blockEnd (At.next (V.region (W.mv rfl (W.r (X.add rfl rfl) rfl (W.as rfl (W.nil ?_))))))))
         replace HS := HS.pk [1, 0, 2] []
         exact At.round kq35 (by omega) (w64 (x33 + 1), t38.2) ⟨rfl, rfl, rfl, tv⟩ ⟨HS, H, by omega⟩
        ·replace H := ite_f c40 H
         refine V.condT (sb (n_f (b_f c40))) (V.seq (V.region (W.as rfl (W.nx (V.ret (At.blockRet (At.thenRet (At.thenRet (At.blockRet (At.thenRet ?_))))))))))
         replace HS := HS.pk [2] [0, 1]
         cases H
         exact At.ret1 rfl rfl ⟨_, rfl, rfl, HS⟩
       ·replace H := ite_f c37 H
        refine V.condF (sb (dF c37)) (V.exit (At.thenExit (At.thenExit (At.blockExit (At.next (V.seq (V.region (W.mv rfl ?_))))))))
        refine W.inl (Y.cl (vs := [pt bt10_0, vi (0)]) func13 (calls_enter func13 rfl rfl ?_)) rfl rfl rfl
        refine V.seq (V.region (W.as rfl (W.nx (V.seq (V.seq (V.region (W.mv rfl ?_)))))))
        refine W.inl (Y.cl (vs := [vi (0)]) func53 (calls_enter func53 rfl rfl ?_)) rfl rfl rfl
        refine V.seq (V.region (W.as rfl (W.nx (V.seq (V.region (W.mv rfl (W.r (X.cmp true (by decide) rfl rfl rfl) rfl (W.mv rfl (W.want 5 rfl rfl (W.mv rfl (W.want 5 rfl rfl (W.r (X.cmp true (by decide) rfl rfl rfl) rfl (W.r (X.pickT rfl rfl) rfl (W.as rfl (W.nx (V.ret ?_))))))))))))))))
        refine At.ret1 rfl rfl ⟨_, rfl, ?_⟩
        refine W.r (X.not rfl) rfl (W.nx (V.condF rfl (V.skip (At.next (V.seq (V.region (W.mv rfl (W.mv rfl (W.nc rfl ?_)))))))))
        replace HS := HS.fr 1
        obtain ⟨b16_41, b17_41, b18_41, a19_41, c19_41, d19_41, a20_41, c20_41, d20_41, b21_41, a22_41, c22_41, d22_41, a23_41, c23_41, d23_41, b24_41, a25_41, c25_41, d25_41, a26_41, c26_41, d26_41, b27_41, a28_41, c28_41, d28_41, a29_41, c29_41, d29_41, hi42, HS⟩ := world_World.open HS
        refine W.fa fo83_1 rfl (W.r (X.indexArK 0 rfl underlying76 inf32 rfl rfl (by decide) (by decide)) rfl (W.ld 0 HS underlying32 rfl rfl rfl rfl (W.as rfl (W.nx (V.ret ?_)))))
        refine At.ret1 rfl rfl ⟨_, rfl, ?_⟩
        obtain ⟨t43, A44, H⟩ := bind_s H
        replace HS := HS.pm [1, 0, 2, 3, 4, 5, 6, 7, 8, 9, 10, 11, 12, 13, 14, 15, 16, 17, 18, 19, 20, 21, 22, 23, 24]
        refine W.e (Y.cl func14 (station_Station_Connect.calls A44 HS.j1)) rfl ?_
        rintro _ w ⟨rfl, HS⟩
        replace HS := HS.o1
        refine W.nx (V.seq (V.seq (V.region (W.as rfl (W.nx (V.block ?_))))))
        replace HS := HS.pm [1, 0, 2, 3, 4, 5, 6, 7, 8, 9, 10, 11, 12, 13, 14, 15, 16, 17, 18, 19, 20, 21, 22, 23, 24]
        replace HS := world_World.close tv HS
        refine V.loop (σ := Int × world_World) (fun kq (st : Int × world_World) w => match st with | (x67, x68) => Sep.St [world_World.at bt10_0 x68, api_Config.at nb1 a0, R] w0 w ∧ signalmanlaw21_WorldCuts.l4 kq a1 x67 x68 = some r ∧ kq ≤ kq35) (fun st => match st with | (x67, x68) => [(1, vi a1), (6, pt bt10_0), (9, vi x67)]) kq35 (0, ({ x34 with stations := (t43.2, x34.stations.2) } : world_World)) ⟨rfl, rfl, rfl, tv⟩ ⟨HS, H, Nat.le_refl _⟩ ?_
        rintro kq69 ⟨x67, x68⟩ w ⟨HS, H, hk70⟩
        cases kq69 with
        | zero => exact absurd H (by simp [signalmanlaw21_WorldCuts.l4])
        | succ kq69 =>
         simp only [signalmanlaw21_WorldCuts.l4] at H
         refine V.seq (V.seq (V.region (W.mv rfl (W.mv rfl (W.r (X.cmp (decide (x67 < a1)) rfl rfl rfl rfl) rfl (W.nx ?_))))))
         by_cases c71 : x67 < a1
         ·replace H := ite_t c71 H
          refine V.condT (sb (dT c71)) (V.skip (At.next (V.seq (V.block (V.region (W.mv rfl ?_))))))
          obtain ⟨t72, A73, H⟩ := bind_s H
          refine W.e (Y.cl func15 (world_World_Step.calls A73 HS.j1)) rfl ?_
          rintro _ w ⟨rfl, HS⟩
          replace HS := HS.o1
          refine W.nil (At.blockEnd (At.next (V.region (W.mv rfl (W.r (X.add rfl rfl) rfl (W.as rfl (W.nil ?_)))))))
          exact At.round kq69 (by omega) (w64 (x67 + 1), t72) ⟨rfl, rfl, rfl, tv⟩ ⟨HS, H, by omega⟩
         ·replace H := ite_f c71 H
          refine V.condF (sb (dF c71)) (V.exit (At.thenExit (At.thenExit (At.blockExit (At.next (V.seq (V.seq (V.region (W.as rfl (W.nx (V.block (V.loop (σ := Int) (fun kq (st : Int) w => match st with | x74 => Sep.St [world_World.at bt10_0 x68, api_Config.at nb1 a0, R] w0 w ∧ signalmanlaw21_WorldCuts.l5 kq a1 x68 x74 = some r ∧ kq ≤ kq69) (fun st => match st with | x74 => [(1, vi a1), (6, pt bt10_0), (10, vi x74)]) kq69 (0) ⟨rfl, rfl, rfl, tv⟩ ⟨HS, H, Nat.le_refl _⟩ ?_))))))))))))
          rintro kq75 x74 w ⟨HS, H, hk76⟩
          cases kq75 with
          | zero => exact absurd H (by simp [signalmanlaw21_WorldCuts.l5])
          | succ kq75 =>
           simp only [signalmanlaw21_WorldCuts.l5] at H
           refine V.seq (V.seq (V.region (W.mv rfl (W.r (X.cmp (decide (x74 < 4)) rfl rfl rfl rfl) rfl (W.nx ?_)))))
           by_cases c77 : x74 < 4
           ·replace H := ite_t c77 H
            refine V.condT (sb (dT c77)) (V.skip (At.next (V.seq (V.block (V.seq (V.region (W.mv rfl (W.mv rfl (W.r (X.quo rfl rfl (by decide)) rfl (W.mv rfl (W.r (X.rem rfl rfl (by decide)) rfl ?_)))))))))))
            obtain ⟨b16_78, b17_78, b18_78, a19_78, c19_78, d19_78, a20_78, c20_78, d20_78, b21_78, a22_78, c22_78, d22_78, a23_78, c23_78, d23_78, b24_78, a25_78, c25_78, d25_78, a26_78, c26_78, d26_78, b27_78, a28_78, c28_78, d28_78, a29_78, c29_78, d29_78, hi79, HS⟩ := world_World.open HS
            obtain ⟨t80, A81, H⟩ := bind_s H
            refine W.e (Y.cl func16 (world_World_Got.calls A81 HS.j23)) rfl ?_
            rintro _ w ⟨at80_0, ct80_0, dt80_0, rfl, HS⟩
            replace HS := HS.o25
            refine W.r (X.lenSl underlying35 rfl) rfl (W.r (X.cmp (!(decide ((t80.length : Int) = 0))) rfl rfl rfl rfl) rfl (W.nx ?_))
            by_cases c82 : (t80.length : Int) = 0
            ·replace H := ite_t c82 H
             refine V.condF (sb (n_t (dT c82))) (V.skip (At.blockEnd (At.next (V.region (W.mv rfl (W.r (X.add rfl rfl) rfl (W.as rfl (W.nil ?_))))))))
             replace HS := HS.pm [2, 3, 4, 5, 6, 7, 8, 9, 10, 11, 12, 13, 14, 15, 16, 17, 18, 19, 20, 21, 22, 23, 24, 0, 1, 25, 26]
             replace HS := world_World.close tv HS
             replace HS := HS.pk [0, 3, 4] [1, 2]
             exact At.round kq75 (by omega) (w64 (x74 + 1)) ⟨rfl, rfl, rfl, tv⟩ ⟨HS, H, by omega⟩
            ·replace H := ite_f c82 H
             refine V.condT (sb (n_f (dF c82))) (V.seq (V.region (W.as rfl (W.nx (V.ret (At.blockRet (At.thenRet (At.thenRet (At.blockRet (At.thenRet ?_))))))))))
             replace HS := HS.pk [26] [0, 1, 2, 3, 4, 5, 6, 7, 8, 9, 10, 11, 12, 13, 14, 15, 16, 17, 18, 19, 20, 21, 22, 23, 24, 25]
             cases H
             exact At.ret1 rfl rfl ⟨_, rfl, rfl, HS⟩
           ·replace H := ite_f c77 H
            refine V.condF (sb (dF c77)) (V.exit (At.thenExit (At.thenExit (At.blockExit (At.next (V.seq (V.region (W.mv rfl ?_))))))))
            refine W.inl (Y.cl (vs := [pt bt10_0, vi (1)]) func13 (calls_enter func13 rfl rfl ?_)) rfl rfl rfl
            refine V.seq (V.region (W.as rfl (W.nx (V.seq (V.seq (V.region (W.mv rfl ?_)))))))
            refine W.inl (Y.cl (vs := [vi (1)]) func53 (calls_enter func53 rfl rfl ?_)) rfl rfl rfl
            refine V.seq (V.region (W.as rfl (W.nx (V.seq (V.region (W.mv rfl (W.r (X.cmp true (by decide) rfl rfl rfl) rfl (W.mv rfl (W.want 5 rfl rfl (W.mv rfl (W.want 5 rfl rfl (W.r (X.cmp true (by decide) rfl rfl rfl) rfl (W.r (X.pickT rfl rfl) rfl (W.as rfl (W.nx (V.ret ?_))))))))))))))))
            refine At.ret1 rfl rfl ⟨_, rfl, ?_⟩
            refine W.r (X.not rfl) rfl (W.nx (V.condF rfl (V.skip (At.next (V.seq (V.region (W.mv rfl (W.mv rfl (W.nc rfl ?_)))))))))
            obtain ⟨b16_83, b17_83, b18_83, a19_83, c19_83, d19_83, a20_83, c20_83, d20_83, b21_83, a22_83, c22_83, d22_83, a23_83, c23_83, d23_83, b24_83, a25_83, c25_83, d25_83, a26_83, c26_83, d26_83, b27_83, a28_83, c28_83, d28_83, a29_83, c29_83, d29_83, hi84, HS⟩ := world_World.open HS
            refine W.fa fo83_1 rfl (W.r (X.indexArK 1 rfl underlying76 inf32 rfl rfl (by decide) (by decide)) rfl (W.ld 0 HS underlying32 rfl rfl rfl rfl (W.as rfl (W.nx (V.ret ?_)))))
            refine At.ret1 rfl rfl ⟨_, rfl, ?_⟩
            replace HS := HS.fr 2
            obtain ⟨b16_85, b17_85, b18_85, b22_85, b23_85, b24_85, b32_85, b33_85, b34_85, hi86, HS⟩ := station_Station.open HS
            obtain ⟨t87, A88, H⟩ := bind_s H
            refine W.e (Y.cl func17 (station_Station_Status.calls A88 HS.j10)) rfl ?_
            rintro _ w ⟨rfl, HS⟩
            replace HS := HS.o10
            refine W.r (X.fdK (vi t87.State) rfl (fun _ => by kernel_rfl)) rfl (W.r (X.cmp (decide (t87.State = 0)) rfl rfl rfl rfl) rfl (W.mv rfl ?_))
            by_cases c89 : t87.State = 0
            ·replace H := ite_t c89 H
             refine W.want 76 rfl (sb (dT c89)) (W.mv rfl (W.want 76 rfl (sb (dT c89)) ?_))
             refine W.inl (Y.cl (vs := [pt bt10_0, vi (0)]) func13 (calls_enter func13 rfl rfl ?_)) rfl rfl rfl
             refine V.seq (V.region (W.as rfl (W.nx (V.seq (V.seq (V.region (W.mv rfl ?_)))))))
             refine W.inl (Y.cl (vs := [vi (0)]) func53 (calls_enter func53 rfl rfl ?_)) rfl rfl rfl
             refine V.seq (V.region (W.as rfl (W.nx (V.seq (V.region (W.mv rfl (W.r (X.cmp true (by decide) rfl rfl rfl) rfl (W.mv rfl (W.want 5 rfl rfl (W.mv rfl (W.want 5 rfl rfl (W.r (X.cmp true (by decide) rfl rfl rfl) rfl (W.r (X.pickT rfl rfl) rfl (W.as rfl (W.nx (V.ret ?_))))))))))))))))
             refine At.ret1 rfl rfl ⟨_, rfl, ?_⟩
             refine W.r (X.not rfl) rfl (W.nx (V.condF rfl (V.skip (At.next (V.seq (V.region (W.mv rfl (W.mv rfl (W.nc rfl (W.fa fo83_1 rfl (W.r (X.indexArK 0 rfl underlying76 inf32 rfl rfl (by decide) (by decide)) rfl (W.ld 10 HS underlying32 rfl rfl rfl rfl (W.as rfl (W.nx (V.ret ?_)))))))))))))))
             refine At.ret1 rfl rfl ⟨_, rfl, ?_⟩
             refine W.want 76 rfl (sb (dT c89)) ?_
             replace HS := HS.fr 11
             obtain ⟨b16_90, b17_90, b18_90, b22_90, b23_90, b24_90, b32_90, b33_90, b34_90, hi91, HS⟩ := station_Station.open HS
             obtain ⟨t92, A93, H⟩ := bind_s H
             refine W.e (Y.cl func17 (station_Station_Status.calls A93 HS.j10)) rfl ?_
             rintro _ w ⟨rfl, HS⟩
             replace HS := HS.o10
             refine W.want 76 rfl (sb (dT c89)) (W.r (X.fdK (vi t92.State) rfl (fun _ => by kernel_rfl)) rfl (W.want 76 rfl (sb (dT c89)) (W.r (X.cmp (!(decide (t92.State = 2))) rfl rfl rfl rfl) rfl (W.r (X.pickT (sb (dT c89)) rfl) rfl (W.mv rfl ?_)))))
             by_cases c94 : t92.State = 2
             ·replace H := ite_t c94 H
              refine W.pass 83 rfl (sb (n_t (dT c94))) rfl rfl (W.pass 83 rfl (sb (n_t (dT c94))) rfl rfl (W.pass 83 rfl (sb (n_t (dT c94))) rfl rfl (W.pass 83 rfl (sb (n_t (dT c94))) rfl rfl (W.r (X.pickF (sb (n_t (dT c94))) rfl) rfl (W.as rfl (W.nx (V.ret ?_)))))))
              replace HS := HS.pk [42] [0, 1, 2, 3, 4, 5, 6, 7, 8, 9, 10, 11, 12, 13, 14, 15, 16, 17, 18, 19, 20, 21, 22, 23, 24, 25, 26, 27, 28, 29, 30, 31, 32, 33, 34, 35, 36, 37, 38, 39, 40, 41]
              cases H
              exact At.ret1 rfl rfl ⟨_, rfl, rfl, HS⟩
             ·replace H := ite_f c94 H
              refine W.want 83 rfl (sb (n_f (dF c94))) (W.mv rfl (W.want 83 rfl (sb (n_f (dF c94))) ?_))
              replace HS := station_Station.close tv HS
              replace HS := HS.pm [1, 2, 3, 4, 5, 6, 7, 8, 9, 10, 0, 11, 12, 13, 14, 15, 16, 17, 18, 19, 20, 21, 22, 23, 24, 25, 26, 27, 28, 29, 30, 31, 32, 33]
              replace HS := station_Station.close tv HS
              obtain ⟨t95, A96, H⟩ := bind_s H
              replace HS := HS.pm [2, 1, 0, 3, 4, 5, 6, 7, 8, 9, 10, 11, 12, 13, 14, 15, 16, 17, 18, 19, 20, 21, 22, 23, 24]
              refine W.e (Y.cl func18 (world_World_Now.calls A96 HS.j23)) rfl ?_
              rintro _ w ⟨rfl, HS⟩
              replace HS := HS.o23
              refine W.want 83 rfl (sb (n_f (dF c94))) (W.mv rfl (W.want 83 rfl (sb (n_f (dF c94))) (W.r (X.cmp (decide (t95 = a1)) rfl rfl rfl rfl) rfl (W.r (X.pickT (sb (n_f (dF c94))) rfl) rfl (W.as rfl (W.nx (V.ret ?_)))))))
              replace HS := HS.pk [24] [0, 1, 2, 3, 4, 5, 6, 7, 8, 9, 10, 11, 12, 13, 14, 15, 16, 17, 18, 19, 20, 21, 22, 23]
              cases H
              exact At.ret1 rfl rfl ⟨_, rfl, rfl, HS⟩
            ·replace H := ite_f c89 H
             refine W.pass 76 rfl (sb (dF c89)) rfl rfl (W.pass 76 rfl (sb (dF c89)) rfl rfl (W.pass 76 rfl (sb (dF c89)) rfl rfl (W.pass 76 rfl (sb (dF c89)) rfl rfl (W.pass 76 rfl (sb (dF c89)) rfl rfl (W.r (X.pickF (sb (dF c89)) rfl) rfl (W.mv rfl (W.pass 83 rfl rfl rfl rfl (W.pass 83 rfl rfl rfl rfl (W.pass 83 rfl rfl rfl rfl (W.pass 83 rfl rfl rfl rfl (W.r (X.pickF rfl rfl) rfl (W.as rfl (W.nx (V.ret ?_))))))))))))))
             replace HS := HS.pk [33] [0, 1, 2, 3, 4, 5, 6, 7, 8, 9, 10, 11, 12, 13, 14, 15, 16, 17, 18, 19, 20, 21, 22, 23, 24, 25, 26, 27, 28, 29, 30, 31, 32]
             cases H
             exact At.ret1 rfl rfl ⟨_, rfl, rfl, HS⟩
def api_Config.El : El api_Config := El.iso (El.prod (El.int .i64) (El.prod (El.int .i64) (El.prod (El.int .i64) (El.prod (El.int .i64) (El.prod (El.int .i64) (El.prod (El.int .i64) (El.prod (El.int .i64) (El.prod (El.int .i64) (El.prod (El.int .i64) (El.prod (El.int .i64) (El.prod (El.int .i64) (El.prod (El.int .i64) (El.prod (El.int .i64) (El.prod (El.int .i64) (El.prod El.bool (El.prod El.bool El.unit)))))))))))))))) (fun x => (x.Mode, (x.Modulus, (x.Window, (x.T1, (x.N2, (x.Hold, (x.Wait, (x.Keep, (x.Queue, (x.Size, (x.Ring, (x.Rate, (x.Bad, (x.Good, (x.Revert, (x.Wide, ())))))))))))))))))
theorem api_Config.unpack {c : List Value} {x : api_Config} {L : List As} {w0 w : World} (hs : Sep.St (api_Config.El.p c x :: L) w0 w) : c = [vi x.Mode, vi x.Modulus, vi x.Window, vi x.T1, vi x.N2, vi x.Hold, vi x.Wait, vi x.Keep, vi x.Queue, vi x.Size, vi x.Ring, vi x.Rate, vi x.Bad, vi x.Good, vb x.Revert, vb x.Wide] ∧ Sep.St L w0 w := by
 have hs : Sep.St ((El.prod (El.int .i64) (El.prod (El.int .i64) (El.prod (El.int .i64) (El.prod (El.int .i64) (El.prod (El.int .i64) (El.prod (El.int .i64) (El.prod (El.int .i64) (El.prod (El.int .i64) (El.prod (El.int .i64) (El.prod (El.int .i64) (El.prod (El.int .i64) (El.prod (El.int .i64) (El.prod (El.int .i64) (El.prod (El.int .i64) (El.prod El.bool (El.prod El.bool El.unit)))))))))))))))).p c (x.Mode, (x.Modulus, (x.Window, (x.T1, (x.N2, (x.Hold, (x.Wait, (x.Keep, (x.Queue, (x.Size, (x.Ring, (x.Rate, (x.Bad, (x.Good, (x.Revert, (x.Wide, ())))))))))))))))) :: L) w0 w := hs
 obtain ⟨c0, r0, e0, hs⟩ := St.prod_open hs
 have hs : Sep.St ((El.int .i64).p c0 x.Mode :: (El.prod (El.int .i64) (El.prod (El.int .i64) (El.prod (El.int .i64) (El.prod (El.int .i64) (El.prod (El.int .i64) (El.prod (El.int .i64) (El.prod (El.int .i64) (El.prod (El.int .i64) (El.prod (El.int .i64) (El.prod (El.int .i64) (El.prod (El.int .i64) (El.prod (El.int .i64) (El.prod (El.int .i64) (El.prod El.bool (El.prod El.bool El.unit))))))))))))))).p r0 (x.Modulus, (x.Window, (x.T1, (x.N2, (x.Hold, (x.Wait, (x.Keep, (x.Queue, (x.Size, (x.Ring, (x.Rate, (x.Bad, (x.Good, (x.Revert, (x.Wide, ()))))))))))))))) :: L) w0 w := hs
 obtain ⟨q0, hs⟩ := St.int_open hs
 have hs : Sep.St ((El.prod (El.int .i64) (El.prod (El.int .i64) (El.prod (El.int .i64) (El.prod (El.int .i64) (El.prod (El.int .i64) (El.prod (El.int .i64) (El.prod (El.int .i64) (El.prod (El.int .i64) (El.prod (El.int .i64) (El.prod (El.int .i64) (El.prod (El.int .i64) (El.prod (El.int .i64) (El.prod (El.int .i64) (El.prod El.bool (El.prod El.bool El.unit))))))))))))))).p r0 (x.Modulus, (x.Window, (x.T1, (x.N2, (x.Hold, (x.Wait, (x.Keep, (x.Queue, (x.Size, (x.Ring, (x.Rate, (x.Bad, (x.Good, (x.Revert, (x.Wide, ()))))))))))))))) :: L) w0 w := hs
 obtain ⟨c1, r1, e1, hs⟩ := St.prod_open hs
 have hs : Sep.St ((El.int .i64).p c1 x.Modulus :: (El.prod (El.int .i64) (El.prod (El.int .i64) (El.prod (El.int .i64) (El.prod (El.int .i64) (El.prod (El.int .i64) (El.prod (El.int .i64) (El.prod (El.int .i64) (El.prod (El.int .i64) (El.prod (El.int .i64) (El.prod (El.int .i64) (El.prod (El.int .i64) (El.prod (El.int .i64) (El.prod El.bool (El.prod El.bool El.unit)))))))))))))).p r1 (x.Window, (x.T1, (x.N2, (x.Hold, (x.Wait, (x.Keep, (x.Queue, (x.Size, (x.Ring, (x.Rate, (x.Bad, (x.Good, (x.Revert, (x.Wide, ())))))))))))))) :: L) w0 w := hs
 obtain ⟨q1, hs⟩ := St.int_open hs
 have hs : Sep.St ((El.prod (El.int .i64) (El.prod (El.int .i64) (El.prod (El.int .i64) (El.prod (El.int .i64) (El.prod (El.int .i64) (El.prod (El.int .i64) (El.prod (El.int .i64) (El.prod (El.int .i64) (El.prod (El.int .i64) (El.prod (El.int .i64) (El.prod (El.int .i64) (El.prod (El.int .i64) (El.prod El.bool (El.prod El.bool El.unit)))))))))))))).p r1 (x.Window, (x.T1, (x.N2, (x.Hold, (x.Wait, (x.Keep, (x.Queue, (x.Size, (x.Ring, (x.Rate, (x.Bad, (x.Good, (x.Revert, (x.Wide, ())))))))))))))) :: L) w0 w := hs
 obtain ⟨c2, r2, e2, hs⟩ := St.prod_open hs
 have hs : Sep.St ((El.int .i64).p c2 x.Window :: (El.prod (El.int .i64) (El.prod (El.int .i64) (El.prod (El.int .i64) (El.prod (El.int .i64) (El.prod (El.int .i64) (El.prod (El.int .i64) (El.prod (El.int .i64) (El.prod (El.int .i64) (El.prod (El.int .i64) (El.prod (El.int .i64) (El.prod (El.int .i64) (El.prod El.bool (El.prod El.bool El.unit))))))))))))).p r2 (x.T1, (x.N2, (x.Hold, (x.Wait, (x.Keep, (x.Queue, (x.Size, (x.Ring, (x.Rate, (x.Bad, (x.Good, (x.Revert, (x.Wide, ()))))))))))))) :: L) w0 w := hs
 obtain ⟨q2, hs⟩ := St.int_open hs
 have hs : Sep.St ((El.prod (El.int .i64) (El.prod (El.int .i64) (El.prod (El.int .i64) (El.prod (El.int .i64) (El.prod (El.int .i64) (El.prod (El.int .i64) (El.prod (El.int .i64) (El.prod (El.int .i64) (El.prod (El.int .i64) (El.prod (El.int .i64) (El.prod (El.int .i64) (El.prod El.bool (El.prod El.bool El.unit))))))))))))).p r2 (x.T1, (x.N2, (x.Hold, (x.Wait, (x.Keep, (x.Queue, (x.Size, (x.Ring, (x.Rate, (x.Bad, (x.Good, (x.Revert, (x.Wide, ()))))))))))))) :: L) w0 w := hs
 obtain ⟨c3, r3, e3, hs⟩ := St.prod_open hs
 have hs : Sep.St ((El.int .i64).p c3 x.T1 :: (El.prod (El.int .i64) (El.prod (El.int .i64) (El.prod (El.int .i64) (El.prod (El.int .i64) (El.prod (El.int .i64) (El.prod (El.int .i64) (El.prod (El.int .i64) (El.prod (El.int .i64) (El.prod (El.int .i64) (El.prod (El.int .i64) (El.prod El.bool (El.prod El.bool El.unit)))))))))))).p r3 (x.N2, (x.Hold, (x.Wait, (x.Keep, (x.Queue, (x.Size, (x.Ring, (x.Rate, (x.Bad, (x.Good, (x.Revert, (x.Wide, ())))))))))))) :: L) w0 w := hs
 obtain ⟨q3, hs⟩ := St.int_open hs
 have hs : Sep.St ((El.prod (El.int .i64) (El.prod (El.int .i64) (El.prod (El.int .i64) (El.prod (El.int .i64) (El.prod (El.int .i64) (El.prod (El.int .i64) (El.prod (El.int .i64) (El.prod (El.int .i64) (El.prod (El.int .i64) (El.prod (El.int .i64) (El.prod El.bool (El.prod El.bool El.unit)))))))))))).p r3 (x.N2, (x.Hold, (x.Wait, (x.Keep, (x.Queue, (x.Size, (x.Ring, (x.Rate, (x.Bad, (x.Good, (x.Revert, (x.Wide, ())))))))))))) :: L) w0 w := hs
 obtain ⟨c4, r4, e4, hs⟩ := St.prod_open hs
 have hs : Sep.St ((El.int .i64).p c4 x.N2 :: (El.prod (El.int .i64) (El.prod (El.int .i64) (El.prod (El.int .i64) (El.prod (El.int .i64) (El.prod (El.int .i64) (El.prod (El.int .i64) (El.prod (El.int .i64) (El.prod (El.int .i64) (El.prod (El.int .i64) (El.prod El.bool (El.prod El.bool El.unit))))))))))).p r4 (x.Hold, (x.Wait, (x.Keep, (x.Queue, (x.Size, (x.Ring, (x.Rate, (x.Bad, (x.Good, (x.Revert, (x.Wide, ()))))))))))) :: L) w0 w := hs
 obtain ⟨q4, hs⟩ := St.int_open hs
 have hs : Sep.St ((El.prod (El.int .i64) (El.prod (El.int .i64) (El.prod (El.int .i64) (El.prod (El.int .i64) (El.prod (El.int .i64) (El.prod (El.int .i64) (El.prod (El.int .i64) (El.prod (El.int .i64) (El.prod (El.int .i64) (El.prod El.bool (El.prod El.bool El.unit))))))))))).p r4 (x.Hold, (x.Wait, (x.Keep, (x.Queue, (x.Size, (x.Ring, (x.Rate, (x.Bad, (x.Good, (x.Revert, (x.Wide, ()))))))))))) :: L) w0 w := hs
 obtain ⟨c5, r5, e5, hs⟩ := St.prod_open hs
 have hs : Sep.St ((El.int .i64).p c5 x.Hold :: (El.prod (El.int .i64) (El.prod (El.int .i64) (El.prod (El.int .i64) (El.prod (El.int .i64) (El.prod (El.int .i64) (El.prod (El.int .i64) (El.prod (El.int .i64) (El.prod (El.int .i64) (El.prod El.bool (El.prod El.bool El.unit)))))))))).p r5 (x.Wait, (x.Keep, (x.Queue, (x.Size, (x.Ring, (x.Rate, (x.Bad, (x.Good, (x.Revert, (x.Wide, ())))))))))) :: L) w0 w := hs
 obtain ⟨q5, hs⟩ := St.int_open hs
 have hs : Sep.St ((El.prod (El.int .i64) (El.prod (El.int .i64) (El.prod (El.int .i64) (El.prod (El.int .i64) (El.prod (El.int .i64) (El.prod (El.int .i64) (El.prod (El.int .i64) (El.prod (El.int .i64) (El.prod El.bool (El.prod El.bool El.unit)))))))))).p r5 (x.Wait, (x.Keep, (x.Queue, (x.Size, (x.Ring, (x.Rate, (x.Bad, (x.Good, (x.Revert, (x.Wide, ())))))))))) :: L) w0 w := hs
 obtain ⟨c6, r6, e6, hs⟩ := St.prod_open hs
 have hs : Sep.St ((El.int .i64).p c6 x.Wait :: (El.prod (El.int .i64) (El.prod (El.int .i64) (El.prod (El.int .i64) (El.prod (El.int .i64) (El.prod (El.int .i64) (El.prod (El.int .i64) (El.prod (El.int .i64) (El.prod El.bool (El.prod El.bool El.unit))))))))).p r6 (x.Keep, (x.Queue, (x.Size, (x.Ring, (x.Rate, (x.Bad, (x.Good, (x.Revert, (x.Wide, ()))))))))) :: L) w0 w := hs
 obtain ⟨q6, hs⟩ := St.int_open hs
 have hs : Sep.St ((El.prod (El.int .i64) (El.prod (El.int .i64) (El.prod (El.int .i64) (El.prod (El.int .i64) (El.prod (El.int .i64) (El.prod (El.int .i64) (El.prod (El.int .i64) (El.prod El.bool (El.prod El.bool El.unit))))))))).p r6 (x.Keep, (x.Queue, (x.Size, (x.Ring, (x.Rate, (x.Bad, (x.Good, (x.Revert, (x.Wide, ()))))))))) :: L) w0 w := hs
 obtain ⟨c7, r7, e7, hs⟩ := St.prod_open hs
 have hs : Sep.St ((El.int .i64).p c7 x.Keep :: (El.prod (El.int .i64) (El.prod (El.int .i64) (El.prod (El.int .i64) (El.prod (El.int .i64) (El.prod (El.int .i64) (El.prod (El.int .i64) (El.prod El.bool (El.prod El.bool El.unit)))))))).p r7 (x.Queue, (x.Size, (x.Ring, (x.Rate, (x.Bad, (x.Good, (x.Revert, (x.Wide, ())))))))) :: L) w0 w := hs
 obtain ⟨q7, hs⟩ := St.int_open hs
 have hs : Sep.St ((El.prod (El.int .i64) (El.prod (El.int .i64) (El.prod (El.int .i64) (El.prod (El.int .i64) (El.prod (El.int .i64) (El.prod (El.int .i64) (El.prod El.bool (El.prod El.bool El.unit)))))))).p r7 (x.Queue, (x.Size, (x.Ring, (x.Rate, (x.Bad, (x.Good, (x.Revert, (x.Wide, ())))))))) :: L) w0 w := hs
 obtain ⟨c8, r8, e8, hs⟩ := St.prod_open hs
 have hs : Sep.St ((El.int .i64).p c8 x.Queue :: (El.prod (El.int .i64) (El.prod (El.int .i64) (El.prod (El.int .i64) (El.prod (El.int .i64) (El.prod (El.int .i64) (El.prod El.bool (El.prod El.bool El.unit))))))).p r8 (x.Size, (x.Ring, (x.Rate, (x.Bad, (x.Good, (x.Revert, (x.Wide, ()))))))) :: L) w0 w := hs
 obtain ⟨q8, hs⟩ := St.int_open hs
 have hs : Sep.St ((El.prod (El.int .i64) (El.prod (El.int .i64) (El.prod (El.int .i64) (El.prod (El.int .i64) (El.prod (El.int .i64) (El.prod El.bool (El.prod El.bool El.unit))))))).p r8 (x.Size, (x.Ring, (x.Rate, (x.Bad, (x.Good, (x.Revert, (x.Wide, ()))))))) :: L) w0 w := hs
 obtain ⟨c9, r9, e9, hs⟩ := St.prod_open hs
 have hs : Sep.St ((El.int .i64).p c9 x.Size :: (El.prod (El.int .i64) (El.prod (El.int .i64) (El.prod (El.int .i64) (El.prod (El.int .i64) (El.prod El.bool (El.prod El.bool El.unit)))))).p r9 (x.Ring, (x.Rate, (x.Bad, (x.Good, (x.Revert, (x.Wide, ())))))) :: L) w0 w := hs
 obtain ⟨q9, hs⟩ := St.int_open hs
 have hs : Sep.St ((El.prod (El.int .i64) (El.prod (El.int .i64) (El.prod (El.int .i64) (El.prod (El.int .i64) (El.prod El.bool (El.prod El.bool El.unit)))))).p r9 (x.Ring, (x.Rate, (x.Bad, (x.Good, (x.Revert, (x.Wide, ())))))) :: L) w0 w := hs
 obtain ⟨c10, r10, e10, hs⟩ := St.prod_open hs
 have hs : Sep.St ((El.int .i64).p c10 x.Ring :: (El.prod (El.int .i64) (El.prod (El.int .i64) (El.prod (El.int .i64) (El.prod El.bool (El.prod El.bool El.unit))))).p r10 (x.Rate, (x.Bad, (x.Good, (x.Revert, (x.Wide, ()))))) :: L) w0 w := hs
 obtain ⟨q10, hs⟩ := St.int_open hs
 have hs : Sep.St ((El.prod (El.int .i64) (El.prod (El.int .i64) (El.prod (El.int .i64) (El.prod El.bool (El.prod El.bool El.unit))))).p r10 (x.Rate, (x.Bad, (x.Good, (x.Revert, (x.Wide, ()))))) :: L) w0 w := hs
 obtain ⟨c11, r11, e11, hs⟩ := St.prod_open hs
 have hs : Sep.St ((El.int .i64).p c11 x.Rate :: (El.prod (El.int .i64) (El.prod (El.int .i64) (El.prod El.bool (El.prod El.bool El.unit)))).p r11 (x.Bad, (x.Good, (x.Revert, (x.Wide, ())))) :: L) w0 w := hs
 obtain ⟨q11, hs⟩ := St.int_open hs
 have hs : Sep.St ((El.prod (El.int .i64) (El.prod (El.int .i64) (El.prod El.bool (El.prod El.bool El.unit)))).p r11 (x.Bad, (x.Good, (x.Revert, (x.Wide, ())))) :: L) w0 w := hs
 obtain ⟨c12, r12, e12, hs⟩ := St.prod_open hs
 have hs : Sep.St ((El.int .i64).p c12 x.Bad :: (El.prod (El.int .i64) (El.prod El.bool (El.prod El.bool El.unit))).p r12 (x.Good, (x.Revert, (x.Wide, ()))) :: L) w0 w := hs
 obtain ⟨q12, hs⟩ := St.int_open hs
 have hs : Sep.St ((El.prod (El.int .i64) (El.prod El.bool (El.prod El.bool El.unit))).p r12 (x.Good, (x.Revert, (x.Wide, ()))) :: L) w0 w := hs
 obtain ⟨c13, r13, e13, hs⟩ := St.prod_open hs
 have hs : Sep.St ((El.int .i64).p c13 x.Good :: (El.prod El.bool (El.prod El.bool El.unit)).p r13 (x.Revert, (x.Wide, ())) :: L) w0 w := hs
 obtain ⟨q13, hs⟩ := St.int_open hs
 have hs : Sep.St ((El.prod El.bool (El.prod El.bool El.unit)).p r13 (x.Revert, (x.Wide, ())) :: L) w0 w := hs
 obtain ⟨c14, r14, e14, hs⟩ := St.prod_open hs
 have hs : Sep.St (El.bool.p c14 x.Revert :: (El.prod El.bool El.unit).p r14 (x.Wide, ()) :: L) w0 w := hs
 obtain ⟨q14, hs⟩ := St.bool_open hs
 have hs : Sep.St ((El.prod El.bool El.unit).p r14 (x.Wide, ()) :: L) w0 w := hs
 obtain ⟨c15, r15, e15, hs⟩ := St.prod_open hs
 have hs : Sep.St (El.bool.p c15 x.Wide :: El.unit.p r15 () :: L) w0 w := hs
 obtain ⟨q15, hs⟩ := St.bool_open hs
 have hs : Sep.St (El.unit.p r15 () :: L) w0 w := hs
 obtain ⟨qu, hs⟩ := St.unit_open hs
 exact ⟨by rw [e0, q0, e1, q1, e2, q2, e3, q3, e4, q4, e5, q5, e6, q6, e7, q7, e8, q8, e9, q9, e10, q10, e11, q11, e12, q12, e13, q13, e14, q14, e15, q15, qu]; rfl, hs⟩
theorem api_Config.pack  {x : api_Config} {L : List As} {w0 w : World} (hs : Sep.St L w0 w) : Sep.St (api_Config.El.p [vi x.Mode, vi x.Modulus, vi x.Window, vi x.T1, vi x.N2, vi x.Hold, vi x.Wait, vi x.Keep, vi x.Queue, vi x.Size, vi x.Ring, vi x.Rate, vi x.Bad, vi x.Good, vb x.Revert, vb x.Wide] x :: L) w0 w := by
 have h1 := St.join (m := []) hs
 exact h1.mono fun h hh => ⟨[vi x.Mode], [vi x.Modulus, vi x.Window, vi x.T1, vi x.N2, vi x.Hold, vi x.Wait, vi x.Keep, vi x.Queue, vi x.Size, vi x.Ring, vi x.Rate, vi x.Bad, vi x.Good, vb x.Revert, vb x.Wide], rfl, rfl, ⟨[vi x.Modulus], [vi x.Window, vi x.T1, vi x.N2, vi x.Hold, vi x.Wait, vi x.Keep, vi x.Queue, vi x.Size, vi x.Ring, vi x.Rate, vi x.Bad, vi x.Good, vb x.Revert, vb x.Wide], rfl, rfl, ⟨[vi x.Window], [vi x.T1, vi x.N2, vi x.Hold, vi x.Wait, vi x.Keep, vi x.Queue, vi x.Size, vi x.Ring, vi x.Rate, vi x.Bad, vi x.Good, vb x.Revert, vb x.Wide], rfl, rfl, ⟨[vi x.T1], [vi x.N2, vi x.Hold, vi x.Wait, vi x.Keep, vi x.Queue, vi x.Size, vi x.Ring, vi x.Rate, vi x.Bad, vi x.Good, vb x.Revert, vb x.Wide], rfl, rfl, ⟨[vi x.N2], [vi x.Hold, vi x.Wait, vi x.Keep, vi x.Queue, vi x.Size, vi x.Ring, vi x.Rate, vi x.Bad, vi x.Good, vb x.Revert, vb x.Wide], rfl, rfl, ⟨[vi x.Hold], [vi x.Wait, vi x.Keep, vi x.Queue, vi x.Size, vi x.Ring, vi x.Rate, vi x.Bad, vi x.Good, vb x.Revert, vb x.Wide], rfl, rfl, ⟨[vi x.Wait], [vi x.Keep, vi x.Queue, vi x.Size, vi x.Ring, vi x.Rate, vi x.Bad, vi x.Good, vb x.Revert, vb x.Wide], rfl, rfl, ⟨[vi x.Keep], [vi x.Queue, vi x.Size, vi x.Ring, vi x.Rate, vi x.Bad, vi x.Good, vb x.Revert, vb x.Wide], rfl, rfl, ⟨[vi x.Queue], [vi x.Size, vi x.Ring, vi x.Rate, vi x.Bad, vi x.Good, vb x.Revert, vb x.Wide], rfl, rfl, ⟨[vi x.Size], [vi x.Ring, vi x.Rate, vi x.Bad, vi x.Good, vb x.Revert, vb x.Wide], rfl, rfl, ⟨[vi x.Ring], [vi x.Rate, vi x.Bad, vi x.Good, vb x.Revert, vb x.Wide], rfl, rfl, ⟨[vi x.Rate], [vi x.Bad, vi x.Good, vb x.Revert, vb x.Wide], rfl, rfl, ⟨[vi x.Bad], [vi x.Good, vb x.Revert, vb x.Wide], rfl, rfl, ⟨[vi x.Good], [vb x.Revert, vb x.Wide], rfl, rfl, ⟨[vb x.Revert], [vb x.Wide], rfl, rfl, ⟨[vb x.Wide], [], rfl, rfl, rfl⟩⟩⟩⟩⟩⟩⟩⟩⟩⟩⟩⟩⟩⟩⟩⟩
def signalmanlaw21_WorldCuts.Pure : Prop := ∀ (a0 : api_Config) (a1 : Int), ((Lit.int .i64 a0.Mode).wf = true ∧ ((Lit.int .i64 a0.Modulus).wf = true ∧ ((Lit.int .i64 a0.Window).wf = true ∧ ((Lit.int .i64 a0.T1).wf = true ∧ ((Lit.int .i64 a0.N2).wf = true ∧ ((Lit.int .i64 a0.Hold).wf = true ∧ ((Lit.int .i64 a0.Wait).wf = true ∧ ((Lit.int .i64 a0.Keep).wf = true ∧ ((Lit.int .i64 a0.Queue).wf = true ∧ ((Lit.int .i64 a0.Size).wf = true ∧ ((Lit.int .i64 a0.Ring).wf = true ∧ ((Lit.int .i64 a0.Rate).wf = true ∧ ((Lit.int .i64 a0.Bad).wf = true ∧ ((Lit.int .i64 a0.Good).wf = true ∧ (True ∧ (True ∧ True)))))))))))))))) → (Lit.int .i64 a1).wf = true → ∃ k, signalmanlaw21_WorldCuts.f k a0 a1 = some true
end Go.Proofs.YtaejcbpijdacmaaGreat
