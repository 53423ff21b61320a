/- StationTwins: the functions that its law reaches, as plain functions, and that the machine's calls come to what these say. Conditions: those that stand at each. -/
import Derived.Test.YtodbopebbmplaaaGreatRunStationTwinsP4
set_option linter.all false
set_option maxRecDepth 100000
set_option maxHeartbeats 4000000
set_option synthInstance.maxSize 100000
set_option synthInstance.maxHeartbeats 1000000
namespace Go.Proofs.YtodbopebbmplaaaGreat
open Go.RowKit Go.Proofs.YtodbopebbmplaaaGreat.Sep Go.Proofs.YtodbopebbmplaaaGreat.Walk
mutual
def station_Station_came.j0 (k : Nat) (a0 : station_Station) (a1 : Int) (a2 : List Int) (x7 : Bool) : Option station_Station := (if x7 = true then some a0 else (if 0 ≤ (1 : Int) ∧ (1 : Int) < (a2.length : Int) then (if 0 ≤ (2 : Int) ∧ (2 : Int) < (a2.length : Int) then (if 0 ≤ (3 : Int) ∧ (3 : Int) < (a2.length : Int) then (if 0 ≤ (4 : Int) ∧ (4 : Int) < (a2.length : Int) then ((twins_Table_Fresh.f k a0.twins (ior .u32 (ior .u32 (ior .u32 (IntKind.u32.wrap ((IntKind.u32.wrap (a2.getD (1 : Int).toNat 0)) * 2 ^ (min (24 : Int).toNat IntKind.u32.bits))) (IntKind.u32.wrap ((IntKind.u32.wrap (a2.getD (2 : Int).toNat 0)) * 2 ^ (min (16 : Int).toNat IntKind.u32.bits)))) (IntKind.u32.wrap ((IntKind.u32.wrap (a2.getD (3 : Int).toNat 0)) * 2 ^ (min (8 : Int).toNat IntKind.u32.bits)))) (IntKind.u32.wrap (a2.getD (4 : Int).toNat 0)))).bind fun t16 => (if t16.1 = true then (if 0 ≤ (5 : Int) ∧ (5 : Int) ≤ (a2.length : Int) ∧ (a2.length : Int) ≤ (a2.length : Int) then ((arq_Arq_Input.f k a0.arq (cut a2 (5 : Int) (a2.length : Int))).bind fun t20 => some ({ a0 with arq := t20, twins := t16.2 } : station_Station)) else none) else (if 0 ≤ a1 ∧ a1 < 2 then (if a1 = 0 then some (({ a0 with twins := t16.2, sides := (({ a0.sides.1 with counts := ({ a0.sides.1.counts with Twins := station_one.f a0.sides.1.counts.Twins } : api_Counts) } : station_side), a0.sides.2) } : station_Station)) else some (({ a0 with twins := t16.2, sides := (a0.sides.1, ({ a0.sides.2 with counts := ({ a0.sides.2.counts with Twins := station_one.f a0.sides.2.counts.Twins } : api_Counts) } : station_side)) } : station_Station))) else none))) else none) else none) else none) else none))
def station_Station_came.j1 (a0 : station_Station) (a2 : List Int) (x34 : Bool) : Option station_Station := (if x34 = true then (if 0 ≤ (1 : Int) ∧ (1 : Int) ≤ (a2.length : Int) ∧ (a2.length : Int) ≤ (a2.length : Int) then ((kcode_Read.f (cut a2 (1 : Int) (a2.length : Int))).bind fun t38 => (if t38.2.2 = 0 then ((aps_Aps_Remote.f a0.aps t38.1).bind fun t43 => some ({ a0 with aps := t43 } : station_Station)) else some a0)) else none) else some a0)
def station_Station_came.j2 (a0 : station_Station) (a2 : List Int) (x46 : Bool) : Option station_Station := (if x46 = true then (if 0 ≤ (1 : Int) ∧ (1 : Int) ≤ (a2.length : Int) ∧ (a2.length : Int) ≤ (a2.length : Int) then ((kcode_Read.f (cut a2 (1 : Int) (a2.length : Int))).bind fun t50 => (if t50.2.2 = 0 then ((aps_Aps_Remote.f a0.aps t50.1).bind fun t55 => some ({ a0 with aps := t55 } : station_Station)) else some a0)) else none) else some a0)
end
def station_Station_came.f (k : Nat) (a0 : station_Station) (a1 : Int) (a2 : List Int) : Option station_Station := (if 0 ≤ (0 : Int) ∧ (0 : Int) < (a2.length : Int) then (if (a2.getD (0 : Int).toNat 0) = 0 then (if (a2.length : Int) ≥ 5 then ((station_Station_twice.f a0).bind fun t27 => (if t27 = true then (station_Station_came.j0 k a0 a1 a2 false) else ((aps_Aps_Line.f a0.aps).bind fun t32 => (station_Station_came.j0 k a0 a1 a2 (!(decide (a1 = t32))))))) else (if (a2.getD (0 : Int).toNat 0) = 1 then (station_Station_came.j1 a0 a2 (decide (a1 = 1))) else (station_Station_came.j1 a0 a2 false))) else (if (a2.getD (0 : Int).toNat 0) = 1 then (station_Station_came.j2 a0 a2 (decide (a1 = 1))) else (station_Station_came.j2 a0 a2 false))) else none)
theorem station_Station_came.calls {k : Nat} {a0 : station_Station} {a1 : Int} {a2 : List Int} {R : As} {w0 w : World} {b0 : Nat} {sa2 : Option Addr} {sc2 : Nat} {r : station_Station} (H : station_Station_came.f k a0 a1 a2 = some r) (HS : Sep.St [station_Station.at b0 a0, R] w0 w) (hr2 : rdC R 1 (.slice sa2 a2.length sc2) a2.length (a2.map (Value.int .u8))) : Calls Tryz.prog 65 #[Value.pointer (some ⟨b0, 0, none⟩), Value.int .i64 a1, Value.slice sa2 a2.length sc2] w (Ret fun u w => u = Value.tuple #[] ∧ Sep.St [station_Station.at b0 r, R] w0 w) := by
 unfold station_Station_came.f at H
 refine calls_enter Tryz.func65 rfl rfl ?_
 have H : _ = some r := H
 refine V.block (V.seq (V.region (W.mv rfl ?_)))
 obtain ⟨c2, H⟩ := ite_n H
 obtain ⟨eb3, eo4, hh⟩ := (rdC.at 1 hr2 HS rfl).some (by decide) c2.1 c2.2; subst hh
 refine W.r (X.indexSl Tryz.underlying32 inf5 rfl rfl c2.1 c2.2) rfl (W.r (X.load Tryz.underlying5 rfl rfl ((rdC.at 1 hr2 HS rfl).cellI c2.1 c2.2)) rfl (W.r (X.cmp (decide ((a2.getD (0 : Int).toNat 0) = 0)) rfl rfl rfl rfl) rfl (W.mv rfl ?_)))
 by_cases c5 : (a2.getD (0 : Int).toNat 0) = 0
 ·replace H := ite_t c5 H
  refine W.want 15 rfl (sb (decide_eq_true c5)) (W.mv rfl (W.want 15 rfl (sb (decide_eq_true c5)) (W.r (X.lenSl Tryz.underlying32 rfl) rfl (W.want 15 rfl (sb (decide_eq_true c5)) (W.r (X.cmp (decide ((a2.length : Int) ≥ 5)) rfl rfl rfl rfl) rfl (W.r (X.pickT (sb (decide_eq_true c5)) rfl) rfl (W.as rfl (W.nx ?_))))))))
  by_cases c6 : (a2.length : Int) ≥ 5
  ·replace H := ite_t c6 H
   refine V.condT (sb (decide_eq_true c6)) (V.seq (V.meet (σ := Bool) (fun st w => match st with | x7 => Sep.St [station_Station.at b0 a0, R] w0 w ∧ ∃ kf8, kf8 ≤ k ∧ station_Station_came.j0 kf8 a0 a1 a2 x7 = some r) (fun st => match st with | x7 => [(0, Value.pointer (some ⟨b0, 0, none⟩)), (1, Value.int .i64 a1), (2, Value.slice (some ⟨eb3, eo4, none⟩) a2.length sc2), (31, Value.bool x7)]) ?_ ?_))
   ·refine V.region (W.mv rfl ?_)
    obtain ⟨b16_25, b17_25, b18_25, b22_25, b23_25, b24_25, b32_25, b33_25, b34_25, hi26, HS⟩ := station_Station.open HS
    obtain ⟨t27, A28, H⟩ := bind_s H
    refine W.e (Y.cl Tryz.func49 (station_Station_twice.calls A28 HS.j10)) rfl ?_
    rintro _ w ⟨rfl, HS⟩
    replace HS := HS.o10
    refine W.r (X.not rfl) rfl (W.mv rfl ?_)
    by_cases c29 : t27 = true
    ·replace H := ite_t c29 H
     refine W.pass 23 rfl (sb (n_t c29)) rfl rfl (W.pass 23 rfl (sb (n_t c29)) rfl rfl (W.pass 23 rfl (sb (n_t c29)) rfl rfl (W.pass 23 rfl (sb (n_t c29)) rfl rfl (W.pass 23 rfl (sb (n_t c29)) rfl rfl (W.pass 23 rfl (sb (n_t c29)) rfl rfl (W.pass 23 rfl (sb (n_t c29)) rfl rfl (W.r (X.pickF (sb (n_t c29)) rfl) rfl (W.nil ?_))))))))
     replace HS := station_Station.close trivial HS
     exact At.meet false ⟨rfl, rfl, rfl, rfl, trivial⟩ ⟨HS, k, by omega, H⟩
    ·replace H := ite_f c29 H
     refine W.want 23 rfl (sb (n_f (b_f c29))) (W.mv rfl (W.want 23 rfl (sb (n_f (b_f c29))) (W.mv rfl (W.want 23 rfl (sb (n_f (b_f c29))) (W.nc rfl (W.want 23 rfl (sb (n_f (b_f c29))) (W.fa fo87_2 rfl (W.want 23 rfl (sb (n_f (b_f c29))) (W.ld 0 HS Tryz.underlying75 rfl rfl rfl rfl (W.want 23 rfl (sb (n_f (b_f c29))) ?_))))))))))
     replace HS := HS.fr 2
     obtain ⟨hi31, HS⟩ := aps_Aps.open HS
     obtain ⟨t32, A33, H⟩ := bind_s H
     refine W.e (Y.cl Tryz.func48 (aps_Aps_Line.calls A33 HS.j1)) rfl ?_
     rintro _ w ⟨rfl, HS⟩
     replace HS := HS.o1
     refine W.want 23 rfl (sb (n_f (b_f c29))) (W.r (X.cmp (!(decide (a1 = t32))) rfl rfl rfl rfl) rfl (W.r (X.pickT (sb (n_f (b_f c29))) rfl) rfl (W.nil ?_)))
     replace HS := aps_Aps.close trivial HS
     replace HS := HS.pm [1, 2, 0, 3, 4, 5, 6, 7, 8, 9, 10]
     replace HS := station_Station.close trivial HS
     exact At.meet (!(decide (a1 = t32))) ⟨rfl, rfl, rfl, rfl, trivial⟩ ⟨HS, k, by omega, H⟩
   ·rintro x7 w ⟨HS, kf8, hkkf8, H⟩
    unfold station_Station_came.j0 at H
    by_cases c9 : x7 = true
    ·replace H := ite_t c9 H
     refine V.condT (sb c9) (V.ret (At.thenRet (At.blockRet ?_)))
     cases H
     exact At.ret0 rfl ⟨_, rfl, rfl, HS⟩
    ·replace H := ite_f c9 H
     refine V.condF (sb (b_f c9)) (V.skip (At.next (V.seq ?_)))
     obtain ⟨c10, H⟩ := ite_n H
     obtain ⟨c11, H⟩ := ite_n H
     obtain ⟨c12, H⟩ := ite_n H
     obtain ⟨c13, H⟩ := ite_n H
     refine V.dr [] [] [(32, Value.slice (some ⟨eb3, eo4, none⟩) a2.length sc2), (33, Value.pointer (some ⟨eb3, eo4 + (1 : Int).toNat * 1, none⟩)), (34, Value.int .u8 (a2.getD (1 : Int).toNat 0)), (35, Value.int .u32 (IntKind.u32.wrap (a2.getD (1 : Int).toNat 0))), (36, Value.int .u32 (IntKind.u32.wrap ((IntKind.u32.wrap (a2.getD (1 : Int).toNat 0)) * 2 ^ (min (24 : Int).toNat IntKind.u32.bits)))), (37, Value.slice (some ⟨eb3, eo4, none⟩) a2.length sc2), (38, Value.pointer (some ⟨eb3, eo4 + (2 : Int).toNat * 1, none⟩)), (39, Value.int .u8 (a2.getD (2 : Int).toNat 0)), (40, Value.int .u32 (IntKind.u32.wrap (a2.getD (2 : Int).toNat 0))), (41, Value.int .u32 (IntKind.u32.wrap ((IntKind.u32.wrap (a2.getD (2 : Int).toNat 0)) * 2 ^ (min (16 : Int).toNat IntKind.u32.bits)))), (42, Value.int .u32 (ior .u32 (IntKind.u32.wrap ((IntKind.u32.wrap (a2.getD (1 : Int).toNat 0)) * 2 ^ (min (24 : Int).toNat IntKind.u32.bits))) (IntKind.u32.wrap ((IntKind.u32.wrap (a2.getD (2 : Int).toNat 0)) * 2 ^ (min (16 : Int).toNat IntKind.u32.bits))))), (43, Value.slice (some ⟨eb3, eo4, none⟩) a2.length sc2), (44, Value.pointer (some ⟨eb3, eo4 + (3 : Int).toNat * 1, none⟩)), (45, Value.int .u8 (a2.getD (3 : Int).toNat 0)), (46, Value.int .u32 (IntKind.u32.wrap (a2.getD (3 : Int).toNat 0))), (47, Value.int .u32 (IntKind.u32.wrap ((IntKind.u32.wrap (a2.getD (3 : Int).toNat 0)) * 2 ^ (min (8 : Int).toNat IntKind.u32.bits)))), (48, Value.int .u32 (ior .u32 (ior .u32 (IntKind.u32.wrap ((IntKind.u32.wrap (a2.getD (1 : Int).toNat 0)) * 2 ^ (min (24 : Int).toNat IntKind.u32.bits))) (IntKind.u32.wrap ((IntKind.u32.wrap (a2.getD (2 : Int).toNat 0)) * 2 ^ (min (16 : Int).toNat IntKind.u32.bits)))) (IntKind.u32.wrap ((IntKind.u32.wrap (a2.getD (3 : Int).toNat 0)) * 2 ^ (min (8 : Int).toNat IntKind.u32.bits))))), (49, Value.slice (some ⟨eb3, eo4, none⟩) a2.length sc2), (50, Value.pointer (some ⟨eb3, eo4 + (4 : Int).toNat * 1, none⟩)), (51, Value.int .u8 (a2.getD (4 : Int).toNat 0)), (52, Value.int .u32 (IntKind.u32.wrap (a2.getD (4 : Int).toNat 0))), (53, Value.int .u32 (ior .u32 (ior .u32 (ior .u32 (IntKind.u32.wrap ((IntKind.u32.wrap (a2.getD (1 : Int).toNat 0)) * 2 ^ (min (24 : Int).toNat IntKind.u32.bits))) (IntKind.u32.wrap ((IntKind.u32.wrap (a2.getD (2 : Int).toNat 0)) * 2 ^ (min (16 : Int).toNat IntKind.u32.bits)))) (IntKind.u32.wrap ((IntKind.u32.wrap (a2.getD (3 : Int).toNat 0)) * 2 ^ (min (8 : Int).toNat IntKind.u32.bits)))) (IntKind.u32.wrap (a2.getD (4 : Int).toNat 0)))), (6, Value.int .u32 (ior .u32 (ior .u32 (ior .u32 (IntKind.u32.wrap ((IntKind.u32.wrap (a2.getD (1 : Int).toNat 0)) * 2 ^ (min (24 : Int).toNat IntKind.u32.bits))) (IntKind.u32.wrap ((IntKind.u32.wrap (a2.getD (2 : Int).toNat 0)) * 2 ^ (min (16 : Int).toNat IntKind.u32.bits)))) (IntKind.u32.wrap ((IntKind.u32.wrap (a2.getD (3 : Int).toNat 0)) * 2 ^ (min (8 : Int).toNat IntKind.u32.bits)))) (IntKind.u32.wrap (a2.getD (4 : Int).toNat 0))))] mo HS ?_
     refine T.fn [(0, _), (1, _), (2, _), (6, _)] ⟨rfl, rfl, rfl, rfl, trivial⟩ ⟨.mv 2, .n1 32 rfl rfl (fun w HS => X.indexSl Tryz.underlying32 inf5 rfl rfl c10.1 c10.2), .n1 33 rfl rfl (fun w HS => X.load Tryz.underlying5 rfl rfl ((rdC.at 1 hr2 HS rfl).cellI c10.1 c10.2)), .n1 34 rfl rfl (fun w HS => X.conv Tryz.underlying5 Tryz.underlying79 rfl), .n1 35 rfl rfl (fun w HS => X.shl rfl rfl (by decide)), .mv 2, .n1 37 rfl rfl (fun w HS => X.indexSl Tryz.underlying32 inf5 rfl rfl c11.1 c11.2), .n1 38 rfl rfl (fun w HS => X.load Tryz.underlying5 rfl rfl ((rdC.at 1 hr2 HS rfl).cellI c11.1 c11.2)), .n1 39 rfl rfl (fun w HS => X.conv Tryz.underlying5 Tryz.underlying79 rfl), .n1 40 rfl rfl (fun w HS => X.shl rfl rfl (by decide)), .n2 36 41 rfl rfl rfl (fun w HS => X.or rfl rfl), .mv 2, .n1 43 rfl rfl (fun w HS => X.indexSl Tryz.underlying32 inf5 rfl rfl c12.1 c12.2), .n1 44 rfl rfl (fun w HS => X.load Tryz.underlying5 rfl rfl ((rdC.at 1 hr2 HS rfl).cellI c12.1 c12.2)), .n1 45 rfl rfl (fun w HS => X.conv Tryz.underlying5 Tryz.underlying79 rfl), .n1 46 rfl rfl (fun w HS => X.shl rfl rfl (by decide)), .n2 42 47 rfl rfl rfl (fun w HS => X.or rfl rfl), .mv 2, .n1 49 rfl rfl (fun w HS => X.indexSl Tryz.underlying32 inf5 rfl rfl c13.1 c13.2), .n1 50 rfl rfl (fun w HS => X.load Tryz.underlying5 rfl rfl ((rdC.at 1 hr2 HS rfl).cellI c13.1 c13.2)), .n1 51 rfl rfl (fun w HS => X.conv Tryz.underlying5 Tryz.underlying79 rfl), .n2 48 52 rfl rfl rfl (fun w HS => X.or rfl rfl), .as 53, trivial⟩ (fun w HS => ?_)
     refine At.next (V.seq (V.region (W.mv rfl (W.nc rfl ?_))))
     obtain ⟨b16_14, b17_14, b18_14, b22_14, b23_14, b24_14, b32_14, b33_14, b34_14, hi15, HS⟩ := station_Station.open HS
     refine W.fa fo87_3 rfl (W.ld 0 HS Tryz.underlying77 rfl rfl rfl rfl (W.mv rfl ?_))
     obtain ⟨t16, A17, H⟩ := bind_s H
     replace HS := HS.pm [3, 0, 1, 2, 4, 5, 6, 7, 8, 9, 10]
     refine W.e (Y.cl Tryz.func138 (twins_Table_Fresh.calls A17 HS.j1)) rfl ?_
     rintro _ w ⟨rfl, HS⟩
     replace HS := HS.o1
     refine W.nx ?_
     by_cases c18 : t16.1 = true
     ·replace H := ite_t c18 H
      refine V.condT (sb c18) ?_
      obtain ⟨c19, H⟩ := ite_n H
      refine V.dr [6] [] [(60, Value.pointer (some ⟨b0, 0, none⟩)), (61, Value.pointer (some ⟨b0, 0, none⟩)), (62, Value.pointer (some ⟨b0, 0 + 16, none⟩)), (63, Value.pointer (some ⟨b16_14, 0, none⟩)), (64, Value.slice (some ⟨eb3, eo4, none⟩) a2.length sc2), (65, Value.slice (vaddr (some ⟨eb3, eo4, none⟩) sc2 (5 : Int).toNat 1) (cut a2 (5 : Int) (a2.length : Int)).length (sc2 - (5 : Int).toNat))] mo HS ?_
      refine T.ev [(63, _), (65, _)] [] [0, 1, 2, 3, 4, 5] ⟨rfl, rfl, trivial⟩ ⟨.mv 0, .nc 60, .fa 61 fo87_1, .ld 62 1 Tryz.underlying73, .mv 2, .n1 64 rfl rfl (fun w HS => X.slL Tryz.underlying32 inf5 rfl rfl c19), trivial⟩ rfl (fun w HS => ?_)
      obtain ⟨t20, A21, H⟩ := bind_s H
      replace HS := HS.pm [2, 0, 1, 3, 4, 5, 6, 7, 8, 9, 10]
      refine ⟨_, Y.cl Tryz.func139 (arq_Arq_Input.calls A21 HS.j1 (rdC.part 9 (rdC.subM hr2 c19) rfl)), ?_⟩
      rintro _ w ⟨rfl, HS⟩
      replace HS := HS.o1
      refine T.nw HS ?_
      refine T.fn [] trivial trivial (fun w HS => ?_)
      refine At.blockEnd ?_
      replace HS := HS.pm [2, 0, 3, 1, 4, 5, 6, 7, 8, 9, 10]
      replace HS := station_Station.close trivial HS
      cases H
      exact At.end0 rfl ⟨_, rfl, rfl, HS⟩
     ·replace H := ite_f c18 H
      refine V.condF (sb (b_f c18)) (V.region (W.mv rfl (W.mv rfl (W.nc rfl (W.fa fo87_7 rfl ?_)))))
      obtain ⟨c22, H⟩ := ite_n H
      by_cases c23 : a1 = 0
      ·replace H := ite_t c23 H
       refine W.r (X.indexArK 0 c23 Tryz.underlying85 inf84 rfl rfl c22.1 c22.2) rfl (W.fa fo84_3 rfl (W.fa fo42_6 rfl (W.e (Y.cl Tryz.func63 (station_one.cell 1 31 HS rfl rfl rfl)) rfl ?_)))
       rintro _ w ⟨rfl, HS⟩
       refine W.nil (At.blockEnd ?_)
       replace HS := HS.pm [1, 2, 3, 0, 4, 5, 6, 7, 8, 9, 10]
       replace HS := station_Station.close trivial HS
       cases H
       exact At.end0 rfl ⟨_, rfl, rfl, HS⟩
      ·replace H := ite_f c23 H
       have hk24 : a1 = 1 := by omega
       refine W.r (X.indexArK 1 hk24 Tryz.underlying85 inf84 rfl rfl c22.1 c22.2) rfl (W.fa fo84_3 rfl (W.fa fo42_6 rfl (W.e (Y.cl Tryz.func63 (station_one.cell 1 41 HS rfl rfl rfl)) rfl ?_)))
       rintro _ w ⟨rfl, HS⟩
       refine W.nil (At.blockEnd ?_)
       replace HS := HS.pm [1, 2, 3, 0, 4, 5, 6, 7, 8, 9, 10]
       replace HS := station_Station.close trivial HS
       cases H
       exact At.end0 rfl ⟨_, rfl, rfl, HS⟩
  ·replace H := ite_f c6 H
   refine V.condF (sb (decide_eq_false c6)) (V.meet (σ := Bool) (fun st w => match st with | x34 => Sep.St [station_Station.at b0 a0, R] w0 w ∧ station_Station_came.j1 a0 a2 x34 = some r) (fun st => match st with | x34 => [(0, Value.pointer (some ⟨b0, 0, none⟩)), (2, Value.slice (some ⟨eb3, eo4, none⟩) a2.length sc2), (75, Value.bool x34)]) ?_ ?_)
   ·refine V.region (W.mv rfl (W.r (X.indexSl Tryz.underlying32 inf5 rfl rfl c2.1 c2.2) rfl (W.r (X.load Tryz.underlying5 rfl rfl ((rdC.at 1 hr2 HS rfl).cellI c2.1 c2.2)) rfl (W.r (X.cmp (decide ((a2.getD (0 : Int).toNat 0) = 1)) rfl rfl rfl rfl) rfl (W.mv rfl ?_)))))
    by_cases c45 : (a2.getD (0 : Int).toNat 0) = 1
    ·replace H := ite_t c45 H
     refine W.want 80 rfl (sb (decide_eq_true c45)) (W.mv rfl (W.want 80 rfl (sb (decide_eq_true c45)) (W.r (X.cmp (decide (a1 = 1)) rfl rfl rfl rfl) rfl (W.r (X.pickT (sb (decide_eq_true c45)) rfl) rfl (W.as rfl (W.nil ?_))))))
     exact At.meet (decide (a1 = 1)) ⟨rfl, rfl, rfl, trivial⟩ ⟨HS, H⟩
    ·replace H := ite_f c45 H
     refine W.pass 80 rfl (sb (decide_eq_false c45)) rfl rfl (W.pass 80 rfl (sb (decide_eq_false c45)) rfl rfl (W.r (X.pickF (sb (decide_eq_false c45)) rfl) rfl (W.as rfl (W.nil ?_))))
     exact At.meet false ⟨rfl, rfl, rfl, trivial⟩ ⟨HS, H⟩
   ·rintro x34 w ⟨HS, H⟩
    unfold station_Station_came.j1 at H
    by_cases c36 : x34 = true
    ·replace H := ite_t c36 H
     refine V.condT (sb c36) (V.seq (V.region (W.mv rfl ?_)))
     obtain ⟨c37, H⟩ := ite_n H
     refine W.r (X.slL Tryz.underlying32 inf5 rfl rfl c37) rfl ?_
     obtain ⟨t38, A39, H⟩ := bind_s H
     refine W.e (Y.cl Tryz.func140 (kcode_Read.calls A39 HS.j0 (rdC.part 1 (rdC.subM hr2 c37) rfl))) rfl ?_
     rintro _ w ⟨rfl, HS⟩
     replace HS := HS.o0
     refine W.mv rfl (W.r (X.extract rfl rfl) rfl (W.r (X.extract rfl rfl) rfl (W.r (X.extract rfl rfl) rfl (W.as rfl (W.as rfl (W.as rfl (W.nx (V.seq (V.region (W.mv rfl (W.r (X.cmp (decide (t38.2.2 = 0)) rfl rfl rfl rfl) rfl (W.nx ?_))))))))))))
     by_cases c40 : t38.2.2 = 0
     ·replace H := ite_t c40 H
      refine V.condT (sb (decide_eq_true c40)) (V.region (W.mv rfl (W.nc rfl ?_)))
      obtain ⟨b16_41, b17_41, b18_41, b22_41, b23_41, b24_41, b32_41, b33_41, b34_41, hi42, HS⟩ := station_Station.open HS
      refine W.fa fo87_2 rfl (W.ld 0 HS Tryz.underlying75 rfl rfl rfl rfl (W.mv rfl ?_))
      obtain ⟨t43, A44, H⟩ := bind_s H
      replace HS := HS.pm [2, 0, 1, 3, 4, 5, 6, 7, 8, 9, 10]
      refine W.e (Y.cl Tryz.func141 (aps_Aps_Remote.calls A44 HS.j1)) rfl ?_
      rintro _ w ⟨rfl, HS⟩
      replace HS := HS.o1
      refine W.nil (At.blockEnd ?_)
      replace HS := HS.pm [1, 2, 0, 3, 4, 5, 6, 7, 8, 9, 10]
      replace HS := station_Station.close trivial HS
      cases H
      exact At.end0 rfl ⟨_, rfl, rfl, HS⟩
     ·replace H := ite_f c40 H
      refine V.condF (sb (decide_eq_false c40)) (V.skip (At.blockEnd ?_))
      cases H
      exact At.end0 rfl ⟨_, rfl, rfl, HS⟩
    ·replace H := ite_f c36 H
     refine V.condF (sb (b_f c36)) (V.skip (At.blockEnd ?_))
     cases H
     exact At.end0 rfl ⟨_, rfl, rfl, HS⟩
 ·replace H := ite_f c5 H
  refine W.pass 15 rfl (sb (decide_eq_false c5)) rfl rfl (W.pass 15 rfl (sb (decide_eq_false c5)) rfl rfl (W.pass 15 rfl (sb (decide_eq_false c5)) rfl rfl (W.r (X.pickF (sb (decide_eq_false c5)) rfl) rfl (W.as rfl (W.nx (V.condF rfl (V.meet (σ := Bool) (fun st w => match st with | x46 => Sep.St [station_Station.at b0 a0, R] w0 w ∧ station_Station_came.j2 a0 a2 x46 = some r) (fun st => match st with | x46 => [(0, Value.pointer (some ⟨b0, 0, none⟩)), (2, Value.slice (some ⟨eb3, eo4, none⟩) a2.length sc2), (75, Value.bool x46)]) ?_ ?_)))))))
  ·refine V.region (W.mv rfl (W.r (X.indexSl Tryz.underlying32 inf5 rfl rfl c2.1 c2.2) rfl (W.r (X.load Tryz.underlying5 rfl rfl ((rdC.at 1 hr2 HS rfl).cellI c2.1 c2.2)) rfl (W.r (X.cmp (decide ((a2.getD (0 : Int).toNat 0) = 1)) rfl rfl rfl rfl) rfl (W.mv rfl ?_)))))
   by_cases c57 : (a2.getD (0 : Int).toNat 0) = 1
   ·replace H := ite_t c57 H
    refine W.want 80 rfl (sb (decide_eq_true c57)) (W.mv rfl (W.want 80 rfl (sb (decide_eq_true c57)) (W.r (X.cmp (decide (a1 = 1)) rfl rfl rfl rfl) rfl (W.r (X.pickT (sb (decide_eq_true c57)) rfl) rfl (W.as rfl (W.nil ?_))))))
    exact At.meet (decide (a1 = 1)) ⟨rfl, rfl, rfl, trivial⟩ ⟨HS, H⟩
   ·replace H := ite_f c57 H
    refine W.pass 80 rfl (sb (decide_eq_false c57)) rfl rfl (W.pass 80 rfl (sb (decide_eq_false c57)) rfl rfl (W.r (X.pickF (sb (decide_eq_false c57)) rfl) rfl (W.as rfl (W.nil ?_))))
    exact At.meet false ⟨rfl, rfl, rfl, trivial⟩ ⟨HS, H⟩
  ·rintro x46 w ⟨HS, H⟩
   unfold station_Station_came.j2 at H
   by_cases c48 : x46 = true
   ·replace H := ite_t c48 H
    refine V.condT (sb c48) (V.seq (V.region (W.mv rfl ?_)))
    obtain ⟨c49, H⟩ := ite_n H
    refine W.r (X.slL Tryz.underlying32 inf5 rfl rfl c49) rfl ?_
    obtain ⟨t50, A51, H⟩ := bind_s H
    refine W.e (Y.cl Tryz.func140 (kcode_Read.calls A51 HS.j0 (rdC.part 1 (rdC.subM hr2 c49) rfl))) rfl ?_
    rintro _ w ⟨rfl, HS⟩
    replace HS := HS.o0
    refine W.mv rfl (W.r (X.extract rfl rfl) rfl (W.r (X.extract rfl rfl) rfl (W.r (X.extract rfl rfl) rfl (W.as rfl (W.as rfl (W.as rfl (W.nx (V.seq (V.region (W.mv rfl (W.r (X.cmp (decide (t50.2.2 = 0)) rfl rfl rfl rfl) rfl (W.nx ?_))))))))))))
    by_cases c52 : t50.2.2 = 0
    ·replace H := ite_t c52 H
     refine V.condT (sb (decide_eq_true c52)) (V.region (W.mv rfl (W.nc rfl ?_)))
     obtain ⟨b16_53, b17_53, b18_53, b22_53, b23_53, b24_53, b32_53, b33_53, b34_53, hi54, HS⟩ := station_Station.open HS
     refine W.fa fo87_2 rfl (W.ld 0 HS Tryz.underlying75 rfl rfl rfl rfl (W.mv rfl ?_))
     obtain ⟨t55, A56, H⟩ := bind_s H
     replace HS := HS.pm [2, 0, 1, 3, 4, 5, 6, 7, 8, 9, 10]
     refine W.e (Y.cl Tryz.func141 (aps_Aps_Remote.calls A56 HS.j1)) rfl ?_
     rintro _ w ⟨rfl, HS⟩
     replace HS := HS.o1
     refine W.nil (At.blockEnd ?_)
     replace HS := HS.pm [1, 2, 0, 3, 4, 5, 6, 7, 8, 9, 10]
     replace HS := station_Station.close trivial HS
     cases H
     exact At.end0 rfl ⟨_, rfl, rfl, HS⟩
    ·replace H := ite_f c52 H
     refine V.condF (sb (decide_eq_false c52)) (V.skip (At.blockEnd ?_))
     cases H
     exact At.end0 rfl ⟨_, rfl, rfl, HS⟩
   ·replace H := ite_f c48 H
    refine V.condF (sb (b_f c48)) (V.skip (At.blockEnd ?_))
    cases H
    exact At.end0 rfl ⟨_, rfl, rfl, HS⟩
def station_Station_Push.f (k : Nat) (a0 : station_Station) (a1 : Int) (a2 : Int) : Option (Int × List Int × station_Station) := ((station_has.f a1).bind fun t2 => (if t2 = true then (if 0 ≤ a1 ∧ a1 < 2 then (if a1 = 0 then ((frame_Reader_Push.f k a0.sides.1.reader a2).bind fun t9 => (if t9.1 = 1 then ((monitor_Monitor_Note.f a0.sides.1.monitor true).bind fun t12 => ((station_Station_came.f k ({ a0 with sides := (({ reader := t9.2.2, monitor := t12.2, ring := a0.sides.1.ring, counts := ({ a0.sides.1.counts with Good := station_one.f a0.sides.1.counts.Good } : api_Counts) } : station_side), a0.sides.2) } : station_Station) a1 t9.2.1).bind fun t14 => some (t9.1, t9.2.1, t14))) else (if t9.1 = 2 then some (t9.1, t9.2.1, ({ a0 with sides := (({ a0.sides.1 with reader := t9.2.2, counts := ({ a0.sides.1.counts with Runts := station_one.f a0.sides.1.counts.Runts } : api_Counts) } : station_side), a0.sides.2) } : station_Station)) else (if t9.1 = 4 then ((monitor_Monitor_Note.f a0.sides.1.monitor false).bind fun t18 => some (t9.1, t9.2.1, ({ a0 with sides := (({ reader := t9.2.2, monitor := t18.2, ring := a0.sides.1.ring, counts := ({ a0.sides.1.counts with Bad := station_one.f a0.sides.1.counts.Bad } : api_Counts) } : station_side), a0.sides.2) } : station_Station))) else (if t9.1 = 3 then ((monitor_Monitor_Note.f a0.sides.1.monitor false).bind fun t21 => some (t9.1, t9.2.1, ({ a0 with sides := (({ reader := t9.2.2, monitor := t21.2, ring := a0.sides.1.ring, counts := ({ a0.sides.1.counts with Giants := station_one.f a0.sides.1.counts.Giants } : api_Counts) } : station_side), a0.sides.2) } : station_Station))) else (if t9.1 = 5 then ((monitor_Monitor_Note.f a0.sides.1.monitor false).bind fun t24 => some (t9.1, t9.2.1, ({ a0 with sides := (({ reader := t9.2.2, monitor := t24.2, ring := a0.sides.1.ring, counts := ({ a0.sides.1.counts with Aborts := station_one.f a0.sides.1.counts.Aborts } : api_Counts) } : station_side), a0.sides.2) } : station_Station))) else some (t9.1, t9.2.1, ({ a0 with sides := (({ a0.sides.1 with reader := t9.2.2 } : station_side), a0.sides.2) } : station_Station)))))))) else ((frame_Reader_Push.f k a0.sides.2.reader a2).bind fun t27 => (if t27.1 = 1 then ((monitor_Monitor_Note.f a0.sides.2.monitor true).bind fun t30 => ((station_Station_came.f k ({ a0 with sides := (a0.sides.1, ({ reader := t27.2.2, monitor := t30.2, ring := a0.sides.2.ring, counts := ({ a0.sides.2.counts with Good := station_one.f a0.sides.2.counts.Good } : api_Counts) } : station_side)) } : station_Station) a1 t27.2.1).bind fun t32 => some (t27.1, t27.2.1, t32))) else (if t27.1 = 2 then some (t27.1, t27.2.1, ({ a0 with sides := (a0.sides.1, ({ a0.sides.2 with reader := t27.2.2, counts := ({ a0.sides.2.counts with Runts := station_one.f a0.sides.2.counts.Runts } : api_Counts) } : station_side)) } : station_Station)) else (if t27.1 = 4 then ((monitor_Monitor_Note.f a0.sides.2.monitor false).bind fun t36 => some (t27.1, t27.2.1, ({ a0 with sides := (a0.sides.1, ({ reader := t27.2.2, monitor := t36.2, ring := a0.sides.2.ring, counts := ({ a0.sides.2.counts with Bad := station_one.f a0.sides.2.counts.Bad } : api_Counts) } : station_side)) } : station_Station))) else (if t27.1 = 3 then ((monitor_Monitor_Note.f a0.sides.2.monitor false).bind fun t39 => some (t27.1, t27.2.1, ({ a0 with sides := (a0.sides.1, ({ reader := t27.2.2, monitor := t39.2, ring := a0.sides.2.ring, counts := ({ a0.sides.2.counts with Giants := station_one.f a0.sides.2.counts.Giants } : api_Counts) } : station_side)) } : station_Station))) else (if t27.1 = 5 then ((monitor_Monitor_Note.f a0.sides.2.monitor false).bind fun t42 => some (t27.1, t27.2.1, ({ a0 with sides := (a0.sides.1, ({ reader := t27.2.2, monitor := t42.2, ring := a0.sides.2.ring, counts := ({ a0.sides.2.counts with Aborts := station_one.f a0.sides.2.counts.Aborts } : api_Counts) } : station_side)) } : station_Station))) else some (t27.1, t27.2.1, ({ a0 with sides := (a0.sides.1, ({ a0.sides.2 with reader := t27.2.2 } : station_side)) } : station_Station))))))))) else none) else some (0, ([] : List Int), a0)))
theorem station_Station_Push.calls {k : Nat} {a0 : station_Station} {a1 : Int} {a2 : Int} {R : As} {w0 w : World} {b0 : Nat} {r : Int × List Int × station_Station} (H : station_Station_Push.f k a0 a1 a2 = some r) (HS : Sep.St [station_Station.at b0 a0, R] w0 w)  : Calls Tryz.prog 15 #[Value.pointer (some ⟨b0, 0, none⟩), Value.int .i64 a1, Value.int .u8 a2] w (Ret fun u w => ∃ (aq1 : Option Addr) (cq1 : Nat), u = Value.tuple #[Value.int .i64 r.1, Value.slice aq1 r.2.1.length cq1] ∧ Sep.St [row 5 1 (.slice aq1 r.2.1.length cq1) r.2.1.length (r.2.1.map (Value.int .u8)), station_Station.at b0 r.2.2, R] w0 w) := by
 unfold station_Station_Push.f at H
 refine calls_enter Tryz.func15 rfl rfl ?_
 have H : _ = some r := H
 refine V.seq (V.region (W.as rfl (W.as rfl (W.nx (V.seq (V.seq (V.region (W.mv rfl ?_))))))))
 obtain ⟨t2, A3, H⟩ := bind_s H
 refine W.e (Y.cl Tryz.func61 (station_has.calls A3 HS.j0)) rfl ?_
 rintro _ w ⟨rfl, HS⟩
 replace HS := HS.o0
 refine W.r (X.not rfl) rfl (W.nx ?_)
 by_cases c4 : t2 = true
 ·replace H := ite_t c4 H
  refine V.condF (sb (n_t c4)) (V.skip (At.next (V.seq (V.region (W.mv rfl (W.mv rfl (W.nc rfl ?_)))))))
  obtain ⟨b16_5, b17_5, b18_5, b22_5, b23_5, b24_5, b32_5, b33_5, b34_5, hi6, HS⟩ := station_Station.open HS
  refine W.fa fo87_7 rfl ?_
  obtain ⟨c7, H⟩ := ite_n H
  by_cases c8 : a1 = 0
  ·replace H := ite_t c8 H
   refine W.r (X.indexArK 0 c8 Tryz.underlying85 inf84 rfl rfl c7.1 c7.2) rfl (W.as rfl (W.nx (V.seq (V.region (W.mv rfl (W.nc rfl (W.fa fo84_0 rfl (W.ld 0 HS Tryz.underlying80 rfl rfl rfl rfl (W.mv rfl ?_)))))))))
   obtain ⟨t9, A10, H⟩ := bind_s H
   replace HS := HS.pm [4, 0, 1, 2, 3, 5, 6, 7, 8, 9, 10]
   refine W.e (Y.cl Tryz.func62 (frame_Reader_Push.calls A10 HS.j1)) rfl ?_
   rintro _ w ⟨at9_1, ct9_1, rfl, HS⟩
   replace HS := HS.o2
   refine W.mv rfl (W.r (X.extract rfl rfl) rfl (W.r (X.extract rfl rfl) rfl (W.as rfl (W.as rfl (W.nx (V.seq (V.seq (V.region (W.mv rfl (W.nx (V.block (V.seq (V.region (W.r (X.cmp (decide (t9.1 = 1)) rfl rfl rfl rfl) rfl (W.as rfl (W.nx ?_))))))))))))))))
   by_cases c11 : t9.1 = 1
   ·replace H := ite_t c11 H
    refine V.condT (sb (decide_eq_true c11)) (V.seq (V.region (W.mv rfl (W.nc rfl (W.fa fo84_3 rfl (W.fa fo42_0 rfl (W.e (Y.cl Tryz.func63 (station_one.cell 2 25 HS rfl rfl rfl)) rfl ?_)))))))
    rintro _ w ⟨rfl, HS⟩
    refine W.nx (V.seq (V.region (W.mv rfl (W.nc rfl (W.fa fo84_1 rfl (W.ld 2 HS Tryz.underlying81 rfl rfl rfl rfl ?_))))))
    obtain ⟨t12, A13, H⟩ := bind_s H
    replace HS := HS.pm [6, 0, 1, 2, 3, 4, 5, 7, 8, 9, 10, 11]
    refine W.e (Y.cl Tryz.func64 (monitor_Monitor_Note.calls A13 HS.j1)) rfl ?_
    rintro _ w ⟨rfl, HS⟩
    replace HS := HS.o1
    refine W.nx (V.region (W.mv rfl (W.mv rfl (W.mv rfl ?_))))
    replace HS := HS.pm [3, 4, 5, 6, 2, 0, 7, 8, 9, 10, 1, 11]
    replace HS := station_Station.close trivial HS
    obtain ⟨t14, A15, H⟩ := bind_s H
    refine W.e (Y.cl Tryz.func65 (station_Station_came.calls A15 HS.j1 (rdC.part 0 row_rd rfl))) rfl ?_
    rintro _ w ⟨rfl, HS⟩
    replace HS := HS.o1
    refine W.nil (At.blockEnd (At.next (V.seq (V.region (W.mv rfl (W.mv rfl (W.as rfl (W.as rfl (W.nx (V.ret ?_))))))))))
    replace HS := HS.pk [1, 0, 2] []
    cases H
    exact At.ret2 rfl rfl rfl ⟨_, rfl, at9_1, ct9_1, rfl, HS⟩
   ·replace H := ite_f c11 H
    refine V.condF (sb (decide_eq_false c11)) (V.seq (V.region (W.r (X.cmp (decide (t9.1 = 2)) rfl rfl rfl rfl) rfl (W.as rfl (W.nx ?_)))))
    by_cases c16 : t9.1 = 2
    ·replace H := ite_t c16 H
     refine V.condT (sb (decide_eq_true c16)) (V.region (W.mv rfl (W.nc rfl (W.fa fo84_3 rfl (W.fa fo42_3 rfl (W.e (Y.cl Tryz.func63 (station_one.cell 2 28 HS rfl rfl rfl)) rfl ?_))))))
     rintro _ w ⟨rfl, HS⟩
     refine W.nil (At.blockEnd (At.next (V.seq (V.region (W.mv rfl (W.mv rfl (W.as rfl (W.as rfl (W.nx (V.ret ?_))))))))))
     replace HS := HS.pm [2, 3, 4, 5, 1, 6, 7, 8, 9, 10, 0, 11]
     replace HS := station_Station.close trivial HS
     replace HS := HS.pk [1, 0, 2] []
     cases H
     exact At.ret2 rfl rfl rfl ⟨_, rfl, at9_1, ct9_1, rfl, HS⟩
    ·replace H := ite_f c16 H
     refine V.condF (sb (decide_eq_false c16)) (V.seq (V.region (W.r (X.cmp (decide (t9.1 = 4)) rfl rfl rfl rfl) rfl (W.as rfl (W.nx ?_)))))
     by_cases c17 : t9.1 = 4
     ·replace H := ite_t c17 H
      refine V.condT (sb (decide_eq_true c17)) (V.seq (V.region (W.mv rfl (W.nc rfl (W.fa fo84_3 rfl (W.fa fo42_1 rfl (W.e (Y.cl Tryz.func63 (station_one.cell 2 26 HS rfl rfl rfl)) rfl ?_)))))))
      rintro _ w ⟨rfl, HS⟩
      refine W.nx (V.region (W.mv rfl (W.nc rfl (W.fa fo84_1 rfl (W.ld 2 HS Tryz.underlying81 rfl rfl rfl rfl ?_)))))
      obtain ⟨t18, A19, H⟩ := bind_s H
      replace HS := HS.pm [6, 0, 1, 2, 3, 4, 5, 7, 8, 9, 10, 11]
      refine W.e (Y.cl Tryz.func64 (monitor_Monitor_Note.calls A19 HS.j1)) rfl ?_
      rintro _ w ⟨rfl, HS⟩
      replace HS := HS.o1
      refine W.nil (At.blockEnd (At.next (V.seq (V.region (W.mv rfl (W.mv rfl (W.as rfl (W.as rfl (W.nx (V.ret ?_))))))))))
      replace HS := HS.pm [3, 4, 5, 6, 2, 0, 7, 8, 9, 10, 1, 11]
      replace HS := station_Station.close trivial HS
      replace HS := HS.pk [1, 0, 2] []
      cases H
      exact At.ret2 rfl rfl rfl ⟨_, rfl, at9_1, ct9_1, rfl, HS⟩
     ·replace H := ite_f c17 H
      refine V.condF (sb (decide_eq_false c17)) (V.seq (V.region (W.r (X.cmp (decide (t9.1 = 3)) rfl rfl rfl rfl) rfl (W.as rfl (W.nx ?_)))))
      by_cases c20 : t9.1 = 3
      ·replace H := ite_t c20 H
       refine V.condT (sb (decide_eq_true c20)) (V.seq (V.region (W.mv rfl (W.nc rfl (W.fa fo84_3 rfl (W.fa fo42_4 rfl (W.e (Y.cl Tryz.func63 (station_one.cell 2 29 HS rfl rfl rfl)) rfl ?_)))))))
       rintro _ w ⟨rfl, HS⟩
       refine W.nx (V.region (W.mv rfl (W.nc rfl (W.fa fo84_1 rfl (W.ld 2 HS Tryz.underlying81 rfl rfl rfl rfl ?_)))))
       obtain ⟨t21, A22, H⟩ := bind_s H
       replace HS := HS.pm [6, 0, 1, 2, 3, 4, 5, 7, 8, 9, 10, 11]
       refine W.e (Y.cl Tryz.func64 (monitor_Monitor_Note.calls A22 HS.j1)) rfl ?_
       rintro _ w ⟨rfl, HS⟩
       replace HS := HS.o1
       refine W.nil (At.blockEnd (At.next (V.seq (V.region (W.mv rfl (W.mv rfl (W.as rfl (W.as rfl (W.nx (V.ret ?_))))))))))
       replace HS := HS.pm [3, 4, 5, 6, 2, 0, 7, 8, 9, 10, 1, 11]
       replace HS := station_Station.close trivial HS
       replace HS := HS.pk [1, 0, 2] []
       cases H
       exact At.ret2 rfl rfl rfl ⟨_, rfl, at9_1, ct9_1, rfl, HS⟩
      ·replace H := ite_f c20 H
       refine V.condF (sb (decide_eq_false c20)) (V.seq (V.region (W.r (X.cmp (decide (t9.1 = 5)) rfl rfl rfl rfl) rfl (W.as rfl (W.nx ?_)))))
       by_cases c23 : t9.1 = 5
       ·replace H := ite_t c23 H
        refine V.condT (sb (decide_eq_true c23)) (V.seq (V.region (W.mv rfl (W.nc rfl (W.fa fo84_3 rfl (W.fa fo42_2 rfl (W.e (Y.cl Tryz.func63 (station_one.cell 2 27 HS rfl rfl rfl)) rfl ?_)))))))
        rintro _ w ⟨rfl, HS⟩
        refine W.nx (V.region (W.mv rfl (W.nc rfl (W.fa fo84_1 rfl (W.ld 2 HS Tryz.underlying81 rfl rfl rfl rfl ?_)))))
        obtain ⟨t24, A25, H⟩ := bind_s H
        replace HS := HS.pm [6, 0, 1, 2, 3, 4, 5, 7, 8, 9, 10, 11]
        refine W.e (Y.cl Tryz.func64 (monitor_Monitor_Note.calls A25 HS.j1)) rfl ?_
        rintro _ w ⟨rfl, HS⟩
        replace HS := HS.o1
        refine W.nil (At.blockEnd (At.next (V.seq (V.region (W.mv rfl (W.mv rfl (W.as rfl (W.as rfl (W.nx (V.ret ?_))))))))))
        replace HS := HS.pm [3, 4, 5, 6, 2, 0, 7, 8, 9, 10, 1, 11]
        replace HS := station_Station.close trivial HS
        replace HS := HS.pk [1, 0, 2] []
        cases H
        exact At.ret2 rfl rfl rfl ⟨_, rfl, at9_1, ct9_1, rfl, HS⟩
       ·replace H := ite_f c23 H
        refine V.condF (sb (decide_eq_false c23)) (V.skip (At.blockEnd (At.next (V.seq (V.region (W.mv rfl (W.mv rfl (W.as rfl (W.as rfl (W.nx (V.ret ?_)))))))))))
        replace HS := HS.pm [2, 3, 4, 5, 1, 6, 7, 8, 9, 10, 0, 11]
        replace HS := station_Station.close trivial HS
        replace HS := HS.pk [1, 0, 2] []
        cases H
        exact At.ret2 rfl rfl rfl ⟨_, rfl, at9_1, ct9_1, rfl, HS⟩
  ·replace H := ite_f c8 H
   have hk26 : a1 = 1 := by omega
   refine W.r (X.indexArK 1 hk26 Tryz.underlying85 inf84 rfl rfl c7.1 c7.2) rfl (W.as rfl (W.nx (V.seq (V.region (W.mv rfl (W.nc rfl (W.fa fo84_0 rfl (W.ld 0 HS Tryz.underlying80 rfl rfl rfl rfl (W.mv rfl ?_)))))))))
   obtain ⟨t27, A28, H⟩ := bind_s H
   replace HS := HS.pm [7, 0, 1, 2, 3, 4, 5, 6, 8, 9, 10]
   refine W.e (Y.cl Tryz.func62 (frame_Reader_Push.calls A28 HS.j1)) rfl ?_
   rintro _ w ⟨at27_1, ct27_1, rfl, HS⟩
   replace HS := HS.o2
   refine W.mv rfl (W.r (X.extract rfl rfl) rfl (W.r (X.extract rfl rfl) rfl (W.as rfl (W.as rfl (W.nx (V.seq (V.seq (V.region (W.mv rfl (W.nx (V.block (V.seq (V.region (W.r (X.cmp (decide (t27.1 = 1)) rfl rfl rfl rfl) rfl (W.as rfl (W.nx ?_))))))))))))))))
   by_cases c29 : t27.1 = 1
   ·replace H := ite_t c29 H
    refine V.condT (sb (decide_eq_true c29)) (V.seq (V.region (W.mv rfl (W.nc rfl (W.fa fo84_3 rfl (W.fa fo42_0 rfl (W.e (Y.cl Tryz.func63 (station_one.cell 2 35 HS rfl rfl rfl)) rfl ?_)))))))
    rintro _ w ⟨rfl, HS⟩
    refine W.nx (V.seq (V.region (W.mv rfl (W.nc rfl (W.fa fo84_1 rfl (W.ld 2 HS Tryz.underlying81 rfl rfl rfl rfl ?_))))))
    obtain ⟨t30, A31, H⟩ := bind_s H
    replace HS := HS.pm [9, 0, 1, 2, 3, 4, 5, 6, 7, 8, 10, 11]
    refine W.e (Y.cl Tryz.func64 (monitor_Monitor_Note.calls A31 HS.j1)) rfl ?_
    rintro _ w ⟨rfl, HS⟩
    replace HS := HS.o1
    refine W.nx (V.region (W.mv rfl (W.mv rfl (W.mv rfl ?_))))
    replace HS := HS.pm [3, 4, 5, 6, 7, 8, 9, 2, 0, 10, 1, 11]
    replace HS := station_Station.close trivial HS
    obtain ⟨t32, A33, H⟩ := bind_s H
    refine W.e (Y.cl Tryz.func65 (station_Station_came.calls A33 HS.j1 (rdC.part 0 row_rd rfl))) rfl ?_
    rintro _ w ⟨rfl, HS⟩
    replace HS := HS.o1
    refine W.nil (At.blockEnd (At.next (V.seq (V.region (W.mv rfl (W.mv rfl (W.as rfl (W.as rfl (W.nx (V.ret ?_))))))))))
    replace HS := HS.pk [1, 0, 2] []
    cases H
    exact At.ret2 rfl rfl rfl ⟨_, rfl, at27_1, ct27_1, rfl, HS⟩
   ·replace H := ite_f c29 H
    refine V.condF (sb (decide_eq_false c29)) (V.seq (V.region (W.r (X.cmp (decide (t27.1 = 2)) rfl rfl rfl rfl) rfl (W.as rfl (W.nx ?_)))))
    by_cases c34 : t27.1 = 2
    ·replace H := ite_t c34 H
     refine V.condT (sb (decide_eq_true c34)) (V.region (W.mv rfl (W.nc rfl (W.fa fo84_3 rfl (W.fa fo42_3 rfl (W.e (Y.cl Tryz.func63 (station_one.cell 2 38 HS rfl rfl rfl)) rfl ?_))))))
     rintro _ w ⟨rfl, HS⟩
     refine W.nil (At.blockEnd (At.next (V.seq (V.region (W.mv rfl (W.mv rfl (W.as rfl (W.as rfl (W.nx (V.ret ?_))))))))))
     replace HS := HS.pm [2, 3, 4, 5, 6, 7, 8, 1, 9, 10, 0, 11]
     replace HS := station_Station.close trivial HS
     replace HS := HS.pk [1, 0, 2] []
     cases H
     exact At.ret2 rfl rfl rfl ⟨_, rfl, at27_1, ct27_1, rfl, HS⟩
    ·replace H := ite_f c34 H
     refine V.condF (sb (decide_eq_false c34)) (V.seq (V.region (W.r (X.cmp (decide (t27.1 = 4)) rfl rfl rfl rfl) rfl (W.as rfl (W.nx ?_)))))
     by_cases c35 : t27.1 = 4
     ·replace H := ite_t c35 H
      refine V.condT (sb (decide_eq_true c35)) (V.seq (V.region (W.mv rfl (W.nc rfl (W.fa fo84_3 rfl (W.fa fo42_1 rfl (W.e (Y.cl Tryz.func63 (station_one.cell 2 36 HS rfl rfl rfl)) rfl ?_)))))))
      rintro _ w ⟨rfl, HS⟩
      refine W.nx (V.region (W.mv rfl (W.nc rfl (W.fa fo84_1 rfl (W.ld 2 HS Tryz.underlying81 rfl rfl rfl rfl ?_)))))
      obtain ⟨t36, A37, H⟩ := bind_s H
      replace HS := HS.pm [9, 0, 1, 2, 3, 4, 5, 6, 7, 8, 10, 11]
      refine W.e (Y.cl Tryz.func64 (monitor_Monitor_Note.calls A37 HS.j1)) rfl ?_
      rintro _ w ⟨rfl, HS⟩
      replace HS := HS.o1
      refine W.nil (At.blockEnd (At.next (V.seq (V.region (W.mv rfl (W.mv rfl (W.as rfl (W.as rfl (W.nx (V.ret ?_))))))))))
      replace HS := HS.pm [3, 4, 5, 6, 7, 8, 9, 2, 0, 10, 1, 11]
      replace HS := station_Station.close trivial HS
      replace HS := HS.pk [1, 0, 2] []
      cases H
      exact At.ret2 rfl rfl rfl ⟨_, rfl, at27_1, ct27_1, rfl, HS⟩
     ·replace H := ite_f c35 H
      refine V.condF (sb (decide_eq_false c35)) (V.seq (V.region (W.r (X.cmp (decide (t27.1 = 3)) rfl rfl rfl rfl) rfl (W.as rfl (W.nx ?_)))))
      by_cases c38 : t27.1 = 3
      ·replace H := ite_t c38 H
       refine V.condT (sb (decide_eq_true c38)) (V.seq (V.region (W.mv rfl (W.nc rfl (W.fa fo84_3 rfl (W.fa fo42_4 rfl (W.e (Y.cl Tryz.func63 (station_one.cell 2 39 HS rfl rfl rfl)) rfl ?_)))))))
       rintro _ w ⟨rfl, HS⟩
       refine W.nx (V.region (W.mv rfl (W.nc rfl (W.fa fo84_1 rfl (W.ld 2 HS Tryz.underlying81 rfl rfl rfl rfl ?_)))))
       obtain ⟨t39, A40, H⟩ := bind_s H
       replace HS := HS.pm [9, 0, 1, 2, 3, 4, 5, 6, 7, 8, 10, 11]
       refine W.e (Y.cl Tryz.func64 (monitor_Monitor_Note.calls A40 HS.j1)) rfl ?_
       rintro _ w ⟨rfl, HS⟩
       replace HS := HS.o1
       refine W.nil (At.blockEnd (At.next (V.seq (V.region (W.mv rfl (W.mv rfl (W.as rfl (W.as rfl (W.nx (V.ret ?_))))))))))
       replace HS := HS.pm [3, 4, 5, 6, 7, 8, 9, 2, 0, 10, 1, 11]
       replace HS := station_Station.close trivial HS
       replace HS := HS.pk [1, 0, 2] []
       cases H
       exact At.ret2 rfl rfl rfl ⟨_, rfl, at27_1, ct27_1, rfl, HS⟩
      ·replace H := ite_f c38 H
       refine V.condF (sb (decide_eq_false c38)) (V.seq (V.region (W.r (X.cmp (decide (t27.1 = 5)) rfl rfl rfl rfl) rfl (W.as rfl (W.nx ?_)))))
       by_cases c41 : t27.1 = 5
       ·replace H := ite_t c41 H
        refine V.condT (sb (decide_eq_true c41)) (V.seq (V.region (W.mv rfl (W.nc rfl (W.fa fo84_3 rfl (W.fa fo42_2 rfl (W.e (Y.cl Tryz.func63 (station_one.cell 2 37 HS rfl rfl rfl)) rfl ?_)))))))
        rintro _ w ⟨rfl, HS⟩
        refine W.nx (V.region (W.mv rfl (W.nc rfl (W.fa fo84_1 rfl (W.ld 2 HS Tryz.underlying81 rfl rfl rfl rfl ?_)))))
        obtain ⟨t42, A43, H⟩ := bind_s H
        replace HS := HS.pm [9, 0, 1, 2, 3, 4, 5, 6, 7, 8, 10, 11]
        refine W.e (Y.cl Tryz.func64 (monitor_Monitor_Note.calls A43 HS.j1)) rfl ?_
        rintro _ w ⟨rfl, HS⟩
        replace HS := HS.o1
        refine W.nil (At.blockEnd (At.next (V.seq (V.region (W.mv rfl (W.mv rfl (W.as rfl (W.as rfl (W.nx (V.ret ?_))))))))))
        replace HS := HS.pm [3, 4, 5, 6, 7, 8, 9, 2, 0, 10, 1, 11]
        replace HS := station_Station.close trivial HS
        replace HS := HS.pk [1, 0, 2] []
        cases H
        exact At.ret2 rfl rfl rfl ⟨_, rfl, at27_1, ct27_1, rfl, HS⟩
       ·replace H := ite_f c41 H
        refine V.condF (sb (decide_eq_false c41)) (V.skip (At.blockEnd (At.next (V.seq (V.region (W.mv rfl (W.mv rfl (W.as rfl (W.as rfl (W.nx (V.ret ?_)))))))))))
        replace HS := HS.pm [2, 3, 4, 5, 6, 7, 8, 1, 9, 10, 0, 11]
        replace HS := station_Station.close trivial HS
        replace HS := HS.pk [1, 0, 2] []
        cases H
        exact At.ret2 rfl rfl rfl ⟨_, rfl, at27_1, ct27_1, rfl, HS⟩
 ·replace H := ite_f c4 H
  refine V.condT (sb (n_f (b_f c4))) (V.seq (V.region (W.as rfl (W.as rfl (W.nx (V.ret (At.thenRet ?_)))))))
  replace HS := row_nilF (Value.int .u8) 5 1 HS
  cases H
  exact At.ret2 rfl rfl rfl ⟨_, rfl, none, 0, rfl, HS⟩
def ring_Ring_Dropped.f (a0 : ring_Ring) : Option Int := some a0.dropped
theorem ring_Ring_Dropped.calls {a0 : ring_Ring} {R : As} {w0 w : World} {b0 : Nat} {a1_p0 : Option Addr} {c1_p0 : Nat} {a3_p0 : Option Addr} {c3_p0 : Nat} {r : Int} (H : ring_Ring_Dropped.f a0 = some r) (HS : Sep.St [blk b0 (#[Value.int .i64 a0.room, Value.slice a1_p0 a0.b.length c1_p0, Value.int .i64 a0.begun, Value.slice a3_p0 a0.pieces.length c3_p0, Value.int .i64 a0.dropped]) 149, row 5 1 (.slice a1_p0 a0.b.length c1_p0) a0.b.length (a0.b.map (Value.int .u8)), row 3 1 (.slice a3_p0 a0.pieces.length c3_p0) a0.pieces.length (a0.pieces.map (Value.int .i64)), R] w0 w)  : Calls Tryz.prog 66 #[Value.pointer (some ⟨b0, 0, none⟩)] w (Ret fun u w => u = Value.int .i64 r ∧ Sep.St [blk b0 (#[Value.int .i64 a0.room, Value.slice a1_p0 a0.b.length c1_p0, Value.int .i64 a0.begun, Value.slice a3_p0 a0.pieces.length c3_p0, Value.int .i64 a0.dropped]) 149, row 5 1 (.slice a1_p0 a0.b.length c1_p0) a0.b.length (a0.b.map (Value.int .u8)), row 3 1 (.slice a3_p0 a0.pieces.length c3_p0) a0.pieces.length (a0.pieces.map (Value.int .i64)), R] w0 w) := by
 unfold ring_Ring_Dropped.f at H
 refine calls_enter Tryz.func66 rfl rfl ?_
 have H : _ = some r := H
 refine V.seq (V.region (W.as rfl (W.nx (V.seq (V.region (W.mv rfl (W.nc rfl (W.fa fo149_4 rfl (W.ld 0 HS Tryz.underlying3 rfl rfl rfl rfl (W.as rfl (W.nx (V.ret ?_))))))))))))
 cases H
 exact At.ret1 rfl rfl ⟨_, rfl, rfl, HS⟩
def api_Counts.at (b : Nat) (x : api_Counts) : As := fun h => True ∧ Sp [blk b (#[Value.int .i64 x.Good, Value.int .i64 x.Bad, Value.int .i64 x.Aborts, Value.int .i64 x.Runts, Value.int .i64 x.Giants, Value.int .i64 x.Dropped, Value.int .i64 x.Twins]) 42] h
theorem api_Counts.open {b : Nat} {x : api_Counts} {L : List As} {w0 w : World} (hs : Sep.St (api_Counts.at b x :: L) w0 w) : True ∧ Sep.St (blk b (#[Value.int .i64 x.Good, Value.int .i64 x.Bad, Value.int .i64 x.Aborts, Value.int .i64 x.Runts, Value.int .i64 x.Giants, Value.int .i64 x.Dropped, Value.int .i64 x.Twins]) 42 :: L) w0 w := by
 have h1 := St.pure.1 (show St ((fun h => True ∧ (fun h => Sp [blk b (#[Value.int .i64 x.Good, Value.int .i64 x.Bad, Value.int .i64 x.Aborts, Value.int .i64 x.Runts, Value.int .i64 x.Giants, Value.int .i64 x.Dropped, Value.int .i64 x.Twins]) 42] h) h) :: L) w0 w from hs)
 obtain ⟨hi, hs⟩ := h1
 exact ⟨hi, St.open (m := [blk b (#[Value.int .i64 x.Good, Value.int .i64 x.Bad, Value.int .i64 x.Aborts, Value.int .i64 x.Runts, Value.int .i64 x.Giants, Value.int .i64 x.Dropped, Value.int .i64 x.Twins]) 42]) hs⟩
theorem api_Counts.close {b : Nat} {l0 : Int} {l1 : Int} {l2 : Int} {l3 : Int} {l4 : Int} {l5 : Int} {l6 : Int}  {L : List As} {w0 w : World} (hi : True) (hs : Sep.St (blk b (#[Value.int .i64 l0, Value.int .i64 l1, Value.int .i64 l2, Value.int .i64 l3, Value.int .i64 l4, Value.int .i64 l5, Value.int .i64 l6]) 42 :: L) w0 w) : Sep.St (api_Counts.at b ({ Good := l0, Bad := l1, Aborts := l2, Runts := l3, Giants := l4, Dropped := l5, Twins := l6 } : api_Counts) :: L) w0 w := by
 have h2 := St.join (m := [blk b (#[Value.int .i64 l0, Value.int .i64 l1, Value.int .i64 l2, Value.int .i64 l3, Value.int .i64 l4, Value.int .i64 l5, Value.int .i64 l6]) 42]) hs
 exact h2.mono fun h hh => ⟨hi, hh⟩
mutual
def station_Station_Counts.j0 (a0 : station_Station) (a1 : Int) (x17 : api_Counts) : Option api_Counts := (if 0 ≤ a1 ∧ a1 < 2 then (if a1 = 0 then ((ring_Ring_Dropped.f a0.sides.1.ring).bind fun t23 => some ({ x17 with Dropped := t23 } : api_Counts)) else ((ring_Ring_Dropped.f a0.sides.2.ring).bind fun t33 => some ({ x17 with Dropped := t33 } : api_Counts))) else none)
end
def station_Station_Counts.f (a0 : station_Station) (a1 : Int) : Option api_Counts := ((station_has.f a1).bind fun t13 => (if t13 = true then (if 0 ≤ a1 ∧ a1 < 2 then (if a1 = 0 then (station_Station_Counts.j0 a0 a1 a0.sides.1.counts) else (station_Station_Counts.j0 a0 a1 a0.sides.2.counts)) else none) else some ({ Good := 0, Bad := 0, Aborts := 0, Runts := 0, Giants := 0, Dropped := 0, Twins := 0 } : api_Counts)))
theorem station_Station_Counts.calls {a0 : station_Station} {a1 : Int} {R : As} {w0 w : World} {b0 : Nat} {b16_p0 : Nat} {b17_p0 : Nat} {b18_p0 : Nat} {b22_p0 : Nat} {b23_p0 : Nat} {b24_p0 : Nat} {b32_p0 : Nat} {b33_p0 : Nat} {b34_p0 : Nat} {r : api_Counts} (H : station_Station_Counts.f a0 a1 = some r) (HS : Sep.St [blk b0 (#[Value.int .i64 a0.c.Mode, Value.int .i64 a0.c.Modulus, Value.int .i64 a0.c.Window, Value.int .i64 a0.c.T1, Value.int .i64 a0.c.N2, Value.int .i64 a0.c.Hold, Value.int .i64 a0.c.Wait, Value.int .i64 a0.c.Keep, Value.int .i64 a0.c.Queue, Value.int .i64 a0.c.Size, Value.int .i64 a0.c.Ring, Value.int .i64 a0.c.Rate, Value.int .i64 a0.c.Bad, Value.int .i64 a0.c.Good, Value.bool a0.c.Revert, Value.bool a0.c.Wide, Value.pointer (some ⟨b16_p0, 0, none⟩), Value.pointer (some ⟨b17_p0, 0, none⟩), Value.pointer (some ⟨b18_p0, 0, none⟩), Value.int .u32 a0.number, Value.int .i64 a0.steps, Value.int .i64 a0.line, Value.pointer (some ⟨b22_p0, 0, none⟩), Value.pointer (some ⟨b23_p0, 0, none⟩), Value.pointer (some ⟨b24_p0, 0, none⟩), Value.int .i64 a0.sides.1.counts.Good, Value.int .i64 a0.sides.1.counts.Bad, Value.int .i64 a0.sides.1.counts.Aborts, Value.int .i64 a0.sides.1.counts.Runts, Value.int .i64 a0.sides.1.counts.Giants, Value.int .i64 a0.sides.1.counts.Dropped, Value.int .i64 a0.sides.1.counts.Twins, Value.pointer (some ⟨b32_p0, 0, none⟩), Value.pointer (some ⟨b33_p0, 0, none⟩), Value.pointer (some ⟨b34_p0, 0, none⟩), Value.int .i64 a0.sides.2.counts.Good, Value.int .i64 a0.sides.2.counts.Bad, Value.int .i64 a0.sides.2.counts.Aborts, Value.int .i64 a0.sides.2.counts.Runts, Value.int .i64 a0.sides.2.counts.Giants, Value.int .i64 a0.sides.2.counts.Dropped, Value.int .i64 a0.sides.2.counts.Twins]) 87, arq_Arq.at b16_p0 a0.arq, aps_Aps.at b17_p0 a0.aps, twins_Table.at b18_p0 a0.twins, frame_Reader.at b22_p0 a0.sides.1.reader, monitor_Monitor.at b23_p0 a0.sides.1.monitor, ring_Ring.at b24_p0 a0.sides.1.ring, frame_Reader.at b32_p0 a0.sides.2.reader, monitor_Monitor.at b33_p0 a0.sides.2.monitor, ring_Ring.at b34_p0 a0.sides.2.ring, R] w0 w)  : Calls Tryz.prog 16 #[Value.pointer (some ⟨b0, 0, none⟩), Value.int .i64 a1] w (Ret fun u w => u = Value.agg #[Value.int .i64 r.Good, Value.int .i64 r.Bad, Value.int .i64 r.Aborts, Value.int .i64 r.Runts, Value.int .i64 r.Giants, Value.int .i64 r.Dropped, Value.int .i64 r.Twins] ∧ Sep.St [blk b0 (#[Value.int .i64 a0.c.Mode, Value.int .i64 a0.c.Modulus, Value.int .i64 a0.c.Window, Value.int .i64 a0.c.T1, Value.int .i64 a0.c.N2, Value.int .i64 a0.c.Hold, Value.int .i64 a0.c.Wait, Value.int .i64 a0.c.Keep, Value.int .i64 a0.c.Queue, Value.int .i64 a0.c.Size, Value.int .i64 a0.c.Ring, Value.int .i64 a0.c.Rate, Value.int .i64 a0.c.Bad, Value.int .i64 a0.c.Good, Value.bool a0.c.Revert, Value.bool a0.c.Wide, Value.pointer (some ⟨b16_p0, 0, none⟩), Value.pointer (some ⟨b17_p0, 0, none⟩), Value.pointer (some ⟨b18_p0, 0, none⟩), Value.int .u32 a0.number, Value.int .i64 a0.steps, Value.int .i64 a0.line, Value.pointer (some ⟨b22_p0, 0, none⟩), Value.pointer (some ⟨b23_p0, 0, none⟩), Value.pointer (some ⟨b24_p0, 0, none⟩), Value.int .i64 a0.sides.1.counts.Good, Value.int .i64 a0.sides.1.counts.Bad, Value.int .i64 a0.sides.1.counts.Aborts, Value.int .i64 a0.sides.1.counts.Runts, Value.int .i64 a0.sides.1.counts.Giants, Value.int .i64 a0.sides.1.counts.Dropped, Value.int .i64 a0.sides.1.counts.Twins, Value.pointer (some ⟨b32_p0, 0, none⟩), Value.pointer (some ⟨b33_p0, 0, none⟩), Value.pointer (some ⟨b34_p0, 0, none⟩), Value.int .i64 a0.sides.2.counts.Good, Value.int .i64 a0.sides.2.counts.Bad, Value.int .i64 a0.sides.2.counts.Aborts, Value.int .i64 a0.sides.2.counts.Runts, Value.int .i64 a0.sides.2.counts.Giants, Value.int .i64 a0.sides.2.counts.Dropped, Value.int .i64 a0.sides.2.counts.Twins]) 87, arq_Arq.at b16_p0 a0.arq, aps_Aps.at b17_p0 a0.aps, twins_Table.at b18_p0 a0.twins, frame_Reader.at b22_p0 a0.sides.1.reader, monitor_Monitor.at b23_p0 a0.sides.1.monitor, ring_Ring.at b24_p0 a0.sides.1.ring, frame_Reader.at b32_p0 a0.sides.2.reader, monitor_Monitor.at b33_p0 a0.sides.2.monitor, ring_Ring.at b34_p0 a0.sides.2.ring, R] w0 w) := by
 unfold station_Station_Counts.f at H
 refine calls_enter Tryz.func16 rfl rfl ?_
 have H : _ = some r := H
 refine V.seq (V.region (W.e (Y.alloc (z := Value.agg (#[Value.int .i64 (0), Value.int .i64 (0), Value.int .i64 (0), Value.int .i64 (0), Value.int .i64 (0), Value.int .i64 (0), Value.int .i64 (0)])) HS ze42) rfl ?_))
 rintro _ w ⟨nb1, rfl, HS⟩
 refine W.nx (V.seq (V.seq (V.region (W.mv rfl ?_))))
 obtain ⟨t13, A14, H⟩ := bind_s H
 refine W.e (Y.cl Tryz.func61 (station_has.calls A14 HS.j0)) rfl ?_
 rintro _ w ⟨rfl, HS⟩
 replace HS := HS.o0
 refine W.r (X.not rfl) rfl (W.nx ?_)
 by_cases c15 : t13 = true
 ·replace H := ite_t c15 H
  refine V.condF (sb (n_t c15)) (V.skip (At.next (V.meet (σ := Nat × api_Counts) (fun st w => match st with | (nb16, x17) => Sep.St [api_Counts.at nb16 x17, api_Counts.at nb1 ({ Good := 0, Bad := 0, Aborts := 0, Runts := 0, Giants := 0, Dropped := 0, Twins := 0 } : api_Counts), blk b0 (#[Value.int .i64 a0.c.Mode, Value.int .i64 a0.c.Modulus, Value.int .i64 a0.c.Window, Value.int .i64 a0.c.T1, Value.int .i64 a0.c.N2, Value.int .i64 a0.c.Hold, Value.int .i64 a0.c.Wait, Value.int .i64 a0.c.Keep, Value.int .i64 a0.c.Queue, Value.int .i64 a0.c.Size, Value.int .i64 a0.c.Ring, Value.int .i64 a0.c.Rate, Value.int .i64 a0.c.Bad, Value.int .i64 a0.c.Good, Value.bool a0.c.Revert, Value.bool a0.c.Wide, Value.pointer (some ⟨b16_p0, 0, none⟩), Value.pointer (some ⟨b17_p0, 0, none⟩), Value.pointer (some ⟨b18_p0, 0, none⟩), Value.int .u32 a0.number, Value.int .i64 a0.steps, Value.int .i64 a0.line, Value.pointer (some ⟨b22_p0, 0, none⟩), Value.pointer (some ⟨b23_p0, 0, none⟩), Value.pointer (some ⟨b24_p0, 0, none⟩), Value.int .i64 a0.sides.1.counts.Good, Value.int .i64 a0.sides.1.counts.Bad, Value.int .i64 a0.sides.1.counts.Aborts, Value.int .i64 a0.sides.1.counts.Runts, Value.int .i64 a0.sides.1.counts.Giants, Value.int .i64 a0.sides.1.counts.Dropped, Value.int .i64 a0.sides.1.counts.Twins, Value.pointer (some ⟨b32_p0, 0, none⟩), Value.pointer (some ⟨b33_p0, 0, none⟩), Value.pointer (some ⟨b34_p0, 0, none⟩), Value.int .i64 a0.sides.2.counts.Good, Value.int .i64 a0.sides.2.counts.Bad, Value.int .i64 a0.sides.2.counts.Aborts, Value.int .i64 a0.sides.2.counts.Runts, Value.int .i64 a0.sides.2.counts.Giants, Value.int .i64 a0.sides.2.counts.Dropped, Value.int .i64 a0.sides.2.counts.Twins]) 87, arq_Arq.at b16_p0 a0.arq, aps_Aps.at b17_p0 a0.aps, twins_Table.at b18_p0 a0.twins, frame_Reader.at b22_p0 a0.sides.1.reader, monitor_Monitor.at b23_p0 a0.sides.1.monitor, ring_Ring.at b24_p0 a0.sides.1.ring, frame_Reader.at b32_p0 a0.sides.2.reader, monitor_Monitor.at b33_p0 a0.sides.2.monitor, ring_Ring.at b34_p0 a0.sides.2.ring, R] w0 w ∧ station_Station_Counts.j0 a0 a1 x17 = some r) (fun st => match st with | (nb16, x17) => [(0, Value.pointer (some ⟨b0, 0, none⟩)), (1, Value.int .i64 a1), (4, Value.pointer (some ⟨nb1, 0, none⟩)), (5, Value.pointer (some ⟨nb16, 0, none⟩))]) ?_ ?_)))
  ·refine V.region (W.mv rfl (W.mv rfl (W.nc rfl (W.fa fo87_7 rfl ?_))))
   obtain ⟨c40, H⟩ := ite_n H
   by_cases c41 : a1 = 0
   ·replace H := ite_t c41 H
    refine W.r (X.indexArK 0 c41 Tryz.underlying85 inf84 rfl rfl c40.1 c40.2) rfl (W.fa fo84_3 rfl (W.r (X.loadSt 1 [Value.int .i64 a0.sides.1.counts.Good, Value.int .i64 a0.sides.1.counts.Bad, Value.int .i64 a0.sides.1.counts.Aborts, Value.int .i64 a0.sides.1.counts.Runts, Value.int .i64 a0.sides.1.counts.Giants, Value.int .i64 a0.sides.1.counts.Dropped, Value.int .i64 a0.sides.1.counts.Twins] HS rfl Tryz.underlying42 rfl inf42 rfl rfl) rfl (W.e (Y.alloc (z := Value.agg (#[Value.int .i64 (0), Value.int .i64 (0), Value.int .i64 (0), Value.int .i64 (0), Value.int .i64 (0), Value.int .i64 (0), Value.int .i64 (0)])) HS ze42) rfl ?_)))
    rintro _ w ⟨nb42, rfl, HS⟩
    refine W.en (Y.storeSt (c' := #[Value.int .i64 a0.sides.1.counts.Good, Value.int .i64 a0.sides.1.counts.Bad, Value.int .i64 a0.sides.1.counts.Aborts, Value.int .i64 a0.sides.1.counts.Runts, Value.int .i64 a0.sides.1.counts.Giants, Value.int .i64 a0.sides.1.counts.Dropped, Value.int .i64 a0.sides.1.counts.Twins]) 0 [Value.int .i64 a0.sides.1.counts.Good, Value.int .i64 a0.sides.1.counts.Bad, Value.int .i64 a0.sides.1.counts.Aborts, Value.int .i64 a0.sides.1.counts.Runts, Value.int .i64 a0.sides.1.counts.Giants, Value.int .i64 a0.sides.1.counts.Dropped, Value.int .i64 a0.sides.1.counts.Twins] HS rfl inf42 rfl rfl rfl rfl rfl rfl) rfl ?_
    rintro _ w HS
    refine W.nil ?_
    replace HS := api_Counts.close trivial HS
    replace HS := HS.pm [1, 0, 2, 3, 4, 5, 6, 7, 8, 9, 10, 11, 12]
    replace HS := api_Counts.close trivial HS
    replace HS := HS.pk [1, 0, 2, 3, 4, 5, 6, 7, 8, 9, 10, 11, 12] []
    exact At.meet (nb42, a0.sides.1.counts) ⟨rfl, rfl, rfl, rfl, trivial⟩ ⟨HS, H⟩
   ·replace H := ite_f c41 H
    have hk43 : a1 = 1 := by omega
    refine W.r (X.indexArK 1 hk43 Tryz.underlying85 inf84 rfl rfl c40.1 c40.2) rfl (W.fa fo84_3 rfl (W.r (X.loadSt 1 [Value.int .i64 a0.sides.2.counts.Good, Value.int .i64 a0.sides.2.counts.Bad, Value.int .i64 a0.sides.2.counts.Aborts, Value.int .i64 a0.sides.2.counts.Runts, Value.int .i64 a0.sides.2.counts.Giants, Value.int .i64 a0.sides.2.counts.Dropped, Value.int .i64 a0.sides.2.counts.Twins] HS rfl Tryz.underlying42 rfl inf42 rfl rfl) rfl (W.e (Y.alloc (z := Value.agg (#[Value.int .i64 (0), Value.int .i64 (0), Value.int .i64 (0), Value.int .i64 (0), Value.int .i64 (0), Value.int .i64 (0), Value.int .i64 (0)])) HS ze42) rfl ?_)))
    rintro _ w ⟨nb44, rfl, HS⟩
    refine W.en (Y.storeSt (c' := #[Value.int .i64 a0.sides.2.counts.Good, Value.int .i64 a0.sides.2.counts.Bad, Value.int .i64 a0.sides.2.counts.Aborts, Value.int .i64 a0.sides.2.counts.Runts, Value.int .i64 a0.sides.2.counts.Giants, Value.int .i64 a0.sides.2.counts.Dropped, Value.int .i64 a0.sides.2.counts.Twins]) 0 [Value.int .i64 a0.sides.2.counts.Good, Value.int .i64 a0.sides.2.counts.Bad, Value.int .i64 a0.sides.2.counts.Aborts, Value.int .i64 a0.sides.2.counts.Runts, Value.int .i64 a0.sides.2.counts.Giants, Value.int .i64 a0.sides.2.counts.Dropped, Value.int .i64 a0.sides.2.counts.Twins] HS rfl inf42 rfl rfl rfl rfl rfl rfl) rfl ?_
    rintro _ w HS
    refine W.nil ?_
    replace HS := api_Counts.close trivial HS
    replace HS := HS.pm [1, 0, 2, 3, 4, 5, 6, 7, 8, 9, 10, 11, 12]
    replace HS := api_Counts.close trivial HS
    replace HS := HS.pk [1, 0, 2, 3, 4, 5, 6, 7, 8, 9, 10, 11, 12] []
    exact At.meet (nb44, a0.sides.2.counts) ⟨rfl, rfl, rfl, rfl, trivial⟩ ⟨HS, H⟩
  ·rintro ⟨nb16, x17⟩ w ⟨HS, H⟩
   unfold station_Station_Counts.j0 at H
   refine V.seq (V.region (W.mv rfl (W.mv rfl (W.nc rfl (W.fa fo87_7 rfl ?_)))))
   obtain ⟨c19, H⟩ := ite_n H
   by_cases c20 : a1 = 0
   ·replace H := ite_t c20 H
    refine W.r (X.indexArK 0 c20 Tryz.underlying85 inf84 rfl rfl c19.1 c19.2) rfl (W.fa fo84_2 rfl (W.ld 2 HS Tryz.underlying82 rfl rfl rfl rfl ?_))
    replace HS := HS.fr 8
    obtain ⟨a1_21, c1_21, a3_21, c3_21, hi22, HS⟩ := ring_Ring.open HS
    obtain ⟨t23, A24, H⟩ := bind_s H
    refine W.e (Y.cl Tryz.func66 (ring_Ring_Dropped.calls A24 HS.j3)) rfl ?_
    rintro _ w ⟨rfl, HS⟩
    replace HS := HS.o3
    replace HS := HS.fr 3
    obtain ⟨hi26, HS⟩ := api_Counts.open HS
    refine W.fa fo42_5 rfl (W.st 0 5 HS inf3 rfl rfl rfl rfl rfl rfl fun w HS => ?_)
    refine W.nx (V.seq (V.region (W.r (X.loadSt 0 [Value.int .i64 x17.Good, Value.int .i64 x17.Bad, Value.int .i64 x17.Aborts, Value.int .i64 x17.Runts, Value.int .i64 x17.Giants, Value.int .i64 t23, Value.int .i64 x17.Twins] HS rfl Tryz.underlying42 rfl inf42 rfl rfl) rfl ?_)))
    replace HS := HS.fr 4
    obtain ⟨hi28, HS⟩ := api_Counts.open HS
    refine W.en (Y.storeSt (c' := #[Value.int .i64 x17.Good, Value.int .i64 x17.Bad, Value.int .i64 x17.Aborts, Value.int .i64 x17.Runts, Value.int .i64 x17.Giants, Value.int .i64 t23, Value.int .i64 x17.Twins]) 0 [Value.int .i64 x17.Good, Value.int .i64 x17.Bad, Value.int .i64 x17.Aborts, Value.int .i64 x17.Runts, Value.int .i64 x17.Giants, Value.int .i64 t23, Value.int .i64 x17.Twins] HS rfl inf42 rfl rfl rfl rfl rfl rfl) rfl ?_
    rintro _ w HS
    refine W.nx (V.ret ?_)
    have hv29 := run_loadSt (P := Tryz.prog) (p := 0) 0 [Value.int .i64 x17.Good, Value.int .i64 x17.Bad, Value.int .i64 x17.Aborts, Value.int .i64 x17.Runts, Value.int .i64 x17.Giants, Value.int .i64 t23, Value.int .i64 x17.Twins] HS rfl Tryz.underlying42 rfl inf42 rfl
    replace HS := HS.pm [2, 3, 4, 0, 1, 5, 6, 7, 8, 9, 10, 11, 12, 13, 14]
    replace HS := ring_Ring.close trivial HS
    replace HS := HS.pk [3, 4, 5, 6, 7, 8, 0, 9, 10, 11, 12] [1, 2]
    cases H
    exact At.retv1 rfl ⟨_, rfl, hv29⟩ ⟨_, rfl, rfl, HS⟩
   ·replace H := ite_f c20 H
    have hk30 : a1 = 1 := by omega
    refine W.r (X.indexArK 1 hk30 Tryz.underlying85 inf84 rfl rfl c19.1 c19.2) rfl (W.fa fo84_2 rfl (W.ld 2 HS Tryz.underlying82 rfl rfl rfl rfl ?_))
    replace HS := HS.fr 11
    obtain ⟨a1_31, c1_31, a3_31, c3_31, hi32, HS⟩ := ring_Ring.open HS
    obtain ⟨t33, A34, H⟩ := bind_s H
    refine W.e (Y.cl Tryz.func66 (ring_Ring_Dropped.calls A34 HS.j3)) rfl ?_
    rintro _ w ⟨rfl, HS⟩
    replace HS := HS.o3
    replace HS := HS.fr 3
    obtain ⟨hi36, HS⟩ := api_Counts.open HS
    refine W.fa fo42_5 rfl (W.st 0 5 HS inf3 rfl rfl rfl rfl rfl rfl fun w HS => ?_)
    refine W.nx (V.seq (V.region (W.r (X.loadSt 0 [Value.int .i64 x17.Good, Value.int .i64 x17.Bad, Value.int .i64 x17.Aborts, Value.int .i64 x17.Runts, Value.int .i64 x17.Giants, Value.int .i64 t33, Value.int .i64 x17.Twins] HS rfl Tryz.underlying42 rfl inf42 rfl rfl) rfl ?_)))
    replace HS := HS.fr 4
    obtain ⟨hi38, HS⟩ := api_Counts.open HS
    refine W.en (Y.storeSt (c' := #[Value.int .i64 x17.Good, Value.int .i64 x17.Bad, Value.int .i64 x17.Aborts, Value.int .i64 x17.Runts, Value.int .i64 x17.Giants, Value.int .i64 t33, Value.int .i64 x17.Twins]) 0 [Value.int .i64 x17.Good, Value.int .i64 x17.Bad, Value.int .i64 x17.Aborts, Value.int .i64 x17.Runts, Value.int .i64 x17.Giants, Value.int .i64 t33, Value.int .i64 x17.Twins] HS rfl inf42 rfl rfl rfl rfl rfl rfl) rfl ?_
    rintro _ w HS
    refine W.nx (V.ret ?_)
    have hv39 := run_loadSt (P := Tryz.prog) (p := 0) 0 [Value.int .i64 x17.Good, Value.int .i64 x17.Bad, Value.int .i64 x17.Aborts, Value.int .i64 x17.Runts, Value.int .i64 x17.Giants, Value.int .i64 t33, Value.int .i64 x17.Twins] HS rfl Tryz.underlying42 rfl inf42 rfl
    replace HS := HS.pm [2, 3, 4, 0, 1, 5, 6, 7, 8, 9, 10, 11, 12, 13, 14]
    replace HS := ring_Ring.close trivial HS
    replace HS := HS.pk [3, 4, 5, 6, 7, 8, 9, 10, 11, 0, 12] [1, 2]
    cases H
    exact At.retv1 rfl ⟨_, rfl, hv39⟩ ⟨_, rfl, rfl, HS⟩
 ·replace H := ite_f c15 H
  refine V.condT (sb (n_f (b_f c15))) (V.seq (V.region (W.r (X.bd (Value.agg #[Value.int .i64 (0), Value.int .i64 (0), Value.int .i64 (0), Value.int .i64 (0), Value.int .i64 (0), Value.int .i64 (0), Value.int .i64 (0)]) rfl (fun _ => by kernel_rfl)) rfl (W.en (Y.storeSt (c' := #[Value.int .i64 (0), Value.int .i64 (0), Value.int .i64 (0), Value.int .i64 (0), Value.int .i64 (0), Value.int .i64 (0), Value.int .i64 (0)]) 0 [Value.int .i64 (0), Value.int .i64 (0), Value.int .i64 (0), Value.int .i64 (0), Value.int .i64 (0), Value.int .i64 (0), Value.int .i64 (0)] HS rfl inf42 rfl rfl rfl rfl rfl rfl) rfl ?_))))
  rintro _ w HS
  refine W.nx (V.ret (At.thenRet ?_))
  have hv45 := run_loadSt (P := Tryz.prog) (p := 0) 0 [Value.int .i64 (0), Value.int .i64 (0), Value.int .i64 (0), Value.int .i64 (0), Value.int .i64 (0), Value.int .i64 (0), Value.int .i64 (0)] HS rfl Tryz.underlying42 rfl inf42 rfl
  replace HS := HS.pk [1, 2, 3, 4, 5, 6, 7, 8, 9, 10, 11] [0]
  cases H
  exact At.retv1 rfl ⟨_, rfl, hv45⟩ ⟨_, rfl, rfl, HS⟩
mutual
def signalmanlaw20_StationTwins.j1  : Option Bool := some false
def signalmanlaw20_StationTwins.l3 : Nat → Int → (List Int) → Bool → Int → station_Station → Option Bool
 | 0, _, _, _, _, _ => none
 | k + 1, a0, a1, a2, x23, x24 => (if x23 < (a1.length : Int) then ((signalmanref1_Frame.f k ([0, 0, 0, IntKind.u8.wrap (x23.fdiv (2 ^ (min (8 : Int).toNat IntKind.i64.bits))), IntKind.u8.wrap x23, 0, 0, 99] : List Int) a2).bind fun t31 => (if 0 ≤ x23 ∧ x23 < (a1.length : Int) then (signalmanlaw20_StationTwins.l4 k a0 a1 a2 x23 t31 (iand .i64 (w64 (a0 + (a1.getD x23.toNat 0))) (1)) 0 x24) else none)) else some true)
def signalmanlaw20_StationTwins.l4 : Nat → Int → (List Int) → Bool → Int → (List Int) → Int → Int → station_Station → Option Bool
 | 0, _, _, _, _, _, _, _, _ => none
 | k + 1, a0, a1, a2, x23, t31, x38, x39, x40 => (if x39 < 2 then (signalmanlaw20_StationTwins.l5 k a0 a1 a2 x23 t31 x38 x39 0 x40) else ((station_Station_Counts.f x40 0).bind fun t61 => ((station_Station_Counts.f x40 1).bind fun t63 => (if (w64 (t61.Twins + t63.Twins)) = (w64 (x23 + 1)) then ((station_Station_Counts.f x40 x38).bind fun t66 => (signalmanlaw20_StationTwins.j6 x23 x40 (signalmanlaw20_StationTwins.l3 k a0 a1 a2) (!(decide (t66.Good = (w64 (x23 + 1))))))) else (signalmanlaw20_StationTwins.j6 x23 x40 (signalmanlaw20_StationTwins.l3 k a0 a1 a2) true)))))
def signalmanlaw20_StationTwins.l5 : Nat → Int → (List Int) → Bool → Int → (List Int) → Int → Int → Int → station_Station → Option Bool
 | 0, _, _, _, _, _, _, _, _, _ => none
 | k + 1, a0, a1, a2, x23, t31, x38, x39, x44, x45 => (if x44 < (t31.length : Int) then (if 0 ≤ x44 ∧ x44 < (t31.length : Int) then ((station_Station_Push.f k x45 x38 (t31.getD x44.toNat 0)).bind fun t52 => (signalmanlaw20_StationTwins.l5 k a0 a1 a2 x23 t31 x38 x39 (w64 (x44 + 1)) t52.2.2)) else none) else (signalmanlaw20_StationTwins.l4 k a0 a1 a2 x23 t31 (w64 (1 - x38)) (w64 (x39 + 1)) x45))
def signalmanlaw20_StationTwins.j6 (x23 : Int) (x40 : station_Station) (Lq56 : Int → station_Station → Option Bool) (x54 : Bool) : Option Bool := (if x54 = true then some false else (Lq56 (w64 (x23 + 1)) x40))
def signalmanlaw20_StationTwins.j2 (k : Nat) (a0 : Int) (a1 : List Int) (a2 : Bool) (t8 : Option station_Station × Int) (t8 : Option station_Station × Int) (t8 : Option station_Station × Int) (x20 : Bool) : Option Bool := (if x20 = true then some false else (signalmanlaw20_StationTwins.l3 k a0 a1 a2 0 (t8.1.getD default)))
def signalmanlaw20_StationTwins.j0 (k : Nat) (a0 : Int) (a1 : List Int) (a2 : Bool) (t1 : Bool) (x3 : Bool) : Option Bool := (if x3 = true then some t1 else ((signalmanlaw20_Good.f 0 3 10 false a2).bind fun t6 => ((station_New.f k t6).bind fun t8 => (if t8.1.isNone = true then ((signalmanlaw20_num.f t8.2).bind fun t14 => (if t14 = 0 then signalmanlaw20_StationTwins.j1 else signalmanlaw20_StationTwins.j1)) else ((signalmanlaw20_num.f t8.2).bind fun t68 => (if t68 = 0 then (signalmanlaw20_StationTwins.j2 k a0 a1 a2 t8 t8 t8 false) else (signalmanlaw20_StationTwins.j2 k a0 a1 a2 t8 t8 t8 true)))))))
end
def signalmanlaw20_StationTwins.f (k : Nat) (a0 : Int) (a1 : List Int) (a2 : Bool) : Option Bool := ((signalmanlaw20_alive.f k ).bind fun t1 => (if t1 = true then (signalmanlaw20_StationTwins.j0 k a0 a1 a2 t1 (decide ((a1.length : Int) > 30))) else (signalmanlaw20_StationTwins.j0 k a0 a1 a2 t1 true)))
theorem signalmanlaw20_StationTwins.calls {k : Nat} {a0 : Int} {a1 : List Int} {a2 : Bool} {R : As} {w0 w : World} {sa1 : Option Addr} {sc1 : Nat} {r : Bool} (H : signalmanlaw20_StationTwins.f k a0 a1 a2 = some r) (HS : Sep.St [R] w0 w) (hr1 : rdC R 1 (.slice sa1 a1.length sc1) a1.length (a1.map (Value.int .i64))) : Calls Tryz.prog 5 #[Value.int .i64 a0, Value.slice sa1 a1.length sc1, Value.bool a2] w (Ret fun u w => u = Value.bool r ∧ Sep.St [R] w0 w) := by
 unfold signalmanlaw20_StationTwins.f at H
 refine calls_enter Tryz.func5 rfl rfl ?_
 have H : _ = some r := H
 refine V.seq (V.region (W.as rfl (W.nx (V.seq (V.region ?_)))))
 obtain ⟨t1, A2, H⟩ := bind_s H
 refine W.e (Y.cl Tryz.func8 (signalmanlaw20_alive.calls A2 HS.j0)) rfl ?_
 rintro _ w ⟨rfl, HS⟩
 replace HS := HS.o0
 refine W.as rfl (W.nx (V.seq (V.meet (σ := Bool) (fun st w => match st with | x3 => Sep.St [R] w0 w ∧ ∃ kf4, kf4 ≤ k ∧ signalmanlaw20_StationTwins.j0 kf4 a0 a1 a2 t1 x3 = some r) (fun st => match st with | x3 => [(0, Value.int .i64 a0), (1, Value.slice sa1 a1.length sc1), (2, Value.bool a2), (7, Value.bool t1), (22, Value.bool x3)]) ?_ ?_)))
 ·refine V.region (W.mv rfl (W.r (X.not rfl) rfl (W.mv rfl ?_)))
  by_cases c71 : t1 = true
  ·replace H := ite_t c71 H
   refine W.want 18 rfl (sb (n_t c71)) (W.mv rfl (W.want 18 rfl (sb (n_t c71)) (W.r (X.lenSl Tryz.underlying48 rfl) rfl (W.want 18 rfl (sb (n_t c71)) (W.r (X.cmp (decide ((a1.length : Int) > 30)) rfl rfl rfl rfl) rfl (W.r (X.pickF (sb (n_t c71)) rfl) rfl (W.nil ?_)))))))
   exact At.meet (decide ((a1.length : Int) > 30)) ⟨rfl, rfl, rfl, rfl, rfl, trivial⟩ ⟨HS, k, by omega, H⟩
  ·replace H := ite_f c71 H
   refine W.pass 18 rfl (sb (n_f (b_f c71))) rfl rfl (W.pass 18 rfl (sb (n_f (b_f c71))) rfl rfl (W.pass 18 rfl (sb (n_f (b_f c71))) rfl rfl (W.r (X.pickT (sb (n_f (b_f c71))) rfl) rfl (W.nil ?_))))
   exact At.meet true ⟨rfl, rfl, rfl, rfl, rfl, trivial⟩ ⟨HS, k, by omega, H⟩
 ·rintro x3 w ⟨HS, kf4, hkkf4, H⟩
  unfold signalmanlaw20_StationTwins.j0 at H
  by_cases c5 : x3 = true
  ·replace H := ite_t c5 H
   refine V.condT (sb c5) (V.seq (V.region (W.mv rfl (W.as rfl (W.nx (V.ret (At.thenRet ?_)))))))
   cases H
   exact At.ret1 rfl rfl ⟨_, rfl, rfl, HS⟩
  ·replace H := ite_f c5 H
   refine V.condF (sb (b_f c5)) (V.skip (At.next (V.seq (V.region (W.mv rfl ?_)))))
   obtain ⟨t6, A7, H⟩ := bind_s H
   refine W.e (Y.cl Tryz.func10 (signalmanlaw20_Good.calls A7 HS.j0)) rfl ?_
   rintro _ w ⟨rfl, HS⟩
   replace HS := HS.o0
   obtain ⟨t8, A9, H⟩ := bind_s H
   by_cases c10 : t8.1.isNone = true
   ·replace H := ite_t c10 H
    refine W.e (Y.cl Tryz.func9 (station_New.calls A9 HS.j0)) rfl ?_
    rintro _ w ⟨bt8_0, rfl, HS⟩
    replace HS := HS.o1
    replace HS := St.optN c10 HS
    rw [optv_n c10]
    refine W.mv rfl (W.r (X.extract rfl rfl) rfl (W.r (X.extract rfl rfl) rfl (W.as rfl (W.as rfl (W.nx (V.seq (V.meet (σ := Unit) (fun st w => match st with | _ => Sep.St [R] w0 w ∧ signalmanlaw20_StationTwins.j1 = some r) (fun st => match st with | _ => [(0, Value.int .i64 a0), (1, Value.slice sa1 a1.length sc1), (2, Value.bool a2), (8, Value.pointer none), (36, Value.bool true)]) ?_ ?_)))))))
    ·refine V.region (W.mv rfl ?_)
     obtain ⟨t14, A15, H⟩ := bind_s H
     refine W.e (Y.cl Tryz.func11 (signalmanlaw20_num.calls A15 HS.j0)) rfl ?_
     rintro _ w ⟨rfl, HS⟩
     replace HS := HS.o0
     refine W.r (X.cmp (!(decide (t14 = 0))) rfl rfl rfl rfl) rfl (W.mv rfl ?_)
     by_cases c16 : t14 = 0
     ·replace H := ite_t c16 H
      refine W.want 33 rfl (sb (n_t (decide_eq_true c16))) (W.mv rfl (W.want 33 rfl (sb (n_t (decide_eq_true c16))) (W.r (X.eqP Tryz.underlying23 rfl rfl) rfl (W.r (X.pickF (sb (n_t (decide_eq_true c16))) rfl) rfl (W.nil ?_)))))
      exact At.meet () ⟨rfl, rfl, rfl, rfl, rfl, trivial⟩ ⟨HS, H⟩
     ·replace H := ite_f c16 H
      refine W.pass 33 rfl (sb (n_f (decide_eq_false c16))) rfl rfl (W.pass 33 rfl (sb (n_f (decide_eq_false c16))) rfl rfl (W.r (X.pickT (sb (n_f (decide_eq_false c16))) rfl) rfl (W.nil ?_)))
      exact At.meet () ⟨rfl, rfl, rfl, rfl, rfl, trivial⟩ ⟨HS, H⟩
    ·rintro ⟨⟩ w ⟨HS, H⟩
     unfold signalmanlaw20_StationTwins.j1 at H
     refine V.condT rfl (V.seq (V.region (W.as rfl (W.nx (V.ret (At.thenRet ?_))))))
     cases H
     exact At.ret1 rfl rfl ⟨_, rfl, rfl, HS⟩
   ·replace H := ite_f c10 H
    refine W.e (Y.cl Tryz.func9 (station_New.calls A9 HS.j0)) rfl ?_
    rintro _ w ⟨bt8_0, rfl, HS⟩
    replace HS := HS.o1
    replace HS := St.optS default c10 HS
    rw [optv_s c10]
    refine W.mv rfl (W.r (X.extract rfl rfl) rfl (W.r (X.extract rfl rfl) rfl (W.as rfl (W.as rfl (W.nx (V.seq (V.meet (σ := Bool) (fun st w => match st with | x20 => Sep.St [station_Station.at bt8_0 (t8.1.getD default), R] w0 w ∧ ∃ kf21, kf21 ≤ kf4 ∧ signalmanlaw20_StationTwins.j2 kf21 a0 a1 a2 t8 t8 t8 x20 = some r) (fun st => match st with | x20 => [(0, Value.int .i64 a0), (1, Value.slice sa1 a1.length sc1), (2, Value.bool a2), (8, Value.pointer (some ⟨bt8_0, 0, none⟩)), (36, Value.bool x20)]) ?_ ?_)))))))
    ·refine V.region (W.mv rfl ?_)
     obtain ⟨t68, A69, H⟩ := bind_s H
     refine W.e (Y.cl Tryz.func11 (signalmanlaw20_num.calls A69 HS.j0)) rfl ?_
     rintro _ w ⟨rfl, HS⟩
     replace HS := HS.o0
     refine W.r (X.cmp (!(decide (t68 = 0))) rfl rfl rfl rfl) rfl (W.mv rfl ?_)
     by_cases c70 : t68 = 0
     ·replace H := ite_t c70 H
      refine W.want 33 rfl (sb (n_t (decide_eq_true c70))) (W.mv rfl (W.want 33 rfl (sb (n_t (decide_eq_true c70))) (W.r (X.eqP Tryz.underlying23 rfl rfl) rfl (W.r (X.pickF (sb (n_t (decide_eq_true c70))) rfl) rfl (W.nil ?_)))))
      exact At.meet false ⟨rfl, rfl, rfl, rfl, rfl, trivial⟩ ⟨HS, kf4, by omega, H⟩
     ·replace H := ite_f c70 H
      refine W.pass 33 rfl (sb (n_f (decide_eq_false c70))) rfl rfl (W.pass 33 rfl (sb (n_f (decide_eq_false c70))) rfl rfl (W.r (X.pickT (sb (n_f (decide_eq_false c70))) rfl) rfl (W.nil ?_)))
      exact At.meet true ⟨rfl, rfl, rfl, rfl, rfl, trivial⟩ ⟨HS, kf4, by omega, H⟩
    ·rintro x20 w ⟨HS, kf21, hkkf21, H⟩
     unfold signalmanlaw20_StationTwins.j2 at H
     by_cases c22 : x20 = true
     ·replace H := ite_t c22 H
      refine V.condT (sb c22) (V.seq (V.region (W.as rfl (W.nx (V.ret (At.thenRet ?_))))))
      replace HS := HS.pk [1] [0]
      cases H
      exact At.ret1 rfl rfl ⟨_, rfl, rfl, HS⟩
     ·replace H := ite_f c22 H
      refine V.condF (sb (b_f c22)) (V.skip (At.next (V.seq (V.seq (V.region (W.as rfl (W.nx (V.block (V.loop (σ := Int × station_Station) (fun kq (st : Int × station_Station) w => match st with | (x23, x24) => Sep.St [station_Station.at bt8_0 x24, R] w0 w ∧ signalmanlaw20_StationTwins.l3 kq a0 a1 a2 x23 x24 = some r ∧ kq ≤ kf21) (fun st => match st with | (x23, x24) => [(0, Value.int .i64 a0), (1, Value.slice sa1 a1.length sc1), (2, Value.bool a2), (8, Value.pointer (some ⟨bt8_0, 0, none⟩)), (10, Value.int .i64 x23)]) kf21 (0, t8.1.getD default) ⟨rfl, rfl, rfl, rfl, rfl, trivial⟩ ⟨HS, H, Nat.le_refl _⟩ ?_)))))))))
      rintro kq25 ⟨x23, x24⟩ w ⟨HS, H, hk26⟩
      cases kq25 with
      | zero => exact absurd H (by simp [signalmanlaw20_StationTwins.l3])
      | succ kq25 =>
       simp only [signalmanlaw20_StationTwins.l3] at H
       refine V.seq (V.seq (V.region (W.mv rfl (W.mv rfl (W.r (X.lenSl Tryz.underlying48 rfl) rfl (W.r (X.cmp (decide (x23 < (a1.length : Int))) rfl rfl rfl rfl) rfl (W.nx ?_)))))))
       by_cases c27 : x23 < (a1.length : Int)
       ·replace H := ite_t c27 H
        refine V.condT (sb (decide_eq_true c27)) (V.skip (At.next (V.seq (V.block (V.seq (V.region (W.mv rfl (W.r (X.shr rfl rfl (by decide)) rfl (W.r (X.conv Tryz.underlying3 Tryz.underlying5 rfl) rfl (W.mv rfl (W.r (X.conv Tryz.underlying3 Tryz.underlying5 rfl) rfl (W.e (Y.ls (e := 5) (Value.int .u8) ([0, 0, 0, IntKind.u8.wrap (x23.fdiv (2 ^ (min (8 : Int).toNat IntKind.i64.bits))), IntKind.u8.wrap x23, 0, 0, 99] : List Int) HS rfl rfl (fun _ => by kernel_rfl)) rfl ?_))))))))))))
        rintro _ w ⟨lb30, rfl, HS⟩
        refine W.mv rfl ?_
        obtain ⟨t31, A32, H⟩ := bind_s H
        refine W.e (Y.cl Tryz.func17 (signalmanref1_Frame.calls A32 HS.j0 (rdC.part 0 row_rd rfl))) rfl ?_
        rintro _ w ⟨at31_0, ct31_0, rfl, HS⟩
        replace HS := HS.o1
        refine W.as rfl (W.nx (V.seq (V.region (W.mv rfl (W.mv rfl (W.mv rfl ?_))))))
        obtain ⟨c33, H⟩ := ite_n H
        obtain ⟨eb34, eo35, hh⟩ := (rdC.at 3 hr1 HS rfl).some (by decide) c33.1 c33.2; subst hh
        refine W.r (X.indexSl Tryz.underlying48 inf3 rfl rfl c33.1 c33.2) rfl (W.r (X.load Tryz.underlying3 rfl rfl ((rdC.at 3 hr1 HS rfl).cellI c33.1 c33.2)) rfl (W.r (X.add rfl rfl) rfl (W.r (X.and rfl rfl) rfl (W.as rfl (W.nx (V.seq (V.seq (V.region (W.as rfl (W.nx (V.block (V.loop (σ := Int × Int × station_Station) (fun kq (st : Int × Int × station_Station) w => match st with | (x38, x39, x40) => Sep.St [row 5 1 (.slice at31_0 t31.length ct31_0) t31.length (t31.map (Value.int .u8)), row 5 1 (.slice (some ⟨lb30, 0, none⟩) (([0, 0, 0, IntKind.u8.wrap (x23.fdiv (2 ^ (min (8 : Int).toNat IntKind.i64.bits))), IntKind.u8.wrap x23, 0, 0, 99] : List Int)).length 8) (([0, 0, 0, IntKind.u8.wrap (x23.fdiv (2 ^ (min (8 : Int).toNat IntKind.i64.bits))), IntKind.u8.wrap x23, 0, 0, 99] : List Int)).length ((([0, 0, 0, IntKind.u8.wrap (x23.fdiv (2 ^ (min (8 : Int).toNat IntKind.i64.bits))), IntKind.u8.wrap x23, 0, 0, 99] : List Int)).map (Value.int .u8)), station_Station.at bt8_0 x40, R] w0 w ∧ signalmanlaw20_StationTwins.l4 kq a0 a1 a2 x23 t31 x38 x39 x40 = some r ∧ kq ≤ kq25) (fun st => match st with | (x38, x39, x40) => [(0, Value.int .i64 a0), (1, Value.slice (some ⟨eb34, eo35, none⟩) a1.length sc1), (2, Value.bool a2), (8, Value.pointer (some ⟨bt8_0, 0, none⟩)), (10, Value.int .i64 x23), (11, Value.slice at31_0 t31.length ct31_0), (12, Value.int .i64 x38), (13, Value.int .i64 x39)]) kq25 (iand .i64 (w64 (a0 + (a1.getD x23.toNat 0))) (1), 0, x24) ⟨rfl, rfl, rfl, rfl, rfl, rfl, rfl, rfl, trivial⟩ ⟨HS, H, Nat.le_refl _⟩ ?_))))))))))))
        rintro kq41 ⟨x38, x39, x40⟩ w ⟨HS, H, hk42⟩
        cases kq41 with
        | zero => exact absurd H (by simp [signalmanlaw20_StationTwins.l4])
        | succ kq41 =>
         simp only [signalmanlaw20_StationTwins.l4] at H
         refine V.seq (V.seq (V.region (W.mv rfl (W.r (X.cmp (decide (x39 < 2)) rfl rfl rfl rfl) rfl (W.nx ?_)))))
         by_cases c43 : x39 < 2
         ·replace H := ite_t c43 H
          refine V.condT (sb (decide_eq_true c43)) (V.skip (At.next (V.seq (V.block (V.seq (V.seq (V.region (W.as rfl (W.nx (V.block (V.loop (σ := Int × station_Station) (fun kq (st : Int × station_Station) w => match st with | (x44, x45) => Sep.St [row 5 1 (.slice at31_0 t31.length ct31_0) t31.length (t31.map (Value.int .u8)), row 5 1 (.slice (some ⟨lb30, 0, none⟩) (([0, 0, 0, IntKind.u8.wrap (x23.fdiv (2 ^ (min (8 : Int).toNat IntKind.i64.bits))), IntKind.u8.wrap x23, 0, 0, 99] : List Int)).length 8) (([0, 0, 0, IntKind.u8.wrap (x23.fdiv (2 ^ (min (8 : Int).toNat IntKind.i64.bits))), IntKind.u8.wrap x23, 0, 0, 99] : List Int)).length ((([0, 0, 0, IntKind.u8.wrap (x23.fdiv (2 ^ (min (8 : Int).toNat IntKind.i64.bits))), IntKind.u8.wrap x23, 0, 0, 99] : List Int)).map (Value.int .u8)), station_Station.at bt8_0 x45, R] w0 w ∧ signalmanlaw20_StationTwins.l5 kq a0 a1 a2 x23 t31 x38 x39 x44 x45 = some r ∧ kq ≤ kq41) (fun st => match st with | (x44, x45) => [(0, Value.int .i64 a0), (1, Value.slice (some ⟨eb34, eo35, none⟩) a1.length sc1), (2, Value.bool a2), (8, Value.pointer (some ⟨bt8_0, 0, none⟩)), (10, Value.int .i64 x23), (11, Value.slice at31_0 t31.length ct31_0), (12, Value.int .i64 x38), (13, Value.int .i64 x39), (14, Value.int .i64 x44)]) kq41 (0, x40) ⟨rfl, rfl, rfl, rfl, rfl, rfl, rfl, rfl, rfl, trivial⟩ ⟨HS, H, Nat.le_refl _⟩ ?_)))))))))))
          rintro kq46 ⟨x44, x45⟩ w ⟨HS, H, hk47⟩
          cases kq46 with
          | zero => exact absurd H (by simp [signalmanlaw20_StationTwins.l5])
          | succ kq46 =>
           simp only [signalmanlaw20_StationTwins.l5] at H
           refine V.seq (V.seq (V.region (W.mv rfl (W.mv rfl (W.r (X.lenSl Tryz.underlying32 rfl) rfl (W.r (X.cmp (decide (x44 < (t31.length : Int))) rfl rfl rfl rfl) rfl (W.nx ?_)))))))
           by_cases c48 : x44 < (t31.length : Int)
           ·replace H := ite_t c48 H
            refine V.condT (sb (decide_eq_true c48)) (V.skip (At.next (V.seq (V.block (V.region (W.mv rfl (W.mv rfl (W.mv rfl (W.mv rfl ?_)))))))))
            obtain ⟨c49, H⟩ := ite_n H
            obtain ⟨eb50, eo51, hh⟩ := (rdC.at 0 row_rd HS rfl).some (by decide) c49.1 c49.2; subst hh
            refine W.r (X.indexSl Tryz.underlying32 inf5 rfl rfl c49.1 c49.2) rfl (W.r (X.load Tryz.underlying5 rfl rfl ((rdC.at 0 row_rd HS rfl).cellI c49.1 c49.2)) rfl ?_)
            obtain ⟨t52, A53, H⟩ := bind_s H
            replace HS := HS.pm [2, 0, 1, 3]
            refine W.e (Y.cl Tryz.func15 (station_Station_Push.calls A53 HS.j1)) rfl ?_
            rintro _ w ⟨at52_1, ct52_1, rfl, HS⟩
            replace HS := HS.o2
            refine W.nil (At.blockEnd (At.next (V.region (W.mv rfl (W.r (X.add rfl rfl) rfl (W.as rfl (W.nil ?_)))))))
            replace HS := HS.pk [2, 3, 1, 4] [0]
            exact At.round kq46 (by omega) (w64 (x44 + 1), t52.2.2) ⟨rfl, rfl, rfl, rfl, rfl, rfl, rfl, rfl, rfl, trivial⟩ ⟨HS, H, by omega⟩
           ·replace H := ite_f c48 H
            refine V.condF (sb (decide_eq_false c48)) (V.exit (At.thenExit (At.thenExit (At.blockExit (At.next (V.region (W.mv rfl (W.r (X.sub rfl rfl) rfl (W.as rfl (W.nil (At.blockEnd (At.next (V.region (W.mv rfl (W.r (X.add rfl rfl) rfl (W.as rfl (W.nil ?_)))))))))))))))))
            exact At.round kq46 (by omega) (w64 (1 - x38), w64 (x39 + 1), x45) ⟨rfl, rfl, rfl, rfl, rfl, rfl, rfl, rfl, trivial⟩ ⟨HS, H, by omega⟩
         ·replace H := ite_f c43 H
          refine V.condF (sb (decide_eq_false c43)) (V.exit (At.thenExit (At.thenExit (At.blockExit (At.next (V.meet (σ := Bool) (fun st w => match st with | x54 => Sep.St [row 5 1 (.slice at31_0 t31.length ct31_0) t31.length (t31.map (Value.int .u8)), row 5 1 (.slice (some ⟨lb30, 0, none⟩) (([0, 0, 0, IntKind.u8.wrap (x23.fdiv (2 ^ (min (8 : Int).toNat IntKind.i64.bits))), IntKind.u8.wrap x23, 0, 0, 99] : List Int)).length 8) (([0, 0, 0, IntKind.u8.wrap (x23.fdiv (2 ^ (min (8 : Int).toNat IntKind.i64.bits))), IntKind.u8.wrap x23, 0, 0, 99] : List Int)).length ((([0, 0, 0, IntKind.u8.wrap (x23.fdiv (2 ^ (min (8 : Int).toNat IntKind.i64.bits))), IntKind.u8.wrap x23, 0, 0, 99] : List Int)).map (Value.int .u8)), station_Station.at bt8_0 x40, R] w0 w ∧ ∃ kl57, kl57 ≤ kq41 ∧ signalmanlaw20_StationTwins.j6 x23 x40 (signalmanlaw20_StationTwins.l3 kl57 a0 a1 a2) x54 = some r) (fun st => match st with | x54 => [(0, Value.int .i64 a0), (1, Value.slice (some ⟨eb34, eo35, none⟩) a1.length sc1), (2, Value.bool a2), (8, Value.pointer (some ⟨bt8_0, 0, none⟩)), (10, Value.int .i64 x23), (95, Value.bool x54)]) ?_ ?_))))))
          ·refine V.region (W.mv rfl ?_)
           replace HS := HS.fr 2
           obtain ⟨b16_59, b17_59, b18_59, b22_59, b23_59, b24_59, b32_59, b33_59, b34_59, hi60, HS⟩ := station_Station.open HS
           obtain ⟨t61, A62, H⟩ := bind_s H
           refine W.e (Y.cl Tryz.func16 (station_Station_Counts.calls A62 HS.j10)) rfl ?_
           rintro _ w ⟨rfl, HS⟩
           replace HS := HS.o10
           refine W.r (X.fdK (Value.int .i64 t61.Twins) rfl (fun _ => by kernel_rfl)) rfl (W.mv rfl ?_)
           obtain ⟨t63, A64, H⟩ := bind_s H
           refine W.e (Y.cl Tryz.func16 (station_Station_Counts.calls A64 HS.j10)) rfl ?_
           rintro _ w ⟨rfl, HS⟩
           replace HS := HS.o10
           refine W.r (X.fdK (Value.int .i64 t63.Twins) rfl (fun _ => by kernel_rfl)) rfl (W.r (X.add rfl rfl) rfl (W.mv rfl (W.r (X.add rfl rfl) rfl (W.r (X.cmp (!(decide ((w64 (t61.Twins + t63.Twins)) = (w64 (x23 + 1))))) rfl rfl rfl rfl) rfl (W.mv rfl ?_)))))
           by_cases c65 : (w64 (t61.Twins + t63.Twins)) = (w64 (x23 + 1))
           ·replace H := ite_t c65 H
            refine W.want 87 rfl (sb (n_t (decide_eq_true c65))) (W.mv rfl (W.want 87 rfl (sb (n_t (decide_eq_true c65))) (W.mv rfl (W.want 87 rfl (sb (n_t (decide_eq_true c65))) ?_))))
            obtain ⟨t66, A67, H⟩ := bind_s H
            refine W.e (Y.cl Tryz.func16 (station_Station_Counts.calls A67 HS.j10)) rfl ?_
            rintro _ w ⟨rfl, HS⟩
            replace HS := HS.o10
            refine W.want 87 rfl (sb (n_t (decide_eq_true c65))) (W.r (X.fdK (Value.int .i64 t66.Good) rfl (fun _ => by kernel_rfl)) rfl (W.want 87 rfl (sb (n_t (decide_eq_true c65))) (W.mv rfl (W.want 87 rfl (sb (n_t (decide_eq_true c65))) (W.r (X.add rfl rfl) rfl (W.want 87 rfl (sb (n_t (decide_eq_true c65))) (W.r (X.cmp (!(decide (t66.Good = (w64 (x23 + 1))))) rfl rfl rfl rfl) rfl (W.r (X.pickF (sb (n_t (decide_eq_true c65))) rfl) rfl (W.nil ?_)))))))))
            replace HS := station_Station.close trivial HS
            replace HS := HS.pk [1, 2, 0, 3] []
            exact At.meet (!(decide (t66.Good = (w64 (x23 + 1))))) ⟨rfl, rfl, rfl, rfl, rfl, rfl, trivial⟩ ⟨HS, kq41, by omega, H⟩
           ·replace H := ite_f c65 H
            refine W.pass 87 rfl (sb (n_f (decide_eq_false c65))) rfl rfl (W.pass 87 rfl (sb (n_f (decide_eq_false c65))) rfl rfl (W.pass 87 rfl (sb (n_f (decide_eq_false c65))) rfl rfl (W.pass 87 rfl (sb (n_f (decide_eq_false c65))) rfl rfl (W.pass 87 rfl (sb (n_f (decide_eq_false c65))) rfl rfl (W.pass 87 rfl (sb (n_f (decide_eq_false c65))) rfl rfl (W.pass 87 rfl (sb (n_f (decide_eq_false c65))) rfl rfl (W.r (X.pickT (sb (n_f (decide_eq_false c65))) rfl) rfl (W.nil ?_))))))))
            replace HS := station_Station.close trivial HS
            replace HS := HS.pk [1, 2, 0, 3] []
            exact At.meet true ⟨rfl, rfl, rfl, rfl, rfl, rfl, trivial⟩ ⟨HS, kq41, by omega, H⟩
          ·rintro x54 w ⟨HS, kl57, hkkl57, H⟩
           unfold signalmanlaw20_StationTwins.j6 at H
           by_cases c58 : x54 = true
           ·replace H := ite_t c58 H
            refine V.condT (sb c58) (V.seq (V.region (W.as rfl (W.nx (V.ret (At.blockRet (At.thenRet (At.thenRet (At.blockRet (At.thenRet ?_))))))))))
            replace HS := HS.pk [3] [0, 1, 2]
            cases H
            exact At.ret1 rfl rfl ⟨_, rfl, rfl, HS⟩
           ·replace H := ite_f c58 H
            refine V.condF (sb (b_f c58)) (V.skip (At.blockEnd (At.next (V.region (W.mv rfl (W.r (X.add rfl rfl) rfl (W.as rfl (W.nil ?_))))))))
            replace HS := HS.pk [2, 3] [0, 1]
            exact At.round kl57 (by omega) (w64 (x23 + 1), x40) ⟨rfl, rfl, rfl, rfl, rfl, trivial⟩ ⟨HS, H, by omega⟩
       ·replace H := ite_f c27 H
        refine V.condF (sb (decide_eq_false c27)) (V.exit (At.thenExit (At.thenExit (At.blockExit (At.next (V.seq (V.region (W.as rfl (W.nx (V.ret ?_))))))))))
        replace HS := HS.pk [1] [0]
        cases H
        exact At.ret1 rfl rfl ⟨_, rfl, rfl, HS⟩
def signalmanlaw20_StationTwins.Pure : Prop := ∀ (a0 : Int) (a1 : List Int) (a2 : Bool), (Lit.int .i64 a0).wf = true → (∀ z ∈ a1, (Lit.int .i64 z).wf = true) → (a1.length : Int) ≤ 9223372036854775807 → ∃ k, signalmanlaw20_StationTwins.f k a0 a1 a2 = some true
end Go.Proofs.YtodbopebbmplaaaGreat
