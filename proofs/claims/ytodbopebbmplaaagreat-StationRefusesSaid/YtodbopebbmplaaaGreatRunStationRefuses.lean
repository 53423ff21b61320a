/- StationRefuses: the functions that its law reaches, as plain functions, and that the machine's calls come to what these say. Conditions: those that stand at each. -/
import Derived.Test.YtodbopebbmplaaaGreatRunStationRefusesP4
set_option linter.all false
set_option maxRecDepth 100000
set_option maxHeartbeats 4000000
set_option synthInstance.maxSize 100000
set_option synthInstance.maxHeartbeats 1000000
namespace Go.Proofs.YtodbopebbmplaaaGreat
open Go.RowKit Go.Proofs.YtodbopebbmplaaaGreat.Sep Go.Proofs.YtodbopebbmplaaaGreat.Walk
mutual
def station_Station_came.j0 (k : Nat) (a0 : station_Station) (a1 : Int) (a2 : List Int) (x7 : Bool) : Option station_Station := (if x7 = true then some a0 else (if 0 ≤ (1 : Int) ∧ (1 : Int) < (a2.length : Int) then (if 0 ≤ (2 : Int) ∧ (2 : Int) < (a2.length : Int) then (if 0 ≤ (3 : Int) ∧ (3 : Int) < (a2.length : Int) then (if 0 ≤ (4 : Int) ∧ (4 : Int) < (a2.length : Int) then ((twins_Table_Fresh.f k a0.twins (ior .u32 (ior .u32 (ior .u32 (IntKind.u32.wrap ((IntKind.u32.wrap (a2.getD (1 : Int).toNat 0)) * 2 ^ (min (24 : Int).toNat IntKind.u32.bits))) (IntKind.u32.wrap ((IntKind.u32.wrap (a2.getD (2 : Int).toNat 0)) * 2 ^ (min (16 : Int).toNat IntKind.u32.bits)))) (IntKind.u32.wrap ((IntKind.u32.wrap (a2.getD (3 : Int).toNat 0)) * 2 ^ (min (8 : Int).toNat IntKind.u32.bits)))) (IntKind.u32.wrap (a2.getD (4 : Int).toNat 0)))).bind fun t16 => (if t16.1 = true then (if 0 ≤ (5 : Int) ∧ (5 : Int) ≤ (a2.length : Int) ∧ (a2.length : Int) ≤ (a2.length : Int) then ((arq_Arq_Input.f k a0.arq (cut a2 (5 : Int) (a2.length : Int))).bind fun t20 => some ({ a0 with arq := t20, twins := t16.2 } : station_Station)) else none) else (if 0 ≤ a1 ∧ a1 < 2 then (if a1 = 0 then some (({ a0 with twins := t16.2, sides := (({ a0.sides.1 with counts := ({ a0.sides.1.counts with Twins := station_one.f a0.sides.1.counts.Twins } : api_Counts) } : station_side), a0.sides.2) } : station_Station)) else some (({ a0 with twins := t16.2, sides := (a0.sides.1, ({ a0.sides.2 with counts := ({ a0.sides.2.counts with Twins := station_one.f a0.sides.2.counts.Twins } : api_Counts) } : station_side)) } : station_Station))) else none))) else none) else none) else none) else none))
def station_Station_came.j1 (a0 : station_Station) (a2 : List Int) (x34 : Bool) : Option station_Station := (if x34 = true then (if 0 ≤ (1 : Int) ∧ (1 : Int) ≤ (a2.length : Int) ∧ (a2.length : Int) ≤ (a2.length : Int) then ((kcode_Read.f (cut a2 (1 : Int) (a2.length : Int))).bind fun t38 => (if t38.2.2 = 0 then ((aps_Aps_Remote.f a0.aps t38.1).bind fun t43 => some ({ a0 with aps := t43 } : station_Station)) else some a0)) else none) else some a0)
def station_Station_came.j2 (a0 : station_Station) (a2 : List Int) (x46 : Bool) : Option station_Station := (if x46 = true then (if 0 ≤ (1 : Int) ∧ (1 : Int) ≤ (a2.length : Int) ∧ (a2.length : Int) ≤ (a2.length : Int) then ((kcode_Read.f (cut a2 (1 : Int) (a2.length : Int))).bind fun t50 => (if t50.2.2 = 0 then ((aps_Aps_Remote.f a0.aps t50.1).bind fun t55 => some ({ a0 with aps := t55 } : station_Station)) else some a0)) else none) else some a0)
end
def station_Station_came.f (k : Nat) (a0 : station_Station) (a1 : Int) (a2 : List Int) : Option station_Station := (if 0 ≤ (0 : Int) ∧ (0 : Int) < (a2.length : Int) then (if (a2.getD (0 : Int).toNat 0) = 0 then (if (a2.length : Int) ≥ 5 then ((station_Station_twice.f a0).bind fun t27 => (if t27 = true then (station_Station_came.j0 k a0 a1 a2 false) else ((aps_Aps_Line.f a0.aps).bind fun t32 => (station_Station_came.j0 k a0 a1 a2 (!(decide (a1 = t32))))))) else (if (a2.getD (0 : Int).toNat 0) = 1 then (station_Station_came.j1 a0 a2 (decide (a1 = 1))) else (station_Station_came.j1 a0 a2 false))) else (if (a2.getD (0 : Int).toNat 0) = 1 then (station_Station_came.j2 a0 a2 (decide (a1 = 1))) else (station_Station_came.j2 a0 a2 false))) else none)
theorem station_Station_came.calls {k : Nat} {a0 : station_Station} {a1 : Int} {a2 : List Int} {R : As} {w0 w : World} {b0 : Nat} {sa2 : Option Addr} {sc2 : Nat} {r : station_Station} (H : station_Station_came.f k a0 a1 a2 = some r) (HS : Sep.St [station_Station.at b0 a0, R] w0 w) (hr2 : rdC R 1 (.slice sa2 a2.length sc2) a2.length (a2.map (Value.int .u8))) : Calls Tryz.prog 65 #[Value.pointer (some ⟨b0, 0, none⟩), Value.int .i64 a1, Value.slice sa2 a2.length sc2] w (Ret fun u w => u = Value.tuple #[] ∧ Sep.St [station_Station.at b0 r, R] w0 w) := by
 unfold station_Station_came.f at H
 refine calls_enter Tryz.func65 rfl rfl ?_
 have H : _ = some r := H
 refine V.block (V.seq (V.region (W.mv rfl ?_)))
 obtain ⟨c2, H⟩ := ite_n H
 obtain ⟨eb3, eo4, hh⟩ := (rdC.at 1 hr2 HS rfl).some (by decide) c2.1 c2.2; subst hh
 refine W.r (X.indexSl Tryz.underlying32 inf5 rfl rfl c2.1 c2.2) rfl (W.r (X.load Tryz.underlying5 rfl rfl ((rdC.at 1 hr2 HS rfl).cellI c2.1 c2.2)) rfl (W.r (X.cmp (decide ((a2.getD (0 : Int).toNat 0) = 0)) rfl rfl rfl rfl) rfl (W.mv rfl ?_)))
 by_cases c5 : (a2.getD (0 : Int).toNat 0) = 0
 ·replace H := ite_t c5 H
  refine W.want 15 rfl (sb (decide_eq_true c5)) (W.mv rfl (W.want 15 rfl (sb (decide_eq_true c5)) (W.r (X.lenSl Tryz.underlying32 rfl) rfl (W.want 15 rfl (sb (decide_eq_true c5)) (W.r (X.cmp (decide ((a2.length : Int) ≥ 5)) rfl rfl rfl rfl) rfl (W.r (X.pickT (sb (decide_eq_true c5)) rfl) rfl (W.as rfl (W.nx ?_))))))))
  by_cases c6 : (a2.length : Int) ≥ 5
  ·replace H := ite_t c6 H
   refine V.condT (sb (decide_eq_true c6)) (V.seq (V.meet (σ := Bool) (fun st w => match st with | x7 => Sep.St [station_Station.at b0 a0, R] w0 w ∧ ∃ kf8, kf8 ≤ k ∧ station_Station_came.j0 kf8 a0 a1 a2 x7 = some r) (fun st => match st with | x7 => [(0, Value.pointer (some ⟨b0, 0, none⟩)), (1, Value.int .i64 a1), (2, Value.slice (some ⟨eb3, eo4, none⟩) a2.length sc2), (31, Value.bool x7)]) ?_ ?_))
   ·refine V.region (W.mv rfl ?_)
    obtain ⟨b16_25, b17_25, b18_25, b22_25, b23_25, b24_25, b32_25, b33_25, b34_25, hi26, HS⟩ := station_Station.open HS
    obtain ⟨t27, A28, H⟩ := bind_s H
    refine W.e (Y.cl Tryz.func49 (station_Station_twice.calls A28 HS.j10)) rfl ?_
    rintro _ w ⟨rfl, HS⟩
    replace HS := HS.o10
    refine W.r (X.not rfl) rfl (W.mv rfl ?_)
    by_cases c29 : t27 = true
    ·replace H := ite_t c29 H
     refine W.pass 23 rfl (sb (n_t c29)) rfl rfl (W.pass 23 rfl (sb (n_t c29)) rfl rfl (W.pass 23 rfl (sb (n_t c29)) rfl rfl (W.pass 23 rfl (sb (n_t c29)) rfl rfl (W.pass 23 rfl (sb (n_t c29)) rfl rfl (W.pass 23 rfl (sb (n_t c29)) rfl rfl (W.pass 23 rfl (sb (n_t c29)) rfl rfl (W.r (X.pickF (sb (n_t c29)) rfl) rfl (W.nil ?_))))))))
     replace HS := station_Station.close trivial HS
     exact At.meet false ⟨rfl, rfl, rfl, rfl, trivial⟩ ⟨HS, k, by omega, H⟩
    ·replace H := ite_f c29 H
     refine W.want 23 rfl (sb (n_f (b_f c29))) (W.mv rfl (W.want 23 rfl (sb (n_f (b_f c29))) (W.mv rfl (W.want 23 rfl (sb (n_f (b_f c29))) (W.nc rfl (W.want 23 rfl (sb (n_f (b_f c29))) (W.fa fo87_2 rfl (W.want 23 rfl (sb (n_f (b_f c29))) (W.ld 0 HS Tryz.underlying75 rfl rfl rfl rfl (W.want 23 rfl (sb (n_f (b_f c29))) ?_))))))))))
     replace HS := HS.fr 2
     obtain ⟨hi31, HS⟩ := aps_Aps.open HS
     obtain ⟨t32, A33, H⟩ := bind_s H
     refine W.e (Y.cl Tryz.func48 (aps_Aps_Line.calls A33 HS.j1)) rfl ?_
     rintro _ w ⟨rfl, HS⟩
     replace HS := HS.o1
     refine W.want 23 rfl (sb (n_f (b_f c29))) (W.r (X.cmp (!(decide (a1 = t32))) rfl rfl rfl rfl) rfl (W.r (X.pickT (sb (n_f (b_f c29))) rfl) rfl (W.nil ?_)))
     replace HS := aps_Aps.close trivial HS
     replace HS := HS.pm [1, 2, 0, 3, 4, 5, 6, 7, 8, 9, 10]
     replace HS := station_Station.close trivial HS
     exact At.meet (!(decide (a1 = t32))) ⟨rfl, rfl, rfl, rfl, trivial⟩ ⟨HS, k, by omega, H⟩
   ·rintro x7 w ⟨HS, kf8, hkkf8, H⟩
    unfold station_Station_came.j0 at H
    by_cases c9 : x7 = true
    ·replace H := ite_t c9 H
     refine V.condT (sb c9) (V.ret (At.thenRet (At.blockRet ?_)))
     cases H
     exact At.ret0 rfl ⟨_, rfl, rfl, HS⟩
    ·replace H := ite_f c9 H
     refine V.condF (sb (b_f c9)) (V.skip (At.next (V.seq ?_)))
     obtain ⟨c10, H⟩ := ite_n H
     obtain ⟨c11, H⟩ := ite_n H
     obtain ⟨c12, H⟩ := ite_n H
     obtain ⟨c13, H⟩ := ite_n H
     refine V.dr [] [] [(32, Value.slice (some ⟨eb3, eo4, none⟩) a2.length sc2), (33, Value.pointer (some ⟨eb3, eo4 + (1 : Int).toNat * 1, none⟩)), (34, Value.int .u8 (a2.getD (1 : Int).toNat 0)), (35, Value.int .u32 (IntKind.u32.wrap (a2.getD (1 : Int).toNat 0))), (36, Value.int .u32 (IntKind.u32.wrap ((IntKind.u32.wrap (a2.getD (1 : Int).toNat 0)) * 2 ^ (min (24 : Int).toNat IntKind.u32.bits)))), (37, Value.slice (some ⟨eb3, eo4, none⟩) a2.length sc2), (38, Value.pointer (some ⟨eb3, eo4 + (2 : Int).toNat * 1, none⟩)), (39, Value.int .u8 (a2.getD (2 : Int).toNat 0)), (40, Value.int .u32 (IntKind.u32.wrap (a2.getD (2 : Int).toNat 0))), (41, Value.int .u32 (IntKind.u32.wrap ((IntKind.u32.wrap (a2.getD (2 : Int).toNat 0)) * 2 ^ (min (16 : Int).toNat IntKind.u32.bits)))), (42, Value.int .u32 (ior .u32 (IntKind.u32.wrap ((IntKind.u32.wrap (a2.getD (1 : Int).toNat 0)) * 2 ^ (min (24 : Int).toNat IntKind.u32.bits))) (IntKind.u32.wrap ((IntKind.u32.wrap (a2.getD (2 : Int).toNat 0)) * 2 ^ (min (16 : Int).toNat IntKind.u32.bits))))), (43, Value.slice (some ⟨eb3, eo4, none⟩) a2.length sc2), (44, Value.pointer (some ⟨eb3, eo4 + (3 : Int).toNat * 1, none⟩)), (45, Value.int .u8 (a2.getD (3 : Int).toNat 0)), (46, Value.int .u32 (IntKind.u32.wrap (a2.getD (3 : Int).toNat 0))), (47, Value.int .u32 (IntKind.u32.wrap ((IntKind.u32.wrap (a2.getD (3 : Int).toNat 0)) * 2 ^ (min (8 : Int).toNat IntKind.u32.bits)))), (48, Value.int .u32 (ior .u32 (ior .u32 (IntKind.u32.wrap ((IntKind.u32.wrap (a2.getD (1 : Int).toNat 0)) * 2 ^ (min (24 : Int).toNat IntKind.u32.bits))) (IntKind.u32.wrap ((IntKind.u32.wrap (a2.getD (2 : Int).toNat 0)) * 2 ^ (min (16 : Int).toNat IntKind.u32.bits)))) (IntKind.u32.wrap ((IntKind.u32.wrap (a2.getD (3 : Int).toNat 0)) * 2 ^ (min (8 : Int).toNat IntKind.u32.bits))))), (49, Value.slice (some ⟨eb3, eo4, none⟩) a2.length sc2), (50, Value.pointer (some ⟨eb3, eo4 + (4 : Int).toNat * 1, none⟩)), (51, Value.int .u8 (a2.getD (4 : Int).toNat 0)), (52, Value.int .u32 (IntKind.u32.wrap (a2.getD (4 : Int).toNat 0))), (53, Value.int .u32 (ior .u32 (ior .u32 (ior .u32 (IntKind.u32.wrap ((IntKind.u32.wrap (a2.getD (1 : Int).toNat 0)) * 2 ^ (min (24 : Int).toNat IntKind.u32.bits))) (IntKind.u32.wrap ((IntKind.u32.wrap (a2.getD (2 : Int).toNat 0)) * 2 ^ (min (16 : Int).toNat IntKind.u32.bits)))) (IntKind.u32.wrap ((IntKind.u32.wrap (a2.getD (3 : Int).toNat 0)) * 2 ^ (min (8 : Int).toNat IntKind.u32.bits)))) (IntKind.u32.wrap (a2.getD (4 : Int).toNat 0)))), (6, Value.int .u32 (ior .u32 (ior .u32 (ior .u32 (IntKind.u32.wrap ((IntKind.u32.wrap (a2.getD (1 : Int).toNat 0)) * 2 ^ (min (24 : Int).toNat IntKind.u32.bits))) (IntKind.u32.wrap ((IntKind.u32.wrap (a2.getD (2 : Int).toNat 0)) * 2 ^ (min (16 : Int).toNat IntKind.u32.bits)))) (IntKind.u32.wrap ((IntKind.u32.wrap (a2.getD (3 : Int).toNat 0)) * 2 ^ (min (8 : Int).toNat IntKind.u32.bits)))) (IntKind.u32.wrap (a2.getD (4 : Int).toNat 0))))] mo HS ?_
     refine T.fn [(0, _), (1, _), (2, _), (6, _)] ⟨rfl, rfl, rfl, rfl, trivial⟩ ⟨.mv 2, .n1 32 rfl rfl (fun w HS => X.indexSl Tryz.underlying32 inf5 rfl rfl c10.1 c10.2), .n1 33 rfl rfl (fun w HS => X.load Tryz.underlying5 rfl rfl ((rdC.at 1 hr2 HS rfl).cellI c10.1 c10.2)), .n1 34 rfl rfl (fun w HS => X.conv Tryz.underlying5 Tryz.underlying79 rfl), .n1 35 rfl rfl (fun w HS => X.shl rfl rfl (by decide)), .mv 2, .n1 37 rfl rfl (fun w HS => X.indexSl Tryz.underlying32 inf5 rfl rfl c11.1 c11.2), .n1 38 rfl rfl (fun w HS => X.load Tryz.underlying5 rfl rfl ((rdC.at 1 hr2 HS rfl).cellI c11.1 c11.2)), .n1 39 rfl rfl (fun w HS => X.conv Tryz.underlying5 Tryz.underlying79 rfl), .n1 40 rfl rfl (fun w HS => X.shl rfl rfl (by decide)), .n2 36 41 rfl rfl rfl (fun w HS => X.or rfl rfl), .mv 2, .n1 43 rfl rfl (fun w HS => X.indexSl Tryz.underlying32 inf5 rfl rfl c12.1 c12.2), .n1 44 rfl rfl (fun w HS => X.load Tryz.underlying5 rfl rfl ((rdC.at 1 hr2 HS rfl).cellI c12.1 c12.2)), .n1 45 rfl rfl (fun w HS => X.conv Tryz.underlying5 Tryz.underlying79 rfl), .n1 46 rfl rfl (fun w HS => X.shl rfl rfl (by decide)), .n2 42 47 rfl rfl rfl (fun w HS => X.or rfl rfl), .mv 2, .n1 49 rfl rfl (fun w HS => X.indexSl Tryz.underlying32 inf5 rfl rfl c13.1 c13.2), .n1 50 rfl rfl (fun w HS => X.load Tryz.underlying5 rfl rfl ((rdC.at 1 hr2 HS rfl).cellI c13.1 c13.2)), .n1 51 rfl rfl (fun w HS => X.conv Tryz.underlying5 Tryz.underlying79 rfl), .n2 48 52 rfl rfl rfl (fun w HS => X.or rfl rfl), .as 53, trivial⟩ (fun w HS => ?_)
     refine At.next (V.seq (V.region (W.mv rfl (W.nc rfl ?_))))
     obtain ⟨b16_14, b17_14, b18_14, b22_14, b23_14, b24_14, b32_14, b33_14, b34_14, hi15, HS⟩ := station_Station.open HS
     refine W.fa fo87_3 rfl (W.ld 0 HS Tryz.underlying77 rfl rfl rfl rfl (W.mv rfl ?_))
     obtain ⟨t16, A17, H⟩ := bind_s H
     replace HS := HS.pm [3, 0, 1, 2, 4, 5, 6, 7, 8, 9, 10]
     refine W.e (Y.cl Tryz.func138 (twins_Table_Fresh.calls A17 HS.j1)) rfl ?_
     rintro _ w ⟨rfl, HS⟩
     replace HS := HS.o1
     refine W.nx ?_
     by_cases c18 : t16.1 = true
     ·replace H := ite_t c18 H
      refine V.condT (sb c18) ?_
      obtain ⟨c19, H⟩ := ite_n H
      refine V.dr [6] [] [(60, Value.pointer (some ⟨b0, 0, none⟩)), (61, Value.pointer (some ⟨b0, 0, none⟩)), (62, Value.pointer (some ⟨b0, 0 + 16, none⟩)), (63, Value.pointer (some ⟨b16_14, 0, none⟩)), (64, Value.slice (some ⟨eb3, eo4, none⟩) a2.length sc2), (65, Value.slice (vaddr (some ⟨eb3, eo4, none⟩) sc2 (5 : Int).toNat 1) (cut a2 (5 : Int) (a2.length : Int)).length (sc2 - (5 : Int).toNat))] mo HS ?_
      refine T.ev [(63, _), (65, _)] [] [0, 1, 2, 3, 4, 5] ⟨rfl, rfl, trivial⟩ ⟨.mv 0, .nc 60, .fa 61 fo87_1, .ld 62 1 Tryz.underlying73, .mv 2, .n1 64 rfl rfl (fun w HS => X.slL Tryz.underlying32 inf5 rfl rfl c19), trivial⟩ rfl (fun w HS => ?_)
      obtain ⟨t20, A21, H⟩ := bind_s H
      replace HS := HS.pm [2, 0, 1, 3, 4, 5, 6, 7, 8, 9, 10]
      refine ⟨_, Y.cl Tryz.func139 (arq_Arq_Input.calls A21 HS.j1 (rdC.part 9 (rdC.subM hr2 c19) rfl)), ?_⟩
      rintro _ w ⟨rfl, HS⟩
      replace HS := HS.o1
      refine T.nw HS ?_
      refine T.fn [] trivial trivial (fun w HS => ?_)
      refine At.blockEnd ?_
      replace HS := HS.pm [2, 0, 3, 1, 4, 5, 6, 7, 8, 9, 10]
      replace HS := station_Station.close trivial HS
      cases H
      exact At.end0 rfl ⟨_, rfl, rfl, HS⟩
     ·replace H := ite_f c18 H
      refine V.condF (sb (b_f c18)) (V.region (W.mv rfl (W.mv rfl (W.nc rfl (W.fa fo87_7 rfl ?_)))))
      obtain ⟨c22, H⟩ := ite_n H
      by_cases c23 : a1 = 0
      ·replace H := ite_t c23 H
       refine W.r (X.indexArK 0 c23 Tryz.underlying85 inf84 rfl rfl c22.1 c22.2) rfl (W.fa fo84_3 rfl (W.fa fo42_6 rfl (W.e (Y.cl Tryz.func63 (station_one.cell 1 31 HS rfl rfl rfl)) rfl ?_)))
       rintro _ w ⟨rfl, HS⟩
       refine W.nil (At.blockEnd ?_)
       replace HS := HS.pm [1, 2, 3, 0, 4, 5, 6, 7, 8, 9, 10]
       replace HS := station_Station.close trivial HS
       cases H
       exact At.end0 rfl ⟨_, rfl, rfl, HS⟩
      ·replace H := ite_f c23 H
       have hk24 : a1 = 1 := by omega
       refine W.r (X.indexArK 1 hk24 Tryz.underlying85 inf84 rfl rfl c22.1 c22.2) rfl (W.fa fo84_3 rfl (W.fa fo42_6 rfl (W.e (Y.cl Tryz.func63 (station_one.cell 1 41 HS rfl rfl rfl)) rfl ?_)))
       rintro _ w ⟨rfl, HS⟩
       refine W.nil (At.blockEnd ?_)
       replace HS := HS.pm [1, 2, 3, 0, 4, 5, 6, 7, 8, 9, 10]
       replace HS := station_Station.close trivial HS
       cases H
       exact At.end0 rfl ⟨_, rfl, rfl, HS⟩
  ·replace H := ite_f c6 H
   refine V.condF (sb (decide_eq_false c6)) (V.meet (σ := Bool) (fun st w => match st with | x34 => Sep.St [station_Station.at b0 a0, R] w0 w ∧ station_Station_came.j1 a0 a2 x34 = some r) (fun st => match st with | x34 => [(0, Value.pointer (some ⟨b0, 0, none⟩)), (2, Value.slice (some ⟨eb3, eo4, none⟩) a2.length sc2), (75, Value.bool x34)]) ?_ ?_)
   ·refine V.region (W.mv rfl (W.r (X.indexSl Tryz.underlying32 inf5 rfl rfl c2.1 c2.2) rfl (W.r (X.load Tryz.underlying5 rfl rfl ((rdC.at 1 hr2 HS rfl).cellI c2.1 c2.2)) rfl (W.r (X.cmp (decide ((a2.getD (0 : Int).toNat 0) = 1)) rfl rfl rfl rfl) rfl (W.mv rfl ?_)))))
    by_cases c45 : (a2.getD (0 : Int).toNat 0) = 1
    ·replace H := ite_t c45 H
     refine W.want 80 rfl (sb (decide_eq_true c45)) (W.mv rfl (W.want 80 rfl (sb (decide_eq_true c45)) (W.r (X.cmp (decide (a1 = 1)) rfl rfl rfl rfl) rfl (W.r (X.pickT (sb (decide_eq_true c45)) rfl) rfl (W.as rfl (W.nil ?_))))))
     exact At.meet (decide (a1 = 1)) ⟨rfl, rfl, rfl, trivial⟩ ⟨HS, H⟩
    ·replace H := ite_f c45 H
     refine W.pass 80 rfl (sb (decide_eq_false c45)) rfl rfl (W.pass 80 rfl (sb (decide_eq_false c45)) rfl rfl (W.r (X.pickF (sb (decide_eq_false c45)) rfl) rfl (W.as rfl (W.nil ?_))))
     exact At.meet false ⟨rfl, rfl, rfl, trivial⟩ ⟨HS, H⟩
   ·rintro x34 w ⟨HS, H⟩
    unfold station_Station_came.j1 at H
    by_cases c36 : x34 = true
    ·replace H := ite_t c36 H
     refine V.condT (sb c36) (V.seq (V.region (W.mv rfl ?_)))
     obtain ⟨c37, H⟩ := ite_n H
     refine W.r (X.slL Tryz.underlying32 inf5 rfl rfl c37) rfl ?_
     obtain ⟨t38, A39, H⟩ := bind_s H
     refine W.e (Y.cl Tryz.func140 (kcode_Read.calls A39 HS.j0 (rdC.part 1 (rdC.subM hr2 c37) rfl))) rfl ?_
     rintro _ w ⟨rfl, HS⟩
     replace HS := HS.o0
     refine W.mv rfl (W.r (X.extract rfl rfl) rfl (W.r (X.extract rfl rfl) rfl (W.r (X.extract rfl rfl) rfl (W.as rfl (W.as rfl (W.as rfl (W.nx (V.seq (V.region (W.mv rfl (W.r (X.cmp (decide (t38.2.2 = 0)) rfl rfl rfl rfl) rfl (W.nx ?_))))))))))))
     by_cases c40 : t38.2.2 = 0
     ·replace H := ite_t c40 H
      refine V.condT (sb (decide_eq_true c40)) (V.region (W.mv rfl (W.nc rfl ?_)))
      obtain ⟨b16_41, b17_41, b18_41, b22_41, b23_41, b24_41, b32_41, b33_41, b34_41, hi42, HS⟩ := station_Station.open HS
      refine W.fa fo87_2 rfl (W.ld 0 HS Tryz.underlying75 rfl rfl rfl rfl (W.mv rfl ?_))
      obtain ⟨t43, A44, H⟩ := bind_s H
      replace HS := HS.pm [2, 0, 1, 3, 4, 5, 6, 7, 8, 9, 10]
      refine W.e (Y.cl Tryz.func141 (aps_Aps_Remote.calls A44 HS.j1)) rfl ?_
      rintro _ w ⟨rfl, HS⟩
      replace HS := HS.o1
      refine W.nil (At.blockEnd ?_)
      replace HS := HS.pm [1, 2, 0, 3, 4, 5, 6, 7, 8, 9, 10]
      replace HS := station_Station.close trivial HS
      cases H
      exact At.end0 rfl ⟨_, rfl, rfl, HS⟩
     ·replace H := ite_f c40 H
      refine V.condF (sb (decide_eq_false c40)) (V.skip (At.blockEnd ?_))
      cases H
      exact At.end0 rfl ⟨_, rfl, rfl, HS⟩
    ·replace H := ite_f c36 H
     refine V.condF (sb (b_f c36)) (V.skip (At.blockEnd ?_))
     cases H
     exact At.end0 rfl ⟨_, rfl, rfl, HS⟩
 ·replace H := ite_f c5 H
  refine W.pass 15 rfl (sb (decide_eq_false c5)) rfl rfl (W.pass 15 rfl (sb (decide_eq_false c5)) rfl rfl (W.pass 15 rfl (sb (decide_eq_false c5)) rfl rfl (W.r (X.pickF (sb (decide_eq_false c5)) rfl) rfl (W.as rfl (W.nx (V.condF rfl (V.meet (σ := Bool) (fun st w => match st with | x46 => Sep.St [station_Station.at b0 a0, R] w0 w ∧ station_Station_came.j2 a0 a2 x46 = some r) (fun st => match st with | x46 => [(0, Value.pointer (some ⟨b0, 0, none⟩)), (2, Value.slice (some ⟨eb3, eo4, none⟩) a2.length sc2), (75, Value.bool x46)]) ?_ ?_)))))))
  ·refine V.region (W.mv rfl (W.r (X.indexSl Tryz.underlying32 inf5 rfl rfl c2.1 c2.2) rfl (W.r (X.load Tryz.underlying5 rfl rfl ((rdC.at 1 hr2 HS rfl).cellI c2.1 c2.2)) rfl (W.r (X.cmp (decide ((a2.getD (0 : Int).toNat 0) = 1)) rfl rfl rfl rfl) rfl (W.mv rfl ?_)))))
   by_cases c57 : (a2.getD (0 : Int).toNat 0) = 1
   ·replace H := ite_t c57 H
    refine W.want 80 rfl (sb (decide_eq_true c57)) (W.mv rfl (W.want 80 rfl (sb (decide_eq_true c57)) (W.r (X.cmp (decide (a1 = 1)) rfl rfl rfl rfl) rfl (W.r (X.pickT (sb (decide_eq_true c57)) rfl) rfl (W.as rfl (W.nil ?_))))))
    exact At.meet (decide (a1 = 1)) ⟨rfl, rfl, rfl, trivial⟩ ⟨HS, H⟩
   ·replace H := ite_f c57 H
    refine W.pass 80 rfl (sb (decide_eq_false c57)) rfl rfl (W.pass 80 rfl (sb (decide_eq_false c57)) rfl rfl (W.r (X.pickF (sb (decide_eq_false c57)) rfl) rfl (W.as rfl (W.nil ?_))))
    exact At.meet false ⟨rfl, rfl, rfl, trivial⟩ ⟨HS, H⟩
  ·rintro x46 w ⟨HS, H⟩
   unfold station_Station_came.j2 at H
   by_cases c48 : x46 = true
   ·replace H := ite_t c48 H
    refine V.condT (sb c48) (V.seq (V.region (W.mv rfl ?_)))
    obtain ⟨c49, H⟩ := ite_n H
    refine W.r (X.slL Tryz.underlying32 inf5 rfl rfl c49) rfl ?_
    obtain ⟨t50, A51, H⟩ := bind_s H
    refine W.e (Y.cl Tryz.func140 (kcode_Read.calls A51 HS.j0 (rdC.part 1 (rdC.subM hr2 c49) rfl))) rfl ?_
    rintro _ w ⟨rfl, HS⟩
    replace HS := HS.o0
    refine W.mv rfl (W.r (X.extract rfl rfl) rfl (W.r (X.extract rfl rfl) rfl (W.r (X.extract rfl rfl) rfl (W.as rfl (W.as rfl (W.as rfl (W.nx (V.seq (V.region (W.mv rfl (W.r (X.cmp (decide (t50.2.2 = 0)) rfl rfl rfl rfl) rfl (W.nx ?_))))))))))))
    by_cases c52 : t50.2.2 = 0
    ·replace H := ite_t c52 H
     refine V.condT (sb (decide_eq_true c52)) (V.region (W.mv rfl (W.nc rfl ?_)))
     obtain ⟨b16_53, b17_53, b18_53, b22_53, b23_53, b24_53, b32_53, b33_53, b34_53, hi54, HS⟩ := station_Station.open HS
     refine W.fa fo87_2 rfl (W.ld 0 HS Tryz.underlying75 rfl rfl rfl rfl (W.mv rfl ?_))
     obtain ⟨t55, A56, H⟩ := bind_s H
     replace HS := HS.pm [2, 0, 1, 3, 4, 5, 6, 7, 8, 9, 10]
     refine W.e (Y.cl Tryz.func141 (aps_Aps_Remote.calls A56 HS.j1)) rfl ?_
     rintro _ w ⟨rfl, HS⟩
     replace HS := HS.o1
     refine W.nil (At.blockEnd ?_)
     replace HS := HS.pm [1, 2, 0, 3, 4, 5, 6, 7, 8, 9, 10]
     replace HS := station_Station.close trivial HS
     cases H
     exact At.end0 rfl ⟨_, rfl, rfl, HS⟩
    ·replace H := ite_f c52 H
     refine V.condF (sb (decide_eq_false c52)) (V.skip (At.blockEnd ?_))
     cases H
     exact At.end0 rfl ⟨_, rfl, rfl, HS⟩
   ·replace H := ite_f c48 H
    refine V.condF (sb (b_f c48)) (V.skip (At.blockEnd ?_))
    cases H
    exact At.end0 rfl ⟨_, rfl, rfl, HS⟩
def station_Station_Push.f (k : Nat) (a0 : station_Station) (a1 : Int) (a2 : Int) : Option (Int × List Int × station_Station) := ((station_has.f a1).bind fun t2 => (if t2 = true then (if 0 ≤ a1 ∧ a1 < 2 then (if a1 = 0 then ((frame_Reader_Push.f k a0.sides.1.reader a2).bind fun t9 => (if t9.1 = 1 then ((monitor_Monitor_Note.f a0.sides.1.monitor true).bind fun t12 => ((station_Station_came.f k ({ a0 with sides := (({ reader := t9.2.2, monitor := t12.2, ring := a0.sides.1.ring, counts := ({ a0.sides.1.counts with Good := station_one.f a0.sides.1.counts.Good } : api_Counts) } : station_side), a0.sides.2) } : station_Station) a1 t9.2.1).bind fun t14 => some (t9.1, t9.2.1, t14))) else (if t9.1 = 2 then some (t9.1, t9.2.1, ({ a0 with sides := (({ a0.sides.1 with reader := t9.2.2, counts := ({ a0.sides.1.counts with Runts := station_one.f a0.sides.1.counts.Runts } : api_Counts) } : station_side), a0.sides.2) } : station_Station)) else (if t9.1 = 4 then ((monitor_Monitor_Note.f a0.sides.1.monitor false).bind fun t18 => some (t9.1, t9.2.1, ({ a0 with sides := (({ reader := t9.2.2, monitor := t18.2, ring := a0.sides.1.ring, counts := ({ a0.sides.1.counts with Bad := station_one.f a0.sides.1.counts.Bad } : api_Counts) } : station_side), a0.sides.2) } : station_Station))) else (if t9.1 = 3 then ((monitor_Monitor_Note.f a0.sides.1.monitor false).bind fun t21 => some (t9.1, t9.2.1, ({ a0 with sides := (({ reader := t9.2.2, monitor := t21.2, ring := a0.sides.1.ring, counts := ({ a0.sides.1.counts with Giants := station_one.f a0.sides.1.counts.Giants } : api_Counts) } : station_side), a0.sides.2) } : station_Station))) else (if t9.1 = 5 then ((monitor_Monitor_Note.f a0.sides.1.monitor false).bind fun t24 => some (t9.1, t9.2.1, ({ a0 with sides := (({ reader := t9.2.2, monitor := t24.2, ring := a0.sides.1.ring, counts := ({ a0.sides.1.counts with Aborts := station_one.f a0.sides.1.counts.Aborts } : api_Counts) } : station_side), a0.sides.2) } : station_Station))) else some (t9.1, t9.2.1, ({ a0 with sides := (({ a0.sides.1 with reader := t9.2.2 } : station_side), a0.sides.2) } : station_Station)))))))) else ((frame_Reader_Push.f k a0.sides.2.reader a2).bind fun t27 => (if t27.1 = 1 then ((monitor_Monitor_Note.f a0.sides.2.monitor true).bind fun t30 => ((station_Station_came.f k ({ a0 with sides := (a0.sides.1, ({ reader := t27.2.2, monitor := t30.2, ring := a0.sides.2.ring, counts := ({ a0.sides.2.counts with Good := station_one.f a0.sides.2.counts.Good } : api_Counts) } : station_side)) } : station_Station) a1 t27.2.1).bind fun t32 => some (t27.1, t27.2.1, t32))) else (if t27.1 = 2 then some (t27.1, t27.2.1, ({ a0 with sides := (a0.sides.1, ({ a0.sides.2 with reader := t27.2.2, counts := ({ a0.sides.2.counts with Runts := station_one.f a0.sides.2.counts.Runts } : api_Counts) } : station_side)) } : station_Station)) else (if t27.1 = 4 then ((monitor_Monitor_Note.f a0.sides.2.monitor false).bind fun t36 => some (t27.1, t27.2.1, ({ a0 with sides := (a0.sides.1, ({ reader := t27.2.2, monitor := t36.2, ring := a0.sides.2.ring, counts := ({ a0.sides.2.counts with Bad := station_one.f a0.sides.2.counts.Bad } : api_Counts) } : station_side)) } : station_Station))) else (if t27.1 = 3 then ((monitor_Monitor_Note.f a0.sides.2.monitor false).bind fun t39 => some (t27.1, t27.2.1, ({ a0 with sides := (a0.sides.1, ({ reader := t27.2.2, monitor := t39.2, ring := a0.sides.2.ring, counts := ({ a0.sides.2.counts with Giants := station_one.f a0.sides.2.counts.Giants } : api_Counts) } : station_side)) } : station_Station))) else (if t27.1 = 5 then ((monitor_Monitor_Note.f a0.sides.2.monitor false).bind fun t42 => some (t27.1, t27.2.1, ({ a0 with sides := (a0.sides.1, ({ reader := t27.2.2, monitor := t42.2, ring := a0.sides.2.ring, counts := ({ a0.sides.2.counts with Aborts := station_one.f a0.sides.2.counts.Aborts } : api_Counts) } : station_side)) } : station_Station))) else some (t27.1, t27.2.1, ({ a0 with sides := (a0.sides.1, ({ a0.sides.2 with reader := t27.2.2 } : station_side)) } : station_Station))))))))) else none) else some (0, ([] : List Int), a0)))
theorem station_Station_Push.calls {k : Nat} {a0 : station_Station} {a1 : Int} {a2 : Int} {R : As} {w0 w : World} {b0 : Nat} {r : Int × List Int × station_Station} (H : station_Station_Push.f k a0 a1 a2 = some r) (HS : Sep.St [station_Station.at b0 a0, R] w0 w)  : Calls Tryz.prog 15 #[Value.pointer (some ⟨b0, 0, none⟩), Value.int .i64 a1, Value.int .u8 a2] w (Ret fun u w => ∃ (aq1 : Option Addr) (cq1 : Nat), u = Value.tuple #[Value.int .i64 r.1, Value.slice aq1 r.2.1.length cq1] ∧ Sep.St [row 5 1 (.slice aq1 r.2.1.length cq1) r.2.1.length (r.2.1.map (Value.int .u8)), station_Station.at b0 r.2.2, R] w0 w) := by
 unfold station_Station_Push.f at H
 refine calls_enter Tryz.func15 rfl rfl ?_
 have H : _ = some r := H
 refine V.seq (V.region (W.as rfl (W.as rfl (W.nx (V.seq (V.seq (V.region (W.mv rfl ?_))))))))
 obtain ⟨t2, A3, H⟩ := bind_s H
 refine W.e (Y.cl Tryz.func61 (station_has.calls A3 HS.j0)) rfl ?_
 rintro _ w ⟨rfl, HS⟩
 replace HS := HS.o0
 refine W.r (X.not rfl) rfl (W.nx ?_)
 by_cases c4 : t2 = true
 ·replace H := ite_t c4 H
  refine V.condF (sb (n_t c4)) (V.skip (At.next (V.seq (V.region (W.mv rfl (W.mv rfl (W.nc rfl ?_)))))))
  obtain ⟨b16_5, b17_5, b18_5, b22_5, b23_5, b24_5, b32_5, b33_5, b34_5, hi6, HS⟩ := station_Station.open HS
  refine W.fa fo87_7 rfl ?_
  obtain ⟨c7, H⟩ := ite_n H
  by_cases c8 : a1 = 0
  ·replace H := ite_t c8 H
   refine W.r (X.indexArK 0 c8 Tryz.underlying85 inf84 rfl rfl c7.1 c7.2) rfl (W.as rfl (W.nx (V.seq (V.region (W.mv rfl (W.nc rfl (W.fa fo84_0 rfl (W.ld 0 HS Tryz.underlying80 rfl rfl rfl rfl (W.mv rfl ?_)))))))))
   obtain ⟨t9, A10, H⟩ := bind_s H
   replace HS := HS.pm [4, 0, 1, 2, 3, 5, 6, 7, 8, 9, 10]
   refine W.e (Y.cl Tryz.func62 (frame_Reader_Push.calls A10 HS.j1)) rfl ?_
   rintro _ w ⟨at9_1, ct9_1, rfl, HS⟩
   replace HS := HS.o2
   refine W.mv rfl (W.r (X.extract rfl rfl) rfl (W.r (X.extract rfl rfl) rfl (W.as rfl (W.as rfl (W.nx (V.seq (V.seq (V.region (W.mv rfl (W.nx (V.block (V.seq (V.region (W.r (X.cmp (decide (t9.1 = 1)) rfl rfl rfl rfl) rfl (W.as rfl (W.nx ?_))))))))))))))))
   by_cases c11 : t9.1 = 1
   ·replace H := ite_t c11 H
    refine V.condT (sb (decide_eq_true c11)) (V.seq (V.region (W.mv rfl (W.nc rfl (W.fa fo84_3 rfl (W.fa fo42_0 rfl (W.e (Y.cl Tryz.func63 (station_one.cell 2 25 HS rfl rfl rfl)) rfl ?_)))))))
    rintro _ w ⟨rfl, HS⟩
    refine W.nx (V.seq (V.region (W.mv rfl (W.nc rfl (W.fa fo84_1 rfl (W.ld 2 HS Tryz.underlying81 rfl rfl rfl rfl ?_))))))
    obtain ⟨t12, A13, H⟩ := bind_s H
    replace HS := HS.pm [6, 0, 1, 2, 3, 4, 5, 7, 8, 9, 10, 11]
    refine W.e (Y.cl Tryz.func64 (monitor_Monitor_Note.calls A13 HS.j1)) rfl ?_
    rintro _ w ⟨rfl, HS⟩
    replace HS := HS.o1
    refine W.nx (V.region (W.mv rfl (W.mv rfl (W.mv rfl ?_))))
    replace HS := HS.pm [3, 4, 5, 6, 2, 0, 7, 8, 9, 10, 1, 11]
    replace HS := station_Station.close trivial HS
    obtain ⟨t14, A15, H⟩ := bind_s H
    refine W.e (Y.cl Tryz.func65 (station_Station_came.calls A15 HS.j1 (rdC.part 0 row_rd rfl))) rfl ?_
    rintro _ w ⟨rfl, HS⟩
    replace HS := HS.o1
    refine W.nil (At.blockEnd (At.next (V.seq (V.region (W.mv rfl (W.mv rfl (W.as rfl (W.as rfl (W.nx (V.ret ?_))))))))))
    replace HS := HS.pk [1, 0, 2] []
    cases H
    exact At.ret2 rfl rfl rfl ⟨_, rfl, at9_1, ct9_1, rfl, HS⟩
   ·replace H := ite_f c11 H
    refine V.condF (sb (decide_eq_false c11)) (V.seq (V.region (W.r (X.cmp (decide (t9.1 = 2)) rfl rfl rfl rfl) rfl (W.as rfl (W.nx ?_)))))
    by_cases c16 : t9.1 = 2
    ·replace H := ite_t c16 H
     refine V.condT (sb (decide_eq_true c16)) (V.region (W.mv rfl (W.nc rfl (W.fa fo84_3 rfl (W.fa fo42_3 rfl (W.e (Y.cl Tryz.func63 (station_one.cell 2 28 HS rfl rfl rfl)) rfl ?_))))))
     rintro _ w ⟨rfl, HS⟩
     refine W.nil (At.blockEnd (At.next (V.seq (V.region (W.mv rfl (W.mv rfl (W.as rfl (W.as rfl (W.nx (V.ret ?_))))))))))
     replace HS := HS.pm [2, 3, 4, 5, 1, 6, 7, 8, 9, 10, 0, 11]
     replace HS := station_Station.close trivial HS
     replace HS := HS.pk [1, 0, 2] []
     cases H
     exact At.ret2 rfl rfl rfl ⟨_, rfl, at9_1, ct9_1, rfl, HS⟩
    ·replace H := ite_f c16 H
     refine V.condF (sb (decide_eq_false c16)) (V.seq (V.region (W.r (X.cmp (decide (t9.1 = 4)) rfl rfl rfl rfl) rfl (W.as rfl (W.nx ?_)))))
     by_cases c17 : t9.1 = 4
     ·replace H := ite_t c17 H
      refine V.condT (sb (decide_eq_true c17)) (V.seq (V.region (W.mv rfl (W.nc rfl (W.fa fo84_3 rfl (W.fa fo42_1 rfl (W.e (Y.cl Tryz.func63 (station_one.cell 2 26 HS rfl rfl rfl)) rfl ?_)))))))
      rintro _ w ⟨rfl, HS⟩
      refine W.nx (V.region (W.mv rfl (W.nc rfl (W.fa fo84_1 rfl (W.ld 2 HS Tryz.underlying81 rfl rfl rfl rfl ?_)))))
      obtain ⟨t18, A19, H⟩ := bind_s H
      replace HS := HS.pm [6, 0, 1, 2, 3, 4, 5, 7, 8, 9, 10, 11]
      refine W.e (Y.cl Tryz.func64 (monitor_Monitor_Note.calls A19 HS.j1)) rfl ?_
      rintro _ w ⟨rfl, HS⟩
      replace HS := HS.o1
      refine W.nil (At.blockEnd (At.next (V.seq (V.region (W.mv rfl (W.mv rfl (W.as rfl (W.as rfl (W.nx (V.ret ?_))))))))))
      replace HS := HS.pm [3, 4, 5, 6, 2, 0, 7, 8, 9, 10, 1, 11]
      replace HS := station_Station.close trivial HS
      replace HS := HS.pk [1, 0, 2] []
      cases H
      exact At.ret2 rfl rfl rfl ⟨_, rfl, at9_1, ct9_1, rfl, HS⟩
     ·replace H := ite_f c17 H
      refine V.condF (sb (decide_eq_false c17)) (V.seq (V.region (W.r (X.cmp (decide (t9.1 = 3)) rfl rfl rfl rfl) rfl (W.as rfl (W.nx ?_)))))
      by_cases c20 : t9.1 = 3
      ·replace H := ite_t c20 H
       refine V.condT (sb (decide_eq_true c20)) (V.seq (V.region (W.mv rfl (W.nc rfl (W.fa fo84_3 rfl (W.fa fo42_4 rfl (W.e (Y.cl Tryz.func63 (station_one.cell 2 29 HS rfl rfl rfl)) rfl ?_)))))))
       rintro _ w ⟨rfl, HS⟩
       refine W.nx (V.region (W.mv rfl (W.nc rfl (W.fa fo84_1 rfl (W.ld 2 HS Tryz.underlying81 rfl rfl rfl rfl ?_)))))
       obtain ⟨t21, A22, H⟩ := bind_s H
       replace HS := HS.pm [6, 0, 1, 2, 3, 4, 5, 7, 8, 9, 10, 11]
       refine W.e (Y.cl Tryz.func64 (monitor_Monitor_Note.calls A22 HS.j1)) rfl ?_
       rintro _ w ⟨rfl, HS⟩
       replace HS := HS.o1
       refine W.nil (At.blockEnd (At.next (V.seq (V.region (W.mv rfl (W.mv rfl (W.as rfl (W.as rfl (W.nx (V.ret ?_))))))))))
       replace HS := HS.pm [3, 4, 5, 6, 2, 0, 7, 8, 9, 10, 1, 11]
       replace HS := station_Station.close trivial HS
       replace HS := HS.pk [1, 0, 2] []
       cases H
       exact At.ret2 rfl rfl rfl ⟨_, rfl, at9_1, ct9_1, rfl, HS⟩
      ·replace H := ite_f c20 H
       refine V.condF (sb (decide_eq_false c20)) (V.seq (V.region (W.r (X.cmp (decide (t9.1 = 5)) rfl rfl rfl rfl) rfl (W.as rfl (W.nx ?_)))))
       by_cases c23 : t9.1 = 5
       ·replace H := ite_t c23 H
        refine V.condT (sb (decide_eq_true c23)) (V.seq (V.region (W.mv rfl (W.nc rfl (W.fa fo84_3 rfl (W.fa fo42_2 rfl (W.e (Y.cl Tryz.func63 (station_one.cell 2 27 HS rfl rfl rfl)) rfl ?_)))))))
        rintro _ w ⟨rfl, HS⟩
        refine W.nx (V.region (W.mv rfl (W.nc rfl (W.fa fo84_1 rfl (W.ld 2 HS Tryz.underlying81 rfl rfl rfl rfl ?_)))))
        obtain ⟨t24, A25, H⟩ := bind_s H
        replace HS := HS.pm [6, 0, 1, 2, 3, 4, 5, 7, 8, 9, 10, 11]
        refine W.e (Y.cl Tryz.func64 (monitor_Monitor_Note.calls A25 HS.j1)) rfl ?_
        rintro _ w ⟨rfl, HS⟩
        replace HS := HS.o1
        refine W.nil (At.blockEnd (At.next (V.seq (V.region (W.mv rfl (W.mv rfl (W.as rfl (W.as rfl (W.nx (V.ret ?_))))))))))
        replace HS := HS.pm [3, 4, 5, 6, 2, 0, 7, 8, 9, 10, 1, 11]
        replace HS := station_Station.close trivial HS
        replace HS := HS.pk [1, 0, 2] []
        cases H
        exact At.ret2 rfl rfl rfl ⟨_, rfl, at9_1, ct9_1, rfl, HS⟩
       ·replace H := ite_f c23 H
        refine V.condF (sb (decide_eq_false c23)) (V.skip (At.blockEnd (At.next (V.seq (V.region (W.mv rfl (W.mv rfl (W.as rfl (W.as rfl (W.nx (V.ret ?_)))))))))))
        replace HS := HS.pm [2, 3, 4, 5, 1, 6, 7, 8, 9, 10, 0, 11]
        replace HS := station_Station.close trivial HS
        replace HS := HS.pk [1, 0, 2] []
        cases H
        exact At.ret2 rfl rfl rfl ⟨_, rfl, at9_1, ct9_1, rfl, HS⟩
  ·replace H := ite_f c8 H
   have hk26 : a1 = 1 := by omega
   refine W.r (X.indexArK 1 hk26 Tryz.underlying85 inf84 rfl rfl c7.1 c7.2) rfl (W.as rfl (W.nx (V.seq (V.region (W.mv rfl (W.nc rfl (W.fa fo84_0 rfl (W.ld 0 HS Tryz.underlying80 rfl rfl rfl rfl (W.mv rfl ?_)))))))))
   obtain ⟨t27, A28, H⟩ := bind_s H
   replace HS := HS.pm [7, 0, 1, 2, 3, 4, 5, 6, 8, 9, 10]
   refine W.e (Y.cl Tryz.func62 (frame_Reader_Push.calls A28 HS.j1)) rfl ?_
   rintro _ w ⟨at27_1, ct27_1, rfl, HS⟩
   replace HS := HS.o2
   refine W.mv rfl (W.r (X.extract rfl rfl) rfl (W.r (X.extract rfl rfl) rfl (W.as rfl (W.as rfl (W.nx (V.seq (V.seq (V.region (W.mv rfl (W.nx (V.block (V.seq (V.region (W.r (X.cmp (decide (t27.1 = 1)) rfl rfl rfl rfl) rfl (W.as rfl (W.nx ?_))))))))))))))))
   by_cases c29 : t27.1 = 1
   ·replace H := ite_t c29 H
    refine V.condT (sb (decide_eq_true c29)) (V.seq (V.region (W.mv rfl (W.nc rfl (W.fa fo84_3 rfl (W.fa fo42_0 rfl (W.e (Y.cl Tryz.func63 (station_one.cell 2 35 HS rfl rfl rfl)) rfl ?_)))))))
    rintro _ w ⟨rfl, HS⟩
    refine W.nx (V.seq (V.region (W.mv rfl (W.nc rfl (W.fa fo84_1 rfl (W.ld 2 HS Tryz.underlying81 rfl rfl rfl rfl ?_))))))
    obtain ⟨t30, A31, H⟩ := bind_s H
    replace HS := HS.pm [9, 0, 1, 2, 3, 4, 5, 6, 7, 8, 10, 11]
    refine W.e (Y.cl Tryz.func64 (monitor_Monitor_Note.calls A31 HS.j1)) rfl ?_
    rintro _ w ⟨rfl, HS⟩
    replace HS := HS.o1
    refine W.nx (V.region (W.mv rfl (W.mv rfl (W.mv rfl ?_))))
    replace HS := HS.pm [3, 4, 5, 6, 7, 8, 9, 2, 0, 10, 1, 11]
    replace HS := station_Station.close trivial HS
    obtain ⟨t32, A33, H⟩ := bind_s H
    refine W.e (Y.cl Tryz.func65 (station_Station_came.calls A33 HS.j1 (rdC.part 0 row_rd rfl))) rfl ?_
    rintro _ w ⟨rfl, HS⟩
    replace HS := HS.o1
    refine W.nil (At.blockEnd (At.next (V.seq (V.region (W.mv rfl (W.mv rfl (W.as rfl (W.as rfl (W.nx (V.ret ?_))))))))))
    replace HS := HS.pk [1, 0, 2] []
    cases H
    exact At.ret2 rfl rfl rfl ⟨_, rfl, at27_1, ct27_1, rfl, HS⟩
   ·replace H := ite_f c29 H
    refine V.condF (sb (decide_eq_false c29)) (V.seq (V.region (W.r (X.cmp (decide (t27.1 = 2)) rfl rfl rfl rfl) rfl (W.as rfl (W.nx ?_)))))
    by_cases c34 : t27.1 = 2
    ·replace H := ite_t c34 H
     refine V.condT (sb (decide_eq_true c34)) (V.region (W.mv rfl (W.nc rfl (W.fa fo84_3 rfl (W.fa fo42_3 rfl (W.e (Y.cl Tryz.func63 (station_one.cell 2 38 HS rfl rfl rfl)) rfl ?_))))))
     rintro _ w ⟨rfl, HS⟩
     refine W.nil (At.blockEnd (At.next (V.seq (V.region (W.mv rfl (W.mv rfl (W.as rfl (W.as rfl (W.nx (V.ret ?_))))))))))
     replace HS := HS.pm [2, 3, 4, 5, 6, 7, 8, 1, 9, 10, 0, 11]
     replace HS := station_Station.close trivial HS
     replace HS := HS.pk [1, 0, 2] []
     cases H
     exact At.ret2 rfl rfl rfl ⟨_, rfl, at27_1, ct27_1, rfl, HS⟩
    ·replace H := ite_f c34 H
     refine V.condF (sb (decide_eq_false c34)) (V.seq (V.region (W.r (X.cmp (decide (t27.1 = 4)) rfl rfl rfl rfl) rfl (W.as rfl (W.nx ?_)))))
     by_cases c35 : t27.1 = 4
     ·replace H := ite_t c35 H
      refine V.condT (sb (decide_eq_true c35)) (V.seq (V.region (W.mv rfl (W.nc rfl (W.fa fo84_3 rfl (W.fa fo42_1 rfl (W.e (Y.cl Tryz.func63 (station_one.cell 2 36 HS rfl rfl rfl)) rfl ?_)))))))
      rintro _ w ⟨rfl, HS⟩
      refine W.nx (V.region (W.mv rfl (W.nc rfl (W.fa fo84_1 rfl (W.ld 2 HS Tryz.underlying81 rfl rfl rfl rfl ?_)))))
      obtain ⟨t36, A37, H⟩ := bind_s H
      replace HS := HS.pm [9, 0, 1, 2, 3, 4, 5, 6, 7, 8, 10, 11]
      refine W.e (Y.cl Tryz.func64 (monitor_Monitor_Note.calls A37 HS.j1)) rfl ?_
      rintro _ w ⟨rfl, HS⟩
      replace HS := HS.o1
      refine W.nil (At.blockEnd (At.next (V.seq (V.region (W.mv rfl (W.mv rfl (W.as rfl (W.as rfl (W.nx (V.ret ?_))))))))))
      replace HS := HS.pm [3, 4, 5, 6, 7, 8, 9, 2, 0, 10, 1, 11]
      replace HS := station_Station.close trivial HS
      replace HS := HS.pk [1, 0, 2] []
      cases H
      exact At.ret2 rfl rfl rfl ⟨_, rfl, at27_1, ct27_1, rfl, HS⟩
     ·replace H := ite_f c35 H
      refine V.condF (sb (decide_eq_false c35)) (V.seq (V.region (W.r (X.cmp (decide (t27.1 = 3)) rfl rfl rfl rfl) rfl (W.as rfl (W.nx ?_)))))
      by_cases c38 : t27.1 = 3
      ·replace H := ite_t c38 H
       refine V.condT (sb (decide_eq_true c38)) (V.seq (V.region (W.mv rfl (W.nc rfl (W.fa fo84_3 rfl (W.fa fo42_4 rfl (W.e (Y.cl Tryz.func63 (station_one.cell 2 39 HS rfl rfl rfl)) rfl ?_)))))))
       rintro _ w ⟨rfl, HS⟩
       refine W.nx (V.region (W.mv rfl (W.nc rfl (W.fa fo84_1 rfl (W.ld 2 HS Tryz.underlying81 rfl rfl rfl rfl ?_)))))
       obtain ⟨t39, A40, H⟩ := bind_s H
       replace HS := HS.pm [9, 0, 1, 2, 3, 4, 5, 6, 7, 8, 10, 11]
       refine W.e (Y.cl Tryz.func64 (monitor_Monitor_Note.calls A40 HS.j1)) rfl ?_
       rintro _ w ⟨rfl, HS⟩
       replace HS := HS.o1
       refine W.nil (At.blockEnd (At.next (V.seq (V.region (W.mv rfl (W.mv rfl (W.as rfl (W.as rfl (W.nx (V.ret ?_))))))))))
       replace HS := HS.pm [3, 4, 5, 6, 7, 8, 9, 2, 0, 10, 1, 11]
       replace HS := station_Station.close trivial HS
       replace HS := HS.pk [1, 0, 2] []
       cases H
       exact At.ret2 rfl rfl rfl ⟨_, rfl, at27_1, ct27_1, rfl, HS⟩
      ·replace H := ite_f c38 H
       refine V.condF (sb (decide_eq_false c38)) (V.seq (V.region (W.r (X.cmp (decide (t27.1 = 5)) rfl rfl rfl rfl) rfl (W.as rfl (W.nx ?_)))))
       by_cases c41 : t27.1 = 5
       ·replace H := ite_t c41 H
        refine V.condT (sb (decide_eq_true c41)) (V.seq (V.region (W.mv rfl (W.nc rfl (W.fa fo84_3 rfl (W.fa fo42_2 rfl (W.e (Y.cl Tryz.func63 (station_one.cell 2 37 HS rfl rfl rfl)) rfl ?_)))))))
        rintro _ w ⟨rfl, HS⟩
        refine W.nx (V.region (W.mv rfl (W.nc rfl (W.fa fo84_1 rfl (W.ld 2 HS Tryz.underlying81 rfl rfl rfl rfl ?_)))))
        obtain ⟨t42, A43, H⟩ := bind_s H
        replace HS := HS.pm [9, 0, 1, 2, 3, 4, 5, 6, 7, 8, 10, 11]
        refine W.e (Y.cl Tryz.func64 (monitor_Monitor_Note.calls A43 HS.j1)) rfl ?_
        rintro _ w ⟨rfl, HS⟩
        replace HS := HS.o1
        refine W.nil (At.blockEnd (At.next (V.seq (V.region (W.mv rfl (W.mv rfl (W.as rfl (W.as rfl (W.nx (V.ret ?_))))))))))
        replace HS := HS.pm [3, 4, 5, 6, 7, 8, 9, 2, 0, 10, 1, 11]
        replace HS := station_Station.close trivial HS
        replace HS := HS.pk [1, 0, 2] []
        cases H
        exact At.ret2 rfl rfl rfl ⟨_, rfl, at27_1, ct27_1, rfl, HS⟩
       ·replace H := ite_f c41 H
        refine V.condF (sb (decide_eq_false c41)) (V.skip (At.blockEnd (At.next (V.seq (V.region (W.mv rfl (W.mv rfl (W.as rfl (W.as rfl (W.nx (V.ret ?_)))))))))))
        replace HS := HS.pm [2, 3, 4, 5, 6, 7, 8, 1, 9, 10, 0, 11]
        replace HS := station_Station.close trivial HS
        replace HS := HS.pk [1, 0, 2] []
        cases H
        exact At.ret2 rfl rfl rfl ⟨_, rfl, at27_1, ct27_1, rfl, HS⟩
 ·replace H := ite_f c4 H
  refine V.condT (sb (n_f (b_f c4))) (V.seq (V.region (W.as rfl (W.as rfl (W.nx (V.ret (At.thenRet ?_)))))))
  replace HS := row_nilF (Value.int .u8) 5 1 HS
  cases H
  exact At.ret2 rfl rfl rfl ⟨_, rfl, none, 0, rfl, HS⟩
def backlog_Log_Add.f (a0 : backlog_Log) (a1 : List Int) : Option (Int × backlog_Log) := (if (w64 ((a0.l.length : Int) - a0.out)) ≥ a0.queue then some (6, a0) else ((slices_Clone_Sbytebyte.f a1).bind fun t5 => (if (a0.l.length : Int) + (([t5] : List (List Int))).length ≤ 1099511627776 then some (0, ({ a0 with l := a0.l ++ ([t5] : List (List Int)) } : backlog_Log)) else none)))
theorem backlog_Log_Add.calls {a0 : backlog_Log} {a1 : List Int} {R : As} {w0 w : World} {b0 : Nat} {sa1 : Option Addr} {sc1 : Nat} {r : Int × backlog_Log} (H : backlog_Log_Add.f a0 a1 = some r) (HS : Sep.St [backlog_Log.at b0 a0, R] w0 w) (hr1 : rdC R 1 (.slice sa1 a1.length sc1) a1.length (a1.map (Value.int .u8))) : Calls Tryz.prog 145 #[Value.pointer (some ⟨b0, 0, none⟩), Value.slice sa1 a1.length sc1] w (Ret fun u w => u = Value.int .i64 r.1 ∧ Sep.St [backlog_Log.at b0 r.2, R] w0 w) := by
 unfold backlog_Log_Add.f at H
 refine calls_enter Tryz.func145 rfl rfl ?_
 have H : _ = some r := H
 refine V.seq (V.region (W.as rfl (W.nx (V.seq (V.seq ?_)))))
 obtain ⟨a5_2, c5_2, d5_2, hi3, HS⟩ := backlog_Log.open HS
 refine V.dr [] [] [(5, Value.pointer (some ⟨b0, 0, none⟩)), (6, Value.pointer (some ⟨b0, 0, none⟩)), (7, Value.pointer (some ⟨b0, 0 + 5, none⟩)), (8, Value.slice a5_2 a0.l.length c5_2), (9, Value.int .i64 (a0.l.length : Int)), (10, Value.pointer (some ⟨b0, 0, none⟩)), (11, Value.pointer (some ⟨b0, 0, none⟩)), (12, Value.pointer (some ⟨b0, 0 + 4, none⟩)), (13, Value.int .i64 a0.out), (14, Value.int .i64 (w64 ((a0.l.length : Int) - a0.out))), (15, Value.pointer (some ⟨b0, 0, none⟩)), (16, Value.pointer (some ⟨b0, 0, none⟩)), (17, Value.pointer (some ⟨b0, 0 + 2, none⟩)), (18, Value.int .i64 a0.queue), (19, Value.bool (decide ((w64 ((a0.l.length : Int) - a0.out)) ≥ a0.queue)))] mo HS ?_
 refine T.fn [(0, _), (1, _), (19, _)] ⟨rfl, rfl, rfl, trivial⟩ ⟨.mv 0, .nc 5, .fa 6 fo194_5, .ld 7 0 Tryz.underlying37, .n1 8 rfl rfl (fun w HS => X.lenSl Tryz.underlying37 rfl), .mv 0, .nc 10, .fa 11 fo194_4, .ld 12 0 Tryz.underlying3, .n2 9 13 rfl rfl rfl (fun w HS => X.sub rfl rfl), .mv 0, .nc 15, .fa 16 fo194_2, .ld 17 0 Tryz.underlying3, .n2 14 18 rfl rfl rfl (fun w HS => X.cmp (decide ((w64 ((a0.l.length : Int) - a0.out)) ≥ a0.queue)) rfl rfl rfl rfl), trivial⟩ (fun w HS => ?_)
 refine At.next ?_
 by_cases c4 : (w64 ((a0.l.length : Int) - a0.out)) ≥ a0.queue
 ·replace H := ite_t c4 H
  refine V.condT (sb (decide_eq_true c4)) (V.seq (V.region (W.as rfl (W.nx (V.ret (At.thenRet ?_))))))
  replace HS := backlog_Log.close trivial HS
  cases H
  exact At.ret1 rfl rfl ⟨_, rfl, rfl, HS⟩
 ·replace H := ite_f c4 H
  refine V.condF (sb (decide_eq_false c4)) (V.skip (At.next (V.seq (V.dr [6, 7, 8, 11] [9, 10] [(20, Value.pointer (some ⟨b0, 0, none⟩)), (21, Value.pointer (some ⟨b0, 0, none⟩)), (22, Value.pointer (some ⟨b0, 0, none⟩)), (23, Value.pointer (some ⟨b0, 0 + 5, none⟩)), (24, Value.slice a5_2 a0.l.length c5_2), (25, Value.slice sa1 a1.length sc1)] mo HS ?_))))
  refine T.ev [(25, _)] [9, 10] [5] ⟨rfl, trivial⟩ ⟨.mv 0, .mv 0, .nc 21, .fa 22 fo194_5, .ld 23 0 Tryz.underlying37, .mv 1, trivial⟩ rfl (fun w HS => ?_)
  obtain ⟨t5, A6, H⟩ := bind_s H
  refine ⟨_, Y.cl Tryz.func130 (slices_Clone_Sbytebyte.calls A6 HS.j0 (rdC.part 3 hr1 rfl)), ?_⟩
  rintro _ w ⟨at5_0, ct5_0, rfl, HS⟩
  replace HS := HS.o1
  refine T.nw HS ?_
  refine T.ev [(26, _)] [9, 10] [] ⟨rfl, trivial⟩ ⟨.mv 0, .mv 0, .nc 21, .fa 22 fo194_5, .ld 23 1 Tryz.underlying37, trivial⟩ rfl (fun w HS => ?_)
  replace HS := St.row_freeze HS
  refine ⟨_, Y.lc (e := 32) (sz := 1) [Value.slice at5_0 t5.length ct5_0] HS rfl rfl (fun _ => by kernel_rfl), ?_⟩
  rintro _ w ⟨lb7, rfl, HS⟩
  replace HS := St.put (A := tie (El.sl (El.int .u8)) ([]) (([] : List (List Int)))) (fun _ => tie.nil) HS
  replace HS := HS.more 2 rfl (fun _ t => t) fsl.pers
  replace HS := St.put (A := tie (El.int .u8) (t5.map (Value.int .u8)) t5) (fun _ => int_tie) HS
  replace HS := St.swap HS
  replace HS := St.sl_close (E := (El.int .u8)) HS
  replace HS := HS.fr 1
  replace HS := HS.fr 1
  replace HS := St.tie_cons HS
  refine T.nw HS ?_
  refine T.ev [(24, _), (27, _)] [] [1, 2, 3, 4] ⟨rfl, rfl, trivial⟩ ⟨.mv 0, .mv 0, .nc 21, .fa 22 fo194_5, .ld 23 3 Tryz.underlying37, trivial⟩ rfl (fun w HS => ?_)
  obtain ⟨c10, H⟩ := ite_n H
  refine ⟨_, Y.app (xs := a0.l) (ys := ([t5] : List (List Int))) 4 Tryz.underlying37 ap32 rfl (by decide) HS rfl rfl rfl (rdC.at 1 row_rd HS rfl) (St.tie_one 0 HS rfl) (by omega) (by omega), ?_⟩
  rintro _ w ⟨ra11, rc12, rfl, HS⟩
  replace HS := HS.fr 5
  replace HS := St.tie_app 1 HS rfl
  refine T.nm [(28, Value.slice ra11 (a0.l ++ ([t5] : List (List Int))).length rc12), (29, Value.pointer (some ⟨b0, 0, none⟩)), (30, Value.pointer (some ⟨b0, 0 + 5, none⟩))] HS ⟨.inl ⟨rfl, rfl⟩, ⟨.inr ⟨by decide, rfl⟩, ⟨.inr ⟨by decide, rfl⟩, trivial⟩⟩⟩ ?_
  refine T.ev [(28, _), (30, _)] [] [0, 9, 10] ⟨rfl, rfl, trivial⟩ ⟨.mv 0, .nc 20, .fa 29 fo194_5, trivial⟩ rfl (fun w HS => ?_)
  refine ⟨_, Y.sto 4 5 HS inf37 rfl rfl rfl rfl rfl rfl, ?_⟩
  rintro _ w HS
  refine T.nn HS ?_
  refine T.fn [] trivial trivial (fun w HS => ?_)
  refine At.next (V.seq (V.region (W.as rfl (W.nx (V.ret ?_)))))
  replace HS := HS.pm [4, 5, 0, 1, 2, 3, 6]
  replace HS := backlog_Log.close trivial HS
  replace HS := HS.pk [0, 4] [1, 2, 3]
  cases H
  exact At.ret1 rfl rfl ⟨_, rfl, rfl, HS⟩
def arq_Arq_Send.f (k : Nat) (a0 : arq_Arq) (a1 : List Int) : Option (Int × arq_Arq) := (if (a1.length : Int) > a0.size then some (5, a0) else (if a0.state = 2 then ((backlog_Log_Add.f a0.log a1).bind fun t12 => (if t12.1 = 0 then ((arq_Arq_pump.f k ({ a0 with log := t12.2, sent := w64 (a0.sent + 1) } : arq_Arq)).bind fun t15 => some (0, t15)) else some (t12.1, ({ a0 with log := t12.2 } : arq_Arq)))) else some (7, a0)))
theorem arq_Arq_Send.calls {k : Nat} {a0 : arq_Arq} {a1 : List Int} {R : As} {w0 w : World} {b0 : Nat} {sa1 : Option Addr} {sc1 : Nat} {r : Int × arq_Arq} (H : arq_Arq_Send.f k a0 a1 = some r) (HS : Sep.St [arq_Arq.at b0 a0, R] w0 w) (hr1 : rdC R 1 (.slice sa1 a1.length sc1) a1.length (a1.map (Value.int .u8))) : Calls Tryz.prog 70 #[Value.pointer (some ⟨b0, 0, none⟩), Value.slice sa1 a1.length sc1] w (Ret fun u w => u = Value.int .i64 r.1 ∧ Sep.St [arq_Arq.at b0 r.2, R] w0 w) := by
 unfold arq_Arq_Send.f at H
 refine calls_enter Tryz.func70 rfl rfl ?_
 have H : _ = some r := H
 refine V.seq (V.region (W.as rfl (W.nx (V.seq (V.block (V.seq (V.region (W.mv rfl (W.r (X.lenSl Tryz.underlying32 rfl) rfl (W.mv rfl (W.nc rfl ?_)))))))))))
 obtain ⟨b8_2, b9_2, b10_2, a11_2, c11_2, d11_2, a12_2, c12_2, hi3, HS⟩ := arq_Arq.open HS
 refine W.fa fo136_3 rfl (W.ld 0 HS Tryz.underlying3 rfl rfl rfl rfl (W.r (X.cmp (decide ((a1.length : Int) > a0.size)) rfl rfl rfl rfl) rfl (W.as rfl (W.nx ?_))))
 by_cases c4 : (a1.length : Int) > a0.size
 ·replace H := ite_t c4 H
  refine V.condT (sb (decide_eq_true c4)) (V.seq (V.region (W.as rfl (W.nx (V.ret (At.blockRet (At.thenRet ?_)))))))
  replace HS := arq_Arq.close trivial HS
  cases H
  exact At.ret1 rfl rfl ⟨_, rfl, rfl, HS⟩
 ·replace H := ite_f c4 H
  refine V.condF (sb (decide_eq_false c4)) (V.seq (V.region (W.mv rfl (W.nc rfl (W.fa fo136_4 rfl (W.ld 0 HS Tryz.underlying3 rfl rfl rfl rfl (W.r (X.cmp (!(decide (a0.state = 2))) rfl rfl rfl rfl) rfl (W.as rfl (W.nx ?_)))))))))
  by_cases c5 : a0.state = 2
  ·replace H := ite_t c5 H
   refine V.condF (sb (n_t (decide_eq_true c5))) (V.skip (At.blockEnd (At.next (V.seq (V.seq (V.region (W.mv rfl (W.nc rfl (W.fa fo136_8 rfl (W.ld 0 HS Tryz.underlying129 rfl rfl rfl rfl (W.mv rfl ?_)))))))))))
   obtain ⟨t12, A13, H⟩ := bind_s H
   replace HS := HS.pm [1, 0, 2, 3, 4, 5, 6, 7]
   refine W.e (Y.cl Tryz.func145 (backlog_Log_Add.calls A13 HS.j1 (rdC.part 6 hr1 rfl))) rfl ?_
   rintro _ w ⟨rfl, HS⟩
   replace HS := HS.o1
   refine W.as rfl (W.nx (V.seq (V.region (W.mv rfl (W.r (X.cmp (!(decide (t12.1 = 0))) rfl rfl rfl rfl) rfl (W.nx ?_))))))
   by_cases c14 : t12.1 = 0
   ·replace H := ite_t c14 H
    refine V.condF (sb (n_t (decide_eq_true c14))) (V.skip (At.next (V.seq (V.region (W.mv rfl (W.nc rfl (W.fa fo136_13 rfl (W.ld 1 HS Tryz.underlying3 rfl rfl rfl rfl (W.r (X.add rfl rfl) rfl (W.nc rfl (W.fa fo136_13 rfl (W.st 1 13 HS inf3 rfl rfl rfl rfl rfl rfl fun w HS => ?_))))))))))))
    refine W.nx (V.seq (V.region (W.mv rfl ?_)))
    replace HS := HS.pm [1, 0, 2, 3, 4, 5, 6, 7]
    replace HS := arq_Arq.close trivial HS
    obtain ⟨t15, A16, H⟩ := bind_s H
    refine W.e (Y.cl Tryz.func146 (arq_Arq_pump.calls A16 HS.j1)) rfl ?_
    rintro _ w ⟨rfl, HS⟩
    replace HS := HS.o1
    refine W.nx (V.seq (V.region (W.as rfl (W.nx (V.ret ?_)))))
    cases H
    exact At.ret1 rfl rfl ⟨_, rfl, rfl, HS⟩
   ·replace H := ite_f c14 H
    refine V.condT (sb (n_f (decide_eq_false c14))) (V.seq (V.region (W.mv rfl (W.as rfl (W.nx (V.ret (At.thenRet ?_)))))))
    replace HS := HS.pm [1, 0, 2, 3, 4, 5, 6, 7]
    replace HS := arq_Arq.close trivial HS
    cases H
    exact At.ret1 rfl rfl ⟨_, rfl, rfl, HS⟩
  ·replace H := ite_f c5 H
   refine V.condT (sb (n_f (decide_eq_false c5))) (V.seq (V.region (W.as rfl (W.nx (V.ret (At.blockRet (At.thenRet ?_)))))))
   replace HS := arq_Arq.close trivial HS
   cases H
   exact At.ret1 rfl rfl ⟨_, rfl, rfl, HS⟩
def station_Station_Send.f (k : Nat) (a0 : station_Station) (a1 : List Int) : Option (Int × station_Station) := ((arq_Arq_Send.f k a0.arq a1).bind fun t3 => some (t3.1, ({ a0 with arq := t3.2 } : station_Station)))
theorem station_Station_Send.calls {k : Nat} {a0 : station_Station} {a1 : List Int} {R : As} {w0 w : World} {b0 : Nat} {sa1 : Option Addr} {sc1 : Nat} {r : Int × station_Station} (H : station_Station_Send.f k a0 a1 = some r) (HS : Sep.St [station_Station.at b0 a0, R] w0 w) (hr1 : rdC R 1 (.slice sa1 a1.length sc1) a1.length (a1.map (Value.int .u8))) : Calls Tryz.prog 19 #[Value.pointer (some ⟨b0, 0, none⟩), Value.slice sa1 a1.length sc1] w (Ret fun u w => u = Value.int .i64 r.1 ∧ Sep.St [station_Station.at b0 r.2, R] w0 w) := by
 unfold station_Station_Send.f at H
 refine calls_enter Tryz.func19 rfl rfl ?_
 have H : _ = some r := H
 refine V.seq (V.region (W.as rfl (W.nx (V.seq (V.region (W.mv rfl (W.nc rfl ?_)))))))
 obtain ⟨b16_1, b17_1, b18_1, b22_1, b23_1, b24_1, b32_1, b33_1, b34_1, hi2, HS⟩ := station_Station.open HS
 refine W.fa fo87_1 rfl (W.ld 0 HS Tryz.underlying73 rfl rfl rfl rfl (W.mv rfl ?_))
 obtain ⟨t3, A4, H⟩ := bind_s H
 replace HS := HS.pm [1, 0, 2, 3, 4, 5, 6, 7, 8, 9, 10]
 refine W.e (Y.cl Tryz.func70 (arq_Arq_Send.calls A4 HS.j1 (rdC.part 9 hr1 rfl))) rfl ?_
 rintro _ w ⟨rfl, HS⟩
 replace HS := HS.o1
 refine W.as rfl (W.nx (V.ret ?_))
 replace HS := HS.pm [1, 0, 2, 3, 4, 5, 6, 7, 8, 9, 10]
 replace HS := station_Station.close trivial HS
 cases H
 exact At.ret1 rfl rfl ⟨_, rfl, rfl, HS⟩
def api_Status.beq (x y : api_Status) : Bool := ((x.State == y.State) && ((x.Line == y.Line) && (((x.Lines.1 == y.Lines.1) && ((x.Lines.2 == y.Lines.2) && true)) && ((x.Sent == y.Sent) && ((x.Acked == y.Acked) && ((x.Lost == y.Lost) && true))))))
mutual
def signalmanlaw20_StationRefuses.j1  : Option Bool := some false
def signalmanlaw20_StationRefuses.j4 (k : Nat) (a1 : List Int) (a2 : Bool) (x26 : station_Station) (x29 : Int) : Option Bool := ((station_Station_Take.f k x26 0 1048576).bind fun t31 => ((station_Station_Take.f k t31.2 1 1048576).bind fun t33 => ((station_Station_Status.f t33.2).bind fun t37 => ((station_Station_Send.f k t33.2 a1).bind fun t40 => ((station_Station_Step.f k t40.2).bind fun t42 => ((signalmanlaw20_num.f t40.1).bind fun t45 => (if t45 = x29 then ((station_Station_Status.f t42.2).bind fun t50 => (if api_Status.beq t50 t37 = true then (if (t42.1.1.length : Int) = 0 then (if (t42.1.2.length : Int) = 0 then some (((decide (t37.State = 2)) == a2)) else some false) else some false) else some false)) else some false)))))))
def signalmanlaw20_StationRefuses.j3 (k : Nat) (a1 : List Int) (a2 : Bool) (x26 : station_Station) (x27 : Int) : Option Bool := (if (a1.length : Int) > 20 then (signalmanlaw20_StationRefuses.j4 k a1 a2 x26 5) else (signalmanlaw20_StationRefuses.j4 k a1 a2 x26 x27))
def signalmanlaw20_StationRefuses.l5 : Nat → (List Int) → Bool → (List Int) → Int → station_Station → Option Bool
 | 0, _, _, _, _, _ => none
 | k + 1, a1, a2, t60, x64, x65 => (if x64 < (t60.length : Int) then (if 0 ≤ x64 ∧ x64 < (t60.length : Int) then ((station_Station_Push.f k x65 0 (t60.getD x64.toNat 0)).bind fun t72 => (signalmanlaw20_StationRefuses.l5 k a1 a2 t60 (w64 (x64 + 1)) t72.2.2)) else none) else ((station_Station_Step.f k x65).bind fun t74 => (signalmanlaw20_StationRefuses.j3 k a1 a2 t74.2 6)))
def signalmanlaw20_StationRefuses.j2 (k : Nat) (a1 : List Int) (a2 : Bool) (t9 : Option station_Station × Int) (t9 : Option station_Station × Int) (t9 : Option station_Station × Int) (x23 : Bool) : Option Bool := (if x23 = true then some false else (if a2 = true then ((signalmanref1_Frame.f k ([0, 0, 0, 0, 1, 0, 1, 127] : List Int) false).bind fun t60 => (signalmanlaw20_StationRefuses.l5 k a1 a2 t60 0 (t9.1.getD default))) else (signalmanlaw20_StationRefuses.j3 k a1 a2 (t9.1.getD default) 7)))
def signalmanlaw20_StationRefuses.j0 (k : Nat) (a0 : Int) (a1 : List Int) (a2 : Bool) (t1 : Bool) (x3 : Bool) : Option Bool := (if x3 = true then some t1 else ((signalmanlaw20_Good.f a0 0 10 false false).bind fun t6 => ((station_New.f k ({ t6 with Queue := 0 } : api_Config)).bind fun t9 => (if t9.1.isNone = true then ((signalmanlaw20_num.f t9.2).bind fun t16 => (if t16 = 0 then signalmanlaw20_StationRefuses.j1 else signalmanlaw20_StationRefuses.j1)) else ((signalmanlaw20_num.f t9.2).bind fun t76 => (if t76 = 0 then (signalmanlaw20_StationRefuses.j2 k a1 a2 t9 t9 t9 false) else (signalmanlaw20_StationRefuses.j2 k a1 a2 t9 t9 t9 true)))))))
end
def signalmanlaw20_StationRefuses.f (k : Nat) (a0 : Int) (a1 : List Int) (a2 : Bool) : Option Bool := ((signalmanlaw20_alive.f k ).bind fun t1 => (if t1 = true then (signalmanlaw20_StationRefuses.j0 k a0 a1 a2 t1 (decide ((a1.length : Int) > 300))) else (signalmanlaw20_StationRefuses.j0 k a0 a1 a2 t1 true)))
theorem signalmanlaw20_StationRefuses.calls {k : Nat} {a0 : Int} {a1 : List Int} {a2 : Bool} {R : As} {w0 w : World} {sa1 : Option Addr} {sc1 : Nat} {r : Bool} (H : signalmanlaw20_StationRefuses.f k a0 a1 a2 = some r) (HS : Sep.St [R] w0 w) (hr1 : rdC R 1 (.slice sa1 a1.length sc1) a1.length (a1.map (Value.int .u8))) : Calls Tryz.prog 6 #[Value.int .i64 a0, Value.slice sa1 a1.length sc1, Value.bool a2] w (Ret fun u w => u = Value.bool r ∧ Sep.St [R] w0 w) := by
 unfold signalmanlaw20_StationRefuses.f at H
 refine calls_enter Tryz.func6 rfl rfl ?_
 have H : _ = some r := H
 refine V.seq (V.region (W.as rfl (W.nx (V.seq (V.region ?_)))))
 obtain ⟨t1, A2, H⟩ := bind_s H
 refine W.e (Y.cl Tryz.func8 (signalmanlaw20_alive.calls A2 HS.j0)) rfl ?_
 rintro _ w ⟨rfl, HS⟩
 replace HS := HS.o0
 refine W.as rfl (W.nx (V.seq (V.meet (σ := Bool) (fun st w => match st with | x3 => Sep.St [R] w0 w ∧ ∃ kf4, kf4 ≤ k ∧ signalmanlaw20_StationRefuses.j0 kf4 a0 a1 a2 t1 x3 = some r) (fun st => match st with | x3 => [(0, Value.int .i64 a0), (1, Value.slice sa1 a1.length sc1), (2, Value.bool a2), (7, Value.bool t1), (24, Value.bool x3)]) ?_ ?_)))
 ·refine V.region (W.mv rfl (W.r (X.not rfl) rfl (W.mv rfl ?_)))
  by_cases c79 : t1 = true
  ·replace H := ite_t c79 H
   refine W.want 20 rfl (sb (n_t c79)) (W.mv rfl (W.want 20 rfl (sb (n_t c79)) (W.r (X.lenSl Tryz.underlying32 rfl) rfl (W.want 20 rfl (sb (n_t c79)) (W.r (X.cmp (decide ((a1.length : Int) > 300)) rfl rfl rfl rfl) rfl (W.r (X.pickF (sb (n_t c79)) rfl) rfl (W.nil ?_)))))))
   exact At.meet (decide ((a1.length : Int) > 300)) ⟨rfl, rfl, rfl, rfl, rfl, trivial⟩ ⟨HS, k, by omega, H⟩
  ·replace H := ite_f c79 H
   refine W.pass 20 rfl (sb (n_f (b_f c79))) rfl rfl (W.pass 20 rfl (sb (n_f (b_f c79))) rfl rfl (W.pass 20 rfl (sb (n_f (b_f c79))) rfl rfl (W.r (X.pickT (sb (n_f (b_f c79))) rfl) rfl (W.nil ?_))))
   exact At.meet true ⟨rfl, rfl, rfl, rfl, rfl, trivial⟩ ⟨HS, k, by omega, H⟩
 ·rintro x3 w ⟨HS, kf4, hkkf4, H⟩
  unfold signalmanlaw20_StationRefuses.j0 at H
  by_cases c5 : x3 = true
  ·replace H := ite_t c5 H
   refine V.condT (sb c5) (V.seq (V.region (W.mv rfl (W.as rfl (W.nx (V.ret (At.thenRet ?_)))))))
   cases H
   exact At.ret1 rfl rfl ⟨_, rfl, rfl, HS⟩
  ·replace H := ite_f c5 H
   refine V.condF (sb (b_f c5)) (V.skip (At.next (V.seq (V.region (W.mv rfl ?_)))))
   obtain ⟨t6, A7, H⟩ := bind_s H
   refine W.e (Y.cl Tryz.func10 (signalmanlaw20_Good.calls A7 HS.j0)) rfl ?_
   rintro _ w ⟨rfl, HS⟩
   replace HS := HS.o0
   refine W.e (Y.alloc (z := Value.agg (#[Value.int .i64 (0), Value.int .i64 (0), Value.int .i64 (0), Value.int .i64 (0), Value.int .i64 (0), Value.int .i64 (0), Value.int .i64 (0), Value.int .i64 (0), Value.int .i64 (0), Value.int .i64 (0), Value.int .i64 (0), Value.int .i64 (0), Value.int .i64 (0), Value.int .i64 (0), Value.bool false, Value.bool false])) HS ze28) rfl ?_
   rintro _ w ⟨nb8, rfl, HS⟩
   refine W.en (Y.storeSt (c' := #[Value.int .i64 t6.Mode, Value.int .i64 t6.Modulus, Value.int .i64 t6.Window, Value.int .i64 t6.T1, Value.int .i64 t6.N2, Value.int .i64 t6.Hold, Value.int .i64 t6.Wait, Value.int .i64 t6.Keep, Value.int .i64 t6.Queue, Value.int .i64 t6.Size, Value.int .i64 t6.Ring, Value.int .i64 t6.Rate, Value.int .i64 t6.Bad, Value.int .i64 t6.Good, Value.bool t6.Revert, Value.bool t6.Wide]) 0 [Value.int .i64 t6.Mode, Value.int .i64 t6.Modulus, Value.int .i64 t6.Window, Value.int .i64 t6.T1, Value.int .i64 t6.N2, Value.int .i64 t6.Hold, Value.int .i64 t6.Wait, Value.int .i64 t6.Keep, Value.int .i64 t6.Queue, Value.int .i64 t6.Size, Value.int .i64 t6.Ring, Value.int .i64 t6.Rate, Value.int .i64 t6.Bad, Value.int .i64 t6.Good, Value.bool t6.Revert, Value.bool t6.Wide] HS rfl inf28 rfl rfl rfl rfl rfl rfl) rfl ?_
   rintro _ w HS
   refine W.nx (V.seq (V.region (W.fa fo28_8 rfl (W.st 0 8 HS inf3 rfl rfl rfl rfl rfl rfl fun w HS => ?_))))
   refine W.nx (V.seq (V.region (W.r (X.loadSt 0 [Value.int .i64 t6.Mode, Value.int .i64 t6.Modulus, Value.int .i64 t6.Window, Value.int .i64 t6.T1, Value.int .i64 t6.N2, Value.int .i64 t6.Hold, Value.int .i64 t6.Wait, Value.int .i64 t6.Keep, Value.int .i64 (0), Value.int .i64 t6.Size, Value.int .i64 t6.Ring, Value.int .i64 t6.Rate, Value.int .i64 t6.Bad, Value.int .i64 t6.Good, Value.bool t6.Revert, Value.bool t6.Wide] HS rfl Tryz.underlying28 rfl inf28 rfl rfl) rfl ?_)))
   obtain ⟨t9, A10, H⟩ := bind_s H
   by_cases c11 : t9.1.isNone = true
   ·replace H := ite_t c11 H
    refine W.e (Y.cl Tryz.func9 (station_New.calls A10 HS.j0)) rfl ?_
    rintro _ w ⟨bt9_0, rfl, HS⟩
    replace HS := HS.o1
    replace HS := St.optN c11 HS
    rw [optv_n c11]
    refine W.mv rfl (W.r (X.extract rfl rfl) rfl (W.r (X.extract rfl rfl) rfl (W.as rfl (W.as rfl (W.nx (V.seq (V.meet (σ := Unit) (fun st w => match st with | _ => Sep.St [api_Config.at nb8 ({ t6 with Queue := 0 } : api_Config), R] w0 w ∧ signalmanlaw20_StationRefuses.j1 = some r) (fun st => match st with | _ => [(1, Value.slice sa1 a1.length sc1), (2, Value.bool a2), (9, Value.pointer none), (40, Value.bool true)]) ?_ ?_)))))))
    ·refine V.region (W.mv rfl ?_)
     obtain ⟨t16, A17, H⟩ := bind_s H
     refine W.e (Y.cl Tryz.func11 (signalmanlaw20_num.calls A17 HS.j0)) rfl ?_
     rintro _ w ⟨rfl, HS⟩
     replace HS := HS.o0
     refine W.r (X.cmp (!(decide (t16 = 0))) rfl rfl rfl rfl) rfl (W.mv rfl ?_)
     by_cases c18 : t16 = 0
     ·replace H := ite_t c18 H
      refine W.want 37 rfl (sb (n_t (decide_eq_true c18))) (W.mv rfl (W.want 37 rfl (sb (n_t (decide_eq_true c18))) (W.r (X.eqP Tryz.underlying23 rfl rfl) rfl (W.r (X.pickF (sb (n_t (decide_eq_true c18))) rfl) rfl (W.nil ?_)))))
      replace HS := api_Config.close trivial HS
      exact At.meet () ⟨rfl, rfl, rfl, rfl, trivial⟩ ⟨HS, H⟩
     ·replace H := ite_f c18 H
      refine W.pass 37 rfl (sb (n_f (decide_eq_false c18))) rfl rfl (W.pass 37 rfl (sb (n_f (decide_eq_false c18))) rfl rfl (W.r (X.pickT (sb (n_f (decide_eq_false c18))) rfl) rfl (W.nil ?_)))
      replace HS := api_Config.close trivial HS
      exact At.meet () ⟨rfl, rfl, rfl, rfl, trivial⟩ ⟨HS, H⟩
    ·rintro ⟨⟩ w ⟨HS, H⟩
     unfold signalmanlaw20_StationRefuses.j1 at H
     refine V.condT rfl (V.seq (V.region (W.as rfl (W.nx (V.ret (At.thenRet ?_))))))
     replace HS := HS.pk [1] [0]
     cases H
     exact At.ret1 rfl rfl ⟨_, rfl, rfl, HS⟩
   ·replace H := ite_f c11 H
    refine W.e (Y.cl Tryz.func9 (station_New.calls A10 HS.j0)) rfl ?_
    rintro _ w ⟨bt9_0, rfl, HS⟩
    replace HS := HS.o1
    replace HS := St.optS default c11 HS
    rw [optv_s c11]
    refine W.mv rfl (W.r (X.extract rfl rfl) rfl (W.r (X.extract rfl rfl) rfl (W.as rfl (W.as rfl (W.nx (V.seq (V.meet (σ := Bool) (fun st w => match st with | x23 => Sep.St [api_Config.at nb8 ({ t6 with Queue := 0 } : api_Config), station_Station.at bt9_0 (t9.1.getD default), R] w0 w ∧ ∃ kf24, kf24 ≤ kf4 ∧ signalmanlaw20_StationRefuses.j2 kf24 a1 a2 t9 t9 t9 x23 = some r) (fun st => match st with | x23 => [(1, Value.slice sa1 a1.length sc1), (2, Value.bool a2), (9, Value.pointer (some ⟨bt9_0, 0, none⟩)), (40, Value.bool x23)]) ?_ ?_)))))))
    ·refine V.region (W.mv rfl ?_)
     obtain ⟨t76, A77, H⟩ := bind_s H
     refine W.e (Y.cl Tryz.func11 (signalmanlaw20_num.calls A77 HS.j0)) rfl ?_
     rintro _ w ⟨rfl, HS⟩
     replace HS := HS.o0
     refine W.r (X.cmp (!(decide (t76 = 0))) rfl rfl rfl rfl) rfl (W.mv rfl ?_)
     by_cases c78 : t76 = 0
     ·replace H := ite_t c78 H
      refine W.want 37 rfl (sb (n_t (decide_eq_true c78))) (W.mv rfl (W.want 37 rfl (sb (n_t (decide_eq_true c78))) (W.r (X.eqP Tryz.underlying23 rfl rfl) rfl (W.r (X.pickF (sb (n_t (decide_eq_true c78))) rfl) rfl (W.nil ?_)))))
      replace HS := HS.pm [1, 0, 2]
      replace HS := api_Config.close trivial HS
      exact At.meet false ⟨rfl, rfl, rfl, rfl, trivial⟩ ⟨HS, kf4, by omega, H⟩
     ·replace H := ite_f c78 H
      refine W.pass 37 rfl (sb (n_f (decide_eq_false c78))) rfl rfl (W.pass 37 rfl (sb (n_f (decide_eq_false c78))) rfl rfl (W.r (X.pickT (sb (n_f (decide_eq_false c78))) rfl) rfl (W.nil ?_)))
      replace HS := HS.pm [1, 0, 2]
      replace HS := api_Config.close trivial HS
      exact At.meet true ⟨rfl, rfl, rfl, rfl, trivial⟩ ⟨HS, kf4, by omega, H⟩
    ·rintro x23 w ⟨HS, kf24, hkkf24, H⟩
     unfold signalmanlaw20_StationRefuses.j2 at H
     by_cases c25 : x23 = true
     ·replace H := ite_t c25 H
      refine V.condT (sb c25) (V.seq (V.region (W.as rfl (W.nx (V.ret (At.thenRet ?_))))))
      replace HS := HS.pk [2] [0, 1]
      cases H
      exact At.ret1 rfl rfl ⟨_, rfl, rfl, HS⟩
     ·replace H := ite_f c25 H
      refine V.condF (sb (b_f c25)) (V.skip (At.next (V.seq (V.region (W.as rfl (W.nx (V.meet (σ := station_Station × Int) (fun st w => match st with | (x26, x27) => Sep.St [api_Config.at nb8 ({ t6 with Queue := 0 } : api_Config), station_Station.at bt9_0 x26, R] w0 w ∧ ∃ kf28, kf28 ≤ kf24 ∧ signalmanlaw20_StationRefuses.j3 kf28 a1 a2 x26 x27 = some r) (fun st => match st with | (x26, x27) => [(1, Value.slice sa1 a1.length sc1), (2, Value.bool a2), (9, Value.pointer (some ⟨bt9_0, 0, none⟩)), (11, Value.int .i64 x27)]) ?_ ?_)))))))
      ·refine V.seq (V.region (W.mv rfl (W.nx ?_)))
       by_cases c56 : a2 = true
       ·replace H := ite_t c56 H
        refine V.condT (sb c56) (V.seq (V.region (W.e (Y.ls (e := 5) (Value.int .u8) ([0, 0, 0, 0, 1, 0, 1, 127] : List Int) HS rfl rfl (fun _ => by kernel_rfl)) rfl ?_)))
        rintro _ w ⟨lb59, rfl, HS⟩
        obtain ⟨t60, A61, H⟩ := bind_s H
        refine W.e (Y.cl Tryz.func17 (signalmanref1_Frame.calls A61 HS.j0 (rdC.part 0 row_rd rfl))) rfl ?_
        rintro _ w ⟨at60_0, ct60_0, rfl, HS⟩
        replace HS := HS.o1
        refine W.as rfl (W.nx (V.seq (V.seq (V.region (W.as rfl (W.nx (V.block (V.loop (σ := Int × station_Station) (fun kq (st : Int × station_Station) w => match st with | (x64, x65) => Sep.St [row 5 1 (.slice at60_0 t60.length ct60_0) t60.length (t60.map (Value.int .u8)), row 5 1 (.slice (some ⟨lb59, 0, none⟩) ([0, 0, 0, 0, 1, 0, 1, 127] : List Int).length 8) ([0, 0, 0, 0, 1, 0, 1, 127] : List Int).length (([0, 0, 0, 0, 1, 0, 1, 127] : List Int).map (Value.int .u8)), api_Config.at nb8 ({ t6 with Queue := 0 } : api_Config), station_Station.at bt9_0 x65, R] w0 w ∧ signalmanlaw20_StationRefuses.l5 kq a1 a2 t60 x64 x65 = some r ∧ kq ≤ kf24) (fun st => match st with | (x64, x65) => [(1, Value.slice sa1 a1.length sc1), (2, Value.bool a2), (9, Value.pointer (some ⟨bt9_0, 0, none⟩)), (12, Value.slice at60_0 t60.length ct60_0), (13, Value.int .i64 x64)]) kf24 (0, t9.1.getD default) ⟨rfl, rfl, rfl, rfl, rfl, trivial⟩ ⟨HS, H, Nat.le_refl _⟩ ?_))))))))
        rintro kq66 ⟨x64, x65⟩ w ⟨HS, H, hk67⟩
        cases kq66 with
        | zero => exact absurd H (by simp [signalmanlaw20_StationRefuses.l5])
        | succ kq66 =>
         simp only [signalmanlaw20_StationRefuses.l5] at H
         refine V.seq (V.seq (V.region (W.mv rfl (W.mv rfl (W.r (X.lenSl Tryz.underlying32 rfl) rfl (W.r (X.cmp (decide (x64 < (t60.length : Int))) rfl rfl rfl rfl) rfl (W.nx ?_)))))))
         by_cases c68 : x64 < (t60.length : Int)
         ·replace H := ite_t c68 H
          refine V.condT (sb (decide_eq_true c68)) (V.skip (At.next (V.seq (V.block (V.region (W.mv rfl (W.mv rfl (W.mv rfl ?_))))))))
          obtain ⟨c69, H⟩ := ite_n H
          obtain ⟨eb70, eo71, hh⟩ := (rdC.at 0 row_rd HS rfl).some (by decide) c69.1 c69.2; subst hh
          refine W.r (X.indexSl Tryz.underlying32 inf5 rfl rfl c69.1 c69.2) rfl (W.r (X.load Tryz.underlying5 rfl rfl ((rdC.at 0 row_rd HS rfl).cellI c69.1 c69.2)) rfl ?_)
          obtain ⟨t72, A73, H⟩ := bind_s H
          replace HS := HS.pm [3, 0, 1, 2, 4]
          refine W.e (Y.cl Tryz.func15 (station_Station_Push.calls A73 HS.j1)) rfl ?_
          rintro _ w ⟨at72_1, ct72_1, rfl, HS⟩
          replace HS := HS.o2
          refine W.nil (At.blockEnd (At.next (V.region (W.mv rfl (W.r (X.add rfl rfl) rfl (W.as rfl (W.nil ?_)))))))
          replace HS := HS.pk [2, 3, 4, 1, 5] [0]
          exact At.round kq66 (by omega) (w64 (x64 + 1), t72.2.2) ⟨rfl, rfl, rfl, rfl, rfl, trivial⟩ ⟨HS, H, by omega⟩
         ·replace H := ite_f c68 H
          refine V.condF (sb (decide_eq_false c68)) (V.exit (At.thenExit (At.thenExit (At.blockExit (At.next (V.seq (V.region (W.mv rfl ?_))))))))
          obtain ⟨t74, A75, H⟩ := bind_s H
          replace HS := HS.pm [3, 0, 1, 2, 4]
          refine W.e (Y.cl Tryz.func14 (station_Station_Step.calls A75 HS.j1)) rfl ?_
          rintro _ w ⟨at74_0_0, ct74_0_0, dt74_0_0, at74_0_1, ct74_0_1, dt74_0_1, rfl, HS⟩
          replace HS := HS.o5
          refine W.nx (V.region (W.as rfl (W.nil ?_)))
          replace HS := HS.pk [7, 4, 8] [0, 1, 2, 3, 5, 6]
          exact At.meet (t74.2, 6) ⟨rfl, rfl, rfl, rfl, trivial⟩ ⟨HS, kq66, by omega, H⟩
       ·replace H := ite_f c56 H
        refine V.condF (sb (b_f c56)) (V.skip ?_)
        exact At.meet (t9.1.getD default, 7) ⟨rfl, rfl, rfl, rfl, trivial⟩ ⟨HS, kf24, by omega, H⟩
      ·rintro ⟨x26, x27⟩ w ⟨HS, kf28, hkkf28, H⟩
       unfold signalmanlaw20_StationRefuses.j3 at H
       refine V.meet (σ := Int) (fun st w => match st with | x29 => Sep.St [api_Config.at nb8 ({ t6 with Queue := 0 } : api_Config), station_Station.at bt9_0 x26, R] w0 w ∧ ∃ kf30, kf30 ≤ kf28 ∧ signalmanlaw20_StationRefuses.j4 kf30 a1 a2 x26 x29 = some r) (fun st => match st with | x29 => [(1, Value.slice sa1 a1.length sc1), (2, Value.bool a2), (9, Value.pointer (some ⟨bt9_0, 0, none⟩)), (11, Value.int .i64 x29)]) ?_ ?_
       ·refine V.seq (V.region (W.mv rfl (W.r (X.lenSl Tryz.underlying32 rfl) rfl (W.r (X.cmp (decide ((a1.length : Int) > 20)) rfl rfl rfl rfl) rfl (W.nx ?_)))))
        by_cases c55 : (a1.length : Int) > 20
        ·replace H := ite_t c55 H
         refine V.condT (sb (decide_eq_true c55)) (V.region (W.as rfl (W.nil ?_)))
         exact At.meet (5) ⟨rfl, rfl, rfl, rfl, trivial⟩ ⟨HS, kf28, by omega, H⟩
        ·replace H := ite_f c55 H
         refine V.condF (sb (decide_eq_false c55)) (V.skip ?_)
         exact At.meet x27 ⟨rfl, rfl, rfl, rfl, trivial⟩ ⟨HS, kf28, by omega, H⟩
       ·rintro x29 w ⟨HS, kf30, hkkf30, H⟩
        unfold signalmanlaw20_StationRefuses.j4 at H
        refine V.seq (V.region (W.mv rfl ?_))
        obtain ⟨t31, A32, H⟩ := bind_s H
        replace HS := HS.pm [1, 0, 2]
        refine W.e (Y.cl Tryz.func18 (station_Station_Take.calls A32 HS.j1)) rfl ?_
        rintro _ w ⟨at31_0, ct31_0, rfl, HS⟩
        replace HS := HS.o2
        refine W.nx (V.seq (V.region (W.mv rfl ?_)))
        obtain ⟨t33, A34, H⟩ := bind_s H
        replace HS := HS.pm [1, 0, 2, 3]
        refine W.e (Y.cl Tryz.func18 (station_Station_Take.calls A34 HS.j1)) rfl ?_
        rintro _ w ⟨at33_0, ct33_0, rfl, HS⟩
        replace HS := HS.o2
        refine W.nx (V.seq (V.region (W.mv rfl ?_)))
        replace HS := HS.fr 1
        obtain ⟨b16_35, b17_35, b18_35, b22_35, b23_35, b24_35, b32_35, b33_35, b34_35, hi36, HS⟩ := station_Station.open HS
        obtain ⟨t37, A38, H⟩ := bind_s H
        refine W.e (Y.cl Tryz.func13 (station_Station_Status.calls A38 HS.j10)) rfl ?_
        rintro _ w ⟨rfl, HS⟩
        replace HS := HS.o10
        refine W.e (Y.alloc (z := Value.agg (#[Value.int .i64 (0), Value.int .i64 (0), Value.int .i64 (0), Value.int .i64 (0), Value.int .i64 (0), Value.int .i64 (0), Value.int .i64 (0)])) HS ze35) rfl ?_
        rintro _ w ⟨nb39, rfl, HS⟩
        refine W.en (Y.storeSt (c' := #[Value.int .i64 t37.State, Value.int .i64 t37.Line, Value.int .i64 t37.Lines.1, Value.int .i64 t37.Lines.2, Value.int .i64 t37.Sent, Value.int .i64 t37.Acked, Value.int .i64 t37.Lost]) 0 [Value.int .i64 t37.State, Value.int .i64 t37.Line, Value.int .i64 t37.Lines.1, Value.int .i64 t37.Lines.2, Value.int .i64 t37.Sent, Value.int .i64 t37.Acked, Value.int .i64 t37.Lost] HS rfl inf35 rfl rfl rfl rfl rfl rfl) rfl ?_
        rintro _ w HS
        refine W.nx (V.seq (V.region (W.mv rfl (W.mv rfl ?_))))
        replace HS := HS.pm [1, 2, 3, 4, 5, 6, 7, 8, 9, 10, 0, 11, 12, 13, 14]
        replace HS := station_Station.close trivial HS
        obtain ⟨t40, A41, H⟩ := bind_s H
        refine W.e (Y.cl Tryz.func19 (station_Station_Send.calls A41 HS.j1 (rdC.part 4 hr1 rfl))) rfl ?_
        rintro _ w ⟨rfl, HS⟩
        replace HS := HS.o1
        refine W.as rfl (W.nx (V.seq (V.region (W.mv rfl ?_))))
        obtain ⟨t42, A43, H⟩ := bind_s H
        refine W.e (Y.cl Tryz.func14 (station_Station_Step.calls A43 HS.j1)) rfl ?_
        rintro _ w ⟨at42_0_0, ct42_0_0, dt42_0_0, at42_0_1, ct42_0_1, dt42_0_1, rfl, HS⟩
        replace HS := HS.o5
        refine W.e (Y.alloc (z := Value.agg (#[Value.slice none 0 0, Value.slice none 0 0])) HS ze38) rfl ?_
        rintro _ w ⟨nb44, rfl, HS⟩
        refine W.en (Y.storeSt (c' := #[Value.slice at42_0_0 t42.1.1.length ct42_0_0, Value.slice at42_0_1 t42.1.2.length ct42_0_1]) 0 [Value.slice at42_0_0 t42.1.1.length ct42_0_0, Value.slice at42_0_1 t42.1.2.length ct42_0_1] HS rfl inf38 rfl rfl rfl rfl rfl rfl) rfl ?_
        rintro _ w HS
        refine W.nx (V.seq (V.dr [1, 6] [3, 4, 5, 7, 8, 9, 10, 11, 12, 13, 14, 15, 16, 17, 18, 19, 20, 21, 22, 23, 24, 25, 26, 27, 28, 29] [(72, Value.int .i64 t40.1), (74, Value.int .i64 x29)] mo HS ?_))
        refine T.ev [(72, _)] [8, 9, 10, 11, 12, 13, 14, 15, 16, 17, 18, 19, 20, 21, 22, 23, 24, 25, 26, 27, 28, 29] [0] ⟨rfl, trivial⟩ ⟨.mv 15, .mv 11, trivial⟩ rfl (fun w HS => ?_)
        obtain ⟨t45, A46, H⟩ := bind_s H
        refine ⟨_, Y.cl Tryz.func11 (signalmanlaw20_num.calls A46 HS.j0), ?_⟩
        rintro _ w ⟨rfl, HS⟩
        replace HS := HS.o0
        by_cases c47 : t45 = x29
        ·replace H := ite_t c47 H
         refine T.nm [(73, Value.int .i64 t45), (75, Value.bool (decide (t45 = x29))), (76, Value.bool (decide (t45 = x29))), (77, Value.pointer (some ⟨bt9_0, 0, none⟩)), (79, Value.agg #[Value.int .i64 t37.State, Value.int .i64 t37.Line, Value.int .i64 t37.Lines.1, Value.int .i64 t37.Lines.2, Value.int .i64 t37.Sent, Value.int .i64 t37.Acked, Value.int .i64 t37.Lost])] HS ⟨.inl ⟨rfl, rfl⟩, ⟨.inr ⟨by decide, rfl⟩, ⟨.inr ⟨by decide, rfl⟩, ⟨.inr ⟨by decide, rfl⟩, ⟨.inr ⟨by decide, rfl⟩, trivial⟩⟩⟩⟩⟩ ?_
         refine T.evG [(77, _), (76, _)] [] [2, 3, 4, 5] ⟨rfl, rfl, trivial⟩ ⟨.mv 11, .n2 73 74 rfl rfl rfl (fun w HS => X.cmp (decide (t45 = x29)) rfl rfl rfl rfl), .mv 75, .gw [(9, _), (76, _)] 4 true 76 ⟨rfl, rfl, trivial⟩ rfl (sb (decide_eq_true c47)) (fun w HS => X.move rfl), .gw [(14, _), (76, _)] 4 true 76 ⟨rfl, rfl, trivial⟩ rfl (sb (decide_eq_true c47)) (fun w HS => X.loadSt 6 [Value.int .i64 t37.State, Value.int .i64 t37.Line, Value.int .i64 t37.Lines.1, Value.int .i64 t37.Lines.2, Value.int .i64 t37.Sent, Value.int .i64 t37.Acked, Value.int .i64 t37.Lost] HS rfl Tryz.underlying35 rfl inf35 rfl rfl), trivial⟩ rfl (Or.inr ⟨4, true, 76, rfl, rfl, (sb (decide_eq_true c47))⟩) (fun w HS => ?_)
         replace HS := HS.fr 5
         obtain ⟨b16_48, b17_48, b18_48, b22_48, b23_48, b24_48, b32_48, b33_48, b34_48, hi49, HS⟩ := station_Station.open HS
         obtain ⟨t50, A51, H⟩ := bind_s H
         refine ⟨_, Y.cl Tryz.func13 (station_Station_Status.calls A51 HS.j10), ?_⟩
         rintro _ w ⟨rfl, HS⟩
         replace HS := HS.o10
         by_cases c52 : api_Status.beq t50 t37 = true
         ·replace H := ite_t c52 H
          by_cases c53 : (t42.1.1.length : Int) = 0
          ·replace H := ite_t c53 H
           by_cases c54 : (t42.1.2.length : Int) = 0
           ·replace H := ite_t c54 H
            refine T.nm [(78, Value.agg #[Value.int .i64 t50.State, Value.int .i64 t50.Line, Value.int .i64 t50.Lines.1, Value.int .i64 t50.Lines.2, Value.int .i64 t50.Sent, Value.int .i64 t50.Acked, Value.int .i64 t50.Lost]), (80, Value.bool (api_Status.beq t50 t37)), (81, Value.bool (api_Status.beq t50 t37)), (82, Value.bool (api_Status.beq t50 t37)), (83, Value.pointer (some ⟨nb44, 0 + 0 * 1, none⟩)), (84, Value.slice at42_0_0 t42.1.1.length ct42_0_0), (85, Value.int .i64 (t42.1.1.length : Int)), (86, Value.bool (decide ((t42.1.1.length : Int) = 0))), (87, Value.bool (decide ((t42.1.1.length : Int) = 0))), (88, Value.bool (decide ((t42.1.1.length : Int) = 0))), (89, Value.pointer (some ⟨nb44, 0 + 1 * 1, none⟩)), (90, Value.slice at42_0_1 t42.1.2.length ct42_0_1), (91, Value.int .i64 (t42.1.2.length : Int)), (92, Value.bool (decide ((t42.1.2.length : Int) = 0))), (93, Value.bool (decide ((t42.1.2.length : Int) = 0))), (94, Value.bool (decide ((t42.1.2.length : Int) = 0))), (95, Value.pointer (some ⟨nb39, 0 + 0, none⟩)), (96, Value.int .i64 t37.State), (97, Value.bool (decide (t37.State = 2))), (98, Value.bool a2), (99, Value.bool (((decide (t37.State = 2)) == a2))), (100, Value.bool (((decide (t37.State = 2)) == a2))), (6, Value.bool (((decide (t37.State = 2)) == a2)))] HS ⟨.inl ⟨rfl, rfl⟩, ⟨.inr ⟨by decide, rfl⟩, ⟨.inr ⟨by decide, rfl⟩, ⟨.inr ⟨by decide, rfl⟩, ⟨.inr ⟨by decide, rfl⟩, ⟨.inr ⟨by decide, rfl⟩, ⟨.inr ⟨by decide, rfl⟩, ⟨.inr ⟨by decide, rfl⟩, ⟨.inr ⟨by decide, rfl⟩, ⟨.inr ⟨by decide, rfl⟩, ⟨.inr ⟨by decide, rfl⟩, ⟨.inr ⟨by decide, rfl⟩, ⟨.inr ⟨by decide, rfl⟩, ⟨.inr ⟨by decide, rfl⟩, ⟨.inr ⟨by decide, rfl⟩, ⟨.inr ⟨by decide, rfl⟩, ⟨.inr ⟨by decide, rfl⟩, ⟨.inr ⟨by decide, rfl⟩, ⟨.inr ⟨by decide, rfl⟩, ⟨.inr ⟨by decide, rfl⟩, ⟨.inr ⟨by decide, rfl⟩, ⟨.inr ⟨by decide, rfl⟩, ⟨.inr ⟨by decide, rfl⟩, trivial⟩⟩⟩⟩⟩⟩⟩⟩⟩⟩⟩⟩⟩⟩⟩⟩⟩⟩⟩⟩⟩⟩⟩ ?_
            refine T.fn [(6, _)] ⟨rfl, trivial⟩ ⟨.gw [(14, _), (76, _)] 4 true 76 ⟨rfl, rfl, trivial⟩ rfl (sb (decide_eq_true c47)) (fun w HS => X.loadSt 15 [Value.int .i64 t37.State, Value.int .i64 t37.Line, Value.int .i64 t37.Lines.1, Value.int .i64 t37.Lines.2, Value.int .i64 t37.Sent, Value.int .i64 t37.Acked, Value.int .i64 t37.Lost] HS rfl Tryz.underlying35 rfl inf35 rfl rfl), .gw [(78, _), (79, _), (76, _)] 4 true 76 ⟨rfl, rfl, rfl, trivial⟩ rfl (sb (decide_eq_true c47)) (fun w HS => X.eqV (c := api_Status.beq t50 t37) (by kernel_rfl) Tryz.eqGuardType35 rfl rfl), .n2 76 80 rfl rfl rfl (fun w HS => X.pickT (sb (decide_eq_true c47)) rfl), .mv 81, .gw [(16, _), (82, _)] 10 true 82 ⟨rfl, rfl, trivial⟩ rfl (sb c52) (fun w HS => X.indexArK 0 rfl Tryz.underlying38 inf37 rfl rfl (by decide) (by decide)), .gw [(83, _), (82, _)] 10 true 82 ⟨rfl, rfl, trivial⟩ rfl (sb c52) (fun w HS => X.loadAt 10 HS rfl Tryz.underlying37 rfl rfl rfl), .gw [(84, _), (82, _)] 10 true 82 ⟨rfl, rfl, trivial⟩ rfl (sb c52) (fun w HS => X.lenSl Tryz.underlying37 rfl), .gw [(85, _), (82, _)] 10 true 82 ⟨rfl, rfl, trivial⟩ rfl (sb c52) (fun w HS => X.cmp (decide ((t42.1.1.length : Int) = 0)) rfl rfl rfl rfl), .n2 82 86 rfl rfl rfl (fun w HS => X.pickT (sb c52) rfl), .mv 87, .gw [(16, _), (88, _)] 16 true 88 ⟨rfl, rfl, trivial⟩ rfl (sb (decide_eq_true c53)) (fun w HS => X.indexArK 1 rfl Tryz.underlying38 inf37 rfl rfl (by decide) (by decide)), .gw [(89, _), (88, _)] 16 true 88 ⟨rfl, rfl, trivial⟩ rfl (sb (decide_eq_true c53)) (fun w HS => X.loadAt 10 HS rfl Tryz.underlying37 rfl rfl rfl), .gw [(90, _), (88, _)] 16 true 88 ⟨rfl, rfl, trivial⟩ rfl (sb (decide_eq_true c53)) (fun w HS => X.lenSl Tryz.underlying37 rfl), .gw [(91, _), (88, _)] 16 true 88 ⟨rfl, rfl, trivial⟩ rfl (sb (decide_eq_true c53)) (fun w HS => X.cmp (decide ((t42.1.2.length : Int) = 0)) rfl rfl rfl rfl), .n2 88 92 rfl rfl rfl (fun w HS => X.pickT (sb (decide_eq_true c53)) rfl), .mv 93, .gw [(14, _), (94, _)] 22 true 94 ⟨rfl, rfl, trivial⟩ rfl (sb (decide_eq_true c54)) (fun w HS => X.fieldAddr 0 fo35_0 rfl), .gw [(95, _), (94, _)] 22 true 94 ⟨rfl, rfl, trivial⟩ rfl (sb (decide_eq_true c54)) (fun w HS => X.loadAt 15 HS rfl Tryz.underlying3 rfl rfl rfl), .gw [(96, _), (94, _)] 22 true 94 ⟨rfl, rfl, trivial⟩ rfl (sb (decide_eq_true c54)) (fun w HS => X.cmp (decide (t37.State = 2)) rfl rfl rfl rfl), .gw [(2, _), (94, _)] 22 true 94 ⟨rfl, rfl, trivial⟩ rfl (sb (decide_eq_true c54)) (fun w HS => X.move rfl), .gw [(97, _), (98, _), (94, _)] 22 true 94 ⟨rfl, rfl, rfl, trivial⟩ rfl (sb (decide_eq_true c54)) (fun w HS => X.eqB Tryz.underlying4 rfl rfl), .n2 94 99 rfl rfl rfl (fun w HS => X.pickT (sb (decide_eq_true c54)) rfl), .as 100, trivial⟩ (fun w HS => ?_)
            refine At.next (V.ret ?_)
            replace HS := HS.pk [19] [0, 1, 2, 3, 4, 5, 6, 7, 8, 9, 10, 11, 12, 13, 14, 15, 16, 17, 18]
            cases H
            exact At.ret1 rfl rfl ⟨_, rfl, rfl, HS⟩
           ·replace H := ite_f c54 H
            refine T.nm [(78, Value.agg #[Value.int .i64 t50.State, Value.int .i64 t50.Line, Value.int .i64 t50.Lines.1, Value.int .i64 t50.Lines.2, Value.int .i64 t50.Sent, Value.int .i64 t50.Acked, Value.int .i64 t50.Lost]), (80, Value.bool (api_Status.beq t50 t37)), (81, Value.bool (api_Status.beq t50 t37)), (82, Value.bool (api_Status.beq t50 t37)), (83, Value.pointer (some ⟨nb44, 0 + 0 * 1, none⟩)), (84, Value.slice at42_0_0 t42.1.1.length ct42_0_0), (85, Value.int .i64 (t42.1.1.length : Int)), (86, Value.bool (decide ((t42.1.1.length : Int) = 0))), (87, Value.bool (decide ((t42.1.1.length : Int) = 0))), (88, Value.bool (decide ((t42.1.1.length : Int) = 0))), (89, Value.pointer (some ⟨nb44, 0 + 1 * 1, none⟩)), (90, Value.slice at42_0_1 t42.1.2.length ct42_0_1), (91, Value.int .i64 (t42.1.2.length : Int)), (92, Value.bool (decide ((t42.1.2.length : Int) = 0))), (93, Value.bool (decide ((t42.1.2.length : Int) = 0))), (94, Value.bool (decide ((t42.1.2.length : Int) = 0))), (95, undef), (96, undef), (97, undef), (98, undef), (99, undef), (100, Value.bool false), (6, Value.bool false)] HS ⟨.inl ⟨rfl, rfl⟩, ⟨.inr ⟨by decide, rfl⟩, ⟨.inr ⟨by decide, rfl⟩, ⟨.inr ⟨by decide, rfl⟩, ⟨.inr ⟨by decide, rfl⟩, ⟨.inr ⟨by decide, rfl⟩, ⟨.inr ⟨by decide, rfl⟩, ⟨.inr ⟨by decide, rfl⟩, ⟨.inr ⟨by decide, rfl⟩, ⟨.inr ⟨by decide, rfl⟩, ⟨.inr ⟨by decide, rfl⟩, ⟨.inr ⟨by decide, rfl⟩, ⟨.inr ⟨by decide, rfl⟩, ⟨.inr ⟨by decide, rfl⟩, ⟨.inr ⟨by decide, rfl⟩, ⟨.inr ⟨by decide, rfl⟩, ⟨.inr ⟨by decide, rfl⟩, ⟨.inr ⟨by decide, rfl⟩, ⟨.inr ⟨by decide, rfl⟩, ⟨.inr ⟨by decide, rfl⟩, ⟨.inr ⟨by decide, rfl⟩, ⟨.inr ⟨by decide, rfl⟩, ⟨.inr ⟨by decide, rfl⟩, trivial⟩⟩⟩⟩⟩⟩⟩⟩⟩⟩⟩⟩⟩⟩⟩⟩⟩⟩⟩⟩⟩⟩⟩ ?_
            refine T.fn [(6, _)] ⟨rfl, trivial⟩ ⟨.gw [(14, _), (76, _)] 4 true 76 ⟨rfl, rfl, trivial⟩ rfl (sb (decide_eq_true c47)) (fun w HS => X.loadSt 15 [Value.int .i64 t37.State, Value.int .i64 t37.Line, Value.int .i64 t37.Lines.1, Value.int .i64 t37.Lines.2, Value.int .i64 t37.Sent, Value.int .i64 t37.Acked, Value.int .i64 t37.Lost] HS rfl Tryz.underlying35 rfl inf35 rfl rfl), .gw [(78, _), (79, _), (76, _)] 4 true 76 ⟨rfl, rfl, rfl, trivial⟩ rfl (sb (decide_eq_true c47)) (fun w HS => X.eqV (c := api_Status.beq t50 t37) (by kernel_rfl) Tryz.eqGuardType35 rfl rfl), .n2 76 80 rfl rfl rfl (fun w HS => X.pickT (sb (decide_eq_true c47)) rfl), .mv 81, .gw [(16, _), (82, _)] 10 true 82 ⟨rfl, rfl, trivial⟩ rfl (sb c52) (fun w HS => X.indexArK 0 rfl Tryz.underlying38 inf37 rfl rfl (by decide) (by decide)), .gw [(83, _), (82, _)] 10 true 82 ⟨rfl, rfl, trivial⟩ rfl (sb c52) (fun w HS => X.loadAt 10 HS rfl Tryz.underlying37 rfl rfl rfl), .gw [(84, _), (82, _)] 10 true 82 ⟨rfl, rfl, trivial⟩ rfl (sb c52) (fun w HS => X.lenSl Tryz.underlying37 rfl), .gw [(85, _), (82, _)] 10 true 82 ⟨rfl, rfl, trivial⟩ rfl (sb c52) (fun w HS => X.cmp (decide ((t42.1.1.length : Int) = 0)) rfl rfl rfl rfl), .n2 82 86 rfl rfl rfl (fun w HS => X.pickT (sb c52) rfl), .mv 87, .gw [(16, _), (88, _)] 16 true 88 ⟨rfl, rfl, trivial⟩ rfl (sb (decide_eq_true c53)) (fun w HS => X.indexArK 1 rfl Tryz.underlying38 inf37 rfl rfl (by decide) (by decide)), .gw [(89, _), (88, _)] 16 true 88 ⟨rfl, rfl, trivial⟩ rfl (sb (decide_eq_true c53)) (fun w HS => X.loadAt 10 HS rfl Tryz.underlying37 rfl rfl rfl), .gw [(90, _), (88, _)] 16 true 88 ⟨rfl, rfl, trivial⟩ rfl (sb (decide_eq_true c53)) (fun w HS => X.lenSl Tryz.underlying37 rfl), .gw [(91, _), (88, _)] 16 true 88 ⟨rfl, rfl, trivial⟩ rfl (sb (decide_eq_true c53)) (fun w HS => X.cmp (decide ((t42.1.2.length : Int) = 0)) rfl rfl rfl rfl), .n2 88 92 rfl rfl rfl (fun w HS => X.pickT (sb (decide_eq_true c53)) rfl), .mv 93, .gp 22 true false 94 rfl rfl (Option.some.inj (sb (decide_eq_false c54))) rfl, .gp 22 true false 94 rfl rfl (Option.some.inj (sb (decide_eq_false c54))) rfl, .gp 22 true false 94 rfl rfl (Option.some.inj (sb (decide_eq_false c54))) rfl, .gp 22 true false 94 rfl rfl (Option.some.inj (sb (decide_eq_false c54))) rfl, .gp 22 true false 94 rfl rfl (Option.some.inj (sb (decide_eq_false c54))) rfl, .n2 94 99 rfl rfl rfl (fun w HS => X.pickF (sb (decide_eq_false c54)) rfl), .as 100, trivial⟩ (fun w HS => ?_)
            refine At.next (V.ret ?_)
            replace HS := HS.pk [19] [0, 1, 2, 3, 4, 5, 6, 7, 8, 9, 10, 11, 12, 13, 14, 15, 16, 17, 18]
            cases H
            exact At.ret1 rfl rfl ⟨_, rfl, rfl, HS⟩
          ·replace H := ite_f c53 H
           refine T.nm [(78, Value.agg #[Value.int .i64 t50.State, Value.int .i64 t50.Line, Value.int .i64 t50.Lines.1, Value.int .i64 t50.Lines.2, Value.int .i64 t50.Sent, Value.int .i64 t50.Acked, Value.int .i64 t50.Lost]), (80, Value.bool (api_Status.beq t50 t37)), (81, Value.bool (api_Status.beq t50 t37)), (82, Value.bool (api_Status.beq t50 t37)), (83, Value.pointer (some ⟨nb44, 0 + 0 * 1, none⟩)), (84, Value.slice at42_0_0 t42.1.1.length ct42_0_0), (85, Value.int .i64 (t42.1.1.length : Int)), (86, Value.bool (decide ((t42.1.1.length : Int) = 0))), (87, Value.bool (decide ((t42.1.1.length : Int) = 0))), (88, Value.bool (decide ((t42.1.1.length : Int) = 0))), (89, undef), (90, undef), (91, undef), (92, undef), (93, Value.bool false), (94, Value.bool false), (95, undef), (96, undef), (97, undef), (98, undef), (99, undef), (100, Value.bool false), (6, Value.bool false)] HS ⟨.inl ⟨rfl, rfl⟩, ⟨.inr ⟨by decide, rfl⟩, ⟨.inr ⟨by decide, rfl⟩, ⟨.inr ⟨by decide, rfl⟩, ⟨.inr ⟨by decide, rfl⟩, ⟨.inr ⟨by decide, rfl⟩, ⟨.inr ⟨by decide, rfl⟩, ⟨.inr ⟨by decide, rfl⟩, ⟨.inr ⟨by decide, rfl⟩, ⟨.inr ⟨by decide, rfl⟩, ⟨.inr ⟨by decide, rfl⟩, ⟨.inr ⟨by decide, rfl⟩, ⟨.inr ⟨by decide, rfl⟩, ⟨.inr ⟨by decide, rfl⟩, ⟨.inr ⟨by decide, rfl⟩, ⟨.inr ⟨by decide, rfl⟩, ⟨.inr ⟨by decide, rfl⟩, ⟨.inr ⟨by decide, rfl⟩, ⟨.inr ⟨by decide, rfl⟩, ⟨.inr ⟨by decide, rfl⟩, ⟨.inr ⟨by decide, rfl⟩, ⟨.inr ⟨by decide, rfl⟩, ⟨.inr ⟨by decide, rfl⟩, trivial⟩⟩⟩⟩⟩⟩⟩⟩⟩⟩⟩⟩⟩⟩⟩⟩⟩⟩⟩⟩⟩⟩⟩ ?_
           refine T.fn [(6, _)] ⟨rfl, trivial⟩ ⟨.gw [(14, _), (76, _)] 4 true 76 ⟨rfl, rfl, trivial⟩ rfl (sb (decide_eq_true c47)) (fun w HS => X.loadSt 15 [Value.int .i64 t37.State, Value.int .i64 t37.Line, Value.int .i64 t37.Lines.1, Value.int .i64 t37.Lines.2, Value.int .i64 t37.Sent, Value.int .i64 t37.Acked, Value.int .i64 t37.Lost] HS rfl Tryz.underlying35 rfl inf35 rfl rfl), .gw [(78, _), (79, _), (76, _)] 4 true 76 ⟨rfl, rfl, rfl, trivial⟩ rfl (sb (decide_eq_true c47)) (fun w HS => X.eqV (c := api_Status.beq t50 t37) (by kernel_rfl) Tryz.eqGuardType35 rfl rfl), .n2 76 80 rfl rfl rfl (fun w HS => X.pickT (sb (decide_eq_true c47)) rfl), .mv 81, .gw [(16, _), (82, _)] 10 true 82 ⟨rfl, rfl, trivial⟩ rfl (sb c52) (fun w HS => X.indexArK 0 rfl Tryz.underlying38 inf37 rfl rfl (by decide) (by decide)), .gw [(83, _), (82, _)] 10 true 82 ⟨rfl, rfl, trivial⟩ rfl (sb c52) (fun w HS => X.loadAt 10 HS rfl Tryz.underlying37 rfl rfl rfl), .gw [(84, _), (82, _)] 10 true 82 ⟨rfl, rfl, trivial⟩ rfl (sb c52) (fun w HS => X.lenSl Tryz.underlying37 rfl), .gw [(85, _), (82, _)] 10 true 82 ⟨rfl, rfl, trivial⟩ rfl (sb c52) (fun w HS => X.cmp (decide ((t42.1.1.length : Int) = 0)) rfl rfl rfl rfl), .n2 82 86 rfl rfl rfl (fun w HS => X.pickT (sb c52) rfl), .mv 87, .gp 16 true false 88 rfl rfl (Option.some.inj (sb (decide_eq_false c53))) rfl, .gp 16 true false 88 rfl rfl (Option.some.inj (sb (decide_eq_false c53))) rfl, .gp 16 true false 88 rfl rfl (Option.some.inj (sb (decide_eq_false c53))) rfl, .gp 16 true false 88 rfl rfl (Option.some.inj (sb (decide_eq_false c53))) rfl, .n2 88 92 rfl rfl rfl (fun w HS => X.pickF (sb (decide_eq_false c53)) rfl), .mv 93, .gp 22 true false 94 rfl rfl rfl rfl, .gp 22 true false 94 rfl rfl rfl rfl, .gp 22 true false 94 rfl rfl rfl rfl, .gp 22 true false 94 rfl rfl rfl rfl, .gp 22 true false 94 rfl rfl rfl rfl, .n2 94 99 rfl rfl rfl (fun w HS => X.pickF rfl rfl), .as 100, trivial⟩ (fun w HS => ?_)
           refine At.next (V.ret ?_)
           replace HS := HS.pk [19] [0, 1, 2, 3, 4, 5, 6, 7, 8, 9, 10, 11, 12, 13, 14, 15, 16, 17, 18]
           cases H
           exact At.ret1 rfl rfl ⟨_, rfl, rfl, HS⟩
         ·replace H := ite_f c52 H
          refine T.nm [(78, Value.agg #[Value.int .i64 t50.State, Value.int .i64 t50.Line, Value.int .i64 t50.Lines.1, Value.int .i64 t50.Lines.2, Value.int .i64 t50.Sent, Value.int .i64 t50.Acked, Value.int .i64 t50.Lost]), (80, Value.bool (api_Status.beq t50 t37)), (81, Value.bool (api_Status.beq t50 t37)), (82, Value.bool (api_Status.beq t50 t37)), (83, undef), (84, undef), (85, undef), (86, undef), (87, Value.bool false), (88, Value.bool false), (89, undef), (90, undef), (91, undef), (92, undef), (93, Value.bool false), (94, Value.bool false), (95, undef), (96, undef), (97, undef), (98, undef), (99, undef), (100, Value.bool false), (6, Value.bool false)] HS ⟨.inl ⟨rfl, rfl⟩, ⟨.inr ⟨by decide, rfl⟩, ⟨.inr ⟨by decide, rfl⟩, ⟨.inr ⟨by decide, rfl⟩, ⟨.inr ⟨by decide, rfl⟩, ⟨.inr ⟨by decide, rfl⟩, ⟨.inr ⟨by decide, rfl⟩, ⟨.inr ⟨by decide, rfl⟩, ⟨.inr ⟨by decide, rfl⟩, ⟨.inr ⟨by decide, rfl⟩, ⟨.inr ⟨by decide, rfl⟩, ⟨.inr ⟨by decide, rfl⟩, ⟨.inr ⟨by decide, rfl⟩, ⟨.inr ⟨by decide, rfl⟩, ⟨.inr ⟨by decide, rfl⟩, ⟨.inr ⟨by decide, rfl⟩, ⟨.inr ⟨by decide, rfl⟩, ⟨.inr ⟨by decide, rfl⟩, ⟨.inr ⟨by decide, rfl⟩, ⟨.inr ⟨by decide, rfl⟩, ⟨.inr ⟨by decide, rfl⟩, ⟨.inr ⟨by decide, rfl⟩, ⟨.inr ⟨by decide, rfl⟩, trivial⟩⟩⟩⟩⟩⟩⟩⟩⟩⟩⟩⟩⟩⟩⟩⟩⟩⟩⟩⟩⟩⟩⟩ ?_
          refine T.fn [(6, _)] ⟨rfl, trivial⟩ ⟨.gw [(14, _), (76, _)] 4 true 76 ⟨rfl, rfl, trivial⟩ rfl (sb (decide_eq_true c47)) (fun w HS => X.loadSt 15 [Value.int .i64 t37.State, Value.int .i64 t37.Line, Value.int .i64 t37.Lines.1, Value.int .i64 t37.Lines.2, Value.int .i64 t37.Sent, Value.int .i64 t37.Acked, Value.int .i64 t37.Lost] HS rfl Tryz.underlying35 rfl inf35 rfl rfl), .gw [(78, _), (79, _), (76, _)] 4 true 76 ⟨rfl, rfl, rfl, trivial⟩ rfl (sb (decide_eq_true c47)) (fun w HS => X.eqV (c := api_Status.beq t50 t37) (by kernel_rfl) Tryz.eqGuardType35 rfl rfl), .n2 76 80 rfl rfl rfl (fun w HS => X.pickT (sb (decide_eq_true c47)) rfl), .mv 81, .gp 10 true false 82 rfl rfl (Option.some.inj (sb (b_f c52))) rfl, .gp 10 true false 82 rfl rfl (Option.some.inj (sb (b_f c52))) rfl, .gp 10 true false 82 rfl rfl (Option.some.inj (sb (b_f c52))) rfl, .gp 10 true false 82 rfl rfl (Option.some.inj (sb (b_f c52))) rfl, .n2 82 86 rfl rfl rfl (fun w HS => X.pickF (sb (b_f c52)) rfl), .mv 87, .gp 16 true false 88 rfl rfl rfl rfl, .gp 16 true false 88 rfl rfl rfl rfl, .gp 16 true false 88 rfl rfl rfl rfl, .gp 16 true false 88 rfl rfl rfl rfl, .n2 88 92 rfl rfl rfl (fun w HS => X.pickF rfl rfl), .mv 93, .gp 22 true false 94 rfl rfl rfl rfl, .gp 22 true false 94 rfl rfl rfl rfl, .gp 22 true false 94 rfl rfl rfl rfl, .gp 22 true false 94 rfl rfl rfl rfl, .gp 22 true false 94 rfl rfl rfl rfl, .n2 94 99 rfl rfl rfl (fun w HS => X.pickF rfl rfl), .as 100, trivial⟩ (fun w HS => ?_)
          refine At.next (V.ret ?_)
          replace HS := HS.pk [19] [0, 1, 2, 3, 4, 5, 6, 7, 8, 9, 10, 11, 12, 13, 14, 15, 16, 17, 18]
          cases H
          exact At.ret1 rfl rfl ⟨_, rfl, rfl, HS⟩
        ·replace H := ite_f c47 H
         refine T.nm [(73, Value.int .i64 t45), (75, Value.bool (decide (t45 = x29))), (76, Value.bool (decide (t45 = x29))), (77, undef), (79, undef)] HS ⟨.inl ⟨rfl, rfl⟩, ⟨.inr ⟨by decide, rfl⟩, ⟨.inr ⟨by decide, rfl⟩, ⟨.inr ⟨by decide, rfl⟩, ⟨.inr ⟨by decide, rfl⟩, trivial⟩⟩⟩⟩⟩ ?_
         refine T.drop (es' := []) (bl' := []) [(78, undef), (80, undef), (81, Value.bool false), (82, Value.bool false), (83, undef), (84, undef), (85, undef), (86, undef), (87, Value.bool false), (88, Value.bool false), (89, undef), (90, undef), (91, undef), (92, undef), (93, Value.bool false), (94, Value.bool false), (95, undef), (96, undef), (97, undef), (98, undef), (99, undef), (100, Value.bool false), (6, Value.bool false)] rfl ⟨.inr ⟨by decide, rfl⟩, ⟨.inr ⟨by decide, rfl⟩, ⟨.inr ⟨by decide, rfl⟩, ⟨.inr ⟨by decide, rfl⟩, ⟨.inr ⟨by decide, rfl⟩, ⟨.inr ⟨by decide, rfl⟩, ⟨.inr ⟨by decide, rfl⟩, ⟨.inr ⟨by decide, rfl⟩, ⟨.inr ⟨by decide, rfl⟩, ⟨.inr ⟨by decide, rfl⟩, ⟨.inr ⟨by decide, rfl⟩, ⟨.inr ⟨by decide, rfl⟩, ⟨.inr ⟨by decide, rfl⟩, ⟨.inr ⟨by decide, rfl⟩, ⟨.inr ⟨by decide, rfl⟩, ⟨.inr ⟨by decide, rfl⟩, ⟨.inr ⟨by decide, rfl⟩, ⟨.inr ⟨by decide, rfl⟩, ⟨.inr ⟨by decide, rfl⟩, ⟨.inr ⟨by decide, rfl⟩, ⟨.inr ⟨by decide, rfl⟩, ⟨.inr ⟨by decide, rfl⟩, ⟨.inr ⟨by decide, rfl⟩, trivial⟩⟩⟩⟩⟩⟩⟩⟩⟩⟩⟩⟩⟩⟩⟩⟩⟩⟩⟩⟩⟩⟩⟩ ?_
         refine T.fn [(6, _)] ⟨rfl, trivial⟩ ⟨.mv 11, .n2 73 74 rfl rfl rfl (fun w HS => X.cmp (decide (t45 = x29)) rfl rfl rfl rfl), .mv 75, .gp 4 true false 76 rfl rfl (Option.some.inj (sb (decide_eq_false c47))) rfl, .gp 4 true false 76 rfl rfl (Option.some.inj (sb (decide_eq_false c47))) rfl, .gp 4 true false 76 rfl rfl (Option.some.inj (sb (decide_eq_false c47))) rfl, .gp 4 true false 76 rfl rfl (Option.some.inj (sb (decide_eq_false c47))) rfl, .n2 76 80 rfl rfl rfl (fun w HS => X.pickF (sb (decide_eq_false c47)) rfl), .mv 81, .gp 10 true false 82 rfl rfl rfl rfl, .gp 10 true false 82 rfl rfl rfl rfl, .gp 10 true false 82 rfl rfl rfl rfl, .gp 10 true false 82 rfl rfl rfl rfl, .n2 82 86 rfl rfl rfl (fun w HS => X.pickF rfl rfl), .mv 87, .gp 16 true false 88 rfl rfl rfl rfl, .gp 16 true false 88 rfl rfl rfl rfl, .gp 16 true false 88 rfl rfl rfl rfl, .gp 16 true false 88 rfl rfl rfl rfl, .n2 88 92 rfl rfl rfl (fun w HS => X.pickF rfl rfl), .mv 93, .gp 22 true false 94 rfl rfl rfl rfl, .gp 22 true false 94 rfl rfl rfl rfl, .gp 22 true false 94 rfl rfl rfl rfl, .gp 22 true false 94 rfl rfl rfl rfl, .gp 22 true false 94 rfl rfl rfl rfl, .n2 94 99 rfl rfl rfl (fun w HS => X.pickF rfl rfl), .as 100, trivial⟩ (fun w HS => ?_)
         refine At.next (V.ret ?_)
         replace HS := HS.pk [10] [0, 1, 2, 3, 4, 5, 6, 7, 8, 9]
         cases H
         exact At.ret1 rfl rfl ⟨_, rfl, rfl, HS⟩
def signalmanlaw20_StationRefuses.Pure : Prop := ∀ (a0 : Int) (a1 : List Int) (a2 : Bool), (Lit.int .i64 a0).wf = true → (∀ z ∈ a1, (Lit.int .u8 z).wf = true) → (a1.length : Int) ≤ 9223372036854775807 → ∃ k, signalmanlaw20_StationRefuses.f k a0 a1 a2 = some true
end Go.Proofs.YtodbopebbmplaaaGreat
