/- StationSelects: the functions that its law reaches, as plain functions, and that the machine's calls come to what these say. Conditions: those that stand at each. -/
import Derived.Test.YtodbopebbmplaaaGreatRunStationSelectsP4
set_option linter.all false
set_option maxRecDepth 100000
set_option maxHeartbeats 4000000
set_option synthInstance.maxSize 100000
set_option synthInstance.maxHeartbeats 1000000
namespace Go.Proofs.YtodbopebbmplaaaGreat
open Go.RowKit Go.Proofs.YtodbopebbmplaaaGreat.Sep Go.Proofs.YtodbopebbmplaaaGreat.Walk
mutual
def station_Station_came.j0 (k : Nat) (a0 : station_Station) (a1 : Int) (a2 : List Int) (x7 : Bool) : Option station_Station := (if x7 = true then some a0 else (if 0 ≤ (1 : Int) ∧ (1 : Int) < (a2.length : Int) then (if 0 ≤ (2 : Int) ∧ (2 : Int) < (a2.length : Int) then (if 0 ≤ (3 : Int) ∧ (3 : Int) < (a2.length : Int) then (if 0 ≤ (4 : Int) ∧ (4 : Int) < (a2.length : Int) then ((twins_Table_Fresh.f k a0.twins (ior .u32 (ior .u32 (ior .u32 (IntKind.u32.wrap ((IntKind.u32.wrap (a2.getD (1 : Int).toNat 0)) * 2 ^ (min (24 : Int).toNat IntKind.u32.bits))) (IntKind.u32.wrap ((IntKind.u32.wrap (a2.getD (2 : Int).toNat 0)) * 2 ^ (min (16 : Int).toNat IntKind.u32.bits)))) (IntKind.u32.wrap ((IntKind.u32.wrap (a2.getD (3 : Int).toNat 0)) * 2 ^ (min (8 : Int).toNat IntKind.u32.bits)))) (IntKind.u32.wrap (a2.getD (4 : Int).toNat 0)))).bind fun t16 => (if t16.1 = true then (if 0 ≤ (5 : Int) ∧ (5 : Int) ≤ (a2.length : Int) ∧ (a2.length : Int) ≤ (a2.length : Int) then ((arq_Arq_Input.f k a0.arq (cut a2 (5 : Int) (a2.length : Int))).bind fun t20 => some ({ a0 with arq := t20, twins := t16.2 } : station_Station)) else none) else (if 0 ≤ a1 ∧ a1 < 2 then (if a1 = 0 then some (({ a0 with twins := t16.2, sides := (({ a0.sides.1 with counts := ({ a0.sides.1.counts with Twins := station_one.f a0.sides.1.counts.Twins } : api_Counts) } : station_side), a0.sides.2) } : station_Station)) else some (({ a0 with twins := t16.2, sides := (a0.sides.1, ({ a0.sides.2 with counts := ({ a0.sides.2.counts with Twins := station_one.f a0.sides.2.counts.Twins } : api_Counts) } : station_side)) } : station_Station))) else none))) else none) else none) else none) else none))
def station_Station_came.j1 (a0 : station_Station) (a2 : List Int) (x34 : Bool) : Option station_Station := (if x34 = true then (if 0 ≤ (1 : Int) ∧ (1 : Int) ≤ (a2.length : Int) ∧ (a2.length : Int) ≤ (a2.length : Int) then ((kcode_Read.f (cut a2 (1 : Int) (a2.length : Int))).bind fun t38 => (if t38.2.2 = 0 then ((aps_Aps_Remote.f a0.aps t38.1).bind fun t43 => some ({ a0 with aps := t43 } : station_Station)) else some a0)) else none) else some a0)
def station_Station_came.j2 (a0 : station_Station) (a2 : List Int) (x46 : Bool) : Option station_Station := (if x46 = true then (if 0 ≤ (1 : Int) ∧ (1 : Int) ≤ (a2.length : Int) ∧ (a2.length : Int) ≤ (a2.length : Int) then ((kcode_Read.f (cut a2 (1 : Int) (a2.length : Int))).bind fun t50 => (if t50.2.2 = 0 then ((aps_Aps_Remote.f a0.aps t50.1).bind fun t55 => some ({ a0 with aps := t55 } : station_Station)) else some a0)) else none) else some a0)
end
def station_Station_came.f (k : Nat) (a0 : station_Station) (a1 : Int) (a2 : List Int) : Option station_Station := (if 0 ≤ (0 : Int) ∧ (0 : Int) < (a2.length : Int) then (if (a2.getD (0 : Int).toNat 0) = 0 then (if (a2.length : Int) ≥ 5 then ((station_Station_twice.f a0).bind fun t27 => (if t27 = true then (station_Station_came.j0 k a0 a1 a2 false) else ((aps_Aps_Line.f a0.aps).bind fun t32 => (station_Station_came.j0 k a0 a1 a2 (!(decide (a1 = t32))))))) else (if (a2.getD (0 : Int).toNat 0) = 1 then (station_Station_came.j1 a0 a2 (decide (a1 = 1))) else (station_Station_came.j1 a0 a2 false))) else (if (a2.getD (0 : Int).toNat 0) = 1 then (station_Station_came.j2 a0 a2 (decide (a1 = 1))) else (station_Station_came.j2 a0 a2 false))) else none)
theorem station_Station_came.calls {k : Nat} {a0 : station_Station} {a1 : Int} {a2 : List Int} {R : As} {w0 w : World} {b0 : Nat} {sa2 : Option Addr} {sc2 : Nat} {r : station_Station} (H : station_Station_came.f k a0 a1 a2 = some r) (HS : Sep.St [station_Station.at b0 a0, R] w0 w) (hr2 : rdC R 1 (.slice sa2 a2.length sc2) a2.length (a2.map (Value.int .u8))) : Calls Tryz.prog 65 #[Value.pointer (some ⟨b0, 0, none⟩), Value.int .i64 a1, Value.slice sa2 a2.length sc2] w (Ret fun u w => u = Value.tuple #[] ∧ Sep.St [station_Station.at b0 r, R] w0 w) := by
 unfold station_Station_came.f at H
 refine calls_enter Tryz.func65 rfl rfl ?_
 have H : _ = some r := H
 refine V.block (V.seq (V.region (W.mv rfl ?_)))
 obtain ⟨c2, H⟩ := ite_n H
 obtain ⟨eb3, eo4, hh⟩ := (rdC.at 1 hr2 HS rfl).some (by decide) c2.1 c2.2; subst hh
 refine W.r (X.indexSl Tryz.underlying32 inf5 rfl rfl c2.1 c2.2) rfl (W.r (X.load Tryz.underlying5 rfl rfl ((rdC.at 1 hr2 HS rfl).cellI c2.1 c2.2)) rfl (W.r (X.cmp (decide ((a2.getD (0 : Int).toNat 0) = 0)) rfl rfl rfl rfl) rfl (W.mv rfl ?_)))
 by_cases c5 : (a2.getD (0 : Int).toNat 0) = 0
 ·replace H := ite_t c5 H
  refine W.want 15 rfl (sb (decide_eq_true c5)) (W.mv rfl (W.want 15 rfl (sb (decide_eq_true c5)) (W.r (X.lenSl Tryz.underlying32 rfl) rfl (W.want 15 rfl (sb (decide_eq_true c5)) (W.r (X.cmp (decide ((a2.length : Int) ≥ 5)) rfl rfl rfl rfl) rfl (W.r (X.pickT (sb (decide_eq_true c5)) rfl) rfl (W.as rfl (W.nx ?_))))))))
  by_cases c6 : (a2.length : Int) ≥ 5
  ·replace H := ite_t c6 H
   refine V.condT (sb (decide_eq_true c6)) (V.seq (V.meet (σ := Bool) (fun st w => match st with | x7 => Sep.St [station_Station.at b0 a0, R] w0 w ∧ ∃ kf8, kf8 ≤ k ∧ station_Station_came.j0 kf8 a0 a1 a2 x7 = some r) (fun st => match st with | x7 => [(0, Value.pointer (some ⟨b0, 0, none⟩)), (1, Value.int .i64 a1), (2, Value.slice (some ⟨eb3, eo4, none⟩) a2.length sc2), (31, Value.bool x7)]) ?_ ?_))
   ·refine V.region (W.mv rfl ?_)
    obtain ⟨b16_25, b17_25, b18_25, b22_25, b23_25, b24_25, b32_25, b33_25, b34_25, hi26, HS⟩ := station_Station.open HS
    obtain ⟨t27, A28, H⟩ := bind_s H
    refine W.e (Y.cl Tryz.func49 (station_Station_twice.calls A28 HS.j10)) rfl ?_
    rintro _ w ⟨rfl, HS⟩
    replace HS := HS.o10
    refine W.r (X.not rfl) rfl (W.mv rfl ?_)
    by_cases c29 : t27 = true
    ·replace H := ite_t c29 H
     refine W.pass 23 rfl (sb (n_t c29)) rfl rfl (W.pass 23 rfl (sb (n_t c29)) rfl rfl (W.pass 23 rfl (sb (n_t c29)) rfl rfl (W.pass 23 rfl (sb (n_t c29)) rfl rfl (W.pass 23 rfl (sb (n_t c29)) rfl rfl (W.pass 23 rfl (sb (n_t c29)) rfl rfl (W.pass 23 rfl (sb (n_t c29)) rfl rfl (W.r (X.pickF (sb (n_t c29)) rfl) rfl (W.nil ?_))))))))
     replace HS := station_Station.close trivial HS
     exact At.meet false ⟨rfl, rfl, rfl, rfl, trivial⟩ ⟨HS, k, by omega, H⟩
    ·replace H := ite_f c29 H
     refine W.want 23 rfl (sb (n_f (b_f c29))) (W.mv rfl (W.want 23 rfl (sb (n_f (b_f c29))) (W.mv rfl (W.want 23 rfl (sb (n_f (b_f c29))) (W.nc rfl (W.want 23 rfl (sb (n_f (b_f c29))) (W.fa fo87_2 rfl (W.want 23 rfl (sb (n_f (b_f c29))) (W.ld 0 HS Tryz.underlying75 rfl rfl rfl rfl (W.want 23 rfl (sb (n_f (b_f c29))) ?_))))))))))
     replace HS := HS.fr 2
     obtain ⟨hi31, HS⟩ := aps_Aps.open HS
     obtain ⟨t32, A33, H⟩ := bind_s H
     refine W.e (Y.cl Tryz.func48 (aps_Aps_Line.calls A33 HS.j1)) rfl ?_
     rintro _ w ⟨rfl, HS⟩
     replace HS := HS.o1
     refine W.want 23 rfl (sb (n_f (b_f c29))) (W.r (X.cmp (!(decide (a1 = t32))) rfl rfl rfl rfl) rfl (W.r (X.pickT (sb (n_f (b_f c29))) rfl) rfl (W.nil ?_)))
     replace HS := aps_Aps.close trivial HS
     replace HS := HS.pm [1, 2, 0, 3, 4, 5, 6, 7, 8, 9, 10]
     replace HS := station_Station.close trivial HS
     exact At.meet (!(decide (a1 = t32))) ⟨rfl, rfl, rfl, rfl, trivial⟩ ⟨HS, k, by omega, H⟩
   ·rintro x7 w ⟨HS, kf8, hkkf8, H⟩
    unfold station_Station_came.j0 at H
    by_cases c9 : x7 = true
    ·replace H := ite_t c9 H
     refine V.condT (sb c9) (V.ret (At.thenRet (At.blockRet ?_)))
     cases H
     exact At.ret0 rfl ⟨_, rfl, rfl, HS⟩
    ·replace H := ite_f c9 H
     refine V.condF (sb (b_f c9)) (V.skip (At.next (V.seq ?_)))
     obtain ⟨c10, H⟩ := ite_n H
     obtain ⟨c11, H⟩ := ite_n H
     obtain ⟨c12, H⟩ := ite_n H
     obtain ⟨c13, H⟩ := ite_n H
     refine V.dr [] [] [(32, Value.slice (some ⟨eb3, eo4, none⟩) a2.length sc2), (33, Value.pointer (some ⟨eb3, eo4 + (1 : Int).toNat * 1, none⟩)), (34, Value.int .u8 (a2.getD (1 : Int).toNat 0)), (35, Value.int .u32 (IntKind.u32.wrap (a2.getD (1 : Int).toNat 0))), (36, Value.int .u32 (IntKind.u32.wrap ((IntKind.u32.wrap (a2.getD (1 : Int).toNat 0)) * 2 ^ (min (24 : Int).toNat IntKind.u32.bits)))), (37, Value.slice (some ⟨eb3, eo4, none⟩) a2.length sc2), (38, Value.pointer (some ⟨eb3, eo4 + (2 : Int).toNat * 1, none⟩)), (39, Value.int .u8 (a2.getD (2 : Int).toNat 0)), (40, Value.int .u32 (IntKind.u32.wrap (a2.getD (2 : Int).toNat 0))), (41, Value.int .u32 (IntKind.u32.wrap ((IntKind.u32.wrap (a2.getD (2 : Int).toNat 0)) * 2 ^ (min (16 : Int).toNat IntKind.u32.bits)))), (42, Value.int .u32 (ior .u32 (IntKind.u32.wrap ((IntKind.u32.wrap (a2.getD (1 : Int).toNat 0)) * 2 ^ (min (24 : Int).toNat IntKind.u32.bits))) (IntKind.u32.wrap ((IntKind.u32.wrap (a2.getD (2 : Int).toNat 0)) * 2 ^ (min (16 : Int).toNat IntKind.u32.bits))))), (43, Value.slice (some ⟨eb3, eo4, none⟩) a2.length sc2), (44, Value.pointer (some ⟨eb3, eo4 + (3 : Int).toNat * 1, none⟩)), (45, Value.int .u8 (a2.getD (3 : Int).toNat 0)), (46, Value.int .u32 (IntKind.u32.wrap (a2.getD (3 : Int).toNat 0))), (47, Value.int .u32 (IntKind.u32.wrap ((IntKind.u32.wrap (a2.getD (3 : Int).toNat 0)) * 2 ^ (min (8 : Int).toNat IntKind.u32.bits)))), (48, Value.int .u32 (ior .u32 (ior .u32 (IntKind.u32.wrap ((IntKind.u32.wrap (a2.getD (1 : Int).toNat 0)) * 2 ^ (min (24 : Int).toNat IntKind.u32.bits))) (IntKind.u32.wrap ((IntKind.u32.wrap (a2.getD (2 : Int).toNat 0)) * 2 ^ (min (16 : Int).toNat IntKind.u32.bits)))) (IntKind.u32.wrap ((IntKind.u32.wrap (a2.getD (3 : Int).toNat 0)) * 2 ^ (min (8 : Int).toNat IntKind.u32.bits))))), (49, Value.slice (some ⟨eb3, eo4, none⟩) a2.length sc2), (50, Value.pointer (some ⟨eb3, eo4 + (4 : Int).toNat * 1, none⟩)), (51, Value.int .u8 (a2.getD (4 : Int).toNat 0)), (52, Value.int .u32 (IntKind.u32.wrap (a2.getD (4 : Int).toNat 0))), (53, Value.int .u32 (ior .u32 (ior .u32 (ior .u32 (IntKind.u32.wrap ((IntKind.u32.wrap (a2.getD (1 : Int).toNat 0)) * 2 ^ (min (24 : Int).toNat IntKind.u32.bits))) (IntKind.u32.wrap ((IntKind.u32.wrap (a2.getD (2 : Int).toNat 0)) * 2 ^ (min (16 : Int).toNat IntKind.u32.bits)))) (IntKind.u32.wrap ((IntKind.u32.wrap (a2.getD (3 : Int).toNat 0)) * 2 ^ (min (8 : Int).toNat IntKind.u32.bits)))) (IntKind.u32.wrap (a2.getD (4 : Int).toNat 0)))), (6, Value.int .u32 (ior .u32 (ior .u32 (ior .u32 (IntKind.u32.wrap ((IntKind.u32.wrap (a2.getD (1 : Int).toNat 0)) * 2 ^ (min (24 : Int).toNat IntKind.u32.bits))) (IntKind.u32.wrap ((IntKind.u32.wrap (a2.getD (2 : Int).toNat 0)) * 2 ^ (min (16 : Int).toNat IntKind.u32.bits)))) (IntKind.u32.wrap ((IntKind.u32.wrap (a2.getD (3 : Int).toNat 0)) * 2 ^ (min (8 : Int).toNat IntKind.u32.bits)))) (IntKind.u32.wrap (a2.getD (4 : Int).toNat 0))))] mo HS ?_
     refine T.fn [(0, _), (1, _), (2, _), (6, _)] ⟨rfl, rfl, rfl, rfl, trivial⟩ ⟨.mv 2, .n1 32 rfl rfl (fun w HS => X.indexSl Tryz.underlying32 inf5 rfl rfl c10.1 c10.2), .n1 33 rfl rfl (fun w HS => X.load Tryz.underlying5 rfl rfl ((rdC.at 1 hr2 HS rfl).cellI c10.1 c10.2)), .n1 34 rfl rfl (fun w HS => X.conv Tryz.underlying5 Tryz.underlying79 rfl), .n1 35 rfl rfl (fun w HS => X.shl rfl rfl (by decide)), .mv 2, .n1 37 rfl rfl (fun w HS => X.indexSl Tryz.underlying32 inf5 rfl rfl c11.1 c11.2), .n1 38 rfl rfl (fun w HS => X.load Tryz.underlying5 rfl rfl ((rdC.at 1 hr2 HS rfl).cellI c11.1 c11.2)), .n1 39 rfl rfl (fun w HS => X.conv Tryz.underlying5 Tryz.underlying79 rfl), .n1 40 rfl rfl (fun w HS => X.shl rfl rfl (by decide)), .n2 36 41 rfl rfl rfl (fun w HS => X.or rfl rfl), .mv 2, .n1 43 rfl rfl (fun w HS => X.indexSl Tryz.underlying32 inf5 rfl rfl c12.1 c12.2), .n1 44 rfl rfl (fun w HS => X.load Tryz.underlying5 rfl rfl ((rdC.at 1 hr2 HS rfl).cellI c12.1 c12.2)), .n1 45 rfl rfl (fun w HS => X.conv Tryz.underlying5 Tryz.underlying79 rfl), .n1 46 rfl rfl (fun w HS => X.shl rfl rfl (by decide)), .n2 42 47 rfl rfl rfl (fun w HS => X.or rfl rfl), .mv 2, .n1 49 rfl rfl (fun w HS => X.indexSl Tryz.underlying32 inf5 rfl rfl c13.1 c13.2), .n1 50 rfl rfl (fun w HS => X.load Tryz.underlying5 rfl rfl ((rdC.at 1 hr2 HS rfl).cellI c13.1 c13.2)), .n1 51 rfl rfl (fun w HS => X.conv Tryz.underlying5 Tryz.underlying79 rfl), .n2 48 52 rfl rfl rfl (fun w HS => X.or rfl rfl), .as 53, trivial⟩ (fun w HS => ?_)
     refine At.next (V.seq (V.region (W.mv rfl (W.nc rfl ?_))))
     obtain ⟨b16_14, b17_14, b18_14, b22_14, b23_14, b24_14, b32_14, b33_14, b34_14, hi15, HS⟩ := station_Station.open HS
     refine W.fa fo87_3 rfl (W.ld 0 HS Tryz.underlying77 rfl rfl rfl rfl (W.mv rfl ?_))
     obtain ⟨t16, A17, H⟩ := bind_s H
     replace HS := HS.pm [3, 0, 1, 2, 4, 5, 6, 7, 8, 9, 10]
     refine W.e (Y.cl Tryz.func138 (twins_Table_Fresh.calls A17 HS.j1)) rfl ?_
     rintro _ w ⟨rfl, HS⟩
     replace HS := HS.o1
     refine W.nx ?_
     by_cases c18 : t16.1 = true
     ·replace H := ite_t c18 H
      refine V.condT (sb c18) ?_
      obtain ⟨c19, H⟩ := ite_n H
      refine V.dr [6] [] [(60, Value.pointer (some ⟨b0, 0, none⟩)), (61, Value.pointer (some ⟨b0, 0, none⟩)), (62, Value.pointer (some ⟨b0, 0 + 16, none⟩)), (63, Value.pointer (some ⟨b16_14, 0, none⟩)), (64, Value.slice (some ⟨eb3, eo4, none⟩) a2.length sc2), (65, Value.slice (vaddr (some ⟨eb3, eo4, none⟩) sc2 (5 : Int).toNat 1) (cut a2 (5 : Int) (a2.length : Int)).length (sc2 - (5 : Int).toNat))] mo HS ?_
      refine T.ev [(63, _), (65, _)] [] [0, 1, 2, 3, 4, 5] ⟨rfl, rfl, trivial⟩ ⟨.mv 0, .nc 60, .fa 61 fo87_1, .ld 62 1 Tryz.underlying73, .mv 2, .n1 64 rfl rfl (fun w HS => X.slL Tryz.underlying32 inf5 rfl rfl c19), trivial⟩ rfl (fun w HS => ?_)
      obtain ⟨t20, A21, H⟩ := bind_s H
      replace HS := HS.pm [2, 0, 1, 3, 4, 5, 6, 7, 8, 9, 10]
      refine ⟨_, Y.cl Tryz.func139 (arq_Arq_Input.calls A21 HS.j1 (rdC.part 9 (rdC.subM hr2 c19) rfl)), ?_⟩
      rintro _ w ⟨rfl, HS⟩
      replace HS := HS.o1
      refine T.nw HS ?_
      refine T.fn [] trivial trivial (fun w HS => ?_)
      refine At.blockEnd ?_
      replace HS := HS.pm [2, 0, 3, 1, 4, 5, 6, 7, 8, 9, 10]
      replace HS := station_Station.close trivial HS
      cases H
      exact At.end0 rfl ⟨_, rfl, rfl, HS⟩
     ·replace H := ite_f c18 H
      refine V.condF (sb (b_f c18)) (V.region (W.mv rfl (W.mv rfl (W.nc rfl (W.fa fo87_7 rfl ?_)))))
      obtain ⟨c22, H⟩ := ite_n H
      by_cases c23 : a1 = 0
      ·replace H := ite_t c23 H
       refine W.r (X.indexArK 0 c23 Tryz.underlying85 inf84 rfl rfl c22.1 c22.2) rfl (W.fa fo84_3 rfl (W.fa fo42_6 rfl (W.e (Y.cl Tryz.func63 (station_one.cell 1 31 HS rfl rfl rfl)) rfl ?_)))
       rintro _ w ⟨rfl, HS⟩
       refine W.nil (At.blockEnd ?_)
       replace HS := HS.pm [1, 2, 3, 0, 4, 5, 6, 7, 8, 9, 10]
       replace HS := station_Station.close trivial HS
       cases H
       exact At.end0 rfl ⟨_, rfl, rfl, HS⟩
      ·replace H := ite_f c23 H
       have hk24 : a1 = 1 := by omega
       refine W.r (X.indexArK 1 hk24 Tryz.underlying85 inf84 rfl rfl c22.1 c22.2) rfl (W.fa fo84_3 rfl (W.fa fo42_6 rfl (W.e (Y.cl Tryz.func63 (station_one.cell 1 41 HS rfl rfl rfl)) rfl ?_)))
       rintro _ w ⟨rfl, HS⟩
       refine W.nil (At.blockEnd ?_)
       replace HS := HS.pm [1, 2, 3, 0, 4, 5, 6, 7, 8, 9, 10]
       replace HS := station_Station.close trivial HS
       cases H
       exact At.end0 rfl ⟨_, rfl, rfl, HS⟩
  ·replace H := ite_f c6 H
   refine V.condF (sb (decide_eq_false c6)) (V.meet (σ := Bool) (fun st w => match st with | x34 => Sep.St [station_Station.at b0 a0, R] w0 w ∧ station_Station_came.j1 a0 a2 x34 = some r) (fun st => match st with | x34 => [(0, Value.pointer (some ⟨b0, 0, none⟩)), (2, Value.slice (some ⟨eb3, eo4, none⟩) a2.length sc2), (75, Value.bool x34)]) ?_ ?_)
   ·refine V.region (W.mv rfl (W.r (X.indexSl Tryz.underlying32 inf5 rfl rfl c2.1 c2.2) rfl (W.r (X.load Tryz.underlying5 rfl rfl ((rdC.at 1 hr2 HS rfl).cellI c2.1 c2.2)) rfl (W.r (X.cmp (decide ((a2.getD (0 : Int).toNat 0) = 1)) rfl rfl rfl rfl) rfl (W.mv rfl ?_)))))
    by_cases c45 : (a2.getD (0 : Int).toNat 0) = 1
    ·replace H := ite_t c45 H
     refine W.want 80 rfl (sb (decide_eq_true c45)) (W.mv rfl (W.want 80 rfl (sb (decide_eq_true c45)) (W.r (X.cmp (decide (a1 = 1)) rfl rfl rfl rfl) rfl (W.r (X.pickT (sb (decide_eq_true c45)) rfl) rfl (W.as rfl (W.nil ?_))))))
     exact At.meet (decide (a1 = 1)) ⟨rfl, rfl, rfl, trivial⟩ ⟨HS, H⟩
    ·replace H := ite_f c45 H
     refine W.pass 80 rfl (sb (decide_eq_false c45)) rfl rfl (W.pass 80 rfl (sb (decide_eq_false c45)) rfl rfl (W.r (X.pickF (sb (decide_eq_false c45)) rfl) rfl (W.as rfl (W.nil ?_))))
     exact At.meet false ⟨rfl, rfl, rfl, trivial⟩ ⟨HS, H⟩
   ·rintro x34 w ⟨HS, H⟩
    unfold station_Station_came.j1 at H
    by_cases c36 : x34 = true
    ·replace H := ite_t c36 H
     refine V.condT (sb c36) (V.seq (V.region (W.mv rfl ?_)))
     obtain ⟨c37, H⟩ := ite_n H
     refine W.r (X.slL Tryz.underlying32 inf5 rfl rfl c37) rfl ?_
     obtain ⟨t38, A39, H⟩ := bind_s H
     refine W.e (Y.cl Tryz.func140 (kcode_Read.calls A39 HS.j0 (rdC.part 1 (rdC.subM hr2 c37) rfl))) rfl ?_
     rintro _ w ⟨rfl, HS⟩
     replace HS := HS.o0
     refine W.mv rfl (W.r (X.extract rfl rfl) rfl (W.r (X.extract rfl rfl) rfl (W.r (X.extract rfl rfl) rfl (W.as rfl (W.as rfl (W.as rfl (W.nx (V.seq (V.region (W.mv rfl (W.r (X.cmp (decide (t38.2.2 = 0)) rfl rfl rfl rfl) rfl (W.nx ?_))))))))))))
     by_cases c40 : t38.2.2 = 0
     ·replace H := ite_t c40 H
      refine V.condT (sb (decide_eq_true c40)) (V.region (W.mv rfl (W.nc rfl ?_)))
      obtain ⟨b16_41, b17_41, b18_41, b22_41, b23_41, b24_41, b32_41, b33_41, b34_41, hi42, HS⟩ := station_Station.open HS
      refine W.fa fo87_2 rfl (W.ld 0 HS Tryz.underlying75 rfl rfl rfl rfl (W.mv rfl ?_))
      obtain ⟨t43, A44, H⟩ := bind_s H
      replace HS := HS.pm [2, 0, 1, 3, 4, 5, 6, 7, 8, 9, 10]
      refine W.e (Y.cl Tryz.func141 (aps_Aps_Remote.calls A44 HS.j1)) rfl ?_
      rintro _ w ⟨rfl, HS⟩
      replace HS := HS.o1
      refine W.nil (At.blockEnd ?_)
      replace HS := HS.pm [1, 2, 0, 3, 4, 5, 6, 7, 8, 9, 10]
      replace HS := station_Station.close trivial HS
      cases H
      exact At.end0 rfl ⟨_, rfl, rfl, HS⟩
     ·replace H := ite_f c40 H
      refine V.condF (sb (decide_eq_false c40)) (V.skip (At.blockEnd ?_))
      cases H
      exact At.end0 rfl ⟨_, rfl, rfl, HS⟩
    ·replace H := ite_f c36 H
     refine V.condF (sb (b_f c36)) (V.skip (At.blockEnd ?_))
     cases H
     exact At.end0 rfl ⟨_, rfl, rfl, HS⟩
 ·replace H := ite_f c5 H
  refine W.pass 15 rfl (sb (decide_eq_false c5)) rfl rfl (W.pass 15 rfl (sb (decide_eq_false c5)) rfl rfl (W.pass 15 rfl (sb (decide_eq_false c5)) rfl rfl (W.r (X.pickF (sb (decide_eq_false c5)) rfl) rfl (W.as rfl (W.nx (V.condF rfl (V.meet (σ := Bool) (fun st w => match st with | x46 => Sep.St [station_Station.at b0 a0, R] w0 w ∧ station_Station_came.j2 a0 a2 x46 = some r) (fun st => match st with | x46 => [(0, Value.pointer (some ⟨b0, 0, none⟩)), (2, Value.slice (some ⟨eb3, eo4, none⟩) a2.length sc2), (75, Value.bool x46)]) ?_ ?_)))))))
  ·refine V.region (W.mv rfl (W.r (X.indexSl Tryz.underlying32 inf5 rfl rfl c2.1 c2.2) rfl (W.r (X.load Tryz.underlying5 rfl rfl ((rdC.at 1 hr2 HS rfl).cellI c2.1 c2.2)) rfl (W.r (X.cmp (decide ((a2.getD (0 : Int).toNat 0) = 1)) rfl rfl rfl rfl) rfl (W.mv rfl ?_)))))
   by_cases c57 : (a2.getD (0 : Int).toNat 0) = 1
   ·replace H := ite_t c57 H
    refine W.want 80 rfl (sb (decide_eq_true c57)) (W.mv rfl (W.want 80 rfl (sb (decide_eq_true c57)) (W.r (X.cmp (decide (a1 = 1)) rfl rfl rfl rfl) rfl (W.r (X.pickT (sb (decide_eq_true c57)) rfl) rfl (W.as rfl (W.nil ?_))))))
    exact At.meet (decide (a1 = 1)) ⟨rfl, rfl, rfl, trivial⟩ ⟨HS, H⟩
   ·replace H := ite_f c57 H
    refine W.pass 80 rfl (sb (decide_eq_false c57)) rfl rfl (W.pass 80 rfl (sb (decide_eq_false c57)) rfl rfl (W.r (X.pickF (sb (decide_eq_false c57)) rfl) rfl (W.as rfl (W.nil ?_))))
    exact At.meet false ⟨rfl, rfl, rfl, trivial⟩ ⟨HS, H⟩
  ·rintro x46 w ⟨HS, H⟩
   unfold station_Station_came.j2 at H
   by_cases c48 : x46 = true
   ·replace H := ite_t c48 H
    refine V.condT (sb c48) (V.seq (V.region (W.mv rfl ?_)))
    obtain ⟨c49, H⟩ := ite_n H
    refine W.r (X.slL Tryz.underlying32 inf5 rfl rfl c49) rfl ?_
    obtain ⟨t50, A51, H⟩ := bind_s H
    refine W.e (Y.cl Tryz.func140 (kcode_Read.calls A51 HS.j0 (rdC.part 1 (rdC.subM hr2 c49) rfl))) rfl ?_
    rintro _ w ⟨rfl, HS⟩
    replace HS := HS.o0
    refine W.mv rfl (W.r (X.extract rfl rfl) rfl (W.r (X.extract rfl rfl) rfl (W.r (X.extract rfl rfl) rfl (W.as rfl (W.as rfl (W.as rfl (W.nx (V.seq (V.region (W.mv rfl (W.r (X.cmp (decide (t50.2.2 = 0)) rfl rfl rfl rfl) rfl (W.nx ?_))))))))))))
    by_cases c52 : t50.2.2 = 0
    ·replace H := ite_t c52 H
     refine V.condT (sb (decide_eq_true c52)) (V.region (W.mv rfl (W.nc rfl ?_)))
     obtain ⟨b16_53, b17_53, b18_53, b22_53, b23_53, b24_53, b32_53, b33_53, b34_53, hi54, HS⟩ := station_Station.open HS
     refine W.fa fo87_2 rfl (W.ld 0 HS Tryz.underlying75 rfl rfl rfl rfl (W.mv rfl ?_))
     obtain ⟨t55, A56, H⟩ := bind_s H
     replace HS := HS.pm [2, 0, 1, 3, 4, 5, 6, 7, 8, 9, 10]
     refine W.e (Y.cl Tryz.func141 (aps_Aps_Remote.calls A56 HS.j1)) rfl ?_
     rintro _ w ⟨rfl, HS⟩
     replace HS := HS.o1
     refine W.nil (At.blockEnd ?_)
     replace HS := HS.pm [1, 2, 0, 3, 4, 5, 6, 7, 8, 9, 10]
     replace HS := station_Station.close trivial HS
     cases H
     exact At.end0 rfl ⟨_, rfl, rfl, HS⟩
    ·replace H := ite_f c52 H
     refine V.condF (sb (decide_eq_false c52)) (V.skip (At.blockEnd ?_))
     cases H
     exact At.end0 rfl ⟨_, rfl, rfl, HS⟩
   ·replace H := ite_f c48 H
    refine V.condF (sb (b_f c48)) (V.skip (At.blockEnd ?_))
    cases H
    exact At.end0 rfl ⟨_, rfl, rfl, HS⟩
def station_Station_Push.f (k : Nat) (a0 : station_Station) (a1 : Int) (a2 : Int) : Option (Int × List Int × station_Station) := ((station_has.f a1).bind fun t2 => (if t2 = true then (if 0 ≤ a1 ∧ a1 < 2 then (if a1 = 0 then ((frame_Reader_Push.f k a0.sides.1.reader a2).bind fun t9 => (if t9.1 = 1 then ((monitor_Monitor_Note.f a0.sides.1.monitor true).bind fun t12 => ((station_Station_came.f k ({ a0 with sides := (({ reader := t9.2.2, monitor := t12.2, ring := a0.sides.1.ring, counts := ({ a0.sides.1.counts with Good := station_one.f a0.sides.1.counts.Good } : api_Counts) } : station_side), a0.sides.2) } : station_Station) a1 t9.2.1).bind fun t14 => some (t9.1, t9.2.1, t14))) else (if t9.1 = 2 then some (t9.1, t9.2.1, ({ a0 with sides := (({ a0.sides.1 with reader := t9.2.2, counts := ({ a0.sides.1.counts with Runts := station_one.f a0.sides.1.counts.Runts } : api_Counts) } : station_side), a0.sides.2) } : station_Station)) else (if t9.1 = 4 then ((monitor_Monitor_Note.f a0.sides.1.monitor false).bind fun t18 => some (t9.1, t9.2.1, ({ a0 with sides := (({ reader := t9.2.2, monitor := t18.2, ring := a0.sides.1.ring, counts := ({ a0.sides.1.counts with Bad := station_one.f a0.sides.1.counts.Bad } : api_Counts) } : station_side), a0.sides.2) } : station_Station))) else (if t9.1 = 3 then ((monitor_Monitor_Note.f a0.sides.1.monitor false).bind fun t21 => some (t9.1, t9.2.1, ({ a0 with sides := (({ reader := t9.2.2, monitor := t21.2, ring := a0.sides.1.ring, counts := ({ a0.sides.1.counts with Giants := station_one.f a0.sides.1.counts.Giants } : api_Counts) } : station_side), a0.sides.2) } : station_Station))) else (if t9.1 = 5 then ((monitor_Monitor_Note.f a0.sides.1.monitor false).bind fun t24 => some (t9.1, t9.2.1, ({ a0 with sides := (({ reader := t9.2.2, monitor := t24.2, ring := a0.sides.1.ring, counts := ({ a0.sides.1.counts with Aborts := station_one.f a0.sides.1.counts.Aborts } : api_Counts) } : station_side), a0.sides.2) } : station_Station))) else some (t9.1, t9.2.1, ({ a0 with sides := (({ a0.sides.1 with reader := t9.2.2 } : station_side), a0.sides.2) } : station_Station)))))))) else ((frame_Reader_Push.f k a0.sides.2.reader a2).bind fun t27 => (if t27.1 = 1 then ((monitor_Monitor_Note.f a0.sides.2.monitor true).bind fun t30 => ((station_Station_came.f k ({ a0 with sides := (a0.sides.1, ({ reader := t27.2.2, monitor := t30.2, ring := a0.sides.2.ring, counts := ({ a0.sides.2.counts with Good := station_one.f a0.sides.2.counts.Good } : api_Counts) } : station_side)) } : station_Station) a1 t27.2.1).bind fun t32 => some (t27.1, t27.2.1, t32))) else (if t27.1 = 2 then some (t27.1, t27.2.1, ({ a0 with sides := (a0.sides.1, ({ a0.sides.2 with reader := t27.2.2, counts := ({ a0.sides.2.counts with Runts := station_one.f a0.sides.2.counts.Runts } : api_Counts) } : station_side)) } : station_Station)) else (if t27.1 = 4 then ((monitor_Monitor_Note.f a0.sides.2.monitor false).bind fun t36 => some (t27.1, t27.2.1, ({ a0 with sides := (a0.sides.1, ({ reader := t27.2.2, monitor := t36.2, ring := a0.sides.2.ring, counts := ({ a0.sides.2.counts with Bad := station_one.f a0.sides.2.counts.Bad } : api_Counts) } : station_side)) } : station_Station))) else (if t27.1 = 3 then ((monitor_Monitor_Note.f a0.sides.2.monitor false).bind fun t39 => some (t27.1, t27.2.1, ({ a0 with sides := (a0.sides.1, ({ reader := t27.2.2, monitor := t39.2, ring := a0.sides.2.ring, counts := ({ a0.sides.2.counts with Giants := station_one.f a0.sides.2.counts.Giants } : api_Counts) } : station_side)) } : station_Station))) else (if t27.1 = 5 then ((monitor_Monitor_Note.f a0.sides.2.monitor false).bind fun t42 => some (t27.1, t27.2.1, ({ a0 with sides := (a0.sides.1, ({ reader := t27.2.2, monitor := t42.2, ring := a0.sides.2.ring, counts := ({ a0.sides.2.counts with Aborts := station_one.f a0.sides.2.counts.Aborts } : api_Counts) } : station_side)) } : station_Station))) else some (t27.1, t27.2.1, ({ a0 with sides := (a0.sides.1, ({ a0.sides.2 with reader := t27.2.2 } : station_side)) } : station_Station))))))))) else none) else some (0, ([] : List Int), a0)))
theorem station_Station_Push.calls {k : Nat} {a0 : station_Station} {a1 : Int} {a2 : Int} {R : As} {w0 w : World} {b0 : Nat} {r : Int × List Int × station_Station} (H : station_Station_Push.f k a0 a1 a2 = some r) (HS : Sep.St [station_Station.at b0 a0, R] w0 w)  : Calls Tryz.prog 15 #[Value.pointer (some ⟨b0, 0, none⟩), Value.int .i64 a1, Value.int .u8 a2] w (Ret fun u w => ∃ (aq1 : Option Addr) (cq1 : Nat), u = Value.tuple #[Value.int .i64 r.1, Value.slice aq1 r.2.1.length cq1] ∧ Sep.St [row 5 1 (.slice aq1 r.2.1.length cq1) r.2.1.length (r.2.1.map (Value.int .u8)), station_Station.at b0 r.2.2, R] w0 w) := by
 unfold station_Station_Push.f at H
 refine calls_enter Tryz.func15 rfl rfl ?_
 have H : _ = some r := H
 refine V.seq (V.region (W.as rfl (W.as rfl (W.nx (V.seq (V.seq (V.region (W.mv rfl ?_))))))))
 obtain ⟨t2, A3, H⟩ := bind_s H
 refine W.e (Y.cl Tryz.func61 (station_has.calls A3 HS.j0)) rfl ?_
 rintro _ w ⟨rfl, HS⟩
 replace HS := HS.o0
 refine W.r (X.not rfl) rfl (W.nx ?_)
 by_cases c4 : t2 = true
 ·replace H := ite_t c4 H
  refine V.condF (sb (n_t c4)) (V.skip (At.next (V.seq (V.region (W.mv rfl (W.mv rfl (W.nc rfl ?_)))))))
  obtain ⟨b16_5, b17_5, b18_5, b22_5, b23_5, b24_5, b32_5, b33_5, b34_5, hi6, HS⟩ := station_Station.open HS
  refine W.fa fo87_7 rfl ?_
  obtain ⟨c7, H⟩ := ite_n H
  by_cases c8 : a1 = 0
  ·replace H := ite_t c8 H
   refine W.r (X.indexArK 0 c8 Tryz.underlying85 inf84 rfl rfl c7.1 c7.2) rfl (W.as rfl (W.nx (V.seq (V.region (W.mv rfl (W.nc rfl (W.fa fo84_0 rfl (W.ld 0 HS Tryz.underlying80 rfl rfl rfl rfl (W.mv rfl ?_)))))))))
   obtain ⟨t9, A10, H⟩ := bind_s H
   replace HS := HS.pm [4, 0, 1, 2, 3, 5, 6, 7, 8, 9, 10]
   refine W.e (Y.cl Tryz.func62 (frame_Reader_Push.calls A10 HS.j1)) rfl ?_
   rintro _ w ⟨at9_1, ct9_1, rfl, HS⟩
   replace HS := HS.o2
   refine W.mv rfl (W.r (X.extract rfl rfl) rfl (W.r (X.extract rfl rfl) rfl (W.as rfl (W.as rfl (W.nx (V.seq (V.seq (V.region (W.mv rfl (W.nx (V.block (V.seq (V.region (W.r (X.cmp (decide (t9.1 = 1)) rfl rfl rfl rfl) rfl (W.as rfl (W.nx ?_))))))))))))))))
   by_cases c11 : t9.1 = 1
   ·replace H := ite_t c11 H
    refine V.condT (sb (decide_eq_true c11)) (V.seq (V.region (W.mv rfl (W.nc rfl (W.fa fo84_3 rfl (W.fa fo42_0 rfl (W.e (Y.cl Tryz.func63 (station_one.cell 2 25 HS rfl rfl rfl)) rfl ?_)))))))
    rintro _ w ⟨rfl, HS⟩
    refine W.nx (V.seq (V.region (W.mv rfl (W.nc rfl (W.fa fo84_1 rfl (W.ld 2 HS Tryz.underlying81 rfl rfl rfl rfl ?_))))))
    obtain ⟨t12, A13, H⟩ := bind_s H
    replace HS := HS.pm [6, 0, 1, 2, 3, 4, 5, 7, 8, 9, 10, 11]
    refine W.e (Y.cl Tryz.func64 (monitor_Monitor_Note.calls A13 HS.j1)) rfl ?_
    rintro _ w ⟨rfl, HS⟩
    replace HS := HS.o1
    refine W.nx (V.region (W.mv rfl (W.mv rfl (W.mv rfl ?_))))
    replace HS := HS.pm [3, 4, 5, 6, 2, 0, 7, 8, 9, 10, 1, 11]
    replace HS := station_Station.close trivial HS
    obtain ⟨t14, A15, H⟩ := bind_s H
    refine W.e (Y.cl Tryz.func65 (station_Station_came.calls A15 HS.j1 (rdC.part 0 row_rd rfl))) rfl ?_
    rintro _ w ⟨rfl, HS⟩
    replace HS := HS.o1
    refine W.nil (At.blockEnd (At.next (V.seq (V.region (W.mv rfl (W.mv rfl (W.as rfl (W.as rfl (W.nx (V.ret ?_))))))))))
    replace HS := HS.pk [1, 0, 2] []
    cases H
    exact At.ret2 rfl rfl rfl ⟨_, rfl, at9_1, ct9_1, rfl, HS⟩
   ·replace H := ite_f c11 H
    refine V.condF (sb (decide_eq_false c11)) (V.seq (V.region (W.r (X.cmp (decide (t9.1 = 2)) rfl rfl rfl rfl) rfl (W.as rfl (W.nx ?_)))))
    by_cases c16 : t9.1 = 2
    ·replace H := ite_t c16 H
     refine V.condT (sb (decide_eq_true c16)) (V.region (W.mv rfl (W.nc rfl (W.fa fo84_3 rfl (W.fa fo42_3 rfl (W.e (Y.cl Tryz.func63 (station_one.cell 2 28 HS rfl rfl rfl)) rfl ?_))))))
     rintro _ w ⟨rfl, HS⟩
     refine W.nil (At.blockEnd (At.next (V.seq (V.region (W.mv rfl (W.mv rfl (W.as rfl (W.as rfl (W.nx (V.ret ?_))))))))))
     replace HS := HS.pm [2, 3, 4, 5, 1, 6, 7, 8, 9, 10, 0, 11]
     replace HS := station_Station.close trivial HS
     replace HS := HS.pk [1, 0, 2] []
     cases H
     exact At.ret2 rfl rfl rfl ⟨_, rfl, at9_1, ct9_1, rfl, HS⟩
    ·replace H := ite_f c16 H
     refine V.condF (sb (decide_eq_false c16)) (V.seq (V.region (W.r (X.cmp (decide (t9.1 = 4)) rfl rfl rfl rfl) rfl (W.as rfl (W.nx ?_)))))
     by_cases c17 : t9.1 = 4
     ·replace H := ite_t c17 H
      refine V.condT (sb (decide_eq_true c17)) (V.seq (V.region (W.mv rfl (W.nc rfl (W.fa fo84_3 rfl (W.fa fo42_1 rfl (W.e (Y.cl Tryz.func63 (station_one.cell 2 26 HS rfl rfl rfl)) rfl ?_)))))))
      rintro _ w ⟨rfl, HS⟩
      refine W.nx (V.region (W.mv rfl (W.nc rfl (W.fa fo84_1 rfl (W.ld 2 HS Tryz.underlying81 rfl rfl rfl rfl ?_)))))
      obtain ⟨t18, A19, H⟩ := bind_s H
      replace HS := HS.pm [6, 0, 1, 2, 3, 4, 5, 7, 8, 9, 10, 11]
      refine W.e (Y.cl Tryz.func64 (monitor_Monitor_Note.calls A19 HS.j1)) rfl ?_
      rintro _ w ⟨rfl, HS⟩
      replace HS := HS.o1
      refine W.nil (At.blockEnd (At.next (V.seq (V.region (W.mv rfl (W.mv rfl (W.as rfl (W.as rfl (W.nx (V.ret ?_))))))))))
      replace HS := HS.pm [3, 4, 5, 6, 2, 0, 7, 8, 9, 10, 1, 11]
      replace HS := station_Station.close trivial HS
      replace HS := HS.pk [1, 0, 2] []
      cases H
      exact At.ret2 rfl rfl rfl ⟨_, rfl, at9_1, ct9_1, rfl, HS⟩
     ·replace H := ite_f c17 H
      refine V.condF (sb (decide_eq_false c17)) (V.seq (V.region (W.r (X.cmp (decide (t9.1 = 3)) rfl rfl rfl rfl) rfl (W.as rfl (W.nx ?_)))))
      by_cases c20 : t9.1 = 3
      ·replace H := ite_t c20 H
       refine V.condT (sb (decide_eq_true c20)) (V.seq (V.region (W.mv rfl (W.nc rfl (W.fa fo84_3 rfl (W.fa fo42_4 rfl (W.e (Y.cl Tryz.func63 (station_one.cell 2 29 HS rfl rfl rfl)) rfl ?_)))))))
       rintro _ w ⟨rfl, HS⟩
       refine W.nx (V.region (W.mv rfl (W.nc rfl (W.fa fo84_1 rfl (W.ld 2 HS Tryz.underlying81 rfl rfl rfl rfl ?_)))))
       obtain ⟨t21, A22, H⟩ := bind_s H
       replace HS := HS.pm [6, 0, 1, 2, 3, 4, 5, 7, 8, 9, 10, 11]
       refine W.e (Y.cl Tryz.func64 (monitor_Monitor_Note.calls A22 HS.j1)) rfl ?_
       rintro _ w ⟨rfl, HS⟩
       replace HS := HS.o1
       refine W.nil (At.blockEnd (At.next (V.seq (V.region (W.mv rfl (W.mv rfl (W.as rfl (W.as rfl (W.nx (V.ret ?_))))))))))
       replace HS := HS.pm [3, 4, 5, 6, 2, 0, 7, 8, 9, 10, 1, 11]
       replace HS := station_Station.close trivial HS
       replace HS := HS.pk [1, 0, 2] []
       cases H
       exact At.ret2 rfl rfl rfl ⟨_, rfl, at9_1, ct9_1, rfl, HS⟩
      ·replace H := ite_f c20 H
       refine V.condF (sb (decide_eq_false c20)) (V.seq (V.region (W.r (X.cmp (decide (t9.1 = 5)) rfl rfl rfl rfl) rfl (W.as rfl (W.nx ?_)))))
       by_cases c23 : t9.1 = 5
       ·replace H := ite_t c23 H
        refine V.condT (sb (decide_eq_true c23)) (V.seq (V.region (W.mv rfl (W.nc rfl (W.fa fo84_3 rfl (W.fa fo42_2 rfl (W.e (Y.cl Tryz.func63 (station_one.cell 2 27 HS rfl rfl rfl)) rfl ?_)))))))
        rintro _ w ⟨rfl, HS⟩
        refine W.nx (V.region (W.mv rfl (W.nc rfl (W.fa fo84_1 rfl (W.ld 2 HS Tryz.underlying81 rfl rfl rfl rfl ?_)))))
        obtain ⟨t24, A25, H⟩ := bind_s H
        replace HS := HS.pm [6, 0, 1, 2, 3, 4, 5, 7, 8, 9, 10, 11]
        refine W.e (Y.cl Tryz.func64 (monitor_Monitor_Note.calls A25 HS.j1)) rfl ?_
        rintro _ w ⟨rfl, HS⟩
        replace HS := HS.o1
        refine W.nil (At.blockEnd (At.next (V.seq (V.region (W.mv rfl (W.mv rfl (W.as rfl (W.as rfl (W.nx (V.ret ?_))))))))))
        replace HS := HS.pm [3, 4, 5, 6, 2, 0, 7, 8, 9, 10, 1, 11]
        replace HS := station_Station.close trivial HS
        replace HS := HS.pk [1, 0, 2] []
        cases H
        exact At.ret2 rfl rfl rfl ⟨_, rfl, at9_1, ct9_1, rfl, HS⟩
       ·replace H := ite_f c23 H
        refine V.condF (sb (decide_eq_false c23)) (V.skip (At.blockEnd (At.next (V.seq (V.region (W.mv rfl (W.mv rfl (W.as rfl (W.as rfl (W.nx (V.ret ?_)))))))))))
        replace HS := HS.pm [2, 3, 4, 5, 1, 6, 7, 8, 9, 10, 0, 11]
        replace HS := station_Station.close trivial HS
        replace HS := HS.pk [1, 0, 2] []
        cases H
        exact At.ret2 rfl rfl rfl ⟨_, rfl, at9_1, ct9_1, rfl, HS⟩
  ·replace H := ite_f c8 H
   have hk26 : a1 = 1 := by omega
   refine W.r (X.indexArK 1 hk26 Tryz.underlying85 inf84 rfl rfl c7.1 c7.2) rfl (W.as rfl (W.nx (V.seq (V.region (W.mv rfl (W.nc rfl (W.fa fo84_0 rfl (W.ld 0 HS Tryz.underlying80 rfl rfl rfl rfl (W.mv rfl ?_)))))))))
   obtain ⟨t27, A28, H⟩ := bind_s H
   replace HS := HS.pm [7, 0, 1, 2, 3, 4, 5, 6, 8, 9, 10]
   refine W.e (Y.cl Tryz.func62 (frame_Reader_Push.calls A28 HS.j1)) rfl ?_
   rintro _ w ⟨at27_1, ct27_1, rfl, HS⟩
   replace HS := HS.o2
   refine W.mv rfl (W.r (X.extract rfl rfl) rfl (W.r (X.extract rfl rfl) rfl (W.as rfl (W.as rfl (W.nx (V.seq (V.seq (V.region (W.mv rfl (W.nx (V.block (V.seq (V.region (W.r (X.cmp (decide (t27.1 = 1)) rfl rfl rfl rfl) rfl (W.as rfl (W.nx ?_))))))))))))))))
   by_cases c29 : t27.1 = 1
   ·replace H := ite_t c29 H
    refine V.condT (sb (decide_eq_true c29)) (V.seq (V.region (W.mv rfl (W.nc rfl (W.fa fo84_3 rfl (W.fa fo42_0 rfl (W.e (Y.cl Tryz.func63 (station_one.cell 2 35 HS rfl rfl rfl)) rfl ?_)))))))
    rintro _ w ⟨rfl, HS⟩
    refine W.nx (V.seq (V.region (W.mv rfl (W.nc rfl (W.fa fo84_1 rfl (W.ld 2 HS Tryz.underlying81 rfl rfl rfl rfl ?_))))))
    obtain ⟨t30, A31, H⟩ := bind_s H
    replace HS := HS.pm [9, 0, 1, 2, 3, 4, 5, 6, 7, 8, 10, 11]
    refine W.e (Y.cl Tryz.func64 (monitor_Monitor_Note.calls A31 HS.j1)) rfl ?_
    rintro _ w ⟨rfl, HS⟩
    replace HS := HS.o1
    refine W.nx (V.region (W.mv rfl (W.mv rfl (W.mv rfl ?_))))
    replace HS := HS.pm [3, 4, 5, 6, 7, 8, 9, 2, 0, 10, 1, 11]
    replace HS := station_Station.close trivial HS
    obtain ⟨t32, A33, H⟩ := bind_s H
    refine W.e (Y.cl Tryz.func65 (station_Station_came.calls A33 HS.j1 (rdC.part 0 row_rd rfl))) rfl ?_
    rintro _ w ⟨rfl, HS⟩
    replace HS := HS.o1
    refine W.nil (At.blockEnd (At.next (V.seq (V.region (W.mv rfl (W.mv rfl (W.as rfl (W.as rfl (W.nx (V.ret ?_))))))))))
    replace HS := HS.pk [1, 0, 2] []
    cases H
    exact At.ret2 rfl rfl rfl ⟨_, rfl, at27_1, ct27_1, rfl, HS⟩
   ·replace H := ite_f c29 H
    refine V.condF (sb (decide_eq_false c29)) (V.seq (V.region (W.r (X.cmp (decide (t27.1 = 2)) rfl rfl rfl rfl) rfl (W.as rfl (W.nx ?_)))))
    by_cases c34 : t27.1 = 2
    ·replace H := ite_t c34 H
     refine V.condT (sb (decide_eq_true c34)) (V.region (W.mv rfl (W.nc rfl (W.fa fo84_3 rfl (W.fa fo42_3 rfl (W.e (Y.cl Tryz.func63 (station_one.cell 2 38 HS rfl rfl rfl)) rfl ?_))))))
     rintro _ w ⟨rfl, HS⟩
     refine W.nil (At.blockEnd (At.next (V.seq (V.region (W.mv rfl (W.mv rfl (W.as rfl (W.as rfl (W.nx (V.ret ?_))))))))))
     replace HS := HS.pm [2, 3, 4, 5, 6, 7, 8, 1, 9, 10, 0, 11]
     replace HS := station_Station.close trivial HS
     replace HS := HS.pk [1, 0, 2] []
     cases H
     exact At.ret2 rfl rfl rfl ⟨_, rfl, at27_1, ct27_1, rfl, HS⟩
    ·replace H := ite_f c34 H
     refine V.condF (sb (decide_eq_false c34)) (V.seq (V.region (W.r (X.cmp (decide (t27.1 = 4)) rfl rfl rfl rfl) rfl (W.as rfl (W.nx ?_)))))
     by_cases c35 : t27.1 = 4
     ·replace H := ite_t c35 H
      refine V.condT (sb (decide_eq_true c35)) (V.seq (V.region (W.mv rfl (W.nc rfl (W.fa fo84_3 rfl (W.fa fo42_1 rfl (W.e (Y.cl Tryz.func63 (station_one.cell 2 36 HS rfl rfl rfl)) rfl ?_)))))))
      rintro _ w ⟨rfl, HS⟩
      refine W.nx (V.region (W.mv rfl (W.nc rfl (W.fa fo84_1 rfl (W.ld 2 HS Tryz.underlying81 rfl rfl rfl rfl ?_)))))
      obtain ⟨t36, A37, H⟩ := bind_s H
      replace HS := HS.pm [9, 0, 1, 2, 3, 4, 5, 6, 7, 8, 10, 11]
      refine W.e (Y.cl Tryz.func64 (monitor_Monitor_Note.calls A37 HS.j1)) rfl ?_
      rintro _ w ⟨rfl, HS⟩
      replace HS := HS.o1
      refine W.nil (At.blockEnd (At.next (V.seq (V.region (W.mv rfl (W.mv rfl (W.as rfl (W.as rfl (W.nx (V.ret ?_))))))))))
      replace HS := HS.pm [3, 4, 5, 6, 7, 8, 9, 2, 0, 10, 1, 11]
      replace HS := station_Station.close trivial HS
      replace HS := HS.pk [1, 0, 2] []
      cases H
      exact At.ret2 rfl rfl rfl ⟨_, rfl, at27_1, ct27_1, rfl, HS⟩
     ·replace H := ite_f c35 H
      refine V.condF (sb (decide_eq_false c35)) (V.seq (V.region (W.r (X.cmp (decide (t27.1 = 3)) rfl rfl rfl rfl) rfl (W.as rfl (W.nx ?_)))))
      by_cases c38 : t27.1 = 3
      ·replace H := ite_t c38 H
       refine V.condT (sb (decide_eq_true c38)) (V.seq (V.region (W.mv rfl (W.nc rfl (W.fa fo84_3 rfl (W.fa fo42_4 rfl (W.e (Y.cl Tryz.func63 (station_one.cell 2 39 HS rfl rfl rfl)) rfl ?_)))))))
       rintro _ w ⟨rfl, HS⟩
       refine W.nx (V.region (W.mv rfl (W.nc rfl (W.fa fo84_1 rfl (W.ld 2 HS Tryz.underlying81 rfl rfl rfl rfl ?_)))))
       obtain ⟨t39, A40, H⟩ := bind_s H
       replace HS := HS.pm [9, 0, 1, 2, 3, 4, 5, 6, 7, 8, 10, 11]
       refine W.e (Y.cl Tryz.func64 (monitor_Monitor_Note.calls A40 HS.j1)) rfl ?_
       rintro _ w ⟨rfl, HS⟩
       replace HS := HS.o1
       refine W.nil (At.blockEnd (At.next (V.seq (V.region (W.mv rfl (W.mv rfl (W.as rfl (W.as rfl (W.nx (V.ret ?_))))))))))
       replace HS := HS.pm [3, 4, 5, 6, 7, 8, 9, 2, 0, 10, 1, 11]
       replace HS := station_Station.close trivial HS
       replace HS := HS.pk [1, 0, 2] []
       cases H
       exact At.ret2 rfl rfl rfl ⟨_, rfl, at27_1, ct27_1, rfl, HS⟩
      ·replace H := ite_f c38 H
       refine V.condF (sb (decide_eq_false c38)) (V.seq (V.region (W.r (X.cmp (decide (t27.1 = 5)) rfl rfl rfl rfl) rfl (W.as rfl (W.nx ?_)))))
       by_cases c41 : t27.1 = 5
       ·replace H := ite_t c41 H
        refine V.condT (sb (decide_eq_true c41)) (V.seq (V.region (W.mv rfl (W.nc rfl (W.fa fo84_3 rfl (W.fa fo42_2 rfl (W.e (Y.cl Tryz.func63 (station_one.cell 2 37 HS rfl rfl rfl)) rfl ?_)))))))
        rintro _ w ⟨rfl, HS⟩
        refine W.nx (V.region (W.mv rfl (W.nc rfl (W.fa fo84_1 rfl (W.ld 2 HS Tryz.underlying81 rfl rfl rfl rfl ?_)))))
        obtain ⟨t42, A43, H⟩ := bind_s H
        replace HS := HS.pm [9, 0, 1, 2, 3, 4, 5, 6, 7, 8, 10, 11]
        refine W.e (Y.cl Tryz.func64 (monitor_Monitor_Note.calls A43 HS.j1)) rfl ?_
        rintro _ w ⟨rfl, HS⟩
        replace HS := HS.o1
        refine W.nil (At.blockEnd (At.next (V.seq (V.region (W.mv rfl (W.mv rfl (W.as rfl (W.as rfl (W.nx (V.ret ?_))))))))))
        replace HS := HS.pm [3, 4, 5, 6, 7, 8, 9, 2, 0, 10, 1, 11]
        replace HS := station_Station.close trivial HS
        replace HS := HS.pk [1, 0, 2] []
        cases H
        exact At.ret2 rfl rfl rfl ⟨_, rfl, at27_1, ct27_1, rfl, HS⟩
       ·replace H := ite_f c41 H
        refine V.condF (sb (decide_eq_false c41)) (V.skip (At.blockEnd (At.next (V.seq (V.region (W.mv rfl (W.mv rfl (W.as rfl (W.as rfl (W.nx (V.ret ?_)))))))))))
        replace HS := HS.pm [2, 3, 4, 5, 6, 7, 8, 1, 9, 10, 0, 11]
        replace HS := station_Station.close trivial HS
        replace HS := HS.pk [1, 0, 2] []
        cases H
        exact At.ret2 rfl rfl rfl ⟨_, rfl, at27_1, ct27_1, rfl, HS⟩
 ·replace H := ite_f c4 H
  refine V.condT (sb (n_f (b_f c4))) (V.seq (V.region (W.as rfl (W.as rfl (W.nx (V.ret (At.thenRet ?_)))))))
  replace HS := row_nilF (Value.int .u8) 5 1 HS
  cases H
  exact At.ret2 rfl rfl rfl ⟨_, rfl, none, 0, rfl, HS⟩
mutual
def signalmanlaw20_push.l0 : Nat → Int → (List Int) → Int → station_Station → Option station_Station
 | 0, _, _, _, _ => none
 | k + 1, a1, t1, x5, x6 => (if x5 < (t1.length : Int) then (if 0 ≤ x5 ∧ x5 < (t1.length : Int) then ((station_Station_Push.f k x6 a1 (t1.getD x5.toNat 0)).bind fun t13 => (signalmanlaw20_push.l0 k a1 t1 (w64 (x5 + 1)) t13.2.2)) else none) else some x6)
end
def signalmanlaw20_push.f (k : Nat) (a0 : station_Station) (a1 : Int) (a2 : List Int) (a3 : Bool) : Option station_Station := ((signalmanref1_Frame.f k a2 a3).bind fun t1 => (signalmanlaw20_push.l0 k a1 t1 0 a0))
theorem signalmanlaw20_push.calls {k : Nat} {a0 : station_Station} {a1 : Int} {a2 : List Int} {a3 : Bool} {R : As} {w0 w : World} {b0 : Nat} {sa2 : Option Addr} {sc2 : Nat} {r : station_Station} (H : signalmanlaw20_push.f k a0 a1 a2 a3 = some r) (HS : Sep.St [station_Station.at b0 a0, R] w0 w) (hr2 : rdC R 1 (.slice sa2 a2.length sc2) a2.length (a2.map (Value.int .u8))) : Calls Tryz.prog 12 #[Value.pointer (some ⟨b0, 0, none⟩), Value.int .i64 a1, Value.slice sa2 a2.length sc2, Value.bool a3] w (Ret fun u w => u = Value.tuple #[] ∧ Sep.St [station_Station.at b0 r, R] w0 w) := by
 unfold signalmanlaw20_push.f at H
 refine calls_enter Tryz.func12 rfl rfl ?_
 have H : _ = some r := H
 refine V.seq (V.region (W.mv rfl (W.mv rfl ?_)))
 obtain ⟨t1, A2, H⟩ := bind_s H
 refine W.e (Y.cl Tryz.func17 (signalmanref1_Frame.calls A2 HS.j0 (rdC.part 1 hr2 rfl))) rfl ?_
 rintro _ w ⟨at1_0, ct1_0, rfl, HS⟩
 replace HS := HS.o1
 refine W.as rfl (W.nx (V.seq (V.region (W.as rfl (W.nx (V.block (V.loop (σ := Int × station_Station) (fun kq (st : Int × station_Station) w => match st with | (x5, x6) => Sep.St [row 5 1 (.slice at1_0 t1.length ct1_0) t1.length (t1.map (Value.int .u8)), station_Station.at b0 x6, R] w0 w ∧ signalmanlaw20_push.l0 kq a1 t1 x5 x6 = some r ∧ kq ≤ k) (fun st => match st with | (x5, x6) => [(0, Value.pointer (some ⟨b0, 0, none⟩)), (1, Value.int .i64 a1), (8, Value.slice at1_0 t1.length ct1_0), (9, Value.int .i64 x5)]) k (0, a0) ⟨rfl, rfl, rfl, rfl, trivial⟩ ⟨HS, H, Nat.le_refl _⟩ ?_)))))))
 rintro kq7 ⟨x5, x6⟩ w ⟨HS, H, hk8⟩
 cases kq7 with
 | zero => exact absurd H (by simp [signalmanlaw20_push.l0])
 | succ kq7 =>
  simp only [signalmanlaw20_push.l0] at H
  refine V.seq (V.seq (V.region (W.mv rfl (W.mv rfl (W.r (X.lenSl Tryz.underlying32 rfl) rfl (W.r (X.cmp (decide (x5 < (t1.length : Int))) rfl rfl rfl rfl) rfl (W.nx ?_)))))))
  by_cases c9 : x5 < (t1.length : Int)
  ·replace H := ite_t c9 H
   refine V.condT (sb (decide_eq_true c9)) (V.skip (At.next (V.seq (V.block (V.region (W.mv rfl (W.mv rfl (W.mv rfl (W.mv rfl ?_)))))))))
   obtain ⟨c10, H⟩ := ite_n H
   obtain ⟨eb11, eo12, hh⟩ := (rdC.at 0 row_rd HS rfl).some (by decide) c10.1 c10.2; subst hh
   refine W.r (X.indexSl Tryz.underlying32 inf5 rfl rfl c10.1 c10.2) rfl (W.r (X.load Tryz.underlying5 rfl rfl ((rdC.at 0 row_rd HS rfl).cellI c10.1 c10.2)) rfl ?_)
   obtain ⟨t13, A14, H⟩ := bind_s H
   replace HS := HS.pm [1, 0, 2]
   refine W.e (Y.cl Tryz.func15 (station_Station_Push.calls A14 HS.j1)) rfl ?_
   rintro _ w ⟨at13_1, ct13_1, rfl, HS⟩
   replace HS := HS.o2
   refine W.nil (At.blockEnd (At.next (V.region (W.mv rfl (W.r (X.add rfl rfl) rfl (W.as rfl (W.nil ?_)))))))
   replace HS := HS.pk [2, 1, 3] [0]
   exact At.round kq7 (by omega) (w64 (x5 + 1), t13.2.2) ⟨rfl, rfl, rfl, rfl, trivial⟩ ⟨HS, H, by omega⟩
  ·replace H := ite_f c9 H
   refine V.condF (sb (decide_eq_false c9)) (V.exit (At.thenExit (At.thenExit (At.blockExit ?_))))
   replace HS := HS.pk [1, 2] [0]
   cases H
   exact At.end0 rfl ⟨_, rfl, rfl, HS⟩
mutual
def signalmanlaw20_StationSelects.j1  : Option Bool := some false
def signalmanlaw20_StationSelects.j3 (t39 : (List (List Int) × List (List Int)) × station_Station) (x46 : Int) : Option Bool := ((station_Station_Status.f t39.2).bind fun t50 => some (decide (t50.Line = x46)))
def signalmanlaw20_StationSelects.j4 (t39 : (List (List Int) × List (List Int)) × station_Station) (x52 : Bool) : Option Bool := (if x52 = true then (signalmanlaw20_StationSelects.j3 t39 1) else (signalmanlaw20_StationSelects.j3 t39 0))
def signalmanlaw20_StationSelects.j2 (k : Nat) (a0 : Int) (a1 : Bool) (a2 : Int) (t8 : Option station_Station × Int) (t8 : Option station_Station × Int) (t8 : Option station_Station × Int) (x20 : Bool) : Option Bool := (if x20 = true then some false else ((signalmanlaw20_push.f k (t8.1.getD default) a0 ([0, 0, 0, 0, 1, 0, 1, 127] : List Int) a1).bind fun t26 => ((station_Station_Status.f t26).bind fun t31 => (if ((decide (t31.State = 2)) != (decide (a0 = 0))) = true then some false else ((signalmanlaw20_push.f k t26 a0 ([1, IntKind.u8.wrap (w64 (a2 * 16)), icom .u8 (IntKind.u8.wrap (w64 (a2 * 16)))] : List Int) a1).bind fun t37 => ((station_Station_Step.f k t37).bind fun t39 => (if a0 = 1 then (if a2 ≥ 1 then (signalmanlaw20_StationSelects.j4 t39 (decide (a2 ≤ 6))) else (signalmanlaw20_StationSelects.j4 t39 false)) else (signalmanlaw20_StationSelects.j4 t39 false))))))))
def signalmanlaw20_StationSelects.j0 (k : Nat) (a0 : Int) (a1 : Bool) (a2 : Int) (t1 : Bool) (x3 : Bool) : Option Bool := (if x3 = true then some t1 else ((signalmanlaw20_Good.f 1 3 10 false a1).bind fun t6 => ((station_New.f k t6).bind fun t8 => (if t8.1.isNone = true then ((signalmanlaw20_num.f t8.2).bind fun t14 => (if t14 = 0 then signalmanlaw20_StationSelects.j1 else signalmanlaw20_StationSelects.j1)) else ((signalmanlaw20_num.f t8.2).bind fun t57 => (if t57 = 0 then (signalmanlaw20_StationSelects.j2 k a0 a1 a2 t8 t8 t8 false) else (signalmanlaw20_StationSelects.j2 k a0 a1 a2 t8 t8 t8 true)))))))
end
def signalmanlaw20_StationSelects.f (k : Nat) (a0 : Int) (a1 : Bool) (a2 : Int) : Option Bool := ((signalmanlaw20_alive.f k ).bind fun t1 => (if t1 = true then (if a0 < 0 then (signalmanlaw20_StationSelects.j0 k a0 a1 a2 t1 true) else (if a0 > 1 then (signalmanlaw20_StationSelects.j0 k a0 a1 a2 t1 true) else (if a2 < 0 then (signalmanlaw20_StationSelects.j0 k a0 a1 a2 t1 true) else (signalmanlaw20_StationSelects.j0 k a0 a1 a2 t1 (decide (a2 > 8)))))) else (signalmanlaw20_StationSelects.j0 k a0 a1 a2 t1 true)))
theorem signalmanlaw20_StationSelects.calls {k : Nat} {a0 : Int} {a1 : Bool} {a2 : Int} {R : As} {w0 w : World}  {r : Bool} (H : signalmanlaw20_StationSelects.f k a0 a1 a2 = some r) (HS : Sep.St [R] w0 w)  : Calls Tryz.prog 3 #[Value.int .i64 a0, Value.bool a1, Value.int .i64 a2] w (Ret fun u w => u = Value.bool r ∧ Sep.St [R] w0 w) := by
 unfold signalmanlaw20_StationSelects.f at H
 refine calls_enter Tryz.func3 rfl rfl ?_
 have H : _ = some r := H
 refine V.seq (V.region (W.as rfl (W.nx (V.seq (V.region ?_)))))
 obtain ⟨t1, A2, H⟩ := bind_s H
 refine W.e (Y.cl Tryz.func8 (signalmanlaw20_alive.calls A2 HS.j0)) rfl ?_
 rintro _ w ⟨rfl, HS⟩
 replace HS := HS.o0
 refine W.as rfl (W.nx (V.seq (V.meet (σ := Bool) (fun st w => match st with | x3 => Sep.St [R] w0 w ∧ ∃ kf4, kf4 ≤ k ∧ signalmanlaw20_StationSelects.j0 kf4 a0 a1 a2 t1 x3 = some r) (fun st => match st with | x3 => [(0, Value.int .i64 a0), (1, Value.bool a1), (2, Value.int .i64 a2), (7, Value.bool t1), (30, Value.bool x3)]) ?_ ?_)))
 ·refine V.region (W.mv rfl (W.r (X.not rfl) rfl (W.mv rfl ?_)))
  by_cases c60 : t1 = true
  ·replace H := ite_t c60 H
   refine W.want 15 rfl (sb (n_t c60)) (W.mv rfl (W.want 15 rfl (sb (n_t c60)) (W.r (X.cmp (decide (a0 < 0)) rfl rfl rfl rfl) rfl (W.r (X.pickF (sb (n_t c60)) rfl) rfl (W.mv rfl ?_)))))
   by_cases c61 : a0 < 0
   ·replace H := ite_t c61 H
    refine W.pass 19 rfl (sb (decide_eq_true c61)) rfl rfl (W.pass 19 rfl (sb (decide_eq_true c61)) rfl rfl (W.r (X.pickT (sb (decide_eq_true c61)) rfl) rfl (W.mv rfl (W.pass 23 rfl rfl rfl rfl (W.pass 23 rfl rfl rfl rfl (W.r (X.pickT rfl rfl) rfl (W.mv rfl (W.pass 27 rfl rfl rfl rfl (W.pass 27 rfl rfl rfl rfl (W.r (X.pickT rfl rfl) rfl (W.nil ?_)))))))))))
    exact At.meet true ⟨rfl, rfl, rfl, rfl, rfl, trivial⟩ ⟨HS, k, by omega, H⟩
   ·replace H := ite_f c61 H
    refine W.want 19 rfl (sb (decide_eq_false c61)) (W.mv rfl (W.want 19 rfl (sb (decide_eq_false c61)) (W.r (X.cmp (decide (a0 > 1)) rfl rfl rfl rfl) rfl (W.r (X.pickF (sb (decide_eq_false c61)) rfl) rfl (W.mv rfl ?_)))))
    by_cases c62 : a0 > 1
    ·replace H := ite_t c62 H
     refine W.pass 23 rfl (sb (decide_eq_true c62)) rfl rfl (W.pass 23 rfl (sb (decide_eq_true c62)) rfl rfl (W.r (X.pickT (sb (decide_eq_true c62)) rfl) rfl (W.mv rfl (W.pass 27 rfl rfl rfl rfl (W.pass 27 rfl rfl rfl rfl (W.r (X.pickT rfl rfl) rfl (W.nil ?_)))))))
     exact At.meet true ⟨rfl, rfl, rfl, rfl, rfl, trivial⟩ ⟨HS, k, by omega, H⟩
    ·replace H := ite_f c62 H
     refine W.want 23 rfl (sb (decide_eq_false c62)) (W.mv rfl (W.want 23 rfl (sb (decide_eq_false c62)) (W.r (X.cmp (decide (a2 < 0)) rfl rfl rfl rfl) rfl (W.r (X.pickF (sb (decide_eq_false c62)) rfl) rfl (W.mv rfl ?_)))))
     by_cases c63 : a2 < 0
     ·replace H := ite_t c63 H
      refine W.pass 27 rfl (sb (decide_eq_true c63)) rfl rfl (W.pass 27 rfl (sb (decide_eq_true c63)) rfl rfl (W.r (X.pickT (sb (decide_eq_true c63)) rfl) rfl (W.nil ?_)))
      exact At.meet true ⟨rfl, rfl, rfl, rfl, rfl, trivial⟩ ⟨HS, k, by omega, H⟩
     ·replace H := ite_f c63 H
      refine W.want 27 rfl (sb (decide_eq_false c63)) (W.mv rfl (W.want 27 rfl (sb (decide_eq_false c63)) (W.r (X.cmp (decide (a2 > 8)) rfl rfl rfl rfl) rfl (W.r (X.pickF (sb (decide_eq_false c63)) rfl) rfl (W.nil ?_)))))
      exact At.meet (decide (a2 > 8)) ⟨rfl, rfl, rfl, rfl, rfl, trivial⟩ ⟨HS, k, by omega, H⟩
  ·replace H := ite_f c60 H
   refine W.pass 15 rfl (sb (n_f (b_f c60))) rfl rfl (W.pass 15 rfl (sb (n_f (b_f c60))) rfl rfl (W.r (X.pickT (sb (n_f (b_f c60))) rfl) rfl (W.mv rfl (W.pass 19 rfl rfl rfl rfl (W.pass 19 rfl rfl rfl rfl (W.r (X.pickT rfl rfl) rfl (W.mv rfl (W.pass 23 rfl rfl rfl rfl (W.pass 23 rfl rfl rfl rfl (W.r (X.pickT rfl rfl) rfl (W.mv rfl (W.pass 27 rfl rfl rfl rfl (W.pass 27 rfl rfl rfl rfl (W.r (X.pickT rfl rfl) rfl (W.nil ?_)))))))))))))))
   exact At.meet true ⟨rfl, rfl, rfl, rfl, rfl, trivial⟩ ⟨HS, k, by omega, H⟩
 ·rintro x3 w ⟨HS, kf4, hkkf4, H⟩
  unfold signalmanlaw20_StationSelects.j0 at H
  by_cases c5 : x3 = true
  ·replace H := ite_t c5 H
   refine V.condT (sb c5) (V.seq (V.region (W.mv rfl (W.as rfl (W.nx (V.ret (At.thenRet ?_)))))))
   cases H
   exact At.ret1 rfl rfl ⟨_, rfl, rfl, HS⟩
  ·replace H := ite_f c5 H
   refine V.condF (sb (b_f c5)) (V.skip (At.next (V.seq (V.region (W.mv rfl ?_)))))
   obtain ⟨t6, A7, H⟩ := bind_s H
   refine W.e (Y.cl Tryz.func10 (signalmanlaw20_Good.calls A7 HS.j0)) rfl ?_
   rintro _ w ⟨rfl, HS⟩
   replace HS := HS.o0
   obtain ⟨t8, A9, H⟩ := bind_s H
   by_cases c10 : t8.1.isNone = true
   ·replace H := ite_t c10 H
    refine W.e (Y.cl Tryz.func9 (station_New.calls A9 HS.j0)) rfl ?_
    rintro _ w ⟨bt8_0, rfl, HS⟩
    replace HS := HS.o1
    replace HS := St.optN c10 HS
    rw [optv_n c10]
    refine W.mv rfl (W.r (X.extract rfl rfl) rfl (W.r (X.extract rfl rfl) rfl (W.as rfl (W.as rfl (W.nx (V.seq (V.meet (σ := Unit) (fun st w => match st with | _ => Sep.St [R] w0 w ∧ signalmanlaw20_StationSelects.j1 = some r) (fun st => match st with | _ => [(0, Value.int .i64 a0), (1, Value.bool a1), (2, Value.int .i64 a2), (8, Value.pointer none), (44, Value.bool true)]) ?_ ?_)))))))
    ·refine V.region (W.mv rfl ?_)
     obtain ⟨t14, A15, H⟩ := bind_s H
     refine W.e (Y.cl Tryz.func11 (signalmanlaw20_num.calls A15 HS.j0)) rfl ?_
     rintro _ w ⟨rfl, HS⟩
     replace HS := HS.o0
     refine W.r (X.cmp (!(decide (t14 = 0))) rfl rfl rfl rfl) rfl (W.mv rfl ?_)
     by_cases c16 : t14 = 0
     ·replace H := ite_t c16 H
      refine W.want 41 rfl (sb (n_t (decide_eq_true c16))) (W.mv rfl (W.want 41 rfl (sb (n_t (decide_eq_true c16))) (W.r (X.eqP Tryz.underlying23 rfl rfl) rfl (W.r (X.pickF (sb (n_t (decide_eq_true c16))) rfl) rfl (W.nil ?_)))))
      exact At.meet () ⟨rfl, rfl, rfl, rfl, rfl, trivial⟩ ⟨HS, H⟩
     ·replace H := ite_f c16 H
      refine W.pass 41 rfl (sb (n_f (decide_eq_false c16))) rfl rfl (W.pass 41 rfl (sb (n_f (decide_eq_false c16))) rfl rfl (W.r (X.pickT (sb (n_f (decide_eq_false c16))) rfl) rfl (W.nil ?_)))
      exact At.meet () ⟨rfl, rfl, rfl, rfl, rfl, trivial⟩ ⟨HS, H⟩
    ·rintro ⟨⟩ w ⟨HS, H⟩
     unfold signalmanlaw20_StationSelects.j1 at H
     refine V.condT rfl (V.seq (V.region (W.as rfl (W.nx (V.ret (At.thenRet ?_))))))
     cases H
     exact At.ret1 rfl rfl ⟨_, rfl, rfl, HS⟩
   ·replace H := ite_f c10 H
    refine W.e (Y.cl Tryz.func9 (station_New.calls A9 HS.j0)) rfl ?_
    rintro _ w ⟨bt8_0, rfl, HS⟩
    replace HS := HS.o1
    replace HS := St.optS default c10 HS
    rw [optv_s c10]
    refine W.mv rfl (W.r (X.extract rfl rfl) rfl (W.r (X.extract rfl rfl) rfl (W.as rfl (W.as rfl (W.nx (V.seq (V.meet (σ := Bool) (fun st w => match st with | x20 => Sep.St [station_Station.at bt8_0 (t8.1.getD default), R] w0 w ∧ ∃ kf21, kf21 ≤ kf4 ∧ signalmanlaw20_StationSelects.j2 kf21 a0 a1 a2 t8 t8 t8 x20 = some r) (fun st => match st with | x20 => [(0, Value.int .i64 a0), (1, Value.bool a1), (2, Value.int .i64 a2), (8, Value.pointer (some ⟨bt8_0, 0, none⟩)), (44, Value.bool x20)]) ?_ ?_)))))))
    ·refine V.region (W.mv rfl ?_)
     obtain ⟨t57, A58, H⟩ := bind_s H
     refine W.e (Y.cl Tryz.func11 (signalmanlaw20_num.calls A58 HS.j0)) rfl ?_
     rintro _ w ⟨rfl, HS⟩
     replace HS := HS.o0
     refine W.r (X.cmp (!(decide (t57 = 0))) rfl rfl rfl rfl) rfl (W.mv rfl ?_)
     by_cases c59 : t57 = 0
     ·replace H := ite_t c59 H
      refine W.want 41 rfl (sb (n_t (decide_eq_true c59))) (W.mv rfl (W.want 41 rfl (sb (n_t (decide_eq_true c59))) (W.r (X.eqP Tryz.underlying23 rfl rfl) rfl (W.r (X.pickF (sb (n_t (decide_eq_true c59))) rfl) rfl (W.nil ?_)))))
      exact At.meet false ⟨rfl, rfl, rfl, rfl, rfl, trivial⟩ ⟨HS, kf4, by omega, H⟩
     ·replace H := ite_f c59 H
      refine W.pass 41 rfl (sb (n_f (decide_eq_false c59))) rfl rfl (W.pass 41 rfl (sb (n_f (decide_eq_false c59))) rfl rfl (W.r (X.pickT (sb (n_f (decide_eq_false c59))) rfl) rfl (W.nil ?_)))
      exact At.meet true ⟨rfl, rfl, rfl, rfl, rfl, trivial⟩ ⟨HS, kf4, by omega, H⟩
    ·rintro x20 w ⟨HS, kf21, hkkf21, H⟩
     unfold signalmanlaw20_StationSelects.j2 at H
     by_cases c22 : x20 = true
     ·replace H := ite_t c22 H
      refine V.condT (sb c22) (V.seq (V.region (W.as rfl (W.nx (V.ret (At.thenRet ?_))))))
      replace HS := HS.pk [1] [0]
      cases H
      exact At.ret1 rfl rfl ⟨_, rfl, rfl, HS⟩
     ·replace H := ite_f c22 H
      refine V.condF (sb (b_f c22)) (V.skip (At.next (V.seq (V.region (W.mv rfl (W.mv rfl (W.e (Y.ls (e := 5) (Value.int .u8) ([0, 0, 0, 0, 1, 0, 1, 127] : List Int) HS rfl rfl (fun _ => by kernel_rfl)) rfl ?_)))))))
      rintro _ w ⟨lb25, rfl, HS⟩
      refine W.mv rfl ?_
      obtain ⟨t26, A27, H⟩ := bind_s H
      replace HS := HS.pm [1, 0, 2]
      refine W.e (Y.cl Tryz.func12 (signalmanlaw20_push.calls A27 HS.j1 (rdC.part 0 row_rd rfl))) rfl ?_
      rintro _ w ⟨rfl, HS⟩
      replace HS := HS.o1
      refine W.nx (V.seq (V.seq (V.region (W.mv rfl ?_))))
      obtain ⟨b16_29, b17_29, b18_29, b22_29, b23_29, b24_29, b32_29, b33_29, b34_29, hi30, HS⟩ := station_Station.open HS
      obtain ⟨t31, A32, H⟩ := bind_s H
      refine W.e (Y.cl Tryz.func13 (station_Station_Status.calls A32 HS.j10)) rfl ?_
      rintro _ w ⟨rfl, HS⟩
      replace HS := HS.o10
      refine W.r (X.fdK (Value.int .i64 t31.State) rfl (fun _ => by kernel_rfl)) rfl (W.r (X.cmp (decide (t31.State = 2)) rfl rfl rfl rfl) rfl (W.mv rfl (W.r (X.cmp (decide (a0 = 0)) rfl rfl rfl rfl) rfl (W.r (X.neB Tryz.underlying4 rfl rfl) rfl (W.nx ?_)))))
      by_cases c33 : ((decide (t31.State = 2)) != (decide (a0 = 0))) = true
      ·replace H := ite_t c33 H
       refine V.condT (sb c33) (V.seq (V.region (W.as rfl (W.nx (V.ret (At.thenRet ?_))))))
       replace HS := HS.pk [11] [0, 1, 2, 3, 4, 5, 6, 7, 8, 9, 10]
       cases H
       exact At.ret1 rfl rfl ⟨_, rfl, rfl, HS⟩
      ·replace H := ite_f c33 H
       refine V.condF (sb (b_f c33)) (V.skip (At.next (V.seq (V.region (W.mv rfl (W.r (X.mul rfl rfl) rfl (W.r (X.conv Tryz.underlying3 Tryz.underlying5 rfl) rfl (W.as rfl (W.nx (V.seq (V.region (W.mv rfl (W.mv rfl (W.mv rfl (W.mv rfl (W.r (X.com rfl) rfl (W.e (Y.ls (e := 5) (Value.int .u8) ([1, IntKind.u8.wrap (w64 (a2 * 16)), icom .u8 (IntKind.u8.wrap (w64 (a2 * 16)))] : List Int) HS rfl rfl (fun _ => by kernel_rfl)) rfl ?_)))))))))))))))))
       rintro _ w ⟨lb36, rfl, HS⟩
       refine W.mv rfl ?_
       replace HS := HS.pm [1, 2, 3, 4, 5, 6, 7, 8, 9, 10, 0, 11, 12]
       replace HS := station_Station.close trivial HS
       obtain ⟨t37, A38, H⟩ := bind_s H
       refine W.e (Y.cl Tryz.func12 (signalmanlaw20_push.calls A38 HS.j1 (rdC.part 0 row_rd rfl))) rfl ?_
       rintro _ w ⟨rfl, HS⟩
       replace HS := HS.o1
       refine W.nx (V.seq (V.region (W.mv rfl ?_)))
       obtain ⟨t39, A40, H⟩ := bind_s H
       refine W.e (Y.cl Tryz.func14 (station_Station_Step.calls A40 HS.j1)) rfl ?_
       rintro _ w ⟨at39_0_0, ct39_0_0, dt39_0_0, at39_0_1, ct39_0_1, dt39_0_1, rfl, HS⟩
       replace HS := HS.o5
       refine W.nx (V.seq (V.region (W.as rfl (W.nx (V.meet (σ := Int) (fun st w => match st with | x46 => Sep.St [row 32 1 (.slice at39_0_0 t39.1.1.length ct39_0_0) t39.1.1.length dt39_0_0, tie (El.sl (El.int .u8)) dt39_0_0 t39.1.1, row 32 1 (.slice at39_0_1 t39.1.2.length ct39_0_1) t39.1.2.length dt39_0_1, tie (El.sl (El.int .u8)) dt39_0_1 t39.1.2, station_Station.at bt8_0 t39.2, row 5 1 (.slice (some ⟨lb36, 0, none⟩) (([1, IntKind.u8.wrap (w64 (a2 * 16)), icom .u8 (IntKind.u8.wrap (w64 (a2 * 16)))] : List Int)).length 3) (([1, IntKind.u8.wrap (w64 (a2 * 16)), icom .u8 (IntKind.u8.wrap (w64 (a2 * 16)))] : List Int)).length ((([1, IntKind.u8.wrap (w64 (a2 * 16)), icom .u8 (IntKind.u8.wrap (w64 (a2 * 16)))] : List Int)).map (Value.int .u8)), row 5 1 (.slice (some ⟨lb25, 0, none⟩) ([0, 0, 0, 0, 1, 0, 1, 127] : List Int).length 8) ([0, 0, 0, 0, 1, 0, 1, 127] : List Int).length (([0, 0, 0, 0, 1, 0, 1, 127] : List Int).map (Value.int .u8)), R] w0 w ∧ signalmanlaw20_StationSelects.j3 t39 x46 = some r) (fun st => match st with | x46 => [(8, Value.pointer (some ⟨bt8_0, 0, none⟩)), (11, Value.int .i64 x46)]) ?_ ?_)))))
       ·refine V.meet (σ := Bool) (fun st w => match st with | x52 => Sep.St [row 32 1 (.slice at39_0_0 t39.1.1.length ct39_0_0) t39.1.1.length dt39_0_0, tie (El.sl (El.int .u8)) dt39_0_0 t39.1.1, row 32 1 (.slice at39_0_1 t39.1.2.length ct39_0_1) t39.1.2.length dt39_0_1, tie (El.sl (El.int .u8)) dt39_0_1 t39.1.2, station_Station.at bt8_0 t39.2, row 5 1 (.slice (some ⟨lb36, 0, none⟩) (([1, IntKind.u8.wrap (w64 (a2 * 16)), icom .u8 (IntKind.u8.wrap (w64 (a2 * 16)))] : List Int)).length 3) (([1, IntKind.u8.wrap (w64 (a2 * 16)), icom .u8 (IntKind.u8.wrap (w64 (a2 * 16)))] : List Int)).length ((([1, IntKind.u8.wrap (w64 (a2 * 16)), icom .u8 (IntKind.u8.wrap (w64 (a2 * 16)))] : List Int)).map (Value.int .u8)), row 5 1 (.slice (some ⟨lb25, 0, none⟩) ([0, 0, 0, 0, 1, 0, 1, 127] : List Int).length 8) ([0, 0, 0, 0, 1, 0, 1, 127] : List Int).length (([0, 0, 0, 0, 1, 0, 1, 127] : List Int).map (Value.int .u8)), R] w0 w ∧ signalmanlaw20_StationSelects.j4 t39 x52 = some r) (fun st => match st with | x52 => [(8, Value.pointer (some ⟨bt8_0, 0, none⟩)), (11, Value.int .i64 (0)), (79, Value.bool x52)]) ?_ ?_
        ·refine V.region (W.mv rfl (W.r (X.cmp (decide (a0 = 1)) rfl rfl rfl rfl) rfl (W.mv rfl ?_)))
         by_cases c55 : a0 = 1
         ·replace H := ite_t c55 H
          refine W.want 72 rfl (sb (decide_eq_true c55)) (W.mv rfl (W.want 72 rfl (sb (decide_eq_true c55)) (W.r (X.cmp (decide (a2 ≥ 1)) rfl rfl rfl rfl) rfl (W.r (X.pickT (sb (decide_eq_true c55)) rfl) rfl (W.mv rfl ?_)))))
          by_cases c56 : a2 ≥ 1
          ·replace H := ite_t c56 H
           refine W.want 76 rfl (sb (decide_eq_true c56)) (W.mv rfl (W.want 76 rfl (sb (decide_eq_true c56)) (W.r (X.cmp (decide (a2 ≤ 6)) rfl rfl rfl rfl) rfl (W.r (X.pickT (sb (decide_eq_true c56)) rfl) rfl (W.nil ?_)))))
           exact At.meet (decide (a2 ≤ 6)) ⟨rfl, rfl, rfl, trivial⟩ ⟨HS, H⟩
          ·replace H := ite_f c56 H
           refine W.pass 76 rfl (sb (decide_eq_false c56)) rfl rfl (W.pass 76 rfl (sb (decide_eq_false c56)) rfl rfl (W.r (X.pickF (sb (decide_eq_false c56)) rfl) rfl (W.nil ?_)))
           exact At.meet false ⟨rfl, rfl, rfl, trivial⟩ ⟨HS, H⟩
         ·replace H := ite_f c55 H
          refine W.pass 72 rfl (sb (decide_eq_false c55)) rfl rfl (W.pass 72 rfl (sb (decide_eq_false c55)) rfl rfl (W.r (X.pickF (sb (decide_eq_false c55)) rfl) rfl (W.mv rfl (W.pass 76 rfl rfl rfl rfl (W.pass 76 rfl rfl rfl rfl (W.r (X.pickF rfl rfl) rfl (W.nil ?_)))))))
          exact At.meet false ⟨rfl, rfl, rfl, trivial⟩ ⟨HS, H⟩
        ·rintro x52 w ⟨HS, H⟩
         unfold signalmanlaw20_StationSelects.j4 at H
         by_cases c54 : x52 = true
         ·replace H := ite_t c54 H
          refine V.condT (sb c54) (V.region (W.as rfl (W.nil ?_)))
          exact At.meet (1) ⟨rfl, rfl, trivial⟩ ⟨HS, H⟩
         ·replace H := ite_f c54 H
          refine V.condF (sb (b_f c54)) (V.skip ?_)
          exact At.meet (0) ⟨rfl, rfl, trivial⟩ ⟨HS, H⟩
       ·rintro x46 w ⟨HS, H⟩
        unfold signalmanlaw20_StationSelects.j3 at H
        refine V.seq (V.region (W.mv rfl ?_))
        replace HS := HS.fr 4
        obtain ⟨b16_48, b17_48, b18_48, b22_48, b23_48, b24_48, b32_48, b33_48, b34_48, hi49, HS⟩ := station_Station.open HS
        obtain ⟨t50, A51, H⟩ := bind_s H
        refine W.e (Y.cl Tryz.func13 (station_Station_Status.calls A51 HS.j10)) rfl ?_
        rintro _ w ⟨rfl, HS⟩
        replace HS := HS.o10
        refine W.r (X.fdK (Value.int .i64 t50.Line) rfl (fun _ => by kernel_rfl)) rfl (W.mv rfl (W.r (X.cmp (decide (t50.Line = x46)) rfl rfl rfl rfl) rfl (W.as rfl (W.nx (V.ret ?_)))))
        replace HS := HS.pk [16] [0, 1, 2, 3, 4, 5, 6, 7, 8, 9, 10, 11, 12, 13, 14, 15]
        cases H
        exact At.ret1 rfl rfl ⟨_, rfl, rfl, HS⟩
def signalmanlaw20_StationSelects.Pure : Prop := ∀ (a0 : Int) (a1 : Bool) (a2 : Int), (Lit.int .i64 a0).wf = true → (Lit.int .i64 a2).wf = true → ∃ k, signalmanlaw20_StationSelects.f k a0 a1 a2 = some true
end Go.Proofs.YtodbopebbmplaaaGreat
