/- WorldCuts: the functions that its law reaches, as plain functions, and that the machine's calls come to what these say. Conditions: those that stand at each. -/
import Derived.Test.YtaejcbpijdacmaaGreatRunWorldCutsP2
set_option linter.all false
set_option maxRecDepth 100000
set_option maxHeartbeats 4000000
set_option synthInstance.maxSize 100000
set_option synthInstance.maxHeartbeats 1000000
namespace Go.Proofs.YtaejcbpijdacmaaGreat
open Go.RowKit Go.Proofs.YtaejcbpijdacmaaGreat.Sep Go.Proofs.YtaejcbpijdacmaaGreat.Walk Go.Proofs.Tryz
def slices_Delete_Sbytebyte.f (a0 : List Int) (a1 : Int) (a2 : Int) : Option (List Int) := (if 0 ≤ a1 ∧ a1 ≤ a2 ∧ a2 ≤ (a0.length : Int) then (if a1 = a2 then some a0 else (if 0 ≤ (0 : Int) ∧ (0 : Int) ≤ a1 ∧ a1 ≤ (a0.length : Int) then (if 0 ≤ a2 ∧ a2 ≤ (a0.length : Int) ∧ (a0.length : Int) ≤ (a0.length : Int) then some ((cut a0 (0 : Int) a1) ++ (cut a0 a2 (a0.length : Int))) else none) else none)) else none)
theorem slices_Delete_Sbytebyte.calls {a0 : List Int} {a1 : Int} {a2 : Int} {R : As} {w0 w : World} {sa0 : Option Addr} {sc0 : Nat} {r : List Int} (H : slices_Delete_Sbytebyte.f a0 a1 a2 = some r) (HS : Sep.St [row 5 1 (.slice sa0 a0.length sc0) a0.length (a0.map (Value.int .u8)), R] w0 w)  : Calls Tryz.prog 172 #[vs sa0 a0.length sc0, vi a1, vi a2] w (Ret fun u w => ∃ (aq0 : Option Addr) (cq0 : Nat), u = vs aq0 r.length cq0 ∧ Sep.St [row 5 1 (.slice aq0 r.length cq0) r.length (r.map (Value.int .u8)), R] w0 w) := by
 unfold slices_Delete_Sbytebyte.f at H
 refine calls_enter func172 rfl rfl ?_
 have H : _ = some r := H
 refine V.seq (V.region (W.as rfl (W.nx (V.seq (V.region (W.mv rfl (W.mv rfl (W.mv rfl (W.mv rfl (W.r (X.lenSl underlying48 rfl) rfl ?_))))))))))
 obtain ⟨c1, H⟩ := ite_n H
 refine W.r (X.sl3 underlying48 inf5 rfl rfl rfl rfl c1 (Int.ofNat_le.2 (rdC.at 0 row_rd HS rfl).cap)) rfl (W.nx (V.seq (V.seq (V.region (W.mv rfl (W.mv rfl (W.r (X.cmp (decide (a1 = a2)) rfl rfl rfl rfl) rfl (W.nx ?_))))))))
 by_cases c3 : a1 = a2
 ·replace H := ite_t c3 H
  refine V.condT (sb (dT c3)) (V.seq (V.region (W.mv rfl (W.as rfl (W.nx (V.ret (At.thenRet ?_)))))))
  cases H
  exact At.ret1 rfl rfl ⟨_, rfl, sa0, sc0, rfl, HS⟩
 ·replace H := ite_f c3 H
  refine V.condF (sb (dF c3)) (V.skip (At.next (V.seq (V.region (W.mv rfl (W.r (X.lenSl underlying48 rfl) rfl (W.as rfl (W.nx (V.seq ?_)))))))))
  obtain ⟨c4, H⟩ := ite_n H
  obtain ⟨c5, H⟩ := ite_n H
  refine V.dr [6] [7] [(20, vs sa0 a0.length sc0), (21, vi a1), (22, vs (vaddr sa0 sc0 (0 : Int).toNat 1) (cut a0 (0 : Int) a1).length (sc0 - (0 : Int).toNat)), (23, vs sa0 a0.length sc0), (24, vi a2), (25, vs (vaddr sa0 sc0 a2.toNat 1) (cut a0 a2 (a0.length : Int)).length (sc0 - a2.toNat))] mo HS ?_
  refine T.ev [(22, _), (25, _)] [] [0, 1, 2, 3, 4, 5] ⟨rfl, rfl, tv⟩ ⟨.mv 0, .mv 1, .n2 20 21 rfl rfl rfl (fun w HS => X.slH underlying48 inf5 rfl rfl c4 (rdC.at 0 row_rd HS rfl).cap), .mv 0, .mv 2, .n2 23 24 rfl rfl rfl (fun w HS => X.slL underlying48 inf5 rfl rfl c5), tv⟩ rfl (fun w HS => ?_)
  have hlt6 : a1 < a2 := by omega
  have hd7 : 0 ≤ a1 ∧ a1 < a2 ∧ a2 ≤ (a0.length : Int) := by omega
  have hc8 : (a0.length : Int) ≤ (sc0 : Int) := Int.ofNat_le.2 (rdC.at 0 row_rd HS rfl).cap
  have hl9 : (((cut a0 (0 : Int) a1) ++ (cut a0 a2 (a0.length : Int))).length : Int) ≤ (a0.length : Int) := by rw [List.length_append, cut_len ⟨by omega, by omega, by omega⟩, cut_len ⟨by omega, by omega, by omega⟩]; omega
  refine ⟨_, Y.appDelF (Value.int .u8) (fun _ => rfl) 0 underlying48 ap5 HS rfl hd7 rfl rfl, ?_⟩
  rintro _ w ⟨rfl, HS⟩
  refine T.nm [(26, vs sa0 ((cut a0 (0 : Int) a1) ++ (cut a0 a2 (a0.length : Int))).length sc0), (0, vs sa0 ((cut a0 (0 : Int) a1) ++ (cut a0 a2 (a0.length : Int))).length sc0)] HS ⟨.inl ⟨rfl, rfl⟩, ⟨.inr ⟨by decide, rfl⟩, tv⟩⟩ ?_
  refine T.fn [(0, _), (7, _)] ⟨rfl, rfl, tv⟩ ⟨.as 26, tv⟩ (fun w HS => ?_)
  refine At.next (V.seq (V.region (W.mv rfl (W.mv rfl (W.r (X.lenSl underlying48 rfl) rfl (W.mv rfl (W.r (X.slC underlying48 inf5 rfl rfl rfl ⟨by omega, hl9⟩ hc8) rfl (W.en (Y.clearTail (n0 := a0.length) 0 underlying48 ap5 rfl rfl HS rfl (Int.ofNat_le.1 hl9) (Int.ofNat_le.1 hc8) rfl) rfl ?_))))))))
  rintro _ w HS
  refine W.nx (V.seq (V.region (W.mv rfl (W.as rfl (W.nx (V.ret ?_))))))
  cases H
  exact At.ret1 rfl rfl ⟨_, rfl, sa0, sc0, rfl, HS⟩
mutual
def ring_Ring_passed.l0 : Nat → Int → ring_Ring → Option ring_Ring
 | 0, _, _ => none
 | k + 1, x2, x3 => (if x2 > 0 then (if x3.begun = 0 then (if 0 ≤ (0 : Int) ∧ (0 : Int) < (x3.pieces.length : Int) then (if 0 ≤ (1 : Int) ∧ (1 : Int) ≤ (x3.pieces.length : Int) ∧ (x3.pieces.length : Int) ≤ (x3.pieces.length : Int) then (ring_Ring_passed.l0 k (w64 (x2 - (imin x2 (x3.pieces.getD (0 : Int).toNat 0)))) ({ x3 with begun := w64 ((x3.pieces.getD (0 : Int).toNat 0) - (imin x2 (x3.pieces.getD (0 : Int).toNat 0))), pieces := cut x3.pieces (1 : Int) (x3.pieces.length : Int) } : ring_Ring)) else none) else none) else (ring_Ring_passed.l0 k (w64 (x2 - (imin x2 x3.begun))) ({ x3 with begun := w64 (x3.begun - (imin x2 x3.begun)) } : ring_Ring))) else some x3)
end
def ring_Ring_passed.f (k : Nat) (a0 : ring_Ring) (a1 : Int) : Option ring_Ring := (ring_Ring_passed.l0 k a1 a0)
theorem ring_Ring_passed.calls {k : Nat} {a0 : ring_Ring} {a1 : Int} {R : As} {w0 w : World} {b0 : Nat} {r : ring_Ring} (H : ring_Ring_passed.f k a0 a1 = some r) (HS : Sep.St [ring_Ring.at b0 a0, R] w0 w)  : Calls Tryz.prog 191 #[pt b0, vi a1] w (Ret fun u w => u = Value.tuple #[] ∧ Sep.St [ring_Ring.at b0 r, R] w0 w) := by
 unfold ring_Ring_passed.f at H
 refine calls_enter func191 rfl rfl ?_
 have H : _ = some r := H
 refine V.block (V.loop (σ := Int × ring_Ring) (fun kq (st : Int × ring_Ring) w => match st with | (x2, x3) => Sep.St [ring_Ring.at b0 x3, R] w0 w ∧ ring_Ring_passed.l0 kq x2 x3 = some r ∧ kq ≤ k) (fun st => match st with | (x2, x3) => [(0, pt b0), (1, vi x2)]) k (a1, a0) ⟨rfl, rfl, tv⟩ ⟨HS, H, Nat.le_refl _⟩ ?_)
 rintro kq4 ⟨x2, x3⟩ w ⟨HS, H, hk5⟩
 cases kq4 with
 | zero => exact absurd H (by simp [ring_Ring_passed.l0])
 | succ kq4 =>
  simp only [ring_Ring_passed.l0] at H
  refine V.seq (V.seq (V.region (W.mv rfl (W.r (X.cmp (decide (x2 > 0)) rfl rfl rfl rfl) rfl (W.nx ?_)))))
  by_cases c6 : x2 > 0
  ·replace H := ite_t c6 H
   refine V.condT (sb (dT c6)) (V.skip (At.next (V.block (V.seq (V.seq (V.region (W.mv rfl (W.nc rfl ?_))))))))
   obtain ⟨a1_7, c1_7, a3_7, c3_7, hi8, HS⟩ := ring_Ring.open HS
   refine W.fa fo195_2 rfl (W.ld 0 HS underlying3 rfl rfl rfl rfl (W.r (X.cmp (decide (x3.begun = 0)) rfl rfl rfl rfl) rfl (W.nx ?_)))
   by_cases c9 : x3.begun = 0
   ·replace H := ite_t c9 H
    refine V.condT (sb (dT c9)) (V.seq (V.region (W.mv rfl (W.mv rfl (W.nc rfl (W.fa fo195_3 rfl (W.ld 0 HS underlying141 rfl rfl rfl rfl ?_)))))))
    obtain ⟨c10, H⟩ := ite_n H
    obtain ⟨eb11, eo12, hh⟩ := (rdC.at 2 row_rd HS rfl).some (by decide) c10.1 c10.2; subst hh
    refine W.r (X.indexSl underlying141 inf3 rfl rfl c10.1 c10.2) rfl (W.r (X.load underlying3 rfl rfl ((rdC.at 2 row_rd HS rfl).cellI c10.1 c10.2)) rfl (W.nc rfl (W.fa fo195_2 rfl (W.st 0 2 HS inf3 rfl rfl rfl rfl rfl rfl fun w HS => ?_))))
    refine W.nx (V.region (W.mv rfl (W.mv rfl (W.nc rfl (W.fa fo195_3 rfl (W.ld 0 HS underlying141 rfl rfl rfl rfl ?_))))))
    obtain ⟨c13, H⟩ := ite_n H
    refine W.r (X.slL underlying141 inf3 rfl rfl c13) rfl (W.nc rfl (W.fa fo195_3 rfl (W.st 0 3 HS inf141 rfl rfl rfl rfl rfl rfl fun w HS => ?_)))
    refine W.nx (V.seq (V.region (W.mv rfl (W.mv rfl (W.nc rfl (W.fa fo195_2 rfl (W.ld 0 HS underlying3 rfl rfl rfl rfl (W.r (X.min2 rfl rfl) rfl (W.as rfl (W.nx (V.seq (V.region (W.mv rfl (W.nc rfl (W.fa fo195_2 rfl (W.ld 0 HS underlying3 rfl rfl rfl rfl (W.mv rfl (W.r (X.sub rfl rfl) rfl (W.nc rfl (W.fa fo195_2 rfl (W.st 0 2 HS inf3 rfl rfl rfl rfl rfl rfl fun w HS => ?_)))))))))))))))))))))
    refine W.nx (V.region (W.mv rfl (W.mv rfl (W.r (X.sub rfl rfl) rfl (W.as rfl (W.nil (At.blockEnd ?_)))))))
    replace HS := HS.fr 2
    replace HS := St.row_subM HS c13
    replace HS := HS.pm [1, 2, 0, 3]
    replace HS := ring_Ring.close tv HS
    exact At.round kq4 (by omega) (w64 (x2 - (imin x2 (x3.pieces.getD (0 : Int).toNat 0))), ({ x3 with begun := w64 ((x3.pieces.getD (0 : Int).toNat 0) - (imin x2 (x3.pieces.getD (0 : Int).toNat 0))), pieces := cut x3.pieces (1 : Int) (x3.pieces.length : Int) } : ring_Ring)) ⟨rfl, rfl, tv⟩ ⟨HS, H, by omega⟩
   ·replace H := ite_f c9 H
    refine V.condF (sb (dF c9)) (V.skip (At.next (V.seq (V.region (W.mv rfl (W.mv rfl (W.nc rfl (W.fa fo195_2 rfl (W.ld 0 HS underlying3 rfl rfl rfl rfl (W.r (X.min2 rfl rfl) rfl (W.as rfl (W.nx (V.seq (V.region (W.mv rfl (W.nc rfl (W.fa fo195_2 rfl (W.ld 0 HS underlying3 rfl rfl rfl rfl (W.mv rfl (W.r (X.sub rfl rfl) rfl (W.nc rfl (W.fa fo195_2 rfl (W.st 0 2 HS inf3 rfl rfl rfl rfl rfl rfl fun w HS => ?_)))))))))))))))))))))))
    refine W.nx (V.region (W.mv rfl (W.mv rfl (W.r (X.sub rfl rfl) rfl (W.as rfl (W.nil (At.blockEnd ?_)))))))
    replace HS := ring_Ring.close tv HS
    exact At.round kq4 (by omega) (w64 (x2 - (imin x2 x3.begun)), ({ x3 with begun := w64 (x3.begun - (imin x2 x3.begun)) } : ring_Ring)) ⟨rfl, rfl, tv⟩ ⟨HS, H, by omega⟩
  ·replace H := ite_f c6 H
   refine V.condF (sb (dF c6)) (V.exit (At.thenExit (At.thenExit (At.blockExit ?_))))
   cases H
   exact At.end0 rfl ⟨_, rfl, rfl, HS⟩
def ring_Ring_Take.f (k : Nat) (a0 : ring_Ring) (a1 : Int) : Option (List Int × ring_Ring) := (if 0 ≤ (0 : Int) ∧ (0 : Int) ≤ imax (0) (imin a1 (a0.b.length : Int)) ∧ imax (0) (imin a1 (a0.b.length : Int)) ≤ (a0.b.length : Int) then ((slices_Clone_Sbytebyte.f (cut a0.b (0 : Int) (imax (0) (imin a1 (a0.b.length : Int))))).bind fun t4 => ((slices_Delete_Sbytebyte.f a0.b 0 (imax (0) (imin a1 (a0.b.length : Int)))).bind fun t6 => ((ring_Ring_passed.f k ({ a0 with b := t6 } : ring_Ring) (imax (0) (imin a1 (a0.b.length : Int)))).bind fun t8 => some (t4, t8)))) else none)
theorem ring_Ring_Take.calls {k : Nat} {a0 : ring_Ring} {a1 : Int} {R : As} {w0 w : World} {b0 : Nat} {r : List Int × ring_Ring} (H : ring_Ring_Take.f k a0 a1 = some r) (HS : Sep.St [ring_Ring.at b0 a0, R] w0 w)  : Calls Tryz.prog 124 #[pt b0, vi a1] w (Ret fun u w => ∃ (aq0 : Option Addr) (cq0 : Nat), u = vs aq0 r.1.length cq0 ∧ Sep.St [row 5 1 (.slice aq0 r.1.length cq0) r.1.length (r.1.map (Value.int .u8)), ring_Ring.at b0 r.2, R] w0 w) := by
 unfold ring_Ring_Take.f at H
 refine calls_enter func124 rfl rfl ?_
 have H : _ = some r := H
 refine V.seq (V.region (W.as rfl (W.nx (V.seq (V.region (W.mv rfl (W.mv rfl (W.nc rfl ?_))))))))
 obtain ⟨a1_1, c1_1, a3_1, c3_1, hi2, HS⟩ := ring_Ring.open HS
 refine W.fa fo195_1 rfl (W.ld 0 HS underlying48 rfl rfl rfl rfl (W.r (X.lenSl underlying48 rfl) rfl (W.r (X.min2 rfl rfl) rfl (W.r (X.max2 rfl rfl) rfl (W.as rfl (W.nx (V.seq (V.region (W.mv rfl (W.nc rfl (W.fa fo195_1 rfl (W.ld 0 HS underlying48 rfl rfl rfl rfl (W.mv rfl ?_)))))))))))))
 obtain ⟨c3, H⟩ := ite_n H
 refine W.r (X.slH underlying48 inf5 rfl rfl c3 (rdC.at 1 row_rd HS rfl).cap) rfl ?_
 obtain ⟨t4, A5, H⟩ := bind_s H
 refine W.e (Y.cl func127 (slices_Clone_Sbytebyte.calls A5 HS.j0 (rdC.part 1 (rdC.subM row_rd c3) rfl))) rfl ?_
 rintro _ w ⟨at4_0, ct4_0, rfl, HS⟩
 replace HS := HS.o1
 refine W.as rfl (W.nx (V.seq (V.region (W.mv rfl (W.mv rfl (W.nc rfl (W.fa fo195_1 rfl (W.ld 1 HS underlying48 rfl rfl rfl rfl (W.mv rfl ?_)))))))))
 obtain ⟨t6, A7, H⟩ := bind_s H
 replace HS := HS.pm [2, 0, 1, 3, 4]
 refine W.e (Y.cl func172 (slices_Delete_Sbytebyte.calls A7 HS.j1)) rfl ?_
 rintro _ w ⟨at6_0, ct6_0, rfl, HS⟩
 replace HS := HS.o1
 refine W.nc rfl (W.fa fo195_1 rfl (W.st 2 1 HS inf48 rfl rfl rfl rfl rfl rfl fun w HS => ?_))
 refine W.nx (V.seq (V.region (W.mv rfl (W.mv rfl ?_))))
 replace HS := HS.pm [2, 0, 3, 1, 4]
 replace HS := ring_Ring.close tv HS
 obtain ⟨t8, A9, H⟩ := bind_s H
 refine W.e (Y.cl func191 (ring_Ring_passed.calls A9 HS.j1)) rfl ?_
 rintro _ w ⟨rfl, HS⟩
 replace HS := HS.o1
 refine W.nx (V.seq (V.region (W.mv rfl (W.as rfl (W.nx (V.ret ?_))))))
 replace HS := HS.pk [1, 0, 2] []
 cases H
 exact At.ret1 rfl rfl ⟨_, rfl, at4_0, ct4_0, rfl, HS⟩
def station_Station_Take.f (k : Nat) (a0 : station_Station) (a1 : Int) (a2 : Int) : Option (List Int × station_Station) := ((station_has.f a1).bind fun t2 => (if t2 = true then (if 0 ≤ a1 ∧ a1 < 2 then (if a1 = 0 then ((ring_Ring_Take.f k a0.sides.1.ring a2).bind fun t9 => some (t9.1, ({ a0 with sides := (({ a0.sides.1 with ring := t9.2 } : station_side), a0.sides.2) } : station_Station))) else ((ring_Ring_Take.f k a0.sides.2.ring a2).bind fun t12 => some (t12.1, ({ a0 with sides := (a0.sides.1, ({ a0.sides.2 with ring := t12.2 } : station_side)) } : station_Station)))) else none) else some (([] : List Int), a0)))
theorem station_Station_Take.calls {k : Nat} {a0 : station_Station} {a1 : Int} {a2 : Int} {R : As} {w0 w : World} {b0 : Nat} {r : List Int × station_Station} (H : station_Station_Take.f k a0 a1 a2 = some r) (HS : Sep.St [station_Station.at b0 a0, R] w0 w)  : Calls Tryz.prog 59 #[pt b0, vi a1, vi a2] w (Ret fun u w => ∃ (aq0 : Option Addr) (cq0 : Nat), u = vs aq0 r.1.length cq0 ∧ Sep.St [row 5 1 (.slice aq0 r.1.length cq0) r.1.length (r.1.map (Value.int .u8)), station_Station.at b0 r.2, R] w0 w) := by
 unfold station_Station_Take.f at H
 refine calls_enter func59 rfl rfl ?_
 have H : _ = some r := H
 refine V.seq (V.region (W.as rfl (W.nx (V.seq (V.seq (V.region (W.mv rfl ?_)))))))
 obtain ⟨t2, A3, H⟩ := bind_s H
 refine W.e (Y.cl func99 (station_has.calls A3 HS.j0)) rfl ?_
 rintro _ w ⟨rfl, HS⟩
 replace HS := HS.o0
 refine W.r (X.not rfl) rfl (W.nx ?_)
 by_cases c4 : t2 = true
 ·replace H := ite_t c4 H
  refine V.condF (sb (n_t c4)) (V.skip (At.next (V.seq (V.region (W.mv rfl (W.mv rfl (W.nc rfl ?_)))))))
  obtain ⟨b16_5, b17_5, b18_5, b22_5, b23_5, b24_5, b32_5, b33_5, b34_5, hi6, HS⟩ := station_Station.open HS
  refine W.fa fo103_7 rfl ?_
  obtain ⟨c7, H⟩ := ite_n H
  by_cases c8 : a1 = 0
  ·replace H := ite_t c8 H
   refine W.r (X.indexArK 0 c8 underlying101 inf100 rfl rfl c7.1 c7.2) rfl (W.fa fo100_2 rfl (W.ld 0 HS underlying98 rfl rfl rfl rfl (W.mv rfl ?_)))
   obtain ⟨t9, A10, H⟩ := bind_s H
   replace HS := HS.pm [6, 0, 1, 2, 3, 4, 5, 7, 8, 9, 10]
   refine W.e (Y.cl func124 (ring_Ring_Take.calls A10 HS.j1)) rfl ?_
   rintro _ w ⟨at9_0, ct9_0, rfl, HS⟩
   replace HS := HS.o2
   refine W.as rfl (W.nx (V.ret ?_))
   replace HS := HS.pm [2, 3, 4, 5, 6, 7, 1, 8, 9, 10, 0, 11]
   replace HS := station_Station.close tv HS
   replace HS := HS.pk [1, 0, 2] []
   cases H
   exact At.ret1 rfl rfl ⟨_, rfl, at9_0, ct9_0, rfl, HS⟩
  ·replace H := ite_f c8 H
   have hk11 : a1 = 1 := by omega
   refine W.r (X.indexArK 1 hk11 underlying101 inf100 rfl rfl c7.1 c7.2) rfl (W.fa fo100_2 rfl (W.ld 0 HS underlying98 rfl rfl rfl rfl (W.mv rfl ?_)))
   obtain ⟨t12, A13, H⟩ := bind_s H
   replace HS := HS.pm [9, 0, 1, 2, 3, 4, 5, 6, 7, 8, 10]
   refine W.e (Y.cl func124 (ring_Ring_Take.calls A13 HS.j1)) rfl ?_
   rintro _ w ⟨at12_0, ct12_0, rfl, HS⟩
   replace HS := HS.o2
   refine W.as rfl (W.nx (V.ret ?_))
   replace HS := HS.pm [2, 3, 4, 5, 6, 7, 8, 9, 10, 1, 0, 11]
   replace HS := station_Station.close tv HS
   replace HS := HS.pk [1, 0, 2] []
   cases H
   exact At.ret1 rfl rfl ⟨_, rfl, at12_0, ct12_0, rfl, HS⟩
 ·replace H := ite_f c4 H
  refine V.condT (sb (n_f (b_f c4))) (V.seq (V.region (W.as rfl (W.nx (V.ret (At.thenRet ?_))))))
  replace HS := row_nilF (Value.int .u8) 5 1 HS
  cases H
  exact At.ret1 rfl rfl ⟨_, rfl, none, 0, rfl, HS⟩
def pipe_Pipe_Put.f (a0 : pipe_Pipe) (a1 : List Int) : Option (Int × pipe_Pipe) := (if a0.cut = true then some ((a1.length : Int), a0) else ((pipe_Pipe_Room.f a0).bind fun t5 => (if 0 ≤ (0 : Int) ∧ (0 : Int) ≤ imin (a1.length : Int) t5 ∧ imin (a1.length : Int) t5 ≤ (a1.length : Int) then (if (a0.b.length : Int) + (cut a1 (0 : Int) (imin (a1.length : Int) t5)).length ≤ 1099511627776 then some (imin (a1.length : Int) t5, ({ a0 with b := a0.b ++ (cut a1 (0 : Int) (imin (a1.length : Int) t5)) } : pipe_Pipe)) else none) else none)))
theorem pipe_Pipe_Put.calls {a0 : pipe_Pipe} {a1 : List Int} {R : As} {w0 w : World} {b0 : Nat} {sa1 : Option Addr} {sc1 : Nat} {r : Int × pipe_Pipe} (H : pipe_Pipe_Put.f a0 a1 = some r) (HS : Sep.St [pipe_Pipe.at b0 a0, R] w0 w) (hr1 : rdC R 1 (.slice sa1 a1.length sc1) a1.length (a1.map (Value.int .u8))) : Calls Tryz.prog 58 #[pt b0, vs sa1 a1.length sc1] w (Ret fun u w => u = vi r.1 ∧ Sep.St [pipe_Pipe.at b0 r.2, R] w0 w) := by
 unfold pipe_Pipe_Put.f at H
 refine calls_enter func58 rfl rfl ?_
 have H : _ = some r := H
 refine V.seq (V.region (W.as rfl (W.nx (V.seq (V.seq (V.region (W.mv rfl (W.nc rfl ?_))))))))
 obtain ⟨a1_2, c1_2, hi3, HS⟩ := pipe_Pipe.open HS
 refine W.fa fo151_2 rfl (W.ld 0 HS underlying4 rfl rfl rfl rfl (W.nx ?_))
 by_cases c4 : a0.cut = true
 ·replace H := ite_t c4 H
  refine V.condT (sb c4) (V.seq (V.region (W.mv rfl (W.r (X.lenSl underlying48 rfl) rfl (W.as rfl (W.nx (V.ret (At.thenRet ?_))))))))
  replace HS := pipe_Pipe.close tv HS
  cases H
  exact At.ret1 rfl rfl ⟨_, rfl, rfl, HS⟩
 ·replace H := ite_f c4 H
  refine V.condF (sb (b_f c4)) (V.skip (At.next (V.seq (V.region (W.mv rfl (W.r (X.lenSl underlying48 rfl) rfl (W.mv rfl ?_)))))))
  obtain ⟨t5, A6, H⟩ := bind_s H
  refine W.e (Y.cl func110 (pipe_Pipe_Room.calls A6 HS.j2)) rfl ?_
  rintro _ w ⟨rfl, HS⟩
  replace HS := HS.o2
  refine W.r (X.min2 rfl rfl) rfl (W.as rfl (W.nx (V.seq ?_)))
  obtain ⟨c7, H⟩ := ite_n H
  refine V.dr [8, 11] [9, 10] [(17, pt b0), (18, pt b0), (19, pt b0), (20, po b0 (0 + 1)), (21, vs a1_2 a0.b.length c1_2), (22, vs sa1 a1.length sc1), (23, vi (imin (a1.length : Int) t5)), (24, vs (vaddr sa1 sc1 (0 : Int).toNat 1) (cut a1 (0 : Int) (imin (a1.length : Int) t5)).length (sc1 - (0 : Int).toNat))] mo HS ?_
  refine T.ev [(21, _), (24, _)] [] [1, 2, 3, 4, 5, 6, 7] ⟨rfl, rfl, tv⟩ ⟨.mv 0, .mv 0, .nc 18, .fa 19 fo151_1, .ld 20 0 underlying48, .mv 1, .mv 5, .n2 22 23 rfl rfl rfl (fun w HS => X.slH underlying48 inf5 rfl rfl c7 (rdC.at 2 hr1 HS rfl).cap), tv⟩ rfl (fun w HS => ?_)
  obtain ⟨c8, H⟩ := ite_n H
  refine ⟨_, Y.appF (Value.int .u8) (fun _ => rfl) 1 underlying48 ap5 rfl HS rfl rfl rfl (rdC.at 2 (rdC.subM hr1 c7) HS rfl) (by omega) (by omega), ?_⟩
  rintro _ w ⟨ra9, rc10, rfl, HS⟩
  refine T.nm [(25, vs ra9 (a0.b ++ (cut a1 (0 : Int) (imin (a1.length : Int) t5))).length rc10), (26, pt b0), (27, po b0 (0 + 1))] HS ⟨.inl ⟨rfl, rfl⟩, ⟨.inr ⟨by decide, rfl⟩, ⟨.inr ⟨by decide, rfl⟩, tv⟩⟩⟩ ?_
  refine T.ev [(25, _), (27, _)] [] [0, 9, 10] ⟨rfl, rfl, tv⟩ ⟨.mv 0, .nc 17, .fa 26 fo151_1, tv⟩ rfl (fun w HS => ?_)
  refine ⟨_, Y.sto 0 1 HS inf48 rfl rfl rfl rfl rfl rfl, ?_⟩
  rintro _ w HS
  refine T.nn HS ?_
  refine T.fn [(5, _)] ⟨rfl, tv⟩ tv (fun w HS => ?_)
  refine At.next (V.seq (V.region (W.mv rfl (W.as rfl (W.nx (V.ret ?_))))))
  replace HS := pipe_Pipe.close tv HS
  cases H
  exact At.ret1 rfl rfl ⟨_, rfl, rfl, HS⟩
def pipe_Pipe_gone.f (a0 : pipe_Pipe) (a1 : Int) : Option (List Int × pipe_Pipe) := (if 0 ≤ (0 : Int) ∧ (0 : Int) ≤ imax (0) (imin a1 (a0.b.length : Int)) ∧ imax (0) (imin a1 (a0.b.length : Int)) ≤ (a0.b.length : Int) then ((slices_Clone_Sbytebyte.f (cut a0.b (0 : Int) (imax (0) (imin a1 (a0.b.length : Int))))).bind fun t4 => ((slices_Delete_Sbytebyte.f a0.b 0 (imax (0) (imin a1 (a0.b.length : Int)))).bind fun t6 => some (t4, ({ a0 with b := t6 } : pipe_Pipe)))) else none)
theorem pipe_Pipe_gone.calls {a0 : pipe_Pipe} {a1 : Int} {R : As} {w0 w : World} {b0 : Nat} {r : List Int × pipe_Pipe} (H : pipe_Pipe_gone.f a0 a1 = some r) (HS : Sep.St [pipe_Pipe.at b0 a0, R] w0 w)  : Calls Tryz.prog 109 #[pt b0, vi a1] w (Ret fun u w => ∃ (aq0 : Option Addr) (cq0 : Nat), u = vs aq0 r.1.length cq0 ∧ Sep.St [row 5 1 (.slice aq0 r.1.length cq0) r.1.length (r.1.map (Value.int .u8)), pipe_Pipe.at b0 r.2, R] w0 w) := by
 unfold pipe_Pipe_gone.f at H
 refine calls_enter func109 rfl rfl ?_
 have H : _ = some r := H
 refine V.seq (V.region (W.as rfl (W.nx (V.seq (V.region (W.mv rfl (W.mv rfl (W.nc rfl ?_))))))))
 obtain ⟨a1_1, c1_1, hi2, HS⟩ := pipe_Pipe.open HS
 refine W.fa fo151_1 rfl (W.ld 0 HS underlying48 rfl rfl rfl rfl (W.r (X.lenSl underlying48 rfl) rfl (W.r (X.min2 rfl rfl) rfl (W.r (X.max2 rfl rfl) rfl (W.as rfl (W.nx (V.seq (V.region (W.mv rfl (W.nc rfl (W.fa fo151_1 rfl (W.ld 0 HS underlying48 rfl rfl rfl rfl (W.mv rfl ?_)))))))))))))
 obtain ⟨c3, H⟩ := ite_n H
 refine W.r (X.slH underlying48 inf5 rfl rfl c3 (rdC.at 1 row_rd HS rfl).cap) rfl ?_
 obtain ⟨t4, A5, H⟩ := bind_s H
 refine W.e (Y.cl func127 (slices_Clone_Sbytebyte.calls A5 HS.j0 (rdC.part 1 (rdC.subM row_rd c3) rfl))) rfl ?_
 rintro _ w ⟨at4_0, ct4_0, rfl, HS⟩
 replace HS := HS.o1
 refine W.as rfl (W.nx (V.seq (V.region (W.mv rfl (W.mv rfl (W.nc rfl (W.fa fo151_1 rfl (W.ld 1 HS underlying48 rfl rfl rfl rfl (W.mv rfl ?_)))))))))
 obtain ⟨t6, A7, H⟩ := bind_s H
 replace HS := HS.pm [2, 0, 1, 3]
 refine W.e (Y.cl func172 (slices_Delete_Sbytebyte.calls A7 HS.j1)) rfl ?_
 rintro _ w ⟨at6_0, ct6_0, rfl, HS⟩
 replace HS := HS.o1
 refine W.nc rfl (W.fa fo151_1 rfl (W.st 2 1 HS inf48 rfl rfl rfl rfl rfl rfl fun w HS => ?_))
 refine W.nx (V.seq (V.region (W.mv rfl (W.as rfl (W.nx (V.ret ?_))))))
 replace HS := HS.pm [2, 0, 1, 3]
 replace HS := pipe_Pipe.close tv HS
 replace HS := HS.pk [1, 0, 2] []
 cases H
 exact At.ret1 rfl rfl ⟨_, rfl, at4_0, ct4_0, rfl, HS⟩
def pipe_Pipe_Take.f (a0 : pipe_Pipe) (a1 : Int) : Option (List Int × pipe_Pipe) := (if a0.stall = true then some (([] : List Int), a0) else ((pipe_Pipe_gone.f a0 a1).bind fun t5 => some t5))
theorem pipe_Pipe_Take.calls {a0 : pipe_Pipe} {a1 : Int} {R : As} {w0 w : World} {b0 : Nat} {r : List Int × pipe_Pipe} (H : pipe_Pipe_Take.f a0 a1 = some r) (HS : Sep.St [pipe_Pipe.at b0 a0, R] w0 w)  : Calls Tryz.prog 62 #[pt b0, vi a1] w (Ret fun u w => ∃ (aq0 : Option Addr) (cq0 : Nat), u = vs aq0 r.1.length cq0 ∧ Sep.St [row 5 1 (.slice aq0 r.1.length cq0) r.1.length (r.1.map (Value.int .u8)), pipe_Pipe.at b0 r.2, R] w0 w) := by
 unfold pipe_Pipe_Take.f at H
 refine calls_enter func62 rfl rfl ?_
 have H : _ = some r := H
 refine V.seq (V.region (W.as rfl (W.nx (V.seq (V.seq (V.region (W.mv rfl (W.nc rfl ?_))))))))
 obtain ⟨a1_2, c1_2, hi3, HS⟩ := pipe_Pipe.open HS
 refine W.fa fo151_3 rfl (W.ld 0 HS underlying4 rfl rfl rfl rfl (W.nx ?_))
 by_cases c4 : a0.stall = true
 ·replace H := ite_t c4 H
  refine V.condT (sb c4) (V.seq (V.region (W.as rfl (W.nx (V.ret (At.thenRet ?_))))))
  replace HS := row_nilF (Value.int .u8) 5 1 HS
  replace HS := HS.pm [1, 2, 0, 3]
  replace HS := pipe_Pipe.close tv HS
  replace HS := HS.pk [1, 0, 2] []
  cases H
  exact At.ret1 rfl rfl ⟨_, rfl, none, 0, rfl, HS⟩
 ·replace H := ite_f c4 H
  refine V.condF (sb (b_f c4)) (V.skip (At.next (V.seq (V.region (W.mv rfl (W.mv rfl ?_))))))
  replace HS := pipe_Pipe.close tv HS
  obtain ⟨t5, A6, H⟩ := bind_s H
  refine W.e (Y.cl func109 (pipe_Pipe_gone.calls A6 HS.j1)) rfl ?_
  rintro _ w ⟨at5_0, ct5_0, rfl, HS⟩
  replace HS := HS.o2
  refine W.as rfl (W.nx (V.ret ?_))
  cases H
  exact At.ret1 rfl rfl ⟨_, rfl, at5_0, ct5_0, rfl, HS⟩
mutual
def slices_Equal_Sbytebyte.l0 : Nat → (List Int) → (List Int) → Int → Option Bool
 | 0, _, _, _ => none
 | k + 1, a0, a1, x2 => (if x2 < (a0.length : Int) then (if 0 ≤ x2 ∧ x2 < (a0.length : Int) then (if 0 ≤ x2 ∧ x2 < (a1.length : Int) then (if (a0.getD x2.toNat 0) = (a1.getD x2.toNat 0) then (slices_Equal_Sbytebyte.l0 k a0 a1 (w64 (x2 + 1))) else some false) else none) else none) else some true)
end
def slices_Equal_Sbytebyte.f (k : Nat) (a0 : List Int) (a1 : List Int) : Option Bool := (if (a0.length : Int) = (a1.length : Int) then (slices_Equal_Sbytebyte.l0 k a0 a1 0) else some false)
theorem slices_Equal_Sbytebyte.calls {k : Nat} {a0 : List Int} {a1 : List Int} {R : As} {w0 w : World} {sa0 : Option Addr} {sc0 : Nat} {sa1 : Option Addr} {sc1 : Nat} {r : Bool} (H : slices_Equal_Sbytebyte.f k a0 a1 = some r) (HS : Sep.St [R] w0 w) (hr0 : rdC R 1 (.slice sa0 a0.length sc0) a0.length (a0.map (Value.int .u8))) (hr1 : rdC R 1 (.slice sa1 a1.length sc1) a1.length (a1.map (Value.int .u8))) : Calls Tryz.prog 314 #[vs sa0 a0.length sc0, vs sa1 a1.length sc1] w (Ret fun u w => u = vb r ∧ Sep.St [R] w0 w) := by
 unfold slices_Equal_Sbytebyte.f at H
 refine calls_enter func314 rfl rfl ?_
 have H : _ = some r := H
 refine V.seq (V.region (W.as rfl (W.nx (V.seq (V.seq (V.region (W.mv rfl (W.r (X.lenSl underlying48 rfl) rfl (W.mv rfl (W.r (X.lenSl underlying48 rfl) rfl (W.r (X.cmp (!(decide ((a0.length : Int) = (a1.length : Int)))) rfl rfl rfl rfl) rfl (W.nx ?_))))))))))))
 by_cases c1 : (a0.length : Int) = (a1.length : Int)
 ·replace H := ite_t c1 H
  refine V.condF (sb (n_t (dT c1))) (V.skip (At.next (V.seq (V.seq (V.region (W.mv rfl (W.r (X.lenSl underlying48 rfl) rfl (W.mv rfl (W.nx (V.block (V.loop (σ := Int) (fun kq (st : Int) w => match st with | x2 => Sep.St [R] w0 w ∧ slices_Equal_Sbytebyte.l0 kq a0 a1 x2 = some r ∧ kq ≤ k) (fun st => match st with | x2 => [(0, vs sa0 a0.length sc0), (1, vs sa1 a1.length sc1), (12, vi (a0.length : Int)), (13, vi x2)]) k (0) ⟨rfl, rfl, rfl, rfl, tv⟩ ⟨HS, H, Nat.le_refl _⟩ ?_)))))))))))
  rintro kq3 x2 w ⟨HS, H, hk4⟩
  cases kq3 with
  | zero => exact absurd H (by simp [slices_Equal_Sbytebyte.l0])
  | succ kq3 =>
   simp only [slices_Equal_Sbytebyte.l0] at H
   refine V.seq (V.region (W.r (X.cmp (decide (x2 < (a0.length : Int))) rfl rfl rfl rfl) rfl (W.nx (V.seq ?_))))
   by_cases c5 : x2 < (a0.length : Int)
   ·replace H := ite_t c5 H
    refine V.condT (sb (dT c5)) (V.skip (At.next (V.seq (V.block (V.seq (V.region (W.mv rfl (W.as rfl (W.nx (V.seq ?_))))))))))
    obtain ⟨c6, H⟩ := ite_n H
    obtain ⟨eb7, eo8, hh⟩ := (rdC.at 0 hr0 HS rfl).some (by decide) c6.1 c6.2; subst hh
    obtain ⟨c9, H⟩ := ite_n H
    obtain ⟨eb10, eo11, hh⟩ := (rdC.at 0 hr1 HS rfl).some (by decide) c9.1 c9.2; subst hh
    refine V.dr [] [] [(16, vs (some ⟨eb7, eo8, none⟩) a0.length sc0), (17, vi x2), (18, po eb7 (eo8 + x2.toNat * 1)), (19, Value.int .u8 (a0.getD x2.toNat 0)), (20, vs (some ⟨eb10, eo11, none⟩) a1.length sc1), (21, vi x2), (22, po eb10 (eo11 + x2.toNat * 1)), (23, Value.int .u8 (a1.getD x2.toNat 0)), (24, vb (!(decide ((a0.getD x2.toNat 0) = (a1.getD x2.toNat 0)))))] mo HS ?_
    refine T.fn [(0, _), (1, _), (12, _), (13, _), (24, _)] ⟨rfl, rfl, rfl, rfl, rfl, tv⟩ ⟨.mv 0, .mv 5, .n2 16 17 rfl rfl rfl (fun w HS => X.indexSl underlying48 inf5 rfl rfl c6.1 c6.2), .n1 18 rfl rfl (fun w HS => X.load underlying5 rfl rfl ((rdC.at 0 hr0 HS rfl).cellI c6.1 c6.2)), .mv 1, .mv 5, .n2 20 21 rfl rfl rfl (fun w HS => X.indexSl underlying48 inf5 rfl rfl c9.1 c9.2), .n1 22 rfl rfl (fun w HS => X.load underlying5 rfl rfl ((rdC.at 0 hr1 HS rfl).cellI c9.1 c9.2)), .n2 19 23 rfl rfl rfl (fun w HS => X.cmp (!(decide ((a0.getD x2.toNat 0) = (a1.getD x2.toNat 0)))) rfl rfl rfl rfl), tv⟩ (fun w HS => ?_)
    refine At.next ?_
    by_cases c12 : (a0.getD x2.toNat 0) = (a1.getD x2.toNat 0)
    ·replace H := ite_t c12 H
     refine V.condF (sb (n_t (dT c12))) (V.skip (At.blockEnd (At.next (V.region (W.r (X.add rfl rfl) rfl (W.mv rfl (W.nil ?_)))))))
     exact At.round kq3 (by omega) (w64 (x2 + 1)) ⟨rfl, rfl, rfl, rfl, tv⟩ ⟨HS, H, by omega⟩
    ·replace H := ite_f c12 H
     refine V.condT (sb (n_f (dF c12))) (V.seq (V.region (W.as rfl (W.nx (V.ret (At.blockRet (At.thenRet (At.thenRet (At.blockRet (At.thenRet ?_))))))))))
     cases H
     exact At.ret1 rfl rfl ⟨_, rfl, rfl, HS⟩
   ·replace H := ite_f c5 H
    refine V.condF (sb (dF c5)) (V.exit (At.thenExit (At.thenExit (At.blockExit (At.next (V.seq (V.region (W.as rfl (W.nx (V.ret ?_))))))))))
    cases H
    exact At.ret1 rfl rfl ⟨_, rfl, rfl, HS⟩
 ·replace H := ite_f c1 H
  refine V.condT (sb (n_f (dF c1))) (V.seq (V.region (W.as rfl (W.nx (V.ret (At.thenRet ?_))))))
  cases H
  exact At.ret1 rfl rfl ⟨_, rfl, rfl, HS⟩
def fcs_Check.f (k : Nat) (a0 : List Int) (a1 : Bool) : Option (List Int × Int) := ((fcs_tail.f k [] a1).bind fun t1 => (if (w64 ((a0.length : Int) - (t1.length : Int))) < 0 then some (([] : List Int), 3) else (if 0 ≤ (0 : Int) ∧ (0 : Int) ≤ w64 ((a0.length : Int) - (t1.length : Int)) ∧ w64 ((a0.length : Int) - (t1.length : Int)) ≤ (a0.length : Int) then (if 0 ≤ w64 ((a0.length : Int) - (t1.length : Int)) ∧ w64 ((a0.length : Int) - (t1.length : Int)) ≤ (a0.length : Int) ∧ (a0.length : Int) ≤ (a0.length : Int) then ((fcs_tail.f k (cut a0 (0 : Int) (w64 ((a0.length : Int) - (t1.length : Int)))) a1).bind fun t7 => ((slices_Equal_Sbytebyte.f k t7 (cut a0 (w64 ((a0.length : Int) - (t1.length : Int))) (a0.length : Int))).bind fun t9 => (if t9 = true then ((slices_Clone_Sbytebyte.f (cut a0 (0 : Int) (w64 ((a0.length : Int) - (t1.length : Int))))).bind fun t12 => some (t12, 0)) else some (([] : List Int), 2)))) else none) else none)))
theorem fcs_Check.calls {k : Nat} {a0 : List Int} {a1 : Bool} {R : As} {w0 w : World} {sa0 : Option Addr} {sc0 : Nat} {r : List Int × Int} (H : fcs_Check.f k a0 a1 = some r) (HS : Sep.St [R] w0 w) (hr0 : rdC R 1 (.slice sa0 a0.length sc0) a0.length (a0.map (Value.int .u8))) : Calls Tryz.prog 302 #[vs sa0 a0.length sc0, vb a1] w (Ret fun u w => ∃ (aq0 : Option Addr) (cq0 : Nat), u = Value.tuple #[vs aq0 r.1.length cq0, vi r.2] ∧ Sep.St [row 5 1 (.slice aq0 r.1.length cq0) r.1.length (r.1.map (Value.int .u8)), R] w0 w) := by
 unfold fcs_Check.f at H
 refine calls_enter func302 rfl rfl ?_
 have H : _ = some r := H
 refine V.seq (V.region (W.as rfl (W.as rfl (W.nx (V.seq (V.region (W.mv rfl (W.r (X.lenSl underlying48 rfl) rfl (W.mv rfl ?_)))))))))
 obtain ⟨t1, A2, H⟩ := bind_s H
 refine W.e (Y.cl func267 (fcs_tail.calls A2 HS.j0 (rdC.nil rfl))) rfl ?_
 rintro _ w ⟨at1_0, ct1_0, rfl, HS⟩
 replace HS := HS.o1
 refine W.r (X.lenSl underlying48 rfl) rfl (W.r (X.sub rfl rfl) rfl (W.as rfl (W.nx (V.seq (V.seq (V.region (W.mv rfl (W.r (X.cmp (decide ((w64 ((a0.length : Int) - (t1.length : Int))) < 0)) rfl rfl rfl rfl) rfl (W.nx ?_)))))))))
 by_cases c4 : (w64 ((a0.length : Int) - (t1.length : Int))) < 0
 ·replace H := ite_t c4 H
  refine V.condT (sb (dT c4)) (V.seq (V.region (W.as rfl (W.as rfl (W.nx (V.ret (At.thenRet ?_)))))))
  replace HS := row_nilF (Value.int .u8) 5 1 HS
  replace HS := HS.pk [0, 2] [1]
  cases H
  exact At.ret2 rfl rfl rfl ⟨_, rfl, none, 0, rfl, HS⟩
 ·replace H := ite_f c4 H
  refine V.condF (sb (dF c4)) (V.skip (At.next (V.seq (V.seq ?_))))
  obtain ⟨c5, H⟩ := ite_n H
  obtain ⟨c6, H⟩ := ite_n H
  refine V.dr [4, 8] [9] [(15, vs sa0 a0.length sc0), (16, vi (w64 ((a0.length : Int) - (t1.length : Int)))), (17, vs (vaddr sa0 sc0 (0 : Int).toNat 1) (cut a0 (0 : Int) (w64 ((a0.length : Int) - (t1.length : Int)))).length (sc0 - (0 : Int).toNat)), (18, vb a1), (20, vs sa0 a0.length sc0), (21, vi (w64 ((a0.length : Int) - (t1.length : Int)))), (22, vs (vaddr sa0 sc0 (w64 ((a0.length : Int) - (t1.length : Int))).toNat 1) (cut a0 (w64 ((a0.length : Int) - (t1.length : Int))) (a0.length : Int)).length (sc0 - (w64 ((a0.length : Int) - (t1.length : Int))).toNat))] mo HS ?_
  refine T.ev [(17, _), (18, _)] [9] [0, 1, 2, 3] ⟨rfl, rfl, tv⟩ ⟨.mv 0, .mv 6, .n2 15 16 rfl rfl rfl (fun w HS => X.slH underlying48 inf5 rfl rfl c5 (rdC.at 1 hr0 HS rfl).cap), .mv 1, .mv 0, .mv 6, .n2 20 21 rfl rfl rfl (fun w HS => X.slL underlying48 inf5 rfl rfl c6), tv⟩ rfl (fun w HS => ?_)
  obtain ⟨t7, A8, H⟩ := bind_s H
  refine ⟨_, Y.cl func267 (fcs_tail.calls A8 HS.j0 (rdC.part 1 (rdC.subM hr0 c5) rfl)), ?_⟩
  rintro _ w ⟨at7_0, ct7_0, rfl, HS⟩
  replace HS := HS.o1
  refine T.nw HS ?_
  refine T.ev [(19, _), (22, _)] [] [5, 6, 7] ⟨rfl, rfl, tv⟩ ⟨.mv 0, .mv 6, .n2 20 21 rfl rfl rfl (fun w HS => X.slL underlying48 inf5 rfl rfl c6), tv⟩ rfl (fun w HS => ?_)
  obtain ⟨t9, A10, H⟩ := bind_s H
  refine ⟨_, Y.cl func314 (slices_Equal_Sbytebyte.calls A10 HS.j0 (rdC.part 0 row_rd rfl) (rdC.part 2 (rdC.subM hr0 c6) rfl)), ?_⟩
  rintro _ w ⟨rfl, HS⟩
  replace HS := HS.o0
  refine T.nm [(23, vb t9), (24, vb (!t9))] HS ⟨.inl ⟨rfl, rfl⟩, ⟨.inr ⟨by decide, rfl⟩, tv⟩⟩ ?_
  refine T.fn [(0, _), (6, _), (24, _)] ⟨rfl, rfl, rfl, tv⟩ ⟨.n1 23 rfl rfl (fun w HS => X.not rfl), tv⟩ (fun w HS => ?_)
  refine At.next ?_
  by_cases c11 : t9 = true
  ·replace H := ite_t c11 H
   refine V.condF (sb (n_t c11)) (V.skip (At.next (V.seq (V.region (W.mv rfl (W.mv rfl (W.r (X.slH underlying48 inf5 rfl rfl c5 (rdC.at 2 hr0 HS rfl).cap) rfl ?_)))))))
   obtain ⟨t12, A13, H⟩ := bind_s H
   refine W.e (Y.cl func127 (slices_Clone_Sbytebyte.calls A13 HS.j0 (rdC.part 2 (rdC.subM hr0 c5) rfl))) rfl ?_
   rintro _ w ⟨at12_0, ct12_0, rfl, HS⟩
   replace HS := HS.o1
   refine W.as rfl (W.as rfl (W.nx (V.ret ?_)))
   replace HS := HS.pk [0, 3] [1, 2]
   cases H
   exact At.ret2 rfl rfl rfl ⟨_, rfl, at12_0, ct12_0, rfl, HS⟩
  ·replace H := ite_f c11 H
   refine V.condT (sb (n_f (b_f c11))) (V.seq (V.region (W.as rfl (W.as rfl (W.nx (V.ret (At.thenRet ?_)))))))
   replace HS := row_nilF (Value.int .u8) 5 1 HS
   replace HS := HS.pk [0, 3] [1, 2]
   cases H
   exact At.ret2 rfl rfl rfl ⟨_, rfl, none, 0, rfl, HS⟩
def frame_Reader_ends.f (k : Nat) (a0 : frame_Reader) : Option (Int × List Int) := ((frame_size.f k a0.wide).bind fun t3 => (if (a0.b.length : Int) ≤ t3 then some (2, ([] : List Int)) else ((fcs_Check.f k a0.b a0.wide).bind fun t6 => (if t6.2 = 0 then some (1, t6.1) else some (4, ([] : List Int))))))
theorem frame_Reader_ends.calls {k : Nat} {a0 : frame_Reader} {R : As} {w0 w : World} {b0 : Nat} {a3_p0 : Option Addr} {c3_p0 : Nat} {r : Int × List Int} (H : frame_Reader_ends.f k a0 = some r) (HS : Sep.St [blk b0 (#[vb a0.wide, vi a0.most, vi a0.state, vs a3_p0 a0.b.length c3_p0]) 202, row 5 1 (.slice a3_p0 a0.b.length c3_p0) a0.b.length (a0.b.map (Value.int .u8)), R] w0 w)  : Calls Tryz.prog 274 #[pt b0] w (Ret fun u w => ∃ (aq1 : Option Addr) (cq1 : Nat), u = Value.tuple #[vi r.1, vs aq1 r.2.length cq1] ∧ Sep.St [row 5 1 (.slice aq1 r.2.length cq1) r.2.length (r.2.map (Value.int .u8)), blk b0 (#[vb a0.wide, vi a0.most, vi a0.state, vs a3_p0 a0.b.length c3_p0]) 202, row 5 1 (.slice a3_p0 a0.b.length c3_p0) a0.b.length (a0.b.map (Value.int .u8)), R] w0 w) := by
 unfold frame_Reader_ends.f at H
 refine calls_enter func274 rfl rfl ?_
 have H : _ = some r := H
 refine V.seq (V.region (W.as rfl (W.as rfl (W.nx (V.seq (V.seq (V.dr [9] [10] [(6, pt b0), (7, pt b0), (8, po b0 (0 + 3)), (9, vs a3_p0 a0.b.length c3_p0), (10, vi (a0.b.length : Int)), (11, pt b0), (12, pt b0), (13, po b0 (0 + 0)), (14, vb a0.wide)] mo HS ?_)))))))
 refine T.ev [(14, _)] [] [5, 6, 7, 8] ⟨rfl, tv⟩ ⟨.mv 0, .nc 6, .fa 7 fo202_3, .ld 8 0 underlying48, .n1 9 rfl rfl (fun w HS => X.lenSl underlying48 rfl), .mv 0, .nc 11, .fa 12 fo202_0, .ld 13 0 underlying4, tv⟩ rfl (fun w HS => ?_)
 obtain ⟨t3, A4, H⟩ := bind_s H
 refine ⟨_, Y.cl func169 (frame_size.calls A4 HS.j0), ?_⟩
 rintro _ w ⟨rfl, HS⟩
 replace HS := HS.o0
 refine T.nm [(15, vi t3), (16, vb (decide ((a0.b.length : Int) ≤ t3)))] HS ⟨.inl ⟨rfl, rfl⟩, ⟨.inr ⟨by decide, rfl⟩, tv⟩⟩ ?_
 refine T.fn [(0, _), (16, _)] ⟨rfl, rfl, tv⟩ ⟨.mv 0, .nc 6, .fa 7 fo202_3, .ld 8 0 underlying48, .n1 9 rfl rfl (fun w HS => X.lenSl underlying48 rfl), .n2 10 15 rfl rfl rfl (fun w HS => X.cmp (decide ((a0.b.length : Int) ≤ t3)) rfl rfl rfl rfl), tv⟩ (fun w HS => ?_)
 refine At.next ?_
 by_cases c5 : (a0.b.length : Int) ≤ t3
 ·replace H := ite_t c5 H
  refine V.condT (sb (dT c5)) (V.seq (V.region (W.as rfl (W.as rfl (W.nx (V.ret (At.thenRet ?_)))))))
  replace HS := row_nilF (Value.int .u8) 5 1 HS
  cases H
  exact At.ret2 rfl rfl rfl ⟨_, rfl, none, 0, rfl, HS⟩
 ·replace H := ite_f c5 H
  refine V.condF (sb (dF c5)) (V.skip (At.next (V.seq (V.dr [8] [9, 10, 11, 12, 13] [(18, pt b0), (19, pt b0), (20, po b0 (0 + 3)), (21, vs a3_p0 a0.b.length c3_p0), (22, pt b0), (23, pt b0), (24, po b0 (0 + 0)), (25, vb a0.wide)] mo HS ?_))))
  refine T.ev [(21, _), (25, _)] [] [0, 1, 2, 3, 4, 5, 6, 7] ⟨rfl, rfl, tv⟩ ⟨.mv 0, .nc 18, .fa 19 fo202_3, .ld 20 0 underlying48, .mv 0, .nc 22, .fa 23 fo202_0, .ld 24 0 underlying4, tv⟩ rfl (fun w HS => ?_)
  obtain ⟨t6, A7, H⟩ := bind_s H
  refine ⟨_, Y.cl func302 (fcs_Check.calls A7 HS.j0 (rdC.part 1 row_rd rfl)), ?_⟩
  rintro _ w ⟨at6_0, ct6_0, rfl, HS⟩
  replace HS := HS.o1
  refine T.nm [(26, Value.tuple #[vs at6_0 t6.1.length ct6_0, vi t6.2]), (17, Value.tuple #[vs at6_0 t6.1.length ct6_0, vi t6.2]), (27, vs at6_0 t6.1.length ct6_0), (28, vi t6.2), (4, vs at6_0 t6.1.length ct6_0), (5, vi t6.2)] HS ⟨.inl ⟨rfl, rfl⟩, ⟨.inr ⟨by decide, rfl⟩, ⟨.inr ⟨by decide, rfl⟩, ⟨.inr ⟨by decide, rfl⟩, ⟨.inr ⟨by decide, rfl⟩, ⟨.inr ⟨by decide, rfl⟩, tv⟩⟩⟩⟩⟩⟩ ?_
  refine T.fn [(4, _), (5, _)] ⟨rfl, rfl, tv⟩ ⟨.mv 26, .n1 17 rfl rfl (fun w HS => X.extract rfl rfl), .n1 17 rfl rfl (fun w HS => X.extract rfl rfl), .as 27, .as 28, tv⟩ (fun w HS => ?_)
  refine At.next (V.seq (V.seq (V.region (W.mv rfl (W.r (X.cmp (!(decide (t6.2 = 0))) rfl rfl rfl rfl) rfl (W.nx ?_))))))
  by_cases c8 : t6.2 = 0
  ·replace H := ite_t c8 H
   refine V.condF (sb (n_t (dT c8))) (V.skip (At.next (V.seq (V.region (W.mv rfl (W.as rfl (W.as rfl (W.nx (V.ret ?_)))))))))
   cases H
   exact At.ret2 rfl rfl rfl ⟨_, rfl, at6_0, ct6_0, rfl, HS⟩
  ·replace H := ite_f c8 H
   refine V.condT (sb (n_f (dF c8))) (V.seq (V.region (W.as rfl (W.as rfl (W.nx (V.ret (At.thenRet ?_)))))))
   replace HS := row_nilF (Value.int .u8) 5 1 HS
   replace HS := HS.pk [0, 2, 3, 4] [1]
   cases H
   exact At.ret2 rfl rfl rfl ⟨_, rfl, none, 0, rfl, HS⟩
def frame_Reader_flag.f (k : Nat) (a0 : frame_Reader) : Option (Int × List Int × frame_Reader) := (if a0.state = 2 then ((frame_Reader_ends.f k a0).bind fun t4 => some (t4.1, t4.2, ({ a0 with state := 1, b := ([] : List Int) } : frame_Reader))) else (if a0.state = 3 then some (5, ([] : List Int), ({ a0 with state := 1, b := ([] : List Int) } : frame_Reader)) else (if a0.state = 4 then some (3, ([] : List Int), ({ a0 with state := 1, b := ([] : List Int) } : frame_Reader)) else some (0, ([] : List Int), ({ a0 with state := 1, b := ([] : List Int) } : frame_Reader)))))
theorem frame_Reader_flag.calls {k : Nat} {a0 : frame_Reader} {R : As} {w0 w : World} {b0 : Nat} {r : Int × List Int × frame_Reader} (H : frame_Reader_flag.f k a0 = some r) (HS : Sep.St [frame_Reader.at b0 a0, R] w0 w)  : Calls Tryz.prog 239 #[pt b0] w (Ret fun u w => ∃ (aq1 : Option Addr) (cq1 : Nat), u = Value.tuple #[vi r.1, vs aq1 r.2.1.length cq1] ∧ Sep.St [row 5 1 (.slice aq1 r.2.1.length cq1) r.2.1.length (r.2.1.map (Value.int .u8)), frame_Reader.at b0 r.2.2, R] w0 w) := by
 unfold frame_Reader_flag.f at H
 refine calls_enter func239 rfl rfl ?_
 have H : _ = some r := H
 refine V.seq (V.region (W.as rfl (W.as rfl (W.nx (V.seq (V.region (W.as rfl (W.as rfl (W.nx (V.seq (V.seq (V.region (W.mv rfl (W.nc rfl ?_))))))))))))))
 obtain ⟨a3_1, c3_1, hi2, HS⟩ := frame_Reader.open HS
 refine W.fa fo202_2 rfl (W.ld 0 HS underlying3 rfl rfl rfl rfl (W.nx (V.block (V.seq (V.region (W.r (X.cmp (decide (a0.state = 2)) rfl rfl rfl rfl) rfl (W.as rfl (W.nx ?_))))))))
 by_cases c3 : a0.state = 2
 ·replace H := ite_t c3 H
  refine V.condT (sb (dT c3)) (V.region (W.mv rfl ?_))
  obtain ⟨t4, A5, H⟩ := bind_s H
  refine W.e (Y.cl func274 (frame_Reader_ends.calls A5 HS.j2)) rfl ?_
  rintro _ w ⟨at4_1, ct4_1, rfl, HS⟩
  replace HS := HS.o3
  refine W.mv rfl (W.r (X.extract rfl rfl) rfl (W.r (X.extract rfl rfl) rfl (W.as rfl (W.as rfl (W.nil (At.blockEnd (At.next (V.seq (V.region (W.mv rfl (W.mv rfl (W.nc rfl (W.fa fo202_2 rfl (W.st 1 2 HS inf3 rfl rfl rfl rfl rfl rfl fun w HS => ?_))))))))))))))
  refine W.nc rfl (W.fa fo202_3 rfl (W.st 1 3 HS inf48 rfl rfl rfl rfl rfl rfl fun w HS => ?_))
  refine W.nx (V.seq (V.region (W.mv rfl (W.mv rfl (W.as rfl (W.as rfl (W.nx (V.ret ?_))))))))
  replace HS := row_nilF (Value.int .u8) 5 1 HS
  replace HS := HS.pm [2, 0, 1, 3, 4]
  replace HS := frame_Reader.close (l3 := ([] : List Int)) tv HS
  replace HS := HS.pk [1, 0, 3] [2]
  cases H
  exact At.ret2 rfl rfl rfl ⟨_, rfl, at4_1, ct4_1, rfl, HS⟩
 ·replace H := ite_f c3 H
  refine V.condF (sb (dF c3)) (V.seq (V.region (W.r (X.cmp (decide (a0.state = 3)) rfl rfl rfl rfl) rfl (W.as rfl (W.nx ?_)))))
  by_cases c6 : a0.state = 3
  ·replace H := ite_t c6 H
   refine V.condT (sb (dT c6)) (V.region (W.as rfl (W.nil (At.blockEnd (At.next (V.seq (V.region (W.mv rfl (W.mv rfl (W.nc rfl (W.fa fo202_2 rfl (W.st 0 2 HS inf3 rfl rfl rfl rfl rfl rfl fun w HS => ?_))))))))))))
   refine W.nc rfl (W.fa fo202_3 rfl (W.st 0 3 HS inf48 rfl rfl rfl rfl rfl rfl fun w HS => ?_))
   refine W.nx (V.seq (V.region (W.mv rfl (W.mv rfl (W.as rfl (W.as rfl (W.nx (V.ret ?_))))))))
   replace HS := row_nilF (Value.int .u8) 5 1 HS
   replace HS := row_nilF (Value.int .u8) 5 1 HS
   replace HS := HS.pm [2, 0, 1, 3, 4]
   replace HS := frame_Reader.close (l3 := ([] : List Int)) tv HS
   replace HS := HS.pk [1, 0, 3] [2]
   cases H
   exact At.ret2 rfl rfl rfl ⟨_, rfl, none, 0, rfl, HS⟩
  ·replace H := ite_f c6 H
   refine V.condF (sb (dF c6)) (V.seq (V.region (W.r (X.cmp (decide (a0.state = 4)) rfl rfl rfl rfl) rfl (W.as rfl (W.nx ?_)))))
   by_cases c7 : a0.state = 4
   ·replace H := ite_t c7 H
    refine V.condT (sb (dT c7)) (V.region (W.as rfl (W.nil (At.blockEnd (At.next (V.seq (V.region (W.mv rfl (W.mv rfl (W.nc rfl (W.fa fo202_2 rfl (W.st 0 2 HS inf3 rfl rfl rfl rfl rfl rfl fun w HS => ?_))))))))))))
    refine W.nc rfl (W.fa fo202_3 rfl (W.st 0 3 HS inf48 rfl rfl rfl rfl rfl rfl fun w HS => ?_))
    refine W.nx (V.seq (V.region (W.mv rfl (W.mv rfl (W.as rfl (W.as rfl (W.nx (V.ret ?_))))))))
    replace HS := row_nilF (Value.int .u8) 5 1 HS
    replace HS := row_nilF (Value.int .u8) 5 1 HS
    replace HS := HS.pm [2, 0, 1, 3, 4]
    replace HS := frame_Reader.close (l3 := ([] : List Int)) tv HS
    replace HS := HS.pk [1, 0, 3] [2]
    cases H
    exact At.ret2 rfl rfl rfl ⟨_, rfl, none, 0, rfl, HS⟩
   ·replace H := ite_f c7 H
    refine V.condF (sb (dF c7)) (V.skip (At.blockEnd (At.next (V.seq (V.region (W.mv rfl (W.mv rfl (W.nc rfl (W.fa fo202_2 rfl (W.st 0 2 HS inf3 rfl rfl rfl rfl rfl rfl fun w HS => ?_))))))))))
    refine W.nc rfl (W.fa fo202_3 rfl (W.st 0 3 HS inf48 rfl rfl rfl rfl rfl rfl fun w HS => ?_))
    refine W.nx (V.seq (V.region (W.mv rfl (W.mv rfl (W.as rfl (W.as rfl (W.nx (V.ret ?_))))))))
    replace HS := row_nilF (Value.int .u8) 5 1 HS
    replace HS := row_nilF (Value.int .u8) 5 1 HS
    replace HS := HS.pm [2, 0, 1, 3, 4]
    replace HS := frame_Reader.close (l3 := ([] : List Int)) tv HS
    replace HS := HS.pk [1, 0, 3] [2]
    cases H
    exact At.ret2 rfl rfl rfl ⟨_, rfl, none, 0, rfl, HS⟩
def frame_Reader_take.f (a0 : frame_Reader) (a1 : Int) : Option frame_Reader := (if (a0.b.length : Int) + ([a1] : List Int).length ≤ 1099511627776 then (if ((a0.b ++ ([a1] : List Int)).length : Int) > a0.most then some (({ a0 with state := 4, b := a0.b ++ ([a1] : List Int) } : frame_Reader)) else some (({ a0 with state := 2, b := a0.b ++ ([a1] : List Int) } : frame_Reader))) else none)
theorem frame_Reader_take.calls {a0 : frame_Reader} {a1 : Int} {R : As} {w0 w : World} {b0 : Nat} {r : frame_Reader} (H : frame_Reader_take.f a0 a1 = some r) (HS : Sep.St [frame_Reader.at b0 a0, R] w0 w)  : Calls Tryz.prog 240 #[pt b0, Value.int .u8 a1] w (Ret fun u w => u = Value.tuple #[] ∧ Sep.St [frame_Reader.at b0 r, R] w0 w) := by
 unfold frame_Reader_take.f at H
 refine calls_enter func240 rfl rfl ?_
 have H : _ = some r := H
 refine V.seq (V.region (W.mv rfl (W.mv rfl (W.nc rfl ?_))))
 obtain ⟨a3_1, c3_1, hi2, HS⟩ := frame_Reader.open HS
 refine W.fa fo202_3 rfl (W.ld 0 HS underlying48 rfl rfl rfl rfl (W.mv rfl (W.e (Y.ls (e := 5) (Value.int .u8) ([a1] : List Int) HS rfl rfl (fun _ => by kernel_rfl)) rfl ?_)))
 rintro _ w ⟨lb5, rfl, HS⟩
 obtain ⟨c6, H⟩ := ite_n H
 refine W.e (Y.appF (Value.int .u8) (fun _ => rfl) 2 underlying48 ap5 rfl HS rfl rfl rfl (rdC.at 0 row_rd HS rfl) (by omega) (by omega)) rfl ?_
 rintro _ w ⟨ra7, rc8, rfl, HS⟩
 refine W.nc rfl (W.fa fo202_3 rfl (W.st 1 3 HS inf48 rfl rfl rfl rfl rfl rfl fun w HS => ?_))
 refine W.nx (V.seq (V.region (W.mv rfl (W.nc rfl (W.fa fo202_2 rfl (W.st 1 2 HS inf3 rfl rfl rfl rfl rfl rfl fun w HS => ?_))))))
 refine W.nx (V.seq (V.dr [] [] [(17, pt b0), (18, pt b0), (19, po b0 (0 + 3)), (20, vs ra7 (a0.b ++ ([a1] : List Int)).length rc8), (21, vi (((a0.b ++ ([a1] : List Int)).length : Int))), (22, pt b0), (23, pt b0), (24, po b0 (0 + 1)), (25, vi a0.most), (26, vb (decide (((a0.b ++ ([a1] : List Int)).length : Int) > a0.most)))] mo HS ?_))
 refine T.fn [(0, _), (26, _)] ⟨rfl, rfl, tv⟩ ⟨.mv 0, .nc 17, .fa 18 fo202_3, .ld 19 1 underlying48, .n1 20 rfl rfl (fun w HS => X.lenSl underlying48 rfl), .mv 0, .nc 22, .fa 23 fo202_1, .ld 24 1 underlying3, .n2 21 25 rfl rfl rfl (fun w HS => X.cmp (decide (((a0.b ++ ([a1] : List Int)).length : Int) > a0.most)) rfl rfl rfl rfl), tv⟩ (fun w HS => ?_)
 refine At.next ?_
 by_cases c9 : ((a0.b ++ ([a1] : List Int)).length : Int) > a0.most
 ·replace H := ite_t c9 H
  refine V.condT (sb (dT c9)) (V.region (W.mv rfl (W.nc rfl (W.fa fo202_2 rfl (W.st 1 2 HS inf3 rfl rfl rfl rfl rfl rfl fun w HS => ?_)))))
  refine W.nil ?_
  replace HS := HS.pm [1, 2, 0, 3]
  replace HS := frame_Reader.close tv HS
  replace HS := HS.pk [0, 2] [1]
  cases H
  exact At.end0 rfl ⟨_, rfl, rfl, HS⟩
 ·replace H := ite_f c9 H
  refine V.condF (sb (dF c9)) (V.skip ?_)
  replace HS := HS.pm [1, 2, 0, 3]
  replace HS := frame_Reader.close tv HS
  replace HS := HS.pk [0, 2] [1]
  cases H
  exact At.end0 rfl ⟨_, rfl, rfl, HS⟩
mutual
def frame_Reader_Push.j0 (a0 : frame_Reader) (a1 : Int) (x8 : Bool) : Option (Int × List Int × frame_Reader) := (if x8 = true then some (0, ([] : List Int), a0) else (if a0.state = 3 then ((frame_Reader_take.f a0 (ixor .u8 a1 (32))).bind fun t12 => some (0, ([] : List Int), t12)) else (if a1 = 125 then some (0, ([] : List Int), ({ a0 with state := 3 } : frame_Reader)) else ((frame_Reader_take.f a0 a1).bind fun t17 => some (0, ([] : List Int), t17)))))
end
def frame_Reader_Push.f (k : Nat) (a0 : frame_Reader) (a1 : Int) : Option (Int × List Int × frame_Reader) := (if a1 = 126 then ((frame_Reader_flag.f k a0).bind fun t3 => some (t3.1, t3.2.1, t3.2.2)) else (if a0.state = 0 then (frame_Reader_Push.j0 a0 a1 (decide (a0.state = 0))) else (frame_Reader_Push.j0 a0 a1 (decide (a0.state = 4)))))
theorem frame_Reader_Push.calls {k : Nat} {a0 : frame_Reader} {a1 : Int} {R : As} {w0 w : World} {b0 : Nat} {r : Int × List Int × frame_Reader} (H : frame_Reader_Push.f k a0 a1 = some r) (HS : Sep.St [frame_Reader.at b0 a0, R] w0 w)  : Calls Tryz.prog 192 #[pt b0, Value.int .u8 a1] w (Ret fun u w => ∃ (aq1 : Option Addr) (cq1 : Nat), u = Value.tuple #[vi r.1, vs aq1 r.2.1.length cq1] ∧ Sep.St [row 5 1 (.slice aq1 r.2.1.length cq1) r.2.1.length (r.2.1.map (Value.int .u8)), frame_Reader.at b0 r.2.2, R] w0 w) := by
 unfold frame_Reader_Push.f at H
 refine calls_enter func192 rfl rfl ?_
 have H : _ = some r := H
 refine V.seq (V.region (W.as rfl (W.as rfl (W.nx (V.scope 1 (V.seq (V.seq (V.region (W.mv rfl (W.r (X.cmp (decide (a1 = 126)) rfl rfl rfl rfl) rfl (W.nx ?_)))))))))))
 by_cases c2 : a1 = 126
 ·replace H := ite_t c2 H
  refine V.condT (sb (dT c2)) (V.seq (V.region (W.mv rfl ?_)))
  obtain ⟨t3, A4, H⟩ := bind_s H
  refine W.e (Y.cl func239 (frame_Reader_flag.calls A4 HS.j1)) rfl ?_
  rintro _ w ⟨at3_1, ct3_1, rfl, HS⟩
  replace HS := HS.o2
  refine W.r (X.extract rfl rfl) rfl (W.r (X.extract rfl rfl) rfl (W.as rfl (W.as rfl (W.nx (V.ret (At.thenRet (At.scopeRet ?_)))))))
  cases H
  exact At.ret2 rfl rfl rfl ⟨_, rfl, at3_1, ct3_1, rfl, HS⟩
 ·replace H := ite_f c2 H
  refine V.condF (sb (dF c2)) (V.skip (At.next (V.seq (V.seq (V.region (W.mv rfl (W.nc rfl ?_)))))))
  obtain ⟨a3_5, c3_5, hi6, HS⟩ := frame_Reader.open HS
  refine W.fa fo202_2 rfl (W.ld 0 HS underlying3 rfl rfl rfl rfl (W.nx (V.block (V.meet (σ := Bool) (fun st w => match st with | x8 => Sep.St [frame_Reader.at b0 a0, R] w0 w ∧ frame_Reader_Push.j0 a0 a1 x8 = some r) (fun st => match st with | x8 => [(0, pt b0), (1, Value.int .u8 a1), (15, vi a0.state), (16, vb x8)]) ?_ ?_))))
  ·refine V.seq (V.region (W.r (X.cmp (decide (a0.state = 0)) rfl rfl rfl rfl) rfl (W.as rfl (W.nx ?_))))
   by_cases c19 : a0.state = 0
   ·replace H := ite_t c19 H
    refine V.condT (sb (dT c19)) (V.skip ?_)
    replace HS := frame_Reader.close tv HS
    exact At.meet (decide (a0.state = 0)) ⟨rfl, rfl, rfl, rfl, tv⟩ ⟨HS, H⟩
   ·replace H := ite_f c19 H
    refine V.condF (sb (dF c19)) (V.region (W.r (X.cmp (decide (a0.state = 4)) rfl rfl rfl rfl) rfl (W.as rfl (W.nil ?_))))
    replace HS := frame_Reader.close tv HS
    exact At.meet (decide (a0.state = 4)) ⟨rfl, rfl, rfl, rfl, tv⟩ ⟨HS, H⟩
  ·rintro x8 w ⟨HS, H⟩
   unfold frame_Reader_Push.j0 at H
   by_cases c10 : x8 = true
   ·replace H := ite_t c10 H
    refine V.condT (sb c10) (V.goto (At.blockGoto (At.thenGoto (At.jump rfl ?_))))
    refine V.seq (V.skip (At.next (V.seq (V.region (W.as rfl (W.as rfl (W.nx (V.ret (At.scopeRet ?_)))))))))
    replace HS := row_nilF (Value.int .u8) 5 1 HS
    cases H
    exact At.ret2 rfl rfl rfl ⟨_, rfl, none, 0, rfl, HS⟩
   ·replace H := ite_f c10 H
    refine V.condF (sb (b_f c10)) (V.seq (V.region (W.r (X.cmp (decide (a0.state = 3)) rfl rfl rfl rfl) rfl (W.as rfl (W.nx ?_)))))
    by_cases c11 : a0.state = 3
    ·replace H := ite_t c11 H
     refine V.condT (sb (dT c11)) (V.seq (V.region (W.mv rfl (W.r (X.xor rfl rfl) rfl (W.as rfl (W.nx (V.goto (At.blockGoto (At.thenGoto (At.jump rfl ?_))))))))))
     refine V.seq (V.skip (At.next (V.seq (V.region (W.mv rfl (W.mv rfl ?_))))))
     obtain ⟨t12, A13, H⟩ := bind_s H
     refine W.e (Y.cl func240 (frame_Reader_take.calls A13 HS.j1)) rfl ?_
     rintro _ w ⟨rfl, HS⟩
     replace HS := HS.o1
     refine W.nx (V.seq (V.label (At.next (V.seq (V.region (W.as rfl (W.as rfl (W.nx (V.ret (At.scopeRet ?_))))))))))
     replace HS := row_nilF (Value.int .u8) 5 1 HS
     cases H
     exact At.ret2 rfl rfl rfl ⟨_, rfl, none, 0, rfl, HS⟩
    ·replace H := ite_f c11 H
     refine V.condF (sb (dF c11)) (V.skip (At.blockEnd (At.next (V.seq (V.seq (V.region (W.mv rfl (W.r (X.cmp (decide (a1 = 125)) rfl rfl rfl rfl) rfl (W.nx ?_)))))))))
     by_cases c14 : a1 = 125
     ·replace H := ite_t c14 H
      refine V.condT (sb (dT c14)) (V.seq (V.region (W.mv rfl (W.nc rfl ?_))))
      obtain ⟨a3_15, c3_15, hi16, HS⟩ := frame_Reader.open HS
      refine W.fa fo202_2 rfl (W.st 0 2 HS inf3 rfl rfl rfl rfl rfl rfl fun w HS => ?_)
      refine W.nx (V.goto (At.thenGoto (At.jump rfl ?_)))
      refine V.seq (V.skip (At.next (V.seq (V.region (W.as rfl (W.as rfl (W.nx (V.ret (At.scopeRet ?_)))))))))
      replace HS := row_nilF (Value.int .u8) 5 1 HS
      replace HS := HS.pm [1, 2, 0, 3]
      replace HS := frame_Reader.close tv HS
      replace HS := HS.pk [1, 0, 2] []
      cases H
      exact At.ret2 rfl rfl rfl ⟨_, rfl, none, 0, rfl, HS⟩
     ·replace H := ite_f c14 H
      refine V.condF (sb (dF c14)) (V.skip (At.next (V.seq (V.label (At.next (V.seq (V.region (W.mv rfl (W.mv rfl ?_)))))))))
      obtain ⟨t17, A18, H⟩ := bind_s H
      refine W.e (Y.cl func240 (frame_Reader_take.calls A18 HS.j1)) rfl ?_
      rintro _ w ⟨rfl, HS⟩
      replace HS := HS.o1
      refine W.nx (V.seq (V.label (At.next (V.seq (V.region (W.as rfl (W.as rfl (W.nx (V.ret (At.scopeRet ?_))))))))))
      replace HS := row_nilF (Value.int .u8) 5 1 HS
      cases H
      exact At.ret2 rfl rfl rfl ⟨_, rfl, none, 0, rfl, HS⟩
def station_one.f (a0 : Int) : Int := imin (w64 (a0 + 1)) (4294967295)
theorem station_one.cell {L : List As} {w0 w : World} (j z : Nat) {b o : Nat} {c c' : Array Value} {e : TypeId} {v : Int} {L' : List As} (HS : Sep.St L w0 w) (hL : L[j]? = some (blk b c e)) (hc : c[z]? = some (vi v)) (ho : o = z)
  [q : SetA c z (vi (station_one.f v)) c'] [r : SetL L j (blk b c' e) L'] : Calls Tryz.prog 193 #[po b o] w (Ret fun u w => u = Value.tuple #[] ∧ Sep.St L' w0 w) := by
 subst ho
 refine calls_enter func193 rfl rfl ?_
 exact V.region (W.rd (X.move rfl) rfl rfl rfl (W.rd (X.move rfl) rfl rfl rfl (W.rd (X.nilCheck rfl) rfl rfl rfl (W.rd (X.loadAt j HS hL underlying3 rfl rfl hc) rfl rfl rfl (W.rd (X.add rfl rfl) rfl rfl rfl (W.rd (X.min2 rfl rfl) rfl rfl rfl (W.rd (X.nilCheck rfl) rfl rfl rfl (W.ev_none (Y.storeAt j HS hL inf3 rfl rfl rfl hc q.h r.h) rfl rfl fun _ w HS => W.nil (At.end0 rfl ⟨_, rfl, rfl, HS⟩)))))))))
def tally_one.f (a0 : Bool) : Option (Nat × Nat) := (if a0 = true then some (((4607182418800017408, 0) : Nat × Nat)) else some (((0, 4607182418800017408) : Nat × Nat)))
theorem tally_one.calls {a0 : Bool} {R : As} {w0 w : World}  {r : (Nat × Nat)} (H : tally_one.f a0 = some r) (HS : Sep.St [R] w0 w)  : Calls Tryz.prog 275 #[vb a0] w (Ret fun u w => u = Value.complex .f64 r.1 r.2 ∧ Sep.St [R] w0 w) := by
 unfold tally_one.f at H
 refine calls_enter func275 rfl rfl ?_
 have H : _ = some r := H
 refine V.seq (V.region (W.as rfl (W.nx (V.seq (V.seq (V.region (W.mv rfl (W.nx ?_))))))))
 by_cases c1 : a0 = true
 ·replace H := ite_t c1 H
  refine V.condT (sb c1) (V.seq (V.region (W.as rfl (W.nx (V.ret (At.thenRet ?_))))))
  cases H
  exact At.ret1 rfl rfl ⟨_, rfl, rfl, HS⟩
 ·replace H := ite_f c1 H
  refine V.condF (sb (b_f c1)) (V.skip (At.next (V.seq (V.region (W.as rfl (W.nx (V.ret ?_)))))))
  cases H
  exact At.ret1 rfl rfl ⟨_, rfl, rfl, HS⟩
mutual
def tally_Window_Note.j0 (a1 : Bool) (x2 : tally_Window) : Option tally_Window := (if 0 ≤ x2.at_ ∧ x2.at_ < (x2.l.length : Int) then ((tally_one.f a1).bind fun t9 => ((cxop .add x2.sum t9).bind fun t11 => (if ¬ (((x2.l.set x2.at_.toNat a1).length : Int) = 0) then some (({ l := x2.l.set x2.at_.toNat a1, at_ := (w64 (x2.at_ + 1)).tmod (((x2.l.set x2.at_.toNat a1).length : Int)), kept := x2.kept, sum := t11 } : tally_Window)) else none))) else none)
end
def tally_Window_Note.f (a0 : tally_Window) (a1 : Bool) : Option tally_Window := (if a0.kept = (a0.l.length : Int) then (if 0 ≤ a0.at_ ∧ a0.at_ < (a0.l.length : Int) then ((tally_one.f (a0.l.getD a0.at_.toNat false)).bind fun t20 => ((cxop .sub a0.sum t20).bind fun t22 => (tally_Window_Note.j0 a1 ({ a0 with sum := t22 } : tally_Window)))) else none) else (tally_Window_Note.j0 a1 ({ a0 with kept := w64 (a0.kept + 1) } : tally_Window)))
theorem tally_Window_Note.calls {a0 : tally_Window} {a1 : Bool} {R : As} {w0 w : World} {b0 : Nat} {r : tally_Window} (H : tally_Window_Note.f a0 a1 = some r) (HS : Sep.St [tally_Window.at b0 a0, R] w0 w)  : Calls Tryz.prog 241 #[pt b0, vb a1] w (Ret fun u w => u = Value.tuple #[] ∧ Sep.St [tally_Window.at b0 r, R] w0 w) := by
 unfold tally_Window_Note.f at H
 refine calls_enter func241 rfl rfl ?_
 have H : _ = some r := H
 refine V.meet (σ := tally_Window) (fun st w => match st with | x2 => Sep.St [tally_Window.at b0 x2, R] w0 w ∧ tally_Window_Note.j0 a1 x2 = some r) (fun st => match st with | x2 => [(0, pt b0), (1, vb a1)]) ?_ ?_
 ·refine V.seq ?_
  obtain ⟨a0_14, c0_14, hi15, HS⟩ := tally_Window.open HS
  refine V.dr [] [] [(4, pt b0), (5, pt b0), (6, po b0 (0 + 2)), (7, vi a0.kept), (8, pt b0), (9, pt b0), (10, po b0 (0 + 0)), (11, vs a0_14 a0.l.length c0_14), (12, vi (a0.l.length : Int)), (13, vb (decide (a0.kept = (a0.l.length : Int))))] mo HS ?_
  refine T.fn [(0, _), (1, _), (13, _)] ⟨rfl, rfl, rfl, tv⟩ ⟨.mv 0, .nc 4, .fa 5 fo256_2, .ld 6 0 underlying3, .mv 0, .nc 8, .fa 9 fo256_0, .ld 10 0 underlying172, .n1 11 rfl rfl (fun w HS => X.lenSl underlying172 rfl), .n2 7 12 rfl rfl rfl (fun w HS => X.cmp (decide (a0.kept = (a0.l.length : Int))) rfl rfl rfl rfl), tv⟩ (fun w HS => ?_)
  refine At.next ?_
  by_cases c16 : a0.kept = (a0.l.length : Int)
  ·replace H := ite_t c16 H
   refine V.condT (sb (dT c16)) ?_
   obtain ⟨c17, H⟩ := ite_n H
   obtain ⟨eb18, eo19, hh⟩ := (rdC.at 1 row_rd HS rfl).some (by decide) c17.1 c17.2; subst hh
   refine V.dr [14, 18] [15, 16, 17] [(14, pt b0), (15, pt b0), (16, po b0 (0 + 3)), (17, Value.complex .f64 a0.sum.1 a0.sum.2), (18, pt b0), (19, pt b0), (20, po b0 (0 + 0)), (21, vs (some ⟨eb18, eo19, none⟩) a0.l.length c0_14), (22, pt b0), (23, pt b0), (24, po b0 (0 + 1)), (25, vi a0.at_), (26, po eb18 (eo19 + a0.at_.toNat * 1)), (27, vb (a0.l.getD a0.at_.toNat false))] mo HS ?_
   refine T.ev [(27, _)] [] [4, 5, 6, 7, 8, 9, 10, 11, 12, 13] ⟨rfl, tv⟩ ⟨.mv 0, .nc 14, .fa 15 fo256_3, .ld 16 0 underlying254, .mv 0, .nc 18, .fa 19 fo256_0, .ld 20 0 underlying172, .mv 0, .nc 22, .fa 23 fo256_1, .ld 24 0 underlying3, .n2 21 25 rfl rfl rfl (fun w HS => X.indexSl underlying172 inf4 rfl rfl c17.1 c17.2), .n1 26 rfl rfl (fun w HS => X.load underlying4 rfl rfl ((rdC.at 1 row_rd HS rfl).cellB c17.1 c17.2)), tv⟩ rfl (fun w HS => ?_)
   obtain ⟨t20, A21, H⟩ := bind_s H
   refine ⟨_, Y.cl func275 (tally_one.calls A21 HS.j0), ?_⟩
   rintro _ w ⟨rfl, HS⟩
   replace HS := HS.o0
   obtain ⟨t22, A23, H⟩ := bind_s H
   refine T.nm [(28, Value.complex .f64 t20.1 t20.2), (29, Value.complex .f64 t22.1 t22.2), (30, pt b0), (31, po b0 (0 + 3))] HS ⟨.inl ⟨rfl, rfl⟩, ⟨.inr ⟨by decide, rfl⟩, ⟨.inr ⟨by decide, rfl⟩, ⟨.inr ⟨by decide, rfl⟩, tv⟩⟩⟩⟩ ?_
   refine T.ev [(29, _), (31, _)] [] [0, 1, 2, 3, 15, 16, 17] ⟨rfl, rfl, tv⟩ ⟨.mv 0, .nc 14, .fa 15 fo256_3, .ld 16 0 underlying254, .n2 17 28 rfl rfl rfl (fun w HS => X.cxop A23 rfl rfl), .nc 14, .fa 30 fo256_3, tv⟩ rfl (fun w HS => ?_)
   refine ⟨_, Y.sto 0 3 HS inf254 rfl rfl rfl rfl rfl rfl, ?_⟩
   rintro _ w HS
   refine T.nn HS ?_
   refine T.fn [(0, _), (1, _)] ⟨rfl, rfl, tv⟩ tv (fun w HS => ?_)
   replace HS := tally_Window.close tv HS
   exact At.meet ({ a0 with sum := t22 } : tally_Window) ⟨rfl, rfl, tv⟩ ⟨HS, H⟩
  ·replace H := ite_f c16 H
   refine V.condF (sb (dF c16)) (V.region (W.mv rfl (W.nc rfl (W.fa fo256_2 rfl (W.ld 0 HS underlying3 rfl rfl rfl rfl (W.r (X.add rfl rfl) rfl (W.nc rfl (W.fa fo256_2 rfl (W.st 0 2 HS inf3 rfl rfl rfl rfl rfl rfl fun w HS => ?_)))))))))
   refine W.nil ?_
   replace HS := tally_Window.close tv HS
   exact At.meet (({ a0 with kept := w64 (a0.kept + 1) } : tally_Window)) ⟨rfl, rfl, tv⟩ ⟨HS, H⟩
 ·rintro x2 w ⟨HS, H⟩
  unfold tally_Window_Note.j0 at H
  refine V.seq ?_
  obtain ⟨a0_4, c0_4, hi5, HS⟩ := tally_Window.open HS
  obtain ⟨c6, H⟩ := ite_n H
  obtain ⟨eb7, eo8, hh⟩ := (rdC.at 1 row_rd HS rfl).some (by decide) c6.1 c6.2; subst hh
  refine V.dr [10] [] [(39, pt b0), (40, pt b0), (41, po b0 (0 + 0)), (42, vs (some ⟨eb7, eo8, none⟩) x2.l.length c0_4), (43, pt b0), (44, pt b0), (45, po b0 (0 + 1)), (46, vi x2.at_), (47, vb a1), (48, po eb7 (eo8 + x2.at_.toNat * 1))] mo HS ?_
  refine T.ev [(47, _), (48, _)] [] [0, 1, 2, 3, 4, 5, 6, 7, 8, 9] ⟨rfl, rfl, tv⟩ ⟨.mv 0, .nc 39, .fa 40 fo256_0, .ld 41 0 underlying172, .mv 0, .nc 43, .fa 44 fo256_1, .ld 45 0 underlying3, .mv 1, .n2 42 46 rfl rfl rfl (fun w HS => X.indexSl underlying172 inf4 rfl rfl c6.1 c6.2), tv⟩ rfl (fun w HS => ?_)
  refine ⟨_, Y.storeRowN vb (fun _ => rfl) 1 HS rfl inf4 rfl rfl c6.1 c6.2, ?_⟩
  rintro _ w HS
  refine T.nn HS ?_
  refine T.fn [(0, _), (1, _)] ⟨rfl, rfl, tv⟩ tv (fun w HS => ?_)
  have HS : Sep.St [blk b0 (#[vs (some ⟨eb7, eo8, none⟩) (x2.l.set x2.at_.toNat a1).length c0_4, vi x2.at_, vi x2.kept, Value.complex .f64 x2.sum.1 x2.sum.2]) 256, row 4 1 (.slice (some ⟨eb7, eo8, none⟩) (x2.l.set x2.at_.toNat a1).length c0_4) (x2.l.set x2.at_.toNat a1).length ((x2.l.set x2.at_.toNat a1).map Value.bool), R] w0 w := by simpa only [List.length_set, List.set_cons_succ, List.set_cons_zero] using HS
  refine At.next (V.seq (V.dr [5, 9] [6, 7, 8] [(49, pt b0), (50, pt b0), (51, po b0 (0 + 3)), (52, Value.complex .f64 x2.sum.1 x2.sum.2), (53, vb a1)] mo HS ?_))
  refine T.ev [(53, _)] [] [4] ⟨rfl, tv⟩ ⟨.mv 0, .nc 49, .fa 50 fo256_3, .ld 51 0 underlying254, .mv 1, tv⟩ rfl (fun w HS => ?_)
  obtain ⟨t9, A10, H⟩ := bind_s H
  refine ⟨_, Y.cl func275 (tally_one.calls A10 HS.j0), ?_⟩
  rintro _ w ⟨rfl, HS⟩
  replace HS := HS.o0
  obtain ⟨t11, A12, H⟩ := bind_s H
  refine T.nm [(54, Value.complex .f64 t9.1 t9.2), (55, Value.complex .f64 t11.1 t11.2), (56, pt b0), (57, po b0 (0 + 3))] HS ⟨.inl ⟨rfl, rfl⟩, ⟨.inr ⟨by decide, rfl⟩, ⟨.inr ⟨by decide, rfl⟩, ⟨.inr ⟨by decide, rfl⟩, tv⟩⟩⟩⟩ ?_
  refine T.ev [(55, _), (57, _)] [] [0, 1, 2, 3, 6, 7, 8] ⟨rfl, rfl, tv⟩ ⟨.mv 0, .nc 49, .fa 50 fo256_3, .ld 51 0 underlying254, .n2 52 54 rfl rfl rfl (fun w HS => X.cxop A12 rfl rfl), .nc 49, .fa 56 fo256_3, tv⟩ rfl (fun w HS => ?_)
  refine ⟨_, Y.sto 0 3 HS inf254 rfl rfl rfl rfl rfl rfl, ?_⟩
  rintro _ w HS
  refine T.nn HS ?_
  refine T.fn [(0, _)] ⟨rfl, tv⟩ tv (fun w HS => ?_)
  refine At.next ?_
  obtain ⟨c13, H⟩ := ite_n H
  refine V.dr [14] [] [(58, pt b0), (59, pt b0), (60, pt b0), (61, po b0 (0 + 1)), (62, vi x2.at_), (63, vi (w64 (x2.at_ + 1))), (64, pt b0), (65, pt b0), (66, po b0 (0 + 0)), (67, vs (some ⟨eb7, eo8, none⟩) (x2.l.set x2.at_.toNat a1).length c0_4), (68, vi (((x2.l.set x2.at_.toNat a1).length : Int))), (69, vi ((w64 (x2.at_ + 1)).tmod (((x2.l.set x2.at_.toNat a1).length : Int)))), (70, pt b0), (71, po b0 (0 + 1))] mo HS ?_
  refine T.ev [(69, _), (71, _)] [] [0, 1, 2, 3, 4, 5, 6, 7, 8, 9, 10, 11, 12, 13] ⟨rfl, rfl, tv⟩ ⟨.mv 0, .mv 0, .nc 59, .fa 60 fo256_1, .ld 61 0 underlying3, .n1 62 rfl rfl (fun w HS => X.add rfl rfl), .mv 0, .nc 64, .fa 65 fo256_0, .ld 66 0 underlying172, .n1 67 rfl rfl (fun w HS => X.lenSl underlying172 rfl), .n2 63 68 rfl rfl rfl (fun w HS => X.rem rfl rfl c13), .nc 58, .fa 70 fo256_1, tv⟩ rfl (fun w HS => ?_)
  refine ⟨_, Y.sto 0 1 HS inf3 rfl rfl rfl rfl rfl rfl, ?_⟩
  rintro _ w HS
  refine T.nn HS ?_
  refine T.fn [] tv tv (fun w HS => ?_)
  replace HS := tally_Window.close tv HS
  cases H
  exact At.end0 rfl ⟨_, rfl, rfl, HS⟩
def tally_Window_Sum.f (a0 : tally_Window) : Option (Nat × Nat) := some a0.sum
theorem tally_Window_Sum.calls {a0 : tally_Window} {R : As} {w0 w : World} {b0 : Nat} {a0_p0 : Option Addr} {c0_p0 : Nat} {r : (Nat × Nat)} (H : tally_Window_Sum.f a0 = some r) (HS : Sep.St [blk b0 (#[vs a0_p0 a0.l.length c0_p0, vi a0.at_, vi a0.kept, Value.complex .f64 a0.sum.1 a0.sum.2]) 256, row 4 1 (.slice a0_p0 a0.l.length c0_p0) a0.l.length (a0.l.map Value.bool), R] w0 w)  : Calls Tryz.prog 243 #[pt b0] w (Ret fun u w => u = Value.complex .f64 r.1 r.2 ∧ Sep.St [blk b0 (#[vs a0_p0 a0.l.length c0_p0, vi a0.at_, vi a0.kept, Value.complex .f64 a0.sum.1 a0.sum.2]) 256, row 4 1 (.slice a0_p0 a0.l.length c0_p0) a0.l.length (a0.l.map Value.bool), R] w0 w) := by
 unfold tally_Window_Sum.f at H
 refine calls_enter func243 rfl rfl ?_
 have H : _ = some r := H
 refine V.seq (V.region (W.as rfl (W.nx (V.seq (V.region (W.mv rfl (W.nc rfl (W.fa fo256_3 rfl (W.ld 0 HS underlying254 rfl rfl rfl rfl (W.as rfl (W.nx (V.ret ?_))))))))))))
 cases H
 exact At.ret1 rfl rfl ⟨_, rfl, rfl, HS⟩
mutual
def tally_count.j0 (a0 : Nat) (x1 : Bool) : Option (Int × Bool) := (if x1 = true then some (0, false) else ((f2i .i64 a0).bind fun t4 => some (t4, fcmp .eql (FloatKind.f64.nearest t4) a0)))
end
def tally_count.f (a0 : Nat) : Option (Int × Bool) := (if fcmp .geq a0 (0 : Nat) = true then (tally_count.j0 a0 (!(fcmp .leq a0 (4751297606873776128 : Nat)))) else (tally_count.j0 a0 true))
theorem tally_count.calls {a0 : Nat} {R : As} {w0 w : World}  {r : Int × Bool} (H : tally_count.f a0 = some r) (HS : Sep.St [R] w0 w)  : Calls Tryz.prog 276 #[Value.float .f64 a0] w (Ret fun u w => u = Value.tuple #[vi r.1, vb r.2] ∧ Sep.St [R] w0 w) := by
 unfold tally_count.f at H
 refine calls_enter func276 rfl rfl ?_
 have H : _ = some r := H
 refine V.seq (V.region (W.as rfl (W.as rfl (W.nx (V.seq (V.meet (σ := Bool) (fun st w => match st with | x1 => Sep.St [R] w0 w ∧ tally_count.j0 a0 x1 = some r) (fun st => match st with | x1 => [(0, Value.float .f64 a0), (11, vb x1)]) ?_ ?_))))))
 ·refine V.region (W.mv rfl (W.r (X.fcmp (fcmp .geq a0 (0 : Nat)) rfl (by decide) rfl rfl) rfl (W.mv rfl ?_)))
  by_cases c6 : fcmp .geq a0 (0 : Nat) = true
  ·replace H := ite_t c6 H
   refine W.want 7 rfl (sb c6) (W.mv rfl (W.want 7 rfl (sb c6) (W.r (X.fcmp (fcmp .leq a0 (4751297606873776128 : Nat)) rfl (by decide) rfl rfl) rfl (W.r (X.pickT (sb c6) rfl) rfl (W.r (X.not rfl) rfl (W.nil ?_))))))
   exact At.meet (!(fcmp .leq a0 (4751297606873776128 : Nat))) ⟨rfl, rfl, tv⟩ ⟨HS, H⟩
  ·replace H := ite_f c6 H
   refine W.pass 7 rfl (sb (b_f c6)) rfl rfl (W.pass 7 rfl (sb (b_f c6)) rfl rfl (W.r (X.pickF (sb (b_f c6)) rfl) rfl (W.r (X.not rfl) rfl (W.nil ?_))))
   exact At.meet true ⟨rfl, rfl, tv⟩ ⟨HS, H⟩
 ·rintro x1 w ⟨HS, H⟩
  unfold tally_count.j0 at H
  by_cases c3 : x1 = true
  ·replace H := ite_t c3 H
   refine V.condT (sb c3) (V.seq (V.region (W.as rfl (W.as rfl (W.nx (V.ret (At.thenRet ?_)))))))
   cases H
   exact At.ret2 rfl rfl rfl ⟨_, rfl, rfl, HS⟩
  ·replace H := ite_f c3 H
   refine V.condF (sb (b_f c3)) (V.skip (At.next (V.seq (V.region (W.mv rfl ?_)))))
   obtain ⟨t4, A5, H⟩ := bind_s H
   refine W.r (X.f2i A5 underlying280 underlying3 rfl) rfl (W.as rfl (W.nx (V.seq (V.region (W.mv rfl (W.mv rfl (W.r (X.i2f underlying3 underlying280 rfl) rfl (W.mv rfl (W.r (X.fcmp (fcmp .eql (FloatKind.f64.nearest t4) a0) rfl (by decide) rfl rfl) rfl (W.as rfl (W.as rfl (W.nx (V.ret ?_)))))))))))))
   cases H
   exact At.ret2 rfl rfl rfl ⟨_, rfl, rfl, HS⟩
mutual
def tally_Parts.j0 (t1 : Int × Bool) (t3 : Int × Bool) (x5 : Bool) : Option (Int × Int × Bool) := (if x5 = true then some (0, 0, false) else some (t1.1, t3.1, true))
end
def tally_Parts.f (a0 : (Nat × Nat)) : Option (Int × Int × Bool) := ((tally_count.f a0.1).bind fun t1 => ((tally_count.f a0.2).bind fun t3 => (if t1.2 = true then (tally_Parts.j0 t1 t3 (!t3.2)) else (tally_Parts.j0 t1 t3 true))))
theorem tally_Parts.calls {a0 : (Nat × Nat)} {R : As} {w0 w : World}  {r : Int × Int × Bool} (H : tally_Parts.f a0 = some r) (HS : Sep.St [R] w0 w)  : Calls Tryz.prog 242 #[Value.complex .f64 a0.1 a0.2] w (Ret fun u w => u = Value.tuple #[vi r.1, vi r.2.1, vb r.2.2] ∧ Sep.St [R] w0 w) := by
 unfold tally_Parts.f at H
 refine calls_enter func242 rfl rfl ?_
 have H : _ = some r := H
 refine V.seq (V.region (W.as rfl (W.as rfl (W.as rfl (W.nx (V.seq (V.region (W.mv rfl (W.r (X.real rfl) rfl ?_)))))))))
 obtain ⟨t1, A2, H⟩ := bind_s H
 refine W.e (Y.cl func276 (tally_count.calls A2 HS.j0)) rfl ?_
 rintro _ w ⟨rfl, HS⟩
 replace HS := HS.o0
 refine W.mv rfl (W.r (X.extract rfl rfl) rfl (W.r (X.extract rfl rfl) rfl (W.as rfl (W.as rfl (W.nx (V.seq (V.region (W.mv rfl (W.r (X.imag rfl) rfl ?_)))))))))
 obtain ⟨t3, A4, H⟩ := bind_s H
 refine W.e (Y.cl func276 (tally_count.calls A4 HS.j0)) rfl ?_
 rintro _ w ⟨rfl, HS⟩
 replace HS := HS.o0
 refine W.mv rfl (W.r (X.extract rfl rfl) rfl (W.r (X.extract rfl rfl) rfl (W.as rfl (W.as rfl (W.nx (V.seq (V.meet (σ := Bool) (fun st w => match st with | x5 => Sep.St [R] w0 w ∧ tally_Parts.j0 t1 t3 x5 = some r) (fun st => match st with | x5 => [(5, vi t1.1), (7, vi t3.1), (26, vb x5)]) ?_ ?_)))))))
 ·refine V.region (W.mv rfl (W.r (X.not rfl) rfl (W.mv rfl ?_)))
  by_cases c8 : t1.2 = true
  ·replace H := ite_t c8 H
   refine W.want 23 rfl (sb (n_t c8)) (W.mv rfl (W.want 23 rfl (sb (n_t c8)) (W.r (X.not rfl) rfl (W.r (X.pickF (sb (n_t c8)) rfl) rfl (W.nil ?_)))))
   exact At.meet (!t3.2) ⟨rfl, rfl, rfl, tv⟩ ⟨HS, H⟩
  ·replace H := ite_f c8 H
   refine W.pass 23 rfl (sb (n_f (b_f c8))) rfl rfl (W.pass 23 rfl (sb (n_f (b_f c8))) rfl rfl (W.r (X.pickT (sb (n_f (b_f c8))) rfl) rfl (W.nil ?_)))
   exact At.meet true ⟨rfl, rfl, rfl, tv⟩ ⟨HS, H⟩
 ·rintro x5 w ⟨HS, H⟩
  unfold tally_Parts.j0 at H
  by_cases c7 : x5 = true
  ·replace H := ite_t c7 H
   refine V.condT (sb c7) (V.seq (V.region (W.as rfl (W.as rfl (W.as rfl (W.nx (V.ret (At.thenRet ?_))))))))
   cases H
   exact At.ret3 rfl rfl rfl rfl ⟨_, rfl, rfl, HS⟩
  ·replace H := ite_f c7 H
   refine V.condF (sb (b_f c7)) (V.skip (At.next (V.seq (V.region (W.mv rfl (W.mv rfl (W.as rfl (W.as rfl (W.as rfl (W.nx (V.ret ?_)))))))))))
   cases H
   exact At.ret3 rfl rfl rfl rfl ⟨_, rfl, rfl, HS⟩
def tally_Window_Clear.f (a0 : tally_Window) : Option tally_Window := some (({ l := a0.l, at_ := 0, kept := 0, sum := ((0, 0) : Nat × Nat) } : tally_Window))
theorem tally_Window_Clear.calls {a0 : tally_Window} {R : As} {w0 w : World} {b0 : Nat} {r : tally_Window} (H : tally_Window_Clear.f a0 = some r) (HS : Sep.St [tally_Window.at b0 a0, R] w0 w)  : Calls Tryz.prog 244 #[pt b0] w (Ret fun u w => u = Value.tuple #[] ∧ Sep.St [tally_Window.at b0 r, R] w0 w) := by
 unfold tally_Window_Clear.f at H
 refine calls_enter func244 rfl rfl ?_
 have H : _ = some r := H
 refine V.region (W.mv rfl (W.mv rfl (W.nc rfl ?_)))
 obtain ⟨a0_1, c0_1, hi2, HS⟩ := tally_Window.open HS
 refine W.fa fo256_0 rfl (W.ld 0 HS underlying172 rfl rfl rfl rfl (W.r (X.bd (Value.agg #[vs a0_1 a0.l.length c0_1, vi (0), vi (0), Value.complex .f64 (((0, 0) : Nat × Nat)).1 (((0, 0) : Nat × Nat)).2]) rfl (fun _ => by kernel_rfl)) rfl (W.nc rfl (W.en (Y.storeSt (c' := #[vs a0_1 a0.l.length c0_1, vi (0), vi (0), Value.complex .f64 (((0, 0) : Nat × Nat)).1 (((0, 0) : Nat × Nat)).2]) 0 [vs a0_1 a0.l.length c0_1, vi (0), vi (0), Value.complex .f64 (((0, 0) : Nat × Nat)).1 (((0, 0) : Nat × Nat)).2] HS rfl inf256 rfl rfl rfl rfl rfl rfl) rfl ?_))))
 rintro _ w HS
 refine W.nil ?_
 replace HS := tally_Window.close tv HS
 cases H
 exact At.end0 rfl ⟨_, rfl, rfl, HS⟩
mutual
def monitor_Monitor_Note.j2 (x7 : monitor_Monitor) (x30 : Bool) : Option (Int × monitor_Monitor) := (if x30 = true then some (1, ({ x7 with state := 1 } : monitor_Monitor)) else some (x7.state, x7))
def monitor_Monitor_Note.j1 (x7 : monitor_Monitor) (t15 : Int × Int × Bool) (x19 : Bool) : Option (Int × monitor_Monitor) := (if x19 = true then ((tally_Window_Clear.f x7.w).bind fun t24 => some (0, ({ x7 with w := t24, state := 0 } : monitor_Monitor))) else (if t15.2.1 ≥ x7.bad then some (2, ({ x7 with state := 2 } : monitor_Monitor)) else (if t15.2.1 ≥ (w64 ((w64 (x7.bad + 1)).tdiv (2))) then (monitor_Monitor_Note.j2 x7 (decide (x7.state = 0))) else (monitor_Monitor_Note.j2 x7 false))))
def monitor_Monitor_Note.j0  (x7 : monitor_Monitor) : Option (Int × monitor_Monitor) := ((tally_Window_Sum.f x7.w).bind fun t13 => ((tally_Parts.f t13).bind fun t15 => (if x7.state = 0 then (monitor_Monitor_Note.j1 x7 t15 false) else (monitor_Monitor_Note.j1 x7 t15 (decide (x7.row ≥ x7.good))))))
end
def monitor_Monitor_Note.f (a0 : monitor_Monitor) (a1 : Bool) : Option (Int × monitor_Monitor) := ((tally_Window_Note.f a0.w a1).bind fun t3 => (if a1 = true then (monitor_Monitor_Note.j0 ({ a0 with w := t3, row := imin (w64 (a0.row + 1)) (16), silence := 0 } : monitor_Monitor)) else (monitor_Monitor_Note.j0 ({ a0 with w := t3, row := 0, silence := 0 } : monitor_Monitor))))
theorem monitor_Monitor_Note.calls {a0 : monitor_Monitor} {a1 : Bool} {R : As} {w0 w : World} {b0 : Nat} {r : Int × monitor_Monitor} (H : monitor_Monitor_Note.f a0 a1 = some r) (HS : Sep.St [monitor_Monitor.at b0 a0, R] w0 w)  : Calls Tryz.prog 194 #[pt b0, vb a1] w (Ret fun u w => u = vi r.1 ∧ Sep.St [monitor_Monitor.at b0 r.2, R] w0 w) := by
 unfold monitor_Monitor_Note.f at H
 refine calls_enter func194 rfl rfl ?_
 have H : _ = some r := H
 refine V.seq (V.region (W.as rfl (W.nx (V.seq (V.region (W.mv rfl (W.nc rfl ?_)))))))
 obtain ⟨b3_1, hi2, HS⟩ := monitor_Monitor.open HS
 refine W.fa fo171_3 rfl (W.ld 0 HS underlying169 rfl rfl rfl rfl (W.mv rfl ?_))
 obtain ⟨t3, A4, H⟩ := bind_s H
 replace HS := HS.pm [1, 0, 2]
 refine W.e (Y.cl func241 (tally_Window_Note.calls A4 HS.j1)) rfl ?_
 rintro _ w ⟨rfl, HS⟩
 replace HS := HS.o1
 refine W.nx (V.seq (V.region (W.mv rfl (W.nc rfl (W.fa fo171_5 rfl (W.st 1 5 HS inf3 rfl rfl rfl rfl rfl rfl fun w HS => ?_))))))
 refine W.nx (V.seq (V.region (W.mv rfl (W.mv rfl (W.nc rfl (W.fa fo171_4 rfl (W.ld 1 HS underlying3 rfl rfl rfl rfl (W.r (X.add rfl rfl) rfl (W.r (X.min2 rfl rfl) rfl (W.nc rfl (W.fa fo171_4 rfl (W.st 1 4 HS inf3 rfl rfl rfl rfl rfl rfl fun w HS => ?_))))))))))))
 refine W.nx (V.meet (σ := monitor_Monitor) (fun st w => match st with | x7 => Sep.St [monitor_Monitor.at b0 x7, R] w0 w ∧ monitor_Monitor_Note.j0 x7 = some r) (fun st => match st with | x7 => [(0, pt b0)]) ?_ ?_)
 ·refine V.seq (V.region (W.mv rfl (W.r (X.not rfl) rfl (W.nx ?_))))
  by_cases c39 : a1 = true
  ·replace H := ite_t c39 H
   refine V.condF (sb (n_t c39)) (V.skip ?_)
   replace HS := HS.pm [1, 0, 2]
   replace HS := monitor_Monitor.close tv HS
   exact At.meet (({ a0 with w := t3, row := imin (w64 (a0.row + 1)) (16), silence := 0 } : monitor_Monitor)) ⟨rfl, tv⟩ ⟨HS, H⟩
  ·replace H := ite_f c39 H
   refine V.condT (sb (n_f (b_f c39))) (V.region (W.mv rfl (W.nc rfl (W.fa fo171_4 rfl (W.st 1 4 HS inf3 rfl rfl rfl rfl rfl rfl fun w HS => ?_)))))
   refine W.nil ?_
   replace HS := HS.pm [1, 0, 2]
   replace HS := monitor_Monitor.close tv HS
   exact At.meet ({ a0 with w := t3, row := 0, silence := 0 } : monitor_Monitor) ⟨rfl, tv⟩ ⟨HS, H⟩
 ·rintro x7 w ⟨HS, H⟩
  unfold monitor_Monitor_Note.j0 at H
  refine V.seq (V.region (W.mv rfl (W.nc rfl ?_)))
  obtain ⟨b3_9, hi10, HS⟩ := monitor_Monitor.open HS
  refine W.fa fo171_3 rfl (W.ld 0 HS underlying169 rfl rfl rfl rfl ?_)
  replace HS := HS.fr 1
  obtain ⟨a0_11, c0_11, hi12, HS⟩ := tally_Window.open HS
  obtain ⟨t13, A14, H⟩ := bind_s H
  refine W.e (Y.cl func243 (tally_Window_Sum.calls A14 HS.j2)) rfl ?_
  rintro _ w ⟨rfl, HS⟩
  replace HS := HS.o2
  obtain ⟨t15, A16, H⟩ := bind_s H
  refine W.e (Y.cl func242 (tally_Parts.calls A16 HS.j0)) rfl ?_
  rintro _ w ⟨rfl, HS⟩
  replace HS := HS.o0
  refine W.mv rfl (W.r (X.extract rfl rfl) rfl (W.r (X.extract rfl rfl) rfl (W.r (X.extract rfl rfl) rfl (W.as rfl (W.as rfl (W.as rfl (W.nx (V.seq (V.block (V.meet (σ := Bool) (fun st w => match st with | x19 => Sep.St [monitor_Monitor.at b0 x7, R] w0 w ∧ monitor_Monitor_Note.j1 x7 t15 x19 = some r) (fun st => match st with | x19 => [(0, pt b0), (6, vi t15.2.1), (41, vb x19)]) ?_ ?_))))))))))
  ·by_cases c38 : x7.state = 0
   ·replace H := ite_t c38 H
    refine V.dr [] [] [(42, pt b0), (43, pt b0), (44, po b0 (0 + 6)), (45, vi x7.state), (46, vb (!(decide (x7.state = 0)))), (47, vb (!(decide (x7.state = 0)))), (48, undef), (49, undef), (50, undef), (51, undef), (52, undef), (53, undef), (54, undef), (55, undef), (56, undef), (57, vb false), (41, vb false)] mo HS ?_
    refine T.fn [(0, _), (6, _), (41, _)] ⟨rfl, rfl, rfl, tv⟩ ⟨.mv 0, .nc 42, .fa 43 fo171_6, .ld 44 2 underlying3, .n1 45 rfl rfl (fun w HS => X.cmp (!(decide (x7.state = 0))) rfl rfl rfl rfl), .mv 46, .gp 5 true false 47 rfl rfl (Option.some.inj (sb (n_t (dT c38)))) rfl, .gp 5 true false 47 rfl rfl (Option.some.inj (sb (n_t (dT c38)))) rfl, .gp 5 true false 47 rfl rfl (Option.some.inj (sb (n_t (dT c38)))) rfl, .gp 5 true false 47 rfl rfl (Option.some.inj (sb (n_t (dT c38)))) rfl, .gp 5 true false 47 rfl rfl (Option.some.inj (sb (n_t (dT c38)))) rfl, .gp 5 true false 47 rfl rfl (Option.some.inj (sb (n_t (dT c38)))) rfl, .gp 5 true false 47 rfl rfl (Option.some.inj (sb (n_t (dT c38)))) rfl, .gp 5 true false 47 rfl rfl (Option.some.inj (sb (n_t (dT c38)))) rfl, .gp 5 true false 47 rfl rfl (Option.some.inj (sb (n_t (dT c38)))) rfl, .n2 47 56 rfl rfl rfl (fun w HS => X.pickF (sb (n_t (dT c38))) rfl), .as 57, tv⟩ (fun w HS => ?_)
    replace HS := tally_Window.close tv HS
    replace HS := HS.pm [1, 0, 2]
    replace HS := monitor_Monitor.close tv HS
    exact At.meet false ⟨rfl, rfl, rfl, tv⟩ ⟨HS, H⟩
   ·replace H := ite_f c38 H
    refine V.dr [] [] [(42, pt b0), (43, pt b0), (44, po b0 (0 + 6)), (45, vi x7.state), (46, vb (!(decide (x7.state = 0)))), (47, vb (!(decide (x7.state = 0)))), (48, pt b0), (49, pt b0), (50, po b0 (0 + 4)), (51, vi x7.row), (52, pt b0), (53, pt b0), (54, po b0 (0 + 1)), (55, vi x7.good), (56, vb (decide (x7.row ≥ x7.good))), (57, vb (decide (x7.row ≥ x7.good))), (41, vb (decide (x7.row ≥ x7.good)))] mo HS ?_
    refine T.fn [(0, _), (6, _), (41, _)] ⟨rfl, rfl, rfl, tv⟩ ⟨.mv 0, .nc 42, .fa 43 fo171_6, .ld 44 2 underlying3, .n1 45 rfl rfl (fun w HS => X.cmp (!(decide (x7.state = 0))) rfl rfl rfl rfl), .mv 46, .gw [(0, _), (47, _)] 5 true 47 ⟨rfl, rfl, tv⟩ rfl (sb (n_f (dF c38))) (fun w HS => X.move rfl), .gw [(48, _), (47, _)] 5 true 47 ⟨rfl, rfl, tv⟩ rfl (sb (n_f (dF c38))) (fun w HS => X.nilCheck rfl), .gw [(49, _), (47, _)] 5 true 47 ⟨rfl, rfl, tv⟩ rfl (sb (n_f (dF c38))) (fun w HS => X.fieldAddr 4 fo171_4 rfl), .gw [(50, _), (47, _)] 5 true 47 ⟨rfl, rfl, tv⟩ rfl (sb (n_f (dF c38))) (fun w HS => X.loadAt 2 HS rfl underlying3 rfl rfl rfl), .gw [(0, _), (47, _)] 5 true 47 ⟨rfl, rfl, tv⟩ rfl (sb (n_f (dF c38))) (fun w HS => X.move rfl), .gw [(52, _), (47, _)] 5 true 47 ⟨rfl, rfl, tv⟩ rfl (sb (n_f (dF c38))) (fun w HS => X.nilCheck rfl), .gw [(53, _), (47, _)] 5 true 47 ⟨rfl, rfl, tv⟩ rfl (sb (n_f (dF c38))) (fun w HS => X.fieldAddr 1 fo171_1 rfl), .gw [(54, _), (47, _)] 5 true 47 ⟨rfl, rfl, tv⟩ rfl (sb (n_f (dF c38))) (fun w HS => X.loadAt 2 HS rfl underlying3 rfl rfl rfl), .gw [(51, _), (55, _), (47, _)] 5 true 47 ⟨rfl, rfl, rfl, tv⟩ rfl (sb (n_f (dF c38))) (fun w HS => X.cmp (decide (x7.row ≥ x7.good)) rfl rfl rfl rfl), .n2 47 56 rfl rfl rfl (fun w HS => X.pickT (sb (n_f (dF c38))) rfl), .as 57, tv⟩ (fun w HS => ?_)
    replace HS := tally_Window.close tv HS
    replace HS := HS.pm [1, 0, 2]
    replace HS := monitor_Monitor.close tv HS
    exact At.meet (decide (x7.row ≥ x7.good)) ⟨rfl, rfl, rfl, tv⟩ ⟨HS, H⟩
  ·rintro x19 w ⟨HS, H⟩
   unfold monitor_Monitor_Note.j1 at H
   by_cases c21 : x19 = true
   ·replace H := ite_t c21 H
    refine V.condT (sb c21) (V.seq (V.region (W.mv rfl (W.nc rfl ?_))))
    obtain ⟨b3_22, hi23, HS⟩ := monitor_Monitor.open HS
    refine W.fa fo171_3 rfl (W.ld 0 HS underlying169 rfl rfl rfl rfl ?_)
    obtain ⟨t24, A25, H⟩ := bind_s H
    replace HS := HS.pm [1, 0, 2]
    refine W.e (Y.cl func244 (tally_Window_Clear.calls A25 HS.j1)) rfl ?_
    rintro _ w ⟨rfl, HS⟩
    replace HS := HS.o1
    refine W.nx (V.region (W.mv rfl (W.nc rfl (W.fa fo171_6 rfl (W.st 1 6 HS inf3 rfl rfl rfl rfl rfl rfl fun w HS => ?_)))))
    refine W.nil (At.blockEnd (At.next (V.seq (V.region (W.mv rfl (W.nc rfl (W.fa fo171_6 rfl (W.ld 1 HS underlying3 rfl rfl rfl rfl (W.as rfl (W.nx (V.ret ?_)))))))))))
    replace HS := HS.pm [1, 0, 2]
    replace HS := monitor_Monitor.close tv HS
    cases H
    exact At.ret1 rfl rfl ⟨_, rfl, rfl, HS⟩
   ·replace H := ite_f c21 H
    refine V.condF (sb (b_f c21)) (V.seq (V.region (W.mv rfl (W.mv rfl (W.nc rfl ?_)))))
    obtain ⟨b3_26, hi27, HS⟩ := monitor_Monitor.open HS
    refine W.fa fo171_0 rfl (W.ld 0 HS underlying3 rfl rfl rfl rfl (W.r (X.cmp (decide (t15.2.1 ≥ x7.bad)) rfl rfl rfl rfl) rfl (W.as rfl (W.nx ?_))))
    by_cases c28 : t15.2.1 ≥ x7.bad
    ·replace H := ite_t c28 H
     refine V.condT (sb (dT c28)) (V.region (W.mv rfl (W.nc rfl (W.fa fo171_6 rfl (W.st 0 6 HS inf3 rfl rfl rfl rfl rfl rfl fun w HS => ?_)))))
     refine W.nil (At.blockEnd (At.next (V.seq (V.region (W.mv rfl (W.nc rfl (W.fa fo171_6 rfl (W.ld 0 HS underlying3 rfl rfl rfl rfl (W.as rfl (W.nx (V.ret ?_)))))))))))
     replace HS := monitor_Monitor.close tv HS
     cases H
     exact At.ret1 rfl rfl ⟨_, rfl, rfl, HS⟩
    ·replace H := ite_f c28 H
     refine V.condF (sb (dF c28)) (V.meet (σ := Bool) (fun st w => match st with | x30 => Sep.St [monitor_Monitor.at b0 x7, R] w0 w ∧ monitor_Monitor_Note.j2 x7 x30 = some r) (fun st => match st with | x30 => [(0, pt b0), (76, vb x30)]) ?_ ?_)
     ·refine V.region (W.mv rfl (W.mv rfl (W.nc rfl (W.fa fo171_0 rfl (W.ld 0 HS underlying3 rfl rfl rfl rfl (W.r (X.add rfl rfl) rfl (W.r (X.quo rfl rfl (by decide)) rfl (W.r (X.cmp (decide (t15.2.1 ≥ (w64 ((w64 (x7.bad + 1)).tdiv (2))))) rfl rfl rfl rfl) rfl (W.mv rfl ?_)))))))))
      by_cases c37 : t15.2.1 ≥ (w64 ((w64 (x7.bad + 1)).tdiv (2)))
      ·replace H := ite_t c37 H
       refine W.want 85 rfl (sb (dT c37)) (W.mv rfl (W.want 85 rfl (sb (dT c37)) (W.nc rfl (W.want 85 rfl (sb (dT c37)) (W.fa fo171_6 rfl (W.want 85 rfl (sb (dT c37)) (W.ld 0 HS underlying3 rfl rfl rfl rfl (W.want 85 rfl (sb (dT c37)) (W.r (X.cmp (decide (x7.state = 0)) rfl rfl rfl rfl) rfl (W.r (X.pickT (sb (dT c37)) rfl) rfl (W.as rfl (W.nil ?_))))))))))))
       replace HS := monitor_Monitor.close tv HS
       exact At.meet (decide (x7.state = 0)) ⟨rfl, rfl, tv⟩ ⟨HS, H⟩
      ·replace H := ite_f c37 H
       refine W.pass 85 rfl (sb (dF c37)) rfl rfl (W.pass 85 rfl (sb (dF c37)) rfl rfl (W.pass 85 rfl (sb (dF c37)) rfl rfl (W.pass 85 rfl (sb (dF c37)) rfl rfl (W.pass 85 rfl (sb (dF c37)) rfl rfl (W.r (X.pickF (sb (dF c37)) rfl) rfl (W.as rfl (W.nil ?_)))))))
       replace HS := monitor_Monitor.close tv HS
       exact At.meet false ⟨rfl, rfl, tv⟩ ⟨HS, H⟩
     ·rintro x30 w ⟨HS, H⟩
      unfold monitor_Monitor_Note.j2 at H
      by_cases c32 : x30 = true
      ·replace H := ite_t c32 H
       refine V.condT (sb c32) (V.region (W.mv rfl (W.nc rfl ?_)))
       obtain ⟨b3_33, hi34, HS⟩ := monitor_Monitor.open HS
       refine W.fa fo171_6 rfl (W.st 0 6 HS inf3 rfl rfl rfl rfl rfl rfl fun w HS => ?_)
       refine W.nil (At.blockEnd (At.next (V.seq (V.region (W.mv rfl (W.nc rfl (W.fa fo171_6 rfl (W.ld 0 HS underlying3 rfl rfl rfl rfl (W.as rfl (W.nx (V.ret ?_)))))))))))
       replace HS := monitor_Monitor.close tv HS
       cases H
       exact At.ret1 rfl rfl ⟨_, rfl, rfl, HS⟩
      ·replace H := ite_f c32 H
       refine V.condF (sb (b_f c32)) (V.skip (At.blockEnd (At.next (V.seq (V.region (W.mv rfl (W.nc rfl ?_)))))))
       obtain ⟨b3_35, hi36, HS⟩ := monitor_Monitor.open HS
       refine W.fa fo171_6 rfl (W.ld 0 HS underlying3 rfl rfl rfl rfl (W.as rfl (W.nx (V.ret ?_))))
       replace HS := monitor_Monitor.close tv HS
       cases H
       exact At.ret1 rfl rfl ⟨_, rfl, rfl, HS⟩
def aps_Aps_Line.f (a0 : aps_Aps) : Option Int := some a0.line
theorem aps_Aps_Line.calls {a0 : aps_Aps} {R : As} {w0 w : World} {b0 : Nat} {r : Int} (H : aps_Aps_Line.f a0 = some r) (HS : Sep.St [blk b0 (#[vi a0.hold, vi a0.wait, vb a0.revert, vi a0.command, vi a0.remote, vi a0.own, vi a0.bad, vi a0.left, vi a0.line]) 168, R] w0 w)  : Calls Tryz.prog 66 #[pt b0] w (Ret fun u w => u = vi r ∧ Sep.St [blk b0 (#[vi a0.hold, vi a0.wait, vb a0.revert, vi a0.command, vi a0.remote, vi a0.own, vi a0.bad, vi a0.left, vi a0.line]) 168, R] w0 w) := by
 unfold aps_Aps_Line.f at H
 refine calls_enter func66 rfl rfl ?_
 have H : _ = some r := H
 refine V.seq (V.region (W.as rfl (W.nx (V.seq (V.region (W.mv rfl (W.nc rfl (W.fa fo168_8 rfl (W.ld 0 HS underlying3 rfl rfl rfl rfl (W.as rfl (W.nx (V.ret ?_))))))))))))
 cases H
 exact At.ret1 rfl rfl ⟨_, rfl, rfl, HS⟩
def twins_Table_first.f (a0 : twins_Table) (a1 : Int) : Option (Bool × twins_Table) := (if ¬ ((a0.came.length : Int) = 0) then (if 0 ≤ (w64 ((w64 (a0.at_ + (a0.came.length : Int))) - a1)).tmod (a0.came.length : Int) ∧ (w64 ((w64 (a0.at_ + (a0.came.length : Int))) - a1)).tmod (a0.came.length : Int) < (a0.came.length : Int) then some (!(a0.came.getD ((w64 ((w64 (a0.at_ + (a0.came.length : Int))) - a1)).tmod (a0.came.length : Int)).toNat false), ({ a0 with came := a0.came.set ((w64 ((w64 (a0.at_ + (a0.came.length : Int))) - a1)).tmod (a0.came.length : Int)).toNat true } : twins_Table)) else none) else none)
theorem twins_Table_first.calls {a0 : twins_Table} {a1 : Int} {R : As} {w0 w : World} {b0 : Nat} {r : Bool × twins_Table} (H : twins_Table_first.f a0 a1 = some r) (HS : Sep.St [twins_Table.at b0 a0, R] w0 w)  : Calls Tryz.prog 277 #[pt b0, vi a1] w (Ret fun u w => u = vb r.1 ∧ Sep.St [twins_Table.at b0 r.2, R] w0 w) := by
 unfold twins_Table_first.f at H
 refine calls_enter func277 rfl rfl ?_
 have H : _ = some r := H
 refine V.seq (V.region (W.as rfl (W.nx (V.seq (V.region (W.mv rfl (W.nc rfl ?_)))))))
 obtain ⟨a3_1, c3_1, hi2, HS⟩ := twins_Table.open HS
 refine W.fa fo200_3 rfl (W.ld 0 HS underlying172 rfl rfl rfl rfl (W.r (X.lenSl underlying172 rfl) rfl (W.as rfl (W.nx (V.seq ?_)))))
 obtain ⟨c3, H⟩ := ite_n H
 obtain ⟨c4, H⟩ := ite_n H
 obtain ⟨eb5, eo6, hh⟩ := (rdC.at 1 row_rd HS rfl).some (by decide) c4.1 c4.2; subst hh
 refine V.dr [] [] [(13, pt b0), (14, pt b0), (15, po b0 (0 + 3)), (16, vs (some ⟨eb5, eo6, none⟩) a0.came.length c3_1), (17, pt b0), (18, pt b0), (19, po b0 (0 + 2)), (20, vi a0.at_), (21, vi (a0.came.length : Int)), (22, vi (w64 (a0.at_ + (a0.came.length : Int)))), (23, vi a1), (24, vi (w64 ((w64 (a0.at_ + (a0.came.length : Int))) - a1))), (25, vi (a0.came.length : Int)), (26, vi ((w64 ((w64 (a0.at_ + (a0.came.length : Int))) - a1)).tmod (a0.came.length : Int))), (27, po eb5 (eo6 + ((w64 ((w64 (a0.at_ + (a0.came.length : Int))) - a1)).tmod (a0.came.length : Int)).toNat * 1)), (6, po eb5 (eo6 + ((w64 ((w64 (a0.at_ + (a0.came.length : Int))) - a1)).tmod (a0.came.length : Int)).toNat * 1))] mo HS ?_
 refine T.fn [(6, _)] ⟨rfl, tv⟩ ⟨.mv 0, .nc 13, .fa 14 fo200_3, .ld 15 0 underlying172, .mv 0, .nc 17, .fa 18 fo200_2, .ld 19 0 underlying3, .mv 5, .n2 20 21 rfl rfl rfl (fun w HS => X.add rfl rfl), .mv 1, .n2 22 23 rfl rfl rfl (fun w HS => X.sub rfl rfl), .mv 5, .n2 24 25 rfl rfl rfl (fun w HS => X.rem rfl rfl c3), .n2 16 26 rfl rfl rfl (fun w HS => X.indexSl underlying172 inf4 rfl rfl c4.1 c4.2), .as 27, tv⟩ (fun w HS => ?_)
 refine At.next (V.seq (V.region (W.mv rfl (W.nc rfl (W.r (X.load underlying4 rfl rfl ((rdC.at 1 row_rd HS rfl).cellB c4.1 c4.2)) rfl (W.as rfl (W.nx (V.seq (V.region (W.mv rfl (W.nc rfl (W.en (Y.storeRowF vb (fun _ => rfl) 1 HS rfl inf4 rfl rfl c4.1 c4.2) rfl ?_))))))))))))
 rintro _ w HS
 have HS : Sep.St [blk b0 (#[vb a0.known, Value.int .u32 a0.highest, vi a0.at_, vs (some ⟨eb5, eo6, none⟩) (a0.came.set ((w64 ((w64 (a0.at_ + (a0.came.length : Int))) - a1)).tmod (a0.came.length : Int)).toNat true).length c3_1]) 200, row 4 1 (.slice (some ⟨eb5, eo6, none⟩) (a0.came.set ((w64 ((w64 (a0.at_ + (a0.came.length : Int))) - a1)).tmod (a0.came.length : Int)).toNat true).length c3_1) (a0.came.set ((w64 ((w64 (a0.at_ + (a0.came.length : Int))) - a1)).tmod (a0.came.length : Int)).toNat true).length ((a0.came.set ((w64 ((w64 (a0.at_ + (a0.came.length : Int))) - a1)).tmod (a0.came.length : Int)).toNat true).map Value.bool), R] w0 w := by simpa only [List.length_set, List.set_cons_succ, List.set_cons_zero] using HS
 refine W.nx (V.seq (V.region (W.mv rfl (W.r (X.not rfl) rfl (W.as rfl (W.nx (V.ret ?_)))))))
 replace HS := twins_Table.close tv HS
 cases H
 exact At.ret1 rfl rfl ⟨_, rfl, rfl, HS⟩
def twins_Table_raise.f (a0 : twins_Table) : Option twins_Table := (if ¬ ((a0.came.length : Int) = 0) then (if 0 ≤ (w64 (a0.at_ + 1)).tmod (a0.came.length : Int) ∧ (w64 (a0.at_ + 1)).tmod (a0.came.length : Int) < (a0.came.length : Int) then some (({ a0 with at_ := (w64 (a0.at_ + 1)).tmod (a0.came.length : Int), came := a0.came.set ((w64 (a0.at_ + 1)).tmod (a0.came.length : Int)).toNat false } : twins_Table)) else none) else none)
theorem twins_Table_raise.calls {a0 : twins_Table} {R : As} {w0 w : World} {b0 : Nat} {r : twins_Table} (H : twins_Table_raise.f a0 = some r) (HS : Sep.St [twins_Table.at b0 a0, R] w0 w)  : Calls Tryz.prog 278 #[pt b0] w (Ret fun u w => u = Value.tuple #[] ∧ Sep.St [twins_Table.at b0 r, R] w0 w) := by
 unfold twins_Table_raise.f at H
 refine calls_enter func278 rfl rfl ?_
 have H : _ = some r := H
 refine V.seq ?_
 obtain ⟨a3_1, c3_1, hi2, HS⟩ := twins_Table.open HS
 obtain ⟨c3, H⟩ := ite_n H
 refine V.dr [14] [] [(2, pt b0), (3, pt b0), (4, pt b0), (5, po b0 (0 + 2)), (6, vi a0.at_), (7, vi (w64 (a0.at_ + 1))), (8, pt b0), (9, pt b0), (10, po b0 (0 + 3)), (11, vs a3_1 a0.came.length c3_1), (12, vi (a0.came.length : Int)), (13, vi ((w64 (a0.at_ + 1)).tmod (a0.came.length : Int))), (14, pt b0), (15, po b0 (0 + 2))] mo HS ?_
 refine T.ev [(13, _), (15, _)] [] [0, 1, 2, 3, 4, 5, 6, 7, 8, 9, 10, 11, 12, 13] ⟨rfl, rfl, tv⟩ ⟨.mv 0, .mv 0, .nc 3, .fa 4 fo200_2, .ld 5 0 underlying3, .n1 6 rfl rfl (fun w HS => X.add rfl rfl), .mv 0, .nc 8, .fa 9 fo200_3, .ld 10 0 underlying172, .n1 11 rfl rfl (fun w HS => X.lenSl underlying172 rfl), .n2 7 12 rfl rfl rfl (fun w HS => X.rem rfl rfl c3), .nc 2, .fa 14 fo200_2, tv⟩ rfl (fun w HS => ?_)
 refine ⟨_, Y.sto 0 2 HS inf3 rfl rfl rfl rfl rfl rfl, ?_⟩
 rintro _ w HS
 refine T.nn HS ?_
 refine T.fn [(0, _)] ⟨rfl, tv⟩ tv (fun w HS => ?_)
 refine At.next ?_
 obtain ⟨c4, H⟩ := ite_n H
 obtain ⟨eb5, eo6, hh⟩ := (rdC.at 1 row_rd HS rfl).some (by decide) c4.1 c4.2; subst hh
 refine V.dr [9] [] [(16, pt b0), (17, pt b0), (18, po b0 (0 + 3)), (19, vs (some ⟨eb5, eo6, none⟩) a0.came.length c3_1), (20, pt b0), (21, pt b0), (22, po b0 (0 + 2)), (23, vi ((w64 (a0.at_ + 1)).tmod (a0.came.length : Int))), (24, po eb5 (eo6 + ((w64 (a0.at_ + 1)).tmod (a0.came.length : Int)).toNat * 1))] mo HS ?_
 refine T.ev [(24, _)] [] [0, 1, 2, 3, 4, 5, 6, 7, 8] ⟨rfl, tv⟩ ⟨.mv 0, .nc 16, .fa 17 fo200_3, .ld 18 0 underlying172, .mv 0, .nc 20, .fa 21 fo200_2, .ld 22 0 underlying3, .n2 19 23 rfl rfl rfl (fun w HS => X.indexSl underlying172 inf4 rfl rfl c4.1 c4.2), tv⟩ rfl (fun w HS => ?_)
 refine ⟨_, Y.storeRowN vb (fun _ => rfl) 1 HS rfl inf4 rfl rfl c4.1 c4.2, ?_⟩
 rintro _ w HS
 refine T.nn HS ?_
 refine T.fn [] tv tv (fun w HS => ?_)
 have HS : Sep.St [blk b0 (#[vb a0.known, Value.int .u32 a0.highest, vi ((w64 (a0.at_ + 1)).tmod (a0.came.length : Int)), vs (some ⟨eb5, eo6, none⟩) (a0.came.set ((w64 (a0.at_ + 1)).tmod (a0.came.length : Int)).toNat false).length c3_1]) 200, row 4 1 (.slice (some ⟨eb5, eo6, none⟩) (a0.came.set ((w64 (a0.at_ + 1)).tmod (a0.came.length : Int)).toNat false).length c3_1) (a0.came.set ((w64 (a0.at_ + 1)).tmod (a0.came.length : Int)).toNat false).length ((a0.came.set ((w64 (a0.at_ + 1)).tmod (a0.came.length : Int)).toNat false).map Value.bool), R] w0 w := by simpa only [List.length_set, List.set_cons_succ, List.set_cons_zero] using HS
 replace HS := twins_Table.close tv HS
 cases H
 exact At.end0 rfl ⟨_, rfl, rfl, HS⟩
mutual
def twins_Table_Fresh.l0 : Nat → twins_Table → Int → Int → twins_Table → Option (Bool × twins_Table)
 | 0, _, _, _, _ => none
 | k + 1, a0, a1, x8, x9 => (if x8 < (imin (IntKind.u32.wrap (a1 - a0.highest)) (IntKind.u32.wrap (a0.came.length : Int))) then ((twins_Table_raise.f x9).bind fun t13 => (twins_Table_Fresh.l0 k a0 a1 (IntKind.u32.wrap (x8 + 1)) t13)) else ((twins_Table_first.f ({ x9 with highest := a1 } : twins_Table) 0).bind fun t17 => some t17))
end
def twins_Table_Fresh.f (k : Nat) (a0 : twins_Table) (a1 : Int) : Option (Bool × twins_Table) := (if a0.known = true then (if (IntKind.u32.wrap (a0.highest - a1)) = 0 then some (false, a0) else (if (IntKind.u32.wrap (a1 - a0.highest)) < 2147483648 then (twins_Table_Fresh.l0 k a0 a1 0 a0) else (if (IntKind.u32.wrap (a0.highest - a1)) < (IntKind.u32.wrap (a0.came.length : Int)) then ((twins_Table_first.f a0 (w64 (IntKind.u32.wrap (a0.highest - a1)))).bind fun t20 => some t20) else some (false, a0)))) else ((twins_Table_first.f ({ a0 with known := true, highest := a1 } : twins_Table) 0).bind fun t22 => some t22))
theorem twins_Table_Fresh.calls {k : Nat} {a0 : twins_Table} {a1 : Int} {R : As} {w0 w : World} {b0 : Nat} {r : Bool × twins_Table} (H : twins_Table_Fresh.f k a0 a1 = some r) (HS : Sep.St [twins_Table.at b0 a0, R] w0 w)  : Calls Tryz.prog 245 #[pt b0, Value.int .u32 a1] w (Ret fun u w => u = vb r.1 ∧ Sep.St [twins_Table.at b0 r.2, R] w0 w) := by
 unfold twins_Table_Fresh.f at H
 refine calls_enter func245 rfl rfl ?_
 have H : _ = some r := H
 refine V.seq (V.region (W.as rfl (W.nx (V.seq (V.seq (V.region (W.mv rfl (W.nc rfl ?_))))))))
 obtain ⟨a3_2, c3_2, hi3, HS⟩ := twins_Table.open HS
 refine W.fa fo200_0 rfl (W.ld 0 HS underlying4 rfl rfl rfl rfl (W.r (X.not rfl) rfl (W.nx ?_)))
 by_cases c4 : a0.known = true
 ·replace H := ite_t c4 H
  refine V.condF (sb (n_t c4)) (V.skip (At.next (V.seq (V.dr [] [] [(21, Value.int .u32 a1), (22, pt b0), (23, pt b0), (24, po b0 (0 + 1)), (25, Value.int .u32 a0.highest), (26, Value.int .u32 (IntKind.u32.wrap (a1 - a0.highest))), (27, pt b0), (28, pt b0), (29, po b0 (0 + 1)), (30, Value.int .u32 a0.highest), (31, Value.int .u32 a1), (32, Value.int .u32 (IntKind.u32.wrap (a0.highest - a1))), (5, Value.int .u32 (IntKind.u32.wrap (a1 - a0.highest))), (6, Value.int .u32 (IntKind.u32.wrap (a0.highest - a1)))] mo HS ?_))))
  refine T.fn [(0, _), (1, _), (5, _), (6, _)] ⟨rfl, rfl, rfl, rfl, tv⟩ ⟨.mv 1, .mv 0, .nc 22, .fa 23 fo200_1, .ld 24 0 underlying95, .n2 21 25 rfl rfl rfl (fun w HS => X.sub rfl rfl), .mv 0, .nc 27, .fa 28 fo200_1, .ld 29 0 underlying95, .mv 1, .n2 30 31 rfl rfl rfl (fun w HS => X.sub rfl rfl), .as 26, .as 32, tv⟩ (fun w HS => ?_)
  refine At.next (V.seq (V.block (V.seq (V.region (W.mv rfl (W.r (X.cmp (decide ((IntKind.u32.wrap (a0.highest - a1)) = 0)) rfl rfl rfl rfl) rfl (W.as rfl (W.nx ?_))))))))
  by_cases c6 : (IntKind.u32.wrap (a0.highest - a1)) = 0
  ·replace H := ite_t c6 H
   refine V.condT (sb (dT c6)) (V.seq (V.region (W.as rfl (W.nx (V.ret (At.blockRet (At.thenRet ?_)))))))
   replace HS := twins_Table.close tv HS
   cases H
   exact At.ret1 rfl rfl ⟨_, rfl, rfl, HS⟩
  ·replace H := ite_f c6 H
   refine V.condF (sb (dF c6)) (V.seq (V.region (W.mv rfl (W.r (X.cmp (decide ((IntKind.u32.wrap (a1 - a0.highest)) < 2147483648)) rfl rfl rfl rfl) rfl (W.as rfl (W.nx ?_))))))
   by_cases c7 : (IntKind.u32.wrap (a1 - a0.highest)) < 2147483648
   ·replace H := ite_t c7 H
    refine V.condT (sb (dT c7)) (V.seq (V.seq (V.region (W.mv rfl (W.mv rfl (W.nc rfl (W.fa fo200_3 rfl (W.ld 0 HS underlying172 rfl rfl rfl rfl (W.r (X.lenSl underlying172 rfl) rfl (W.r (X.conv underlying3 underlying95 rfl) rfl (W.r (X.min2 rfl rfl) rfl (W.mv rfl (W.nx (V.block ?_))))))))))))))
    replace HS := twins_Table.close tv HS
    refine V.loop (σ := Int × twins_Table) (fun kq (st : Int × twins_Table) w => match st with | (x8, x9) => Sep.St [twins_Table.at b0 x9, R] w0 w ∧ twins_Table_Fresh.l0 kq a0 a1 x8 x9 = some r ∧ kq ≤ k) (fun st => match st with | (x8, x9) => [(0, pt b0), (1, Value.int .u32 a1), (46, Value.int .u32 (imin (IntKind.u32.wrap (a1 - a0.highest)) (IntKind.u32.wrap (a0.came.length : Int)))), (47, Value.int .u32 x8)]) k (0, a0) ⟨rfl, rfl, rfl, rfl, tv⟩ ⟨HS, H, Nat.le_refl _⟩ ?_
    rintro kq10 ⟨x8, x9⟩ w ⟨HS, H, hk11⟩
    cases kq10 with
    | zero => exact absurd H (by simp [twins_Table_Fresh.l0])
    | succ kq10 =>
     simp only [twins_Table_Fresh.l0] at H
     refine V.seq (V.region (W.r (X.cmp (decide (x8 < (imin (IntKind.u32.wrap (a1 - a0.highest)) (IntKind.u32.wrap (a0.came.length : Int))))) rfl rfl rfl rfl) rfl (W.nx (V.seq ?_))))
     by_cases c12 : x8 < (imin (IntKind.u32.wrap (a1 - a0.highest)) (IntKind.u32.wrap (a0.came.length : Int)))
     ·replace H := ite_t c12 H
      refine V.condT (sb (dT c12)) (V.skip (At.next (V.seq (V.block (V.region (W.mv rfl ?_))))))
      obtain ⟨t13, A14, H⟩ := bind_s H
      refine W.e (Y.cl func278 (twins_Table_raise.calls A14 HS.j1)) rfl ?_
      rintro _ w ⟨rfl, HS⟩
      replace HS := HS.o1
      refine W.nil (At.blockEnd (At.next (V.region (W.r (X.add rfl rfl) rfl (W.mv rfl (W.nil ?_))))))
      exact At.round kq10 (by omega) (IntKind.u32.wrap (x8 + 1), t13) ⟨rfl, rfl, rfl, rfl, tv⟩ ⟨HS, H, by omega⟩
     ·replace H := ite_f c12 H
      refine V.condF (sb (dF c12)) (V.exit (At.thenExit (At.thenExit (At.blockExit (At.next (V.seq (V.region (W.mv rfl (W.mv rfl (W.nc rfl ?_))))))))))
      obtain ⟨a3_15, c3_15, hi16, HS⟩ := twins_Table.open HS
      refine W.fa fo200_1 rfl (W.st 0 1 HS inf95 rfl rfl rfl rfl rfl rfl fun w HS => ?_)
      refine W.nx (V.seq (V.region (W.mv rfl ?_)))
      replace HS := twins_Table.close tv HS
      obtain ⟨t17, A18, H⟩ := bind_s H
      refine W.e (Y.cl func277 (twins_Table_first.calls A18 HS.j1)) rfl ?_
      rintro _ w ⟨rfl, HS⟩
      replace HS := HS.o1
      refine W.as rfl (W.nx (V.ret (At.blockRet (At.thenRet ?_))))
      cases H
      exact At.ret1 rfl rfl ⟨_, rfl, rfl, HS⟩
   ·replace H := ite_f c7 H
    refine V.condF (sb (dF c7)) (V.skip (At.blockEnd (At.next (V.seq (V.region (W.mv rfl (W.mv rfl (W.nc rfl (W.fa fo200_3 rfl (W.ld 0 HS underlying172 rfl rfl rfl rfl (W.r (X.lenSl underlying172 rfl) rfl (W.r (X.conv underlying3 underlying95 rfl) rfl (W.r (X.cmp (decide ((IntKind.u32.wrap (a0.highest - a1)) < (IntKind.u32.wrap (a0.came.length : Int)))) rfl rfl rfl rfl) rfl (W.mv rfl ?_))))))))))))))
    by_cases c19 : (IntKind.u32.wrap (a0.highest - a1)) < (IntKind.u32.wrap (a0.came.length : Int))
    ·replace H := ite_t c19 H
     refine W.want 66 rfl (sb (dT c19)) (W.mv rfl (W.want 66 rfl (sb (dT c19)) (W.mv rfl (W.want 66 rfl (sb (dT c19)) (W.r (X.conv underlying95 underlying3 rfl) rfl (W.want 66 rfl (sb (dT c19)) ?_))))))
     replace HS := twins_Table.close tv HS
     obtain ⟨t20, A21, H⟩ := bind_s H
     refine W.e (Y.cl func277 (twins_Table_first.calls A21 HS.j1)) rfl ?_
     rintro _ w ⟨rfl, HS⟩
     replace HS := HS.o1
     refine W.r (X.pickT (sb (dT c19)) rfl) rfl (W.as rfl (W.nx (V.ret ?_)))
     cases H
     exact At.ret1 rfl rfl ⟨_, rfl, rfl, HS⟩
    ·replace H := ite_f c19 H
     refine W.pass 66 rfl (sb (dF c19)) rfl rfl (W.pass 66 rfl (sb (dF c19)) rfl rfl (W.pass 66 rfl (sb (dF c19)) rfl rfl (W.pass 66 rfl (sb (dF c19)) rfl rfl (W.r (X.pickF (sb (dF c19)) rfl) rfl (W.as rfl (W.nx (V.ret ?_)))))))
     replace HS := twins_Table.close tv HS
     cases H
     exact At.ret1 rfl rfl ⟨_, rfl, rfl, HS⟩
 ·replace H := ite_f c4 H
  refine V.condT (sb (n_f (b_f c4))) (V.seq (V.region (W.mv rfl (W.mv rfl (W.mv rfl (W.nc rfl (W.fa fo200_0 rfl (W.st 0 0 HS inf4 rfl rfl rfl rfl rfl rfl fun w HS => ?_))))))))
  refine W.nc rfl (W.fa fo200_1 rfl (W.st 0 1 HS inf95 rfl rfl rfl rfl rfl rfl fun w HS => ?_))
  refine W.nx (V.seq (V.region (W.mv rfl ?_)))
  replace HS := twins_Table.close tv HS
  obtain ⟨t22, A23, H⟩ := bind_s H
  refine W.e (Y.cl func277 (twins_Table_first.calls A23 HS.j1)) rfl ?_
  rintro _ w ⟨rfl, HS⟩
  replace HS := HS.o1
  refine W.as rfl (W.nx (V.ret (At.thenRet ?_)))
  cases H
  exact At.ret1 rfl rfl ⟨_, rfl, rfl, HS⟩
mutual
def slices_Index_Sbytebyte.l0 : Nat → (List Int) → Int → Int → Option Int
 | 0, _, _, _ => none
 | k + 1, a0, a1, x1 => (if x1 < (a0.length : Int) then (if 0 ≤ x1 ∧ x1 < (a0.length : Int) then (if a1 = (a0.getD x1.toNat 0) then some x1 else (slices_Index_Sbytebyte.l0 k a0 a1 (w64 (x1 + 1)))) else none) else some (-1))
end
def slices_Index_Sbytebyte.f (k : Nat) (a0 : List Int) (a1 : Int) : Option Int := (slices_Index_Sbytebyte.l0 k a0 a1 0)
theorem slices_Index_Sbytebyte.calls {k : Nat} {a0 : List Int} {a1 : Int} {R : As} {w0 w : World} {sa0 : Option Addr} {sc0 : Nat} {r : Int} (H : slices_Index_Sbytebyte.f k a0 a1 = some r) (HS : Sep.St [R] w0 w) (hr0 : rdC R 1 (.slice sa0 a0.length sc0) a0.length (a0.map (Value.int .u8))) : Calls Tryz.prog 303 #[vs sa0 a0.length sc0, Value.int .u8 a1] w (Ret fun u w => u = vi r ∧ Sep.St [R] w0 w) := by
 unfold slices_Index_Sbytebyte.f at H
 refine calls_enter func303 rfl rfl ?_
 have H : _ = some r := H
 refine V.seq (V.region (W.as rfl (W.nx (V.seq (V.seq (V.region (W.mv rfl (W.r (X.lenSl underlying48 rfl) rfl (W.mv rfl (W.nx (V.block (V.loop (σ := Int) (fun kq (st : Int) w => match st with | x1 => Sep.St [R] w0 w ∧ slices_Index_Sbytebyte.l0 kq a0 a1 x1 = some r ∧ kq ≤ k) (fun st => match st with | x1 => [(0, vs sa0 a0.length sc0), (1, Value.int .u8 a1), (7, vi (a0.length : Int)), (8, vi x1)]) k (0) ⟨rfl, rfl, rfl, rfl, tv⟩ ⟨HS, H, Nat.le_refl _⟩ ?_))))))))))))
 rintro kq2 x1 w ⟨HS, H, hk3⟩
 cases kq2 with
 | zero => exact absurd H (by simp [slices_Index_Sbytebyte.l0])
 | succ kq2 =>
  simp only [slices_Index_Sbytebyte.l0] at H
  refine V.seq (V.region (W.r (X.cmp (decide (x1 < (a0.length : Int))) rfl rfl rfl rfl) rfl (W.nx (V.seq ?_))))
  by_cases c4 : x1 < (a0.length : Int)
  ·replace H := ite_t c4 H
   refine V.condT (sb (dT c4)) (V.skip (At.next (V.seq (V.block (V.seq (V.region (W.mv rfl (W.as rfl (W.nx (V.seq (V.region (W.mv rfl (W.mv rfl (W.mv rfl ?_))))))))))))))
   obtain ⟨c5, H⟩ := ite_n H
   obtain ⟨eb6, eo7, hh⟩ := (rdC.at 0 hr0 HS rfl).some (by decide) c5.1 c5.2; subst hh
   refine W.r (X.indexSl underlying48 inf5 rfl rfl c5.1 c5.2) rfl (W.r (X.load underlying5 rfl rfl ((rdC.at 0 hr0 HS rfl).cellI c5.1 c5.2)) rfl (W.r (X.cmp (decide (a1 = (a0.getD x1.toNat 0))) rfl rfl rfl rfl) rfl (W.nx ?_)))
   by_cases c8 : a1 = (a0.getD x1.toNat 0)
   ·replace H := ite_t c8 H
    refine V.condT (sb (dT c8)) (V.seq (V.region (W.mv rfl (W.as rfl (W.nx (V.ret (At.blockRet (At.thenRet (At.thenRet (At.blockRet (At.thenRet ?_)))))))))))
    cases H
    exact At.ret1 rfl rfl ⟨_, rfl, rfl, HS⟩
   ·replace H := ite_f c8 H
    refine V.condF (sb (dF c8)) (V.skip (At.blockEnd (At.next (V.region (W.r (X.add rfl rfl) rfl (W.mv rfl (W.nil ?_)))))))
    exact At.round kq2 (by omega) (w64 (x1 + 1)) ⟨rfl, rfl, rfl, rfl, tv⟩ ⟨HS, H, by omega⟩
  ·replace H := ite_f c4 H
   refine V.condF (sb (dF c4)) (V.exit (At.thenExit (At.thenExit (At.blockExit (At.next (V.seq (V.region (W.as rfl (W.nx (V.ret ?_))))))))))
   cases H
   exact At.ret1 rfl rfl ⟨_, rfl, rfl, HS⟩
mutual
def control_number.l0 : Nat → (List Int) → Int → Int → Option Int
 | 0, _, _, _ => none
 | k + 1, a0, x1, x2 => (if x2 < (a0.length : Int) then (if 0 ≤ x2 ∧ x2 < (a0.length : Int) then (if ¬ (w64 (8 * x2) < 0) then (control_number.l0 k a0 (ior .i64 x1 (w64 ((w64 (a0.getD x2.toNat 0)) * 2 ^ (min (w64 (8 * x2)).toNat IntKind.i64.bits)))) (w64 (x2 + 1))) else none) else none) else some x1)
end
def control_number.f (k : Nat) (a0 : List Int) : Option Int := (control_number.l0 k a0 0 0)
theorem control_number.calls {k : Nat} {a0 : List Int} {R : As} {w0 w : World} {sa0 : Option Addr} {sc0 : Nat} {r : Int} (H : control_number.f k a0 = some r) (HS : Sep.St [R] w0 w) (hr0 : rdC R 1 (.slice sa0 a0.length sc0) a0.length (a0.map (Value.int .u8))) : Calls Tryz.prog 304 #[vs sa0 a0.length sc0] w (Ret fun u w => u = vi r ∧ Sep.St [R] w0 w) := by
 unfold control_number.f at H
 refine calls_enter func304 rfl rfl ?_
 have H : _ = some r := H
 refine V.seq (V.region (W.as rfl (W.nx (V.seq (V.region (W.as rfl (W.nx (V.seq (V.seq (V.region (W.mv rfl (W.r (X.lenSl underlying48 rfl) rfl (W.mv rfl (W.nx (V.block (V.loop (σ := Int × Int) (fun kq (st : Int × Int) w => match st with | (x1, x2) => Sep.St [R] w0 w ∧ control_number.l0 kq a0 x1 x2 = some r ∧ kq ≤ k) (fun st => match st with | (x1, x2) => [(3, vi x1), (6, vs sa0 a0.length sc0), (7, vi (a0.length : Int)), (8, vi x2)]) k (0, 0) ⟨rfl, rfl, rfl, rfl, tv⟩ ⟨HS, H, Nat.le_refl _⟩ ?_))))))))))))))))
 rintro kq3 ⟨x1, x2⟩ w ⟨HS, H, hk4⟩
 cases kq3 with
 | zero => exact absurd H (by simp [control_number.l0])
 | succ kq3 =>
  simp only [control_number.l0] at H
  refine V.seq (V.region (W.r (X.cmp (decide (x2 < (a0.length : Int))) rfl rfl rfl rfl) rfl (W.nx (V.seq ?_))))
  by_cases c5 : x2 < (a0.length : Int)
  ·replace H := ite_t c5 H
   refine V.condT (sb (dT c5)) (V.skip (At.next (V.seq (V.block (V.seq (V.region (W.mv rfl ?_)))))))
   obtain ⟨c6, H⟩ := ite_n H
   obtain ⟨eb7, eo8, hh⟩ := (rdC.at 0 hr0 HS rfl).some (by decide) c6.1 c6.2; subst hh
   refine W.r (X.indexSl underlying48 inf5 rfl rfl c6.1 c6.2) rfl (W.r (X.load underlying5 rfl rfl ((rdC.at 0 hr0 HS rfl).cellI c6.1 c6.2)) rfl (W.as rfl (W.as rfl (W.nx (V.region (W.mv rfl (W.mv rfl (W.r (X.conv underlying5 underlying3 rfl) rfl (W.mv rfl (W.r (X.mul rfl rfl) rfl ?_))))))))))
   obtain ⟨c9, H⟩ := ite_n H
   refine W.r (X.shl rfl rfl c9) rfl (W.r (X.or rfl rfl) rfl (W.as rfl (W.nil (At.blockEnd (At.next (V.region (W.r (X.add rfl rfl) rfl (W.mv rfl (W.nil ?_)))))))))
   exact At.round kq3 (by omega) (ior .i64 x1 (w64 ((w64 (a0.getD x2.toNat 0)) * 2 ^ (min (w64 (8 * x2)).toNat IntKind.i64.bits))), w64 (x2 + 1)) ⟨rfl, rfl, rfl, rfl, tv⟩ ⟨HS, H, by omega⟩
  ·replace H := ite_f c5 H
   refine V.condF (sb (dF c5)) (V.exit (At.thenExit (At.thenExit (At.blockExit (At.next (V.seq (V.region (W.mv rfl (W.as rfl (W.nx (V.ret ?_)))))))))))
   cases H
   exact At.ret1 rfl rfl ⟨_, rfl, rfl, HS⟩
mutual
def control_Read.j0 (k : Nat) (a0 : List Int) (a1 : Int) (x20 : api_Ctl) : Option (api_Ctl × Int × Int) := ((control_put.f ([] : List Int) 0 a1).bind fun t22 => (if (a0.length : Int) < (w64 (2 * (t22.length : Int))) then some (({ Kind := 0, Ns := 0, Nr := 0, Poll := false } : api_Ctl), 0, 3) else (if 0 ≤ (0 : Int) ∧ (0 : Int) ≤ (t22.length : Int) ∧ (t22.length : Int) ≤ (a0.length : Int) then (if 0 ≤ (t22.length : Int) ∧ (t22.length : Int) ≤ w64 (2 * (t22.length : Int)) ∧ w64 (2 * (t22.length : Int)) ≤ (a0.length : Int) then ((control_number.f k (cut a0 (0 : Int) (t22.length : Int))).bind fun t31 => ((control_number.f k (cut a0 (t22.length : Int) (w64 (2 * (t22.length : Int))))).bind fun t33 => (if x20.Kind = 0 then some (({ Kind := x20.Kind, Ns := w64 (t31.tdiv (2)), Nr := w64 (t33.tdiv (2)), Poll := decide ((iand .i64 t33 (1)) = 1) } : api_Ctl), w64 (2 * (t22.length : Int)), 0) else (if t31 = (w64 (a0.getD (0 : Int).toNat 0)) then some (({ x20 with Nr := w64 (t33.tdiv (2)), Poll := decide ((iand .i64 t33 (1)) = 1) } : api_Ctl), w64 (2 * (t22.length : Int)), 0) else some (({ Kind := 0, Ns := 0, Nr := 0, Poll := false } : api_Ctl), 0, 2))))) else none) else none)))
end
def control_Read.f (k : Nat) (a0 : List Int) (a1 : Int) : Option (api_Ctl × Int × Int) := ((control_modulus.f a1).bind fun t3 => (if t3 = true then (if (a0.length : Int) = 0 then some (({ Kind := 0, Ns := 0, Nr := 0, Poll := false } : api_Ctl), 0, 3) else (if 0 ≤ (0 : Int) ∧ (0 : Int) < (a0.length : Int) then ((control_plain.f ).bind fun t11 => ((slices_Index_Sbytebyte.f k t11 (iandn .u8 (a0.getD (0 : Int).toNat 0) (16))).bind fun t13 => (if t13 ≥ 0 then some (({ Kind := w64 (3 + t13), Ns := 0, Nr := 0, Poll := !(decide ((iand .u8 (a0.getD (0 : Int).toNat 0) (16)) = 0)) } : api_Ctl), 1, 0) else (if (a0.getD (0 : Int).toNat 0) = 1 then (control_Read.j0 k a0 a1 ({ Kind := 1, Ns := 0, Nr := 0, Poll := false } : api_Ctl)) else (if (a0.getD (0 : Int).toNat 0) = 9 then (control_Read.j0 k a0 a1 ({ Kind := 2, Ns := 0, Nr := 0, Poll := false } : api_Ctl)) else (if (iand .u8 (a0.getD (0 : Int).toNat 0) (1)) = 1 then some (({ Kind := 0, Ns := 0, Nr := 0, Poll := false } : api_Ctl), 0, 2) else (control_Read.j0 k a0 a1 ({ Kind := 0, Ns := 0, Nr := 0, Poll := false } : api_Ctl)))))))) else none)) else some (({ Kind := 0, Ns := 0, Nr := 0, Poll := false } : api_Ctl), 0, 1)))
theorem control_Read.calls {k : Nat} {a0 : List Int} {a1 : Int} {R : As} {w0 w : World} {sa0 : Option Addr} {sc0 : Nat} {r : api_Ctl × Int × Int} (H : control_Read.f k a0 a1 = some r) (HS : Sep.St [R] w0 w) (hr0 : rdC R 1 (.slice sa0 a0.length sc0) a0.length (a0.map (Value.int .u8))) : Calls Tryz.prog 279 #[vs sa0 a0.length sc0, vi a1] w (Ret fun u w => u = Value.tuple #[Value.agg #[vi r.1.Kind, vi r.1.Ns, vi r.1.Nr, vb r.1.Poll], vi r.2.1, vi r.2.2] ∧ Sep.St [R] w0 w) := by
 unfold control_Read.f at H
 refine calls_enter func279 rfl rfl ?_
 have H : _ = some r := H
 refine V.seq (V.region (W.e (Y.alloc (z := Value.agg (#[vi (0), vi (0), vi (0), vb false])) HS ze161) rfl ?_))
 rintro _ w ⟨nb1, rfl, HS⟩
 refine W.as rfl (W.as rfl (W.nx (V.seq (V.seq (V.region (W.mv rfl ?_))))))
 obtain ⟨t3, A4, H⟩ := bind_s H
 refine W.e (Y.cl func299 (control_modulus.calls A4 HS.j0)) rfl ?_
 rintro _ w ⟨rfl, HS⟩
 replace HS := HS.o0
 refine W.r (X.not rfl) rfl (W.nx ?_)
 by_cases c5 : t3 = true
 ·replace H := ite_t c5 H
  refine V.condF (sb (n_t c5)) (V.skip (At.next (V.seq (V.seq (V.region (W.mv rfl (W.r (X.lenSl underlying48 rfl) rfl (W.r (X.cmp (decide ((a0.length : Int) = 0)) rfl rfl rfl rfl) rfl (W.nx ?_)))))))))
  by_cases c6 : (a0.length : Int) = 0
  ·replace H := ite_t c6 H
   refine V.condT (sb (dT c6)) (V.seq (V.region (W.r (X.bd (Value.agg #[vi (0), vi (0), vi (0), vb false]) rfl (fun _ => by kernel_rfl)) rfl (W.en (Y.storeSt (c' := #[vi (0), vi (0), vi (0), vb false]) 0 [vi (0), vi (0), vi (0), vb false] HS rfl inf161 rfl rfl rfl rfl rfl rfl) rfl ?_))))
   rintro _ w HS
   refine W.as rfl (W.as rfl (W.nx (V.ret (At.thenRet ?_))))
   have hv7 := run_loadSt (P := Tryz.prog) (p := 0) 0 [vi (0), vi (0), vi (0), vb false] HS rfl underlying161 rfl inf161 rfl
   replace HS := HS.pk [1] [0]
   cases H
   exact At.retv3 rfl ⟨_, rfl, hv7⟩ rfl rfl ⟨_, rfl, rfl, HS⟩
  ·replace H := ite_f c6 H
   refine V.condF (sb (dF c6)) (V.skip (At.next (V.seq (V.seq ?_))))
   obtain ⟨c8, H⟩ := ite_n H
   obtain ⟨eb9, eo10, hh⟩ := (rdC.at 1 hr0 HS rfl).some (by decide) c8.1 c8.2; subst hh
   refine V.dr [0, 5] [6] [(21, vs (some ⟨eb9, eo10, none⟩) a0.length sc0), (22, po eb9 (eo10 + (0 : Int).toNat * 1)), (23, Value.int .u8 (a0.getD (0 : Int).toNat 0)), (24, Value.int .u8 (iandn .u8 (a0.getD (0 : Int).toNat 0) (16)))] mo HS ?_
   refine T.ev [] [6] [] tv ⟨.mv 0, .n1 21 rfl rfl (fun w HS => X.indexSl underlying48 inf5 rfl rfl c8.1 c8.2), .n1 22 rfl rfl (fun w HS => X.load underlying5 rfl rfl ((rdC.at 1 hr0 HS rfl).cellI c8.1 c8.2)), .n1 23 rfl rfl (fun w HS => X.andNot rfl rfl), tv⟩ rfl (fun w HS => ?_)
   obtain ⟨t11, A12, H⟩ := bind_s H
   refine ⟨_, Y.cl func272 (control_plain.calls A12 HS.j0), ?_⟩
   rintro _ w ⟨at11_0, ct11_0, rfl, HS⟩
   replace HS := HS.o1
   refine T.nw HS ?_
   refine T.ev [(20, _), (24, _)] [] [1, 2, 3, 4] ⟨rfl, rfl, tv⟩ ⟨.mv 0, .n1 21 rfl rfl (fun w HS => X.indexSl underlying48 inf5 rfl rfl c8.1 c8.2), .n1 22 rfl rfl (fun w HS => X.load underlying5 rfl rfl ((rdC.at 2 hr0 HS rfl).cellI c8.1 c8.2)), .n1 23 rfl rfl (fun w HS => X.andNot rfl rfl), tv⟩ rfl (fun w HS => ?_)
   obtain ⟨t13, A14, H⟩ := bind_s H
   refine ⟨_, Y.cl func303 (slices_Index_Sbytebyte.calls A14 HS.j0 (rdC.part 0 row_rd rfl)), ?_⟩
   rintro _ w ⟨rfl, HS⟩
   replace HS := HS.o0
   refine T.nm [(25, vi t13), (7, vi t13)] HS ⟨.inl ⟨rfl, rfl⟩, ⟨.inr ⟨by decide, rfl⟩, tv⟩⟩ ?_
   refine T.fn [(0, _), (1, _), (4, _), (7, _)] ⟨rfl, rfl, rfl, rfl, tv⟩ ⟨.as 25, tv⟩ (fun w HS => ?_)
   refine At.next (V.seq (V.region (W.mv rfl (W.r (X.cmp (decide (t13 ≥ 0)) rfl rfl rfl rfl) rfl (W.nx ?_)))))
   by_cases c15 : t13 ≥ 0
   ·replace H := ite_t c15 H
    refine V.condT (sb (dT c15)) (V.seq (V.region (W.mv rfl (W.r (X.add rfl rfl) rfl (W.mv rfl (W.r (X.indexSl underlying48 inf5 rfl rfl c8.1 c8.2) rfl (W.r (X.load underlying5 rfl rfl ((rdC.at 2 hr0 HS rfl).cellI c8.1 c8.2)) rfl (W.r (X.and rfl rfl) rfl (W.r (X.cmp (!(decide ((iand .u8 (a0.getD (0 : Int).toNat 0) (16)) = 0))) rfl rfl rfl rfl) rfl (W.r (X.bd (Value.agg #[vi (w64 (3 + t13)), vi (0), vi (0), vb (!(decide ((iand .u8 (a0.getD (0 : Int).toNat 0) (16)) = 0)))]) rfl (fun _ => by kernel_rfl)) rfl (W.en (Y.storeSt (c' := #[vi (w64 (3 + t13)), vi (0), vi (0), vb (!(decide ((iand .u8 (a0.getD (0 : Int).toNat 0) (16)) = 0)))]) 1 [vi (w64 (3 + t13)), vi (0), vi (0), vb (!(decide ((iand .u8 (a0.getD (0 : Int).toNat 0) (16)) = 0)))] HS rfl inf161 rfl rfl rfl rfl rfl rfl) rfl ?_)))))))))))
    rintro _ w HS
    refine W.as rfl (W.as rfl (W.nx (V.ret (At.thenRet ?_))))
    have hv16 := run_loadSt (P := Tryz.prog) (p := 0) 1 [vi (w64 (3 + t13)), vi (0), vi (0), vb (!(decide ((iand .u8 (a0.getD (0 : Int).toNat 0) (16)) = 0)))] HS rfl underlying161 rfl inf161 rfl
    replace HS := HS.pk [2] [0, 1]
    cases H
    exact At.retv3 rfl ⟨_, rfl, hv16⟩ rfl rfl ⟨_, rfl, rfl, HS⟩
   ·replace H := ite_f c15 H
    refine V.condF (sb (dF c15)) (V.skip (At.next (V.seq (V.region (W.r (X.bd (Value.agg #[vi (0), vi (0), vi (0), vb false]) rfl (fun _ => by kernel_rfl)) rfl (W.e (Y.alloc (z := Value.agg (#[vi (0), vi (0), vi (0), vb false])) HS ze161) rfl ?_))))))
    rintro _ w ⟨nb17, rfl, HS⟩
    refine W.en (Y.storeSt (c' := #[vi (0), vi (0), vi (0), vb false]) 0 [vi (0), vi (0), vi (0), vb false] HS rfl inf161 rfl rfl rfl rfl rfl rfl) rfl ?_
    rintro _ w HS
    refine W.nx (V.meet (σ := api_Ctl) (fun st w => match st with | x20 => Sep.St [api_Ctl.at nb1 ({ Kind := 0, Ns := 0, Nr := 0, Poll := false } : api_Ctl), api_Ctl.at nb17 x20, row 5 1 (.slice at11_0 t11.length ct11_0) t11.length (t11.map (Value.int .u8)), R] w0 w ∧ ∃ kf21, kf21 ≤ k ∧ control_Read.j0 kf21 a0 a1 x20 = some r) (fun st => match st with | x20 => [(0, vs (some ⟨eb9, eo10, none⟩) a0.length sc0), (1, vi a1), (4, pt nb1), (8, pt nb17)]) ?_ ?_)
    ·refine V.block (V.seq (V.region (W.mv rfl (W.r (X.indexSl underlying48 inf5 rfl rfl c8.1 c8.2) rfl (W.r (X.load underlying5 rfl rfl ((rdC.at 3 hr0 HS rfl).cellI c8.1 c8.2)) rfl (W.r (X.cmp (decide ((a0.getD (0 : Int).toNat 0) = 1)) rfl rfl rfl rfl) rfl (W.as rfl (W.nx ?_))))))))
     by_cases c48 : (a0.getD (0 : Int).toNat 0) = 1
     ·replace H := ite_t c48 H
      refine V.condT (sb (dT c48)) (V.region (W.fa fo161_0 rfl (W.st 0 0 HS inf3 rfl rfl rfl rfl rfl rfl fun w HS => ?_)))
      refine W.nil (At.blockEnd ?_)
      replace HS := HS.pm [2, 0, 1, 3]
      replace HS := api_Ctl.close tv HS
      replace HS := HS.pm [1, 0, 2, 3]
      replace HS := api_Ctl.close tv HS
      replace HS := HS.pk [1, 0, 2, 3] []
      exact At.meet ({ Kind := 1, Ns := 0, Nr := 0, Poll := false } : api_Ctl) ⟨rfl, rfl, rfl, rfl, tv⟩ ⟨HS, k, by omega, H⟩
     ·replace H := ite_f c48 H
      refine V.condF (sb (dF c48)) (V.seq (V.region (W.mv rfl (W.r (X.indexSl underlying48 inf5 rfl rfl c8.1 c8.2) rfl (W.r (X.load underlying5 rfl rfl ((rdC.at 3 hr0 HS rfl).cellI c8.1 c8.2)) rfl (W.r (X.cmp (decide ((a0.getD (0 : Int).toNat 0) = 9)) rfl rfl rfl rfl) rfl (W.as rfl (W.nx ?_))))))))
      by_cases c49 : (a0.getD (0 : Int).toNat 0) = 9
      ·replace H := ite_t c49 H
       refine V.condT (sb (dT c49)) (V.region (W.fa fo161_0 rfl (W.st 0 0 HS inf3 rfl rfl rfl rfl rfl rfl fun w HS => ?_)))
       refine W.nil (At.blockEnd ?_)
       replace HS := HS.pm [2, 0, 1, 3]
       replace HS := api_Ctl.close tv HS
       replace HS := HS.pm [1, 0, 2, 3]
       replace HS := api_Ctl.close tv HS
       replace HS := HS.pk [1, 0, 2, 3] []
       exact At.meet ({ Kind := 2, Ns := 0, Nr := 0, Poll := false } : api_Ctl) ⟨rfl, rfl, rfl, rfl, tv⟩ ⟨HS, k, by omega, H⟩
      ·replace H := ite_f c49 H
       refine V.condF (sb (dF c49)) (V.seq (V.region (W.mv rfl (W.r (X.indexSl underlying48 inf5 rfl rfl c8.1 c8.2) rfl (W.r (X.load underlying5 rfl rfl ((rdC.at 3 hr0 HS rfl).cellI c8.1 c8.2)) rfl (W.r (X.and rfl rfl) rfl (W.r (X.cmp (decide ((iand .u8 (a0.getD (0 : Int).toNat 0) (1)) = 1)) rfl rfl rfl rfl) rfl (W.as rfl (W.nx ?_)))))))))
       by_cases c50 : (iand .u8 (a0.getD (0 : Int).toNat 0) (1)) = 1
       ·replace H := ite_t c50 H
        refine V.condT (sb (dT c50)) (V.seq (V.region (W.r (X.bd (Value.agg #[vi (0), vi (0), vi (0), vb false]) rfl (fun _ => by kernel_rfl)) rfl (W.en (Y.storeSt (c' := #[vi (0), vi (0), vi (0), vb false]) 2 [vi (0), vi (0), vi (0), vb false] HS rfl inf161 rfl rfl rfl rfl rfl rfl) rfl ?_))))
        rintro _ w HS
        refine W.as rfl (W.as rfl (W.nx (V.ret (At.blockRet (At.thenRet ?_)))))
        have hv51 := run_loadSt (P := Tryz.prog) (p := 0) 2 [vi (0), vi (0), vi (0), vb false] HS rfl underlying161 rfl inf161 rfl
        replace HS := HS.pk [3] [0, 1, 2]
        cases H
        exact At.retv3 rfl ⟨_, rfl, hv51⟩ rfl rfl ⟨_, rfl, rfl, HS⟩
       ·replace H := ite_f c50 H
        refine V.condF (sb (dF c50)) (V.skip (At.blockEnd ?_))
        replace HS := HS.pm [2, 0, 1, 3]
        replace HS := api_Ctl.close tv HS
        replace HS := HS.pm [1, 0, 2, 3]
        replace HS := api_Ctl.close tv HS
        replace HS := HS.pk [1, 0, 2, 3] []
        exact At.meet ({ Kind := 0, Ns := 0, Nr := 0, Poll := false } : api_Ctl) ⟨rfl, rfl, rfl, rfl, tv⟩ ⟨HS, k, by omega, H⟩
    ·rintro x20 w ⟨HS, kf21, hkkf21, H⟩
     unfold control_Read.j0 at H
     refine V.seq (V.region (W.mv rfl ?_))
     replace HS := row_nilF (Value.int .u8) 5 1 HS
     obtain ⟨t22, A23, H⟩ := bind_s H
     refine W.e (Y.cl func271 (control_put.calls A23 HS.j1)) rfl ?_
     rintro _ w ⟨at22_0, ct22_0, rfl, HS⟩
     replace HS := HS.o1
     refine W.r (X.lenSl underlying48 rfl) rfl (W.as rfl (W.nx (V.seq (V.seq (V.region (W.mv rfl (W.r (X.lenSl underlying48 rfl) rfl (W.mv rfl (W.r (X.mul rfl rfl) rfl (W.r (X.cmp (decide ((a0.length : Int) < (w64 (2 * (t22.length : Int))))) rfl rfl rfl rfl) rfl (W.nx ?_)))))))))))
     by_cases c25 : (a0.length : Int) < (w64 (2 * (t22.length : Int)))
     ·replace H := ite_t c25 H
      refine V.condT (sb (dT c25)) (V.seq (V.region (W.r (X.bd (Value.agg #[vi (0), vi (0), vi (0), vb false]) rfl (fun _ => by kernel_rfl)) rfl ?_)))
      replace HS := HS.fr 1
      obtain ⟨hi27, HS⟩ := api_Ctl.open HS
      refine W.en (Y.storeSt (c' := #[vi (0), vi (0), vi (0), vb false]) 0 [vi (0), vi (0), vi (0), vb false] HS rfl inf161 rfl rfl rfl rfl rfl rfl) rfl ?_
      rintro _ w HS
      refine W.as rfl (W.as rfl (W.nx (V.ret (At.thenRet ?_))))
      have hv28 := run_loadSt (P := Tryz.prog) (p := 0) 0 [vi (0), vi (0), vi (0), vb false] HS rfl underlying161 rfl inf161 rfl
      replace HS := HS.pk [4] [0, 1, 2, 3]
      cases H
      exact At.retv3 rfl ⟨_, rfl, hv28⟩ rfl rfl ⟨_, rfl, rfl, HS⟩
     ·replace H := ite_f c25 H
      refine V.condF (sb (dF c25)) (V.skip (At.next (V.seq ?_)))
      obtain ⟨c29, H⟩ := ite_n H
      obtain ⟨c30, H⟩ := ite_n H
      refine V.dr [3, 9] [10, 11] [(65, vs (some ⟨eb9, eo10, none⟩) a0.length sc0), (66, vi (t22.length : Int)), (67, vs (vaddr (some ⟨eb9, eo10, none⟩) sc0 (0 : Int).toNat 1) (cut a0 (0 : Int) (t22.length : Int)).length (sc0 - (0 : Int).toNat)), (69, vs (some ⟨eb9, eo10, none⟩) a0.length sc0), (70, vi (t22.length : Int)), (71, vi (t22.length : Int)), (72, vi (w64 (2 * (t22.length : Int)))), (73, vs (vaddr (some ⟨eb9, eo10, none⟩) sc0 (t22.length : Int).toNat 1) (cut a0 (t22.length : Int) (w64 (2 * (t22.length : Int)))).length (sc0 - (t22.length : Int).toNat))] mo HS ?_
      refine T.ev [(67, _)] [10, 11] [0, 1, 2] ⟨rfl, tv⟩ ⟨.mv 0, .mv 9, .n2 65 66 rfl rfl rfl (fun w HS => X.slH underlying48 inf5 rfl rfl c29 (rdC.at 4 hr0 HS rfl).cap), .mv 0, .mv 9, .mv 9, .n1 71 rfl rfl (fun w HS => X.mul rfl rfl), .ns [(69, _), (70, _), (72, _)] ⟨rfl, rfl, rfl, tv⟩ rfl (fun w HS => X.slLH underlying48 inf5 rfl rfl rfl c30 (rdC.at 4 hr0 HS rfl).cap), tv⟩ rfl (fun w HS => ?_)
      obtain ⟨t31, A32, H⟩ := bind_s H
      refine ⟨_, Y.cl func304 (control_number.calls A32 HS.j0 (rdC.part 4 (rdC.subM hr0 c29) rfl)), ?_⟩
      rintro _ w ⟨rfl, HS⟩
      replace HS := HS.o0
      refine T.nw HS ?_
      refine T.ev [(73, _)] [] [4, 5, 6, 7, 8] ⟨rfl, tv⟩ ⟨.mv 0, .mv 9, .mv 9, .n1 71 rfl rfl (fun w HS => X.mul rfl rfl), .ns [(69, _), (70, _), (72, _)] ⟨rfl, rfl, rfl, tv⟩ rfl (fun w HS => X.slLH underlying48 inf5 rfl rfl rfl c30 (rdC.at 4 hr0 HS rfl).cap), tv⟩ rfl (fun w HS => ?_)
      obtain ⟨t33, A34, H⟩ := bind_s H
      refine ⟨_, Y.cl func304 (control_number.calls A34 HS.j0 (rdC.part 4 (rdC.subM hr0 c30) rfl)), ?_⟩
      rintro _ w ⟨rfl, HS⟩
      replace HS := HS.o0
      refine T.nm [(74, vi t33), (10, vi t31), (11, vi t33)] HS ⟨.inl ⟨rfl, rfl⟩, ⟨.inr ⟨by decide, rfl⟩, ⟨.inr ⟨by decide, rfl⟩, tv⟩⟩⟩ ?_
      refine T.fn [(0, _), (4, _), (8, _), (9, _), (10, _), (11, _)] ⟨rfl, rfl, rfl, rfl, rfl, rfl, tv⟩ ⟨.as 68, .as 74, tv⟩ (fun w HS => ?_)
      refine At.next (V.seq (V.seq (V.region ?_)))
      replace HS := HS.fr 2
      obtain ⟨hi36, HS⟩ := api_Ctl.open HS
      refine W.fa fo161_0 rfl (W.ld 0 HS underlying3 rfl rfl rfl rfl (W.r (X.cmp (decide (x20.Kind = 0)) rfl rfl rfl rfl) rfl (W.nx ?_)))
      by_cases c37 : x20.Kind = 0
      ·replace H := ite_t c37 H
       refine V.condT (sb (dT c37)) (V.region (W.mv rfl (W.r (X.quo rfl rfl (by decide)) rfl (W.fa fo161_1 rfl (W.st 0 1 HS inf3 rfl rfl rfl rfl rfl rfl fun w HS => ?_)))))
       refine W.nx (V.seq (V.region (W.mv rfl (W.r (X.quo rfl rfl (by decide)) rfl (W.mv rfl (W.r (X.and rfl rfl) rfl (W.r (X.cmp (decide ((iand .i64 t33 (1)) = 1)) rfl rfl rfl rfl) rfl (W.fa fo161_2 rfl (W.st 0 2 HS inf3 rfl rfl rfl rfl rfl rfl fun w HS => ?_)))))))))
       refine W.fa fo161_3 rfl (W.st 0 3 HS inf4 rfl rfl rfl rfl rfl rfl fun w HS => ?_)
       refine W.nx (V.seq (V.region (W.r (X.loadSt 0 [vi x20.Kind, vi (w64 (t31.tdiv (2))), vi (w64 (t33.tdiv (2))), vb (decide ((iand .i64 t33 (1)) = 1))] HS rfl underlying161 rfl inf161 rfl rfl) rfl (W.mv rfl (W.r (X.mul rfl rfl) rfl ?_)))))
       replace HS := HS.fr 2
       obtain ⟨hi39, HS⟩ := api_Ctl.open HS
       refine W.en (Y.storeSt (c' := #[vi x20.Kind, vi (w64 (t31.tdiv (2))), vi (w64 (t33.tdiv (2))), vb (decide ((iand .i64 t33 (1)) = 1))]) 0 [vi x20.Kind, vi (w64 (t31.tdiv (2))), vi (w64 (t33.tdiv (2))), vb (decide ((iand .i64 t33 (1)) = 1))] HS rfl inf161 rfl rfl rfl rfl rfl rfl) rfl ?_
       rintro _ w HS
       refine W.as rfl (W.as rfl (W.nx (V.ret ?_)))
       have hv40 := run_loadSt (P := Tryz.prog) (p := 0) 0 [vi x20.Kind, vi (w64 (t31.tdiv (2))), vi (w64 (t33.tdiv (2))), vb (decide ((iand .i64 t33 (1)) = 1))] HS rfl underlying161 rfl inf161 rfl
       replace HS := HS.pk [4] [0, 1, 2, 3]
       cases H
       exact At.retv3 rfl ⟨_, rfl, hv40⟩ rfl rfl ⟨_, rfl, rfl, HS⟩
      ·replace H := ite_f c37 H
       refine V.condF (sb (dF c37)) (V.seq (V.region (W.mv rfl (W.mv rfl (W.r (X.indexSl underlying48 inf5 rfl rfl c8.1 c8.2) rfl (W.r (X.load underlying5 rfl rfl ((rdC.at 4 hr0 HS rfl).cellI c8.1 c8.2)) rfl (W.r (X.conv underlying5 underlying3 rfl) rfl (W.r (X.cmp (!(decide (t31 = (w64 (a0.getD (0 : Int).toNat 0))))) rfl rfl rfl rfl) rfl (W.nx ?_)))))))))
       by_cases c41 : t31 = (w64 (a0.getD (0 : Int).toNat 0))
       ·replace H := ite_t c41 H
        refine V.condF (sb (n_t (dT c41))) (V.skip (At.next (V.seq (V.region (W.mv rfl (W.r (X.quo rfl rfl (by decide)) rfl (W.mv rfl (W.r (X.and rfl rfl) rfl (W.r (X.cmp (decide ((iand .i64 t33 (1)) = 1)) rfl rfl rfl rfl) rfl (W.fa fo161_2 rfl (W.st 0 2 HS inf3 rfl rfl rfl rfl rfl rfl fun w HS => ?_)))))))))))
        refine W.fa fo161_3 rfl (W.st 0 3 HS inf4 rfl rfl rfl rfl rfl rfl fun w HS => ?_)
        refine W.nx (V.seq (V.region (W.r (X.loadSt 0 [vi x20.Kind, vi x20.Ns, vi (w64 (t33.tdiv (2))), vb (decide ((iand .i64 t33 (1)) = 1))] HS rfl underlying161 rfl inf161 rfl rfl) rfl (W.mv rfl (W.r (X.mul rfl rfl) rfl ?_)))))
        replace HS := HS.fr 2
        obtain ⟨hi43, HS⟩ := api_Ctl.open HS
        refine W.en (Y.storeSt (c' := #[vi x20.Kind, vi x20.Ns, vi (w64 (t33.tdiv (2))), vb (decide ((iand .i64 t33 (1)) = 1))]) 0 [vi x20.Kind, vi x20.Ns, vi (w64 (t33.tdiv (2))), vb (decide ((iand .i64 t33 (1)) = 1))] HS rfl inf161 rfl rfl rfl rfl rfl rfl) rfl ?_
        rintro _ w HS
        refine W.as rfl (W.as rfl (W.nx (V.ret ?_)))
        have hv44 := run_loadSt (P := Tryz.prog) (p := 0) 0 [vi x20.Kind, vi x20.Ns, vi (w64 (t33.tdiv (2))), vb (decide ((iand .i64 t33 (1)) = 1))] HS rfl underlying161 rfl inf161 rfl
        replace HS := HS.pk [4] [0, 1, 2, 3]
        cases H
        exact At.retv3 rfl ⟨_, rfl, hv44⟩ rfl rfl ⟨_, rfl, rfl, HS⟩
       ·replace H := ite_f c41 H
        refine V.condT (sb (n_f (dF c41))) (V.seq (V.region (W.r (X.bd (Value.agg #[vi (0), vi (0), vi (0), vb false]) rfl (fun _ => by kernel_rfl)) rfl ?_)))
        replace HS := HS.fr 2
        obtain ⟨hi46, HS⟩ := api_Ctl.open HS
        refine W.en (Y.storeSt (c' := #[vi (0), vi (0), vi (0), vb false]) 0 [vi (0), vi (0), vi (0), vb false] HS rfl inf161 rfl rfl rfl rfl rfl rfl) rfl ?_
        rintro _ w HS
        refine W.as rfl (W.as rfl (W.nx (V.ret (At.thenRet ?_))))
        have hv47 := run_loadSt (P := Tryz.prog) (p := 0) 0 [vi (0), vi (0), vi (0), vb false] HS rfl underlying161 rfl inf161 rfl
        replace HS := HS.pk [4] [0, 1, 2, 3]
        cases H
        exact At.retv3 rfl ⟨_, rfl, hv47⟩ rfl rfl ⟨_, rfl, rfl, HS⟩
 ·replace H := ite_f c5 H
  refine V.condT (sb (n_f (b_f c5))) (V.seq (V.region (W.r (X.bd (Value.agg #[vi (0), vi (0), vi (0), vb false]) rfl (fun _ => by kernel_rfl)) rfl (W.en (Y.storeSt (c' := #[vi (0), vi (0), vi (0), vb false]) 0 [vi (0), vi (0), vi (0), vb false] HS rfl inf161 rfl rfl rfl rfl rfl rfl) rfl ?_))))
  rintro _ w HS
  refine W.as rfl (W.as rfl (W.nx (V.ret (At.thenRet ?_))))
  have hv52 := run_loadSt (P := Tryz.prog) (p := 0) 0 [vi (0), vi (0), vi (0), vb false] HS rfl underlying161 rfl inf161 rfl
  replace HS := HS.pk [1] [0]
  cases H
  exact At.retv3 rfl ⟨_, rfl, hv52⟩ rfl rfl ⟨_, rfl, rfl, HS⟩
def arq_Arq_ahead.f (a0 : arq_Arq) (a1 : Int) : Option Bool := ((serial_Dist.f a0.tag a1 65536).bind fun t1 => (if t1 ≥ 1 then some (decide (t1 < 32768)) else some false))
theorem arq_Arq_ahead.calls {a0 : arq_Arq} {a1 : Int} {R : As} {w0 w : World} {b0 : Nat} {b8_p0 : Nat} {b9_p0 : Nat} {b10_p0 : Nat} {a11_p0 : Option Addr} {c11_p0 : Nat} {d11_p0 : List Value} {a12_p0 : Option Addr} {c12_p0 : Nat} {r : Bool} (H : arq_Arq_ahead.f a0 a1 = some r) (HS : Sep.St [blk b0 (#[vi a0.m, vi a0.t1, vi a0.n2, vi a0.size, vi a0.state, vi a0.tag, vi a0.tries, vb a0.rejected, pt b8_p0, pt b9_p0, pt b10_p0, vs a11_p0 a0.out.length c11_p0, vs a12_p0 a0.inds.length c12_p0, vi a0.sent, vi a0.acked, vi a0.lost]) 158, backlog_Log.at b8_p0 a0.log, reorder_Order.at b9_p0 a0.order, clock_Set.at b10_p0 a0.timers, row 48 1 (.slice a11_p0 a0.out.length c11_p0) a0.out.length d11_p0, tie (El.sl (El.int .u8)) d11_p0 a0.out, row 3 1 (.slice a12_p0 a0.inds.length c12_p0) a0.inds.length (a0.inds.map (Value.int .i64)), R] w0 w)  : Calls Tryz.prog 305 #[pt b0, vi a1] w (Ret fun u w => u = vb r ∧ Sep.St [blk b0 (#[vi a0.m, vi a0.t1, vi a0.n2, vi a0.size, vi a0.state, vi a0.tag, vi a0.tries, vb a0.rejected, pt b8_p0, pt b9_p0, pt b10_p0, vs a11_p0 a0.out.length c11_p0, vs a12_p0 a0.inds.length c12_p0, vi a0.sent, vi a0.acked, vi a0.lost]) 158, backlog_Log.at b8_p0 a0.log, reorder_Order.at b9_p0 a0.order, clock_Set.at b10_p0 a0.timers, row 48 1 (.slice a11_p0 a0.out.length c11_p0) a0.out.length d11_p0, tie (El.sl (El.int .u8)) d11_p0 a0.out, row 3 1 (.slice a12_p0 a0.inds.length c12_p0) a0.inds.length (a0.inds.map (Value.int .i64)), R] w0 w) := by
 unfold arq_Arq_ahead.f at H
 refine calls_enter func305 rfl rfl ?_
 have H : _ = some r := H
 refine V.seq (V.region (W.as rfl (W.nx (V.seq (V.region (W.mv rfl (W.nc rfl (W.fa fo158_5 rfl (W.ld 0 HS underlying3 rfl rfl rfl rfl (W.mv rfl ?_))))))))))
 obtain ⟨t1, A2, H⟩ := bind_s H
 refine W.e (Y.cl func301 (serial_Dist.calls A2 HS.j0)) rfl ?_
 rintro _ w ⟨rfl, HS⟩
 replace HS := HS.o0
 refine W.as rfl (W.nx (V.seq (V.region (W.mv rfl (W.r (X.cmp (decide (t1 ≥ 1)) rfl rfl rfl rfl) rfl (W.mv rfl ?_))))))
 by_cases c3 : t1 ≥ 1
 ·replace H := ite_t c3 H
  refine W.want 14 rfl (sb (dT c3)) (W.mv rfl (W.want 14 rfl (sb (dT c3)) (W.r (X.cmp (decide (t1 < 32768)) rfl rfl rfl rfl) rfl (W.r (X.pickT (sb (dT c3)) rfl) rfl (W.as rfl (W.nx (V.ret ?_)))))))
  cases H
  exact At.ret1 rfl rfl ⟨_, rfl, rfl, HS⟩
 ·replace H := ite_f c3 H
  refine W.pass 14 rfl (sb (dF c3)) rfl rfl (W.pass 14 rfl (sb (dF c3)) rfl rfl (W.r (X.pickF (sb (dF c3)) rfl) rfl (W.as rfl (W.nx (V.ret ?_)))))
  cases H
  exact At.ret1 rfl rfl ⟨_, rfl, rfl, HS⟩
mutual
def arq_Arq_asked.j0  (x10 : arq_Arq) : Option arq_Arq := some x10
def arq_Arq_asked.j2 (k : Nat) (a0 : arq_Arq) (a1 : Int) (a2 : Bool) (x18 : Bool) : Option arq_Arq := (if x18 = true then ((arq_Arq_fresh.f a0 2).bind fun t21 => ((arq_Arq_tell.f k ({ t21 with tag := a1 } : arq_Arq) ({ Kind := 4, Ns := 0, Nr := 0, Poll := a2 } : api_Ctl)).bind fun t25 => (if a0.state = 2 then (if (t25.inds.length : Int) + ([3] : List Int).length ≤ 1099511627776 then some (({ t25 with inds := t25.inds ++ ([3] : List Int) } : arq_Arq)) else none) else (if (t25.inds.length : Int) + ([1] : List Int).length ≤ 1099511627776 then some (({ t25 with inds := t25.inds ++ ([1] : List Int) } : arq_Arq)) else none)))) else (if a0.state = 0 then ((arq_Arq_tell.f k a0 ({ Kind := 6, Ns := 0, Nr := 0, Poll := false } : api_Ctl)).bind fun t47 => (arq_Arq_asked.j0 t47)) else (arq_Arq_asked.j0 a0)))
def arq_Arq_asked.j1 (k : Nat) (a0 : arq_Arq) (a1 : Int) (a2 : Bool) (x13 : Bool) : Option arq_Arq := (if x13 = true then ((arq_Arq_tell.f k a0 ({ Kind := 4, Ns := 0, Nr := 0, Poll := a2 } : api_Ctl)).bind fun t16 => some t16) else ((arq_Arq_ahead.f a0 a1).bind fun t51 => (if t51 = true then (arq_Arq_asked.j2 k a0 a1 a2 true) else (if a0.state = 1 then (arq_Arq_asked.j2 k a0 a1 a2 (decide (a1 = a0.tag))) else (arq_Arq_asked.j2 k a0 a1 a2 false)))))
end
def arq_Arq_asked.f (k : Nat) (a0 : arq_Arq) (a1 : Int) (a2 : Bool) : Option arq_Arq := (if a0.state = 3 then some a0 else (if a0.state = 2 then (arq_Arq_asked.j1 k a0 a1 a2 (decide (a1 = a0.tag))) else (arq_Arq_asked.j1 k a0 a1 a2 false)))
theorem arq_Arq_asked.calls {k : Nat} {a0 : arq_Arq} {a1 : Int} {a2 : Bool} {R : As} {w0 w : World} {b0 : Nat} {r : arq_Arq} (H : arq_Arq_asked.f k a0 a1 a2 = some r) (HS : Sep.St [arq_Arq.at b0 a0, R] w0 w)  : Calls Tryz.prog 280 #[pt b0, vi a1, vb a2] w (Ret fun u w => u = Value.tuple #[] ∧ Sep.St [arq_Arq.at b0 r, R] w0 w) := by
 unfold arq_Arq_asked.f at H
 refine calls_enter func280 rfl rfl ?_
 have H : _ = some r := H
 refine V.scope 1 (V.seq (V.region (W.mv rfl (W.nc rfl ?_))))
 obtain ⟨b8_1, b9_1, b10_1, a11_1, c11_1, d11_1, a12_1, c12_1, hi2, HS⟩ := arq_Arq.open HS
 refine W.fa fo158_4 rfl (W.ld 0 HS underlying3 rfl rfl rfl rfl (W.r (X.cmp (decide (a0.state = 2)) rfl rfl rfl rfl) rfl (W.as rfl (W.nx (V.meet (σ := arq_Arq) (fun st w => match st with | x10 => Sep.St [arq_Arq.at b0 x10, R] w0 w ∧ arq_Arq_asked.j0 x10 = some r) (fun st => match st with | x10 => []) ?_ ?_)))))
 ·refine V.block (V.seq (V.region (W.mv rfl (W.nc rfl (W.fa fo158_4 rfl (W.ld 0 HS underlying3 rfl rfl rfl rfl (W.r (X.cmp (decide (a0.state = 3)) rfl rfl rfl rfl) rfl (W.as rfl (W.nx ?_)))))))))
  by_cases c12 : a0.state = 3
  ·replace H := ite_t c12 H
   refine V.condT (sb (dT c12)) (V.ret (At.blockRet (At.thenRet (At.scopeRet ?_))))
   replace HS := arq_Arq.close tv HS
   cases H
   exact At.ret0 rfl ⟨_, rfl, rfl, HS⟩
  ·replace H := ite_f c12 H
   refine V.condF (sb (dF c12)) (V.meet (σ := Bool) (fun st w => match st with | x13 => Sep.St [arq_Arq.at b0 a0, R] w0 w ∧ ∃ kf14, kf14 ≤ k ∧ arq_Arq_asked.j1 kf14 a0 a1 a2 x13 = some r) (fun st => match st with | x13 => [(0, pt b0), (1, vi a1), (2, vb a2), (6, vb (decide (a0.state = 2))), (18, vb x13)]) ?_ ?_)
   ·refine V.region (W.mv rfl (W.mv rfl ?_))
    by_cases c55 : a0.state = 2
    ·replace H := ite_t c55 H
     refine W.want 20 rfl (sb (dT c55)) (W.mv rfl (W.want 20 rfl (sb (dT c55)) (W.mv rfl (W.want 20 rfl (sb (dT c55)) (W.nc rfl (W.want 20 rfl (sb (dT c55)) (W.fa fo158_5 rfl (W.want 20 rfl (sb (dT c55)) (W.ld 0 HS underlying3 rfl rfl rfl rfl (W.want 20 rfl (sb (dT c55)) (W.r (X.cmp (decide (a1 = a0.tag)) rfl rfl rfl rfl) rfl (W.r (X.pickT (sb (dT c55)) rfl) rfl (W.as rfl (W.nil ?_))))))))))))))
     replace HS := arq_Arq.close tv HS
     exact At.meet (decide (a1 = a0.tag)) ⟨rfl, rfl, rfl, rfl, rfl, tv⟩ ⟨HS, k, by omega, H⟩
    ·replace H := ite_f c55 H
     refine W.pass 20 rfl (sb (dF c55)) rfl rfl (W.pass 20 rfl (sb (dF c55)) rfl rfl (W.pass 20 rfl (sb (dF c55)) rfl rfl (W.pass 20 rfl (sb (dF c55)) rfl rfl (W.pass 20 rfl (sb (dF c55)) rfl rfl (W.pass 20 rfl (sb (dF c55)) rfl rfl (W.r (X.pickF (sb (dF c55)) rfl) rfl (W.as rfl (W.nil ?_))))))))
     replace HS := arq_Arq.close tv HS
     exact At.meet false ⟨rfl, rfl, rfl, rfl, rfl, tv⟩ ⟨HS, k, by omega, H⟩
   ·rintro x13 w ⟨HS, kf14, hkkf14, H⟩
    unfold arq_Arq_asked.j1 at H
    by_cases c15 : x13 = true
    ·replace H := ite_t c15 H
     refine V.condT (sb c15) (V.seq (V.region (W.mv rfl (W.mv rfl (W.r (X.bd (Value.agg #[vi (4), vi (0), vi (0), vb a2]) rfl (fun _ => by kernel_rfl)) rfl ?_)))))
     obtain ⟨t16, A17, H⟩ := bind_s H
     refine W.e (Y.cl func113 (arq_Arq_tell.calls A17 HS.j1)) rfl ?_
     rintro _ w ⟨rfl, HS⟩
     replace HS := HS.o1
     refine W.nx (V.ret (At.blockRet (At.thenRet (At.scopeRet ?_))))
     cases H
     exact At.ret0 rfl ⟨_, rfl, rfl, HS⟩
    ·replace H := ite_f c15 H
     refine V.condF (sb (b_f c15)) (V.meet (σ := Bool) (fun st w => match st with | x18 => Sep.St [arq_Arq.at b0 a0, R] w0 w ∧ ∃ kf19, kf19 ≤ kf14 ∧ arq_Arq_asked.j2 kf19 a0 a1 a2 x18 = some r) (fun st => match st with | x18 => [(0, pt b0), (1, vi a1), (2, vb a2), (6, vb (decide (a0.state = 2))), (32, vb x18)]) ?_ ?_)
     ·refine V.region (W.mv rfl (W.mv rfl ?_))
      obtain ⟨b8_49, b9_49, b10_49, a11_49, c11_49, d11_49, a12_49, c12_49, hi50, HS⟩ := arq_Arq.open HS
      obtain ⟨t51, A52, H⟩ := bind_s H
      refine W.e (Y.cl func305 (arq_Arq_ahead.calls A52 HS.j7)) rfl ?_
      rintro _ w ⟨rfl, HS⟩
      replace HS := HS.o7
      refine W.mv rfl ?_
      by_cases c53 : t51 = true
      ·replace H := ite_t c53 H
       refine W.pass 36 rfl (sb c53) rfl rfl (W.pass 36 rfl (sb c53) rfl rfl (W.pass 36 rfl (sb c53) rfl rfl (W.pass 36 rfl (sb c53) rfl rfl (W.pass 36 rfl (sb c53) rfl rfl (W.pass 36 rfl (sb c53) rfl rfl (W.passU 42 rfl rfl rfl (W.passU 42 rfl rfl rfl (W.passU 42 rfl rfl rfl (W.passU 42 rfl rfl rfl (W.passU 42 rfl rfl rfl (W.passU 42 rfl rfl rfl (W.pass 36 rfl (sb c53) rfl rfl (W.r (X.pickT (sb c53) rfl) rfl (W.as rfl (W.nil ?_)))))))))))))))
       replace HS := arq_Arq.close tv HS
       exact At.meet true ⟨rfl, rfl, rfl, rfl, rfl, tv⟩ ⟨HS, kf14, by omega, H⟩
      ·replace H := ite_f c53 H
       refine W.want 36 rfl (sb (b_f c53)) (W.mv rfl (W.want 36 rfl (sb (b_f c53)) (W.nc rfl (W.want 36 rfl (sb (b_f c53)) (W.fa fo158_4 rfl (W.want 36 rfl (sb (b_f c53)) (W.ld 0 HS underlying3 rfl rfl rfl rfl (W.want 36 rfl (sb (b_f c53)) (W.r (X.cmp (decide (a0.state = 1)) rfl rfl rfl rfl) rfl (W.want 36 rfl (sb (b_f c53)) (W.mv rfl ?_)))))))))))
       by_cases c54 : a0.state = 1
       ·replace H := ite_t c54 H
        refine W.want 42 rfl (sb (dT c54)) (W.mv rfl (W.want 42 rfl (sb (dT c54)) (W.mv rfl (W.want 42 rfl (sb (dT c54)) (W.nc rfl (W.want 42 rfl (sb (dT c54)) (W.fa fo158_5 rfl (W.want 42 rfl (sb (dT c54)) (W.ld 0 HS underlying3 rfl rfl rfl rfl (W.want 42 rfl (sb (dT c54)) (W.r (X.cmp (decide (a1 = a0.tag)) rfl rfl rfl rfl) rfl (W.want 36 rfl (sb (b_f c53)) (W.r (X.pickT (sb (dT c54)) rfl) rfl (W.r (X.pickF (sb (b_f c53)) rfl) rfl (W.as rfl (W.nil ?_))))))))))))))))
        replace HS := arq_Arq.close tv HS
        exact At.meet (decide (a1 = a0.tag)) ⟨rfl, rfl, rfl, rfl, rfl, tv⟩ ⟨HS, kf14, by omega, H⟩
       ·replace H := ite_f c54 H
        refine W.pass 42 rfl (sb (dF c54)) rfl rfl (W.pass 42 rfl (sb (dF c54)) rfl rfl (W.pass 42 rfl (sb (dF c54)) rfl rfl (W.pass 42 rfl (sb (dF c54)) rfl rfl (W.pass 42 rfl (sb (dF c54)) rfl rfl (W.pass 42 rfl (sb (dF c54)) rfl rfl (W.want 36 rfl (sb (b_f c53)) (W.r (X.pickF (sb (dF c54)) rfl) rfl (W.r (X.pickF (sb (b_f c53)) rfl) rfl (W.as rfl (W.nil ?_))))))))))
        replace HS := arq_Arq.close tv HS
        exact At.meet false ⟨rfl, rfl, rfl, rfl, rfl, tv⟩ ⟨HS, kf14, by omega, H⟩
     ·rintro x18 w ⟨HS, kf19, hkkf19, H⟩
      unfold arq_Arq_asked.j2 at H
      by_cases c20 : x18 = true
      ·replace H := ite_t c20 H
       refine V.condT (sb c20) (V.goto (At.blockGoto (At.thenGoto (At.jump rfl ?_))))
       refine V.seq (V.skip (At.next (V.seq (V.region (W.mv rfl ?_)))))
       obtain ⟨t21, A22, H⟩ := bind_s H
       refine W.e (Y.cl func149 (arq_Arq_fresh.calls A22 HS.j1)) rfl ?_
       rintro _ w ⟨rfl, HS⟩
       replace HS := HS.o1
       refine W.nx (V.seq (V.region (W.mv rfl (W.mv rfl (W.nc rfl ?_)))))
       obtain ⟨b8_23, b9_23, b10_23, a11_23, c11_23, d11_23, a12_23, c12_23, hi24, HS⟩ := arq_Arq.open HS
       refine W.fa fo158_5 rfl (W.st 0 5 HS inf3 rfl rfl rfl rfl rfl rfl fun w HS => ?_)
       refine W.nx (V.seq (V.region (W.mv rfl (W.mv rfl (W.r (X.bd (Value.agg #[vi (4), vi (0), vi (0), vb a2]) rfl (fun _ => by kernel_rfl)) rfl ?_)))))
       replace HS := arq_Arq.close tv HS
       obtain ⟨t25, A26, H⟩ := bind_s H
       refine W.e (Y.cl func113 (arq_Arq_tell.calls A26 HS.j1)) rfl ?_
       rintro _ w ⟨rfl, HS⟩
       replace HS := HS.o1
       refine W.nx (V.seq (V.region (W.mv rfl (W.nx ?_))))
       by_cases c27 : a0.state = 2
       ·replace H := ite_t c27 H
        refine V.condT (sb (dT c27)) (V.region (W.mv rfl (W.mv rfl (W.nc rfl ?_))))
        obtain ⟨b8_28, b9_28, b10_28, a11_28, c11_28, d11_28, a12_28, c12_28, hi29, HS⟩ := arq_Arq.open HS
        refine W.fa fo158_12 rfl (W.ld 0 HS underlying141 rfl rfl rfl rfl (W.e (Y.ls (e := 3) (Value.int .i64) ([3] : List Int) HS rfl rfl (fun _ => by kernel_rfl)) rfl ?_))
        rintro _ w ⟨lb32, rfl, HS⟩
        obtain ⟨c33, H⟩ := ite_n H
        refine W.e (Y.appF (Value.int .i64) (fun _ => rfl) 7 underlying141 ap3 rfl HS rfl rfl rfl (rdC.at 0 row_rd HS rfl) (by omega) (by omega)) rfl ?_
        rintro _ w ⟨ra34, rc35, rfl, HS⟩
        refine W.nc rfl (W.fa fo158_12 rfl (W.st 1 12 HS inf141 rfl rfl rfl rfl rfl rfl fun w HS => ?_))
        refine W.nil (At.scopeEnd ?_)
        replace HS := HS.pm [1, 2, 3, 4, 5, 6, 7, 0, 8]
        replace HS := arq_Arq.close tv HS
        replace HS := HS.pk [0, 2] [1]
        cases H
        exact At.end0 rfl ⟨_, rfl, rfl, HS⟩
       ·replace H := ite_f c27 H
        refine V.condF (sb (dF c27)) (V.region (W.mv rfl (W.mv rfl (W.nc rfl ?_))))
        obtain ⟨b8_36, b9_36, b10_36, a11_36, c11_36, d11_36, a12_36, c12_36, hi37, HS⟩ := arq_Arq.open HS
        refine W.fa fo158_12 rfl (W.ld 0 HS underlying141 rfl rfl rfl rfl (W.e (Y.ls (e := 3) (Value.int .i64) ([1] : List Int) HS rfl rfl (fun _ => by kernel_rfl)) rfl ?_))
        rintro _ w ⟨lb40, rfl, HS⟩
        obtain ⟨c41, H⟩ := ite_n H
        refine W.e (Y.appF (Value.int .i64) (fun _ => rfl) 7 underlying141 ap3 rfl HS rfl rfl rfl (rdC.at 0 row_rd HS rfl) (by omega) (by omega)) rfl ?_
        rintro _ w ⟨ra42, rc43, rfl, HS⟩
        refine W.nc rfl (W.fa fo158_12 rfl (W.st 1 12 HS inf141 rfl rfl rfl rfl rfl rfl fun w HS => ?_))
        refine W.nil (At.scopeEnd ?_)
        replace HS := HS.pm [1, 2, 3, 4, 5, 6, 7, 0, 8]
        replace HS := arq_Arq.close tv HS
        replace HS := HS.pk [0, 2] [1]
        cases H
        exact At.end0 rfl ⟨_, rfl, rfl, HS⟩
      ·replace H := ite_f c20 H
       refine V.condF (sb (b_f c20)) (V.seq (V.region (W.mv rfl (W.nc rfl ?_))))
       obtain ⟨b8_44, b9_44, b10_44, a11_44, c11_44, d11_44, a12_44, c12_44, hi45, HS⟩ := arq_Arq.open HS
       refine W.fa fo158_4 rfl (W.ld 0 HS underlying3 rfl rfl rfl rfl (W.r (X.cmp (decide (a0.state = 0)) rfl rfl rfl rfl) rfl (W.as rfl (W.nx ?_))))
       by_cases c46 : a0.state = 0
       ·replace H := ite_t c46 H
        refine V.condT (sb (dT c46)) (V.region (W.mv rfl (W.r (X.bd (Value.agg #[vi (6), vi (0), vi (0), vb false]) rfl (fun _ => by kernel_rfl)) rfl ?_)))
        replace HS := arq_Arq.close tv HS
        obtain ⟨t47, A48, H⟩ := bind_s H
        refine W.e (Y.cl func113 (arq_Arq_tell.calls A48 HS.j1)) rfl ?_
        rintro _ w ⟨rfl, HS⟩
        replace HS := HS.o1
        refine W.nil (At.blockEnd ?_)
        exact At.meet t47 tv ⟨HS, H⟩
       ·replace H := ite_f c46 H
        refine V.condF (sb (dF c46)) (V.skip (At.blockEnd ?_))
        replace HS := arq_Arq.close tv HS
        exact At.meet a0 tv ⟨HS, H⟩
 ·rintro x10 w ⟨HS, H⟩
  unfold arq_Arq_asked.j0 at H
  refine V.seq (V.ret (At.thenRet (At.scopeRet ?_)))
  cases H
  exact At.ret0 rfl ⟨_, rfl, rfl, HS⟩
mutual
def backlog_Log_Next.j0 (a0 : backlog_Log) (x2 : Bool) : Option (Int × List Int × Bool × backlog_Log) := (if x2 = true then some (0, ([] : List Int), false, a0) else (if 0 ≤ a0.out ∧ a0.out < (a0.l.length : Int) then ((backlog_Log_number.f ({ a0 with out := w64 (a0.out + 1) } : backlog_Log) a0.out).bind fun t16 => ((slices_Clone_Sbytebyte.f (a0.l.getD a0.out.toNat [])).bind fun t18 => some (t16, t18, true, ({ a0 with out := w64 (a0.out + 1) } : backlog_Log)))) else none))
end
def backlog_Log_Next.f (a0 : backlog_Log) : Option (Int × List Int × Bool × backlog_Log) := (if a0.out = (a0.l.length : Int) then (backlog_Log_Next.j0 a0 true) else (backlog_Log_Next.j0 a0 (decide (a0.out = a0.window))))
theorem backlog_Log_Next.calls {a0 : backlog_Log} {R : As} {w0 w : World} {b0 : Nat} {r : Int × List Int × Bool × backlog_Log} (H : backlog_Log_Next.f a0 = some r) (HS : Sep.St [backlog_Log.at b0 a0, R] w0 w)  : Calls Tryz.prog 222 #[pt b0] w (Ret fun u w => ∃ (aq1 : Option Addr) (cq1 : Nat), u = Value.tuple #[vi r.1, vs aq1 r.2.1.length cq1, vb r.2.2.1] ∧ Sep.St [row 5 1 (.slice aq1 r.2.1.length cq1) r.2.1.length (r.2.1.map (Value.int .u8)), backlog_Log.at b0 r.2.2.2, R] w0 w) := by
 unfold backlog_Log_Next.f at H
 refine calls_enter func222 rfl rfl ?_
 have H : _ = some r := H
 refine V.seq (V.region (W.as rfl (W.as rfl (W.as rfl (W.nx (V.seq (V.meet (σ := Bool) (fun st w => match st with | x2 => Sep.St [backlog_Log.at b0 a0, R] w0 w ∧ backlog_Log_Next.j0 a0 x2 = some r) (fun st => match st with | x2 => [(0, pt b0), (26, vb x2)]) ?_ ?_)))))))
 ·obtain ⟨a5_20, c5_20, d5_20, hi21, HS⟩ := backlog_Log.open HS
  by_cases c22 : a0.out = (a0.l.length : Int)
  ·replace H := ite_t c22 H
   refine V.dr [] [] [(6, pt b0), (7, pt b0), (8, po b0 (0 + 4)), (9, vi a0.out), (10, pt b0), (11, pt b0), (12, po b0 (0 + 5)), (13, vs a5_20 a0.l.length c5_20), (14, vi (a0.l.length : Int)), (15, vb (decide (a0.out = (a0.l.length : Int)))), (16, vb (decide (a0.out = (a0.l.length : Int)))), (17, undef), (18, undef), (19, undef), (20, undef), (21, undef), (22, undef), (23, undef), (24, undef), (25, undef), (26, vb true)] mo HS ?_
   refine T.fn [(0, _), (26, _)] ⟨rfl, rfl, tv⟩ ⟨.mv 0, .nc 6, .fa 7 fo239_4, .ld 8 0 underlying3, .mv 0, .nc 10, .fa 11 fo239_5, .ld 12 0 underlying35, .n1 13 rfl rfl (fun w HS => X.lenSl underlying35 rfl), .n2 9 14 rfl rfl rfl (fun w HS => X.cmp (decide (a0.out = (a0.l.length : Int))) rfl rfl rfl rfl), .mv 15, .gp 10 false true 16 rfl rfl (Option.some.inj (sb (dT c22))) rfl, .gp 10 false true 16 rfl rfl (Option.some.inj (sb (dT c22))) rfl, .gp 10 false true 16 rfl rfl (Option.some.inj (sb (dT c22))) rfl, .gp 10 false true 16 rfl rfl (Option.some.inj (sb (dT c22))) rfl, .gp 10 false true 16 rfl rfl (Option.some.inj (sb (dT c22))) rfl, .gp 10 false true 16 rfl rfl (Option.some.inj (sb (dT c22))) rfl, .gp 10 false true 16 rfl rfl (Option.some.inj (sb (dT c22))) rfl, .gp 10 false true 16 rfl rfl (Option.some.inj (sb (dT c22))) rfl, .gp 10 false true 16 rfl rfl (Option.some.inj (sb (dT c22))) rfl, .n2 16 25 rfl rfl rfl (fun w HS => X.pickT (sb (dT c22)) rfl), tv⟩ (fun w HS => ?_)
   replace HS := backlog_Log.close tv HS
   exact At.meet true ⟨rfl, rfl, tv⟩ ⟨HS, H⟩
  ·replace H := ite_f c22 H
   refine V.dr [] [] [(6, pt b0), (7, pt b0), (8, po b0 (0 + 4)), (9, vi a0.out), (10, pt b0), (11, pt b0), (12, po b0 (0 + 5)), (13, vs a5_20 a0.l.length c5_20), (14, vi (a0.l.length : Int)), (15, vb (decide (a0.out = (a0.l.length : Int)))), (16, vb (decide (a0.out = (a0.l.length : Int)))), (17, pt b0), (18, pt b0), (19, po b0 (0 + 4)), (20, vi a0.out), (21, pt b0), (22, pt b0), (23, po b0 (0 + 1)), (24, vi a0.window), (25, vb (decide (a0.out = a0.window))), (26, vb (decide (a0.out = a0.window)))] mo HS ?_
   refine T.fn [(0, _), (26, _)] ⟨rfl, rfl, tv⟩ ⟨.mv 0, .nc 6, .fa 7 fo239_4, .ld 8 0 underlying3, .mv 0, .nc 10, .fa 11 fo239_5, .ld 12 0 underlying35, .n1 13 rfl rfl (fun w HS => X.lenSl underlying35 rfl), .n2 9 14 rfl rfl rfl (fun w HS => X.cmp (decide (a0.out = (a0.l.length : Int))) rfl rfl rfl rfl), .mv 15, .gw [(0, _), (16, _)] 10 false 16 ⟨rfl, rfl, tv⟩ rfl (sb (dF c22)) (fun w HS => X.move rfl), .gw [(17, _), (16, _)] 10 false 16 ⟨rfl, rfl, tv⟩ rfl (sb (dF c22)) (fun w HS => X.nilCheck rfl), .gw [(18, _), (16, _)] 10 false 16 ⟨rfl, rfl, tv⟩ rfl (sb (dF c22)) (fun w HS => X.fieldAddr 4 fo239_4 rfl), .gw [(19, _), (16, _)] 10 false 16 ⟨rfl, rfl, tv⟩ rfl (sb (dF c22)) (fun w HS => X.loadAt 0 HS rfl underlying3 rfl rfl rfl), .gw [(0, _), (16, _)] 10 false 16 ⟨rfl, rfl, tv⟩ rfl (sb (dF c22)) (fun w HS => X.move rfl), .gw [(21, _), (16, _)] 10 false 16 ⟨rfl, rfl, tv⟩ rfl (sb (dF c22)) (fun w HS => X.nilCheck rfl), .gw [(22, _), (16, _)] 10 false 16 ⟨rfl, rfl, tv⟩ rfl (sb (dF c22)) (fun w HS => X.fieldAddr 1 fo239_1 rfl), .gw [(23, _), (16, _)] 10 false 16 ⟨rfl, rfl, tv⟩ rfl (sb (dF c22)) (fun w HS => X.loadAt 0 HS rfl underlying3 rfl rfl rfl), .gw [(20, _), (24, _), (16, _)] 10 false 16 ⟨rfl, rfl, rfl, tv⟩ rfl (sb (dF c22)) (fun w HS => X.cmp (decide (a0.out = a0.window)) rfl rfl rfl rfl), .n2 16 25 rfl rfl rfl (fun w HS => X.pickF (sb (dF c22)) rfl), tv⟩ (fun w HS => ?_)
   replace HS := backlog_Log.close tv HS
   exact At.meet (decide (a0.out = a0.window)) ⟨rfl, rfl, tv⟩ ⟨HS, H⟩
 ·rintro x2 w ⟨HS, H⟩
  unfold backlog_Log_Next.j0 at H
  by_cases c4 : x2 = true
  ·replace H := ite_t c4 H
   refine V.condT (sb c4) (V.seq (V.region (W.as rfl (W.as rfl (W.as rfl (W.nx (V.ret (At.thenRet ?_))))))))
   replace HS := row_nilF (Value.int .u8) 5 1 HS
   cases H
   exact At.ret3 rfl rfl rfl rfl ⟨_, rfl, none, 0, rfl, HS⟩
  ·replace H := ite_f c4 H
   refine V.condF (sb (b_f c4)) (V.skip (At.next (V.seq (V.region (W.mv rfl (W.nc rfl ?_))))))
   obtain ⟨a5_5, c5_5, d5_5, hi6, HS⟩ := backlog_Log.open HS
   refine W.fa fo239_4 rfl (W.ld 0 HS underlying3 rfl rfl rfl rfl (W.as rfl (W.nx (V.seq (V.region (W.mv rfl (W.nc rfl (W.fa fo239_4 rfl (W.ld 0 HS underlying3 rfl rfl rfl rfl (W.r (X.add rfl rfl) rfl (W.nc rfl (W.fa fo239_4 rfl (W.st 0 4 HS inf3 rfl rfl rfl rfl rfl rfl fun w HS => ?_)))))))))))))
   refine W.nx (V.seq ?_)
   obtain ⟨c7, H⟩ := ite_n H
   obtain ⟨eb8, eo9, hh⟩ := (rdC.at 1 row_rd HS rfl).some (by decide) c7.1 c7.2; subst hh
   obtain ⟨ec10, hc11, HS⟩ := St.tie_at 2 HS rfl ([]) c7.1 c7.2
   obtain ⟨ea12, em13, he15, HN⟩ := St.sl_openF (Value.int .u8) (fun t => tie_int t) HS; clear HS; subst he15; have HS := HN
   refine V.dr [2, 10] [11, 12, 13] [(38, pt b0), (39, vi a0.out), (41, pt b0), (42, pt b0), (43, po b0 (0 + 5)), (44, vs (some ⟨eb8, eo9, none⟩) a0.l.length c5_5), (45, vi a0.out), (46, po eb8 (eo9 + a0.out.toNat * 1)), (47, vs ea12 (a0.l.getD a0.out.toNat []).length em13)] mo HS ?_
   refine T.ev [(38, _), (39, _)] [11, 12, 13] [0, 1] ⟨rfl, rfl, tv⟩ ⟨.mv 0, .mv 5, .mv 0, .nc 41, .fa 42 fo239_5, .ld 43 1 underlying35, .mv 5, .n2 44 45 rfl rfl rfl (fun w HS => X.indexSl underlying35 inf48 rfl rfl c7.1 c7.2), .n1 46 rfl rfl (fun w HS => X.load underlying48 rfl rfl ((rdC.at 2 row_rd HS rfl).cellEl0 (hc11 0 _ rfl))), tv⟩ rfl (fun w HS => ?_)
   obtain ⟨t16, A17, H⟩ := bind_s H
   replace HS := HS.pm [1, 2, 3, 0, 4]
   refine ⟨_, Y.cl func262 (backlog_Log_number.calls A17 HS.j3), ?_⟩
   rintro _ w ⟨rfl, HS⟩
   replace HS := HS.o3
   refine T.nw HS ?_
   refine T.ev [(47, _)] [] [3, 4, 5, 6, 7, 8, 9] ⟨rfl, tv⟩ ⟨.mv 0, .nc 41, .fa 42 fo239_5, .ld 43 0 underlying35, .mv 5, .n2 44 45 rfl rfl rfl (fun w HS => X.indexSl underlying35 inf48 rfl rfl c7.1 c7.2), .n1 46 rfl rfl (fun w HS => X.load underlying48 rfl rfl ((rdC.at 1 row_rd HS rfl).cellEl0 (hc11 0 _ rfl))), tv⟩ rfl (fun w HS => ?_)
   obtain ⟨t18, A19, H⟩ := bind_s H
   refine ⟨_, Y.cl func127 (slices_Clone_Sbytebyte.calls A19 HS.j0 (rdC.part 3 fsl.rd rfl)), ?_⟩
   rintro _ w ⟨at18_0, ct18_0, rfl, HS⟩
   replace HS := HS.o1
   refine T.nm [(48, vs at18_0 t18.length ct18_0), (2, vi t16), (3, vs at18_0 t18.length ct18_0), (4, vb true)] HS ⟨.inl ⟨rfl, rfl⟩, ⟨.inr ⟨by decide, rfl⟩, ⟨.inr ⟨by decide, rfl⟩, ⟨.inr ⟨by decide, rfl⟩, tv⟩⟩⟩⟩ ?_
   refine T.fn [(2, _), (3, _), (4, _)] ⟨rfl, rfl, rfl, tv⟩ ⟨.as 40, .as 48, .n0 (fun w HS => X.assign rfl), tv⟩ (fun w HS => ?_)
   refine At.next (V.ret ?_)
   replace HS := HS.pm [1, 2, 3, 0, 4, 5]
   replace HS := backlog_Log.close tv HS
   replace HS := HS.pk [1, 0, 3] [2]
   cases H
   exact At.ret3 rfl rfl rfl rfl ⟨_, rfl, at18_0, ct18_0, rfl, HS⟩
mutual
def arq_Arq_pump.l0 : Nat → Int → Bool → arq_Arq → (List Int) → Option arq_Arq
 | 0, _, _, _, _ => none
 | k + 1, x14, x15, x16, x19 => (if x15 = true then ((arq_Arq_message.f k x16 x14 x19 false).bind fun t31 => ((clock_Set_Left.f t31.timers 0).bind fun t37 => (if t37.2 = true then (arq_Arq_pump.j1 (arq_Arq_pump.l0 k) t31) else ((arq_Arq_start.f t31).bind fun t40 => (arq_Arq_pump.j1 (arq_Arq_pump.l0 k) t40))))) else some x16)
def arq_Arq_pump.j1 (Lq25 : Int → Bool → arq_Arq → (List Int) → Option arq_Arq) (x23 : arq_Arq) : Option arq_Arq := ((backlog_Log_Next.f x23.log).bind fun t29 => (Lq25 t29.1 t29.2.2.1 ({ x23 with log := t29.2.2.2 } : arq_Arq) t29.2.1))
end
def arq_Arq_pump.f (k : Nat) (a0 : arq_Arq) : Option arq_Arq := (if a0.state = 2 then ((backlog_Log_Next.f a0.log).bind fun t5 => (arq_Arq_pump.l0 k t5.1 t5.2.2.1 ({ a0 with log := t5.2.2.2 } : arq_Arq) t5.2.1)) else some a0)
theorem arq_Arq_pump.calls {k : Nat} {a0 : arq_Arq} {R : As} {w0 w : World} {b0 : Nat} {r : arq_Arq} (H : arq_Arq_pump.f k a0 = some r) (HS : Sep.St [arq_Arq.at b0 a0, R] w0 w)  : Calls Tryz.prog 152 #[pt b0] w (Ret fun u w => u = Value.tuple #[] ∧ Sep.St [arq_Arq.at b0 r, R] w0 w) := by
 unfold arq_Arq_pump.f at H
 refine calls_enter func152 rfl rfl ?_
 have H : _ = some r := H
 refine V.seq (V.seq (V.region (W.mv rfl (W.nc rfl ?_))))
 obtain ⟨b8_2, b9_2, b10_2, a11_2, c11_2, d11_2, a12_2, c12_2, hi3, HS⟩ := arq_Arq.open HS
 refine W.fa fo158_4 rfl (W.ld 0 HS underlying3 rfl rfl rfl rfl (W.r (X.cmp (!(decide (a0.state = 2))) rfl rfl rfl rfl) rfl (W.nx ?_)))
 by_cases c4 : a0.state = 2
 ·replace H := ite_t c4 H
  refine V.condF (sb (n_t (dT c4))) (V.skip (At.next (V.seq (V.region (W.mv rfl (W.nc rfl (W.fa fo158_8 rfl (W.ld 0 HS underlying154 rfl rfl rfl rfl ?_))))))))
  obtain ⟨t5, A6, H⟩ := bind_s H
  replace HS := HS.pm [1, 0, 2, 3, 4, 5, 6, 7]
  refine W.e (Y.cl func222 (backlog_Log_Next.calls A6 HS.j1)) rfl ?_
  rintro _ w ⟨at5_1, ct5_1, rfl, HS⟩
  replace HS := HS.o2
  refine W.mv rfl (W.r (X.extract rfl rfl) rfl (W.r (X.extract rfl rfl) rfl (W.r (X.extract rfl rfl) rfl (W.as rfl (W.as rfl (W.as rfl (W.nx (V.block ?_))))))))
  replace HS := HS.pm [2, 1, 3, 4, 5, 6, 7, 0, 8]
  replace HS := arq_Arq.close tv HS
  refine V.loop (σ := Int × Bool × arq_Arq × Option Addr × Nat × List Int) (fun kq (st : Int × Bool × arq_Arq × Option Addr × Nat × List Int) w => match st with | (x14, x15, x16, ra17, rc18, x19) => Sep.St [arq_Arq.at b0 x16, row 5 1 (.slice ra17 x19.length rc18) x19.length (x19.map (Value.int .u8)), R] w0 w ∧ arq_Arq_pump.l0 kq x14 x15 x16 x19 = some r ∧ kq ≤ k) (fun st => match st with | (x14, x15, x16, ra17, rc18, x19) => [(0, pt b0), (2, vi x14), (3, vs ra17 x19.length rc18), (4, vb x15)]) k (t5.1, t5.2.2.1, ({ a0 with log := t5.2.2.2 } : arq_Arq), at5_1, ct5_1, t5.2.1) ⟨rfl, rfl, rfl, rfl, tv⟩ ⟨HS, H, Nat.le_refl _⟩ ?_
  rintro kq20 ⟨x14, x15, x16, ra17, rc18, x19⟩ w ⟨HS, H, hk21⟩
  cases kq20 with
  | zero => exact absurd H (by simp [arq_Arq_pump.l0])
  | succ kq20 =>
   simp only [arq_Arq_pump.l0] at H
   refine V.seq (V.seq (V.region (W.mv rfl (W.nx ?_))))
   by_cases c22 : x15 = true
   ·replace H := ite_t c22 H
    refine V.condT (sb c22) (V.skip (At.next (V.meet (σ := arq_Arq) (fun st w => match st with | x23 => Sep.St [arq_Arq.at b0 x23, R] w0 w ∧ ∃ kl26, kl26 ≤ kq20 ∧ arq_Arq_pump.j1 (arq_Arq_pump.l0 kl26) x23 = some r) (fun st => match st with | x23 => [(0, pt b0)]) ?_ ?_)))
    ·refine V.block (V.seq (V.region (W.mv rfl (W.mv rfl (W.mv rfl ?_)))))
     replace HS := HS.fr 1
     replace HS := St.row_freeze HS
     replace HS := HS.more 0 rfl (fun _ t => t) fsl.pers
     obtain ⟨t31, A32, H⟩ := bind_s H
     replace HS := HS.pm [2, 0, 1, 3]
     refine W.e (Y.cl func223 (arq_Arq_message.calls A32 HS.j2)) rfl ?_
     rintro _ w ⟨rfl, HS⟩
     replace HS := HS.o1
     refine W.nx (V.seq (V.region (W.mv rfl (W.nc rfl ?_))))
     obtain ⟨b8_33, b9_33, b10_33, a11_33, c11_33, d11_33, a12_33, c12_33, hi34, HS⟩ := arq_Arq.open HS
     refine W.fa fo158_10 rfl (W.ld 0 HS underlying156 rfl rfl rfl rfl ?_)
     replace HS := HS.fr 3
     obtain ⟨hi36, HS⟩ := clock_Set.open HS
     obtain ⟨t37, A38, H⟩ := bind_s H
     refine W.e (Y.cl func184 (clock_Set_Left.calls A38 HS.j1 (by first | exact hi36 | (simp only [List.length_set]; exact hi36)))) rfl ?_
     rintro _ w ⟨rfl, HS⟩
     replace HS := HS.o1
     refine W.mv rfl (W.r (X.extract rfl rfl) rfl (W.r (X.extract rfl rfl) rfl (W.as rfl (W.as rfl (W.nx (V.seq (V.region (W.mv rfl (W.r (X.not rfl) rfl (W.nx ?_))))))))))
     by_cases c39 : t37.2 = true
     ·replace H := ite_t c39 H
      refine V.condF (sb (n_t c39)) (V.skip (At.blockEnd ?_))
      replace HS := clock_Set.close (by first | exact hi36 | (simp only [List.length_set]; exact hi36)) HS
      replace HS := HS.pm [1, 2, 3, 0, 4, 5, 6, 7, 8]
      replace HS := arq_Arq.close tv HS
      replace HS := HS.pk [0, 2] [1]
      exact At.meet t31 ⟨rfl, tv⟩ ⟨HS, kq20, by omega, H⟩
     ·replace H := ite_f c39 H
      refine V.condT (sb (n_f (b_f c39))) (V.region (W.mv rfl ?_))
      replace HS := clock_Set.close (by first | exact hi36 | (simp only [List.length_set]; exact hi36)) HS
      replace HS := HS.pm [1, 2, 3, 0, 4, 5, 6, 7, 8]
      replace HS := arq_Arq.close tv HS
      obtain ⟨t40, A41, H⟩ := bind_s H
      refine W.e (Y.cl func114 (arq_Arq_start.calls A41 HS.j1)) rfl ?_
      rintro _ w ⟨rfl, HS⟩
      replace HS := HS.o1
      refine W.nil (At.blockEnd ?_)
      replace HS := HS.pk [0, 2] [1]
      exact At.meet t40 ⟨rfl, tv⟩ ⟨HS, kq20, by omega, H⟩
    ·rintro x23 w ⟨HS, kl26, hkkl26, H⟩
     unfold arq_Arq_pump.j1 at H
     refine V.region (W.mv rfl (W.nc rfl ?_))
     obtain ⟨b8_27, b9_27, b10_27, a11_27, c11_27, d11_27, a12_27, c12_27, hi28, HS⟩ := arq_Arq.open HS
     refine W.fa fo158_8 rfl (W.ld 0 HS underlying154 rfl rfl rfl rfl ?_)
     obtain ⟨t29, A30, H⟩ := bind_s H
     replace HS := HS.pm [1, 0, 2, 3, 4, 5, 6, 7]
     refine W.e (Y.cl func222 (backlog_Log_Next.calls A30 HS.j1)) rfl ?_
     rintro _ w ⟨at29_1, ct29_1, rfl, HS⟩
     replace HS := HS.o2
     refine W.mv rfl (W.r (X.extract rfl rfl) rfl (W.r (X.extract rfl rfl) rfl (W.r (X.extract rfl rfl) rfl (W.as rfl (W.as rfl (W.as rfl (W.nil ?_)))))))
     replace HS := HS.pm [2, 1, 3, 4, 5, 6, 7, 0, 8]
     replace HS := arq_Arq.close tv HS
     exact At.round kl26 (by omega) (t29.1, t29.2.2.1, ({ x23 with log := t29.2.2.2 } : arq_Arq), at29_1, ct29_1, t29.2.1) ⟨rfl, rfl, rfl, rfl, tv⟩ ⟨HS, H, by omega⟩
   ·replace H := ite_f c22 H
    refine V.condF (sb (b_f c22)) (V.exit (At.thenExit (At.thenExit (At.blockExit ?_))))
    replace HS := HS.pk [0, 2] [1]
    cases H
    exact At.end0 rfl ⟨_, rfl, rfl, HS⟩
 ·replace H := ite_f c4 H
  refine V.condT (sb (n_f (dF c4))) (V.ret (At.thenRet ?_))
  replace HS := arq_Arq.close tv HS
  cases H
  exact At.ret0 rfl ⟨_, rfl, rfl, HS⟩
def arq_Arq_accepted.f (k : Nat) (a0 : arq_Arq) : Option arq_Arq := (if a0.state = 1 then ((clock_Set_Stop.f a0.timers 0).bind fun t4 => (if (a0.inds.length : Int) + ([1] : List Int).length ≤ 1099511627776 then ((arq_Arq_pump.f k ({ a0 with state := 2, tries := 0, timers := t4.2, inds := a0.inds ++ ([1] : List Int) } : arq_Arq)).bind fun t12 => some t12) else none)) else (if a0.state = 3 then ((arq_Arq_end.f a0).bind fun t15 => some t15) else some a0))
theorem arq_Arq_accepted.calls {k : Nat} {a0 : arq_Arq} {R : As} {w0 w : World} {b0 : Nat} {r : arq_Arq} (H : arq_Arq_accepted.f k a0 = some r) (HS : Sep.St [arq_Arq.at b0 a0, R] w0 w)  : Calls Tryz.prog 281 #[pt b0] w (Ret fun u w => u = Value.tuple #[] ∧ Sep.St [arq_Arq.at b0 r, R] w0 w) := by
 unfold arq_Arq_accepted.f at H
 refine calls_enter func281 rfl rfl ?_
 have H : _ = some r := H
 refine V.seq (V.region (W.mv rfl (W.nc rfl ?_)))
 obtain ⟨b8_1, b9_1, b10_1, a11_1, c11_1, d11_1, a12_1, c12_1, hi2, HS⟩ := arq_Arq.open HS
 refine W.fa fo158_4 rfl (W.ld 0 HS underlying3 rfl rfl rfl rfl (W.nx (V.block (V.seq (V.region (W.r (X.cmp (decide (a0.state = 1)) rfl rfl rfl rfl) rfl (W.as rfl (W.nx ?_))))))))
 by_cases c3 : a0.state = 1
 ·replace H := ite_t c3 H
  refine V.condT (sb (dT c3)) (V.seq (V.region (W.mv rfl (W.mv rfl (W.nc rfl (W.fa fo158_4 rfl (W.st 0 4 HS inf3 rfl rfl rfl rfl rfl rfl fun w HS => ?_)))))))
  refine W.nc rfl (W.fa fo158_6 rfl (W.st 0 6 HS inf3 rfl rfl rfl rfl rfl rfl fun w HS => ?_))
  refine W.nx (V.seq (V.region (W.mv rfl (W.nc rfl (W.fa fo158_10 rfl (W.ld 0 HS underlying156 rfl rfl rfl rfl ?_))))))
  obtain ⟨t4, A5, H⟩ := bind_s H
  replace HS := HS.pm [3, 0, 1, 2, 4, 5, 6, 7]
  refine W.e (Y.cl func219 (clock_Set_Stop.calls A5 HS.j1)) rfl ?_
  rintro _ w ⟨rfl, HS⟩
  replace HS := HS.o1
  refine W.nx (V.seq (V.region (W.mv rfl (W.mv rfl (W.nc rfl (W.fa fo158_12 rfl (W.ld 1 HS underlying141 rfl rfl rfl rfl (W.e (Y.ls (e := 3) (Value.int .i64) ([1] : List Int) HS rfl rfl (fun _ => by kernel_rfl)) rfl ?_))))))))
  rintro _ w ⟨lb8, rfl, HS⟩
  obtain ⟨c9, H⟩ := ite_n H
  refine W.e (Y.appF (Value.int .i64) (fun _ => rfl) 7 underlying141 ap3 rfl HS rfl rfl rfl (rdC.at 0 row_rd HS rfl) (by omega) (by omega)) rfl ?_
  rintro _ w ⟨ra10, rc11, rfl, HS⟩
  refine W.nc rfl (W.fa fo158_12 rfl (W.st 2 12 HS inf141 rfl rfl rfl rfl rfl rfl fun w HS => ?_))
  refine W.nx (V.region (W.mv rfl ?_))
  replace HS := HS.pm [2, 3, 4, 1, 5, 6, 7, 0, 8]
  replace HS := arq_Arq.close tv HS
  obtain ⟨t12, A13, H⟩ := bind_s H
  refine W.e (Y.cl func152 (arq_Arq_pump.calls A13 HS.j1)) rfl ?_
  rintro _ w ⟨rfl, HS⟩
  replace HS := HS.o1
  refine W.nil (At.blockEnd ?_)
  replace HS := HS.pk [0, 2] [1]
  cases H
  exact At.end0 rfl ⟨_, rfl, rfl, HS⟩
 ·replace H := ite_f c3 H
  refine V.condF (sb (dF c3)) (V.seq (V.region (W.r (X.cmp (decide (a0.state = 3)) rfl rfl rfl rfl) rfl (W.as rfl (W.nx ?_)))))
  by_cases c14 : a0.state = 3
  ·replace H := ite_t c14 H
   refine V.condT (sb (dT c14)) (V.region (W.mv rfl ?_))
   replace HS := arq_Arq.close tv HS
   obtain ⟨t15, A16, H⟩ := bind_s H
   refine W.e (Y.cl func236 (arq_Arq_end.calls A16 HS.j1)) rfl ?_
   rintro _ w ⟨rfl, HS⟩
   replace HS := HS.o1
   refine W.nil (At.blockEnd ?_)
   cases H
   exact At.end0 rfl ⟨_, rfl, rfl, HS⟩
  ·replace H := ite_f c14 H
   refine V.condF (sb (dF c14)) (V.skip (At.blockEnd ?_))
   replace HS := arq_Arq.close tv HS
   cases H
   exact At.end0 rfl ⟨_, rfl, rfl, HS⟩
mutual
def arq_Arq_closed.j0 (k : Nat) (a0 : arq_Arq) (a1 : Int) (x2 : Bool) (x3 : Bool) : Option arq_Arq := (if x3 = true then ((arq_Arq_put.f k a0 a1 ({ Kind := 6, Ns := 0, Nr := 0, Poll := false } : api_Ctl) ([] : List Int)).bind fun t6 => some t6) else ((arq_Arq_tell.f k a0 ({ Kind := 4, Ns := 0, Nr := 0, Poll := x2 } : api_Ctl)).bind fun t8 => ((arq_Arq_end.f t8).bind fun t10 => some t10)))
end
def arq_Arq_closed.f (k : Nat) (a0 : arq_Arq) (a1 : Int) (a2 : Bool) : Option arq_Arq := (if a1 = a0.tag then (if a0.state = 2 then (arq_Arq_closed.j0 k a0 a1 a2 false) else (arq_Arq_closed.j0 k a0 a1 a2 (!(decide (a0.state = 3))))) else (arq_Arq_closed.j0 k a0 a1 a2 true))
theorem arq_Arq_closed.calls {k : Nat} {a0 : arq_Arq} {a1 : Int} {a2 : Bool} {R : As} {w0 w : World} {b0 : Nat} {r : arq_Arq} (H : arq_Arq_closed.f k a0 a1 a2 = some r) (HS : Sep.St [arq_Arq.at b0 a0, R] w0 w)  : Calls Tryz.prog 282 #[pt b0, vi a1, vb a2] w (Ret fun u w => u = Value.tuple #[] ∧ Sep.St [arq_Arq.at b0 r, R] w0 w) := by
 unfold arq_Arq_closed.f at H
 refine calls_enter func282 rfl rfl ?_
 have H : _ = some r := H
 refine V.seq (V.meet (σ := Bool × Bool) (fun st w => match st with | (x2, x3) => Sep.St [arq_Arq.at b0 a0, R] w0 w ∧ ∃ kf4, kf4 ≤ k ∧ arq_Arq_closed.j0 kf4 a0 a1 x2 x3 = some r) (fun st => match st with | (x2, x3) => [(0, pt b0), (1, vi a1), (2, vb x2), (25, vb x3)]) ?_ ?_)
 ·refine V.region (W.mv rfl (W.mv rfl (W.nc rfl ?_)))
  obtain ⟨b8_12, b9_12, b10_12, a11_12, c11_12, d11_12, a12_12, c12_12, hi13, HS⟩ := arq_Arq.open HS
  refine W.fa fo158_5 rfl (W.ld 0 HS underlying3 rfl rfl rfl rfl (W.r (X.cmp (!(decide (a1 = a0.tag))) rfl rfl rfl rfl) rfl (W.mv rfl ?_)))
  by_cases c14 : a1 = a0.tag
  ·replace H := ite_t c14 H
   refine W.want 12 rfl (sb (n_t (dT c14))) (W.mv rfl (W.want 12 rfl (sb (n_t (dT c14))) (W.nc rfl (W.want 12 rfl (sb (n_t (dT c14))) (W.fa fo158_4 rfl (W.want 12 rfl (sb (n_t (dT c14))) (W.ld 0 HS underlying3 rfl rfl rfl rfl (W.want 12 rfl (sb (n_t (dT c14))) (W.r (X.cmp (!(decide (a0.state = 2))) rfl rfl rfl rfl) rfl (W.want 12 rfl (sb (n_t (dT c14))) (W.mv rfl ?_)))))))))))
   by_cases c15 : a0.state = 2
   ·replace H := ite_t c15 H
    refine W.pass 18 rfl (sb (n_t (dT c15))) rfl rfl (W.pass 18 rfl (sb (n_t (dT c15))) rfl rfl (W.pass 18 rfl (sb (n_t (dT c15))) rfl rfl (W.pass 18 rfl (sb (n_t (dT c15))) rfl rfl (W.pass 18 rfl (sb (n_t (dT c15))) rfl rfl (W.want 12 rfl (sb (n_t (dT c14))) (W.r (X.pickF (sb (n_t (dT c15))) rfl) rfl (W.r (X.pickF (sb (n_t (dT c14))) rfl) rfl (W.nil ?_))))))))
    replace HS := arq_Arq.close tv HS
    exact At.meet (a2, false) ⟨rfl, rfl, rfl, rfl, tv⟩ ⟨HS, k, by omega, H⟩
   ·replace H := ite_f c15 H
    refine W.want 18 rfl (sb (n_f (dF c15))) (W.mv rfl (W.want 18 rfl (sb (n_f (dF c15))) (W.nc rfl (W.want 18 rfl (sb (n_f (dF c15))) (W.fa fo158_4 rfl (W.want 18 rfl (sb (n_f (dF c15))) (W.ld 0 HS underlying3 rfl rfl rfl rfl (W.want 18 rfl (sb (n_f (dF c15))) (W.r (X.cmp (!(decide (a0.state = 3))) rfl rfl rfl rfl) rfl (W.want 12 rfl (sb (n_t (dT c14))) (W.r (X.pickT (sb (n_f (dF c15))) rfl) rfl (W.r (X.pickF (sb (n_t (dT c14))) rfl) rfl (W.nil ?_)))))))))))))
    replace HS := arq_Arq.close tv HS
    exact At.meet (a2, !(decide (a0.state = 3))) ⟨rfl, rfl, rfl, rfl, tv⟩ ⟨HS, k, by omega, H⟩
  ·replace H := ite_f c14 H
   refine W.pass 12 rfl (sb (n_f (dF c14))) rfl rfl (W.pass 12 rfl (sb (n_f (dF c14))) rfl rfl (W.pass 12 rfl (sb (n_f (dF c14))) rfl rfl (W.pass 12 rfl (sb (n_f (dF c14))) rfl rfl (W.pass 12 rfl (sb (n_f (dF c14))) rfl rfl (W.pass 12 rfl (sb (n_f (dF c14))) rfl rfl (W.passU 18 rfl rfl rfl (W.passU 18 rfl rfl rfl (W.passU 18 rfl rfl rfl (W.passU 18 rfl rfl rfl (W.passU 18 rfl rfl rfl (W.pass 12 rfl (sb (n_f (dF c14))) rfl rfl (W.r (X.pickT (sb (n_f (dF c14))) rfl) rfl (W.nil ?_)))))))))))))
   replace HS := arq_Arq.close tv HS
   exact At.meet (a2, true) ⟨rfl, rfl, rfl, rfl, tv⟩ ⟨HS, k, by omega, H⟩
 ·rintro ⟨x2, x3⟩ w ⟨HS, kf4, hkkf4, H⟩
  unfold arq_Arq_closed.j0 at H
  by_cases c5 : x3 = true
  ·replace H := ite_t c5 H
   refine V.condT (sb c5) (V.seq (V.region (W.mv rfl (W.mv rfl (W.r (X.bd (Value.agg #[vi (6), vi (0), vi (0), vb false]) rfl (fun _ => by kernel_rfl)) rfl ?_)))))
   replace HS := row_nilF (Value.int .u8) 5 1 HS
   replace HS := St.row_freeze HS
   replace HS := HS.more 0 rfl (fun _ t => t) fsl.pers
   obtain ⟨t6, A7, H⟩ := bind_s H
   replace HS := HS.pm [2, 0, 1, 3]
   refine W.e (Y.cl func176 (arq_Arq_put.calls A7 HS.j2)) rfl ?_
   rintro _ w ⟨rfl, HS⟩
   replace HS := HS.o1
   refine W.nx (V.ret (At.thenRet ?_))
   replace HS := HS.pk [0, 2] [1]
   cases H
   exact At.ret0 rfl ⟨_, rfl, rfl, HS⟩
  ·replace H := ite_f c5 H
   refine V.condF (sb (b_f c5)) (V.skip (At.next (V.seq (V.region (W.mv rfl (W.mv rfl (W.r (X.bd (Value.agg #[vi (4), vi (0), vi (0), vb x2]) rfl (fun _ => by kernel_rfl)) rfl ?_)))))))
   obtain ⟨t8, A9, H⟩ := bind_s H
   refine W.e (Y.cl func113 (arq_Arq_tell.calls A9 HS.j1)) rfl ?_
   rintro _ w ⟨rfl, HS⟩
   replace HS := HS.o1
   refine W.nx (V.region (W.mv rfl ?_))
   obtain ⟨t10, A11, H⟩ := bind_s H
   refine W.e (Y.cl func236 (arq_Arq_end.calls A11 HS.j1)) rfl ?_
   rintro _ w ⟨rfl, HS⟩
   replace HS := HS.o1
   refine W.nil ?_
   cases H
   exact At.end0 rfl ⟨_, rfl, rfl, HS⟩
mutual
def arq_Arq_refused.j1 (a0 : arq_Arq) (a1 : Int) (x7 : Bool) : Option arq_Arq := (if x7 = true then ((arq_Arq_end.f ({ a0 with tag := a1 } : arq_Arq)).bind fun t12 => some t12) else some a0)
def arq_Arq_refused.j0 (a0 : arq_Arq) (a1 : Int) (x2 : Bool) : Option arq_Arq := (if x2 = true then ((arq_Arq_end.f a0).bind fun t5 => some t5) else (if a0.state = 1 then ((arq_Arq_ahead.f a0 a1).bind fun t17 => (arq_Arq_refused.j1 a0 a1 t17)) else (arq_Arq_refused.j1 a0 a1 false)))
end
def arq_Arq_refused.f (a0 : arq_Arq) (a1 : Int) : Option arq_Arq := (if a1 = a0.tag then (arq_Arq_refused.j0 a0 a1 (!(decide (a0.state = 0)))) else (arq_Arq_refused.j0 a0 a1 false))
theorem arq_Arq_refused.calls {a0 : arq_Arq} {a1 : Int} {R : As} {w0 w : World} {b0 : Nat} {r : arq_Arq} (H : arq_Arq_refused.f a0 a1 = some r) (HS : Sep.St [arq_Arq.at b0 a0, R] w0 w)  : Calls Tryz.prog 283 #[pt b0, vi a1] w (Ret fun u w => u = Value.tuple #[] ∧ Sep.St [arq_Arq.at b0 r, R] w0 w) := by
 unfold arq_Arq_refused.f at H
 refine calls_enter func283 rfl rfl ?_
 have H : _ = some r := H
 refine V.block (V.meet (σ := Bool) (fun st w => match st with | x2 => Sep.St [arq_Arq.at b0 a0, R] w0 w ∧ arq_Arq_refused.j0 a0 a1 x2 = some r) (fun st => match st with | x2 => [(0, pt b0), (1, vi a1), (4, vb x2)]) ?_ ?_)
 ·refine V.region (W.mv rfl (W.mv rfl (W.nc rfl ?_)))
  obtain ⟨b8_19, b9_19, b10_19, a11_19, c11_19, d11_19, a12_19, c12_19, hi20, HS⟩ := arq_Arq.open HS
  refine W.fa fo158_5 rfl (W.ld 0 HS underlying3 rfl rfl rfl rfl (W.r (X.cmp (decide (a1 = a0.tag)) rfl rfl rfl rfl) rfl (W.mv rfl ?_)))
  by_cases c21 : a1 = a0.tag
  ·replace H := ite_t c21 H
   refine W.want 11 rfl (sb (dT c21)) (W.mv rfl (W.want 11 rfl (sb (dT c21)) (W.nc rfl (W.want 11 rfl (sb (dT c21)) (W.fa fo158_4 rfl (W.want 11 rfl (sb (dT c21)) (W.ld 0 HS underlying3 rfl rfl rfl rfl (W.want 11 rfl (sb (dT c21)) (W.r (X.cmp (!(decide (a0.state = 0))) rfl rfl rfl rfl) rfl (W.r (X.pickT (sb (dT c21)) rfl) rfl (W.as rfl (W.nil ?_))))))))))))
   replace HS := arq_Arq.close tv HS
   exact At.meet (!(decide (a0.state = 0))) ⟨rfl, rfl, rfl, tv⟩ ⟨HS, H⟩
  ·replace H := ite_f c21 H
   refine W.pass 11 rfl (sb (dF c21)) rfl rfl (W.pass 11 rfl (sb (dF c21)) rfl rfl (W.pass 11 rfl (sb (dF c21)) rfl rfl (W.pass 11 rfl (sb (dF c21)) rfl rfl (W.pass 11 rfl (sb (dF c21)) rfl rfl (W.r (X.pickF (sb (dF c21)) rfl) rfl (W.as rfl (W.nil ?_)))))))
   replace HS := arq_Arq.close tv HS
   exact At.meet false ⟨rfl, rfl, rfl, tv⟩ ⟨HS, H⟩
 ·rintro x2 w ⟨HS, H⟩
  unfold arq_Arq_refused.j0 at H
  by_cases c4 : x2 = true
  ·replace H := ite_t c4 H
   refine V.condT (sb c4) (V.region (W.mv rfl ?_))
   obtain ⟨t5, A6, H⟩ := bind_s H
   refine W.e (Y.cl func236 (arq_Arq_end.calls A6 HS.j1)) rfl ?_
   rintro _ w ⟨rfl, HS⟩
   replace HS := HS.o1
   refine W.nil (At.blockEnd ?_)
   cases H
   exact At.end0 rfl ⟨_, rfl, rfl, HS⟩
  ·replace H := ite_f c4 H
   refine V.condF (sb (b_f c4)) (V.meet (σ := Bool) (fun st w => match st with | x7 => Sep.St [arq_Arq.at b0 a0, R] w0 w ∧ arq_Arq_refused.j1 a0 a1 x7 = some r) (fun st => match st with | x7 => [(0, pt b0), (1, vi a1), (20, vb x7)]) ?_ ?_)
   ·refine V.region (W.mv rfl (W.nc rfl ?_))
    obtain ⟨b8_14, b9_14, b10_14, a11_14, c11_14, d11_14, a12_14, c12_14, hi15, HS⟩ := arq_Arq.open HS
    refine W.fa fo158_4 rfl (W.ld 0 HS underlying3 rfl rfl rfl rfl (W.r (X.cmp (decide (a0.state = 1)) rfl rfl rfl rfl) rfl (W.mv rfl ?_)))
    by_cases c16 : a0.state = 1
    ·replace H := ite_t c16 H
     refine W.want 26 rfl (sb (dT c16)) (W.mv rfl (W.want 26 rfl (sb (dT c16)) (W.mv rfl (W.want 26 rfl (sb (dT c16)) ?_))))
     obtain ⟨t17, A18, H⟩ := bind_s H
     refine W.e (Y.cl func305 (arq_Arq_ahead.calls A18 HS.j7)) rfl ?_
     rintro _ w ⟨rfl, HS⟩
     replace HS := HS.o7
     refine W.r (X.pickT (sb (dT c16)) rfl) rfl (W.as rfl (W.nil ?_))
     replace HS := arq_Arq.close tv HS
     exact At.meet t17 ⟨rfl, rfl, rfl, tv⟩ ⟨HS, H⟩
    ·replace H := ite_f c16 H
     refine W.pass 26 rfl (sb (dF c16)) rfl rfl (W.pass 26 rfl (sb (dF c16)) rfl rfl (W.pass 26 rfl (sb (dF c16)) rfl rfl (W.r (X.pickF (sb (dF c16)) rfl) rfl (W.as rfl (W.nil ?_)))))
     replace HS := arq_Arq.close tv HS
     exact At.meet false ⟨rfl, rfl, rfl, tv⟩ ⟨HS, H⟩
   ·rintro x7 w ⟨HS, H⟩
    unfold arq_Arq_refused.j1 at H
    by_cases c9 : x7 = true
    ·replace H := ite_t c9 H
     refine V.condT (sb c9) (V.seq (V.region (W.mv rfl (W.mv rfl (W.nc rfl ?_)))))
     obtain ⟨b8_10, b9_10, b10_10, a11_10, c11_10, d11_10, a12_10, c12_10, hi11, HS⟩ := arq_Arq.open HS
     refine W.fa fo158_5 rfl (W.st 0 5 HS inf3 rfl rfl rfl rfl rfl rfl fun w HS => ?_)
     refine W.nx (V.region (W.mv rfl ?_))
     replace HS := arq_Arq.close tv HS
     obtain ⟨t12, A13, H⟩ := bind_s H
     refine W.e (Y.cl func236 (arq_Arq_end.calls A13 HS.j1)) rfl ?_
     rintro _ w ⟨rfl, HS⟩
     replace HS := HS.o1
     refine W.nil (At.blockEnd ?_)
     cases H
     exact At.end0 rfl ⟨_, rfl, rfl, HS⟩
    ·replace H := ite_f c9 H
     refine V.condF (sb (b_f c9)) (V.skip (At.blockEnd ?_))
     cases H
     exact At.end0 rfl ⟨_, rfl, rfl, HS⟩
def slices_Delete_SSbyteSbyte.f (a0 : List (List Int)) (a1 : Int) (a2 : Int) : Option (List (List Int)) := (if 0 ≤ a1 ∧ a1 ≤ a2 ∧ a2 ≤ (a0.length : Int) then (if a1 = a2 then some a0 else (if 0 ≤ (0 : Int) ∧ (0 : Int) ≤ a1 ∧ a1 ≤ (a0.length : Int) then (if 0 ≤ a2 ∧ a2 ≤ (a0.length : Int) ∧ (a0.length : Int) ≤ (a0.length : Int) then some ((cut a0 (0 : Int) a1) ++ (cut a0 a2 (a0.length : Int))) else none) else none)) else none)
theorem slices_Delete_SSbyteSbyte.calls {a0 : List (List Int)} {a1 : Int} {a2 : Int} {R : As} {w0 w : World} {sa0 : Option Addr} {sc0 : Nat} {sd0 : List Value} {r : List (List Int)} (H : slices_Delete_SSbyteSbyte.f a0 a1 a2 = some r) (HS : Sep.St [row 48 1 (.slice sa0 a0.length sc0) a0.length sd0, tie (El.sl (El.int .u8)) sd0 a0, R] w0 w)  : Calls Tryz.prog 320 #[vs sa0 a0.length sc0, vi a1, vi a2] w (Ret fun u w => ∃ (aq0 : Option Addr) (cq0 : Nat) (dq0 : List Value), u = vs aq0 r.length cq0 ∧ Sep.St [row 48 1 (.slice aq0 r.length cq0) r.length dq0, tie (El.sl (El.int .u8)) dq0 r, R] w0 w) := by
 unfold slices_Delete_SSbyteSbyte.f at H
 refine calls_enter func320 rfl rfl ?_
 have H : _ = some r := H
 refine V.seq (V.region (W.as rfl (W.nx (V.seq (V.region (W.mv rfl (W.mv rfl (W.mv rfl (W.mv rfl (W.r (X.lenSl underlying35 rfl) rfl ?_))))))))))
 obtain ⟨c1, H⟩ := ite_n H
 refine W.r (X.sl3 underlying35 inf48 rfl rfl rfl rfl c1 (Int.ofNat_le.2 (rdC.at 0 row_rd HS rfl).cap)) rfl (W.nx (V.seq (V.seq (V.region (W.mv rfl (W.mv rfl (W.r (X.cmp (decide (a1 = a2)) rfl rfl rfl rfl) rfl (W.nx ?_))))))))
 by_cases c4 : a1 = a2
 ·replace H := ite_t c4 H
  refine V.condT (sb (dT c4)) (V.seq (V.region (W.mv rfl (W.as rfl (W.nx (V.ret (At.thenRet ?_)))))))
  cases H
  exact At.ret1 rfl rfl ⟨_, rfl, sa0, sc0, sd0, rfl, HS⟩
 ·replace H := ite_f c4 H
  refine V.condF (sb (dF c4)) (V.skip (At.next (V.seq (V.region (W.mv rfl (W.r (X.lenSl underlying35 rfl) rfl (W.as rfl (W.nx (V.seq ?_)))))))))
  obtain ⟨c5, H⟩ := ite_n H
  obtain ⟨c6, H⟩ := ite_n H
  refine V.dr [6] [7] [(20, vs sa0 a0.length sc0), (21, vi a1), (22, vs (vaddr sa0 sc0 (0 : Int).toNat 1) (cut a0 (0 : Int) a1).length (sc0 - (0 : Int).toNat)), (23, vs sa0 a0.length sc0), (24, vi a2), (25, vs (vaddr sa0 sc0 a2.toNat 1) (cut a0 a2 (a0.length : Int)).length (sc0 - a2.toNat))] mo HS ?_
  refine T.ev [(22, _), (25, _)] [] [0, 1, 2, 3, 4, 5] ⟨rfl, rfl, tv⟩ ⟨.mv 0, .mv 1, .n2 20 21 rfl rfl rfl (fun w HS => X.slH underlying35 inf48 rfl rfl c5 (rdC.at 0 row_rd HS rfl).cap), .mv 0, .mv 2, .n2 23 24 rfl rfl rfl (fun w HS => X.slL underlying35 inf48 rfl rfl c6), tv⟩ rfl (fun w HS => ?_)
  have hlt7 : a1 < a2 := by omega
  have hd8 : 0 ≤ a1 ∧ a1 < a2 ∧ a2 ≤ (a0.length : Int) := by omega
  have hc9 : (a0.length : Int) ≤ (sc0 : Int) := Int.ofNat_le.2 (rdC.at 0 row_rd HS rfl).cap
  have hl10 : (((cut a0 (0 : Int) a1) ++ (cut a0 a2 (a0.length : Int))).length : Int) ≤ (a0.length : Int) := by rw [List.length_append, cut_len ⟨by omega, by omega, by omega⟩, cut_len ⟨by omega, by omega, by omega⟩]; omega
  refine ⟨_, Y.appDel (xs := a0) 0 underlying35 ap48 (by decide) HS rfl hd8 rfl rfl (St.tie_one 1 HS rfl), ?_⟩
  rintro _ w ⟨rfl, HS⟩
  replace HS := St.tie_cut2 1 a2 (a0.length : Int) HS rfl
  replace HS := HS.fr 2
  replace HS := St.tie_cut (0 : Int) a1 HS
  replace HS := St.tie_app 1 HS rfl
  refine T.nm [(26, vs sa0 ((cut a0 (0 : Int) a1) ++ (cut a0 a2 (a0.length : Int))).length sc0), (0, vs sa0 ((cut a0 (0 : Int) a1) ++ (cut a0 a2 (a0.length : Int))).length sc0)] HS ⟨.inl ⟨rfl, rfl⟩, ⟨.inr ⟨by decide, rfl⟩, tv⟩⟩ ?_
  refine T.fn [(0, _), (7, _)] ⟨rfl, rfl, tv⟩ ⟨.as 26, tv⟩ (fun w HS => ?_)
  refine At.next (V.seq (V.region (W.mv rfl (W.mv rfl (W.r (X.lenSl underlying35 rfl) rfl (W.mv rfl (W.r (X.slC underlying35 inf48 rfl rfl rfl ⟨by omega, hl10⟩ hc9) rfl (W.en (Y.clearTail (n0 := a0.length) 2 underlying35 ap48 rfl rfl HS rfl (Int.ofNat_le.1 hl10) (Int.ofNat_le.1 hc9) rfl) rfl ?_))))))))
  rintro _ w HS
  refine W.nx (V.seq (V.region (W.mv rfl (W.as rfl (W.nx (V.ret ?_))))))
  replace HS := HS.pk [2, 0, 3] [1]
  cases H
  exact At.ret1 rfl rfl ⟨_, rfl, sa0, sc0, ((cutC 1 sd0 (0 : Int) a1) ++ (cutC 1 sd0 a2 (a0.length : Int))), rfl, HS⟩
mutual
def backlog_Log_Ack.j0 (a0 : backlog_Log) (t3 : Int) (x8 : Bool) : Option (Int × Bool × backlog_Log) := (if x8 = true then some (0, false, a0) else ((slices_Delete_SSbyteSbyte.f a0.l 0 t3).bind fun t13 => ((backlog_Log_number.f ({ a0 with out := w64 (a0.out - t3), l := t13 } : backlog_Log) t3).bind fun t15 => some (t3, true, ({ a0 with first := t15, out := w64 (a0.out - t3), l := t13 } : backlog_Log)))))
end
def backlog_Log_Ack.f (a0 : backlog_Log) (a1 : Int) : Option (Int × Bool × backlog_Log) := ((serial_Dist.f a0.first a1 a0.m).bind fun t3 => (if a1 < 0 then (backlog_Log_Ack.j0 a0 t3 true) else (if a1 ≥ a0.m then (backlog_Log_Ack.j0 a0 t3 true) else (backlog_Log_Ack.j0 a0 t3 (decide (t3 > a0.out))))))
theorem backlog_Log_Ack.calls {a0 : backlog_Log} {a1 : Int} {R : As} {w0 w : World} {b0 : Nat} {r : Int × Bool × backlog_Log} (H : backlog_Log_Ack.f a0 a1 = some r) (HS : Sep.St [backlog_Log.at b0 a0, R] w0 w)  : Calls Tryz.prog 315 #[pt b0, vi a1] w (Ret fun u w => u = Value.tuple #[vi r.1, vb r.2.1] ∧ Sep.St [backlog_Log.at b0 r.2.2, R] w0 w) := by
 unfold backlog_Log_Ack.f at H
 refine calls_enter func315 rfl rfl ?_
 have H : _ = some r := H
 refine V.seq (V.region (W.as rfl (W.as rfl (W.nx (V.seq ?_)))))
 obtain ⟨a5_1, c5_1, d5_1, hi2, HS⟩ := backlog_Log.open HS
 refine V.dr [9] [10] [(7, pt b0), (8, pt b0), (9, po b0 (0 + 3)), (10, vi a0.first), (11, vi a1), (12, pt b0), (13, pt b0), (14, po b0 (0 + 0)), (15, vi a0.m)] mo HS ?_
 refine T.ev [(10, _), (11, _), (15, _)] [] [0, 1, 2, 3, 4, 5, 6, 7, 8] ⟨rfl, rfl, rfl, tv⟩ ⟨.mv 0, .nc 7, .fa 8 fo239_3, .ld 9 0 underlying3, .mv 1, .mv 0, .nc 12, .fa 13 fo239_0, .ld 14 0 underlying3, tv⟩ rfl (fun w HS => ?_)
 obtain ⟨t3, A4, H⟩ := bind_s H
 refine ⟨_, Y.cl func301 (serial_Dist.calls A4 HS.j0), ?_⟩
 rintro _ w ⟨rfl, HS⟩
 replace HS := HS.o0
 refine T.nm [(16, vi t3), (6, vi t3)] HS ⟨.inl ⟨rfl, rfl⟩, ⟨.inr ⟨by decide, rfl⟩, tv⟩⟩ ?_
 refine T.fn [(0, _), (1, _), (6, _)] ⟨rfl, rfl, rfl, tv⟩ ⟨.as 16, tv⟩ (fun w HS => ?_)
 refine At.next (V.seq (V.meet (σ := Bool) (fun st w => match st with | x8 => Sep.St [backlog_Log.at b0 a0, R] w0 w ∧ backlog_Log_Ack.j0 a0 t3 x8 = some r) (fun st => match st with | x8 => [(0, pt b0), (6, vi t3), (34, vb x8)]) ?_ ?_))
 ·refine V.region (W.mv rfl (W.r (X.cmp (decide (a1 < 0)) rfl rfl rfl rfl) rfl (W.mv rfl ?_)))
  by_cases c17 : a1 < 0
  ·replace H := ite_t c17 H
   refine W.pass 19 rfl (sb (dT c17)) rfl rfl (W.pass 19 rfl (sb (dT c17)) rfl rfl (W.pass 19 rfl (sb (dT c17)) rfl rfl (W.pass 19 rfl (sb (dT c17)) rfl rfl (W.pass 19 rfl (sb (dT c17)) rfl rfl (W.pass 19 rfl (sb (dT c17)) rfl rfl (W.r (X.pickT (sb (dT c17)) rfl) rfl (W.mv rfl (W.pass 27 rfl rfl rfl rfl (W.pass 27 rfl rfl rfl rfl (W.pass 27 rfl rfl rfl rfl (W.pass 27 rfl rfl rfl rfl (W.pass 27 rfl rfl rfl rfl (W.pass 27 rfl rfl rfl rfl (W.r (X.pickT rfl rfl) rfl (W.nil ?_)))))))))))))))
   replace HS := backlog_Log.close tv HS
   exact At.meet true ⟨rfl, rfl, rfl, tv⟩ ⟨HS, H⟩
  ·replace H := ite_f c17 H
   refine W.want 19 rfl (sb (dF c17)) (W.mv rfl (W.want 19 rfl (sb (dF c17)) (W.mv rfl (W.want 19 rfl (sb (dF c17)) (W.nc rfl (W.want 19 rfl (sb (dF c17)) (W.fa fo239_0 rfl (W.want 19 rfl (sb (dF c17)) (W.ld 0 HS underlying3 rfl rfl rfl rfl (W.want 19 rfl (sb (dF c17)) (W.r (X.cmp (decide (a1 ≥ a0.m)) rfl rfl rfl rfl) rfl (W.r (X.pickF (sb (dF c17)) rfl) rfl (W.mv rfl ?_)))))))))))))
   by_cases c18 : a1 ≥ a0.m
   ·replace H := ite_t c18 H
    refine W.pass 27 rfl (sb (dT c18)) rfl rfl (W.pass 27 rfl (sb (dT c18)) rfl rfl (W.pass 27 rfl (sb (dT c18)) rfl rfl (W.pass 27 rfl (sb (dT c18)) rfl rfl (W.pass 27 rfl (sb (dT c18)) rfl rfl (W.pass 27 rfl (sb (dT c18)) rfl rfl (W.r (X.pickT (sb (dT c18)) rfl) rfl (W.nil ?_)))))))
    replace HS := backlog_Log.close tv HS
    exact At.meet true ⟨rfl, rfl, rfl, tv⟩ ⟨HS, H⟩
   ·replace H := ite_f c18 H
    refine W.want 27 rfl (sb (dF c18)) (W.mv rfl (W.want 27 rfl (sb (dF c18)) (W.mv rfl (W.want 27 rfl (sb (dF c18)) (W.nc rfl (W.want 27 rfl (sb (dF c18)) (W.fa fo239_4 rfl (W.want 27 rfl (sb (dF c18)) (W.ld 0 HS underlying3 rfl rfl rfl rfl (W.want 27 rfl (sb (dF c18)) (W.r (X.cmp (decide (t3 > a0.out)) rfl rfl rfl rfl) rfl (W.r (X.pickF (sb (dF c18)) rfl) rfl (W.nil ?_)))))))))))))
    replace HS := backlog_Log.close tv HS
    exact At.meet (decide (t3 > a0.out)) ⟨rfl, rfl, rfl, tv⟩ ⟨HS, H⟩
 ·rintro x8 w ⟨HS, H⟩
  unfold backlog_Log_Ack.j0 at H
  by_cases c10 : x8 = true
  ·replace H := ite_t c10 H
   refine V.condT (sb c10) (V.seq (V.region (W.as rfl (W.as rfl (W.nx (V.ret (At.thenRet ?_)))))))
   cases H
   exact At.ret2 rfl rfl rfl ⟨_, rfl, rfl, HS⟩
  ·replace H := ite_f c10 H
   refine V.condF (sb (b_f c10)) (V.skip (At.next (V.seq (V.region (W.mv rfl (W.mv rfl (W.nc rfl ?_)))))))
   obtain ⟨a5_11, c5_11, d5_11, hi12, HS⟩ := backlog_Log.open HS
   refine W.fa fo239_5 rfl (W.ld 0 HS underlying35 rfl rfl rfl rfl (W.mv rfl ?_))
   obtain ⟨t13, A14, H⟩ := bind_s H
   replace HS := HS.pm [1, 2, 0, 3]
   refine W.e (Y.cl func320 (slices_Delete_SSbyteSbyte.calls A14 HS.j2)) rfl ?_
   rintro _ w ⟨at13_0, ct13_0, dt13_0, rfl, HS⟩
   replace HS := HS.o2
   refine W.nc rfl (W.fa fo239_5 rfl (W.st 2 5 HS inf35 rfl rfl rfl rfl rfl rfl fun w HS => ?_))
   refine W.nx (V.seq (V.region (W.mv rfl (W.nc rfl (W.fa fo239_4 rfl (W.ld 2 HS underlying3 rfl rfl rfl rfl (W.mv rfl (W.r (X.sub rfl rfl) rfl (W.nc rfl (W.fa fo239_4 rfl (W.st 2 4 HS inf3 rfl rfl rfl rfl rfl rfl fun w HS => ?_)))))))))))
   refine W.nx (V.seq (V.region (W.mv rfl (W.mv rfl (W.mv rfl ?_)))))
   obtain ⟨t15, A16, H⟩ := bind_s H
   replace HS := HS.pm [2, 0, 1, 3]
   refine W.e (Y.cl func262 (backlog_Log_number.calls A16 HS.j3)) rfl ?_
   rintro _ w ⟨rfl, HS⟩
   replace HS := HS.o3
   refine W.nc rfl (W.fa fo239_3 rfl (W.st 0 3 HS inf3 rfl rfl rfl rfl rfl rfl fun w HS => ?_))
   refine W.nx (V.seq (V.region (W.mv rfl (W.as rfl (W.as rfl (W.nx (V.ret ?_)))))))
   replace HS := backlog_Log.close tv HS
   cases H
   exact At.ret2 rfl rfl rfl ⟨_, rfl, rfl, HS⟩
def arq_Arq_acknowledged.f (k : Nat) (a0 : arq_Arq) (a1 : Int) : Option (Bool × arq_Arq) := ((backlog_Log_Ack.f a0.log a1).bind fun t3 => (if t3.1 = 0 then some (t3.2.1, ({ a0 with log := t3.2.2 } : arq_Arq)) else ((clock_Set_Stop.f a0.timers 0).bind fun t13 => ((backlog_Log_Out.f k t3.2.2).bind fun t17 => (if (t17.length : Int) > 0 then ((arq_Arq_start.f ({ a0 with tries := 0, log := t3.2.2, timers := t13.2, acked := w64 (a0.acked + t3.1) } : arq_Arq)).bind fun t20 => some (t3.2.1, t20)) else some (t3.2.1, ({ a0 with tries := 0, log := t3.2.2, timers := t13.2, acked := w64 (a0.acked + t3.1) } : arq_Arq)))))))
theorem arq_Arq_acknowledged.calls {k : Nat} {a0 : arq_Arq} {a1 : Int} {R : As} {w0 w : World} {b0 : Nat} {r : Bool × arq_Arq} (H : arq_Arq_acknowledged.f k a0 a1 = some r) (HS : Sep.St [arq_Arq.at b0 a0, R] w0 w)  : Calls Tryz.prog 306 #[pt b0, vi a1] w (Ret fun u w => u = vb r.1 ∧ Sep.St [arq_Arq.at b0 r.2, R] w0 w) := by
 unfold arq_Arq_acknowledged.f at H
 refine calls_enter func306 rfl rfl ?_
 have H : _ = some r := H
 refine V.seq (V.region (W.as rfl (W.nx (V.seq (V.region (W.mv rfl (W.nc rfl ?_)))))))
 obtain ⟨b8_1, b9_1, b10_1, a11_1, c11_1, d11_1, a12_1, c12_1, hi2, HS⟩ := arq_Arq.open HS
 refine W.fa fo158_8 rfl (W.ld 0 HS underlying154 rfl rfl rfl rfl (W.mv rfl ?_))
 obtain ⟨t3, A4, H⟩ := bind_s H
 replace HS := HS.pm [1, 0, 2, 3, 4, 5, 6, 7]
 refine W.e (Y.cl func315 (backlog_Log_Ack.calls A4 HS.j1)) rfl ?_
 rintro _ w ⟨rfl, HS⟩
 replace HS := HS.o1
 refine W.mv rfl (W.r (X.extract rfl rfl) rfl (W.r (X.extract rfl rfl) rfl (W.as rfl (W.as rfl (W.nx (V.seq (V.seq (V.region (W.mv rfl (W.r (X.cmp (decide (t3.1 = 0)) rfl rfl rfl rfl) rfl (W.nx ?_)))))))))))
 by_cases c12 : t3.1 = 0
 ·replace H := ite_t c12 H
  refine V.condT (sb (dT c12)) (V.seq (V.region (W.mv rfl (W.as rfl (W.nx (V.ret (At.thenRet ?_)))))))
  replace HS := HS.pm [1, 0, 2, 3, 4, 5, 6, 7]
  replace HS := arq_Arq.close tv HS
  cases H
  exact At.ret1 rfl rfl ⟨_, rfl, rfl, HS⟩
 ·replace H := ite_f c12 H
  refine V.condF (sb (dF c12)) (V.skip (At.next (V.seq (V.region (W.mv rfl (W.nc rfl (W.fa fo158_14 rfl (W.ld 1 HS underlying3 rfl rfl rfl rfl (W.mv rfl (W.r (X.add rfl rfl) rfl (W.nc rfl (W.fa fo158_14 rfl (W.st 1 14 HS inf3 rfl rfl rfl rfl rfl rfl fun w HS => ?_)))))))))))))
  refine W.nx (V.seq (V.region (W.mv rfl (W.nc rfl (W.fa fo158_6 rfl (W.st 1 6 HS inf3 rfl rfl rfl rfl rfl rfl fun w HS => ?_))))))
  refine W.nx (V.seq (V.region (W.mv rfl (W.nc rfl (W.fa fo158_10 rfl (W.ld 1 HS underlying156 rfl rfl rfl rfl ?_))))))
  obtain ⟨t13, A14, H⟩ := bind_s H
  replace HS := HS.pm [3, 0, 1, 2, 4, 5, 6, 7]
  refine W.e (Y.cl func219 (clock_Set_Stop.calls A14 HS.j1)) rfl ?_
  rintro _ w ⟨rfl, HS⟩
  replace HS := HS.o1
  refine W.nx (V.seq (V.seq (V.region (W.mv rfl (W.nc rfl (W.fa fo158_8 rfl (W.ld 2 HS underlying154 rfl rfl rfl rfl ?_)))))))
  replace HS := HS.fr 1
  obtain ⟨a5_15, c5_15, d5_15, hi16, HS⟩ := backlog_Log.open HS
  obtain ⟨t17, A18, H⟩ := bind_s H
  refine W.e (Y.cl func232 (backlog_Log_Out.calls A18 HS.j3)) rfl ?_
  rintro _ w ⟨at17_0, ct17_0, rfl, HS⟩
  replace HS := HS.o4
  refine W.r (X.lenSl underlying141 rfl) rfl (W.r (X.cmp (decide ((t17.length : Int) > 0)) rfl rfl rfl rfl) rfl (W.nx ?_))
  by_cases c19 : (t17.length : Int) > 0
  ·replace H := ite_t c19 H
   refine V.condT (sb (dT c19)) (V.region (W.mv rfl ?_))
   replace HS := HS.pm [1, 2, 3, 0, 4, 5, 6, 7, 8, 9, 10]
   replace HS := backlog_Log.close tv HS
   replace HS := HS.pm [3, 0, 4, 2, 5, 6, 7, 1, 8]
   replace HS := arq_Arq.close tv HS
   obtain ⟨t20, A21, H⟩ := bind_s H
   refine W.e (Y.cl func114 (arq_Arq_start.calls A21 HS.j1)) rfl ?_
   rintro _ w ⟨rfl, HS⟩
   replace HS := HS.o1
   refine W.nx (V.seq (V.region (W.mv rfl (W.as rfl (W.nx (V.ret ?_))))))
   replace HS := HS.pk [0, 2] [1]
   cases H
   exact At.ret1 rfl rfl ⟨_, rfl, rfl, HS⟩
  ·replace H := ite_f c19 H
   refine V.condF (sb (dF c19)) (V.skip (At.next (V.seq (V.region (W.mv rfl (W.as rfl (W.nx (V.ret ?_))))))))
   replace HS := HS.pm [1, 2, 3, 0, 4, 5, 6, 7, 8, 9, 10]
   replace HS := backlog_Log.close tv HS
   replace HS := HS.pm [3, 0, 4, 2, 5, 6, 7, 1, 8]
   replace HS := arq_Arq.close tv HS
   replace HS := HS.pk [0, 2] [1]
   cases H
   exact At.ret1 rfl rfl ⟨_, rfl, rfl, HS⟩
mutual
def reorder_Order_Put.l0 : Nat → Int → Bool → reorder_Order → (List Int) → Option (Int × reorder_Order)
 | 0, _, _, _, _ => none
 | k + 1, x26, x27, x28, x31 => (if x27 = true then (if (x28.ready.length : Int) + (([x31] : List (List Int))).length ≤ 1099511627776 then ((serial_Next.f x28.next x28.m).bind fun t43 => (reorder_Order_Put.l0 k (w64 (x26 + 1)) (mhas (mdel x28.kept x28.next) t43) ({ x28 with next := t43, kept := mdel x28.kept x28.next, ready := x28.ready ++ ([x31] : List (List Int)) } : reorder_Order) (mget (mdel x28.kept x28.next) t43 []))) else none) else some (x26, x28))
end
def reorder_Order_Put.f (k : Nat) (a0 : reorder_Order) (a1 : Int) (a2 : List Int) : Option (Int × reorder_Order) := ((serial_Dist.f a0.next a1 a0.m).bind fun t3 => (if ¬ (a0.m = 0) then (if t3 ≥ a0.window then some ((-1), a0) else (if mhas a0.kept ((w64 (a0.next + t3)).tmod a0.m) = true then some (0, a0) else ((slices_Clone_Sbytebyte.f a2).bind fun t17 => (reorder_Order_Put.l0 k 0 (mhas (mput a0.kept ((w64 (a0.next + t3)).tmod a0.m) t17) a0.next) ({ a0 with kept := mput a0.kept ((w64 (a0.next + t3)).tmod a0.m) t17 } : reorder_Order) (mget (mput a0.kept ((w64 (a0.next + t3)).tmod a0.m) t17) a0.next []))))) else none))
theorem reorder_Order_Put.calls {k : Nat} {a0 : reorder_Order} {a1 : Int} {a2 : List Int} {R : As} {w0 w : World} {b0 : Nat} {sa2 : Option Addr} {sc2 : Nat} {r : Int × reorder_Order} (H : reorder_Order_Put.f k a0 a1 a2 = some r) (HS : Sep.St [reorder_Order.at b0 a0, R] w0 w) (hr2 : rdC R 1 (.slice sa2 a2.length sc2) a2.length (a2.map (Value.int .u8))) : Calls Tryz.prog 316 #[pt b0, vi a1, vs sa2 a2.length sc2] w (Ret fun u w => u = vi r.1 ∧ Sep.St [reorder_Order.at b0 r.2, R] w0 w) := by
 unfold reorder_Order_Put.f at H
 refine calls_enter func316 rfl rfl ?_
 have H : _ = some r := H
 refine V.seq (V.region (W.as rfl (W.nx (V.seq ?_))))
 obtain ⟨b3_1, k3_1, a4_1, c4_1, d4_1, hi2, HS⟩ := reorder_Order.open HS
 refine V.dr [9] [10] [(13, pt b0), (14, pt b0), (15, po b0 (0 + 2)), (16, vi a0.next), (17, vi a1), (18, pt b0), (19, pt b0), (20, po b0 (0 + 0)), (21, vi a0.m)] mo HS ?_
 refine T.ev [(16, _), (17, _), (21, _)] [] [0, 1, 2, 3, 4, 5, 6, 7, 8] ⟨rfl, rfl, rfl, tv⟩ ⟨.mv 0, .nc 13, .fa 14 fo248_2, .ld 15 0 underlying3, .mv 1, .mv 0, .nc 18, .fa 19 fo248_0, .ld 20 0 underlying3, tv⟩ rfl (fun w HS => ?_)
 obtain ⟨t3, A4, H⟩ := bind_s H
 refine ⟨_, Y.cl func301 (serial_Dist.calls A4 HS.j0), ?_⟩
 rintro _ w ⟨rfl, HS⟩
 replace HS := HS.o0
 refine T.nm [(22, vi t3), (7, vi t3)] HS ⟨.inl ⟨rfl, rfl⟩, ⟨.inr ⟨by decide, rfl⟩, tv⟩⟩ ?_
 refine T.fn [(0, _), (2, _), (7, _)] ⟨rfl, rfl, rfl, tv⟩ ⟨.as 22, tv⟩ (fun w HS => ?_)
 refine At.next (V.seq ?_)
 obtain ⟨c5, H⟩ := ite_n H
 refine V.dr [] [] [(23, pt b0), (24, pt b0), (25, po b0 (0 + 2)), (26, vi a0.next), (27, vi t3), (28, vi (w64 (a0.next + t3))), (29, pt b0), (30, pt b0), (31, po b0 (0 + 0)), (32, vi a0.m), (33, vi ((w64 (a0.next + t3)).tmod a0.m)), (1, vi ((w64 (a0.next + t3)).tmod a0.m))] mo HS ?_
 refine T.fn [(0, _), (1, _), (2, _), (7, _)] ⟨rfl, rfl, rfl, rfl, tv⟩ ⟨.mv 0, .nc 23, .fa 24 fo248_2, .ld 25 0 underlying3, .mv 7, .n2 26 27 rfl rfl rfl (fun w HS => X.add rfl rfl), .mv 0, .nc 29, .fa 30 fo248_0, .ld 31 0 underlying3, .n2 28 32 rfl rfl rfl (fun w HS => X.rem rfl rfl c5), .as 33, tv⟩ (fun w HS => ?_)
 refine At.next (V.seq (V.seq (V.region (W.mv rfl (W.mv rfl (W.nc rfl (W.fa fo248_1 rfl (W.ld 0 HS underlying3 rfl rfl rfl rfl (W.r (X.cmp (decide (t3 ≥ a0.window)) rfl rfl rfl rfl) rfl (W.nx ?_))))))))))
 by_cases c11 : t3 ≥ a0.window
 ·replace H := ite_t c11 H
  refine V.condT (sb (dT c11)) (V.seq (V.region (W.as rfl (W.nx (V.ret (At.thenRet ?_))))))
  replace HS := reorder_Order.close tv HS
  cases H
  exact At.ret1 rfl rfl ⟨_, rfl, rfl, HS⟩
 ·replace H := ite_f c11 H
  refine V.condF (sb (dF c11)) (V.skip (At.next (V.seq (V.seq (V.region (W.mv rfl (W.nc rfl (W.fa fo248_3 rfl (W.ld 0 HS underlying246 rfl rfl rfl rfl (W.mv rfl ?_))))))))))
  have hm12 := St.tieM_has 2 ((w64 (a0.next + t3)).tmod a0.m) HS rfl
  replace HS := St.tieM_get 2 ((w64 (a0.next + t3)).tmod a0.m) (z := .slice none 0 0) (d := []) sl_zero HS rfl
  obtain ⟨ea14, em15, hu13, HS⟩ := St.sl_openF (Value.int .u8) (fun t => tie_int t) HS
  refine W.r (X.lookup (z := .slice none 0 0) 2 underlying246 underlying3 ze48 HS rfl rfl rfl hu13 hm12) rfl (W.mv rfl (W.r (X.extract rfl rfl) rfl (W.r (X.extract rfl rfl) rfl (W.as rfl (W.as rfl (W.nx (V.seq (V.region (W.mv rfl (W.nx ?_))))))))))
  by_cases c16 : mhas a0.kept ((w64 (a0.next + t3)).tmod a0.m) = true
  ·replace H := ite_t c16 H
   refine V.condT (sb c16) (V.seq (V.region (W.as rfl (W.nx (V.ret (At.thenRet ?_))))))
   replace HS := HS.pm [1, 2, 3, 4, 5, 0, 6]
   replace HS := reorder_Order.close tv HS
   replace HS := HS.pk [0, 2] [1]
   cases H
   exact At.ret1 rfl rfl ⟨_, rfl, rfl, HS⟩
  ·replace H := ite_f c16 H
   refine V.condF (sb (b_f c16)) (V.skip (At.next (V.seq (V.dr [6, 7] [] [(50, pt b0), (51, pt b0), (52, po b0 (0 + 3)), (53, Value.map (some b3_1)), (54, vi ((w64 (a0.next + t3)).tmod a0.m)), (55, vs sa2 a2.length sc2)] mo HS ?_))))
   refine T.ev [(55, _)] [] [5] ⟨rfl, tv⟩ ⟨.mv 0, .nc 50, .fa 51 fo248_3, .ld 52 1 underlying246, .mv 1, .mv 2, tv⟩ rfl (fun w HS => ?_)
   obtain ⟨t17, A18, H⟩ := bind_s H
   refine ⟨_, Y.cl func127 (slices_Clone_Sbytebyte.calls A18 HS.j0 (rdC.part 6 hr2 rfl)), ?_⟩
   rintro _ w ⟨at17_0, ct17_0, rfl, HS⟩
   replace HS := HS.o1
   refine T.nw HS ?_
   refine T.ev [(53, _), (54, _), (56, _)] [] [0, 1, 2, 3, 4] ⟨rfl, rfl, rfl, tv⟩ ⟨.mv 0, .nc 50, .fa 51 fo248_3, .ld 52 2 underlying246, .mv 1, tv⟩ rfl (fun w HS => ?_)
   replace HS := St.row_freeze HS
   replace HS := HS.more 0 rfl (fun _ t => t) fsl.pers
   replace HS := St.put (A := tie (El.int .u8) (t17.map (Value.int .u8)) t17) (fun _ => int_tie) HS
   replace HS := St.swap HS
   replace HS := St.sl_close (E := (El.int .u8)) HS
   replace HS := HS.pm [0, 5, 1, 2, 3, 4, 6, 7, 8]
   replace HS := St.tieM_put ((w64 (a0.next + t3)).tmod a0.m) HS
   refine ⟨_, Y.mapUpdate 4 underlying246 underlying3 HS rfl rfl rfl rfl, ?_⟩
   rintro _ w HS
   refine T.nn HS ?_
   refine T.fn [(0, _)] ⟨rfl, tv⟩ tv (fun w HS => ?_)
   refine At.next (V.seq (V.region (W.as rfl (W.nx (V.seq (V.seq ?_))))))
   have hm19 := St.tieM_has 0 a0.next HS rfl
   replace HS := St.tieM_get 0 a0.next (z := .slice none 0 0) (d := []) sl_zero HS rfl
   obtain ⟨ea21, em22, hu20, HS⟩ := St.sl_openF (Value.int .u8) (fun t => tie_int t) HS
   refine V.dr [] [] [(58, pt b0), (59, pt b0), (60, po b0 (0 + 3)), (61, Value.map (some b3_1)), (62, pt b0), (63, pt b0), (64, po b0 (0 + 2)), (65, vi a0.next), (66, Value.tuple #[vs ea21 (mget (mput a0.kept ((w64 (a0.next + t3)).tmod a0.m) t17) a0.next []).length em22, vb (mhas (mput a0.kept ((w64 (a0.next + t3)).tmod a0.m) t17) a0.next)]), (57, Value.tuple #[vs ea21 (mget (mput a0.kept ((w64 (a0.next + t3)).tmod a0.m) t17) a0.next []).length em22, vb (mhas (mput a0.kept ((w64 (a0.next + t3)).tmod a0.m) t17) a0.next)]), (67, vs ea21 (mget (mput a0.kept ((w64 (a0.next + t3)).tmod a0.m) t17) a0.next []).length em22), (68, vb (mhas (mput a0.kept ((w64 (a0.next + t3)).tmod a0.m) t17) a0.next)), (11, vs ea21 (mget (mput a0.kept ((w64 (a0.next + t3)).tmod a0.m) t17) a0.next []).length em22), (12, vb (mhas (mput a0.kept ((w64 (a0.next + t3)).tmod a0.m) t17) a0.next))] mo HS ?_
   refine T.fn [(0, _), (10, _), (11, _), (12, _)] ⟨rfl, rfl, rfl, rfl, tv⟩ ⟨.mv 0, .nc 58, .fa 59 fo248_3, .ld 60 4 underlying246, .mv 0, .nc 62, .fa 63 fo248_2, .ld 64 4 underlying3, .n2 61 65 rfl rfl rfl (fun w HS => X.lookup (z := .slice none 0 0) 5 underlying246 underlying3 ze48 HS rfl rfl rfl hu20 hm19), .mv 66, .n1 57 rfl rfl (fun w HS => X.extract rfl rfl), .n1 57 rfl rfl (fun w HS => X.extract rfl rfl), .as 67, .as 68, tv⟩ (fun w HS => ?_)
   refine At.next (V.block ?_)
   replace HS := HS.pm [4, 5, 1, 6, 7, 0, 2, 3, 8]
   replace HS := reorder_Order.close tv HS
   refine V.loop (σ := Int × Bool × reorder_Order × Option Addr × Nat × List Int) (fun kq (st : Int × Bool × reorder_Order × Option Addr × Nat × List Int) w => match st with | (x26, x27, x28, ra29, rc30, x31) => Sep.St [reorder_Order.at b0 x28, fsl 1 (.slice ra29 x31.length rc30) x31.length (x31.map (Value.int .u8)), fsl 1 (.slice at17_0 t17.length ct17_0) t17.length (t17.map (Value.int .u8)), fsl 1 (.slice ea14 (mget a0.kept ((w64 (a0.next + t3)).tmod a0.m) []).length em15) (mget a0.kept ((w64 (a0.next + t3)).tmod a0.m) []).length ((mget a0.kept ((w64 (a0.next + t3)).tmod a0.m) []).map (Value.int .u8)), R] w0 w ∧ reorder_Order_Put.l0 kq x26 x27 x28 x31 = some r ∧ kq ≤ k) (fun st => match st with | (x26, x27, x28, ra29, rc30, x31) => [(0, pt b0), (10, vi x26), (11, vs ra29 x31.length rc30), (12, vb x27)]) k (0, mhas (mput a0.kept ((w64 (a0.next + t3)).tmod a0.m) t17) a0.next, ({ a0 with kept := mput a0.kept ((w64 (a0.next + t3)).tmod a0.m) t17 } : reorder_Order), ea21, em22, mget (mput a0.kept ((w64 (a0.next + t3)).tmod a0.m) t17) a0.next []) ⟨rfl, rfl, rfl, rfl, tv⟩ ⟨HS, H, Nat.le_refl _⟩ ?_
   rintro kq32 ⟨x26, x27, x28, ra29, rc30, x31⟩ w ⟨HS, H, hk33⟩
   cases kq32 with
   | zero => exact absurd H (by simp [reorder_Order_Put.l0])
   | succ kq32 =>
    simp only [reorder_Order_Put.l0] at H
    refine V.seq (V.seq (V.region (W.mv rfl (W.nx ?_))))
    by_cases c34 : x27 = true
    ·replace H := ite_t c34 H
     refine V.condT (sb c34) (V.skip (At.next (V.seq (V.block (V.seq ?_)))))
     obtain ⟨b3_35, k3_35, a4_35, c4_35, d4_35, hi36, HS⟩ := reorder_Order.open HS
     refine V.dr [8] [] [(82, pt b0), (83, pt b0), (84, po b0 (0 + 3)), (85, Value.map (some b3_35)), (86, pt b0), (87, pt b0), (88, po b0 (0 + 2)), (89, vi x28.next)] mo HS ?_
     refine T.ev [(85, _), (89, _)] [] [0, 1, 2, 3, 4, 5, 6, 7] ⟨rfl, rfl, tv⟩ ⟨.mv 0, .nc 82, .fa 83 fo248_3, .ld 84 0 underlying246, .mv 0, .nc 86, .fa 87 fo248_2, .ld 88 0 underlying3, tv⟩ rfl (fun w HS => ?_)
     replace HS := HS.fr 2
     replace HS := St.tieM_del x28.next HS
     refine ⟨_, Y.delete 2 underlying246 underlying3 HS rfl rfl rfl, ?_⟩
     rintro _ w HS
     refine T.nn HS ?_
     refine T.fn [(0, _), (10, _), (11, _)] ⟨rfl, rfl, rfl, tv⟩ tv (fun w HS => ?_)
     refine At.next (V.seq (V.region (W.mv rfl (W.mv rfl (W.nc rfl (W.fa fo248_4 rfl (W.ld 1 HS underlying35 rfl rfl rfl rfl (W.mv rfl (W.e (Y.lc (e := 48) (sz := 1) [vs ra29 x31.length rc30] HS rfl rfl (fun _ => by kernel_rfl)) rfl ?_)))))))))
     rintro _ w ⟨lb37, rfl, HS⟩
     replace HS := St.put (A := tie (El.sl (El.int .u8)) ([]) (([] : List (List Int)))) (fun _ => tie.nil) HS
     replace HS := HS.more 7 rfl (fun _ t => t) fsl.pers
     replace HS := St.put (A := tie (El.int .u8) (x31.map (Value.int .u8)) x31) (fun _ => int_tie) HS
     replace HS := St.swap HS
     replace HS := St.sl_close (E := (El.int .u8)) HS
     replace HS := HS.fr 1
     replace HS := HS.fr 1
     replace HS := St.tie_cons HS
     obtain ⟨c40, H⟩ := ite_n H
     refine W.e (Y.app (xs := x28.ready) (ys := ([x31] : List (List Int))) 5 underlying35 ap48 rfl (by decide) HS rfl rfl rfl (rdC.at 1 row_rd HS rfl) (St.tie_one 0 HS rfl) (by omega) (by omega)) rfl ?_
     rintro _ w ⟨ra41, rc42, rfl, HS⟩
     replace HS := HS.fr 6
     replace HS := St.tie_app 1 HS rfl
     refine W.nc rfl (W.fa fo248_4 rfl (W.st 4 4 HS inf35 rfl rfl rfl rfl rfl rfl fun w HS => ?_))
     refine W.nx (V.seq (V.dr [9, 12] [10, 11] [(100, pt b0), (101, pt b0), (102, pt b0), (103, po b0 (0 + 2)), (104, vi x28.next), (105, pt b0), (106, pt b0), (107, po b0 (0 + 0)), (108, vi x28.m)] mo HS ?_))
     refine T.ev [(104, _), (108, _)] [] [1, 2, 3, 4, 5, 6, 7, 8] ⟨rfl, rfl, tv⟩ ⟨.mv 0, .mv 0, .nc 101, .fa 102 fo248_2, .ld 103 4 underlying3, .mv 0, .nc 105, .fa 106 fo248_0, .ld 107 4 underlying3, tv⟩ rfl (fun w HS => ?_)
     obtain ⟨t43, A44, H⟩ := bind_s H
     refine ⟨_, Y.cl func112 (serial_Next.calls A44 HS.j0), ?_⟩
     rintro _ w ⟨rfl, HS⟩
     replace HS := HS.o0
     refine T.nm [(109, vi t43), (110, pt b0), (111, po b0 (0 + 2))] HS ⟨.inl ⟨rfl, rfl⟩, ⟨.inr ⟨by decide, rfl⟩, ⟨.inr ⟨by decide, rfl⟩, tv⟩⟩⟩ ?_
     refine T.ev [(109, _), (111, _)] [] [0, 10, 11] ⟨rfl, rfl, tv⟩ ⟨.mv 0, .nc 100, .fa 110 fo248_2, tv⟩ rfl (fun w HS => ?_)
     refine ⟨_, Y.sto 4 2 HS inf3 rfl rfl rfl rfl rfl rfl, ?_⟩
     rintro _ w HS
     refine T.nn HS ?_
     refine T.fn [(0, _), (10, _)] ⟨rfl, rfl, tv⟩ tv (fun w HS => ?_)
     refine At.next (V.region (W.mv rfl (W.r (X.add rfl rfl) rfl (W.as rfl (W.nil (At.blockEnd (At.next ?_)))))))
     have hm45 := St.tieM_has 3 t43 HS rfl
     replace HS := St.tieM_get 3 t43 (z := .slice none 0 0) (d := []) sl_zero HS rfl
     obtain ⟨ea47, em48, hu46, HS⟩ := St.sl_openF (Value.int .u8) (fun t => tie_int t) HS
     refine V.dr [] [] [(71, pt b0), (72, pt b0), (73, po b0 (0 + 3)), (74, Value.map (some b3_35)), (75, pt b0), (76, pt b0), (77, po b0 (0 + 2)), (78, vi t43), (79, Value.tuple #[vs ea47 (mget (mdel x28.kept x28.next) t43 []).length em48, vb (mhas (mdel x28.kept x28.next) t43)]), (70, Value.tuple #[vs ea47 (mget (mdel x28.kept x28.next) t43 []).length em48, vb (mhas (mdel x28.kept x28.next) t43)]), (80, vs ea47 (mget (mdel x28.kept x28.next) t43 []).length em48), (81, vb (mhas (mdel x28.kept x28.next) t43)), (11, vs ea47 (mget (mdel x28.kept x28.next) t43 []).length em48), (12, vb (mhas (mdel x28.kept x28.next) t43))] mo HS ?_
     refine T.fn [(0, _), (10, _), (11, _), (12, _)] ⟨rfl, rfl, rfl, rfl, tv⟩ ⟨.mv 0, .nc 71, .fa 72 fo248_3, .ld 73 5 underlying246, .mv 0, .nc 75, .fa 76 fo248_2, .ld 77 5 underlying3, .n2 74 78 rfl rfl rfl (fun w HS => X.lookup (z := .slice none 0 0) 6 underlying246 underlying3 ze48 HS rfl rfl rfl hu46 hm45), .mv 79, .n1 70 rfl rfl (fun w HS => X.extract rfl rfl), .n1 70 rfl rfl (fun w HS => X.extract rfl rfl), .as 80, .as 81, tv⟩ (fun w HS => ?_)
     replace HS := HS.pm [5, 6, 4, 7, 1, 0, 2, 3, 8, 9, 10, 11]
     replace HS := reorder_Order.close tv HS
     replace HS := HS.pk [0, 1, 5, 6, 7] [2, 3, 4]
     exact At.round kq32 (by omega) (w64 (x26 + 1), mhas (mdel x28.kept x28.next) t43, ({ x28 with next := t43, kept := mdel x28.kept x28.next, ready := x28.ready ++ ([x31] : List (List Int)) } : reorder_Order), ea47, em48, mget (mdel x28.kept x28.next) t43 []) ⟨rfl, rfl, rfl, rfl, tv⟩ ⟨HS, H, by omega⟩
    ·replace H := ite_f c34 H
     refine V.condF (sb (b_f c34)) (V.exit (At.thenExit (At.thenExit (At.blockExit (At.next (V.seq (V.region (W.mv rfl (W.as rfl (W.nx (V.ret ?_)))))))))))
     replace HS := HS.pk [0, 4] [1, 2, 3]
     cases H
     exact At.ret1 rfl rfl ⟨_, rfl, rfl, HS⟩
def reorder_Order_Gap.f (a0 : reorder_Order) : Option Bool := some (decide ((a0.kept.length : Int) > 0))
theorem reorder_Order_Gap.calls {a0 : reorder_Order} {R : As} {w0 w : World} {b0 : Nat} {b3_p0 : Nat} {k3_p0 : List (Int × Value)} {a4_p0 : Option Addr} {c4_p0 : Nat} {d4_p0 : List Value} {r : Bool} (H : reorder_Order_Gap.f a0 = some r) (HS : Sep.St [blk b0 (#[vi a0.m, vi a0.window, vi a0.next, Value.map (some b3_p0), vs a4_p0 a0.ready.length c4_p0]) 248, mblk b3_p0 k3_p0, tieM (El.sl (El.int .u8)) k3_p0 a0.kept, row 48 1 (.slice a4_p0 a0.ready.length c4_p0) a0.ready.length d4_p0, tie (El.sl (El.int .u8)) d4_p0 a0.ready, R] w0 w)  : Calls Tryz.prog 317 #[pt b0] w (Ret fun u w => u = vb r ∧ Sep.St [blk b0 (#[vi a0.m, vi a0.window, vi a0.next, Value.map (some b3_p0), vs a4_p0 a0.ready.length c4_p0]) 248, mblk b3_p0 k3_p0, tieM (El.sl (El.int .u8)) k3_p0 a0.kept, row 48 1 (.slice a4_p0 a0.ready.length c4_p0) a0.ready.length d4_p0, tie (El.sl (El.int .u8)) d4_p0 a0.ready, R] w0 w) := by
 unfold reorder_Order_Gap.f at H
 refine calls_enter func317 rfl rfl ?_
 have H : _ = some r := H
 refine V.seq (V.region (W.as rfl (W.nx (V.seq (V.region (W.mv rfl (W.nc rfl (W.fa fo248_3 rfl (W.ld 0 HS underlying246 rfl rfl rfl rfl (W.r (X.lenMap (m := a0.kept) 1 underlying246 HS rfl (St.tieM_len 2 HS rfl) rfl) rfl (W.r (X.cmp (decide ((a0.kept.length : Int) > 0)) rfl rfl rfl rfl) rfl (W.as rfl (W.nx (V.ret ?_))))))))))))))
 cases H
 exact At.ret1 rfl rfl ⟨_, rfl, rfl, HS⟩
mutual
def arq_Arq_come.j2 (k : Nat)  (x10 : arq_Arq) (x11 : api_Ctl) : Option arq_Arq := ((arq_Arq_tell.f k x10 x11).bind fun t15 => some t15)
def arq_Arq_come.j3 (k : Nat) (x4 : arq_Arq) (x7 : api_Ctl) (x17 : Bool) : Option arq_Arq := (if x17 = true then (arq_Arq_come.j2 k ({ x4 with rejected := true } : arq_Arq) ({ x7 with Kind := 2, Poll := false } : api_Ctl)) else (arq_Arq_come.j2 k x4 x7))
def arq_Arq_come.j1 (k : Nat) (x4 : arq_Arq) (x7 : api_Ctl) : Option arq_Arq := ((reorder_Order_Gap.f x4.order).bind fun t28 => (if t28 = true then (arq_Arq_come.j3 k x4 x7 (!x4.rejected)) else (arq_Arq_come.j3 k x4 x7 false)))
def arq_Arq_come.j0 (k : Nat) (a1 : api_Ctl) (x4 : arq_Arq) : Option arq_Arq := ((reorder_Order_Next.f x4.order).bind fun t37 => (arq_Arq_come.j1 k x4 ({ Kind := 1, Ns := 0, Nr := t37, Poll := a1.Poll } : api_Ctl)))
end
def arq_Arq_come.f (k : Nat) (a0 : arq_Arq) (a1 : api_Ctl) (a2 : List Int) : Option arq_Arq := ((reorder_Order_Put.f k a0.order a1.Ns a2).bind fun t47 => (if t47.1 > 0 then (arq_Arq_come.j0 k a1 ({ a0 with rejected := false, order := t47.2 } : arq_Arq)) else (arq_Arq_come.j0 k a1 ({ a0 with order := t47.2 } : arq_Arq))))
theorem arq_Arq_come.calls {k : Nat} {a0 : arq_Arq} {a1 : api_Ctl} {a2 : List Int} {R : As} {w0 w : World} {b0 : Nat} {sa2 : Option Addr} {sc2 : Nat} {r : arq_Arq} (H : arq_Arq_come.f k a0 a1 a2 = some r) (HS : Sep.St [arq_Arq.at b0 a0, R] w0 w) (hr2 : rdC R 1 (.slice sa2 a2.length sc2) a2.length (a2.map (Value.int .u8))) : Calls Tryz.prog 307 #[pt b0, Value.agg #[vi a1.Kind, vi a1.Ns, vi a1.Nr, vb a1.Poll], vs sa2 a2.length sc2] w (Ret fun u w => u = Value.tuple #[] ∧ Sep.St [arq_Arq.at b0 r, R] w0 w) := by
 unfold arq_Arq_come.f at H
 refine calls_enter func307 rfl rfl ?_
 have H : _ = some r := H
 refine V.seq (V.region (W.e (Y.box HS rfl) rfl ?_))
 rintro _ w ⟨nb1, rfl, HS⟩
 refine W.nx (V.meet (σ := arq_Arq) (fun st w => match st with | x4 => Sep.St [api_Ctl.at nb1 a1, arq_Arq.at b0 x4, R] w0 w ∧ ∃ kf5, kf5 ≤ k ∧ arq_Arq_come.j0 kf5 a1 x4 = some r) (fun st => match st with | x4 => [(0, pt b0), (4, pt nb1)]) ?_ ?_)
 ·refine V.seq ?_
  replace HS := HS.fr 1
  obtain ⟨b8_45, b9_45, b10_45, a11_45, c11_45, d11_45, a12_45, c12_45, hi46, HS⟩ := arq_Arq.open HS
  refine V.dr [7] [8] [(7, pt b0), (8, pt b0), (9, po b0 (0 + 9)), (10, pt b9_45), (11, po nb1 (0 + 1)), (12, vi a1.Ns), (13, vs sa2 a2.length sc2)] mo HS ?_
  refine T.ev [(10, _), (12, _), (13, _)] [] [0, 1, 2, 3, 4, 5, 6] ⟨rfl, rfl, rfl, tv⟩ ⟨.mv 0, .nc 7, .fa 8 fo158_9, .ld 9 0 underlying155, .fa 4 fo161_1, .ld 11 7 underlying3, .mv 2, tv⟩ rfl (fun w HS => ?_)
  obtain ⟨t47, A48, H⟩ := bind_s H
  replace HS := HS.pm [2, 0, 1, 3, 4, 5, 6, 7, 8]
  refine ⟨_, Y.cl func316 (reorder_Order_Put.calls A48 HS.j1 (rdC.part 7 hr2 rfl)), ?_⟩
  rintro _ w ⟨rfl, HS⟩
  replace HS := HS.o1
  refine T.nm [(14, vi t47.1), (15, vb (decide (t47.1 > 0)))] HS ⟨.inl ⟨rfl, rfl⟩, ⟨.inr ⟨by decide, rfl⟩, tv⟩⟩ ?_
  refine T.fn [(0, _), (4, _), (15, _)] ⟨rfl, rfl, rfl, tv⟩ ⟨.n1 14 rfl rfl (fun w HS => X.cmp (decide (t47.1 > 0)) rfl rfl rfl rfl), tv⟩ (fun w HS => ?_)
  refine At.next ?_
  by_cases c49 : t47.1 > 0
  ·replace H := ite_t c49 H
   refine V.condT (sb (dT c49)) (V.region (W.mv rfl (W.nc rfl (W.fa fo158_7 rfl (W.st 1 7 HS inf4 rfl rfl rfl rfl rfl rfl fun w HS => ?_)))))
   refine W.nil ?_
   replace HS := HS.pm [7, 0, 1, 2, 3, 4, 5, 6, 8]
   replace HS := api_Ctl.close tv HS
   replace HS := HS.pm [2, 3, 1, 4, 5, 6, 7, 0, 8]
   replace HS := arq_Arq.close tv HS
   replace HS := HS.pk [1, 0, 2] []
   exact At.meet ({ a0 with rejected := false, order := t47.2 } : arq_Arq) ⟨rfl, rfl, tv⟩ ⟨HS, k, by omega, H⟩
  ·replace H := ite_f c49 H
   refine V.condF (sb (dF c49)) (V.skip ?_)
   replace HS := HS.pm [7, 0, 1, 2, 3, 4, 5, 6, 8]
   replace HS := api_Ctl.close tv HS
   replace HS := HS.pm [2, 3, 1, 4, 5, 6, 7, 0, 8]
   replace HS := arq_Arq.close tv HS
   replace HS := HS.pk [1, 0, 2] []
   exact At.meet ({ a0 with order := t47.2 } : arq_Arq) ⟨rfl, rfl, tv⟩ ⟨HS, k, by omega, H⟩
 ·rintro x4 w ⟨HS, kf5, hkkf5, H⟩
  unfold arq_Arq_come.j0 at H
  refine V.meet (σ := Nat × api_Ctl) (fun st w => match st with | (nb6, x7) => Sep.St [api_Ctl.at nb6 x7, api_Ctl.at nb1 a1, arq_Arq.at b0 x4, R] w0 w ∧ ∃ kf8, kf8 ≤ kf5 ∧ arq_Arq_come.j1 kf8 x4 x7 = some r) (fun st => match st with | (nb6, x7) => [(0, pt b0), (6, pt nb6)]) ?_ ?_
  ·replace HS := HS.fr 1
   obtain ⟨b8_31, b9_31, b10_31, a11_31, c11_31, d11_31, a12_31, c12_31, hi32, HS⟩ := arq_Arq.open HS
   replace HS := HS.fr 7
   obtain ⟨hi34, HS⟩ := api_Ctl.open HS
   refine V.dr [4, 8, 9] [7] [(19, pt b0), (20, pt b0), (21, po b0 (0 + 9)), (22, pt b9_31), (24, po nb1 (0 + 3)), (25, vb a1.Poll)] mo HS ?_
   refine T.two rfl rfl ⟨.mv 0, .nc 19, .fa 20 fo158_9, .ld 21 1 underlying155, .fa 4 fo161_3, .ld 24 0 underlying4, tv⟩ (T.step (es := [8, 9]) _ [(22, pt b9_31)] rfl ⟨.inr ⟨rfl, rfl⟩, tv⟩ (Or.inl rfl) (by intro d hd; cases hd; exact ⟨by decide, rfl, rfl⟩) [] [0, 1, 2, 3] rfl rfl rfl rfl rfl (fun w HS => ?_)) (T.step (es := [4, 9]) _ [] rfl tv (Or.inl rfl) (by intro d hd; cases hd; exact ⟨by decide, rfl, rfl⟩) [7] [] rfl rfl rfl rfl rfl (fun w HS => ?_))
   ·have HS : Sep.St [blk nb1 (#[vi a1.Kind, vi a1.Ns, vi a1.Nr, vb a1.Poll]) 161, blk b0 (#[vi x4.m, vi x4.t1, vi x4.n2, vi x4.size, vi x4.state, vi x4.tag, vi x4.tries, vb x4.rejected, pt b8_31, pt b9_31, pt b10_31, vs a11_31 x4.out.length c11_31, vs a12_31 x4.inds.length c12_31, vi x4.sent, vi x4.acked, vi x4.lost]) 158, backlog_Log.at b8_31 x4.log, reorder_Order.at b9_31 x4.order, clock_Set.at b10_31 x4.timers, row 48 1 (.slice a11_31 x4.out.length c11_31) x4.out.length d11_31, tie (El.sl (El.int .u8)) d11_31 x4.out, row 3 1 (.slice a12_31 x4.inds.length c12_31) x4.inds.length (x4.inds.map (Value.int .i64)), R] w0 w := HS
    replace HS := HS.fr 3
    obtain ⟨b3_35, k3_35, a4_35, c4_35, d4_35, hi36, HS⟩ := reorder_Order.open HS
    obtain ⟨t37, A38, H⟩ := bind_s H
    refine ⟨_, Y.cl func263 (reorder_Order_Next.calls A38 HS.j5), ?_⟩
    rintro _ w ⟨rfl, HS⟩
    replace HS := HS.o5
    refine T.nm [(23, vi t37), (26, Value.agg #[vi (1), vi (0), vi t37, vb a1.Poll])] HS ⟨.inl ⟨rfl, rfl⟩, ⟨.inr ⟨by decide, rfl⟩, tv⟩⟩ ?_
    refine T.ev [] [] [] tv ⟨.fa 4 fo161_3, .ld 24 5 underlying4, .n2 23 25 rfl rfl rfl (fun w HS => X.bd (Value.agg #[vi (1), vi (0), vi t37, vb a1.Poll]) rfl (fun _ => by kernel_rfl)), tv⟩ rfl (fun w HS => ?_)
    refine ⟨_, Y.alloc (z := Value.agg (#[vi (0), vi (0), vi (0), vb false])) HS ze161, ?_⟩
    rintro _ w ⟨nb39, rfl, HS⟩
    refine T.nw HS ?_
    refine T.ev [(6, _), (26, _)] [] [5, 6, 7] ⟨rfl, rfl, tv⟩ ⟨.fa 4 fo161_3, .ld 24 6 underlying4, .n2 23 25 rfl rfl rfl (fun w HS => X.bd (Value.agg #[vi (1), vi (0), vi t37, vb a1.Poll]) rfl (fun _ => by kernel_rfl)), tv⟩ rfl (fun w HS => ?_)
    refine ⟨_, Y.storeSt (c' := #[vi (1), vi (0), vi t37, vb a1.Poll]) 0 [vi (1), vi (0), vi t37, vb a1.Poll] HS rfl inf161 rfl rfl rfl rfl rfl rfl, ?_⟩
    rintro _ w HS
    refine T.nn HS ?_
    refine T.fn [(0, _), (6, _)] ⟨rfl, rfl, tv⟩ tv (fun w HS => ?_)
    replace HS := api_Ctl.close tv HS
    replace HS := HS.pm [6, 0, 1, 2, 3, 4, 5, 7, 8, 9, 10, 11, 12, 13]
    replace HS := api_Ctl.close tv HS
    replace HS := HS.pm [2, 3, 4, 5, 6, 0, 1, 7, 8, 9, 10, 11, 12, 13]
    replace HS := reorder_Order.close tv HS
    replace HS := HS.pm [3, 4, 0, 5, 6, 7, 8, 1, 2, 9]
    replace HS := arq_Arq.close tv HS
    replace HS := HS.pk [2, 1, 0, 3] []
    exact At.meet (nb39, ({ Kind := 1, Ns := 0, Nr := t37, Poll := a1.Poll } : api_Ctl)) ⟨rfl, rfl, tv⟩ ⟨HS, kf5, by omega, H⟩
   ·have HS : Sep.St [blk nb1 (#[vi a1.Kind, vi a1.Ns, vi a1.Nr, vb a1.Poll]) 161, blk b0 (#[vi x4.m, vi x4.t1, vi x4.n2, vi x4.size, vi x4.state, vi x4.tag, vi x4.tries, vb x4.rejected, pt b8_31, pt b9_31, pt b10_31, vs a11_31 x4.out.length c11_31, vs a12_31 x4.inds.length c12_31, vi x4.sent, vi x4.acked, vi x4.lost]) 158, backlog_Log.at b8_31 x4.log, reorder_Order.at b9_31 x4.order, clock_Set.at b10_31 x4.timers, row 48 1 (.slice a11_31 x4.out.length c11_31) x4.out.length d11_31, tie (El.sl (El.int .u8)) d11_31 x4.out, row 3 1 (.slice a12_31 x4.inds.length c12_31) x4.inds.length (x4.inds.map (Value.int .i64)), R] w0 w := HS
    refine ⟨_, Y.alloc (z := Value.agg (#[vi (0), vi (0), vi (0), vb false])) HS ze161, ?_⟩
    rintro _ w ⟨nb40, rfl, HS⟩
    refine T.nw HS ?_
    refine T.ev [(22, _)] [] [0, 1, 2, 3] ⟨rfl, tv⟩ ⟨.mv 0, .nc 19, .fa 20 fo158_9, .ld 21 2 underlying155, .fa 4 fo161_3, .ld 24 1 underlying4, tv⟩ rfl (fun w HS => ?_)
    replace HS := HS.fr 4
    obtain ⟨b3_41, k3_41, a4_41, c4_41, d4_41, hi42, HS⟩ := reorder_Order.open HS
    obtain ⟨t43, A44, H⟩ := bind_s H
    refine ⟨_, Y.cl func263 (reorder_Order_Next.calls A44 HS.j5), ?_⟩
    rintro _ w ⟨rfl, HS⟩
    replace HS := HS.o5
    refine T.nm [(23, vi t43), (26, Value.agg #[vi (1), vi (0), vi t43, vb a1.Poll])] HS ⟨.inl ⟨rfl, rfl⟩, ⟨.inr ⟨by decide, rfl⟩, tv⟩⟩ ?_
    refine T.ev [(6, _), (26, _)] [] [5, 6, 7] ⟨rfl, rfl, tv⟩ ⟨.fa 4 fo161_3, .ld 24 6 underlying4, .n2 23 25 rfl rfl rfl (fun w HS => X.bd (Value.agg #[vi (1), vi (0), vi t43, vb a1.Poll]) rfl (fun _ => by kernel_rfl)), tv⟩ rfl (fun w HS => ?_)
    refine ⟨_, Y.storeSt (c' := #[vi (1), vi (0), vi t43, vb a1.Poll]) 5 [vi (1), vi (0), vi t43, vb a1.Poll] HS rfl inf161 rfl rfl rfl rfl rfl rfl, ?_⟩
    rintro _ w HS
    refine T.nn HS ?_
    refine T.fn [(0, _), (6, _)] ⟨rfl, rfl, tv⟩ tv (fun w HS => ?_)
    replace HS := HS.pm [5, 0, 1, 2, 3, 4, 6, 7, 8, 9, 10, 11, 12, 13]
    replace HS := api_Ctl.close tv HS
    replace HS := HS.pm [6, 0, 1, 2, 3, 4, 5, 7, 8, 9, 10, 11, 12, 13]
    replace HS := api_Ctl.close tv HS
    replace HS := HS.pm [2, 3, 4, 5, 6, 0, 1, 7, 8, 9, 10, 11, 12, 13]
    replace HS := reorder_Order.close tv HS
    replace HS := HS.pm [3, 4, 0, 5, 6, 7, 8, 1, 2, 9]
    replace HS := arq_Arq.close tv HS
    replace HS := HS.pk [2, 1, 0, 3] []
    exact At.meet (nb40, ({ Kind := 1, Ns := 0, Nr := t43, Poll := a1.Poll } : api_Ctl)) ⟨rfl, rfl, tv⟩ ⟨HS, kf5, by omega, H⟩
  ·rintro ⟨nb6, x7⟩ w ⟨HS, kf8, hkkf8, H⟩
   unfold arq_Arq_come.j1 at H
   refine V.meet (σ := arq_Arq × api_Ctl) (fun st w => match st with | (x10, x11) => Sep.St [api_Ctl.at nb6 x11, api_Ctl.at nb1 a1, arq_Arq.at b0 x10, R] w0 w ∧ ∃ kf12, kf12 ≤ kf8 ∧ arq_Arq_come.j2 kf12 x10 x11 = some r) (fun st => match st with | (x10, x11) => [(0, pt b0), (6, pt nb6)]) ?_ ?_
   ·refine V.meet (σ := Bool) (fun st w => match st with | x17 => Sep.St [api_Ctl.at nb6 x7, api_Ctl.at nb1 a1, arq_Arq.at b0 x4, R] w0 w ∧ ∃ kf18, kf18 ≤ kf8 ∧ arq_Arq_come.j3 kf18 x4 x7 x17 = some r) (fun st => match st with | x17 => [(0, pt b0), (6, pt nb6), (38, vb x17)]) ?_ ?_
    ·refine V.region (W.mv rfl (W.nc rfl ?_))
     replace HS := HS.fr 2
     obtain ⟨b8_24, b9_24, b10_24, a11_24, c11_24, d11_24, a12_24, c12_24, hi25, HS⟩ := arq_Arq.open HS
     refine W.fa fo158_9 rfl (W.ld 0 HS underlying155 rfl rfl rfl rfl ?_)
     replace HS := HS.fr 2
     obtain ⟨b3_26, k3_26, a4_26, c4_26, d4_26, hi27, HS⟩ := reorder_Order.open HS
     obtain ⟨t28, A29, H⟩ := bind_s H
     refine W.e (Y.cl func317 (reorder_Order_Gap.calls A29 HS.j5)) rfl ?_
     rintro _ w ⟨rfl, HS⟩
     replace HS := HS.o5
     refine W.mv rfl ?_
     by_cases c30 : t28 = true
     ·replace H := ite_t c30 H
      refine W.want 32 rfl (sb c30) (W.mv rfl (W.want 32 rfl (sb c30) (W.nc rfl (W.want 32 rfl (sb c30) (W.fa fo158_7 rfl (W.want 32 rfl (sb c30) (W.ld 5 HS underlying4 rfl rfl rfl rfl (W.want 32 rfl (sb c30) (W.r (X.not rfl) rfl (W.r (X.pickT (sb c30) rfl) rfl (W.nil ?_)))))))))))
      replace HS := reorder_Order.close tv HS
      replace HS := HS.pm [1, 2, 0, 3, 4, 5, 6, 7, 8, 9]
      replace HS := arq_Arq.close tv HS
      replace HS := HS.pk [1, 2, 0, 3] []
      exact At.meet (!x4.rejected) ⟨rfl, rfl, rfl, tv⟩ ⟨HS, kf8, by omega, H⟩
     ·replace H := ite_f c30 H
      refine W.pass 32 rfl (sb (b_f c30)) rfl rfl (W.pass 32 rfl (sb (b_f c30)) rfl rfl (W.pass 32 rfl (sb (b_f c30)) rfl rfl (W.pass 32 rfl (sb (b_f c30)) rfl rfl (W.pass 32 rfl (sb (b_f c30)) rfl rfl (W.r (X.pickF (sb (b_f c30)) rfl) rfl (W.nil ?_))))))
      replace HS := reorder_Order.close tv HS
      replace HS := HS.pm [1, 2, 0, 3, 4, 5, 6, 7, 8, 9]
      replace HS := arq_Arq.close tv HS
      replace HS := HS.pk [1, 2, 0, 3] []
      exact At.meet false ⟨rfl, rfl, rfl, tv⟩ ⟨HS, kf8, by omega, H⟩
    ·rintro x17 w ⟨HS, kf18, hkkf18, H⟩
     unfold arq_Arq_come.j3 at H
     by_cases c19 : x17 = true
     ·replace H := ite_t c19 H
      refine V.condT (sb c19) (V.seq (V.region (W.mv rfl (W.nc rfl ?_))))
      replace HS := HS.fr 2
      obtain ⟨b8_20, b9_20, b10_20, a11_20, c11_20, d11_20, a12_20, c12_20, hi21, HS⟩ := arq_Arq.open HS
      refine W.fa fo158_7 rfl (W.st 0 7 HS inf4 rfl rfl rfl rfl rfl rfl fun w HS => ?_)
      refine W.nx (V.region ?_)
      replace HS := HS.fr 7
      obtain ⟨hi23, HS⟩ := api_Ctl.open HS
      refine W.fa fo161_0 rfl (W.st 0 0 HS inf3 rfl rfl rfl rfl rfl rfl fun w HS => ?_)
      refine W.fa fo161_3 rfl (W.st 0 3 HS inf4 rfl rfl rfl rfl rfl rfl fun w HS => ?_)
      refine W.nil ?_
      replace HS := api_Ctl.close tv HS
      replace HS := HS.pm [1, 2, 3, 4, 5, 6, 7, 0, 8, 9]
      replace HS := arq_Arq.close tv HS
      replace HS := HS.pk [1, 2, 0, 3] []
      exact At.meet (({ x4 with rejected := true } : arq_Arq), ({ x7 with Kind := 2, Poll := false } : api_Ctl)) ⟨rfl, rfl, tv⟩ ⟨HS, kf18, by omega, H⟩
     ·replace H := ite_f c19 H
      refine V.condF (sb (b_f c19)) (V.skip ?_)
      exact At.meet (x4, x7) ⟨rfl, rfl, tv⟩ ⟨HS, kf18, by omega, H⟩
   ·rintro ⟨x10, x11⟩ w ⟨HS, kf12, hkkf12, H⟩
    unfold arq_Arq_come.j2 at H
    refine V.region (W.mv rfl ?_)
    obtain ⟨hi14, HS⟩ := api_Ctl.open HS
    refine W.r (X.loadSt 0 [vi x11.Kind, vi x11.Ns, vi x11.Nr, vb x11.Poll] HS rfl underlying161 rfl inf161 rfl rfl) rfl ?_
    obtain ⟨t15, A16, H⟩ := bind_s H
    replace HS := HS.pm [2, 0, 1, 3]
    refine W.e (Y.cl func113 (arq_Arq_tell.calls A16 HS.j1)) rfl ?_
    rintro _ w ⟨rfl, HS⟩
    replace HS := HS.o1
    refine W.nil ?_
    replace HS := HS.pk [0, 3] [1, 2]
    cases H
    exact At.end0 rfl ⟨_, rfl, rfl, HS⟩
end Go.Proofs.YtaejcbpijdacmaaGreat
