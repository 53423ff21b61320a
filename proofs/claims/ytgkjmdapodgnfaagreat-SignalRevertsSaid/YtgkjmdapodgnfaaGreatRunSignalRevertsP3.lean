/- SignalReverts: the functions that its law reaches, as plain functions, and that the machine's calls come to what these say. Conditions: those that stand at each. -/
import Derived.Test.YtgkjmdapodgnfaaGreatRunSignalRevertsP2
set_option linter.all false
set_option maxRecDepth 100000
set_option maxHeartbeats 4000000
set_option synthInstance.maxSize 100000
set_option synthInstance.maxHeartbeats 1000000
namespace Go.Proofs.YtgkjmdapodgnfaaGreat
open Go.RowKit Go.Proofs.YtgkjmdapodgnfaaGreat.Sep Go.Proofs.YtgkjmdapodgnfaaGreat.Walk Go.Proofs.Tryz
attribute [local irreducible] V W At T Code.rounds RdO RdOk
set_option autoImplicit true
set_option relaxedAutoImplicit true
mutual
def octets_Stuff.l0 : Nat → (List Int) → Int → (List Int) → Option (List Int)
 | 0, _, _, _ => none
 | k + 1, a0, x2, x5 => (if x2 < (a0.length : Int) then (if 0 ≤ x2 ∧ x2 < (a0.length : Int) then (if (a0.getD x2.toNat 0) = 126 then (octets_Stuff.j2 a0 x2 x5 (octets_Stuff.l0 k a0) true) else (octets_Stuff.j2 a0 x2 x5 (octets_Stuff.l0 k a0) (decide ((a0.getD x2.toNat 0) = 125)))) else none) else some x5)
def octets_Stuff.j1 (x2 : Int) (Lq17 : Int → (List Int) → Option (List Int)) (x14 : List Int) (x15 : Int) : Option (List Int) := (if (x14.length : Int) + ([x15] : List Int).length ≤ 1099511627776 then (Lq17 (w64 (x2 + 1)) (x14 ++ ([x15] : List Int))) else none)
def octets_Stuff.j2 (a0 : List Int) (x2 : Int) (x5 : List Int) (Lq27 : Int → (List Int) → Option (List Int)) (x25 : Bool) : Option (List Int) := (if x25 = true then (if (x5.length : Int) + ([125] : List Int).length ≤ 1099511627776 then (octets_Stuff.j1 x2 Lq27 (x5 ++ ([125] : List Int)) (ixor .u8 (a0.getD x2.toNat 0) (32))) else none) else (octets_Stuff.j1 x2 Lq27 x5 (a0.getD x2.toNat 0)))
end
def octets_Stuff.f (k : Nat) (a0 : List Int) : Option (List Int) := (octets_Stuff.l0 k a0 0 ([] : List Int))
theorem octets_Stuff.calls (H : octets_Stuff.f k a0 = some r) (HS : St [R] w0 w) (hr0 : dB R sa0 sc0 a0) : Calls Tryz.prog 266 #[vs sa0 a0.length sc0] w (Ret fun u w => ∃ aq0 cq0, u = vs aq0 r.length cq0 ∧ St [rB aq0 cq0 r, R] w0 w) := by
 refine calls_enter func266 rfl rfl (go ?_)
 have HS := row_nilF (Value.int .u8) 5 1 HS
 refine V.lj (σ := Int × Option Addr × Nat × List Int) [6, 7] (fun kq (x2, ra3, rc4, x5) w => St [rB ra3 rc4 x5, R] w0 w ∧ octets_Stuff.l0 kq a0 x2 x5 = some r ∧ kq ≤ k) (fun (x2, ra3, rc4, x5) => [(3, vs ra3 x5.length rc4), (8, vi x2)]) (_, _, _, _) ⟨HS, H, Nat.le_refl _⟩ ?_
 rintro kq6 ⟨x2, ra3, rc4, x5⟩ w ⟨HS, H, _⟩
 cases kq6 with
 | zero => exact absurd H (by simp [octets_Stuff.l0])
 | succ kq6 =>
  simp only [octets_Stuff.l0] at H
  refine go ?_
  refine V.cd H rfl (fun _ H => go ?_) (fun _ H => go ?_)
  ·obtain ⟨c9, H⟩ := ite_n H
   obtain ⟨_, _, hh⟩ := (rdC.at 1 hr0 HS rfl).some (by decide) c9.1 c9.2; subst hh
   refine go ?_
   refine W.r (X.load underlying5 rfl rfl ((rdC.at 1 hr0 HS rfl).cellI c9.1 c9.2)) rfl ?_
   refine gs ?_
   refine V.mj (σ := Option Addr × Nat × List Int × Int) [6, 7, 8] (fun (ra12, rc13, x14, x15) w => St [rB ra12 rc13 x14, R] w0 w ∧ ∃ kl18, kl18 ≤ kq6 ∧ octets_Stuff.j1 x2 (octets_Stuff.l0 kl18 a0) x14 x15 = some r) (fun (ra12, rc13, x14, x15) => [(3, vs ra12 x14.length rc13), (5, Value.int .u8 x15)]) ?_ ?_
   ·refine V.mj (σ := Bool) [3, 5, 6, 7, 8] (fun x25 w => St [rB ra3 rc4 x5, R] w0 w ∧ ∃ kl28, kl28 ≤ kq6 ∧ octets_Stuff.j2 a0 x2 x5 (octets_Stuff.l0 kl28 a0) x25 = some r) (fun x25 => [(17, vb x25)]) ?_ ?_
    ·refine go ?_
     refine W.cd 14 H rfl (fun _ H => go ?_) (fun _ H => go ?_)
     ·exact At.mt _ ⟨HS, kq6, by omega, H⟩
     ·exact At.mt _ ⟨HS, kq6, by omega, H⟩
    ·rintro x25 w ⟨HS, kl28, _, H⟩
     refine V.cv H rfl (fun _ H => go ?_) (fun _ H => go ?_)
     ·refine W.e (Y.ls (e := 5) (Value.int .u8) ([125] : List Int) HS rfl rfl (fun _ => by kernel_rfl)) rfl ?_
      rintro _ w ⟨_, rfl, HS⟩
      obtain ⟨_, H⟩ := ite_n H
      refine W.e (Y.appF (Value.int .u8) (fun _ => rfl) 1 underlying27 ap5 rfl HS rfl rfl rfl (rdC.at 0 row_rd HS rfl) (by omega) (by omega)) rfl ?_
      rintro _ w ⟨_, _, rfl, HS⟩
      refine go ?_
      refine W.r (X.xor rfl rfl) rfl (go ?_)
      have HS := HS.ke [1, 1]
      exact At.mt (_, _, _, _) ⟨HS, kl28, by omega, H⟩
     ·exact At.mt (_, _, _, _) ⟨HS, kl28, by omega, H⟩
   ·rintro ⟨ra12, rc13, x14, x15⟩ w ⟨HS, kl18, _, H⟩
    refine go ?_
    refine W.e (Y.ls (e := 5) (Value.int .u8) ([x15] : List Int) HS rfl rfl (fun _ => by kernel_rfl)) rfl ?_
    rintro _ w ⟨_, rfl, HS⟩
    obtain ⟨_, H⟩ := ite_n H
    refine W.e (Y.appF (Value.int .u8) (fun _ => rfl) 1 underlying27 ap5 rfl HS rfl rfl rfl (rdC.at 0 row_rd HS rfl) (by omega) (by omega)) rfl ?_
    rintro _ w ⟨_, _, rfl, HS⟩
    refine go ?_
    have HS := HS.ke [1, 1]
    exact At.rn (_, _, _, _) ⟨HS, H, by omega⟩
  ·exact rt
def frame_Put.f (k : Nat) (a0 : List Int) (a1 : Bool) : Option (List Int) := ((fcs_Put.f k a0 a1).bind fun t4 => ((octets_Stuff.f k t4).bind fun t6 => ((slices_Concat_Sbytebyte.f k ([([126] : List Int), t6, ([126] : List Int)] : List (List Int))).bind fun t14 => some t14)))
theorem frame_Put.calls (H : frame_Put.f k a0 a1 = some r) (HS : St [fB sa0 sc0 a0, R] w0 w) : Calls Tryz.prog 227 #[vs sa0 a0.length sc0, vb a1] w (Ret fun u w => ∃ aq0 cq0, u = vs aq0 r.length cq0 ∧ St [rB aq0 cq0 r, R] w0 w) := by
 refine calls_enter func227 rfl rfl (go ?_)
 refine W.e (Y.ls (e := 5) (Value.int .u8) ([126] : List Int) HS rfl rfl (fun _ => by kernel_rfl)) rfl ?_
 rintro _ w ⟨lb3, rfl, HS⟩
 refine go ?_
 have HS := HS.more 1 rfl (fun _ t => t) fsl.pers
 refine W.kl H func174 (fun _ h => fcs_Put.calls h HS.j1) ?_
 rintro _ _ w H ⟨_, _, rfl, HS⟩
 have HS := HS.o1
 refine W.kl H func266 (fun _ h => octets_Stuff.calls h HS.j0 (rdC.part 0 row_rd rfl)) ?_
 rintro t6 _ w H ⟨at6_0, ct6_0, rfl, HS⟩
 have HS := HS.o1
 refine W.e (Y.ls (e := 5) (Value.int .u8) ([126] : List Int) HS rfl rfl (fun _ => by kernel_rfl)) rfl ?_
 rintro _ w ⟨lb10, rfl, HS⟩
 have HS := St.row_freeze ((St.row_freeze ((St.row_freeze (HS.fr 3)).fr 2)).fr 2)
 refine W.e (Y.lc (e := 27) (sz := 1) [vs (some ⟨lb3, 0, none⟩) ([126] : List Int).length 1, vs at6_0 t6.length ct6_0, vs (some ⟨lb10, 0, none⟩) ([126] : List Int).length 1] HS rfl rfl (fun _ => by kernel_rfl)) rfl ?_
 rintro _ w ⟨_, rfl, HS⟩
 have HS := St.tie_cons (((St.sl_close (E := (El.int .u8)) (St.swap (St.put (A := tie (El.int .u8) (([126] : List Int).map (Value.int .u8)) ([126] : List Int)) (fun _ => int_tie) ((St.tie_cons (((St.sl_close (E := (El.int .u8)) (St.swap (St.put (A := tie (El.int .u8) (t6.map (Value.int .u8)) t6) (fun _ => int_tie) ((St.tie_cons (((St.sl_close (E := (El.int .u8)) (St.swap (St.put (A := tie (El.int .u8) (([126] : List Int).map (Value.int .u8)) ([126] : List Int)) (fun _ => int_tie) ((St.put (A := tie (El.sl (El.int .u8)) ([]) (([] : List (List Int)))) (fun _ => tie.nil) HS).more 2 rfl (fun _ t => t) fsl.pers)))).fr 1).fr 1)).more 3 rfl (fun _ t => t) fsl.pers)))).fr 1).fr 1)).more 4 rfl (fun _ t => t) fsl.pers)))).fr 1).fr 1)
 refine W.kl H func215 (fun _ h => slices_Concat_Sbytebyte.calls h HS.j0 (rdC.part 1 row_rd rfl) (fun h hh => let ⟨_, l, t⟩ := Sp.has 0 hh rfl; tie.mono t l)) ?_
 rintro _ _ w H ⟨_, _, rfl, HS⟩
 have HS := HS.o1
 refine go ?_
 have HS := HS.ke [0, 7]
 exact rt
def ring_Ring_Add.f (a0 : ring_Ring) (a1 : List Int) : Option (Bool × ring_Ring) := (if (a1.length : Int) > (w64 (a0.room - (a0.b.length : Int))) then some (false, ({ a0 with dropped := imin (w64 (a0.dropped + 1)) (4294967295) } : ring_Ring)) else (if (a0.b.length : Int) + a1.length ≤ 1099511627776 then (if (a0.pieces.length : Int) + (([(a1.length : Int)] : List Int)).length ≤ 1099511627776 then some (true, ({ a0 with b := a0.b ++ a1, pieces := a0.pieces ++ ([(a1.length : Int)] : List Int) } : ring_Ring)) else none) else none))
theorem ring_Ring_Add.calls (H : ring_Ring_Add.f a0 a1 = some r) (HS : St [ring_Ring.at b0 a0, R] w0 w) (hr1 : dB R sa1 sc1 a1) : Calls Tryz.prog 226 #[pt b0, vs sa1 a1.length sc1] w (Ret fun u w => u = vb r.1 ∧ St [ring_Ring.at b0 r.2, R] w0 w) := by
 refine calls_enter func226 rfl rfl (go ?_)
 obtain ⟨_, _, _, _, _, HS⟩ := ring_Ring.open HS
 apply V.da [] [] [(5, _), (6, _), (7, _), (8, _), (9, _), (10, _), (11, _), (12, _), (13, _), (14, _), (15, _), (16, _), (17, _)] mo HS
 rfl
 refine T.ff [0, 1, 17] fun w HS => ?_
 refine go ?_
 refine V.cd H rfl (fun _ H => go ?_) (fun _ H => go ?_)
 ·refine W.sr 4 HS rfl rfl rfl fun w HS => go ?_
  have HS := ring_Ring.close tv HS
  exact rt
 ·obtain ⟨_, H⟩ := ite_n H
  refine W.e (Y.appF (Value.int .u8) (fun _ => rfl) 1 underlying27 ap5 rfl HS rfl rfl rfl (rdC.at 3 hr1 HS rfl) (by omega) (by omega)) rfl ?_
  rintro _ w ⟨_, _, rfl, HS⟩
  refine go ?_
  refine W.sr 1 HS rfl rfl rfl fun w HS => go ?_
  refine W.e (Y.ls (e := 3) (Value.int .i64) ([(a1.length : Int)] : List Int) HS rfl rfl (fun _ => by kernel_rfl)) rfl ?_
  rintro _ w ⟨_, rfl, HS⟩
  obtain ⟨_, H⟩ := ite_n H
  refine W.e (Y.appF (Value.int .i64) (fun _ => rfl) 3 underlying48 ap3 rfl HS rfl rfl rfl (rdC.at 0 row_rd HS rfl) (by omega) (by omega)) rfl ?_
  rintro _ w ⟨_, _, rfl, HS⟩
  refine go ?_
  refine W.sr 3 HS rfl rfl rfl fun w HS => go ?_
  have HS := (ring_Ring.close tv (HS.b [1, 1, 1])).ke [0, 1]
  exact rt
abbrev V80.Q (b : Nat) (l0 l1 : List (List Int)) (a0 : Option Addr) (c0 : Nat) (d0 : List Value) (a1 : Option Addr) (c1 : Nat) (d1 : List Value) (L : List As) : List As := blk b (#[vs a0 l0.length c0, vs a1 l1.length c1]) 80 :: row 27 1 (.slice a0 l0.length c0) l0.length d0 :: tie (El.sl (El.int .u8)) d0 l0 :: row 27 1 (.slice a1 l1.length c1) l1.length d1 :: tie (El.sl (El.int .u8)) d1 l1 :: L
abbrev V80.P (b : Nat) (x : (List (List Int) × List (List Int))) (a0 : Option Addr) (c0 : Nat) (d0 : List Value) (a1 : Option Addr) (c1 : Nat) (d1 : List Value) (L : List As) : List As := V80.Q b x.1 x.2 a0 c0 d0 a1 c1 d1 L
def V80.at (b : Nat) (x : (List (List Int) × List (List Int))) : As := fun h => True ∧ ∃ a0 : Option Addr, ∃ c0 : Nat, ∃ d0 : List Value, ∃ a1 : Option Addr, ∃ c1 : Nat, ∃ d1 : List Value, Sp (V80.P b x a0 c0 d0 a1 c1 d1 []) h
theorem V80.open {b : Nat} {x : (List (List Int) × List (List Int))} {L : List As} {w0 w : World} (hs : Sep.St (V80.at b x :: L) w0 w) : ∃ a0 : Option Addr, ∃ c0 : Nat, ∃ d0 : List Value, ∃ a1 : Option Addr, ∃ c1 : Nat, ∃ d1 : List Value, True ∧ Sep.St (V80.P b x a0 c0 d0 a1 c1 d1 L) w0 w := by
 obtain ⟨ho, ht, hu, h, hon, h1, h2, hd, e1, e2, ⟨hi, a0, c0, d0, a1, c1, d1, hA⟩, hl⟩ := hs
 exact ⟨a0, c0, d0, a1, c1, d1, hi, St.open (m := V80.P b x a0 c0 d0 a1 c1 d1 []) ⟨ho, ht, hu, h, hon, h1, h2, hd, e1, e2, hA, hl⟩⟩
theorem V80.close {b : Nat} {l0 l1 : List (List Int)} {a0 : Option Addr} {c0 : Nat} {d0 : List Value} {a1 : Option Addr} {c1 : Nat} {d1 : List Value} {L : List As} {w0 w : World} (hi : True) (hs : Sep.St (V80.Q b l0 l1 a0 c0 d0 a1 c1 d1 L) w0 w) : Sep.St (V80.at b (l0, l1) :: L) w0 w := by
 have h2 := St.join (m := V80.Q b l0 l1 a0 c0 d0 a1 c1 d1 []) hs
 exact h2.mono fun h hh => ⟨hi, _, _, _, _, _, _, hh⟩
mutual
def station_Station_put.j0 (a1 : (List (List Int) × List (List Int))) (a2 : Int) (a3 : List Int) (x4 : station_Station) (x5 : Bool) : Option (station_Station × (List (List Int) × List (List Int))) := (if x5 = true then (if 0 ≤ a2 ∧ a2 < 2 then (if a2 = 0 then ((slices_Clone_Sbytebyte.f a3).bind fun t12 => (if (a1.1.length : Int) + (([t12] : List (List Int))).length ≤ 1099511627776 then some (x4, (a1.1 ++ ([t12] : List (List Int)), a1.2)) else none)) else ((slices_Clone_Sbytebyte.f a3).bind fun t21 => (if (a1.2.length : Int) + (([t21] : List (List Int))).length ≤ 1099511627776 then some (x4, (a1.1, a1.2 ++ ([t21] : List (List Int)))) else none))) else none) else some (x4, a1))
end
def station_Station_put.f (k : Nat) (a0 : station_Station) (a1 : (List (List Int) × List (List Int))) (a2 : Int) (a3 : List Int) : Option (station_Station × (List (List Int) × List (List Int))) := (if 0 ≤ a2 ∧ a2 < 2 then (if a2 = 0 then ((frame_Put.f k a3 a0.c.Wide).bind fun t33 => ((ring_Ring_Add.f a0.sides.1.ring t33).bind fun t35 => (station_Station_put.j0 a1 a2 a3 ({ a0 with sides := (({ a0.sides.1 with ring := t35.2 } : station_side), a0.sides.2) } : station_Station) t35.1))) else ((frame_Put.f k a3 a0.c.Wide).bind fun t38 => ((ring_Ring_Add.f a0.sides.2.ring t38).bind fun t40 => (station_Station_put.j0 a1 a2 a3 ({ a0 with sides := (a0.sides.1, ({ a0.sides.2 with ring := t40.2 } : station_side)) } : station_Station) t40.1)))) else none)
theorem station_Station_put.calls (H : station_Station_put.f k a0 a1 a2 a3 = some r) (HS : St [station_Station.at b0 a0, V80.at b1 a1, fB sa3 sc3 a3, R] w0 w) : Calls Tryz.prog 182 #[pt b0, pt b1, vi a2, vs sa3 a3.length sc3] w (Ret fun u w => u = Value.tuple #[] ∧ St [station_Station.at b0 r.1, V80.at b1 r.2, R] w0 w) := by
 refine calls_enter func182 rfl rfl ?_
 refine V.mj (σ := station_Station × Bool) [1, 2, 3] (fun (x4, x5) w => St [station_Station.at b0 x4, V80.at b1 a1, fB sa3 sc3 a3, R] w0 w ∧ station_Station_put.j0 a1 a2 a3 x4 x5 = some r) (fun (x4, x5) => [(22, vb x5)]) ?_ ?_
 ·obtain ⟨_, _, _, _, _, _, _, _, _, _, HS⟩ := station_Station.open HS
  obtain ⟨c31, H⟩ := ite_n H
  refine ite_c H (fun c32 H => ?_) (fun _ H => ?_)
  ·apply V.da [13, 14] [] [(8, _), (9, _), (10, _), (11, _), (12, _), (13, _), (14, _), (15, _), (16, _), (17, _), (18, _), (19, _), (20, _)] mo HS
   rfl
   refine T.e [15, 20] [] [7, 8, 9, 10, 11, 12] (fun w HS => ?_) ⟨rd, rd, rd, rd, .n2 9 11 rfl rfl rfl (fun w HS => X.indexArK 0 c32 underlying126 inf125 rfl rfl c31.1 c31.2), rds⟩
   have HS := HS.more 11 rfl (fun _ t => t) fsl.pers
   refine Y.kl H func227 (fun _ h => frame_Put.calls h HS.j1) ?_
   rintro _ _ w H ⟨_, _, rfl, HS⟩
   have HS := HS.o1
   refine T.nw HS ?_
   refine T.e [14, 21] [] [0, 1, 2, 3, 4, 5, 6] (fun w HS => ?_) ⟨rd, rd, rd, rd, .n2 9 11 rfl rfl rfl (fun w HS => X.indexArK 0 c32 underlying126 inf125 rfl rfl c31.1 c31.2), rds⟩
   have HS := HS.b [7]
   refine Y.kl H func226 (fun _ h => ring_Ring_Add.calls h HS.j1 (rdC.part 0 row_rd rfl)) ?_
   rintro _ _ w H ⟨rfl, HS⟩
   have HS := HS.o1
   refine T.nw HS ?_
   refine T.ff [1, 2, 3, 22] fun w HS => ?_
   have HS := (station_Station.close tv (HS.b [2, 2, 2, 2, 2, 2, 0, 1, 1, 1])).ke [0, 1, 1, 1]
   exact At.mt (_, _) ⟨HS, H⟩
  ·have hk37 : a2 = 1 := by omega
   apply V.da [13, 14] [] [(8, _), (9, _), (10, _), (11, _), (12, _), (13, _), (14, _), (15, _), (16, _), (17, _), (18, _), (19, _), (20, _)] mo HS
   rfl
   refine T.e [15, 20] [] [7, 8, 9, 10, 11, 12] (fun w HS => ?_) ⟨rd, rd, rd, rd, .n2 9 11 rfl rfl rfl (fun w HS => X.indexArK 1 hk37 underlying126 inf125 rfl rfl c31.1 c31.2), rds⟩
   have HS := HS.more 11 rfl (fun _ t => t) fsl.pers
   refine Y.kl H func227 (fun _ h => frame_Put.calls h HS.j1) ?_
   rintro _ _ w H ⟨_, _, rfl, HS⟩
   have HS := HS.o1
   refine T.nw HS ?_
   refine T.e [14, 21] [] [0, 1, 2, 3, 4, 5, 6] (fun w HS => ?_) ⟨rd, rd, rd, rd, .n2 9 11 rfl rfl rfl (fun w HS => X.indexArK 1 hk37 underlying126 inf125 rfl rfl c31.1 c31.2), rds⟩
   have HS := HS.b [10]
   refine Y.kl H func226 (fun _ h => ring_Ring_Add.calls h HS.j1 (rdC.part 0 row_rd rfl)) ?_
   rintro _ _ w H ⟨rfl, HS⟩
   have HS := HS.o1
   refine T.nw HS ?_
   refine T.ff [1, 2, 3, 22] fun w HS => ?_
   have HS := (station_Station.close tv (HS.b [2, 2, 2, 2, 2, 2, 2, 2, 2])).ke [0, 1, 1, 1]
   exact At.mt (_, _) ⟨HS, H⟩
 ·rintro ⟨x4, x5⟩ w ⟨HS, H⟩
  refine V.cv H rfl (fun _ H => ?_) (fun _ H => go ?_)
  ·obtain ⟨c8, H⟩ := ite_n H
   have HS := HS.fr 1
   obtain ⟨_, _, _, _, _, _, _, HS⟩ := V80.open HS
   refine ite_c H (fun c11 H => ?_) (fun _ H => ?_)
   ·apply V.da [8, 9, 10, 13] [12] [(23, _), (24, _), (25, _), (26, _), (27, _), (28, _), (29, _), (30, _), (34, _)] mo HS
    rfl
    refine T.e [30] [12] [7] (fun w HS => ?_) ⟨rd, rd, rd, rd, rd, .n2 26 27 rfl rfl rfl (fun w HS => X.indexArK 0 c11 underlying80 inf53 rfl rfl c8.1 c8.2), rds⟩
    refine Y.kl H func189 (fun _ h => slices_Clone_Sbytebyte.calls h HS.j0 (rdC.part 6 fsl.rd rfl)) ?_
    rintro t12 _ w H ⟨at12_0, ct12_0, rfl, HS⟩
    have HS := HS.o1
    refine T.nw HS ?_
    refine T.e [31] [12] [] (fun w HS => ?_) ⟨rd, rd, rd, rd, rd, .n2 26 27 rfl rfl rfl (fun w HS => X.indexArK 0 c11 underlying80 inf53 rfl rfl c8.1 c8.2), rds⟩
    have HS := St.row_freeze HS
    refine ⟨_, Y.lc (e := 27) (sz := 1) [vs at12_0 t12.length ct12_0] HS rfl rfl (fun _ => by kernel_rfl), ?_⟩
    rintro _ w ⟨_, rfl, HS⟩
    have HS := St.tie_cons (((St.sl_close (E := (El.int .u8)) (St.swap (St.put (A := tie (El.int .u8) (t12.map (Value.int .u8)) t12) (fun _ => int_tie) ((St.put (A := tie (El.sl (El.int .u8)) ([]) (([] : List (List Int)))) (fun _ => tie.nil) HS).more 2 rfl (fun _ t => t) fsl.pers)))).fr 1).fr 1)
    refine T.nw HS ?_
    refine T.e [29, 32] [] [2, 3, 4, 5, 6] (fun w HS => ?_) ⟨rd, rd, rd, rd, rd, .n2 26 27 rfl rfl rfl (fun w HS => X.indexArK 0 c11 underlying80 inf53 rfl rfl c8.1 c8.2), rds⟩
    obtain ⟨_, H⟩ := ite_n H
    refine ⟨_, Y.app (xs := a1.1) (ys := ([t12] : List (List Int))) 4 underlying53 ap27 rfl (by decide) HS rfl rfl rfl (rdC.at 1 row_rd HS rfl) (St.tie_one 0 HS rfl) (by omega) (by omega), ?_⟩
    rintro _ w ⟨_, _, rfl, HS⟩
    have HS := St.tie_app 1 (HS.fr 5) rfl
    apply T.na [(33, _), (35, _)] HS
    exact nmk
    refine T.e [33, 35] [] [0, 1, 11, 12] (fun w HS => ?_) ⟨rd, rd, rd, .n2 24 34 rfl rfl rfl (fun w HS => X.indexArK 0 c11 underlying80 inf53 rfl rfl c8.1 c8.2), rds⟩
    refine Y.sr 0 HS rfl rfl rfl fun _ w HS => ?_
    refine T.nn HS ?_
    refine T.ff [] fun w HS => ?_
    have HS := (V80.close tv (HS.b [4, 4, 0, 3, 3])).ke [4, 0, 4]
    exact rt
   ·have hk20 : a2 = 1 := by omega
    apply V.da [8, 9, 10, 13] [12] [(23, _), (24, _), (25, _), (26, _), (27, _), (28, _), (29, _), (30, _), (34, _)] mo HS
    rfl
    refine T.e [30] [12] [7] (fun w HS => ?_) ⟨rd, rd, rd, rd, rd, .n2 26 27 rfl rfl rfl (fun w HS => X.indexArK 1 hk20 underlying80 inf53 rfl rfl c8.1 c8.2), rds⟩
    refine Y.kl H func189 (fun _ h => slices_Clone_Sbytebyte.calls h HS.j0 (rdC.part 6 fsl.rd rfl)) ?_
    rintro t21 _ w H ⟨at21_0, ct21_0, rfl, HS⟩
    have HS := HS.o1
    refine T.nw HS ?_
    refine T.e [31] [12] [] (fun w HS => ?_) ⟨rd, rd, rd, rd, rd, .n2 26 27 rfl rfl rfl (fun w HS => X.indexArK 1 hk20 underlying80 inf53 rfl rfl c8.1 c8.2), rds⟩
    have HS := St.row_freeze HS
    refine ⟨_, Y.lc (e := 27) (sz := 1) [vs at21_0 t21.length ct21_0] HS rfl rfl (fun _ => by kernel_rfl), ?_⟩
    rintro _ w ⟨_, rfl, HS⟩
    have HS := St.tie_cons (((St.sl_close (E := (El.int .u8)) (St.swap (St.put (A := tie (El.int .u8) (t21.map (Value.int .u8)) t21) (fun _ => int_tie) ((St.put (A := tie (El.sl (El.int .u8)) ([]) (([] : List (List Int)))) (fun _ => tie.nil) HS).more 2 rfl (fun _ t => t) fsl.pers)))).fr 1).fr 1)
    refine T.nw HS ?_
    refine T.e [29, 32] [] [2, 3, 4, 5, 6] (fun w HS => ?_) ⟨rd, rd, rd, rd, rd, .n2 26 27 rfl rfl rfl (fun w HS => X.indexArK 1 hk20 underlying80 inf53 rfl rfl c8.1 c8.2), rds⟩
    obtain ⟨_, H⟩ := ite_n H
    refine ⟨_, Y.app (xs := a1.2) (ys := ([t21] : List (List Int))) 6 underlying53 ap27 rfl (by decide) HS rfl rfl rfl (rdC.at 1 row_rd HS rfl) (St.tie_one 0 HS rfl) (by omega) (by omega), ?_⟩
    rintro _ w ⟨_, _, rfl, HS⟩
    have HS := St.tie_app 1 (HS.fr 7) rfl
    apply T.na [(33, _), (35, _)] HS
    exact nmk
    refine T.e [33, 35] [] [0, 1, 11, 12] (fun w HS => ?_) ⟨rd, rd, rd, .n2 24 34 rfl rfl rfl (fun w HS => X.indexArK 1 hk20 underlying80 inf53 rfl rfl c8.1 c8.2), rds⟩
    refine Y.sr 1 HS rfl rfl rfl fun _ w HS => ?_
    refine T.nn HS ?_
    refine T.ff [] fun w HS => ?_
    have HS := (V80.close tv (HS.b [4, 4, 4, 4])).ke [4, 0, 4]
    exact rt
  ·have HS := HS.ke [0, 0, 1]
   exact rt
def aps_Aps_Request.f (a0 : aps_Aps) : Option Int := some a0.own
theorem aps_Aps_Request.calls (H : aps_Aps_Request.f a0 = some r) (HS : St [blk b0 (#[vi a0.hold, vi a0.wait, vb a0.revert, vi a0.command, vi a0.remote, vi a0.own, vi a0.bad, vi a0.left, vi a0.line]) 158, R] w0 w) : Calls Tryz.prog 184 #[pt b0] w (Ret fun u w => u = vi r ∧ St [blk b0 (#[vi a0.hold, vi a0.wait, vb a0.revert, vi a0.command, vi a0.remote, vi a0.own, vi a0.bad, vi a0.left, vi a0.line]) 158, R] w0 w) := by
 refine calls_enter func184 rfl rfl (go ?_)
 exact rt
mutual
def kcode_Put.j0  (x3 : Int) : Option (List Int) := some ([x3, icom .u8 x3] : List Int)
end
def kcode_Put.f (a0 : Int) (a1 : Int) : Option (List Int) := ((request_Of.f a0).bind fun t1 => (if a1 = 1 then (kcode_Put.j0 (IntKind.u8.wrap ((IntKind.u8.wrap (w64 (t1 * 16))) + 1))) else (kcode_Put.j0 (IntKind.u8.wrap (w64 (t1 * 16))))))
theorem kcode_Put.calls (H : kcode_Put.f a0 a1 = some r) (HS : St [R] w0 w) : Calls Tryz.prog 183 #[vi a0, vi a1] w (Ret fun u w => ∃ aq0 cq0, u = vs aq0 r.length cq0 ∧ St [rB aq0 cq0 r, R] w0 w) := by
 refine calls_enter func183 rfl rfl (go ?_)
 refine W.kl H func228 (fun _ h => request_Of.calls h HS.j0) ?_
 rintro _ _ w H ⟨rfl, HS⟩
 have HS := HS.o0
 refine gs ?_
 refine V.mj (σ := Int) [] (fun x3 w => St [R] w0 w ∧ kcode_Put.j0 x3 = some r) (fun x3 => [(5, Value.int .u8 x3)]) ?_ ?_
 ·refine go ?_
  refine V.cd H rfl (fun _ H => go ?_) (fun _ H => go ?_)
  ·exact At.mt _ ⟨HS, H⟩
  ·exact At.mt _ ⟨HS, H⟩
 ·rintro x3 w ⟨HS, H⟩
  refine go ?_
  refine W.r (X.com rfl) rfl ?_
  refine W.e (Y.ls (e := 5) (Value.int .u8) ([x3, icom .u8 x3] : List Int) HS rfl rfl (fun _ => by kernel_rfl)) rfl ?_
  rintro _ w ⟨_, rfl, HS⟩
  refine go ?_
  exact rt
mutual
def station_Station_Step.l1 : Nat → (Int × aps_Aps) → (List (List Int) × arq_Arq) → Int → station_Station → (List (List Int) × List (List Int)) → Option ((List (List Int) × List (List Int)) × station_Station)
 | 0, _, _, _, _, _ => none
 | k + 1, t21, t38, x42, x43, x44 => (if x42 < (t38.1.length : Int) then (if 0 ≤ x42 ∧ x42 < (t38.1.length : Int) then ((station_Station_piece.f k x43 (t38.1.getD x42.toNat [])).bind fun t57 => ((station_Station_twice.f t57.2).bind fun t96 => (if t96 = true then (station_Station_Step.j2 k t21 x42 x44 t57 (station_Station_Step.l1 k t21 t38) true) else (station_Station_Step.j2 k t21 x42 x44 t57 (station_Station_Step.l1 k t21 t38) (decide (0 = t21.1)))))) else none) else (if ¬ (x43.c.Keep = 0) then (if ((w64 (x43.steps + 1)).tmod x43.c.Keep) = 0 then ((aps_Aps_Request.f x43.aps).bind fun t108 => ((kcode_Put.f t108 t21.1).bind fun t110 => (if (([1] : List Int).length : Int) + t110.length ≤ 1099511627776 then ((station_Station_put.f k ({ x43 with steps := w64 (x43.steps + 1) } : station_Station) x44 0 (([1] : List Int) ++ t110)).bind fun t126 => ((station_Station_put.f k t126.1 t126.2 1 (([1] : List Int) ++ t110)).bind fun t129 => some (t129.2, t129.1))) else none))) else some (x44, ({ x43 with steps := w64 (x43.steps + 1) } : station_Station))) else none))
def station_Station_Step.j3 (k : Nat) (x42 : Int) (t57 : List Int × station_Station) (t66 : station_Station × (List (List Int) × List (List Int))) (Lq71 : Int → station_Station → (List (List Int) × List (List Int)) → Option ((List (List Int) × List (List Int)) × station_Station)) (x69 : Bool) : Option ((List (List Int) × List (List Int)) × station_Station) := (if x69 = true then ((station_Station_put.f k t66.1 t66.2 1 t57.1).bind fun t74 => (Lq71 (w64 (x42 + 1)) t74.1 t74.2)) else (Lq71 (w64 (x42 + 1)) t66.1 t66.2))
def station_Station_Step.j4 (k : Nat) (x42 : Int) (x44 : (List (List Int) × List (List Int))) (t57 : List Int × station_Station) (Lq83 : Int → station_Station → (List (List Int) × List (List Int)) → Option ((List (List Int) × List (List Int)) × station_Station)) (x81 : Bool) : Option ((List (List Int) × List (List Int)) × station_Station) := (if x81 = true then ((station_Station_put.f k t57.2 x44 1 t57.1).bind fun t86 => (Lq83 (w64 (x42 + 1)) t86.1 t86.2)) else (Lq83 (w64 (x42 + 1)) t57.2 x44))
def station_Station_Step.j2 (k : Nat) (t21 : Int × aps_Aps) (x42 : Int) (x44 : (List (List Int) × List (List Int))) (t57 : List Int × station_Station) (Lq63 : Int → station_Station → (List (List Int) × List (List Int)) → Option ((List (List Int) × List (List Int)) × station_Station)) (x61 : Bool) : Option ((List (List Int) × List (List Int)) × station_Station) := (if x61 = true then ((station_Station_put.f k t57.2 x44 0 t57.1).bind fun t66 => ((station_Station_twice.f t66.1).bind fun t78 => (if t78 = true then (station_Station_Step.j3 k x42 t57 t66 Lq63 true) else (station_Station_Step.j3 k x42 t57 t66 Lq63 (decide (1 = t21.1)))))) else ((station_Station_twice.f t57.2).bind fun t91 => (if t91 = true then (station_Station_Step.j4 k x42 x44 t57 Lq63 true) else (station_Station_Step.j4 k x42 x44 t57 Lq63 (decide (1 = t21.1))))))
def station_Station_Step.j0 (k : Nat) (t21 : Int × aps_Aps) (x23 : station_Station) : Option ((List (List Int) × List (List Int)) × station_Station) := ((arq_Arq_Pass.f k x23.arq 1).bind fun t27 => ((arq_Arq_Output.f t27).bind fun t38 => (station_Station_Step.l1 k t21 t38 0 ({ x23 with arq := t38.2, line := t21.1 } : station_Station) (([] : List (List Int)), ([] : List (List Int))))))
def station_Station_Step.j5 (k : Nat) (a0 : station_Station) (t8 : Int × monitor_Monitor) (t19 : Int × monitor_Monitor) (t21 : Int × aps_Aps) (x141 : Bool) : Option ((List (List Int) × List (List Int)) × station_Station) := (if x141 = true then ((arq_Arq_Again.f k ((({ a0 with aps := t21.2, sides := (({ a0.sides.1 with monitor := t8.2 } : station_side), ({ a0.sides.2 with monitor := t19.2 } : station_side)) } : station_Station)).arq)).bind fun t146 => (station_Station_Step.j0 k t21 ({ (({ a0 with aps := t21.2, sides := (({ a0.sides.1 with monitor := t8.2 } : station_side), ({ a0.sides.2 with monitor := t19.2 } : station_side)) } : station_Station)) with arq := t146 } : station_Station))) else (station_Station_Step.j0 k t21 ({ a0 with aps := t21.2, sides := (({ a0.sides.1 with monitor := t8.2 } : station_side), ({ a0.sides.2 with monitor := t19.2 } : station_side)) } : station_Station)))
end
def station_Station_Step.f (k : Nat) (a0 : station_Station) : Option ((List (List Int) × List (List Int)) × station_Station) := ((monitor_Monitor_Pass.f a0.sides.1.monitor 1).bind fun t8 => ((monitor_Monitor_Pass.f a0.sides.2.monitor 1).bind fun t19 => ((aps_Aps_Pass.f a0.aps t8.1 t19.1).bind fun t21 => ((station_Station_twice.f ({ a0 with aps := t21.2, sides := (({ a0.sides.1 with monitor := t8.2 } : station_side), ({ a0.sides.2 with monitor := t19.2 } : station_side)) } : station_Station)).bind fun t148 => (if t148 = true then (station_Station_Step.j5 k a0 t8 t19 t21 false) else (station_Station_Step.j5 k a0 t8 t19 t21 (!(decide (t21.1 = a0.line)))))))))
theorem station_Station_Step.calls (H : station_Station_Step.f k a0 = some r) (HS : St [station_Station.at b0 a0, R] w0 w) : Calls Tryz.prog 133 #[pt b0] w (Ret fun u w => ∃ aq0_0 cq0_0 dq0_0 aq0_1 cq0_1 dq0_1, u = Value.agg #[vs aq0_0 r.1.1.length cq0_0, vs aq0_1 r.1.2.length cq0_1] ∧ St [row 27 1 (.slice aq0_0 r.1.1.length cq0_0) r.1.1.length dq0_0, tie (El.sl (El.int .u8)) dq0_0 r.1.1, row 27 1 (.slice aq0_1 r.1.2.length cq0_1) r.1.2.length dq0_1, tie (El.sl (El.int .u8)) dq0_1 r.1.2, station_Station.at b0 r.2, R] w0 w) := by
 refine calls_enter func133 rfl rfl (go ?_)
 refine W.e (Y.alloc (z := Value.agg (#[vs none 0 0, vs none 0 0])) HS ze80) rfl ?_
 rintro _ w ⟨nb1, rfl, HS⟩
 refine go ?_
 refine W.e (Y.alloc (z := Value.agg (#[vs none 0 0, vs none 0 0])) HS ze80) rfl ?_
 rintro _ w ⟨nb2, rfl, HS⟩
 refine go ?_
 have HS := HS.fr 2
 obtain ⟨_, _, _, _, _, _, _, _, _, _, HS⟩ := station_Station.open HS
 refine go ?_
 have HS := HS.b [5]
 refine W.kl H func176 (fun _ h => monitor_Monitor_Pass.calls h HS.j1) ?_
 rintro t8 _ w H ⟨rfl, HS⟩
 have HS := HS.o1
 refine go ?_
 apply V.da [11, 12] [13] [(19, _), (20, _), (21, _), (22, _), (23, _), (24, _), (25, _), (26, _), (27, _), (28, _), (29, _)] mo HS
 rfl
 refine T.e [29] [13] [5, 6, 7, 8, 9, 10] fun w HS => ?_
 have HS := HS.b [8]
 refine Y.kl H func176 (fun _ h => monitor_Monitor_Pass.calls h HS.j1) ?_
 rintro t19 _ w H ⟨rfl, HS⟩
 have HS := HS.o1
 refine T.nw HS ?_
 refine T.e [22, 23, 30] [] [0, 1, 2, 3, 4] fun w HS => ?_
 have HS := HS.b [4]
 refine Y.kl H func177 (fun _ h => aps_Aps_Pass.calls h HS.j1) ?_
 rintro t21 _ w H ⟨rfl, HS⟩
 have HS := HS.o1
 apply T.na [(31, _), (5, _)] HS
 exact nmk
 refine T.ff [0, 2, 3, 5] fun w HS => ?_
 refine gs ?_
 refine V.mj (σ := station_Station) [0, 2, 3, 5] (fun x23 w => St [V80.at nb1 ((([] : List (List Int)), ([] : List (List Int)))), V80.at nb2 ((([] : List (List Int)), ([] : List (List Int)))), station_Station.at b0 x23, R] w0 w ∧ ∃ kf24, kf24 ≤ k ∧ station_Station_Step.j0 kf24 t21 x23 = some r) (fun _ => []) ?_ ?_
 ·refine V.mj (σ := Bool) [0, 2, 3, 5] (fun x141 w => St [V80.at nb1 ((([] : List (List Int)), ([] : List (List Int)))), V80.at nb2 ((([] : List (List Int)), ([] : List (List Int)))), station_Station.at b0 (({ a0 with aps := t21.2, sides := (({ a0.sides.1 with monitor := t8.2 } : station_side), ({ a0.sides.2 with monitor := t19.2 } : station_side)) } : station_Station)), R] w0 w ∧ ∃ kf142, kf142 ≤ k ∧ station_Station_Step.j5 kf142 a0 t8 t19 t21 x141 = some r) (fun x141 => [(42, vb x141)]) ?_ ?_
  ·refine go ?_
   have HS := HS.b [3, 3, 0, 2, 2, 1, 1, 1]
   refine W.kl H func48 (fun _ h => station_Station_twice.calls h HS.j10) ?_
   rintro _ _ w H ⟨rfl, HS⟩
   have HS := HS.o10
   refine go ?_
   refine W.cx 35 H rfl (fun _ H => go ?_) (fun _ H => go ?_)
   ·have HS := (station_Station.close tv ((V80.close (l0 := ([] : List (List Int))) (l1 := ([] : List (List Int))) tv ((row_nilE (El.sl (El.int .u8)) 27 1 (row_nilE (El.sl (El.int .u8)) 27 1 (V80.close (l0 := ([] : List (List Int))) (l1 := ([] : List (List Int))) tv ((row_nilE (El.sl (El.int .u8)) 27 1 (row_nilE (El.sl (El.int .u8)) 27 1 HS)).b [15, 2, 2])))).b [15, 2, 2])).b [2, 2, 2, 2, 2, 2, 2, 2, 2, 2])).b [2, 1]
    exact At.mt _ ⟨HS, k, by omega, H⟩
   ·have HS := (station_Station.close tv ((V80.close (l0 := ([] : List (List Int))) (l1 := ([] : List (List Int))) tv ((row_nilE (El.sl (El.int .u8)) 27 1 (row_nilE (El.sl (El.int .u8)) 27 1 (V80.close (l0 := ([] : List (List Int))) (l1 := ([] : List (List Int))) tv ((row_nilE (El.sl (El.int .u8)) 27 1 (row_nilE (El.sl (El.int .u8)) 27 1 HS)).b [15, 2, 2])))).b [15, 2, 2])).b [2, 2, 2, 2, 2, 2, 2, 2, 2, 2])).b [2, 1]
    exact At.mt _ ⟨HS, k, by omega, H⟩
  ·rintro x141 w ⟨HS, kf142, _, H⟩
   refine V.cv H rfl (fun _ H => go ?_) (fun _ H => go ?_)
   ·have HS := HS.fr 2
    obtain ⟨_, _, _, _, _, _, _, _, _, _, HS⟩ := station_Station.open HS
    refine go ?_
    have HS := HS.b [1]
    refine W.kl H func178 (fun _ h => arq_Arq_Again.calls h HS.j1) ?_
    rintro _ _ w H ⟨rfl, HS⟩
    have HS := HS.o1
    refine go ?_
    have HS := (station_Station.close tv (HS.b [1])).b [1, 1]
    exact At.mt _ ⟨HS, kf142, by omega, H⟩
   ·exact At.mt _ ⟨HS, kf142, by omega, H⟩
 ·rintro x23 w ⟨HS, kf24, _, H⟩
  refine go ?_
  have HS := HS.fr 2
  obtain ⟨_, _, _, _, _, _, _, _, _, _, HS⟩ := station_Station.open HS
  refine go ?_
  refine W.sr 21 HS rfl rfl rfl fun w HS => go ?_
  have HS := HS.b [1]
  refine W.kl H func179 (fun _ h => arq_Arq_Pass.calls h HS.j1) ?_
  rintro _ _ w H ⟨rfl, HS⟩
  have HS := HS.o1
  refine go ?_
  refine W.kl H func180 (fun _ h => arq_Arq_Output.calls h HS.j1) ?_
  rintro t38 _ w H ⟨at38_0, ct38_0, dt38_0, rfl, HS⟩
  have HS := HS.o3
  refine go ?_
  have HS := station_Station.close tv (HS.b [3, 2, 2, 2, 2, 2, 2, 2, 2, 2])
  refine V.lj (σ := Int × station_Station × (List (List Int) × List (List Int))) [0, 2, 3, 5, 61, 62] (fun kq (x42, x43, x44) w => St [station_Station.at b0 x43, row 27 1 (.slice at38_0 t38.1.length ct38_0) t38.1.length dt38_0, tie (El.sl (El.int .u8)) dt38_0 t38.1, V80.at nb1 ((([] : List (List Int)), ([] : List (List Int)))), V80.at nb2 x44, R] w0 w ∧ station_Station_Step.l1 kq t21 t38 x42 x43 x44 = some r ∧ kq ≤ kf24) (fun (x42, x43, x44) => [(63, vi x42)]) (_, _, _) ⟨HS, H, Nat.le_refl _⟩ ?_
  rintro kq45 ⟨x42, x43, x44⟩ w ⟨HS, H, _⟩
  cases kq45 with
  | zero => exact absurd H (by simp [station_Station_Step.l1])
  | succ kq45 =>
   simp only [station_Station_Step.l1] at H
   refine go ?_
   refine V.cd H rfl (fun _ H => go ?_) (fun _ H => go ?_)
   ·obtain ⟨c48, H⟩ := ite_n H
    obtain ⟨eb49, eo50, hh⟩ := (rdC.at 1 row_rd HS rfl).some (by decide) c48.1 c48.2; subst hh
    refine go ?_
    obtain ⟨_, hc52, HS⟩ := St.tie_at 2 HS rfl ([]) c48.1 c48.2
    obtain ⟨ea53, em54, he56, HN⟩ := St.sl_openF (Value.int .u8) (fun t => tie_int t) HS; clear HS; subst he56; have HS := HN
    refine W.r (X.load underlying27 rfl rfl ((rdC.at 2 row_rd HS rfl).cellEl0 (hc52 0 _ rfl))) rfl (go ?_)
    have HS := (HS.more 0 rfl (fun _ t => t) fsl.pers).b [2]
    refine W.kl H func181 (fun _ h => station_Station_piece.calls h HS.j2) ?_
    rintro t57 _ w H ⟨at57_0, ct57_0, rfl, HS⟩
    have HS := HS.o2
    refine go ?_
    refine V.rs 2 [(0, pt b0), (2, pt nb1), (3, pt nb2), (5, vi t21.1), (8, vs at57_0 t57.1.length ct57_0), (61, vs (some ⟨eb49, eo50, none⟩) t38.1.length ct38_0), (62, vi (t38.1.length : Int)), (63, vi x42), (70, vi (0))] ?_
    refine V.seq ?_
    refine gs ?_
    refine V.seq ?_
    refine gs ?_
    refine V.seq ?_
    refine gs ?_
    refine V.seq ?_
    refine gs ?_
    refine V.mj (σ := Bool) [0, 2, 3, 5, 8, 9, 61, 62, 63, 70] (fun x61 w => St [rB at57_0 ct57_0 t57.1, station_Station.at b0 t57.2, fB ea53 em54 (t38.1.getD x42.toNat []), row 27 1 (.slice (some ⟨eb49, eo50, none⟩) t38.1.length ct38_0) t38.1.length dt38_0, tie (El.sl (El.int .u8)) dt38_0 t38.1, V80.at nb1 ((([] : List (List Int)), ([] : List (List Int)))), V80.at nb2 x44, R] w0 w ∧ ∃ kf62 kl64, kf62 ≤ kq45 ∧ kl64 ≤ kq45 ∧ station_Station_Step.j2 kf62 t21 x42 x44 t57 (station_Station_Step.l1 kl64 t21 t38) x61 = some r) (fun x61 => [(79, vb x61)]) ?_ ?_
    ·refine go ?_
     have HS := HS.fr 1
     obtain ⟨_, _, _, _, _, _, _, _, _, _, HS⟩ := station_Station.open HS
     refine W.kl H func48 (fun _ h => station_Station_twice.calls h HS.j10) ?_
     rintro _ _ w H ⟨rfl, HS⟩
     have HS := HS.o10
     refine go ?_
     refine W.cv 75 H rfl (fun _ H => go ?_) (fun _ H => go ?_)
     ·have HS := (station_Station.close tv HS).b [1]
      exact At.mt _ ⟨HS, kq45, kq45, by omega, by omega, H⟩
     ·have HS := (station_Station.close tv HS).b [1]
      exact At.mt _ ⟨HS, kq45, kq45, by omega, by omega, H⟩
    ·rintro x61 w ⟨HS, kf62, kl64, _, _, H⟩
     refine V.cv H rfl (fun _ H => go ?_) (fun _ H => go ?_)
     ·have HS := ((St.row_freeze HS).more 0 rfl (fun _ t => t) fsl.pers).b [2, 6]
      refine W.kl H func182 (fun _ h => station_Station_put.calls h HS.j3) ?_
      rintro t66 _ w H ⟨rfl, HS⟩
      have HS := HS.o2
      refine go ?_
      refine At.ow [(0, pt b0), (2, pt nb1), (3, pt nb2), (5, vi t21.1), (8, vs at57_0 t57.1.length ct57_0), (61, vs (some ⟨eb49, eo50, none⟩) t38.1.length ct38_0), (62, vi (t38.1.length : Int)), (63, vi x42), (70, vi (1))] ?_
      refine V.seq ?_
      refine gs ?_
      refine V.seq ?_
      refine gs ?_
      refine V.seq ?_
      refine gs ?_
      refine V.seq ?_
      refine gs ?_
      refine V.mj (σ := Bool) [0, 2, 3, 5, 8, 9, 61, 62, 63, 70] (fun x69 w => St [station_Station.at b0 t66.1, V80.at nb2 t66.2, fB at57_0 ct57_0 t57.1, fB ea53 em54 (t38.1.getD x42.toNat []), row 27 1 (.slice (some ⟨eb49, eo50, none⟩) t38.1.length ct38_0) t38.1.length dt38_0, tie (El.sl (El.int .u8)) dt38_0 t38.1, V80.at nb1 ((([] : List (List Int)), ([] : List (List Int)))), R] w0 w ∧ ∃ kf70 kl72, kf70 ≤ kf62 ∧ kl72 ≤ kl64 ∧ station_Station_Step.j3 kf70 x42 t57 t66 (station_Station_Step.l1 kl72 t21 t38) x69 = some r) (fun x69 => [(79, vb x69)]) ?_ ?_
      ·refine go ?_
       obtain ⟨_, _, _, _, _, _, _, _, _, _, HS⟩ := station_Station.open HS
       refine W.kl H func48 (fun _ h => station_Station_twice.calls h HS.j10) ?_
       rintro _ _ w H ⟨rfl, HS⟩
       have HS := HS.o10
       refine go ?_
       refine W.cv 75 H rfl (fun _ H => go ?_) (fun _ H => go ?_)
       ·have HS := station_Station.close tv HS
        exact At.mt _ ⟨HS, kf62, kl64, by omega, by omega, H⟩
       ·have HS := station_Station.close tv HS
        exact At.mt _ ⟨HS, kf62, kl64, by omega, by omega, H⟩
      ·rintro x69 w ⟨HS, kf70, kl72, _, _, H⟩
       refine V.cv H rfl (fun _ H => go ?_) (fun _ H => go ?_)
       ·have HS := (HS.more 2 rfl (fun _ t => t) fsl.pers).b [1, 1]
        refine W.kl H func182 (fun _ h => station_Station_put.calls h HS.j3) ?_
        rintro _ _ w H ⟨rfl, HS⟩
        have HS := HS.o2
        refine go ?_
        refine At.ow [(0, pt b0), (2, pt nb1), (3, pt nb2), (5, vi t21.1), (8, vs at57_0 t57.1.length ct57_0), (61, vs (some ⟨eb49, eo50, none⟩) t38.1.length ct38_0), (62, vi (t38.1.length : Int)), (63, vi x42), (70, vi (2))] (go ?_)
        have HS := HS.ke [0, 3, 3, 3, 0, 2]
        exact At.rn (_, _, _) ⟨HS, H, by omega⟩
       ·refine At.ow [(0, pt b0), (2, pt nb1), (3, pt nb2), (5, vi t21.1), (8, vs at57_0 t57.1.length ct57_0), (61, vs (some ⟨eb49, eo50, none⟩) t38.1.length ct38_0), (62, vi (t38.1.length : Int)), (63, vi x42), (70, vi (2))] (go ?_)
        have HS := HS.ke [0, 3, 3, 3, 0, 2]
        exact At.rn (_, _, _) ⟨HS, H, by omega⟩
     ·refine At.ow [(0, pt b0), (2, pt nb1), (3, pt nb2), (5, vi t21.1), (8, vs at57_0 t57.1.length ct57_0), (61, vs (some ⟨eb49, eo50, none⟩) t38.1.length ct38_0), (62, vi (t38.1.length : Int)), (63, vi x42), (70, vi (1))] ?_
      refine V.seq ?_
      refine gs ?_
      refine V.seq ?_
      refine gs ?_
      refine V.seq ?_
      refine gs ?_
      refine V.seq ?_
      refine gs ?_
      refine V.mj (σ := Bool) [0, 2, 3, 5, 8, 9, 61, 62, 63, 70] (fun x81 w => St [rB at57_0 ct57_0 t57.1, station_Station.at b0 t57.2, fB ea53 em54 (t38.1.getD x42.toNat []), row 27 1 (.slice (some ⟨eb49, eo50, none⟩) t38.1.length ct38_0) t38.1.length dt38_0, tie (El.sl (El.int .u8)) dt38_0 t38.1, V80.at nb1 ((([] : List (List Int)), ([] : List (List Int)))), V80.at nb2 x44, R] w0 w ∧ ∃ kf82 kl84, kf82 ≤ kf62 ∧ kl84 ≤ kl64 ∧ station_Station_Step.j4 kf82 x42 x44 t57 (station_Station_Step.l1 kl84 t21 t38) x81 = some r) (fun x81 => [(79, vb x81)]) ?_ ?_
      ·refine go ?_
       have HS := HS.fr 1
       obtain ⟨_, _, _, _, _, _, _, _, _, _, HS⟩ := station_Station.open HS
       refine W.kl H func48 (fun _ h => station_Station_twice.calls h HS.j10) ?_
       rintro _ _ w H ⟨rfl, HS⟩
       have HS := HS.o10
       refine go ?_
       refine W.cv 75 H rfl (fun _ H => go ?_) (fun _ H => go ?_)
       ·have HS := (station_Station.close tv HS).b [1]
        exact At.mt _ ⟨HS, kf62, kl64, by omega, by omega, H⟩
       ·have HS := (station_Station.close tv HS).b [1]
        exact At.mt _ ⟨HS, kf62, kl64, by omega, by omega, H⟩
      ·rintro x81 w ⟨HS, kf82, kl84, _, _, H⟩
       refine V.cv H rfl (fun _ H => go ?_) (fun _ H => go ?_)
       ·have HS := ((St.row_freeze HS).more 0 rfl (fun _ t => t) fsl.pers).b [2, 6]
        refine W.kl H func182 (fun _ h => station_Station_put.calls h HS.j3) ?_
        rintro _ _ w H ⟨rfl, HS⟩
        have HS := HS.o2
        refine go ?_
        refine At.ow [(0, pt b0), (2, pt nb1), (3, pt nb2), (5, vi t21.1), (8, vs at57_0 t57.1.length ct57_0), (61, vs (some ⟨eb49, eo50, none⟩) t38.1.length ct38_0), (62, vi (t38.1.length : Int)), (63, vi x42), (70, vi (2))] (go ?_)
        have HS := HS.ke [0, 3, 3, 3, 0, 2]
        exact At.rn (_, _, _) ⟨HS, H, by omega⟩
       ·refine At.ow [(0, pt b0), (2, pt nb1), (3, pt nb2), (5, vi t21.1), (8, vs at57_0 t57.1.length ct57_0), (61, vs (some ⟨eb49, eo50, none⟩) t38.1.length ct38_0), (62, vi (t38.1.length : Int)), (63, vi x42), (70, vi (2))] (go ?_)
        have HS := HS.ke [1, 2, 2, 2, 2, 2]
        exact At.rn (_, _, _) ⟨HS, H, by omega⟩
   ·obtain ⟨_, _, _, _, _, _, _, _, _, _, HS⟩ := station_Station.open HS
    refine go ?_
    refine W.sr 20 HS rfl rfl rfl fun w HS => go ?_
    obtain ⟨c101, H⟩ := ite_n H
    apply V.da [] [] [(93, _), (94, _), (95, _), (96, _), (97, _), (98, _), (99, _), (100, _), (101, _), (102, _), (103, _)] mo HS
    rfl
    refine T.ff [0, 2, 3, 5, 103] (fun w HS => ?_) ⟨rd, rd, rd, rd, rd, rd, rd, rd, rd, .n2 96 101 rfl rfl rfl (fun w HS => X.rem rfl rfl c101), rds⟩
    refine go ?_
    refine V.cd H rfl (fun _ H => go ?_) (fun _ H => go ?_)
    ·refine W.e (Y.ls (e := 5) (Value.int .u8) ([1] : List Int) HS rfl rfl (fun _ => by kernel_rfl)) rfl ?_
     rintro _ w ⟨_, rfl, HS⟩
     refine go ?_
     have HS := HS.fr 3
     obtain ⟨_, HS⟩ := aps_Aps.open HS
     refine W.kl H func184 (fun _ h => aps_Aps_Request.calls h HS.j1) ?_
     rintro _ _ w H ⟨rfl, HS⟩
     have HS := HS.o1
     refine go ?_
     refine W.kl H func183 (fun _ h => kcode_Put.calls h HS.j0) ?_
     rintro t110 _ w H ⟨_, _, rfl, HS⟩
     have HS := HS.o1
     obtain ⟨_, H⟩ := ite_n H
     refine W.e (Y.appF (Value.int .u8) (fun _ => rfl) 2 underlying27 ap5 rfl HS rfl rfl rfl (rdC.at 0 row_rd HS rfl) (by omega) (by omega)) rfl ?_
     rintro _ w ⟨ra113, rc114, rfl, HS⟩
     refine go ?_
     refine V.rs 2 [(0, pt b0), (2, pt nb1), (3, pt nb2), (10, vs ra113 (([1] : List Int) ++ t110).length rc114), (113, vi (0))] (go ?_)
     have HS := ((St.row_freeze ((station_Station.close tv ((aps_Aps.close tv (HS.b [1])).b [3, 3, 0, 2, 2, 2, 2, 2, 2, 2])).fr 2)).more 0 rfl (fun _ t => t) fsl.pers).b [2, 6]
     refine W.kl H func182 (fun _ h => station_Station_put.calls h HS.j3) ?_
     rintro _ _ w H ⟨rfl, HS⟩
     have HS := HS.o2
     refine go ?_
     refine At.ow [(0, pt b0), (2, pt nb1), (3, pt nb2), (10, vs ra113 (([1] : List Int) ++ t110).length rc114), (113, vi (1))] (go ?_)
     have HS := (HS.more 2 rfl (fun _ t => t) fsl.pers).b [1, 1]
     refine W.kl H func182 (fun _ h => station_Station_put.calls h HS.j3) ?_
     rintro t129 _ w H ⟨rfl, HS⟩
     have HS := HS.o2
     refine go ?_
     refine At.ow [(0, pt b0), (2, pt nb1), (3, pt nb2), (10, vs ra113 (([1] : List Int) ++ t110).length rc114), (113, vi (2))] (go ?_)
     have HS := HS.fr 1
     obtain ⟨a0_131, c0_131, d0_131, a1_131, c1_131, d1_131, _, HS⟩ := V80.open HS
     refine go ?_
     have HS := HS.fr 10
     obtain ⟨_, _, _, _, _, _, _, HS⟩ := V80.open HS
     refine W.ss HS rfl rfl rfl rfl fun w HS => go ?_
     have hv135 := run_loadSt (P := Tryz.prog) (p := 0) 0 [vs a0_131 t129.2.1.length c0_131, vs a1_131 t129.2.2.length c1_131] HS rfl underlying80 rfl inf80 rfl
     have HS := HS.ke [6, 6, 6, 6, 6, 10]
     cases H
     exact At.retv1 rfl ⟨_, rfl, hv135⟩ ⟨_, rfl, a0_131, c0_131, d0_131, a1_131, c1_131, d1_131, rfl, HS⟩
    ·have HS := HS.fr 13
     obtain ⟨a0_136, c0_136, d0_136, a1_136, c1_136, d1_136, _, HS⟩ := V80.open HS
     refine go ?_
     have HS := HS.fr 17
     obtain ⟨_, _, _, _, _, _, _, HS⟩ := V80.open HS
     refine W.ss HS rfl rfl rfl rfl fun w HS => go ?_
     have hv140 := run_loadSt (P := Tryz.prog) (p := 0) 0 [vs a0_136 x44.1.length c0_136, vs a1_136 x44.2.length c1_136] HS rfl underlying80 rfl inf80 rfl
     have HS := (station_Station.close tv (HS.b [10, 10, 10, 10, 10, 10, 10, 10, 10, 10])).ke [7, 7, 7, 7, 0, 8]
     cases H
     exact At.retv1 rfl ⟨_, rfl, hv140⟩ ⟨_, rfl, a0_136, c0_136, d0_136, a1_136, c1_136, d1_136, rfl, HS⟩
def pipe_Pipe_Cut.f (a0 : pipe_Pipe) : Option Bool := some a0.cut
theorem pipe_Pipe_Cut.calls (H : pipe_Pipe_Cut.f a0 = some r) (HS : St [blk b0 (#[vi a0.room, vs a1_p0 a0.b.length c1_p0, vb a0.cut, vb a0.stall]) 187, rB a1_p0 c1_p0 a0.b, R] w0 w) : Calls Tryz.prog 187 #[pt b0] w (Ret fun u w => u = vb r ∧ St [blk b0 (#[vi a0.room, vs a1_p0 a0.b.length c1_p0, vb a0.cut, vb a0.stall]) 187, rB a1_p0 c1_p0 a0.b, R] w0 w) := by
 refine calls_enter func187 rfl rfl (go ?_)
 exact rt
def pipe_Pipe_Room.f (a0 : pipe_Pipe) : Option Int := some (w64 (a0.room - (a0.b.length : Int)))
theorem pipe_Pipe_Room.calls (H : pipe_Pipe_Room.f a0 = some r) (HS : St [blk b0 (#[vi a0.room, vs a1_p0 a0.b.length c1_p0, vb a0.cut, vb a0.stall]) 187, rB a1_p0 c1_p0 a0.b, R] w0 w) : Calls Tryz.prog 143 #[pt b0] w (Ret fun u w => u = vi r ∧ St [blk b0 (#[vi a0.room, vs a1_p0 a0.b.length c1_p0, vb a0.cut, vb a0.stall]) 187, rB a1_p0 c1_p0 a0.b, R] w0 w) := by
 refine calls_enter func143 rfl rfl (go ?_)
 apply V.da [] [] [(3, _), (4, _), (5, _), (6, _), (7, _), (8, _), (9, _), (10, _), (11, _), (12, _), (2, _)] mo HS
 rfl
 refine T.ff [2] fun w HS => ?_
 refine go ?_
 exact rt
def station_has.f (a0 : Int) : Option Bool := (if a0 ≥ 0 then some (decide (a0 < 2)) else some false)
theorem station_has.calls (H : station_has.f a0 = some r) (HS : St [R] w0 w) : Calls Tryz.prog 185 #[vi a0] w (Ret fun u w => u = vb r ∧ St [R] w0 w) := by
 refine calls_enter func185 rfl rfl (go ?_)
 refine W.cd 5 H rfl (fun _ H => go ?_) (fun _ H => go ?_)
 ·exact rt
 ·exact rt
def slices_Delete_Sbytebyte.f (a0 : List Int) (a1 : Int) (a2 : Int) : Option (List Int) := (if 0 ≤ a1 ∧ a1 ≤ a2 ∧ a2 ≤ (a0.length : Int) then (if a1 = a2 then some a0 else (if 0 ≤ (0 : Int) ∧ (0 : Int) ≤ a1 ∧ a1 ≤ (a0.length : Int) then (if 0 ≤ a2 ∧ a2 ≤ (a0.length : Int) ∧ (a0.length : Int) ≤ (a0.length : Int) then some ((cut a0 (0 : Int) a1) ++ (cut a0 a2 (a0.length : Int))) else none) else none)) else none)
theorem slices_Delete_Sbytebyte.calls (H : slices_Delete_Sbytebyte.f a0 a1 a2 = some r) (HS : St [rB sa0 sc0 a0, R] w0 w) : Calls Tryz.prog 190 #[vs sa0 a0.length sc0, vi a1, vi a2] w (Ret fun u w => ∃ aq0 cq0, u = vs aq0 r.length cq0 ∧ St [rB aq0 cq0 r, R] w0 w) := by
 refine calls_enter func190 rfl rfl (go ?_)
 obtain ⟨c1, H⟩ := ite_n H
 refine W.r (X.sl3 underlying27 inf5 rfl rfl rfl rfl c1 (Int.ofNat_le.2 (rdC.at 0 row_rd HS rfl).cap)) rfl (go ?_)
 refine V.cd H rfl (fun _ H => go ?_) (fun _ H => go ?_)
 ·exact rt
 ·obtain ⟨c4, H⟩ := ite_n H
  obtain ⟨c5, H⟩ := ite_n H
  apply V.da [6] [7] [(20, _), (21, _), (22, _), (23, _), (24, _), (25, _)] mo HS
  rfl
  refine T.e [22, 25] [] [0, 1, 2, 3, 4, 5] (fun w HS => ?_) ⟨rd, rd, .n2 20 21 rfl rfl rfl (fun w HS => X.slH underlying27 inf5 rfl rfl c4 (rdC.at 0 row_rd HS rfl).cap), rd, rd, .n2 23 24 rfl rfl rfl (fun w HS => X.slL underlying27 inf5 rfl rfl c5), rds⟩
  have hlt6 : a1 < a2 := by omega
  have hd7 : 0 ≤ a1 ∧ a1 < a2 ∧ a2 ≤ (a0.length : Int) := by omega
  have hc8 : (a0.length : Int) ≤ (sc0 : Int) := Int.ofNat_le.2 (rdC.at 0 row_rd HS rfl).cap
  have hl9 : (((cut a0 (0 : Int) a1) ++ (cut a0 a2 (a0.length : Int))).length : Int) ≤ (a0.length : Int) := by rw [List.length_append, cut_len ⟨by omega, by omega, by omega⟩, cut_len ⟨by omega, by omega, by omega⟩]; omega
  refine ⟨_, Y.appDelF (Value.int .u8) (fun _ => rfl) 0 underlying27 ap5 HS rfl hd7 rfl rfl, ?_⟩
  rintro _ w ⟨rfl, HS⟩
  apply T.na [(26, _), (0, _)] HS
  exact nmk
  refine T.ff [0, 7] fun w HS => ?_
  refine go ?_
  refine W.r (X.slC underlying27 inf5 rfl rfl rfl ⟨by omega, hl9⟩ hc8) rfl ?_
  refine W.en (Y.clearTail (n0 := a0.length) 0 underlying27 ap5 rfl rfl HS rfl (Int.ofNat_le.1 hl9) (Int.ofNat_le.1 hc8) rfl) rfl ?_
  rintro _ w HS
  refine go ?_
  exact rt
mutual
def ring_Ring_passed.l0 : Nat → Int → ring_Ring → Option ring_Ring
 | 0, _, _ => none
 | k + 1, x2, x3 => (if x2 > 0 then (if x3.begun = 0 then (if 0 ≤ (0 : Int) ∧ (0 : Int) < (x3.pieces.length : Int) then (if 0 ≤ (1 : Int) ∧ (1 : Int) ≤ (x3.pieces.length : Int) ∧ (x3.pieces.length : Int) ≤ (x3.pieces.length : Int) then (ring_Ring_passed.l0 k (w64 (x2 - (imin x2 (x3.pieces.getD (0 : Int).toNat 0)))) ({ x3 with begun := w64 ((x3.pieces.getD (0 : Int).toNat 0) - (imin x2 (x3.pieces.getD (0 : Int).toNat 0))), pieces := cut x3.pieces (1 : Int) (x3.pieces.length : Int) } : ring_Ring)) else none) else none) else (ring_Ring_passed.l0 k (w64 (x2 - (imin x2 x3.begun))) ({ x3 with begun := w64 (x3.begun - (imin x2 x3.begun)) } : ring_Ring))) else some x3)
end
def ring_Ring_passed.f (k : Nat) (a0 : ring_Ring) (a1 : Int) : Option ring_Ring := (ring_Ring_passed.l0 k a1 a0)
theorem ring_Ring_passed.calls (H : ring_Ring_passed.f k a0 a1 = some r) (HS : St [ring_Ring.at b0 a0, R] w0 w) : Calls Tryz.prog 229 #[pt b0, vi a1] w (Ret fun u w => u = Value.tuple #[] ∧ St [ring_Ring.at b0 r, R] w0 w) := by
 refine calls_enter func229 rfl rfl (go ?_)
 refine V.lj (σ := Int × ring_Ring) [0] (fun kq (x2, x3) w => St [ring_Ring.at b0 x3, R] w0 w ∧ ring_Ring_passed.l0 kq x2 x3 = some r ∧ kq ≤ k) (fun (x2, x3) => [(1, vi x2)]) (_, _) ⟨HS, H, Nat.le_refl _⟩ ?_
 rintro kq4 ⟨x2, x3⟩ w ⟨HS, H, _⟩
 cases kq4 with
 | zero => exact absurd H (by simp [ring_Ring_passed.l0])
 | succ kq4 =>
  simp only [ring_Ring_passed.l0] at H
  refine go ?_
  refine V.cd H rfl (fun _ H => go ?_) (fun _ H => go ?_)
  ·obtain ⟨_, _, _, _, _, HS⟩ := ring_Ring.open HS
   refine go ?_
   refine V.cd H rfl (fun _ H => go ?_) (fun _ H => go ?_)
   ·obtain ⟨c10, H⟩ := ite_n H
    obtain ⟨_, _, hh⟩ := (rdC.at 2 row_rd HS rfl).some (by decide) c10.1 c10.2; subst hh
    refine go ?_
    refine W.r (X.load underlying3 rfl rfl ((rdC.at 2 row_rd HS rfl).cellI c10.1 c10.2)) rfl (go ?_)
    refine W.sr 2 HS rfl rfl rfl fun w HS => go ?_
    obtain ⟨c13, H⟩ := ite_n H
    refine W.r (X.slL underlying48 inf3 rfl rfl c13) rfl (go ?_)
    refine W.sr 3 HS rfl rfl rfl fun w HS => go ?_
    refine W.sr 2 HS rfl rfl rfl fun w HS => go ?_
    have HS := ring_Ring.close tv ((St.row_subM (HS.fr 2) c13).b [1, 1])
    exact At.rn (_, _) ⟨HS, H, by omega⟩
   ·refine W.sr 2 HS rfl rfl rfl fun w HS => go ?_
    have HS := ring_Ring.close tv HS
    exact At.rn (_, _) ⟨HS, H, by omega⟩
  ·exact rt
def ring_Ring_Take.f (k : Nat) (a0 : ring_Ring) (a1 : Int) : Option (List Int × ring_Ring) := (if 0 ≤ (0 : Int) ∧ (0 : Int) ≤ imax (0) (imin a1 (a0.b.length : Int)) ∧ imax (0) (imin a1 (a0.b.length : Int)) ≤ (a0.b.length : Int) then ((slices_Clone_Sbytebyte.f (cut a0.b (0 : Int) (imax (0) (imin a1 (a0.b.length : Int))))).bind fun t4 => ((slices_Delete_Sbytebyte.f a0.b 0 (imax (0) (imin a1 (a0.b.length : Int)))).bind fun t6 => ((ring_Ring_passed.f k ({ a0 with b := t6 } : ring_Ring) (imax (0) (imin a1 (a0.b.length : Int)))).bind fun t8 => some (t4, t8)))) else none)
theorem ring_Ring_Take.calls (H : ring_Ring_Take.f k a0 a1 = some r) (HS : St [ring_Ring.at b0 a0, R] w0 w) : Calls Tryz.prog 186 #[pt b0, vi a1] w (Ret fun u w => ∃ aq0 cq0, u = vs aq0 r.1.length cq0 ∧ St [rB aq0 cq0 r.1, ring_Ring.at b0 r.2, R] w0 w) := by
 refine calls_enter func186 rfl rfl (go ?_)
 obtain ⟨_, _, _, _, _, HS⟩ := ring_Ring.open HS
 refine go ?_
 obtain ⟨c3, H⟩ := ite_n H
 refine W.r (X.slH underlying27 inf5 rfl rfl c3 (rdC.at 1 row_rd HS rfl).cap) rfl ?_
 refine W.kl H func189 (fun _ h => slices_Clone_Sbytebyte.calls h HS.j0 (rdC.part 1 (rdC.subM row_rd c3) rfl)) ?_
 rintro _ _ w H ⟨_, _, rfl, HS⟩
 have HS := HS.o1
 refine go ?_
 have HS := HS.b [2]
 refine W.kl H func190 (fun _ h => slices_Delete_Sbytebyte.calls h HS.j1) ?_
 rintro _ _ w H ⟨_, _, rfl, HS⟩
 have HS := HS.o1
 refine go ?_
 refine W.sr 1 HS rfl rfl rfl fun w HS => go ?_
 have HS := ring_Ring.close tv (HS.b [2, 0, 1])
 refine W.kl H func229 (fun _ h => ring_Ring_passed.calls h HS.j1) ?_
 rintro _ _ w H ⟨rfl, HS⟩
 have HS := HS.o1
 refine go ?_
 have HS := HS.b [1]
 exact rt
def station_Station_Take.f (k : Nat) (a0 : station_Station) (a1 : Int) (a2 : Int) : Option (List Int × station_Station) := ((station_has.f a1).bind fun t2 => (if t2 = true then (if 0 ≤ a1 ∧ a1 < 2 then (if a1 = 0 then ((ring_Ring_Take.f k a0.sides.1.ring a2).bind fun t9 => some (t9.1, ({ a0 with sides := (({ a0.sides.1 with ring := t9.2 } : station_side), a0.sides.2) } : station_Station))) else ((ring_Ring_Take.f k a0.sides.2.ring a2).bind fun t12 => some (t12.1, ({ a0 with sides := (a0.sides.1, ({ a0.sides.2 with ring := t12.2 } : station_side)) } : station_Station)))) else none) else some (([] : List Int), a0)))
theorem station_Station_Take.calls (H : station_Station_Take.f k a0 a1 a2 = some r) (HS : St [station_Station.at b0 a0, R] w0 w) : Calls Tryz.prog 137 #[pt b0, vi a1, vi a2] w (Ret fun u w => ∃ aq0 cq0, u = vs aq0 r.1.length cq0 ∧ St [rB aq0 cq0 r.1, station_Station.at b0 r.2, R] w0 w) := by
 refine calls_enter func137 rfl rfl (go ?_)
 refine W.kl H func185 (fun _ h => station_has.calls h HS.j0) ?_
 rintro _ _ w H ⟨rfl, HS⟩
 have HS := HS.o0
 refine go ?_
 refine V.cx H rfl (fun _ H => go ?_) (fun _ H => go ?_)
 ·obtain ⟨_, _, _, _, _, _, _, _, _, _, HS⟩ := station_Station.open HS
  refine go ?_
  obtain ⟨c7, H⟩ := ite_n H
  refine ite_c H (fun c8 H => ?_) (fun _ H => ?_)
  ·refine W.r (X.indexArK 0 c8 underlying126 inf125 rfl rfl c7.1 c7.2) rfl (go ?_)
   have HS := HS.b [6]
   refine W.kl H func186 (fun _ h => ring_Ring_Take.calls h HS.j1) ?_
   rintro _ _ w H ⟨_, _, rfl, HS⟩
   have HS := HS.o2
   refine go ?_
   have HS := (station_Station.close tv (HS.b [2, 2, 2, 2, 2, 2, 1, 1, 1, 1])).b [1]
   exact rt
  ·have hk11 : a1 = 1 := by omega
   refine W.r (X.indexArK 1 hk11 underlying126 inf125 rfl rfl c7.1 c7.2) rfl (go ?_)
   have HS := HS.b [9]
   refine W.kl H func186 (fun _ h => ring_Ring_Take.calls h HS.j1) ?_
   rintro _ _ w H ⟨_, _, rfl, HS⟩
   have HS := HS.o2
   refine go ?_
   have HS := (station_Station.close tv (HS.b [2, 2, 2, 2, 2, 2, 2, 2, 2, 1])).b [1]
   exact rt
 ·have HS := row_nilF (Value.int .u8) 5 1 HS
  exact rt
def pipe_Pipe_Put.f (a0 : pipe_Pipe) (a1 : List Int) : Option (Int × pipe_Pipe) := (if a0.cut = true then some ((a1.length : Int), a0) else ((pipe_Pipe_Room.f a0).bind fun t5 => (if 0 ≤ (0 : Int) ∧ (0 : Int) ≤ imin (a1.length : Int) t5 ∧ imin (a1.length : Int) t5 ≤ (a1.length : Int) then (if (a0.b.length : Int) + (cut a1 (0 : Int) (imin (a1.length : Int) t5)).length ≤ 1099511627776 then some (imin (a1.length : Int) t5, ({ a0 with b := a0.b ++ (cut a1 (0 : Int) (imin (a1.length : Int) t5)) } : pipe_Pipe)) else none) else none)))
theorem pipe_Pipe_Put.calls (H : pipe_Pipe_Put.f a0 a1 = some r) (HS : St [pipe_Pipe.at b0 a0, R] w0 w) (hr1 : dB R sa1 sc1 a1) : Calls Tryz.prog 136 #[pt b0, vs sa1 a1.length sc1] w (Ret fun u w => u = vi r.1 ∧ St [pipe_Pipe.at b0 r.2, R] w0 w) := by
 refine calls_enter func136 rfl rfl (go ?_)
 obtain ⟨_, _, _, HS⟩ := pipe_Pipe.open HS
 refine go ?_
 refine V.cv H rfl (fun _ H => go ?_) (fun _ H => go ?_)
 ·have HS := pipe_Pipe.close tv HS
  exact rt
 ·refine W.kl H func143 (fun _ h => pipe_Pipe_Room.calls h HS.j2) ?_
  rintro _ _ w H ⟨rfl, HS⟩
  have HS := HS.o2
  refine go ?_
  obtain ⟨c7, H⟩ := ite_n H
  apply V.da [8, 11] [9, 10] [(17, _), (18, _), (19, _), (20, _), (21, _), (22, _), (23, _), (24, _)] mo HS
  rfl
  refine T.e [21, 24] [] [1, 2, 3, 4, 5, 6, 7] (fun w HS => ?_) ⟨rd, rd, rd, rd, rd, rd, rd, .n2 22 23 rfl rfl rfl (fun w HS => X.slH underlying27 inf5 rfl rfl c7 (rdC.at 2 hr1 HS rfl).cap), rds⟩
  obtain ⟨_, H⟩ := ite_n H
  refine ⟨_, Y.appF (Value.int .u8) (fun _ => rfl) 1 underlying27 ap5 rfl HS rfl rfl rfl (rdC.at 2 (rdC.subM hr1 c7) HS rfl) (by omega) (by omega), ?_⟩
  rintro _ w ⟨_, _, rfl, HS⟩
  apply T.na [(25, _), (26, _), (27, _)] HS
  exact nmk
  refine T.e [25, 27] [] [0, 9, 10] fun w HS => ?_
  refine Y.sr 1 HS rfl rfl rfl fun _ w HS => ?_
  refine T.nn HS ?_
  refine T.ff [5] fun w HS => ?_
  refine go ?_
  have HS := pipe_Pipe.close tv HS
  exact rt
def pipe_Pipe_gone.f (a0 : pipe_Pipe) (a1 : Int) : Option (List Int × pipe_Pipe) := (if 0 ≤ (0 : Int) ∧ (0 : Int) ≤ imax (0) (imin a1 (a0.b.length : Int)) ∧ imax (0) (imin a1 (a0.b.length : Int)) ≤ (a0.b.length : Int) then ((slices_Clone_Sbytebyte.f (cut a0.b (0 : Int) (imax (0) (imin a1 (a0.b.length : Int))))).bind fun t4 => ((slices_Delete_Sbytebyte.f a0.b 0 (imax (0) (imin a1 (a0.b.length : Int)))).bind fun t6 => some (t4, ({ a0 with b := t6 } : pipe_Pipe)))) else none)
theorem pipe_Pipe_gone.calls (H : pipe_Pipe_gone.f a0 a1 = some r) (HS : St [pipe_Pipe.at b0 a0, R] w0 w) : Calls Tryz.prog 142 #[pt b0, vi a1] w (Ret fun u w => ∃ aq0 cq0, u = vs aq0 r.1.length cq0 ∧ St [rB aq0 cq0 r.1, pipe_Pipe.at b0 r.2, R] w0 w) := by
 refine calls_enter func142 rfl rfl (go ?_)
 obtain ⟨_, _, _, HS⟩ := pipe_Pipe.open HS
 refine go ?_
 obtain ⟨c3, H⟩ := ite_n H
 refine W.r (X.slH underlying27 inf5 rfl rfl c3 (rdC.at 1 row_rd HS rfl).cap) rfl ?_
 refine W.kl H func189 (fun _ h => slices_Clone_Sbytebyte.calls h HS.j0 (rdC.part 1 (rdC.subM row_rd c3) rfl)) ?_
 rintro _ _ w H ⟨_, _, rfl, HS⟩
 have HS := HS.o1
 refine go ?_
 have HS := HS.b [2]
 refine W.kl H func190 (fun _ h => slices_Delete_Sbytebyte.calls h HS.j1) ?_
 rintro _ _ w H ⟨_, _, rfl, HS⟩
 have HS := HS.o1
 refine go ?_
 refine W.sr 1 HS rfl rfl rfl fun w HS => go ?_
 have HS := (pipe_Pipe.close tv (HS.b [2])).b [1]
 exact rt
def pipe_Pipe_Take.f (a0 : pipe_Pipe) (a1 : Int) : Option (List Int × pipe_Pipe) := (if a0.stall = true then some (([] : List Int), a0) else ((pipe_Pipe_gone.f a0 a1).bind fun t5 => some t5))
theorem pipe_Pipe_Take.calls (H : pipe_Pipe_Take.f a0 a1 = some r) (HS : St [pipe_Pipe.at b0 a0, R] w0 w) : Calls Tryz.prog 140 #[pt b0, vi a1] w (Ret fun u w => ∃ aq0 cq0, u = vs aq0 r.1.length cq0 ∧ St [rB aq0 cq0 r.1, pipe_Pipe.at b0 r.2, R] w0 w) := by
 refine calls_enter func140 rfl rfl (go ?_)
 obtain ⟨_, _, _, HS⟩ := pipe_Pipe.open HS
 refine go ?_
 refine V.cv H rfl (fun _ H => go ?_) (fun _ H => go ?_)
 ·have HS := (pipe_Pipe.close tv ((row_nilF (Value.int .u8) 5 1 HS).b [1, 1])).b [1]
  exact rt
 ·have HS := pipe_Pipe.close tv HS
  refine W.kl H func142 (fun _ h => pipe_Pipe_gone.calls h HS.j1) ?_
  rintro _ _ w H ⟨_, _, rfl, HS⟩
  have HS := HS.o2
  refine go ?_
  exact rt
mutual
def slices_Equal_Sbytebyte.l0 : Nat → (List Int) → (List Int) → Int → Option Bool
 | 0, _, _, _ => none
 | k + 1, a0, a1, x2 => (if x2 < (a0.length : Int) then (if 0 ≤ x2 ∧ x2 < (a0.length : Int) then (if 0 ≤ x2 ∧ x2 < (a1.length : Int) then (if (a0.getD x2.toNat 0) = (a1.getD x2.toNat 0) then (slices_Equal_Sbytebyte.l0 k a0 a1 (w64 (x2 + 1))) else some false) else none) else none) else some true)
end
def slices_Equal_Sbytebyte.f (k : Nat) (a0 : List Int) (a1 : List Int) : Option Bool := (if (a0.length : Int) = (a1.length : Int) then (slices_Equal_Sbytebyte.l0 k a0 a1 0) else some false)
theorem slices_Equal_Sbytebyte.calls (H : slices_Equal_Sbytebyte.f k a0 a1 = some r) (HS : St [R] w0 w) (hr0 : dB R sa0 sc0 a0) (hr1 : dB R sa1 sc1 a1) : Calls Tryz.prog 318 #[vs sa0 a0.length sc0, vs sa1 a1.length sc1] w (Ret fun u w => u = vb r ∧ St [R] w0 w) := by
 refine calls_enter func318 rfl rfl (go ?_)
 refine V.cm H rfl (fun _ H => go ?_) (fun _ H => go ?_)
 ·refine V.lj (σ := Int) [0, 1, 12] (fun kq x2 w => St [R] w0 w ∧ slices_Equal_Sbytebyte.l0 kq a0 a1 x2 = some r ∧ kq ≤ k) (fun x2 => [(13, vi x2)]) _ ⟨HS, H, Nat.le_refl _⟩ ?_
  rintro kq3 x2 w ⟨HS, H, _⟩
  cases kq3 with
  | zero => exact absurd H (by simp [slices_Equal_Sbytebyte.l0])
  | succ kq3 =>
   simp only [slices_Equal_Sbytebyte.l0] at H
   refine go ?_
   refine V.cd H rfl (fun _ H => go ?_) (fun _ H => go ?_)
   ·obtain ⟨c6, H⟩ := ite_n H
    obtain ⟨_, _, hh⟩ := (rdC.at 0 hr0 HS rfl).some (by decide) c6.1 c6.2; subst hh
    obtain ⟨c9, H⟩ := ite_n H
    obtain ⟨_, _, hh⟩ := (rdC.at 0 hr1 HS rfl).some (by decide) c9.1 c9.2; subst hh
    apply V.da [] [] [(16, _), (17, _), (18, _), (19, _), (20, _), (21, _), (22, _), (23, _), (24, _)] mo HS
    rfl
    refine T.ff [0, 1, 12, 13, 24] (fun w HS => ?_) ⟨rd, rd, rd, .n1 18 rfl rfl (fun w HS => X.load underlying5 rfl rfl ((rdC.at 0 hr0 HS rfl).cellI c6.1 c6.2)), rd, rd, rd, .n1 22 rfl rfl (fun w HS => X.load underlying5 rfl rfl ((rdC.at 0 hr1 HS rfl).cellI c9.1 c9.2)), rds⟩
    refine go ?_
    refine V.cm H rfl (fun _ H => go ?_) (fun _ H => go ?_)
    ·exact At.rn _ ⟨HS, H, by omega⟩
    ·exact rt
   ·exact rt
 ·exact rt
def fcs_Check.f (k : Nat) (a0 : List Int) (a1 : Bool) : Option (List Int × Int) := ((fcs_tail.f k [] a1).bind fun t1 => (if (w64 ((a0.length : Int) - (t1.length : Int))) < 0 then some (([] : List Int), 3) else (if 0 ≤ (0 : Int) ∧ (0 : Int) ≤ w64 ((a0.length : Int) - (t1.length : Int)) ∧ w64 ((a0.length : Int) - (t1.length : Int)) ≤ (a0.length : Int) then (if 0 ≤ w64 ((a0.length : Int) - (t1.length : Int)) ∧ w64 ((a0.length : Int) - (t1.length : Int)) ≤ (a0.length : Int) ∧ (a0.length : Int) ≤ (a0.length : Int) then ((fcs_tail.f k (cut a0 (0 : Int) (w64 ((a0.length : Int) - (t1.length : Int)))) a1).bind fun t7 => ((slices_Equal_Sbytebyte.f k t7 (cut a0 (w64 ((a0.length : Int) - (t1.length : Int))) (a0.length : Int))).bind fun t9 => (if t9 = true then ((slices_Clone_Sbytebyte.f (cut a0 (0 : Int) (w64 ((a0.length : Int) - (t1.length : Int))))).bind fun t12 => some (t12, 0)) else some (([] : List Int), 2)))) else none) else none)))
theorem fcs_Check.calls (H : fcs_Check.f k a0 a1 = some r) (HS : St [R] w0 w) (hr0 : dB R sa0 sc0 a0) : Calls Tryz.prog 310 #[vs sa0 a0.length sc0, vb a1] w (Ret fun u w => ∃ aq0 cq0, u = Value.tuple #[vs aq0 r.1.length cq0, vi r.2] ∧ St [rB aq0 cq0 r.1, R] w0 w) := by
 refine calls_enter func310 rfl rfl (go ?_)
 refine W.kl H func216 (fun _ h => fcs_tail.calls h HS.j0 (rdC.nil rfl)) ?_
 rintro _ _ w H ⟨_, _, rfl, HS⟩
 have HS := HS.o1
 refine go ?_
 refine V.cd H rfl (fun _ H => go ?_) (fun _ H => go ?_)
 ·have HS := (row_nilF (Value.int .u8) 5 1 HS).ke [0, 1]
  exact rt
 ·obtain ⟨c5, H⟩ := ite_n H
  obtain ⟨c6, H⟩ := ite_n H
  apply V.da [4, 8] [9] [(15, _), (16, _), (17, _), (18, _), (20, _), (21, _), (22, _)] mo HS
  rfl
  refine T.e [17, 18] [9] [0, 1, 2, 3] (fun w HS => ?_) ⟨rd, rd, .n2 15 16 rfl rfl rfl (fun w HS => X.slH underlying27 inf5 rfl rfl c5 (rdC.at 1 hr0 HS rfl).cap), rd, rd, rd, .n2 20 21 rfl rfl rfl (fun w HS => X.slL underlying27 inf5 rfl rfl c6), rds⟩
  refine Y.kl H func216 (fun _ h => fcs_tail.calls h HS.j0 (rdC.part 1 (rdC.subM hr0 c5) rfl)) ?_
  rintro _ _ w H ⟨_, _, rfl, HS⟩
  have HS := HS.o1
  refine T.nw HS ?_
  refine T.e [19, 22] [] [5, 6, 7] (fun w HS => ?_) ⟨rd, rd, .n2 20 21 rfl rfl rfl (fun w HS => X.slL underlying27 inf5 rfl rfl c6), rds⟩
  refine Y.kl H func318 (fun _ h => slices_Equal_Sbytebyte.calls h HS.j0 (rdC.part 0 row_rd rfl) (rdC.part 2 (rdC.subM hr0 c6) rfl)) ?_
  rintro _ _ w H ⟨rfl, HS⟩
  have HS := HS.o0
  apply T.na [(23, _), (24, _)] HS
  exact nmk
  refine T.ff [0, 6, 24] fun w HS => ?_
  refine go ?_
  refine V.cx H rfl (fun _ H => go ?_) (fun _ H => go ?_)
  ·refine W.r (X.slH underlying27 inf5 rfl rfl c5 (rdC.at 2 hr0 HS rfl).cap) rfl ?_
   refine W.kl H func189 (fun _ h => slices_Clone_Sbytebyte.calls h HS.j0 (rdC.part 2 (rdC.subM hr0 c5) rfl)) ?_
   rintro _ _ w H ⟨_, _, rfl, HS⟩
   have HS := HS.o1
   refine go ?_
   have HS := HS.ke [0, 2]
   exact rt
  ·have HS := (row_nilF (Value.int .u8) 5 1 HS).ke [0, 2]
   exact rt
def frame_Reader_ends.f (k : Nat) (a0 : frame_Reader) : Option (Int × List Int) := ((frame_size.f k a0.wide).bind fun t3 => (if (a0.b.length : Int) ≤ t3 then some (2, ([] : List Int)) else ((fcs_Check.f k a0.b a0.wide).bind fun t6 => (if t6.2 = 0 then some (1, t6.1) else some (4, ([] : List Int))))))
theorem frame_Reader_ends.calls (H : frame_Reader_ends.f k a0 = some r) (HS : St [blk b0 (#[vb a0.wide, vi a0.most, vi a0.state, vs a3_p0 a0.b.length c3_p0]) 218, rB a3_p0 c3_p0 a0.b, R] w0 w) : Calls Tryz.prog 292 #[pt b0] w (Ret fun u w => ∃ aq1 cq1, u = Value.tuple #[vi r.1, vs aq1 r.2.length cq1] ∧ St [rB aq1 cq1 r.2, blk b0 (#[vb a0.wide, vi a0.most, vi a0.state, vs a3_p0 a0.b.length c3_p0]) 218, rB a3_p0 c3_p0 a0.b, R] w0 w) := by
 refine calls_enter func292 rfl rfl (go ?_)
 apply V.da [9] [10] [(6, _), (7, _), (8, _), (9, _), (10, _), (11, _), (12, _), (13, _), (14, _)] mo HS
 rfl
 refine T.e [14] [] [5, 6, 7, 8] fun w HS => ?_
 refine Y.kl H func130 (fun _ h => frame_size.calls h HS.j0) ?_
 rintro _ _ w H ⟨rfl, HS⟩
 have HS := HS.o0
 apply T.na [(15, _), (16, _)] HS
 exact nmk
 refine T.ff [0, 16] fun w HS => ?_
 refine go ?_
 refine V.cd H rfl (fun _ H => go ?_) (fun _ H => go ?_)
 ·have HS := row_nilF (Value.int .u8) 5 1 HS
  exact rt
 ·apply V.da [8] [9, 10, 11, 12, 13] [(18, _), (19, _), (20, _), (21, _), (22, _), (23, _), (24, _), (25, _)] mo HS
  rfl
  refine T.e [21, 25] [] [0, 1, 2, 3, 4, 5, 6, 7] fun w HS => ?_
  refine Y.kl H func310 (fun _ h => fcs_Check.calls h HS.j0 (rdC.part 1 row_rd rfl)) ?_
  rintro _ _ w H ⟨_, _, rfl, HS⟩
  have HS := HS.o1
  apply T.na [(26, _), (17, _), (27, _), (28, _), (4, _), (5, _)] HS
  exact nmk
  refine T.ff [4, 5] fun w HS => ?_
  refine go ?_
  refine V.cm H rfl (fun _ H => go ?_) (fun _ H => go ?_)
  ·exact rt
  ·have HS := (row_nilF (Value.int .u8) 5 1 HS).ke [0, 1, 1, 1]
   exact rt
def frame_Reader_flag.f (k : Nat) (a0 : frame_Reader) : Option (Int × List Int × frame_Reader) := (if a0.state = 2 then ((frame_Reader_ends.f k a0).bind fun t4 => some (t4.1, t4.2, ({ a0 with state := 1, b := ([] : List Int) } : frame_Reader))) else (if a0.state = 3 then some (5, ([] : List Int), ({ a0 with state := 1, b := ([] : List Int) } : frame_Reader)) else (if a0.state = 4 then some (3, ([] : List Int), ({ a0 with state := 1, b := ([] : List Int) } : frame_Reader)) else some (0, ([] : List Int), ({ a0 with state := 1, b := ([] : List Int) } : frame_Reader)))))
theorem frame_Reader_flag.calls (H : frame_Reader_flag.f k a0 = some r) (HS : St [frame_Reader.at b0 a0, R] w0 w) : Calls Tryz.prog 267 #[pt b0] w (Ret fun u w => ∃ aq1 cq1, u = Value.tuple #[vi r.1, vs aq1 r.2.1.length cq1] ∧ St [rB aq1 cq1 r.2.1, frame_Reader.at b0 r.2.2, R] w0 w) := by
 refine calls_enter func267 rfl rfl (go ?_)
 obtain ⟨_, _, _, HS⟩ := frame_Reader.open HS
 refine go ?_
 refine V.cd H rfl (fun _ H => go ?_) (fun _ H => go ?_)
 ·refine W.kl H func292 (fun _ h => frame_Reader_ends.calls h HS.j2) ?_
  rintro _ _ w H ⟨_, _, rfl, HS⟩
  have HS := HS.o3
  refine go ?_
  refine W.sr 2 HS rfl rfl rfl fun w HS => go ?_
  refine W.sr 3 HS rfl rfl rfl fun w HS => go ?_
  have HS := (frame_Reader.close (l3 := ([] : List Int)) tv ((row_nilF (Value.int .u8) 5 1 HS).b [2])).ke [1, 0, 1]
  exact rt
 ·refine V.cd H rfl (fun _ H => go ?_) (fun _ H => go ?_)
  ·refine W.sr 2 HS rfl rfl rfl fun w HS => go ?_
   refine W.sr 3 HS rfl rfl rfl fun w HS => go ?_
   have HS := (frame_Reader.close (l3 := ([] : List Int)) tv ((row_nilF (Value.int .u8) 5 1 (row_nilF (Value.int .u8) 5 1 HS)).b [2])).ke [1, 0, 1]
   exact rt
  ·refine V.cd H rfl (fun _ H => go ?_) (fun _ H => go ?_)
   ·refine W.sr 2 HS rfl rfl rfl fun w HS => go ?_
    refine W.sr 3 HS rfl rfl rfl fun w HS => go ?_
    have HS := (frame_Reader.close (l3 := ([] : List Int)) tv ((row_nilF (Value.int .u8) 5 1 (row_nilF (Value.int .u8) 5 1 HS)).b [2])).ke [1, 0, 1]
    exact rt
   ·refine W.sr 2 HS rfl rfl rfl fun w HS => go ?_
    refine W.sr 3 HS rfl rfl rfl fun w HS => go ?_
    have HS := (frame_Reader.close (l3 := ([] : List Int)) tv ((row_nilF (Value.int .u8) 5 1 (row_nilF (Value.int .u8) 5 1 HS)).b [2])).ke [1, 0, 1]
    exact rt
def frame_Reader_take.f (a0 : frame_Reader) (a1 : Int) : Option frame_Reader := (if (a0.b.length : Int) + ([a1] : List Int).length ≤ 1099511627776 then (if ((a0.b ++ ([a1] : List Int)).length : Int) > a0.most then some (({ a0 with state := 4, b := a0.b ++ ([a1] : List Int) } : frame_Reader)) else some (({ a0 with state := 2, b := a0.b ++ ([a1] : List Int) } : frame_Reader))) else none)
theorem frame_Reader_take.calls (H : frame_Reader_take.f a0 a1 = some r) (HS : St [frame_Reader.at b0 a0, R] w0 w) : Calls Tryz.prog 268 #[pt b0, Value.int .u8 a1] w (Ret fun u w => u = Value.tuple #[] ∧ St [frame_Reader.at b0 r, R] w0 w) := by
 refine calls_enter func268 rfl rfl (go ?_)
 obtain ⟨_, _, _, HS⟩ := frame_Reader.open HS
 refine go ?_
 refine W.e (Y.ls (e := 5) (Value.int .u8) ([a1] : List Int) HS rfl rfl (fun _ => by kernel_rfl)) rfl ?_
 rintro _ w ⟨_, rfl, HS⟩
 obtain ⟨_, H⟩ := ite_n H
 refine W.e (Y.appF (Value.int .u8) (fun _ => rfl) 2 underlying27 ap5 rfl HS rfl rfl rfl (rdC.at 0 row_rd HS rfl) (by omega) (by omega)) rfl ?_
 rintro _ w ⟨_, _, rfl, HS⟩
 refine go ?_
 refine W.sr 3 HS rfl rfl rfl fun w HS => go ?_
 refine W.sr 2 HS rfl rfl rfl fun w HS => go ?_
 apply V.da [] [] [(17, _), (18, _), (19, _), (20, _), (21, _), (22, _), (23, _), (24, _), (25, _), (26, _)] mo HS
 rfl
 refine T.ff [0, 26] fun w HS => ?_
 refine go ?_
 refine V.cd H rfl (fun _ H => go ?_) (fun _ H => go ?_)
 ·refine W.sr 2 HS rfl rfl rfl fun w HS => go ?_
  have HS := (frame_Reader.close tv (HS.b [1, 1])).ke [0, 1]
  exact rt
 ·have HS := (frame_Reader.close tv (HS.b [1, 1])).ke [0, 1]
  exact rt
mutual
def frame_Reader_Push.j0 (a0 : frame_Reader) (a1 : Int) (x8 : Bool) : Option (Int × List Int × frame_Reader) := (if x8 = true then some (0, ([] : List Int), a0) else (if a0.state = 3 then ((frame_Reader_take.f a0 (ixor .u8 a1 (32))).bind fun t12 => some (0, ([] : List Int), t12)) else (if a1 = 125 then some (0, ([] : List Int), ({ a0 with state := 3 } : frame_Reader)) else ((frame_Reader_take.f a0 a1).bind fun t17 => some (0, ([] : List Int), t17)))))
end
def frame_Reader_Push.f (k : Nat) (a0 : frame_Reader) (a1 : Int) : Option (Int × List Int × frame_Reader) := (if a1 = 126 then ((frame_Reader_flag.f k a0).bind fun t3 => some (t3.1, t3.2.1, t3.2.2)) else (if a0.state = 0 then (frame_Reader_Push.j0 a0 a1 (decide (a0.state = 0))) else (frame_Reader_Push.j0 a0 a1 (decide (a0.state = 4)))))
theorem frame_Reader_Push.calls (H : frame_Reader_Push.f k a0 a1 = some r) (HS : St [frame_Reader.at b0 a0, R] w0 w) : Calls Tryz.prog 230 #[pt b0, Value.int .u8 a1] w (Ret fun u w => ∃ aq1 cq1, u = Value.tuple #[vi r.1, vs aq1 r.2.1.length cq1] ∧ St [rB aq1 cq1 r.2.1, frame_Reader.at b0 r.2.2, R] w0 w) := by
 refine calls_enter func230 rfl rfl (go ?_)
 refine V.scope 1 (go ?_)
 refine V.cd H rfl (fun _ H => go ?_) (fun _ H => go ?_)
 ·refine W.kl H func267 (fun _ h => frame_Reader_flag.calls h HS.j1) ?_
  rintro _ _ w H ⟨_, _, rfl, HS⟩
  have HS := HS.o2
  refine go ?_
  exact rt
 ·obtain ⟨_, _, _, HS⟩ := frame_Reader.open HS
  refine gs ?_
  refine V.mj (σ := Bool) [0, 1, 15] (fun x8 w => St [frame_Reader.at b0 a0, R] w0 w ∧ frame_Reader_Push.j0 a0 a1 x8 = some r) (fun x8 => [(16, vb x8)]) ?_ ?_
  ·refine go ?_
   refine V.cd H rfl (fun _ H => go ?_) (fun _ H => go ?_)
   ·have HS := frame_Reader.close tv HS
    exact At.mt _ ⟨HS, H⟩
   ·have HS := frame_Reader.close tv HS
    exact At.mt _ ⟨HS, H⟩
  ·rintro x8 w ⟨HS, H⟩
   refine V.cv H rfl (fun _ H => go ?_) (fun _ H => go ?_)
   ·refine At.jump rfl (go ?_)
    have HS := row_nilF (Value.int .u8) 5 1 HS
    exact rt
   ·refine V.cd H rfl (fun _ H => go ?_) (fun _ H => go ?_)
    ·refine W.r (X.xor rfl rfl) rfl (go ?_)
     refine At.jump rfl (go ?_)
     refine W.kl H func268 (fun _ h => frame_Reader_take.calls h HS.j1) ?_
     rintro _ _ w H ⟨rfl, HS⟩
     have HS := HS.o1
     refine go ?_
     have HS := row_nilF (Value.int .u8) 5 1 HS
     exact rt
    ·refine V.cd H rfl (fun _ H => go ?_) (fun _ H => go ?_)
     ·obtain ⟨_, _, _, HS⟩ := frame_Reader.open HS
      refine go ?_
      refine W.sr 2 HS rfl rfl rfl fun w HS => go ?_
      refine At.jump rfl (go ?_)
      have HS := (frame_Reader.close tv ((row_nilF (Value.int .u8) 5 1 HS).b [1, 1])).b [1]
      exact rt
     ·refine W.kl H func268 (fun _ h => frame_Reader_take.calls h HS.j1) ?_
      rintro _ _ w H ⟨rfl, HS⟩
      have HS := HS.o1
      refine go ?_
      have HS := row_nilF (Value.int .u8) 5 1 HS
      exact rt
def station_one.f (a0 : Int) : Int := imin (w64 (a0 + 1)) (4294967295)
theorem station_one.cell {L : List As} {w0 w : World} (j z : Nat) {b o : Nat} {c c' : Array Value} {e : TypeId} {v : Int} {L' : List As} (HS : Sep.St L w0 w) (hL : L[j]? = some (blk b c e)) (hc : c[z]? = some (vi v)) (ho : o = z)
  [q : SetA c z (vi (station_one.f v)) c'] [r : SetL L j (blk b c' e) L'] : Calls Tryz.prog 231 #[po b o] w (Ret fun u w => u = Value.tuple #[] ∧ Sep.St L' w0 w) := by
 subst ho
 refine calls_enter func231 rfl rfl ?_
 exact V.region (W.rd (X.move rfl) rfl rfl rfl (W.rd (X.move rfl) rfl rfl rfl (W.rd (X.nilCheck rfl) rfl rfl rfl (W.rd (X.loadAt j HS hL underlying3 rfl rfl hc) rfl rfl rfl (W.rd (X.add rfl rfl) rfl rfl rfl (W.rd (X.min2 rfl rfl) rfl rfl rfl (W.rd (X.nilCheck rfl) rfl rfl rfl (W.ev_none (Y.storeAt j HS hL inf3 rfl rfl rfl hc q.h r.h) rfl rfl fun _ w HS => W.nil (At.end0 rfl ⟨_, rfl, rfl, HS⟩)))))))))
def tally_one.f (a0 : Bool) : Option (Nat × Nat) := (if a0 = true then some (((4607182418800017408, 0) : Nat × Nat)) else some (((0, 4607182418800017408) : Nat × Nat)))
theorem tally_one.calls (H : tally_one.f a0 = some r) (HS : St [R] w0 w) : Calls Tryz.prog 293 #[vb a0] w (Ret fun u w => u = Value.complex .f64 r.1 r.2 ∧ St [R] w0 w) := by
 refine calls_enter func293 rfl rfl (go ?_)
 refine V.cv H rfl (fun _ H => go ?_) (fun _ H => go ?_)
 ·exact rt
 ·exact rt
mutual
def tally_Window_Note.j0 (a1 : Bool) (x2 : tally_Window) : Option tally_Window := (if 0 ≤ x2.at_ ∧ x2.at_ < (x2.l.length : Int) then ((tally_one.f a1).bind fun t9 => ((cxop .add x2.sum t9).bind fun t11 => (if ¬ (((x2.l.set x2.at_.toNat a1).length : Int) = 0) then some (({ l := x2.l.set x2.at_.toNat a1, at_ := (w64 (x2.at_ + 1)).tmod (((x2.l.set x2.at_.toNat a1).length : Int)), kept := x2.kept, sum := t11 } : tally_Window)) else none))) else none)
end
def tally_Window_Note.f (a0 : tally_Window) (a1 : Bool) : Option tally_Window := (if a0.kept = (a0.l.length : Int) then (if 0 ≤ a0.at_ ∧ a0.at_ < (a0.l.length : Int) then ((tally_one.f (a0.l.getD a0.at_.toNat false)).bind fun t20 => ((cxop .sub a0.sum t20).bind fun t22 => (tally_Window_Note.j0 a1 ({ a0 with sum := t22 } : tally_Window)))) else none) else (tally_Window_Note.j0 a1 ({ a0 with kept := w64 (a0.kept + 1) } : tally_Window)))
theorem tally_Window_Note.calls (H : tally_Window_Note.f a0 a1 = some r) (HS : St [tally_Window.at b0 a0, R] w0 w) : Calls Tryz.prog 269 #[pt b0, vb a1] w (Ret fun u w => u = Value.tuple #[] ∧ St [tally_Window.at b0 r, R] w0 w) := by
 unfold tally_Window_Note.f at H
 refine calls_enter func269 rfl rfl ?_
 have H : _ = some r := H
 refine V.mj (σ := tally_Window) [0, 1] (fun x2 w => St [tally_Window.at b0 x2, R] w0 w ∧ tally_Window_Note.j0 a1 x2 = some r) (fun _ => []) ?_ ?_
 ·refine go ?_
  obtain ⟨_, _, _, HS⟩ := tally_Window.open HS
  apply V.da [] [] [(4, _), (5, _), (6, _), (7, _), (8, _), (9, _), (10, _), (11, _), (12, _), (13, _)] mo HS
  rfl
  refine T.ff [0, 1, 13] fun w HS => ?_
  refine go ?_
  refine V.cd H rfl (fun _ H => ?_) (fun _ H => go ?_)
  ·obtain ⟨c17, H⟩ := ite_n H
   obtain ⟨_, _, hh⟩ := (rdC.at 1 row_rd HS rfl).some (by decide) c17.1 c17.2; subst hh
   apply V.da [14, 18] [15, 16, 17] [(14, _), (15, _), (16, _), (17, _), (18, _), (19, _), (20, _), (21, _), (22, _), (23, _), (24, _), (25, _), (26, _), (27, _)] mo HS
   rfl
   refine T.e [27] [] [4, 5, 6, 7, 8, 9, 10, 11, 12, 13] (fun w HS => ?_) ⟨rd, rd, rd, rd, rd, rd, rd, rd, rd, rd, rd, rd, rd, .n1 26 rfl rfl (fun w HS => X.load underlying4 rfl rfl ((rdC.at 1 row_rd HS rfl).cellB c17.1 c17.2)), rds⟩
   refine Y.kl H func293 (fun _ h => tally_one.calls h HS.j0) ?_
   rintro _ _ w H ⟨rfl, HS⟩
   have HS := HS.o0
   obtain ⟨_, A23, H⟩ := bind_s H
   apply T.na [(28, _), (29, _), (30, _), (31, _)] HS
   exact nmk
   refine T.e [29, 31] [] [0, 1, 2, 3, 15, 16, 17] (fun w HS => ?_) ⟨rd, rd, rd, rd, .n2 17 28 rfl rfl rfl (fun w HS => X.cxop A23 rfl rfl), rds⟩
   refine Y.sr 3 HS rfl rfl rfl fun _ w HS => ?_
   refine T.nn HS ?_
   refine T.ff [0, 1] fun w HS => ?_
   have HS := tally_Window.close tv HS
   exact At.mt _ ⟨HS, H⟩
  ·refine W.sr 2 HS rfl rfl rfl fun w HS => go ?_
   have HS := tally_Window.close tv HS
   exact At.mt _ ⟨HS, H⟩
 ·rintro x2 w ⟨HS, H⟩
  unfold tally_Window_Note.j0 at H
  refine go ?_
  obtain ⟨_, c0_4, _, HS⟩ := tally_Window.open HS
  obtain ⟨c6, H⟩ := ite_n H
  obtain ⟨eb7, eo8, hh⟩ := (rdC.at 1 row_rd HS rfl).some (by decide) c6.1 c6.2; subst hh
  apply V.da [10] [] [(39, _), (40, _), (41, _), (42, _), (43, _), (44, _), (45, _), (46, _), (47, _), (48, _)] mo HS
  rfl
  refine T.e [47, 48] [] [0, 1, 2, 3, 4, 5, 6, 7, 8, 9] fun w HS => ?_
  refine ⟨_, Y.storeRowN vb (fun _ => rfl) 1 HS rfl inf4 rfl rfl c6.1 c6.2, ?_⟩
  rintro _ w HS
  refine T.nn HS ?_
  refine T.ff [0, 1] fun w HS => ?_
  have HS : Sep.St [blk b0 (#[vs (some ⟨eb7, eo8, none⟩) (x2.l.set x2.at_.toNat a1).length c0_4, vi x2.at_, vi x2.kept, Value.complex .f64 x2.sum.1 x2.sum.2]) 254, row 4 1 (.slice (some ⟨eb7, eo8, none⟩) (x2.l.set x2.at_.toNat a1).length c0_4) (x2.l.set x2.at_.toNat a1).length ((x2.l.set x2.at_.toNat a1).map Value.bool), R] w0 w := by simpa only [List.length_set, List.set_cons_succ, List.set_cons_zero] using HS
  refine go ?_
  apply V.da [5, 9] [6, 7, 8] [(49, _), (50, _), (51, _), (52, _), (53, _)] mo HS
  rfl
  refine T.e [53] [] [4] fun w HS => ?_
  refine Y.kl H func293 (fun _ h => tally_one.calls h HS.j0) ?_
  rintro _ _ w H ⟨rfl, HS⟩
  have HS := HS.o0
  obtain ⟨_, A12, H⟩ := bind_s H
  apply T.na [(54, _), (55, _), (56, _), (57, _)] HS
  exact nmk
  refine T.e [55, 57] [] [0, 1, 2, 3, 6, 7, 8] (fun w HS => ?_) ⟨rd, rd, rd, rd, .n2 52 54 rfl rfl rfl (fun w HS => X.cxop A12 rfl rfl), rds⟩
  refine Y.sr 3 HS rfl rfl rfl fun _ w HS => ?_
  refine T.nn HS ?_
  refine T.ff [0] fun w HS => ?_
  refine go ?_
  obtain ⟨c13, H⟩ := ite_n H
  apply V.da [14] [] [(58, _), (59, _), (60, _), (61, _), (62, _), (63, _), (64, _), (65, _), (66, _), (67, _), (68, _), (69, _), (70, _), (71, _)] mo HS
  rfl
  refine T.e [69, 71] [] [0, 1, 2, 3, 4, 5, 6, 7, 8, 9, 10, 11, 12, 13] (fun w HS => ?_) ⟨rd, rd, rd, rd, rd, rd, rd, rd, rd, rd, rd, .n2 63 68 rfl rfl rfl (fun w HS => X.rem rfl rfl c13), rds⟩
  refine Y.sr 1 HS rfl rfl rfl fun _ w HS => ?_
  refine T.nn HS ?_
  refine T.ff [] fun w HS => ?_
  have HS := tally_Window.close tv HS
  exact rt
def tally_Window_Sum.f (a0 : tally_Window) : Option (Nat × Nat) := some a0.sum
theorem tally_Window_Sum.calls (H : tally_Window_Sum.f a0 = some r) (HS : St [blk b0 (#[vs a0_p0 a0.l.length c0_p0, vi a0.at_, vi a0.kept, Value.complex .f64 a0.sum.1 a0.sum.2]) 254, row 4 1 (.slice a0_p0 a0.l.length c0_p0) a0.l.length (a0.l.map Value.bool), R] w0 w) : Calls Tryz.prog 271 #[pt b0] w (Ret fun u w => u = Value.complex .f64 r.1 r.2 ∧ St [blk b0 (#[vs a0_p0 a0.l.length c0_p0, vi a0.at_, vi a0.kept, Value.complex .f64 a0.sum.1 a0.sum.2]) 254, row 4 1 (.slice a0_p0 a0.l.length c0_p0) a0.l.length (a0.l.map Value.bool), R] w0 w) := by
 refine calls_enter func271 rfl rfl (go ?_)
 exact rt
mutual
def tally_count.j0 (a0 : Nat) (x1 : Bool) : Option (Int × Bool) := (if x1 = true then some (0, false) else ((f2i .i64 a0).bind fun t4 => some (t4, fcmp .eql (FloatKind.f64.nearest t4) a0)))
end
def tally_count.f (a0 : Nat) : Option (Int × Bool) := (if fcmp .geq a0 (0 : Nat) = true then (tally_count.j0 a0 (!(fcmp .leq a0 (4751297606873776128 : Nat)))) else (tally_count.j0 a0 true))
theorem tally_count.calls (H : tally_count.f a0 = some r) (HS : St [R] w0 w) : Calls Tryz.prog 294 #[Value.float .f64 a0] w (Ret fun u w => u = Value.tuple #[vi r.1, vb r.2] ∧ St [R] w0 w) := by
 refine calls_enter func294 rfl rfl ?_
 refine V.seq ?_
 refine gs ?_
 refine V.seq ?_
 refine V.mj (σ := Bool) [0] (fun x1 w => St [R] w0 w ∧ tally_count.j0 a0 x1 = some r) (fun x1 => [(11, vb x1)]) ?_ ?_
 ·refine go ?_
  refine W.r (X.fcmp (fcmp .geq a0 (0 : Nat)) rfl (by decide) rfl rfl) rfl (go ?_)
  refine W.cv 7 H rfl (fun _ H => go ?_) (fun _ H => go ?_)
  ·refine W.r (X.fcmp (fcmp .leq a0 (4751297606873776128 : Nat)) rfl (by decide) rfl rfl) rfl (go ?_)
   exact At.mt _ ⟨HS, H⟩
  ·exact At.mt _ ⟨HS, H⟩
 ·rintro x1 w ⟨HS, H⟩
  refine V.cv H rfl (fun _ H => go ?_) (fun _ H => go ?_)
  ·exact rt
  ·obtain ⟨t4, A5, H⟩ := bind_s H
   refine W.r (X.f2i A5 underlying303 underlying3 rfl) rfl (go ?_)
   refine W.r (X.i2f underlying3 underlying303 rfl) rfl (go ?_)
   refine W.r (X.fcmp (fcmp .eql (FloatKind.f64.nearest t4) a0) rfl (by decide) rfl rfl) rfl (go ?_)
   exact rt
mutual
def tally_Parts.j0 (t1 : Int × Bool) (t3 : Int × Bool) (x5 : Bool) : Option (Int × Int × Bool) := (if x5 = true then some (0, 0, false) else some (t1.1, t3.1, true))
end
def tally_Parts.f (a0 : (Nat × Nat)) : Option (Int × Int × Bool) := ((tally_count.f a0.1).bind fun t1 => ((tally_count.f a0.2).bind fun t3 => (if t1.2 = true then (tally_Parts.j0 t1 t3 (!t3.2)) else (tally_Parts.j0 t1 t3 true))))
theorem tally_Parts.calls (H : tally_Parts.f a0 = some r) (HS : St [R] w0 w) : Calls Tryz.prog 270 #[Value.complex .f64 a0.1 a0.2] w (Ret fun u w => u = Value.tuple #[vi r.1, vi r.2.1, vb r.2.2] ∧ St [R] w0 w) := by
 refine calls_enter func270 rfl rfl (go ?_)
 refine W.r (X.real rfl) rfl ?_
 refine W.kl H func294 (fun _ h => tally_count.calls h HS.j0) ?_
 rintro t1 _ w H ⟨rfl, HS⟩
 have HS := HS.o0
 refine go ?_
 refine W.r (X.imag rfl) rfl ?_
 refine W.kl H func294 (fun _ h => tally_count.calls h HS.j0) ?_
 rintro t3 _ w H ⟨rfl, HS⟩
 have HS := HS.o0
 refine gs ?_
 refine V.seq ?_
 refine V.mj (σ := Bool) [5, 7] (fun x5 w => St [R] w0 w ∧ tally_Parts.j0 t1 t3 x5 = some r) (fun x5 => [(26, vb x5)]) ?_ ?_
 ·refine go ?_
  refine W.cx 23 H rfl (fun _ H => go ?_) (fun _ H => go ?_)
  ·exact At.mt _ ⟨HS, H⟩
  ·exact At.mt _ ⟨HS, H⟩
 ·rintro x5 w ⟨HS, H⟩
  refine V.cv H rfl (fun _ H => go ?_) (fun _ H => go ?_)
  ·exact rt
  ·exact rt
def tally_Window_Clear.f (a0 : tally_Window) : Option tally_Window := some (({ l := a0.l, at_ := 0, kept := 0, sum := ((0, 0) : Nat × Nat) } : tally_Window))
theorem tally_Window_Clear.calls (H : tally_Window_Clear.f a0 = some r) (HS : St [tally_Window.at b0 a0, R] w0 w) : Calls Tryz.prog 272 #[pt b0] w (Ret fun u w => u = Value.tuple #[] ∧ St [tally_Window.at b0 r, R] w0 w) := by
 refine calls_enter func272 rfl rfl (go ?_)
 obtain ⟨a0_1, c0_1, _, HS⟩ := tally_Window.open HS
 refine go ?_
 refine W.r (X.bd (Value.agg #[vs a0_1 a0.l.length c0_1, vi (0), vi (0), Value.complex .f64 (((0, 0) : Nat × Nat)).1 (((0, 0) : Nat × Nat)).2]) rfl (fun _ => by kernel_rfl)) rfl (go ?_)
 refine W.ss HS rfl rfl rfl rfl fun w HS => go ?_
 have HS := tally_Window.close tv HS
 exact rt
mutual
def monitor_Monitor_Note.j2 (x7 : monitor_Monitor) (x30 : Bool) : Option (Int × monitor_Monitor) := (if x30 = true then some (1, ({ x7 with state := 1 } : monitor_Monitor)) else some (x7.state, x7))
def monitor_Monitor_Note.j1 (x7 : monitor_Monitor) (t15 : Int × Int × Bool) (x19 : Bool) : Option (Int × monitor_Monitor) := (if x19 = true then ((tally_Window_Clear.f x7.w).bind fun t24 => some (0, ({ x7 with w := t24, state := 0 } : monitor_Monitor))) else (if t15.2.1 ≥ x7.bad then some (2, ({ x7 with state := 2 } : monitor_Monitor)) else (if t15.2.1 ≥ (w64 ((w64 (x7.bad + 1)).tdiv (2))) then (monitor_Monitor_Note.j2 x7 (decide (x7.state = 0))) else (monitor_Monitor_Note.j2 x7 false))))
def monitor_Monitor_Note.j0  (x7 : monitor_Monitor) : Option (Int × monitor_Monitor) := ((tally_Window_Sum.f x7.w).bind fun t13 => ((tally_Parts.f t13).bind fun t15 => (if x7.state = 0 then (monitor_Monitor_Note.j1 x7 t15 false) else (monitor_Monitor_Note.j1 x7 t15 (decide (x7.row ≥ x7.good))))))
end
def monitor_Monitor_Note.f (a0 : monitor_Monitor) (a1 : Bool) : Option (Int × monitor_Monitor) := ((tally_Window_Note.f a0.w a1).bind fun t3 => (if a1 = true then (monitor_Monitor_Note.j0 ({ a0 with w := t3, row := imin (w64 (a0.row + 1)) (16), silence := 0 } : monitor_Monitor)) else (monitor_Monitor_Note.j0 ({ a0 with w := t3, row := 0, silence := 0 } : monitor_Monitor))))
theorem monitor_Monitor_Note.calls (H : monitor_Monitor_Note.f a0 a1 = some r) (HS : St [monitor_Monitor.at b0 a0, R] w0 w) : Calls Tryz.prog 232 #[pt b0, vb a1] w (Ret fun u w => u = vi r.1 ∧ St [monitor_Monitor.at b0 r.2, R] w0 w) := by
 refine calls_enter func232 rfl rfl (go ?_)
 obtain ⟨_, _, HS⟩ := monitor_Monitor.open HS
 refine go ?_
 have HS := HS.b [1]
 refine W.kl H func269 (fun _ h => tally_Window_Note.calls h HS.j1) ?_
 rintro _ _ w H ⟨rfl, HS⟩
 have HS := HS.o1
 refine go ?_
 refine W.sr 5 HS rfl rfl rfl fun w HS => go ?_
 refine W.sr 4 HS rfl rfl rfl fun w HS => ?_
 refine gs ?_
 refine V.mj (σ := monitor_Monitor) [0] (fun x7 w => St [monitor_Monitor.at b0 x7, R] w0 w ∧ monitor_Monitor_Note.j0 x7 = some r) (fun _ => []) ?_ ?_
 ·refine go ?_
  refine V.cx H rfl (fun _ H => go ?_) (fun _ H => go ?_)
  ·have HS := monitor_Monitor.close tv (HS.b [1])
   exact At.mt _ ⟨HS, H⟩
  ·refine W.sr 4 HS rfl rfl rfl fun w HS => go ?_
   have HS := monitor_Monitor.close tv (HS.b [1])
   exact At.mt _ ⟨HS, H⟩
 ·rintro x7 w ⟨HS, H⟩
  refine go ?_
  obtain ⟨_, _, HS⟩ := monitor_Monitor.open HS
  refine go ?_
  have HS := HS.fr 1
  obtain ⟨_, _, _, HS⟩ := tally_Window.open HS
  refine W.kl H func271 (fun _ h => tally_Window_Sum.calls h HS.j2) ?_
  rintro _ _ w H ⟨rfl, HS⟩
  have HS := HS.o2
  refine W.kl H func270 (fun _ h => tally_Parts.calls h HS.j0) ?_
  rintro t15 _ w H ⟨rfl, HS⟩
  have HS := HS.o0
  refine gs ?_
  refine V.seq ?_
  refine gs ?_
  refine V.mj (σ := Bool) [0, 6] (fun x19 w => St [monitor_Monitor.at b0 x7, R] w0 w ∧ monitor_Monitor_Note.j1 x7 t15 x19 = some r) (fun x19 => [(41, vb x19)]) ?_ ?_
  ·refine ite_c H (fun c38 H => ?_) (fun c38 H => ?_)
   ·apply V.da [] [] [(42, _), (43, _), (44, _), (45, _), (46, _), (47, _), (48, _), (49, _), (50, _), (51, _), (52, _), (53, _), (54, _), (55, _), (56, _), (57, _), (41, _)] mo HS
    rfl
    refine T.ff [0, 6, 41] fun w HS => ?_
    have HS := monitor_Monitor.close tv ((tally_Window.close tv HS).b [1])
    exact At.mt _ ⟨HS, H⟩
   ·apply V.da [] [] [(42, _), (43, _), (44, _), (45, _), (46, _), (47, _), (48, _), (49, _), (50, _), (51, _), (52, _), (53, _), (54, _), (55, _), (56, _), (57, _), (41, _)] mo HS
    rfl
    refine T.ff [0, 6, 41] fun w HS => ?_
    have HS := monitor_Monitor.close tv ((tally_Window.close tv HS).b [1])
    exact At.mt _ ⟨HS, H⟩
  ·rintro x19 w ⟨HS, H⟩
   refine V.cv H rfl (fun _ H => go ?_) (fun _ H => go ?_)
   ·obtain ⟨_, _, HS⟩ := monitor_Monitor.open HS
    refine go ?_
    have HS := HS.b [1]
    refine W.kl H func272 (fun _ h => tally_Window_Clear.calls h HS.j1) ?_
    rintro _ _ w H ⟨rfl, HS⟩
    have HS := HS.o1
    refine go ?_
    refine W.sr 6 HS rfl rfl rfl fun w HS => go ?_
    have HS := monitor_Monitor.close tv (HS.b [1])
    exact rt
   ·obtain ⟨_, _, HS⟩ := monitor_Monitor.open HS
    refine go ?_
    refine V.cd H rfl (fun _ H => go ?_) (fun _ H => ?_)
    ·refine W.sr 6 HS rfl rfl rfl fun w HS => go ?_
     have HS := monitor_Monitor.close tv HS
     exact rt
    ·refine V.mj (σ := Bool) [0] (fun x30 w => St [monitor_Monitor.at b0 x7, R] w0 w ∧ monitor_Monitor_Note.j2 x7 x30 = some r) (fun x30 => [(76, vb x30)]) ?_ ?_
     ·refine go ?_
      refine W.r (X.quo rfl rfl (by decide)) rfl (go ?_)
      refine W.cd 85 H rfl (fun _ H => go ?_) (fun _ H => go ?_)
      ·have HS := monitor_Monitor.close tv HS
       exact At.mt _ ⟨HS, H⟩
      ·have HS := monitor_Monitor.close tv HS
       exact At.mt _ ⟨HS, H⟩
     ·rintro x30 w ⟨HS, H⟩
      refine V.cv H rfl (fun _ H => go ?_) (fun _ H => go ?_)
      ·obtain ⟨_, _, HS⟩ := monitor_Monitor.open HS
       refine go ?_
       refine W.sr 6 HS rfl rfl rfl fun w HS => go ?_
       have HS := monitor_Monitor.close tv HS
       exact rt
      ·obtain ⟨_, _, HS⟩ := monitor_Monitor.open HS
       refine go ?_
       have HS := monitor_Monitor.close tv HS
       exact rt
def aps_Aps_Line.f (a0 : aps_Aps) : Option Int := some a0.line
theorem aps_Aps_Line.calls (H : aps_Aps_Line.f a0 = some r) (HS : St [blk b0 (#[vi a0.hold, vi a0.wait, vb a0.revert, vi a0.command, vi a0.remote, vi a0.own, vi a0.bad, vi a0.left, vi a0.line]) 158, R] w0 w) : Calls Tryz.prog 47 #[pt b0] w (Ret fun u w => u = vi r ∧ St [blk b0 (#[vi a0.hold, vi a0.wait, vb a0.revert, vi a0.command, vi a0.remote, vi a0.own, vi a0.bad, vi a0.left, vi a0.line]) 158, R] w0 w) := by
 refine calls_enter func47 rfl rfl (go ?_)
 exact rt
def twins_Table_first.f (a0 : twins_Table) (a1 : Int) : Option (Bool × twins_Table) := (if ¬ ((a0.came.length : Int) = 0) then (if 0 ≤ (w64 ((w64 (a0.at_ + (a0.came.length : Int))) - a1)).tmod (a0.came.length : Int) ∧ (w64 ((w64 (a0.at_ + (a0.came.length : Int))) - a1)).tmod (a0.came.length : Int) < (a0.came.length : Int) then some (!(a0.came.getD ((w64 ((w64 (a0.at_ + (a0.came.length : Int))) - a1)).tmod (a0.came.length : Int)).toNat false), ({ a0 with came := a0.came.set ((w64 ((w64 (a0.at_ + (a0.came.length : Int))) - a1)).tmod (a0.came.length : Int)).toNat true } : twins_Table)) else none) else none)
theorem twins_Table_first.calls (H : twins_Table_first.f a0 a1 = some r) (HS : St [twins_Table.at b0 a0, R] w0 w) : Calls Tryz.prog 295 #[pt b0, vi a1] w (Ret fun u w => u = vb r.1 ∧ St [twins_Table.at b0 r.2, R] w0 w) := by
 unfold twins_Table_first.f at H
 refine calls_enter func295 rfl rfl ?_
 have H : _ = some r := H
 refine go ?_
 obtain ⟨_, c3_1, _, HS⟩ := twins_Table.open HS
 refine go ?_
 obtain ⟨c3, H⟩ := ite_n H
 obtain ⟨c4, H⟩ := ite_n H
 obtain ⟨eb5, eo6, hh⟩ := (rdC.at 1 row_rd HS rfl).some (by decide) c4.1 c4.2; subst hh
 apply V.da [] [] [(13, _), (14, _), (15, _), (16, _), (17, _), (18, _), (19, _), (20, _), (21, _), (22, _), (23, _), (24, _), (25, _), (26, _), (27, _), (6, _)] mo HS
 rfl
 refine T.ff [6] (fun w HS => ?_) ⟨rd, rd, rd, rd, rd, rd, rd, rd, rd, rd, rd, rd, rd, .n2 24 25 rfl rfl rfl (fun w HS => X.rem rfl rfl c3), rds⟩
 refine go ?_
 refine W.r (X.load underlying4 rfl rfl ((rdC.at 1 row_rd HS rfl).cellB c4.1 c4.2)) rfl (go ?_)
 refine W.en (Y.storeRowF vb (fun _ => rfl) 1 HS rfl inf4 rfl rfl c4.1 c4.2) rfl ?_
 rintro _ w HS
 have HS : Sep.St [blk b0 (#[vb a0.known, Value.int .u32 a0.highest, vi a0.at_, vs (some ⟨eb5, eo6, none⟩) (a0.came.set ((w64 ((w64 (a0.at_ + (a0.came.length : Int))) - a1)).tmod (a0.came.length : Int)).toNat true).length c3_1]) 216, row 4 1 (.slice (some ⟨eb5, eo6, none⟩) (a0.came.set ((w64 ((w64 (a0.at_ + (a0.came.length : Int))) - a1)).tmod (a0.came.length : Int)).toNat true).length c3_1) (a0.came.set ((w64 ((w64 (a0.at_ + (a0.came.length : Int))) - a1)).tmod (a0.came.length : Int)).toNat true).length ((a0.came.set ((w64 ((w64 (a0.at_ + (a0.came.length : Int))) - a1)).tmod (a0.came.length : Int)).toNat true).map Value.bool), R] w0 w := by simpa only [List.length_set, List.set_cons_succ, List.set_cons_zero] using HS
 refine go ?_
 have HS := twins_Table.close tv HS
 exact rt
def twins_Table_raise.f (a0 : twins_Table) : Option twins_Table := (if ¬ ((a0.came.length : Int) = 0) then (if 0 ≤ (w64 (a0.at_ + 1)).tmod (a0.came.length : Int) ∧ (w64 (a0.at_ + 1)).tmod (a0.came.length : Int) < (a0.came.length : Int) then some (({ a0 with at_ := (w64 (a0.at_ + 1)).tmod (a0.came.length : Int), came := a0.came.set ((w64 (a0.at_ + 1)).tmod (a0.came.length : Int)).toNat false } : twins_Table)) else none) else none)
theorem twins_Table_raise.calls (H : twins_Table_raise.f a0 = some r) (HS : St [twins_Table.at b0 a0, R] w0 w) : Calls Tryz.prog 296 #[pt b0] w (Ret fun u w => u = Value.tuple #[] ∧ St [twins_Table.at b0 r, R] w0 w) := by
 unfold twins_Table_raise.f at H
 refine calls_enter func296 rfl rfl ?_
 have H : _ = some r := H
 refine go ?_
 obtain ⟨_, c3_1, _, HS⟩ := twins_Table.open HS
 obtain ⟨c3, H⟩ := ite_n H
 apply V.da [14] [] [(2, _), (3, _), (4, _), (5, _), (6, _), (7, _), (8, _), (9, _), (10, _), (11, _), (12, _), (13, _), (14, _), (15, _)] mo HS
 rfl
 refine T.e [13, 15] [] [0, 1, 2, 3, 4, 5, 6, 7, 8, 9, 10, 11, 12, 13] (fun w HS => ?_) ⟨rd, rd, rd, rd, rd, rd, rd, rd, rd, rd, rd, .n2 7 12 rfl rfl rfl (fun w HS => X.rem rfl rfl c3), rds⟩
 refine Y.sr 2 HS rfl rfl rfl fun _ w HS => ?_
 refine T.nn HS ?_
 refine T.ff [0] fun w HS => ?_
 refine go ?_
 obtain ⟨c4, H⟩ := ite_n H
 obtain ⟨eb5, eo6, hh⟩ := (rdC.at 1 row_rd HS rfl).some (by decide) c4.1 c4.2; subst hh
 apply V.da [9] [] [(16, _), (17, _), (18, _), (19, _), (20, _), (21, _), (22, _), (23, _), (24, _)] mo HS
 rfl
 refine T.e [24] [] [0, 1, 2, 3, 4, 5, 6, 7, 8] fun w HS => ?_
 refine ⟨_, Y.storeRowN vb (fun _ => rfl) 1 HS rfl inf4 rfl rfl c4.1 c4.2, ?_⟩
 rintro _ w HS
 refine T.nn HS ?_
 refine T.ff [] fun w HS => ?_
 have HS : Sep.St [blk b0 (#[vb a0.known, Value.int .u32 a0.highest, vi ((w64 (a0.at_ + 1)).tmod (a0.came.length : Int)), vs (some ⟨eb5, eo6, none⟩) (a0.came.set ((w64 (a0.at_ + 1)).tmod (a0.came.length : Int)).toNat false).length c3_1]) 216, row 4 1 (.slice (some ⟨eb5, eo6, none⟩) (a0.came.set ((w64 (a0.at_ + 1)).tmod (a0.came.length : Int)).toNat false).length c3_1) (a0.came.set ((w64 (a0.at_ + 1)).tmod (a0.came.length : Int)).toNat false).length ((a0.came.set ((w64 (a0.at_ + 1)).tmod (a0.came.length : Int)).toNat false).map Value.bool), R] w0 w := by simpa only [List.length_set, List.set_cons_succ, List.set_cons_zero] using HS
 have HS := twins_Table.close tv HS
 exact rt
mutual
def twins_Table_Fresh.l0 : Nat → twins_Table → Int → Int → twins_Table → Option (Bool × twins_Table)
 | 0, _, _, _, _ => none
 | k + 1, a0, a1, x8, x9 => (if x8 < (imin (IntKind.u32.wrap (a1 - a0.highest)) (IntKind.u32.wrap (a0.came.length : Int))) then ((twins_Table_raise.f x9).bind fun t13 => (twins_Table_Fresh.l0 k a0 a1 (IntKind.u32.wrap (x8 + 1)) t13)) else ((twins_Table_first.f ({ x9 with highest := a1 } : twins_Table) 0).bind fun t17 => some t17))
end
def twins_Table_Fresh.f (k : Nat) (a0 : twins_Table) (a1 : Int) : Option (Bool × twins_Table) := (if a0.known = true then (if (IntKind.u32.wrap (a0.highest - a1)) = 0 then some (false, a0) else (if (IntKind.u32.wrap (a1 - a0.highest)) < 2147483648 then (twins_Table_Fresh.l0 k a0 a1 0 a0) else (if (IntKind.u32.wrap (a0.highest - a1)) < (IntKind.u32.wrap (a0.came.length : Int)) then ((twins_Table_first.f a0 (w64 (IntKind.u32.wrap (a0.highest - a1)))).bind fun t20 => some t20) else some (false, a0)))) else ((twins_Table_first.f ({ a0 with known := true, highest := a1 } : twins_Table) 0).bind fun t22 => some t22))
theorem twins_Table_Fresh.calls (H : twins_Table_Fresh.f k a0 a1 = some r) (HS : St [twins_Table.at b0 a0, R] w0 w) : Calls Tryz.prog 273 #[pt b0, Value.int .u32 a1] w (Ret fun u w => u = vb r.1 ∧ St [twins_Table.at b0 r.2, R] w0 w) := by
 refine calls_enter func273 rfl rfl (go ?_)
 obtain ⟨_, _, _, HS⟩ := twins_Table.open HS
 refine go ?_
 refine V.cx H rfl (fun _ H => go ?_) (fun _ H => go ?_)
 ·apply V.da [] [] [(21, _), (22, _), (23, _), (24, _), (25, _), (26, _), (27, _), (28, _), (29, _), (30, _), (31, _), (32, _), (5, _), (6, _)] mo HS
  rfl
  refine T.ff [0, 1, 5, 6] fun w HS => ?_
  refine go ?_
  refine V.cd H rfl (fun _ H => go ?_) (fun _ H => go ?_)
  ·have HS := twins_Table.close tv HS
   exact rt
  ·refine V.cd H rfl (fun _ H => go ?_) (fun _ H => go ?_)
   ·have HS := twins_Table.close tv HS
    refine V.lj (σ := Int × twins_Table) [0, 1, 46] (fun kq (x8, x9) w => St [twins_Table.at b0 x9, R] w0 w ∧ twins_Table_Fresh.l0 kq a0 a1 x8 x9 = some r ∧ kq ≤ k) (fun (x8, x9) => [(47, Value.int .u32 x8)]) (_, _) ⟨HS, H, Nat.le_refl _⟩ ?_
    rintro kq10 ⟨x8, x9⟩ w ⟨HS, H, _⟩
    cases kq10 with
    | zero => exact absurd H (by simp [twins_Table_Fresh.l0])
    | succ kq10 =>
     simp only [twins_Table_Fresh.l0] at H
     refine go ?_
     refine V.cd H rfl (fun _ H => go ?_) (fun _ H => go ?_)
     ·refine W.kl H func296 (fun _ h => twins_Table_raise.calls h HS.j1) ?_
      rintro _ _ w H ⟨rfl, HS⟩
      have HS := HS.o1
      refine go ?_
      exact At.rn (_, _) ⟨HS, H, by omega⟩
     ·obtain ⟨_, _, _, HS⟩ := twins_Table.open HS
      refine go ?_
      refine W.sr 1 HS rfl rfl rfl fun w HS => go ?_
      have HS := twins_Table.close tv HS
      refine W.kl H func295 (fun _ h => twins_Table_first.calls h HS.j1) ?_
      rintro _ _ w H ⟨rfl, HS⟩
      have HS := HS.o1
      refine go ?_
      exact rt
   ·refine W.cd 66 H rfl (fun _ H => go ?_) (fun _ H => go ?_)
    ·have HS := twins_Table.close tv HS
     refine W.kl H func295 (fun _ h => twins_Table_first.calls h HS.j1) ?_
     rintro _ _ w H ⟨rfl, HS⟩
     have HS := HS.o1
     refine go ?_
     exact rt
    ·have HS := twins_Table.close tv HS
     exact rt
 ·refine W.sr 0 HS rfl rfl rfl fun w HS => go ?_
  refine W.sr 1 HS rfl rfl rfl fun w HS => go ?_
  have HS := twins_Table.close tv HS
  refine W.kl H func295 (fun _ h => twins_Table_first.calls h HS.j1) ?_
  rintro _ _ w H ⟨rfl, HS⟩
  have HS := HS.o1
  refine go ?_
  exact rt
mutual
def slices_Index_Sbytebyte.l0 : Nat → (List Int) → Int → Int → Option Int
 | 0, _, _, _ => none
 | k + 1, a0, a1, x1 => (if x1 < (a0.length : Int) then (if 0 ≤ x1 ∧ x1 < (a0.length : Int) then (if a1 = (a0.getD x1.toNat 0) then some x1 else (slices_Index_Sbytebyte.l0 k a0 a1 (w64 (x1 + 1)))) else none) else some (-1))
end
def slices_Index_Sbytebyte.f (k : Nat) (a0 : List Int) (a1 : Int) : Option Int := (slices_Index_Sbytebyte.l0 k a0 a1 0)
theorem slices_Index_Sbytebyte.calls (H : slices_Index_Sbytebyte.f k a0 a1 = some r) (HS : St [R] w0 w) (hr0 : dB R sa0 sc0 a0) : Calls Tryz.prog 312 #[vs sa0 a0.length sc0, Value.int .u8 a1] w (Ret fun u w => u = vi r ∧ St [R] w0 w) := by
 refine calls_enter func312 rfl rfl (go ?_)
 refine V.lj (σ := Int) [0, 1, 7] (fun kq x1 w => St [R] w0 w ∧ slices_Index_Sbytebyte.l0 kq a0 a1 x1 = some r ∧ kq ≤ k) (fun x1 => [(8, vi x1)]) _ ⟨HS, H, Nat.le_refl _⟩ ?_
 rintro kq2 x1 w ⟨HS, H, _⟩
 cases kq2 with
 | zero => exact absurd H (by simp [slices_Index_Sbytebyte.l0])
 | succ kq2 =>
  simp only [slices_Index_Sbytebyte.l0] at H
  refine go ?_
  refine V.cd H rfl (fun _ H => go ?_) (fun _ H => go ?_)
  ·obtain ⟨c5, H⟩ := ite_n H
   obtain ⟨_, _, hh⟩ := (rdC.at 0 hr0 HS rfl).some (by decide) c5.1 c5.2; subst hh
   refine go ?_
   refine W.r (X.load underlying5 rfl rfl ((rdC.at 0 hr0 HS rfl).cellI c5.1 c5.2)) rfl (go ?_)
   refine V.cd H rfl (fun _ H => go ?_) (fun _ H => go ?_)
   ·exact rt
   ·exact At.rn _ ⟨HS, H, by omega⟩
  ·exact rt
mutual
def control_number.l0 : Nat → (List Int) → Int → Int → Option Int
 | 0, _, _, _ => none
 | k + 1, a0, x1, x2 => (if x2 < (a0.length : Int) then (if 0 ≤ x2 ∧ x2 < (a0.length : Int) then (if ¬ (w64 (8 * x2) < 0) then (control_number.l0 k a0 (ior .i64 x1 (w64 ((w64 (a0.getD x2.toNat 0)) * 2 ^ (min (w64 (8 * x2)).toNat IntKind.i64.bits)))) (w64 (x2 + 1))) else none) else none) else some x1)
end
def control_number.f (k : Nat) (a0 : List Int) : Option Int := (control_number.l0 k a0 0 0)
theorem control_number.calls (H : control_number.f k a0 = some r) (HS : St [R] w0 w) (hr0 : dB R sa0 sc0 a0) : Calls Tryz.prog 313 #[vs sa0 a0.length sc0] w (Ret fun u w => u = vi r ∧ St [R] w0 w) := by
 refine calls_enter func313 rfl rfl (go ?_)
 refine V.lj (σ := Int × Int) [6, 7] (fun kq (x1, x2) w => St [R] w0 w ∧ control_number.l0 kq a0 x1 x2 = some r ∧ kq ≤ k) (fun (x1, x2) => [(3, vi x1), (8, vi x2)]) (_, _) ⟨HS, H, Nat.le_refl _⟩ ?_
 rintro kq3 ⟨x1, x2⟩ w ⟨HS, H, _⟩
 cases kq3 with
 | zero => exact absurd H (by simp [control_number.l0])
 | succ kq3 =>
  simp only [control_number.l0] at H
  refine go ?_
  refine V.cd H rfl (fun _ H => go ?_) (fun _ H => go ?_)
  ·obtain ⟨c6, H⟩ := ite_n H
   obtain ⟨_, _, hh⟩ := (rdC.at 0 hr0 HS rfl).some (by decide) c6.1 c6.2; subst hh
   refine go ?_
   refine W.r (X.load underlying5 rfl rfl ((rdC.at 0 hr0 HS rfl).cellI c6.1 c6.2)) rfl (go ?_)
   obtain ⟨c9, H⟩ := ite_n H
   refine W.r (X.shl rfl rfl c9) rfl ?_
   refine W.r (X.or rfl rfl) rfl (go ?_)
   exact At.rn (_, _) ⟨HS, H, by omega⟩
  ·exact rt
end Go.Proofs.YtgkjmdapodgnfaaGreat
