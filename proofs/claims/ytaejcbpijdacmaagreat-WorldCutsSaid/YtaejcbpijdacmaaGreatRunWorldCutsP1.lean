/- WorldCuts: the functions that its law reaches, as plain functions, and that the machine's calls come to what these say. Conditions: those that stand at each. -/
import Derived.Test.YtaejcbpijdacmaaGreatProg
import Derived.Test.YtaejcbpijdacmaaGreatShort
set_option linter.all false
set_option maxRecDepth 100000
set_option maxHeartbeats 4000000
set_option synthInstance.maxSize 100000
set_option synthInstance.maxHeartbeats 1000000
namespace Go.Proofs.YtaejcbpijdacmaaGreat
open Go.RowKit Go.Proofs.YtaejcbpijdacmaaGreat.Sep Go.Proofs.YtaejcbpijdacmaaGreat.Walk Go.Proofs.Tryz
theorem inf3 : (Tryz.prog.info? 3).map (·.size) = some 1 := by kernel_rfl
theorem inf4 : (Tryz.prog.info? 4).map (·.size) = some 1 := by kernel_rfl
theorem inf5 : (Tryz.prog.info? 5).map (·.size) = some 1 := by kernel_rfl
theorem inf23 : (Tryz.prog.info? 23).map (·.size) = some 16 := by kernel_rfl
theorem inf32 : (Tryz.prog.info? 32).map (·.size) = some 1 := by kernel_rfl
theorem inf35 : (Tryz.prog.info? 35).map (·.size) = some 1 := by kernel_rfl
theorem inf39 : (Tryz.prog.info? 39).map (·.size) = some 7 := by kernel_rfl
theorem inf48 : (Tryz.prog.info? 48).map (·.size) = some 1 := by kernel_rfl
theorem inf55 : (Tryz.prog.info? 55).map (·.size) = some 2 := by kernel_rfl
theorem inf76 : (Tryz.prog.info? 76).map (·.size) = some 2 := by kernel_rfl
theorem inf77 : (Tryz.prog.info? 77).map (·.size) = some 1 := by kernel_rfl
theorem inf79 : (Tryz.prog.info? 79).map (·.size) = some 3 := by kernel_rfl
theorem inf80 : (Tryz.prog.info? 80).map (·.size) = some 6 := by kernel_rfl
theorem inf95 : (Tryz.prog.info? 95).map (·.size) = some 1 := by kernel_rfl
theorem inf100 : (Tryz.prog.info? 100).map (·.size) = some 10 := by kernel_rfl
theorem inf101 : (Tryz.prog.info? 101).map (·.size) = some 20 := by kernel_rfl
theorem inf141 : (Tryz.prog.info? 141).map (·.size) = some 1 := by kernel_rfl
theorem inf161 : (Tryz.prog.info? 161).map (·.size) = some 4 := by kernel_rfl
theorem inf251 : (Tryz.prog.info? 251).map (·.size) = some 32 := by kernel_rfl
theorem inf254 : (Tryz.prog.info? 254).map (·.size) = some 1 := by kernel_rfl
theorem inf256 : (Tryz.prog.info? 256).map (·.size) = some 4 := by kernel_rfl
theorem fo23_0 : fieldOff Tryz.prog 23 0 = some 0 := by kernel_rfl
theorem fo23_1 : fieldOff Tryz.prog 23 1 = some 1 := by kernel_rfl
theorem fo23_2 : fieldOff Tryz.prog 23 2 = some 2 := by kernel_rfl
theorem fo23_3 : fieldOff Tryz.prog 23 3 = some 3 := by kernel_rfl
theorem fo23_4 : fieldOff Tryz.prog 23 4 = some 4 := by kernel_rfl
theorem fo23_5 : fieldOff Tryz.prog 23 5 = some 5 := by kernel_rfl
theorem fo23_6 : fieldOff Tryz.prog 23 6 = some 6 := by kernel_rfl
theorem fo23_7 : fieldOff Tryz.prog 23 7 = some 7 := by kernel_rfl
theorem fo23_8 : fieldOff Tryz.prog 23 8 = some 8 := by kernel_rfl
theorem fo23_9 : fieldOff Tryz.prog 23 9 = some 9 := by kernel_rfl
theorem fo23_10 : fieldOff Tryz.prog 23 10 = some 10 := by kernel_rfl
theorem fo23_11 : fieldOff Tryz.prog 23 11 = some 11 := by kernel_rfl
theorem fo23_12 : fieldOff Tryz.prog 23 12 = some 12 := by kernel_rfl
theorem fo23_13 : fieldOff Tryz.prog 23 13 = some 13 := by kernel_rfl
theorem fo23_14 : fieldOff Tryz.prog 23 14 = some 14 := by kernel_rfl
theorem fo23_15 : fieldOff Tryz.prog 23 15 = some 15 := by kernel_rfl
theorem fo39_1 : fieldOff Tryz.prog 39 1 = some 1 := by kernel_rfl
theorem fo39_2 : fieldOff Tryz.prog 39 2 = some 2 := by kernel_rfl
theorem fo39_3 : fieldOff Tryz.prog 39 3 = some 4 := by kernel_rfl
theorem fo39_4 : fieldOff Tryz.prog 39 4 = some 5 := by kernel_rfl
theorem fo39_5 : fieldOff Tryz.prog 39 5 = some 6 := by kernel_rfl
theorem fo73_0 : fieldOff Tryz.prog 73 0 = some 0 := by kernel_rfl
theorem fo73_1 : fieldOff Tryz.prog 73 1 = some 1 := by kernel_rfl
theorem fo73_2 : fieldOff Tryz.prog 73 2 = some 2 := by kernel_rfl
theorem fo73_3 : fieldOff Tryz.prog 73 3 = some 3 := by kernel_rfl
theorem fo73_4 : fieldOff Tryz.prog 73 4 = some 4 := by kernel_rfl
theorem fo73_6 : fieldOff Tryz.prog 73 6 = some 6 := by kernel_rfl
theorem fo79_0 : fieldOff Tryz.prog 79 0 = some 0 := by kernel_rfl
theorem fo79_1 : fieldOff Tryz.prog 79 1 = some 1 := by kernel_rfl
theorem fo79_2 : fieldOff Tryz.prog 79 2 = some 2 := by kernel_rfl
theorem fo83_0 : fieldOff Tryz.prog 83 0 = some 0 := by kernel_rfl
theorem fo83_1 : fieldOff Tryz.prog 83 1 = some 16 := by kernel_rfl
theorem fo83_2 : fieldOff Tryz.prog 83 2 = some 18 := by kernel_rfl
theorem fo83_3 : fieldOff Tryz.prog 83 3 = some 30 := by kernel_rfl
theorem fo100_0 : fieldOff Tryz.prog 100 0 = some 0 := by kernel_rfl
theorem fo100_1 : fieldOff Tryz.prog 100 1 = some 1 := by kernel_rfl
theorem fo100_2 : fieldOff Tryz.prog 100 2 = some 2 := by kernel_rfl
theorem fo100_3 : fieldOff Tryz.prog 100 3 = some 3 := by kernel_rfl
theorem fo103_0 : fieldOff Tryz.prog 103 0 = some 0 := by kernel_rfl
theorem fo103_1 : fieldOff Tryz.prog 103 1 = some 16 := by kernel_rfl
theorem fo103_2 : fieldOff Tryz.prog 103 2 = some 17 := by kernel_rfl
theorem fo103_3 : fieldOff Tryz.prog 103 3 = some 18 := by kernel_rfl
theorem fo103_4 : fieldOff Tryz.prog 103 4 = some 19 := by kernel_rfl
theorem fo103_5 : fieldOff Tryz.prog 103 5 = some 20 := by kernel_rfl
theorem fo103_6 : fieldOff Tryz.prog 103 6 = some 21 := by kernel_rfl
theorem fo103_7 : fieldOff Tryz.prog 103 7 = some 22 := by kernel_rfl
theorem fo151_0 : fieldOff Tryz.prog 151 0 = some 0 := by kernel_rfl
theorem fo151_1 : fieldOff Tryz.prog 151 1 = some 1 := by kernel_rfl
theorem fo151_2 : fieldOff Tryz.prog 151 2 = some 2 := by kernel_rfl
theorem fo151_3 : fieldOff Tryz.prog 151 3 = some 3 := by kernel_rfl
theorem fo158_0 : fieldOff Tryz.prog 158 0 = some 0 := by kernel_rfl
theorem fo158_1 : fieldOff Tryz.prog 158 1 = some 1 := by kernel_rfl
theorem fo158_2 : fieldOff Tryz.prog 158 2 = some 2 := by kernel_rfl
theorem fo158_3 : fieldOff Tryz.prog 158 3 = some 3 := by kernel_rfl
theorem fo158_4 : fieldOff Tryz.prog 158 4 = some 4 := by kernel_rfl
theorem fo158_5 : fieldOff Tryz.prog 158 5 = some 5 := by kernel_rfl
theorem fo158_6 : fieldOff Tryz.prog 158 6 = some 6 := by kernel_rfl
theorem fo158_7 : fieldOff Tryz.prog 158 7 = some 7 := by kernel_rfl
theorem fo158_8 : fieldOff Tryz.prog 158 8 = some 8 := by kernel_rfl
theorem fo158_9 : fieldOff Tryz.prog 158 9 = some 9 := by kernel_rfl
theorem fo158_10 : fieldOff Tryz.prog 158 10 = some 10 := by kernel_rfl
theorem fo158_11 : fieldOff Tryz.prog 158 11 = some 11 := by kernel_rfl
theorem fo158_12 : fieldOff Tryz.prog 158 12 = some 12 := by kernel_rfl
theorem fo158_13 : fieldOff Tryz.prog 158 13 = some 13 := by kernel_rfl
theorem fo158_14 : fieldOff Tryz.prog 158 14 = some 14 := by kernel_rfl
theorem fo158_15 : fieldOff Tryz.prog 158 15 = some 15 := by kernel_rfl
theorem fo161_0 : fieldOff Tryz.prog 161 0 = some 0 := by kernel_rfl
theorem fo161_1 : fieldOff Tryz.prog 161 1 = some 1 := by kernel_rfl
theorem fo161_2 : fieldOff Tryz.prog 161 2 = some 2 := by kernel_rfl
theorem fo161_3 : fieldOff Tryz.prog 161 3 = some 3 := by kernel_rfl
theorem fo168_0 : fieldOff Tryz.prog 168 0 = some 0 := by kernel_rfl
theorem fo168_1 : fieldOff Tryz.prog 168 1 = some 1 := by kernel_rfl
theorem fo168_2 : fieldOff Tryz.prog 168 2 = some 2 := by kernel_rfl
theorem fo168_3 : fieldOff Tryz.prog 168 3 = some 3 := by kernel_rfl
theorem fo168_4 : fieldOff Tryz.prog 168 4 = some 4 := by kernel_rfl
theorem fo168_5 : fieldOff Tryz.prog 168 5 = some 5 := by kernel_rfl
theorem fo168_6 : fieldOff Tryz.prog 168 6 = some 6 := by kernel_rfl
theorem fo168_7 : fieldOff Tryz.prog 168 7 = some 7 := by kernel_rfl
theorem fo168_8 : fieldOff Tryz.prog 168 8 = some 8 := by kernel_rfl
theorem fo171_0 : fieldOff Tryz.prog 171 0 = some 0 := by kernel_rfl
theorem fo171_1 : fieldOff Tryz.prog 171 1 = some 1 := by kernel_rfl
theorem fo171_2 : fieldOff Tryz.prog 171 2 = some 2 := by kernel_rfl
theorem fo171_3 : fieldOff Tryz.prog 171 3 = some 3 := by kernel_rfl
theorem fo171_4 : fieldOff Tryz.prog 171 4 = some 4 := by kernel_rfl
theorem fo171_5 : fieldOff Tryz.prog 171 5 = some 5 := by kernel_rfl
theorem fo171_6 : fieldOff Tryz.prog 171 6 = some 6 := by kernel_rfl
theorem fo195_0 : fieldOff Tryz.prog 195 0 = some 0 := by kernel_rfl
theorem fo195_1 : fieldOff Tryz.prog 195 1 = some 1 := by kernel_rfl
theorem fo195_2 : fieldOff Tryz.prog 195 2 = some 2 := by kernel_rfl
theorem fo195_3 : fieldOff Tryz.prog 195 3 = some 3 := by kernel_rfl
theorem fo195_4 : fieldOff Tryz.prog 195 4 = some 4 := by kernel_rfl
theorem fo200_0 : fieldOff Tryz.prog 200 0 = some 0 := by kernel_rfl
theorem fo200_1 : fieldOff Tryz.prog 200 1 = some 1 := by kernel_rfl
theorem fo200_2 : fieldOff Tryz.prog 200 2 = some 2 := by kernel_rfl
theorem fo200_3 : fieldOff Tryz.prog 200 3 = some 3 := by kernel_rfl
theorem fo202_0 : fieldOff Tryz.prog 202 0 = some 0 := by kernel_rfl
theorem fo202_1 : fieldOff Tryz.prog 202 1 = some 1 := by kernel_rfl
theorem fo202_2 : fieldOff Tryz.prog 202 2 = some 2 := by kernel_rfl
theorem fo202_3 : fieldOff Tryz.prog 202 3 = some 3 := by kernel_rfl
theorem fo239_0 : fieldOff Tryz.prog 239 0 = some 0 := by kernel_rfl
theorem fo239_1 : fieldOff Tryz.prog 239 1 = some 1 := by kernel_rfl
theorem fo239_3 : fieldOff Tryz.prog 239 3 = some 3 := by kernel_rfl
theorem fo239_4 : fieldOff Tryz.prog 239 4 = some 4 := by kernel_rfl
theorem fo239_5 : fieldOff Tryz.prog 239 5 = some 5 := by kernel_rfl
theorem fo248_0 : fieldOff Tryz.prog 248 0 = some 0 := by kernel_rfl
theorem fo248_1 : fieldOff Tryz.prog 248 1 = some 1 := by kernel_rfl
theorem fo248_2 : fieldOff Tryz.prog 248 2 = some 2 := by kernel_rfl
theorem fo248_3 : fieldOff Tryz.prog 248 3 = some 3 := by kernel_rfl
theorem fo248_4 : fieldOff Tryz.prog 248 4 = some 4 := by kernel_rfl
theorem fo253_0 : fieldOff Tryz.prog 253 0 = some 0 := by kernel_rfl
theorem fo253_1 : fieldOff Tryz.prog 253 1 = some 1 := by kernel_rfl
theorem fo256_0 : fieldOff Tryz.prog 256 0 = some 0 := by kernel_rfl
theorem fo256_1 : fieldOff Tryz.prog 256 1 = some 1 := by kernel_rfl
theorem fo256_2 : fieldOff Tryz.prog 256 2 = some 2 := by kernel_rfl
theorem fo256_3 : fieldOff Tryz.prog 256 3 = some 3 := by kernel_rfl
theorem ap3 : (Tryz.prog.info? 3).map (fun i => (i.zero, i.size, i.bytes)) = some (some (.int .i64 0), 1, 8) := by kernel_rfl
theorem ap4 : (Tryz.prog.info? 4).map (fun i => (i.zero, i.size, i.bytes)) = some (some (.bool false), 1, 1) := by kernel_rfl
theorem ap5 : (Tryz.prog.info? 5).map (fun i => (i.zero, i.size, i.bytes)) = some (some (.int .u8 0), 1, 1) := by kernel_rfl
theorem ap48 : (Tryz.prog.info? 48).map (fun i => (i.zero, i.size, i.bytes)) = some (some (.slice none 0 0), 1, 24) := by kernel_rfl
theorem ze23 : (Tryz.prog.info? 23).bind (·.zero) = some (Value.agg (#[vi (0), vi (0), vi (0), vi (0), vi (0), vi (0), vi (0), vi (0), vi (0), vi (0), vi (0), vi (0), vi (0), vi (0), vb false, vb false])) := by kernel_rfl
theorem ze39 : (Tryz.prog.info? 39).bind (·.zero) = some (Value.agg (#[vi (0), vi (0), vi (0), vi (0), vi (0), vi (0), vi (0)])) := by kernel_rfl
theorem ze48 : (Tryz.prog.info? 48).bind (·.zero) = some (vs none 0 0) := by kernel_rfl
theorem ze55 : (Tryz.prog.info? 55).bind (·.zero) = some (Value.agg (#[vs none 0 0, vs none 0 0])) := by kernel_rfl
theorem ze100 : (Tryz.prog.info? 100).bind (·.zero) = some (Value.agg (#[Value.pointer none, Value.pointer none, Value.pointer none, vi (0), vi (0), vi (0), vi (0), vi (0), vi (0), vi (0)])) := by kernel_rfl
theorem ze161 : (Tryz.prog.info? 161).bind (·.zero) = some (Value.agg (#[vi (0), vi (0), vi (0), vb false])) := by kernel_rfl
theorem mo : Tryz.prog.follows .mixedOrders = true := by kernel_rfl
structure api_Config where
 Mode : Int
 Modulus : Int
 Window : Int
 T1 : Int
 N2 : Int
 Hold : Int
 Wait : Int
 Keep : Int
 Queue : Int
 Size : Int
 Ring : Int
 Rate : Int
 Bad : Int
 Good : Int
 Revert : Bool
 Wide : Bool
deriving DecidableEq, Inhabited
def api_Config.at (b : Nat) (x : api_Config) : As := fun h => True ∧ Sp [blk b (#[vi x.Mode, vi x.Modulus, vi x.Window, vi x.T1, vi x.N2, vi x.Hold, vi x.Wait, vi x.Keep, vi x.Queue, vi x.Size, vi x.Ring, vi x.Rate, vi x.Bad, vi x.Good, vb x.Revert, vb x.Wide]) 23] h
theorem api_Config.open {b : Nat} {x : api_Config} {L : List As} {w0 w : World} (hs : Sep.St (api_Config.at b x :: L) w0 w) : True ∧ Sep.St (blk b (#[vi x.Mode, vi x.Modulus, vi x.Window, vi x.T1, vi x.N2, vi x.Hold, vi x.Wait, vi x.Keep, vi x.Queue, vi x.Size, vi x.Ring, vi x.Rate, vi x.Bad, vi x.Good, vb x.Revert, vb x.Wide]) 23 :: L) w0 w := by
 obtain ⟨ho, ht, hu, h, hon, h1, h2, hd, e1, e2, ⟨hi, hA⟩, hl⟩ := hs
 exact ⟨hi, St.open (m := [blk b (#[vi x.Mode, vi x.Modulus, vi x.Window, vi x.T1, vi x.N2, vi x.Hold, vi x.Wait, vi x.Keep, vi x.Queue, vi x.Size, vi x.Ring, vi x.Rate, vi x.Bad, vi x.Good, vb x.Revert, vb x.Wide]) 23]) ⟨ho, ht, hu, h, hon, h1, h2, hd, e1, e2, hA, hl⟩⟩
theorem api_Config.close {b : Nat} {l0 : Int} {l1 : Int} {l2 : Int} {l3 : Int} {l4 : Int} {l5 : Int} {l6 : Int} {l7 : Int} {l8 : Int} {l9 : Int} {l10 : Int} {l11 : Int} {l12 : Int} {l13 : Int} {l14 : Bool} {l15 : Bool}  {L : List As} {w0 w : World} (hi : True) (hs : Sep.St (blk b (#[vi l0, vi l1, vi l2, vi l3, vi l4, vi l5, vi l6, vi l7, vi l8, vi l9, vi l10, vi l11, vi l12, vi l13, vb l14, vb l15]) 23 :: L) w0 w) : Sep.St (api_Config.at b ({ Mode := l0, Modulus := l1, Window := l2, T1 := l3, N2 := l4, Hold := l5, Wait := l6, Keep := l7, Queue := l8, Size := l9, Ring := l10, Rate := l11, Bad := l12, Good := l13, Revert := l14, Wide := l15 } : api_Config) :: L) w0 w := by
 have h2 := St.join (m := [blk b (#[vi l0, vi l1, vi l2, vi l3, vi l4, vi l5, vi l6, vi l7, vi l8, vi l9, vi l10, vi l11, vi l12, vi l13, vb l14, vb l15]) 23]) hs
 exact h2.mono fun h hh => ⟨hi, hh⟩
def signalmanlaw20_Good.f (a0 : Int) (a1 : Int) (a2 : Int) (a3 : Bool) (a4 : Bool) : Option api_Config := some (({ Mode := iand .i64 a0 (1), Modulus := 128, Window := w64 (1 + (iand .i64 a1 (15))), T1 := 60, N2 := 20, Hold := 2, Wait := 15, Keep := 32, Queue := 20, Size := 20, Ring := 800, Rate := w64 (1 + (iand .i64 a2 (63))), Bad := 3, Good := 2, Revert := a3, Wide := a4 } : api_Config))
theorem signalmanlaw20_Good.calls {a0 : Int} {a1 : Int} {a2 : Int} {a3 : Bool} {a4 : Bool} {R : As} {w0 w : World}  {r : api_Config} (H : signalmanlaw20_Good.f a0 a1 a2 a3 a4 = some r) (HS : Sep.St [R] w0 w)  : Calls Tryz.prog 24 #[vi a0, vi a1, vi a2, vb a3, vb a4] w (Ret fun u w => u = Value.agg #[vi r.Mode, vi r.Modulus, vi r.Window, vi r.T1, vi r.N2, vi r.Hold, vi r.Wait, vi r.Keep, vi r.Queue, vi r.Size, vi r.Ring, vi r.Rate, vi r.Bad, vi r.Good, vb r.Revert, vb r.Wide] ∧ Sep.St [R] w0 w) := by
 unfold signalmanlaw20_Good.f at H
 refine calls_enter func24 rfl rfl ?_
 have H : _ = some r := H
 refine V.seq (V.region (W.e (Y.alloc (z := Value.agg (#[vi (0), vi (0), vi (0), vi (0), vi (0), vi (0), vi (0), vi (0), vi (0), vi (0), vi (0), vi (0), vi (0), vi (0), vb false, vb false])) HS ze23) rfl ?_))
 rintro _ w ⟨nb1, rfl, HS⟩
 refine W.nx (V.seq (V.region (W.mv rfl (W.r (X.and rfl rfl) rfl (W.mv rfl (W.r (X.and rfl rfl) rfl (W.r (X.add rfl rfl) rfl (W.mv rfl (W.r (X.and rfl rfl) rfl (W.r (X.add rfl rfl) rfl (W.mv rfl (W.mv rfl (W.r (X.bd (Value.agg #[vi (iand .i64 a0 (1)), vi (128), vi (w64 (1 + (iand .i64 a1 (15)))), vi (60), vi (20), vi (2), vi (15), vi (32), vi (20), vi (20), vi (800), vi (w64 (1 + (iand .i64 a2 (63)))), vi (3), vi (2), vb a3, vb a4]) rfl (fun _ => by kernel_rfl)) rfl (W.e (Y.alloc (z := Value.agg (#[vi (0), vi (0), vi (0), vi (0), vi (0), vi (0), vi (0), vi (0), vi (0), vi (0), vi (0), vi (0), vi (0), vi (0), vb false, vb false])) HS ze23) rfl ?_))))))))))))))
 rintro _ w ⟨nb2, rfl, HS⟩
 refine W.en (Y.storeSt (c' := #[vi (iand .i64 a0 (1)), vi (128), vi (w64 (1 + (iand .i64 a1 (15)))), vi (60), vi (20), vi (2), vi (15), vi (32), vi (20), vi (20), vi (800), vi (w64 (1 + (iand .i64 a2 (63)))), vi (3), vi (2), vb a3, vb a4]) 0 [vi (iand .i64 a0 (1)), vi (128), vi (w64 (1 + (iand .i64 a1 (15)))), vi (60), vi (20), vi (2), vi (15), vi (32), vi (20), vi (20), vi (800), vi (w64 (1 + (iand .i64 a2 (63)))), vi (3), vi (2), vb a3, vb a4] HS rfl inf23 rfl rfl rfl rfl rfl rfl) rfl ?_
 rintro _ w HS
 refine W.nx (V.seq (V.region (W.r (X.loadSt 0 [vi (iand .i64 a0 (1)), vi (128), vi (w64 (1 + (iand .i64 a1 (15)))), vi (60), vi (20), vi (2), vi (15), vi (32), vi (20), vi (20), vi (800), vi (w64 (1 + (iand .i64 a2 (63)))), vi (3), vi (2), vb a3, vb a4] HS rfl underlying23 rfl inf23 rfl rfl) rfl (W.en (Y.storeSt (c' := #[vi (iand .i64 a0 (1)), vi (128), vi (w64 (1 + (iand .i64 a1 (15)))), vi (60), vi (20), vi (2), vi (15), vi (32), vi (20), vi (20), vi (800), vi (w64 (1 + (iand .i64 a2 (63)))), vi (3), vi (2), vb a3, vb a4]) 1 [vi (iand .i64 a0 (1)), vi (128), vi (w64 (1 + (iand .i64 a1 (15)))), vi (60), vi (20), vi (2), vi (15), vi (32), vi (20), vi (20), vi (800), vi (w64 (1 + (iand .i64 a2 (63)))), vi (3), vi (2), vb a3, vb a4] HS rfl inf23 rfl rfl rfl rfl rfl rfl) rfl ?_))))
 rintro _ w HS
 refine W.nx (V.ret ?_)
 have hv3 := run_loadSt (P := Tryz.prog) (p := 0) 1 [vi (iand .i64 a0 (1)), vi (128), vi (w64 (1 + (iand .i64 a1 (15)))), vi (60), vi (20), vi (2), vi (15), vi (32), vi (20), vi (20), vi (800), vi (w64 (1 + (iand .i64 a2 (63)))), vi (3), vi (2), vb a3, vb a4] HS rfl underlying23 rfl inf23 rfl
 replace HS := HS.pk [2] [0, 1]
 cases H
 exact At.retv1 rfl ⟨_, rfl, hv3⟩ ⟨_, rfl, rfl, HS⟩
def shape_within.f (a0 : Int) (a1 : Int) (a2 : Int) : Option Bool := (if a0 ≥ a1 then some (decide (a0 ≤ a2)) else some false)
theorem shape_within.calls {a0 : Int} {a1 : Int} {a2 : Int} {R : As} {w0 w : World}  {r : Bool} (H : shape_within.f a0 a1 a2 = some r) (HS : Sep.St [R] w0 w)  : Calls Tryz.prog 163 #[vi a0, vi a1, vi a2] w (Ret fun u w => u = vb r ∧ Sep.St [R] w0 w) := by
 unfold shape_within.f at H
 refine calls_enter func163 rfl rfl ?_
 have H : _ = some r := H
 refine V.seq (V.region (W.as rfl (W.nx (V.seq (V.region (W.mv rfl (W.mv rfl (W.r (X.cmp (decide (a0 ≥ a1)) rfl rfl rfl rfl) rfl (W.mv rfl ?_)))))))))
 by_cases c1 : a0 ≥ a1
 ·replace H := ite_t c1 H
  refine W.want 10 rfl (sb (dT c1)) (W.mv rfl (W.want 10 rfl (sb (dT c1)) (W.mv rfl (W.want 10 rfl (sb (dT c1)) (W.r (X.cmp (decide (a0 ≤ a2)) rfl rfl rfl rfl) rfl (W.r (X.pickT (sb (dT c1)) rfl) rfl (W.as rfl (W.nx (V.ret ?_)))))))))
  cases H
  exact At.ret1 rfl rfl ⟨_, rfl, rfl, HS⟩
 ·replace H := ite_f c1 H
  refine W.pass 10 rfl (sb (dF c1)) rfl rfl (W.pass 10 rfl (sb (dF c1)) rfl rfl (W.pass 10 rfl (sb (dF c1)) rfl rfl (W.r (X.pickF (sb (dF c1)) rfl) rfl (W.as rfl (W.nx (V.ret ?_))))))
  cases H
  exact At.ret1 rfl rfl ⟨_, rfl, rfl, HS⟩
def shape_Most.f (a0 : api_Config) : Option Int := some (w64 ((w64 (2 * (w64 ((imax (1) (imin a0.Size (1000))) + 16)))) + 2))
theorem shape_Most.calls {a0 : api_Config} {R : As} {w0 w : World}  {r : Int} (H : shape_Most.f a0 = some r) (HS : Sep.St [R] w0 w)  : Calls Tryz.prog 164 #[Value.agg #[vi a0.Mode, vi a0.Modulus, vi a0.Window, vi a0.T1, vi a0.N2, vi a0.Hold, vi a0.Wait, vi a0.Keep, vi a0.Queue, vi a0.Size, vi a0.Ring, vi a0.Rate, vi a0.Bad, vi a0.Good, vb a0.Revert, vb a0.Wide]] w (Ret fun u w => u = vi r ∧ Sep.St [R] w0 w) := by
 unfold shape_Most.f at H
 refine calls_enter func164 rfl rfl ?_
 have H : _ = some r := H
 refine V.seq (V.region (W.e (Y.box HS rfl) rfl ?_))
 rintro _ w ⟨nb1, rfl, HS⟩
 refine W.as rfl (W.nx (V.seq (V.region (W.fa fo23_9 rfl (W.ld 0 HS underlying3 rfl rfl rfl rfl (W.r (X.min2 rfl rfl) rfl (W.r (X.max2 rfl rfl) rfl (W.r (X.add rfl rfl) rfl (W.r (X.mul rfl rfl) rfl (W.r (X.add rfl rfl) rfl (W.as rfl (W.nx (V.ret ?_)))))))))))))
 replace HS := HS.pk [1] [0]
 cases H
 exact At.ret1 rfl rfl ⟨_, rfl, rfl, HS⟩
mutual
def shape_Check.j4  (x11 : Bool) : Option Int := (if x11 = true then some (0) else some (1))
def shape_Check.j3 (a0 : api_Config) (x3 : Bool) (x5 : Bool) (x7 : Bool) (x9 : Bool) : Option Int := (if x3 = true then (if x5 = true then (if x7 = true then (if x9 = true then (shape_Check.j4 (decide ((w64 (a0.Keep * a0.Rate)) ≥ 32))) else (shape_Check.j4 false)) else (shape_Check.j4 false)) else (shape_Check.j4 false)) else (shape_Check.j4 false))
def shape_Check.j2 (a0 : api_Config) (x3 : Bool) (x5 : Bool) (x7 : Bool) : Option Int := ((shape_within.f a0.Bad 1 16).bind fun t22 => (if t22 = true then ((shape_within.f a0.Good 1 16).bind fun t25 => (shape_Check.j3 a0 x3 x5 x7 t25)) else (shape_Check.j3 a0 x3 x5 x7 false)))
def shape_Check.j1 (a0 : api_Config) (x3 : Bool) (x5 : Bool) : Option Int := ((shape_within.f a0.Window 1 (w64 (a0.Modulus.tdiv (8)))).bind fun t29 => (if t29 = true then ((shape_within.f a0.Queue 0 1000).bind fun t32 => (if t32 = true then ((shape_within.f a0.Size 1 1000).bind fun t35 => (if t35 = true then ((shape_within.f a0.Rate 1 4096).bind fun t38 => (if t38 = true then ((shape_Most.f a0).bind fun t41 => ((shape_within.f a0.Ring t41 1048576).bind fun t43 => (shape_Check.j2 a0 x3 x5 t43))) else (shape_Check.j2 a0 x3 x5 false))) else (shape_Check.j2 a0 x3 x5 false))) else (shape_Check.j2 a0 x3 x5 false))) else (shape_Check.j2 a0 x3 x5 false)))
def shape_Check.j0 (a0 : api_Config) (x3 : Bool) : Option Int := ((shape_within.f a0.T1 1 1048576).bind fun t47 => (if t47 = true then ((shape_within.f a0.N2 1 100).bind fun t50 => (if t50 = true then ((shape_within.f a0.Hold 0 1048576).bind fun t53 => (if t53 = true then ((shape_within.f a0.Wait 1 1048576).bind fun t56 => (if t56 = true then ((shape_within.f a0.Keep 1 65536).bind fun t59 => (shape_Check.j1 a0 x3 t59)) else (shape_Check.j1 a0 x3 false))) else (shape_Check.j1 a0 x3 false))) else (shape_Check.j1 a0 x3 false))) else (shape_Check.j1 a0 x3 false)))
end
def shape_Check.f (a0 : api_Config) : Option Int := (if a0.Mode = 0 then (if a0.Modulus = 128 then (shape_Check.j0 a0 true) else (shape_Check.j0 a0 (decide (a0.Modulus = 32768)))) else (if a0.Mode = 1 then (if a0.Modulus = 128 then (shape_Check.j0 a0 true) else (shape_Check.j0 a0 (decide (a0.Modulus = 32768)))) else (shape_Check.j0 a0 false)))
theorem shape_Check.calls {a0 : api_Config} {R : As} {w0 w : World}  {r : Int} (H : shape_Check.f a0 = some r) (HS : Sep.St [R] w0 w)  : Calls Tryz.prog 101 #[Value.agg #[vi a0.Mode, vi a0.Modulus, vi a0.Window, vi a0.T1, vi a0.N2, vi a0.Hold, vi a0.Wait, vi a0.Keep, vi a0.Queue, vi a0.Size, vi a0.Ring, vi a0.Rate, vi a0.Bad, vi a0.Good, vb a0.Revert, vb a0.Wide]] w (Ret fun u w => u = vi r ∧ Sep.St [R] w0 w) := by
 unfold shape_Check.f at H
 refine calls_enter func101 rfl rfl ?_
 have H : _ = some r := H
 refine V.seq (V.region (W.e (Y.box HS rfl) rfl ?_))
 rintro _ w ⟨nb1, rfl, HS⟩
 refine W.as rfl (W.nx (V.meet (σ := Bool) (fun st w => match st with | x3 => Sep.St [api_Config.at nb1 a0, R] w0 w ∧ shape_Check.j0 a0 x3 = some r) (fun st => match st with | x3 => [(1, pt nb1), (3, vb x3)]) ?_ ?_))
 ·refine V.region (W.fa fo23_0 rfl (W.ld 0 HS underlying3 rfl rfl rfl rfl (W.r (X.cmp (decide (a0.Mode = 0)) rfl rfl rfl rfl) rfl (W.mv rfl ?_))))
  by_cases c61 : a0.Mode = 0
  ·replace H := ite_t c61 H
   refine W.pass 10 rfl (sb (dT c61)) rfl rfl (W.pass 10 rfl (sb (dT c61)) rfl rfl (W.pass 10 rfl (sb (dT c61)) rfl rfl (W.r (X.pickT (sb (dT c61)) rfl) rfl (W.mv rfl (W.want 15 rfl rfl (W.fa fo23_1 rfl (W.want 15 rfl rfl (W.ld 0 HS underlying3 rfl rfl rfl rfl (W.want 15 rfl rfl (W.r (X.cmp (decide (a0.Modulus = 128)) rfl rfl rfl rfl) rfl (W.want 15 rfl rfl (W.mv rfl ?_))))))))))))
   by_cases c62 : a0.Modulus = 128
   ·replace H := ite_t c62 H
    refine W.pass 19 rfl (sb (dT c62)) rfl rfl (W.pass 19 rfl (sb (dT c62)) rfl rfl (W.pass 19 rfl (sb (dT c62)) rfl rfl (W.want 15 rfl rfl (W.r (X.pickT (sb (dT c62)) rfl) rfl (W.r (X.pickT rfl rfl) rfl (W.as rfl (W.nil ?_)))))))
    replace HS := api_Config.close tv HS
    exact At.meet true ⟨rfl, rfl, tv⟩ ⟨HS, H⟩
   ·replace H := ite_f c62 H
    refine W.want 19 rfl (sb (dF c62)) (W.fa fo23_1 rfl (W.want 19 rfl (sb (dF c62)) (W.ld 0 HS underlying3 rfl rfl rfl rfl (W.want 19 rfl (sb (dF c62)) (W.r (X.cmp (decide (a0.Modulus = 32768)) rfl rfl rfl rfl) rfl (W.want 15 rfl rfl (W.r (X.pickF (sb (dF c62)) rfl) rfl (W.r (X.pickT rfl rfl) rfl (W.as rfl (W.nil ?_))))))))))
    replace HS := api_Config.close tv HS
    exact At.meet (decide (a0.Modulus = 32768)) ⟨rfl, rfl, tv⟩ ⟨HS, H⟩
  ·replace H := ite_f c61 H
   refine W.want 10 rfl (sb (dF c61)) (W.fa fo23_0 rfl (W.want 10 rfl (sb (dF c61)) (W.ld 0 HS underlying3 rfl rfl rfl rfl (W.want 10 rfl (sb (dF c61)) (W.r (X.cmp (decide (a0.Mode = 1)) rfl rfl rfl rfl) rfl (W.r (X.pickF (sb (dF c61)) rfl) rfl (W.mv rfl ?_)))))))
   by_cases c63 : a0.Mode = 1
   ·replace H := ite_t c63 H
    refine W.want 15 rfl (sb (dT c63)) (W.fa fo23_1 rfl (W.want 15 rfl (sb (dT c63)) (W.ld 0 HS underlying3 rfl rfl rfl rfl (W.want 15 rfl (sb (dT c63)) (W.r (X.cmp (decide (a0.Modulus = 128)) rfl rfl rfl rfl) rfl (W.want 15 rfl (sb (dT c63)) (W.mv rfl ?_)))))))
    by_cases c64 : a0.Modulus = 128
    ·replace H := ite_t c64 H
     refine W.pass 19 rfl (sb (dT c64)) rfl rfl (W.pass 19 rfl (sb (dT c64)) rfl rfl (W.pass 19 rfl (sb (dT c64)) rfl rfl (W.want 15 rfl (sb (dT c63)) (W.r (X.pickT (sb (dT c64)) rfl) rfl (W.r (X.pickT (sb (dT c63)) rfl) rfl (W.as rfl (W.nil ?_)))))))
     replace HS := api_Config.close tv HS
     exact At.meet true ⟨rfl, rfl, tv⟩ ⟨HS, H⟩
    ·replace H := ite_f c64 H
     refine W.want 19 rfl (sb (dF c64)) (W.fa fo23_1 rfl (W.want 19 rfl (sb (dF c64)) (W.ld 0 HS underlying3 rfl rfl rfl rfl (W.want 19 rfl (sb (dF c64)) (W.r (X.cmp (decide (a0.Modulus = 32768)) rfl rfl rfl rfl) rfl (W.want 15 rfl (sb (dT c63)) (W.r (X.pickF (sb (dF c64)) rfl) rfl (W.r (X.pickT (sb (dT c63)) rfl) rfl (W.as rfl (W.nil ?_))))))))))
     replace HS := api_Config.close tv HS
     exact At.meet (decide (a0.Modulus = 32768)) ⟨rfl, rfl, tv⟩ ⟨HS, H⟩
   ·replace H := ite_f c63 H
    refine W.pass 15 rfl (sb (dF c63)) rfl rfl (W.pass 15 rfl (sb (dF c63)) rfl rfl (W.pass 15 rfl (sb (dF c63)) rfl rfl (W.pass 15 rfl (sb (dF c63)) rfl rfl (W.passU 19 rfl rfl rfl (W.passU 19 rfl rfl rfl (W.passU 19 rfl rfl rfl (W.pass 15 rfl (sb (dF c63)) rfl rfl (W.r (X.pickF (sb (dF c63)) rfl) rfl (W.as rfl (W.nil ?_))))))))))
    replace HS := api_Config.close tv HS
    exact At.meet false ⟨rfl, rfl, tv⟩ ⟨HS, H⟩
 ·rintro x3 w ⟨HS, H⟩
  unfold shape_Check.j0 at H
  refine V.meet (σ := Bool) (fun st w => match st with | x5 => Sep.St [api_Config.at nb1 a0, R] w0 w ∧ shape_Check.j1 a0 x3 x5 = some r) (fun st => match st with | x5 => [(1, pt nb1), (3, vb x3), (4, vb x5)]) ?_ ?_
  ·refine V.region ?_
   obtain ⟨hi46, HS⟩ := api_Config.open HS
   refine W.fa fo23_3 rfl (W.ld 0 HS underlying3 rfl rfl rfl rfl ?_)
   obtain ⟨t47, A48, H⟩ := bind_s H
   refine W.e (Y.cl func163 (shape_within.calls A48 HS.j0)) rfl ?_
   rintro _ w ⟨rfl, HS⟩
   replace HS := HS.o0
   refine W.mv rfl ?_
   by_cases c49 : t47 = true
   ·replace H := ite_t c49 H
    refine W.want 28 rfl (sb c49) (W.fa fo23_4 rfl (W.want 28 rfl (sb c49) (W.ld 0 HS underlying3 rfl rfl rfl rfl (W.want 28 rfl (sb c49) ?_))))
    obtain ⟨t50, A51, H⟩ := bind_s H
    refine W.e (Y.cl func163 (shape_within.calls A51 HS.j0)) rfl ?_
    rintro _ w ⟨rfl, HS⟩
    replace HS := HS.o0
    refine W.r (X.pickT (sb c49) rfl) rfl (W.mv rfl ?_)
    by_cases c52 : t50 = true
    ·replace H := ite_t c52 H
     refine W.want 33 rfl (sb c52) (W.fa fo23_5 rfl (W.want 33 rfl (sb c52) (W.ld 0 HS underlying3 rfl rfl rfl rfl (W.want 33 rfl (sb c52) ?_))))
     obtain ⟨t53, A54, H⟩ := bind_s H
     refine W.e (Y.cl func163 (shape_within.calls A54 HS.j0)) rfl ?_
     rintro _ w ⟨rfl, HS⟩
     replace HS := HS.o0
     refine W.r (X.pickT (sb c52) rfl) rfl (W.mv rfl ?_)
     by_cases c55 : t53 = true
     ·replace H := ite_t c55 H
      refine W.want 38 rfl (sb c55) (W.fa fo23_6 rfl (W.want 38 rfl (sb c55) (W.ld 0 HS underlying3 rfl rfl rfl rfl (W.want 38 rfl (sb c55) ?_))))
      obtain ⟨t56, A57, H⟩ := bind_s H
      refine W.e (Y.cl func163 (shape_within.calls A57 HS.j0)) rfl ?_
      rintro _ w ⟨rfl, HS⟩
      replace HS := HS.o0
      refine W.r (X.pickT (sb c55) rfl) rfl (W.mv rfl ?_)
      by_cases c58 : t56 = true
      ·replace H := ite_t c58 H
       refine W.want 43 rfl (sb c58) (W.fa fo23_7 rfl (W.want 43 rfl (sb c58) (W.ld 0 HS underlying3 rfl rfl rfl rfl (W.want 43 rfl (sb c58) ?_))))
       obtain ⟨t59, A60, H⟩ := bind_s H
       refine W.e (Y.cl func163 (shape_within.calls A60 HS.j0)) rfl ?_
       rintro _ w ⟨rfl, HS⟩
       replace HS := HS.o0
       refine W.r (X.pickT (sb c58) rfl) rfl (W.as rfl (W.nil ?_))
       replace HS := api_Config.close tv HS
       exact At.meet t59 ⟨rfl, rfl, rfl, tv⟩ ⟨HS, H⟩
      ·replace H := ite_f c58 H
       refine W.pass 43 rfl (sb (b_f c58)) rfl rfl (W.pass 43 rfl (sb (b_f c58)) rfl rfl (W.pass 43 rfl (sb (b_f c58)) rfl rfl (W.r (X.pickF (sb (b_f c58)) rfl) rfl (W.as rfl (W.nil ?_)))))
       replace HS := api_Config.close tv HS
       exact At.meet false ⟨rfl, rfl, rfl, tv⟩ ⟨HS, H⟩
     ·replace H := ite_f c55 H
      refine W.pass 38 rfl (sb (b_f c55)) rfl rfl (W.pass 38 rfl (sb (b_f c55)) rfl rfl (W.pass 38 rfl (sb (b_f c55)) rfl rfl (W.r (X.pickF (sb (b_f c55)) rfl) rfl (W.mv rfl (W.pass 43 rfl rfl rfl rfl (W.pass 43 rfl rfl rfl rfl (W.pass 43 rfl rfl rfl rfl (W.r (X.pickF rfl rfl) rfl (W.as rfl (W.nil ?_))))))))))
      replace HS := api_Config.close tv HS
      exact At.meet false ⟨rfl, rfl, rfl, tv⟩ ⟨HS, H⟩
    ·replace H := ite_f c52 H
     refine W.pass 33 rfl (sb (b_f c52)) rfl rfl (W.pass 33 rfl (sb (b_f c52)) rfl rfl (W.pass 33 rfl (sb (b_f c52)) rfl rfl (W.r (X.pickF (sb (b_f c52)) rfl) rfl (W.mv rfl (W.pass 38 rfl rfl rfl rfl (W.pass 38 rfl rfl rfl rfl (W.pass 38 rfl rfl rfl rfl (W.r (X.pickF rfl rfl) rfl (W.mv rfl (W.pass 43 rfl rfl rfl rfl (W.pass 43 rfl rfl rfl rfl (W.pass 43 rfl rfl rfl rfl (W.r (X.pickF rfl rfl) rfl (W.as rfl (W.nil ?_)))))))))))))))
     replace HS := api_Config.close tv HS
     exact At.meet false ⟨rfl, rfl, rfl, tv⟩ ⟨HS, H⟩
   ·replace H := ite_f c49 H
    refine W.pass 28 rfl (sb (b_f c49)) rfl rfl (W.pass 28 rfl (sb (b_f c49)) rfl rfl (W.pass 28 rfl (sb (b_f c49)) rfl rfl (W.r (X.pickF (sb (b_f c49)) rfl) rfl (W.mv rfl (W.pass 33 rfl rfl rfl rfl (W.pass 33 rfl rfl rfl rfl (W.pass 33 rfl rfl rfl rfl (W.r (X.pickF rfl rfl) rfl (W.mv rfl (W.pass 38 rfl rfl rfl rfl (W.pass 38 rfl rfl rfl rfl (W.pass 38 rfl rfl rfl rfl (W.r (X.pickF rfl rfl) rfl (W.mv rfl (W.pass 43 rfl rfl rfl rfl (W.pass 43 rfl rfl rfl rfl (W.pass 43 rfl rfl rfl rfl (W.r (X.pickF rfl rfl) rfl (W.as rfl (W.nil ?_))))))))))))))))))))
    replace HS := api_Config.close tv HS
    exact At.meet false ⟨rfl, rfl, rfl, tv⟩ ⟨HS, H⟩
  ·rintro x5 w ⟨HS, H⟩
   unfold shape_Check.j1 at H
   refine V.meet (σ := Bool) (fun st w => match st with | x7 => Sep.St [api_Config.at nb1 a0, R] w0 w ∧ shape_Check.j2 a0 x3 x5 x7 = some r) (fun st => match st with | x7 => [(1, pt nb1), (3, vb x3), (4, vb x5), (5, vb x7)]) ?_ ?_
   ·obtain ⟨hi28, HS⟩ := api_Config.open HS
    refine V.dr [5, 9, 14, 19, 25, 26] [6, 7, 8, 10, 11, 12, 13, 15, 16, 17, 18, 20, 21, 22, 23, 24, 27, 28] [(48, po nb1 (0 + 2)), (49, vi a0.Window), (50, po nb1 (0 + 1)), (51, vi a0.Modulus), (52, vi (w64 (a0.Modulus.tdiv (8))))] mo HS ?_
    refine T.ev [(49, _), (52, _)] [10, 11, 12, 13, 15, 16, 17, 18, 20, 21, 22, 23, 24, 27, 28] [0, 1, 2, 3, 4] ⟨rfl, rfl, tv⟩ ⟨.fa 1 fo23_2, .ld 48 0 underlying3, .fa 1 fo23_1, .ld 50 0 underlying3, .n1 51 rfl rfl (fun w HS => X.quo rfl rfl (by decide)), tv⟩ rfl (fun w HS => ?_)
    obtain ⟨t29, A30, H⟩ := bind_s H
    refine ⟨_, Y.cl func163 (shape_within.calls A30 HS.j0), ?_⟩
    rintro _ w ⟨rfl, HS⟩
    replace HS := HS.o0
    by_cases c31 : t29 = true
    ·replace H := ite_t c31 H
     refine T.nm [(53, vb t29), (54, vb t29), (55, po nb1 (0 + 8)), (56, vi a0.Queue)] HS ⟨.inl ⟨rfl, rfl⟩, ⟨.inr ⟨by decide, rfl⟩, ⟨.inr ⟨by decide, rfl⟩, ⟨.inr ⟨by decide, rfl⟩, tv⟩⟩⟩⟩ ?_
     refine T.evG [(56, _), (54, _)] [15, 16, 17, 18, 20, 21, 22, 23, 24, 27, 28] [6, 7, 8] ⟨rfl, rfl, tv⟩ ⟨.mv 53, .gw [(1, _), (54, _)] 6 true 54 ⟨rfl, rfl, tv⟩ rfl (sb c31) (fun w HS => X.fieldAddr 8 fo23_8 rfl), .gw [(55, _), (54, _)] 6 true 54 ⟨rfl, rfl, tv⟩ rfl (sb c31) (fun w HS => X.loadAt 0 HS rfl underlying3 rfl rfl rfl), tv⟩ rfl (Or.inr ⟨6, true, 54, rfl, rfl, (sb c31)⟩) (fun w HS => ?_)
     obtain ⟨t32, A33, H⟩ := bind_s H
     refine ⟨_, Y.cl func163 (shape_within.calls A33 HS.j0), ?_⟩
     rintro _ w ⟨rfl, HS⟩
     replace HS := HS.o0
     by_cases c34 : t32 = true
     ·replace H := ite_t c34 H
      refine T.nm [(57, vb t32), (58, vb t32), (59, vb t32), (60, po nb1 (0 + 9)), (61, vi a0.Size)] HS ⟨.inl ⟨rfl, rfl⟩, ⟨.inr ⟨by decide, rfl⟩, ⟨.inr ⟨by decide, rfl⟩, ⟨.inr ⟨by decide, rfl⟩, ⟨.inr ⟨by decide, rfl⟩, tv⟩⟩⟩⟩⟩ ?_
      refine T.evG [(61, _), (59, _)] [20, 21, 22, 23, 24, 27, 28] [10, 11, 12, 13] ⟨rfl, rfl, tv⟩ ⟨.n2 54 57 rfl rfl rfl (fun w HS => X.pickT (sb c31) rfl), .mv 58, .gw [(1, _), (59, _)] 11 true 59 ⟨rfl, rfl, tv⟩ rfl (sb c34) (fun w HS => X.fieldAddr 9 fo23_9 rfl), .gw [(60, _), (59, _)] 11 true 59 ⟨rfl, rfl, tv⟩ rfl (sb c34) (fun w HS => X.loadAt 0 HS rfl underlying3 rfl rfl rfl), tv⟩ rfl (Or.inr ⟨11, true, 59, rfl, rfl, (sb c34)⟩) (fun w HS => ?_)
      obtain ⟨t35, A36, H⟩ := bind_s H
      refine ⟨_, Y.cl func163 (shape_within.calls A36 HS.j0), ?_⟩
      rintro _ w ⟨rfl, HS⟩
      replace HS := HS.o0
      by_cases c37 : t35 = true
      ·replace H := ite_t c37 H
       refine T.nm [(62, vb t35), (63, vb t35), (64, vb t35), (65, po nb1 (0 + 11)), (66, vi a0.Rate)] HS ⟨.inl ⟨rfl, rfl⟩, ⟨.inr ⟨by decide, rfl⟩, ⟨.inr ⟨by decide, rfl⟩, ⟨.inr ⟨by decide, rfl⟩, ⟨.inr ⟨by decide, rfl⟩, tv⟩⟩⟩⟩⟩ ?_
       refine T.evG [(66, _), (64, _)] [27, 28] [15, 16, 17, 18] ⟨rfl, rfl, tv⟩ ⟨.n2 59 62 rfl rfl rfl (fun w HS => X.pickT (sb c34) rfl), .mv 63, .gw [(1, _), (64, _)] 16 true 64 ⟨rfl, rfl, tv⟩ rfl (sb c37) (fun w HS => X.fieldAddr 11 fo23_11 rfl), .gw [(65, _), (64, _)] 16 true 64 ⟨rfl, rfl, tv⟩ rfl (sb c37) (fun w HS => X.loadAt 0 HS rfl underlying3 rfl rfl rfl), tv⟩ rfl (Or.inr ⟨16, true, 64, rfl, rfl, (sb c37)⟩) (fun w HS => ?_)
       obtain ⟨t38, A39, H⟩ := bind_s H
       refine ⟨_, Y.cl func163 (shape_within.calls A39 HS.j0), ?_⟩
       rintro _ w ⟨rfl, HS⟩
       replace HS := HS.o0
       by_cases c40 : t38 = true
       ·replace H := ite_t c40 H
        refine T.nm [(67, vb t38), (68, vb t38), (69, vb t38), (70, po nb1 (0 + 10)), (71, vi a0.Ring), (72, Value.agg #[vi a0.Mode, vi a0.Modulus, vi a0.Window, vi a0.T1, vi a0.N2, vi a0.Hold, vi a0.Wait, vi a0.Keep, vi a0.Queue, vi a0.Size, vi a0.Ring, vi a0.Rate, vi a0.Bad, vi a0.Good, vb a0.Revert, vb a0.Wide])] HS ⟨.inl ⟨rfl, rfl⟩, ⟨.inr ⟨by decide, rfl⟩, ⟨.inr ⟨by decide, rfl⟩, ⟨.inr ⟨by decide, rfl⟩, ⟨.inr ⟨by decide, rfl⟩, ⟨.inr ⟨by decide, rfl⟩, tv⟩⟩⟩⟩⟩⟩ ?_
        refine T.evG [(72, _), (69, _)] [27, 28] [20, 21, 24] ⟨rfl, rfl, tv⟩ ⟨.n2 64 67 rfl rfl rfl (fun w HS => X.pickT (sb c37) rfl), .mv 68, .gw [(1, _), (69, _)] 21 true 69 ⟨rfl, rfl, tv⟩ rfl (sb c40) (fun w HS => X.fieldAddr 10 fo23_10 rfl), .gw [(70, _), (69, _)] 21 true 69 ⟨rfl, rfl, tv⟩ rfl (sb c40) (fun w HS => X.loadAt 0 HS rfl underlying3 rfl rfl rfl), .gw [(1, _), (69, _)] 21 true 69 ⟨rfl, rfl, tv⟩ rfl (sb c40) (fun w HS => X.loadSt 0 [vi a0.Mode, vi a0.Modulus, vi a0.Window, vi a0.T1, vi a0.N2, vi a0.Hold, vi a0.Wait, vi a0.Keep, vi a0.Queue, vi a0.Size, vi a0.Ring, vi a0.Rate, vi a0.Bad, vi a0.Good, vb a0.Revert, vb a0.Wide] HS rfl underlying23 rfl inf23 rfl rfl), tv⟩ rfl (Or.inr ⟨21, true, 69, rfl, rfl, (sb c40)⟩) (fun w HS => ?_)
        obtain ⟨t41, A42, H⟩ := bind_s H
        refine ⟨_, Y.cl func164 (shape_Most.calls A42 HS.j0), ?_⟩
        rintro _ w ⟨rfl, HS⟩
        replace HS := HS.o0
        refine T.nw HS ?_
        refine T.evG [(71, _), (73, _), (69, _)] [] [22, 23] ⟨rfl, rfl, rfl, tv⟩ ⟨.gw [(1, _), (69, _)] 21 true 69 ⟨rfl, rfl, tv⟩ rfl (sb c40) (fun w HS => X.fieldAddr 10 fo23_10 rfl), .gw [(70, _), (69, _)] 21 true 69 ⟨rfl, rfl, tv⟩ rfl (sb c40) (fun w HS => X.loadAt 0 HS rfl underlying3 rfl rfl rfl), tv⟩ rfl (Or.inr ⟨21, true, 69, rfl, rfl, (sb c40)⟩) (fun w HS => ?_)
        obtain ⟨t43, A44, H⟩ := bind_s H
        refine ⟨_, Y.cl func163 (shape_within.calls A44 HS.j0), ?_⟩
        rintro _ w ⟨rfl, HS⟩
        replace HS := HS.o0
        refine T.nm [(74, vb t43), (75, vb t43), (5, vb t43)] HS ⟨.inl ⟨rfl, rfl⟩, ⟨.inr ⟨by decide, rfl⟩, ⟨.inr ⟨by decide, rfl⟩, tv⟩⟩⟩ ?_
        refine T.fn [(1, _), (3, _), (4, _), (5, _)] ⟨rfl, rfl, rfl, rfl, tv⟩ ⟨.n2 69 74 rfl rfl rfl (fun w HS => X.pickT (sb c40) rfl), .as 75, tv⟩ (fun w HS => ?_)
        replace HS := api_Config.close tv HS
        exact At.meet t43 ⟨rfl, rfl, rfl, rfl, tv⟩ ⟨HS, H⟩
       ·replace H := ite_f c40 H
        refine T.nm [(67, vb t38), (68, vb t38), (69, vb t38), (70, undef), (71, undef), (72, undef)] HS ⟨.inl ⟨rfl, rfl⟩, ⟨.inr ⟨by decide, rfl⟩, ⟨.inr ⟨by decide, rfl⟩, ⟨.inr ⟨by decide, rfl⟩, ⟨.inr ⟨by decide, rfl⟩, ⟨.inr ⟨by decide, rfl⟩, tv⟩⟩⟩⟩⟩⟩ ?_
        refine T.drop (es' := [26]) (bl' := [27, 28]) [(73, undef)] rfl ⟨.inr ⟨by decide, rfl⟩, tv⟩ ?_
        refine T.drop (es' := []) (bl' := []) [(74, undef), (75, vb false), (5, vb false)] rfl ⟨.inr ⟨by decide, rfl⟩, ⟨.inr ⟨by decide, rfl⟩, ⟨.inr ⟨by decide, rfl⟩, tv⟩⟩⟩ ?_
        refine T.fn [(1, _), (3, _), (4, _), (5, _)] ⟨rfl, rfl, rfl, rfl, tv⟩ ⟨.n2 64 67 rfl rfl rfl (fun w HS => X.pickT (sb c37) rfl), .mv 68, .gp 21 true false 69 rfl rfl (Option.some.inj (sb (b_f c40))) rfl, .gp 21 true false 69 rfl rfl (Option.some.inj (sb (b_f c40))) rfl, .gp 21 true false 69 rfl rfl (Option.some.inj (sb (b_f c40))) rfl, .gp 21 true false 69 rfl rfl (Option.some.inj (sb (b_f c40))) rfl, .gp 21 true false 69 rfl rfl (Option.some.inj (sb (b_f c40))) rfl, .n2 69 74 rfl rfl rfl (fun w HS => X.pickF (sb (b_f c40)) rfl), .as 75, tv⟩ (fun w HS => ?_)
        replace HS := api_Config.close tv HS
        exact At.meet false ⟨rfl, rfl, rfl, rfl, tv⟩ ⟨HS, H⟩
      ·replace H := ite_f c37 H
       refine T.nm [(62, vb t35), (63, vb t35), (64, vb t35), (65, undef), (66, undef)] HS ⟨.inl ⟨rfl, rfl⟩, ⟨.inr ⟨by decide, rfl⟩, ⟨.inr ⟨by decide, rfl⟩, ⟨.inr ⟨by decide, rfl⟩, ⟨.inr ⟨by decide, rfl⟩, tv⟩⟩⟩⟩⟩ ?_
       refine T.drop (es' := [25, 26]) (bl' := [27, 28]) [(67, undef), (68, vb false), (69, vb false), (70, undef), (71, undef), (72, undef)] rfl ⟨.inr ⟨by decide, rfl⟩, ⟨.inr ⟨by decide, rfl⟩, ⟨.inr ⟨by decide, rfl⟩, ⟨.inr ⟨by decide, rfl⟩, ⟨.inr ⟨by decide, rfl⟩, ⟨.inr ⟨by decide, rfl⟩, tv⟩⟩⟩⟩⟩⟩ ?_
       refine T.drop (es' := [26]) (bl' := [27, 28]) [(73, undef)] rfl ⟨.inr ⟨by decide, rfl⟩, tv⟩ ?_
       refine T.drop (es' := []) (bl' := []) [(74, undef), (75, vb false), (5, vb false)] rfl ⟨.inr ⟨by decide, rfl⟩, ⟨.inr ⟨by decide, rfl⟩, ⟨.inr ⟨by decide, rfl⟩, tv⟩⟩⟩ ?_
       refine T.fn [(1, _), (3, _), (4, _), (5, _)] ⟨rfl, rfl, rfl, rfl, tv⟩ ⟨.n2 59 62 rfl rfl rfl (fun w HS => X.pickT (sb c34) rfl), .mv 63, .gp 16 true false 64 rfl rfl (Option.some.inj (sb (b_f c37))) rfl, .gp 16 true false 64 rfl rfl (Option.some.inj (sb (b_f c37))) rfl, .gp 16 true false 64 rfl rfl (Option.some.inj (sb (b_f c37))) rfl, .n2 64 67 rfl rfl rfl (fun w HS => X.pickF (sb (b_f c37)) rfl), .mv 68, .gp 21 true false 69 rfl rfl rfl rfl, .gp 21 true false 69 rfl rfl rfl rfl, .gp 21 true false 69 rfl rfl rfl rfl, .gp 21 true false 69 rfl rfl rfl rfl, .gp 21 true false 69 rfl rfl rfl rfl, .n2 69 74 rfl rfl rfl (fun w HS => X.pickF rfl rfl), .as 75, tv⟩ (fun w HS => ?_)
       replace HS := api_Config.close tv HS
       exact At.meet false ⟨rfl, rfl, rfl, rfl, tv⟩ ⟨HS, H⟩
     ·replace H := ite_f c34 H
      refine T.nm [(57, vb t32), (58, vb t32), (59, vb t32), (60, undef), (61, undef)] HS ⟨.inl ⟨rfl, rfl⟩, ⟨.inr ⟨by decide, rfl⟩, ⟨.inr ⟨by decide, rfl⟩, ⟨.inr ⟨by decide, rfl⟩, ⟨.inr ⟨by decide, rfl⟩, tv⟩⟩⟩⟩⟩ ?_
      refine T.drop (es' := [19, 25, 26]) (bl' := [20, 21, 22, 23, 24, 27, 28]) [(62, undef), (63, vb false), (64, vb false), (65, undef), (66, undef)] rfl ⟨.inr ⟨by decide, rfl⟩, ⟨.inr ⟨by decide, rfl⟩, ⟨.inr ⟨by decide, rfl⟩, ⟨.inr ⟨by decide, rfl⟩, ⟨.inr ⟨by decide, rfl⟩, tv⟩⟩⟩⟩⟩ ?_
      refine T.drop (es' := [25, 26]) (bl' := [27, 28]) [(67, undef), (68, vb false), (69, vb false), (70, undef), (71, undef), (72, undef)] rfl ⟨.inr ⟨by decide, rfl⟩, ⟨.inr ⟨by decide, rfl⟩, ⟨.inr ⟨by decide, rfl⟩, ⟨.inr ⟨by decide, rfl⟩, ⟨.inr ⟨by decide, rfl⟩, ⟨.inr ⟨by decide, rfl⟩, tv⟩⟩⟩⟩⟩⟩ ?_
      refine T.drop (es' := [26]) (bl' := [27, 28]) [(73, undef)] rfl ⟨.inr ⟨by decide, rfl⟩, tv⟩ ?_
      refine T.drop (es' := []) (bl' := []) [(74, undef), (75, vb false), (5, vb false)] rfl ⟨.inr ⟨by decide, rfl⟩, ⟨.inr ⟨by decide, rfl⟩, ⟨.inr ⟨by decide, rfl⟩, tv⟩⟩⟩ ?_
      refine T.fn [(1, _), (3, _), (4, _), (5, _)] ⟨rfl, rfl, rfl, rfl, tv⟩ ⟨.n2 54 57 rfl rfl rfl (fun w HS => X.pickT (sb c31) rfl), .mv 58, .gp 11 true false 59 rfl rfl (Option.some.inj (sb (b_f c34))) rfl, .gp 11 true false 59 rfl rfl (Option.some.inj (sb (b_f c34))) rfl, .gp 11 true false 59 rfl rfl (Option.some.inj (sb (b_f c34))) rfl, .n2 59 62 rfl rfl rfl (fun w HS => X.pickF (sb (b_f c34)) rfl), .mv 63, .gp 16 true false 64 rfl rfl rfl rfl, .gp 16 true false 64 rfl rfl rfl rfl, .gp 16 true false 64 rfl rfl rfl rfl, .n2 64 67 rfl rfl rfl (fun w HS => X.pickF rfl rfl), .mv 68, .gp 21 true false 69 rfl rfl rfl rfl, .gp 21 true false 69 rfl rfl rfl rfl, .gp 21 true false 69 rfl rfl rfl rfl, .gp 21 true false 69 rfl rfl rfl rfl, .gp 21 true false 69 rfl rfl rfl rfl, .n2 69 74 rfl rfl rfl (fun w HS => X.pickF rfl rfl), .as 75, tv⟩ (fun w HS => ?_)
      replace HS := api_Config.close tv HS
      exact At.meet false ⟨rfl, rfl, rfl, rfl, tv⟩ ⟨HS, H⟩
    ·replace H := ite_f c31 H
     refine T.nm [(53, vb t29), (54, vb t29), (55, undef), (56, undef)] HS ⟨.inl ⟨rfl, rfl⟩, ⟨.inr ⟨by decide, rfl⟩, ⟨.inr ⟨by decide, rfl⟩, ⟨.inr ⟨by decide, rfl⟩, tv⟩⟩⟩⟩ ?_
     refine T.drop (es' := [14, 19, 25, 26]) (bl' := [15, 16, 17, 18, 20, 21, 22, 23, 24, 27, 28]) [(57, undef), (58, vb false), (59, vb false), (60, undef), (61, undef)] rfl ⟨.inr ⟨by decide, rfl⟩, ⟨.inr ⟨by decide, rfl⟩, ⟨.inr ⟨by decide, rfl⟩, ⟨.inr ⟨by decide, rfl⟩, ⟨.inr ⟨by decide, rfl⟩, tv⟩⟩⟩⟩⟩ ?_
     refine T.drop (es' := [19, 25, 26]) (bl' := [20, 21, 22, 23, 24, 27, 28]) [(62, undef), (63, vb false), (64, vb false), (65, undef), (66, undef)] rfl ⟨.inr ⟨by decide, rfl⟩, ⟨.inr ⟨by decide, rfl⟩, ⟨.inr ⟨by decide, rfl⟩, ⟨.inr ⟨by decide, rfl⟩, ⟨.inr ⟨by decide, rfl⟩, tv⟩⟩⟩⟩⟩ ?_
     refine T.drop (es' := [25, 26]) (bl' := [27, 28]) [(67, undef), (68, vb false), (69, vb false), (70, undef), (71, undef), (72, undef)] rfl ⟨.inr ⟨by decide, rfl⟩, ⟨.inr ⟨by decide, rfl⟩, ⟨.inr ⟨by decide, rfl⟩, ⟨.inr ⟨by decide, rfl⟩, ⟨.inr ⟨by decide, rfl⟩, ⟨.inr ⟨by decide, rfl⟩, tv⟩⟩⟩⟩⟩⟩ ?_
     refine T.drop (es' := [26]) (bl' := [27, 28]) [(73, undef)] rfl ⟨.inr ⟨by decide, rfl⟩, tv⟩ ?_
     refine T.drop (es' := []) (bl' := []) [(74, undef), (75, vb false), (5, vb false)] rfl ⟨.inr ⟨by decide, rfl⟩, ⟨.inr ⟨by decide, rfl⟩, ⟨.inr ⟨by decide, rfl⟩, tv⟩⟩⟩ ?_
     refine T.fn [(1, _), (3, _), (4, _), (5, _)] ⟨rfl, rfl, rfl, rfl, tv⟩ ⟨.mv 53, .gp 6 true false 54 rfl rfl (Option.some.inj (sb (b_f c31))) rfl, .gp 6 true false 54 rfl rfl (Option.some.inj (sb (b_f c31))) rfl, .gp 6 true false 54 rfl rfl (Option.some.inj (sb (b_f c31))) rfl, .n2 54 57 rfl rfl rfl (fun w HS => X.pickF (sb (b_f c31)) rfl), .mv 58, .gp 11 true false 59 rfl rfl rfl rfl, .gp 11 true false 59 rfl rfl rfl rfl, .gp 11 true false 59 rfl rfl rfl rfl, .n2 59 62 rfl rfl rfl (fun w HS => X.pickF rfl rfl), .mv 63, .gp 16 true false 64 rfl rfl rfl rfl, .gp 16 true false 64 rfl rfl rfl rfl, .gp 16 true false 64 rfl rfl rfl rfl, .n2 64 67 rfl rfl rfl (fun w HS => X.pickF rfl rfl), .mv 68, .gp 21 true false 69 rfl rfl rfl rfl, .gp 21 true false 69 rfl rfl rfl rfl, .gp 21 true false 69 rfl rfl rfl rfl, .gp 21 true false 69 rfl rfl rfl rfl, .gp 21 true false 69 rfl rfl rfl rfl, .n2 69 74 rfl rfl rfl (fun w HS => X.pickF rfl rfl), .as 75, tv⟩ (fun w HS => ?_)
     replace HS := api_Config.close tv HS
     exact At.meet false ⟨rfl, rfl, rfl, rfl, tv⟩ ⟨HS, H⟩
   ·rintro x7 w ⟨HS, H⟩
    unfold shape_Check.j2 at H
    refine V.meet (σ := Bool) (fun st w => match st with | x9 => Sep.St [api_Config.at nb1 a0, R] w0 w ∧ shape_Check.j3 a0 x3 x5 x7 x9 = some r) (fun st => match st with | x9 => [(1, pt nb1), (3, vb x3), (4, vb x5), (5, vb x7), (6, vb x9)]) ?_ ?_
    ·refine V.region ?_
     obtain ⟨hi21, HS⟩ := api_Config.open HS
     refine W.fa fo23_12 rfl (W.ld 0 HS underlying3 rfl rfl rfl rfl ?_)
     obtain ⟨t22, A23, H⟩ := bind_s H
     refine W.e (Y.cl func163 (shape_within.calls A23 HS.j0)) rfl ?_
     rintro _ w ⟨rfl, HS⟩
     replace HS := HS.o0
     refine W.mv rfl ?_
     by_cases c24 : t22 = true
     ·replace H := ite_t c24 H
      refine W.want 79 rfl (sb c24) (W.fa fo23_13 rfl (W.want 79 rfl (sb c24) (W.ld 0 HS underlying3 rfl rfl rfl rfl (W.want 79 rfl (sb c24) ?_))))
      obtain ⟨t25, A26, H⟩ := bind_s H
      refine W.e (Y.cl func163 (shape_within.calls A26 HS.j0)) rfl ?_
      rintro _ w ⟨rfl, HS⟩
      replace HS := HS.o0
      refine W.r (X.pickT (sb c24) rfl) rfl (W.as rfl (W.nil ?_))
      replace HS := api_Config.close tv HS
      exact At.meet t25 ⟨rfl, rfl, rfl, rfl, rfl, tv⟩ ⟨HS, H⟩
     ·replace H := ite_f c24 H
      refine W.pass 79 rfl (sb (b_f c24)) rfl rfl (W.pass 79 rfl (sb (b_f c24)) rfl rfl (W.pass 79 rfl (sb (b_f c24)) rfl rfl (W.r (X.pickF (sb (b_f c24)) rfl) rfl (W.as rfl (W.nil ?_)))))
      replace HS := api_Config.close tv HS
      exact At.meet false ⟨rfl, rfl, rfl, rfl, rfl, tv⟩ ⟨HS, H⟩
    ·rintro x9 w ⟨HS, H⟩
     unfold shape_Check.j3 at H
     refine V.seq (V.meet (σ := Bool) (fun st w => match st with | x11 => Sep.St [api_Config.at nb1 a0, R] w0 w ∧ shape_Check.j4 x11 = some r) (fun st => match st with | x11 => [(101, vb x11)]) ?_ ?_)
     ·refine V.region (W.mv rfl (W.mv rfl ?_))
      by_cases c14 : x3 = true
      ·replace H := ite_t c14 H
       refine W.want 85 rfl (sb c14) (W.mv rfl (W.r (X.pickT (sb c14) rfl) rfl (W.mv rfl ?_)))
       by_cases c15 : x5 = true
       ·replace H := ite_t c15 H
        refine W.want 88 rfl (sb c15) (W.mv rfl (W.r (X.pickT (sb c15) rfl) rfl (W.mv rfl ?_)))
        by_cases c16 : x7 = true
        ·replace H := ite_t c16 H
         refine W.want 91 rfl (sb c16) (W.mv rfl (W.r (X.pickT (sb c16) rfl) rfl (W.mv rfl ?_)))
         by_cases c17 : x9 = true
         ·replace H := ite_t c17 H
          refine W.want 94 rfl (sb c17) ?_
          obtain ⟨hi19, HS⟩ := api_Config.open HS
          refine W.fa fo23_7 rfl (W.want 94 rfl (sb c17) (W.ld 0 HS underlying3 rfl rfl rfl rfl (W.want 94 rfl (sb c17) (W.fa fo23_11 rfl (W.want 94 rfl (sb c17) (W.ld 0 HS underlying3 rfl rfl rfl rfl (W.want 94 rfl (sb c17) (W.r (X.mul rfl rfl) rfl (W.want 94 rfl (sb c17) (W.r (X.cmp (decide ((w64 (a0.Keep * a0.Rate)) ≥ 32)) rfl rfl rfl rfl) rfl (W.r (X.pickT (sb c17) rfl) rfl (W.nil ?_))))))))))))
          replace HS := api_Config.close tv HS
          exact At.meet (decide ((w64 (a0.Keep * a0.Rate)) ≥ 32)) ⟨rfl, tv⟩ ⟨HS, H⟩
         ·replace H := ite_f c17 H
          refine W.pass 94 rfl (sb (b_f c17)) rfl rfl (W.pass 94 rfl (sb (b_f c17)) rfl rfl (W.pass 94 rfl (sb (b_f c17)) rfl rfl (W.pass 94 rfl (sb (b_f c17)) rfl rfl (W.pass 94 rfl (sb (b_f c17)) rfl rfl (W.pass 94 rfl (sb (b_f c17)) rfl rfl (W.r (X.pickF (sb (b_f c17)) rfl) rfl (W.nil ?_)))))))
          exact At.meet false ⟨rfl, tv⟩ ⟨HS, H⟩
        ·replace H := ite_f c16 H
         refine W.pass 91 rfl (sb (b_f c16)) rfl rfl (W.r (X.pickF (sb (b_f c16)) rfl) rfl (W.mv rfl (W.pass 94 rfl rfl rfl rfl (W.pass 94 rfl rfl rfl rfl (W.pass 94 rfl rfl rfl rfl (W.pass 94 rfl rfl rfl rfl (W.pass 94 rfl rfl rfl rfl (W.pass 94 rfl rfl rfl rfl (W.r (X.pickF rfl rfl) rfl (W.nil ?_))))))))))
         exact At.meet false ⟨rfl, tv⟩ ⟨HS, H⟩
       ·replace H := ite_f c15 H
        refine W.pass 88 rfl (sb (b_f c15)) rfl rfl (W.r (X.pickF (sb (b_f c15)) rfl) rfl (W.mv rfl (W.pass 91 rfl rfl rfl rfl (W.r (X.pickF rfl rfl) rfl (W.mv rfl (W.pass 94 rfl rfl rfl rfl (W.pass 94 rfl rfl rfl rfl (W.pass 94 rfl rfl rfl rfl (W.pass 94 rfl rfl rfl rfl (W.pass 94 rfl rfl rfl rfl (W.pass 94 rfl rfl rfl rfl (W.r (X.pickF rfl rfl) rfl (W.nil ?_)))))))))))))
        exact At.meet false ⟨rfl, tv⟩ ⟨HS, H⟩
      ·replace H := ite_f c14 H
       refine W.pass 85 rfl (sb (b_f c14)) rfl rfl (W.r (X.pickF (sb (b_f c14)) rfl) rfl (W.mv rfl (W.pass 88 rfl rfl rfl rfl (W.r (X.pickF rfl rfl) rfl (W.mv rfl (W.pass 91 rfl rfl rfl rfl (W.r (X.pickF rfl rfl) rfl (W.mv rfl (W.pass 94 rfl rfl rfl rfl (W.pass 94 rfl rfl rfl rfl (W.pass 94 rfl rfl rfl rfl (W.pass 94 rfl rfl rfl rfl (W.pass 94 rfl rfl rfl rfl (W.pass 94 rfl rfl rfl rfl (W.r (X.pickF rfl rfl) rfl (W.nil ?_))))))))))))))))
       exact At.meet false ⟨rfl, tv⟩ ⟨HS, H⟩
     ·rintro x11 w ⟨HS, H⟩
      unfold shape_Check.j4 at H
      by_cases c13 : x11 = true
      ·replace H := ite_t c13 H
       refine V.condT (sb c13) (V.seq (V.region (W.as rfl (W.nx (V.ret (At.thenRet ?_))))))
       replace HS := HS.pk [1] [0]
       cases H
       exact At.ret1 rfl rfl ⟨_, rfl, rfl, HS⟩
      ·replace H := ite_f c13 H
       refine V.condF (sb (b_f c13)) (V.skip (At.next (V.seq (V.region (W.as rfl (W.nx (V.ret ?_)))))))
       replace HS := HS.pk [1] [0]
       cases H
       exact At.ret1 rfl rfl ⟨_, rfl, rfl, HS⟩
def arq_cut.f (a0 : Int) (a1 : Int) (a2 : Int) : Option Int := some (imax a1 (imin a0 a2))
theorem arq_cut.calls {a0 : Int} {a1 : Int} {a2 : Int} {R : As} {w0 w : World}  {r : Int} (H : arq_cut.f a0 a1 a2 = some r) (HS : Sep.St [R] w0 w)  : Calls Tryz.prog 165 #[vi a0, vi a1, vi a2] w (Ret fun u w => u = vi r ∧ Sep.St [R] w0 w) := by
 unfold arq_cut.f at H
 refine calls_enter func165 rfl rfl ?_
 have H : _ = some r := H
 refine V.seq (V.region (W.as rfl (W.nx (V.seq (V.region (W.mv rfl (W.mv rfl (W.mv rfl (W.r (X.min2 rfl rfl) rfl (W.r (X.max2 rfl rfl) rfl (W.as rfl (W.nx (V.ret ?_)))))))))))))
 cases H
 exact At.ret1 rfl rfl ⟨_, rfl, rfl, HS⟩
def backlog_Cut.f (a0 : Int) (a1 : Int) : Option (Int × Int) := some (imax (8) (imin a0 (32768)), imax (1) (imin a1 (w64 ((imax (8) (imin a0 (32768))).tdiv (8)))))
theorem backlog_Cut.calls {a0 : Int} {a1 : Int} {R : As} {w0 w : World}  {r : Int × Int} (H : backlog_Cut.f a0 a1 = some r) (HS : Sep.St [R] w0 w)  : Calls Tryz.prog 226 #[vi a0, vi a1] w (Ret fun u w => u = Value.tuple #[vi r.1, vi r.2] ∧ Sep.St [R] w0 w) := by
 unfold backlog_Cut.f at H
 refine calls_enter func226 rfl rfl ?_
 have H : _ = some r := H
 refine V.seq (V.region (W.as rfl (W.as rfl (W.nx (V.seq (V.region (W.mv rfl (W.r (X.min2 rfl rfl) rfl (W.r (X.max2 rfl rfl) rfl (W.as rfl (W.nx (V.seq (V.region (W.mv rfl (W.mv rfl (W.mv rfl (W.r (X.quo rfl rfl (by decide)) rfl (W.r (X.min2 rfl rfl) rfl (W.r (X.max2 rfl rfl) rfl (W.as rfl (W.as rfl (W.nx (V.ret ?_)))))))))))))))))))))))
 cases H
 exact At.ret2 rfl rfl rfl ⟨_, rfl, rfl, HS⟩
structure backlog_Log where
 m : Int
 window : Int
 queue : Int
 first : Int
 out : Int
 l : List (List Int)
deriving DecidableEq, Inhabited
def backlog_Log.at (b : Nat) (x : backlog_Log) : As := fun h => True ∧ ∃ a5 : Option Addr, ∃ c5 : Nat, ∃ d5 : List Value, Sp [blk b (#[vi x.m, vi x.window, vi x.queue, vi x.first, vi x.out, vs a5 x.l.length c5]) 239, row 48 1 (.slice a5 x.l.length c5) x.l.length d5, tie (El.sl (El.int .u8)) d5 x.l] h
theorem backlog_Log.open {b : Nat} {x : backlog_Log} {L : List As} {w0 w : World} (hs : Sep.St (backlog_Log.at b x :: L) w0 w) : ∃ a5 : Option Addr, ∃ c5 : Nat, ∃ d5 : List Value, True ∧ Sep.St (blk b (#[vi x.m, vi x.window, vi x.queue, vi x.first, vi x.out, vs a5 x.l.length c5]) 239 :: row 48 1 (.slice a5 x.l.length c5) x.l.length d5 :: tie (El.sl (El.int .u8)) d5 x.l :: L) w0 w := by
 obtain ⟨ho, ht, hu, h, hon, h1, h2, hd, e1, e2, ⟨hi, a5, c5, d5, hA⟩, hl⟩ := hs
 exact ⟨a5, c5, d5, hi, St.open (m := [blk b (#[vi x.m, vi x.window, vi x.queue, vi x.first, vi x.out, vs a5 x.l.length c5]) 239, row 48 1 (.slice a5 x.l.length c5) x.l.length d5, tie (El.sl (El.int .u8)) d5 x.l]) ⟨ho, ht, hu, h, hon, h1, h2, hd, e1, e2, hA, hl⟩⟩
theorem backlog_Log.close {b : Nat} {l0 : Int} {l1 : Int} {l2 : Int} {l3 : Int} {l4 : Int} {l5 : List (List Int)} {a5 : Option Addr} {c5 : Nat} {d5 : List Value} {L : List As} {w0 w : World} (hi : True) (hs : Sep.St (blk b (#[vi l0, vi l1, vi l2, vi l3, vi l4, vs a5 l5.length c5]) 239 :: row 48 1 (.slice a5 l5.length c5) l5.length d5 :: tie (El.sl (El.int .u8)) d5 l5 :: L) w0 w) : Sep.St (backlog_Log.at b ({ m := l0, window := l1, queue := l2, first := l3, out := l4, l := l5 } : backlog_Log) :: L) w0 w := by
 have h2 := St.join (m := [blk b (#[vi l0, vi l1, vi l2, vi l3, vi l4, vs a5 l5.length c5]) 239, row 48 1 (.slice a5 l5.length c5) l5.length d5, tie (El.sl (El.int .u8)) d5 l5]) hs
 exact h2.mono fun h hh => ⟨hi, _, _, _, hh⟩
def backlog_New.f (a0 : Int) (a1 : Int) (a2 : Int) : Option backlog_Log := ((backlog_Cut.f a0 a1).bind fun t1 => some (({ m := t1.1, window := t1.2, queue := imax (0) (imin a2 (1000)), first := 0, out := 0, l := ([] : List (List Int)) } : backlog_Log)))
theorem backlog_New.calls {a0 : Int} {a1 : Int} {a2 : Int} {R : As} {w0 w : World}  {r : backlog_Log} (H : backlog_New.f a0 a1 a2 = some r) (HS : Sep.St [R] w0 w)  : Calls Tryz.prog 166 #[vi a0, vi a1, vi a2] w (Ret fun u w => ∃ (bq0 : Nat), u = pt bq0 ∧ Sep.St [backlog_Log.at bq0 r, R] w0 w) := by
 unfold backlog_New.f at H
 refine calls_enter func166 rfl rfl ?_
 have H : _ = some r := H
 refine V.seq (V.region (W.as rfl (W.nx (V.seq (V.region (W.mv rfl (W.mv rfl ?_)))))))
 obtain ⟨t1, A2, H⟩ := bind_s H
 refine W.e (Y.cl func226 (backlog_Cut.calls A2 HS.j0)) rfl ?_
 rintro _ w ⟨rfl, HS⟩
 replace HS := HS.o0
 refine W.mv rfl (W.r (X.extract rfl rfl) rfl (W.r (X.extract rfl rfl) rfl (W.as rfl (W.as rfl (W.nx (V.seq (V.region (W.mv rfl (W.mv rfl (W.mv rfl (W.r (X.min2 rfl rfl) rfl (W.r (X.max2 rfl rfl) rfl (W.r (X.bd (Value.agg #[vi t1.1, vi t1.2, vi (imax (0) (imin a2 (1000))), vi (0), vi (0), vs none 0 0]) rfl (fun _ => by kernel_rfl)) rfl (W.e (Y.box HS rfl) rfl ?_))))))))))))))
 rintro _ w ⟨nb3, rfl, HS⟩
 refine W.as rfl (W.nx (V.ret ?_))
 replace HS := row_nilE (El.sl (El.int .u8)) 48 1 HS
 replace HS := HS.pm [2, 0, 1, 3]
 replace HS := backlog_Log.close (l5 := ([] : List (List Int))) tv HS
 cases H
 exact At.ret1 rfl rfl ⟨_, rfl, nb3, rfl, HS⟩
structure reorder_Order where
 m : Int
 window : Int
 next : Int
 kept : List (Int × (List Int))
 ready : List (List Int)
deriving DecidableEq, Inhabited
def reorder_Order.at (b : Nat) (x : reorder_Order) : As := fun h => True ∧ ∃ b3 : Nat, ∃ k3 : List (Int × Value), ∃ a4 : Option Addr, ∃ c4 : Nat, ∃ d4 : List Value, Sp [blk b (#[vi x.m, vi x.window, vi x.next, Value.map (some b3), vs a4 x.ready.length c4]) 248, mblk b3 k3, tieM (El.sl (El.int .u8)) k3 x.kept, row 48 1 (.slice a4 x.ready.length c4) x.ready.length d4, tie (El.sl (El.int .u8)) d4 x.ready] h
theorem reorder_Order.open {b : Nat} {x : reorder_Order} {L : List As} {w0 w : World} (hs : Sep.St (reorder_Order.at b x :: L) w0 w) : ∃ b3 : Nat, ∃ k3 : List (Int × Value), ∃ a4 : Option Addr, ∃ c4 : Nat, ∃ d4 : List Value, True ∧ Sep.St (blk b (#[vi x.m, vi x.window, vi x.next, Value.map (some b3), vs a4 x.ready.length c4]) 248 :: mblk b3 k3 :: tieM (El.sl (El.int .u8)) k3 x.kept :: row 48 1 (.slice a4 x.ready.length c4) x.ready.length d4 :: tie (El.sl (El.int .u8)) d4 x.ready :: L) w0 w := by
 obtain ⟨ho, ht, hu, h, hon, h1, h2, hd, e1, e2, ⟨hi, b3, k3, a4, c4, d4, hA⟩, hl⟩ := hs
 exact ⟨b3, k3, a4, c4, d4, hi, St.open (m := [blk b (#[vi x.m, vi x.window, vi x.next, Value.map (some b3), vs a4 x.ready.length c4]) 248, mblk b3 k3, tieM (El.sl (El.int .u8)) k3 x.kept, row 48 1 (.slice a4 x.ready.length c4) x.ready.length d4, tie (El.sl (El.int .u8)) d4 x.ready]) ⟨ho, ht, hu, h, hon, h1, h2, hd, e1, e2, hA, hl⟩⟩
theorem reorder_Order.close {b : Nat} {l0 : Int} {l1 : Int} {l2 : Int} {l3 : List (Int × (List Int))} {l4 : List (List Int)} {b3 : Nat} {k3 : List (Int × Value)} {a4 : Option Addr} {c4 : Nat} {d4 : List Value} {L : List As} {w0 w : World} (hi : True) (hs : Sep.St (blk b (#[vi l0, vi l1, vi l2, Value.map (some b3), vs a4 l4.length c4]) 248 :: mblk b3 k3 :: tieM (El.sl (El.int .u8)) k3 l3 :: row 48 1 (.slice a4 l4.length c4) l4.length d4 :: tie (El.sl (El.int .u8)) d4 l4 :: L) w0 w) : Sep.St (reorder_Order.at b ({ m := l0, window := l1, next := l2, kept := l3, ready := l4 } : reorder_Order) :: L) w0 w := by
 have h2 := St.join (m := [blk b (#[vi l0, vi l1, vi l2, Value.map (some b3), vs a4 l4.length c4]) 248, mblk b3 k3, tieM (El.sl (El.int .u8)) k3 l3, row 48 1 (.slice a4 l4.length c4) l4.length d4, tie (El.sl (El.int .u8)) d4 l4]) hs
 exact h2.mono fun h hh => ⟨hi, _, _, _, _, _, hh⟩
def reorder_New.f (a0 : Int) (a1 : Int) : Option reorder_Order := ((backlog_Cut.f a0 a1).bind fun t1 => some (({ m := t1.1, window := t1.2, next := 0, kept := ([] : List (Int × (List Int))), ready := ([] : List (List Int)) } : reorder_Order)))
theorem reorder_New.calls {a0 : Int} {a1 : Int} {R : As} {w0 w : World}  {r : reorder_Order} (H : reorder_New.f a0 a1 = some r) (HS : Sep.St [R] w0 w)  : Calls Tryz.prog 167 #[vi a0, vi a1] w (Ret fun u w => ∃ (bq0 : Nat), u = pt bq0 ∧ Sep.St [reorder_Order.at bq0 r, R] w0 w) := by
 unfold reorder_New.f at H
 refine calls_enter func167 rfl rfl ?_
 have H : _ = some r := H
 refine V.seq (V.region (W.as rfl (W.nx (V.seq (V.region (W.mv rfl (W.mv rfl ?_)))))))
 obtain ⟨t1, A2, H⟩ := bind_s H
 refine W.e (Y.cl func226 (backlog_Cut.calls A2 HS.j0)) rfl ?_
 rintro _ w ⟨rfl, HS⟩
 replace HS := HS.o0
 refine W.mv rfl (W.r (X.extract rfl rfl) rfl (W.r (X.extract rfl rfl) rfl (W.as rfl (W.as rfl (W.nx (V.seq (V.region (W.mv rfl (W.mv rfl (W.e (Y.makeMap HS) rfl ?_))))))))))
 rintro _ w ⟨mb3, rfl, HS⟩
 replace HS := St.put (A := tieM (El.sl (El.int .u8)) ([]) (([] : List (Int × (List Int))))) (fun _ => tv) HS
 refine W.r (X.bd (Value.agg #[vi t1.1, vi t1.2, vi (0), Value.map (some mb3), vs none 0 0]) rfl (fun _ => by kernel_rfl)) rfl (W.e (Y.box HS rfl) rfl ?_)
 rintro _ w ⟨nb4, rfl, HS⟩
 refine W.as rfl (W.nx (V.ret ?_))
 replace HS := row_nilE (El.sl (El.int .u8)) 48 1 HS
 replace HS := HS.pm [2, 4, 3, 0, 1, 5]
 replace HS := reorder_Order.close (l4 := ([] : List (List Int))) tv HS
 cases H
 exact At.ret1 rfl rfl ⟨_, rfl, nb4, rfl, HS⟩
structure clock_Set where
 now : Int
 left : List Int
deriving DecidableEq, Inhabited
def clock_Set.at (b : Nat) (x : clock_Set) : As := fun h => (x.left.length = 32) ∧ Sp [blk b (([Value.int .u32 x.now] ++ x.left.map (Value.int .i64)).toArray) 253] h
theorem clock_Set.open {b : Nat} {x : clock_Set} {L : List As} {w0 w : World} (hs : Sep.St (clock_Set.at b x :: L) w0 w) : (x.left.length = 32) ∧ Sep.St (blk b (([Value.int .u32 x.now] ++ x.left.map (Value.int .i64)).toArray) 253 :: L) w0 w := by
 obtain ⟨ho, ht, hu, h, hon, h1, h2, hd, e1, e2, ⟨hi, hA⟩, hl⟩ := hs
 exact ⟨hi, St.open (m := [blk b (([Value.int .u32 x.now] ++ x.left.map (Value.int .i64)).toArray) 253]) ⟨ho, ht, hu, h, hon, h1, h2, hd, e1, e2, hA, hl⟩⟩
theorem clock_Set.close {b : Nat} {l0 : Int} {l1 : List Int}  {L : List As} {w0 w : World} (hi : l1.length = 32) (hs : Sep.St (blk b (([Value.int .u32 l0] ++ l1.map (Value.int .i64)).toArray) 253 :: L) w0 w) : Sep.St (clock_Set.at b ({ now := l0, left := l1 } : clock_Set) :: L) w0 w := by
 have h2 := St.join (m := [blk b (([Value.int .u32 l0] ++ l1.map (Value.int .i64)).toArray) 253]) hs
 exact h2.mono fun h hh => ⟨hi, hh⟩
def clock_New.f (a0 : Int) : Option clock_Set := some ({ now := a0, left := List.replicate 32 0 } : clock_Set)
theorem clock_New.calls {a0 : Int} {R : As} {w0 w : World}  {r : clock_Set} (H : clock_New.f a0 = some r) (HS : Sep.St [R] w0 w)  : Calls Tryz.prog 168 #[Value.int .u32 a0] w (Ret fun u w => ∃ (bq0 : Nat), u = pt bq0 ∧ Sep.St [clock_Set.at bq0 r, R] w0 w) := by
 unfold clock_New.f at H
 refine calls_enter func168 rfl rfl ?_
 have H : _ = some r := H
 refine V.seq (V.region (W.as rfl (W.nx (V.seq (V.region (W.mv rfl (W.r (X.bd (Value.agg (([Value.int .u32 a0] ++ (List.replicate 32 0).map (Value.int .i64)).toArray)) rfl (fun _ => by kernel_rfl)) rfl (W.e (Y.box HS rfl) rfl ?_))))))))
 rintro _ w ⟨nb1, rfl, HS⟩
 refine W.as rfl (W.nx (V.ret ?_))
 replace HS := clock_Set.close (by first | exact (by simp) | (simp only [List.length_set]; exact (by simp))) HS
 cases H
 exact At.ret1 rfl rfl ⟨_, rfl, nb1, rfl, HS⟩
structure arq_Arq where
 m : Int
 t1 : Int
 n2 : Int
 size : Int
 state : Int
 tag : Int
 tries : Int
 rejected : Bool
 log : backlog_Log
 order : reorder_Order
 timers : clock_Set
 out : List (List Int)
 inds : List Int
 sent : Int
 acked : Int
 lost : Int
deriving DecidableEq, Inhabited
def arq_Arq.at (b : Nat) (x : arq_Arq) : As := fun h => True ∧ ∃ b8 : Nat, ∃ b9 : Nat, ∃ b10 : Nat, ∃ a11 : Option Addr, ∃ c11 : Nat, ∃ d11 : List Value, ∃ a12 : Option Addr, ∃ c12 : Nat, Sp [blk b (#[vi x.m, vi x.t1, vi x.n2, vi x.size, vi x.state, vi x.tag, vi x.tries, vb x.rejected, pt b8, pt b9, pt b10, vs a11 x.out.length c11, vs a12 x.inds.length c12, vi x.sent, vi x.acked, vi x.lost]) 158, backlog_Log.at b8 x.log, reorder_Order.at b9 x.order, clock_Set.at b10 x.timers, row 48 1 (.slice a11 x.out.length c11) x.out.length d11, tie (El.sl (El.int .u8)) d11 x.out, row 3 1 (.slice a12 x.inds.length c12) x.inds.length (x.inds.map (Value.int .i64))] h
theorem arq_Arq.open {b : Nat} {x : arq_Arq} {L : List As} {w0 w : World} (hs : Sep.St (arq_Arq.at b x :: L) w0 w) : ∃ b8 : Nat, ∃ b9 : Nat, ∃ b10 : Nat, ∃ a11 : Option Addr, ∃ c11 : Nat, ∃ d11 : List Value, ∃ a12 : Option Addr, ∃ c12 : Nat, True ∧ Sep.St (blk b (#[vi x.m, vi x.t1, vi x.n2, vi x.size, vi x.state, vi x.tag, vi x.tries, vb x.rejected, pt b8, pt b9, pt b10, vs a11 x.out.length c11, vs a12 x.inds.length c12, vi x.sent, vi x.acked, vi x.lost]) 158 :: backlog_Log.at b8 x.log :: reorder_Order.at b9 x.order :: clock_Set.at b10 x.timers :: row 48 1 (.slice a11 x.out.length c11) x.out.length d11 :: tie (El.sl (El.int .u8)) d11 x.out :: row 3 1 (.slice a12 x.inds.length c12) x.inds.length (x.inds.map (Value.int .i64)) :: L) w0 w := by
 obtain ⟨ho, ht, hu, h, hon, h1, h2, hd, e1, e2, ⟨hi, b8, b9, b10, a11, c11, d11, a12, c12, hA⟩, hl⟩ := hs
 exact ⟨b8, b9, b10, a11, c11, d11, a12, c12, hi, St.open (m := [blk b (#[vi x.m, vi x.t1, vi x.n2, vi x.size, vi x.state, vi x.tag, vi x.tries, vb x.rejected, pt b8, pt b9, pt b10, vs a11 x.out.length c11, vs a12 x.inds.length c12, vi x.sent, vi x.acked, vi x.lost]) 158, backlog_Log.at b8 x.log, reorder_Order.at b9 x.order, clock_Set.at b10 x.timers, row 48 1 (.slice a11 x.out.length c11) x.out.length d11, tie (El.sl (El.int .u8)) d11 x.out, row 3 1 (.slice a12 x.inds.length c12) x.inds.length (x.inds.map (Value.int .i64))]) ⟨ho, ht, hu, h, hon, h1, h2, hd, e1, e2, hA, hl⟩⟩
theorem arq_Arq.close {b : Nat} {l0 : Int} {l1 : Int} {l2 : Int} {l3 : Int} {l4 : Int} {l5 : Int} {l6 : Int} {l7 : Bool} {l8 : backlog_Log} {l9 : reorder_Order} {l10 : clock_Set} {l11 : List (List Int)} {l12 : List Int} {l13 : Int} {l14 : Int} {l15 : Int} {b8 : Nat} {b9 : Nat} {b10 : Nat} {a11 : Option Addr} {c11 : Nat} {d11 : List Value} {a12 : Option Addr} {c12 : Nat} {L : List As} {w0 w : World} (hi : True) (hs : Sep.St (blk b (#[vi l0, vi l1, vi l2, vi l3, vi l4, vi l5, vi l6, vb l7, pt b8, pt b9, pt b10, vs a11 l11.length c11, vs a12 l12.length c12, vi l13, vi l14, vi l15]) 158 :: backlog_Log.at b8 l8 :: reorder_Order.at b9 l9 :: clock_Set.at b10 l10 :: row 48 1 (.slice a11 l11.length c11) l11.length d11 :: tie (El.sl (El.int .u8)) d11 l11 :: row 3 1 (.slice a12 l12.length c12) l12.length (l12.map (Value.int .i64)) :: L) w0 w) : Sep.St (arq_Arq.at b ({ m := l0, t1 := l1, n2 := l2, size := l3, state := l4, tag := l5, tries := l6, rejected := l7, log := l8, order := l9, timers := l10, out := l11, inds := l12, sent := l13, acked := l14, lost := l15 } : arq_Arq) :: L) w0 w := by
 have h2 := St.join (m := [blk b (#[vi l0, vi l1, vi l2, vi l3, vi l4, vi l5, vi l6, vb l7, pt b8, pt b9, pt b10, vs a11 l11.length c11, vs a12 l12.length c12, vi l13, vi l14, vi l15]) 158, backlog_Log.at b8 l8, reorder_Order.at b9 l9, clock_Set.at b10 l10, row 48 1 (.slice a11 l11.length c11) l11.length d11, tie (El.sl (El.int .u8)) d11 l11, row 3 1 (.slice a12 l12.length c12) l12.length (l12.map (Value.int .i64))]) hs
 exact h2.mono fun h hh => ⟨hi, _, _, _, _, _, _, _, _, hh⟩
mutual
def arq_New.j0 (a0 : api_Config) (x3 : Int) : Option arq_Arq := ((arq_cut.f a0.T1 1 1048576).bind fun t7 => ((arq_cut.f a0.N2 1 100).bind fun t9 => ((arq_cut.f a0.Size 1 1000).bind fun t11 => ((backlog_New.f x3 a0.Window a0.Queue).bind fun t13 => ((reorder_New.f x3 a0.Window).bind fun t15 => ((clock_New.f 0).bind fun t17 => some (({ m := x3, t1 := t7, n2 := t9, size := t11, state := 0, tag := 0, tries := 0, rejected := false, log := t13, order := t15, timers := t17, out := ([] : List (List Int)), inds := ([] : List Int), sent := 0, acked := 0, lost := 0 } : arq_Arq))))))))
end
def arq_New.f (a0 : api_Config) : Option arq_Arq := (if a0.Modulus = 32768 then (arq_New.j0 a0 32768) else (arq_New.j0 a0 128))
theorem arq_New.calls {a0 : api_Config} {R : As} {w0 w : World}  {r : arq_Arq} (H : arq_New.f a0 = some r) (HS : Sep.St [R] w0 w)  : Calls Tryz.prog 102 #[Value.agg #[vi a0.Mode, vi a0.Modulus, vi a0.Window, vi a0.T1, vi a0.N2, vi a0.Hold, vi a0.Wait, vi a0.Keep, vi a0.Queue, vi a0.Size, vi a0.Ring, vi a0.Rate, vi a0.Bad, vi a0.Good, vb a0.Revert, vb a0.Wide]] w (Ret fun u w => ∃ (bq0 : Nat), u = pt bq0 ∧ Sep.St [arq_Arq.at bq0 r, R] w0 w) := by
 unfold arq_New.f at H
 refine calls_enter func102 rfl rfl ?_
 have H : _ = some r := H
 refine V.seq (V.region (W.e (Y.box HS rfl) rfl ?_))
 rintro _ w ⟨nb1, rfl, HS⟩
 refine W.as rfl (W.nx (V.seq (V.region (W.as rfl (W.nx (V.meet (σ := Int) (fun st w => match st with | x3 => Sep.St [api_Config.at nb1 a0, R] w0 w ∧ arq_New.j0 a0 x3 = some r) (fun st => match st with | x3 => [(1, pt nb1), (3, vi x3)]) ?_ ?_))))))
 ·refine V.seq (V.region (W.fa fo23_1 rfl (W.ld 0 HS underlying3 rfl rfl rfl rfl (W.r (X.cmp (decide (a0.Modulus = 32768)) rfl rfl rfl rfl) rfl (W.nx ?_)))))
  by_cases c20 : a0.Modulus = 32768
  ·replace H := ite_t c20 H
   refine V.condT (sb (dT c20)) (V.region (W.as rfl (W.nil ?_)))
   replace HS := api_Config.close tv HS
   exact At.meet (32768) ⟨rfl, rfl, tv⟩ ⟨HS, H⟩
  ·replace H := ite_f c20 H
   refine V.condF (sb (dF c20)) (V.skip ?_)
   replace HS := api_Config.close tv HS
   exact At.meet (128) ⟨rfl, rfl, tv⟩ ⟨HS, H⟩
 ·rintro x3 w ⟨HS, H⟩
  unfold arq_New.j0 at H
  refine V.seq ?_
  obtain ⟨hi6, HS⟩ := api_Config.open HS
  refine V.dr [3, 6, 9, 15, 19, 20, 22] [21, 23] [(7, vi x3), (8, po nb1 (0 + 3)), (9, vi a0.T1), (11, po nb1 (0 + 4)), (12, vi a0.N2), (14, po nb1 (0 + 9)), (15, vi a0.Size), (17, vi x3), (18, po nb1 (0 + 2)), (19, vi a0.Window), (20, po nb1 (0 + 8)), (21, vi a0.Queue), (23, vi x3), (24, po nb1 (0 + 2)), (25, vi a0.Window)] mo HS ?_
  refine T.ev [(9, _)] [21, 23] [1, 2] ⟨rfl, tv⟩ ⟨.mv 3, .fa 1 fo23_3, .ld 8 0 underlying3, .fa 1 fo23_4, .ld 11 0 underlying3, .fa 1 fo23_9, .ld 14 0 underlying3, .mv 3, .fa 1 fo23_2, .ld 18 0 underlying3, .fa 1 fo23_8, .ld 20 0 underlying3, .mv 3, .fa 1 fo23_2, .ld 24 0 underlying3, tv⟩ rfl (fun w HS => ?_)
  obtain ⟨t7, A8, H⟩ := bind_s H
  refine ⟨_, Y.cl func165 (arq_cut.calls A8 HS.j0), ?_⟩
  rintro _ w ⟨rfl, HS⟩
  replace HS := HS.o0
  refine T.nw HS ?_
  refine T.ev [(12, _)] [21, 23] [4, 5] ⟨rfl, tv⟩ ⟨.mv 3, .fa 1 fo23_4, .ld 11 0 underlying3, .fa 1 fo23_9, .ld 14 0 underlying3, .mv 3, .fa 1 fo23_2, .ld 18 0 underlying3, .fa 1 fo23_8, .ld 20 0 underlying3, .mv 3, .fa 1 fo23_2, .ld 24 0 underlying3, tv⟩ rfl (fun w HS => ?_)
  obtain ⟨t9, A10, H⟩ := bind_s H
  refine ⟨_, Y.cl func165 (arq_cut.calls A10 HS.j0), ?_⟩
  rintro _ w ⟨rfl, HS⟩
  replace HS := HS.o0
  refine T.nw HS ?_
  refine T.ev [(15, _)] [21, 23] [7, 8] ⟨rfl, tv⟩ ⟨.mv 3, .fa 1 fo23_9, .ld 14 0 underlying3, .mv 3, .fa 1 fo23_2, .ld 18 0 underlying3, .fa 1 fo23_8, .ld 20 0 underlying3, .mv 3, .fa 1 fo23_2, .ld 24 0 underlying3, tv⟩ rfl (fun w HS => ?_)
  obtain ⟨t11, A12, H⟩ := bind_s H
  refine ⟨_, Y.cl func165 (arq_cut.calls A12 HS.j0), ?_⟩
  rintro _ w ⟨rfl, HS⟩
  replace HS := HS.o0
  refine T.nw HS ?_
  refine T.ev [(17, _), (19, _), (21, _)] [21, 23] [10, 11, 12, 13, 14] ⟨rfl, rfl, rfl, tv⟩ ⟨.mv 3, .mv 3, .fa 1 fo23_2, .ld 18 0 underlying3, .fa 1 fo23_8, .ld 20 0 underlying3, .mv 3, .fa 1 fo23_2, .ld 24 0 underlying3, tv⟩ rfl (fun w HS => ?_)
  obtain ⟨t13, A14, H⟩ := bind_s H
  refine ⟨_, Y.cl func166 (backlog_New.calls A14 HS.j0), ?_⟩
  rintro _ w ⟨bt13_0, rfl, HS⟩
  replace HS := HS.o1
  refine T.nw HS ?_
  refine T.ev [(23, _), (25, _)] [21, 23] [16, 17, 18] ⟨rfl, rfl, tv⟩ ⟨.mv 3, .mv 3, .fa 1 fo23_2, .ld 24 1 underlying3, tv⟩ rfl (fun w HS => ?_)
  obtain ⟨t15, A16, H⟩ := bind_s H
  refine ⟨_, Y.cl func167 (reorder_New.calls A16 HS.j0), ?_⟩
  rintro _ w ⟨bt15_0, rfl, HS⟩
  replace HS := HS.o1
  refine T.nw HS ?_
  refine T.ev [] [23] [] tv ⟨.mv 3, tv⟩ rfl (fun w HS => ?_)
  obtain ⟨t17, A18, H⟩ := bind_s H
  refine ⟨_, Y.cl func168 (clock_New.calls A18 HS.j0), ?_⟩
  rintro _ w ⟨bt17_0, rfl, HS⟩
  replace HS := HS.o1
  refine T.nm [(27, pt bt17_0), (28, Value.agg #[vi x3, vi t7, vi t9, vi t11, vi (0), vi (0), vi (0), vb false, pt bt13_0, pt bt15_0, pt bt17_0, vs none 0 0, vs none 0 0, vi (0), vi (0), vi (0)])] HS ⟨.inl ⟨rfl, rfl⟩, ⟨.inr ⟨by decide, rfl⟩, tv⟩⟩ ?_
  refine T.ev [(28, _)] [] [0, 21] ⟨rfl, tv⟩ ⟨.mv 3, .ns [(7, _), (10, _), (13, _), (16, _), (22, _), (26, _), (27, _)] ⟨rfl, rfl, rfl, rfl, rfl, rfl, rfl, tv⟩ rfl (fun w HS => X.bd (Value.agg #[vi x3, vi t7, vi t9, vi t11, vi (0), vi (0), vi (0), vb false, pt bt13_0, pt bt15_0, pt bt17_0, vs none 0 0, vs none 0 0, vi (0), vi (0), vi (0)]) rfl (fun _ => by kernel_rfl)), tv⟩ rfl (fun w HS => ?_)
  refine ⟨_, Y.box HS rfl, ?_⟩
  rintro _ w ⟨nb19, rfl, HS⟩
  refine T.nm [(29, pt nb19), (2, pt nb19)] HS ⟨.inl ⟨rfl, rfl⟩, ⟨.inr ⟨by decide, rfl⟩, tv⟩⟩ ?_
  refine T.fn [(2, _)] ⟨rfl, tv⟩ ⟨.as 29, tv⟩ (fun w HS => ?_)
  refine At.next (V.ret ?_)
  replace HS := row_nilE (El.sl (El.int .u8)) 48 1 HS
  replace HS := row_nilF (Value.int .i64) 3 1 HS
  replace HS := HS.pm [3, 6, 5, 4, 1, 2, 0, 7, 8]
  replace HS := arq_Arq.close (l11 := ([] : List (List Int))) (l12 := ([] : List Int)) tv HS
  replace HS := HS.pk [0, 2] [1]
  cases H
  exact At.ret1 rfl rfl ⟨_, rfl, nb19, rfl, HS⟩
structure aps_Aps where
 hold : Int
 wait : Int
 revert : Bool
 command : Int
 remote : Int
 own : Int
 bad : Int
 left : Int
 line : Int
deriving DecidableEq, Inhabited
def aps_Aps.at (b : Nat) (x : aps_Aps) : As := fun h => True ∧ Sp [blk b (#[vi x.hold, vi x.wait, vb x.revert, vi x.command, vi x.remote, vi x.own, vi x.bad, vi x.left, vi x.line]) 168] h
theorem aps_Aps.open {b : Nat} {x : aps_Aps} {L : List As} {w0 w : World} (hs : Sep.St (aps_Aps.at b x :: L) w0 w) : True ∧ Sep.St (blk b (#[vi x.hold, vi x.wait, vb x.revert, vi x.command, vi x.remote, vi x.own, vi x.bad, vi x.left, vi x.line]) 168 :: L) w0 w := by
 obtain ⟨ho, ht, hu, h, hon, h1, h2, hd, e1, e2, ⟨hi, hA⟩, hl⟩ := hs
 exact ⟨hi, St.open (m := [blk b (#[vi x.hold, vi x.wait, vb x.revert, vi x.command, vi x.remote, vi x.own, vi x.bad, vi x.left, vi x.line]) 168]) ⟨ho, ht, hu, h, hon, h1, h2, hd, e1, e2, hA, hl⟩⟩
theorem aps_Aps.close {b : Nat} {l0 : Int} {l1 : Int} {l2 : Bool} {l3 : Int} {l4 : Int} {l5 : Int} {l6 : Int} {l7 : Int} {l8 : Int}  {L : List As} {w0 w : World} (hi : True) (hs : Sep.St (blk b (#[vi l0, vi l1, vb l2, vi l3, vi l4, vi l5, vi l6, vi l7, vi l8]) 168 :: L) w0 w) : Sep.St (aps_Aps.at b ({ hold := l0, wait := l1, revert := l2, command := l3, remote := l4, own := l5, bad := l6, left := l7, line := l8 } : aps_Aps) :: L) w0 w := by
 have h2 := St.join (m := [blk b (#[vi l0, vi l1, vb l2, vi l3, vi l4, vi l5, vi l6, vi l7, vi l8]) 168]) hs
 exact h2.mono fun h hh => ⟨hi, hh⟩
def aps_New.f (a0 : Int) (a1 : Int) (a2 : Bool) : Option aps_Aps := some (({ hold := imax (0) (imin a0 (1048576)), wait := imax (1) (imin a1 (1048576)), revert := a2, command := 0, remote := 0, own := 0, bad := 0, left := 0, line := 0 } : aps_Aps))
theorem aps_New.calls {a0 : Int} {a1 : Int} {a2 : Bool} {R : As} {w0 w : World}  {r : aps_Aps} (H : aps_New.f a0 a1 a2 = some r) (HS : Sep.St [R] w0 w)  : Calls Tryz.prog 103 #[vi a0, vi a1, vb a2] w (Ret fun u w => ∃ (bq0 : Nat), u = pt bq0 ∧ Sep.St [aps_Aps.at bq0 r, R] w0 w) := by
 unfold aps_New.f at H
 refine calls_enter func103 rfl rfl ?_
 have H : _ = some r := H
 refine V.seq (V.region (W.as rfl (W.nx (V.seq (V.region (W.mv rfl (W.r (X.min2 rfl rfl) rfl (W.r (X.max2 rfl rfl) rfl (W.mv rfl (W.r (X.min2 rfl rfl) rfl (W.r (X.max2 rfl rfl) rfl (W.mv rfl (W.r (X.bd (Value.agg #[vi (imax (0) (imin a0 (1048576))), vi (imax (1) (imin a1 (1048576))), vb a2, vi (0), vi (0), vi (0), vi (0), vi (0), vi (0)]) rfl (fun _ => by kernel_rfl)) rfl (W.e (Y.box HS rfl) rfl ?_))))))))))))))
 rintro _ w ⟨nb1, rfl, HS⟩
 refine W.as rfl (W.nx (V.ret ?_))
 replace HS := aps_Aps.close tv HS
 cases H
 exact At.ret1 rfl rfl ⟨_, rfl, nb1, rfl, HS⟩
structure twins_Table where
 known : Bool
 highest : Int
 at_ : Int
 came : List Bool
deriving DecidableEq, Inhabited
def twins_Table.at (b : Nat) (x : twins_Table) : As := fun h => True ∧ ∃ a3 : Option Addr, ∃ c3 : Nat, Sp [blk b (#[vb x.known, Value.int .u32 x.highest, vi x.at_, vs a3 x.came.length c3]) 200, row 4 1 (.slice a3 x.came.length c3) x.came.length (x.came.map Value.bool)] h
theorem twins_Table.open {b : Nat} {x : twins_Table} {L : List As} {w0 w : World} (hs : Sep.St (twins_Table.at b x :: L) w0 w) : ∃ a3 : Option Addr, ∃ c3 : Nat, True ∧ Sep.St (blk b (#[vb x.known, Value.int .u32 x.highest, vi x.at_, vs a3 x.came.length c3]) 200 :: row 4 1 (.slice a3 x.came.length c3) x.came.length (x.came.map Value.bool) :: L) w0 w := by
 obtain ⟨ho, ht, hu, h, hon, h1, h2, hd, e1, e2, ⟨hi, a3, c3, hA⟩, hl⟩ := hs
 exact ⟨a3, c3, hi, St.open (m := [blk b (#[vb x.known, Value.int .u32 x.highest, vi x.at_, vs a3 x.came.length c3]) 200, row 4 1 (.slice a3 x.came.length c3) x.came.length (x.came.map Value.bool)]) ⟨ho, ht, hu, h, hon, h1, h2, hd, e1, e2, hA, hl⟩⟩
theorem twins_Table.close {b : Nat} {l0 : Bool} {l1 : Int} {l2 : Int} {l3 : List Bool} {a3 : Option Addr} {c3 : Nat} {L : List As} {w0 w : World} (hi : True) (hs : Sep.St (blk b (#[vb l0, Value.int .u32 l1, vi l2, vs a3 l3.length c3]) 200 :: row 4 1 (.slice a3 l3.length c3) l3.length (l3.map Value.bool) :: L) w0 w) : Sep.St (twins_Table.at b ({ known := l0, highest := l1, at_ := l2, came := l3 } : twins_Table) :: L) w0 w := by
 have h2 := St.join (m := [blk b (#[vb l0, Value.int .u32 l1, vi l2, vs a3 l3.length c3]) 200, row 4 1 (.slice a3 l3.length c3) l3.length (l3.map Value.bool)]) hs
 exact h2.mono fun h hh => ⟨hi, _, _, hh⟩
def twins_New.f (a0 : Int) : Option twins_Table := (if 0 ≤ imax (1) (imin a0 (4096)) ∧ imax (1) (imin a0 (4096)) ≤ 1099511627776 then some (({ known := false, highest := 0, at_ := 0, came := List.replicate (imax (1) (imin a0 (4096))).toNat false } : twins_Table)) else none)
theorem twins_New.calls {a0 : Int} {R : As} {w0 w : World}  {r : twins_Table} (H : twins_New.f a0 = some r) (HS : Sep.St [R] w0 w)  : Calls Tryz.prog 104 #[vi a0] w (Ret fun u w => ∃ (bq0 : Nat), u = pt bq0 ∧ Sep.St [twins_Table.at bq0 r, R] w0 w) := by
 unfold twins_New.f at H
 refine calls_enter func104 rfl rfl ?_
 have H : _ = some r := H
 refine V.seq (V.region (W.as rfl (W.nx (V.seq (V.region (W.mv rfl (W.r (X.min2 rfl rfl) rfl (W.r (X.max2 rfl rfl) rfl ?_))))))))
 obtain ⟨c1, H⟩ := ite_n H
 refine W.e (Y.makeSl (g := Value.bool) (N := imax (1) (imin a0 (4096))) false underlying172 ap4 rfl HS rfl rfl c1 (by decide)) rfl ?_
 rintro _ w ⟨ra2, rc3, rfl, HS⟩
 refine W.r (X.bd (Value.agg #[vb false, Value.int .u32 (0), vi (0), vs ra2 (List.replicate (imax (1) (imin a0 (4096))).toNat false).length rc3]) rfl (fun _ => by kernel_rfl)) rfl (W.e (Y.box HS rfl) rfl ?_)
 rintro _ w ⟨nb4, rfl, HS⟩
 refine W.as rfl (W.nx (V.ret ?_))
 replace HS := twins_Table.close tv HS
 cases H
 exact At.ret1 rfl rfl ⟨_, rfl, nb4, rfl, HS⟩
mutual
def fcs_turned.l0 : Nat → Int → Int → Int → Option Int
 | 0, _, _, _ => none
 | k + 1, a1, x1, x2 => (if x2 < 8 then (if (iand .u32 x1 (1)) = 1 then (fcs_turned.l0 k a1 (ixor .u32 (x1.fdiv (2 ^ (min (1 : Int).toNat IntKind.u32.bits))) a1) (w64 (x2 + 1))) else (fcs_turned.l0 k a1 (x1.fdiv (2 ^ (min (1 : Int).toNat IntKind.u32.bits))) (w64 (x2 + 1)))) else some x1)
end
def fcs_turned.f (k : Nat) (a0 : Int) (a1 : Int) : Option Int := (fcs_turned.l0 k a1 a0 0)
theorem fcs_turned.calls {k : Nat} {a0 : Int} {a1 : Int} {R : As} {w0 w : World}  {r : Int} (H : fcs_turned.f k a0 a1 = some r) (HS : Sep.St [R] w0 w)  : Calls Tryz.prog 319 #[Value.int .u32 a0, Value.int .u32 a1] w (Ret fun u w => u = Value.int .u32 r ∧ Sep.St [R] w0 w) := by
 unfold fcs_turned.f at H
 refine calls_enter func319 rfl rfl ?_
 have H : _ = some r := H
 refine V.seq (V.region (W.as rfl (W.nx (V.seq (V.seq (V.region (W.mv rfl (W.nx (V.block (V.loop (σ := Int × Int) (fun kq (st : Int × Int) w => match st with | (x1, x2) => Sep.St [R] w0 w ∧ fcs_turned.l0 kq a1 x1 x2 = some r ∧ kq ≤ k) (fun st => match st with | (x1, x2) => [(0, Value.int .u32 x1), (1, Value.int .u32 a1), (6, vi x2)]) k (a0, 0) ⟨rfl, rfl, rfl, tv⟩ ⟨HS, H, Nat.le_refl _⟩ ?_))))))))))
 rintro kq3 ⟨x1, x2⟩ w ⟨HS, H, hk4⟩
 cases kq3 with
 | zero => exact absurd H (by simp [fcs_turned.l0])
 | succ kq3 =>
  simp only [fcs_turned.l0] at H
  refine V.seq (V.region (W.r (X.cmp (decide (x2 < 8)) rfl rfl rfl rfl) rfl (W.nx (V.seq ?_))))
  by_cases c5 : x2 < 8
  ·replace H := ite_t c5 H
   refine V.condT (sb (dT c5)) (V.skip (At.next (V.seq (V.block (V.seq (V.region (W.mv rfl (W.r (X.and rfl rfl) rfl (W.as rfl (W.nx (V.seq (V.region (W.mv rfl (W.r (X.shr rfl rfl (by decide)) rfl (W.as rfl (W.nx (V.seq (V.region (W.mv rfl (W.r (X.cmp (decide ((iand .u32 x1 (1)) = 1)) rfl rfl rfl rfl) rfl (W.nx ?_)))))))))))))))))))))
   by_cases c6 : (iand .u32 x1 (1)) = 1
   ·replace H := ite_t c6 H
    refine V.condT (sb (dT c6)) (V.region (W.mv rfl (W.mv rfl (W.r (X.xor rfl rfl) rfl (W.as rfl (W.nil (At.blockEnd (At.next (V.region (W.r (X.add rfl rfl) rfl (W.mv rfl (W.nil ?_))))))))))))
    exact At.round kq3 (by omega) (ixor .u32 (x1.fdiv (2 ^ (min (1 : Int).toNat IntKind.u32.bits))) a1, w64 (x2 + 1)) ⟨rfl, rfl, rfl, tv⟩ ⟨HS, H, by omega⟩
   ·replace H := ite_f c6 H
    refine V.condF (sb (dF c6)) (V.skip (At.blockEnd (At.next (V.region (W.r (X.add rfl rfl) rfl (W.mv rfl (W.nil ?_)))))))
    exact At.round kq3 (by omega) (x1.fdiv (2 ^ (min (1 : Int).toNat IntKind.u32.bits)), w64 (x2 + 1)) ⟨rfl, rfl, rfl, tv⟩ ⟨HS, H, by omega⟩
  ·replace H := ite_f c5 H
   refine V.condF (sb (dF c5)) (V.exit (At.thenExit (At.thenExit (At.blockExit (At.next (V.seq (V.region (W.mv rfl (W.as rfl (W.nx (V.ret ?_)))))))))))
   cases H
   exact At.ret1 rfl rfl ⟨_, rfl, rfl, HS⟩
mutual
def fcs_sum.l0 : Nat → (List Int) → Int → Int → Int → Option Int
 | 0, _, _, _, _ => none
 | k + 1, a0, a2, x1, x2 => (if x2 < (a0.length : Int) then (if 0 ≤ x2 ∧ x2 < (a0.length : Int) then ((fcs_turned.f k (ixor .u32 x1 (IntKind.u32.wrap (a0.getD x2.toNat 0))) a2).bind fun t9 => (fcs_sum.l0 k a0 a2 t9 (w64 (x2 + 1)))) else none) else some (icom .u32 x1))
end
def fcs_sum.f (k : Nat) (a0 : List Int) (a1 : Int) (a2 : Int) : Option Int := (fcs_sum.l0 k a0 a2 a1 0)
theorem fcs_sum.calls {k : Nat} {a0 : List Int} {a1 : Int} {a2 : Int} {R : As} {w0 w : World} {sa0 : Option Addr} {sc0 : Nat} {r : Int} (H : fcs_sum.f k a0 a1 a2 = some r) (HS : Sep.St [R] w0 w) (hr0 : rdC R 1 (.slice sa0 a0.length sc0) a0.length (a0.map (Value.int .u8))) : Calls Tryz.prog 313 #[vs sa0 a0.length sc0, Value.int .u32 a1, Value.int .u32 a2] w (Ret fun u w => u = Value.int .u32 r ∧ Sep.St [R] w0 w) := by
 unfold fcs_sum.f at H
 refine calls_enter func313 rfl rfl ?_
 have H : _ = some r := H
 refine V.seq (V.region (W.as rfl (W.nx (V.seq (V.seq (V.region (W.mv rfl (W.r (X.lenSl underlying48 rfl) rfl (W.mv rfl (W.nx (V.block (V.loop (σ := Int × Int) (fun kq (st : Int × Int) w => match st with | (x1, x2) => Sep.St [R] w0 w ∧ fcs_sum.l0 kq a0 a2 x1 x2 = some r ∧ kq ≤ k) (fun st => match st with | (x1, x2) => [(1, Value.int .u32 x1), (2, Value.int .u32 a2), (9, vs sa0 a0.length sc0), (10, vi (a0.length : Int)), (11, vi x2)]) k (a1, 0) ⟨rfl, rfl, rfl, rfl, rfl, tv⟩ ⟨HS, H, Nat.le_refl _⟩ ?_))))))))))))
 rintro kq3 ⟨x1, x2⟩ w ⟨HS, H, hk4⟩
 cases kq3 with
 | zero => exact absurd H (by simp [fcs_sum.l0])
 | succ kq3 =>
  simp only [fcs_sum.l0] at H
  refine V.seq (V.region (W.r (X.cmp (decide (x2 < (a0.length : Int))) rfl rfl rfl rfl) rfl (W.nx (V.seq ?_))))
  by_cases c5 : x2 < (a0.length : Int)
  ·replace H := ite_t c5 H
   refine V.condT (sb (dT c5)) (V.skip (At.next (V.seq (V.block (V.seq (V.region ?_))))))
   obtain ⟨c6, H⟩ := ite_n H
   obtain ⟨eb7, eo8, hh⟩ := (rdC.at 0 hr0 HS rfl).some (by decide) c6.1 c6.2; subst hh
   refine W.r (X.indexSl underlying48 inf5 rfl rfl c6.1 c6.2) rfl (W.r (X.load underlying5 rfl rfl ((rdC.at 0 hr0 HS rfl).cellI c6.1 c6.2)) rfl (W.as rfl (W.nx (V.region (W.mv rfl (W.mv rfl (W.r (X.conv underlying5 underlying95 rfl) rfl (W.r (X.xor rfl rfl) rfl (W.mv rfl ?_)))))))))
   obtain ⟨t9, A10, H⟩ := bind_s H
   refine W.e (Y.cl func319 (fcs_turned.calls A10 HS.j0)) rfl ?_
   rintro _ w ⟨rfl, HS⟩
   replace HS := HS.o0
   refine W.as rfl (W.nil (At.blockEnd (At.next (V.region (W.r (X.add rfl rfl) rfl (W.mv rfl (W.nil ?_)))))))
   exact At.round kq3 (by omega) (t9, w64 (x2 + 1)) ⟨rfl, rfl, rfl, rfl, rfl, tv⟩ ⟨HS, H, by omega⟩
  ·replace H := ite_f c5 H
   refine V.condF (sb (dF c5)) (V.exit (At.thenExit (At.thenExit (At.blockExit (At.next (V.seq (V.region (W.mv rfl (W.r (X.com rfl) rfl (W.as rfl (W.nx (V.ret ?_))))))))))))
   cases H
   exact At.ret1 rfl rfl ⟨_, rfl, rfl, HS⟩
def fcs_Short.f (k : Nat) (a0 : List Int) : Option Int := ((fcs_sum.f k a0 65535 33800).bind fun t1 => some (IntKind.u16.wrap t1))
theorem fcs_Short.calls {k : Nat} {a0 : List Int} {R : As} {w0 w : World} {sa0 : Option Addr} {sc0 : Nat} {r : Int} (H : fcs_Short.f k a0 = some r) (HS : Sep.St [R] w0 w) (hr0 : rdC R 1 (.slice sa0 a0.length sc0) a0.length (a0.map (Value.int .u8))) : Calls Tryz.prog 297 #[vs sa0 a0.length sc0] w (Ret fun u w => u = Value.int .u16 r ∧ Sep.St [R] w0 w) := by
 unfold fcs_Short.f at H
 refine calls_enter func297 rfl rfl ?_
 have H : _ = some r := H
 refine V.seq (V.region (W.as rfl (W.nx (V.seq (V.region (W.mv rfl ?_))))))
 obtain ⟨t1, A2, H⟩ := bind_s H
 refine W.e (Y.cl func313 (fcs_sum.calls A2 HS.j0 (rdC.part 0 hr0 rfl))) rfl ?_
 rintro _ w ⟨rfl, HS⟩
 replace HS := HS.o0
 refine W.r (X.conv underlying95 underlying285 rfl) rfl (W.as rfl (W.nx (V.ret ?_)))
 cases H
 exact At.ret1 rfl rfl ⟨_, rfl, rfl, HS⟩
def fcs_Long.f (k : Nat) (a0 : List Int) : Option Int := ((fcs_sum.f k a0 4294967295 3988292384).bind fun t1 => some t1)
theorem fcs_Long.calls {k : Nat} {a0 : List Int} {R : As} {w0 w : World} {sa0 : Option Addr} {sc0 : Nat} {r : Int} (H : fcs_Long.f k a0 = some r) (HS : Sep.St [R] w0 w) (hr0 : rdC R 1 (.slice sa0 a0.length sc0) a0.length (a0.map (Value.int .u8))) : Calls Tryz.prog 298 #[vs sa0 a0.length sc0] w (Ret fun u w => u = Value.int .u32 r ∧ Sep.St [R] w0 w) := by
 unfold fcs_Long.f at H
 refine calls_enter func298 rfl rfl ?_
 have H : _ = some r := H
 refine V.seq (V.region (W.as rfl (W.nx (V.seq (V.region (W.mv rfl ?_))))))
 obtain ⟨t1, A2, H⟩ := bind_s H
 refine W.e (Y.cl func313 (fcs_sum.calls A2 HS.j0 (rdC.part 0 hr0 rfl))) rfl ?_
 rintro _ w ⟨rfl, HS⟩
 replace HS := HS.o0
 refine W.as rfl (W.nx (V.ret ?_))
 cases H
 exact At.ret1 rfl rfl ⟨_, rfl, rfl, HS⟩
mutual
def fcs_tail.l1 : Nat → Int → Int → Int → (List Int) → Option (List Int)
 | 0, _, _, _, _ => none
 | k + 1, x3, x7, x8, x11 => (if x8 < x3 then (if (x11.length : Int) + ([IntKind.u8.wrap x7] : List Int).length ≤ 1099511627776 then (fcs_tail.l1 k x3 (x7.fdiv (2 ^ (min (8 : Int).toNat IntKind.u32.bits))) (w64 (x8 + 1)) (x11 ++ ([IntKind.u8.wrap x7] : List Int))) else none) else some x11)
def fcs_tail.j0 (k : Nat)  (x3 : Int) (x4 : Int) : Option (List Int) := (fcs_tail.l1 k x3 x4 0 ([] : List Int))
end
def fcs_tail.f (k : Nat) (a0 : List Int) (a1 : Bool) : Option (List Int) := ((fcs_Short.f k a0).bind fun t1 => (if a1 = true then ((fcs_Long.f k a0).bind fun t22 => (fcs_tail.j0 k 4 t22)) else (fcs_tail.j0 k 2 (IntKind.u32.wrap t1))))
theorem fcs_tail.calls {k : Nat} {a0 : List Int} {a1 : Bool} {R : As} {w0 w : World} {sa0 : Option Addr} {sc0 : Nat} {r : List Int} (H : fcs_tail.f k a0 a1 = some r) (HS : Sep.St [R] w0 w) (hr0 : rdC R 1 (.slice sa0 a0.length sc0) a0.length (a0.map (Value.int .u8))) : Calls Tryz.prog 267 #[vs sa0 a0.length sc0, vb a1] w (Ret fun u w => ∃ (aq0 : Option Addr) (cq0 : Nat), u = vs aq0 r.length cq0 ∧ Sep.St [row 5 1 (.slice aq0 r.length cq0) r.length (r.map (Value.int .u8)), R] w0 w) := by
 unfold fcs_tail.f at H
 refine calls_enter func267 rfl rfl ?_
 have H : _ = some r := H
 refine V.seq (V.region (W.as rfl (W.nx (V.seq (V.region (W.mv rfl ?_))))))
 obtain ⟨t1, A2, H⟩ := bind_s H
 refine W.e (Y.cl func297 (fcs_Short.calls A2 HS.j0 (rdC.part 0 hr0 rfl))) rfl ?_
 rintro _ w ⟨rfl, HS⟩
 replace HS := HS.o0
 refine W.r (X.conv underlying285 underlying95 rfl) rfl (W.as rfl (W.as rfl (W.nx (V.meet (σ := Int × Int) (fun st w => match st with | (x3, x4) => Sep.St [R] w0 w ∧ ∃ kf5, kf5 ≤ k ∧ fcs_tail.j0 kf5 x3 x4 = some r) (fun st => match st with | (x3, x4) => [(5, vi x3), (6, Value.int .u32 x4)]) ?_ ?_))))
 ·refine V.seq (V.region (W.mv rfl (W.nx ?_)))
  by_cases c21 : a1 = true
  ·replace H := ite_t c21 H
   refine V.condT (sb c21) (V.region (W.mv rfl ?_))
   obtain ⟨t22, A23, H⟩ := bind_s H
   refine W.e (Y.cl func298 (fcs_Long.calls A23 HS.j0 (rdC.part 0 hr0 rfl))) rfl ?_
   rintro _ w ⟨rfl, HS⟩
   replace HS := HS.o0
   refine W.as rfl (W.as rfl (W.nil ?_))
   exact At.meet (4, t22) ⟨rfl, rfl, tv⟩ ⟨HS, k, by omega, H⟩
  ·replace H := ite_f c21 H
   refine V.condF (sb (b_f c21)) (V.skip ?_)
   exact At.meet (2, IntKind.u32.wrap t1) ⟨rfl, rfl, tv⟩ ⟨HS, k, by omega, H⟩
 ·rintro ⟨x3, x4⟩ w ⟨HS, kf5, hkkf5, H⟩
  unfold fcs_tail.j0 at H
  refine V.seq (V.region (W.as rfl (W.nx (V.seq (V.seq (V.region (W.mv rfl (W.mv rfl (W.nx (V.block ?_))))))))))
  replace HS := row_nilF (Value.int .u8) 5 1 HS
  refine V.loop (σ := Int × Int × Option Addr × Nat × List Int) (fun kq (st : Int × Int × Option Addr × Nat × List Int) w => match st with | (x7, x8, ra9, rc10, x11) => Sep.St [row 5 1 (.slice ra9 x11.length rc10) x11.length (x11.map (Value.int .u8)), R] w0 w ∧ fcs_tail.l1 kq x3 x7 x8 x11 = some r ∧ kq ≤ kf5) (fun st => match st with | (x7, x8, ra9, rc10, x11) => [(6, Value.int .u32 x7), (7, vs ra9 x11.length rc10), (14, vi x3), (15, vi x8)]) kf5 (x4, 0, none, 0, ([] : List Int)) ⟨rfl, rfl, rfl, rfl, tv⟩ ⟨HS, H, Nat.le_refl _⟩ ?_
  rintro kq12 ⟨x7, x8, ra9, rc10, x11⟩ w ⟨HS, H, hk13⟩
  cases kq12 with
  | zero => exact absurd H (by simp [fcs_tail.l1])
  | succ kq12 =>
   simp only [fcs_tail.l1] at H
   refine V.seq (V.region (W.r (X.cmp (decide (x8 < x3)) rfl rfl rfl rfl) rfl (W.nx (V.seq ?_))))
   by_cases c14 : x8 < x3
   ·replace H := ite_t c14 H
    refine V.condT (sb (dT c14)) (V.skip (At.next (V.seq (V.block (V.seq (V.region (W.mv rfl (W.mv rfl (W.r (X.conv underlying95 underlying5 rfl) rfl (W.e (Y.ls (e := 5) (Value.int .u8) ([IntKind.u8.wrap x7] : List Int) HS rfl rfl (fun _ => by kernel_rfl)) rfl ?_))))))))))
    rintro _ w ⟨lb17, rfl, HS⟩
    obtain ⟨c18, H⟩ := ite_n H
    refine W.e (Y.appF (Value.int .u8) (fun _ => rfl) 1 underlying48 ap5 rfl HS rfl rfl rfl (rdC.at 0 row_rd HS rfl) (by omega) (by omega)) rfl ?_
    rintro _ w ⟨ra19, rc20, rfl, HS⟩
    refine W.as rfl (W.nx (V.region (W.mv rfl (W.r (X.shr rfl rfl (by decide)) rfl (W.as rfl (W.nil (At.blockEnd (At.next (V.region (W.r (X.add rfl rfl) rfl (W.mv rfl (W.nil ?_))))))))))))
    replace HS := HS.pk [1, 2] [0]
    exact At.round kq12 (by omega) (x7.fdiv (2 ^ (min (8 : Int).toNat IntKind.u32.bits)), w64 (x8 + 1), ra19, rc20, x11 ++ ([IntKind.u8.wrap x7] : List Int)) ⟨rfl, rfl, rfl, rfl, tv⟩ ⟨HS, H, by omega⟩
   ·replace H := ite_f c14 H
    refine V.condF (sb (dF c14)) (V.exit (At.thenExit (At.thenExit (At.blockExit (At.next (V.seq (V.region (W.mv rfl (W.as rfl (W.nx (V.ret ?_)))))))))))
    cases H
    exact At.ret1 rfl rfl ⟨_, rfl, ra9, rc10, rfl, HS⟩
def slices_Grow_Sbytebyte.f (a1 : Int) : Option (List Int) := (if a1 < 0 then none else (if (w64 (a1 - (w64 (0 - 0)))) > 0 then (if w64 (a1 - (w64 (0 - 0))) ≤ 1099511627776 then some ([] : List Int) else none) else some ([] : List Int)))
theorem slices_Grow_Sbytebyte.calls {a1 : Int} {R : As} {w0 w : World}  {r : List Int} (H : slices_Grow_Sbytebyte.f a1 = some r) (HS : Sep.St [R] w0 w)  : Calls Tryz.prog 237 #[vs none 0 0, vi a1] w (Ret fun u w => ∃ (aq0 : Option Addr) (cq0 : Nat), u = vs aq0 r.length cq0 ∧ Sep.St [row 5 1 (.slice aq0 r.length cq0) r.length (r.map (Value.int .u8)), R] w0 w) := by
 unfold slices_Grow_Sbytebyte.f at H
 refine calls_enter func237 rfl rfl ?_
 have H : _ = some r := H
 refine V.seq (V.region (W.as rfl (W.nx (V.seq (V.seq (V.region (W.mv rfl (W.r (X.cmp (decide (a1 < 0)) rfl rfl rfl rfl) rfl (W.nx ?_)))))))))
 by_cases c1 : a1 < 0
 ·replace H := ite_t c1 H
  refine V.condT (sb (dT c1)) ?_
  exact nomatch H
 ·replace H := ite_f c1 H
  refine V.condF (sb (dF c1)) (V.skip (At.next (V.seq (V.seq (V.region (W.mv rfl (W.mv rfl (W.r (X.cap underlying48 rfl) rfl (W.mv rfl (W.r (X.lenSl underlying48 rfl) rfl (W.r (X.sub rfl rfl) rfl (W.r (X.sub rfl rfl) rfl (W.as rfl (W.nx (V.seq (V.region (W.mv rfl (W.r (X.cmp (decide ((w64 (a1 - (w64 (0 - 0)))) > 0)) rfl rfl rfl rfl) rfl (W.nx ?_)))))))))))))))))))
  by_cases c2 : (w64 (a1 - (w64 (0 - 0)))) > 0
  ·replace H := ite_t c2 H
   refine V.condT (sb (dT c2)) (V.region (W.mv rfl (W.mv rfl (W.r (X.cap underlying48 rfl) rfl (W.r (X.nilH underlying48 inf5 rfl rfl) rfl (W.mv rfl ?_))))))
   obtain ⟨c3, H⟩ := ite_n H
   refine W.e (Y.appN (kk := (w64 (a1 - (w64 (0 - 0)))).toNat) (kI := w64 (a1 - (w64 (0 - 0)))) underlying48 underlying3 ap5 rfl HS rfl rfl (by omega) (by omega) (by omega) (by decide)) rfl ?_
   rintro _ w ⟨ig4, ic5, iR6, rfl, hc7, hm8, hf9, HS⟩
   refine W.mv rfl (W.r (X.lenSl underlying48 rfl) rfl (W.r (X.rawH (j := (0 : Int)) underlying48 inf5 rfl rfl ⟨(by omega), (by omega)⟩) rfl (W.as rfl (W.nx (V.seq (V.region (W.mv rfl (W.as rfl (W.nx (V.ret (At.again 4 (v := vs (some ⟨ig4, 0, none⟩) ([] : List Int).length ic5) rfl ?_)))))))))))
   replace HS := HS.row_shut (m := ([] : List Int).length) (c := ic5) (off := 0) (cs := ([] : List Int).map (Value.int .u8)) (Nat.zero_le _) (by omega) (by omega) (by simp) rfl
   cases H
   exact At.ret1 rfl rfl ⟨_, rfl, (some ⟨ig4, 0, none⟩), ic5, rfl, HS⟩
  ·replace H := ite_f c2 H
   refine V.condF (sb (dF c2)) (V.skip (At.next (V.seq (V.region (W.mv rfl (W.as rfl (W.nx (V.ret ?_))))))))
   replace HS := row_nilF (Value.int .u8) 5 1 HS
   cases H
   exact At.ret1 rfl rfl ⟨_, rfl, none, 0, rfl, HS⟩
mutual
def slices_Concat_Sbytebyte.l0 : Nat → (List (List Int)) → Int → Int → Option (List Int)
 | 0, _, _, _ => none
 | k + 1, a0, x2, x3 => (if x3 < (a0.length : Int) then (if 0 ≤ x3 ∧ x3 < (a0.length : Int) then (if (w64 (x2 + ((a0.getD x3.toNat []).length : Int))) < 0 then none else (slices_Concat_Sbytebyte.l0 k a0 (w64 (x2 + ((a0.getD x3.toNat []).length : Int))) (w64 (x3 + 1)))) else none) else ((slices_Grow_Sbytebyte.f x2).bind fun t17 => (slices_Concat_Sbytebyte.l1 k a0 0 t17)))
def slices_Concat_Sbytebyte.l1 : Nat → (List (List Int)) → Int → (List Int) → Option (List Int)
 | 0, _, _, _ => none
 | k + 1, a0, x20, x23 => (if x20 < (a0.length : Int) then (if 0 ≤ x20 ∧ x20 < (a0.length : Int) then (if (x23.length : Int) + (a0.getD x20.toNat []).length ≤ 1099511627776 then (slices_Concat_Sbytebyte.l1 k a0 (w64 (x20 + 1)) (x23 ++ (a0.getD x20.toNat []))) else none) else none) else some x23)
end
def slices_Concat_Sbytebyte.f (k : Nat) (a0 : List (List Int)) : Option (List Int) := (slices_Concat_Sbytebyte.l0 k a0 0 0)
theorem slices_Concat_Sbytebyte.calls {k : Nat} {a0 : List (List Int)} {R : As} {w0 w : World} {sa0 : Option Addr} {sc0 : Nat} {sd0 : List Value} {r : List Int} (H : slices_Concat_Sbytebyte.f k a0 = some r) (HS : Sep.St [R] w0 w) (hr0 : rdC R 1 (.slice sa0 a0.length sc0) a0.length sd0) (ht0 : ∀ h, R h → tie (El.sl (El.int .u8)) sd0 a0 h) : Calls Tryz.prog 187 #[vs sa0 a0.length sc0] w (Ret fun u w => ∃ (aq0 : Option Addr) (cq0 : Nat), u = vs aq0 r.length cq0 ∧ Sep.St [row 5 1 (.slice aq0 r.length cq0) r.length (r.map (Value.int .u8)), R] w0 w) := by
 unfold slices_Concat_Sbytebyte.f at H
 refine calls_enter func187 rfl rfl ?_
 have H : _ = some r := H
 replace HS := St.more 0 HS rfl ht0 tie.pers
 refine V.seq (V.region (W.as rfl (W.nx (V.seq (V.region (W.as rfl (W.nx (V.seq (V.seq (V.region (W.mv rfl (W.r (X.lenSl underlying35 rfl) rfl (W.mv rfl (W.nx (V.block (V.loop (σ := Int × Int) (fun kq (st : Int × Int) w => match st with | (x2, x3) => Sep.St [tie (El.sl (El.int .u8)) sd0 a0, R] w0 w ∧ slices_Concat_Sbytebyte.l0 kq a0 x2 x3 = some r ∧ kq ≤ k) (fun st => match st with | (x2, x3) => [(0, vs sa0 a0.length sc0), (3, vi x2), (9, vs sa0 a0.length sc0), (10, vi (a0.length : Int)), (11, vi x3)]) k (0, 0) ⟨rfl, rfl, rfl, rfl, rfl, tv⟩ ⟨HS, H, Nat.le_refl _⟩ ?_))))))))))))))))
 rintro kq4 ⟨x2, x3⟩ w ⟨HS, H, hk5⟩
 cases kq4 with
 | zero => exact absurd H (by simp [slices_Concat_Sbytebyte.l0])
 | succ kq4 =>
  simp only [slices_Concat_Sbytebyte.l0] at H
  refine V.seq (V.region (W.r (X.cmp (decide (x3 < (a0.length : Int))) rfl rfl rfl rfl) rfl (W.nx (V.seq ?_))))
  by_cases c6 : x3 < (a0.length : Int)
  ·replace H := ite_t c6 H
   refine V.condT (sb (dT c6)) (V.skip (At.next (V.seq (V.block (V.seq (V.region ?_))))))
   obtain ⟨c7, H⟩ := ite_n H
   obtain ⟨eb8, eo9, hh⟩ := (rdC.at 1 hr0 HS rfl).some (by decide) c7.1 c7.2; subst hh
   refine W.r (X.indexSl underlying35 inf48 rfl rfl c7.1 c7.2) rfl ?_
   obtain ⟨ec10, hc11, HS⟩ := St.tie_at 0 HS rfl ([]) c7.1 c7.2
   obtain ⟨ea12, em13, he15, HN⟩ := St.sl_openF (Value.int .u8) (fun t => tie_int t) HS; clear HS; subst he15; have HS := HN
   refine W.r (X.load underlying48 rfl rfl ((rdC.at 2 hr0 HS rfl).cellEl0 (hc11 0 _ rfl))) rfl (W.as rfl (W.nx (V.seq (V.region (W.mv rfl (W.mv rfl (W.r (X.lenSl underlying48 rfl) rfl (W.r (X.add rfl rfl) rfl (W.as rfl (W.nx (V.seq (V.region (W.mv rfl (W.r (X.cmp (decide ((w64 (x2 + ((a0.getD x3.toNat []).length : Int))) < 0)) rfl rfl rfl rfl) rfl (W.nx ?_)))))))))))))))
   by_cases c16 : (w64 (x2 + ((a0.getD x3.toNat []).length : Int))) < 0
   ·replace H := ite_t c16 H
    refine V.condT (sb (dT c16)) ?_
    exact nomatch H
   ·replace H := ite_f c16 H
    refine V.condF (sb (dF c16)) (V.skip (At.blockEnd (At.next (V.region (W.r (X.add rfl rfl) rfl (W.mv rfl (W.nil ?_)))))))
    replace HS := HS.pk [1, 2] [0]
    exact At.round kq4 (by omega) (w64 (x2 + ((a0.getD x3.toNat []).length : Int)), w64 (x3 + 1)) ⟨rfl, rfl, rfl, rfl, rfl, tv⟩ ⟨HS, H, by omega⟩
  ·replace H := ite_f c6 H
   refine V.condF (sb (dF c6)) (V.exit (At.thenExit (At.thenExit (At.blockExit (At.next (V.seq (V.region (W.mv rfl ?_))))))))
   obtain ⟨t17, A18, H⟩ := bind_s H
   refine W.e (Y.cl func237 (slices_Grow_Sbytebyte.calls A18 HS.j0)) rfl ?_
   rintro _ w ⟨at17_0, ct17_0, rfl, HS⟩
   replace HS := HS.o1
   refine W.as rfl (W.nx (V.seq (V.seq (V.region (W.mv rfl (W.r (X.lenSl underlying35 rfl) rfl (W.mv rfl (W.nx (V.block (V.loop (σ := Int × Option Addr × Nat × List Int) (fun kq (st : Int × Option Addr × Nat × List Int) w => match st with | (x20, ra21, rc22, x23) => Sep.St [row 5 1 (.slice ra21 x23.length rc22) x23.length (x23.map (Value.int .u8)), tie (El.sl (El.int .u8)) sd0 a0, R] w0 w ∧ slices_Concat_Sbytebyte.l1 kq a0 x20 x23 = some r ∧ kq ≤ kq4) (fun st => match st with | (x20, ra21, rc22, x23) => [(6, vs ra21 x23.length rc22), (25, vs sa0 a0.length sc0), (26, vi (a0.length : Int)), (27, vi x20)]) kq4 (0, at17_0, ct17_0, t17) ⟨rfl, rfl, rfl, rfl, tv⟩ ⟨HS, H, Nat.le_refl _⟩ ?_))))))))))
   rintro kq24 ⟨x20, ra21, rc22, x23⟩ w ⟨HS, H, hk25⟩
   cases kq24 with
   | zero => exact absurd H (by simp [slices_Concat_Sbytebyte.l1])
   | succ kq24 =>
    simp only [slices_Concat_Sbytebyte.l1] at H
    refine V.seq (V.region (W.r (X.cmp (decide (x20 < (a0.length : Int))) rfl rfl rfl rfl) rfl (W.nx (V.seq ?_))))
    by_cases c26 : x20 < (a0.length : Int)
    ·replace H := ite_t c26 H
     refine V.condT (sb (dT c26)) (V.skip (At.next (V.seq (V.block (V.seq (V.region ?_))))))
     obtain ⟨c27, H⟩ := ite_n H
     obtain ⟨eb28, eo29, hh⟩ := (rdC.at 2 hr0 HS rfl).some (by decide) c27.1 c27.2; subst hh
     refine W.r (X.indexSl underlying35 inf48 rfl rfl c27.1 c27.2) rfl ?_
     obtain ⟨ec30, hc31, HS⟩ := St.tie_at 1 HS rfl ([]) c27.1 c27.2
     obtain ⟨ea32, em33, he35, HN⟩ := St.sl_openF (Value.int .u8) (fun t => tie_int t) HS; clear HS; subst he35; have HS := HN
     refine W.r (X.load underlying48 rfl rfl ((rdC.at 3 hr0 HS rfl).cellEl0 (hc31 0 _ rfl))) rfl (W.as rfl (W.nx (V.region (W.mv rfl (W.mv rfl ?_)))))
     obtain ⟨c36, H⟩ := ite_n H
     refine W.e (Y.appF (Value.int .u8) (fun _ => rfl) 1 underlying48 ap5 rfl HS rfl rfl rfl (rdC.at 0 fsl.rd HS rfl) (by omega) (by omega)) rfl ?_
     rintro _ w ⟨ra37, rc38, rfl, HS⟩
     refine W.as rfl (W.nil (At.blockEnd (At.next (V.region (W.r (X.add rfl rfl) rfl (W.mv rfl (W.nil ?_)))))))
     replace HS := HS.pk [1, 2, 3] [0]
     exact At.round kq24 (by omega) (w64 (x20 + 1), ra37, rc38, x23 ++ (a0.getD x20.toNat [])) ⟨rfl, rfl, rfl, rfl, tv⟩ ⟨HS, H, by omega⟩
    ·replace H := ite_f c26 H
     refine V.condF (sb (dF c26)) (V.exit (At.thenExit (At.thenExit (At.blockExit (At.next (V.seq (V.region (W.mv rfl (W.as rfl (W.nx (V.ret ?_)))))))))))
     replace HS := HS.pk [0, 2] [1]
     cases H
     exact At.ret1 rfl rfl ⟨_, rfl, ra21, rc22, rfl, HS⟩
def fcs_Put.f (k : Nat) (a0 : List Int) (a1 : Bool) : Option (List Int) := ((fcs_tail.f k a0 a1).bind fun t1 => ((slices_Concat_Sbytebyte.f k ([a0, t1] : List (List Int))).bind fun t6 => some t6))
theorem fcs_Put.calls {k : Nat} {a0 : List Int} {a1 : Bool} {R : As} {w0 w : World} {sa0 : Option Addr} {sc0 : Nat} {r : List Int} (H : fcs_Put.f k a0 a1 = some r) (HS : Sep.St [fsl 1 (.slice sa0 a0.length sc0) a0.length (a0.map (Value.int .u8)), R] w0 w)  : Calls Tryz.prog 227 #[vs sa0 a0.length sc0, vb a1] w (Ret fun u w => ∃ (aq0 : Option Addr) (cq0 : Nat), u = vs aq0 r.length cq0 ∧ Sep.St [row 5 1 (.slice aq0 r.length cq0) r.length (r.map (Value.int .u8)), R] w0 w) := by
 unfold fcs_Put.f at H
 refine calls_enter func227 rfl rfl ?_
 have H : _ = some r := H
 refine V.seq (V.region (W.as rfl (W.nx (V.seq (V.region (W.mv rfl (W.mv rfl (W.mv rfl ?_))))))))
 obtain ⟨t1, A2, H⟩ := bind_s H
 refine W.e (Y.cl func267 (fcs_tail.calls A2 HS.j0 (rdC.part 0 fsl.rd rfl))) rfl ?_
 rintro _ w ⟨at1_0, ct1_0, rfl, HS⟩
 replace HS := HS.o1
 replace HS := St.row_freeze HS
 refine W.e (Y.lc (e := 48) (sz := 1) [vs sa0 a0.length sc0, vs at1_0 t1.length ct1_0] HS rfl rfl (fun _ => by kernel_rfl)) rfl ?_
 rintro _ w ⟨lb3, rfl, HS⟩
 replace HS := St.put (A := tie (El.sl (El.int .u8)) ([]) (([] : List (List Int)))) (fun _ => tie.nil) HS
 replace HS := HS.more 2 rfl (fun _ t => t) fsl.pers
 replace HS := St.put (A := tie (El.int .u8) (t1.map (Value.int .u8)) t1) (fun _ => int_tie) HS
 replace HS := St.swap HS
 replace HS := St.sl_close (E := (El.int .u8)) HS
 replace HS := HS.fr 1
 replace HS := HS.fr 1
 replace HS := St.tie_cons HS
 replace HS := HS.more 3 rfl (fun _ t => t) fsl.pers
 replace HS := St.put (A := tie (El.int .u8) (a0.map (Value.int .u8)) a0) (fun _ => int_tie) HS
 replace HS := St.swap HS
 replace HS := St.sl_close (E := (El.int .u8)) HS
 replace HS := HS.fr 1
 replace HS := HS.fr 1
 replace HS := St.tie_cons HS
 obtain ⟨t6, A7, H⟩ := bind_s H
 refine W.e (Y.cl func187 (slices_Concat_Sbytebyte.calls A7 HS.j0 (rdC.part 1 row_rd rfl) (fun h hh => let ⟨_, l, t⟩ := Sp.has 0 hh rfl; tie.mono t l))) rfl ?_
 rintro _ w ⟨at6_0, ct6_0, rfl, HS⟩
 replace HS := HS.o1
 refine W.as rfl (W.nx (V.ret ?_))
 replace HS := HS.pk [0, 5] [1, 2, 3, 4]
 cases H
 exact At.ret1 rfl rfl ⟨_, rfl, at6_0, ct6_0, rfl, HS⟩
def frame_size.f (k : Nat) (a0 : Bool) : Option Int := ((fcs_Put.f k ([] : List Int) a0).bind fun t1 => some (t1.length : Int))
theorem frame_size.calls {k : Nat} {a0 : Bool} {R : As} {w0 w : World}  {r : Int} (H : frame_size.f k a0 = some r) (HS : Sep.St [R] w0 w)  : Calls Tryz.prog 169 #[vb a0] w (Ret fun u w => u = vi r ∧ Sep.St [R] w0 w) := by
 unfold frame_size.f at H
 refine calls_enter func169 rfl rfl ?_
 have H : _ = some r := H
 refine V.seq (V.region (W.as rfl (W.nx (V.seq (V.region (W.mv rfl ?_))))))
 replace HS := row_nilF (Value.int .u8) 5 1 HS
 replace HS := St.row_freeze HS
 replace HS := HS.more 0 rfl (fun _ t => t) fsl.pers
 obtain ⟨t1, A2, H⟩ := bind_s H
 refine W.e (Y.cl func227 (fcs_Put.calls A2 HS.j1)) rfl ?_
 rintro _ w ⟨at1_0, ct1_0, rfl, HS⟩
 replace HS := HS.o1
 refine W.r (X.lenSl underlying48 rfl) rfl (W.as rfl (W.nx (V.ret ?_)))
 replace HS := HS.pk [2] [0, 1]
 cases H
 exact At.ret1 rfl rfl ⟨_, rfl, rfl, HS⟩
structure frame_Reader where
 wide : Bool
 most : Int
 state : Int
 b : List Int
deriving DecidableEq, Inhabited
def frame_Reader.at (b : Nat) (x : frame_Reader) : As := fun h => True ∧ ∃ a3 : Option Addr, ∃ c3 : Nat, Sp [blk b (#[vb x.wide, vi x.most, vi x.state, vs a3 x.b.length c3]) 202, row 5 1 (.slice a3 x.b.length c3) x.b.length (x.b.map (Value.int .u8))] h
theorem frame_Reader.open {b : Nat} {x : frame_Reader} {L : List As} {w0 w : World} (hs : Sep.St (frame_Reader.at b x :: L) w0 w) : ∃ a3 : Option Addr, ∃ c3 : Nat, True ∧ Sep.St (blk b (#[vb x.wide, vi x.most, vi x.state, vs a3 x.b.length c3]) 202 :: row 5 1 (.slice a3 x.b.length c3) x.b.length (x.b.map (Value.int .u8)) :: L) w0 w := by
 obtain ⟨ho, ht, hu, h, hon, h1, h2, hd, e1, e2, ⟨hi, a3, c3, hA⟩, hl⟩ := hs
 exact ⟨a3, c3, hi, St.open (m := [blk b (#[vb x.wide, vi x.most, vi x.state, vs a3 x.b.length c3]) 202, row 5 1 (.slice a3 x.b.length c3) x.b.length (x.b.map (Value.int .u8))]) ⟨ho, ht, hu, h, hon, h1, h2, hd, e1, e2, hA, hl⟩⟩
theorem frame_Reader.close {b : Nat} {l0 : Bool} {l1 : Int} {l2 : Int} {l3 : List Int} {a3 : Option Addr} {c3 : Nat} {L : List As} {w0 w : World} (hi : True) (hs : Sep.St (blk b (#[vb l0, vi l1, vi l2, vs a3 l3.length c3]) 202 :: row 5 1 (.slice a3 l3.length c3) l3.length (l3.map (Value.int .u8)) :: L) w0 w) : Sep.St (frame_Reader.at b ({ wide := l0, most := l1, state := l2, b := l3 } : frame_Reader) :: L) w0 w := by
 have h2 := St.join (m := [blk b (#[vb l0, vi l1, vi l2, vs a3 l3.length c3]) 202, row 5 1 (.slice a3 l3.length c3) l3.length (l3.map (Value.int .u8))]) hs
 exact h2.mono fun h hh => ⟨hi, _, _, hh⟩
def frame_New.f (k : Nat) (a0 : Int) (a1 : Bool) : Option frame_Reader := ((frame_size.f k a1).bind fun t1 => some (({ wide := a1, most := w64 ((imax (1) (imin a0 (65536))) + t1), state := 0, b := ([] : List Int) } : frame_Reader)))
theorem frame_New.calls {k : Nat} {a0 : Int} {a1 : Bool} {R : As} {w0 w : World}  {r : frame_Reader} (H : frame_New.f k a0 a1 = some r) (HS : Sep.St [R] w0 w)  : Calls Tryz.prog 105 #[vi a0, vb a1] w (Ret fun u w => ∃ (bq0 : Nat), u = pt bq0 ∧ Sep.St [frame_Reader.at bq0 r, R] w0 w) := by
 unfold frame_New.f at H
 refine calls_enter func105 rfl rfl ?_
 have H : _ = some r := H
 refine V.seq (V.region (W.as rfl (W.nx (V.seq (V.region (W.mv rfl (W.mv rfl (W.r (X.min2 rfl rfl) rfl (W.r (X.max2 rfl rfl) rfl (W.mv rfl ?_))))))))))
 obtain ⟨t1, A2, H⟩ := bind_s H
 refine W.e (Y.cl func169 (frame_size.calls A2 HS.j0)) rfl ?_
 rintro _ w ⟨rfl, HS⟩
 replace HS := HS.o0
 refine W.r (X.add rfl rfl) rfl (W.r (X.bd (Value.agg #[vb a1, vi (w64 ((imax (1) (imin a0 (65536))) + t1)), vi (0), vs none 0 0]) rfl (fun _ => by kernel_rfl)) rfl (W.e (Y.box HS rfl) rfl ?_))
 rintro _ w ⟨nb3, rfl, HS⟩
 refine W.as rfl (W.nx (V.ret ?_))
 replace HS := row_nilF (Value.int .u8) 5 1 HS
 replace HS := HS.pm [1, 0, 2]
 replace HS := frame_Reader.close (l3 := ([] : List Int)) tv HS
 cases H
 exact At.ret1 rfl rfl ⟨_, rfl, nb3, rfl, HS⟩
def monitor_cut.f (a0 : Int) (a1 : Int) (a2 : Int) : Option Int := some (imax a1 (imin a0 a2))
theorem monitor_cut.calls {a0 : Int} {a1 : Int} {a2 : Int} {R : As} {w0 w : World}  {r : Int} (H : monitor_cut.f a0 a1 a2 = some r) (HS : Sep.St [R] w0 w)  : Calls Tryz.prog 170 #[vi a0, vi a1, vi a2] w (Ret fun u w => u = vi r ∧ Sep.St [R] w0 w) := by
 unfold monitor_cut.f at H
 refine calls_enter func170 rfl rfl ?_
 have H : _ = some r := H
 refine V.seq (V.region (W.as rfl (W.nx (V.seq (V.region (W.mv rfl (W.mv rfl (W.mv rfl (W.r (X.min2 rfl rfl) rfl (W.r (X.max2 rfl rfl) rfl (W.as rfl (W.nx (V.ret ?_)))))))))))))
 cases H
 exact At.ret1 rfl rfl ⟨_, rfl, rfl, HS⟩
def tally_cut.f (a0 : Int) (a1 : Int) (a2 : Int) : Option Int := some (imax a1 (imin a0 a2))
theorem tally_cut.calls {a0 : Int} {a1 : Int} {a2 : Int} {R : As} {w0 w : World}  {r : Int} (H : tally_cut.f a0 a1 a2 = some r) (HS : Sep.St [R] w0 w)  : Calls Tryz.prog 228 #[vi a0, vi a1, vi a2] w (Ret fun u w => u = vi r ∧ Sep.St [R] w0 w) := by
 unfold tally_cut.f at H
 refine calls_enter func228 rfl rfl ?_
 have H : _ = some r := H
 refine V.seq (V.region (W.as rfl (W.nx (V.seq (V.region (W.mv rfl (W.mv rfl (W.mv rfl (W.r (X.min2 rfl rfl) rfl (W.r (X.max2 rfl rfl) rfl (W.as rfl (W.nx (V.ret ?_)))))))))))))
 cases H
 exact At.ret1 rfl rfl ⟨_, rfl, rfl, HS⟩
structure tally_Window where
 l : List Bool
 at_ : Int
 kept : Int
 sum : (Nat × Nat)
deriving DecidableEq, Inhabited
def tally_Window.at (b : Nat) (x : tally_Window) : As := fun h => True ∧ ∃ a0 : Option Addr, ∃ c0 : Nat, Sp [blk b (#[vs a0 x.l.length c0, vi x.at_, vi x.kept, Value.complex .f64 x.sum.1 x.sum.2]) 256, row 4 1 (.slice a0 x.l.length c0) x.l.length (x.l.map Value.bool)] h
theorem tally_Window.open {b : Nat} {x : tally_Window} {L : List As} {w0 w : World} (hs : Sep.St (tally_Window.at b x :: L) w0 w) : ∃ a0 : Option Addr, ∃ c0 : Nat, True ∧ Sep.St (blk b (#[vs a0 x.l.length c0, vi x.at_, vi x.kept, Value.complex .f64 x.sum.1 x.sum.2]) 256 :: row 4 1 (.slice a0 x.l.length c0) x.l.length (x.l.map Value.bool) :: L) w0 w := by
 obtain ⟨ho, ht, hu, h, hon, h1, h2, hd, e1, e2, ⟨hi, a0, c0, hA⟩, hl⟩ := hs
 exact ⟨a0, c0, hi, St.open (m := [blk b (#[vs a0 x.l.length c0, vi x.at_, vi x.kept, Value.complex .f64 x.sum.1 x.sum.2]) 256, row 4 1 (.slice a0 x.l.length c0) x.l.length (x.l.map Value.bool)]) ⟨ho, ht, hu, h, hon, h1, h2, hd, e1, e2, hA, hl⟩⟩
theorem tally_Window.close {b : Nat} {l0 : List Bool} {l1 : Int} {l2 : Int} {l3 : (Nat × Nat)} {a0 : Option Addr} {c0 : Nat} {L : List As} {w0 w : World} (hi : True) (hs : Sep.St (blk b (#[vs a0 l0.length c0, vi l1, vi l2, Value.complex .f64 l3.1 l3.2]) 256 :: row 4 1 (.slice a0 l0.length c0) l0.length (l0.map Value.bool) :: L) w0 w) : Sep.St (tally_Window.at b ({ l := l0, at_ := l1, kept := l2, sum := l3 } : tally_Window) :: L) w0 w := by
 have h2 := St.join (m := [blk b (#[vs a0 l0.length c0, vi l1, vi l2, Value.complex .f64 l3.1 l3.2]) 256, row 4 1 (.slice a0 l0.length c0) l0.length (l0.map Value.bool)]) hs
 exact h2.mono fun h hh => ⟨hi, _, _, hh⟩
def tally_New.f (a0 : Int) : Option tally_Window := ((tally_cut.f a0 1 1000).bind fun t1 => (if 0 ≤ t1 ∧ t1 ≤ 1099511627776 then some (({ l := List.replicate t1.toNat false, at_ := 0, kept := 0, sum := ((0, 0) : Nat × Nat) } : tally_Window)) else none))
theorem tally_New.calls {a0 : Int} {R : As} {w0 w : World}  {r : tally_Window} (H : tally_New.f a0 = some r) (HS : Sep.St [R] w0 w)  : Calls Tryz.prog 171 #[vi a0] w (Ret fun u w => ∃ (bq0 : Nat), u = pt bq0 ∧ Sep.St [tally_Window.at bq0 r, R] w0 w) := by
 unfold tally_New.f at H
 refine calls_enter func171 rfl rfl ?_
 have H : _ = some r := H
 refine V.seq (V.region (W.as rfl (W.nx (V.seq (V.region (W.mv rfl ?_))))))
 obtain ⟨t1, A2, H⟩ := bind_s H
 refine W.e (Y.cl func228 (tally_cut.calls A2 HS.j0)) rfl ?_
 rintro _ w ⟨rfl, HS⟩
 replace HS := HS.o0
 obtain ⟨c3, H⟩ := ite_n H
 refine W.e (Y.makeSl (g := Value.bool) (N := t1) false underlying172 ap4 rfl HS rfl rfl c3 (by decide)) rfl ?_
 rintro _ w ⟨ra4, rc5, rfl, HS⟩
 refine W.r (X.bd (Value.agg #[vs ra4 (List.replicate t1.toNat false).length rc5, vi (0), vi (0), Value.complex .f64 (((0, 0) : Nat × Nat)).1 (((0, 0) : Nat × Nat)).2]) rfl (fun _ => by kernel_rfl)) rfl (W.e (Y.box HS rfl) rfl ?_)
 rintro _ w ⟨nb6, rfl, HS⟩
 refine W.as rfl (W.nx (V.ret ?_))
 replace HS := tally_Window.close tv HS
 cases H
 exact At.ret1 rfl rfl ⟨_, rfl, nb6, rfl, HS⟩
structure monitor_Monitor where
 bad : Int
 good : Int
 silent : Int
 w : tally_Window
 row : Int
 silence : Int
 state : Int
deriving DecidableEq, Inhabited
def monitor_Monitor.at (b : Nat) (x : monitor_Monitor) : As := fun h => True ∧ ∃ b3 : Nat, Sp [blk b (#[vi x.bad, vi x.good, vi x.silent, pt b3, vi x.row, vi x.silence, vi x.state]) 171, tally_Window.at b3 x.w] h
theorem monitor_Monitor.open {b : Nat} {x : monitor_Monitor} {L : List As} {w0 w : World} (hs : Sep.St (monitor_Monitor.at b x :: L) w0 w) : ∃ b3 : Nat, True ∧ Sep.St (blk b (#[vi x.bad, vi x.good, vi x.silent, pt b3, vi x.row, vi x.silence, vi x.state]) 171 :: tally_Window.at b3 x.w :: L) w0 w := by
 obtain ⟨ho, ht, hu, h, hon, h1, h2, hd, e1, e2, ⟨hi, b3, hA⟩, hl⟩ := hs
 exact ⟨b3, hi, St.open (m := [blk b (#[vi x.bad, vi x.good, vi x.silent, pt b3, vi x.row, vi x.silence, vi x.state]) 171, tally_Window.at b3 x.w]) ⟨ho, ht, hu, h, hon, h1, h2, hd, e1, e2, hA, hl⟩⟩
theorem monitor_Monitor.close {b : Nat} {l0 : Int} {l1 : Int} {l2 : Int} {l3 : tally_Window} {l4 : Int} {l5 : Int} {l6 : Int} {b3 : Nat} {L : List As} {w0 w : World} (hi : True) (hs : Sep.St (blk b (#[vi l0, vi l1, vi l2, pt b3, vi l4, vi l5, vi l6]) 171 :: tally_Window.at b3 l3 :: L) w0 w) : Sep.St (monitor_Monitor.at b ({ bad := l0, good := l1, silent := l2, w := l3, row := l4, silence := l5, state := l6 } : monitor_Monitor) :: L) w0 w := by
 have h2 := St.join (m := [blk b (#[vi l0, vi l1, vi l2, pt b3, vi l4, vi l5, vi l6]) 171, tally_Window.at b3 l3]) hs
 exact h2.mono fun h hh => ⟨hi, _, hh⟩
def monitor_New.f (a0 : Int) (a1 : Int) (a2 : Int) : Option monitor_Monitor := ((monitor_cut.f a0 1 16).bind fun t1 => ((monitor_cut.f a1 1 16).bind fun t3 => ((monitor_cut.f a2 1 1073741824).bind fun t5 => ((tally_New.f 16).bind fun t7 => some ({ bad := t1, good := t3, silent := t5, w := t7, row := 0, silence := 0, state := 0 } : monitor_Monitor)))))
theorem monitor_New.calls {a0 : Int} {a1 : Int} {a2 : Int} {R : As} {w0 w : World}  {r : monitor_Monitor} (H : monitor_New.f a0 a1 a2 = some r) (HS : Sep.St [R] w0 w)  : Calls Tryz.prog 106 #[vi a0, vi a1, vi a2] w (Ret fun u w => ∃ (bq0 : Nat), u = pt bq0 ∧ Sep.St [monitor_Monitor.at bq0 r, R] w0 w) := by
 unfold monitor_New.f at H
 refine calls_enter func106 rfl rfl ?_
 have H : _ = some r := H
 refine V.seq (V.region (W.as rfl (W.nx (V.seq (V.region (W.mv rfl ?_))))))
 obtain ⟨t1, A2, H⟩ := bind_s H
 refine W.e (Y.cl func170 (monitor_cut.calls A2 HS.j0)) rfl ?_
 rintro _ w ⟨rfl, HS⟩
 replace HS := HS.o0
 refine W.mv rfl ?_
 obtain ⟨t3, A4, H⟩ := bind_s H
 refine W.e (Y.cl func170 (monitor_cut.calls A4 HS.j0)) rfl ?_
 rintro _ w ⟨rfl, HS⟩
 replace HS := HS.o0
 refine W.mv rfl ?_
 obtain ⟨t5, A6, H⟩ := bind_s H
 refine W.e (Y.cl func170 (monitor_cut.calls A6 HS.j0)) rfl ?_
 rintro _ w ⟨rfl, HS⟩
 replace HS := HS.o0
 obtain ⟨t7, A8, H⟩ := bind_s H
 refine W.e (Y.cl func171 (tally_New.calls A8 HS.j0)) rfl ?_
 rintro _ w ⟨bt7_0, rfl, HS⟩
 replace HS := HS.o1
 refine W.r (X.bd (Value.agg #[vi t1, vi t3, vi t5, pt bt7_0, vi (0), vi (0), vi (0)]) rfl (fun _ => by kernel_rfl)) rfl (W.e (Y.box HS rfl) rfl ?_)
 rintro _ w ⟨nb9, rfl, HS⟩
 refine W.as rfl (W.nx (V.ret ?_))
 replace HS := monitor_Monitor.close tv HS
 cases H
 exact At.ret1 rfl rfl ⟨_, rfl, nb9, rfl, HS⟩
structure ring_Ring where
 room : Int
 b : List Int
 begun : Int
 pieces : List Int
 dropped : Int
deriving DecidableEq, Inhabited
def ring_Ring.at (b : Nat) (x : ring_Ring) : As := fun h => True ∧ ∃ a1 : Option Addr, ∃ c1 : Nat, ∃ a3 : Option Addr, ∃ c3 : Nat, Sp [blk b (#[vi x.room, vs a1 x.b.length c1, vi x.begun, vs a3 x.pieces.length c3, vi x.dropped]) 195, row 5 1 (.slice a1 x.b.length c1) x.b.length (x.b.map (Value.int .u8)), row 3 1 (.slice a3 x.pieces.length c3) x.pieces.length (x.pieces.map (Value.int .i64))] h
theorem ring_Ring.open {b : Nat} {x : ring_Ring} {L : List As} {w0 w : World} (hs : Sep.St (ring_Ring.at b x :: L) w0 w) : ∃ a1 : Option Addr, ∃ c1 : Nat, ∃ a3 : Option Addr, ∃ c3 : Nat, True ∧ Sep.St (blk b (#[vi x.room, vs a1 x.b.length c1, vi x.begun, vs a3 x.pieces.length c3, vi x.dropped]) 195 :: row 5 1 (.slice a1 x.b.length c1) x.b.length (x.b.map (Value.int .u8)) :: row 3 1 (.slice a3 x.pieces.length c3) x.pieces.length (x.pieces.map (Value.int .i64)) :: L) w0 w := by
 obtain ⟨ho, ht, hu, h, hon, h1, h2, hd, e1, e2, ⟨hi, a1, c1, a3, c3, hA⟩, hl⟩ := hs
 exact ⟨a1, c1, a3, c3, hi, St.open (m := [blk b (#[vi x.room, vs a1 x.b.length c1, vi x.begun, vs a3 x.pieces.length c3, vi x.dropped]) 195, row 5 1 (.slice a1 x.b.length c1) x.b.length (x.b.map (Value.int .u8)), row 3 1 (.slice a3 x.pieces.length c3) x.pieces.length (x.pieces.map (Value.int .i64))]) ⟨ho, ht, hu, h, hon, h1, h2, hd, e1, e2, hA, hl⟩⟩
theorem ring_Ring.close {b : Nat} {l0 : Int} {l1 : List Int} {l2 : Int} {l3 : List Int} {l4 : Int} {a1 : Option Addr} {c1 : Nat} {a3 : Option Addr} {c3 : Nat} {L : List As} {w0 w : World} (hi : True) (hs : Sep.St (blk b (#[vi l0, vs a1 l1.length c1, vi l2, vs a3 l3.length c3, vi l4]) 195 :: row 5 1 (.slice a1 l1.length c1) l1.length (l1.map (Value.int .u8)) :: row 3 1 (.slice a3 l3.length c3) l3.length (l3.map (Value.int .i64)) :: L) w0 w) : Sep.St (ring_Ring.at b ({ room := l0, b := l1, begun := l2, pieces := l3, dropped := l4 } : ring_Ring) :: L) w0 w := by
 have h2 := St.join (m := [blk b (#[vi l0, vs a1 l1.length c1, vi l2, vs a3 l3.length c3, vi l4]) 195, row 5 1 (.slice a1 l1.length c1) l1.length (l1.map (Value.int .u8)), row 3 1 (.slice a3 l3.length c3) l3.length (l3.map (Value.int .i64))]) hs
 exact h2.mono fun h hh => ⟨hi, _, _, _, _, hh⟩
def ring_New.f (a0 : Int) : Option ring_Ring := some (({ room := imax (0) (imin a0 (1048576)), b := ([] : List Int), begun := 0, pieces := ([] : List Int), dropped := 0 } : ring_Ring))
theorem ring_New.calls {a0 : Int} {R : As} {w0 w : World}  {r : ring_Ring} (H : ring_New.f a0 = some r) (HS : Sep.St [R] w0 w)  : Calls Tryz.prog 107 #[vi a0] w (Ret fun u w => ∃ (bq0 : Nat), u = pt bq0 ∧ Sep.St [ring_Ring.at bq0 r, R] w0 w) := by
 unfold ring_New.f at H
 refine calls_enter func107 rfl rfl ?_
 have H : _ = some r := H
 refine V.seq (V.region (W.as rfl (W.nx (V.seq (V.region (W.mv rfl (W.r (X.min2 rfl rfl) rfl (W.r (X.max2 rfl rfl) rfl (W.r (X.bd (Value.agg #[vi (imax (0) (imin a0 (1048576))), vs none 0 0, vi (0), vs none 0 0, vi (0)]) rfl (fun _ => by kernel_rfl)) rfl (W.e (Y.box HS rfl) rfl ?_))))))))))
 rintro _ w ⟨nb1, rfl, HS⟩
 refine W.as rfl (W.nx (V.ret ?_))
 replace HS := row_nilF (Value.int .u8) 5 1 HS
 replace HS := row_nilF (Value.int .i64) 3 1 HS
 replace HS := HS.pm [2, 1, 0, 3]
 replace HS := ring_Ring.close (l1 := ([] : List Int)) (l3 := ([] : List Int)) tv HS
 cases H
 exact At.ret1 rfl rfl ⟨_, rfl, nb1, rfl, HS⟩
structure api_Counts where
 Good : Int
 Bad : Int
 Aborts : Int
 Runts : Int
 Giants : Int
 Dropped : Int
 Twins : Int
deriving DecidableEq, Inhabited
structure station_side where
 reader : frame_Reader
 monitor : monitor_Monitor
 ring : ring_Ring
 counts : api_Counts
deriving DecidableEq, Inhabited
structure station_Station where
 c : api_Config
 arq : arq_Arq
 aps : aps_Aps
 twins : twins_Table
 number : Int
 steps : Int
 line : Int
 sides : (station_side × station_side)
deriving DecidableEq, Inhabited
def station_Station.at (b : Nat) (x : station_Station) : As := fun h => True ∧ ∃ b16 : Nat, ∃ b17 : Nat, ∃ b18 : Nat, ∃ b22 : Nat, ∃ b23 : Nat, ∃ b24 : Nat, ∃ b32 : Nat, ∃ b33 : Nat, ∃ b34 : Nat, Sp [blk b (#[vi x.c.Mode, vi x.c.Modulus, vi x.c.Window, vi x.c.T1, vi x.c.N2, vi x.c.Hold, vi x.c.Wait, vi x.c.Keep, vi x.c.Queue, vi x.c.Size, vi x.c.Ring, vi x.c.Rate, vi x.c.Bad, vi x.c.Good, vb x.c.Revert, vb x.c.Wide, pt b16, pt b17, pt b18, Value.int .u32 x.number, vi x.steps, vi x.line, pt b22, pt b23, pt b24, vi x.sides.1.counts.Good, vi x.sides.1.counts.Bad, vi x.sides.1.counts.Aborts, vi x.sides.1.counts.Runts, vi x.sides.1.counts.Giants, vi x.sides.1.counts.Dropped, vi x.sides.1.counts.Twins, pt b32, pt b33, pt b34, vi x.sides.2.counts.Good, vi x.sides.2.counts.Bad, vi x.sides.2.counts.Aborts, vi x.sides.2.counts.Runts, vi x.sides.2.counts.Giants, vi x.sides.2.counts.Dropped, vi x.sides.2.counts.Twins]) 103, arq_Arq.at b16 x.arq, aps_Aps.at b17 x.aps, twins_Table.at b18 x.twins, frame_Reader.at b22 x.sides.1.reader, monitor_Monitor.at b23 x.sides.1.monitor, ring_Ring.at b24 x.sides.1.ring, frame_Reader.at b32 x.sides.2.reader, monitor_Monitor.at b33 x.sides.2.monitor, ring_Ring.at b34 x.sides.2.ring] h
theorem station_Station.open {b : Nat} {x : station_Station} {L : List As} {w0 w : World} (hs : Sep.St (station_Station.at b x :: L) w0 w) : ∃ b16 : Nat, ∃ b17 : Nat, ∃ b18 : Nat, ∃ b22 : Nat, ∃ b23 : Nat, ∃ b24 : Nat, ∃ b32 : Nat, ∃ b33 : Nat, ∃ b34 : Nat, True ∧ Sep.St (blk b (#[vi x.c.Mode, vi x.c.Modulus, vi x.c.Window, vi x.c.T1, vi x.c.N2, vi x.c.Hold, vi x.c.Wait, vi x.c.Keep, vi x.c.Queue, vi x.c.Size, vi x.c.Ring, vi x.c.Rate, vi x.c.Bad, vi x.c.Good, vb x.c.Revert, vb x.c.Wide, pt b16, pt b17, pt b18, Value.int .u32 x.number, vi x.steps, vi x.line, pt b22, pt b23, pt b24, vi x.sides.1.counts.Good, vi x.sides.1.counts.Bad, vi x.sides.1.counts.Aborts, vi x.sides.1.counts.Runts, vi x.sides.1.counts.Giants, vi x.sides.1.counts.Dropped, vi x.sides.1.counts.Twins, pt b32, pt b33, pt b34, vi x.sides.2.counts.Good, vi x.sides.2.counts.Bad, vi x.sides.2.counts.Aborts, vi x.sides.2.counts.Runts, vi x.sides.2.counts.Giants, vi x.sides.2.counts.Dropped, vi x.sides.2.counts.Twins]) 103 :: arq_Arq.at b16 x.arq :: aps_Aps.at b17 x.aps :: twins_Table.at b18 x.twins :: frame_Reader.at b22 x.sides.1.reader :: monitor_Monitor.at b23 x.sides.1.monitor :: ring_Ring.at b24 x.sides.1.ring :: frame_Reader.at b32 x.sides.2.reader :: monitor_Monitor.at b33 x.sides.2.monitor :: ring_Ring.at b34 x.sides.2.ring :: L) w0 w := by
 obtain ⟨ho, ht, hu, h, hon, h1, h2, hd, e1, e2, ⟨hi, b16, b17, b18, b22, b23, b24, b32, b33, b34, hA⟩, hl⟩ := hs
 exact ⟨b16, b17, b18, b22, b23, b24, b32, b33, b34, hi, St.open (m := [blk b (#[vi x.c.Mode, vi x.c.Modulus, vi x.c.Window, vi x.c.T1, vi x.c.N2, vi x.c.Hold, vi x.c.Wait, vi x.c.Keep, vi x.c.Queue, vi x.c.Size, vi x.c.Ring, vi x.c.Rate, vi x.c.Bad, vi x.c.Good, vb x.c.Revert, vb x.c.Wide, pt b16, pt b17, pt b18, Value.int .u32 x.number, vi x.steps, vi x.line, pt b22, pt b23, pt b24, vi x.sides.1.counts.Good, vi x.sides.1.counts.Bad, vi x.sides.1.counts.Aborts, vi x.sides.1.counts.Runts, vi x.sides.1.counts.Giants, vi x.sides.1.counts.Dropped, vi x.sides.1.counts.Twins, pt b32, pt b33, pt b34, vi x.sides.2.counts.Good, vi x.sides.2.counts.Bad, vi x.sides.2.counts.Aborts, vi x.sides.2.counts.Runts, vi x.sides.2.counts.Giants, vi x.sides.2.counts.Dropped, vi x.sides.2.counts.Twins]) 103, arq_Arq.at b16 x.arq, aps_Aps.at b17 x.aps, twins_Table.at b18 x.twins, frame_Reader.at b22 x.sides.1.reader, monitor_Monitor.at b23 x.sides.1.monitor, ring_Ring.at b24 x.sides.1.ring, frame_Reader.at b32 x.sides.2.reader, monitor_Monitor.at b33 x.sides.2.monitor, ring_Ring.at b34 x.sides.2.ring]) ⟨ho, ht, hu, h, hon, h1, h2, hd, e1, e2, hA, hl⟩⟩
theorem station_Station.close {b : Nat} {l0 : Int} {l1 : Int} {l2 : Int} {l3 : Int} {l4 : Int} {l5 : Int} {l6 : Int} {l7 : Int} {l8 : Int} {l9 : Int} {l10 : Int} {l11 : Int} {l12 : Int} {l13 : Int} {l14 : Bool} {l15 : Bool} {l16 : arq_Arq} {l17 : aps_Aps} {l18 : twins_Table} {l19 : Int} {l20 : Int} {l21 : Int} {l22 : frame_Reader} {l23 : monitor_Monitor} {l24 : ring_Ring} {l25 : Int} {l26 : Int} {l27 : Int} {l28 : Int} {l29 : Int} {l30 : Int} {l31 : Int} {l32 : frame_Reader} {l33 : monitor_Monitor} {l34 : ring_Ring} {l35 : Int} {l36 : Int} {l37 : Int} {l38 : Int} {l39 : Int} {l40 : Int} {l41 : Int} {b16 : Nat} {b17 : Nat} {b18 : Nat} {b22 : Nat} {b23 : Nat} {b24 : Nat} {b32 : Nat} {b33 : Nat} {b34 : Nat} {L : List As} {w0 w : World} (hi : True) (hs : Sep.St (blk b (#[vi l0, vi l1, vi l2, vi l3, vi l4, vi l5, vi l6, vi l7, vi l8, vi l9, vi l10, vi l11, vi l12, vi l13, vb l14, vb l15, pt b16, pt b17, pt b18, Value.int .u32 l19, vi l20, vi l21, pt b22, pt b23, pt b24, vi l25, vi l26, vi l27, vi l28, vi l29, vi l30, vi l31, pt b32, pt b33, pt b34, vi l35, vi l36, vi l37, vi l38, vi l39, vi l40, vi l41]) 103 :: arq_Arq.at b16 l16 :: aps_Aps.at b17 l17 :: twins_Table.at b18 l18 :: frame_Reader.at b22 l22 :: monitor_Monitor.at b23 l23 :: ring_Ring.at b24 l24 :: frame_Reader.at b32 l32 :: monitor_Monitor.at b33 l33 :: ring_Ring.at b34 l34 :: L) w0 w) : Sep.St (station_Station.at b ({ c := ({ Mode := l0, Modulus := l1, Window := l2, T1 := l3, N2 := l4, Hold := l5, Wait := l6, Keep := l7, Queue := l8, Size := l9, Ring := l10, Rate := l11, Bad := l12, Good := l13, Revert := l14, Wide := l15 } : api_Config), arq := l16, aps := l17, twins := l18, number := l19, steps := l20, line := l21, sides := (({ reader := l22, monitor := l23, ring := l24, counts := ({ Good := l25, Bad := l26, Aborts := l27, Runts := l28, Giants := l29, Dropped := l30, Twins := l31 } : api_Counts) } : station_side), ({ reader := l32, monitor := l33, ring := l34, counts := ({ Good := l35, Bad := l36, Aborts := l37, Runts := l38, Giants := l39, Dropped := l40, Twins := l41 } : api_Counts) } : station_side)) } : station_Station) :: L) w0 w := by
 have h2 := St.join (m := [blk b (#[vi l0, vi l1, vi l2, vi l3, vi l4, vi l5, vi l6, vi l7, vi l8, vi l9, vi l10, vi l11, vi l12, vi l13, vb l14, vb l15, pt b16, pt b17, pt b18, Value.int .u32 l19, vi l20, vi l21, pt b22, pt b23, pt b24, vi l25, vi l26, vi l27, vi l28, vi l29, vi l30, vi l31, pt b32, pt b33, pt b34, vi l35, vi l36, vi l37, vi l38, vi l39, vi l40, vi l41]) 103, arq_Arq.at b16 l16, aps_Aps.at b17 l17, twins_Table.at b18 l18, frame_Reader.at b22 l22, monitor_Monitor.at b23 l23, ring_Ring.at b24 l24, frame_Reader.at b32 l32, monitor_Monitor.at b33 l33, ring_Ring.at b34 l34]) hs
 exact h2.mono fun h hh => ⟨hi, _, _, _, _, _, _, _, _, _, hh⟩
def station_New.f (k : Nat) (a0 : api_Config) : Option (Option station_Station × Int) := ((shape_Check.f a0).bind fun t3 => (if t3 = 0 then ((arq_New.f a0).bind fun t6 => ((aps_New.f a0.Hold a0.Wait a0.Revert).bind fun t8 => ((twins_New.f (imin (w64 (a0.Modulus.tdiv (2))) (1024))).bind fun t10 => ((frame_New.f k (w64 (a0.Size + 11)) a0.Wide).bind fun t17 => ((monitor_New.f a0.Bad a0.Good (w64 (3 * a0.Keep))).bind fun t19 => ((ring_New.f a0.Ring).bind fun t21 => ((frame_New.f k (w64 (a0.Size + 11)) a0.Wide).bind fun t26 => ((monitor_New.f a0.Bad a0.Good (w64 (3 * a0.Keep))).bind fun t28 => ((ring_New.f a0.Ring).bind fun t30 => some (some ({ c := a0, arq := t6, aps := t8, twins := t10, number := 0, steps := 0, line := 0, sides := (({ reader := t17, monitor := t19, ring := t21, counts := ({ Good := 0, Bad := 0, Aborts := 0, Runts := 0, Giants := 0, Dropped := 0, Twins := 0 } : api_Counts) } : station_side), ({ reader := t26, monitor := t28, ring := t30, counts := ({ Good := 0, Bad := 0, Aborts := 0, Runts := 0, Giants := 0, Dropped := 0, Twins := 0 } : api_Counts) } : station_side)) } : station_Station), 0)))))))))) else some (none, t3)))
theorem station_New.calls {k : Nat} {a0 : api_Config} {R : As} {w0 w : World}  {r : Option station_Station × Int} (H : station_New.f k a0 = some r) (HS : Sep.St [R] w0 w)  : Calls Tryz.prog 46 #[Value.agg #[vi a0.Mode, vi a0.Modulus, vi a0.Window, vi a0.T1, vi a0.N2, vi a0.Hold, vi a0.Wait, vi a0.Keep, vi a0.Queue, vi a0.Size, vi a0.Ring, vi a0.Rate, vi a0.Bad, vi a0.Good, vb a0.Revert, vb a0.Wide]] w (Ret fun u w => ∃ (bq0 : Nat), u = Value.tuple #[optv bq0 r.1, vi r.2] ∧ Sep.St [optAt station_Station.at bq0 r.1, R] w0 w) := by
 unfold station_New.f at H
 refine calls_enter func46 rfl rfl ?_
 have H : _ = some r := H
 refine V.seq (V.region (W.e (Y.box HS rfl) rfl ?_))
 rintro _ w ⟨nb1, rfl, HS⟩
 refine W.as rfl (W.as rfl (W.nx (V.seq (V.seq (V.region (W.r (X.loadSt 0 [vi a0.Mode, vi a0.Modulus, vi a0.Window, vi a0.T1, vi a0.N2, vi a0.Hold, vi a0.Wait, vi a0.Keep, vi a0.Queue, vi a0.Size, vi a0.Ring, vi a0.Rate, vi a0.Bad, vi a0.Good, vb a0.Revert, vb a0.Wide] HS rfl underlying23 rfl inf23 rfl rfl) rfl ?_))))))
 obtain ⟨t3, A4, H⟩ := bind_s H
 refine W.e (Y.cl func101 (shape_Check.calls A4 HS.j0)) rfl ?_
 rintro _ w ⟨rfl, HS⟩
 replace HS := HS.o0
 refine W.as rfl (W.nx (V.seq (V.region (W.mv rfl (W.r (X.cmp (!(decide (t3 = 0))) rfl rfl rfl rfl) rfl (W.nx ?_))))))
 by_cases c5 : t3 = 0
 ·replace H := ite_t c5 H
  refine V.condF (sb (n_t (dT c5))) (V.skip (At.next (V.seq (V.dr [2, 9, 14, 16] [15, 17] [(12, Value.agg #[vi a0.Mode, vi a0.Modulus, vi a0.Window, vi a0.T1, vi a0.N2, vi a0.Hold, vi a0.Wait, vi a0.Keep, vi a0.Queue, vi a0.Size, vi a0.Ring, vi a0.Rate, vi a0.Bad, vi a0.Good, vb a0.Revert, vb a0.Wide]), (13, Value.agg #[vi a0.Mode, vi a0.Modulus, vi a0.Window, vi a0.T1, vi a0.N2, vi a0.Hold, vi a0.Wait, vi a0.Keep, vi a0.Queue, vi a0.Size, vi a0.Ring, vi a0.Rate, vi a0.Bad, vi a0.Good, vb a0.Revert, vb a0.Wide]), (15, po nb1 (0 + 5)), (16, vi a0.Hold), (17, po nb1 (0 + 6)), (18, vi a0.Wait), (19, po nb1 (0 + 14)), (20, vb a0.Revert), (22, po nb1 (0 + 1)), (23, vi a0.Modulus), (24, vi (w64 (a0.Modulus.tdiv (2)))), (25, vi (imin (w64 (a0.Modulus.tdiv (2))) (1024)))] mo HS ?_))))
  refine T.ev [(13, _)] [15, 17] [1] ⟨rfl, tv⟩ ⟨.n1 1 rfl rfl (fun w HS => X.loadSt 0 [vi a0.Mode, vi a0.Modulus, vi a0.Window, vi a0.T1, vi a0.N2, vi a0.Hold, vi a0.Wait, vi a0.Keep, vi a0.Queue, vi a0.Size, vi a0.Ring, vi a0.Rate, vi a0.Bad, vi a0.Good, vb a0.Revert, vb a0.Wide] HS rfl underlying23 rfl inf23 rfl rfl), .n1 1 rfl rfl (fun w HS => X.loadSt 0 [vi a0.Mode, vi a0.Modulus, vi a0.Window, vi a0.T1, vi a0.N2, vi a0.Hold, vi a0.Wait, vi a0.Keep, vi a0.Queue, vi a0.Size, vi a0.Ring, vi a0.Rate, vi a0.Bad, vi a0.Good, vb a0.Revert, vb a0.Wide] HS rfl underlying23 rfl inf23 rfl rfl), .fa 1 fo23_5, .ld 15 0 underlying3, .fa 1 fo23_6, .ld 17 0 underlying3, .fa 1 fo23_14, .ld 19 0 underlying4, .fa 1 fo23_1, .ld 22 0 underlying3, .n1 23 rfl rfl (fun w HS => X.quo rfl rfl (by decide)), .n1 24 rfl rfl (fun w HS => X.min2 rfl rfl), tv⟩ rfl (fun w HS => ?_)
  obtain ⟨t6, A7, H⟩ := bind_s H
  refine ⟨_, Y.cl func102 (arq_New.calls A7 HS.j0), ?_⟩
  rintro _ w ⟨bt6_0, rfl, HS⟩
  replace HS := HS.o1
  refine T.nw HS ?_
  refine T.ev [(16, _), (18, _), (20, _)] [15, 17] [3, 4, 5, 6, 7, 8] ⟨rfl, rfl, rfl, tv⟩ ⟨.n1 1 rfl rfl (fun w HS => X.loadSt 1 [vi a0.Mode, vi a0.Modulus, vi a0.Window, vi a0.T1, vi a0.N2, vi a0.Hold, vi a0.Wait, vi a0.Keep, vi a0.Queue, vi a0.Size, vi a0.Ring, vi a0.Rate, vi a0.Bad, vi a0.Good, vb a0.Revert, vb a0.Wide] HS rfl underlying23 rfl inf23 rfl rfl), .fa 1 fo23_5, .ld 15 1 underlying3, .fa 1 fo23_6, .ld 17 1 underlying3, .fa 1 fo23_14, .ld 19 1 underlying4, .fa 1 fo23_1, .ld 22 1 underlying3, .n1 23 rfl rfl (fun w HS => X.quo rfl rfl (by decide)), .n1 24 rfl rfl (fun w HS => X.min2 rfl rfl), tv⟩ rfl (fun w HS => ?_)
  obtain ⟨t8, A9, H⟩ := bind_s H
  refine ⟨_, Y.cl func103 (aps_New.calls A9 HS.j0), ?_⟩
  rintro _ w ⟨bt8_0, rfl, HS⟩
  replace HS := HS.o1
  refine T.nw HS ?_
  refine T.ev [(25, _)] [17] [10, 11, 12, 13] ⟨rfl, tv⟩ ⟨.n1 1 rfl rfl (fun w HS => X.loadSt 2 [vi a0.Mode, vi a0.Modulus, vi a0.Window, vi a0.T1, vi a0.N2, vi a0.Hold, vi a0.Wait, vi a0.Keep, vi a0.Queue, vi a0.Size, vi a0.Ring, vi a0.Rate, vi a0.Bad, vi a0.Good, vb a0.Revert, vb a0.Wide] HS rfl underlying23 rfl inf23 rfl rfl), .fa 1 fo23_1, .ld 22 2 underlying3, .n1 23 rfl rfl (fun w HS => X.quo rfl rfl (by decide)), .n1 24 rfl rfl (fun w HS => X.min2 rfl rfl), tv⟩ rfl (fun w HS => ?_)
  obtain ⟨t10, A11, H⟩ := bind_s H
  refine ⟨_, Y.cl func104 (twins_New.calls A11 HS.j0), ?_⟩
  rintro _ w ⟨bt10_0, rfl, HS⟩
  replace HS := HS.o1
  refine T.nm [(26, pt bt10_0), (27, Value.agg #[vi a0.Mode, vi a0.Modulus, vi a0.Window, vi a0.T1, vi a0.N2, vi a0.Hold, vi a0.Wait, vi a0.Keep, vi a0.Queue, vi a0.Size, vi a0.Ring, vi a0.Rate, vi a0.Bad, vi a0.Good, vb a0.Revert, vb a0.Wide, pt bt6_0, pt bt8_0, pt bt10_0, Value.int .u32 (0), vi (0), vi (0), Value.pointer none, Value.pointer none, Value.pointer none, vi (0), vi (0), vi (0), vi (0), vi (0), vi (0), vi (0), Value.pointer none, Value.pointer none, Value.pointer none, vi (0), vi (0), vi (0), vi (0), vi (0), vi (0), vi (0)])] HS ⟨.inl ⟨rfl, rfl⟩, ⟨.inr ⟨by decide, rfl⟩, tv⟩⟩ ?_
  refine T.ev [(27, _)] [] [0, 15] ⟨rfl, tv⟩ ⟨.n1 1 rfl rfl (fun w HS => X.loadSt 3 [vi a0.Mode, vi a0.Modulus, vi a0.Window, vi a0.T1, vi a0.N2, vi a0.Hold, vi a0.Wait, vi a0.Keep, vi a0.Queue, vi a0.Size, vi a0.Ring, vi a0.Rate, vi a0.Bad, vi a0.Good, vb a0.Revert, vb a0.Wide] HS rfl underlying23 rfl inf23 rfl rfl), .ns [(12, _), (14, _), (21, _), (26, _)] ⟨rfl, rfl, rfl, rfl, tv⟩ rfl (fun w HS => X.bd (Value.agg #[vi a0.Mode, vi a0.Modulus, vi a0.Window, vi a0.T1, vi a0.N2, vi a0.Hold, vi a0.Wait, vi a0.Keep, vi a0.Queue, vi a0.Size, vi a0.Ring, vi a0.Rate, vi a0.Bad, vi a0.Good, vb a0.Revert, vb a0.Wide, pt bt6_0, pt bt8_0, pt bt10_0, Value.int .u32 (0), vi (0), vi (0), Value.pointer none, Value.pointer none, Value.pointer none, vi (0), vi (0), vi (0), vi (0), vi (0), vi (0), vi (0), Value.pointer none, Value.pointer none, Value.pointer none, vi (0), vi (0), vi (0), vi (0), vi (0), vi (0), vi (0)]) rfl (fun _ => by kernel_rfl)), tv⟩ rfl (fun w HS => ?_)
  refine ⟨_, Y.box HS rfl, ?_⟩
  rintro _ w ⟨nb12, rfl, HS⟩
  refine T.nm [(28, pt nb12), (5, pt nb12)] HS ⟨.inl ⟨rfl, rfl⟩, ⟨.inr ⟨by decide, rfl⟩, tv⟩⟩ ?_
  refine T.fn [(1, _), (5, _)] ⟨rfl, rfl, tv⟩ ⟨.as 28, tv⟩ (fun w HS => ?_)
  refine At.next (V.seq (V.seq (V.region (W.mv rfl (W.nx (V.block (V.rounds 2 [(1, pt nb1), (5, pt nb12), (29, vi (0))] ⟨rfl, rfl, rfl, tv⟩ ?_)))))))
  refine V.seq (V.region (W.r (X.cmp true (by decide) rfl rfl rfl) rfl (W.nx (V.seq (V.condT rfl (V.skip (At.next (V.seq (V.block (V.seq (V.region (W.mv rfl (W.as rfl (W.nx (V.dr [7, 15, 18, 23] [19, 22] [(32, pt nb12), (33, vi (0)), (34, po nb1 (0 + 9)), (35, vi a0.Size), (36, vi (w64 (a0.Size + 11))), (37, po nb1 (0 + 15)), (38, vb a0.Wide), (40, po nb1 (0 + 12)), (41, vi a0.Bad), (42, po nb1 (0 + 13)), (43, vi a0.Good), (44, po nb1 (0 + 7)), (45, vi a0.Keep), (46, vi (w64 (3 * a0.Keep))), (48, po nb1 (0 + 10)), (49, vi a0.Ring), (52, pt nb12), (53, po nb12 (0 + 22))] mo HS ?_)))))))))))))))
  refine T.ev [(36, _), (38, _)] [19, 22] [2, 3, 4, 5, 6] ⟨rfl, rfl, tv⟩ ⟨.mv 5, .mv 6, .fa 1 fo23_9, .ld 34 4 underlying3, .n1 35 rfl rfl (fun w HS => X.add rfl rfl), .fa 1 fo23_15, .ld 37 4 underlying4, .fa 1 fo23_12, .ld 40 4 underlying3, .fa 1 fo23_13, .ld 42 4 underlying3, .fa 1 fo23_7, .ld 44 4 underlying3, .n1 45 rfl rfl (fun w HS => X.mul rfl rfl), .fa 1 fo23_10, .ld 48 4 underlying3, .nc 32, .fa 52 fo103_7, tv⟩ rfl (fun w HS => ?_)
  obtain ⟨t17, A18, H⟩ := bind_s H
  refine ⟨_, Y.cl func105 (frame_New.calls A18 HS.j0), ?_⟩
  rintro _ w ⟨bt17_0, rfl, HS⟩
  replace HS := HS.o1
  refine T.nw HS ?_
  refine T.ev [(41, _), (43, _), (46, _)] [19, 22] [8, 9, 10, 11, 12, 13, 14] ⟨rfl, rfl, rfl, tv⟩ ⟨.mv 5, .mv 6, .fa 1 fo23_12, .ld 40 5 underlying3, .fa 1 fo23_13, .ld 42 5 underlying3, .fa 1 fo23_7, .ld 44 5 underlying3, .n1 45 rfl rfl (fun w HS => X.mul rfl rfl), .fa 1 fo23_10, .ld 48 5 underlying3, .nc 32, .fa 52 fo103_7, tv⟩ rfl (fun w HS => ?_)
  obtain ⟨t19, A20, H⟩ := bind_s H
  refine ⟨_, Y.cl func106 (monitor_New.calls A20 HS.j0), ?_⟩
  rintro _ w ⟨bt19_0, rfl, HS⟩
  replace HS := HS.o1
  refine T.nw HS ?_
  refine T.ev [(49, _)] [] [16, 17] ⟨rfl, tv⟩ ⟨.mv 5, .mv 6, .fa 1 fo23_10, .ld 48 6 underlying3, .nc 32, .fa 52 fo103_7, tv⟩ rfl (fun w HS => ?_)
  obtain ⟨t21, A22, H⟩ := bind_s H
  refine ⟨_, Y.cl func107 (ring_New.calls A22 HS.j0), ?_⟩
  rintro _ w ⟨bt21_0, rfl, HS⟩
  replace HS := HS.o1
  refine T.nm [(50, pt bt21_0), (51, Value.agg #[pt bt17_0, pt bt19_0, pt bt21_0, vi (0), vi (0), vi (0), vi (0), vi (0), vi (0), vi (0)]), (54, po nb12 (0 + 22 + 0 * 10))] HS ⟨.inl ⟨rfl, rfl⟩, ⟨.inr ⟨by decide, rfl⟩, ⟨.inr ⟨by decide, rfl⟩, tv⟩⟩⟩ ?_
  refine T.ev [(51, _), (54, _)] [] [0, 1, 19, 20, 21, 22] ⟨rfl, rfl, tv⟩ ⟨.mv 5, .mv 6, .ns [(39, _), (47, _), (50, _)] ⟨rfl, rfl, rfl, tv⟩ rfl (fun w HS => X.bd (Value.agg #[pt bt17_0, pt bt19_0, pt bt21_0, vi (0), vi (0), vi (0), vi (0), vi (0), vi (0), vi (0)]) rfl (fun _ => by kernel_rfl)), .nc 32, .fa 52 fo103_7, .n2 33 53 rfl rfl rfl (fun w HS => X.indexArK 0 rfl underlying101 inf100 rfl rfl (by decide) (by decide)), tv⟩ rfl (fun w HS => ?_)
  refine ⟨_, Y.storeSt (c' := #[vi a0.Mode, vi a0.Modulus, vi a0.Window, vi a0.T1, vi a0.N2, vi a0.Hold, vi a0.Wait, vi a0.Keep, vi a0.Queue, vi a0.Size, vi a0.Ring, vi a0.Rate, vi a0.Bad, vi a0.Good, vb a0.Revert, vb a0.Wide, pt bt6_0, pt bt8_0, pt bt10_0, Value.int .u32 (0), vi (0), vi (0), pt bt17_0, pt bt19_0, pt bt21_0, vi (0), vi (0), vi (0), vi (0), vi (0), vi (0), vi (0), Value.pointer none, Value.pointer none, Value.pointer none, vi (0), vi (0), vi (0), vi (0), vi (0), vi (0), vi (0)]) 3 [pt bt17_0, pt bt19_0, pt bt21_0, vi (0), vi (0), vi (0), vi (0), vi (0), vi (0), vi (0)] HS rfl inf100 rfl rfl rfl rfl rfl rfl, ?_⟩
  rintro _ w HS
  refine T.nn HS ?_
  refine T.fn [(1, _), (5, _), (29, _)] ⟨rfl, rfl, rfl, tv⟩ tv (fun w HS => ?_)
  refine At.blockEnd (At.next (V.region (W.r (X.add rfl rfl) rfl (W.mv rfl (W.nil (At.onward [(1, pt nb1), (5, pt nb12), (29, vi (1))] ⟨rfl, rfl, rfl, tv⟩ ?_))))))
  refine V.seq (V.region (W.r (X.cmp true (by decide) rfl rfl rfl) rfl (W.nx (V.seq (V.condT rfl (V.skip (At.next (V.seq (V.block (V.seq (V.region (W.mv rfl (W.as rfl (W.nx (V.dr [7, 15, 18, 23] [19, 22] [(32, pt nb12), (33, vi (1)), (34, po nb1 (0 + 9)), (35, vi a0.Size), (36, vi (w64 (a0.Size + 11))), (37, po nb1 (0 + 15)), (38, vb a0.Wide), (40, po nb1 (0 + 12)), (41, vi a0.Bad), (42, po nb1 (0 + 13)), (43, vi a0.Good), (44, po nb1 (0 + 7)), (45, vi a0.Keep), (46, vi (w64 (3 * a0.Keep))), (48, po nb1 (0 + 10)), (49, vi a0.Ring), (52, pt nb12), (53, po nb12 (0 + 22))] mo HS ?_)))))))))))))))
  refine T.ev [(36, _), (38, _)] [19, 22] [2, 3, 4, 5, 6] ⟨rfl, rfl, tv⟩ ⟨.mv 5, .mv 6, .fa 1 fo23_9, .ld 34 7 underlying3, .n1 35 rfl rfl (fun w HS => X.add rfl rfl), .fa 1 fo23_15, .ld 37 7 underlying4, .fa 1 fo23_12, .ld 40 7 underlying3, .fa 1 fo23_13, .ld 42 7 underlying3, .fa 1 fo23_7, .ld 44 7 underlying3, .n1 45 rfl rfl (fun w HS => X.mul rfl rfl), .fa 1 fo23_10, .ld 48 7 underlying3, .nc 32, .fa 52 fo103_7, tv⟩ rfl (fun w HS => ?_)
  obtain ⟨t26, A27, H⟩ := bind_s H
  refine ⟨_, Y.cl func105 (frame_New.calls A27 HS.j0), ?_⟩
  rintro _ w ⟨bt26_0, rfl, HS⟩
  replace HS := HS.o1
  refine T.nw HS ?_
  refine T.ev [(41, _), (43, _), (46, _)] [19, 22] [8, 9, 10, 11, 12, 13, 14] ⟨rfl, rfl, rfl, tv⟩ ⟨.mv 5, .mv 6, .fa 1 fo23_12, .ld 40 8 underlying3, .fa 1 fo23_13, .ld 42 8 underlying3, .fa 1 fo23_7, .ld 44 8 underlying3, .n1 45 rfl rfl (fun w HS => X.mul rfl rfl), .fa 1 fo23_10, .ld 48 8 underlying3, .nc 32, .fa 52 fo103_7, tv⟩ rfl (fun w HS => ?_)
  obtain ⟨t28, A29, H⟩ := bind_s H
  refine ⟨_, Y.cl func106 (monitor_New.calls A29 HS.j0), ?_⟩
  rintro _ w ⟨bt28_0, rfl, HS⟩
  replace HS := HS.o1
  refine T.nw HS ?_
  refine T.ev [(49, _)] [] [16, 17] ⟨rfl, tv⟩ ⟨.mv 5, .mv 6, .fa 1 fo23_10, .ld 48 9 underlying3, .nc 32, .fa 52 fo103_7, tv⟩ rfl (fun w HS => ?_)
  obtain ⟨t30, A31, H⟩ := bind_s H
  refine ⟨_, Y.cl func107 (ring_New.calls A31 HS.j0), ?_⟩
  rintro _ w ⟨bt30_0, rfl, HS⟩
  replace HS := HS.o1
  refine T.nm [(50, pt bt30_0), (51, Value.agg #[pt bt26_0, pt bt28_0, pt bt30_0, vi (0), vi (0), vi (0), vi (0), vi (0), vi (0), vi (0)]), (54, po nb12 (0 + 22 + 1 * 10))] HS ⟨.inl ⟨rfl, rfl⟩, ⟨.inr ⟨by decide, rfl⟩, ⟨.inr ⟨by decide, rfl⟩, tv⟩⟩⟩ ?_
  refine T.ev [(51, _), (54, _)] [] [0, 1, 19, 20, 21, 22] ⟨rfl, rfl, tv⟩ ⟨.mv 5, .mv 6, .ns [(39, _), (47, _), (50, _)] ⟨rfl, rfl, rfl, tv⟩ rfl (fun w HS => X.bd (Value.agg #[pt bt26_0, pt bt28_0, pt bt30_0, vi (0), vi (0), vi (0), vi (0), vi (0), vi (0), vi (0)]) rfl (fun _ => by kernel_rfl)), .nc 32, .fa 52 fo103_7, .n2 33 53 rfl rfl rfl (fun w HS => X.indexArK 1 rfl underlying101 inf100 rfl rfl (by decide) (by decide)), tv⟩ rfl (fun w HS => ?_)
  refine ⟨_, Y.storeSt (c' := #[vi a0.Mode, vi a0.Modulus, vi a0.Window, vi a0.T1, vi a0.N2, vi a0.Hold, vi a0.Wait, vi a0.Keep, vi a0.Queue, vi a0.Size, vi a0.Ring, vi a0.Rate, vi a0.Bad, vi a0.Good, vb a0.Revert, vb a0.Wide, pt bt6_0, pt bt8_0, pt bt10_0, Value.int .u32 (0), vi (0), vi (0), pt bt17_0, pt bt19_0, pt bt21_0, vi (0), vi (0), vi (0), vi (0), vi (0), vi (0), vi (0), pt bt26_0, pt bt28_0, pt bt30_0, vi (0), vi (0), vi (0), vi (0), vi (0), vi (0), vi (0)]) 6 [pt bt26_0, pt bt28_0, pt bt30_0, vi (0), vi (0), vi (0), vi (0), vi (0), vi (0), vi (0)] HS rfl inf100 rfl rfl rfl rfl rfl rfl, ?_⟩
  rintro _ w HS
  refine T.nn HS ?_
  refine T.fn [(1, _), (5, _), (29, _)] ⟨rfl, rfl, rfl, tv⟩ tv (fun w HS => ?_)
  refine At.blockEnd (At.next (V.region (W.r (X.add rfl rfl) rfl (W.mv rfl (W.nil (At.onward [(1, pt nb1), (5, pt nb12), (29, vi (2))] ⟨rfl, rfl, rfl, tv⟩ ?_))))))
  refine V.seq (V.region (W.r (X.cmp false (by decide) rfl rfl rfl) rfl (W.nx (V.seq (V.condF rfl (V.exit (At.thenExit (At.thenExit (At.blockExit (At.next (V.seq (V.region (W.mv rfl (W.as rfl (W.as rfl (W.nx (V.ret ?_)))))))))))))))))
  replace HS := HS.pm [6, 9, 8, 7, 5, 4, 3, 2, 1, 0, 10, 11]
  replace HS := station_Station.close tv HS
  replace HS := HS.pk [0, 2] [1]
  cases H
  exact At.ret2 rfl rfl rfl ⟨_, rfl, nb12, rfl, HS⟩
 ·replace H := ite_f c5 H
  refine V.condT (sb (n_f (dF c5))) (V.seq (V.region (W.mv rfl (W.as rfl (W.as rfl (W.nx (V.ret (At.thenRet ?_))))))))
  replace HS := HS.more (B := optAt station_Station.at 0 none) 0 rfl (fun _ _ => tv) (fun _ => tv)
  replace HS := HS.pk [0, 2] [1]
  cases H
  exact At.ret2 rfl rfl rfl ⟨_, rfl, 0, rfl, HS⟩
structure pipe_Pipe where
 room : Int
 b : List Int
 cut : Bool
 stall : Bool
deriving DecidableEq, Inhabited
def pipe_Pipe.at (b : Nat) (x : pipe_Pipe) : As := fun h => True ∧ ∃ a1 : Option Addr, ∃ c1 : Nat, Sp [blk b (#[vi x.room, vs a1 x.b.length c1, vb x.cut, vb x.stall]) 151, row 5 1 (.slice a1 x.b.length c1) x.b.length (x.b.map (Value.int .u8))] h
theorem pipe_Pipe.open {b : Nat} {x : pipe_Pipe} {L : List As} {w0 w : World} (hs : Sep.St (pipe_Pipe.at b x :: L) w0 w) : ∃ a1 : Option Addr, ∃ c1 : Nat, True ∧ Sep.St (blk b (#[vi x.room, vs a1 x.b.length c1, vb x.cut, vb x.stall]) 151 :: row 5 1 (.slice a1 x.b.length c1) x.b.length (x.b.map (Value.int .u8)) :: L) w0 w := by
 obtain ⟨ho, ht, hu, h, hon, h1, h2, hd, e1, e2, ⟨hi, a1, c1, hA⟩, hl⟩ := hs
 exact ⟨a1, c1, hi, St.open (m := [blk b (#[vi x.room, vs a1 x.b.length c1, vb x.cut, vb x.stall]) 151, row 5 1 (.slice a1 x.b.length c1) x.b.length (x.b.map (Value.int .u8))]) ⟨ho, ht, hu, h, hon, h1, h2, hd, e1, e2, hA, hl⟩⟩
theorem pipe_Pipe.close {b : Nat} {l0 : Int} {l1 : List Int} {l2 : Bool} {l3 : Bool} {a1 : Option Addr} {c1 : Nat} {L : List As} {w0 w : World} (hi : True) (hs : Sep.St (blk b (#[vi l0, vs a1 l1.length c1, vb l2, vb l3]) 151 :: row 5 1 (.slice a1 l1.length c1) l1.length (l1.map (Value.int .u8)) :: L) w0 w) : Sep.St (pipe_Pipe.at b ({ room := l0, b := l1, cut := l2, stall := l3 } : pipe_Pipe) :: L) w0 w := by
 have h2 := St.join (m := [blk b (#[vi l0, vs a1 l1.length c1, vb l2, vb l3]) 151, row 5 1 (.slice a1 l1.length c1) l1.length (l1.map (Value.int .u8))]) hs
 exact h2.mono fun h hh => ⟨hi, _, _, hh⟩
def pipe_New.f (a0 : Int) : Option pipe_Pipe := some (({ room := imax (0) (imin a0 (1048576)), b := ([] : List Int), cut := false, stall := false } : pipe_Pipe))
theorem pipe_New.calls {a0 : Int} {R : As} {w0 w : World}  {r : pipe_Pipe} (H : pipe_New.f a0 = some r) (HS : Sep.St [R] w0 w)  : Calls Tryz.prog 47 #[vi a0] w (Ret fun u w => ∃ (bq0 : Nat), u = pt bq0 ∧ Sep.St [pipe_Pipe.at bq0 r, R] w0 w) := by
 unfold pipe_New.f at H
 refine calls_enter func47 rfl rfl ?_
 have H : _ = some r := H
 refine V.seq (V.region (W.as rfl (W.nx (V.seq (V.region (W.mv rfl (W.r (X.min2 rfl rfl) rfl (W.r (X.max2 rfl rfl) rfl (W.r (X.bd (Value.agg #[vi (imax (0) (imin a0 (1048576))), vs none 0 0, vb false, vb false]) rfl (fun _ => by kernel_rfl)) rfl (W.e (Y.box HS rfl) rfl ?_))))))))))
 rintro _ w ⟨nb1, rfl, HS⟩
 refine W.as rfl (W.nx (V.ret ?_))
 replace HS := row_nilF (Value.int .u8) 5 1 HS
 replace HS := HS.pm [1, 0, 2]
 replace HS := pipe_Pipe.close (l1 := ([] : List Int)) tv HS
 cases H
 exact At.ret1 rfl rfl ⟨_, rfl, nb1, rfl, HS⟩
structure world_way where
 pipe : pipe_Pipe
 sent : List (List Int)
 got : List (List Int)
deriving DecidableEq, Inhabited
structure world_World where
 c : api_Config
 stations : (station_Station × station_Station)
 ways : ((world_way × world_way) × (world_way × world_way))
 now : Int
deriving DecidableEq, Inhabited
def world_World.at (b : Nat) (x : world_World) : As := fun h => True ∧ ∃ b16 : Nat, ∃ b17 : Nat, ∃ b18 : Nat, ∃ a19 : Option Addr, ∃ c19 : Nat, ∃ d19 : List Value, ∃ a20 : Option Addr, ∃ c20 : Nat, ∃ d20 : List Value, ∃ b21 : Nat, ∃ a22 : Option Addr, ∃ c22 : Nat, ∃ d22 : List Value, ∃ a23 : Option Addr, ∃ c23 : Nat, ∃ d23 : List Value, ∃ b24 : Nat, ∃ a25 : Option Addr, ∃ c25 : Nat, ∃ d25 : List Value, ∃ a26 : Option Addr, ∃ c26 : Nat, ∃ d26 : List Value, ∃ b27 : Nat, ∃ a28 : Option Addr, ∃ c28 : Nat, ∃ d28 : List Value, ∃ a29 : Option Addr, ∃ c29 : Nat, ∃ d29 : List Value, Sp [blk b (#[vi x.c.Mode, vi x.c.Modulus, vi x.c.Window, vi x.c.T1, vi x.c.N2, vi x.c.Hold, vi x.c.Wait, vi x.c.Keep, vi x.c.Queue, vi x.c.Size, vi x.c.Ring, vi x.c.Rate, vi x.c.Bad, vi x.c.Good, vb x.c.Revert, vb x.c.Wide, pt b16, pt b17, pt b18, vs a19 x.ways.1.1.sent.length c19, vs a20 x.ways.1.1.got.length c20, pt b21, vs a22 x.ways.1.2.sent.length c22, vs a23 x.ways.1.2.got.length c23, pt b24, vs a25 x.ways.2.1.sent.length c25, vs a26 x.ways.2.1.got.length c26, pt b27, vs a28 x.ways.2.2.sent.length c28, vs a29 x.ways.2.2.got.length c29, vi x.now]) 83, station_Station.at b16 x.stations.1, station_Station.at b17 x.stations.2, pipe_Pipe.at b18 x.ways.1.1.pipe, row 48 1 (.slice a19 x.ways.1.1.sent.length c19) x.ways.1.1.sent.length d19, tie (El.sl (El.int .u8)) d19 x.ways.1.1.sent, row 48 1 (.slice a20 x.ways.1.1.got.length c20) x.ways.1.1.got.length d20, tie (El.sl (El.int .u8)) d20 x.ways.1.1.got, pipe_Pipe.at b21 x.ways.1.2.pipe, row 48 1 (.slice a22 x.ways.1.2.sent.length c22) x.ways.1.2.sent.length d22, tie (El.sl (El.int .u8)) d22 x.ways.1.2.sent, row 48 1 (.slice a23 x.ways.1.2.got.length c23) x.ways.1.2.got.length d23, tie (El.sl (El.int .u8)) d23 x.ways.1.2.got, pipe_Pipe.at b24 x.ways.2.1.pipe, row 48 1 (.slice a25 x.ways.2.1.sent.length c25) x.ways.2.1.sent.length d25, tie (El.sl (El.int .u8)) d25 x.ways.2.1.sent, row 48 1 (.slice a26 x.ways.2.1.got.length c26) x.ways.2.1.got.length d26, tie (El.sl (El.int .u8)) d26 x.ways.2.1.got, pipe_Pipe.at b27 x.ways.2.2.pipe, row 48 1 (.slice a28 x.ways.2.2.sent.length c28) x.ways.2.2.sent.length d28, tie (El.sl (El.int .u8)) d28 x.ways.2.2.sent, row 48 1 (.slice a29 x.ways.2.2.got.length c29) x.ways.2.2.got.length d29, tie (El.sl (El.int .u8)) d29 x.ways.2.2.got] h
theorem world_World.open {b : Nat} {x : world_World} {L : List As} {w0 w : World} (hs : Sep.St (world_World.at b x :: L) w0 w) : ∃ b16 : Nat, ∃ b17 : Nat, ∃ b18 : Nat, ∃ a19 : Option Addr, ∃ c19 : Nat, ∃ d19 : List Value, ∃ a20 : Option Addr, ∃ c20 : Nat, ∃ d20 : List Value, ∃ b21 : Nat, ∃ a22 : Option Addr, ∃ c22 : Nat, ∃ d22 : List Value, ∃ a23 : Option Addr, ∃ c23 : Nat, ∃ d23 : List Value, ∃ b24 : Nat, ∃ a25 : Option Addr, ∃ c25 : Nat, ∃ d25 : List Value, ∃ a26 : Option Addr, ∃ c26 : Nat, ∃ d26 : List Value, ∃ b27 : Nat, ∃ a28 : Option Addr, ∃ c28 : Nat, ∃ d28 : List Value, ∃ a29 : Option Addr, ∃ c29 : Nat, ∃ d29 : List Value, True ∧ Sep.St (blk b (#[vi x.c.Mode, vi x.c.Modulus, vi x.c.Window, vi x.c.T1, vi x.c.N2, vi x.c.Hold, vi x.c.Wait, vi x.c.Keep, vi x.c.Queue, vi x.c.Size, vi x.c.Ring, vi x.c.Rate, vi x.c.Bad, vi x.c.Good, vb x.c.Revert, vb x.c.Wide, pt b16, pt b17, pt b18, vs a19 x.ways.1.1.sent.length c19, vs a20 x.ways.1.1.got.length c20, pt b21, vs a22 x.ways.1.2.sent.length c22, vs a23 x.ways.1.2.got.length c23, pt b24, vs a25 x.ways.2.1.sent.length c25, vs a26 x.ways.2.1.got.length c26, pt b27, vs a28 x.ways.2.2.sent.length c28, vs a29 x.ways.2.2.got.length c29, vi x.now]) 83 :: station_Station.at b16 x.stations.1 :: station_Station.at b17 x.stations.2 :: pipe_Pipe.at b18 x.ways.1.1.pipe :: row 48 1 (.slice a19 x.ways.1.1.sent.length c19) x.ways.1.1.sent.length d19 :: tie (El.sl (El.int .u8)) d19 x.ways.1.1.sent :: row 48 1 (.slice a20 x.ways.1.1.got.length c20) x.ways.1.1.got.length d20 :: tie (El.sl (El.int .u8)) d20 x.ways.1.1.got :: pipe_Pipe.at b21 x.ways.1.2.pipe :: row 48 1 (.slice a22 x.ways.1.2.sent.length c22) x.ways.1.2.sent.length d22 :: tie (El.sl (El.int .u8)) d22 x.ways.1.2.sent :: row 48 1 (.slice a23 x.ways.1.2.got.length c23) x.ways.1.2.got.length d23 :: tie (El.sl (El.int .u8)) d23 x.ways.1.2.got :: pipe_Pipe.at b24 x.ways.2.1.pipe :: row 48 1 (.slice a25 x.ways.2.1.sent.length c25) x.ways.2.1.sent.length d25 :: tie (El.sl (El.int .u8)) d25 x.ways.2.1.sent :: row 48 1 (.slice a26 x.ways.2.1.got.length c26) x.ways.2.1.got.length d26 :: tie (El.sl (El.int .u8)) d26 x.ways.2.1.got :: pipe_Pipe.at b27 x.ways.2.2.pipe :: row 48 1 (.slice a28 x.ways.2.2.sent.length c28) x.ways.2.2.sent.length d28 :: tie (El.sl (El.int .u8)) d28 x.ways.2.2.sent :: row 48 1 (.slice a29 x.ways.2.2.got.length c29) x.ways.2.2.got.length d29 :: tie (El.sl (El.int .u8)) d29 x.ways.2.2.got :: L) w0 w := by
 obtain ⟨ho, ht, hu, h, hon, h1, h2, hd, e1, e2, ⟨hi, b16, b17, b18, a19, c19, d19, a20, c20, d20, b21, a22, c22, d22, a23, c23, d23, b24, a25, c25, d25, a26, c26, d26, b27, a28, c28, d28, a29, c29, d29, hA⟩, hl⟩ := hs
 exact ⟨b16, b17, b18, a19, c19, d19, a20, c20, d20, b21, a22, c22, d22, a23, c23, d23, b24, a25, c25, d25, a26, c26, d26, b27, a28, c28, d28, a29, c29, d29, hi, St.open (m := [blk b (#[vi x.c.Mode, vi x.c.Modulus, vi x.c.Window, vi x.c.T1, vi x.c.N2, vi x.c.Hold, vi x.c.Wait, vi x.c.Keep, vi x.c.Queue, vi x.c.Size, vi x.c.Ring, vi x.c.Rate, vi x.c.Bad, vi x.c.Good, vb x.c.Revert, vb x.c.Wide, pt b16, pt b17, pt b18, vs a19 x.ways.1.1.sent.length c19, vs a20 x.ways.1.1.got.length c20, pt b21, vs a22 x.ways.1.2.sent.length c22, vs a23 x.ways.1.2.got.length c23, pt b24, vs a25 x.ways.2.1.sent.length c25, vs a26 x.ways.2.1.got.length c26, pt b27, vs a28 x.ways.2.2.sent.length c28, vs a29 x.ways.2.2.got.length c29, vi x.now]) 83, station_Station.at b16 x.stations.1, station_Station.at b17 x.stations.2, pipe_Pipe.at b18 x.ways.1.1.pipe, row 48 1 (.slice a19 x.ways.1.1.sent.length c19) x.ways.1.1.sent.length d19, tie (El.sl (El.int .u8)) d19 x.ways.1.1.sent, row 48 1 (.slice a20 x.ways.1.1.got.length c20) x.ways.1.1.got.length d20, tie (El.sl (El.int .u8)) d20 x.ways.1.1.got, pipe_Pipe.at b21 x.ways.1.2.pipe, row 48 1 (.slice a22 x.ways.1.2.sent.length c22) x.ways.1.2.sent.length d22, tie (El.sl (El.int .u8)) d22 x.ways.1.2.sent, row 48 1 (.slice a23 x.ways.1.2.got.length c23) x.ways.1.2.got.length d23, tie (El.sl (El.int .u8)) d23 x.ways.1.2.got, pipe_Pipe.at b24 x.ways.2.1.pipe, row 48 1 (.slice a25 x.ways.2.1.sent.length c25) x.ways.2.1.sent.length d25, tie (El.sl (El.int .u8)) d25 x.ways.2.1.sent, row 48 1 (.slice a26 x.ways.2.1.got.length c26) x.ways.2.1.got.length d26, tie (El.sl (El.int .u8)) d26 x.ways.2.1.got, pipe_Pipe.at b27 x.ways.2.2.pipe, row 48 1 (.slice a28 x.ways.2.2.sent.length c28) x.ways.2.2.sent.length d28, tie (El.sl (El.int .u8)) d28 x.ways.2.2.sent, row 48 1 (.slice a29 x.ways.2.2.got.length c29) x.ways.2.2.got.length d29, tie (El.sl (El.int .u8)) d29 x.ways.2.2.got]) ⟨ho, ht, hu, h, hon, h1, h2, hd, e1, e2, hA, hl⟩⟩
theorem world_World.close {b : Nat} {l0 : Int} {l1 : Int} {l2 : Int} {l3 : Int} {l4 : Int} {l5 : Int} {l6 : Int} {l7 : Int} {l8 : Int} {l9 : Int} {l10 : Int} {l11 : Int} {l12 : Int} {l13 : Int} {l14 : Bool} {l15 : Bool} {l16 : station_Station} {l17 : station_Station} {l18 : pipe_Pipe} {l19 : List (List Int)} {l20 : List (List Int)} {l21 : pipe_Pipe} {l22 : List (List Int)} {l23 : List (List Int)} {l24 : pipe_Pipe} {l25 : List (List Int)} {l26 : List (List Int)} {l27 : pipe_Pipe} {l28 : List (List Int)} {l29 : List (List Int)} {l30 : Int} {b16 : Nat} {b17 : Nat} {b18 : Nat} {a19 : Option Addr} {c19 : Nat} {d19 : List Value} {a20 : Option Addr} {c20 : Nat} {d20 : List Value} {b21 : Nat} {a22 : Option Addr} {c22 : Nat} {d22 : List Value} {a23 : Option Addr} {c23 : Nat} {d23 : List Value} {b24 : Nat} {a25 : Option Addr} {c25 : Nat} {d25 : List Value} {a26 : Option Addr} {c26 : Nat} {d26 : List Value} {b27 : Nat} {a28 : Option Addr} {c28 : Nat} {d28 : List Value} {a29 : Option Addr} {c29 : Nat} {d29 : List Value} {L : List As} {w0 w : World} (hi : True) (hs : Sep.St (blk b (#[vi l0, vi l1, vi l2, vi l3, vi l4, vi l5, vi l6, vi l7, vi l8, vi l9, vi l10, vi l11, vi l12, vi l13, vb l14, vb l15, pt b16, pt b17, pt b18, vs a19 l19.length c19, vs a20 l20.length c20, pt b21, vs a22 l22.length c22, vs a23 l23.length c23, pt b24, vs a25 l25.length c25, vs a26 l26.length c26, pt b27, vs a28 l28.length c28, vs a29 l29.length c29, vi l30]) 83 :: station_Station.at b16 l16 :: station_Station.at b17 l17 :: pipe_Pipe.at b18 l18 :: row 48 1 (.slice a19 l19.length c19) l19.length d19 :: tie (El.sl (El.int .u8)) d19 l19 :: row 48 1 (.slice a20 l20.length c20) l20.length d20 :: tie (El.sl (El.int .u8)) d20 l20 :: pipe_Pipe.at b21 l21 :: row 48 1 (.slice a22 l22.length c22) l22.length d22 :: tie (El.sl (El.int .u8)) d22 l22 :: row 48 1 (.slice a23 l23.length c23) l23.length d23 :: tie (El.sl (El.int .u8)) d23 l23 :: pipe_Pipe.at b24 l24 :: row 48 1 (.slice a25 l25.length c25) l25.length d25 :: tie (El.sl (El.int .u8)) d25 l25 :: row 48 1 (.slice a26 l26.length c26) l26.length d26 :: tie (El.sl (El.int .u8)) d26 l26 :: pipe_Pipe.at b27 l27 :: row 48 1 (.slice a28 l28.length c28) l28.length d28 :: tie (El.sl (El.int .u8)) d28 l28 :: row 48 1 (.slice a29 l29.length c29) l29.length d29 :: tie (El.sl (El.int .u8)) d29 l29 :: L) w0 w) : Sep.St (world_World.at b ({ c := ({ Mode := l0, Modulus := l1, Window := l2, T1 := l3, N2 := l4, Hold := l5, Wait := l6, Keep := l7, Queue := l8, Size := l9, Ring := l10, Rate := l11, Bad := l12, Good := l13, Revert := l14, Wide := l15 } : api_Config), stations := (l16, l17), ways := ((({ pipe := l18, sent := l19, got := l20 } : world_way), ({ pipe := l21, sent := l22, got := l23 } : world_way)), (({ pipe := l24, sent := l25, got := l26 } : world_way), ({ pipe := l27, sent := l28, got := l29 } : world_way))), now := l30 } : world_World) :: L) w0 w := by
 have h2 := St.join (m := [blk b (#[vi l0, vi l1, vi l2, vi l3, vi l4, vi l5, vi l6, vi l7, vi l8, vi l9, vi l10, vi l11, vi l12, vi l13, vb l14, vb l15, pt b16, pt b17, pt b18, vs a19 l19.length c19, vs a20 l20.length c20, pt b21, vs a22 l22.length c22, vs a23 l23.length c23, pt b24, vs a25 l25.length c25, vs a26 l26.length c26, pt b27, vs a28 l28.length c28, vs a29 l29.length c29, vi l30]) 83, station_Station.at b16 l16, station_Station.at b17 l17, pipe_Pipe.at b18 l18, row 48 1 (.slice a19 l19.length c19) l19.length d19, tie (El.sl (El.int .u8)) d19 l19, row 48 1 (.slice a20 l20.length c20) l20.length d20, tie (El.sl (El.int .u8)) d20 l20, pipe_Pipe.at b21 l21, row 48 1 (.slice a22 l22.length c22) l22.length d22, tie (El.sl (El.int .u8)) d22 l22, row 48 1 (.slice a23 l23.length c23) l23.length d23, tie (El.sl (El.int .u8)) d23 l23, pipe_Pipe.at b24 l24, row 48 1 (.slice a25 l25.length c25) l25.length d25, tie (El.sl (El.int .u8)) d25 l25, row 48 1 (.slice a26 l26.length c26) l26.length d26, tie (El.sl (El.int .u8)) d26 l26, pipe_Pipe.at b27 l27, row 48 1 (.slice a28 l28.length c28) l28.length d28, tie (El.sl (El.int .u8)) d28 l28, row 48 1 (.slice a29 l29.length c29) l29.length d29, tie (El.sl (El.int .u8)) d29 l29]) hs
 exact h2.mono fun h hh => ⟨hi, _, _, _, _, _, _, _, _, _, _, _, _, _, _, _, _, _, _, _, _, _, _, _, _, _, _, _, _, _, _, hh⟩
def world_New.f (k : Nat) (a0 : api_Config) : Option (Option world_World × Int) := ((station_New.f k a0).bind fun t5 => (if t5.1.isNone = true then (if t5.2 = 0 then none else some (none, t5.2)) else (if t5.2 = 0 then ((pipe_New.f (w64 ((w64 (2 * a0.Ring)) + a0.Rate))).bind fun t15 => ((pipe_New.f (w64 ((w64 (2 * a0.Ring)) + a0.Rate))).bind fun t18 => ((station_New.f k a0).bind fun t21 => (if t21.1.isNone = true then (if t21.2 = 0 then none else some (none, t21.2)) else (if t21.2 = 0 then ((pipe_New.f (w64 ((w64 (2 * a0.Ring)) + a0.Rate))).bind fun t31 => ((pipe_New.f (w64 ((w64 (2 * a0.Ring)) + a0.Rate))).bind fun t34 => some (some ({ c := a0, stations := (t5.1.getD default, t21.1.getD default), ways := ((({ pipe := t15, sent := ([] : List (List Int)), got := ([] : List (List Int)) } : world_way), ({ pipe := t31, sent := ([] : List (List Int)), got := ([] : List (List Int)) } : world_way)), (({ pipe := t18, sent := ([] : List (List Int)), got := ([] : List (List Int)) } : world_way), ({ pipe := t34, sent := ([] : List (List Int)), got := ([] : List (List Int)) } : world_way))), now := 0 } : world_World), 0))) else some (none, t21.2)))))) else some (none, t5.2))))
theorem world_New.calls {k : Nat} {a0 : api_Config} {R : As} {w0 w : World}  {r : Option world_World × Int} (H : world_New.f k a0 = some r) (HS : Sep.St [R] w0 w)  : Calls Tryz.prog 9 #[Value.agg #[vi a0.Mode, vi a0.Modulus, vi a0.Window, vi a0.T1, vi a0.N2, vi a0.Hold, vi a0.Wait, vi a0.Keep, vi a0.Queue, vi a0.Size, vi a0.Ring, vi a0.Rate, vi a0.Bad, vi a0.Good, vb a0.Revert, vb a0.Wide]] w (Ret fun u w => ∃ (bq0 : Nat), u = Value.tuple #[optv bq0 r.1, vi r.2] ∧ Sep.St [optAt world_World.at bq0 r.1, R] w0 w) := by
 unfold world_New.f at H
 refine calls_enter func9 rfl rfl ?_
 have H : _ = some r := H
 refine V.seq (V.region (W.e (Y.box HS rfl) rfl ?_))
 rintro _ w ⟨nb1, rfl, HS⟩
 refine W.as rfl (W.as rfl (W.nx (V.seq (V.region (W.r (X.loadSt 0 [vi a0.Mode, vi a0.Modulus, vi a0.Window, vi a0.T1, vi a0.N2, vi a0.Hold, vi a0.Wait, vi a0.Keep, vi a0.Queue, vi a0.Size, vi a0.Ring, vi a0.Rate, vi a0.Bad, vi a0.Good, vb a0.Revert, vb a0.Wide] HS rfl underlying23 rfl inf23 rfl rfl) rfl (W.r (X.bd (Value.agg #[vi a0.Mode, vi a0.Modulus, vi a0.Window, vi a0.T1, vi a0.N2, vi a0.Hold, vi a0.Wait, vi a0.Keep, vi a0.Queue, vi a0.Size, vi a0.Ring, vi a0.Rate, vi a0.Bad, vi a0.Good, vb a0.Revert, vb a0.Wide, Value.pointer none, Value.pointer none, Value.pointer none, vs none 0 0, vs none 0 0, Value.pointer none, vs none 0 0, vs none 0 0, Value.pointer none, vs none 0 0, vs none 0 0, Value.pointer none, vs none 0 0, vs none 0 0, vi (0)]) rfl (fun _ => by kernel_rfl)) rfl (W.e (Y.box HS rfl) rfl ?_)))))))
 rintro _ w ⟨nb2, rfl, HS⟩
 refine W.as rfl (W.nx (V.seq (V.seq (V.region (W.mv rfl (W.nx (V.block (V.rounds 2 [(1, pt nb1), (4, pt nb2), (12, vi (0))] ⟨rfl, rfl, rfl, tv⟩ ?_))))))))
 refine V.seq (V.region (W.r (X.cmp true (by decide) rfl rfl rfl) rfl (W.nx (V.seq (V.condT rfl (V.skip (At.next (V.seq (V.block (V.seq (V.region (W.mv rfl (W.as rfl (W.nx (V.seq (V.region (W.r (X.loadSt 1 [vi a0.Mode, vi a0.Modulus, vi a0.Window, vi a0.T1, vi a0.N2, vi a0.Hold, vi a0.Wait, vi a0.Keep, vi a0.Queue, vi a0.Size, vi a0.Ring, vi a0.Rate, vi a0.Bad, vi a0.Good, vb a0.Revert, vb a0.Wide] HS rfl underlying23 rfl inf23 rfl rfl) rfl ?_)))))))))))))))))
 obtain ⟨t5, A6, H⟩ := bind_s H
 by_cases c7 : t5.1.isNone = true
 ·replace H := ite_t c7 H
  refine W.e (Y.cl func46 (station_New.calls A6 HS.j0)) rfl ?_
  rintro _ w ⟨bt5_0, rfl, HS⟩
  replace HS := HS.o1
  replace HS := St.optN c7 HS
  rw [optv_n c7]
  refine W.mv rfl (W.r (X.extract rfl rfl) rfl (W.r (X.extract rfl rfl) rfl (W.as rfl (W.as rfl (W.nx (V.seq (V.seq (V.region (W.mv rfl (W.r (X.cmp (!(decide (t5.2 = 0))) rfl rfl rfl rfl) rfl (W.nx ?_)))))))))))
  by_cases c10 : t5.2 = 0
  ·replace H := ite_t c10 H
   refine V.condF (sb (n_t (dT c10))) (V.skip (At.next (V.seq (V.region (W.mv rfl (W.mv rfl (W.mv rfl (W.nc rfl (W.fa fo83_1 rfl (W.r (X.indexArK 0 rfl underlying76 inf32 rfl rfl (by decide) (by decide)) rfl ?_))))))))))
   exact nomatch H
  ·replace H := ite_f c10 H
   refine V.condT (sb (n_f (dF c10))) (V.seq (V.region (W.mv rfl (W.as rfl (W.as rfl (W.nx (V.ret (At.thenRet (At.blockRet (At.thenRet (At.thenRet (At.blockRet (At.thenRet ?_)))))))))))))
   replace HS := HS.more (B := optAt world_World.at 0 none) 0 rfl (fun _ _ => tv) (fun _ => tv)
   replace HS := HS.pk [0, 3] [1, 2]
   cases H
   exact At.ret2 rfl rfl rfl ⟨_, rfl, 0, rfl, HS⟩
 ·replace H := ite_f c7 H
  refine W.e (Y.cl func46 (station_New.calls A6 HS.j0)) rfl ?_
  rintro _ w ⟨bt5_0, rfl, HS⟩
  replace HS := HS.o1
  replace HS := St.optS default c7 HS
  rw [optv_s c7]
  refine W.mv rfl (W.r (X.extract rfl rfl) rfl (W.r (X.extract rfl rfl) rfl (W.as rfl (W.as rfl (W.nx (V.seq (V.seq (V.region (W.mv rfl (W.r (X.cmp (!(decide (t5.2 = 0))) rfl rfl rfl rfl) rfl (W.nx ?_)))))))))))
  by_cases c14 : t5.2 = 0
  ·replace H := ite_t c14 H
   refine V.condF (sb (n_t (dT c14))) (V.skip (At.next (V.seq (V.region (W.mv rfl (W.mv rfl (W.mv rfl (W.nc rfl (W.fa fo83_1 rfl (W.r (X.indexArK 0 rfl underlying76 inf32 rfl rfl (by decide) (by decide)) rfl (W.st 1 16 HS inf32 rfl rfl rfl rfl rfl rfl fun w HS => ?_)))))))))))
   refine W.nx (V.seq (V.region (W.mv rfl (W.nx (V.block (V.rounds 2 [(1, pt nb1), (4, pt nb2), (5, vi (0)), (12, vi (0)), (29, vi (0))] ⟨rfl, rfl, rfl, rfl, rfl, tv⟩ ?_))))))
   refine V.seq (V.region (W.r (X.cmp true (by decide) rfl rfl rfl) rfl (W.nx (V.seq (V.condT rfl (V.skip (At.next (V.seq (V.block (V.seq (V.region (W.mv rfl (W.as rfl (W.nx (V.dr [9, 15] [13, 14] [(32, pt nb2), (33, vi (0)), (34, vi (0)), (35, po nb1 (0 + 10)), (36, vi a0.Ring), (37, vi (w64 (2 * a0.Ring))), (38, po nb1 (0 + 11)), (39, vi a0.Rate), (40, vi (w64 ((w64 (2 * a0.Ring)) + a0.Rate))), (42, pt nb2), (43, po nb2 (0 + 18)), (44, po nb2 (0 + 18 + 0 * 6))] mo HS ?_)))))))))))))))
   refine T.ev [(40, _)] [] [3, 4, 5, 6, 7, 8] ⟨rfl, tv⟩ ⟨.mv 4, .mv 8, .mv 5, .fa 1 fo23_10, .ld 35 2 underlying3, .n1 36 rfl rfl (fun w HS => X.mul rfl rfl), .fa 1 fo23_11, .ld 38 2 underlying3, .n2 37 39 rfl rfl rfl (fun w HS => X.add rfl rfl), .nc 32, .fa 42 fo83_2, .n2 33 43 rfl rfl rfl (fun w HS => X.indexArK 0 rfl underlying81 inf80 rfl rfl (by decide) (by decide)), tv⟩ rfl (fun w HS => ?_)
   obtain ⟨t15, A16, H⟩ := bind_s H
   refine ⟨_, Y.cl func47 (pipe_New.calls A16 HS.j0), ?_⟩
   rintro _ w ⟨bt15_0, rfl, HS⟩
   replace HS := HS.o1
   refine T.nm [(41, pt bt15_0), (45, po nb2 (0 + 18 + 0 * 6 + 0 * 3)), (46, po nb2 (0 + 18 + 0 * 6 + 0 * 3 + 0))] HS ⟨.inl ⟨rfl, rfl⟩, ⟨.inr ⟨by decide, rfl⟩, ⟨.inr ⟨by decide, rfl⟩, tv⟩⟩⟩ ?_
   refine T.ev [(41, _), (46, _)] [] [0, 1, 2, 10, 11, 12, 13, 14] ⟨rfl, rfl, tv⟩ ⟨.mv 4, .mv 8, .mv 5, .nc 32, .fa 42 fo83_2, .n2 33 43 rfl rfl rfl (fun w HS => X.indexArK 0 rfl underlying81 inf80 rfl rfl (by decide) (by decide)), .n2 34 44 rfl rfl rfl (fun w HS => X.indexArK 0 rfl underlying80 inf79 rfl rfl (by decide) (by decide)), .fa 45 fo79_0, tv⟩ rfl (fun w HS => ?_)
   refine ⟨_, Y.sto 2 18 HS inf77 rfl rfl rfl rfl rfl rfl, ?_⟩
   rintro _ w HS
   refine T.nn HS ?_
   refine T.fn [(1, _), (4, _), (5, _), (12, _), (29, _)] ⟨rfl, rfl, rfl, rfl, rfl, tv⟩ tv (fun w HS => ?_)
   refine At.blockEnd (At.next (V.region (W.r (X.add rfl rfl) rfl (W.mv rfl (W.nil (At.onward [(1, pt nb1), (4, pt nb2), (5, vi (0)), (12, vi (0)), (29, vi (1))] ⟨rfl, rfl, rfl, rfl, rfl, tv⟩ ?_))))))
   refine V.seq (V.region (W.r (X.cmp true (by decide) rfl rfl rfl) rfl (W.nx (V.seq (V.condT rfl (V.skip (At.next (V.seq (V.block (V.seq (V.region (W.mv rfl (W.as rfl (W.nx (V.dr [9, 15] [13, 14] [(32, pt nb2), (33, vi (1)), (34, vi (0)), (35, po nb1 (0 + 10)), (36, vi a0.Ring), (37, vi (w64 (2 * a0.Ring))), (38, po nb1 (0 + 11)), (39, vi a0.Rate), (40, vi (w64 ((w64 (2 * a0.Ring)) + a0.Rate))), (42, pt nb2), (43, po nb2 (0 + 18)), (44, po nb2 (0 + 18 + 1 * 6))] mo HS ?_)))))))))))))))
   refine T.ev [(40, _)] [] [3, 4, 5, 6, 7, 8] ⟨rfl, tv⟩ ⟨.mv 4, .mv 8, .mv 5, .fa 1 fo23_10, .ld 35 3 underlying3, .n1 36 rfl rfl (fun w HS => X.mul rfl rfl), .fa 1 fo23_11, .ld 38 3 underlying3, .n2 37 39 rfl rfl rfl (fun w HS => X.add rfl rfl), .nc 32, .fa 42 fo83_2, .n2 33 43 rfl rfl rfl (fun w HS => X.indexArK 1 rfl underlying81 inf80 rfl rfl (by decide) (by decide)), tv⟩ rfl (fun w HS => ?_)
   obtain ⟨t18, A19, H⟩ := bind_s H
   refine ⟨_, Y.cl func47 (pipe_New.calls A19 HS.j0), ?_⟩
   rintro _ w ⟨bt18_0, rfl, HS⟩
   replace HS := HS.o1
   refine T.nm [(41, pt bt18_0), (45, po nb2 (0 + 18 + 1 * 6 + 0 * 3)), (46, po nb2 (0 + 18 + 1 * 6 + 0 * 3 + 0))] HS ⟨.inl ⟨rfl, rfl⟩, ⟨.inr ⟨by decide, rfl⟩, ⟨.inr ⟨by decide, rfl⟩, tv⟩⟩⟩ ?_
   refine T.ev [(41, _), (46, _)] [] [0, 1, 2, 10, 11, 12, 13, 14] ⟨rfl, rfl, tv⟩ ⟨.mv 4, .mv 8, .mv 5, .nc 32, .fa 42 fo83_2, .n2 33 43 rfl rfl rfl (fun w HS => X.indexArK 1 rfl underlying81 inf80 rfl rfl (by decide) (by decide)), .n2 34 44 rfl rfl rfl (fun w HS => X.indexArK 0 rfl underlying80 inf79 rfl rfl (by decide) (by decide)), .fa 45 fo79_0, tv⟩ rfl (fun w HS => ?_)
   refine ⟨_, Y.sto 3 24 HS inf77 rfl rfl rfl rfl rfl rfl, ?_⟩
   rintro _ w HS
   refine T.nn HS ?_
   refine T.fn [(1, _), (4, _), (5, _), (12, _), (29, _)] ⟨rfl, rfl, rfl, rfl, rfl, tv⟩ tv (fun w HS => ?_)
   refine At.blockEnd (At.next (V.region (W.r (X.add rfl rfl) rfl (W.mv rfl (W.nil (At.onward [(1, pt nb1), (4, pt nb2), (5, vi (0)), (12, vi (0)), (29, vi (2))] ⟨rfl, rfl, rfl, rfl, rfl, tv⟩ ?_))))))
   refine V.seq (V.region (W.r (X.cmp false (by decide) rfl rfl rfl) rfl (W.nx (V.seq (V.condF rfl (V.exit (At.thenExit (At.thenExit (At.blockExit (At.blockEnd (At.next (V.region (W.r (X.add rfl rfl) rfl (W.mv rfl (W.nil (At.onward [(1, pt nb1), (4, pt nb2), (12, vi (1))] ⟨rfl, rfl, rfl, tv⟩ ?_))))))))))))))))
   refine V.seq (V.region (W.r (X.cmp true (by decide) rfl rfl rfl) rfl (W.nx (V.seq (V.condT rfl (V.skip (At.next (V.seq (V.block (V.seq (V.region (W.mv rfl (W.as rfl (W.nx (V.seq (V.region (W.r (X.loadSt 4 [vi a0.Mode, vi a0.Modulus, vi a0.Window, vi a0.T1, vi a0.N2, vi a0.Hold, vi a0.Wait, vi a0.Keep, vi a0.Queue, vi a0.Size, vi a0.Ring, vi a0.Rate, vi a0.Bad, vi a0.Good, vb a0.Revert, vb a0.Wide] HS rfl underlying23 rfl inf23 rfl rfl) rfl ?_)))))))))))))))))
   obtain ⟨t21, A22, H⟩ := bind_s H
   by_cases c23 : t21.1.isNone = true
   ·replace H := ite_t c23 H
    refine W.e (Y.cl func46 (station_New.calls A22 HS.j0)) rfl ?_
    rintro _ w ⟨bt21_0, rfl, HS⟩
    replace HS := HS.o1
    replace HS := St.optN c23 HS
    rw [optv_n c23]
    refine W.mv rfl (W.r (X.extract rfl rfl) rfl (W.r (X.extract rfl rfl) rfl (W.as rfl (W.as rfl (W.nx (V.seq (V.seq (V.region (W.mv rfl (W.r (X.cmp (!(decide (t21.2 = 0))) rfl rfl rfl rfl) rfl (W.nx ?_)))))))))))
    by_cases c26 : t21.2 = 0
    ·replace H := ite_t c26 H
     refine V.condF (sb (n_t (dT c26))) (V.skip (At.next (V.seq (V.region (W.mv rfl (W.mv rfl (W.mv rfl (W.nc rfl (W.fa fo83_1 rfl (W.r (X.indexArK 1 rfl underlying76 inf32 rfl rfl (by decide) (by decide)) rfl ?_))))))))))
     exact nomatch H
    ·replace H := ite_f c26 H
     refine V.condT (sb (n_f (dF c26))) (V.seq (V.region (W.mv rfl (W.as rfl (W.as rfl (W.nx (V.ret (At.thenRet (At.blockRet (At.thenRet (At.thenRet (At.blockRet (At.thenRet ?_)))))))))))))
     replace HS := HS.more (B := optAt world_World.at 0 none) 0 rfl (fun _ _ => tv) (fun _ => tv)
     replace HS := HS.pk [0, 6] [1, 2, 3, 4, 5]
     cases H
     exact At.ret2 rfl rfl rfl ⟨_, rfl, 0, rfl, HS⟩
   ·replace H := ite_f c23 H
    refine W.e (Y.cl func46 (station_New.calls A22 HS.j0)) rfl ?_
    rintro _ w ⟨bt21_0, rfl, HS⟩
    replace HS := HS.o1
    replace HS := St.optS default c23 HS
    rw [optv_s c23]
    refine W.mv rfl (W.r (X.extract rfl rfl) rfl (W.r (X.extract rfl rfl) rfl (W.as rfl (W.as rfl (W.nx (V.seq (V.seq (V.region (W.mv rfl (W.r (X.cmp (!(decide (t21.2 = 0))) rfl rfl rfl rfl) rfl (W.nx ?_)))))))))))
    by_cases c30 : t21.2 = 0
    ·replace H := ite_t c30 H
     refine V.condF (sb (n_t (dT c30))) (V.skip (At.next (V.seq (V.region (W.mv rfl (W.mv rfl (W.mv rfl (W.nc rfl (W.fa fo83_1 rfl (W.r (X.indexArK 1 rfl underlying76 inf32 rfl rfl (by decide) (by decide)) rfl (W.st 4 17 HS inf32 rfl rfl rfl rfl rfl rfl fun w HS => ?_)))))))))))
     refine W.nx (V.seq (V.region (W.mv rfl (W.nx (V.block (V.rounds 2 [(1, pt nb1), (4, pt nb2), (5, vi (1)), (12, vi (1)), (29, vi (0))] ⟨rfl, rfl, rfl, rfl, rfl, tv⟩ ?_))))))
     refine V.seq (V.region (W.r (X.cmp true (by decide) rfl rfl rfl) rfl (W.nx (V.seq (V.condT rfl (V.skip (At.next (V.seq (V.block (V.seq (V.region (W.mv rfl (W.as rfl (W.nx (V.dr [9, 15] [13, 14] [(32, pt nb2), (33, vi (0)), (34, vi (1)), (35, po nb1 (0 + 10)), (36, vi a0.Ring), (37, vi (w64 (2 * a0.Ring))), (38, po nb1 (0 + 11)), (39, vi a0.Rate), (40, vi (w64 ((w64 (2 * a0.Ring)) + a0.Rate))), (42, pt nb2), (43, po nb2 (0 + 18)), (44, po nb2 (0 + 18 + 0 * 6))] mo HS ?_)))))))))))))))
     refine T.ev [(40, _)] [] [3, 4, 5, 6, 7, 8] ⟨rfl, tv⟩ ⟨.mv 4, .mv 8, .mv 5, .fa 1 fo23_10, .ld 35 5 underlying3, .n1 36 rfl rfl (fun w HS => X.mul rfl rfl), .fa 1 fo23_11, .ld 38 5 underlying3, .n2 37 39 rfl rfl rfl (fun w HS => X.add rfl rfl), .nc 32, .fa 42 fo83_2, .n2 33 43 rfl rfl rfl (fun w HS => X.indexArK 0 rfl underlying81 inf80 rfl rfl (by decide) (by decide)), tv⟩ rfl (fun w HS => ?_)
     obtain ⟨t31, A32, H⟩ := bind_s H
     refine ⟨_, Y.cl func47 (pipe_New.calls A32 HS.j0), ?_⟩
     rintro _ w ⟨bt31_0, rfl, HS⟩
     replace HS := HS.o1
     refine T.nm [(41, pt bt31_0), (45, po nb2 (0 + 18 + 0 * 6 + 1 * 3)), (46, po nb2 (0 + 18 + 0 * 6 + 1 * 3 + 0))] HS ⟨.inl ⟨rfl, rfl⟩, ⟨.inr ⟨by decide, rfl⟩, ⟨.inr ⟨by decide, rfl⟩, tv⟩⟩⟩ ?_
     refine T.ev [(41, _), (46, _)] [] [0, 1, 2, 10, 11, 12, 13, 14] ⟨rfl, rfl, tv⟩ ⟨.mv 4, .mv 8, .mv 5, .nc 32, .fa 42 fo83_2, .n2 33 43 rfl rfl rfl (fun w HS => X.indexArK 0 rfl underlying81 inf80 rfl rfl (by decide) (by decide)), .n2 34 44 rfl rfl rfl (fun w HS => X.indexArK 1 rfl underlying80 inf79 rfl rfl (by decide) (by decide)), .fa 45 fo79_0, tv⟩ rfl (fun w HS => ?_)
     refine ⟨_, Y.sto 5 21 HS inf77 rfl rfl rfl rfl rfl rfl, ?_⟩
     rintro _ w HS
     refine T.nn HS ?_
     refine T.fn [(1, _), (4, _), (5, _), (12, _), (29, _)] ⟨rfl, rfl, rfl, rfl, rfl, tv⟩ tv (fun w HS => ?_)
     refine At.blockEnd (At.next (V.region (W.r (X.add rfl rfl) rfl (W.mv rfl (W.nil (At.onward [(1, pt nb1), (4, pt nb2), (5, vi (1)), (12, vi (1)), (29, vi (1))] ⟨rfl, rfl, rfl, rfl, rfl, tv⟩ ?_))))))
     refine V.seq (V.region (W.r (X.cmp true (by decide) rfl rfl rfl) rfl (W.nx (V.seq (V.condT rfl (V.skip (At.next (V.seq (V.block (V.seq (V.region (W.mv rfl (W.as rfl (W.nx (V.dr [9, 15] [13, 14] [(32, pt nb2), (33, vi (1)), (34, vi (1)), (35, po nb1 (0 + 10)), (36, vi a0.Ring), (37, vi (w64 (2 * a0.Ring))), (38, po nb1 (0 + 11)), (39, vi a0.Rate), (40, vi (w64 ((w64 (2 * a0.Ring)) + a0.Rate))), (42, pt nb2), (43, po nb2 (0 + 18)), (44, po nb2 (0 + 18 + 1 * 6))] mo HS ?_)))))))))))))))
     refine T.ev [(40, _)] [] [3, 4, 5, 6, 7, 8] ⟨rfl, tv⟩ ⟨.mv 4, .mv 8, .mv 5, .fa 1 fo23_10, .ld 35 6 underlying3, .n1 36 rfl rfl (fun w HS => X.mul rfl rfl), .fa 1 fo23_11, .ld 38 6 underlying3, .n2 37 39 rfl rfl rfl (fun w HS => X.add rfl rfl), .nc 32, .fa 42 fo83_2, .n2 33 43 rfl rfl rfl (fun w HS => X.indexArK 1 rfl underlying81 inf80 rfl rfl (by decide) (by decide)), tv⟩ rfl (fun w HS => ?_)
     obtain ⟨t34, A35, H⟩ := bind_s H
     refine ⟨_, Y.cl func47 (pipe_New.calls A35 HS.j0), ?_⟩
     rintro _ w ⟨bt34_0, rfl, HS⟩
     replace HS := HS.o1
     refine T.nm [(41, pt bt34_0), (45, po nb2 (0 + 18 + 1 * 6 + 1 * 3)), (46, po nb2 (0 + 18 + 1 * 6 + 1 * 3 + 0))] HS ⟨.inl ⟨rfl, rfl⟩, ⟨.inr ⟨by decide, rfl⟩, ⟨.inr ⟨by decide, rfl⟩, tv⟩⟩⟩ ?_
     refine T.ev [(41, _), (46, _)] [] [0, 1, 2, 10, 11, 12, 13, 14] ⟨rfl, rfl, tv⟩ ⟨.mv 4, .mv 8, .mv 5, .nc 32, .fa 42 fo83_2, .n2 33 43 rfl rfl rfl (fun w HS => X.indexArK 1 rfl underlying81 inf80 rfl rfl (by decide) (by decide)), .n2 34 44 rfl rfl rfl (fun w HS => X.indexArK 1 rfl underlying80 inf79 rfl rfl (by decide) (by decide)), .fa 45 fo79_0, tv⟩ rfl (fun w HS => ?_)
     refine ⟨_, Y.sto 6 27 HS inf77 rfl rfl rfl rfl rfl rfl, ?_⟩
     rintro _ w HS
     refine T.nn HS ?_
     refine T.fn [(1, _), (4, _), (5, _), (12, _), (29, _)] ⟨rfl, rfl, rfl, rfl, rfl, tv⟩ tv (fun w HS => ?_)
     refine At.blockEnd (At.next (V.region (W.r (X.add rfl rfl) rfl (W.mv rfl (W.nil (At.onward [(1, pt nb1), (4, pt nb2), (5, vi (1)), (12, vi (1)), (29, vi (2))] ⟨rfl, rfl, rfl, rfl, rfl, tv⟩ ?_))))))
     refine V.seq (V.region (W.r (X.cmp false (by decide) rfl rfl rfl) rfl (W.nx (V.seq (V.condF rfl (V.exit (At.thenExit (At.thenExit (At.blockExit (At.blockEnd (At.next (V.region (W.r (X.add rfl rfl) rfl (W.mv rfl (W.nil (At.onward [(1, pt nb1), (4, pt nb2), (12, vi (2))] ⟨rfl, rfl, rfl, tv⟩ ?_))))))))))))))))
     refine V.seq (V.region (W.r (X.cmp false (by decide) rfl rfl rfl) rfl (W.nx (V.seq (V.condF rfl (V.exit (At.thenExit (At.thenExit (At.blockExit (At.next (V.seq (V.region (W.mv rfl (W.as rfl (W.as rfl (W.nx (V.ret ?_)))))))))))))))))
     replace HS := row_nilE (El.sl (El.int .u8)) 48 1 HS
     replace HS := row_nilE (El.sl (El.int .u8)) 48 1 HS
     replace HS := row_nilE (El.sl (El.int .u8)) 48 1 HS
     replace HS := row_nilE (El.sl (El.int .u8)) 48 1 HS
     replace HS := row_nilE (El.sl (El.int .u8)) 48 1 HS
     replace HS := row_nilE (El.sl (El.int .u8)) 48 1 HS
     replace HS := row_nilE (El.sl (El.int .u8)) 48 1 HS
     replace HS := row_nilE (El.sl (El.int .u8)) 48 1 HS
     replace HS := HS.pm [22, 21, 18, 20, 14, 15, 12, 13, 17, 10, 11, 8, 9, 19, 6, 7, 4, 5, 16, 2, 3, 0, 1, 23, 24]
     replace HS := world_World.close (l19 := ([] : List (List Int))) (l20 := ([] : List (List Int))) (l22 := ([] : List (List Int))) (l23 := ([] : List (List Int))) (l25 := ([] : List (List Int))) (l26 := ([] : List (List Int))) (l28 := ([] : List (List Int))) (l29 := ([] : List (List Int))) tv HS
     replace HS := HS.pk [0, 2] [1]
     cases H
     exact At.ret2 rfl rfl rfl ⟨_, rfl, nb2, rfl, HS⟩
    ·replace H := ite_f c30 H
     refine V.condT (sb (n_f (dF c30))) (V.seq (V.region (W.mv rfl (W.as rfl (W.as rfl (W.nx (V.ret (At.thenRet (At.blockRet (At.thenRet (At.thenRet (At.blockRet (At.thenRet ?_)))))))))))))
     replace HS := HS.more (B := optAt world_World.at 0 none) 0 rfl (fun _ _ => tv) (fun _ => tv)
     replace HS := HS.pk [0, 7] [1, 2, 3, 4, 5, 6]
     cases H
     exact At.ret2 rfl rfl rfl ⟨_, rfl, 0, rfl, HS⟩
  ·replace H := ite_f c14 H
   refine V.condT (sb (n_f (dF c14))) (V.seq (V.region (W.mv rfl (W.as rfl (W.as rfl (W.nx (V.ret (At.thenRet (At.blockRet (At.thenRet (At.thenRet (At.blockRet (At.thenRet ?_)))))))))))))
   replace HS := HS.more (B := optAt world_World.at 0 none) 0 rfl (fun _ _ => tv) (fun _ => tv)
   replace HS := HS.pk [0, 4] [1, 2, 3]
   cases H
   exact At.ret2 rfl rfl rfl ⟨_, rfl, 0, rfl, HS⟩
def signalmanlaw21_num.f (a0 : Int) : Option Int := some a0
theorem signalmanlaw21_num.calls {a0 : Int} {R : As} {w0 w : World}  {r : Int} (H : signalmanlaw21_num.f a0 = some r) (HS : Sep.St [R] w0 w)  : Calls Tryz.prog 10 #[vi a0] w (Ret fun u w => u = vi r ∧ Sep.St [R] w0 w) := by
 unfold signalmanlaw21_num.f at H
 refine calls_enter func10 rfl rfl ?_
 have H : _ = some r := H
 refine V.seq (V.region (W.as rfl (W.nx (V.seq (V.region (W.mv rfl (W.as rfl (W.nx (V.ret ?_)))))))))
 cases H
 exact At.ret1 rfl rfl ⟨_, rfl, rfl, HS⟩
def world_World_Now.f (a0 : world_World) : Option Int := some a0.now
theorem world_World_Now.calls {a0 : world_World} {R : As} {w0 w : World} {b0 : Nat} {b16_p0 : Nat} {b17_p0 : Nat} {b18_p0 : Nat} {a19_p0 : Option Addr} {c19_p0 : Nat} {d19_p0 : List Value} {a20_p0 : Option Addr} {c20_p0 : Nat} {d20_p0 : List Value} {b21_p0 : Nat} {a22_p0 : Option Addr} {c22_p0 : Nat} {d22_p0 : List Value} {a23_p0 : Option Addr} {c23_p0 : Nat} {d23_p0 : List Value} {b24_p0 : Nat} {a25_p0 : Option Addr} {c25_p0 : Nat} {d25_p0 : List Value} {a26_p0 : Option Addr} {c26_p0 : Nat} {d26_p0 : List Value} {b27_p0 : Nat} {a28_p0 : Option Addr} {c28_p0 : Nat} {d28_p0 : List Value} {a29_p0 : Option Addr} {c29_p0 : Nat} {d29_p0 : List Value} {r : Int} (H : world_World_Now.f a0 = some r) (HS : Sep.St [blk b0 (#[vi a0.c.Mode, vi a0.c.Modulus, vi a0.c.Window, vi a0.c.T1, vi a0.c.N2, vi a0.c.Hold, vi a0.c.Wait, vi a0.c.Keep, vi a0.c.Queue, vi a0.c.Size, vi a0.c.Ring, vi a0.c.Rate, vi a0.c.Bad, vi a0.c.Good, vb a0.c.Revert, vb a0.c.Wide, pt b16_p0, pt b17_p0, pt b18_p0, vs a19_p0 a0.ways.1.1.sent.length c19_p0, vs a20_p0 a0.ways.1.1.got.length c20_p0, pt b21_p0, vs a22_p0 a0.ways.1.2.sent.length c22_p0, vs a23_p0 a0.ways.1.2.got.length c23_p0, pt b24_p0, vs a25_p0 a0.ways.2.1.sent.length c25_p0, vs a26_p0 a0.ways.2.1.got.length c26_p0, pt b27_p0, vs a28_p0 a0.ways.2.2.sent.length c28_p0, vs a29_p0 a0.ways.2.2.got.length c29_p0, vi a0.now]) 83, station_Station.at b16_p0 a0.stations.1, station_Station.at b17_p0 a0.stations.2, pipe_Pipe.at b18_p0 a0.ways.1.1.pipe, row 48 1 (.slice a19_p0 a0.ways.1.1.sent.length c19_p0) a0.ways.1.1.sent.length d19_p0, tie (El.sl (El.int .u8)) d19_p0 a0.ways.1.1.sent, row 48 1 (.slice a20_p0 a0.ways.1.1.got.length c20_p0) a0.ways.1.1.got.length d20_p0, tie (El.sl (El.int .u8)) d20_p0 a0.ways.1.1.got, pipe_Pipe.at b21_p0 a0.ways.1.2.pipe, row 48 1 (.slice a22_p0 a0.ways.1.2.sent.length c22_p0) a0.ways.1.2.sent.length d22_p0, tie (El.sl (El.int .u8)) d22_p0 a0.ways.1.2.sent, row 48 1 (.slice a23_p0 a0.ways.1.2.got.length c23_p0) a0.ways.1.2.got.length d23_p0, tie (El.sl (El.int .u8)) d23_p0 a0.ways.1.2.got, pipe_Pipe.at b24_p0 a0.ways.2.1.pipe, row 48 1 (.slice a25_p0 a0.ways.2.1.sent.length c25_p0) a0.ways.2.1.sent.length d25_p0, tie (El.sl (El.int .u8)) d25_p0 a0.ways.2.1.sent, row 48 1 (.slice a26_p0 a0.ways.2.1.got.length c26_p0) a0.ways.2.1.got.length d26_p0, tie (El.sl (El.int .u8)) d26_p0 a0.ways.2.1.got, pipe_Pipe.at b27_p0 a0.ways.2.2.pipe, row 48 1 (.slice a28_p0 a0.ways.2.2.sent.length c28_p0) a0.ways.2.2.sent.length d28_p0, tie (El.sl (El.int .u8)) d28_p0 a0.ways.2.2.sent, row 48 1 (.slice a29_p0 a0.ways.2.2.got.length c29_p0) a0.ways.2.2.got.length d29_p0, tie (El.sl (El.int .u8)) d29_p0 a0.ways.2.2.got, R] w0 w)  : Calls Tryz.prog 18 #[pt b0] w (Ret fun u w => u = vi r ∧ Sep.St [blk b0 (#[vi a0.c.Mode, vi a0.c.Modulus, vi a0.c.Window, vi a0.c.T1, vi a0.c.N2, vi a0.c.Hold, vi a0.c.Wait, vi a0.c.Keep, vi a0.c.Queue, vi a0.c.Size, vi a0.c.Ring, vi a0.c.Rate, vi a0.c.Bad, vi a0.c.Good, vb a0.c.Revert, vb a0.c.Wide, pt b16_p0, pt b17_p0, pt b18_p0, vs a19_p0 a0.ways.1.1.sent.length c19_p0, vs a20_p0 a0.ways.1.1.got.length c20_p0, pt b21_p0, vs a22_p0 a0.ways.1.2.sent.length c22_p0, vs a23_p0 a0.ways.1.2.got.length c23_p0, pt b24_p0, vs a25_p0 a0.ways.2.1.sent.length c25_p0, vs a26_p0 a0.ways.2.1.got.length c26_p0, pt b27_p0, vs a28_p0 a0.ways.2.2.sent.length c28_p0, vs a29_p0 a0.ways.2.2.got.length c29_p0, vi a0.now]) 83, station_Station.at b16_p0 a0.stations.1, station_Station.at b17_p0 a0.stations.2, pipe_Pipe.at b18_p0 a0.ways.1.1.pipe, row 48 1 (.slice a19_p0 a0.ways.1.1.sent.length c19_p0) a0.ways.1.1.sent.length d19_p0, tie (El.sl (El.int .u8)) d19_p0 a0.ways.1.1.sent, row 48 1 (.slice a20_p0 a0.ways.1.1.got.length c20_p0) a0.ways.1.1.got.length d20_p0, tie (El.sl (El.int .u8)) d20_p0 a0.ways.1.1.got, pipe_Pipe.at b21_p0 a0.ways.1.2.pipe, row 48 1 (.slice a22_p0 a0.ways.1.2.sent.length c22_p0) a0.ways.1.2.sent.length d22_p0, tie (El.sl (El.int .u8)) d22_p0 a0.ways.1.2.sent, row 48 1 (.slice a23_p0 a0.ways.1.2.got.length c23_p0) a0.ways.1.2.got.length d23_p0, tie (El.sl (El.int .u8)) d23_p0 a0.ways.1.2.got, pipe_Pipe.at b24_p0 a0.ways.2.1.pipe, row 48 1 (.slice a25_p0 a0.ways.2.1.sent.length c25_p0) a0.ways.2.1.sent.length d25_p0, tie (El.sl (El.int .u8)) d25_p0 a0.ways.2.1.sent, row 48 1 (.slice a26_p0 a0.ways.2.1.got.length c26_p0) a0.ways.2.1.got.length d26_p0, tie (El.sl (El.int .u8)) d26_p0 a0.ways.2.1.got, pipe_Pipe.at b27_p0 a0.ways.2.2.pipe, row 48 1 (.slice a28_p0 a0.ways.2.2.sent.length c28_p0) a0.ways.2.2.sent.length d28_p0, tie (El.sl (El.int .u8)) d28_p0 a0.ways.2.2.sent, row 48 1 (.slice a29_p0 a0.ways.2.2.got.length c29_p0) a0.ways.2.2.got.length d29_p0, tie (El.sl (El.int .u8)) d29_p0 a0.ways.2.2.got, R] w0 w) := by
 unfold world_World_Now.f at H
 refine calls_enter func18 rfl rfl ?_
 have H : _ = some r := H
 refine V.seq (V.region (W.as rfl (W.nx (V.seq (V.region (W.mv rfl (W.nc rfl (W.fa fo83_3 rfl (W.ld 0 HS underlying3 rfl rfl rfl rfl (W.as rfl (W.nx (V.ret ?_))))))))))))
 cases H
 exact At.ret1 rfl rfl ⟨_, rfl, rfl, HS⟩
def serial_round.f (a0 : Int) (a1 : Int) : Option (Int × Int) := (if ¬ (imax (1) (imin a1 (1073741824)) = 0) then (if (a0.tmod (imax (1) (imin a1 (1073741824)))) < 0 then some (w64 ((a0.tmod (imax (1) (imin a1 (1073741824)))) + (imax (1) (imin a1 (1073741824)))), imax (1) (imin a1 (1073741824))) else some (a0.tmod (imax (1) (imin a1 (1073741824))), imax (1) (imin a1 (1073741824)))) else none)
theorem serial_round.calls {a0 : Int} {a1 : Int} {R : As} {w0 w : World}  {r : Int × Int} (H : serial_round.f a0 a1 = some r) (HS : Sep.St [R] w0 w)  : Calls Tryz.prog 175 #[vi a0, vi a1] w (Ret fun u w => u = Value.tuple #[vi r.1, vi r.2] ∧ Sep.St [R] w0 w) := by
 unfold serial_round.f at H
 refine calls_enter func175 rfl rfl ?_
 have H : _ = some r := H
 refine V.seq (V.region (W.as rfl (W.as rfl (W.nx (V.seq (V.region (W.mv rfl (W.r (X.min2 rfl rfl) rfl (W.r (X.max2 rfl rfl) rfl (W.as rfl (W.nx (V.seq (V.region (W.mv rfl (W.mv rfl ?_)))))))))))))))
 obtain ⟨c1, H⟩ := ite_n H
 refine W.r (X.rem rfl rfl c1) rfl (W.as rfl (W.nx (V.seq (V.seq (V.region (W.mv rfl (W.r (X.cmp (decide ((a0.tmod (imax (1) (imin a1 (1073741824)))) < 0)) rfl rfl rfl rfl) rfl (W.nx ?_))))))))
 by_cases c2 : (a0.tmod (imax (1) (imin a1 (1073741824)))) < 0
 ·replace H := ite_t c2 H
  refine V.condT (sb (dT c2)) (V.region (W.mv rfl (W.mv rfl (W.r (X.add rfl rfl) rfl (W.as rfl (W.nx (V.seq (V.region (W.mv rfl (W.mv rfl (W.as rfl (W.as rfl (W.nx (V.ret ?_))))))))))))))
  cases H
  exact At.ret2 rfl rfl rfl ⟨_, rfl, rfl, HS⟩
 ·replace H := ite_f c2 H
  refine V.condF (sb (dF c2)) (V.skip (At.next (V.seq (V.region (W.mv rfl (W.mv rfl (W.as rfl (W.as rfl (W.nx (V.ret ?_))))))))))
  cases H
  exact At.ret2 rfl rfl rfl ⟨_, rfl, rfl, HS⟩
def serial_Next.f (a0 : Int) (a1 : Int) : Option Int := ((serial_round.f a0 a1).bind fun t1 => ((serial_round.f (w64 (t1.1 + 1)) t1.2).bind fun t3 => some t3.1))
theorem serial_Next.calls {a0 : Int} {a1 : Int} {R : As} {w0 w : World}  {r : Int} (H : serial_Next.f a0 a1 = some r) (HS : Sep.St [R] w0 w)  : Calls Tryz.prog 112 #[vi a0, vi a1] w (Ret fun u w => u = vi r ∧ Sep.St [R] w0 w) := by
 unfold serial_Next.f at H
 refine calls_enter func112 rfl rfl ?_
 have H : _ = some r := H
 refine V.seq (V.region (W.as rfl (W.nx (V.seq (V.region (W.mv rfl (W.mv rfl ?_)))))))
 obtain ⟨t1, A2, H⟩ := bind_s H
 refine W.e (Y.cl func175 (serial_round.calls A2 HS.j0)) rfl ?_
 rintro _ w ⟨rfl, HS⟩
 replace HS := HS.o0
 refine W.mv rfl (W.r (X.extract rfl rfl) rfl (W.r (X.extract rfl rfl) rfl (W.as rfl (W.as rfl (W.nx (V.seq (V.region (W.mv rfl (W.r (X.add rfl rfl) rfl (W.mv rfl ?_))))))))))
 obtain ⟨t3, A4, H⟩ := bind_s H
 refine W.e (Y.cl func175 (serial_round.calls A4 HS.j0)) rfl ?_
 rintro _ w ⟨rfl, HS⟩
 replace HS := HS.o0
 refine W.mv rfl (W.r (X.extract rfl rfl) rfl (W.r (X.extract rfl rfl) rfl (W.as rfl (W.nx (V.seq (V.region (W.mv rfl (W.as rfl (W.nx (V.ret ?_))))))))))
 cases H
 exact At.ret1 rfl rfl ⟨_, rfl, rfl, HS⟩
def control_modulus.f (a0 : Int) : Option Bool := (if a0 = 128 then some true else some (decide (a0 = 32768)))
theorem control_modulus.calls {a0 : Int} {R : As} {w0 w : World}  {r : Bool} (H : control_modulus.f a0 = some r) (HS : Sep.St [R] w0 w)  : Calls Tryz.prog 299 #[vi a0] w (Ret fun u w => u = vb r ∧ Sep.St [R] w0 w) := by
 unfold control_modulus.f at H
 refine calls_enter func299 rfl rfl ?_
 have H : _ = some r := H
 refine V.seq (V.region (W.as rfl (W.nx (V.seq (V.region (W.mv rfl (W.r (X.cmp (decide (a0 = 128)) rfl rfl rfl rfl) rfl (W.mv rfl ?_))))))))
 by_cases c1 : a0 = 128
 ·replace H := ite_t c1 H
  refine W.pass 5 rfl (sb (dT c1)) rfl rfl (W.pass 5 rfl (sb (dT c1)) rfl rfl (W.r (X.pickT (sb (dT c1)) rfl) rfl (W.as rfl (W.nx (V.ret ?_)))))
  cases H
  exact At.ret1 rfl rfl ⟨_, rfl, rfl, HS⟩
 ·replace H := ite_f c1 H
  refine W.want 5 rfl (sb (dF c1)) (W.mv rfl (W.want 5 rfl (sb (dF c1)) (W.r (X.cmp (decide (a0 = 32768)) rfl rfl rfl rfl) rfl (W.r (X.pickF (sb (dF c1)) rfl) rfl (W.as rfl (W.nx (V.ret ?_)))))))
  cases H
  exact At.ret1 rfl rfl ⟨_, rfl, rfl, HS⟩
def control_of.f (a0 : Int) (a1 : Int) : Option Bool := (if a0 ≥ 0 then some (decide (a0 < a1)) else some false)
theorem control_of.calls {a0 : Int} {a1 : Int} {R : As} {w0 w : World}  {r : Bool} (H : control_of.f a0 a1 = some r) (HS : Sep.St [R] w0 w)  : Calls Tryz.prog 300 #[vi a0, vi a1] w (Ret fun u w => u = vb r ∧ Sep.St [R] w0 w) := by
 unfold control_of.f at H
 refine calls_enter func300 rfl rfl ?_
 have H : _ = some r := H
 refine V.seq (V.region (W.as rfl (W.nx (V.seq (V.region (W.mv rfl (W.r (X.cmp (decide (a0 ≥ 0)) rfl rfl rfl rfl) rfl (W.mv rfl ?_))))))))
 by_cases c1 : a0 ≥ 0
 ·replace H := ite_t c1 H
  refine W.want 7 rfl (sb (dT c1)) (W.mv rfl (W.want 7 rfl (sb (dT c1)) (W.mv rfl (W.want 7 rfl (sb (dT c1)) (W.r (X.cmp (decide (a0 < a1)) rfl rfl rfl rfl) rfl (W.r (X.pickT (sb (dT c1)) rfl) rfl (W.as rfl (W.nx (V.ret ?_)))))))))
  cases H
  exact At.ret1 rfl rfl ⟨_, rfl, rfl, HS⟩
 ·replace H := ite_f c1 H
  refine W.pass 7 rfl (sb (dF c1)) rfl rfl (W.pass 7 rfl (sb (dF c1)) rfl rfl (W.pass 7 rfl (sb (dF c1)) rfl rfl (W.r (X.pickF (sb (dF c1)) rfl) rfl (W.as rfl (W.nx (V.ret ?_))))))
  cases H
  exact At.ret1 rfl rfl ⟨_, rfl, rfl, HS⟩
structure api_Ctl where
 Kind : Int
 Ns : Int
 Nr : Int
 Poll : Bool
deriving DecidableEq, Inhabited
def api_Ctl.at (b : Nat) (x : api_Ctl) : As := fun h => True ∧ Sp [blk b (#[vi x.Kind, vi x.Ns, vi x.Nr, vb x.Poll]) 161] h
theorem api_Ctl.open {b : Nat} {x : api_Ctl} {L : List As} {w0 w : World} (hs : Sep.St (api_Ctl.at b x :: L) w0 w) : True ∧ Sep.St (blk b (#[vi x.Kind, vi x.Ns, vi x.Nr, vb x.Poll]) 161 :: L) w0 w := by
 obtain ⟨ho, ht, hu, h, hon, h1, h2, hd, e1, e2, ⟨hi, hA⟩, hl⟩ := hs
 exact ⟨hi, St.open (m := [blk b (#[vi x.Kind, vi x.Ns, vi x.Nr, vb x.Poll]) 161]) ⟨ho, ht, hu, h, hon, h1, h2, hd, e1, e2, hA, hl⟩⟩
theorem api_Ctl.close {b : Nat} {l0 : Int} {l1 : Int} {l2 : Int} {l3 : Bool}  {L : List As} {w0 w : World} (hi : True) (hs : Sep.St (blk b (#[vi l0, vi l1, vi l2, vb l3]) 161 :: L) w0 w) : Sep.St (api_Ctl.at b ({ Kind := l0, Ns := l1, Nr := l2, Poll := l3 } : api_Ctl) :: L) w0 w := by
 have h2 := St.join (m := [blk b (#[vi l0, vi l1, vi l2, vb l3]) 161]) hs
 exact h2.mono fun h hh => ⟨hi, hh⟩
mutual
def control_Right.j0 (a0 : api_Ctl) (a1 : Int) (x12 : Bool) : Option Bool := (if x12 = true then (if a0.Ns = 0 then ((control_of.f a0.Nr a1).bind fun t18 => some t18) else some false) else (if a0.Kind ≥ 3 then (if a0.Kind ≤ 7 then (if a0.Ns = 0 then some (decide (a0.Nr = 0)) else some false) else some false) else some false))
end
def control_Right.f (a0 : api_Ctl) (a1 : Int) : Option Bool := ((control_modulus.f a1).bind fun t2 => (if t2 = true then (if a0.Kind = 0 then ((control_of.f a0.Ns a1).bind fun t6 => (if t6 = true then ((control_of.f a0.Nr a1).bind fun t9 => some t9) else some false)) else (if a0.Kind = 1 then (control_Right.j0 a0 a1 true) else (control_Right.j0 a0 a1 (decide (a0.Kind = 2))))) else some false))
theorem control_Right.calls {a0 : api_Ctl} {a1 : Int} {R : As} {w0 w : World}  {r : Bool} (H : control_Right.f a0 a1 = some r) (HS : Sep.St [R] w0 w)  : Calls Tryz.prog 269 #[Value.agg #[vi a0.Kind, vi a0.Ns, vi a0.Nr, vb a0.Poll], vi a1] w (Ret fun u w => u = vb r ∧ Sep.St [R] w0 w) := by
 unfold control_Right.f at H
 refine calls_enter func269 rfl rfl ?_
 have H : _ = some r := H
 refine V.seq (V.region (W.e (Y.box HS rfl) rfl ?_))
 rintro _ w ⟨nb1, rfl, HS⟩
 refine W.as rfl (W.nx (V.seq (V.block (V.seq (V.region (W.mv rfl ?_))))))
 obtain ⟨t2, A3, H⟩ := bind_s H
 refine W.e (Y.cl func299 (control_modulus.calls A3 HS.j0)) rfl ?_
 rintro _ w ⟨rfl, HS⟩
 replace HS := HS.o0
 refine W.r (X.not rfl) rfl (W.as rfl (W.nx ?_))
 by_cases c4 : t2 = true
 ·replace H := ite_t c4 H
  refine V.condF (sb (n_t c4)) (V.seq (V.region (W.fa fo161_0 rfl (W.ld 0 HS underlying3 rfl rfl rfl rfl (W.r (X.cmp (decide (a0.Kind = 0)) rfl rfl rfl rfl) rfl (W.as rfl (W.nx ?_)))))))
  by_cases c5 : a0.Kind = 0
  ·replace H := ite_t c5 H
   refine V.condT (sb (dT c5)) (V.seq (V.region (W.fa fo161_1 rfl (W.ld 0 HS underlying3 rfl rfl rfl rfl (W.mv rfl ?_)))))
   obtain ⟨t6, A7, H⟩ := bind_s H
   refine W.e (Y.cl func300 (control_of.calls A7 HS.j0)) rfl ?_
   rintro _ w ⟨rfl, HS⟩
   replace HS := HS.o0
   refine W.mv rfl ?_
   by_cases c8 : t6 = true
   ·replace H := ite_t c8 H
    refine W.want 17 rfl (sb c8) (W.fa fo161_2 rfl (W.want 17 rfl (sb c8) (W.ld 0 HS underlying3 rfl rfl rfl rfl (W.want 17 rfl (sb c8) (W.mv rfl (W.want 17 rfl (sb c8) ?_))))))
    obtain ⟨t9, A10, H⟩ := bind_s H
    refine W.e (Y.cl func300 (control_of.calls A10 HS.j0)) rfl ?_
    rintro _ w ⟨rfl, HS⟩
    replace HS := HS.o0
    refine W.r (X.pickT (sb c8) rfl) rfl (W.as rfl (W.nx (V.ret (At.blockRet (At.thenRet ?_)))))
    replace HS := HS.pk [1] [0]
    cases H
    exact At.ret1 rfl rfl ⟨_, rfl, rfl, HS⟩
   ·replace H := ite_f c8 H
    refine W.pass 17 rfl (sb (b_f c8)) rfl rfl (W.pass 17 rfl (sb (b_f c8)) rfl rfl (W.pass 17 rfl (sb (b_f c8)) rfl rfl (W.pass 17 rfl (sb (b_f c8)) rfl rfl (W.r (X.pickF (sb (b_f c8)) rfl) rfl (W.as rfl (W.nx (V.ret (At.blockRet (At.thenRet ?_)))))))))
    replace HS := HS.pk [1] [0]
    cases H
    exact At.ret1 rfl rfl ⟨_, rfl, rfl, HS⟩
  ·replace H := ite_f c5 H
   refine V.condF (sb (dF c5)) (V.meet (σ := Bool) (fun st w => match st with | x12 => Sep.St [api_Ctl.at nb1 a0, R] w0 w ∧ control_Right.j0 a0 a1 x12 = some r) (fun st => match st with | x12 => [(1, vi a1), (2, pt nb1), (23, vb x12)]) ?_ ?_)
   ·refine V.region (W.fa fo161_0 rfl (W.ld 0 HS underlying3 rfl rfl rfl rfl (W.r (X.cmp (decide (a0.Kind = 1)) rfl rfl rfl rfl) rfl (W.mv rfl ?_))))
    by_cases c25 : a0.Kind = 1
    ·replace H := ite_t c25 H
     refine W.pass 27 rfl (sb (dT c25)) rfl rfl (W.pass 27 rfl (sb (dT c25)) rfl rfl (W.pass 27 rfl (sb (dT c25)) rfl rfl (W.r (X.pickT (sb (dT c25)) rfl) rfl (W.as rfl (W.nil ?_)))))
     replace HS := api_Ctl.close tv HS
     exact At.meet true ⟨rfl, rfl, rfl, tv⟩ ⟨HS, H⟩
    ·replace H := ite_f c25 H
     refine W.want 27 rfl (sb (dF c25)) (W.fa fo161_0 rfl (W.want 27 rfl (sb (dF c25)) (W.ld 0 HS underlying3 rfl rfl rfl rfl (W.want 27 rfl (sb (dF c25)) (W.r (X.cmp (decide (a0.Kind = 2)) rfl rfl rfl rfl) rfl (W.r (X.pickF (sb (dF c25)) rfl) rfl (W.as rfl (W.nil ?_))))))))
     replace HS := api_Ctl.close tv HS
     exact At.meet (decide (a0.Kind = 2)) ⟨rfl, rfl, rfl, tv⟩ ⟨HS, H⟩
   ·rintro x12 w ⟨HS, H⟩
    unfold control_Right.j0 at H
    by_cases c14 : x12 = true
    ·replace H := ite_t c14 H
     refine V.condT (sb c14) (V.seq (V.region ?_))
     obtain ⟨hi16, HS⟩ := api_Ctl.open HS
     refine W.fa fo161_1 rfl (W.ld 0 HS underlying3 rfl rfl rfl rfl (W.r (X.cmp (decide (a0.Ns = 0)) rfl rfl rfl rfl) rfl (W.mv rfl ?_)))
     by_cases c17 : a0.Ns = 0
     ·replace H := ite_t c17 H
      refine W.want 35 rfl (sb (dT c17)) (W.fa fo161_2 rfl (W.want 35 rfl (sb (dT c17)) (W.ld 0 HS underlying3 rfl rfl rfl rfl (W.want 35 rfl (sb (dT c17)) (W.mv rfl (W.want 35 rfl (sb (dT c17)) ?_))))))
      obtain ⟨t18, A19, H⟩ := bind_s H
      refine W.e (Y.cl func300 (control_of.calls A19 HS.j0)) rfl ?_
      rintro _ w ⟨rfl, HS⟩
      replace HS := HS.o0
      refine W.r (X.pickT (sb (dT c17)) rfl) rfl (W.as rfl (W.nx (V.ret (At.blockRet (At.thenRet ?_)))))
      replace HS := HS.pk [1] [0]
      cases H
      exact At.ret1 rfl rfl ⟨_, rfl, rfl, HS⟩
     ·replace H := ite_f c17 H
      refine W.pass 35 rfl (sb (dF c17)) rfl rfl (W.pass 35 rfl (sb (dF c17)) rfl rfl (W.pass 35 rfl (sb (dF c17)) rfl rfl (W.pass 35 rfl (sb (dF c17)) rfl rfl (W.r (X.pickF (sb (dF c17)) rfl) rfl (W.as rfl (W.nx (V.ret (At.blockRet (At.thenRet ?_)))))))))
      replace HS := HS.pk [1] [0]
      cases H
      exact At.ret1 rfl rfl ⟨_, rfl, rfl, HS⟩
    ·replace H := ite_f c14 H
     refine V.condF (sb (b_f c14)) (V.skip (At.blockEnd (At.next (V.seq (V.region ?_)))))
     obtain ⟨hi21, HS⟩ := api_Ctl.open HS
     refine W.fa fo161_0 rfl (W.ld 0 HS underlying3 rfl rfl rfl rfl (W.r (X.cmp (decide (a0.Kind ≥ 3)) rfl rfl rfl rfl) rfl (W.mv rfl ?_)))
     by_cases c22 : a0.Kind ≥ 3
     ·replace H := ite_t c22 H
      refine W.want 44 rfl (sb (dT c22)) (W.fa fo161_0 rfl (W.want 44 rfl (sb (dT c22)) (W.ld 0 HS underlying3 rfl rfl rfl rfl (W.want 44 rfl (sb (dT c22)) (W.r (X.cmp (decide (a0.Kind ≤ 7)) rfl rfl rfl rfl) rfl (W.r (X.pickT (sb (dT c22)) rfl) rfl (W.mv rfl ?_)))))))
      by_cases c23 : a0.Kind ≤ 7
      ·replace H := ite_t c23 H
       refine W.want 49 rfl (sb (dT c23)) (W.fa fo161_1 rfl (W.want 49 rfl (sb (dT c23)) (W.ld 0 HS underlying3 rfl rfl rfl rfl (W.want 49 rfl (sb (dT c23)) (W.r (X.cmp (decide (a0.Ns = 0)) rfl rfl rfl rfl) rfl (W.r (X.pickT (sb (dT c23)) rfl) rfl (W.mv rfl ?_)))))))
       by_cases c24 : a0.Ns = 0
       ·replace H := ite_t c24 H
        refine W.want 54 rfl (sb (dT c24)) (W.fa fo161_2 rfl (W.want 54 rfl (sb (dT c24)) (W.ld 0 HS underlying3 rfl rfl rfl rfl (W.want 54 rfl (sb (dT c24)) (W.r (X.cmp (decide (a0.Nr = 0)) rfl rfl rfl rfl) rfl (W.r (X.pickT (sb (dT c24)) rfl) rfl (W.as rfl (W.nx (V.ret ?_)))))))))
        replace HS := HS.pk [1] [0]
        cases H
        exact At.ret1 rfl rfl ⟨_, rfl, rfl, HS⟩
       ·replace H := ite_f c24 H
        refine W.pass 54 rfl (sb (dF c24)) rfl rfl (W.pass 54 rfl (sb (dF c24)) rfl rfl (W.pass 54 rfl (sb (dF c24)) rfl rfl (W.r (X.pickF (sb (dF c24)) rfl) rfl (W.as rfl (W.nx (V.ret ?_))))))
        replace HS := HS.pk [1] [0]
        cases H
        exact At.ret1 rfl rfl ⟨_, rfl, rfl, HS⟩
      ·replace H := ite_f c23 H
       refine W.pass 49 rfl (sb (dF c23)) rfl rfl (W.pass 49 rfl (sb (dF c23)) rfl rfl (W.pass 49 rfl (sb (dF c23)) rfl rfl (W.r (X.pickF (sb (dF c23)) rfl) rfl (W.mv rfl (W.pass 54 rfl rfl rfl rfl (W.pass 54 rfl rfl rfl rfl (W.pass 54 rfl rfl rfl rfl (W.r (X.pickF rfl rfl) rfl (W.as rfl (W.nx (V.ret ?_)))))))))))
       replace HS := HS.pk [1] [0]
       cases H
       exact At.ret1 rfl rfl ⟨_, rfl, rfl, HS⟩
     ·replace H := ite_f c22 H
      refine W.pass 44 rfl (sb (dF c22)) rfl rfl (W.pass 44 rfl (sb (dF c22)) rfl rfl (W.pass 44 rfl (sb (dF c22)) rfl rfl (W.r (X.pickF (sb (dF c22)) rfl) rfl (W.mv rfl (W.pass 49 rfl rfl rfl rfl (W.pass 49 rfl rfl rfl rfl (W.pass 49 rfl rfl rfl rfl (W.r (X.pickF rfl rfl) rfl (W.mv rfl (W.pass 54 rfl rfl rfl rfl (W.pass 54 rfl rfl rfl rfl (W.pass 54 rfl rfl rfl rfl (W.r (X.pickF rfl rfl) rfl (W.as rfl (W.nx (V.ret ?_))))))))))))))))
      replace HS := HS.pk [1] [0]
      cases H
      exact At.ret1 rfl rfl ⟨_, rfl, rfl, HS⟩
 ·replace H := ite_f c4 H
  refine V.condT (sb (n_f (b_f c4))) (V.seq (V.region (W.as rfl (W.nx (V.ret (At.blockRet (At.thenRet ?_)))))))
  replace HS := HS.pk [1] [0]
  cases H
  exact At.ret1 rfl rfl ⟨_, rfl, rfl, HS⟩
def control_bit.f (a0 : Bool) : Option Int := (if a0 = true then some (1) else some (0))
theorem control_bit.calls {a0 : Bool} {R : As} {w0 w : World}  {r : Int} (H : control_bit.f a0 = some r) (HS : Sep.St [R] w0 w)  : Calls Tryz.prog 270 #[vb a0] w (Ret fun u w => u = vi r ∧ Sep.St [R] w0 w) := by
 unfold control_bit.f at H
 refine calls_enter func270 rfl rfl ?_
 have H : _ = some r := H
 refine V.seq (V.region (W.as rfl (W.nx (V.seq (V.seq (V.region (W.mv rfl (W.nx ?_))))))))
 by_cases c1 : a0 = true
 ·replace H := ite_t c1 H
  refine V.condT (sb c1) (V.seq (V.region (W.as rfl (W.nx (V.ret (At.thenRet ?_))))))
  cases H
  exact At.ret1 rfl rfl ⟨_, rfl, rfl, HS⟩
 ·replace H := ite_f c1 H
  refine V.condF (sb (b_f c1)) (V.skip (At.next (V.seq (V.region (W.as rfl (W.nx (V.ret ?_)))))))
  cases H
  exact At.ret1 rfl rfl ⟨_, rfl, rfl, HS⟩
def control_put.f (a0 : List Int) (a1 : Int) (a2 : Int) : Option (List Int) := (if (a0.length : Int) + ([IntKind.u8.wrap a1] : List Int).length ≤ 1099511627776 then (if a2 = 32768 then (if ((a0 ++ ([IntKind.u8.wrap a1] : List Int)).length : Int) + (([IntKind.u8.wrap (a1.fdiv (2 ^ (min (8 : Int).toNat IntKind.i64.bits)))] : List Int)).length ≤ 1099511627776 then some ((a0 ++ ([IntKind.u8.wrap a1] : List Int)) ++ ([IntKind.u8.wrap (a1.fdiv (2 ^ (min (8 : Int).toNat IntKind.i64.bits)))] : List Int)) else none) else some (a0 ++ ([IntKind.u8.wrap a1] : List Int))) else none)
theorem control_put.calls {a0 : List Int} {a1 : Int} {a2 : Int} {R : As} {w0 w : World} {sa0 : Option Addr} {sc0 : Nat} {r : List Int} (H : control_put.f a0 a1 a2 = some r) (HS : Sep.St [row 5 1 (.slice sa0 a0.length sc0) a0.length (a0.map (Value.int .u8)), R] w0 w)  : Calls Tryz.prog 271 #[vs sa0 a0.length sc0, vi a1, vi a2] w (Ret fun u w => ∃ (aq0 : Option Addr) (cq0 : Nat), u = vs aq0 r.length cq0 ∧ Sep.St [row 5 1 (.slice aq0 r.length cq0) r.length (r.map (Value.int .u8)), R] w0 w) := by
 unfold control_put.f at H
 refine calls_enter func271 rfl rfl ?_
 have H : _ = some r := H
 refine V.seq (V.region (W.as rfl (W.nx (V.seq (V.region (W.mv rfl (W.mv rfl (W.r (X.conv underlying3 underlying5 rfl) rfl (W.e (Y.ls (e := 5) (Value.int .u8) ([IntKind.u8.wrap a1] : List Int) HS rfl rfl (fun _ => by kernel_rfl)) rfl ?_)))))))))
 rintro _ w ⟨lb3, rfl, HS⟩
 obtain ⟨c4, H⟩ := ite_n H
 refine W.e (Y.appF (Value.int .u8) (fun _ => rfl) 1 underlying48 ap5 rfl HS rfl rfl rfl (rdC.at 0 row_rd HS rfl) (by omega) (by omega)) rfl ?_
 rintro _ w ⟨ra5, rc6, rfl, HS⟩
 refine W.as rfl (W.nx (V.seq (V.seq (V.region (W.mv rfl (W.r (X.cmp (decide (a2 = 32768)) rfl rfl rfl rfl) rfl (W.nx ?_)))))))
 by_cases c7 : a2 = 32768
 ·replace H := ite_t c7 H
  refine V.condT (sb (dT c7)) (V.region (W.mv rfl (W.mv rfl (W.r (X.shr rfl rfl (by decide)) rfl (W.r (X.conv underlying3 underlying5 rfl) rfl (W.e (Y.ls (e := 5) (Value.int .u8) ([IntKind.u8.wrap (a1.fdiv (2 ^ (min (8 : Int).toNat IntKind.i64.bits)))] : List Int) HS rfl rfl (fun _ => by kernel_rfl)) rfl ?_))))))
  rintro _ w ⟨lb10, rfl, HS⟩
  obtain ⟨c11, H⟩ := ite_n H
  refine W.e (Y.appF (Value.int .u8) (fun _ => rfl) 2 underlying48 ap5 rfl HS rfl rfl rfl (rdC.at 0 row_rd HS rfl) (by omega) (by omega)) rfl ?_
  rintro _ w ⟨ra12, rc13, rfl, HS⟩
  refine W.as rfl (W.nx (V.seq (V.region (W.mv rfl (W.as rfl (W.nx (V.ret ?_)))))))
  replace HS := HS.pk [2, 3] [0, 1]
  cases H
  exact At.ret1 rfl rfl ⟨_, rfl, ra12, rc13, rfl, HS⟩
 ·replace H := ite_f c7 H
  refine V.condF (sb (dF c7)) (V.skip (At.next (V.seq (V.region (W.mv rfl (W.as rfl (W.nx (V.ret ?_))))))))
  replace HS := HS.pk [1, 2] [0]
  cases H
  exact At.ret1 rfl rfl ⟨_, rfl, ra5, rc6, rfl, HS⟩
def control_plain.f  : Option (List Int) := some ([111, 99, 67, 15, 135] : List Int)
theorem control_plain.calls  {R : As} {w0 w : World}  {r : List Int} (H : control_plain.f  = some r) (HS : Sep.St [R] w0 w)  : Calls Tryz.prog 272 #[] w (Ret fun u w => ∃ (aq0 : Option Addr) (cq0 : Nat), u = vs aq0 r.length cq0 ∧ Sep.St [row 5 1 (.slice aq0 r.length cq0) r.length (r.map (Value.int .u8)), R] w0 w) := by
 unfold control_plain.f at H
 refine calls_enter func272 rfl rfl ?_
 have H : _ = some r := H
 refine V.seq (V.region (W.as rfl (W.nx (V.seq (V.region (W.e (Y.ls (e := 5) (Value.int .u8) ([111, 99, 67, 15, 135] : List Int) HS rfl rfl (fun _ => by kernel_rfl)) rfl ?_))))))
 rintro _ w ⟨lb3, rfl, HS⟩
 refine W.as rfl (W.nx (V.ret ?_))
 cases H
 exact At.ret1 rfl rfl ⟨_, rfl, (some ⟨lb3, 0, none⟩), 5, rfl, HS⟩
def control_Bytes.f (a0 : api_Ctl) (a1 : Int) : Option (List Int) := ((control_Right.f a0 a1).bind fun t3 => (if t3 = true then ((control_bit.f a0.Poll).bind fun t6 => (if a0.Kind = 0 then ((control_put.f ([] : List Int) (w64 (2 * a0.Ns)) a1).bind fun t9 => ((control_put.f t9 (w64 ((w64 (2 * a0.Nr)) + t6)) a1).bind fun t11 => some t11)) else (if a0.Kind = 1 then ((control_put.f ([] : List Int) 1 a1).bind fun t14 => ((control_put.f t14 (w64 ((w64 (2 * a0.Nr)) + t6)) a1).bind fun t16 => some t16)) else (if a0.Kind = 2 then ((control_put.f ([] : List Int) 9 a1).bind fun t19 => ((control_put.f t19 (w64 ((w64 (2 * a0.Nr)) + t6)) a1).bind fun t21 => some t21)) else ((control_plain.f ).bind fun t23 => (if 0 ≤ w64 (a0.Kind - 3) ∧ w64 (a0.Kind - 3) < (t23.length : Int) then some (([ior .u8 (t23.getD (w64 (a0.Kind - 3)).toNat 0) (IntKind.u8.wrap (w64 (t6 * 16)))] : List Int)) else none)))))) else some ([] : List Int)))
theorem control_Bytes.calls {a0 : api_Ctl} {a1 : Int} {R : As} {w0 w : World}  {r : List Int} (H : control_Bytes.f a0 a1 = some r) (HS : Sep.St [R] w0 w)  : Calls Tryz.prog 230 #[Value.agg #[vi a0.Kind, vi a0.Ns, vi a0.Nr, vb a0.Poll], vi a1] w (Ret fun u w => ∃ (aq0 : Option Addr) (cq0 : Nat), u = vs aq0 r.length cq0 ∧ Sep.St [row 5 1 (.slice aq0 r.length cq0) r.length (r.map (Value.int .u8)), R] w0 w) := by
 unfold control_Bytes.f at H
 refine calls_enter func230 rfl rfl ?_
 have H : _ = some r := H
 refine V.seq (V.region (W.e (Y.box HS rfl) rfl ?_))
 rintro _ w ⟨nb1, rfl, HS⟩
 refine W.as rfl (W.nx (V.seq (V.seq (V.region (W.r (X.loadSt 0 [vi a0.Kind, vi a0.Ns, vi a0.Nr, vb a0.Poll] HS rfl underlying161 rfl inf161 rfl rfl) rfl (W.mv rfl ?_))))))
 obtain ⟨t3, A4, H⟩ := bind_s H
 refine W.e (Y.cl func269 (control_Right.calls A4 HS.j0)) rfl ?_
 rintro _ w ⟨rfl, HS⟩
 replace HS := HS.o0
 refine W.r (X.not rfl) rfl (W.nx ?_)
 by_cases c5 : t3 = true
 ·replace H := ite_t c5 H
  refine V.condF (sb (n_t c5)) (V.skip (At.next (V.seq (V.region (W.fa fo161_3 rfl (W.ld 0 HS underlying4 rfl rfl rfl rfl ?_))))))
  obtain ⟨t6, A7, H⟩ := bind_s H
  refine W.e (Y.cl func270 (control_bit.calls A7 HS.j0)) rfl ?_
  rintro _ w ⟨rfl, HS⟩
  replace HS := HS.o0
  refine W.as rfl (W.nx (V.seq (V.seq (V.region (W.fa fo161_0 rfl (W.ld 0 HS underlying3 rfl rfl rfl rfl (W.nx (V.block (V.seq (V.region (W.r (X.cmp (decide (a0.Kind = 0)) rfl rfl rfl rfl) rfl (W.as rfl (W.nx ?_)))))))))))))
  by_cases c8 : a0.Kind = 0
  ·replace H := ite_t c8 H
   refine V.condT (sb (dT c8)) (V.seq (V.dr [4, 11] [12] [(17, po nb1 (0 + 1)), (18, vi a0.Ns), (19, vi (w64 (2 * a0.Ns))), (20, vi a1), (22, po nb1 (0 + 2)), (23, vi a0.Nr), (24, vi (w64 (2 * a0.Nr))), (25, vi t6), (26, vi (w64 ((w64 (2 * a0.Nr)) + t6))), (27, vi a1)] mo HS ?_))
   refine T.ev [(19, _), (20, _)] [12] [0, 1, 2, 3] ⟨rfl, rfl, tv⟩ ⟨.fa 2 fo161_1, .ld 17 0 underlying3, .n1 18 rfl rfl (fun w HS => X.mul rfl rfl), .mv 1, .fa 2 fo161_2, .ld 22 0 underlying3, .n1 23 rfl rfl (fun w HS => X.mul rfl rfl), .mv 5, .n2 24 25 rfl rfl rfl (fun w HS => X.add rfl rfl), .mv 1, tv⟩ rfl (fun w HS => ?_)
   replace HS := row_nilF (Value.int .u8) 5 1 HS
   obtain ⟨t9, A10, H⟩ := bind_s H
   refine ⟨_, Y.cl func271 (control_put.calls A10 HS.j1), ?_⟩
   rintro _ w ⟨at9_0, ct9_0, rfl, HS⟩
   replace HS := HS.o1
   refine T.nw HS ?_
   refine T.ev [(21, _), (26, _), (27, _)] [] [5, 6, 7, 8, 9, 10] ⟨rfl, rfl, rfl, tv⟩ ⟨.fa 2 fo161_2, .ld 22 1 underlying3, .n1 23 rfl rfl (fun w HS => X.mul rfl rfl), .mv 5, .n2 24 25 rfl rfl rfl (fun w HS => X.add rfl rfl), .mv 1, tv⟩ rfl (fun w HS => ?_)
   obtain ⟨t11, A12, H⟩ := bind_s H
   refine ⟨_, Y.cl func271 (control_put.calls A12 HS.j1), ?_⟩
   rintro _ w ⟨at11_0, ct11_0, rfl, HS⟩
   replace HS := HS.o1
   refine T.nm [(28, vs at11_0 t11.length ct11_0), (4, vs at11_0 t11.length ct11_0)] HS ⟨.inl ⟨rfl, rfl⟩, ⟨.inr ⟨by decide, rfl⟩, tv⟩⟩ ?_
   refine T.fn [(4, _)] ⟨rfl, tv⟩ ⟨.as 28, tv⟩ (fun w HS => ?_)
   refine At.next (V.ret (At.blockRet (At.thenRet ?_)))
   replace HS := HS.pk [0, 2] [1]
   cases H
   exact At.ret1 rfl rfl ⟨_, rfl, at11_0, ct11_0, rfl, HS⟩
  ·replace H := ite_f c8 H
   refine V.condF (sb (dF c8)) (V.seq (V.region (W.r (X.cmp (decide (a0.Kind = 1)) rfl rfl rfl rfl) rfl (W.as rfl (W.nx ?_)))))
   by_cases c13 : a0.Kind = 1
   ·replace H := ite_t c13 H
    refine V.condT (sb (dT c13)) (V.seq (V.dr [1, 8] [9] [(31, vi a1), (33, po nb1 (0 + 2)), (34, vi a0.Nr), (35, vi (w64 (2 * a0.Nr))), (36, vi t6), (37, vi (w64 ((w64 (2 * a0.Nr)) + t6))), (38, vi a1)] mo HS ?_))
    refine T.ev [(31, _)] [9] [0] ⟨rfl, tv⟩ ⟨.mv 1, .fa 2 fo161_2, .ld 33 0 underlying3, .n1 34 rfl rfl (fun w HS => X.mul rfl rfl), .mv 5, .n2 35 36 rfl rfl rfl (fun w HS => X.add rfl rfl), .mv 1, tv⟩ rfl (fun w HS => ?_)
    replace HS := row_nilF (Value.int .u8) 5 1 HS
    obtain ⟨t14, A15, H⟩ := bind_s H
    refine ⟨_, Y.cl func271 (control_put.calls A15 HS.j1), ?_⟩
    rintro _ w ⟨at14_0, ct14_0, rfl, HS⟩
    replace HS := HS.o1
    refine T.nw HS ?_
    refine T.ev [(32, _), (37, _), (38, _)] [] [2, 3, 4, 5, 6, 7] ⟨rfl, rfl, rfl, tv⟩ ⟨.fa 2 fo161_2, .ld 33 1 underlying3, .n1 34 rfl rfl (fun w HS => X.mul rfl rfl), .mv 5, .n2 35 36 rfl rfl rfl (fun w HS => X.add rfl rfl), .mv 1, tv⟩ rfl (fun w HS => ?_)
    obtain ⟨t16, A17, H⟩ := bind_s H
    refine ⟨_, Y.cl func271 (control_put.calls A17 HS.j1), ?_⟩
    rintro _ w ⟨at16_0, ct16_0, rfl, HS⟩
    replace HS := HS.o1
    refine T.nm [(39, vs at16_0 t16.length ct16_0), (4, vs at16_0 t16.length ct16_0)] HS ⟨.inl ⟨rfl, rfl⟩, ⟨.inr ⟨by decide, rfl⟩, tv⟩⟩ ?_
    refine T.fn [(4, _)] ⟨rfl, tv⟩ ⟨.as 39, tv⟩ (fun w HS => ?_)
    refine At.next (V.ret (At.blockRet (At.thenRet ?_)))
    replace HS := HS.pk [0, 2] [1]
    cases H
    exact At.ret1 rfl rfl ⟨_, rfl, at16_0, ct16_0, rfl, HS⟩
   ·replace H := ite_f c13 H
    refine V.condF (sb (dF c13)) (V.seq (V.region (W.r (X.cmp (decide (a0.Kind = 2)) rfl rfl rfl rfl) rfl (W.as rfl (W.nx ?_)))))
    by_cases c18 : a0.Kind = 2
    ·replace H := ite_t c18 H
     refine V.condT (sb (dT c18)) (V.seq (V.dr [1, 8] [9] [(42, vi a1), (44, po nb1 (0 + 2)), (45, vi a0.Nr), (46, vi (w64 (2 * a0.Nr))), (47, vi t6), (48, vi (w64 ((w64 (2 * a0.Nr)) + t6))), (49, vi a1)] mo HS ?_))
     refine T.ev [(42, _)] [9] [0] ⟨rfl, tv⟩ ⟨.mv 1, .fa 2 fo161_2, .ld 44 0 underlying3, .n1 45 rfl rfl (fun w HS => X.mul rfl rfl), .mv 5, .n2 46 47 rfl rfl rfl (fun w HS => X.add rfl rfl), .mv 1, tv⟩ rfl (fun w HS => ?_)
     replace HS := row_nilF (Value.int .u8) 5 1 HS
     obtain ⟨t19, A20, H⟩ := bind_s H
     refine ⟨_, Y.cl func271 (control_put.calls A20 HS.j1), ?_⟩
     rintro _ w ⟨at19_0, ct19_0, rfl, HS⟩
     replace HS := HS.o1
     refine T.nw HS ?_
     refine T.ev [(43, _), (48, _), (49, _)] [] [2, 3, 4, 5, 6, 7] ⟨rfl, rfl, rfl, tv⟩ ⟨.fa 2 fo161_2, .ld 44 1 underlying3, .n1 45 rfl rfl (fun w HS => X.mul rfl rfl), .mv 5, .n2 46 47 rfl rfl rfl (fun w HS => X.add rfl rfl), .mv 1, tv⟩ rfl (fun w HS => ?_)
     obtain ⟨t21, A22, H⟩ := bind_s H
     refine ⟨_, Y.cl func271 (control_put.calls A22 HS.j1), ?_⟩
     rintro _ w ⟨at21_0, ct21_0, rfl, HS⟩
     replace HS := HS.o1
     refine T.nm [(50, vs at21_0 t21.length ct21_0), (4, vs at21_0 t21.length ct21_0)] HS ⟨.inl ⟨rfl, rfl⟩, ⟨.inr ⟨by decide, rfl⟩, tv⟩⟩ ?_
     refine T.fn [(4, _)] ⟨rfl, tv⟩ ⟨.as 50, tv⟩ (fun w HS => ?_)
     refine At.next (V.ret (At.blockRet (At.thenRet ?_)))
     replace HS := HS.pk [0, 2] [1]
     cases H
     exact At.ret1 rfl rfl ⟨_, rfl, at21_0, ct21_0, rfl, HS⟩
    ·replace H := ite_f c18 H
     refine V.condF (sb (dF c18)) (V.skip (At.blockEnd (At.next (V.seq (V.dr [0, 10] [4, 5, 9, 11] [(52, po nb1 (0 + 0)), (53, vi a0.Kind), (54, vi (w64 (a0.Kind - 3))), (57, vi t6), (58, vi (w64 (t6 * 16))), (59, Value.int .u8 (IntKind.u8.wrap (w64 (t6 * 16))))] mo HS ?_)))))
     refine T.ev [] [11] [] tv ⟨.fa 2 fo161_0, .ld 52 0 underlying3, .n1 53 rfl rfl (fun w HS => X.sub rfl rfl), .mv 5, .n1 57 rfl rfl (fun w HS => X.mul rfl rfl), .n1 58 rfl rfl (fun w HS => X.conv underlying3 underlying5 rfl), tv⟩ rfl (fun w HS => ?_)
     obtain ⟨t23, A24, H⟩ := bind_s H
     refine ⟨_, Y.cl func272 (control_plain.calls A24 HS.j0), ?_⟩
     rintro _ w ⟨at23_0, ct23_0, rfl, HS⟩
     replace HS := HS.o1
     obtain ⟨c25, H⟩ := ite_n H
     obtain ⟨eb26, eo27, hh⟩ := (rdC.at 0 row_rd HS rfl).some (by decide) c25.1 c25.2; subst hh
     refine T.nm [(51, vs (some ⟨eb26, eo27, none⟩) t23.length ct23_0), (55, po eb26 (eo27 + (w64 (a0.Kind - 3)).toNat * 1)), (56, Value.int .u8 (t23.getD (w64 (a0.Kind - 3)).toNat 0)), (60, Value.int .u8 (ior .u8 (t23.getD (w64 (a0.Kind - 3)).toNat 0) (IntKind.u8.wrap (w64 (t6 * 16)))))] HS ⟨.inl ⟨rfl, rfl⟩, ⟨.inr ⟨by decide, rfl⟩, ⟨.inr ⟨by decide, rfl⟩, ⟨.inr ⟨by decide, rfl⟩, tv⟩⟩⟩⟩ ?_
     refine T.ev [(60, _)] [] [1, 2, 3, 4, 5, 6, 7, 8, 9] ⟨rfl, tv⟩ ⟨.fa 2 fo161_0, .ld 52 1 underlying3, .n1 53 rfl rfl (fun w HS => X.sub rfl rfl), .n2 51 54 rfl rfl rfl (fun w HS => X.indexSl underlying48 inf5 rfl rfl c25.1 c25.2), .n1 55 rfl rfl (fun w HS => X.load underlying5 rfl rfl ((rdC.at 0 row_rd HS rfl).cellI c25.1 c25.2)), .mv 5, .n1 57 rfl rfl (fun w HS => X.mul rfl rfl), .n1 58 rfl rfl (fun w HS => X.conv underlying3 underlying5 rfl), .n2 56 59 rfl rfl rfl (fun w HS => X.or rfl rfl), tv⟩ rfl (fun w HS => ?_)
     refine ⟨_, Y.ls (e := 5) (Value.int .u8) ([ior .u8 (t23.getD (w64 (a0.Kind - 3)).toNat 0) (IntKind.u8.wrap (w64 (t6 * 16)))] : List Int) HS rfl rfl (fun _ => by kernel_rfl), ?_⟩
     rintro _ w ⟨lb30, rfl, HS⟩
     refine T.nm [(61, vs (some ⟨lb30, 0, none⟩) (([ior .u8 (t23.getD (w64 (a0.Kind - 3)).toNat 0) (IntKind.u8.wrap (w64 (t6 * 16)))] : List Int)).length 1), (4, vs (some ⟨lb30, 0, none⟩) (([ior .u8 (t23.getD (w64 (a0.Kind - 3)).toNat 0) (IntKind.u8.wrap (w64 (t6 * 16)))] : List Int)).length 1)] HS ⟨.inl ⟨rfl, rfl⟩, ⟨.inr ⟨by decide, rfl⟩, tv⟩⟩ ?_
     refine T.fn [(4, _)] ⟨rfl, tv⟩ ⟨.as 61, tv⟩ (fun w HS => ?_)
     refine At.next (V.ret ?_)
     replace HS := HS.pk [0, 3] [1, 2]
     cases H
     exact At.ret1 rfl rfl ⟨_, rfl, (some ⟨lb30, 0, none⟩), 1, rfl, HS⟩
 ·replace H := ite_f c5 H
  refine V.condT (sb (n_f (b_f c5))) (V.seq (V.region (W.as rfl (W.nx (V.ret (At.thenRet ?_))))))
  replace HS := row_nilF (Value.int .u8) 5 1 HS
  replace HS := HS.pk [0, 2] [1]
  cases H
  exact At.ret1 rfl rfl ⟨_, rfl, none, 0, rfl, HS⟩
end Go.Proofs.YtaejcbpijdacmaaGreat
