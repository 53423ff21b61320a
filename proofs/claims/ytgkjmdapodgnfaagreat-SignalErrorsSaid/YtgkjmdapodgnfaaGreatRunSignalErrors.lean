/- SignalErrors: the functions that its law reaches, as plain functions, and that the machine's calls come to what these say. Conditions: those that stand at each. -/
import Derived.Test.YtgkjmdapodgnfaaGreatRunSignalErrorsP4
set_option linter.all false
set_option maxRecDepth 100000
set_option maxHeartbeats 4000000
set_option synthInstance.maxSize 100000
set_option synthInstance.maxHeartbeats 1000000
namespace Go.Proofs.YtgkjmdapodgnfaaGreat
open Go.RowKit Go.Proofs.YtgkjmdapodgnfaaGreat.Sep Go.Proofs.YtgkjmdapodgnfaaGreat.Walk Go.Proofs.Tryz
mutual
def signalman_player_inds.l0 : Nat → (List Int × station_Station) → Int → signalman_player → Option signalman_player
 | 0, _, _, _ => none
 | k + 1, t6, x34, x35 => (if x34 < (t6.1.length : Int) then (if 0 ≤ x34 ∧ x34 < (t6.1.length : Int) then ((world_World_Now.f x35.w).bind fun t46 => (if (x35.out.length : Int) + (([({ Step := t46, At := 0, Ind := t6.1.getD x34.toNat 0, B := ([] : List Int) } : api_Event)] : List api_Event)).length ≤ 1099511627776 then (signalman_player_inds.l0 k t6 (w64 (x34 + 1)) ({ w := x35.w, out := x35.out ++ ([({ Step := t46, At := 0, Ind := t6.1.getD x34.toNat 0, B := ([] : List Int) } : api_Event)] : List api_Event) } : signalman_player)) else none)) else none) else ((station_Station_Inds.f x35.w.stations.2).bind fun t58 => (signalman_player_inds.l1 k t58 0 ({ w := ({ x35.w with stations := (x35.w.stations.1, t58.2) } : world_World), out := x35.out } : signalman_player))))
def signalman_player_inds.l1 : Nat → (List Int × station_Station) → Int → signalman_player → Option signalman_player
 | 0, _, _, _ => none
 | k + 1, t58, x86, x87 => (if x86 < (t58.1.length : Int) then (if 0 ≤ x86 ∧ x86 < (t58.1.length : Int) then ((world_World_Now.f x87.w).bind fun t98 => (if (x87.out.length : Int) + (([({ Step := t98, At := 1, Ind := t58.1.getD x86.toNat 0, B := ([] : List Int) } : api_Event)] : List api_Event)).length ≤ 1099511627776 then (signalman_player_inds.l1 k t58 (w64 (x86 + 1)) ({ w := x87.w, out := x87.out ++ ([({ Step := t98, At := 1, Ind := t58.1.getD x86.toNat 0, B := ([] : List Int) } : api_Event)] : List api_Event) } : signalman_player)) else none)) else none) else some x87)
end
def signalman_player_inds.f (k : Nat) (a0 : signalman_player) : Option signalman_player := ((station_Station_Inds.f a0.w.stations.1).bind fun t6 => (signalman_player_inds.l0 k t6 0 ({ w := ({ a0.w with stations := (t6.2, a0.w.stations.2) } : world_World), out := a0.out } : signalman_player)))
theorem signalman_player_inds.calls {k : Nat} {a0 : signalman_player} {R : As} {w0 w : World} {b0 : Nat} {r : signalman_player} (H : signalman_player_inds.f k a0 = some r) (HS : Sep.St [signalman_player.at b0 a0, R] w0 w)  : Calls Tryz.prog 44 #[pt b0] w (Ret fun u w => u = Value.tuple #[] ∧ Sep.St [signalman_player.at b0 r, R] w0 w) := by
 unfold signalman_player_inds.f at H
 refine calls_enter func44 rfl rfl ?_
 have H : _ = some r := H
 refine V.seq (V.region (W.mv rfl (W.nx (V.block (V.rounds 2 [(0, pt b0), (5, vi (0))] ⟨rfl, rfl, tv⟩ ?_)))))
 refine V.seq (V.region (W.r (X.cmp true (by decide) rfl rfl rfl) rfl (W.nx (V.seq (V.condT rfl (V.skip (At.next (V.seq (V.block (V.seq (V.region (W.mv rfl (W.as rfl (W.nx (V.seq (V.region (W.mv rfl (W.nc rfl ?_))))))))))))))))))
 obtain ⟨b0_2, a1_2, c1_2, d1_2, hi3, HS⟩ := signalman_player.open HS
 refine W.fa fo72_0 rfl (W.ld 0 HS underlying70 rfl rfl rfl rfl (W.mv rfl ?_))
 refine W.inl (Y.cl (vs := [pt b0_2, vi (0)]) func30 (calls_enter func30 rfl rfl ?_)) rfl rfl rfl
 refine V.seq (V.region (W.as rfl (W.nx (V.seq (V.seq (V.region (W.mv rfl ?_)))))))
 refine W.inl (Y.cl (vs := [vi (0)]) func45 (calls_enter func45 rfl rfl ?_)) rfl rfl rfl
 refine V.seq (V.region (W.as rfl (W.nx (V.seq (V.region (W.mv rfl (W.r (X.cmp true (by decide) rfl rfl rfl) rfl (W.mv rfl (W.want 5 rfl rfl (W.mv rfl (W.want 5 rfl rfl (W.r (X.cmp true (by decide) rfl rfl rfl) rfl (W.r (X.pickT rfl rfl) rfl (W.as rfl (W.nx (V.ret ?_))))))))))))))))
 refine At.ret1 rfl rfl ⟨_, rfl, ?_⟩
 refine W.r (X.not rfl) rfl (W.nx (V.condF rfl (V.skip (At.next (V.seq (V.region (W.mv rfl (W.mv rfl (W.nc rfl ?_)))))))))
 replace HS := HS.fr 1
 obtain ⟨b16_4, b17_4, b18_4, a19_4, c19_4, d19_4, a20_4, c20_4, d20_4, b21_4, a22_4, c22_4, d22_4, a23_4, c23_4, d23_4, b24_4, a25_4, c25_4, d25_4, a26_4, c26_4, d26_4, b27_4, a28_4, c28_4, d28_4, a29_4, c29_4, d29_4, hi5, HS⟩ := world_World.open HS
 refine W.fa fo117_1 rfl (W.r (X.indexArK 0 rfl underlying110 inf69 rfl rfl (by decide) (by decide)) rfl (W.ld 0 HS underlying69 rfl rfl rfl rfl (W.as rfl (W.nx (V.ret ?_)))))
 refine At.ret1 rfl rfl ⟨_, rfl, ?_⟩
 obtain ⟨t6, A7, H⟩ := bind_s H
 replace HS := HS.pm [1, 0, 2, 3, 4, 5, 6, 7, 8, 9, 10, 11, 12, 13, 14, 15, 16, 17, 18, 19, 20, 21, 22, 23, 24, 25, 26]
 refine W.e (Y.cl func66 (station_Station_Inds.calls A7 HS.j1)) rfl ?_
 rintro _ w ⟨at6_0, ct6_0, rfl, HS⟩
 replace HS := HS.o2
 refine W.r (X.lenSl underlying48 rfl) rfl (W.mv rfl (W.nx (V.block ?_)))
 replace HS := HS.pm [2, 1, 3, 4, 5, 6, 7, 8, 9, 10, 11, 12, 13, 14, 15, 16, 17, 18, 19, 20, 21, 22, 23, 0, 24, 25, 26, 27]
 replace HS := world_World.close tv HS
 replace HS := HS.pm [2, 0, 3, 4, 1, 5]
 replace HS := signalman_player.close tv HS
 refine V.loop (σ := Int × signalman_player) (fun kq (st : Int × signalman_player) w => match st with | (x34, x35) => Sep.St [signalman_player.at b0 x35, row 3 1 (.slice at6_0 t6.1.length ct6_0) t6.1.length (t6.1.map (Value.int .i64)), R] w0 w ∧ signalman_player_inds.l0 kq t6 x34 x35 = some r ∧ kq ≤ k) (fun st => match st with | (x34, x35) => [(0, pt b0), (2, vi (0)), (5, vi (0)), (14, vs at6_0 t6.1.length ct6_0), (15, vi (t6.1.length : Int)), (16, vi x34)]) k (0, ({ w := ({ a0.w with stations := (t6.2, a0.w.stations.2) } : world_World), out := a0.out } : signalman_player)) ⟨rfl, rfl, rfl, rfl, rfl, rfl, tv⟩ ⟨HS, H, Nat.le_refl _⟩ ?_
 rintro kq36 ⟨x34, x35⟩ w ⟨HS, H, hk37⟩
 cases kq36 with
 | zero => exact absurd H (by simp [signalman_player_inds.l0])
 | succ kq36 =>
  simp only [signalman_player_inds.l0] at H
  refine V.seq (V.region (W.r (X.cmp (decide (x34 < (t6.1.length : Int))) rfl rfl rfl rfl) rfl (W.nx (V.seq ?_))))
  by_cases c38 : x34 < (t6.1.length : Int)
  ·replace H := ite_t c38 H
   refine V.condT (sb (dT c38)) (V.skip (At.next (V.seq (V.block (V.seq (V.region ?_))))))
   obtain ⟨c39, H⟩ := ite_n H
   obtain ⟨eb40, eo41, hh⟩ := (rdC.at 1 row_rd HS rfl).some (by decide) c39.1 c39.2; subst hh
   refine W.r (X.indexSl underlying48 inf3 rfl rfl c39.1 c39.2) rfl (W.r (X.load underlying3 rfl rfl ((rdC.at 1 row_rd HS rfl).cellI c39.1 c39.2)) rfl (W.as rfl (W.nx ?_)))
   obtain ⟨b0_42, a1_42, c1_42, d1_42, hi43, HS⟩ := signalman_player.open HS
   refine V.dr [9, 13, 14, 17] [12, 15, 16] [(20, pt b0), (21, pt b0), (22, pt b0), (23, po b0 (0 + 1)), (24, vs a1_42 x35.out.length c1_42), (25, pt b0), (26, pt b0), (27, po b0 (0 + 0)), (28, pt b0_42), (30, vi (0)), (31, vi (t6.1.getD x34.toNat 0))] mo HS ?_
   refine T.ev [(28, _)] [15, 16] [5, 6, 7, 8] ⟨rfl, tv⟩ ⟨.mv 0, .mv 0, .nc 21, .fa 22 fo72_1, .ld 23 0 underlying39, .mv 0, .nc 25, .fa 26 fo72_0, .ld 27 0 underlying70, .mv 2, .mv 4, tv⟩ rfl (fun w HS => ?_)
   replace HS := HS.fr 1
   obtain ⟨b16_44, b17_44, b18_44, a19_44, c19_44, d19_44, a20_44, c20_44, d20_44, b21_44, a22_44, c22_44, d22_44, a23_44, c23_44, d23_44, b24_44, a25_44, c25_44, d25_44, a26_44, c26_44, d26_44, b27_44, a28_44, c28_44, d28_44, a29_44, c29_44, d29_44, hi45, HS⟩ := world_World.open HS
   obtain ⟨t46, A47, H⟩ := bind_s H
   refine ⟨_, Y.cl func67 (world_World_Now.calls A47 HS.j23), ?_⟩
   rintro _ w ⟨rfl, HS⟩
   replace HS := HS.o23
   refine T.nm [(29, vi t46), (32, Value.agg #[vi t46, vi (0), vi (t6.1.getD x34.toNat 0), vs none 0 0])] HS ⟨.inl ⟨rfl, rfl⟩, ⟨.inr ⟨by decide, rfl⟩, tv⟩⟩ ?_
   refine T.ev [(32, _)] [15, 16] [10, 11, 12] ⟨rfl, tv⟩ ⟨.mv 0, .mv 0, .nc 21, .fa 22 fo72_1, .ld 23 23 underlying39, .mv 2, .mv 4, .ns [(29, _), (30, _), (31, _)] ⟨rfl, rfl, rfl, tv⟩ rfl (fun w HS => X.bd (Value.agg #[vi t46, vi (0), vi (t6.1.getD x34.toNat 0), vs none 0 0]) rfl (fun _ => by kernel_rfl)), tv⟩ rfl (fun w HS => ?_)
   replace HS := row_nilF (Value.int .u8) 5 1 HS
   replace HS := St.row_freeze HS
   refine ⟨_, Y.lc (e := 56) (sz := 4) [vi t46, vi (0), vi (t6.1.getD x34.toNat 0), vs none ([] : List Int).length 0] HS rfl rfl (fun _ => by kernel_rfl), ?_⟩
   rintro _ w ⟨lb48, rfl, HS⟩
   replace HS := St.put (A := tie api_Event.El ([]) ([] : List api_Event)) (fun _ => tie.nil) HS
   replace HS := HS.more 2 rfl (fun _ t => t) fsl.pers
   replace HS := api_Event.pack (x := ({ Step := t46, At := 0, Ind := t6.1.getD x34.toNat 0, B := ([] : List Int) } : api_Event)) HS
   replace HS := HS.fr 1
   replace HS := HS.fr 1
   replace HS := St.tie_cons HS
   refine T.nw HS ?_
   refine T.ev [(24, _), (33, _)] [] [1, 2, 3, 4] ⟨rfl, rfl, tv⟩ ⟨.mv 0, .mv 0, .nc 21, .fa 22 fo72_1, .ld 23 26 underlying39, tv⟩ rfl (fun w HS => ?_)
   obtain ⟨c51, H⟩ := ite_n H
   refine ⟨_, Y.app (xs := x35.out) (ys := ([({ Step := t46, At := 0, Ind := t6.1.getD x34.toNat 0, B := ([] : List Int) } : api_Event)] : List api_Event)) 27 underlying39 ap56 rfl (by decide) HS rfl rfl rfl (rdC.at 1 row_rd HS rfl) (St.tie_one 0 HS rfl) (by omega) (by omega), ?_⟩
   rintro _ w ⟨ra52, rc53, rfl, HS⟩
   replace HS := HS.fr 28
   replace HS := St.tie_app 1 HS rfl
   refine T.nm [(34, vs ra52 (x35.out ++ ([({ Step := t46, At := 0, Ind := t6.1.getD x34.toNat 0, B := ([] : List Int) } : api_Event)] : List api_Event)).length rc53), (35, pt b0), (36, po b0 (0 + 1))] HS ⟨.inl ⟨rfl, rfl⟩, ⟨.inr ⟨by decide, rfl⟩, ⟨.inr ⟨by decide, rfl⟩, tv⟩⟩⟩ ?_
   refine T.ev [(34, _), (36, _)] [] [0, 15, 16] ⟨rfl, rfl, tv⟩ ⟨.mv 0, .nc 20, .fa 35 fo72_1, tv⟩ rfl (fun w HS => ?_)
   refine ⟨_, Y.sto 27 1 HS inf39 rfl rfl rfl rfl rfl rfl, ?_⟩
   rintro _ w HS
   refine T.nn HS ?_
   refine T.fn [(0, _), (2, _), (5, _), (14, _), (15, _), (16, _)] ⟨rfl, rfl, rfl, rfl, rfl, rfl, tv⟩ tv (fun w HS => ?_)
   refine At.blockEnd (At.next (V.region (W.r (X.add rfl rfl) rfl (W.mv rfl (W.nil ?_)))))
   replace HS := HS.pm [4, 5, 6, 7, 8, 9, 10, 11, 12, 13, 14, 15, 16, 17, 18, 19, 20, 21, 22, 23, 24, 25, 26, 0, 1, 2, 3, 27, 28, 29, 30]
   replace HS := world_World.close tv HS
   replace HS := HS.pm [5, 0, 6, 1, 2, 3, 4, 7, 8]
   replace HS := signalman_player.close tv HS
   replace HS := HS.pk [0, 4, 5] [1, 2, 3]
   exact At.round kq36 (by omega) (w64 (x34 + 1), ({ w := x35.w, out := x35.out ++ ([({ Step := t46, At := 0, Ind := t6.1.getD x34.toNat 0, B := ([] : List Int) } : api_Event)] : List api_Event) } : signalman_player)) ⟨rfl, rfl, rfl, rfl, rfl, rfl, tv⟩ ⟨HS, H, by omega⟩
  ·replace H := ite_f c38 H
   refine V.condF (sb (dF c38)) (V.exit (At.thenExit (At.thenExit (At.blockExit (At.blockEnd (At.next (V.region (W.r (X.add rfl rfl) rfl (W.mv rfl (W.nil (At.onward [(0, pt b0), (5, vi (1))] ⟨rfl, rfl, tv⟩ ?_)))))))))))
   refine V.seq (V.region (W.r (X.cmp true (by decide) rfl rfl rfl) rfl (W.nx (V.seq (V.condT rfl (V.skip (At.next (V.seq (V.block (V.seq (V.region (W.mv rfl (W.as rfl (W.nx (V.seq (V.region (W.mv rfl (W.nc rfl ?_))))))))))))))))))
   obtain ⟨b0_54, a1_54, c1_54, d1_54, hi55, HS⟩ := signalman_player.open HS
   refine W.fa fo72_0 rfl (W.ld 0 HS underlying70 rfl rfl rfl rfl (W.mv rfl ?_))
   refine W.inl (Y.cl (vs := [pt b0_54, vi (1)]) func30 (calls_enter func30 rfl rfl ?_)) rfl rfl rfl
   refine V.seq (V.region (W.as rfl (W.nx (V.seq (V.seq (V.region (W.mv rfl ?_)))))))
   refine W.inl (Y.cl (vs := [vi (1)]) func45 (calls_enter func45 rfl rfl ?_)) rfl rfl rfl
   refine V.seq (V.region (W.as rfl (W.nx (V.seq (V.region (W.mv rfl (W.r (X.cmp true (by decide) rfl rfl rfl) rfl (W.mv rfl (W.want 5 rfl rfl (W.mv rfl (W.want 5 rfl rfl (W.r (X.cmp true (by decide) rfl rfl rfl) rfl (W.r (X.pickT rfl rfl) rfl (W.as rfl (W.nx (V.ret ?_))))))))))))))))
   refine At.ret1 rfl rfl ⟨_, rfl, ?_⟩
   refine W.r (X.not rfl) rfl (W.nx (V.condF rfl (V.skip (At.next (V.seq (V.region (W.mv rfl (W.mv rfl (W.nc rfl ?_)))))))))
   replace HS := HS.fr 1
   obtain ⟨b16_56, b17_56, b18_56, a19_56, c19_56, d19_56, a20_56, c20_56, d20_56, b21_56, a22_56, c22_56, d22_56, a23_56, c23_56, d23_56, b24_56, a25_56, c25_56, d25_56, a26_56, c26_56, d26_56, b27_56, a28_56, c28_56, d28_56, a29_56, c29_56, d29_56, hi57, HS⟩ := world_World.open HS
   refine W.fa fo117_1 rfl (W.r (X.indexArK 1 rfl underlying110 inf69 rfl rfl (by decide) (by decide)) rfl (W.ld 0 HS underlying69 rfl rfl rfl rfl (W.as rfl (W.nx (V.ret ?_)))))
   refine At.ret1 rfl rfl ⟨_, rfl, ?_⟩
   obtain ⟨t58, A59, H⟩ := bind_s H
   replace HS := HS.pm [2, 0, 1, 3, 4, 5, 6, 7, 8, 9, 10, 11, 12, 13, 14, 15, 16, 17, 18, 19, 20, 21, 22, 23, 24, 25, 26, 27]
   refine W.e (Y.cl func66 (station_Station_Inds.calls A59 HS.j1)) rfl ?_
   rintro _ w ⟨at58_0, ct58_0, rfl, HS⟩
   replace HS := HS.o2
   refine W.r (X.lenSl underlying48 rfl) rfl (W.mv rfl (W.nx (V.block ?_)))
   replace HS := HS.pm [2, 3, 1, 4, 5, 6, 7, 8, 9, 10, 11, 12, 13, 14, 15, 16, 17, 18, 19, 20, 21, 22, 23, 0, 24, 25, 26, 27, 28]
   replace HS := world_World.close tv HS
   replace HS := HS.pm [2, 0, 3, 4, 1, 5, 6]
   replace HS := signalman_player.close tv HS
   refine V.loop (σ := Int × signalman_player) (fun kq (st : Int × signalman_player) w => match st with | (x86, x87) => Sep.St [signalman_player.at b0 x87, row 3 1 (.slice at58_0 t58.1.length ct58_0) t58.1.length (t58.1.map (Value.int .i64)), row 3 1 (.slice at6_0 t6.1.length ct6_0) t6.1.length (t6.1.map (Value.int .i64)), R] w0 w ∧ signalman_player_inds.l1 kq t58 x86 x87 = some r ∧ kq ≤ kq36) (fun st => match st with | (x86, x87) => [(0, pt b0), (2, vi (1)), (5, vi (1)), (14, vs at58_0 t58.1.length ct58_0), (15, vi (t58.1.length : Int)), (16, vi x86)]) kq36 (0, ({ w := ({ x35.w with stations := (x35.w.stations.1, t58.2) } : world_World), out := x35.out } : signalman_player)) ⟨rfl, rfl, rfl, rfl, rfl, rfl, tv⟩ ⟨HS, H, Nat.le_refl _⟩ ?_
   rintro kq88 ⟨x86, x87⟩ w ⟨HS, H, hk89⟩
   cases kq88 with
   | zero => exact absurd H (by simp [signalman_player_inds.l1])
   | succ kq88 =>
    simp only [signalman_player_inds.l1] at H
    refine V.seq (V.region (W.r (X.cmp (decide (x86 < (t58.1.length : Int))) rfl rfl rfl rfl) rfl (W.nx (V.seq ?_))))
    by_cases c90 : x86 < (t58.1.length : Int)
    ·replace H := ite_t c90 H
     refine V.condT (sb (dT c90)) (V.skip (At.next (V.seq (V.block (V.seq (V.region ?_))))))
     obtain ⟨c91, H⟩ := ite_n H
     obtain ⟨eb92, eo93, hh⟩ := (rdC.at 1 row_rd HS rfl).some (by decide) c91.1 c91.2; subst hh
     refine W.r (X.indexSl underlying48 inf3 rfl rfl c91.1 c91.2) rfl (W.r (X.load underlying3 rfl rfl ((rdC.at 1 row_rd HS rfl).cellI c91.1 c91.2)) rfl (W.as rfl (W.nx ?_)))
     obtain ⟨b0_94, a1_94, c1_94, d1_94, hi95, HS⟩ := signalman_player.open HS
     refine V.dr [9, 13, 14, 17] [12, 15, 16] [(20, pt b0), (21, pt b0), (22, pt b0), (23, po b0 (0 + 1)), (24, vs a1_94 x87.out.length c1_94), (25, pt b0), (26, pt b0), (27, po b0 (0 + 0)), (28, pt b0_94), (30, vi (1)), (31, vi (t58.1.getD x86.toNat 0))] mo HS ?_
     refine T.ev [(28, _)] [15, 16] [5, 6, 7, 8] ⟨rfl, tv⟩ ⟨.mv 0, .mv 0, .nc 21, .fa 22 fo72_1, .ld 23 0 underlying39, .mv 0, .nc 25, .fa 26 fo72_0, .ld 27 0 underlying70, .mv 2, .mv 4, tv⟩ rfl (fun w HS => ?_)
     replace HS := HS.fr 1
     obtain ⟨b16_96, b17_96, b18_96, a19_96, c19_96, d19_96, a20_96, c20_96, d20_96, b21_96, a22_96, c22_96, d22_96, a23_96, c23_96, d23_96, b24_96, a25_96, c25_96, d25_96, a26_96, c26_96, d26_96, b27_96, a28_96, c28_96, d28_96, a29_96, c29_96, d29_96, hi97, HS⟩ := world_World.open HS
     obtain ⟨t98, A99, H⟩ := bind_s H
     refine ⟨_, Y.cl func67 (world_World_Now.calls A99 HS.j23), ?_⟩
     rintro _ w ⟨rfl, HS⟩
     replace HS := HS.o23
     refine T.nm [(29, vi t98), (32, Value.agg #[vi t98, vi (1), vi (t58.1.getD x86.toNat 0), vs none 0 0])] HS ⟨.inl ⟨rfl, rfl⟩, ⟨.inr ⟨by decide, rfl⟩, tv⟩⟩ ?_
     refine T.ev [(32, _)] [15, 16] [10, 11, 12] ⟨rfl, tv⟩ ⟨.mv 0, .mv 0, .nc 21, .fa 22 fo72_1, .ld 23 23 underlying39, .mv 2, .mv 4, .ns [(29, _), (30, _), (31, _)] ⟨rfl, rfl, rfl, tv⟩ rfl (fun w HS => X.bd (Value.agg #[vi t98, vi (1), vi (t58.1.getD x86.toNat 0), vs none 0 0]) rfl (fun _ => by kernel_rfl)), tv⟩ rfl (fun w HS => ?_)
     replace HS := row_nilF (Value.int .u8) 5 1 HS
     replace HS := St.row_freeze HS
     refine ⟨_, Y.lc (e := 56) (sz := 4) [vi t98, vi (1), vi (t58.1.getD x86.toNat 0), vs none ([] : List Int).length 0] HS rfl rfl (fun _ => by kernel_rfl), ?_⟩
     rintro _ w ⟨lb100, rfl, HS⟩
     replace HS := St.put (A := tie api_Event.El ([]) ([] : List api_Event)) (fun _ => tie.nil) HS
     replace HS := HS.more 2 rfl (fun _ t => t) fsl.pers
     replace HS := api_Event.pack (x := ({ Step := t98, At := 1, Ind := t58.1.getD x86.toNat 0, B := ([] : List Int) } : api_Event)) HS
     replace HS := HS.fr 1
     replace HS := HS.fr 1
     replace HS := St.tie_cons HS
     refine T.nw HS ?_
     refine T.ev [(24, _), (33, _)] [] [1, 2, 3, 4] ⟨rfl, rfl, tv⟩ ⟨.mv 0, .mv 0, .nc 21, .fa 22 fo72_1, .ld 23 26 underlying39, tv⟩ rfl (fun w HS => ?_)
     obtain ⟨c103, H⟩ := ite_n H
     refine ⟨_, Y.app (xs := x87.out) (ys := ([({ Step := t98, At := 1, Ind := t58.1.getD x86.toNat 0, B := ([] : List Int) } : api_Event)] : List api_Event)) 27 underlying39 ap56 rfl (by decide) HS rfl rfl rfl (rdC.at 1 row_rd HS rfl) (St.tie_one 0 HS rfl) (by omega) (by omega), ?_⟩
     rintro _ w ⟨ra104, rc105, rfl, HS⟩
     replace HS := HS.fr 28
     replace HS := St.tie_app 1 HS rfl
     refine T.nm [(34, vs ra104 (x87.out ++ ([({ Step := t98, At := 1, Ind := t58.1.getD x86.toNat 0, B := ([] : List Int) } : api_Event)] : List api_Event)).length rc105), (35, pt b0), (36, po b0 (0 + 1))] HS ⟨.inl ⟨rfl, rfl⟩, ⟨.inr ⟨by decide, rfl⟩, ⟨.inr ⟨by decide, rfl⟩, tv⟩⟩⟩ ?_
     refine T.ev [(34, _), (36, _)] [] [0, 15, 16] ⟨rfl, rfl, tv⟩ ⟨.mv 0, .nc 20, .fa 35 fo72_1, tv⟩ rfl (fun w HS => ?_)
     refine ⟨_, Y.sto 27 1 HS inf39 rfl rfl rfl rfl rfl rfl, ?_⟩
     rintro _ w HS
     refine T.nn HS ?_
     refine T.fn [(0, _), (2, _), (5, _), (14, _), (15, _), (16, _)] ⟨rfl, rfl, rfl, rfl, rfl, rfl, tv⟩ tv (fun w HS => ?_)
     refine At.blockEnd (At.next (V.region (W.r (X.add rfl rfl) rfl (W.mv rfl (W.nil ?_)))))
     replace HS := HS.pm [4, 5, 6, 7, 8, 9, 10, 11, 12, 13, 14, 15, 16, 17, 18, 19, 20, 21, 22, 23, 24, 25, 26, 0, 1, 2, 3, 27, 28, 29, 30, 31]
     replace HS := world_World.close tv HS
     replace HS := HS.pm [5, 0, 6, 1, 2, 3, 4, 7, 8, 9]
     replace HS := signalman_player.close tv HS
     replace HS := HS.pk [0, 4, 5, 6] [1, 2, 3]
     exact At.round kq88 (by omega) (w64 (x86 + 1), ({ w := x87.w, out := x87.out ++ ([({ Step := t98, At := 1, Ind := t58.1.getD x86.toNat 0, B := ([] : List Int) } : api_Event)] : List api_Event) } : signalman_player)) ⟨rfl, rfl, rfl, rfl, rfl, rfl, tv⟩ ⟨HS, H, by omega⟩
    ·replace H := ite_f c90 H
     refine V.condF (sb (dF c90)) (V.exit (At.thenExit (At.thenExit (At.blockExit (At.blockEnd (At.next (V.region (W.r (X.add rfl rfl) rfl (W.mv rfl (W.nil (At.onward [(0, pt b0), (5, vi (2))] ⟨rfl, rfl, tv⟩ ?_)))))))))))
     refine V.seq (V.region (W.r (X.cmp false (by decide) rfl rfl rfl) rfl (W.nx (V.seq (V.condF rfl (V.exit (At.thenExit (At.thenExit (At.blockExit ?_)))))))))
     replace HS := HS.pk [0, 3] [1, 2]
     cases H
     exact At.end0 rfl ⟨_, rfl, rfl, HS⟩
mutual
def signalman_player_steps.l0 : Nat → Int → Int → signalman_player → Option signalman_player
 | 0, _, _, _ => none
 | k + 1, a1, x2, x3 => (if x2 < (imin a1 (100000)) then ((world_World_Step.f k x3.w).bind fun t9 => ((signalman_player_inds.f k ({ w := t9, out := x3.out } : signalman_player)).bind fun t11 => (signalman_player_steps.l0 k a1 (w64 (x2 + 1)) t11))) else some x3)
end
def signalman_player_steps.f (k : Nat) (a0 : signalman_player) (a1 : Int) : Option signalman_player := (signalman_player_steps.l0 k a1 0 a0)
theorem signalman_player_steps.calls {k : Nat} {a0 : signalman_player} {a1 : Int} {R : As} {w0 w : World} {b0 : Nat} {r : signalman_player} (H : signalman_player_steps.f k a0 a1 = some r) (HS : Sep.St [signalman_player.at b0 a0, R] w0 w)  : Calls Tryz.prog 61 #[pt b0, vi a1] w (Ret fun u w => u = Value.tuple #[] ∧ Sep.St [signalman_player.at b0 r, R] w0 w) := by
 unfold signalman_player_steps.f at H
 refine calls_enter func61 rfl rfl ?_
 have H : _ = some r := H
 refine V.seq (V.region (W.mv rfl (W.r (X.min2 rfl rfl) rfl (W.mv rfl (W.nx (V.block (V.loop (σ := Int × signalman_player) (fun kq (st : Int × signalman_player) w => match st with | (x2, x3) => Sep.St [signalman_player.at b0 x3, R] w0 w ∧ signalman_player_steps.l0 kq a1 x2 x3 = some r ∧ kq ≤ k) (fun st => match st with | (x2, x3) => [(0, pt b0), (5, vi (imin a1 (100000))), (6, vi x2)]) k (0, a0) ⟨rfl, rfl, rfl, tv⟩ ⟨HS, H, Nat.le_refl _⟩ ?_)))))))
 rintro kq4 ⟨x2, x3⟩ w ⟨HS, H, hk5⟩
 cases kq4 with
 | zero => exact absurd H (by simp [signalman_player_steps.l0])
 | succ kq4 =>
  simp only [signalman_player_steps.l0] at H
  refine V.seq (V.region (W.r (X.cmp (decide (x2 < (imin a1 (100000)))) rfl rfl rfl rfl) rfl (W.nx (V.seq ?_))))
  by_cases c6 : x2 < (imin a1 (100000))
  ·replace H := ite_t c6 H
   refine V.condT (sb (dT c6)) (V.skip (At.next (V.seq (V.block (V.seq (V.region (W.mv rfl (W.nc rfl ?_))))))))
   obtain ⟨b0_7, a1_7, c1_7, d1_7, hi8, HS⟩ := signalman_player.open HS
   refine W.fa fo72_0 rfl (W.ld 0 HS underlying70 rfl rfl rfl rfl ?_)
   obtain ⟨t9, A10, H⟩ := bind_s H
   replace HS := HS.pm [1, 0, 2, 3, 4]
   refine W.e (Y.cl func94 (world_World_Step.calls A10 HS.j1)) rfl ?_
   rintro _ w ⟨rfl, HS⟩
   replace HS := HS.o1
   refine W.nx (V.region (W.mv rfl ?_))
   replace HS := HS.pm [1, 0, 2, 3, 4]
   replace HS := signalman_player.close tv HS
   obtain ⟨t11, A12, H⟩ := bind_s H
   refine W.e (Y.cl func44 (signalman_player_inds.calls A12 HS.j1)) rfl ?_
   rintro _ w ⟨rfl, HS⟩
   replace HS := HS.o1
   refine W.nil (At.blockEnd (At.next (V.region (W.r (X.add rfl rfl) rfl (W.mv rfl (W.nil ?_))))))
   exact At.round kq4 (by omega) (w64 (x2 + 1), t11) ⟨rfl, rfl, rfl, tv⟩ ⟨HS, H, by omega⟩
  ·replace H := ite_f c6 H
   refine V.condF (sb (dF c6)) (V.exit (At.thenExit (At.thenExit (At.blockExit ?_))))
   cases H
   exact At.end0 rfl ⟨_, rfl, rfl, HS⟩
def signalman_wrong.f (a0 : Bool) : Option Int := (if a0 = true then some (1) else some (0))
theorem signalman_wrong.calls {a0 : Bool} {R : As} {w0 w : World}  {r : Int} (H : signalman_wrong.f a0 = some r) (HS : Sep.St [R] w0 w)  : Calls Tryz.prog 62 #[vb a0] w (Ret fun u w => u = vi r ∧ Sep.St [R] w0 w) := by
 unfold signalman_wrong.f at H
 refine calls_enter func62 rfl rfl ?_
 have H : _ = some r := H
 refine V.seq (V.region (W.as rfl (W.nx (V.seq (V.seq (V.region (W.mv rfl (W.nx ?_))))))))
 by_cases c1 : a0 = true
 ·replace H := ite_t c1 H
  refine V.condT (sb c1) (V.seq (V.region (W.as rfl (W.nx (V.ret (At.thenRet ?_))))))
  cases H
  exact At.ret1 rfl rfl ⟨_, rfl, rfl, HS⟩
 ·replace H := ite_f c1 H
  refine V.condF (sb (b_f c1)) (V.skip (At.next (V.seq (V.region (W.as rfl (W.nx (V.ret ?_)))))))
  cases H
  exact At.ret1 rfl rfl ⟨_, rfl, rfl, HS⟩
def signalman_first.f (a0 : List Int) : Option Int := (if (a0.length : Int) = 0 then some (0) else (if 0 ≤ (0 : Int) ∧ (0 : Int) < (a0.length : Int) then some (a0.getD (0 : Int).toNat 0) else none))
theorem signalman_first.calls {a0 : List Int} {R : As} {w0 w : World} {sa0 : Option Addr} {sc0 : Nat} {r : Int} (H : signalman_first.f a0 = some r) (HS : Sep.St [R] w0 w) (hr0 : rdC R 1 (.slice sa0 a0.length sc0) a0.length (a0.map (Value.int .u8))) : Calls Tryz.prog 64 #[vs sa0 a0.length sc0] w (Ret fun u w => u = Value.int .u8 r ∧ Sep.St [R] w0 w) := by
 unfold signalman_first.f at H
 refine calls_enter func64 rfl rfl ?_
 have H : _ = some r := H
 refine V.seq (V.region (W.as rfl (W.nx (V.seq (V.seq (V.region (W.mv rfl (W.r (X.lenSl underlying27 rfl) rfl (W.r (X.cmp (decide ((a0.length : Int) = 0)) rfl rfl rfl rfl) rfl (W.nx ?_))))))))))
 by_cases c1 : (a0.length : Int) = 0
 ·replace H := ite_t c1 H
  refine V.condT (sb (dT c1)) (V.seq (V.region (W.as rfl (W.nx (V.ret (At.thenRet ?_))))))
  cases H
  exact At.ret1 rfl rfl ⟨_, rfl, rfl, HS⟩
 ·replace H := ite_f c1 H
  refine V.condF (sb (dF c1)) (V.skip (At.next (V.seq (V.region (W.mv rfl ?_)))))
  obtain ⟨c2, H⟩ := ite_n H
  obtain ⟨eb3, eo4, hh⟩ := (rdC.at 0 hr0 HS rfl).some (by decide) c2.1 c2.2; subst hh
  refine W.r (X.indexSl underlying27 inf5 rfl rfl c2.1 c2.2) rfl (W.r (X.load underlying5 rfl rfl ((rdC.at 0 hr0 HS rfl).cellI c2.1 c2.2)) rfl (W.as rfl (W.nx (V.ret ?_))))
  cases H
  exact At.ret1 rfl rfl ⟨_, rfl, rfl, HS⟩
def slices_Insert_Sbytebyte.f (a0 : List Int) (a1 : Int) (a2 : List Int) : Option (List Int) := (if 0 ≤ a1 ∧ a1 ≤ (a0.length : Int) ∧ (a0.length : Int) ≤ (a0.length : Int) then (if (a2.length : Int) = 0 then some a0 else (if a1 = (a0.length : Int) then (if (a0.length : Int) + a2.length ≤ 1099511627776 then some (a0 ++ a2) else none) else (if (a0.length : Int) + a2.length ≤ 1099511627776 then some ((a0.take a1.toNat ++ a2) ++ a0.drop a1.toNat) else none))) else none)
theorem slices_Insert_Sbytebyte.calls {a0 : List Int} {a1 : Int} {a2 : List Int} {R : As} {w0 w : World} {sa0 : Option Addr} {sc0 : Nat} {sa2 : Option Addr} {sc2 : Nat} {r : List Int} (H : slices_Insert_Sbytebyte.f a0 a1 a2 = some r) (HS : Sep.St [row 5 1 (.slice sa0 a0.length sc0) a0.length (a0.map (Value.int .u8)), row 5 1 (.slice sa2 a2.length sc2) a2.length (a2.map (Value.int .u8)), R] w0 w)  : Calls Tryz.prog 144 #[vs sa0 a0.length sc0, vi a1, vs sa2 a2.length sc2] w (Ret fun u w => ∃ (aq0 : Option Addr) (cq0 : Nat), u = vs aq0 r.length cq0 ∧ Sep.St [row 5 1 (.slice aq0 r.length cq0) r.length (r.map (Value.int .u8)), R] w0 w) := by
 unfold slices_Insert_Sbytebyte.f at H
 refine calls_enter func144 rfl rfl ?_
 have H : _ = some r := H
 refine V.seq (V.region (W.as rfl (W.nx (V.seq (V.region (W.mv rfl (W.mv rfl ?_)))))))
 obtain ⟨c1, H⟩ := ite_n H
 refine W.r (X.slL underlying27 inf5 rfl rfl c1) rfl (W.nx (V.seq (V.region (W.mv rfl (W.r (X.lenSl underlying27 rfl) rfl (W.as rfl (W.nx (V.seq (V.seq (V.region (W.mv rfl (W.r (X.cmp (decide ((a2.length : Int) = 0)) rfl rfl rfl rfl) rfl (W.nx ?_)))))))))))))
 by_cases c4 : (a2.length : Int) = 0
 ·replace H := ite_t c4 H
  refine V.condT (sb (dT c4)) (V.seq (V.region (W.mv rfl (W.as rfl (W.nx (V.ret (At.thenRet ?_)))))))
  replace HS := HS.pk [0, 2] [1]
  cases H
  exact At.ret1 rfl rfl ⟨_, rfl, sa0, sc0, rfl, HS⟩
 ·replace H := ite_f c4 H
  refine V.condF (sb (dF c4)) (V.skip (At.next (V.seq (V.region (W.mv rfl (W.r (X.lenSl underlying27 rfl) rfl (W.as rfl (W.nx (V.seq (V.seq (V.region (W.mv rfl (W.mv rfl (W.r (X.cmp (decide (a1 = (a0.length : Int))) rfl rfl rfl rfl) rfl (W.nx ?_)))))))))))))))
  by_cases c5 : a1 = (a0.length : Int)
  ·replace H := ite_t c5 H
   refine V.condT (sb (dT c5)) (V.seq (V.region (W.mv rfl (W.mv rfl ?_))))
   obtain ⟨c6, H⟩ := ite_n H
   refine W.e (Y.appF (Value.int .u8) (fun _ => rfl) 0 underlying27 ap5 rfl HS rfl rfl rfl (rdC.at 1 row_rd HS rfl) (by omega) (by omega)) rfl ?_
   rintro _ w ⟨ra7, rc8, rfl, HS⟩
   refine W.as rfl (W.nx (V.ret (At.thenRet ?_)))
   replace HS := HS.pk [0, 2] [1]
   cases H
   exact At.ret1 rfl rfl ⟨_, rfl, ra7, rc8, rfl, HS⟩
  ·replace H := ite_f c5 H
   refine V.condF (sb (dF c5)) (V.skip (At.next (V.seq (V.seq (V.region (W.mv rfl (W.mv rfl (W.r (X.add rfl rfl) rfl (W.mv rfl ?_)))))))))
   obtain ⟨c9, H⟩ := ite_n H
   obtain ⟨ig10, io11, iu12, rfl, hc13, hm14, hf15, h416, HN⟩ := HS.row_open (by omega); clear HS; have HS := HN
   replace HS := HS.fr 1
   obtain ⟨ig17, io18, iu19, rfl, hc20, hm21, hf22, h423, HN⟩ := HS.row_open (by omega); clear HS; have HS := HN
   have hne24 := St.blk_ne HS
   have hwa : w64 ((a0.length : Int) + (a2.length : Int)) = (a0.length : Int) + (a2.length : Int) := w64_in ⟨by omega, by omega⟩
   have hwb : w64 (a1 + (a2.length : Int)) = a1 + (a2.length : Int) := w64_in ⟨by omega, by omega⟩
   have hwc : w64 (w64 ((a0.length : Int) + (a2.length : Int)) - a1) = (a0.length : Int) + (a2.length : Int) - a1 := by rw [hwa]; exact w64_in ⟨by omega, by omega⟩
   refine W.r (X.cap underlying27 rfl) rfl (W.r (X.cmp (decide ((w64 ((a0.length : Int) + (a2.length : Int))) > (sc0 : Int))) rfl rfl rfl rfl) rfl (W.nx ?_))
   by_cases c25 : (w64 ((a0.length : Int) + (a2.length : Int))) > (sc0 : Int)
   ·skip
    refine V.condT (sb (dT c25)) (V.seq (V.region (W.mv rfl (W.mv rfl (W.r (X.rawH (j := a1) underlying27 inf5 rfl rfl ⟨(by omega), (by omega)⟩) rfl (W.mv rfl (W.mv rfl (W.r (X.add rfl rfl) rfl (W.mv rfl (W.r (X.sub rfl rfl) rfl (W.e (Y.appZ (kk := a0.length + a2.length - a1.toNat) (kI := w64 ((w64 ((a0.length : Int) + (a2.length : Int))) - a1)) 1 underlying27 underlying3 ap5 rfl HS rfl rfl rfl (by omega) (by omega) (by omega) (by omega) (by omega) (by decide)) rfl ?_)))))))))))
    rintro _ w ⟨ig26, ic27, iR28, rfl, hc29, hm30, hf31, h432, HS⟩
    refine W.as rfl (W.nx (V.seq (V.region (W.mv rfl (W.mv rfl (W.r (X.rawL (i := a1) underlying27 inf5 rfl rfl ⟨(by omega), (by omega)⟩ (by omega)) rfl (W.mv rfl (W.e (Y.copyB (ds := (a2.map (Value.int .u8))) 0 underlying27 inf5 HS rfl rfl rfl (fun j u hu => readO0 1 HS rfl h423 (by omega) j u hu) (oneM (fun _ => rfl)) (by simp only [size_setMany, List.length_drop, List.length_map, true_and, true_or, or_true] <;> omega) (by simp only [size_setMany, List.length_drop, List.length_map, true_and, true_or, or_true] <;> omega)) rfl ?_))))))))
    rintro _ w ⟨rfl, HS⟩
    refine W.nx (V.seq (V.dr [8] [] [(46, vs (some ⟨ig26, 0, none⟩) (a1.toNat + (a0.length + a2.length - a1.toNat)) ic27), (47, vi a1), (48, vi (a2.length : Int)), (49, vi (w64 (a1 + (a2.length : Int)))), (50, vs (some ⟨ig26, 0 + (w64 (a1 + (a2.length : Int))).toNat, none⟩) ((a1.toNat + (a0.length + a2.length - a1.toNat)) - (w64 (a1 + (a2.length : Int))).toNat) (ic27 - (w64 (a1 + (a2.length : Int))).toNat)), (51, vs (some ⟨ig10, io11, none⟩) a0.length sc0), (52, vi a1), (53, vs (some ⟨ig10, io11 + a1.toNat, none⟩) (a0.length - a1.toNat) (sc0 - a1.toNat))] mo HS ?_))
    refine T.ev [(50, _), (53, _)] [] [0, 1, 2, 3, 4, 5, 6, 7] ⟨rfl, rfl, tv⟩ ⟨.mv 9, .mv 1, .mv 7, .n2 47 48 rfl rfl rfl (fun w HS => X.add rfl rfl), .n2 46 49 rfl rfl rfl (fun w HS => X.rawL (i := w64 (a1 + (a2.length : Int))) underlying27 inf5 rfl rfl ⟨(by omega), (by omega)⟩ (by omega)), .mv 0, .mv 1, .n2 51 52 rfl rfl rfl (fun w HS => X.rawL (i := a1) underlying27 inf5 rfl rfl ⟨(by omega), (by omega)⟩ (by omega)), tv⟩ rfl (fun w HS => ?_)
    refine ⟨_, Y.copyB (ds := ((a0.map (Value.int .u8)).drop a1.toNat)) 0 underlying27 inf5 HS rfl rfl rfl (fun j u hu => readO 2 HS rfl h416 (by omega) (by omega) j u hu) (fun u hu => oneM (fun _ => rfl) u (List.mem_of_mem_drop hu)) (by simp only [size_setMany, List.length_drop, List.length_map, true_and, true_or, or_true] <;> omega) (by simp only [size_setMany, List.length_drop, List.length_map, true_and, true_or, or_true] <;> omega), ?_⟩
    rintro _ w ⟨rfl, HS⟩
    refine T.nw HS ?_
    refine T.fn [(9, _)] ⟨rfl, tv⟩ tv (fun w HS => ?_)
    refine At.next (V.seq (V.region (W.mv rfl (W.as rfl (W.nx (V.ret (At.thenRet ?_)))))))
    have he35 : ((a0.take a1.toNat ++ a2) ++ a0.drop a1.toNat).length = a1.toNat + (a0.length + a2.length - a1.toNat) := by simp only [List.length_append, List.length_take, List.length_drop]; omega
    refine At.again 6 (v := vs (some ⟨ig26, 0, none⟩) ((a0.take a1.toNat ++ a2) ++ a0.drop a1.toNat).length ic27) (by rw [he35]; rfl) ?_
    have hl36 := ins_new (i := a1.toNat) (n := a0.length) (m := a2.length) (xs := a0) (vs := a2) (g := (Value.int .u8)) (o1 := 0 + a1.toNat) (o2 := 0 + (w64 (a1 + (a2.length : Int))).toNat) (t := ((a0.take a1.toNat ++ a2) ++ a0.drop a1.toNat).length) (by rw [h432, ← h416, List.take_take, show min a1.toNat a0.length = a1.toNat by omega]) rfl rfl (by omega) (by omega) (by omega) (by omega) (by omega)
    replace HS := HS.row_shut (m := ((a0.take a1.toNat ++ a2) ++ a0.drop a1.toNat).length) (c := ic27) (cs := ((a0.take a1.toNat ++ a2) ++ a0.drop a1.toNat).map (Value.int .u8)) (by omega) (by omega) (by simp only [size_setMany]; omega) hl36 (by rw [List.length_map])
    replace HS := HS.pk [0, 3] [1, 2]
    cases H
    exact At.ret1 rfl rfl ⟨_, rfl, (some ⟨ig26, 0, none⟩), ic27, rfl, HS⟩
   ·skip
    refine V.condF (sb (dF c25)) (V.skip (At.next (V.seq (V.region (W.mv rfl (W.mv rfl (W.mv rfl (W.r (X.add rfl rfl) rfl (W.r (X.rawH (j := w64 ((a0.length : Int) + (a2.length : Int))) underlying27 inf5 rfl rfl ⟨(by omega), (by omega)⟩) rfl (W.as rfl (W.nx (V.seq (V.seq (V.region (W.mv rfl (W.mv rfl (W.mv rfl (W.mv rfl (W.r (X.add rfl rfl) rfl (W.r (X.rawL (i := w64 (a1 + (a2.length : Int))) underlying27 inf5 rfl rfl ⟨(by omega), (by omega)⟩ (by omega)) rfl (W.r (X.overlaps (tR := 4) 0 1 func191 (by kernel_rfl) (by kernel_rfl) (by kernel_rfl) (by kernel_rfl) underlying27 inf5 HS rfl rfl hne24 (by omega) rfl rfl) rfl (W.r (X.not rfl) rfl (W.nx (V.condT rfl (V.seq (V.dr [8] [] [(69, vs (some ⟨ig10, io11, none⟩) ((w64 ((a0.length : Int) + (a2.length : Int))).toNat) sc0), (70, vi a1), (71, vi (a2.length : Int)), (72, vi (w64 (a1 + (a2.length : Int)))), (73, vs (some ⟨ig10, io11 + (w64 (a1 + (a2.length : Int))).toNat, none⟩) (((w64 ((a0.length : Int) + (a2.length : Int))).toNat) - (w64 (a1 + (a2.length : Int))).toNat) (sc0 - (w64 (a1 + (a2.length : Int))).toNat)), (74, vs (some ⟨ig10, io11, none⟩) ((w64 ((a0.length : Int) + (a2.length : Int))).toNat) sc0), (75, vi a1), (76, vs (some ⟨ig10, io11 + a1.toNat, none⟩) (((w64 ((a0.length : Int) + (a2.length : Int))).toNat) - a1.toNat) (sc0 - a1.toNat))] mo HS ?_))))))))))))))))))))))))))
    refine T.ev [(73, _), (76, _)] [] [0, 1, 2, 3, 4, 5, 6, 7] ⟨rfl, rfl, tv⟩ ⟨.mv 0, .mv 1, .mv 7, .n2 70 71 rfl rfl rfl (fun w HS => X.add rfl rfl), .n2 69 72 rfl rfl rfl (fun w HS => X.rawL (i := w64 (a1 + (a2.length : Int))) underlying27 inf5 rfl rfl ⟨(by omega), (by omega)⟩ (by omega)), .mv 0, .mv 1, .n2 74 75 rfl rfl rfl (fun w HS => X.rawL (i := a1) underlying27 inf5 rfl rfl ⟨(by omega), (by omega)⟩ (by omega)), tv⟩ rfl (fun w HS => ?_)
    refine ⟨_, Y.copyB (ds := ((a0.map (Value.int .u8)).drop a1.toNat)) 1 underlying27 inf5 HS rfl rfl rfl (fun j u hu => readO 1 HS rfl h416 (by omega) (by omega) j u hu) (fun u hu => oneM (fun _ => rfl) u (List.mem_of_mem_drop hu)) (by simp only [size_setMany, List.length_drop, List.length_map, true_and, true_or, or_true] <;> omega) (by simp only [size_setMany, List.length_drop, List.length_map, true_and, true_or, or_true] <;> omega), ?_⟩
    rintro _ w ⟨rfl, HS⟩
    refine T.nw HS ?_
    refine T.fn [(0, _), (1, _), (2, _)] ⟨rfl, rfl, rfl, tv⟩ tv (fun w HS => ?_)
    refine At.next (V.seq (V.region (W.mv rfl (W.mv rfl (W.r (X.rawL (i := a1) underlying27 inf5 rfl rfl ⟨(by omega), (by omega)⟩ (by omega)) rfl (W.mv rfl (W.e (Y.copyB (ds := (a2.map (Value.int .u8))) 1 underlying27 inf5 HS rfl rfl rfl (fun j u hu => readO0 0 HS rfl h423 (by omega) j u hu) (oneM (fun _ => rfl)) (by simp only [size_setMany, List.length_drop, List.length_map, true_and, true_or, or_true] <;> omega) (by simp only [size_setMany, List.length_drop, List.length_map, true_and, true_or, or_true] <;> omega)) rfl ?_)))))))
    rintro _ w ⟨rfl, HS⟩
    refine W.nx (V.seq (V.region (W.mv rfl (W.as rfl (W.nx (V.ret (At.thenRet ?_)))))))
    have he41 : ((a0.take a1.toNat ++ a2) ++ a0.drop a1.toNat).length = (w64 ((a0.length : Int) + (a2.length : Int))).toNat := by simp only [List.length_append, List.length_take, List.length_drop]; omega
    refine At.again 6 (v := vs (some ⟨ig10, io11, none⟩) ((a0.take a1.toNat ++ a2) ++ a0.drop a1.toNat).length sc0) (by rw [he41]; rfl) ?_
    replace HS := HS.fr 1
    have hl42 := ins_here (i := a1.toNat) (n := a0.length) (m := a2.length) (xs := a0) (vs := a2) (g := (Value.int .u8)) (o1 := io11 + (w64 (a1 + (a2.length : Int))).toNat) (o2 := io11 + a1.toNat) (t := ((a0.take a1.toNat ++ a2) ++ a0.drop a1.toNat).length) h416 rfl rfl (by omega) (by omega) (by omega) rfl (by omega)
    replace HS := HS.row_shut (m := ((a0.take a1.toNat ++ a2) ++ a0.drop a1.toNat).length) (c := sc0) (cs := ((a0.take a1.toNat ++ a2) ++ a0.drop a1.toNat).map (Value.int .u8)) (by omega) (by omega) (by simp only [size_setMany]; omega) hl42 (by rw [List.length_map])
    replace HS := HS.pk [0, 2] [1]
    cases H
    exact At.ret1 rfl rfl ⟨_, rfl, (some ⟨ig10, io11, none⟩), sc0, rfl, HS⟩
mutual
def pipe_Pipe_Fault.j0 (a0 : pipe_Pipe) (a2 : Int) (a3 : Int) (x15 : Bool) : Option (Bool × pipe_Pipe) := (if x15 = true then some (false, a0) else (if 0 ≤ a2 ∧ a2 < (a0.b.length : Int) then some (true, ({ a0 with b := a0.b.set a2.toNat a3 } : pipe_Pipe)) else none))
def pipe_Pipe_Fault.j1 (a0 : pipe_Pipe) (a2 : Int) (a3 : Int) (x28 : Bool) : Option (Bool × pipe_Pipe) := (if x28 = true then some (false, a0) else ((slices_Insert_Sbytebyte.f a0.b a2 ([a3] : List Int)).bind fun t36 => some (true, ({ a0 with b := t36 } : pipe_Pipe))))
end
def pipe_Pipe_Fault.f (a0 : pipe_Pipe) (a1 : Int) (a2 : Int) (a3 : Int) : Option (Bool × pipe_Pipe) := (if a1 = 0 then some (true, ({ a0 with cut := false, stall := false } : pipe_Pipe)) else (if a1 = 1 then some (true, ({ a0 with cut := true } : pipe_Pipe)) else (if a1 = 2 then some (true, ({ a0 with stall := true } : pipe_Pipe)) else (if a1 = 3 then ((pipe_Pipe_gone.f a0 a2).bind fun t11 => some (true, t11.2)) else (if a1 = 4 then (if a2 < 0 then (pipe_Pipe_Fault.j0 a0 a2 a3 true) else (pipe_Pipe_Fault.j0 a0 a2 a3 (decide (a2 ≥ (a0.b.length : Int))))) else (if a1 = 5 then (if a2 < 0 then (pipe_Pipe_Fault.j1 a0 a2 a3 true) else (if a2 > (a0.b.length : Int) then (pipe_Pipe_Fault.j1 a0 a2 a3 true) else ((pipe_Pipe_Room.f a0).bind fun t42 => (pipe_Pipe_Fault.j1 a0 a2 a3 (decide (t42 = 0)))))) else some (false, a0)))))))
theorem pipe_Pipe_Fault.calls {a0 : pipe_Pipe} {a1 : Int} {a2 : Int} {a3 : Int} {R : As} {w0 w : World} {b0 : Nat} {r : Bool × pipe_Pipe} (H : pipe_Pipe_Fault.f a0 a1 a2 a3 = some r) (HS : Sep.St [pipe_Pipe.at b0 a0, R] w0 w)  : Calls Tryz.prog 96 #[pt b0, vi a1, vi a2, Value.int .u8 a3] w (Ret fun u w => u = vb r.1 ∧ Sep.St [pipe_Pipe.at b0 r.2, R] w0 w) := by
 unfold pipe_Pipe_Fault.f at H
 refine calls_enter func96 rfl rfl ?_
 have H : _ = some r := H
 refine V.seq (V.region (W.as rfl (W.nx (V.seq (V.seq (V.region (W.mv rfl (W.nx (V.block (V.seq (V.region (W.r (X.cmp (decide (a1 = 0)) rfl rfl rfl rfl) rfl (W.as rfl (W.nx ?_))))))))))))))
 by_cases c1 : a1 = 0
 ·replace H := ite_t c1 H
  refine V.condT (sb (dT c1)) (V.region (W.mv rfl (W.mv rfl (W.nc rfl ?_))))
  obtain ⟨a1_2, c1_2, hi3, HS⟩ := pipe_Pipe.open HS
  refine W.fa fo187_2 rfl (W.st 0 2 HS inf4 rfl rfl rfl rfl rfl rfl fun w HS => ?_)
  refine W.nc rfl (W.fa fo187_3 rfl (W.st 0 3 HS inf4 rfl rfl rfl rfl rfl rfl fun w HS => ?_))
  refine W.nil (At.blockEnd (At.next (V.seq (V.region (W.as rfl (W.nx (V.ret ?_)))))))
  replace HS := pipe_Pipe.close tv HS
  cases H
  exact At.ret1 rfl rfl ⟨_, rfl, rfl, HS⟩
 ·replace H := ite_f c1 H
  refine V.condF (sb (dF c1)) (V.seq (V.region (W.r (X.cmp (decide (a1 = 1)) rfl rfl rfl rfl) rfl (W.as rfl (W.nx ?_)))))
  by_cases c4 : a1 = 1
  ·replace H := ite_t c4 H
   refine V.condT (sb (dT c4)) (V.region (W.mv rfl (W.nc rfl ?_)))
   obtain ⟨a1_5, c1_5, hi6, HS⟩ := pipe_Pipe.open HS
   refine W.fa fo187_2 rfl (W.st 0 2 HS inf4 rfl rfl rfl rfl rfl rfl fun w HS => ?_)
   refine W.nil (At.blockEnd (At.next (V.seq (V.region (W.as rfl (W.nx (V.ret ?_)))))))
   replace HS := pipe_Pipe.close tv HS
   cases H
   exact At.ret1 rfl rfl ⟨_, rfl, rfl, HS⟩
  ·replace H := ite_f c4 H
   refine V.condF (sb (dF c4)) (V.seq (V.region (W.r (X.cmp (decide (a1 = 2)) rfl rfl rfl rfl) rfl (W.as rfl (W.nx ?_)))))
   by_cases c7 : a1 = 2
   ·replace H := ite_t c7 H
    refine V.condT (sb (dT c7)) (V.region (W.mv rfl (W.nc rfl ?_)))
    obtain ⟨a1_8, c1_8, hi9, HS⟩ := pipe_Pipe.open HS
    refine W.fa fo187_3 rfl (W.st 0 3 HS inf4 rfl rfl rfl rfl rfl rfl fun w HS => ?_)
    refine W.nil (At.blockEnd (At.next (V.seq (V.region (W.as rfl (W.nx (V.ret ?_)))))))
    replace HS := pipe_Pipe.close tv HS
    cases H
    exact At.ret1 rfl rfl ⟨_, rfl, rfl, HS⟩
   ·replace H := ite_f c7 H
    refine V.condF (sb (dF c7)) (V.seq (V.region (W.r (X.cmp (decide (a1 = 3)) rfl rfl rfl rfl) rfl (W.as rfl (W.nx ?_)))))
    by_cases c10 : a1 = 3
    ·replace H := ite_t c10 H
     refine V.condT (sb (dT c10)) (V.region (W.mv rfl (W.mv rfl ?_)))
     obtain ⟨t11, A12, H⟩ := bind_s H
     refine W.e (Y.cl func142 (pipe_Pipe_gone.calls A12 HS.j1)) rfl ?_
     rintro _ w ⟨at11_0, ct11_0, rfl, HS⟩
     replace HS := HS.o2
     refine W.nil (At.blockEnd (At.next (V.seq (V.region (W.as rfl (W.nx (V.ret ?_)))))))
     replace HS := HS.pk [1, 2] [0]
     cases H
     exact At.ret1 rfl rfl ⟨_, rfl, rfl, HS⟩
    ·replace H := ite_f c10 H
     refine V.condF (sb (dF c10)) (V.seq (V.region (W.r (X.cmp (decide (a1 = 4)) rfl rfl rfl rfl) rfl (W.as rfl (W.nx ?_)))))
     by_cases c13 : a1 = 4
     ·replace H := ite_t c13 H
      refine V.condT (sb (dT c13)) (V.seq (V.meet (σ := Bool) (fun st w => match st with | x15 => Sep.St [pipe_Pipe.at b0 a0, R] w0 w ∧ pipe_Pipe_Fault.j0 a0 a2 a3 x15 = some r) (fun st => match st with | x15 => [(0, pt b0), (2, vi a2), (3, Value.int .u8 a3), (45, vb x15)]) ?_ ?_))
      ·refine V.region (W.mv rfl (W.r (X.cmp (decide (a2 < 0)) rfl rfl rfl rfl) rfl (W.mv rfl ?_)))
       by_cases c23 : a2 < 0
       ·replace H := ite_t c23 H
        refine W.pass 37 rfl (sb (dT c23)) rfl rfl (W.pass 37 rfl (sb (dT c23)) rfl rfl (W.pass 37 rfl (sb (dT c23)) rfl rfl (W.pass 37 rfl (sb (dT c23)) rfl rfl (W.pass 37 rfl (sb (dT c23)) rfl rfl (W.pass 37 rfl (sb (dT c23)) rfl rfl (W.pass 37 rfl (sb (dT c23)) rfl rfl (W.r (X.pickT (sb (dT c23)) rfl) rfl (W.nil ?_))))))))
        exact At.meet true ⟨rfl, rfl, rfl, rfl, tv⟩ ⟨HS, H⟩
       ·replace H := ite_f c23 H
        refine W.want 37 rfl (sb (dF c23)) (W.mv rfl (W.want 37 rfl (sb (dF c23)) (W.mv rfl (W.want 37 rfl (sb (dF c23)) (W.nc rfl (W.want 37 rfl (sb (dF c23)) ?_))))))
        obtain ⟨a1_24, c1_24, hi25, HS⟩ := pipe_Pipe.open HS
        refine W.fa fo187_1 rfl (W.want 37 rfl (sb (dF c23)) (W.ld 0 HS underlying27 rfl rfl rfl rfl (W.want 37 rfl (sb (dF c23)) (W.r (X.lenSl underlying27 rfl) rfl (W.want 37 rfl (sb (dF c23)) (W.r (X.cmp (decide (a2 ≥ (a0.b.length : Int))) rfl rfl rfl rfl) rfl (W.r (X.pickF (sb (dF c23)) rfl) rfl (W.nil ?_))))))))
        replace HS := pipe_Pipe.close tv HS
        exact At.meet (decide (a2 ≥ (a0.b.length : Int))) ⟨rfl, rfl, rfl, rfl, tv⟩ ⟨HS, H⟩
      ·rintro x15 w ⟨HS, H⟩
       unfold pipe_Pipe_Fault.j0 at H
       by_cases c17 : x15 = true
       ·replace H := ite_t c17 H
        refine V.condT (sb c17) (V.seq (V.region (W.as rfl (W.nx (V.ret (At.thenRet (At.blockRet (At.thenRet ?_))))))))
        cases H
        exact At.ret1 rfl rfl ⟨_, rfl, rfl, HS⟩
       ·replace H := ite_f c17 H
        refine V.condF (sb (b_f c17)) (V.skip (At.next (V.region (W.mv rfl (W.nc rfl ?_)))))
        obtain ⟨a1_18, c1_18, hi19, HS⟩ := pipe_Pipe.open HS
        refine W.fa fo187_1 rfl (W.ld 0 HS underlying27 rfl rfl rfl rfl (W.mv rfl (W.mv rfl ?_)))
        obtain ⟨c20, H⟩ := ite_n H
        obtain ⟨eb21, eo22, hh⟩ := (rdC.at 1 row_rd HS rfl).some (by decide) c20.1 c20.2; subst hh
        refine W.r (X.indexSl underlying27 inf5 rfl rfl c20.1 c20.2) rfl (W.en (Y.storeRowF (Value.int .u8) (fun _ => rfl) 1 HS rfl inf5 rfl rfl c20.1 c20.2) rfl ?_)
        rintro _ w HS
        have HS : Sep.St [blk b0 (#[vi a0.room, vs (some ⟨eb21, eo22, none⟩) (a0.b.set a2.toNat a3).length c1_18, vb a0.cut, vb a0.stall]) 187, row 5 1 (.slice (some ⟨eb21, eo22, none⟩) (a0.b.set a2.toNat a3).length c1_18) (a0.b.set a2.toNat a3).length ((a0.b.set a2.toNat a3).map (Value.int .u8)), R] w0 w := by simpa only [List.length_set, List.set_cons_succ, List.set_cons_zero] using HS
        refine W.again 49 (v := vs (some ⟨eb21, eo22, none⟩) (a0.b.set a2.toNat a3).length c1_18) (by rw [List.length_set]; rfl) ?_
        refine W.nil (At.blockEnd (At.next (V.seq (V.region (W.as rfl (W.nx (V.ret ?_)))))))
        replace HS := pipe_Pipe.close tv HS
        cases H
        exact At.ret1 rfl rfl ⟨_, rfl, rfl, HS⟩
     ·replace H := ite_f c13 H
      refine V.condF (sb (dF c13)) (V.seq (V.region (W.r (X.cmp (decide (a1 = 5)) rfl rfl rfl rfl) rfl (W.as rfl (W.nx ?_)))))
      by_cases c26 : a1 = 5
      ·replace H := ite_t c26 H
       refine V.condT (sb (dT c26)) (V.seq (V.meet (σ := Bool) (fun st w => match st with | x28 => Sep.St [pipe_Pipe.at b0 a0, R] w0 w ∧ pipe_Pipe_Fault.j1 a0 a2 a3 x28 = some r) (fun st => match st with | x28 => [(0, pt b0), (2, vi a2), (3, Value.int .u8 a3), (70, vb x28)]) ?_ ?_))
       ·refine V.region (W.mv rfl (W.r (X.cmp (decide (a2 < 0)) rfl rfl rfl rfl) rfl (W.mv rfl ?_)))
        by_cases c38 : a2 < 0
        ·replace H := ite_t c38 H
         refine W.pass 57 rfl (sb (dT c38)) rfl rfl (W.pass 57 rfl (sb (dT c38)) rfl rfl (W.pass 57 rfl (sb (dT c38)) rfl rfl (W.pass 57 rfl (sb (dT c38)) rfl rfl (W.pass 57 rfl (sb (dT c38)) rfl rfl (W.pass 57 rfl (sb (dT c38)) rfl rfl (W.pass 57 rfl (sb (dT c38)) rfl rfl (W.r (X.pickT (sb (dT c38)) rfl) rfl (W.mv rfl (W.pass 66 rfl rfl rfl rfl (W.pass 66 rfl rfl rfl rfl (W.pass 66 rfl rfl rfl rfl (W.r (X.pickT rfl rfl) rfl (W.nil ?_)))))))))))))
         exact At.meet true ⟨rfl, rfl, rfl, rfl, tv⟩ ⟨HS, H⟩
        ·replace H := ite_f c38 H
         refine W.want 57 rfl (sb (dF c38)) (W.mv rfl (W.want 57 rfl (sb (dF c38)) (W.mv rfl (W.want 57 rfl (sb (dF c38)) (W.nc rfl (W.want 57 rfl (sb (dF c38)) ?_))))))
         obtain ⟨a1_39, c1_39, hi40, HS⟩ := pipe_Pipe.open HS
         refine W.fa fo187_1 rfl (W.want 57 rfl (sb (dF c38)) (W.ld 0 HS underlying27 rfl rfl rfl rfl (W.want 57 rfl (sb (dF c38)) (W.r (X.lenSl underlying27 rfl) rfl (W.want 57 rfl (sb (dF c38)) (W.r (X.cmp (decide (a2 > (a0.b.length : Int))) rfl rfl rfl rfl) rfl (W.r (X.pickF (sb (dF c38)) rfl) rfl (W.mv rfl ?_))))))))
         by_cases c41 : a2 > (a0.b.length : Int)
         ·replace H := ite_t c41 H
          refine W.pass 66 rfl (sb (dT c41)) rfl rfl (W.pass 66 rfl (sb (dT c41)) rfl rfl (W.pass 66 rfl (sb (dT c41)) rfl rfl (W.r (X.pickT (sb (dT c41)) rfl) rfl (W.nil ?_))))
          replace HS := pipe_Pipe.close tv HS
          exact At.meet true ⟨rfl, rfl, rfl, rfl, tv⟩ ⟨HS, H⟩
         ·replace H := ite_f c41 H
          refine W.want 66 rfl (sb (dF c41)) (W.mv rfl (W.want 66 rfl (sb (dF c41)) ?_))
          obtain ⟨t42, A43, H⟩ := bind_s H
          refine W.e (Y.cl func143 (pipe_Pipe_Room.calls A43 HS.j2)) rfl ?_
          rintro _ w ⟨rfl, HS⟩
          replace HS := HS.o2
          refine W.want 66 rfl (sb (dF c41)) (W.r (X.cmp (decide (t42 = 0)) rfl rfl rfl rfl) rfl (W.r (X.pickF (sb (dF c41)) rfl) rfl (W.nil ?_)))
          replace HS := pipe_Pipe.close tv HS
          exact At.meet (decide (t42 = 0)) ⟨rfl, rfl, rfl, rfl, tv⟩ ⟨HS, H⟩
       ·rintro x28 w ⟨HS, H⟩
        unfold pipe_Pipe_Fault.j1 at H
        by_cases c30 : x28 = true
        ·replace H := ite_t c30 H
         refine V.condT (sb c30) (V.seq (V.region (W.as rfl (W.nx (V.ret (At.thenRet (At.blockRet (At.thenRet ?_))))))))
         cases H
         exact At.ret1 rfl rfl ⟨_, rfl, rfl, HS⟩
        ·replace H := ite_f c30 H
         refine V.condF (sb (b_f c30)) (V.skip (At.next (V.region (W.mv rfl (W.mv rfl (W.nc rfl ?_))))))
         obtain ⟨a1_31, c1_31, hi32, HS⟩ := pipe_Pipe.open HS
         refine W.fa fo187_1 rfl (W.ld 0 HS underlying27 rfl rfl rfl rfl (W.mv rfl (W.mv rfl (W.e (Y.ls (e := 5) (Value.int .u8) ([a3] : List Int) HS rfl rfl (fun _ => by kernel_rfl)) rfl ?_))))
         rintro _ w ⟨lb35, rfl, HS⟩
         obtain ⟨t36, A37, H⟩ := bind_s H
         replace HS := HS.pm [2, 0, 1, 3]
         refine W.e (Y.cl func144 (slices_Insert_Sbytebyte.calls A37 HS.j2)) rfl ?_
         rintro _ w ⟨at36_0, ct36_0, rfl, HS⟩
         replace HS := HS.o1
         refine W.nc rfl (W.fa fo187_1 rfl (W.st 1 1 HS inf27 rfl rfl rfl rfl rfl rfl fun w HS => ?_))
         refine W.nil (At.blockEnd (At.next (V.seq (V.region (W.as rfl (W.nx (V.ret ?_)))))))
         replace HS := HS.pm [1, 0, 2]
         replace HS := pipe_Pipe.close tv HS
         cases H
         exact At.ret1 rfl rfl ⟨_, rfl, rfl, HS⟩
      ·replace H := ite_f c26 H
       refine V.condF (sb (dF c26)) (V.seq (V.region (W.as rfl (W.nx (V.ret (At.blockRet (At.thenRet ?_)))))))
       cases H
       exact At.ret1 rfl rfl ⟨_, rfl, rfl, HS⟩
def world_World_Fault.f (a0 : world_World) (a1 : Int) (a2 : Int) (a3 : Int) (a4 : Int) (a5 : Int) : Option (Bool × world_World) := (if a1 ≥ 0 then (if a1 < 2 then (if a2 ≥ 0 then (if a2 < 2 then (if 0 ≤ a1 ∧ a1 < 2 then (if a1 = 0 then (if 0 ≤ a2 ∧ a2 < 2 then (if a2 = 0 then ((pipe_Pipe_Fault.f a0.ways.1.1.pipe a3 a4 a5).bind fun t11 => some (t11.1, ({ a0 with ways := ((({ a0.ways.1.1 with pipe := t11.2 } : world_way), a0.ways.1.2), a0.ways.2) } : world_World))) else ((pipe_Pipe_Fault.f a0.ways.1.2.pipe a3 a4 a5).bind fun t14 => some (t14.1, ({ a0 with ways := ((a0.ways.1.1, ({ a0.ways.1.2 with pipe := t14.2 } : world_way)), a0.ways.2) } : world_World)))) else none) else (if 0 ≤ a2 ∧ a2 < 2 then (if a2 = 0 then ((pipe_Pipe_Fault.f a0.ways.2.1.pipe a3 a4 a5).bind fun t19 => some (t19.1, ({ a0 with ways := (a0.ways.1, (({ a0.ways.2.1 with pipe := t19.2 } : world_way), a0.ways.2.2)) } : world_World))) else ((pipe_Pipe_Fault.f a0.ways.2.2.pipe a3 a4 a5).bind fun t22 => some (t22.1, ({ a0 with ways := (a0.ways.1, (a0.ways.2.1, ({ a0.ways.2.2 with pipe := t22.2 } : world_way))) } : world_World)))) else none)) else none) else some (false, a0)) else some (false, a0)) else some (false, a0)) else some (false, a0))
theorem world_World_Fault.calls {a0 : world_World} {a1 : Int} {a2 : Int} {a3 : Int} {a4 : Int} {a5 : Int} {R : As} {w0 w : World} {b0 : Nat} {r : Bool × world_World} (H : world_World_Fault.f a0 a1 a2 a3 a4 a5 = some r) (HS : Sep.St [world_World.at b0 a0, R] w0 w)  : Calls Tryz.prog 63 #[pt b0, vi a1, vi a2, vi a3, vi a4, Value.int .u8 a5] w (Ret fun u w => u = vb r.1 ∧ Sep.St [world_World.at b0 r.2, R] w0 w) := by
 unfold world_World_Fault.f at H
 refine calls_enter func63 rfl rfl ?_
 have H : _ = some r := H
 refine V.seq (V.region (W.as rfl (W.nx (V.seq (V.region (W.mv rfl (W.mv rfl (W.mv rfl ?_))))))))
 refine W.inl (Y.cl (vs := [pt b0, vi a1, vi a2]) func95 (calls_enter func95 rfl rfl ?_)) rfl rfl rfl
 refine V.seq (V.region (W.as rfl (W.as rfl (W.nx (V.seq (V.seq (V.region (W.mv rfl ?_))))))))
 refine W.inl (Y.cl (vs := [vi a1]) func45 (calls_enter func45 rfl rfl ?_)) rfl rfl rfl
 refine V.seq (V.region (W.as rfl (W.nx (V.seq (V.region (W.mv rfl (W.r (X.cmp (decide (a1 ≥ 0)) rfl rfl rfl rfl) rfl (W.mv rfl ?_))))))))
 by_cases c1 : a1 ≥ 0
 ·replace H := ite_t c1 H
  refine W.want 5 rfl (sb (dT c1)) (W.mv rfl (W.want 5 rfl (sb (dT c1)) (W.r (X.cmp (decide (a1 < 2)) rfl rfl rfl rfl) rfl (W.r (X.pickT (sb (dT c1)) rfl) rfl (W.as rfl (W.nx (V.ret ?_)))))))
  refine At.ret1 rfl rfl ⟨_, rfl, ?_⟩
  refine W.r (X.not rfl) rfl (W.mv rfl ?_)
  by_cases c2 : a1 < 2
  ·replace H := ite_t c2 H
   refine W.want 11 rfl (sb (n_t (dT c2))) (W.mv rfl (W.want 11 rfl (sb (n_t (dT c2))) ?_))
   refine W.inl (Y.cl (vs := [vi a2]) func45 (calls_enter func45 rfl rfl ?_)) rfl rfl rfl
   refine V.seq (V.region (W.as rfl (W.nx (V.seq (V.region (W.mv rfl (W.r (X.cmp (decide (a2 ≥ 0)) rfl rfl rfl rfl) rfl (W.mv rfl ?_))))))))
   by_cases c3 : a2 ≥ 0
   ·replace H := ite_t c3 H
    refine W.want 5 rfl (sb (dT c3)) (W.mv rfl (W.want 5 rfl (sb (dT c3)) (W.r (X.cmp (decide (a2 < 2)) rfl rfl rfl rfl) rfl (W.r (X.pickT (sb (dT c3)) rfl) rfl (W.as rfl (W.nx (V.ret ?_)))))))
    refine At.ret1 rfl rfl ⟨_, rfl, ?_⟩
    refine W.want 11 rfl (sb (n_t (dT c2))) (W.r (X.not rfl) rfl (W.r (X.pickF (sb (n_t (dT c2))) rfl) rfl (W.nx ?_)))
    by_cases c4 : a2 < 2
    ·replace H := ite_t c4 H
     refine V.condF (sb (n_t (dT c4))) (V.skip (At.next (V.seq (V.region (W.mv rfl (W.mv rfl (W.mv rfl (W.nc rfl ?_))))))))
     obtain ⟨b16_5, b17_5, b18_5, a19_5, c19_5, d19_5, a20_5, c20_5, d20_5, b21_5, a22_5, c22_5, d22_5, a23_5, c23_5, d23_5, b24_5, a25_5, c25_5, d25_5, a26_5, c26_5, d26_5, b27_5, a28_5, c28_5, d28_5, a29_5, c29_5, d29_5, hi6, HS⟩ := world_World.open HS
     refine W.fa fo117_2 rfl ?_
     obtain ⟨c7, H⟩ := ite_n H
     by_cases c8 : a1 = 0
     ·replace H := ite_t c8 H
      refine W.r (X.indexArK 0 c8 underlying115 inf114 rfl rfl c7.1 c7.2) rfl ?_
      obtain ⟨c9, H⟩ := ite_n H
      by_cases c10 : a2 = 0
      ·replace H := ite_t c10 H
       refine W.r (X.indexArK 0 c10 underlying114 inf113 rfl rfl c9.1 c9.2) rfl (W.as rfl (W.as rfl (W.nx (V.ret ?_))))
       refine At.ret2 rfl rfl rfl ⟨_, rfl, ?_⟩
       refine W.mv rfl (W.r (X.extract rfl rfl) rfl (W.r (X.extract rfl rfl) rfl (W.as rfl (W.as rfl (W.nx (V.seq (V.region (W.mv rfl (W.mv rfl (W.want 23 rfl rfl (W.mv rfl (W.want 23 rfl rfl (W.nc rfl (W.want 23 rfl rfl (W.fa fo113_0 rfl (W.want 23 rfl rfl (W.ld 0 HS underlying111 rfl rfl rfl rfl (W.want 23 rfl rfl (W.mv rfl (W.want 23 rfl rfl (W.mv rfl (W.want 23 rfl rfl (W.mv rfl (W.want 23 rfl rfl ?_))))))))))))))))))))))))
       obtain ⟨t11, A12, H⟩ := bind_s H
       replace HS := HS.pm [3, 0, 1, 2, 4, 5, 6, 7, 8, 9, 10, 11, 12, 13, 14, 15, 16, 17, 18, 19, 20, 21, 22, 23]
       refine W.e (Y.cl func96 (pipe_Pipe_Fault.calls A12 HS.j1)) rfl ?_
       rintro _ w ⟨rfl, HS⟩
       replace HS := HS.o1
       refine W.r (X.pickT rfl rfl) rfl (W.as rfl (W.nx (V.ret ?_)))
       replace HS := HS.pm [1, 2, 3, 0, 4, 5, 6, 7, 8, 9, 10, 11, 12, 13, 14, 15, 16, 17, 18, 19, 20, 21, 22, 23]
       replace HS := world_World.close tv HS
       cases H
       exact At.ret1 rfl rfl ⟨_, rfl, rfl, HS⟩
      ·replace H := ite_f c10 H
       have hk13 : a2 = 1 := by omega
       refine W.r (X.indexArK 1 hk13 underlying114 inf113 rfl rfl c9.1 c9.2) rfl (W.as rfl (W.as rfl (W.nx (V.ret ?_))))
       refine At.ret2 rfl rfl rfl ⟨_, rfl, ?_⟩
       refine W.mv rfl (W.r (X.extract rfl rfl) rfl (W.r (X.extract rfl rfl) rfl (W.as rfl (W.as rfl (W.nx (V.seq (V.region (W.mv rfl (W.mv rfl (W.want 23 rfl rfl (W.mv rfl (W.want 23 rfl rfl (W.nc rfl (W.want 23 rfl rfl (W.fa fo113_0 rfl (W.want 23 rfl rfl (W.ld 0 HS underlying111 rfl rfl rfl rfl (W.want 23 rfl rfl (W.mv rfl (W.want 23 rfl rfl (W.mv rfl (W.want 23 rfl rfl (W.mv rfl (W.want 23 rfl rfl ?_))))))))))))))))))))))))
       obtain ⟨t14, A15, H⟩ := bind_s H
       replace HS := HS.pm [8, 0, 1, 2, 3, 4, 5, 6, 7, 9, 10, 11, 12, 13, 14, 15, 16, 17, 18, 19, 20, 21, 22, 23]
       refine W.e (Y.cl func96 (pipe_Pipe_Fault.calls A15 HS.j1)) rfl ?_
       rintro _ w ⟨rfl, HS⟩
       replace HS := HS.o1
       refine W.r (X.pickT rfl rfl) rfl (W.as rfl (W.nx (V.ret ?_)))
       replace HS := HS.pm [1, 2, 3, 4, 5, 6, 7, 8, 0, 9, 10, 11, 12, 13, 14, 15, 16, 17, 18, 19, 20, 21, 22, 23]
       replace HS := world_World.close tv HS
       cases H
       exact At.ret1 rfl rfl ⟨_, rfl, rfl, HS⟩
     ·replace H := ite_f c8 H
      have hk16 : a1 = 1 := by omega
      refine W.r (X.indexArK 1 hk16 underlying115 inf114 rfl rfl c7.1 c7.2) rfl ?_
      obtain ⟨c17, H⟩ := ite_n H
      by_cases c18 : a2 = 0
      ·replace H := ite_t c18 H
       refine W.r (X.indexArK 0 c18 underlying114 inf113 rfl rfl c17.1 c17.2) rfl (W.as rfl (W.as rfl (W.nx (V.ret ?_))))
       refine At.ret2 rfl rfl rfl ⟨_, rfl, ?_⟩
       refine W.mv rfl (W.r (X.extract rfl rfl) rfl (W.r (X.extract rfl rfl) rfl (W.as rfl (W.as rfl (W.nx (V.seq (V.region (W.mv rfl (W.mv rfl (W.want 23 rfl rfl (W.mv rfl (W.want 23 rfl rfl (W.nc rfl (W.want 23 rfl rfl (W.fa fo113_0 rfl (W.want 23 rfl rfl (W.ld 0 HS underlying111 rfl rfl rfl rfl (W.want 23 rfl rfl (W.mv rfl (W.want 23 rfl rfl (W.mv rfl (W.want 23 rfl rfl (W.mv rfl (W.want 23 rfl rfl ?_))))))))))))))))))))))))
       obtain ⟨t19, A20, H⟩ := bind_s H
       replace HS := HS.pm [13, 0, 1, 2, 3, 4, 5, 6, 7, 8, 9, 10, 11, 12, 14, 15, 16, 17, 18, 19, 20, 21, 22, 23]
       refine W.e (Y.cl func96 (pipe_Pipe_Fault.calls A20 HS.j1)) rfl ?_
       rintro _ w ⟨rfl, HS⟩
       replace HS := HS.o1
       refine W.r (X.pickT rfl rfl) rfl (W.as rfl (W.nx (V.ret ?_)))
       replace HS := HS.pm [1, 2, 3, 4, 5, 6, 7, 8, 9, 10, 11, 12, 13, 0, 14, 15, 16, 17, 18, 19, 20, 21, 22, 23]
       replace HS := world_World.close tv HS
       cases H
       exact At.ret1 rfl rfl ⟨_, rfl, rfl, HS⟩
      ·replace H := ite_f c18 H
       have hk21 : a2 = 1 := by omega
       refine W.r (X.indexArK 1 hk21 underlying114 inf113 rfl rfl c17.1 c17.2) rfl (W.as rfl (W.as rfl (W.nx (V.ret ?_))))
       refine At.ret2 rfl rfl rfl ⟨_, rfl, ?_⟩
       refine W.mv rfl (W.r (X.extract rfl rfl) rfl (W.r (X.extract rfl rfl) rfl (W.as rfl (W.as rfl (W.nx (V.seq (V.region (W.mv rfl (W.mv rfl (W.want 23 rfl rfl (W.mv rfl (W.want 23 rfl rfl (W.nc rfl (W.want 23 rfl rfl (W.fa fo113_0 rfl (W.want 23 rfl rfl (W.ld 0 HS underlying111 rfl rfl rfl rfl (W.want 23 rfl rfl (W.mv rfl (W.want 23 rfl rfl (W.mv rfl (W.want 23 rfl rfl (W.mv rfl (W.want 23 rfl rfl ?_))))))))))))))))))))))))
       obtain ⟨t22, A23, H⟩ := bind_s H
       replace HS := HS.pm [18, 0, 1, 2, 3, 4, 5, 6, 7, 8, 9, 10, 11, 12, 13, 14, 15, 16, 17, 19, 20, 21, 22, 23]
       refine W.e (Y.cl func96 (pipe_Pipe_Fault.calls A23 HS.j1)) rfl ?_
       rintro _ w ⟨rfl, HS⟩
       replace HS := HS.o1
       refine W.r (X.pickT rfl rfl) rfl (W.as rfl (W.nx (V.ret ?_)))
       replace HS := HS.pm [1, 2, 3, 4, 5, 6, 7, 8, 9, 10, 11, 12, 13, 14, 15, 16, 17, 18, 0, 19, 20, 21, 22, 23]
       replace HS := world_World.close tv HS
       cases H
       exact At.ret1 rfl rfl ⟨_, rfl, rfl, HS⟩
    ·replace H := ite_f c4 H
     refine V.condT (sb (n_f (dF c4))) (V.seq (V.region (W.as rfl (W.as rfl (W.nx (V.ret (At.thenRet ?_)))))))
     refine At.ret2 rfl rfl rfl ⟨_, rfl, ?_⟩
     refine W.mv rfl (W.r (X.extract rfl rfl) rfl (W.r (X.extract rfl rfl) rfl (W.as rfl (W.as rfl (W.nx (V.seq (V.region (W.mv rfl (W.mv rfl (W.pass 23 rfl rfl rfl rfl (W.pass 23 rfl rfl rfl rfl (W.pass 23 rfl rfl rfl rfl (W.pass 23 rfl rfl rfl rfl (W.pass 23 rfl rfl rfl rfl (W.pass 23 rfl rfl rfl rfl (W.pass 23 rfl rfl rfl rfl (W.pass 23 rfl rfl rfl rfl (W.r (X.pickF rfl rfl) rfl (W.as rfl (W.nx (V.ret ?_)))))))))))))))))))))
     cases H
     exact At.ret1 rfl rfl ⟨_, rfl, rfl, HS⟩
   ·replace H := ite_f c3 H
    refine W.pass 5 rfl (sb (dF c3)) rfl rfl (W.pass 5 rfl (sb (dF c3)) rfl rfl (W.r (X.pickF (sb (dF c3)) rfl) rfl (W.as rfl (W.nx (V.ret ?_)))))
    refine At.ret1 rfl rfl ⟨_, rfl, ?_⟩
    refine W.want 11 rfl (sb (n_t (dT c2))) (W.r (X.not rfl) rfl (W.r (X.pickF (sb (n_t (dT c2))) rfl) rfl (W.nx (V.condT rfl (V.seq (V.region (W.as rfl (W.as rfl (W.nx (V.ret (At.thenRet ?_)))))))))))
    refine At.ret2 rfl rfl rfl ⟨_, rfl, ?_⟩
    refine W.mv rfl (W.r (X.extract rfl rfl) rfl (W.r (X.extract rfl rfl) rfl (W.as rfl (W.as rfl (W.nx (V.seq (V.region (W.mv rfl (W.mv rfl (W.pass 23 rfl rfl rfl rfl (W.pass 23 rfl rfl rfl rfl (W.pass 23 rfl rfl rfl rfl (W.pass 23 rfl rfl rfl rfl (W.pass 23 rfl rfl rfl rfl (W.pass 23 rfl rfl rfl rfl (W.pass 23 rfl rfl rfl rfl (W.pass 23 rfl rfl rfl rfl (W.r (X.pickF rfl rfl) rfl (W.as rfl (W.nx (V.ret ?_)))))))))))))))))))))
    cases H
    exact At.ret1 rfl rfl ⟨_, rfl, rfl, HS⟩
  ·replace H := ite_f c2 H
   refine W.pass 11 rfl (sb (n_f (dF c2))) rfl rfl (W.pass 11 rfl (sb (n_f (dF c2))) rfl rfl (W.pass 11 rfl (sb (n_f (dF c2))) rfl rfl (W.r (X.pickT (sb (n_f (dF c2))) rfl) rfl (W.nx (V.condT rfl (V.seq (V.region (W.as rfl (W.as rfl (W.nx (V.ret (At.thenRet ?_))))))))))))
   refine At.ret2 rfl rfl rfl ⟨_, rfl, ?_⟩
   refine W.mv rfl (W.r (X.extract rfl rfl) rfl (W.r (X.extract rfl rfl) rfl (W.as rfl (W.as rfl (W.nx (V.seq (V.region (W.mv rfl (W.mv rfl (W.pass 23 rfl rfl rfl rfl (W.pass 23 rfl rfl rfl rfl (W.pass 23 rfl rfl rfl rfl (W.pass 23 rfl rfl rfl rfl (W.pass 23 rfl rfl rfl rfl (W.pass 23 rfl rfl rfl rfl (W.pass 23 rfl rfl rfl rfl (W.pass 23 rfl rfl rfl rfl (W.r (X.pickF rfl rfl) rfl (W.as rfl (W.nx (V.ret ?_)))))))))))))))))))))
   cases H
   exact At.ret1 rfl rfl ⟨_, rfl, rfl, HS⟩
 ·replace H := ite_f c1 H
  refine W.pass 5 rfl (sb (dF c1)) rfl rfl (W.pass 5 rfl (sb (dF c1)) rfl rfl (W.r (X.pickF (sb (dF c1)) rfl) rfl (W.as rfl (W.nx (V.ret ?_)))))
  refine At.ret1 rfl rfl ⟨_, rfl, ?_⟩
  refine W.r (X.not rfl) rfl (W.mv rfl (W.pass 11 rfl rfl rfl rfl (W.pass 11 rfl rfl rfl rfl (W.pass 11 rfl rfl rfl rfl (W.r (X.pickT rfl rfl) rfl (W.nx (V.condT rfl (V.seq (V.region (W.as rfl (W.as rfl (W.nx (V.ret (At.thenRet ?_))))))))))))))
  refine At.ret2 rfl rfl rfl ⟨_, rfl, ?_⟩
  refine W.mv rfl (W.r (X.extract rfl rfl) rfl (W.r (X.extract rfl rfl) rfl (W.as rfl (W.as rfl (W.nx (V.seq (V.region (W.mv rfl (W.mv rfl (W.pass 23 rfl rfl rfl rfl (W.pass 23 rfl rfl rfl rfl (W.pass 23 rfl rfl rfl rfl (W.pass 23 rfl rfl rfl rfl (W.pass 23 rfl rfl rfl rfl (W.pass 23 rfl rfl rfl rfl (W.pass 23 rfl rfl rfl rfl (W.pass 23 rfl rfl rfl rfl (W.r (X.pickF rfl rfl) rfl (W.as rfl (W.nx (V.ret ?_)))))))))))))))))))))
  cases H
  exact At.ret1 rfl rfl ⟨_, rfl, rfl, HS⟩
def arq_Arq_Connect.f (k : Nat) (a0 : arq_Arq) : Option (Int × arq_Arq) := (if a0.state = 0 then ((serial_Next.f a0.tag 65536).bind fun t5 => ((arq_Arq_tell.f k ({ a0 with state := 1, tag := t5, tries := 0 } : arq_Arq) ({ Kind := 3, Ns := 0, Nr := 0, Poll := true } : api_Ctl)).bind fun t7 => ((arq_Arq_start.f t7).bind fun t9 => some (0, t9)))) else some (8, a0))
theorem arq_Arq_Connect.calls {k : Nat} {a0 : arq_Arq} {R : As} {w0 w : World} {b0 : Nat} {r : Int × arq_Arq} (H : arq_Arq_Connect.f k a0 = some r) (HS : Sep.St [arq_Arq.at b0 a0, R] w0 w)  : Calls Tryz.prog 145 #[pt b0] w (Ret fun u w => u = vi r.1 ∧ Sep.St [arq_Arq.at b0 r.2, R] w0 w) := by
 unfold arq_Arq_Connect.f at H
 refine calls_enter func145 rfl rfl ?_
 have H : _ = some r := H
 refine V.seq (V.region (W.as rfl (W.nx (V.seq (V.seq (V.region (W.mv rfl (W.nc rfl ?_))))))))
 obtain ⟨b8_2, b9_2, b10_2, a11_2, c11_2, d11_2, a12_2, c12_2, hi3, HS⟩ := arq_Arq.open HS
 refine W.fa fo156_4 rfl (W.ld 0 HS underlying3 rfl rfl rfl rfl (W.r (X.cmp (!(decide (a0.state = 0))) rfl rfl rfl rfl) rfl (W.nx ?_)))
 by_cases c4 : a0.state = 0
 ·replace H := ite_t c4 H
  refine V.condF (sb (n_t (dT c4))) (V.skip (At.next (V.seq (V.region (W.mv rfl (W.mv rfl (W.nc rfl (W.fa fo156_5 rfl (W.ld 0 HS underlying3 rfl rfl rfl rfl ?_)))))))))
  obtain ⟨t5, A6, H⟩ := bind_s H
  refine W.e (Y.cl func193 (serial_Next.calls A6 HS.j0)) rfl ?_
  rintro _ w ⟨rfl, HS⟩
  replace HS := HS.o0
  refine W.nc rfl (W.fa fo156_5 rfl (W.st 0 5 HS inf3 rfl rfl rfl rfl rfl rfl fun w HS => ?_))
  refine W.nx (V.seq (V.region (W.mv rfl (W.mv rfl (W.nc rfl (W.fa fo156_4 rfl (W.st 0 4 HS inf3 rfl rfl rfl rfl rfl rfl fun w HS => ?_)))))))
  refine W.nc rfl (W.fa fo156_6 rfl (W.st 0 6 HS inf3 rfl rfl rfl rfl rfl rfl fun w HS => ?_))
  refine W.nx (V.seq (V.region (W.mv rfl (W.r (X.bd (Value.agg #[vi (3), vi (0), vi (0), vb true]) rfl (fun _ => by kernel_rfl)) rfl ?_))))
  replace HS := arq_Arq.close tv HS
  obtain ⟨t7, A8, H⟩ := bind_s H
  refine W.e (Y.cl func194 (arq_Arq_tell.calls A8 HS.j1)) rfl ?_
  rintro _ w ⟨rfl, HS⟩
  replace HS := HS.o1
  refine W.nx (V.seq (V.region (W.mv rfl ?_)))
  obtain ⟨t9, A10, H⟩ := bind_s H
  refine W.e (Y.cl func195 (arq_Arq_start.calls A10 HS.j1)) rfl ?_
  rintro _ w ⟨rfl, HS⟩
  replace HS := HS.o1
  refine W.nx (V.seq (V.region (W.as rfl (W.nx (V.ret ?_)))))
  cases H
  exact At.ret1 rfl rfl ⟨_, rfl, rfl, HS⟩
 ·replace H := ite_f c4 H
  refine V.condT (sb (n_f (dF c4))) (V.seq (V.region (W.as rfl (W.nx (V.ret (At.thenRet ?_))))))
  replace HS := arq_Arq.close tv HS
  cases H
  exact At.ret1 rfl rfl ⟨_, rfl, rfl, HS⟩
def station_Station_Connect.f (k : Nat) (a0 : station_Station) : Option (Int × station_Station) := ((arq_Arq_Connect.f k a0.arq).bind fun t3 => some (t3.1, ({ a0 with arq := t3.2 } : station_Station)))
theorem station_Station_Connect.calls {k : Nat} {a0 : station_Station} {R : As} {w0 w : World} {b0 : Nat} {r : Int × station_Station} (H : station_Station_Connect.f k a0 = some r) (HS : Sep.St [station_Station.at b0 a0, R] w0 w)  : Calls Tryz.prog 97 #[pt b0] w (Ret fun u w => u = vi r.1 ∧ Sep.St [station_Station.at b0 r.2, R] w0 w) := by
 unfold station_Station_Connect.f at H
 refine calls_enter func97 rfl rfl ?_
 have H : _ = some r := H
 refine V.seq (V.region (W.as rfl (W.nx (V.seq (V.region (W.mv rfl (W.nc rfl ?_)))))))
 obtain ⟨b16_1, b17_1, b18_1, b22_1, b23_1, b24_1, b32_1, b33_1, b34_1, hi2, HS⟩ := station_Station.open HS
 refine W.fa fo128_1 rfl (W.ld 0 HS underlying118 rfl rfl rfl rfl ?_)
 obtain ⟨t3, A4, H⟩ := bind_s H
 replace HS := HS.pm [1, 0, 2, 3, 4, 5, 6, 7, 8, 9, 10]
 refine W.e (Y.cl func145 (arq_Arq_Connect.calls A4 HS.j1)) rfl ?_
 rintro _ w ⟨rfl, HS⟩
 replace HS := HS.o1
 refine W.as rfl (W.nx (V.ret ?_))
 replace HS := HS.pm [1, 0, 2, 3, 4, 5, 6, 7, 8, 9, 10]
 replace HS := station_Station.close tv HS
 cases H
 exact At.ret1 rfl rfl ⟨_, rfl, rfl, HS⟩
mutual
def arq_Arq_Close.j0 (k : Nat) (a0 : arq_Arq) (x2 : Bool) : Option (Int × arq_Arq) := (if x2 = true then some (7, a0) else ((arq_Arq_fresh.f a0 3).bind fun t5 => ((arq_Arq_tell.f k t5 ({ Kind := 5, Ns := 0, Nr := 0, Poll := true } : api_Ctl)).bind fun t7 => ((arq_Arq_start.f t7).bind fun t9 => some (0, t9)))))
end
def arq_Arq_Close.f (k : Nat) (a0 : arq_Arq) : Option (Int × arq_Arq) := (if a0.state = 0 then (arq_Arq_Close.j0 k a0 true) else (arq_Arq_Close.j0 k a0 (decide (a0.state = 3))))
theorem arq_Arq_Close.calls {k : Nat} {a0 : arq_Arq} {R : As} {w0 w : World} {b0 : Nat} {r : Int × arq_Arq} (H : arq_Arq_Close.f k a0 = some r) (HS : Sep.St [arq_Arq.at b0 a0, R] w0 w)  : Calls Tryz.prog 146 #[pt b0] w (Ret fun u w => u = vi r.1 ∧ Sep.St [arq_Arq.at b0 r.2, R] w0 w) := by
 unfold arq_Arq_Close.f at H
 refine calls_enter func146 rfl rfl ?_
 have H : _ = some r := H
 refine V.seq (V.region (W.as rfl (W.nx (V.seq (V.meet (σ := Bool) (fun st w => match st with | x2 => Sep.St [arq_Arq.at b0 a0, R] w0 w ∧ ∃ kf3, kf3 ≤ k ∧ arq_Arq_Close.j0 kf3 a0 x2 = some r) (fun st => match st with | x2 => [(0, pt b0), (14, vb x2)]) ?_ ?_)))))
 ·refine V.region (W.mv rfl (W.nc rfl ?_))
  obtain ⟨b8_11, b9_11, b10_11, a11_11, c11_11, d11_11, a12_11, c12_11, hi12, HS⟩ := arq_Arq.open HS
  refine W.fa fo156_4 rfl (W.ld 0 HS underlying3 rfl rfl rfl rfl (W.r (X.cmp (decide (a0.state = 0)) rfl rfl rfl rfl) rfl (W.mv rfl ?_)))
  by_cases c13 : a0.state = 0
  ·replace H := ite_t c13 H
   refine W.pass 8 rfl (sb (dT c13)) rfl rfl (W.pass 8 rfl (sb (dT c13)) rfl rfl (W.pass 8 rfl (sb (dT c13)) rfl rfl (W.pass 8 rfl (sb (dT c13)) rfl rfl (W.pass 8 rfl (sb (dT c13)) rfl rfl (W.r (X.pickT (sb (dT c13)) rfl) rfl (W.nil ?_))))))
   replace HS := arq_Arq.close tv HS
   exact At.meet true ⟨rfl, rfl, tv⟩ ⟨HS, k, by omega, H⟩
  ·replace H := ite_f c13 H
   refine W.want 8 rfl (sb (dF c13)) (W.mv rfl (W.want 8 rfl (sb (dF c13)) (W.nc rfl (W.want 8 rfl (sb (dF c13)) (W.fa fo156_4 rfl (W.want 8 rfl (sb (dF c13)) (W.ld 0 HS underlying3 rfl rfl rfl rfl (W.want 8 rfl (sb (dF c13)) (W.r (X.cmp (decide (a0.state = 3)) rfl rfl rfl rfl) rfl (W.r (X.pickF (sb (dF c13)) rfl) rfl (W.nil ?_)))))))))))
   replace HS := arq_Arq.close tv HS
   exact At.meet (decide (a0.state = 3)) ⟨rfl, rfl, tv⟩ ⟨HS, k, by omega, H⟩
 ·rintro x2 w ⟨HS, kf3, hkkf3, H⟩
  unfold arq_Arq_Close.j0 at H
  by_cases c4 : x2 = true
  ·replace H := ite_t c4 H
   refine V.condT (sb c4) (V.seq (V.region (W.as rfl (W.nx (V.ret (At.thenRet ?_))))))
   cases H
   exact At.ret1 rfl rfl ⟨_, rfl, rfl, HS⟩
  ·replace H := ite_f c4 H
   refine V.condF (sb (b_f c4)) (V.skip (At.next (V.seq (V.region (W.mv rfl ?_)))))
   obtain ⟨t5, A6, H⟩ := bind_s H
   refine W.e (Y.cl func196 (arq_Arq_fresh.calls A6 HS.j1)) rfl ?_
   rintro _ w ⟨rfl, HS⟩
   replace HS := HS.o1
   refine W.nx (V.seq (V.region (W.mv rfl (W.r (X.bd (Value.agg #[vi (5), vi (0), vi (0), vb true]) rfl (fun _ => by kernel_rfl)) rfl ?_))))
   obtain ⟨t7, A8, H⟩ := bind_s H
   refine W.e (Y.cl func194 (arq_Arq_tell.calls A8 HS.j1)) rfl ?_
   rintro _ w ⟨rfl, HS⟩
   replace HS := HS.o1
   refine W.nx (V.seq (V.region (W.mv rfl ?_)))
   obtain ⟨t9, A10, H⟩ := bind_s H
   refine W.e (Y.cl func195 (arq_Arq_start.calls A10 HS.j1)) rfl ?_
   rintro _ w ⟨rfl, HS⟩
   replace HS := HS.o1
   refine W.nx (V.seq (V.region (W.as rfl (W.nx (V.ret ?_)))))
   cases H
   exact At.ret1 rfl rfl ⟨_, rfl, rfl, HS⟩
def station_Station_Close.f (k : Nat) (a0 : station_Station) : Option (Int × station_Station) := ((arq_Arq_Close.f k a0.arq).bind fun t3 => some (t3.1, ({ a0 with arq := t3.2 } : station_Station)))
theorem station_Station_Close.calls {k : Nat} {a0 : station_Station} {R : As} {w0 w : World} {b0 : Nat} {r : Int × station_Station} (H : station_Station_Close.f k a0 = some r) (HS : Sep.St [station_Station.at b0 a0, R] w0 w)  : Calls Tryz.prog 98 #[pt b0] w (Ret fun u w => u = vi r.1 ∧ Sep.St [station_Station.at b0 r.2, R] w0 w) := by
 unfold station_Station_Close.f at H
 refine calls_enter func98 rfl rfl ?_
 have H : _ = some r := H
 refine V.seq (V.region (W.as rfl (W.nx (V.seq (V.region (W.mv rfl (W.nc rfl ?_)))))))
 obtain ⟨b16_1, b17_1, b18_1, b22_1, b23_1, b24_1, b32_1, b33_1, b34_1, hi2, HS⟩ := station_Station.open HS
 refine W.fa fo128_1 rfl (W.ld 0 HS underlying118 rfl rfl rfl rfl ?_)
 obtain ⟨t3, A4, H⟩ := bind_s H
 replace HS := HS.pm [1, 0, 2, 3, 4, 5, 6, 7, 8, 9, 10]
 refine W.e (Y.cl func146 (arq_Arq_Close.calls A4 HS.j1)) rfl ?_
 rintro _ w ⟨rfl, HS⟩
 replace HS := HS.o1
 refine W.as rfl (W.nx (V.ret ?_))
 replace HS := HS.pm [1, 0, 2, 3, 4, 5, 6, 7, 8, 9, 10]
 replace HS := station_Station.close tv HS
 cases H
 exact At.ret1 rfl rfl ⟨_, rfl, rfl, HS⟩
def backlog_Log_Add.f (a0 : backlog_Log) (a1 : List Int) : Option (Int × backlog_Log) := (if (w64 ((a0.l.length : Int) - a0.out)) ≥ a0.queue then some (6, a0) else ((slices_Clone_Sbytebyte.f a1).bind fun t5 => (if (a0.l.length : Int) + (([t5] : List (List Int))).length ≤ 1099511627776 then some (0, ({ a0 with l := a0.l ++ ([t5] : List (List Int)) } : backlog_Log)) else none)))
theorem backlog_Log_Add.calls {a0 : backlog_Log} {a1 : List Int} {R : As} {w0 w : World} {b0 : Nat} {sa1 : Option Addr} {sc1 : Nat} {r : Int × backlog_Log} (H : backlog_Log_Add.f a0 a1 = some r) (HS : Sep.St [backlog_Log.at b0 a0, R] w0 w) (hr1 : rdC R 1 (.slice sa1 a1.length sc1) a1.length (a1.map (Value.int .u8))) : Calls Tryz.prog 197 #[pt b0, vs sa1 a1.length sc1] w (Ret fun u w => u = vi r.1 ∧ Sep.St [backlog_Log.at b0 r.2, R] w0 w) := by
 unfold backlog_Log_Add.f at H
 refine calls_enter func197 rfl rfl ?_
 have H : _ = some r := H
 refine V.seq (V.region (W.as rfl (W.nx (V.seq (V.seq ?_)))))
 obtain ⟨a5_2, c5_2, d5_2, hi3, HS⟩ := backlog_Log.open HS
 refine V.dr [] [] [(5, pt b0), (6, pt b0), (7, po b0 (0 + 5)), (8, vs a5_2 a0.l.length c5_2), (9, vi (a0.l.length : Int)), (10, pt b0), (11, pt b0), (12, po b0 (0 + 4)), (13, vi a0.out), (14, vi (w64 ((a0.l.length : Int) - a0.out))), (15, pt b0), (16, pt b0), (17, po b0 (0 + 2)), (18, vi a0.queue), (19, vb (decide ((w64 ((a0.l.length : Int) - a0.out)) ≥ a0.queue)))] mo HS ?_
 refine T.fn [(0, _), (1, _), (19, _)] ⟨rfl, rfl, rfl, tv⟩ ⟨.mv 0, .nc 5, .fa 6 fo245_5, .ld 7 0 underlying53, .n1 8 rfl rfl (fun w HS => X.lenSl underlying53 rfl), .mv 0, .nc 10, .fa 11 fo245_4, .ld 12 0 underlying3, .n2 9 13 rfl rfl rfl (fun w HS => X.sub rfl rfl), .mv 0, .nc 15, .fa 16 fo245_2, .ld 17 0 underlying3, .n2 14 18 rfl rfl rfl (fun w HS => X.cmp (decide ((w64 ((a0.l.length : Int) - a0.out)) ≥ a0.queue)) rfl rfl rfl rfl), tv⟩ (fun w HS => ?_)
 refine At.next ?_
 by_cases c4 : (w64 ((a0.l.length : Int) - a0.out)) ≥ a0.queue
 ·replace H := ite_t c4 H
  refine V.condT (sb (dT c4)) (V.seq (V.region (W.as rfl (W.nx (V.ret (At.thenRet ?_))))))
  replace HS := backlog_Log.close tv HS
  cases H
  exact At.ret1 rfl rfl ⟨_, rfl, rfl, HS⟩
 ·replace H := ite_f c4 H
  refine V.condF (sb (dF c4)) (V.skip (At.next (V.seq (V.dr [6, 7, 8, 11] [9, 10] [(20, pt b0), (21, pt b0), (22, pt b0), (23, po b0 (0 + 5)), (24, vs a5_2 a0.l.length c5_2), (25, vs sa1 a1.length sc1)] mo HS ?_))))
  refine T.ev [(25, _)] [9, 10] [5] ⟨rfl, tv⟩ ⟨.mv 0, .mv 0, .nc 21, .fa 22 fo245_5, .ld 23 0 underlying53, .mv 1, tv⟩ rfl (fun w HS => ?_)
  obtain ⟨t5, A6, H⟩ := bind_s H
  refine ⟨_, Y.cl func189 (slices_Clone_Sbytebyte.calls A6 HS.j0 (rdC.part 3 hr1 rfl)), ?_⟩
  rintro _ w ⟨at5_0, ct5_0, rfl, HS⟩
  replace HS := HS.o1
  refine T.nw HS ?_
  refine T.ev [(26, _)] [9, 10] [] ⟨rfl, tv⟩ ⟨.mv 0, .mv 0, .nc 21, .fa 22 fo245_5, .ld 23 1 underlying53, tv⟩ rfl (fun w HS => ?_)
  replace HS := St.row_freeze HS
  refine ⟨_, Y.lc (e := 27) (sz := 1) [vs at5_0 t5.length ct5_0] HS rfl rfl (fun _ => by kernel_rfl), ?_⟩
  rintro _ w ⟨lb7, rfl, HS⟩
  replace HS := St.put (A := tie (El.sl (El.int .u8)) ([]) (([] : List (List Int)))) (fun _ => tie.nil) HS
  replace HS := HS.more 2 rfl (fun _ t => t) fsl.pers
  replace HS := St.put (A := tie (El.int .u8) (t5.map (Value.int .u8)) t5) (fun _ => int_tie) HS
  replace HS := St.swap HS
  replace HS := St.sl_close (E := (El.int .u8)) HS
  replace HS := HS.fr 1
  replace HS := HS.fr 1
  replace HS := St.tie_cons HS
  refine T.nw HS ?_
  refine T.ev [(24, _), (27, _)] [] [1, 2, 3, 4] ⟨rfl, rfl, tv⟩ ⟨.mv 0, .mv 0, .nc 21, .fa 22 fo245_5, .ld 23 3 underlying53, tv⟩ rfl (fun w HS => ?_)
  obtain ⟨c10, H⟩ := ite_n H
  refine ⟨_, Y.app (xs := a0.l) (ys := ([t5] : List (List Int))) 4 underlying53 ap27 rfl (by decide) HS rfl rfl rfl (rdC.at 1 row_rd HS rfl) (St.tie_one 0 HS rfl) (by omega) (by omega), ?_⟩
  rintro _ w ⟨ra11, rc12, rfl, HS⟩
  replace HS := HS.fr 5
  replace HS := St.tie_app 1 HS rfl
  refine T.nm [(28, vs ra11 (a0.l ++ ([t5] : List (List Int))).length rc12), (29, pt b0), (30, po b0 (0 + 5))] HS ⟨.inl ⟨rfl, rfl⟩, ⟨.inr ⟨by decide, rfl⟩, ⟨.inr ⟨by decide, rfl⟩, tv⟩⟩⟩ ?_
  refine T.ev [(28, _), (30, _)] [] [0, 9, 10] ⟨rfl, rfl, tv⟩ ⟨.mv 0, .nc 20, .fa 29 fo245_5, tv⟩ rfl (fun w HS => ?_)
  refine ⟨_, Y.sto 4 5 HS inf53 rfl rfl rfl rfl rfl rfl, ?_⟩
  rintro _ w HS
  refine T.nn HS ?_
  refine T.fn [] tv tv (fun w HS => ?_)
  refine At.next (V.seq (V.region (W.as rfl (W.nx (V.ret ?_)))))
  replace HS := HS.pm [4, 5, 0, 1, 2, 3, 6]
  replace HS := backlog_Log.close tv HS
  replace HS := HS.pk [0, 4] [1, 2, 3]
  cases H
  exact At.ret1 rfl rfl ⟨_, rfl, rfl, HS⟩
def arq_Arq_Send.f (k : Nat) (a0 : arq_Arq) (a1 : List Int) : Option (Int × arq_Arq) := (if (a1.length : Int) > a0.size then some (5, a0) else (if a0.state = 2 then ((backlog_Log_Add.f a0.log a1).bind fun t12 => (if t12.1 = 0 then ((arq_Arq_pump.f k ({ a0 with log := t12.2, sent := w64 (a0.sent + 1) } : arq_Arq)).bind fun t15 => some (0, t15)) else some (t12.1, ({ a0 with log := t12.2 } : arq_Arq)))) else some (7, a0)))
theorem arq_Arq_Send.calls {k : Nat} {a0 : arq_Arq} {a1 : List Int} {R : As} {w0 w : World} {b0 : Nat} {sa1 : Option Addr} {sc1 : Nat} {r : Int × arq_Arq} (H : arq_Arq_Send.f k a0 a1 = some r) (HS : Sep.St [arq_Arq.at b0 a0, R] w0 w) (hr1 : rdC R 1 (.slice sa1 a1.length sc1) a1.length (a1.map (Value.int .u8))) : Calls Tryz.prog 147 #[pt b0, vs sa1 a1.length sc1] w (Ret fun u w => u = vi r.1 ∧ Sep.St [arq_Arq.at b0 r.2, R] w0 w) := by
 unfold arq_Arq_Send.f at H
 refine calls_enter func147 rfl rfl ?_
 have H : _ = some r := H
 refine V.seq (V.region (W.as rfl (W.nx (V.seq (V.block (V.seq (V.region (W.mv rfl (W.r (X.lenSl underlying27 rfl) rfl (W.mv rfl (W.nc rfl ?_)))))))))))
 obtain ⟨b8_2, b9_2, b10_2, a11_2, c11_2, d11_2, a12_2, c12_2, hi3, HS⟩ := arq_Arq.open HS
 refine W.fa fo156_3 rfl (W.ld 0 HS underlying3 rfl rfl rfl rfl (W.r (X.cmp (decide ((a1.length : Int) > a0.size)) rfl rfl rfl rfl) rfl (W.as rfl (W.nx ?_))))
 by_cases c4 : (a1.length : Int) > a0.size
 ·replace H := ite_t c4 H
  refine V.condT (sb (dT c4)) (V.seq (V.region (W.as rfl (W.nx (V.ret (At.blockRet (At.thenRet ?_)))))))
  replace HS := arq_Arq.close tv HS
  cases H
  exact At.ret1 rfl rfl ⟨_, rfl, rfl, HS⟩
 ·replace H := ite_f c4 H
  refine V.condF (sb (dF c4)) (V.seq (V.region (W.mv rfl (W.nc rfl (W.fa fo156_4 rfl (W.ld 0 HS underlying3 rfl rfl rfl rfl (W.r (X.cmp (!(decide (a0.state = 2))) rfl rfl rfl rfl) rfl (W.as rfl (W.nx ?_)))))))))
  by_cases c5 : a0.state = 2
  ·replace H := ite_t c5 H
   refine V.condF (sb (n_t (dT c5))) (V.skip (At.blockEnd (At.next (V.seq (V.seq (V.region (W.mv rfl (W.nc rfl (W.fa fo156_8 rfl (W.ld 0 HS underlying152 rfl rfl rfl rfl (W.mv rfl ?_)))))))))))
   obtain ⟨t12, A13, H⟩ := bind_s H
   replace HS := HS.pm [1, 0, 2, 3, 4, 5, 6, 7]
   refine W.e (Y.cl func197 (backlog_Log_Add.calls A13 HS.j1 (rdC.part 6 hr1 rfl))) rfl ?_
   rintro _ w ⟨rfl, HS⟩
   replace HS := HS.o1
   refine W.as rfl (W.nx (V.seq (V.region (W.mv rfl (W.r (X.cmp (!(decide (t12.1 = 0))) rfl rfl rfl rfl) rfl (W.nx ?_))))))
   by_cases c14 : t12.1 = 0
   ·replace H := ite_t c14 H
    refine V.condF (sb (n_t (dT c14))) (V.skip (At.next (V.seq (V.region (W.mv rfl (W.nc rfl (W.fa fo156_13 rfl (W.ld 1 HS underlying3 rfl rfl rfl rfl (W.r (X.add rfl rfl) rfl (W.nc rfl (W.fa fo156_13 rfl (W.st 1 13 HS inf3 rfl rfl rfl rfl rfl rfl fun w HS => ?_))))))))))))
    refine W.nx (V.seq (V.region (W.mv rfl ?_)))
    replace HS := HS.pm [1, 0, 2, 3, 4, 5, 6, 7]
    replace HS := arq_Arq.close tv HS
    obtain ⟨t15, A16, H⟩ := bind_s H
    refine W.e (Y.cl func198 (arq_Arq_pump.calls A16 HS.j1)) rfl ?_
    rintro _ w ⟨rfl, HS⟩
    replace HS := HS.o1
    refine W.nx (V.seq (V.region (W.as rfl (W.nx (V.ret ?_)))))
    cases H
    exact At.ret1 rfl rfl ⟨_, rfl, rfl, HS⟩
   ·replace H := ite_f c14 H
    refine V.condT (sb (n_f (dF c14))) (V.seq (V.region (W.mv rfl (W.as rfl (W.nx (V.ret (At.thenRet ?_)))))))
    replace HS := HS.pm [1, 0, 2, 3, 4, 5, 6, 7]
    replace HS := arq_Arq.close tv HS
    cases H
    exact At.ret1 rfl rfl ⟨_, rfl, rfl, HS⟩
  ·replace H := ite_f c5 H
   refine V.condT (sb (n_f (dF c5))) (V.seq (V.region (W.as rfl (W.nx (V.ret (At.blockRet (At.thenRet ?_)))))))
   replace HS := arq_Arq.close tv HS
   cases H
   exact At.ret1 rfl rfl ⟨_, rfl, rfl, HS⟩
def station_Station_Send.f (k : Nat) (a0 : station_Station) (a1 : List Int) : Option (Int × station_Station) := ((arq_Arq_Send.f k a0.arq a1).bind fun t3 => some (t3.1, ({ a0 with arq := t3.2 } : station_Station)))
theorem station_Station_Send.calls {k : Nat} {a0 : station_Station} {a1 : List Int} {R : As} {w0 w : World} {b0 : Nat} {sa1 : Option Addr} {sc1 : Nat} {r : Int × station_Station} (H : station_Station_Send.f k a0 a1 = some r) (HS : Sep.St [station_Station.at b0 a0, R] w0 w) (hr1 : rdC R 1 (.slice sa1 a1.length sc1) a1.length (a1.map (Value.int .u8))) : Calls Tryz.prog 99 #[pt b0, vs sa1 a1.length sc1] w (Ret fun u w => u = vi r.1 ∧ Sep.St [station_Station.at b0 r.2, R] w0 w) := by
 unfold station_Station_Send.f at H
 refine calls_enter func99 rfl rfl ?_
 have H : _ = some r := H
 refine V.seq (V.region (W.as rfl (W.nx (V.seq (V.region (W.mv rfl (W.nc rfl ?_)))))))
 obtain ⟨b16_1, b17_1, b18_1, b22_1, b23_1, b24_1, b32_1, b33_1, b34_1, hi2, HS⟩ := station_Station.open HS
 refine W.fa fo128_1 rfl (W.ld 0 HS underlying118 rfl rfl rfl rfl (W.mv rfl ?_))
 obtain ⟨t3, A4, H⟩ := bind_s H
 replace HS := HS.pm [1, 0, 2, 3, 4, 5, 6, 7, 8, 9, 10]
 refine W.e (Y.cl func147 (arq_Arq_Send.calls A4 HS.j1 (rdC.part 9 hr1 rfl))) rfl ?_
 rintro _ w ⟨rfl, HS⟩
 replace HS := HS.o1
 refine W.as rfl (W.nx (V.ret ?_))
 replace HS := HS.pm [1, 0, 2, 3, 4, 5, 6, 7, 8, 9, 10]
 replace HS := station_Station.close tv HS
 cases H
 exact At.ret1 rfl rfl ⟨_, rfl, rfl, HS⟩
def reorder_Order_Take.f (a0 : reorder_Order) : Option (List Int × Bool × reorder_Order) := (if (a0.ready.length : Int) = 0 then some (([] : List Int), false, a0) else (if 0 ≤ (0 : Int) ∧ (0 : Int) < (a0.ready.length : Int) then (if 0 ≤ (1 : Int) ∧ (1 : Int) ≤ (a0.ready.length : Int) ∧ (a0.ready.length : Int) ≤ (a0.ready.length : Int) then some (a0.ready.getD (0 : Int).toNat [], true, ({ a0 with ready := cut a0.ready (1 : Int) (a0.ready.length : Int) } : reorder_Order)) else none) else none))
theorem reorder_Order_Take.calls {a0 : reorder_Order} {R : As} {w0 w : World} {b0 : Nat} {r : List Int × Bool × reorder_Order} (H : reorder_Order_Take.f a0 = some r) (HS : Sep.St [reorder_Order.at b0 a0, R] w0 w)  : Calls Tryz.prog 243 #[pt b0] w (Ret fun u w => ∃ (aq0 : Option Addr) (cq0 : Nat), u = Value.tuple #[vs aq0 r.1.length cq0, vb r.2.1] ∧ Sep.St [fsl 1 (.slice aq0 r.1.length cq0) r.1.length (r.1.map (Value.int .u8)), reorder_Order.at b0 r.2.2, R] w0 w) := by
 unfold reorder_Order_Take.f at H
 refine calls_enter func243 rfl rfl ?_
 have H : _ = some r := H
 refine V.seq (V.region (W.as rfl (W.as rfl (W.nx (V.seq (V.seq (V.region (W.mv rfl (W.nc rfl ?_)))))))))
 obtain ⟨b3_1, k3_1, a4_1, c4_1, d4_1, hi2, HS⟩ := reorder_Order.open HS
 refine W.fa fo248_4 rfl (W.ld 0 HS underlying53 rfl rfl rfl rfl (W.r (X.lenSl underlying53 rfl) rfl (W.r (X.cmp (decide ((a0.ready.length : Int) = 0)) rfl rfl rfl rfl) rfl (W.nx ?_))))
 by_cases c3 : (a0.ready.length : Int) = 0
 ·replace H := ite_t c3 H
  refine V.condT (sb (dT c3)) (V.seq (V.region (W.as rfl (W.as rfl (W.nx (V.ret (At.thenRet ?_)))))))
  replace HS := row_nilF (Value.int .u8) 5 1 HS
  replace HS := St.row_freeze HS
  replace HS := HS.pm [1, 2, 3, 4, 5, 0, 6]
  replace HS := reorder_Order.close tv HS
  replace HS := HS.pk [1, 0, 2] []
  cases H
  exact At.ret2 rfl rfl rfl ⟨_, rfl, none, 0, rfl, HS⟩
 ·replace H := ite_f c3 H
  refine V.condF (sb (dF c3)) (V.skip (At.next (V.seq (V.region (W.mv rfl (W.nc rfl (W.fa fo248_4 rfl (W.ld 0 HS underlying53 rfl rfl rfl rfl ?_))))))))
  obtain ⟨c4, H⟩ := ite_n H
  obtain ⟨eb5, eo6, hh⟩ := (rdC.at 3 row_rd HS rfl).some (by decide) c4.1 c4.2; subst hh
  refine W.r (X.indexSl underlying53 inf27 rfl rfl c4.1 c4.2) rfl ?_
  obtain ⟨ec7, hc8, HS⟩ := St.tie_at 4 HS rfl ([]) c4.1 c4.2
  obtain ⟨ea9, em10, he12, HN⟩ := St.sl_openF (Value.int .u8) (fun t => tie_int t) HS; clear HS; subst he12; have HS := HN
  refine W.r (X.load underlying27 rfl rfl ((rdC.at 4 row_rd HS rfl).cellEl0 (hc8 0 _ rfl))) rfl (W.as rfl (W.nx (V.seq (V.region (W.mv rfl (W.mv rfl (W.nc rfl (W.fa fo248_4 rfl (W.ld 1 HS underlying53 rfl rfl rfl rfl ?_)))))))))
  obtain ⟨c13, H⟩ := ite_n H
  refine W.r (X.slL underlying53 inf27 rfl rfl c13) rfl (W.nc rfl (W.fa fo248_4 rfl (W.st 1 4 HS inf53 rfl rfl rfl rfl rfl rfl fun w HS => ?_)))
  refine W.nx (V.seq (V.region (W.mv rfl (W.as rfl (W.as rfl (W.nx (V.ret ?_)))))))
  replace HS := HS.fr 4
  replace HS := St.row_sub HS c13
  replace HS := HS.fr 5
  replace HS := St.tie_cut (1 : Int) (a0.ready.length : Int) HS
  replace HS := HS.pm [3, 4, 5, 1, 0, 2, 6]
  replace HS := reorder_Order.close tv HS
  replace HS := HS.pk [1, 0, 2] []
  cases H
  exact At.ret2 rfl rfl rfl ⟨_, rfl, ea9, em10, rfl, HS⟩
def arq_Arq_Recv.f (a0 : arq_Arq) : Option (List Int × Bool × arq_Arq) := ((reorder_Order_Take.f a0.order).bind fun t3 => some (t3.1, t3.2.1, ({ a0 with order := t3.2.2 } : arq_Arq)))
theorem arq_Arq_Recv.calls {a0 : arq_Arq} {R : As} {w0 w : World} {b0 : Nat} {r : List Int × Bool × arq_Arq} (H : arq_Arq_Recv.f a0 = some r) (HS : Sep.St [arq_Arq.at b0 a0, R] w0 w)  : Calls Tryz.prog 199 #[pt b0] w (Ret fun u w => ∃ (aq0 : Option Addr) (cq0 : Nat), u = Value.tuple #[vs aq0 r.1.length cq0, vb r.2.1] ∧ Sep.St [fsl 1 (.slice aq0 r.1.length cq0) r.1.length (r.1.map (Value.int .u8)), arq_Arq.at b0 r.2.2, R] w0 w) := by
 unfold arq_Arq_Recv.f at H
 refine calls_enter func199 rfl rfl ?_
 have H : _ = some r := H
 refine V.seq (V.region (W.as rfl (W.as rfl (W.nx (V.seq (V.region (W.mv rfl (W.nc rfl ?_))))))))
 obtain ⟨b8_1, b9_1, b10_1, a11_1, c11_1, d11_1, a12_1, c12_1, hi2, HS⟩ := arq_Arq.open HS
 refine W.fa fo156_9 rfl (W.ld 0 HS underlying153 rfl rfl rfl rfl ?_)
 obtain ⟨t3, A4, H⟩ := bind_s H
 replace HS := HS.pm [2, 0, 1, 3, 4, 5, 6, 7]
 refine W.e (Y.cl func243 (reorder_Order_Take.calls A4 HS.j1)) rfl ?_
 rintro _ w ⟨at3_0, ct3_0, rfl, HS⟩
 replace HS := HS.o2
 refine W.r (X.extract rfl rfl) rfl (W.r (X.extract rfl rfl) rfl (W.as rfl (W.as rfl (W.nx (V.ret ?_)))))
 replace HS := HS.pm [2, 3, 1, 4, 5, 6, 7, 0, 8]
 replace HS := arq_Arq.close tv HS
 replace HS := HS.pk [1, 0, 2] []
 cases H
 exact At.ret2 rfl rfl rfl ⟨_, rfl, at3_0, ct3_0, rfl, HS⟩
def station_Station_Recv.f (a0 : station_Station) : Option (List Int × Bool × station_Station) := ((arq_Arq_Recv.f a0.arq).bind fun t3 => some (t3.1, t3.2.1, ({ a0 with arq := t3.2.2 } : station_Station)))
theorem station_Station_Recv.calls {a0 : station_Station} {R : As} {w0 w : World} {b0 : Nat} {r : List Int × Bool × station_Station} (H : station_Station_Recv.f a0 = some r) (HS : Sep.St [station_Station.at b0 a0, R] w0 w)  : Calls Tryz.prog 148 #[pt b0] w (Ret fun u w => ∃ (aq0 : Option Addr) (cq0 : Nat), u = Value.tuple #[vs aq0 r.1.length cq0, vb r.2.1] ∧ Sep.St [fsl 1 (.slice aq0 r.1.length cq0) r.1.length (r.1.map (Value.int .u8)), station_Station.at b0 r.2.2, R] w0 w) := by
 unfold station_Station_Recv.f at H
 refine calls_enter func148 rfl rfl ?_
 have H : _ = some r := H
 refine V.seq (V.region (W.as rfl (W.as rfl (W.nx (V.seq (V.region (W.mv rfl (W.nc rfl ?_))))))))
 obtain ⟨b16_1, b17_1, b18_1, b22_1, b23_1, b24_1, b32_1, b33_1, b34_1, hi2, HS⟩ := station_Station.open HS
 refine W.fa fo128_1 rfl (W.ld 0 HS underlying118 rfl rfl rfl rfl ?_)
 obtain ⟨t3, A4, H⟩ := bind_s H
 replace HS := HS.pm [1, 0, 2, 3, 4, 5, 6, 7, 8, 9, 10]
 refine W.e (Y.cl func199 (arq_Arq_Recv.calls A4 HS.j1)) rfl ?_
 rintro _ w ⟨at3_0, ct3_0, rfl, HS⟩
 replace HS := HS.o2
 refine W.r (X.extract rfl rfl) rfl (W.r (X.extract rfl rfl) rfl (W.as rfl (W.as rfl (W.nx (V.ret ?_)))))
 replace HS := HS.pm [2, 1, 3, 4, 5, 6, 7, 8, 9, 10, 0, 11]
 replace HS := station_Station.close tv HS
 replace HS := HS.pk [1, 0, 2] []
 cases H
 exact At.ret2 rfl rfl rfl ⟨_, rfl, at3_0, ct3_0, rfl, HS⟩
mutual
def aps_Aps_Command.j1 (a0 : aps_Aps) (a1 : Int) (x7 : Bool) : Option (Bool × aps_Aps) := (if x7 = true then some (true, ({ hold := ({ a0 with command := a1 } : aps_Aps).hold, wait := ({ a0 with command := a1 } : aps_Aps).wait, revert := ({ a0 with command := a1 } : aps_Aps).revert, command := ({ a0 with command := a1 } : aps_Aps).command, remote := ({ a0 with command := a1 } : aps_Aps).remote, own := 0, bad := ({ a0 with command := a1 } : aps_Aps).bad, left := ({ a0 with command := a1 } : aps_Aps).left, line := ({ a0 with command := a1 } : aps_Aps).line } : aps_Aps)) else some (true, ({ a0 with command := a1 } : aps_Aps)))
def aps_Aps_Command.j0 (a0 : aps_Aps) (a1 : Int) (x2 : Bool) : Option (Bool × aps_Aps) := (if x2 = true then some (false, a0) else (if a1 = 0 then (if a0.own = 1 then (aps_Aps_Command.j1 a0 a1 true) else (aps_Aps_Command.j1 a0 a1 (decide (a0.own = 2)))) else (aps_Aps_Command.j1 a0 a1 false)))
end
def aps_Aps_Command.f (a0 : aps_Aps) (a1 : Int) : Option (Bool × aps_Aps) := (if a1 < 0 then (aps_Aps_Command.j0 a0 a1 true) else (aps_Aps_Command.j0 a0 a1 (decide (a1 > 3))))
theorem aps_Aps_Command.calls {a0 : aps_Aps} {a1 : Int} {R : As} {w0 w : World} {b0 : Nat} {r : Bool × aps_Aps} (H : aps_Aps_Command.f a0 a1 = some r) (HS : Sep.St [aps_Aps.at b0 a0, R] w0 w)  : Calls Tryz.prog 149 #[pt b0, vi a1] w (Ret fun u w => u = vb r.1 ∧ Sep.St [aps_Aps.at b0 r.2, R] w0 w) := by
 unfold aps_Aps_Command.f at H
 refine calls_enter func149 rfl rfl ?_
 have H : _ = some r := H
 refine V.seq (V.region (W.as rfl (W.nx (V.seq (V.meet (σ := Bool) (fun st w => match st with | x2 => Sep.St [aps_Aps.at b0 a0, R] w0 w ∧ aps_Aps_Command.j0 a0 a1 x2 = some r) (fun st => match st with | x2 => [(0, pt b0), (1, vi a1), (10, vb x2)]) ?_ ?_)))))
 ·refine V.region (W.mv rfl (W.r (X.cmp (decide (a1 < 0)) rfl rfl rfl rfl) rfl (W.mv rfl ?_)))
  by_cases c14 : a1 < 0
  ·replace H := ite_t c14 H
   refine W.pass 7 rfl (sb (dT c14)) rfl rfl (W.pass 7 rfl (sb (dT c14)) rfl rfl (W.r (X.pickT (sb (dT c14)) rfl) rfl (W.nil ?_)))
   exact At.meet true ⟨rfl, rfl, rfl, tv⟩ ⟨HS, H⟩
  ·replace H := ite_f c14 H
   refine W.want 7 rfl (sb (dF c14)) (W.mv rfl (W.want 7 rfl (sb (dF c14)) (W.r (X.cmp (decide (a1 > 3)) rfl rfl rfl rfl) rfl (W.r (X.pickF (sb (dF c14)) rfl) rfl (W.nil ?_)))))
   exact At.meet (decide (a1 > 3)) ⟨rfl, rfl, rfl, tv⟩ ⟨HS, H⟩
 ·rintro x2 w ⟨HS, H⟩
  unfold aps_Aps_Command.j0 at H
  by_cases c4 : x2 = true
  ·replace H := ite_t c4 H
   refine V.condT (sb c4) (V.seq (V.region (W.as rfl (W.nx (V.ret (At.thenRet ?_))))))
   cases H
   exact At.ret1 rfl rfl ⟨_, rfl, rfl, HS⟩
  ·replace H := ite_f c4 H
   refine V.condF (sb (b_f c4)) (V.skip (At.next (V.seq (V.region (W.mv rfl (W.mv rfl (W.nc rfl ?_)))))))
   obtain ⟨hi6, HS⟩ := aps_Aps.open HS
   refine W.fa fo158_3 rfl (W.st 0 3 HS inf3 rfl rfl rfl rfl rfl rfl fun w HS => ?_)
   refine W.nx (V.seq (V.meet (σ := Bool) (fun st w => match st with | x7 => Sep.St [aps_Aps.at b0 ({ a0 with command := a1 } : aps_Aps), R] w0 w ∧ aps_Aps_Command.j1 a0 a1 x7 = some r) (fun st => match st with | x7 => [(0, pt b0), (30, vb x7)]) ?_ ?_))
   ·refine V.region (W.mv rfl (W.r (X.cmp (decide (a1 = 0)) rfl rfl rfl rfl) rfl (W.mv rfl ?_)))
    by_cases c12 : a1 = 0
    ·replace H := ite_t c12 H
     refine W.want 17 rfl (sb (dT c12)) (W.mv rfl (W.want 17 rfl (sb (dT c12)) (W.nc rfl (W.want 17 rfl (sb (dT c12)) (W.fa fo158_5 rfl (W.want 17 rfl (sb (dT c12)) (W.ld 0 HS underlying3 rfl rfl rfl rfl (W.want 17 rfl (sb (dT c12)) (W.r (X.cmp (decide (a0.own = 1)) rfl rfl rfl rfl) rfl (W.want 17 rfl (sb (dT c12)) (W.mv rfl ?_)))))))))))
     by_cases c13 : a0.own = 1
     ·replace H := ite_t c13 H
      refine W.pass 23 rfl (sb (dT c13)) rfl rfl (W.pass 23 rfl (sb (dT c13)) rfl rfl (W.pass 23 rfl (sb (dT c13)) rfl rfl (W.pass 23 rfl (sb (dT c13)) rfl rfl (W.pass 23 rfl (sb (dT c13)) rfl rfl (W.want 17 rfl (sb (dT c12)) (W.r (X.pickT (sb (dT c13)) rfl) rfl (W.r (X.pickT (sb (dT c12)) rfl) rfl (W.nil ?_))))))))
      replace HS := aps_Aps.close tv HS
      exact At.meet true ⟨rfl, rfl, tv⟩ ⟨HS, H⟩
     ·replace H := ite_f c13 H
      refine W.want 23 rfl (sb (dF c13)) (W.mv rfl (W.want 23 rfl (sb (dF c13)) (W.nc rfl (W.want 23 rfl (sb (dF c13)) (W.fa fo158_5 rfl (W.want 23 rfl (sb (dF c13)) (W.ld 0 HS underlying3 rfl rfl rfl rfl (W.want 23 rfl (sb (dF c13)) (W.r (X.cmp (decide (a0.own = 2)) rfl rfl rfl rfl) rfl (W.want 17 rfl (sb (dT c12)) (W.r (X.pickF (sb (dF c13)) rfl) rfl (W.r (X.pickT (sb (dT c12)) rfl) rfl (W.nil ?_)))))))))))))
      replace HS := aps_Aps.close tv HS
      exact At.meet (decide (a0.own = 2)) ⟨rfl, rfl, tv⟩ ⟨HS, H⟩
    ·replace H := ite_f c12 H
     refine W.pass 17 rfl (sb (dF c12)) rfl rfl (W.pass 17 rfl (sb (dF c12)) rfl rfl (W.pass 17 rfl (sb (dF c12)) rfl rfl (W.pass 17 rfl (sb (dF c12)) rfl rfl (W.pass 17 rfl (sb (dF c12)) rfl rfl (W.pass 17 rfl (sb (dF c12)) rfl rfl (W.passU 23 rfl rfl rfl (W.passU 23 rfl rfl rfl (W.passU 23 rfl rfl rfl (W.passU 23 rfl rfl rfl (W.passU 23 rfl rfl rfl (W.pass 17 rfl (sb (dF c12)) rfl rfl (W.r (X.pickF (sb (dF c12)) rfl) rfl (W.nil ?_)))))))))))))
     replace HS := aps_Aps.close tv HS
     exact At.meet false ⟨rfl, rfl, tv⟩ ⟨HS, H⟩
   ·rintro x7 w ⟨HS, H⟩
    unfold aps_Aps_Command.j1 at H
    by_cases c9 : x7 = true
    ·replace H := ite_t c9 H
     refine V.condT (sb c9) (V.region (W.mv rfl (W.nc rfl ?_)))
     obtain ⟨hi11, HS⟩ := aps_Aps.open HS
     refine W.fa fo158_5 rfl (W.st 0 5 HS inf3 rfl rfl rfl rfl rfl rfl fun w HS => ?_)
     refine W.nx (V.seq (V.region (W.as rfl (W.nx (V.ret ?_)))))
     replace HS := aps_Aps.close tv HS
     cases H
     exact At.ret1 rfl rfl ⟨_, rfl, rfl, HS⟩
    ·replace H := ite_f c9 H
     refine V.condF (sb (b_f c9)) (V.skip (At.next (V.seq (V.region (W.as rfl (W.nx (V.ret ?_)))))))
     cases H
     exact At.ret1 rfl rfl ⟨_, rfl, rfl, HS⟩
def station_Station_Command.f (a0 : station_Station) (a1 : Int) : Option (Bool × station_Station) := ((aps_Aps_Command.f a0.aps a1).bind fun t3 => some (t3.1, ({ a0 with aps := t3.2 } : station_Station)))
theorem station_Station_Command.calls {a0 : station_Station} {a1 : Int} {R : As} {w0 w : World} {b0 : Nat} {r : Bool × station_Station} (H : station_Station_Command.f a0 a1 = some r) (HS : Sep.St [station_Station.at b0 a0, R] w0 w)  : Calls Tryz.prog 101 #[pt b0, vi a1] w (Ret fun u w => u = vb r.1 ∧ Sep.St [station_Station.at b0 r.2, R] w0 w) := by
 unfold station_Station_Command.f at H
 refine calls_enter func101 rfl rfl ?_
 have H : _ = some r := H
 refine V.seq (V.region (W.as rfl (W.nx (V.seq (V.region (W.mv rfl (W.nc rfl ?_)))))))
 obtain ⟨b16_1, b17_1, b18_1, b22_1, b23_1, b24_1, b32_1, b33_1, b34_1, hi2, HS⟩ := station_Station.open HS
 refine W.fa fo128_2 rfl (W.ld 0 HS underlying119 rfl rfl rfl rfl (W.mv rfl ?_))
 obtain ⟨t3, A4, H⟩ := bind_s H
 replace HS := HS.pm [2, 0, 1, 3, 4, 5, 6, 7, 8, 9, 10]
 refine W.e (Y.cl func149 (aps_Aps_Command.calls A4 HS.j1)) rfl ?_
 rintro _ w ⟨rfl, HS⟩
 replace HS := HS.o1
 refine W.as rfl (W.nx (V.ret ?_))
 replace HS := HS.pm [1, 2, 0, 3, 4, 5, 6, 7, 8, 9, 10]
 replace HS := station_Station.close tv HS
 cases H
 exact At.ret1 rfl rfl ⟨_, rfl, rfl, HS⟩
structure api_Op where
 Kind : Int
 At : Int
 Line : Int
 N : Int
 Fault : Int
 B : List Int
deriving DecidableEq, Inhabited
def api_Op.at (b : Nat) (x : api_Op) : As := fun h => True ∧ ∃ a5 : Option Addr, ∃ c5 : Nat, Sp [blk b (#[vi x.Kind, vi x.At, vi x.Line, vi x.N, vi x.Fault, vs a5 x.B.length c5]) 29, fsl 1 (.slice a5 x.B.length c5) x.B.length (x.B.map (Value.int .u8))] h
theorem api_Op.open {b : Nat} {x : api_Op} {L : List As} {w0 w : World} (hs : Sep.St (api_Op.at b x :: L) w0 w) : ∃ a5 : Option Addr, ∃ c5 : Nat, True ∧ Sep.St (blk b (#[vi x.Kind, vi x.At, vi x.Line, vi x.N, vi x.Fault, vs a5 x.B.length c5]) 29 :: fsl 1 (.slice a5 x.B.length c5) x.B.length (x.B.map (Value.int .u8)) :: L) w0 w := by
 obtain ⟨ho, ht, hu, h, hon, h1, h2, hd, e1, e2, ⟨hi, a5, c5, hA⟩, hl⟩ := hs
 exact ⟨a5, c5, hi, St.open (m := [blk b (#[vi x.Kind, vi x.At, vi x.Line, vi x.N, vi x.Fault, vs a5 x.B.length c5]) 29, fsl 1 (.slice a5 x.B.length c5) x.B.length (x.B.map (Value.int .u8))]) ⟨ho, ht, hu, h, hon, h1, h2, hd, e1, e2, hA, hl⟩⟩
theorem api_Op.close {b : Nat} {l0 : Int} {l1 : Int} {l2 : Int} {l3 : Int} {l4 : Int} {l5 : List Int} {a5 : Option Addr} {c5 : Nat} {L : List As} {w0 w : World} (hi : True) (hs : Sep.St (blk b (#[vi l0, vi l1, vi l2, vi l3, vi l4, vs a5 l5.length c5]) 29 :: fsl 1 (.slice a5 l5.length c5) l5.length (l5.map (Value.int .u8)) :: L) w0 w) : Sep.St (api_Op.at b ({ Kind := l0, At := l1, Line := l2, N := l3, Fault := l4, B := l5 } : api_Op) :: L) w0 w := by
 have h2 := St.join (m := [blk b (#[vi l0, vi l1, vi l2, vi l3, vi l4, vs a5 l5.length c5]) 29, fsl 1 (.slice a5 l5.length c5) l5.length (l5.map (Value.int .u8))]) hs
 exact h2.mono fun h hh => ⟨hi, _, _, hh⟩
mutual
def signalman_player_do.l0 : Nat → signalman_player → api_Op → Bool → (List Int) → station_Station → (List api_Event) → Option (Int × signalman_player)
 | 0, _, _, _, _, _, _ => none
 | k + 1, a0, a1, x66, x69, x70, x73 => (if x66 = true then ((world_World_Now.f ({ a0.w with stations := (x70, a0.w.stations.2) } : world_World)).bind fun t78 => (if (x73.length : Int) + (([({ Step := t78, At := a1.At, Ind := 0, B := x69 } : api_Event)] : List api_Event)).length ≤ 1099511627776 then ((station_Station_Recv.f x70).bind fun t86 => (signalman_player_do.l0 k a0 a1 t86.2.1 t86.1 t86.2.2 (x73 ++ ([({ Step := t78, At := a1.At, Ind := 0, B := x69 } : api_Event)] : List api_Event)))) else none)) else some (0, ({ w := ({ a0.w with stations := (x70, a0.w.stations.2) } : world_World), out := x73 } : signalman_player)))
def signalman_player_do.l1 : Nat → signalman_player → api_Op → Bool → (List Int) → station_Station → (List api_Event) → Option (Int × signalman_player)
 | 0, _, _, _, _, _, _ => none
 | k + 1, a0, a1, x134, x137, x138, x141 => (if x134 = true then ((world_World_Now.f ({ a0.w with stations := (a0.w.stations.1, x138) } : world_World)).bind fun t146 => (if (x141.length : Int) + (([({ Step := t146, At := a1.At, Ind := 0, B := x137 } : api_Event)] : List api_Event)).length ≤ 1099511627776 then ((station_Station_Recv.f x138).bind fun t154 => (signalman_player_do.l1 k a0 a1 t154.2.1 t154.1 t154.2.2 (x141 ++ ([({ Step := t146, At := a1.At, Ind := 0, B := x137 } : api_Event)] : List api_Event)))) else none)) else some (0, ({ w := ({ a0.w with stations := (a0.w.stations.1, x138) } : world_World), out := x141 } : signalman_player)))
end
def signalman_player_do.f (k : Nat) (a0 : signalman_player) (a1 : api_Op) : Option (Int × signalman_player) := (if a1.Kind = 1 then ((signalman_player_steps.f k a0 a1.N).bind fun t5 => ((signalman_wrong.f (decide (a1.N < 0))).bind fun t7 => some (t7, t5))) else (if a1.Kind = 7 then ((signalman_first.f a1.B).bind fun t12 => ((world_World_Fault.f a0.w a1.Line a1.At a1.Fault a1.N t12).bind fun t14 => ((signalman_wrong.f (!t14.1)).bind fun t16 => some (t16, ({ w := t14.2, out := a0.out } : signalman_player))))) else (if a1.At ≥ 0 then (if a1.At < 2 then (if 0 ≤ a1.At ∧ a1.At < 2 then (if a1.At = 0 then (if a1.Kind = 2 then ((station_Station_Connect.f k a0.w.stations.1).bind fun t53 => some (t53.1, ({ w := ({ a0.w with stations := (t53.2, a0.w.stations.2) } : world_World), out := a0.out } : signalman_player))) else (if a1.Kind = 3 then ((station_Station_Close.f k a0.w.stations.1).bind fun t56 => some (t56.1, ({ w := ({ a0.w with stations := (t56.2, a0.w.stations.2) } : world_World), out := a0.out } : signalman_player))) else (if a1.Kind = 4 then ((station_Station_Send.f k a0.w.stations.1 a1.B).bind fun t59 => some (t59.1, ({ w := ({ a0.w with stations := (t59.2, a0.w.stations.2) } : world_World), out := a0.out } : signalman_player))) else (if a1.Kind = 5 then ((station_Station_Recv.f a0.w.stations.1).bind fun t62 => (signalman_player_do.l0 k a0 a1 t62.2.1 t62.1 t62.2.2 a0.out)) else (if a1.Kind = 6 then ((station_Station_Command.f a0.w.stations.1 a1.N).bind fun t89 => ((signalman_wrong.f (!t89.1)).bind fun t91 => some (t91, ({ w := ({ a0.w with stations := (t89.2, a0.w.stations.2) } : world_World), out := a0.out } : signalman_player)))) else some (1, a0)))))) else (if a1.Kind = 2 then ((station_Station_Connect.f k a0.w.stations.2).bind fun t121 => some (t121.1, ({ w := ({ a0.w with stations := (a0.w.stations.1, t121.2) } : world_World), out := a0.out } : signalman_player))) else (if a1.Kind = 3 then ((station_Station_Close.f k a0.w.stations.2).bind fun t124 => some (t124.1, ({ w := ({ a0.w with stations := (a0.w.stations.1, t124.2) } : world_World), out := a0.out } : signalman_player))) else (if a1.Kind = 4 then ((station_Station_Send.f k a0.w.stations.2 a1.B).bind fun t127 => some (t127.1, ({ w := ({ a0.w with stations := (a0.w.stations.1, t127.2) } : world_World), out := a0.out } : signalman_player))) else (if a1.Kind = 5 then ((station_Station_Recv.f a0.w.stations.2).bind fun t130 => (signalman_player_do.l1 k a0 a1 t130.2.1 t130.1 t130.2.2 a0.out)) else (if a1.Kind = 6 then ((station_Station_Command.f a0.w.stations.2 a1.N).bind fun t157 => ((signalman_wrong.f (!t157.1)).bind fun t159 => some (t159, ({ w := ({ a0.w with stations := (a0.w.stations.1, t157.2) } : world_World), out := a0.out } : signalman_player)))) else some (1, a0))))))) else none) else some (1, a0)) else some (1, a0))))
theorem signalman_player_do.calls {k : Nat} {a0 : signalman_player} {a1 : api_Op} {R : As} {w0 w : World} {b0 : Nat} {sa1_5 : Option Addr} {sc1_5 : Nat} {r : Int × signalman_player} (H : signalman_player_do.f k a0 a1 = some r) (HS : Sep.St [signalman_player.at b0 a0, R] w0 w) (hr1_5 : rdC R 1 (.slice sa1_5 a1.B.length sc1_5) a1.B.length (a1.B.map (Value.int .u8))) : Calls Tryz.prog 43 #[pt b0, Value.agg #[vi a1.Kind, vi a1.At, vi a1.Line, vi a1.N, vi a1.Fault, vs sa1_5 a1.B.length sc1_5]] w (Ret fun u w => u = vi r.1 ∧ Sep.St [signalman_player.at b0 r.2, R] w0 w) := by
 unfold signalman_player_do.f at H
 refine calls_enter func43 rfl rfl ?_
 have H : _ = some r := H
 refine V.seq (V.region (W.e (Y.box HS rfl) rfl ?_))
 rintro _ w ⟨nb1, rfl, HS⟩
 refine W.as rfl (W.nx (V.seq (V.seq (V.region (W.fa fo29_0 rfl (W.ld 0 HS underlying3 rfl rfl rfl rfl (W.nx (V.block (V.seq (V.region (W.r (X.cmp (decide (a1.Kind = 1)) rfl rfl rfl rfl) rfl (W.as rfl (W.nx ?_)))))))))))))
 by_cases c4 : a1.Kind = 1
 ·replace H := ite_t c4 H
  refine V.condT (sb (dT c4)) (V.seq (V.region (W.mv rfl (W.fa fo29_3 rfl (W.ld 0 HS underlying3 rfl rfl rfl rfl ?_)))))
  obtain ⟨t5, A6, H⟩ := bind_s H
  replace HS := HS.pm [1, 0, 2]
  refine W.e (Y.cl func61 (signalman_player_steps.calls A6 HS.j1)) rfl ?_
  rintro _ w ⟨rfl, HS⟩
  replace HS := HS.o1
  refine W.nx (V.seq (V.region (W.fa fo29_3 rfl (W.ld 1 HS underlying3 rfl rfl rfl rfl (W.r (X.cmp (decide (a1.N < 0)) rfl rfl rfl rfl) rfl ?_)))))
  obtain ⟨t7, A8, H⟩ := bind_s H
  refine W.e (Y.cl func62 (signalman_wrong.calls A8 HS.j0)) rfl ?_
  rintro _ w ⟨rfl, HS⟩
  replace HS := HS.o0
  refine W.as rfl (W.nx (V.ret (At.blockRet (At.thenRet ?_))))
  replace HS := HS.pk [0, 2] [1]
  cases H
  exact At.ret1 rfl rfl ⟨_, rfl, rfl, HS⟩
 ·replace H := ite_f c4 H
  refine V.condF (sb (dF c4)) (V.seq (V.region (W.r (X.cmp (decide (a1.Kind = 7)) rfl rfl rfl rfl) rfl (W.as rfl (W.nx ?_)))))
  by_cases c9 : a1.Kind = 7
  ·replace H := ite_t c9 H
   refine V.condT (sb (dT c9)) (V.seq ?_)
   replace HS := HS.fr 1
   obtain ⟨b0_10, a1_10, c1_10, d1_10, hi11, HS⟩ := signalman_player.open HS
   refine V.dr [14, 15, 17] [16, 18] [(20, pt b0), (21, pt b0), (22, po b0 (0 + 0)), (23, pt b0_10), (24, po nb1 (0 + 2)), (25, vi a1.Line), (26, po nb1 (0 + 1)), (27, vi a1.At), (28, po nb1 (0 + 4)), (29, vi a1.Fault), (30, po nb1 (0 + 3)), (31, vi a1.N), (32, po nb1 (0 + 5)), (33, vs sa1_5 a1.B.length sc1_5)] mo HS ?_
   refine T.ev [(33, _)] [16, 18] [12, 13] ⟨rfl, tv⟩ ⟨.mv 0, .nc 20, .fa 21 fo72_0, .ld 22 0 underlying70, .fa 3 fo29_2, .ld 24 4 underlying3, .fa 3 fo29_1, .ld 26 4 underlying3, .fa 3 fo29_4, .ld 28 4 underlying3, .fa 3 fo29_3, .ld 30 4 underlying3, .fa 3 fo29_5, .ld 32 4 underlying27, tv⟩ rfl (fun w HS => ?_)
   obtain ⟨t12, A13, H⟩ := bind_s H
   refine ⟨_, Y.cl func64 (signalman_first.calls A13 HS.j0 (rdC.part 5 hr1_5 rfl)), ?_⟩
   rintro _ w ⟨rfl, HS⟩
   replace HS := HS.o0
   refine T.nw HS ?_
   refine T.ev [(23, _), (25, _), (27, _), (29, _), (31, _), (34, _)] [18] [0, 1, 2, 3, 4, 5, 6, 7, 8, 9, 10, 11] ⟨rfl, rfl, rfl, rfl, rfl, rfl, tv⟩ ⟨.mv 0, .nc 20, .fa 21 fo72_0, .ld 22 0 underlying70, .fa 3 fo29_2, .ld 24 4 underlying3, .fa 3 fo29_1, .ld 26 4 underlying3, .fa 3 fo29_4, .ld 28 4 underlying3, .fa 3 fo29_3, .ld 30 4 underlying3, tv⟩ rfl (fun w HS => ?_)
   obtain ⟨t14, A15, H⟩ := bind_s H
   replace HS := HS.pm [1, 0, 2, 3, 4, 5]
   refine ⟨_, Y.cl func63 (world_World_Fault.calls A15 HS.j1), ?_⟩
   rintro _ w ⟨rfl, HS⟩
   replace HS := HS.o1
   refine T.nm [(35, vb t14.1), (36, vb (!t14.1))] HS ⟨.inl ⟨rfl, rfl⟩, ⟨.inr ⟨by decide, rfl⟩, tv⟩⟩ ?_
   refine T.ev [(36, _)] [] [16] ⟨rfl, tv⟩ ⟨.n1 35 rfl rfl (fun w HS => X.not rfl), tv⟩ rfl (fun w HS => ?_)
   obtain ⟨t16, A17, H⟩ := bind_s H
   refine ⟨_, Y.cl func62 (signalman_wrong.calls A17 HS.j0), ?_⟩
   rintro _ w ⟨rfl, HS⟩
   replace HS := HS.o0
   refine T.nm [(37, vi t16), (4, vi t16)] HS ⟨.inl ⟨rfl, rfl⟩, ⟨.inr ⟨by decide, rfl⟩, tv⟩⟩ ?_
   refine T.fn [(4, _)] ⟨rfl, tv⟩ ⟨.as 37, tv⟩ (fun w HS => ?_)
   refine At.next (V.ret (At.blockRet (At.thenRet ?_)))
   replace HS := HS.pm [1, 0, 2, 3, 4, 5]
   replace HS := signalman_player.close tv HS
   replace HS := HS.pk [0, 2] [1]
   cases H
   exact At.ret1 rfl rfl ⟨_, rfl, rfl, HS⟩
  ·replace H := ite_f c9 H
   refine V.condF (sb (dF c9)) (V.skip (At.blockEnd (At.next (V.seq ?_))))
   replace HS := HS.fr 1
   obtain ⟨b0_18, a1_18, c1_18, d1_18, hi19, HS⟩ := signalman_player.open HS
   refine V.dr [6] [7] [(38, pt b0), (39, pt b0), (40, po b0 (0 + 0)), (41, pt b0_18), (42, po nb1 (0 + 1)), (43, vi a1.At)] mo HS ?_
   refine T.ev [(41, _), (43, _)] [] [0, 1, 2, 3, 4, 5] ⟨rfl, rfl, tv⟩ ⟨.mv 0, .nc 38, .fa 39 fo72_0, .ld 40 0 underlying70, .fa 3 fo29_1, .ld 42 4 underlying3, tv⟩ rfl (fun w HS => ?_)
   refine ⟨_, Y.cl (vs := [pt b0_18, vi a1.At]) func30 (calls_enter func30 rfl rfl ?_), fun _ _ h => h⟩
   refine V.seq (V.region (W.as rfl (W.nx (V.seq (V.seq (V.region (W.mv rfl ?_)))))))
   refine W.inl (Y.cl (vs := [vi a1.At]) func45 (calls_enter func45 rfl rfl ?_)) rfl rfl rfl
   refine V.seq (V.region (W.as rfl (W.nx (V.seq (V.region (W.mv rfl (W.r (X.cmp (decide (a1.At ≥ 0)) rfl rfl rfl rfl) rfl (W.mv rfl ?_))))))))
   by_cases c20 : a1.At ≥ 0
   ·replace H := ite_t c20 H
    refine W.want 5 rfl (sb (dT c20)) (W.mv rfl (W.want 5 rfl (sb (dT c20)) (W.r (X.cmp (decide (a1.At < 2)) rfl rfl rfl rfl) rfl (W.r (X.pickT (sb (dT c20)) rfl) rfl (W.as rfl (W.nx (V.ret ?_)))))))
    refine At.ret1 rfl rfl ⟨_, rfl, ?_⟩
    refine W.r (X.not rfl) rfl (W.nx ?_)
    by_cases c21 : a1.At < 2
    ·replace H := ite_t c21 H
     refine V.condF (sb (n_t (dT c21))) (V.skip (At.next (V.seq (V.region (W.mv rfl (W.mv rfl (W.nc rfl ?_)))))))
     replace HS := HS.fr 1
     obtain ⟨b16_22, b17_22, b18_22, a19_22, c19_22, d19_22, a20_22, c20_22, d20_22, b21_22, a22_22, c22_22, d22_22, a23_22, c23_22, d23_22, b24_22, a25_22, c25_22, d25_22, a26_22, c26_22, d26_22, b27_22, a28_22, c28_22, d28_22, a29_22, c29_22, d29_22, hi23, HS⟩ := world_World.open HS
     refine W.fa fo117_1 rfl ?_
     obtain ⟨c24, H⟩ := ite_n H
     by_cases c25 : a1.At = 0
     ·replace H := ite_t c25 H
      refine W.r (X.indexArK 0 c25 underlying110 inf69 rfl rfl c24.1 c24.2) rfl (W.ld 0 HS underlying69 rfl rfl rfl rfl (W.as rfl (W.nx (V.ret ?_))))
      refine At.ret1 rfl rfl ⟨_, rfl, ?_⟩
      refine T.nm [(44, pt b16_22), (5, pt b16_22)] HS ⟨.inl ⟨rfl, rfl⟩, ⟨.inr ⟨by decide, rfl⟩, tv⟩⟩ ?_
      refine T.fn [(0, _), (3, _), (5, _)] ⟨rfl, rfl, rfl, tv⟩ ⟨.as 44, tv⟩ (fun w HS => ?_)
      refine At.next (V.seq (V.seq (V.region (W.mv rfl (W.r (X.eqP underlying69 rfl rfl) rfl (W.nx (V.condF rfl (V.skip (At.next (V.seq (V.region (W.mv rfl (W.r (X.loadSt 26 [vi a1.Kind, vi a1.At, vi a1.Line, vi a1.N, vi a1.Fault, vs sa1_5 a1.B.length sc1_5] HS rfl underlying29 rfl inf29 rfl rfl) rfl (W.mv rfl ?_))))))))))))))
      refine W.inl (Y.cl (vs := [pt b0, Value.agg #[vi a1.Kind, vi a1.At, vi a1.Line, vi a1.N, vi a1.Fault, vs sa1_5 a1.B.length sc1_5], pt b16_22]) func65 (calls_enter func65 rfl rfl ?_)) rfl rfl rfl
      refine V.seq (V.region (W.e (Y.box HS rfl) rfl ?_))
      rintro _ w ⟨nb51, rfl, HS⟩
      refine W.as rfl (W.nx (V.seq (V.seq (V.region (W.fa fo29_0 rfl (W.ld 0 HS underlying3 rfl rfl rfl rfl (W.nx (V.block (V.seq (V.region (W.r (X.cmp (decide (a1.Kind = 2)) rfl rfl rfl rfl) rfl (W.as rfl (W.nx ?_)))))))))))))
      by_cases c52 : a1.Kind = 2
      ·replace H := ite_t c52 H
       refine V.condT (sb (dT c52)) (V.seq (V.region (W.mv rfl ?_)))
       obtain ⟨t53, A54, H⟩ := bind_s H
       replace HS := HS.pm [2, 0, 1, 3, 4, 5, 6, 7, 8, 9, 10, 11, 12, 13, 14, 15, 16, 17, 18, 19, 20, 21, 22, 23, 24, 25, 26, 27, 28]
       refine W.e (Y.cl func97 (station_Station_Connect.calls A54 HS.j1)) rfl ?_
       rintro _ w ⟨rfl, HS⟩
       replace HS := HS.o1
       refine W.as rfl (W.nx (V.ret (At.blockRet (At.thenRet ?_))))
       refine At.ret1 rfl rfl ⟨_, rfl, ?_⟩
       refine W.as rfl (W.nx (V.ret ?_))
       replace HS := HS.pm [2, 0, 3, 4, 5, 6, 7, 8, 9, 10, 11, 12, 13, 14, 15, 16, 17, 18, 19, 20, 21, 22, 23, 1, 24, 25, 26, 27, 28]
       replace HS := world_World.close tv HS
       replace HS := HS.pm [2, 0, 3, 4, 1, 5, 6]
       replace HS := signalman_player.close tv HS
       replace HS := HS.pk [0, 3] [1, 2]
       cases H
       exact At.ret1 rfl rfl ⟨_, rfl, rfl, HS⟩
      ·replace H := ite_f c52 H
       refine V.condF (sb (dF c52)) (V.seq (V.region (W.r (X.cmp (decide (a1.Kind = 3)) rfl rfl rfl rfl) rfl (W.as rfl (W.nx ?_)))))
       by_cases c55 : a1.Kind = 3
       ·replace H := ite_t c55 H
        refine V.condT (sb (dT c55)) (V.seq (V.region (W.mv rfl ?_)))
        obtain ⟨t56, A57, H⟩ := bind_s H
        replace HS := HS.pm [2, 0, 1, 3, 4, 5, 6, 7, 8, 9, 10, 11, 12, 13, 14, 15, 16, 17, 18, 19, 20, 21, 22, 23, 24, 25, 26, 27, 28]
        refine W.e (Y.cl func98 (station_Station_Close.calls A57 HS.j1)) rfl ?_
        rintro _ w ⟨rfl, HS⟩
        replace HS := HS.o1
        refine W.as rfl (W.nx (V.ret (At.blockRet (At.thenRet ?_))))
        refine At.ret1 rfl rfl ⟨_, rfl, ?_⟩
        refine W.as rfl (W.nx (V.ret ?_))
        replace HS := HS.pm [2, 0, 3, 4, 5, 6, 7, 8, 9, 10, 11, 12, 13, 14, 15, 16, 17, 18, 19, 20, 21, 22, 23, 1, 24, 25, 26, 27, 28]
        replace HS := world_World.close tv HS
        replace HS := HS.pm [2, 0, 3, 4, 1, 5, 6]
        replace HS := signalman_player.close tv HS
        replace HS := HS.pk [0, 3] [1, 2]
        cases H
        exact At.ret1 rfl rfl ⟨_, rfl, rfl, HS⟩
       ·replace H := ite_f c55 H
        refine V.condF (sb (dF c55)) (V.seq (V.region (W.r (X.cmp (decide (a1.Kind = 4)) rfl rfl rfl rfl) rfl (W.as rfl (W.nx ?_)))))
        by_cases c58 : a1.Kind = 4
        ·replace H := ite_t c58 H
         refine V.condT (sb (dT c58)) (V.seq (V.region (W.mv rfl (W.fa fo29_5 rfl (W.ld 0 HS underlying27 rfl rfl rfl rfl ?_)))))
         obtain ⟨t59, A60, H⟩ := bind_s H
         replace HS := HS.pm [2, 0, 1, 3, 4, 5, 6, 7, 8, 9, 10, 11, 12, 13, 14, 15, 16, 17, 18, 19, 20, 21, 22, 23, 24, 25, 26, 27, 28]
         refine W.e (Y.cl func99 (station_Station_Send.calls A60 HS.j1 (rdC.part 27 hr1_5 rfl))) rfl ?_
         rintro _ w ⟨rfl, HS⟩
         replace HS := HS.o1
         refine W.as rfl (W.nx (V.ret (At.blockRet (At.thenRet ?_))))
         refine At.ret1 rfl rfl ⟨_, rfl, ?_⟩
         refine W.as rfl (W.nx (V.ret ?_))
         replace HS := HS.pm [2, 0, 3, 4, 5, 6, 7, 8, 9, 10, 11, 12, 13, 14, 15, 16, 17, 18, 19, 20, 21, 22, 23, 1, 24, 25, 26, 27, 28]
         replace HS := world_World.close tv HS
         replace HS := HS.pm [2, 0, 3, 4, 1, 5, 6]
         replace HS := signalman_player.close tv HS
         replace HS := HS.pk [0, 3] [1, 2]
         cases H
         exact At.ret1 rfl rfl ⟨_, rfl, rfl, HS⟩
        ·replace H := ite_f c58 H
         refine V.condF (sb (dF c58)) (V.seq (V.region (W.r (X.cmp (decide (a1.Kind = 5)) rfl rfl rfl rfl) rfl (W.as rfl (W.nx ?_)))))
         by_cases c61 : a1.Kind = 5
         ·replace H := ite_t c61 H
          refine V.condT (sb (dT c61)) (V.seq (V.region (W.mv rfl (W.fa fo29_1 rfl (W.ld 0 HS underlying3 rfl rfl rfl rfl (W.mv rfl ?_))))))
          refine W.inl (Y.cl (vs := [pt b0, vi a1.At, pt b16_22]) func100 (calls_enter func100 rfl rfl ?_)) rfl rfl rfl
          refine V.seq (V.region (W.mv rfl ?_))
          obtain ⟨t62, A63, H⟩ := bind_s H
          replace HS := HS.pm [2, 0, 1, 3, 4, 5, 6, 7, 8, 9, 10, 11, 12, 13, 14, 15, 16, 17, 18, 19, 20, 21, 22, 23, 24, 25, 26, 27, 28]
          refine W.e (Y.cl func148 (station_Station_Recv.calls A63 HS.j1)) rfl ?_
          rintro _ w ⟨at62_0, ct62_0, rfl, HS⟩
          replace HS := HS.o2
          refine W.mv rfl (W.r (X.extract rfl rfl) rfl (W.r (X.extract rfl rfl) rfl (W.as rfl (W.as rfl (W.nx (V.block (V.loop (σ := Bool × Option Addr × Nat × List Int × station_Station × Option Addr × Nat × List Value × List api_Event) (fun kq (st : Bool × Option Addr × Nat × List Int × station_Station × Option Addr × Nat × List Value × List api_Event) w => match st with | (x66, ra67, rc68, x69, x70, ra71, rc72, rd74, x73) => Sep.St [fsl 1 (.slice ra67 x69.length rc68) x69.length (x69.map (Value.int .u8)), station_Station.at b16_22 x70, blk nb51 (#[vi a1.Kind, vi a1.At, vi a1.Line, vi a1.N, vi a1.Fault, vs sa1_5 a1.B.length sc1_5]) 29, blk b0_18 (#[vi a0.w.c.Mode, vi a0.w.c.Modulus, vi a0.w.c.Window, vi a0.w.c.T1, vi a0.w.c.N2, vi a0.w.c.Hold, vi a0.w.c.Wait, vi a0.w.c.Keep, vi a0.w.c.Queue, vi a0.w.c.Size, vi a0.w.c.Ring, vi a0.w.c.Rate, vi a0.w.c.Bad, vi a0.w.c.Good, vb a0.w.c.Revert, vb a0.w.c.Wide, pt b16_22, pt b17_22, pt b18_22, vs a19_22 a0.w.ways.1.1.sent.length c19_22, vs a20_22 a0.w.ways.1.1.got.length c20_22, pt b21_22, vs a22_22 a0.w.ways.1.2.sent.length c22_22, vs a23_22 a0.w.ways.1.2.got.length c23_22, pt b24_22, vs a25_22 a0.w.ways.2.1.sent.length c25_22, vs a26_22 a0.w.ways.2.1.got.length c26_22, pt b27_22, vs a28_22 a0.w.ways.2.2.sent.length c28_22, vs a29_22 a0.w.ways.2.2.got.length c29_22, vi a0.w.now]) 117, station_Station.at b17_22 a0.w.stations.2, pipe_Pipe.at b18_22 a0.w.ways.1.1.pipe, row 27 1 (.slice a19_22 a0.w.ways.1.1.sent.length c19_22) a0.w.ways.1.1.sent.length d19_22, tie (El.sl (El.int .u8)) d19_22 a0.w.ways.1.1.sent, row 27 1 (.slice a20_22 a0.w.ways.1.1.got.length c20_22) a0.w.ways.1.1.got.length d20_22, tie (El.sl (El.int .u8)) d20_22 a0.w.ways.1.1.got, pipe_Pipe.at b21_22 a0.w.ways.1.2.pipe, row 27 1 (.slice a22_22 a0.w.ways.1.2.sent.length c22_22) a0.w.ways.1.2.sent.length d22_22, tie (El.sl (El.int .u8)) d22_22 a0.w.ways.1.2.sent, row 27 1 (.slice a23_22 a0.w.ways.1.2.got.length c23_22) a0.w.ways.1.2.got.length d23_22, tie (El.sl (El.int .u8)) d23_22 a0.w.ways.1.2.got, pipe_Pipe.at b24_22 a0.w.ways.2.1.pipe, row 27 1 (.slice a25_22 a0.w.ways.2.1.sent.length c25_22) a0.w.ways.2.1.sent.length d25_22, tie (El.sl (El.int .u8)) d25_22 a0.w.ways.2.1.sent, row 27 1 (.slice a26_22 a0.w.ways.2.1.got.length c26_22) a0.w.ways.2.1.got.length d26_22, tie (El.sl (El.int .u8)) d26_22 a0.w.ways.2.1.got, pipe_Pipe.at b27_22 a0.w.ways.2.2.pipe, row 27 1 (.slice a28_22 a0.w.ways.2.2.sent.length c28_22) a0.w.ways.2.2.sent.length d28_22, tie (El.sl (El.int .u8)) d28_22 a0.w.ways.2.2.sent, row 27 1 (.slice a29_22 a0.w.ways.2.2.got.length c29_22) a0.w.ways.2.2.got.length d29_22, tie (El.sl (El.int .u8)) d29_22 a0.w.ways.2.2.got, blk b0 (#[pt b0_18, vs ra71 x73.length rc72]) 72, row 56 4 (.slice ra71 x73.length rc72) x73.length rd74, tie api_Event.El rd74 x73, blk nb1 (#[vi a1.Kind, vi a1.At, vi a1.Line, vi a1.N, vi a1.Fault, vs sa1_5 a1.B.length sc1_5]) 29, R] w0 w ∧ signalman_player_do.l0 kq a0 a1 x66 x69 x70 x73 = some r ∧ kq ≤ k) (fun st => match st with | (x66, ra67, rc68, x69, x70, ra71, rc72, rd74, x73) => [(0, pt b0), (1, vi a1.At), (2, pt b16_22), (6, vs ra67 x69.length rc68), (7, vb x66)]) k (t62.2.1, at62_0, ct62_0, t62.1, t62.2.2, a1_18, c1_18, d1_18, a0.out) ⟨rfl, rfl, rfl, rfl, rfl, tv⟩ ⟨HS, H, Nat.le_refl _⟩ ?_)))))))
          rintro kq75 ⟨x66, ra67, rc68, x69, x70, ra71, rc72, rd74, x73⟩ w ⟨HS, H, hk76⟩
          cases kq75 with
          | zero => exact absurd H (by simp [signalman_player_do.l0])
          | succ kq75 =>
           simp only [signalman_player_do.l0] at H
           refine V.seq (V.seq (V.region (W.mv rfl (W.nx ?_))))
           by_cases c77 : x66 = true
           ·replace H := ite_t c77 H
            refine V.condT (sb c77) (V.skip (At.next (V.seq (V.block (V.dr [9, 13, 14, 17] [12, 15, 16] [(19, pt b0), (20, pt b0), (21, pt b0), (22, po b0 (0 + 1)), (23, vs ra71 x73.length rc72), (24, pt b0), (25, pt b0), (26, po b0 (0 + 0)), (27, pt b0_18), (29, vi a1.At), (30, vs ra67 x69.length rc68)] mo HS ?_)))))
            refine T.ev [(27, _)] [15, 16] [5, 6, 7, 8] ⟨rfl, tv⟩ ⟨.mv 0, .mv 0, .nc 20, .fa 21 fo72_1, .ld 22 25 underlying39, .mv 0, .nc 24, .fa 25 fo72_0, .ld 26 25 underlying70, .mv 1, .mv 6, tv⟩ rfl (fun w HS => ?_)
            obtain ⟨t78, A79, H⟩ := bind_s H
            replace HS := HS.pm [3, 1, 4, 5, 6, 7, 8, 9, 10, 11, 12, 13, 14, 15, 16, 17, 18, 19, 20, 21, 22, 23, 24, 0, 2, 25, 26, 27, 28, 29]
            refine ⟨_, Y.cl func67 (world_World_Now.calls A79 HS.j23), ?_⟩
            rintro _ w ⟨rfl, HS⟩
            replace HS := HS.o23
            refine T.nm [(28, vi t78), (31, Value.agg #[vi t78, vi a1.At, vi (0), vs ra67 x69.length rc68])] HS ⟨.inl ⟨rfl, rfl⟩, ⟨.inr ⟨by decide, rfl⟩, tv⟩⟩ ?_
            refine T.ev [(31, _)] [15, 16] [10, 11, 12] ⟨rfl, tv⟩ ⟨.mv 0, .mv 0, .nc 20, .fa 21 fo72_1, .ld 22 25 underlying39, .mv 1, .mv 6, .ns [(28, _), (29, _), (30, _)] ⟨rfl, rfl, rfl, tv⟩ rfl (fun w HS => X.bd (Value.agg #[vi t78, vi a1.At, vi (0), vs ra67 x69.length rc68]) rfl (fun _ => by kernel_rfl)), tv⟩ rfl (fun w HS => ?_)
            refine ⟨_, Y.lc (e := 56) (sz := 4) [vi t78, vi a1.At, vi (0), vs ra67 x69.length rc68] HS rfl rfl (fun _ => by kernel_rfl), ?_⟩
            rintro _ w ⟨lb80, rfl, HS⟩
            replace HS := St.put (A := tie api_Event.El ([]) ([] : List api_Event)) (fun _ => tie.nil) HS
            replace HS := HS.more 25 rfl (fun _ t => t) fsl.pers
            replace HS := api_Event.pack (x := ({ Step := t78, At := a1.At, Ind := 0, B := x69 } : api_Event)) HS
            replace HS := HS.fr 1
            replace HS := HS.fr 1
            replace HS := St.tie_cons HS
            refine T.nw HS ?_
            refine T.ev [(23, _), (32, _)] [] [1, 2, 3, 4] ⟨rfl, rfl, tv⟩ ⟨.mv 0, .mv 0, .nc 20, .fa 21 fo72_1, .ld 22 27 underlying39, tv⟩ rfl (fun w HS => ?_)
            obtain ⟨c83, H⟩ := ite_n H
            refine ⟨_, Y.app (xs := x73) (ys := ([({ Step := t78, At := a1.At, Ind := 0, B := x69 } : api_Event)] : List api_Event)) 28 underlying39 ap56 rfl (by decide) HS rfl rfl rfl (rdC.at 1 row_rd HS rfl) (St.tie_one 0 HS rfl) (by omega) (by omega), ?_⟩
            rintro _ w ⟨ra84, rc85, rfl, HS⟩
            replace HS := HS.fr 29
            replace HS := St.tie_app 1 HS rfl
            refine T.nm [(33, vs ra84 (x73 ++ ([({ Step := t78, At := a1.At, Ind := 0, B := x69 } : api_Event)] : List api_Event)).length rc85), (34, pt b0), (35, po b0 (0 + 1))] HS ⟨.inl ⟨rfl, rfl⟩, ⟨.inr ⟨by decide, rfl⟩, ⟨.inr ⟨by decide, rfl⟩, tv⟩⟩⟩ ?_
            refine T.ev [(33, _), (35, _)] [] [0, 15, 16] ⟨rfl, rfl, tv⟩ ⟨.mv 0, .nc 19, .fa 34 fo72_1, tv⟩ rfl (fun w HS => ?_)
            refine ⟨_, Y.sto 28 1 HS inf39 rfl rfl rfl rfl rfl rfl, ?_⟩
            rintro _ w HS
            refine T.nn HS ?_
            refine T.fn [(0, _), (1, _), (2, _)] ⟨rfl, rfl, rfl, tv⟩ tv (fun w HS => ?_)
            refine At.blockEnd (At.next (V.region (W.mv rfl ?_)))
            obtain ⟨t86, A87, H⟩ := bind_s H
            replace HS := HS.pm [4, 0, 1, 2, 3, 5, 6, 7, 8, 9, 10, 11, 12, 13, 14, 15, 16, 17, 18, 19, 20, 21, 22, 23, 24, 25, 26, 27, 28, 29, 30, 31]
            refine W.e (Y.cl func148 (station_Station_Recv.calls A87 HS.j1)) rfl ?_
            rintro _ w ⟨at86_0, ct86_0, rfl, HS⟩
            replace HS := HS.o2
            refine W.mv rfl (W.r (X.extract rfl rfl) rfl (W.r (X.extract rfl rfl) rfl (W.as rfl (W.as rfl (W.nil ?_)))))
            replace HS := HS.pk [0, 1, 28, 5, 6, 7, 8, 9, 10, 11, 12, 13, 14, 15, 16, 17, 18, 19, 20, 21, 22, 23, 24, 25, 26, 29, 30, 2, 31, 32] [3, 4, 27]
            exact At.round kq75 (by omega) (t86.2.1, at86_0, ct86_0, t86.1, t86.2.2, ra84, rc85, (rd74 ++ ([vi t78, vi a1.At, vi (0), vs ra67 x69.length rc68])), x73 ++ ([({ Step := t78, At := a1.At, Ind := 0, B := x69 } : api_Event)] : List api_Event)) ⟨rfl, rfl, rfl, rfl, rfl, tv⟩ ⟨HS, H, by omega⟩
           ·replace H := ite_f c77 H
            refine V.condF (sb (b_f c77)) (V.exit (At.thenExit (At.thenExit (At.blockExit ?_))))
            refine At.end0 rfl ⟨_, rfl, ?_⟩
            refine W.nx (V.seq (V.region (W.as rfl (W.nx (V.ret (At.blockRet (At.thenRet ?_)))))))
            refine At.ret1 rfl rfl ⟨_, rfl, ?_⟩
            refine W.as rfl (W.nx (V.ret ?_))
            replace HS := HS.pm [3, 1, 4, 5, 6, 7, 8, 9, 10, 11, 12, 13, 14, 15, 16, 17, 18, 19, 20, 21, 22, 23, 24, 0, 2, 25, 26, 27, 28, 29]
            replace HS := world_World.close tv HS
            replace HS := HS.pm [3, 0, 4, 5, 1, 2, 6, 7]
            replace HS := signalman_player.close tv HS
            replace HS := HS.pk [0, 4] [1, 2, 3]
            cases H
            exact At.ret1 rfl rfl ⟨_, rfl, rfl, HS⟩
         ·replace H := ite_f c61 H
          refine V.condF (sb (dF c61)) (V.seq (V.region (W.r (X.cmp (decide (a1.Kind = 6)) rfl rfl rfl rfl) rfl (W.as rfl (W.nx ?_)))))
          by_cases c88 : a1.Kind = 6
          ·replace H := ite_t c88 H
           refine V.condT (sb (dT c88)) (V.seq (V.region (W.mv rfl (W.fa fo29_3 rfl (W.ld 0 HS underlying3 rfl rfl rfl rfl ?_)))))
           obtain ⟨t89, A90, H⟩ := bind_s H
           replace HS := HS.pm [2, 0, 1, 3, 4, 5, 6, 7, 8, 9, 10, 11, 12, 13, 14, 15, 16, 17, 18, 19, 20, 21, 22, 23, 24, 25, 26, 27, 28]
           refine W.e (Y.cl func101 (station_Station_Command.calls A90 HS.j1)) rfl ?_
           rintro _ w ⟨rfl, HS⟩
           replace HS := HS.o1
           refine W.r (X.not rfl) rfl ?_
           obtain ⟨t91, A92, H⟩ := bind_s H
           refine W.e (Y.cl func62 (signalman_wrong.calls A92 HS.j0)) rfl ?_
           rintro _ w ⟨rfl, HS⟩
           replace HS := HS.o0
           refine W.as rfl (W.nx (V.ret (At.blockRet (At.thenRet ?_))))
           refine At.ret1 rfl rfl ⟨_, rfl, ?_⟩
           refine W.as rfl (W.nx (V.ret ?_))
           replace HS := HS.pm [2, 0, 3, 4, 5, 6, 7, 8, 9, 10, 11, 12, 13, 14, 15, 16, 17, 18, 19, 20, 21, 22, 23, 1, 24, 25, 26, 27, 28]
           replace HS := world_World.close tv HS
           replace HS := HS.pm [2, 0, 3, 4, 1, 5, 6]
           replace HS := signalman_player.close tv HS
           replace HS := HS.pk [0, 3] [1, 2]
           cases H
           exact At.ret1 rfl rfl ⟨_, rfl, rfl, HS⟩
          ·replace H := ite_f c88 H
           refine V.condF (sb (dF c88)) (V.skip (At.blockEnd (At.next (V.seq (V.region (W.as rfl (W.nx (V.ret ?_))))))))
           refine At.ret1 rfl rfl ⟨_, rfl, ?_⟩
           refine W.as rfl (W.nx (V.ret ?_))
           replace HS := HS.pm [1, 2, 3, 4, 5, 6, 7, 8, 9, 10, 11, 12, 13, 14, 15, 16, 17, 18, 19, 20, 21, 22, 23, 0, 24, 25, 26, 27, 28]
           replace HS := world_World.close tv HS
           replace HS := HS.pm [2, 0, 3, 4, 1, 5, 6]
           replace HS := signalman_player.close tv HS
           replace HS := HS.pk [0, 3] [1, 2]
           cases H
           exact At.ret1 rfl rfl ⟨_, rfl, rfl, HS⟩
     ·replace H := ite_f c25 H
      have hk93 : a1.At = 1 := by omega
      refine W.r (X.indexArK 1 hk93 underlying110 inf69 rfl rfl c24.1 c24.2) rfl (W.ld 0 HS underlying69 rfl rfl rfl rfl (W.as rfl (W.nx (V.ret ?_))))
      refine At.ret1 rfl rfl ⟨_, rfl, ?_⟩
      refine T.nm [(44, pt b17_22), (5, pt b17_22)] HS ⟨.inl ⟨rfl, rfl⟩, ⟨.inr ⟨by decide, rfl⟩, tv⟩⟩ ?_
      refine T.fn [(0, _), (3, _), (5, _)] ⟨rfl, rfl, rfl, tv⟩ ⟨.as 44, tv⟩ (fun w HS => ?_)
      refine At.next (V.seq (V.seq (V.region (W.mv rfl (W.r (X.eqP underlying69 rfl rfl) rfl (W.nx (V.condF rfl (V.skip (At.next (V.seq (V.region (W.mv rfl (W.r (X.loadSt 26 [vi a1.Kind, vi a1.At, vi a1.Line, vi a1.N, vi a1.Fault, vs sa1_5 a1.B.length sc1_5] HS rfl underlying29 rfl inf29 rfl rfl) rfl (W.mv rfl ?_))))))))))))))
      refine W.inl (Y.cl (vs := [pt b0, Value.agg #[vi a1.Kind, vi a1.At, vi a1.Line, vi a1.N, vi a1.Fault, vs sa1_5 a1.B.length sc1_5], pt b17_22]) func65 (calls_enter func65 rfl rfl ?_)) rfl rfl rfl
      refine V.seq (V.region (W.e (Y.box HS rfl) rfl ?_))
      rintro _ w ⟨nb119, rfl, HS⟩
      refine W.as rfl (W.nx (V.seq (V.seq (V.region (W.fa fo29_0 rfl (W.ld 0 HS underlying3 rfl rfl rfl rfl (W.nx (V.block (V.seq (V.region (W.r (X.cmp (decide (a1.Kind = 2)) rfl rfl rfl rfl) rfl (W.as rfl (W.nx ?_)))))))))))))
      by_cases c120 : a1.Kind = 2
      ·replace H := ite_t c120 H
       refine V.condT (sb (dT c120)) (V.seq (V.region (W.mv rfl ?_)))
       obtain ⟨t121, A122, H⟩ := bind_s H
       replace HS := HS.pm [3, 0, 1, 2, 4, 5, 6, 7, 8, 9, 10, 11, 12, 13, 14, 15, 16, 17, 18, 19, 20, 21, 22, 23, 24, 25, 26, 27, 28]
       refine W.e (Y.cl func97 (station_Station_Connect.calls A122 HS.j1)) rfl ?_
       rintro _ w ⟨rfl, HS⟩
       replace HS := HS.o1
       refine W.as rfl (W.nx (V.ret (At.blockRet (At.thenRet ?_))))
       refine At.ret1 rfl rfl ⟨_, rfl, ?_⟩
       refine W.as rfl (W.nx (V.ret ?_))
       replace HS := HS.pm [2, 3, 0, 4, 5, 6, 7, 8, 9, 10, 11, 12, 13, 14, 15, 16, 17, 18, 19, 20, 21, 22, 23, 1, 24, 25, 26, 27, 28]
       replace HS := world_World.close tv HS
       replace HS := HS.pm [2, 0, 3, 4, 1, 5, 6]
       replace HS := signalman_player.close tv HS
       replace HS := HS.pk [0, 3] [1, 2]
       cases H
       exact At.ret1 rfl rfl ⟨_, rfl, rfl, HS⟩
      ·replace H := ite_f c120 H
       refine V.condF (sb (dF c120)) (V.seq (V.region (W.r (X.cmp (decide (a1.Kind = 3)) rfl rfl rfl rfl) rfl (W.as rfl (W.nx ?_)))))
       by_cases c123 : a1.Kind = 3
       ·replace H := ite_t c123 H
        refine V.condT (sb (dT c123)) (V.seq (V.region (W.mv rfl ?_)))
        obtain ⟨t124, A125, H⟩ := bind_s H
        replace HS := HS.pm [3, 0, 1, 2, 4, 5, 6, 7, 8, 9, 10, 11, 12, 13, 14, 15, 16, 17, 18, 19, 20, 21, 22, 23, 24, 25, 26, 27, 28]
        refine W.e (Y.cl func98 (station_Station_Close.calls A125 HS.j1)) rfl ?_
        rintro _ w ⟨rfl, HS⟩
        replace HS := HS.o1
        refine W.as rfl (W.nx (V.ret (At.blockRet (At.thenRet ?_))))
        refine At.ret1 rfl rfl ⟨_, rfl, ?_⟩
        refine W.as rfl (W.nx (V.ret ?_))
        replace HS := HS.pm [2, 3, 0, 4, 5, 6, 7, 8, 9, 10, 11, 12, 13, 14, 15, 16, 17, 18, 19, 20, 21, 22, 23, 1, 24, 25, 26, 27, 28]
        replace HS := world_World.close tv HS
        replace HS := HS.pm [2, 0, 3, 4, 1, 5, 6]
        replace HS := signalman_player.close tv HS
        replace HS := HS.pk [0, 3] [1, 2]
        cases H
        exact At.ret1 rfl rfl ⟨_, rfl, rfl, HS⟩
       ·replace H := ite_f c123 H
        refine V.condF (sb (dF c123)) (V.seq (V.region (W.r (X.cmp (decide (a1.Kind = 4)) rfl rfl rfl rfl) rfl (W.as rfl (W.nx ?_)))))
        by_cases c126 : a1.Kind = 4
        ·replace H := ite_t c126 H
         refine V.condT (sb (dT c126)) (V.seq (V.region (W.mv rfl (W.fa fo29_5 rfl (W.ld 0 HS underlying27 rfl rfl rfl rfl ?_)))))
         obtain ⟨t127, A128, H⟩ := bind_s H
         replace HS := HS.pm [3, 0, 1, 2, 4, 5, 6, 7, 8, 9, 10, 11, 12, 13, 14, 15, 16, 17, 18, 19, 20, 21, 22, 23, 24, 25, 26, 27, 28]
         refine W.e (Y.cl func99 (station_Station_Send.calls A128 HS.j1 (rdC.part 27 hr1_5 rfl))) rfl ?_
         rintro _ w ⟨rfl, HS⟩
         replace HS := HS.o1
         refine W.as rfl (W.nx (V.ret (At.blockRet (At.thenRet ?_))))
         refine At.ret1 rfl rfl ⟨_, rfl, ?_⟩
         refine W.as rfl (W.nx (V.ret ?_))
         replace HS := HS.pm [2, 3, 0, 4, 5, 6, 7, 8, 9, 10, 11, 12, 13, 14, 15, 16, 17, 18, 19, 20, 21, 22, 23, 1, 24, 25, 26, 27, 28]
         replace HS := world_World.close tv HS
         replace HS := HS.pm [2, 0, 3, 4, 1, 5, 6]
         replace HS := signalman_player.close tv HS
         replace HS := HS.pk [0, 3] [1, 2]
         cases H
         exact At.ret1 rfl rfl ⟨_, rfl, rfl, HS⟩
        ·replace H := ite_f c126 H
         refine V.condF (sb (dF c126)) (V.seq (V.region (W.r (X.cmp (decide (a1.Kind = 5)) rfl rfl rfl rfl) rfl (W.as rfl (W.nx ?_)))))
         by_cases c129 : a1.Kind = 5
         ·replace H := ite_t c129 H
          refine V.condT (sb (dT c129)) (V.seq (V.region (W.mv rfl (W.fa fo29_1 rfl (W.ld 0 HS underlying3 rfl rfl rfl rfl (W.mv rfl ?_))))))
          refine W.inl (Y.cl (vs := [pt b0, vi a1.At, pt b17_22]) func100 (calls_enter func100 rfl rfl ?_)) rfl rfl rfl
          refine V.seq (V.region (W.mv rfl ?_))
          obtain ⟨t130, A131, H⟩ := bind_s H
          replace HS := HS.pm [3, 0, 1, 2, 4, 5, 6, 7, 8, 9, 10, 11, 12, 13, 14, 15, 16, 17, 18, 19, 20, 21, 22, 23, 24, 25, 26, 27, 28]
          refine W.e (Y.cl func148 (station_Station_Recv.calls A131 HS.j1)) rfl ?_
          rintro _ w ⟨at130_0, ct130_0, rfl, HS⟩
          replace HS := HS.o2
          refine W.mv rfl (W.r (X.extract rfl rfl) rfl (W.r (X.extract rfl rfl) rfl (W.as rfl (W.as rfl (W.nx (V.block (V.loop (σ := Bool × Option Addr × Nat × List Int × station_Station × Option Addr × Nat × List Value × List api_Event) (fun kq (st : Bool × Option Addr × Nat × List Int × station_Station × Option Addr × Nat × List Value × List api_Event) w => match st with | (x134, ra135, rc136, x137, x138, ra139, rc140, rd142, x141) => Sep.St [fsl 1 (.slice ra135 x137.length rc136) x137.length (x137.map (Value.int .u8)), station_Station.at b17_22 x138, blk nb119 (#[vi a1.Kind, vi a1.At, vi a1.Line, vi a1.N, vi a1.Fault, vs sa1_5 a1.B.length sc1_5]) 29, blk b0_18 (#[vi a0.w.c.Mode, vi a0.w.c.Modulus, vi a0.w.c.Window, vi a0.w.c.T1, vi a0.w.c.N2, vi a0.w.c.Hold, vi a0.w.c.Wait, vi a0.w.c.Keep, vi a0.w.c.Queue, vi a0.w.c.Size, vi a0.w.c.Ring, vi a0.w.c.Rate, vi a0.w.c.Bad, vi a0.w.c.Good, vb a0.w.c.Revert, vb a0.w.c.Wide, pt b16_22, pt b17_22, pt b18_22, vs a19_22 a0.w.ways.1.1.sent.length c19_22, vs a20_22 a0.w.ways.1.1.got.length c20_22, pt b21_22, vs a22_22 a0.w.ways.1.2.sent.length c22_22, vs a23_22 a0.w.ways.1.2.got.length c23_22, pt b24_22, vs a25_22 a0.w.ways.2.1.sent.length c25_22, vs a26_22 a0.w.ways.2.1.got.length c26_22, pt b27_22, vs a28_22 a0.w.ways.2.2.sent.length c28_22, vs a29_22 a0.w.ways.2.2.got.length c29_22, vi a0.w.now]) 117, station_Station.at b16_22 a0.w.stations.1, pipe_Pipe.at b18_22 a0.w.ways.1.1.pipe, row 27 1 (.slice a19_22 a0.w.ways.1.1.sent.length c19_22) a0.w.ways.1.1.sent.length d19_22, tie (El.sl (El.int .u8)) d19_22 a0.w.ways.1.1.sent, row 27 1 (.slice a20_22 a0.w.ways.1.1.got.length c20_22) a0.w.ways.1.1.got.length d20_22, tie (El.sl (El.int .u8)) d20_22 a0.w.ways.1.1.got, pipe_Pipe.at b21_22 a0.w.ways.1.2.pipe, row 27 1 (.slice a22_22 a0.w.ways.1.2.sent.length c22_22) a0.w.ways.1.2.sent.length d22_22, tie (El.sl (El.int .u8)) d22_22 a0.w.ways.1.2.sent, row 27 1 (.slice a23_22 a0.w.ways.1.2.got.length c23_22) a0.w.ways.1.2.got.length d23_22, tie (El.sl (El.int .u8)) d23_22 a0.w.ways.1.2.got, pipe_Pipe.at b24_22 a0.w.ways.2.1.pipe, row 27 1 (.slice a25_22 a0.w.ways.2.1.sent.length c25_22) a0.w.ways.2.1.sent.length d25_22, tie (El.sl (El.int .u8)) d25_22 a0.w.ways.2.1.sent, row 27 1 (.slice a26_22 a0.w.ways.2.1.got.length c26_22) a0.w.ways.2.1.got.length d26_22, tie (El.sl (El.int .u8)) d26_22 a0.w.ways.2.1.got, pipe_Pipe.at b27_22 a0.w.ways.2.2.pipe, row 27 1 (.slice a28_22 a0.w.ways.2.2.sent.length c28_22) a0.w.ways.2.2.sent.length d28_22, tie (El.sl (El.int .u8)) d28_22 a0.w.ways.2.2.sent, row 27 1 (.slice a29_22 a0.w.ways.2.2.got.length c29_22) a0.w.ways.2.2.got.length d29_22, tie (El.sl (El.int .u8)) d29_22 a0.w.ways.2.2.got, blk b0 (#[pt b0_18, vs ra139 x141.length rc140]) 72, row 56 4 (.slice ra139 x141.length rc140) x141.length rd142, tie api_Event.El rd142 x141, blk nb1 (#[vi a1.Kind, vi a1.At, vi a1.Line, vi a1.N, vi a1.Fault, vs sa1_5 a1.B.length sc1_5]) 29, R] w0 w ∧ signalman_player_do.l1 kq a0 a1 x134 x137 x138 x141 = some r ∧ kq ≤ k) (fun st => match st with | (x134, ra135, rc136, x137, x138, ra139, rc140, rd142, x141) => [(0, pt b0), (1, vi a1.At), (2, pt b17_22), (6, vs ra135 x137.length rc136), (7, vb x134)]) k (t130.2.1, at130_0, ct130_0, t130.1, t130.2.2, a1_18, c1_18, d1_18, a0.out) ⟨rfl, rfl, rfl, rfl, rfl, tv⟩ ⟨HS, H, Nat.le_refl _⟩ ?_)))))))
          rintro kq143 ⟨x134, ra135, rc136, x137, x138, ra139, rc140, rd142, x141⟩ w ⟨HS, H, hk144⟩
          cases kq143 with
          | zero => exact absurd H (by simp [signalman_player_do.l1])
          | succ kq143 =>
           simp only [signalman_player_do.l1] at H
           refine V.seq (V.seq (V.region (W.mv rfl (W.nx ?_))))
           by_cases c145 : x134 = true
           ·replace H := ite_t c145 H
            refine V.condT (sb c145) (V.skip (At.next (V.seq (V.block (V.dr [9, 13, 14, 17] [12, 15, 16] [(19, pt b0), (20, pt b0), (21, pt b0), (22, po b0 (0 + 1)), (23, vs ra139 x141.length rc140), (24, pt b0), (25, pt b0), (26, po b0 (0 + 0)), (27, pt b0_18), (29, vi a1.At), (30, vs ra135 x137.length rc136)] mo HS ?_)))))
            refine T.ev [(27, _)] [15, 16] [5, 6, 7, 8] ⟨rfl, tv⟩ ⟨.mv 0, .mv 0, .nc 20, .fa 21 fo72_1, .ld 22 25 underlying39, .mv 0, .nc 24, .fa 25 fo72_0, .ld 26 25 underlying70, .mv 1, .mv 6, tv⟩ rfl (fun w HS => ?_)
            obtain ⟨t146, A147, H⟩ := bind_s H
            replace HS := HS.pm [3, 4, 1, 5, 6, 7, 8, 9, 10, 11, 12, 13, 14, 15, 16, 17, 18, 19, 20, 21, 22, 23, 24, 0, 2, 25, 26, 27, 28, 29]
            refine ⟨_, Y.cl func67 (world_World_Now.calls A147 HS.j23), ?_⟩
            rintro _ w ⟨rfl, HS⟩
            replace HS := HS.o23
            refine T.nm [(28, vi t146), (31, Value.agg #[vi t146, vi a1.At, vi (0), vs ra135 x137.length rc136])] HS ⟨.inl ⟨rfl, rfl⟩, ⟨.inr ⟨by decide, rfl⟩, tv⟩⟩ ?_
            refine T.ev [(31, _)] [15, 16] [10, 11, 12] ⟨rfl, tv⟩ ⟨.mv 0, .mv 0, .nc 20, .fa 21 fo72_1, .ld 22 25 underlying39, .mv 1, .mv 6, .ns [(28, _), (29, _), (30, _)] ⟨rfl, rfl, rfl, tv⟩ rfl (fun w HS => X.bd (Value.agg #[vi t146, vi a1.At, vi (0), vs ra135 x137.length rc136]) rfl (fun _ => by kernel_rfl)), tv⟩ rfl (fun w HS => ?_)
            refine ⟨_, Y.lc (e := 56) (sz := 4) [vi t146, vi a1.At, vi (0), vs ra135 x137.length rc136] HS rfl rfl (fun _ => by kernel_rfl), ?_⟩
            rintro _ w ⟨lb148, rfl, HS⟩
            replace HS := St.put (A := tie api_Event.El ([]) ([] : List api_Event)) (fun _ => tie.nil) HS
            replace HS := HS.more 25 rfl (fun _ t => t) fsl.pers
            replace HS := api_Event.pack (x := ({ Step := t146, At := a1.At, Ind := 0, B := x137 } : api_Event)) HS
            replace HS := HS.fr 1
            replace HS := HS.fr 1
            replace HS := St.tie_cons HS
            refine T.nw HS ?_
            refine T.ev [(23, _), (32, _)] [] [1, 2, 3, 4] ⟨rfl, rfl, tv⟩ ⟨.mv 0, .mv 0, .nc 20, .fa 21 fo72_1, .ld 22 27 underlying39, tv⟩ rfl (fun w HS => ?_)
            obtain ⟨c151, H⟩ := ite_n H
            refine ⟨_, Y.app (xs := x141) (ys := ([({ Step := t146, At := a1.At, Ind := 0, B := x137 } : api_Event)] : List api_Event)) 28 underlying39 ap56 rfl (by decide) HS rfl rfl rfl (rdC.at 1 row_rd HS rfl) (St.tie_one 0 HS rfl) (by omega) (by omega), ?_⟩
            rintro _ w ⟨ra152, rc153, rfl, HS⟩
            replace HS := HS.fr 29
            replace HS := St.tie_app 1 HS rfl
            refine T.nm [(33, vs ra152 (x141 ++ ([({ Step := t146, At := a1.At, Ind := 0, B := x137 } : api_Event)] : List api_Event)).length rc153), (34, pt b0), (35, po b0 (0 + 1))] HS ⟨.inl ⟨rfl, rfl⟩, ⟨.inr ⟨by decide, rfl⟩, ⟨.inr ⟨by decide, rfl⟩, tv⟩⟩⟩ ?_
            refine T.ev [(33, _), (35, _)] [] [0, 15, 16] ⟨rfl, rfl, tv⟩ ⟨.mv 0, .nc 19, .fa 34 fo72_1, tv⟩ rfl (fun w HS => ?_)
            refine ⟨_, Y.sto 28 1 HS inf39 rfl rfl rfl rfl rfl rfl, ?_⟩
            rintro _ w HS
            refine T.nn HS ?_
            refine T.fn [(0, _), (1, _), (2, _)] ⟨rfl, rfl, rfl, tv⟩ tv (fun w HS => ?_)
            refine At.blockEnd (At.next (V.region (W.mv rfl ?_)))
            obtain ⟨t154, A155, H⟩ := bind_s H
            replace HS := HS.pm [5, 0, 1, 2, 3, 4, 6, 7, 8, 9, 10, 11, 12, 13, 14, 15, 16, 17, 18, 19, 20, 21, 22, 23, 24, 25, 26, 27, 28, 29, 30, 31]
            refine W.e (Y.cl func148 (station_Station_Recv.calls A155 HS.j1)) rfl ?_
            rintro _ w ⟨at154_0, ct154_0, rfl, HS⟩
            replace HS := HS.o2
            refine W.mv rfl (W.r (X.extract rfl rfl) rfl (W.r (X.extract rfl rfl) rfl (W.as rfl (W.as rfl (W.nil ?_)))))
            replace HS := HS.pk [0, 1, 28, 5, 6, 7, 8, 9, 10, 11, 12, 13, 14, 15, 16, 17, 18, 19, 20, 21, 22, 23, 24, 25, 26, 29, 30, 2, 31, 32] [3, 4, 27]
            exact At.round kq143 (by omega) (t154.2.1, at154_0, ct154_0, t154.1, t154.2.2, ra152, rc153, (rd142 ++ ([vi t146, vi a1.At, vi (0), vs ra135 x137.length rc136])), x141 ++ ([({ Step := t146, At := a1.At, Ind := 0, B := x137 } : api_Event)] : List api_Event)) ⟨rfl, rfl, rfl, rfl, rfl, tv⟩ ⟨HS, H, by omega⟩
           ·replace H := ite_f c145 H
            refine V.condF (sb (b_f c145)) (V.exit (At.thenExit (At.thenExit (At.blockExit ?_))))
            refine At.end0 rfl ⟨_, rfl, ?_⟩
            refine W.nx (V.seq (V.region (W.as rfl (W.nx (V.ret (At.blockRet (At.thenRet ?_)))))))
            refine At.ret1 rfl rfl ⟨_, rfl, ?_⟩
            refine W.as rfl (W.nx (V.ret ?_))
            replace HS := HS.pm [3, 4, 1, 5, 6, 7, 8, 9, 10, 11, 12, 13, 14, 15, 16, 17, 18, 19, 20, 21, 22, 23, 24, 0, 2, 25, 26, 27, 28, 29]
            replace HS := world_World.close tv HS
            replace HS := HS.pm [3, 0, 4, 5, 1, 2, 6, 7]
            replace HS := signalman_player.close tv HS
            replace HS := HS.pk [0, 4] [1, 2, 3]
            cases H
            exact At.ret1 rfl rfl ⟨_, rfl, rfl, HS⟩
         ·replace H := ite_f c129 H
          refine V.condF (sb (dF c129)) (V.seq (V.region (W.r (X.cmp (decide (a1.Kind = 6)) rfl rfl rfl rfl) rfl (W.as rfl (W.nx ?_)))))
          by_cases c156 : a1.Kind = 6
          ·replace H := ite_t c156 H
           refine V.condT (sb (dT c156)) (V.seq (V.region (W.mv rfl (W.fa fo29_3 rfl (W.ld 0 HS underlying3 rfl rfl rfl rfl ?_)))))
           obtain ⟨t157, A158, H⟩ := bind_s H
           replace HS := HS.pm [3, 0, 1, 2, 4, 5, 6, 7, 8, 9, 10, 11, 12, 13, 14, 15, 16, 17, 18, 19, 20, 21, 22, 23, 24, 25, 26, 27, 28]
           refine W.e (Y.cl func101 (station_Station_Command.calls A158 HS.j1)) rfl ?_
           rintro _ w ⟨rfl, HS⟩
           replace HS := HS.o1
           refine W.r (X.not rfl) rfl ?_
           obtain ⟨t159, A160, H⟩ := bind_s H
           refine W.e (Y.cl func62 (signalman_wrong.calls A160 HS.j0)) rfl ?_
           rintro _ w ⟨rfl, HS⟩
           replace HS := HS.o0
           refine W.as rfl (W.nx (V.ret (At.blockRet (At.thenRet ?_))))
           refine At.ret1 rfl rfl ⟨_, rfl, ?_⟩
           refine W.as rfl (W.nx (V.ret ?_))
           replace HS := HS.pm [2, 3, 0, 4, 5, 6, 7, 8, 9, 10, 11, 12, 13, 14, 15, 16, 17, 18, 19, 20, 21, 22, 23, 1, 24, 25, 26, 27, 28]
           replace HS := world_World.close tv HS
           replace HS := HS.pm [2, 0, 3, 4, 1, 5, 6]
           replace HS := signalman_player.close tv HS
           replace HS := HS.pk [0, 3] [1, 2]
           cases H
           exact At.ret1 rfl rfl ⟨_, rfl, rfl, HS⟩
          ·replace H := ite_f c156 H
           refine V.condF (sb (dF c156)) (V.skip (At.blockEnd (At.next (V.seq (V.region (W.as rfl (W.nx (V.ret ?_))))))))
           refine At.ret1 rfl rfl ⟨_, rfl, ?_⟩
           refine W.as rfl (W.nx (V.ret ?_))
           replace HS := HS.pm [1, 2, 3, 4, 5, 6, 7, 8, 9, 10, 11, 12, 13, 14, 15, 16, 17, 18, 19, 20, 21, 22, 23, 0, 24, 25, 26, 27, 28]
           replace HS := world_World.close tv HS
           replace HS := HS.pm [2, 0, 3, 4, 1, 5, 6]
           replace HS := signalman_player.close tv HS
           replace HS := HS.pk [0, 3] [1, 2]
           cases H
           exact At.ret1 rfl rfl ⟨_, rfl, rfl, HS⟩
    ·replace H := ite_f c21 H
     refine V.condT (sb (n_f (dF c21))) (V.seq (V.region (W.as rfl (W.nx (V.ret (At.thenRet ?_))))))
     refine At.ret1 rfl rfl ⟨_, rfl, ?_⟩
     refine T.nm [(44, Value.pointer none), (5, Value.pointer none)] HS ⟨.inl ⟨rfl, rfl⟩, ⟨.inr ⟨by decide, rfl⟩, tv⟩⟩ ?_
     refine T.fn [(0, _), (3, _), (5, _)] ⟨rfl, rfl, rfl, tv⟩ ⟨.as 44, tv⟩ (fun w HS => ?_)
     refine At.next (V.seq (V.seq (V.region (W.mv rfl (W.r (X.eqP underlying69 rfl rfl) rfl (W.nx (V.condT rfl (V.seq (V.region (W.as rfl (W.nx (V.ret (At.thenRet ?_)))))))))))))
     replace HS := signalman_player.close tv HS
     replace HS := HS.pk [0, 2] [1]
     cases H
     exact At.ret1 rfl rfl ⟨_, rfl, rfl, HS⟩
   ·replace H := ite_f c20 H
    refine W.pass 5 rfl (sb (dF c20)) rfl rfl (W.pass 5 rfl (sb (dF c20)) rfl rfl (W.r (X.pickF (sb (dF c20)) rfl) rfl (W.as rfl (W.nx (V.ret ?_)))))
    refine At.ret1 rfl rfl ⟨_, rfl, ?_⟩
    refine W.r (X.not rfl) rfl (W.nx (V.condT rfl (V.seq (V.region (W.as rfl (W.nx (V.ret (At.thenRet ?_))))))))
    refine At.ret1 rfl rfl ⟨_, rfl, ?_⟩
    refine T.nm [(44, Value.pointer none), (5, Value.pointer none)] HS ⟨.inl ⟨rfl, rfl⟩, ⟨.inr ⟨by decide, rfl⟩, tv⟩⟩ ?_
    refine T.fn [(0, _), (3, _), (5, _)] ⟨rfl, rfl, rfl, tv⟩ ⟨.as 44, tv⟩ (fun w HS => ?_)
    refine At.next (V.seq (V.seq (V.region (W.mv rfl (W.r (X.eqP underlying69 rfl rfl) rfl (W.nx (V.condT rfl (V.seq (V.region (W.as rfl (W.nx (V.ret (At.thenRet ?_)))))))))))))
    replace HS := signalman_player.close tv HS
    replace HS := HS.pk [0, 2] [1]
    cases H
    exact At.ret1 rfl rfl ⟨_, rfl, rfl, HS⟩
def api_Op.El : El api_Op := El.iso (El.prod (El.int .i64) (El.prod (El.int .i64) (El.prod (El.int .i64) (El.prod (El.int .i64) (El.prod (El.int .i64) (El.prod (El.sl (El.int .u8)) El.unit)))))) (fun x => (x.Kind, (x.At, (x.Line, (x.N, (x.Fault, (x.B, ())))))))
theorem api_Op.unpack {c : List Value} {x : api_Op} {L : List As} {w0 w : World} (hs : Sep.St (api_Op.El.p c x :: L) w0 w) : ∃ a5 : Option Addr, ∃ m5 : Nat, c = [vi x.Kind, vi x.At, vi x.Line, vi x.N, vi x.Fault, vs a5 x.B.length m5] ∧ Sep.St (fsl 1 (.slice a5 x.B.length m5) x.B.length (x.B.map (Value.int .u8)) :: L) w0 w := by
 have hs : Sep.St ((El.prod (El.int .i64) (El.prod (El.int .i64) (El.prod (El.int .i64) (El.prod (El.int .i64) (El.prod (El.int .i64) (El.prod (El.sl (El.int .u8)) El.unit)))))).p c (x.Kind, (x.At, (x.Line, (x.N, (x.Fault, (x.B, ())))))) :: L) w0 w := hs
 obtain ⟨c0, r0, e0, hs⟩ := St.prod_open hs
 have hs : Sep.St ((El.int .i64).p c0 x.Kind :: (El.prod (El.int .i64) (El.prod (El.int .i64) (El.prod (El.int .i64) (El.prod (El.int .i64) (El.prod (El.sl (El.int .u8)) El.unit))))).p r0 (x.At, (x.Line, (x.N, (x.Fault, (x.B, ()))))) :: L) w0 w := hs
 obtain ⟨q0, hs⟩ := St.int_open hs
 have hs : Sep.St ((El.prod (El.int .i64) (El.prod (El.int .i64) (El.prod (El.int .i64) (El.prod (El.int .i64) (El.prod (El.sl (El.int .u8)) El.unit))))).p r0 (x.At, (x.Line, (x.N, (x.Fault, (x.B, ()))))) :: L) w0 w := hs
 obtain ⟨c1, r1, e1, hs⟩ := St.prod_open hs
 have hs : Sep.St ((El.int .i64).p c1 x.At :: (El.prod (El.int .i64) (El.prod (El.int .i64) (El.prod (El.int .i64) (El.prod (El.sl (El.int .u8)) El.unit)))).p r1 (x.Line, (x.N, (x.Fault, (x.B, ())))) :: L) w0 w := hs
 obtain ⟨q1, hs⟩ := St.int_open hs
 have hs : Sep.St ((El.prod (El.int .i64) (El.prod (El.int .i64) (El.prod (El.int .i64) (El.prod (El.sl (El.int .u8)) El.unit)))).p r1 (x.Line, (x.N, (x.Fault, (x.B, ())))) :: L) w0 w := hs
 obtain ⟨c2, r2, e2, hs⟩ := St.prod_open hs
 have hs : Sep.St ((El.int .i64).p c2 x.Line :: (El.prod (El.int .i64) (El.prod (El.int .i64) (El.prod (El.sl (El.int .u8)) El.unit))).p r2 (x.N, (x.Fault, (x.B, ()))) :: L) w0 w := hs
 obtain ⟨q2, hs⟩ := St.int_open hs
 have hs : Sep.St ((El.prod (El.int .i64) (El.prod (El.int .i64) (El.prod (El.sl (El.int .u8)) El.unit))).p r2 (x.N, (x.Fault, (x.B, ()))) :: L) w0 w := hs
 obtain ⟨c3, r3, e3, hs⟩ := St.prod_open hs
 have hs : Sep.St ((El.int .i64).p c3 x.N :: (El.prod (El.int .i64) (El.prod (El.sl (El.int .u8)) El.unit)).p r3 (x.Fault, (x.B, ())) :: L) w0 w := hs
 obtain ⟨q3, hs⟩ := St.int_open hs
 have hs : Sep.St ((El.prod (El.int .i64) (El.prod (El.sl (El.int .u8)) El.unit)).p r3 (x.Fault, (x.B, ())) :: L) w0 w := hs
 obtain ⟨c4, r4, e4, hs⟩ := St.prod_open hs
 have hs : Sep.St ((El.int .i64).p c4 x.Fault :: (El.prod (El.sl (El.int .u8)) El.unit).p r4 (x.B, ()) :: L) w0 w := hs
 obtain ⟨q4, hs⟩ := St.int_open hs
 have hs : Sep.St ((El.prod (El.sl (El.int .u8)) El.unit).p r4 (x.B, ()) :: L) w0 w := hs
 obtain ⟨c5, r5, e5, hs⟩ := St.prod_open hs
 have hs : Sep.St ((El.sl (El.int .u8)).p c5 x.B :: El.unit.p r5 () :: L) w0 w := hs
 obtain ⟨a5, m5, q5, hs⟩ := St.sl_openF (Value.int .u8) (fun t => tie_int t) hs
 have hs : Sep.St (fsl 1 (.slice a5 x.B.length m5) x.B.length (x.B.map (Value.int .u8)) :: El.unit.p r5 () :: L) w0 w := hs
 replace hs := hs.front 1 rfl
 have hs : Sep.St (El.unit.p r5 () :: fsl 1 (.slice a5 x.B.length m5) x.B.length (x.B.map (Value.int .u8)) :: L) w0 w := hs
 obtain ⟨qu, hs⟩ := St.unit_open hs
 exact ⟨a5, m5, by rw [e0, q0, e1, q1, e2, q2, e3, q3, e4, q4, e5, q5, qu]; rfl, hs⟩
theorem api_Op.pack {a5 : Option Addr} {m5 : Nat} {x : api_Op} {L : List As} {w0 w : World} (hs : Sep.St (fsl 1 (.slice a5 x.B.length m5) x.B.length (x.B.map (Value.int .u8)) :: L) w0 w) : Sep.St (api_Op.El.p [vi x.Kind, vi x.At, vi x.Line, vi x.N, vi x.Fault, vs a5 x.B.length m5] x :: L) w0 w := by
 have h1 := St.join (m := [fsl 1 (.slice a5 x.B.length m5) x.B.length (x.B.map (Value.int .u8))]) hs
 exact h1.mono fun h hh => ⟨[vi x.Kind], [vi x.At, vi x.Line, vi x.N, vi x.Fault, vs a5 x.B.length m5], rfl, rfl, ⟨[vi x.At], [vi x.Line, vi x.N, vi x.Fault, vs a5 x.B.length m5], rfl, rfl, ⟨[vi x.Line], [vi x.N, vi x.Fault, vs a5 x.B.length m5], rfl, rfl, ⟨[vi x.N], [vi x.Fault, vs a5 x.B.length m5], rfl, rfl, ⟨[vi x.Fault], [vs a5 x.B.length m5], rfl, rfl, ⟨[vs a5 x.B.length m5], [], rfl, ⟨_, _, rfl, Sp.fsl 0 hh rfl, int_tie⟩, rfl⟩⟩⟩⟩⟩⟩
mutual
def signalman_play.l0 : Nat → (List api_Op) → Int → signalman_player → (List Int) → Option (Option signalman_player × List Int)
 | 0, _, _, _, _ => none
 | k + 1, a1, x22, x23, x26 => (if x22 < (a1.length : Int) then (if 0 ≤ x22 ∧ x22 < (a1.length : Int) then ((signalman_player_do.f k x23 (a1.getD x22.toNat default)).bind fun t39 => (if (x26.length : Int) + ([t39.1] : List Int).length ≤ 1099511627776 then (signalman_play.l0 k a1 (w64 (x22 + 1)) t39.2 (x26 ++ ([t39.1] : List Int))) else none)) else none) else ((signalman_player_inds.f k x23).bind fun t47 => some (some t47, x26)))
end
def signalman_play.f (k : Nat) (a0 : api_Config) (a1 : List api_Op) : Option (Option signalman_player × List Int) := ((world_New.f k a0).bind fun t2 => (if t2.1.isNone = true then (if t2.2 = 0 then none else some (none, ([t2.2] : List Int))) else (if t2.2 = 0 then (signalman_play.l0 k a1 0 ({ w := t2.1.getD default, out := ([] : List api_Event) } : signalman_player) ([] : List Int)) else some (none, ([t2.2] : List Int)))))
theorem signalman_play.calls {k : Nat} {a0 : api_Config} {a1 : List api_Op} {R : As} {w0 w : World} {sa1 : Option Addr} {sc1 : Nat} {sd1 : List Value} {r : Option signalman_player × List Int} (H : signalman_play.f k a0 a1 = some r) (HS : Sep.St [R] w0 w) (hr1 : rdC R 6 (.slice sa1 a1.length sc1) a1.length sd1) (ht1 : ∀ h, R h → tie api_Op.El sd1 a1 h) : Calls Tryz.prog 29 #[Value.agg #[vi a0.Mode, vi a0.Modulus, vi a0.Window, vi a0.T1, vi a0.N2, vi a0.Hold, vi a0.Wait, vi a0.Keep, vi a0.Queue, vi a0.Size, vi a0.Ring, vi a0.Rate, vi a0.Bad, vi a0.Good, vb a0.Revert, vb a0.Wide], vs sa1 a1.length sc1] w (Ret fun u w => ∃ (bq0 : Nat) (aq1 : Option Addr) (cq1 : Nat), u = Value.tuple #[optv bq0 r.1, vs aq1 r.2.length cq1] ∧ Sep.St [optAt signalman_player.at bq0 r.1, row 44 1 (.slice aq1 r.2.length cq1) r.2.length (r.2.map (Value.int .i64)), R] w0 w) := by
 unfold signalman_play.f at H
 refine calls_enter func29 rfl rfl ?_
 have H : _ = some r := H
 replace HS := St.more 0 HS rfl ht1 tie.pers
 refine V.seq (V.region (W.e (Y.box HS rfl) rfl ?_))
 rintro _ w ⟨nb1, rfl, HS⟩
 refine W.as rfl (W.as rfl (W.nx (V.seq (V.region (W.r (X.loadSt 0 [vi a0.Mode, vi a0.Modulus, vi a0.Window, vi a0.T1, vi a0.N2, vi a0.Hold, vi a0.Wait, vi a0.Keep, vi a0.Queue, vi a0.Size, vi a0.Ring, vi a0.Rate, vi a0.Bad, vi a0.Good, vb a0.Revert, vb a0.Wide] HS rfl underlying24 rfl inf24 rfl rfl) rfl ?_)))))
 obtain ⟨t2, A3, H⟩ := bind_s H
 by_cases c4 : t2.1.isNone = true
 ·replace H := ite_t c4 H
  refine W.e (Y.cl func42 (world_New.calls A3 HS.j0)) rfl ?_
  rintro _ w ⟨bt2_0, rfl, HS⟩
  replace HS := HS.o1
  replace HS := St.optN c4 HS
  rw [optv_n c4]
  refine W.mv rfl (W.r (X.extract rfl rfl) rfl (W.r (X.extract rfl rfl) rfl (W.as rfl (W.as rfl (W.nx (V.seq (V.seq (V.region (W.mv rfl (W.r (X.cmp (!(decide (t2.2 = 0))) rfl rfl rfl rfl) rfl (W.nx ?_)))))))))))
  by_cases c9 : t2.2 = 0
  ·replace H := ite_t c9 H
   refine V.condF (sb (n_t (dT c9))) (V.skip (At.next (V.seq (V.region (W.mv rfl ?_)))))
   exact nomatch H
  ·replace H := ite_f c9 H
   refine V.condT (sb (n_f (dF c9))) (V.seq (V.region (W.mv rfl (W.e (Y.ls (e := 44) (Value.int .i64) ([t2.2] : List Int) HS rfl rfl (fun _ => by kernel_rfl)) rfl ?_))))
   rintro _ w ⟨lb12, rfl, HS⟩
   refine W.as rfl (W.as rfl (W.nx (V.ret (At.thenRet ?_))))
   replace HS := HS.more (B := optAt signalman_player.at 0 none) 0 rfl (fun _ _ => tv) (fun _ => tv)
   replace HS := HS.pk [0, 1, 4] [2, 3]
   cases H
   exact At.ret2 rfl rfl rfl ⟨_, rfl, 0, (some ⟨lb12, 0, none⟩), 1, rfl, HS⟩
 ·replace H := ite_f c4 H
  refine W.e (Y.cl func42 (world_New.calls A3 HS.j0)) rfl ?_
  rintro _ w ⟨bt2_0, rfl, HS⟩
  replace HS := HS.o1
  replace HS := St.optS default c4 HS
  rw [optv_s c4]
  refine W.mv rfl (W.r (X.extract rfl rfl) rfl (W.r (X.extract rfl rfl) rfl (W.as rfl (W.as rfl (W.nx (V.seq (V.seq (V.region (W.mv rfl (W.r (X.cmp (!(decide (t2.2 = 0))) rfl rfl rfl rfl) rfl (W.nx ?_)))))))))))
  by_cases c18 : t2.2 = 0
  ·replace H := ite_t c18 H
   refine V.condF (sb (n_t (dT c18))) (V.skip (At.next (V.seq (V.region (W.mv rfl (W.r (X.bd (Value.agg #[pt bt2_0, vs none 0 0]) rfl (fun _ => by kernel_rfl)) rfl (W.e (Y.box HS rfl) rfl ?_)))))))
   rintro _ w ⟨nb19, rfl, HS⟩
   refine W.as rfl (W.nx (V.seq (V.region (W.as rfl (W.nx (V.seq (V.seq (V.region (W.mv rfl (W.r (X.lenSl underlying30 rfl) rfl (W.mv rfl (W.nx (V.block ?_)))))))))))))
   replace HS := row_nilF (Value.int .i64) 44 1 HS
   replace HS := row_nilE api_Event.El 56 4 HS
   replace HS := HS.pm [3, 4, 0, 1, 2, 5, 6, 7]
   replace HS := signalman_player.close (l1 := ([] : List api_Event)) tv HS
   replace HS := HS.pm [2, 0, 1, 3, 4]
   replace HS := api_Config.close tv HS
   refine V.loop (σ := Int × signalman_player × Option Addr × Nat × List Int) (fun kq (st : Int × signalman_player × Option Addr × Nat × List Int) w => match st with | (x22, x23, ra24, rc25, x26) => Sep.St [api_Config.at nb1 a0, signalman_player.at nb19 x23, row 44 1 (.slice ra24 x26.length rc25) x26.length (x26.map (Value.int .i64)), tie api_Op.El sd1 a1, R] w0 w ∧ signalman_play.l0 kq a1 x22 x23 x26 = some r ∧ kq ≤ k) (fun st => match st with | (x22, x23, ra24, rc25, x26) => [(8, pt nb19), (9, vs ra24 x26.length rc25), (24, vs sa1 a1.length sc1), (25, vi (a1.length : Int)), (26, vi x22)]) k (0, ({ w := t2.1.getD default, out := ([] : List api_Event) } : signalman_player), none, 0, ([] : List Int)) ⟨rfl, rfl, rfl, rfl, rfl, tv⟩ ⟨HS, H, Nat.le_refl _⟩ ?_
   rintro kq27 ⟨x22, x23, ra24, rc25, x26⟩ w ⟨HS, H, hk28⟩
   cases kq27 with
   | zero => exact absurd H (by simp [signalman_play.l0])
   | succ kq27 =>
    simp only [signalman_play.l0] at H
    refine V.seq (V.region (W.r (X.cmp (decide (x22 < (a1.length : Int))) rfl rfl rfl rfl) rfl (W.nx (V.seq ?_))))
    by_cases c29 : x22 < (a1.length : Int)
    ·replace H := ite_t c29 H
     refine V.condT (sb (dT c29)) (V.skip (At.next (V.seq (V.block (V.seq (V.region ?_))))))
     obtain ⟨c30, H⟩ := ite_n H
     obtain ⟨eb31, eo32, hh⟩ := (rdC.at 4 hr1 HS rfl).some (by decide) c30.1 c30.2; subst hh
     refine W.r (X.indexSl underlying30 inf29 rfl rfl c30.1 c30.2) rfl ?_
     obtain ⟨ec33, hc34, HS⟩ := St.tie_at 3 HS rfl default c30.1 c30.2
     obtain ⟨ea35, em36, he37, HN⟩ := api_Op.unpack HS; clear HS; subst he37; have HS := HN
     refine W.r (X.loadEl underlying29 rfl inf29 rfl (vs := [vi ((a1.getD x22.toNat default).Kind), vi ((a1.getD x22.toNat default).At), vi ((a1.getD x22.toNat default).Line), vi ((a1.getD x22.toNat default).N), vi ((a1.getD x22.toNat default).Fault), vs ea35 ((a1.getD x22.toNat default).B).length em36]) ((rdC.at 5 hr1 HS rfl).cellsAt0 (fun j u h => hc34 j u h))) rfl (W.e (Y.alloc (z := Value.agg (#[vi (0), vi (0), vi (0), vi (0), vi (0), vs none 0 0])) HS ze29) rfl ?_)
     rintro _ w ⟨nb38, rfl, HS⟩
     refine W.en (Y.storeSt (c' := #[vi ((a1.getD x22.toNat default).Kind), vi ((a1.getD x22.toNat default).At), vi ((a1.getD x22.toNat default).Line), vi ((a1.getD x22.toNat default).N), vi ((a1.getD x22.toNat default).Fault), vs ea35 ((a1.getD x22.toNat default).B).length em36]) 0 [vi ((a1.getD x22.toNat default).Kind), vi ((a1.getD x22.toNat default).At), vi ((a1.getD x22.toNat default).Line), vi ((a1.getD x22.toNat default).N), vi ((a1.getD x22.toNat default).Fault), vs ea35 ((a1.getD x22.toNat default).B).length em36] HS rfl inf29 rfl rfl rfl rfl rfl rfl) rfl ?_
     rintro _ w HS
     refine W.nx (V.region (W.mv rfl (W.mv rfl (W.r (X.loadSt 0 [vi ((a1.getD x22.toNat default).Kind), vi ((a1.getD x22.toNat default).At), vi ((a1.getD x22.toNat default).Line), vi ((a1.getD x22.toNat default).N), vi ((a1.getD x22.toNat default).Fault), vs ea35 ((a1.getD x22.toNat default).B).length em36] HS rfl underlying29 rfl inf29 rfl rfl) rfl ?_))))
     obtain ⟨t39, A40, H⟩ := bind_s H
     replace HS := HS.pm [3, 0, 1, 2, 4, 5, 6]
     refine W.e (Y.cl func43 (signalman_player_do.calls A40 HS.j1 (rdC.part 1 fsl.rd rfl))) rfl ?_
     rintro _ w ⟨rfl, HS⟩
     replace HS := HS.o1
     refine W.e (Y.ls (e := 44) (Value.int .i64) ([t39.1] : List Int) HS rfl rfl (fun _ => by kernel_rfl)) rfl ?_
     rintro _ w ⟨lb43, rfl, HS⟩
     obtain ⟨c44, H⟩ := ite_n H
     refine W.e (Y.appF (Value.int .i64) (fun _ => rfl) 5 underlying40 ap44 rfl HS rfl rfl rfl (rdC.at 0 row_rd HS rfl) (by omega) (by omega)) rfl ?_
     rintro _ w ⟨ra45, rc46, rfl, HS⟩
     refine W.as rfl (W.nil (At.blockEnd (At.next (V.region (W.r (X.add rfl rfl) rfl (W.mv rfl (W.nil ?_)))))))
     replace HS := HS.pk [4, 1, 5, 6, 7] [0, 2, 3]
     exact At.round kq27 (by omega) (w64 (x22 + 1), t39.2, ra45, rc46, x26 ++ ([t39.1] : List Int)) ⟨rfl, rfl, rfl, rfl, rfl, tv⟩ ⟨HS, H, by omega⟩
    ·replace H := ite_f c29 H
     refine V.condF (sb (dF c29)) (V.exit (At.thenExit (At.thenExit (At.blockExit (At.next (V.seq (V.region (W.mv rfl ?_))))))))
     obtain ⟨t47, A48, H⟩ := bind_s H
     replace HS := HS.pm [1, 0, 2, 3, 4]
     refine W.e (Y.cl func44 (signalman_player_inds.calls A48 HS.j1)) rfl ?_
     rintro _ w ⟨rfl, HS⟩
     replace HS := HS.o1
     refine W.nx (V.seq (V.region (W.mv rfl (W.mv rfl (W.as rfl (W.as rfl (W.nx (V.ret ?_))))))))
     replace HS := HS.pk [0, 2, 4] [1, 3]
     cases H
     exact At.ret2 rfl rfl rfl ⟨_, rfl, nb19, ra24, rc25, rfl, HS⟩
  ·replace H := ite_f c18 H
   refine V.condT (sb (n_f (dF c18))) (V.seq (V.region (W.mv rfl (W.e (Y.ls (e := 44) (Value.int .i64) ([t2.2] : List Int) HS rfl rfl (fun _ => by kernel_rfl)) rfl ?_))))
   rintro _ w ⟨lb51, rfl, HS⟩
   refine W.as rfl (W.as rfl (W.nx (V.ret (At.thenRet ?_))))
   replace HS := HS.more (B := optAt signalman_player.at 0 none) 0 rfl (fun _ _ => tv) (fun _ => tv)
   replace HS := HS.pk [0, 1, 5] [2, 3, 4]
   cases H
   exact At.ret2 rfl rfl rfl ⟨_, rfl, 0, (some ⟨lb51, 0, none⟩), 1, rfl, HS⟩
def signalman_Play.f (k : Nat) (a0 : api_Config) (a1 : List api_Op) : Option (List api_Event × List Int) := ((signalman_play.f k a0 a1).bind fun t2 => (if t2.1.isNone = true then some (([] : List api_Event), t2.2) else some ((t2.1.getD default).out, t2.2)))
theorem signalman_Play.calls {k : Nat} {a0 : api_Config} {a1 : List api_Op} {R : As} {w0 w : World} {sa1 : Option Addr} {sc1 : Nat} {sd1 : List Value} {r : List api_Event × List Int} (H : signalman_Play.f k a0 a1 = some r) (HS : Sep.St [R] w0 w) (hr1 : rdC R 6 (.slice sa1 a1.length sc1) a1.length sd1) (ht1 : ∀ h, R h → tie api_Op.El sd1 a1 h) : Calls Tryz.prog 17 #[Value.agg #[vi a0.Mode, vi a0.Modulus, vi a0.Window, vi a0.T1, vi a0.N2, vi a0.Hold, vi a0.Wait, vi a0.Keep, vi a0.Queue, vi a0.Size, vi a0.Ring, vi a0.Rate, vi a0.Bad, vi a0.Good, vb a0.Revert, vb a0.Wide], vs sa1 a1.length sc1] w (Ret fun u w => ∃ (aq0 : Option Addr) (cq0 : Nat) (dq0 : List Value) (aq1 : Option Addr) (cq1 : Nat), u = Value.tuple #[vs aq0 r.1.length cq0, vs aq1 r.2.length cq1] ∧ Sep.St [row 56 4 (.slice aq0 r.1.length cq0) r.1.length dq0, tie api_Event.El dq0 r.1, row 44 1 (.slice aq1 r.2.length cq1) r.2.length (r.2.map (Value.int .i64)), R] w0 w) := by
 unfold signalman_Play.f at H
 refine calls_enter func17 rfl rfl ?_
 have H : _ = some r := H
 replace HS := St.more 0 HS rfl ht1 tie.pers
 refine V.seq (V.region (W.e (Y.box HS rfl) rfl ?_))
 rintro _ w ⟨nb1, rfl, HS⟩
 refine W.as rfl (W.as rfl (W.nx (V.seq (V.region (W.r (X.loadSt 0 [vi a0.Mode, vi a0.Modulus, vi a0.Window, vi a0.T1, vi a0.N2, vi a0.Hold, vi a0.Wait, vi a0.Keep, vi a0.Queue, vi a0.Size, vi a0.Ring, vi a0.Rate, vi a0.Bad, vi a0.Good, vb a0.Revert, vb a0.Wide] HS rfl underlying24 rfl inf24 rfl rfl) rfl (W.mv rfl ?_))))))
 obtain ⟨t2, A3, H⟩ := bind_s H
 by_cases c4 : t2.1.isNone = true
 ·replace H := ite_t c4 H
  refine W.e (Y.cl func29 (signalman_play.calls A3 HS.j0 (rdC.part 2 hr1 rfl) (fun h hh => let ⟨_, l, t⟩ := Sp.has 1 hh rfl; tie.mono t l))) rfl ?_
  rintro _ w ⟨bt2_0, at2_1, ct2_1, rfl, HS⟩
  replace HS := HS.o2
  replace HS := St.optN c4 HS
  rw [optv_n c4]
  refine W.mv rfl (W.r (X.extract rfl rfl) rfl (W.r (X.extract rfl rfl) rfl (W.as rfl (W.as rfl (W.nx (V.seq (V.seq (V.region (W.mv rfl (W.r (X.eqP underlying66 rfl rfl) rfl (W.nx (V.condT rfl (V.seq (V.region (W.mv rfl (W.as rfl (W.as rfl (W.nx (V.ret (At.thenRet ?_))))))))))))))))))))
  replace HS := row_nilE api_Event.El 56 4 HS
  replace HS := HS.pk [0, 1, 2, 5] [3, 4]
  cases H
  exact At.ret2 rfl rfl rfl ⟨_, rfl, none, 0, [], at2_1, ct2_1, rfl, HS⟩
 ·replace H := ite_f c4 H
  refine W.e (Y.cl func29 (signalman_play.calls A3 HS.j0 (rdC.part 2 hr1 rfl) (fun h hh => let ⟨_, l, t⟩ := Sp.has 1 hh rfl; tie.mono t l))) rfl ?_
  rintro _ w ⟨bt2_0, at2_1, ct2_1, rfl, HS⟩
  replace HS := HS.o2
  replace HS := St.optS default c4 HS
  rw [optv_s c4]
  refine W.mv rfl (W.r (X.extract rfl rfl) rfl (W.r (X.extract rfl rfl) rfl (W.as rfl (W.as rfl (W.nx (V.seq (V.seq (V.region (W.mv rfl (W.r (X.eqP underlying66 rfl rfl) rfl (W.nx (V.condF rfl (V.skip (At.next (V.seq (V.region (W.mv rfl (W.nc rfl ?_))))))))))))))))))
  obtain ⟨b0_9, a1_9, c1_9, d1_9, hi10, HS⟩ := signalman_player.open HS
  refine W.fa fo72_1 rfl (W.ld 0 HS underlying39 rfl rfl rfl rfl (W.mv rfl (W.as rfl (W.as rfl (W.nx (V.ret ?_))))))
  replace HS := HS.pk [2, 3, 4, 7] [0, 1, 5, 6]
  cases H
  exact At.ret2 rfl rfl rfl ⟨_, rfl, a1_9, c1_9, d1_9, at2_1, ct2_1, rfl, HS⟩
def signalmanlaw25_num.f (a0 : Int) : Option Int := some a0
theorem signalmanlaw25_num.calls {a0 : Int} {R : As} {w0 w : World}  {r : Int} (H : signalmanlaw25_num.f a0 = some r) (HS : Sep.St [R] w0 w)  : Calls Tryz.prog 18 #[vi a0] w (Ret fun u w => u = vi r ∧ Sep.St [R] w0 w) := by
 unfold signalmanlaw25_num.f at H
 refine calls_enter func18 rfl rfl ?_
 have H : _ = some r := H
 refine V.seq (V.region (W.as rfl (W.nx (V.seq (V.region (W.mv rfl (W.as rfl (W.nx (V.ret ?_)))))))))
 cases H
 exact At.ret1 rfl rfl ⟨_, rfl, rfl, HS⟩
def signalmanlaw25_alive.f (k : Nat)  : Option Bool := ((signalmanlaw20_Good.f 0 3 30 false false).bind fun t1 => ((signalman_Play.f k t1 []).bind fun t4 => ((signalman_Play.f k t1 ([({ Kind := 2, At := 0, Line := 0, N := 0, Fault := 0, B := ([] : List Int) } : api_Op), ({ Kind := 1, At := 0, Line := 0, N := 60, Fault := 0, B := ([] : List Int) } : api_Op)] : List api_Op)).bind fun t9 => (if (t4.1.length : Int) = 0 then (if (t4.2.length : Int) = 0 then (if (t9.2.length : Int) = 2 then (if 0 ≤ (0 : Int) ∧ (0 : Int) < (t9.2.length : Int) then ((signalmanlaw25_num.f (t9.2.getD (0 : Int).toNat 0)).bind fun t17 => (if t17 = 0 then (if (t9.1.length : Int) = 2 then (if 0 ≤ (0 : Int) ∧ (0 : Int) < (t9.1.length : Int) then some (decide (((t9.1.getD (0 : Int).toNat default).Ind) = 1)) else none) else some false) else some false)) else none) else some false) else some false) else some false))))
theorem signalmanlaw25_alive.calls {k : Nat}  {R : As} {w0 w : World}  {r : Bool} (H : signalmanlaw25_alive.f k  = some r) (HS : Sep.St [R] w0 w)  : Calls Tryz.prog 12 #[] w (Ret fun u w => u = vb r ∧ Sep.St [R] w0 w) := by
 unfold signalmanlaw25_alive.f at H
 refine calls_enter func12 rfl rfl ?_
 have H : _ = some r := H
 refine V.seq (V.region (W.as rfl (W.nx (V.seq (V.region ?_)))))
 obtain ⟨t1, A2, H⟩ := bind_s H
 refine W.e (Y.cl func13 (signalmanlaw20_Good.calls A2 HS.j0)) rfl ?_
 rintro _ w ⟨rfl, HS⟩
 replace HS := HS.o0
 refine W.e (Y.alloc (z := Value.agg (#[vi (0), vi (0), vi (0), vi (0), vi (0), vi (0), vi (0), vi (0), vi (0), vi (0), vi (0), vi (0), vi (0), vi (0), vb false, vb false])) HS ze24) rfl ?_
 rintro _ w ⟨nb3, rfl, HS⟩
 refine W.en (Y.storeSt (c' := #[vi t1.Mode, vi t1.Modulus, vi t1.Window, vi t1.T1, vi t1.N2, vi t1.Hold, vi t1.Wait, vi t1.Keep, vi t1.Queue, vi t1.Size, vi t1.Ring, vi t1.Rate, vi t1.Bad, vi t1.Good, vb t1.Revert, vb t1.Wide]) 0 [vi t1.Mode, vi t1.Modulus, vi t1.Window, vi t1.T1, vi t1.N2, vi t1.Hold, vi t1.Wait, vi t1.Keep, vi t1.Queue, vi t1.Size, vi t1.Ring, vi t1.Rate, vi t1.Bad, vi t1.Good, vb t1.Revert, vb t1.Wide] HS rfl inf24 rfl rfl rfl rfl rfl rfl) rfl ?_
 rintro _ w HS
 refine W.nx (V.seq (V.region (W.r (X.loadSt 0 [vi t1.Mode, vi t1.Modulus, vi t1.Window, vi t1.T1, vi t1.N2, vi t1.Hold, vi t1.Wait, vi t1.Keep, vi t1.Queue, vi t1.Size, vi t1.Ring, vi t1.Rate, vi t1.Bad, vi t1.Good, vb t1.Revert, vb t1.Wide] HS rfl underlying24 rfl inf24 rfl rfl) rfl ?_)))
 obtain ⟨t4, A5, H⟩ := bind_s H
 refine W.e (Y.cl func17 (signalman_Play.calls A5 HS.j0 (rdC.nil rfl) (fun _ _ => tie.nil))) rfl ?_
 rintro _ w ⟨at4_0, ct4_0, dt4_0, at4_1, ct4_1, rfl, HS⟩
 replace HS := HS.o3
 refine W.mv rfl (W.r (X.extract rfl rfl) rfl (W.r (X.extract rfl rfl) rfl (W.as rfl (W.as rfl (W.nx (V.seq (V.region (W.r (X.loadSt 3 [vi t1.Mode, vi t1.Modulus, vi t1.Window, vi t1.T1, vi t1.N2, vi t1.Hold, vi t1.Wait, vi t1.Keep, vi t1.Queue, vi t1.Size, vi t1.Ring, vi t1.Rate, vi t1.Bad, vi t1.Good, vb t1.Revert, vb t1.Wide] HS rfl underlying24 rfl inf24 rfl rfl) rfl (W.r (X.bd (Value.agg #[vi (2), vi (0), vi (0), vi (0), vi (0), vs none 0 0]) rfl (fun _ => by kernel_rfl)) rfl (W.r (X.bd (Value.agg #[vi (1), vi (0), vi (0), vi (60), vi (0), vs none 0 0]) rfl (fun _ => by kernel_rfl)) rfl ?_))))))))))
 replace HS := row_nilF (Value.int .u8) 5 1 HS
 replace HS := St.row_freeze HS
 replace HS := row_nilF (Value.int .u8) 5 1 HS
 replace HS := St.row_freeze HS
 refine W.e (Y.lc (e := 29) (sz := 6) [vi (2), vi (0), vi (0), vi (0), vi (0), vs none ([] : List Int).length 0, vi (1), vi (0), vi (0), vi (60), vi (0), vs none ([] : List Int).length 0] HS rfl rfl (fun _ => by kernel_rfl)) rfl ?_
 rintro _ w ⟨lb6, rfl, HS⟩
 replace HS := St.put (A := tie api_Op.El ([]) ([] : List api_Op)) (fun _ => tie.nil) HS
 replace HS := HS.more 2 rfl (fun _ t => t) fsl.pers
 replace HS := api_Op.pack (x := ({ Kind := 1, At := 0, Line := 0, N := 60, Fault := 0, B := ([] : List Int) } : api_Op)) HS
 replace HS := HS.fr 1
 replace HS := HS.fr 1
 replace HS := St.tie_cons HS
 replace HS := HS.more 3 rfl (fun _ t => t) fsl.pers
 replace HS := api_Op.pack (x := ({ Kind := 2, At := 0, Line := 0, N := 0, Fault := 0, B := ([] : List Int) } : api_Op)) HS
 replace HS := HS.fr 1
 replace HS := HS.fr 1
 replace HS := St.tie_cons HS
 obtain ⟨t9, A10, H⟩ := bind_s H
 refine W.e (Y.cl func17 (signalman_Play.calls A10 HS.j0 (rdC.part 1 row_rd rfl) (fun h hh => let ⟨_, l, t⟩ := Sp.has 0 hh rfl; tie.mono t l))) rfl ?_
 rintro _ w ⟨at9_0, ct9_0, dt9_0, at9_1, ct9_1, rfl, HS⟩
 replace HS := HS.o3
 refine W.mv rfl (W.r (X.extract rfl rfl) rfl (W.r (X.extract rfl rfl) rfl (W.as rfl (W.as rfl (W.nx (V.seq (V.region (W.mv rfl (W.r (X.lenSl underlying39 rfl) rfl (W.r (X.cmp (decide ((t4.1.length : Int) = 0)) rfl rfl rfl rfl) rfl (W.mv rfl ?_)))))))))))
 by_cases c11 : (t4.1.length : Int) = 0
 ·replace H := ite_t c11 H
  refine W.want 23 rfl (sb (dT c11)) (W.mv rfl (W.want 23 rfl (sb (dT c11)) (W.r (X.lenSl underlying40 rfl) rfl (W.want 23 rfl (sb (dT c11)) (W.r (X.cmp (decide ((t4.2.length : Int) = 0)) rfl rfl rfl rfl) rfl (W.r (X.pickT (sb (dT c11)) rfl) rfl (W.mv rfl ?_)))))))
  by_cases c12 : (t4.2.length : Int) = 0
  ·replace H := ite_t c12 H
   refine W.want 28 rfl (sb (dT c12)) (W.mv rfl (W.want 28 rfl (sb (dT c12)) (W.r (X.lenSl underlying40 rfl) rfl (W.want 28 rfl (sb (dT c12)) (W.r (X.cmp (decide ((t9.2.length : Int) = 2)) rfl rfl rfl rfl) rfl (W.r (X.pickT (sb (dT c12)) rfl) rfl (W.mv rfl ?_)))))))
   by_cases c13 : (t9.2.length : Int) = 2
   ·replace H := ite_t c13 H
    refine W.want 33 rfl (sb (dT c13)) (W.mv rfl (W.want 33 rfl (sb (dT c13)) ?_))
    obtain ⟨c14, H⟩ := ite_n H
    obtain ⟨eb15, eo16, hh⟩ := (rdC.at 2 row_rd HS rfl).some (by decide) c14.1 c14.2; subst hh
    refine W.r (X.indexSl underlying40 inf44 rfl rfl c14.1 c14.2) rfl (W.want 33 rfl (sb (dT c13)) (W.r (X.load underlying44 rfl rfl ((rdC.at 2 row_rd HS rfl).cellI c14.1 c14.2)) rfl (W.want 33 rfl (sb (dT c13)) ?_)))
    obtain ⟨t17, A18, H⟩ := bind_s H
    refine W.e (Y.cl func18 (signalmanlaw25_num.calls A18 HS.j0)) rfl ?_
    rintro _ w ⟨rfl, HS⟩
    replace HS := HS.o0
    refine W.want 33 rfl (sb (dT c13)) (W.r (X.cmp (decide (t17 = 0)) rfl rfl rfl rfl) rfl (W.r (X.pickT (sb (dT c13)) rfl) rfl (W.mv rfl ?_)))
    by_cases c19 : t17 = 0
    ·replace H := ite_t c19 H
     refine W.want 40 rfl (sb (dT c19)) (W.mv rfl (W.want 40 rfl (sb (dT c19)) (W.r (X.lenSl underlying39 rfl) rfl (W.want 40 rfl (sb (dT c19)) (W.r (X.cmp (decide ((t9.1.length : Int) = 2)) rfl rfl rfl rfl) rfl (W.r (X.pickT (sb (dT c19)) rfl) rfl (W.mv rfl ?_)))))))
     by_cases c20 : (t9.1.length : Int) = 2
     ·replace H := ite_t c20 H
      refine W.want 45 rfl (sb (dT c20)) (W.mv rfl (W.want 45 rfl (sb (dT c20)) ?_))
      obtain ⟨c21, H⟩ := ite_n H
      obtain ⟨eb22, eo23, hh⟩ := (rdC.at 0 row_rd HS rfl).some (by decide) c21.1 c21.2; subst hh
      refine W.r (X.indexSl underlying39 inf56 rfl rfl c21.1 c21.2) rfl (W.want 45 rfl (sb (dT c20)) (W.fa fo56_2 rfl (W.want 45 rfl (sb (dT c20)) ?_)))
      obtain ⟨ec24, hc25, HS⟩ := St.tie_at 1 HS rfl default c21.1 c21.2
      obtain ⟨ea26, em27, he28, HN⟩ := api_Event.unpack HS; clear HS; subst he28; have HS := HN
      refine W.r (X.load underlying3 rfl rfl ((rdC.at 1 row_rd HS rfl).cellEl (hc25 2 _ rfl))) rfl (W.want 45 rfl (sb (dT c20)) (W.r (X.cmp (decide (((t9.1.getD (0 : Int).toNat default).Ind) = 1)) rfl rfl rfl rfl) rfl (W.r (X.pickT (sb (dT c20)) rfl) rfl (W.as rfl (W.nx (V.ret ?_))))))
      replace HS := HS.pk [12] [0, 1, 2, 3, 4, 5, 6, 7, 8, 9, 10, 11]
      cases H
      exact At.ret1 rfl rfl ⟨_, rfl, rfl, HS⟩
     ·replace H := ite_f c20 H
      refine W.pass 45 rfl (sb (dF c20)) rfl rfl (W.pass 45 rfl (sb (dF c20)) rfl rfl (W.pass 45 rfl (sb (dF c20)) rfl rfl (W.pass 45 rfl (sb (dF c20)) rfl rfl (W.pass 45 rfl (sb (dF c20)) rfl rfl (W.r (X.pickF (sb (dF c20)) rfl) rfl (W.as rfl (W.nx (V.ret ?_))))))))
      replace HS := HS.pk [11] [0, 1, 2, 3, 4, 5, 6, 7, 8, 9, 10]
      cases H
      exact At.ret1 rfl rfl ⟨_, rfl, rfl, HS⟩
    ·replace H := ite_f c19 H
     refine W.pass 40 rfl (sb (dF c19)) rfl rfl (W.pass 40 rfl (sb (dF c19)) rfl rfl (W.pass 40 rfl (sb (dF c19)) rfl rfl (W.r (X.pickF (sb (dF c19)) rfl) rfl (W.mv rfl (W.pass 45 rfl rfl rfl rfl (W.pass 45 rfl rfl rfl rfl (W.pass 45 rfl rfl rfl rfl (W.pass 45 rfl rfl rfl rfl (W.pass 45 rfl rfl rfl rfl (W.r (X.pickF rfl rfl) rfl (W.as rfl (W.nx (V.ret ?_)))))))))))))
     replace HS := HS.pk [11] [0, 1, 2, 3, 4, 5, 6, 7, 8, 9, 10]
     cases H
     exact At.ret1 rfl rfl ⟨_, rfl, rfl, HS⟩
   ·replace H := ite_f c13 H
    refine W.pass 33 rfl (sb (dF c13)) rfl rfl (W.pass 33 rfl (sb (dF c13)) rfl rfl (W.pass 33 rfl (sb (dF c13)) rfl rfl (W.pass 33 rfl (sb (dF c13)) rfl rfl (W.pass 33 rfl (sb (dF c13)) rfl rfl (W.r (X.pickF (sb (dF c13)) rfl) rfl (W.mv rfl (W.pass 40 rfl rfl rfl rfl (W.pass 40 rfl rfl rfl rfl (W.pass 40 rfl rfl rfl rfl (W.r (X.pickF rfl rfl) rfl (W.mv rfl (W.pass 45 rfl rfl rfl rfl (W.pass 45 rfl rfl rfl rfl (W.pass 45 rfl rfl rfl rfl (W.pass 45 rfl rfl rfl rfl (W.pass 45 rfl rfl rfl rfl (W.r (X.pickF rfl rfl) rfl (W.as rfl (W.nx (V.ret ?_))))))))))))))))))))
    replace HS := HS.pk [11] [0, 1, 2, 3, 4, 5, 6, 7, 8, 9, 10]
    cases H
    exact At.ret1 rfl rfl ⟨_, rfl, rfl, HS⟩
  ·replace H := ite_f c12 H
   refine W.pass 28 rfl (sb (dF c12)) rfl rfl (W.pass 28 rfl (sb (dF c12)) rfl rfl (W.pass 28 rfl (sb (dF c12)) rfl rfl (W.r (X.pickF (sb (dF c12)) rfl) rfl (W.mv rfl (W.pass 33 rfl rfl rfl rfl (W.pass 33 rfl rfl rfl rfl (W.pass 33 rfl rfl rfl rfl (W.pass 33 rfl rfl rfl rfl (W.pass 33 rfl rfl rfl rfl (W.r (X.pickF rfl rfl) rfl (W.mv rfl (W.pass 40 rfl rfl rfl rfl (W.pass 40 rfl rfl rfl rfl (W.pass 40 rfl rfl rfl rfl (W.r (X.pickF rfl rfl) rfl (W.mv rfl (W.pass 45 rfl rfl rfl rfl (W.pass 45 rfl rfl rfl rfl (W.pass 45 rfl rfl rfl rfl (W.pass 45 rfl rfl rfl rfl (W.pass 45 rfl rfl rfl rfl (W.r (X.pickF rfl rfl) rfl (W.as rfl (W.nx (V.ret ?_)))))))))))))))))))))))))
   replace HS := HS.pk [11] [0, 1, 2, 3, 4, 5, 6, 7, 8, 9, 10]
   cases H
   exact At.ret1 rfl rfl ⟨_, rfl, rfl, HS⟩
 ·replace H := ite_f c11 H
  refine W.pass 23 rfl (sb (dF c11)) rfl rfl (W.pass 23 rfl (sb (dF c11)) rfl rfl (W.pass 23 rfl (sb (dF c11)) rfl rfl (W.r (X.pickF (sb (dF c11)) rfl) rfl (W.mv rfl (W.pass 28 rfl rfl rfl rfl (W.pass 28 rfl rfl rfl rfl (W.pass 28 rfl rfl rfl rfl (W.r (X.pickF rfl rfl) rfl (W.mv rfl (W.pass 33 rfl rfl rfl rfl (W.pass 33 rfl rfl rfl rfl (W.pass 33 rfl rfl rfl rfl (W.pass 33 rfl rfl rfl rfl (W.pass 33 rfl rfl rfl rfl (W.r (X.pickF rfl rfl) rfl (W.mv rfl (W.pass 40 rfl rfl rfl rfl (W.pass 40 rfl rfl rfl rfl (W.pass 40 rfl rfl rfl rfl (W.r (X.pickF rfl rfl) rfl (W.mv rfl (W.pass 45 rfl rfl rfl rfl (W.pass 45 rfl rfl rfl rfl (W.pass 45 rfl rfl rfl rfl (W.pass 45 rfl rfl rfl rfl (W.pass 45 rfl rfl rfl rfl (W.r (X.pickF rfl rfl) rfl (W.as rfl (W.nx (V.ret ?_))))))))))))))))))))))))))))))
  replace HS := HS.pk [11] [0, 1, 2, 3, 4, 5, 6, 7, 8, 9, 10]
  cases H
  exact At.ret1 rfl rfl ⟨_, rfl, rfl, HS⟩
mutual
def signalmanlaw25_SignalErrors.j0 (k : Nat) (a0 : Int) (t1 : Bool) (x35 : Bool) : Option Bool := (if x35 = true then some t1 else (if 0 ≤ a0 ∧ a0 ≤ w64 (a0 + 1) ∧ w64 (a0 + 1) ≤ ((([({ Kind := 1, At := 0, Line := 0, N := 0, Fault := 0, B := ([] : List Int) } : api_Op), ({ Kind := 1, At := 0, Line := 0, N := (-1), Fault := 0, B := ([] : List Int) } : api_Op), ({ Kind := 2, At := 1, Line := 0, N := 0, Fault := 0, B := ([] : List Int) } : api_Op), ({ Kind := 2, At := 2, Line := 0, N := 0, Fault := 0, B := ([] : List Int) } : api_Op), ({ Kind := 3, At := 0, Line := 0, N := 0, Fault := 0, B := ([] : List Int) } : api_Op), ({ Kind := 4, At := 0, Line := 0, N := 0, Fault := 0, B := ([97] : List Int) } : api_Op), ({ Kind := 4, At := 0, Line := 0, N := 0, Fault := 0, B := List.replicate (21 : Int).toNat 0 } : api_Op), ({ Kind := 5, At := 0, Line := 0, N := 0, Fault := 0, B := ([] : List Int) } : api_Op), ({ Kind := 5, At := 2, Line := 0, N := 0, Fault := 0, B := ([] : List Int) } : api_Op), ({ Kind := 6, At := 0, Line := 0, N := 3, Fault := 0, B := ([] : List Int) } : api_Op), ({ Kind := 6, At := 0, Line := 0, N := 4, Fault := 0, B := ([] : List Int) } : api_Op), ({ Kind := 7, At := 0, Line := 0, N := 0, Fault := 1, B := ([] : List Int) } : api_Op), ({ Kind := 7, At := 0, Line := 0, N := 0, Fault := 4, B := ([] : List Int) } : api_Op), ({ Kind := 7, At := 0, Line := 0, N := 0, Fault := 5, B := ([] : List Int) } : api_Op), ({ Kind := 7, At := 0, Line := 2, N := 0, Fault := 0, B := ([] : List Int) } : api_Op), ({ Kind := 8, At := 0, Line := 0, N := 0, Fault := 0, B := ([] : List Int) } : api_Op), ({ Kind := 7, At := 0, Line := 0, N := (-5), Fault := 3, B := ([] : List Int) } : api_Op)] : List api_Op)).length : Int) then ((signalmanlaw20_Good.f 0 3 30 false false).bind fun t39 => ((signalman_Play.f k t39 (cut ([({ Kind := 1, At := 0, Line := 0, N := 0, Fault := 0, B := ([] : List Int) } : api_Op), ({ Kind := 1, At := 0, Line := 0, N := (-1), Fault := 0, B := ([] : List Int) } : api_Op), ({ Kind := 2, At := 1, Line := 0, N := 0, Fault := 0, B := ([] : List Int) } : api_Op), ({ Kind := 2, At := 2, Line := 0, N := 0, Fault := 0, B := ([] : List Int) } : api_Op), ({ Kind := 3, At := 0, Line := 0, N := 0, Fault := 0, B := ([] : List Int) } : api_Op), ({ Kind := 4, At := 0, Line := 0, N := 0, Fault := 0, B := ([97] : List Int) } : api_Op), ({ Kind := 4, At := 0, Line := 0, N := 0, Fault := 0, B := List.replicate (21 : Int).toNat 0 } : api_Op), ({ Kind := 5, At := 0, Line := 0, N := 0, Fault := 0, B := ([] : List Int) } : api_Op), ({ Kind := 5, At := 2, Line := 0, N := 0, Fault := 0, B := ([] : List Int) } : api_Op), ({ Kind := 6, At := 0, Line := 0, N := 3, Fault := 0, B := ([] : List Int) } : api_Op), ({ Kind := 6, At := 0, Line := 0, N := 4, Fault := 0, B := ([] : List Int) } : api_Op), ({ Kind := 7, At := 0, Line := 0, N := 0, Fault := 1, B := ([] : List Int) } : api_Op), ({ Kind := 7, At := 0, Line := 0, N := 0, Fault := 4, B := ([] : List Int) } : api_Op), ({ Kind := 7, At := 0, Line := 0, N := 0, Fault := 5, B := ([] : List Int) } : api_Op), ({ Kind := 7, At := 0, Line := 2, N := 0, Fault := 0, B := ([] : List Int) } : api_Op), ({ Kind := 8, At := 0, Line := 0, N := 0, Fault := 0, B := ([] : List Int) } : api_Op), ({ Kind := 7, At := 0, Line := 0, N := (-5), Fault := 3, B := ([] : List Int) } : api_Op)] : List api_Op) a0 (w64 (a0 + 1)))).bind fun t41 => (if (t41.1.length : Int) = 0 then (if (t41.2.length : Int) = 1 then (if 0 ≤ (0 : Int) ∧ (0 : Int) < (t41.2.length : Int) then (if 0 ≤ a0 ∧ a0 < (([0, 1, 0, 1, 7, 7, 5, 0, 1, 0, 1, 0, 1, 0, 1, 1, 0] : List Int).length : Int) then ((signalmanlaw25_num.f (t41.2.getD (0 : Int).toNat 0)).bind fun t49 => some (decide (t49 = (([0, 1, 0, 1, 7, 7, 5, 0, 1, 0, 1, 0, 1, 0, 1, 1, 0] : List Int).getD a0.toNat 0)))) else none) else none) else some false) else some false))) else none))
end
def signalmanlaw25_SignalErrors.f (k : Nat) (a0 : Int) : Option Bool := ((signalmanlaw25_alive.f k ).bind fun t1 => (if 0 ≤ (21 : Int) ∧ (21 : Int) ≤ 1099511627776 then (if t1 = true then (if a0 < 0 then (signalmanlaw25_SignalErrors.j0 k a0 t1 true) else (signalmanlaw25_SignalErrors.j0 k a0 t1 (decide (a0 ≥ ((([({ Kind := 1, At := 0, Line := 0, N := 0, Fault := 0, B := ([] : List Int) } : api_Op), ({ Kind := 1, At := 0, Line := 0, N := (-1), Fault := 0, B := ([] : List Int) } : api_Op), ({ Kind := 2, At := 1, Line := 0, N := 0, Fault := 0, B := ([] : List Int) } : api_Op), ({ Kind := 2, At := 2, Line := 0, N := 0, Fault := 0, B := ([] : List Int) } : api_Op), ({ Kind := 3, At := 0, Line := 0, N := 0, Fault := 0, B := ([] : List Int) } : api_Op), ({ Kind := 4, At := 0, Line := 0, N := 0, Fault := 0, B := ([97] : List Int) } : api_Op), ({ Kind := 4, At := 0, Line := 0, N := 0, Fault := 0, B := List.replicate (21 : Int).toNat 0 } : api_Op), ({ Kind := 5, At := 0, Line := 0, N := 0, Fault := 0, B := ([] : List Int) } : api_Op), ({ Kind := 5, At := 2, Line := 0, N := 0, Fault := 0, B := ([] : List Int) } : api_Op), ({ Kind := 6, At := 0, Line := 0, N := 3, Fault := 0, B := ([] : List Int) } : api_Op), ({ Kind := 6, At := 0, Line := 0, N := 4, Fault := 0, B := ([] : List Int) } : api_Op), ({ Kind := 7, At := 0, Line := 0, N := 0, Fault := 1, B := ([] : List Int) } : api_Op), ({ Kind := 7, At := 0, Line := 0, N := 0, Fault := 4, B := ([] : List Int) } : api_Op), ({ Kind := 7, At := 0, Line := 0, N := 0, Fault := 5, B := ([] : List Int) } : api_Op), ({ Kind := 7, At := 0, Line := 2, N := 0, Fault := 0, B := ([] : List Int) } : api_Op), ({ Kind := 8, At := 0, Line := 0, N := 0, Fault := 0, B := ([] : List Int) } : api_Op), ({ Kind := 7, At := 0, Line := 0, N := (-5), Fault := 3, B := ([] : List Int) } : api_Op)] : List api_Op)).length : Int))))) else (signalmanlaw25_SignalErrors.j0 k a0 t1 true)) else none))
theorem signalmanlaw25_SignalErrors.calls {k : Nat} {a0 : Int} {R : As} {w0 w : World}  {r : Bool} (H : signalmanlaw25_SignalErrors.f k a0 = some r) (HS : Sep.St [R] w0 w)  : Calls Tryz.prog 7 #[vi a0] w (Ret fun u w => u = vb r ∧ Sep.St [R] w0 w) := by
 unfold signalmanlaw25_SignalErrors.f at H
 refine calls_enter func7 rfl rfl ?_
 have H : _ = some r := H
 refine V.seq (V.region (W.as rfl (W.nx (V.seq (V.region ?_)))))
 obtain ⟨t1, A2, H⟩ := bind_s H
 refine W.e (Y.cl func12 (signalmanlaw25_alive.calls A2 HS.j0)) rfl ?_
 rintro _ w ⟨rfl, HS⟩
 replace HS := HS.o0
 refine W.as rfl (W.nx (V.seq (V.region (W.r (X.bd (Value.agg #[vi (1), vi (0), vi (0), vi (0), vi (0), vs none 0 0]) rfl (fun _ => by kernel_rfl)) rfl (W.r (X.bd (Value.agg #[vi (1), vi (0), vi (0), vi (-1), vi (0), vs none 0 0]) rfl (fun _ => by kernel_rfl)) rfl (W.r (X.bd (Value.agg #[vi (2), vi (1), vi (0), vi (0), vi (0), vs none 0 0]) rfl (fun _ => by kernel_rfl)) rfl (W.r (X.bd (Value.agg #[vi (2), vi (2), vi (0), vi (0), vi (0), vs none 0 0]) rfl (fun _ => by kernel_rfl)) rfl (W.r (X.bd (Value.agg #[vi (3), vi (0), vi (0), vi (0), vi (0), vs none 0 0]) rfl (fun _ => by kernel_rfl)) rfl (W.e (Y.ls (e := 5) (Value.int .u8) ([97] : List Int) HS rfl rfl (fun _ => by kernel_rfl)) rfl ?_)))))))))
 rintro _ w ⟨lb5, rfl, HS⟩
 refine W.e (Y.markS 0 HS rfl (by decide) underlying27 underlying5 rfl) rfl ?_
 rintro _ w ⟨rfl, HS⟩
 refine W.r (X.bd (Value.agg #[vi (4), vi (0), vi (0), vi (0), vi (0), vs (some ⟨lb5, 0, none⟩) ([97] : List Int).length 1]) rfl (fun _ => by kernel_rfl)) rfl ?_
 obtain ⟨c6, H⟩ := ite_n H
 refine W.e (Y.makeSl (g := (Value.int .u8)) (N := 21) 0 underlying27 ap5 rfl HS rfl rfl c6 (by decide)) rfl ?_
 rintro _ w ⟨ra7, rc8, rfl, HS⟩
 refine W.r (X.bd (Value.agg #[vi (4), vi (0), vi (0), vi (0), vi (0), vs ra7 (List.replicate (21 : Int).toNat 0).length rc8]) rfl (fun _ => by kernel_rfl)) rfl (W.r (X.bd (Value.agg #[vi (5), vi (0), vi (0), vi (0), vi (0), vs none 0 0]) rfl (fun _ => by kernel_rfl)) rfl (W.r (X.bd (Value.agg #[vi (5), vi (2), vi (0), vi (0), vi (0), vs none 0 0]) rfl (fun _ => by kernel_rfl)) rfl (W.r (X.bd (Value.agg #[vi (6), vi (0), vi (0), vi (3), vi (0), vs none 0 0]) rfl (fun _ => by kernel_rfl)) rfl (W.r (X.bd (Value.agg #[vi (6), vi (0), vi (0), vi (4), vi (0), vs none 0 0]) rfl (fun _ => by kernel_rfl)) rfl (W.r (X.bd (Value.agg #[vi (7), vi (0), vi (0), vi (0), vi (1), vs none 0 0]) rfl (fun _ => by kernel_rfl)) rfl (W.r (X.bd (Value.agg #[vi (7), vi (0), vi (0), vi (0), vi (4), vs none 0 0]) rfl (fun _ => by kernel_rfl)) rfl (W.r (X.bd (Value.agg #[vi (7), vi (0), vi (0), vi (0), vi (5), vs none 0 0]) rfl (fun _ => by kernel_rfl)) rfl (W.r (X.bd (Value.agg #[vi (7), vi (0), vi (2), vi (0), vi (0), vs none 0 0]) rfl (fun _ => by kernel_rfl)) rfl (W.r (X.bd (Value.agg #[vi (8), vi (0), vi (0), vi (0), vi (0), vs none 0 0]) rfl (fun _ => by kernel_rfl)) rfl (W.r (X.bd (Value.agg #[vi (7), vi (0), vi (0), vi (-5), vi (3), vs none 0 0]) rfl (fun _ => by kernel_rfl)) rfl ?_))))))))))
 replace HS := row_nilF (Value.int .u8) 5 1 HS
 replace HS := St.row_freeze HS
 replace HS := row_nilF (Value.int .u8) 5 1 HS
 replace HS := St.row_freeze HS
 replace HS := row_nilF (Value.int .u8) 5 1 HS
 replace HS := St.row_freeze HS
 replace HS := row_nilF (Value.int .u8) 5 1 HS
 replace HS := St.row_freeze HS
 replace HS := row_nilF (Value.int .u8) 5 1 HS
 replace HS := St.row_freeze HS
 replace HS := HS.fr 5
 replace HS := St.row_freeze HS
 replace HS := row_nilF (Value.int .u8) 5 1 HS
 replace HS := St.row_freeze HS
 replace HS := row_nilF (Value.int .u8) 5 1 HS
 replace HS := St.row_freeze HS
 replace HS := row_nilF (Value.int .u8) 5 1 HS
 replace HS := St.row_freeze HS
 replace HS := row_nilF (Value.int .u8) 5 1 HS
 replace HS := St.row_freeze HS
 replace HS := row_nilF (Value.int .u8) 5 1 HS
 replace HS := St.row_freeze HS
 replace HS := row_nilF (Value.int .u8) 5 1 HS
 replace HS := St.row_freeze HS
 replace HS := row_nilF (Value.int .u8) 5 1 HS
 replace HS := St.row_freeze HS
 replace HS := row_nilF (Value.int .u8) 5 1 HS
 replace HS := St.row_freeze HS
 replace HS := row_nilF (Value.int .u8) 5 1 HS
 replace HS := St.row_freeze HS
 replace HS := row_nilF (Value.int .u8) 5 1 HS
 replace HS := St.row_freeze HS
 refine W.e (Y.lc (e := 29) (sz := 6) [vi (1), vi (0), vi (0), vi (0), vi (0), vs none ([] : List Int).length 0, vi (1), vi (0), vi (0), vi (-1), vi (0), vs none ([] : List Int).length 0, vi (2), vi (1), vi (0), vi (0), vi (0), vs none ([] : List Int).length 0, vi (2), vi (2), vi (0), vi (0), vi (0), vs none ([] : List Int).length 0, vi (3), vi (0), vi (0), vi (0), vi (0), vs none ([] : List Int).length 0, vi (4), vi (0), vi (0), vi (0), vi (0), vs (some ⟨lb5, 0, none⟩) ([97] : List Int).length 1, vi (4), vi (0), vi (0), vi (0), vi (0), vs ra7 (List.replicate (21 : Int).toNat 0).length rc8, vi (5), vi (0), vi (0), vi (0), vi (0), vs none ([] : List Int).length 0, vi (5), vi (2), vi (0), vi (0), vi (0), vs none ([] : List Int).length 0, vi (6), vi (0), vi (0), vi (3), vi (0), vs none ([] : List Int).length 0, vi (6), vi (0), vi (0), vi (4), vi (0), vs none ([] : List Int).length 0, vi (7), vi (0), vi (0), vi (0), vi (1), vs none ([] : List Int).length 0, vi (7), vi (0), vi (0), vi (0), vi (4), vs none ([] : List Int).length 0, vi (7), vi (0), vi (0), vi (0), vi (5), vs none ([] : List Int).length 0, vi (7), vi (0), vi (2), vi (0), vi (0), vs none ([] : List Int).length 0, vi (8), vi (0), vi (0), vi (0), vi (0), vs none ([] : List Int).length 0, vi (7), vi (0), vi (0), vi (-5), vi (3), vs none ([] : List Int).length 0] HS rfl rfl (fun _ => by kernel_rfl)) rfl ?_
 rintro _ w ⟨lb9, rfl, HS⟩
 replace HS := St.put (A := tie api_Op.El ([]) ([] : List api_Op)) (fun _ => tie.nil) HS
 replace HS := HS.more 2 rfl (fun _ t => t) fsl.pers
 replace HS := api_Op.pack (x := ({ Kind := 7, At := 0, Line := 0, N := (-5), Fault := 3, B := ([] : List Int) } : api_Op)) HS
 replace HS := HS.fr 1
 replace HS := HS.fr 1
 replace HS := St.tie_cons HS
 replace HS := HS.more 3 rfl (fun _ t => t) fsl.pers
 replace HS := api_Op.pack (x := ({ Kind := 8, At := 0, Line := 0, N := 0, Fault := 0, B := ([] : List Int) } : api_Op)) HS
 replace HS := HS.fr 1
 replace HS := HS.fr 1
 replace HS := St.tie_cons HS
 replace HS := HS.more 4 rfl (fun _ t => t) fsl.pers
 replace HS := api_Op.pack (x := ({ Kind := 7, At := 0, Line := 2, N := 0, Fault := 0, B := ([] : List Int) } : api_Op)) HS
 replace HS := HS.fr 1
 replace HS := HS.fr 1
 replace HS := St.tie_cons HS
 replace HS := HS.more 5 rfl (fun _ t => t) fsl.pers
 replace HS := api_Op.pack (x := ({ Kind := 7, At := 0, Line := 0, N := 0, Fault := 5, B := ([] : List Int) } : api_Op)) HS
 replace HS := HS.fr 1
 replace HS := HS.fr 1
 replace HS := St.tie_cons HS
 replace HS := HS.more 6 rfl (fun _ t => t) fsl.pers
 replace HS := api_Op.pack (x := ({ Kind := 7, At := 0, Line := 0, N := 0, Fault := 4, B := ([] : List Int) } : api_Op)) HS
 replace HS := HS.fr 1
 replace HS := HS.fr 1
 replace HS := St.tie_cons HS
 replace HS := HS.more 7 rfl (fun _ t => t) fsl.pers
 replace HS := api_Op.pack (x := ({ Kind := 7, At := 0, Line := 0, N := 0, Fault := 1, B := ([] : List Int) } : api_Op)) HS
 replace HS := HS.fr 1
 replace HS := HS.fr 1
 replace HS := St.tie_cons HS
 replace HS := HS.more 8 rfl (fun _ t => t) fsl.pers
 replace HS := api_Op.pack (x := ({ Kind := 6, At := 0, Line := 0, N := 4, Fault := 0, B := ([] : List Int) } : api_Op)) HS
 replace HS := HS.fr 1
 replace HS := HS.fr 1
 replace HS := St.tie_cons HS
 replace HS := HS.more 9 rfl (fun _ t => t) fsl.pers
 replace HS := api_Op.pack (x := ({ Kind := 6, At := 0, Line := 0, N := 3, Fault := 0, B := ([] : List Int) } : api_Op)) HS
 replace HS := HS.fr 1
 replace HS := HS.fr 1
 replace HS := St.tie_cons HS
 replace HS := HS.more 10 rfl (fun _ t => t) fsl.pers
 replace HS := api_Op.pack (x := ({ Kind := 5, At := 2, Line := 0, N := 0, Fault := 0, B := ([] : List Int) } : api_Op)) HS
 replace HS := HS.fr 1
 replace HS := HS.fr 1
 replace HS := St.tie_cons HS
 replace HS := HS.more 11 rfl (fun _ t => t) fsl.pers
 replace HS := api_Op.pack (x := ({ Kind := 5, At := 0, Line := 0, N := 0, Fault := 0, B := ([] : List Int) } : api_Op)) HS
 replace HS := HS.fr 1
 replace HS := HS.fr 1
 replace HS := St.tie_cons HS
 replace HS := HS.more 12 rfl (fun _ t => t) fsl.pers
 replace HS := api_Op.pack (x := ({ Kind := 4, At := 0, Line := 0, N := 0, Fault := 0, B := List.replicate (21 : Int).toNat 0 } : api_Op)) HS
 replace HS := HS.fr 1
 replace HS := HS.fr 1
 replace HS := St.tie_cons HS
 replace HS := HS.more 18 rfl (fun _ t => t) fsl.pers
 replace HS := api_Op.pack (x := ({ Kind := 4, At := 0, Line := 0, N := 0, Fault := 0, B := ([97] : List Int) } : api_Op)) HS
 replace HS := HS.fr 1
 replace HS := HS.fr 1
 replace HS := St.tie_cons HS
 replace HS := HS.more 13 rfl (fun _ t => t) fsl.pers
 replace HS := api_Op.pack (x := ({ Kind := 3, At := 0, Line := 0, N := 0, Fault := 0, B := ([] : List Int) } : api_Op)) HS
 replace HS := HS.fr 1
 replace HS := HS.fr 1
 replace HS := St.tie_cons HS
 replace HS := HS.more 14 rfl (fun _ t => t) fsl.pers
 replace HS := api_Op.pack (x := ({ Kind := 2, At := 2, Line := 0, N := 0, Fault := 0, B := ([] : List Int) } : api_Op)) HS
 replace HS := HS.fr 1
 replace HS := HS.fr 1
 replace HS := St.tie_cons HS
 replace HS := HS.more 15 rfl (fun _ t => t) fsl.pers
 replace HS := api_Op.pack (x := ({ Kind := 2, At := 1, Line := 0, N := 0, Fault := 0, B := ([] : List Int) } : api_Op)) HS
 replace HS := HS.fr 1
 replace HS := HS.fr 1
 replace HS := St.tie_cons HS
 replace HS := HS.more 16 rfl (fun _ t => t) fsl.pers
 replace HS := api_Op.pack (x := ({ Kind := 1, At := 0, Line := 0, N := (-1), Fault := 0, B := ([] : List Int) } : api_Op)) HS
 replace HS := HS.fr 1
 replace HS := HS.fr 1
 replace HS := St.tie_cons HS
 replace HS := HS.more 17 rfl (fun _ t => t) fsl.pers
 replace HS := api_Op.pack (x := ({ Kind := 1, At := 0, Line := 0, N := 0, Fault := 0, B := ([] : List Int) } : api_Op)) HS
 replace HS := HS.fr 1
 replace HS := HS.fr 1
 replace HS := St.tie_cons HS
 refine W.as rfl (W.nx (V.seq (V.region (W.e (Y.ls (e := 3) (Value.int .i64) ([0, 1, 0, 1, 7, 7, 5, 0, 1, 0, 1, 0, 1, 0, 1, 1, 0] : List Int) HS rfl rfl (fun _ => by kernel_rfl)) rfl ?_))))
 rintro _ w ⟨lb14, rfl, HS⟩
 refine W.as rfl (W.nx (V.seq (V.meet (σ := Bool) (fun st w => match st with | x35 => Sep.St [row 3 1 (.slice (some ⟨lb14, 0, none⟩) ([0, 1, 0, 1, 7, 7, 5, 0, 1, 0, 1, 0, 1, 0, 1, 1, 0] : List Int).length 17) ([0, 1, 0, 1, 7, 7, 5, 0, 1, 0, 1, 0, 1, 0, 1, 1, 0] : List Int).length (([0, 1, 0, 1, 7, 7, 5, 0, 1, 0, 1, 0, 1, 0, 1, 1, 0] : List Int).map (Value.int .i64)), tie api_Op.El ([vi (1), vi (0), vi (0), vi (0), vi (0), vs none ([] : List Int).length 0, vi (1), vi (0), vi (0), vi (-1), vi (0), vs none ([] : List Int).length 0, vi (2), vi (1), vi (0), vi (0), vi (0), vs none ([] : List Int).length 0, vi (2), vi (2), vi (0), vi (0), vi (0), vs none ([] : List Int).length 0, vi (3), vi (0), vi (0), vi (0), vi (0), vs none ([] : List Int).length 0, vi (4), vi (0), vi (0), vi (0), vi (0), vs (some ⟨lb5, 0, none⟩) ([97] : List Int).length 1, vi (4), vi (0), vi (0), vi (0), vi (0), vs ra7 (List.replicate (21 : Int).toNat 0).length rc8, vi (5), vi (0), vi (0), vi (0), vi (0), vs none ([] : List Int).length 0, vi (5), vi (2), vi (0), vi (0), vi (0), vs none ([] : List Int).length 0, vi (6), vi (0), vi (0), vi (3), vi (0), vs none ([] : List Int).length 0, vi (6), vi (0), vi (0), vi (4), vi (0), vs none ([] : List Int).length 0, vi (7), vi (0), vi (0), vi (0), vi (1), vs none ([] : List Int).length 0, vi (7), vi (0), vi (0), vi (0), vi (4), vs none ([] : List Int).length 0, vi (7), vi (0), vi (0), vi (0), vi (5), vs none ([] : List Int).length 0, vi (7), vi (0), vi (2), vi (0), vi (0), vs none ([] : List Int).length 0, vi (8), vi (0), vi (0), vi (0), vi (0), vs none ([] : List Int).length 0, vi (7), vi (0), vi (0), vi (-5), vi (3), vs none ([] : List Int).length 0]) (([({ Kind := 1, At := 0, Line := 0, N := 0, Fault := 0, B := ([] : List Int) } : api_Op), ({ Kind := 1, At := 0, Line := 0, N := (-1), Fault := 0, B := ([] : List Int) } : api_Op), ({ Kind := 2, At := 1, Line := 0, N := 0, Fault := 0, B := ([] : List Int) } : api_Op), ({ Kind := 2, At := 2, Line := 0, N := 0, Fault := 0, B := ([] : List Int) } : api_Op), ({ Kind := 3, At := 0, Line := 0, N := 0, Fault := 0, B := ([] : List Int) } : api_Op), ({ Kind := 4, At := 0, Line := 0, N := 0, Fault := 0, B := ([97] : List Int) } : api_Op), ({ Kind := 4, At := 0, Line := 0, N := 0, Fault := 0, B := List.replicate (21 : Int).toNat 0 } : api_Op), ({ Kind := 5, At := 0, Line := 0, N := 0, Fault := 0, B := ([] : List Int) } : api_Op), ({ Kind := 5, At := 2, Line := 0, N := 0, Fault := 0, B := ([] : List Int) } : api_Op), ({ Kind := 6, At := 0, Line := 0, N := 3, Fault := 0, B := ([] : List Int) } : api_Op), ({ Kind := 6, At := 0, Line := 0, N := 4, Fault := 0, B := ([] : List Int) } : api_Op), ({ Kind := 7, At := 0, Line := 0, N := 0, Fault := 1, B := ([] : List Int) } : api_Op), ({ Kind := 7, At := 0, Line := 0, N := 0, Fault := 4, B := ([] : List Int) } : api_Op), ({ Kind := 7, At := 0, Line := 0, N := 0, Fault := 5, B := ([] : List Int) } : api_Op), ({ Kind := 7, At := 0, Line := 2, N := 0, Fault := 0, B := ([] : List Int) } : api_Op), ({ Kind := 8, At := 0, Line := 0, N := 0, Fault := 0, B := ([] : List Int) } : api_Op), ({ Kind := 7, At := 0, Line := 0, N := (-5), Fault := 3, B := ([] : List Int) } : api_Op)] : List api_Op)), row 29 6 (.slice (some ⟨lb9, 0, none⟩) (([({ Kind := 1, At := 0, Line := 0, N := 0, Fault := 0, B := ([] : List Int) } : api_Op), ({ Kind := 1, At := 0, Line := 0, N := (-1), Fault := 0, B := ([] : List Int) } : api_Op), ({ Kind := 2, At := 1, Line := 0, N := 0, Fault := 0, B := ([] : List Int) } : api_Op), ({ Kind := 2, At := 2, Line := 0, N := 0, Fault := 0, B := ([] : List Int) } : api_Op), ({ Kind := 3, At := 0, Line := 0, N := 0, Fault := 0, B := ([] : List Int) } : api_Op), ({ Kind := 4, At := 0, Line := 0, N := 0, Fault := 0, B := ([97] : List Int) } : api_Op), ({ Kind := 4, At := 0, Line := 0, N := 0, Fault := 0, B := List.replicate (21 : Int).toNat 0 } : api_Op), ({ Kind := 5, At := 0, Line := 0, N := 0, Fault := 0, B := ([] : List Int) } : api_Op), ({ Kind := 5, At := 2, Line := 0, N := 0, Fault := 0, B := ([] : List Int) } : api_Op), ({ Kind := 6, At := 0, Line := 0, N := 3, Fault := 0, B := ([] : List Int) } : api_Op), ({ Kind := 6, At := 0, Line := 0, N := 4, Fault := 0, B := ([] : List Int) } : api_Op), ({ Kind := 7, At := 0, Line := 0, N := 0, Fault := 1, B := ([] : List Int) } : api_Op), ({ Kind := 7, At := 0, Line := 0, N := 0, Fault := 4, B := ([] : List Int) } : api_Op), ({ Kind := 7, At := 0, Line := 0, N := 0, Fault := 5, B := ([] : List Int) } : api_Op), ({ Kind := 7, At := 0, Line := 2, N := 0, Fault := 0, B := ([] : List Int) } : api_Op), ({ Kind := 8, At := 0, Line := 0, N := 0, Fault := 0, B := ([] : List Int) } : api_Op), ({ Kind := 7, At := 0, Line := 0, N := (-5), Fault := 3, B := ([] : List Int) } : api_Op)] : List api_Op)).length 17) (([({ Kind := 1, At := 0, Line := 0, N := 0, Fault := 0, B := ([] : List Int) } : api_Op), ({ Kind := 1, At := 0, Line := 0, N := (-1), Fault := 0, B := ([] : List Int) } : api_Op), ({ Kind := 2, At := 1, Line := 0, N := 0, Fault := 0, B := ([] : List Int) } : api_Op), ({ Kind := 2, At := 2, Line := 0, N := 0, Fault := 0, B := ([] : List Int) } : api_Op), ({ Kind := 3, At := 0, Line := 0, N := 0, Fault := 0, B := ([] : List Int) } : api_Op), ({ Kind := 4, At := 0, Line := 0, N := 0, Fault := 0, B := ([97] : List Int) } : api_Op), ({ Kind := 4, At := 0, Line := 0, N := 0, Fault := 0, B := List.replicate (21 : Int).toNat 0 } : api_Op), ({ Kind := 5, At := 0, Line := 0, N := 0, Fault := 0, B := ([] : List Int) } : api_Op), ({ Kind := 5, At := 2, Line := 0, N := 0, Fault := 0, B := ([] : List Int) } : api_Op), ({ Kind := 6, At := 0, Line := 0, N := 3, Fault := 0, B := ([] : List Int) } : api_Op), ({ Kind := 6, At := 0, Line := 0, N := 4, Fault := 0, B := ([] : List Int) } : api_Op), ({ Kind := 7, At := 0, Line := 0, N := 0, Fault := 1, B := ([] : List Int) } : api_Op), ({ Kind := 7, At := 0, Line := 0, N := 0, Fault := 4, B := ([] : List Int) } : api_Op), ({ Kind := 7, At := 0, Line := 0, N := 0, Fault := 5, B := ([] : List Int) } : api_Op), ({ Kind := 7, At := 0, Line := 2, N := 0, Fault := 0, B := ([] : List Int) } : api_Op), ({ Kind := 8, At := 0, Line := 0, N := 0, Fault := 0, B := ([] : List Int) } : api_Op), ({ Kind := 7, At := 0, Line := 0, N := (-5), Fault := 3, B := ([] : List Int) } : api_Op)] : List api_Op)).length ([vi (1), vi (0), vi (0), vi (0), vi (0), vs none ([] : List Int).length 0, vi (1), vi (0), vi (0), vi (-1), vi (0), vs none ([] : List Int).length 0, vi (2), vi (1), vi (0), vi (0), vi (0), vs none ([] : List Int).length 0, vi (2), vi (2), vi (0), vi (0), vi (0), vs none ([] : List Int).length 0, vi (3), vi (0), vi (0), vi (0), vi (0), vs none ([] : List Int).length 0, vi (4), vi (0), vi (0), vi (0), vi (0), vs (some ⟨lb5, 0, none⟩) ([97] : List Int).length 1, vi (4), vi (0), vi (0), vi (0), vi (0), vs ra7 (List.replicate (21 : Int).toNat 0).length rc8, vi (5), vi (0), vi (0), vi (0), vi (0), vs none ([] : List Int).length 0, vi (5), vi (2), vi (0), vi (0), vi (0), vs none ([] : List Int).length 0, vi (6), vi (0), vi (0), vi (3), vi (0), vs none ([] : List Int).length 0, vi (6), vi (0), vi (0), vi (4), vi (0), vs none ([] : List Int).length 0, vi (7), vi (0), vi (0), vi (0), vi (1), vs none ([] : List Int).length 0, vi (7), vi (0), vi (0), vi (0), vi (4), vs none ([] : List Int).length 0, vi (7), vi (0), vi (0), vi (0), vi (5), vs none ([] : List Int).length 0, vi (7), vi (0), vi (2), vi (0), vi (0), vs none ([] : List Int).length 0, vi (8), vi (0), vi (0), vi (0), vi (0), vs none ([] : List Int).length 0, vi (7), vi (0), vi (0), vi (-5), vi (3), vs none ([] : List Int).length 0]), fsl 1 (.slice none ([] : List Int).length 0) ([] : List Int).length (([] : List Int).map (Value.int .u8)), fsl 1 (.slice none ([] : List Int).length 0) ([] : List Int).length (([] : List Int).map (Value.int .u8)), fsl 1 (.slice none ([] : List Int).length 0) ([] : List Int).length (([] : List Int).map (Value.int .u8)), fsl 1 (.slice none ([] : List Int).length 0) ([] : List Int).length (([] : List Int).map (Value.int .u8)), fsl 1 (.slice none ([] : List Int).length 0) ([] : List Int).length (([] : List Int).map (Value.int .u8)), fsl 1 (.slice none ([] : List Int).length 0) ([] : List Int).length (([] : List Int).map (Value.int .u8)), fsl 1 (.slice none ([] : List Int).length 0) ([] : List Int).length (([] : List Int).map (Value.int .u8)), fsl 1 (.slice none ([] : List Int).length 0) ([] : List Int).length (([] : List Int).map (Value.int .u8)), fsl 1 (.slice none ([] : List Int).length 0) ([] : List Int).length (([] : List Int).map (Value.int .u8)), fsl 1 (.slice none ([] : List Int).length 0) ([] : List Int).length (([] : List Int).map (Value.int .u8)), fsl 1 (.slice ra7 (List.replicate (21 : Int).toNat 0).length rc8) (List.replicate (21 : Int).toNat 0).length ((List.replicate (21 : Int).toNat 0).map (Value.int .u8)), fsl 1 (.slice none ([] : List Int).length 0) ([] : List Int).length (([] : List Int).map (Value.int .u8)), fsl 1 (.slice none ([] : List Int).length 0) ([] : List Int).length (([] : List Int).map (Value.int .u8)), fsl 1 (.slice none ([] : List Int).length 0) ([] : List Int).length (([] : List Int).map (Value.int .u8)), fsl 1 (.slice none ([] : List Int).length 0) ([] : List Int).length (([] : List Int).map (Value.int .u8)), fsl 1 (.slice none ([] : List Int).length 0) ([] : List Int).length (([] : List Int).map (Value.int .u8)), fsl 1 (.slice (some ⟨lb5, 0, none⟩) ([97] : List Int).length 1) ([97] : List Int).length (([97] : List Int).map (Value.int .u8)), R] w0 w ∧ ∃ kf36, kf36 ≤ k ∧ signalmanlaw25_SignalErrors.j0 kf36 a0 t1 x35 = some r) (fun st => match st with | x35 => [(0, vi a0), (3, vb t1), (4, vs (some ⟨lb9, 0, none⟩) (([({ Kind := 1, At := 0, Line := 0, N := 0, Fault := 0, B := ([] : List Int) } : api_Op), ({ Kind := 1, At := 0, Line := 0, N := (-1), Fault := 0, B := ([] : List Int) } : api_Op), ({ Kind := 2, At := 1, Line := 0, N := 0, Fault := 0, B := ([] : List Int) } : api_Op), ({ Kind := 2, At := 2, Line := 0, N := 0, Fault := 0, B := ([] : List Int) } : api_Op), ({ Kind := 3, At := 0, Line := 0, N := 0, Fault := 0, B := ([] : List Int) } : api_Op), ({ Kind := 4, At := 0, Line := 0, N := 0, Fault := 0, B := ([97] : List Int) } : api_Op), ({ Kind := 4, At := 0, Line := 0, N := 0, Fault := 0, B := List.replicate (21 : Int).toNat 0 } : api_Op), ({ Kind := 5, At := 0, Line := 0, N := 0, Fault := 0, B := ([] : List Int) } : api_Op), ({ Kind := 5, At := 2, Line := 0, N := 0, Fault := 0, B := ([] : List Int) } : api_Op), ({ Kind := 6, At := 0, Line := 0, N := 3, Fault := 0, B := ([] : List Int) } : api_Op), ({ Kind := 6, At := 0, Line := 0, N := 4, Fault := 0, B := ([] : List Int) } : api_Op), ({ Kind := 7, At := 0, Line := 0, N := 0, Fault := 1, B := ([] : List Int) } : api_Op), ({ Kind := 7, At := 0, Line := 0, N := 0, Fault := 4, B := ([] : List Int) } : api_Op), ({ Kind := 7, At := 0, Line := 0, N := 0, Fault := 5, B := ([] : List Int) } : api_Op), ({ Kind := 7, At := 0, Line := 2, N := 0, Fault := 0, B := ([] : List Int) } : api_Op), ({ Kind := 8, At := 0, Line := 0, N := 0, Fault := 0, B := ([] : List Int) } : api_Op), ({ Kind := 7, At := 0, Line := 0, N := (-5), Fault := 3, B := ([] : List Int) } : api_Op)] : List api_Op)).length 17), (5, vs (some ⟨lb14, 0, none⟩) ([0, 1, 0, 1, 7, 7, 5, 0, 1, 0, 1, 0, 1, 0, 1, 1, 0] : List Int).length 17), (42, vb x35)]) ?_ ?_)))
 ·refine V.region (W.mv rfl (W.r (X.not rfl) rfl (W.mv rfl ?_)))
  by_cases c51 : t1 = true
  ·replace H := ite_t c51 H
   refine W.want 33 rfl (sb (n_t c51)) (W.mv rfl (W.want 33 rfl (sb (n_t c51)) (W.r (X.cmp (decide (a0 < 0)) rfl rfl rfl rfl) rfl (W.r (X.pickF (sb (n_t c51)) rfl) rfl (W.mv rfl ?_)))))
   by_cases c52 : a0 < 0
   ·replace H := ite_t c52 H
    refine W.pass 37 rfl (sb (dT c52)) rfl rfl (W.pass 37 rfl (sb (dT c52)) rfl rfl (W.pass 37 rfl (sb (dT c52)) rfl rfl (W.pass 37 rfl (sb (dT c52)) rfl rfl (W.r (X.pickT (sb (dT c52)) rfl) rfl (W.nil ?_)))))
    exact At.meet true ⟨rfl, rfl, rfl, rfl, rfl, tv⟩ ⟨HS, k, by omega, H⟩
   ·replace H := ite_f c52 H
    refine W.want 37 rfl (sb (dF c52)) (W.mv rfl (W.want 37 rfl (sb (dF c52)) (W.mv rfl (W.want 37 rfl (sb (dF c52)) (W.r (X.lenSl underlying30 rfl) rfl (W.want 37 rfl (sb (dF c52)) (W.r (X.cmp (decide (a0 ≥ ((([({ Kind := 1, At := 0, Line := 0, N := 0, Fault := 0, B := ([] : List Int) } : api_Op), ({ Kind := 1, At := 0, Line := 0, N := (-1), Fault := 0, B := ([] : List Int) } : api_Op), ({ Kind := 2, At := 1, Line := 0, N := 0, Fault := 0, B := ([] : List Int) } : api_Op), ({ Kind := 2, At := 2, Line := 0, N := 0, Fault := 0, B := ([] : List Int) } : api_Op), ({ Kind := 3, At := 0, Line := 0, N := 0, Fault := 0, B := ([] : List Int) } : api_Op), ({ Kind := 4, At := 0, Line := 0, N := 0, Fault := 0, B := ([97] : List Int) } : api_Op), ({ Kind := 4, At := 0, Line := 0, N := 0, Fault := 0, B := List.replicate (21 : Int).toNat 0 } : api_Op), ({ Kind := 5, At := 0, Line := 0, N := 0, Fault := 0, B := ([] : List Int) } : api_Op), ({ Kind := 5, At := 2, Line := 0, N := 0, Fault := 0, B := ([] : List Int) } : api_Op), ({ Kind := 6, At := 0, Line := 0, N := 3, Fault := 0, B := ([] : List Int) } : api_Op), ({ Kind := 6, At := 0, Line := 0, N := 4, Fault := 0, B := ([] : List Int) } : api_Op), ({ Kind := 7, At := 0, Line := 0, N := 0, Fault := 1, B := ([] : List Int) } : api_Op), ({ Kind := 7, At := 0, Line := 0, N := 0, Fault := 4, B := ([] : List Int) } : api_Op), ({ Kind := 7, At := 0, Line := 0, N := 0, Fault := 5, B := ([] : List Int) } : api_Op), ({ Kind := 7, At := 0, Line := 2, N := 0, Fault := 0, B := ([] : List Int) } : api_Op), ({ Kind := 8, At := 0, Line := 0, N := 0, Fault := 0, B := ([] : List Int) } : api_Op), ({ Kind := 7, At := 0, Line := 0, N := (-5), Fault := 3, B := ([] : List Int) } : api_Op)] : List api_Op)).length : Int))) rfl rfl rfl rfl) rfl (W.r (X.pickF (sb (dF c52)) rfl) rfl (W.nil ?_)))))))))
    exact At.meet (decide (a0 ≥ ((([({ Kind := 1, At := 0, Line := 0, N := 0, Fault := 0, B := ([] : List Int) } : api_Op), ({ Kind := 1, At := 0, Line := 0, N := (-1), Fault := 0, B := ([] : List Int) } : api_Op), ({ Kind := 2, At := 1, Line := 0, N := 0, Fault := 0, B := ([] : List Int) } : api_Op), ({ Kind := 2, At := 2, Line := 0, N := 0, Fault := 0, B := ([] : List Int) } : api_Op), ({ Kind := 3, At := 0, Line := 0, N := 0, Fault := 0, B := ([] : List Int) } : api_Op), ({ Kind := 4, At := 0, Line := 0, N := 0, Fault := 0, B := ([97] : List Int) } : api_Op), ({ Kind := 4, At := 0, Line := 0, N := 0, Fault := 0, B := List.replicate (21 : Int).toNat 0 } : api_Op), ({ Kind := 5, At := 0, Line := 0, N := 0, Fault := 0, B := ([] : List Int) } : api_Op), ({ Kind := 5, At := 2, Line := 0, N := 0, Fault := 0, B := ([] : List Int) } : api_Op), ({ Kind := 6, At := 0, Line := 0, N := 3, Fault := 0, B := ([] : List Int) } : api_Op), ({ Kind := 6, At := 0, Line := 0, N := 4, Fault := 0, B := ([] : List Int) } : api_Op), ({ Kind := 7, At := 0, Line := 0, N := 0, Fault := 1, B := ([] : List Int) } : api_Op), ({ Kind := 7, At := 0, Line := 0, N := 0, Fault := 4, B := ([] : List Int) } : api_Op), ({ Kind := 7, At := 0, Line := 0, N := 0, Fault := 5, B := ([] : List Int) } : api_Op), ({ Kind := 7, At := 0, Line := 2, N := 0, Fault := 0, B := ([] : List Int) } : api_Op), ({ Kind := 8, At := 0, Line := 0, N := 0, Fault := 0, B := ([] : List Int) } : api_Op), ({ Kind := 7, At := 0, Line := 0, N := (-5), Fault := 3, B := ([] : List Int) } : api_Op)] : List api_Op)).length : Int))) ⟨rfl, rfl, rfl, rfl, rfl, tv⟩ ⟨HS, k, by omega, H⟩
  ·replace H := ite_f c51 H
   refine W.pass 33 rfl (sb (n_f (b_f c51))) rfl rfl (W.pass 33 rfl (sb (n_f (b_f c51))) rfl rfl (W.r (X.pickT (sb (n_f (b_f c51))) rfl) rfl (W.mv rfl (W.pass 37 rfl rfl rfl rfl (W.pass 37 rfl rfl rfl rfl (W.pass 37 rfl rfl rfl rfl (W.pass 37 rfl rfl rfl rfl (W.r (X.pickT rfl rfl) rfl (W.nil ?_)))))))))
   exact At.meet true ⟨rfl, rfl, rfl, rfl, rfl, tv⟩ ⟨HS, k, by omega, H⟩
 ·rintro x35 w ⟨HS, kf36, hkkf36, H⟩
  unfold signalmanlaw25_SignalErrors.j0 at H
  by_cases c37 : x35 = true
  ·replace H := ite_t c37 H
   refine V.condT (sb c37) (V.seq (V.region (W.mv rfl (W.as rfl (W.nx (V.ret (At.thenRet ?_)))))))
   replace HS := HS.pk [20] [0, 1, 2, 3, 4, 5, 6, 7, 8, 9, 10, 11, 12, 13, 14, 15, 16, 17, 18, 19]
   cases H
   exact At.ret1 rfl rfl ⟨_, rfl, rfl, HS⟩
  ·replace H := ite_f c37 H
   refine V.condF (sb (b_f c37)) (V.skip (At.next (V.seq ?_)))
   obtain ⟨c38, H⟩ := ite_n H
   refine V.dr [0, 6] [7, 8, 9, 10, 11] [(46, vs (some ⟨lb9, 0, none⟩) (([({ Kind := 1, At := 0, Line := 0, N := 0, Fault := 0, B := ([] : List Int) } : api_Op), ({ Kind := 1, At := 0, Line := 0, N := (-1), Fault := 0, B := ([] : List Int) } : api_Op), ({ Kind := 2, At := 1, Line := 0, N := 0, Fault := 0, B := ([] : List Int) } : api_Op), ({ Kind := 2, At := 2, Line := 0, N := 0, Fault := 0, B := ([] : List Int) } : api_Op), ({ Kind := 3, At := 0, Line := 0, N := 0, Fault := 0, B := ([] : List Int) } : api_Op), ({ Kind := 4, At := 0, Line := 0, N := 0, Fault := 0, B := ([97] : List Int) } : api_Op), ({ Kind := 4, At := 0, Line := 0, N := 0, Fault := 0, B := List.replicate (21 : Int).toNat 0 } : api_Op), ({ Kind := 5, At := 0, Line := 0, N := 0, Fault := 0, B := ([] : List Int) } : api_Op), ({ Kind := 5, At := 2, Line := 0, N := 0, Fault := 0, B := ([] : List Int) } : api_Op), ({ Kind := 6, At := 0, Line := 0, N := 3, Fault := 0, B := ([] : List Int) } : api_Op), ({ Kind := 6, At := 0, Line := 0, N := 4, Fault := 0, B := ([] : List Int) } : api_Op), ({ Kind := 7, At := 0, Line := 0, N := 0, Fault := 1, B := ([] : List Int) } : api_Op), ({ Kind := 7, At := 0, Line := 0, N := 0, Fault := 4, B := ([] : List Int) } : api_Op), ({ Kind := 7, At := 0, Line := 0, N := 0, Fault := 5, B := ([] : List Int) } : api_Op), ({ Kind := 7, At := 0, Line := 2, N := 0, Fault := 0, B := ([] : List Int) } : api_Op), ({ Kind := 8, At := 0, Line := 0, N := 0, Fault := 0, B := ([] : List Int) } : api_Op), ({ Kind := 7, At := 0, Line := 0, N := (-5), Fault := 3, B := ([] : List Int) } : api_Op)] : List api_Op)).length 17), (47, vi a0), (48, vi a0), (49, vi (w64 (a0 + 1))), (50, vs (vaddr (some ⟨lb9, 0, none⟩) 17 a0.toNat 6) (cut ([({ Kind := 1, At := 0, Line := 0, N := 0, Fault := 0, B := ([] : List Int) } : api_Op), ({ Kind := 1, At := 0, Line := 0, N := (-1), Fault := 0, B := ([] : List Int) } : api_Op), ({ Kind := 2, At := 1, Line := 0, N := 0, Fault := 0, B := ([] : List Int) } : api_Op), ({ Kind := 2, At := 2, Line := 0, N := 0, Fault := 0, B := ([] : List Int) } : api_Op), ({ Kind := 3, At := 0, Line := 0, N := 0, Fault := 0, B := ([] : List Int) } : api_Op), ({ Kind := 4, At := 0, Line := 0, N := 0, Fault := 0, B := ([97] : List Int) } : api_Op), ({ Kind := 4, At := 0, Line := 0, N := 0, Fault := 0, B := List.replicate (21 : Int).toNat 0 } : api_Op), ({ Kind := 5, At := 0, Line := 0, N := 0, Fault := 0, B := ([] : List Int) } : api_Op), ({ Kind := 5, At := 2, Line := 0, N := 0, Fault := 0, B := ([] : List Int) } : api_Op), ({ Kind := 6, At := 0, Line := 0, N := 3, Fault := 0, B := ([] : List Int) } : api_Op), ({ Kind := 6, At := 0, Line := 0, N := 4, Fault := 0, B := ([] : List Int) } : api_Op), ({ Kind := 7, At := 0, Line := 0, N := 0, Fault := 1, B := ([] : List Int) } : api_Op), ({ Kind := 7, At := 0, Line := 0, N := 0, Fault := 4, B := ([] : List Int) } : api_Op), ({ Kind := 7, At := 0, Line := 0, N := 0, Fault := 5, B := ([] : List Int) } : api_Op), ({ Kind := 7, At := 0, Line := 2, N := 0, Fault := 0, B := ([] : List Int) } : api_Op), ({ Kind := 8, At := 0, Line := 0, N := 0, Fault := 0, B := ([] : List Int) } : api_Op), ({ Kind := 7, At := 0, Line := 0, N := (-5), Fault := 3, B := ([] : List Int) } : api_Op)] : List api_Op) a0 (w64 (a0 + 1))).length (17 - a0.toNat))] mo HS ?_
   refine T.ev [] [7, 8, 9, 10, 11] [] tv ⟨.mv 4, .mv 0, .mv 0, .n1 48 rfl rfl (fun w HS => X.add rfl rfl), .ns [(46, _), (47, _), (49, _)] ⟨rfl, rfl, rfl, tv⟩ rfl (fun w HS => X.slLH underlying30 inf29 rfl rfl rfl c38 (rdC.at 2 row_rd HS rfl).cap), tv⟩ rfl (fun w HS => ?_)
   obtain ⟨t39, A40, H⟩ := bind_s H
   refine ⟨_, Y.cl func13 (signalmanlaw20_Good.calls A40 HS.j0), ?_⟩
   rintro _ w ⟨rfl, HS⟩
   replace HS := HS.o0
   refine T.nw HS ?_
   refine T.ev [(45, _), (50, _)] [] [1, 2, 3, 4, 5] ⟨rfl, rfl, tv⟩ ⟨.mv 4, .mv 0, .mv 0, .n1 48 rfl rfl (fun w HS => X.add rfl rfl), .ns [(46, _), (47, _), (49, _)] ⟨rfl, rfl, rfl, tv⟩ rfl (fun w HS => X.slLH underlying30 inf29 rfl rfl rfl c38 (rdC.at 2 row_rd HS rfl).cap), tv⟩ rfl (fun w HS => ?_)
   replace HS := St.tie_cut2 1 a0 (w64 (a0 + 1)) HS rfl
   obtain ⟨t41, A42, H⟩ := bind_s H
   refine ⟨_, Y.cl func17 (signalman_Play.calls A42 HS.j0 (rdC.part 3 (rdC.sub row_rd c38) rfl) (fun h hh => let ⟨_, l, t⟩ := Sp.has 0 hh rfl; tie.mono t l)), ?_⟩
   rintro _ w ⟨at41_0, ct41_0, dt41_0, at41_1, ct41_1, rfl, HS⟩
   replace HS := HS.o3
   refine T.nm [(51, Value.tuple #[vs at41_0 t41.1.length ct41_0, vs at41_1 t41.2.length ct41_1]), (44, Value.tuple #[vs at41_0 t41.1.length ct41_0, vs at41_1 t41.2.length ct41_1]), (52, vs at41_0 t41.1.length ct41_0), (53, vs at41_1 t41.2.length ct41_1), (6, vs at41_0 t41.1.length ct41_0), (7, vs at41_1 t41.2.length ct41_1)] HS ⟨.inl ⟨rfl, rfl⟩, ⟨.inr ⟨by decide, rfl⟩, ⟨.inr ⟨by decide, rfl⟩, ⟨.inr ⟨by decide, rfl⟩, ⟨.inr ⟨by decide, rfl⟩, ⟨.inr ⟨by decide, rfl⟩, tv⟩⟩⟩⟩⟩⟩ ?_
   refine T.fn [(0, _), (5, _), (6, _), (7, _)] ⟨rfl, rfl, rfl, rfl, tv⟩ ⟨.mv 51, .n1 44 rfl rfl (fun w HS => X.extract rfl rfl), .n1 44 rfl rfl (fun w HS => X.extract rfl rfl), .as 52, .as 53, tv⟩ (fun w HS => ?_)
   refine At.next (V.seq ?_)
   by_cases c43 : (t41.1.length : Int) = 0
   ·replace H := ite_t c43 H
    by_cases c44 : (t41.2.length : Int) = 1
    ·replace H := ite_t c44 H
     obtain ⟨c45, H⟩ := ite_n H
     obtain ⟨eb46, eo47, hh⟩ := (rdC.at 2 row_rd HS rfl).some (by decide) c45.1 c45.2; subst hh
     obtain ⟨c48, H⟩ := ite_n H
     refine V.dr [12] [17, 18, 19] [(54, vs at41_0 t41.1.length ct41_0), (55, vi (t41.1.length : Int)), (56, vb (decide ((t41.1.length : Int) = 0))), (57, vb (decide ((t41.1.length : Int) = 0))), (58, vs (some ⟨eb46, eo47, none⟩) t41.2.length ct41_1), (59, vi (t41.2.length : Int)), (60, vb (decide ((t41.2.length : Int) = 1))), (61, vb (decide ((t41.2.length : Int) = 1))), (62, vb (decide ((t41.2.length : Int) = 1))), (63, vs (some ⟨eb46, eo47, none⟩) t41.2.length ct41_1), (64, po eb46 (eo47 + (0 : Int).toNat * 1)), (65, vi (t41.2.getD (0 : Int).toNat 0)), (67, vs (some ⟨lb14, 0, none⟩) ([0, 1, 0, 1, 7, 7, 5, 0, 1, 0, 1, 0, 1, 0, 1, 1, 0] : List Int).length 17), (68, vi a0), (69, po lb14 (0 + a0.toNat * 1)), (70, vi (([0, 1, 0, 1, 7, 7, 5, 0, 1, 0, 1, 0, 1, 0, 1, 1, 0] : List Int).getD a0.toNat 0))] mo HS ?_
     refine T.evG [(65, _), (62, _)] [] [0, 1, 2, 3, 4, 5, 6, 7, 8, 9, 10, 11] ⟨rfl, rfl, tv⟩ ⟨.mv 6, .n1 54 rfl rfl (fun w HS => X.lenSl underlying39 rfl), .n1 55 rfl rfl (fun w HS => X.cmp (decide ((t41.1.length : Int) = 0)) rfl rfl rfl rfl), .mv 56, .gw [(7, _), (57, _)] 3 true 57 ⟨rfl, rfl, tv⟩ rfl (sb (dT c43)) (fun w HS => X.move rfl), .gw [(58, _), (57, _)] 3 true 57 ⟨rfl, rfl, tv⟩ rfl (sb (dT c43)) (fun w HS => X.lenSl underlying40 rfl), .gw [(59, _), (57, _)] 3 true 57 ⟨rfl, rfl, tv⟩ rfl (sb (dT c43)) (fun w HS => X.cmp (decide ((t41.2.length : Int) = 1)) rfl rfl rfl rfl), .n2 57 60 rfl rfl rfl (fun w HS => X.pickT (sb (dT c43)) rfl), .mv 61, .gw [(7, _), (62, _)] 8 true 62 ⟨rfl, rfl, tv⟩ rfl (sb (dT c44)) (fun w HS => X.move rfl), .gw [(63, _), (62, _)] 8 true 62 ⟨rfl, rfl, tv⟩ rfl (sb (dT c44)) (fun w HS => X.indexSl underlying40 inf44 rfl rfl c45.1 c45.2), .gw [(64, _), (62, _)] 8 true 62 ⟨rfl, rfl, tv⟩ rfl (sb (dT c44)) (fun w HS => X.load underlying44 rfl rfl ((rdC.at 2 row_rd HS rfl).cellI c45.1 c45.2)), .gw [(5, _), (62, _)] 8 true 62 ⟨rfl, rfl, tv⟩ rfl (sb (dT c44)) (fun w HS => X.move rfl), .gw [(0, _), (62, _)] 8 true 62 ⟨rfl, rfl, tv⟩ rfl (sb (dT c44)) (fun w HS => X.move rfl), .gw [(67, _), (68, _), (62, _)] 8 true 62 ⟨rfl, rfl, rfl, tv⟩ rfl (sb (dT c44)) (fun w HS => X.indexSl underlying48 inf3 rfl rfl c48.1 c48.2), .gw [(69, _), (62, _)] 8 true 62 ⟨rfl, rfl, tv⟩ rfl (sb (dT c44)) (fun w HS => X.load underlying3 rfl rfl ((rdC.at 4 row_rd HS rfl).cellI c48.1 c48.2)), tv⟩ rfl (Or.inr ⟨8, true, 62, rfl, rfl, (sb (dT c44))⟩) (fun w HS => ?_)
     obtain ⟨t49, A50, H⟩ := bind_s H
     refine ⟨_, Y.cl func18 (signalmanlaw25_num.calls A50 HS.j0), ?_⟩
     rintro _ w ⟨rfl, HS⟩
     replace HS := HS.o0
     refine T.nm [(66, vi t49), (71, vb (decide (t49 = (([0, 1, 0, 1, 7, 7, 5, 0, 1, 0, 1, 0, 1, 0, 1, 1, 0] : List Int).getD a0.toNat 0)))), (72, vb (decide (t49 = (([0, 1, 0, 1, 7, 7, 5, 0, 1, 0, 1, 0, 1, 0, 1, 1, 0] : List Int).getD a0.toNat 0)))), (2, vb (decide (t49 = (([0, 1, 0, 1, 7, 7, 5, 0, 1, 0, 1, 0, 1, 0, 1, 1, 0] : List Int).getD a0.toNat 0))))] HS ⟨.inl ⟨rfl, rfl⟩, ⟨.inr ⟨by decide, rfl⟩, ⟨.inr ⟨by decide, rfl⟩, ⟨.inr ⟨by decide, rfl⟩, tv⟩⟩⟩⟩ ?_
     refine T.fn [(2, _)] ⟨rfl, tv⟩ ⟨.gw [(5, _), (62, _)] 8 true 62 ⟨rfl, rfl, tv⟩ rfl (sb (dT c44)) (fun w HS => X.move rfl), .gw [(0, _), (62, _)] 8 true 62 ⟨rfl, rfl, tv⟩ rfl (sb (dT c44)) (fun w HS => X.move rfl), .gw [(67, _), (68, _), (62, _)] 8 true 62 ⟨rfl, rfl, rfl, tv⟩ rfl (sb (dT c44)) (fun w HS => X.indexSl underlying48 inf3 rfl rfl c48.1 c48.2), .gw [(69, _), (62, _)] 8 true 62 ⟨rfl, rfl, tv⟩ rfl (sb (dT c44)) (fun w HS => X.load underlying3 rfl rfl ((rdC.at 4 row_rd HS rfl).cellI c48.1 c48.2)), .gw [(66, _), (70, _), (62, _)] 8 true 62 ⟨rfl, rfl, rfl, tv⟩ rfl (sb (dT c44)) (fun w HS => X.cmp (decide (t49 = (([0, 1, 0, 1, 7, 7, 5, 0, 1, 0, 1, 0, 1, 0, 1, 1, 0] : List Int).getD a0.toNat 0))) rfl rfl rfl rfl), .n2 62 71 rfl rfl rfl (fun w HS => X.pickT (sb (dT c44)) rfl), .as 72, tv⟩ (fun w HS => ?_)
     refine At.next (V.ret ?_)
     replace HS := HS.pk [24] [0, 1, 2, 3, 4, 5, 6, 7, 8, 9, 10, 11, 12, 13, 14, 15, 16, 17, 18, 19, 20, 21, 22, 23]
     cases H
     exact At.ret1 rfl rfl ⟨_, rfl, rfl, HS⟩
    ·replace H := ite_f c44 H
     refine V.dr [12] [17, 18, 19] [(54, vs at41_0 t41.1.length ct41_0), (55, vi (t41.1.length : Int)), (56, vb (decide ((t41.1.length : Int) = 0))), (57, vb (decide ((t41.1.length : Int) = 0))), (58, vs at41_1 t41.2.length ct41_1), (59, vi (t41.2.length : Int)), (60, vb (decide ((t41.2.length : Int) = 1))), (61, vb (decide ((t41.2.length : Int) = 1))), (62, vb (decide ((t41.2.length : Int) = 1))), (63, undef), (64, undef), (65, undef), (67, undef), (68, undef), (69, undef), (70, undef)] mo HS ?_
     refine T.drop (es' := []) (bl' := []) [(66, undef), (71, undef), (72, vb false), (2, vb false)] rfl ⟨.inr ⟨by decide, rfl⟩, ⟨.inr ⟨by decide, rfl⟩, ⟨.inr ⟨by decide, rfl⟩, ⟨.inr ⟨by decide, rfl⟩, tv⟩⟩⟩⟩ ?_
     refine T.fn [(2, _)] ⟨rfl, tv⟩ ⟨.mv 6, .n1 54 rfl rfl (fun w HS => X.lenSl underlying39 rfl), .n1 55 rfl rfl (fun w HS => X.cmp (decide ((t41.1.length : Int) = 0)) rfl rfl rfl rfl), .mv 56, .gw [(7, _), (57, _)] 3 true 57 ⟨rfl, rfl, tv⟩ rfl (sb (dT c43)) (fun w HS => X.move rfl), .gw [(58, _), (57, _)] 3 true 57 ⟨rfl, rfl, tv⟩ rfl (sb (dT c43)) (fun w HS => X.lenSl underlying40 rfl), .gw [(59, _), (57, _)] 3 true 57 ⟨rfl, rfl, tv⟩ rfl (sb (dT c43)) (fun w HS => X.cmp (decide ((t41.2.length : Int) = 1)) rfl rfl rfl rfl), .n2 57 60 rfl rfl rfl (fun w HS => X.pickT (sb (dT c43)) rfl), .mv 61, .gp 8 true false 62 rfl rfl (Option.some.inj (sb (dF c44))) rfl, .gp 8 true false 62 rfl rfl (Option.some.inj (sb (dF c44))) rfl, .gp 8 true false 62 rfl rfl (Option.some.inj (sb (dF c44))) rfl, .gp 8 true false 62 rfl rfl (Option.some.inj (sb (dF c44))) rfl, .gp 8 true false 62 rfl rfl (Option.some.inj (sb (dF c44))) rfl, .gp 8 true false 62 rfl rfl (Option.some.inj (sb (dF c44))) rfl, .gp 8 true false 62 rfl rfl (Option.some.inj (sb (dF c44))) rfl, .gp 8 true false 62 rfl rfl (Option.some.inj (sb (dF c44))) rfl, .gp 8 true false 62 rfl rfl (Option.some.inj (sb (dF c44))) rfl, .n2 62 71 rfl rfl rfl (fun w HS => X.pickF (sb (dF c44)) rfl), .as 72, tv⟩ (fun w HS => ?_)
     refine At.next (V.ret ?_)
     replace HS := HS.pk [24] [0, 1, 2, 3, 4, 5, 6, 7, 8, 9, 10, 11, 12, 13, 14, 15, 16, 17, 18, 19, 20, 21, 22, 23]
     cases H
     exact At.ret1 rfl rfl ⟨_, rfl, rfl, HS⟩
   ·replace H := ite_f c43 H
    refine V.dr [12] [17, 18, 19] [(54, vs at41_0 t41.1.length ct41_0), (55, vi (t41.1.length : Int)), (56, vb (decide ((t41.1.length : Int) = 0))), (57, vb (decide ((t41.1.length : Int) = 0))), (58, undef), (59, undef), (60, undef), (61, vb false), (62, vb false), (63, undef), (64, undef), (65, undef), (67, undef), (68, undef), (69, undef), (70, undef)] mo HS ?_
    refine T.drop (es' := []) (bl' := []) [(66, undef), (71, undef), (72, vb false), (2, vb false)] rfl ⟨.inr ⟨by decide, rfl⟩, ⟨.inr ⟨by decide, rfl⟩, ⟨.inr ⟨by decide, rfl⟩, ⟨.inr ⟨by decide, rfl⟩, tv⟩⟩⟩⟩ ?_
    refine T.fn [(2, _)] ⟨rfl, tv⟩ ⟨.mv 6, .n1 54 rfl rfl (fun w HS => X.lenSl underlying39 rfl), .n1 55 rfl rfl (fun w HS => X.cmp (decide ((t41.1.length : Int) = 0)) rfl rfl rfl rfl), .mv 56, .gp 3 true false 57 rfl rfl (Option.some.inj (sb (dF c43))) rfl, .gp 3 true false 57 rfl rfl (Option.some.inj (sb (dF c43))) rfl, .gp 3 true false 57 rfl rfl (Option.some.inj (sb (dF c43))) rfl, .n2 57 60 rfl rfl rfl (fun w HS => X.pickF (sb (dF c43)) rfl), .mv 61, .gp 8 true false 62 rfl rfl rfl rfl, .gp 8 true false 62 rfl rfl rfl rfl, .gp 8 true false 62 rfl rfl rfl rfl, .gp 8 true false 62 rfl rfl rfl rfl, .gp 8 true false 62 rfl rfl rfl rfl, .gp 8 true false 62 rfl rfl rfl rfl, .gp 8 true false 62 rfl rfl rfl rfl, .gp 8 true false 62 rfl rfl rfl rfl, .gp 8 true false 62 rfl rfl rfl rfl, .n2 62 71 rfl rfl rfl (fun w HS => X.pickF rfl rfl), .as 72, tv⟩ (fun w HS => ?_)
    refine At.next (V.ret ?_)
    replace HS := HS.pk [24] [0, 1, 2, 3, 4, 5, 6, 7, 8, 9, 10, 11, 12, 13, 14, 15, 16, 17, 18, 19, 20, 21, 22, 23]
    cases H
    exact At.ret1 rfl rfl ⟨_, rfl, rfl, HS⟩
def signalmanlaw25_SignalErrors.Pure : Prop := ∀ (a0 : Int), (Lit.int .i64 a0).wf = true → ∃ k, signalmanlaw25_SignalErrors.f k a0 = some true
end Go.Proofs.YtgkjmdapodgnfaaGreat
