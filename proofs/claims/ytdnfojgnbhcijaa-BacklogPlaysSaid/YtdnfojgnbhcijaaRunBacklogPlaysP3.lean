/- BacklogPlays: the functions that its law reaches, as plain functions, and that the machine's calls come to what these say. Conditions: those that stand at each. -/
import Derived.Test.YtdnfojgnbhcijaaRunBacklogPlaysP2
set_option linter.all false
namespace Go.Proofs.Ytdnfojgnbhcijaa
open Go.RowKit Go.Proofs.Ytdnfojgnbhcijaa.Sep Go.Proofs.Ytdnfojgnbhcijaa.Walk
/-! ### (*signalman/backlog.Log).Body: function 21 -/
mutual
def backlog_Log_Body.j0 (a0 : backlog_Log) (t1 : Int) (x6 : Bool) : Option (List Int × Bool) := (if x6 = true then some (([] : List Int), false) else (if 0 ≤ t1 ∧ t1 < (((a0).l).length : Int) then ((slices_Clone_Sbytebyte.f (((a0).l).getD (t1).toNat [])).bind fun t18 => some (t18, true)) else none))
end
def backlog_Log_Body.f (a0 : backlog_Log) (a1 : Int) : Option (List Int × Bool) := ((serial_Dist.f ((a0).first) a1 ((a0).m)).bind fun t1 => (if a1 < 0 then (backlog_Log_Body.j0 a0 t1 true) else (if a1 ≥ ((a0).m) then (backlog_Log_Body.j0 a0 t1 true) else (backlog_Log_Body.j0 a0 t1 (decide (t1 ≥ ((a0).out)))))))
set_option maxRecDepth 100000 in
set_option maxHeartbeats 4000000 in
theorem backlog_Log_Body.calls (a0 : backlog_Log) (a1 : Int) (R : As) (w0 w : World) (b0 : Nat) (a5_p0 : Option Addr) (c5_p0 : Nat) (d5_p0 : List Value) (r : List Int × Bool)  (H : backlog_Log_Body.f a0 a1 = some r) (HS : Sep.St [blk b0 (#[Value.int .i64 ((a0).m), Value.int .i64 ((a0).window), Value.int .i64 ((a0).queue), Value.int .i64 ((a0).first), Value.int .i64 ((a0).out), Value.slice a5_p0 ((a0).l).length c5_p0]) 54, row 27 1 (.slice a5_p0 ((a0).l).length c5_p0) ((a0).l).length d5_p0, tie (El.sl (El.int .u8)) d5_p0 ((a0).l), R] w0 w) : Calls Try.prog 21 #[Value.pointer (some ⟨b0, 0, none⟩), Value.int .i64 (a1)] w (Ret fun u w => ∃ (aq0 : Option Addr) (cq0 : Nat), u = Value.tuple #[Value.slice aq0 (r.1).length cq0, Value.bool (r.2)] ∧ Sep.St [row 5 1 (.slice aq0 (r.1).length cq0) (r.1).length ((r.1).map (Value.int .u8)), blk b0 (#[Value.int .i64 ((a0).m), Value.int .i64 ((a0).window), Value.int .i64 ((a0).queue), Value.int .i64 ((a0).first), Value.int .i64 ((a0).out), Value.slice a5_p0 ((a0).l).length c5_p0]) 54, row 27 1 (.slice a5_p0 ((a0).l).length c5_p0) ((a0).l).length d5_p0, tie (El.sl (El.int .u8)) d5_p0 ((a0).l), R] w0 w) := by
  unfold backlog_Log_Body.f at H
  refine calls_enter Try.func21 rfl rfl ?_
  have H : _ = some r := H
  refine V.seq ?_
  refine V.region ?_
  refine W.rd (X.assign rfl) rfl rfl rfl ?_
  refine W.rd (X.assign rfl) rfl rfl rfl ?_
  refine W.nil ?_
  refine At.next ?_
  refine V.keep [(0, Value.pointer (some ⟨b0, 0, none⟩)), (1, Value.int .i64 (a1))] ⟨rfl, rfl, trivial⟩ ?_
  refine V.seq ?_
  refine V.draw (es := [9]) (bl := [10]) (f := [(7, Value.pointer (some ⟨b0, 0, none⟩)), (8, Value.pointer (some ⟨b0, 0, none⟩)), (9, Value.pointer (some ⟨b0, 0 + 3, none⟩)), (10, Value.int .i64 ((a0).first)), (11, Value.int .i64 (a1)), (12, Value.pointer (some ⟨b0, 0, none⟩)), (13, Value.pointer (some ⟨b0, 0, none⟩)), (14, Value.pointer (some ⟨b0, 0 + 0, none⟩)), (15, Value.int .i64 ((a0).m))]) (fun w => Sep.St [blk b0 (#[Value.int .i64 ((a0).m), Value.int .i64 ((a0).window), Value.int .i64 ((a0).queue), Value.int .i64 ((a0).first), Value.int .i64 ((a0).out), Value.slice a5_p0 ((a0).l).length c5_p0]) 54, row 27 1 (.slice a5_p0 ((a0).l).length c5_p0) ((a0).l).length d5_p0, tie (El.sl (El.int .u8)) d5_p0 ((a0).l), R] w0 w) mo HS.drew rfl ?_
  refine T.event _ [(10, Value.int .i64 ((a0).first)), (11, Value.int .i64 (a1)), (15, Value.int .i64 ((a0).m))] rfl rfl ⟨⟨_, Value.pointer (some ⟨b0, 0, none⟩), [(0, Value.pointer (some ⟨b0, 0, none⟩))], 7, rfl, rfl, ⟨.inl ⟨rfl, rfl⟩, trivial⟩, .run rfl (fun w HS => X.move rfl), rfl, rfl, rfl⟩, ⟨_, Value.pointer (some ⟨b0, 0, none⟩), [(7, Value.pointer (some ⟨b0, 0, none⟩))], 8, rfl, rfl, ⟨.inr ⟨rfl, rfl⟩, trivial⟩, .run rfl (fun w HS => X.nilCheck rfl), rfl, rfl, rfl⟩, ⟨_, Value.pointer (some ⟨b0, 0 + 3, none⟩), [(8, Value.pointer (some ⟨b0, 0, none⟩))], 9, rfl, rfl, ⟨.inr ⟨rfl, rfl⟩, trivial⟩, .run rfl (fun w HS => X.fieldAddr 3 fo54_3 rfl), rfl, rfl, rfl⟩, ⟨_, Value.int .i64 ((a0).first), [(9, Value.pointer (some ⟨b0, 0 + 3, none⟩))], 10, rfl, rfl, ⟨.inr ⟨rfl, rfl⟩, trivial⟩, .run rfl (fun w HS => X.loadAt 0 HS rfl Try.underlying3 rfl rfl rfl), rfl, rfl, rfl⟩, ⟨_, Value.int .i64 (a1), [(1, Value.int .i64 (a1))], 11, rfl, rfl, ⟨.inl ⟨rfl, rfl⟩, trivial⟩, .run rfl (fun w HS => X.move rfl), rfl, rfl, rfl⟩, ⟨_, Value.pointer (some ⟨b0, 0, none⟩), [(0, Value.pointer (some ⟨b0, 0, none⟩))], 12, rfl, rfl, ⟨.inl ⟨rfl, rfl⟩, trivial⟩, .run rfl (fun w HS => X.move rfl), rfl, rfl, rfl⟩, ⟨_, Value.pointer (some ⟨b0, 0, none⟩), [(12, Value.pointer (some ⟨b0, 0, none⟩))], 13, rfl, rfl, ⟨.inr ⟨rfl, rfl⟩, trivial⟩, .run rfl (fun w HS => X.nilCheck rfl), rfl, rfl, rfl⟩, ⟨_, Value.pointer (some ⟨b0, 0 + 0, none⟩), [(13, Value.pointer (some ⟨b0, 0, none⟩))], 14, rfl, rfl, ⟨.inr ⟨rfl, rfl⟩, trivial⟩, .run rfl (fun w HS => X.fieldAddr 0 fo54_0 rfl), rfl, rfl, rfl⟩, ⟨_, Value.int .i64 ((a0).m), [(14, Value.pointer (some ⟨b0, 0 + 0, none⟩))], 15, rfl, rfl, ⟨.inr ⟨rfl, rfl⟩, trivial⟩, .run rfl (fun w HS => X.loadAt 0 HS rfl Try.underlying3 rfl rfl rfl), rfl, rfl, rfl⟩, trivial⟩ rfl ⟨.inr ⟨rfl, rfl⟩, ⟨.inr ⟨rfl, rfl⟩, ⟨.inr ⟨rfl, rfl⟩, trivial⟩⟩⟩ (Or.inl rfl) (by intro d hd; cases hd; exact ⟨by decide, rfl, rfl⟩) [] [0, 1, 2, 3, 4, 5, 6, 7, 8] rfl rfl (fun w HS => ?_)
  have HS : Sep.St [blk b0 (#[Value.int .i64 ((a0).m), Value.int .i64 ((a0).window), Value.int .i64 ((a0).queue), Value.int .i64 ((a0).first), Value.int .i64 ((a0).out), Value.slice a5_p0 ((a0).l).length c5_p0]) 54, row 27 1 (.slice a5_p0 ((a0).l).length c5_p0) ((a0).l).length d5_p0, tie (El.sl (El.int .u8)) d5_p0 ((a0).l), R] w0 w := HS
  obtain ⟨t1, A2, H⟩ := bind_s H
  refine ⟨_, Y.call Try.func30 (by kernel_rfl) rfl (vs := [Value.int .i64 ((a0).first), Value.int .i64 (a1), Value.int .i64 ((a0).m)]) rfl (serial_Dist.calls ((a0).first) a1 ((a0).m) _ w0 _  t1  A2 (Sep.St.tailJoin (m := []) (r := [blk b0 (#[Value.int .i64 ((a0).m), Value.int .i64 ((a0).window), Value.int .i64 ((a0).queue), Value.int .i64 ((a0).first), Value.int .i64 ((a0).out), Value.slice a5_p0 ((a0).l).length c5_p0]) 54, row 27 1 (.slice a5_p0 ((a0).l).length c5_p0) ((a0).l).length d5_p0, tie (El.sl (El.int .u8)) d5_p0 ((a0).l), R]) HS)), ?_⟩
  rintro _ w ⟨rfl, HS⟩
  replace HS := Sep.St.tailOpen (m := []) (r := [blk b0 (#[Value.int .i64 ((a0).m), Value.int .i64 ((a0).window), Value.int .i64 ((a0).queue), Value.int .i64 ((a0).first), Value.int .i64 ((a0).out), Value.slice a5_p0 ((a0).l).length c5_p0]) 54, row 27 1 (.slice a5_p0 ((a0).l).length c5_p0) ((a0).l).length d5_p0, tie (El.sl (El.int .u8)) d5_p0 ((a0).l), R]) HS
  have HS : Sep.St [blk b0 (#[Value.int .i64 ((a0).m), Value.int .i64 ((a0).window), Value.int .i64 ((a0).queue), Value.int .i64 ((a0).first), Value.int .i64 ((a0).out), Value.slice a5_p0 ((a0).l).length c5_p0]) 54, row 27 1 (.slice a5_p0 ((a0).l).length c5_p0) ((a0).l).length d5_p0, tie (El.sl (El.int .u8)) d5_p0 ((a0).l), R] w0 w := HS
  refine ⟨[(16, Value.int .i64 (t1)), (6, Value.int .i64 (t1))], fun w => Sep.St [blk b0 (#[Value.int .i64 ((a0).m), Value.int .i64 ((a0).window), Value.int .i64 ((a0).queue), Value.int .i64 ((a0).first), Value.int .i64 ((a0).out), Value.slice a5_p0 ((a0).l).length c5_p0]) 54, row 27 1 (.slice a5_p0 ((a0).l).length c5_p0) ((a0).l).length d5_p0, tie (El.sl (El.int .u8)) d5_p0 ((a0).l), R] w0 w, ⟨.inl ⟨rfl, rfl⟩, ⟨.inr ⟨by decide, rfl⟩, trivial⟩⟩, ?_, HS⟩
  refine T.fin [(0, Value.pointer (some ⟨b0, 0, none⟩)), (1, Value.int .i64 (a1)), (6, Value.int .i64 (t1))] rfl ⟨⟨_, Value.int .i64 (t1), [(16, Value.int .i64 (t1))], 6, rfl, rfl, ⟨.inr ⟨rfl, rfl⟩, trivial⟩, .run rfl (fun w HS => X.assign rfl), rfl, rfl, rfl⟩, trivial⟩ ⟨.inl ⟨rfl, rfl⟩, ⟨.inl ⟨rfl, rfl⟩, ⟨.inr ⟨rfl, rfl⟩, trivial⟩⟩⟩ (fun w HS => ?_)
  have HS : Sep.St [blk b0 (#[Value.int .i64 ((a0).m), Value.int .i64 ((a0).window), Value.int .i64 ((a0).queue), Value.int .i64 ((a0).first), Value.int .i64 ((a0).out), Value.slice a5_p0 ((a0).l).length c5_p0]) 54, row 27 1 (.slice a5_p0 ((a0).l).length c5_p0) ((a0).l).length d5_p0, tie (El.sl (El.int .u8)) d5_p0 ((a0).l), R] w0 w := HS
  refine At.next ?_
  refine V.keep [(0, Value.pointer (some ⟨b0, 0, none⟩)), (1, Value.int .i64 (a1)), (6, Value.int .i64 (t1))] ⟨rfl, rfl, rfl, trivial⟩ ?_
  refine V.seq ?_
  refine V.meet (σ := Bool) (fun st w => match st with | x6 => Sep.St [blk b0 (#[Value.int .i64 ((a0).m), Value.int .i64 ((a0).window), Value.int .i64 ((a0).queue), Value.int .i64 ((a0).first), Value.int .i64 ((a0).out), Value.slice a5_p0 ((a0).l).length c5_p0]) 54, row 27 1 (.slice a5_p0 ((a0).l).length c5_p0) ((a0).l).length d5_p0, tie (El.sl (El.int .u8)) d5_p0 ((a0).l), R] w0 w ∧ backlog_Log_Body.j0 a0 t1 x6 = some r) (fun st => match st with | x6 => [(0, Value.pointer (some ⟨b0, 0, none⟩)), (6, Value.int .i64 (t1)), (34, Value.bool (x6))]) ?_ ?_
  · refine V.region ?_
    refine W.rd (X.move rfl) rfl rfl rfl ?_
    refine W.rd (X.cmp (decide (a1 < 0)) rfl rfl rfl rfl) rfl rfl rfl ?_
    refine W.rd (X.move rfl) rfl rfl rfl ?_
    by_cases c20 : a1 < 0
    · replace H := ite_t c20 H
      refine W.pass 19 rfl (sb (decide_eq_true c20)) rfl rfl ?_
      refine W.pass 19 rfl (sb (decide_eq_true c20)) rfl rfl ?_
      refine W.pass 19 rfl (sb (decide_eq_true c20)) rfl rfl ?_
      refine W.pass 19 rfl (sb (decide_eq_true c20)) rfl rfl ?_
      refine W.pass 19 rfl (sb (decide_eq_true c20)) rfl rfl ?_
      refine W.pass 19 rfl (sb (decide_eq_true c20)) rfl rfl ?_
      refine W.rd (X.pickT (sb (decide_eq_true c20)) rfl) rfl rfl rfl ?_
      refine W.rd (X.move rfl) rfl rfl rfl ?_
      refine W.pass 27 rfl rfl rfl rfl ?_
      refine W.pass 27 rfl rfl rfl rfl ?_
      refine W.pass 27 rfl rfl rfl rfl ?_
      refine W.pass 27 rfl rfl rfl rfl ?_
      refine W.pass 27 rfl rfl rfl rfl ?_
      refine W.pass 27 rfl rfl rfl rfl ?_
      refine W.rd (X.pickT rfl rfl) rfl rfl rfl ?_
      refine W.nil ?_
      exact At.meet (true) ⟨rfl, rfl, rfl, trivial⟩ ⟨HS, H⟩
    · replace H := ite_f c20 H
      refine W.want 19 rfl (sb (decide_eq_false c20)) ?_
      refine W.rd (X.move rfl) rfl rfl rfl ?_
      refine W.want 19 rfl (sb (decide_eq_false c20)) ?_
      refine W.rd (X.move rfl) rfl rfl rfl ?_
      refine W.want 19 rfl (sb (decide_eq_false c20)) ?_
      refine W.rd (X.nilCheck rfl) rfl rfl rfl ?_
      refine W.want 19 rfl (sb (decide_eq_false c20)) ?_
      refine W.rd (X.fieldAddr 0 fo54_0 rfl) rfl rfl rfl ?_
      refine W.want 19 rfl (sb (decide_eq_false c20)) ?_
      refine W.rd (X.loadAt 0 HS rfl Try.underlying3 rfl rfl rfl) rfl rfl rfl ?_
      refine W.want 19 rfl (sb (decide_eq_false c20)) ?_
      refine W.rd (X.cmp (decide (a1 ≥ ((a0).m))) rfl rfl rfl rfl) rfl rfl rfl ?_
      refine W.rd (X.pickF (sb (decide_eq_false c20)) rfl) rfl rfl rfl ?_
      refine W.rd (X.move rfl) rfl rfl rfl ?_
      by_cases c21 : a1 ≥ ((a0).m)
      · replace H := ite_t c21 H
        refine W.pass 27 rfl (sb (decide_eq_true c21)) rfl rfl ?_
        refine W.pass 27 rfl (sb (decide_eq_true c21)) rfl rfl ?_
        refine W.pass 27 rfl (sb (decide_eq_true c21)) rfl rfl ?_
        refine W.pass 27 rfl (sb (decide_eq_true c21)) rfl rfl ?_
        refine W.pass 27 rfl (sb (decide_eq_true c21)) rfl rfl ?_
        refine W.pass 27 rfl (sb (decide_eq_true c21)) rfl rfl ?_
        refine W.rd (X.pickT (sb (decide_eq_true c21)) rfl) rfl rfl rfl ?_
        refine W.nil ?_
        exact At.meet (true) ⟨rfl, rfl, rfl, trivial⟩ ⟨HS, H⟩
      · replace H := ite_f c21 H
        refine W.want 27 rfl (sb (decide_eq_false c21)) ?_
        refine W.rd (X.move rfl) rfl rfl rfl ?_
        refine W.want 27 rfl (sb (decide_eq_false c21)) ?_
        refine W.rd (X.move rfl) rfl rfl rfl ?_
        refine W.want 27 rfl (sb (decide_eq_false c21)) ?_
        refine W.rd (X.nilCheck rfl) rfl rfl rfl ?_
        refine W.want 27 rfl (sb (decide_eq_false c21)) ?_
        refine W.rd (X.fieldAddr 4 fo54_4 rfl) rfl rfl rfl ?_
        refine W.want 27 rfl (sb (decide_eq_false c21)) ?_
        refine W.rd (X.loadAt 0 HS rfl Try.underlying3 rfl rfl rfl) rfl rfl rfl ?_
        refine W.want 27 rfl (sb (decide_eq_false c21)) ?_
        refine W.rd (X.cmp (decide (t1 ≥ ((a0).out))) rfl rfl rfl rfl) rfl rfl rfl ?_
        refine W.rd (X.pickF (sb (decide_eq_false c21)) rfl) rfl rfl rfl ?_
        refine W.nil ?_
        exact At.meet (decide (t1 ≥ ((a0).out))) ⟨rfl, rfl, rfl, trivial⟩ ⟨HS, H⟩
  · rintro x6 w ⟨HS, H⟩
    unfold backlog_Log_Body.j0 at H
    have HS : Sep.St [blk b0 (#[Value.int .i64 ((a0).m), Value.int .i64 ((a0).window), Value.int .i64 ((a0).queue), Value.int .i64 ((a0).first), Value.int .i64 ((a0).out), Value.slice a5_p0 ((a0).l).length c5_p0]) 54, row 27 1 (.slice a5_p0 ((a0).l).length c5_p0) ((a0).l).length d5_p0, tie (El.sl (El.int .u8)) d5_p0 ((a0).l), R] w0 w := HS
    by_cases c8 : x6 = true
    · replace H := ite_t c8 H
      refine V.condT (sb c8) ?_
      refine V.seq ?_
      refine V.region ?_
      refine W.rd (X.assign rfl) rfl rfl rfl ?_
      refine W.rd (X.assign rfl) rfl rfl rfl ?_
      refine W.nil ?_
      refine At.next ?_
      refine V.keep [(4, Value.slice none 0 0), (5, Value.bool (false))] ⟨rfl, rfl, trivial⟩ ?_
      refine V.ret ?_
      refine At.thenRet ?_
      replace HS := row_nil' (e := 5) 1 none HS
      have HS : Sep.St [row 5 1 (.slice none (([] : List Int)).length 0) (([] : List Int)).length ((([] : List Int)).map (Value.int .u8)), blk b0 (#[Value.int .i64 ((a0).m), Value.int .i64 ((a0).window), Value.int .i64 ((a0).queue), Value.int .i64 ((a0).first), Value.int .i64 ((a0).out), Value.slice a5_p0 ((a0).l).length c5_p0]) 54, row 27 1 (.slice a5_p0 ((a0).l).length c5_p0) ((a0).l).length d5_p0, tie (El.sl (El.int .u8)) d5_p0 ((a0).l), R] w0 w := HS
      cases H
      exact At.ret2 rfl rfl rfl ⟨_, rfl, none, 0, rfl, HS⟩
    · replace H := ite_f c8 H
      refine V.condF (sb (b_f c8)) ?_
      refine V.skip ?_
      refine At.next ?_
      refine V.keep [(0, Value.pointer (some ⟨b0, 0, none⟩)), (6, Value.int .i64 (t1))] ⟨rfl, rfl, trivial⟩ ?_
      refine V.seq ?_
      refine V.region ?_
      refine W.rd (X.move rfl) rfl rfl rfl ?_
      refine W.rd (X.nilCheck rfl) rfl rfl rfl ?_
      refine W.rd (X.fieldAddr 5 fo54_5 rfl) rfl rfl rfl ?_
      refine W.rd (X.loadAt 0 HS rfl Try.underlying52 rfl rfl rfl) rfl rfl rfl ?_
      refine W.rd (X.move rfl) rfl rfl rfl ?_
      obtain ⟨c9, H⟩ := ite_n H
      obtain ⟨eb10, eo11, hh⟩ := ((rdC.at 1 row_rd HS rfl)).some (by decide) c9.1 c9.2; subst hh
      refine W.rd (X.indexSl Try.underlying52 inf27 rfl rfl c9.1 c9.2) rfl rfl rfl ?_
      obtain ⟨ec12, hc13, HS⟩ := St.tie_at 2 HS rfl ([]) c9.1 c9.2
      obtain ⟨ea14, em15, he17, HN⟩ := St.sl_openF (Value.int .u8) (fun t => tie_int t) HS; clear HS; subst he17; have HS := HN
      have HS : Sep.St [fsl 1 (.slice ea14 (((a0).l).getD (t1).toNat []).length em15) (((a0).l).getD (t1).toNat []).length ((((a0).l).getD (t1).toNat []).map (Value.int .u8)), blk b0 (#[Value.int .i64 ((a0).m), Value.int .i64 ((a0).window), Value.int .i64 ((a0).queue), Value.int .i64 ((a0).first), Value.int .i64 ((a0).out), Value.slice (some ⟨eb10, eo11, none⟩) ((a0).l).length c5_p0]) 54, row 27 1 (.slice (some ⟨eb10, eo11, none⟩) ((a0).l).length c5_p0) ((a0).l).length d5_p0, tie (El.sl (El.int .u8)) d5_p0 ((a0).l), R] w0 w := HS
      refine W.rd (X.load Try.underlying27 rfl rfl (((rdC.at 2 row_rd HS rfl)).cellEl0 (hc13 0 _ rfl))) rfl rfl rfl ?_
      obtain ⟨t18, A19, H⟩ := bind_s H
      refine W.ev (Y.call Try.func28 (by kernel_rfl) rfl (vs := [Value.slice ea14 (((a0).l).getD (t1).toNat []).length em15]) rfl (slices_Clone_Sbytebyte.calls (((a0).l).getD (t1).toNat []) _ w0 _ ea14 em15 t18 (rdC.part 0 fsl.rd rfl) A19 (Sep.St.tailJoin (m := []) (r := [fsl 1 (.slice ea14 (((a0).l).getD (t1).toNat []).length em15) (((a0).l).getD (t1).toNat []).length ((((a0).l).getD (t1).toNat []).map (Value.int .u8)), blk b0 (#[Value.int .i64 ((a0).m), Value.int .i64 ((a0).window), Value.int .i64 ((a0).queue), Value.int .i64 ((a0).first), Value.int .i64 ((a0).out), Value.slice (some ⟨eb10, eo11, none⟩) ((a0).l).length c5_p0]) 54, row 27 1 (.slice (some ⟨eb10, eo11, none⟩) ((a0).l).length c5_p0) ((a0).l).length d5_p0, tie (El.sl (El.int .u8)) d5_p0 ((a0).l), R]) HS))) rfl rfl rfl ?_
      rintro _ w ⟨at18_0, ct18_0, rfl, HS⟩
      replace HS := Sep.St.tailOpen (m := [row 5 1 (.slice at18_0 (t18).length ct18_0) (t18).length ((t18).map (Value.int .u8))]) (r := [fsl 1 (.slice ea14 (((a0).l).getD (t1).toNat []).length em15) (((a0).l).getD (t1).toNat []).length ((((a0).l).getD (t1).toNat []).map (Value.int .u8)), blk b0 (#[Value.int .i64 ((a0).m), Value.int .i64 ((a0).window), Value.int .i64 ((a0).queue), Value.int .i64 ((a0).first), Value.int .i64 ((a0).out), Value.slice (some ⟨eb10, eo11, none⟩) ((a0).l).length c5_p0]) 54, row 27 1 (.slice (some ⟨eb10, eo11, none⟩) ((a0).l).length c5_p0) ((a0).l).length d5_p0, tie (El.sl (El.int .u8)) d5_p0 ((a0).l), R]) HS
      have HS : Sep.St [row 5 1 (.slice at18_0 (t18).length ct18_0) (t18).length ((t18).map (Value.int .u8)), fsl 1 (.slice ea14 (((a0).l).getD (t1).toNat []).length em15) (((a0).l).getD (t1).toNat []).length ((((a0).l).getD (t1).toNat []).map (Value.int .u8)), blk b0 (#[Value.int .i64 ((a0).m), Value.int .i64 ((a0).window), Value.int .i64 ((a0).queue), Value.int .i64 ((a0).first), Value.int .i64 ((a0).out), Value.slice (some ⟨eb10, eo11, none⟩) ((a0).l).length c5_p0]) 54, row 27 1 (.slice (some ⟨eb10, eo11, none⟩) ((a0).l).length c5_p0) ((a0).l).length d5_p0, tie (El.sl (El.int .u8)) d5_p0 ((a0).l), R] w0 w := HS
      refine W.rd (X.assign rfl) rfl rfl rfl ?_
      refine W.rd (X.assign rfl) rfl rfl rfl ?_
      refine W.nil ?_
      refine At.next ?_
      refine V.keep [(4, Value.slice at18_0 (t18).length ct18_0), (5, Value.bool (true))] ⟨rfl, rfl, trivial⟩ ?_
      refine V.ret ?_
      replace HS := HS.sel [0, 2, 3, 4, 5] [1] (by kernel_rfl)
      cases H
      exact At.ret2 rfl rfl rfl ⟨_, rfl, at18_0, ct18_0, rfl, HS⟩

/-! ### (*signalman/signalmanref6.Log).Body: function 22 -/
mutual
def signalmanref6_Log_Body.l0 : Nat → signalmanref6_Log → Int → Int → Option (List Int × Bool)
  | 0, _, _, _ => none
  | k + 1, a0, a1, x6 => (if x6 < (((a0).out).length : Int) then (if 0 ≤ x6 ∧ x6 < (((a0).out).length : Int) then (if ((((a0).out).getD (x6).toNat default).n) = a1 then (if ((([] : List Int)).length : Int) + ((((a0).out).getD (x6).toNat default).b).length ≤ 1099511627776 then some (([] : List Int) ++ ((((a0).out).getD (x6).toNat default).b), true) else none) else (signalmanref6_Log_Body.l0 k a0 a1 (w64 (x6 + 1)))) else none) else some (([] : List Int), false))
end
def signalmanref6_Log_Body.f (k : Nat) (a0 : signalmanref6_Log) (a1 : Int) : Option (List Int × Bool) := (signalmanref6_Log_Body.l0 k a0 a1 0)
set_option maxRecDepth 100000 in
set_option maxHeartbeats 4000000 in
theorem signalmanref6_Log_Body.calls (k : Nat) (a0 : signalmanref6_Log) (a1 : Int) (R : As) (w0 w : World) (b0 : Nat) (a4_p0 : Option Addr) (c4_p0 : Nat) (d4_p0 : List Value) (a5_p0 : Option Addr) (c5_p0 : Nat) (d5_p0 : List Value) (r : List Int × Bool)  (H : signalmanref6_Log_Body.f k a0 a1 = some r) (HS : Sep.St [blk b0 (#[Value.int .i64 ((a0).m), Value.int .i64 ((a0).window), Value.int .i64 ((a0).queue), Value.int .i64 ((a0).next), Value.slice a4_p0 ((a0).out).length c4_p0, Value.slice a5_p0 ((a0).wait).length c5_p0]) 61, row 63 2 (.slice a4_p0 ((a0).out).length c4_p0) ((a0).out).length d4_p0, tie signalmanref6_message.El d4_p0 ((a0).out), row 27 1 (.slice a5_p0 ((a0).wait).length c5_p0) ((a0).wait).length d5_p0, tie (El.sl (El.int .u8)) d5_p0 ((a0).wait), R] w0 w) : Calls Try.prog 22 #[Value.pointer (some ⟨b0, 0, none⟩), Value.int .i64 (a1)] w (Ret fun u w => ∃ (aq0 : Option Addr) (cq0 : Nat), u = Value.tuple #[Value.slice aq0 (r.1).length cq0, Value.bool (r.2)] ∧ Sep.St [row 5 1 (.slice aq0 (r.1).length cq0) (r.1).length ((r.1).map (Value.int .u8)), blk b0 (#[Value.int .i64 ((a0).m), Value.int .i64 ((a0).window), Value.int .i64 ((a0).queue), Value.int .i64 ((a0).next), Value.slice a4_p0 ((a0).out).length c4_p0, Value.slice a5_p0 ((a0).wait).length c5_p0]) 61, row 63 2 (.slice a4_p0 ((a0).out).length c4_p0) ((a0).out).length d4_p0, tie signalmanref6_message.El d4_p0 ((a0).out), row 27 1 (.slice a5_p0 ((a0).wait).length c5_p0) ((a0).wait).length d5_p0, tie (El.sl (El.int .u8)) d5_p0 ((a0).wait), R] w0 w) := by
  unfold signalmanref6_Log_Body.f at H
  refine calls_enter Try.func22 rfl rfl ?_
  have H : _ = some r := H
  refine V.seq ?_
  refine V.region ?_
  refine W.rd (X.assign rfl) rfl rfl rfl ?_
  refine W.rd (X.assign rfl) rfl rfl rfl ?_
  refine W.nil ?_
  refine At.next ?_
  refine V.keep [(0, Value.pointer (some ⟨b0, 0, none⟩)), (1, Value.int .i64 (a1))] ⟨rfl, rfl, trivial⟩ ?_
  refine V.seq ?_
  refine V.seq ?_
  refine V.region ?_
  refine W.rd (X.assign rfl) rfl rfl rfl ?_
  refine W.nil ?_
  refine At.next ?_
  refine V.keep [(0, Value.pointer (some ⟨b0, 0, none⟩)), (1, Value.int .i64 (a1)), (6, Value.int .i64 (0))] ⟨rfl, rfl, rfl, trivial⟩ ?_
  refine V.block ?_
  refine V.loop (σ := Int) (fun kq (st : Int) w => match st with | x6 => Sep.St [blk b0 (#[Value.int .i64 ((a0).m), Value.int .i64 ((a0).window), Value.int .i64 ((a0).queue), Value.int .i64 ((a0).next), Value.slice a4_p0 ((a0).out).length c4_p0, Value.slice a5_p0 ((a0).wait).length c5_p0]) 61, row 63 2 (.slice a4_p0 ((a0).out).length c4_p0) ((a0).out).length d4_p0, tie signalmanref6_message.El d4_p0 ((a0).out), row 27 1 (.slice a5_p0 ((a0).wait).length c5_p0) ((a0).wait).length d5_p0, tie (El.sl (El.int .u8)) d5_p0 ((a0).wait), R] w0 w ∧ signalmanref6_Log_Body.l0 kq a0 a1 x6 = some r ∧ kq ≤ k) (fun st => match st with | x6 => [(0, Value.pointer (some ⟨b0, 0, none⟩)), (1, Value.int .i64 (a1)), (6, Value.int .i64 (x6))]) k (0) ⟨rfl, rfl, rfl, trivial⟩ ⟨HS, H, Nat.le_refl _⟩ ?_
  rintro kq7 x6 w ⟨HS, H, hk8⟩
  cases kq7 with
  | zero => exact absurd H (by simp [signalmanref6_Log_Body.l0])
  | succ kq7 =>
    simp only [signalmanref6_Log_Body.l0] at H
    have HS : Sep.St [blk b0 (#[Value.int .i64 ((a0).m), Value.int .i64 ((a0).window), Value.int .i64 ((a0).queue), Value.int .i64 ((a0).next), Value.slice a4_p0 ((a0).out).length c4_p0, Value.slice a5_p0 ((a0).wait).length c5_p0]) 61, row 63 2 (.slice a4_p0 ((a0).out).length c4_p0) ((a0).out).length d4_p0, tie signalmanref6_message.El d4_p0 ((a0).out), row 27 1 (.slice a5_p0 ((a0).wait).length c5_p0) ((a0).wait).length d5_p0, tie (El.sl (El.int .u8)) d5_p0 ((a0).wait), R] w0 w := HS
    refine V.seq ?_
    refine V.seq ?_
    refine V.region ?_
    refine W.rd (X.move rfl) rfl rfl rfl ?_
    refine W.rd (X.move rfl) rfl rfl rfl ?_
    refine W.rd (X.nilCheck rfl) rfl rfl rfl ?_
    refine W.rd (X.fieldAddr 4 fo61_4 rfl) rfl rfl rfl ?_
    refine W.rd (X.loadAt 0 HS rfl Try.underlying59 rfl rfl rfl) rfl rfl rfl ?_
    refine W.rd (X.lenSl Try.underlying59 rfl) rfl rfl rfl ?_
    refine W.rd (X.cmp (decide (x6 < (((a0).out).length : Int))) rfl rfl rfl rfl) rfl rfl rfl ?_
    refine W.nil ?_
    refine At.next ?_
    refine V.keep [(0, Value.pointer (some ⟨b0, 0, none⟩)), (1, Value.int .i64 (a1)), (6, Value.int .i64 (x6)), (13, Value.bool (decide (x6 < (((a0).out).length : Int))))] ⟨rfl, rfl, rfl, rfl, trivial⟩ ?_
    by_cases c9 : x6 < (((a0).out).length : Int)
    · replace H := ite_t c9 H
      refine V.condT (sb (decide_eq_true c9)) ?_
      refine V.skip ?_
      refine At.next ?_
      refine V.keep [(0, Value.pointer (some ⟨b0, 0, none⟩)), (1, Value.int .i64 (a1)), (6, Value.int .i64 (x6))] ⟨rfl, rfl, rfl, trivial⟩ ?_
      refine V.seq ?_
      refine V.block ?_
      refine V.seq ?_
      refine V.region ?_
      refine W.rd (X.move rfl) rfl rfl rfl ?_
      refine W.rd (X.nilCheck rfl) rfl rfl rfl ?_
      refine W.rd (X.fieldAddr 4 fo61_4 rfl) rfl rfl rfl ?_
      refine W.rd (X.loadAt 0 HS rfl Try.underlying59 rfl rfl rfl) rfl rfl rfl ?_
      refine W.rd (X.move rfl) rfl rfl rfl ?_
      obtain ⟨c10, H⟩ := ite_n H
      obtain ⟨eb11, eo12, hh⟩ := ((rdC.at 1 row_rd HS rfl)).some (by decide) c10.1 c10.2; subst hh
      refine W.rd (X.indexSl Try.underlying59 inf63 rfl rfl c10.1 c10.2) rfl rfl rfl ?_
      refine W.rd (X.fieldAddr 0 fo63_0 rfl) rfl rfl rfl ?_
      obtain ⟨ec13, hc14, HS⟩ := St.tie_at 2 HS rfl (default) c10.1 c10.2
      obtain ⟨ea15, em16, he17, HN⟩ := signalmanref6_message.unpack HS; clear HS; subst he17; have HS := HN
      have HS : Sep.St [fsl 1 (.slice ea15 ((((a0).out).getD (x6).toNat default).b).length em16) ((((a0).out).getD (x6).toNat default).b).length (((((a0).out).getD (x6).toNat default).b).map (Value.int .u8)), blk b0 (#[Value.int .i64 ((a0).m), Value.int .i64 ((a0).window), Value.int .i64 ((a0).queue), Value.int .i64 ((a0).next), Value.slice (some ⟨eb11, eo12, none⟩) ((a0).out).length c4_p0, Value.slice a5_p0 ((a0).wait).length c5_p0]) 61, row 63 2 (.slice (some ⟨eb11, eo12, none⟩) ((a0).out).length c4_p0) ((a0).out).length d4_p0, tie signalmanref6_message.El d4_p0 ((a0).out), row 27 1 (.slice a5_p0 ((a0).wait).length c5_p0) ((a0).wait).length d5_p0, tie (El.sl (El.int .u8)) d5_p0 ((a0).wait), R] w0 w := HS
      refine W.rd (X.load Try.underlying3 rfl rfl (((rdC.at 2 row_rd HS rfl)).cellEl (hc14 0 _ rfl))) rfl rfl rfl ?_
      refine W.rd (X.move rfl) rfl rfl rfl ?_
      refine W.rd (X.cmp (decide (((((a0).out).getD (x6).toNat default).n) = a1)) rfl rfl rfl rfl) rfl rfl rfl ?_
      refine W.nil ?_
      refine At.next ?_
      refine V.keep [(0, Value.pointer (some ⟨b0, 0, none⟩)), (1, Value.int .i64 (a1)), (6, Value.int .i64 (x6)), (25, Value.bool (decide (((((a0).out).getD (x6).toNat default).n) = a1)))] ⟨rfl, rfl, rfl, rfl, trivial⟩ ?_
      by_cases c18 : ((((a0).out).getD (x6).toNat default).n) = a1
      · replace H := ite_t c18 H
        refine V.condT (sb (decide_eq_true c18)) ?_
        refine V.seq ?_
        refine V.region ?_
        refine W.rd (X.move rfl) rfl rfl rfl ?_
        refine W.rd (X.nilCheck rfl) rfl rfl rfl ?_
        refine W.rd (X.fieldAddr 4 fo61_4 rfl) rfl rfl rfl ?_
        refine W.rd (X.loadAt 1 HS rfl Try.underlying59 rfl rfl rfl) rfl rfl rfl ?_
        refine W.rd (X.move rfl) rfl rfl rfl ?_
        refine W.rd (X.indexSl Try.underlying59 inf63 rfl rfl c10.1 c10.2) rfl rfl rfl ?_
        refine W.rd (X.fieldAddr 1 fo63_1 rfl) rfl rfl rfl ?_
        refine W.rd (X.load Try.underlying27 rfl rfl (((rdC.at 2 row_rd HS rfl)).cellEl (hc14 1 _ rfl))) rfl rfl rfl ?_
        obtain ⟨c19, H⟩ := ite_n H
        replace HS := row_nil' (e := 5) 1 none HS
        have HS : Sep.St [row 5 1 (.slice none (([] : List Int)).length 0) (([] : List Int)).length ((([] : List Int)).map (Value.int .u8)), fsl 1 (.slice ea15 ((((a0).out).getD (x6).toNat default).b).length em16) ((((a0).out).getD (x6).toNat default).b).length (((((a0).out).getD (x6).toNat default).b).map (Value.int .u8)), blk b0 (#[Value.int .i64 ((a0).m), Value.int .i64 ((a0).window), Value.int .i64 ((a0).queue), Value.int .i64 ((a0).next), Value.slice (some ⟨eb11, eo12, none⟩) ((a0).out).length c4_p0, Value.slice a5_p0 ((a0).wait).length c5_p0]) 61, row 63 2 (.slice (some ⟨eb11, eo12, none⟩) ((a0).out).length c4_p0) ((a0).out).length d4_p0, tie signalmanref6_message.El d4_p0 ((a0).out), row 27 1 (.slice a5_p0 ((a0).wait).length c5_p0) ((a0).wait).length d5_p0, tie (El.sl (El.int .u8)) d5_p0 ((a0).wait), R] w0 w := HS
        refine W.ev (Y.appF (Value.int .u8) (fun _ => rfl) 0 Try.underlying27 ap5 rfl HS rfl rfl rfl (rdC.at 1 fsl.rd HS rfl) (by omega) (by omega)) rfl rfl rfl ?_
        rintro _ w ⟨ra20, rc21, rfl, HS⟩
        have HS : Sep.St [row 5 1 (.slice ra20 (([] : List Int) ++ ((((a0).out).getD (x6).toNat default).b)).length rc21) (([] : List Int) ++ ((((a0).out).getD (x6).toNat default).b)).length ((([] : List Int) ++ ((((a0).out).getD (x6).toNat default).b)).map (Value.int .u8)), fsl 1 (.slice ea15 ((((a0).out).getD (x6).toNat default).b).length em16) ((((a0).out).getD (x6).toNat default).b).length (((((a0).out).getD (x6).toNat default).b).map (Value.int .u8)), blk b0 (#[Value.int .i64 ((a0).m), Value.int .i64 ((a0).window), Value.int .i64 ((a0).queue), Value.int .i64 ((a0).next), Value.slice (some ⟨eb11, eo12, none⟩) ((a0).out).length c4_p0, Value.slice a5_p0 ((a0).wait).length c5_p0]) 61, row 63 2 (.slice (some ⟨eb11, eo12, none⟩) ((a0).out).length c4_p0) ((a0).out).length d4_p0, tie signalmanref6_message.El d4_p0 ((a0).out), row 27 1 (.slice a5_p0 ((a0).wait).length c5_p0) ((a0).wait).length d5_p0, tie (El.sl (El.int .u8)) d5_p0 ((a0).wait), R] w0 w := HS
        refine W.rd (X.assign rfl) rfl rfl rfl ?_
        refine W.rd (X.assign rfl) rfl rfl rfl ?_
        refine W.nil ?_
        refine At.next ?_
        refine V.keep [(4, Value.slice ra20 (([] : List Int) ++ ((((a0).out).getD (x6).toNat default).b)).length rc21), (5, Value.bool (true))] ⟨rfl, rfl, trivial⟩ ?_
        refine V.ret ?_
        refine At.blockRet ?_
        refine At.thenRet ?_
        refine At.thenRet ?_
        refine At.blockRet ?_
        refine At.thenRet ?_
        replace HS := HS.sel [0, 2, 3, 4, 5, 6, 7] [1] (by kernel_rfl)
        cases H
        exact At.ret2 rfl rfl rfl ⟨_, rfl, ra20, rc21, rfl, HS⟩
      · replace H := ite_f c18 H
        refine V.condF (sb (decide_eq_false c18)) ?_
        refine V.skip ?_
        refine At.blockEnd ?_
        refine At.next ?_
        refine V.keep [(0, Value.pointer (some ⟨b0, 0, none⟩)), (1, Value.int .i64 (a1)), (6, Value.int .i64 (x6))] ⟨rfl, rfl, rfl, trivial⟩ ?_
        refine V.region ?_
        refine W.rd (X.move rfl) rfl rfl rfl ?_
        refine W.rd (X.add rfl rfl) rfl rfl rfl ?_
        refine W.rd (X.assign rfl) rfl rfl rfl ?_
        refine W.nil ?_
        replace HS := HS.sel [1, 2, 3, 4, 5, 6] [0] (by kernel_rfl)
        exact At.round kq7 (by omega) (w64 (x6 + 1)) ⟨rfl, rfl, rfl, trivial⟩ ⟨HS, H, by omega⟩
    · replace H := ite_f c9 H
      refine V.condF (sb (decide_eq_false c9)) ?_
      refine V.exit ?_
      refine At.thenExit ?_
      refine At.thenExit ?_
      refine At.blockExit ?_
      refine At.next ?_
      refine V.keep [] trivial ?_
      refine V.seq ?_
      refine V.region ?_
      refine W.rd (X.assign rfl) rfl rfl rfl ?_
      refine W.rd (X.assign rfl) rfl rfl rfl ?_
      refine W.nil ?_
      refine At.next ?_
      refine V.keep [(4, Value.slice none 0 0), (5, Value.bool (false))] ⟨rfl, rfl, trivial⟩ ?_
      refine V.ret ?_
      replace HS := row_nil' (e := 5) 1 none HS
      have HS : Sep.St [row 5 1 (.slice none (([] : List Int)).length 0) (([] : List Int)).length ((([] : List Int)).map (Value.int .u8)), blk b0 (#[Value.int .i64 ((a0).m), Value.int .i64 ((a0).window), Value.int .i64 ((a0).queue), Value.int .i64 ((a0).next), Value.slice a4_p0 ((a0).out).length c4_p0, Value.slice a5_p0 ((a0).wait).length c5_p0]) 61, row 63 2 (.slice a4_p0 ((a0).out).length c4_p0) ((a0).out).length d4_p0, tie signalmanref6_message.El d4_p0 ((a0).out), row 27 1 (.slice a5_p0 ((a0).wait).length c5_p0) ((a0).wait).length d5_p0, tie (El.sl (El.int .u8)) d5_p0 ((a0).wait), R] w0 w := HS
      cases H
      exact At.ret2 rfl rfl rfl ⟨_, rfl, none, 0, rfl, HS⟩

/-! ### (*signalman/backlog.Log).Clear: function 11 -/
def backlog_Log_Clear.f (a0 : backlog_Log) : Option (Int × backlog_Log) := some ((((a0).l).length : Int), ({ m := (a0).m, window := (a0).window, queue := (a0).queue, first := 0, out := 0, l := ([] : List (List Int)) } : backlog_Log))
set_option maxRecDepth 100000 in
set_option maxHeartbeats 4000000 in
theorem backlog_Log_Clear.calls (a0 : backlog_Log) (R : As) (w0 w : World) (b0 : Nat) (r : Int × backlog_Log)  (H : backlog_Log_Clear.f a0 = some r) (HS : Sep.St [backlog_Log.at b0 (a0), R] w0 w) : Calls Try.prog 11 #[Value.pointer (some ⟨b0, 0, none⟩)] w (Ret fun u w => u = Value.int .i64 (r.1) ∧ Sep.St [backlog_Log.at b0 (r.2), R] w0 w) := by
  unfold backlog_Log_Clear.f at H
  refine calls_enter Try.func11 rfl rfl ?_
  have H : _ = some r := H
  refine V.seq ?_
  refine V.region ?_
  refine W.rd (X.assign rfl) rfl rfl rfl ?_
  refine W.nil ?_
  refine At.next ?_
  refine V.keep [(0, Value.pointer (some ⟨b0, 0, none⟩))] ⟨rfl, trivial⟩ ?_
  refine V.seq ?_
  refine V.region ?_
  refine W.rd (X.move rfl) rfl rfl rfl ?_
  refine W.rd (X.nilCheck rfl) rfl rfl rfl ?_
  obtain ⟨a5_1, c5_1, d5_1, hi2, HS⟩ := backlog_Log.open HS
  have HS : Sep.St [blk b0 (#[Value.int .i64 ((a0).m), Value.int .i64 ((a0).window), Value.int .i64 ((a0).queue), Value.int .i64 ((a0).first), Value.int .i64 ((a0).out), Value.slice a5_1 ((a0).l).length c5_1]) 54, row 27 1 (.slice a5_1 ((a0).l).length c5_1) ((a0).l).length d5_1, tie (El.sl (El.int .u8)) d5_1 ((a0).l), R] w0 w := HS
  refine W.rd (X.fieldAddr 5 fo54_5 rfl) rfl rfl rfl ?_
  refine W.rd (X.loadAt 0 HS rfl Try.underlying52 rfl rfl rfl) rfl rfl rfl ?_
  refine W.rd (X.lenSl Try.underlying52 rfl) rfl rfl rfl ?_
  refine W.rd (X.assign rfl) rfl rfl rfl ?_
  refine W.nil ?_
  refine At.next ?_
  refine V.keep [(0, Value.pointer (some ⟨b0, 0, none⟩)), (3, Value.int .i64 ((((a0).l).length : Int)))] ⟨rfl, rfl, trivial⟩ ?_
  refine V.seq ?_
  refine V.region ?_
  refine W.rd (X.move rfl) rfl rfl rfl ?_
  refine W.rd (X.move rfl) rfl rfl rfl ?_
  refine W.rd (X.move rfl) rfl rfl rfl ?_
  refine W.rd (X.nilCheck rfl) rfl rfl rfl ?_
  refine W.rd (X.fieldAddr 5 fo54_5 rfl) rfl rfl rfl ?_
  refine W.ev_none (Y.storeAt 0 HS rfl inf52 rfl rfl rfl rfl rfl rfl) rfl rfl ?_
  rintro _ w HS
  have HS : Sep.St [blk b0 (#[Value.int .i64 ((a0).m), Value.int .i64 ((a0).window), Value.int .i64 ((a0).queue), Value.int .i64 ((a0).first), Value.int .i64 ((a0).out), Value.slice none 0 0]) 54, row 27 1 (.slice a5_1 ((a0).l).length c5_1) ((a0).l).length d5_1, tie (El.sl (El.int .u8)) d5_1 ((a0).l), R] w0 w := HS
  refine W.rd (X.nilCheck rfl) rfl rfl rfl ?_
  refine W.rd (X.fieldAddr 4 fo54_4 rfl) rfl rfl rfl ?_
  refine W.ev_none (Y.storeAt 0 HS rfl inf3 rfl rfl rfl rfl rfl rfl) rfl rfl ?_
  rintro _ w HS
  have HS : Sep.St [blk b0 (#[Value.int .i64 ((a0).m), Value.int .i64 ((a0).window), Value.int .i64 ((a0).queue), Value.int .i64 ((a0).first), Value.int .i64 (0), Value.slice none 0 0]) 54, row 27 1 (.slice a5_1 ((a0).l).length c5_1) ((a0).l).length d5_1, tie (El.sl (El.int .u8)) d5_1 ((a0).l), R] w0 w := HS
  refine W.rd (X.nilCheck rfl) rfl rfl rfl ?_
  refine W.rd (X.fieldAddr 3 fo54_3 rfl) rfl rfl rfl ?_
  refine W.ev_none (Y.storeAt 0 HS rfl inf3 rfl rfl rfl rfl rfl rfl) rfl rfl ?_
  rintro _ w HS
  have HS : Sep.St [blk b0 (#[Value.int .i64 ((a0).m), Value.int .i64 ((a0).window), Value.int .i64 ((a0).queue), Value.int .i64 (0), Value.int .i64 (0), Value.slice none 0 0]) 54, row 27 1 (.slice a5_1 ((a0).l).length c5_1) ((a0).l).length d5_1, tie (El.sl (El.int .u8)) d5_1 ((a0).l), R] w0 w := HS
  refine W.nil ?_
  refine At.next ?_
  refine V.keep [(3, Value.int .i64 ((((a0).l).length : Int)))] ⟨rfl, trivial⟩ ?_
  refine V.seq ?_
  refine V.region ?_
  refine W.rd (X.move rfl) rfl rfl rfl ?_
  refine W.rd (X.assign rfl) rfl rfl rfl ?_
  refine W.nil ?_
  refine At.next ?_
  refine V.keep [(2, Value.int .i64 ((((a0).l).length : Int)))] ⟨rfl, trivial⟩ ?_
  refine V.ret ?_
  replace HS := row_nil' (e := 27) 1 none (St.put (A := tie (El.sl (El.int .u8)) ([]) (([] : List (List Int)))) (fun _ => tie.nil) HS)
  have HS : Sep.St [row 27 1 (.slice none (([] : List (List Int))).length 0) (([] : List (List Int))).length ([]), tie (El.sl (El.int .u8)) ([]) (([] : List (List Int))), blk b0 (#[Value.int .i64 ((a0).m), Value.int .i64 ((a0).window), Value.int .i64 ((a0).queue), Value.int .i64 (0), Value.int .i64 (0), Value.slice none 0 0]) 54, row 27 1 (.slice a5_1 ((a0).l).length c5_1) ((a0).l).length d5_1, tie (El.sl (El.int .u8)) d5_1 ((a0).l), R] w0 w := HS
  replace HS := HS.re [2, 0, 1, 3, 4, 5] (by kernel_rfl)
  have HS : Sep.St [blk b0 (#[Value.int .i64 ((a0).m), Value.int .i64 ((a0).window), Value.int .i64 ((a0).queue), Value.int .i64 (0), Value.int .i64 (0), Value.slice none (([] : List (List Int))).length 0]) 54, row 27 1 (.slice none (([] : List (List Int))).length 0) (([] : List (List Int))).length ([]), tie (El.sl (El.int .u8)) ([]) (([] : List (List Int))), row 27 1 (.slice a5_1 ((a0).l).length c5_1) ((a0).l).length d5_1, tie (El.sl (El.int .u8)) d5_1 ((a0).l), R] w0 w := HS
  replace HS := backlog_Log.close (({ m := (a0).m, window := (a0).window, queue := (a0).queue, first := 0, out := 0, l := ([] : List (List Int)) } : backlog_Log)) trivial HS
  have HS : Sep.St [backlog_Log.at b0 (({ m := (a0).m, window := (a0).window, queue := (a0).queue, first := 0, out := 0, l := ([] : List (List Int)) } : backlog_Log)), row 27 1 (.slice a5_1 ((a0).l).length c5_1) ((a0).l).length d5_1, tie (El.sl (El.int .u8)) d5_1 ((a0).l), R] w0 w := HS
  replace HS := HS.sel [0, 3] [1, 2] (by kernel_rfl)
  cases H
  exact At.ret1 rfl rfl ⟨_, rfl, rfl, HS⟩

/-! ### (*signalman/signalmanref6.Log).Len: function 26 -/
def signalmanref6_Log_Len.f (a0 : signalmanref6_Log) : Option (Int) := some (w64 ((((a0).out).length : Int) + (((a0).wait).length : Int)))
set_option maxRecDepth 100000 in
set_option maxHeartbeats 4000000 in
theorem signalmanref6_Log_Len.calls (a0 : signalmanref6_Log) (R : As) (w0 w : World) (b0 : Nat) (a4_p0 : Option Addr) (c4_p0 : Nat) (d4_p0 : List Value) (a5_p0 : Option Addr) (c5_p0 : Nat) (d5_p0 : List Value) (r : Int)  (H : signalmanref6_Log_Len.f a0 = some r) (HS : Sep.St [blk b0 (#[Value.int .i64 ((a0).m), Value.int .i64 ((a0).window), Value.int .i64 ((a0).queue), Value.int .i64 ((a0).next), Value.slice a4_p0 ((a0).out).length c4_p0, Value.slice a5_p0 ((a0).wait).length c5_p0]) 61, row 63 2 (.slice a4_p0 ((a0).out).length c4_p0) ((a0).out).length d4_p0, tie signalmanref6_message.El d4_p0 ((a0).out), row 27 1 (.slice a5_p0 ((a0).wait).length c5_p0) ((a0).wait).length d5_p0, tie (El.sl (El.int .u8)) d5_p0 ((a0).wait), R] w0 w) : Calls Try.prog 26 #[Value.pointer (some ⟨b0, 0, none⟩)] w (Ret fun u w => u = Value.int .i64 (r) ∧ Sep.St [blk b0 (#[Value.int .i64 ((a0).m), Value.int .i64 ((a0).window), Value.int .i64 ((a0).queue), Value.int .i64 ((a0).next), Value.slice a4_p0 ((a0).out).length c4_p0, Value.slice a5_p0 ((a0).wait).length c5_p0]) 61, row 63 2 (.slice a4_p0 ((a0).out).length c4_p0) ((a0).out).length d4_p0, tie signalmanref6_message.El d4_p0 ((a0).out), row 27 1 (.slice a5_p0 ((a0).wait).length c5_p0) ((a0).wait).length d5_p0, tie (El.sl (El.int .u8)) d5_p0 ((a0).wait), R] w0 w) := by
  unfold signalmanref6_Log_Len.f at H
  refine calls_enter Try.func26 rfl rfl ?_
  have H : _ = some r := H
  refine V.seq ?_
  refine V.region ?_
  refine W.rd (X.assign rfl) rfl rfl rfl ?_
  refine W.nil ?_
  refine At.next ?_
  refine V.keep [(0, Value.pointer (some ⟨b0, 0, none⟩))] ⟨rfl, trivial⟩ ?_
  refine V.seq ?_
  refine V.draw (es := []) (bl := []) (f := [(3, Value.pointer (some ⟨b0, 0, none⟩)), (4, Value.pointer (some ⟨b0, 0, none⟩)), (5, Value.pointer (some ⟨b0, 0 + 4, none⟩)), (6, Value.slice a4_p0 ((a0).out).length c4_p0), (7, Value.int .i64 ((((a0).out).length : Int))), (8, Value.pointer (some ⟨b0, 0, none⟩)), (9, Value.pointer (some ⟨b0, 0, none⟩)), (10, Value.pointer (some ⟨b0, 0 + 5, none⟩)), (11, Value.slice a5_p0 ((a0).wait).length c5_p0), (12, Value.int .i64 ((((a0).wait).length : Int))), (13, Value.int .i64 (w64 ((((a0).out).length : Int) + (((a0).wait).length : Int)))), (2, Value.int .i64 (w64 ((((a0).out).length : Int) + (((a0).wait).length : Int))))]) (fun w => Sep.St [blk b0 (#[Value.int .i64 ((a0).m), Value.int .i64 ((a0).window), Value.int .i64 ((a0).queue), Value.int .i64 ((a0).next), Value.slice a4_p0 ((a0).out).length c4_p0, Value.slice a5_p0 ((a0).wait).length c5_p0]) 61, row 63 2 (.slice a4_p0 ((a0).out).length c4_p0) ((a0).out).length d4_p0, tie signalmanref6_message.El d4_p0 ((a0).out), row 27 1 (.slice a5_p0 ((a0).wait).length c5_p0) ((a0).wait).length d5_p0, tie (El.sl (El.int .u8)) d5_p0 ((a0).wait), R] w0 w) mo HS.drew rfl ?_
  refine T.fin [(2, Value.int .i64 (w64 ((((a0).out).length : Int) + (((a0).wait).length : Int))))] rfl ⟨⟨_, Value.pointer (some ⟨b0, 0, none⟩), [(0, Value.pointer (some ⟨b0, 0, none⟩))], 3, rfl, rfl, ⟨.inl ⟨rfl, rfl⟩, trivial⟩, .run rfl (fun w HS => X.move rfl), rfl, rfl, rfl⟩, ⟨_, Value.pointer (some ⟨b0, 0, none⟩), [(3, Value.pointer (some ⟨b0, 0, none⟩))], 4, rfl, rfl, ⟨.inr ⟨rfl, rfl⟩, trivial⟩, .run rfl (fun w HS => X.nilCheck rfl), rfl, rfl, rfl⟩, ⟨_, Value.pointer (some ⟨b0, 0 + 4, none⟩), [(4, Value.pointer (some ⟨b0, 0, none⟩))], 5, rfl, rfl, ⟨.inr ⟨rfl, rfl⟩, trivial⟩, .run rfl (fun w HS => X.fieldAddr 4 fo61_4 rfl), rfl, rfl, rfl⟩, ⟨_, Value.slice a4_p0 ((a0).out).length c4_p0, [(5, Value.pointer (some ⟨b0, 0 + 4, none⟩))], 6, rfl, rfl, ⟨.inr ⟨rfl, rfl⟩, trivial⟩, .run rfl (fun w HS => X.loadAt 0 HS rfl Try.underlying59 rfl rfl rfl), rfl, rfl, rfl⟩, ⟨_, Value.int .i64 ((((a0).out).length : Int)), [(6, Value.slice a4_p0 ((a0).out).length c4_p0)], 7, rfl, rfl, ⟨.inr ⟨rfl, rfl⟩, trivial⟩, .run rfl (fun w HS => X.lenSl Try.underlying59 rfl), rfl, rfl, rfl⟩, ⟨_, Value.pointer (some ⟨b0, 0, none⟩), [(0, Value.pointer (some ⟨b0, 0, none⟩))], 8, rfl, rfl, ⟨.inl ⟨rfl, rfl⟩, trivial⟩, .run rfl (fun w HS => X.move rfl), rfl, rfl, rfl⟩, ⟨_, Value.pointer (some ⟨b0, 0, none⟩), [(8, Value.pointer (some ⟨b0, 0, none⟩))], 9, rfl, rfl, ⟨.inr ⟨rfl, rfl⟩, trivial⟩, .run rfl (fun w HS => X.nilCheck rfl), rfl, rfl, rfl⟩, ⟨_, Value.pointer (some ⟨b0, 0 + 5, none⟩), [(9, Value.pointer (some ⟨b0, 0, none⟩))], 10, rfl, rfl, ⟨.inr ⟨rfl, rfl⟩, trivial⟩, .run rfl (fun w HS => X.fieldAddr 5 fo61_5 rfl), rfl, rfl, rfl⟩, ⟨_, Value.slice a5_p0 ((a0).wait).length c5_p0, [(10, Value.pointer (some ⟨b0, 0 + 5, none⟩))], 11, rfl, rfl, ⟨.inr ⟨rfl, rfl⟩, trivial⟩, .run rfl (fun w HS => X.loadAt 0 HS rfl Try.underlying52 rfl rfl rfl), rfl, rfl, rfl⟩, ⟨_, Value.int .i64 ((((a0).wait).length : Int)), [(11, Value.slice a5_p0 ((a0).wait).length c5_p0)], 12, rfl, rfl, ⟨.inr ⟨rfl, rfl⟩, trivial⟩, .run rfl (fun w HS => X.lenSl Try.underlying52 rfl), rfl, rfl, rfl⟩, ⟨_, Value.int .i64 (w64 ((((a0).out).length : Int) + (((a0).wait).length : Int))), [(7, Value.int .i64 ((((a0).out).length : Int))), (12, Value.int .i64 ((((a0).wait).length : Int)))], 13, rfl, rfl, ⟨.inr ⟨rfl, rfl⟩, ⟨.inr ⟨rfl, rfl⟩, trivial⟩⟩, .run rfl (fun w HS => X.add rfl rfl), rfl, rfl, rfl⟩, ⟨_, Value.int .i64 (w64 ((((a0).out).length : Int) + (((a0).wait).length : Int))), [(13, Value.int .i64 (w64 ((((a0).out).length : Int) + (((a0).wait).length : Int))))], 2, rfl, rfl, ⟨.inr ⟨rfl, rfl⟩, trivial⟩, .run rfl (fun w HS => X.assign rfl), rfl, rfl, rfl⟩, trivial⟩ ⟨.inr ⟨rfl, rfl⟩, trivial⟩ (fun w HS => ?_)
  have HS : Sep.St [blk b0 (#[Value.int .i64 ((a0).m), Value.int .i64 ((a0).window), Value.int .i64 ((a0).queue), Value.int .i64 ((a0).next), Value.slice a4_p0 ((a0).out).length c4_p0, Value.slice a5_p0 ((a0).wait).length c5_p0]) 61, row 63 2 (.slice a4_p0 ((a0).out).length c4_p0) ((a0).out).length d4_p0, tie signalmanref6_message.El d4_p0 ((a0).out), row 27 1 (.slice a5_p0 ((a0).wait).length c5_p0) ((a0).wait).length d5_p0, tie (El.sl (El.int .u8)) d5_p0 ((a0).wait), R] w0 w := HS
  refine At.next ?_
  refine V.keep [(2, Value.int .i64 (w64 ((((a0).out).length : Int) + (((a0).wait).length : Int))))] ⟨rfl, trivial⟩ ?_
  refine V.ret ?_
  cases H
  exact At.ret1 rfl rfl ⟨_, rfl, rfl, HS⟩

/-! ### (*signalman/signalmanref6.Log).Clear: function 23 -/
def signalmanref6_Log_Clear.f (a0 : signalmanref6_Log) : Option (Int × signalmanref6_Log) := ((signalmanref6_Log_Len.f a0).bind fun t3 => some (t3, ({ m := (a0).m, window := (a0).window, queue := (a0).queue, next := 0, out := ([] : List signalmanref6_message), wait := ([] : List (List Int)) } : signalmanref6_Log)))
set_option maxRecDepth 100000 in
set_option maxHeartbeats 4000000 in
theorem signalmanref6_Log_Clear.calls (a0 : signalmanref6_Log) (R : As) (w0 w : World) (b0 : Nat) (r : Int × signalmanref6_Log)  (H : signalmanref6_Log_Clear.f a0 = some r) (HS : Sep.St [signalmanref6_Log.at b0 (a0), R] w0 w) : Calls Try.prog 23 #[Value.pointer (some ⟨b0, 0, none⟩)] w (Ret fun u w => u = Value.int .i64 (r.1) ∧ Sep.St [signalmanref6_Log.at b0 (r.2), R] w0 w) := by
  unfold signalmanref6_Log_Clear.f at H
  refine calls_enter Try.func23 rfl rfl ?_
  have H : _ = some r := H
  refine V.seq ?_
  refine V.region ?_
  refine W.rd (X.assign rfl) rfl rfl rfl ?_
  refine W.nil ?_
  refine At.next ?_
  refine V.keep [(0, Value.pointer (some ⟨b0, 0, none⟩))] ⟨rfl, trivial⟩ ?_
  refine V.seq ?_
  refine V.region ?_
  refine W.rd (X.move rfl) rfl rfl rfl ?_
  obtain ⟨a4_1, c4_1, d4_1, a5_1, c5_1, d5_1, hi2, HS⟩ := signalmanref6_Log.open HS
  have HS : Sep.St [blk b0 (#[Value.int .i64 ((a0).m), Value.int .i64 ((a0).window), Value.int .i64 ((a0).queue), Value.int .i64 ((a0).next), Value.slice a4_1 ((a0).out).length c4_1, Value.slice a5_1 ((a0).wait).length c5_1]) 61, row 63 2 (.slice a4_1 ((a0).out).length c4_1) ((a0).out).length d4_1, tie signalmanref6_message.El d4_1 ((a0).out), row 27 1 (.slice a5_1 ((a0).wait).length c5_1) ((a0).wait).length d5_1, tie (El.sl (El.int .u8)) d5_1 ((a0).wait), R] w0 w := HS
  obtain ⟨t3, A4, H⟩ := bind_s H
  refine W.ev (Y.call Try.func26 (by kernel_rfl) rfl (vs := [Value.pointer (some ⟨b0, 0, none⟩)]) rfl (signalmanref6_Log_Len.calls a0 _ w0 _ b0 a4_1 c4_1 d4_1 a5_1 c5_1 d5_1 t3  A4 (Sep.St.tailJoin (m := [blk b0 (#[Value.int .i64 ((a0).m), Value.int .i64 ((a0).window), Value.int .i64 ((a0).queue), Value.int .i64 ((a0).next), Value.slice a4_1 ((a0).out).length c4_1, Value.slice a5_1 ((a0).wait).length c5_1]) 61, row 63 2 (.slice a4_1 ((a0).out).length c4_1) ((a0).out).length d4_1, tie signalmanref6_message.El d4_1 ((a0).out), row 27 1 (.slice a5_1 ((a0).wait).length c5_1) ((a0).wait).length d5_1, tie (El.sl (El.int .u8)) d5_1 ((a0).wait)]) (r := [R]) HS))) rfl rfl rfl ?_
  rintro _ w ⟨rfl, HS⟩
  replace HS := Sep.St.tailOpen (m := [blk b0 (#[Value.int .i64 ((a0).m), Value.int .i64 ((a0).window), Value.int .i64 ((a0).queue), Value.int .i64 ((a0).next), Value.slice a4_1 ((a0).out).length c4_1, Value.slice a5_1 ((a0).wait).length c5_1]) 61, row 63 2 (.slice a4_1 ((a0).out).length c4_1) ((a0).out).length d4_1, tie signalmanref6_message.El d4_1 ((a0).out), row 27 1 (.slice a5_1 ((a0).wait).length c5_1) ((a0).wait).length d5_1, tie (El.sl (El.int .u8)) d5_1 ((a0).wait)]) (r := [R]) HS
  have HS : Sep.St [blk b0 (#[Value.int .i64 ((a0).m), Value.int .i64 ((a0).window), Value.int .i64 ((a0).queue), Value.int .i64 ((a0).next), Value.slice a4_1 ((a0).out).length c4_1, Value.slice a5_1 ((a0).wait).length c5_1]) 61, row 63 2 (.slice a4_1 ((a0).out).length c4_1) ((a0).out).length d4_1, tie signalmanref6_message.El d4_1 ((a0).out), row 27 1 (.slice a5_1 ((a0).wait).length c5_1) ((a0).wait).length d5_1, tie (El.sl (El.int .u8)) d5_1 ((a0).wait), R] w0 w := HS
  refine W.rd (X.assign rfl) rfl rfl rfl ?_
  refine W.nil ?_
  refine At.next ?_
  refine V.keep [(0, Value.pointer (some ⟨b0, 0, none⟩)), (3, Value.int .i64 (t3))] ⟨rfl, rfl, trivial⟩ ?_
  refine V.seq ?_
  refine V.region ?_
  refine W.rd (X.move rfl) rfl rfl rfl ?_
  refine W.rd (X.nilCheck rfl) rfl rfl rfl ?_
  refine W.rd (X.fieldAddr 4 fo61_4 rfl) rfl rfl rfl ?_
  refine W.ev_none (Y.storeAt 0 HS rfl inf59 rfl rfl rfl rfl rfl rfl) rfl rfl ?_
  rintro _ w HS
  have HS : Sep.St [blk b0 (#[Value.int .i64 ((a0).m), Value.int .i64 ((a0).window), Value.int .i64 ((a0).queue), Value.int .i64 ((a0).next), Value.slice none 0 0, Value.slice a5_1 ((a0).wait).length c5_1]) 61, row 63 2 (.slice a4_1 ((a0).out).length c4_1) ((a0).out).length d4_1, tie signalmanref6_message.El d4_1 ((a0).out), row 27 1 (.slice a5_1 ((a0).wait).length c5_1) ((a0).wait).length d5_1, tie (El.sl (El.int .u8)) d5_1 ((a0).wait), R] w0 w := HS
  refine W.nil ?_
  refine At.next ?_
  refine V.keep [(0, Value.pointer (some ⟨b0, 0, none⟩)), (3, Value.int .i64 (t3))] ⟨rfl, rfl, trivial⟩ ?_
  refine V.seq ?_
  refine V.region ?_
  refine W.rd (X.move rfl) rfl rfl rfl ?_
  refine W.rd (X.nilCheck rfl) rfl rfl rfl ?_
  refine W.rd (X.fieldAddr 5 fo61_5 rfl) rfl rfl rfl ?_
  refine W.ev_none (Y.storeAt 0 HS rfl inf52 rfl rfl rfl rfl rfl rfl) rfl rfl ?_
  rintro _ w HS
  have HS : Sep.St [blk b0 (#[Value.int .i64 ((a0).m), Value.int .i64 ((a0).window), Value.int .i64 ((a0).queue), Value.int .i64 ((a0).next), Value.slice none 0 0, Value.slice none 0 0]) 61, row 63 2 (.slice a4_1 ((a0).out).length c4_1) ((a0).out).length d4_1, tie signalmanref6_message.El d4_1 ((a0).out), row 27 1 (.slice a5_1 ((a0).wait).length c5_1) ((a0).wait).length d5_1, tie (El.sl (El.int .u8)) d5_1 ((a0).wait), R] w0 w := HS
  refine W.nil ?_
  refine At.next ?_
  refine V.keep [(0, Value.pointer (some ⟨b0, 0, none⟩)), (3, Value.int .i64 (t3))] ⟨rfl, rfl, trivial⟩ ?_
  refine V.seq ?_
  refine V.region ?_
  refine W.rd (X.move rfl) rfl rfl rfl ?_
  refine W.rd (X.nilCheck rfl) rfl rfl rfl ?_
  refine W.rd (X.fieldAddr 3 fo61_3 rfl) rfl rfl rfl ?_
  refine W.ev_none (Y.storeAt 0 HS rfl inf3 rfl rfl rfl rfl rfl rfl) rfl rfl ?_
  rintro _ w HS
  have HS : Sep.St [blk b0 (#[Value.int .i64 ((a0).m), Value.int .i64 ((a0).window), Value.int .i64 ((a0).queue), Value.int .i64 (0), Value.slice none 0 0, Value.slice none 0 0]) 61, row 63 2 (.slice a4_1 ((a0).out).length c4_1) ((a0).out).length d4_1, tie signalmanref6_message.El d4_1 ((a0).out), row 27 1 (.slice a5_1 ((a0).wait).length c5_1) ((a0).wait).length d5_1, tie (El.sl (El.int .u8)) d5_1 ((a0).wait), R] w0 w := HS
  refine W.nil ?_
  refine At.next ?_
  refine V.keep [(3, Value.int .i64 (t3))] ⟨rfl, trivial⟩ ?_
  refine V.seq ?_
  refine V.region ?_
  refine W.rd (X.move rfl) rfl rfl rfl ?_
  refine W.rd (X.assign rfl) rfl rfl rfl ?_
  refine W.nil ?_
  refine At.next ?_
  refine V.keep [(2, Value.int .i64 (t3))] ⟨rfl, trivial⟩ ?_
  refine V.ret ?_
  replace HS := row_nil' (e := 63) 2 none (St.put (A := tie signalmanref6_message.El ([]) (([] : List signalmanref6_message))) (fun _ => tie.nil) HS)
  have HS : Sep.St [row 63 2 (.slice none (([] : List signalmanref6_message)).length 0) (([] : List signalmanref6_message)).length ([]), tie signalmanref6_message.El ([]) (([] : List signalmanref6_message)), blk b0 (#[Value.int .i64 ((a0).m), Value.int .i64 ((a0).window), Value.int .i64 ((a0).queue), Value.int .i64 (0), Value.slice none 0 0, Value.slice none 0 0]) 61, row 63 2 (.slice a4_1 ((a0).out).length c4_1) ((a0).out).length d4_1, tie signalmanref6_message.El d4_1 ((a0).out), row 27 1 (.slice a5_1 ((a0).wait).length c5_1) ((a0).wait).length d5_1, tie (El.sl (El.int .u8)) d5_1 ((a0).wait), R] w0 w := HS
  replace HS := row_nil' (e := 27) 1 none (St.put (A := tie (El.sl (El.int .u8)) ([]) (([] : List (List Int)))) (fun _ => tie.nil) HS)
  have HS : Sep.St [row 27 1 (.slice none (([] : List (List Int))).length 0) (([] : List (List Int))).length ([]), tie (El.sl (El.int .u8)) ([]) (([] : List (List Int))), row 63 2 (.slice none (([] : List signalmanref6_message)).length 0) (([] : List signalmanref6_message)).length ([]), tie signalmanref6_message.El ([]) (([] : List signalmanref6_message)), blk b0 (#[Value.int .i64 ((a0).m), Value.int .i64 ((a0).window), Value.int .i64 ((a0).queue), Value.int .i64 (0), Value.slice none 0 0, Value.slice none 0 0]) 61, row 63 2 (.slice a4_1 ((a0).out).length c4_1) ((a0).out).length d4_1, tie signalmanref6_message.El d4_1 ((a0).out), row 27 1 (.slice a5_1 ((a0).wait).length c5_1) ((a0).wait).length d5_1, tie (El.sl (El.int .u8)) d5_1 ((a0).wait), R] w0 w := HS
  replace HS := HS.re [4, 2, 3, 0, 1, 5, 6, 7, 8, 9] (by kernel_rfl)
  have HS : Sep.St [blk b0 (#[Value.int .i64 ((a0).m), Value.int .i64 ((a0).window), Value.int .i64 ((a0).queue), Value.int .i64 (0), Value.slice none (([] : List signalmanref6_message)).length 0, Value.slice none (([] : List (List Int))).length 0]) 61, row 63 2 (.slice none (([] : List signalmanref6_message)).length 0) (([] : List signalmanref6_message)).length ([]), tie signalmanref6_message.El ([]) (([] : List signalmanref6_message)), row 27 1 (.slice none (([] : List (List Int))).length 0) (([] : List (List Int))).length ([]), tie (El.sl (El.int .u8)) ([]) (([] : List (List Int))), row 63 2 (.slice a4_1 ((a0).out).length c4_1) ((a0).out).length d4_1, tie signalmanref6_message.El d4_1 ((a0).out), row 27 1 (.slice a5_1 ((a0).wait).length c5_1) ((a0).wait).length d5_1, tie (El.sl (El.int .u8)) d5_1 ((a0).wait), R] w0 w := HS
  replace HS := signalmanref6_Log.close (({ m := (a0).m, window := (a0).window, queue := (a0).queue, next := 0, out := ([] : List signalmanref6_message), wait := ([] : List (List Int)) } : signalmanref6_Log)) trivial HS
  have HS : Sep.St [signalmanref6_Log.at b0 (({ m := (a0).m, window := (a0).window, queue := (a0).queue, next := 0, out := ([] : List signalmanref6_message), wait := ([] : List (List Int)) } : signalmanref6_Log)), row 63 2 (.slice a4_1 ((a0).out).length c4_1) ((a0).out).length d4_1, tie signalmanref6_message.El d4_1 ((a0).out), row 27 1 (.slice a5_1 ((a0).wait).length c5_1) ((a0).wait).length d5_1, tie (El.sl (El.int .u8)) d5_1 ((a0).wait), R] w0 w := HS
  replace HS := HS.sel [0, 5] [1, 2, 3, 4] (by kernel_rfl)
  cases H
  exact At.ret1 rfl rfl ⟨_, rfl, rfl, HS⟩

/-! ### (*signalman/backlog.Log).Out: function 13 -/
mutual
def backlog_Log_Out.l0 : Nat → backlog_Log → Int → (List Int) → Option (List Int)
  | 0, _, _, _ => none
  | k + 1, a0, x5, x8 => (if x5 < ((a0).out) then ((backlog_Log_number.f a0 x5).bind fun t12 => (if ((x8).length : Int) + (([t12] : List Int)).length ≤ 1099511627776 then (backlog_Log_Out.l0 k a0 (w64 (x5 + 1)) (x8 ++ ([t12] : List Int))) else none)) else some (x8))
end
def backlog_Log_Out.f (k : Nat) (a0 : backlog_Log) : Option (List Int) := (backlog_Log_Out.l0 k a0 0 ([] : List Int))
set_option maxRecDepth 100000 in
set_option maxHeartbeats 4000000 in
theorem backlog_Log_Out.calls (k : Nat) (a0 : backlog_Log) (R : As) (w0 w : World) (b0 : Nat) (a5_p0 : Option Addr) (c5_p0 : Nat) (d5_p0 : List Value) (r : List Int)  (H : backlog_Log_Out.f k a0 = some r) (HS : Sep.St [blk b0 (#[Value.int .i64 ((a0).m), Value.int .i64 ((a0).window), Value.int .i64 ((a0).queue), Value.int .i64 ((a0).first), Value.int .i64 ((a0).out), Value.slice a5_p0 ((a0).l).length c5_p0]) 54, row 27 1 (.slice a5_p0 ((a0).l).length c5_p0) ((a0).l).length d5_p0, tie (El.sl (El.int .u8)) d5_p0 ((a0).l), R] w0 w) : Calls Try.prog 13 #[Value.pointer (some ⟨b0, 0, none⟩)] w (Ret fun u w => ∃ (aq0 : Option Addr) (cq0 : Nat), u = Value.slice aq0 (r).length cq0 ∧ Sep.St [row 3 1 (.slice aq0 (r).length cq0) (r).length ((r).map (Value.int .i64)), blk b0 (#[Value.int .i64 ((a0).m), Value.int .i64 ((a0).window), Value.int .i64 ((a0).queue), Value.int .i64 ((a0).first), Value.int .i64 ((a0).out), Value.slice a5_p0 ((a0).l).length c5_p0]) 54, row 27 1 (.slice a5_p0 ((a0).l).length c5_p0) ((a0).l).length d5_p0, tie (El.sl (El.int .u8)) d5_p0 ((a0).l), R] w0 w) := by
  unfold backlog_Log_Out.f at H
  refine calls_enter Try.func13 rfl rfl ?_
  have H : _ = some r := H
  refine V.seq ?_
  refine V.region ?_
  refine W.rd (X.assign rfl) rfl rfl rfl ?_
  refine W.nil ?_
  refine At.next ?_
  refine V.keep [(0, Value.pointer (some ⟨b0, 0, none⟩))] ⟨rfl, trivial⟩ ?_
  refine V.seq ?_
  refine V.region ?_
  refine W.rd (X.assign rfl) rfl rfl rfl ?_
  refine W.nil ?_
  refine At.next ?_
  refine V.keep [(0, Value.pointer (some ⟨b0, 0, none⟩)), (3, Value.slice none 0 0)] ⟨rfl, rfl, trivial⟩ ?_
  refine V.seq ?_
  refine V.seq ?_
  refine V.region ?_
  refine W.rd (X.move rfl) rfl rfl rfl ?_
  refine W.rd (X.nilCheck rfl) rfl rfl rfl ?_
  refine W.rd (X.fieldAddr 4 fo54_4 rfl) rfl rfl rfl ?_
  refine W.rd (X.loadAt 0 HS rfl Try.underlying3 rfl rfl rfl) rfl rfl rfl ?_
  refine W.rd (X.move rfl) rfl rfl rfl ?_
  refine W.nil ?_
  refine At.next ?_
  refine V.keep [(0, Value.pointer (some ⟨b0, 0, none⟩)), (3, Value.slice none 0 0), (8, Value.int .i64 ((a0).out)), (9, Value.int .i64 (0))] ⟨rfl, rfl, rfl, rfl, trivial⟩ ?_
  refine V.block ?_
  replace HS := row_nil' (e := 3) 1 none HS
  have HS : Sep.St [row 3 1 (.slice none (([] : List Int)).length 0) (([] : List Int)).length ((([] : List Int)).map (Value.int .i64)), blk b0 (#[Value.int .i64 ((a0).m), Value.int .i64 ((a0).window), Value.int .i64 ((a0).queue), Value.int .i64 ((a0).first), Value.int .i64 ((a0).out), Value.slice a5_p0 ((a0).l).length c5_p0]) 54, row 27 1 (.slice a5_p0 ((a0).l).length c5_p0) ((a0).l).length d5_p0, tie (El.sl (El.int .u8)) d5_p0 ((a0).l), R] w0 w := HS
  refine V.loop (σ := Int × Option Addr × Nat × List Int) (fun kq (st : Int × Option Addr × Nat × List Int) w => match st with | (x5, ra6, rc7, x8) => Sep.St [row 3 1 (.slice ra6 (x8).length rc7) (x8).length ((x8).map (Value.int .i64)), blk b0 (#[Value.int .i64 ((a0).m), Value.int .i64 ((a0).window), Value.int .i64 ((a0).queue), Value.int .i64 ((a0).first), Value.int .i64 ((a0).out), Value.slice a5_p0 ((a0).l).length c5_p0]) 54, row 27 1 (.slice a5_p0 ((a0).l).length c5_p0) ((a0).l).length d5_p0, tie (El.sl (El.int .u8)) d5_p0 ((a0).l), R] w0 w ∧ backlog_Log_Out.l0 kq a0 x5 x8 = some r ∧ kq ≤ k) (fun st => match st with | (x5, ra6, rc7, x8) => [(0, Value.pointer (some ⟨b0, 0, none⟩)), (3, Value.slice ra6 (x8).length rc7), (8, Value.int .i64 ((a0).out)), (9, Value.int .i64 (x5))]) k (0, none, 0, ([] : List Int)) ⟨rfl, rfl, rfl, rfl, trivial⟩ ⟨HS, H, Nat.le_refl _⟩ ?_
  rintro kq9 ⟨x5, ra6, rc7, x8⟩ w ⟨HS, H, hk10⟩
  cases kq9 with
  | zero => exact absurd H (by simp [backlog_Log_Out.l0])
  | succ kq9 =>
    simp only [backlog_Log_Out.l0] at H
    have HS : Sep.St [row 3 1 (.slice ra6 (x8).length rc7) (x8).length ((x8).map (Value.int .i64)), blk b0 (#[Value.int .i64 ((a0).m), Value.int .i64 ((a0).window), Value.int .i64 ((a0).queue), Value.int .i64 ((a0).first), Value.int .i64 ((a0).out), Value.slice a5_p0 ((a0).l).length c5_p0]) 54, row 27 1 (.slice a5_p0 ((a0).l).length c5_p0) ((a0).l).length d5_p0, tie (El.sl (El.int .u8)) d5_p0 ((a0).l), R] w0 w := HS
    refine V.seq ?_
    refine V.region ?_
    refine W.rd (X.cmp (decide (x5 < ((a0).out))) rfl rfl rfl rfl) rfl rfl rfl ?_
    refine W.nil ?_
    refine At.next ?_
    refine V.keep [(0, Value.pointer (some ⟨b0, 0, none⟩)), (3, Value.slice ra6 (x8).length rc7), (8, Value.int .i64 ((a0).out)), (9, Value.int .i64 (x5)), (10, Value.bool (decide (x5 < ((a0).out))))] ⟨rfl, rfl, rfl, rfl, rfl, trivial⟩ ?_
    refine V.seq ?_
    by_cases c11 : x5 < ((a0).out)
    · replace H := ite_t c11 H
      refine V.condT (sb (decide_eq_true c11)) ?_
      refine V.skip ?_
      refine At.next ?_
      refine V.keep [(0, Value.pointer (some ⟨b0, 0, none⟩)), (3, Value.slice ra6 (x8).length rc7), (8, Value.int .i64 ((a0).out)), (9, Value.int .i64 (x5))] ⟨rfl, rfl, rfl, rfl, trivial⟩ ?_
      refine V.seq ?_
      refine V.block ?_
      refine V.seq ?_
      refine V.region ?_
      refine W.rd (X.move rfl) rfl rfl rfl ?_
      refine W.rd (X.assign rfl) rfl rfl rfl ?_
      refine W.nil ?_
      refine At.next ?_
      refine V.keep [(0, Value.pointer (some ⟨b0, 0, none⟩)), (3, Value.slice ra6 (x8).length rc7), (4, Value.int .i64 (x5)), (8, Value.int .i64 ((a0).out)), (9, Value.int .i64 (x5))] ⟨rfl, rfl, rfl, rfl, rfl, trivial⟩ ?_
      refine V.region ?_
      refine W.rd (X.move rfl) rfl rfl rfl ?_
      refine W.rd (X.move rfl) rfl rfl rfl ?_
      refine W.rd (X.move rfl) rfl rfl rfl ?_
      obtain ⟨t12, A13, H⟩ := bind_s H
      replace HS := HS.re [1, 2, 3, 0, 4] (by kernel_rfl)
      have HS : Sep.St [blk b0 (#[Value.int .i64 ((a0).m), Value.int .i64 ((a0).window), Value.int .i64 ((a0).queue), Value.int .i64 ((a0).first), Value.int .i64 ((a0).out), Value.slice a5_p0 ((a0).l).length c5_p0]) 54, row 27 1 (.slice a5_p0 ((a0).l).length c5_p0) ((a0).l).length d5_p0, tie (El.sl (El.int .u8)) d5_p0 ((a0).l), row 3 1 (.slice ra6 (x8).length rc7) (x8).length ((x8).map (Value.int .i64)), R] w0 w := HS
      refine W.ev (Y.call Try.func29 (by kernel_rfl) rfl (vs := [Value.pointer (some ⟨b0, 0, none⟩), Value.int .i64 (x5)]) rfl (backlog_Log_number.calls a0 x5 _ w0 _ b0 a5_p0 c5_p0 d5_p0 t12  A13 (Sep.St.tailJoin (m := [blk b0 (#[Value.int .i64 ((a0).m), Value.int .i64 ((a0).window), Value.int .i64 ((a0).queue), Value.int .i64 ((a0).first), Value.int .i64 ((a0).out), Value.slice a5_p0 ((a0).l).length c5_p0]) 54, row 27 1 (.slice a5_p0 ((a0).l).length c5_p0) ((a0).l).length d5_p0, tie (El.sl (El.int .u8)) d5_p0 ((a0).l)]) (r := [row 3 1 (.slice ra6 (x8).length rc7) (x8).length ((x8).map (Value.int .i64)), R]) HS))) rfl rfl rfl ?_
      rintro _ w ⟨rfl, HS⟩
      replace HS := Sep.St.tailOpen (m := [blk b0 (#[Value.int .i64 ((a0).m), Value.int .i64 ((a0).window), Value.int .i64 ((a0).queue), Value.int .i64 ((a0).first), Value.int .i64 ((a0).out), Value.slice a5_p0 ((a0).l).length c5_p0]) 54, row 27 1 (.slice a5_p0 ((a0).l).length c5_p0) ((a0).l).length d5_p0, tie (El.sl (El.int .u8)) d5_p0 ((a0).l)]) (r := [row 3 1 (.slice ra6 (x8).length rc7) (x8).length ((x8).map (Value.int .i64)), R]) HS
      have HS : Sep.St [blk b0 (#[Value.int .i64 ((a0).m), Value.int .i64 ((a0).window), Value.int .i64 ((a0).queue), Value.int .i64 ((a0).first), Value.int .i64 ((a0).out), Value.slice a5_p0 ((a0).l).length c5_p0]) 54, row 27 1 (.slice a5_p0 ((a0).l).length c5_p0) ((a0).l).length d5_p0, tie (El.sl (El.int .u8)) d5_p0 ((a0).l), row 3 1 (.slice ra6 (x8).length rc7) (x8).length ((x8).map (Value.int .i64)), R] w0 w := HS
      refine W.ev (Y.litB (e := 3) (sz := 1) (vs := #[(0, Value.int .i64 (t12))]) [Value.int .i64 (t12)] HS (fun a ha => by simp only [List.map_toArray, List.map_cons, List.map_nil]; rw [ha.ev (x := .tmp 15) (v := Value.int .i64 (t12)) rfl]; try rfl) rfl (by decide) (fun _ => by kernel_rfl)) rfl rfl rfl ?_
      rintro _ w ⟨lb16, rfl, HS⟩
      have HS : Sep.St [row 3 1 (.slice (some ⟨lb16, 0, none⟩) (([t12] : List Int)).length 1) (([t12] : List Int)).length ((([t12] : List Int)).map (Value.int .i64)), blk b0 (#[Value.int .i64 ((a0).m), Value.int .i64 ((a0).window), Value.int .i64 ((a0).queue), Value.int .i64 ((a0).first), Value.int .i64 ((a0).out), Value.slice a5_p0 ((a0).l).length c5_p0]) 54, row 27 1 (.slice a5_p0 ((a0).l).length c5_p0) ((a0).l).length d5_p0, tie (El.sl (El.int .u8)) d5_p0 ((a0).l), row 3 1 (.slice ra6 (x8).length rc7) (x8).length ((x8).map (Value.int .i64)), R] w0 w := HS
      obtain ⟨c17, H⟩ := ite_n H
      refine W.ev (Y.appF (Value.int .i64) (fun _ => rfl) 4 Try.underlying31 ap3 rfl HS rfl rfl rfl (rdC.at 0 row_rd HS rfl) (by omega) (by omega)) rfl rfl rfl ?_
      rintro _ w ⟨ra18, rc19, rfl, HS⟩
      have HS : Sep.St [row 3 1 (.slice (some ⟨lb16, 0, none⟩) (([t12] : List Int)).length 1) (([t12] : List Int)).length ((([t12] : List Int)).map (Value.int .i64)), blk b0 (#[Value.int .i64 ((a0).m), Value.int .i64 ((a0).window), Value.int .i64 ((a0).queue), Value.int .i64 ((a0).first), Value.int .i64 ((a0).out), Value.slice a5_p0 ((a0).l).length c5_p0]) 54, row 27 1 (.slice a5_p0 ((a0).l).length c5_p0) ((a0).l).length d5_p0, tie (El.sl (El.int .u8)) d5_p0 ((a0).l), row 3 1 (.slice ra18 (x8 ++ ([t12] : List Int)).length rc19) (x8 ++ ([t12] : List Int)).length ((x8 ++ ([t12] : List Int)).map (Value.int .i64)), R] w0 w := HS
      refine W.rd (X.assign rfl) rfl rfl rfl ?_
      refine W.nil ?_
      refine At.blockEnd ?_
      refine At.next ?_
      refine V.keep [(0, Value.pointer (some ⟨b0, 0, none⟩)), (3, Value.slice ra18 (x8 ++ ([t12] : List Int)).length rc19), (8, Value.int .i64 ((a0).out)), (9, Value.int .i64 (x5))] ⟨rfl, rfl, rfl, rfl, trivial⟩ ?_
      refine V.region ?_
      refine W.rd (X.add rfl rfl) rfl rfl rfl ?_
      refine W.rd (X.move rfl) rfl rfl rfl ?_
      refine W.nil ?_
      replace HS := HS.sel [4, 1, 2, 3, 5] [0] (by kernel_rfl)
      exact At.round kq9 (by omega) (w64 (x5 + 1), ra18, rc19, x8 ++ ([t12] : List Int)) ⟨rfl, rfl, rfl, rfl, trivial⟩ ⟨HS, H, by omega⟩
    · replace H := ite_f c11 H
      refine V.condF (sb (decide_eq_false c11)) ?_
      refine V.exit ?_
      refine At.thenExit ?_
      refine At.thenExit ?_
      refine At.blockExit ?_
      refine At.next ?_
      refine V.keep [(3, Value.slice ra6 (x8).length rc7)] ⟨rfl, trivial⟩ ?_
      refine V.seq ?_
      refine V.region ?_
      refine W.rd (X.move rfl) rfl rfl rfl ?_
      refine W.rd (X.assign rfl) rfl rfl rfl ?_
      refine W.nil ?_
      refine At.next ?_
      refine V.keep [(2, Value.slice ra6 (x8).length rc7)] ⟨rfl, trivial⟩ ?_
      refine V.ret ?_
      cases H
      exact At.ret1 rfl rfl ⟨_, rfl, ra6, rc7, rfl, HS⟩

/-! ### (*signalman/signalmanref6.Log).Out: function 25 -/
mutual
def signalmanref6_Log_Out.l0 : Nat → signalmanref6_Log → Int → (List Int) → Option (List Int)
  | 0, _, _, _ => none
  | k + 1, a0, x7, x10 => (if x7 < (((a0).out).length : Int) then (if 0 ≤ x7 ∧ x7 < (((a0).out).length : Int) then (if ((x10).length : Int) + (([(((a0).out).getD (x7).toNat default).n] : List Int)).length ≤ 1099511627776 then (signalmanref6_Log_Out.l0 k a0 (w64 (x7 + 1)) (x10 ++ ([(((a0).out).getD (x7).toNat default).n] : List Int))) else none) else none) else some (x10))
end
def signalmanref6_Log_Out.f (k : Nat) (a0 : signalmanref6_Log) : Option (List Int) := (signalmanref6_Log_Out.l0 k a0 0 ([] : List Int))
set_option maxRecDepth 100000 in
set_option maxHeartbeats 4000000 in
theorem signalmanref6_Log_Out.calls (k : Nat) (a0 : signalmanref6_Log) (R : As) (w0 w : World) (b0 : Nat) (a4_p0 : Option Addr) (c4_p0 : Nat) (d4_p0 : List Value) (a5_p0 : Option Addr) (c5_p0 : Nat) (d5_p0 : List Value) (r : List Int)  (H : signalmanref6_Log_Out.f k a0 = some r) (HS : Sep.St [blk b0 (#[Value.int .i64 ((a0).m), Value.int .i64 ((a0).window), Value.int .i64 ((a0).queue), Value.int .i64 ((a0).next), Value.slice a4_p0 ((a0).out).length c4_p0, Value.slice a5_p0 ((a0).wait).length c5_p0]) 61, row 63 2 (.slice a4_p0 ((a0).out).length c4_p0) ((a0).out).length d4_p0, tie signalmanref6_message.El d4_p0 ((a0).out), row 27 1 (.slice a5_p0 ((a0).wait).length c5_p0) ((a0).wait).length d5_p0, tie (El.sl (El.int .u8)) d5_p0 ((a0).wait), R] w0 w) : Calls Try.prog 25 #[Value.pointer (some ⟨b0, 0, none⟩)] w (Ret fun u w => ∃ (aq0 : Option Addr) (cq0 : Nat), u = Value.slice aq0 (r).length cq0 ∧ Sep.St [row 3 1 (.slice aq0 (r).length cq0) (r).length ((r).map (Value.int .i64)), blk b0 (#[Value.int .i64 ((a0).m), Value.int .i64 ((a0).window), Value.int .i64 ((a0).queue), Value.int .i64 ((a0).next), Value.slice a4_p0 ((a0).out).length c4_p0, Value.slice a5_p0 ((a0).wait).length c5_p0]) 61, row 63 2 (.slice a4_p0 ((a0).out).length c4_p0) ((a0).out).length d4_p0, tie signalmanref6_message.El d4_p0 ((a0).out), row 27 1 (.slice a5_p0 ((a0).wait).length c5_p0) ((a0).wait).length d5_p0, tie (El.sl (El.int .u8)) d5_p0 ((a0).wait), R] w0 w) := by
  unfold signalmanref6_Log_Out.f at H
  refine calls_enter Try.func25 rfl rfl ?_
  have H : _ = some r := H
  refine V.seq ?_
  refine V.region ?_
  refine W.rd (X.assign rfl) rfl rfl rfl ?_
  refine W.nil ?_
  refine At.next ?_
  refine V.keep [(0, Value.pointer (some ⟨b0, 0, none⟩))] ⟨rfl, trivial⟩ ?_
  refine V.seq ?_
  refine V.region ?_
  refine W.rd (X.assign rfl) rfl rfl rfl ?_
  refine W.nil ?_
  refine At.next ?_
  refine V.keep [(0, Value.pointer (some ⟨b0, 0, none⟩)), (3, Value.slice none 0 0)] ⟨rfl, rfl, trivial⟩ ?_
  refine V.seq ?_
  refine V.seq ?_
  refine V.region ?_
  refine W.rd (X.assign rfl) rfl rfl rfl ?_
  refine W.nil ?_
  refine At.next ?_
  refine V.keep [(0, Value.pointer (some ⟨b0, 0, none⟩)), (3, Value.slice none 0 0), (4, Value.int .i64 (0))] ⟨rfl, rfl, rfl, trivial⟩ ?_
  refine V.block ?_
  replace HS := row_nil' (e := 3) 1 none HS
  have HS : Sep.St [row 3 1 (.slice none (([] : List Int)).length 0) (([] : List Int)).length ((([] : List Int)).map (Value.int .i64)), blk b0 (#[Value.int .i64 ((a0).m), Value.int .i64 ((a0).window), Value.int .i64 ((a0).queue), Value.int .i64 ((a0).next), Value.slice a4_p0 ((a0).out).length c4_p0, Value.slice a5_p0 ((a0).wait).length c5_p0]) 61, row 63 2 (.slice a4_p0 ((a0).out).length c4_p0) ((a0).out).length d4_p0, tie signalmanref6_message.El d4_p0 ((a0).out), row 27 1 (.slice a5_p0 ((a0).wait).length c5_p0) ((a0).wait).length d5_p0, tie (El.sl (El.int .u8)) d5_p0 ((a0).wait), R] w0 w := HS
  refine V.loop (σ := Int × Option Addr × Nat × List Int) (fun kq (st : Int × Option Addr × Nat × List Int) w => match st with | (x7, ra8, rc9, x10) => Sep.St [row 3 1 (.slice ra8 (x10).length rc9) (x10).length ((x10).map (Value.int .i64)), blk b0 (#[Value.int .i64 ((a0).m), Value.int .i64 ((a0).window), Value.int .i64 ((a0).queue), Value.int .i64 ((a0).next), Value.slice a4_p0 ((a0).out).length c4_p0, Value.slice a5_p0 ((a0).wait).length c5_p0]) 61, row 63 2 (.slice a4_p0 ((a0).out).length c4_p0) ((a0).out).length d4_p0, tie signalmanref6_message.El d4_p0 ((a0).out), row 27 1 (.slice a5_p0 ((a0).wait).length c5_p0) ((a0).wait).length d5_p0, tie (El.sl (El.int .u8)) d5_p0 ((a0).wait), R] w0 w ∧ signalmanref6_Log_Out.l0 kq a0 x7 x10 = some r ∧ kq ≤ k) (fun st => match st with | (x7, ra8, rc9, x10) => [(0, Value.pointer (some ⟨b0, 0, none⟩)), (3, Value.slice ra8 (x10).length rc9), (4, Value.int .i64 (x7))]) k (0, none, 0, ([] : List Int)) ⟨rfl, rfl, rfl, trivial⟩ ⟨HS, H, Nat.le_refl _⟩ ?_
  rintro kq11 ⟨x7, ra8, rc9, x10⟩ w ⟨HS, H, hk12⟩
  cases kq11 with
  | zero => exact absurd H (by simp [signalmanref6_Log_Out.l0])
  | succ kq11 =>
    simp only [signalmanref6_Log_Out.l0] at H
    have HS : Sep.St [row 3 1 (.slice ra8 (x10).length rc9) (x10).length ((x10).map (Value.int .i64)), blk b0 (#[Value.int .i64 ((a0).m), Value.int .i64 ((a0).window), Value.int .i64 ((a0).queue), Value.int .i64 ((a0).next), Value.slice a4_p0 ((a0).out).length c4_p0, Value.slice a5_p0 ((a0).wait).length c5_p0]) 61, row 63 2 (.slice a4_p0 ((a0).out).length c4_p0) ((a0).out).length d4_p0, tie signalmanref6_message.El d4_p0 ((a0).out), row 27 1 (.slice a5_p0 ((a0).wait).length c5_p0) ((a0).wait).length d5_p0, tie (El.sl (El.int .u8)) d5_p0 ((a0).wait), R] w0 w := HS
    refine V.seq ?_
    refine V.seq ?_
    refine V.region ?_
    refine W.rd (X.move rfl) rfl rfl rfl ?_
    refine W.rd (X.move rfl) rfl rfl rfl ?_
    refine W.rd (X.nilCheck rfl) rfl rfl rfl ?_
    refine W.rd (X.fieldAddr 4 fo61_4 rfl) rfl rfl rfl ?_
    refine W.rd (X.loadAt 1 HS rfl Try.underlying59 rfl rfl rfl) rfl rfl rfl ?_
    refine W.rd (X.lenSl Try.underlying59 rfl) rfl rfl rfl ?_
    refine W.rd (X.cmp (decide (x7 < (((a0).out).length : Int))) rfl rfl rfl rfl) rfl rfl rfl ?_
    refine W.nil ?_
    refine At.next ?_
    refine V.keep [(0, Value.pointer (some ⟨b0, 0, none⟩)), (3, Value.slice ra8 (x10).length rc9), (4, Value.int .i64 (x7)), (11, Value.bool (decide (x7 < (((a0).out).length : Int))))] ⟨rfl, rfl, rfl, rfl, trivial⟩ ?_
    by_cases c13 : x7 < (((a0).out).length : Int)
    · replace H := ite_t c13 H
      refine V.condT (sb (decide_eq_true c13)) ?_
      refine V.skip ?_
      refine At.next ?_
      refine V.keep [(0, Value.pointer (some ⟨b0, 0, none⟩)), (3, Value.slice ra8 (x10).length rc9), (4, Value.int .i64 (x7))] ⟨rfl, rfl, rfl, trivial⟩ ?_
      refine V.seq ?_
      refine V.block ?_
      refine V.region ?_
      refine W.rd (X.move rfl) rfl rfl rfl ?_
      refine W.rd (X.move rfl) rfl rfl rfl ?_
      refine W.rd (X.nilCheck rfl) rfl rfl rfl ?_
      refine W.rd (X.fieldAddr 4 fo61_4 rfl) rfl rfl rfl ?_
      refine W.rd (X.loadAt 1 HS rfl Try.underlying59 rfl rfl rfl) rfl rfl rfl ?_
      refine W.rd (X.move rfl) rfl rfl rfl ?_
      obtain ⟨c14, H⟩ := ite_n H
      obtain ⟨eb15, eo16, hh⟩ := ((rdC.at 2 row_rd HS rfl)).some (by decide) c14.1 c14.2; subst hh
      refine W.rd (X.indexSl Try.underlying59 inf63 rfl rfl c14.1 c14.2) rfl rfl rfl ?_
      refine W.rd (X.fieldAddr 0 fo63_0 rfl) rfl rfl rfl ?_
      obtain ⟨ec17, hc18, HS⟩ := St.tie_at 3 HS rfl (default) c14.1 c14.2
      obtain ⟨ea19, em20, he21, HN⟩ := signalmanref6_message.unpack HS; clear HS; subst he21; have HS := HN
      have HS : Sep.St [fsl 1 (.slice ea19 ((((a0).out).getD (x7).toNat default).b).length em20) ((((a0).out).getD (x7).toNat default).b).length (((((a0).out).getD (x7).toNat default).b).map (Value.int .u8)), row 3 1 (.slice ra8 (x10).length rc9) (x10).length ((x10).map (Value.int .i64)), blk b0 (#[Value.int .i64 ((a0).m), Value.int .i64 ((a0).window), Value.int .i64 ((a0).queue), Value.int .i64 ((a0).next), Value.slice (some ⟨eb15, eo16, none⟩) ((a0).out).length c4_p0, Value.slice a5_p0 ((a0).wait).length c5_p0]) 61, row 63 2 (.slice (some ⟨eb15, eo16, none⟩) ((a0).out).length c4_p0) ((a0).out).length d4_p0, tie signalmanref6_message.El d4_p0 ((a0).out), row 27 1 (.slice a5_p0 ((a0).wait).length c5_p0) ((a0).wait).length d5_p0, tie (El.sl (El.int .u8)) d5_p0 ((a0).wait), R] w0 w := HS
      refine W.rd (X.load Try.underlying3 rfl rfl (((rdC.at 3 row_rd HS rfl)).cellEl (hc18 0 _ rfl))) rfl rfl rfl ?_
      refine W.ev (Y.litB (e := 3) (sz := 1) (vs := #[(0, Value.int .i64 ((((a0).out).getD (x7).toNat default).n))]) [Value.int .i64 ((((a0).out).getD (x7).toNat default).n)] HS (fun a ha => by simp only [List.map_toArray, List.map_cons, List.map_nil]; rw [ha.ev (x := .tmp 22) (v := Value.int .i64 ((((a0).out).getD (x7).toNat default).n)) rfl]; try rfl) rfl (by decide) (fun _ => by kernel_rfl)) rfl rfl rfl ?_
      rintro _ w ⟨lb24, rfl, HS⟩
      have HS : Sep.St [row 3 1 (.slice (some ⟨lb24, 0, none⟩) (([(((a0).out).getD (x7).toNat default).n] : List Int)).length 1) (([(((a0).out).getD (x7).toNat default).n] : List Int)).length ((([(((a0).out).getD (x7).toNat default).n] : List Int)).map (Value.int .i64)), fsl 1 (.slice ea19 ((((a0).out).getD (x7).toNat default).b).length em20) ((((a0).out).getD (x7).toNat default).b).length (((((a0).out).getD (x7).toNat default).b).map (Value.int .u8)), row 3 1 (.slice ra8 (x10).length rc9) (x10).length ((x10).map (Value.int .i64)), blk b0 (#[Value.int .i64 ((a0).m), Value.int .i64 ((a0).window), Value.int .i64 ((a0).queue), Value.int .i64 ((a0).next), Value.slice (some ⟨eb15, eo16, none⟩) ((a0).out).length c4_p0, Value.slice a5_p0 ((a0).wait).length c5_p0]) 61, row 63 2 (.slice (some ⟨eb15, eo16, none⟩) ((a0).out).length c4_p0) ((a0).out).length d4_p0, tie signalmanref6_message.El d4_p0 ((a0).out), row 27 1 (.slice a5_p0 ((a0).wait).length c5_p0) ((a0).wait).length d5_p0, tie (El.sl (El.int .u8)) d5_p0 ((a0).wait), R] w0 w := HS
      obtain ⟨c25, H⟩ := ite_n H
      refine W.ev (Y.appF (Value.int .i64) (fun _ => rfl) 2 Try.underlying31 ap3 rfl HS rfl rfl rfl (rdC.at 0 row_rd HS rfl) (by omega) (by omega)) rfl rfl rfl ?_
      rintro _ w ⟨ra26, rc27, rfl, HS⟩
      have HS : Sep.St [row 3 1 (.slice (some ⟨lb24, 0, none⟩) (([(((a0).out).getD (x7).toNat default).n] : List Int)).length 1) (([(((a0).out).getD (x7).toNat default).n] : List Int)).length ((([(((a0).out).getD (x7).toNat default).n] : List Int)).map (Value.int .i64)), fsl 1 (.slice ea19 ((((a0).out).getD (x7).toNat default).b).length em20) ((((a0).out).getD (x7).toNat default).b).length (((((a0).out).getD (x7).toNat default).b).map (Value.int .u8)), row 3 1 (.slice ra26 (x10 ++ ([(((a0).out).getD (x7).toNat default).n] : List Int)).length rc27) (x10 ++ ([(((a0).out).getD (x7).toNat default).n] : List Int)).length ((x10 ++ ([(((a0).out).getD (x7).toNat default).n] : List Int)).map (Value.int .i64)), blk b0 (#[Value.int .i64 ((a0).m), Value.int .i64 ((a0).window), Value.int .i64 ((a0).queue), Value.int .i64 ((a0).next), Value.slice (some ⟨eb15, eo16, none⟩) ((a0).out).length c4_p0, Value.slice a5_p0 ((a0).wait).length c5_p0]) 61, row 63 2 (.slice (some ⟨eb15, eo16, none⟩) ((a0).out).length c4_p0) ((a0).out).length d4_p0, tie signalmanref6_message.El d4_p0 ((a0).out), row 27 1 (.slice a5_p0 ((a0).wait).length c5_p0) ((a0).wait).length d5_p0, tie (El.sl (El.int .u8)) d5_p0 ((a0).wait), R] w0 w := HS
      refine W.rd (X.assign rfl) rfl rfl rfl ?_
      refine W.nil ?_
      refine At.blockEnd ?_
      refine At.next ?_
      refine V.keep [(0, Value.pointer (some ⟨b0, 0, none⟩)), (3, Value.slice ra26 (x10 ++ ([(((a0).out).getD (x7).toNat default).n] : List Int)).length rc27), (4, Value.int .i64 (x7))] ⟨rfl, rfl, rfl, trivial⟩ ?_
      refine V.region ?_
      refine W.rd (X.move rfl) rfl rfl rfl ?_
      refine W.rd (X.add rfl rfl) rfl rfl rfl ?_
      refine W.rd (X.assign rfl) rfl rfl rfl ?_
      refine W.nil ?_
      replace HS := HS.sel [2, 3, 4, 5, 6, 7, 8] [0, 1] (by kernel_rfl)
      exact At.round kq11 (by omega) (w64 (x7 + 1), ra26, rc27, x10 ++ ([(((a0).out).getD (x7).toNat default).n] : List Int)) ⟨rfl, rfl, rfl, trivial⟩ ⟨HS, H, by omega⟩
    · replace H := ite_f c13 H
      refine V.condF (sb (decide_eq_false c13)) ?_
      refine V.exit ?_
      refine At.thenExit ?_
      refine At.thenExit ?_
      refine At.blockExit ?_
      refine At.next ?_
      refine V.keep [(3, Value.slice ra8 (x10).length rc9)] ⟨rfl, trivial⟩ ?_
      refine V.seq ?_
      refine V.region ?_
      refine W.rd (X.move rfl) rfl rfl rfl ?_
      refine W.rd (X.assign rfl) rfl rfl rfl ?_
      refine W.nil ?_
      refine At.next ?_
      refine V.keep [(2, Value.slice ra8 (x10).length rc9)] ⟨rfl, trivial⟩ ?_
      refine V.ret ?_
      cases H
      exact At.ret1 rfl rfl ⟨_, rfl, ra8, rc9, rfl, HS⟩

/-! ### signalman/signalmanref6.SameInts: function 24 -/
mutual
def signalmanref6_SameInts.l0 : Nat → (List Int) → (List Int) → Int → Option (Bool)
  | 0, _, _, _ => none
  | k + 1, a0, a1, x2 => (if x2 < ((a0).length : Int) then (if 0 ≤ x2 ∧ x2 < ((a0).length : Int) then (if 0 ≤ x2 ∧ x2 < ((a1).length : Int) then (if ((a0).getD (x2).toNat 0) = ((a1).getD (x2).toNat 0) then (signalmanref6_SameInts.l0 k a0 a1 (w64 (x2 + 1))) else some (false)) else none) else none) else some (true))
end
def signalmanref6_SameInts.f (k : Nat) (a0 : List Int) (a1 : List Int) : Option (Bool) := (if ((a0).length : Int) = ((a1).length : Int) then (signalmanref6_SameInts.l0 k a0 a1 0) else some (false))
set_option maxRecDepth 100000 in
set_option maxHeartbeats 4000000 in
theorem signalmanref6_SameInts.calls (k : Nat) (a0 : List Int) (a1 : List Int) (R : As) (w0 w : World) (sa0 : Option Addr) (sc0 : Nat) (sa1 : Option Addr) (sc1 : Nat) (r : Bool) (hr0 : rdC R 1 (.slice sa0 (a0).length sc0) (a0).length ((a0).map (Value.int .i64))) (hr1 : rdC R 1 (.slice sa1 (a1).length sc1) (a1).length ((a1).map (Value.int .i64))) (H : signalmanref6_SameInts.f k a0 a1 = some r) (HS : Sep.St [R] w0 w) : Calls Try.prog 24 #[Value.slice sa0 (a0).length sc0, Value.slice sa1 (a1).length sc1] w (Ret fun u w => u = Value.bool (r) ∧ Sep.St [R] w0 w) := by
  unfold signalmanref6_SameInts.f at H
  refine calls_enter Try.func24 rfl rfl ?_
  have H : _ = some r := H
  refine V.seq ?_
  refine V.region ?_
  refine W.rd (X.assign rfl) rfl rfl rfl ?_
  refine W.nil ?_
  refine At.next ?_
  refine V.keep [(0, Value.slice sa0 (a0).length sc0), (1, Value.slice sa1 (a1).length sc1)] ⟨rfl, rfl, trivial⟩ ?_
  refine V.seq ?_
  refine V.seq ?_
  refine V.region ?_
  refine W.rd (X.move rfl) rfl rfl rfl ?_
  refine W.rd (X.lenSl Try.underlying31 rfl) rfl rfl rfl ?_
  refine W.rd (X.move rfl) rfl rfl rfl ?_
  refine W.rd (X.lenSl Try.underlying31 rfl) rfl rfl rfl ?_
  refine W.rd (X.cmp (!(decide (((a0).length : Int) = ((a1).length : Int)))) rfl rfl rfl rfl) rfl rfl rfl ?_
  refine W.nil ?_
  refine At.next ?_
  refine V.keep [(0, Value.slice sa0 (a0).length sc0), (1, Value.slice sa1 (a1).length sc1), (10, Value.bool (!(decide (((a0).length : Int) = ((a1).length : Int)))))] ⟨rfl, rfl, rfl, trivial⟩ ?_
  by_cases c1 : ((a0).length : Int) = ((a1).length : Int)
  · replace H := ite_t c1 H
    refine V.condF (sb (n_t (decide_eq_true c1))) ?_
    refine V.skip ?_
    refine At.next ?_
    refine V.keep [(0, Value.slice sa0 (a0).length sc0), (1, Value.slice sa1 (a1).length sc1)] ⟨rfl, rfl, trivial⟩ ?_
    refine V.seq ?_
    refine V.seq ?_
    refine V.region ?_
    refine W.rd (X.assign rfl) rfl rfl rfl ?_
    refine W.nil ?_
    refine At.next ?_
    refine V.keep [(0, Value.slice sa0 (a0).length sc0), (1, Value.slice sa1 (a1).length sc1), (5, Value.int .i64 (0))] ⟨rfl, rfl, rfl, trivial⟩ ?_
    refine V.block ?_
    refine V.loop (σ := Int) (fun kq (st : Int) w => match st with | x2 => Sep.St [R] w0 w ∧ signalmanref6_SameInts.l0 kq a0 a1 x2 = some r ∧ kq ≤ k) (fun st => match st with | x2 => [(0, Value.slice sa0 (a0).length sc0), (1, Value.slice sa1 (a1).length sc1), (5, Value.int .i64 (x2))]) k (0) ⟨rfl, rfl, rfl, trivial⟩ ⟨HS, H, Nat.le_refl _⟩ ?_
    rintro kq3 x2 w ⟨HS, H, hk4⟩
    cases kq3 with
    | zero => exact absurd H (by simp [signalmanref6_SameInts.l0])
    | succ kq3 =>
      simp only [signalmanref6_SameInts.l0] at H
      have HS : Sep.St [R] w0 w := HS
      refine V.seq ?_
      refine V.seq ?_
      refine V.region ?_
      refine W.rd (X.move rfl) rfl rfl rfl ?_
      refine W.rd (X.move rfl) rfl rfl rfl ?_
      refine W.rd (X.lenSl Try.underlying31 rfl) rfl rfl rfl ?_
      refine W.rd (X.cmp (decide (x2 < ((a0).length : Int))) rfl rfl rfl rfl) rfl rfl rfl ?_
      refine W.nil ?_
      refine At.next ?_
      refine V.keep [(0, Value.slice sa0 (a0).length sc0), (1, Value.slice sa1 (a1).length sc1), (5, Value.int .i64 (x2)), (14, Value.bool (decide (x2 < ((a0).length : Int))))] ⟨rfl, rfl, rfl, rfl, trivial⟩ ?_
      by_cases c5 : x2 < ((a0).length : Int)
      · replace H := ite_t c5 H
        refine V.condT (sb (decide_eq_true c5)) ?_
        refine V.skip ?_
        refine At.next ?_
        refine V.keep [(0, Value.slice sa0 (a0).length sc0), (1, Value.slice sa1 (a1).length sc1), (5, Value.int .i64 (x2))] ⟨rfl, rfl, rfl, trivial⟩ ?_
        refine V.seq ?_
        refine V.block ?_
        refine V.seq ?_
        obtain ⟨c6, H⟩ := ite_n H
        obtain ⟨eb7, eo8, hh⟩ := ((rdC.at 0 hr0 HS rfl)).some (by decide) c6.1 c6.2; subst hh
        obtain ⟨c9, H⟩ := ite_n H
        obtain ⟨eb10, eo11, hh⟩ := ((rdC.at 0 hr1 HS rfl)).some (by decide) c9.1 c9.2; subst hh
        refine V.draw (es := []) (bl := []) (f := [(17, Value.slice (some ⟨eb7, eo8, none⟩) (a0).length sc0), (18, Value.int .i64 (x2)), (19, Value.pointer (some ⟨eb7, eo8 + (x2).toNat * 1, none⟩)), (20, Value.int .i64 ((a0).getD (x2).toNat 0)), (21, Value.slice (some ⟨eb10, eo11, none⟩) (a1).length sc1), (22, Value.int .i64 (x2)), (23, Value.pointer (some ⟨eb10, eo11 + (x2).toNat * 1, none⟩)), (24, Value.int .i64 ((a1).getD (x2).toNat 0)), (25, Value.bool (!(decide (((a0).getD (x2).toNat 0) = ((a1).getD (x2).toNat 0)))))]) (fun w => Sep.St [R] w0 w) mo HS.drew rfl ?_
        refine T.fin [(0, Value.slice (some ⟨eb7, eo8, none⟩) (a0).length sc0), (1, Value.slice (some ⟨eb10, eo11, none⟩) (a1).length sc1), (5, Value.int .i64 (x2)), (25, Value.bool (!(decide (((a0).getD (x2).toNat 0) = ((a1).getD (x2).toNat 0)))))] rfl ⟨⟨_, Value.slice (some ⟨eb7, eo8, none⟩) (a0).length sc0, [(0, Value.slice (some ⟨eb7, eo8, none⟩) (a0).length sc0)], 17, rfl, rfl, ⟨.inl ⟨rfl, rfl⟩, trivial⟩, .run rfl (fun w HS => X.move rfl), rfl, rfl, rfl⟩, ⟨_, Value.int .i64 (x2), [(5, Value.int .i64 (x2))], 18, rfl, rfl, ⟨.inl ⟨rfl, rfl⟩, trivial⟩, .run rfl (fun w HS => X.move rfl), rfl, rfl, rfl⟩, ⟨_, Value.pointer (some ⟨eb7, eo8 + (x2).toNat * 1, none⟩), [(17, Value.slice (some ⟨eb7, eo8, none⟩) (a0).length sc0), (18, Value.int .i64 (x2))], 19, rfl, rfl, ⟨.inr ⟨rfl, rfl⟩, ⟨.inr ⟨rfl, rfl⟩, trivial⟩⟩, .run rfl (fun w HS => X.indexSl Try.underlying31 inf3 rfl rfl c6.1 c6.2), rfl, rfl, rfl⟩, ⟨_, Value.int .i64 ((a0).getD (x2).toNat 0), [(19, Value.pointer (some ⟨eb7, eo8 + (x2).toNat * 1, none⟩))], 20, rfl, rfl, ⟨.inr ⟨rfl, rfl⟩, trivial⟩, .run rfl (fun w HS => X.load Try.underlying3 rfl rfl (((rdC.at 0 hr0 HS rfl)).cellI c6.1 c6.2)), rfl, rfl, rfl⟩, ⟨_, Value.slice (some ⟨eb10, eo11, none⟩) (a1).length sc1, [(1, Value.slice (some ⟨eb10, eo11, none⟩) (a1).length sc1)], 21, rfl, rfl, ⟨.inl ⟨rfl, rfl⟩, trivial⟩, .run rfl (fun w HS => X.move rfl), rfl, rfl, rfl⟩, ⟨_, Value.int .i64 (x2), [(5, Value.int .i64 (x2))], 22, rfl, rfl, ⟨.inl ⟨rfl, rfl⟩, trivial⟩, .run rfl (fun w HS => X.move rfl), rfl, rfl, rfl⟩, ⟨_, Value.pointer (some ⟨eb10, eo11 + (x2).toNat * 1, none⟩), [(21, Value.slice (some ⟨eb10, eo11, none⟩) (a1).length sc1), (22, Value.int .i64 (x2))], 23, rfl, rfl, ⟨.inr ⟨rfl, rfl⟩, ⟨.inr ⟨rfl, rfl⟩, trivial⟩⟩, .run rfl (fun w HS => X.indexSl Try.underlying31 inf3 rfl rfl c9.1 c9.2), rfl, rfl, rfl⟩, ⟨_, Value.int .i64 ((a1).getD (x2).toNat 0), [(23, Value.pointer (some ⟨eb10, eo11 + (x2).toNat * 1, none⟩))], 24, rfl, rfl, ⟨.inr ⟨rfl, rfl⟩, trivial⟩, .run rfl (fun w HS => X.load Try.underlying3 rfl rfl (((rdC.at 0 hr1 HS rfl)).cellI c9.1 c9.2)), rfl, rfl, rfl⟩, ⟨_, Value.bool (!(decide (((a0).getD (x2).toNat 0) = ((a1).getD (x2).toNat 0)))), [(20, Value.int .i64 ((a0).getD (x2).toNat 0)), (24, Value.int .i64 ((a1).getD (x2).toNat 0))], 25, rfl, rfl, ⟨.inr ⟨rfl, rfl⟩, ⟨.inr ⟨rfl, rfl⟩, trivial⟩⟩, .run rfl (fun w HS => X.cmp (!(decide (((a0).getD (x2).toNat 0) = ((a1).getD (x2).toNat 0)))) rfl rfl rfl rfl), rfl, rfl, rfl⟩, trivial⟩ ⟨.inl ⟨rfl, rfl⟩, ⟨.inl ⟨rfl, rfl⟩, ⟨.inl ⟨rfl, rfl⟩, ⟨.inr ⟨rfl, rfl⟩, trivial⟩⟩⟩⟩ (fun w HS => ?_)
        have HS : Sep.St [R] w0 w := HS
        refine At.next ?_
        refine V.keep [(0, Value.slice (some ⟨eb7, eo8, none⟩) (a0).length sc0), (1, Value.slice (some ⟨eb10, eo11, none⟩) (a1).length sc1), (5, Value.int .i64 (x2)), (25, Value.bool (!(decide (((a0).getD (x2).toNat 0) = ((a1).getD (x2).toNat 0)))))] ⟨rfl, rfl, rfl, rfl, trivial⟩ ?_
        by_cases c12 : ((a0).getD (x2).toNat 0) = ((a1).getD (x2).toNat 0)
        · replace H := ite_t c12 H
          refine V.condF (sb (n_t (decide_eq_true c12))) ?_
          refine V.skip ?_
          refine At.blockEnd ?_
          refine At.next ?_
          refine V.keep [(0, Value.slice (some ⟨eb7, eo8, none⟩) (a0).length sc0), (1, Value.slice (some ⟨eb10, eo11, none⟩) (a1).length sc1), (5, Value.int .i64 (x2))] ⟨rfl, rfl, rfl, trivial⟩ ?_
          refine V.region ?_
          refine W.rd (X.move rfl) rfl rfl rfl ?_
          refine W.rd (X.add rfl rfl) rfl rfl rfl ?_
          refine W.rd (X.assign rfl) rfl rfl rfl ?_
          refine W.nil ?_
          exact At.round kq3 (by omega) (w64 (x2 + 1)) ⟨rfl, rfl, rfl, trivial⟩ ⟨HS, H, by omega⟩
        · replace H := ite_f c12 H
          refine V.condT (sb (n_f (decide_eq_false c12))) ?_
          refine V.seq ?_
          refine V.region ?_
          refine W.rd (X.assign rfl) rfl rfl rfl ?_
          refine W.nil ?_
          refine At.next ?_
          refine V.keep [(4, Value.bool (false))] ⟨rfl, trivial⟩ ?_
          refine V.ret ?_
          refine At.blockRet ?_
          refine At.thenRet ?_
          refine At.thenRet ?_
          refine At.blockRet ?_
          refine At.thenRet ?_
          cases H
          exact At.ret1 rfl rfl ⟨_, rfl, rfl, HS⟩
      · replace H := ite_f c5 H
        refine V.condF (sb (decide_eq_false c5)) ?_
        refine V.exit ?_
        refine At.thenExit ?_
        refine At.thenExit ?_
        refine At.blockExit ?_
        refine At.next ?_
        refine V.keep [] trivial ?_
        refine V.seq ?_
        refine V.region ?_
        refine W.rd (X.assign rfl) rfl rfl rfl ?_
        refine W.nil ?_
        refine At.next ?_
        refine V.keep [(4, Value.bool (true))] ⟨rfl, trivial⟩ ?_
        refine V.ret ?_
        cases H
        exact At.ret1 rfl rfl ⟨_, rfl, rfl, HS⟩
  · replace H := ite_f c1 H
    refine V.condT (sb (n_f (decide_eq_false c1))) ?_
    refine V.seq ?_
    refine V.region ?_
    refine W.rd (X.assign rfl) rfl rfl rfl ?_
    refine W.nil ?_
    refine At.next ?_
    refine V.keep [(4, Value.bool (false))] ⟨rfl, trivial⟩ ?_
    refine V.ret ?_
    refine At.thenRet ?_
    cases H
    exact At.ret1 rfl rfl ⟨_, rfl, rfl, HS⟩

/-! ### (*signalman/backlog.Log).Len: function 12 -/
def backlog_Log_Len.f (a0 : backlog_Log) : Option (Int) := some ((((a0).l).length : Int))
set_option maxRecDepth 100000 in
set_option maxHeartbeats 4000000 in
theorem backlog_Log_Len.calls (a0 : backlog_Log) (R : As) (w0 w : World) (b0 : Nat) (a5_p0 : Option Addr) (c5_p0 : Nat) (d5_p0 : List Value) (r : Int)  (H : backlog_Log_Len.f a0 = some r) (HS : Sep.St [blk b0 (#[Value.int .i64 ((a0).m), Value.int .i64 ((a0).window), Value.int .i64 ((a0).queue), Value.int .i64 ((a0).first), Value.int .i64 ((a0).out), Value.slice a5_p0 ((a0).l).length c5_p0]) 54, row 27 1 (.slice a5_p0 ((a0).l).length c5_p0) ((a0).l).length d5_p0, tie (El.sl (El.int .u8)) d5_p0 ((a0).l), R] w0 w) : Calls Try.prog 12 #[Value.pointer (some ⟨b0, 0, none⟩)] w (Ret fun u w => u = Value.int .i64 (r) ∧ Sep.St [blk b0 (#[Value.int .i64 ((a0).m), Value.int .i64 ((a0).window), Value.int .i64 ((a0).queue), Value.int .i64 ((a0).first), Value.int .i64 ((a0).out), Value.slice a5_p0 ((a0).l).length c5_p0]) 54, row 27 1 (.slice a5_p0 ((a0).l).length c5_p0) ((a0).l).length d5_p0, tie (El.sl (El.int .u8)) d5_p0 ((a0).l), R] w0 w) := by
  unfold backlog_Log_Len.f at H
  refine calls_enter Try.func12 rfl rfl ?_
  have H : _ = some r := H
  refine V.seq ?_
  refine V.region ?_
  refine W.rd (X.assign rfl) rfl rfl rfl ?_
  refine W.nil ?_
  refine At.next ?_
  refine V.keep [(0, Value.pointer (some ⟨b0, 0, none⟩))] ⟨rfl, trivial⟩ ?_
  refine V.seq ?_
  refine V.region ?_
  refine W.rd (X.move rfl) rfl rfl rfl ?_
  refine W.rd (X.nilCheck rfl) rfl rfl rfl ?_
  refine W.rd (X.fieldAddr 5 fo54_5 rfl) rfl rfl rfl ?_
  refine W.rd (X.loadAt 0 HS rfl Try.underlying52 rfl rfl rfl) rfl rfl rfl ?_
  refine W.rd (X.lenSl Try.underlying52 rfl) rfl rfl rfl ?_
  refine W.rd (X.assign rfl) rfl rfl rfl ?_
  refine W.nil ?_
  refine At.next ?_
  refine V.keep [(2, Value.int .i64 ((((a0).l).length : Int)))] ⟨rfl, trivial⟩ ?_
  refine V.ret ?_
  cases H
  exact At.ret1 rfl rfl ⟨_, rfl, rfl, HS⟩

structure signalmanlaw13_Act where
  Way : Int
  N : Int
  B : List Int
deriving DecidableEq, Inhabited

def signalmanlaw13_Act.El : El signalmanlaw13_Act := El.iso (El.prod (El.int .i64) (El.prod (El.int .i64) (El.prod (El.sl (El.int .u8)) (El.unit)))) (fun x => (x.Way, (x.N, (x.B, ()))))
theorem signalmanlaw13_Act.unpack {c : List Value} {x : signalmanlaw13_Act} {L : List As} {w0 w : World} (hs : Sep.St (signalmanlaw13_Act.El.p c x :: L) w0 w) : ∃ a2 : Option Addr, ∃ m2 : Nat, c = [Value.int .i64 (x.Way), Value.int .i64 (x.N), Value.slice a2 (x.B).length m2] ∧ Sep.St (fsl 1 (.slice a2 (x.B).length m2) (x.B).length ((x.B).map (Value.int .u8)) :: L) w0 w := by
  have hs : Sep.St ((El.prod (El.int .i64) (El.prod (El.int .i64) (El.prod (El.sl (El.int .u8)) (El.unit)))).p c (x.Way, (x.N, (x.B, ()))) :: L) w0 w := hs
  obtain ⟨c0, r0, e0, hs⟩ := St.prod_open hs
  have hs : Sep.St ((El.int .i64).p c0 x.Way :: (El.prod (El.int .i64) (El.prod (El.sl (El.int .u8)) (El.unit))).p r0 (x.N, (x.B, ())) :: L) w0 w := hs
  obtain ⟨q0, hs⟩ := St.int_open hs
  have hs : Sep.St ((El.prod (El.int .i64) (El.prod (El.sl (El.int .u8)) (El.unit))).p r0 (x.N, (x.B, ())) :: L) w0 w := hs
  obtain ⟨c1, r1, e1, hs⟩ := St.prod_open hs
  have hs : Sep.St ((El.int .i64).p c1 x.N :: (El.prod (El.sl (El.int .u8)) (El.unit)).p r1 (x.B, ()) :: L) w0 w := hs
  obtain ⟨q1, hs⟩ := St.int_open hs
  have hs : Sep.St ((El.prod (El.sl (El.int .u8)) (El.unit)).p r1 (x.B, ()) :: L) w0 w := hs
  obtain ⟨c2, r2, e2, hs⟩ := St.prod_open hs
  have hs : Sep.St ((El.sl (El.int .u8)).p c2 x.B :: (El.unit).p r2 () :: L) w0 w := hs
  obtain ⟨a2, m2, q2, hs⟩ := St.sl_openF (Value.int .u8) (fun t => tie_int t) hs
  have hs : Sep.St (fsl 1 (.slice a2 (x.B).length m2) (x.B).length ((x.B).map (Value.int .u8)) :: (El.unit).p r2 () :: L) w0 w := hs
  replace hs := hs.front 1 rfl
  have hs : Sep.St ((El.unit).p r2 () :: fsl 1 (.slice a2 (x.B).length m2) (x.B).length ((x.B).map (Value.int .u8)) :: L) w0 w := hs
  obtain ⟨qu, hs⟩ := St.unit_open hs
  exact ⟨a2, m2, by rw [e0, q0, e1, q1, e2, q2, qu]; rfl, hs⟩
theorem signalmanlaw13_Act.pack {a2 : Option Addr} {m2 : Nat} {x : signalmanlaw13_Act} {L : List As} {w0 w : World} (hs : Sep.St (fsl 1 (.slice a2 (x.B).length m2) (x.B).length ((x.B).map (Value.int .u8)) :: L) w0 w) : Sep.St (signalmanlaw13_Act.El.p [Value.int .i64 (x.Way), Value.int .i64 (x.N), Value.slice a2 (x.B).length m2] x :: L) w0 w := by
  have h1 := St.join (m := [fsl 1 (.slice a2 (x.B).length m2) (x.B).length ((x.B).map (Value.int .u8))]) hs
  exact h1.mono fun h hh => ⟨[Value.int .i64 (x.Way)], [Value.int .i64 (x.N), Value.slice a2 (x.B).length m2], rfl, rfl, ⟨[Value.int .i64 (x.N)], [Value.slice a2 (x.B).length m2], rfl, rfl, ⟨[Value.slice a2 (x.B).length m2], [], rfl, ⟨_, _, rfl, Sp.fsl 0 hh rfl, int_tie⟩, rfl⟩⟩⟩

def signalmanlaw13_Act.at (b : Nat) (x : signalmanlaw13_Act) : As := fun h => (True) ∧ ∃ a2 : Option Addr, ∃ c2 : Nat, Sp [blk b (#[Value.int .i64 ((x.Way)), Value.int .i64 ((x.N)), Value.slice a2 ((x.B)).length c2]) 44, fsl 1 (.slice a2 ((x.B)).length c2) ((x.B)).length (((x.B)).map (Value.int .u8))] h
theorem signalmanlaw13_Act.open {b : Nat} {x : signalmanlaw13_Act} {L : List As} {w0 w : World} (hs : Sep.St (signalmanlaw13_Act.at b x :: L) w0 w) : ∃ a2 : Option Addr, ∃ c2 : Nat, (True) ∧ Sep.St (blk b (#[Value.int .i64 ((x.Way)), Value.int .i64 ((x.N)), Value.slice a2 ((x.B)).length c2]) 44 :: fsl 1 (.slice a2 ((x.B)).length c2) ((x.B)).length (((x.B)).map (Value.int .u8)) :: L) w0 w := by
  have h1 := St.pure.1 (show St ((fun h => (True) ∧ (fun h => ∃ a2 : Option Addr, ∃ c2 : Nat, Sp [blk b (#[Value.int .i64 ((x.Way)), Value.int .i64 ((x.N)), Value.slice a2 ((x.B)).length c2]) 44, fsl 1 (.slice a2 ((x.B)).length c2) ((x.B)).length (((x.B)).map (Value.int .u8))] h) h) :: L) w0 w from hs)
  obtain ⟨hi, hs⟩ := h1
  obtain ⟨a2, hs⟩ := St.ex.1 (show St ((fun h => ∃ a2 : Option Addr, (fun h => ∃ c2 : Nat, Sp [blk b (#[Value.int .i64 ((x.Way)), Value.int .i64 ((x.N)), Value.slice a2 ((x.B)).length c2]) 44, fsl 1 (.slice a2 ((x.B)).length c2) ((x.B)).length (((x.B)).map (Value.int .u8))] h) h) :: L) w0 w from hs)
  obtain ⟨c2, hs⟩ := St.ex.1 (show St ((fun h => ∃ c2 : Nat, (fun h => Sp [blk b (#[Value.int .i64 ((x.Way)), Value.int .i64 ((x.N)), Value.slice a2 ((x.B)).length c2]) 44, fsl 1 (.slice a2 ((x.B)).length c2) ((x.B)).length (((x.B)).map (Value.int .u8))] h) h) :: L) w0 w from hs)
  exact ⟨a2, c2, hi, St.open (m := [blk b (#[Value.int .i64 ((x.Way)), Value.int .i64 ((x.N)), Value.slice a2 ((x.B)).length c2]) 44, fsl 1 (.slice a2 ((x.B)).length c2) ((x.B)).length (((x.B)).map (Value.int .u8))]) hs⟩
theorem signalmanlaw13_Act.close {b : Nat} (x : signalmanlaw13_Act) {a2 : Option Addr} {c2 : Nat} {L : List As} {w0 w : World} (hi : True) (hs : Sep.St (blk b (#[Value.int .i64 ((x.Way)), Value.int .i64 ((x.N)), Value.slice a2 ((x.B)).length c2]) 44 :: fsl 1 (.slice a2 ((x.B)).length c2) ((x.B)).length (((x.B)).map (Value.int .u8)) :: L) w0 w) : Sep.St (signalmanlaw13_Act.at b x :: L) w0 w := by
  have h2 := St.join (m := [blk b (#[Value.int .i64 ((x.Way)), Value.int .i64 ((x.N)), Value.slice a2 ((x.B)).length c2]) 44, fsl 1 (.slice a2 ((x.B)).length c2) ((x.B)).length (((x.B)).map (Value.int .u8))]) hs
  exact h2.mono fun h hh => ⟨hi, _, _, hh⟩
end Go.Proofs.Ytdnfojgnbhcijaa
