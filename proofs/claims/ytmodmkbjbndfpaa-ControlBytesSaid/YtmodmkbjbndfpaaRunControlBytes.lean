/- ControlBytes: the functions that its law reaches, as plain functions, and that the machine's calls come to what these say. Conditions: those that stand at each. -/
import Derived.Test.YtmodmkbjbndfpaaRunControlBytesP1
set_option linter.all false
namespace Go.Proofs.Ytmodmkbjbndfpaa
open Go.RowKit Go.Proofs.Ytmodmkbjbndfpaa.Sep Go.Proofs.Ytmodmkbjbndfpaa.Walk
/-! ### signalman/control.Read: function 13 -/
mutual
def control_Read.j0 (k : Nat) (a0 : List Int) (a1 : Int) (x20 : api_Ctl) : Option (api_Ctl × Int × Int) := ((control_put.f ([] : List Int) 0 a1).bind fun t21 => (if ((a0).length : Int) < (w64 (2 * ((t21).length : Int))) then some (({ Kind := 0, Ns := 0, Nr := 0, Poll := false } : api_Ctl), 0, 3) else (if 0 ≤ (0 : Int) ∧ (0 : Int) ≤ ((t21).length : Int) ∧ ((t21).length : Int) ≤ ((a0).length : Int) then (if 0 ≤ ((t21).length : Int) ∧ ((t21).length : Int) ≤ w64 (2 * ((t21).length : Int)) ∧ w64 (2 * ((t21).length : Int)) ≤ ((a0).length : Int) then ((control_number.f k (cut a0 (0 : Int) ((t21).length : Int))).bind fun t30 => ((control_number.f k (cut a0 ((t21).length : Int) (w64 (2 * ((t21).length : Int))))).bind fun t32 => (if ((x20).Kind) = 0 then some (({ Kind := (x20).Kind, Ns := w64 ((t30).tdiv (2)), Nr := w64 ((t32).tdiv (2)), Poll := decide ((iand .i64 (t32) (1)) = 1) } : api_Ctl), w64 (2 * ((t21).length : Int)), 0) else (if t30 = (w64 ((a0).getD ((0 : Int)).toNat 0)) then some (({ Kind := (x20).Kind, Ns := (x20).Ns, Nr := w64 ((t32).tdiv (2)), Poll := decide ((iand .i64 (t32) (1)) = 1) } : api_Ctl), w64 (2 * ((t21).length : Int)), 0) else some (({ Kind := 0, Ns := 0, Nr := 0, Poll := false } : api_Ctl), 0, 2))))) else none) else none)))
end
def control_Read.f (k : Nat) (a0 : List Int) (a1 : Int) : Option (api_Ctl × Int × Int) := ((control_modulus.f a1).bind fun t3 => (if t3 = true then (if ((a0).length : Int) = 0 then some (({ Kind := 0, Ns := 0, Nr := 0, Poll := false } : api_Ctl), 0, 3) else (if 0 ≤ (0 : Int) ∧ (0 : Int) < ((a0).length : Int) then ((control_plain.f ).bind fun t11 => ((slices_Index_Sbytebyte.f k t11 (iandn .u8 ((a0).getD ((0 : Int)).toNat 0) (16))).bind fun t13 => (if t13 ≥ 0 then some (({ Kind := w64 (3 + t13), Ns := 0, Nr := 0, Poll := !(decide ((iand .u8 ((a0).getD ((0 : Int)).toNat 0) (16)) = 0)) } : api_Ctl), 1, 0) else (if ((a0).getD ((0 : Int)).toNat 0) = 1 then (control_Read.j0 k a0 a1 ({ Kind := 1, Ns := 0, Nr := 0, Poll := false } : api_Ctl)) else (if ((a0).getD ((0 : Int)).toNat 0) = 9 then (control_Read.j0 k a0 a1 ({ Kind := 2, Ns := 0, Nr := 0, Poll := false } : api_Ctl)) else (if (iand .u8 ((a0).getD ((0 : Int)).toNat 0) (1)) = 1 then some (({ Kind := 0, Ns := 0, Nr := 0, Poll := false } : api_Ctl), 0, 2) else (control_Read.j0 k a0 a1 ({ Kind := 0, Ns := 0, Nr := 0, Poll := false } : api_Ctl)))))))) else none)) else some (({ Kind := 0, Ns := 0, Nr := 0, Poll := false } : api_Ctl), 0, 1)))
set_option maxRecDepth 100000 in
set_option maxHeartbeats 4000000 in
theorem control_Read.calls (k : Nat) (a0 : List Int) (a1 : Int) (R : As) (w0 w : World) (sa0 : Option Addr) (sc0 : Nat) (r : api_Ctl × Int × Int) (hr0 : rdC R 1 (.slice sa0 (a0).length sc0) (a0).length ((a0).map (Value.int .u8))) (H : control_Read.f k a0 a1 = some r) (HS : Sep.St [R] w0 w) : Calls Try.prog 13 #[Value.slice sa0 (a0).length sc0, Value.int .i64 (a1)] w (Ret fun u w => u = Value.tuple #[Value.agg #[Value.int .i64 ((r.1).Kind), Value.int .i64 ((r.1).Ns), Value.int .i64 ((r.1).Nr), Value.bool ((r.1).Poll)], Value.int .i64 (r.2.1), Value.int .i64 (r.2.2)] ∧ Sep.St [R] w0 w) := by
  unfold control_Read.f at H
  refine calls_enter Try.func13 rfl rfl ?_
  have H : _ = some r := H
  refine V.seq ?_
  refine V.region ?_
  refine W.ev (Y.alloc (z := Value.agg (#[Value.int .i64 (0), Value.int .i64 (0), Value.int .i64 (0), Value.bool (false)])) HS ze23) rfl rfl rfl ?_
  rintro _ w ⟨nb1, rfl, HS⟩
  have HS : Sep.St [blk nb1 (#[Value.int .i64 (0), Value.int .i64 (0), Value.int .i64 (0), Value.bool (false)]) 23, R] w0 w := HS
  refine W.rd (X.assign rfl) rfl rfl rfl ?_
  refine W.rd (X.assign rfl) rfl rfl rfl ?_
  refine W.nil ?_
  refine At.next ?_
  refine V.keep [(0, Value.slice sa0 (a0).length sc0), (1, Value.int .i64 (a1)), (4, Value.pointer (some ⟨nb1, 0, none⟩))] ⟨rfl, rfl, rfl, trivial⟩ ?_
  refine V.seq ?_
  refine V.seq ?_
  refine V.region ?_
  refine W.rd (X.move rfl) rfl rfl rfl ?_
  obtain ⟨t3, A4, H⟩ := bind_s H
  refine W.ev (Y.call Try.func19 (by kernel_rfl) rfl (vs := [Value.int .i64 (a1)]) rfl (control_modulus.calls a1 _ w0 _  t3  A4 (Sep.St.tailJoin (m := []) (r := [blk nb1 (#[Value.int .i64 (0), Value.int .i64 (0), Value.int .i64 (0), Value.bool (false)]) 23, R]) HS))) rfl rfl rfl ?_
  rintro _ w ⟨rfl, HS⟩
  replace HS := Sep.St.tailOpen (m := []) (r := [blk nb1 (#[Value.int .i64 (0), Value.int .i64 (0), Value.int .i64 (0), Value.bool (false)]) 23, R]) HS
  have HS : Sep.St [blk nb1 (#[Value.int .i64 (0), Value.int .i64 (0), Value.int .i64 (0), Value.bool (false)]) 23, R] w0 w := HS
  refine W.rd (X.not rfl) rfl rfl rfl ?_
  refine W.nil ?_
  refine At.next ?_
  refine V.keep [(0, Value.slice sa0 (a0).length sc0), (1, Value.int .i64 (a1)), (4, Value.pointer (some ⟨nb1, 0, none⟩)), (14, Value.bool (!(t3)))] ⟨rfl, rfl, rfl, rfl, trivial⟩ ?_
  by_cases c5 : t3 = true
  · replace H := ite_t c5 H
    refine V.condF (sb (n_t c5)) ?_
    refine V.skip ?_
    refine At.next ?_
    refine V.keep [(0, Value.slice sa0 (a0).length sc0), (1, Value.int .i64 (a1)), (4, Value.pointer (some ⟨nb1, 0, none⟩))] ⟨rfl, rfl, rfl, trivial⟩ ?_
    refine V.seq ?_
    refine V.seq ?_
    refine V.region ?_
    refine W.rd (X.move rfl) rfl rfl rfl ?_
    refine W.rd (X.lenSl Try.underlying26 rfl) rfl rfl rfl ?_
    refine W.rd (X.cmp (decide (((a0).length : Int) = 0)) rfl rfl rfl rfl) rfl rfl rfl ?_
    refine W.nil ?_
    refine At.next ?_
    refine V.keep [(0, Value.slice sa0 (a0).length sc0), (1, Value.int .i64 (a1)), (4, Value.pointer (some ⟨nb1, 0, none⟩)), (18, Value.bool (decide (((a0).length : Int) = 0)))] ⟨rfl, rfl, rfl, rfl, trivial⟩ ?_
    by_cases c6 : ((a0).length : Int) = 0
    · replace H := ite_t c6 H
      refine V.condT (sb (decide_eq_true c6)) ?_
      refine V.seq ?_
      refine V.region ?_
      refine W.rd (X.build (vs := #[]) (v := Value.agg #[Value.int .i64 (0), Value.int .i64 (0), Value.int .i64 (0), Value.bool (false)]) (fun a ha => by simp only [List.map_toArray, List.map_cons, List.map_nil]; try rfl) (fun _ => by kernel_rfl)) rfl rfl rfl ?_
      refine W.ev_none (Y.storeSt (c' := #[Value.int .i64 (0), Value.int .i64 (0), Value.int .i64 (0), Value.bool (false)]) 0 [Value.int .i64 (0), Value.int .i64 (0), Value.int .i64 (0), Value.bool (false)] HS rfl inf23 rfl rfl rfl rfl rfl rfl) rfl rfl ?_
      rintro _ w HS
      have HS : Sep.St [blk nb1 (#[Value.int .i64 (0), Value.int .i64 (0), Value.int .i64 (0), Value.bool (false)]) 23, R] w0 w := HS
      refine W.rd (X.assign rfl) rfl rfl rfl ?_
      refine W.rd (X.assign rfl) rfl rfl rfl ?_
      refine W.nil ?_
      refine At.next ?_
      refine V.keep [(4, Value.pointer (some ⟨nb1, 0, none⟩)), (5, Value.int .i64 (0)), (6, Value.int .i64 (3))] ⟨rfl, rfl, rfl, trivial⟩ ?_
      refine V.ret ?_
      refine At.thenRet ?_
      have hv7 := run_loadSt (P := Try.prog) (p := 0) 0 [Value.int .i64 (0), Value.int .i64 (0), Value.int .i64 (0), Value.bool (false)] HS rfl Try.underlying23 rfl inf23 rfl
      replace HS := HS.sel [1] [0] rfl
      cases H
      exact At.retv3 rfl ⟨_, rfl, hv7⟩ rfl rfl ⟨_, rfl, rfl, HS⟩
    · replace H := ite_f c6 H
      refine V.condF (sb (decide_eq_false c6)) ?_
      refine V.skip ?_
      refine At.next ?_
      refine V.keep [(0, Value.slice sa0 (a0).length sc0), (1, Value.int .i64 (a1)), (4, Value.pointer (some ⟨nb1, 0, none⟩))] ⟨rfl, rfl, rfl, trivial⟩ ?_
      refine V.seq ?_
      refine V.seq ?_
      obtain ⟨c8, H⟩ := ite_n H
      obtain ⟨eb9, eo10, hh⟩ := ((rdC.at 1 hr0 HS rfl)).some (by decide) c8.1 c8.2; subst hh
      refine V.draw (es := [0, 5]) (bl := [6]) (f := [(21, Value.slice (some ⟨eb9, eo10, none⟩) (a0).length sc0), (22, Value.pointer (some ⟨eb9, eo10 + ((0 : Int)).toNat * 1, none⟩)), (23, Value.int .u8 ((a0).getD ((0 : Int)).toNat 0)), (24, Value.int .u8 (iandn .u8 ((a0).getD ((0 : Int)).toNat 0) (16)))]) (fun w => Sep.St [blk nb1 (#[Value.int .i64 (0), Value.int .i64 (0), Value.int .i64 (0), Value.bool (false)]) 23, R] w0 w) mo HS.drew rfl ?_
      refine T.event _ [] rfl rfl ⟨⟨_, Value.slice (some ⟨eb9, eo10, none⟩) (a0).length sc0, [(0, Value.slice (some ⟨eb9, eo10, none⟩) (a0).length sc0)], 21, rfl, rfl, ⟨.inl ⟨rfl, rfl⟩, trivial⟩, .run rfl (fun w HS => X.move rfl), rfl, rfl, rfl⟩, ⟨_, Value.pointer (some ⟨eb9, eo10 + ((0 : Int)).toNat * 1, none⟩), [(21, Value.slice (some ⟨eb9, eo10, none⟩) (a0).length sc0)], 22, rfl, rfl, ⟨.inr ⟨rfl, rfl⟩, trivial⟩, .run rfl (fun w HS => X.indexSl Try.underlying26 inf5 rfl rfl c8.1 c8.2), rfl, rfl, rfl⟩, ⟨_, Value.int .u8 ((a0).getD ((0 : Int)).toNat 0), [(22, Value.pointer (some ⟨eb9, eo10 + ((0 : Int)).toNat * 1, none⟩))], 23, rfl, rfl, ⟨.inr ⟨rfl, rfl⟩, trivial⟩, .run rfl (fun w HS => X.load Try.underlying5 rfl rfl (((rdC.at 1 hr0 HS rfl)).cellI c8.1 c8.2)), rfl, rfl, rfl⟩, ⟨_, Value.int .u8 (iandn .u8 ((a0).getD ((0 : Int)).toNat 0) (16)), [(23, Value.int .u8 ((a0).getD ((0 : Int)).toNat 0))], 24, rfl, rfl, ⟨.inr ⟨rfl, rfl⟩, trivial⟩, .run rfl (fun w HS => X.andNot rfl rfl), rfl, rfl, rfl⟩, trivial⟩ rfl trivial (Or.inl rfl) (by intro d hd; cases hd; exact ⟨by decide, rfl, rfl⟩) [6] [] rfl rfl (fun w HS => ?_)
      have HS : Sep.St [blk nb1 (#[Value.int .i64 (0), Value.int .i64 (0), Value.int .i64 (0), Value.bool (false)]) 23, R] w0 w := HS
      obtain ⟨t11, A12, H⟩ := bind_s H
      refine ⟨_, Y.call Try.func18 (by kernel_rfl) rfl (vs := []) rfl (control_plain.calls  _ w0 _  t11  A12 (Sep.St.tailJoin (m := []) (r := [blk nb1 (#[Value.int .i64 (0), Value.int .i64 (0), Value.int .i64 (0), Value.bool (false)]) 23, R]) HS)), ?_⟩
      rintro _ w ⟨at11_0, ct11_0, rfl, HS⟩
      replace HS := Sep.St.tailOpen (m := [row 5 1 (.slice at11_0 (t11).length ct11_0) (t11).length ((t11).map (Value.int .u8))]) (r := [blk nb1 (#[Value.int .i64 (0), Value.int .i64 (0), Value.int .i64 (0), Value.bool (false)]) 23, R]) HS
      have HS : Sep.St [row 5 1 (.slice at11_0 (t11).length ct11_0) (t11).length ((t11).map (Value.int .u8)), blk nb1 (#[Value.int .i64 (0), Value.int .i64 (0), Value.int .i64 (0), Value.bool (false)]) 23, R] w0 w := HS
      refine ⟨[(20, Value.slice at11_0 (t11).length ct11_0)], fun w => Sep.St [row 5 1 (.slice at11_0 (t11).length ct11_0) (t11).length ((t11).map (Value.int .u8)), blk nb1 (#[Value.int .i64 (0), Value.int .i64 (0), Value.int .i64 (0), Value.bool (false)]) 23, R] w0 w, ⟨.inl ⟨rfl, rfl⟩, trivial⟩, ?_, HS⟩
      refine T.event _ [(20, Value.slice at11_0 (t11).length ct11_0), (24, Value.int .u8 (iandn .u8 ((a0).getD ((0 : Int)).toNat 0) (16)))] rfl rfl ⟨⟨_, Value.slice (some ⟨eb9, eo10, none⟩) (a0).length sc0, [(0, Value.slice (some ⟨eb9, eo10, none⟩) (a0).length sc0)], 21, rfl, rfl, ⟨.inl ⟨rfl, rfl⟩, trivial⟩, .run rfl (fun w HS => X.move rfl), rfl, rfl, rfl⟩, ⟨_, Value.pointer (some ⟨eb9, eo10 + ((0 : Int)).toNat * 1, none⟩), [(21, Value.slice (some ⟨eb9, eo10, none⟩) (a0).length sc0)], 22, rfl, rfl, ⟨.inr ⟨rfl, rfl⟩, trivial⟩, .run rfl (fun w HS => X.indexSl Try.underlying26 inf5 rfl rfl c8.1 c8.2), rfl, rfl, rfl⟩, ⟨_, Value.int .u8 ((a0).getD ((0 : Int)).toNat 0), [(22, Value.pointer (some ⟨eb9, eo10 + ((0 : Int)).toNat * 1, none⟩))], 23, rfl, rfl, ⟨.inr ⟨rfl, rfl⟩, trivial⟩, .run rfl (fun w HS => X.load Try.underlying5 rfl rfl (((rdC.at 2 hr0 HS rfl)).cellI c8.1 c8.2)), rfl, rfl, rfl⟩, ⟨_, Value.int .u8 (iandn .u8 ((a0).getD ((0 : Int)).toNat 0) (16)), [(23, Value.int .u8 ((a0).getD ((0 : Int)).toNat 0))], 24, rfl, rfl, ⟨.inr ⟨rfl, rfl⟩, trivial⟩, .run rfl (fun w HS => X.andNot rfl rfl), rfl, rfl, rfl⟩, trivial⟩ rfl ⟨.inr ⟨rfl, rfl⟩, ⟨.inr ⟨rfl, rfl⟩, trivial⟩⟩ (Or.inl rfl) (by intro d hd; cases hd; exact ⟨by decide, rfl, rfl⟩) [] [1, 2, 3, 4] rfl rfl (fun w HS => ?_)
      have HS : Sep.St [row 5 1 (.slice at11_0 (t11).length ct11_0) (t11).length ((t11).map (Value.int .u8)), blk nb1 (#[Value.int .i64 (0), Value.int .i64 (0), Value.int .i64 (0), Value.bool (false)]) 23, R] w0 w := HS
      obtain ⟨t13, A14, H⟩ := bind_s H
      refine ⟨_, Y.call Try.func24 (by kernel_rfl) rfl (vs := [Value.slice at11_0 (t11).length ct11_0, Value.int .u8 (iandn .u8 ((a0).getD ((0 : Int)).toNat 0) (16))]) rfl (slices_Index_Sbytebyte.calls k t11 (iandn .u8 ((a0).getD ((0 : Int)).toNat 0) (16)) _ w0 _ at11_0 ct11_0 t13 (rdC.part 0 row_rd rfl) A14 (Sep.St.tailJoin (m := []) (r := [row 5 1 (.slice at11_0 (t11).length ct11_0) (t11).length ((t11).map (Value.int .u8)), blk nb1 (#[Value.int .i64 (0), Value.int .i64 (0), Value.int .i64 (0), Value.bool (false)]) 23, R]) HS)), ?_⟩
      rintro _ w ⟨rfl, HS⟩
      replace HS := Sep.St.tailOpen (m := []) (r := [row 5 1 (.slice at11_0 (t11).length ct11_0) (t11).length ((t11).map (Value.int .u8)), blk nb1 (#[Value.int .i64 (0), Value.int .i64 (0), Value.int .i64 (0), Value.bool (false)]) 23, R]) HS
      have HS : Sep.St [row 5 1 (.slice at11_0 (t11).length ct11_0) (t11).length ((t11).map (Value.int .u8)), blk nb1 (#[Value.int .i64 (0), Value.int .i64 (0), Value.int .i64 (0), Value.bool (false)]) 23, R] w0 w := HS
      refine ⟨[(25, Value.int .i64 (t13)), (7, Value.int .i64 (t13))], fun w => Sep.St [row 5 1 (.slice at11_0 (t11).length ct11_0) (t11).length ((t11).map (Value.int .u8)), blk nb1 (#[Value.int .i64 (0), Value.int .i64 (0), Value.int .i64 (0), Value.bool (false)]) 23, R] w0 w, ⟨.inl ⟨rfl, rfl⟩, ⟨.inr ⟨by decide, rfl⟩, trivial⟩⟩, ?_, HS⟩
      refine T.fin [(0, Value.slice (some ⟨eb9, eo10, none⟩) (a0).length sc0), (1, Value.int .i64 (a1)), (4, Value.pointer (some ⟨nb1, 0, none⟩)), (7, Value.int .i64 (t13))] rfl ⟨⟨_, Value.int .i64 (t13), [(25, Value.int .i64 (t13))], 7, rfl, rfl, ⟨.inr ⟨rfl, rfl⟩, trivial⟩, .run rfl (fun w HS => X.assign rfl), rfl, rfl, rfl⟩, trivial⟩ ⟨.inl ⟨rfl, rfl⟩, ⟨.inl ⟨rfl, rfl⟩, ⟨.inl ⟨rfl, rfl⟩, ⟨.inr ⟨rfl, rfl⟩, trivial⟩⟩⟩⟩ (fun w HS => ?_)
      have HS : Sep.St [row 5 1 (.slice at11_0 (t11).length ct11_0) (t11).length ((t11).map (Value.int .u8)), blk nb1 (#[Value.int .i64 (0), Value.int .i64 (0), Value.int .i64 (0), Value.bool (false)]) 23, R] w0 w := HS
      refine At.next ?_
      refine V.keep [(0, Value.slice (some ⟨eb9, eo10, none⟩) (a0).length sc0), (1, Value.int .i64 (a1)), (4, Value.pointer (some ⟨nb1, 0, none⟩)), (7, Value.int .i64 (t13))] ⟨rfl, rfl, rfl, rfl, trivial⟩ ?_
      refine V.seq ?_
      refine V.region ?_
      refine W.rd (X.move rfl) rfl rfl rfl ?_
      refine W.rd (X.cmp (decide (t13 ≥ 0)) rfl rfl rfl rfl) rfl rfl rfl ?_
      refine W.nil ?_
      refine At.next ?_
      refine V.keep [(0, Value.slice (some ⟨eb9, eo10, none⟩) (a0).length sc0), (1, Value.int .i64 (a1)), (4, Value.pointer (some ⟨nb1, 0, none⟩)), (7, Value.int .i64 (t13)), (27, Value.bool (decide (t13 ≥ 0)))] ⟨rfl, rfl, rfl, rfl, rfl, trivial⟩ ?_
      by_cases c15 : t13 ≥ 0
      · replace H := ite_t c15 H
        refine V.condT (sb (decide_eq_true c15)) ?_
        refine V.seq ?_
        refine V.region ?_
        refine W.rd (X.move rfl) rfl rfl rfl ?_
        refine W.rd (X.add rfl rfl) rfl rfl rfl ?_
        refine W.rd (X.move rfl) rfl rfl rfl ?_
        refine W.rd (X.indexSl Try.underlying26 inf5 rfl rfl c8.1 c8.2) rfl rfl rfl ?_
        refine W.rd (X.load Try.underlying5 rfl rfl (((rdC.at 2 hr0 HS rfl)).cellI c8.1 c8.2)) rfl rfl rfl ?_
        refine W.rd (X.and rfl rfl) rfl rfl rfl ?_
        refine W.rd (X.cmp (!(decide ((iand .u8 ((a0).getD ((0 : Int)).toNat 0) (16)) = 0))) rfl rfl rfl rfl) rfl rfl rfl ?_
        refine W.rd (X.build (vs := #[(0, Value.int .i64 (w64 (3 + t13))), (3, Value.bool (!(decide ((iand .u8 ((a0).getD ((0 : Int)).toNat 0) (16)) = 0))))]) (v := Value.agg #[Value.int .i64 (w64 (3 + t13)), Value.int .i64 (0), Value.int .i64 (0), Value.bool (!(decide ((iand .u8 ((a0).getD ((0 : Int)).toNat 0) (16)) = 0)))]) (fun a ha => by simp only [List.map_toArray, List.map_cons, List.map_nil]; rw [ha.ev (x := .tmp 29) (v := Value.int .i64 (w64 (3 + t13))) rfl]; rw [ha.ev (x := .tmp 34) (v := Value.bool (!(decide ((iand .u8 ((a0).getD ((0 : Int)).toNat 0) (16)) = 0)))) rfl]; try rfl) (fun _ => by kernel_rfl)) rfl rfl rfl ?_
        refine W.ev_none (Y.storeSt (c' := #[Value.int .i64 (w64 (3 + t13)), Value.int .i64 (0), Value.int .i64 (0), Value.bool (!(decide ((iand .u8 ((a0).getD ((0 : Int)).toNat 0) (16)) = 0)))]) 1 [Value.int .i64 (w64 (3 + t13)), Value.int .i64 (0), Value.int .i64 (0), Value.bool (!(decide ((iand .u8 ((a0).getD ((0 : Int)).toNat 0) (16)) = 0)))] HS rfl inf23 rfl rfl rfl rfl rfl rfl) rfl rfl ?_
        rintro _ w HS
        have HS : Sep.St [row 5 1 (.slice at11_0 (t11).length ct11_0) (t11).length ((t11).map (Value.int .u8)), blk nb1 (#[Value.int .i64 (w64 (3 + t13)), Value.int .i64 (0), Value.int .i64 (0), Value.bool (!(decide ((iand .u8 ((a0).getD ((0 : Int)).toNat 0) (16)) = 0)))]) 23, R] w0 w := HS
        refine W.rd (X.assign rfl) rfl rfl rfl ?_
        refine W.rd (X.assign rfl) rfl rfl rfl ?_
        refine W.nil ?_
        refine At.next ?_
        refine V.keep [(4, Value.pointer (some ⟨nb1, 0, none⟩)), (5, Value.int .i64 (1)), (6, Value.int .i64 (0))] ⟨rfl, rfl, rfl, trivial⟩ ?_
        refine V.ret ?_
        refine At.thenRet ?_
        have hv16 := run_loadSt (P := Try.prog) (p := 0) 1 [Value.int .i64 (w64 (3 + t13)), Value.int .i64 (0), Value.int .i64 (0), Value.bool (!(decide ((iand .u8 ((a0).getD ((0 : Int)).toNat 0) (16)) = 0)))] HS rfl Try.underlying23 rfl inf23 rfl
        replace HS := HS.sel [2] [0, 1] rfl
        cases H
        exact At.retv3 rfl ⟨_, rfl, hv16⟩ rfl rfl ⟨_, rfl, rfl, HS⟩
      · replace H := ite_f c15 H
        refine V.condF (sb (decide_eq_false c15)) ?_
        refine V.skip ?_
        refine At.next ?_
        refine V.keep [(0, Value.slice (some ⟨eb9, eo10, none⟩) (a0).length sc0), (1, Value.int .i64 (a1)), (4, Value.pointer (some ⟨nb1, 0, none⟩))] ⟨rfl, rfl, rfl, trivial⟩ ?_
        refine V.seq ?_
        refine V.region ?_
        refine W.rd (X.build (vs := #[(0, Value.int .i64 (0))]) (v := Value.agg #[Value.int .i64 (0), Value.int .i64 (0), Value.int .i64 (0), Value.bool (false)]) (fun a ha => by simp only [List.map_toArray, List.map_cons, List.map_nil]; try rfl) (fun _ => by kernel_rfl)) rfl rfl rfl ?_
        refine W.ev (Y.alloc (z := Value.agg (#[Value.int .i64 (0), Value.int .i64 (0), Value.int .i64 (0), Value.bool (false)])) HS ze23) rfl rfl rfl ?_
        rintro _ w ⟨nb17, rfl, HS⟩
        have HS : Sep.St [blk nb17 (#[Value.int .i64 (0), Value.int .i64 (0), Value.int .i64 (0), Value.bool (false)]) 23, row 5 1 (.slice at11_0 (t11).length ct11_0) (t11).length ((t11).map (Value.int .u8)), blk nb1 (#[Value.int .i64 (0), Value.int .i64 (0), Value.int .i64 (0), Value.bool (false)]) 23, R] w0 w := HS
        refine W.ev_none (Y.storeSt (c' := #[Value.int .i64 (0), Value.int .i64 (0), Value.int .i64 (0), Value.bool (false)]) 0 [Value.int .i64 (0), Value.int .i64 (0), Value.int .i64 (0), Value.bool (false)] HS rfl inf23 rfl rfl rfl rfl rfl rfl) rfl rfl ?_
        rintro _ w HS
        have HS : Sep.St [blk nb17 (#[Value.int .i64 (0), Value.int .i64 (0), Value.int .i64 (0), Value.bool (false)]) 23, row 5 1 (.slice at11_0 (t11).length ct11_0) (t11).length ((t11).map (Value.int .u8)), blk nb1 (#[Value.int .i64 (0), Value.int .i64 (0), Value.int .i64 (0), Value.bool (false)]) 23, R] w0 w := HS
        refine W.nil ?_
        refine At.next ?_
        refine V.keep [(0, Value.slice (some ⟨eb9, eo10, none⟩) (a0).length sc0), (1, Value.int .i64 (a1)), (4, Value.pointer (some ⟨nb1, 0, none⟩)), (8, Value.pointer (some ⟨nb17, 0, none⟩))] ⟨rfl, rfl, rfl, rfl, trivial⟩ ?_
        refine V.meet (σ := api_Ctl) (fun st w => match st with | x20 => Sep.St [api_Ctl.at nb1 (({ Kind := 0, Ns := 0, Nr := 0, Poll := false } : api_Ctl)), api_Ctl.at nb17 (x20), row 5 1 (.slice at11_0 (t11).length ct11_0) (t11).length ((t11).map (Value.int .u8)), R] w0 w ∧ control_Read.j0 k a0 a1 x20 = some r) (fun st => match st with | x20 => [(0, Value.slice (some ⟨eb9, eo10, none⟩) (a0).length sc0), (1, Value.int .i64 (a1)), (4, Value.pointer (some ⟨nb1, 0, none⟩)), (8, Value.pointer (some ⟨nb17, 0, none⟩))]) ?_ ?_
        · refine V.block ?_
          refine V.seq ?_
          refine V.region ?_
          refine W.rd (X.move rfl) rfl rfl rfl ?_
          refine W.rd (X.indexSl Try.underlying26 inf5 rfl rfl c8.1 c8.2) rfl rfl rfl ?_
          refine W.rd (X.load Try.underlying5 rfl rfl (((rdC.at 3 hr0 HS rfl)).cellI c8.1 c8.2)) rfl rfl rfl ?_
          refine W.rd (X.cmp (decide (((a0).getD ((0 : Int)).toNat 0) = 1)) rfl rfl rfl rfl) rfl rfl rfl ?_
          refine W.rd (X.assign rfl) rfl rfl rfl ?_
          refine W.nil ?_
          refine At.next ?_
          refine V.keep [(0, Value.slice (some ⟨eb9, eo10, none⟩) (a0).length sc0), (1, Value.int .i64 (a1)), (4, Value.pointer (some ⟨nb1, 0, none⟩)), (8, Value.pointer (some ⟨nb17, 0, none⟩)), (37, Value.bool (decide (((a0).getD ((0 : Int)).toNat 0) = 1)))] ⟨rfl, rfl, rfl, rfl, rfl, trivial⟩ ?_
          by_cases c47 : ((a0).getD ((0 : Int)).toNat 0) = 1
          · replace H := ite_t c47 H
            refine V.condT (sb (decide_eq_true c47)) ?_
            refine V.region ?_
            refine W.rd (X.fieldAddr 0 fo23_0 rfl) rfl rfl rfl ?_
            refine W.ev_none (Y.storeAt 0 HS rfl inf3 rfl rfl rfl rfl rfl rfl) rfl rfl ?_
            rintro _ w HS
            have HS : Sep.St [blk nb17 (#[Value.int .i64 (1), Value.int .i64 (0), Value.int .i64 (0), Value.bool (false)]) 23, row 5 1 (.slice at11_0 (t11).length ct11_0) (t11).length ((t11).map (Value.int .u8)), blk nb1 (#[Value.int .i64 (0), Value.int .i64 (0), Value.int .i64 (0), Value.bool (false)]) 23, R] w0 w := HS
            refine W.nil ?_
            refine At.blockEnd ?_
            replace HS := HS.re [2, 0, 1, 3] rfl
            have HS : Sep.St [blk nb1 (#[Value.int .i64 (0), Value.int .i64 (0), Value.int .i64 (0), Value.bool (false)]) 23, blk nb17 (#[Value.int .i64 (1), Value.int .i64 (0), Value.int .i64 (0), Value.bool (false)]) 23, row 5 1 (.slice at11_0 (t11).length ct11_0) (t11).length ((t11).map (Value.int .u8)), R] w0 w := HS
            replace HS := api_Ctl.close (({ Kind := 0, Ns := 0, Nr := 0, Poll := false } : api_Ctl)) trivial HS
            have HS : Sep.St [api_Ctl.at nb1 (({ Kind := 0, Ns := 0, Nr := 0, Poll := false } : api_Ctl)), blk nb17 (#[Value.int .i64 (1), Value.int .i64 (0), Value.int .i64 (0), Value.bool (false)]) 23, row 5 1 (.slice at11_0 (t11).length ct11_0) (t11).length ((t11).map (Value.int .u8)), R] w0 w := HS
            replace HS := HS.re [1, 0, 2, 3] rfl
            have HS : Sep.St [blk nb17 (#[Value.int .i64 (1), Value.int .i64 (0), Value.int .i64 (0), Value.bool (false)]) 23, api_Ctl.at nb1 (({ Kind := 0, Ns := 0, Nr := 0, Poll := false } : api_Ctl)), row 5 1 (.slice at11_0 (t11).length ct11_0) (t11).length ((t11).map (Value.int .u8)), R] w0 w := HS
            replace HS := api_Ctl.close (({ Kind := 1, Ns := 0, Nr := 0, Poll := false } : api_Ctl)) trivial HS
            have HS : Sep.St [api_Ctl.at nb17 (({ Kind := 1, Ns := 0, Nr := 0, Poll := false } : api_Ctl)), api_Ctl.at nb1 (({ Kind := 0, Ns := 0, Nr := 0, Poll := false } : api_Ctl)), row 5 1 (.slice at11_0 (t11).length ct11_0) (t11).length ((t11).map (Value.int .u8)), R] w0 w := HS
            replace HS := HS.sel [1, 0, 2, 3] [] rfl
            exact At.meet (({ Kind := 1, Ns := 0, Nr := 0, Poll := false } : api_Ctl)) ⟨rfl, rfl, rfl, rfl, trivial⟩ ⟨HS, H⟩
          · replace H := ite_f c47 H
            refine V.condF (sb (decide_eq_false c47)) ?_
            refine V.seq ?_
            refine V.region ?_
            refine W.rd (X.move rfl) rfl rfl rfl ?_
            refine W.rd (X.indexSl Try.underlying26 inf5 rfl rfl c8.1 c8.2) rfl rfl rfl ?_
            refine W.rd (X.load Try.underlying5 rfl rfl (((rdC.at 3 hr0 HS rfl)).cellI c8.1 c8.2)) rfl rfl rfl ?_
            refine W.rd (X.cmp (decide (((a0).getD ((0 : Int)).toNat 0) = 9)) rfl rfl rfl rfl) rfl rfl rfl ?_
            refine W.rd (X.assign rfl) rfl rfl rfl ?_
            refine W.nil ?_
            refine At.next ?_
            refine V.keep [(0, Value.slice (some ⟨eb9, eo10, none⟩) (a0).length sc0), (1, Value.int .i64 (a1)), (4, Value.pointer (some ⟨nb1, 0, none⟩)), (8, Value.pointer (some ⟨nb17, 0, none⟩)), (43, Value.bool (decide (((a0).getD ((0 : Int)).toNat 0) = 9)))] ⟨rfl, rfl, rfl, rfl, rfl, trivial⟩ ?_
            by_cases c48 : ((a0).getD ((0 : Int)).toNat 0) = 9
            · replace H := ite_t c48 H
              refine V.condT (sb (decide_eq_true c48)) ?_
              refine V.region ?_
              refine W.rd (X.fieldAddr 0 fo23_0 rfl) rfl rfl rfl ?_
              refine W.ev_none (Y.storeAt 0 HS rfl inf3 rfl rfl rfl rfl rfl rfl) rfl rfl ?_
              rintro _ w HS
              have HS : Sep.St [blk nb17 (#[Value.int .i64 (2), Value.int .i64 (0), Value.int .i64 (0), Value.bool (false)]) 23, row 5 1 (.slice at11_0 (t11).length ct11_0) (t11).length ((t11).map (Value.int .u8)), blk nb1 (#[Value.int .i64 (0), Value.int .i64 (0), Value.int .i64 (0), Value.bool (false)]) 23, R] w0 w := HS
              refine W.nil ?_
              refine At.blockEnd ?_
              replace HS := HS.re [2, 0, 1, 3] rfl
              have HS : Sep.St [blk nb1 (#[Value.int .i64 (0), Value.int .i64 (0), Value.int .i64 (0), Value.bool (false)]) 23, blk nb17 (#[Value.int .i64 (2), Value.int .i64 (0), Value.int .i64 (0), Value.bool (false)]) 23, row 5 1 (.slice at11_0 (t11).length ct11_0) (t11).length ((t11).map (Value.int .u8)), R] w0 w := HS
              replace HS := api_Ctl.close (({ Kind := 0, Ns := 0, Nr := 0, Poll := false } : api_Ctl)) trivial HS
              have HS : Sep.St [api_Ctl.at nb1 (({ Kind := 0, Ns := 0, Nr := 0, Poll := false } : api_Ctl)), blk nb17 (#[Value.int .i64 (2), Value.int .i64 (0), Value.int .i64 (0), Value.bool (false)]) 23, row 5 1 (.slice at11_0 (t11).length ct11_0) (t11).length ((t11).map (Value.int .u8)), R] w0 w := HS
              replace HS := HS.re [1, 0, 2, 3] rfl
              have HS : Sep.St [blk nb17 (#[Value.int .i64 (2), Value.int .i64 (0), Value.int .i64 (0), Value.bool (false)]) 23, api_Ctl.at nb1 (({ Kind := 0, Ns := 0, Nr := 0, Poll := false } : api_Ctl)), row 5 1 (.slice at11_0 (t11).length ct11_0) (t11).length ((t11).map (Value.int .u8)), R] w0 w := HS
              replace HS := api_Ctl.close (({ Kind := 2, Ns := 0, Nr := 0, Poll := false } : api_Ctl)) trivial HS
              have HS : Sep.St [api_Ctl.at nb17 (({ Kind := 2, Ns := 0, Nr := 0, Poll := false } : api_Ctl)), api_Ctl.at nb1 (({ Kind := 0, Ns := 0, Nr := 0, Poll := false } : api_Ctl)), row 5 1 (.slice at11_0 (t11).length ct11_0) (t11).length ((t11).map (Value.int .u8)), R] w0 w := HS
              replace HS := HS.sel [1, 0, 2, 3] [] rfl
              exact At.meet (({ Kind := 2, Ns := 0, Nr := 0, Poll := false } : api_Ctl)) ⟨rfl, rfl, rfl, rfl, trivial⟩ ⟨HS, H⟩
            · replace H := ite_f c48 H
              refine V.condF (sb (decide_eq_false c48)) ?_
              refine V.seq ?_
              refine V.region ?_
              refine W.rd (X.move rfl) rfl rfl rfl ?_
              refine W.rd (X.indexSl Try.underlying26 inf5 rfl rfl c8.1 c8.2) rfl rfl rfl ?_
              refine W.rd (X.load Try.underlying5 rfl rfl (((rdC.at 3 hr0 HS rfl)).cellI c8.1 c8.2)) rfl rfl rfl ?_
              refine W.rd (X.and rfl rfl) rfl rfl rfl ?_
              refine W.rd (X.cmp (decide ((iand .u8 ((a0).getD ((0 : Int)).toNat 0) (1)) = 1)) rfl rfl rfl rfl) rfl rfl rfl ?_
              refine W.rd (X.assign rfl) rfl rfl rfl ?_
              refine W.nil ?_
              refine At.next ?_
              refine V.keep [(0, Value.slice (some ⟨eb9, eo10, none⟩) (a0).length sc0), (1, Value.int .i64 (a1)), (4, Value.pointer (some ⟨nb1, 0, none⟩)), (8, Value.pointer (some ⟨nb17, 0, none⟩)), (49, Value.bool (decide ((iand .u8 ((a0).getD ((0 : Int)).toNat 0) (1)) = 1)))] ⟨rfl, rfl, rfl, rfl, rfl, trivial⟩ ?_
              by_cases c49 : (iand .u8 ((a0).getD ((0 : Int)).toNat 0) (1)) = 1
              · replace H := ite_t c49 H
                refine V.condT (sb (decide_eq_true c49)) ?_
                refine V.seq ?_
                refine V.region ?_
                refine W.rd (X.build (vs := #[]) (v := Value.agg #[Value.int .i64 (0), Value.int .i64 (0), Value.int .i64 (0), Value.bool (false)]) (fun a ha => by simp only [List.map_toArray, List.map_cons, List.map_nil]; try rfl) (fun _ => by kernel_rfl)) rfl rfl rfl ?_
                refine W.ev_none (Y.storeSt (c' := #[Value.int .i64 (0), Value.int .i64 (0), Value.int .i64 (0), Value.bool (false)]) 2 [Value.int .i64 (0), Value.int .i64 (0), Value.int .i64 (0), Value.bool (false)] HS rfl inf23 rfl rfl rfl rfl rfl rfl) rfl rfl ?_
                rintro _ w HS
                have HS : Sep.St [blk nb17 (#[Value.int .i64 (0), Value.int .i64 (0), Value.int .i64 (0), Value.bool (false)]) 23, row 5 1 (.slice at11_0 (t11).length ct11_0) (t11).length ((t11).map (Value.int .u8)), blk nb1 (#[Value.int .i64 (0), Value.int .i64 (0), Value.int .i64 (0), Value.bool (false)]) 23, R] w0 w := HS
                refine W.rd (X.assign rfl) rfl rfl rfl ?_
                refine W.rd (X.assign rfl) rfl rfl rfl ?_
                refine W.nil ?_
                refine At.next ?_
                refine V.keep [(4, Value.pointer (some ⟨nb1, 0, none⟩)), (5, Value.int .i64 (0)), (6, Value.int .i64 (2))] ⟨rfl, rfl, rfl, trivial⟩ ?_
                refine V.ret ?_
                refine At.blockRet ?_
                refine At.thenRet ?_
                have hv50 := run_loadSt (P := Try.prog) (p := 0) 2 [Value.int .i64 (0), Value.int .i64 (0), Value.int .i64 (0), Value.bool (false)] HS rfl Try.underlying23 rfl inf23 rfl
                replace HS := HS.sel [3] [0, 1, 2] rfl
                cases H
                exact At.retv3 rfl ⟨_, rfl, hv50⟩ rfl rfl ⟨_, rfl, rfl, HS⟩
              · replace H := ite_f c49 H
                refine V.condF (sb (decide_eq_false c49)) ?_
                refine V.skip ?_
                refine At.blockEnd ?_
                replace HS := HS.re [2, 0, 1, 3] rfl
                have HS : Sep.St [blk nb1 (#[Value.int .i64 (0), Value.int .i64 (0), Value.int .i64 (0), Value.bool (false)]) 23, blk nb17 (#[Value.int .i64 (0), Value.int .i64 (0), Value.int .i64 (0), Value.bool (false)]) 23, row 5 1 (.slice at11_0 (t11).length ct11_0) (t11).length ((t11).map (Value.int .u8)), R] w0 w := HS
                replace HS := api_Ctl.close (({ Kind := 0, Ns := 0, Nr := 0, Poll := false } : api_Ctl)) trivial HS
                have HS : Sep.St [api_Ctl.at nb1 (({ Kind := 0, Ns := 0, Nr := 0, Poll := false } : api_Ctl)), blk nb17 (#[Value.int .i64 (0), Value.int .i64 (0), Value.int .i64 (0), Value.bool (false)]) 23, row 5 1 (.slice at11_0 (t11).length ct11_0) (t11).length ((t11).map (Value.int .u8)), R] w0 w := HS
                replace HS := HS.re [1, 0, 2, 3] rfl
                have HS : Sep.St [blk nb17 (#[Value.int .i64 (0), Value.int .i64 (0), Value.int .i64 (0), Value.bool (false)]) 23, api_Ctl.at nb1 (({ Kind := 0, Ns := 0, Nr := 0, Poll := false } : api_Ctl)), row 5 1 (.slice at11_0 (t11).length ct11_0) (t11).length ((t11).map (Value.int .u8)), R] w0 w := HS
                replace HS := api_Ctl.close (({ Kind := 0, Ns := 0, Nr := 0, Poll := false } : api_Ctl)) trivial HS
                have HS : Sep.St [api_Ctl.at nb17 (({ Kind := 0, Ns := 0, Nr := 0, Poll := false } : api_Ctl)), api_Ctl.at nb1 (({ Kind := 0, Ns := 0, Nr := 0, Poll := false } : api_Ctl)), row 5 1 (.slice at11_0 (t11).length ct11_0) (t11).length ((t11).map (Value.int .u8)), R] w0 w := HS
                replace HS := HS.sel [1, 0, 2, 3] [] rfl
                exact At.meet (({ Kind := 0, Ns := 0, Nr := 0, Poll := false } : api_Ctl)) ⟨rfl, rfl, rfl, rfl, trivial⟩ ⟨HS, H⟩
        · rintro x20 w ⟨HS, H⟩
          unfold control_Read.j0 at H
          have HS : Sep.St [api_Ctl.at nb1 (({ Kind := 0, Ns := 0, Nr := 0, Poll := false } : api_Ctl)), api_Ctl.at nb17 (x20), row 5 1 (.slice at11_0 (t11).length ct11_0) (t11).length ((t11).map (Value.int .u8)), R] w0 w := HS
          refine V.seq ?_
          refine V.region ?_
          refine W.rd (X.move rfl) rfl rfl rfl ?_
          replace HS := row_nil' (e := 5) 1 none HS
          have HS : Sep.St [row 5 1 (.slice none (([] : List Int)).length 0) (([] : List Int)).length ((([] : List Int)).map (Value.int .u8)), api_Ctl.at nb1 (({ Kind := 0, Ns := 0, Nr := 0, Poll := false } : api_Ctl)), api_Ctl.at nb17 (x20), row 5 1 (.slice at11_0 (t11).length ct11_0) (t11).length ((t11).map (Value.int .u8)), R] w0 w := HS
          obtain ⟨t21, A22, H⟩ := bind_s H
          refine W.ev (Y.call Try.func17 (by kernel_rfl) rfl (vs := [Value.slice none (([] : List Int)).length 0, Value.int .i64 (0), Value.int .i64 (a1)]) rfl (control_put.calls ([] : List Int) 0 a1 _ w0 _ none 0 t21  A22 (Sep.St.tailJoin (m := [row 5 1 (.slice none (([] : List Int)).length 0) (([] : List Int)).length ((([] : List Int)).map (Value.int .u8))]) (r := [api_Ctl.at nb1 (({ Kind := 0, Ns := 0, Nr := 0, Poll := false } : api_Ctl)), api_Ctl.at nb17 (x20), row 5 1 (.slice at11_0 (t11).length ct11_0) (t11).length ((t11).map (Value.int .u8)), R]) HS))) rfl rfl rfl ?_
          rintro _ w ⟨at21_0, ct21_0, rfl, HS⟩
          replace HS := Sep.St.tailOpen (m := [row 5 1 (.slice at21_0 (t21).length ct21_0) (t21).length ((t21).map (Value.int .u8))]) (r := [api_Ctl.at nb1 (({ Kind := 0, Ns := 0, Nr := 0, Poll := false } : api_Ctl)), api_Ctl.at nb17 (x20), row 5 1 (.slice at11_0 (t11).length ct11_0) (t11).length ((t11).map (Value.int .u8)), R]) HS
          have HS : Sep.St [row 5 1 (.slice at21_0 (t21).length ct21_0) (t21).length ((t21).map (Value.int .u8)), api_Ctl.at nb1 (({ Kind := 0, Ns := 0, Nr := 0, Poll := false } : api_Ctl)), api_Ctl.at nb17 (x20), row 5 1 (.slice at11_0 (t11).length ct11_0) (t11).length ((t11).map (Value.int .u8)), R] w0 w := HS
          refine W.rd (X.lenSl Try.underlying26 rfl) rfl rfl rfl ?_
          refine W.rd (X.assign rfl) rfl rfl rfl ?_
          refine W.nil ?_
          refine At.next ?_
          refine V.keep [(0, Value.slice (some ⟨eb9, eo10, none⟩) (a0).length sc0), (4, Value.pointer (some ⟨nb1, 0, none⟩)), (8, Value.pointer (some ⟨nb17, 0, none⟩)), (9, Value.int .i64 (((t21).length : Int)))] ⟨rfl, rfl, rfl, rfl, trivial⟩ ?_
          refine V.seq ?_
          refine V.seq ?_
          refine V.region ?_
          refine W.rd (X.move rfl) rfl rfl rfl ?_
          refine W.rd (X.lenSl Try.underlying26 rfl) rfl rfl rfl ?_
          refine W.rd (X.move rfl) rfl rfl rfl ?_
          refine W.rd (X.mul rfl rfl) rfl rfl rfl ?_
          refine W.rd (X.cmp (decide (((a0).length : Int) < (w64 (2 * ((t21).length : Int))))) rfl rfl rfl rfl) rfl rfl rfl ?_
          refine W.nil ?_
          refine At.next ?_
          refine V.keep [(0, Value.slice (some ⟨eb9, eo10, none⟩) (a0).length sc0), (4, Value.pointer (some ⟨nb1, 0, none⟩)), (8, Value.pointer (some ⟨nb17, 0, none⟩)), (9, Value.int .i64 (((t21).length : Int))), (63, Value.bool (decide (((a0).length : Int) < (w64 (2 * ((t21).length : Int))))))] ⟨rfl, rfl, rfl, rfl, rfl, trivial⟩ ?_
          by_cases c24 : ((a0).length : Int) < (w64 (2 * ((t21).length : Int)))
          · replace H := ite_t c24 H
            refine V.condT (sb (decide_eq_true c24)) ?_
            refine V.seq ?_
            refine V.region ?_
            refine W.rd (X.build (vs := #[]) (v := Value.agg #[Value.int .i64 (0), Value.int .i64 (0), Value.int .i64 (0), Value.bool (false)]) (fun a ha => by simp only [List.map_toArray, List.map_cons, List.map_nil]; try rfl) (fun _ => by kernel_rfl)) rfl rfl rfl ?_
            replace HS := HS.front 1 rfl
            have HS : Sep.St [api_Ctl.at nb1 (({ Kind := 0, Ns := 0, Nr := 0, Poll := false } : api_Ctl)), row 5 1 (.slice at21_0 (t21).length ct21_0) (t21).length ((t21).map (Value.int .u8)), api_Ctl.at nb17 (x20), row 5 1 (.slice at11_0 (t11).length ct11_0) (t11).length ((t11).map (Value.int .u8)), R] w0 w := HS
            obtain ⟨hi26, HS⟩ := api_Ctl.open HS
            have HS : Sep.St [blk nb1 (#[Value.int .i64 ((({ Kind := 0, Ns := 0, Nr := 0, Poll := false } : api_Ctl)).Kind), Value.int .i64 ((({ Kind := 0, Ns := 0, Nr := 0, Poll := false } : api_Ctl)).Ns), Value.int .i64 ((({ Kind := 0, Ns := 0, Nr := 0, Poll := false } : api_Ctl)).Nr), Value.bool ((({ Kind := 0, Ns := 0, Nr := 0, Poll := false } : api_Ctl)).Poll)]) 23, row 5 1 (.slice at21_0 (t21).length ct21_0) (t21).length ((t21).map (Value.int .u8)), api_Ctl.at nb17 (x20), row 5 1 (.slice at11_0 (t11).length ct11_0) (t11).length ((t11).map (Value.int .u8)), R] w0 w := HS
            refine W.ev_none (Y.storeSt (c' := #[Value.int .i64 (0), Value.int .i64 (0), Value.int .i64 (0), Value.bool (false)]) 0 [Value.int .i64 (0), Value.int .i64 (0), Value.int .i64 (0), Value.bool (false)] HS rfl inf23 rfl rfl rfl rfl rfl rfl) rfl rfl ?_
            rintro _ w HS
            have HS : Sep.St [blk nb1 (#[Value.int .i64 (0), Value.int .i64 (0), Value.int .i64 (0), Value.bool (false)]) 23, row 5 1 (.slice at21_0 (t21).length ct21_0) (t21).length ((t21).map (Value.int .u8)), api_Ctl.at nb17 (x20), row 5 1 (.slice at11_0 (t11).length ct11_0) (t11).length ((t11).map (Value.int .u8)), R] w0 w := HS
            refine W.rd (X.assign rfl) rfl rfl rfl ?_
            refine W.rd (X.assign rfl) rfl rfl rfl ?_
            refine W.nil ?_
            refine At.next ?_
            refine V.keep [(4, Value.pointer (some ⟨nb1, 0, none⟩)), (5, Value.int .i64 (0)), (6, Value.int .i64 (3))] ⟨rfl, rfl, rfl, trivial⟩ ?_
            refine V.ret ?_
            refine At.thenRet ?_
            have hv27 := run_loadSt (P := Try.prog) (p := 0) 0 [Value.int .i64 (0), Value.int .i64 (0), Value.int .i64 (0), Value.bool (false)] HS rfl Try.underlying23 rfl inf23 rfl
            replace HS := HS.sel [4] [0, 1, 2, 3] rfl
            cases H
            exact At.retv3 rfl ⟨_, rfl, hv27⟩ rfl rfl ⟨_, rfl, rfl, HS⟩
          · replace H := ite_f c24 H
            refine V.condF (sb (decide_eq_false c24)) ?_
            refine V.skip ?_
            refine At.next ?_
            refine V.keep [(0, Value.slice (some ⟨eb9, eo10, none⟩) (a0).length sc0), (4, Value.pointer (some ⟨nb1, 0, none⟩)), (8, Value.pointer (some ⟨nb17, 0, none⟩)), (9, Value.int .i64 (((t21).length : Int)))] ⟨rfl, rfl, rfl, rfl, trivial⟩ ?_
            refine V.seq ?_
            obtain ⟨c28, H⟩ := ite_n H
            obtain ⟨c29, H⟩ := ite_n H
            refine V.draw (es := [3, 9]) (bl := [10, 11]) (f := [(65, Value.slice (some ⟨eb9, eo10, none⟩) (a0).length sc0), (66, Value.int .i64 (((t21).length : Int))), (67, Value.slice (vaddr (some ⟨eb9, eo10, none⟩) sc0 ((0 : Int)).toNat 1) (cut a0 (0 : Int) ((t21).length : Int)).length (sc0 - ((0 : Int)).toNat)), (69, Value.slice (some ⟨eb9, eo10, none⟩) (a0).length sc0), (70, Value.int .i64 (((t21).length : Int))), (71, Value.int .i64 (((t21).length : Int))), (72, Value.int .i64 (w64 (2 * ((t21).length : Int)))), (73, Value.slice (vaddr (some ⟨eb9, eo10, none⟩) sc0 (((t21).length : Int)).toNat 1) (cut a0 ((t21).length : Int) (w64 (2 * ((t21).length : Int)))).length (sc0 - (((t21).length : Int)).toNat))]) (fun w => Sep.St [row 5 1 (.slice at21_0 (t21).length ct21_0) (t21).length ((t21).map (Value.int .u8)), api_Ctl.at nb1 (({ Kind := 0, Ns := 0, Nr := 0, Poll := false } : api_Ctl)), api_Ctl.at nb17 (x20), row 5 1 (.slice at11_0 (t11).length ct11_0) (t11).length ((t11).map (Value.int .u8)), R] w0 w) mo HS.drew rfl ?_
            refine T.event _ [(67, Value.slice (vaddr (some ⟨eb9, eo10, none⟩) sc0 ((0 : Int)).toNat 1) (cut a0 (0 : Int) ((t21).length : Int)).length (sc0 - ((0 : Int)).toNat))] rfl rfl ⟨⟨_, Value.slice (some ⟨eb9, eo10, none⟩) (a0).length sc0, [(0, Value.slice (some ⟨eb9, eo10, none⟩) (a0).length sc0)], 65, rfl, rfl, ⟨.inl ⟨rfl, rfl⟩, trivial⟩, .run rfl (fun w HS => X.move rfl), rfl, rfl, rfl⟩, ⟨_, Value.int .i64 (((t21).length : Int)), [(9, Value.int .i64 (((t21).length : Int)))], 66, rfl, rfl, ⟨.inl ⟨rfl, rfl⟩, trivial⟩, .run rfl (fun w HS => X.move rfl), rfl, rfl, rfl⟩, ⟨_, Value.slice (vaddr (some ⟨eb9, eo10, none⟩) sc0 ((0 : Int)).toNat 1) (cut a0 (0 : Int) ((t21).length : Int)).length (sc0 - ((0 : Int)).toNat), [(65, Value.slice (some ⟨eb9, eo10, none⟩) (a0).length sc0), (66, Value.int .i64 (((t21).length : Int)))], 67, rfl, rfl, ⟨.inr ⟨rfl, rfl⟩, ⟨.inr ⟨rfl, rfl⟩, trivial⟩⟩, .run rfl (fun w HS => X.slH Try.underlying26 inf5 rfl rfl c28 ((rdC.at 4 hr0 HS rfl)).cap), rfl, rfl, rfl⟩, ⟨_, Value.slice (some ⟨eb9, eo10, none⟩) (a0).length sc0, [(0, Value.slice (some ⟨eb9, eo10, none⟩) (a0).length sc0)], 69, rfl, rfl, ⟨.inl ⟨rfl, rfl⟩, trivial⟩, .run rfl (fun w HS => X.move rfl), rfl, rfl, rfl⟩, ⟨_, Value.int .i64 (((t21).length : Int)), [(9, Value.int .i64 (((t21).length : Int)))], 70, rfl, rfl, ⟨.inl ⟨rfl, rfl⟩, trivial⟩, .run rfl (fun w HS => X.move rfl), rfl, rfl, rfl⟩, ⟨_, Value.int .i64 (((t21).length : Int)), [(9, Value.int .i64 (((t21).length : Int)))], 71, rfl, rfl, ⟨.inl ⟨rfl, rfl⟩, trivial⟩, .run rfl (fun w HS => X.move rfl), rfl, rfl, rfl⟩, ⟨_, Value.int .i64 (w64 (2 * ((t21).length : Int))), [(71, Value.int .i64 (((t21).length : Int)))], 72, rfl, rfl, ⟨.inr ⟨rfl, rfl⟩, trivial⟩, .run rfl (fun w HS => X.mul rfl rfl), rfl, rfl, rfl⟩, ⟨_, Value.slice (vaddr (some ⟨eb9, eo10, none⟩) sc0 (((t21).length : Int)).toNat 1) (cut a0 ((t21).length : Int) (w64 (2 * ((t21).length : Int)))).length (sc0 - (((t21).length : Int)).toNat), [(69, Value.slice (some ⟨eb9, eo10, none⟩) (a0).length sc0), (70, Value.int .i64 (((t21).length : Int))), (72, Value.int .i64 (w64 (2 * ((t21).length : Int))))], 73, rfl, rfl, ⟨.inr ⟨rfl, rfl⟩, ⟨.inr ⟨rfl, rfl⟩, ⟨.inr ⟨rfl, rfl⟩, trivial⟩⟩⟩, .run rfl (fun w HS => X.slLH Try.underlying26 inf5 rfl rfl rfl c29 ((rdC.at 4 hr0 HS rfl)).cap), rfl, rfl, rfl⟩, trivial⟩ rfl ⟨.inr ⟨rfl, rfl⟩, trivial⟩ (Or.inl rfl) (by intro d hd; cases hd; exact ⟨by decide, rfl, rfl⟩) [10, 11] [0, 1, 2] rfl rfl (fun w HS => ?_)
            have HS : Sep.St [row 5 1 (.slice at21_0 (t21).length ct21_0) (t21).length ((t21).map (Value.int .u8)), api_Ctl.at nb1 (({ Kind := 0, Ns := 0, Nr := 0, Poll := false } : api_Ctl)), api_Ctl.at nb17 (x20), row 5 1 (.slice at11_0 (t11).length ct11_0) (t11).length ((t11).map (Value.int .u8)), R] w0 w := HS
            obtain ⟨t30, A31, H⟩ := bind_s H
            refine ⟨_, Y.call Try.func25 (by kernel_rfl) rfl (vs := [Value.slice (vaddr (some ⟨eb9, eo10, none⟩) sc0 ((0 : Int)).toNat 1) (cut a0 (0 : Int) ((t21).length : Int)).length (sc0 - ((0 : Int)).toNat)]) rfl (control_number.calls k (cut a0 (0 : Int) ((t21).length : Int)) _ w0 _ (vaddr (some ⟨eb9, eo10, none⟩) sc0 ((0 : Int)).toNat 1) (sc0 - ((0 : Int)).toNat) t30 (rdC.part 4 (rdC.subM hr0 c28) rfl) A31 (Sep.St.tailJoin (m := []) (r := [row 5 1 (.slice at21_0 (t21).length ct21_0) (t21).length ((t21).map (Value.int .u8)), api_Ctl.at nb1 (({ Kind := 0, Ns := 0, Nr := 0, Poll := false } : api_Ctl)), api_Ctl.at nb17 (x20), row 5 1 (.slice at11_0 (t11).length ct11_0) (t11).length ((t11).map (Value.int .u8)), R]) HS)), ?_⟩
            rintro _ w ⟨rfl, HS⟩
            replace HS := Sep.St.tailOpen (m := []) (r := [row 5 1 (.slice at21_0 (t21).length ct21_0) (t21).length ((t21).map (Value.int .u8)), api_Ctl.at nb1 (({ Kind := 0, Ns := 0, Nr := 0, Poll := false } : api_Ctl)), api_Ctl.at nb17 (x20), row 5 1 (.slice at11_0 (t11).length ct11_0) (t11).length ((t11).map (Value.int .u8)), R]) HS
            have HS : Sep.St [row 5 1 (.slice at21_0 (t21).length ct21_0) (t21).length ((t21).map (Value.int .u8)), api_Ctl.at nb1 (({ Kind := 0, Ns := 0, Nr := 0, Poll := false } : api_Ctl)), api_Ctl.at nb17 (x20), row 5 1 (.slice at11_0 (t11).length ct11_0) (t11).length ((t11).map (Value.int .u8)), R] w0 w := HS
            refine ⟨[(68, Value.int .i64 (t30))], fun w => Sep.St [row 5 1 (.slice at21_0 (t21).length ct21_0) (t21).length ((t21).map (Value.int .u8)), api_Ctl.at nb1 (({ Kind := 0, Ns := 0, Nr := 0, Poll := false } : api_Ctl)), api_Ctl.at nb17 (x20), row 5 1 (.slice at11_0 (t11).length ct11_0) (t11).length ((t11).map (Value.int .u8)), R] w0 w, ⟨.inl ⟨rfl, rfl⟩, trivial⟩, ?_, HS⟩
            refine T.event _ [(73, Value.slice (vaddr (some ⟨eb9, eo10, none⟩) sc0 (((t21).length : Int)).toNat 1) (cut a0 ((t21).length : Int) (w64 (2 * ((t21).length : Int)))).length (sc0 - (((t21).length : Int)).toNat))] rfl rfl ⟨⟨_, Value.slice (some ⟨eb9, eo10, none⟩) (a0).length sc0, [(0, Value.slice (some ⟨eb9, eo10, none⟩) (a0).length sc0)], 69, rfl, rfl, ⟨.inl ⟨rfl, rfl⟩, trivial⟩, .run rfl (fun w HS => X.move rfl), rfl, rfl, rfl⟩, ⟨_, Value.int .i64 (((t21).length : Int)), [(9, Value.int .i64 (((t21).length : Int)))], 70, rfl, rfl, ⟨.inl ⟨rfl, rfl⟩, trivial⟩, .run rfl (fun w HS => X.move rfl), rfl, rfl, rfl⟩, ⟨_, Value.int .i64 (((t21).length : Int)), [(9, Value.int .i64 (((t21).length : Int)))], 71, rfl, rfl, ⟨.inl ⟨rfl, rfl⟩, trivial⟩, .run rfl (fun w HS => X.move rfl), rfl, rfl, rfl⟩, ⟨_, Value.int .i64 (w64 (2 * ((t21).length : Int))), [(71, Value.int .i64 (((t21).length : Int)))], 72, rfl, rfl, ⟨.inr ⟨rfl, rfl⟩, trivial⟩, .run rfl (fun w HS => X.mul rfl rfl), rfl, rfl, rfl⟩, ⟨_, Value.slice (vaddr (some ⟨eb9, eo10, none⟩) sc0 (((t21).length : Int)).toNat 1) (cut a0 ((t21).length : Int) (w64 (2 * ((t21).length : Int)))).length (sc0 - (((t21).length : Int)).toNat), [(69, Value.slice (some ⟨eb9, eo10, none⟩) (a0).length sc0), (70, Value.int .i64 (((t21).length : Int))), (72, Value.int .i64 (w64 (2 * ((t21).length : Int))))], 73, rfl, rfl, ⟨.inr ⟨rfl, rfl⟩, ⟨.inr ⟨rfl, rfl⟩, ⟨.inr ⟨rfl, rfl⟩, trivial⟩⟩⟩, .run rfl (fun w HS => X.slLH Try.underlying26 inf5 rfl rfl rfl c29 ((rdC.at 4 hr0 HS rfl)).cap), rfl, rfl, rfl⟩, trivial⟩ rfl ⟨.inr ⟨rfl, rfl⟩, trivial⟩ (Or.inl rfl) (by intro d hd; cases hd; exact ⟨by decide, rfl, rfl⟩) [] [4, 5, 6, 7, 8] rfl rfl (fun w HS => ?_)
            have HS : Sep.St [row 5 1 (.slice at21_0 (t21).length ct21_0) (t21).length ((t21).map (Value.int .u8)), api_Ctl.at nb1 (({ Kind := 0, Ns := 0, Nr := 0, Poll := false } : api_Ctl)), api_Ctl.at nb17 (x20), row 5 1 (.slice at11_0 (t11).length ct11_0) (t11).length ((t11).map (Value.int .u8)), R] w0 w := HS
            obtain ⟨t32, A33, H⟩ := bind_s H
            refine ⟨_, Y.call Try.func25 (by kernel_rfl) rfl (vs := [Value.slice (vaddr (some ⟨eb9, eo10, none⟩) sc0 (((t21).length : Int)).toNat 1) (cut a0 ((t21).length : Int) (w64 (2 * ((t21).length : Int)))).length (sc0 - (((t21).length : Int)).toNat)]) rfl (control_number.calls k (cut a0 ((t21).length : Int) (w64 (2 * ((t21).length : Int)))) _ w0 _ (vaddr (some ⟨eb9, eo10, none⟩) sc0 (((t21).length : Int)).toNat 1) (sc0 - (((t21).length : Int)).toNat) t32 (rdC.part 4 (rdC.subM hr0 c29) rfl) A33 (Sep.St.tailJoin (m := []) (r := [row 5 1 (.slice at21_0 (t21).length ct21_0) (t21).length ((t21).map (Value.int .u8)), api_Ctl.at nb1 (({ Kind := 0, Ns := 0, Nr := 0, Poll := false } : api_Ctl)), api_Ctl.at nb17 (x20), row 5 1 (.slice at11_0 (t11).length ct11_0) (t11).length ((t11).map (Value.int .u8)), R]) HS)), ?_⟩
            rintro _ w ⟨rfl, HS⟩
            replace HS := Sep.St.tailOpen (m := []) (r := [row 5 1 (.slice at21_0 (t21).length ct21_0) (t21).length ((t21).map (Value.int .u8)), api_Ctl.at nb1 (({ Kind := 0, Ns := 0, Nr := 0, Poll := false } : api_Ctl)), api_Ctl.at nb17 (x20), row 5 1 (.slice at11_0 (t11).length ct11_0) (t11).length ((t11).map (Value.int .u8)), R]) HS
            have HS : Sep.St [row 5 1 (.slice at21_0 (t21).length ct21_0) (t21).length ((t21).map (Value.int .u8)), api_Ctl.at nb1 (({ Kind := 0, Ns := 0, Nr := 0, Poll := false } : api_Ctl)), api_Ctl.at nb17 (x20), row 5 1 (.slice at11_0 (t11).length ct11_0) (t11).length ((t11).map (Value.int .u8)), R] w0 w := HS
            refine ⟨[(74, Value.int .i64 (t32)), (10, Value.int .i64 (t30)), (11, Value.int .i64 (t32))], fun w => Sep.St [row 5 1 (.slice at21_0 (t21).length ct21_0) (t21).length ((t21).map (Value.int .u8)), api_Ctl.at nb1 (({ Kind := 0, Ns := 0, Nr := 0, Poll := false } : api_Ctl)), api_Ctl.at nb17 (x20), row 5 1 (.slice at11_0 (t11).length ct11_0) (t11).length ((t11).map (Value.int .u8)), R] w0 w, ⟨.inl ⟨rfl, rfl⟩, ⟨.inr ⟨by decide, rfl⟩, ⟨.inr ⟨by decide, rfl⟩, trivial⟩⟩⟩, ?_, HS⟩
            refine T.fin [(0, Value.slice (some ⟨eb9, eo10, none⟩) (a0).length sc0), (4, Value.pointer (some ⟨nb1, 0, none⟩)), (8, Value.pointer (some ⟨nb17, 0, none⟩)), (9, Value.int .i64 (((t21).length : Int))), (10, Value.int .i64 (t30)), (11, Value.int .i64 (t32))] rfl ⟨⟨_, Value.int .i64 (t30), [(68, Value.int .i64 (t30))], 10, rfl, rfl, ⟨.inr ⟨rfl, rfl⟩, trivial⟩, .run rfl (fun w HS => X.assign rfl), rfl, rfl, rfl⟩, ⟨_, Value.int .i64 (t32), [(74, Value.int .i64 (t32))], 11, rfl, rfl, ⟨.inr ⟨rfl, rfl⟩, trivial⟩, .run rfl (fun w HS => X.assign rfl), rfl, rfl, rfl⟩, trivial⟩ ⟨.inl ⟨rfl, rfl⟩, ⟨.inl ⟨rfl, rfl⟩, ⟨.inl ⟨rfl, rfl⟩, ⟨.inl ⟨rfl, rfl⟩, ⟨.inr ⟨rfl, rfl⟩, ⟨.inr ⟨rfl, rfl⟩, trivial⟩⟩⟩⟩⟩⟩ (fun w HS => ?_)
            have HS : Sep.St [row 5 1 (.slice at21_0 (t21).length ct21_0) (t21).length ((t21).map (Value.int .u8)), api_Ctl.at nb1 (({ Kind := 0, Ns := 0, Nr := 0, Poll := false } : api_Ctl)), api_Ctl.at nb17 (x20), row 5 1 (.slice at11_0 (t11).length ct11_0) (t11).length ((t11).map (Value.int .u8)), R] w0 w := HS
            refine At.next ?_
            refine V.keep [(0, Value.slice (some ⟨eb9, eo10, none⟩) (a0).length sc0), (4, Value.pointer (some ⟨nb1, 0, none⟩)), (8, Value.pointer (some ⟨nb17, 0, none⟩)), (9, Value.int .i64 (((t21).length : Int))), (10, Value.int .i64 (t30)), (11, Value.int .i64 (t32))] ⟨rfl, rfl, rfl, rfl, rfl, rfl, trivial⟩ ?_
            refine V.seq ?_
            refine V.seq ?_
            refine V.region ?_
            replace HS := HS.front 2 rfl
            have HS : Sep.St [api_Ctl.at nb17 (x20), row 5 1 (.slice at21_0 (t21).length ct21_0) (t21).length ((t21).map (Value.int .u8)), api_Ctl.at nb1 (({ Kind := 0, Ns := 0, Nr := 0, Poll := false } : api_Ctl)), row 5 1 (.slice at11_0 (t11).length ct11_0) (t11).length ((t11).map (Value.int .u8)), R] w0 w := HS
            obtain ⟨hi35, HS⟩ := api_Ctl.open HS
            have HS : Sep.St [blk nb17 (#[Value.int .i64 ((x20).Kind), Value.int .i64 ((x20).Ns), Value.int .i64 ((x20).Nr), Value.bool ((x20).Poll)]) 23, row 5 1 (.slice at21_0 (t21).length ct21_0) (t21).length ((t21).map (Value.int .u8)), api_Ctl.at nb1 (({ Kind := 0, Ns := 0, Nr := 0, Poll := false } : api_Ctl)), row 5 1 (.slice at11_0 (t11).length ct11_0) (t11).length ((t11).map (Value.int .u8)), R] w0 w := HS
            refine W.rd (X.fieldAddr 0 fo23_0 rfl) rfl rfl rfl ?_
            refine W.rd (X.loadAt 0 HS rfl Try.underlying3 rfl rfl rfl) rfl rfl rfl ?_
            refine W.rd (X.cmp (decide (((x20).Kind) = 0)) rfl rfl rfl rfl) rfl rfl rfl ?_
            refine W.nil ?_
            refine At.next ?_
            refine V.keep [(0, Value.slice (some ⟨eb9, eo10, none⟩) (a0).length sc0), (4, Value.pointer (some ⟨nb1, 0, none⟩)), (8, Value.pointer (some ⟨nb17, 0, none⟩)), (9, Value.int .i64 (((t21).length : Int))), (10, Value.int .i64 (t30)), (11, Value.int .i64 (t32)), (77, Value.bool (decide (((x20).Kind) = 0)))] ⟨rfl, rfl, rfl, rfl, rfl, rfl, rfl, trivial⟩ ?_
            by_cases c36 : ((x20).Kind) = 0
            · replace H := ite_t c36 H
              refine V.condT (sb (decide_eq_true c36)) ?_
              refine V.region ?_
              refine W.rd (X.move rfl) rfl rfl rfl ?_
              refine W.rd (X.quo rfl rfl (by decide)) rfl rfl rfl ?_
              refine W.rd (X.fieldAddr 1 fo23_1 rfl) rfl rfl rfl ?_
              refine W.ev_none (Y.storeAt 0 HS rfl inf3 rfl rfl rfl rfl rfl rfl) rfl rfl ?_
              rintro _ w HS
              have HS : Sep.St [blk nb17 (#[Value.int .i64 ((x20).Kind), Value.int .i64 (w64 ((t30).tdiv (2))), Value.int .i64 ((x20).Nr), Value.bool ((x20).Poll)]) 23, row 5 1 (.slice at21_0 (t21).length ct21_0) (t21).length ((t21).map (Value.int .u8)), api_Ctl.at nb1 (({ Kind := 0, Ns := 0, Nr := 0, Poll := false } : api_Ctl)), row 5 1 (.slice at11_0 (t11).length ct11_0) (t11).length ((t11).map (Value.int .u8)), R] w0 w := HS
              refine W.nil ?_
              refine At.next ?_
              refine V.keep [(4, Value.pointer (some ⟨nb1, 0, none⟩)), (8, Value.pointer (some ⟨nb17, 0, none⟩)), (9, Value.int .i64 (((t21).length : Int))), (11, Value.int .i64 (t32))] ⟨rfl, rfl, rfl, rfl, trivial⟩ ?_
              refine V.seq ?_
              refine V.region ?_
              refine W.rd (X.move rfl) rfl rfl rfl ?_
              refine W.rd (X.quo rfl rfl (by decide)) rfl rfl rfl ?_
              refine W.rd (X.move rfl) rfl rfl rfl ?_
              refine W.rd (X.and rfl rfl) rfl rfl rfl ?_
              refine W.rd (X.cmp (decide ((iand .i64 (t32) (1)) = 1)) rfl rfl rfl rfl) rfl rfl rfl ?_
              refine W.rd (X.fieldAddr 2 fo23_2 rfl) rfl rfl rfl ?_
              refine W.ev_none (Y.storeAt 0 HS rfl inf3 rfl rfl rfl rfl rfl rfl) rfl rfl ?_
              rintro _ w HS
              have HS : Sep.St [blk nb17 (#[Value.int .i64 ((x20).Kind), Value.int .i64 (w64 ((t30).tdiv (2))), Value.int .i64 (w64 ((t32).tdiv (2))), Value.bool ((x20).Poll)]) 23, row 5 1 (.slice at21_0 (t21).length ct21_0) (t21).length ((t21).map (Value.int .u8)), api_Ctl.at nb1 (({ Kind := 0, Ns := 0, Nr := 0, Poll := false } : api_Ctl)), row 5 1 (.slice at11_0 (t11).length ct11_0) (t11).length ((t11).map (Value.int .u8)), R] w0 w := HS
              refine W.rd (X.fieldAddr 3 fo23_3 rfl) rfl rfl rfl ?_
              refine W.ev_none (Y.storeAt 0 HS rfl inf4 rfl rfl rfl rfl rfl rfl) rfl rfl ?_
              rintro _ w HS
              have HS : Sep.St [blk nb17 (#[Value.int .i64 ((x20).Kind), Value.int .i64 (w64 ((t30).tdiv (2))), Value.int .i64 (w64 ((t32).tdiv (2))), Value.bool (decide ((iand .i64 (t32) (1)) = 1))]) 23, row 5 1 (.slice at21_0 (t21).length ct21_0) (t21).length ((t21).map (Value.int .u8)), api_Ctl.at nb1 (({ Kind := 0, Ns := 0, Nr := 0, Poll := false } : api_Ctl)), row 5 1 (.slice at11_0 (t11).length ct11_0) (t11).length ((t11).map (Value.int .u8)), R] w0 w := HS
              refine W.nil ?_
              refine At.next ?_
              refine V.keep [(4, Value.pointer (some ⟨nb1, 0, none⟩)), (8, Value.pointer (some ⟨nb17, 0, none⟩)), (9, Value.int .i64 (((t21).length : Int)))] ⟨rfl, rfl, rfl, trivial⟩ ?_
              refine V.seq ?_
              refine V.region ?_
              refine W.rd (X.loadSt 0 [Value.int .i64 ((x20).Kind), Value.int .i64 (w64 ((t30).tdiv (2))), Value.int .i64 (w64 ((t32).tdiv (2))), Value.bool (decide ((iand .i64 (t32) (1)) = 1))] HS rfl Try.underlying23 rfl inf23 rfl rfl) rfl rfl rfl ?_
              refine W.rd (X.move rfl) rfl rfl rfl ?_
              refine W.rd (X.mul rfl rfl) rfl rfl rfl ?_
              replace HS := HS.front 2 rfl
              have HS : Sep.St [api_Ctl.at nb1 (({ Kind := 0, Ns := 0, Nr := 0, Poll := false } : api_Ctl)), blk nb17 (#[Value.int .i64 ((x20).Kind), Value.int .i64 (w64 ((t30).tdiv (2))), Value.int .i64 (w64 ((t32).tdiv (2))), Value.bool (decide ((iand .i64 (t32) (1)) = 1))]) 23, row 5 1 (.slice at21_0 (t21).length ct21_0) (t21).length ((t21).map (Value.int .u8)), row 5 1 (.slice at11_0 (t11).length ct11_0) (t11).length ((t11).map (Value.int .u8)), R] w0 w := HS
              obtain ⟨hi38, HS⟩ := api_Ctl.open HS
              have HS : Sep.St [blk nb1 (#[Value.int .i64 ((({ Kind := 0, Ns := 0, Nr := 0, Poll := false } : api_Ctl)).Kind), Value.int .i64 ((({ Kind := 0, Ns := 0, Nr := 0, Poll := false } : api_Ctl)).Ns), Value.int .i64 ((({ Kind := 0, Ns := 0, Nr := 0, Poll := false } : api_Ctl)).Nr), Value.bool ((({ Kind := 0, Ns := 0, Nr := 0, Poll := false } : api_Ctl)).Poll)]) 23, blk nb17 (#[Value.int .i64 ((x20).Kind), Value.int .i64 (w64 ((t30).tdiv (2))), Value.int .i64 (w64 ((t32).tdiv (2))), Value.bool (decide ((iand .i64 (t32) (1)) = 1))]) 23, row 5 1 (.slice at21_0 (t21).length ct21_0) (t21).length ((t21).map (Value.int .u8)), row 5 1 (.slice at11_0 (t11).length ct11_0) (t11).length ((t11).map (Value.int .u8)), R] w0 w := HS
              refine W.ev_none (Y.storeSt (c' := #[Value.int .i64 ((x20).Kind), Value.int .i64 (w64 ((t30).tdiv (2))), Value.int .i64 (w64 ((t32).tdiv (2))), Value.bool (decide ((iand .i64 (t32) (1)) = 1))]) 0 [Value.int .i64 ((x20).Kind), Value.int .i64 (w64 ((t30).tdiv (2))), Value.int .i64 (w64 ((t32).tdiv (2))), Value.bool (decide ((iand .i64 (t32) (1)) = 1))] HS rfl inf23 rfl rfl rfl rfl rfl rfl) rfl rfl ?_
              rintro _ w HS
              have HS : Sep.St [blk nb1 (#[Value.int .i64 ((x20).Kind), Value.int .i64 (w64 ((t30).tdiv (2))), Value.int .i64 (w64 ((t32).tdiv (2))), Value.bool (decide ((iand .i64 (t32) (1)) = 1))]) 23, blk nb17 (#[Value.int .i64 ((x20).Kind), Value.int .i64 (w64 ((t30).tdiv (2))), Value.int .i64 (w64 ((t32).tdiv (2))), Value.bool (decide ((iand .i64 (t32) (1)) = 1))]) 23, row 5 1 (.slice at21_0 (t21).length ct21_0) (t21).length ((t21).map (Value.int .u8)), row 5 1 (.slice at11_0 (t11).length ct11_0) (t11).length ((t11).map (Value.int .u8)), R] w0 w := HS
              refine W.rd (X.assign rfl) rfl rfl rfl ?_
              refine W.rd (X.assign rfl) rfl rfl rfl ?_
              refine W.nil ?_
              refine At.next ?_
              refine V.keep [(4, Value.pointer (some ⟨nb1, 0, none⟩)), (5, Value.int .i64 (w64 (2 * ((t21).length : Int)))), (6, Value.int .i64 (0))] ⟨rfl, rfl, rfl, trivial⟩ ?_
              refine V.ret ?_
              have hv39 := run_loadSt (P := Try.prog) (p := 0) 0 [Value.int .i64 ((x20).Kind), Value.int .i64 (w64 ((t30).tdiv (2))), Value.int .i64 (w64 ((t32).tdiv (2))), Value.bool (decide ((iand .i64 (t32) (1)) = 1))] HS rfl Try.underlying23 rfl inf23 rfl
              replace HS := HS.sel [4] [0, 1, 2, 3] rfl
              cases H
              exact At.retv3 rfl ⟨_, rfl, hv39⟩ rfl rfl ⟨_, rfl, rfl, HS⟩
            · replace H := ite_f c36 H
              refine V.condF (sb (decide_eq_false c36)) ?_
              refine V.seq ?_
              refine V.region ?_
              refine W.rd (X.move rfl) rfl rfl rfl ?_
              refine W.rd (X.move rfl) rfl rfl rfl ?_
              refine W.rd (X.indexSl Try.underlying26 inf5 rfl rfl c8.1 c8.2) rfl rfl rfl ?_
              refine W.rd (X.load Try.underlying5 rfl rfl (((rdC.at 4 hr0 HS rfl)).cellI c8.1 c8.2)) rfl rfl rfl ?_
              refine W.rd (X.conv Try.underlying5 Try.underlying3 rfl) rfl rfl rfl ?_
              refine W.rd (X.cmp (!(decide (t30 = (w64 ((a0).getD ((0 : Int)).toNat 0))))) rfl rfl rfl rfl) rfl rfl rfl ?_
              refine W.nil ?_
              refine At.next ?_
              refine V.keep [(4, Value.pointer (some ⟨nb1, 0, none⟩)), (8, Value.pointer (some ⟨nb17, 0, none⟩)), (9, Value.int .i64 (((t21).length : Int))), (11, Value.int .i64 (t32)), (86, Value.bool (!(decide (t30 = (w64 ((a0).getD ((0 : Int)).toNat 0))))))] ⟨rfl, rfl, rfl, rfl, rfl, trivial⟩ ?_
              by_cases c40 : t30 = (w64 ((a0).getD ((0 : Int)).toNat 0))
              · replace H := ite_t c40 H
                refine V.condF (sb (n_t (decide_eq_true c40))) ?_
                refine V.skip ?_
                refine At.next ?_
                refine V.keep [(4, Value.pointer (some ⟨nb1, 0, none⟩)), (8, Value.pointer (some ⟨nb17, 0, none⟩)), (9, Value.int .i64 (((t21).length : Int))), (11, Value.int .i64 (t32))] ⟨rfl, rfl, rfl, rfl, trivial⟩ ?_
                refine V.seq ?_
                refine V.region ?_
                refine W.rd (X.move rfl) rfl rfl rfl ?_
                refine W.rd (X.quo rfl rfl (by decide)) rfl rfl rfl ?_
                refine W.rd (X.move rfl) rfl rfl rfl ?_
                refine W.rd (X.and rfl rfl) rfl rfl rfl ?_
                refine W.rd (X.cmp (decide ((iand .i64 (t32) (1)) = 1)) rfl rfl rfl rfl) rfl rfl rfl ?_
                refine W.rd (X.fieldAddr 2 fo23_2 rfl) rfl rfl rfl ?_
                refine W.ev_none (Y.storeAt 0 HS rfl inf3 rfl rfl rfl rfl rfl rfl) rfl rfl ?_
                rintro _ w HS
                have HS : Sep.St [blk nb17 (#[Value.int .i64 ((x20).Kind), Value.int .i64 ((x20).Ns), Value.int .i64 (w64 ((t32).tdiv (2))), Value.bool ((x20).Poll)]) 23, row 5 1 (.slice at21_0 (t21).length ct21_0) (t21).length ((t21).map (Value.int .u8)), api_Ctl.at nb1 (({ Kind := 0, Ns := 0, Nr := 0, Poll := false } : api_Ctl)), row 5 1 (.slice at11_0 (t11).length ct11_0) (t11).length ((t11).map (Value.int .u8)), R] w0 w := HS
                refine W.rd (X.fieldAddr 3 fo23_3 rfl) rfl rfl rfl ?_
                refine W.ev_none (Y.storeAt 0 HS rfl inf4 rfl rfl rfl rfl rfl rfl) rfl rfl ?_
                rintro _ w HS
                have HS : Sep.St [blk nb17 (#[Value.int .i64 ((x20).Kind), Value.int .i64 ((x20).Ns), Value.int .i64 (w64 ((t32).tdiv (2))), Value.bool (decide ((iand .i64 (t32) (1)) = 1))]) 23, row 5 1 (.slice at21_0 (t21).length ct21_0) (t21).length ((t21).map (Value.int .u8)), api_Ctl.at nb1 (({ Kind := 0, Ns := 0, Nr := 0, Poll := false } : api_Ctl)), row 5 1 (.slice at11_0 (t11).length ct11_0) (t11).length ((t11).map (Value.int .u8)), R] w0 w := HS
                refine W.nil ?_
                refine At.next ?_
                refine V.keep [(4, Value.pointer (some ⟨nb1, 0, none⟩)), (8, Value.pointer (some ⟨nb17, 0, none⟩)), (9, Value.int .i64 (((t21).length : Int)))] ⟨rfl, rfl, rfl, trivial⟩ ?_
                refine V.seq ?_
                refine V.region ?_
                refine W.rd (X.loadSt 0 [Value.int .i64 ((x20).Kind), Value.int .i64 ((x20).Ns), Value.int .i64 (w64 ((t32).tdiv (2))), Value.bool (decide ((iand .i64 (t32) (1)) = 1))] HS rfl Try.underlying23 rfl inf23 rfl rfl) rfl rfl rfl ?_
                refine W.rd (X.move rfl) rfl rfl rfl ?_
                refine W.rd (X.mul rfl rfl) rfl rfl rfl ?_
                replace HS := HS.front 2 rfl
                have HS : Sep.St [api_Ctl.at nb1 (({ Kind := 0, Ns := 0, Nr := 0, Poll := false } : api_Ctl)), blk nb17 (#[Value.int .i64 ((x20).Kind), Value.int .i64 ((x20).Ns), Value.int .i64 (w64 ((t32).tdiv (2))), Value.bool (decide ((iand .i64 (t32) (1)) = 1))]) 23, row 5 1 (.slice at21_0 (t21).length ct21_0) (t21).length ((t21).map (Value.int .u8)), row 5 1 (.slice at11_0 (t11).length ct11_0) (t11).length ((t11).map (Value.int .u8)), R] w0 w := HS
                obtain ⟨hi42, HS⟩ := api_Ctl.open HS
                have HS : Sep.St [blk nb1 (#[Value.int .i64 ((({ Kind := 0, Ns := 0, Nr := 0, Poll := false } : api_Ctl)).Kind), Value.int .i64 ((({ Kind := 0, Ns := 0, Nr := 0, Poll := false } : api_Ctl)).Ns), Value.int .i64 ((({ Kind := 0, Ns := 0, Nr := 0, Poll := false } : api_Ctl)).Nr), Value.bool ((({ Kind := 0, Ns := 0, Nr := 0, Poll := false } : api_Ctl)).Poll)]) 23, blk nb17 (#[Value.int .i64 ((x20).Kind), Value.int .i64 ((x20).Ns), Value.int .i64 (w64 ((t32).tdiv (2))), Value.bool (decide ((iand .i64 (t32) (1)) = 1))]) 23, row 5 1 (.slice at21_0 (t21).length ct21_0) (t21).length ((t21).map (Value.int .u8)), row 5 1 (.slice at11_0 (t11).length ct11_0) (t11).length ((t11).map (Value.int .u8)), R] w0 w := HS
                refine W.ev_none (Y.storeSt (c' := #[Value.int .i64 ((x20).Kind), Value.int .i64 ((x20).Ns), Value.int .i64 (w64 ((t32).tdiv (2))), Value.bool (decide ((iand .i64 (t32) (1)) = 1))]) 0 [Value.int .i64 ((x20).Kind), Value.int .i64 ((x20).Ns), Value.int .i64 (w64 ((t32).tdiv (2))), Value.bool (decide ((iand .i64 (t32) (1)) = 1))] HS rfl inf23 rfl rfl rfl rfl rfl rfl) rfl rfl ?_
                rintro _ w HS
                have HS : Sep.St [blk nb1 (#[Value.int .i64 ((x20).Kind), Value.int .i64 ((x20).Ns), Value.int .i64 (w64 ((t32).tdiv (2))), Value.bool (decide ((iand .i64 (t32) (1)) = 1))]) 23, blk nb17 (#[Value.int .i64 ((x20).Kind), Value.int .i64 ((x20).Ns), Value.int .i64 (w64 ((t32).tdiv (2))), Value.bool (decide ((iand .i64 (t32) (1)) = 1))]) 23, row 5 1 (.slice at21_0 (t21).length ct21_0) (t21).length ((t21).map (Value.int .u8)), row 5 1 (.slice at11_0 (t11).length ct11_0) (t11).length ((t11).map (Value.int .u8)), R] w0 w := HS
                refine W.rd (X.assign rfl) rfl rfl rfl ?_
                refine W.rd (X.assign rfl) rfl rfl rfl ?_
                refine W.nil ?_
                refine At.next ?_
                refine V.keep [(4, Value.pointer (some ⟨nb1, 0, none⟩)), (5, Value.int .i64 (w64 (2 * ((t21).length : Int)))), (6, Value.int .i64 (0))] ⟨rfl, rfl, rfl, trivial⟩ ?_
                refine V.ret ?_
                have hv43 := run_loadSt (P := Try.prog) (p := 0) 0 [Value.int .i64 ((x20).Kind), Value.int .i64 ((x20).Ns), Value.int .i64 (w64 ((t32).tdiv (2))), Value.bool (decide ((iand .i64 (t32) (1)) = 1))] HS rfl Try.underlying23 rfl inf23 rfl
                replace HS := HS.sel [4] [0, 1, 2, 3] rfl
                cases H
                exact At.retv3 rfl ⟨_, rfl, hv43⟩ rfl rfl ⟨_, rfl, rfl, HS⟩
              · replace H := ite_f c40 H
                refine V.condT (sb (n_f (decide_eq_false c40))) ?_
                refine V.seq ?_
                refine V.region ?_
                refine W.rd (X.build (vs := #[]) (v := Value.agg #[Value.int .i64 (0), Value.int .i64 (0), Value.int .i64 (0), Value.bool (false)]) (fun a ha => by simp only [List.map_toArray, List.map_cons, List.map_nil]; try rfl) (fun _ => by kernel_rfl)) rfl rfl rfl ?_
                replace HS := HS.front 2 rfl
                have HS : Sep.St [api_Ctl.at nb1 (({ Kind := 0, Ns := 0, Nr := 0, Poll := false } : api_Ctl)), blk nb17 (#[Value.int .i64 ((x20).Kind), Value.int .i64 ((x20).Ns), Value.int .i64 ((x20).Nr), Value.bool ((x20).Poll)]) 23, row 5 1 (.slice at21_0 (t21).length ct21_0) (t21).length ((t21).map (Value.int .u8)), row 5 1 (.slice at11_0 (t11).length ct11_0) (t11).length ((t11).map (Value.int .u8)), R] w0 w := HS
                obtain ⟨hi45, HS⟩ := api_Ctl.open HS
                have HS : Sep.St [blk nb1 (#[Value.int .i64 ((({ Kind := 0, Ns := 0, Nr := 0, Poll := false } : api_Ctl)).Kind), Value.int .i64 ((({ Kind := 0, Ns := 0, Nr := 0, Poll := false } : api_Ctl)).Ns), Value.int .i64 ((({ Kind := 0, Ns := 0, Nr := 0, Poll := false } : api_Ctl)).Nr), Value.bool ((({ Kind := 0, Ns := 0, Nr := 0, Poll := false } : api_Ctl)).Poll)]) 23, blk nb17 (#[Value.int .i64 ((x20).Kind), Value.int .i64 ((x20).Ns), Value.int .i64 ((x20).Nr), Value.bool ((x20).Poll)]) 23, row 5 1 (.slice at21_0 (t21).length ct21_0) (t21).length ((t21).map (Value.int .u8)), row 5 1 (.slice at11_0 (t11).length ct11_0) (t11).length ((t11).map (Value.int .u8)), R] w0 w := HS
                refine W.ev_none (Y.storeSt (c' := #[Value.int .i64 (0), Value.int .i64 (0), Value.int .i64 (0), Value.bool (false)]) 0 [Value.int .i64 (0), Value.int .i64 (0), Value.int .i64 (0), Value.bool (false)] HS rfl inf23 rfl rfl rfl rfl rfl rfl) rfl rfl ?_
                rintro _ w HS
                have HS : Sep.St [blk nb1 (#[Value.int .i64 (0), Value.int .i64 (0), Value.int .i64 (0), Value.bool (false)]) 23, blk nb17 (#[Value.int .i64 ((x20).Kind), Value.int .i64 ((x20).Ns), Value.int .i64 ((x20).Nr), Value.bool ((x20).Poll)]) 23, row 5 1 (.slice at21_0 (t21).length ct21_0) (t21).length ((t21).map (Value.int .u8)), row 5 1 (.slice at11_0 (t11).length ct11_0) (t11).length ((t11).map (Value.int .u8)), R] w0 w := HS
                refine W.rd (X.assign rfl) rfl rfl rfl ?_
                refine W.rd (X.assign rfl) rfl rfl rfl ?_
                refine W.nil ?_
                refine At.next ?_
                refine V.keep [(4, Value.pointer (some ⟨nb1, 0, none⟩)), (5, Value.int .i64 (0)), (6, Value.int .i64 (2))] ⟨rfl, rfl, rfl, trivial⟩ ?_
                refine V.ret ?_
                refine At.thenRet ?_
                have hv46 := run_loadSt (P := Try.prog) (p := 0) 0 [Value.int .i64 (0), Value.int .i64 (0), Value.int .i64 (0), Value.bool (false)] HS rfl Try.underlying23 rfl inf23 rfl
                replace HS := HS.sel [4] [0, 1, 2, 3] rfl
                cases H
                exact At.retv3 rfl ⟨_, rfl, hv46⟩ rfl rfl ⟨_, rfl, rfl, HS⟩
  · replace H := ite_f c5 H
    refine V.condT (sb (n_f (b_f c5))) ?_
    refine V.seq ?_
    refine V.region ?_
    refine W.rd (X.build (vs := #[]) (v := Value.agg #[Value.int .i64 (0), Value.int .i64 (0), Value.int .i64 (0), Value.bool (false)]) (fun a ha => by simp only [List.map_toArray, List.map_cons, List.map_nil]; try rfl) (fun _ => by kernel_rfl)) rfl rfl rfl ?_
    refine W.ev_none (Y.storeSt (c' := #[Value.int .i64 (0), Value.int .i64 (0), Value.int .i64 (0), Value.bool (false)]) 0 [Value.int .i64 (0), Value.int .i64 (0), Value.int .i64 (0), Value.bool (false)] HS rfl inf23 rfl rfl rfl rfl rfl rfl) rfl rfl ?_
    rintro _ w HS
    have HS : Sep.St [blk nb1 (#[Value.int .i64 (0), Value.int .i64 (0), Value.int .i64 (0), Value.bool (false)]) 23, R] w0 w := HS
    refine W.rd (X.assign rfl) rfl rfl rfl ?_
    refine W.rd (X.assign rfl) rfl rfl rfl ?_
    refine W.nil ?_
    refine At.next ?_
    refine V.keep [(4, Value.pointer (some ⟨nb1, 0, none⟩)), (5, Value.int .i64 (0)), (6, Value.int .i64 (1))] ⟨rfl, rfl, rfl, trivial⟩ ?_
    refine V.ret ?_
    refine At.thenRet ?_
    have hv51 := run_loadSt (P := Try.prog) (p := 0) 0 [Value.int .i64 (0), Value.int .i64 (0), Value.int .i64 (0), Value.bool (false)] HS rfl Try.underlying23 rfl inf23 rfl
    replace HS := HS.sel [1] [0] rfl
    cases H
    exact At.retv3 rfl ⟨_, rfl, hv51⟩ rfl rfl ⟨_, rfl, rfl, HS⟩

/-! ### signalman/signalmanlaw12.num: function 14 -/
def signalmanlaw12_num.f (a0 : Int) : Option (Int) := some (a0)
set_option maxRecDepth 100000 in
set_option maxHeartbeats 4000000 in
theorem signalmanlaw12_num.calls (a0 : Int) (R : As) (w0 w : World)  (r : Int)  (H : signalmanlaw12_num.f a0 = some r) (HS : Sep.St [R] w0 w) : Calls Try.prog 14 #[Value.int .i64 (a0)] w (Ret fun u w => u = Value.int .i64 (r) ∧ Sep.St [R] w0 w) := by
  unfold signalmanlaw12_num.f at H
  refine calls_enter Try.func14 rfl rfl ?_
  have H : _ = some r := H
  refine V.seq ?_
  refine V.region ?_
  refine W.rd (X.assign rfl) rfl rfl rfl ?_
  refine W.nil ?_
  refine At.next ?_
  refine V.keep [(0, Value.int .i64 (a0))] ⟨rfl, trivial⟩ ?_
  refine V.seq ?_
  refine V.region ?_
  refine W.rd (X.move rfl) rfl rfl rfl ?_
  refine W.rd (X.assign rfl) rfl rfl rfl ?_
  refine W.nil ?_
  refine At.next ?_
  refine V.keep [(2, Value.int .i64 (a0))] ⟨rfl, trivial⟩ ?_
  refine V.ret ?_
  cases H
  exact At.ret1 rfl rfl ⟨_, rfl, rfl, HS⟩

def api_Ctl.beq (x y : api_Ctl) : Bool := (x.Kind == y.Kind && (x.Ns == y.Ns && (x.Nr == y.Nr && (x.Poll == y.Poll && true))))

/-! ### signalman/signalmanlaw12.ControlBytes: function 6 -/
mutual
def signalmanlaw12_ControlBytes.j1 (k : Nat) (a0 : api_Ctl) (a1 : Int) (a2 : List Int) (t9 : List Int) (t11 : Bool) (x14 : Bool) : Option (Bool) := (if x14 = true then some (false) else (if t11 = true then (if ((([] : List Int)).length : Int) + (t9).length ≤ 1099511627776 then (if ((([] : List Int) ++ t9).length : Int) + (a2).length ≤ 1099511627776 then ((control_Read.f k ((([] : List Int) ++ t9) ++ a2) a1).bind fun t23 => ((signalmanlaw12_num.f t23.2.2).bind fun t26 => (if t26 = 0 then (if api_Ctl.beq (t23.1) (a0) = true then some (decide (t23.2.1 = ((t9).length : Int))) else some (false)) else some (false)))) else none) else none) else some (decide (((t9).length : Int) = 0))))
def signalmanlaw12_ControlBytes.j0 (k : Nat) (a0 : api_Ctl) (a1 : Int) (a2 : List Int) (t2 : Bool) (x5 : Bool) : Option (Bool) := (if x5 = true then some (t2) else ((control_Bytes.f (a0) a1).bind fun t9 => ((signalmanref6_RightCtl.f (a0) a1).bind fun t11 => ((control_Right.f (a0) a1).bind fun t32 => (if ((t32) != (t11)) = true then (signalmanlaw12_ControlBytes.j1 k a0 a1 a2 t9 t11 true) else ((signalmanref6_CtlBytes.f (a0) a1).bind fun t35 => (signalmanlaw12_ControlBytes.j1 k a0 a1 a2 t9 t11 (!(sEq (t9) (t35))))))))))
end
def signalmanlaw12_ControlBytes.f (k : Nat) (a0 : api_Ctl) (a1 : Int) (a2 : List Int) : Option (Bool) := ((signalmanlaw12_alive.f ).bind fun t2 => (if t2 = true then (signalmanlaw12_ControlBytes.j0 k a0 a1 a2 t2 (decide (((a2).length : Int) > 50))) else (signalmanlaw12_ControlBytes.j0 k a0 a1 a2 t2 true)))
set_option maxRecDepth 100000 in
set_option maxHeartbeats 4000000 in
theorem signalmanlaw12_ControlBytes.calls (k : Nat) (a0 : api_Ctl) (a1 : Int) (a2 : List Int) (R : As) (w0 w : World) (sa2 : Option Addr) (sc2 : Nat) (r : Bool) (hr2 : rdC R 1 (.slice sa2 (a2).length sc2) (a2).length ((a2).map (Value.int .u8))) (H : signalmanlaw12_ControlBytes.f k a0 a1 a2 = some r) (HS : Sep.St [R] w0 w) : Calls Try.prog 6 #[Value.agg #[Value.int .i64 (a0.Kind), Value.int .i64 (a0.Ns), Value.int .i64 (a0.Nr), Value.bool (a0.Poll)], Value.int .i64 (a1), Value.slice sa2 (a2).length sc2] w (Ret fun u w => u = Value.bool (r) ∧ Sep.St [R] w0 w) := by
  unfold signalmanlaw12_ControlBytes.f at H
  refine calls_enter Try.func6 rfl rfl ?_
  have H : _ = some r := H
  refine V.seq ?_
  refine V.region ?_
  refine W.ev (Y.box HS rfl) rfl rfl rfl ?_
  rintro _ w ⟨nb1, rfl, HS⟩
  have HS : Sep.St [blk nb1 (#[Value.int .i64 (a0.Kind), Value.int .i64 (a0.Ns), Value.int .i64 (a0.Nr), Value.bool (a0.Poll)]) 23, R] w0 w := HS
  refine W.rd (X.assign rfl) rfl rfl rfl ?_
  refine W.nil ?_
  refine At.next ?_
  refine V.keep [(1, Value.int .i64 (a1)), (2, Value.slice sa2 (a2).length sc2), (3, Value.pointer (some ⟨nb1, 0, none⟩))] ⟨rfl, rfl, rfl, trivial⟩ ?_
  refine V.seq ?_
  refine V.region ?_
  obtain ⟨t2, A3, H⟩ := bind_s H
  refine W.ev (Y.call Try.func8 (by kernel_rfl) rfl (vs := []) rfl (signalmanlaw12_alive.calls  _ w0 _  t2  A3 (Sep.St.tailJoin (m := []) (r := [blk nb1 (#[Value.int .i64 (a0.Kind), Value.int .i64 (a0.Ns), Value.int .i64 (a0.Nr), Value.bool (a0.Poll)]) 23, R]) HS))) rfl rfl rfl ?_
  rintro _ w ⟨rfl, HS⟩
  replace HS := Sep.St.tailOpen (m := []) (r := [blk nb1 (#[Value.int .i64 (a0.Kind), Value.int .i64 (a0.Ns), Value.int .i64 (a0.Nr), Value.bool (a0.Poll)]) 23, R]) HS
  have HS : Sep.St [blk nb1 (#[Value.int .i64 (a0.Kind), Value.int .i64 (a0.Ns), Value.int .i64 (a0.Nr), Value.bool (a0.Poll)]) 23, R] w0 w := HS
  refine W.rd (X.assign rfl) rfl rfl rfl ?_
  refine W.nil ?_
  refine At.next ?_
  refine V.keep [(1, Value.int .i64 (a1)), (2, Value.slice sa2 (a2).length sc2), (3, Value.pointer (some ⟨nb1, 0, none⟩)), (7, Value.bool (t2))] ⟨rfl, rfl, rfl, rfl, trivial⟩ ?_
  refine V.seq ?_
  refine V.meet (σ := Bool) (fun st w => match st with | x5 => Sep.St [api_Ctl.at nb1 (a0), R] w0 w ∧ signalmanlaw12_ControlBytes.j0 k a0 a1 a2 t2 x5 = some r) (fun st => match st with | x5 => [(1, Value.int .i64 (a1)), (2, Value.slice sa2 (a2).length sc2), (3, Value.pointer (some ⟨nb1, 0, none⟩)), (7, Value.bool (t2)), (20, Value.bool (x5))]) ?_ ?_
  · refine V.region ?_
    refine W.rd (X.move rfl) rfl rfl rfl ?_
    refine W.rd (X.not rfl) rfl rfl rfl ?_
    refine W.rd (X.move rfl) rfl rfl rfl ?_
    by_cases c37 : t2 = true
    · replace H := ite_t c37 H
      refine W.want 16 rfl (sb (n_t c37)) ?_
      refine W.rd (X.move rfl) rfl rfl rfl ?_
      refine W.want 16 rfl (sb (n_t c37)) ?_
      refine W.rd (X.lenSl Try.underlying26 rfl) rfl rfl rfl ?_
      refine W.want 16 rfl (sb (n_t c37)) ?_
      refine W.rd (X.cmp (decide (((a2).length : Int) > 50)) rfl rfl rfl rfl) rfl rfl rfl ?_
      refine W.rd (X.pickF (sb (n_t c37)) rfl) rfl rfl rfl ?_
      refine W.nil ?_
      replace HS := api_Ctl.close (a0) trivial HS
      have HS : Sep.St [api_Ctl.at nb1 (a0), R] w0 w := HS
      exact At.meet (decide (((a2).length : Int) > 50)) ⟨rfl, rfl, rfl, rfl, rfl, trivial⟩ ⟨HS, H⟩
    · replace H := ite_f c37 H
      refine W.pass 16 rfl (sb (n_f (b_f c37))) rfl rfl ?_
      refine W.pass 16 rfl (sb (n_f (b_f c37))) rfl rfl ?_
      refine W.pass 16 rfl (sb (n_f (b_f c37))) rfl rfl ?_
      refine W.rd (X.pickT (sb (n_f (b_f c37))) rfl) rfl rfl rfl ?_
      refine W.nil ?_
      replace HS := api_Ctl.close (a0) trivial HS
      have HS : Sep.St [api_Ctl.at nb1 (a0), R] w0 w := HS
      exact At.meet (true) ⟨rfl, rfl, rfl, rfl, rfl, trivial⟩ ⟨HS, H⟩
  · rintro x5 w ⟨HS, H⟩
    unfold signalmanlaw12_ControlBytes.j0 at H
    have HS : Sep.St [api_Ctl.at nb1 (a0), R] w0 w := HS
    by_cases c6 : x5 = true
    · replace H := ite_t c6 H
      refine V.condT (sb c6) ?_
      refine V.seq ?_
      refine V.region ?_
      refine W.rd (X.move rfl) rfl rfl rfl ?_
      refine W.rd (X.assign rfl) rfl rfl rfl ?_
      refine W.nil ?_
      refine At.next ?_
      refine V.keep [(6, Value.bool (t2))] ⟨rfl, trivial⟩ ?_
      refine V.ret ?_
      refine At.thenRet ?_
      replace HS := HS.sel [1] [0] rfl
      cases H
      exact At.ret1 rfl rfl ⟨_, rfl, rfl, HS⟩
    · replace H := ite_f c6 H
      refine V.condF (sb (b_f c6)) ?_
      refine V.skip ?_
      refine At.next ?_
      refine V.keep [(1, Value.int .i64 (a1)), (2, Value.slice sa2 (a2).length sc2), (3, Value.pointer (some ⟨nb1, 0, none⟩))] ⟨rfl, rfl, rfl, trivial⟩ ?_
      refine V.seq ?_
      refine V.region ?_
      obtain ⟨hi8, HS⟩ := api_Ctl.open HS
      have HS : Sep.St [blk nb1 (#[Value.int .i64 ((a0).Kind), Value.int .i64 ((a0).Ns), Value.int .i64 ((a0).Nr), Value.bool ((a0).Poll)]) 23, R] w0 w := HS
      refine W.rd (X.loadSt 0 [Value.int .i64 ((a0).Kind), Value.int .i64 ((a0).Ns), Value.int .i64 ((a0).Nr), Value.bool ((a0).Poll)] HS rfl Try.underlying23 rfl inf23 rfl rfl) rfl rfl rfl ?_
      refine W.rd (X.move rfl) rfl rfl rfl ?_
      obtain ⟨t9, A10, H⟩ := bind_s H
      refine W.ev (Y.call Try.func10 (by kernel_rfl) rfl (vs := [Value.agg #[Value.int .i64 ((a0).Kind), Value.int .i64 ((a0).Ns), Value.int .i64 ((a0).Nr), Value.bool ((a0).Poll)], Value.int .i64 (a1)]) rfl (control_Bytes.calls (a0) a1 _ w0 _  t9  A10 (Sep.St.tailJoin (m := []) (r := [blk nb1 (#[Value.int .i64 ((a0).Kind), Value.int .i64 ((a0).Ns), Value.int .i64 ((a0).Nr), Value.bool ((a0).Poll)]) 23, R]) HS))) rfl rfl rfl ?_
      rintro _ w ⟨at9_0, ct9_0, rfl, HS⟩
      replace HS := Sep.St.tailOpen (m := [row 5 1 (.slice at9_0 (t9).length ct9_0) (t9).length ((t9).map (Value.int .u8))]) (r := [blk nb1 (#[Value.int .i64 ((a0).Kind), Value.int .i64 ((a0).Ns), Value.int .i64 ((a0).Nr), Value.bool ((a0).Poll)]) 23, R]) HS
      have HS : Sep.St [row 5 1 (.slice at9_0 (t9).length ct9_0) (t9).length ((t9).map (Value.int .u8)), blk nb1 (#[Value.int .i64 ((a0).Kind), Value.int .i64 ((a0).Ns), Value.int .i64 ((a0).Nr), Value.bool ((a0).Poll)]) 23, R] w0 w := HS
      refine W.rd (X.assign rfl) rfl rfl rfl ?_
      refine W.nil ?_
      refine At.next ?_
      refine V.keep [(1, Value.int .i64 (a1)), (2, Value.slice sa2 (a2).length sc2), (3, Value.pointer (some ⟨nb1, 0, none⟩)), (8, Value.slice at9_0 (t9).length ct9_0)] ⟨rfl, rfl, rfl, rfl, trivial⟩ ?_
      refine V.seq ?_
      refine V.region ?_
      refine W.rd (X.loadSt 1 [Value.int .i64 ((a0).Kind), Value.int .i64 ((a0).Ns), Value.int .i64 ((a0).Nr), Value.bool ((a0).Poll)] HS rfl Try.underlying23 rfl inf23 rfl rfl) rfl rfl rfl ?_
      refine W.rd (X.move rfl) rfl rfl rfl ?_
      obtain ⟨t11, A12, H⟩ := bind_s H
      refine W.ev (Y.call Try.func9 (by kernel_rfl) rfl (vs := [Value.agg #[Value.int .i64 ((a0).Kind), Value.int .i64 ((a0).Ns), Value.int .i64 ((a0).Nr), Value.bool ((a0).Poll)], Value.int .i64 (a1)]) rfl (signalmanref6_RightCtl.calls (a0) a1 _ w0 _  t11  A12 (Sep.St.tailJoin (m := []) (r := [row 5 1 (.slice at9_0 (t9).length ct9_0) (t9).length ((t9).map (Value.int .u8)), blk nb1 (#[Value.int .i64 ((a0).Kind), Value.int .i64 ((a0).Ns), Value.int .i64 ((a0).Nr), Value.bool ((a0).Poll)]) 23, R]) HS))) rfl rfl rfl ?_
      rintro _ w ⟨rfl, HS⟩
      replace HS := Sep.St.tailOpen (m := []) (r := [row 5 1 (.slice at9_0 (t9).length ct9_0) (t9).length ((t9).map (Value.int .u8)), blk nb1 (#[Value.int .i64 ((a0).Kind), Value.int .i64 ((a0).Ns), Value.int .i64 ((a0).Nr), Value.bool ((a0).Poll)]) 23, R]) HS
      have HS : Sep.St [row 5 1 (.slice at9_0 (t9).length ct9_0) (t9).length ((t9).map (Value.int .u8)), blk nb1 (#[Value.int .i64 ((a0).Kind), Value.int .i64 ((a0).Ns), Value.int .i64 ((a0).Nr), Value.bool ((a0).Poll)]) 23, R] w0 w := HS
      refine W.rd (X.assign rfl) rfl rfl rfl ?_
      refine W.nil ?_
      refine At.next ?_
      refine V.keep [(1, Value.int .i64 (a1)), (2, Value.slice sa2 (a2).length sc2), (3, Value.pointer (some ⟨nb1, 0, none⟩)), (8, Value.slice at9_0 (t9).length ct9_0), (9, Value.bool (t11))] ⟨rfl, rfl, rfl, rfl, rfl, trivial⟩ ?_
      refine V.seq ?_
      refine V.meet (σ := Bool) (fun st w => match st with | x14 => Sep.St [api_Ctl.at nb1 (a0), row 5 1 (.slice at9_0 (t9).length ct9_0) (t9).length ((t9).map (Value.int .u8)), R] w0 w ∧ signalmanlaw12_ControlBytes.j1 k a0 a1 a2 t9 t11 x14 = some r) (fun st => match st with | x14 => [(1, Value.int .i64 (a1)), (2, Value.slice sa2 (a2).length sc2), (3, Value.pointer (some ⟨nb1, 0, none⟩)), (8, Value.slice at9_0 (t9).length ct9_0), (9, Value.bool (t11)), (41, Value.bool (x14))]) ?_ ?_
      · refine V.draw (es := [2, 10]) (bl := [4, 5, 6, 7, 8, 9, 11, 12, 13]) (f := [(28, Value.agg #[Value.int .i64 ((a0).Kind), Value.int .i64 ((a0).Ns), Value.int .i64 ((a0).Nr), Value.bool ((a0).Poll)]), (29, Value.int .i64 (a1)), (31, Value.bool (t11))]) (fun w => Sep.St [row 5 1 (.slice at9_0 (t9).length ct9_0) (t9).length ((t9).map (Value.int .u8)), blk nb1 (#[Value.int .i64 ((a0).Kind), Value.int .i64 ((a0).Ns), Value.int .i64 ((a0).Nr), Value.bool ((a0).Poll)]) 23, R] w0 w) mo HS.drew rfl ?_
        refine T.event _ [(28, Value.agg #[Value.int .i64 ((a0).Kind), Value.int .i64 ((a0).Ns), Value.int .i64 ((a0).Nr), Value.bool ((a0).Poll)]), (29, Value.int .i64 (a1))] rfl rfl ⟨⟨_, Value.agg #[Value.int .i64 ((a0).Kind), Value.int .i64 ((a0).Ns), Value.int .i64 ((a0).Nr), Value.bool ((a0).Poll)], [(3, Value.pointer (some ⟨nb1, 0, none⟩))], 28, rfl, rfl, ⟨.inl ⟨rfl, rfl⟩, trivial⟩, .run rfl (fun w HS => X.loadSt 1 [Value.int .i64 ((a0).Kind), Value.int .i64 ((a0).Ns), Value.int .i64 ((a0).Nr), Value.bool ((a0).Poll)] HS rfl Try.underlying23 rfl inf23 rfl rfl), rfl, rfl, rfl⟩, ⟨_, Value.int .i64 (a1), [(1, Value.int .i64 (a1))], 29, rfl, rfl, ⟨.inl ⟨rfl, rfl⟩, trivial⟩, .run rfl (fun w HS => X.move rfl), rfl, rfl, rfl⟩, ⟨_, Value.bool (t11), [(9, Value.bool (t11))], 31, rfl, rfl, ⟨.inl ⟨rfl, rfl⟩, trivial⟩, .run rfl (fun w HS => X.move rfl), rfl, rfl, rfl⟩, trivial⟩ rfl ⟨.inr ⟨rfl, rfl⟩, ⟨.inr ⟨rfl, rfl⟩, trivial⟩⟩ (Or.inl rfl) (by intro d hd; cases hd; exact ⟨by decide, rfl, rfl⟩) [11, 12, 13] [0, 1] rfl rfl (fun w HS => ?_)
        have HS : Sep.St [row 5 1 (.slice at9_0 (t9).length ct9_0) (t9).length ((t9).map (Value.int .u8)), blk nb1 (#[Value.int .i64 ((a0).Kind), Value.int .i64 ((a0).Ns), Value.int .i64 ((a0).Nr), Value.bool ((a0).Poll)]) 23, R] w0 w := HS
        obtain ⟨t32, A33, H⟩ := bind_s H
        refine ⟨_, Y.call Try.func11 (by kernel_rfl) rfl (vs := [Value.agg #[Value.int .i64 ((a0).Kind), Value.int .i64 ((a0).Ns), Value.int .i64 ((a0).Nr), Value.bool ((a0).Poll)], Value.int .i64 (a1)]) rfl (control_Right.calls (a0) a1 _ w0 _  t32  A33 (Sep.St.tailJoin (m := []) (r := [row 5 1 (.slice at9_0 (t9).length ct9_0) (t9).length ((t9).map (Value.int .u8)), blk nb1 (#[Value.int .i64 ((a0).Kind), Value.int .i64 ((a0).Ns), Value.int .i64 ((a0).Nr), Value.bool ((a0).Poll)]) 23, R]) HS)), ?_⟩
        rintro _ w ⟨rfl, HS⟩
        replace HS := Sep.St.tailOpen (m := []) (r := [row 5 1 (.slice at9_0 (t9).length ct9_0) (t9).length ((t9).map (Value.int .u8)), blk nb1 (#[Value.int .i64 ((a0).Kind), Value.int .i64 ((a0).Ns), Value.int .i64 ((a0).Nr), Value.bool ((a0).Poll)]) 23, R]) HS
        have HS : Sep.St [row 5 1 (.slice at9_0 (t9).length ct9_0) (t9).length ((t9).map (Value.int .u8)), blk nb1 (#[Value.int .i64 ((a0).Kind), Value.int .i64 ((a0).Ns), Value.int .i64 ((a0).Nr), Value.bool ((a0).Poll)]) 23, R] w0 w := HS
        by_cases c34 : ((t32) != (t11)) = true
        · replace H := ite_t c34 H
          refine ⟨[(30, Value.bool (t32)), (32, Value.bool (((t32) != (t11)))), (33, Value.bool (((t32) != (t11)))), (34, undef), (35, undef), (36, undef), (37, undef)], fun w => Sep.St [row 5 1 (.slice at9_0 (t9).length ct9_0) (t9).length ((t9).map (Value.int .u8)), blk nb1 (#[Value.int .i64 ((a0).Kind), Value.int .i64 ((a0).Ns), Value.int .i64 ((a0).Nr), Value.bool ((a0).Poll)]) 23, R] w0 w, ⟨.inl ⟨rfl, rfl⟩, ⟨.inr ⟨by decide, rfl⟩, ⟨.inr ⟨by decide, rfl⟩, ⟨.inr ⟨by decide, rfl⟩, ⟨.inr ⟨by decide, rfl⟩, ⟨.inr ⟨by decide, rfl⟩, ⟨.inr ⟨by decide, rfl⟩, trivial⟩⟩⟩⟩⟩⟩⟩, ?_, HS⟩
          refine T.drop (es' := []) (bl' := []) [(38, undef), (39, undef), (40, undef), (41, Value.bool (true))] rfl ⟨.inr ⟨by decide, rfl⟩, ⟨.inr ⟨by decide, rfl⟩, ⟨.inr ⟨by decide, rfl⟩, ⟨.inr ⟨by decide, rfl⟩, trivial⟩⟩⟩⟩ ?_
          refine T.fin [(1, Value.int .i64 (a1)), (2, Value.slice sa2 (a2).length sc2), (3, Value.pointer (some ⟨nb1, 0, none⟩)), (8, Value.slice at9_0 (t9).length ct9_0), (9, Value.bool (t11)), (41, Value.bool (true))] rfl ⟨⟨_, Value.bool (t11), [(9, Value.bool (t11))], 31, rfl, rfl, ⟨.inl ⟨rfl, rfl⟩, trivial⟩, .run rfl (fun w HS => X.move rfl), rfl, rfl, rfl⟩, ⟨_, Value.bool (((t32) != (t11))), [(30, Value.bool (t32)), (31, Value.bool (t11))], 32, rfl, rfl, ⟨.inr ⟨rfl, rfl⟩, ⟨.inr ⟨rfl, rfl⟩, trivial⟩⟩, .run rfl (fun w HS => X.neB Try.underlying4 rfl rfl), rfl, rfl, rfl⟩, ⟨_, Value.bool (((t32) != (t11))), [(32, Value.bool (((t32) != (t11))))], 33, rfl, rfl, ⟨.inr ⟨rfl, rfl⟩, trivial⟩, .run rfl (fun w HS => X.move rfl), rfl, rfl, rfl⟩, ⟨_, undef, [(33, Value.bool (((t32) != (t11))))], 34, rfl, rfl, ⟨.inr ⟨rfl, rfl⟩, trivial⟩, .pass 5 false true 33 rfl rfl (sb c34) rfl rfl, rfl, rfl, rfl⟩, ⟨_, undef, [(33, Value.bool (((t32) != (t11))))], 35, rfl, rfl, ⟨.inr ⟨rfl, rfl⟩, trivial⟩, .pass 5 false true 33 rfl rfl (sb c34) rfl rfl, rfl, rfl, rfl⟩, ⟨_, undef, [(33, Value.bool (((t32) != (t11))))], 36, rfl, rfl, ⟨.inr ⟨rfl, rfl⟩, trivial⟩, .pass 5 false true 33 rfl rfl (sb c34) rfl rfl, rfl, rfl, rfl⟩, ⟨_, undef, [(33, Value.bool (((t32) != (t11))))], 37, rfl, rfl, ⟨.inr ⟨rfl, rfl⟩, trivial⟩, .pass 5 false true 33 rfl rfl (sb c34) rfl rfl, rfl, rfl, rfl⟩, ⟨_, undef, [(33, Value.bool (((t32) != (t11))))], 38, rfl, rfl, ⟨.inr ⟨rfl, rfl⟩, trivial⟩, .pass 5 false true 33 rfl rfl (sb c34) rfl rfl, rfl, rfl, rfl⟩, ⟨_, undef, [(33, Value.bool (((t32) != (t11))))], 39, rfl, rfl, ⟨.inr ⟨rfl, rfl⟩, trivial⟩, .pass 5 false true 33 rfl rfl (sb c34) rfl rfl, rfl, rfl, rfl⟩, ⟨_, undef, [(33, Value.bool (((t32) != (t11))))], 40, rfl, rfl, ⟨.inr ⟨rfl, rfl⟩, trivial⟩, .pass 5 false true 33 rfl rfl (sb c34) rfl rfl, rfl, rfl, rfl⟩, ⟨_, Value.bool (true), [(33, Value.bool (((t32) != (t11)))), (40, undef)], 41, rfl, rfl, ⟨.inr ⟨rfl, rfl⟩, ⟨.inr ⟨rfl, rfl⟩, trivial⟩⟩, .run rfl (fun w HS => X.pickT (sb c34) rfl), rfl, rfl, rfl⟩, trivial⟩ ⟨.inl ⟨rfl, rfl⟩, ⟨.inl ⟨rfl, rfl⟩, ⟨.inl ⟨rfl, rfl⟩, ⟨.inl ⟨rfl, rfl⟩, ⟨.inl ⟨rfl, rfl⟩, ⟨.inr ⟨rfl, rfl⟩, trivial⟩⟩⟩⟩⟩⟩ (fun w HS => ?_)
          have HS : Sep.St [row 5 1 (.slice at9_0 (t9).length ct9_0) (t9).length ((t9).map (Value.int .u8)), blk nb1 (#[Value.int .i64 ((a0).Kind), Value.int .i64 ((a0).Ns), Value.int .i64 ((a0).Nr), Value.bool ((a0).Poll)]) 23, R] w0 w := HS
          replace HS := HS.re [1, 0, 2] rfl
          have HS : Sep.St [blk nb1 (#[Value.int .i64 ((a0).Kind), Value.int .i64 ((a0).Ns), Value.int .i64 ((a0).Nr), Value.bool ((a0).Poll)]) 23, row 5 1 (.slice at9_0 (t9).length ct9_0) (t9).length ((t9).map (Value.int .u8)), R] w0 w := HS
          replace HS := api_Ctl.close (a0) trivial HS
          have HS : Sep.St [api_Ctl.at nb1 (a0), row 5 1 (.slice at9_0 (t9).length ct9_0) (t9).length ((t9).map (Value.int .u8)), R] w0 w := HS
          exact At.meet (true) ⟨rfl, rfl, rfl, rfl, rfl, rfl, trivial⟩ ⟨HS, H⟩
        · replace H := ite_f c34 H
          refine ⟨[(30, Value.bool (t32)), (32, Value.bool (((t32) != (t11)))), (33, Value.bool (((t32) != (t11)))), (34, Value.slice at9_0 (t9).length ct9_0), (35, Value.string (strOf (t9))), (36, Value.agg #[Value.int .i64 ((a0).Kind), Value.int .i64 ((a0).Ns), Value.int .i64 ((a0).Nr), Value.bool ((a0).Poll)]), (37, Value.int .i64 (a1))], fun w => Sep.St [row 5 1 (.slice at9_0 (t9).length ct9_0) (t9).length ((t9).map (Value.int .u8)), blk nb1 (#[Value.int .i64 ((a0).Kind), Value.int .i64 ((a0).Ns), Value.int .i64 ((a0).Nr), Value.bool ((a0).Poll)]) 23, R] w0 w, ⟨.inl ⟨rfl, rfl⟩, ⟨.inr ⟨by decide, rfl⟩, ⟨.inr ⟨by decide, rfl⟩, ⟨.inr ⟨by decide, rfl⟩, ⟨.inr ⟨by decide, rfl⟩, ⟨.inr ⟨by decide, rfl⟩, ⟨.inr ⟨by decide, rfl⟩, trivial⟩⟩⟩⟩⟩⟩⟩, ?_, HS⟩
          refine T.event _ [(36, Value.agg #[Value.int .i64 ((a0).Kind), Value.int .i64 ((a0).Ns), Value.int .i64 ((a0).Nr), Value.bool ((a0).Poll)]), (37, Value.int .i64 (a1)), (33, Value.bool (((t32) != (t11))))] rfl rfl ⟨⟨_, Value.bool (t11), [(9, Value.bool (t11))], 31, rfl, rfl, ⟨.inl ⟨rfl, rfl⟩, trivial⟩, .run rfl (fun w HS => X.move rfl), rfl, rfl, rfl⟩, ⟨_, Value.bool (((t32) != (t11))), [(30, Value.bool (t32)), (31, Value.bool (t11))], 32, rfl, rfl, ⟨.inr ⟨rfl, rfl⟩, ⟨.inr ⟨rfl, rfl⟩, trivial⟩⟩, .run rfl (fun w HS => X.neB Try.underlying4 rfl rfl), rfl, rfl, rfl⟩, ⟨_, Value.bool (((t32) != (t11))), [(32, Value.bool (((t32) != (t11))))], 33, rfl, rfl, ⟨.inr ⟨rfl, rfl⟩, trivial⟩, .run rfl (fun w HS => X.move rfl), rfl, rfl, rfl⟩, ⟨_, Value.slice at9_0 (t9).length ct9_0, [(8, Value.slice at9_0 (t9).length ct9_0), (33, Value.bool (((t32) != (t11))))], 34, rfl, rfl, ⟨.inl ⟨rfl, rfl⟩, ⟨.inr ⟨rfl, rfl⟩, trivial⟩⟩, .want 5 false 33 rfl rfl (sb (b_f c34)) (fun w HS => X.move rfl), rfl, rfl, rfl⟩, ⟨_, Value.string (strOf (t9)), [(34, Value.slice at9_0 (t9).length ct9_0), (33, Value.bool (((t32) != (t11))))], 35, rfl, rfl, ⟨.inr ⟨rfl, rfl⟩, ⟨.inr ⟨rfl, rfl⟩, trivial⟩⟩, .want 5 false 33 rfl rfl (sb (b_f c34)) (fun w HS => X.bytesStr Try.underlying26 Try.underlying5 Try.underlying9 rfl (rdC.at 0 row_rd HS rfl)), rfl, rfl, rfl⟩, ⟨_, Value.agg #[Value.int .i64 ((a0).Kind), Value.int .i64 ((a0).Ns), Value.int .i64 ((a0).Nr), Value.bool ((a0).Poll)], [(3, Value.pointer (some ⟨nb1, 0, none⟩)), (33, Value.bool (((t32) != (t11))))], 36, rfl, rfl, ⟨.inl ⟨rfl, rfl⟩, ⟨.inr ⟨rfl, rfl⟩, trivial⟩⟩, .want 5 false 33 rfl rfl (sb (b_f c34)) (fun w HS => X.loadSt 1 [Value.int .i64 ((a0).Kind), Value.int .i64 ((a0).Ns), Value.int .i64 ((a0).Nr), Value.bool ((a0).Poll)] HS rfl Try.underlying23 rfl inf23 rfl rfl), rfl, rfl, rfl⟩, ⟨_, Value.int .i64 (a1), [(1, Value.int .i64 (a1)), (33, Value.bool (((t32) != (t11))))], 37, rfl, rfl, ⟨.inl ⟨rfl, rfl⟩, ⟨.inr ⟨rfl, rfl⟩, trivial⟩⟩, .want 5 false 33 rfl rfl (sb (b_f c34)) (fun w HS => X.move rfl), rfl, rfl, rfl⟩, trivial⟩ rfl ⟨.inr ⟨rfl, rfl⟩, ⟨.inr ⟨rfl, rfl⟩, ⟨.inr ⟨rfl, rfl⟩, trivial⟩⟩⟩ (Or.inr ⟨5, false, 33, rfl, rfl, (sb (b_f c34))⟩) (by intro d hd; cases hd; exact ⟨by decide, rfl, rfl⟩) [] [3, 4, 5, 8, 9] rfl rfl (fun w HS => ?_)
          have HS : Sep.St [row 5 1 (.slice at9_0 (t9).length ct9_0) (t9).length ((t9).map (Value.int .u8)), blk nb1 (#[Value.int .i64 ((a0).Kind), Value.int .i64 ((a0).Ns), Value.int .i64 ((a0).Nr), Value.bool ((a0).Poll)]) 23, R] w0 w := HS
          obtain ⟨t35, A36, H⟩ := bind_s H
          refine ⟨_, Y.call Try.func12 (by kernel_rfl) rfl (vs := [Value.agg #[Value.int .i64 ((a0).Kind), Value.int .i64 ((a0).Ns), Value.int .i64 ((a0).Nr), Value.bool ((a0).Poll)], Value.int .i64 (a1)]) rfl (signalmanref6_CtlBytes.calls (a0) a1 _ w0 _  t35  A36 (Sep.St.tailJoin (m := []) (r := [row 5 1 (.slice at9_0 (t9).length ct9_0) (t9).length ((t9).map (Value.int .u8)), blk nb1 (#[Value.int .i64 ((a0).Kind), Value.int .i64 ((a0).Ns), Value.int .i64 ((a0).Nr), Value.bool ((a0).Poll)]) 23, R]) HS)), ?_⟩
          rintro _ w ⟨at35_0, ct35_0, rfl, HS⟩
          replace HS := Sep.St.tailOpen (m := [row 5 1 (.slice at35_0 (t35).length ct35_0) (t35).length ((t35).map (Value.int .u8))]) (r := [row 5 1 (.slice at9_0 (t9).length ct9_0) (t9).length ((t9).map (Value.int .u8)), blk nb1 (#[Value.int .i64 ((a0).Kind), Value.int .i64 ((a0).Ns), Value.int .i64 ((a0).Nr), Value.bool ((a0).Poll)]) 23, R]) HS
          have HS : Sep.St [row 5 1 (.slice at35_0 (t35).length ct35_0) (t35).length ((t35).map (Value.int .u8)), row 5 1 (.slice at9_0 (t9).length ct9_0) (t9).length ((t9).map (Value.int .u8)), blk nb1 (#[Value.int .i64 ((a0).Kind), Value.int .i64 ((a0).Ns), Value.int .i64 ((a0).Nr), Value.bool ((a0).Poll)]) 23, R] w0 w := HS
          refine ⟨[(38, Value.slice at35_0 (t35).length ct35_0), (39, Value.string (strOf (t35))), (40, Value.bool (!(sEq (t9) (t35)))), (41, Value.bool (!(sEq (t9) (t35))))], fun w => Sep.St [row 5 1 (.slice at35_0 (t35).length ct35_0) (t35).length ((t35).map (Value.int .u8)), row 5 1 (.slice at9_0 (t9).length ct9_0) (t9).length ((t9).map (Value.int .u8)), blk nb1 (#[Value.int .i64 ((a0).Kind), Value.int .i64 ((a0).Ns), Value.int .i64 ((a0).Nr), Value.bool ((a0).Poll)]) 23, R] w0 w, ⟨.inl ⟨rfl, rfl⟩, ⟨.inr ⟨by decide, rfl⟩, ⟨.inr ⟨by decide, rfl⟩, ⟨.inr ⟨by decide, rfl⟩, trivial⟩⟩⟩⟩, ?_, HS⟩
          refine T.fin [(1, Value.int .i64 (a1)), (2, Value.slice sa2 (a2).length sc2), (3, Value.pointer (some ⟨nb1, 0, none⟩)), (8, Value.slice at9_0 (t9).length ct9_0), (9, Value.bool (t11)), (41, Value.bool (!(sEq (t9) (t35))))] rfl ⟨⟨_, Value.slice at9_0 (t9).length ct9_0, [(8, Value.slice at9_0 (t9).length ct9_0), (33, Value.bool (((t32) != (t11))))], 34, rfl, rfl, ⟨.inl ⟨rfl, rfl⟩, ⟨.inr ⟨rfl, rfl⟩, trivial⟩⟩, .want 5 false 33 rfl rfl (sb (b_f c34)) (fun w HS => X.move rfl), rfl, rfl, rfl⟩, ⟨_, Value.string (strOf (t9)), [(34, Value.slice at9_0 (t9).length ct9_0), (33, Value.bool (((t32) != (t11))))], 35, rfl, rfl, ⟨.inr ⟨rfl, rfl⟩, ⟨.inr ⟨rfl, rfl⟩, trivial⟩⟩, .want 5 false 33 rfl rfl (sb (b_f c34)) (fun w HS => X.bytesStr Try.underlying26 Try.underlying5 Try.underlying9 rfl (rdC.at 1 row_rd HS rfl)), rfl, rfl, rfl⟩, ⟨_, Value.string (strOf (t35)), [(38, Value.slice at35_0 (t35).length ct35_0), (33, Value.bool (((t32) != (t11))))], 39, rfl, rfl, ⟨.inr ⟨rfl, rfl⟩, ⟨.inr ⟨rfl, rfl⟩, trivial⟩⟩, .want 5 false 33 rfl rfl (sb (b_f c34)) (fun w HS => X.bytesStr Try.underlying26 Try.underlying5 Try.underlying9 rfl (rdC.at 0 row_rd HS rfl)), rfl, rfl, rfl⟩, ⟨_, Value.bool (!(sEq (t9) (t35))), [(35, Value.string (strOf (t9))), (39, Value.string (strOf (t35))), (33, Value.bool (((t32) != (t11))))], 40, rfl, rfl, ⟨.inr ⟨rfl, rfl⟩, ⟨.inr ⟨rfl, rfl⟩, ⟨.inr ⟨rfl, rfl⟩, trivial⟩⟩⟩, .want 5 false 33 rfl rfl (sb (b_f c34)) (fun w HS => X.neStr rfl rfl), rfl, rfl, rfl⟩, ⟨_, Value.bool (!(sEq (t9) (t35))), [(33, Value.bool (((t32) != (t11)))), (40, Value.bool (!(sEq (t9) (t35))))], 41, rfl, rfl, ⟨.inr ⟨rfl, rfl⟩, ⟨.inr ⟨rfl, rfl⟩, trivial⟩⟩, .run rfl (fun w HS => X.pickF (sb (b_f c34)) rfl), rfl, rfl, rfl⟩, trivial⟩ ⟨.inl ⟨rfl, rfl⟩, ⟨.inl ⟨rfl, rfl⟩, ⟨.inl ⟨rfl, rfl⟩, ⟨.inl ⟨rfl, rfl⟩, ⟨.inl ⟨rfl, rfl⟩, ⟨.inr ⟨rfl, rfl⟩, trivial⟩⟩⟩⟩⟩⟩ (fun w HS => ?_)
          have HS : Sep.St [row 5 1 (.slice at35_0 (t35).length ct35_0) (t35).length ((t35).map (Value.int .u8)), row 5 1 (.slice at9_0 (t9).length ct9_0) (t9).length ((t9).map (Value.int .u8)), blk nb1 (#[Value.int .i64 ((a0).Kind), Value.int .i64 ((a0).Ns), Value.int .i64 ((a0).Nr), Value.bool ((a0).Poll)]) 23, R] w0 w := HS
          replace HS := HS.re [2, 0, 1, 3] rfl
          have HS : Sep.St [blk nb1 (#[Value.int .i64 ((a0).Kind), Value.int .i64 ((a0).Ns), Value.int .i64 ((a0).Nr), Value.bool ((a0).Poll)]) 23, row 5 1 (.slice at35_0 (t35).length ct35_0) (t35).length ((t35).map (Value.int .u8)), row 5 1 (.slice at9_0 (t9).length ct9_0) (t9).length ((t9).map (Value.int .u8)), R] w0 w := HS
          replace HS := api_Ctl.close (a0) trivial HS
          have HS : Sep.St [api_Ctl.at nb1 (a0), row 5 1 (.slice at35_0 (t35).length ct35_0) (t35).length ((t35).map (Value.int .u8)), row 5 1 (.slice at9_0 (t9).length ct9_0) (t9).length ((t9).map (Value.int .u8)), R] w0 w := HS
          replace HS := HS.sel [0, 2, 3] [1] rfl
          exact At.meet (!(sEq (t9) (t35))) ⟨rfl, rfl, rfl, rfl, rfl, rfl, trivial⟩ ⟨HS, H⟩
      · rintro x14 w ⟨HS, H⟩
        unfold signalmanlaw12_ControlBytes.j1 at H
        have HS : Sep.St [api_Ctl.at nb1 (a0), row 5 1 (.slice at9_0 (t9).length ct9_0) (t9).length ((t9).map (Value.int .u8)), R] w0 w := HS
        by_cases c15 : x14 = true
        · replace H := ite_t c15 H
          refine V.condT (sb c15) ?_
          refine V.seq ?_
          refine V.region ?_
          refine W.rd (X.assign rfl) rfl rfl rfl ?_
          refine W.nil ?_
          refine At.next ?_
          refine V.keep [(6, Value.bool (false))] ⟨rfl, trivial⟩ ?_
          refine V.ret ?_
          refine At.thenRet ?_
          replace HS := HS.sel [2] [0, 1] rfl
          cases H
          exact At.ret1 rfl rfl ⟨_, rfl, rfl, HS⟩
        · replace H := ite_f c15 H
          refine V.condF (sb (b_f c15)) ?_
          refine V.skip ?_
          refine At.next ?_
          refine V.keep [(1, Value.int .i64 (a1)), (2, Value.slice sa2 (a2).length sc2), (3, Value.pointer (some ⟨nb1, 0, none⟩)), (8, Value.slice at9_0 (t9).length ct9_0), (9, Value.bool (t11))] ⟨rfl, rfl, rfl, rfl, rfl, trivial⟩ ?_
          refine V.seq ?_
          refine V.seq ?_
          refine V.region ?_
          refine W.rd (X.move rfl) rfl rfl rfl ?_
          refine W.rd (X.not rfl) rfl rfl rfl ?_
          refine W.nil ?_
          refine At.next ?_
          refine V.keep [(1, Value.int .i64 (a1)), (2, Value.slice sa2 (a2).length sc2), (3, Value.pointer (some ⟨nb1, 0, none⟩)), (8, Value.slice at9_0 (t9).length ct9_0), (43, Value.bool (!(t11)))] ⟨rfl, rfl, rfl, rfl, rfl, trivial⟩ ?_
          by_cases c16 : t11 = true
          · replace H := ite_t c16 H
            refine V.condF (sb (n_t c16)) ?_
            refine V.skip ?_
            refine At.next ?_
            refine V.keep [(1, Value.int .i64 (a1)), (2, Value.slice sa2 (a2).length sc2), (3, Value.pointer (some ⟨nb1, 0, none⟩)), (8, Value.slice at9_0 (t9).length ct9_0)] ⟨rfl, rfl, rfl, rfl, trivial⟩ ?_
            refine V.seq ?_
            refine V.region ?_
            refine W.rd (X.move rfl) rfl rfl rfl ?_
            obtain ⟨c17, H⟩ := ite_n H
            replace HS := row_nil' (e := 5) 1 none HS
            have HS : Sep.St [row 5 1 (.slice none (([] : List Int)).length 0) (([] : List Int)).length ((([] : List Int)).map (Value.int .u8)), api_Ctl.at nb1 (a0), row 5 1 (.slice at9_0 (t9).length ct9_0) (t9).length ((t9).map (Value.int .u8)), R] w0 w := HS
            refine W.ev (Y.appF (Value.int .u8) (fun _ => rfl) 0 Try.underlying26 ap5 rfl HS rfl rfl rfl (rdC.at 2 row_rd HS rfl) (by omega) (by omega)) rfl rfl rfl ?_
            rintro _ w ⟨ra18, rc19, rfl, HS⟩
            have HS : Sep.St [row 5 1 (.slice ra18 (([] : List Int) ++ t9).length rc19) (([] : List Int) ++ t9).length ((([] : List Int) ++ t9).map (Value.int .u8)), api_Ctl.at nb1 (a0), row 5 1 (.slice at9_0 (t9).length ct9_0) (t9).length ((t9).map (Value.int .u8)), R] w0 w := HS
            refine W.rd (X.move rfl) rfl rfl rfl ?_
            obtain ⟨c20, H⟩ := ite_n H
            refine W.ev (Y.appF (Value.int .u8) (fun _ => rfl) 0 Try.underlying26 ap5 rfl HS rfl rfl rfl (rdC.at 3 hr2 HS rfl) (by omega) (by omega)) rfl rfl rfl ?_
            rintro _ w ⟨ra21, rc22, rfl, HS⟩
            have HS : Sep.St [row 5 1 (.slice ra21 ((([] : List Int) ++ t9) ++ a2).length rc22) ((([] : List Int) ++ t9) ++ a2).length (((([] : List Int) ++ t9) ++ a2).map (Value.int .u8)), api_Ctl.at nb1 (a0), row 5 1 (.slice at9_0 (t9).length ct9_0) (t9).length ((t9).map (Value.int .u8)), R] w0 w := HS
            refine W.rd (X.move rfl) rfl rfl rfl ?_
            obtain ⟨t23, A24, H⟩ := bind_s H
            refine W.ev (Y.call Try.func13 (by kernel_rfl) rfl (vs := [Value.slice ra21 ((([] : List Int) ++ t9) ++ a2).length rc22, Value.int .i64 (a1)]) rfl (control_Read.calls k ((([] : List Int) ++ t9) ++ a2) a1 _ w0 _ ra21 rc22 t23 (rdC.part 0 row_rd rfl) A24 (Sep.St.tailJoin (m := []) (r := [row 5 1 (.slice ra21 ((([] : List Int) ++ t9) ++ a2).length rc22) ((([] : List Int) ++ t9) ++ a2).length (((([] : List Int) ++ t9) ++ a2).map (Value.int .u8)), api_Ctl.at nb1 (a0), row 5 1 (.slice at9_0 (t9).length ct9_0) (t9).length ((t9).map (Value.int .u8)), R]) HS))) rfl rfl rfl ?_
            rintro _ w ⟨rfl, HS⟩
            replace HS := Sep.St.tailOpen (m := []) (r := [row 5 1 (.slice ra21 ((([] : List Int) ++ t9) ++ a2).length rc22) ((([] : List Int) ++ t9) ++ a2).length (((([] : List Int) ++ t9) ++ a2).map (Value.int .u8)), api_Ctl.at nb1 (a0), row 5 1 (.slice at9_0 (t9).length ct9_0) (t9).length ((t9).map (Value.int .u8)), R]) HS
            have HS : Sep.St [row 5 1 (.slice ra21 ((([] : List Int) ++ t9) ++ a2).length rc22) ((([] : List Int) ++ t9) ++ a2).length (((([] : List Int) ++ t9) ++ a2).map (Value.int .u8)), api_Ctl.at nb1 (a0), row 5 1 (.slice at9_0 (t9).length ct9_0) (t9).length ((t9).map (Value.int .u8)), R] w0 w := HS
            refine W.rd (X.move rfl) rfl rfl rfl ?_
            refine W.rd (X.extract rfl rfl) rfl rfl rfl ?_
            refine W.rd (X.extract rfl rfl) rfl rfl rfl ?_
            refine W.rd (X.extract rfl rfl) rfl rfl rfl ?_
            refine W.ev (Y.alloc (z := Value.agg (#[Value.int .i64 (0), Value.int .i64 (0), Value.int .i64 (0), Value.bool (false)])) HS ze23) rfl rfl rfl ?_
            rintro _ w ⟨nb25, rfl, HS⟩
            have HS : Sep.St [blk nb25 (#[Value.int .i64 (0), Value.int .i64 (0), Value.int .i64 (0), Value.bool (false)]) 23, row 5 1 (.slice ra21 ((([] : List Int) ++ t9) ++ a2).length rc22) ((([] : List Int) ++ t9) ++ a2).length (((([] : List Int) ++ t9) ++ a2).map (Value.int .u8)), api_Ctl.at nb1 (a0), row 5 1 (.slice at9_0 (t9).length ct9_0) (t9).length ((t9).map (Value.int .u8)), R] w0 w := HS
            refine W.ev_none (Y.storeSt (c' := #[Value.int .i64 ((t23.1).Kind), Value.int .i64 ((t23.1).Ns), Value.int .i64 ((t23.1).Nr), Value.bool ((t23.1).Poll)]) 0 [Value.int .i64 ((t23.1).Kind), Value.int .i64 ((t23.1).Ns), Value.int .i64 ((t23.1).Nr), Value.bool ((t23.1).Poll)] HS rfl inf23 rfl rfl rfl rfl rfl rfl) rfl rfl ?_
            rintro _ w HS
            have HS : Sep.St [blk nb25 (#[Value.int .i64 ((t23.1).Kind), Value.int .i64 ((t23.1).Ns), Value.int .i64 ((t23.1).Nr), Value.bool ((t23.1).Poll)]) 23, row 5 1 (.slice ra21 ((([] : List Int) ++ t9) ++ a2).length rc22) ((([] : List Int) ++ t9) ++ a2).length (((([] : List Int) ++ t9) ++ a2).map (Value.int .u8)), api_Ctl.at nb1 (a0), row 5 1 (.slice at9_0 (t9).length ct9_0) (t9).length ((t9).map (Value.int .u8)), R] w0 w := HS
            refine W.rd (X.assign rfl) rfl rfl rfl ?_
            refine W.rd (X.assign rfl) rfl rfl rfl ?_
            refine W.nil ?_
            refine At.next ?_
            refine V.keep [(3, Value.pointer (some ⟨nb1, 0, none⟩)), (8, Value.slice at9_0 (t9).length ct9_0), (10, Value.pointer (some ⟨nb25, 0, none⟩)), (11, Value.int .i64 (t23.2.1)), (12, Value.int .i64 (t23.2.2))] ⟨rfl, rfl, rfl, rfl, rfl, trivial⟩ ?_
            refine V.seq ?_
            refine V.region ?_
            refine W.rd (X.move rfl) rfl rfl rfl ?_
            obtain ⟨t26, A27, H⟩ := bind_s H
            refine W.ev (Y.call Try.func14 (by kernel_rfl) rfl (vs := [Value.int .i64 (t23.2.2)]) rfl (signalmanlaw12_num.calls t23.2.2 _ w0 _  t26  A27 (Sep.St.tailJoin (m := []) (r := [blk nb25 (#[Value.int .i64 ((t23.1).Kind), Value.int .i64 ((t23.1).Ns), Value.int .i64 ((t23.1).Nr), Value.bool ((t23.1).Poll)]) 23, row 5 1 (.slice ra21 ((([] : List Int) ++ t9) ++ a2).length rc22) ((([] : List Int) ++ t9) ++ a2).length (((([] : List Int) ++ t9) ++ a2).map (Value.int .u8)), api_Ctl.at nb1 (a0), row 5 1 (.slice at9_0 (t9).length ct9_0) (t9).length ((t9).map (Value.int .u8)), R]) HS))) rfl rfl rfl ?_
            rintro _ w ⟨rfl, HS⟩
            replace HS := Sep.St.tailOpen (m := []) (r := [blk nb25 (#[Value.int .i64 ((t23.1).Kind), Value.int .i64 ((t23.1).Ns), Value.int .i64 ((t23.1).Nr), Value.bool ((t23.1).Poll)]) 23, row 5 1 (.slice ra21 ((([] : List Int) ++ t9) ++ a2).length rc22) ((([] : List Int) ++ t9) ++ a2).length (((([] : List Int) ++ t9) ++ a2).map (Value.int .u8)), api_Ctl.at nb1 (a0), row 5 1 (.slice at9_0 (t9).length ct9_0) (t9).length ((t9).map (Value.int .u8)), R]) HS
            have HS : Sep.St [blk nb25 (#[Value.int .i64 ((t23.1).Kind), Value.int .i64 ((t23.1).Ns), Value.int .i64 ((t23.1).Nr), Value.bool ((t23.1).Poll)]) 23, row 5 1 (.slice ra21 ((([] : List Int) ++ t9) ++ a2).length rc22) ((([] : List Int) ++ t9) ++ a2).length (((([] : List Int) ++ t9) ++ a2).map (Value.int .u8)), api_Ctl.at nb1 (a0), row 5 1 (.slice at9_0 (t9).length ct9_0) (t9).length ((t9).map (Value.int .u8)), R] w0 w := HS
            refine W.rd (X.cmp (decide (t26 = 0)) rfl rfl rfl rfl) rfl rfl rfl ?_
            refine W.rd (X.move rfl) rfl rfl rfl ?_
            by_cases c28 : t26 = 0
            · replace H := ite_t c28 H
              refine W.want 60 rfl (sb (decide_eq_true c28)) ?_
              refine W.rd (X.loadSt 0 [Value.int .i64 ((t23.1).Kind), Value.int .i64 ((t23.1).Ns), Value.int .i64 ((t23.1).Nr), Value.bool ((t23.1).Poll)] HS rfl Try.underlying23 rfl inf23 rfl rfl) rfl rfl rfl ?_
              refine W.want 60 rfl (sb (decide_eq_true c28)) ?_
              replace HS := HS.front 2 rfl
              have HS : Sep.St [api_Ctl.at nb1 (a0), blk nb25 (#[Value.int .i64 ((t23.1).Kind), Value.int .i64 ((t23.1).Ns), Value.int .i64 ((t23.1).Nr), Value.bool ((t23.1).Poll)]) 23, row 5 1 (.slice ra21 ((([] : List Int) ++ t9) ++ a2).length rc22) ((([] : List Int) ++ t9) ++ a2).length (((([] : List Int) ++ t9) ++ a2).map (Value.int .u8)), row 5 1 (.slice at9_0 (t9).length ct9_0) (t9).length ((t9).map (Value.int .u8)), R] w0 w := HS
              obtain ⟨hi30, HS⟩ := api_Ctl.open HS
              have HS : Sep.St [blk nb1 (#[Value.int .i64 ((a0).Kind), Value.int .i64 ((a0).Ns), Value.int .i64 ((a0).Nr), Value.bool ((a0).Poll)]) 23, blk nb25 (#[Value.int .i64 ((t23.1).Kind), Value.int .i64 ((t23.1).Ns), Value.int .i64 ((t23.1).Nr), Value.bool ((t23.1).Poll)]) 23, row 5 1 (.slice ra21 ((([] : List Int) ++ t9) ++ a2).length rc22) ((([] : List Int) ++ t9) ++ a2).length (((([] : List Int) ++ t9) ++ a2).map (Value.int .u8)), row 5 1 (.slice at9_0 (t9).length ct9_0) (t9).length ((t9).map (Value.int .u8)), R] w0 w := HS
              refine W.rd (X.loadSt 0 [Value.int .i64 ((a0).Kind), Value.int .i64 ((a0).Ns), Value.int .i64 ((a0).Nr), Value.bool ((a0).Poll)] HS rfl Try.underlying23 rfl inf23 rfl rfl) rfl rfl rfl ?_
              refine W.want 60 rfl (sb (decide_eq_true c28)) ?_
              refine W.rd (X.eqSt (c := api_Ctl.beq (t23.1) (a0)) (by kernel_rfl) Try.stoodInHeld23 Try.eqGuardType23 rfl rfl (by first | rfl | kernel_rfl)) rfl rfl rfl ?_
              refine W.rd (X.pickT (sb (decide_eq_true c28)) rfl) rfl rfl rfl ?_
              refine W.rd (X.move rfl) rfl rfl rfl ?_
              by_cases c31 : api_Ctl.beq (t23.1) (a0) = true
              · replace H := ite_t c31 H
                refine W.want 65 rfl (sb c31) ?_
                refine W.rd (X.move rfl) rfl rfl rfl ?_
                refine W.want 65 rfl (sb c31) ?_
                refine W.rd (X.move rfl) rfl rfl rfl ?_
                refine W.want 65 rfl (sb c31) ?_
                refine W.rd (X.lenSl Try.underlying26 rfl) rfl rfl rfl ?_
                refine W.want 65 rfl (sb c31) ?_
                refine W.rd (X.cmp (decide (t23.2.1 = ((t9).length : Int))) rfl rfl rfl rfl) rfl rfl rfl ?_
                refine W.rd (X.pickT (sb c31) rfl) rfl rfl rfl ?_
                refine W.rd (X.assign rfl) rfl rfl rfl ?_
                refine W.nil ?_
                refine At.next ?_
                refine V.keep [(6, Value.bool (decide (t23.2.1 = ((t9).length : Int))))] ⟨rfl, trivial⟩ ?_
                refine V.ret ?_
                replace HS := HS.sel [4] [0, 1, 2, 3] rfl
                cases H
                exact At.ret1 rfl rfl ⟨_, rfl, rfl, HS⟩
              · replace H := ite_f c31 H
                refine W.pass 65 rfl (sb (b_f c31)) rfl rfl ?_
                refine W.pass 65 rfl (sb (b_f c31)) rfl rfl ?_
                refine W.pass 65 rfl (sb (b_f c31)) rfl rfl ?_
                refine W.pass 65 rfl (sb (b_f c31)) rfl rfl ?_
                refine W.rd (X.pickF (sb (b_f c31)) rfl) rfl rfl rfl ?_
                refine W.rd (X.assign rfl) rfl rfl rfl ?_
                refine W.nil ?_
                refine At.next ?_
                refine V.keep [(6, Value.bool (false))] ⟨rfl, trivial⟩ ?_
                refine V.ret ?_
                replace HS := HS.sel [4] [0, 1, 2, 3] rfl
                cases H
                exact At.ret1 rfl rfl ⟨_, rfl, rfl, HS⟩
            · replace H := ite_f c28 H
              refine W.pass 60 rfl (sb (decide_eq_false c28)) rfl rfl ?_
              refine W.pass 60 rfl (sb (decide_eq_false c28)) rfl rfl ?_
              refine W.pass 60 rfl (sb (decide_eq_false c28)) rfl rfl ?_
              refine W.rd (X.pickF (sb (decide_eq_false c28)) rfl) rfl rfl rfl ?_
              refine W.rd (X.move rfl) rfl rfl rfl ?_
              refine W.pass 65 rfl rfl rfl rfl ?_
              refine W.pass 65 rfl rfl rfl rfl ?_
              refine W.pass 65 rfl rfl rfl rfl ?_
              refine W.pass 65 rfl rfl rfl rfl ?_
              refine W.rd (X.pickF rfl rfl) rfl rfl rfl ?_
              refine W.rd (X.assign rfl) rfl rfl rfl ?_
              refine W.nil ?_
              refine At.next ?_
              refine V.keep [(6, Value.bool (false))] ⟨rfl, trivial⟩ ?_
              refine V.ret ?_
              replace HS := HS.sel [4] [0, 1, 2, 3] rfl
              cases H
              exact At.ret1 rfl rfl ⟨_, rfl, rfl, HS⟩
          · replace H := ite_f c16 H
            refine V.condT (sb (n_f (b_f c16))) ?_
            refine V.seq ?_
            refine V.region ?_
            refine W.rd (X.move rfl) rfl rfl rfl ?_
            refine W.rd (X.lenSl Try.underlying26 rfl) rfl rfl rfl ?_
            refine W.rd (X.cmp (decide (((t9).length : Int) = 0)) rfl rfl rfl rfl) rfl rfl rfl ?_
            refine W.rd (X.assign rfl) rfl rfl rfl ?_
            refine W.nil ?_
            refine At.next ?_
            refine V.keep [(6, Value.bool (decide (((t9).length : Int) = 0)))] ⟨rfl, trivial⟩ ?_
            refine V.ret ?_
            refine At.thenRet ?_
            replace HS := HS.sel [2] [0, 1] rfl
            cases H
            exact At.ret1 rfl rfl ⟨_, rfl, rfl, HS⟩

def api_Ctl.El : El api_Ctl := El.iso (El.prod (El.int .i64) (El.prod (El.int .i64) (El.prod (El.int .i64) (El.prod El.bool (El.unit))))) (fun x => (x.Kind, (x.Ns, (x.Nr, (x.Poll, ())))))
theorem api_Ctl.unpack {c : List Value} {x : api_Ctl} {L : List As} {w0 w : World} (hs : Sep.St (api_Ctl.El.p c x :: L) w0 w) : c = [Value.int .i64 (x.Kind), Value.int .i64 (x.Ns), Value.int .i64 (x.Nr), Value.bool (x.Poll)] ∧ Sep.St (L) w0 w := by
  have hs : Sep.St ((El.prod (El.int .i64) (El.prod (El.int .i64) (El.prod (El.int .i64) (El.prod El.bool (El.unit))))).p c (x.Kind, (x.Ns, (x.Nr, (x.Poll, ())))) :: L) w0 w := hs
  obtain ⟨c0, r0, e0, hs⟩ := St.prod_open hs
  have hs : Sep.St ((El.int .i64).p c0 x.Kind :: (El.prod (El.int .i64) (El.prod (El.int .i64) (El.prod El.bool (El.unit)))).p r0 (x.Ns, (x.Nr, (x.Poll, ()))) :: L) w0 w := hs
  obtain ⟨q0, hs⟩ := St.int_open hs
  have hs : Sep.St ((El.prod (El.int .i64) (El.prod (El.int .i64) (El.prod El.bool (El.unit)))).p r0 (x.Ns, (x.Nr, (x.Poll, ()))) :: L) w0 w := hs
  obtain ⟨c1, r1, e1, hs⟩ := St.prod_open hs
  have hs : Sep.St ((El.int .i64).p c1 x.Ns :: (El.prod (El.int .i64) (El.prod El.bool (El.unit))).p r1 (x.Nr, (x.Poll, ())) :: L) w0 w := hs
  obtain ⟨q1, hs⟩ := St.int_open hs
  have hs : Sep.St ((El.prod (El.int .i64) (El.prod El.bool (El.unit))).p r1 (x.Nr, (x.Poll, ())) :: L) w0 w := hs
  obtain ⟨c2, r2, e2, hs⟩ := St.prod_open hs
  have hs : Sep.St ((El.int .i64).p c2 x.Nr :: (El.prod El.bool (El.unit)).p r2 (x.Poll, ()) :: L) w0 w := hs
  obtain ⟨q2, hs⟩ := St.int_open hs
  have hs : Sep.St ((El.prod El.bool (El.unit)).p r2 (x.Poll, ()) :: L) w0 w := hs
  obtain ⟨c3, r3, e3, hs⟩ := St.prod_open hs
  have hs : Sep.St (El.bool.p c3 x.Poll :: (El.unit).p r3 () :: L) w0 w := hs
  obtain ⟨q3, hs⟩ := St.bool_open hs
  have hs : Sep.St ((El.unit).p r3 () :: L) w0 w := hs
  obtain ⟨qu, hs⟩ := St.unit_open hs
  exact ⟨by rw [e0, q0, e1, q1, e2, q2, e3, q3, qu]; rfl, hs⟩
theorem api_Ctl.pack  {x : api_Ctl} {L : List As} {w0 w : World} (hs : Sep.St (L) w0 w) : Sep.St (api_Ctl.El.p [Value.int .i64 (x.Kind), Value.int .i64 (x.Ns), Value.int .i64 (x.Nr), Value.bool (x.Poll)] x :: L) w0 w := by
  have h1 := St.join (m := []) hs
  exact h1.mono fun h hh => ⟨[Value.int .i64 (x.Kind)], [Value.int .i64 (x.Ns), Value.int .i64 (x.Nr), Value.bool (x.Poll)], rfl, rfl, ⟨[Value.int .i64 (x.Ns)], [Value.int .i64 (x.Nr), Value.bool (x.Poll)], rfl, rfl, ⟨[Value.int .i64 (x.Nr)], [Value.bool (x.Poll)], rfl, rfl, ⟨[Value.bool (x.Poll)], [], rfl, rfl, rfl⟩⟩⟩⟩

def signalmanlaw12_ControlBytes.Pure : Prop := ∀ (a0 : api_Ctl) (a1 : Int) (a2 : List Int), ((Lit.int .i64 a0.Kind).wf = true ∧ ((Lit.int .i64 a0.Ns).wf = true ∧ ((Lit.int .i64 a0.Nr).wf = true ∧ (True ∧ True)))) → (Lit.int .i64 a1).wf = true → (∀ z ∈ a2, (Lit.int .u8 z).wf = true) → (a2.length : Int) ≤ 9223372036854775807 → ∃ k, signalmanlaw12_ControlBytes.f k a0 a1 a2 = some true
end Go.Proofs.Ytmodmkbjbndfpaa
