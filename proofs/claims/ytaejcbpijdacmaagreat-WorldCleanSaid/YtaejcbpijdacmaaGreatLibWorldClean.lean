/- WorldClean: over two lines that lose nothing every message arrives. Conditions: none beyond those of the given statement. -/
import Derived.Test.YtaejcbpijdacmaaGreatRunWorldClean
import Derived.KernelRfl
set_option linter.all false
set_option maxRecDepth 100000
namespace Go.Proofs.YtaejcbpijdacmaaGreat
open Go.RowKit Go.Proofs.YtaejcbpijdacmaaGreat.Walk
theorem bsome {α β:Type} (x:α) (g:α→Option β):(some x).bind g=g x:=Eq.trans (b:=g x) rfl (Eq.symm rfl)
theorem u8w (x:Int):IntKind.u8.wrap x=x%256:=by
 simp [IntKind.wrap,IntKind.bits,IntKind.signed]
theorem i64nat {x:Int} (h0:0≤x) (h1:x<9223372036854775808):BitVec.ofInt 64 x=BitVec.ofNat 64 x.toNat:=by
 apply BitVec.eq_of_toNat_eq
 simp [BitVec.toNat_ofInt]
 omega
theorem iand_nat {x y:Int} (h0:0≤x) (h1:x<9223372036854775808) (h2:0≤y) (h3:y<9223372036854775808):iand .i64 x y=((x.toNat&&& y.toNat:Nat):Int):=by
 unfold iand
 show IntKind.i64.wrap (BitVec.ofInt 64 x&&& BitVec.ofInt 64 y).toNat=_
 rw [i64nat h0 h1,i64nat h2 h3,BitVec.toNat_and]
 simp only [BitVec.toNat_ofNat]
 rw [Nat.mod_eq_of_lt (by omega),Nat.mod_eq_of_lt (by omega)]
 have h4:x.toNat&&& y.toNat≤x.toNat:=Nat.and_le_left
 have:=w64_in (n:=((x.toNat&&& y.toNat:Nat):Int)) (by omega)
 exact this
theorem ior_nat {x y:Int} (h0:0≤x) (h1:x<9223372036854775808) (h2:0≤y) (h3:y<9223372036854775808):ior .i64 x y=((x.toNat|||y.toNat:Nat):Int):=by
 unfold ior
 show IntKind.i64.wrap (BitVec.ofInt 64 x|||BitVec.ofInt 64 y).toNat=_
 rw [i64nat h0 h1,i64nat h2 h3,BitVec.toNat_or]
 simp only [BitVec.toNat_ofNat]
 rw [Nat.mod_eq_of_lt (by omega),Nat.mod_eq_of_lt (by omega)]
 have h4:x.toNat|||y.toNat<2^63:=Nat.or_lt_two_pow (by omega) (by omega)
 have:=w64_in (n:=((x.toNat|||y.toNat:Nat):Int)) (by omega)
 exact this
theorem iand_1 {x:Int} (h0:0≤x) (h1:x<9223372036854775808):iand .i64 x 1=x%2:=by
 rw [iand_nat h0 h1 (by omega) (by omega)]
 have:x.toNat&&& (1:Int).toNat=x.toNat%2:=Nat.and_one_is_mod _
 rw [this];omega
theorem ior_hi {x y:Int} (h0:0≤x) (h1:x<256) (h2:0≤y) (h3:y<36028797018963968):ior .i64 x (y*256)=x+256*y:=by
 rw [ior_nat h0 (by omega) (by omega) (by omega)]
 have e:(y*256).toNat=2^8*y.toNat:=by omega
 have h4:=Nat.two_pow_add_eq_or_of_lt (i:=8) (b:=x.toNat) (by omega) y.toNat
 rw [e,Nat.or_comm,←h4];omega
theorem ior_hi' {x y:Int} (h0:0≤x) (h1:x<256) (h2:0≤y) (h3:y<36028797018963968):ior .i64 (y*256) x=x+256*y:=by
 rw [←ior_hi h0 h1 h2 h3,ior_nat (by omega) (by omega) h0 (by omega),ior_nat h0 (by omega) (by omega) (by omega),Nat.or_comm]
theorem byte_all {p:Int→Prop} (h:∀n:Fin 256,p (n.val:Int)) {z:Int} (h0:0≤z) (h1:z<256):p z:=by
 have:=h ⟨z.toNat,by omega⟩
 rwa [show ((z.toNat:Nat):Int)=z by omega] at this
theorem wf8 {z:Int} (h:(Lit.int .u8 z).wf=true):0≤z∧z<256:=by simp [Lit.wf] at h;have:=h;simp [IntKind.min,IntKind.max,IntKind.bits,IntKind.signed] at this;omega
theorem round_eq {n m:Int} (hn:-1000000000000≤n∧n≤1000000000000∨-9223372036854775808≤n∧n≤9223372036854775807) (hm:1≤m∧m≤1073741824):cP.f n m=some (n%m,m):=by
 unfold cP.f
 have e1:imax 1 (imin m 1073741824)=m:=by unfold imax imin;repeat' split;all_goals omega
 rw [e1,if_pos (by omega)]
 by_cases h0:0≤n
 ·rw [Int.tmod_eq_emod_of_nonneg h0,if_neg (by have:=Int.emod_nonneg n (show m≠0 by omega);omega)]
 ·have hlt:=Int.emod_lt_of_pos n (show 0<m by omega)
  have hge:=Int.emod_nonneg n (show m≠0 by omega)
  have ht:n.tmod m=if n%m=0 then 0 else n%m-m:=by
   rw [Int.tmod_eq_emod]
   by_cases hd:m ∣ n
   ·have:n%m=0:=Int.emod_eq_zero_of_dvd hd
    simp [hd,this]
   ·have:¬n%m=0:=fun e=>hd (Int.dvd_of_emod_eq_zero e)
    simp [hd,this,h0];omega
  rw [ht]
  by_cases hz:n%m=0
  ·rw [if_pos hz,if_neg (by omega),hz]
  ·rw [if_neg hz,if_pos (by omega),w64_in ⟨by omega,by omega⟩]
   congr 2;omega
theorem dist_eq {a b m:Int} (ha:-9223372036854775808≤a∧a≤9223372036854775807) (hb:-9223372036854775808≤b∧b≤9223372036854775807) (hm:1≤m∧m≤1073741824):dt.f a b m=some ((b-a)%m):=by
 unfold dt.f
 rw [round_eq (.inr ha) hm,bsome,round_eq (.inr hb) hm,bsome]
 have h1:=Int.emod_nonneg a (show m≠0 by omega)
 have h2:=Int.emod_lt_of_pos a (show 0<m by omega)
 have h3:=Int.emod_nonneg b (show m≠0 by omega)
 have h4:=Int.emod_lt_of_pos b (show 0<m by omega)
 dsimp only
 rw [w64_in ⟨by omega,by omega⟩,round_eq (.inl ⟨by omega,by omega⟩) hm,bsome]
 dsimp only
 rw [←Int.sub_emod]
namespace Bl
structure BI (l:aC):Prop where
 m:8≤l.m∧l.m≤32768
 win:1≤l.window∧l.window≤4096
 que:0≤l.queue∧l.queue≤1000
 first:0≤l.first∧l.first<l.m
 out:0≤l.out∧l.out≤l.window∧l.out≤(l.l.length:Int)
 wait:(l.l.length:Int)≤l.out+l.queue
 small:∀b∈l.l,b.length≤1000000
theorem clone_eq {l:List Int} (h:(l.length:Int)≤1099511627776):aT.f l=some l:=by
 unfold aT.f
 rw [if_pos (by simp;omega)];rfl
theorem number_eq {l:aC} (hm:8≤l.m∧l.m≤32768) (hf:0≤l.first∧l.first<l.m) {i:Int} (hi:0≤i∧i≤100000):cD.f l i=some ((l.first+i)%l.m):=by
 unfold cD.f
 rw [if_pos (by omega),w64_in ⟨by omega,by omega⟩,Int.tmod_eq_emod_of_nonneg (by omega)]
def logOut (l:aC):aC:={m:=l.m,window:=l.window,queue:=l.queue,first:=l.first,out:=l.out+1,l:=l.l}
def logAdd (l:aC) (b:List Int):aC:={m:=l.m,window:=l.window,queue:=l.queue,first:=l.first,out:=l.out,l:=l.l++[b]}
theorem next_no {l:aC} (h:l.out=(l.l.length:Int)∨l.out=l.window):bN.f l=some (0,[],false,l):=by
 unfold bN.f bN.j0
 by_cases h1:l.out=(l.l.length:Int)
 ·rw [if_pos h1];rfl
 ·rw [if_neg h1,if_pos (by simpa using h.resolve_left h1)]
theorem next_yes {l:aC} (h:BI l) (h1:l.out<(l.l.length:Int)) (h2:l.out<l.window):bN.f l=some ((l.first+l.out)%l.m,l.l.getD l.out.toNat [],true,logOut l):=by
 have ho:=h.out
 have hw:=h.win
 unfold bN.f bN.j0
 rw [if_neg (show ¬l.out=(l.l.length:Int) by omega),if_neg (show ¬decide (l.out=l.window)=true by simp;omega),if_pos ⟨ho.1,h1⟩,w64_in ⟨by omega,by omega⟩]
 rw [number_eq (l:={m:=l.m,window:=l.window,queue:=l.queue,first:=l.first,out:=l.out+1,l:=l.l}) h.m h.first ⟨ho.1,by omega⟩,bsome]
 have hs:((l.l.getD l.out.toNat []).length:Int)≤1000000:=by
  have hlt:l.out.toNat<l.l.length:=by omega
  have e:l.l.getD l.out.toNat []=l.l[l.out.toNat]:=by simp [List.getD,hlt]
  rw [e];have:=h.small _ (List.getElem_mem hlt);omega
 rw [clone_eq (by omega),bsome];rfl
theorem add_no {l:aC} (h:BI l) (b:List Int) (hn:(l.l.length:Int)-l.out≥l.queue):dy.f l b=some (6,l):=by
 have ho:=h.out
 have hw:=h.wait
 have hq:=h.que
 have hwi:=h.win
 unfold dy.f
 rw [w64_in ⟨by omega,by omega⟩,if_pos hn]
theorem add_yes {l:aC} (h:BI l) {b:List Int} (hn:(l.l.length:Int)-l.out<l.queue) (hb:b.length≤1000000):dy.f l b=some (0,logAdd l b):=by
 have ho:=h.out
 have hw:=h.wait
 have hq:=h.que
 have hwi:=h.win
 unfold dy.f
 rw [w64_in ⟨by omega,by omega⟩,if_neg (by omega),clone_eq (by omega),bsome,if_pos (by simp only [List.length_cons,List.length_nil];omega)];rfl
theorem out_bi {l:aC} (h:BI l) (h1:l.out<(l.l.length:Int)) (h2:l.out<l.window):BI (logOut l):=by
 have ho:=h.out
 have hw:=h.wait
 exact ⟨h.m,h.win,h.que,h.first,by show 0≤l.out+1∧l.out+1≤l.window∧l.out+1≤(l.l.length:Int);omega,by show (l.l.length:Int)≤l.out+1+l.queue;omega,h.small⟩
theorem add_bi {l:aC} (h:BI l) {b:List Int} (hn:(l.l.length:Int)-l.out<l.queue) (hb:b.length≤1000000):BI (logAdd l b):=by
 have ho:=h.out
 refine ⟨h.m,h.win,h.que,h.first,?_,?_,?_⟩
 ·show 0≤l.out∧l.out≤l.window∧l.out≤((l.l++[b]).length:Int)
  rw [List.length_append];simp;omega
 ·show ((l.l++[b]).length:Int)≤l.out+l.queue
  rw [List.length_append];simp;omega
 ·intro x hx
  rcases List.mem_append.1 hx with hx|hx
  ·exact h.small x hx
  ·simp at hx;subst hx;exact hb
theorem td8 {x:Int} (h:0≤x∧x≤100000):w64 (x.tdiv 8)=x/8:=by
 rw [Int.tdiv_eq_ediv_of_nonneg h.1,w64_in ⟨by omega,by omega⟩]
theorem new_bi {m win q:Int} (hm:8≤m∧m≤32768) (hw:1≤win∧win≤m/8) (hq:0≤q∧q≤1000):BI {m:=m,window:=win,queue:=q,first:=0,out:=0,l:=[]}:=
 ⟨hm,by show 1≤win∧win≤4096;omega,hq,by show 0≤(0:Int)∧0<m;omega,by show 0≤(0:Int)∧0≤win∧(0:Int)≤_;simp;omega,by simp;exact hq.1,by simp⟩
def outs (l:aC):List Int:=(List.range l.out.toNat).map fun (i:Nat)=>(l.first+(i:Int))%l.m
theorem out_l0 {l:aC} (h:BI l):∀(d i:Nat) (k:Nat) (xs:List Int),(i:Int)+d=l.out→xs.length=i→d+1≤k→bK.l0 k l i xs=some (xs++(List.range' i d).map fun (i:Nat)=>(l.first+(i:Int))%l.m)
 |0,i,k,xs,hi,hx,hk=>by
  obtain ⟨k,rfl⟩:∃j,k=j+1:=⟨k-1,by omega⟩
  rw [bK.l0,if_neg (by omega)];simp
 |d+1,i,k,xs,hi,hx,hk=>by
  obtain ⟨k,rfl⟩:∃j,k=j+1:=⟨k-1,by omega⟩
  have ho:=h.out
  have hw:=h.win
  rw [bK.l0,if_pos (by omega),number_eq h.m h.first ⟨by omega,by omega⟩,bsome,if_pos (by simp only [List.length_cons,List.length_nil];omega),w64_in ⟨by omega,by omega⟩]
  have:=out_l0 h d (i+1) k (xs++[(l.first+(i:Int))%l.m]) (by omega) (by simp [hx]) (by omega)
  rw [show ((i:Nat):Int)+1=((i+1:Nat):Int) by omega,this,List.range'_succ];simp
theorem out_eq {l:aC} (h:BI l) {k:Nat} (hk:5000≤k):bK.f k l=some (outs l):=by
 have ho:=h.out
 have hw:=h.win
 unfold bK.f outs
 have:=out_l0 h l.out.toNat 0 k [] (by omega) rfl (by omega)
 rw [List.range_eq_range'];simpa using this
theorem outs_len (l:aC):(outs l).length=l.out.toNat:=by simp [outs]
theorem delete2_eq {l:List (List Int)} {m:Nat} (h:m≤l.length):cT.f l 0 (m:Int)=some (l.drop m):=by
 unfold cT.f
 rw [if_pos ⟨by omega,by omega,by omega⟩]
 by_cases h0:(0:Int)=(m:Int)
 ·rw [if_pos h0]
  have:m=0:=by omega
  subst this;rfl
 ·rw [if_neg h0,if_pos ⟨by omega,by omega,by omega⟩,if_pos ⟨by omega,by omega,by omega⟩]
  congr 1
  simp [cut]
  exact List.take_of_length_le (by simp)
def logAck (l:aC) (k:Int):aC:={m:=l.m,window:=l.window,queue:=l.queue,first:=(l.first+k)%l.m,out:=l.out-k,l:=l.l.drop k.toNat}
theorem ack_no {l:aC} (h:BI l) {n:Int} (hn:-9223372036854775808≤n∧n≤9223372036854775807) (hx:n<0∨l.m≤n∨l.out<(n-l.first)%l.m):ca.f l n=some (0,false,l):=by
 have hm:=h.m
 have hf:=h.first
 unfold ca.f ca.j0
 rw [dist_eq ⟨by omega,by omega⟩ hn ⟨by omega,by omega⟩,bsome]
 by_cases h1:n<0
 ·rw [if_pos h1];rfl
 ·rw [if_neg h1]
  by_cases h2:n≥l.m
  ·rw [if_pos h2];rfl
  ·rw [if_neg h2,if_pos (by simp;omega)]
theorem ack_yes {l:aC} (h:BI l) {n:Int} (hn:0≤n∧n<l.m) (hx:(n-l.first)%l.m≤l.out):ca.f l n=some ((n-l.first)%l.m,true,logAck l ((n-l.first)%l.m)):=by
 have hm:=h.m
 have hf:=h.first
 have ho:=h.out
 have hw:=h.win
 have h1:=Int.emod_nonneg (n-l.first) (show l.m≠0 by omega)
 unfold ca.f ca.j0
 rw [dist_eq ⟨by omega,by omega⟩ ⟨by omega,by omega⟩ ⟨by omega,by omega⟩,bsome]
 generalize (n-l.first)%l.m=d at *
 obtain ⟨e,rfl⟩:∃e:Nat,d=(e:Int):=⟨d.toNat,by omega⟩
 rw [if_neg (by omega),if_neg (show ¬n≥l.m by omega),if_neg (by simp;omega),delete2_eq (by omega),bsome,w64_in ⟨by omega,by omega⟩]
 rw [number_eq (l:={m:=l.m,window:=l.window,queue:=l.queue,first:=l.first,out:=l.out-(e:Int),l:=l.l.drop e}) hm hf ⟨by omega,by omega⟩,bsome];rfl
theorem ack_bi {l:aC} (h:BI l) {k:Int} (hk:0≤k∧k≤l.out):BI (logAck l k):=by
 have hm:=h.m
 have ho:=h.out
 have hw:=h.wait
 refine ⟨h.m,h.win,h.que,⟨Int.emod_nonneg _ (by omega),Int.emod_lt_of_pos _ (by omega)⟩,?_,?_,?_⟩
 ·show 0≤l.out-k∧l.out-k≤l.window∧l.out-k≤((l.l.drop k.toNat).length:Int)
  rw [List.length_drop];omega
 ·show ((l.l.drop k.toNat).length:Int)≤l.out-k+l.queue
  rw [List.length_drop];omega
 ·intro b hb
  exact h.small b (List.mem_of_mem_drop hb)
end Bl
namespace Or
theorem td8 {x:Int} (h:0≤x∧x≤100000):w64 (x.tdiv 8)=x/8:=by
 rw [Int.tdiv_eq_ediv_of_nonneg h.1,w64_in ⟨by omega,by omega⟩]
theorem clone_eq {l:List Int} (h:(l.length:Int)≤1099511627776):aT.f l=some l:=by
 unfold aT.f
 rw [if_pos (by simp;omega)];rfl
theorem next_eq {n m:Int} (hn:0≤n∧n<m) (hm:1≤m∧m≤32768):dK.f n m=some ((n+1)%m):=by
 unfold dK.f
 rw [round_eq (.inl ⟨by omega,by omega⟩) ⟨hm.1,by omega⟩,bsome]
 dsimp only
 rw [Int.emod_eq_of_lt hn.1 hn.2,w64_in ⟨by omega,by omega⟩,round_eq (.inl ⟨by omega,by omega⟩) ⟨hm.1,by omega⟩,bsome]
theorem mdel_len {α:Type}:∀{m:List (Int × α)} {k:Int},mhas m k=true→(mdel m k).length+1=m.length
 |[],_,h=>by simp [mhas] at h
 |p::m,k,h=>by
  by_cases hk:p.1=k
  ·simp [mdel,hk]
  ·have:=mdel_len (m:=m) (k:=k) (by simpa [mhas,hk] using h)
   simp only [mdel,if_neg hk,List.length_cons];omega
theorem mput_new {α:Type} {v:α}:∀{m:List (Int × α)} {k:Int},mhas m k=false→mput m k v=m++[(k,v)]
 |[],_,_=>rfl
 |p::m,k,h=>by
  have hk:¬p.1=k:=fun e=>by simp [mhas,e] at h
  rw [mput,if_neg hk,mput_new (by simpa [mhas,hk] using h)];rfl
structure OI (x:aD) (C:Nat):Prop where
 hm:8≤x.m∧x.m≤32768
 hwin:1≤x.window∧x.window≤x.m/8
 hnext:0≤x.next∧x.next<x.m
 held:x.kept.length+x.ready.length≤C
theorem OI.more {x:aD} {C D:Nat} (h:OI x C) (l:C≤D):OI x D:=⟨h.hm,h.hwin,h.hnext,Nat.le_trans h.held l⟩
def ost (x:aD) (n:Int) (kv:List (Int × List Int)) (r:List (List Int)):aD:={m:=x.m,window:=x.window,next:=n,kept:=kv,ready:=r}
def ostep (x:aD):aD:=ost x ((x.next+1)%x.m) (mdel x.kept x.next) (x.ready++[mget x.kept x.next []])
def drain:Nat→aD→Nat × aD
 |0,x=>(0,x)
 |d+1,x=>if mhas x.kept x.next=true then ((drain d (ostep x)).1+1,(drain d (ostep x)).2) else (0,x)
theorem ostep_oi {x:aD} {C:Nat} (h:OI x C) (hh:mhas x.kept x.next=true):OI (ostep x) C:=by
 have:=h.hm
 have hl:=mdel_len hh
 have:=h.held
 refine ⟨h.hm,h.hwin,⟨Int.emod_nonneg _ (by show x.m≠0;omega),Int.emod_lt_of_pos _ (by show 0<x.m;omega)⟩,?_⟩
 show (mdel x.kept x.next).length+(x.ready++[_]).length≤C
 rw [List.length_append];simp;omega
theorem drain_oi {C:Nat}:∀(d:Nat) {x:aD},OI x C→OI (drain d x).2 C
 |0,_,h=>h
 |d+1,x,h=>by
  rw [drain]
  by_cases hh:mhas x.kept x.next=true
  ·rw [if_pos hh];exact drain_oi d (ostep_oi h hh)
  ·rw [if_neg hh];exact h
theorem loop_eq {C:Nat} (hC:C≤1050000000000):∀(d:Nat) (x:aD) (c k:Nat),OI x C→x.kept.length≤d→d+1≤k→c+d≤1050000000001→
  bU.l0 k (c:Int) (mhas x.kept x.next) x (mget x.kept x.next [])=some (((c+(drain d x).1:Nat):Int),(drain d x).2)
 |0,x,c,k,h,hl,hk,hc=>by
  obtain ⟨k,rfl⟩:∃j,k=j+1:=⟨k-1,by omega⟩
  have e:x.kept=[]:=List.length_eq_zero_iff.1 (by omega)
  have e2:mhas x.kept x.next=false:=by rw [e];rfl
  rw [bU.l0,if_neg (by rw [e2];simp)];rfl
 |d+1,x,c,k,h,hl,hk,hc=>by
  obtain ⟨k,rfl⟩:∃j,k=j+1:=⟨k-1,by omega⟩
  have hm:=h.hm
  have hd:=h.held
  rw [bU.l0,drain]
  by_cases hh:mhas x.kept x.next=true
  ·have hl2:=mdel_len hh
   rw [if_pos hh,if_pos hh,if_pos (by simp;omega),next_eq h.hnext ⟨by omega,hm.2⟩,bsome,w64_in ⟨by omega,by omega⟩]
   have ih:=loop_eq hC d (ostep x) (c+1) k (ostep_oi h hh) (by show (mdel x.kept x.next).length≤d;omega) (by omega) (by omega)
   refine Eq.trans ih ?_
   rw [show c+1+(drain d (ostep x)).1=c+((drain d (ostep x)).1+1) by omega]
  ·rw [if_neg hh,if_neg hh];rfl
def putm (x:aD) (n:Int) (b:List Int):Int × aD:=
 if (n-x.next)%x.m≥x.window then (-1,x) else if mhas x.kept (n%x.m)=true then (0,x) else
  (((drain (x.kept.length+1) (ost x x.next (x.kept++[(n%x.m,b)]) x.ready)).1:Int),(drain (x.kept.length+1) (ost x x.next (x.kept++[(n%x.m,b)]) x.ready)).2)
theorem add_oi {x:aD} {C:Nat} (h:OI x C) (n:Int) (b:List Int):OI (ost x x.next (x.kept++[(n,b)]) x.ready) (C+1):=by
 have:=h.held
 refine ⟨h.hm,h.hwin,h.hnext,?_⟩
 show (x.kept++[_]).length+x.ready.length≤C+1
 rw [List.length_append];simp;omega
theorem put_oi {x:aD} {C:Nat} (h:OI x C) (n:Int) (b:List Int):OI (putm x n b).2 (C+1):=by
 unfold putm
 by_cases h1:(n-x.next)%x.m≥x.window
 ·rw [if_pos h1];exact h.more (by omega)
 ·rw [if_neg h1]
  by_cases h2:mhas x.kept (n%x.m)=true
  ·rw [if_pos h2];exact h.more (by omega)
  ·rw [if_neg h2];exact drain_oi _ (add_oi h _ _)
theorem put_eq {x:aD} {C:Nat} (h:OI x C) (hC:C≤1000000000000) {n:Int} (hn:-9223372036854775808≤n∧n≤9223372036854775807) {b:List Int} (hb:b.length≤1000000) {k:Nat} (hk:C+5≤k):
  bU.f k x n b=some (putm x n b):=by
 have hm:=h.hm
 have hw:=h.hwin
 have hx:=h.hnext
 have hd:=h.held
 unfold bU.f putm
 rw [dist_eq ⟨by omega,by omega⟩ hn ⟨by omega,by omega⟩,bsome,if_pos (by omega)]
 have g1:=Int.emod_nonneg (n-x.next) (show x.m≠0 by omega)
 have g2:=Int.emod_lt_of_pos (n-x.next) (show 0<x.m by omega)
 by_cases h1:(n-x.next)%x.m≥x.window
 ·rw [if_pos h1,if_pos h1]
 rw [if_neg h1,if_neg h1,w64_in ⟨by omega,by omega⟩,Int.tmod_eq_emod_of_nonneg (by omega)]
 have e:(x.next+(n-x.next)%x.m)%x.m=n%x.m:=by
  rw [Int.add_comm,Int.emod_add_emod,show n-x.next+x.next=n by omega]
 rw [e]
 by_cases h2:mhas x.kept (n%x.m)=true
 ·rw [if_pos h2,if_pos h2]
 rw [if_neg h2,if_neg h2,clone_eq (by omega),bsome,mput_new (by simpa using h2)]
 have:=loop_eq (C:=C+1) (by omega) (x.kept.length+1) (ost x x.next (x.kept++[(n%x.m,b)]) x.ready) 0 k (add_oi h _ _) (by show (x.kept++[_]).length≤_;rw [List.length_append];simp) (by omega) (by omega)
 refine Eq.trans this ?_
 rw [Nat.zero_add]
def onew (m w:Int):aD:={m:=m,window:=w,next:=0,kept:=[],ready:=[]}
theorem onew_oi {m w:Int} (hm:8≤m∧m≤32768) (hw:1≤w∧w≤m/8):OI (onew m w) 0:=⟨hm,hw,⟨Int.le_refl _,by show 0<m;omega⟩,Nat.le_refl _⟩
theorem onew_eq (m w:Int):fd.f m w=some (onew (imax 8 (imin m 32768)) (imax 1 (imin w (imax 8 (imin m 32768)/8)))):=by
 have hM:8≤imax 8 (imin m 32768)∧imax 8 (imin m 32768)≤32768:=by unfold imax imin;repeat' split;all_goals omega
 unfold fd.f eK.f
 rw [bsome,td8 (by omega)];rfl
end Or
namespace Co
def rightB (c:aF) (m:Int):Bool:=
 (m==128||m==32768)&&(if c.Kind=0 then decide (0≤c.Ns)&&decide (c.Ns<m)&&(decide (0≤c.Nr)&&decide (c.Nr<m))
  else if c.Kind=1∨c.Kind=2 then decide (c.Ns=0)&&(decide (0≤c.Nr)&&decide (c.Nr<m)) else decide (3≤c.Kind)&&decide (c.Kind≤7)&&decide (c.Ns=0)&&decide (c.Nr=0))
theorem right_eq (c:aF) (m:Int):dc.f c m=some (rightB c m):=by
 unfold dc.f dc.j0 dh.f eH.f rightB
 by_cases h1:m=128
 ·subst h1
  by_cases k0:c.Kind=0
  ·by_cases n1:0≤c.Ns<;>by_cases n2:c.Ns<128<;>by_cases n3:0≤c.Nr<;>by_cases n4:c.Nr<128<;>simp [k0,n1,n2,n3,n4]
  ·by_cases k1:c.Kind=1
   ·by_cases n1:c.Ns=0<;>by_cases n3:0≤c.Nr<;>by_cases n4:c.Nr<128<;>simp [k1,n1,n3,n4]
   ·by_cases k2:c.Kind=2
    ·by_cases n1:c.Ns=0<;>by_cases n3:0≤c.Nr<;>by_cases n4:c.Nr<128<;>simp [k2,n1,n3,n4]
    ·by_cases k3:3≤c.Kind<;>by_cases k7:c.Kind≤7<;>by_cases n1:c.Ns=0<;>simp [k0,k1,k2,k3,k7,n1]
 ·by_cases h2:m=32768
  ·subst h2
   by_cases k0:c.Kind=0
   ·by_cases n1:0≤c.Ns<;>by_cases n2:c.Ns<32768<;>by_cases n3:0≤c.Nr<;>by_cases n4:c.Nr<32768<;>simp [k0,n1,n2,n3,n4]
   ·by_cases k1:c.Kind=1
    ·by_cases n1:c.Ns=0<;>by_cases n3:0≤c.Nr<;>by_cases n4:c.Nr<32768<;>simp [k1,n1,n3,n4]
    ·by_cases k2:c.Kind=2
     ·by_cases n1:c.Ns=0<;>by_cases n3:0≤c.Nr<;>by_cases n4:c.Nr<32768<;>simp [k2,n1,n3,n4]
     ·by_cases k3:3≤c.Kind<;>by_cases k7:c.Kind≤7<;>by_cases n1:c.Ns=0<;>simp [k0,k1,k2,k3,k7,n1]
  ·simp [h1,h2]
def pt (n m:Int):List Int:=if m=128 then [n%256] else [n%256,n/256%256]
def pb (b:Bool):Int:=if b=true then 1 else 0
def bareB (k:Int):Int:=if k=3 then 111 else if k=4 then 99 else if k=5 then 67 else if k=6 then 15 else 135
def enc (c:aF) (m:Int):List Int:=
 if c.Kind=0 then pt (2*c.Ns) m++pt (2*c.Nr+pb c.Poll) m
 else if c.Kind=1 then pt 1 m++pt (2*c.Nr+pb c.Poll) m
 else if c.Kind=2 then pt 9 m++pt (2*c.Nr+pb c.Poll) m
 else [bareB c.Kind+16*pb c.Poll]
theorem pb_b (b:Bool):0≤pb b∧pb b≤1:=by unfold pb;split<;>omega
theorem right_cases {c:aF} {m:Int} (h:rightB c m=true):(m=128∨m=32768)∧((c.Kind=0∧(0≤c.Ns∧c.Ns<m)∧0≤c.Nr∧c.Nr<m)∨((c.Kind=1∨c.Kind=2)∧c.Ns=0∧0≤c.Nr∧c.Nr<m)∨(3≤c.Kind∧c.Kind≤7∧c.Ns=0∧c.Nr=0)):=by
 unfold rightB at h
 simp only [Bool.and_eq_true,Bool.or_eq_true,beq_iff_eq] at h
 obtain ⟨h1,h2⟩:=h
 refine ⟨h1,?_⟩
 by_cases k0:c.Kind=0
 ·rw [if_pos k0] at h2;simp at h2;left;omega
 ·rw [if_neg k0] at h2
  by_cases k1:c.Kind=1∨c.Kind=2
  ·rw [if_pos k1] at h2;simp at h2;right;left;omega
  ·rw [if_neg k1] at h2;simp at h2;right;right;omega
theorem bit_eq (b:Bool):fc.f b=some (pb b):=by unfold fc.f pb;split<;>rfl
theorem fd8 (n:Int):n.fdiv (2^(min ((8:Int)).toNat IntKind.i64.bits))=n/256:=by
 have:(2:Int)^(min ((8:Int)).toNat IntKind.i64.bits)=256:=by decide
 rw [this,Int.fdiv_eq_ediv_of_nonneg _ (by omega)]
theorem put_eq {l:List Int} {n m:Int} (hl:l.length≤100) (hm:m=128∨m=32768):bZ.f l n m=some (l++pt n m):=by
 unfold bZ.f pt
 have h2:(l.length:Int)≤100:=by omega
 rw [if_pos (by simp;omega),u8w,fd8]
 rcases hm with rfl|rfl
 ·simp
 ·simp only [if_true]
  rw [if_pos (by simp;omega),u8w];simp
theorem pt_le (n m:Int):(pt n m).length≤2:=by unfold pt;split<;>simp
theorem bare_k {k:Int} (h:3≤k∧k≤7):k=3∨k=4∨k=5∨k=6∨k=7:=by omega
theorem bytes_eq {c:aF} {m:Int} (h:rightB c m=true):eC.f c m=some (enc c m):=by
 obtain ⟨hm,hc⟩:=right_cases h
 have hb:=pb_b c.Poll
 have hmm:0≤m∧m≤32768:=by omega
 have p2:∀x n:Int,bZ.f (pt x m) n m=some (pt x m++pt n m):=fun x n=>put_eq (by have:=pt_le x m;omega) hm
 have p1:∀n:Int,bZ.f [] n m=some (pt n m):=fun n=>put_eq (by simp) hm
 unfold eC.f
 simp only [right_eq,h,bsome,if_true,bit_eq,p1,p2]
 rcases hc with ⟨k0,n1,n2⟩|⟨k1,n1,n2⟩|⟨k3,k7,n1,n2⟩
 ·have e1:w64 (2*c.Ns)=2*c.Ns:=w64_in ⟨by omega,by omega⟩
  have e2:w64 (2*c.Nr)=2*c.Nr:=w64_in ⟨by omega,by omega⟩
  have e3:w64 (2*c.Nr+pb c.Poll)=2*c.Nr+pb c.Poll:=w64_in ⟨by omega,by omega⟩
  simp only [if_pos k0,e1,e2,e3,enc]
 ·have k0:¬c.Kind=0:=by omega
  have e2:w64 (2*c.Nr)=2*c.Nr:=w64_in ⟨by omega,by omega⟩
  have e3:w64 (2*c.Nr+pb c.Poll)=2*c.Nr+pb c.Poll:=w64_in ⟨by omega,by omega⟩
  rcases k1 with k1|k1
  ·simp only [if_neg k0,if_pos k1,e2,e3,enc]
  ·have k2:¬c.Kind=1:=by omega
   simp only [if_neg k0,if_neg k2,if_pos k1,e2,e3,enc]
 ·have k0:¬c.Kind=0:=by omega
  have k1:¬c.Kind=1:=by omega
  have k2:¬c.Kind=2:=by omega
  simp only [if_neg k0,if_neg k1,if_neg k2,enc]
  generalize hp:c.Poll=p
  rcases bare_k ⟨k3,k7⟩ with e|e|e|e|e<;>rw [e]<;>cases p<;>decide +kernel
def z0:aF:={Kind:=0,Ns:=0,Nr:=0,Poll:=false}
def kindOf (x:Int):Int:=if x=111 then 3 else if x=99 then 4 else if x=67 then 5 else if x=15 then 6 else if x=135 then 7 else 0
def poll4 (x:Int):Bool:=decide (x/16%2=1)
def base4 (x:Int):Int:=x-16*(x/16%2)
def numS (kind:Int) (b:List Int) (m:Int):aF × Int × Int:=
 if m=128 then
  if (b.length:Int)<2 then (z0,0,3)
  else ({Kind:=kind,Ns:=if kind=0 then b.getD 0 0/2 else 0,Nr:=b.getD 1 0/2,Poll:=decide (b.getD 1 0%2=1)},2,0)
 else
  if (b.length:Int)<4 then (z0,0,3)
  else if kind=0∨b.getD 1 0=0 then ({Kind:=kind,Ns:=if kind=0 then (b.getD 0 0+256*b.getD 1 0)/2 else 0,Nr:=(b.getD 2 0+256*b.getD 3 0)/2,Poll:=decide ((b.getD 2 0+256*b.getD 3 0)%2=1)},4,0)
  else (z0,0,2)
def readS (b:List Int) (m:Int):aF × Int × Int:=
 if ¬(m=128∨m=32768) then (z0,0,1)
 else if b.length=0 then (z0,0,3)
 else if kindOf (base4 (b.getD 0 0))≠0 then ({Kind:=kindOf (base4 (b.getD 0 0)),Ns:=0,Nr:=0,Poll:=poll4 (b.getD 0 0)},1,0)
 else if b.getD 0 0=1 then numS 1 b m
 else if b.getD 0 0=9 then numS 2 b m
 else if b.getD 0 0%2=1 then (z0,0,2)
 else numS 0 b m
theorem index_eq (k:Nat) (x:Int):bG.f (k+6) [111,99,67,15,135] x=some (if x=111 then 0 else if x=99 then 1 else if x=67 then 2 else if x=15 then 3 else if x=135 then 4 else -1):=by
 unfold bG.f
 simp only [bG.l0,List.length_cons,List.length_nil]
 have e1:w64 (0+1)=1:=by decide
 have e2:w64 (1+1)=2:=by decide
 have e3:w64 (2+1)=3:=by decide
 have e4:w64 (3+1)=4:=by decide
 have e5:w64 (4+1)=5:=by decide
 simp only [e1,e2,e3,e4,e5]
 by_cases h1:x=111
 ·simp [h1]
 ·by_cases h2:x=99
  ·simp [h2]
  ·by_cases h3:x=67
   ·simp [h3]
   ·by_cases h4:x=15
    ·simp [h4]
    ·by_cases h5:x=135
     ·simp [h5]
     ·simp [h1,h2,h3,h4,h5]
theorem andn16 {z:Int} (h:0≤z∧z<256):iandn .u8 z 16=base4 z:=byte_all (p:=fun z=>iandn .u8 z 16=base4 z) (by decide +kernel) h.1 h.2
theorem and16 {z:Int} (h:0≤z∧z<256):(!(decide (iand .u8 z 16=0)))=poll4 z:=byte_all (p:=fun z=>(!(decide (iand .u8 z 16=0)))=poll4 z) (by decide +kernel) h.1 h.2
theorem and1 {z:Int} (h:0≤z∧z<256):iand .u8 z 1=z%2:=byte_all (p:=fun z=>iand .u8 z 1=z%2) (by decide +kernel) h.1 h.2
theorem number_l0 (k:Nat) (b:List Int) (n:Int) {i:Int} (h0:0≤i) (h1:i<(b.length:Int)) (hi:i≤100):bF.l0 (k+1) b n i=bF.l0 k b (ior .i64 n (w64 (w64 (b.getD i.toNat 0)*2^(min (8*i).toNat IntKind.i64.bits)))) (i+1):=by
 have e1:w64 (8*i)=8*i:=w64_in ⟨by omega,by omega⟩
 have e2:w64 (i+1)=i+1:=w64_in ⟨by omega,by omega⟩
 rw [bF.l0,if_pos h1,if_pos ⟨h0,h1⟩,e1,if_pos (by omega),e2]
theorem number_end (k:Nat) (b:List Int) (n:Int) {i:Int} (h1:¬i<(b.length:Int)):bF.l0 (k+1) b n i=some n:=by
 rw [bF.l0,if_neg h1]
theorem num1 {x:Int} (hx:0≤x∧x<256) (k:Nat):bF.f (k+3) [x]=some x:=by
 unfold bF.f
 have e3:w64 (w64 x*2^(min (8*(0:Int)).toNat IntKind.i64.bits))=x:=by
  rw [w64_in (n:=x) (by omega),show (2:Int)^(min (8*(0:Int)).toNat IntKind.i64.bits)=1 by decide,w64_in (by omega)];omega
 have e4:ior .i64 0 x=x:=by rw [ior_nat (by omega) (by omega) (by omega) (by omega)];simp;omega
 rw [number_l0 _ _ _ (by omega) (by simp) (by omega),number_end _ _ _ (by simp)]
 show some (ior .i64 0 (w64 (w64 x*2^(min (8*(0:Int)).toNat IntKind.i64.bits))))=some x
 rw [e3,e4]
theorem num2 {x y:Int} (hx:0≤x∧x<256) (hy:0≤y∧y<256) (k:Nat):bF.f (k+3) [x,y]=some (x+256*y):=by
 unfold bF.f
 have e3:w64 (w64 x*2^(min (8*(0:Int)).toNat IntKind.i64.bits))=x:=by
  rw [w64_in (n:=x) (by omega),show (2:Int)^(min (8*(0:Int)).toNat IntKind.i64.bits)=1 by decide,w64_in (by omega)];omega
 have e5:w64 (w64 y*2^(min (8*(0+1:Int)).toNat IntKind.i64.bits))=y*256:=by
  rw [w64_in (n:=y) (by omega),show (2:Int)^(min (8*(0+1:Int)).toNat IntKind.i64.bits)=256 by decide,w64_in (by omega)]
 have e4:ior .i64 0 x=x:=by rw [ior_nat (by omega) (by omega) (by omega) (by omega)];simp;omega
 have e6:ior .i64 x (y*256)=x+256*y:=ior_hi hx.1 hx.2 hy.1 (by omega)
 rw [number_l0 _ _ _ (by omega) (by simp) (by omega),number_l0 _ _ _ (by omega) (by simp) (by omega),number_end _ _ _ (by simp)]
 show some (ior .i64 (ior .i64 0 (w64 (w64 x*2^(min (8*(0:Int)).toNat IntKind.i64.bits)))) (w64 (w64 y*2^(min (8*(0+1:Int)).toNat IntKind.i64.bits))))=some (x+256*y)
 rw [e3,e4,e5,e6]
theorem td2 {x:Int} (h:0≤x∧x<65536):w64 (x.tdiv 2)=x/2:=by
 rw [Int.tdiv_eq_ediv_of_nonneg h.1,w64_in (by omega)]
theorem put0 {m:Int} (hm:m=128∨m=32768):bZ.f [] 0 m=some (pt 0 m):=put_eq (l:=[]) (by simp) hm
theorem list4 (b:List Int):b=[]∨(∃x,b=[x])∨(∃x y,b=[x,y])∨(∃x y z,b=[x,y,z])∨∃x y z u r,b=x::y::z::u::r:=by
 match b with
 |[]=>exact .inl rfl
 |[x]=>exact .inr (.inl ⟨x,rfl⟩)
 |[x,y]=>exact .inr (.inr (.inl ⟨x,y,rfl⟩))
 |[x,y,z]=>exact .inr (.inr (.inr (.inl ⟨x,y,z,rfl⟩)))
 |x::y::z::u::r=>exact .inr (.inr (.inr (.inr ⟨x,y,z,u,r,rfl⟩)))
theorem j0_128 {b:List Int} (hb:∀z∈b,0≤z∧z<256) (hn:b≠[]) {c:aF} (hc:c.Ns=0∧c.Nr=0∧c.Poll=false) (k:Nat):ck.j0 (k+3) b 128 c=some (numS c.Kind b 128):=by
 unfold ck.j0 numS
 rw [put0 (.inl rfl),bsome]
 have e2:w64 (2*1)=2:=by decide
 have ep:((pt 0 128).length:Int)=1:=by decide
 obtain ⟨hc1,hc2,hc3⟩:=hc
 cases b with
 |nil=>exact absurd rfl hn
 |cons x b=>cases b with
  |nil=>rw [ep,e2,if_pos (by simp),if_pos rfl,if_pos (by simp)];rfl
  |cons y r=>
   have hx:=hb x (by simp)
   have hy:=hb y (by simp)
   have hl:(2:Int)≤((x::y::r).length:Int):=by simp only [List.length_cons];omega
   have c1:cut (x::y::r) 0 1=[x]:=by simp [cut]
   have c2:cut (x::y::r) 1 2=[y]:=by simp [cut]
   rw [ep,e2,if_neg (by omega),if_pos ⟨by omega,by omega,by omega⟩,if_pos ⟨by omega,by omega,hl⟩,c1,c2,num1 hx,bsome,num1 hy,bsome,td2 (by omega),td2 (by omega),iand_1 (by omega) (by omega),if_pos (show (128:Int)=128 from rfl),if_neg (show ¬((x::y::r).length:Int)<2 by omega)]
   have ew:w64 x=x:=w64_in (by omega)
   by_cases hk:c.Kind=0
   ·simp [hk]
   ·have e0:(x::y::r).getD ((0:Int)).toNat 0=x:=rfl
    rw [if_neg hk,e0,ew,if_pos rfl]
    simp [hk,hc1]
theorem j0_32768 {b:List Int} (hb:∀z∈b,0≤z∧z<256) (hn:b≠[]) {c:aF} (hc:c.Ns=0∧c.Nr=0∧c.Poll=false) (k:Nat):ck.j0 (k+3) b 32768 c=some (numS c.Kind b 32768):=by
 unfold ck.j0 numS
 rw [put0 (.inr rfl),bsome]
 have e2:w64 (2*2)=4:=by decide
 obtain ⟨hc1,hc2,hc3⟩:=hc
 rcases list4 b with rfl|⟨x,rfl⟩|⟨x,y,rfl⟩|⟨x,y,z,rfl⟩|⟨x,y,z,u,r,rfl⟩
 ·exact absurd rfl hn
 ·rw [show ((pt 0 32768).length:Int)=2 by decide,e2,if_pos (by simp),if_neg (by decide),if_pos (by simp)];rfl
 ·rw [show ((pt 0 32768).length:Int)=2 by decide,e2,if_pos (by simp),if_neg (by decide),if_pos (by simp)];rfl
 ·rw [show ((pt 0 32768).length:Int)=2 by decide,e2,if_pos (by simp),if_neg (by decide),if_pos (by simp)];rfl
 ·have hx:=hb x (by simp)
  have hy:=hb y (by simp)
  have hz:=hb z (by simp)
  have hu:=hb u (by simp)
  have hl:(4:Int)≤((x::y::z::u::r).length:Int):=by simp only [List.length_cons];omega
  have c1:cut (x::y::z::u::r) 0 2=[x,y]:=by simp [cut]
  have c2:cut (x::y::z::u::r) 2 4=[z,u]:=by simp [cut]
  have ep:((pt 0 32768).length:Int)=2:=by decide
  rw [ep,e2,if_neg (by omega),if_pos ⟨by omega,by omega,by omega⟩,if_pos ⟨by omega,by omega,hl⟩,c1,c2,num2 hx hy,bsome,num2 hz hu,bsome,td2 (by omega),td2 (by omega),iand_1 (by omega) (by omega),if_neg (show ¬(32768:Int)=128 by decide),if_neg (show ¬((x::y::z::u::r).length:Int)<4 by omega)]
  have ew:w64 x=x:=w64_in (by omega)
  have e0:(x::y::z::u::r).getD ((0:Int)).toNat 0=x:=rfl
  by_cases hk:c.Kind=0
  ·simp [hk]
  ·rw [if_neg hk,e0,ew]
   by_cases h1:y=0
   ·rw [if_pos (by omega)];simp [hk,hc1,h1]
   ·have h3:¬(x+256*y=x):=by omega
    rw [if_neg h3];simp [hk,h1,z0]
theorem j0_eq {b:List Int} {m:Int} (hm:m=128∨m=32768) (hb:∀z∈b,0≤z∧z<256) (hn:b≠[]) {c:aF} (hc:c.Ns=0∧c.Nr=0∧c.Poll=false) (k:Nat):ck.j0 (k+3) b m c=some (numS c.Kind b m):=by
 rcases hm with rfl|rfl
 ·exact j0_128 hb hn hc k
 ·exact j0_32768 hb hn hc k
theorem modulus_eq (m:Int):dh.f m=some (decide (m=128∨m=32768)):=by
 unfold dh.f
 by_cases h:m=128<;>simp [h]
theorem read_eq {b:List Int} (m:Int) (hb:∀z∈b,0≤z∧z<256) (k:Nat):ck.f (k+6) b m=some (readS b m):=by
 unfold ck.f readS
 rw [modulus_eq,bsome]
 by_cases hm:m=128∨m=32768
 ·rw [if_pos (show decide (m=128∨m=32768)=true by simpa using hm),if_neg (show ¬¬(m=128∨m=32768) from fun h=>h hm)]
  by_cases hl:b.length=0
  ·rw [if_pos (show (b.length:Int)=0 by omega),if_pos hl];rfl
  ·rw [if_neg (show ¬(b.length:Int)=0 by omega),if_pos (show 0≤(0:Int)∧(0:Int)<(b.length:Int) from ⟨by omega,by omega⟩),if_neg hl]
   have hn:b≠[]:=fun e=>hl (by rw [e];rfl)
   have hx:0≤b.getD 0 0∧b.getD 0 0<256:=by
    cases b with
    |nil=>exact absurd rfl hn
    |cons x r=>exact hb x (by simp)
   show (dR.f).bind _=_
   unfold dR.f
   rw [bsome,show ((0:Int)).toNat=0 from rfl,andn16 hx,index_eq,bsome]
   generalize b.getD 0 0=x at *
   unfold kindOf
   by_cases k1:base4 x=111
   ·simp only [if_pos k1];rw [if_pos (by decide),and16 hx];rfl
   ·simp only [if_neg k1]
    by_cases k2:base4 x=99
    ·simp only [if_pos k2];rw [if_pos (by decide),and16 hx];rfl
    ·simp only [if_neg k2]
     by_cases k3:base4 x=67
     ·simp only [if_pos k3];rw [if_pos (by decide),and16 hx];rfl
     ·simp only [if_neg k3]
      by_cases k4:base4 x=15
      ·simp only [if_pos k4];rw [if_pos (by decide),and16 hx];rfl
      ·simp only [if_neg k4]
       by_cases k5:base4 x=135
       ·simp only [if_pos k5];rw [if_pos (by decide),and16 hx];rfl
       ·simp only [if_neg k5]
        rw [if_neg (show ¬(-1:Int)≥0 by decide),if_neg (show ¬(0:Int)≠0 by simp),and1 hx,j0_eq (k:=k+3) hm hb hn ⟨rfl,rfl,rfl⟩,j0_eq (k:=k+3) hm hb hn ⟨rfl,rfl,rfl⟩,j0_eq (k:=k+3) hm hb hn ⟨rfl,rfl,rfl⟩]
        by_cases q1:x=1
        ·rw [if_pos q1,if_pos q1]
        ·rw [if_neg q1,if_neg q1]
         by_cases q2:x=9
         ·rw [if_pos q2,if_pos q2]
         ·rw [if_neg q2,if_neg q2]
          by_cases q3:x%2=1
          ·rw [if_pos q3,if_pos q3];rfl
          ·rw [if_neg q3,if_neg q3]
 ·rw [if_neg (show ¬decide (m=128∨m=32768)=true by simpa using hm),if_pos hm];rfl
theorem kind_even {x:Int} (h:x%2=0):kindOf (base4 x)=0:=by
 unfold kindOf base4
 rw [if_neg (by omega),if_neg (by omega),if_neg (by omega),if_neg (by omega),if_neg (by omega)]
theorem enc_byte {c:aF} {m:Int} (h:rightB c m=true):∀z∈enc c m,0≤z∧z<256:=by
 obtain ⟨hm,hc⟩:=right_cases h
 have hb:=pb_b c.Poll
 have hp:∀n:Int,∀z∈pt n m,0≤z∧z<256:=by
  intro n z hz
  unfold pt at hz
  split at hz<;>simp at hz<;>omega
 have hp2:∀a b:Int,∀z∈pt a m++pt b m,0≤z∧z<256:=fun a b z hz=>(List.mem_append.1 hz).elim (hp a z) (hp b z)
 unfold enc
 split
 ·exact hp2 _ _
 ·split
  ·exact hp2 _ _
  ·split
   ·exact hp2 _ _
   ·intro z hz
    simp at hz
    subst hz
    unfold bareB
    repeat' split
    all_goals omega
theorem read_enc {c:aF} {m:Int} (h:rightB c m=true) (more:List Int):readS (enc c m++more) m=(c,((enc c m).length:Int),0):=by
 obtain ⟨hm,hc⟩:=right_cases h
 have hb:=pb_b c.Poll
 have hpd:∀y:Int,decide ((2*y+pb c.Poll)%2=1)=c.Poll:=by
  intro y
  unfold pb
  cases c.Poll<;>simp<;>omega
 obtain ⟨K,Ns,Nr,Poll⟩:=c
 simp only at hc hb hpd
 unfold readS
 rw [if_neg (show ¬¬(m=128∨m=32768) from fun h=>h hm)]
 rcases hc with ⟨rfl,n1,n2⟩|⟨k1,rfl,n2⟩|⟨k3,k7,rfl,rfl⟩
 ·rcases hm with rfl|rfl
  ·simp only [enc,if_true,pt,List.cons_append,List.nil_append,List.length_cons,List.getD_cons_zero]
   rw [if_neg (by omega),kind_even (by omega),if_neg (by simp),if_neg (by omega),if_neg (by omega),if_neg (by omega)]
   simp only [numS,if_true,List.length_cons,List.getD_cons_zero,List.getD_cons_succ]
   rw [if_neg (by omega)]
   have e1:2*Ns%256/2=Ns:=by omega
   have e2:(2*Nr+pb Poll)%256/2=Nr:=by omega
   have e3:(2*Nr+pb Poll)%256%2=(2*Nr+pb Poll)%2:=by omega
   rw [e1,e2,e3,hpd];rfl
  ·simp only [enc,if_true,pt,List.cons_append,List.nil_append,List.length_cons,List.getD_cons_zero,show ¬(32768:Int)=128 by decide,if_false]
   rw [if_neg (by omega),kind_even (by omega),if_neg (by simp),if_neg (by omega),if_neg (by omega),if_neg (by omega)]
   simp only [numS,if_true,List.length_cons,List.getD_cons_zero,List.getD_cons_succ,show ¬(32768:Int)=128 by decide,if_false,true_or]
   rw [if_neg (by omega)]
   have e1:(2*Ns%256+256*(2*Ns/256%256))/2=Ns:=by omega
   have e2:((2*Nr+pb Poll)%256+256*((2*Nr+pb Poll)/256%256))/2=Nr:=by omega
   have e3:((2*Nr+pb Poll)%256+256*((2*Nr+pb Poll)/256%256))%2=(2*Nr+pb Poll)%2:=by omega
   rw [e1,e2,e3,hpd];rfl
 ·have hk:∀n:Int,enc ⟨K,0,Nr,Poll⟩ m=pt (if K=1 then 1 else 9) m++pt (2*Nr+pb Poll) m:=by
   intro _;rcases k1 with rfl|rfl<;>rfl
  rw [hk 0]
  rcases hm with rfl|rfl
  ·rcases k1 with rfl|rfl
   all_goals
    simp only [if_true,pt,List.cons_append,List.nil_append,List.length_cons,List.getD_cons_zero,show ¬(2:Int)=1 by decide,if_false]
    rw [if_neg (by omega),if_neg (by decide)]
    simp only [show ((1:Int)%256=1) by decide,show ((9:Int)%256=9) by decide,if_true,show ¬(9:Int)=1 by decide,if_false,numS,List.length_cons,List.getD_cons_zero,List.getD_cons_succ]
    rw [if_neg (by omega)]
    have e2:(2*Nr+pb Poll)%256/2=Nr:=by omega
    have e3:(2*Nr+pb Poll)%256%2=(2*Nr+pb Poll)%2:=by omega
    rw [e2,e3,hpd];rfl
  ·rcases k1 with rfl|rfl
   all_goals
    simp only [if_true,pt,List.cons_append,List.nil_append,List.length_cons,List.getD_cons_zero,show ¬(2:Int)=1 by decide,if_false,show ¬(32768:Int)=128 by decide]
    rw [if_neg (by omega),if_neg (by decide)]
    simp only [show ((1:Int)%256=1) by decide,show ((9:Int)%256=9) by decide,show ((1:Int)/256%256=0) by decide,show ((9:Int)/256%256=0) by decide,if_true,show ¬(9:Int)=1 by decide,if_false,numS,List.length_cons,List.getD_cons_zero,List.getD_cons_succ,show ¬(32768:Int)=128 by decide,or_true]
    rw [if_neg (by omega)]
    have e2:((2*Nr+pb Poll)%256+256*((2*Nr+pb Poll)/256%256))/2=Nr:=by omega
    have e3:((2*Nr+pb Poll)%256+256*((2*Nr+pb Poll)/256%256))%2=(2*Nr+pb Poll)%2:=by omega
    rw [e2,e3,hpd];rfl
 ·have:K=3∨K=4∨K=5∨K=6∨K=7:=by omega
  have hl:∀x:Int,¬(([x]:List Int)++more).length=0:=by intro x;simp
  rcases this with rfl|rfl|rfl|rfl|rfl<;>cases Poll<;>(simp only [enc,show ∀a b:Int,(if (a:Int)=b then (1:Int) else 0)=(if a=b then 1 else 0) from fun _ _=>rfl];rfl)
end Co
def sStep (p:Int × Bool) (v:Int):Int × Bool:=if v>0∧v≤p.1 then (v,true) else p
theorem soonest_l0 (s:aI) (hs:s.left.length=32):∀(j k:Nat) (x:Int) (ok:Bool) (i:Nat),i≤32→32-i=j→j<k→bg.l0 k s x ok i=some ((s.left.drop i).foldl sStep (x,ok)):=by
 intro j
 induction j with
 |zero=>
  intro k x ok i hi hj hk
  obtain ⟨k,rfl⟩:∃k',k=k'+1:=⟨k-1,by omega⟩
  have:i=32:=by omega
  subst this
  rw [bg.l0,if_neg (by decide),List.drop_eq_nil_of_le (by omega)]
  rfl
 |succ j ih=>
  intro k x ok i hi hj hk
  obtain ⟨k,rfl⟩:∃k',k=k'+1:=⟨k-1,by omega⟩
  have hlt:i<s.left.length:=by omega
  have e1:w64 ((i:Int)+1)=((i+1:Nat):Int):=by rw [w64_in (by omega)];omega
  rw [bg.l0,if_pos (by omega),if_pos (by omega)]
  unfold bg.j1
  rw [e1]
  simp only [ih k _ _ (i+1) (by omega) (by omega) (by omega)]
  rw [List.drop_eq_getElem_cons hlt,List.foldl_cons]
  have e2:s.left.getD (i:Int).toNat 0=s.left[i]:=by simp [List.getD,hlt]
  rw [e2]
  unfold sStep
  by_cases h1:s.left[i]>0
  ·by_cases h2:s.left[i]≤x
   ·simp [h1,h2]
   ·simp [h1,h2]
  ·simp [h1]
theorem soonest_eq (s:aI) (hs:s.left.length=32) (n:Int) (k:Nat) (hk:33≤k):bg.f k s n=some (s.left.foldl sStep (n,false)):=by
 unfold bg.f
 have:=soonest_l0 s hs 32 k n false 0 (by omega) (by omega) (by omega)
 simpa using this
theorem fold_sStep:∀(l:List Int) (x:Int) (ok:Bool),let r:=l.foldl sStep (x,ok);r.1≤x∧(∀v∈l,0<v→v≤x→r.1≤v)∧(r.1=x∨0<r.1)∧(r.2=false→ok=false∧r.1=x∧∀v∈l,¬(0<v∧v≤x))∧(ok=false→r.2=true→r.1∈l∧0<r.1)
 |[],x,ok=>by simp
 |v::l,x,ok=>by
  intro r
  have hr:r=l.foldl sStep (if v>0∧v≤x then (v,true) else (x,ok)):=rfl
  by_cases hv:v>0∧v≤x
  ·rw [if_pos hv] at hr
   obtain ⟨h1,h2,h3,h4,h5⟩:=fold_sStep l v true
   change _ at h1 h2 h3 h4 h5
   rw [←hr] at h1 h2 h3 h4
   refine ⟨by omega,fun u hu h0 hx=>?_,by omega,fun h=>?_,fun h h'=>?_⟩
   ·rcases List.mem_cons.1 hu with e|e
    ·subst e;omega
    ·by_cases huv:u≤v
     ·exact h2 u e h0 huv
     ·omega
   ·have:=(h4 h).1;cases this
   ·have hpos:0<r.1:=by rcases h3 with e|e<;>omega
    refine ⟨?_,hpos⟩
    have key:∀(l:List Int) (p:Int × Bool),(l.foldl sStep p).1=p.1∨(l.foldl sStep p).1∈l:=by
     intro l
     induction l with
     |nil=>intro p;left;rfl
     |cons a l ih=>
      intro p
      rw [List.foldl_cons]
      rcases ih (sStep p a) with e|e
      ·rw [e];unfold sStep;split
       ·right;simp
       ·left;rfl
      ·right;exact List.mem_cons_of_mem _ e
    rw [hr]
    rcases key l (v,true) with e|e
    ·rw [e];simp
    ·exact List.mem_cons_of_mem _ e
  ·rw [if_neg hv] at hr
   obtain ⟨h1,h2,h3,h4,h5⟩:=fold_sStep l x ok
   rw [←hr] at h1 h2 h3 h4 h5
   refine ⟨h1,fun u hu h0 hx=>?_,h3,fun h=>?_,fun h h'=>?_⟩
   ·rcases List.mem_cons.1 hu with e|e
    ·subst e;exact absurd ⟨h0,hx⟩ hv
    ·exact h2 u e h0 hx
   ·obtain ⟨g1,g2,g3⟩:=h4 h
    refine ⟨g1,g2,fun u hu=>?_⟩
    rcases List.mem_cons.1 hu with e|e
    ·subst e;exact hv
    ·exact g3 u e
   ·exact ⟨List.mem_cons_of_mem _ (h5 h h').1,(h5 h h').2⟩
def hits (t:Int):Nat→List Int→List Int
 |_,[]=>[]
 |i,v::r=>if v=t then (i:Int)::hits t (i+1) r else hits t (i+1) r
def turn (n v:Int):Int:=if v=0 then 0 else w64 (v-n)
theorem pass_l0 (s:aI) (hs:s.left.length=32) (n:Int) (hn:n≠0):∀(j k:Nat) (i:Nat) (s':aI) (out:List Int),i≤32→32-i=j→j<k→s'.left.length=32→s'.left.drop i=s.left.drop i→out.length≤i→
  bv.l0 k s n i s' out=some (out++hits n i (s.left.drop i),{now:=s'.now,left:=s'.left.take i++(s.left.drop i).map (turn n)}):=by
 intro j
 induction j with
 |zero=>
  intro k i s' out hi hj hk hs' hd ho
  obtain ⟨k,rfl⟩:∃k',k=k'+1:=⟨k-1,by omega⟩
  have:i=32:=by omega
  subst this
  rw [bv.l0,if_neg (by decide),List.drop_eq_nil_of_le (by omega)]
  simp only [hits,List.map_nil,List.append_nil]
  rw [List.take_of_length_le (by omega)]
 |succ j ih=>
  intro k i s' out hi hj hk hs' hd ho
  obtain ⟨k,rfl⟩:∃k',k=k'+1:=⟨k-1,by omega⟩
  have hlt:i<s.left.length:=by omega
  have hlt':i<s'.left.length:=by omega
  have e1:w64 ((i:Int)+1)=((i+1:Nat):Int):=by rw [w64_in (by omega)];omega
  have e2:s.left.getD (i:Int).toNat 0=s.left[i]:=by simp [List.getD,hlt]
  have hd1:s'.left.drop (i+1)=s.left.drop (i+1):=by
   have:=congrArg (List.drop 1) hd
   simpa [List.drop_drop,Nat.add_comm] using this
  have hsi:s'.left[i]=s.left[i]:=by
   have h1:=List.drop_eq_getElem_cons hlt
   have h2:=List.drop_eq_getElem_cons hlt'
   rw [h1,h2] at hd
   exact (List.cons.inj hd).1
  have htake:s'.left.take (i+1)=s'.left.take i++[s'.left[i]]:=by rw [List.take_succ_eq_append_getElem hlt']
  rw [bv.l0,if_pos (by omega),if_pos (by omega),e1,e2,List.drop_eq_getElem_cons hlt]
  have hset:∀x:Int,(s'.left.set i x).take (i+1)=s'.left.take i++[x]:=by
   intro x
   rw [List.take_succ_eq_append_getElem (by simpa using hlt'),List.take_set_of_le (Nat.le_refl i)]
   simp
  have hdrop:∀x:Int,(s'.left.set i x).drop (i+1)=s.left.drop (i+1):=by
   intro x
   rw [List.drop_set_of_lt (by omega),hd1]
  by_cases h0:s.left[i]=0
  ·rw [if_pos h0,ih k (i+1) s' out (by omega) (by omega) (by omega) hs' hd1 (by omega)]
   rw [htake,hsi]
   simp [hits,turn,h0,Ne.symm hn]
  ·rw [if_neg h0]
   by_cases h1:s.left[i]=n
   ·rw [if_pos h1,if_pos (by simp;omega)]
    rw [ih k (i+1) _ _ (by omega) (by omega) (by omega) (by simpa using hs') (by simpa using hdrop _) (by simp;omega)]
    simp only [Int.toNat_natCast,hset]
    simp only [hits,turn,h1,if_neg hn,if_true,List.map_cons,List.append_assoc,List.cons_append,List.nil_append]
   ·rw [if_neg h1]
    rw [ih k (i+1) _ _ (by omega) (by omega) (by omega) (by simpa using hs') (by simpa using hdrop _) (by omega)]
    simp only [Int.toNat_natCast,hset]
    simp only [hits,turn,if_neg h0,if_neg h1,List.map_cons,List.append_assoc,List.cons_append,List.nil_append]
theorem pass_eq (s:aI) (hs:s.left.length=32) (n:Int) (hn:n≠0) (k:Nat) (hk:33≤k):bv.f k s n=some (hits n 0 s.left,{now:=s.now,left:=s.left.map (turn n)}):=by
 unfold bv.f
 have:=pass_l0 s hs n hn 32 k 0 s [] (by omega) (by omega) (by omega) hs rfl (by simp)
 simpa using this
theorem pass0_l0 (s:aI) (hs:s.left.length=32):∀(j k:Nat) (i:Nat) (s':aI) (out:List Int),i≤32→32-i=j→j<k→s'.left.length=32→s'.left.drop i=s.left.drop i→out.length≤i→
  bv.l0 k s 0 i s' out=some (out,{now:=s'.now,left:=s'.left.take i++(s.left.drop i).map (turn 0)}):=by
 intro j
 induction j with
 |zero=>
  intro k i s' out hi hj hk hs' hd ho
  obtain ⟨k,rfl⟩:∃k',k=k'+1:=⟨k-1,by omega⟩
  have:i=32:=by omega
  subst this
  rw [bv.l0,if_neg (by decide),List.drop_eq_nil_of_le (by omega)]
  simp only [List.map_nil,List.append_nil]
  rw [List.take_of_length_le (by omega)]
 |succ j ih=>
  intro k i s' out hi hj hk hs' hd ho
  obtain ⟨k,rfl⟩:∃k',k=k'+1:=⟨k-1,by omega⟩
  have hlt:i<s.left.length:=by omega
  have hlt':i<s'.left.length:=by omega
  have e1:w64 ((i:Int)+1)=((i+1:Nat):Int):=by rw [w64_in (by omega)];omega
  have e2:s.left.getD (i:Int).toNat 0=s.left[i]:=by simp [List.getD,hlt]
  have hd1:s'.left.drop (i+1)=s.left.drop (i+1):=by
   have:=congrArg (List.drop 1) hd
   simpa [List.drop_drop,Nat.add_comm] using this
  have hsi:s'.left[i]=s.left[i]:=by
   have h1:=List.drop_eq_getElem_cons hlt
   have h2:=List.drop_eq_getElem_cons hlt'
   rw [h1,h2] at hd
   exact (List.cons.inj hd).1
  have htake:s'.left.take (i+1)=s'.left.take i++[s'.left[i]]:=by rw [List.take_succ_eq_append_getElem hlt']
  rw [bv.l0,if_pos (by omega),if_pos (by omega),e1,e2,List.drop_eq_getElem_cons hlt]
  have hset:∀x:Int,(s'.left.set i x).take (i+1)=s'.left.take i++[x]:=by
   intro x
   rw [List.take_succ_eq_append_getElem (by simpa using hlt'),List.take_set_of_le (Nat.le_refl i)]
   simp
  have hdrop:∀x:Int,(s'.left.set i x).drop (i+1)=s.left.drop (i+1):=by
   intro x
   rw [List.drop_set_of_lt (by omega),hd1]
  by_cases h0:s.left[i]=0
  ·rw [if_pos h0,ih k (i+1) s' out (by omega) (by omega) (by omega) hs' hd1 (by omega)]
   rw [htake,hsi]
   simp [turn,h0]
  ·rw [if_neg h0,if_neg h0]
   rw [ih k (i+1) _ _ (by omega) (by omega) (by omega) (by simpa using hs') (by simpa using hdrop _) (by omega)]
   simp only [Int.toNat_natCast,hset]
   simp only [turn,if_neg h0,List.map_cons,List.append_assoc,List.cons_append,List.nil_append]
theorem pass0_eq (s:aI) (hs:s.left.length=32) (k:Nat) (hk:33≤k):bv.f k s 0=some ([],{now:=s.now,left:=s.left.map (turn 0)}):=by
 unfold bv.f
 have:=pass0_l0 s hs 32 k 0 s [] (by omega) (by omega) (by omega) hs rfl (by simp)
 simpa using this
def spec (l:List Int):Nat→List Int
 |0=>[]
 |n+1=>spec l n++hits ((n+1:Nat):Int) 0 l
def fin (n v:Int):Int:=if v>n then v-n else 0
def busy (l:List Int):Nat:=(l.filter (· ≠0)).length
def okL (l:List Int):Prop:=l.length=32∧∀v∈l,0≤v∧v≤1073741824
theorem hits_none {t:Int}:∀{l:List Int} (i:Nat),(∀v∈l,v≠t)→hits t i l=[]
 |[],_,_=>rfl
 |v::r,i,h=>by rw [hits,if_neg (h v (.head _)),hits_none (i+1) fun u hu=>h u (.tail _ hu)]
theorem spec_none {l:List Int}:∀{n:Nat},(∀v∈l,¬(0<v∧v≤n))→spec l n=[]
 |0,_=>rfl
 |n+1,h=>by rw [spec,spec_none (fun v hv h2=>h v hv ⟨h2.1,by omega⟩),hits_none 0 (fun v hv e=>h v hv ⟨by omega,by omega⟩)];rfl
theorem hits_turn {m t:Int} (hm:0<m) (ht:m<t):∀{l:List Int} (i:Nat),(∀v∈l,0≤v∧v≤1073741824∧(0<v→m≤v))→hits (t-m) i (l.map (turn m))=hits t i l
 |[],_,_=>rfl
 |v::r,i,h=>by
  obtain ⟨h1,h2,h3⟩:=h v (.head _)
  rw [List.map_cons,hits,hits,hits_turn hm ht (i+1) fun u hu=>h u (.tail _ hu)]
  unfold turn
  by_cases h0:v=0
  ·subst h0
   rw [if_pos rfl,if_neg (by omega),if_neg (by omega)]
  ·rw [if_neg h0,w64_in (by have:=h3 (by omega);omega)]
   by_cases e:v=t
   ·rw [if_pos (by omega),if_pos e]
   ·rw [if_neg (by omega),if_neg e]
theorem spec_turn {l:List Int} {m:Nat} (hm:0<m) (hl:∀v∈l,0≤v∧v≤1073741824∧(0<v→(m:Int)≤v)):∀(d:Nat),spec l (m+d)=hits m 0 l++spec (l.map (turn m)) d
 |0=>by
  obtain ⟨p,rfl⟩:∃p,m=p+1:=⟨m-1,by omega⟩
  have h0:spec l p=[]:=spec_none (n:=p) fun v hv h=>by have:=(hl v hv).2.2 h.1;omega
  show spec l p++hits ((p+1:Nat):Int) 0 l=hits ((p+1:Nat):Int) 0 l++[]
  rw [h0,List.nil_append,List.append_nil]
 |d+1=>by
  show spec l (m+d+1)=_
  rw [spec,spec_turn hm hl d,spec,List.append_assoc]
  congr 2
  have:=hits_turn (m:=m) (t:=((m+d+1:Nat):Int)) (by omega) (by omega) 0 hl
  rw [←this]
  congr 1
  omega
theorem busy_turn {m:Int} (hm:0<m):∀{l:List Int} (i:Nat),(∀v∈l,0≤v∧v≤1073741824∧(0<v→m≤v))→(hits m i l).length+busy (l.map (turn m))≤busy l
 |[],_,_=>by simp [hits,busy]
 |v::r,i,h=>by
  obtain ⟨h1,h2,h3⟩:=h v (.head _)
  have ih:=busy_turn hm (i+1) fun u hu=>h u (.tail _ hu)
  unfold busy at ih ⊢
  rw [List.map_cons,hits]
  unfold turn at ih ⊢
  by_cases h0:v=0
  ·subst h0
   rw [if_neg (by omega)]
   simpa using ih
  ·have h4:=h3 (by omega)
   rw [if_neg h0,w64_in (by omega)]
   by_cases e:v=m
   ·rw [if_pos e]
    simp [e,show m≠0 by omega];(try simp at ih);omega
   ·rw [if_neg e]
    simp [h0,show v-m≠0 by omega];(try simp at ih);omega
theorem okL.turn {l:List Int} {m:Int} (h:okL l) (hm:0<m) (h3:∀v∈l,0<v→m≤v):okL (l.map (turn m)):=by
 refine ⟨by simpa using h.1,fun v hv=>?_⟩
 obtain ⟨u,hu,rfl⟩:=List.mem_map.1 hv
 have h1:=h.2 u hu
 have h2:=h3 u hu
 by_cases h0:u=0
 ·subst h0;simp [Go.Proofs.YtaejcbpijdacmaaGreat.turn]
 ·have e:Go.Proofs.YtaejcbpijdacmaaGreat.turn m u=u-m:=by show (if u=0 then 0 else w64 (u-m))=_;rw [if_neg h0,w64_in (by omega)]
  rw [e];omega
theorem fin_turn {m n:Int} (hm:0<m) (hmn:m≤n) {v:Int} (h:0≤v∧v≤1073741824∧(0<v→m≤v)):fin (n-m) (turn m v)=fin n v:=by
 unfold fin
 by_cases h0:v=0
 ·subst h0
  have e:turn m 0=0:=by simp [turn]
  rw [e,if_neg (by omega),if_neg (by omega)]
 ·have e:turn m v=v-m:=by
   show (if v=0 then 0 else w64 (v-m))=_
   rw [if_neg h0,w64_in (by omega)]
  rw [e]
  by_cases h1:v>n
  ·rw [if_pos (by omega),if_pos h1];omega
  ·rw [if_neg (by omega),if_neg h1]
theorem Pass_l0:∀(N:Nat) (s:aI) (n:Nat) (out:List Int) (k:Nat),n≤N→n≤1073741824→okL s.left→out.length+busy s.left≤1000000→N+40<k→
  bM.l0 k n (s.left.foldl sStep ((n:Int),false)).1 (s.left.foldl sStep ((n:Int),false)).2 s out=some (out++spec s.left n,{now:=s.now,left:=s.left.map (fin n)}):=by
 intro N
 induction N with
 |zero=>
  intro s n out k hn hn2 hs ho hk
  obtain ⟨k,rfl⟩:∃k',k=k'+1:=⟨k-1,by omega⟩
  obtain rfl:n=0:=by omega
  obtain ⟨h1,h2,h3,h4,h5⟩:=fold_sStep s.left (0:Nat) false
  cases hr:(s.left.foldl sStep (((0:Nat):Int),false)).2 with
  |true=>
   have:=(h5 rfl hr).2
   omega
  |false=>
   rw [bM.l0,if_neg (by simp)]
   rw [show (((0:Nat):Int))=0 from rfl,pass0_eq s hs.1 k (by omega)]
   simp only [Option.bind_some,spec,List.append_nil]
   refine congrArg some (Prod.ext rfl (congrArg (fun l=>({now:=s.now,left:=l}:aI)) ?_))
   refine List.map_congr_left fun v hv=>?_
   have hv':=hs.2 v hv
   unfold fin
   by_cases h0:v=0
   ·subst h0;simp [turn]
   ·rw [if_pos (by omega)]
    show (if v=0 then 0 else w64 (v-0))=_
    rw [if_neg h0,w64_in (by omega)]
 |succ N ih=>
  intro s n out k hn hn2 hs ho hk
  obtain ⟨k,rfl⟩:∃k',k=k'+1:=⟨k-1,by omega⟩
  obtain ⟨h1,h2,h3,h4,h5⟩:=fold_sStep s.left (n:Int) false
  cases hr:(s.left.foldl sStep ((n:Int),false)).2 with
  |true=>
   obtain ⟨hm,hpos⟩:=h5 rfl hr
   generalize hmv:(s.left.foldl sStep ((n:Int),false)).1=m at h1 h2 h3 hm hpos ⊢
   obtain ⟨p,rfl⟩:∃p:Nat,m=p:=⟨m.toNat,by omega⟩
   have hmin:∀v∈s.left,0<v→(p:Int)≤v:=fun v hv h0=>by
    by_cases hx:v≤n
    ·exact h2 v hv h0 hx
    ·omega
   have hall:∀v∈s.left,0≤v∧v≤1073741824∧(0<v→(p:Int)≤v):=fun v hv=>⟨(hs.2 v hv).1,(hs.2 v hv).2,hmin v hv⟩
   have hb:=busy_turn (m:=p) (by omega) 0 hall
   have hok:=hs.turn (m:=p) (by omega) hmin
   rw [bM.l0,if_pos rfl,pass_eq s hs.1 p (by omega) k (by omega)]
   simp only [Option.bind_some]
   rw [if_pos (by omega),show w64 ((n:Int)-p)=((n-p:Nat):Int) by rw [w64_in (by omega)];omega,soonest_eq _ hok.1 _ _ (by omega)]
   simp only [Option.bind_some]
   rw [ih {now:=s.now,left:=s.left.map (turn p)} (n-p) _ k (by omega) (by omega) hok (by simp only [List.length_append];omega) (by omega)]
   have e1:=spec_turn (l:=s.left) (m:=p) (by omega) hall (n-p)
   rw [show p+(n-p)=n by omega] at e1
   rw [e1,List.append_assoc]
   refine congrArg some (Prod.ext rfl (congrArg (fun l=>({now:=s.now,left:=l}:aI)) ?_))
   rw [List.map_map]
   refine List.map_congr_left fun v hv=>?_
   have:=fin_turn (m:=p) (n:=n) (by omega) (by omega) (hall v hv)
   simp only [Function.comp]
   rw [show ((n-p:Nat):Int)=(n:Int)-p by omega]
   exact this
  |false=>
   obtain ⟨_,_,h6⟩:=h4 hr
   rw [bM.l0,if_neg (by simp)]
   have hfin:∀v∈s.left,turn n v=fin n v:=by
    intro v hv
    have hv':=hs.2 v hv
    have:=h6 v hv
    unfold fin
    by_cases h0:v=0
    ·subst h0
     rw [if_neg (by omega)];simp [turn]
    ·rw [if_pos (by omega)]
     show (if v=0 then 0 else w64 (v-n))=_
     rw [if_neg h0,w64_in (by omega)]
   by_cases hz:n=0
   ·subst hz
    rw [show (((0:Nat):Int))=0 from rfl,pass0_eq s hs.1 k (by omega)]
    simp only [Option.bind_some,spec,List.append_nil]
    exact congrArg some (Prod.ext rfl (congrArg (fun l=>({now:=s.now,left:=l}:aI)) (List.map_congr_left hfin)))
   ·rw [pass_eq s hs.1 n (by omega) k (by omega)]
    simp only [Option.bind_some]
    rw [spec_none h6,List.append_nil]
    exact congrArg some (Prod.ext rfl (congrArg (fun l=>({now:=s.now,left:=l}:aI)) (List.map_congr_left hfin)))
def clamp (n:Int):Int:=imax 0 (imin n 1073741824)
theorem clamp_in (n:Int):0≤clamp n∧clamp n≤1073741824:=by unfold clamp imax imin;constructor<;>(repeat' split)<;>omega
theorem clamp_id {n:Int} (h:0≤n∧n≤1073741824):clamp n=n:=by unfold clamp imax imin;(repeat' split)<;>omega
theorem busy_le (l:List Int):busy l≤l.length:=List.length_filter_le _ _
theorem Pass_eq (s:aI) (hs:okL s.left) (n:Int) (k:Nat) (hk:(clamp n).toNat+41≤k):bM.f k s n=some (spec s.left (clamp n).toNat,{now:=IntKind.u32.wrap (s.now+IntKind.u32.wrap (clamp n)),left:=s.left.map (fin (clamp n))}):=by
 have hc:=clamp_in n
 have hb:=busy_le s.left
 have hs1:=hs.1
 unfold bM.f
 show (bg.f k {now:=IntKind.u32.wrap (s.now+IntKind.u32.wrap (clamp n)),left:=s.left} (clamp n)).bind _=_
 have hsn:=soonest_eq {now:=IntKind.u32.wrap (s.now+IntKind.u32.wrap (clamp n)),left:=s.left} hs.1 (clamp n) k (by omega)
 rw [hsn]
 simp only [Option.bind_some]
 have e:clamp n=((clamp n).toNat:Int):=by omega
 have:=Pass_l0 (clamp n).toNat {now:=IntKind.u32.wrap (s.now+IntKind.u32.wrap (clamp n)),left:=s.left} (clamp n).toNat [] k (Nat.le_refl _) (by omega) hs (by simp;omega) (by omega)
 rw [←e] at this
 exact this
namespace Aq
def tm (w v:Int):aI:={now:=w,left:=v::List.replicate 31 0}
theorem has0:eI.f 0=some true:=by unfold eI.f;rw [if_pos (by decide)];rfl
theorem left_eq (w v:Int):cp.f (tm w v) 0=some (v,decide (v>0)):=by
 unfold cp.f
 rw [has0,bsome,if_pos rfl,if_pos (by decide)];rfl
theorem stop_eq (w:Int) {v:Int} (hv:0≤v):de.f (tm w v) 0=some (decide (v>0),tm w 0):=by
 unfold de.f
 rw [left_eq,bsome]
 by_cases h:v>0
 ·rw [if_pos (decide_eq_true h),if_pos (by decide)];rfl
 ·obtain rfl:v=0:=by omega
  rfl
theorem start_eq (w v:Int) {n:Int} (hn:1≤n∧n≤1048576):cQ.f (tm w v) 0 n=some (true,tm w n):=by
 have e:imax 1 (imin n 1073741824)=n:=by unfold imax imin;repeat' split;all_goals omega
 unfold cQ.f cQ.j0
 rw [has0,bsome,if_pos rfl,if_pos (by decide),bsome,e];rfl
theorem tm_ok {w v:Int} (hv:0≤v∧v≤1048576):okL (tm w v).left:=by
 refine ⟨by simp [tm],fun u hu=>?_⟩
 rcases List.mem_cons.1 hu with e|e
 ·subst e;omega
 ·have:=List.eq_of_mem_replicate e;omega
def tk (w n:Int):Int:=IntKind.u32.wrap (w+IntKind.u32.wrap n)
theorem pass_eq (w:Int) {v n:Int} (hv:0≤v∧v≤1048576) (hn:0≤n∧n≤1048576) {k:Nat} (hk:1100000≤k):∃o,bM.f k (tm w v) n=some (o,tm (tk w n) (if v>n then v-n else 0)):=by
 have hc:clamp n=n:=clamp_id ⟨hn.1,by omega⟩
 refine ⟨spec (tm w v).left n.toNat,?_⟩
 rw [Pass_eq (tm w v) (tm_ok hv) n k (by rw [hc];omega),hc]
 refine congrArg some (Prod.ext rfl ?_)
 show ({now:=tk w n,left:=(v::List.replicate 31 0).map (fin n)}:aI)=_
 have h0:fin n 0=0:=by unfold fin;rw [if_neg (by omega)]
 rw [List.map_cons,List.map_replicate,h0];rfl
theorem concat_eq {x y z:List Int} (hx:x.length≤10000000) (hy:y.length≤10000000) (hz:z.length≤10000000) {k:Nat} (hk:20≤k):aG.f k [x,y,z]=some (x++(y++z)):=by
 obtain ⟨k,rfl⟩:∃j,k=j+20:=⟨k-20,by omega⟩
 unfold aG.f
 have e1:w64 (0+1)=1:=by decide
 have e2:w64 (1+1)=2:=by decide
 have e3:w64 (2+1)=3:=by decide
 have g0:([x,y,z].getD (0:Int).toNat [])=x:=rfl
 have g1:([x,y,z].getD (1:Int).toNat [])=y:=rfl
 have g2:([x,y,z].getD (2:Int).toNat [])=z:=rfl
 have hl:(([x,y,z]:List (List Int)).length:Int)=3:=rfl
 rw [aG.l0,hl,if_pos (by decide),if_pos (by decide),g0,w64_in ⟨by omega,by omega⟩,if_neg (by omega),e1]
 rw [aG.l0,hl,if_pos (by decide),if_pos (by decide),g1,w64_in ⟨by omega,by omega⟩,if_neg (by omega),e2]
 rw [aG.l0,hl,if_pos (by decide),if_pos (by decide),g2,w64_in ⟨by omega,by omega⟩,if_neg (by omega),e3]
 rw [aG.l0,hl,if_neg (by decide)]
 have gr:cH.f (0+(x.length:Int)+(y.length:Int)+(z.length:Int))=some []:=by
  unfold cH.f
  have ew:w64 (0-0)=0:=by decide
  rw [if_neg (by omega)];try rw [ew]
  rw [w64_in ⟨by omega,by omega⟩]
  by_cases h:0+(x.length:Int)+(y.length:Int)+(z.length:Int)-0>0
  ·rw [if_pos h,if_pos (by omega)]
  ·rw [if_neg h]
 rw [gr,bsome]
 rw [aG.l1,hl,if_pos (by decide),if_pos (by decide),g0,if_pos (by simp;omega),e1]
 rw [aG.l1,hl,if_pos (by decide),if_pos (by decide),g1,if_pos (by simp;omega),e2]
 rw [aG.l1,hl,if_pos (by decide),if_pos (by decide),g2,if_pos (by simp;omega),e3]
 rw [aG.l1,hl,if_neg (by decide)]
 simp
structure AI (a:ae) (C:Nat):Prop where
 m:a.m=128∨a.m=32768
 t1:1≤a.t1∧a.t1≤1048576
 n2:1≤a.n2∧a.n2≤100
 size:1≤a.size∧a.size≤1000
 state:0≤a.state∧a.state≤3
 tag:0≤a.tag∧a.tag<65536
 tries:0≤a.tries∧a.tries≤a.n2
 log:Bl.BI a.log
 lm:a.log.m=a.m
 lw:a.log.window≤a.m/8
 ord:Or.OI a.order C
 om:a.order.m=a.m
 ow:a.order.window=a.log.window
 tim:∃w v,a.timers=tm w v∧0≤v∧v≤1048576
 out:a.out.length≤C
 inds:a.inds.length≤C
 sent:0≤a.sent∧a.sent≤C
 acked:0≤a.acked∧a.acked≤C
 lost:0≤a.lost∧a.lost≤C
def big:Nat:=1000000000000
theorem AI.more {a:ae} {C D:Nat} (h:AI a C) (l:C≤D):AI a D:=
 {h with ord:=h.ord.more l,out:=Nat.le_trans h.out l,inds:=Nat.le_trans h.inds l,sent:=⟨h.sent.1,by have:=h.sent.2;omega⟩,acked:=⟨h.acked.1,by have:=h.acked.2;omega⟩,lost:=⟨h.lost.1,by have:=h.lost.2;omega⟩}
abbrev ct (K n r:Int) (p:Bool):aF:={Kind:=K,Ns:=n,Nr:=r,Poll:=p}
def hdr (t:Int):List Int:=[t/256,t%256]
def say (a:ae) (t:Int) (c:aF) (b:List Int):ae:={a with out:=a.out++[hdr t++(Co.enc c a.m++b)]}
theorem say_ai {a:ae} {C:Nat} (h:AI a C) (t:Int) (c:aF) (b:List Int):AI (say a t c b) (C+1):=by
 have h':=h.more (D:=C+1) (by omega)
 exact {h' with out:=by show (a.out++[_]).length≤_;have:=h.out;rw [List.length_append];simp;omega}
theorem enc_len (c:aF) (m:Int):(Co.enc c m).length≤4:=by
 unfold Co.enc
 have p:=fun n=>Co.pt_le n m
 repeat' split
 all_goals first|(simp only [List.length_append];have:=p (2*c.Ns);have:=p (2*c.Nr+Co.pb c.Poll);have:=p 1;have:=p 9;omega)|simp
theorem hd_eq {t:Int} (ht:0≤t∧t<65536):([IntKind.u8.wrap (t.fdiv (2^(min (8:Int).toNat IntKind.i64.bits))),IntKind.u8.wrap t]:List Int)=hdr t:=by
 rw [Co.fd8,u8w,u8w,Int.emod_eq_of_lt (by omega) (by omega)];rfl
theorem put_eq {a:ae} {C:Nat} (h:AI a C) (hC:C≤big) {t:Int} (ht:0≤t∧t<65536) {c:aF} (hc:Co.rightB c a.m=true) {b:List Int} (hb:b.length≤1000000) {k:Nat} (hk:20≤k):
  dq.f k a t c b=some (say a t c b):=by
 have:=enc_len c a.m
 have ho:=h.out
 unfold big at hC
 unfold dq.f
 rw [Co.bytes_eq hc,bsome,hd_eq ht,concat_eq (by simp [hdr]) (by omega) (by omega) hk,bsome,if_pos (by simp;omega)];rfl
theorem tell_eq {a:ae} {C:Nat} (h:AI a C) (hC:C≤big) {c:aF} (hc:Co.rightB c a.m=true) {k:Nat} (hk:20≤k):bJ.f k a c=some (say a a.tag c []):=by
 unfold bJ.f
 rw [put_eq h hC h.tag hc (by simp) hk,bsome]
theorem right_bare {a:ae} {C:Nat} (h:AI a C) {K:Int} (hK:3≤K∧K≤7) (p:Bool):Co.rightB (ct K 0 0 p) a.m=true:=by
 unfold Co.rightB ct
 have e0:¬K=0:=by omega
 have e1:¬(K=1∨K=2):=by omega
 simp only [if_neg e0,if_neg e1]
 rcases h.m with e|e<;>rw [e]<;>simp<;>omega
theorem right_num {a:ae} {C:Nat} (h:AI a C) {K n r:Int} (hK:K=0∨(K=1∨K=2)∧n=0) (hn:0≤n∧n<a.m) (hr:0≤r∧r<a.m) (p:Bool):Co.rightB (ct K n r p) a.m=true:=by
 unfold Co.rightB ct
 rcases hK with e|⟨e,e'⟩
 ·simp only [if_pos e]
  rcases h.m with q|q<;>rw [q] at hn hr ⊢<;>simp<;>omega
 ·have e0:¬K=0:=by omega
  simp only [if_neg e0,if_pos e]
  rcases h.m with q|q<;>rw [q] at hr ⊢<;>simp<;>omega
def timed (a:ae) (n:Int):ae:={a with timers:=tm a.timers.now n}
theorem timed_ai {a:ae} {C:Nat} (h:AI a C) {n:Int} (hn:0≤n∧n≤1048576):AI (timed a n) C:={h with tim:=⟨_,_,rfl,hn⟩}
theorem astart_eq {a:ae} {C:Nat} (h:AI a C):cu.f a=some (timed a a.t1):=by
 obtain ⟨w,v,e,hv⟩:=h.tim
 unfold cu.f
 rw [e,start_eq w v h.t1,bsome];unfold timed;rw [e];rfl
theorem back_mod {f i m:Int} (hf:0≤f∧f<m) (hi:0≤i∧i<m):((f+i)%m-f)%m=i:=by
 rw [Int.emod_sub_emod,show f+i-f=i by omega,Int.emod_eq_of_lt hi.1 hi.2]
theorem getD_small {l:List (List Int)} {N:Nat} (h:∀b∈l,b.length≤N) (i:Nat):(l.getD i []).length≤N:=by
 by_cases hi:i<l.length
 ·have e:l.getD i []=l[i]:=by simp [List.getD,hi]
  rw [e];exact h _ (List.getElem_mem hi)
 ·have e:l.getD i []=[]:=by simp [List.getD,show l.length≤i by omega]
  rw [e];simp
theorem body_eq {l:aC} (h:Bl.BI l) (hwm:l.window≤l.m/8) {i:Int} (hi:0≤i∧i<l.out):cC.f l ((l.first+i)%l.m)=some (l.l.getD i.toNat [],true):=by
 have hm:=h.m
 have hf:=h.first
 have ho:=h.out
 have hw:=h.win
 have hn:0≤(l.first+i)%l.m∧(l.first+i)%l.m<l.m:=⟨Int.emod_nonneg _ (by omega),Int.emod_lt_of_pos _ (by omega)⟩
 have him:i<l.m:=by omega
 have hs:=getD_small h.small i.toNat
 unfold cC.f cC.j0
 rw [dist_eq ⟨by omega,by omega⟩ ⟨by omega,by omega⟩ ⟨by omega,by omega⟩,bsome,back_mod hf ⟨hi.1,him⟩,if_neg (by omega),if_neg (by omega),if_neg (by simp;omega),if_pos ⟨by omega,by omega⟩,Bl.clone_eq (by omega),bsome]
def oclr (o:aD):aD:={m:=o.m,window:=o.window,next:=0,kept:=[],ready:=o.ready}
def lclr (l:aC):aC:={m:=l.m,window:=l.window,queue:=l.queue,first:=0,out:=0,l:=[]}
def fresh (a:ae) (st:Int):ae:={a with state:=st,tries:=0,rejected:=false,log:=lclr a.log,order:=oclr a.order,timers:=tm a.timers.now 0,lost:=a.lost+(a.log.l.length:Int)}
theorem AI.len {a:ae} {C:Nat} (h:AI a C):(a.log.l.length:Int)≤5096:=by have:=h.log.wait;have:=h.log.out;have:=h.log.que;have:=h.log.win;omega
theorem fresh_ai {a:ae} {C:Nat} (h:AI a C) {st:Int} (hs:0≤st∧st≤3):AI (fresh a st) (C+6000):=by
 have hl:=h.len
 have ho:=h.ord
 have hlo:=h.lost
 have hw:=h.log.win
 have hm:=h.log.m
 have h':=h.more (D:=C+6000) (by omega)
 exact {h' with
  state:=hs
  tries:=⟨Int.le_refl _,by show (0:Int)≤a.n2;have:=h.n2;omega⟩
  log:=⟨hm,hw,h.log.que,⟨Int.le_refl _,by show 0<a.log.m;omega⟩,⟨Int.le_refl _,by show (0:Int)≤a.log.window;omega,by show (0:Int)≤_;omega⟩,by show ((([]:List (List Int)).length:Nat):Int)≤0+a.log.queue;have:=h.log.que;simp;omega,by intro b hb;cases hb⟩
  lm:=h.lm
  lw:=h.lw
  ord:=⟨ho.hm,ho.hwin,⟨Int.le_refl _,by show 0<a.order.m;have:=ho.hm;omega⟩,by show 0+a.order.ready.length≤_;have:=ho.held;omega⟩
  om:=h.om
  ow:=h.ow
  tim:=⟨_,_,rfl,by omega,by omega⟩
  lost:=⟨by show 0≤a.lost+_;omega,by show a.lost+_≤_;omega⟩}
theorem fresh_eq {a:ae} {C:Nat} (h:AI a C) (hC:C≤big) (st:Int):dw.f a st=some (fresh a st):=by
 obtain ⟨w,v,e,hv⟩:=h.tim
 have hl:=h.len
 have hlo:=h.lost
 unfold big at hC
 unfold dw.f eF.f dU.f
 rw [bsome,bsome,e,stop_eq w hv.1,bsome,w64_in ⟨by omega,by omega⟩];unfold fresh;rw [e];rfl
def tellInd (a:ae) (n:Int):ae:={a with inds:=a.inds++[n]}
theorem ind_ai {a:ae} {C:Nat} (h:AI a C) (n:Int):AI (tellInd a n) (C+1):=by
 have h':=h.more (D:=C+1) (by omega)
 exact {h' with inds:=by show (a.inds++[n]).length≤_;have:=h.inds;rw [List.length_append];simp;omega}
def aend (a:ae):ae:=tellInd (fresh a 0) 2
theorem aend_ai {a:ae} {C:Nat} (h:AI a C):AI (aend a) (C+6001):=ind_ai (fresh_ai h (by decide)) 2
theorem aend_eq {a:ae} {C:Nat} (h:AI a C) (hC:C≤big):cw.f a=some (aend a):=by
 have hi:=h.inds
 unfold cw.f
 rw [fresh_eq h hC,bsome]
 unfold big at hC
 rw [if_pos (by show ((a.inds.length:Nat):Int)+_≤_;simp;omega)];rfl
def aheadB (tag t:Int):Bool:=decide (1≤(t-tag)%65536∧(t-tag)%65536<32768)
theorem ahead_eq {a:ae} {C:Nat} (h:AI a C) {t:Int} (ht:0≤t∧t<65536):dQ.f a t=some (aheadB a.tag t):=by
 have:=h.tag
 unfold dQ.f aheadB
 rw [dist_eq ⟨by omega,by omega⟩ ⟨by omega,by omega⟩ (by decide),bsome]
 by_cases h1:(t-a.tag)%65536≥1
 ·rw [if_pos h1]
  by_cases h2:(t-a.tag)%65536<32768
  ·rw [decide_eq_true h2,decide_eq_true ⟨h1,h2⟩]
  ·rw [decide_eq_false h2,decide_eq_false (by omega)]
 ·rw [if_neg h1,decide_eq_false (by omega)]
theorem AI.next {a:ae} {C:Nat} (h:AI a C):0≤a.order.next∧a.order.next<a.m:=by have:=h.ord.hnext;have:=h.om;omega
theorem AI.num {a:ae} {C:Nat} (h:AI a C) (i:Int):0≤(a.log.first+i)%a.log.m∧(a.log.first+i)%a.log.m<a.m:=by
 have:=h.log.m;have:=h.lm
 have h1:=Int.emod_nonneg (a.log.first+i) (show a.log.m≠0 by omega)
 have h2:=Int.emod_lt_of_pos (a.log.first+i) (show 0<a.log.m by omega)
 omega
theorem message_eq {a:ae} {C:Nat} (h:AI a C) (hC:C≤big) {n:Int} (hn:0≤n∧n<a.m) {b:List Int} (hb:b.length≤1000000) (p:Bool) {k:Nat} (hk:20≤k):
  dz.f k a n b p=some (say a a.tag (ct 0 n a.order.next p) b):=by
 unfold dz.f cR.f
 rw [bsome,put_eq h hC h.tag (right_num h (.inl rfl) hn h.next p) hb hk,bsome]
def run (a:ae):Int:=a.timers.left.getD 0 0
def out1 (a:ae):ae:=
 let x:=say {a with log:=Bl.logOut a.log} a.tag (ct 0 ((a.log.first+a.log.out)%a.log.m) a.order.next false) (a.log.l.getD a.log.out.toNat [])
 if run a>0 then x else timed x a.t1
def more (a:ae):Prop:=a.log.out<(a.log.l.length:Int)∧a.log.out<a.log.window
instance (a:ae):Decidable (more a):=inferInstanceAs (Decidable (_∧_))
def pumpL:Nat→ae→ae
 |0,a=>a
 |d+1,a=>if more a then pumpL d (out1 a) else a
theorem setlog_ai {a:ae} {C:Nat} (h:AI a C) {l:aC} (hl:Bl.BI l) (hm:l.m=a.log.m) (hw:l.window=a.log.window):AI {a with log:=l} C:=
 {h with log:=hl,lm:=hm.trans h.lm,lw:=by show l.window≤_;rw [hw];exact h.lw,ow:=h.ow.trans hw.symm}
theorem out1_ai {a:ae} {C:Nat} (h:AI a C) (hm:more a):AI (out1 a) (C+1):=by
 have h1:AI {a with log:=Bl.logOut a.log} C:=setlog_ai h (Bl.out_bi h.log hm.1 hm.2) rfl rfl
 have h2:=say_ai h1 a.tag (ct 0 ((a.log.first+a.log.out)%a.log.m) a.order.next false) (a.log.l.getD a.log.out.toNat [])
 unfold out1
 by_cases hr:run a>0
 ·simp only [hr,if_true];exact h2
 ·simp only [hr,if_false];exact timed_ai h2 ⟨by have:=h.t1;omega,h.t1.2⟩
theorem pumpL_ai {C:Nat}:∀(d:Nat) {a:ae},AI a C→AI (pumpL d a) (C+d)
 |0,_,h=>h
 |d+1,a,h=>by
  rw [pumpL]
  by_cases hm:more a
  ·rw [if_pos hm]
   have:=pumpL_ai (C:=C+1) d (out1_ai h hm)
   exact this.more (by omega)
  ·rw [if_neg hm];exact h.more (by omega)
theorem AI.run {a:ae} {C:Nat} (h:AI a C):cp.f a.timers 0=some (run a,decide (run a>0))∧0≤run a∧run a≤1048576:=by
 obtain ⟨w,v,e,hv⟩:=h.tim
 have er:Aq.run a=v:=by unfold Aq.run;rw [e];rfl
 rw [er,e,left_eq]
 exact ⟨rfl,hv⟩
theorem pump_l0 {C:Nat}:∀(d:Nat) (a:ae) (k:Nat),AI a C→C+d≤big→a.log.window≤a.log.out+d→d+30≤k→
  (bN.f a.log).bind (fun t=>bD.l0 k t.1 t.2.2.1 {a with log:=t.2.2.2} t.2.1)=some (pumpL d a):=by
 intro d
 induction d generalizing C with
 |zero=>
  intro a k h hC hd hk
  obtain ⟨k,rfl⟩:∃j,k=j+1:=⟨k-1,by omega⟩
  have ho:=h.log.out
  rw [Bl.next_no (.inr (by omega)),bsome,bD.l0,if_neg (by simp)];rfl
 |succ d ih=>
  intro a k h hC hd hk
  obtain ⟨k,rfl⟩:∃j,k=j+1:=⟨k-1,by omega⟩
  have ho:=h.log.out
  rw [pumpL]
  by_cases hm:more a
  ·have h1:AI {a with log:=Bl.logOut a.log} C:=setlog_ai h (Bl.out_bi h.log hm.1 hm.2) rfl rfl
   rw [if_pos hm,Bl.next_yes h.log hm.1 hm.2,bsome,bD.l0,if_pos rfl,message_eq h1 (by omega) (h.num _) (getD_small h.log.small _) false (by omega),bsome]
   have h2:=say_ai h1 a.tag (ct 0 ((a.log.first+a.log.out)%a.log.m) a.order.next false) (a.log.l.getD a.log.out.toNat [])
   have er:=h2.run.1
   have e0:run (say {a with log:=Bl.logOut a.log} a.tag (ct 0 ((a.log.first+a.log.out)%a.log.m) a.order.next false) (a.log.l.getD a.log.out.toNat []))=run a:=rfl
   rw [e0] at er
   refine Eq.trans (congrArg (fun o=>Option.bind o _) er) ?_
   rw [bsome]
   have h3:=out1_ai h hm
   have key:=ih (C:=C+1) (out1 a) k h3 (by omega) (by unfold out1;by_cases hr:run a>0<;>simp only [hr,if_true,if_false]<;>(show a.log.window≤a.log.out+1+(d:Int);omega)) (by omega)
   by_cases hr:run a>0
   ·rw [if_pos (decide_eq_true hr)]
    have e1:out1 a=say {a with log:=Bl.logOut a.log} a.tag (ct 0 ((a.log.first+a.log.out)%a.log.m) a.order.next false) (a.log.l.getD a.log.out.toNat []):=by unfold out1;simp only [hr,if_true]
    rw [e1] at key ⊢
    exact key
   ·rw [if_neg (by simpa using hr)]
    have e1:out1 a=timed (say {a with log:=Bl.logOut a.log} a.tag (ct 0 ((a.log.first+a.log.out)%a.log.m) a.order.next false) (a.log.l.getD a.log.out.toNat [])) a.t1:=by unfold out1;simp only [hr,if_false]
    rw [e1] at key ⊢
    have es:=astart_eq h2
    refine Eq.trans (congrArg (fun o=>Option.bind o _) es) ?_
    rw [bsome]
    exact key
  ·have hn:a.log.out=(a.log.l.length:Int)∨a.log.out=a.log.window:=by unfold more at hm;omega
   rw [if_neg hm,Bl.next_no hn,bsome,bD.l0,if_neg (by simp)]
def pump (a:ae):ae:=if a.state=2 then pumpL a.log.window.toNat a else a
theorem pump_eq {a:ae} {C:Nat} (h:AI a C) (hC:C+4096≤big) {k:Nat} (hk:5000≤k):bD.f k a=some (pump a):=by
 have hw:=h.log.win
 have ho:=h.log.out
 unfold bD.f pump
 by_cases hs:a.state=2
 ·rw [if_pos hs,if_pos hs]
  exact pump_l0 a.log.window.toNat a k h (by omega) (by omega) (by omega)
 ·rw [if_neg hs,if_neg hs]
theorem pump_ai {a:ae} {C:Nat} (h:AI a C):AI (pump a) (C+4096):=by
 have hw:=h.log.win
 unfold pump
 by_cases hs:a.state=2
 ·rw [if_pos hs];exact (pumpL_ai _ h).more (by omega)
 ·rw [if_neg hs];exact h.more (by omega)
def imsg (a:ae) (i:Int) (p:Bool):List Int:=hdr a.tag++(Co.enc (ct 0 ((a.log.first+i)%a.log.m) a.order.next p) a.m++a.log.l.getD i.toNat [])
def also (a:ae) (l:List (List Int)):ae:={a with out:=a.out++l}
theorem also_ai {a:ae} {C:Nat} (h:AI a C) (l:List (List Int)):AI (also a l) (C+l.length):=by
 have h':=h.more (D:=C+l.length) (by omega)
 exact {h' with out:=by show (a.out++l).length≤_;have:=h.out;rw [List.length_append];omega}
theorem repeat_eq {a:ae} {C:Nat} (h:AI a C) (hC:C≤big) {i:Int} (hi:0≤i∧i<a.log.out) (p:Bool) {k:Nat} (hk:20≤k):
  dJ.f k a ((a.log.first+i)%a.log.m) p=some (also a [imsg a i p]):=by
 unfold dJ.f
 rw [body_eq h.log (by have:=h.lm;have:=h.lw;omega) hi,bsome,message_eq h hC (h.num i) (getD_small h.log.small _) p hk,bsome];rfl
theorem resend_l0 {C:Nat} (a:ae):∀(d i:Nat) (l:List (List Int)) (k:Nat),AI (also a l) C→C+d≤big→(i:Int)+d=a.log.out→d+30≤k→
  bY.l0 k (Bl.outs a.log) (i:Int) (also a l)=(if a.log.out>0 then some (timed (also a (l++(List.range' i d).map fun (j:Nat)=>imsg a j false)) a.t1) else some (also a (l++(List.range' i d).map fun (j:Nat)=>imsg a j false))):=by
 intro d
 induction d generalizing C with
 |zero=>
  intro i l k h hC hi hk
  obtain ⟨k,rfl⟩:∃j,k=j+1:=⟨k-1,by omega⟩
  have hl:((Bl.outs a.log).length:Int)=a.log.out:=by rw [Bl.outs_len];have:=h.log.out;omega
  rw [bY.l0,if_neg (by omega),hl,List.range'_zero,List.map_nil,List.append_nil]
  by_cases h0:a.log.out>0
  ·rw [if_pos h0,if_pos h0,astart_eq h,bsome];rfl
  ·rw [if_neg h0,if_neg h0]
 |succ d ih=>
  intro i l k h hC hi hk
  obtain ⟨k,rfl⟩:∃j,k=j+1:=⟨k-1,by omega⟩
  have ho:0≤a.log.out∧a.log.out≤a.log.window∧a.log.out≤(a.log.l.length:Int):=h.log.out
  have hw:1≤a.log.window∧a.log.window≤4096:=h.log.win
  have hl:((Bl.outs a.log).length:Int)=a.log.out:=by rw [Bl.outs_len];omega
  have hg:(Bl.outs a.log).getD ((i:Int)).toNat 0=(a.log.first+(i:Int))%a.log.m:=by
   have:i<a.log.out.toNat:=by omega
   simp [Bl.outs,List.getD,this]
  rw [bY.l0,if_pos (by omega),if_pos (by omega),hg]
  have er:=repeat_eq h (by omega) (i:=(i:Int)) ⟨by omega,by show (i:Int)<a.log.out;omega⟩ false (k:=k) (by omega)
  refine Eq.trans (congrArg (fun o=>Option.bind o _) er) ?_
  rw [bsome,w64_in ⟨by omega,by omega⟩]
  have e1:also (also a l) [imsg (also a l) (i:Int) false]=also a (l++[imsg a (i:Int) false]):=by
   show ({a with out:=(a.out++l)++[imsg a (i:Int) false]}:ae)={a with out:=a.out++(l++[imsg a (i:Int) false])}
   rw [List.append_assoc]
  have h2:=also_ai h [imsg (also a l) (i:Int) false]
  rw [e1] at h2 ⊢
  have:=ih (C:=C+1) (i+1) (l++[imsg a (i:Int) false]) k h2 (by omega) (by omega) (by omega)
  rw [show ((i:Int)+1)=((i+1:Nat):Int) by omega,this,List.range'_succ,List.map_cons,List.append_assoc];rfl
def outAll (a:ae):List (List Int):=(List.range a.log.out.toNat).map fun (j:Nat)=>imsg a j false
def resend (a:ae):ae:=if a.log.out>0 then timed (also a (outAll a)) a.t1 else a
theorem resend_eq {a:ae} {C:Nat} (h:AI a C) (hC:C+5000≤big) {k:Nat} (hk:6000≤k):bY.f k a=some (resend a):=by
 have ho:=h.log.out
 have hw:=h.log.win
 unfold bY.f
 rw [Bl.out_eq h.log (by omega),bsome]
 have e0:also a []=a:=by show ({a with out:=a.out++[]}:ae)=a;rw [List.append_nil]
 have:=resend_l0 (C:=C) a a.log.out.toNat 0 [] k (by rw [e0];exact h) (by omega) (by omega) (by omega)
 rw [e0] at this
 refine this.trans ?_
 unfold resend outAll
 rw [List.range_eq_range',List.nil_append]
 by_cases h0:a.log.out>0
 ·rw [if_pos h0,if_pos h0]
 ·rw [if_neg h0,if_neg h0,show a.log.out.toNat=0 by omega]
  exact congrArg some e0
theorem resend_ai {a:ae} {C:Nat} (h:AI a C):AI (resend a) (C+4096):=by
 have ho:=h.log.out
 have hw:=h.log.win
 unfold resend
 by_cases h0:a.log.out>0
 ·rw [if_pos h0]
  have h1:=also_ai h (outAll a)
  exact (timed_ai h1 ⟨by have:=h.t1;omega,h.t1.2⟩).more (by simp [outAll];omega)
 ·rw [if_neg h0];exact h.more (by omega)
theorem ack0 {l:aC} (h:Bl.BI l):Bl.logAck l 0=l:=by
 have e:(l.first+0)%l.m=l.first:=by rw [Int.add_zero];exact Int.emod_eq_of_lt h.first.1 h.first.2
 unfold Bl.logAck
 rw [e,Int.sub_zero];rfl
def ackd (a:ae) (k:Int):ae:=
 let b:ae:={a with log:=Bl.logAck a.log k,acked:=a.acked+k,tries:=0,timers:=tm a.timers.now 0}
 if a.log.out-k>0 then timed b a.t1 else b
def ackOk (a:ae) (nr:Int):Prop:=0≤nr∧nr<a.log.m∧(nr-a.log.first)%a.log.m≤a.log.out
instance (a:ae) (nr:Int):Decidable (ackOk a nr):=inferInstanceAs (Decidable (_∧_∧_))
def acknow (a:ae) (nr:Int):Bool × ae:=
 if ackOk a nr then (true,if (nr-a.log.first)%a.log.m=0 then a else ackd a ((nr-a.log.first)%a.log.m)) else (false,a)
theorem ackd_base {a:ae} {C:Nat} (h:AI a C) {k:Int} (hk:0≤k∧k≤a.log.out):AI {a with log:=Bl.logAck a.log k,acked:=a.acked+k,tries:=0,timers:=tm a.timers.now 0} (C+4096):=by
 have ho:=h.log.out
 have hw:=h.log.win
 have ha:=h.acked
 have h1:=setlog_ai (h.more (D:=C+4096) (by omega)) (Bl.ack_bi h.log hk) rfl rfl
 exact {h1 with
  tries:=⟨Int.le_refl _,by show (0:Int)≤a.n2;have:=h.n2;omega⟩
  tim:=⟨_,_,rfl,by omega,by omega⟩
  acked:=⟨by show 0≤a.acked+k;omega,by show a.acked+k≤_;omega⟩}
theorem ackd_ai {a:ae} {C:Nat} (h:AI a C) {k:Int} (hk:0≤k∧k≤a.log.out):AI (ackd a k) (C+4096):=by
 have h1:=ackd_base h hk
 unfold ackd
 by_cases h0:a.log.out-k>0
 ·simp only [h0,if_true];exact timed_ai h1 ⟨by have:=h.t1;omega,h.t1.2⟩
 ·simp only [h0,if_false];exact h1
theorem acknow_ai {a:ae} {C:Nat} (h:AI a C) (nr:Int):AI (acknow a nr).2 (C+4096):=by
 have hm:=h.log.m
 unfold acknow
 by_cases h1:ackOk a nr
 ·rw [if_pos h1]
  by_cases h2:(nr-a.log.first)%a.log.m=0
  ·simp only [h2,if_true];exact h.more (by omega)
  ·simp only [h2,if_false];exact ackd_ai h ⟨Int.emod_nonneg _ (by omega),h1.2.2⟩
 ·rw [if_neg h1];exact h.more (by omega)
theorem acknow_eq {a:ae} {C:Nat} (h:AI a C) (hC:C+5000≤big) {nr:Int} (hn:-9223372036854775808≤nr∧nr≤9223372036854775807) {k:Nat} (hk:6000≤k):dx.f k a nr=some (acknow a nr):=by
 have hm:=h.log.m
 have ho:=h.log.out
 have hw:=h.log.win
 unfold dx.f acknow
 by_cases h1:ackOk a nr
 ·rw [if_pos h1,Bl.ack_yes h.log ⟨h1.1,h1.2.1⟩ h1.2.2,bsome]
  by_cases h2:(nr-a.log.first)%a.log.m=0
  ·rw [if_pos h2,if_pos h2,h2,ack0 h.log]
  ·rw [if_neg h2,if_neg h2]
   have hk0:0≤(nr-a.log.first)%a.log.m∧(nr-a.log.first)%a.log.m≤a.log.out:=⟨Int.emod_nonneg _ (by omega),h1.2.2⟩
   generalize (nr-a.log.first)%a.log.m=q at h2 hk0 ⊢
   have hb:=ackd_base h hk0
   obtain ⟨w,v,e,hv⟩:=h.tim
   have ha:=h.acked
   unfold big at hC
   have e1:=Bl.out_eq (Bl.ack_bi h.log hk0) (k:=k) (by omega)
   have e2:((Bl.outs (Bl.logAck a.log q)).length:Int)=a.log.out-q:=by rw [Bl.outs_len];show ((a.log.out-q).toNat:Int)=_;omega
   rw [e,stop_eq w hv.1,bsome,e1,bsome,e2]
   have e3:w64 (a.acked+q)=a.acked+q:=w64_in ⟨by omega,by omega⟩
   unfold ackd
   rw [e] at hb ⊢
   by_cases h3:a.log.out-q>0
   ·rw [if_pos h3];simp only [h3,if_true,e3]
    refine Eq.trans (congrArg (fun o=>Option.bind o _) (astart_eq hb)) ?_
    rw [bsome];rfl
   ·rw [if_neg h3];simp only [h3,if_false,e3];rfl
 ·rw [if_neg h1,Bl.ack_no h.log hn (by unfold ackOk at h1;omega),bsome,if_pos rfl]
def answer (x:ae) (p:Bool):ae:=
 if x.order.kept.length>0∧x.rejected=false then say {x with rejected:=true} x.tag (ct 2 0 x.order.next false) [] else say x x.tag (ct 1 0 x.order.next p) []
def put (a:ae) (n:Int) (b:List Int):ae:={a with order:=(Or.putm a.order n b).2,rejected:=if (Or.putm a.order n b).1>0 then false else a.rejected}
def come (a:ae) (c:aF) (b:List Int):ae:=answer (put a c.Ns b) c.Poll
theorem drain_m:∀(d:Nat) (x:aD),(Or.drain d x).2.m=x.m∧(Or.drain d x).2.window=x.window
 |0,_=>⟨rfl,rfl⟩
 |d+1,x=>by
  rw [Or.drain]
  split
  ·exact drain_m d (Or.ostep x)
  ·exact ⟨rfl,rfl⟩
theorem putm_m (x:aD) (n:Int) (b:List Int):(Or.putm x n b).2.m=x.m∧(Or.putm x n b).2.window=x.window:=by
 unfold Or.putm
 split
 ·exact ⟨rfl,rfl⟩
 ·split
  ·exact ⟨rfl,rfl⟩
  ·exact drain_m _ _
theorem put_ai {a:ae} {C:Nat} (h:AI a C) (n:Int) (b:List Int):AI (put a n b) (C+1):=by
 have h':=h.more (D:=C+1) (by omega)
 have:=putm_m a.order n b
 exact {h' with ord:=Or.put_oi h.ord n b,om:=this.1.trans h.om,ow:=this.2.trans h.ow}
theorem rej_ai {a:ae} {C:Nat} (h:AI a C) (r:Bool):AI {a with rejected:=r} C:={h with}
theorem answer_ai {a:ae} {C:Nat} (h:AI a C) (p:Bool):AI (answer a p) (C+1):=by
 unfold answer
 split
 ·exact say_ai (rej_ai h true) _ _ _
 ·exact say_ai h _ _ _
theorem come_ai {a:ae} {C:Nat} (h:AI a C) (c:aF) (b:List Int):AI (come a c b) (C+2):=answer_ai (put_ai h c.Ns b) c.Poll
theorem right_ans {a:ae} {C:Nat} (h:AI a C) {K:Int} (hK:K=1∨K=2) (p:Bool):Co.rightB (ct K 0 a.order.next p) a.m=true:=
 right_num h (.inr ⟨hK,rfl⟩) ⟨Int.le_refl _,by rcases h.m with e|e<;>omega⟩ h.next p
theorem answer_eq {x:ae} {C:Nat} (h:AI x C) (hC:C≤big) (c:aF) {k:Nat} (hk:20≤k):bw.j0 k c x=some (answer x c.Poll):=by
 unfold bw.j0 cR.f bw.j1 eD.f answer
 rw [bsome,bsome]
 by_cases g:(x.order.kept.length:Int)>0
 ·rw [if_pos (decide_eq_true g)]
  unfold bw.j3 bw.j2
  cases hr:x.rejected with
  |false=>
   rw [if_pos (by rfl),if_pos ⟨by omega,rfl⟩]
   have h1:=rej_ai h true
   have e:=tell_eq h1 hC (right_ans h1 (.inr rfl) false) hk
   refine Eq.trans (congrArg (fun o=>Option.bind o _) e) ?_
   rw [bsome]
  |true=>
   rw [if_neg (by simp),if_neg (by simp),tell_eq h hC (right_ans h (.inl rfl) c.Poll) hk,bsome]
 ·rw [if_neg (by simpa using g),if_neg (by omega)]
  unfold bw.j3 bw.j2
  rw [if_neg (by simp),tell_eq h hC (right_ans h (.inl rfl) c.Poll) hk,bsome]
theorem come_eq {a:ae} {C:Nat} (h:AI a C) (hC:C+5≤big) {c:aF} (hn:-9223372036854775808≤c.Ns∧c.Ns≤9223372036854775807) {b:List Int} (hb:b.length≤1000000) {k:Nat} (hk:C+30≤k):bw.f k a c b=some (come a c b):=by
 have hC1:C≤1000000000000:=by unfold big at hC;omega
 have e:=answer_eq (put_ai h c.Ns b) (by omega) c (k:=k) (by omega)
 unfold bw.f come
 rw [Or.put_eq h.ord hC1 hn hb (by omega),bsome,←e]
 unfold put
 by_cases g:(Or.putm a.order c.Ns b).1>0
 ·rw [if_pos g,if_pos g]
 ·rw [if_neg g,if_neg g]
def numbered (a:ae) (t:Int) (c:aF) (b:List Int):ae:=
 if a.state=0 then say a t (ct 6 0 0 false) []
 else if a.state=2∧t=a.tag then
  if c.Kind=0∧(b.length:Int)>a.size then aend (say a a.tag (ct 7 0 0 false) [])
  else pump ((fun x:ae=>if c.Kind=0 then come x c b else x) (if (acknow a c.Nr).1=true∧c.Kind=2 then resend (acknow a c.Nr).2 else (acknow a c.Nr).2))
 else a
theorem numbered_ai {a:ae} {C:Nat} (h:AI a C) (t:Int) (c:aF) (b:List Int):AI (numbered a t c b) (C+13000):=by
 unfold numbered
 split
 ·exact (say_ai h _ _ _).more (by omega)
 split
 ·split
  ·exact (aend_ai (say_ai h _ _ _)).more (by omega)
  ·have h1:=acknow_ai h c.Nr
   have h2:AI (if (acknow a c.Nr).1=true∧c.Kind=2 then resend (acknow a c.Nr).2 else (acknow a c.Nr).2) (C+8192):=by
    split
    ·exact (resend_ai h1).more (by omega)
    ·exact h1.more (by omega)
   generalize (if (acknow a c.Nr).1=true∧c.Kind=2 then resend (acknow a c.Nr).2 else (acknow a c.Nr).2)=x at h2 ⊢
   have h3:AI (if c.Kind=0 then come x c b else x) (C+8194):=by
    split
    ·exact (come_ai h2 c b).more (by omega)
    ·exact h2.more (by omega)
   exact (pump_ai h3).more (by omega)
 ·exact h.more (by omega)
theorem numbered_eq {a:ae} {C:Nat} (h:AI a C) (hC:C+20000≤big) {t:Int} (ht:0≤t∧t<65536) {c:aF} (hn:-9223372036854775808≤c.Ns∧c.Ns≤9223372036854775807) (hr:-9223372036854775808≤c.Nr∧c.Nr≤9223372036854775807) {b:List Int} (hb:b.length≤1000000) {k:Nat} (hk:C+20000≤k):
  aS.f k a t c b=some (numbered a t c b):=by
 unfold aS.f numbered
 by_cases s0:a.state=0
 ·rw [if_pos s0,if_pos s0,put_eq h (by omega) ht (right_bare h (by decide) false) (by simp) (by omega),bsome]
 rw [if_neg s0,if_neg s0]
 have none:aS.j0 k a c b true=some a:=by unfold aS.j0;rw [if_pos rfl]
 by_cases s2:a.state=2
 ·rw [if_pos s2]
  by_cases ht':t=a.tag
  ·rw [if_pos ⟨s2,ht'⟩]
   have e1:aS.j0 k a c b (!decide (t=a.tag))=aS.j1 k a c b (decide (c.Kind=0∧(b.length:Int)>a.size)):=by
    unfold aS.j0
    rw [if_neg (by simp [ht'])]
    by_cases k0:c.Kind=0
    ·rw [if_pos k0];simp [k0]
    ·rw [if_neg k0];simp [k0]
   rw [e1]
   unfold aS.j1
   by_cases g:c.Kind=0∧(b.length:Int)>a.size
   ·rw [if_pos (decide_eq_true g),if_pos g,tell_eq h (by omega) (right_bare h (by decide) false) (by omega),bsome,aend_eq (say_ai h _ _ _) (by omega),bsome]
   ·rw [if_neg (by simpa using g),if_neg g,acknow_eq h (by omega) hr (by omega),bsome]
    have h1:=acknow_ai h c.Nr
    generalize acknow a c.Nr=r at h1 ⊢
    obtain ⟨ok,x⟩:=r
    have fin:∀y:ae,AI y (C+8192)→aS.j2 k c b y=some (pump (if c.Kind=0 then come y c b else y)):=by
     intro y hy
     unfold aS.j2 aS.j3
     by_cases k0:c.Kind=0
     ·rw [if_pos k0,if_pos k0,come_eq hy (by omega) hn hb (by omega),bsome,pump_eq (come_ai hy c b) (by omega) (by omega),bsome]
     ·rw [if_neg k0,if_neg k0,pump_eq hy (by omega) (by omega),bsome]
    have e2:(if (ok,x).1=true then aS.j4 k c b (ok,x).2 (decide (c.Kind=2)) else aS.j4 k c b (ok,x).2 false)=aS.j4 k c b x (decide (ok=true∧c.Kind=2)):=by
     cases ok<;>simp
    rw [e2]
    unfold aS.j4
    by_cases g2:ok=true∧c.Kind=2
    ·rw [if_pos (decide_eq_true g2),if_pos g2,resend_eq h1 (by omega) (by omega),bsome,fin _ ((resend_ai h1).more (by omega))]
    ·rw [if_neg (by simpa using g2),if_neg g2,fin _ (h1.more (by omega))]
  ·rw [if_neg (fun e=>ht' e.2),decide_eq_false ht'];exact none
 ·rw [if_neg s2,if_neg (fun e=>s2 e.1)];exact none
def accept (a:ae) (t:Int) (p:Bool):ae:=tellInd (say {fresh a 2 with tag:=t} t (ct 4 0 0 p) []) (if a.state=2 then 3 else 1)
def asked (a:ae) (t:Int) (p:Bool):ae:=
 if a.state=3 then a else if a.state=2∧t=a.tag then say a a.tag (ct 4 0 0 p) []
 else if aheadB a.tag t=true∨a.state=1∧t=a.tag then accept a t p
 else if a.state=0 then say a a.tag (ct 6 0 0 false) [] else a
theorem settag_ai {a:ae} {C:Nat} (h:AI a C) {t:Int} (ht:0≤t∧t<65536):AI {a with tag:=t} C:={h with tag:=ht}
theorem accept_ai {a:ae} {C:Nat} (h:AI a C) {t:Int} (ht:0≤t∧t<65536) (p:Bool):AI (accept a t p) (C+6002):=ind_ai (say_ai (settag_ai (fresh_ai h (by decide)) ht) _ _ _) _
theorem asked_ai {a:ae} {C:Nat} (h:AI a C) {t:Int} (ht:0≤t∧t<65536) (p:Bool):AI (asked a t p) (C+13000):=by
 unfold asked
 split
 ·exact h.more (by omega)
 split
 ·exact (say_ai h _ _ _).more (by omega)
 split
 ·exact (accept_ai h ht p).more (by omega)
 split
 ·exact (say_ai h _ _ _).more (by omega)
 ·exact h.more (by omega)
theorem asked_eq {a:ae} {C:Nat} (h:AI a C) (hC:C+20000≤big) {t:Int} (ht:0≤t∧t<65536) (p:Bool) {k:Nat} (hk:20≤k):bm.f k a t p=some (asked a t p):=by
 unfold bm.f asked
 by_cases s3:a.state=3
 ·rw [if_pos s3,if_pos s3]
 rw [if_neg s3,if_neg s3]
 have e1:(if a.state=2 then bm.j1 k a t p (decide (t=a.tag)) else bm.j1 k a t p false)=bm.j1 k a t p (decide (a.state=2∧t=a.tag)):=by
  by_cases s2:a.state=2<;>simp [s2]
 rw [e1]
 unfold bm.j1
 by_cases g:a.state=2∧t=a.tag
 ·rw [if_pos (decide_eq_true g),if_pos g,tell_eq h (by omega) (right_bare h (by decide) p) hk,bsome]
 rw [if_neg (by simpa using g),if_neg g,ahead_eq h ht,bsome]
 have e2:(if aheadB a.tag t=true then bm.j2 k a t p true else if a.state=1 then bm.j2 k a t p (decide (t=a.tag)) else bm.j2 k a t p false)=bm.j2 k a t p (decide (aheadB a.tag t=true∨a.state=1∧t=a.tag)):=by
  by_cases q:aheadB a.tag t=true
  ·simp [q]
  ·by_cases s1:a.state=1<;>simp [q,s1]
 rw [e2]
 unfold bm.j2 bm.j0
 by_cases g2:aheadB a.tag t=true∨a.state=1∧t=a.tag
 ·rw [if_pos (decide_eq_true g2),if_pos g2,fresh_eq h (by omega),bsome]
  have h1:=settag_ai (fresh_ai h (st:=2) (by decide)) ht
  have e3:=tell_eq h1 (by omega) (right_bare h1 (K:=4) (by decide) p) hk
  refine Eq.trans (congrArg (fun o=>Option.bind o _) e3) ?_
  rw [bsome]
  have hi:=h.inds
  unfold big at hC
  have hl:((a.inds.length:Nat):Int)+1≤1099511627776:=by omega
  unfold accept
  by_cases s2:a.state=2
  ·rw [if_pos s2,if_pos s2];exact (if_pos hl).trans rfl
  ·rw [if_neg s2,if_neg s2];exact (if_pos hl).trans rfl
 ·rw [if_neg (by simpa using g2),if_neg g2]
  by_cases s0:a.state=0
  ·rw [if_pos s0,if_pos s0,tell_eq h (by omega) (right_bare h (by decide) false) hk,bsome]
  ·rw [if_neg s0,if_neg s0]
def accepted (a:ae):ae:=
 if a.state=1 then pump (tellInd {a with state:=2,tries:=0,timers:=tm a.timers.now 0} 1) else if a.state=3 then aend a else a
theorem up_ai {a:ae} {C:Nat} (h:AI a C):AI (tellInd {a with state:=2,tries:=0,timers:=tm a.timers.now 0} 1) (C+1):=
 ind_ai (a:={a with state:=2,tries:=0,timers:=tm a.timers.now 0}) {h with state:=⟨by show (0:Int)≤2;omega,by show (2:Int)≤3;omega⟩,tries:=⟨Int.le_refl _,by show (0:Int)≤a.n2;have:=h.n2;omega⟩,tim:=⟨_,_,rfl,by omega,by omega⟩} 1
theorem accepted_ai {a:ae} {C:Nat} (h:AI a C):AI (accepted a) (C+13000):=by
 unfold accepted
 split
 ·exact (pump_ai (up_ai h)).more (by omega)
 split
 ·exact (aend_ai h).more (by omega)
 ·exact h.more (by omega)
theorem accepted_eq {a:ae} {C:Nat} (h:AI a C) (hC:C+20000≤big) {k:Nat} (hk:5000≤k):dV.f k a=some (accepted a):=by
 unfold dV.f accepted
 by_cases s1:a.state=1
 ·obtain ⟨w,v,e,hv⟩:=h.tim
  have hi:=h.inds
  have hu:=up_ai h
  have ep:=pump_eq hu (by omega) hk
  unfold big at hC
  have hl:((a.inds.length:Nat):Int)+1≤1099511627776:=by omega
  rw [e] at ep ⊢
  rw [if_pos s1,if_pos s1,stop_eq w hv.1,bsome]
  refine (if_pos hl).trans ?_
  refine Eq.trans (congrArg (fun o=>Option.bind o _) ep) ?_
  rw [bsome]
 rw [if_neg s1,if_neg s1]
 by_cases s3:a.state=3
 ·rw [if_pos s3,if_pos s3,aend_eq h (by omega),bsome]
 ·rw [if_neg s3,if_neg s3]
def closed (a:ae) (t:Int) (p:Bool):ae:=
 if t=a.tag∧(a.state=2∨a.state=3) then aend (say a a.tag (ct 4 0 0 p) []) else say a t (ct 6 0 0 false) []
theorem closed_ai {a:ae} {C:Nat} (h:AI a C) (t:Int) (p:Bool):AI (closed a t p) (C+13000):=by
 unfold closed
 split
 ·exact (aend_ai (say_ai h _ _ _)).more (by omega)
 ·exact (say_ai h _ _ _).more (by omega)
theorem closed_eq {a:ae} {C:Nat} (h:AI a C) (hC:C+20000≤big) {t:Int} (ht:0≤t∧t<65536) (p:Bool) {k:Nat} (hk:20≤k):ce.f k a t p=some (closed a t p):=by
 unfold ce.f closed
 have e1:(if t=a.tag then (if a.state=2 then ce.j0 k a t p false else ce.j0 k a t p (!decide (a.state=3))) else ce.j0 k a t p true)=ce.j0 k a t p (!decide (t=a.tag∧(a.state=2∨a.state=3))):=by
  by_cases q:t=a.tag
  ·by_cases s2:a.state=2
   ·simp [q,s2]
   ·by_cases s3:a.state=3<;>simp [q,s2,s3]
  ·simp [q]
 rw [e1]
 unfold ce.j0
 by_cases g:t=a.tag∧(a.state=2∨a.state=3)
 ·rw [if_pos g,decide_eq_true g,if_neg (by simp),tell_eq h (by omega) (right_bare h (by decide) p) hk,bsome,aend_eq (say_ai h _ _ _) (by omega),bsome]
 ·rw [if_neg g,decide_eq_false g,if_pos (by rfl),put_eq h (by omega) ht (right_bare h (by decide) false) (by simp) hk,bsome]
def refused (a:ae) (t:Int):ae:=
 if t=a.tag∧a.state≠0 then aend a else if a.state=1∧aheadB a.tag t=true then aend {a with tag:=t} else a
theorem refused_ai {a:ae} {C:Nat} (h:AI a C) {t:Int} (ht:0≤t∧t<65536):AI (refused a t) (C+13000):=by
 unfold refused
 split
 ·exact (aend_ai h).more (by omega)
 split
 ·exact (aend_ai (settag_ai h ht)).more (by omega)
 ·exact h.more (by omega)
theorem refused_eq {a:ae} {C:Nat} (h:AI a C) (hC:C+20000≤big) {t:Int} (ht:0≤t∧t<65536):bz.f a t=some (refused a t):=by
 unfold bz.f refused
 have e1:(if t=a.tag then bz.j0 a t (!decide (a.state=0)) else bz.j0 a t false)=bz.j0 a t (decide (t=a.tag∧a.state≠0)):=by
  by_cases q:t=a.tag<;>simp [q]
 rw [e1]
 unfold bz.j0
 by_cases g:t=a.tag∧a.state≠0
 ·rw [if_pos g,if_pos (decide_eq_true g),aend_eq h (by omega),bsome]
 rw [if_neg g,if_neg (by simpa using g),ahead_eq h ht,bsome]
 have e2:(if a.state=1 then bz.j1 a t (aheadB a.tag t) else bz.j1 a t false)=bz.j1 a t (decide (a.state=1∧aheadB a.tag t=true)):=by
  by_cases q:a.state=1<;>simp [q]
 rw [e2]
 unfold bz.j1
 by_cases g2:a.state=1∧aheadB a.tag t=true
 ·rw [if_pos g2,if_pos (decide_eq_true g2),aend_eq (settag_ai h ht) (by omega),bsome]
 ·rw [if_neg g2,if_neg (by simpa using g2)]
theorem readS_ok {b:List Int} {m:Int} (hb:∀z∈b,0≤z∧z<256) (h:(Co.readS b m).2.2=0):
  0≤(Co.readS b m).2.1∧(Co.readS b m).2.1≤(b.length:Int)∧(0≤(Co.readS b m).1.Kind∧(Co.readS b m).1.Kind≤7)∧(0≤(Co.readS b m).1.Ns∧(Co.readS b m).1.Ns≤65536)∧(0≤(Co.readS b m).1.Nr∧(Co.readS b m).1.Nr≤65536):=by
 have g:∀i,0≤b.getD i 0∧b.getD i 0<256:=by
  intro i
  by_cases hi:i<b.length
  ·have e:b.getD i 0=b[i]:=by simp [List.getD,hi]
   rw [e];exact hb _ (List.getElem_mem hi)
  ·have e:b.getD i 0=0:=by simp [List.getD,show b.length≤i by omega]
   rw [e];omega
 have g0:=g 0
 have g1:=g 1
 have g2:=g 2
 have g3:=g 3
 have num:∀K:Int,0≤K∧K≤7→(Co.numS K b m).2.2=0→0≤(Co.numS K b m).2.1∧(Co.numS K b m).2.1≤(b.length:Int)∧(0≤(Co.numS K b m).1.Kind∧(Co.numS K b m).1.Kind≤7)∧(0≤(Co.numS K b m).1.Ns∧(Co.numS K b m).1.Ns≤65536)∧(0≤(Co.numS K b m).1.Nr∧(Co.numS K b m).1.Nr≤65536):=by
  intro K hK
  unfold Co.numS
  intro hz
  by_cases c1:m=128
  ·simp only [c1,if_true] at hz ⊢
   by_cases c2:(b.length:Int)<2
   ·simp only [c2,if_true] at hz;cases hz
   ·simp only [c2,if_false] at hz ⊢
    refine ⟨by omega,by omega,hK,?_,by omega⟩
    split<;>omega
  ·simp only [c1,if_false] at hz ⊢
   by_cases c2:(b.length:Int)<4
   ·simp only [c2,if_true] at hz;cases hz
   ·simp only [c2,if_false] at hz ⊢
    by_cases c3:K=0∨b.getD 1 0=0
    ·simp only [c3,if_true] at hz ⊢
     refine ⟨by omega,by omega,hK,?_,by omega⟩
     split<;>omega
    ·simp only [c3,if_false] at hz;cases hz
 have kd:∀x:Int,0≤Co.kindOf x∧Co.kindOf x≤7:=by intro x;unfold Co.kindOf;repeat' split;all_goals omega
 unfold Co.readS at h ⊢
 by_cases c1:¬(m=128∨m=32768)
 ·rw [if_pos c1] at h;cases h
 rw [if_neg c1] at h ⊢
 by_cases c2:b.length=0
 ·rw [if_pos c2] at h;cases h
 rw [if_neg c2] at h ⊢
 by_cases c3:Co.kindOf (Co.base4 (b.getD 0 0))≠0
 ·rw [if_pos c3]
  exact ⟨by show (0:Int)≤1;omega,by show (1:Int)≤_;omega,kd _,by show (0:Int)≤0∧(0:Int)≤_;omega,by show (0:Int)≤0∧(0:Int)≤_;omega⟩
 rw [if_neg c3] at h ⊢
 by_cases c4:b.getD 0 0=1
 ·rw [if_pos c4] at h ⊢;exact num 1 (by omega) h
 rw [if_neg c4] at h ⊢
 by_cases c5:b.getD 0 0=9
 ·rw [if_pos c5] at h ⊢;exact num 2 (by omega) h
 rw [if_neg c5] at h ⊢
 by_cases c6:b.getD 0 0%2=1
 ·rw [if_pos c6] at h;cases h
 rw [if_neg c6] at h ⊢;exact num 0 (by omega) h
def tagOf (b:List Int):Int:=256*b.getD 0 0+b.getD 1 0
def take (a:ae) (t:Int) (c:aF) (b:List Int):ae:=
 if c.Kind=3 then asked a t c.Poll else if c.Kind=4 then (if t=a.tag then accepted a else a) else if c.Kind=5 then closed a t c.Poll
 else if c.Kind=6 then refused a t else if c.Kind=7 then (if t=a.tag∧a.state=2 then aend a else a) else numbered a t c b
def input (a:ae) (b:List Int):ae:=
 if b.length<2 then a else if (Co.readS (b.drop 2) a.m).2.2=0 then take a (tagOf b) (Co.readS (b.drop 2) a.m).1 (b.drop (2+(Co.readS (b.drop 2) a.m).2.1.toNat)) else a
theorem take_ai {a:ae} {C:Nat} (h:AI a C) {t:Int} (ht:0≤t∧t<65536) (c:aF) (b:List Int):AI (take a t c b) (C+13000):=by
 unfold take
 repeat' split
 ·exact asked_ai h ht _
 ·exact accepted_ai h
 ·exact h.more (by omega)
 ·exact closed_ai h _ _
 ·exact refused_ai h ht
 ·exact (aend_ai h).more (by omega)
 ·exact h.more (by omega)
 ·exact numbered_ai h _ _ _
theorem byteAt {b:List Int} (hb:∀z∈b,0≤z∧z<256) (i:Nat):0≤b.getD i 0∧b.getD i 0<256:=by
 by_cases hi:i<b.length
 ·have e:b.getD i 0=b[i]:=by simp [List.getD,hi]
  rw [e];exact hb _ (List.getElem_mem hi)
 ·have e:b.getD i 0=0:=by simp [List.getD,show b.length≤i by omega]
  rw [e];omega
theorem tagOf_b {b:List Int} (hb:∀z∈b,0≤z∧z<256):0≤tagOf b∧tagOf b<65536:=by
 have:=byteAt hb 0;have:=byteAt hb 1;unfold tagOf;omega
theorem input_ai {a:ae} {C:Nat} (h:AI a C) {b:List Int} (hb:∀z∈b,0≤z∧z<256):AI (input a b) (C+13000):=by
 unfold input
 split
 ·exact h.more (by omega)
 split
 ·exact take_ai h (tagOf_b hb) _ _
 ·exact h.more (by omega)
theorem cut_drop {α:Type} (l:List α) {i:Int} (h0:0≤i):cut l i (l.length:Int)=l.drop i.toNat:=by
 simp [cut]
 exact List.take_of_length_le (by simp)
theorem input_eq {a:ae} {C:Nat} (h:AI a C) (hC:C+20000≤big) {b:List Int} (hb:∀z∈b,0≤z∧z<256) (hl:b.length≤1000000) {k:Nat} (hk:C+20000≤k):cB.f k a b=some (input a b):=by
 unfold cB.f input
 by_cases c1:b.length<2
 ·rw [if_pos (by omega),if_pos c1]
 have hd:∀z∈b.drop 2,0≤z∧z<256:=fun z hz=>hb z (List.mem_of_mem_drop hz)
 have ht:=tagOf_b hb
 have g0:=byteAt hb 0
 have g1:=byteAt hb 1
 have et:ior .i64 (w64 ((w64 (b.getD (0:Int).toNat 0))*2^(min (8:Int).toNat IntKind.i64.bits))) (w64 (b.getD (1:Int).toNat 0))=tagOf b:=by
  show ior .i64 (w64 ((w64 (b.getD 0 0))*256)) (w64 (b.getD 1 0))=_
  rw [w64_in (n:=b.getD 0 0) ⟨by omega,by omega⟩,w64_in (n:=b.getD 1 0) ⟨by omega,by omega⟩,w64_in ⟨by omega,by omega⟩,ior_hi' (by omega) (by omega) (by omega) (by omega)]
  unfold tagOf;omega
 have ek:∃j,k=j+6:=⟨k-6,by omega⟩
 have er:ck.f k (b.drop 2) a.m=some (Co.readS (b.drop 2) a.m):=by obtain ⟨j,rfl⟩:=ek;exact Co.read_eq a.m hd j
 rw [if_neg (by omega),if_neg c1,if_pos (by omega),if_pos (by omega),if_pos (by omega),cut_drop b (by decide)]
 try rw [et]
 refine Eq.trans (congrArg (fun o=>Option.bind o _) er) ?_
 rw [bsome]
 unfold cB.j0
 try rw [et]
 by_cases c2:(Co.readS (b.drop 2) a.m).2.2=0
 ·rw [if_pos c2,if_pos c2]
  obtain ⟨n0,n1,_,s1,s2⟩:=readS_ok hd c2
  generalize Co.readS (b.drop 2) a.m=r at n0 n1 s1 s2 c2 ⊢
  obtain ⟨c,n,e⟩:=r
  dsimp only at n0 n1 s1 s2 ⊢
  have hdl:((b.drop 2).length:Int)=b.length-2:=by rw [List.length_drop];omega
  have ew:w64 (2+n)=2+n:=w64_in ⟨by omega,by omega⟩
  unfold take
  by_cases k3:c.Kind=3
  ·rw [if_pos k3,if_pos k3,asked_eq h hC ht _ (by omega),bsome]
  rw [if_neg k3,if_neg k3]
  by_cases k4:c.Kind=4
  ·rw [if_pos k4,if_pos k4]
   by_cases q:tagOf b=a.tag
   ·rw [if_pos q,if_pos q,accepted_eq h hC (by omega),bsome]
   ·rw [if_neg q,if_neg q]
  rw [if_neg k4,if_neg k4]
  by_cases k5:c.Kind=5
  ·rw [if_pos k5,if_pos k5,closed_eq h hC ht _ (by omega),bsome]
  rw [if_neg k5,if_neg k5]
  by_cases k6:c.Kind=6
  ·rw [if_pos k6,if_pos k6,refused_eq h hC ht,bsome]
  rw [if_neg k6,if_neg k6]
  by_cases k7:c.Kind=7
  ·rw [if_pos k7,if_pos k7]
   unfold cB.j1
   by_cases q:tagOf b=a.tag
   ·rw [if_pos q]
    by_cases s2:a.state=2
    ·rw [if_pos (decide_eq_true s2),if_pos ⟨q,s2⟩,aend_eq h (by omega),bsome]
    ·rw [if_neg (by simpa using s2),if_neg (fun x=>s2 x.2)]
   ·rw [if_neg q,if_neg (by simp),if_neg (fun x=>q x.1)]
  rw [if_neg k7,if_neg k7,ew,if_pos (by omega),cut_drop b (by omega),show (2+n).toNat=2+n.toNat by omega]
  rw [numbered_eq h hC ht (by omega) (by omega) (by rw [List.length_drop];omega) (by omega),bsome]
 ·rw [if_neg c2,if_neg c2]
def connect (a:ae):Int × ae:=
 if a.state=0 then (0,timed (say {a with state:=1,tag:=(a.tag+1)%65536,tries:=0} ((a.tag+1)%65536) (ct 3 0 0 true) []) a.t1) else (8,a)
theorem tagNext_eq {t:Int} (ht:0≤t∧t<65536):dK.f t 65536=some ((t+1)%65536):=by
 unfold dK.f
 rw [round_eq (.inl ⟨by omega,by omega⟩) (by decide),bsome]
 dsimp only
 rw [Int.emod_eq_of_lt ht.1 ht.2,w64_in ⟨by omega,by omega⟩,round_eq (.inl ⟨by omega,by omega⟩) (by decide),bsome]
theorem conn_ai {a:ae} {C:Nat} (h:AI a C):AI {a with state:=1,tag:=(a.tag+1)%65536,tries:=0} C:=
 {h with state:=⟨by show (0:Int)≤1;omega,by show (1:Int)≤3;omega⟩,tag:=⟨by show 0≤(a.tag+1)%65536;omega,by show (a.tag+1)%65536<65536;omega⟩,tries:=⟨Int.le_refl _,by show (0:Int)≤a.n2;have:=h.n2;omega⟩}
theorem AI.t1' {a:ae} {C:Nat} (h:AI a C):0≤a.t1∧a.t1≤1048576:=⟨by have:=h.t1;omega,h.t1.2⟩
theorem connect_ai {a:ae} {C:Nat} (h:AI a C):AI (connect a).2 (C+1):=by
 unfold connect
 split
 ·exact timed_ai (say_ai (conn_ai h) _ _ _) h.t1'
 ·exact h.more (by omega)
theorem connect_eq {a:ae} {C:Nat} (h:AI a C) (hC:C+5≤big) {k:Nat} (hk:20≤k):dZ.f k a=some (connect a):=by
 unfold dZ.f connect
 by_cases s0:a.state=0
 ·have h1:=conn_ai h
  have e1:=tell_eq h1 (by omega) (right_bare h1 (K:=3) (by decide) true) hk
  have e2:=astart_eq (say_ai h1 ((a.tag+1)%65536) (ct 3 0 0 true) [])
  rw [if_pos s0,if_pos s0,tagNext_eq h.tag,bsome]
  refine Eq.trans (congrArg (fun o=>Option.bind o _) e1) ?_
  rw [bsome]
  refine Eq.trans (congrArg (fun o=>Option.bind o _) e2) ?_
  rw [bsome];rfl
 ·rw [if_neg s0,if_neg s0]
def send (a:ae) (b:List Int):Int × ae:=
 if (b.length:Int)>a.size then (5,a) else if a.state=2 then
  (if (a.log.l.length:Int)-a.log.out≥a.log.queue then (6,a) else (0,pump {a with log:=Bl.logAdd a.log b,sent:=a.sent+1}))
 else (7,a)
theorem sent_ai {a:ae} {C:Nat} (h:AI a C) {b:List Int} (hq:(a.log.l.length:Int)-a.log.out<a.log.queue) (hb:b.length≤1000000):AI {a with log:=Bl.logAdd a.log b,sent:=a.sent+1} (C+1):=by
 have hs:=h.sent
 have h1:=setlog_ai (h.more (D:=C+1) (by omega)) (Bl.add_bi h.log hq hb) rfl rfl
 exact {h1 with sent:=⟨by show 0≤a.sent+1;omega,by show a.sent+1≤_;omega⟩}
theorem send_ai {a:ae} {C:Nat} (h:AI a C) (b:List Int):AI (send a b).2 (C+5000):=by
 have hz:=h.size
 unfold send
 split
 ·exact h.more (by omega)
 rename_i hlen
 split
 ·split
  ·exact h.more (by omega)
  ·exact (pump_ai (sent_ai h (by omega) (by omega))).more (by omega)
 ·exact h.more (by omega)
theorem send_eq {a:ae} {C:Nat} (h:AI a C) (hC:C+5000≤big) (b:List Int) {k:Nat} (hk:5000≤k):eU.f k a b=some (send a b):=by
 have hz:=h.size
 have hs:=h.sent
 unfold eU.f send
 by_cases c1:(b.length:Int)>a.size
 ·rw [if_pos c1,if_pos c1]
 rw [if_neg c1,if_neg c1]
 by_cases s2:a.state=2
 ·rw [if_pos s2,if_pos s2]
  by_cases c2:(a.log.l.length:Int)-a.log.out≥a.log.queue
  ·rw [Bl.add_no h.log b c2,bsome,if_pos c2];rfl
  ·have h1:=sent_ai h (b:=b) (by omega) (by omega)
   have e1:=pump_eq h1 (by omega) hk
   have ew:w64 (a.sent+1)=a.sent+1:=w64_in ⟨by omega,by unfold big at hC;omega⟩
   rw [Bl.add_yes h.log (by omega) (by omega),bsome,if_neg c2,if_pos rfl,ew]
   refine Eq.trans (congrArg (fun o=>Option.bind o _) e1) ?_
   rw [bsome]
 ·rw [if_neg s2,if_neg s2]
def again (a:ae):ae:=if a.state=2 then resend a else a
theorem again_ai {a:ae} {C:Nat} (h:AI a C):AI (again a) (C+4096):=by
 unfold again
 split
 ·exact resend_ai h
 ·exact h.more (by omega)
theorem again_eq {a:ae} {C:Nat} (h:AI a C) (hC:C+5000≤big) {k:Nat} (hk:6000≤k):dO.f k a=some (again a):=by
 unfold dO.f again
 by_cases s2:a.state=2
 ·rw [if_pos s2,if_pos s2,resend_eq h hC hk,bsome]
 ·rw [if_neg s2,if_neg s2]
def remind (a:ae):ae:=
 if a.state=1 then say a a.tag (ct 3 0 0 true) [] else if a.state=3 then say a a.tag (ct 5 0 0 true) []
 else if a.state=2∧a.log.out>0 then also a [imsg a 0 true] else a
def late (a:ae):ae:=if a.tries+1>a.n2 then aend {a with tries:=a.n2} else remind (timed {a with tries:=a.tries+1} a.t1)
theorem tries_ai {a:ae} {C:Nat} (h:AI a C) {n:Int} (hn:0≤n∧n≤a.n2):AI {a with tries:=n} C:={h with tries:=hn}
theorem remind_ai {a:ae} {C:Nat} (h:AI a C):AI (remind a) (C+1):=by
 unfold remind
 repeat' split
 ·exact say_ai h _ _ _
 ·exact say_ai h _ _ _
 ·exact also_ai h [_]
 ·exact h.more (by omega)
theorem late_eq {a:ae} {C:Nat} (h:AI a C) (hC:C+10≤big) {k:Nat} (hk:6000≤k):eO.f k a=some (late a):=by
 have ht:=h.tries
 have hn:=h.n2
 have ew:w64 (a.tries+1)=a.tries+1:=w64_in ⟨by omega,by omega⟩
 unfold eO.f late
 rw [ew]
 by_cases c1:a.tries+1>a.n2
 ·rw [if_pos c1,if_pos c1]
  have e1:cw.f {a with tries:=a.tries+1}=some (aend {a with tries:=a.n2}):=by
   have e0:=aend_eq (tries_ai h (n:=a.n2) ⟨by omega,Int.le_refl _⟩) (by omega)
   exact e0
  refine Eq.trans (congrArg (fun o=>Option.bind o _) e1) ?_
  rw [bsome]
 ·rw [if_neg c1,if_neg c1]
  have h1:=tries_ai h (n:=a.tries+1) ⟨by omega,by omega⟩
  refine Eq.trans (congrArg (fun o=>Option.bind o _) (astart_eq h1)) ?_
  rw [bsome]
  have h2:=timed_ai h1 (n:=a.t1) h.t1'
  show _=some (remind (timed {a with tries:=a.tries+1} a.t1))
  generalize hx:timed {a with tries:=a.tries+1} a.t1=x at h2 ⊢
  unfold remind
  by_cases s1:x.state=1
  ·rw [if_pos s1,if_pos s1,tell_eq h2 (by omega) (right_bare h2 (by decide) true) (by omega),bsome]
  rw [if_neg s1,if_neg s1]
  by_cases s3:x.state=3
  ·rw [if_pos s3,if_pos s3,tell_eq h2 (by omega) (right_bare h2 (by decide) true) (by omega),bsome]
  rw [if_neg s3,if_neg s3]
  by_cases s2:x.state=2
  ·have ho:=h2.log.out
   have hl:((Bl.outs x.log).length:Int)=x.log.out:=by rw [Bl.outs_len];omega
   rw [if_pos s2,Bl.out_eq h2.log (by omega),bsome,hl]
   by_cases c2:x.log.out>0
   ·have hg:(Bl.outs x.log).getD (0:Int).toNat 0=(x.log.first+0)%x.log.m:=by
     have:0<x.log.out.toNat:=by omega
     simp [Bl.outs,List.getD,this]
    rw [if_pos c2,if_pos (by omega),if_pos ⟨s2,c2⟩,hg,repeat_eq h2 (by omega) ⟨Int.le_refl _,c2⟩ true (by omega),bsome]
   ·rw [if_neg c2,if_neg (fun q=>c2 q.2)]
  ·rw [if_neg s2,if_neg (fun q=>s2 q.1)]
theorem remind_same (x:ae):(remind x).timers=x.timers∧(remind x).tries=x.tries∧(remind x).n2=x.n2∧(remind x).state=x.state∧(remind x).log=x.log∧(remind x).tag=x.tag:=by
 unfold remind
 by_cases s1:x.state=1
 ·rw [if_pos s1];exact ⟨rfl,rfl,rfl,rfl,rfl,rfl⟩
 rw [if_neg s1]
 by_cases s3:x.state=3
 ·rw [if_pos s3];exact ⟨rfl,rfl,rfl,rfl,rfl,rfl⟩
 rw [if_neg s3]
 by_cases s2:x.state=2∧x.log.out>0
 ·rw [if_pos s2];exact ⟨rfl,rfl,rfl,rfl,rfl,rfl⟩
 ·rw [if_neg s2];exact ⟨rfl,rfl,rfl,rfl,rfl,rfl⟩
def passing (a:ae) (n:Int):ae:={a with timers:=tm (tk a.timers.now n) (if run a>n then run a-n else 0)}
def passL:Nat→Int→ae→ae
 |0,_,a=>a
 |d+1,n,a=>if run a>0∧run a≤n then passL d (n-run a) (late (passing a (run a))) else passing a n
def chances (a:ae):Nat:=if run a>0 then (a.n2-a.tries+1).toNat else 0
theorem passing_ai {a:ae} {C:Nat} (h:AI a C) {n:Int} (hn:0≤n):AI (passing a n) C:=by
 have hr:=h.run.2
 refine {h with tim:=⟨_,_,rfl,?_,?_⟩}<;>split<;>omega
theorem late_ai {a:ae} {C:Nat} (h:AI a C):AI (late a) (C+6001)∧(run (late a)=0∨AI (late a) (C+1)∧run (late a)=a.t1∧(late a).tries=a.tries+1∧a.tries+1≤a.n2∧(late a).n2=a.n2):=by
 have ht:=h.tries
 have hn:=h.n2
 unfold late
 by_cases c:a.tries+1>a.n2
 ·rw [if_pos c]
  exact ⟨aend_ai (tries_ai h (n:=a.n2) ⟨by omega,Int.le_refl _⟩),.inl rfl⟩
 ·rw [if_neg c]
  have h1:=remind_ai (timed_ai (tries_ai h (n:=a.tries+1) ⟨by omega,by omega⟩) (n:=a.t1) h.t1')
  obtain ⟨q1,q2,q3,_⟩:=remind_same (timed {a with tries:=a.tries+1} a.t1)
  have e:run (remind (timed {a with tries:=a.tries+1} a.t1))=a.t1:=by unfold run;rw [q1];rfl
  have e2:(remind (timed {a with tries:=a.tries+1} a.t1)).tries=a.tries+1:=q2
  have e3:(remind (timed {a with tries:=a.tries+1} a.t1)).n2=a.n2:=q3
  exact ⟨h1.more (by omega),.inr ⟨h1,e,e2,by omega,e3⟩⟩
theorem passing_run {a:ae} (n:Int):run (passing a n)=if run a>n then run a-n else 0:=rfl
theorem clockPass_eq {a:ae} {C:Nat} (h:AI a C) {n:Int} (hn:0≤n∧n≤1048576) {k:Nat} (hk:1100000≤k):∃o,bM.f k a.timers n=some (o,(passing a n).timers):=by
 obtain ⟨w,v,e,hv⟩:=h.tim
 obtain ⟨o,eo⟩:=pass_eq w hv hn hk
 refine ⟨o,?_⟩
 have er:run a=v:=by unfold run;rw [e];rfl
 unfold passing
 rw [er,e,eo];rfl
theorem pass_l0 {C:Nat}:∀(d:Nat) (t n:Int) (a:ae) (k:Nat),AI a C→C+7000+d≤big→0≤n∧n≤1048576→chances a<d→d+1200000≤k→
  bq.l0 k t n (run a) (decide (run a>0)) a=some (passL d n a)∧AI (passL d n a) (C+6001+d):=by
 intro d
 induction d generalizing C with
 |zero=>intro t n a k h hC hn hch hk;omega
 |succ d ih=>
  intro t n a k h hC hn hch hk
  obtain ⟨k,rfl⟩:∃j,k=j+1:=⟨k-1,by omega⟩
  have hr:=h.run.2
  have e0:bq.l0 (k+1) t n (run a) (decide (run a>0)) a=bq.j1 k t n (run a) a (bq.l0 k t) (decide (run a>0∧run a≤n)):=by
   rw [bq.l0]
   by_cases c:run a>0<;>simp [c]
  rw [e0,passL]
  unfold bq.j1
  by_cases c:run a>0∧run a≤n
  ·rw [if_pos (decide_eq_true c),if_pos c]
   obtain ⟨o,eo⟩:=clockPass_eq h (n:=run a) hr (k:=k) (by omega)
   rw [eo,bsome]
   have h1:=passing_ai h hr.1
   have e1:=late_eq h1 (by omega) (k:=k) (by omega)
   have hch0:chances a=(a.n2-a.tries+1).toNat:=by unfold chances;rw [if_pos c.1]
   have ht:=h.tries
   obtain ⟨h2,h3⟩:=late_ai h1
   have nxt:∀C',AI (late (passing a (run a))) C'→C'+7000+d≤big→chances (late (passing a (run a)))<d→C'+6001+d≤C+6001+(d+1)∨run (late (passing a (run a)))=0→
     ((some (late (passing a (run a)))).bind fun t24=>(cp.f t24.timers 0).bind fun t30=>bq.l0 k t (w64 (n-run a)) t30.1 t30.2 t24)=some (passL d (n-run a) (late (passing a (run a))))∧AI (passL d (n-run a) (late (passing a (run a)))) (C'+6001+d):=by
    intro C' hA hb hc _
    rw [bsome,hA.run.1,bsome,w64_in ⟨by omega,by omega⟩]
    exact ih t (n-run a) _ k hA hb ⟨by omega,by omega⟩ hc (by omega)
   have fin:∀C',AI (late (passing a (run a))) C'→C'+7000+d≤big→chances (late (passing a (run a)))<d→AI (passL d (n-run a) (late (passing a (run a)))) (C+6001+(d+1))→
     ((eO.f k {a with timers:=(passing a (run a)).timers}).bind fun t24=>(cp.f t24.timers 0).bind fun t30=>bq.l0 k t (w64 (n-run a)) t30.1 t30.2 t24)=some (passL d (n-run a) (late (passing a (run a))))∧AI (passL d (n-run a) (late (passing a (run a)))) (C+6001+(d+1)):=by
    intro C' hA hb hc hfin
    refine ⟨?_,hfin⟩
    refine Eq.trans (congrArg (fun o=>Option.bind o _) e1) ?_
    rw [bsome,hA.run.1,bsome,w64_in ⟨by omega,by omega⟩]
    exact (ih t (n-run a) _ k hA hb ⟨by omega,by omega⟩ hc (by omega)).1
   rcases h3 with h3|⟨h3,h4,h5,h6,h7⟩
   ·-- the end
    have hc:chances (late (passing a (run a)))<d:=by unfold chances;rw [h3,if_neg (by omega)];omega
    have hf:AI (passL d (n-run a) (late (passing a (run a)))) (C+6001+(d+1)):=by
     obtain ⟨d,rfl⟩:∃j,d=j+1:=⟨d-1,by omega⟩
     rw [passL,h3,if_neg (by omega)]
     exact (passing_ai h2 (by omega)).more (by omega)
    by_cases hbig:C+6001+7000+d≤big
    ·exact fin (C+6001) h2 hbig hc hf
    ·-- the bound is met with what is left
     refine ⟨?_,hf⟩
     refine Eq.trans (congrArg (fun o=>Option.bind o _) e1) ?_
     rw [bsome,h2.run.1,bsome,w64_in ⟨by omega,by omega⟩,h3]
     obtain ⟨d,rfl⟩:∃j,d=j+1:=⟨d-1,by omega⟩
     obtain ⟨k,rfl⟩:∃j,k=j+1:=⟨k-1,by omega⟩
     obtain ⟨o2,eo2⟩:=clockPass_eq h2 (n:=n-run a) ⟨by omega,by omega⟩ (k:=k) (by omega)
     rw [bq.l0,if_neg (by simp)]
     unfold bq.j1
     rw [if_neg (by simp),eo2,bsome,passL,h3,if_neg (by omega)];rfl
   ·have e5:(passing a (run a)).tries=a.tries:=rfl
    have e6:(passing a (run a)).n2=a.n2:=rfl
    have hc:chances (late (passing a (run a)))<d:=by
     unfold chances
     have:=h.t1
     have e7:(passing a (run a)).t1=a.t1:=rfl
     rw [h4,e7,if_pos (by omega),h5,h7,e5,e6];omega
    have:=ih t (n-run a) _ k h3 (by omega) ⟨by omega,by omega⟩ hc (by omega)
    exact fin (C+1) h3 (by omega) hc (this.2.more (by omega))
  ·rw [if_neg (by simpa using c),if_neg c]
   obtain ⟨o,eo⟩:=clockPass_eq h (n:=n) hn (k:=k) (by omega)
   rw [eo,bsome]
   exact ⟨rfl,(passing_ai h hn.1).more (by omega)⟩
def pass (a:ae) (n:Int):ae:=passL 120 (imax 0 (imin n 1048576)) a
theorem cutN (n:Int):0≤imax 0 (imin n 1048576)∧imax 0 (imin n 1048576)≤1048576:=by unfold imax imin;constructor<;>(repeat' split)<;>omega
theorem chances_le {a:ae} {C:Nat} (h:AI a C):chances a<120:=by
 have:=h.tries;have:=h.n2
 unfold chances;split<;>omega
theorem passes_eq {a:ae} {C:Nat} (h:AI a C) (hC:C+8000≤big) (n:Int) {k:Nat} (hk:1300000≤k):bq.f k a n=some (pass a n):=by
 unfold bq.f eP.f pass
 rw [bsome,h.run.1,bsome]
 exact (pass_l0 120 _ _ a k h (by omega) (cutN n) (chances_le h) (by omega)).1
theorem pass_ai {a:ae} {C:Nat} (h:AI a C) (hC:C+8000≤big) (n:Int):AI (pass a n) (C+7000):=by
 have:=(pass_l0 120 0 _ a 1300000 h (by omega) (cutN n) (chances_le h) (by omega)).2
 exact this.more (by omega)
def anew (m t1 n2 size win q:Int):ae:={m:=m,t1:=t1,n2:=n2,size:=size,state:=0,tag:=0,tries:=0,rejected:=false,log:={m:=m,window:=win,queue:=q,first:=0,out:=0,l:=[]},order:=Or.onew m win,timers:=tm 0 0,out:=[],inds:=[],sent:=0,acked:=0,lost:=0}
theorem anew_ai {m t1 n2 size win q:Int} (hm:m=128∨m=32768) (h1:1≤t1∧t1≤1048576) (h2:1≤n2∧n2≤100) (h3:1≤size∧size≤1000) (hw:1≤win∧win≤m/8) (hq:0≤q∧q≤1000):AI (anew m t1 n2 size win q) 0:=by
 have hm':8≤m∧m≤32768:=by rcases hm with e|e<;>omega
 exact {m:=hm,t1:=h1,n2:=h2,size:=h3,state:=⟨Int.le_refl _,by show (0:Int)≤3;omega⟩,tag:=⟨Int.le_refl _,by show (0:Int)<65536;omega⟩,tries:=⟨Int.le_refl _,by show (0:Int)≤n2;omega⟩,log:=Bl.new_bi hm' hw hq,lm:=rfl,lw:=hw.2,ord:=Or.onew_oi hm' hw,om:=rfl,ow:=rfl,tim:=⟨0,0,rfl,by omega,by omega⟩,out:=Nat.le_refl _,inds:=Nat.le_refl _,sent:=⟨Int.le_refl _,Int.le_refl _⟩,acked:=⟨Int.le_refl _,Int.le_refl _⟩,lost:=⟨Int.le_refl _,Int.le_refl _⟩}
theorem new_eq (c:aw):eB.f c=some (anew (if c.Modulus=32768 then 32768 else 128) (imax 1 (imin c.T1 1048576)) (imax 1 (imin c.N2 100)) (imax 1 (imin c.Size 1000))
  (imax 1 (imin c.Window ((if c.Modulus=32768 then 32768 else 128:Int)/8))) (imax 0 (imin c.Queue 1000))):=by
 have key:∀m:Int,m=128∨m=32768→eB.j0 c m=some (anew m (imax 1 (imin c.T1 1048576)) (imax 1 (imin c.N2 100)) (imax 1 (imin c.Size 1000)) (imax 1 (imin c.Window (m/8))) (imax 0 (imin c.Queue 1000))):=by
  intro m hm
  have e1:imax 8 (imin m 32768)=m:=by rcases hm with e|e<;>subst e<;>decide
  unfold eB.j0 eP.f fi.f eK.f fo.f
  rw [bsome,bsome,bsome,bsome,bsome,Or.onew_eq,e1,Bl.td8 (by rcases hm with e|e<;>omega),bsome,bsome];rfl
 unfold eB.f
 by_cases c1:c.Modulus=32768
 ·rw [if_pos c1,if_pos c1];exact key _ (.inr rfl)
 ·rw [if_neg c1,if_neg c1];exact key _ (.inl rfl)
end Aq
namespace Fr
theorem cut0 {α:Type} (l:List α) (n:Nat):cut l 0 (n:Int)=l.take n:=by simp [cut]
abbrev By (b:List Int):Prop:=∀z∈b,0≤z∧z<256
theorem u8b (z:Int):0≤IntKind.u8.wrap z∧IntKind.u8.wrap z<256:=by rw [u8w];omega
theorem turned_l0 (p:Int):∀(d i:Nat) (x:Int),i+d=8→∃r,∀k,d+1≤k→cV.l0 k p x (i:Int)=some r
 |0,i,x,h=>⟨x,fun k hk=>by
  obtain ⟨k,rfl⟩:∃j,k=j+1:=⟨k-1,by omega⟩
  rw [cV.l0,if_neg (by omega)]⟩
 |d+1,i,x,h=>by
  have ew:w64 ((i:Int)+1)=((i+1:Nat):Int):=by rw [w64_in ⟨by omega,by omega⟩];omega
  by_cases c:iand .u32 x 1=1
  ·obtain ⟨r,hr⟩:=turned_l0 p d (i+1) (ixor .u32 (x.fdiv (2^(min (1:Int).toNat IntKind.u32.bits))) p) (by omega)
   refine ⟨r,fun k hk=>?_⟩
   obtain ⟨k,rfl⟩:∃j,k=j+1:=⟨k-1,by omega⟩
   rw [cV.l0,if_pos (by omega),if_pos c,ew];exact hr k (by omega)
  ·obtain ⟨r,hr⟩:=turned_l0 p d (i+1) (x.fdiv (2^(min (1:Int).toNat IntKind.u32.bits))) (by omega)
   refine ⟨r,fun k hk=>?_⟩
   obtain ⟨k,rfl⟩:∃j,k=j+1:=⟨k-1,by omega⟩
   rw [cV.l0,if_pos (by omega),if_neg c,ew];exact hr k (by omega)
theorem turned_ok (x p:Int):∃r,∀k,9≤k→cV.f k x p=some r:=turned_l0 p 8 0 x rfl
theorem sum_l0 (b:List Int) (p:Int) (hb:b.length≤1000000):∀(d i:Nat) (x:Int),i+d=b.length→∃r,∀k,d+10≤k→dL.l0 k b p x (i:Int)=some r
 |0,i,x,h=>⟨_,fun k hk=>by
  obtain ⟨k,rfl⟩:∃j,k=j+1:=⟨k-1,by omega⟩
  rw [dL.l0,if_neg (by omega)]⟩
 |d+1,i,x,h=>by
  have ew:w64 ((i:Int)+1)=((i+1:Nat):Int):=by rw [w64_in ⟨by omega,by omega⟩];omega
  obtain ⟨t,ht⟩:=turned_ok (ixor .u32 x (IntKind.u32.wrap (b.getD ((i:Int)).toNat 0))) p
  obtain ⟨r,hr⟩:=sum_l0 b p hb d (i+1) t (by omega)
  refine ⟨r,fun k hk=>?_⟩
  obtain ⟨k,rfl⟩:∃j,k=j+1:=⟨k-1,by omega⟩
  rw [dL.l0,if_pos (by omega),if_pos (by omega),ht k (by omega),bsome,ew];exact hr k (by omega)
theorem sum_ok (b:List Int) (x p:Int) (hb:b.length≤1000000):∃r,∀k,b.length+10≤k→dL.f k b x p=some r:=sum_l0 b p hb b.length 0 x (by omega)
theorem tail_l1 {n:Nat} (hn:n≤4):∀(d i:Nat) (x:Int) (o:List Int),i+d=n→o.length=i→By o→∃r:List Int,(∀k,d+1≤k→cg.l1 k (n:Int) x (i:Int) o=some r)∧r.length=n∧By r
 |0,i,x,o,h,ho,hb=>⟨o,fun k hk=>by
  obtain ⟨k,rfl⟩:∃j,k=j+1:=⟨k-1,by omega⟩
  rw [cg.l1,if_neg (by omega)],by omega,hb⟩
 |d+1,i,x,o,h,ho,hb=>by
  have ew:w64 ((i:Int)+1)=((i+1:Nat):Int):=by rw [w64_in ⟨by omega,by omega⟩];omega
  obtain ⟨r,hr,h1,h2⟩:=tail_l1 hn d (i+1) (x.fdiv (2^(min (8:Int).toNat IntKind.u32.bits))) (o++[IntKind.u8.wrap x]) (by omega) (by simp;omega) (fun z hz=>by
   rcases List.mem_append.1 hz with q|q
   ·exact hb z q
   ·simp at q;subst q;exact u8b x)
  refine ⟨r,fun k hk=>?_,h1,h2⟩
  obtain ⟨k,rfl⟩:∃j,k=j+1:=⟨k-1,by omega⟩
  rw [cg.l1,if_pos (by omega),if_pos (by simp only [List.length_cons,List.length_nil];omega),ew];exact hr k (by omega)
def sz (w:Bool):Nat:=if w then 4 else 2
theorem tail_ok (b:List Int) (w:Bool) (hb:b.length≤1000000):∃t:List Int,(∀k,b.length+20≤k→cg.f k b w=some t)∧t.length=sz w∧By t:=by
 obtain ⟨s,hs⟩:=sum_ok b 65535 33800 hb
 obtain ⟨l,hl⟩:=sum_ok b 4294967295 3988292384 hb
 cases w with
 |true=>
  obtain ⟨t,ht,h1,h2⟩:=tail_l1 (n:=4) (by omega) 4 0 l [] rfl rfl (fun _ h=>nomatch h)
  refine ⟨t,fun k hk=>?_,h1,h2⟩
  unfold cg.f fj.f ft.f cg.j0
  rw [hs k (by omega),bsome,bsome,if_pos rfl,hl k (by omega),bsome,bsome]
  exact ht k (by omega)
 |false=>
  obtain ⟨t,ht,h1,h2⟩:=tail_l1 (n:=2) (by omega) 2 0 (IntKind.u32.wrap (IntKind.u16.wrap s)) [] rfl rfl (fun _ h=>nomatch h)
  refine ⟨t,fun k hk=>?_,h1,h2⟩
  unfold cg.f fj.f cg.j0
  rw [hs k (by omega),bsome,bsome,if_neg (by simp)]
  exact ht k (by omega)
theorem grow_ok {n:Int} (h:0≤n∧n≤30000000):cH.f n=some []:=by
 unfold cH.f
 have ew:w64 (0-0)=0:=by decide
 rw [if_neg (by omega)];try rw [ew]
 rw [w64_in ⟨by omega,by omega⟩]
 by_cases q:n-0>0
 ·rw [if_pos q,if_pos (by omega)]
 ·rw [if_neg q]
theorem concat2 {x y:List Int} (hx:x.length≤10000000) (hy:y.length≤10000000) {k:Nat} (hk:10≤k):aG.f k [x,y]=some (x++y):=by
 obtain ⟨k,rfl⟩:∃j,k=j+10:=⟨k-10,by omega⟩
 unfold aG.f
 have e1:w64 (0+1)=1:=by decide
 have e2:w64 (1+1)=2:=by decide
 have g0:([x,y].getD (0:Int).toNat [])=x:=rfl
 have g1:([x,y].getD (1:Int).toNat [])=y:=rfl
 have hl:(([x,y]:List (List Int)).length:Int)=2:=rfl
 rw [aG.l0,hl,if_pos (by decide),if_pos (by decide),g0,w64_in ⟨by omega,by omega⟩,if_neg (by omega),e1]
 rw [aG.l0,hl,if_pos (by decide),if_pos (by decide),g1,w64_in ⟨by omega,by omega⟩,if_neg (by omega),e2]
 rw [aG.l0,hl,if_neg (by decide),grow_ok ⟨by omega,by omega⟩,bsome]
 rw [aG.l1,hl,if_pos (by decide),if_pos (by decide),g0,if_pos (by simp;omega),e1]
 rw [aG.l1,hl,if_pos (by decide),if_pos (by decide),g1,if_pos (by simp;omega),e2]
 rw [aG.l1,hl,if_neg (by decide)]
 simp
theorem fput_ok (b:List Int) (w:Bool) (hb:b.length≤1000000) (hB:By b):∃t:List Int,(∀k,b.length+30≤k→fh.f k b w=some (b++t))∧t.length=sz w∧By t:=by
 obtain ⟨t,ht,h1,h2⟩:=tail_ok b w hb
 have:sz w≤4:=by unfold sz;split<;>omega
 refine ⟨t,fun k hk=>?_,h1,h2⟩
 unfold fh.f
 rw [ht k (by omega),bsome,concat2 (by omega) (by omega) (by omega),bsome]
theorem size_ok (w:Bool) {k:Nat} (hk:40≤k):eS.f k w=some (sz w:Int):=by
 obtain ⟨t,ht,h1,_⟩:=fput_ok [] w (by simp) (fun _ h=>nomatch h)
 unfold eS.f
 rw [ht k (by simp;omega),bsome,List.nil_append,h1]
theorem stuff_l0 (b:List Int) (hb:b.length≤1000000) (hB:By b):∀(d i:Nat) (o:List Int),i+d=b.length→o.length≤2*i→By o→∃r:List Int,(∀k,d+1≤k→bc.l0 k b (i:Int) o=some r)∧r.length≤2*b.length∧By r
 |0,i,o,h,ho,hO=>⟨o,fun k hk=>by
  obtain ⟨k,rfl⟩:∃j,k=j+1:=⟨k-1,by omega⟩
  rw [bc.l0,if_neg (by omega)],by omega,hO⟩
 |d+1,i,o,h,ho,hO=>by
  have ew:w64 ((i:Int)+1)=((i+1:Nat):Int):=by rw [w64_in ⟨by omega,by omega⟩];omega
  have hc:0≤b.getD ((i:Int)).toNat 0∧b.getD ((i:Int)).toNat 0<256:=by
   have hlt:i<b.length:=by omega
   have e:b.getD ((i:Int)).toNat 0=b[i]:=by simp [List.getD,hlt]
   rw [e];exact hB _ (List.getElem_mem hlt)
  have key:∀k,bc.l0 (k+1) b (i:Int) o=bc.j2 b (i:Int) o (bc.l0 k b) (decide (b.getD ((i:Int)).toNat 0=126∨b.getD ((i:Int)).toNat 0=125)):=by
   intro k
   rw [bc.l0,if_pos (by omega),if_pos (by omega)]
   by_cases c:b.getD ((i:Int)).toNat 0=126
   ·rw [if_pos c,decide_eq_true (Or.inl c)]
   ·rw [if_neg c,show decide (b.getD ((i:Int)).toNat 0=126∨b.getD ((i:Int)).toNat 0=125)=decide (b.getD ((i:Int)).toNat 0=125) from decide_eq_decide.2 ⟨fun h=>h.resolve_left c,.inr⟩]
  by_cases c:b.getD ((i:Int)).toNat 0=126∨b.getD ((i:Int)).toNat 0=125
  ·obtain ⟨r,hr,h1,h2⟩:=stuff_l0 b hb hB d (i+1) (o++[125]++[ixor .u8 (b.getD ((i:Int)).toNat 0) 32]) (by omega) (by simp;omega) (fun z hz=>by
    rcases List.mem_append.1 hz with q|q
    ·rcases List.mem_append.1 q with q|q
     ·exact hO z q
     ·simp at q;omega
    ·simp at q;subst q;unfold ixor;exact u8b _)
   refine ⟨r,fun k hk=>?_,h1,h2⟩
   obtain ⟨k,rfl⟩:∃j,k=j+1:=⟨k-1,by omega⟩
   rw [key,decide_eq_true c]
   unfold bc.j2 bc.j1
   rw [if_pos rfl,if_pos (by simp only [List.length_cons,List.length_nil];omega),if_pos (by simp only [List.length_cons,List.length_nil,List.length_append];omega),ew]
   exact hr k (by omega)
  ·obtain ⟨r,hr,h1,h2⟩:=stuff_l0 b hb hB d (i+1) (o++[b.getD ((i:Int)).toNat 0]) (by omega) (by simp;omega) (fun z hz=>by
    rcases List.mem_append.1 hz with q|q
    ·exact hO z q
    ·simp only [List.mem_cons,List.not_mem_nil,or_false] at q;subst q;exact hc)
   refine ⟨r,fun k hk=>?_,h1,h2⟩
   obtain ⟨k,rfl⟩:∃j,k=j+1:=⟨k-1,by omega⟩
   rw [key,decide_eq_false c]
   unfold bc.j2 bc.j1
   rw [if_neg (by simp),if_pos (by simp only [List.length_cons,List.length_nil];omega),ew]
   exact hr k (by omega)
theorem stuff_ok (b:List Int) (hb:b.length≤1000000) (hB:By b):∃r:List Int,(∀k,b.length+1≤k→bc.f k b=some r)∧r.length≤2*b.length∧By r:=stuff_l0 b hb hB b.length 0 [] (by omega) (by simp) (fun _ h=>nomatch h)
theorem By.app {a b:List Int} (ha:By a) (hb:By b):By (a++b):=fun z hz=>(List.mem_append.1 hz).elim (ha z) (hb z)
theorem put_ok (b:List Int) (w:Bool) (hb:b.length≤10000) (hB:By b):∃r:List Int,(∀k,b.length+50≤k→eJ.f k b w=some r)∧r.length≤2*b.length+10∧By r∧2≤r.length:=by
 obtain ⟨t,ht,h1,h2⟩:=fput_ok b w (by omega) hB
 have hz:sz w≤4:=by unfold sz;split<;>omega
 obtain ⟨s,hs,h3,h4⟩:=stuff_ok (b++t) (by rw [List.length_append];omega) (By.app hB h2)
 rw [List.length_append] at hs h3
 refine ⟨[126]++(s++[126]),fun k hk=>?_,?_,?_,?_⟩
 ·unfold eJ.f
  rw [ht k (by omega),bsome,hs k (by omega),bsome,Aq.concat_eq (by simp) (by omega) (by simp) (by omega),bsome]
 ·simp only [List.length_append,List.length_cons,List.length_nil];omega
 ·exact By.app (fun z hz=>by simp at hz;omega) (By.app h4 (fun z hz=>by simp at hz;omega))
 ·simp only [List.length_append,List.length_cons,List.length_nil];omega
theorem equal_l0 (a b:List Int) (ha:a.length≤1000000) (hab:a.length=b.length):∀(d i:Nat),i+d=a.length→∃r,∀k,d+1≤k→bf.l0 k a b (i:Int)=some r
 |0,i,h=>⟨_,fun k hk=>by
  obtain ⟨k,rfl⟩:∃j,k=j+1:=⟨k-1,by omega⟩
  rw [bf.l0,if_neg (by omega)]⟩
 |d+1,i,h=>by
  have ew:w64 ((i:Int)+1)=((i+1:Nat):Int):=by rw [w64_in ⟨by omega,by omega⟩];omega
  obtain ⟨r,hr⟩:=equal_l0 a b ha hab d (i+1) (by omega)
  by_cases c:a.getD ((i:Int)).toNat 0=b.getD ((i:Int)).toNat 0
  ·refine ⟨r,fun k hk=>?_⟩
   obtain ⟨k,rfl⟩:∃j,k=j+1:=⟨k-1,by omega⟩
   rw [bf.l0,if_pos (by omega),if_pos (by omega),if_pos (by omega),if_pos c,ew];exact hr k (by omega)
  ·refine ⟨false,fun k hk=>?_⟩
   obtain ⟨k,rfl⟩:∃j,k=j+1:=⟨k-1,by omega⟩
   rw [bf.l0,if_pos (by omega),if_pos (by omega),if_pos (by omega),if_neg c]
theorem equal_ok (a b:List Int) (ha:a.length≤1000000):∃r,∀k,a.length+1≤k→bf.f k a b=some r:=by
 unfold bf.f
 by_cases c:(a.length:Int)=(b.length:Int)
 ·obtain ⟨r,hr⟩:=equal_l0 a b ha (by omega) a.length 0 (by omega)
  exact ⟨r,fun k hk=>by rw [if_pos c];exact hr k hk⟩
 ·exact ⟨false,fun k _=>by rw [if_neg c]⟩
theorem check_ok (b:List Int) (w:Bool) (hb:b.length≤100000) (hB:By b) (hl:sz w<b.length):∃r:List Int × Int,(∀k,b.length+60≤k→eY.f k b w=some r)∧(r.2=0→r.1.length+sz w=b.length)∧By r.1∧r.1.length≤b.length:=by
 obtain ⟨t0,h0,l0,_⟩:=tail_ok [] w (by simp)
 have hc0:(cut b (0:Int) ((b.length:Int)-(sz w:Int)))=b.take (b.length-sz w):=by
  rw [show (b.length:Int)-(sz w:Int)=((b.length-sz w:Nat):Int) by omega]
  exact cut0 b _
 have hlen:(b.take (b.length-sz w)).length=b.length-sz w:=by rw [List.length_take];omega
 obtain ⟨t1,h1,l1,_⟩:=tail_ok (b.take (b.length-sz w)) w (by omega)
 obtain ⟨e,he⟩:=equal_ok t1 (cut b ((b.length:Int)-(sz w:Int)) (b.length:Int)) (by rw [l1];unfold sz;split<;>omega)
 have hB1:By (b.take (b.length-sz w)):=fun z hz=>hB z (List.mem_of_mem_take hz)
 have hs4:sz w≤4:=by unfold sz;split<;>omega
 refine ⟨if e=true then (b.take (b.length-sz w),0) else ([],2),fun k hk=>?_,?_,?_,?_⟩
 ·unfold eY.f
  rw [h0 k (by simp;omega),bsome,l0,w64_in ⟨by omega,by omega⟩,if_neg (by omega),if_pos ⟨by omega,by omega,by omega⟩,if_pos ⟨by omega,by omega,by omega⟩,hc0,h1 k (by omega),bsome,he k (by omega),bsome]
  cases e with
  |true=>rw [if_pos rfl,if_pos rfl,Bl.clone_eq (by omega),bsome]
  |false=>rw [if_neg (by simp),if_neg (by simp)]
 ·cases e with
  |true=>intro _;rw [if_pos rfl,hlen];omega
  |false=>intro q;rw [if_neg (by simp)] at q;cases q
 ·cases e with
  |true=>rw [if_pos rfl];exact hB1
  |false=>rw [if_neg (by simp)];exact fun _ h=>nomatch h
 ·cases e with
  |true=>rw [if_pos rfl,hlen];omega
  |false=>rw [if_neg (by simp)];simp
structure RI (r:az):Prop where
 most:1≤r.most∧r.most≤66000
 state:0≤r.state∧r.state≤4
 len:(r.b.length:Int)≤r.most+1
 by_:By r.b
 open_:r.state≠4→(r.b.length:Int)≤r.most
theorem new_ok (n:Int) (w:Bool) (hn:n≤10000):∃r:az,(∀k,40≤k→dP.f k n w=some r)∧RI r∧(1≤n→r.most≤n+4):=by
 have hm:1≤imax 1 (imin n 65536)∧imax 1 (imin n 65536)≤10000:=by unfold imax imin;constructor<;>(repeat' split)<;>omega
 have hs:sz w≤4:=by unfold sz;split<;>omega
 refine ⟨{wide:=w,most:=imax 1 (imin n 65536)+sz w,state:=0,b:=[]},fun k hk=>?_,⟨⟨by show 1≤imax 1 (imin n 65536)+(sz w:Int);omega,by show imax 1 (imin n 65536)+(sz w:Int)≤66000;omega⟩,(by show (0:Int)≤0∧(0:Int)≤4;decide),?_,fun _ h=>(nomatch h),fun _=>?_⟩,fun h1=>?_⟩
 ·unfold dP.f
  rw [size_ok w hk,bsome,w64_in ⟨by omega,by omega⟩]
 ·show (0:Int)≤imax 1 (imin n 65536)+sz w+1;omega
 ·show (0:Int)≤imax 1 (imin n 65536)+sz w;omega
 ·show imax 1 (imin n 65536)+(sz w:Int)≤n+4
  have:imax 1 (imin n 65536)=n:=by unfold imax imin;(repeat' split)<;>omega
  omega
theorem ends_ok {r:az} (h:RI r):∃t:Int × List Int,(∀k,70000≤k→cJ.f k r=some t)∧(t.1=1∨t.1=2∨t.1=4)∧By t.2∧(t.1=1→1≤t.2.length)∧t.2.length≤r.b.length:=by
 have hl:=h.len
 have hm:=h.most
 by_cases c:(r.b.length:Int)≤(sz r.wide:Int)
 ·refine ⟨(2,[]),fun k hk=>?_,.inr (.inl rfl),fun _ h=>(nomatch h),fun q=>(by cases q),Nat.zero_le _⟩
  unfold cJ.f
  rw [size_ok _ (by omega),bsome,if_pos c]
 ·obtain ⟨t,ht,h1,h2,h3⟩:=check_ok r.b r.wide (by omega) h.by_ (by omega)
  by_cases z:t.2=0
  ·refine ⟨(1,t.1),fun k hk=>?_,.inl rfl,h2,fun _=>by have:=h1 z;show 1≤t.1.length;omega,h3⟩
   unfold cJ.f
   rw [size_ok _ (by omega),bsome,if_neg c,ht k (by omega),bsome,if_pos z]
  ·refine ⟨(4,[]),fun k hk=>?_,.inr (.inr rfl),fun _ h=>(nomatch h),fun q=>(by cases q),Nat.zero_le _⟩
   unfold cJ.f
   rw [size_ok _ (by omega),bsome,if_neg c,ht k (by omega),bsome,if_neg z]
theorem take_ok {r:az} (h:RI r) (h4:r.state≠4) {c:Int} (hc:0≤c∧c<256):∃t,cM.f r c=some t∧RI t∧t.wide=r.wide∧t.most=r.most:=by
 have hl:=h.open_ h4
 have hm:=h.most
 have hb:By (r.b++[c]):=By.app h.by_ fun z hz=>by simp at hz;omega
 unfold cM.f
 rw [if_pos (by simp only [List.length_cons,List.length_nil];omega)]
 by_cases q:((r.b++[c]).length:Int)>r.most
 ·rw [if_pos q]
  refine ⟨_,rfl,⟨hm,(by show (0:Int)≤4∧(4:Int)≤4;decide),?_,hb,fun q=>absurd rfl q⟩,rfl,rfl⟩
  show ((r.b++[c]).length:Int)≤r.most+1
  rw [List.length_append];simp;omega
 ·rw [if_neg q]
  refine ⟨_,rfl,⟨hm,(by show (0:Int)≤2∧(2:Int)≤4;decide),?_,hb,fun _=>by show ((r.b++[c]).length:Int)≤r.most;omega⟩,rfl,rfl⟩
  show ((r.b++[c]).length:Int)≤r.most+1
  omega
theorem push_ok {r:az} (h:RI r) {c:Int} (hc:0≤c∧c<256):∃t:Int × List Int × az,(∀k,70000≤k→aQ.f k r c=some t)∧RI t.2.2∧t.2.2.wide=r.wide∧t.2.2.most=r.most∧(0≤t.1∧t.1≤5)∧By t.2.1∧(t.1=1→1≤t.2.1.length)∧(t.2.1.length:Int)≤r.most+1:=by
 have hl:=h.len
 have hm:=h.most
 have hfl:RI {r with state:=1,b:=[]}:=⟨hm,(by show (0:Int)≤1∧(1:Int)≤4;decide),(by show (0:Int)≤r.most+1;omega),(fun _ h=>nomatch h),(fun _=>by show (0:Int)≤r.most;omega)⟩
 have nil:By ([]:List Int):=fun _ h=>nomatch h
 have z1:((([]:List Int)).length:Int)≤r.most+1:=by simp;omega
 by_cases c1:c=126
 ·by_cases s2:r.state=2
  ·obtain ⟨t,ht,h1,h2,h3,h4⟩:=ends_ok h
   refine ⟨(t.1,t.2,{r with state:=1,b:=[]}),fun k hk=>?_,hfl,rfl,rfl,by rcases h1 with e|e|e<;>(show 0≤t.1∧t.1≤5;omega),h2,h3,by show (t.2.length:Int)≤_;omega⟩
   unfold aQ.f cr.f
   rw [if_pos c1,if_pos s2,ht k hk,bsome,bsome]
  by_cases s3:r.state=3
  ·refine ⟨(5,[],{r with state:=1,b:=[]}),fun k hk=>?_,hfl,rfl,rfl,(by show (0:Int)≤5∧(5:Int)≤5;decide),nil,fun q=>absurd q (by dsimp only;omega),z1⟩
   unfold aQ.f cr.f
   rw [if_pos c1,if_neg s2,if_pos s3,bsome]
  by_cases s4:r.state=4
  ·refine ⟨(3,[],{r with state:=1,b:=[]}),fun k hk=>?_,hfl,rfl,rfl,(by show (0:Int)≤3∧(3:Int)≤5;decide),nil,fun q=>absurd q (by dsimp only;omega),z1⟩
   unfold aQ.f cr.f
   rw [if_pos c1,if_neg s2,if_neg s3,if_pos s4,bsome]
  ·refine ⟨(0,[],{r with state:=1,b:=[]}),fun k hk=>?_,hfl,rfl,rfl,(by show (0:Int)≤0∧(0:Int)≤5;decide),nil,fun q=>absurd q (by dsimp only;omega),z1⟩
   unfold aQ.f cr.f
   rw [if_pos c1,if_neg s2,if_neg s3,if_neg s4,bsome]
 ·have key:∀k,aQ.f k r c=aQ.j0 r c (decide (r.state=0∨r.state=4)):=by
   intro k
   unfold aQ.f
   rw [if_neg c1]
   by_cases s0:r.state=0
   ·rw [if_pos s0];simp [s0]
   ·rw [if_neg s0];simp [s0]
  by_cases s:r.state=0∨r.state=4
  ·refine ⟨(0,[],r),fun k hk=>?_,h,rfl,rfl,(by show (0:Int)≤0∧(0:Int)≤5;decide),nil,fun q=>absurd q (by dsimp only;omega),z1⟩
   rw [key,decide_eq_true s]
   unfold aQ.j0
   rw [if_pos rfl]
  ·have s4:r.state≠4:=fun e=>s (.inr e)
   by_cases s3:r.state=3
   ·obtain ⟨t,ht,h1,h2,h3⟩:=take_ok h s4 (c:=ixor .u8 c 32) (by unfold ixor;exact u8b _)
    refine ⟨(0,[],t),fun k hk=>?_,h1,h2,h3,(by dsimp only;omega),nil,fun q=>absurd q (by dsimp only;omega),z1⟩
    rw [key,decide_eq_false s]
    unfold aQ.j0
    rw [if_neg (by simp),if_pos s3,ht,bsome]
   by_cases c2:c=125
   ·refine ⟨(0,[],{r with state:=3}),fun k hk=>?_,⟨hm,(by show (0:Int)≤3∧(3:Int)≤4;decide),hl,h.by_,fun _=>h.open_ s4⟩,rfl,rfl,(by show (0:Int)≤0∧(0:Int)≤5;decide),nil,fun q=>absurd q (by dsimp only;omega),z1⟩
    rw [key,decide_eq_false s]
    unfold aQ.j0
    rw [if_neg (by simp),if_neg s3,if_pos c2]
   ·obtain ⟨t,ht,h1,h2,h3⟩:=take_ok h s4 hc
    refine ⟨(0,[],t),fun k hk=>?_,h1,h2,h3,(by dsimp only;omega),nil,fun q=>absurd q (by dsimp only;omega),z1⟩
    rw [key,decide_eq_false s]
    unfold aQ.j0
    rw [if_neg (by simp),if_neg s3,if_neg c2,ht,bsome]
end Fr
namespace Bo
open Aq
open Fr (By)
structure BO (a:ae) (S:Int):Prop where
 out:∀b∈a.out,By b∧b.length≤1006
 log:∀b∈a.log.l,By b∧b.length≤1000
 cn:a.sent=a.acked+a.lost+(a.log.l.length:Int)
 sent:a.sent=S
 st:a.state≠2→a.log.l=[]
variable {a:ae} {C:Nat} {S:Int}
theorem nilB:By ([]:List Int):=fun _ h=>nomatch h
theorem hdr_b {t:Int} (ht:0≤t∧t<65536):By (hdr t):=by
 intro z hz;unfold hdr at hz;simp at hz;omega
theorem msg_b (hm:a.m=128∨a.m=32768) {t:Int} (ht:0≤t∧t<65536) {c:aF} (hc:Co.rightB c a.m=true) {b:List Int} (hb:By b∧b.length≤1000):By (hdr t++(Co.enc c a.m++b))∧(hdr t++(Co.enc c a.m++b)).length≤1006:=by
 refine ⟨Fr.By.app (hdr_b ht) (Fr.By.app (Co.enc_byte hc) hb.1),?_⟩
 have:=enc_len c a.m
 rw [List.length_append,List.length_append]
 show 2+_≤_
 omega
theorem say (h:AI a C) (B:BO a S) {t:Int} (ht:0≤t∧t<65536) {c:aF} (hc:Co.rightB c a.m=true) {b:List Int} (hb:By b∧b.length≤1000):BO (Aq.say a t c b) S:=
 {B with out:=fun z hz=>(List.mem_append.1 hz).elim (B.out z) fun h1=>List.mem_singleton.1 h1▸msg_b h.m ht hc hb}
theorem bare (h:AI a C) (B:BO a S) {t:Int} (ht:0≤t∧t<65536) {K:Int} (hK:3≤K∧K≤7) (p:Bool):BO (Aq.say a t (ct K 0 0 p) []) S:=say h B ht (right_bare h hK p) ⟨nilB,Nat.zero_le _⟩
theorem tmd (B:BO a S) (n:Int):BO (timed a n) S:={B with}
theorem ind (B:BO a S) (n:Int):BO (tellInd a n) S:={B with}
theorem frsh (h:AI a C) (B:BO a S) (st:Int):BO (fresh a st) S where
 out:=B.out
 log:=fun _ h=>nomatch h
 cn:=by show a.sent=a.acked+(a.lost+(a.log.l.length:Int))+((0:Nat):Int);have:=B.cn;omega
 sent:=B.sent
 st:=fun _=>rfl
theorem aend (h:AI a C) (B:BO a S):BO (Aq.aend a) S:=ind (frsh h B 0) 2
theorem getD_b (B:BO a S) (i:Nat):By (a.log.l.getD i [])∧(a.log.l.getD i []).length≤1000:=by
 by_cases h:i<a.log.l.length
 ·have e:a.log.l.getD i []=a.log.l[i]:=by simp [List.getD,h]
  rw [e];exact B.log _ (List.getElem_mem h)
 ·have e:a.log.l.getD i []=[]:=by simp [List.getD,Nat.not_lt.1 h]
  rw [e];exact ⟨nilB,Nat.zero_le _⟩
theorem out1 (h:AI a C) (B:BO a S) (hm:more a):BO (Aq.out1 a) S:=by
 have h1:AI {a with log:=Bl.logOut a.log} C:=setlog_ai h (Bl.out_bi h.log hm.1 hm.2) rfl rfl
 have B1:BO {a with log:=Bl.logOut a.log} S:=⟨B.out,B.log,B.cn,B.sent,B.st⟩
 have B2:=say h1 B1 h.tag (c:=ct 0 ((a.log.first+a.log.out)%a.log.m) a.order.next false) (right_num h1 (.inl rfl) (h.num _) h.next false) (getD_b B a.log.out.toNat)
 unfold Aq.out1
 show BO (if run a>0 then _ else _) S
 split
 ·exact B2
 ·exact tmd B2 _
theorem pumpL:∀(d:Nat) {a:ae} {C:Nat},AI a C→BO a S→BO (Aq.pumpL d a) S
 |0,_,_,_,B=>B
 |d+1,a,_,h,B=>by
  rw [Aq.pumpL]
  split
  ·rename_i hm;exact pumpL d (out1_ai h hm) (out1 h B hm)
  ·exact B
theorem pump (h:AI a C) (B:BO a S):BO (Aq.pump a) S:=by
 unfold Aq.pump
 split
 ·exact pumpL _ h B
 ·exact B
theorem imsg_b (h:AI a C) (B:BO a S) (i:Int) (p:Bool):By (imsg a i p)∧(imsg a i p).length≤1006:=
 msg_b h.m h.tag (right_num h (.inl rfl) (h.num _) h.next p) (getD_b B i.toNat)
theorem also (B:BO a S) {l:List (List Int)} (hl:∀b∈l,By b∧b.length≤1006):BO (Aq.also a l) S:=
 {B with out:=fun z hz=>(List.mem_append.1 hz).elim (B.out z) (hl z)}
theorem resend (h:AI a C) (B:BO a S):BO (Aq.resend a) S:=by
 unfold Aq.resend
 split
 ·refine tmd (also B fun b hb=>?_) _
  unfold outAll at hb
  obtain ⟨j,_,rfl⟩:=List.mem_map.1 hb
  exact imsg_b h B _ _
 ·exact B
theorem ackd (h:AI a C) (B:BO a S) {k:Int} (hk:0≤k∧k≤a.log.out):BO (Aq.ackd a k) S:=by
 have ho:=h.log.out
 have B1:BO {a with log:=Bl.logAck a.log k,acked:=a.acked+k,tries:=0,timers:=tm a.timers.now 0} S:=
  ⟨B.out,fun b hb=>B.log b (List.mem_of_mem_drop hb),by show a.sent=a.acked+k+a.lost+(((a.log.l.drop k.toNat).length:Nat):Int);have:=B.cn;rw [List.length_drop];omega,B.sent,fun s=>by show a.log.l.drop k.toNat=[];rw [B.st s];exact List.drop_nil⟩
 unfold Aq.ackd
 show BO (if a.log.out-k>0 then _ else _) S
 split
 ·exact tmd B1 _
 ·exact B1
theorem acknow (h:AI a C) (B:BO a S) (nr:Int):BO (Aq.acknow a nr).2 S:=by
 have hm:=h.log.m
 unfold Aq.acknow
 by_cases c:ackOk a nr
 ·rw [if_pos c]
  dsimp only
  split
  ·exact B
  ·exact ackd h B ⟨Int.emod_nonneg _ (by omega),c.2.2⟩
 ·rw [if_neg c];exact B
theorem answer (h:AI a C) (B:BO a S) (p:Bool):BO (Aq.answer a p) S:=by
 unfold Aq.answer
 split
 ·exact say (a:={a with rejected:=true}) (rej_ai h true) {B with} h.tag (right_ans (a:={a with rejected:=true}) (rej_ai h true) (.inr rfl) false) ⟨nilB,Nat.zero_le _⟩
 ·exact say h B h.tag (right_ans h (.inl rfl) p) ⟨nilB,Nat.zero_le _⟩
theorem come (h:AI a C) (B:BO a S) (c:aF) (b:List Int):BO (Aq.come a c b) S:=
 answer (put_ai h c.Ns b) {B with} c.Poll
theorem numbered (h:AI a C) (B:BO a S) {t:Int} (ht:0≤t∧t<65536) (c:aF) (b:List Int):BO (Aq.numbered a t c b) S:=by
 unfold Aq.numbered
 split
 ·exact bare h B ht (by decide) false
 split
 ·split
  ·exact aend (say_ai h _ _ _) (bare h B h.tag (by decide) false)
  ·have A1:=acknow_ai h c.Nr
   have B1:=acknow h B c.Nr
   have A2:AI (if (Aq.acknow a c.Nr).1=true∧c.Kind=2 then Aq.resend (Aq.acknow a c.Nr).2 else (Aq.acknow a c.Nr).2) (C+4096+4096):=by split;exact resend_ai A1;exact A1.more (by omega)
   have B2:BO (if (Aq.acknow a c.Nr).1=true∧c.Kind=2 then Aq.resend (Aq.acknow a c.Nr).2 else (Aq.acknow a c.Nr).2) S:=by split;exact resend A1 B1;exact B1
   dsimp only
   split
   ·exact pump (come_ai A2 c b) (come A2 B2 c b)
   ·exact pump A2 B2
 ·exact B
theorem settag (B:BO a S) (t:Int):BO {a with tag:=t} S:={B with}
theorem accept (h:AI a C) (B:BO a S) {t:Int} (ht:0≤t∧t<65536) (p:Bool):BO (Aq.accept a t p) S:=
 ind (bare (settag_ai (fresh_ai h (by decide)) ht) (settag (frsh h B 2) t) ht (by decide) p) _
theorem asked (h:AI a C) (B:BO a S) {t:Int} (ht:0≤t∧t<65536) (p:Bool):BO (Aq.asked a t p) S:=by
 unfold Aq.asked
 repeat' split
 ·exact B
 ·exact bare h B h.tag (by decide) p
 ·exact accept h B ht p
 ·exact bare h B h.tag (by decide) false
 ·exact B
theorem accepted (h:AI a C) (B:BO a S):BO (Aq.accepted a) S:=by
 unfold Aq.accepted
 split
 ·exact pump (up_ai h) {B with st:=fun q=>absurd rfl q}
 split
 ·exact aend h B
 ·exact B
theorem closed (h:AI a C) (B:BO a S) {t:Int} (ht:0≤t∧t<65536) (p:Bool):BO (Aq.closed a t p) S:=by
 unfold Aq.closed
 split
 ·exact aend (say_ai h _ _ _) (bare h B h.tag (by decide) p)
 ·exact bare h B ht (by decide) false
theorem refused (h:AI a C) (B:BO a S) {t:Int} (ht:0≤t∧t<65536):BO (Aq.refused a t) S:=by
 unfold Aq.refused
 split
 ·exact aend h B
 split
 ·exact aend (settag_ai h ht) (settag B t)
 ·exact B
theorem take (h:AI a C) (B:BO a S) {t:Int} (ht:0≤t∧t<65536) (c:aF) (b:List Int):BO (Aq.take a t c b) S:=by
 unfold Aq.take
 repeat' split
 ·exact asked h B ht _
 ·exact accepted h B
 ·exact B
 ·exact closed h B ht _
 ·exact refused h B ht
 ·exact aend h B
 ·exact B
 ·exact numbered h B ht c b
theorem input (h:AI a C) (B:BO a S) {b:List Int} (hb:∀z∈b,0≤z∧z<256):BO (Aq.input a b) S:=by
 unfold Aq.input
 repeat' split
 ·exact B
 ·exact take h B (tagOf_b hb) _ _
 ·exact B
theorem connect (h:AI a C) (B:BO a S):BO (Aq.connect a).2 S:=by
 unfold Aq.connect
 split
 ·rename_i s
  have hB:BO {a with state:=1,tag:=(a.tag+1)%65536,tries:=0} S:={B with st:=fun _=>B.st (by omega)}
  exact tmd (bare (conn_ai h) hB ⟨by omega,by omega⟩ (by decide) true) _
 ·exact B
theorem again (h:AI a C) (B:BO a S):BO (Aq.again a) S:=by
 unfold Aq.again
 split
 ·exact resend h B
 ·exact B
theorem remind (h:AI a C) (B:BO a S):BO (Aq.remind a) S:=by
 unfold Aq.remind
 repeat' split
 ·exact bare h B h.tag (by decide) true
 ·exact bare h B h.tag (by decide) true
 ·exact also B fun b hb=>by obtain rfl:=List.mem_singleton.1 hb;exact imsg_b h B _ _
 ·exact B
theorem late (h:AI a C) (B:BO a S):BO (Aq.late a) S:=by
 unfold Aq.late
 split
 ·exact aend (tries_ai h ⟨by have:=h.n2;omega,Int.le_refl _⟩) {B with}
 ·rename_i c
  have ht:=h.tries
  exact remind (timed_ai (tries_ai h (n:=a.tries+1) ⟨by omega,by omega⟩) h.t1') (tmd (a:={a with tries:=a.tries+1}) {B with} _)
theorem passing (B:BO a S) (n:Int):BO (Aq.passing a n) S:={B with}
theorem passL:∀(d:Nat) (n:Int) {a:ae} {C:Nat},0≤n→AI a C→BO a S→BO (Aq.passL d n a) S
 |0,_,_,_,_,_,B=>B
 |d+1,n,a,C,hn,h,B=>by
  rw [Aq.passL]
  split
  ·rename_i c
   have h1:=passing_ai h (n:=run a) (by omega)
   exact passL d _ (by omega) (late_ai h1).1 (late h1 (passing B _))
  ·exact passing B n
theorem pass (h:AI a C) (B:BO a S) (n:Int):BO (Aq.pass a n) S:=passL _ _ (cutN n).1 h B
theorem send (h:AI a C) (B:BO a S) {b:List Int} (hb:By b):BO (Aq.send a b).2 (S+if (Aq.send a b).1=0 then 1 else 0):=by
 have hs:=h.size
 have z:∀n:Int,n≠0→BO a (S+if n=0 then 1 else 0):=fun n hn=>by rw [if_neg hn,Int.add_zero];exact B
 unfold Aq.send
 split
 ·exact z 5 (by decide)
 split
 ·split
  ·exact z 6 (by decide)
  ·rename_i c1 c2 c3
   have A1:AI {a with log:=Bl.logAdd a.log b,sent:=a.sent+1} (C+1):=sent_ai h (by omega) (by omega)
   refine pump A1 ⟨B.out,fun z hz=>?_,?_,?_,fun q=>absurd c2 q⟩
   ·rcases List.mem_append.1 hz with h1|h1
    ·exact B.log z h1
    ·obtain rfl:=List.mem_singleton.1 h1;exact ⟨hb,by omega⟩
   ·show a.sent+1=a.acked+a.lost+(((a.log.l++[b]).length:Nat):Int)
    have:=B.cn;rw [List.length_append];simp;omega
   ·show a.sent+1=S+(if (0:Int)=0 then 1 else 0)
    rw [if_pos rfl,B.sent]
 ·exact z 7 (by decide)
theorem outp (B:BO a S):BO {a with out:=[]} S:=⟨fun _ h=>(nomatch h),B.log,B.cn,B.sent,B.st⟩
theorem outp_ai (h:AI a C):AI {a with out:=[]} C:={h with out:=Nat.zero_le _}
theorem new (m t1 n2 size win q:Int):BO (anew m t1 n2 size win q) 0 where
 out:=fun _ h=>nomatch h
 log:=fun _ h=>nomatch h
 cn:=rfl
 sent:=rfl
 st:=fun _=>rfl
end Bo
namespace Mo
open Fr (By)
def nf (g:Nat):Nat:=FloatKind.f64.nearest (g:Int)
theorem nf_tab:((List.range 17).all fun g=>decide (fop .add (nf g) (nf 1)=some (nf (g+1)))&&decide (fop .add (nf g) 0=some (nf g))&&decide (fop .sub (nf (g+1)) (nf 1)=some (nf g))&&decide (fop .sub (nf g) 0=some (nf g))&&decide (du.f (nf g)=some ((g:Int),true)))=true:=by kernel_rfl
theorem nf1:nf 1=4607182418800017408:=by kernel_rfl
theorem nf0:nf 0=0:=by kernel_rfl
theorem nf_all {g:Nat} (h:g≤16):fop .add (nf g) (nf 1)=some (nf (g+1))∧fop .add (nf g) 0=some (nf g)∧fop .sub (nf (g+1)) (nf 1)=some (nf g)∧fop .sub (nf g) 0=some (nf g)∧du.f (nf g)=some ((g:Int),true):=by
 have:=List.all_eq_true.1 nf_tab g (List.mem_range.2 (by omega))
 simp only [Bool.and_eq_true,decide_eq_true_eq] at this
 exact ⟨this.1.1.1.1,this.1.1.1.2,this.1.1.2,this.1.2,this.2⟩
def cnt (b:Bool) (l:List Bool):Nat:=l.count b
structure WI (w:aP):Prop where
 len:w.l.length=16
 at_:0≤w.at_∧w.at_<16
 kept:0≤w.kept∧w.kept≤16
 near:w.kept<16→w.at_=w.kept
 sum:w.sum=(nf (cnt true (w.l.take w.kept.toNat)),nf (cnt false (w.l.take w.kept.toNat)))
theorem one_eq (b:Bool):eX.f b=some (if b=true then (nf 1,0) else (0,nf 1)):=by
 unfold eX.f;rw [nf1];cases b<;>rfl
theorem add_eq {g b:Nat} (hg:g≤16) (hb:b≤16) (o:Bool):cxop .add (nf g,nf b) (if o=true then (nf 1,0) else (0,nf 1))=some (nf (g+if o=true then 1 else 0),nf (b+if o=true then 0 else 1)):=by
 unfold cxop
 cases o
 ·show (fop .add (nf g) 0).bind _=_
  rw [(nf_all hg).2.1,Option.bind_some]
  show (fop .add (nf b) (nf 1)).bind _=_
  rw [(nf_all hb).1];rfl
 ·show (fop .add (nf g) (nf 1)).bind _=_
  rw [(nf_all hg).1,Option.bind_some]
  show (fop .add (nf b) 0).bind _=_
  rw [(nf_all hb).2.1];rfl
theorem sub_eq {g b:Nat} (hg:g≤16) (hb:b≤16) (o:Bool):cxop .sub (nf (g+if o=true then 1 else 0),nf (b+if o=true then 0 else 1)) (if o=true then (nf 1,0) else (0,nf 1))=some (nf g,nf b):=by
 unfold cxop
 cases o
 ·show (fop .sub (nf g) 0).bind _=_
  rw [(nf_all hg).2.2.2.1,Option.bind_some]
  show (fop .sub (nf (b+1)) (nf 1)).bind _=_
  rw [(nf_all hb).2.2.1];rfl
 ·show (fop .sub (nf (g+1)) (nf 1)).bind _=_
  rw [(nf_all hg).2.2.1,Option.bind_some]
  show (fop .sub (nf b) 0).bind _=_
  rw [(nf_all hb).2.2.2.1];rfl
theorem cnt_le (b:Bool) (l:List Bool):cnt b l≤l.length:=List.count_le_length
theorem cnt_app (b:Bool) (l m:List Bool):cnt b (l++m)=cnt b l+cnt b m:=List.count_append
theorem cnt_one (o:Bool):cnt true [o]=(if o=true then 1 else 0)∧cnt false [o]=(if o=true then 0 else 1):=by cases o<;>decide
theorem split_at {l:List Bool} {i:Nat} (h:i<l.length):l=l.take i++([l.getD i false]++l.drop (i+1)):=by
 have e:l.getD i false=l[i]:=by simp [List.getD,h]
 rw [e]
 simp
theorem set_at {l:List Bool} {i:Nat} (h:i<l.length) (o:Bool):l.set i o=l.take i++([o]++l.drop (i+1)):=by
 rw [List.set_eq_take_append_cons_drop,if_pos h];rfl
theorem note_ok {w:aP} (h:WI w) (o:Bool):∃r,bE.f w o=some r∧WI r:=by
 have h0:=h.at_
 have hk:=h.kept
 have hl:=h.len
 have ti:w.at_.toNat<w.l.length:=by omega
 have key:∀(x:aP) (g b:Nat),x.l=w.l→x.at_=w.at_→0≤x.kept∧x.kept≤16→(x.kept<16→w.at_+1=x.kept)→g≤16→b≤16→x.sum=(nf g,nf b)→
   cnt true ((w.l.set w.at_.toNat o).take x.kept.toNat)=g+(if o=true then 1 else 0)→cnt false ((w.l.set w.at_.toNat o).take x.kept.toNat)=b+(if o=true then 0 else 1)→∃r,bE.j0 o x=some r∧WI r:=by
  intro x g b e1 e2 e3 e4 hg hb e5 e6 e7
  unfold bE.j0
  have hs:((w.l.set w.at_.toNat o).length:Int)=16:=by rw [List.length_set];omega
  rw [e1,e2,if_pos ⟨h0.1,by omega⟩,one_eq,Option.bind_some,e5,add_eq hg hb,Option.bind_some,hs,if_pos (by decide),w64_in ⟨by omega,by omega⟩,Int.tmod_eq_emod_of_nonneg (by omega)]
  refine ⟨_,rfl,⟨by show (w.l.set w.at_.toNat o).length=16;omega,by show 0≤(w.at_+1)%16∧(w.at_+1)%16<16;omega,e3,fun q=>by show (w.at_+1)%16=x.kept;have:=e4 q;have q:x.kept<16:=q;omega,?_⟩⟩
  show (_,_)=(_,_)
  dsimp only
  rw [e6,e7]
 unfold bE.f
 by_cases c:w.kept=(w.l.length:Int)
 ·rw [if_pos c,if_pos ⟨h0.1,by omega⟩,one_eq,Option.bind_some]
  have e16:w.kept=16:=by omega
  have hsum:=h.sum
  have tk:w.l.take w.kept.toNat=w.l:=List.take_of_length_le (by omega)
  rw [tk] at hsum
  have s0:=split_at ti
  have sc:∀b,cnt b w.l=cnt b (w.l.take w.at_.toNat)+(cnt b [w.l.getD w.at_.toNat false]+cnt b (w.l.drop (w.at_.toNat+1))):=fun b=>(congrArg (cnt b) s0).trans (by rw [cnt_app,cnt_app])
  have l1:=cnt_le true (w.l.take w.at_.toNat)
  have l2:=cnt_le true (w.l.drop (w.at_.toNat+1))
  have l3:=cnt_le false (w.l.take w.at_.toNat)
  have l4:=cnt_le false (w.l.drop (w.at_.toNat+1))
  rw [List.length_take] at l1 l3
  rw [List.length_drop] at l2 l4
  have n1:=cnt_one (w.l.getD w.at_.toNat false)
  have hsub:=sub_eq (g:=cnt true (w.l.take w.at_.toNat)+cnt true (w.l.drop (w.at_.toNat+1))) (b:=cnt false (w.l.take w.at_.toNat)+cnt false (w.l.drop (w.at_.toNat+1))) (by omega) (by omega) (w.l.getD w.at_.toNat false)
  have e1:w.sum=(nf (cnt true (w.l.take w.at_.toNat)+cnt true (w.l.drop (w.at_.toNat+1))+if w.l.getD w.at_.toNat false=true then 1 else 0),nf (cnt false (w.l.take w.at_.toNat)+cnt false (w.l.drop (w.at_.toNat+1))+if w.l.getD w.at_.toNat false=true then 0 else 1)):=by
   rw [hsum,sc true,sc false,n1.1,n1.2]
   congr 2<;>omega
  rw [e1,hsub,Option.bind_some]
  have m1:=cnt_one o
  have tk2:(w.l.set w.at_.toNat o).take w.kept.toNat=w.l.set w.at_.toNat o:=List.take_of_length_le (by rw [List.length_set];omega)
  refine key {w with sum:=_} _ _ rfl rfl hk (fun q=>by have q:w.kept<16:=q;omega) (by omega) (by omega) rfl ?_ ?_
  ·show cnt true ((w.l.set w.at_.toNat o).take w.kept.toNat)=_
   rw [tk2,set_at ti,cnt_app,cnt_app,m1.1];omega
  ·show cnt false ((w.l.set w.at_.toNat o).take w.kept.toNat)=_
   rw [tk2,set_at ti,cnt_app,cnt_app,m1.2];omega
 ·have e1:=h.near (by omega)
  rw [if_neg c,w64_in ⟨by omega,by omega⟩]
  have tk2:(w.l.set w.at_.toNat o).take (w.kept+1).toNat=w.l.take w.kept.toNat++[o]:=by
   rw [set_at ti,e1,show (w.kept+1).toNat=(w.l.take w.kept.toNat).length+1 by rw [List.length_take];omega,List.take_length_add_append]
   rfl
  have m1:=cnt_one o
  have l1:=cnt_le true (w.l.take w.kept.toNat)
  have l3:=cnt_le false (w.l.take w.kept.toNat)
  rw [List.length_take] at l1 l3
  refine key {w with kept:=w.kept+1} (cnt true (w.l.take w.kept.toNat)) (cnt false (w.l.take w.kept.toNat)) rfl rfl (by show 0≤w.kept+1∧w.kept+1≤16;omega) (fun _=>by show w.at_+1=w.kept+1;omega) (by omega) (by omega) h.sum ?_ ?_
  ·show cnt true ((w.l.set w.at_.toNat o).take (w.kept+1).toNat)=_
   rw [tk2,cnt_app,m1.1]
  ·show cnt false ((w.l.set w.at_.toNat o).take (w.kept+1).toNat)=_
   rw [tk2,cnt_app,m1.2]
theorem parts_ok {w:aP} (h:WI w):dA.f w.sum=some ((cnt true (w.l.take w.kept.toNat):Int),(cnt false (w.l.take w.kept.toNat):Int),true):=by
 have hl:=h.len
 have l1:=cnt_le true (w.l.take w.kept.toNat)
 have l3:=cnt_le false (w.l.take w.kept.toNat)
 rw [List.length_take] at l1 l3
 unfold dA.f dA.j0
 rw [h.sum]
 dsimp only
 rw [(nf_all (by omega)).2.2.2.2,Option.bind_some,(nf_all (by omega)).2.2.2.2,Option.bind_some]
 rfl
theorem clear_wi {w:aP} (h:WI w):WI {l:=w.l,at_:=0,kept:=0,sum:=(0,0)}:=
 ⟨h.len,by show (0:Int)≤0∧(0:Int)<16;decide,by show (0:Int)≤0∧(0:Int)≤16;decide,fun _=>rfl,by show (0,0)=(nf (cnt true (w.l.take 0)),nf (cnt false (w.l.take 0)));rw [List.take_zero];show (0,0)=(nf 0,nf 0);rw [nf0]⟩
structure MI (m:ap):Prop where
 bad:1≤m.bad∧m.bad≤16
 good:1≤m.good∧m.good≤16
 silent:1≤m.silent∧m.silent≤1073741824
 w:WI m.w
 row:0≤m.row∧m.row≤16
 quiet:0≤m.silence∧m.silence≤1073741824
 state:0≤m.state∧m.state≤2
theorem mnew_ok (a b c:Int):∃r,dD.f a b c=some r∧MI r:=by
 unfold dD.f df.f
 rw [bsome,bsome,bsome]
 have ht:fm.f 16=some {l:=List.replicate 16 false,at_:=0,kept:=0,sum:=(0,0)}:=by kernel_rfl
 rw [ht,bsome]
 have z:WI {l:=List.replicate 16 false,at_:=0,kept:=0,sum:=(0,0)}:=⟨by decide,by decide,by decide,fun _=>rfl,by kernel_rfl⟩
 refine ⟨_,rfl,⟨?_,?_,?_,z,?_,?_,?_⟩⟩<;>dsimp only
 iterate 3 (unfold imax imin;constructor<;>(repeat' split)<;>omega)
 all_goals omega
theorem mnote_ok {m:ap} (h:MI m) (o:Bool):∃r,aE.f m o=some r∧MI r.2:=by
 obtain ⟨w,hw,hi⟩:=note_ok h.w o
 have hr:=h.row
 have hb:=h.bad
 have key:∀x:ap,MI x→∃r,aE.j0 x=some r∧MI r.2:=by
  intro x hx
  have hxb:=hx.bad
  have fin2:∀b,∃r,aE.j2 x b=some r∧MI r.2:=by
   intro b;unfold aE.j2;split
   ·exact ⟨_,rfl,{hx with state:=by dsimp only;omega}⟩
   ·exact ⟨_,rfl,hx⟩
  have fin1:∀t b,∃r,aE.j1 x t b=some r∧MI r.2:=by
   intro t b;unfold aE.j1 dG.f
   split
   ·rw [bsome];exact ⟨_,rfl,{hx with state:=by dsimp only;omega,w:=clear_wi hx.w}⟩
   split
   ·exact ⟨_,rfl,{hx with state:=by dsimp only;omega}⟩
   split
   ·exact fin2 _
   ·exact fin2 _
  unfold aE.j0 dX.f
  rw [bsome,parts_ok hx.w,bsome]
  split
  ·exact fin1 _ _
  ·exact fin1 _ _
 unfold aE.f
 rw [hw,bsome,w64_in ⟨by omega,by omega⟩]
 split
 ·exact key _ {h with w:=hi,row:=(by show 0≤imin (m.row+1) 16∧imin (m.row+1) 16≤16;unfold imin;constructor<;>split<;>omega),quiet:=by dsimp only;omega}
 ·exact key _ {h with w:=hi,row:=by dsimp only;omega,quiet:=by dsimp only;omega}
theorem mpass_ok {m:ap} (h:MI m):∃r,bp.f m 1=some r∧MI r.2:=by
 have hq:=h.quiet
 unfold bp.f df.f
 rw [bsome,show imax 0 (imin 1 1073741824)=1 by decide,w64_in ⟨by omega,by omega⟩]
 have e:0≤imin (m.silence+1) 1073741824∧imin (m.silence+1) 1073741824≤1073741824:=by unfold imin;constructor<;>split<;>omega
 split
 ·exact ⟨_,rfl,{h with row:=by dsimp only;omega,quiet:=e,state:=by dsimp only;omega}⟩
 ·exact ⟨_,rfl,{h with quiet:=e}⟩
structure TI (t:aK):Prop where
 len:1≤t.came.length∧t.came.length≤4096
 at_:0≤t.at_∧t.at_<(t.came.length:Int)
theorem u32w (x:Int):IntKind.u32.wrap x=x%4294967296:=by
 simp [IntKind.wrap,IntKind.bits,IntKind.signed]
theorem tnew_ok (n:Int):∃r,eZ.f n=some r∧TI r:=by
 have e:1≤imax 1 (imin n 4096)∧imax 1 (imin n 4096)≤4096:=by unfold imax imin;constructor<;>(repeat' split)<;>omega
 unfold eZ.f
 rw [if_pos ⟨by omega,by omega⟩]
 refine ⟨_,rfl,⟨?_,?_⟩⟩<;>dsimp only<;>rw [List.length_replicate]<;>omega
theorem first_ok {t:aK} (h:TI t) {b:Int} (hb:0≤b∧b<t.came.length):∃r,bV.f t b=some r∧TI r.2:=by
 have hl:=h.len
 have ha:=h.at_
 unfold bV.f
 rw [if_pos (by omega),w64_in (n:=t.at_+t.came.length) ⟨by omega,by omega⟩,w64_in ⟨by omega,by omega⟩,Int.tmod_eq_emod_of_nonneg (by omega),if_pos ⟨Int.emod_nonneg _ (by omega),Int.emod_lt_of_pos _ (by omega)⟩]
 exact ⟨_,rfl,by show 1≤(t.came.set _ true).length∧(t.came.set _ true).length≤_;rw [List.length_set];exact hl,by show 0≤t.at_∧t.at_<((t.came.set _ true).length:Int);rw [List.length_set];exact ha⟩
theorem raise_ok {t:aK} (h:TI t):∃r,cW.f t=some r∧TI r∧r.came.length=t.came.length:=by
 have hl:=h.len
 have ha:=h.at_
 have e1:=Int.emod_nonneg (t.at_+1) (show (t.came.length:Int)≠0 by omega)
 have e2:=Int.emod_lt_of_pos (t.at_+1) (show (0:Int)<(t.came.length:Int) by omega)
 unfold cW.f
 rw [if_pos (by omega),w64_in ⟨by omega,by omega⟩,Int.tmod_eq_emod_of_nonneg (by omega),if_pos ⟨e1,e2⟩]
 refine ⟨_,rfl,⟨?_,?_⟩,?_⟩<;>dsimp only<;>rw [List.length_set]
 ·exact hl
 ·exact ⟨e1,e2⟩
theorem fresh_l0 (t:aK) (n:Int) (hl:t.came.length≤4096):∀(d:Nat) (i:Int) (x:aK),TI x→x.came.length=t.came.length→0≤i→imin (IntKind.u32.wrap (n-t.highest)) (IntKind.u32.wrap (t.came.length:Int))≤i+d→i+d≤5000→
  ∃r,(∀k,d+1≤k→bb.l0 k t n i x=some r)∧TI r.2
 |0,i,x,h,e,h0,h1,h2=>by
  obtain ⟨r,hr,hi⟩:=first_ok (t:={x with highest:=n}) ⟨h.len,h.at_⟩ (b:=0) ⟨by omega,by have:=h.len;show (0:Int)<x.came.length;omega⟩
  refine ⟨r,fun k hk=>?_,hi⟩
  obtain ⟨k,rfl⟩:∃j,k=j+1:=⟨k-1,by omega⟩
  rw [bb.l0,if_neg (by omega),hr,bsome]
 |d+1,i,x,h,e,h0,h1,h2=>by
  by_cases c:i<imin (IntKind.u32.wrap (n-t.highest)) (IntKind.u32.wrap (t.came.length:Int))
  ·obtain ⟨y,hy,hi,hle⟩:=raise_ok h
   obtain ⟨r,hr,hri⟩:=fresh_l0 t n hl d (i+1) y hi (hle.trans e) (by omega) (by omega) (by omega)
   refine ⟨r,fun k hk=>?_,hri⟩
   obtain ⟨k,rfl⟩:∃j,k=j+1:=⟨k-1,by omega⟩
   have ew:IntKind.u32.wrap (i+1)=i+1:=by rw [u32w];omega
   rw [bb.l0,if_pos c,hy,bsome,ew]
   exact hr k (by omega)
  ·obtain ⟨r,hr,hi⟩:=first_ok (t:={x with highest:=n}) ⟨h.len,h.at_⟩ (b:=0) ⟨by omega,by have:=h.len;show (0:Int)<x.came.length;omega⟩
   refine ⟨r,fun k hk=>?_,hi⟩
   obtain ⟨k,rfl⟩:∃j,k=j+1:=⟨k-1,by omega⟩
   rw [bb.l0,if_neg c,hr,bsome]
theorem fresh_ok {t:aK} (h:TI t) (n:Int):∃r,(∀k,5000≤k→bb.f k t n=some r)∧TI r.2:=by
 have hl:=h.len
 have el:IntKind.u32.wrap (t.came.length:Int)=t.came.length:=by rw [u32w];omega
 by_cases c:t.known=true
 ·by_cases c1:IntKind.u32.wrap (t.highest-n)=0
  ·exact ⟨(false,t),fun k _=>by unfold bb.f;rw [if_pos c,if_pos c1],h⟩
  by_cases c2:IntKind.u32.wrap (n-t.highest)<2147483648
  ·have hm:imin (IntKind.u32.wrap (n-t.highest)) (IntKind.u32.wrap (t.came.length:Int))≤0+(4096:Nat):=by rw [el];unfold imin;split<;>omega
   obtain ⟨r,hr,hi⟩:=fresh_l0 t n hl.2 4096 0 t h rfl (by omega) hm (by omega)
   exact ⟨r,fun k hk=>by unfold bb.f;rw [if_pos c,if_neg c1,if_pos c2];exact hr k (by omega),hi⟩
  by_cases c3:IntKind.u32.wrap (t.highest-n)<IntKind.u32.wrap (t.came.length:Int)
  ·have e0:0≤IntKind.u32.wrap (t.highest-n):=by rw [u32w];omega
   obtain ⟨r,hr,hi⟩:=first_ok h (b:=IntKind.u32.wrap (t.highest-n)) ⟨e0,by omega⟩
   exact ⟨r,fun k hk=>by unfold bb.f;rw [if_pos c,if_neg c1,if_neg c2,if_pos c3,w64_in ⟨by omega,by omega⟩,hr,bsome],hi⟩
  ·exact ⟨(false,t),fun k _=>by unfold bb.f;rw [if_pos c,if_neg c1,if_neg c2,if_neg c3],h⟩
 ·obtain ⟨r,hr,hi⟩:=first_ok (t:={t with known:=true,highest:=n}) ⟨h.len,h.at_⟩ (b:=0) ⟨by omega,by show (0:Int)<t.came.length;omega⟩
  exact ⟨r,fun k hk=>by unfold bb.f;rw [if_neg c,hr,bsome],hi⟩
structure GI (r:aJ):Prop where
 room:0≤r.room∧r.room≤1048576
 len:(r.b.length:Int)≤r.room
 by_:By r.b
 begun:0≤r.begun
 pos:∀p∈r.pieces,1≤p
 sum:r.begun+r.pieces.sum=r.b.length
 drop:0≤r.dropped∧r.dropped≤4294967295
theorem len_sum:∀{l:List Int},(∀p∈l,1≤p)→(l.length:Int)≤l.sum
 |[],_=>Int.le_refl _
 |p::l,h=>by
  have:=len_sum (l:=l) fun q hq=>h q (List.mem_cons_of_mem _ hq)
  have:=h p (List.mem_cons_self ..)
  rw [List.sum_cons,List.length_cons];omega
theorem gnew_ok (n:Int):∃r,eN.f n=some r∧GI r∧r.b=[]:=by
 have e:0≤imax 0 (imin n 1048576)∧imax 0 (imin n 1048576)≤1048576:=by unfold imax imin;constructor<;>(repeat' split)<;>omega
 unfold eN.f
 exact ⟨_,rfl,⟨e,e.1,fun _ h=>(nomatch h),Int.le_refl _,fun _ h=>(nomatch h),rfl,by dsimp only;omega⟩,rfl⟩
theorem add_ok {r:aJ} (h:GI r) {b:List Int} (hb:By b) (h0:1≤b.length) (hl:b.length≤100000):∃t,dm.f r b=some t∧GI t.2∧r.b.length+(if t.1=true then 1 else 0)≤t.2.b.length:=by
 have hr:=h.room
 have h1:=h.len
 have hs:=h.sum
 have hg:=h.begun
 have hp:=len_sum h.pos
 have hd:=h.drop
 unfold dm.f
 rw [w64_in ⟨by omega,by omega⟩]
 by_cases c:(b.length:Int)>r.room-r.b.length
 ·rw [if_pos c,w64_in ⟨by omega,by omega⟩]
  exact ⟨_,rfl,{h with drop:=by show 0≤imin (r.dropped+1) 4294967295∧imin (r.dropped+1) 4294967295≤4294967295;unfold imin;constructor<;>split<;>omega},Nat.le_refl _⟩
 ·rw [if_neg c,if_pos (by omega),if_pos (by simp only [List.length_cons,List.length_nil];omega)]
  refine ⟨_,rfl,{h with len:=?_,by_:=Fr.By.app h.by_ hb,pos:=?_,sum:=?_},by show r.b.length+1≤(r.b++b).length;rw [List.length_append];omega⟩
  ·show ((r.b++b).length:Int)≤r.room;rw [List.length_append];omega
  ·intro p hp
   rcases List.mem_append.1 hp with q|q
   ·exact h.pos p q
   ·have:=List.mem_singleton.1 q;omega
  ·show r.begun+(r.pieces++[(b.length:Int)]).sum=((r.b++b).length:Int)
   rw [List.sum_append,List.length_append];simp;omega
theorem passed_l0 (room:Int) (b:List Int) (dr:Int) (hb:b.length≤1048576):∀(d:Nat) (x g:Int) (l:List Int),0≤x→x≤d→x≤1048576→0≤g→(∀p∈l,1≤p)→g+l.sum=b.length+x→
  ∃(g':Int) (l':List Int),(∀k,d+1≤k→bH.l0 k x {room:=room,b:=b,begun:=g,pieces:=l,dropped:=dr}=some {room:=room,b:=b,begun:=g',pieces:=l',dropped:=dr})∧0≤g'∧(∀p∈l',1≤p)∧g'+l'.sum=b.length
 |d,x,g,l,h0,h1,h2,h3,h4,h5=>by
  by_cases c:x>0
  ·obtain ⟨d,rfl⟩:∃j,d=j+1:=⟨d-1,by omega⟩
   have hl:=len_sum h4
   by_cases c2:g=0
   ·subst c2
    cases l with
    |nil=>simp at h5;omega
    |cons p l=>
     have hp:=h4 p (List.mem_cons_self ..)
     have h4':∀q∈l,1≤q:=fun q hq=>h4 q (List.mem_cons_of_mem _ hq)
     have hl':=len_sum h4'
     rw [List.sum_cons] at h5
     have e:1≤imin x p∧imin x p≤x∧imin x p≤p∧(imin x p=x∨imin x p=p):=by unfold imin;split<;>omega
     obtain ⟨g',l',hr,q1,q2,q3⟩:=passed_l0 room b dr hb d (x-imin x p) (p-imin x p) l (by omega) (by omega) (by omega) (by omega) h4' (by omega)
     refine ⟨g',l',fun k hk=>?_,q1,q2,q3⟩
     obtain ⟨k,rfl⟩:∃j,k=j+1:=⟨k-1,by omega⟩
     have ep:(p::l).getD (0:Int).toNat 0=p:=rfl
     have ec:cut (p::l) 1 ((p::l).length:Int)=l:=by simp [cut]
     rw [bH.l0,if_pos c,if_pos rfl]
     dsimp only
     rw [if_pos ⟨by omega,by rw [List.length_cons];omega⟩,if_pos ⟨by omega,by rw [List.length_cons];omega,by omega⟩,ep,ec,w64_in ⟨by omega,by omega⟩,w64_in ⟨by omega,by omega⟩]
     exact hr k (by omega)
   ·have e:1≤imin x g∧imin x g≤x∧imin x g≤g:=by unfold imin;split<;>omega
    obtain ⟨g',l',hr,q1,q2,q3⟩:=passed_l0 room b dr hb d (x-imin x g) (g-imin x g) l (by omega) (by omega) (by omega) (by omega) h4 (by omega)
    refine ⟨g',l',fun k hk=>?_,q1,q2,q3⟩
    obtain ⟨k,rfl⟩:∃j,k=j+1:=⟨k-1,by omega⟩
    rw [bH.l0,if_pos c,if_neg c2]
    dsimp only
    rw [w64_in ⟨by omega,by omega⟩,w64_in ⟨by omega,by omega⟩]
    exact hr k (by omega)
  ·refine ⟨g,l,fun k hk=>?_,h3,h4,by omega⟩
   obtain ⟨k,rfl⟩:∃j,k=j+1:=⟨k-1,by omega⟩
   rw [bH.l0,if_neg c]
theorem del_ok (b:List Int) {m:Nat} (e:(m:Int)≤b.length):cj.f b 0 (m:Int)=some (b.drop m):=by
 unfold cj.f
 rw [if_pos ⟨by omega,by omega,e⟩]
 by_cases z:(0:Int)=m
 ·have:m=0:=by omega
  subst this;rw [if_pos (by omega)];rfl
 ·rw [if_neg z,if_pos ⟨by omega,by omega,by omega⟩,if_pos ⟨by omega,e,by omega⟩]
  show some (cut b 0 0++cut b m b.length)=_
  have z1:cut b 0 0=[]:=by simp [cut]
  have z2:cut b m b.length=b.drop m:=by rw [Aq.cut_drop _ (by omega)];simp
  rw [z1,z2];rfl
theorem take_ok {r:aJ} (h:GI r) (n:Int):∃t:List Int × aJ,(∀k,1100000≤k→bX.f k r n=some t)∧GI t.2∧t.1=r.b.take (imax 0 (imin n r.b.length)).toNat∧t.2.b=r.b.drop (imax 0 (imin n r.b.length)).toNat:=by
 have hr:=h.room
 have h1:=h.len
 have e:0≤imax 0 (imin n (r.b.length:Int))∧imax 0 (imin n (r.b.length:Int))≤r.b.length:=by unfold imax imin;constructor<;>(repeat' split)<;>omega
 obtain ⟨m,hm⟩:∃m:Nat,imax 0 (imin n (r.b.length:Int))=m:=⟨_,(Int.toNat_of_nonneg e.1).symm⟩
 rw [hm] at e ⊢
 have hs:=h.sum
 obtain ⟨g',l',hp,q1,q2,q3⟩:=passed_l0 r.room (r.b.drop m) r.dropped (by rw [List.length_drop];omega) 1048577 m r.begun r.pieces (by omega) (by omega) (by omega) h.begun h.pos (by rw [List.length_drop];omega)
 refine ⟨(r.b.take m,{room:=r.room,b:=r.b.drop m,begun:=g',pieces:=l',dropped:=r.dropped}),fun k hk=>?_,⟨hr,by dsimp only;rw [List.length_drop];omega,fun z hz=>h.by_ z (List.mem_of_mem_drop hz),q1,q2,q3,h.drop⟩,by simp,by simp⟩
 unfold bX.f
 rw [hm,if_pos ⟨by omega,e.1,e.2⟩,Fr.cut0,Bl.clone_eq (by rw [List.length_take];omega),bsome]
 have hd:cj.f r.b 0 (m:Int)=some (r.b.drop m):=del_ok r.b e.2
 rw [hd,bsome]
 unfold bH.f
 rw [hp k (by omega),bsome]
end Mo
namespace St
open Fr (By)
open Aq (AI big)
open Bo (BO)
structure DI (d:aU):Prop where
 reader:Fr.RI d.reader
 short:d.reader.most≤1100
 mon:Mo.MI d.monitor
 ring:Mo.GI d.ring
structure SI (s:aa) (C:Nat) (S:Int):Prop where
 keep:1≤s.c.Keep∧s.c.Keep≤65536
 arq:AI s.arq C
 bo:BO s.arq S
 tw:Mo.TI s.twins
 num:0≤s.number∧s.number<4294967296
 steps:0≤s.steps∧s.steps≤C
 one:DI s.sides.1
 two:DI s.sides.2
theorem SI.more {s:aa} {C D:Nat} {S:Int} (h:SI s C S) (l:C≤D):SI s D S:={h with arq:=h.arq.more l,steps:=by have:=h.steps;omega}
structure Pt (s r:aa):Prop where
 c:r.c=s.c
 arq:r.arq=s.arq
 aps:r.aps=s.aps
 tw:r.twins=s.twins
 line:r.line=s.line
 r1:r.sides.1.reader=s.sides.1.reader
 m1:r.sides.1.monitor=s.sides.1.monitor
 c1:r.sides.1.counts=s.sides.1.counts
 r2:r.sides.2.reader=s.sides.2.reader
 m2:r.sides.2.monitor=s.sides.2.monitor
 c2:r.sides.2.counts=s.sides.2.counts
theorem Pt.rfl (s:aa):Pt s s:=⟨Eq.refl _,Eq.refl _,Eq.refl _,Eq.refl _,Eq.refl _,Eq.refl _,Eq.refl _,Eq.refl _,Eq.refl _,Eq.refl _,Eq.refl _⟩
theorem Pt.trans {s r t:aa} (h:Pt s r) (g:Pt r t):Pt s t:=
 ⟨g.c.trans h.c,g.arq.trans h.arq,g.aps.trans h.aps,g.tw.trans h.tw,g.line.trans h.line,g.r1.trans h.r1,g.m1.trans h.m1,g.c1.trans h.c1,g.r2.trans h.r2,g.m2.trans h.m2,g.c2.trans h.c2⟩
abbrev Told:=List (List Int) × List (List Int)
structure TD (t:Told) (s:aa):Prop where
 n1:t.1.length≤s.sides.1.ring.b.length
 n2:t.2.length≤s.sides.2.ring.b.length
 b1:∀b∈t.1,By b∧b.length≤1100
 b2:∀b∈t.2,By b∧b.length≤1100
theorem piece_ok {s:aa} {C:Nat} {S:Int} (h:SI s C S) {b:List Int} (hb:By b∧b.length≤1006):∃r:List Int × aa,(∀k,20≤k→cG.f k s b=some r)∧SI r.2 C S∧Pt s r.2∧By r.1∧r.1.length≤1011∧r.2.sides=s.sides:=by
 have hn:=h.num
 have two:∀x y:List Int,x.length≤1000000→y.length≤1000000→∀k,20≤k→aG.f k [x,y]=some (x++y):=fun x y hx hy k hk=>Fr.concat2 (by omega) (by omega) (by omega)
 refine ⟨([0,IntKind.u8.wrap (s.number.fdiv (2^(min (24:Int).toNat IntKind.u32.bits))),IntKind.u8.wrap (s.number.fdiv (2^(min (16:Int).toNat IntKind.u32.bits))),IntKind.u8.wrap (s.number.fdiv (2^(min (8:Int).toNat IntKind.u32.bits))),IntKind.u8.wrap s.number]++b,{s with number:=IntKind.u32.wrap (s.number+1)}),fun k hk=>?_,{h with num:=?_},(by constructor<;>exact Eq.refl _),?_,?_,Eq.refl _⟩
 ·unfold cG.f
  rw [two _ _ (by simp) (by omega) k hk,bsome]
 ·show 0≤IntKind.u32.wrap (s.number+1)∧IntKind.u32.wrap (s.number+1)<4294967296
  rw [Mo.u32w];omega
 ·refine Fr.By.app (fun z hz=>?_) hb.1
  simp only [List.mem_cons,List.not_mem_nil,or_false] at hz
  rcases hz with e|e|e|e|e<;>subst e
  ·omega
  all_goals exact Fr.u8b _
 ·show (_++b).length≤1011
  rw [List.length_append]
  show 5+b.length≤1011
  omega
theorem put_ok {s:aa} {C:Nat} {S:Int} (h:SI s C S) {t:Told} (ht:TD t s) {i:Int} (hi:i=0∨i=1) {p:List Int} (hp:By p∧p.length≤1100):
  ∃r:aa × Told,(∀k,1200≤k→aR.f k s t i p=some r)∧SI r.1 C S∧Pt s r.1∧TD r.2 r.1:=by
 obtain ⟨f,hf,f1,f2,f3⟩:=Fr.put_ok p s.c.Wide (by omega) hp.1
 have n1:=ht.n1
 have n2:=ht.n2
 have g1:=h.one.ring.room
 have g2:=h.two.ring.room
 have g3:=h.one.ring.len
 have g4:=h.two.ring.len
 have clone:aT.f p=some p:=Bl.clone_eq (by omega)
 have tell0:∀(x:aa) (b:Bool),∃u:Told,aR.j0 t 0 p x b=some (x,u)∧u.2=t.2∧(∀b∈u.1,By b∧b.length≤1100)∧u.1.length=t.1.length+(if b=true then 1 else 0):=by
  intro x b
  unfold aR.j0
  by_cases c:b=true
  ·rw [if_pos c,if_pos (by omega),clone,if_pos (Eq.refl _),bsome,if_pos (by simp only [List.length_cons,List.length_nil];omega),if_pos c]
   exact ⟨_,Eq.refl _,Eq.refl _,fun b hb=>(List.mem_append.1 hb).elim (ht.b1 b) fun q=>List.mem_singleton.1 q▸hp,by dsimp only;rw [List.length_append];rfl⟩
  ·rw [if_neg c,if_neg c];exact ⟨_,Eq.refl _,Eq.refl _,ht.b1,Eq.refl _⟩
 have tell1:∀(x:aa) (b:Bool),∃u:Told,aR.j0 t 1 p x b=some (x,u)∧u.1=t.1∧(∀b∈u.2,By b∧b.length≤1100)∧u.2.length=t.2.length+(if b=true then 1 else 0):=by
  intro x b
  unfold aR.j0
  by_cases c:b=true
  ·rw [if_pos c,if_pos (by omega),clone,if_neg (by decide),bsome,if_pos (by simp only [List.length_cons,List.length_nil];omega),if_pos c]
   exact ⟨_,Eq.refl _,Eq.refl _,fun b hb=>(List.mem_append.1 hb).elim (ht.b2 b) fun q=>List.mem_singleton.1 q▸hp,by dsimp only;rw [List.length_append];rfl⟩
  ·rw [if_neg c,if_neg c];exact ⟨_,Eq.refl _,Eq.refl _,ht.b2,Eq.refl _⟩
 rcases hi with e|e
 ·subst e
  obtain ⟨a,ha,hg,hl⟩:=Mo.add_ok h.one.ring f2 (by omega) (by omega)
  obtain ⟨u,hu,e1,e2,e3⟩:=tell0 {s with sides:=({s.sides.1 with ring:=a.2},s.sides.2)} a.1
  refine ⟨({s with sides:=({s.sides.1 with ring:=a.2},s.sides.2)},u),fun k hk=>?_,{h with one:={h.one with ring:=hg} },(by constructor<;>exact Eq.refl _),⟨by dsimp only;omega,by dsimp only;rw [e1];exact n2,e2,by dsimp only;rw [e1];exact ht.b2⟩⟩
  unfold aR.f
  rw [if_pos (by omega),if_pos (Eq.refl _),hf k (by omega),bsome,ha,bsome]
  exact hu
 ·subst e
  obtain ⟨a,ha,hg,hl⟩:=Mo.add_ok h.two.ring f2 (by omega) (by omega)
  obtain ⟨u,hu,e1,e2,e3⟩:=tell1 {s with sides:=(s.sides.1,{s.sides.2 with ring:=a.2})} a.1
  refine ⟨({s with sides:=(s.sides.1,{s.sides.2 with ring:=a.2})},u),fun k hk=>?_,{h with two:={h.two with ring:=hg} },(by constructor<;>exact Eq.refl _),⟨by dsimp only;rw [e1];exact n1,by dsimp only;omega,by dsimp only;rw [e1];exact ht.b1,e2⟩⟩
  unfold aR.f
  rw [if_pos (by omega),if_neg (by omega),hf k (by omega),bsome,ha,bsome]
  exact hu
theorem kput_ok (q l:Int):∃r,dE.f q l=some r∧By r∧r.length=2:=by
 unfold dE.f cb.f cb.j0 dE.j0
 have fin:∀x:Int,0≤x∧x<256→∃r:List Int,some ([x,icom .u8 x]:List Int)=some r∧By r∧r.length=2:=by
  intro x hx
  refine ⟨_,Eq.refl _,fun z hz=>?_,Eq.refl _⟩
  simp only [List.mem_cons,List.not_mem_nil,or_false] at hz
  rcases hz with e|e<;>subst e
  ·exact hx
  ·unfold icom;exact Fr.u8b _
 have key:∀y:Int,∃r,(if l=1 then some ([IntKind.u8.wrap ((IntKind.u8.wrap (w64 (y*16)))+1),icom .u8 (IntKind.u8.wrap ((IntKind.u8.wrap (w64 (y*16)))+1))]:List Int) else some [IntKind.u8.wrap (w64 (y*16)),icom .u8 (IntKind.u8.wrap (w64 (y*16)))])=some r∧By r∧r.length=2:=by
  intro y;split<;>exact fin _ (Fr.u8b _)
 split
 ·rw [if_pos (Eq.refl _),bsome];exact key _
 ·split
  ·rw [bsome];exact key _
  ·rw [bsome];exact key _
theorem twice_eq (s:aa):bu.f s=some (decide (s.c.Mode=0)):=Eq.refl _
theorem step_l1 (t21:Int × aH) (t38:List (List Int) × ae) (hl:t38.1.length≤2000000000000) (hB:∀b∈t38.1,By b∧b.length≤1006) {C:Nat} {S:Int} (hC:C≤2000000000000):∀(d i:Nat) (s:aa) (t:Told),i+d=t38.1.length→SI s C S→TD t s→
  ∃r:Told × aa,(∀k,d+1300≤k→aq.l1 k t21 t38 (i:Int) s t=some r)∧SI r.2 (C+1) S∧Pt s r.2∧TD r.1 r.2
 |0,i,s,t,hi,h,ht=>by
  have hk:=h.keep
  have hs:=h.steps
  have e64:w64 (s.steps+1)=s.steps+1:=w64_in ⟨by omega,by omega⟩
  have h':SI {s with steps:=s.steps+1} (C+1) S:={h.more (D:=C+1) (by omega) with steps:=by show 0≤s.steps+1∧s.steps+1≤((C+1:Nat):Int);omega}
  have P':Pt s {s with steps:=s.steps+1}:=by constructor<;>exact Eq.refl _
  obtain ⟨q,hq,hqb,hql⟩:=kput_ok s.aps.own t21.1
  have hpb:By (([1]:List Int)++q)∧(([1]:List Int)++q).length≤1100:=⟨Fr.By.app (fun z hz=>by simp at hz;omega) hqb,by rw [List.length_append];show 1+q.length≤1100;omega⟩
  have head:∀k,aq.l1 (k+1) t21 t38 (i:Int) s t=if (s.steps+1).tmod s.c.Keep=0 then (aR.f k {s with steps:=s.steps+1} t 0 (([1]:List Int)++q)).bind fun t126=>(aR.f k t126.1 t126.2 1 (([1]:List Int)++q)).bind fun t129=>some (t129.2,t129.1) else some (t,{s with steps:=s.steps+1}):=by
   intro k
   rw [aq.l1,if_neg (by omega),if_pos (by omega),e64]
   unfold ez.f
   by_cases c:(s.steps+1).tmod s.c.Keep=0
   ·rw [if_pos c,if_pos c,bsome,hq,bsome,if_pos (by rw [hql];simp)]
   ·rw [if_neg c,if_neg c]
  by_cases c:(s.steps+1).tmod s.c.Keep=0
  ·obtain ⟨u,hu,u1,u2,u3⟩:=put_ok h' ⟨ht.n1,ht.n2,ht.b1,ht.b2⟩ (.inl (Eq.refl 0)) hpb
   obtain ⟨v,hv,v1,v2,v3⟩:=put_ok u1 u3 (.inr (Eq.refl 1)) hpb
   refine ⟨(v.2,v.1),fun k hk=>?_,v1,(P'.trans u2).trans v2,v3⟩
   obtain ⟨k,rfl⟩:∃j,k=j+1:=⟨k-1,by omega⟩
   rw [head,if_pos c,hu k (by omega),bsome,hv k (by omega),bsome]
  ·refine ⟨(t,_),fun k hk=>?_,h',P',⟨ht.n1,ht.n2,ht.b1,ht.b2⟩⟩
   obtain ⟨k,rfl⟩:∃j,k=j+1:=⟨k-1,by omega⟩
   rw [head,if_neg c]
 |d+1,i,s,t,hi,h,ht=>by
  have hlt:i<t38.1.length:=by omega
  have eg:t38.1.getD ((i:Int)).toNat []=t38.1[i]:=by simp [List.getD,hlt]
  obtain ⟨p,hp,p1,p2,p3,p4,p5⟩:=piece_ok h (hB _ (List.getElem_mem hlt))
  have ew:w64 ((i:Int)+1)=((i+1:Nat):Int):=w64_in ⟨by omega,by omega⟩
  have hpb:By p.1∧p.1.length≤1100:=⟨p3,by omega⟩
  have ht':TD t p.2:=⟨by rw [p5];exact ht.n1,by rw [p5];exact ht.n2,ht.b1,ht.b2⟩
  have rest:∀(x:aa) (u:Told),SI x C S→Pt s x→TD u x→∃r:Told × aa,(∀k,d+1300≤k→aq.l1 k t21 t38 (w64 ((i:Int)+1)) x u=some r)∧SI r.2 (C+1) S∧Pt s r.2∧TD r.1 r.2:=by
   intro x u hx hP hu
   obtain ⟨r,hr,r1,r2,r3⟩:=step_l1 t21 t38 hl hB hC d (i+1) x u (by omega) hx hu
   exact ⟨r,fun k hk=>by rw [ew];exact hr k hk,r1,hP.trans r2,r3⟩
  have j3:∀(x:aa × Told) (b:Bool),SI x.1 C S→Pt s x.1→TD x.2 x.1→∃r:Told × aa,(∀k,d+1300≤k→aq.j3 k (i:Int) p x (aq.l1 k t21 t38) b=some r)∧SI r.2 (C+1) S∧Pt s r.2∧TD r.1 r.2:=by
   intro x b hx hP hu
   by_cases c:b=true
   ·obtain ⟨u,hu',u1,u2,u3⟩:=put_ok hx hu (.inr (Eq.refl 1)) hpb
    obtain ⟨r,hr,hr'⟩:=rest u.1 u.2 u1 (hP.trans u2) u3
    refine ⟨r,fun k hk=>?_,hr'⟩
    unfold aq.j3
    rw [if_pos c,hu' k (by omega),bsome];exact hr k hk
   ·obtain ⟨r,hr,hr'⟩:=rest x.1 x.2 hx hP hu
    refine ⟨r,fun k hk=>?_,hr'⟩
    unfold aq.j3
    rw [if_neg c];exact hr k hk
  have j4:∀b:Bool,∃r:Told × aa,(∀k,d+1300≤k→aq.j4 k (i:Int) t p (aq.l1 k t21 t38) b=some r)∧SI r.2 (C+1) S∧Pt s r.2∧TD r.1 r.2:=by
   intro b
   by_cases c:b=true
   ·obtain ⟨u,hu',u1,u2,u3⟩:=put_ok p1 ht' (.inr (Eq.refl 1)) hpb
    obtain ⟨r,hr,hr'⟩:=rest u.1 u.2 u1 (p2.trans u2) u3
    refine ⟨r,fun k hk=>?_,hr'⟩
    unfold aq.j4
    rw [if_pos c,hu' k (by omega),bsome];exact hr k hk
   ·obtain ⟨r,hr,hr'⟩:=rest p.2 t p1 p2 ht'
    refine ⟨r,fun k hk=>?_,hr'⟩
    unfold aq.j4
    rw [if_neg c];exact hr k hk
  have j2:∀b:Bool,∃r:Told × aa,(∀k,d+1300≤k→aq.j2 k t21 (i:Int) t p (aq.l1 k t21 t38) b=some r)∧SI r.2 (C+1) S∧Pt s r.2∧TD r.1 r.2:=by
   intro b
   by_cases c:b=true
   ·obtain ⟨u,hu',u1,u2,u3⟩:=put_ok p1 ht' (.inl (Eq.refl 0)) hpb
    obtain ⟨r,hr,hr'⟩:=j3 u (if decide (u.1.c.Mode=0)=true then true else decide (1=t21.1)) u1 (p2.trans u2) u3
    refine ⟨r,fun k hk=>?_,hr'⟩
    rw [←hr k hk]
    unfold aq.j2
    rw [if_pos c,hu' k (by omega),bsome,twice_eq,bsome]
    split<;>rfl
   ·obtain ⟨r,hr,hr'⟩:=j4 (if decide (p.2.c.Mode=0)=true then true else decide (1=t21.1))
    refine ⟨r,fun k hk=>?_,hr'⟩
    rw [←hr k hk]
    unfold aq.j2
    rw [if_neg c,twice_eq,bsome]
    split<;>rfl
  obtain ⟨r,hr,hr'⟩:=j2 (if decide (p.2.c.Mode=0)=true then true else decide (0=t21.1))
  refine ⟨r,fun k hk=>?_,hr'⟩
  obtain ⟨k,rfl⟩:∃j,k=j+1:=⟨k-1,by omega⟩
  rw [←hr k (by omega)]
  rw [aq.l1,if_pos (by omega),if_pos (by omega),eg,hp k (by omega),bsome,twice_eq,bsome]
  split<;>rfl
end St
namespace St
open Fr (By)
open Aq (AI big)
open Bo (BO)
theorem apass_ok (a:aH) (x y:Int):∃r,co.f a x y=some r:=by
 have hof:∀q,∃r,cb.f q=some r:=by
  intro q;unfold cb.f cb.j0
  split
  ·exact ⟨_,if_pos (Eq.refl _)⟩
  ·split<;>exact ⟨_,Eq.refl _⟩
 have j0:∀(z:aH) (q:Int),∃r,co.j0 z q=some r:=by
  intro z q
  unfold co.j0 fg.f
  obtain ⟨r1,h1⟩:=hof q
  obtain ⟨r2,h2⟩:=hof z.remote
  rw [h1,bsome,h2,bsome,bsome]
  have hl:∀q,∃r,dj.f q=some r:=by
   intro q;unfold dj.f dj.j0
   repeat' split
   all_goals exact ⟨_,Eq.refl _⟩
  obtain ⟨r3,h3⟩:=hl (imax r1 r2)
  rw [h3,bsome];exact ⟨_,Eq.refl _⟩
 have hh:∃r,dC.f a x=some r:=by
  unfold dC.f
  repeat' split
  all_goals exact ⟨_,Eq.refl _⟩
 have hl:∀u v w,∃r,eR.f u v w=some r:=by
  intro u v w;unfold eR.f
  repeat' split
  all_goals exact ⟨_,Eq.refl _⟩
 have ha:∀z:aH,∃r,cZ.f z=some r:=by
  intro z;unfold cZ.f cZ.j0
  repeat' split
  all_goals exact ⟨_,Eq.refl _⟩
 unfold co.f
 obtain ⟨r1,h1⟩:=hh
 obtain ⟨r2,h2⟩:=hl a.command r1.1 y
 rw [h1,bsome,h2,bsome]
 split
 ·obtain ⟨r3,h3⟩:=ha r1.2
  rw [h3,bsome];exact j0 _ _
 ·exact j0 _ _
structure Kp (s r:aa):Prop where
 c:r.c=s.c
 tw:r.twins=s.twins
 r1:r.sides.1.reader=s.sides.1.reader
 c1:r.sides.1.counts=s.sides.1.counts
 r2:r.sides.2.reader=s.sides.2.reader
 c2:r.sides.2.counts=s.sides.2.counts
def emp (a:ae):ae:={a with out:=[]}
theorem j0_ok (t21:Int × aH) {x:aa} {C:Nat} {S:Int} (h:SI x C S) (hC:C+20000≤big):∃r:Told × aa,(∀k,C+1400000≤k→aq.j0 k t21 x=some r)∧SI r.2 (C+7001) S∧TD r.1 r.2∧Kp x r.2∧r.2.arq=emp (Aq.pass x.arq 1):=by
 have A:=Aq.pass_ai h.arq (by omega) 1
 have B:=Bo.pass h.arq h.bo 1
 have hb:big=1000000000000:=Eq.refl _
 have ho:=A.out
 obtain ⟨r,hr,r1,r2,r3⟩:=step_l1 t21 ((Aq.pass x.arq 1).out,emp (Aq.pass x.arq 1)) (by dsimp only;omega) B.out (C:=C+7000) (S:=S) (by omega) (Aq.pass x.arq 1).out.length 0 {x with arq:=emp (Aq.pass x.arq 1),line:=t21.1} ([],[]) (by dsimp only;omega)
  {h.more (D:=C+7000) (by omega) with arq:=Bo.outp_ai A,bo:=Bo.outp B} ⟨Nat.zero_le _,Nat.zero_le _,fun _ q=>(nomatch q),fun _ q=>(nomatch q)⟩
 refine ⟨r,fun k hk=>?_,r1,r3,⟨r2.c,r2.tw,r2.r1,r2.c1,r2.r2,r2.c2⟩,r2.arq⟩
 unfold aq.j0 dW.f
 rw [Aq.passes_eq h.arq (by omega) 1 (by omega),bsome,bsome]
 exact hr k (by omega)
theorem step_ok {s:aa} {C:Nat} {S:Int} (h:SI s C S) (hC:C+30000≤big):∃r:Told × aa,(∀k,C+1500000≤k→aq.f k s=some r)∧SI r.2 (C+12000) S∧TD r.1 r.2∧Kp s r.2∧(r.2.arq=emp (Aq.pass s.arq 1)∨r.2.arq=emp (Aq.pass (Aq.again s.arq) 1)):=by
 obtain ⟨m1,hm1,i1⟩:=Mo.mpass_ok h.one.mon
 obtain ⟨m2,hm2,i2⟩:=Mo.mpass_ok h.two.mon
 obtain ⟨p,hp⟩:=apass_ok s.aps m1.1 m2.1
 have h1:SI {s with aps:=p.2,sides:=({s.sides.1 with monitor:=m1.2},{s.sides.2 with monitor:=m2.2})} C S:={h with one:={h.one with mon:=i1},two:={h.two with mon:=i2} }
 have hj:∀b:Bool,∃r:Told × aa,(∀k,C+1500000≤k→aq.j5 k s m1 m2 p b=some r)∧SI r.2 (C+12000) S∧TD r.1 r.2∧Kp s r.2∧(r.2.arq=emp (Aq.pass s.arq 1)∨r.2.arq=emp (Aq.pass (Aq.again s.arq) 1)):=by
  intro b
  by_cases c:b=true
  ·obtain ⟨r,hr,r1,r2,r3,r4⟩:=j0_ok p (x:={s with arq:=Aq.again s.arq,aps:=p.2,sides:=({s.sides.1 with monitor:=m1.2},{s.sides.2 with monitor:=m2.2})}) (C:=C+4096) (S:=S) {h1.more (D:=C+4096) (by omega) with arq:=Aq.again_ai h.arq,bo:=Bo.again h.arq h.bo} (by omega)
   refine ⟨r,fun k hk=>?_,r1.more (by omega),r2,⟨r3.c,r3.tw,r3.r1,r3.c1,r3.r2,r3.c2⟩,.inr r4⟩
   unfold aq.j5
   rw [if_pos c]
   refine Eq.trans (congrArg (fun z=>Option.bind z _) (Aq.again_eq h.arq (by omega) (by omega):dO.f k s.arq=_)) ?_
   rw [bsome]
   exact hr k (by omega)
  ·obtain ⟨r,hr,r1,r2,r3,r4⟩:=j0_ok p h1 (by omega)
   refine ⟨r,fun k hk=>?_,r1.more (by omega),r2,⟨r3.c,r3.tw,r3.r1,r3.c1,r3.r2,r3.c2⟩,.inl r4⟩
   unfold aq.j5
   rw [if_neg c]
   exact hr k (by omega)
 obtain ⟨r,hr,hr'⟩:=hj (if decide (s.c.Mode=0)=true then false else (!(decide (p.1=s.line))))
 refine ⟨r,fun k hk=>?_,hr'⟩
 rw [←hr k hk]
 unfold aq.f
 rw [hm1,bsome,hm2,bsome,hp,bsome,twice_eq,bsome]
 split<;>rfl
def cs (x:aM):aM:={x with Twins:=0}
structure Cm (s r:aa):Prop where
 c:r.c=s.c
 r1:r.sides.1.reader=s.sides.1.reader
 m1:r.sides.1.monitor=s.sides.1.monitor
 g1:r.sides.1.ring=s.sides.1.ring
 c1:cs r.sides.1.counts=cs s.sides.1.counts
 r2:r.sides.2.reader=s.sides.2.reader
 m2:r.sides.2.monitor=s.sides.2.monitor
 g2:r.sides.2.ring=s.sides.2.ring
 c2:cs r.sides.2.counts=cs s.sides.2.counts
theorem Cm.rfl (s:aa):Cm s s:=by constructor<;>exact Eq.refl _
theorem kread_ok (b:List Int):∃r,cF.f b=some r:=by
 have j0:∀x,∃r,cF.j0 b x=some r:=by intro x;unfold cF.j0;split<;>exact ⟨_,Eq.refl _⟩
 unfold cF.f
 split
 ·exact ⟨_,Eq.refl _⟩
 ·rw [if_pos (by omega)]
  split
  ·exact j0 _
  ·rw [if_pos (by omega)]
   repeat' split
   all_goals exact j0 _
theorem came_ok {s:aa} {C:Nat} {S:Int} (h:SI s C S) (hC:C+30000≤big) {l:Int} (hl:l=0∨l=1) {b:List Int} (hb:By b) (h0:1≤b.length) (h9:b.length≤1101):
  ∃r,(∀k,C+30000≤k→aB.f k s l b=some r)∧SI r (C+13000) S∧Cm s r∧(r.arq=s.arq∨r.arq=Aq.input s.arq (b.drop 5)):=by
 have h':=h.more (D:=C+13000) (by omega)
 have same:∃r,(∀k,C+30000≤k→(some s:Option aa)=some r)∧SI r (C+13000) S∧Cm s r∧(r.arq=s.arq∨r.arq=Aq.input s.arq (b.drop 5)):=⟨s,fun _ _=>Eq.refl _,h',Cm.rfl s,.inl (Eq.refl _)⟩
 have cut_ok:∀n:Int,0≤n→n≤b.length→cut b n (b.length:Int)=b.drop n.toNat:=fun n q _=>Aq.cut_drop b q
 have j1:∀x,∃r,(∀k,C+30000≤k→aB.j1 s b x=some r)∧SI r (C+13000) S∧Cm s r∧(r.arq=s.arq∨r.arq=Aq.input s.arq (b.drop 5)):=by
  intro x
  unfold aB.j1
  split
  ·rw [if_pos ⟨by omega,by omega,by omega⟩]
   obtain ⟨q,hq⟩:=kread_ok (cut b 1 (b.length:Int))
   rw [hq,bsome]
   split
   ·unfold dI.f cb.f cb.j0
    have fin:∀q:Int,∃r,(∀k,C+30000≤k→some ({s with aps:={s.aps with remote:=q} }:aa)=some r)∧SI r (C+13000) S∧Cm s r∧(r.arq=s.arq∨r.arq=Aq.input s.arq (b.drop 5)):=
     fun q=>⟨_,fun _ _=>Eq.refl _,{h' with},by constructor<;>exact Eq.refl _,.inl (Eq.refl _)⟩
    repeat' split
    all_goals first|(rw [if_pos (Eq.refl _)];exact fin _)|exact fin _
   ·exact same
  ·exact same
 have j2:∀x,aB.j2 s b x=aB.j1 s b x:=fun x=>Eq.refl _
 have j0:∀x,5≤b.length→∃r,(∀k,C+30000≤k→aB.j0 k s l b x=some r)∧SI r (C+13000) S∧Cm s r∧(r.arq=s.arq∨r.arq=Aq.input s.arq (b.drop 5)):=by
  intro x h5
  by_cases c:x=true
  ·obtain ⟨r,hr,hr'⟩:=same
   refine ⟨r,fun k hk=>?_,hr'⟩
   unfold aB.j0
   rw [if_pos c];exact hr k hk
  ·have key:∀n:Int,∃t:Bool × aK,(∀k,5000≤k→bb.f k s.twins n=some t)∧Mo.TI t.2:=fun n=>Mo.fresh_ok h.tw n
   obtain ⟨t,ht,hT⟩:=key (ior .u32 (ior .u32 (ior .u32 (IntKind.u32.wrap ((IntKind.u32.wrap (b.getD (1:Int).toNat 0))*2^(min (24:Int).toNat IntKind.u32.bits))) (IntKind.u32.wrap ((IntKind.u32.wrap (b.getD (2:Int).toNat 0))*2^(min (16:Int).toNat IntKind.u32.bits)))) (IntKind.u32.wrap ((IntKind.u32.wrap (b.getD (3:Int).toNat 0))*2^(min (8:Int).toNat IntKind.u32.bits)))) (IntKind.u32.wrap (b.getD (4:Int).toNat 0)))
   have hd:By (b.drop 5):=fun z hz=>hb z (List.mem_of_mem_drop hz)
   have ec:cut b 5 (b.length:Int)=b.drop 5:=cut_ok 5 (by omega) (by omega)
   by_cases c2:t.1=true
   ·refine ⟨{s with arq:=Aq.input s.arq (b.drop 5),twins:=t.2},fun k hk=>?_,{h' with arq:=Aq.input_ai h.arq hd,bo:=Bo.input h.arq h.bo hd,tw:=hT},by constructor<;>exact Eq.refl _,.inr (Eq.refl _)⟩
    unfold aB.j0
    rw [if_neg c,if_pos (by omega),if_pos (by omega),if_pos (by omega),if_pos (by omega),ht k (by omega),bsome,if_pos c2,if_pos (by omega),ec,Aq.input_eq h.arq (by omega) hd (by rw [List.length_drop];omega) (by omega),bsome]
   ·by_cases c3:l=0
    ·refine ⟨{s with twins:=t.2,sides:=({s.sides.1 with counts:={s.sides.1.counts with Twins:=aV.f s.sides.1.counts.Twins} },s.sides.2)},fun k hk=>?_,{h' with tw:=hT,one:={h.one with} },by constructor<;>exact Eq.refl _,.inl (Eq.refl _)⟩
     unfold aB.j0
     rw [if_neg c,if_pos (by omega),if_pos (by omega),if_pos (by omega),if_pos (by omega),ht k (by omega),bsome,if_neg c2,if_pos (by omega),if_pos c3]
    ·refine ⟨{s with twins:=t.2,sides:=(s.sides.1,{s.sides.2 with counts:={s.sides.2.counts with Twins:=aV.f s.sides.2.counts.Twins} })},fun k hk=>?_,{h' with tw:=hT,two:={h.two with} },by constructor<;>exact Eq.refl _,.inl (Eq.refl _)⟩
     unfold aB.j0
     rw [if_neg c,if_pos (by omega),if_pos (by omega),if_pos (by omega),if_pos (by omega),ht k (by omega),bsome,if_neg c2,if_pos (by omega),if_neg c3]
 have head:∀k,aB.f k s l b=if b.getD (0:Int).toNat 0=0∧5≤b.length then aB.j0 k s l b (if decide (s.c.Mode=0)=true then false else !(decide (l=s.aps.line))) else aB.j1 s b (if b.getD (0:Int).toNat 0=1 then decide (l=1) else false):=by
  intro k
  unfold aB.f
  rw [if_pos (by omega)]
  by_cases c1:b.getD (0:Int).toNat 0=0
  ·rw [if_pos c1]
   by_cases c2:5≤b.length
   ·rw [if_pos (by omega),if_pos ⟨c1,c2⟩,twice_eq,bsome]
    unfold db.f
    rw [bsome]
    split<;>rfl
   ·rw [if_neg (show ¬(b.length:Int)≥5 by omega),if_neg (show ¬b.getD (0:Int).toNat 0=1 by omega),if_neg (fun q:_∧5≤b.length=>c2 q.2),if_neg (show ¬b.getD (0:Int).toNat 0=1 by omega)]
  ·rw [if_neg c1,if_neg (fun q:b.getD (0:Int).toNat 0=0∧_=>c1 q.1)]
   by_cases c3:b.getD (0:Int).toNat 0=1
   ·rw [if_pos c3,if_pos c3,j2]
   ·rw [if_neg c3,if_neg c3,j2]
 by_cases c:b.getD (0:Int).toNat 0=0∧5≤b.length
 ·obtain ⟨r,hr,hr'⟩:=j0 (if decide (s.c.Mode=0)=true then false else !(decide (l=s.aps.line))) c.2
  exact ⟨r,fun k hk=>by rw [head,if_pos c];exact hr k hk,hr'⟩
 ·obtain ⟨r,hr,hr'⟩:=j1 (if b.getD (0:Int).toNat 0=1 then decide (l=1) else false)
  exact ⟨r,fun k hk=>by rw [head,if_neg c];exact hr k hk,hr'⟩
def tick (x:Int) (c:aM):aM:=
 if x=1 then {c with Good:=aV.f c.Good} else if x=2 then {c with Runts:=aV.f c.Runts} else if x=4 then {c with Bad:=aV.f c.Bad}
 else if x=3 then {c with Giants:=aV.f c.Giants} else if x=5 then {c with Aborts:=aV.f c.Aborts} else c
theorem push0 {s:aa} {C:Nat} {S:Int} (h:SI s C S) (hC:C+30000≤big) {c:Int} (hc:0≤c∧c<256):
  ∃t:Int × List Int × aa,(∀k,C+100000≤k→aX.f k s 0 c=some t)∧SI t.2.2 (C+13000) S∧(0≤t.1∧t.1≤5)∧cs t.2.2.sides.1.counts=cs (tick t.1 s.sides.1.counts)∧cs t.2.2.sides.2.counts=cs s.sides.2.counts∧t.2.2.c=s.c∧t.2.2.sides.1.ring=s.sides.1.ring∧t.2.2.sides.2.ring=s.sides.2.ring∧(t.2.2.arq=s.arq∨∃b,t.2.2.arq=Aq.input s.arq b∧By b):=by
 obtain ⟨x,hx,x1,x2,x3,x4,x5,x6,x7⟩:=Fr.push_ok h.one.reader hc
 have h':=h.more (D:=C+13000) (by omega)
 have hm:=h.one.short
 have sh:x.2.2.most≤1100:=by omega
 have hf:cK.f 0=some true:=Eq.refl _
 obtain ⟨mT,hmT,iT⟩:=Mo.mnote_ok h.one.mon true
 obtain ⟨mF,hmF,iF⟩:=Mo.mnote_ok h.one.mon false
 have head:∀k,70000≤k→aX.f k s 0 c=(if x.1=1 then ((aE.f s.sides.1.monitor true).bind fun t12=>(aB.f k {s with sides:=({s.sides.1 with reader:=x.2.2,monitor:=t12.2,counts:={s.sides.1.counts with Good:=aV.f s.sides.1.counts.Good} },s.sides.2)} 0 x.2.1).bind fun t14=>some (x.1,x.2.1,t14)) else if x.1=2 then some (x.1,x.2.1,{s with sides:=({s.sides.1 with reader:=x.2.2,counts:={s.sides.1.counts with Runts:=aV.f s.sides.1.counts.Runts} },s.sides.2)})
   else if x.1=4 then ((aE.f s.sides.1.monitor false).bind fun t18=>some (x.1,x.2.1,{s with sides:=({s.sides.1 with reader:=x.2.2,monitor:=t18.2,counts:={s.sides.1.counts with Bad:=aV.f s.sides.1.counts.Bad} },s.sides.2)})) else if x.1=3 then ((aE.f s.sides.1.monitor false).bind fun t18=>some (x.1,x.2.1,{s with sides:=({s.sides.1 with reader:=x.2.2,monitor:=t18.2,counts:={s.sides.1.counts with Giants:=aV.f s.sides.1.counts.Giants} },s.sides.2)}))
   else if x.1=5 then ((aE.f s.sides.1.monitor false).bind fun t18=>some (x.1,x.2.1,{s with sides:=({s.sides.1 with reader:=x.2.2,monitor:=t18.2,counts:={s.sides.1.counts with Aborts:=aV.f s.sides.1.counts.Aborts} },s.sides.2)})) else some (x.1,x.2.1,{s with sides:=({s.sides.1 with reader:=x.2.2},s.sides.2)})):=by
  intro k hk
  unfold aX.f
  rw [hf,bsome,if_pos (Eq.refl _),if_pos (by decide),if_pos (Eq.refl _),hx k hk,bsome]
 have hring:∀t:aa,t.sides.1.ring=s.sides.1.ring→True:=fun _ _=>trivial
 by_cases c1:x.1=1
 ·obtain ⟨r,hr,r1,r2,r3⟩:=came_ok (s:={s with sides:=({s.sides.1 with reader:=x.2.2,monitor:=mT.2,counts:={s.sides.1.counts with Good:=aV.f s.sides.1.counts.Good} },s.sides.2)}) (C:=C) (S:=S) {h with one:={h.one with reader:=x1,short:=sh,mon:=iT} } hC (l:=0) (by decide) x5 (x6 c1) (by omega)
  refine ⟨(x.1,x.2.1,r),fun k hk=>?_,r1,x4,r2.c1.trans ?_,r2.c2,r2.c,r2.g1,r2.g2,r3.imp id fun q=>⟨_,q,fun z hz=>x5 z (List.mem_of_mem_drop hz)⟩⟩
  ·rw [head k (by omega),if_pos c1,hmT,bsome,hr k (by omega),bsome]
  ·dsimp only;unfold tick;rw [if_pos c1]
 by_cases c2:x.1=2
 ·refine ⟨(x.1,x.2.1,{s with sides:=({s.sides.1 with reader:=x.2.2,counts:={s.sides.1.counts with Runts:=aV.f s.sides.1.counts.Runts} },s.sides.2)}),fun k hk=>by rw [head k (by omega),if_neg c1,if_pos c2],{h' with one:={h'.one with reader:=x1,short:=sh} },x4,?_,Eq.refl _,Eq.refl _,Eq.refl _,Eq.refl _,.inl (Eq.refl _)⟩
  dsimp only;unfold tick;rw [if_neg c1,if_pos c2]
 by_cases c4:x.1=4
 ·refine ⟨(x.1,x.2.1,{s with sides:=({s.sides.1 with reader:=x.2.2,monitor:=mF.2,counts:={s.sides.1.counts with Bad:=aV.f s.sides.1.counts.Bad} },s.sides.2)}),fun k hk=>by rw [head k (by omega),if_neg c1,if_neg c2,if_pos c4,hmF,bsome],{h' with one:={h'.one with reader:=x1,short:=sh,mon:=iF} },x4,?_,Eq.refl _,Eq.refl _,Eq.refl _,Eq.refl _,.inl (Eq.refl _)⟩
  dsimp only;unfold tick;rw [if_neg c1,if_neg c2,if_pos c4]
 by_cases c3:x.1=3
 ·refine ⟨(x.1,x.2.1,{s with sides:=({s.sides.1 with reader:=x.2.2,monitor:=mF.2,counts:={s.sides.1.counts with Giants:=aV.f s.sides.1.counts.Giants} },s.sides.2)}),fun k hk=>by rw [head k (by omega),if_neg c1,if_neg c2,if_neg c4,if_pos c3,hmF,bsome],{h' with one:={h'.one with reader:=x1,short:=sh,mon:=iF} },x4,?_,Eq.refl _,Eq.refl _,Eq.refl _,Eq.refl _,.inl (Eq.refl _)⟩
  dsimp only;unfold tick;rw [if_neg c1,if_neg c2,if_neg c4,if_pos c3]
 by_cases c5:x.1=5
 ·refine ⟨(x.1,x.2.1,{s with sides:=({s.sides.1 with reader:=x.2.2,monitor:=mF.2,counts:={s.sides.1.counts with Aborts:=aV.f s.sides.1.counts.Aborts} },s.sides.2)}),fun k hk=>by rw [head k (by omega),if_neg c1,if_neg c2,if_neg c4,if_neg c3,if_pos c5,hmF,bsome],{h' with one:={h'.one with reader:=x1,short:=sh,mon:=iF} },x4,?_,Eq.refl _,Eq.refl _,Eq.refl _,Eq.refl _,.inl (Eq.refl _)⟩
  dsimp only;unfold tick;rw [if_neg c1,if_neg c2,if_neg c4,if_neg c3,if_pos c5]
 ·refine ⟨(x.1,x.2.1,{s with sides:=({s.sides.1 with reader:=x.2.2},s.sides.2)}),fun k hk=>by rw [head k (by omega),if_neg c1,if_neg c2,if_neg c4,if_neg c3,if_neg c5],{h' with one:={h'.one with reader:=x1,short:=sh} },x4,?_,Eq.refl _,Eq.refl _,Eq.refl _,Eq.refl _,.inl (Eq.refl _)⟩
  dsimp only;unfold tick;rw [if_neg c1,if_neg c2,if_neg c4,if_neg c3,if_neg c5]
theorem push1 {s:aa} {C:Nat} {S:Int} (h:SI s C S) (hC:C+30000≤big) {c:Int} (hc:0≤c∧c<256):
  ∃t:Int × List Int × aa,(∀k,C+100000≤k→aX.f k s 1 c=some t)∧SI t.2.2 (C+13000) S∧(0≤t.1∧t.1≤5)∧cs t.2.2.sides.2.counts=cs (tick t.1 s.sides.2.counts)∧cs t.2.2.sides.1.counts=cs s.sides.1.counts∧t.2.2.c=s.c∧t.2.2.sides.1.ring=s.sides.1.ring∧t.2.2.sides.2.ring=s.sides.2.ring∧(t.2.2.arq=s.arq∨∃b,t.2.2.arq=Aq.input s.arq b∧By b):=by
 obtain ⟨x,hx,x1,x2,x3,x4,x5,x6,x7⟩:=Fr.push_ok h.two.reader hc
 have h':=h.more (D:=C+13000) (by omega)
 have hm:=h.two.short
 have sh:x.2.2.most≤1100:=by omega
 have hf:cK.f 1=some true:=Eq.refl _
 obtain ⟨mT,hmT,iT⟩:=Mo.mnote_ok h.two.mon true
 obtain ⟨mF,hmF,iF⟩:=Mo.mnote_ok h.two.mon false
 have head:∀k,70000≤k→aX.f k s 1 c=(if x.1=1 then ((aE.f s.sides.2.monitor true).bind fun t12=>(aB.f k {s with sides:=(s.sides.1,{s.sides.2 with reader:=x.2.2,monitor:=t12.2,counts:={s.sides.2.counts with Good:=aV.f s.sides.2.counts.Good} })} 1 x.2.1).bind fun t14=>some (x.1,x.2.1,t14)) else if x.1=2 then some (x.1,x.2.1,{s with sides:=(s.sides.1,{s.sides.2 with reader:=x.2.2,counts:={s.sides.2.counts with Runts:=aV.f s.sides.2.counts.Runts} })})
   else if x.1=4 then ((aE.f s.sides.2.monitor false).bind fun t18=>some (x.1,x.2.1,{s with sides:=(s.sides.1,{s.sides.2 with reader:=x.2.2,monitor:=t18.2,counts:={s.sides.2.counts with Bad:=aV.f s.sides.2.counts.Bad} })})) else if x.1=3 then ((aE.f s.sides.2.monitor false).bind fun t18=>some (x.1,x.2.1,{s with sides:=(s.sides.1,{s.sides.2 with reader:=x.2.2,monitor:=t18.2,counts:={s.sides.2.counts with Giants:=aV.f s.sides.2.counts.Giants} })}))
   else if x.1=5 then ((aE.f s.sides.2.monitor false).bind fun t18=>some (x.1,x.2.1,{s with sides:=(s.sides.1,{s.sides.2 with reader:=x.2.2,monitor:=t18.2,counts:={s.sides.2.counts with Aborts:=aV.f s.sides.2.counts.Aborts} })})) else some (x.1,x.2.1,{s with sides:=(s.sides.1,{s.sides.2 with reader:=x.2.2})})):=by
  intro k hk
  unfold aX.f
  rw [hf,bsome,if_pos (Eq.refl _),if_pos (by decide),if_neg (by decide),hx k hk,bsome]
 have hring:∀t:aa,t.sides.1.ring=s.sides.1.ring→True:=fun _ _=>trivial
 by_cases c1:x.1=1
 ·obtain ⟨r,hr,r1,r2,r3⟩:=came_ok (s:={s with sides:=(s.sides.1,{s.sides.2 with reader:=x.2.2,monitor:=mT.2,counts:={s.sides.2.counts with Good:=aV.f s.sides.2.counts.Good} })}) (C:=C) (S:=S) {h with two:={h.two with reader:=x1,short:=sh,mon:=iT} } hC (l:=1) (by decide) x5 (x6 c1) (by omega)
  refine ⟨(x.1,x.2.1,r),fun k hk=>?_,r1,x4,r2.c2.trans ?_,r2.c1,r2.c,r2.g1,r2.g2,r3.imp id fun q=>⟨_,q,fun z hz=>x5 z (List.mem_of_mem_drop hz)⟩⟩
  ·rw [head k (by omega),if_pos c1,hmT,bsome,hr k (by omega),bsome]
  ·dsimp only;unfold tick;rw [if_pos c1]
 by_cases c2:x.1=2
 ·refine ⟨(x.1,x.2.1,{s with sides:=(s.sides.1,{s.sides.2 with reader:=x.2.2,counts:={s.sides.2.counts with Runts:=aV.f s.sides.2.counts.Runts} })}),fun k hk=>by rw [head k (by omega),if_neg c1,if_pos c2],{h' with two:={h'.two with reader:=x1,short:=sh} },x4,?_,Eq.refl _,Eq.refl _,Eq.refl _,Eq.refl _,.inl (Eq.refl _)⟩
  dsimp only;unfold tick;rw [if_neg c1,if_pos c2]
 by_cases c4:x.1=4
 ·refine ⟨(x.1,x.2.1,{s with sides:=(s.sides.1,{s.sides.2 with reader:=x.2.2,monitor:=mF.2,counts:={s.sides.2.counts with Bad:=aV.f s.sides.2.counts.Bad} })}),fun k hk=>by rw [head k (by omega),if_neg c1,if_neg c2,if_pos c4,hmF,bsome],{h' with two:={h'.two with reader:=x1,short:=sh,mon:=iF} },x4,?_,Eq.refl _,Eq.refl _,Eq.refl _,Eq.refl _,.inl (Eq.refl _)⟩
  dsimp only;unfold tick;rw [if_neg c1,if_neg c2,if_pos c4]
 by_cases c3:x.1=3
 ·refine ⟨(x.1,x.2.1,{s with sides:=(s.sides.1,{s.sides.2 with reader:=x.2.2,monitor:=mF.2,counts:={s.sides.2.counts with Giants:=aV.f s.sides.2.counts.Giants} })}),fun k hk=>by rw [head k (by omega),if_neg c1,if_neg c2,if_neg c4,if_pos c3,hmF,bsome],{h' with two:={h'.two with reader:=x1,short:=sh,mon:=iF} },x4,?_,Eq.refl _,Eq.refl _,Eq.refl _,Eq.refl _,.inl (Eq.refl _)⟩
  dsimp only;unfold tick;rw [if_neg c1,if_neg c2,if_neg c4,if_pos c3]
 by_cases c5:x.1=5
 ·refine ⟨(x.1,x.2.1,{s with sides:=(s.sides.1,{s.sides.2 with reader:=x.2.2,monitor:=mF.2,counts:={s.sides.2.counts with Aborts:=aV.f s.sides.2.counts.Aborts} })}),fun k hk=>by rw [head k (by omega),if_neg c1,if_neg c2,if_neg c4,if_neg c3,if_pos c5,hmF,bsome],{h' with two:={h'.two with reader:=x1,short:=sh,mon:=iF} },x4,?_,Eq.refl _,Eq.refl _,Eq.refl _,Eq.refl _,.inl (Eq.refl _)⟩
  dsimp only;unfold tick;rw [if_neg c1,if_neg c2,if_neg c4,if_neg c3,if_pos c5]
 ·refine ⟨(x.1,x.2.1,{s with sides:=(s.sides.1,{s.sides.2 with reader:=x.2.2})}),fun k hk=>by rw [head k (by omega),if_neg c1,if_neg c2,if_neg c4,if_neg c3,if_neg c5],{h' with two:={h'.two with reader:=x1,short:=sh} },x4,?_,Eq.refl _,Eq.refl _,Eq.refl _,Eq.refl _,.inl (Eq.refl _)⟩
  dsimp only;unfold tick;rw [if_neg c1,if_neg c2,if_neg c4,if_neg c3,if_neg c5]
theorem status_eq (s:aa):bj.f s=some {State:=s.arq.state,Line:=if s.c.Mode=0 then 0 else s.aps.line,Lines:=(s.sides.1.monitor.state,s.sides.2.monitor.state),Sent:=s.arq.sent,Acked:=s.arq.acked,Lost:=s.arq.lost}:=by
 unfold bj.f bj.j0 bj.j1 eQ.f db.f eW.f cX.f
 rw [bsome,bsome,twice_eq,bsome]
 by_cases c:s.c.Mode=0
 ·rw [decide_eq_true c,if_pos (Eq.refl _),if_pos c];rfl
 ·rw [decide_eq_false c,if_neg (by simp),if_neg c];rfl
theorem counts0 (s:aa):bk.f s 0=some {s.sides.1.counts with Dropped:=s.sides.1.ring.dropped}:=Eq.refl _
theorem counts1 (s:aa):bk.f s 1=some {s.sides.2.counts with Dropped:=s.sides.2.ring.dropped}:=Eq.refl _
end St
namespace St
open Fr (By)
open Aq (AI big)
open Bo (BO)
def wn (n l h:Int):Bool:=decide (l≤n)&&decide (n≤h)
theorem within_eq (n l h:Int):bx.f n l h=some (wn n l h):=by
 unfold bx.f wn
 by_cases c:n≥l
 ·rw [if_pos c,decide_eq_true (show l≤n from c)];rfl
 ·rw [if_neg c,decide_eq_false (show ¬l≤n from c)];rfl
def mostR (c:aw):Int:=w64 ((w64 (2*(w64 ((imax (1) (imin c.Size (1000)))+16))))+2)
def okB (c:aw):Bool:=
 ((c.Mode==0||c.Mode==1)&&(c.Modulus==128||c.Modulus==32768))&&
 (wn c.T1 1 1048576&&wn c.N2 1 100&&wn c.Hold 0 1048576&&wn c.Wait 1 1048576&&wn c.Keep 1 65536)&&
 (wn c.Window 1 (w64 (c.Modulus.tdiv 8))&&wn c.Queue 0 1000&&wn c.Size 1 1000&&wn c.Rate 1 4096&&wn c.Ring (mostR c) 1048576)&&
 (wn c.Bad 1 16&&wn c.Good 1 16)&&decide (w64 (c.Keep*c.Rate)≥32)
theorem check_eq (c:aw):ba.f c=some (if okB c=true then 0 else 1):=by
 have h4:∀x,ba.j4 x=some (if x=true then 0 else 1):=by intro x;unfold ba.j4;cases x<;>rfl
 have h3:∀a b d e,ba.j3 c a b d e=some (if (a&&b&&d&&e&&decide (w64 (c.Keep*c.Rate)≥32))=true then 0 else 1):=by
  intro a b d e;unfold ba.j3;simp only [h4];cases a<;>cases b<;>cases d<;>cases e<;>rfl
 have h2:∀a b d,ba.j2 c a b d=some (if (a&&b&&d&&(wn c.Bad 1 16&&wn c.Good 1 16)&&decide (w64 (c.Keep*c.Rate)≥32))=true then 0 else 1):=by
  intro a b d;unfold ba.j2;simp only [within_eq,h3,bsome];cases wn c.Bad 1 16<;>cases wn c.Good 1 16<;>rfl
 have h1:∀a b,ba.j1 c a b=some (if (a&&b&&(wn c.Window 1 (w64 (c.Modulus.tdiv 8))&&wn c.Queue 0 1000&&wn c.Size 1 1000&&wn c.Rate 1 4096&&wn c.Ring (mostR c) 1048576)&&(wn c.Bad 1 16&&wn c.Good 1 16)&&decide (w64 (c.Keep*c.Rate)≥32))=true then 0 else 1):=by
  intro a b;unfold ba.j1 fk.f;simp only [within_eq,h2,bsome]
  cases wn c.Window 1 (w64 (c.Modulus.tdiv 8))<;>cases wn c.Queue 0 1000<;>cases wn c.Size 1 1000<;>cases wn c.Rate 1 4096<;>rfl
 have h0:∀a,ba.j0 c a=some (if (a&&(wn c.T1 1 1048576&&wn c.N2 1 100&&wn c.Hold 0 1048576&&wn c.Wait 1 1048576&&wn c.Keep 1 65536)&&(wn c.Window 1 (w64 (c.Modulus.tdiv 8))&&wn c.Queue 0 1000&&wn c.Size 1 1000&&wn c.Rate 1 4096&&wn c.Ring (mostR c) 1048576)&&(wn c.Bad 1 16&&wn c.Good 1 16)&&decide (w64 (c.Keep*c.Rate)≥32))=true then 0 else 1):=by
  intro a;unfold ba.j0;simp only [within_eq,h1,bsome]
  cases wn c.T1 1 1048576<;>cases wn c.N2 1 100<;>cases wn c.Hold 0 1048576<;>cases wn c.Wait 1 1048576<;>rfl
 unfold ba.f okB
 simp only [h0]
 by_cases m0:c.Mode=0
 ·by_cases m1:c.Modulus=128<;>simp [m0,m1]
 ·by_cases m2:c.Mode=1
  ·by_cases m1:c.Modulus=128<;>simp [m2,m1]
  ·simp [m0,m2]
structure Ok (c:aw):Prop where
 mode:c.Mode=0∨c.Mode=1
 mod:c.Modulus=128∨c.Modulus=32768
 t1:1≤c.T1∧c.T1≤1048576
 n2:1≤c.N2∧c.N2≤100
 hold:0≤c.Hold∧c.Hold≤1048576
 wait:1≤c.Wait∧c.Wait≤1048576
 keep:1≤c.Keep∧c.Keep≤65536
 win:1≤c.Window∧c.Window≤w64 (c.Modulus.tdiv 8)
 que:0≤c.Queue∧c.Queue≤1000
 size:1≤c.Size∧c.Size≤1000
 rate:1≤c.Rate∧c.Rate≤4096
 ring:mostR c≤c.Ring∧c.Ring≤1048576
 bad:1≤c.Bad∧c.Bad≤16
 good:1≤c.Good∧c.Good≤16
theorem ok_of {c:aw} (h:okB c=true):Ok c:=by
 unfold okB wn at h
 simp only [Bool.and_eq_true,Bool.or_eq_true,beq_iff_eq,decide_eq_true_eq] at h
 obtain ⟨⟨⟨⟨⟨m1,m2⟩,⟨⟨⟨a1,a2⟩,a3⟩,a4⟩,a5⟩,⟨⟨⟨b1,b2⟩,b3⟩,b4⟩,b5⟩,c1,c2⟩,_⟩:=h
 exact ⟨m1,m2,a1,a2,a3,a4,a5,b1,b2,b3,b4,b5,c1,c2⟩
def cnt0:aM:={Good:=0,Bad:=0,Aborts:=0,Runts:=0,Giants:=0,Dropped:=0,Twins:=0}
theorem clampI {n a b:Int} (h:a≤n∧n≤b):imax a (imin n b)=n:=by unfold imax imin;(repeat' split)<;>omega
theorem new_ok {c:aw} (h:okB c=true):∃s:aa,(∀k,1000≤k→dk.f k c=some (some s,0))∧SI s 0 0∧s.c=c∧s.sides.1.counts=cnt0∧s.sides.2.counts=cnt0∧s.sides.1.ring.b=[]∧s.sides.2.ring.b=[]∧
  s.arq=Aq.anew c.Modulus c.T1 c.N2 c.Size c.Window c.Queue:=by
 have o:=ok_of h
 have hz:=o.size
 obtain ⟨t,ht,hT⟩:=Mo.tnew_ok (imin (w64 (c.Modulus.tdiv (2))) (1024))
 have e11:w64 (c.Size+11)=c.Size+11:=w64_in ⟨by omega,by omega⟩
 obtain ⟨f,hf,hF,hM⟩:=Fr.new_ok (c.Size+11) c.Wide (by omega)
 obtain ⟨m,hm,hMI⟩:=Mo.mnew_ok c.Bad c.Good (w64 (3*c.Keep))
 obtain ⟨g,hg,hG,hG0⟩:=Mo.gnew_ok c.Ring
 have hmod:(if c.Modulus=32768 then 32768 else 128:Int)=c.Modulus:=by have:=o.mod;split<;>omega
 have hwin:c.Window≤c.Modulus/8:=by
  have:=o.win
  rcases o.mod with e|e<;>rw [e] at this ⊢<;>exact this.2
 have ha:eB.f c=some (Aq.anew c.Modulus c.T1 c.N2 c.Size c.Window c.Queue):=by
  rw [Aq.new_eq,hmod,clampI o.t1,clampI o.n2,clampI o.size,clampI o.que,clampI ⟨o.win.1,hwin⟩]
 refine ⟨{c:=c,arq:=Aq.anew c.Modulus c.T1 c.N2 c.Size c.Window c.Queue,aps:={hold:=imax (0) (imin c.Hold (1048576)),wait:=imax (1) (imin c.Wait (1048576)),revert:=c.Revert,command:=0,remote:=0,own:=0,bad:=0,left:=0,line:=0},twins:=t,number:=0,steps:=0,line:=0,sides:=({reader:=f,monitor:=m,ring:=g,counts:=cnt0},{reader:=f,monitor:=m,ring:=g,counts:=cnt0})},fun k hk=>?_,?_,Eq.refl _,Eq.refl _,Eq.refl _,hG0,hG0,Eq.refl _⟩
 ·unfold dk.f fq.f
  rw [check_eq,if_pos h,bsome,if_pos (Eq.refl _),ha,bsome,bsome,ht,bsome,e11,hf k (by omega),bsome,hm,bsome,hg,bsome,bsome,bsome,bsome]
  rfl
 ·have hr:f.most≤1100:=by have:=hM (by omega);omega
  exact ⟨o.keep,Aq.anew_ai o.mod o.t1 o.n2 o.size ⟨o.win.1,hwin⟩ o.que,Bo.new _ _ _ _ _ _,hT,by dsimp only;omega,by dsimp only;omega,⟨hF,hr,hMI,hG⟩,⟨hF,hr,hMI,hG⟩⟩
end St
namespace Fl
open Fr (By sz)
def esc (c:Int):Bool:=decide (c=126∨c=125)
def stf:List Int→List Int
 |[]=>[]
 |c::l=>(if esc c=true then [125,ixor .u8 c 32] else [c])++stf l
theorem stf_len:∀l:List Int,(stf l).length≤2*l.length
 |[]=>Nat.le_refl _
 |c::l=>by
  have:=stf_len l
  show ((if esc c=true then [125,ixor .u8 c 32] else [c])++stf l).length≤2*(l.length+1)
  rw [List.length_append]
  split
  ·show 2+_≤_;omega
  ·show 1+_≤_;omega
theorem stuff_eq (b:List Int) (hb:b.length≤1000000):∀(d i:Nat) (o:List Int),i+d=b.length→o.length≤2*i→∀k,d+1≤k→bc.l0 k b (i:Int) o=some (o++stf (b.drop i))
 |0,i,o,h,ho,k,hk=>by
  obtain ⟨k,rfl⟩:∃j,k=j+1:=⟨k-1,by omega⟩
  rw [bc.l0,if_neg (by omega),List.drop_of_length_le (by omega)]
  show some o=some (o++[])
  rw [List.append_nil]
 |d+1,i,o,h,ho,k,hk=>by
  obtain ⟨k,rfl⟩:∃j,k=j+1:=⟨k-1,by omega⟩
  have ew:w64 ((i:Int)+1)=((i+1:Nat):Int):=by rw [w64_in ⟨by omega,by omega⟩];omega
  have hlt:i<b.length:=by omega
  have e:b.getD ((i:Int)).toNat 0=b[i]:=by simp [List.getD,hlt]
  have key:bc.l0 (k+1) b (i:Int) o=bc.j2 b (i:Int) o (bc.l0 k b) (esc b[i]):=by
   rw [bc.l0,if_pos (by omega),if_pos (by omega),e]
   unfold esc
   by_cases c:b[i]=126
   ·rw [if_pos c,decide_eq_true (Or.inl c)]
   ·rw [if_neg c,show decide (b[i]=126∨b[i]=125)=decide (b[i]=125) from decide_eq_decide.2 ⟨fun h=>h.resolve_left c,.inr⟩]
  rw [key,List.drop_eq_getElem_cons hlt]
  unfold bc.j2 bc.j1
  by_cases c:esc b[i]=true
  ·rw [if_pos c,if_pos (by simp only [List.length_cons,List.length_nil];omega),if_pos (by simp only [List.length_cons,List.length_nil,List.length_append];omega),ew,e,stuff_eq b hb d (i+1) (o++[125]++[ixor .u8 b[i] 32]) (by omega) (by simp;omega) k (by omega)]
   show some _=some (o++((if esc b[i]=true then [125,ixor .u8 b[i] 32] else [b[i]])++stf _))
   rw [if_pos c,List.append_assoc,List.append_assoc];rfl
  ·rw [if_neg c,if_pos (by simp only [List.length_cons,List.length_nil];omega),ew,e,stuff_eq b hb d (i+1) (o++[b[i]]) (by omega) (by simp;omega) k (by omega)]
   show some _=some (o++((if esc b[i]=true then [125,ixor .u8 b[i] 32] else [b[i]])++stf _))
   rw [if_neg c,List.append_assoc]
def sm (b:List Int) (w:Bool):List Int:=(cg.f 1000100 b w).getD []
theorem sm_eq {b:List Int} {w:Bool} (hb:b.length≤1000000):(∀k,b.length+20≤k→cg.f k b w=some (sm b w))∧(sm b w).length=sz w∧By (sm b w):=by
 obtain ⟨t,ht,h1,h2⟩:=Fr.tail_ok b w hb
 have e:sm b w=t:=by unfold sm;rw [ht _ (by omega)];rfl
 rw [e];exact ⟨ht,h1,h2⟩
def frm (b:List Int) (w:Bool):List Int:=[126]++(stf (b++sm b w)++[126])
theorem sz4 (w:Bool):sz w≤4:=by unfold sz;split<;>omega
theorem put_eq {b:List Int} {w:Bool} (hb:b.length≤10000):∀k,b.length+50≤k→eJ.f k b w=some (frm b w):=by
 intro k hk
 obtain ⟨h1,h2,h3⟩:=sm_eq (b:=b) (w:=w) (by omega)
 have h4:=sz4 w
 have h5:=stf_len (b++sm b w)
 rw [List.length_append] at h5
 unfold eJ.f fh.f
 rw [h1 k (by omega),bsome,Fr.concat2 (by omega) (by omega) (by omega),bsome,bsome]
 unfold bc.f
 have hs:=stuff_eq (b++sm b w) (by rw [List.length_append];omega) (b++sm b w).length 0 [] (by omega) (Nat.zero_le _) k (by rw [List.length_append];omega)
 have hs:bc.l0 k (b++sm b w) 0 []=some (stf (b++sm b w)):=hs
 rw [hs,bsome,Aq.concat_eq (by simp) (by omega) (by simp) (by omega),bsome]
 rfl
theorem equal_same:∀(a:List Int),a.length≤1000000→∀(d i k:Nat),i+d=a.length→d+1≤k→bf.l0 k a a (i:Int)=some true:=by
 intro a ha d
 induction d with
 |zero=>
  intro i k h hk
  obtain ⟨k,rfl⟩:∃j,k=j+1:=⟨k-1,by omega⟩
  rw [bf.l0,if_neg (by omega)]
 |succ d ih=>
  intro i k h hk
  obtain ⟨k,rfl⟩:∃j,k=j+1:=⟨k-1,by omega⟩
  have ew:w64 ((i:Int)+1)=((i+1:Nat):Int):=by rw [w64_in ⟨by omega,by omega⟩];omega
  rw [bf.l0,if_pos (by omega),if_pos (by omega),if_pos (by omega),if_pos rfl,ew]
  exact ih (i+1) k (by omega) (by omega)
theorem check_eq {b:List Int} {w:Bool} (hb:b.length≤10000):∀k,b.length+100≤k→eY.f k (b++sm b w) w=some (b,0):=by
 intro k hk
 obtain ⟨h1,h2,h3⟩:=sm_eq (b:=b) (w:=w) (by omega)
 obtain ⟨g1,g2,g3⟩:=sm_eq (b:=[]) (w:=w) (by simp)
 have h4:=sz4 w
 have hl:(b++sm b w).length=b.length+sz w:=by rw [List.length_append,h2]
 have c0:cut (b++sm b w) (0:Int) (b.length:Int)=b:=by rw [Fr.cut0,List.take_left'];rfl
 have c1:cut (b++sm b w) (b.length:Int) ((b++sm b w).length:Int)=sm b w:=by
  rw [hl]
  unfold cut
  have e1:((b.length+sz w:Nat):Int).toNat=b.length+sz w:=Int.toNat_natCast _
  have e2:((b.length:Int)).toNat=b.length:=Int.toNat_natCast _
  rw [e1,e2]
  rw [List.drop_left]
  exact List.take_of_length_le (by omega)
 unfold eY.f
 rw [g1 k (by simp;omega),bsome,g2,hl,show ((b.length+sz w:Nat):Int)-(sz w:Int)=(b.length:Int) by omega,w64_in ⟨by omega,by omega⟩,if_neg (by omega),if_pos ⟨by omega,by omega,by omega⟩,if_pos ⟨by omega,by omega,by omega⟩,c0,h1 k (by omega),bsome,←hl,c1]
 unfold bf.f
 rw [if_pos rfl,show (0:Int)=((0:Nat):Int) from rfl,equal_same (sm b w) (by omega) (sm b w).length 0 k (by omega) (by omega),bsome,if_pos rfl,Bl.clone_eq (by omega),bsome]
def Dec:az→List Int→List (List Int)→Prop
 |r,[],q=>q=[]∧(r.state=0∨r.state=1)∧r.b=[]
 |r,c::X,q=>∃(n:Int) (b:List Int) (r':az),(∀k,70000≤k→aQ.f k r c=some (n,b,r'))∧r'.wide=r.wide∧r'.most=r.most∧((n=0∧Dec r' X q)∨(n=1∧∃q',q=b::q'∧Dec r' X q'))
theorem push_plain {r:az} {c:Int} (hs:r.state=1∨r.state=2) (hl:(r.b.length:Int)+1≤r.most) (hm:r.most≤66000) (hc:esc c=false):∀k,aQ.f k r c=some (0,[],{r with state:=2,b:=r.b++[c]}):=by
 intro k
 have h1:¬(c=126∨c=125):=of_decide_eq_false hc
 unfold aQ.f aQ.j0 cM.f
 rw [if_neg (fun e=>h1 (.inl e)),if_neg (by omega),decide_eq_false (by omega),if_neg (by decide),if_neg (by omega),if_neg (fun e=>h1 (.inr e)),if_pos (by simp only [List.length_cons,List.length_nil];omega),if_neg (by rw [List.length_append];simp only [List.length_cons,List.length_nil];omega),bsome]
theorem push_esc {r:az} (hs:r.state=1∨r.state=2):∀k,aQ.f k r 125=some (0,[],{r with state:=3}):=by
 intro k
 unfold aQ.f aQ.j0
 rw [if_neg (by decide),if_neg (by omega),decide_eq_false (by omega),if_neg (by decide),if_neg (by omega),if_pos rfl]
theorem esc_two {c:Int} (hc:esc c=true):ixor .u8 c 32≠126∧ixor .u8 (ixor .u8 c 32) 32=c:=by
 rcases of_decide_eq_true hc with e|e<;>subst e<;>decide
theorem push_two {r:az} {c:Int} (hs:r.state=3) (hl:(r.b.length:Int)+1≤r.most) (hm:r.most≤66000) (hc:esc c=true):∀k,aQ.f k r (ixor .u8 c 32)=some (0,[],{r with state:=2,b:=r.b++[c]}):=by
 intro k
 obtain ⟨e1,e2⟩:=esc_two hc
 unfold aQ.f aQ.j0 cM.f
 rw [if_neg e1,if_neg (by omega),decide_eq_false (by omega),if_neg (by decide),if_pos hs,e2,if_pos (by simp only [List.length_cons,List.length_nil];omega),if_neg (by rw [List.length_append];simp only [List.length_cons,List.length_nil];omega),bsome]
theorem dec_stf:∀(x:List Int) {r:az} {Y:List Int} {q:List (List Int)},(r.state=1∨r.state=2)→(r.b.length:Int)+x.length≤r.most→r.most≤66000→Dec (if x=[] then r else {r with state:=2,b:=r.b++x}) Y q→Dec r (stf x++Y) q
 |[],r,Y,q,_,_,_,h=>by rw [if_pos rfl] at h;exact h
 |c::x,r,Y,q,hs,hl,hm,h=>by
  rw [if_neg (by simp)] at h
  have hl':(r.b.length:Int)+1+x.length≤r.most:=by simp only [List.length_cons] at hl;omega
  have next:Dec {r with state:=2,b:=r.b++[c]} (stf x++Y) q:=by
   refine dec_stf x (.inr rfl) (by dsimp only;rw [List.length_append];simp only [List.length_cons,List.length_nil];omega) hm ?_
   dsimp only
   by_cases e:x=[]
   ·subst e;rw [if_pos rfl];exact h
   ·rw [if_neg e,List.append_assoc];exact h
  by_cases hc:esc c=true
  ·have es:stf (c::x)=125::ixor .u8 c 32::stf x:=by
    show (if esc c=true then _ else _)++stf x=_
    rw [if_pos hc];rfl
   rw [es]
   refine ⟨0,[],{r with state:=3},fun k _=>push_esc hs k,rfl,rfl,.inl ⟨rfl,?_⟩⟩
   exact ⟨0,[],{r with state:=2,b:=r.b++[c]},fun k _=>push_two (r:={r with state:=3}) rfl (by show (r.b.length:Int)+1≤r.most;omega) hm hc k,rfl,rfl,.inl ⟨rfl,next⟩⟩
  ·have es:stf (c::x)=c::stf x:=by
    show (if esc c=true then _ else _)++stf x=_
    rw [if_neg hc];rfl
   rw [es]
   exact ⟨0,[],{r with state:=2,b:=r.b++[c]},fun k _=>push_plain hs (by omega) hm (by simpa using hc) k,rfl,rfl,.inl ⟨rfl,next⟩⟩
theorem dec_frm {r:az} {b Y:List Int} {q:List (List Int)} (hs:r.state=0∨r.state=1) (hr:r.b=[]) (h1:1≤b.length) (h2:(b.length:Int)+sz r.wide≤r.most) (hm:r.most≤9000) (h:Dec {r with state:=1,b:=[]} Y q):Dec r (frm b r.wide++Y) (b::q):=by
 obtain ⟨g1,g2,g3⟩:=sm_eq (b:=b) (w:=r.wide) (by omega)
 have h4:=sz4 r.wide
 have hne:b++sm b r.wide≠[]:=by
  intro e
  have:(b++sm b r.wide).length=0:=by rw [e];rfl
  rw [List.length_append] at this
  omega
 have fin:Dec {r with state:=2,b:=b++sm b r.wide} ([126]++Y) (b::q):=by
  refine ⟨1,b,{r with state:=1,b:=[]},fun k hk=>?_,rfl,rfl,.inr ⟨rfl,q,rfl,h⟩⟩
  unfold aQ.f cr.f cJ.f
  dsimp only
  rw [if_pos rfl,if_pos rfl,Fr.size_ok _ (by omega),bsome,if_neg (by rw [List.length_append,g2];omega),check_eq (by omega) k (by omega),bsome,if_pos rfl,bsome,bsome]
 have mid:Dec {r with state:=1,b:=[]} (stf (b++sm b r.wide)++([126]++Y)) (b::q):=by
  refine dec_stf _ (.inl rfl) (by show ((0:Nat):Int)+((b++sm b r.wide).length:Int)≤r.most;rw [List.length_append,g2];omega) (by show r.most≤66000;omega) ?_
  rw [if_neg hne]
  exact fin
 have e:frm b r.wide++Y=126::(stf (b++sm b r.wide)++([126]++Y)):=by
  unfold frm
  simp
 rw [e]
 refine ⟨0,[],{r with state:=1,b:=[]},fun k _=>?_,rfl,rfl,.inl ⟨rfl,mid⟩⟩
 unfold aQ.f cr.f
 rw [if_pos rfl,if_neg (by omega),if_neg (by omega),if_neg (by omega),bsome]
theorem dec_app {b:List Int} (h1:1≤b.length):∀(X:List Int) {r:az} {q:List (List Int)},(b.length:Int)+sz r.wide≤r.most→r.most≤9000→Dec r X q→Dec r (X++frm b r.wide) (q++[b])
 |[],r,q,h2,hm,⟨hq,hs,hb⟩=>by
  subst hq
  have:=dec_frm (Y:=[]) (q:=[]) hs hb h1 h2 hm ⟨rfl,.inr rfl,rfl⟩
  rw [List.append_nil] at this
  exact this
 |c::X,r,q,h2,hm,⟨n,d,r',hp,hw,hmo,h⟩=>by
  refine ⟨n,d,r',hp,hw,hmo,?_⟩
  rw [←hw] at h2 ⊢
  rw [←hmo] at h2 hm
  rcases h with ⟨h0,h⟩|⟨h0,q',hq,h⟩
  ·exact .inl ⟨h0,dec_app h1 X h2 hm h⟩
  ·exact .inr ⟨h0,q'++[b],by rw [hq];rfl,dec_app h1 X h2 hm h⟩
end Fl
namespace Gs
open Fr (By)
open Aq (AI big)
def Chunk (K:Nat) (line:Int):aa→List Int→List (List Int)→aa→Prop
 |s,[],bs,t=>bs=[]∧t=s
 |s,c::X,bs,t=>∃(n:Int) (b:List Int) (r:aa),(∀k,K≤k→aX.f k s line c=some (n,b,r))∧((n=1∧∃bs',bs=b::bs'∧Chunk K line r X bs' t)∨(n≠1∧Chunk K line r X bs t))
theorem l7_g (K:Nat) (u:List Int × au) (hu:u.1.length≤4096):∀(d i:Nat) (w:ah) (bs:List (List Int)) (t:aa),i+d=u.1.length→w.ways.2.2.got.length+d≤1000000000000→0≤w.now∧w.now≤1000000000000→Chunk K 1 w.stations.1 (u.1.drop i) bs t→
  ∀k,K≤k→av.l7 (k+d+1) u (i:Int) w=some {w with stations:=(t,w.stations.2),ways:=(w.ways.1,(w.ways.2.1,{w.ways.2.2 with got:=w.ways.2.2.got++bs})),now:=w.now+1}
 |0,i,w,bs,t,hi,hg,hn,e,k,hk=>by
  rw [List.drop_of_length_le (by omega)] at e
  obtain ⟨rfl,rfl⟩:=e
  rw [av.l7,if_neg (by omega),List.append_nil]
  rw [w64_in ⟨by omega,by omega⟩]
 |d+1,i,w,bs,t,hi,hg,hn,e,k,hk=>by
  have hlt:i<u.1.length:=by omega
  have eg:u.1.getD ((i:Int)).toNat 0=u.1[i]:=by simp [List.getD,hlt]
  rw [List.drop_eq_getElem_cons hlt] at e
  obtain ⟨n,b,r,hr,e⟩:=e
  have ew:w64 ((i:Int)+1)=((i+1:Nat):Int):=w64_in ⟨by omega,by omega⟩
  rw [show k+(d+1)+1=(k+d+1)+1 by omega,av.l7,if_pos (by omega),if_pos (by omega),eg,hr _ (by omega),bsome]
  rcases e with ⟨c,bs',eb,e⟩|⟨c,e⟩
  ·subst eb
   have q5:=l7_g K u hu d (i+1) {w with stations:=(r,w.stations.2),ways:=(w.ways.1,(w.ways.2.1,{w.ways.2.2 with got:=w.ways.2.2.got++[b]}))} bs' t (by omega) (by dsimp only;rw [List.length_append];show w.ways.2.2.got.length+1+d≤_;omega) hn e k hk
   rw [if_pos c,if_pos (by simp only [List.length_cons,List.length_nil];omega),ew]
   refine q5.trans ?_
   dsimp only
   rw [List.append_assoc]
   rfl
  ·rw [if_neg c,ew]
   exact l7_g K u hu d (i+1) {w with stations:=(r,w.stations.2)} bs t (by omega) (by dsimp only;omega) hn e k hk
theorem l6_g (K:Nat) (u:List Int × au) (hu:u.1.length≤4096):∀(d i:Nat) (w:ah) (bs:List (List Int)) (t:aa),i+d=u.1.length→w.ways.2.1.got.length+d≤1000000000000→0≤w.now∧w.now≤1000000000000→Chunk K 1 w.stations.2 (u.1.drop i) bs t→
  ∀k,K≤k→av.l6 (k+d+1) u (i:Int) w=(bC.f w.ways.2.2.pipe w.c.Rate).bind fun v=>av.l7 k v 0 {w with stations:=(w.stations.1,t),ways:=(w.ways.1,({w.ways.2.1 with got:=w.ways.2.1.got++bs},{w.ways.2.2 with pipe:=v.2}))}
 |0,i,w,bs,t,hi,hg,hn,e,k,hk=>by
  rw [List.drop_of_length_le (by omega)] at e
  obtain ⟨rfl,rfl⟩:=e
  rw [av.l6,if_neg (by omega),List.append_nil]
 |d+1,i,w,bs,t,hi,hg,hn,e,k,hk=>by
  have hlt:i<u.1.length:=by omega
  have eg:u.1.getD ((i:Int)).toNat 0=u.1[i]:=by simp [List.getD,hlt]
  rw [List.drop_eq_getElem_cons hlt] at e
  obtain ⟨n,b,r,hr,e⟩:=e
  have ew:w64 ((i:Int)+1)=((i+1:Nat):Int):=w64_in ⟨by omega,by omega⟩
  rw [show k+(d+1)+1=(k+d+1)+1 by omega,av.l6,if_pos (by omega),if_pos (by omega),eg,hr _ (by omega),bsome]
  rcases e with ⟨c,bs',eb,e⟩|⟨c,e⟩
  ·subst eb
   have q5:=l6_g K u hu d (i+1) {w with stations:=(w.stations.1,r),ways:=(w.ways.1,({w.ways.2.1 with got:=w.ways.2.1.got++[b]},w.ways.2.2))} bs' t (by omega) (by dsimp only;rw [List.length_append];show w.ways.2.1.got.length+1+d≤_;omega) hn e k hk
   rw [if_pos c,if_pos (by simp only [List.length_cons,List.length_nil];omega),ew]
   refine q5.trans ?_
   dsimp only
   rw [List.append_assoc]
   rfl
  ·rw [if_neg c,ew]
   exact l6_g K u hu d (i+1) {w with stations:=(w.stations.1,r)} bs t (by omega) (by dsimp only;omega) hn e k hk
theorem l5_g (K:Nat) (u:List Int × au) (hu:u.1.length≤4096):∀(d i:Nat) (w:ah) (bs:List (List Int)) (t:aa),i+d=u.1.length→w.ways.1.2.got.length+d≤1000000000000→0≤w.now∧w.now≤1000000000000→Chunk K 0 w.stations.1 (u.1.drop i) bs t→
  ∀k,K≤k→av.l5 (k+d+1) u (i:Int) w=(bC.f w.ways.2.1.pipe w.c.Rate).bind fun v=>av.l6 k v 0 {w with stations:=(t,w.stations.2),ways:=((w.ways.1.1,{w.ways.1.2 with got:=w.ways.1.2.got++bs}),({w.ways.2.1 with pipe:=v.2},w.ways.2.2))}
 |0,i,w,bs,t,hi,hg,hn,e,k,hk=>by
  rw [List.drop_of_length_le (by omega)] at e
  obtain ⟨rfl,rfl⟩:=e
  rw [av.l5,if_neg (by omega),List.append_nil]
 |d+1,i,w,bs,t,hi,hg,hn,e,k,hk=>by
  have hlt:i<u.1.length:=by omega
  have eg:u.1.getD ((i:Int)).toNat 0=u.1[i]:=by simp [List.getD,hlt]
  rw [List.drop_eq_getElem_cons hlt] at e
  obtain ⟨n,b,r,hr,e⟩:=e
  have ew:w64 ((i:Int)+1)=((i+1:Nat):Int):=w64_in ⟨by omega,by omega⟩
  rw [show k+(d+1)+1=(k+d+1)+1 by omega,av.l5,if_pos (by omega),if_pos (by omega),eg,hr _ (by omega),bsome]
  rcases e with ⟨c,bs',eb,e⟩|⟨c,e⟩
  ·subst eb
   have q5:=l5_g K u hu d (i+1) {w with stations:=(r,w.stations.2),ways:=((w.ways.1.1,{w.ways.1.2 with got:=w.ways.1.2.got++[b]}),w.ways.2)} bs' t (by omega) (by dsimp only;rw [List.length_append];show w.ways.1.2.got.length+1+d≤_;omega) hn e k hk
   rw [if_pos c,if_pos (by simp only [List.length_cons,List.length_nil];omega),ew]
   refine q5.trans ?_
   dsimp only
   rw [List.append_assoc]
   rfl
  ·rw [if_neg c,ew]
   exact l5_g K u hu d (i+1) {w with stations:=(r,w.stations.2)} bs t (by omega) (by dsimp only;omega) hn e k hk
theorem l4_g (K:Nat) (u:List Int × au) (hu:u.1.length≤4096):∀(d i:Nat) (w:ah) (bs:List (List Int)) (t:aa),i+d=u.1.length→w.ways.1.1.got.length+d≤1000000000000→0≤w.now∧w.now≤1000000000000→Chunk K 0 w.stations.2 (u.1.drop i) bs t→
  ∀k,K≤k→av.l4 (k+d+1) u (i:Int) w=(bC.f w.ways.1.2.pipe w.c.Rate).bind fun v=>av.l5 k v 0 {w with stations:=(w.stations.1,t),ways:=(({w.ways.1.1 with got:=w.ways.1.1.got++bs},{w.ways.1.2 with pipe:=v.2}),w.ways.2)}
 |0,i,w,bs,t,hi,hg,hn,e,k,hk=>by
  rw [List.drop_of_length_le (by omega)] at e
  obtain ⟨rfl,rfl⟩:=e
  rw [av.l4,if_neg (by omega),List.append_nil]
 |d+1,i,w,bs,t,hi,hg,hn,e,k,hk=>by
  have hlt:i<u.1.length:=by omega
  have eg:u.1.getD ((i:Int)).toNat 0=u.1[i]:=by simp [List.getD,hlt]
  rw [List.drop_eq_getElem_cons hlt] at e
  obtain ⟨n,b,r,hr,e⟩:=e
  have ew:w64 ((i:Int)+1)=((i+1:Nat):Int):=w64_in ⟨by omega,by omega⟩
  rw [show k+(d+1)+1=(k+d+1)+1 by omega,av.l4,if_pos (by omega),if_pos (by omega),eg,hr _ (by omega),bsome]
  rcases e with ⟨c,bs',eb,e⟩|⟨c,e⟩
  ·subst eb
   have q5:=l4_g K u hu d (i+1) {w with stations:=(w.stations.1,r),ways:=(({w.ways.1.1 with got:=w.ways.1.1.got++[b]},w.ways.1.2),w.ways.2)} bs' t (by omega) (by dsimp only;rw [List.length_append];show w.ways.1.1.got.length+1+d≤_;omega) hn e k hk
   rw [if_pos c,if_pos (by simp only [List.length_cons,List.length_nil];omega),ew]
   refine q5.trans ?_
   dsimp only
   rw [List.append_assoc]
   rfl
  ·rw [if_neg c,ew]
   exact l4_g K u hu d (i+1) {w with stations:=(w.stations.1,r)} bs t (by omega) (by dsimp only;omega) hn e k hk
def room (p:au) (rate:Int):Int:=if p.cut=true then rate else imin rate (w64 (p.room-(p.b.length:Int)))
theorem stake0_g {s:aa} {n:Int} {t:List Int × aJ} {k:Nat} (h:bX.f k s.sides.1.ring n=some t):bn.f k s 0 n=some (t.1,{s with sides:=({s.sides.1 with ring:=t.2},s.sides.2)}):=by
 unfold bn.f
 rw [show cK.f 0=some true from rfl,bsome,if_pos rfl,if_pos (by decide),if_pos rfl,h,bsome]
theorem stake1_g {s:aa} {n:Int} {t:List Int × aJ} {k:Nat} (h:bX.f k s.sides.2.ring n=some t):bn.f k s 1 n=some (t.1,{s with sides:=(s.sides.1,{s.sides.2 with ring:=t.2})}):=by
 unfold bn.f
 rw [show cK.f 1=some true from rfl,bsome,if_pos rfl,if_pos (by decide),if_neg (by decide),h,bsome]
def took (s:aa) (g1 g2:aJ):aa:={s with sides:=({s.sides.1 with ring:=g1},{s.sides.2 with ring:=g2})}
set_option maxHeartbeats 4000000 in
theorem gstep {w:ah} {K:Nat} (hK:1100000≤K) (hnow:0≤w.now∧w.now≤1000000000000) {T1 T2:St.Told} {r1 r2:aa} {t1 t2 t3 t4:List Int × aJ} {o1 o2 o3 o4:Int × au} {v1 v2 v3 v4:List Int × au} {bs1 bs2 bs3 bs4:List (List Int)} {x1 x2 y1 y2:aa}
  (hr1:∀k,K≤k→aq.f k w.stations.1=some (T1,r1)) (hr2:∀k,K≤k→aq.f k w.stations.2=some (T2,r2))
  (m1:w.ways.1.1.sent.length+T1.1.length≤1000000000000) (m2:w.ways.1.2.sent.length+T2.1.length≤1000000000000) (m3:w.ways.2.1.sent.length+T1.2.length≤1000000000000) (m4:w.ways.2.2.sent.length+T2.2.length≤1000000000000)
  (p1:w.ways.1.1.got.length+4096≤1000000000000) (p2:w.ways.1.2.got.length+4096≤1000000000000) (p3:w.ways.2.1.got.length+4096≤1000000000000) (p4:w.ways.2.2.got.length+4096≤1000000000000)
  (ht1:∀k,K≤k→bX.f k r1.sides.1.ring (room w.ways.1.1.pipe w.c.Rate)=some t1) (ht2:∀k,K≤k→bX.f k r2.sides.1.ring (room w.ways.1.2.pipe w.c.Rate)=some t2)
  (ht3:∀k,K≤k→bX.f k r1.sides.2.ring (room w.ways.2.1.pipe w.c.Rate)=some t3) (ht4:∀k,K≤k→bX.f k r2.sides.2.ring (room w.ways.2.2.pipe w.c.Rate)=some t4)
  (eo1:cq.f w.ways.1.1.pipe t1.1=some o1) (eo2:cq.f w.ways.1.2.pipe t2.1=some o2) (eo3:cq.f w.ways.2.1.pipe t3.1=some o3) (eo4:cq.f w.ways.2.2.pipe t4.1=some o4)
  (ev1:bC.f o1.2 w.c.Rate=some v1) (ev2:bC.f o2.2 w.c.Rate=some v2) (ev3:bC.f o3.2 w.c.Rate=some v3) (ev4:bC.f o4.2 w.c.Rate=some v4)
  (l1:v1.1.length≤4096) (l2:v2.1.length≤4096) (l3:v3.1.length≤4096) (l4:v4.1.length≤4096)
  (c1:Chunk K 0 (took r2 t2.2 t4.2) v1.1 bs1 x2) (c2:Chunk K 0 (took r1 t1.2 t3.2) v2.1 bs2 x1) (c3:Chunk K 1 x2 v3.1 bs3 y2) (c4:Chunk K 1 x1 v4.1 bs4 y1):
  ∀k,K+20000≤k→av.f k w=some {w with stations:=(y1,y2),ways:=(({pipe:=v1.2,sent:=w.ways.1.1.sent++T1.1,got:=w.ways.1.1.got++bs1},{pipe:=v2.2,sent:=w.ways.1.2.sent++T2.1,got:=w.ways.1.2.got++bs2}),({pipe:=v3.2,sent:=w.ways.2.1.sent++T1.2,got:=w.ways.2.1.got++bs3},{pipe:=v4.2,sent:=w.ways.2.2.sent++T2.2,got:=w.ways.2.2.got++bs4})),now:=w.now+1}:=by
 intro k hk
 obtain ⟨k,rfl⟩:∃j,k=j+v4.1.length+1+v3.1.length+1+v2.1.length+1+v1.1.length+1:=⟨k-v4.1.length-v3.1.length-v2.1.length-v1.1.length-4,by omega⟩
 let w0:ah:={w with stations:=(took r1 t1.2 t3.2,took r2 t2.2 t4.2),ways:=(({pipe:=v1.2,sent:=w.ways.1.1.sent++T1.1,got:=w.ways.1.1.got},{pipe:=o2.2,sent:=w.ways.1.2.sent++T2.1,got:=w.ways.1.2.got}),({pipe:=o3.2,sent:=w.ways.2.1.sent++T1.2,got:=w.ways.2.1.got},{pipe:=o4.2,sent:=w.ways.2.2.sent++T2.2,got:=w.ways.2.2.got}))}
 let w1:ah:={w with stations:=(took r1 t1.2 t3.2,x2),ways:=(({pipe:=v1.2,sent:=w.ways.1.1.sent++T1.1,got:=w.ways.1.1.got++bs1},{pipe:=v2.2,sent:=w.ways.1.2.sent++T2.1,got:=w.ways.1.2.got}),({pipe:=o3.2,sent:=w.ways.2.1.sent++T1.2,got:=w.ways.2.1.got},{pipe:=o4.2,sent:=w.ways.2.2.sent++T2.2,got:=w.ways.2.2.got}))}
 let w2:ah:={w with stations:=(x1,x2),ways:=(({pipe:=v1.2,sent:=w.ways.1.1.sent++T1.1,got:=w.ways.1.1.got++bs1},{pipe:=v2.2,sent:=w.ways.1.2.sent++T2.1,got:=w.ways.1.2.got++bs2}),({pipe:=v3.2,sent:=w.ways.2.1.sent++T1.2,got:=w.ways.2.1.got},{pipe:=o4.2,sent:=w.ways.2.2.sent++T2.2,got:=w.ways.2.2.got}))}
 let w3:ah:={w with stations:=(x1,y2),ways:=(({pipe:=v1.2,sent:=w.ways.1.1.sent++T1.1,got:=w.ways.1.1.got++bs1},{pipe:=v2.2,sent:=w.ways.1.2.sent++T2.1,got:=w.ways.1.2.got++bs2}),({pipe:=v3.2,sent:=w.ways.2.1.sent++T1.2,got:=w.ways.2.1.got++bs3},{pipe:=v4.2,sent:=w.ways.2.2.sent++T2.2,got:=w.ways.2.2.got}))}
 have W4:=l4_g K v1 l1 v1.1.length 0 w0 bs1 x2 (by omega) (by show w.ways.1.1.got.length+_≤_;omega) hnow c1 (k+v4.1.length+1+v3.1.length+1+v2.1.length+1) (by omega)
 have W5:=l5_g K v2 l2 v2.1.length 0 w1 bs2 x1 (by omega) (by show w.ways.1.2.got.length+_≤_;omega) hnow c2 (k+v4.1.length+1+v3.1.length+1) (by omega)
 have W6:=l6_g K v3 l3 v3.1.length 0 w2 bs3 y2 (by omega) (by show w.ways.2.1.got.length+_≤_;omega) hnow c3 (k+v4.1.length+1) (by omega)
 have W7:=l7_g K v4 l4 v4.1.length 0 w3 bs4 y1 (by omega) (by show w.ways.2.2.got.length+_≤_;omega) hnow c4 k (by omega)
 rw [show bC.f w0.ways.1.2.pipe w0.c.Rate=some v2 from ev2,bsome] at W4
 rw [show bC.f w1.ways.2.1.pipe w1.c.Rate=some v3 from ev3,bsome] at W5
 rw [show bC.f w2.ways.2.2.pipe w2.c.Rate=some v4 from ev4,bsome] at W6
 refine Eq.trans ?_ (W4.trans (W5.trans (W6.trans W7)))
 generalize hkk:k+v4.1.length+1+v3.1.length+1+v2.1.length+1+v1.1.length+1=kk at hk ⊢
 have hk':K≤kk:=by omega
 unfold av.f cE.f bQ.f
 rw [hr1 kk hk',bsome,if_pos (by dsimp only;omega),if_pos (by dsimp only;omega),hr2 kk hk',bsome,if_pos (by dsimp only;omega),if_pos (by dsimp only;omega),bsome,bsome]
 rw [show (if w.ways.1.1.pipe.cut=true then av.j0 kk w (T1,r1) (T2,r2) w.c.Rate else av.j0 kk w (T1,r1) (T2,r2) (imin w.c.Rate (w64 (w.ways.1.1.pipe.room-(w.ways.1.1.pipe.b.length:Int)))))=av.j0 kk w (T1,r1) (T2,r2) (room w.ways.1.1.pipe w.c.Rate) by unfold room;split<;>rfl]
 unfold av.j0 cE.f bQ.f
 rw [show bn.f kk (T1,r1).2 0 (room w.ways.1.1.pipe w.c.Rate)=_ from stake0_g (ht1 kk hk'),bsome,eo1,bsome,bsome,bsome]
 generalize hA1:({r1 with sides:=({r1.sides.1 with ring:=t1.2},r1.sides.2)}:aa)=A1
 rw [show (if w.ways.1.2.pipe.cut=true then av.j1 kk w (T1,r1) (T2,r2) (t1.1,A1) o1 w.c.Rate else av.j1 kk w (T1,r1) (T2,r2) (t1.1,A1) o1 (imin w.c.Rate (w64 (w.ways.1.2.pipe.room-(w.ways.1.2.pipe.b.length:Int)))))=av.j1 kk w (T1,r1) (T2,r2) (t1.1,A1) o1 (room w.ways.1.2.pipe w.c.Rate) by unfold room;split<;>rfl]
 unfold av.j1 cE.f bQ.f
 rw [show bn.f kk (T2,r2).2 0 (room w.ways.1.2.pipe w.c.Rate)=_ from stake0_g (ht2 kk hk'),bsome,eo2,bsome,bsome,bsome]
 generalize hA2:({r2 with sides:=({r2.sides.1 with ring:=t2.2},r2.sides.2)}:aa)=A2
 rw [show (if w.ways.2.1.pipe.cut=true then av.j2 kk w (T1,r1) (T2,r2) (t1.1,A1) o1 (t2.1,A2) o2 w.c.Rate else av.j2 kk w (T1,r1) (T2,r2) (t1.1,A1) o1 (t2.1,A2) o2 (imin w.c.Rate (w64 (w.ways.2.1.pipe.room-(w.ways.2.1.pipe.b.length:Int)))))=av.j2 kk w (T1,r1) (T2,r2) (t1.1,A1) o1 (t2.1,A2) o2 (room w.ways.2.1.pipe w.c.Rate) by unfold room;split<;>rfl]
 unfold av.j2 cE.f bQ.f
 rw [show bn.f kk (t1.1,A1).2 1 (room w.ways.2.1.pipe w.c.Rate)=some (t3.1,took r1 t1.2 t3.2) from (by subst hA1;exact stake1_g (s:={r1 with sides:=({r1.sides.1 with ring:=t1.2},r1.sides.2)}) (ht3 kk hk')),bsome,eo3,bsome,bsome,bsome]
 rw [show (if w.ways.2.2.pipe.cut=true then av.j3 kk w (T1,r1) (T2,r2) o1 (t2.1,A2) o2 (t3.1,took r1 t1.2 t3.2) o3 w.c.Rate else av.j3 kk w (T1,r1) (T2,r2) o1 (t2.1,A2) o2 (t3.1,took r1 t1.2 t3.2) o3 (imin w.c.Rate (w64 (w.ways.2.2.pipe.room-(w.ways.2.2.pipe.b.length:Int)))))=av.j3 kk w (T1,r1) (T2,r2) o1 (t2.1,A2) o2 (t3.1,took r1 t1.2 t3.2) o3 (room w.ways.2.2.pipe w.c.Rate) by unfold room;split<;>rfl]
 unfold av.j3
 rw [show bn.f kk (t2.1,A2).2 1 (room w.ways.2.2.pipe w.c.Rate)=some (t4.1,took r2 t2.2 t4.2) from (by subst hA2;exact stake1_g (s:={r2 with sides:=({r2.sides.1 with ring:=t2.2},r2.sides.2)}) (ht4 kk hk')),bsome,eo4,bsome,ev1,bsome,←hkk]
 rfl
end Gs
namespace Sx
open Fr (By)
open Aq (AI big)
open Fl (frm)
def addF (g:aJ) (f:List Int):aJ:={g with b:=g.b++f,pieces:=g.pieces++[(f.length:Int)]}
theorem add_eq {g:aJ} (h:Mo.GI g) {f:List Int} (hf:(g.b.length:Int)+f.length≤g.room):dm.f g f=some (true,addF g f):=by
 have hr:=h.room
 have hl:=h.len
 have hp:=Mo.len_sum h.pos
 have hs:=h.sum
 have hb:=h.begun
 unfold dm.f
 rw [w64_in ⟨by omega,by omega⟩,if_neg (by omega),if_pos (by omega),if_pos (by simp only [List.length_cons,List.length_nil];omega)]
 rfl
theorem addF_gi {g:aJ} (h:Mo.GI g) {f:List Int} (hf:(g.b.length:Int)+f.length≤g.room) (h1:1≤f.length) (hB:By f):Mo.GI (addF g f):=by
 refine ⟨h.room,?_,Fr.By.app h.by_ hB,h.begun,fun p hp=>?_,?_,h.drop⟩
 ·show ((g.b++f).length:Int)≤g.room
  rw [List.length_append];omega
 ·rcases List.mem_append.1 hp with q|q
  ·exact h.pos p q
  ·rw [List.mem_singleton.1 q];omega
 ·show g.begun+(g.pieces++[(f.length:Int)]).sum=((g.b++f).length:Int)
  have:=h.sum
  rw [List.length_append,List.sum_append]
  simp
  omega
def put0 (u:Bool) (s:aa) (b:List Int):aa:=if u=true then {s with sides:=({s.sides.1 with ring:=addF s.sides.1.ring (frm b s.c.Wide)},s.sides.2)} else s
def put1 (u:Bool) (s:aa) (b:List Int):aa:=if u=true then {s with sides:=(s.sides.1,{s.sides.2 with ring:=addF s.sides.2.ring (frm b s.c.Wide)})} else s
def tell (u:Bool) (l:List (List Int)) (b:List Int):List (List Int):=if u=true then l++[b] else l
theorem put0_x {s:aa} (h:Mo.GI s.sides.1.ring) {t:St.Told} {p:List Int} (hp:p.length≤2000) (ht:t.1.length≤1000000) (hf:(s.sides.1.ring.b.length:Int)+(frm p s.c.Wide).length≤s.sides.1.ring.room) {k:Nat} (hk:3000≤k):
  aR.f k s t 0 p=some (put0 true s p,(t.1++[p],t.2)):=by
 unfold aR.f
 rw [if_pos (by omega),if_pos rfl,Fl.put_eq (by omega) k (by omega),bsome,add_eq h hf,bsome]
 unfold aR.j0
 rw [if_pos rfl,if_pos (by omega),if_pos rfl,Bl.clone_eq (by omega),bsome,if_pos (by simp only [List.length_cons,List.length_nil];omega)]
 rfl
theorem put1_x {s:aa} (h:Mo.GI s.sides.2.ring) {t:St.Told} {p:List Int} (hp:p.length≤2000) (ht:t.2.length≤1000000) (hf:(s.sides.2.ring.b.length:Int)+(frm p s.c.Wide).length≤s.sides.2.ring.room) {k:Nat} (hk:3000≤k):
  aR.f k s t 1 p=some (put1 true s p,(t.1,t.2++[p])):=by
 unfold aR.f
 rw [if_pos (by omega),if_neg (by decide),Fl.put_eq (by omega) k (by omega),bsome,add_eq h hf,bsome]
 unfold aR.j0
 rw [if_pos rfl,if_pos (by omega),if_neg (by decide),Bl.clone_eq (by omega),bsome,if_pos (by simp only [List.length_cons,List.length_nil];omega)]
 rfl
def pc (n:Int) (m:List Int):List Int:=[0,IntKind.u8.wrap (n.fdiv (2^(min (24:Int).toNat IntKind.u32.bits))),IntKind.u8.wrap (n.fdiv (2^(min (16:Int).toNat IntKind.u32.bits))),IntKind.u8.wrap (n.fdiv (2^(min (8:Int).toNat IntKind.u32.bits))),IntKind.u8.wrap n]++m
theorem pc_len (n:Int) (m:List Int):(pc n m).length=5+m.length:=by unfold pc;rw [List.length_append];rfl
theorem pc_by {n:Int} {m:List Int} (h:By m):By (pc n m):=by
 refine Fr.By.app (fun z hz=>?_) h
 simp only [List.mem_cons,List.not_mem_nil,or_false] at hz
 rcases hz with e|e|e|e|e<;>subst e
 ·omega
 all_goals exact Fr.u8b _
theorem piece_x {s:aa} {b:List Int} (hb:b.length≤1006) {k:Nat} (hk:20≤k):cG.f k s b=some (pc s.number b,{s with number:=IntKind.u32.wrap (s.number+1)}):=by
 unfold cG.f
 rw [Fr.concat2 (by simp) (by omega) (by omega),bsome]
 rfl
def one (u0 u1:Bool) (s:aa) (m:List Int):aa:=put1 u1 (put0 u0 {s with number:=IntKind.u32.wrap (s.number+1)} (pc s.number m)) (pc s.number m)
def many (u0 u1:Bool):List (List Int)→aa→aa
 |[],s=>s
 |m::l,s=>many u0 u1 l (one u0 u1 s m)
def pcs (n:Int):List (List Int)→List (List Int)
 |[]=>[]
 |m::l=>pc n m::pcs (IntKind.u32.wrap (n+1)) l
def fl (w:Bool):List (List Int)→Nat
 |[]=>0
 |b::l=>(frm b w).length+fl w l
def oct (w:Bool):List (List Int)→List Int
 |[]=>[]
 |b::l=>frm b w++oct w l
theorem oct_len (w:Bool):∀l,(oct w l).length=fl w l
 |[]=>rfl
 |b::l=>by show (frm b w++oct w l).length=_;rw [List.length_append,oct_len w l];rfl
theorem frm_by {b:List Int} {w:Bool} (hb:b.length≤10000) (hB:By b):By (frm b w)∧1≤(frm b w).length:=by
 obtain ⟨r,hr,_,h2,h3⟩:=Fr.put_ok b w hb hB
 have e:frm b w=r:=Option.some.inj ((Fl.put_eq hb _ (Nat.le_refl _)).symm.trans (hr _ (Nat.le_refl _)))
 rw [e];exact ⟨h2,by omega⟩
structure Same (s t:aa):Prop where
 c:t.c=s.c
 arq:t.arq=s.arq
 aps:t.aps=s.aps
 tw:t.twins=s.twins
 steps:t.steps=s.steps
 line:t.line=s.line
 r1:t.sides.1.reader=s.sides.1.reader
 m1:t.sides.1.monitor=s.sides.1.monitor
 c1:t.sides.1.counts=s.sides.1.counts
 r2:t.sides.2.reader=s.sides.2.reader
 m2:t.sides.2.monitor=s.sides.2.monitor
 c2:t.sides.2.counts=s.sides.2.counts
theorem Same.rfl (s:aa):Same s s:=⟨Eq.refl _,Eq.refl _,Eq.refl _,Eq.refl _,Eq.refl _,Eq.refl _,Eq.refl _,Eq.refl _,Eq.refl _,Eq.refl _,Eq.refl _,Eq.refl _⟩
theorem Same.trans {s r t:aa} (h:Same s r) (g:Same r t):Same s t:=
 ⟨g.c.trans h.c,g.arq.trans h.arq,g.aps.trans h.aps,g.tw.trans h.tw,g.steps.trans h.steps,g.line.trans h.line,g.r1.trans h.r1,g.m1.trans h.m1,g.c1.trans h.c1,g.r2.trans h.r2,g.m2.trans h.m2,g.c2.trans h.c2⟩
theorem put0_same (u:Bool) (s:aa) (b:List Int):Same s (put0 u s b):=by
 unfold put0;split
 ·exact ⟨Eq.refl _,Eq.refl _,Eq.refl _,Eq.refl _,Eq.refl _,Eq.refl _,Eq.refl _,Eq.refl _,Eq.refl _,Eq.refl _,Eq.refl _,Eq.refl _⟩
 ·exact Same.rfl s
theorem put1_same (u:Bool) (s:aa) (b:List Int):Same s (put1 u s b):=by
 unfold put1;split
 ·exact ⟨Eq.refl _,Eq.refl _,Eq.refl _,Eq.refl _,Eq.refl _,Eq.refl _,Eq.refl _,Eq.refl _,Eq.refl _,Eq.refl _,Eq.refl _,Eq.refl _⟩
 ·exact Same.rfl s
theorem one_same (u0 u1:Bool) (s:aa) (m:List Int):Same s (one u0 u1 s m):=
 Same.trans (r:={s with number:=IntKind.u32.wrap (s.number+1)}) ⟨Eq.refl _,Eq.refl _,Eq.refl _,Eq.refl _,Eq.refl _,Eq.refl _,Eq.refl _,Eq.refl _,Eq.refl _,Eq.refl _,Eq.refl _,Eq.refl _⟩ ((put0_same _ _ _).trans (put1_same _ _ _))
theorem many_same (u0 u1:Bool):∀(l:List (List Int)) (s:aa),Same s (many u0 u1 l s)
 |[],s=>Same.rfl s
 |m::l,s=>(one_same u0 u1 s m).trans (many_same u0 u1 l _)
structure Rg (s t:aa) (l1 l2:List (List Int)):Prop where
 b1:t.sides.1.ring.b=s.sides.1.ring.b++oct s.c.Wide l1
 b2:t.sides.2.ring.b=s.sides.2.ring.b++oct s.c.Wide l2
 g1:Mo.GI t.sides.1.ring
 g2:Mo.GI t.sides.2.ring
 d1:t.sides.1.ring.dropped=s.sides.1.ring.dropped
 d2:t.sides.2.ring.dropped=s.sides.2.ring.dropped
 m1:t.sides.1.ring.room=s.sides.1.ring.room
 m2:t.sides.2.ring.room=s.sides.2.ring.room
theorem oct_app (w:Bool):∀(a b:List (List Int)),oct w (a++b)=oct w a++oct w b
 |[],b=>Eq.refl _
 |x::a,b=>by show frm x w++oct w (a++b)=(frm x w++oct w a)++oct w b;rw [oct_app w a b,List.append_assoc]
theorem Rg.trans {s r t:aa} {a1 a2 b1 b2:List (List Int)} (h:Rg s r a1 a2) (hc:r.c=s.c) (g:Rg r t b1 b2):Rg s t (a1++b1) (a2++b2):=
 ⟨by rw [g.b1,h.b1,hc,oct_app,List.append_assoc],by rw [g.b2,h.b2,hc,oct_app,List.append_assoc],g.g1,g.g2,g.d1.trans h.d1,g.d2.trans h.d2,g.m1.trans h.m1,g.m2.trans h.m2⟩
def on (u:Bool) (l:List (List Int)):List (List Int):=if u=true then l else []
theorem put0_rg {s:aa} (g1:Mo.GI s.sides.1.ring) (g2:Mo.GI s.sides.2.ring) (u:Bool) {b:List Int} (hb:b.length≤10000) (hB:By b) (hf:u=true→(s.sides.1.ring.b.length:Int)+(frm b s.c.Wide).length≤s.sides.1.ring.room):Rg s (put0 u s b) (on u [b]) []:=by
 obtain ⟨f1,f2⟩:=frm_by (w:=s.c.Wide) hb hB
 cases u with
 |true=>
  refine ⟨?_,(List.append_nil _).symm,addF_gi g1 (hf (Eq.refl _)) f2 f1,g2,Eq.refl _,Eq.refl _,Eq.refl _,Eq.refl _⟩
  show s.sides.1.ring.b++frm b s.c.Wide=s.sides.1.ring.b++(frm b s.c.Wide++[])
  rw [List.append_nil]
 |false=>exact ⟨(List.append_nil _).symm,(List.append_nil _).symm,g1,g2,Eq.refl _,Eq.refl _,Eq.refl _,Eq.refl _⟩
theorem put1_rg {s:aa} (g1:Mo.GI s.sides.1.ring) (g2:Mo.GI s.sides.2.ring) (u:Bool) {b:List Int} (hb:b.length≤10000) (hB:By b) (hf:u=true→(s.sides.2.ring.b.length:Int)+(frm b s.c.Wide).length≤s.sides.2.ring.room):Rg s (put1 u s b) [] (on u [b]):=by
 obtain ⟨f1,f2⟩:=frm_by (w:=s.c.Wide) hb hB
 cases u with
 |true=>
  refine ⟨(List.append_nil _).symm,?_,g1,addF_gi g2 (hf (Eq.refl _)) f2 f1,Eq.refl _,Eq.refl _,Eq.refl _,Eq.refl _⟩
  show s.sides.2.ring.b++frm b s.c.Wide=s.sides.2.ring.b++(frm b s.c.Wide++[])
  rw [List.append_nil]
 |false=>exact ⟨(List.append_nil _).symm,(List.append_nil _).symm,g1,g2,Eq.refl _,Eq.refl _,Eq.refl _,Eq.refl _⟩
end Sx
namespace Sx
open Fr (By)
open Aq (AI big)
open Fl (frm)
theorem tell_on (u:Bool) (l:List (List Int)) (b:List Int):tell u l b=l++on u [b]:=by
 unfold tell on
 cases u
 ·rw [if_neg (by decide),if_neg (by decide),List.append_nil]
 ·rw [if_pos rfl,if_pos rfl]
theorem on_cons (u:Bool) (b:List Int) (l:List (List Int)):on u (b::l)=on u [b]++on u l:=by cases u<;>rfl
theorem one_rg {s:aa} (g1:Mo.GI s.sides.1.ring) (g2:Mo.GI s.sides.2.ring) (u0 u1:Bool) {m:List Int} (hm:m.length≤1006) (hB:By m)
  (f0:u0=true→(s.sides.1.ring.b.length:Int)+(frm (pc s.number m) s.c.Wide).length≤s.sides.1.ring.room) (f1:u1=true→(s.sides.2.ring.b.length:Int)+(frm (pc s.number m) s.c.Wide).length≤s.sides.2.ring.room):Rg s (one u0 u1 s m) (on u0 [pc s.number m]) (on u1 [pc s.number m]):=by
 have hl:=pc_len s.number m
 have a:=put0_rg (s:={s with number:=IntKind.u32.wrap (s.number+1)}) g1 g2 u0 (b:=pc s.number m) (by omega) (pc_by hB) f0
 have sm:=put0_same u0 {s with number:=IntKind.u32.wrap (s.number+1)} (pc s.number m)
 have e2:(put0 u0 {s with number:=IntKind.u32.wrap (s.number+1)} (pc s.number m)).sides.2.ring=s.sides.2.ring:=by unfold put0;split<;>rfl
 have b:=put1_rg (s:=put0 u0 {s with number:=IntKind.u32.wrap (s.number+1)} (pc s.number m)) a.g1 a.g2 u1 (b:=pc s.number m) (by omega) (pc_by hB) (fun q=>by rw [e2,sm.c];exact f1 q)
 have r:=a.trans sm.c b
 rw [List.append_nil,List.nil_append] at r
 exact ⟨r.b1,r.b2,r.g1,r.g2,r.d1,r.d2,r.m1,r.m2⟩
theorem one_num (u0 u1:Bool) (s:aa) (m:List Int):(one u0 u1 s m).number=IntKind.u32.wrap (s.number+1):=by
 unfold one put1 put0
 split<;>split<;>rfl
theorem fl_cons (w u:Bool) (b:List Int) (l:List (List Int)):fl w (on u (b::l))=(if u=true then (frm b w).length else 0)+fl w (on u l):=by
 cases u
 ·rfl
 ·rfl
theorem l1_x (t21:Int × aH) (t38:List (List Int) × ae) (tw:Bool) (hl:t38.1.length≤100000) (hB:∀b∈t38.1,By b∧b.length≤1006):∀(d i:Nat) (s:aa) (t:St.Told) (k:Nat),i+d=t38.1.length→tw=decide (s.c.Mode=0)→Mo.GI s.sides.1.ring→Mo.GI s.sides.2.ring→t.1.length≤i→t.2.length≤i→
  (s.sides.1.ring.b.length:Int)+fl s.c.Wide (on (tw||decide (0=t21.1)) (pcs s.number (t38.1.drop i)))≤s.sides.1.ring.room→(s.sides.2.ring.b.length:Int)+fl s.c.Wide (on (tw||decide (1=t21.1)) (pcs s.number (t38.1.drop i)))≤s.sides.2.ring.room→3000≤k→
  aq.l1 (k+d+1) t21 t38 (i:Int) s t=aq.l1 (k+1) t21 t38 ((t38.1.length:Nat):Int) (many (tw||decide (0=t21.1)) (tw||decide (1=t21.1)) (t38.1.drop i) s) (t.1++on (tw||decide (0=t21.1)) (pcs s.number (t38.1.drop i)),t.2++on (tw||decide (1=t21.1)) (pcs s.number (t38.1.drop i)))∧
  Rg s (many (tw||decide (0=t21.1)) (tw||decide (1=t21.1)) (t38.1.drop i) s) (on (tw||decide (0=t21.1)) (pcs s.number (t38.1.drop i))) (on (tw||decide (1=t21.1)) (pcs s.number (t38.1.drop i)))
 |0,i,s,t,k,hi,htw,g1,g2,l1,l2,f0,f1,hk=>by
  rw [List.drop_of_length_le (by omega)]
  obtain rfl:i=t38.1.length:=by omega
  have e0:∀u:Bool,on u (pcs s.number [])=[]:=fun u=>by cases u<;>rfl
  rw [e0,e0,List.append_nil,List.append_nil]
  exact ⟨rfl,(List.append_nil _).symm,(List.append_nil _).symm,g1,g2,Eq.refl _,Eq.refl _,Eq.refl _,Eq.refl _⟩
 |d+1,i,s,t,k,hi,htw,g1,g2,l1,l2,f0,f1,hk=>by
  have hlt:i<t38.1.length:=by omega
  have ew:w64 ((i:Int)+1)=((i+1:Nat):Int):=by rw [w64_in ⟨by omega,by omega⟩];omega
  have eg:t38.1.getD ((i:Int)).toNat []=t38.1[i]:=by simp [List.getD,hlt]
  obtain ⟨mB,mL⟩:=hB _ (List.getElem_mem hlt)
  rw [List.drop_eq_getElem_cons hlt] at f0 f1 ⊢
  have ep:pcs s.number (t38.1[i]::t38.1.drop (i+1))=pc s.number t38.1[i]::pcs (IntKind.u32.wrap (s.number+1)) (t38.1.drop (i+1)):=rfl
  rw [ep,fl_cons] at f0 f1
  generalize t38.1[i]=m at eg mB mL ep f0 f1 ⊢
  generalize hu0:(tw||decide (0=t21.1))=u0 at f0 ⊢
  generalize hu1:(tw||decide (1=t21.1))=u1 at f1 ⊢
  have hpl:=pc_len s.number m
  have r1:=one_rg g1 g2 u0 u1 mL mB (fun q=>by rw [if_pos q] at f0;omega) (fun q=>by rw [if_pos q] at f1;omega)
  have sm:=one_same u0 u1 s m
  have on1:=one_num u0 u1 s m
  have hh:aq.l1 (k+(d+1)+1) t21 t38 (i:Int) s t=aq.l1 (k+d+1) t21 t38 ((i+1:Nat):Int) (one u0 u1 s m) (tell u0 t.1 (pc s.number m),tell u1 t.2 (pc s.number m)):=by
   rw [show k+(d+1)+1=(k+d+1)+1 by omega,aq.l1,if_pos (by omega),if_pos (by omega),eg,piece_x mL (by omega),bsome,St.twice_eq,bsome]
   have ej:(if decide (({s with number:=IntKind.u32.wrap (s.number+1)}:aa).c.Mode=0)=true then aq.j2 (k+d+1) t21 (i:Int) t (pc s.number m,{s with number:=IntKind.u32.wrap (s.number+1)}) (aq.l1 (k+d+1) t21 t38) true else aq.j2 (k+d+1) t21 (i:Int) t (pc s.number m,{s with number:=IntKind.u32.wrap (s.number+1)}) (aq.l1 (k+d+1) t21 t38) (decide (0=t21.1)))=aq.j2 (k+d+1) t21 (i:Int) t (pc s.number m,{s with number:=IntKind.u32.wrap (s.number+1)}) (aq.l1 (k+d+1) t21 t38) u0:=by
    rw [←hu0,htw]
    by_cases c:s.c.Mode=0
    ·rw [if_pos (decide_eq_true c),decide_eq_true c];rfl
    ·rw [if_neg (by simpa using c),decide_eq_false c];rfl
   rw [ej]
   unfold aq.j2
   have tl:∀(z:aa),z.c=s.c→∀(A:Bool→Option (St.Told × aa)),((bu.f z).bind fun t78=>if t78=true then A true else A (decide (1=t21.1)))=A u1:=by
    intro z hz A
    rw [St.twice_eq,bsome,hz,←hu1,htw]
    by_cases c:s.c.Mode=0
    ·rw [if_pos (decide_eq_true c),decide_eq_true c];rfl
    ·rw [if_neg (by simpa using c),decide_eq_false c];rfl
   cases hq0:u0 with
   |true=>
    rw [hq0] at f0
    rw [if_pos rfl] at f0 ⊢
    rw [put0_x (s:={s with number:=IntKind.u32.wrap (s.number+1)}) (t:=t) (p:=pc s.number m) g1 (by omega) (by omega) (by show (s.sides.1.ring.b.length:Int)+(frm (pc s.number m) s.c.Wide).length≤s.sides.1.ring.room;omega) (by omega),bsome]
    refine (tl _ rfl (fun b=>aq.j3 (k+d+1) (i:Int) (pc s.number m,{s with number:=IntKind.u32.wrap (s.number+1)}) (put0 true {s with number:=IntKind.u32.wrap (s.number+1)} (pc s.number m),(t.1++[pc s.number m],t.2)) (aq.l1 (k+d+1) t21 t38) b)).trans ?_
    unfold aq.j3
    cases hq1:u1 with
    |true=>
     rw [hq1] at f1
     rw [if_pos rfl] at f1 ⊢
     rw [put1_x (s:=put0 true {s with number:=IntKind.u32.wrap (s.number+1)} (pc s.number m)) (t:=(t.1++[pc s.number m],t.2)) (p:=pc s.number m) g2 (by omega) (by show t.2.length≤_;omega) (by show (s.sides.2.ring.b.length:Int)+(frm (pc s.number m) s.c.Wide).length≤s.sides.2.ring.room;omega) (by omega),bsome,ew]
     rfl
    |false=>rw [if_neg (by decide),ew];rfl
   |false=>
    rw [if_neg (by decide)]
    refine (tl _ rfl (fun b=>aq.j4 (k+d+1) (i:Int) t (pc s.number m,{s with number:=IntKind.u32.wrap (s.number+1)}) (aq.l1 (k+d+1) t21 t38) b)).trans ?_
    unfold aq.j4
    cases hq1:u1 with
    |true=>
     rw [hq1] at f1
     rw [if_pos rfl] at f1 ⊢
     rw [put1_x (s:={s with number:=IntKind.u32.wrap (s.number+1)}) (t:=t) (p:=pc s.number m) g2 (by omega) (by show t.2.length≤_;omega) (by show (s.sides.2.ring.b.length:Int)+(frm (pc s.number m) s.c.Wide).length≤s.sides.2.ring.room;omega) (by omega),bsome,ew]
     rfl
    |false=>rw [if_neg (by decide),ew];rfl
  have len1:∀(u:Bool) (l:List (List Int)) (b:List Int),l.length≤i→(tell u l b).length≤i+1:=fun u l b h=>by unfold tell;split<;>(try rw [List.length_append])<;>(try simp only [List.length_cons,List.length_nil])<;>omega
  have oc:∀u:Bool,∀b:List Int,(oct s.c.Wide (on u [b])).length=if u=true then (frm b s.c.Wide).length else 0:=fun u b=>by
   rw [oct_len];cases u
   ·rfl
   ·rfl
  have ih:=l1_x t21 t38 tw hl hB d (i+1) (one u0 u1 s m) (tell u0 t.1 (pc s.number m),tell u1 t.2 (pc s.number m)) k (by omega) (by rw [sm.c];exact htw) r1.g1 r1.g2 (len1 _ _ _ l1) (len1 _ _ _ l2)
   (by rw [hu0,sm.c,on1,r1.m1,r1.b1,List.length_append,oc];omega) (by rw [hu1,sm.c,on1,r1.m2,r1.b2,List.length_append,oc];omega) hk
  rw [hu0,hu1,on1] at ih
  rw [ep,on_cons u0,on_cons u1]
  refine ⟨hh.trans (ih.1.trans ?_),?_⟩
  ·dsimp only
   rw [tell_on,tell_on,List.append_assoc,List.append_assoc];rfl
  ·exact r1.trans sm.c ih.2
end Sx
namespace Sx
open Fr (By)
open Aq (AI big)
open Fl (frm)
def kq (q l:Int):List Int:=(dE.f q l).getD []
theorem kq_eq (q l:Int):dE.f q l=some (kq q l)∧By (kq q l)∧(kq q l).length=2:=by
 obtain ⟨r,hr,h1,h2⟩:=St.kput_ok q l
 have e:kq q l=r:=by unfold kq;rw [hr];rfl
 rw [e];exact ⟨hr,h1,h2⟩
def rq (s:aa) (p:Int × aH):List (List Int):=if (s.steps+1)%s.c.Keep=0 then [[1]++kq p.2.own p.1] else []
def tws (s:aa):Bool:=decide (s.c.Mode=0)
def arqS (s:aa) (p:Int × aH):ae:=Aq.pass (if tws s=true∨p.1=s.line then s.arq else Aq.again s.arq) 1
def t0 (s:aa) (p:Int × aH):List (List Int):=on (tws s||decide (0=p.1)) (pcs s.number (arqS s p).out)++rq s p
def t1 (s:aa) (p:Int × aH):List (List Int):=on (tws s||decide (1=p.1)) (pcs s.number (arqS s p).out)++rq s p
structure Sy (s:aa) (m1 m2:Int × ap) (p:Int × aH) (r:aa):Prop where
 c:r.c=s.c
 arq:r.arq=St.emp (arqS s p)
 aps:r.aps=p.2
 tw:r.twins=s.twins
 steps:r.steps=s.steps+1
 line:r.line=p.1
 r1:r.sides.1.reader=s.sides.1.reader
 m1:r.sides.1.monitor=m1.2
 c1:r.sides.1.counts=s.sides.1.counts
 r2:r.sides.2.reader=s.sides.2.reader
 m2:r.sides.2.monitor=m2.2
 c2:r.sides.2.counts=s.sides.2.counts
 rg:Rg s r (t0 s p) (t1 s p)
 num:∃l,r.number=(many (tws s||decide (0=p.1)) (tws s||decide (1=p.1)) (arqS s p).out l).number∧l.number=s.number
theorem fl_app (w:Bool):∀a b:List (List Int),fl w (a++b)=fl w a+fl w b
 |[],b=>(Nat.zero_add _).symm
 |x::a,b=>by show (frm x w).length+fl w (a++b)=(frm x w).length+fl w a+fl w b;rw [fl_app w a b,Nat.add_assoc]
theorem l1_end (t21:Int × aH) (t38:List (List Int) × ae) {s:aa} {t:St.Told} (hk:1≤s.c.Keep) (hs:0≤s.steps∧s.steps≤1000000000000) (g1:Mo.GI s.sides.1.ring) (g2:Mo.GI s.sides.2.ring) (l1:t.1.length≤100000) (l2:t.2.length≤100000)
  (f0:(s.sides.1.ring.b.length:Int)+fl s.c.Wide (if (s.steps+1)%s.c.Keep=0 then [[1]++kq s.aps.own t21.1] else [])≤s.sides.1.ring.room) (f1:(s.sides.2.ring.b.length:Int)+fl s.c.Wide (if (s.steps+1)%s.c.Keep=0 then [[1]++kq s.aps.own t21.1] else [])≤s.sides.2.ring.room):
  ∃r,(∀k,3000≤k→aq.l1 (k+1) t21 t38 ((t38.1.length:Nat):Int) s t=some ((t.1++(if (s.steps+1)%s.c.Keep=0 then [[1]++kq s.aps.own t21.1] else []),t.2++(if (s.steps+1)%s.c.Keep=0 then [[1]++kq s.aps.own t21.1] else [])),r))∧Same {s with steps:=s.steps+1} r∧r.number=s.number∧Rg s r (if (s.steps+1)%s.c.Keep=0 then [[1]++kq s.aps.own t21.1] else []) (if (s.steps+1)%s.c.Keep=0 then [[1]++kq s.aps.own t21.1] else []):=by
 obtain ⟨q1,q2,q3⟩:=kq_eq s.aps.own t21.1
 have e64:w64 (s.steps+1)=s.steps+1:=w64_in ⟨by omega,by omega⟩
 have em:(s.steps+1).tmod s.c.Keep=(s.steps+1)%s.c.Keep:=Int.tmod_eq_emod_of_nonneg (by omega)
 have head:∀k,aq.l1 (k+1) t21 t38 ((t38.1.length:Nat):Int) s t=if (s.steps+1)%s.c.Keep=0 then (aR.f k {s with steps:=s.steps+1} t 0 ([1]++kq s.aps.own t21.1)).bind fun t126=>(aR.f k t126.1 t126.2 1 ([1]++kq s.aps.own t21.1)).bind fun t129=>some (t129.2,t129.1) else some (t,{s with steps:=s.steps+1}):=by
  intro k
  rw [aq.l1,if_neg (by omega),if_pos (by omega),e64,em]
  unfold ez.f
  by_cases c:(s.steps+1)%s.c.Keep=0
  ·rw [if_pos c,if_pos c,bsome,q1,bsome,if_pos (by rw [q3];simp)]
  ·rw [if_neg c,if_neg c]
 by_cases c:(s.steps+1)%s.c.Keep=0
 ·rw [if_pos c] at f0 f1
  simp only [if_pos c] at head ⊢
  have pl:([1]++kq s.aps.own t21.1).length=3:=by rw [List.length_append,q3];rfl
  have pB:By ([1]++kq s.aps.own t21.1):=Fr.By.app (fun z hz=>by simp at hz;omega) q2
  generalize ([1]++kq s.aps.own t21.1)=p at pl pB f0 f1 head ⊢
  have f0':(s.sides.1.ring.b.length:Int)+(frm p s.c.Wide).length≤s.sides.1.ring.room:=by
   have:fl s.c.Wide [p]=(frm p s.c.Wide).length:=Nat.add_zero _
   omega
  have f1':(s.sides.2.ring.b.length:Int)+(frm p s.c.Wide).length≤s.sides.2.ring.room:=by
   have:fl s.c.Wide [p]=(frm p s.c.Wide).length:=Nat.add_zero _
   omega
  have a:=put0_rg (s:={s with steps:=s.steps+1}) g1 g2 true (b:=p) (by omega) pB (fun _=>f0')
  have b:=put1_rg (s:=put0 true {s with steps:=s.steps+1} p) a.g1 a.g2 true (b:=p) (by omega) pB (fun _=>f1')
  have ab:=a.trans (put0_same true _ p).c b
  rw [List.append_nil,List.nil_append] at ab
  refine ⟨put1 true (put0 true {s with steps:=s.steps+1} p) p,fun k hk3=>?_,(put0_same true _ p).trans (put1_same true _ p),rfl,⟨ab.b1,ab.b2,ab.g1,ab.g2,ab.d1,ab.d2,ab.m1,ab.m2⟩⟩
  rw [head,put0_x (s:={s with steps:=s.steps+1}) (t:=t) (p:=p) g1 (by omega) (by omega) f0' hk3,bsome,put1_x (s:=put0 true {s with steps:=s.steps+1} p) (t:=(t.1++[p],t.2)) (p:=p) g2 (by omega) (by dsimp only;omega) f1' hk3,bsome]
 ·simp only [if_neg c,List.append_nil] at head ⊢
  exact ⟨_,fun k _=>head k,Same.rfl _,rfl,⟨(List.append_nil _).symm,(List.append_nil _).symm,g1,g2,Eq.refl _,Eq.refl _,Eq.refl _,Eq.refl _⟩⟩
theorem on_len (u:Bool) (l:List (List Int)):(on u l).length≤l.length:=by cases u;exact Nat.zero_le _;exact Nat.le_refl _
theorem pcs_len:∀(l:List (List Int)) (n:Int),(pcs n l).length=l.length
 |[],_=>rfl
 |m::l,n=>by show (pcs _ l).length+1=l.length+1;rw [pcs_len l]
set_option maxHeartbeats 4000000 in
theorem step_x {s:aa} {C:Nat} {S0:Int} (h:St.SI s C S0) (hC:C+30000≤big) {m1 m2:Int × ap} {p:Int × aH} (hm1:bp.f s.sides.1.monitor 1=some m1) (hm2:bp.f s.sides.2.monitor 1=some m2) (hp:co.f s.aps m1.1 m2.1=some p)
  (ho:(arqS s p).out.length≤90000) (hoB:∀b∈(arqS s p).out,By b∧b.length≤1006) (f0:(s.sides.1.ring.b.length:Int)+fl s.c.Wide (t0 s p)≤s.sides.1.ring.room) (f1:(s.sides.2.ring.b.length:Int)+fl s.c.Wide (t1 s p)≤s.sides.2.ring.room):
  ∃r,(∀k,C+1600000≤k→aq.f k s=some ((t0 s p,t1 s p),r))∧Sy s m1 m2 p r:=by
 have hst:=h.steps
 have hb:big=1000000000000:=Eq.refl _
 have hkp:=h.keep
 have ha:∀k,C+1400000≤k→∀b:Bool,b=(if decide (s.c.Mode=0)=true then false else (!(decide (p.1=s.line))))→(aq.j5 k s m1 m2 p b)=aq.l1 k p ((arqS s p).out,St.emp (arqS s p)) 0 {s with arq:=St.emp (arqS s p),aps:=p.2,line:=p.1,sides:=({s.sides.1 with monitor:=m1.2},{s.sides.2 with monitor:=m2.2})} ([],[]):=by
  intro k hk b hbb
  unfold aq.j5
  by_cases c:b=true
  ·have e1:arqS s p=Aq.pass (Aq.again s.arq) 1:=by
    unfold arqS tws
    rw [if_neg]
    rintro (q|q)
    ·rw [if_pos q] at hbb;rw [hbb] at c;cases c
    ·rw [decide_eq_true q] at hbb
     rw [hbb] at c
     split at c<;>cases c
   rw [if_pos c]
   refine Eq.trans (congrArg (fun z=>Option.bind z _) (Aq.again_eq h.arq (by omega) (by omega):dO.f k s.arq=_)) ?_
   rw [bsome]
   unfold aq.j0 dW.f
   have e2:=Aq.passes_eq (Aq.again_ai h.arq) (by omega) 1 (k:=k) (by omega)
   refine Eq.trans (congrArg (fun z=>Option.bind z _) (e2:bq.f k (Aq.again s.arq) 1=_)) ?_
   rw [bsome,bsome,e1]
   rfl
  ·have e1:arqS s p=Aq.pass s.arq 1:=by
    unfold arqS tws
    rw [if_pos]
    by_cases q:s.c.Mode=0
    ·exact .inl (decide_eq_true q)
    ·right
     rw [decide_eq_false q,if_neg (by decide)] at hbb
     by_cases z:p.1=s.line
     ·exact z
     ·rw [decide_eq_false z] at hbb;exact absurd hbb c
   rw [if_neg c]
   unfold aq.j0 dW.f
   have e2:=Aq.passes_eq h.arq (by omega) 1 (k:=k) (by omega)
   refine Eq.trans (congrArg (fun z=>Option.bind z _) (e2:bq.f k s.arq 1=_)) ?_
   rw [bsome,bsome,e1]
   rfl
 have head:∀k,C+1400000≤k→aq.f k s=aq.l1 k p ((arqS s p).out,St.emp (arqS s p)) 0 {s with arq:=St.emp (arqS s p),aps:=p.2,line:=p.1,sides:=({s.sides.1 with monitor:=m1.2},{s.sides.2 with monitor:=m2.2})} ([],[]):=by
  intro k hk
  rw [←ha k hk _ (Eq.refl _)]
  unfold aq.f
  rw [hm1,bsome,hm2,bsome,hp,bsome,St.twice_eq,bsome]
  split<;>rfl
 let s1:aa:={s with arq:=St.emp (arqS s p),aps:=p.2,line:=p.1,sides:=({s.sides.1 with monitor:=m1.2},{s.sides.2 with monitor:=m2.2})}
 have f0':=f0
 have f1':=f1
 unfold t0 at f0
 unfold t1 at f1
 rw [fl_app] at f0 f1
 have X:=fun (k:Nat) (hk:3000≤k)=>l1_x p ((arqS s p).out,St.emp (arqS s p)) (tws s) (by dsimp only;omega) hoB (arqS s p).out.length 0 s1 ([],[]) k (by dsimp only;omega) (Eq.refl _) h.one.ring h.two.ring (Nat.le_refl _) (Nat.le_refl _)
  (by show (s.sides.1.ring.b.length:Int)+fl s.c.Wide (on (tws s||decide (0=p.1)) (pcs s.number (arqS s p).out))≤s.sides.1.ring.room;omega) (by show (s.sides.2.ring.b.length:Int)+fl s.c.Wide (on (tws s||decide (1=p.1)) (pcs s.number (arqS s p).out))≤s.sides.2.ring.room;omega) hk
 have X0:=(X 3000 (Nat.le_refl _)).2
 have sm:=many_same (tws s||decide (0=p.1)) (tws s||decide (1=p.1)) (arqS s p).out s1
 have eo:((arqS s p).out,St.emp (arqS s p)).1.drop 0=(arqS s p).out:=List.drop_zero
 rw [eo] at X0
 have hon:=fun u=>Nat.le_trans (on_len u (pcs s.number (arqS s p).out)) (Nat.le_of_eq (pcs_len _ _))
 have E:=l1_end p ((arqS s p).out,St.emp (arqS s p)) (s:=many (tws s||decide (0=p.1)) (tws s||decide (1=p.1)) (arqS s p).out s1) (t:=(on (tws s||decide (0=p.1)) (pcs s.number (arqS s p).out),on (tws s||decide (1=p.1)) (pcs s.number (arqS s p).out)))
  (by rw [sm.c];exact hkp.1) (by rw [sm.steps];show 0≤s.steps∧s.steps≤_;omega) X0.g1 X0.g2 (by have:=hon (tws s||decide (0=p.1));dsimp only;omega) (by have:=hon (tws s||decide (1=p.1));dsimp only;omega)
  (by rw [sm.c,sm.steps,sm.aps,X0.b1,X0.m1,List.length_append,oct_len];show ((s.sides.1.ring.b.length+fl s.c.Wide (on (tws s||decide (0=p.1)) (pcs s.number (arqS s p).out)):Nat):Int)+fl s.c.Wide (rq s p)≤s.sides.1.ring.room;omega)
  (by rw [sm.c,sm.steps,sm.aps,X0.b2,X0.m2,List.length_append,oct_len];show ((s.sides.2.ring.b.length+fl s.c.Wide (on (tws s||decide (1=p.1)) (pcs s.number (arqS s p).out)):Nat):Int)+fl s.c.Wide (rq s p)≤s.sides.2.ring.room;omega)
 have eq0:(if ((many (tws s||decide (0=p.1)) (tws s||decide (1=p.1)) (arqS s p).out s1).steps+1)%(many (tws s||decide (0=p.1)) (tws s||decide (1=p.1)) (arqS s p).out s1).c.Keep=0 then [[1]++kq (many (tws s||decide (0=p.1)) (tws s||decide (1=p.1)) (arqS s p).out s1).aps.own p.1] else [])=rq s p:=by
  rw [sm.c,sm.steps,sm.aps];rfl
 obtain ⟨r,hr,hr1,hr2,hr3⟩:=E
 rw [eq0] at hr hr3
 have full:∀k,C+1600000≤k→aq.f k s=some ((t0 s p,t1 s p),r):=by
  intro k hk
  obtain ⟨k,rfl⟩:∃j,k=j+(arqS s p).out.length+1:=⟨k-(arqS s p).out.length-1,by omega⟩
  rw [head _ (by omega)]
  have x1:=(X k (by omega)).1
  rw [eo] at x1
  refine Eq.trans x1 ?_
  exact hr k (by omega)
 have R:=X0.trans sm.c hr3
 refine ⟨r,full,?_⟩
 exact
  {c:=hr1.c.trans sm.c
   arq:=hr1.arq.trans sm.arq
   aps:=hr1.aps.trans sm.aps
   tw:=hr1.tw.trans sm.tw
   steps:=hr1.steps.trans (by show (many _ _ _ s1).steps+1=s.steps+1;rw [sm.steps])
   line:=hr1.line.trans sm.line
   r1:=hr1.r1.trans sm.r1
   m1:=hr1.m1.trans sm.m1
   c1:=hr1.c1.trans sm.c1
   r2:=hr1.r2.trans sm.r2
   m2:=hr1.m2.trans sm.m2
   c2:=hr1.c2.trans sm.c2
   rg:=⟨R.b1,R.b2,R.g1,R.g2,R.d1,R.d2,R.m1,R.m2⟩
   num:=⟨s1,hr2,Eq.refl _⟩}
end Sx
namespace St
def cz (x:aM):Int × Int × Int × Int:=(x.Bad,x.Aborts,x.Runts,x.Giants)
structure Kc (s r:aa):Prop where
 c:r.c=s.c
 num:r.number=s.number
 steps:r.steps=s.steps
 line:r.line=s.line
 r1:r.sides.1.reader=s.sides.1.reader
 m1:r.sides.1.monitor=s.sides.1.monitor
 g1:r.sides.1.ring=s.sides.1.ring
 r2:r.sides.2.reader=s.sides.2.reader
 m2:r.sides.2.monitor=s.sides.2.monitor
 g2:r.sides.2.ring=s.sides.2.ring
 z1:cz r.sides.1.counts=cz s.sides.1.counts
 z2:cz r.sides.2.counts=cz s.sides.2.counts
theorem Kc.rfl (s:aa):Kc s s:=⟨Eq.refl _,Eq.refl _,Eq.refl _,Eq.refl _,Eq.refl _,Eq.refl _,Eq.refl _,Eq.refl _,Eq.refl _,Eq.refl _,Eq.refl _,Eq.refl _⟩
theorem came_keep {k:Nat} {s r:aa} {l:Int} {b:List Int} (e:aB.f k s l b=some r):Kc s r:=by
 have j1:∀x,aB.j1 s b x=some r→Kc s r:=fun x e=>by
  unfold aB.j1 at e
  split at e
  ·split at e
   ·obtain ⟨q,_,e⟩:=Option.bind_eq_some_iff.1 e
    split at e
    ·obtain ⟨p,_,e⟩:=Option.bind_eq_some_iff.1 e
     exact (by rw [←Option.some.inj e];exact ⟨Eq.refl _,Eq.refl _,Eq.refl _,Eq.refl _,Eq.refl _,Eq.refl _,Eq.refl _,Eq.refl _,Eq.refl _,Eq.refl _,Eq.refl _,Eq.refl _⟩)
    ·exact (by rw [←Option.some.inj e];exact Kc.rfl s)
   ·cases e
  ·exact (by rw [←Option.some.inj e];exact Kc.rfl s)
 have j2:∀x,aB.j2 s b x=some r→Kc s r:=fun x e=>by
  unfold aB.j2 at e
  split at e
  ·split at e
   ·obtain ⟨q,_,e⟩:=Option.bind_eq_some_iff.1 e
    split at e
    ·obtain ⟨p,_,e⟩:=Option.bind_eq_some_iff.1 e
     exact (by rw [←Option.some.inj e];exact ⟨Eq.refl _,Eq.refl _,Eq.refl _,Eq.refl _,Eq.refl _,Eq.refl _,Eq.refl _,Eq.refl _,Eq.refl _,Eq.refl _,Eq.refl _,Eq.refl _⟩)
    ·exact (by rw [←Option.some.inj e];exact Kc.rfl s)
   ·cases e
  ·exact (by rw [←Option.some.inj e];exact Kc.rfl s)
 have j0:∀x,aB.j0 k s l b x=some r→Kc s r:=fun x e=>by
  unfold aB.j0 at e
  split at e
  ·exact (by rw [←Option.some.inj e];exact ⟨Eq.refl _,Eq.refl _,Eq.refl _,Eq.refl _,Eq.refl _,Eq.refl _,Eq.refl _,Eq.refl _,Eq.refl _,Eq.refl _,Eq.refl _,Eq.refl _⟩)
  ·iterate 4 (split at e;rotate_left;cases e)
   obtain ⟨q,_,e⟩:=Option.bind_eq_some_iff.1 e
   split at e
   ·split at e
    ·obtain ⟨p,_,e⟩:=Option.bind_eq_some_iff.1 e
     exact (by rw [←Option.some.inj e];exact ⟨Eq.refl _,Eq.refl _,Eq.refl _,Eq.refl _,Eq.refl _,Eq.refl _,Eq.refl _,Eq.refl _,Eq.refl _,Eq.refl _,Eq.refl _,Eq.refl _⟩)
    ·cases e
   ·split at e
    ·split at e<;>exact (by rw [←Option.some.inj e];exact ⟨Eq.refl _,Eq.refl _,Eq.refl _,Eq.refl _,Eq.refl _,Eq.refl _,Eq.refl _,Eq.refl _,Eq.refl _,Eq.refl _,Eq.refl _,Eq.refl _⟩)
    ·cases e
 unfold aB.f at e
 split at e
 ·split at e
  ·split at e
   ·obtain ⟨q,_,e⟩:=Option.bind_eq_some_iff.1 e
    split at e
    ·exact j0 _ e
    ·obtain ⟨q,_,e⟩:=Option.bind_eq_some_iff.1 e
     exact j0 _ e
   ·split at e
    ·exact j1 _ e
    ·exact j1 _ e
  ·split at e
   ·exact j2 _ e
   ·exact j2 _ e
 ·cases e
theorem came_rd1 {k:Nat} {s r:aa} {l:Int} {b:List Int} (e:aB.f k s l b=some r):r.sides.1.reader=s.sides.1.reader:=(came_keep e).r1
theorem came_rd2 {k:Nat} {s r:aa} {l:Int} {b:List Int} (e:aB.f k s l b=some r):r.sides.2.reader=s.sides.2.reader:=(came_keep e).r2
end St
end Go.Proofs.YtaejcbpijdacmaaGreat
