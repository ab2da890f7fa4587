/- Whether two programs are the same; two plans that are not the same have two programs. -/
import Derived.Test.YtgmidllbkjdnnaaDoorLsC
namespace Go.Proofs.YtgmidllbkjdnnaaDoor.W
open Go.Proofs.YtgmidllbkjdnnaaDoor.Flat
set_option linter.unusedVariables false
set_option linter.unusedSimpArgs false
theorem zpW {c:GCode} (h:c.t.wt≤2097152):CIn c:=by
 obtain⟨op,S,N,V,P,K,B,As⟩:=c
 simp only[GCode.t,T.wt,wts,GKey.zl,zF,zw]at h
 have h1:=zcD (f:=fun x=>T.v (.string x)) S
 have h2:=zcD (f:=fun x=>T.v (.int .i64 x)) N
 have h3:=zcD (f:=fun x=>T.v (.string x)) As
 have h4:=zcD (f:=fun x=>T.v (.int .i64 x)) K
 have h5:=zcD (f:=GKey.t) B
 have hv:=zfl V.t
 have hp:=zfl P.t
 exact CIn.mk (by omega) (by omega) (by omega) (by omega) (by omega) (zjH 2097152 V (by omega) (by omega)) (zmG 2097152 P (by omega) (by omega)) (by omega)
def RW (r:List (List GCode)):Prop:=r.length≤2097152∧∀row∈r,row.length≤2097152∧∀c∈row,c.t.wt≤2097152
theorem zp9 {r:List (List GCode)} (h:(GProg.t (.mk r)).wt≤2097152):RW r:=by
 simp only[GProg.t,T.wt,wts,zB]at h
 have h1:=zcD (f:=fun x=>T.sl false 14 (GCode.ts x)) r
 refine⟨by omega,fun row hr=> ?_⟩
 have h2:=zc9 (f:=fun x=>T.sl false 14 (GCode.ts x)) hr
 rw[T.wt,GCode.zl]at h2
 have h3:=zcD (f:=GCode.t) row
 refine⟨by omega,fun c hc=> ?_⟩
 have h4:=zc9 (f:=GCode.t) hc
 omega
theorem RW.rin {r:List (List GCode)} (h:RW r):RIn r:=⟨by have:=h.1;omega,fun row hr=>⟨by have:=(h.2 row hr).1;omega,fun c hc=>zpW ((h.2 row hr).2 c hc)⟩⟩
theorem zo5 {g:List GStep→Nat}:∀(l:List GStep) (n:Nat),∀c0∈zeh g l n,∃x∈l,∃m,c0=codeF g x m
 | [],n,c0,h=>by cases h
 | x::xs,n,c0,h=>by
  rw[zeh]at h
  rcases List.mem_cons.1 h with rfl | h
  ·exact⟨x,List.mem_cons_self ..,n,rfl⟩
  ·obtain⟨y,hy,m,e⟩:=zo5 xs _ c0 h
   exact⟨y,List.mem_cons_of_mem _ hy,m,e⟩
theorem znv {g:List GStep→Nat}:∀(bs:List GBy) (n:Nat),(keysF g bs n).length=bs.length
 | [],_=>rfl
 | b::bs,n=>by
  rw[keysF]
  split<;>rw[List.length_cons,znv bs,List.length_cons]
theorem zkw {R:List GStep→Nat→List (List GCode)} {g:List GStep→Nat}:∀(ts:List (List GStep)) (n:Nat),∀row∈blocks R g ts n,∃t∈ts,∃m,row∈R t m
 | [],n,row,h=>by cases h
 | t::ts,n,row,h=>by
  rw[blocks]at h
  rcases List.mem_append.1 h with h | h
  ·exact⟨t,List.mem_cons_self ..,n,h⟩
  ·obtain⟨u,hu,m,e⟩:=zkw ts _ row h
   exact⟨u,List.mem_cons_of_mem _ hu,m,e⟩
theorem zkx:∀(f:Nat) (l:List GStep) (n:Nat),wL l≤2097152→∀row∈rowsF f l n,row.length≤4194304∧∀c0∈row,CIn c0
 | 0,l,n,hw,row,h=>by
  rw[rowsF,List.mem_singleton]at h
  subst h
  exact⟨Nat.zero_le _,fun c0 h=>by cases h⟩
 | f+1,l,n,hw,row,h=>by
  have hin:=zfO hw
  have hlen:=zfm l
  rw[rowsF]at h
  rcases List.mem_cons.1 h with rfl | h
  ·refine⟨by rw[zjO];omega,fun c0 h=> ?_⟩
   obtain⟨x,hx,m,rfl⟩:=zo5 l _ c0 h
   have hs:=hin x hx
   have wx:=zgn hx
   cases hs with
   | @mk op S N V P Ts By As hS hN hA sS sA hV hP hT hB tl bl aT aB=>
    simp only[GStep.t,T.wt,wts]at wx
    simp only[codeF,opOf,sOf,nOf,vOf,pOf,tOf,byOf,asOf]
    exact CIn.mk (by omega) (by omega) (by omega) (by rw[zdN];omega) (by rw[znv];omega) hV hP (by omega)
  ·obtain⟨t,ht,m,hr⟩:=zkw _ _ row h
   exact zkx f t m (by have:=zns ht;omega) row hr
theorem zn5 (f:Nat) (l:List GStep) (n:Nat) (hw:wL l≤2097152):RIn (rowsF f l n):=⟨by have:=zmN f l;rw[zgx];omega,zkx f l n hw⟩
section
variable {rows:List (List GCode)}
theorem znw {row:List GCode} {i:Nat} (hi:rows[i]?=some row) (hl:row.length≤2097152) (hc:∀c∈row,c.t.wt≤2097152):∀(d j:Nat) (a:Int),j+d=row.length→∃s z1 z2,Ev fun n=>∀K,d < K→zbU (tab n) n K a (i:Int) (j:Int) (.mk rows)=some (s,(i:Int),z1,z2,.mk rows)
 | 0,j,a,hj=>⟨_,_,_,Ev.pure fun n K hK=>by
  obtain⟨K,rfl⟩:∃j,K=j+1:=⟨K-1,by omega⟩
  rw[zbU,if_pos (by simp),Int.toNat_natCast,hi]
  dsimp only
  rw[if_neg (by simp;omega)]⟩
 | d+1,j,a,hj=>by
  obtain⟨c,u1,u3,u2⟩:=at_ (l:=row) (i:=j) (by omega)
  by_cases ha:a < 600
  ·have hw:=wr1 (i:=j) (L:=row.length) (by omega) (by omega)
   obtain⟨r,hr⟩:=zng 2097152 [.mk 0 (cS c) (cN c) (cV c) (cP c) [] [] (cAs c)] (by
    have:=hc c u3
    obtain⟨op,S,N,V,P,K,B,As⟩:=c
    simp only[cS,cN,cV,cP,cAs,wL,List.map_cons,List.map_nil,GStep.t,GCode.t,T.wt,wts,zy,GBy.zl,GKey.zl]at this⊢
    omega) (Nat.le_refl _) 600 14
   obtain⟨s,z1,z2,ih⟩:=znw hi hl hc d (j+1) (IntKind.wrap .i64 ((IntKind.wrap .i64 ((IntKind.wrap .i64 (a+r))+((cKids c).length:Int)))+((cBy c).length:Int))) (by omega)
   refine⟨s,z1,z2,(hr.and ih).mono fun n hh K hK=> ?_⟩
   obtain⟨hr,ih⟩:=hh
   obtain⟨K,rfl⟩:∃j,K=j+1:=⟨K-1,by omega⟩
   rw[zbU,if_pos (by simp),Int.toNat_natCast,hi]
   dsimp only
   rw[if_pos (by simp;omega),if_pos (by simpa using ha),zdb,if_pos (by simp),Int.toNat_natCast,hi]
   dsimp only
   rw[if_pos (by simp),Int.toNat_natCast,u1]
   have ih:=ih K (by omega)
   clear u1 u2 u3
   obtain⟨x1,x2,x3,⟨x4,x5,x6,x7,x8⟩,⟨x9,xa,xb⟩,xc,xd,xe⟩:=c
   simp only[cS,cN,cV,cP,cAs,cKids,cBy]at hr ih
   simp only[hr,hw,ih]
  ·refine⟨a,(j:Int),decide (a < 600),Ev.pure fun n K hK=> ?_⟩
   obtain⟨K,rfl⟩:∃j,K=j+1:=⟨K-1,by omega⟩
   rw[zbU,if_pos (by simp),Int.toNat_natCast,hi]
   dsimp only
   rw[if_pos (by simp;omega),if_neg (by simpa using ha)]
theorem znx (hr:RW rows):∀(d i:Nat) (a:Int),i+d=rows.length→∃s z1 z2,Ev fun n=>∀K,d < K→zbV (tab n) n K a (i:Int) (.mk rows)=some (s,z1,z2,.mk rows)
 | 0,i,a,hi=>⟨_,_,_,Ev.pure fun n K hK=>by
  obtain⟨K,rfl⟩:∃j,K=j+1:=⟨K-1,by omega⟩
  rw[zbV,if_neg (by simp;omega)]⟩
 | d+1,i,a,hi=>by
  obtain⟨row,u1,u3,u2⟩:=at_ (l:=rows) (i:=i) (by omega)
  obtain⟨q1,q2⟩:=hr.2 row u3
  by_cases ha:a < 600
  ·have hw:=wr1 (i:=i) (L:=rows.length) (by omega) (by have:=hr.1;omega)
   obtain⟨s,z1,z2,g3⟩:=znw u1 q1 q2 row.length 0 a (by omega)
   obtain⟨s',z3,z4,ih⟩:=znx hr d (i+1) s (by omega)
   refine⟨s',z3,z4,((g3.and (Ev.ge (row.length+1))).and ih).mono fun n hh K hK=> ?_⟩
   obtain⟨⟨g3,hn⟩,ih⟩:=hh
   obtain⟨K,rfl⟩:∃j,K=j+1:=⟨K-1,by omega⟩
   have g3:zbU (tab n) n n a (i:Int) 0 (.mk rows)=_:=g3 n (by omega)
   have ih:=ih K (by omega)
   rw[zbV,if_pos (by simp;omega),if_pos (by simpa using ha)]
   simp only[zdc,g3,hw,ih]
  ·refine⟨a,(i:Int),decide (a < 600),Ev.pure fun n K hK=> ?_⟩
   obtain⟨K,rfl⟩:∃j,K=j+1:=⟨K-1,by omega⟩
   rw[zbV,if_pos (by simp;omega),if_neg (by simpa using ha)]
theorem zpv (hr:RW rows):∃s,Ev fun n=>(tab n).zde (.mk rows)=some s:=by
 obtain⟨s,z1,z2,h⟩:=znx hr rows.length 0 (rows.length:Int) (by omega)
 refine⟨s,Ev.step ((h.and (Ev.ge (rows.length+1))).mono fun n hh=> ?_)⟩
 have h:zbV (tab n) n n (rows.length:Int) 0 (.mk rows)=_:=hh.1 n (by have:=hh.2;omega)
 rw[zjj,zde,h]
end
def lowR (l:List GStep):List (List GCode):=if okL2 l=true then rowsF 11 (cpL 12 l) 0 else []
theorem zny {l:List GStep} (h:wL l≤2097152):Ev fun n=>(tab n).zbC l=some (.mk (lowR l),if okL2 l=true then 0 else 2):=(zoV h).mono fun n hn=>by
 rw[hn]
 unfold lowR
 by_cases ho:okL2 l=true
 ·rw[if_pos ho,if_pos ho,if_pos ho]
 ·rw[if_neg ho,if_neg ho,if_neg ho]
theorem zmc {l:List GStep} (h:wL l≤2097152):RIn (lowR l):=by
 unfold lowR
 by_cases ho:okL2 l=true
 ·rw[if_pos ho]
  exact zn5 11 _ 0 (Nat.le_trans (zk4 12 l) h)
 ·rw[if_neg ho]
  exact⟨Nat.zero_le _,fun row hr=>by cases hr⟩
theorem Pure.LowerSame:∀(x0:List GStep) (x1:List GStep) (x2:GProg),wts [.sl false 14 (GStep.ts x0),.sl false 14 (GStep.ts x1),x2.t]≤1048576→∃n,(tab n).zbJ x0 x1 x2=some true:=by
 intro a b p hw
 obtain⟨rows⟩:=p
 simp only[wts,T.wt,GStep.zl]at hw
 have ha:wL a≤1048576:=by unfold wL;omega
 have hb:wL b≤1048576:=by unfold wL;omega
 have hp:RW rows:=zp9 (by omega)
 have hpi:=hp.rin
 obtain⟨r1,e1⟩:=zlW (l:=a) (by omega)
 obtain⟨r2,e2⟩:=zlW (l:=b) (by omega)
 obtain⟨r3,e3⟩:=zpv hp
 have e4:=zny (l:=a) (by omega)
 have e5:=zny (l:=b) (by omega)
 have ia:=zmc (l:=a) (by omega)
 have ib:=zmc (l:=b) (by omega)
 have e6:=zeX ia hpi
 have e7:=zmT ia hpi
 have e8:=zeX hpi ia
 have e9:=zeX hpi hpi
 have ea:=zeX ia ib
 have eb:=zmL (a:=a) (b:=b) (by omega) (by omega)
 refine Ev.out (Ev.step ((((e1.and (e2.and e3)).and (e4.and e5)).and ((e6.and (e7.and e8)).and (e9.and (ea.and (eb.and zn3))))).mono fun n hh=> ?_))
 obtain⟨⟨⟨e1,e2,e3⟩,e4,e5⟩,⟨e6,e7,e8⟩,e9,ea,eb,hk⟩:=hh
 rw[zgB,zbJ,e1]
 dsimp only
 by_cases hr1:r1=true
 ·rw[if_pos hr1];exact hk
 rw[if_neg hr1,e2]
 dsimp only
 by_cases hr2:r2=true
 ·rw[if_pos hr2];exact hk
 rw[if_neg hr2,e3]
 dsimp only
 by_cases hr3:decide (r3≥600)=true
 ·rw[if_pos hr3];exact hk
 rw[if_neg hr3,zcT,e4]
 dsimp only
 rw[e5]
 dsimp only
 rw[e6]
 dsimp only
 rw[e7]
 dsimp only
 rw[if_pos (by simp),e8]
 dsimp only
 rw[if_pos (by rw[zmR];simp),e9]
 dsimp only
 rw[if_pos (zmS _),zcS]
 by_cases ho:okL2 a=true
 ·rw[if_pos ho,if_neg (by simp)]
  by_cases ho2:okL2 b=true
  ·rw[if_pos ho2,if_neg (by simp),zcR,ea]
   dsimp only
   rw[eb]
   dsimp only
   have h1:zdZ 11 a=true:=by unfold okL2 at ho;rw[Bool.and_eq_true]at ho;exact ho.2
   have h2:zdZ 11 b=true:=by unfold okL2 at ho2;rw[Bool.and_eq_true]at ho2;exact ho2.2
   have e:sameR (lowR a) (lowR b)=zmJ a b:=by
    unfold lowR zmJ
    rw[if_pos ho,if_pos ho2]
    exact zkv 11 2097152 12 a b 0 (by omega) (by omega) h1 h2
   rw[e,if_pos (by simp)]
   exact hk
  ·rw[if_neg ho2,if_pos (by simp)]
   exact hk
 ·rw[if_neg ho,if_pos (by simp)]
  exact hk
end Go.Proofs.YtgmidllbkjdnnaaDoor.W
