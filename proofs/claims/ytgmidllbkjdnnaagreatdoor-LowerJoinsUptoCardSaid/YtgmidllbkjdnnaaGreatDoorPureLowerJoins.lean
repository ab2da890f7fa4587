/- Two plans, one behind the other, laid flat; a plan in a step. -/
import Derived.Test.YtgmidllbkjdnnaaGreatDoorLwB
namespace Go.Proofs.YtgmidllbkjdnnaaGreatDoor.W
open Go.Proofs.YtgmidllbkjdnnaaGreatDoor.Flat
set_option linter.unusedVariables false
set_option linter.unusedSimpArgs false
def lensF:Nat→List GStep→List Nat
 | 0,_=>[0]
 | f+1,l=>l.length::(subsL l).flatMap (lensF f)
theorem ziU {R:List GStep→Nat→List (List GCode)} {g:List GStep→Nat} {s:List GStep→List Nat}:∀(ts:List (List GStep)) (n:Nat),(∀t∈ts,∀m,(R t m).map List.length=s t)→(blocks R g ts n).map List.length=ts.flatMap s
 | [],n,_=>rfl
 | t::ts,n,h=>by rw[blocks,List.map_append,List.flatMap_cons,h t (List.mem_cons_self ..),ziU ts _ fun u hu=>h u (List.mem_cons_of_mem _ hu)]
theorem zfK:∀(f:Nat) (l:List GStep) (n:Nat),(rowsF f l n).map List.length=lensF f l
 | 0,l,n=>rfl
 | f+1,l,n=>by rw[rowsF,List.map_cons,zko,lensF,ziU _ _ fun t _ m=>zfK f t m]
theorem zfL {α β:Type} {f g:α→List β}:∀{l:List α},(∀x∈l,f x=g x)→l.flatMap f=l.flatMap g
 | [],_=>rfl
 | x::xs,h=>by rw[List.flatMap_cons,List.flatMap_cons,h x (List.mem_cons_self ..),zfL fun y hy=>h y (List.mem_cons_of_mem _ hy)]
theorem zmD:∀(f g:Nat) (l:List GStep),f≤g→lensF f (cpL g l)=lensF f l
 | 0,_,_,_=>rfl
 | f+1,0,_,h=>by omega
 | f+1,g+1,l,h=>by
  rw[lensF,lensF,zk3,cpL,List.length_map,List.flatMap_map]
  congr 1
  exact zfL fun t _=>zmD f g t (by omega)
theorem zmE:∀(f:Nat) (l:List GStep),dp f l→lensF (f+1) l=lensF f l
 | 0,l,h=>h.elim
 | f+1,l,h=>by
  rw[lensF,lensF]
  congr 1
  exact zfL fun t ht=>zmE f t (h t ht)
theorem zov (a b:List GStep):subsL (a++b)=subsL a++subsL b:=List.flatMap_append
theorem zkq {r:List (List GCode)} {i k:Nat} (h:(r.map List.length)[i]?=some k):∃row,r[i]?=some row∧row.length=k:=by
 rw[List.getElem?_map]at h
 obtain⟨row,h1,h2⟩:=Option.map_eq_some_iff.1 h
 exact⟨row,h1,h2⟩
theorem zmF {t:Tab} {n:Nat} {P R X:List (List GCode)} (hl:P.length≤4194304) (hX:∀i k,(P.map List.length)[i]?=some k→(X.map List.length)[i+1]?=some k) (hR:∀i k,0 < i→(P.map List.length)[i]?=some k→(R.map List.length)[i]?=some k):∀(d i K:Nat),i+d=P.length→d < K→∃z1 z2,zaB t n K (i:Int) (.mk P) (.mk R) (.mk X)=some (.inr (z1,z2,.mk P,.mk R,.mk X))
 | 0,i,K,hi,hK=>by
  obtain⟨K,rfl⟩:∃j,K=j+1:=⟨K-1,by omega⟩
  exact⟨_,_,by rw[zaB,if_neg (by simp;omega)]⟩
 | d+1,i,K,hi,hK=>by
  obtain⟨K,rfl⟩:∃j,K=j+1:=⟨K-1,by omega⟩
  obtain⟨row,u1,u3,u2⟩:=at_ (l:=P) (i:=i) (by omega)
  have hk:(P.map List.length)[i]?=some row.length:=by rw[List.getElem?_map,u1];rfl
  obtain⟨x5,x1,x2⟩:=zkq (hX i _ hk)
  obtain⟨z1,z2,ih⟩:=zmF (t:=t) (n:=n) hl hX hR d (i+1) K (by omega) (by omega)
  have hw:=wr1 (i:=i) (L:=P.length) (by omega) (by omega)
  refine⟨z1,z2, ?_⟩
  rw[zaB,if_pos (by simp;omega),hw,if_pos (by simp;omega),Int.toNat_natCast,x1]
  dsimp only
  rw[if_pos (by simp),Int.toNat_natCast,u1]
  dsimp only
  rw[if_neg (by simp;omega)]
  by_cases h0:0 < i
  ·obtain⟨y5,y1,y2⟩:=zkq (hR i _ h0 hk)
   rw[if_pos (by simp;omega),y1]
   dsimp only
   rw[if_neg (by simp;omega),ih]
  ·rw[if_neg (by simp;omega),ih]
theorem Pure.LowerJoins:∀(x0:List GStep) (x1:List GStep),wts [.sl false 14 (GStep.ts x0),.sl false 14 (GStep.ts x1)]≤1048576→∃n,(tab n).zbE x0 x1=some true:=by
 intro a b hw
 simp only[wts,T.wt,GStep.zl]at hw
 have hl:wL a+wL b≤1048576:=by unfold wL;omega
 have hla:=zfr a
 have hlb:=zfr b
 have hx:=zqM 28 a
 have hab:=zqu a b
 obtain⟨r1,e1⟩:=zmr (l:=a) (by omega)
 obtain⟨r2,e2⟩:=zmr (l:=b) (by omega)
 have c1:=zh9 (l:=a) (by omega)
 have c2:=zh9 (l:=b) (by omega)
 have s1:=zg5 (l:=a) (by omega)
 have s2:=zg5 (l:=b) (by omega)
 have n1:=znc (l:=a) (by omega)
 have g1:=zib (l:=a) (by omega)
 have g2:=zib (l:=b) (by omega)
 have g3:=zib (l:=a++b) (by omega)
 have g4:=zib (l:=[wh 28 [a] []]) (by omega)
 have hN:Ev fun n=>4194305≤n:=Ev.ge _
 refine Ev.out (Ev.step (((((e1.and e2).and (zou.and (c1.and c2))).and ((s1.and s2).and n1)).and ((g1.and g2).and (g3.and (g4.and hN)))).mono fun n hh=> ?_))
 obtain⟨⟨⟨⟨e1,e2⟩,hk,c1,c2⟩,⟨s1,s2⟩,n1⟩,⟨g1,g2⟩,g3,g4,hN⟩:=hh
 rw[zgS,zbE,e1]
 dsimp only
 by_cases hr1:r1=true
 ·rw[if_pos hr1];exact hk
 rw[if_neg hr1,e2]
 dsimp only
 by_cases hr2:r2=true
 ·rw[if_pos hr2];exact hk
 rw[if_neg hr2,c1]
 dsimp only
 by_cases ha:okL2 a=true
 case neg=>rw[if_neg ha,if_pos (by simp)];exact hk
 rw[if_pos ha,if_neg (by simp),c2]
 dsimp only
 by_cases hb:okL2 b=true
 case neg=>rw[if_neg hb,if_pos (by simp)];exact hk
 rw[if_pos hb,if_neg (by simp),s1]
 dsimp only
 rw[s2]
 dsimp only
 obtain⟨p1,p2,p3,p4,p5,p6,p7⟩:=zg4 ha
 obtain⟨q1,q2,q3,q4,q5,q6,q7⟩:=zg4 hb
 have ew:IntKind.wrap .i64 (zgu a+zgu b)=((cntN 12 a+cntN 12 b:Nat):Int):=by rw[p6,q6,wr (by omega) (by omega)];push_cast;rfl
 rw[ew]
 by_cases h39:cntN 12 a+cntN 12 b≤390
 case neg=>rw[if_pos (by simp;omega)];exact hk
 rw[if_neg (by simp;omega),n1]
 dsimp only
 by_cases hn9:nn 12 a≤9
 case neg=>rw[if_pos (by simp;omega)];exact hk
 rw[if_neg (by simp;omega)]
 have k3:okL2 (a++b)=true:=by rw[zqw ha hb];simp;omega
 have k4:okL2 [wh 28 [a] []]=true:=by rw[ok_one ha (zqv 28 a) (d:=true) (by rw[zpR,Bool.true_and])];simp;omega
 rw[if_pos ha]at g1
 rw[if_pos hb]at g2
 rw[if_pos k3]at g3
 rw[if_pos k4]at g4
 have r10:zb1 10 a=true:=p5.2 (by omega)
 have lp:=zfK 11 (cpL 12 a) 0
 have lq:=zfK 11 (cpL 12 b) 0
 have lr:=zfK 11 (cpL 12 (a++b)) 0
 have lx:=zfK 11 (cpL 12 [wh 28 [a] []]) 0
 rw[zmD 11 12 _ (by omega)]at lp lq lr lx
 have lpe:lensF 11 a=a.length::(subsL a).flatMap (lensF 10):=rfl
 have lqe:lensF 11 b=b.length::(subsL b).flatMap (lensF 10):=rfl
 have lre:lensF 11 (a++b)=(a.length+b.length)::((subsL a).flatMap (lensF 10)++(subsL b).flatMap (lensF 10)):=by rw[lensF,zov,List.flatMap_append,List.length_append]
 have lxe:lensF 11 [wh 28 [a] []]=1::lensF 11 a:=by
  have es:subsL [wh 28 [a] []]=[a]:=rfl
  rw[lensF,es,List.flatMap_cons,List.flatMap_nil,List.append_nil,←zmE 10 a (zkp 10 a r10)]
  rfl
 have ex0:∃rest,rowsF 11 (cpL 12 [wh 28 [a] []]) 0=[.mk 28 [] [] (cp zv) (cpP 12 (.mk 0 [] [])) [1] [] []]::rest:=⟨_,rfl⟩
 obtain⟨rest,ex0⟩:=ex0
 have hpl:=zlz 11 (cpL 12 a)
 have hpl2:=zlz 11 (cpL 12 b)
 have hwa:=zkn 12 a
 have hwb:=zkn 12 b
 have lenp:=zhe 11 (cpL 12 a) 0
 have lenq:=zhe 11 (cpL 12 b) 0
 have hp1:=znQ 11 (cpL 12 a)
 have hq1:=znQ 11 (cpL 12 b)
 rw[ex0]at lx g4
 simp only[wh]at g4
 generalize rowsF 11 (cpL 12 a) 0=P at *
 generalize rowsF 11 (cpL 12 b) 0=Q at *
 generalize rowsF 11 (cpL 12 (a++b)) 0=R at *
 have el:(([]:List GStep)++a)++b=a++b:=rfl
 have nP:P.length=1+((subsL a).flatMap (lensF 10)).length:=by have:=congrArg List.length lp;rw[List.length_map,lpe,List.length_cons]at this;omega
 have nQ:Q.length=1+((subsL b).flatMap (lensF 10)).length:=by have:=congrArg List.length lq;rw[List.length_map,lqe,List.length_cons]at this;omega
 have nR:R.length+1=P.length+Q.length:=by have:=congrArg List.length lr;rw[List.length_map,lre,List.length_cons,List.length_append]at this;omega
 have nX:([.mk 28 [] [] (cp zv) (cpP 12 (.mk 0 [] [])) [1] [] []]::rest:List (List GCode)).length=P.length+1:=by have:=congrArg List.length lx;rw[lxe,←lp]at this;simpa using this
 rw[zdj,el,if_pos (by simp;omega),if_pos (by simp;omega)]
 simp only[g1,g2,g3,g4]
 rw[if_neg (by simp),if_neg (by simp),if_neg (by simp),if_neg (by simp),if_neg (by simp only[beq_iff_eq];omega),if_neg (by simp only[beq_iff_eq];omega)]
 have w1:IntKind.wrap .i64 (IntKind.wrap .i64 ((P.length:Int)+(Q.length:Int))-1)=(R.length:Int):=by
  rw[wr (x:=(P.length:Int)+(Q.length:Int)) (by omega) (by omega),wr (by omega) (by omega)]
  omega
 have w2:IntKind.wrap .i64 ((P.length:Int)+1)=((P.length+1:Nat):Int):=wr (by omega) (by omega)
 rw[w1,w2,if_neg (by simp),nX,if_neg (by simp),zdi,if_pos (by simp)]
 have z0:(0:Int).toNat=0:=rfl
 obtain⟨ra,ra1,ra2⟩:=zkq (r:=R) (i:=0) (by rw[lr,lre];rfl)
 obtain⟨pa,pa1,pa2⟩:=zkq (r:=P) (i:=0) (by rw[lp,lpe];rfl)
 obtain⟨qa,qa1,qa2⟩:=zkq (r:=Q) (i:=0) (by rw[lq,lqe];rfl)
 have w3:IntKind.wrap .i64 ((pa.length:Int)+(qa.length:Int))=(ra.length:Int):=by rw[wr (by omega) (by omega)];omega
 simp only[z0,ra1,pa1,qa1]
 rw[w3,if_neg (by simp)]
 have ecv:∃v1 v2 v3 v4 v5,cp zv=.mk v1 v2 v3 v4 v5:=⟨_,_,_,_,_,rfl⟩
 have ecp:∃v1 v2 v3,cpP 12 (.mk 0 [] [])=.mk v1 v2 v3:=⟨_,_,_,rfl⟩
 obtain⟨v1,v2,v3,v4,v5,ecv⟩:=ecv
 obtain⟨w1,w2,w3,ecp⟩:=ecp
 rw[ecv,ecp]at lx⊢
 simp only[List.getElem?_cons_zero]
 rw[if_neg (by simp),if_neg (by simp),if_neg (by simp),if_neg (by simp),zdh]
 obtain⟨z1,z2,g⟩:=zmF (t:=tab n) (n:=n) (P:=P) (R:=R) (X:=[.mk 28 [] [] (.mk v1 v2 v3 v4 v5) (.mk w1 w2 w3) [1] [] []]::rest) (by omega) (fun i k h=>by rw[lx,lxe,List.getElem?_cons_succ,←lp];exact h) (fun i k h0 h=>by
  obtain⟨i,rfl⟩:∃j,i=j+1:=⟨i-1,by omega⟩
  rw[lp,lpe,List.getElem?_cons_succ]at h
  rw[lr,lre,List.getElem?_cons_succ]
  have hi:i < ((subsL a).flatMap (lensF 10)).length:=(List.getElem?_eq_some_iff.1 h).1
  rw[List.getElem?_append_left hi]
  exact h) P.length 0 n (by omega) (by omega)
 rw[show((0:Nat):Int)=0 from rfl]at g
 simp only[g]
 exact hk
end Go.Proofs.YtgmidllbkjdnnaaGreatDoor.W
