/- How much there is in a plan: there is an answer. -/
import Derived.Test.YtgmidllbkjdnnaaGreatDoorPlB
namespace Go.Proofs.YtgmidllbkjdnnaaGreatDoor.W
open Go.Proofs.YtgmidllbkjdnnaaGreatDoor.Flat
set_option linter.unusedVariables false
set_option linter.unusedSimpArgs false
theorem znz {l:List GStep} {most deep i:Int} {ts:List (List GStep)} (H:∀t∈ts,∀m d:Int,∃r,Ev fun n=>(tab n).zb4 t m d=some r) (hl:ts.length≤4194304):∀(d j:Nat) (st:Int),j+d=ts.length→
  (∃r,Ev fun n=>∀K,d < K→zbe (tab n) n K l most deep st i ts (j:Int)=some (.inl r))∨(∃s,Ev fun n=>∀K,d < K→∃z,zbe (tab n) n K l most deep st i ts (j:Int)=some (.inr (l,most,deep,s,i,z)))
 | 0,j,st,hi=>by
  refine .inr ⟨st,Ev.pure fun n K hk=> ?_⟩
  obtain⟨K,rfl⟩:∃j,K=j+1:=⟨K-1,by omega⟩
  exact⟨_,by rw[zbe,if_neg (by simp;omega)]⟩
 | d+1,j,st,hi=>by
  obtain⟨y,y1,y3,y2⟩:=at_ (l:=ts) (i:=j) (by omega)
  by_cases hst:st < most
  ·by_cases hd:deep≤0
   ·refine .inl ⟨most,Ev.pure fun n K hk=> ?_⟩
    obtain⟨K,rfl⟩:∃j,K=j+1:=⟨K-1,by omega⟩
    rw[zbe,if_pos (by simp;omega),if_pos (by simpa using hst),zcQ,if_pos (by simpa using hd)]
   ·obtain⟨r,hr⟩:=H y y3 (IntKind.wrap .i64 (most-st)) (IntKind.wrap .i64 (deep-1))
    have step:∀n K,(tab n).zb4 y (IntKind.wrap .i64 (most-st)) (IntKind.wrap .i64 (deep-1))=some r→zbe (tab n) n (K+1) l most deep st i ts (j:Int)=zbe (tab n) n K l most deep (IntKind.wrap .i64 (st+r)) i ts ((j+1:Nat):Int):=by
     intro n K h
     rw[zbe,if_pos (by simp;omega),if_pos (by simpa using hst),zcQ,if_neg (by simpa using hd),if_pos (by simp),Int.toNat_natCast,y1]
     simp only[h]
     rw[wr1 (i:=j) (L:=ts.length) (by omega) (by omega)]
    rcases znz (l:=l) (most:=most) (deep:=deep) (i:=i) H hl d (j+1) (IntKind.wrap .i64 (st+r)) (by omega)with ⟨r2,h2⟩ | ⟨s,h2⟩
    ·refine .inl ⟨r2,(hr.and h2).mono fun n hh K hk=> ?_⟩
     obtain⟨K,rfl⟩:∃j,K=j+1:=⟨K-1,by omega⟩
     rw[step n K hh.1]
     exact hh.2 K (by omega)
    ·refine .inr ⟨s,(hr.and h2).mono fun n hh K hk=> ?_⟩
     obtain⟨K,rfl⟩:∃j,K=j+1:=⟨K-1,by omega⟩
     rw[step n K hh.1]
     exact hh.2 K (by omega)
  ·refine .inr ⟨st,Ev.pure fun n K hk=> ?_⟩
   obtain⟨K,rfl⟩:∃j,K=j+1:=⟨K-1,by omega⟩
   exact⟨_,by rw[zbe,if_pos (by simp;omega),if_neg (by simpa using hst)]⟩
theorem znA {l:List GStep} {most deep:Int} (H:∀x∈l,SIn x∧∀t∈inn x,∀m d:Int,∃r,Ev fun n=>(tab n).zb4 t m d=some r) (hl:l.length≤4194304):∀(d j:Nat) (st:Int),j+d=l.length→
  (∃r,Ev fun n=>∀K,d < K→zbf (tab n) n K l most deep st (j:Int)=some (.inl r))∨(∃s,Ev fun n=>∀K,d < K→∃z,zbf (tab n) n K l most deep st (j:Int)=some (.inr (l,most,deep,s,z)))
 | 0,j,st,hi=>by
  refine .inr ⟨st,Ev.pure fun n K hk=> ?_⟩
  obtain⟨K,rfl⟩:∃j,K=j+1:=⟨K-1,by omega⟩
  exact⟨_,by rw[zbf,if_neg (by simp;omega)]⟩
 | d+1,j,st,hi=>by
  obtain⟨x,x1,x3,x2⟩:=at_ (l:=l) (i:=j) (by omega)
  by_cases hst:st < most
  case neg=>
   refine .inr ⟨st,Ev.pure fun n K hk=> ?_⟩
   obtain⟨K,rfl⟩:∃j,K=j+1:=⟨K-1,by omega⟩
   exact⟨_,by rw[zbf,if_pos (by simp;omega),if_neg (by simpa using hst)]⟩
  case pos=>
   obtain⟨hs,ht⟩:=H x x3
   have hin:=zfR hs
   have hil:=hs.zgq
   obtain⟨op,S,N,V,P,Ts,By,As⟩:=x
   have hVP:VIn V∧PIn P:=by cases hs with | mk _ _ _ _ _ hV hP=>exact⟨hV,hP⟩
   obtain⟨rv,ev,_⟩:=zns hVP.1 most
   obtain⟨rp,ep,_⟩:=zo2 hVP.2 most
   obtain⟨v1,v2,v3,v4,v5⟩:=V
   obtain⟨p1,p2,p3⟩:=P
   generalize hst0:(IntKind.wrap .i64 ((IntKind.wrap .i64 ((IntKind.wrap .i64 ((IntKind.wrap .i64 ((IntKind.wrap .i64 ((IntKind.wrap .i64 (st+1))+(S.length:Int)))+(N.length:Int)))+(As.length:Int)))+rv))+rp))=st0
   have hw:=wr1 (i:=j) (L:=l.length) (by omega) (by omega)
   rcases znz (l:=l) (most:=most) (deep:=deep) (i:=(j:Int)) ht hil _ 0 st0 (Nat.zero_add _)with ⟨r,h3⟩ | ⟨s,h3⟩
   ·refine .inl ⟨r,(((ev.and ep).and (hin.and h3)).and (Ev.ge ((inn (GStep.mk op S N (zh.mk v1 v2 v3 v4 v5) (GPred.mk p1 p2 p3) Ts By As)).length+1))).mono fun n hh K hk=> ?_⟩
    obtain⟨⟨⟨e1,e2⟩,e3,e4⟩,e5⟩:=hh
    obtain⟨K,rfl⟩:∃j,K=j+1:=⟨K-1,by omega⟩
    have e4:=e4 n (by omega)
    rw[show((0:Nat):Int)=0 from rfl]at e4
    rw[zbf,if_pos (by simp;omega),if_pos (by simpa using hst),zcl,if_pos (by simp),Int.toNat_natCast,x1]
    simp only[e1,e2,e3,hst0,e4]
   ·rcases znA (most:=most) (deep:=deep) H hl d (j+1) s (by omega)with ⟨r2,h2⟩ | ⟨s2,h2⟩
    ·refine .inl ⟨r2,((((ev.and ep).and (hin.and h3)).and (Ev.ge ((inn (GStep.mk op S N (zh.mk v1 v2 v3 v4 v5) (GPred.mk p1 p2 p3) Ts By As)).length+1))).and h2).mono fun n hh K hk=> ?_⟩
     obtain⟨⟨⟨⟨e1,e2⟩,e3,e4⟩,e5⟩,e6⟩:=hh
     obtain⟨K,rfl⟩:∃j,K=j+1:=⟨K-1,by omega⟩
     obtain⟨⟨z1,z2,z3⟩,e4⟩:=e4 n (by omega)
     rw[show((0:Nat):Int)=0 from rfl]at e4
     rw[zbf,if_pos (by simp;omega),if_pos (by simpa using hst),zcl,if_pos (by simp),Int.toNat_natCast,x1]
     simp only[e1,e2,e3,hst0,e4,hw]
     exact e6 K (by omega)
    ·refine .inr ⟨s2,((((ev.and ep).and (hin.and h3)).and (Ev.ge ((inn (GStep.mk op S N (zh.mk v1 v2 v3 v4 v5) (GPred.mk p1 p2 p3) Ts By As)).length+1))).and h2).mono fun n hh K hk=> ?_⟩
     obtain⟨⟨⟨⟨e1,e2⟩,e3,e4⟩,e5⟩,e6⟩:=hh
     obtain⟨K,rfl⟩:∃j,K=j+1:=⟨K-1,by omega⟩
     obtain⟨⟨z1,z2,z3⟩,e4⟩:=e4 n (by omega)
     rw[show((0:Nat):Int)=0 from rfl]at e4
     rw[zbf,if_pos (by simp;omega),if_pos (by simpa using hst),zcl,if_pos (by simp),Int.toNat_natCast,x1]
     simp only[e1,e2,e3,hst0,e4,hw]
     exact e6 K (by omega)
theorem zpI:∀(k:Nat) (l:List GStep),wL l≤k→k≤2097152→∀most deep:Int,∃r,Ev fun n=>(tab n).zb4 l most deep=some r:=by
 intro k
 induction k with
 | zero=>
  intro l h _ most deep
  have:=zfr l
  have:l=[]:=List.eq_nil_of_length_eq_zero (by omega)
  subst this
  refine⟨0,Ev.step ((Ev.ge 1).mono fun n hn=> ?_)⟩
  rw[zfH]
  obtain⟨n,rfl⟩:∃j,n=j+1:=⟨n-1,by omega⟩
  simp[zb4,zbf]
 | succ k ih=>
  intro l h hk most deep
  have hin:=zfX (l:=l) (by omega)
  have hlen:=zfr l
  have H:∀x∈l,SIn x∧∀t∈inn x,∀m d:Int,∃r,Ev fun n=>(tab n).zb4 t m d=some r:=fun x hx=>⟨hin x hx,fun t ht=>ih t (by have:=zg2 ht;have:=zg3 hx;omega) (by omega)⟩
  rcases znA (most:=most) (deep:=deep) H (by omega) l.length 0 0 (Nat.zero_add _)with ⟨r,h1⟩ | ⟨s,h1⟩
  ·refine⟨r,Ev.step ((h1.and (Ev.ge (l.length+1))).mono fun n hh=> ?_)⟩
   have h2:=hh.1 n (by omega)
   rw[show((0:Nat):Int)=0 from rfl]at h2
   rw[zfH]
   simp only[zb4,h2]
  ·refine⟨s,Ev.step ((h1.and (Ev.ge (l.length+1))).mono fun n hh=> ?_)⟩
   obtain⟨⟨z1,z2⟩,h2⟩:=hh.1 n (by omega)
   rw[show((0:Nat):Int)=0 from rfl]at h2
   rw[zfH]
   simp only[zb4,h2]
theorem zmr {l:List GStep} (h:wL l≤2097152):∃r,Ev fun n=>(tab n).zdz l=some r:=by
 obtain⟨r,hr⟩:=zpI 2097152 l h (Nat.le_refl _) 1000 14
 exact⟨decide (r≥1000),Ev.step (hr.mono fun n hn=>by rw[zjS];simp only[zdz,hn])⟩
end Go.Proofs.YtgmidllbkjdnnaaGreatDoor.W
