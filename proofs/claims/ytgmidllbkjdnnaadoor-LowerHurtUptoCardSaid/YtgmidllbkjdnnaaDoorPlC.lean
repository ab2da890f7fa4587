/- How much there is in a plan: there is an answer. -/
import Derived.Test.YtgmidllbkjdnnaaDoorPlB
namespace Go.Proofs.YtgmidllbkjdnnaaDoor.W
open Go.Proofs.YtgmidllbkjdnnaaDoor.Flat
set_option linter.unusedVariables false
set_option linter.unusedSimpArgs false
theorem zmg {l:List GStep} {most deep i:Int} {ts:List (List GStep)} (H:∀t∈ts,∀m d:Int,∃r,Ev fun n=>(tab n).zbp t m d=some r) (hl:ts.length≤4194304):∀(d j:Nat) (st:Int),j+d=ts.length→
  (∃r,Ev fun n=>∀K,d < K→za1 (tab n) n K l most deep st i ts (j:Int)=some (.inl r))∨(∃s,Ev fun n=>∀K,d < K→∃z,za1 (tab n) n K l most deep st i ts (j:Int)=some (.inr (l,most,deep,s,i,z)))
 | 0,j,st,hi=>by
  refine .inr ⟨st,Ev.pure fun n K hk=> ?_⟩
  obtain⟨K,rfl⟩:∃j,K=j+1:=⟨K-1,by omega⟩
  exact⟨_,by rw[za1,if_neg (by simp;omega)]⟩
 | d+1,j,st,hi=>by
  obtain⟨y,y1,y3,y2⟩:=at_ (l:=ts) (i:=j) (by omega)
  by_cases hst:st < most
  ·by_cases hd:deep≤0
   ·refine .inl ⟨most,Ev.pure fun n K hk=> ?_⟩
    obtain⟨K,rfl⟩:∃j,K=j+1:=⟨K-1,by omega⟩
    rw[za1,if_pos (by simp;omega),if_pos (by simpa using hst),zcf,if_pos (by simpa using hd)]
   ·obtain⟨r,hr⟩:=H y y3 (IntKind.wrap .i64 (most-st)) (IntKind.wrap .i64 (deep-1))
    have step:∀n K,(tab n).zbp y (IntKind.wrap .i64 (most-st)) (IntKind.wrap .i64 (deep-1))=some r→za1 (tab n) n (K+1) l most deep st i ts (j:Int)=za1 (tab n) n K l most deep (IntKind.wrap .i64 (st+r)) i ts ((j+1:Nat):Int):=by
     intro n K h
     rw[za1,if_pos (by simp;omega),if_pos (by simpa using hst),zcf,if_neg (by simpa using hd),if_pos (by simp),Int.toNat_natCast,y1]
     simp only[h]
     rw[wr1 (i:=j) (L:=ts.length) (by omega) (by omega)]
    rcases zmg (l:=l) (most:=most) (deep:=deep) (i:=i) H hl d (j+1) (IntKind.wrap .i64 (st+r)) (by omega)with ⟨r2,h2⟩ | ⟨s,h2⟩
    ·refine .inl ⟨r2,(hr.and h2).mono fun n hh K hk=> ?_⟩
     obtain⟨K,rfl⟩:∃j,K=j+1:=⟨K-1,by omega⟩
     rw[step n K hh.1]
     exact hh.2 K (by omega)
    ·refine .inr ⟨s,(hr.and h2).mono fun n hh K hk=> ?_⟩
     obtain⟨K,rfl⟩:∃j,K=j+1:=⟨K-1,by omega⟩
     rw[step n K hh.1]
     exact hh.2 K (by omega)
  ·refine .inr ⟨st,Ev.pure fun n K hk=> ?_⟩
   obtain⟨K,rfl⟩:∃j,K=j+1:=⟨K-1,by omega⟩
   exact⟨_,by rw[za1,if_pos (by simp;omega),if_neg (by simpa using hst)]⟩
theorem zmh {l:List GStep} {most deep:Int} (H:∀x∈l,SIn x∧∀t∈inn x,∀m d:Int,∃r,Ev fun n=>(tab n).zbp t m d=some r) (hl:l.length≤4194304):∀(d j:Nat) (st:Int),j+d=l.length→
  (∃r,Ev fun n=>∀K,d < K→za2 (tab n) n K l most deep st (j:Int)=some (.inl r))∨(∃s,Ev fun n=>∀K,d < K→∃z,za2 (tab n) n K l most deep st (j:Int)=some (.inr (l,most,deep,s,z)))
 | 0,j,st,hi=>by
  refine .inr ⟨st,Ev.pure fun n K hk=> ?_⟩
  obtain⟨K,rfl⟩:∃j,K=j+1:=⟨K-1,by omega⟩
  exact⟨_,by rw[za2,if_neg (by simp;omega)]⟩
 | d+1,j,st,hi=>by
  obtain⟨x,x1,x3,x2⟩:=at_ (l:=l) (i:=j) (by omega)
  by_cases hst:st < most
  case neg=>
   refine .inr ⟨st,Ev.pure fun n K hk=> ?_⟩
   obtain⟨K,rfl⟩:∃j,K=j+1:=⟨K-1,by omega⟩
   exact⟨_,by rw[za2,if_pos (by simp;omega),if_neg (by simpa using hst)]⟩
  case pos=>
   obtain⟨hs,ht⟩:=H x x3
   have hin:=zk5 hs
   have hil:=hs.zgR
   obtain⟨op,S,N,V,P,Ts,By,As⟩:=x
   have hVP:VIn V∧PIn P:=by cases hs with | mk _ _ _ _ _ hV hP=>exact⟨hV,hP⟩
   obtain⟨rv,ev,_⟩:=zmc hVP.1 most
   obtain⟨rp,ep,_⟩:=znA hVP.2 most
   obtain⟨v1,v2,v3,v4,v5⟩:=V
   obtain⟨p1,p2,p3⟩:=P
   generalize hst0:(IntKind.wrap .i64 ((IntKind.wrap .i64 ((IntKind.wrap .i64 ((IntKind.wrap .i64 ((IntKind.wrap .i64 ((IntKind.wrap .i64 (st+1))+(S.length:Int)))+(N.length:Int)))+(As.length:Int)))+rv))+rp))=st0
   have hw:=wr1 (i:=j) (L:=l.length) (by omega) (by omega)
   rcases zmg (l:=l) (most:=most) (deep:=deep) (i:=(j:Int)) ht hil _ 0 st0 (Nat.zero_add _)with ⟨r,h3⟩ | ⟨s,h3⟩
   ·refine .inl ⟨r,(((ev.and ep).and (hin.and h3)).and (Ev.ge ((inn (GStep.mk op S N (zh.mk v1 v2 v3 v4 v5) (GPred.mk p1 p2 p3) Ts By As)).length+1))).mono fun n hh K hk=> ?_⟩
    obtain⟨⟨⟨e1,e2⟩,e3,e4⟩,e5⟩:=hh
    obtain⟨K,rfl⟩:∃j,K=j+1:=⟨K-1,by omega⟩
    have e4:=e4 n (by omega)
    rw[show((0:Nat):Int)=0 from rfl]at e4
    rw[za2,if_pos (by simp;omega),if_pos (by simpa using hst),zb0,if_pos (by simp),Int.toNat_natCast,x1]
    simp only[e1,e2,e3,hst0,e4]
   ·rcases zmh (most:=most) (deep:=deep) H hl d (j+1) s (by omega)with ⟨r2,h2⟩ | ⟨s2,h2⟩
    ·refine .inl ⟨r2,((((ev.and ep).and (hin.and h3)).and (Ev.ge ((inn (GStep.mk op S N (zh.mk v1 v2 v3 v4 v5) (GPred.mk p1 p2 p3) Ts By As)).length+1))).and h2).mono fun n hh K hk=> ?_⟩
     obtain⟨⟨⟨⟨e1,e2⟩,e3,e4⟩,e5⟩,e6⟩:=hh
     obtain⟨K,rfl⟩:∃j,K=j+1:=⟨K-1,by omega⟩
     obtain⟨⟨z1,z2,z3⟩,e4⟩:=e4 n (by omega)
     rw[show((0:Nat):Int)=0 from rfl]at e4
     rw[za2,if_pos (by simp;omega),if_pos (by simpa using hst),zb0,if_pos (by simp),Int.toNat_natCast,x1]
     simp only[e1,e2,e3,hst0,e4,hw]
     exact e6 K (by omega)
    ·refine .inr ⟨s2,((((ev.and ep).and (hin.and h3)).and (Ev.ge ((inn (GStep.mk op S N (zh.mk v1 v2 v3 v4 v5) (GPred.mk p1 p2 p3) Ts By As)).length+1))).and h2).mono fun n hh K hk=> ?_⟩
     obtain⟨⟨⟨⟨e1,e2⟩,e3,e4⟩,e5⟩,e6⟩:=hh
     obtain⟨K,rfl⟩:∃j,K=j+1:=⟨K-1,by omega⟩
     obtain⟨⟨z1,z2,z3⟩,e4⟩:=e4 n (by omega)
     rw[show((0:Nat):Int)=0 from rfl]at e4
     rw[za2,if_pos (by simp;omega),if_pos (by simpa using hst),zb0,if_pos (by simp),Int.toNat_natCast,x1]
     simp only[e1,e2,e3,hst0,e4,hw]
     exact e6 K (by omega)
theorem zof:∀(k:Nat) (l:List GStep),wL l≤k→k≤2097152→∀most deep:Int,∃r,Ev fun n=>(tab n).zbp l most deep=some r:=by
 intro k
 induction k with
 | zero=>
  intro l h _ most deep
  have:=zfX l
  have:l=[]:=List.eq_nil_of_length_eq_zero (by omega)
  subst this
  refine⟨0,Ev.step ((Ev.ge 1).mono fun n hn=> ?_)⟩
  rw[zeO]
  obtain⟨n,rfl⟩:∃j,n=j+1:=⟨n-1,by omega⟩
  simp[zbp,za2]
 | succ k ih=>
  intro l h hk most deep
  have hin:=zgk (l:=l) (by omega)
  have hlen:=zfX l
  have H:∀x∈l,SIn x∧∀t∈inn x,∀m d:Int,∃r,Ev fun n=>(tab n).zbp t m d=some r:=fun x hx=>⟨hin x hx,fun t ht=>ih t (by have:=zkb ht;have:=ziL hx;omega) (by omega)⟩
  rcases zmh (most:=most) (deep:=deep) H (by omega) l.length 0 0 (Nat.zero_add _)with ⟨r,h1⟩ | ⟨s,h1⟩
  ·refine⟨r,Ev.step ((h1.and (Ev.ge (l.length+1))).mono fun n hh=> ?_)⟩
   have h2:=hh.1 n (by omega)
   rw[show((0:Nat):Int)=0 from rfl]at h2
   rw[zeO]
   simp only[zbp,h2]
  ·refine⟨s,Ev.step ((h1.and (Ev.ge (l.length+1))).mono fun n hh=> ?_)⟩
   obtain⟨⟨z1,z2⟩,h2⟩:=hh.1 n (by omega)
   rw[show((0:Nat):Int)=0 from rfl]at h2
   rw[zeO]
   simp only[zbp,h2]
theorem znC {l:List GStep} (h:wL l≤2097152):∃r,Ev fun n=>(tab n).zcI l=some r:=by
 obtain⟨r,hr⟩:=zof 2097152 l h (Nat.le_refl _) 1000 14
 exact⟨decide (r≥1000),Ev.step (hr.mono fun n hn=>by rw[ziv];simp only[zcI,hn])⟩
end Go.Proofs.YtgmidllbkjdnnaaDoor.W
