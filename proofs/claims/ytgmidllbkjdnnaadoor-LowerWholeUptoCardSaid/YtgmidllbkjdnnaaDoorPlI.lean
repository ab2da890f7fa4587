/- How many, how deep: the reference's. -/
import Derived.Test.YtgmidllbkjdnnaaDoorPlF
namespace Go.Proofs.YtgmidllbkjdnnaaDoor.W
open Go.Proofs.YtgmidllbkjdnnaaDoor.Flat
set_option linter.unusedVariables false
set_option linter.unusedSimpArgs false
theorem zjR {most more:Int} {l:List GStep} {i:Int} {ts:List (List GStep)} {c:List GStep→Nat} (hm:1≤most∧most≤401) (hd:1≤more∧more≤11) (H:∀t∈ts,∀m:Int,1≤m→m≤401→Ev fun n=>(tab n).zbF t m (IntKind.wrap .i64 (more-1))=some (min m (c t))) (hl:ts.length≤4194304):∀(d j:Nat) (st:Int),j+d=ts.length→0≤st→st≤most→
  Ev fun n=>∀K,d < K→∃z,zbe (tab n) n K l most more st i ts (j:Int)=some (l,most,more,min most (st+(((ts.drop j).map c).sum:Nat)),i,z)
 | 0,j,st,hi,h0,h1=>by
  refine Ev.pure fun n K hk=> ?_
  obtain⟨K,rfl⟩:∃j,K=j+1:=⟨K-1,by omega⟩
  refine⟨_,by rw[zbe,if_neg (by simp;omega),List.drop_of_length_le (by omega)];simp only[List.map_nil,List.sum_nil];rw[show min most (st+((0:Nat):Int))=st by omega]⟩
 | d+1,j,st,hi,h0,h1=>by
  obtain⟨y,y1,y3,y2⟩:=at_ (l:=ts) (i:=j) (by omega)
  have hw:=wr1 (i:=j) (L:=ts.length) (by omega) (by omega)
  by_cases hst:st < most
  ·have e1:=H y y3 (most-st) (by omega) (by omega)
   have ih:=zjR (l:=l) (i:=i) hm hd H hl d (j+1) (min most (st+c y)) (by omega) (by omega) (by omega)
   refine(e1.and ih).mono fun n hh K hk=> ?_
   obtain⟨g1,g2⟩:=hh
   obtain⟨K,rfl⟩:∃j,K=j+1:=⟨K-1,by omega⟩
   obtain⟨z,hz⟩:=g2 K (by omega)
   refine⟨z, ?_⟩
   rw[zbe,if_pos (by simp;omega),if_pos (by simp;omega),if_pos (by simpa using hst),zcK,if_pos (by simp),Int.toNat_natCast,y1]
   dsimp only
   rw[show IntKind.wrap .i64 (most-st)=most-st from wr (by omega) (by omega),g1]
   dsimp only
   rw[hw,show IntKind.wrap .i64 (st+min (most-st) (c y))=min most (st+c y) by rw[wr (by omega) (by omega)];omega,hz,y2,List.map_cons,List.sum_cons]
   congr 4
   push_cast
   rw[show min most (min most (st+(c y:Int))+(((ts.drop (j+1)).map c).sum:Nat))=min most (st+((c y:Int)+(((ts.drop (j+1)).map c).sum:Nat))) by omega]
  ·refine Ev.pure fun n K hk=> ?_
   obtain⟨K,rfl⟩:∃j,K=j+1:=⟨K-1,by omega⟩
   have e:min most (st+(((ts.drop j).map c).sum:Nat))=st:=by omega
   rw[e]
   exact⟨_,by rw[zbe,if_pos (by simp;omega),if_pos (by simp;omega),if_neg (by simpa using hst)]⟩
theorem zht {most more : Int} {l : List GStep} {c : List GStep → Nat} (hm : 1 ≤ most ∧ most ≤ 401) (hl : l.length ≤ 4194304)
  (H:∀x∈l,(Ev fun n=>(tab n).zcj x=some (inn x))∧∀st:Int,0≤st→st≤most→∀i,Ev fun n=>∃z,zbe (tab n) n n l most more st i (inn x) 0=some (l,most,more,min most (st+(((inn x).map c).sum:Nat)),i,z)):
  ∀(d j:Nat) (st:Int),j+d=l.length→0≤st→st≤most→
  Ev fun n=>∀K,d < K→∃z,zbE (tab n) n K l most more st (j:Int)=some (l,most,more,min most (st+(((l.drop j).map fun x=>1+((inn x).map c).sum).sum:Nat)),z)
 | 0,j,st,hi,h0,h1=>by
  refine Ev.pure fun n K hk=> ?_
  obtain⟨K,rfl⟩:∃j,K=j+1:=⟨K-1,by omega⟩
  refine⟨_,by rw[zbE,if_neg (by simp;omega),List.drop_of_length_le (by omega)];simp only[List.map_nil,List.sum_nil];rw[show min most (st+((0:Nat):Int))=st by omega]⟩
 | d+1,j,st,hi,h0,h1=>by
  obtain⟨x,x1,x3,x2⟩:=at_ (l:=l) (i:=j) (by omega)
  have hw:=wr1 (i:=j) (L:=l.length) (by omega) (by omega)
  have hw1:IntKind.wrap .i64 (st+1)=st+1:=wr (by omega) (by omega)
  by_cases hst:st < most
  ·obtain⟨q1,q3⟩:=H x x3
   have q3:=q3 (st+1) (by omega) (by omega) (j:Int)
   have ih:=zht (more:=more) hm hl H d (j+1) (min most (st+1+(((inn x).map c).sum:Nat))) (by omega) (by omega) (by omega)
   refine((q1.and q3).and ih).mono fun n hh K hk=> ?_
   obtain⟨⟨g1,⟨z1,z2,z3⟩,g2⟩,g3⟩:=hh
   obtain⟨K,rfl⟩:∃j,K=j+1:=⟨K-1,by omega⟩
   obtain⟨z,hz⟩:=g3 K (by omega)
   refine⟨z, ?_⟩
   rw[zbE,if_pos (by simp;omega),if_pos (by simpa using hst),zcL,if_pos (by simp),Int.toNat_natCast,x1,x2,List.map_cons,List.sum_cons]
   have e2:∀s:Nat,min most (min most (st+1+(((inn x).map c).sum:Nat))+(s:Int))=min most (st+((1+((inn x).map c).sum+s:Nat):Int)):=fun s=>by push_cast;omega
   rw[←e2]
   clear ih x1 x2 x3 q1 q3 H e2
   obtain⟨op,S,N,⟨v1,v2,v3,v4,v5⟩,⟨p1,p2,p3⟩,Ts,By,As⟩:=x
   simp only[g1,hw1,g2,hw]
   exact hz
  ·refine Ev.pure fun n K hk=> ?_
   obtain⟨K,rfl⟩:∃j,K=j+1:=⟨K-1,by omega⟩
   have e:min most (st+(((l.drop j).map fun x=>1+((inn x).map c).sum).sum:Nat))=st:=by omega
   rw[e]
   exact⟨_,by rw[zbE,if_pos (by simp;omega),if_neg (by simpa using hst)]⟩
theorem zm8:∀(g:Nat),g≤11→∀l,wL l≤2097152→∀most:Int,1≤most→most≤401→Ev fun n=>(tab n).zbF l most (g:Int)=some (min most (cntN (g+1) l)):=by
 intro g
 induction g with
 | zero=>
  intro _ l h most h1 h2
  have hin:=zfa h
  have hlen:=ze3 l
  rw[show((0:Nat):Int)=0 from rfl]
  have k:=zht (most:=most) (more:=0) (l:=l) (c:=cntN 0) ⟨h1,h2⟩ (by omega) (fun x hx=>⟨zf8 (hin x hx),fun st a b i=>(Ev.ge 1).mono fun n hn=>by
   rw[zi9,show min most (st+((0:Nat):Int))=st by omega]
   obtain⟨n,rfl⟩:∃j,n=j+1:=⟨n-1,by omega⟩
   rw[zbe]
   by_cases h0:(decide ((0:Int) < ((inn x).length:Int)))=true
   ·rw[if_pos h0,if_neg (by simp)]
    exact⟨_,rfl⟩
   ·rw[if_neg h0]
    exact⟨_,rfl⟩⟩) l.length 0 0 (by omega) (by omega) (by omega)
  refine Ev.step ((k.and (Ev.ge (l.length+1))).mono fun n hh=> ?_)
  obtain⟨⟨z1,z2⟩,k⟩:=hh.1 n (by omega)
  rw[show((0:Nat):Int)=0 from rfl,List.drop_zero]at k
  rw[zfI,cntN]
  simp only[zbF,k,Int.zero_add]
 | succ g ih=>
  intro hg l h most h1 h2
  have hin:=zfa h
  have hlen:=ze3 l
  have e0:IntKind.wrap .i64 (((g+1:Nat):Int)-1)=(g:Int):=by rw[wr (by omega) (by omega)];omega
  have k:=zht (most:=most) (more:=((g+1:Nat):Int)) (l:=l) (c:=cntN (g+1)) ⟨h1,h2⟩ (by omega) (fun x hx=>⟨zf8 (hin x hx),fun st a b i=>by
   have hx1:=zhr hx
   have q:=zjR (l:=l) (i:=i) (most:=most) (more:=((g+1:Nat):Int)) (ts:=inn x) (c:=cntN (g+1)) ⟨h1,h2⟩ (by omega) (fun t ht m m1 m2=>by rw[e0];exact ih (by omega) t (by have:=zi4 ht;omega) m m1 m2) (hin x hx).zge (inn x).length 0 st (by omega) a b
   exact(q.and (Ev.ge ((inn x).length+1))).mono fun n hh=>hh.1 n (by omega)⟩) l.length 0 0 (by omega) (by omega) (by omega)
  refine Ev.step ((k.and (Ev.ge (l.length+1))).mono fun n hh=> ?_)
  obtain⟨⟨z1,z2⟩,k⟩:=hh.1 n (by omega)
  rw[show((0:Nat):Int)=0 from rfl,List.drop_zero]at k
  rw[zfI,cntN]
  simp only[zbF,k,Int.zero_add]
theorem zlm {l:List GStep} (h:wL l≤2097152):Ev fun n=>(tab n).zcH l=some (zja l):=by
 refine Ev.step ((zm8 11 (by omega) l h 401 (by omega) (by omega)).mono fun n hn=> ?_)
 have hn:(tab n).zbF l 401 11=some (min 401 (cntN 12 l:Int)):=hn
 rw[zhT]
 simp only[zcH,hn,zja]
 congr 1
 split<;>omega
end Go.Proofs.YtgmidllbkjdnnaaDoor.W
