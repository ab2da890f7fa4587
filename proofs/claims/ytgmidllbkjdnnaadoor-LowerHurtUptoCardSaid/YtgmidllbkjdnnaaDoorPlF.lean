/- How many steps there are, how deep; may a plan be? -/
import Derived.Test.YtgmidllbkjdnnaaDoorPlE
namespace Go.Proofs.YtgmidllbkjdnnaaDoor.W
open Go.Proofs.YtgmidllbkjdnnaaDoor.Flat
set_option linter.unusedVariables false
set_option linter.unusedSimpArgs false
def cntN:Nat→List GStep→Nat
 | 0,_=>0
 | g+1,l=>(l.map fun x=>1+((inn x).map (cntN g)).sum).sum
def sup:List Nat→Nat
 | []=>0
 | x::xs=>max x (sup xs)
def nn:Nat→List GStep→Nat
 | 0,_=>0
 | g+1,l=>1+sup (l.map fun x=>sup ((inn x).map (nn g)))
section
theorem ziO {most deep:Int} {l:List GStep} {L i:Int} {ts:List (List GStep)} {c:List GStep→Nat} (hm:1≤most∧most≤401) (hd:1≤deep∧deep≤11) (H:∀t∈ts,∀m:Int,1≤m→m≤401→Ev fun n=>(tab n).zbV t m (IntKind.wrap .i64 (deep+1))=some (min m (c t))) (hl:ts.length≤4194304):∀(d j:Nat) (st:Int),j+d=ts.length→0≤st→st≤most→
  Ev fun n=>∀K,d < K→∃z,zaU (tab n) n K most deep st l L i ts (ts.length:Int) (j:Int)=some (most,deep,min most (st+(((ts.drop j).map c).sum:Nat)),l,L,i,z)
 | 0,j,st,hi,h0,h1=>by
  refine Ev.pure fun n K hk=> ?_
  obtain⟨K,rfl⟩:∃j,K=j+1:=⟨K-1,by omega⟩
  refine⟨_,by rw[zaU,if_neg (by simp;omega),List.drop_of_length_le (by omega)];simp only[List.map_nil,List.sum_nil];rw[show min most (st+((0:Nat):Int))=st by omega]⟩
 | d+1,j,st,hi,h0,h1=>by
  obtain⟨y,y1,y3,y2⟩:=at_ (l:=ts) (i:=j) (by omega)
  have hw:=wr1 (i:=j) (L:=ts.length) (by omega) (by omega)
  by_cases hst:st < most
  ·have e1:=H y y3 (most-st) (by omega) (by omega)
   have ih:=ziO (l:=l) (L:=L) (i:=i) hm hd H hl d (j+1) (min most (st+c y)) (by omega) (by omega) (by omega)
   refine(e1.and ih).mono fun n hh K hk=> ?_
   obtain⟨g1,g2⟩:=hh
   obtain⟨K,rfl⟩:∃j,K=j+1:=⟨K-1,by omega⟩
   obtain⟨z,hz⟩:=g2 K (by omega)
   refine⟨z, ?_⟩
   rw[zaU,if_pos (by simp;omega),if_pos (by simp),Int.toNat_natCast,y1]
   dsimp only
   rw[if_pos (by simpa using hd.2),zbD,if_pos (by simpa using hst)]
   rw[show IntKind.wrap .i64 (most-st)=most-st from wr (by omega) (by omega),g1]
   dsimp only
   rw[hw,show IntKind.wrap .i64 (st+min (most-st) (c y))=min most (st+c y) by rw[wr (by omega) (by omega)];omega,hz,y2,List.map_cons,List.sum_cons]
   congr 3
   push_cast
   rw[show min most (min most (st+(c y:Int))+(((ts.drop (j+1)).map c).sum:Nat))=min most (st+((c y:Int)+(((ts.drop (j+1)).map c).sum:Nat))) by omega]
  ·have ih:=ziO (l:=l) (L:=L) (i:=i) hm hd H hl d (j+1) st (by omega) (by omega) (by omega)
   refine ih.mono fun n g2 K hk=> ?_
   obtain⟨K,rfl⟩:∃j,K=j+1:=⟨K-1,by omega⟩
   obtain⟨z,hz⟩:=g2 K (by omega)
   refine⟨z, ?_⟩
   rw[zaU,if_pos (by simp;omega),if_pos (by simp),Int.toNat_natCast,y1]
   dsimp only
   rw[if_pos (by simpa using hd.2),zbD,if_neg (by simpa using hst)]
   dsimp only
   rw[hw,hz,y2,List.map_cons,List.sum_cons]
   congr 3
   push_cast
   rw[show min most (st+(((ts.drop (j+1)).map c).sum:Nat))=min most (st+((c y:Int)+(((ts.drop (j+1)).map c).sum:Nat))) by omega]
theorem zjw {most deep:Int} {l:List GStep} {L i:Int} {ts:List (List GStep)} (hd:¬deep≤11) (hl:ts.length≤4194304) {st:Int} {t:Tab} {n:Nat}:∀(d j K:Nat),j+d=ts.length→d < K→∃z,zaU t n K most deep st l L i ts (ts.length:Int) (j:Int)=some (most,deep,st,l,L,i,z)
 | 0,j,K,hi,hk=>by
  obtain⟨K,rfl⟩:∃j,K=j+1:=⟨K-1,by omega⟩
  exact⟨_,by rw[zaU,if_neg (by simp;omega)]⟩
 | d+1,j,K,hi,hk=>by
  obtain⟨y,y1,y3,y2⟩:=at_ (l:=ts) (i:=j) (by omega)
  have hw:=wr1 (i:=j) (L:=ts.length) (by omega) (by omega)
  obtain⟨K,rfl⟩:∃j,K=j+1:=⟨K-1,by omega⟩
  rw[zaU,if_pos (by simp;omega),if_pos (by simp),Int.toNat_natCast,y1]
  dsimp only
  rw[if_neg (by simpa using hd),zbD,if_neg (by simp)]
  dsimp only
  rw[hw]
  exact zjw hd hl d (j+1) K (by omega) (by omega)
theorem ziP {most deep : Int} {l : List GStep} {c : List GStep → Nat} (hm : 1 ≤ most ∧ most ≤ 401) (hl : l.length ≤ 4194304)
  (H:∀x∈l,(Ev fun n=>(tab n).zcZ x=some (inn x))∧(inn x).length≤4194304∧∀st:Int,0≤st→st≤most→∀L i,Ev fun n=>∀K,(inn x).length < K→∃z,zaU (tab n) n K most deep st l L i (inn x) ((inn x).length:Int) 0=some (most,deep,min most (st+(((inn x).map c).sum:Nat)),l,L,i,z)):
  ∀(d j:Nat) (st:Int),j+d=l.length→0≤st→st≤most→
  Ev fun n=>∀K,d < K→(∃z,za5 (tab n) n K most deep st l (l.length:Int) (j:Int)=some (.inr (most,deep,min most (st+(((l.drop j).map fun x=>1+((inn x).map c).sum).sum:Nat)),z)))∨(most≤st+(((l.drop j).map fun x=>1+((inn x).map c).sum).sum:Nat)∧za5 (tab n) n K most deep st l (l.length:Int) (j:Int)=some (.inl most))
 | 0,j,st,hi,h0,h1=>by
  refine Ev.pure fun n K hk=> ?_
  obtain⟨K,rfl⟩:∃j,K=j+1:=⟨K-1,by omega⟩
  refine .inl ⟨_,by rw[za5,if_neg (by simp;omega),List.drop_of_length_le (by omega)];simp only[List.map_nil,List.sum_nil];rw[show min most (st+((0:Nat):Int))=st by omega]⟩
 | d+1,j,st,hi,h0,h1=>by
  obtain⟨x,x1,x3,x2⟩:=at_ (l:=l) (i:=j) (by omega)
  have hw:=wr1 (i:=j) (L:=l.length) (by omega) (by omega)
  have hw1:IntKind.wrap .i64 (st+1)=st+1:=wr (by omega) (by omega)
  by_cases hst:st+1≥most
  ·refine Ev.pure fun n K hk=>.inr ⟨by rw[x2,List.map_cons,List.sum_cons];push_cast;omega, ?_⟩
   obtain⟨K,rfl⟩:∃j,K=j+1:=⟨K-1,by omega⟩
   rw[za5,if_pos (by simp;omega),if_pos (by simp),Int.toNat_natCast,x1]
   obtain⟨op,S,N,⟨v1,v2,v3,v4,v5⟩,⟨p1,p2,p3⟩,Ts,By,As⟩:=x
   dsimp only
   rw[hw1,if_pos (by simpa using hst)]
  ·obtain⟨q1,q2,q3⟩:=H x x3
   have q3:=q3 (st+1) (by omega) (by omega) (l.length:Int) (j:Int)
   have ih:=ziP (deep:=deep) hm hl H d (j+1) (min most (st+1+(((inn x).map c).sum:Nat))) (by omega) (by omega) (by omega)
   refine((q1.and q3).and (ih.and (Ev.ge ((inn x).length+1)))).mono fun n hh K hk=> ?_
   obtain⟨⟨g1,g2⟩,g3,g4⟩:=hh
   obtain⟨K,rfl⟩:∃j,K=j+1:=⟨K-1,by omega⟩
   obtain⟨⟨z1,z2,z3,z4⟩,hz⟩:=g2 n (by omega)
   have e:za5 (tab n) n (K+1) most deep st l (l.length:Int) (j:Int)=za5 (tab n) n K most deep (min most (st+1+(((inn x).map c).sum:Nat))) l (l.length:Int) ((j+1:Nat):Int):=by
    rw[za5,if_pos (by simp;omega),if_pos (by simp),Int.toNat_natCast,x1]
    clear ih x1 x2 x3 q1 q3 H
    obtain⟨op,S,N,⟨v1,v2,v3,v4,v5⟩,⟨p1,p2,p3⟩,Ts,By,As⟩:=x
    dsimp only
    rw[hw1,if_neg (by simpa using hst)]
    simp only[g1,hz,hw]
   rw[e,x2,List.map_cons,List.sum_cons]
   have e2:∀s:Nat,min most (min most (st+1+(((inn x).map c).sum:Nat))+(s:Int))=min most (st+((1+((inn x).map c).sum+s:Nat):Int)):=fun s=>by push_cast;omega
   rcases g3 K (by omega)with ⟨z,h⟩ | ⟨h,h2⟩
   ·exact .inl ⟨z,by rw[h,e2]⟩
   ·refine .inr ⟨?_,h2⟩
    push_cast
    omega
end
theorem zk7:∀l:List (List GStep),(l.map (cntN 0)).sum=0
 | []=>rfl
 | x::xs=>by rw[List.map_cons,List.sum_cons,zk7 xs];rfl
theorem znH:∀(g:Nat),g≤11→∀l,wL l≤2097152→∀most:Int,1≤most→most≤401→Ev fun n=>(tab n).zbV l most (12-(g:Int))=some (min most (cntN (g+1) l)):=by
 intro g
 induction g with
 | zero=>
  intro _ l h most h1 h2
  have hin:=zgk h
  have hlen:=zfX l
  have e12:(12:Int)-((0:Nat):Int)=12:=rfl
  rw[e12]
  have k:=ziP (most:=most) (deep:=12) (l:=l) (c:=cntN 0) ⟨h1,h2⟩ (by omega) (fun x hx=>⟨zk4 (hin x hx),(hin x hx).zgR,fun st a b L i=>Ev.pure fun n K hk=>by
   rw[zk7,show min most (st+((0:Nat):Int))=st by omega]
   exact zjw (by omega) (hin x hx).zgR (inn x).length 0 K (by omega) hk⟩) l.length 0 0 (by omega) (by omega) (by omega)
  refine Ev.step ((k.and (Ev.ge (l.length+1))).mono fun n hh=> ?_)
  have k:=hh.1 n (by omega)
  rw[show((0:Nat):Int)=0 from rfl]at k
  rw[zfQ,cntN]
  rw[List.drop_zero]at k
  rcases k with ⟨⟨z1,z2,z3,z4⟩,k⟩ | ⟨k1,k2⟩
  ·simp only[zbV,k,Int.zero_add]
  ·simp only[zbV,k2]
   congr 1
   omega
 | succ g ih=>
  intro hg l h most h1 h2
  have hin:=zgk h
  have hlen:=zfX l
  have e0:IntKind.wrap .i64 ((12-((g+1:Nat):Int))+1)=12-(g:Int):=by rw[wr (by omega) (by omega)];omega
  have k:=ziP (most:=most) (deep:=12-((g+1:Nat):Int)) (l:=l) (c:=cntN (g+1)) ⟨h1,h2⟩ (by omega) (fun x hx=>⟨zk4 (hin x hx),(hin x hx).zgR,fun st a b L i=>
   have hx1:=ziL hx
   ziO (l:=l) (L:=L) (i:=i) ⟨h1,h2⟩ (by omega) (fun t ht m m1 m2=>by rw[e0];exact ih (by omega) t (by have:=zkb ht;omega) m m1 m2) (hin x hx).zgR (inn x).length 0 st (by omega) a b⟩) l.length 0 0 (by omega) (by omega) (by omega)
  refine Ev.step ((k.and (Ev.ge (l.length+1))).mono fun n hh=> ?_)
  have k:=hh.1 n (by omega)
  rw[show((0:Nat):Int)=0 from rfl]at k
  rw[zfQ,cntN]
  rw[List.drop_zero]at k
  rcases k with ⟨⟨z1,z2,z3,z4⟩,k⟩ | ⟨k1,k2⟩
  ·simp only[zbV,k,Int.zero_add]
  ·simp only[zbV,k2]
   congr 1
   omega
def znI (l:List GStep):Int:=min 401 (cntN 12 l:Int)
theorem znJ {l:List GStep} (h:wL l≤2097152):Ev fun n=>(tab n).zcK l=some (znI l):=
 Ev.step ((znH 11 (by omega) l h 401 (by omega) (by omega)).mono fun n hn=>by rw[zix,zcK];exact hn)
def okL2 (l:List GStep):Bool:=decide (cntN 12 l≤400)&&zdK 11 l
theorem ziQ {l:List GStep} (h:wL l≤2097152):Ev fun n=>(tab n).zcm l=some (if okL2 l then 0 else 2):=by
 refine Ev.step (((znJ h).and (ziN 11 (by omega) l h)).mono fun n hh=> ?_)
 obtain⟨h1,h2⟩:=hh
 have h2:(tab n).zaY l 1=some (zdK 11 l):=h2
 rw[ziw]
 simp only[zcm,h1,h2,okL2,znI]
 by_cases hc:cntN 12 l≤400
 ·rw[if_neg (by simp;omega)]
  by_cases hr:zdK 11 l=true
  ·simp[hr,hc]
  ·simp[hr,hc]
 ·rw[if_pos (by simp;omega)]
  simp[hc]
end Go.Proofs.YtgmidllbkjdnnaaDoor.W
