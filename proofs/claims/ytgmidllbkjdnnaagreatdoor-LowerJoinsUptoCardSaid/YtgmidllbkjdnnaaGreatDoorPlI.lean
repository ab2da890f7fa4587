/- How many, how deep: the reference's. -/
import Derived.Test.YtgmidllbkjdnnaaGreatDoorPlH
namespace Go.Proofs.YtgmidllbkjdnnaaGreatDoor.W
open Go.Proofs.YtgmidllbkjdnnaaGreatDoor.Flat
set_option linter.unusedVariables false
set_option linter.unusedSimpArgs false
theorem zk0 {most more:Int} {l:List GStep} {i:Int} {ts:List (List GStep)} {c:List GStep→Nat} (hm:1≤most∧most≤401) (hd:1≤more∧more≤11) (H:∀t∈ts,∀m:Int,1≤m→m≤401→Ev fun n=>(tab n).zb9 t m (IntKind.wrap .i64 (more-1))=some (min m (c t))) (hl:ts.length≤4194304):∀(d j:Nat) (st:Int),j+d=ts.length→0≤st→st≤most→
  Ev fun n=>∀K,d < K→∃z,zbt (tab n) n K l most more st i ts (j:Int)=some (l,most,more,min most (st+(((ts.drop j).map c).sum:Nat)),i,z)
 | 0,j,st,hi,h0,h1=>by
  refine Ev.pure fun n K hk=> ?_
  obtain⟨K,rfl⟩:∃j,K=j+1:=⟨K-1,by omega⟩
  refine⟨_,by rw[zbt,if_neg (by simp;omega),List.drop_of_length_le (by omega)];simp only[List.map_nil,List.sum_nil];rw[show min most (st+((0:Nat):Int))=st by omega]⟩
 | d+1,j,st,hi,h0,h1=>by
  obtain⟨y,y1,y3,y2⟩:=at_ (l:=ts) (i:=j) (by omega)
  have hw:=wr1 (i:=j) (L:=ts.length) (by omega) (by omega)
  by_cases hst:st < most
  ·have e1:=H y y3 (most-st) (by omega) (by omega)
   have ih:=zk0 (l:=l) (i:=i) hm hd H hl d (j+1) (min most (st+c y)) (by omega) (by omega) (by omega)
   refine(e1.and ih).mono fun n hh K hk=> ?_
   obtain⟨g1,g2⟩:=hh
   obtain⟨K,rfl⟩:∃j,K=j+1:=⟨K-1,by omega⟩
   obtain⟨z,hz⟩:=g2 K (by omega)
   refine⟨z, ?_⟩
   rw[zbt,if_pos (by simp;omega),if_pos (by simp;omega),if_pos (by simpa using hst),zc5,if_pos (by simp),Int.toNat_natCast,y1]
   dsimp only
   rw[show IntKind.wrap .i64 (most-st)=most-st from wr (by omega) (by omega),g1]
   dsimp only
   rw[hw,show IntKind.wrap .i64 (st+min (most-st) (c y))=min most (st+c y) by rw[wr (by omega) (by omega)];omega,hz,y2,List.map_cons,List.sum_cons]
   congr 4
   push_cast
   rw[show min most (min most (st+(c y:Int))+(((ts.drop (j+1)).map c).sum:Nat))=min most (st+((c y:Int)+(((ts.drop (j+1)).map c).sum:Nat))) by omega]
  ·refine Ev.pure fun n K hk=> ?_
   obtain⟨K,rfl⟩:∃j,K=j+1:=⟨K-1,by omega⟩
   have e:min most (st+(((ts.drop j).map c).sum:Nat))=st:=by omega
   rw[e]
   exact⟨_,by rw[zbt,if_pos (by simp;omega),if_pos (by simp;omega),if_neg (by simpa using hst)]⟩
theorem ziB {most more : Int} {l : List GStep} {c : List GStep → Nat} (hm : 1 ≤ most ∧ most ≤ 401) (hl : l.length ≤ 4194304)
  (H:∀x∈l,(Ev fun n=>(tab n).zb0 x=some (inn x))∧∀st:Int,0≤st→st≤most→∀i,Ev fun n=>∃z,zbt (tab n) n n l most more st i (inn x) 0=some (l,most,more,min most (st+(((inn x).map c).sum:Nat)),i,z)):
  ∀(d j:Nat) (st:Int),j+d=l.length→0≤st→st≤most→
  Ev fun n=>∀K,d < K→∃z,zb8 (tab n) n K l most more st (j:Int)=some (l,most,more,min most (st+(((l.drop j).map fun x=>1+((inn x).map c).sum).sum:Nat)),z)
 | 0,j,st,hi,h0,h1=>by
  refine Ev.pure fun n K hk=> ?_
  obtain⟨K,rfl⟩:∃j,K=j+1:=⟨K-1,by omega⟩
  refine⟨_,by rw[zb8,if_neg (by simp;omega),List.drop_of_length_le (by omega)];simp only[List.map_nil,List.sum_nil];rw[show min most (st+((0:Nat):Int))=st by omega]⟩
 | d+1,j,st,hi,h0,h1=>by
  obtain⟨x,x1,x3,x2⟩:=at_ (l:=l) (i:=j) (by omega)
  have hw:=wr1 (i:=j) (L:=l.length) (by omega) (by omega)
  have hw1:IntKind.wrap .i64 (st+1)=st+1:=wr (by omega) (by omega)
  by_cases hst:st < most
  ·obtain⟨q1,q3⟩:=H x x3
   have q3:=q3 (st+1) (by omega) (by omega) (j:Int)
   have ih:=ziB (more:=more) hm hl H d (j+1) (min most (st+1+(((inn x).map c).sum:Nat))) (by omega) (by omega) (by omega)
   refine((q1.and q3).and ih).mono fun n hh K hk=> ?_
   obtain⟨⟨g1,⟨z1,z2,z3⟩,g2⟩,g3⟩:=hh
   obtain⟨K,rfl⟩:∃j,K=j+1:=⟨K-1,by omega⟩
   obtain⟨z,hz⟩:=g3 K (by omega)
   refine⟨z, ?_⟩
   rw[zb8,if_pos (by simp;omega),if_pos (by simpa using hst),zc6,if_pos (by simp),Int.toNat_natCast,x1,x2,List.map_cons,List.sum_cons]
   have e2:∀s:Nat,min most (min most (st+1+(((inn x).map c).sum:Nat))+(s:Int))=min most (st+((1+((inn x).map c).sum+s:Nat):Int)):=fun s=>by push_cast;omega
   rw[←e2]
   clear ih x1 x2 x3 q1 q3 H e2
   obtain⟨op,S,N,⟨v1,v2,v3,v4,v5⟩,⟨p1,p2,p3⟩,Ts,By,As⟩:=x
   simp only[g1,hw1,g2,hw]
   exact hz
  ·refine Ev.pure fun n K hk=> ?_
   obtain⟨K,rfl⟩:∃j,K=j+1:=⟨K-1,by omega⟩
   have e:min most (st+(((l.drop j).map fun x=>1+((inn x).map c).sum).sum:Nat))=st:=by omega
   rw[e]
   exact⟨_,by rw[zb8,if_pos (by simp;omega),if_neg (by simpa using hst)]⟩
theorem zor:∀(g:Nat),g≤11→∀l,wL l≤2097152→∀most:Int,1≤most→most≤401→Ev fun n=>(tab n).zb9 l most (g:Int)=some (min most (cntN (g+1) l)):=by
 intro g
 induction g with
 | zero=>
  intro _ l h most h1 h2
  have hin:=zfX h
  have hlen:=zfr l
  rw[show((0:Nat):Int)=0 from rfl]
  have k:=ziB (most:=most) (more:=0) (l:=l) (c:=cntN 0) ⟨h1,h2⟩ (by omega) (fun x hx=>⟨zfR (hin x hx),fun st a b i=>(Ev.ge 1).mono fun n hn=>by
   rw[zkl,show min most (st+((0:Nat):Int))=st by omega]
   obtain⟨n,rfl⟩:∃j,n=j+1:=⟨n-1,by omega⟩
   rw[zbt]
   by_cases h0:(decide ((0:Int) < ((inn x).length:Int)))=true
   ·rw[if_pos h0,if_neg (by simp)]
    exact⟨_,rfl⟩
   ·rw[if_neg h0]
    exact⟨_,rfl⟩⟩) l.length 0 0 (by omega) (by omega) (by omega)
  refine Ev.step ((k.and (Ev.ge (l.length+1))).mono fun n hh=> ?_)
  obtain⟨⟨z1,z2⟩,k⟩:=hh.1 n (by omega)
  rw[show((0:Nat):Int)=0 from rfl,List.drop_zero]at k
  rw[zgz,cntN]
  simp only[zb9,k,Int.zero_add]
 | succ g ih=>
  intro hg l h most h1 h2
  have hin:=zfX h
  have hlen:=zfr l
  have e0:IntKind.wrap .i64 (((g+1:Nat):Int)-1)=(g:Int):=by rw[wr (by omega) (by omega)];omega
  have k:=ziB (most:=most) (more:=((g+1:Nat):Int)) (l:=l) (c:=cntN (g+1)) ⟨h1,h2⟩ (by omega) (fun x hx=>⟨zfR (hin x hx),fun st a b i=>by
   have hx1:=zg3 hx
   have q:=zk0 (l:=l) (i:=i) (most:=most) (more:=((g+1:Nat):Int)) (ts:=inn x) (c:=cntN (g+1)) ⟨h1,h2⟩ (by omega) (fun t ht m m1 m2=>by rw[e0];exact ih (by omega) t (by have:=zg2 ht;omega) m m1 m2) (hin x hx).zgq (inn x).length 0 st (by omega) a b
   exact(q.and (Ev.ge ((inn x).length+1))).mono fun n hh=>hh.1 n (by omega)⟩) l.length 0 0 (by omega) (by omega) (by omega)
  refine Ev.step ((k.and (Ev.ge (l.length+1))).mono fun n hh=> ?_)
  obtain⟨⟨z1,z2⟩,k⟩:=hh.1 n (by omega)
  rw[show((0:Nat):Int)=0 from rfl,List.drop_zero]at k
  rw[zgz,cntN]
  simp only[zb9,k,Int.zero_add]
theorem zg5 {l:List GStep} (h:wL l≤2097152):Ev fun n=>(tab n).zbY l=some (zgu l):=by
 refine Ev.step ((zor 11 (by omega) l h 401 (by omega) (by omega)).mono fun n hn=> ?_)
 have hn:(tab n).zb9 l 401 11=some (min 401 (cntN 12 l:Int)):=hn
 rw[ziY]
 simp only[zbY,hn,zgu]
 congr 1
 split<;>omega
theorem zmu {more:Int} {l:List GStep} {i:Int} {ts:List (List GStep)} {c:List GStep→Nat} (H:∀t∈ts,c t≤12∧Ev fun n=>(tab n).zdn t (IntKind.wrap .i64 (more-1))=some ((c t:Nat):Int)) (hl:ts.length≤4194304):∀(d j:Nat) (st:Nat),j+d=ts.length→st≤20→
  Ev fun n=>∀K,d < K→∃z,zcR (tab n) n K l more (st:Int) i ts (j:Int)=some (l,more,((max st (sup ((ts.drop j).map c)):Nat):Int),i,z)
 | 0,j,st,hi,h0=>by
  refine Ev.pure fun n K hk=> ?_
  obtain⟨K,rfl⟩:∃j,K=j+1:=⟨K-1,by omega⟩
  refine⟨_,by rw[zcR,if_neg (by simp;omega),List.drop_of_length_le (by omega)];simp only[List.map_nil,sup];rw[show max st 0=st by omega]⟩
 | d+1,j,st,hi,h0=>by
  obtain⟨y,y1,y3,y2⟩:=at_ (l:=ts) (i:=j) (by omega)
  have hw:=wr1 (i:=j) (L:=ts.length) (by omega) (by omega)
  obtain⟨hc,e1⟩:=H y y3
  have ih:=zmu (l:=l) (i:=i) H hl d (j+1) (max st (c y)) (by omega) (by omega)
  refine(e1.and ih).mono fun n hh K hk=> ?_
  obtain⟨g1,g2⟩:=hh
  obtain⟨K,rfl⟩:∃j,K=j+1:=⟨K-1,by omega⟩
  obtain⟨z,hz⟩:=g2 K (by omega)
  refine⟨z, ?_⟩
  rw[zcR,if_pos (by simp;omega),if_pos (by simp),Int.toNat_natCast,y1]
  simp only[g1]
  have e3:(if ((c y:Nat):Int) > (st:Int)then((c y:Nat):Int)else(st:Int))=((max st (c y):Nat):Int):=by split<;>omega
  rw[hw,e3,hz,y2,List.map_cons,sup]
  congr 4
  congr 1
  omega
theorem zmv {more : Int} {l : List GStep} {c : List GStep → Nat} (hm : 0 < more) (hl : l.length ≤ 4194304) (hc : ∀ x ∈ l, ∀ t ∈ inn x, c t ≤ 12)
  (H:∀x∈l,(Ev fun n=>(tab n).zb0 x=some (inn x))∧∀st:Nat,st≤20→∀i,Ev fun n=>∃z,zcR (tab n) n n l more (st:Int) i (inn x) 0=some (l,more,((max st (sup ((inn x).map c)):Nat):Int),i,z)):
  ∀(d j:Nat) (st:Nat),j+d=l.length→st≤20→
  Ev fun n=>∀K,d < K→∃z,zcS (tab n) n K l more (st:Int) (j:Int)=some (l,more,((max st (sup ((l.drop j).map fun x=>sup ((inn x).map c))):Nat):Int),z)
 | 0,j,st,hi,h0=>by
  refine Ev.pure fun n K hk=> ?_
  obtain⟨K,rfl⟩:∃j,K=j+1:=⟨K-1,by omega⟩
  refine⟨_,by rw[zcS,if_neg (by simp;omega),List.drop_of_length_le (by omega)];simp only[List.map_nil,sup];rw[show max st 0=st by omega]⟩
 | d+1,j,st,hi,h0=>by
  obtain⟨x,x1,x3,x2⟩:=at_ (l:=l) (i:=j) (by omega)
  have hw:=wr1 (i:=j) (L:=l.length) (by omega) (by omega)
  obtain⟨q1,q3⟩:=H x x3
  have q3:=q3 st h0 (j:Int)
  have hs:sup ((inn x).map c)≤12:=zfw.2 fun y hy=>by
   obtain⟨t,ht,rfl⟩:=List.mem_map.1 hy
   exact hc x x3 t ht
  have ih:=zmv hm hl hc H d (j+1) (max st (sup ((inn x).map c))) (by omega) (by omega)
  refine((q1.and q3).and ih).mono fun n hh K hk=> ?_
  obtain⟨⟨g1,⟨z1,z2,z3⟩,g2⟩,g3⟩:=hh
  obtain⟨K,rfl⟩:∃j,K=j+1:=⟨K-1,by omega⟩
  obtain⟨z,hz⟩:=g3 K (by omega)
  refine⟨z, ?_⟩
  rw[zcS,if_pos (by simp;omega),if_pos (by simpa using hm),zdG,if_pos (by simp),Int.toNat_natCast,x1,x2,List.map_cons,sup]
  have e:∀s,max st (max (sup ((inn x).map c)) s)=max (max st (sup ((inn x).map c))) s:=fun s=>by omega
  rw[e]
  clear ih x1 x2 x3 q1 q3 H hs e hc
  obtain⟨op,S,N,⟨v1,v2,v3,v4,v5⟩,⟨p1,p2,p3⟩,Ts,By,As⟩:=x
  simp only[g1,g2,hw]
  exact hz
theorem zpe:∀(g:Nat),g≤11→∀l,wL l≤2097152→Ev fun n=>(tab n).zdn l (g:Int)=some ((nn (g+1) l:Nat):Int):=by
 intro g
 induction g with
 | zero=>
  intro _ l h
  refine Ev.step ((Ev.ge 1).mono fun n hn=> ?_)
  obtain⟨n,rfl⟩:∃j,n=j+1:=⟨n-1,by omega⟩
  have e:sup (l.map fun x=>sup ((inn x).map (nn 0)))=0:=by
   have:sup (l.map fun x=>sup ((inn x).map (nn 0)))≤0:=zfw.2 fun y hy=>by
    obtain⟨x,_,rfl⟩:=List.mem_map.1 hy
    refine zfw.2 fun z hz=> ?_
    obtain⟨t,_,rfl⟩:=List.mem_map.1 hz
    exact Nat.le_refl _
   omega
  rw[zgT,nn,e,show((0:Nat):Int)=0 from rfl]
  rw[zdn,zcS]
  have w1:IntKind.wrap .i64 (1+0)=1:=by rw[wr (by omega) (by omega)];rfl
  by_cases h0:(decide ((0:Int) < (l.length:Int)))=true
  ·rw[if_pos h0,if_neg (by simp)]
   simp only[w1]
   rfl
  ·rw[if_neg h0]
   simp only[w1]
   rfl
 | succ g ih=>
  intro hg l h
  have hin:=zfX h
  have hlen:=zfr l
  have e0:IntKind.wrap .i64 (((g+1:Nat):Int)-1)=(g:Int):=by rw[wr (by omega) (by omega)];omega
  have hc:∀x∈l,∀t∈inn x,nn (g+1) t≤12:=fun x hx t ht=>by have:=zp6 (g+1) t;omega
  have k:=zmv (more:=((g+1:Nat):Int)) (l:=l) (c:=nn (g+1)) (by omega) (by omega) hc (fun x hx=>⟨zfR (hin x hx),fun st a i=>by
   have hx1:=zg3 hx
   have q:=zmu (l:=l) (i:=i) (more:=((g+1:Nat):Int)) (ts:=inn x) (c:=nn (g+1)) (fun t ht=>⟨hc x hx t ht,by rw[e0];exact ih (by omega) t (by have:=zg2 ht;omega)⟩) (hin x hx).zgq (inn x).length 0 st (by omega) a
   exact(q.and (Ev.ge ((inn x).length+1))).mono fun n hh=>hh.1 n (by omega)⟩) l.length 0 0 (by omega) (by omega)
  refine Ev.step ((k.and (Ev.ge (l.length+1))).mono fun n hh=> ?_)
  obtain⟨⟨z1,z2⟩,k⟩:=hh.1 n (by omega)
  rw[show((0:Nat):Int)=0 from rfl,List.drop_zero]at k
  have hs:sup (l.map fun x=>sup ((inn x).map (nn (g+1))))≤12:=zfw.2 fun y hy=>by
   obtain⟨x,hx,rfl⟩:=List.mem_map.1 hy
   refine zfw.2 fun z hz=> ?_
   obtain⟨t,ht,rfl⟩:=List.mem_map.1 hz
   exact hc x hx t ht
  rw[zgT,nn]
  simp only[zdn,k]
  rw[wr (by omega) (by omega)]
  congr 1
  all_goals (push_cast;omega)
theorem znc {l:List GStep} (h:wL l≤2097152):Ev fun n=>(tab n).zdT l=some ((nn 12 l:Nat):Int):=
 Ev.step ((zpe 11 (by omega) l h).mono fun n hn=>by rw[zjT,zdT];exact hn)
end Go.Proofs.YtgmidllbkjdnnaaGreatDoor.W
