/- How many steps there are, how deep; may a plan be? -/
import Derived.Test.YtgmidllbkjdnnaaGreatDoorPlE
namespace Go.Proofs.YtgmidllbkjdnnaaGreatDoor.W
open Go.Proofs.YtgmidllbkjdnnaaGreatDoor.Flat
set_option linter.unusedVariables false
set_option linter.unusedSimpArgs false
def cntN:Nat→List GStep→Nat
 | 0,_=>0
 | g+1,l=>(l.map fun x=>1+((inn x).map (cntN g)).sum).sum
def sup:List Nat→Nat
 | []=>0
 | x::xs=>max x (sup xs)
def nn:Nat→List GStep→Nat
 | 0,_=>0
 | g+1,l=>1+sup (l.map fun x=>sup ((inn x).map (nn g)))
theorem zfw {k:Nat}:∀{a:List Nat},sup a≤k↔∀x∈a,x≤k
 | []=>by simp[sup]
 | x::xs=>by
  rw[sup,Nat.max_le,zfw (a:=xs)]
  simp
theorem zp6:∀(g:Nat) (l:List GStep),nn g l≤g
 | 0,l=>Nat.le_refl _
 | g+1,l=>by
  rw[nn]
  have:sup (l.map fun x=>sup ((inn x).map (nn g)))≤g:=zfw.2 fun y hy=>by
   obtain⟨x,_,rfl⟩:=List.mem_map.1 hy
   refine zfw.2 fun z hz=> ?_
   obtain⟨t,_,rfl⟩:=List.mem_map.1 hz
   exact zp6 g t
  omega
theorem znH {g k:Nat} {l:List GStep}:nn (g+1) l≤k+1↔∀x∈l,∀t∈inn x,nn g t≤k:=by
 rw[nn]
 constructor
 ·intro h x hx t ht
  have h1:sup (l.map fun x=>sup ((inn x).map (nn g)))≤k:=by omega
  have h2:=zfw.1 h1 _ (List.mem_map.2 ⟨x,hx,rfl⟩)
  exact zfw.1 h2 _ (List.mem_map.2 ⟨t,ht,rfl⟩)
 ·intro h
  have:sup (l.map fun x=>sup ((inn x).map (nn g)))≤k:=zfw.2 fun y hy=>by
   obtain⟨x,hx,rfl⟩:=List.mem_map.1 hy
   refine zfw.2 fun z hz=> ?_
   obtain⟨t,ht,rfl⟩:=List.mem_map.1 hz
   exact h x hx t ht
  omega
theorem zgs {α β:Type _} {f g:α→β} {l:List α} (h:∀x∈l,f x=g x):l.map f=l.map g:=List.map_congr_left h
theorem zo9:∀(g:Nat) (l:List GStep),nn (g+1) l≤g→nn (g+1) l=nn g l
 | 0,l,h=>by rw[nn]at h;omega
 | g+1,l,h=>by
  have h1:=znH.1 h
  rw[nn,nn]
  congr 2
  refine zgs fun x hx=> ?_
  congr 1
  exact zgs fun t ht=>zo9 g t (h1 x hx t ht)
theorem zpa:∀(g:Nat) (l:List GStep),nn (g+1) l≤g→cntN (g+1) l=cntN g l
 | 0,l,h=>by rw[nn]at h;omega
 | g+1,l,h=>by
  have h1:=znH.1 h
  rw[cntN,cntN]
  congr 1
  refine zgs fun x hx=> ?_
  congr 2
  exact zgs fun t ht=>zpa g t (h1 x hx t ht)
theorem zpQ (g:Nat) (a b:List GStep):cntN g (a++b)=cntN g a+cntN g b:=by
 cases g with
 | zero=>rfl
 | succ g=>rw[cntN,cntN,cntN,List.map_append,List.sum_append]
theorem zki {R R':List GStep→Bool} {x:GStep} (h:stepF R x=true):(∀t∈inn x,R t=true)∧(stepF R' x=true↔∀t∈inn x,R' t=true):=by
 unfold stepF at h⊢
 rw[Bool.and_eq_true,Bool.and_eq_true,Bool.and_eq_true,Bool.and_eq_true,List.all_eq_true,List.all_eq_true]at h
 obtain⟨⟨⟨⟨h1,h2⟩,h3⟩,h4⟩,h5⟩:=h
 have hr:restF R' x (shF (opOf x))=true:=h3
 rw[h1,h2,hr]
 simp only[Bool.true_and]
 rw[Bool.and_eq_true,List.all_eq_true,List.all_eq_true]
 have hby:∀b∈byOf x,(innB b=true→bK b=3):=by
  intro b hb hi
  have:=h5 b hb
  unfold byF at this
  unfold innB at hi
  simp only[Bool.and_eq_true,Bool.or_eq_true,beq_iff_eq,decide_eq_true_eq]at this hi
  rcases hi with hi | hi
  ·exact hi
  ·rcases this.1.2 with h | h
   ·exact h
   ·omega
 refine⟨fun t ht=> ?_,fun h=> ?_,fun h=>⟨fun t ht=>h t (List.mem_append_left _ ht),fun b hb=> ?_⟩⟩
 ·rcases List.mem_append.1 ht with ht | ht
  ·exact h4 t ht
  ·obtain⟨b,hb,rfl⟩:=List.mem_map.1 ht
   obtain⟨hb,hi⟩:=List.mem_filter.1 hb
   have hk:=hby b hb hi
   have:=h5 b hb
   unfold byF at this
   simp only[hk,Bool.and_eq_true,Bool.or_eq_true,beq_iff_eq]at this
   rcases this.2 with h | h
   ·rcases h with h | h
    ·omega
    ·omega
   ·exact h.2
 ·intro t ht
  rcases List.mem_append.1 ht with ht | ht
  ·exact h.1 t ht
  ·obtain⟨b,hb,rfl⟩:=List.mem_map.1 ht
   obtain⟨hb,hi⟩:=List.mem_filter.1 hb
   have hk:=hby b hb hi
   have:=h.2 b hb
   unfold byF at this
   simp only[hk,Bool.and_eq_true,Bool.or_eq_true,beq_iff_eq]at this
   rcases this.2 with h | h
   ·rcases h with h | h
    ·omega
    ·omega
   ·exact h.2
 ·have h0:=h5 b hb
  unfold byF at h0⊢
  by_cases hk:bK b=3
  ·have hR:=h (bT b) (List.mem_append_right _ (List.mem_map.2 ⟨b,List.mem_filter.2 ⟨hb,by simp[innB,hk]⟩,rfl⟩))
   simp only[hk,Bool.and_eq_true,Bool.or_eq_true,beq_iff_eq]at h0⊢
   exact⟨h0.1,.inr ⟨trivial,hR⟩⟩
  ·simp only[Bool.and_eq_true,Bool.or_eq_true,beq_iff_eq]at h0⊢
   refine⟨h0.1, ?_⟩
   rcases h0.2 with h | h
   ·exact .inl h
   ·exact absurd h.1 hk
theorem zgt:∀(f:Nat) (l:List GStep),zb1 f l=true→∀g,nn g l≤f
 | 0,l,h,g=>by cases h
 | f+1,l,h,0=>Nat.zero_le _
 | f+1,l,h,g+1=>by
  rw[zb1,List.all_eq_true]at h
  exact znH.2 fun x hx t ht=>zgt f t ((zki (R':=zb1 f) (h x hx)).1 t ht) g
theorem zhy:∀(f:Nat) (l:List GStep),zb1 (f+1) l=true→(zb1 f l=true↔nn (f+1) l≤f)
 | 0,l,h=>by
  constructor
  ·intro h;cases h
  ·intro h;rw[nn]at h;omega
 | f+1,l,h=>by
  constructor
  ·intro h2;exact zgt _ _ h2 _
  ·intro h2
   rw[zb1,List.all_eq_true]at h⊢
   have h3:=znH.1 h2
   intro x hx
   refine(zki (h x hx)).2.2 fun t ht=> ?_
   exact(zhy f t ((zki (R':=zb1 f) (h x hx)).1 t ht)).2 (h3 x hx t ht)
theorem zop (f:Nat) (a b:List GStep):zb1 (f+1) (a++b)=(zb1 (f+1) a&&zb1 (f+1) b):=by
 rw[zb1,zb1,zb1,List.all_append]
section
theorem zkj {most deep:Int} {l:List GStep} {L i:Int} {ts:List (List GStep)} {c:List GStep→Nat} (hm:1≤most∧most≤401) (hd:1≤deep∧deep≤11) (H:∀t∈ts,∀m:Int,1≤m→m≤401→Ev fun n=>(tab n).zcK t m (IntKind.wrap .i64 (deep+1))=some (min m (c t))) (hl:ts.length≤4194304):∀(d j:Nat) (st:Int),j+d=ts.length→0≤st→st≤most→
  Ev fun n=>∀K,d < K→∃z,za3 (tab n) n K most deep st l L i ts (ts.length:Int) (j:Int)=some (most,deep,min most (st+(((ts.drop j).map c).sum:Nat)),l,L,i,z)
 | 0,j,st,hi,h0,h1=>by
  refine Ev.pure fun n K hk=> ?_
  obtain⟨K,rfl⟩:∃j,K=j+1:=⟨K-1,by omega⟩
  refine⟨_,by rw[za3,if_neg (by simp;omega),List.drop_of_length_le (by omega)];simp only[List.map_nil,List.sum_nil];rw[show min most (st+((0:Nat):Int))=st by omega]⟩
 | d+1,j,st,hi,h0,h1=>by
  obtain⟨y,y1,y3,y2⟩:=at_ (l:=ts) (i:=j) (by omega)
  have hw:=wr1 (i:=j) (L:=ts.length) (by omega) (by omega)
  by_cases hst:st < most
  ·have e1:=H y y3 (most-st) (by omega) (by omega)
   have ih:=zkj (l:=l) (L:=L) (i:=i) hm hd H hl d (j+1) (min most (st+c y)) (by omega) (by omega) (by omega)
   refine(e1.and ih).mono fun n hh K hk=> ?_
   obtain⟨g1,g2⟩:=hh
   obtain⟨K,rfl⟩:∃j,K=j+1:=⟨K-1,by omega⟩
   obtain⟨z,hz⟩:=g2 K (by omega)
   refine⟨z, ?_⟩
   rw[za3,if_pos (by simp;omega),if_pos (by simp),Int.toNat_natCast,y1]
   dsimp only
   rw[if_pos (by simpa using hd.2),zb2,if_pos (by simpa using hst)]
   rw[show IntKind.wrap .i64 (most-st)=most-st from wr (by omega) (by omega),g1]
   dsimp only
   rw[hw,show IntKind.wrap .i64 (st+min (most-st) (c y))=min most (st+c y) by rw[wr (by omega) (by omega)];omega,hz,y2,List.map_cons,List.sum_cons]
   congr 3
   push_cast
   rw[show min most (min most (st+(c y:Int))+(((ts.drop (j+1)).map c).sum:Nat))=min most (st+((c y:Int)+(((ts.drop (j+1)).map c).sum:Nat))) by omega]
  ·have ih:=zkj (l:=l) (L:=L) (i:=i) hm hd H hl d (j+1) st (by omega) (by omega) (by omega)
   refine ih.mono fun n g2 K hk=> ?_
   obtain⟨K,rfl⟩:∃j,K=j+1:=⟨K-1,by omega⟩
   obtain⟨z,hz⟩:=g2 K (by omega)
   refine⟨z, ?_⟩
   rw[za3,if_pos (by simp;omega),if_pos (by simp),Int.toNat_natCast,y1]
   dsimp only
   rw[if_pos (by simpa using hd.2),zb2,if_neg (by simpa using hst)]
   dsimp only
   rw[hw,hz,y2,List.map_cons,List.sum_cons]
   congr 3
   push_cast
   rw[show min most (st+(((ts.drop (j+1)).map c).sum:Nat))=min most (st+((c y:Int)+(((ts.drop (j+1)).map c).sum:Nat))) by omega]
theorem zkZ {most deep:Int} {l:List GStep} {L i:Int} {ts:List (List GStep)} (hd:¬deep≤11) (hl:ts.length≤4194304) {st:Int} {t:Tab} {n:Nat}:∀(d j K:Nat),j+d=ts.length→d < K→∃z,za3 t n K most deep st l L i ts (ts.length:Int) (j:Int)=some (most,deep,st,l,L,i,z)
 | 0,j,K,hi,hk=>by
  obtain⟨K,rfl⟩:∃j,K=j+1:=⟨K-1,by omega⟩
  exact⟨_,by rw[za3,if_neg (by simp;omega)]⟩
 | d+1,j,K,hi,hk=>by
  obtain⟨y,y1,y3,y2⟩:=at_ (l:=ts) (i:=j) (by omega)
  have hw:=wr1 (i:=j) (L:=ts.length) (by omega) (by omega)
  obtain⟨K,rfl⟩:∃j,K=j+1:=⟨K-1,by omega⟩
  rw[za3,if_pos (by simp;omega),if_pos (by simp),Int.toNat_natCast,y1]
  dsimp only
  rw[if_neg (by simpa using hd),zb2,if_neg (by simp)]
  dsimp only
  rw[hw]
  exact zkZ hd hl d (j+1) K (by omega) (by omega)
theorem zkk {most deep : Int} {l : List GStep} {c : List GStep → Nat} (hm : 1 ≤ most ∧ most ≤ 401) (hl : l.length ≤ 4194304)
  (H:∀x∈l,(Ev fun n=>(tab n).zdW x=some (inn x))∧(inn x).length≤4194304∧∀st:Int,0≤st→st≤most→∀L i,Ev fun n=>∀K,(inn x).length < K→∃z,za3 (tab n) n K most deep st l L i (inn x) ((inn x).length:Int) 0=some (most,deep,min most (st+(((inn x).map c).sum:Nat)),l,L,i,z)):
  ∀(d j:Nat) (st:Int),j+d=l.length→0≤st→st≤most→
  Ev fun n=>∀K,d < K→(∃z,zbm (tab n) n K most deep st l (l.length:Int) (j:Int)=some (.inr (most,deep,min most (st+(((l.drop j).map fun x=>1+((inn x).map c).sum).sum:Nat)),z)))∨(most≤st+(((l.drop j).map fun x=>1+((inn x).map c).sum).sum:Nat)∧zbm (tab n) n K most deep st l (l.length:Int) (j:Int)=some (.inl most))
 | 0,j,st,hi,h0,h1=>by
  refine Ev.pure fun n K hk=> ?_
  obtain⟨K,rfl⟩:∃j,K=j+1:=⟨K-1,by omega⟩
  refine .inl ⟨_,by rw[zbm,if_neg (by simp;omega),List.drop_of_length_le (by omega)];simp only[List.map_nil,List.sum_nil];rw[show min most (st+((0:Nat):Int))=st by omega]⟩
 | d+1,j,st,hi,h0,h1=>by
  obtain⟨x,x1,x3,x2⟩:=at_ (l:=l) (i:=j) (by omega)
  have hw:=wr1 (i:=j) (L:=l.length) (by omega) (by omega)
  have hw1:IntKind.wrap .i64 (st+1)=st+1:=wr (by omega) (by omega)
  by_cases hst:st+1≥most
  ·refine Ev.pure fun n K hk=>.inr ⟨by rw[x2,List.map_cons,List.sum_cons];push_cast;omega, ?_⟩
   obtain⟨K,rfl⟩:∃j,K=j+1:=⟨K-1,by omega⟩
   rw[zbm,if_pos (by simp;omega),if_pos (by simp),Int.toNat_natCast,x1]
   obtain⟨op,S,N,⟨v1,v2,v3,v4,v5⟩,⟨p1,p2,p3⟩,Ts,By,As⟩:=x
   dsimp only
   rw[hw1,if_pos (by simpa using hst)]
  ·obtain⟨q1,q2,q3⟩:=H x x3
   have q3:=q3 (st+1) (by omega) (by omega) (l.length:Int) (j:Int)
   have ih:=zkk (deep:=deep) hm hl H d (j+1) (min most (st+1+(((inn x).map c).sum:Nat))) (by omega) (by omega) (by omega)
   refine((q1.and q3).and (ih.and (Ev.ge ((inn x).length+1)))).mono fun n hh K hk=> ?_
   obtain⟨⟨g1,g2⟩,g3,g4⟩:=hh
   obtain⟨K,rfl⟩:∃j,K=j+1:=⟨K-1,by omega⟩
   obtain⟨⟨z1,z2,z3,z4⟩,hz⟩:=g2 n (by omega)
   have e:zbm (tab n) n (K+1) most deep st l (l.length:Int) (j:Int)=zbm (tab n) n K most deep (min most (st+1+(((inn x).map c).sum:Nat))) l (l.length:Int) ((j+1:Nat):Int):=by
    rw[zbm,if_pos (by simp;omega),if_pos (by simp),Int.toNat_natCast,x1]
    clear ih x1 x2 x3 q1 q3 H
    obtain⟨op,S,N,⟨v1,v2,v3,v4,v5⟩,⟨p1,p2,p3⟩,Ts,By,As⟩:=x
    dsimp only
    rw[hw1,if_neg (by simpa using hst)]
    simp only[g1,hz,hw]
   rw[e,x2,List.map_cons,List.sum_cons]
   have e2:∀s:Nat,min most (min most (st+1+(((inn x).map c).sum:Nat))+(s:Int))=min most (st+((1+((inn x).map c).sum+s:Nat):Int)):=fun s=>by push_cast;omega
   rcases g3 K (by omega)with ⟨z,h⟩ | ⟨h,h2⟩
   ·exact .inl ⟨z,by rw[h,e2]⟩
   ·refine .inr ⟨?_,h2⟩
    push_cast
    omega
end
theorem zkl:∀l:List (List GStep),(l.map (cntN 0)).sum=0
 | []=>rfl
 | x::xs=>by rw[List.map_cons,List.sum_cons,zkl xs];rfl
theorem zpb:∀(g:Nat),g≤11→∀l,wL l≤2097152→∀most:Int,1≤most→most≤401→Ev fun n=>(tab n).zcK l most (12-(g:Int))=some (min most (cntN (g+1) l)):=by
 intro g
 induction g with
 | zero=>
  intro _ l h most h1 h2
  have hin:=zfX h
  have hlen:=zfr l
  have e12:(12:Int)-((0:Nat):Int)=12:=rfl
  rw[e12]
  have k:=zkk (most:=most) (deep:=12) (l:=l) (c:=cntN 0) ⟨h1,h2⟩ (by omega) (fun x hx=>⟨zmq (hin x hx),(hin x hx).zgq,fun st a b L i=>Ev.pure fun n K hk=>by
   rw[zkl,show min most (st+((0:Nat):Int))=st by omega]
   exact zkZ (by omega) (hin x hx).zgq (inn x).length 0 K (by omega) hk⟩) l.length 0 0 (by omega) (by omega) (by omega)
  refine Ev.step ((k.and (Ev.ge (l.length+1))).mono fun n hh=> ?_)
  have k:=hh.1 n (by omega)
  rw[show((0:Nat):Int)=0 from rfl]at k
  rw[zgV,cntN]
  rw[List.drop_zero]at k
  rcases k with ⟨⟨z1,z2,z3,z4⟩,k⟩ | ⟨k1,k2⟩
  ·simp only[zcK,k,Int.zero_add]
  ·simp only[zcK,k2]
   congr 1
   omega
 | succ g ih=>
  intro hg l h most h1 h2
  have hin:=zfX h
  have hlen:=zfr l
  have e0:IntKind.wrap .i64 ((12-((g+1:Nat):Int))+1)=12-(g:Int):=by rw[wr (by omega) (by omega)];omega
  have k:=zkk (most:=most) (deep:=12-((g+1:Nat):Int)) (l:=l) (c:=cntN (g+1)) ⟨h1,h2⟩ (by omega) (fun x hx=>⟨zmq (hin x hx),(hin x hx).zgq,fun st a b L i=>
   have hx1:=zg3 hx
   zkj (l:=l) (L:=L) (i:=i) ⟨h1,h2⟩ (by omega) (fun t ht m m1 m2=>by rw[e0];exact ih (by omega) t (by have:=zg2 ht;omega) m m1 m2) (hin x hx).zgq (inn x).length 0 st (by omega) a b⟩) l.length 0 0 (by omega) (by omega) (by omega)
  refine Ev.step ((k.and (Ev.ge (l.length+1))).mono fun n hh=> ?_)
  have k:=hh.1 n (by omega)
  rw[show((0:Nat):Int)=0 from rfl]at k
  rw[zgV,cntN]
  rw[List.drop_zero]at k
  rcases k with ⟨⟨z1,z2,z3,z4⟩,k⟩ | ⟨k1,k2⟩
  ·simp only[zcK,k,Int.zero_add]
  ·simp only[zcK,k2]
   congr 1
   omega
def zgu (l:List GStep):Int:=min 401 (cntN 12 l:Int)
theorem zpc {l:List GStep} (h:wL l≤2097152):Ev fun n=>(tab n).zdN l=some (zgu l):=
 Ev.step ((zpb 11 (by omega) l h 401 (by omega) (by omega)).mono fun n hn=>by rw[zjX,zdN];exact hn)
def okL2 (l:List GStep):Bool:=decide (cntN 12 l≤400)&&zb1 11 l
theorem zmt {l:List GStep} (h:wL l≤2097152):Ev fun n=>(tab n).zdo l=some (if okL2 l then 0 else 2):=by
 refine Ev.step (((zpc h).and (zkh 11 (by omega) l h)).mono fun n hh=> ?_)
 obtain⟨h1,h2⟩:=hh
 have h2:(tab n).za9 l 1=some (zb1 11 l):=h2
 rw[zjU]
 simp only[zdo,h1,h2,okL2,zgu]
 by_cases hc:cntN 12 l≤400
 ·rw[if_neg (by simp;omega)]
  by_cases hr:zb1 11 l=true
  ·simp[hr,hc]
  ·simp[hr,hc]
 ·rw[if_pos (by simp;omega)]
  simp[hc]
end Go.Proofs.YtgmidllbkjdnnaaGreatDoor.W
