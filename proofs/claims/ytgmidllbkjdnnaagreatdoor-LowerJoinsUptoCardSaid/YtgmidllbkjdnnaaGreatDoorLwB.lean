/- Lower: what the program lays. -/
import Derived.Test.YtgmidllbkjdnnaaGreatDoorLwA
namespace Go.Proofs.YtgmidllbkjdnnaaGreatDoor.W
open Go.Proofs.YtgmidllbkjdnnaaGreatDoor.Flat
set_option linter.unusedVariables false
set_option linter.unusedSimpArgs false
theorem zpl (k:Nat):(tab (k+40)).za5=some true:=by kernel_rfl
theorem zou:Ev fun n=>(tab n).za5=some true:=⟨40,fun n hn=>by
 obtain⟨k,rfl⟩:∃k,n=k+40:=⟨n-40,by omega⟩
 exact zpl k⟩
def dp:Nat→List GStep→Prop
 | 0,_=>False
 | f+1,l=>∀t∈subsL l,dp f t
theorem zk2 {l:List GStep} {t:List GStep}:t∈subsL l↔∃x∈l,t∈subs x:=List.mem_flatMap
theorem zfJ (x:GStep) (l:List GStep):subsL (x::l)=subs x++subsL l:=by rw[subsL,List.flatMap_cons,subsL]
theorem zpm {R:List GStep→Bool} {x:GStep} (h:stepF R x=true):subs x=inn x:=by
 unfold stepF at h
 rw[Bool.and_eq_true,List.all_eq_true]at h
 unfold subs inn
 congr 2
 refine List.filter_congr fun b hb=> ?_
 have:=h.2 b hb
 unfold byF at this
 unfold innB
 simp only[Bool.and_eq_true,Bool.or_eq_true,beq_iff_eq,decide_eq_true_eq]at this
 rw[Bool.eq_iff_iff]
 simp only[Bool.or_eq_true,beq_iff_eq,decide_eq_true_eq]
 constructor
 ·exact fun h=>.inl h
 ·intro h
  rcases h with h | h
  ·exact h
  ·rcases this.1.2 with h2 | h2
   ·exact h2
   ·omega
theorem zpn {R:List GStep→Bool} {x:GStep} (h:stepF R x=true):∀t∈subs x,R t=true:=by
 rw[zpm h]
 intro t ht
 unfold stepF at h
 rw[Bool.and_eq_true,Bool.and_eq_true,List.all_eq_true,List.all_eq_true]at h
 rcases List.mem_append.1 ht with ht | ht
 ·exact h.1.2 t ht
 ·obtain⟨b,hb,rfl⟩:=List.mem_map.1 ht
  obtain⟨hb,hi⟩:=List.mem_filter.1 hb
  have:=h.2 b hb
  unfold byF at this
  unfold innB at hi
  simp only[Bool.and_eq_true,Bool.or_eq_true,beq_iff_eq,decide_eq_true_eq]at this hi
  have hk:bK b=3:=by
   rcases hi with h | h
   ·exact h
   ·rcases this.1.2 with h2 | h2
    ·exact h2
    ·omega
  rcases this.2 with (h | h) | h
  ·omega
  ·omega
  ·exact h.2
theorem zkp:∀(f:Nat) (l:List GStep),zb1 f l=true→dp f l
 | 0,l,h=>by cases h
 | f+1,l,h=>by
  rw[zb1,List.all_eq_true]at h
  intro t ht
  obtain⟨x,hx,ht⟩:=zk2.1 ht
  exact zkp f t (zpn (h x hx) t ht)
theorem zpo (C:List GStep→List GStep) (x:GStep):subs (cpS C x)=(subs x).map C:=by
 obtain⟨op,S,N,V,P,Ts,By,As⟩:=x
 simp only[cpS,subs,tOf,byOf,List.map_append,List.filter_map,List.map_map]
 congr 1
 have e:((fun b=>bK b==3) ∘ cpB C)=fun b=>bK b==3:=by funext b;cases b;rfl
 rw[e]
 refine List.map_congr_left fun b _=> ?_
 cases b
 rfl
theorem zk3 (g:Nat) (l:List GStep):subsL (cpL (g+1) l)=(subsL l).map (cpL g):=by
 rw[cpL]
 induction l with
 | nil=>rfl
 | cons x xs ih=>rw[List.map_cons,zfJ,zfJ,List.map_append,ih,zpo]
theorem zqe:∀(f g:Nat) (l:List GStep),f≤g→dp f l→dp f (cpL g l)
 | 0,_,_,_,h=>h
 | f+1,0,_,h,_=>by omega
 | f+1,g+1,l,h,hd=>by
  intro t ht
  rw[zk3]at ht
  obtain⟨u,hu,rfl⟩:=List.mem_map.1 ht
  exact zqe f g u (by omega) (hd u hu)
theorem znR:∀Ts:List (List GStep),wts (Ts.map fun t=>T.sl false 14 (GStep.ts t))=(Ts.map fun t=>wL t+1).sum
 | []=>rfl
 | t::ts=>by rw[List.map_cons,wts,znR ts,List.map_cons,List.sum_cons,T.wt,GStep.zl,wL]
theorem zqf:∀By:List GBy,((By.filter fun b=>bK b==3).map fun b=>wL (bT b)+1).sum≤wts (By.map GBy.t)
 | []=>Nat.le_refl _
 | b::bs=>by
  have ih:=zqf bs
  have h1:wL (bT b)+1≤b.t.wt:=by
   obtain⟨k,s,t,d⟩:=b
   simp only[GBy.t,T.wt,wts,GStep.zl,bT,wL]
   omega
  rw[List.map_cons,wts,List.filter_cons]
  split
  ·rw[List.map_cons,List.sum_cons];omega
  ·omega
theorem zqC (x:GStep):((subs x).map fun t=>wL t+1).sum≤x.t.wt:=by
 obtain⟨op,S,N,V,P,Ts,By,As⟩:=x
 have h:=zqf By
 have h2:=znR Ts
 simp only[GStep.t,T.wt,wts,zx,GBy.zl,subs,tOf,byOf,List.map_append,List.sum_append,List.map_map]
 have e:((fun t=>wL t+1) ∘ bT)=fun b=>wL (bT b)+1:=rfl
 rw[e]
 omega
theorem zly:∀l:List GStep,((subsL l).map fun t=>wL t+1).sum≤wL l
 | []=>Nat.zero_le _
 | x::xs=>by
  have h1:=zqC x
  have h2:=zly xs
  have e:wL (x::xs)=x.t.wt+wL xs:=by unfold wL;rw[List.map_cons,wts]
  rw[zfJ,List.map_append,List.sum_append,e]
  omega
theorem zpp {α:Type _} {f g:α→Nat}:∀{l:List α},(∀x∈l,f x≤g x)→(l.map f).sum≤(l.map g).sum
 | [],_=>Nat.le_refl _
 | x::xs,h=>by
  have h1:=h x (List.mem_cons_self ..)
  have h2:=zpp fun y hy=>h y (List.mem_cons_of_mem _ hy)
  rw[List.map_cons,List.map_cons,List.sum_cons,List.sum_cons]
  omega
theorem zlz:∀(f:Nat) (l:List GStep),plF f l≤wL l+1
 | 0,l=>by rw[plF];omega
 | f+1,l=>by
  have h1:=zly l
  have h2:=zpp (l:=subsL l) (f:=plF f) (g:=fun t=>wL t+1) fun t _=>zlz f t
  rw[plF]
  omega
theorem zpZ {l:List GStep} {t:List GStep} (h:t∈subsL l):wL t < wL l∨wL t+1≤wL l:=by
 have h1:=zly l
 have:∀{L:List (List GStep)},t∈L→wL t+1≤(L.map fun t=>wL t+1).sum:=by
  intro L
  induction L with
  | nil=>intro h;cases h
  | cons y ys ih=>
   intro h
   rw[List.map_cons,List.sum_cons]
   rcases List.mem_cons.1 h with rfl | h
   ·omega
   ·have:=ih h;omega
 have:=this h
 omega
def LayOk (t:Tab) (R:List GStep→Nat→List (List GCode)) (g:List GStep→Nat) (u:List GStep):Prop:=∀rows:List (List GCode),rows.length+g u≤8388608→t.zaR u (.mk rows)=some ((rows.length:Int),.mk (rows++R u rows.length))
section
variable {t:Tab} {n:Nat} {own:Int} {l:List GStep} {L i op:Int} {S As:List ByteArray} {N:List Int} {V:zh} {P:GPred} {R:List GStep→Nat→List (List GCode)} {g:List GStep→Nat}
theorem zpq {x:GStep} {Ts:List (List GStep)} {By:List GKey} (H:∀u∈Ts,LayOk t R g u) (hR:∀u∈Ts,∀m,(R u m).length=g u) (hl:Ts.length≤4194304):∀(d j K:Nat) (kids:List Int) (rows:List (List GCode)),j+d=Ts.length→d < K→kids.length+d≤4194304→rows.length+tot g (Ts.drop j)≤8388608→∃z1 z2,za8 t n K own l L i Ts (Ts.length:Int) (j:Int) x op S N V P kids By As (.mk rows)=some (own,l,L,i,Ts,(Ts.length:Int),z1,z2,x,op,S,N,V,P,kids++starts g (Ts.drop j) rows.length,By,As,.mk (rows++blocks R g (Ts.drop j) rows.length))
 | 0,j,K,kids,rows,hj,hK,hk,hr=>by
  obtain⟨K,rfl⟩:∃j,K=j+1:=⟨K-1,by omega⟩
  obtain⟨x1,x2,x3,⟨x4,x5,x6,x7,x8⟩,⟨x9,xa,xb⟩,xc,xd,xe⟩:=x
  obtain⟨v1,v2,v3,v4,v5⟩:=V
  obtain⟨p1,p2,p3⟩:=P
  exact⟨_,_,by rw[za8,if_neg (by simp;omega),List.drop_of_length_le (by omega),starts,blocks,List.append_nil,List.append_nil]⟩
 | d+1,j,K,kids,rows,hj,hK,hk,hr=>by
  obtain⟨K,rfl⟩:∃j,K=j+1:=⟨K-1,by omega⟩
  obtain⟨u,u1,u3,u2⟩:=at_ (l:=Ts) (i:=j) (by omega)
  rw[u2,zia]at hr
  have h1:=H u u3 rows (by omega)
  have h2:=hR u u3 rows.length
  obtain⟨z1,z2,ih⟩:=zpq (x:=x) (By:=By) H hR hl d (j+1) K (kids++[(rows.length:Int)]) (rows++R u rows.length) (by omega) (by omega) (by simp;omega) (by rw[List.length_append,h2];omega)
  refine⟨z1,z2, ?_⟩
  rw[u2,starts,blocks]
  rw[List.length_append,h2]at ih
  obtain⟨x1,x2,x3,⟨x4,x5,x6,x7,x8⟩,⟨x9,xa,xb⟩,xc,xd,xe⟩:=x
  obtain⟨v1,v2,v3,v4,v5⟩:=V
  obtain⟨p1,p2,p3⟩:=P
  rw[za8,if_pos (by simp;omega),if_pos (by simp),Int.toNat_natCast,u1,wr1 (i:=j) (L:=Ts.length) (by omega) (by omega)]
  simp only[h1]
  rw[if_pos (by simp;omega),ih]
  simp
theorem zpr {B:List GBy} {LB j:Int} {kids:List Int} {keys:List GKey} {k:GKey} {y:zV} (h:keys.length≤4194304):zbK t n own l L i B LB j op S N V P kids keys As k y=some (own,l,L,i,B,LB,j,op,S,N,V,P,kids,keys++[k],As,y):=by
 obtain⟨v1,v2,v3,v4,v5⟩:=V
 obtain⟨p1,p2,p3⟩:=P
 cases k
 cases y
 rw[zbK,if_pos (by simp;omega)]
def chB (By:List GBy):List (List GStep):=(By.filter fun b=>bK b==3).map bT
theorem znd {By:List GBy} {kids:List Int} (H:∀u∈chB By,LayOk t R g u) (hR:∀u∈chB By,∀m,(R u m).length=g u) (hl:By.length≤4194304):∀(d j K:Nat) (keys:List GKey) (rows:List (List GCode)),j+d=By.length→d < K→keys.length+d≤4194304→rows.length+tot g (chB (By.drop j))≤8388608→∃z1 z2,zaI t n K own l L i By (By.length:Int) (j:Int) op S N V P kids keys As (.mk rows)=some (own,l,L,i,By,(By.length:Int),z1,z2,op,S,N,V,P,kids,keys++keysF g (By.drop j) rows.length,As,.mk (rows++blocks R g (chB (By.drop j)) rows.length))
 | 0,j,K,keys,rows,hj,hK,hk,hr=>by
  obtain⟨K,rfl⟩:∃j,K=j+1:=⟨K-1,by omega⟩
  obtain⟨v1,v2,v3,v4,v5⟩:=V
  obtain⟨p1,p2,p3⟩:=P
  exact⟨_,_,by rw[zaI,if_neg (by simp;omega),List.drop_of_length_le (by omega),keysF,chB,List.filter_nil,List.map_nil,blocks,List.append_nil,List.append_nil]⟩
 | d+1,j,K,keys,rows,hj,hK,hk,hr=>by
  obtain⟨K,rfl⟩:∃j,K=j+1:=⟨K-1,by omega⟩
  obtain⟨b,u1,u3,u2⟩:=at_ (l:=By) (i:=j) (by omega)
  rw[u2]at hr⊢
  rw[keysF]
  have hw:=wr1 (i:=j) (L:=By.length) (by omega) (by omega)
  by_cases h3:(bK b==3)=true
  ·have ec:chB (b::By.drop (j+1))=bT b::chB (By.drop (j+1)):=by rw[chB,List.filter_cons_of_pos (p:=fun b=>bK b==3) h3,List.map_cons,chB]
   rw[ec,zia]at hr
   have hm:bT b∈chB By:=List.mem_map.2 ⟨b,List.mem_filter.2 ⟨u3,h3⟩,rfl⟩
   have h1:=H _ hm rows (by omega)
   have h2:=hR _ hm rows.length
   obtain⟨z1,z2,ih⟩:=znd (kids:=kids) H hR hl d (j+1) K (keys++[.mk (bK b) (bKey b) (rows.length:Int) (bD b)]) (rows++R (bT b) rows.length) (by omega) (by omega) (by simp;omega) (by rw[List.length_append,h2];omega)
   refine⟨z1,z2, ?_⟩
   rw[ec,if_pos h3,blocks]
   rw[List.length_append,h2]at ih
   obtain⟨k,s,u,de⟩:=b
   simp only[bK,bKey,bT,bD]at h1 h3 ih⊢
   clear u2 u3 hm ec
   obtain⟨v1,v2,v3,v4,v5⟩:=V
   obtain⟨p1,p2,p3⟩:=P
   rw[zaI,if_pos (by simp;omega),if_pos (by simp),Int.toNat_natCast,u1]
   dsimp only
   rw[if_pos h3]
   simp only[h1]
   rw[zpr (by omega)]
   dsimp only
   rw[hw,ih]
   simp
  ·have ec:chB (b::By.drop (j+1))=chB (By.drop (j+1)):=by rw[chB,List.filter_cons_of_neg (p:=fun b=>bK b==3) h3,chB]
   rw[ec]at hr
   obtain⟨z1,z2,ih⟩:=znd (kids:=kids) H hR hl d (j+1) K (keys++[.mk (bK b) (bKey b) 0 (bD b)]) rows (by omega) (by omega) (by simp;omega) (by omega)
   refine⟨z1,z2, ?_⟩
   rw[ec,if_neg h3]
   obtain⟨k,s,u,de⟩:=b
   simp only[bK,bKey,bT,bD]at h3 ih⊢
   clear u2 u3 ec
   obtain⟨v1,v2,v3,v4,v5⟩:=V
   obtain⟨p1,p2,p3⟩:=P
   rw[zaI,if_pos (by simp;omega),if_pos (by simp),Int.toNat_natCast,u1]
   dsimp only
   rw[if_neg h3,zpr (by omega)]
   dsimp only
   rw[hw,ih]
   simp
theorem zqD {r0:List (List GCode)} {cs:List GCode} {bl:List (List GCode)} {c:GCode} (h:cs.length≤4194304):zcZ t n (r0.length:Int) l L i c (.mk (r0++cs::bl))=some ((r0.length:Int),l,L,i,.mk (r0++(cs++[c])::bl)):=by
 obtain⟨x1,x2,x3,⟨x4,x5,x6,x7,x8⟩,⟨x9,xa,xb⟩,xc,xd,xe⟩:=c
 have e1:(r0++cs::bl)[r0.length]?=some cs:=by simp
 rw[zcZ,if_pos (by simp),Int.toNat_natCast,e1]
 dsimp only
 rw[if_pos (by simp;omega)]
 simp
theorem zps {r0:List (List GCode)} (H:∀u∈subsL l,LayOk t R g u) (hR:∀u∈subsL l,∀m,(R u m).length=g u) (hl:l.length≤4194304) (hx:∀x∈l,(tOf x).length≤2097152∧(byOf x).length≤2097152∧(tOf x).length < n∧(byOf x).length < n):∀(d j K:Nat) (cs:List GCode) (bl:List (List GCode)),j+d=l.length→d < K→cs.length+d≤4194304→r0.length+1+bl.length+tot g (subsL (l.drop j))≤8388608→
  ∃z1 z2,zaO t n K (r0.length:Int) l (l.length:Int) (j:Int) (.mk (r0++cs::bl))=some ((r0.length:Int),l,(l.length:Int),z1,z2,.mk (r0++(cs++zhz g (l.drop j) (r0.length+1+bl.length))::(bl++blocks R g (subsL (l.drop j)) (r0.length+1+bl.length))))
 | 0,j,K,cs,bl,hj,hK,hc,hr=>by
  obtain⟨K,rfl⟩:∃j,K=j+1:=⟨K-1,by omega⟩
  exact⟨_,_,by rw[zaO,if_neg (by simp;omega),List.drop_of_length_le (by omega),zhz,subsL,List.flatMap_nil,blocks,List.append_nil,List.append_nil]⟩
 | d+1,j,K,cs,bl,hj,hK,hc,hr=>by
  obtain⟨K,rfl⟩:∃j,K=j+1:=⟨K-1,by omega⟩
  obtain⟨x,u1,u3,u2⟩:=at_ (l:=l) (i:=j) (by omega)
  obtain⟨q1,q2,q3,q4⟩:=hx x u3
  rw[u2,zfJ,znP]at hr
  have hsub:∀u∈subs x,u∈subsL l:=fun u hu=>zk2.2 ⟨x,u3,hu⟩
  have e0:subs x=tOf x++chB (byOf x):=rfl
  have hlen:(r0++cs::bl).length=r0.length+1+bl.length:=by simp;omega
  have ht:=znP g (tOf x) (chB (byOf x))
  rw[←e0]at ht
  obtain⟨z1,z2,g2⟩:=zpq (t:=t) (n:=n) (own:=(r0.length:Int)) (l:=l) (L:=(l.length:Int)) (i:=(j:Int)) (op:=opOf x) (S:=sOf x) (As:=asOf x) (N:=nOf x) (V:=vOf x) (P:=pOf x) (x:=x) (By:=[]) (fun u hu=>H u (hsub u (List.mem_append_left _ hu))) (fun u hu=>hR u (hsub u (List.mem_append_left _ hu))) (by omega) (tOf x).length 0 n [] (r0++cs::bl) (by omega) q3 (by simp;omega) (by rw[List.drop_zero,hlen];omega)
  rw[show((0:Nat):Int)=0 from rfl,List.drop_zero,hlen,List.nil_append]at g2
  have hlb:(blocks R g (tOf x) (r0.length+1+bl.length)).length=tot g (tOf x):=zgv _ _ fun u hu=>hR u (hsub u (List.mem_append_left _ hu))
  have hlb2:(blocks R g (subs x) (r0.length+1+bl.length)).length=tot g (subs x):=zgv _ _ fun u hu=>hR u (hsub u hu)
  have hlen2:(r0++cs::bl++blocks R g (tOf x) (r0.length+1+bl.length)).length=r0.length+1+bl.length+tot g (tOf x):=by rw[List.length_append,hlen,hlb]
  obtain⟨z3,z4,g4⟩:=znd (t:=t) (n:=n) (own:=(r0.length:Int)) (l:=l) (L:=(l.length:Int)) (i:=(j:Int)) (op:=opOf x) (S:=sOf x) (As:=asOf x) (N:=nOf x) (V:=vOf x) (P:=pOf x) (kids:=starts g (tOf x) (r0.length+1+bl.length)) (fun u hu=>H u (hsub u (List.mem_append_right _ hu))) (fun u hu=>hR u (hsub u (List.mem_append_right _ hu))) (by omega) (byOf x).length 0 n [] (r0++cs::bl++blocks R g (tOf x) (r0.length+1+bl.length)) (by omega) q4 (by simp;omega) (by rw[List.drop_zero,hlen2];omega)
  rw[show((0:Nat):Int)=0 from rfl,List.drop_zero,hlen2,List.nil_append]at g4
  have e5:r0++cs::bl++blocks R g (tOf x) (r0.length+1+bl.length)++blocks R g (chB (byOf x)) (r0.length+1+bl.length+tot g (tOf x))=r0++cs::(bl++blocks R g (subs x) (r0.length+1+bl.length)):=by rw[e0,zhA];simp
  rw[e5]at g4
  have g6:=zqD (t:=t) (n:=n) (l:=l) (L:=(l.length:Int)) (i:=(j:Int)) (r0:=r0) (cs:=cs) (bl:=bl++blocks R g (subs x) (r0.length+1+bl.length)) (c:=codeF g x (r0.length+1+bl.length)) (by omega)
  obtain⟨z5,z6,ih⟩:=zps (r0:=r0) H hR hl hx d (j+1) K (cs++[codeF g x (r0.length+1+bl.length)]) (bl++blocks R g (subs x) (r0.length+1+bl.length)) (by omega) (by omega) (by simp;omega) (by rw[List.length_append,hlb2];omega)
  refine⟨z5,z6, ?_⟩
  rw[u2,zhz,zfJ,zhA]
  have e8:r0.length+1+(bl.length+tot g (subs x))=r0.length+1+bl.length+tot g (subs x):=by omega
  rw[List.length_append,hlb2,e8]at ih
  have hw:=wr1 (i:=j) (L:=l.length) (by omega) (by omega)
  clear e8
  generalize r0.length+1+bl.length=m at *
  have e7:zaO t n (K+1) (r0.length:Int) l (l.length:Int) (j:Int) (.mk (r0++cs::bl))=zaO t n K (r0.length:Int) l (l.length:Int) ((j+1:Nat):Int) (.mk (r0++(cs++[codeF g x m])::(bl++blocks R g (subs x) m))):=by
   rw[zaO,if_pos (by simp;omega),if_pos (by simp),Int.toNat_natCast,u1]
   clear ih u1 u2 u3 hsub e0 ht hr hx H hR hlb hlb2 hlen hlen2 e5
   obtain⟨x1,x2,x3,⟨x4,x5,x6,x7,x8⟩,⟨x9,xa,xb⟩,xc,xd,xe⟩:=x
   simp only[opOf,sOf,nOf,vOf,pOf,tOf,byOf,asOf,codeF]at g2 g4 g6⊢
   simp only[g2,zdA,g4,g6,hw]
  rw[e7,ih]
  simp
end
theorem zpt:∀(f:Nat) (l:List GStep),dp f l→wL l≤2097152→Ev fun n=>LayOk (tab n) (rowsF f) (plF f) l
 | 0,l,h,_=>h.elim
 | f+1,l,h,hw=>by
  have hin:=zfX hw
  have hlen:=zfr l
  have H:Ev fun n=>∀u∈subsL l,LayOk (tab n) (rowsF f) (plF f) u:=Ev.all _ fun u hu=>zpt f u (h u hu) (by have:=zpZ hu;omega)
  have hx:Ev fun n=>∀x∈l,(tOf x).length≤2097152∧(byOf x).length≤2097152∧(tOf x).length < n∧(byOf x).length < n:=Ev.all _ fun x hx=>by
   have:=hin x hx
   cases this with
   | @mk op S N V P Ts By As hS hN hA sS sA hV hP hT hB tl bl aT aB=>
    exact(Ev.ge (Ts.length+By.length+1)).mono fun n hn=>⟨hT,hB,by simp only[tOf];omega,by simp only[byOf];omega⟩
  refine Ev.step ((H.and (hx.and (Ev.ge (l.length+1)))).mono fun n hh rows hr=> ?_)
  obtain⟨H,hx,hn⟩:=hh
  have e:plF (f+1) l=1+tot (plF f) (subsL l):=rfl
  rw[e]at hr
  obtain⟨z1,z2,k⟩:=zps (t:=tab n) (n:=n) (r0:=rows) H (fun u _ m=>zhe f u m) (by omega) hx l.length 0 n [] [] (by omega) hn (by simp;omega) (by rw[List.drop_zero,List.length_nil];omega)
  rw[show((0:Nat):Int)=0 from rfl,List.drop_zero]at k
  rw[zhf,zaR,if_pos (by simp;omega)]
  simp only[k]
  rfl
theorem zib {l:List GStep} (h:wL l≤2097152):Ev fun n=>(tab n).zbh l=some (if okL2 l=true then(.mk (rowsF 11 (cpL 12 l) 0),0)else(.mk [],2)):=by
 by_cases ho:okL2 l=true
 ·have hr:zb1 11 l=true:=by unfold okL2 at ho;rw[Bool.and_eq_true]at ho;exact ho.2
  have hwc:wL (cpL 12 l)≤2097152:=Nat.le_trans (zkn 12 l) h
  refine Ev.step (((zmt h).and ((zpY h).and (zpt 11 (cpL 12 l) (zqe 11 12 l (by omega) (zkp 11 l hr)) hwc))).mono fun n hh=> ?_)
  obtain⟨h1,h2,h3⟩:=hh
  have hp:=zlz 11 (cpL 12 l)
  have h3:=h3 [] (by simp;omega)
  rw[if_pos ho]at h1
  rw[zgx,zbh,if_pos ho]
  simp only[h1,h2,h3]
  simp
 ·refine Ev.step ((zmt h).mono fun n h1=> ?_)
  rw[if_neg ho]at h1
  rw[zgx,zbh,if_neg ho]
  simp only[h1]
  simp
end Go.Proofs.YtgmidllbkjdnnaaGreatDoor.W
