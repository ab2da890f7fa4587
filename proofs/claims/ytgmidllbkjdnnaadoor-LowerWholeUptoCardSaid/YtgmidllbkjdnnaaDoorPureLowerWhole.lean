/- There are as many rows as plans, and as many steps; each row but the first is named once, by a row ahead of it. -/
import Derived.Test.YtgmidllbkjdnnaaDoorLwC
namespace Go.Proofs.YtgmidllbkjdnnaaDoor.W
open Go.Proofs.YtgmidllbkjdnnaaDoor.Flat
set_option linter.unusedVariables false
set_option linter.unusedSimpArgs false
def nl (L:Nat) (c:Nat→Nat):List Int:=(List.range L).map fun m=>((c m:Nat):Int)
theorem zhw (L:Nat) (c:Nat→Nat):(nl L c).length=L:=by simp[nl]
theorem zjf {L:Nat} {c:Nat→Nat} {k:Nat} (h:k < L):(nl L c)[k]?=some ((c k:Nat):Int):=by simp[nl,h]
theorem zn2 {L:Nat} {c:Nat→Nat} {k:Nat} (h:k < L):(nl L c).set k (((c k+1:Nat)):Int)=nl L (fun m=>c m+if m=k then 1 else 0):=by
 apply List.ext_getElem?
 intro i
 by_cases hi:i < L
 ·rw[zjf hi,List.getElem?_set]
  by_cases hk:k=i
  ·subst hk
   rw[if_pos rfl,if_pos (by rw[zhw];exact hi),if_pos rfl]
  ·rw[if_neg hk,zjf hi,if_neg (fun e=>hk e.symm)]
   rfl
 ·rw[List.getElem?_eq_none (by rw[List.length_set,zhw];omega),List.getElem?_eq_none (by rw[zhw];omega)]
def addC (c:Nat→Nat) (ks:List Int):Nat→Nat:=fun m=>c m+ks.count (m:Int)
theorem zg5 (c:Nat→Nat):addC c []=c:=by funext m;simp[addC]
theorem zjW (c:Nat→Nat) (k:Nat) (ks:List Int):addC c ((k:Int)::ks)=addC (fun m=>c m+if m=k then 1 else 0) ks:=by
 funext m
 simp only[addC,List.count_cons]
 have e:(((k:Int)==(m:Int))=true)=(m=k):=by rw[beq_iff_eq];exact propext ⟨fun h=>by omega,fun h=>by omega⟩
 simp only[e]
 omega
theorem zfo (c:Nat→Nat) (a b:List Int):addC c (a++b)=addC (addC c a) b:=by
 funext m
 simp only[addC,List.count_append]
 omega
section
variable {t:Tab} {n:Nat} {a:List GStep} {nn:Int} {rows:List (List GCode)}
theorem zlx (hl:rows.length≤4194304):∀(d i K:Nat),i+d=rows.length→d < K→∃z1 z2,zaE t n K a nn (nl i fun _=>0) (i:Int) (.mk rows)=some (a,nn,nl rows.length (fun _=>0),z1,z2,.mk rows)
 | 0,i,K,hi,hK=>by
  obtain⟨K,rfl⟩:∃j,K=j+1:=⟨K-1,by omega⟩
  have:i=rows.length:=by omega
  subst this
  exact⟨_,_,by rw[zaE,if_neg (by simp)]⟩
 | d+1,i,K,hi,hK=>by
  obtain⟨K,rfl⟩:∃j,K=j+1:=⟨K-1,by omega⟩
  obtain⟨z1,z2,ih⟩:=zlx hl d (i+1) K (by omega) (by omega)
  refine⟨z1,z2, ?_⟩
  have e:nl i (fun _=>0)++[0]=nl (i+1) (fun _=>0):=by simp[nl,List.range_succ]
  rw[zaE,if_pos (by simp;omega),if_pos (by rw[zhw];simp;omega),wr1 (i:=i) (L:=rows.length) (by omega) (by omega),e,ih]
def Good (rows:List (List GCode)) (i:Nat) (ks:List Int):Prop:=∀k∈ks,(i:Int) < k∧k < (rows.length:Int)
theorem bump {c:Nat→Nat} {k:Nat} (h:c k≤1000):IntKind.wrap .i64 (((c k:Nat):Int)+1)=((c k+1:Nat):Int):=by
 rw[wr (by omega) (by omega)]
 rfl
theorem zly {c0:GCode} {i k:Nat} (hg:Good rows i (cKids c0)) (hl:(cKids c0).length≤4194304):∀(d j K:Nat) (c:Nat→Nat),j+d=(cKids c0).length→d < K→(∀m,addC c ((cKids c0).drop j) m≤1000)→∃z1 z2,zay t n K a nn (nl rows.length c) (i:Int) (k:Int) (j:Int) (.mk rows) c0=some (.inr (a,nn,nl rows.length (addC c ((cKids c0).drop j)),(i:Int),(k:Int),z1,z2,.mk rows,c0))
 | 0,j,K,c,hj,hK,hc=>by
  obtain⟨K,rfl⟩:∃j,K=j+1:=⟨K-1,by omega⟩
  rw[List.drop_of_length_le (by omega),zg5]
  obtain⟨x1,x2,x3,⟨x4,x5,x6,x7,x8⟩,⟨x9,xa,xb⟩,xc,xd,xe⟩:=c0
  simp only[cKids]at hj
  exact⟨_,_,by rw[zay,if_neg (by simp;omega)]⟩
 | d+1,j,K,c,hj,hK,hc=>by
  obtain⟨K,rfl⟩:∃j,K=j+1:=⟨K-1,by omega⟩
  obtain⟨u,u1,u3,u2⟩:=at_ (l:=cKids c0) (i:=j) (by omega)
  obtain⟨g1,g2⟩:=hg u u3
  obtain⟨y,rfl⟩:∃y:Nat,u=(y:Int):=⟨u.toNat,by omega⟩
  have hy:y < rows.length:=by omega
  rw[u2,zjW]at hc⊢
  obtain⟨z1,z2,ih⟩:=zly (k:=k) hg hl d (j+1) K _ (by omega) (by omega) hc
  have hcy:c y≤1000:=by have:=hc y;simp only[addC,if_true]at this;omega
  have hw:=wr1 (i:=j) (L:=(cKids c0).length) (by omega) (by omega)
  refine⟨z1,z2, ?_⟩
  clear u2 hg
  obtain⟨x1,x2,x3,⟨x4,x5,x6,x7,x8⟩,⟨x9,xa,xb⟩,xc,xd,xe⟩:=c0
  simp only[cKids]at *
  have e6:zaY t n a nn (nl rows.length c) (i:Int) (k:Int) (j:Int) (.mk rows) (.mk x1 x2 x3 (.mk x4 x5 x6 x7 x8) (.mk x9 xa xb) xc xd xe)=some (a,nn,nl rows.length (fun m=>c m+if m=y then 1 else 0),(i:Int),(k:Int),(j:Int),.mk rows,.mk x1 x2 x3 (.mk x4 x5 x6 x7 x8) (.mk x9 xa xb) xc xd xe):=by
   rw[zaY,if_pos (by simp),Int.toNat_natCast,u1]
   dsimp only
   rw[if_pos (by simp),Int.toNat_natCast,zjf hy]
   dsimp only
   rw[bump hcy,zn2 hy]
  rw[zay,if_pos (by simp;omega),if_pos (by simp),Int.toNat_natCast,u1]
  dsimp only
  rw[if_neg (by simp;omega),if_neg (by simp;omega),e6]
  dsimp only
  rw[hw,ih]
def chK (By:List GKey):List Int:=(By.filter fun k=>kK k==3).map kKid
theorem zjg {c0:GCode} {i k:Nat} (hg:Good rows i (chK (cBy c0))) (hl:(cBy c0).length≤4194304):∀(d j K:Nat) (c:Nat→Nat),j+d=(cBy c0).length→d < K→(∀m,addC c (chK ((cBy c0).drop j)) m≤1000)→∃z1 z2,zar t n K a nn (nl rows.length c) (i:Int) (k:Int) (j:Int) (.mk rows) c0=some (.inr (a,nn,nl rows.length (addC c (chK ((cBy c0).drop j))),(i:Int),(k:Int),z1,z2,.mk rows,c0))
 | 0,j,K,c,hj,hK,hc=>by
  obtain⟨K,rfl⟩:∃j,K=j+1:=⟨K-1,by omega⟩
  rw[List.drop_of_length_le (by omega),chK,List.filter_nil,List.map_nil,zg5]
  obtain⟨x1,x2,x3,⟨x4,x5,x6,x7,x8⟩,⟨x9,xa,xb⟩,xc,xd,xe⟩:=c0
  simp only[cBy]at hj
  exact⟨_,_,by rw[zar,if_neg (by simp;omega)]⟩
 | d+1,j,K,c,hj,hK,hc=>by
  obtain⟨K,rfl⟩:∃j,K=j+1:=⟨K-1,by omega⟩
  obtain⟨b,u1,u3,u2⟩:=at_ (l:=cBy c0) (i:=j) (by omega)
  have hw:=wr1 (i:=j) (L:=(cBy c0).length) (by omega) (by omega)
  rw[u2]at hc⊢
  by_cases h3:(kK b==3)=true
  ·have ec:chK (b::(cBy c0).drop (j+1))=kKid b::chK ((cBy c0).drop (j+1)):=by rw[chK,List.filter_cons_of_pos (p:=fun b=>kK b==3) h3,List.map_cons,chK]
   obtain⟨g1,g2⟩:=hg (kKid b) (List.mem_map.2 ⟨b,List.mem_filter.2 ⟨u3,h3⟩,rfl⟩)
   rw[ec]at hc⊢
   obtain⟨y,hyb⟩:∃y:Nat,kKid b=(y:Int):=⟨(kKid b).toNat,by omega⟩
   have hy:y < rows.length:=by omega
   rw[hyb,zjW]at hc⊢
   obtain⟨z1,z2,ih⟩:=zjg (k:=k) hg hl d (j+1) K _ (by omega) (by omega) hc
   have hcy:c y≤1000:=by have:=hc y;simp only[addC,if_true]at this;omega
   refine⟨z1,z2, ?_⟩
   clear u2 ec hg
   obtain⟨x1,x2,x3,⟨x4,x5,x6,x7,x8⟩,⟨x9,xa,xb⟩,xc,xd,xe⟩:=c0
   obtain⟨b1,b2,b3,b4⟩:=b
   simp only[cBy,kKid,kK]at *
   subst hyb
   have e6:zaZ t n a nn (nl rows.length c) (i:Int) (k:Int) (j:Int) (.mk rows) (.mk x1 x2 x3 (.mk x4 x5 x6 x7 x8) (.mk x9 xa xb) xc xd xe)=some (a,nn,nl rows.length (fun m=>c m+if m=y then 1 else 0),(i:Int),(k:Int),(j:Int),.mk rows,.mk x1 x2 x3 (.mk x4 x5 x6 x7 x8) (.mk x9 xa xb) xc xd xe):=by
    rw[zaZ,if_pos (by simp),Int.toNat_natCast,u1]
    dsimp only
    rw[if_pos (by simp),Int.toNat_natCast,zjf hy]
    dsimp only
    rw[bump hcy,zn2 hy]
   rw[zar,if_pos (by simp;omega),if_pos (by simp),Int.toNat_natCast,u1]
   dsimp only
   rw[if_neg (by simpa using h3),if_neg (by simp;omega),if_neg (by simp;omega),e6]
   dsimp only
   rw[hw,ih]
  ·have ec:chK (b::(cBy c0).drop (j+1))=chK ((cBy c0).drop (j+1)):=by rw[chK,List.filter_cons_of_neg (p:=fun b=>kK b==3) h3,chK]
   rw[ec]at hc⊢
   obtain⟨z1,z2,ih⟩:=zjg (k:=k) hg hl d (j+1) K c (by omega) (by omega) hc
   refine⟨z1,z2, ?_⟩
   clear u2 ec hg
   obtain⟨x1,x2,x3,⟨x4,x5,x6,x7,x8⟩,⟨x9,xa,xb⟩,xc,xd,xe⟩:=c0
   obtain⟨b1,b2,b3,b4⟩:=b
   simp only[cBy,kKid,kK]at *
   rw[zar,if_pos (by simp;omega),if_pos (by simp),Int.toNat_natCast,u1]
   dsimp only
   rw[if_pos (by simpa using h3),hw,ih]
theorem zlz {row:List GCode} {i:Nat} (hr:rows[i]?=some row) (hg:Good rows i (zef row)) (hl:row.length≤4194304) (hx:∀c0∈row,(cKids c0).length≤4194304∧(cBy c0).length≤4194304∧(cKids c0).length < n∧(cBy c0).length < n):∀(d k K:Nat) (c:Nat→Nat),k+d=row.length→d < K→(∀m,addC c (zef (row.drop k)) m≤1000)→∃z1 z2,zaF t n K a nn (nl rows.length c) (i:Int) (k:Int) (.mk rows)=some (.inr (a,nn,nl rows.length (addC c (zef (row.drop k))),(i:Int),z1,z2,.mk rows))
 | 0,k,K,c,hk,hK,hc=>by
  obtain⟨K,rfl⟩:∃j,K=j+1:=⟨K-1,by omega⟩
  rw[List.drop_of_length_le (by omega),zef,List.flatMap_nil,zg5]
  exact⟨_,_,by rw[zaF,if_pos (by simp),Int.toNat_natCast,hr];dsimp only;rw[if_neg (by simp;omega)]⟩
 | d+1,k,K,c,hk,hK,hc=>by
  obtain⟨K,rfl⟩:∃j,K=j+1:=⟨K-1,by omega⟩
  obtain⟨c0,u1,u3,u2⟩:=at_ (l:=row) (i:=k) (by omega)
  obtain⟨q1,q2,q3,q4⟩:=hx c0 u3
  have en:zef (c0::row.drop (k+1))=(cKids c0++chK (cBy c0))++zef (row.drop (k+1)):=by rw[zef,List.flatMap_cons];rfl
  rw[u2,en,zfo,zfo]at hc
  rw[u2,en,zfo,zfo]
  have hsub:∀y∈cKids c0++chK (cBy c0),y∈zef row:=fun y hy=>List.mem_flatMap.2 ⟨c0,u3,hy⟩
  obtain⟨z1,z2,g5⟩:=zly (t:=t) (n:=n) (a:=a) (nn:=nn) (k:=k) (fun y hy=>hg y (hsub y (List.mem_append_left _ hy))) q1 (cKids c0).length 0 n c (by omega) q3 (fun m=>by have:=hc m;rw[List.drop_zero];unfold addC at this⊢;omega)
  obtain⟨z3,z4,g8⟩:=zjg (t:=t) (n:=n) (a:=a) (nn:=nn) (k:=k) (fun y hy=>hg y (hsub y (List.mem_append_right _ hy))) q2 (cBy c0).length 0 n (addC c (cKids c0)) (by omega) q4 (fun m=>by have:=hc m;rw[List.drop_zero];unfold addC at this⊢;omega)
  rw[show((0:Nat):Int)=0 from rfl,List.drop_zero]at g5 g8
  obtain⟨z5,z6,ih⟩:=zlz hr hg hl hx d (k+1) K (addC (addC c (cKids c0)) (chK (cBy c0))) (by omega) (by omega) hc
  have hw:=wr1 (i:=k) (L:=row.length) (by omega) (by omega)
  refine⟨z5,z6, ?_⟩
  rw[zaF,if_pos (by simp),Int.toNat_natCast,hr]
  dsimp only
  rw[if_pos (by simp;omega),if_pos (by simp),Int.toNat_natCast,u1]
  clear u1 u2 u3 en hc hsub hx hg
  generalize cKids c0=ks at *
  generalize chK (cBy c0)=cs at *
  obtain⟨x1,x2,x3,⟨x4,x5,x6,x7,x8⟩,⟨x9,xa,xb⟩,xc,xd,xe⟩:=c0
  dsimp only
  simp only[g5,za0,g8,hw,ih]
theorem zlA (hg:∀(i:Nat) (row:List GCode),rows[i]?=some row→Good rows i (zef row)) (hl:rows.length≤4194304) (hr:∀row∈rows,row.length≤4194304∧row.length < n∧∀c0∈row,(cKids c0).length≤4194304∧(cBy c0).length≤4194304∧(cKids c0).length < n∧(cBy c0).length < n):∀(d i K q:Nat) (c:Nat→Nat),i+d=rows.length→d < K→q+lenS (rows.drop i)≤4194304→(∀m,addC c (names (rows.drop i)) m≤1000)→∃z1 z2,zaG t n K a (q:Int) (nl rows.length c) (i:Int) (.mk rows)=some (.inr (a,((q+lenS (rows.drop i):Nat):Int),nl rows.length (addC c (names (rows.drop i))),z1,z2,.mk rows))
 | 0,i,K,q,c,hi,hK,hq,hc=>by
  obtain⟨K,rfl⟩:∃j,K=j+1:=⟨K-1,by omega⟩
  rw[List.drop_of_length_le (by omega),names,List.flatMap_nil,zg5]
  exact⟨_,_,by rw[zaG,if_neg (by simp;omega)];rfl⟩
 | d+1,i,K,q,c,hi,hK,hq,hc=>by
  obtain⟨K,rfl⟩:∃j,K=j+1:=⟨K-1,by omega⟩
  obtain⟨row,u1,u3,u2⟩:=at_ (l:=rows) (i:=i) (by omega)
  obtain⟨q1,q2,q3⟩:=hr row u3
  have en:names (row::rows.drop (i+1))=zef row++names (rows.drop (i+1)):=by rw[names,List.flatMap_cons];rfl
  have es:lenS (row::rows.drop (i+1))=row.length+lenS (rows.drop (i+1)):=by rw[lenS,List.map_cons,List.sum_cons,lenS]
  rw[u2,en,zfo]at hc
  rw[u2,es]at hq
  rw[u2,en,zfo,es]
  have hwq:IntKind.wrap .i64 ((q:Int)+(row.length:Int))=((q+row.length:Nat):Int):=by rw[←Int.natCast_add];exact wrn (by omega)
  obtain⟨z1,z2,g4⟩:=zlz (t:=t) (n:=n) (a:=a) (nn:=((q+row.length:Nat):Int)) u1 (hg i row u1) q1 q3 row.length 0 n c (by omega) q2 (fun m=>by have:=hc m;rw[List.drop_zero];unfold addC at this⊢;omega)
  rw[show((0:Nat):Int)=0 from rfl,List.drop_zero]at g4
  obtain⟨z5,z6,ih⟩:=zlA hg hl hr d (i+1) K (q+row.length) (addC c (zef row)) (by omega) (by omega) (by omega) hc
  have hw:=wr1 (i:=i) (L:=rows.length) (by omega) (by omega)
  refine⟨z5,z6, ?_⟩
  rw[zaG,if_pos (by simp;omega),if_pos (by simp),Int.toNat_natCast,u1]
  simp only[hwq,g4,hw,ih,Nat.add_assoc]
theorem zjX {L:Nat} {c:Nat→Nat} (hl:L≤4194304) (hc:∀m,m < L→c m=if 0 < m then 1 else 0):∀(d i K:Nat),i+d=L→d < K→∃z1 z2,zaA t n K a nn (nl L c) (i:Int) (.mk rows)=some (.inr (a,nn,nl L c,z1,z2,.mk rows))
 | 0,i,K,hi,hK=>by
  obtain⟨K,rfl⟩:∃j,K=j+1:=⟨K-1,by omega⟩
  exact⟨_,_,by rw[zaA,if_neg (by rw[zhw];simp;omega)]⟩
 | d+1,i,K,hi,hK=>by
  obtain⟨K,rfl⟩:∃j,K=j+1:=⟨K-1,by omega⟩
  obtain⟨z1,z2,ih⟩:=zjX hl hc d (i+1) K (by omega) (by omega)
  refine⟨z1,z2, ?_⟩
  rw[zaA,if_pos (by rw[zhw];simp;omega),if_pos (by simp),Int.toNat_natCast,zjf (by omega),wr1 (i:=i) (L:=L) (by omega) (by omega)]
  dsimp only
  have h1:=hc i (by omega)
  rw[h1]
  by_cases h0:0 < i
  ·rw[if_pos h0,if_pos (by simp;omega),if_neg (by simp),ih]
  ·rw[if_neg h0,if_pos (by simp;omega),if_neg (by simp),ih]
end
theorem zjh {g:List GStep→Nat}:∀(l:List GStep) (n:Nat),∀c0∈zeP g l n,∃x∈l,∃m,c0=codeF g x m
 | [],n,c0,h=>by cases h
 | x::xs,n,c0,h=>by
  rw[zeP]at h
  rcases List.mem_cons.1 h with rfl | h
  ·exact⟨x,List.mem_cons_self ..,n,rfl⟩
  ·obtain⟨y,hy,m,e⟩:=zjh xs _ c0 h
   exact⟨y,List.mem_cons_of_mem _ hy,m,e⟩
theorem zji {g:List GStep→Nat}:∀(ts:List (List GStep)) (n:Nat),(starts g ts n).length=ts.length
 | [],_=>rfl
 | t::ts,n=>by rw[starts,List.length_cons,zji ts,List.length_cons]
theorem zjY {g:List GStep→Nat}:∀(bs:List GBy) (n:Nat),(keysF g bs n).length=bs.length
 | [],_=>rfl
 | b::bs,n=>by
  rw[keysF]
  split<;>rw[List.length_cons,zjY bs,List.length_cons]
theorem zjj {R:List GStep→Nat→List (List GCode)} {g:List GStep→Nat}:∀(ts:List (List GStep)) (n:Nat),∀row∈blocks R g ts n,∃t∈ts,∃m,row∈R t m
 | [],n,row,h=>by cases h
 | t::ts,n,row,h=>by
  rw[blocks]at h
  rcases List.mem_append.1 h with h | h
  ·exact⟨t,List.mem_cons_self ..,n,h⟩
  ·obtain⟨u,hu,m,e⟩:=zjj ts _ row h
   exact⟨u,List.mem_cons_of_mem _ hu,m,e⟩
theorem zhQ:∀(f:Nat) (l:List GStep) (n:Nat),wL l≤2097152→∀row∈rowsF f l n,row.length≤2097152∧∀c0∈row,(cKids c0).length≤2097152∧(cBy c0).length≤2097152
 | 0,l,n,hw,row,h=>by
  rw[rowsF,List.mem_singleton]at h
  subst h
  exact⟨Nat.zero_le _,fun c0 h=>by cases h⟩
 | f+1,l,n,hw,row,h=>by
  have hin:=zfa hw
  have hlen:=ze3 l
  rw[rowsF]at h
  rcases List.mem_cons.1 h with rfl | h
  ·refine⟨by rw[zgx];omega,fun c0 h=> ?_⟩
   obtain⟨x,hx,m,rfl⟩:=zjh l _ c0 h
   have:=hin x hx
   cases this with
   | @mk op S N V P Ts By As hS hN hA sS sA hV hP hT hB tl bl aT aB=>
    exact⟨by simp only[codeF,cKids,zji,tOf];exact hT,by simp only[codeF,cBy,zjY,byOf];exact hB⟩
  ·obtain⟨t,ht,m,hr⟩:=zjj _ _ row h
   exact zhQ f t m (by have:=zkv ht;omega) row hr
theorem Pure.LowerWhole:∀(x0:List GStep),wts [.sl false 14 (GStep.ts x0)]≤1048576→∃n,(tab n).za8 x0=some true:=by
 intro a hw
 simp only[wts,T.wt,GStep.zk]at hw
 have hl:wL a≤1048576:=by unfold wL;omega
 obtain⟨r1,e1⟩:=znI (l:=a) (by omega)
 have e2:=zn1 (l:=a) (by omega)
 by_cases ho:okL2 a=true
 ·have hr:zeb 11 a=true:=by unfold okL2 at ho;rw[Bool.and_eq_true]at ho;exact ho.2
  have hcn:cntN 12 a≤400:=by unfold okL2 at ho;rw[Bool.and_eq_true]at ho;exact of_decide_eq_true ho.1
  have hwc:wL (cpL 12 a)≤1048576:=Nat.le_trans (zks 12 a) hl
  have e3:=zlw 11 a (zjd 11 a hr) (by omega)
  have e4:=zlm (l:=a) (by omega)
  have hlen:(rowsF 11 (cpL 12 a) 0).length=plF 11 a:=by rw[zeU,znU 11 12 a (by omega)]
  have hls:lenS (rowsF 11 (cpL 12 a) 0)=cntN 12 a:=by rw[zjb,znV 11 12 a (by omega),zmA 11 a hr]
  have hpl:=zku 11 a
  have hsm:=zhQ 11 (cpL 12 a) 0 (by omega)
  have hct:∀m:Nat,(names (rowsF 11 (cpL 12 a) 0)).count (m:Int)=if 0 < m∧m < (rowsF 11 (cpL 12 a) 0).length then 1 else 0:=fun m=>by rw[zhP,zeU,Nat.zero_add]
  have hnm:=zls 11 (cpL 12 a) 0
  rw[←zeU 11 (cpL 12 a) 0,Nat.zero_add]at hnm
  rw[if_pos ho]at e2
  generalize rowsF 11 (cpL 12 a) 0=rows at *
  have hg:∀(i:Nat) (row:List GCode),rows[i]?=some row→Good rows i (zef row):=fun i row hi k hk=>by
   have:=hnm i row hi k hk
   push_cast at this
   omega
  have hN:Ev fun n=>∀row∈rows,row.length≤4194304∧row.length < n∧∀c0∈row,(cKids c0).length≤4194304∧(cBy c0).length≤4194304∧(cKids c0).length < n∧(cBy c0).length < n:=(Ev.ge 2097153).mono fun n hn row hrow=>by
   obtain⟨h1,h2⟩:=hsm row hrow
   exact⟨by omega,by omega,fun c0 hc=>by have:=h2 c0 hc;omega⟩
  refine Ev.out (Ev.step ((e1.and (zjV.and (e2.and (e3.and e4)))).and (hN.and (Ev.ge (rows.length+1))) |>.mono fun n hh=> ?_))
  obtain⟨⟨e1,hk,e2,e3,e4⟩,hN,hn⟩:=hh
  rw[zeL,za8,e1]
  dsimp only
  by_cases hr1:r1=true
  ·rw[if_pos hr1];exact hk
  rw[if_neg hr1]
  simp only[e2]
  rw[if_neg (by simp)]
  obtain⟨z1,z2,g1⟩:=zlx (t:=tab n) (n:=n) (a:=a) (nn:=0) (rows:=rows) (by omega) rows.length 0 n (by omega) (by omega)
  have g1:zaE (tab n) n n a 0 ([]:List Int) 0 (.mk rows)=some (a,0,nl rows.length (fun _=>0),z1,z2,.mk rows):=g1
  obtain⟨z3,z4,g3⟩:=zlA (t:=tab n) (n:=n) (a:=a) hg (by omega) hN rows.length 0 n 0 (fun _=>0) (by omega) (by omega) (by rw[List.drop_zero];omega) (fun m=>by rw[List.drop_zero];simp only[addC];rw[hct];split<;>omega)
  rw[show((0:Nat):Int)=0 from rfl,List.drop_zero,Nat.zero_add]at g3
  obtain⟨z5,z6,g11⟩:=zjX (t:=tab n) (n:=n) (a:=a) (nn:=((lenS rows:Nat):Int)) (rows:=rows) (L:=rows.length) (c:=addC (fun _=>0) (names rows)) (by omega) (fun m hm=>by
   unfold addC
   rw[hct]
   by_cases h0:0 < m
   ·rw[if_pos ⟨h0,hm⟩,if_pos h0]
   ·rw[if_neg (fun h=>h0 h.1),if_neg h0]) rows.length 0 n (by omega) (by omega)
  rw[show((0:Nat):Int)=0 from rfl]at g11
  simp only[g1,zcx,g3,zci,g11,zch,e4,e3]
  rw[if_pos (by rw[hls];unfold zja;simp;omega),if_pos (by rw[hlen];simp)]
  exact hk
 ·rw[if_neg ho]at e2
  refine Ev.out (Ev.step ((e1.and (zjV.and e2)).mono fun n hh=> ?_))
  obtain⟨e1,hk,e2⟩:=hh
  rw[zeL,za8,e1]
  dsimp only
  by_cases hr1:r1=true
  ·rw[if_pos hr1];exact hk
  rw[if_neg hr1]
  simp only[e2]
  rw[if_pos (by simp)]
  exact hk
end Go.Proofs.YtgmidllbkjdnnaaDoor.W
