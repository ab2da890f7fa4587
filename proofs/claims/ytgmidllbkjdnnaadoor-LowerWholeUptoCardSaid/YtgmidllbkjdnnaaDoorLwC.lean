/- How many plans: the reference's. -/
import Derived.Test.YtgmidllbkjdnnaaDoorLwB
namespace Go.Proofs.YtgmidllbkjdnnaaDoor.W
open Go.Proofs.YtgmidllbkjdnnaaDoor.Flat
set_option linter.unusedVariables false
set_option linter.unusedSimpArgs false
theorem wrn {m:Nat} (h:m≤140737488355328):IntKind.wrap .i64 (m:Int)=(m:Int):=wr (by omega) (by omega)
section
variable {t:Tab} {n:Nat} {l:List GStep} {g:List GStep→Nat}
theorem zlu {x:GStep} {i:Nat} (hx:l[i]?=some x) (H:∀u∈tOf x,t.zbb u=some ((g u:Nat):Int)) (hl:(tOf x).length≤4194304):∀(d j K acc:Nat),j+d=(tOf x).length→d < K→acc+tot g ((tOf x).drop j)≤8388608→∃z1 z2,zb4 t n K l (acc:Int) (i:Int) (j:Int)=some (l,((acc+tot g ((tOf x).drop j):Nat):Int),(i:Int),z1,z2)
 | 0,j,K,acc,hj,hK,ha=>by
  obtain⟨K,rfl⟩:∃j,K=j+1:=⟨K-1,by omega⟩
  rw[zb4,if_pos (by simp),Int.toNat_natCast,hx,List.drop_of_length_le (by omega)]
  obtain⟨x1,x2,x3,⟨x4,x5,x6,x7,x8⟩,⟨x9,xa,xb⟩,xc,xd,xe⟩:=x
  simp only[tOf]at hj
  dsimp only
  rw[if_neg (by simp;omega)]
  exact⟨_,_,rfl⟩
 | d+1,j,K,acc,hj,hK,ha=>by
  obtain⟨K,rfl⟩:∃j,K=j+1:=⟨K-1,by omega⟩
  obtain⟨u,u1,u3,u2⟩:=at_ (l:=tOf x) (i:=j) (by omega)
  have h1:=H u u3
  rw[u2,zee]at ha⊢
  obtain⟨z1,z2,ih⟩:=zlu hx H hl d (j+1) K (acc+g u) (by omega) (by omega) (by omega)
  have hw:=wr1 (i:=j) (L:=(tOf x).length) (by omega) (by omega)
  have hw2:IntKind.wrap .i64 ((acc:Int)+(g u:Int))=((acc+g u:Nat):Int):=by rw[←Int.natCast_add];exact wrn (by omega)
  refine⟨z1,z2, ?_⟩
  rw[zb4,if_pos (by simp),Int.toNat_natCast,hx]
  obtain⟨x1,x2,x3,⟨x4,x5,x6,x7,x8⟩,⟨x9,xa,xb⟩,xc,xd,xe⟩:=x
  simp only[tOf]at *
  rw[if_pos (by simp;omega),if_pos (by simp),Int.toNat_natCast,u1]
  simp only[h1,hw,hw2,ih]
  simp[Nat.add_assoc]
theorem zje {x:GStep} {i:Nat} (hx:l[i]?=some x) (H:∀u∈chB (byOf x),t.zbb u=some ((g u:Nat):Int)) (hl:(byOf x).length≤4194304):∀(d j K acc:Nat),j+d=(byOf x).length→d < K→acc+tot g (chB ((byOf x).drop j))≤8388608→∃z1 z2,zbd t n K l (acc:Int) (i:Int) (j:Int)=some (l,((acc+tot g (chB ((byOf x).drop j)):Nat):Int),(i:Int),z1,z2)
 | 0,j,K,acc,hj,hK,ha=>by
  obtain⟨K,rfl⟩:∃j,K=j+1:=⟨K-1,by omega⟩
  rw[zbd,if_pos (by simp),Int.toNat_natCast,hx,List.drop_of_length_le (by omega)]
  obtain⟨x1,x2,x3,⟨x4,x5,x6,x7,x8⟩,⟨x9,xa,xb⟩,xc,xd,xe⟩:=x
  simp only[byOf]at hj
  dsimp only
  rw[if_neg (by simp;omega)]
  exact⟨_,_,rfl⟩
 | d+1,j,K,acc,hj,hK,ha=>by
  obtain⟨K,rfl⟩:∃j,K=j+1:=⟨K-1,by omega⟩
  obtain⟨b,u1,u3,u2⟩:=at_ (l:=byOf x) (i:=j) (by omega)
  rw[u2]at ha⊢
  have hw:=wr1 (i:=j) (L:=(byOf x).length) (by omega) (by omega)
  by_cases h3:(bK b==3)=true
  ·have ec:chB (b::(byOf x).drop (j+1))=bT b::chB ((byOf x).drop (j+1)):=by rw[chB,List.filter_cons_of_pos (p:=fun b=>bK b==3) h3,List.map_cons,chB]
   rw[ec,zee]at ha⊢
   have h1:=H (bT b) (List.mem_map.2 ⟨b,List.mem_filter.2 ⟨u3,h3⟩,rfl⟩)
   obtain⟨z1,z2,ih⟩:=zje hx H hl d (j+1) K (acc+g (bT b)) (by omega) (by omega) (by omega)
   have hw2:IntKind.wrap .i64 ((acc:Int)+(g (bT b):Int))=((acc+g (bT b):Nat):Int):=by rw[←Int.natCast_add];exact wrn (by omega)
   refine⟨z1,z2, ?_⟩
   rw[zbd,if_pos (by simp),Int.toNat_natCast,hx]
   clear u2 ec H hx
   obtain⟨x1,x2,x3,⟨x4,x5,x6,x7,x8⟩,⟨x9,xa,xb⟩,xc,xd,xe⟩:=x
   obtain⟨k,s,u,de⟩:=b
   simp only[byOf,bK,bT]at *
   rw[if_pos (by simp;omega),if_pos (by simp),Int.toNat_natCast,u1]
   dsimp only
   rw[if_pos h3]
   simp only[h1,hw,hw2,ih]
   simp[Nat.add_assoc]
  ·have ec:chB (b::(byOf x).drop (j+1))=chB ((byOf x).drop (j+1)):=by rw[chB,List.filter_cons_of_neg (p:=fun b=>bK b==3) h3,chB]
   rw[ec]at ha⊢
   obtain⟨z1,z2,ih⟩:=zje hx H hl d (j+1) K acc (by omega) (by omega) (by omega)
   refine⟨z1,z2, ?_⟩
   rw[zbd,if_pos (by simp),Int.toNat_natCast,hx]
   clear u2 ec H hx
   obtain⟨x1,x2,x3,⟨x4,x5,x6,x7,x8⟩,⟨x9,xa,xb⟩,xc,xd,xe⟩:=x
   obtain⟨k,s,u,de⟩:=b
   simp only[byOf,bK,bT]at *
   rw[if_pos (by simp;omega),if_pos (by simp),Int.toNat_natCast,u1]
   dsimp only
   rw[if_neg h3,hw,ih]
theorem zlv (H:∀u∈subsL l,t.zbb u=some ((g u:Nat):Int)) (hl:l.length≤4194304) (hx:∀x∈l,(tOf x).length≤2097152∧(byOf x).length≤2097152∧(tOf x).length < n∧(byOf x).length < n):∀(d j K acc:Nat),j+d=l.length→d < K→acc+tot g (subsL (l.drop j))≤8388608→∃z1 z2,zbD t n K l (acc:Int) (j:Int)=some (l,((acc+tot g (subsL (l.drop j)):Nat):Int),z1,z2)
 | 0,j,K,acc,hj,hK,ha=>by
  obtain⟨K,rfl⟩:∃j,K=j+1:=⟨K-1,by omega⟩
  exact⟨_,_,by rw[zbD,if_neg (by simp;omega),List.drop_of_length_le (by omega)];rfl⟩
 | d+1,j,K,acc,hj,hK,ha=>by
  obtain⟨K,rfl⟩:∃j,K=j+1:=⟨K-1,by omega⟩
  obtain⟨x,u1,u3,u2⟩:=at_ (l:=l) (i:=j) (by omega)
  obtain⟨q1,q2,q3,q4⟩:=hx x u3
  rw[u2,zet,zh5]at ha⊢
  have e0:subs x=tOf x++chB (byOf x):=rfl
  have ht:=zh5 g (tOf x) (chB (byOf x))
  rw[←e0]at ht
  obtain⟨z1,z2,g2⟩:=zlu (n:=n) u1 (fun u hu=>H u (zgg.2 ⟨x,u3,List.mem_append_left _ hu⟩)) (by omega) (tOf x).length 0 n acc (by omega) q3 (by rw[List.drop_zero];omega)
  obtain⟨z3,z4,g4⟩:=zje (n:=n) u1 (fun u hu=>H u (zgg.2 ⟨x,u3,List.mem_append_right _ hu⟩)) (by omega) (byOf x).length 0 n (acc+tot g (tOf x)) (by omega) q4 (by rw[List.drop_zero];omega)
  rw[show((0:Nat):Int)=0 from rfl,List.drop_zero]at g2 g4
  obtain⟨z5,z6,ih⟩:=zlv H hl hx d (j+1) K (acc+tot g (subs x)) (by omega) (by omega) (by omega)
  have hw:=wr1 (i:=j) (L:=l.length) (by omega) (by omega)
  refine⟨z5,z6, ?_⟩
  rw[zbD,if_pos (by simp;omega)]
  simp only[g2,zcI,g4,hw]
  rw[Nat.add_assoc acc,←ht,ih,Nat.add_assoc]
end
theorem zlw:∀(f:Nat) (l:List GStep),dp f l→wL l≤2097152→Ev fun n=>(tab n).zbb l=some ((plF f l:Nat):Int)
 | 0,l,h,_=>h.elim
 | f+1,l,h,hw=>by
  have hin:=zfa hw
  have hlen:=ze3 l
  have H:Ev fun n=>∀u∈subsL l,(tab n).zbb u=some ((plF f u:Nat):Int):=Ev.all _ fun u hu=>zlw f u (h u hu) (by have:=zkv hu;omega)
  have hx:Ev fun n=>∀x∈l,(tOf x).length≤2097152∧(byOf x).length≤2097152∧(tOf x).length < n∧(byOf x).length < n:=Ev.all _ fun x hx=>by
   have:=hin x hx
   cases this with
   | @mk op S N V P Ts By As hS hN hA sS sA hV hP hT hB tl bl aT aB=>
    exact(Ev.ge (Ts.length+By.length+1)).mono fun n hn=>⟨hT,hB,by simp only[tOf];omega,by simp only[byOf];omega⟩
  have hp:=zku (f+1) l
  have e:plF (f+1) l=1+tot (plF f) (subsL l):=rfl
  refine Ev.step ((H.and (hx.and (Ev.ge (l.length+1)))).mono fun n hh=> ?_)
  obtain⟨H,hx,hn⟩:=hh
  obtain⟨z1,z2,k⟩:=zlv (n:=n) H (by omega) hx l.length 0 n 1 (by omega) hn (by rw[List.drop_zero];omega)
  rw[List.drop_zero]at k
  have k:zbD (tab n) n n l 1 0=some (l,((1+tot (plF f) (subsL l):Nat):Int),z1,z2):=k
  rw[zhU,zbb]
  simp only[k,e]
end Go.Proofs.YtgmidllbkjdnnaaDoor.W
