/- Copies. -/
import Derived.Test.YtgmidllbkjdnnaaGreatDoorPlS
namespace Go.Proofs.YtgmidllbkjdnnaaGreatDoor.W
open Go.Proofs.YtgmidllbkjdnnaaGreatDoor.Flat
set_option linter.unusedVariables false
set_option linter.unusedSimpArgs false
def cpF:Nat→zh→zh
 | 0,.mk k n s _ _=>.mk k n s [] []
 | f+1,.mk k n s l m=>.mk k n s (l.map (cpF f)) (m.map (cpF f))
def cp (v:zh):zh:=cpF 12 v
theorem zk1 {t:Tab} {n:Nat} {dp:Int} {l:List zh} {g:zh→zh} (H:∀x∈l,t.zdr x dp=some (g x)) (hl:l.length≤1759218604391):∀(d i K:Nat),i+d=l.length→d < K→∃z,zb7 t n K dp ((l.take i).map g) l (l.length:Int) (i:Int)=some (dp,l.map g,z)
 | 0,i,K,hi,hk=>by
  obtain⟨K,rfl⟩:∃j,K=j+1:=⟨K-1,by omega⟩
  exact⟨_,by rw[zb7,if_neg (by simp only[decide_eq_true_eq];omega),List.take_of_length_le (by omega)]⟩
 | d+1,i,K,hi,hk=>by
  obtain⟨K,rfl⟩:∃j,K=j+1:=⟨K-1,by omega⟩
  obtain⟨x,x1,x3,x2⟩:=at_ (l:=l) (i:=i) (by omega)
  have hx:=H x x3
  obtain⟨z,ih⟩:=zk1 (n:=n) H hl d (i+1) K (by omega) (by omega)
  refine⟨z, ?_⟩
  have et:(l.take i).map g++[g x]=(l.take (i+1)).map g:=by rw[List.take_add_one,x1];simp
  have el:((l.take i).map g).length=i:=by rw[List.length_map,List.length_take];omega
  rw[zb7,if_pos (by simp only[decide_eq_true_eq];omega),if_pos (by simp),Int.toNat_natCast,x1,wr1 (i:=i) (L:=l.length) (by omega) (by omega)]
  generalize g x=q at hx et
  cases x
  cases q
  simp only[hx,et]
  rw[if_pos (by rw[el];simp;omega)]
  exact ih
theorem zmy:∀(f:Nat),f≤12→∀a,VIn a→Ev fun n=>(tab n).zdr a (13-(f:Int))=some (cpF f a)
 | 0,_,.mk k n s l m,_=>Ev.step (Ev.pure fun n=>by rw[zgW,zdr,if_pos (by simp)];rfl)
 | f+1,hf,.mk k nn s l m,.mk hs hl hm al am=>by
  have ed:IntKind.wrap .i64 ((13-((f+1:Nat):Int))+1)=13-(f:Int):=by
   rw[wr (by omega) (by omega)]
   omega
  have hd:¬(13-((f+1:Nat):Int)) > 12:=by omega
  generalize (13-((f+1:Nat):Int))=dp at ed hd⊢
  have r:∀l:List zh,l.length≤1759218604391→(∀x∈l,VIn x)→Ev fun n=>(tab n).zct l (13-(f:Int))=some (l.map (cpF f)):=fun l hl al=>
   Ev.step (((Ev.all l fun x hx=>zmy f (by omega) x (al x hx)).and (Ev.ge (l.length+1))).mono fun n hh=>by
    obtain⟨⟨z1,z2,z3,z4⟩,e⟩:=zk1 (n:=n) hh.1 hl l.length 0 n (by omega) (by omega)
    rw[show((0:Nat):Int)=0 from rfl,List.take_zero,List.map_nil]at e
    rw[zit]
    simp only[zct,e])
  refine Ev.step (((r l hl al).and (r m hm am)).mono fun n hh=> ?_)
  rw[zgW,zdr,if_neg (by simpa using hd),ed]
  simp only[hh.1,hh.2,cpF]
theorem znM {a:zh} (ha:VIn a):Ev fun n=>(tab n).zdq a=some (cp a):=
 Ev.step ((zmy 12 (by omega) a ha).mono fun n h=>by
  rw[zj1]
  cases a
  exact h)
def cpP:Nat→GPred→GPred
 | 0,.mk k _ _=>.mk k [] []
 | f+1,.mk k v p=>.mk k (v.map cp) (p.map (cpP f))
theorem zmz {t:Tab} {n:Nat} {dp k:Int} {l:List zh} {a5:Int} {a6:List zh} {a7:List GPred} {a8:Int} {a9:List zh} {a10 a13:List GPred} (H:∀x∈l,t.zdq x=some (cp x)) (hl:l.length≤4194304):∀(d i K:Nat),i+d=l.length→d < K→∃z1 z2,zdJ t n K dp l (l.length:Int) (i:Int) a5 a6 a7 a8 a9 a10 k ((l.take i).map cp) a13=some (dp,l,(l.length:Int),z1,z2,a5,a6,a7,a8,a9,a10,k,l.map cp,a13)
 | 0,i,K,hi,hk=>by
  obtain⟨K,rfl⟩:∃j,K=j+1:=⟨K-1,by omega⟩
  exact⟨_,_,by rw[zdJ,if_neg (by simp only[decide_eq_true_eq];omega),List.take_of_length_le (by omega)]⟩
 | d+1,i,K,hi,hk=>by
  obtain⟨K,rfl⟩:∃j,K=j+1:=⟨K-1,by omega⟩
  obtain⟨x,x1,x3,x2⟩:=at_ (l:=l) (i:=i) (by omega)
  have hx:=H x x3
  obtain⟨z1,z2,ih⟩:=zmz (n:=n) (dp:=dp) (k:=k) (a5:=a5) (a6:=a6) (a7:=a7) (a8:=a8) (a9:=a9) (a10:=a10) (a13:=a13) H hl d (i+1) K (by omega) (by omega)
  refine⟨z1,z2, ?_⟩
  have et:(l.take i).map cp++[cp x]=(l.take (i+1)).map cp:=by rw[List.take_add_one,x1];simp
  have el:((l.take i).map cp).length=i:=by rw[List.length_map,List.length_take];omega
  rw[zdJ,if_pos (by simp only[decide_eq_true_eq];omega),if_pos (by simp),Int.toNat_natCast,x1,wr1 (i:=i) (L:=l.length) (by omega) (by omega)]
  generalize cp x=q at hx et
  cases x
  cases q
  simp only[hx,et]
  rw[if_pos (by rw[el];simp;omega)]
  exact ih
theorem zmA {t:Tab} {n:Nat} {dp:Int} {l:List GPred} {a5:Int} {a6:List zh} {a7:List GPred} {a8:Int} {a9:List zh} {g:GPred→GPred} (H:∀x∈l,t.zdL x (IntKind.wrap .i64 (dp+1))=some (g x)) (hl:l.length≤4194304):∀(d i K:Nat),i+d=l.length→d < K→∃z1 z2,zdK t n K dp l (l.length:Int) (i:Int) a5 a6 a7 a8 a9 ((l.take i).map g)=some (dp,l,(l.length:Int),z1,z2,a5,a6,a7,a8,a9,l.map g)
 | 0,i,K,hi,hk=>by
  obtain⟨K,rfl⟩:∃j,K=j+1:=⟨K-1,by omega⟩
  exact⟨_,_,by rw[zdK,if_neg (by simp only[decide_eq_true_eq];omega),List.take_of_length_le (by omega)]⟩
 | d+1,i,K,hi,hk=>by
  obtain⟨K,rfl⟩:∃j,K=j+1:=⟨K-1,by omega⟩
  obtain⟨x,x1,x3,x2⟩:=at_ (l:=l) (i:=i) (by omega)
  have hx:=H x x3
  obtain⟨z1,z2,ih⟩:=zmA (n:=n) (dp:=dp) (a5:=a5) (a6:=a6) (a7:=a7) (a8:=a8) (a9:=a9) H hl d (i+1) K (by omega) (by omega)
  refine⟨z1,z2, ?_⟩
  have et:(l.take i).map g++[g x]=(l.take (i+1)).map g:=by rw[List.take_add_one,x1];simp
  have el:((l.take i).map g).length=i:=by rw[List.length_map,List.length_take];omega
  rw[zdK,if_pos (by simp only[decide_eq_true_eq];omega),if_pos (by simp),Int.toNat_natCast,x1,wr1 (i:=i) (L:=l.length) (by omega) (by omega)]
  generalize g x=q at hx et
  cases x
  cases q
  simp only[hx,et]
  rw[if_pos (by rw[el];simp;omega)]
  exact ih
theorem zmB:∀(f:Nat),f≤12→∀(a:GPred) (k:Nat),a.t.wt≤k→k≤2097152→PIn a→Ev fun n=>(tab n).zdL a (13-(f:Int))=some (cpP f a)
 | 0,_,.mk k v p,_,_,_,_=>Ev.step (Ev.pure fun n=>by rw[zhm,zdL,if_pos (by simp)];rfl)
 | f+1,hf,.mk k v p,w,hw,hk,.mk hv hp av ap=>by
  have ed:IntKind.wrap .i64 ((13-((f+1:Nat):Int))+1)=13-(f:Int):=by
   rw[wr (by omega) (by omega)]
   omega
  have hd:¬(13-((f+1:Nat):Int)) > 12:=by omega
  generalize (13-((f+1:Nat):Int))=dp at ed hd⊢
  simp only[GPred.t,T.wt,wts,zh.zl,GPred.zl]at hw
  have l1:=zeL (f:=zh.t) v
  have l2:=zeL (f:=GPred.t) p
  have e1:=Ev.all (p:=fun x n=>(tab n).zdq x=some (cp x)) v fun x hx=>znM (av x hx)
  have e2:=Ev.all (p:=fun x n=>(tab n).zdL x (13-(f:Int))=some (cpP f x)) p fun x hx=>zmB f (by omega) x w (by have:=zeF (f:=GPred.t) hx;omega) hk (ap x hx)
  refine Ev.step ((e1.and (e2.and (Ev.ge (v.length+p.length+1)))).mono fun n hh=> ?_)
  obtain⟨h1,h2,h3⟩:=hh
  rw[←ed]at h2
  rw[zhm,zdL,if_neg (by simpa using hd)]
  obtain⟨y1,y2,g1⟩:=zmz (n:=n) (dp:=dp) (k:=k) (a5:=k) (a6:=v) (a7:=p) (a8:=0) (a9:=[]) (a10:=[]) (a13:=[]) h1 (by omega) v.length 0 n (by omega) (by omega)
  obtain⟨z1,z2,g2⟩:=zmA (n:=n) (dp:=dp) (a5:=0) (a6:=[]) (a7:=[]) (a8:=k) (a9:=v.map cp) h2 (by omega) p.length 0 n (by omega) (by omega)
  rw[show((0:Nat):Int)=0 from rfl,List.take_zero,List.map_nil]at g1 g2
  simp only[g1,zdS,g2,cpP]
theorem zpj {a:GPred} (hw:a.t.wt≤2097152) (ha:PIn a):Ev fun n=>(tab n).zeq a=some (cpP 12 a):=
 Ev.step ((zmB 12 (by omega) a 2097152 hw (Nat.le_refl _) ha).mono fun n h=>by
  rw[zky]
  cases a
  exact h)
def cpB (C:List GStep→List GStep):GBy→GBy
 | .mk k s t d=>.mk k s (C t) d
def cpS (C:List GStep→List GStep):GStep→GStep
 | .mk op S N V P Ts By As=>.mk op S N (cp V) (cpP 12 P) (Ts.map C) (By.map (cpB C)) As
def cpL:Nat→List GStep→List GStep
 | 0,_=>[]
 | f+1,l=>l.map (cpS (cpL f))
theorem zqd {t:Tab} {n:Nat} {dp:Int} {b1 b2:List GStep} {b3 b4:Int} {l:List GBy} {op:Int} {S As:List ByteArray} {N:List Int} {v1 v2:Int} {v3:ByteArray} {v4 v5:List zh} {p1:Int} {p2:List zh} {p3:List GPred} {Ts:List (List GStep)} {C:List GStep→List GStep} (H:∀x∈l,t.za6 (bT x) (IntKind.wrap .i64 (dp+1))=some (C (bT x))) (hl:l.length≤4194304):∀(d i K:Nat),i+d=l.length→d < K→∃z1 z2,zcE t n K dp b1 b2 b3 b4 l (l.length:Int) (i:Int) op S N v1 v2 v3 v4 v5 p1 p2 p3 Ts ((l.take i).map (cpB C)) As=some (dp,b1,b2,b3,b4,l,(l.length:Int),z1,z2,op,S,N,v1,v2,v3,v4,v5,p1,p2,p3,Ts,l.map (cpB C),As)
 | 0,i,K,hi,hk=>by
  obtain⟨K,rfl⟩:∃j,K=j+1:=⟨K-1,by omega⟩
  exact⟨_,_,by rw[zcE,if_neg (by simp only[decide_eq_true_eq];omega),List.take_of_length_le (by omega)]⟩
 | d+1,i,K,hi,hk=>by
  obtain⟨K,rfl⟩:∃j,K=j+1:=⟨K-1,by omega⟩
  obtain⟨x,x1,x3,x2⟩:=at_ (l:=l) (i:=i) (by omega)
  have hx:=H x x3
  obtain⟨z1,z2,ih⟩:=zqd (n:=n) (dp:=dp) (b1:=b1) (b2:=b2) (b3:=b3) (b4:=b4) (op:=op) (S:=S) (As:=As) (N:=N) (v1:=v1) (v2:=v2) (v3:=v3) (v4:=v4) (v5:=v5) (p1:=p1) (p2:=p2) (p3:=p3) (Ts:=Ts) H hl d (i+1) K (by omega) (by omega)
  refine⟨z1,z2, ?_⟩
  have et:(l.take i).map (cpB C)++[cpB C x]=(l.take (i+1)).map (cpB C):=by rw[List.take_add_one,x1];simp
  have el:((l.take i).map (cpB C)).length=i:=by rw[List.length_map,List.length_take];omega
  rw[zcE,if_pos (by simp only[decide_eq_true_eq];omega),if_pos (by simp),Int.toNat_natCast,x1,wr1 (i:=i) (L:=l.length) (by omega) (by omega)]
  clear x1 x2 x3 H
  obtain⟨k,s,u,e⟩:=x
  simp only[bT]at hx
  simp only[cpB]at et
  simp only[hx,et]
  rw[if_pos (by rw[el];simp;omega)]
  exact ih
theorem znN {t:Tab} {n:Nat} {dp:Int} {l:List (List GStep)} {C:List GStep→List GStep} (H:∀x∈l,t.za6 x dp=some (C x)) (hl:l.length≤4194304):∀(d i K:Nat),i+d=l.length→d < K→∃z,zdd t n K dp ((l.take i).map C) l (l.length:Int) (i:Int)=some (dp,l.map C,z)
 | 0,i,K,hi,hk=>by
  obtain⟨K,rfl⟩:∃j,K=j+1:=⟨K-1,by omega⟩
  exact⟨_,by rw[zdd,if_neg (by simp only[decide_eq_true_eq];omega),List.take_of_length_le (by omega)]⟩
 | d+1,i,K,hi,hk=>by
  obtain⟨K,rfl⟩:∃j,K=j+1:=⟨K-1,by omega⟩
  obtain⟨x,x1,x3,x2⟩:=at_ (l:=l) (i:=i) (by omega)
  have hx:=H x x3
  obtain⟨z,ih⟩:=znN (n:=n) H hl d (i+1) K (by omega) (by omega)
  refine⟨z, ?_⟩
  have et:(l.take i).map C++[C x]=(l.take (i+1)).map C:=by rw[List.take_add_one,x1];simp
  have el:((l.take i).map C).length=i:=by rw[List.length_map,List.length_take];omega
  rw[zdd,if_pos (by simp only[decide_eq_true_eq];omega),if_pos (by simp),Int.toNat_natCast,x1,wr1 (i:=i) (L:=l.length) (by omega) (by omega)]
  simp only[hx,et]
  rw[if_pos (by rw[el];simp;omega)]
  exact ih
def CpAt (C:List GStep→List GStep) (n:Nat) (dp:Int) (x:GStep):Prop:=
 (tab n).slices_Clone_string (sOf x)=some (sOf x)∧(tab n).slices_Clone_int (nOf x)=some (nOf x)∧(tab n).slices_Clone_string (asOf x)=some (asOf x)∧(tab n).zdq (vOf x)=some (cp (vOf x))∧(tab n).zeq (pOf x)=some (cpP 12 (pOf x))∧(tab n).zdU (tOf x) (IntKind.wrap .i64 (dp+1))=some ((tOf x).map C)∧(∀u∈byOf x,(tab n).za6 (bT u) (IntKind.wrap .i64 (dp+1))=some (C (bT u)))∧(byOf x).length < n∧(byOf x).length≤4194304
theorem zmC {n:Nat} {dp:Int} {l:List GStep} {C:List GStep→List GStep} (H:∀x∈l,CpAt C n dp x) (hl:l.length≤4194304):∀(d i K:Nat),i+d=l.length→d < K→∃z,zcF (tab n) n K dp ((l.take i).map (cpS C)) l (l.length:Int) (i:Int)=some (dp,l.map (cpS C),z)
 | 0,i,K,hi,hk=>by
  obtain⟨K,rfl⟩:∃j,K=j+1:=⟨K-1,by omega⟩
  exact⟨_,by rw[zcF,if_neg (by simp only[decide_eq_true_eq];omega),List.take_of_length_le (by omega)]⟩
 | d+1,i,K,hi,hk=>by
  obtain⟨K,rfl⟩:∃j,K=j+1:=⟨K-1,by omega⟩
  obtain⟨x,x1,x3,x2⟩:=at_ (l:=l) (i:=i) (by omega)
  obtain⟨h1,h2,h3,h4,h5,h6,h7,h8,h9⟩:=H x x3
  obtain⟨z,ih⟩:=zmC H hl d (i+1) K (by omega) (by omega)
  refine⟨z, ?_⟩
  have et:(l.take i).map (cpS C)++[cpS C x]=(l.take (i+1)).map (cpS C):=by rw[List.take_add_one,x1];simp
  have el:((l.take i).map (cpS C)).length=i:=by rw[List.length_map,List.length_take];omega
  rw[zcF,if_pos (by simp only[decide_eq_true_eq];omega),if_pos (by simp),Int.toNat_natCast,x1]
  have hw:=wr1 (i:=i) (L:=l.length) (by omega) (by omega)
  clear x1 x2 x3 H
  obtain⟨op,S,N,⟨v1,v2,v3,v4,v5⟩,⟨p1,p2,p3⟩,Ts,By,As⟩:=x
  simp only[sOf,nOf,asOf,vOf,pOf,tOf,byOf]at h1 h2 h3 h4 h5 h6 h7 h8 h9
  simp only[cpS]at et
  generalize cp (zh.mk v1 v2 v3 v4 v5)=V at h4 et
  generalize cpP 12 (GPred.mk p1 p2 p3)=P at h5 et
  obtain⟨w1,w2,w3,w4,w5⟩:=V
  obtain⟨q1,q2,q3⟩:=P
  simp only[h1,h2,h3,h4,h5,h6]
  obtain⟨z1,z2,g⟩:=zqd (n:=n) (b1:=(l.take i).map (cpS C)) (b2:=l) (b3:=(l.length:Int)) (b4:=(i:Int)) (op:=op) (S:=S) (As:=As) (N:=N) (v1:=w1) (v2:=w2) (v3:=w3) (v4:=w4) (v5:=w5) (p1:=q1) (p2:=q2) (p3:=q3) (Ts:=Ts.map C) h7 h9 By.length 0 n (by omega) h8
  rw[show((0:Nat):Int)=0 from rfl,List.take_zero,List.map_nil]at g
  simp only[g,zda]
  rw[if_pos (by rw[el];simp;omega)]
  simp only[et,hw]
  exact ih
theorem znO {S:List ByteArray} (h:S.length≤4194304):Ev fun n=>(tab n).slices_Clone_string S=some S:=
 Ev.step (Ev.pure fun n=>by show(if decide (S.length * 16≤140737488355328)=true then some S else none)=_;rw[if_pos (by simp;omega)])
theorem zpX {S:List Int} (h:S.length≤4194304):Ev fun n=>(tab n).slices_Clone_int S=some S:=
 Ev.step (Ev.pure fun n=>by show(if decide (S.length * 8≤140737488355328)=true then some S else none)=_;rw[if_pos (by simp;omega)])
theorem ziC:∀(f:Nat),f≤12→∀a,wL a≤2097152→Ev fun n=>(tab n).za6 a (13-(f:Int))=some (cpL f a)
 | 0,_,a,_=>Ev.step (Ev.pure fun n=>by rw[zgA,za6,if_pos (by simp)];rfl)
 | f+1,hf,a,hw=>by
  have hin:=zfX hw
  have hlen:=zfr a
  have ed:IntKind.wrap .i64 ((13-((f+1:Nat):Int))+1)=13-(f:Int):=by
   rw[wr (by omega) (by omega)]
   omega
  have hd:¬(13-((f+1:Nat):Int)) > 12:=by omega
  generalize (13-((f+1:Nat):Int))=dp at ed hd⊢
  have H:Ev fun n=>∀x∈a,CpAt (cpL f) n dp x:=Ev.all _ fun x hx=>by
   have hsx:=hin x hx
   have wx:=zg3 hx
   cases hsx with
   | @mk op S N V P Ts By As lS lN lA sS sA iV iP lT lB tl bl aT aB=>
   simp only[GStep.t,T.wt,wts,zx,GBy.zl]at wx
   have wT:∀t∈Ts,wL t≤2097152:=fun t ht=>by
    have:=zeF (f:=fun x=>T.sl false 14 (GStep.ts x)) ht
    rw[T.wt,GStep.zl]at this
    unfold wL
    omega
   have wB:∀u∈By,wL (bT u)≤2097152:=fun u hu=>by
    have:=zeF (f:=GBy.t) hu
    cases u
    simp only[GBy.t,T.wt,wts,GStep.zl]at this
    simp only[bT]
    unfold wL
    omega
   have e1:=znO (S:=S) (by omega)
   have e2:=zpX (S:=N) (by omega)
   have e3:=znO (S:=As) (by omega)
   have e4:=znM iV
   have e5:=zpj (a:=P) (by omega) iP
   have e7:=Ev.all (p:=fun u n=>(tab n).za6 (bT u) (13-(f:Int))=some (cpL f (bT u))) By fun u hu=>ziC f (by omega) (bT u) (wB u hu)
   have e6:Ev fun n=>(tab n).zdU Ts (13-(f:Int))=some (Ts.map (cpL f)):=by
    have q:=Ev.all (p:=fun u n=>(tab n).za6 u (13-(f:Int))=some (cpL f u)) Ts fun u hu=>ziC f (by omega) u (wT u hu)
    refine Ev.step ((q.and (Ev.ge (Ts.length+1))).mono fun n hh=> ?_)
    obtain⟨⟨z1,z2,z3,z4⟩,g⟩:=znN (n:=n) hh.1 (by omega) Ts.length 0 n (by omega) (by omega)
    rw[show((0:Nat):Int)=0 from rfl,List.take_zero,List.map_nil]at g
    rw[zj2]
    simp only[zdU,g]
   refine(((e1.and (e2.and e3)).and ((e4.and e5).and (e6.and e7))).and (Ev.ge (By.length+1))).mono fun n hh=> ?_
   obtain⟨⟨⟨h1,h2,h3⟩,⟨h4,h5⟩,h6,h7⟩,h8⟩:=hh
   rw[←ed]at h6 h7
   exact⟨h1,h2,h3,h4,h5,h6,h7,by simp only[byOf];omega,by simp only[byOf];omega⟩
  refine Ev.step ((H.and (Ev.ge (a.length+1))).mono fun n hh=> ?_)
  rw[zgA,za6,if_neg (by simpa using hd)]
  obtain⟨⟨z1,z2,z3,z4⟩,g⟩:=zmC hh.1 (by omega) a.length 0 n (by omega) (by have:=hh.2;omega)
  rw[show((0:Nat):Int)=0 from rfl,List.take_zero,List.map_nil]at g
  simp only[g,cpL]
theorem zpY {a:List GStep} (h:wL a≤2097152):Ev fun n=>(tab n).zed a=some (cpL 12 a):=
 Ev.step ((ziC 12 (by omega) a h).mono fun n h=>by
  rw[zkw]
  exact h)
theorem zfv {α:Type _} {f:α→T} {g:α→α}:∀{l:List α},(∀x∈l,(f (g x)).wt≤(f x).wt)→wts ((l.map g).map f)≤wts (l.map f)
 | [],_=>Nat.le_refl _
 | x::xs,h=>by
  have h1:=h x (List.mem_cons_self ..)
  have h2:=zfv (l:=xs) fun y hy=>h y (List.mem_cons_of_mem _ hy)
  simp only[List.map_cons,wts]
  omega
theorem zlx:∀(f:Nat) (v:zh),(cpF f v).t.wt≤v.t.wt
 | 0,.mk k n s l m=>by
  simp only[cpF,zh.t,T.wt,wts,zh.zl,List.map_nil]
  omega
 | f+1,.mk k n s l m=>by
  have h1:=zfv (f:=zh.t) (l:=l) fun x _=>zlx f x
  have h2:=zfv (f:=zh.t) (l:=m) fun x _=>zlx f x
  simp only[cpF,zh.t,T.wt,wts,zh.zl]
  omega
theorem zpk:∀(f:Nat) (v:GPred),(cpP f v).t.wt≤v.t.wt
 | 0,.mk k v p=>by
  simp only[cpP,GPred.t,T.wt,wts,zh.zl,GPred.zl,List.map_nil]
  omega
 | f+1,.mk k v p=>by
  have h1:=zfv (f:=zh.t) (g:=cp) (l:=v) fun x _=>zlx 12 x
  have h2:=zfv (f:=GPred.t) (l:=p) fun x _=>zpk f x
  simp only[cpP,GPred.t,T.wt,wts,zh.zl,GPred.zl]
  omega
theorem zkn:∀(f:Nat) (l:List GStep),wL (cpL f l)≤wL l
 | 0,l=>by simp[cpL,wL,wts]
 | f+1,l=>by
  rw[cpL]
  unfold wL
  refine zfv fun x _=> ?_
  obtain⟨op,S,N,V,P,Ts,By,As⟩:=x
  have h1:=zlx 12 V
  have h2:=zpk 12 P
  have h3:=zfv (f:=fun x=>T.sl false 14 (GStep.ts x)) (g:=cpL f) (l:=Ts) fun x _=>by
   have:=zkn f x
   unfold wL at this
   simp only[T.wt,GStep.zl]
   omega
  have h4:=zfv (f:=GBy.t) (g:=cpB (cpL f)) (l:=By) fun x _=>by
   obtain⟨k,s,u,d⟩:=x
   have:=zkn f u
   unfold wL at this
   simp only[cpB,GBy.t,T.wt,wts,GStep.zl]
   omega
  simp only[cpS,GStep.t,T.wt,wts,zx,GBy.zl]
  unfold cp
  omega
end Go.Proofs.YtgmidllbkjdnnaaGreatDoor.W
