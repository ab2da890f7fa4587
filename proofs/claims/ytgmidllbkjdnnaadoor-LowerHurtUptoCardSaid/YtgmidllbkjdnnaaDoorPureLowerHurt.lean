/- Rows that were hurt raise to nothing. -/
import Derived.Test.YtgmidllbkjdnnaaDoorLrB
namespace Go.Proofs.YtgmidllbkjdnnaaDoor.W
open Go.Proofs.YtgmidllbkjdnnaaDoor.Flat
set_option linter.unusedVariables false
set_option linter.unusedSimpArgs false
theorem zf6 {g:List GStep→Nat}:∀(ts:List (List GStep)) (n:Nat),(starts g ts n).length=ts.length
 | [],_=>rfl
 | t::ts,n=>by rw[starts,List.length_cons,zf6 ts,List.length_cons]
theorem zli {g:List GStep→Nat}:∀(bs:List GBy) (n:Nat),(keysF g bs n).length=bs.length
 | [],_=>rfl
 | b::bs,n=>by
  rw[keysF]
  split<;>rw[List.length_cons,zli bs,List.length_cons]
theorem zjD {R:List GStep→Nat→List (List GCode)} {g:List GStep→Nat}:∀(ts:List (List GStep)) (n:Nat),∀row∈blocks R g ts n,∃t∈ts,∃m,row∈R t m
 | [],n,row,h=>by cases h
 | t::ts,n,row,h=>by
  rw[blocks]at h
  rcases List.mem_append.1 h with h | h
  ·exact⟨t,List.mem_cons_self ..,n,h⟩
  ·obtain⟨u,hu,m,e⟩:=zjD ts _ row h
   exact⟨u,List.mem_cons_of_mem _ hu,m,e⟩
theorem zjE {g:List GStep→Nat}:∀(l:List GStep) (n:Nat),∀c0∈zen g l n,∃x∈l,∃m,c0=codeF g x m
 | [],n,c0,h=>by cases h
 | x::xs,n,c0,h=>by
  rw[zen]at h
  rcases List.mem_cons.1 h with rfl | h
  ·exact⟨x,List.mem_cons_self ..,n,rfl⟩
  ·obtain⟨y,hy,m,e⟩:=zjE xs _ c0 h
   exact⟨y,List.mem_cons_of_mem _ hy,m,e⟩
theorem zlj:∀(f:Nat) (l:List GStep) (n:Nat),wL l≤2097152→∀row∈rowsF f l n,row.length≤2097152∧∀c0∈row,(cKids c0).length≤2097152∧(cBy c0).length≤2097152
 | 0,l,n,hw,row,h=>by
  rw[rowsF,List.mem_singleton]at h
  subst h
  exact⟨Nat.zero_le _,fun c0 h=>by cases h⟩
 | f+1,l,n,hw,row,h=>by
  have hin:=zgk hw
  have hlen:=zfX l
  rw[rowsF]at h
  rcases List.mem_cons.1 h with rfl | h
  ·refine⟨by rw[ziR];omega,fun c0 h=> ?_⟩
   obtain⟨x,hx,m,rfl⟩:=zjE l _ c0 h
   have:=hin x hx
   cases this with
   | @mk op S N V P Ts By As hS hN hA sS sA hV hP hT hB tl bl aT aB=>
    exact⟨by simp only[codeF,cKids,zf6,tOf];exact hT,by simp only[codeF,cBy,zli,byOf];exact hB⟩
  ·obtain⟨t,ht,m,hr⟩:=zjD _ _ row h
   exact zlj f t m (by have:=zmt ht;omega) row hr
theorem zjF {R:List GStep→Nat→List (List GCode)} {g:List GStep→Nat}:∀(ts:List (List GStep)) (n:Nat),(∀t∈ts,∀m,nmL (R t m)+1=g t)→nmL (blocks R g ts n)+ts.length=tot g ts
 | [],n,_=>by simp[blocks,nmL,names,tot]
 | t::ts,n,h=>by
  have ih:=zjF (R:=R) (g:=g) ts (n+g t) fun u hu=>h u (List.mem_cons_of_mem _ hu)
  have h1:=h t (List.mem_cons_self ..) n
  rw[blocks,zeC,zet,List.length_cons]
  omega
theorem zlk:∀(f:Nat) (l:List GStep) (n:Nat),nmL (rowsF f l n)+1=plF f l
 | 0,l,n=>rfl
 | f+1,l,n=>by
  have h:=zjF (R:=rowsF f) (g:=plF f) (subsL l) (n+1) fun t _ m=>zlk f t m
  have e:nmL (rowsF (f+1) l n)=(subsL l).length+nmL (blocks (rowsF f) (plF f) (subsL l) (n+1)):=by
   unfold nmL
   rw[rowsF,names,List.flatMap_cons,zfq,List.length_append,zf6]
   rfl
  unfold tot at h
  rw[e,plF]
  omega
theorem zmu:∀K:List Int,wts (K.map fun x=>T.v (.int .i64 x))=K.length
 | []=>rfl
 | k::ks=>by rw[List.map_cons,wts,zmu ks,List.length_cons];show 1+_=_;omega
theorem zmv {g:List GStep→Nat}:∀(bs:List GBy) (n:Nat),wts ((keysF g bs n).map GKey.t)+((((bs.filter fun b=>bK b==3).map bT).map wL).sum)≤wts (bs.map GBy.t)
 | [],n=>Nat.le_refl _
 | .mk k s t d::bs,n=>by
  have ih:=zmv (g:=g) bs
  have e1:∀i,(GBy.mk k s t d).t.wt=(GKey.mk k s i d).t.wt+wL t:=fun i=>by
   simp only[GBy.t,GKey.t,T.wt,wts,GStep.zl,wL]
   omega
  rw[keysF]
  by_cases h:(bK (.mk k s t d)==3)=true
  ·have:=ih (n+g (bT (.mk k s t d)))
   have h2:=e1 (n:Int)
   rw[if_pos h,List.filter_cons_of_pos (p:=fun b=>bK b==3) h,List.map_cons,List.map_cons,List.map_cons,List.map_cons,wts,wts,List.sum_cons]
   simp only[bK,bKey,bD,bT]at *
   omega
  ·have:=ih n
   have h2:=e1 0
   rw[if_neg h,List.filter_cons_of_neg (p:=fun b=>bK b==3) h,List.map_cons,List.map_cons,wts,wts]
   simp only[bK,bKey,bD,bT]at *
   omega
theorem znX:∀ts:List (List GStep),(ts.map fun t=>wL t+1).sum=(ts.map wL).sum+ts.length
 | []=>rfl
 | t::ts=>by rw[List.map_cons,List.map_cons,List.sum_cons,List.sum_cons,List.length_cons,znX ts];omega
theorem zoq {g:List GStep→Nat} (x:GStep) (n:Nat):(codeF g x n).t.wt+((subs x).map wL).sum≤x.t.wt:=by
 obtain⟨op,S,N,V,P,Ts,By,As⟩:=x
 have h1:=zmv (g:=g) By (n+tot g Ts)
 have h2:=zhJ Ts
 rw[znX]at h2
 simp only[codeF,opOf,sOf,nOf,vOf,pOf,tOf,byOf,asOf,subs,List.map_append,List.sum_append,GStep.t,GCode.t,T.wt,wts,zw,GBy.zl,GKey.zl,zy,zmu,zf6,h2]
 omega
theorem zll {g:List GStep→Nat}:∀(l:List GStep) (n:Nat),wts ((zen g l n).map GCode.t)+((subsL l).map wL).sum≤wL l
 | [],n=>Nat.le_refl _
 | x::xs,n=>by
  have h1:=zoq (g:=g) x n
  have h2:=zll (g:=g) xs (n+tot g (subs x))
  have ew:wL (x::xs)=x.t.wt+wL xs:=by unfold wL;rw[List.map_cons,wts]
  rw[zen,List.map_cons,wts,zeq,List.map_append,List.sum_append,ew]
  omega
theorem zjG {R:List GStep→Nat→List (List GCode)} {g:List GStep→Nat}:∀(ts:List (List GStep)) (n:Nat),(∀t∈ts,∀m,wR (R t m)≤wL t)→wR (blocks R g ts n)≤(ts.map wL).sum
 | [],n,_=>Nat.le_refl _
 | t::ts,n,h=>by
  have ih:=zjG (R:=R) (g:=g) ts (n+g t) fun u hu=>h u (List.mem_cons_of_mem _ hu)
  have h1:=h t (List.mem_cons_self ..) n
  rw[blocks,zfr,List.map_cons,List.sum_cons]
  omega
theorem zlm:∀(f:Nat) (l:List GStep) (n:Nat),wR (rowsF f l n)≤wL l
 | 0,l,n=>Nat.zero_le _
 | f+1,l,n=>by
  have h:=zjG (R:=rowsF f) (g:=plF f) (subsL l) (n+1) fun t _ m=>zlm f t m
  have h2:=zll (g:=plF f) l (n+1)
  have e:wR (rowsF (f+1) l n)=wts ((zen (plF f) l (n+1)).map GCode.t)+wR (blocks (rowsF f) (plF f) (subsL l) (n+1)):=by
   unfold wR
   rw[rowsF,List.map_cons,List.sum_cons]
  omega
theorem zmw {rows:List (List GCode)} {k:Nat} {row:List GCode} (h:rows[k]?=some row) (r2:List GCode):rows=rows.take k++row::rows.drop (k+1)∧rows.set k r2=rows.take k++r2::rows.drop (k+1):=by
 have hk:k < rows.length:=(List.getElem?_eq_some_iff.1 h).1
 have hr:rows[k]=row:=(List.getElem?_eq_some_iff.1 h).2
 refine⟨?_,List.set_eq_take_append_cons_drop.trans (by rw[if_pos hk])⟩
 rw[←hr,←List.drop_eq_getElem_cons hk,List.take_append_drop]
theorem ziW (r:List GCode) (rs:List (List GCode)):nmL (r::rs)=(zdU r).length+nmL rs:=by unfold nmL;rw[names,List.flatMap_cons,List.length_append];rfl
theorem zmx (r:List GCode) (rs:List (List GCode)):wR (r::rs)=wts (r.map GCode.t)+wR rs:=by unfold wR;rw[List.map_cons,List.sum_cons]
theorem znY {rows:List (List GCode)} {k:Nat} {row:List GCode} (h:rows[k]?=some row) (c:GCode):nmL (rows.set k (row++[c]))=nmL rows+(kids c).length:=by
 obtain⟨e1,e2⟩:=zmw h (row++[c])
 have e3:nmL rows=nmL (rows.take k)+nmL (row::rows.drop (k+1)):=by rw[←zeC,←e1]
 have e4:(zdU (row++[c])).length=(zdU row).length+(kids c).length:=by simp[zdU]
 rw[e2,zeC,e3,ziW,ziW,e4]
 omega
theorem zl0 {rows:List (List GCode)} {k:Nat} {row:List GCode} (h:rows[k]?=some row) (c:GCode):wR (rows.set k (row++[c]))=wR rows+c.t.wt:=by
 obtain⟨e1,e2⟩:=zmw h (row++[c])
 have e3:wR rows=wR (rows.take k)+wR (row::rows.drop (k+1)):=by rw[←zfr,←e1]
 have e4:wts ((row++[c]).map GCode.t)=wts (row.map GCode.t)+c.t.wt:=by rw[List.map_append,zmf];rfl
 rw[e2,zfr,e3,zmx,zmx,e4]
 omega
theorem ziX {rows:List (List GCode)} {k:Nat} {row:List GCode} (hf:Fits rows 2097152) (h:rows[k]?=some row) {c:GCode} (h1:(cKids c).length≤10) (h2:(cBy c).length≤10):Fits (rows.set k (row++[c])) 4194304:=by
 refine⟨by rw[List.length_set];exact hf.1,fun r hr=> ?_⟩
 rcases List.mem_or_eq_of_mem_set hr with hr | rfl
 ·obtain⟨a,b⟩:=hf.2 r hr
  exact⟨by omega,fun c hc=>by have:=b c hc;omega⟩
 ·obtain⟨a,b⟩:=hf.2 row (List.mem_of_getElem? h)
  refine⟨by simp;omega,fun d hd=> ?_⟩
  rcases List.mem_append.1 hd with hd | hd
  ·have:=b d hd;omega
  ·cases List.mem_singleton.1 hd;omega
theorem Pure.LowerHurt:∀(x0:List GStep) (x1:Int) (x2:Int),wts [.sl false 14 (GStep.ts x0),.v (.int .i64 x1),.v (.int .u8 x2)]≤1048576→(Lit.int .i64 x1).wf=true→(Lit.int .u8 x2).wf=true→∃n,(tab n).zbe x0 x1 x2=some true:=by
 intro a turn how hw _ w2
 simp only[wts,T.wt,GStep.zl]at hw
 have hl:wL a≤1048576:=by unfold wL;omega
 have hhow:0≤how∧how≤255:=by
  have h:(decide (0≤how)&&decide (how≤255))=true:=w2
  rw[Bool.and_eq_true,decide_eq_true_eq,decide_eq_true_eq]at h
  exact h
 obtain⟨r1,e1⟩:=znC (l:=a) (by omega)
 have e2:=znU (l:=a) (by omega)
 by_cases ho:okL2 a=true
 ·have hwc:wL (cpL 12 a)≤1048576:=Nat.le_trans (zkd 12 a) hl
  have hlen:=ze9 11 (cpL 12 a) 0
  have hpl:=zlY 11 (cpL 12 a)
  have hpos:=zms 11 (cpL 12 a)
  have hsm:=zlj 11 (cpL 12 a) 0 (by omega)
  have hnm:=zlk 11 (cpL 12 a) 0
  have hwr:=zlm 11 (cpL 12 a) 0
  have hnb:=zld 11 (cpL 12 a) 0
  rw[←ze9 11 (cpL 12 a) 0,Nat.zero_add]at hnb
  rw[←hlen]at hnm
  rw[if_pos ho]at e2
  have hR1:(rowsF 11 (cpL 12 a) 0).length≤1048577:=by omega
  have hR0:1≤(rowsF 11 (cpL 12 a) 0).length:=by omega
  have hwr:wR (rowsF 11 (cpL 12 a) 0)≤1048576:=by omega
  clear hlen hpl hpos
  generalize rowsF 11 (cpL 12 a) 0=rows at *
  have hf:Fits rows 2097152:=⟨by omega,hsm⟩
  have hu:0≤IntKind.wrap .u64 turn:=by rw[IntKind.wrap_u64];omega
  have ewl:IntKind.wrap .u64 (rows.length:Int)=(rows.length:Int):=by rw[IntKind.wrap_u64];omega
  obtain⟨k,hk⟩:∃k:Nat,IntKind.wrap .u64 turn % (rows.length:Int)=(k:Int):=⟨_,(Int.toNat_of_nonneg (Int.emod_nonneg _ (by omega))).symm⟩
  have k1:(k:Int) < (rows.length:Int):=by rw[←hk];exact Int.emod_lt_of_pos _ (by omega)
  have e3:remI .u64 (IntKind.wrap .u64 turn) (IntKind.wrap .u64 (rows.length:Int))=some (k:Int):=by
   rw[ewl]
   unfold remI
   rw[if_neg (by omega),Int.tmod_eq_emod_of_nonneg hu,hk]
  have e5:IntKind.wrap .i64 (k:Int)=(k:Int):=wr (by omega) (by omega)
  obtain⟨m,hm⟩:∃m:Nat,how % 5=(m:Int):=⟨_,(Int.toNat_of_nonneg (Int.emod_nonneg _ (by omega))).symm⟩
  have m1:(m:Int) < 5:=by rw[←hm];exact Int.emod_lt_of_pos _ (by omega)
  have e4:remI .u8 how 5=some (m:Int):=by
   unfold remI
   rw[if_neg (by omega),Int.tmod_eq_emod_of_nonneg hhow.1,hm]
  have e6:IntKind.wrap .i64 ((rows.length:Int)-1)=((rows.length-1:Nat):Int):=by rw[wr (by omega) (by omega)];omega
  obtain⟨row,hrow⟩:∃row,rows[k]?=some row:=⟨_,List.getElem?_eq_getElem (by omega)⟩
  have hrl:=(hf.2 row (List.mem_of_getElem? hrow)).1
  let c28:Int→GCode:=fun x=>.mk 28 [] [] (.mk 0 0 ByteArray.empty [] []) (.mk 0 [] []) [x] [] []
  let c0:GCode:=.mk 0 [] [] (.mk 0 0 ByteArray.empty [] []) (.mk 0 [] []) [] [] []
  have w28:∀x,(c28 x).t.wt≤100:=fun x=>(by decide:(c28 0).t.wt≤100)
  have w0:c0.t.wt≤100:=by decide
  have b0:=zfa (rows:=rows++[[]]) ⟨by simp;omega,fun r hr=>by
   rcases List.mem_append.1 hr with hr | hr
   ·obtain⟨a,b⟩:=hf.2 r hr
    exact⟨by omega,fun c hc=>by have:=b c hc;omega⟩
   ·cases List.mem_singleton.1 hr
    exact⟨Nat.zero_le _,fun c hc=>by cases hc⟩⟩ (by rw[zfr];simp[wR,wts];unfold wR at hwr;omega) (fun h=>by
    have e0:nmL [([]:List GCode)]=0:=rfl
    have e9:[([]:List GCode)].length=1:=rfl
    rw[zeC,e0,List.length_append,e9]at h
    omega)
  have b1:=zfa (rows:=rows.take (rows.length-1)) ⟨by simp;omega,fun r hr=>by
   obtain⟨a,b⟩:=hf.2 r (List.mem_of_mem_take hr)
   exact⟨by omega,fun c hc=>by have:=b c hc;omega⟩⟩ (by
    have:wR rows=wR (rows.take (rows.length-1))+wR (rows.drop (rows.length-1)):=by rw[←zfr,List.take_append_drop]
    omega) (fun h=>by
    have h1:nmL rows=nmL (rows.take (rows.length-1))+nmL (rows.drop (rows.length-1)):=by rw[←zeC,List.take_append_drop]
    obtain⟨last,hlast⟩:∃r,rows[rows.length-1]?=some r:=⟨_,List.getElem?_eq_getElem (by omega)⟩
    have h2:rows.drop (rows.length-1)=[last]:=by
     have hh:rows.length-1 < rows.length:=by omega
     rw[List.drop_eq_getElem_cons hh,List.drop_of_length_le (by omega)]
     rw[List.getElem?_eq_getElem hh]at hlast
     cases hlast
     rfl
    have h3:zdU last=[]:=by
     cases hn:zdU last with
     | nil=>rfl
     | cons y ys=>
      have:=hnb (rows.length-1) last hlast y (by rw[hn];exact List.mem_cons_self ..)
      omega
    have h4:nmL [last]=0:=by rw[ziW,h3];rfl
    rw[h2,h4]at h1
    simp at h
    omega)
  have b2:=zfa (rows:=rows.set k (row++[c28 ((rows.length-1:Nat):Int)])) (ziX hf hrow (by simp[c28,cKids]) (by simp[c28,cBy])) (by rw[zl0 hrow];have:=w28 ((rows.length-1:Nat):Int);omega) (fun h=>by
   rw[znY hrow,List.length_set]at h
   have:(kids (c28 ((rows.length-1:Nat):Int))).length=1:=rfl
   omega)
  have b3:=zfa (rows:=rows.set k (row++[c28 (k:Int)])) (ziX hf hrow (by simp[c28,cKids]) (by simp[c28,cBy])) (by rw[zl0 hrow];have:=w28 (k:Int);omega) (fun h=>by
   rw[znY hrow,List.length_set]at h
   have:(kids (c28 (k:Int))).length=1:=rfl
   omega)
  have b4:=zfa (rows:=rows.set k (row++[c0])) (ziX hf hrow (by simp[c0,cKids]) (by simp[c0,cBy])) (by rw[zl0 hrow];omega) (fun h hok=>by
   have h1:=hok (row++[c0]) (List.mem_of_getElem? (i:=k) (by rw[List.getElem?_set,if_pos rfl,if_pos (by omega)])) c0 (List.mem_append_right _ (List.mem_singleton.2 rfl))
   simp only[c0,gOp]at h1
   omega)
  refine Ev.out (Ev.step ((e1.and (zjA.and e2)).and ((b0.and b1).and (b2.and (b3.and b4))) |>.mono fun n hh=> ?_))
  obtain⟨⟨e1,hkn,e2⟩,⟨b0,b1⟩,b2,b3,b4⟩:=hh
  have j2:∀r,((tab n).za6 (.mk r)=some ([],2)∧(tab n).zbt (.mk r)=some 2)→zaA (tab n) n (.mk r)=some true:=fun r hr=>by
   rw[zaA,hr.1,hr.2]
   dsimp only
   rw[if_pos (by simp),if_pos (by simp),if_pos (by simp),hkn]
  have j1:zb8 (tab n) n turn how (.mk rows)=some true:=by
   rw[zb8,e3]
   dsimp only
   rw[e4]
   dsimp only
   rw[e5,e6]
   by_cases q0:m=0
   ·subst q0
    rw[if_pos (by simp),if_pos (by simp;omega)]
    exact j2 _ b0
   rw[if_neg (by simp;omega)]
   by_cases q1:m=1
   ·subst q1
    rw[if_pos (by simp),if_pos (by simp),Int.toNat_natCast,Int.toNat_zero,List.drop_zero]
    exact j2 _ b1
   rw[if_neg (by simp;omega),Int.toNat_natCast,hrow]
   dsimp only
   by_cases q2:m=2
   ·subst q2
    rw[if_pos (by simp),if_pos (by simp),if_pos (by simp;omega)]
    exact j2 _ b2
   rw[if_neg (by simp;omega)]
   by_cases q3:m=3
   ·subst q3
    rw[if_pos (by simp),if_pos (by simp),if_pos (by simp;omega)]
    exact j2 _ b3
   rw[if_neg (by simp;omega),if_pos (by simp),if_pos (by simp;omega)]
   exact j2 _ b4
  rw[zez,zbe,e1]
  dsimp only
  by_cases hr1:r1=true
  ·rw[if_pos hr1];exact hkn
  rw[if_neg hr1]
  simp only[e2]
  rw[if_neg (by simp),if_neg (by rw[beq_iff_eq];omega),j1]
 ·rw[if_neg ho]at e2
  refine Ev.out (Ev.step ((e1.and (zjA.and e2)).mono fun n hh=> ?_))
  obtain⟨e1,hk,e2⟩:=hh
  rw[zez,zbe,e1]
  dsimp only
  by_cases hr1:r1=true
  ·rw[if_pos hr1];exact hk
  rw[if_neg hr1]
  simp only[e2]
  rw[if_pos (by simp)]
  exact hk
end Go.Proofs.YtgmidllbkjdnnaaDoor.W
