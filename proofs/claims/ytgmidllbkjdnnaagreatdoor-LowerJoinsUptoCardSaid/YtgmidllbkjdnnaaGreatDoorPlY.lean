/- The reference's Check and Free. -/
import Derived.Test.YtgmidllbkjdnnaaGreatDoorPlX
namespace Go.Proofs.YtgmidllbkjdnnaaGreatDoor.W
open Go.Proofs.YtgmidllbkjdnnaaGreatDoor.Flat
set_option linter.unusedVariables false
set_option linter.unusedSimpArgs false
def vSh:zm→Bool
 | .mk _ _ _ _ v _=>v
def pSh:zm→Bool
 | .mk _ _ _ _ _ p=>p
theorem flags:((List.range 52).all fun i=>(vSh (shL.getD i (.mk (.mk 0 0) (.mk 0 0) (.mk 0 0) (.mk 0 0) false false))==(i==15))&&(pSh (shL.getD i (.mk (.mk 0 0) (.mk 0 0) (.mk 0 0) (.mk 0 0) false false))==(i==18||i==22)))=true:=by kernel_rfl
theorem zpi {op:Int} (h:1≤op∧op≤51):vSh (shF op)=(op==15)∧pSh (shF op)=(op==18||op==22):=by
 have h1:=List.all_eq_true.1 flags op.toNat (List.mem_range.2 (by omega))
 rw[Bool.and_eq_true,beq_iff_eq,beq_iff_eq]at h1
 unfold shF
 rw[h1.1,h1.2]
 constructor
 ·rw[Bool.eq_iff_iff,beq_iff_eq,beq_iff_eq];omega
 ·rw[Bool.eq_iff_iff,Bool.or_eq_true,Bool.or_eq_true,beq_iff_eq,beq_iff_eq,beq_iff_eq,beq_iff_eq];omega
theorem zpV {R : List GStep → Bool} {x : GStep} {q : Bool}
  (hq:(q&&zdu (sOf x)&&zdu (asOf x))=(decide (1≤opOf x∧opOf x≤51)&&(zdy x (shF (opOf x))&& !((sOf x).any fun s=> !nameF s)&& !((asOf x).any fun s=> !nameF s)&&numF x&& !(opOf x==43&&(zbg (sOf x)||decide ((byOf x).length > (sOf x).length)))))):
  (q&&zdu (sOf x)&&zdu (asOf x)&&(((if (opOf x==15)then okV (vOf x)else(cmp (vOf x) zv==0))&&(if (opOf x==18||opOf x==22)then okP (pOf x)else ze0 (pOf x)))&&((tOf x).all R&&(byOf x).all (byF R (opOf x==40)))))=stepF R x:=by
 rw[hq]
 unfold stepF
 by_cases h:1≤opOf x∧opOf x≤51
 ·obtain⟨f1,f2⟩:=zpi h
  rw[decide_eq_true h]
  generalize shF (opOf x)=sh at f1 f2⊢
  obtain⟨a,b,c,d,v,p⟩:=sh
  simp only[vSh,pSh]at f1 f2
  subst f1 f2
  simp only[restF]
  generalize zdy x _=F
  generalize (!(sOf x).any fun s=> !nameF s)=A
  generalize (!(asOf x).any fun s=> !nameF s)=B
  generalize numF x=M
  generalize (!(opOf x==43&&(zbg (sOf x)||decide ((byOf x).length > (sOf x).length))))=W
  generalize (if (opOf x==15)=true then okV (vOf x)else cmp (vOf x) zv==0)=V
  generalize (if (opOf x==18||opOf x==22)=true then okP (pOf x)else ze0 (pOf x))=P
  generalize (tOf x).all R=T
  generalize (byOf x).all (byF R (opOf x==40))=Y
  cases F<;>cases A<;>cases B<;>cases M<;>cases W<;>cases V<;>cases P<;>rfl
 ·rw[decide_eq_false h]
  simp only[Bool.false_and]
theorem zpW {t : Tab} {n : Nat} {op : Int} {S As : List ByteArray} {N : List Int} {v1 v2 : Int} {v3 : ByteArray} {v4 v5 : List zh} {p1 : Int} {p2 : List zh} {p3 : List GPred} {Ts : List (List GStep)} {By : List GBy} (hr : 1 ≤ op ∧ op ≤ 51)
  (hN:t.zaU op=some (nmF op)) (hlow:t.zdc N=some (lowF N)) (honce:t.zdp S=some (!zbg S)) (hs:S.length≤2097152) (hn:N.length≤2097152) (ht:Ts.length≤2097152) (hb:By.length≤2097152):OwnEq op t n (.mk op S N (.mk v1 v2 v3 v4 v5) (.mk p1 p2 p3) Ts By As):=by
 have k:(op=1∨op=2)∨(op=3∨op=4∨op=5∨op=6∨op=7∨op=8∨op=14)∨(op=17∨op=39)∨(op=18∨op=19∨op=20∨op=49∨op=50)∨op=21∨op=25∨(op=28∨op=29∨op=47)∨(op=30∨op=31∨op=44∨op=45)∨op=46∨op=40∨op=41∨op=42∨op=43∨(op=9∨op=10∨op=11∨op=12∨op=13∨op=15∨op=16∨op=22∨op=23∨op=26∨op=27∨op=32∨op=33∨op=34∨op=35∨op=36∨op=37∨op=38∨op=51)∨op=24∨op=48:=by omega
 rcases k with h | h | h | h | h | h | h | h | h | h | h | h | h | h | h | h
 ·exact og0 hN hlow honce hs hn ht hb h
 ·exact og1 hN hlow honce hs hn ht hb h
 ·exact og2 hN hlow honce hs hn ht hb h
 ·exact og3 hN hlow honce hs hn ht hb h
 ·exact og4 hN hlow honce hs hn ht hb h
 ·exact og5 hN hlow honce hs hn ht hb h
 ·exact og6 hN hlow honce hs hn ht hb h
 ·exact og7 hN hlow honce hs hn ht hb h
 ·exact og8 hN hlow honce hs hn ht hb h
 ·exact og9 hN hlow honce hs hn ht hb h
 ·exact og10 hN hlow honce hs hn ht hb h
 ·exact og11 hN hlow honce hs hn ht hb h
 ·exact og12 hN hlow honce hs hn ht hb h
 ·exact og13 hN hlow honce hs hn ht hb h
 ·exact og14 hN hlow honce hs hn ht hb h
 ·exact og15 hN hlow honce hs hn ht hb h
theorem zqA {x:GStep} (hs:SIn x):Ev fun n=>∃q,(tab n).zai x=some q∧(q&&zdu (sOf x)&&zdu (asOf x))=(decide (1≤opOf x∧opOf x≤51)&&(zdy x (shF (opOf x))&& !((sOf x).any fun s=> !nameF s)&& !((asOf x).any fun s=> !nameF s)&&numF x&& !(opOf x==43&&(zbg (sOf x)||decide ((byOf x).length > (sOf x).length))))):=by
 by_cases h:1≤opOf x∧opOf x≤51
 ·rw[decide_eq_true h]
  cases hs with
  | @mk op S N V P Ts By As lS lN lA sS sA iV iP lT lB tl bl aT aB=>
   obtain⟨v1,v2,v3,v4,v5⟩:=V
   obtain⟨p1,p2,p3⟩:=P
   refine Ev.step (((zkm op).and ((zqx lN).and (zpU lS))).mono fun n hh=> ?_)
   obtain⟨h1,h2,h3⟩:=hh
   rw[zhl]
   obtain⟨q,k1,k2⟩:=zpW (n:=n) (op:=op) (v1:=v1) (v2:=v2) (v3:=v3) (v4:=v4) (v5:=v5) (p1:=p1) (p2:=p2) (p3:=p3) (As:=As) h h1 h2 h3 lS lN lT lB
   exact⟨q,k1,k2.trans (Bool.true_and _).symm⟩
 ·rw[decide_eq_false h]
  refine Ev.step ((zkm (opOf x)).mono fun n hh=>⟨false, ?_,by simp only[Bool.false_and]⟩)
  obtain⟨op,S,N,⟨v1,v2,v3,v4,v5⟩,⟨p1,p2,p3⟩,Ts,By,As⟩:=x
  have e:nmF op=ByteArray.mk #[]:=by unfold nmF;exact if_neg h
  have hh:(tab n).zaU op=some (nmF op):=hh
  rw[zhl,zai,hh,e]
  dsimp only
  rw[if_pos (by rw[beq_self_eq_true])]
theorem ifab {α:Type _} (a b:Bool) (x y:α):(if a=true then some (if b=true then x else y)else some y)=if (a&&b)=true then some x else some y:=by cases a<;>cases b<;>rfl
theorem zg6:∀(f:Nat),f≤11→∀l,wL l≤2097152→Ev fun n=>(tab n).zaT l (12-(f:Int))=some (zb1 f l)
 | 0,hf,l,h=>Ev.step (Ev.pure fun n=>by rw[zgy];simp[zaT,zb1])
 | f+1,hf,l,h=>by
  have hin:=zfX h
  have hlen:=zfr l
  have e0:IntKind.wrap .i64 ((12-((f+1:Nat):Int))+1)=12-(f:Int):=by rw[wr (by omega) (by omega)];omega
  have H:Ev fun n=>∀x∈l,∃q c:Bool,(tab n).zai x=some q∧(tab n).zbB (sOf x)=some (zdu (sOf x))∧(tab n).zbB (asOf x)=some (zdu (asOf x))∧(∀(i:Int) (op:Int) S N v1 v2 v3 v4 v5 p1 p2 p3 Ts By As,x=.mk op S N (.mk v1 v2 v3 v4 v5) (.mk p1 p2 p3) Ts By As→zbs (tab n) n l (12-((f+1:Nat):Int)) i op S N v1 v2 v3 v4 v5 p1 p2 p3 Ts By As=if c=true then some (.inr (l,12-((f+1:Nat):Int),i))else some (.inl false))∧(q&&zdu (sOf x)&&zdu (asOf x)&&c)=stepF (zb1 f) x:=Ev.all _ fun x hx=>by
   have hs:=hin x hx
   have hw:=zg3 hx
   have gs:SIn x→((sOf x).length≤2097152∧(asOf x).length≤2097152∧(∀s∈sOf x,s.size≤2097152)∧(∀s∈asOf x,s.size≤2097152)∧VIn (vOf x)∧PIn (pOf x)∧(∀b∈byOf x,(bKey b).size≤2097152)∧(tOf x).length≤2097152∧(byOf x).length≤2097152):=fun h=>by
    cases h with
    | @mk op S N V P Ts By As lS lN lA sS sA iV iP lT lB tl bl aT aB=>exact⟨lS,lA,sS,sA,iV,iP,fun b hb=>(bl b hb).2,lT,lB⟩
   obtain⟨q1,q2,q3,q4,q5,q6,q7,q8,q9⟩:=gs hs
   have hx2:∀u∈tOf x,wL u < x.t.wt:=fun u hu=>zg2 (List.mem_append_left _ hu)
   have g12:Ev fun n=>∀u∈tOf x,(tab n).zaT u (IntKind.wrap .i64 ((12-((f+1:Nat):Int))+1))=some (zb1 f u):=Ev.all _ fun u hu=>by
    rw[e0]
    exact zg6 f (by omega) u (by have:=hx2 u hu;omega)
   have g13:Ev fun n=>∀u∈byOf x,(tab n).zeb u (opOf x==40) (12-((f+1:Nat):Int))=some (byF (zb1 f) (opOf x==40) u):=Ev.all _ fun b hb=>by
    have hbw:wL (bT b)≤2097152:=by
     have hb0:wL (bT b) < x.t.wt∨(bT b).length=0:=by
      by_cases h0:(bT b).length=0
      ·exact .inr h0
      ·exact .inl (zg2 (List.mem_append_right _ (List.mem_map.2 ⟨b,List.mem_filter.2 ⟨hb,by simp[innB];right;omega⟩,rfl⟩)))
     rcases hb0 with h0 | h0
     ·omega
     ·have:bT b=[]:=List.eq_nil_of_length_eq_zero h0
      rw[this]
      simp[wL,wts]
    refine Ev.step (((zmw (s:=bKey b) (by have:=q7 b hb;omega)).and (zg6 f (by omega) (bT b) hbw)).mono fun n hh=> ?_)
    rw[zlr]
    exact zqy hh.1 (by rw[e0];exact hh.2)
   have g8:Ev fun n=>(tab n).zcD (vOf x) (.mk 0 0 ByteArray.empty [] [])=some (cmp (vOf x) zv==0):=zm9 q5 (VIn.mk (by simp) (by simp) (by simp) (fun x hx=>by cases hx) (fun x hx=>by cases hx))
   refine((((zqA hs).and ((zmx q3 q1).and (zmx q4 q2))).and ((ziT q5).and (zlv q6))).and ((g8.and (zot (pOf x))).and ((g12.and g13).and ((zkm (opOf x)).and (Ev.ge ((tOf x).length+(byOf x).length+1)))))).mono fun n hh=> ?_
   obtain⟨⟨⟨⟨q,o1,o2⟩,n1,n2⟩,c1,c2⟩,⟨s1,s2⟩,⟨r1,r2⟩,nm,hn⟩:=hh
   refine⟨q,(((if (opOf x==15)then okV (vOf x)else(cmp (vOf x) zv==0))&&(if (opOf x==18||opOf x==22)then okP (pOf x)else ze0 (pOf x)))&&((tOf x).all (zb1 f)&&(byOf x).all (byF (zb1 f) (opOf x==40)))),o1,n1,n2, ?_,zpV o2⟩
   rintro i op S N v1 v2 v3 v4 v5 p1 p2 p3 Ts By As rfl
   simp only[opOf,sOf,nOf,vOf,pOf,tOf,byOf,asOf]at *
   rw[zqR nm c1 c2 s1 s2 (zqQ nm r1 (by omega) r2 (by omega) (by omega))]
   exact ifab _ _ _ _
  refine Ev.step ((H.and (Ev.ge (l.length+1))).mono fun n hh=> ?_)
  rw[zgy,zaT,if_neg (by simp;omega),zb1]
  rcases zqc (R:=zb1 f) hh.1 (by omega) l.length 0 n (by omega) (by omega)with ⟨g,⟨z1,z2⟩,k⟩ | ⟨g,k⟩
  ·rw[show((0:Nat):Int)=0 from rfl]at k
   rw[List.drop_zero]at g
   rw[k,g]
  ·rw[show((0:Nat):Int)=0 from rfl]at k
   rw[List.drop_zero]at g
   rw[k,g]
theorem zh9 {l:List GStep} (h:wL l≤2097152):Ev fun n=>(tab n).zdk l=some (if okL2 l then 0 else 2):=by
 refine Ev.step (((zg5 h).and (zg6 11 (by omega) l h)).mono fun n hh=> ?_)
 obtain⟨h1,h2⟩:=hh
 have h2:(tab n).zaT l 1=some (zb1 11 l):=h2
 rw[ziX]
 simp only[zdk,h1,h2,okL2,zgu]
 by_cases hc:cntN 12 l≤400
 ·rw[if_neg (by simp;omega)]
  by_cases hr:zb1 11 l=true
  ·simp[hr,hc]
  ·simp[hr,hc]
 ·rw[if_pos (by simp;omega)]
  simp[hc]
end Go.Proofs.YtgmidllbkjdnnaaGreatDoor.W
