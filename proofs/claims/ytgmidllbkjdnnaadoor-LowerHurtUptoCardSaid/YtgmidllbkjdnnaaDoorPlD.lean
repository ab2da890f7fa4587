/- May a step be? -/
import Derived.Test.YtgmidllbkjdnnaaDoorPlC
namespace Go.Proofs.YtgmidllbkjdnnaaDoor.W
open Go.Proofs.YtgmidllbkjdnnaaDoor.Flat
set_option linter.unusedVariables false
set_option linter.unusedSimpArgs false
def shL:List zm:=[(zm.mk (GT105.mk 0 0) (GT105.mk 0 0) (GT105.mk 0 0) (GT105.mk 0 0) false false),(zm.mk (GT105.mk 0 0) (GT105.mk 0 50) (GT105.mk 0 0) (GT105.mk 0 0) false false),(zm.mk (GT105.mk 0 0) (GT105.mk 0 50) (GT105.mk 0 0) (GT105.mk 0 0) false false),(zm.mk (GT105.mk 0 50) (GT105.mk 0 0) (GT105.mk 0 0) (GT105.mk 0 0) false false),(zm.mk (GT105.mk 0 50) (GT105.mk 0 0) (GT105.mk 0 0) (GT105.mk 0 0) false false),(zm.mk (GT105.mk 0 50) (GT105.mk 0 0) (GT105.mk 0 0) (GT105.mk 0 0) false false),(zm.mk (GT105.mk 0 50) (GT105.mk 0 0) (GT105.mk 0 0) (GT105.mk 0 0) false false),(zm.mk (GT105.mk 0 50) (GT105.mk 0 0) (GT105.mk 0 0) (GT105.mk 0 0) false false),(zm.mk (GT105.mk 0 50) (GT105.mk 0 0) (GT105.mk 0 0) (GT105.mk 0 0) false false),(zm.mk (GT105.mk 0 0) (GT105.mk 0 0) (GT105.mk 0 0) (GT105.mk 0 0) false false),(zm.mk (GT105.mk 0 0) (GT105.mk 0 0) (GT105.mk 0 0) (GT105.mk 0 0) false false),(zm.mk (GT105.mk 0 0) (GT105.mk 0 0) (GT105.mk 0 0) (GT105.mk 0 0) false false),(zm.mk (GT105.mk 0 0) (GT105.mk 0 0) (GT105.mk 0 0) (GT105.mk 0 0) false false),(zm.mk (GT105.mk 0 0) (GT105.mk 0 0) (GT105.mk 0 0) (GT105.mk 0 0) false false),(zm.mk (GT105.mk 0 50) (GT105.mk 0 0) (GT105.mk 0 0) (GT105.mk 0 0) false false),(zm.mk (GT105.mk 0 0) (GT105.mk 0 0) (GT105.mk 0 0) (GT105.mk 0 0) true false),(zm.mk (GT105.mk 0 0) (GT105.mk 0 0) (GT105.mk 0 0) (GT105.mk 0 0) false false),(zm.mk (GT105.mk 1 50) (GT105.mk 0 0) (GT105.mk 0 0) (GT105.mk 0 0) false false),(zm.mk (GT105.mk 1 1) (GT105.mk 0 0) (GT105.mk 0 0) (GT105.mk 0 0) false true),(zm.mk (GT105.mk 1 1) (GT105.mk 0 0) (GT105.mk 0 0) (GT105.mk 0 0) false false),(zm.mk (GT105.mk 1 1) (GT105.mk 0 0) (GT105.mk 0 0) (GT105.mk 0 0) false false),(zm.mk (GT105.mk 0 0) (GT105.mk 1 50) (GT105.mk 0 0) (GT105.mk 0 0) false false),(zm.mk (GT105.mk 0 0) (GT105.mk 0 0) (GT105.mk 0 0) (GT105.mk 0 0) false true),(zm.mk (GT105.mk 0 0) (GT105.mk 0 0) (GT105.mk 0 0) (GT105.mk 0 0) false false),(zm.mk (GT105.mk 0 0) (GT105.mk 2 2) (GT105.mk 0 0) (GT105.mk 0 0) false false),(zm.mk (GT105.mk 0 0) (GT105.mk 1 1) (GT105.mk 0 0) (GT105.mk 0 0) false false),(zm.mk (GT105.mk 0 0) (GT105.mk 0 0) (GT105.mk 0 0) (GT105.mk 0 0) false false),(zm.mk (GT105.mk 0 0) (GT105.mk 0 0) (GT105.mk 0 0) (GT105.mk 0 0) false false),(zm.mk (GT105.mk 0 0) (GT105.mk 0 0) (GT105.mk 1 1) (GT105.mk 0 0) false false),(zm.mk (GT105.mk 0 0) (GT105.mk 0 0) (GT105.mk 1 1) (GT105.mk 0 0) false false),(zm.mk (GT105.mk 0 0) (GT105.mk 0 0) (GT105.mk 1 50) (GT105.mk 0 0) false false),(zm.mk (GT105.mk 0 0) (GT105.mk 0 0) (GT105.mk 1 50) (GT105.mk 0 0) false false),(zm.mk (GT105.mk 0 0) (GT105.mk 0 0) (GT105.mk 0 0) (GT105.mk 0 0) false false),(zm.mk (GT105.mk 0 0) (GT105.mk 0 0) (GT105.mk 0 0) (GT105.mk 0 0) false false),(zm.mk (GT105.mk 0 0) (GT105.mk 0 0) (GT105.mk 0 0) (GT105.mk 0 0) false false),(zm.mk (GT105.mk 0 0) (GT105.mk 0 0) (GT105.mk 0 0) (GT105.mk 0 0) false false),(zm.mk (GT105.mk 0 0) (GT105.mk 0 0) (GT105.mk 0 0) (GT105.mk 0 0) false false),(zm.mk (GT105.mk 0 0) (GT105.mk 0 0) (GT105.mk 0 0) (GT105.mk 0 0) false false),(zm.mk (GT105.mk 0 0) (GT105.mk 0 0) (GT105.mk 0 0) (GT105.mk 0 0) false false),(zm.mk (GT105.mk 1 50) (GT105.mk 0 0) (GT105.mk 0 0) (GT105.mk 0 0) false false),(zm.mk (GT105.mk 0 0) (GT105.mk 0 0) (GT105.mk 0 0) (GT105.mk 0 50) false false),(zm.mk (GT105.mk 0 0) (GT105.mk 0 0) (GT105.mk 0 0) (GT105.mk 0 2) false false),(zm.mk (GT105.mk 0 0) (GT105.mk 0 0) (GT105.mk 0 0) (GT105.mk 0 1) false false),(zm.mk (GT105.mk 1 50) (GT105.mk 0 0) (GT105.mk 0 0) (GT105.mk 0 50) false false),(zm.mk (GT105.mk 0 0) (GT105.mk 0 0) (GT105.mk 1 50) (GT105.mk 0 0) false false),(zm.mk (GT105.mk 0 0) (GT105.mk 0 0) (GT105.mk 1 50) (GT105.mk 0 0) false false),(zm.mk (GT105.mk 0 0) (GT105.mk 0 0) (GT105.mk 3 3) (GT105.mk 0 0) false false),(zm.mk (GT105.mk 0 0) (GT105.mk 0 0) (GT105.mk 1 1) (GT105.mk 0 0) false false),(zm.mk (GT105.mk 0 0) (GT105.mk 2 2) (GT105.mk 1 2) (GT105.mk 0 0) false false),(zm.mk (GT105.mk 1 1) (GT105.mk 0 0) (GT105.mk 0 0) (GT105.mk 0 0) false false),(zm.mk (GT105.mk 1 1) (GT105.mk 0 0) (GT105.mk 0 0) (GT105.mk 0 0) false false),(zm.mk (GT105.mk 0 0) (GT105.mk 0 0) (GT105.mk 0 0) (GT105.mk 0 0) false false)]
def inR (a:Int):GT105→Bool
 | .mk l h=>decide (l≤a)&&decide (a≤h)
theorem zoW (t:Tab) (n:Nat) (a:Int) (r:GT105):zc9 t n a r=some (inR a r):=by
 cases r with
 | mk l h=>
  simp only[zc9,inR]
  by_cases h1:l≤a
  ·rw[if_pos (by simpa using h1)]
   simp[h1]
  ·rw[if_neg (by simpa using h1)]
   simp[h1]
def signF (a:Int) (first:Bool):Bool:=(decide (97≤a)&&decide (a≤122))||(decide (65≤a)&&decide (a≤90))||a==95||(decide (48≤a)&&decide (a≤57)&& !first)
theorem znD (t:Tab) (n:Nat) (a:Int) (b:Bool):zcz t n a b=some (signF a b):=by
 simp only[zcz,signF]
 by_cases h1:97≤a
 ·rw[if_pos (by simpa using h1)]
  by_cases h2:a≤122
  ·simp[h1,h2,zaJ,zaK]
  ·have h3:¬a≤90:=by omega
   have h4:¬a≤57:=by omega
   have h5:¬a=95:=by omega
   have h6:a≥65:=by omega
   have h7:a≥48:=by omega
   simp[h1,h2,h3,h4,h5,h6,h7,zaJ,zaK]
 ·rw[if_neg (by simpa using h1)]
  by_cases h2:65≤a
  ·by_cases h3:a≤90
   ·simp[h1,h2,h3,zaJ,zaK]
   ·by_cases h4:a=95
    ·subst h4;simp[zaJ,zaK]
    ·have h5:¬a≤57:=by omega
     have h7:a≥48:=by omega
     simp[h1,h2,h3,h4,h5,h7,zaJ,zaK]
  ·have h4:¬a=95:=by omega
   by_cases h5:48≤a
   ·by_cases h6:a≤57
    ·cases b<;>simp[h1,h2,h4,h5,h6,zaJ,zaK]
    ·cases b<;>simp[h1,h2,h4,h5,h6,zaJ,zaK]
   ·cases b<;>simp[h1,h2,h4,h5,zaJ,zaK]
def zhc (s:ByteArray) (j:Nat):Int:=((s.data.toList.getD j 0).toNat:Int)
def nameF (s:ByteArray):Bool:=allN (fun j=>signF (zhc s j) (j==0)) s.size 0&& !(s.size==0)&&decide (s.size≤40)
theorem byte_at {s:ByteArray} {i:Nat} (h:i < s.size):strAt s (i:Int)=some (zhc s i):=by
 rw[zmX]
 have h2:i < s.data.toList.length:=by simpa using h
 unfold zhc
 rw[List.getElem?_eq_getElem h2,List.getD_eq_getElem?_getD,List.getElem?_eq_getElem h2]
 rfl
theorem zmi {t:Tab} {n:Nat} {s:ByteArray} (hg:∀a b,t.zcz a b=some (signF a b)) (hl:s.size≤140737488355328):∀(d i K:Nat),i+d=s.size→d < K→(allN (fun j=>signF (zhc s j) (j==0)) d i=true∧∃z,zbH t n K s (s.size:Int) (i:Int)=some (.inr (s,z)))∨(allN (fun j=>signF (zhc s j) (j==0)) d i=false∧zbH t n K s (s.size:Int) (i:Int)=some (.inl false))
 | 0,i,K,hi,hk=>by
  obtain⟨K,rfl⟩:∃j,K=j+1:=⟨K-1,by omega⟩
  exact .inl ⟨rfl,_,by rw[zbH,if_neg (by simp;omega)]⟩
 | d+1,i,K,hi,hk=>by
  obtain⟨K,rfl⟩:∃j,K=j+1:=⟨K-1,by omega⟩
  have ih:=zmi (n:=n) hg hl d (i+1) K (by omega) (by omega)
  have e0:((i:Int)==0)=(i==0):=nb0 i
  rw[zbH,if_pos (by simp;omega),byte_at (by omega),allN]
  simp only[hg,e0]
  rw[wr1 (i:=i) (L:=s.size) (by omega) hl]
  generalize signF (zhc s i) (i==0)=q
  cases q
  ·rw[if_neg (by simp),Bool.false_and]
   exact .inr ⟨rfl,rfl⟩
  ·rw[if_pos rfl,Bool.true_and]
   exact ih
theorem zk6 {s:ByteArray} (hl:s.size≤140737488355328):Ev fun n=>(tab n).zcq s=some (nameF s):=by
 refine Ev.step (Ev.step ((Ev.ge (s.size+1)).mono fun n hn=> ?_))
 rw[ziF]
 have hg:∀a b,(tab (n+1)).zcz a b=some (signF a b):=fun a b=>by rw[ziG,znD]
 rcases zmi (n:=n+1) hg hl s.size 0 (n+1) (by omega) (by omega)with ⟨h,z,g⟩ | ⟨h,g⟩
 ·rw[show((0:Nat):Int)=0 from rfl]at g
  obtain⟨z1,z2,z3⟩:=z
  have e1:(decide ((s.size:Int)≤40))=decide (s.size≤40):=by rw[Bool.eq_iff_iff,decide_eq_true_eq,decide_eq_true_eq];omega
  simp only[zcq,g,zdr,zj8,nameF,h,e1]
  by_cases h0:s.size=0<;>simp[h0]
 ·rw[show((0:Nat):Int)=0 from rfl]at g
  simp only[zcq,g,nameF,h,Bool.false_and]
theorem ziM {l:List ByteArray} (hs:∀s∈l,s.size≤2097152) (hl:l.length≤2097152):Ev fun n=>(tab n).zz l=some (l.any fun s=> !nameF s):=
 zi8 (fun s h=>Ev.step ((zk6 (s:=s) (by have:=hs s h;omega)).mono fun n hn=>by rw[zhE,zcl,hn])) (by omega)
def numF (x:GStep):Bool:=
 if opOf x=24 then decide (0≤(nOf x).getD 0 0)&&((nOf x).getD 1 0==-1||decide ((nOf x).getD 0 0≤(nOf x).getD 1 0))
 else if opOf x=48 then decide (-1≤(nOf x).getD 0 0)&&decide (0≤(nOf x).getD 1 0)&&decide ((nOf x).getD 1 0≤1)&&((tOf x).length==2||decide (0≤(nOf x).getD 0 0))
 else if opOf x=1∨opOf x=2∨opOf x=25 then !((nOf x).any fun y=>decide (y < 0))
 else true
theorem zlW {x:GStep} (h:SIn x) (h2:opOf x=24∨opOf x=48→(nOf x).length=2):Ev fun n=>(tab n).zbn x=some (numF x):=by
 cases h with
 | @mk op S N V P Ts By As hS hN hA sS sA hV hP hT hB tl bl aT aB=>
  have e:Ev fun n=>(tab n).zH N=some (N.any fun y=>decide (y < 0)):=zha (fun y hy=>Ev.step (Ev.pure fun n=>by rw[zgj,zba])) (by omega)
  refine Ev.step (e.mono fun n hn=> ?_)
  rw[zg7]
  obtain⟨v1,v2,v3,v4,v5⟩:=V
  obtain⟨p1,p2,p3⟩:=P
  simp only[zbn,numF,opOf,nOf,tOf]at h2⊢
  by_cases c1:op=24
  ·have h2:=h2 (.inl c1)
   obtain⟨a,b,rfl⟩:∃a b,N=[a,b]:=by
    match N,h2 with
    | [a,b],_=>exact⟨a,b,rfl⟩
   subst c1
   by_cases q1:0≤a
   ·by_cases q2:b=-1
    ·simp[q1,q2]
    ·simp[q1,q2]
   ·simp[q1]
  ·rw[if_neg (by simpa using c1)]
   simp only[c1,if_false]
   by_cases c2:op=48
   ·have h2:=h2 (.inr c2)
    obtain⟨a,b,rfl⟩:∃a b,N=[a,b]:=by
     match N,h2 with
     | [a,b],_=>exact⟨a,b,rfl⟩
    subst c2
    have e2:((Ts.length:Int)==2)=(Ts.length==2):=nbb Ts.length 2
    by_cases q1:-1≤a
    ·by_cases q2:0≤b
     ·by_cases q3:b≤1
      ·by_cases q4:Ts.length=2
       ·simp[q1,q2,q3,q4]
       ·have q5:(Ts.length==2)=false:=by simpa using q4
        simp[q1,q2,q3,e2,q5]
      ·simp[q1,q2,q3]
     ·simp[q1,q2]
    ·simp[q1]
   ·rw[if_neg (by simpa using c2)]
    simp only[c2,if_false]
    by_cases c3:op=1
    ·subst c3
     simp[zao,hn]
    ·rw[if_neg (by simpa using c3)]
     by_cases c4:op=2
     ·subst c4
      simp[zao,hn]
     ·rw[if_neg (by simpa using c4)]
      by_cases c5:op=21
      ·subst c5
       simp[zao]
      ·rw[if_neg (by simpa using c5)]
       by_cases c6:op=25
       ·subst c6
        simp[zao,hn]
       ·have c6':(op==25)=false:=by simpa using c6
        simp[zao,c3,c4,c6,c6']
def zem (l:List ByteArray):Bool:= !allN (fun j=> !((l.take j).any fun y=>(l.getD j ByteArray.empty).toList==y.toList)) l.length 0
theorem zmj {t:Tab} {n:Nat} {l:List ByteArray} (H:∀j,j < l.length→t.slices_Contains_string (l.take j) (l.getD j ByteArray.empty)=some ((l.take j).any fun y=>(l.getD j ByteArray.empty).toList==y.toList)) (hl:l.length≤2097152):∀(d i K:Nat),i+d=l.length→d < K→(allN (fun j=> !((l.take j).any fun y=>(l.getD j ByteArray.empty).toList==y.toList)) d i=true∧∃z,zbG t n K l l (l.length:Int) (i:Int)=some (.inr z))∨(allN (fun j=> !((l.take j).any fun y=>(l.getD j ByteArray.empty).toList==y.toList)) d i=false∧zbG t n K l l (l.length:Int) (i:Int)=some (.inl true))
 | 0,i,K,hi,hk=>by
  obtain⟨K,rfl⟩:∃j,K=j+1:=⟨K-1,by omega⟩
  exact .inl ⟨rfl,_,by rw[zbG,if_neg (by simp;omega)]⟩
 | d+1,i,K,hi,hk=>by
  obtain⟨K,rfl⟩:∃j,K=j+1:=⟨K-1,by omega⟩
  obtain⟨x,x1,x3,x2⟩:=at_ (l:=l) (i:=i) (by omega)
  have ih:=zmj (n:=n) H hl d (i+1) K (by omega) (by omega)
  have hx:=H i (by omega)
  have e0:l.getD i ByteArray.empty=x:=by rw[List.getD_eq_getElem?_getD,x1];rfl
  rw[allN]
  simp only[e0]at hx⊢
  rw[zbG,if_pos (by simp;omega),if_pos (by simp),Int.toNat_natCast,x1]
  dsimp only
  rw[if_pos (by simp;omega)]
  have e1:(l.take (i:Int).toNat).drop (0:Int).toNat=l.take i:=by simp
  simp only[Int.toNat_natCast,Int.toNat_zero,List.drop_zero,hx]
  rw[wr1 (i:=i) (L:=l.length) (by omega) (by omega)]
  generalize ((l.take i).any fun y=>x.toList==y.toList)=q
  cases q
  ·rw[if_neg (by simp)]
   simp only[Bool.not_false,Bool.true_and]
   exact ih
  ·rw[if_pos rfl]
   simp
theorem znE {l:List ByteArray} (hl:l.length≤2097152):Ev fun n=>(tab n).zbX l=some (zem l):=by
 have H:Ev fun n=>∀j∈List.range l.length,(tab n).slices_Contains_string (l.take j) (l.getD j ByteArray.empty)=some ((l.take j).any fun y=>(l.getD j ByteArray.empty).toList==y.toList):=
  Ev.all _ fun j _=>zgQ (by rw[List.length_take];omega)
 refine Ev.step ((H.and (Ev.ge (l.length+1))).mono fun n hh=> ?_)
 rw[ziD]
 rcases zmj (n:=n) (fun j hj=>hh.1 j (List.mem_range.2 hj)) hl l.length 0 n (by omega) (by omega)with ⟨h,z,g⟩ | ⟨h,g⟩
 ·rw[show((0:Nat):Int)=0 from rfl]at g
  obtain⟨z1,z2,z3,z4,z5⟩:=z
  simp only[zbX,g,zem,h]
  rfl
 ·rw[show((0:Nat):Int)=0 from rfl]at g
  simp only[zbX,g,zem,h]
  rfl
def zey:GPred→Bool
 | .mk k v p=>k==0&&v.length+p.length==0
theorem znF {t:Tab} {n:Nat} {p:GPred} (h:PIn p):zcd t n p=some (zey p):=by
 cases h with
 | @mk k v p hv hp av ap=>
  simp only[zcd,zey]
  have e1:IntKind.wrap .i64 ((v.length:Int)+(p.length:Int))=((v.length+p.length:Nat):Int):=by rw[wr (by omega) (by omega)];rfl
  rw[e1,nb0]
  cases (k==0)<;>simp
end Go.Proofs.YtgmidllbkjdnnaaDoor.W
