/- May a step be? -/
import Derived.Test.YtgmidllbkjdnnaaGreatDoorPlC
namespace Go.Proofs.YtgmidllbkjdnnaaGreatDoor.W
open Go.Proofs.YtgmidllbkjdnnaaGreatDoor.Flat
set_option linter.unusedVariables false
set_option linter.unusedSimpArgs false
def shL:List zm:=[(zm.mk (GT122.mk 0 0) (GT122.mk 0 0) (GT122.mk 0 0) (GT122.mk 0 0) false false),(zm.mk (GT122.mk 0 0) (GT122.mk 0 50) (GT122.mk 0 0) (GT122.mk 0 0) false false),(zm.mk (GT122.mk 0 0) (GT122.mk 0 50) (GT122.mk 0 0) (GT122.mk 0 0) false false),(zm.mk (GT122.mk 0 50) (GT122.mk 0 0) (GT122.mk 0 0) (GT122.mk 0 0) false false),(zm.mk (GT122.mk 0 50) (GT122.mk 0 0) (GT122.mk 0 0) (GT122.mk 0 0) false false),(zm.mk (GT122.mk 0 50) (GT122.mk 0 0) (GT122.mk 0 0) (GT122.mk 0 0) false false),(zm.mk (GT122.mk 0 50) (GT122.mk 0 0) (GT122.mk 0 0) (GT122.mk 0 0) false false),(zm.mk (GT122.mk 0 50) (GT122.mk 0 0) (GT122.mk 0 0) (GT122.mk 0 0) false false),(zm.mk (GT122.mk 0 50) (GT122.mk 0 0) (GT122.mk 0 0) (GT122.mk 0 0) false false),(zm.mk (GT122.mk 0 0) (GT122.mk 0 0) (GT122.mk 0 0) (GT122.mk 0 0) false false),(zm.mk (GT122.mk 0 0) (GT122.mk 0 0) (GT122.mk 0 0) (GT122.mk 0 0) false false),(zm.mk (GT122.mk 0 0) (GT122.mk 0 0) (GT122.mk 0 0) (GT122.mk 0 0) false false),(zm.mk (GT122.mk 0 0) (GT122.mk 0 0) (GT122.mk 0 0) (GT122.mk 0 0) false false),(zm.mk (GT122.mk 0 0) (GT122.mk 0 0) (GT122.mk 0 0) (GT122.mk 0 0) false false),(zm.mk (GT122.mk 0 50) (GT122.mk 0 0) (GT122.mk 0 0) (GT122.mk 0 0) false false),(zm.mk (GT122.mk 0 0) (GT122.mk 0 0) (GT122.mk 0 0) (GT122.mk 0 0) true false),(zm.mk (GT122.mk 0 0) (GT122.mk 0 0) (GT122.mk 0 0) (GT122.mk 0 0) false false),(zm.mk (GT122.mk 1 50) (GT122.mk 0 0) (GT122.mk 0 0) (GT122.mk 0 0) false false),(zm.mk (GT122.mk 1 1) (GT122.mk 0 0) (GT122.mk 0 0) (GT122.mk 0 0) false true),(zm.mk (GT122.mk 1 1) (GT122.mk 0 0) (GT122.mk 0 0) (GT122.mk 0 0) false false),(zm.mk (GT122.mk 1 1) (GT122.mk 0 0) (GT122.mk 0 0) (GT122.mk 0 0) false false),(zm.mk (GT122.mk 0 0) (GT122.mk 1 50) (GT122.mk 0 0) (GT122.mk 0 0) false false),(zm.mk (GT122.mk 0 0) (GT122.mk 0 0) (GT122.mk 0 0) (GT122.mk 0 0) false true),(zm.mk (GT122.mk 0 0) (GT122.mk 0 0) (GT122.mk 0 0) (GT122.mk 0 0) false false),(zm.mk (GT122.mk 0 0) (GT122.mk 2 2) (GT122.mk 0 0) (GT122.mk 0 0) false false),(zm.mk (GT122.mk 0 0) (GT122.mk 1 1) (GT122.mk 0 0) (GT122.mk 0 0) false false),(zm.mk (GT122.mk 0 0) (GT122.mk 0 0) (GT122.mk 0 0) (GT122.mk 0 0) false false),(zm.mk (GT122.mk 0 0) (GT122.mk 0 0) (GT122.mk 0 0) (GT122.mk 0 0) false false),(zm.mk (GT122.mk 0 0) (GT122.mk 0 0) (GT122.mk 1 1) (GT122.mk 0 0) false false),(zm.mk (GT122.mk 0 0) (GT122.mk 0 0) (GT122.mk 1 1) (GT122.mk 0 0) false false),(zm.mk (GT122.mk 0 0) (GT122.mk 0 0) (GT122.mk 1 50) (GT122.mk 0 0) false false),(zm.mk (GT122.mk 0 0) (GT122.mk 0 0) (GT122.mk 1 50) (GT122.mk 0 0) false false),(zm.mk (GT122.mk 0 0) (GT122.mk 0 0) (GT122.mk 0 0) (GT122.mk 0 0) false false),(zm.mk (GT122.mk 0 0) (GT122.mk 0 0) (GT122.mk 0 0) (GT122.mk 0 0) false false),(zm.mk (GT122.mk 0 0) (GT122.mk 0 0) (GT122.mk 0 0) (GT122.mk 0 0) false false),(zm.mk (GT122.mk 0 0) (GT122.mk 0 0) (GT122.mk 0 0) (GT122.mk 0 0) false false),(zm.mk (GT122.mk 0 0) (GT122.mk 0 0) (GT122.mk 0 0) (GT122.mk 0 0) false false),(zm.mk (GT122.mk 0 0) (GT122.mk 0 0) (GT122.mk 0 0) (GT122.mk 0 0) false false),(zm.mk (GT122.mk 0 0) (GT122.mk 0 0) (GT122.mk 0 0) (GT122.mk 0 0) false false),(zm.mk (GT122.mk 1 50) (GT122.mk 0 0) (GT122.mk 0 0) (GT122.mk 0 0) false false),(zm.mk (GT122.mk 0 0) (GT122.mk 0 0) (GT122.mk 0 0) (GT122.mk 0 50) false false),(zm.mk (GT122.mk 0 0) (GT122.mk 0 0) (GT122.mk 0 0) (GT122.mk 0 2) false false),(zm.mk (GT122.mk 0 0) (GT122.mk 0 0) (GT122.mk 0 0) (GT122.mk 0 1) false false),(zm.mk (GT122.mk 1 50) (GT122.mk 0 0) (GT122.mk 0 0) (GT122.mk 0 50) false false),(zm.mk (GT122.mk 0 0) (GT122.mk 0 0) (GT122.mk 1 50) (GT122.mk 0 0) false false),(zm.mk (GT122.mk 0 0) (GT122.mk 0 0) (GT122.mk 1 50) (GT122.mk 0 0) false false),(zm.mk (GT122.mk 0 0) (GT122.mk 0 0) (GT122.mk 3 3) (GT122.mk 0 0) false false),(zm.mk (GT122.mk 0 0) (GT122.mk 0 0) (GT122.mk 1 1) (GT122.mk 0 0) false false),(zm.mk (GT122.mk 0 0) (GT122.mk 2 2) (GT122.mk 1 2) (GT122.mk 0 0) false false),(zm.mk (GT122.mk 1 1) (GT122.mk 0 0) (GT122.mk 0 0) (GT122.mk 0 0) false false),(zm.mk (GT122.mk 1 1) (GT122.mk 0 0) (GT122.mk 0 0) (GT122.mk 0 0) false false),(zm.mk (GT122.mk 0 0) (GT122.mk 0 0) (GT122.mk 0 0) (GT122.mk 0 0) false false)]
def inR (a:Int):GT122→Bool
 | .mk l h=>decide (l≤a)&&decide (a≤h)
theorem zqK (t:Tab) (n:Nat) (a:Int) (r:GT122):zea t n a r=some (inR a r):=by
 cases r with
 | mk l h=>
  simp only[zea,inR]
  by_cases h1:l≤a
  ·rw[if_pos (by simpa using h1)]
   simp[h1]
  ·rw[if_neg (by simpa using h1)]
   simp[h1]
def signF (a:Int) (first:Bool):Bool:=(decide (97≤a)&&decide (a≤122))||(decide (65≤a)&&decide (a≤90))||a==95||(decide (48≤a)&&decide (a≤57)&& !first)
theorem zo5 (t:Tab) (n:Nat) (a:Int) (b:Bool):zdD t n a b=some (signF a b):=by
 simp only[zdD,signF]
 by_cases h1:97≤a
 ·rw[if_pos (by simpa using h1)]
  by_cases h2:a≤122
  ·simp[h1,h2,zaM,zaN]
  ·have h3:¬a≤90:=by omega
   have h4:¬a≤57:=by omega
   have h5:¬a=95:=by omega
   have h6:a≥65:=by omega
   have h7:a≥48:=by omega
   simp[h1,h2,h3,h4,h5,h6,h7,zaM,zaN]
 ·rw[if_neg (by simpa using h1)]
  by_cases h2:65≤a
  ·by_cases h3:a≤90
   ·simp[h1,h2,h3,zaM,zaN]
   ·by_cases h4:a=95
    ·subst h4;simp[zaM,zaN]
    ·have h5:¬a≤57:=by omega
     have h7:a≥48:=by omega
     simp[h1,h2,h3,h4,h5,h7,zaM,zaN]
  ·have h4:¬a=95:=by omega
   by_cases h5:48≤a
   ·by_cases h6:a≤57
    ·cases b<;>simp[h1,h2,h4,h5,h6,zaM,zaN]
    ·cases b<;>simp[h1,h2,h4,h5,h6,zaM,zaN]
   ·cases b<;>simp[h1,h2,h4,h5,zaM,zaN]
def zgr (s:ByteArray) (j:Nat):Int:=((s.data.toList.getD j 0).toNat:Int)
def nameF (s:ByteArray):Bool:=allN (fun j=>signF (zgr s j) (j==0)) s.size 0&& !(s.size==0)&&decide (s.size≤40)
theorem byte_at {s:ByteArray} {i:Nat} (h:i < s.size):strAt s (i:Int)=some (zgr s i):=by
 rw[zix]
 have h2:i < s.data.toList.length:=by simpa using h
 unfold zgr
 rw[List.getElem?_eq_getElem h2,List.getD_eq_getElem?_getD,List.getElem?_eq_getElem h2]
 rfl
theorem znB {t:Tab} {n:Nat} {s:ByteArray} (hg:∀a b,t.zdD a b=some (signF a b)) (hl:s.size≤140737488355328):∀(d i K:Nat),i+d=s.size→d < K→(allN (fun j=>signF (zgr s j) (j==0)) d i=true∧∃z,zcr t n K s (s.size:Int) (i:Int)=some (.inr (s,z)))∨(allN (fun j=>signF (zgr s j) (j==0)) d i=false∧zcr t n K s (s.size:Int) (i:Int)=some (.inl false))
 | 0,i,K,hi,hk=>by
  obtain⟨K,rfl⟩:∃j,K=j+1:=⟨K-1,by omega⟩
  exact .inl ⟨rfl,_,by rw[zcr,if_neg (by simp;omega)]⟩
 | d+1,i,K,hi,hk=>by
  obtain⟨K,rfl⟩:∃j,K=j+1:=⟨K-1,by omega⟩
  have ih:=znB (n:=n) hg hl d (i+1) K (by omega) (by omega)
  have e0:((i:Int)==0)=(i==0):=nb0 i
  rw[zcr,if_pos (by simp;omega),byte_at (by omega),allN]
  simp only[hg,e0]
  rw[wr1 (i:=i) (L:=s.size) (by omega) hl]
  generalize signF (zgr s i) (i==0)=q
  cases q
  ·rw[if_neg (by simp),Bool.false_and]
   exact .inr ⟨rfl,rfl⟩
  ·rw[if_pos rfl,Bool.true_and]
   exact ih
theorem zms {s:ByteArray} (hl:s.size≤140737488355328):Ev fun n=>(tab n).zdt s=some (nameF s):=by
 refine Ev.step (Ev.step ((Ev.ge (s.size+1)).mono fun n hn=> ?_))
 rw[zj7]
 have hg:∀a b,(tab (n+1)).zdD a b=some (signF a b):=fun a b=>by rw[zj8,zo5]
 rcases znB (n:=n+1) hg hl s.size 0 (n+1) (by omega) (by omega)with ⟨h,z,g⟩ | ⟨h,g⟩
 ·rw[show((0:Nat):Int)=0 from rfl]at g
  obtain⟨z1,z2,z3⟩:=z
  have e1:(decide ((s.size:Int)≤40))=decide (s.size≤40):=by rw[Bool.eq_iff_iff,decide_eq_true_eq,decide_eq_true_eq];omega
  simp only[zdt,g,zez,ziy,nameF,h,e1]
  by_cases h0:s.size=0<;>simp[h0]
 ·rw[show((0:Nat):Int)=0 from rfl]at g
  simp only[zdt,g,nameF,h,Bool.false_and]
theorem zkg {l:List ByteArray} (hs:∀s∈l,s.size≤2097152) (hl:l.length≤2097152):Ev fun n=>(tab n).zB l=some (l.any fun s=> !nameF s):=
 zkB (fun s h=>Ev.step ((zms (s:=s) (by have:=hs s h;omega)).mono fun n hn=>by rw[zi7,zdm,hn])) (by omega)
def numF (x:GStep):Bool:=
 if opOf x=24 then decide (0≤(nOf x).getD 0 0)&&((nOf x).getD 1 0==-1||decide ((nOf x).getD 0 0≤(nOf x).getD 1 0))
 else if opOf x=48 then decide (-1≤(nOf x).getD 0 0)&&decide (0≤(nOf x).getD 1 0)&&decide ((nOf x).getD 1 0≤1)&&((tOf x).length==2||decide (0≤(nOf x).getD 0 0))
 else if opOf x=1∨opOf x=2∨opOf x=25 then !((nOf x).any fun y=>decide (y < 0))
 else true
theorem znb {x:GStep} (h:SIn x) (h2:opOf x=24∨opOf x=48→(nOf x).length=2):Ev fun n=>(tab n).zbX x=some (numF x):=by
 cases h with
 | @mk op S N V P Ts By As hS hN hA sS sA hV hP hT hB tl bl aT aB=>
  have e:Ev fun n=>(tab n).zK N=some (N.any fun y=>decide (y < 0)):=ziz (fun y hy=>Ev.step (Ev.pure fun n=>by rw[zhx,zbA])) (by omega)
  refine Ev.step (e.mono fun n hn=> ?_)
  rw[ziu]
  obtain⟨v1,v2,v3,v4,v5⟩:=V
  obtain⟨p1,p2,p3⟩:=P
  simp only[zbX,numF,opOf,nOf,tOf]at h2⊢
  by_cases c1:op=24
  ·have h2:=h2 (.inl c1)
   obtain⟨a,b,rfl⟩:∃a b,N=[a,b]:=by
    match N,h2 with
    | [a,b],_=>exact⟨a,b,rfl⟩
   subst c1
   by_cases q1:0≤a
   ·by_cases q2:b=-1
    ·simp[q1,q2]
    ·simp[q1,q2]
   ·simp[q1]
  ·rw[if_neg (by simpa using c1)]
   simp only[c1,if_false]
   by_cases c2:op=48
   ·have h2:=h2 (.inr c2)
    obtain⟨a,b,rfl⟩:∃a b,N=[a,b]:=by
     match N,h2 with
     | [a,b],_=>exact⟨a,b,rfl⟩
    subst c2
    have e2:((Ts.length:Int)==2)=(Ts.length==2):=nbb Ts.length 2
    by_cases q1:-1≤a
    ·by_cases q2:0≤b
     ·by_cases q3:b≤1
      ·by_cases q4:Ts.length=2
       ·simp[q1,q2,q3,q4]
       ·have q5:(Ts.length==2)=false:=by simpa using q4
        simp[q1,q2,q3,e2,q5]
      ·simp[q1,q2,q3]
     ·simp[q1,q2]
    ·simp[q1]
   ·rw[if_neg (by simpa using c2)]
    simp only[c2,if_false]
    by_cases c3:op=1
    ·subst c3
     simp[zaq,hn]
    ·rw[if_neg (by simpa using c3)]
     by_cases c4:op=2
     ·subst c4
      simp[zaq,hn]
     ·rw[if_neg (by simpa using c4)]
      by_cases c5:op=21
      ·subst c5
       simp[zaq]
      ·rw[if_neg (by simpa using c5)]
       by_cases c6:op=25
       ·subst c6
        simp[zaq,hn]
       ·have c6':(op==25)=false:=by simpa using c6
        simp[zaq,c3,c4,c6,c6']
def zbg (l:List ByteArray):Bool:= !allN (fun j=> !((l.take j).any fun y=>(l.getD j ByteArray.empty).toList==y.toList)) l.length 0
theorem znC {t:Tab} {n:Nat} {l:List ByteArray} (H:∀j,j < l.length→t.slices_Contains_string (l.take j) (l.getD j ByteArray.empty)=some ((l.take j).any fun y=>(l.getD j ByteArray.empty).toList==y.toList)) (hl:l.length≤2097152):∀(d i K:Nat),i+d=l.length→d < K→(allN (fun j=> !((l.take j).any fun y=>(l.getD j ByteArray.empty).toList==y.toList)) d i=true∧∃z,zcq t n K l l (l.length:Int) (i:Int)=some (.inr z))∨(allN (fun j=> !((l.take j).any fun y=>(l.getD j ByteArray.empty).toList==y.toList)) d i=false∧zcq t n K l l (l.length:Int) (i:Int)=some (.inl true))
 | 0,i,K,hi,hk=>by
  obtain⟨K,rfl⟩:∃j,K=j+1:=⟨K-1,by omega⟩
  exact .inl ⟨rfl,_,by rw[zcq,if_neg (by simp;omega)]⟩
 | d+1,i,K,hi,hk=>by
  obtain⟨K,rfl⟩:∃j,K=j+1:=⟨K-1,by omega⟩
  obtain⟨x,x1,x3,x2⟩:=at_ (l:=l) (i:=i) (by omega)
  have ih:=znC (n:=n) H hl d (i+1) K (by omega) (by omega)
  have hx:=H i (by omega)
  have e0:l.getD i ByteArray.empty=x:=by rw[List.getD_eq_getElem?_getD,x1];rfl
  rw[allN]
  simp only[e0]at hx⊢
  rw[zcq,if_pos (by simp;omega),if_pos (by simp),Int.toNat_natCast,x1]
  dsimp only
  rw[if_pos (by simp;omega)]
  have e1:(l.take (i:Int).toNat).drop (0:Int).toNat=l.take i:=by simp
  simp only[Int.toNat_natCast,Int.toNat_zero,List.drop_zero,hx]
  rw[wr1 (i:=i) (L:=l.length) (by omega) (by omega)]
  generalize ((l.take i).any fun y=>x.toList==y.toList)=q
  cases q
  ·rw[if_neg (by simp)]
   simp only[Bool.not_false,Bool.true_and]
   exact ih
  ·rw[if_pos rfl]
   simp
theorem zo6 {l:List ByteArray} (hl:l.length≤2097152):Ev fun n=>(tab n).zcN l=some (zbg l):=by
 have H:Ev fun n=>∀j∈List.range l.length,(tab n).slices_Contains_string (l.take j) (l.getD j ByteArray.empty)=some ((l.take j).any fun y=>(l.getD j ByteArray.empty).toList==y.toList):=
  Ev.all _ fun j _=>zh6 (by rw[List.length_take];omega)
 refine Ev.step ((H.and (Ev.ge (l.length+1))).mono fun n hh=> ?_)
 rw[zj5]
 rcases znC (n:=n) (fun j hj=>hh.1 j (List.mem_range.2 hj)) hl l.length 0 n (by omega) (by omega)with ⟨h,z,g⟩ | ⟨h,g⟩
 ·rw[show((0:Nat):Int)=0 from rfl]at g
  obtain⟨z1,z2,z3,z4,z5⟩:=z
  simp only[zcN,g,zbg,h]
  rfl
 ·rw[show((0:Nat):Int)=0 from rfl]at g
  simp only[zcN,g,zbg,h]
  rfl
def ze0:GPred→Bool
 | .mk k v p=>k==0&&v.length+p.length==0
theorem zo7 {t:Tab} {n:Nat} {p:GPred} (h:PIn p):zc4 t n p=some (ze0 p):=by
 cases h with
 | @mk k v p hv hp av ap=>
  simp only[zc4,ze0]
  have e1:IntKind.wrap .i64 ((v.length:Int)+(p.length:Int))=((v.length+p.length:Nat):Int):=by rw[wr (by omega) (by omega)];rfl
  rw[e1,nb0]
  cases (k==0)<;>simp
end Go.Proofs.YtgmidllbkjdnnaaGreatDoor.W
