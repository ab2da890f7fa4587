/- May a value be? -/
import Derived.Test.YtgmidllbkjdnnaaGreatDoorPvB
namespace Go.Proofs.YtgmidllbkjdnnaaGreatDoor.W
open Go.Proofs.YtgmidllbkjdnnaaGreatDoor.Flat
set_option linter.unusedVariables false
set_option linter.unusedSimpArgs false
theorem znq (s:ByteArray):∀(d i:Nat) (r:List UInt8),i+d=s.size→(ByteArray.toList.loop s i r).length=r.length+d
 | 0,i,r,h=>by
  rw[ByteArray.toList.loop,if_neg (by omega)]
  simp
 | d+1,i,r,h=>by
  rw[ByteArray.toList.loop,if_pos (by omega),znq s d (i+1) _ (by omega),List.length_cons]
  omega
theorem zoW (s:ByteArray):s.toList.length=s.size:=by
 have h:=znq s s.size 0 [] (by omega)
 rw[List.length_nil,Nat.zero_add]at h
 exact h
theorem ziy (s:ByteArray):(s.toList==(ByteArray.mk #[]).toList)=decide (s.size=0):=by
 have e:(ByteArray.mk #[]).toList=[]:=List.eq_nil_of_length_eq_zero (zoW _)
 rw[e,Bool.eq_iff_iff,beq_iff_eq,decide_eq_true_eq,←zoW,List.length_eq_zero_iff]
def flds (k n:Int) (z a b:Nat):Bool:=
 if k=1 then(n==0||n==1)&&z==0&&a==0&&b==0
 else if k=2 then z==0&&a==0&&b==0
 else if k=3 then n==0&&decide (z≤1000)&&a==0&&b==0
 else if k=4∨k=5 then decide (0≤n)&&z==0&&a==0&&b==0
 else if k=6∨k=8 then n==0&&z==0&&decide (a≤1000)&&b==0
 else if k=7 then n==0&&z==0&&decide (a≤1000)&&b==a
 else false
theorem nb0 (a:Nat):(((a:Int))==0)=(a==0):=by rw[Bool.eq_iff_iff,beq_iff_eq,beq_iff_eq];omega
theorem nbb (a b:Nat):(((a:Int))==((b:Int)))=(a==b):=by rw[Bool.eq_iff_iff,beq_iff_eq,beq_iff_eq];omega
theorem nbn (a b:Nat):(((a:Int)) !=((b:Int)))=(a !=b):=by rw[bne,bne,nbb]
theorem nle (a:Nat):(decide ((a:Int)≤1000))=decide (a≤1000):=by rw[Bool.eq_iff_iff,decide_eq_true_eq,decide_eq_true_eq];omega
theorem ngt (a:Nat):(decide ((a:Int) > 1000))= !decide (a≤1000):=by rw[Bool.eq_iff_iff,Bool.not_eq_true',decide_eq_true_eq,decide_eq_false_iff_not];omega
theorem ngz (a:Nat):(decide ((a:Int) > 0))= !decide (a=0):=by rw[Bool.eq_iff_iff,Bool.not_eq_true',decide_eq_true_eq,decide_eq_false_iff_not];omega
theorem ngs (a b:Nat):(decide ((a:Int)+(b:Int) > 0))= !decide (a+b=0):=by rw[Bool.eq_iff_iff,Bool.not_eq_true',decide_eq_true_eq,decide_eq_false_iff_not];omega
def dv:zh:=.mk 0 0 ⟨#[]⟩ [] []
def okL (k:Int) (P:zh→Bool) (l:List zh) (j:Nat):Bool:=P (l.getD j dv)&&(k !=7||j==0||cmp (l.getD (j-1) dv) (l.getD j dv)==-1)
def zeG:Nat→zh→Bool
 | 0,_=>false
 | f+1,.mk k n s l m=>flds k n s.size l.length m.length&&allN (okL k (zeG f) l) l.length 0&&m.all (zeG f)
theorem znr {l:List zh} {i:Nat} {x:zh} (h:l[i]?=some x):l.getD i dv=x:=by rw[List.getD_eq_getElem?_getD,h];rfl
theorem zpE (n:Nat) (m:Int) (h0:0≤m) (h1:m * 80≤140737488355328):(tab (n+1)).zeN [] m=some []:=by
 show(if ([]:List zh).isEmpty=true then if decide (0≤m∧m * 80≤140737488355328)=true then some ([]:List zh)else none else none)=_
 simp
 omega
theorem zoi {a b:List zh} (ha:a.length≤1000) (hb:b.length≤1000):Ev fun n=>(tab n).zaC [a,b]=some (a++b):=by
 refine Ev.step ((Ev.ge 4).mono fun n hn=> ?_)
 obtain⟨n,rfl⟩:∃j,n=j+4:=⟨n-4,by omega⟩
 rw[zf8,zaC]
 have e0:IntKind.wrap .i64 ((0:Int)+1)=1:=wr (by omega) (by omega)
 have e1:IntKind.wrap .i64 ((1:Int)+1)=2:=wr (by omega) (by omega)
 have e2:IntKind.wrap .i64 ((0:Int)+(a.length:Int))=(a.length:Int):=by rw[wr (by omega) (by omega)];omega
 have e3:IntKind.wrap .i64 ((a.length:Int)+(b.length:Int))=(a.length:Int)+(b.length:Int):=wr (by omega) (by omega)
 have g:=zpE (n+3) ((a.length:Int)+(b.length:Int)) (by omega) (by omega)
 have w0:¬((a.length:Int) < 0):=by omega
 have w1:¬((a.length:Int)+(b.length:Int) < 0):=by omega
 have w2:(0+a.length) * 80≤140737488355328:=by omega
 have w3:(a.length+b.length) * 80≤140737488355328:=by omega
 have f0:IntKind.wrap .i64 (1:Int)=1:=wr (by omega) (by omega)
 have f1:IntKind.wrap .i64 (2:Int)=2:=wr (by omega) (by omega)
 have f2:IntKind.wrap .i64 (a.length:Int)=(a.length:Int):=wr (by omega) (by omega)
 have w4:a.length * 80≤140737488355328:=by omega
 simp[zaY,e0,e1,e2,e3,f0,f1,f2,w2,w3,w4,w0,w1,zcj,g,zaZ]
def okC (k:Int) (P:zh→Bool) (l m:List zh) (j:Nat):Bool:=P ((l++m).getD j dv)&&(k !=7||j==0||decide (l.length≤j)||decide (cmp (l.getD (j-1) dv) ((l++m).getD j dv) < 0))
theorem zpF (k:Int) (P:zh→Bool) (l m:List zh):allN (okC k P l m) (l++m).length 0=(allN (okL k P l) l.length 0&&m.all P):=by
 rw[Bool.eq_iff_iff,Bool.and_eq_true,zh4,zh4,List.all_eq_true]
 have hlen:(l++m).length=l.length+m.length:=List.length_append
 constructor
 ·intro h
  constructor
  ·intro j _ hj
   have:=h j (by omega) (by omega)
   unfold okC at this
   unfold okL
   have e:(l++m).getD j dv=l.getD j dv:=by rw[List.getD_eq_getElem?_getD,List.getD_eq_getElem?_getD,List.getElem?_append_left (by omega)]
   rw[e]at this
   have hs:=zlt 12 (l.getD (j-1) dv) (l.getD j dv)
   unfold Sg at hs
   simp only[Bool.and_eq_true,Bool.or_eq_true,bne_iff_ne,beq_iff_eq,decide_eq_true_eq,cmp]at this⊢
   refine⟨this.1, ?_⟩
   rcases this.2 with ((h1 | h1) | h1) | h1
   ·exact .inl (.inl h1)
   ·exact .inl (.inr h1)
   ·omega
   ·have h1:=of_decide_eq_true h1
    exact .inr (by omega)
  ·intro x hx
   obtain⟨j,hj,rfl⟩:=List.getElem_of_mem hx
   have:=h (l.length+j) (by omega) (by omega)
   unfold okC at this
   have e:(l++m).getD (l.length+j) dv=m[j]:=by rw[List.getD_eq_getElem?_getD,List.getElem?_append_right (by omega),Nat.add_sub_cancel_left];simp[hj]
   rw[e,Bool.and_eq_true]at this
   exact this.1
 ·intro ⟨h1,h2⟩ j _ hj
  unfold okC
  by_cases hjl:j < l.length
  ·have:=h1 j (by omega) (by omega)
   unfold okL at this
   have e:(l++m).getD j dv=l.getD j dv:=by rw[List.getD_eq_getElem?_getD,List.getD_eq_getElem?_getD,List.getElem?_append_left (by omega)]
   rw[e]
   simp only[Bool.and_eq_true,Bool.or_eq_true,bne_iff_ne,beq_iff_eq,decide_eq_true_eq,cmp]at this⊢
   refine⟨this.1, ?_⟩
   rcases this.2 with (h1 | h1) | h1
   ·exact .inl (.inl (.inl h1))
   ·exact .inl (.inl (.inr h1))
   ·exact .inr (decide_eq_true (by omega))
  ·have e:(l++m).getD j dv=m[j-l.length]'(by omega):=by rw[List.getD_eq_getElem?_getD,List.getElem?_append_right (by omega)];simp[show j-l.length < m.length by omega]
   rw[e,h2 _ (by simp)]
   simp
   omega
theorem pl4 {t:Tab} {n:Nat} {dp k nn:Int} {s:ByteArray} {l m:List zh} {P:zh→Bool} (H:∀x∈l++m,t.zbD x (IntKind.wrap .i64 (dp+1))=some (P x)) (C:∀x∈l++m,∀y∈l++m,t.zee x y=some (cmp x y)) (hl:(l++m).length≤2000):∀(d i K:Nat),i+d=(l++m).length→d < K→(allN (okC k P l m) d i=true∧∃z,zaL t n K dp (l++m) ((l++m).length:Int) (i:Int) k nn s l m=some (.inr z))∨(allN (okC k P l m) d i=false∧zaL t n K dp (l++m) ((l++m).length:Int) (i:Int) k nn s l m=some (.inl false))
 | 0,i,K,hi,hk=>by
  obtain⟨K,rfl⟩:∃j,K=j+1:=⟨K-1,by omega⟩
  exact .inl ⟨rfl,_,by rw[zaL,if_neg (by simp only[decide_eq_true_eq];omega)]⟩
 | d+1,i,K,hi,hk=>by
  obtain⟨K,rfl⟩:∃j,K=j+1:=⟨K-1,by omega⟩
  obtain⟨x,x1,x3,_⟩:=at_ (l:=l++m) (i:=i) (by omega)
  have hx:=H x x3
  have ih:=pl4 (n:=n) (k:=k) (nn:=nn) (s:=s) H C hl d (i+1) K (by omega) (by omega)
  rw[zaL,if_pos (by simp only[decide_eq_true_eq];omega),if_pos (by simp),Int.toNat_natCast,x1,wr1 (i:=i) (L:=(l++m).length) (by omega) (by omega),allN,okC,znr x1]
  by_cases hi0:k=7∧i≠0∧i < l.length
  ·obtain⟨hk7,hi0,hil⟩:=hi0
   obtain⟨y,y1,y3,_⟩:=at_ (l:=l) (i:=i-1) (by omega)
   have hy:=C y (by simp[y3]) x x3
   rw[znr y1]
   have e1:IntKind.wrap .i64 ((i:Int)-1)=((i-1:Nat):Int):=by rw[wr (by omega) (by omega)];omega
   rw[e1,Int.toNat_natCast,y1]
   generalize P x=p at hx⊢
   generalize cmp y x=c at hy⊢
   cases x
   cases y
   simp only[hx,hy]
   cases p
   ·exact .inr ⟨by simp,by simp⟩
   ·rw[if_pos rfl,if_pos (by simpa using hk7),if_pos (by simp;omega),if_pos (by simpa using hil),if_pos (by simp)]
    by_cases hc:c < 0
    ·rw[if_neg (by simpa using hc)]
     simpa [hc] using ih
    ·rw[if_pos (by simp;omega)]
     refine .inr ⟨?_,rfl⟩
     have:¬l.length≤i:=by omega
     simp[hc,hi0,hk7,this]
  ·have hb:(k !=7||i==0||decide (l.length≤i)||decide (cmp (l.getD (i-1) dv) x < 0))=true:=by
    by_cases h1:k=7
    ·by_cases h2:i=0
     ·simp[h2]
     ·have h3:l.length≤i:=by omega
      simp[h3]
    ·simp[h1]
   rw[hb,Bool.and_true]
   generalize P x=p at hx⊢
   cases x
   simp only[hx]
   cases p
   ·exact .inr ⟨by simp,by simp⟩
   ·rw[Bool.true_and]
    by_cases hk7:k=7
    ·rw[if_pos rfl,if_pos (by simpa using hk7)]
     by_cases h2:i=0
     ·rw[if_neg (by simp[h2])]
      exact ih
     ·rw[if_pos (by simp;omega),if_neg (by simp;omega)]
      exact ih
    ·rw[if_pos rfl,if_neg (by simpa using hk7)]
     exact ih
def c1 (row text:Bool) (k n:Int) (z a b:Nat):Bool:=(text||z==0)&&decide (z≤1000)&&(!(text||row)||n==0)&&(row||(a==0&&b==0))&&decide (a≤1000)&&(if k=7 then b==a else b==0)
theorem zoX {t:Tab} {N:Nat} {dp k n:Int} {s:ByteArray} {l m:List zh} {X:Bool} {row text:Bool} (hl:l.length≤1759218604391) (hm:m.length≤1759218604391) (h3:l.length≤1000→m.length≤1000→zbj t N dp k n s l m=some X):zbW t N dp row text k n s l m=some (c1 row text k n s.size l.length m.length&&X):=by
 have ew:IntKind.wrap .i64 ((l.length:Int)+(m.length:Int))=(l.length:Int)+(m.length:Int):=wr (by omega) (by omega)
 simp only[zbW,zci,ziy,c1,ew,nb0,nbb,nbn,nle,ngt,ngz,ngs]
 generalize zbj t N dp k n s l m=R at h3⊢
 clear ew
 generalize l.length=a at hl h3⊢
 generalize m.length=b at hm h3⊢
 generalize s.size=z
 by_cases hR:a≤1000∧b≤1000
 ·rw[h3 hR.1 hR.2]
  have ha:=hR.1
  by_cases e1:z=0
  ·subst e1
   by_cases e2:n=0<;>by_cases e3:a=0<;>by_cases e4:b=0<;>by_cases e5:k=7<;>by_cases e6:b=a<;>cases row<;>cases text<;>simp_all
  ·by_cases e7:z≤1000
   ·by_cases e2:n=0<;>by_cases e3:a=0<;>by_cases e4:b=0<;>by_cases e5:k=7<;>by_cases e6:b=a<;>cases row<;>cases text<;>simp_all
   ·cases row<;>cases text<;>simp[e1,e7]
 ·by_cases ha:a≤1000
  ·have hb:¬b=0:=by omega
   have hc:¬b=a:=by omega
   by_cases e1:z=0
   ·subst e1
    by_cases e2:n=0<;>by_cases e5:k=7<;>cases row<;>cases text<;>simp[ha,hb,hc,e2,e5]
   ·by_cases e7:z≤1000<;>by_cases e2:n=0<;>by_cases e5:k=7<;>cases row<;>cases text<;>simp[ha,hb,hc,e1,e2,e5,e7]
  ·have hb:¬a=0:=by omega
   by_cases e1:z=0
   ·subst e1
    by_cases e2:n=0<;>cases row<;>cases text<;>simp[ha,hb,e2]
   ·by_cases e7:z≤1000<;>by_cases e2:n=0<;>cases row<;>cases text<;>simp[ha,hb,e1,e2,e7]
theorem zqT (n:Int) (z a b:Nat) (h:n=0∨n=1):c1 false false 1 n z a b=flds 1 n z a b:=by
 rw[Bool.eq_iff_iff]
 simp[c1,flds]
 omega
theorem zqU (n:Int) (z a b:Nat):c1 false false 2 n z a b=flds 2 n z a b:=by
 rw[Bool.eq_iff_iff]
 simp[c1,flds]
 omega
theorem zqV (n:Int) (z a b:Nat):c1 false true 3 n z a b=flds 3 n z a b:=by
 rw[Bool.eq_iff_iff]
 simp[c1,flds]
 omega
theorem zqW (k n:Int) (z a b:Nat) (h:k=4∨k=5) (g:0≤n):c1 false false k n z a b=flds k n z a b:=by
 rw[Bool.eq_iff_iff]
 rcases h with rfl | rfl<;>simp[c1,flds]<;>omega
theorem zqX (k n:Int) (z a b:Nat) (h:k=6∨k=8∨k=7):c1 true false k n z a b=flds k n z a b:=by
 rw[Bool.eq_iff_iff]
 rcases h with rfl | rfl | rfl<;>simp[c1,flds]<;>omega
theorem zm8 {t:Tab} {N:Nat} {dp k n:Int} {s:ByteArray} {l m:List zh} {X:Bool} (hl:l.length≤1759218604391) (hm:m.length≤1759218604391) (hd:¬dp > 12) (h3:l.length≤1000→m.length≤1000→zbj t N dp k n s l m=some X):zbD t N (.mk k n s l m) dp=some (flds k n s.size l.length m.length&&X):=by
 have j:=fun row text=>zoX (row:=row) (text:=text) hl hm h3
 rw[zbD,if_neg (by simpa using hd)]
 by_cases h1:k=1
 ·subst h1
  rw[if_pos (by rfl)]
  by_cases e1:n < 0
  ·have g1:¬n=0:=by omega
   have g2:¬n=1:=by omega
   simp[e1,flds,g1,g2]
  ·by_cases e2:n > 1
   ·have g1:¬n=0:=by omega
    have g2:¬n=1:=by omega
    simp[e1,e2,flds,g1,g2]
   ·rw[if_neg (by simpa using e1),if_neg (by simpa using e2),j,zqT _ _ _ _ (by omega)]
 by_cases h2:k=2
 ·subst h2
  rw[if_neg (by simp),if_pos (by rfl),j,zqU]
 by_cases h4:k=3
 ·subst h4
  simp[zaQ,j,zqV]
 by_cases h5:k=4∨k=5
 ·by_cases e1:n < 0
  ·have g1:¬0≤n:=by omega
   rcases h5 with rfl | rfl<;>simp[zaQ,e1,flds,g1]
  ·have g1:0≤n:=by omega
   have e:=zqW k n s.size l.length m.length h5 g1
   rcases h5 with rfl | rfl<;>simp[zaQ,e1,j,e]
 by_cases h6:k=6∨k=8∨k=7
 ·have e:=zqX k n s.size l.length m.length h6
  rcases h6 with rfl | rfl | rfl<;>simp[zaQ,j,e]
 have n1:k≠4:=by omega
 have n2:k≠5:=by omega
 have n3:k≠6:=by omega
 have n4:k≠8:=by omega
 have h7:k≠7:=by omega
 simp[h1,h2,h4,n1,n2,n3,n4,h7,zaQ,flds]
theorem zmm:∀(f:Nat),f≤12→∀a,VIn a→Ev fun n=>(tab n).zbD a (13-(f:Int))=some (zeG f a)
 | 0,hf,.mk k nn s l m,_=>Ev.step (Ev.pure fun n=>by rw[zgD,zbD,if_pos (by simp)];rfl)
 | f+1,hf,.mk k nn s l m,.mk hs hl hm al am=>by
  have ed:IntKind.wrap .i64 ((13-((f+1:Nat):Int))+1)=13-(f:Int):=by
   rw[wr (by omega) (by omega)]
   omega
  have hd:¬(13-((f+1:Nat):Int)) > 12:=by omega
  generalize (13-((f+1:Nat):Int))=dp at ed hd⊢
  have hv:∀x∈l++m,VIn x:=fun x hx=>by
   rcases List.mem_append.1 hx with h | h
   ·exact al x h
   ·exact am x h
  have r1:=Ev.all (l++m) fun x hx=>zmm f (by omega) x (hv x hx)
  have r3:=Ev.all2 (l++m) (l++m) fun x hx y hy=>zkW (hv x hx) (hv y hy)
  have r4:Ev fun n=>l.length≤1000→m.length≤1000→(tab n).zaC [l,m]=some (l++m):=by
   by_cases h:l.length≤1000∧m.length≤1000
   ·exact(zoi h.1 h.2).mono fun n h _ _=>h
   ·exact Ev.pure fun n a b=>absurd ⟨a,b⟩ h
  refine Ev.step (((r1.and r3).and (r4.and (Ev.ge ((l++m).length+1)))).mono fun n hh=> ?_)
  obtain⟨⟨h1,h3⟩,h4,h5⟩:=hh
  rw[←ed]at h1
  rw[zgD,zm8 (X:=allN (okL k (zeG f) l) l.length 0&&m.all (zeG f)) hl hm hd ?_]
  ·rw[zeG,Bool.and_assoc]
  ·intro g1 g2
   rw[zbj,h4 g1 g2]
   have hlen:(l++m).length=l.length+m.length:=List.length_append
   have a1:=pl4 (n:=n) (k:=k) (nn:=nn) (s:=s) (P:=zeG f) h1 h3 (by omega) (l++m).length 0 n (by omega) (by omega)
   rw[show((0:Nat):Int)=0 from rfl,zpF]at a1
   rcases a1 with ⟨b1,z,b2⟩ | ⟨b1,b2⟩
   ·simp only[b1,b2]
   ·simp only[b1,b2]
def okV (a:zh):Bool:=zeG 12 a
theorem ziS {a:zh} (ha:VIn a):Ev fun n=>(tab n).zch a=some (if okV a then 0 else 2):=
 Ev.step ((zmm 12 (by omega) a ha).mono fun n h=>by
  cases a
  have h:(tab n).zbD _ 1=_:=h
  rw[zi6,zch,h,okV]
  cases zeG 12 _<;>rfl)
end Go.Proofs.YtgmidllbkjdnnaaGreatDoor.W
