/- How much there is. -/
import Derived.Test.YtgmidllbkjdnnaaGreatDoorPvE
namespace Go.Proofs.YtgmidllbkjdnnaaGreatDoor.W
open Go.Proofs.YtgmidllbkjdnnaaGreatDoor.Flat
set_option linter.unusedVariables false
set_option linter.unusedSimpArgs false
def Cnt (x:zh):Prop:=∀m:Int,∃r,(Ev fun n=>(tab n).zbZ x m=some r)∧∀f,f≤12→zeG f x=true→1≤m→m≤400→1≤r∧r≤m+50 * f
theorem cnt1 {most k nn:Int} {s:ByteArray} {l m:List zh} (H:∀x∈l,Cnt x) (hl:l.length≤1759218604391):∀(d i:Nat) (st:Int),i+d=l.length→∃r z1 z2,(Ev fun n=>∀K,d < K→zca (tab n) n K most st (i:Int) k nn s l m=some (most,r,z1,z2,k,nn,s,l,m))∧∀f,f≤12→(∀x∈l,zeG f x=true)→1≤most→most≤400→1≤st→st≤most+50 * f→1≤r∧r≤most+50 * f
 | 0,i,st,hi=>by
  refine⟨st,(i:Int),false,Ev.pure fun n K hk=> ?_,fun f _ _ _ _ h1 h2=>⟨h1,h2⟩⟩
  obtain⟨K,rfl⟩:∃j,K=j+1:=⟨K-1,by omega⟩
  rw[zca,if_neg (by simp;omega)]
 | d+1,i,st,hi=>by
  by_cases hst:st < most
  ·obtain⟨x,x1,x3,x2⟩:=at_ (l:=l) (i:=i) (by omega)
   obtain⟨r1,e1,b1⟩:=H x x3 (IntKind.wrap .i64 (most-st))
   obtain⟨r,z1,z2,e2,b2⟩:=cnt1 (most:=most) (k:=k) (nn:=nn) (s:=s) (m:=m) H hl d (i+1) (IntKind.wrap .i64 (st+r1)) (by omega)
   refine⟨r,z1,z2,(e1.and e2).mono fun n hh K hk=> ?_,fun f hf g h1 h2 h3 h4=> ?_⟩
   ·obtain⟨g1,g2⟩:=hh
    obtain⟨K,rfl⟩:∃j,K=j+1:=⟨K-1,by omega⟩
    rw[zca,if_pos (by simp;omega),if_pos (by simpa using hst),zc7,if_pos (by simp),Int.toNat_natCast,x1]
    cases x
    simp only[g1]
    rw[wr1 (i:=i) (L:=l.length) (by omega) (by omega)]
    exact g2 K (by omega)
   ·rw[wr (by omega) (by omega)]at b1
    have b1:=b1 f hf (g x x3) (by omega) (by omega)
    rw[wr (by omega) (by omega)]at b2
    exact b2 f hf g h1 h2 (by omega) (by omega)
  ·refine⟨st,(i:Int),false,Ev.pure fun n K hk=> ?_,fun f _ _ _ _ h1 h2=>⟨h1,h2⟩⟩
   obtain⟨K,rfl⟩:∃j,K=j+1:=⟨K-1,by omega⟩
   rw[zca,if_pos (by simp;omega),if_neg (by simpa using hst)]
   simp[hst]
theorem cnt4 {most k nn:Int} {s:ByteArray} {l m:List zh} (H:∀x∈m,Cnt x) (hl:m.length≤1759218604391):∀(d i:Nat) (st:Int),i+d=m.length→∃r z1 z2,(Ev fun n=>∀K,d < K→zcb (tab n) n K most st (i:Int) k nn s l m=some (most,r,z1,z2,k,nn,s,l,m))∧∀f,f≤12→(∀x∈m,zeG f x=true)→1≤most→most≤400→1≤st→st≤most+50 * f→1≤r∧r≤most+50 * f
 | 0,i,st,hi=>by
  refine⟨st,(i:Int),false,Ev.pure fun n K hk=> ?_,fun f _ _ _ _ h1 h2=>⟨h1,h2⟩⟩
  obtain⟨K,rfl⟩:∃j,K=j+1:=⟨K-1,by omega⟩
  rw[zcb,if_neg (by simp;omega)]
 | d+1,i,st,hi=>by
  by_cases hst:st < most
  ·obtain⟨x,x1,x3,x2⟩:=at_ (l:=m) (i:=i) (by omega)
   obtain⟨r1,e1,b1⟩:=H x x3 (IntKind.wrap .i64 (most-st))
   obtain⟨r,z1,z2,e2,b2⟩:=cnt4 (most:=most) (k:=k) (nn:=nn) (s:=s) (l:=l) H hl d (i+1) (IntKind.wrap .i64 (st+r1)) (by omega)
   refine⟨r,z1,z2,(e1.and e2).mono fun n hh K hk=> ?_,fun f hf g h1 h2 h3 h4=> ?_⟩
   ·obtain⟨g1,g2⟩:=hh
    obtain⟨K,rfl⟩:∃j,K=j+1:=⟨K-1,by omega⟩
    rw[zcb,if_pos (by simp;omega),if_pos (by simpa using hst),zc8,if_pos (by simp),Int.toNat_natCast,x1]
    cases x
    simp only[g1]
    rw[wr1 (i:=i) (L:=m.length) (by omega) (by omega)]
    exact g2 K (by omega)
   ·rw[wr (by omega) (by omega)]at b1
    have b1:=b1 f hf (g x x3) (by omega) (by omega)
    rw[wr (by omega) (by omega)]at b2
    exact b2 f hf g h1 h2 (by omega) (by omega)
  ·refine⟨st,(i:Int),false,Ev.pure fun n K hk=> ?_,fun f _ _ _ _ h1 h2=>⟨h1,h2⟩⟩
   obtain⟨K,rfl⟩:∃j,K=j+1:=⟨K-1,by omega⟩
   rw[zcb,if_pos (by simp;omega),if_neg (by simpa using hst)]
   simp[hst]
theorem zol {k n:Int} {z a b:Nat} (h:flds k n z a b=true):z≤1000:=by
 unfold flds at h
 repeat' split at h
 all_goals simp at h
 all_goals omega
theorem zoY:∀{f:Nat} {x:zh},zeG f x=true→f≠0
 | 0,x,h=>by cases h
 | f+1,x,h=>by omega
theorem zom {f:Nat} {k n:Int} {s:ByteArray} {l m:List zh} (h:zeG (f+1) (.mk k n s l m)=true):flds k n s.size l.length m.length=true∧(∀x∈l,zeG f x=true)∧∀x∈m,zeG f x=true:=by
 rw[zeG,Bool.and_eq_true,Bool.and_eq_true,zh4,List.all_eq_true]at h
 refine⟨h.1.1,fun x hx=> ?_,h.2⟩
 obtain⟨j,hj,rfl⟩:=List.getElem_of_mem hx
 have:=h.1.2 j (by omega) (by omega)
 rw[okL,Bool.and_eq_true,List.getD_eq_getElem?_getD]at this
 simpa [hj] using this.1
theorem zns {x:zh} (hx:VIn x):Cnt x:=by
 induction hx with
 | @mk k nn s l m hs hl hm al am ihl ihm=>
  intro most
  obtain⟨r1,z1,z2,e1,b1⟩:=cnt1 (most:=most) (k:=k) (nn:=nn) (s:=s) (m:=m) ihl hl l.length 0 1 (by omega)
  obtain⟨r2,z3,z4,e2,b2⟩:=cnt4 (most:=most) (k:=k) (nn:=nn) (s:=s) (l:=l) ihm hm m.length 0 r1 (by omega)
  have q:IntKind.wrap .i64 (Int.tdiv (s.size:Int) 20)=((s.size / 20:Nat):Int):=by
   have:Int.tdiv (s.size:Int) 20=((s.size / 20:Nat):Int):=rfl
   rw[this,wr (by omega) (by omega)]
  refine⟨IntKind.wrap .i64 (r2+((s.size / 20:Nat):Int)),Ev.step ((e1.and (e2.and (Ev.ge (l.length+m.length+1)))).mono fun n hh=> ?_),fun f hf12 hf h1 h2=> ?_⟩
  ·obtain⟨g1,g2,g3⟩:=hh
   have g1:=g1 n (by omega)
   have g2:=g2 n (by omega)
   rw[show((0:Nat):Int)=0 from rfl]at g1 g2
   rw[ziZ]
   simp only[zbZ,g1,zek,g2,zej,quoI]
   simp only[q]
   rfl
  ·cases f with
   | zero=>exact absurd rfl (zoY hf)
   | succ f=>
    obtain⟨c1,c2,c3⟩:=zom hf
    have c4:=zol c1
    have d1:=b1 f (by omega) c2 h1 h2 (by omega) (by omega)
    have d2:=b2 f (by omega) c3 h1 h2 d1.1 d1.2
    rw[wr (by omega) (by omega)]
    omega
theorem zoZ {most:Int} {l:List zh} (H:∀x∈l,VIn x) (hl:l.length≤1759218604391):∀(d i:Nat) (st:Int),i+d=l.length→∃r z1 z2,(Ev fun n=>∀K,d < K→zcU (tab n) n K l most st (i:Int)=some (l,most,r,z1,z2))∧((∀x∈l,okV x=true)→1≤most→most≤400→0≤st→st≤most+600→0≤r∧r≤most+600)
 | 0,i,st,hi=>by
  refine⟨st,(i:Int),false,Ev.pure fun n K hk=> ?_,fun _ _ _ h1 h2=>⟨h1,h2⟩⟩
  obtain⟨K,rfl⟩:∃j,K=j+1:=⟨K-1,by omega⟩
  rw[zcU,if_neg (by simp;omega)]
 | d+1,i,st,hi=>by
  by_cases hst:st < most
  ·obtain⟨x,x1,x3,x2⟩:=at_ (l:=l) (i:=i) (by omega)
   obtain⟨r1,e1,b1⟩:=zns (H x x3) (IntKind.wrap .i64 (most-st))
   obtain⟨r,z1,z2,e2,b2⟩:=zoZ (most:=most) H hl d (i+1) (IntKind.wrap .i64 (st+r1)) (by omega)
   refine⟨r,z1,z2,(e1.and e2).mono fun n hh K hk=> ?_,fun g h1 h2 h3 h4=> ?_⟩
   ·obtain⟨g1,g2⟩:=hh
    obtain⟨K,rfl⟩:∃j,K=j+1:=⟨K-1,by omega⟩
    rw[zcU,if_pos (by simp;omega),if_pos (by simpa using hst),zdI,if_pos (by simp),Int.toNat_natCast,x1]
    cases x
    simp only[g1]
    rw[wr1 (i:=i) (L:=l.length) (by omega) (by omega)]
    exact g2 K (by omega)
   ·rw[wr (by omega) (by omega)]at b1
    have b1:=b1 12 (by omega) (g x x3) (by omega) (by omega)
    rw[wr (by omega) (by omega)]at b2
    exact b2 g h1 h2 (by omega) (by omega)
  ·refine⟨st,(i:Int),false,Ev.pure fun n K hk=> ?_,fun _ _ _ h1 h2=>⟨h1,h2⟩⟩
   obtain⟨K,rfl⟩:∃j,K=j+1:=⟨K-1,by omega⟩
   rw[zcU,if_pos (by simp;omega),if_neg (by simpa using hst)]
   simp[hst]
theorem zo0 {l:List zh} (H:∀x∈l,VIn x) (hl:l.length≤1759218604391) (most:Int):∃r,(Ev fun n=>(tab n).zd6 l most=some r)∧((∀x∈l,okV x=true)→1≤most→most≤400→0≤r∧r≤most+600):=by
 obtain⟨r,z1,z2,e,b⟩:=zoZ (most:=most) H hl l.length 0 0 (by omega)
 refine⟨r,Ev.step ((e.and (Ev.ge (l.length+1))).mono fun n hh=> ?_),fun g h1 h2=>b g h1 h2 (by omega) (by omega)⟩
 have h:=hh.1 n (by omega)
 rw[show((0:Nat):Int)=0 from rfl]at h
 rw[zjY]
 simp only[zd6,h]
def CntP (x:GPred):Prop:=∀m:Int,∃r,(Ev fun n=>(tab n).zdl x m=some r)∧∀f,zeY f x=true→1≤m→m≤400→1≤r∧r≤m+601
theorem zo1 {most k:Int} {v:List zh} {l:List GPred} (H:∀x∈l,CntP x) (hl:l.length≤2513169434844):∀(d i:Nat) (st:Int),i+d=l.length→∃r z1 z2,(Ev fun n=>∀K,d < K→zcc (tab n) n K most st (i:Int) k v l=some (most,r,z1,z2,k,v,l))∧∀f,(∀x∈l,zeY f x=true)→1≤most→most≤400→1≤st→st≤most+601→1≤r∧r≤most+601
 | 0,i,st,hi=>by
  refine⟨st,(i:Int),false,Ev.pure fun n K hk=> ?_,fun f _ _ _ h1 h2=>⟨h1,h2⟩⟩
  obtain⟨K,rfl⟩:∃j,K=j+1:=⟨K-1,by omega⟩
  rw[zcc,if_neg (by simp;omega)]
 | d+1,i,st,hi=>by
  by_cases hst:st < most
  ·obtain⟨x,x1,x3,x2⟩:=at_ (l:=l) (i:=i) (by omega)
   obtain⟨r1,e1,b1⟩:=H x x3 (IntKind.wrap .i64 (most-st))
   obtain⟨r,z1,z2,e2,b2⟩:=zo1 (most:=most) (k:=k) (v:=v) H hl d (i+1) (IntKind.wrap .i64 (st+r1)) (by omega)
   refine⟨r,z1,z2,(e1.and e2).mono fun n hh K hk=> ?_,fun f g h1 h2 h3 h4=> ?_⟩
   ·obtain⟨g1,g2⟩:=hh
    obtain⟨K,rfl⟩:∃j,K=j+1:=⟨K-1,by omega⟩
    rw[zcc,if_pos (by simp;omega),if_pos (by simpa using hst),zc9,if_pos (by simp),Int.toNat_natCast,x1]
    cases x
    simp only[g1]
    rw[wr1 (i:=i) (L:=l.length) (by omega) (by omega)]
    exact g2 K (by omega)
   ·rw[wr (by omega) (by omega)]at b1
    have b1:=b1 f (g x x3) (by omega) (by omega)
    rw[wr (by omega) (by omega)]at b2
    exact b2 f g h1 h2 (by omega) (by omega)
  ·refine⟨st,(i:Int),false,Ev.pure fun n K hk=> ?_,fun f _ _ _ h1 h2=>⟨h1,h2⟩⟩
   obtain⟨K,rfl⟩:∃j,K=j+1:=⟨K-1,by omega⟩
   rw[zcc,if_pos (by simp;omega),if_neg (by simpa using hst)]
   simp[hst]
theorem zo2 {x:GPred} (hx:PIn x):CntP x:=by
 induction hx with
 | @mk k v p hv hp av ap ih=>
  intro most
  obtain⟨r0,e0,b0⟩:=zo0 av hv most
  obtain⟨r1,z1,z2,e1,b1⟩:=zo1 (most:=most) (k:=k) (v:=v) ih hp p.length 0 (IntKind.wrap .i64 (1+r0)) (by omega)
  refine⟨r1,Ev.step ((e0.and (e1.and (Ev.ge (p.length+1)))).mono fun n hh=> ?_),fun f hf h1 h2=> ?_⟩
  ·obtain⟨g0,g1,g2⟩:=hh
   have g1:=g1 n (by omega)
   rw[show((0:Nat):Int)=0 from rfl]at g1
   rw[zi0]
   simp only[zdl,g0,g1]
  ·cases f with
   | zero=>cases hf
   | succ f=>
    obtain⟨c1,c2,c3⟩:=zok hf
    have b0:=b0 c2 h1 h2
    rw[wr (by omega) (by omega)]at b1
    exact b1 f c3 h1 h2 (by omega) (by omega)
end Go.Proofs.YtgmidllbkjdnnaaGreatDoor.W
