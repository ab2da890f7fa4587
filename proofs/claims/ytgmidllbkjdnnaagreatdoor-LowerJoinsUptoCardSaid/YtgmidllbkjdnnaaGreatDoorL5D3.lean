/- The proofs of it, part 3. -/
import Derived.Test.YtgmidllbkjdnnaaGreatDoorL5D2
namespace Go.Proofs.YtgmidllbkjdnnaaGreatDoor.W
open Go.Proofs.YtgmidllbkjdnnaaGreatDoor.Flat
set_option smartUnfolding false
attribute [local irreducible] zaM zaN zbx zbc za0 zbv zda zb3 zaq zaA zb2 zbn zdS quoI zc7 zc8 zdI zba zbd zde zcL zac zc9 zZ zbu zcl zcQ zdF zdG zc0 zbs zc6 zc5 strAt zaQ
set_option linter.unusedVariables false
set_option linter.unusedSimpArgs false
theorem pK3 {e:Env} {k:Nat} {c:Code} {ob:List Obl} {s s':St} {x:Ex} (ho:Obls e k ob) (h:execN e c (scOf ob) s=some (x,s',[],ob):=by kernel_rfl):exec e k c s=some (x,s'):=path ho h
variable {t:Tab} {call:FuncId→List AV→List AV→Option (AV × List AV)}
theorem zbD.ok {n:Nat} {t:Tab} (ht:TabOk t (run Tryz.prog own kp X n)):∀(p1:zh) (p2:Int) r,zbD t n p1 p2=some r→run Tryz.prog own kp X (n+1) 107 [(.t (zh.t p1)),(I6 p2)] []=some ((Bo r),[]):=by
 intro p1 p2 r h
 obtain⟨a1,a2,a3,a4,a5⟩:=p1
 obtain⟨a6,rfl⟩:∃z_,z_=p2:=⟨_,rfl⟩
 rw[zbD]at h
 rcases fk h with ⟨h1,h⟩ | ⟨h1,h⟩
 ·cases h
  exact zk Tryz.func107 (zi h1 ob) (by kernel_rfl)
 ·rcases fk h with ⟨h2,h⟩ | ⟨h2,h⟩
  ·rcases fk h with ⟨h3,h⟩ | ⟨h3,h⟩
   ·cases h
    exact zk Tryz.func107 (zi h1 (zi h2 (zah h3 (zck 1 ob)))) (by kernel_rfl)
   ·rcases fk h with ⟨h4,h⟩ | ⟨h4,h⟩
    ·cases h
     exact zk Tryz.func107 (zi h1 (zi h2 (zah h3 (zi h4 ob)))) (by kernel_rfl)
    ·obtain⟨a7,rfl⟩:∃z_,z_=r:=⟨_,rfl⟩
     have h5:=h
     exact zk Tryz.func107 (zi h1 (zi h2 (zah h3 (zi h4 (zI (zbW.ok ht n _ _ _ _ _ _ _ _ _ h5) ob))))) (by kernel_rfl)
  ·rcases fk h with ⟨h6,h⟩ | ⟨h6,h⟩
   ·obtain⟨a8,rfl⟩:∃z_,z_=r:=⟨_,rfl⟩
    have h7:=h
    exact zk Tryz.func107 (zi h1 (zi h2 (zi h6 (zI (zbW.ok ht n _ _ _ _ _ _ _ _ _ h7) ob)))) (by kernel_rfl)
   ·rcases fk h with ⟨h8,h⟩ | ⟨h8,h⟩
    ·obtain⟨a9 | ⟨a10,a11,a12,a13,a14,a15,a16,a17⟩,h9,h⟩:=sm h
     ·cases h
      exact zk Tryz.func107 (zi h1 (zi h2 (zi h6 (zi h8 (zI (zaQ.ok ht n _ _ _ _ _ _ _ _ _ _ _ h9) ob))))) (by kernel_rfl)
     ·obtain⟨a18,rfl⟩:∃z_,z_=r:=⟨_,rfl⟩
      have h10:=h
      exact zk Tryz.func107 (zi h1 (zi h2 (zi h6 (zi h8 (zI (zaQ.ok ht n _ _ _ _ _ _ _ _ _ _ _ h9) (zI (zbW.ok ht n _ _ _ _ _ _ _ _ _ h10) ob)))))) (by kernel_rfl)
    ·obtain⟨a19 | ⟨a20,a21,a22,a23,a24,a25,a26,a27⟩,h11,h⟩:=sm h
     ·cases h
      exact zk Tryz.func107 (zi h1 (zi h2 (zi h6 (zi h8 (zI (zaQ.ok ht n _ _ _ _ _ _ _ _ _ _ _ h11) ob))))) (by kernel_rfl)
     ·obtain⟨a28,rfl⟩:∃z_,z_=r:=⟨_,rfl⟩
      have h12:=h
      exact zk Tryz.func107 (zi h1 (zi h2 (zi h6 (zi h8 (zI (zaQ.ok ht n _ _ _ _ _ _ _ _ _ _ _ h11) (zI (zbW.ok ht n _ _ _ _ _ _ _ _ _ h12) ob)))))) (by kernel_rfl)
theorem zeg.ok (ht:TabOk t call) (n:Nat) (a1:Int) (a2:List zh) (a3:List GPred) (a4:Int) (r:_) (h:zeg t n a1 a2 a3 a4=some r):exec (env Tryz.prog 108 Tryz.f108 call) n (sub [1,1,1] (zq Tryz.f108)) (mkSt 62 62 [(2,(.ptr 2 0 [] 0)),(3,(.ptr 3 0 [] 0))] [(2,(.t (.st [(.v (.int .i64 a1)),(.sl false 5 (zh.ts a2)),(.sl false 3 (GPred.ts a3))]))),(3,(I6 a4))])=some (zeg.to r):=by
 rw[zeg]at h
 obtain⟨a5,h1,h⟩:=sm h
 rcases fk h with ⟨h2,h⟩ | ⟨h2,h⟩
 ·cases h
  exact pK3 (zN (ht.zR _ _ _ h1) (zW (ng h2) 6 ob))
 ·obtain⟨a6,h3,h⟩:=sm h
  cases h
  exact pK3 (zN (ht.zR _ _ _ h1) (zah (ng h2) (zN (ht.zY _ _ h3) (zX (ng h2) ob))))
theorem zcO.ok {n:Nat} {t:Tab} (ht:TabOk t (run Tryz.prog own kp X n)):∀(p1:GPred) (p2:Int) r,zcO t n p1 p2=some r→run Tryz.prog own kp X (n+1) 108 [(.t (GPred.t p1)),(I6 p2)] []=some ((Bo r),[]):=by
 intro p1 p2 r h
 obtain⟨a1,a2,a3⟩:=p1
 obtain⟨a4,rfl⟩:∃z_,z_=p2:=⟨_,rfl⟩
 rw[zcO]at h
 obtain⟨⟨a5,a6,a7,a8⟩,h1,h⟩:=sm h
 rcases fk h with ⟨h2,h⟩ | ⟨h2,h⟩
 ·cases h
  exact zk Tryz.func108 (zN (ht.zcP _ _ h1) (zW h2 6 (zck 19 ob))) (by kernel_rfl)
 ·have o8 {os} (x:Obls (env Tryz.prog 108 Tryz.f108 (run Tryz.prog own kp X n)) n os):=zN (ht.zcP _ _ h1) (zy h2 (zD (zn zh.zl (l:=a2)) (zy h2 x)))
  rcases fk h with ⟨h3,h⟩ | ⟨h3,h⟩
  ·cases h
   exact zk Tryz.func108 (o8 (zW h3 6 (zck 13 ob))) (by kernel_rfl)
  ·have o15 {os} (x:Obls (env Tryz.prog 108 Tryz.f108 (run Tryz.prog own kp X n)) n os):=o8 (zy h3 (zD (zn zh.zl (l:=a2)) (zy h3 x)))
   rcases fk h with ⟨h4,h⟩ | ⟨h4,h⟩
   ·cases h
    exact zk Tryz.func108 (o15 (zW h4 6 (zck 7 ob))) (by kernel_rfl)
   ·have o22 {os} (x:Obls (env Tryz.prog 108 Tryz.f108 (run Tryz.prog own kp X n)) n os):=o15 (zy h4 (zD (zn GPred.zl (l:=a3)) (zy h4 x)))
    rcases fk h with ⟨h5,h⟩ | ⟨h5,h⟩
    ·cases h
     exact zk Tryz.func108 (o22 (zW h5 6 (zck 1 ob))) (by kernel_rfl)
    ·rcases fk h with ⟨h6,h⟩ | ⟨h6,h⟩
     ·cases h
      exact zk Tryz.func108 (o22 (zy h5 (zD (zn GPred.zl (l:=a3)) (zy h5 (zi h6 ob))))) (by kernel_rfl)
     ·obtain⟨a9,rfl⟩:∃z_,z_=r:=⟨_,rfl⟩
      have h7:=h
      exact zk Tryz.func108 (o22 (zy h5 (zD (zn GPred.zl (l:=a3)) (zy h5 (zi h6 (zI (zeg.ok ht n _ _ _ _ _ h7) ob)))))) (by kernel_rfl)
theorem slices_Contains_string.ok {n:Nat} {t:Tab} (ht:TabOk t (run Tryz.prog own kp X n)):∀(p1:List ByteArray) (p2:ByteArray) r,slices_Contains_string t n p1 p2=some r→run Tryz.prog own kp X (n+1) 109 [(Sl 1 (texts p1)),(Sr p2)] []=some ((Bo r),[]):=by
 intro p1 p2 r h
 obtain⟨a1,rfl⟩:∃z_,z_=p1:=⟨_,rfl⟩
 obtain⟨a2,rfl⟩:∃z_,z_=p2:=⟨_,rfl⟩
 rw[slices_Contains_string]at h
 obtain⟨a3,h1,h⟩:=sm h
 cases h
 exact zk Tryz.func109 (zN (ht.slices_Index_string _ _ _ h1) ob) (by kernel_rfl)
theorem zK.ok {n:Nat} {t:Tab} (ht:TabOk t (run Tryz.prog own kp X n)):∀(p1:List Int) r,zK t n p1=some r→run Tryz.prog own kp X (n+1) 105 [(Sl 1 (zA p1)),(.fn 106 [])] []=some ((Bo r),[]):=by
 intro p1 r h
 obtain⟨a1,rfl⟩:∃z_,z_=p1:=⟨_,rfl⟩
 rw[zK]at h
 obtain⟨a2,h1,h⟩:=sm h
 cases h
 exact zk Tryz.func105 (zN (ht.zad _ _ h1) ob) (by kernel_rfl)
theorem zcr.okL (ht:TabOk t call) (n:Nat):∀(k:Nat) (a1:ByteArray) (a2 a3:Int) (r:_),zcr t n k a1 a2 a3=some r→loopN (exec (env Tryz.prog 90 Tryz.f90 call) n (sub [1,0,1,0,0] (zq Tryz.f90))) k (mkSt 24 24 [(0,(Sr a1)),(5,(I6 a2)),(6,(I6 a3))] [])=some (zcr.to r)
 | 0,a1,a2,a3,r,h=>by rw[zcr]at h;cases h
 | k+1,a1,a2,a3,r,h=>by
  rw[zcr]at h
  rcases fk h with ⟨h1,h⟩ | ⟨h1,h⟩
  ·obtain⟨a4,h2,h⟩:=sm h
   obtain⟨a5,h3,h⟩:=sm h
   rcases fk h with ⟨h4,h⟩ | ⟨h4,h⟩
   ·exact zF (pK3 (zi h1 (zD (zh0 (P:=Tryz.prog) (t:=9) (k:=.i64) (by kernel_rfl) h2) (zN (ht.zdD _ _ _ h3) (zi (ng h4) ob))))) (zcr.okL ht n k _ _ _ _ h)
   ·cases h
    exact zw (pK3 (zi h1 (zD (zh0 (P:=Tryz.prog) (t:=9) (k:=.i64) (by kernel_rfl) h2) (zN (ht.zdD _ _ _ h3) (zi (ng h4) ob))))) (fun h=>by cases h)
  ·cases h
   exact zw (pK3 (zi h1 ob)) (fun h=>by cases h)
theorem zez.ok (ht:TabOk t call) (n:Nat) (a1:ByteArray) (r:_) (h:zez t n a1=some r):exec (env Tryz.prog 90 Tryz.f90 call) n (sub [1,1] (zq Tryz.f90)) (mkSt 24 24 [(0,(Sr a1))] [])=some (zez.to r):=by
 rw[zez]at h
 rcases fk h with ⟨h1,h⟩ | ⟨h1,h⟩
 ·cases h
  exact pK3 (zah (ng h1) ob)
 ·cases h
  exact pK3 (zah (ng h1) ob)
theorem zdt.ok {n:Nat} {t:Tab} (ht:TabOk t (run Tryz.prog own kp X n)):∀(p1:ByteArray) r,zdt t n p1=some r→run Tryz.prog own kp X (n+1) 90 [(Sr p1)] []=some ((Bo r),[]):=by
 intro p1 r h
 obtain⟨a1,rfl⟩:∃z_,z_=p1:=⟨_,rfl⟩
 rw[zdt]at h
 obtain⟨a2 | ⟨a3,a4,a5,a6⟩,h1,h⟩:=sm h
 ·cases h
  exact zk Tryz.func90 (zaS (lk (sub [1,0,1,0] (zq Tryz.f90)) (by kernel_rfl) (zcr.okL ht n n _ _ _ _ h1)) ob) (by kernel_rfl)
 ·obtain⟨a7,rfl⟩:∃z_,z_=r:=⟨_,rfl⟩
  have h2:=h
  exact zk Tryz.func90 (zaS (lk (sub [1,0,1,0] (zq Tryz.f90)) (by kernel_rfl) (zcr.okL ht n n _ _ _ _ h1)) (zI (zez.ok ht n _ _ h2) ob)) (by kernel_rfl)
theorem cmp_Compare_int.ok {n:Nat} {t:Tab} (ht:TabOk t (run Tryz.prog own kp X n)):∀(p1:Int) (p2:Int) r,cmp_Compare_int t n p1 p2=some r→run Tryz.prog own kp X (n+1) 111 [(I6 p1),(I6 p2)] []=some ((I6 r),[]):=by
 intro p1 p2 r h
 obtain⟨a1,rfl⟩:∃z_,z_=p1:=⟨_,rfl⟩
 obtain⟨a2,rfl⟩:∃z_,z_=p2:=⟨_,rfl⟩
 rw[cmp_Compare_int]at h
 obtain⟨a3,h1,h⟩:=sm h
 obtain⟨a4,h2,h⟩:=sm h
 have o2 {os} (x:Obls (env Tryz.prog 111 Tryz.f111 (run Tryz.prog own kp X n)) n os):=zN (ht.cmp_isNaN_int _ _ h1) (zN (ht.cmp_isNaN_int _ _ h2) x)
 rcases fk h with ⟨h3,h⟩ | ⟨h3,h⟩
 ·rcases fk h with ⟨h4,h⟩ | ⟨h4,h⟩
  ·cases h
   exact zk Tryz.func111 (o2 (zi h3 (zi h4 ob))) (by kernel_rfl)
  ·cases h
   exact zk Tryz.func111 (o2 (zi h3 (zi h4 ob))) (by kernel_rfl)
 ·rcases fk h with ⟨h5,h⟩ | ⟨h5,h⟩
  ·cases h
   exact zk Tryz.func111 (o2 (zi h3 (zi h5 ob))) (by kernel_rfl)
  ·rcases fk h with ⟨h6,h⟩ | ⟨h6,h⟩
   ·cases h
    exact zk Tryz.func111 (o2 (zi h3 (zi h5 (zi h6 ob)))) (by kernel_rfl)
   ·rcases fk h with ⟨h7,h⟩ | ⟨h7,h⟩
    ·cases h
     exact zk Tryz.func111 (o2 (zi h3 (zi h5 (zi h6 (zi h7 ob))))) (by kernel_rfl)
    ·cases h
     exact zk Tryz.func111 (o2 (zi h3 (zi h5 (zi h6 (zi h7 ob))))) (by kernel_rfl)
theorem strings_Compare.ok {n:Nat} {t:Tab} (ht:TabOk t (run Tryz.prog own kp X n)):∀(p1:ByteArray) (p2:ByteArray) r,strings_Compare t n p1 p2=some r→run Tryz.prog own kp X (n+1) 112 [(Sr p1),(Sr p2)] []=some ((I6 r),[]):=by
 intro p1 p2 r h
 obtain⟨a1,rfl⟩:∃z_,z_=p1:=⟨_,rfl⟩
 obtain⟨a2,rfl⟩:∃z_,z_=p2:=⟨_,rfl⟩
 rw[strings_Compare]at h
 obtain⟨a3,rfl⟩:∃z_,z_=r:=⟨_,rfl⟩
 have h1:=h
 exact zk Tryz.func112 (zN (ht.bytealg_CompareString _ _ _ h1) ob) (by kernel_rfl)
theorem zcs.okL (ht:TabOk t call) (n:Nat):∀(k:Nat) (a1:Int) (a2:List Int) (a3 a4:Int) (r:_),zcs t n k a1 a2 a3 a4=some r→loopN (exec (env Tryz.prog 110 Tryz.f110 call) n (sub [1,1,0,1,0,0] (zq Tryz.f110))) k (mkSt 18 18 [(3,(I6 a1)),(6,(Sl 1 (zA a2))),(7,(I6 a3)),(8,(I6 a4))] [])=some (zcs.to r)
 | 0,a1,a2,a3,a4,r,h=>by rw[zcs]at h;cases h
 | k+1,a1,a2,a3,a4,r,h=>by
  rw[zcs]at h
  rcases fk h with ⟨h1,h⟩ | ⟨h1,h⟩
  ·obtain⟨h2,h⟩:=ck h
   obtain⟨a5,h3,h⟩:=sm h
   rcases fk h with ⟨h4,h⟩ | ⟨h4,h⟩
   ·cases h
    exact zw (pK3 (zi h1 (zae h2 (zab (zu zz h3) (zi h4 ob))))) (fun h=>by cases h)
   ·exact zF (pK3 (zi h1 (zae h2 (zab (zu zz h3) (zi h4 ob))))) (zcs.okL ht n k _ _ _ _ _ h)
  ·cases h
   exact zw (pK3 (zi h1 ob)) (fun h=>by cases h)
theorem zdX.ok {n:Nat} {t:Tab} (ht:TabOk t (run Tryz.prog own kp X n)):∀(p1:List Int) r,zdX t n p1=some r→run Tryz.prog own kp X (n+1) 110 [(Sl 1 (zA p1))] []=some ((I6 r),[]):=by
 intro p1 r h
 obtain⟨a1,rfl⟩:∃z_,z_=p1:=⟨_,rfl⟩
 rw[zdX]at h
 obtain⟨a2 | ⟨a3,a4,a5,a6,a7⟩,h1,h⟩:=sm h
 ·cases h
  exact zk Tryz.func110 (zD (zn zz (l:=a1)) (zaS (lk (sub [1,1,0,1,0] (zq Tryz.f110)) (by kernel_rfl) (zcs.okL ht n n _ _ _ _ _ h1)) ob)) (by kernel_rfl)
 ·cases h
  exact zk Tryz.func110 (zD (zn zz (l:=a1)) (zaS (lk (sub [1,1,0,1,0] (zq Tryz.f110)) (by kernel_rfl) (zcs.okL ht n n _ _ _ _ _ h1)) ob)) (by kernel_rfl)
theorem zG.okL (ht:TabOk t call) (n:Nat):∀(k:Nat) (a1 a2:List zh) (a3:Int) (a4:List zh) (a5 a6:Int) (r:_),zG t n k a1 a2 a3 a4 a5 a6=some r→loopN (exec (env Tryz.prog 114 Tryz.f114 call) n (sub [1,0,1,0,0] (zq Tryz.f114))) k (mkSt 39 39 [(0,(Sl 5 (zh.ts a1))),(1,(Sl 5 (zh.ts a2))),(2,(.fn 113 [(.ref (.v (.int .i64 a3)))])),(11,(Sl 5 (zh.ts a4))),(12,(I6 a5)),(13,(I6 a6))] [])=some (zG.to r)
 | 0,a1,a2,a3,a4,a5,a6,r,h=>by rw[zG]at h;cases h
 | k+1,a1,a2,a3,a4,a5,a6,r,h=>by
  rw[zG]at h
  rcases fk h with ⟨h1,h⟩ | ⟨h1,h⟩
  ·obtain⟨h2,h⟩:=ck h
   obtain⟨⟨a7,a8,a9,a10,a11⟩,h3,h⟩:=sm h
   have o4 {os} (x:Obls (env Tryz.prog 114 Tryz.f114 call) n os):=zi h1 (zae h2 (zab (zu zh.zl h3) (zD (zn zh.zl (l:=a2)) x)))
   rcases fk h with ⟨h4,h⟩ | ⟨h4,h⟩
   ·cases h
    exact zw (pK3 (o4 (zi h4 ob))) (fun h=>by cases h)
   ·obtain⟨⟨a12,a13,a14,a15,a16⟩,h5,h⟩:=sm h
    obtain⟨a17,h6,h⟩:=sm h
    rcases fk h with ⟨h7,h⟩ | ⟨h7,h⟩
    ·cases h
     exact zw (pK3 (o4 (zi h4 (zae h2 (zab (zu zh.zl h5) (zN (ht.za2 _ _ _ _ h6) (zi h7 ob))))))) (fun h=>by cases h)
    ·exact zF (pK3 (o4 (zi h4 (zae h2 (zab (zu zh.zl h5) (zN (ht.za2 _ _ _ _ h6) (zi h7 ob))))))) (zG.okL ht n k _ _ _ _ _ _ _ h)
  ·cases h
   exact zw (pK3 (zi h1 ob)) (fun h=>by cases h)
theorem zax.ok (ht:TabOk t call) (n:Nat) (a1 a2:List zh) (r:_) (h:zax t n a1 a2=some r):exec (env Tryz.prog 114 Tryz.f114 call) n (sub [1,1] (zq Tryz.f114)) (mkSt 39 39 [(0,(Sl 5 (zh.ts a1))),(1,(Sl 5 (zh.ts a2)))] [])=some (zax.to r):=by
 rw[zax]at h
 rcases fk h with ⟨h1,h⟩ | ⟨h1,h⟩
 ·cases h
  exact pK3 (zD (zn zh.zl (l:=a1)) (zD (zn zh.zl (l:=a2)) (zi h1 ob)))
 ·cases h
  exact pK3 (zD (zn zh.zl (l:=a1)) (zD (zn zh.zl (l:=a2)) (zi h1 ob)))
theorem zL.ok {n:Nat} {t:Tab} (ht:TabOk t (run Tryz.prog own kp X n)):∀(p1:List zh) (p2:List zh) (p3:Int) r,zL t n p1 p2 p3=some r→run Tryz.prog own kp X (n+1) 114 [(Sl 5 (zh.ts p1)),(Sl 5 (zh.ts p2)),(.fn 113 [(.ref (.v (.int .i64 p3)))])] []=some ((I6 r),[]):=by
 intro p1 p2 p3 r h
 obtain⟨a1,rfl⟩:∃z_,z_=p1:=⟨_,rfl⟩
 obtain⟨a2,rfl⟩:∃z_,z_=p2:=⟨_,rfl⟩
 obtain⟨a3,rfl⟩:∃z_,z_=p3:=⟨_,rfl⟩
 rw[zL]at h
 obtain⟨a4 | ⟨a5,a6,a7,a8,a9,a10,a11⟩,h1,h⟩:=sm h
 ·cases h
  exact zk Tryz.func114 (zD (zn zh.zl (l:=a1)) (zaS (lk (sub [1,0,1,0] (zq Tryz.f114)) (by kernel_rfl) (zG.okL ht n n _ _ _ _ _ _ _ h1)) ob)) (by kernel_rfl)
 ·obtain⟨a12,rfl⟩:∃z_,z_=r:=⟨_,rfl⟩
  have h2:=h
  exact zk Tryz.func114 (zD (zn zh.zl (l:=a1)) (zaS (lk (sub [1,0,1,0] (zq Tryz.f114)) (by kernel_rfl) (zG.okL ht n n _ _ _ _ _ _ _ h1)) (zI (zax.ok ht n _ _ _ h2) ob))) (by kernel_rfl)
theorem zdm.ok {n:Nat} {t:Tab} (ht:TabOk t (run Tryz.prog own kp X n)):∀(p1:ByteArray) r,zdm t n p1=some r→run Tryz.prog own kp X (n+1) 89 [(Sr p1)] []=some ((Bo r),[]):=by
 intro p1 r h
 obtain⟨a1,rfl⟩:∃z_,z_=p1:=⟨_,rfl⟩
 rw[zdm]at h
 obtain⟨a2,h1,h⟩:=sm h
 cases h
 exact zk Tryz.func89 (zN (ht.zdt _ _ h1) ob) (by kernel_rfl)
theorem zaY.okL (ht:TabOk t call) (n:Nat):∀(k:Nat) (a1:List (List zh)) (a2:Int) (a3:List (List zh)) (a4 a5:Int) (r:_),zaY t n k a1 a2 a3 a4 a5=some r→loopN (exec (env Tryz.prog 116 Tryz.f116 call) n (sub [1,1,0,1,0,0] (zq Tryz.f116))) k (mkSt 36 36 [(0,(Sl 1 (zcB a1))),(3,(I6 a2)),(9,(Sl 1 (zcB a3))),(10,(I6 a4)),(11,(I6 a5))] [])=some (zaY.to r)
 | 0,a1,a2,a3,a4,a5,r,h=>by rw[zaY]at h;cases h
 | k+1,a1,a2,a3,a4,a5,r,h=>by
  rw[zaY]at h
  rcases fk h with ⟨h1,h⟩ | ⟨h1,h⟩
  ·obtain⟨h2,h⟩:=ck h
   obtain⟨a6,h3,h⟩:=sm h
   rcases fk h with ⟨h4,h⟩ | ⟨h4,h⟩
   ·cases h
   ·exact zF (pK3 (zi h1 (zae h2 (zab (zu zeC h3) (zD (zn zh.zl (l:=a6)) (zi h4 ob)))))) (zaY.okL ht n k _ _ _ _ _ _ h)
  ·cases h
   exact zw (pK3 (zi h1 ob)) (fun h=>by cases h)
theorem zaZ.okL (ht:TabOk t call) (n:Nat):∀(k:Nat) (a1:List zh) (a2:List (List zh)) (a3 a4:Int) (r:_),zaZ t n k a1 a2 a3 a4=some r→loopN (exec (env Tryz.prog 116 Tryz.f116 call) n (sub [1,1,1,1,0,1,0,0] (zq Tryz.f116))) k (mkSt 36 36 [(6,(.t (.sl true 5 (zh.ts a1)))),(25,(Sl 1 (zcB a2))),(26,(I6 a3)),(27,(I6 a4))] [])=some (zaZ.to r)
 | 0,a1,a2,a3,a4,r,h=>by rw[zaZ]at h;cases h
 | k+1,a1,a2,a3,a4,r,h=>by
  rw[zaZ]at h
  rcases fk h with ⟨h1,h⟩ | ⟨h1,h⟩
  ·obtain⟨h2,h⟩:=ck h
   obtain⟨a5,h3,h⟩:=sm h
   obtain⟨h4,h⟩:=cl h
   exact zF (pK3 (zi h1 (zae h2 (zab (zu zeC h3) (zfm (zes zh.zl h4) (zfx (zeS zh.zl (a:=a1) (b:=a5)) ob)))))) (zaZ.okL ht n k _ _ _ _ _ h)
  ·cases h
   exact zw (pK3 (zi h1 ob)) (fun h=>by cases h)
theorem zcj.ok (ht:TabOk t call) (n:Nat) (a1:List (List zh)) (a2:Int) (r:_) (h:zcj t n a1 a2=some r):exec (env Tryz.prog 116 Tryz.f116 call) n (sub [1,1,1] (zq Tryz.f116)) (mkSt 36 36 [(0,(Sl 1 (zcB a1))),(3,(I6 a2))] [])=some (zcj.to r):=by
 rw[zcj]at h
 obtain⟨a3,h1,h⟩:=sm h
 obtain⟨⟨a4,a5,a6,a7,a8⟩,h2,h⟩:=sm h
 cases h
 exact pK3 (zN (ht.zeN _ _ _ h1) (zD (zn zeC (l:=a1)) (zaS (lk (sub [1,1,1,1,0,1,0] (zq Tryz.f116)) (by kernel_rfl) (zaZ.okL ht n n _ _ _ _ _ h2)) ob)))
theorem zaC.ok {n:Nat} {t:Tab} (ht:TabOk t (run Tryz.prog own kp X n)):∀(p1:List (List zh)) r,zaC t n p1=some r→run Tryz.prog own kp X (n+1) 116 [(Sl 1 (zcB p1))] []=some ((Sl 5 (zh.ts r)),[]):=by
 intro p1 r h
 obtain⟨a1,rfl⟩:∃z_,z_=p1:=⟨_,rfl⟩
 rw[zaC]at h
 obtain⟨⟨a2,a3,a4,a5,a6,a7⟩,h1,h⟩:=sm h
 obtain⟨a8,rfl⟩:∃z_,z_=r:=⟨_,rfl⟩
 have h2:=h
 exact zk Tryz.func116 (zD (zn zeC (l:=a1)) (zaS (lk (sub [1,1,0,1,0] (zq Tryz.f116)) (by kernel_rfl) (zaY.okL ht n n _ _ _ _ _ _ h1)) (zI (zcj.ok ht n _ _ _ h2) ob))) (by kernel_rfl)
theorem zcV.ok (ht:TabOk t call) (n:Nat) (a1:Int) (a2:Bool) (r:_) (h:zcV t n a1 a2=some r):exec (env Tryz.prog 117 Tryz.f117 call) n (sub [1,0,0,1,1,1,1,1] (zq Tryz.f117)) (mkSt 37 37 [(0,(I6 a1)),(20,(Bo a2))] [])=some (zcV.to r):=by
 rw[zcV]at h
 rcases fk h with ⟨h1,h⟩ | ⟨h1,h⟩
 ·cases h
  exact pK3 (zi h1 ob)
 ·rcases fk h with ⟨h2,h⟩ | ⟨h2,h⟩
  ·cases h
   exact pK3 (zi h1 (zi h2 ob))
  ·rcases fk h with ⟨h3,h⟩ | ⟨h3,h⟩
   ·cases h
    exact pK3 (zi h1 (zi h2 (zy h3 (zck 1 ob))))
   ·rcases fk h with ⟨h4,h⟩ | ⟨h4,h⟩
    ·cases h
     exact pK3 (zi h1 (zi h2 (zy h3 (zi h4 ob))))
    ·cases h
     exact pK3 (zi h1 (zi h2 (zy h3 (zi h4 ob))))
theorem zcW.ok (ht:TabOk t call) (n:Nat) (a1:Int) (a2:Bool) (r:_) (h:zcW t n a1 a2=some r):exec (env Tryz.prog 117 Tryz.f117 call) n (sub [1,0,0,1,1,1] (zq Tryz.f117)) (mkSt 37 37 [(0,(I6 a1)),(13,(Bo a2))] [])=some (zcW.to r):=by
 rw[zcW]at h
 rcases fk h with ⟨h1,h⟩ | ⟨h1,h⟩
 ·cases h
  exact pK3 (zi h1 ob)
 ·rcases fk h with ⟨h2,h⟩ | ⟨h2,h⟩
  ·have h3:=h
   rcases r with ⟨a3,a4,a5,a6⟩ | _
   ·exact pK3 (zi h1 (zy h2 (zI (zcV.ok ht n _ _ _ h3) ob)))
   ·exact pK3 (zi h1 (zy h2 (zI (zcV.ok ht n _ _ _ h3) ob)))
  ·have h4:=h
   rcases r with ⟨a7,a8,a9,a10⟩ | _
   ·exact pK3 (zi h1 (zy h2 (zI (zcV.ok ht n _ _ _ h4) ob)))
   ·exact pK3 (zi h1 (zy h2 (zI (zcV.ok ht n _ _ _ h4) ob)))
theorem zbn.ok (ht:TabOk t call) (n:Nat) (a1:Int) (a2:Bool) (r:_) (h:zbn t n a1 a2=some r):exec (env Tryz.prog 117 Tryz.f117 call) n (sub [1,0,0,1] (zq Tryz.f117)) (mkSt 37 37 [(0,(I6 a1)),(6,(Bo a2))] [])=some (zbn.to r):=by
 rw[zbn]at h
 rcases fk h with ⟨h1,h⟩ | ⟨h1,h⟩
 ·cases h
  exact pK3 (zi h1 ob)
 ·rcases fk h with ⟨h2,h⟩ | ⟨h2,h⟩
  ·have h3:=h
   rcases r with ⟨a3,a4,a5,a6⟩ | _
   ·exact pK3 (zi h1 (zy h2 (zI (zcW.ok ht n _ _ _ h3) ob)))
   ·exact pK3 (zi h1 (zy h2 (zI (zcW.ok ht n _ _ _ h3) ob)))
  ·have h4:=h
   rcases r with ⟨a7,a8,a9,a10⟩ | _
   ·exact pK3 (zi h1 (zy h2 (zI (zcW.ok ht n _ _ _ h4) ob)))
   ·exact pK3 (zi h1 (zy h2 (zI (zcW.ok ht n _ _ _ h4) ob)))
theorem zcP.ok {n:Nat} {t:Tab} (ht:TabOk t (run Tryz.prog own kp X n)):∀(p1:Int) r,zcP t n p1=some r→run Tryz.prog own kp X (n+1) 117 [(I6 p1)] []=some ((.tup [(.v (.int .i64 r.1)),(.v (.int .i64 r.2.1)),(.v (.int .i64 r.2.2.1)),(.v (.int .i64 r.2.2.2))]),[]):=by
 intro p1 r h
 obtain⟨a1,rfl⟩:∃z_,z_=p1:=⟨_,rfl⟩
 rw[zcP]at h
 rcases fk h with ⟨h1,h⟩ | ⟨h1,h⟩
 ·obtain⟨⟨a2,a3,a4,a5⟩ | _,h2,h⟩:=sm h
  ·cases h
   exact zk Tryz.func117 (zy h1 (zI (zbn.ok ht n _ _ _ h2) ob)) (by kernel_rfl)
  ·cases h
   exact zk Tryz.func117 (zy h1 (zI (zbn.ok ht n _ _ _ h2) ob)) (by kernel_rfl)
 ·obtain⟨⟨a6,a7,a8,a9⟩ | _,h3,h⟩:=sm h
  ·cases h
   exact zk Tryz.func117 (zy h1 (zI (zbn.ok ht n _ _ _ h3) ob)) (by kernel_rfl)
  ·cases h
   exact zk Tryz.func117 (zy h1 (zI (zbn.ok ht n _ _ _ h3) ob)) (by kernel_rfl)
theorem zR.ok {n:Nat} {t:Tab} (ht:TabOk t (run Tryz.prog own kp X n)):∀(p1:List GPred) (p2:Int) r,zR t n p1 p2=some r→run Tryz.prog own kp X (n+1) 120 [(Sl 3 (GPred.ts p1)),(.fn 118 [(.ref (.v (.int .i64 p2)))])] []=some ((Bo r),[]):=by
 intro p1 p2 r h
 obtain⟨a1,rfl⟩:∃z_,z_=p1:=⟨_,rfl⟩
 obtain⟨a2,rfl⟩:∃z_,z_=p2:=⟨_,rfl⟩
 rw[zR]at h
 obtain⟨a3,h1,h⟩:=sm h
 cases h
 exact zk Tryz.func120 (zN (ht.zak _ _ _ h1) ob) (by kernel_rfl)
theorem zY.ok {n:Nat} {t:Tab} (ht:TabOk t (run Tryz.prog own kp X n)):∀(p1:List zh) r,zY t n p1=some r→run Tryz.prog own kp X (n+1) 121 [(Sl 5 (zh.ts p1)),(.fn 119 [])] []=some ((Bo r),[]):=by
 intro p1 r h
 obtain⟨a1,rfl⟩:∃z_,z_=p1:=⟨_,rfl⟩
 rw[zY]at h
 obtain⟨a2,h1,h⟩:=sm h
 cases h
 exact zk Tryz.func121 (zN (ht.zal _ _ h1) ob) (by kernel_rfl)
theorem zav.okL (ht:TabOk t call) (n:Nat):∀(k:Nat) (a1:List ByteArray) (a2:ByteArray) (a3 a4:Int) (r:_),zav t n k a1 a2 a3 a4=some r→loopN (exec (env Tryz.prog 122 Tryz.f122 call) n (sub [1,0,1,0,0] (zq Tryz.f122))) k (mkSt 19 19 [(0,(Sl 1 (texts a1))),(1,(Sr a2)),(7,(I6 a3)),(8,(I6 a4))] [])=some (zav.to r)
 | 0,a1,a2,a3,a4,r,h=>by rw[zav]at h;cases h
 | k+1,a1,a2,a3,a4,r,h=>by
  rw[zav]at h
  rcases fk h with ⟨h1,h⟩ | ⟨h1,h⟩
  ·obtain⟨h2,h⟩:=ck h
   obtain⟨a5,h3,h⟩:=sm h
   rcases fk h with ⟨h4,h⟩ | ⟨h4,h⟩
   ·cases h
    exact zw (pK3 (zi h1 (zae h2 (zab (zu zJ h3) (zi h4 ob))))) (fun h=>by cases h)
   ·exact zF (pK3 (zi h1 (zae h2 (zab (zu zJ h3) (zi h4 ob))))) (zav.okL ht n k _ _ _ _ _ h)
  ·cases h
   exact zw (pK3 (zi h1 ob)) (fun h=>by cases h)
theorem slices_Index_string.ok {n:Nat} {t:Tab} (ht:TabOk t (run Tryz.prog own kp X n)):∀(p1:List ByteArray) (p2:ByteArray) r,slices_Index_string t n p1 p2=some r→run Tryz.prog own kp X (n+1) 122 [(Sl 1 (texts p1)),(Sr p2)] []=some ((I6 r),[]):=by
 intro p1 p2 r h
 obtain⟨a1,rfl⟩:∃z_,z_=p1:=⟨_,rfl⟩
 obtain⟨a2,rfl⟩:∃z_,z_=p2:=⟨_,rfl⟩
 rw[slices_Index_string]at h
 obtain⟨a3 | ⟨a4,a5,a6,a7,a8⟩,h1,h⟩:=sm h
 ·cases h
  exact zk Tryz.func122 (zD (zn zJ (l:=a1)) (zaS (lk (sub [1,0,1,0] (zq Tryz.f122)) (by kernel_rfl) (zav.okL ht n n _ _ _ _ _ h1)) ob)) (by kernel_rfl)
 ·cases h
  exact zk Tryz.func122 (zD (zn zJ (l:=a1)) (zaS (lk (sub [1,0,1,0] (zq Tryz.f122)) (by kernel_rfl) (zav.okL ht n n _ _ _ _ _ h1)) ob)) (by kernel_rfl)
theorem zM.okL (ht:TabOk t call) (n:Nat):∀(k:Nat) (a1:List Int) (a2 a3:Int) (r:_),zM t n k a1 a2 a3=some r→loopN (exec (env Tryz.prog 115 Tryz.f115 call) n (sub [1,0,1,0,0] (zq Tryz.f115))) k (mkSt 19 19 [(0,(Sl 1 (zA a1))),(1,(.fn 106 [])),(7,(I6 a2)),(8,(I6 a3))] [])=some (zM.to r)
 | 0,a1,a2,a3,r,h=>by rw[zM]at h;cases h
 | k+1,a1,a2,a3,r,h=>by
  rw[zM]at h
  rcases fk h with ⟨h1,h⟩ | ⟨h1,h⟩
  ·obtain⟨h2,h⟩:=ck h
   obtain⟨a4,h3,h⟩:=sm h
   obtain⟨a5,h4,h⟩:=sm h
   rcases fk h with ⟨h5,h⟩ | ⟨h5,h⟩
   ·cases h
    exact zw (pK3 (zi h1 (zae h2 (zab (zu zz h3) (zN (ht.zbA _ _ h4) (zi h5 ob)))))) (fun h=>by cases h)
   ·exact zF (pK3 (zi h1 (zae h2 (zab (zu zz h3) (zN (ht.zbA _ _ h4) (zi h5 ob)))))) (zM.okL ht n k _ _ _ _ h)
  ·cases h
   exact zw (pK3 (zi h1 ob)) (fun h=>by cases h)
theorem zad.ok {n:Nat} {t:Tab} (ht:TabOk t (run Tryz.prog own kp X n)):∀(p1:List Int) r,zad t n p1=some r→run Tryz.prog own kp X (n+1) 115 [(Sl 1 (zA p1)),(.fn 106 [])] []=some ((I6 r),[]):=by
 intro p1 r h
 obtain⟨a1,rfl⟩:∃z_,z_=p1:=⟨_,rfl⟩
 rw[zad]at h
 obtain⟨a2 | ⟨a3,a4,a5,a6⟩,h1,h⟩:=sm h
 ·cases h
  exact zk Tryz.func115 (zD (zn zz (l:=a1)) (zaS (lk (sub [1,0,1,0] (zq Tryz.f115)) (by kernel_rfl) (zM.okL ht n n _ _ _ _ h1)) ob)) (by kernel_rfl)
 ·cases h
  exact zk Tryz.func115 (zD (zn zz (l:=a1)) (zaS (lk (sub [1,0,1,0] (zq Tryz.f115)) (by kernel_rfl) (zM.okL ht n n _ _ _ _ h1)) ob)) (by kernel_rfl)
theorem zaM.ok (ht:TabOk t call) (n:Nat) (a1:Int) (a2 a3:Bool) (r:_) (h:zaM t n a1 a2 a3=some r):exec (env Tryz.prog 103 Tryz.f103 call) n (sub [1,0,0,0,1] (zq Tryz.f103)) (mkSt 29 29 [(0,(.t (.v (.int .u8 a1)))),(1,(Bo a2)),(5,(Bo a3))] [])=some (zaM.to r):=by
 rw[zaM]at h
 rcases fk h with ⟨h1,h⟩ | ⟨h1,h⟩
 ·cases h
  exact pK3 (zi h1 ob)
 ·rcases fk h with ⟨h2,h⟩ | ⟨h2,h⟩
  ·rcases fk h with ⟨h3,h⟩ | ⟨h3,h⟩
   ·cases h
    exact pK3 (zi h1 (zy h2 (zi h3 ob)))
   ·cases h
    exact pK3 (zi h1 (zy h2 (zi h3 ob)))
  ·cases h
   exact pK3 (zi h1 (zy h2 (zi (rfl:false=false) ob)))
theorem zaN.ok (ht:TabOk t call) (n:Nat) (a1:Int) (a2 a3:Bool) (r:_) (h:zaN t n a1 a2 a3=some r):exec (env Tryz.prog 103 Tryz.f103 call) n (sub [1,0,0,1] (zq Tryz.f103)) (mkSt 29 29 [(0,(.t (.v (.int .u8 a1)))),(1,(Bo a2)),(5,(Bo a3))] [])=some (zaN.to r):=by
 rw[zaN]at h
 rcases fk h with ⟨h1,h⟩ | ⟨h1,h⟩
 ·cases h
  exact pK3 (zi h1 ob)
 ·rcases fk h with ⟨h2,h⟩ | ⟨h2,h⟩
  ·rcases fk h with ⟨h3,h⟩ | ⟨h3,h⟩
   ·cases h
    exact pK3 (zi h1 (zy h2 (zi h3 ob)))
   ·cases h
    exact pK3 (zi h1 (zy h2 (zi h3 ob)))
  ·cases h
   exact pK3 (zi h1 (zy h2 (zi (rfl:false=false) ob)))
theorem zdD.ok {n:Nat} {t:Tab} (ht:TabOk t (run Tryz.prog own kp X n)):∀(p1:Int) (p2:Bool) r,zdD t n p1 p2=some r→run Tryz.prog own kp X (n+1) 103 [(.t (.v (.int .u8 p1))),(Bo p2)] []=some ((Bo r),[]):=by
 intro p1 p2 r h
 obtain⟨a1,rfl⟩:∃z_,z_=p1:=⟨_,rfl⟩
 obtain⟨a2,rfl⟩:∃z_,z_=p2:=⟨_,rfl⟩
 rw[zdD]at h
 rcases fk h with ⟨h1,h⟩ | ⟨h1,h⟩
 ·obtain⟨⟨a3,a4,a5⟩,h2,h⟩:=sm h
  obtain⟨a6 | _,h3,h⟩:=sm h
  ·cases h
   exact zk Tryz.func103 (zy h1 (zI (zaM.ok ht n _ _ _ _ h2) (zI (zaN.ok ht n _ _ _ _ h3) ob))) (by kernel_rfl)
  ·cases h
   exact zk Tryz.func103 (zy h1 (zI (zaM.ok ht n _ _ _ _ h2) (zI (zaN.ok ht n _ _ _ _ h3) ob))) (by kernel_rfl)
 ·obtain⟨⟨a7,a8,a9⟩,h4,h⟩:=sm h
  obtain⟨a10 | _,h5,h⟩:=sm h
  ·cases h
   exact zk Tryz.func103 (zy h1 (zI (zaM.ok ht n _ _ _ _ h4) (zI (zaN.ok ht n _ _ _ _ h5) ob))) (by kernel_rfl)
  ·cases h
   exact zk Tryz.func103 (zy h1 (zI (zaM.ok ht n _ _ _ _ h4) (zI (zaN.ok ht n _ _ _ _ h5) ob))) (by kernel_rfl)
theorem cmp_isNaN_int.ok {n:Nat} {t:Tab} (ht:TabOk t (run Tryz.prog own kp X n)):∀(p1:Int) r,cmp_isNaN_int t n p1=some r→run Tryz.prog own kp X (n+1) 123 [(I6 p1)] []=some ((Bo r),[]):=by
 intro p1 r h
 obtain⟨a1,rfl⟩:∃z_,z_=p1:=⟨_,rfl⟩
 rw[cmp_isNaN_int]at h
 cases h
 exact zk Tryz.func123 ob (by kernel_rfl)
theorem za2.ok {n:Nat} {t:Tab} (ht:TabOk t (run Tryz.prog own kp X n)):∀(p1:zh) (p2:zh) (p3:Int) r,za2 t n p1 p2 p3=some r→run Tryz.prog own kp X (n+1) 113 [(.t (zh.t p1)),(.t (zh.t p2)),(.ref (.v (.int .i64 p3)))] []=some ((I6 r),[]):=by
 intro p1 p2 p3 r h
 obtain⟨a1,a2,a3,a4,a5⟩:=p1
 obtain⟨a6,a7,a8,a9,a10⟩:=p2
 obtain⟨a11,rfl⟩:∃z_,z_=p3:=⟨_,rfl⟩
 rw[za2]at h
 obtain⟨a12,rfl⟩:∃z_,z_=r:=⟨_,rfl⟩
 have h1:=h
 exact zk Tryz.func113 (zN (ht.zbC _ _ _ _ h1) ob) (by kernel_rfl)
theorem zS.okL (ht:TabOk t call) (n:Nat):∀(k:Nat) (a1:List GPred) (a2 a3 a4:Int) (r:_),zS t n k a1 a2 a3 a4=some r→loopN (exec (env Tryz.prog 126 Tryz.f126 call) n (sub [1,0,1,0,0] (zq Tryz.f126))) k (mkSt 19 19 [(0,(Sl 3 (GPred.ts a1))),(1,(.fn 118 [(.ref (.v (.int .i64 a2)))])),(7,(I6 a3)),(8,(I6 a4))] [])=some (zS.to r)
 | 0,a1,a2,a3,a4,r,h=>by rw[zS]at h;cases h
 | k+1,a1,a2,a3,a4,r,h=>by
  rw[zS]at h
  rcases fk h with ⟨h1,h⟩ | ⟨h1,h⟩
  ·obtain⟨h2,h⟩:=ck h
   obtain⟨⟨a5,a6,a7⟩,h3,h⟩:=sm h
   obtain⟨a8,h4,h⟩:=sm h
   rcases fk h with ⟨h5,h⟩ | ⟨h5,h⟩
   ·cases h
    exact zw (pK3 (zi h1 (zae h2 (zab (zu GPred.zl h3) (zN (ht.zcx _ _ _ h4) (zi h5 ob)))))) (fun h=>by cases h)
   ·exact zF (pK3 (zi h1 (zae h2 (zab (zu GPred.zl h3) (zN (ht.zcx _ _ _ h4) (zi h5 ob)))))) (zS.okL ht n k _ _ _ _ _ h)
  ·cases h
   exact zw (pK3 (zi h1 ob)) (fun h=>by cases h)
theorem zak.ok {n:Nat} {t:Tab} (ht:TabOk t (run Tryz.prog own kp X n)):∀(p1:List GPred) (p2:Int) r,zak t n p1 p2=some r→run Tryz.prog own kp X (n+1) 126 [(Sl 3 (GPred.ts p1)),(.fn 118 [(.ref (.v (.int .i64 p2)))])] []=some ((I6 r),[]):=by
 intro p1 p2 r h
 obtain⟨a1,rfl⟩:∃z_,z_=p1:=⟨_,rfl⟩
 obtain⟨a2,rfl⟩:∃z_,z_=p2:=⟨_,rfl⟩
 rw[zak]at h
 obtain⟨a3 | ⟨a4,a5,a6,a7,a8⟩,h1,h⟩:=sm h
 ·cases h
  exact zk Tryz.func126 (zD (zn GPred.zl (l:=a1)) (zaS (lk (sub [1,0,1,0] (zq Tryz.f126)) (by kernel_rfl) (zS.okL ht n n _ _ _ _ _ h1)) ob)) (by kernel_rfl)
 ·cases h
  exact zk Tryz.func126 (zD (zn GPred.zl (l:=a1)) (zaS (lk (sub [1,0,1,0] (zq Tryz.f126)) (by kernel_rfl) (zS.okL ht n n _ _ _ _ _ h1)) ob)) (by kernel_rfl)
theorem zT.okL (ht:TabOk t call) (n:Nat):∀(k:Nat) (a1:List zh) (a2 a3:Int) (r:_),zT t n k a1 a2 a3=some r→loopN (exec (env Tryz.prog 127 Tryz.f127 call) n (sub [1,0,1,0,0] (zq Tryz.f127))) k (mkSt 19 19 [(0,(Sl 5 (zh.ts a1))),(1,(.fn 119 [])),(7,(I6 a2)),(8,(I6 a3))] [])=some (zT.to r)
 | 0,a1,a2,a3,r,h=>by rw[zT]at h;cases h
 | k+1,a1,a2,a3,r,h=>by
  rw[zT]at h
  rcases fk h with ⟨h1,h⟩ | ⟨h1,h⟩
  ·obtain⟨h2,h⟩:=ck h
   obtain⟨⟨a4,a5,a6,a7,a8⟩,h3,h⟩:=sm h
   obtain⟨a9,h4,h⟩:=sm h
   rcases fk h with ⟨h5,h⟩ | ⟨h5,h⟩
   ·cases h
    exact zw (pK3 (zi h1 (zae h2 (zab (zu zh.zl h3) (zN (ht.zcy _ _ h4) (zi h5 ob)))))) (fun h=>by cases h)
   ·exact zF (pK3 (zi h1 (zae h2 (zab (zu zh.zl h3) (zN (ht.zcy _ _ h4) (zi h5 ob)))))) (zT.okL ht n k _ _ _ _ h)
  ·cases h
   exact zw (pK3 (zi h1 ob)) (fun h=>by cases h)
theorem zal.ok {n:Nat} {t:Tab} (ht:TabOk t (run Tryz.prog own kp X n)):∀(p1:List zh) r,zal t n p1=some r→run Tryz.prog own kp X (n+1) 127 [(Sl 5 (zh.ts p1)),(.fn 119 [])] []=some ((I6 r),[]):=by
 intro p1 r h
 obtain⟨a1,rfl⟩:∃z_,z_=p1:=⟨_,rfl⟩
 rw[zal]at h
 obtain⟨a2 | ⟨a3,a4,a5,a6⟩,h1,h⟩:=sm h
 ·cases h
  exact zk Tryz.func127 (zD (zn zh.zl (l:=a1)) (zaS (lk (sub [1,0,1,0] (zq Tryz.f127)) (by kernel_rfl) (zT.okL ht n n _ _ _ _ h1)) ob)) (by kernel_rfl)
 ·cases h
  exact zk Tryz.func127 (zD (zn zh.zl (l:=a1)) (zaS (lk (sub [1,0,1,0] (zq Tryz.f127)) (by kernel_rfl) (zT.okL ht n n _ _ _ _ h1)) ob)) (by kernel_rfl)
theorem zbA.ok {n:Nat} {t:Tab} (ht:TabOk t (run Tryz.prog own kp X n)):∀(p1:Int) r,zbA t n p1=some r→run Tryz.prog own kp X (n+1) 106 [(I6 p1)] []=some ((Bo r),[]):=by
 intro p1 r h
 obtain⟨a1,rfl⟩:∃z_,z_=p1:=⟨_,rfl⟩
 rw[zbA]at h
 cases h
 exact zk Tryz.func106 ob (by kernel_rfl)
theorem zcx.ok {n:Nat} {t:Tab} (ht:TabOk t (run Tryz.prog own kp X n)):∀(p1:GPred) (p2:Int) r,zcx t n p1 p2=some r→run Tryz.prog own kp X (n+1) 118 [(.t (GPred.t p1)),(.ref (.v (.int .i64 p2)))] []=some ((Bo r),[]):=by
 intro p1 p2 r h
 obtain⟨a1,a2,a3⟩:=p1
 obtain⟨a4,rfl⟩:∃z_,z_=p2:=⟨_,rfl⟩
 rw[zcx]at h
 obtain⟨a5,h1,h⟩:=sm h
 cases h
 exact zk Tryz.func118 (zN (ht.zcO _ _ _ h1) ob) (by kernel_rfl)
theorem zcy.ok {n:Nat} {t:Tab} (ht:TabOk t (run Tryz.prog own kp X n)):∀(p1:zh) r,zcy t n p1=some r→run Tryz.prog own kp X (n+1) 119 [(.t (zh.t p1))] []=some ((Bo r),[]):=by
 intro p1 r h
 obtain⟨a1,a2,a3,a4,a5⟩:=p1
 rw[zcy]at h
 obtain⟨a6,h1,h⟩:=sm h
 cases h
 exact zk Tryz.func119 (zN (ht.zch _ _ h1) ob) (by kernel_rfl)
end Go.Proofs.YtgmidllbkjdnnaaGreatDoor.W
