/- The proofs of it, part 1. -/
import Derived.Test.YtgmidllbkjdnnaaDoorL6D0
namespace Go.Proofs.YtgmidllbkjdnnaaDoor.W
open Go.Proofs.YtgmidllbkjdnnaaDoor.Flat
set_option linter.unusedVariables false
set_option linter.unusedSimpArgs false
set_option smartUnfolding false
attribute [local irreducible] zaJ zaK zaZ zaR zaI za7 zcw zbE zao zaC zbD zbd zc7 quoI zct zcu zcT zbr zcV zcx zcv zbh zb0 zcf zcQ remI strAt zaO
variable {t:Tab} {call:FuncId→List AV→List AV→Option (AV × List AV)}
theorem zcE.ok (ht:TabOk t call) (n:Nat) (a1 a2 a3 a4:Int) (a5:ByteArray) (a6 a7:List zh) (a8 a9:Int) (a10:ByteArray) (a11 a12:List zh) (r:_) (h:zcE t n a1 a2 a3 a4 a5 a6 a7 a8 a9 a10 a11 a12=some r):exec (env Tryd.prog 44 Tryd.f44 call) n (sub [1,1,1] (zt Tryd.f44)) (mkSt 54 54 [(2,(I6 a1)),(3,(.ptr 3 0 [] 0)),(4,(.ptr 4 0 [] 0)),(7,(I6 a2))] [(3,(.t (.st [(.v (.int .i64 a3)),(.v (.int .i64 a4)),(.v (.string a5)),(.sl false 5 (zh.ts a6)),(.sl false 5 (zh.ts a7))]))),(4,(.t (.st [(.v (.int .i64 a8)),(.v (.int .i64 a9)),(.v (.string a10)),(.sl false 5 (zh.ts a11)),(.sl false 5 (zh.ts a12))])))])=some (zcE.to r):=by
 rw[zcE]at h
 rcases fk h with ⟨h1,h⟩ | ⟨h1,h⟩
 ·obtain⟨a13,h2,h⟩:=sm h
  obtain⟨a14,rfl⟩:∃z_,z_=r:=⟨_,rfl⟩
  have h3:=h
  exact path (zi h1 (zZ (ht.zdq _ _ _ h2) (zaw (zcD.ok ht n _ _ _ _ _ _ _ _ _ _ _ _ _ h3) ob))) (by kernel_rfl)
 ·obtain⟨a15,rfl⟩:∃z_,z_=r:=⟨_,rfl⟩
  have h4:=h
  exact path (zi h1 (zaw (zcD.ok ht n _ _ _ _ _ _ _ _ _ _ _ _ _ h4) ob)) (by kernel_rfl)
theorem zcg.ok {n:Nat} {t:Tab} (ht:TabOk t (run Tryd.prog own kp X n)):∀(p1:zh) (p2:zh) (p3:Int) r,zcg t n p1 p2 p3=some r→run Tryd.prog own kp X (n+1) 44 [(.t (zh.t p1)),(.t (zh.t p2)),(I6 p3)] []=some ((I6 r),[]):=by
 intro p1 p2 p3 r h
 obtain⟨a1,a2,a3,a4,a5⟩:=p1
 obtain⟨a6,a7,a8,a9,a10⟩:=p2
 obtain⟨a11,rfl⟩:∃z_,z_=p3:=⟨_,rfl⟩
 rw[zcg]at h
 obtain⟨a12,h1,h⟩:=sm h
 rcases fk h with ⟨h2,h⟩ | ⟨h2,h⟩
 ·obtain⟨a13,h3,h⟩:=sm h
  obtain⟨a14,rfl⟩:∃z_,z_=r:=⟨_,rfl⟩
  have h4:=h
  exact zk Tryd.func44 (zZ (ht.zca _ _ _ h1) (zi h2 (zZ (ht.zca _ _ _ h3) (zaw (zcE.ok ht n _ _ _ _ _ _ _ _ _ _ _ _ _ h4) ob)))) (by kernel_rfl)
 ·obtain⟨a15,rfl⟩:∃z_,z_=r:=⟨_,rfl⟩
  have h5:=h
  exact zk Tryd.func44 (zZ (ht.zca _ _ _ h1) (zi h2 (zaw (zcE.ok ht n _ _ _ _ _ _ _ _ _ _ _ _ _ h5) ob))) (by kernel_rfl)
theorem zbx.okL (ht:TabOk t call) (n:Nat):∀(k:Nat) (a1 a2:List zh) (a3:Int) (r:_),zbx t n k a1 a2 a3=some r→loopN (exec (env Tryd.prog 45 Tryd.f45 call) n (sub [1,1,0,1,0,0] (zt Tryd.f45))) k (mkSt 27 27 [(0,(Sl 5 (zh.ts a1))),(1,(Sl 5 (zh.ts a2))),(5,(I6 a3))] [])=some (zbx.to r)
 | 0,a1,a2,a3,r,h=>by rw[zbx]at h;cases h
 | k+1,a1,a2,a3,r,h=>by
  rw[zbx]at h
  rcases fk h with ⟨h1,h⟩ | ⟨h1,h⟩
  ·obtain⟨h2,h⟩:=ck h
   obtain⟨⟨a4,a5,a6,a7,a8⟩,h3,h⟩:=sm h
   obtain⟨⟨a9,a10,a11,a12,a13⟩,h4,h⟩:=sm h
   obtain⟨a14,h5,h⟩:=sm h
   have o7 {os} (x:Obls (env Tryd.prog 45 Tryd.f45 call) n os):=zP (zq zh.zl (l:=a1)) (zi h1 (zav h2 (zad (zu zh.zl h3) (zav h2 (zad (zu zh.zl h4) (zZ (ht.zdl _ _ _ h5) x))))))
   rcases fk h with ⟨h6,h⟩ | ⟨h6,h⟩
   ·exact zT (path (o7 (zi (ng h6) ob)) (by kernel_rfl)) (zbx.okL ht n k _ _ _ _ h)
   ·cases h
    exact zx (path (o7 (zi (ng h6) ob)) (by kernel_rfl)) (fun h=>by cases h)
  ·cases h
   exact zx (path (zP (zq zh.zl (l:=a1)) (zi h1 ob)) (by kernel_rfl)) (fun h=>by cases h)
theorem zcU.ok {n:Nat} {t:Tab} (ht:TabOk t (run Tryd.prog own kp X n)):∀(p1:List zh) (p2:List zh) r,zcU t n p1 p2=some r→run Tryd.prog own kp X (n+1) 45 [(Sl 5 (zh.ts p1)),(Sl 5 (zh.ts p2))] []=some ((Bo r),[]):=by
 intro p1 p2 r h
 obtain⟨a1,rfl⟩:∃z_,z_=p1:=⟨_,rfl⟩
 obtain⟨a2,rfl⟩:∃z_,z_=p2:=⟨_,rfl⟩
 rw[zcU]at h
 have o2 {os} (x:Obls (env Tryd.prog 45 Tryd.f45 (run Tryd.prog own kp X n)) n os):=zP (zq zh.zl (l:=a1)) (zP (zq zh.zl (l:=a2)) x)
 rcases fk h with ⟨h1,h⟩ | ⟨h1,h⟩
 ·cases h
  exact zk Tryd.func45 (o2 (zi h1 ob)) (by kernel_rfl)
 ·obtain⟨a3 | ⟨a4,a5,a6,a7⟩,h2,h⟩:=sm h
  ·cases h
   exact zk Tryd.func45 (o2 (zi h1 (zbq (lk (sub [1,1,0,1,0] (zt Tryd.f45)) (by kernel_rfl) (zbx.okL ht n n _ _ _ _ h2)) ob))) (by kernel_rfl)
  ·cases h
   exact zk Tryd.func45 (o2 (zi h1 (zbq (lk (sub [1,1,0,1,0] (zt Tryd.f45)) (by kernel_rfl) (zbx.okL ht n n _ _ _ _ h2)) ob))) (by kernel_rfl)
theorem zc6.ok {n:Nat} {t:Tab} (ht:TabOk t (run Tryd.prog own kp X n)):∀(p1:List GCode) (p2:List GCode) r,zc6 t n p1 p2=some r→run Tryd.prog own kp X (n+1) 22 [(Sl 14 (GCode.ts p1)),(Sl 14 (GCode.ts p2))] []=some ((Bo r),[]):=by
 intro p1 p2 r h
 obtain⟨a1,rfl⟩:∃z_,z_=p1:=⟨_,rfl⟩
 obtain⟨a2,rfl⟩:∃z_,z_=p2:=⟨_,rfl⟩
 rw[zc6]at h
 obtain⟨a3,rfl⟩:∃z_,z_=r:=⟨_,rfl⟩
 have h1:=h
 exact zk Tryd.func22 (zZ (ht.zaD _ _ _ h1) ob) (by kernel_rfl)
theorem zbD.ok (ht:TabOk t call) (n:Nat) (a1 a2 a3:Int) (a4 a5:List GStep) (a6 a7:Int) (a8:List (List GStep)) (a9 a10:Int) (a11:Bool) (r:_) (h:zbD t n a1 a2 a3 a4 a5 a6 a7 a8 a9 a10 a11=some r):exec (env Tryd.prog 47 Tryd.f47 call) n (sub [1,1,0,1,0,0,1,1,0,0,1,1,1,0,0,1,1,0,0,1,1] (zt Tryd.f47)) (mkSt 50 50 [(1,(I6 a1)),(2,(I6 a2)),(7,(I6 a3)),(11,(Sl 14 (GStep.ts a4))),(12,(Sl 14 (GStep.ts a5))),(13,(I6 a6)),(14,(I6 a7)),(25,(Sl 1 (zo a8))),(26,(I6 a9)),(27,(I6 a10)),(37,(Bo a11))] [])=some (zbD.to r):=by
 rw[zbD]at h
 rcases fk h with ⟨h1,h⟩ | ⟨h1,h⟩
 ·obtain⟨a12,h2,h⟩:=sm h
  cases h
  exact path (zi h1 (zZ (ht.zbV _ _ _ _ h2) ob)) (by kernel_rfl)
 ·cases h
  exact path (zi h1 ob) (by kernel_rfl)
theorem zaU.okL (ht:TabOk t call) (n:Nat):∀(k:Nat) (a1 a2 a3:Int) (a4:List GStep) (a5 a6:Int) (a7:List (List GStep)) (a8 a9:Int) (r:_),zaU t n k a1 a2 a3 a4 a5 a6 a7 a8 a9=some r→loopN (exec (env Tryd.prog 47 Tryd.f47 call) n (sub [1,1,0,1,0,0,1,1,0,0,1,1,1,0,0] (zt Tryd.f47))) k (mkSt 50 50 [(1,(I6 a1)),(2,(I6 a2)),(7,(I6 a3)),(12,(Sl 14 (GStep.ts a4))),(13,(I6 a5)),(14,(I6 a6)),(25,(Sl 1 (zo a7))),(26,(I6 a8)),(27,(I6 a9))] [])=some (zaU.to r)
 | 0,a1,a2,a3,a4,a5,a6,a7,a8,a9,r,h=>by rw[zaU]at h;cases h
 | k+1,a1,a2,a3,a4,a5,a6,a7,a8,a9,r,h=>by
  rw[zaU]at h
  rcases fk h with ⟨h1,h⟩ | ⟨h1,h⟩
  ·obtain⟨h2,h⟩:=ck h
   obtain⟨a10,h3,h⟩:=sm h
   rcases fk h with ⟨h4,h⟩ | ⟨h4,h⟩
   ·obtain⟨⟨a11,a12,a13,a14,a15,a16,a17,a18,a19⟩,h5,h⟩:=sm h
    exact zT (path (zi h1 (zav h2 (zad (zu zw h3) (zaV h4 (zaw (zbD.ok ht n _ _ _ _ _ _ _ _ _ _ _ _ h5) ob))))) (by kernel_rfl)) (zaU.okL ht n k _ _ _ _ _ _ _ _ _ _ h)
   ·obtain⟨⟨a20,a21,a22,a23,a24,a25,a26,a27,a28⟩,h6,h⟩:=sm h
    exact zT (path (zi h1 (zav h2 (zad (zu zw h3) (zaV h4 (zaw (zbD.ok ht n _ _ _ _ _ _ _ _ _ _ _ _ h6) ob))))) (by kernel_rfl)) (zaU.okL ht n k _ _ _ _ _ _ _ _ _ _ h)
  ·cases h
   exact zx (path (zi h1 ob) (by kernel_rfl)) (fun h=>by cases h)
theorem za5.okL (ht:TabOk t call) (n:Nat):∀(k:Nat) (a1 a2 a3:Int) (a4:List GStep) (a5 a6:Int) (r:_),za5 t n k a1 a2 a3 a4 a5 a6=some r→loopN (exec (env Tryd.prog 47 Tryd.f47 call) n (sub [1,1,0,1,0,0] (zt Tryd.f47))) k (mkSt 50 50 [(1,(I6 a1)),(2,(I6 a2)),(7,(I6 a3)),(12,(Sl 14 (GStep.ts a4))),(13,(I6 a5)),(14,(I6 a6))] [])=some (za5.to r)
 | 0,a1,a2,a3,a4,a5,a6,r,h=>by rw[za5]at h;cases h
 | k+1,a1,a2,a3,a4,a5,a6,r,h=>by
  rw[za5]at h
  rcases fk h with ⟨h1,h⟩ | ⟨h1,h⟩
  ·obtain⟨h2,h⟩:=ck h
   obtain⟨⟨a7,a8,a9,⟨a10,a11,a12,a13,a14⟩,⟨a15,a16,a17⟩,a18,a19,a20⟩,h3,h⟩:=sm h
   rcases fk h with ⟨h4,h⟩ | ⟨h4,h⟩
   ·cases h
    exact zx (path (zi h1 (zav h2 (zad (zu GStep.zl h3) (zi h4 ob)))) (by kernel_rfl)) (fun h=>by cases h)
   ·obtain⟨a21,h5,h⟩:=sm h
    obtain⟨⟨a22,a23,a24,a25,a26,a27,a28,a29,a30,a31⟩,h6,h⟩:=sm h
    exact zT (path (zi h1 (zav h2 (zad (zu GStep.zl h3) (zi h4 (zZ (ht.zcZ _ _ h5) (zP (zq zw (l:=a21)) (zbq (lk (sub [1,1,0,1,0,0,1,1,0,0,1,1,1,0] (zt Tryd.f47)) (by kernel_rfl) (zaU.okL ht n n _ _ _ _ _ _ _ _ _ _ h6)) ob))))))) (by kernel_rfl)) (za5.okL ht n k _ _ _ _ _ _ _ h)
  ·cases h
   exact zx (path (zi h1 ob) (by kernel_rfl)) (fun h=>by cases h)
theorem zbV.ok {n:Nat} {t:Tab} (ht:TabOk t (run Tryd.prog own kp X n)):∀(p1:List GStep) (p2:Int) (p3:Int) r,zbV t n p1 p2 p3=some r→run Tryd.prog own kp X (n+1) 47 [(Sl 14 (GStep.ts p1)),(I6 p2),(I6 p3)] []=some ((I6 r),[]):=by
 intro p1 p2 p3 r h
 obtain⟨a1,rfl⟩:∃z_,z_=p1:=⟨_,rfl⟩
 obtain⟨a2,rfl⟩:∃z_,z_=p2:=⟨_,rfl⟩
 obtain⟨a3,rfl⟩:∃z_,z_=p3:=⟨_,rfl⟩
 rw[zbV]at h
 obtain⟨a4 | ⟨a5,a6,a7,a8,a9,a10,a11⟩,h1,h⟩:=sm h
 ·cases h
  exact zk Tryd.func47 (zP (zq GStep.zl (l:=a1)) (zbq (lk (sub [1,1,0,1,0] (zt Tryd.f47)) (by kernel_rfl) (za5.okL ht n n _ _ _ _ _ _ _ h1)) ob)) (by kernel_rfl)
 ·cases h
  exact zk Tryd.func47 (zP (zq GStep.zl (l:=a1)) (zbq (lk (sub [1,1,0,1,0] (zt Tryd.f47)) (by kernel_rfl) (za5.okL ht n n _ _ _ _ _ _ _ h1)) ob)) (by kernel_rfl)
theorem zK.ok {n:Nat} {t:Tab} (ht:TabOk t (run Tryd.prog own kp X n)):∀(p1:List GStep) (p2:Int) r,zK t n p1 p2=some r→run Tryd.prog own kp X (n+1) 48 [(Sl 14 (GStep.ts p1)),(.fn 49 [(.ref (.v (.int .i64 p2)))])] []=some ((Bo r),[]):=by
 intro p1 p2 r h
 obtain⟨a1,rfl⟩:∃z_,z_=p1:=⟨_,rfl⟩
 obtain⟨a2,rfl⟩:∃z_,z_=p2:=⟨_,rfl⟩
 rw[zK]at h
 obtain⟨a3,h1,h⟩:=sm h
 cases h
 exact zk Tryd.func48 (zZ (ht.zaa _ _ _ h1) ob) (by kernel_rfl)
theorem zcn.ok {n:Nat} {t:Tab} (ht:TabOk t (run Tryd.prog own kp X n)):∀(p1:zh) r,zcn t n p1=some r→run Tryd.prog own kp X (n+1) 53 [(.t (zh.t p1))] []=some ((.t (zh.t r)),[]):=by
 intro p1 r h
 obtain⟨a1,a2,a3,a4,a5⟩:=p1
 rw[zcn]at h
 obtain⟨a6,a7,a8,a9,a10⟩:=r
 have h1:=h
 exact zk Tryd.func53 (zZ (ht.zco _ _ _ h1) ob) (by kernel_rfl)
theorem zdj.ok {n:Nat} {t:Tab} (ht:TabOk t (run Tryd.prog own kp X n)):∀(p1:GPred) r,zdj t n p1=some r→run Tryd.prog own kp X (n+1) 54 [(.t (GPred.t p1))] []=some ((.t (GPred.t r)),[]):=by
 intro p1 r h
 obtain⟨a1,a2,a3⟩:=p1
 rw[zdj]at h
 obtain⟨a4,a5,a6⟩:=r
 have h1:=h
 exact zk Tryd.func54 (zZ (ht.zcH _ _ _ h1) ob) (by kernel_rfl)
theorem zch.okL (ht:TabOk t call) (n:Nat):∀(k:Nat) (a1:Int) (a2 a3:List (List GStep)) (a4 a5:Int) (r:_),zch t n k a1 a2 a3 a4 a5=some r→loopN (exec (env Tryd.prog 55 Tryd.f55 call) n (sub [1,1,0,1,0,0] (zt Tryd.f55))) k (mkSt 22 22 [(1,(I6 a1)),(5,(.t (.sl true 1 (zo a2)))),(8,(Sl 1 (zo a3))),(9,(I6 a4)),(10,(I6 a5))] [])=some (zch.to r)
 | 0,a1,a2,a3,a4,a5,r,h=>by rw[zch]at h;cases h
 | k+1,a1,a2,a3,a4,a5,r,h=>by
  rw[zch]at h
  rcases fk h with ⟨h1,h⟩ | ⟨h1,h⟩
  ·obtain⟨h2,h⟩:=ck h
   obtain⟨a6,h3,h⟩:=sm h
   obtain⟨a7,h4,h⟩:=sm h
   obtain⟨h5,h⟩:=cl h
   exact zT (path (zi h1 (zav h2 (zad (zu zw h3) (zZ (ht.zaW _ _ _ h4) (zd0 (zdd zw h5) (zea (zdG zw (a:=a2) (b:=([a7]:List (List GStep)))) ob)))))) (by kernel_rfl)) (zch.okL ht n k _ _ _ _ _ _ h)
  ·cases h
   exact zx (path (zi h1 ob) (by kernel_rfl)) (fun h=>by cases h)
theorem zcY.ok {n:Nat} {t:Tab} (ht:TabOk t (run Tryd.prog own kp X n)):∀(p1:List (List GStep)) (p2:Int) r,zcY t n p1 p2=some r→run Tryd.prog own kp X (n+1) 55 [(Sl 1 (zo p1)),(I6 p2)] []=some ((Sl 1 (zo r)),[]):=by
 intro p1 p2 r h
 obtain⟨a1,rfl⟩:∃z_,z_=p1:=⟨_,rfl⟩
 obtain⟨a2,rfl⟩:∃z_,z_=p2:=⟨_,rfl⟩
 rw[zcY]at h
 obtain⟨⟨a3,a4,a5,a6,a7,a8⟩,h1,h⟩:=sm h
 cases h
 exact zk Tryd.func55 (zP (zq zw (l:=a1)) (zbq (lk (sub [1,1,0,1,0] (zt Tryd.f55)) (by kernel_rfl) (zch.okL ht n n _ _ _ _ _ _ h1)) ob)) (by kernel_rfl)
theorem zca.ok {n:Nat} {t:Tab} (ht:TabOk t (run Tryd.prog own kp X n)):∀(p1:Int) (p2:Int) r,zca t n p1 p2=some r→run Tryd.prog own kp X (n+1) 59 [(I6 p1),(I6 p2)] []=some ((I6 r),[]):=by
 intro p1 p2 r h
 obtain⟨a1,rfl⟩:∃z_,z_=p1:=⟨_,rfl⟩
 obtain⟨a2,rfl⟩:∃z_,z_=p2:=⟨_,rfl⟩
 rw[zca]at h
 rcases fk h with ⟨h1,h⟩ | ⟨h1,h⟩
 ·cases h
  exact zk Tryd.func59 (zi h1 ob) (by kernel_rfl)
 ·rcases fk h with ⟨h2,h⟩ | ⟨h2,h⟩
  ·cases h
   exact zk Tryd.func59 (zi h1 (zi h2 ob)) (by kernel_rfl)
  ·cases h
   exact zk Tryd.func59 (zi h1 (zi h2 ob)) (by kernel_rfl)
theorem zcx.ok (ht:TabOk t call) (n:Nat) (a1 a2:ByteArray) (a3:Int) (r:_) (h:zcx t n a1 a2 a3=some r):exec (env Tryd.prog 60 Tryd.f60 call) n (sub [1,0,1,0,0,1] (zt Tryd.f60)) (mkSt 39 39 [(0,(Sr a1)),(1,(Sr a2)),(5,(I6 a3))] [])=some (zcx.to r):=by
 rw[zcx]at h
 obtain⟨a4,h1,h⟩:=sm h
 obtain⟨a5,h2,h⟩:=sm h
 rcases fk h with ⟨h3,h⟩ | ⟨h3,h⟩
 ·obtain⟨a6,h4,h⟩:=sm h
  cases h
  exact path (zP (zhu (P:=Tryd.prog) (t:=9) (k:=.i64) (by kernel_rfl) h1) (zP (zhu (P:=Tryd.prog) (t:=9) (k:=.i64) (by kernel_rfl) h2) (zi h3 (zP (zhu (P:=Tryd.prog) (t:=9) (k:=.i64) (by kernel_rfl) h1) (zP (zhu (P:=Tryd.prog) (t:=9) (k:=.i64) (by kernel_rfl) h2) (zZ (ht.zca _ _ _ h4) ob)))))) (by kernel_rfl)
 ·cases h
  exact path (zP (zhu (P:=Tryd.prog) (t:=9) (k:=.i64) (by kernel_rfl) h1) (zP (zhu (P:=Tryd.prog) (t:=9) (k:=.i64) (by kernel_rfl) h2) (zi h3 ob))) (by kernel_rfl)
theorem zcy.okL (ht:TabOk t call) (n:Nat):∀(k:Nat) (a1 a2:ByteArray) (a3:Int) (r:_),zcy t n k a1 a2 a3=some r→loopN (exec (env Tryd.prog 60 Tryd.f60 call) n (sub [1,0,1,0,0] (zt Tryd.f60))) k (mkSt 39 39 [(0,(Sr a1)),(1,(Sr a2)),(5,(I6 a3))] [])=some (zcy.to r)
 | 0,a1,a2,a3,r,h=>by rw[zcy]at h;cases h
 | k+1,a1,a2,a3,r,h=>by
  rw[zcy]at h
  rcases fk h with ⟨h1,h⟩ | ⟨h1,h⟩
  ·rcases fk h with ⟨h2,h⟩ | ⟨h2,h⟩
   ·obtain⟨a4 | ⟨a5,a6,a7⟩,h3,h⟩:=sm h
    ·cases h
     exact zx (path (zaG h1 5 (zi h2 (zaw (zcx.ok ht n _ _ _ _ h3) ob))) (by kernel_rfl)) (fun h=>by cases h)
    ·exact zT (path (zaG h1 5 (zi h2 (zaw (zcx.ok ht n _ _ _ _ h3) ob))) (by kernel_rfl)) (zcy.okL ht n k _ _ _ _ h)
   ·cases h
    exact zx (path (zaG h1 5 (zi h2 ob)) (by kernel_rfl)) (fun h=>by cases h)
  ·cases h
   exact zx (path (zaG h1 5 (zi (rfl:false=false) ob)) (by kernel_rfl)) (fun h=>by cases h)
theorem zdw.ok (ht:TabOk t call) (n:Nat) (a1 a2:ByteArray) (r:_) (h:zdw t n a1 a2=some r):exec (env Tryd.prog 60 Tryd.f60 call) n (sub [1,1] (zt Tryd.f60)) (mkSt 39 39 [(0,(Sr a1)),(1,(Sr a2))] [])=some (zdw.to r):=by
 rw[zdw]at h
 obtain⟨a3,rfl⟩:∃z_,z_=r:=⟨_,rfl⟩
 have h1:=h
 exact path (zZ (ht.zca _ _ _ h1) ob) (by kernel_rfl)
theorem zdq.ok {n:Nat} {t:Tab} (ht:TabOk t (run Tryd.prog own kp X n)):∀(p1:ByteArray) (p2:ByteArray) r,zdq t n p1 p2=some r→run Tryd.prog own kp X (n+1) 60 [(Sr p1),(Sr p2)] []=some ((I6 r),[]):=by
 intro p1 p2 r h
 obtain⟨a1,rfl⟩:∃z_,z_=p1:=⟨_,rfl⟩
 obtain⟨a2,rfl⟩:∃z_,z_=p2:=⟨_,rfl⟩
 rw[zdq]at h
 obtain⟨a3 | ⟨a4,a5,a6,a7⟩,h1,h⟩:=sm h
 ·cases h
  exact zk Tryd.func60 (zbq (lk (sub [1,0,1,0] (zt Tryd.f60)) (by kernel_rfl) (zcy.okL ht n n _ _ _ _ h1)) ob) (by kernel_rfl)
 ·obtain⟨a8,rfl⟩:∃z_,z_=r:=⟨_,rfl⟩
  have h2:=h
  exact zk Tryd.func60 (zbq (lk (sub [1,0,1,0] (zt Tryd.f60)) (by kernel_rfl) (zcy.okL ht n n _ _ _ _ h1)) (zaw (zdw.ok ht n _ _ _ h2) ob)) (by kernel_rfl)
theorem zcV.ok (ht:TabOk t call) (n:Nat) (a1 a2:List zh) (a3 a4:Int) (r:_) (h:zcV t n a1 a2 a3 a4=some r):exec (env Tryd.prog 61 Tryd.f61 call) n (sub [1,0,1,0,0,1] (zt Tryd.f61)) (mkSt 39 39 [(0,(Sl 5 (zh.ts a1))),(1,(Sl 5 (zh.ts a2))),(2,(I6 a3)),(7,(I6 a4))] [])=some (zcV.to r):=by
 rw[zcV]at h
 obtain⟨h1,h⟩:=ck h
 obtain⟨⟨a5,a6,a7,a8,a9⟩,h2,h⟩:=sm h
 obtain⟨⟨a10,a11,a12,a13,a14⟩,h3,h⟩:=sm h
 obtain⟨a15,h4,h⟩:=sm h
 rcases fk h with ⟨h5,h⟩ | ⟨h5,h⟩
 ·cases h
  exact path (zav h1 (zad (zu zh.zl h2) (zav h1 (zad (zu zh.zl h3) (zZ (ht.zcg _ _ _ _ h4) (zi h5 ob)))))) (by kernel_rfl)
 ·cases h
  exact path (zav h1 (zad (zu zh.zl h2) (zav h1 (zad (zu zh.zl h3) (zZ (ht.zcg _ _ _ _ h4) (zi h5 ob)))))) (by kernel_rfl)
theorem zcW.okL (ht:TabOk t call) (n:Nat):∀(k:Nat) (a1 a2:List zh) (a3 a4:Int) (r:_),zcW t n k a1 a2 a3 a4=some r→loopN (exec (env Tryd.prog 61 Tryd.f61 call) n (sub [1,0,1,0,0] (zt Tryd.f61))) k (mkSt 39 39 [(0,(Sl 5 (zh.ts a1))),(1,(Sl 5 (zh.ts a2))),(2,(I6 a3)),(7,(I6 a4))] [])=some (zcW.to r)
 | 0,a1,a2,a3,a4,r,h=>by rw[zcW]at h;cases h
 | k+1,a1,a2,a3,a4,r,h=>by
  rw[zcW]at h
  rcases fk h with ⟨h1,h⟩ | ⟨h1,h⟩
  ·have o7 {os} (x:Obls (env Tryd.prog 61 Tryd.f61 call) n os):=zP (zq zh.zl (l:=a1)) (zV h1 (zP (zq zh.zl (l:=a2)) (zaT h1 x)))
   rcases fk h with ⟨h2,h⟩ | ⟨h2,h⟩
   ·obtain⟨a5 | ⟨a6,a7,a8,a9⟩,h3,h⟩:=sm h
    ·cases h
     exact zx (path (o7 (zi h2 (zaw (zcV.ok ht n _ _ _ _ _ h3) ob))) (by kernel_rfl)) (fun h=>by cases h)
    ·exact zT (path (o7 (zi h2 (zaw (zcV.ok ht n _ _ _ _ _ h3) ob))) (by kernel_rfl)) (zcW.okL ht n k _ _ _ _ _ h)
   ·cases h
    exact zx (path (o7 (zi h2 ob)) (by kernel_rfl)) (fun h=>by cases h)
  ·cases h
   exact zx (path (zP (zq zh.zl (l:=a1)) (zaG h1 5 (zi (rfl:false=false) ob))) (by kernel_rfl)) (fun h=>by cases h)
theorem zdJ.ok (ht:TabOk t call) (n:Nat) (a1 a2:List zh) (r:_) (h:zdJ t n a1 a2=some r):exec (env Tryd.prog 61 Tryd.f61 call) n (sub [1,1] (zt Tryd.f61)) (mkSt 39 39 [(0,(Sl 5 (zh.ts a1))),(1,(Sl 5 (zh.ts a2)))] [])=some (zdJ.to r):=by
 rw[zdJ]at h
 obtain⟨a3,rfl⟩:∃z_,z_=r:=⟨_,rfl⟩
 have h1:=h
 exact path (zP (zq zh.zl (l:=a1)) (zP (zq zh.zl (l:=a2)) (zZ (ht.zca _ _ _ h1) ob))) (by kernel_rfl)
theorem zdn.ok {n:Nat} {t:Tab} (ht:TabOk t (run Tryd.prog own kp X n)):∀(p1:List zh) (p2:List zh) (p3:Int) r,zdn t n p1 p2 p3=some r→run Tryd.prog own kp X (n+1) 61 [(Sl 5 (zh.ts p1)),(Sl 5 (zh.ts p2)),(I6 p3)] []=some ((I6 r),[]):=by
 intro p1 p2 p3 r h
 obtain⟨a1,rfl⟩:∃z_,z_=p1:=⟨_,rfl⟩
 obtain⟨a2,rfl⟩:∃z_,z_=p2:=⟨_,rfl⟩
 obtain⟨a3,rfl⟩:∃z_,z_=p3:=⟨_,rfl⟩
 rw[zdn]at h
 obtain⟨a4 | ⟨a5,a6,a7,a8,a9⟩,h1,h⟩:=sm h
 ·cases h
  exact zk Tryd.func61 (zbq (lk (sub [1,0,1,0] (zt Tryd.f61)) (by kernel_rfl) (zcW.okL ht n n _ _ _ _ _ h1)) ob) (by kernel_rfl)
 ·obtain⟨a10,rfl⟩:∃z_,z_=r:=⟨_,rfl⟩
  have h2:=h
  exact zk Tryd.func61 (zbq (lk (sub [1,0,1,0] (zt Tryd.f61)) (by kernel_rfl) (zcW.okL ht n n _ _ _ _ _ h1)) (zaw (zdJ.ok ht n _ _ _ h2) ob)) (by kernel_rfl)
theorem zaq.okL (ht:TabOk t call) (n:Nat):∀(k:Nat) (a1 a2:List GCode) (a3 a4:Int) (r:_),zaq t n k a1 a2 a3 a4=some r→loopN (exec (env Tryd.prog 23 Tryd.f23 call) n (sub [1,1,0,1,0,0] (zt Tryd.f23))) k (mkSt 32 32 [(1,(Sl 14 (GCode.ts a1))),(2,(.fn 24 [])),(15,(Sl 14 (GCode.ts a2))),(16,(I6 a3)),(17,(I6 a4))] [])=some (zaq.to r)
 | 0,a1,a2,a3,a4,r,h=>by rw[zaq]at h;cases h
 | k+1,a1,a2,a3,a4,r,h=>by
  rw[zaq]at h
  rcases fk h with ⟨h1,h⟩ | ⟨h1,h⟩
  ·obtain⟨h2,h⟩:=ck h
   obtain⟨⟨a5,a6,a7,⟨a8,a9,a10,a11,a12⟩,⟨a13,a14,a15⟩,a16,a17,a18⟩,h3,h⟩:=sm h
   obtain⟨⟨a19,a20,a21,⟨a22,a23,a24,a25,a26⟩,⟨a27,a28,a29⟩,a30,a31,a32⟩,h4,h⟩:=sm h
   obtain⟨a33,h5,h⟩:=sm h
   rcases fk h with ⟨h6,h⟩ | ⟨h6,h⟩
   ·exact zT (path (zi h1 (zav h2 (zad (zu GCode.zl h3) (zav h2 (zad (zu GCode.zl h4) (zZ (ht.zdx _ _ _ h5) (zi (ng h6) ob))))))) (by kernel_rfl)) (zaq.okL ht n k _ _ _ _ _ h)
   ·cases h
    exact zx (path (zi h1 (zav h2 (zad (zu GCode.zl h3) (zav h2 (zad (zu GCode.zl h4) (zZ (ht.zdx _ _ _ h5) (zi (ng h6) ob))))))) (by kernel_rfl)) (fun h=>by cases h)
  ·cases h
   exact zx (path (zi h1 ob) (by kernel_rfl)) (fun h=>by cases h)
theorem zaD.ok {n:Nat} {t:Tab} (ht:TabOk t (run Tryd.prog own kp X n)):∀(p1:List GCode) (p2:List GCode) r,zaD t n p1 p2=some r→run Tryd.prog own kp X (n+1) 23 [(Sl 14 (GCode.ts p1)),(Sl 14 (GCode.ts p2)),(.fn 24 [])] []=some ((Bo r),[]):=by
 intro p1 p2 r h
 obtain⟨a1,rfl⟩:∃z_,z_=p1:=⟨_,rfl⟩
 obtain⟨a2,rfl⟩:∃z_,z_=p2:=⟨_,rfl⟩
 rw[zaD]at h
 rcases fk h with ⟨h1,h⟩ | ⟨h1,h⟩
 ·cases h
  exact zk Tryd.func23 (zP (zq GCode.zl (l:=a1)) (zP (zq GCode.zl (l:=a2)) (zi h1 ob))) (by kernel_rfl)
 ·obtain⟨a3 | ⟨a4,a5,a6,a7,a8⟩,h2,h⟩:=sm h
  ·cases h
   exact zk Tryd.func23 (zP (zq GCode.zl (l:=a1)) (zP (zq GCode.zl (l:=a2)) (zi h1 (zP (zq GCode.zl (l:=a1)) (zbq (lk (sub [1,1,0,1,0] (zt Tryd.f23)) (by kernel_rfl) (zaq.okL ht n n _ _ _ _ _ h2)) ob))))) (by kernel_rfl)
  ·cases h
   exact zk Tryd.func23 (zP (zq GCode.zl (l:=a1)) (zP (zq GCode.zl (l:=a2)) (zi h1 (zP (zq GCode.zl (l:=a1)) (zbq (lk (sub [1,1,0,1,0] (zt Tryd.f23)) (by kernel_rfl) (zaq.okL ht n n _ _ _ _ _ h2)) ob))))) (by kernel_rfl)
theorem zbE.ok (ht:TabOk t call) (n:Nat) (a1:List (List GStep)) (a2:List GBy) (a3 a4:Int) (a5:Bool) (a6:Int) (a7:ByteArray) (a8:List GStep) (a9:Bool) (r:_) (h:zbE t n a1 a2 a3 a4 a5 a6 a7 a8 a9=some r):exec (env Tryd.prog 62 Tryd.f62 call) n (sub [1,1,0,1,0,0,1,1,0,0,1,1] (zt Tryd.f62)) (mkSt 32 32 [(3,(.t (.sl true 1 (zo a1)))),(5,(.ptr 5 0 [] 0)),(10,(Sl 4 (GBy.ts a2))),(11,(I6 a3)),(12,(I6 a4)),(24,(Bo a5))] [(5,(.t (.st [(.v (.int .i64 a6)),(.v (.string a7)),(.sl false 14 (GStep.ts a8)),(.v (.bool a9))])))])=some (zbE.to r):=by
 rw[zbE]at h
 rcases fk h with ⟨h1,h⟩ | ⟨h1,h⟩
 ·obtain⟨h2,h⟩:=cl h
  cases h
  exact path (zi h1 (zd0 (zdd zw h2) (zea (zdG zw (a:=a1) (b:=([a8]:List (List GStep)))) ob))) (by kernel_rfl)
 ·cases h
  exact path (zi h1 ob) (by kernel_rfl)
theorem zbF.okL (ht:TabOk t call) (n:Nat):∀(k:Nat) (a1:List (List GStep)) (a2:List GBy) (a3 a4:Int) (r:_),zbF t n k a1 a2 a3 a4=some r→loopN (exec (env Tryd.prog 62 Tryd.f62 call) n (sub [1,1,0,1,0,0] (zt Tryd.f62))) k (mkSt 32 32 [(3,(.t (.sl true 1 (zo a1)))),(10,(Sl 4 (GBy.ts a2))),(11,(I6 a3)),(12,(I6 a4))] [])=some (zbF.to r)
 | 0,a1,a2,a3,a4,r,h=>by rw[zbF]at h;cases h
 | k+1,a1,a2,a3,a4,r,h=>by
  rw[zbF]at h
  rcases fk h with ⟨h1,h⟩ | ⟨h1,h⟩
  ·obtain⟨h2,h⟩:=ck h
   obtain⟨⟨a5,a6,a7,a8⟩,h3,h⟩:=sm h
   rcases fk h with ⟨h4,h⟩ | ⟨h4,h⟩
   ·obtain⟨⟨a9,a10,a11,a12⟩,h5,h⟩:=sm h
    exact zT (path (zi h1 (zav h2 (zad (zu GBy.zl h3) (zaG h4 5 (zaw (zbE.ok ht n _ _ _ _ _ _ _ _ _ _ h5) ob))))) (by kernel_rfl)) (zbF.okL ht n k _ _ _ _ _ h)
   ·obtain⟨⟨a13,a14,a15,a16⟩,h6,h⟩:=sm h
    exact zT (path (zi h1 (zav h2 (zad (zu GBy.zl h3) (zV h4 (zP (zq GStep.zl (l:=a7)) (zaT h4 (zaw (zbE.ok ht n _ _ _ _ _ _ _ _ _ _ h6) ob))))))) (by kernel_rfl)) (zbF.okL ht n k _ _ _ _ _ h)
  ·cases h
   exact zx (path (zi h1 ob) (by kernel_rfl)) (fun h=>by cases h)
theorem zcZ.ok {n:Nat} {t:Tab} (ht:TabOk t (run Tryd.prog own kp X n)):∀(p1:GStep) r,zcZ t n p1=some r→run Tryd.prog own kp X (n+1) 62 [(.t (GStep.t p1))] []=some ((Sl 1 (zo r)),[]):=by
 intro p1 r h
 obtain⟨a1,a2,a3,⟨a4,a5,a6,a7,a8⟩,⟨a9,a10,a11⟩,a12,a13,a14⟩:=p1
 rw[zcZ]at h
 obtain⟨a15,h1,h⟩:=sm h
 obtain⟨⟨a16,a17,a18,a19,a20⟩,h2,h⟩:=sm h
 cases h
 exact zk Tryd.func62 (zZ (ht.zdE _ _ h1) (zP (zq GBy.zl (l:=a13)) (zbq (lk (sub [1,1,0,1,0] (zt Tryd.f62)) (by kernel_rfl) (zbF.okL ht n n _ _ _ _ _ h2)) ob))) (by kernel_rfl)
theorem zL.okL (ht:TabOk t call) (n:Nat):∀(k:Nat) (a1:List GStep) (a2 a3 a4:Int) (r:_),zL t n k a1 a2 a3 a4=some r→loopN (exec (env Tryd.prog 63 Tryd.f63 call) n (sub [1,0,1,0,0] (zt Tryd.f63))) k (mkSt 19 19 [(0,(Sl 14 (GStep.ts a1))),(1,(.fn 49 [(.ref (.v (.int .i64 a2)))])),(7,(I6 a3)),(8,(I6 a4))] [])=some (zL.to r)
 | 0,a1,a2,a3,a4,r,h=>by rw[zL]at h;cases h
 | k+1,a1,a2,a3,a4,r,h=>by
  rw[zL]at h
  rcases fk h with ⟨h1,h⟩ | ⟨h1,h⟩
  ·obtain⟨h2,h⟩:=ck h
   obtain⟨⟨a5,a6,a7,⟨a8,a9,a10,a11,a12⟩,⟨a13,a14,a15⟩,a16,a17,a18⟩,h3,h⟩:=sm h
   obtain⟨a19,h4,h⟩:=sm h
   rcases fk h with ⟨h5,h⟩ | ⟨h5,h⟩
   ·cases h
    exact zx (path (zi h1 (zav h2 (zad (zu GStep.zl h3) (zZ (ht.zby _ _ _ h4) (zi h5 ob))))) (by kernel_rfl)) (fun h=>by cases h)
   ·exact zT (path (zi h1 (zav h2 (zad (zu GStep.zl h3) (zZ (ht.zby _ _ _ h4) (zi h5 ob))))) (by kernel_rfl)) (zL.okL ht n k _ _ _ _ _ h)
  ·cases h
   exact zx (path (zi h1 ob) (by kernel_rfl)) (fun h=>by cases h)
theorem zaa.ok {n:Nat} {t:Tab} (ht:TabOk t (run Tryd.prog own kp X n)):∀(p1:List GStep) (p2:Int) r,zaa t n p1 p2=some r→run Tryd.prog own kp X (n+1) 63 [(Sl 14 (GStep.ts p1)),(.fn 49 [(.ref (.v (.int .i64 p2)))])] []=some ((I6 r),[]):=by
 intro p1 p2 r h
 obtain⟨a1,rfl⟩:∃z_,z_=p1:=⟨_,rfl⟩
 obtain⟨a2,rfl⟩:∃z_,z_=p2:=⟨_,rfl⟩
 rw[zaa]at h
 obtain⟨a3 | ⟨a4,a5,a6,a7,a8⟩,h1,h⟩:=sm h
 ·cases h
  exact zk Tryd.func63 (zP (zq GStep.zl (l:=a1)) (zbq (lk (sub [1,0,1,0] (zt Tryd.f63)) (by kernel_rfl) (zL.okL ht n n _ _ _ _ _ h1)) ob)) (by kernel_rfl)
 ·cases h
  exact zk Tryd.func63 (zP (zq GStep.zl (l:=a1)) (zbq (lk (sub [1,0,1,0] (zt Tryd.f63)) (by kernel_rfl) (zL.okL ht n n _ _ _ _ _ h1)) ob)) (by kernel_rfl)
theorem zco.ok {n:Nat} {t:Tab} (ht:TabOk t (run Tryd.prog own kp X n)):∀(p1:zh) (p2:Int) r,zco t n p1 p2=some r→run Tryd.prog own kp X (n+1) 76 [(.t (zh.t p1)),(I6 p2)] []=some ((.t (zh.t r)),[]):=by
 intro p1 p2 r h
 obtain⟨a1,a2,a3,a4,a5⟩:=p1
 obtain⟨a6,rfl⟩:∃z_,z_=p2:=⟨_,rfl⟩
 rw[zco]at h
 rcases fk h with ⟨h1,h⟩ | ⟨h1,h⟩
 ·cases h
  exact zk Tryd.func76 (zi h1 ob) (by kernel_rfl)
 ·obtain⟨a7,h2,h⟩:=sm h
  obtain⟨a8,h3,h⟩:=sm h
  cases h
  exact zk Tryd.func76 (zi h1 (zZ (ht.zbL _ _ _ h2) (zZ (ht.zbL _ _ _ h3) ob))) (by kernel_rfl)
theorem zcF.okL (ht:TabOk t call) (n:Nat):∀(k:Nat) (a1:Int) (a2:List zh) (a3 a4 a5:Int) (a6:List zh) (a7:List GPred) (a8:Int) (a9:List zh) (a10:List GPred) (a11:Int) (a12:List zh) (a13:List GPred) (r:_),zcF t n k a1 a2 a3 a4 a5 a6 a7 a8 a9 a10 a11 a12 a13=some r→loopN (exec (env Tryd.prog 77 Tryd.f77 call) n (sub [1,1,1,0,1,0,0] (zt Tryd.f77))) k (mkSt 49 49 [(1,(I6 a1)),(2,(.ptr 2 0 [] 0)),(4,(.ptr 4 0 [] 0)),(5,(.ptr 5 0 [] 0)),(17,(Sl 5 (zh.ts a2))),(18,(I6 a3)),(19,(I6 a4))] [(2,(.t (.st [(.v (.int .i64 a5)),(.sl false 5 (zh.ts a6)),(.sl false 3 (GPred.ts a7))]))),(4,(.t (.st [(.v (.int .i64 a8)),(.sl false 5 (zh.ts a9)),(.sl false 3 (GPred.ts a10))]))),(5,(.t (.st [(.v (.int .i64 a11)),(.sl true 5 (zh.ts a12)),(.sl true 3 (GPred.ts a13))])))])=some (zcF.to r)
 | 0,a1,a2,a3,a4,a5,a6,a7,a8,a9,a10,a11,a12,a13,r,h=>by rw[zcF]at h;cases h
 | k+1,a1,a2,a3,a4,a5,a6,a7,a8,a9,a10,a11,a12,a13,r,h=>by
  rw[zcF]at h
  rcases fk h with ⟨h1,h⟩ | ⟨h1,h⟩
  ·obtain⟨h2,h⟩:=ck h
   obtain⟨⟨a14,a15,a16,a17,a18⟩,h3,h⟩:=sm h
   obtain⟨⟨a19,a20,a21,a22,a23⟩,h4,h⟩:=sm h
   obtain⟨h5,h⟩:=cl h
   exact zT (path (zi h1 (zav h2 (zad (zu zh.zl h3) (zZ (ht.zcn _ _ h4) (zd0 (zdd zh.zl h5) (zea (zdG zh.zl (a:=a12) (b:=([(zh.mk a19 a20 a21 a22 a23)]:List zh))) ob)))))) (by kernel_rfl)) (zcF.okL ht n k _ _ _ _ _ _ _ _ _ _ _ _ _ _ h)
  ·cases h
   exact zx (path (zi h1 ob) (by kernel_rfl)) (fun h=>by cases h)
theorem zcG.okL (ht:TabOk t call) (n:Nat):∀(k:Nat) (a1:Int) (a2:List GPred) (a3 a4 a5:Int) (a6:List zh) (a7:List GPred) (a8:Int) (a9:List zh) (a10:List GPred) (r:_),zcG t n k a1 a2 a3 a4 a5 a6 a7 a8 a9 a10=some r→loopN (exec (env Tryd.prog 77 Tryd.f77 call) n (sub [1,1,1,1,0,1,0,0] (zt Tryd.f77))) k (mkSt 49 49 [(1,(I6 a1)),(4,(.ptr 4 0 [] 0)),(5,(.ptr 5 0 [] 0)),(32,(Sl 3 (GPred.ts a2))),(33,(I6 a3)),(34,(I6 a4))] [(4,(.t (.st [(.v (.int .i64 a5)),(.sl false 5 (zh.ts a6)),(.sl false 3 (GPred.ts a7))]))),(5,(.t (.st [(.v (.int .i64 a8)),(.sl true 5 (zh.ts a9)),(.sl true 3 (GPred.ts a10))])))])=some (zcG.to r)
 | 0,a1,a2,a3,a4,a5,a6,a7,a8,a9,a10,r,h=>by rw[zcG]at h;cases h
 | k+1,a1,a2,a3,a4,a5,a6,a7,a8,a9,a10,r,h=>by
  rw[zcG]at h
  rcases fk h with ⟨h1,h⟩ | ⟨h1,h⟩
  ·obtain⟨h2,h⟩:=ck h
   obtain⟨⟨a11,a12,a13⟩,h3,h⟩:=sm h
   obtain⟨⟨a14,a15,a16⟩,h4,h⟩:=sm h
   obtain⟨h5,h⟩:=cl h
   exact zT (path (zi h1 (zav h2 (zad (zu GPred.zl h3) (zZ (ht.zcH _ _ _ h4) (zd0 (zdd GPred.zl h5) (zea (zdG GPred.zl (a:=a10) (b:=([(GPred.mk a14 a15 a16)]:List GPred))) ob)))))) (by kernel_rfl)) (zcG.okL ht n k _ _ _ _ _ _ _ _ _ _ _ h)
  ·cases h
   exact zx (path (zi h1 ob) (by kernel_rfl)) (fun h=>by cases h)
theorem zc7.ok (ht:TabOk t call) (n:Nat) (a1 a2:Int) (a3:List zh) (a4:List GPred) (a5:Int) (a6:List zh) (a7:List GPred) (a8:Int) (a9:List zh) (a10:List GPred) (r:_) (h:zc7 t n a1 a2 a3 a4 a5 a6 a7 a8 a9 a10=some r):exec (env Tryd.prog 77 Tryd.f77 call) n (sub [1,1,1,1] (zt Tryd.f77)) (mkSt 49 49 [(1,(I6 a1)),(2,(.ptr 2 0 [] 0)),(4,(.ptr 4 0 [] 0)),(5,(.ptr 5 0 [] 0))] [(2,(.t (.st [(.v (.int .i64 a2)),(.sl false 5 (zh.ts a3)),(.sl false 3 (GPred.ts a4))]))),(4,(.t (.st [(.v (.int .i64 a5)),(.sl false 5 (zh.ts a6)),(.sl false 3 (GPred.ts a7))]))),(5,(.t (.st [(.v (.int .i64 a8)),(.sl true 5 (zh.ts a9)),(.sl true 3 (GPred.ts a10))])))])=some (zc7.to r):=by
 rw[zc7]at h
 obtain⟨⟨a11,a12,a13,a14,a15,a16,a17,a18,a19,a20,a21⟩,h1,h⟩:=sm h
 cases h
 exact path (zP (zq GPred.zl (l:=a4)) (zbq (lk (sub [1,1,1,1,0,1,0] (zt Tryd.f77)) (by kernel_rfl) (zcG.okL ht n n _ _ _ _ _ _ _ _ _ _ _ h1)) ob)) (by kernel_rfl)
theorem zcH.ok {n:Nat} {t:Tab} (ht:TabOk t (run Tryd.prog own kp X n)):∀(p1:GPred) (p2:Int) r,zcH t n p1 p2=some r→run Tryd.prog own kp X (n+1) 77 [(.t (GPred.t p1)),(I6 p2)] []=some ((.t (GPred.t r)),[]):=by
 intro p1 p2 r h
 obtain⟨a1,a2,a3⟩:=p1
 obtain⟨a4,rfl⟩:∃z_,z_=p2:=⟨_,rfl⟩
 rw[zcH]at h
 rcases fk h with ⟨h1,h⟩ | ⟨h1,h⟩
 ·cases h
  exact zk Tryd.func77 (zi h1 ob) (by kernel_rfl)
 ·obtain⟨⟨a5,a6,a7,a8,a9,a10,a11,a12,a13,a14,a15,a16,a17,a18⟩,h2,h⟩:=sm h
  obtain⟨⟨a19,a20,a21⟩,h3,h⟩:=sm h
  cases h
  exact zk Tryd.func77 (zi h1 (zP (zq zh.zl (l:=a2)) (zbq (lk (sub [1,1,1,0,1,0] (zt Tryd.f77)) (by kernel_rfl) (zcF.okL ht n n _ _ _ _ _ _ _ _ _ _ _ _ _ _ h2)) (zaw (zc7.ok ht n _ _ _ _ _ _ _ _ _ _ _ h3) ob)))) (by kernel_rfl)
theorem zci.ok (ht:TabOk t call) (n:Nat) (a1:Bool) (u2 u3:GCode) (r:_) (h:zci t n a1 u2 u3=some r):exec (env Tryd.prog 24 Tryd.f24 call) n (sub [1,1] (zt Tryd.f24)) (mkSt 61 61 [(2,(.ptr 2 0 [] 0)),(3,(.ptr 3 0 [] 0)),(5,(Bo a1))] [(2,(.t (GCode.t u2))),(3,(.t (GCode.t u3)))])=some (zci.to r):=by
 obtain⟨a2,a3,a4,⟨a5,a6,a7,a8,a9⟩,⟨a10,a11,a12⟩,a13,a14,a15⟩:=u2
 obtain⟨a16,a17,a18,⟨a19,a20,a21,a22,a23⟩,⟨a24,a25,a26⟩,a27,a28,a29⟩:=u3
 rw[zci]at h
 rcases fk h with ⟨h1,h⟩ | ⟨h1,h⟩
 ·obtain⟨a30,h2,h⟩:=sm h
  have o7 {os} (x:Obls (env Tryd.prog 24 Tryd.f24 call) n os):=zaG h1 5 (zZ (ht.slices_Equal_int _ _ _ h2) (zi h1 x))
  rcases fk h with ⟨h3,h⟩ | ⟨h3,h⟩
  ·obtain⟨a31,h4,h⟩:=sm h
   have o14 {os} (x:Obls (env Tryd.prog 24 Tryd.f24 call) n os):=o7 (zaG h3 5 (zZ (ht.zcj _ _ _ h4) (zi h3 x)))
   rcases fk h with ⟨h5,h⟩ | ⟨h5,h⟩
   ·obtain⟨a32,h6,h⟩:=sm h
    rcases fk h with ⟨h7,h⟩ | ⟨h7,h⟩
    ·obtain⟨a33,rfl⟩:∃z_,z_=r:=⟨_,rfl⟩
     have h8:=h
     exact path (o14 (zaG h5 5 (zZ (ht.zbk _ _ _ h6) (zi h5 (zaG h7 5 (zZ (ht.zbW _ _ _ h8) (zi h7 ob))))))) (by kernel_rfl)
    ·cases h
     exact path (o14 (zaG h5 5 (zZ (ht.zbk _ _ _ h6) (zi h5 (zaG h7 6 ob))))) (by kernel_rfl)
   ·cases h
    exact path (o14 (zaG h5 6 (zaG (rfl:false=false) 6 ob))) (by kernel_rfl)
  ·cases h
   exact path (o7 (zaG h3 6 (zaG (rfl:false=false) 12 ob))) (by kernel_rfl)
 ·cases h
  exact path (zaG h1 6 (zaG (rfl:false=false) 18 ob)) (by kernel_rfl)
theorem zdx.ok {n:Nat} {t:Tab} (ht:TabOk t (run Tryd.prog own kp X n)):∀(p1:GCode) (p2:GCode) r,zdx t n p1 p2=some r→run Tryd.prog own kp X (n+1) 24 [(.t (GCode.t p1)),(.t (GCode.t p2))] []=some ((Bo r),[]):=by
 intro p1 p2 r h
 obtain⟨a1,a2,a3,⟨a4,a5,a6,a7,a8⟩,⟨a9,a10,a11⟩,a12,a13,a14⟩:=p1
 obtain⟨a15,a16,a17,⟨a18,a19,a20,a21,a22⟩,⟨a23,a24,a25⟩,a26,a27,a28⟩:=p2
 rw[zdx]at h
 rcases fk h with ⟨h1,h⟩ | ⟨h1,h⟩
 ·obtain⟨a29,h2,h⟩:=sm h
  have o7 {os} (x:Obls (env Tryd.prog 24 Tryd.f24 (run Tryd.prog own kp X n)) n os):=zaG h1 5 (zZ (ht.slices_Equal_string _ _ _ h2) (zi h1 x))
  rcases fk h with ⟨h3,h⟩ | ⟨h3,h⟩
  ·obtain⟨a30,h4,h⟩:=sm h
   rcases fk h with ⟨h5,h⟩ | ⟨h5,h⟩
   ·obtain⟨a31,h6,h⟩:=sm h
    obtain⟨a32,rfl⟩:∃z_,z_=r:=⟨_,rfl⟩
    have h7:=h
    exact zk Tryd.func24 (o7 (zaG h3 5 (zZ (ht.slices_Equal_int _ _ _ h4) (zi h3 (zaG h5 5 (zZ (ht.slices_Equal_string _ _ _ h6) (zi h5 (zaw (zci.ok ht n _ _ _ _ h7) ob)))))))) (by kernel_rfl)
   ·obtain⟨a33,rfl⟩:∃z_,z_=r:=⟨_,rfl⟩
    have h8:=h
    exact zk Tryd.func24 (o7 (zaG h3 5 (zZ (ht.slices_Equal_int _ _ _ h4) (zi h3 (zaG h5 6 (zaw (zci.ok ht n _ _ _ _ h8) ob)))))) (by kernel_rfl)
  ·obtain⟨a34,rfl⟩:∃z_,z_=r:=⟨_,rfl⟩
   have h9:=h
   exact zk Tryd.func24 (o7 (zaG h3 6 (zaG (rfl:false=false) 6 (zaw (zci.ok ht n _ _ _ _ h9) ob)))) (by kernel_rfl)
 ·obtain⟨a35,rfl⟩:∃z_,z_=r:=⟨_,rfl⟩
  have h10:=h
  exact zk Tryd.func24 (zaG h1 6 (zaG (rfl:false=false) 12 (zaw (zci.ok ht n _ _ _ _ h10) ob))) (by kernel_rfl)
theorem zby.ok {n:Nat} {t:Tab} (ht:TabOk t (run Tryd.prog own kp X n)):∀(p1:GStep) (p2:Int) r,zby t n p1 p2=some r→run Tryd.prog own kp X (n+1) 49 [(.t (GStep.t p1)),(.ref (.v (.int .i64 p2)))] []=some ((Bo r),[]):=by
 intro p1 p2 r h
 obtain⟨a1,a2,a3,⟨a4,a5,a6,a7,a8⟩,⟨a9,a10,a11⟩,a12,a13,a14⟩:=p1
 obtain⟨a15,rfl⟩:∃z_,z_=p2:=⟨_,rfl⟩
 rw[zby]at h
 obtain⟨a16,h1,h⟩:=sm h
 cases h
 exact zk Tryd.func49 (zZ (ht.zdk _ _ _ h1) ob) (by kernel_rfl)
theorem zbs.okL (ht:TabOk t call) (n:Nat):∀(k:Nat) (a1:Int) (a2 a3:List zh) (a4 a5:Int) (r:_),zbs t n k a1 a2 a3 a4 a5=some r→loopN (exec (env Tryd.prog 87 Tryd.f87 call) n (sub [1,1,0,1,0,0] (zt Tryd.f87))) k (mkSt 22 22 [(1,(I6 a1)),(5,(.t (.sl true 5 (zh.ts a2)))),(8,(Sl 5 (zh.ts a3))),(9,(I6 a4)),(10,(I6 a5))] [])=some (zbs.to r)
 | 0,a1,a2,a3,a4,a5,r,h=>by rw[zbs]at h;cases h
 | k+1,a1,a2,a3,a4,a5,r,h=>by
  rw[zbs]at h
  rcases fk h with ⟨h1,h⟩ | ⟨h1,h⟩
  ·obtain⟨h2,h⟩:=ck h
   obtain⟨⟨a6,a7,a8,a9,a10⟩,h3,h⟩:=sm h
   obtain⟨⟨a11,a12,a13,a14,a15⟩,h4,h⟩:=sm h
   obtain⟨h5,h⟩:=cl h
   exact zT (path (zi h1 (zav h2 (zad (zu zh.zl h3) (zZ (ht.zco _ _ _ h4) (zd0 (zdd zh.zl h5) (zea (zdG zh.zl (a:=a2) (b:=([(zh.mk a11 a12 a13 a14 a15)]:List zh))) ob)))))) (by kernel_rfl)) (zbs.okL ht n k _ _ _ _ _ _ h)
  ·cases h
   exact zx (path (zi h1 ob) (by kernel_rfl)) (fun h=>by cases h)
theorem zbL.ok {n:Nat} {t:Tab} (ht:TabOk t (run Tryd.prog own kp X n)):∀(p1:List zh) (p2:Int) r,zbL t n p1 p2=some r→run Tryd.prog own kp X (n+1) 87 [(Sl 5 (zh.ts p1)),(I6 p2)] []=some ((Sl 5 (zh.ts r)),[]):=by
 intro p1 p2 r h
 obtain⟨a1,rfl⟩:∃z_,z_=p1:=⟨_,rfl⟩
 obtain⟨a2,rfl⟩:∃z_,z_=p2:=⟨_,rfl⟩
 rw[zbL]at h
 obtain⟨⟨a3,a4,a5,a6,a7,a8⟩,h1,h⟩:=sm h
 cases h
 exact zk Tryd.func87 (zP (zq zh.zl (l:=a1)) (zbq (lk (sub [1,1,0,1,0] (zt Tryd.f87)) (by kernel_rfl) (zbs.okL ht n n _ _ _ _ _ _ h1)) ob)) (by kernel_rfl)
theorem zaN.okL (ht:TabOk t call) (n:Nat):∀(k:Nat) (a1 a2:List ByteArray) (a3 a4:Int) (r:_),zaN t n k a1 a2 a3 a4=some r→loopN (exec (env Tryd.prog 39 Tryd.f39 call) n (sub [1,1,0,1,0,0] (zt Tryd.f39))) k (mkSt 26 26 [(0,(Sl 1 (texts a1))),(1,(Sl 1 (texts a2))),(12,(I6 a3)),(13,(I6 a4))] [])=some (zaN.to r)
 | 0,a1,a2,a3,a4,r,h=>by rw[zaN]at h;cases h
 | k+1,a1,a2,a3,a4,r,h=>by
  rw[zaN]at h
  rcases fk h with ⟨h1,h⟩ | ⟨h1,h⟩
  ·obtain⟨h2,h⟩:=ck h
   obtain⟨a5,h3,h⟩:=sm h
   obtain⟨a6,h4,h⟩:=sm h
   rcases fk h with ⟨h5,h⟩ | ⟨h5,h⟩
   ·exact zT (path (zi h1 (zav h2 (zad (zu zX h3) (zav h2 (zad (zu zX h4) (zi (ng h5) ob)))))) (by kernel_rfl)) (zaN.okL ht n k _ _ _ _ _ h)
   ·cases h
    exact zx (path (zi h1 (zav h2 (zad (zu zX h3) (zav h2 (zad (zu zX h4) (zi (ng h5) ob)))))) (by kernel_rfl)) (fun h=>by cases h)
  ·cases h
   exact zx (path (zi h1 ob) (by kernel_rfl)) (fun h=>by cases h)
theorem slices_Equal_string.ok {n:Nat} {t:Tab} (ht:TabOk t (run Tryd.prog own kp X n)):∀(p1:List ByteArray) (p2:List ByteArray) r,slices_Equal_string t n p1 p2=some r→run Tryd.prog own kp X (n+1) 39 [(Sl 1 (texts p1)),(Sl 1 (texts p2))] []=some ((Bo r),[]):=by
 intro p1 p2 r h
 obtain⟨a1,rfl⟩:∃z_,z_=p1:=⟨_,rfl⟩
 obtain⟨a2,rfl⟩:∃z_,z_=p2:=⟨_,rfl⟩
 rw[slices_Equal_string]at h
 rcases fk h with ⟨h1,h⟩ | ⟨h1,h⟩
 ·cases h
  exact zk Tryd.func39 (zP (zq zX (l:=a1)) (zP (zq zX (l:=a2)) (zi h1 ob))) (by kernel_rfl)
 ·obtain⟨a3 | ⟨a4,a5,a6,a7,a8⟩,h2,h⟩:=sm h
  ·cases h
   exact zk Tryd.func39 (zP (zq zX (l:=a1)) (zP (zq zX (l:=a2)) (zi h1 (zP (zq zX (l:=a1)) (zbq (lk (sub [1,1,0,1,0] (zt Tryd.f39)) (by kernel_rfl) (zaN.okL ht n n _ _ _ _ _ h2)) ob))))) (by kernel_rfl)
  ·cases h
   exact zk Tryd.func39 (zP (zq zX (l:=a1)) (zP (zq zX (l:=a2)) (zi h1 (zP (zq zX (l:=a1)) (zbq (lk (sub [1,1,0,1,0] (zt Tryd.f39)) (by kernel_rfl) (zaN.okL ht n n _ _ _ _ _ h2)) ob))))) (by kernel_rfl)
theorem za8.okL (ht:TabOk t call) (n:Nat):∀(k:Nat) (a1 a2:List Int) (a3 a4:Int) (r:_),za8 t n k a1 a2 a3 a4=some r→loopN (exec (env Tryd.prog 40 Tryd.f40 call) n (sub [1,1,0,1,0,0] (zt Tryd.f40))) k (mkSt 26 26 [(0,(Sl 1 (zB a1))),(1,(Sl 1 (zB a2))),(12,(I6 a3)),(13,(I6 a4))] [])=some (za8.to r)
 | 0,a1,a2,a3,a4,r,h=>by rw[za8]at h;cases h
 | k+1,a1,a2,a3,a4,r,h=>by
  rw[za8]at h
  rcases fk h with ⟨h1,h⟩ | ⟨h1,h⟩
  ·obtain⟨h2,h⟩:=ck h
   obtain⟨a5,h3,h⟩:=sm h
   obtain⟨a6,h4,h⟩:=sm h
   rcases fk h with ⟨h5,h⟩ | ⟨h5,h⟩
   ·cases h
    exact zx (path (zi h1 (zav h2 (zad (zu zy h3) (zav h2 (zad (zu zy h4) (zi h5 ob)))))) (by kernel_rfl)) (fun h=>by cases h)
   ·exact zT (path (zi h1 (zav h2 (zad (zu zy h3) (zav h2 (zad (zu zy h4) (zi h5 ob)))))) (by kernel_rfl)) (za8.okL ht n k _ _ _ _ _ h)
  ·cases h
   exact zx (path (zi h1 ob) (by kernel_rfl)) (fun h=>by cases h)
theorem slices_Equal_int.ok {n:Nat} {t:Tab} (ht:TabOk t (run Tryd.prog own kp X n)):∀(p1:List Int) (p2:List Int) r,slices_Equal_int t n p1 p2=some r→run Tryd.prog own kp X (n+1) 40 [(Sl 1 (zB p1)),(Sl 1 (zB p2))] []=some ((Bo r),[]):=by
 intro p1 p2 r h
 obtain⟨a1,rfl⟩:∃z_,z_=p1:=⟨_,rfl⟩
 obtain⟨a2,rfl⟩:∃z_,z_=p2:=⟨_,rfl⟩
 rw[slices_Equal_int]at h
 rcases fk h with ⟨h1,h⟩ | ⟨h1,h⟩
 ·cases h
  exact zk Tryd.func40 (zP (zq zy (l:=a1)) (zP (zq zy (l:=a2)) (zi h1 ob))) (by kernel_rfl)
 ·obtain⟨a3 | ⟨a4,a5,a6,a7,a8⟩,h2,h⟩:=sm h
  ·cases h
   exact zk Tryd.func40 (zP (zq zy (l:=a1)) (zP (zq zy (l:=a2)) (zi h1 (zP (zq zy (l:=a1)) (zbq (lk (sub [1,1,0,1,0] (zt Tryd.f40)) (by kernel_rfl) (za8.okL ht n n _ _ _ _ _ h2)) ob))))) (by kernel_rfl)
  ·cases h
   exact zk Tryd.func40 (zP (zq zy (l:=a1)) (zP (zq zy (l:=a2)) (zi h1 (zP (zq zy (l:=a1)) (zbq (lk (sub [1,1,0,1,0] (zt Tryd.f40)) (by kernel_rfl) (za8.okL ht n n _ _ _ _ _ h2)) ob))))) (by kernel_rfl)
theorem za9.okL (ht:TabOk t call) (n:Nat):∀(k:Nat) (a1 a2:List GKey) (a3 a4:Int) (r:_),za9 t n k a1 a2 a3 a4=some r→loopN (exec (env Tryd.prog 41 Tryd.f41 call) n (sub [1,1,0,1,0,0] (zt Tryd.f41))) k (mkSt 26 26 [(0,(Sl 4 (GKey.ts a1))),(1,(Sl 4 (GKey.ts a2))),(12,(I6 a3)),(13,(I6 a4))] [])=some (za9.to r)
 | 0,a1,a2,a3,a4,r,h=>by rw[za9]at h;cases h
 | k+1,a1,a2,a3,a4,r,h=>by
  rw[za9]at h
  rcases fk h with ⟨h1,h⟩ | ⟨h1,h⟩
  ·obtain⟨h2,h⟩:=ck h
   obtain⟨⟨a5,a6,a7,a8⟩,h3,h⟩:=sm h
   obtain⟨⟨a9,a10,a11,a12⟩,h4,h⟩:=sm h
   rcases fk h with ⟨h5,h⟩ | ⟨h5,h⟩
   ·exact zT (path (zi h1 (zav h2 (zad (zu GKey.zl h3) (zav h2 (zad (zu GKey.zl h4) (zi (ng h5) ob)))))) (by kernel_rfl)) (za9.okL ht n k _ _ _ _ _ h)
   ·cases h
    exact zx (path (zi h1 (zav h2 (zad (zu GKey.zl h3) (zav h2 (zad (zu GKey.zl h4) (zi (ng h5) ob)))))) (by kernel_rfl)) (fun h=>by cases h)
  ·cases h
   exact zx (path (zi h1 ob) (by kernel_rfl)) (fun h=>by cases h)
theorem zcj.ok {n:Nat} {t:Tab} (ht:TabOk t (run Tryd.prog own kp X n)):∀(p1:List GKey) (p2:List GKey) r,zcj t n p1 p2=some r→run Tryd.prog own kp X (n+1) 41 [(Sl 4 (GKey.ts p1)),(Sl 4 (GKey.ts p2))] []=some ((Bo r),[]):=by
 intro p1 p2 r h
 obtain⟨a1,rfl⟩:∃z_,z_=p1:=⟨_,rfl⟩
 obtain⟨a2,rfl⟩:∃z_,z_=p2:=⟨_,rfl⟩
 rw[zcj]at h
 rcases fk h with ⟨h1,h⟩ | ⟨h1,h⟩
 ·cases h
  exact zk Tryd.func41 (zP (zq GKey.zl (l:=a1)) (zP (zq GKey.zl (l:=a2)) (zi h1 ob))) (by kernel_rfl)
 ·obtain⟨a3 | ⟨a4,a5,a6,a7,a8⟩,h2,h⟩:=sm h
  ·cases h
   exact zk Tryd.func41 (zP (zq GKey.zl (l:=a1)) (zP (zq GKey.zl (l:=a2)) (zi h1 (zP (zq GKey.zl (l:=a1)) (zbq (lk (sub [1,1,0,1,0] (zt Tryd.f41)) (by kernel_rfl) (za9.okL ht n n _ _ _ _ _ h2)) ob))))) (by kernel_rfl)
  ·cases h
   exact zk Tryd.func41 (zP (zq GKey.zl (l:=a1)) (zP (zq GKey.zl (l:=a2)) (zi h1 (zP (zq GKey.zl (l:=a1)) (zbq (lk (sub [1,1,0,1,0] (zt Tryd.f41)) (by kernel_rfl) (za9.okL ht n n _ _ _ _ _ h2)) ob))))) (by kernel_rfl)
theorem zbk.ok {n:Nat} {t:Tab} (ht:TabOk t (run Tryd.prog own kp X n)):∀(p1:zh) (p2:zh) r,zbk t n p1 p2=some r→run Tryd.prog own kp X (n+1) 42 [(.t (zh.t p1)),(.t (zh.t p2))] []=some ((Bo r),[]):=by
 intro p1 p2 r h
 obtain⟨a1,a2,a3,a4,a5⟩:=p1
 obtain⟨a6,a7,a8,a9,a10⟩:=p2
 rw[zbk]at h
 obtain⟨a11,h1,h⟩:=sm h
 cases h
 exact zk Tryd.func42 (zZ (ht.zdc _ _ _ h1) ob) (by kernel_rfl)
theorem zbW.ok {n:Nat} {t:Tab} (ht:TabOk t (run Tryd.prog own kp X n)):∀(p1:GPred) (p2:GPred) r,zbW t n p1 p2=some r→run Tryd.prog own kp X (n+1) 43 [(.t (GPred.t p1)),(.t (GPred.t p2))] []=some ((Bo r),[]):=by
 intro p1 p2 r h
 obtain⟨a1,a2,a3⟩:=p1
 obtain⟨a4,a5,a6⟩:=p2
 rw[zbW]at h
 rcases fk h with ⟨h1,h⟩ | ⟨h1,h⟩
 ·obtain⟨a7,h2,h⟩:=sm h
  rcases fk h with ⟨h3,h⟩ | ⟨h3,h⟩
  ·obtain⟨a8,rfl⟩:∃z_,z_=r:=⟨_,rfl⟩
   have h4:=h
   exact zk Tryd.func43 (zaG h1 5 (zZ (ht.zax _ _ _ h2) (zi h1 (zaG h3 5 (zZ (ht.zat _ _ _ h4) (zi h3 ob)))))) (by kernel_rfl)
  ·cases h
   exact zk Tryd.func43 (zaG h1 5 (zZ (ht.zax _ _ _ h2) (zi h1 (zaG h3 6 ob)))) (by kernel_rfl)
 ·cases h
  exact zk Tryd.func43 (zaG h1 6 (zaG (rfl:false=false) 6 ob)) (by kernel_rfl)
theorem zbM.ok (ht:TabOk t call) (n:Nat) (a1:Int) (a2:Bool) (a3:Int) (a4:List ByteArray) (a5:List Int) (a6 a7:Int) (a8:ByteArray) (a9 a10:List zh) (a11:Int) (a12:List zh) (a13:List GPred) (a14:List (List GStep)) (a15:List GBy) (a16:List ByteArray) (r:_) (h:zbM t n a1 a2 a3 a4 a5 a6 a7 a8 a9 a10 a11 a12 a13 a14 a15 a16=some r):exec (env Tryd.prog 50 Tryd.f50 call) n (sub [1,1,1,1,0,0,1,1,1,1,1,1,1] (zt Tryd.f50)) (mkSt 163 163 [(1,(I6 a1)),(2,(.ptr 2 0 [] 0)),(97,(Bo a2))] [(2,(.t (.st [(.v (.int .i64 a3)),(.sl false 1 (texts a4)),(.sl false 1 (zB a5)),(.st [(.v (.int .i64 a6)),(.v (.int .i64 a7)),(.v (.string a8)),(.sl false 5 (zh.ts a9)),(.sl false 5 (zh.ts a10))]),(.st [(.v (.int .i64 a11)),(.sl false 5 (zh.ts a12)),(.sl false 3 (GPred.ts a13))]),(.sl false 1 (zo a14)),(.sl false 4 (GBy.ts a15)),(.sl false 1 (texts a16))])))])=some (zbM.to r):=by
 rw[zbM]at h
 rcases fk h with ⟨h1,h⟩ | ⟨h1,h⟩
 ·cases h
  exact path (zi h1 ob) (by kernel_rfl)
 ·rcases fk h with ⟨h2,h⟩ | ⟨h2,h⟩
  ·obtain⟨a17,h3,h⟩:=sm h
   have o6 {os} (x:Obls (env Tryd.prog 50 Tryd.f50 call) n os):=zi h1 (zV h2 (zZ (ht.zbX _ _ h3) (zi h2 x)))
   rcases fk h with ⟨h4,h⟩ | ⟨h4,h⟩
   ·cases h
    exact path (o6 (zaG h4 7 (zi h2 (zi h4 (zi h2 (zds 1 ob)))))) (by kernel_rfl)
   ·have o18 {os} (x:Obls (env Tryd.prog 50 Tryd.f50 call) n os):=o6 (zV h4 (zP (zq GBy.zl (l:=a15)) (zV h4 (zP (zq zX (l:=a4)) (zi h4 (zi h2 (zi h4 (zi h2 x))))))))
    rcases fk h with ⟨h5,h⟩ | ⟨h5,h⟩
    ·cases h
     exact path (o18 (zi h5 ob)) (by kernel_rfl)
    ·cases h
     exact path (o18 (zi h5 ob)) (by kernel_rfl)
  ·cases h
   exact path (zi h1 (zaG h2 6 (zi (rfl:false=false) ob))) (by kernel_rfl)
theorem zbN.ok (ht:TabOk t call) (n:Nat) (a1:Int) (a2:Bool) (a3:Int) (a4:List ByteArray) (a5:List Int) (a6 a7:Int) (a8:ByteArray) (a9 a10:List zh) (a11:Int) (a12:List zh) (a13:List GPred) (a14:List (List GStep)) (a15:List GBy) (a16:List ByteArray) (a17 a18 a19 a20 a21 a22 a23 a24:Int) (a25 a26:Bool) (r:_) (h:zbN t n a1 a2 a3 a4 a5 a6 a7 a8 a9 a10 a11 a12 a13 a14 a15 a16 a17 a18 a19 a20 a21 a22 a23 a24 a25 a26=some r):exec (env Tryd.prog 50 Tryd.f50 call) n (sub [1,1,1,1,0,0,1,1,1,1,1] (zt Tryd.f50)) (mkSt 163 163 [(1,(I6 a1)),(2,(.ptr 2 0 [] 0)),(5,(.ptr 5 0 [] 0)),(76,(Bo a2))] [(2,(.t (.st [(.v (.int .i64 a3)),(.sl false 1 (texts a4)),(.sl false 1 (zB a5)),(.st [(.v (.int .i64 a6)),(.v (.int .i64 a7)),(.v (.string a8)),(.sl false 5 (zh.ts a9)),(.sl false 5 (zh.ts a10))]),(.st [(.v (.int .i64 a11)),(.sl false 5 (zh.ts a12)),(.sl false 3 (GPred.ts a13))]),(.sl false 1 (zo a14)),(.sl false 4 (GBy.ts a15)),(.sl false 1 (texts a16))]))),(5,(.t (.st [(.st [(.v (.int .i64 a17)),(.v (.int .i64 a18))]),(.st [(.v (.int .i64 a19)),(.v (.int .i64 a20))]),(.st [(.v (.int .i64 a21)),(.v (.int .i64 a22))]),(.st [(.v (.int .i64 a23)),(.v (.int .i64 a24))]),(.v (.bool a25)),(.v (.bool a26))])))])=some (zbN.to r):=by
 rw[zbN]at h
 rcases fk h with ⟨h1,h⟩ | ⟨h1,h⟩
 ·cases h
  exact path (zi h1 ob) (by kernel_rfl)
 ·rcases fk h with ⟨h2,h⟩ | ⟨h2,h⟩
  ·obtain⟨a27,h3,h⟩:=sm h
   have o7 {os} (x:Obls (env Tryd.prog 50 Tryd.f50 call) n os):=zi h1 (zV h2 (zZ (ht.zcp _ _ h3) (zaT h2 x)))
   rcases fk h with ⟨h4,h⟩ | ⟨h4,h⟩
   ·have h5:=h
    rcases r with a28 | ⟨a29,a30,a31,a32,a33,a34,a35,a36,a37,a38,a39,a40,a41,a42,a43⟩
    ·exact path (o7 (zaG h4 6 (zaw (zbM.ok ht n _ _ _ _ _ _ _ _ _ _ _ _ _ _ _ _ _ h5) ob))) (by kernel_rfl)
    ·exact path (o7 (zaG h4 6 (zaw (zbM.ok ht n _ _ _ _ _ _ _ _ _ _ _ _ _ _ _ _ _ h5) ob))) (by kernel_rfl)
   ·have h6:=h
    rcases r with a44 | ⟨a45,a46,a47,a48,a49,a50,a51,a52,a53,a54,a55,a56,a57,a58,a59⟩
    ·exact path (o7 (zaV h4 (zaV (ng h2) (zi h4 (zi (ng h2) (zi h4 (zaw (zbM.ok ht n _ _ _ _ _ _ _ _ _ _ _ _ _ _ _ _ _ h6) ob))))))) (by kernel_rfl)
    ·exact path (o7 (zaV h4 (zaV (ng h2) (zi h4 (zi (ng h2) (zi h4 (zaw (zbM.ok ht n _ _ _ _ _ _ _ _ _ _ _ _ _ _ _ _ _ h6) ob))))))) (by kernel_rfl)
  ·obtain⟨a60,h7,h⟩:=sm h
   have h8:=h
   have o18 {os} (x:Obls (env Tryd.prog 50 Tryd.f50 call) n os):=zi h1 (zaG h2 5 (zaV (rfl:false=false) (zV (ng h2) (zZ (ht.zcd _ _ h7) (zi (ng h2) (zi (rfl:false=false) (zi (ng h2) (zi (rfl:false=false) x))))))))
   rcases r with a61 | ⟨a62,a63,a64,a65,a66,a67,a68,a69,a70,a71,a72,a73,a74,a75,a76⟩
   ·exact path (o18 (zaw (zbM.ok ht n _ _ _ _ _ _ _ _ _ _ _ _ _ _ _ _ _ h8) ob)) (by kernel_rfl)
   ·exact path (o18 (zaw (zbM.ok ht n _ _ _ _ _ _ _ _ _ _ _ _ _ _ _ _ _ h8) ob)) (by kernel_rfl)
theorem zbO.ok (ht:TabOk t call) (n:Nat) (a1:Int) (a2:Bool) (a3:Int) (a4:List ByteArray) (a5:List Int) (a6 a7:Int) (a8:ByteArray) (a9 a10:List zh) (a11:Int) (a12:List zh) (a13:List GPred) (a14:List (List GStep)) (a15:List GBy) (a16:List ByteArray) (a17 a18 a19 a20 a21 a22 a23 a24:Int) (a25 a26:Bool) (r:_) (h:zbO t n a1 a2 a3 a4 a5 a6 a7 a8 a9 a10 a11 a12 a13 a14 a15 a16 a17 a18 a19 a20 a21 a22 a23 a24 a25 a26=some r):exec (env Tryd.prog 50 Tryd.f50 call) n (sub [1,1,1,1,0,0,1,1,1] (zt Tryd.f50)) (mkSt 163 163 [(1,(I6 a1)),(2,(.ptr 2 0 [] 0)),(5,(.ptr 5 0 [] 0)),(60,(Bo a2))] [(2,(.t (.st [(.v (.int .i64 a3)),(.sl false 1 (texts a4)),(.sl false 1 (zB a5)),(.st [(.v (.int .i64 a6)),(.v (.int .i64 a7)),(.v (.string a8)),(.sl false 5 (zh.ts a9)),(.sl false 5 (zh.ts a10))]),(.st [(.v (.int .i64 a11)),(.sl false 5 (zh.ts a12)),(.sl false 3 (GPred.ts a13))]),(.sl false 1 (zo a14)),(.sl false 4 (GBy.ts a15)),(.sl false 1 (texts a16))]))),(5,(.t (.st [(.st [(.v (.int .i64 a17)),(.v (.int .i64 a18))]),(.st [(.v (.int .i64 a19)),(.v (.int .i64 a20))]),(.st [(.v (.int .i64 a21)),(.v (.int .i64 a22))]),(.st [(.v (.int .i64 a23)),(.v (.int .i64 a24))]),(.v (.bool a25)),(.v (.bool a26))])))])=some (zbO.to r):=by
 rw[zbO]at h
 rcases fk h with ⟨h1,h⟩ | ⟨h1,h⟩
 ·cases h
  exact path (zi h1 ob) (by kernel_rfl)
 ·rcases fk h with ⟨h2,h⟩ | ⟨h2,h⟩
  ·obtain⟨a27,h3,h⟩:=sm h
   have o7 {os} (x:Obls (env Tryd.prog 50 Tryd.f50 call) n os):=zi h1 (zV h2 (zZ (ht.zbA _ _ h3) (zaT h2 x)))
   rcases fk h with ⟨h4,h⟩ | ⟨h4,h⟩
   ·have h5:=h
    rcases r with a28 | ⟨a29,a30,a31,a32,a33,a34,a35,a36,a37,a38,a39,a40,a41,a42,a43⟩
    ·exact path (o7 (zaG h4 6 (zaw (zbN.ok ht n _ _ _ _ _ _ _ _ _ _ _ _ _ _ _ _ _ _ _ _ _ _ _ _ _ _ _ h5) ob))) (by kernel_rfl)
    ·exact path (o7 (zaG h4 6 (zaw (zbN.ok ht n _ _ _ _ _ _ _ _ _ _ _ _ _ _ _ _ _ _ _ _ _ _ _ _ _ _ _ h5) ob))) (by kernel_rfl)
   ·have h6:=h
    rcases r with a44 | ⟨a45,a46,a47,a48,a49,a50,a51,a52,a53,a54,a55,a56,a57,a58,a59⟩
    ·exact path (o7 (zaV h4 (zaG (ng h2) 5 (zi h4 (zi (ng h2) (zi h4 (zaw (zbN.ok ht n _ _ _ _ _ _ _ _ _ _ _ _ _ _ _ _ _ _ _ _ _ _ _ _ _ _ _ h6) ob))))))) (by kernel_rfl)
    ·exact path (o7 (zaV h4 (zaG (ng h2) 5 (zi h4 (zi (ng h2) (zi h4 (zaw (zbN.ok ht n _ _ _ _ _ _ _ _ _ _ _ _ _ _ _ _ _ _ _ _ _ _ _ _ _ _ _ h6) ob))))))) (by kernel_rfl)
  ·obtain⟨a60,h7,h⟩:=sm h
   have h8:=h
   have o19 {os} (x:Obls (env Tryd.prog 50 Tryd.f50 call) n os):=zi h1 (zaG h2 5 (zaV (rfl:false=false) (zaV (ng h2) (zZ (ht.zbk _ _ _ h7) (zi (ng h2) (zi (rfl:false=false) (zi (ng h2) (zi (rfl:false=false) x))))))))
   rcases r with a61 | ⟨a62,a63,a64,a65,a66,a67,a68,a69,a70,a71,a72,a73,a74,a75,a76⟩
   ·exact path (o19 (zaw (zbN.ok ht n _ _ _ _ _ _ _ _ _ _ _ _ _ _ _ _ _ _ _ _ _ _ _ _ _ _ _ h8) ob)) (by kernel_rfl)
   ·exact path (o19 (zaw (zbN.ok ht n _ _ _ _ _ _ _ _ _ _ _ _ _ _ _ _ _ _ _ _ _ _ _ _ _ _ _ h8) ob)) (by kernel_rfl)
theorem zaC.ok (ht:TabOk t call) (n:Nat) (a1:Int) (a2:Bool) (a3:Int) (a4:List ByteArray) (a5:List Int) (a6 a7:Int) (a8:ByteArray) (a9 a10:List zh) (a11:Int) (a12:List zh) (a13:List GPred) (a14:List (List GStep)) (a15:List GBy) (a16:List ByteArray) (a17 a18 a19 a20 a21 a22 a23 a24:Int) (a25 a26:Bool) (r:_) (h:zaC t n a1 a2 a3 a4 a5 a6 a7 a8 a9 a10 a11 a12 a13 a14 a15 a16 a17 a18 a19 a20 a21 a22 a23 a24 a25 a26=some r):exec (env Tryd.prog 50 Tryd.f50 call) n (sub [1,1,1,1,0,0,1] (zt Tryd.f50)) (mkSt 163 163 [(1,(I6 a1)),(2,(.ptr 2 0 [] 0)),(5,(.ptr 5 0 [] 0)),(6,(.fn 66 [])),(19,(Bo a2))] [(2,(.t (.st [(.v (.int .i64 a3)),(.sl false 1 (texts a4)),(.sl false 1 (zB a5)),(.st [(.v (.int .i64 a6)),(.v (.int .i64 a7)),(.v (.string a8)),(.sl false 5 (zh.ts a9)),(.sl false 5 (zh.ts a10))]),(.st [(.v (.int .i64 a11)),(.sl false 5 (zh.ts a12)),(.sl false 3 (GPred.ts a13))]),(.sl false 1 (zo a14)),(.sl false 4 (GBy.ts a15)),(.sl false 1 (texts a16))]))),(5,(.t (.st [(.st [(.v (.int .i64 a17)),(.v (.int .i64 a18))]),(.st [(.v (.int .i64 a19)),(.v (.int .i64 a20))]),(.st [(.v (.int .i64 a21)),(.v (.int .i64 a22))]),(.st [(.v (.int .i64 a23)),(.v (.int .i64 a24))]),(.v (.bool a25)),(.v (.bool a26))])))])=some (zaC.to r):=by
 rw[zaC]at h
 rcases fk h with ⟨h1,h⟩ | ⟨h1,h⟩
 ·cases h
  exact path (zi h1 ob) (by kernel_rfl)
 ·obtain⟨a27,h2,h⟩:=sm h
  have o2 {os} (x:Obls (env Tryd.prog 50 Tryd.f50 call) n os):=zi h1 (zZ (ht.zz _ _ h2) x)
  rcases fk h with ⟨h3,h⟩ | ⟨h3,h⟩
  ·have h4:=h
   rcases r with a28 | ⟨a29,a30,a31,a32,a33,a34,a35,a36,a37,a38,a39,a40,a41,a42,a43⟩
   ·exact path (o2 (zaG h3 5 (zds 4 (zaw (zbO.ok ht n _ _ _ _ _ _ _ _ _ _ _ _ _ _ _ _ _ _ _ _ _ _ _ _ _ _ _ h4) ob)))) (by kernel_rfl)
   ·exact path (o2 (zaG h3 5 (zds 4 (zaw (zbO.ok ht n _ _ _ _ _ _ _ _ _ _ _ _ _ _ _ _ _ _ _ _ _ _ _ _ _ _ _ h4) ob)))) (by kernel_rfl)
  ·obtain⟨a44,h5,h⟩:=sm h
   have o8 {os} (x:Obls (env Tryd.prog 50 Tryd.f50 call) n os):=o2 (zaV h3 (zZ (ht.zz _ _ h5) (zi h3 x)))
   rcases fk h with ⟨h6,h⟩ | ⟨h6,h⟩
   ·have h7:=h
    rcases r with a45 | ⟨a46,a47,a48,a49,a50,a51,a52,a53,a54,a55,a56,a57,a58,a59,a60⟩
    ·exact path (o8 (zaV h6 (zaw (zbO.ok ht n _ _ _ _ _ _ _ _ _ _ _ _ _ _ _ _ _ _ _ _ _ _ _ _ _ _ _ h7) ob))) (by kernel_rfl)
    ·exact path (o8 (zaV h6 (zaw (zbO.ok ht n _ _ _ _ _ _ _ _ _ _ _ _ _ _ _ _ _ _ _ _ _ _ _ _ _ _ _ h7) ob))) (by kernel_rfl)
   ·obtain⟨a61,h8,h⟩:=sm h
    have h9:=h
    rcases r with a62 | ⟨a63,a64,a65,a66,a67,a68,a69,a70,a71,a72,a73,a74,a75,a76,a77⟩
    ·exact path (o8 (zaT h6 (zZ (ht.zbn _ _ h8) (zaT h6 (zaw (zbO.ok ht n _ _ _ _ _ _ _ _ _ _ _ _ _ _ _ _ _ _ _ _ _ _ _ _ _ _ _ h9) ob))))) (by kernel_rfl)
    ·exact path (o8 (zaT h6 (zZ (ht.zbn _ _ h8) (zaT h6 (zaw (zbO.ok ht n _ _ _ _ _ _ _ _ _ _ _ _ _ _ _ _ _ _ _ _ _ _ _ _ _ _ _ h9) ob))))) (by kernel_rfl)
theorem zcb.okL (ht:TabOk t call) (n:Nat):∀(k:Nat) (a1:Int) (a2:List (List GStep)) (a3 a4 a5:Int) (a6:List ByteArray) (a7:List Int) (a8 a9:Int) (a10:ByteArray) (a11 a12:List zh) (a13:Int) (a14:List zh) (a15:List GPred) (a16:List (List GStep)) (a17:List GBy) (a18:List ByteArray) (r:_),zcb t n k a1 a2 a3 a4 a5 a6 a7 a8 a9 a10 a11 a12 a13 a14 a15 a16 a17 a18=some r→loopN (exec (env Tryd.prog 50 Tryd.f50 call) n (sub [1,1,1,1,1,0,1,0,0] (zt Tryd.f50))) k (mkSt 163 163 [(1,(I6 a1)),(2,(.ptr 2 0 [] 0)),(136,(Sl 1 (zo a2))),(137,(I6 a3)),(138,(I6 a4))] [(2,(.t (.st [(.v (.int .i64 a5)),(.sl false 1 (texts a6)),(.sl false 1 (zB a7)),(.st [(.v (.int .i64 a8)),(.v (.int .i64 a9)),(.v (.string a10)),(.sl false 5 (zh.ts a11)),(.sl false 5 (zh.ts a12))]),(.st [(.v (.int .i64 a13)),(.sl false 5 (zh.ts a14)),(.sl false 3 (GPred.ts a15))]),(.sl false 1 (zo a16)),(.sl false 4 (GBy.ts a17)),(.sl false 1 (texts a18))])))])=some (zcb.to r)
 | 0,a1,a2,a3,a4,a5,a6,a7,a8,a9,a10,a11,a12,a13,a14,a15,a16,a17,a18,r,h=>by rw[zcb]at h;cases h
 | k+1,a1,a2,a3,a4,a5,a6,a7,a8,a9,a10,a11,a12,a13,a14,a15,a16,a17,a18,r,h=>by
  rw[zcb]at h
  rcases fk h with ⟨h1,h⟩ | ⟨h1,h⟩
  ·obtain⟨h2,h⟩:=ck h
   obtain⟨a19,h3,h⟩:=sm h
   obtain⟨a20,h4,h⟩:=sm h
   rcases fk h with ⟨h5,h⟩ | ⟨h5,h⟩
   ·exact zT (path (zi h1 (zav h2 (zad (zu zw h3) (zZ (ht.zaY _ _ _ h4) (zi (ng h5) ob))))) (by kernel_rfl)) (zcb.okL ht n k _ _ _ _ _ _ _ _ _ _ _ _ _ _ _ _ _ _ _ h)
   ·cases h
    exact zx (path (zi h1 (zav h2 (zad (zu zw h3) (zZ (ht.zaY _ _ _ h4) (zi (ng h5) ob))))) (by kernel_rfl)) (fun h=>by cases h)
  ·cases h
   exact zx (path (zi h1 ob) (by kernel_rfl)) (fun h=>by cases h)
theorem zcc.okL (ht:TabOk t call) (n:Nat):∀(k:Nat) (a1:Int) (a2:List GBy) (a3 a4 a5:Int) (a6:List ByteArray) (a7:List Int) (a8 a9:Int) (a10:ByteArray) (a11 a12:List zh) (a13:Int) (a14:List zh) (a15:List GPred) (a16:List (List GStep)) (a17:List GBy) (a18:List ByteArray) (r:_),zcc t n k a1 a2 a3 a4 a5 a6 a7 a8 a9 a10 a11 a12 a13 a14 a15 a16 a17 a18=some r→loopN (exec (env Tryd.prog 50 Tryd.f50 call) n (sub [1,1,1,1,1,1,0,1,0,0] (zt Tryd.f50))) k (mkSt 163 163 [(1,(I6 a1)),(2,(.ptr 2 0 [] 0)),(149,(Sl 4 (GBy.ts a2))),(150,(I6 a3)),(151,(I6 a4))] [(2,(.t (.st [(.v (.int .i64 a5)),(.sl false 1 (texts a6)),(.sl false 1 (zB a7)),(.st [(.v (.int .i64 a8)),(.v (.int .i64 a9)),(.v (.string a10)),(.sl false 5 (zh.ts a11)),(.sl false 5 (zh.ts a12))]),(.st [(.v (.int .i64 a13)),(.sl false 5 (zh.ts a14)),(.sl false 3 (GPred.ts a15))]),(.sl false 1 (zo a16)),(.sl false 4 (GBy.ts a17)),(.sl false 1 (texts a18))])))])=some (zcc.to r)
 | 0,a1,a2,a3,a4,a5,a6,a7,a8,a9,a10,a11,a12,a13,a14,a15,a16,a17,a18,r,h=>by rw[zcc]at h;cases h
 | k+1,a1,a2,a3,a4,a5,a6,a7,a8,a9,a10,a11,a12,a13,a14,a15,a16,a17,a18,r,h=>by
  rw[zcc]at h
  rcases fk h with ⟨h1,h⟩ | ⟨h1,h⟩
  ·obtain⟨h2,h⟩:=ck h
   obtain⟨⟨a19,a20,a21,a22⟩,h3,h⟩:=sm h
   obtain⟨a23,h4,h⟩:=sm h
   rcases fk h with ⟨h5,h⟩ | ⟨h5,h⟩
   ·exact zT (path (zi h1 (zav h2 (zad (zu GBy.zl h3) (zZ (ht.zdo _ _ _ _ h4) (zi (ng h5) ob))))) (by kernel_rfl)) (zcc.okL ht n k _ _ _ _ _ _ _ _ _ _ _ _ _ _ _ _ _ _ _ h)
   ·cases h
    exact zx (path (zi h1 (zav h2 (zad (zu GBy.zl h3) (zZ (ht.zdo _ _ _ _ h4) (zi (ng h5) ob))))) (by kernel_rfl)) (fun h=>by cases h)
  ·cases h
   exact zx (path (zi h1 ob) (by kernel_rfl)) (fun h=>by cases h)
theorem zdC.ok (ht:TabOk t call) (n:Nat) (a1 a2:Int) (a3:List ByteArray) (a4:List Int) (a5 a6:Int) (a7:ByteArray) (a8 a9:List zh) (a10:Int) (a11:List zh) (a12:List GPred) (a13:List (List GStep)) (a14:List GBy) (a15:List ByteArray) (r:_) (h:zdC t n a1 a2 a3 a4 a5 a6 a7 a8 a9 a10 a11 a12 a13 a14 a15=some r):exec (env Tryd.prog 50 Tryd.f50 call) n (sub [1,1,1,1,1,1] (zt Tryd.f50)) (mkSt 163 163 [(1,(I6 a1)),(2,(.ptr 2 0 [] 0))] [(2,(.t (.st [(.v (.int .i64 a2)),(.sl false 1 (texts a3)),(.sl false 1 (zB a4)),(.st [(.v (.int .i64 a5)),(.v (.int .i64 a6)),(.v (.string a7)),(.sl false 5 (zh.ts a8)),(.sl false 5 (zh.ts a9))]),(.st [(.v (.int .i64 a10)),(.sl false 5 (zh.ts a11)),(.sl false 3 (GPred.ts a12))]),(.sl false 1 (zo a13)),(.sl false 4 (GBy.ts a14)),(.sl false 1 (texts a15))])))])=some (zdC.to r):=by
 rw[zdC]at h
 obtain⟨a16 | ⟨a17,a18,a19,a20,a21,a22,a23,a24,a25,a26,a27,a28,a29,a30,a31,a32,a33,a34,a35⟩,h1,h⟩:=sm h
 ·cases h
  exact path (zP (zq GBy.zl (l:=a14)) (zbq (lk (sub [1,1,1,1,1,1,0,1,0] (zt Tryd.f50)) (by kernel_rfl) (zcc.okL ht n n _ _ _ _ _ _ _ _ _ _ _ _ _ _ _ _ _ _ _ h1)) ob)) (by kernel_rfl)
 ·cases h
  exact path (zP (zq GBy.zl (l:=a14)) (zbq (lk (sub [1,1,1,1,1,1,0,1,0] (zt Tryd.f50)) (by kernel_rfl) (zcc.okL ht n n _ _ _ _ _ _ _ _ _ _ _ _ _ _ _ _ _ _ _ h1)) ob)) (by kernel_rfl)
theorem zbz.ok (ht:TabOk t call) (n:Nat) (a1 a2:Int) (a3:List ByteArray) (a4:List Int) (a5 a6:Int) (a7:ByteArray) (a8 a9:List zh) (a10:Int) (a11:List zh) (a12:List GPred) (a13:List (List GStep)) (a14:List GBy) (a15:List ByteArray) (r:_) (h:zbz t n a1 a2 a3 a4 a5 a6 a7 a8 a9 a10 a11 a12 a13 a14 a15=some r):exec (env Tryd.prog 50 Tryd.f50 call) n (sub [1,1,1,1,1] (zt Tryd.f50)) (mkSt 163 163 [(1,(I6 a1)),(2,(.ptr 2 0 [] 0))] [(2,(.t (.st [(.v (.int .i64 a2)),(.sl false 1 (texts a3)),(.sl false 1 (zB a4)),(.st [(.v (.int .i64 a5)),(.v (.int .i64 a6)),(.v (.string a7)),(.sl false 5 (zh.ts a8)),(.sl false 5 (zh.ts a9))]),(.st [(.v (.int .i64 a10)),(.sl false 5 (zh.ts a11)),(.sl false 3 (GPred.ts a12))]),(.sl false 1 (zo a13)),(.sl false 4 (GBy.ts a14)),(.sl false 1 (texts a15))])))])=some (zbz.to r):=by
 rw[zbz]at h
 obtain⟨a16 | ⟨a17,a18,a19,a20,a21,a22,a23,a24,a25,a26,a27,a28,a29,a30,a31,a32,a33,a34,a35⟩,h1,h⟩:=sm h
 ·cases h
  exact path (zP (zq zw (l:=a13)) (zbq (lk (sub [1,1,1,1,1,0,1,0] (zt Tryd.f50)) (by kernel_rfl) (zcb.okL ht n n _ _ _ _ _ _ _ _ _ _ _ _ _ _ _ _ _ _ _ h1)) ob)) (by kernel_rfl)
 ·obtain⟨a36,rfl⟩:∃z_,z_=r:=⟨_,rfl⟩
  have h2:=h
  exact path (zP (zq zw (l:=a13)) (zbq (lk (sub [1,1,1,1,1,0,1,0] (zt Tryd.f50)) (by kernel_rfl) (zcb.okL ht n n _ _ _ _ _ _ _ _ _ _ _ _ _ _ _ _ _ _ _ h1)) (zaw (zdC.ok ht n _ _ _ _ _ _ _ _ _ _ _ _ _ _ _ _ h2) ob))) (by kernel_rfl)
theorem zdk.ok {n:Nat} {t:Tab} (ht:TabOk t (run Tryd.prog own kp X n)):∀(p1:GStep) (p2:Int) r,zdk t n p1 p2=some r→run Tryd.prog own kp X (n+1) 50 [(.t (GStep.t p1)),(I6 p2)] []=some ((Bo r),[]):=by
 intro p1 p2 r h
 obtain⟨a1,a2,a3,⟨a4,a5,a6,a7,a8⟩,⟨a9,a10,a11⟩,a12,a13,a14⟩:=p1
 obtain⟨a15,rfl⟩:∃z_,z_=p2:=⟨_,rfl⟩
 rw[zdk]at h
 obtain⟨a16,h1,h⟩:=sm h
 rcases fk h with ⟨h2,h⟩ | ⟨h2,h⟩
 ·cases h
  exact zk Tryd.func50 (zZ (ht.zc1 _ _ h1) (zi h2 ob)) (by kernel_rfl)
 ·obtain⟨⟨⟨⟨a17,a18⟩,⟨a19,a20⟩,⟨a21,a22⟩,⟨a23,a24⟩,a25,a26⟩,⟨⟨a27,a28⟩,⟨a29,a30⟩,⟨a31,a32⟩,⟨a33,a34⟩,a35,a36⟩,⟨⟨a37,a38⟩,⟨a39,a40⟩,⟨a41,a42⟩,⟨a43,a44⟩,a45,a46⟩,⟨⟨a47,a48⟩,⟨a49,a50⟩,⟨a51,a52⟩,⟨a53,a54⟩,a55,a56⟩,⟨⟨a57,a58⟩,⟨a59,a60⟩,⟨a61,a62⟩,⟨a63,a64⟩,a65,a66⟩,⟨⟨a67,a68⟩,⟨a69,a70⟩,⟨a71,a72⟩,⟨a73,a74⟩,a75,a76⟩,⟨⟨a77,a78⟩,⟨a79,a80⟩,⟨a81,a82⟩,⟨a83,a84⟩,a85,a86⟩,⟨⟨a87,a88⟩,⟨a89,a90⟩,⟨a91,a92⟩,⟨a93,a94⟩,a95,a96⟩,⟨⟨a97,a98⟩,⟨a99,a100⟩,⟨a101,a102⟩,⟨a103,a104⟩,a105,a106⟩,⟨⟨a107,a108⟩,⟨a109,a110⟩,⟨a111,a112⟩,⟨a113,a114⟩,a115,a116⟩,⟨⟨a117,a118⟩,⟨a119,a120⟩,⟨a121,a122⟩,⟨a123,a124⟩,a125,a126⟩,⟨⟨a127,a128⟩,⟨a129,a130⟩,⟨a131,a132⟩,⟨a133,a134⟩,a135,a136⟩,⟨⟨a137,a138⟩,⟨a139,a140⟩,⟨a141,a142⟩,⟨a143,a144⟩,a145,a146⟩,⟨⟨a147,a148⟩,⟨a149,a150⟩,⟨a151,a152⟩,⟨a153,a154⟩,a155,a156⟩,⟨⟨a157,a158⟩,⟨a159,a160⟩,⟨a161,a162⟩,⟨a163,a164⟩,a165,a166⟩,⟨⟨a167,a168⟩,⟨a169,a170⟩,⟨a171,a172⟩,⟨a173,a174⟩,a175,a176⟩,⟨⟨a177,a178⟩,⟨a179,a180⟩,⟨a181,a182⟩,⟨a183,a184⟩,a185,a186⟩,⟨⟨a187,a188⟩,⟨a189,a190⟩,⟨a191,a192⟩,⟨a193,a194⟩,a195,a196⟩,⟨⟨a197,a198⟩,⟨a199,a200⟩,⟨a201,a202⟩,⟨a203,a204⟩,a205,a206⟩,⟨⟨a207,a208⟩,⟨a209,a210⟩,⟨a211,a212⟩,⟨a213,a214⟩,a215,a216⟩,⟨⟨a217,a218⟩,⟨a219,a220⟩,⟨a221,a222⟩,⟨a223,a224⟩,a225,a226⟩,⟨⟨a227,a228⟩,⟨a229,a230⟩,⟨a231,a232⟩,⟨a233,a234⟩,a235,a236⟩,⟨⟨a237,a238⟩,⟨a239,a240⟩,⟨a241,a242⟩,⟨a243,a244⟩,a245,a246⟩,⟨⟨a247,a248⟩,⟨a249,a250⟩,⟨a251,a252⟩,⟨a253,a254⟩,a255,a256⟩,⟨⟨a257,a258⟩,⟨a259,a260⟩,⟨a261,a262⟩,⟨a263,a264⟩,a265,a266⟩,⟨⟨a267,a268⟩,⟨a269,a270⟩,⟨a271,a272⟩,⟨a273,a274⟩,a275,a276⟩,⟨⟨a277,a278⟩,⟨a279,a280⟩,⟨a281,a282⟩,⟨a283,a284⟩,a285,a286⟩,⟨⟨a287,a288⟩,⟨a289,a290⟩,⟨a291,a292⟩,⟨a293,a294⟩,a295,a296⟩,⟨⟨a297,a298⟩,⟨a299,a300⟩,⟨a301,a302⟩,⟨a303,a304⟩,a305,a306⟩,⟨⟨a307,a308⟩,⟨a309,a310⟩,⟨a311,a312⟩,⟨a313,a314⟩,a315,a316⟩,⟨⟨a317,a318⟩,⟨a319,a320⟩,⟨a321,a322⟩,⟨a323,a324⟩,a325,a326⟩,⟨⟨a327,a328⟩,⟨a329,a330⟩,⟨a331,a332⟩,⟨a333,a334⟩,a335,a336⟩,⟨⟨a337,a338⟩,⟨a339,a340⟩,⟨a341,a342⟩,⟨a343,a344⟩,a345,a346⟩,⟨⟨a347,a348⟩,⟨a349,a350⟩,⟨a351,a352⟩,⟨a353,a354⟩,a355,a356⟩,⟨⟨a357,a358⟩,⟨a359,a360⟩,⟨a361,a362⟩,⟨a363,a364⟩,a365,a366⟩,⟨⟨a367,a368⟩,⟨a369,a370⟩,⟨a371,a372⟩,⟨a373,a374⟩,a375,a376⟩,⟨⟨a377,a378⟩,⟨a379,a380⟩,⟨a381,a382⟩,⟨a383,a384⟩,a385,a386⟩,⟨⟨a387,a388⟩,⟨a389,a390⟩,⟨a391,a392⟩,⟨a393,a394⟩,a395,a396⟩,⟨⟨a397,a398⟩,⟨a399,a400⟩,⟨a401,a402⟩,⟨a403,a404⟩,a405,a406⟩,⟨⟨a407,a408⟩,⟨a409,a410⟩,⟨a411,a412⟩,⟨a413,a414⟩,a415,a416⟩,⟨⟨a417,a418⟩,⟨a419,a420⟩,⟨a421,a422⟩,⟨a423,a424⟩,a425,a426⟩,⟨⟨a427,a428⟩,⟨a429,a430⟩,⟨a431,a432⟩,⟨a433,a434⟩,a435,a436⟩,⟨⟨a437,a438⟩,⟨a439,a440⟩,⟨a441,a442⟩,⟨a443,a444⟩,a445,a446⟩,⟨⟨a447,a448⟩,⟨a449,a450⟩,⟨a451,a452⟩,⟨a453,a454⟩,a455,a456⟩,⟨⟨a457,a458⟩,⟨a459,a460⟩,⟨a461,a462⟩,⟨a463,a464⟩,a465,a466⟩,⟨⟨a467,a468⟩,⟨a469,a470⟩,⟨a471,a472⟩,⟨a473,a474⟩,a475,a476⟩,⟨⟨a477,a478⟩,⟨a479,a480⟩,⟨a481,a482⟩,⟨a483,a484⟩,a485,a486⟩,⟨⟨a487,a488⟩,⟨a489,a490⟩,⟨a491,a492⟩,⟨a493,a494⟩,a495,a496⟩,⟨⟨a497,a498⟩,⟨a499,a500⟩,⟨a501,a502⟩,⟨a503,a504⟩,a505,a506⟩,⟨⟨a507,a508⟩,⟨a509,a510⟩,⟨a511,a512⟩,⟨a513,a514⟩,a515,a516⟩,⟨⟨a517,a518⟩,⟨a519,a520⟩,⟨a521,a522⟩,⟨a523,a524⟩,a525,a526⟩,⟨⟨a527,a528⟩,⟨a529,a530⟩,⟨a531,a532⟩,⟨a533,a534⟩,a535,a536⟩⟩,h3,h⟩:=sm h
  obtain⟨h4,h⟩:=ck h
  rcases h5:([(zm.mk (GT105.mk a17 a18) (GT105.mk a19 a20) (GT105.mk a21 a22) (GT105.mk a23 a24) a25 a26),(zm.mk (GT105.mk a27 a28) (GT105.mk a29 a30) (GT105.mk a31 a32) (GT105.mk a33 a34) a35 a36),(zm.mk (GT105.mk a37 a38) (GT105.mk a39 a40) (GT105.mk a41 a42) (GT105.mk a43 a44) a45 a46),(zm.mk (GT105.mk a47 a48) (GT105.mk a49 a50) (GT105.mk a51 a52) (GT105.mk a53 a54) a55 a56),(zm.mk (GT105.mk a57 a58) (GT105.mk a59 a60) (GT105.mk a61 a62) (GT105.mk a63 a64) a65 a66),(zm.mk (GT105.mk a67 a68) (GT105.mk a69 a70) (GT105.mk a71 a72) (GT105.mk a73 a74) a75 a76),(zm.mk (GT105.mk a77 a78) (GT105.mk a79 a80) (GT105.mk a81 a82) (GT105.mk a83 a84) a85 a86),(zm.mk (GT105.mk a87 a88) (GT105.mk a89 a90) (GT105.mk a91 a92) (GT105.mk a93 a94) a95 a96),(zm.mk (GT105.mk a97 a98) (GT105.mk a99 a100) (GT105.mk a101 a102) (GT105.mk a103 a104) a105 a106),(zm.mk (GT105.mk a107 a108) (GT105.mk a109 a110) (GT105.mk a111 a112) (GT105.mk a113 a114) a115 a116),(zm.mk (GT105.mk a117 a118) (GT105.mk a119 a120) (GT105.mk a121 a122) (GT105.mk a123 a124) a125 a126),(zm.mk (GT105.mk a127 a128) (GT105.mk a129 a130) (GT105.mk a131 a132) (GT105.mk a133 a134) a135 a136),(zm.mk (GT105.mk a137 a138) (GT105.mk a139 a140) (GT105.mk a141 a142) (GT105.mk a143 a144) a145 a146),(zm.mk (GT105.mk a147 a148) (GT105.mk a149 a150) (GT105.mk a151 a152) (GT105.mk a153 a154) a155 a156),(zm.mk (GT105.mk a157 a158) (GT105.mk a159 a160) (GT105.mk a161 a162) (GT105.mk a163 a164) a165 a166),(zm.mk (GT105.mk a167 a168) (GT105.mk a169 a170) (GT105.mk a171 a172) (GT105.mk a173 a174) a175 a176),(zm.mk (GT105.mk a177 a178) (GT105.mk a179 a180) (GT105.mk a181 a182) (GT105.mk a183 a184) a185 a186),(zm.mk (GT105.mk a187 a188) (GT105.mk a189 a190) (GT105.mk a191 a192) (GT105.mk a193 a194) a195 a196),(zm.mk (GT105.mk a197 a198) (GT105.mk a199 a200) (GT105.mk a201 a202) (GT105.mk a203 a204) a205 a206),(zm.mk (GT105.mk a207 a208) (GT105.mk a209 a210) (GT105.mk a211 a212) (GT105.mk a213 a214) a215 a216),(zm.mk (GT105.mk a217 a218) (GT105.mk a219 a220) (GT105.mk a221 a222) (GT105.mk a223 a224) a225 a226),(zm.mk (GT105.mk a227 a228) (GT105.mk a229 a230) (GT105.mk a231 a232) (GT105.mk a233 a234) a235 a236),(zm.mk (GT105.mk a237 a238) (GT105.mk a239 a240) (GT105.mk a241 a242) (GT105.mk a243 a244) a245 a246),(zm.mk (GT105.mk a247 a248) (GT105.mk a249 a250) (GT105.mk a251 a252) (GT105.mk a253 a254) a255 a256),(zm.mk (GT105.mk a257 a258) (GT105.mk a259 a260) (GT105.mk a261 a262) (GT105.mk a263 a264) a265 a266),(zm.mk (GT105.mk a267 a268) (GT105.mk a269 a270) (GT105.mk a271 a272) (GT105.mk a273 a274) a275 a276),(zm.mk (GT105.mk a277 a278) (GT105.mk a279 a280) (GT105.mk a281 a282) (GT105.mk a283 a284) a285 a286),(zm.mk (GT105.mk a287 a288) (GT105.mk a289 a290) (GT105.mk a291 a292) (GT105.mk a293 a294) a295 a296),(zm.mk (GT105.mk a297 a298) (GT105.mk a299 a300) (GT105.mk a301 a302) (GT105.mk a303 a304) a305 a306),(zm.mk (GT105.mk a307 a308) (GT105.mk a309 a310) (GT105.mk a311 a312) (GT105.mk a313 a314) a315 a316),(zm.mk (GT105.mk a317 a318) (GT105.mk a319 a320) (GT105.mk a321 a322) (GT105.mk a323 a324) a325 a326),(zm.mk (GT105.mk a327 a328) (GT105.mk a329 a330) (GT105.mk a331 a332) (GT105.mk a333 a334) a335 a336),(zm.mk (GT105.mk a337 a338) (GT105.mk a339 a340) (GT105.mk a341 a342) (GT105.mk a343 a344) a345 a346),(zm.mk (GT105.mk a347 a348) (GT105.mk a349 a350) (GT105.mk a351 a352) (GT105.mk a353 a354) a355 a356),(zm.mk (GT105.mk a357 a358) (GT105.mk a359 a360) (GT105.mk a361 a362) (GT105.mk a363 a364) a365 a366),(zm.mk (GT105.mk a367 a368) (GT105.mk a369 a370) (GT105.mk a371 a372) (GT105.mk a373 a374) a375 a376),(zm.mk (GT105.mk a377 a378) (GT105.mk a379 a380) (GT105.mk a381 a382) (GT105.mk a383 a384) a385 a386),(zm.mk (GT105.mk a387 a388) (GT105.mk a389 a390) (GT105.mk a391 a392) (GT105.mk a393 a394) a395 a396),(zm.mk (GT105.mk a397 a398) (GT105.mk a399 a400) (GT105.mk a401 a402) (GT105.mk a403 a404) a405 a406),(zm.mk (GT105.mk a407 a408) (GT105.mk a409 a410) (GT105.mk a411 a412) (GT105.mk a413 a414) a415 a416),(zm.mk (GT105.mk a417 a418) (GT105.mk a419 a420) (GT105.mk a421 a422) (GT105.mk a423 a424) a425 a426),(zm.mk (GT105.mk a427 a428) (GT105.mk a429 a430) (GT105.mk a431 a432) (GT105.mk a433 a434) a435 a436),(zm.mk (GT105.mk a437 a438) (GT105.mk a439 a440) (GT105.mk a441 a442) (GT105.mk a443 a444) a445 a446),(zm.mk (GT105.mk a447 a448) (GT105.mk a449 a450) (GT105.mk a451 a452) (GT105.mk a453 a454) a455 a456),(zm.mk (GT105.mk a457 a458) (GT105.mk a459 a460) (GT105.mk a461 a462) (GT105.mk a463 a464) a465 a466),(zm.mk (GT105.mk a467 a468) (GT105.mk a469 a470) (GT105.mk a471 a472) (GT105.mk a473 a474) a475 a476),(zm.mk (GT105.mk a477 a478) (GT105.mk a479 a480) (GT105.mk a481 a482) (GT105.mk a483 a484) a485 a486),(zm.mk (GT105.mk a487 a488) (GT105.mk a489 a490) (GT105.mk a491 a492) (GT105.mk a493 a494) a495 a496),(zm.mk (GT105.mk a497 a498) (GT105.mk a499 a500) (GT105.mk a501 a502) (GT105.mk a503 a504) a505 a506),(zm.mk (GT105.mk a507 a508) (GT105.mk a509 a510) (GT105.mk a511 a512) (GT105.mk a513 a514) a515 a516),(zm.mk (GT105.mk a517 a518) (GT105.mk a519 a520) (GT105.mk a521 a522) (GT105.mk a523 a524) a525 a526),(zm.mk (GT105.mk a527 a528) (GT105.mk a529 a530) (GT105.mk a531 a532) (GT105.mk a533 a534) a535 a536)]:List zm)[(a1:Int).toNat]? with _ | ⟨⟨a537,a538⟩,⟨a539,a540⟩,⟨a541,a542⟩,⟨a543,a544⟩,a545,a546⟩
  ·rw[h5]at h;cases h
  rw[h5]at h
  dsimp only at h
  obtain⟨a547,h6,h⟩:=sm h
  have o7 {os} (x:Obls (env Tryd.prog 50 Tryd.f50 (run Tryd.prog own kp X n)) n os):=zZ (ht.zc1 _ _ h1) (zi h2 (zZ (ht.zb5 _ h3) (zav h4 (zad (zu zm.zl h5) (zP (zq zX (l:=a2)) (zZ (ht.zc9 _ _ _ h6) x))))))
  rcases fk h with ⟨h7,h⟩ | ⟨h7,h⟩
  ·obtain⟨a548,h8,h⟩:=sm h
   have o17 {os} (x:Obls (env Tryd.prog 50 Tryd.f50 (run Tryd.prog own kp X n)) n os):=o7 (zV (ng h7) (zP (zq zy (l:=a3)) (zV (ng h7) (zZ (ht.zc9 _ _ _ h8) (zaT (ng h7) x)))))
   rcases fk h with ⟨h9,h⟩ | ⟨h9,h⟩
   ·obtain⟨a549,h10,h⟩:=sm h
    have o27 {os} (x:Obls (env Tryd.prog 50 Tryd.f50 (run Tryd.prog own kp X n)) n os):=o17 (zV (ng h9) (zP (zq zw (l:=a12)) (zV (ng h9) (zZ (ht.zc9 _ _ _ h10) (zaT (ng h9) x)))))
    rcases fk h with ⟨h11,h⟩ | ⟨h11,h⟩
    ·obtain⟨a550,h12,h⟩:=sm h
     have o37 {os} (x:Obls (env Tryd.prog 50 Tryd.f50 (run Tryd.prog own kp X n)) n os):=o27 (zV (ng h11) (zP (zq GBy.zl (l:=a13)) (zV (ng h11) (zZ (ht.zc9 _ _ _ h12) (zaT (ng h11) x)))))
     rcases fk h with ⟨h13,h⟩ | ⟨h13,h⟩
     ·obtain⟨a551 | ⟨a552,a553,a554,a555,a556,a557,a558,a559,a560,a561,a562,a563,a564,a565,a566⟩,h14,h⟩:=sm h
      ·cases h
       exact zk Tryd.func50 (o37 (zV (ng h13) (zP (zq zX (l:=a14)) (zaT (ng h13) (zaw (zaC.ok ht n _ _ _ _ _ _ _ _ _ _ _ _ _ _ _ _ _ _ _ _ _ _ _ _ _ _ _ h14) ob))))) (by kernel_rfl)
      ·obtain⟨a567,rfl⟩:∃z_,z_=r:=⟨_,rfl⟩
       have h15:=h
       exact zk Tryd.func50 (o37 (zV (ng h13) (zP (zq zX (l:=a14)) (zaT (ng h13) (zaw (zaC.ok ht n _ _ _ _ _ _ _ _ _ _ _ _ _ _ _ _ _ _ _ _ _ _ _ _ _ _ _ h14) (zaw (zbz.ok ht n _ _ _ _ _ _ _ _ _ _ _ _ _ _ _ _ h15) ob)))))) (by kernel_rfl)
     ·obtain⟨a568 | ⟨a569,a570,a571,a572,a573,a574,a575,a576,a577,a578,a579,a580,a581,a582,a583⟩,h16,h⟩:=sm h
      ·cases h
       exact zk Tryd.func50 (o37 (zaG (ng h13) 5 (zaw (zaC.ok ht n _ _ _ _ _ _ _ _ _ _ _ _ _ _ _ _ _ _ _ _ _ _ _ _ _ _ _ h16) ob))) (by kernel_rfl)
      ·obtain⟨a584,rfl⟩:∃z_,z_=r:=⟨_,rfl⟩
       have h17:=h
       exact zk Tryd.func50 (o37 (zaG (ng h13) 5 (zaw (zaC.ok ht n _ _ _ _ _ _ _ _ _ _ _ _ _ _ _ _ _ _ _ _ _ _ _ _ _ _ _ h16) (zaw (zbz.ok ht n _ _ _ _ _ _ _ _ _ _ _ _ _ _ _ _ h17) ob)))) (by kernel_rfl)
    ·have o40 {os} (x:Obls (env Tryd.prog 50 Tryd.f50 (run Tryd.prog own kp X n)) n os):=o27 (zaG (ng h11) 8 (zds 5 x))
     obtain⟨a585 | ⟨a586,a587,a588,a589,a590,a591,a592,a593,a594,a595,a596,a597,a598,a599,a600⟩,h18,h⟩:=sm h
     ·cases h
      exact zk Tryd.func50 (o40 (zaw (zaC.ok ht n _ _ _ _ _ _ _ _ _ _ _ _ _ _ _ _ _ _ _ _ _ _ _ _ _ _ _ h18) ob)) (by kernel_rfl)
     ·obtain⟨a601,rfl⟩:∃z_,z_=r:=⟨_,rfl⟩
      have h19:=h
      exact zk Tryd.func50 (o40 (zaw (zaC.ok ht n _ _ _ _ _ _ _ _ _ _ _ _ _ _ _ _ _ _ _ _ _ _ _ _ _ _ _ h18) (zaw (zbz.ok ht n _ _ _ _ _ _ _ _ _ _ _ _ _ _ _ _ h19) ob))) (by kernel_rfl)
   ·have o38 {os} (x:Obls (env Tryd.prog 50 Tryd.f50 (run Tryd.prog own kp X n)) n os):=o17 (zaG (ng h9) 8 (zds 13 x))
    obtain⟨a602 | ⟨a603,a604,a605,a606,a607,a608,a609,a610,a611,a612,a613,a614,a615,a616,a617⟩,h20,h⟩:=sm h
    ·cases h
     exact zk Tryd.func50 (o38 (zaw (zaC.ok ht n _ _ _ _ _ _ _ _ _ _ _ _ _ _ _ _ _ _ _ _ _ _ _ _ _ _ _ h20) ob)) (by kernel_rfl)
    ·obtain⟨a618,rfl⟩:∃z_,z_=r:=⟨_,rfl⟩
     have h21:=h
     exact zk Tryd.func50 (o38 (zaw (zaC.ok ht n _ _ _ _ _ _ _ _ _ _ _ _ _ _ _ _ _ _ _ _ _ _ _ _ _ _ _ h20) (zaw (zbz.ok ht n _ _ _ _ _ _ _ _ _ _ _ _ _ _ _ _ h21) ob))) (by kernel_rfl)
  ·have o36 {os} (x:Obls (env Tryd.prog 50 Tryd.f50 (run Tryd.prog own kp X n)) n os):=o7 (zaG (ng h7) 8 (zds 21 x))
   obtain⟨a619 | ⟨a620,a621,a622,a623,a624,a625,a626,a627,a628,a629,a630,a631,a632,a633,a634⟩,h22,h⟩:=sm h
   ·cases h
    exact zk Tryd.func50 (o36 (zaw (zaC.ok ht n _ _ _ _ _ _ _ _ _ _ _ _ _ _ _ _ _ _ _ _ _ _ _ _ _ _ _ h22) ob)) (by kernel_rfl)
   ·obtain⟨a635,rfl⟩:∃z_,z_=r:=⟨_,rfl⟩
    have h23:=h
    exact zk Tryd.func50 (o36 (zaw (zaC.ok ht n _ _ _ _ _ _ _ _ _ _ _ _ _ _ _ _ _ _ _ _ _ _ _ _ _ _ _ h22) (zaw (zbz.ok ht n _ _ _ _ _ _ _ _ _ _ _ _ _ _ _ _ h23) ob))) (by kernel_rfl)
theorem zdc.ok {n:Nat} {t:Tab} (ht:TabOk t (run Tryd.prog own kp X n)):∀(p1:zh) (p2:zh) r,zdc t n p1 p2=some r→run Tryd.prog own kp X (n+1) 56 [(.t (zh.t p1)),(.t (zh.t p2))] []=some ((I6 r),[]):=by
 intro p1 p2 r h
 obtain⟨a1,a2,a3,a4,a5⟩:=p1
 obtain⟨a6,a7,a8,a9,a10⟩:=p2
 rw[zdc]at h
 obtain⟨a11,rfl⟩:∃z_,z_=r:=⟨_,rfl⟩
 have h1:=h
 exact zk Tryd.func56 (zZ (ht.zbb _ _ _ _ h1) ob) (by kernel_rfl)
theorem zar.okL (ht:TabOk t call) (n:Nat):∀(k:Nat) (a1 a2:List zh) (a3 a4:Int) (r:_),zar t n k a1 a2 a3 a4=some r→loopN (exec (env Tryd.prog 57 Tryd.f57 call) n (sub [1,1,0,1,0,0] (zt Tryd.f57))) k (mkSt 32 32 [(1,(Sl 5 (zh.ts a1))),(2,(.fn 42 [])),(15,(Sl 5 (zh.ts a2))),(16,(I6 a3)),(17,(I6 a4))] [])=some (zar.to r)
 | 0,a1,a2,a3,a4,r,h=>by rw[zar]at h;cases h
 | k+1,a1,a2,a3,a4,r,h=>by
  rw[zar]at h
  rcases fk h with ⟨h1,h⟩ | ⟨h1,h⟩
  ·obtain⟨h2,h⟩:=ck h
   obtain⟨⟨a5,a6,a7,a8,a9⟩,h3,h⟩:=sm h
   obtain⟨⟨a10,a11,a12,a13,a14⟩,h4,h⟩:=sm h
   obtain⟨a15,h5,h⟩:=sm h
   rcases fk h with ⟨h6,h⟩ | ⟨h6,h⟩
   ·exact zT (path (zi h1 (zav h2 (zad (zu zh.zl h3) (zav h2 (zad (zu zh.zl h4) (zZ (ht.zbk _ _ _ h5) (zi (ng h6) ob))))))) (by kernel_rfl)) (zar.okL ht n k _ _ _ _ _ h)
   ·cases h
    exact zx (path (zi h1 (zav h2 (zad (zu zh.zl h3) (zav h2 (zad (zu zh.zl h4) (zZ (ht.zbk _ _ _ h5) (zi (ng h6) ob))))))) (by kernel_rfl)) (fun h=>by cases h)
  ·cases h
   exact zx (path (zi h1 ob) (by kernel_rfl)) (fun h=>by cases h)
theorem zax.ok {n:Nat} {t:Tab} (ht:TabOk t (run Tryd.prog own kp X n)):∀(p1:List zh) (p2:List zh) r,zax t n p1 p2=some r→run Tryd.prog own kp X (n+1) 57 [(Sl 5 (zh.ts p1)),(Sl 5 (zh.ts p2)),(.fn 42 [])] []=some ((Bo r),[]):=by
 intro p1 p2 r h
 obtain⟨a1,rfl⟩:∃z_,z_=p1:=⟨_,rfl⟩
 obtain⟨a2,rfl⟩:∃z_,z_=p2:=⟨_,rfl⟩
 rw[zax]at h
 have o2 {os} (x:Obls (env Tryd.prog 57 Tryd.f57 (run Tryd.prog own kp X n)) n os):=zP (zq zh.zl (l:=a1)) (zP (zq zh.zl (l:=a2)) x)
 rcases fk h with ⟨h1,h⟩ | ⟨h1,h⟩
 ·cases h
  exact zk Tryd.func57 (o2 (zi h1 ob)) (by kernel_rfl)
 ·obtain⟨a3 | ⟨a4,a5,a6,a7,a8⟩,h2,h⟩:=sm h
  ·cases h
   exact zk Tryd.func57 (o2 (zi h1 (zP (zq zh.zl (l:=a1)) (zbq (lk (sub [1,1,0,1,0] (zt Tryd.f57)) (by kernel_rfl) (zar.okL ht n n _ _ _ _ _ h2)) ob)))) (by kernel_rfl)
  ·cases h
   exact zk Tryd.func57 (o2 (zi h1 (zP (zq zh.zl (l:=a1)) (zbq (lk (sub [1,1,0,1,0] (zt Tryd.f57)) (by kernel_rfl) (zar.okL ht n n _ _ _ _ _ h2)) ob)))) (by kernel_rfl)
theorem zY.okL (ht:TabOk t call) (n:Nat):∀(k:Nat) (a1 a2:List GPred) (a3 a4:Int) (r:_),zY t n k a1 a2 a3 a4=some r→loopN (exec (env Tryd.prog 58 Tryd.f58 call) n (sub [1,1,0,1,0,0] (zt Tryd.f58))) k (mkSt 32 32 [(1,(Sl 3 (GPred.ts a1))),(2,(.fn 43 [])),(15,(Sl 3 (GPred.ts a2))),(16,(I6 a3)),(17,(I6 a4))] [])=some (zY.to r)
 | 0,a1,a2,a3,a4,r,h=>by rw[zY]at h;cases h
 | k+1,a1,a2,a3,a4,r,h=>by
  rw[zY]at h
  rcases fk h with ⟨h1,h⟩ | ⟨h1,h⟩
  ·obtain⟨h2,h⟩:=ck h
   obtain⟨⟨a5,a6,a7⟩,h3,h⟩:=sm h
   obtain⟨⟨a8,a9,a10⟩,h4,h⟩:=sm h
   obtain⟨a11,h5,h⟩:=sm h
   rcases fk h with ⟨h6,h⟩ | ⟨h6,h⟩
   ·exact zT (path (zi h1 (zav h2 (zad (zu GPred.zl h3) (zav h2 (zad (zu GPred.zl h4) (zZ (ht.zbW _ _ _ h5) (zi (ng h6) ob))))))) (by kernel_rfl)) (zY.okL ht n k _ _ _ _ _ h)
   ·cases h
    exact zx (path (zi h1 (zav h2 (zad (zu GPred.zl h3) (zav h2 (zad (zu GPred.zl h4) (zZ (ht.zbW _ _ _ h5) (zi (ng h6) ob))))))) (by kernel_rfl)) (fun h=>by cases h)
  ·cases h
   exact zx (path (zi h1 ob) (by kernel_rfl)) (fun h=>by cases h)
theorem zat.ok {n:Nat} {t:Tab} (ht:TabOk t (run Tryd.prog own kp X n)):∀(p1:List GPred) (p2:List GPred) r,zat t n p1 p2=some r→run Tryd.prog own kp X (n+1) 58 [(Sl 3 (GPred.ts p1)),(Sl 3 (GPred.ts p2)),(.fn 43 [])] []=some ((Bo r),[]):=by
 intro p1 p2 r h
 obtain⟨a1,rfl⟩:∃z_,z_=p1:=⟨_,rfl⟩
 obtain⟨a2,rfl⟩:∃z_,z_=p2:=⟨_,rfl⟩
 rw[zat]at h
 rcases fk h with ⟨h1,h⟩ | ⟨h1,h⟩
 ·cases h
  exact zk Tryd.func58 (zP (zq GPred.zl (l:=a1)) (zP (zq GPred.zl (l:=a2)) (zi h1 ob))) (by kernel_rfl)
 ·obtain⟨a3 | ⟨a4,a5,a6,a7,a8⟩,h2,h⟩:=sm h
  ·cases h
   exact zk Tryd.func58 (zP (zq GPred.zl (l:=a1)) (zP (zq GPred.zl (l:=a2)) (zi h1 (zP (zq GPred.zl (l:=a1)) (zbq (lk (sub [1,1,0,1,0] (zt Tryd.f58)) (by kernel_rfl) (zY.okL ht n n _ _ _ _ _ h2)) ob))))) (by kernel_rfl)
  ·cases h
   exact zk Tryd.func58 (zP (zq GPred.zl (l:=a1)) (zP (zq GPred.zl (l:=a2)) (zi h1 (zP (zq GPred.zl (l:=a1)) (zbq (lk (sub [1,1,0,1,0] (zt Tryd.f58)) (by kernel_rfl) (zY.okL ht n n _ _ _ _ _ h2)) ob))))) (by kernel_rfl)
theorem zc1.ok {n:Nat} {t:Tab} (ht:TabOk t (run Tryd.prog own kp X n)):∀(p1:Int) r,zc1 t n p1=some r→run Tryd.prog own kp X (n+1) 64 [(I6 p1)] []=some ((Sr r),[]):=by
 intro p1 r h
 obtain⟨a1,rfl⟩:∃z_,z_=p1:=⟨_,rfl⟩
 rw[zc1]at h
 rcases fk h with ⟨h1,h⟩ | ⟨h1,h⟩
 ·cases h
  exact zk Tryd.func64 (zV h1 (zds 1 ob)) (by kernel_rfl)
 ·rcases fk h with ⟨h2,h⟩ | ⟨h2,h⟩
  ·cases h
   exact zk Tryd.func64 (zV h1 (zi h2 ob)) (by kernel_rfl)
  ·obtain⟨h3,h⟩:=ck h
   rcases h4:gl0[(a1:Int).toNat]? with _ | a2
   ·rw[h4]at h;cases h
   rw[h4]at h
   dsimp only at h
   cases h
   exact zk Tryd.func64 (zV h1 (zi h2 (zav h3 (zad (zu zX h4) ob)))) (by kernel_rfl)
theorem zb5.ok {n:Nat} {t:Tab} (ht:TabOk t (run Tryd.prog own kp X n)):∀r,zb5 t n=some r→run Tryd.prog own kp X (n+1) 65 [] []=some ((.t (GT108.t r)),[]):=by
 intro r h
 rw[zb5]at h
 cases h
 exact zk Tryd.func65 ob (by kernel_rfl)
theorem zc9.ok {n:Nat} {t:Tab} (ht:TabOk t (run Tryd.prog own kp X n)):∀(p1:Int) (p2:GT105) r,zc9 t n p1 p2=some r→run Tryd.prog own kp X (n+1) 68 [(I6 p1),(.t (GT105.t p2))] []=some ((Bo r),[]):=by
 intro p1 p2 r h
 obtain⟨a1,rfl⟩:∃z_,z_=p1:=⟨_,rfl⟩
 obtain⟨a2,a3⟩:=p2
 rw[zc9]at h
 rcases fk h with ⟨h1,h⟩ | ⟨h1,h⟩
 ·cases h
  exact zk Tryd.func68 (zaG h1 5 ob) (by kernel_rfl)
 ·cases h
  exact zk Tryd.func68 (zaG h1 5 ob) (by kernel_rfl)
theorem zz.ok {n:Nat} {t:Tab} (ht:TabOk t (run Tryd.prog own kp X n)):∀(p1:List ByteArray) r,zz t n p1=some r→run Tryd.prog own kp X (n+1) 69 [(Sl 1 (texts p1)),(.fn 66 [])] []=some ((Bo r),[]):=by
 intro p1 r h
 obtain⟨a1,rfl⟩:∃z_,z_=p1:=⟨_,rfl⟩
 rw[zz]at h
 obtain⟨a2,h1,h⟩:=sm h
 cases h
 exact zk Tryd.func69 (zZ (ht.zah _ _ h1) ob) (by kernel_rfl)
theorem zbA.ok {n:Nat} {t:Tab} (ht:TabOk t (run Tryd.prog own kp X n)):∀(p1:zh) r,zbA t n p1=some r→run Tryd.prog own kp X (n+1) 71 [(.t (zh.t p1))] []=some ((I6 r),[]):=by
 intro p1 r h
 obtain⟨a1,a2,a3,a4,a5⟩:=p1
 rw[zbA]at h
 obtain⟨a6,h1,h⟩:=sm h
 rcases fk h with ⟨h2,h⟩ | ⟨h2,h⟩
 ·cases h
  exact zk Tryd.func71 (zZ (ht.zbc _ _ _ h1) (zi (ng h2) ob)) (by kernel_rfl)
 ·cases h
  exact zk Tryd.func71 (zZ (ht.zbc _ _ _ h1) (zi (ng h2) ob)) (by kernel_rfl)
theorem zcp.ok {n:Nat} {t:Tab} (ht:TabOk t (run Tryd.prog own kp X n)):∀(p1:GPred) r,zcp t n p1=some r→run Tryd.prog own kp X (n+1) 72 [(.t (GPred.t p1))] []=some ((I6 r),[]):=by
 intro p1 r h
 obtain⟨a1,a2,a3⟩:=p1
 rw[zcp]at h
 obtain⟨a4,h1,h⟩:=sm h
 rcases fk h with ⟨h2,h⟩ | ⟨h2,h⟩
 ·cases h
  exact zk Tryd.func72 (zZ (ht.zbY _ _ _ h1) (zi (ng h2) ob)) (by kernel_rfl)
 ·cases h
  exact zk Tryd.func72 (zZ (ht.zbY _ _ _ h1) (zi (ng h2) ob)) (by kernel_rfl)
theorem zbG.okL (ht:TabOk t call) (n:Nat):∀(k:Nat) (a1 a2:List ByteArray) (a3 a4:Int) (r:_),zbG t n k a1 a2 a3 a4=some r→loopN (exec (env Tryd.prog 74 Tryd.f74 call) n (sub [1,0,1,0,0] (zt Tryd.f74))) k (mkSt 18 18 [(0,(Sl 1 (texts a1))),(5,(Sl 1 (texts a2))),(6,(I6 a3)),(7,(I6 a4))] [])=some (zbG.to r)
 | 0,a1,a2,a3,a4,r,h=>by rw[zbG]at h;cases h
 | k+1,a1,a2,a3,a4,r,h=>by
  rw[zbG]at h
  rcases fk h with ⟨h1,h⟩ | ⟨h1,h⟩
  ·obtain⟨h2,h⟩:=ck h
   obtain⟨a5,h3,h⟩:=sm h
   obtain⟨h4,h⟩:=ck h
   obtain⟨a6,h5,h⟩:=sm h
   have o6 {os} (x:Obls (env Tryd.prog 74 Tryd.f74 call) n os):=zi h1 (zav h2 (zad (zu zX h3) (zav (zjr zX h4) (zea (znq zX (l:=a1) (h:=(a4:Int).toNat) (i:=(0:Int).toNat)) (zZ (ht.slices_Contains_string _ _ _ h5) x)))))
   rcases fk h with ⟨h6,h⟩ | ⟨h6,h⟩
   ·cases h
    exact zx (path (o6 (zi h6 ob)) (by kernel_rfl)) (fun h=>by cases h)
   ·exact zT (path (o6 (zi h6 ob)) (by kernel_rfl)) (zbG.okL ht n k _ _ _ _ _ h)
  ·cases h
   exact zx (path (zi h1 ob) (by kernel_rfl)) (fun h=>by cases h)
theorem zbX.ok {n:Nat} {t:Tab} (ht:TabOk t (run Tryd.prog own kp X n)):∀(p1:List ByteArray) r,zbX t n p1=some r→run Tryd.prog own kp X (n+1) 74 [(Sl 1 (texts p1))] []=some ((Bo r),[]):=by
 intro p1 r h
 obtain⟨a1,rfl⟩:∃z_,z_=p1:=⟨_,rfl⟩
 rw[zbX]at h
 obtain⟨a2 | ⟨a3,a4,a5,a6,a7⟩,h1,h⟩:=sm h
 ·cases h
  exact zk Tryd.func74 (zP (zq zX (l:=a1)) (zbq (lk (sub [1,0,1,0] (zt Tryd.f74)) (by kernel_rfl) (zbG.okL ht n n _ _ _ _ _ h1)) ob)) (by kernel_rfl)
 ·cases h
  exact zk Tryd.func74 (zP (zq zX (l:=a1)) (zbq (lk (sub [1,0,1,0] (zt Tryd.f74)) (by kernel_rfl) (zbG.okL ht n n _ _ _ _ _ h1)) ob)) (by kernel_rfl)
theorem zcd.ok {n:Nat} {t:Tab} (ht:TabOk t (run Tryd.prog own kp X n)):∀(p1:GPred) r,zcd t n p1=some r→run Tryd.prog own kp X (n+1) 73 [(.t (GPred.t p1))] []=some ((Bo r),[]):=by
 intro p1 r h
 obtain⟨a1,a2,a3⟩:=p1
 rw[zcd]at h
 rcases fk h with ⟨h1,h⟩ | ⟨h1,h⟩
 ·cases h
  exact zk Tryd.func73 (zV h1 (zP (zq zh.zl (l:=a2)) (zV h1 (zP (zq GPred.zl (l:=a3)) (zV h1 ob))))) (by kernel_rfl)
 ·cases h
  exact zk Tryd.func73 (zaG h1 9 ob) (by kernel_rfl)
theorem zao.ok (ht:TabOk t call) (n:Nat) (a1:Bool) (a2:Int) (a3:List ByteArray) (a4:List Int) (a5 a6:Int) (a7:ByteArray) (a8 a9:List zh) (a10:Int) (a11:List zh) (a12:List GPred) (a13:List (List GStep)) (a14:List GBy) (a15:List ByteArray) (r:_) (h:zao t n a1 a2 a3 a4 a5 a6 a7 a8 a9 a10 a11 a12 a13 a14 a15=some r):exec (env Tryd.prog 70 Tryd.f70 call) n (sub [1,0,1,0,1,1,1,1,1] (zt Tryd.f70)) (mkSt 78 78 [(1,(.ptr 1 0 [] 0)),(64,(Bo a1))] [(1,(.t (.st [(.v (.int .i64 a2)),(.sl false 1 (texts a3)),(.sl false 1 (zB a4)),(.st [(.v (.int .i64 a5)),(.v (.int .i64 a6)),(.v (.string a7)),(.sl false 5 (zh.ts a8)),(.sl false 5 (zh.ts a9))]),(.st [(.v (.int .i64 a10)),(.sl false 5 (zh.ts a11)),(.sl false 3 (GPred.ts a12))]),(.sl false 1 (zo a13)),(.sl false 4 (GBy.ts a14)),(.sl false 1 (texts a15))])))])=some (zao.to r):=by
 rw[zao]at h
 rcases fk h with ⟨h1,h⟩ | ⟨h1,h⟩
 ·rcases fk h with ⟨h2,h⟩ | ⟨h2,h⟩
  ·cases h
   exact path (zi h1 (zaG h2 5 ob)) (by kernel_rfl)
  ·obtain⟨a16,h3,h⟩:=sm h
   cases h
   exact path (zi h1 (zV h2 (zZ (ht.zH _ _ h3) (zaT h2 ob)))) (by kernel_rfl)
 ·cases h
  exact path (zi h1 ob) (by kernel_rfl)
theorem zbn.ok {n:Nat} {t:Tab} (ht:TabOk t (run Tryd.prog own kp X n)):∀(p1:GStep) r,zbn t n p1=some r→run Tryd.prog own kp X (n+1) 70 [(.t (GStep.t p1))] []=some ((Bo r),[]):=by
 intro p1 r h
 obtain⟨a1,a2,a3,⟨a4,a5,a6,a7,a8⟩,⟨a9,a10,a11⟩,a12,a13,a14⟩:=p1
 rw[zbn]at h
 rcases fk h with ⟨h1,h⟩ | ⟨h1,h⟩
 ·obtain⟨h2,h⟩:=ck h
  obtain⟨a15,h3,h⟩:=sm h
  rcases fk h with ⟨h4,h⟩ | ⟨h4,h⟩
  ·obtain⟨h5,h⟩:=ck h
   obtain⟨a16,h6,h⟩:=sm h
   rcases fk h with ⟨h7,h⟩ | ⟨h7,h⟩
   ·cases h
    exact zk Tryd.func70 (zi h1 (zav h2 (zad (zu zy h3) (zV h4 (zav h5 (zad (zu zy h6) (zV h4 (zaG h7 9 (zi h4 (zi h7 (zi h4 ob))))))))))) (by kernel_rfl)
   ·cases h
    exact zk Tryd.func70 (zi h1 (zav h2 (zad (zu zy h3) (zV h4 (zav h5 (zad (zu zy h6) (zV h4 (zV h7 (zav h5 (zad (zu zy h6) (zaV h7 (zav h2 (zad (zu zy h3) (zaT h7 (zi h4 (zi h7 (zi h4 ob))))))))))))))))) (by kernel_rfl)
  ·cases h
   exact zk Tryd.func70 (zi h1 (zav h2 (zad (zu zy h3) (zaG h4 8 ob)))) (by kernel_rfl)
 ·rcases fk h with ⟨h8,h⟩ | ⟨h8,h⟩
  ·obtain⟨h9,h⟩:=ck h
   obtain⟨a17,h10,h⟩:=sm h
   have o4 {os} (x:Obls (env Tryd.prog 70 Tryd.f70 (run Tryd.prog own kp X n)) n os):=zi h1 (zi h8 (zav h9 (zad (zu zy h10) x)))
   rcases fk h with ⟨h11,h⟩ | ⟨h11,h⟩
   ·obtain⟨h12,h⟩:=ck h
    obtain⟨a18,h13,h⟩:=sm h
    have o12 {os} (x:Obls (env Tryd.prog 70 Tryd.f70 (run Tryd.prog own kp X n)) n os):=o4 (zV h11 (zav h12 (zad (zu zy h13) (zV h11 x))))
    rcases fk h with ⟨h14,h⟩ | ⟨h14,h⟩
    ·have o20 {os} (x:Obls (env Tryd.prog 70 Tryd.f70 (run Tryd.prog own kp X n)) n os):=o12 (zV h14 (zav h12 (zad (zu zy h13) (zV h14 x))))
     rcases fk h with ⟨h15,h⟩ | ⟨h15,h⟩
     ·rcases fk h with ⟨h16,h⟩ | ⟨h16,h⟩
      ·cases h
       exact zk Tryd.func70 (o20 (zV h15 (zP (zq zw (l:=a12)) (zaT h15 (zaG h16 5 (zi h15 (zi h16 (zi h15 ob)))))))) (by kernel_rfl)
      ·cases h
       exact zk Tryd.func70 (o20 (zV h15 (zP (zq zw (l:=a12)) (zaT h15 (zV h16 (zav h9 (zad (zu zy h10) (zaT h16 (zi h15 (zi h16 (zi h15 ob))))))))))) (by kernel_rfl)
     ·cases h
      exact zk Tryd.func70 (o20 (zaG h15 7 ob)) (by kernel_rfl)
    ·cases h
     exact zk Tryd.func70 (o12 (zaG h14 6 (zaG (rfl:false=false) 7 ob))) (by kernel_rfl)
   ·cases h
    exact zk Tryd.func70 (o4 (zaG h11 6 (zaG (rfl:false=false) 13 ob))) (by kernel_rfl)
  ·rcases fk h with ⟨h17,h⟩ | ⟨h17,h⟩
   ·obtain⟨a19 | _,h18,h⟩:=sm h
    ·cases h
     exact zk Tryd.func70 (zi h1 (zi h8 (zi h17 (zaw (zao.ok ht n _ _ _ _ _ _ _ _ _ _ _ _ _ _ _ _ h18) ob)))) (by kernel_rfl)
    ·cases h
     exact zk Tryd.func70 (zi h1 (zi h8 (zi h17 (zaw (zao.ok ht n _ _ _ _ _ _ _ _ _ _ _ _ _ _ _ _ h18) ob)))) (by kernel_rfl)
   ·rcases fk h with ⟨h19,h⟩ | ⟨h19,h⟩
    ·obtain⟨a20 | _,h20,h⟩:=sm h
     ·cases h
      exact zk Tryd.func70 (zi h1 (zi h8 (zi h17 (zi h19 (zaw (zao.ok ht n _ _ _ _ _ _ _ _ _ _ _ _ _ _ _ _ h20) ob))))) (by kernel_rfl)
     ·cases h
      exact zk Tryd.func70 (zi h1 (zi h8 (zi h17 (zi h19 (zaw (zao.ok ht n _ _ _ _ _ _ _ _ _ _ _ _ _ _ _ _ h20) ob))))) (by kernel_rfl)
    ·rcases fk h with ⟨h21,h⟩ | ⟨h21,h⟩
     ·obtain⟨a21 | _,h22,h⟩:=sm h
      ·cases h
       exact zk Tryd.func70 (zi h1 (zi h8 (zi h17 (zi h19 (zi h21 (zaw (zao.ok ht n _ _ _ _ _ _ _ _ _ _ _ _ _ _ _ _ h22) ob)))))) (by kernel_rfl)
      ·cases h
       exact zk Tryd.func70 (zi h1 (zi h8 (zi h17 (zi h19 (zi h21 (zaw (zao.ok ht n _ _ _ _ _ _ _ _ _ _ _ _ _ _ _ _ h22) ob)))))) (by kernel_rfl)
     ·obtain⟨a22 | _,h23,h⟩:=sm h
      ·cases h
       exact zk Tryd.func70 (zi h1 (zi h8 (zi h17 (zi h19 (zi h21 (zaw (zao.ok ht n _ _ _ _ _ _ _ _ _ _ _ _ _ _ _ _ h23) ob)))))) (by kernel_rfl)
      ·cases h
       exact zk Tryd.func70 (zi h1 (zi h8 (zi h17 (zi h19 (zi h21 (zaw (zao.ok ht n _ _ _ _ _ _ _ _ _ _ _ _ _ _ _ _ h23) ob)))))) (by kernel_rfl)
theorem zbl.ok (ht:TabOk t call) (n:Nat) (a1 a2:Int) (a3:ByteArray) (a4:List GStep) (a5:Bool) (r:_) (h:zbl t n a1 a2 a3 a4 a5=some r):exec (env Tryd.prog 75 Tryd.f75 call) n (sub [1,1] (zt Tryd.f75)) (mkSt 50 50 [(2,(I6 a1)),(3,(.ptr 3 0 [] 0))] [(3,(.t (.st [(.v (.int .i64 a2)),(.v (.string a3)),(.sl false 14 (GStep.ts a4)),(.v (.bool a5))])))])=some (zbl.to r):=by
 rw[zbl]at h
 rcases fk h with ⟨h1,h⟩ | ⟨h1,h⟩
 ·cases h
  exact path (zi h1 ob) (by kernel_rfl)
 ·rcases fk h with ⟨h2,h⟩ | ⟨h2,h⟩
  ·obtain⟨a6,rfl⟩:∃z_,z_=r:=⟨_,rfl⟩
   have h3:=h
   exact path (zi h1 (zi h2 (zZ (ht.zcq _ _ h3) ob))) (by kernel_rfl)
  ·rcases fk h with ⟨h4,h⟩ | ⟨h4,h⟩
   ·obtain⟨a7,rfl⟩:∃z_,z_=r:=⟨_,rfl⟩
    have h5:=h
    exact path (zi h1 (zi h2 (zi h4 (zZ (ht.zaY _ _ _ h5) ob)))) (by kernel_rfl)
   ·cases h
    exact path (zi h1 (zi h2 (zi h4 ob))) (by kernel_rfl)
theorem zdo.ok {n:Nat} {t:Tab} (ht:TabOk t (run Tryd.prog own kp X n)):∀(p1:GBy) (p2:Bool) (p3:Int) r,zdo t n p1 p2 p3=some r→run Tryd.prog own kp X (n+1) 75 [(.t (GBy.t p1)),(Bo p2),(I6 p3)] []=some ((Bo r),[]):=by
 intro p1 p2 p3 r h
 obtain⟨a1,a2,a3,a4⟩:=p1
 obtain⟨a5,rfl⟩:∃z_,z_=p2:=⟨_,rfl⟩
 obtain⟨a6,rfl⟩:∃z_,z_=p3:=⟨_,rfl⟩
 rw[zdo]at h
 rcases fk h with ⟨h1,h⟩ | ⟨h1,h⟩
 ·have o3 {os} (x:Obls (env Tryd.prog 75 Tryd.f75 (run Tryd.prog own kp X n)) n os):=zV h1 x
  rcases fk h with ⟨h2,h⟩ | ⟨h2,h⟩
  ·have o7 {os} (x:Obls (env Tryd.prog 75 Tryd.f75 (run Tryd.prog own kp X n)) n os):=o3 (zaV (ng h2) x)
   rcases fk h with ⟨h3,h⟩ | ⟨h3,h⟩
   ·have o13 {os} (x:Obls (env Tryd.prog 75 Tryd.f75 (run Tryd.prog own kp X n)) n os):=o7 (zV h3 (zi (ng h2) (zi h3 (zi (ng h2) x))))
    rcases fk h with ⟨h4,h⟩ | ⟨h4,h⟩
    ·rcases fk h with ⟨h5,h⟩ | ⟨h5,h⟩
     ·have o25 {os} (x:Obls (env Tryd.prog 75 Tryd.f75 (run Tryd.prog own kp X n)) n os):=o13 (zaV (ng h4) (zV h5 (zP (zq GStep.zl (l:=a3)) (zi h5 (zi (ng h4) (zi h5 (zi (ng h4) x)))))))
      rcases fk h with ⟨h6,h⟩ | ⟨h6,h⟩
      ·cases h
       exact zk Tryd.func75 (o25 (zi h6 ob)) (by kernel_rfl)
      ·obtain⟨a7,rfl⟩:∃z_,z_=r:=⟨_,rfl⟩
       have h7:=h
       exact zk Tryd.func75 (o25 (zi h6 (zaw (zbl.ok ht n _ _ _ _ _ _ h7) ob))) (by kernel_rfl)
     ·obtain⟨a8,rfl⟩:∃z_,z_=r:=⟨_,rfl⟩
      have h8:=h
      exact zk Tryd.func75 (o13 (zaV (ng h4) (zaV h5 (zi (ng h4) (zi h5 (zi (ng h4) (zi (rfl:false=false) (zaw (zbl.ok ht n _ _ _ _ _ _ h8) ob)))))))) (by kernel_rfl)
    ·cases h
     exact zk Tryd.func75 (o13 (zaG (ng h4) 6 (zds 1 ob))) (by kernel_rfl)
   ·have o17 {os} (x:Obls (env Tryd.prog 75 Tryd.f75 (run Tryd.prog own kp X n)) n os):=o7 (zV h3 (zi (ng h2) (zi h3 (zi (ng h2) (zaV (rfl:false=false) x)))))
    rcases fk h with ⟨h9,h⟩ | ⟨h9,h⟩
    ·rcases fk h with ⟨h10,h⟩ | ⟨h10,h⟩
     ·cases h
      exact zk Tryd.func75 (o17 (zV h9 (zP (zq GStep.zl (l:=a3)) (zi h9 (zi (rfl:false=false) (zi h9 (zi (rfl:false=false) (zi h10 ob)))))))) (by kernel_rfl)
     ·obtain⟨a9,rfl⟩:∃z_,z_=r:=⟨_,rfl⟩
      have h11:=h
      exact zk Tryd.func75 (o17 (zV h9 (zP (zq GStep.zl (l:=a3)) (zi h9 (zi (rfl:false=false) (zi h9 (zi (rfl:false=false) (zi h10 (zaw (zbl.ok ht n _ _ _ _ _ _ h11) ob))))))))) (by kernel_rfl)
    ·obtain⟨a10,rfl⟩:∃z_,z_=r:=⟨_,rfl⟩
     have h12:=h
     exact zk Tryd.func75 (o17 (zaV h9 (zi (rfl:false=false) (zi h9 (zaT (rfl:false=false) (zaw (zbl.ok ht n _ _ _ _ _ _ h12) ob)))))) (by kernel_rfl)
  ·cases h
   exact zk Tryd.func75 (o3 (zaG (ng h2) 6 (zds 7 ob))) (by kernel_rfl)
 ·have o7 {os} (x:Obls (env Tryd.prog 75 Tryd.f75 (run Tryd.prog own kp X n)) n os):=zV h1 (zaV (rfl:false=false) x)
  rcases fk h with ⟨h13,h⟩ | ⟨h13,h⟩
  ·have o13 {os} (x:Obls (env Tryd.prog 75 Tryd.f75 (run Tryd.prog own kp X n)) n os):=o7 (zV h13 (zi (rfl:false=false) (zi h13 (zi (rfl:false=false) x))))
   rcases fk h with ⟨h14,h⟩ | ⟨h14,h⟩
   ·rcases fk h with ⟨h15,h⟩ | ⟨h15,h⟩
    ·have o25 {os} (x:Obls (env Tryd.prog 75 Tryd.f75 (run Tryd.prog own kp X n)) n os):=o13 (zaV (ng h14) (zV h15 (zP (zq GStep.zl (l:=a3)) (zi h15 (zi (ng h14) (zi h15 (zi (ng h14) x)))))))
     rcases fk h with ⟨h16,h⟩ | ⟨h16,h⟩
     ·cases h
      exact zk Tryd.func75 (o25 (zi h16 ob)) (by kernel_rfl)
     ·obtain⟨a11,rfl⟩:∃z_,z_=r:=⟨_,rfl⟩
      have h17:=h
      exact zk Tryd.func75 (o25 (zi h16 (zaw (zbl.ok ht n _ _ _ _ _ _ h17) ob))) (by kernel_rfl)
    ·obtain⟨a12,rfl⟩:∃z_,z_=r:=⟨_,rfl⟩
     have h18:=h
     exact zk Tryd.func75 (o13 (zaV (ng h14) (zaV h15 (zi (ng h14) (zi h15 (zi (ng h14) (zi (rfl:false=false) (zaw (zbl.ok ht n _ _ _ _ _ _ h18) ob)))))))) (by kernel_rfl)
   ·cases h
    exact zk Tryd.func75 (o13 (zaG (ng h14) 6 (zds 1 ob))) (by kernel_rfl)
  ·have o17 {os} (x:Obls (env Tryd.prog 75 Tryd.f75 (run Tryd.prog own kp X n)) n os):=o7 (zV h13 (zi (rfl:false=false) (zi h13 (zaG (rfl:false=false) 5 x))))
   rcases fk h with ⟨h19,h⟩ | ⟨h19,h⟩
   ·rcases fk h with ⟨h20,h⟩ | ⟨h20,h⟩
    ·cases h
     exact zk Tryd.func75 (o17 (zV h19 (zP (zq GStep.zl (l:=a3)) (zi h19 (zi (rfl:false=false) (zi h19 (zi (rfl:false=false) (zi h20 ob)))))))) (by kernel_rfl)
    ·obtain⟨a13,rfl⟩:∃z_,z_=r:=⟨_,rfl⟩
     have h21:=h
     exact zk Tryd.func75 (o17 (zV h19 (zP (zq GStep.zl (l:=a3)) (zi h19 (zi (rfl:false=false) (zi h19 (zi (rfl:false=false) (zi h20 (zaw (zbl.ok ht n _ _ _ _ _ _ h21) ob))))))))) (by kernel_rfl)
   ·obtain⟨a14,rfl⟩:∃z_,z_=r:=⟨_,rfl⟩
    have h22:=h
    exact zk Tryd.func75 (o17 (zaV h19 (zi (rfl:false=false) (zi h19 (zaT (rfl:false=false) (zaw (zbl.ok ht n _ _ _ _ _ _ h22) ob)))))) (by kernel_rfl)
theorem zc2.ok (ht:TabOk t call) (n:Nat) (a1 a2:Int) (a3:ByteArray) (a4 a5:List zh) (a6 a7:Int) (a8:ByteArray) (a9 a10:List zh) (a11:Int) (r:_) (h:zc2 t n a1 a2 a3 a4 a5 a6 a7 a8 a9 a10 a11=some r):exec (env Tryd.prog 78 Tryd.f78 call) n (sub [1,1] (zt Tryd.f78)) (mkSt 48 48 [(3,(.ptr 3 0 [] 0)),(4,(.ptr 4 0 [] 0)),(5,(.ptr 5 0 [] 0))] [(3,(.t (.st [(.v (.int .i64 a1)),(.v (.int .i64 a2)),(.v (.string a3)),(.sl false 5 (zh.ts a4)),(.sl false 5 (zh.ts a5))]))),(4,(.t (.st [(.v (.int .i64 a6)),(.v (.int .i64 a7)),(.v (.string a8)),(.sl false 5 (zh.ts a9)),(.sl false 5 (zh.ts a10))]))),(5,(I6 a11))])=some (zc2.to r):=by
 rw[zc2]at h
 obtain⟨a12,h1,h⟩:=sm h
 obtain⟨a13,h2,h⟩:=sm h
 obtain⟨a14,rfl⟩:∃z_,z_=r:=⟨_,rfl⟩
 have h3:=h
 exact path (zZ (ht.zI _ _ _ _ h1) (zZ (ht.zI _ _ _ _ h2) (zZ (ht.zc0 _ _ h3) ob))) (by kernel_rfl)
theorem zbb.ok {n:Nat} {t:Tab} (ht:TabOk t (run Tryd.prog own kp X n)):∀(p1:zh) (p2:zh) (p3:Int) r,zbb t n p1 p2 p3=some r→run Tryd.prog own kp X (n+1) 78 [(.t (zh.t p1)),(.t (zh.t p2)),(I6 p3)] []=some ((I6 r),[]):=by
 intro p1 p2 p3 r h
 obtain⟨a1,a2,a3,a4,a5⟩:=p1
 obtain⟨a6,a7,a8,a9,a10⟩:=p2
 obtain⟨a11,rfl⟩:∃z_,z_=p3:=⟨_,rfl⟩
 rw[zbb]at h
 obtain⟨a12,h1,h⟩:=sm h
 obtain⟨a13,h2,h⟩:=sm h
 obtain⟨a14,h3,h⟩:=sm h
 obtain⟨a15,h4,h⟩:=sm h
 have o4 {os} (x:Obls (env Tryd.prog 78 Tryd.f78 (run Tryd.prog own kp X n)) n os):=zZ (ht.cmp_Compare_int _ _ _ h1) (zZ (ht.cmp_Compare_int _ _ _ h2) (zZ (ht.strings_Compare _ _ _ h3) (zZ (ht.zc0 _ _ h4) x)))
 rcases fk h with ⟨h5,h⟩ | ⟨h5,h⟩
 ·cases h
  exact zk Tryd.func78 (o4 (zV h5 (zds 1 ob))) (by kernel_rfl)
 ·rcases fk h with ⟨h6,h⟩ | ⟨h6,h⟩
  ·cases h
   exact zk Tryd.func78 (o4 (zV h5 (zi h6 ob))) (by kernel_rfl)
  ·obtain⟨a16,rfl⟩:∃z_,z_=r:=⟨_,rfl⟩
   have h7:=h
   exact zk Tryd.func78 (o4 (zV h5 (zi h6 (zaw (zc2.ok ht n _ _ _ _ _ _ _ _ _ _ _ _ h7) ob)))) (by kernel_rfl)
theorem zQ.okL (ht:TabOk t call) (n:Nat):∀(k:Nat) (a1:List ByteArray) (a2 a3:Int) (r:_),zQ t n k a1 a2 a3=some r→loopN (exec (env Tryd.prog 81 Tryd.f81 call) n (sub [1,0,1,0,0] (zt Tryd.f81))) k (mkSt 19 19 [(0,(Sl 1 (texts a1))),(1,(.fn 66 [])),(7,(I6 a2)),(8,(I6 a3))] [])=some (zQ.to r)
 | 0,a1,a2,a3,r,h=>by rw[zQ]at h;cases h
 | k+1,a1,a2,a3,r,h=>by
  rw[zQ]at h
  rcases fk h with ⟨h1,h⟩ | ⟨h1,h⟩
  ·obtain⟨h2,h⟩:=ck h
   obtain⟨a4,h3,h⟩:=sm h
   obtain⟨a5,h4,h⟩:=sm h
   rcases fk h with ⟨h5,h⟩ | ⟨h5,h⟩
   ·cases h
    exact zx (path (zi h1 (zav h2 (zad (zu zX h3) (zZ (ht.zcl _ _ h4) (zi h5 ob))))) (by kernel_rfl)) (fun h=>by cases h)
   ·exact zT (path (zi h1 (zav h2 (zad (zu zX h3) (zZ (ht.zcl _ _ h4) (zi h5 ob))))) (by kernel_rfl)) (zQ.okL ht n k _ _ _ _ h)
  ·cases h
   exact zx (path (zi h1 ob) (by kernel_rfl)) (fun h=>by cases h)
theorem zah.ok {n:Nat} {t:Tab} (ht:TabOk t (run Tryd.prog own kp X n)):∀(p1:List ByteArray) r,zah t n p1=some r→run Tryd.prog own kp X (n+1) 81 [(Sl 1 (texts p1)),(.fn 66 [])] []=some ((I6 r),[]):=by
 intro p1 r h
 obtain⟨a1,rfl⟩:∃z_,z_=p1:=⟨_,rfl⟩
 rw[zah]at h
 obtain⟨a2 | ⟨a3,a4,a5,a6⟩,h1,h⟩:=sm h
 ·cases h
  exact zk Tryd.func81 (zP (zq zX (l:=a1)) (zbq (lk (sub [1,0,1,0] (zt Tryd.f81)) (by kernel_rfl) (zQ.okL ht n n _ _ _ _ h1)) ob)) (by kernel_rfl)
 ·cases h
  exact zk Tryd.func81 (zP (zq zX (l:=a1)) (zbq (lk (sub [1,0,1,0] (zt Tryd.f81)) (by kernel_rfl) (zQ.okL ht n n _ _ _ _ h1)) ob)) (by kernel_rfl)
end Go.Proofs.YtgmidllbkjdnnaaDoor.W
