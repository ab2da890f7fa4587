/- The proofs of it, part 2. -/
import Derived.Test.YtgmidllbkjdnnaaDoorL6D1
namespace Go.Proofs.YtgmidllbkjdnnaaDoor.W
open Go.Proofs.YtgmidllbkjdnnaaDoor.Flat
set_option linter.unusedVariables false
set_option linter.unusedSimpArgs false
set_option smartUnfolding false
attribute [local irreducible] zaJ zaK zaZ zaR zaI za7 zcw zbE zao zaC zbD zbd zc7 quoI zct zcu zcT zbr zcV zcx zcv zbh zb0 zcf zcQ remI strAt zaO
variable {t:Tab} {call:FuncId→List AV→List AV→Option (AV × List AV)}
theorem zaF.okL (ht:TabOk t call) (n:Nat):∀(k:Nat) (a1:Int) (a2:List zh) (a3 a4 a5 a6:Int) (a7:ByteArray) (a8 a9:List zh) (r:_),zaF t n k a1 a2 a3 a4 a5 a6 a7 a8 a9=some r→loopN (exec (env Tryd.prog 84 Tryd.f84 call) n (sub [1,1,1,1,1,1,0,1,0,0] (zt Tryd.f84))) k (mkSt 147 147 [(1,(I6 a1)),(2,(.ptr 2 0 [] 0)),(109,(Sl 5 (zh.ts a2))),(110,(I6 a3)),(111,(I6 a4))] [(2,(.t (.st [(.v (.int .i64 a5)),(.v (.int .i64 a6)),(.v (.string a7)),(.sl false 5 (zh.ts a8)),(.sl false 5 (zh.ts a9))])))])=some (zaF.to r)
 | 0,a1,a2,a3,a4,a5,a6,a7,a8,a9,r,h=>by rw[zaF]at h;cases h
 | k+1,a1,a2,a3,a4,a5,a6,a7,a8,a9,r,h=>by
  rw[zaF]at h
  rcases fk h with ⟨h1,h⟩ | ⟨h1,h⟩
  ·obtain⟨h2,h⟩:=ck h
   obtain⟨⟨a10,a11,a12,a13,a14⟩,h3,h⟩:=sm h
   obtain⟨a15,h4,h⟩:=sm h
   have o4 {os} (x:Obls (env Tryd.prog 84 Tryd.f84 call) n os):=zi h1 (zav h2 (zad (zu zh.zl h3) (zZ (ht.zbc _ _ _ h4) x)))
   rcases fk h with ⟨h5,h⟩ | ⟨h5,h⟩
   ·rcases fk h with ⟨h6,h⟩ | ⟨h6,h⟩
    ·rcases fk h with ⟨h7,h⟩ | ⟨h7,h⟩
     ·have o15 {os} (x:Obls (env Tryd.prog 84 Tryd.f84 call) n os):=o4 (zi (ng h5) (zV h6 (zaV h7 (zP (zq zh.zl (l:=a8)) (zaT h7 x)))))
      rcases fk h with ⟨h8,h⟩ | ⟨h8,h⟩
      ·obtain⟨h9,h⟩:=ck h
       obtain⟨⟨a16,a17,a18,a19,a20⟩,h10,h⟩:=sm h
       obtain⟨a21,h11,h⟩:=sm h
       have o28 {os} (x:Obls (env Tryd.prog 84 Tryd.f84 call) n os):=o15 (zaG h8 5 (zav h9 (zad (zu zh.zl h10) (zV h8 (zZ (ht.zdc _ _ _ h11) (zaT h8 x))))))
       rcases fk h with ⟨h12,h⟩ | ⟨h12,h⟩
       ·cases h
        exact zx (path (o28 (zi h12 ob)) (by kernel_rfl)) (fun h=>by cases h)
       ·exact zT (path (o28 (zi h12 ob)) (by kernel_rfl)) (zaF.okL ht n k _ _ _ _ _ _ _ _ _ _ h)
      ·exact zT (path (o15 (zaG h8 10 (zi (rfl:false=false) ob))) (by kernel_rfl)) (zaF.okL ht n k _ _ _ _ _ _ _ _ _ _ h)
     ·exact zT (path (o4 (zi (ng h5) (zV h6 (zaG h7 6 (zaG (rfl:false=false) 11 ob))))) (by kernel_rfl)) (zaF.okL ht n k _ _ _ _ _ _ _ _ _ _ h)
    ·exact zT (path (o4 (zi (ng h5) (zV h6 (zaG (rfl:false=false) 17 ob)))) (by kernel_rfl)) (zaF.okL ht n k _ _ _ _ _ _ _ _ _ _ h)
   ·cases h
    exact zx (path (o4 (zi (ng h5) ob)) (by kernel_rfl)) (fun h=>by cases h)
  ·cases h
   exact zx (path (zi h1 ob) (by kernel_rfl)) (fun h=>by cases h)
theorem za4.ok (ht:TabOk t call) (n:Nat) (a1 a2 a3:Int) (a4:ByteArray) (a5 a6:List zh) (r:_) (h:za4 t n a1 a2 a3 a4 a5 a6=some r):exec (env Tryd.prog 84 Tryd.f84 call) n (sub [1,1,1,1,1,1] (zt Tryd.f84)) (mkSt 147 147 [(1,(I6 a1)),(2,(.ptr 2 0 [] 0))] [(2,(.t (.st [(.v (.int .i64 a2)),(.v (.int .i64 a3)),(.v (.string a4)),(.sl false 5 (zh.ts a5)),(.sl false 5 (zh.ts a6))])))])=some (za4.to r):=by
 rw[za4]at h
 obtain⟨a7,h1,h⟩:=sm h
 obtain⟨a8 | ⟨a9,a10,a11,a12,a13,a14,a15,a16,a17,a18⟩,h2,h⟩:=sm h
 ·cases h
  exact path (zZ (ht.zaz _ _ h1) (zP (zq zh.zl (l:=a7)) (zbq (lk (sub [1,1,1,1,1,1,0,1,0] (zt Tryd.f84)) (by kernel_rfl) (zaF.okL ht n n _ _ _ _ _ _ _ _ _ _ h2)) ob))) (by kernel_rfl)
 ·cases h
  exact path (zZ (ht.zaz _ _ h1) (zP (zq zh.zl (l:=a7)) (zbq (lk (sub [1,1,1,1,1,1,0,1,0] (zt Tryd.f84)) (by kernel_rfl) (zaF.okL ht n n _ _ _ _ _ _ _ _ _ _ h2)) ob))) (by kernel_rfl)
theorem zbB.ok (ht:TabOk t call) (n:Nat) (a1 a2 a3:Int) (a4:ByteArray) (a5 a6:List zh) (r:_) (h:zbB t n a1 a2 a3 a4 a5 a6=some r):exec (env Tryd.prog 84 Tryd.f84 call) n (sub [1,1,1,1,1] (zt Tryd.f84)) (mkSt 147 147 [(1,(I6 a1)),(2,(.ptr 2 0 [] 0))] [(2,(.t (.st [(.v (.int .i64 a2)),(.v (.int .i64 a3)),(.v (.string a4)),(.sl false 5 (zh.ts a5)),(.sl false 5 (zh.ts a6))])))])=some (zbB.to r):=by
 rw[zbB]at h
 rcases fk h with ⟨h1,h⟩ | ⟨h1,h⟩
 ·cases h
  exact path (zP (zq zh.zl (l:=a5)) (zaG h1 6 (zds 7 ob))) (by kernel_rfl)
 ·have o5 {os} (x:Obls (env Tryd.prog 84 Tryd.f84 call) n os):=zP (zq zh.zl (l:=a5)) (zaV h1 x)
  rcases fk h with ⟨h2,h⟩ | ⟨h2,h⟩
  ·have o17 {os} (x:Obls (env Tryd.prog 84 Tryd.f84 call) n os):=o5 (zV h2 (zP (zq zh.zl (l:=a6)) (zV h2 (zP (zq zh.zl (l:=a5)) (zi h2 (zi h1 (zi h2 (zi h1 x))))))))
   rcases fk h with ⟨h3,h⟩ | ⟨h3,h⟩
   ·cases h
    exact path (o17 (zaG h3 6 (zds 1 ob))) (by kernel_rfl)
   ·rcases fk h with ⟨h4,h⟩ | ⟨h4,h⟩
    ·rcases fk h with ⟨h5,h⟩ | ⟨h5,h⟩
     ·cases h
      exact path (o17 (zaV h3 (zV h4 (zP (zq zh.zl (l:=a6)) (zi h4 (zi h3 (zi h4 (zi h3 (zi h5 ob))))))))) (by kernel_rfl)
     ·obtain⟨a7,rfl⟩:∃z_,z_=r:=⟨_,rfl⟩
      have h6:=h
      exact path (o17 (zaV h3 (zV h4 (zP (zq zh.zl (l:=a6)) (zi h4 (zi h3 (zi h4 (zi h3 (zi h5 (zaw (za4.ok ht n _ _ _ _ _ _ _ h6) ob)))))))))) (by kernel_rfl)
    ·obtain⟨a8,rfl⟩:∃z_,z_=r:=⟨_,rfl⟩
     have h7:=h
     exact path (o17 (zaV h3 (zaV h4 (zi h3 (zi h4 (zi h3 (zi (rfl:false=false) (zaw (za4.ok ht n _ _ _ _ _ _ _ h7) ob)))))))) (by kernel_rfl)
  ·have o19 {os} (x:Obls (env Tryd.prog 84 Tryd.f84 call) n os):=o5 (zaG h2 7 (zi h1 (zi h2 (zi h1 (zaV (rfl:false=false) x)))))
   rcases fk h with ⟨h8,h⟩ | ⟨h8,h⟩
   ·rcases fk h with ⟨h9,h⟩ | ⟨h9,h⟩
    ·cases h
     exact path (o19 (zV h8 (zP (zq zh.zl (l:=a6)) (zi h8 (zi (rfl:false=false) (zi h8 (zi (rfl:false=false) (zi h9 ob)))))))) (by kernel_rfl)
    ·obtain⟨a9,rfl⟩:∃z_,z_=r:=⟨_,rfl⟩
     have h10:=h
     exact path (o19 (zV h8 (zP (zq zh.zl (l:=a6)) (zi h8 (zi (rfl:false=false) (zi h8 (zi (rfl:false=false) (zi h9 (zaw (za4.ok ht n _ _ _ _ _ _ _ h10) ob))))))))) (by kernel_rfl)
   ·obtain⟨a10,rfl⟩:∃z_,z_=r:=⟨_,rfl⟩
    have h11:=h
    exact path (o19 (zaV h8 (zi (rfl:false=false) (zi h8 (zaT (rfl:false=false) (zaw (za4.ok ht n _ _ _ _ _ _ _ h11) ob)))))) (by kernel_rfl)
theorem zbm.ok (ht:TabOk t call) (n:Nat) (a1:Int) (a2 a3:Bool) (a4 a5:Int) (a6:ByteArray) (a7 a8:List zh) (r:_) (h:zbm t n a1 a2 a3 a4 a5 a6 a7 a8=some r):exec (env Tryd.prog 84 Tryd.f84 call) n (sub [1,1,1,1] (zt Tryd.f84)) (mkSt 147 147 [(1,(I6 a1)),(2,(.ptr 2 0 [] 0)),(5,(Bo a2)),(6,(Bo a3))] [(2,(.t (.st [(.v (.int .i64 a4)),(.v (.int .i64 a5)),(.v (.string a6)),(.sl false 5 (zh.ts a7)),(.sl false 5 (zh.ts a8))])))])=some (zbm.to r):=by
 rw[zbm]at h
 rcases fk h with ⟨h1,h⟩ | ⟨h1,h⟩
 ·have o9 {os} (x:Obls (env Tryd.prog 84 Tryd.f84 call) n os):=zaV (ng h1) (zaG (rfl:false=false) 5 x)
  rcases fk h with ⟨h2,h⟩ | ⟨h2,h⟩
  ·cases h
   exact path (o9 (zaG h2 6 (zds 6 ob))) (by kernel_rfl)
  ·have o21 {os} (x:Obls (env Tryd.prog 84 Tryd.f84 call) n os):=o9 (zaT h2 (zi h1 (zi h2 (zi h1 (zi h2 (zds 3 (zi h2 (zds 1 (zi h2 x)))))))))
   rcases fk h with ⟨h3,h⟩ | ⟨h3,h⟩
   ·cases h
    exact path (o21 (zaG h3 5 (zds 1 ob))) (by kernel_rfl)
   ·rcases fk h with ⟨h4,h⟩ | ⟨h4,h⟩
    ·obtain⟨a9,rfl⟩:∃z_,z_=r:=⟨_,rfl⟩
     have h5:=h
     exact path (o21 (zV h3 (zaG (ng h4) 8 (zi h3 (zi (ng h4) (zi h3 (zi (rfl:false=false) (zaw (zbB.ok ht n _ _ _ _ _ _ _ h5) ob)))))))) (by kernel_rfl)
    ·have o37 {os} (x:Obls (env Tryd.prog 84 Tryd.f84 call) n os):=o21 (zV h3 (zV (ng h4) (zP (zq zh.zl (l:=a7)) (zV (ng h4) (zP (zq zh.zl (l:=a8)) (zaT (ng h4) (zi h3 (zi (ng h4) (zi h3 x)))))))))
     rcases fk h with ⟨h6,h⟩ | ⟨h6,h⟩
     ·cases h
      exact path (o37 (zi h6 ob)) (by kernel_rfl)
     ·obtain⟨a10,rfl⟩:∃z_,z_=r:=⟨_,rfl⟩
      have h7:=h
      exact path (o37 (zi h6 (zaw (zbB.ok ht n _ _ _ _ _ _ _ h7) ob))) (by kernel_rfl)
 ·have o4 {os} (x:Obls (env Tryd.prog 84 Tryd.f84 call) n os):=zaV (ng h1) x
  rcases fk h with ⟨h8,h⟩ | ⟨h8,h⟩
  ·have o9 {os} (x:Obls (env Tryd.prog 84 Tryd.f84 call) n os):=o4 (zaG (ng h8) 5 x)
   rcases fk h with ⟨h9,h⟩ | ⟨h9,h⟩
   ·cases h
    exact path (o9 (zaG h9 6 (zds 6 ob))) (by kernel_rfl)
   ·have o15 {os} (x:Obls (env Tryd.prog 84 Tryd.f84 call) n os):=o9 (zaT h9 (zi h1 (zi h9 (zi h1 (zi h9 x)))))
    rcases fk h with ⟨h10,h⟩ | ⟨h10,h⟩
    ·rcases fk h with ⟨h11,h⟩ | ⟨h11,h⟩
     ·cases h
      exact path (o15 (zV h10 (zi h9 (zi h10 (zi h9 (zaG h11 5 (zds 1 ob))))))) (by kernel_rfl)
     ·obtain⟨a11,rfl⟩:∃z_,z_=r:=⟨_,rfl⟩
      have h12:=h
      exact path (o15 (zV h10 (zi h9 (zi h10 (zi h9 (zV h11 (zaG (ng h10) 8 (zi h11 (zi (ng h10) (zi h11 (zi (rfl:false=false) (zaw (zbB.ok ht n _ _ _ _ _ _ _ h12) ob)))))))))))) (by kernel_rfl)
    ·have o37 {os} (x:Obls (env Tryd.prog 84 Tryd.f84 call) n os):=o15 (zV h10 (zi h9 (zi h10 (zi h9 (zV (rfl:false=false) (zV (ng h10) (zP (zq zh.zl (l:=a7)) (zV (ng h10) (zP (zq zh.zl (l:=a8)) (zaT (ng h10) (zi (rfl:false=false) (zi (ng h10) (zi (rfl:false=false) x)))))))))))))
     rcases fk h with ⟨h13,h⟩ | ⟨h13,h⟩
     ·cases h
      exact path (o37 (zi h13 ob)) (by kernel_rfl)
     ·obtain⟨a12,rfl⟩:∃z_,z_=r:=⟨_,rfl⟩
      have h14:=h
      exact path (o37 (zi h13 (zaw (zbB.ok ht n _ _ _ _ _ _ _ h14) ob))) (by kernel_rfl)
  ·cases h
   exact path (o4 (zaG (ng h8) 5 (zds 12 ob))) (by kernel_rfl)
theorem zaO.ok (ht:TabOk t call) (n:Nat) (a1:Int) (a2 a3:Bool) (a4:Int) (a5:Bool) (a6 a7:Int) (a8:ByteArray) (a9 a10:List zh) (r:_) (h:zaO t n a1 a2 a3 a4 a5 a6 a7 a8 a9 a10=some r):exec (env Tryd.prog 84 Tryd.f84 call) n (sub [1,1,1,0,1,0,1,1,1,1,1] (zt Tryd.f84)) (mkSt 147 147 [(1,(I6 a1)),(2,(.ptr 2 0 [] 0)),(5,(Bo a2)),(6,(Bo a3)),(12,(I6 a4)),(25,(Bo a5))] [(2,(.t (.st [(.v (.int .i64 a6)),(.v (.int .i64 a7)),(.v (.string a8)),(.sl false 5 (zh.ts a9)),(.sl false 5 (zh.ts a10))])))])=some (zaO.to r):=by
 rw[zaO]at h
 rcases fk h with ⟨h1,h⟩ | ⟨h1,h⟩
 ·rcases fk h with ⟨h2,h⟩ | ⟨h2,h⟩
  ·cases h
   exact path (zi h1 (zi h2 ob)) (by kernel_rfl)
  ·cases h
   exact path (zi h1 (zi h2 ob)) (by kernel_rfl)
 ·rcases fk h with ⟨h3,h⟩ | ⟨h3,h⟩
  ·cases h
   exact path (zi h1 (zi h3 ob)) (by kernel_rfl)
  ·rcases fk h with ⟨h4,h⟩ | ⟨h4,h⟩
   ·cases h
    exact path (zi h1 (zi h3 (zaT h4 ob))) (by kernel_rfl)
   ·rcases fk h with ⟨h5,h⟩ | ⟨h5,h⟩
    ·cases h
     exact path (zi h1 (zi h3 (zi h4 (zaT h5 ob)))) (by kernel_rfl)
    ·rcases fk h with ⟨h6,h⟩ | ⟨h6,h⟩
     ·cases h
      exact path (zi h1 (zi h3 (zi h4 (zi h5 (zi h6 ob))))) (by kernel_rfl)
     ·cases h
      exact path (zi h1 (zi h3 (zi h4 (zi h5 (zi h6 ob))))) (by kernel_rfl)
theorem zbc.ok {n:Nat} {t:Tab} (ht:TabOk t (run Tryd.prog own kp X n)):∀(p1:zh) (p2:Int) r,zbc t n p1 p2=some r→run Tryd.prog own kp X (n+1) 84 [(.t (zh.t p1)),(I6 p2)] []=some ((Bo r),[]):=by
 intro p1 p2 r h
 obtain⟨a1,a2,a3,a4,a5⟩:=p1
 obtain⟨a6,rfl⟩:∃z_,z_=p2:=⟨_,rfl⟩
 rw[zbc]at h
 rcases fk h with ⟨h1,h⟩ | ⟨h1,h⟩
 ·cases h
  exact zk Tryd.func84 (zi h1 ob) (by kernel_rfl)
 ·rcases fk h with ⟨h2,h⟩ | ⟨h2,h⟩
  ·rcases fk h with ⟨h3,h⟩ | ⟨h3,h⟩
   ·cases h
    exact zk Tryd.func84 (zi h1 (zi h2 (zaV h3 (zds 1 ob)))) (by kernel_rfl)
   ·rcases fk h with ⟨h4,h⟩ | ⟨h4,h⟩
    ·cases h
     exact zk Tryd.func84 (zi h1 (zi h2 (zaV h3 (zi h4 ob)))) (by kernel_rfl)
    ·obtain⟨a7,rfl⟩:∃z_,z_=r:=⟨_,rfl⟩
     have h5:=h
     exact zk Tryd.func84 (zi h1 (zi h2 (zaV h3 (zi h4 (zaw (zbm.ok ht n _ _ _ _ _ _ _ _ _ h5) ob))))) (by kernel_rfl)
  ·rcases fk h with ⟨h6,h⟩ | ⟨h6,h⟩
   ·obtain⟨a8,rfl⟩:∃z_,z_=r:=⟨_,rfl⟩
    have h7:=h
    exact zk Tryd.func84 (zi h1 (zi h2 (zi h6 (zaw (zbm.ok ht n _ _ _ _ _ _ _ _ _ h7) ob)))) (by kernel_rfl)
   ·rcases fk h with ⟨h8,h⟩ | ⟨h8,h⟩
    ·obtain⟨a9 | ⟨a10,a11,a12,a13,a14,a15,a16,a17⟩,h9,h⟩:=sm h
     ·cases h
      exact zk Tryd.func84 (zi h1 (zi h2 (zi h6 (zi h8 (zaw (zaO.ok ht n _ _ _ _ _ _ _ _ _ _ _ h9) ob))))) (by kernel_rfl)
     ·obtain⟨a18,rfl⟩:∃z_,z_=r:=⟨_,rfl⟩
      have h10:=h
      exact zk Tryd.func84 (zi h1 (zi h2 (zi h6 (zi h8 (zaw (zaO.ok ht n _ _ _ _ _ _ _ _ _ _ _ h9) (zaw (zbm.ok ht n _ _ _ _ _ _ _ _ _ h10) ob)))))) (by kernel_rfl)
    ·obtain⟨a19 | ⟨a20,a21,a22,a23,a24,a25,a26,a27⟩,h11,h⟩:=sm h
     ·cases h
      exact zk Tryd.func84 (zi h1 (zi h2 (zi h6 (zi h8 (zaw (zaO.ok ht n _ _ _ _ _ _ _ _ _ _ _ h11) ob))))) (by kernel_rfl)
     ·obtain⟨a28,rfl⟩:∃z_,z_=r:=⟨_,rfl⟩
      have h12:=h
      exact zk Tryd.func84 (zi h1 (zi h2 (zi h6 (zi h8 (zaw (zaO.ok ht n _ _ _ _ _ _ _ _ _ _ _ h11) (zaw (zbm.ok ht n _ _ _ _ _ _ _ _ _ h12) ob)))))) (by kernel_rfl)
theorem zde.ok (ht:TabOk t call) (n:Nat) (a1:Int) (a2:List zh) (a3:List GPred) (a4:Int) (r:_) (h:zde t n a1 a2 a3 a4=some r):exec (env Tryd.prog 85 Tryd.f85 call) n (sub [1,1,1] (zt Tryd.f85)) (mkSt 62 62 [(2,(.ptr 2 0 [] 0)),(3,(.ptr 3 0 [] 0))] [(2,(.t (.st [(.v (.int .i64 a1)),(.sl false 5 (zh.ts a2)),(.sl false 3 (GPred.ts a3))]))),(3,(I6 a4))])=some (zde.to r):=by
 rw[zde]at h
 obtain⟨a5,h1,h⟩:=sm h
 rcases fk h with ⟨h2,h⟩ | ⟨h2,h⟩
 ·cases h
  exact path (zZ (ht.zM _ _ _ h1) (zaG (ng h2) 6 ob)) (by kernel_rfl)
 ·obtain⟨a6,h3,h⟩:=sm h
  cases h
  exact path (zZ (ht.zM _ _ _ h1) (zaV (ng h2) (zZ (ht.zS _ _ h3) (zaT (ng h2) ob)))) (by kernel_rfl)
theorem zbY.ok {n:Nat} {t:Tab} (ht:TabOk t (run Tryd.prog own kp X n)):∀(p1:GPred) (p2:Int) r,zbY t n p1 p2=some r→run Tryd.prog own kp X (n+1) 85 [(.t (GPred.t p1)),(I6 p2)] []=some ((Bo r),[]):=by
 intro p1 p2 r h
 obtain⟨a1,a2,a3⟩:=p1
 obtain⟨a4,rfl⟩:∃z_,z_=p2:=⟨_,rfl⟩
 rw[zbY]at h
 obtain⟨⟨a5,a6,a7,a8⟩,h1,h⟩:=sm h
 rcases fk h with ⟨h2,h⟩ | ⟨h2,h⟩
 ·cases h
  exact zk Tryd.func85 (zZ (ht.zbZ _ _ h1) (zaG h2 6 (zds 19 ob))) (by kernel_rfl)
 ·have o8 {os} (x:Obls (env Tryd.prog 85 Tryd.f85 (run Tryd.prog own kp X n)) n os):=zZ (ht.zbZ _ _ h1) (zV h2 (zP (zq zh.zl (l:=a2)) (zV h2 x)))
  rcases fk h with ⟨h3,h⟩ | ⟨h3,h⟩
  ·cases h
   exact zk Tryd.func85 (o8 (zaG h3 6 (zds 13 ob))) (by kernel_rfl)
  ·have o15 {os} (x:Obls (env Tryd.prog 85 Tryd.f85 (run Tryd.prog own kp X n)) n os):=o8 (zV h3 (zP (zq zh.zl (l:=a2)) (zV h3 x)))
   rcases fk h with ⟨h4,h⟩ | ⟨h4,h⟩
   ·cases h
    exact zk Tryd.func85 (o15 (zaG h4 6 (zds 7 ob))) (by kernel_rfl)
   ·have o22 {os} (x:Obls (env Tryd.prog 85 Tryd.f85 (run Tryd.prog own kp X n)) n os):=o15 (zV h4 (zP (zq GPred.zl (l:=a3)) (zV h4 x)))
    rcases fk h with ⟨h5,h⟩ | ⟨h5,h⟩
    ·cases h
     exact zk Tryd.func85 (o22 (zaG h5 6 (zds 1 ob))) (by kernel_rfl)
    ·rcases fk h with ⟨h6,h⟩ | ⟨h6,h⟩
     ·cases h
      exact zk Tryd.func85 (o22 (zV h5 (zP (zq GPred.zl (l:=a3)) (zV h5 (zi h6 ob))))) (by kernel_rfl)
     ·obtain⟨a9,rfl⟩:∃z_,z_=r:=⟨_,rfl⟩
      have h7:=h
      exact zk Tryd.func85 (o22 (zV h5 (zP (zq GPred.zl (l:=a3)) (zV h5 (zi h6 (zaw (zde.ok ht n _ _ _ _ _ h7) ob)))))) (by kernel_rfl)
theorem slices_Contains_string.ok {n:Nat} {t:Tab} (ht:TabOk t (run Tryd.prog own kp X n)):∀(p1:List ByteArray) (p2:ByteArray) r,slices_Contains_string t n p1 p2=some r→run Tryd.prog own kp X (n+1) 86 [(Sl 1 (texts p1)),(Sr p2)] []=some ((Bo r),[]):=by
 intro p1 p2 r h
 obtain⟨a1,rfl⟩:∃z_,z_=p1:=⟨_,rfl⟩
 obtain⟨a2,rfl⟩:∃z_,z_=p2:=⟨_,rfl⟩
 rw[slices_Contains_string]at h
 obtain⟨a3,h1,h⟩:=sm h
 cases h
 exact zk Tryd.func86 (zZ (ht.slices_Index_string _ _ _ h1) ob) (by kernel_rfl)
theorem zH.ok {n:Nat} {t:Tab} (ht:TabOk t (run Tryd.prog own kp X n)):∀(p1:List Int) r,zH t n p1=some r→run Tryd.prog own kp X (n+1) 82 [(Sl 1 (zB p1)),(.fn 83 [])] []=some ((Bo r),[]):=by
 intro p1 r h
 obtain⟨a1,rfl⟩:∃z_,z_=p1:=⟨_,rfl⟩
 rw[zH]at h
 obtain⟨a2,h1,h⟩:=sm h
 cases h
 exact zk Tryd.func82 (zZ (ht.zW _ _ h1) ob) (by kernel_rfl)
theorem zbH.okL (ht:TabOk t call) (n:Nat):∀(k:Nat) (a1:ByteArray) (a2 a3:Int) (r:_),zbH t n k a1 a2 a3=some r→loopN (exec (env Tryd.prog 67 Tryd.f67 call) n (sub [1,0,1,0,0] (zt Tryd.f67))) k (mkSt 24 24 [(0,(Sr a1)),(5,(I6 a2)),(6,(I6 a3))] [])=some (zbH.to r)
 | 0,a1,a2,a3,r,h=>by rw[zbH]at h;cases h
 | k+1,a1,a2,a3,r,h=>by
  rw[zbH]at h
  rcases fk h with ⟨h1,h⟩ | ⟨h1,h⟩
  ·obtain⟨a4,h2,h⟩:=sm h
   obtain⟨a5,h3,h⟩:=sm h
   rcases fk h with ⟨h4,h⟩ | ⟨h4,h⟩
   ·exact zT (path (zi h1 (zP (zhu (P:=Tryd.prog) (t:=9) (k:=.i64) (by kernel_rfl) h2) (zZ (ht.zcz _ _ _ h3) (zi (ng h4) ob)))) (by kernel_rfl)) (zbH.okL ht n k _ _ _ _ h)
   ·cases h
    exact zx (path (zi h1 (zP (zhu (P:=Tryd.prog) (t:=9) (k:=.i64) (by kernel_rfl) h2) (zZ (ht.zcz _ _ _ h3) (zi (ng h4) ob)))) (by kernel_rfl)) (fun h=>by cases h)
  ·cases h
   exact zx (path (zi h1 ob) (by kernel_rfl)) (fun h=>by cases h)
theorem zdr.ok (ht:TabOk t call) (n:Nat) (a1:ByteArray) (r:_) (h:zdr t n a1=some r):exec (env Tryd.prog 67 Tryd.f67 call) n (sub [1,1] (zt Tryd.f67)) (mkSt 24 24 [(0,(Sr a1))] [])=some (zdr.to r):=by
 rw[zdr]at h
 rcases fk h with ⟨h1,h⟩ | ⟨h1,h⟩
 ·cases h
  exact path (zaV (ng h1) ob) (by kernel_rfl)
 ·cases h
  exact path (zaV (ng h1) ob) (by kernel_rfl)
theorem zcq.ok {n:Nat} {t:Tab} (ht:TabOk t (run Tryd.prog own kp X n)):∀(p1:ByteArray) r,zcq t n p1=some r→run Tryd.prog own kp X (n+1) 67 [(Sr p1)] []=some ((Bo r),[]):=by
 intro p1 r h
 obtain⟨a1,rfl⟩:∃z_,z_=p1:=⟨_,rfl⟩
 rw[zcq]at h
 obtain⟨a2 | ⟨a3,a4,a5,a6⟩,h1,h⟩:=sm h
 ·cases h
  exact zk Tryd.func67 (zbq (lk (sub [1,0,1,0] (zt Tryd.f67)) (by kernel_rfl) (zbH.okL ht n n _ _ _ _ h1)) ob) (by kernel_rfl)
 ·obtain⟨a7,rfl⟩:∃z_,z_=r:=⟨_,rfl⟩
  have h2:=h
  exact zk Tryd.func67 (zbq (lk (sub [1,0,1,0] (zt Tryd.f67)) (by kernel_rfl) (zbH.okL ht n n _ _ _ _ h1)) (zaw (zdr.ok ht n _ _ h2) ob)) (by kernel_rfl)
theorem cmp_Compare_int.ok {n:Nat} {t:Tab} (ht:TabOk t (run Tryd.prog own kp X n)):∀(p1:Int) (p2:Int) r,cmp_Compare_int t n p1 p2=some r→run Tryd.prog own kp X (n+1) 89 [(I6 p1),(I6 p2)] []=some ((I6 r),[]):=by
 intro p1 p2 r h
 obtain⟨a1,rfl⟩:∃z_,z_=p1:=⟨_,rfl⟩
 obtain⟨a2,rfl⟩:∃z_,z_=p2:=⟨_,rfl⟩
 rw[cmp_Compare_int]at h
 obtain⟨a3,h1,h⟩:=sm h
 obtain⟨a4,h2,h⟩:=sm h
 have o2 {os} (x:Obls (env Tryd.prog 89 Tryd.f89 (run Tryd.prog own kp X n)) n os):=zZ (ht.cmp_isNaN_int _ _ h1) (zZ (ht.cmp_isNaN_int _ _ h2) x)
 rcases fk h with ⟨h3,h⟩ | ⟨h3,h⟩
 ·rcases fk h with ⟨h4,h⟩ | ⟨h4,h⟩
  ·cases h
   exact zk Tryd.func89 (o2 (zi h3 (zi h4 ob))) (by kernel_rfl)
  ·cases h
   exact zk Tryd.func89 (o2 (zi h3 (zi h4 ob))) (by kernel_rfl)
 ·rcases fk h with ⟨h5,h⟩ | ⟨h5,h⟩
  ·cases h
   exact zk Tryd.func89 (o2 (zi h3 (zi h5 ob))) (by kernel_rfl)
  ·rcases fk h with ⟨h6,h⟩ | ⟨h6,h⟩
   ·cases h
    exact zk Tryd.func89 (o2 (zi h3 (zi h5 (zi h6 ob)))) (by kernel_rfl)
   ·rcases fk h with ⟨h7,h⟩ | ⟨h7,h⟩
    ·cases h
     exact zk Tryd.func89 (o2 (zi h3 (zi h5 (zi h6 (zi h7 ob))))) (by kernel_rfl)
    ·cases h
     exact zk Tryd.func89 (o2 (zi h3 (zi h5 (zi h6 (zi h7 ob))))) (by kernel_rfl)
theorem strings_Compare.ok {n:Nat} {t:Tab} (ht:TabOk t (run Tryd.prog own kp X n)):∀(p1:ByteArray) (p2:ByteArray) r,strings_Compare t n p1 p2=some r→run Tryd.prog own kp X (n+1) 90 [(Sr p1),(Sr p2)] []=some ((I6 r),[]):=by
 intro p1 p2 r h
 obtain⟨a1,rfl⟩:∃z_,z_=p1:=⟨_,rfl⟩
 obtain⟨a2,rfl⟩:∃z_,z_=p2:=⟨_,rfl⟩
 rw[strings_Compare]at h
 obtain⟨a3,rfl⟩:∃z_,z_=r:=⟨_,rfl⟩
 have h1:=h
 exact zk Tryd.func90 (zZ (ht.bytealg_CompareString _ _ _ h1) ob) (by kernel_rfl)
theorem zbI.okL (ht:TabOk t call) (n:Nat):∀(k:Nat) (a1:Int) (a2:List Int) (a3 a4:Int) (r:_),zbI t n k a1 a2 a3 a4=some r→loopN (exec (env Tryd.prog 88 Tryd.f88 call) n (sub [1,1,0,1,0,0] (zt Tryd.f88))) k (mkSt 18 18 [(3,(I6 a1)),(6,(Sl 1 (zB a2))),(7,(I6 a3)),(8,(I6 a4))] [])=some (zbI.to r)
 | 0,a1,a2,a3,a4,r,h=>by rw[zbI]at h;cases h
 | k+1,a1,a2,a3,a4,r,h=>by
  rw[zbI]at h
  rcases fk h with ⟨h1,h⟩ | ⟨h1,h⟩
  ·obtain⟨h2,h⟩:=ck h
   obtain⟨a5,h3,h⟩:=sm h
   rcases fk h with ⟨h4,h⟩ | ⟨h4,h⟩
   ·cases h
    exact zx (path (zi h1 (zav h2 (zad (zu zy h3) (zi h4 ob)))) (by kernel_rfl)) (fun h=>by cases h)
   ·exact zT (path (zi h1 (zav h2 (zad (zu zy h3) (zi h4 ob)))) (by kernel_rfl)) (zbI.okL ht n k _ _ _ _ _ h)
  ·cases h
   exact zx (path (zi h1 ob) (by kernel_rfl)) (fun h=>by cases h)
theorem zc0.ok {n:Nat} {t:Tab} (ht:TabOk t (run Tryd.prog own kp X n)):∀(p1:List Int) r,zc0 t n p1=some r→run Tryd.prog own kp X (n+1) 88 [(Sl 1 (zB p1))] []=some ((I6 r),[]):=by
 intro p1 r h
 obtain⟨a1,rfl⟩:∃z_,z_=p1:=⟨_,rfl⟩
 rw[zc0]at h
 obtain⟨a2 | ⟨a3,a4,a5,a6,a7⟩,h1,h⟩:=sm h
 ·cases h
  exact zk Tryd.func88 (zP (zq zy (l:=a1)) (zbq (lk (sub [1,1,0,1,0] (zt Tryd.f88)) (by kernel_rfl) (zbI.okL ht n n _ _ _ _ _ h1)) ob)) (by kernel_rfl)
 ·cases h
  exact zk Tryd.func88 (zP (zq zy (l:=a1)) (zbq (lk (sub [1,1,0,1,0] (zt Tryd.f88)) (by kernel_rfl) (zbI.okL ht n n _ _ _ _ _ h1)) ob)) (by kernel_rfl)
theorem zD.okL (ht:TabOk t call) (n:Nat):∀(k:Nat) (a1 a2:List zh) (a3:Int) (a4:List zh) (a5 a6:Int) (r:_),zD t n k a1 a2 a3 a4 a5 a6=some r→loopN (exec (env Tryd.prog 92 Tryd.f92 call) n (sub [1,0,1,0,0] (zt Tryd.f92))) k (mkSt 39 39 [(0,(Sl 5 (zh.ts a1))),(1,(Sl 5 (zh.ts a2))),(2,(.fn 91 [(.ref (.v (.int .i64 a3)))])),(11,(Sl 5 (zh.ts a4))),(12,(I6 a5)),(13,(I6 a6))] [])=some (zD.to r)
 | 0,a1,a2,a3,a4,a5,a6,r,h=>by rw[zD]at h;cases h
 | k+1,a1,a2,a3,a4,a5,a6,r,h=>by
  rw[zD]at h
  rcases fk h with ⟨h1,h⟩ | ⟨h1,h⟩
  ·obtain⟨h2,h⟩:=ck h
   obtain⟨⟨a7,a8,a9,a10,a11⟩,h3,h⟩:=sm h
   have o4 {os} (x:Obls (env Tryd.prog 92 Tryd.f92 call) n os):=zi h1 (zav h2 (zad (zu zh.zl h3) (zP (zq zh.zl (l:=a2)) x)))
   rcases fk h with ⟨h4,h⟩ | ⟨h4,h⟩
   ·cases h
    exact zx (path (o4 (zi h4 ob)) (by kernel_rfl)) (fun h=>by cases h)
   ·obtain⟨⟨a12,a13,a14,a15,a16⟩,h5,h⟩:=sm h
    obtain⟨a17,h6,h⟩:=sm h
    rcases fk h with ⟨h7,h⟩ | ⟨h7,h⟩
    ·cases h
     exact zx (path (o4 (zi h4 (zav h2 (zad (zu zh.zl h5) (zZ (ht.zaS _ _ _ _ h6) (zi h7 ob)))))) (by kernel_rfl)) (fun h=>by cases h)
    ·exact zT (path (o4 (zi h4 (zav h2 (zad (zu zh.zl h5) (zZ (ht.zaS _ _ _ _ h6) (zi h7 ob)))))) (by kernel_rfl)) (zD.okL ht n k _ _ _ _ _ _ _ h)
  ·cases h
   exact zx (path (zi h1 ob) (by kernel_rfl)) (fun h=>by cases h)
theorem zau.ok (ht:TabOk t call) (n:Nat) (a1 a2:List zh) (r:_) (h:zau t n a1 a2=some r):exec (env Tryd.prog 92 Tryd.f92 call) n (sub [1,1] (zt Tryd.f92)) (mkSt 39 39 [(0,(Sl 5 (zh.ts a1))),(1,(Sl 5 (zh.ts a2)))] [])=some (zau.to r):=by
 rw[zau]at h
 rcases fk h with ⟨h1,h⟩ | ⟨h1,h⟩
 ·cases h
  exact path (zP (zq zh.zl (l:=a1)) (zP (zq zh.zl (l:=a2)) (zi h1 ob))) (by kernel_rfl)
 ·cases h
  exact path (zP (zq zh.zl (l:=a1)) (zP (zq zh.zl (l:=a2)) (zi h1 ob))) (by kernel_rfl)
theorem zI.ok {n:Nat} {t:Tab} (ht:TabOk t (run Tryd.prog own kp X n)):∀(p1:List zh) (p2:List zh) (p3:Int) r,zI t n p1 p2 p3=some r→run Tryd.prog own kp X (n+1) 92 [(Sl 5 (zh.ts p1)),(Sl 5 (zh.ts p2)),(.fn 91 [(.ref (.v (.int .i64 p3)))])] []=some ((I6 r),[]):=by
 intro p1 p2 p3 r h
 obtain⟨a1,rfl⟩:∃z_,z_=p1:=⟨_,rfl⟩
 obtain⟨a2,rfl⟩:∃z_,z_=p2:=⟨_,rfl⟩
 obtain⟨a3,rfl⟩:∃z_,z_=p3:=⟨_,rfl⟩
 rw[zI]at h
 obtain⟨a4 | ⟨a5,a6,a7,a8,a9,a10,a11⟩,h1,h⟩:=sm h
 ·cases h
  exact zk Tryd.func92 (zP (zq zh.zl (l:=a1)) (zbq (lk (sub [1,0,1,0] (zt Tryd.f92)) (by kernel_rfl) (zD.okL ht n n _ _ _ _ _ _ _ h1)) ob)) (by kernel_rfl)
 ·obtain⟨a12,rfl⟩:∃z_,z_=r:=⟨_,rfl⟩
  have h2:=h
  exact zk Tryd.func92 (zP (zq zh.zl (l:=a1)) (zbq (lk (sub [1,0,1,0] (zt Tryd.f92)) (by kernel_rfl) (zD.okL ht n n _ _ _ _ _ _ _ h1)) (zaw (zau.ok ht n _ _ _ h2) ob))) (by kernel_rfl)
theorem zcl.ok {n:Nat} {t:Tab} (ht:TabOk t (run Tryd.prog own kp X n)):∀(p1:ByteArray) r,zcl t n p1=some r→run Tryd.prog own kp X (n+1) 66 [(Sr p1)] []=some ((Bo r),[]):=by
 intro p1 r h
 obtain⟨a1,rfl⟩:∃z_,z_=p1:=⟨_,rfl⟩
 rw[zcl]at h
 obtain⟨a2,h1,h⟩:=sm h
 cases h
 exact zk Tryd.func66 (zZ (ht.zcq _ _ h1) ob) (by kernel_rfl)
theorem zaP.okL (ht:TabOk t call) (n:Nat):∀(k:Nat) (a1:List (List zh)) (a2:Int) (a3:List (List zh)) (a4 a5:Int) (r:_),zaP t n k a1 a2 a3 a4 a5=some r→loopN (exec (env Tryd.prog 94 Tryd.f94 call) n (sub [1,1,0,1,0,0] (zt Tryd.f94))) k (mkSt 36 36 [(0,(Sl 1 (zbS a1))),(3,(I6 a2)),(9,(Sl 1 (zbS a3))),(10,(I6 a4)),(11,(I6 a5))] [])=some (zaP.to r)
 | 0,a1,a2,a3,a4,a5,r,h=>by rw[zaP]at h;cases h
 | k+1,a1,a2,a3,a4,a5,r,h=>by
  rw[zaP]at h
  rcases fk h with ⟨h1,h⟩ | ⟨h1,h⟩
  ·obtain⟨h2,h⟩:=ck h
   obtain⟨a6,h3,h⟩:=sm h
   rcases fk h with ⟨h4,h⟩ | ⟨h4,h⟩
   ·cases h
   ·exact zT (path (zi h1 (zav h2 (zad (zu zdu h3) (zP (zq zh.zl (l:=a6)) (zi h4 ob))))) (by kernel_rfl)) (zaP.okL ht n k _ _ _ _ _ _ h)
  ·cases h
   exact zx (path (zi h1 ob) (by kernel_rfl)) (fun h=>by cases h)
theorem zaQ.okL (ht:TabOk t call) (n:Nat):∀(k:Nat) (a1:List zh) (a2:List (List zh)) (a3 a4:Int) (r:_),zaQ t n k a1 a2 a3 a4=some r→loopN (exec (env Tryd.prog 94 Tryd.f94 call) n (sub [1,1,1,1,0,1,0,0] (zt Tryd.f94))) k (mkSt 36 36 [(6,(.t (.sl true 5 (zh.ts a1)))),(25,(Sl 1 (zbS a2))),(26,(I6 a3)),(27,(I6 a4))] [])=some (zaQ.to r)
 | 0,a1,a2,a3,a4,r,h=>by rw[zaQ]at h;cases h
 | k+1,a1,a2,a3,a4,r,h=>by
  rw[zaQ]at h
  rcases fk h with ⟨h1,h⟩ | ⟨h1,h⟩
  ·obtain⟨h2,h⟩:=ck h
   obtain⟨a5,h3,h⟩:=sm h
   obtain⟨h4,h⟩:=cl h
   exact zT (path (zi h1 (zav h2 (zad (zu zdu h3) (zd0 (zdd zh.zl h4) (zea (zdG zh.zl (a:=a1) (b:=a5)) ob))))) (by kernel_rfl)) (zaQ.okL ht n k _ _ _ _ _ h)
  ·cases h
   exact zx (path (zi h1 ob) (by kernel_rfl)) (fun h=>by cases h)
theorem zbC.ok (ht:TabOk t call) (n:Nat) (a1:List (List zh)) (a2:Int) (r:_) (h:zbC t n a1 a2=some r):exec (env Tryd.prog 94 Tryd.f94 call) n (sub [1,1,1] (zt Tryd.f94)) (mkSt 36 36 [(0,(Sl 1 (zbS a1))),(3,(I6 a2))] [])=some (zbC.to r):=by
 rw[zbC]at h
 obtain⟨a3,h1,h⟩:=sm h
 obtain⟨⟨a4,a5,a6,a7,a8⟩,h2,h⟩:=sm h
 cases h
 exact path (zZ (ht.zdF _ _ _ h1) (zP (zq zdu (l:=a1)) (zbq (lk (sub [1,1,1,1,0,1,0] (zt Tryd.f94)) (by kernel_rfl) (zaQ.okL ht n n _ _ _ _ _ h2)) ob))) (by kernel_rfl)
theorem zaz.ok {n:Nat} {t:Tab} (ht:TabOk t (run Tryd.prog own kp X n)):∀(p1:List (List zh)) r,zaz t n p1=some r→run Tryd.prog own kp X (n+1) 94 [(Sl 1 (zbS p1))] []=some ((Sl 5 (zh.ts r)),[]):=by
 intro p1 r h
 obtain⟨a1,rfl⟩:∃z_,z_=p1:=⟨_,rfl⟩
 rw[zaz]at h
 obtain⟨⟨a2,a3,a4,a5,a6,a7⟩,h1,h⟩:=sm h
 obtain⟨a8,rfl⟩:∃z_,z_=r:=⟨_,rfl⟩
 have h2:=h
 exact zk Tryd.func94 (zP (zq zdu (l:=a1)) (zbq (lk (sub [1,1,0,1,0] (zt Tryd.f94)) (by kernel_rfl) (zaP.okL ht n n _ _ _ _ _ _ h1)) (zaw (zbC.ok ht n _ _ _ h2) ob))) (by kernel_rfl)
theorem zb3.ok (ht:TabOk t call) (n:Nat) (a1:Int) (a2:Bool) (r:_) (h:zb3 t n a1 a2=some r):exec (env Tryd.prog 95 Tryd.f95 call) n (sub [1,0,0,1,1,1,1,1] (zt Tryd.f95)) (mkSt 37 37 [(0,(I6 a1)),(20,(Bo a2))] [])=some (zb3.to r):=by
 rw[zb3]at h
 rcases fk h with ⟨h1,h⟩ | ⟨h1,h⟩
 ·cases h
  exact path (zi h1 ob) (by kernel_rfl)
 ·rcases fk h with ⟨h2,h⟩ | ⟨h2,h⟩
  ·cases h
   exact path (zi h1 (zi h2 ob)) (by kernel_rfl)
  ·rcases fk h with ⟨h3,h⟩ | ⟨h3,h⟩
   ·cases h
    exact path (zi h1 (zi h2 (zV h3 (zds 1 ob)))) (by kernel_rfl)
   ·rcases fk h with ⟨h4,h⟩ | ⟨h4,h⟩
    ·cases h
     exact path (zi h1 (zi h2 (zV h3 (zi h4 ob)))) (by kernel_rfl)
    ·cases h
     exact path (zi h1 (zi h2 (zV h3 (zi h4 ob)))) (by kernel_rfl)
theorem zb4.ok (ht:TabOk t call) (n:Nat) (a1:Int) (a2:Bool) (r:_) (h:zb4 t n a1 a2=some r):exec (env Tryd.prog 95 Tryd.f95 call) n (sub [1,0,0,1,1,1] (zt Tryd.f95)) (mkSt 37 37 [(0,(I6 a1)),(13,(Bo a2))] [])=some (zb4.to r):=by
 rw[zb4]at h
 rcases fk h with ⟨h1,h⟩ | ⟨h1,h⟩
 ·cases h
  exact path (zi h1 ob) (by kernel_rfl)
 ·rcases fk h with ⟨h2,h⟩ | ⟨h2,h⟩
  ·have h3:=h
   rcases r with ⟨a3,a4,a5,a6⟩ | _
   ·exact path (zi h1 (zV h2 (zaw (zb3.ok ht n _ _ _ h3) ob))) (by kernel_rfl)
   ·exact path (zi h1 (zV h2 (zaw (zb3.ok ht n _ _ _ h3) ob))) (by kernel_rfl)
  ·have h4:=h
   rcases r with ⟨a7,a8,a9,a10⟩ | _
   ·exact path (zi h1 (zV h2 (zaw (zb3.ok ht n _ _ _ h4) ob))) (by kernel_rfl)
   ·exact path (zi h1 (zV h2 (zaw (zb3.ok ht n _ _ _ h4) ob))) (by kernel_rfl)
theorem zbd.ok (ht:TabOk t call) (n:Nat) (a1:Int) (a2:Bool) (r:_) (h:zbd t n a1 a2=some r):exec (env Tryd.prog 95 Tryd.f95 call) n (sub [1,0,0,1] (zt Tryd.f95)) (mkSt 37 37 [(0,(I6 a1)),(6,(Bo a2))] [])=some (zbd.to r):=by
 rw[zbd]at h
 rcases fk h with ⟨h1,h⟩ | ⟨h1,h⟩
 ·cases h
  exact path (zi h1 ob) (by kernel_rfl)
 ·rcases fk h with ⟨h2,h⟩ | ⟨h2,h⟩
  ·have h3:=h
   rcases r with ⟨a3,a4,a5,a6⟩ | _
   ·exact path (zi h1 (zV h2 (zaw (zb4.ok ht n _ _ _ h3) ob))) (by kernel_rfl)
   ·exact path (zi h1 (zV h2 (zaw (zb4.ok ht n _ _ _ h3) ob))) (by kernel_rfl)
  ·have h4:=h
   rcases r with ⟨a7,a8,a9,a10⟩ | _
   ·exact path (zi h1 (zV h2 (zaw (zb4.ok ht n _ _ _ h4) ob))) (by kernel_rfl)
   ·exact path (zi h1 (zV h2 (zaw (zb4.ok ht n _ _ _ h4) ob))) (by kernel_rfl)
theorem zbZ.ok {n:Nat} {t:Tab} (ht:TabOk t (run Tryd.prog own kp X n)):∀(p1:Int) r,zbZ t n p1=some r→run Tryd.prog own kp X (n+1) 95 [(I6 p1)] []=some ((.tup [(.v (.int .i64 r.1)),(.v (.int .i64 r.2.1)),(.v (.int .i64 r.2.2.1)),(.v (.int .i64 r.2.2.2))]),[]):=by
 intro p1 r h
 obtain⟨a1,rfl⟩:∃z_,z_=p1:=⟨_,rfl⟩
 rw[zbZ]at h
 rcases fk h with ⟨h1,h⟩ | ⟨h1,h⟩
 ·obtain⟨⟨a2,a3,a4,a5⟩ | _,h2,h⟩:=sm h
  ·cases h
   exact zk Tryd.func95 (zV h1 (zaw (zbd.ok ht n _ _ _ h2) ob)) (by kernel_rfl)
  ·cases h
   exact zk Tryd.func95 (zV h1 (zaw (zbd.ok ht n _ _ _ h2) ob)) (by kernel_rfl)
 ·obtain⟨⟨a6,a7,a8,a9⟩ | _,h3,h⟩:=sm h
  ·cases h
   exact zk Tryd.func95 (zV h1 (zaw (zbd.ok ht n _ _ _ h3) ob)) (by kernel_rfl)
  ·cases h
   exact zk Tryd.func95 (zV h1 (zaw (zbd.ok ht n _ _ _ h3) ob)) (by kernel_rfl)
theorem zM.ok {n:Nat} {t:Tab} (ht:TabOk t (run Tryd.prog own kp X n)):∀(p1:List GPred) (p2:Int) r,zM t n p1 p2=some r→run Tryd.prog own kp X (n+1) 98 [(Sl 3 (GPred.ts p1)),(.fn 96 [(.ref (.v (.int .i64 p2)))])] []=some ((Bo r),[]):=by
 intro p1 p2 r h
 obtain⟨a1,rfl⟩:∃z_,z_=p1:=⟨_,rfl⟩
 obtain⟨a2,rfl⟩:∃z_,z_=p2:=⟨_,rfl⟩
 rw[zM]at h
 obtain⟨a3,h1,h⟩:=sm h
 cases h
 exact zk Tryd.func98 (zZ (ht.zab _ _ _ h1) ob) (by kernel_rfl)
theorem zS.ok {n:Nat} {t:Tab} (ht:TabOk t (run Tryd.prog own kp X n)):∀(p1:List zh) r,zS t n p1=some r→run Tryd.prog own kp X (n+1) 99 [(Sl 5 (zh.ts p1)),(.fn 97 [])] []=some ((Bo r),[]):=by
 intro p1 r h
 obtain⟨a1,rfl⟩:∃z_,z_=p1:=⟨_,rfl⟩
 rw[zS]at h
 obtain⟨a2,h1,h⟩:=sm h
 cases h
 exact zk Tryd.func99 (zZ (ht.zac _ _ h1) ob) (by kernel_rfl)
theorem zas.okL (ht:TabOk t call) (n:Nat):∀(k:Nat) (a1:List ByteArray) (a2:ByteArray) (a3 a4:Int) (r:_),zas t n k a1 a2 a3 a4=some r→loopN (exec (env Tryd.prog 100 Tryd.f100 call) n (sub [1,0,1,0,0] (zt Tryd.f100))) k (mkSt 19 19 [(0,(Sl 1 (texts a1))),(1,(Sr a2)),(7,(I6 a3)),(8,(I6 a4))] [])=some (zas.to r)
 | 0,a1,a2,a3,a4,r,h=>by rw[zas]at h;cases h
 | k+1,a1,a2,a3,a4,r,h=>by
  rw[zas]at h
  rcases fk h with ⟨h1,h⟩ | ⟨h1,h⟩
  ·obtain⟨h2,h⟩:=ck h
   obtain⟨a5,h3,h⟩:=sm h
   rcases fk h with ⟨h4,h⟩ | ⟨h4,h⟩
   ·cases h
    exact zx (path (zi h1 (zav h2 (zad (zu zX h3) (zi h4 ob)))) (by kernel_rfl)) (fun h=>by cases h)
   ·exact zT (path (zi h1 (zav h2 (zad (zu zX h3) (zi h4 ob)))) (by kernel_rfl)) (zas.okL ht n k _ _ _ _ _ h)
  ·cases h
   exact zx (path (zi h1 ob) (by kernel_rfl)) (fun h=>by cases h)
theorem slices_Index_string.ok {n:Nat} {t:Tab} (ht:TabOk t (run Tryd.prog own kp X n)):∀(p1:List ByteArray) (p2:ByteArray) r,slices_Index_string t n p1 p2=some r→run Tryd.prog own kp X (n+1) 100 [(Sl 1 (texts p1)),(Sr p2)] []=some ((I6 r),[]):=by
 intro p1 p2 r h
 obtain⟨a1,rfl⟩:∃z_,z_=p1:=⟨_,rfl⟩
 obtain⟨a2,rfl⟩:∃z_,z_=p2:=⟨_,rfl⟩
 rw[slices_Index_string]at h
 obtain⟨a3 | ⟨a4,a5,a6,a7,a8⟩,h1,h⟩:=sm h
 ·cases h
  exact zk Tryd.func100 (zP (zq zX (l:=a1)) (zbq (lk (sub [1,0,1,0] (zt Tryd.f100)) (by kernel_rfl) (zas.okL ht n n _ _ _ _ _ h1)) ob)) (by kernel_rfl)
 ·cases h
  exact zk Tryd.func100 (zP (zq zX (l:=a1)) (zbq (lk (sub [1,0,1,0] (zt Tryd.f100)) (by kernel_rfl) (zas.okL ht n n _ _ _ _ _ h1)) ob)) (by kernel_rfl)
theorem zJ.okL (ht:TabOk t call) (n:Nat):∀(k:Nat) (a1:List Int) (a2 a3:Int) (r:_),zJ t n k a1 a2 a3=some r→loopN (exec (env Tryd.prog 93 Tryd.f93 call) n (sub [1,0,1,0,0] (zt Tryd.f93))) k (mkSt 19 19 [(0,(Sl 1 (zB a1))),(1,(.fn 83 [])),(7,(I6 a2)),(8,(I6 a3))] [])=some (zJ.to r)
 | 0,a1,a2,a3,r,h=>by rw[zJ]at h;cases h
 | k+1,a1,a2,a3,r,h=>by
  rw[zJ]at h
  rcases fk h with ⟨h1,h⟩ | ⟨h1,h⟩
  ·obtain⟨h2,h⟩:=ck h
   obtain⟨a4,h3,h⟩:=sm h
   obtain⟨a5,h4,h⟩:=sm h
   rcases fk h with ⟨h5,h⟩ | ⟨h5,h⟩
   ·cases h
    exact zx (path (zi h1 (zav h2 (zad (zu zy h3) (zZ (ht.zba _ _ h4) (zi h5 ob))))) (by kernel_rfl)) (fun h=>by cases h)
   ·exact zT (path (zi h1 (zav h2 (zad (zu zy h3) (zZ (ht.zba _ _ h4) (zi h5 ob))))) (by kernel_rfl)) (zJ.okL ht n k _ _ _ _ h)
  ·cases h
   exact zx (path (zi h1 ob) (by kernel_rfl)) (fun h=>by cases h)
theorem zW.ok {n:Nat} {t:Tab} (ht:TabOk t (run Tryd.prog own kp X n)):∀(p1:List Int) r,zW t n p1=some r→run Tryd.prog own kp X (n+1) 93 [(Sl 1 (zB p1)),(.fn 83 [])] []=some ((I6 r),[]):=by
 intro p1 r h
 obtain⟨a1,rfl⟩:∃z_,z_=p1:=⟨_,rfl⟩
 rw[zW]at h
 obtain⟨a2 | ⟨a3,a4,a5,a6⟩,h1,h⟩:=sm h
 ·cases h
  exact zk Tryd.func93 (zP (zq zy (l:=a1)) (zbq (lk (sub [1,0,1,0] (zt Tryd.f93)) (by kernel_rfl) (zJ.okL ht n n _ _ _ _ h1)) ob)) (by kernel_rfl)
 ·cases h
  exact zk Tryd.func93 (zP (zq zy (l:=a1)) (zbq (lk (sub [1,0,1,0] (zt Tryd.f93)) (by kernel_rfl) (zJ.okL ht n n _ _ _ _ h1)) ob)) (by kernel_rfl)
theorem zaJ.ok (ht:TabOk t call) (n:Nat) (a1:Int) (a2 a3:Bool) (r:_) (h:zaJ t n a1 a2 a3=some r):exec (env Tryd.prog 80 Tryd.f80 call) n (sub [1,0,0,0,1] (zt Tryd.f80)) (mkSt 29 29 [(0,(.t (.v (.int .u8 a1)))),(1,(Bo a2)),(5,(Bo a3))] [])=some (zaJ.to r):=by
 rw[zaJ]at h
 rcases fk h with ⟨h1,h⟩ | ⟨h1,h⟩
 ·cases h
  exact path (zi h1 ob) (by kernel_rfl)
 ·rcases fk h with ⟨h2,h⟩ | ⟨h2,h⟩
  ·rcases fk h with ⟨h3,h⟩ | ⟨h3,h⟩
   ·cases h
    exact path (zi h1 (zV h2 (zi h3 ob))) (by kernel_rfl)
   ·cases h
    exact path (zi h1 (zV h2 (zi h3 ob))) (by kernel_rfl)
  ·cases h
   exact path (zi h1 (zV h2 (zi (rfl:false=false) ob))) (by kernel_rfl)
theorem zaK.ok (ht:TabOk t call) (n:Nat) (a1:Int) (a2 a3:Bool) (r:_) (h:zaK t n a1 a2 a3=some r):exec (env Tryd.prog 80 Tryd.f80 call) n (sub [1,0,0,1] (zt Tryd.f80)) (mkSt 29 29 [(0,(.t (.v (.int .u8 a1)))),(1,(Bo a2)),(5,(Bo a3))] [])=some (zaK.to r):=by
 rw[zaK]at h
 rcases fk h with ⟨h1,h⟩ | ⟨h1,h⟩
 ·cases h
  exact path (zi h1 ob) (by kernel_rfl)
 ·rcases fk h with ⟨h2,h⟩ | ⟨h2,h⟩
  ·rcases fk h with ⟨h3,h⟩ | ⟨h3,h⟩
   ·cases h
    exact path (zi h1 (zV h2 (zi h3 ob))) (by kernel_rfl)
   ·cases h
    exact path (zi h1 (zV h2 (zi h3 ob))) (by kernel_rfl)
  ·cases h
   exact path (zi h1 (zV h2 (zi (rfl:false=false) ob))) (by kernel_rfl)
theorem zcz.ok {n:Nat} {t:Tab} (ht:TabOk t (run Tryd.prog own kp X n)):∀(p1:Int) (p2:Bool) r,zcz t n p1 p2=some r→run Tryd.prog own kp X (n+1) 80 [(.t (.v (.int .u8 p1))),(Bo p2)] []=some ((Bo r),[]):=by
 intro p1 p2 r h
 obtain⟨a1,rfl⟩:∃z_,z_=p1:=⟨_,rfl⟩
 obtain⟨a2,rfl⟩:∃z_,z_=p2:=⟨_,rfl⟩
 rw[zcz]at h
 rcases fk h with ⟨h1,h⟩ | ⟨h1,h⟩
 ·obtain⟨⟨a3,a4,a5⟩,h2,h⟩:=sm h
  obtain⟨a6 | _,h3,h⟩:=sm h
  ·cases h
   exact zk Tryd.func80 (zV h1 (zaw (zaJ.ok ht n _ _ _ _ h2) (zaw (zaK.ok ht n _ _ _ _ h3) ob))) (by kernel_rfl)
  ·cases h
   exact zk Tryd.func80 (zV h1 (zaw (zaJ.ok ht n _ _ _ _ h2) (zaw (zaK.ok ht n _ _ _ _ h3) ob))) (by kernel_rfl)
 ·obtain⟨⟨a7,a8,a9⟩,h4,h⟩:=sm h
  obtain⟨a10 | _,h5,h⟩:=sm h
  ·cases h
   exact zk Tryd.func80 (zV h1 (zaw (zaJ.ok ht n _ _ _ _ h4) (zaw (zaK.ok ht n _ _ _ _ h5) ob))) (by kernel_rfl)
  ·cases h
   exact zk Tryd.func80 (zV h1 (zaw (zaJ.ok ht n _ _ _ _ h4) (zaw (zaK.ok ht n _ _ _ _ h5) ob))) (by kernel_rfl)
theorem cmp_isNaN_int.ok {n:Nat} {t:Tab} (ht:TabOk t (run Tryd.prog own kp X n)):∀(p1:Int) r,cmp_isNaN_int t n p1=some r→run Tryd.prog own kp X (n+1) 101 [(I6 p1)] []=some ((Bo r),[]):=by
 intro p1 r h
 obtain⟨a1,rfl⟩:∃z_,z_=p1:=⟨_,rfl⟩
 rw[cmp_isNaN_int]at h
 cases h
 exact zk Tryd.func101 ob (by kernel_rfl)
theorem zaS.ok {n:Nat} {t:Tab} (ht:TabOk t (run Tryd.prog own kp X n)):∀(p1:zh) (p2:zh) (p3:Int) r,zaS t n p1 p2 p3=some r→run Tryd.prog own kp X (n+1) 91 [(.t (zh.t p1)),(.t (zh.t p2)),(.ref (.v (.int .i64 p3)))] []=some ((I6 r),[]):=by
 intro p1 p2 p3 r h
 obtain⟨a1,a2,a3,a4,a5⟩:=p1
 obtain⟨a6,a7,a8,a9,a10⟩:=p2
 obtain⟨a11,rfl⟩:∃z_,z_=p3:=⟨_,rfl⟩
 rw[zaS]at h
 obtain⟨a12,rfl⟩:∃z_,z_=r:=⟨_,rfl⟩
 have h1:=h
 exact zk Tryd.func91 (zZ (ht.zbb _ _ _ _ h1) ob) (by kernel_rfl)
theorem zN.okL (ht:TabOk t call) (n:Nat):∀(k:Nat) (a1:List GPred) (a2 a3 a4:Int) (r:_),zN t n k a1 a2 a3 a4=some r→loopN (exec (env Tryd.prog 104 Tryd.f104 call) n (sub [1,0,1,0,0] (zt Tryd.f104))) k (mkSt 19 19 [(0,(Sl 3 (GPred.ts a1))),(1,(.fn 96 [(.ref (.v (.int .i64 a2)))])),(7,(I6 a3)),(8,(I6 a4))] [])=some (zN.to r)
 | 0,a1,a2,a3,a4,r,h=>by rw[zN]at h;cases h
 | k+1,a1,a2,a3,a4,r,h=>by
  rw[zN]at h
  rcases fk h with ⟨h1,h⟩ | ⟨h1,h⟩
  ·obtain⟨h2,h⟩:=ck h
   obtain⟨⟨a5,a6,a7⟩,h3,h⟩:=sm h
   obtain⟨a8,h4,h⟩:=sm h
   rcases fk h with ⟨h5,h⟩ | ⟨h5,h⟩
   ·cases h
    exact zx (path (zi h1 (zav h2 (zad (zu GPred.zl h3) (zZ (ht.zbP _ _ _ h4) (zi h5 ob))))) (by kernel_rfl)) (fun h=>by cases h)
   ·exact zT (path (zi h1 (zav h2 (zad (zu GPred.zl h3) (zZ (ht.zbP _ _ _ h4) (zi h5 ob))))) (by kernel_rfl)) (zN.okL ht n k _ _ _ _ _ h)
  ·cases h
   exact zx (path (zi h1 ob) (by kernel_rfl)) (fun h=>by cases h)
theorem zab.ok {n:Nat} {t:Tab} (ht:TabOk t (run Tryd.prog own kp X n)):∀(p1:List GPred) (p2:Int) r,zab t n p1 p2=some r→run Tryd.prog own kp X (n+1) 104 [(Sl 3 (GPred.ts p1)),(.fn 96 [(.ref (.v (.int .i64 p2)))])] []=some ((I6 r),[]):=by
 intro p1 p2 r h
 obtain⟨a1,rfl⟩:∃z_,z_=p1:=⟨_,rfl⟩
 obtain⟨a2,rfl⟩:∃z_,z_=p2:=⟨_,rfl⟩
 rw[zab]at h
 obtain⟨a3 | ⟨a4,a5,a6,a7,a8⟩,h1,h⟩:=sm h
 ·cases h
  exact zk Tryd.func104 (zP (zq GPred.zl (l:=a1)) (zbq (lk (sub [1,0,1,0] (zt Tryd.f104)) (by kernel_rfl) (zN.okL ht n n _ _ _ _ _ h1)) ob)) (by kernel_rfl)
 ·cases h
  exact zk Tryd.func104 (zP (zq GPred.zl (l:=a1)) (zbq (lk (sub [1,0,1,0] (zt Tryd.f104)) (by kernel_rfl) (zN.okL ht n n _ _ _ _ _ h1)) ob)) (by kernel_rfl)
theorem zO.okL (ht:TabOk t call) (n:Nat):∀(k:Nat) (a1:List zh) (a2 a3:Int) (r:_),zO t n k a1 a2 a3=some r→loopN (exec (env Tryd.prog 105 Tryd.f105 call) n (sub [1,0,1,0,0] (zt Tryd.f105))) k (mkSt 19 19 [(0,(Sl 5 (zh.ts a1))),(1,(.fn 97 [])),(7,(I6 a2)),(8,(I6 a3))] [])=some (zO.to r)
 | 0,a1,a2,a3,r,h=>by rw[zO]at h;cases h
 | k+1,a1,a2,a3,r,h=>by
  rw[zO]at h
  rcases fk h with ⟨h1,h⟩ | ⟨h1,h⟩
  ·obtain⟨h2,h⟩:=ck h
   obtain⟨⟨a4,a5,a6,a7,a8⟩,h3,h⟩:=sm h
   obtain⟨a9,h4,h⟩:=sm h
   rcases fk h with ⟨h5,h⟩ | ⟨h5,h⟩
   ·cases h
    exact zx (path (zi h1 (zav h2 (zad (zu zh.zl h3) (zZ (ht.zbQ _ _ h4) (zi h5 ob))))) (by kernel_rfl)) (fun h=>by cases h)
   ·exact zT (path (zi h1 (zav h2 (zad (zu zh.zl h3) (zZ (ht.zbQ _ _ h4) (zi h5 ob))))) (by kernel_rfl)) (zO.okL ht n k _ _ _ _ h)
  ·cases h
   exact zx (path (zi h1 ob) (by kernel_rfl)) (fun h=>by cases h)
theorem zac.ok {n:Nat} {t:Tab} (ht:TabOk t (run Tryd.prog own kp X n)):∀(p1:List zh) r,zac t n p1=some r→run Tryd.prog own kp X (n+1) 105 [(Sl 5 (zh.ts p1)),(.fn 97 [])] []=some ((I6 r),[]):=by
 intro p1 r h
 obtain⟨a1,rfl⟩:∃z_,z_=p1:=⟨_,rfl⟩
 rw[zac]at h
 obtain⟨a2 | ⟨a3,a4,a5,a6⟩,h1,h⟩:=sm h
 ·cases h
  exact zk Tryd.func105 (zP (zq zh.zl (l:=a1)) (zbq (lk (sub [1,0,1,0] (zt Tryd.f105)) (by kernel_rfl) (zO.okL ht n n _ _ _ _ h1)) ob)) (by kernel_rfl)
 ·cases h
  exact zk Tryd.func105 (zP (zq zh.zl (l:=a1)) (zbq (lk (sub [1,0,1,0] (zt Tryd.f105)) (by kernel_rfl) (zO.okL ht n n _ _ _ _ h1)) ob)) (by kernel_rfl)
theorem zba.ok {n:Nat} {t:Tab} (ht:TabOk t (run Tryd.prog own kp X n)):∀(p1:Int) r,zba t n p1=some r→run Tryd.prog own kp X (n+1) 83 [(I6 p1)] []=some ((Bo r),[]):=by
 intro p1 r h
 obtain⟨a1,rfl⟩:∃z_,z_=p1:=⟨_,rfl⟩
 rw[zba]at h
 cases h
 exact zk Tryd.func83 ob (by kernel_rfl)
theorem zbP.ok {n:Nat} {t:Tab} (ht:TabOk t (run Tryd.prog own kp X n)):∀(p1:GPred) (p2:Int) r,zbP t n p1 p2=some r→run Tryd.prog own kp X (n+1) 96 [(.t (GPred.t p1)),(.ref (.v (.int .i64 p2)))] []=some ((Bo r),[]):=by
 intro p1 p2 r h
 obtain⟨a1,a2,a3⟩:=p1
 obtain⟨a4,rfl⟩:∃z_,z_=p2:=⟨_,rfl⟩
 rw[zbP]at h
 obtain⟨a5,h1,h⟩:=sm h
 cases h
 exact zk Tryd.func96 (zZ (ht.zbY _ _ _ h1) ob) (by kernel_rfl)
theorem zbQ.ok {n:Nat} {t:Tab} (ht:TabOk t (run Tryd.prog own kp X n)):∀(p1:zh) r,zbQ t n p1=some r→run Tryd.prog own kp X (n+1) 97 [(.t (zh.t p1))] []=some ((Bo r),[]):=by
 intro p1 r h
 obtain⟨a1,a2,a3,a4,a5⟩:=p1
 rw[zbQ]at h
 obtain⟨a6,h1,h⟩:=sm h
 cases h
 exact zk Tryd.func97 (zZ (ht.zbA _ _ h1) ob) (by kernel_rfl)
end Go.Proofs.YtgmidllbkjdnnaaDoor.W
