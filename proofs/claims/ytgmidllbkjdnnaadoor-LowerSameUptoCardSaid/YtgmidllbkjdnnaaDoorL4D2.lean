/- The proofs of it, part 2. -/
import Derived.Test.YtgmidllbkjdnnaaDoorL4D1
namespace Go.Proofs.YtgmidllbkjdnnaaDoor.W
open Go.Proofs.YtgmidllbkjdnnaaDoor.Flat
set_option linter.unusedVariables false
set_option linter.unusedSimpArgs false
set_option smartUnfolding false
attribute [local irreducible] zaK zaL zdc zdb zbH zbl za7 zbG zcZ zb4 zao zaz zb2 zbr zds quoI zcW zcX zdd zbb zc2 zcC zcY zbw zcs zcH zcG zcF strAt zaT
variable {t:Tab} {call:FuncId→List AV→List AV→Option (AV × List AV)}
theorem zbB.ok {n:Nat} {t:Tab} (ht:TabOk t (run Tryd.prog own kp X n)):∀(p1:GStep) r,zbB t n p1=some r→run Tryd.prog own kp X (n+1) 70 [(.t (GStep.t p1))] []=some ((Bo r),[]):=by
 intro p1 r h
 obtain⟨a1,a2,a3,⟨a4,a5,a6,a7,a8⟩,⟨a9,a10,a11⟩,a12,a13,a14⟩:=p1
 rw[zbB]at h
 rcases fk h with ⟨h1,h⟩ | ⟨h1,h⟩
 ·obtain⟨h2,h⟩:=ck h
  obtain⟨a15,h3,h⟩:=sm h
  rcases fk h with ⟨h4,h⟩ | ⟨h4,h⟩
  ·obtain⟨h5,h⟩:=ck h
   obtain⟨a16,h6,h⟩:=sm h
   rcases fk h with ⟨h7,h⟩ | ⟨h7,h⟩
   ·cases h
    exact zi Tryd.func70 (zk h1 (zaq h2 (zan (zu zw h3) (zV h4 (zaq h5 (zan (zu zw h6) (zV h4 (zax h7 9 (zk h4 (zk h7 (zk h4 ob))))))))))) (by kernel_rfl)
   ·cases h
    exact zi Tryd.func70 (zk h1 (zaq h2 (zan (zu zw h3) (zV h4 (zaq h5 (zan (zu zw h6) (zV h4 (zV h7 (zaq h5 (zan (zu zw h6) (za1 h7 (zaq h2 (zan (zu zw h3) (zaG h7 (zk h4 (zk h7 (zk h4 ob))))))))))))))))) (by kernel_rfl)
  ·cases h
   exact zi Tryd.func70 (zk h1 (zaq h2 (zan (zu zw h3) (zax h4 8 ob)))) (by kernel_rfl)
 ·rcases fk h with ⟨h8,h⟩ | ⟨h8,h⟩
  ·obtain⟨h9,h⟩:=ck h
   obtain⟨a17,h10,h⟩:=sm h
   have o4 {os} (x:Obls (env Tryd.prog 70 Tryd.f70 (run Tryd.prog own kp X n)) n os):=zk h1 (zk h8 (zaq h9 (zan (zu zw h10) x)))
   rcases fk h with ⟨h11,h⟩ | ⟨h11,h⟩
   ·obtain⟨h12,h⟩:=ck h
    obtain⟨a18,h13,h⟩:=sm h
    have o12 {os} (x:Obls (env Tryd.prog 70 Tryd.f70 (run Tryd.prog own kp X n)) n os):=o4 (zV h11 (zaq h12 (zan (zu zw h13) (zV h11 x))))
    rcases fk h with ⟨h14,h⟩ | ⟨h14,h⟩
    ·have o20 {os} (x:Obls (env Tryd.prog 70 Tryd.f70 (run Tryd.prog own kp X n)) n os):=o12 (zV h14 (zaq h12 (zan (zu zw h13) (zV h14 x))))
     rcases fk h with ⟨h15,h⟩ | ⟨h15,h⟩
     ·rcases fk h with ⟨h16,h⟩ | ⟨h16,h⟩
      ·cases h
       exact zi Tryd.func70 (o20 (zV h15 (zG (zo zy (l:=a12)) (zaG h15 (zax h16 5 (zk h15 (zk h16 (zk h15 ob)))))))) (by kernel_rfl)
      ·cases h
       exact zi Tryd.func70 (o20 (zV h15 (zG (zo zy (l:=a12)) (zaG h15 (zV h16 (zaq h9 (zan (zu zw h10) (zaG h16 (zk h15 (zk h16 (zk h15 ob))))))))))) (by kernel_rfl)
     ·cases h
      exact zi Tryd.func70 (o20 (zax h15 7 ob)) (by kernel_rfl)
    ·cases h
     exact zi Tryd.func70 (o12 (zax h14 6 (zax (rfl:false=false) 7 ob))) (by kernel_rfl)
   ·cases h
    exact zi Tryd.func70 (o4 (zax h11 6 (zax (rfl:false=false) 13 ob))) (by kernel_rfl)
  ·rcases fk h with ⟨h17,h⟩ | ⟨h17,h⟩
   ·obtain⟨a19 | _,h18,h⟩:=sm h
    ·cases h
     exact zi Tryd.func70 (zk h1 (zk h8 (zk h17 (zau (zao.ok ht n _ _ _ _ _ _ _ _ _ _ _ _ _ _ _ _ h18) ob)))) (by kernel_rfl)
    ·cases h
     exact zi Tryd.func70 (zk h1 (zk h8 (zk h17 (zau (zao.ok ht n _ _ _ _ _ _ _ _ _ _ _ _ _ _ _ _ h18) ob)))) (by kernel_rfl)
   ·rcases fk h with ⟨h19,h⟩ | ⟨h19,h⟩
    ·obtain⟨a20 | _,h20,h⟩:=sm h
     ·cases h
      exact zi Tryd.func70 (zk h1 (zk h8 (zk h17 (zk h19 (zau (zao.ok ht n _ _ _ _ _ _ _ _ _ _ _ _ _ _ _ _ h20) ob))))) (by kernel_rfl)
     ·cases h
      exact zi Tryd.func70 (zk h1 (zk h8 (zk h17 (zk h19 (zau (zao.ok ht n _ _ _ _ _ _ _ _ _ _ _ _ _ _ _ _ h20) ob))))) (by kernel_rfl)
    ·rcases fk h with ⟨h21,h⟩ | ⟨h21,h⟩
     ·obtain⟨a21 | _,h22,h⟩:=sm h
      ·cases h
       exact zi Tryd.func70 (zk h1 (zk h8 (zk h17 (zk h19 (zk h21 (zau (zao.ok ht n _ _ _ _ _ _ _ _ _ _ _ _ _ _ _ _ h22) ob)))))) (by kernel_rfl)
      ·cases h
       exact zi Tryd.func70 (zk h1 (zk h8 (zk h17 (zk h19 (zk h21 (zau (zao.ok ht n _ _ _ _ _ _ _ _ _ _ _ _ _ _ _ _ h22) ob)))))) (by kernel_rfl)
     ·obtain⟨a22 | _,h23,h⟩:=sm h
      ·cases h
       exact zi Tryd.func70 (zk h1 (zk h8 (zk h17 (zk h19 (zk h21 (zau (zao.ok ht n _ _ _ _ _ _ _ _ _ _ _ _ _ _ _ _ h23) ob)))))) (by kernel_rfl)
      ·cases h
       exact zi Tryd.func70 (zk h1 (zk h8 (zk h17 (zk h19 (zk h21 (zau (zao.ok ht n _ _ _ _ _ _ _ _ _ _ _ _ _ _ _ _ h23) ob)))))) (by kernel_rfl)
theorem zbz.ok (ht:TabOk t call) (n:Nat) (a1 a2:Int) (a3:ByteArray) (a4:List GStep) (a5:Bool) (r:_) (h:zbz t n a1 a2 a3 a4 a5=some r):exec (env Tryd.prog 75 Tryd.f75 call) n (sub [1,1] (zt Tryd.f75)) (mkSt 50 50 [(2,(I6 a1)),(3,(.ptr 3 0 [] 0))] [(3,(.t (.st [(.v (.int .i64 a2)),(.v (.string a3)),(.sl false 14 (GStep.ts a4)),(.v (.bool a5))])))])=some (zbz.to r):=by
 rw[zbz]at h
 rcases fk h with ⟨h1,h⟩ | ⟨h1,h⟩
 ·cases h
  exact path (zk h1 ob) (by kernel_rfl)
 ·rcases fk h with ⟨h2,h⟩ | ⟨h2,h⟩
  ·obtain⟨a6,rfl⟩:∃z_,z_=r:=⟨_,rfl⟩
   have h3:=h
   exact path (zk h1 (zk h2 (zaa (ht.zcP _ _ h3) ob))) (by kernel_rfl)
  ·rcases fk h with ⟨h4,h⟩ | ⟨h4,h⟩
   ·obtain⟨a7,rfl⟩:∃z_,z_=r:=⟨_,rfl⟩
    have h5:=h
    exact path (zk h1 (zk h2 (zk h4 (zaa (ht.za5 _ _ _ h5) ob)))) (by kernel_rfl)
   ·cases h
    exact path (zk h1 (zk h2 (zk h4 ob))) (by kernel_rfl)
theorem zdJ.ok {n:Nat} {t:Tab} (ht:TabOk t (run Tryd.prog own kp X n)):∀(p1:GBy) (p2:Bool) (p3:Int) r,zdJ t n p1 p2 p3=some r→run Tryd.prog own kp X (n+1) 75 [(.t (GBy.t p1)),(Bo p2),(I6 p3)] []=some ((Bo r),[]):=by
 intro p1 p2 p3 r h
 obtain⟨a1,a2,a3,a4⟩:=p1
 obtain⟨a5,rfl⟩:∃z_,z_=p2:=⟨_,rfl⟩
 obtain⟨a6,rfl⟩:∃z_,z_=p3:=⟨_,rfl⟩
 rw[zdJ]at h
 rcases fk h with ⟨h1,h⟩ | ⟨h1,h⟩
 ·have o3 {os} (x:Obls (env Tryd.prog 75 Tryd.f75 (run Tryd.prog own kp X n)) n os):=zV h1 x
  rcases fk h with ⟨h2,h⟩ | ⟨h2,h⟩
  ·have o7 {os} (x:Obls (env Tryd.prog 75 Tryd.f75 (run Tryd.prog own kp X n)) n os):=o3 (za1 (ng h2) x)
   rcases fk h with ⟨h3,h⟩ | ⟨h3,h⟩
   ·have o13 {os} (x:Obls (env Tryd.prog 75 Tryd.f75 (run Tryd.prog own kp X n)) n os):=o7 (zV h3 (zk (ng h2) (zk h3 (zk (ng h2) x))))
    rcases fk h with ⟨h4,h⟩ | ⟨h4,h⟩
    ·rcases fk h with ⟨h5,h⟩ | ⟨h5,h⟩
     ·have o25 {os} (x:Obls (env Tryd.prog 75 Tryd.f75 (run Tryd.prog own kp X n)) n os):=o13 (za1 (ng h4) (zV h5 (zG (zo GStep.zl (l:=a3)) (zk h5 (zk (ng h4) (zk h5 (zk (ng h4) x)))))))
      rcases fk h with ⟨h6,h⟩ | ⟨h6,h⟩
      ·cases h
       exact zi Tryd.func75 (o25 (zk h6 ob)) (by kernel_rfl)
      ·obtain⟨a7,rfl⟩:∃z_,z_=r:=⟨_,rfl⟩
       have h7:=h
       exact zi Tryd.func75 (o25 (zk h6 (zau (zbz.ok ht n _ _ _ _ _ _ h7) ob))) (by kernel_rfl)
     ·obtain⟨a8,rfl⟩:∃z_,z_=r:=⟨_,rfl⟩
      have h8:=h
      exact zi Tryd.func75 (o13 (za1 (ng h4) (za1 h5 (zk (ng h4) (zk h5 (zk (ng h4) (zk (rfl:false=false) (zau (zbz.ok ht n _ _ _ _ _ _ h8) ob)))))))) (by kernel_rfl)
    ·cases h
     exact zi Tryd.func75 (o13 (zax (ng h4) 6 (zdp 1 ob))) (by kernel_rfl)
   ·have o17 {os} (x:Obls (env Tryd.prog 75 Tryd.f75 (run Tryd.prog own kp X n)) n os):=o7 (zV h3 (zk (ng h2) (zk h3 (zk (ng h2) (za1 (rfl:false=false) x)))))
    rcases fk h with ⟨h9,h⟩ | ⟨h9,h⟩
    ·rcases fk h with ⟨h10,h⟩ | ⟨h10,h⟩
     ·cases h
      exact zi Tryd.func75 (o17 (zV h9 (zG (zo GStep.zl (l:=a3)) (zk h9 (zk (rfl:false=false) (zk h9 (zk (rfl:false=false) (zk h10 ob)))))))) (by kernel_rfl)
     ·obtain⟨a9,rfl⟩:∃z_,z_=r:=⟨_,rfl⟩
      have h11:=h
      exact zi Tryd.func75 (o17 (zV h9 (zG (zo GStep.zl (l:=a3)) (zk h9 (zk (rfl:false=false) (zk h9 (zk (rfl:false=false) (zk h10 (zau (zbz.ok ht n _ _ _ _ _ _ h11) ob))))))))) (by kernel_rfl)
    ·obtain⟨a10,rfl⟩:∃z_,z_=r:=⟨_,rfl⟩
     have h12:=h
     exact zi Tryd.func75 (o17 (za1 h9 (zk (rfl:false=false) (zk h9 (zaG (rfl:false=false) (zau (zbz.ok ht n _ _ _ _ _ _ h12) ob)))))) (by kernel_rfl)
  ·cases h
   exact zi Tryd.func75 (o3 (zax (ng h2) 6 (zdp 7 ob))) (by kernel_rfl)
 ·have o7 {os} (x:Obls (env Tryd.prog 75 Tryd.f75 (run Tryd.prog own kp X n)) n os):=zV h1 (za1 (rfl:false=false) x)
  rcases fk h with ⟨h13,h⟩ | ⟨h13,h⟩
  ·have o13 {os} (x:Obls (env Tryd.prog 75 Tryd.f75 (run Tryd.prog own kp X n)) n os):=o7 (zV h13 (zk (rfl:false=false) (zk h13 (zk (rfl:false=false) x))))
   rcases fk h with ⟨h14,h⟩ | ⟨h14,h⟩
   ·rcases fk h with ⟨h15,h⟩ | ⟨h15,h⟩
    ·have o25 {os} (x:Obls (env Tryd.prog 75 Tryd.f75 (run Tryd.prog own kp X n)) n os):=o13 (za1 (ng h14) (zV h15 (zG (zo GStep.zl (l:=a3)) (zk h15 (zk (ng h14) (zk h15 (zk (ng h14) x)))))))
     rcases fk h with ⟨h16,h⟩ | ⟨h16,h⟩
     ·cases h
      exact zi Tryd.func75 (o25 (zk h16 ob)) (by kernel_rfl)
     ·obtain⟨a11,rfl⟩:∃z_,z_=r:=⟨_,rfl⟩
      have h17:=h
      exact zi Tryd.func75 (o25 (zk h16 (zau (zbz.ok ht n _ _ _ _ _ _ h17) ob))) (by kernel_rfl)
    ·obtain⟨a12,rfl⟩:∃z_,z_=r:=⟨_,rfl⟩
     have h18:=h
     exact zi Tryd.func75 (o13 (za1 (ng h14) (za1 h15 (zk (ng h14) (zk h15 (zk (ng h14) (zk (rfl:false=false) (zau (zbz.ok ht n _ _ _ _ _ _ h18) ob)))))))) (by kernel_rfl)
   ·cases h
    exact zi Tryd.func75 (o13 (zax (ng h14) 6 (zdp 1 ob))) (by kernel_rfl)
  ·have o17 {os} (x:Obls (env Tryd.prog 75 Tryd.f75 (run Tryd.prog own kp X n)) n os):=o7 (zV h13 (zk (rfl:false=false) (zk h13 (zax (rfl:false=false) 5 x))))
   rcases fk h with ⟨h19,h⟩ | ⟨h19,h⟩
   ·rcases fk h with ⟨h20,h⟩ | ⟨h20,h⟩
    ·cases h
     exact zi Tryd.func75 (o17 (zV h19 (zG (zo GStep.zl (l:=a3)) (zk h19 (zk (rfl:false=false) (zk h19 (zk (rfl:false=false) (zk h20 ob)))))))) (by kernel_rfl)
    ·obtain⟨a13,rfl⟩:∃z_,z_=r:=⟨_,rfl⟩
     have h21:=h
     exact zi Tryd.func75 (o17 (zV h19 (zG (zo GStep.zl (l:=a3)) (zk h19 (zk (rfl:false=false) (zk h19 (zk (rfl:false=false) (zk h20 (zau (zbz.ok ht n _ _ _ _ _ _ h21) ob))))))))) (by kernel_rfl)
   ·obtain⟨a14,rfl⟩:∃z_,z_=r:=⟨_,rfl⟩
    have h22:=h
    exact zi Tryd.func75 (o17 (za1 h19 (zk (rfl:false=false) (zk h19 (zaG (rfl:false=false) (zau (zbz.ok ht n _ _ _ _ _ _ h22) ob)))))) (by kernel_rfl)
theorem zdl.ok (ht:TabOk t call) (n:Nat) (a1 a2:Int) (a3:ByteArray) (a4 a5:List zh) (a6 a7:Int) (a8:ByteArray) (a9 a10:List zh) (a11:Int) (r:_) (h:zdl t n a1 a2 a3 a4 a5 a6 a7 a8 a9 a10 a11=some r):exec (env Tryd.prog 78 Tryd.f78 call) n (sub [1,1] (zt Tryd.f78)) (mkSt 48 48 [(3,(.ptr 3 0 [] 0)),(4,(.ptr 4 0 [] 0)),(5,(.ptr 5 0 [] 0))] [(3,(.t (.st [(.v (.int .i64 a1)),(.v (.int .i64 a2)),(.v (.string a3)),(.sl false 5 (zh.ts a4)),(.sl false 5 (zh.ts a5))]))),(4,(.t (.st [(.v (.int .i64 a6)),(.v (.int .i64 a7)),(.v (.string a8)),(.sl false 5 (zh.ts a9)),(.sl false 5 (zh.ts a10))]))),(5,(I6 a11))])=some (zdl.to r):=by
 rw[zdl]at h
 obtain⟨a12,h1,h⟩:=sm h
 obtain⟨a13,h2,h⟩:=sm h
 obtain⟨a14,rfl⟩:∃z_,z_=r:=⟨_,rfl⟩
 have h3:=h
 exact path (zaa (ht.zJ _ _ _ _ h1) (zaa (ht.zJ _ _ _ _ h2) (zaa (ht.zdi _ _ h3) ob))) (by kernel_rfl)
theorem zbp.ok {n:Nat} {t:Tab} (ht:TabOk t (run Tryd.prog own kp X n)):∀(p1:zh) (p2:zh) (p3:Int) r,zbp t n p1 p2 p3=some r→run Tryd.prog own kp X (n+1) 78 [(.t (zh.t p1)),(.t (zh.t p2)),(I6 p3)] []=some ((I6 r),[]):=by
 intro p1 p2 p3 r h
 obtain⟨a1,a2,a3,a4,a5⟩:=p1
 obtain⟨a6,a7,a8,a9,a10⟩:=p2
 obtain⟨a11,rfl⟩:∃z_,z_=p3:=⟨_,rfl⟩
 rw[zbp]at h
 obtain⟨a12,h1,h⟩:=sm h
 obtain⟨a13,h2,h⟩:=sm h
 obtain⟨a14,h3,h⟩:=sm h
 obtain⟨a15,h4,h⟩:=sm h
 have o4 {os} (x:Obls (env Tryd.prog 78 Tryd.f78 (run Tryd.prog own kp X n)) n os):=zaa (ht.cmp_Compare_int _ _ _ h1) (zaa (ht.cmp_Compare_int _ _ _ h2) (zaa (ht.strings_Compare _ _ _ h3) (zaa (ht.zdi _ _ h4) x)))
 rcases fk h with ⟨h5,h⟩ | ⟨h5,h⟩
 ·cases h
  exact zi Tryd.func78 (o4 (zV h5 (zdp 1 ob))) (by kernel_rfl)
 ·rcases fk h with ⟨h6,h⟩ | ⟨h6,h⟩
  ·cases h
   exact zi Tryd.func78 (o4 (zV h5 (zk h6 ob))) (by kernel_rfl)
  ·obtain⟨a16,rfl⟩:∃z_,z_=r:=⟨_,rfl⟩
   have h7:=h
   exact zi Tryd.func78 (o4 (zV h5 (zk h6 (zau (zdl.ok ht n _ _ _ _ _ _ _ _ _ _ _ _ h7) ob)))) (by kernel_rfl)
theorem zT.okL (ht:TabOk t call) (n:Nat):∀(k:Nat) (a1:List ByteArray) (a2 a3:Int) (r:_),zT t n k a1 a2 a3=some r→loopN (exec (env Tryd.prog 81 Tryd.f81 call) n (sub [1,0,1,0,0] (zt Tryd.f81))) k (mkSt 19 19 [(0,(Sl 1 (texts a1))),(1,(.fn 66 [])),(7,(I6 a2)),(8,(I6 a3))] [])=some (zT.to r)
 | 0,a1,a2,a3,r,h=>by rw[zT]at h;cases h
 | k+1,a1,a2,a3,r,h=>by
  rw[zT]at h
  rcases fk h with ⟨h1,h⟩ | ⟨h1,h⟩
  ·obtain⟨h2,h⟩:=ck h
   obtain⟨a4,h3,h⟩:=sm h
   obtain⟨a5,h4,h⟩:=sm h
   rcases fk h with ⟨h5,h⟩ | ⟨h5,h⟩
   ·cases h
    exact zx (path (zk h1 (zaq h2 (zan (zu zF h3) (zaa (ht.zcK _ _ h4) (zk h5 ob))))) (by kernel_rfl)) (fun h=>by cases h)
   ·exact zM (path (zk h1 (zaq h2 (zan (zu zF h3) (zaa (ht.zcK _ _ h4) (zk h5 ob))))) (by kernel_rfl)) (zT.okL ht n k _ _ _ _ h)
  ·cases h
   exact zx (path (zk h1 ob) (by kernel_rfl)) (fun h=>by cases h)
theorem zal.ok {n:Nat} {t:Tab} (ht:TabOk t (run Tryd.prog own kp X n)):∀(p1:List ByteArray) r,zal t n p1=some r→run Tryd.prog own kp X (n+1) 81 [(Sl 1 (texts p1)),(.fn 66 [])] []=some ((I6 r),[]):=by
 intro p1 r h
 obtain⟨a1,rfl⟩:∃z_,z_=p1:=⟨_,rfl⟩
 rw[zal]at h
 obtain⟨a2 | ⟨a3,a4,a5,a6⟩,h1,h⟩:=sm h
 ·cases h
  exact zi Tryd.func81 (zG (zo zF (l:=a1)) (zbj (lk (sub [1,0,1,0] (zt Tryd.f81)) (by kernel_rfl) (zT.okL ht n n _ _ _ _ h1)) ob)) (by kernel_rfl)
 ·cases h
  exact zi Tryd.func81 (zG (zo zF (l:=a1)) (zbj (lk (sub [1,0,1,0] (zt Tryd.f81)) (by kernel_rfl) (zT.okL ht n n _ _ _ _ h1)) ob)) (by kernel_rfl)
theorem zaE.okL (ht:TabOk t call) (n:Nat):∀(k:Nat) (a1:Int) (a2:List zh) (a3 a4 a5 a6:Int) (a7:ByteArray) (a8 a9:List zh) (r:_),zaE t n k a1 a2 a3 a4 a5 a6 a7 a8 a9=some r→loopN (exec (env Tryd.prog 84 Tryd.f84 call) n (sub [1,1,1,1,1,1,0,1,0,0] (zt Tryd.f84))) k (mkSt 147 147 [(1,(I6 a1)),(2,(.ptr 2 0 [] 0)),(109,(Sl 5 (zh.ts a2))),(110,(I6 a3)),(111,(I6 a4))] [(2,(.t (.st [(.v (.int .i64 a5)),(.v (.int .i64 a6)),(.v (.string a7)),(.sl false 5 (zh.ts a8)),(.sl false 5 (zh.ts a9))])))])=some (zaE.to r)
 | 0,a1,a2,a3,a4,a5,a6,a7,a8,a9,r,h=>by rw[zaE]at h;cases h
 | k+1,a1,a2,a3,a4,a5,a6,a7,a8,a9,r,h=>by
  rw[zaE]at h
  rcases fk h with ⟨h1,h⟩ | ⟨h1,h⟩
  ·obtain⟨h2,h⟩:=ck h
   obtain⟨⟨a10,a11,a12,a13,a14⟩,h3,h⟩:=sm h
   obtain⟨a15,h4,h⟩:=sm h
   have o4 {os} (x:Obls (env Tryd.prog 84 Tryd.f84 call) n os):=zk h1 (zaq h2 (zan (zu zh.zl h3) (zaa (ht.zbq _ _ _ h4) x)))
   rcases fk h with ⟨h5,h⟩ | ⟨h5,h⟩
   ·rcases fk h with ⟨h6,h⟩ | ⟨h6,h⟩
    ·rcases fk h with ⟨h7,h⟩ | ⟨h7,h⟩
     ·have o15 {os} (x:Obls (env Tryd.prog 84 Tryd.f84 call) n os):=o4 (zk (ng h5) (zV h6 (za1 h7 (zG (zo zh.zl (l:=a8)) (zaG h7 x)))))
      rcases fk h with ⟨h8,h⟩ | ⟨h8,h⟩
      ·obtain⟨h9,h⟩:=ck h
       obtain⟨⟨a16,a17,a18,a19,a20⟩,h10,h⟩:=sm h
       obtain⟨a21,h11,h⟩:=sm h
       have o28 {os} (x:Obls (env Tryd.prog 84 Tryd.f84 call) n os):=o15 (zax h8 5 (zaq h9 (zan (zu zh.zl h10) (zV h8 (zaa (ht.zdy _ _ _ h11) (zaG h8 x))))))
       rcases fk h with ⟨h12,h⟩ | ⟨h12,h⟩
       ·cases h
        exact zx (path (o28 (zk h12 ob)) (by kernel_rfl)) (fun h=>by cases h)
       ·exact zM (path (o28 (zk h12 ob)) (by kernel_rfl)) (zaE.okL ht n k _ _ _ _ _ _ _ _ _ _ h)
      ·exact zM (path (o15 (zax h8 10 (zk (rfl:false=false) ob))) (by kernel_rfl)) (zaE.okL ht n k _ _ _ _ _ _ _ _ _ _ h)
     ·exact zM (path (o4 (zk (ng h5) (zV h6 (zax h7 6 (zax (rfl:false=false) 11 ob))))) (by kernel_rfl)) (zaE.okL ht n k _ _ _ _ _ _ _ _ _ _ h)
    ·exact zM (path (o4 (zk (ng h5) (zV h6 (zax (rfl:false=false) 17 ob)))) (by kernel_rfl)) (zaE.okL ht n k _ _ _ _ _ _ _ _ _ _ h)
   ·cases h
    exact zx (path (o4 (zk (ng h5) ob)) (by kernel_rfl)) (fun h=>by cases h)
  ·cases h
   exact zx (path (zk h1 ob) (by kernel_rfl)) (fun h=>by cases h)
theorem zba.ok (ht:TabOk t call) (n:Nat) (a1 a2 a3:Int) (a4:ByteArray) (a5 a6:List zh) (r:_) (h:zba t n a1 a2 a3 a4 a5 a6=some r):exec (env Tryd.prog 84 Tryd.f84 call) n (sub [1,1,1,1,1,1] (zt Tryd.f84)) (mkSt 147 147 [(1,(I6 a1)),(2,(.ptr 2 0 [] 0))] [(2,(.t (.st [(.v (.int .i64 a2)),(.v (.int .i64 a3)),(.v (.string a4)),(.sl false 5 (zh.ts a5)),(.sl false 5 (zh.ts a6))])))])=some (zba.to r):=by
 rw[zba]at h
 obtain⟨a7,h1,h⟩:=sm h
 obtain⟨a8 | ⟨a9,a10,a11,a12,a13,a14,a15,a16,a17,a18⟩,h2,h⟩:=sm h
 ·cases h
  exact path (zaa (ht.zav _ _ h1) (zG (zo zh.zl (l:=a7)) (zbj (lk (sub [1,1,1,1,1,1,0,1,0] (zt Tryd.f84)) (by kernel_rfl) (zaE.okL ht n n _ _ _ _ _ _ _ _ _ _ h2)) ob))) (by kernel_rfl)
 ·cases h
  exact path (zaa (ht.zav _ _ h1) (zG (zo zh.zl (l:=a7)) (zbj (lk (sub [1,1,1,1,1,1,0,1,0] (zt Tryd.f84)) (by kernel_rfl) (zaE.okL ht n n _ _ _ _ _ _ _ _ _ _ h2)) ob))) (by kernel_rfl)
theorem zbS.ok (ht:TabOk t call) (n:Nat) (a1 a2 a3:Int) (a4:ByteArray) (a5 a6:List zh) (r:_) (h:zbS t n a1 a2 a3 a4 a5 a6=some r):exec (env Tryd.prog 84 Tryd.f84 call) n (sub [1,1,1,1,1] (zt Tryd.f84)) (mkSt 147 147 [(1,(I6 a1)),(2,(.ptr 2 0 [] 0))] [(2,(.t (.st [(.v (.int .i64 a2)),(.v (.int .i64 a3)),(.v (.string a4)),(.sl false 5 (zh.ts a5)),(.sl false 5 (zh.ts a6))])))])=some (zbS.to r):=by
 rw[zbS]at h
 rcases fk h with ⟨h1,h⟩ | ⟨h1,h⟩
 ·cases h
  exact path (zG (zo zh.zl (l:=a5)) (zax h1 6 (zdp 7 ob))) (by kernel_rfl)
 ·have o5 {os} (x:Obls (env Tryd.prog 84 Tryd.f84 call) n os):=zG (zo zh.zl (l:=a5)) (za1 h1 x)
  rcases fk h with ⟨h2,h⟩ | ⟨h2,h⟩
  ·have o17 {os} (x:Obls (env Tryd.prog 84 Tryd.f84 call) n os):=o5 (zV h2 (zG (zo zh.zl (l:=a6)) (zV h2 (zG (zo zh.zl (l:=a5)) (zk h2 (zk h1 (zk h2 (zk h1 x))))))))
   rcases fk h with ⟨h3,h⟩ | ⟨h3,h⟩
   ·cases h
    exact path (o17 (zax h3 6 (zdp 1 ob))) (by kernel_rfl)
   ·rcases fk h with ⟨h4,h⟩ | ⟨h4,h⟩
    ·rcases fk h with ⟨h5,h⟩ | ⟨h5,h⟩
     ·cases h
      exact path (o17 (za1 h3 (zV h4 (zG (zo zh.zl (l:=a6)) (zk h4 (zk h3 (zk h4 (zk h3 (zk h5 ob))))))))) (by kernel_rfl)
     ·obtain⟨a7,rfl⟩:∃z_,z_=r:=⟨_,rfl⟩
      have h6:=h
      exact path (o17 (za1 h3 (zV h4 (zG (zo zh.zl (l:=a6)) (zk h4 (zk h3 (zk h4 (zk h3 (zk h5 (zau (zba.ok ht n _ _ _ _ _ _ _ h6) ob)))))))))) (by kernel_rfl)
    ·obtain⟨a8,rfl⟩:∃z_,z_=r:=⟨_,rfl⟩
     have h7:=h
     exact path (o17 (za1 h3 (za1 h4 (zk h3 (zk h4 (zk h3 (zk (rfl:false=false) (zau (zba.ok ht n _ _ _ _ _ _ _ h7) ob)))))))) (by kernel_rfl)
  ·have o19 {os} (x:Obls (env Tryd.prog 84 Tryd.f84 call) n os):=o5 (zax h2 7 (zk h1 (zk h2 (zk h1 (za1 (rfl:false=false) x)))))
   rcases fk h with ⟨h8,h⟩ | ⟨h8,h⟩
   ·rcases fk h with ⟨h9,h⟩ | ⟨h9,h⟩
    ·cases h
     exact path (o19 (zV h8 (zG (zo zh.zl (l:=a6)) (zk h8 (zk (rfl:false=false) (zk h8 (zk (rfl:false=false) (zk h9 ob)))))))) (by kernel_rfl)
    ·obtain⟨a9,rfl⟩:∃z_,z_=r:=⟨_,rfl⟩
     have h10:=h
     exact path (o19 (zV h8 (zG (zo zh.zl (l:=a6)) (zk h8 (zk (rfl:false=false) (zk h8 (zk (rfl:false=false) (zk h9 (zau (zba.ok ht n _ _ _ _ _ _ _ h10) ob))))))))) (by kernel_rfl)
   ·obtain⟨a10,rfl⟩:∃z_,z_=r:=⟨_,rfl⟩
    have h11:=h
    exact path (o19 (za1 h8 (zk (rfl:false=false) (zk h8 (zaG (rfl:false=false) (zau (zba.ok ht n _ _ _ _ _ _ _ h11) ob)))))) (by kernel_rfl)
theorem zbA.ok (ht:TabOk t call) (n:Nat) (a1:Int) (a2 a3:Bool) (a4 a5:Int) (a6:ByteArray) (a7 a8:List zh) (r:_) (h:zbA t n a1 a2 a3 a4 a5 a6 a7 a8=some r):exec (env Tryd.prog 84 Tryd.f84 call) n (sub [1,1,1,1] (zt Tryd.f84)) (mkSt 147 147 [(1,(I6 a1)),(2,(.ptr 2 0 [] 0)),(5,(Bo a2)),(6,(Bo a3))] [(2,(.t (.st [(.v (.int .i64 a4)),(.v (.int .i64 a5)),(.v (.string a6)),(.sl false 5 (zh.ts a7)),(.sl false 5 (zh.ts a8))])))])=some (zbA.to r):=by
 rw[zbA]at h
 rcases fk h with ⟨h1,h⟩ | ⟨h1,h⟩
 ·have o9 {os} (x:Obls (env Tryd.prog 84 Tryd.f84 call) n os):=za1 (ng h1) (zax (rfl:false=false) 5 x)
  rcases fk h with ⟨h2,h⟩ | ⟨h2,h⟩
  ·cases h
   exact path (o9 (zax h2 6 (zdp 6 ob))) (by kernel_rfl)
  ·have o21 {os} (x:Obls (env Tryd.prog 84 Tryd.f84 call) n os):=o9 (zaG h2 (zk h1 (zk h2 (zk h1 (zk h2 (zdp 3 (zk h2 (zdp 1 (zk h2 x)))))))))
   rcases fk h with ⟨h3,h⟩ | ⟨h3,h⟩
   ·cases h
    exact path (o21 (zax h3 5 (zdp 1 ob))) (by kernel_rfl)
   ·rcases fk h with ⟨h4,h⟩ | ⟨h4,h⟩
    ·obtain⟨a9,rfl⟩:∃z_,z_=r:=⟨_,rfl⟩
     have h5:=h
     exact path (o21 (zV h3 (zax (ng h4) 8 (zk h3 (zk (ng h4) (zk h3 (zk (rfl:false=false) (zau (zbS.ok ht n _ _ _ _ _ _ _ h5) ob)))))))) (by kernel_rfl)
    ·have o37 {os} (x:Obls (env Tryd.prog 84 Tryd.f84 call) n os):=o21 (zV h3 (zV (ng h4) (zG (zo zh.zl (l:=a7)) (zV (ng h4) (zG (zo zh.zl (l:=a8)) (zaG (ng h4) (zk h3 (zk (ng h4) (zk h3 x)))))))))
     rcases fk h with ⟨h6,h⟩ | ⟨h6,h⟩
     ·cases h
      exact path (o37 (zk h6 ob)) (by kernel_rfl)
     ·obtain⟨a10,rfl⟩:∃z_,z_=r:=⟨_,rfl⟩
      have h7:=h
      exact path (o37 (zk h6 (zau (zbS.ok ht n _ _ _ _ _ _ _ h7) ob))) (by kernel_rfl)
 ·have o4 {os} (x:Obls (env Tryd.prog 84 Tryd.f84 call) n os):=za1 (ng h1) x
  rcases fk h with ⟨h8,h⟩ | ⟨h8,h⟩
  ·have o9 {os} (x:Obls (env Tryd.prog 84 Tryd.f84 call) n os):=o4 (zax (ng h8) 5 x)
   rcases fk h with ⟨h9,h⟩ | ⟨h9,h⟩
   ·cases h
    exact path (o9 (zax h9 6 (zdp 6 ob))) (by kernel_rfl)
   ·have o15 {os} (x:Obls (env Tryd.prog 84 Tryd.f84 call) n os):=o9 (zaG h9 (zk h1 (zk h9 (zk h1 (zk h9 x)))))
    rcases fk h with ⟨h10,h⟩ | ⟨h10,h⟩
    ·rcases fk h with ⟨h11,h⟩ | ⟨h11,h⟩
     ·cases h
      exact path (o15 (zV h10 (zk h9 (zk h10 (zk h9 (zax h11 5 (zdp 1 ob))))))) (by kernel_rfl)
     ·obtain⟨a11,rfl⟩:∃z_,z_=r:=⟨_,rfl⟩
      have h12:=h
      exact path (o15 (zV h10 (zk h9 (zk h10 (zk h9 (zV h11 (zax (ng h10) 8 (zk h11 (zk (ng h10) (zk h11 (zk (rfl:false=false) (zau (zbS.ok ht n _ _ _ _ _ _ _ h12) ob)))))))))))) (by kernel_rfl)
    ·have o37 {os} (x:Obls (env Tryd.prog 84 Tryd.f84 call) n os):=o15 (zV h10 (zk h9 (zk h10 (zk h9 (zV (rfl:false=false) (zV (ng h10) (zG (zo zh.zl (l:=a7)) (zV (ng h10) (zG (zo zh.zl (l:=a8)) (zaG (ng h10) (zk (rfl:false=false) (zk (ng h10) (zk (rfl:false=false) x)))))))))))))
     rcases fk h with ⟨h13,h⟩ | ⟨h13,h⟩
     ·cases h
      exact path (o37 (zk h13 ob)) (by kernel_rfl)
     ·obtain⟨a12,rfl⟩:∃z_,z_=r:=⟨_,rfl⟩
      have h14:=h
      exact path (o37 (zk h13 (zau (zbS.ok ht n _ _ _ _ _ _ _ h14) ob))) (by kernel_rfl)
  ·cases h
   exact path (o4 (zax (ng h8) 5 (zdp 12 ob))) (by kernel_rfl)
theorem zaT.ok (ht:TabOk t call) (n:Nat) (a1:Int) (a2 a3:Bool) (a4:Int) (a5:Bool) (a6 a7:Int) (a8:ByteArray) (a9 a10:List zh) (r:_) (h:zaT t n a1 a2 a3 a4 a5 a6 a7 a8 a9 a10=some r):exec (env Tryd.prog 84 Tryd.f84 call) n (sub [1,1,1,0,1,0,1,1,1,1,1] (zt Tryd.f84)) (mkSt 147 147 [(1,(I6 a1)),(2,(.ptr 2 0 [] 0)),(5,(Bo a2)),(6,(Bo a3)),(12,(I6 a4)),(25,(Bo a5))] [(2,(.t (.st [(.v (.int .i64 a6)),(.v (.int .i64 a7)),(.v (.string a8)),(.sl false 5 (zh.ts a9)),(.sl false 5 (zh.ts a10))])))])=some (zaT.to r):=by
 rw[zaT]at h
 rcases fk h with ⟨h1,h⟩ | ⟨h1,h⟩
 ·rcases fk h with ⟨h2,h⟩ | ⟨h2,h⟩
  ·cases h
   exact path (zk h1 (zk h2 ob)) (by kernel_rfl)
  ·cases h
   exact path (zk h1 (zk h2 ob)) (by kernel_rfl)
 ·rcases fk h with ⟨h3,h⟩ | ⟨h3,h⟩
  ·cases h
   exact path (zk h1 (zk h3 ob)) (by kernel_rfl)
  ·rcases fk h with ⟨h4,h⟩ | ⟨h4,h⟩
   ·cases h
    exact path (zk h1 (zk h3 (zaG h4 ob))) (by kernel_rfl)
   ·rcases fk h with ⟨h5,h⟩ | ⟨h5,h⟩
    ·cases h
     exact path (zk h1 (zk h3 (zk h4 (zaG h5 ob)))) (by kernel_rfl)
    ·rcases fk h with ⟨h6,h⟩ | ⟨h6,h⟩
     ·cases h
      exact path (zk h1 (zk h3 (zk h4 (zk h5 (zk h6 ob))))) (by kernel_rfl)
     ·cases h
      exact path (zk h1 (zk h3 (zk h4 (zk h5 (zk h6 ob))))) (by kernel_rfl)
theorem zbq.ok {n:Nat} {t:Tab} (ht:TabOk t (run Tryd.prog own kp X n)):∀(p1:zh) (p2:Int) r,zbq t n p1 p2=some r→run Tryd.prog own kp X (n+1) 84 [(.t (zh.t p1)),(I6 p2)] []=some ((Bo r),[]):=by
 intro p1 p2 r h
 obtain⟨a1,a2,a3,a4,a5⟩:=p1
 obtain⟨a6,rfl⟩:∃z_,z_=p2:=⟨_,rfl⟩
 rw[zbq]at h
 rcases fk h with ⟨h1,h⟩ | ⟨h1,h⟩
 ·cases h
  exact zi Tryd.func84 (zk h1 ob) (by kernel_rfl)
 ·rcases fk h with ⟨h2,h⟩ | ⟨h2,h⟩
  ·rcases fk h with ⟨h3,h⟩ | ⟨h3,h⟩
   ·cases h
    exact zi Tryd.func84 (zk h1 (zk h2 (za1 h3 (zdp 1 ob)))) (by kernel_rfl)
   ·rcases fk h with ⟨h4,h⟩ | ⟨h4,h⟩
    ·cases h
     exact zi Tryd.func84 (zk h1 (zk h2 (za1 h3 (zk h4 ob)))) (by kernel_rfl)
    ·obtain⟨a7,rfl⟩:∃z_,z_=r:=⟨_,rfl⟩
     have h5:=h
     exact zi Tryd.func84 (zk h1 (zk h2 (za1 h3 (zk h4 (zau (zbA.ok ht n _ _ _ _ _ _ _ _ _ h5) ob))))) (by kernel_rfl)
  ·rcases fk h with ⟨h6,h⟩ | ⟨h6,h⟩
   ·obtain⟨a8,rfl⟩:∃z_,z_=r:=⟨_,rfl⟩
    have h7:=h
    exact zi Tryd.func84 (zk h1 (zk h2 (zk h6 (zau (zbA.ok ht n _ _ _ _ _ _ _ _ _ h7) ob)))) (by kernel_rfl)
   ·rcases fk h with ⟨h8,h⟩ | ⟨h8,h⟩
    ·obtain⟨a9 | ⟨a10,a11,a12,a13,a14,a15,a16,a17⟩,h9,h⟩:=sm h
     ·cases h
      exact zi Tryd.func84 (zk h1 (zk h2 (zk h6 (zk h8 (zau (zaT.ok ht n _ _ _ _ _ _ _ _ _ _ _ h9) ob))))) (by kernel_rfl)
     ·obtain⟨a18,rfl⟩:∃z_,z_=r:=⟨_,rfl⟩
      have h10:=h
      exact zi Tryd.func84 (zk h1 (zk h2 (zk h6 (zk h8 (zau (zaT.ok ht n _ _ _ _ _ _ _ _ _ _ _ h9) (zau (zbA.ok ht n _ _ _ _ _ _ _ _ _ h10) ob)))))) (by kernel_rfl)
    ·obtain⟨a19 | ⟨a20,a21,a22,a23,a24,a25,a26,a27⟩,h11,h⟩:=sm h
     ·cases h
      exact zi Tryd.func84 (zk h1 (zk h2 (zk h6 (zk h8 (zau (zaT.ok ht n _ _ _ _ _ _ _ _ _ _ _ h11) ob))))) (by kernel_rfl)
     ·obtain⟨a28,rfl⟩:∃z_,z_=r:=⟨_,rfl⟩
      have h12:=h
      exact zi Tryd.func84 (zk h1 (zk h2 (zk h6 (zk h8 (zau (zaT.ok ht n _ _ _ _ _ _ _ _ _ _ _ h11) (zau (zbA.ok ht n _ _ _ _ _ _ _ _ _ h12) ob)))))) (by kernel_rfl)
theorem zdA.ok (ht:TabOk t call) (n:Nat) (a1:Int) (a2:List zh) (a3:List GPred) (a4:Int) (r:_) (h:zdA t n a1 a2 a3 a4=some r):exec (env Tryd.prog 85 Tryd.f85 call) n (sub [1,1,1] (zt Tryd.f85)) (mkSt 62 62 [(2,(.ptr 2 0 [] 0)),(3,(.ptr 3 0 [] 0))] [(2,(.t (.st [(.v (.int .i64 a1)),(.sl false 5 (zh.ts a2)),(.sl false 3 (GPred.ts a3))]))),(3,(I6 a4))])=some (zdA.to r):=by
 rw[zdA]at h
 obtain⟨a5,h1,h⟩:=sm h
 rcases fk h with ⟨h2,h⟩ | ⟨h2,h⟩
 ·cases h
  exact path (zaa (ht.zQ _ _ _ h1) (zax (ng h2) 6 ob)) (by kernel_rfl)
 ·obtain⟨a6,h3,h⟩:=sm h
  cases h
  exact path (zaa (ht.zQ _ _ _ h1) (za1 (ng h2) (zaa (ht.zW _ _ h3) (zaG (ng h2) ob)))) (by kernel_rfl)
theorem zcq.ok {n:Nat} {t:Tab} (ht:TabOk t (run Tryd.prog own kp X n)):∀(p1:GPred) (p2:Int) r,zcq t n p1 p2=some r→run Tryd.prog own kp X (n+1) 85 [(.t (GPred.t p1)),(I6 p2)] []=some ((Bo r),[]):=by
 intro p1 p2 r h
 obtain⟨a1,a2,a3⟩:=p1
 obtain⟨a4,rfl⟩:∃z_,z_=p2:=⟨_,rfl⟩
 rw[zcq]at h
 obtain⟨⟨a5,a6,a7,a8⟩,h1,h⟩:=sm h
 rcases fk h with ⟨h2,h⟩ | ⟨h2,h⟩
 ·cases h
  exact zi Tryd.func85 (zaa (ht.zcr _ _ h1) (zax h2 6 (zdp 19 ob))) (by kernel_rfl)
 ·have o8 {os} (x:Obls (env Tryd.prog 85 Tryd.f85 (run Tryd.prog own kp X n)) n os):=zaa (ht.zcr _ _ h1) (zV h2 (zG (zo zh.zl (l:=a2)) (zV h2 x)))
  rcases fk h with ⟨h3,h⟩ | ⟨h3,h⟩
  ·cases h
   exact zi Tryd.func85 (o8 (zax h3 6 (zdp 13 ob))) (by kernel_rfl)
  ·have o15 {os} (x:Obls (env Tryd.prog 85 Tryd.f85 (run Tryd.prog own kp X n)) n os):=o8 (zV h3 (zG (zo zh.zl (l:=a2)) (zV h3 x)))
   rcases fk h with ⟨h4,h⟩ | ⟨h4,h⟩
   ·cases h
    exact zi Tryd.func85 (o15 (zax h4 6 (zdp 7 ob))) (by kernel_rfl)
   ·have o22 {os} (x:Obls (env Tryd.prog 85 Tryd.f85 (run Tryd.prog own kp X n)) n os):=o15 (zV h4 (zG (zo GPred.zl (l:=a3)) (zV h4 x)))
    rcases fk h with ⟨h5,h⟩ | ⟨h5,h⟩
    ·cases h
     exact zi Tryd.func85 (o22 (zax h5 6 (zdp 1 ob))) (by kernel_rfl)
    ·rcases fk h with ⟨h6,h⟩ | ⟨h6,h⟩
     ·cases h
      exact zi Tryd.func85 (o22 (zV h5 (zG (zo GPred.zl (l:=a3)) (zV h5 (zk h6 ob))))) (by kernel_rfl)
     ·obtain⟨a9,rfl⟩:∃z_,z_=r:=⟨_,rfl⟩
      have h7:=h
      exact zi Tryd.func85 (o22 (zV h5 (zG (zo GPred.zl (l:=a3)) (zV h5 (zk h6 (zau (zdA.ok ht n _ _ _ _ _ h7) ob)))))) (by kernel_rfl)
theorem slices_Contains_string.ok {n:Nat} {t:Tab} (ht:TabOk t (run Tryd.prog own kp X n)):∀(p1:List ByteArray) (p2:ByteArray) r,slices_Contains_string t n p1 p2=some r→run Tryd.prog own kp X (n+1) 86 [(Sl 1 (texts p1)),(Sr p2)] []=some ((Bo r),[]):=by
 intro p1 p2 r h
 obtain⟨a1,rfl⟩:∃z_,z_=p1:=⟨_,rfl⟩
 obtain⟨a2,rfl⟩:∃z_,z_=p2:=⟨_,rfl⟩
 rw[slices_Contains_string]at h
 obtain⟨a3,h1,h⟩:=sm h
 cases h
 exact zi Tryd.func86 (zaa (ht.slices_Index_string _ _ _ h1) ob) (by kernel_rfl)
theorem zI.ok {n:Nat} {t:Tab} (ht:TabOk t (run Tryd.prog own kp X n)):∀(p1:List Int) r,zI t n p1=some r→run Tryd.prog own kp X (n+1) 82 [(Sl 1 (zz p1)),(.fn 83 [])] []=some ((Bo r),[]):=by
 intro p1 r h
 obtain⟨a1,rfl⟩:∃z_,z_=p1:=⟨_,rfl⟩
 rw[zI]at h
 obtain⟨a2,h1,h⟩:=sm h
 cases h
 exact zi Tryd.func82 (zaa (ht.zab _ _ h1) ob) (by kernel_rfl)
theorem zb7.okL (ht:TabOk t call) (n:Nat):∀(k:Nat) (a1:ByteArray) (a2 a3:Int) (r:_),zb7 t n k a1 a2 a3=some r→loopN (exec (env Tryd.prog 67 Tryd.f67 call) n (sub [1,0,1,0,0] (zt Tryd.f67))) k (mkSt 24 24 [(0,(Sr a1)),(5,(I6 a2)),(6,(I6 a3))] [])=some (zb7.to r)
 | 0,a1,a2,a3,r,h=>by rw[zb7]at h;cases h
 | k+1,a1,a2,a3,r,h=>by
  rw[zb7]at h
  rcases fk h with ⟨h1,h⟩ | ⟨h1,h⟩
  ·obtain⟨a4,h2,h⟩:=sm h
   obtain⟨a5,h3,h⟩:=sm h
   rcases fk h with ⟨h4,h⟩ | ⟨h4,h⟩
   ·exact zM (path (zk h1 (zG (zif (P:=Tryd.prog) (t:=9) (k:=.i64) (by kernel_rfl) h2) (zaa (ht.zc1 _ _ _ h3) (zk (ng h4) ob)))) (by kernel_rfl)) (zb7.okL ht n k _ _ _ _ h)
   ·cases h
    exact zx (path (zk h1 (zG (zif (P:=Tryd.prog) (t:=9) (k:=.i64) (by kernel_rfl) h2) (zaa (ht.zc1 _ _ _ h3) (zk (ng h4) ob)))) (by kernel_rfl)) (fun h=>by cases h)
  ·cases h
   exact zx (path (zk h1 ob) (by kernel_rfl)) (fun h=>by cases h)
theorem zdM.ok (ht:TabOk t call) (n:Nat) (a1:ByteArray) (r:_) (h:zdM t n a1=some r):exec (env Tryd.prog 67 Tryd.f67 call) n (sub [1,1] (zt Tryd.f67)) (mkSt 24 24 [(0,(Sr a1))] [])=some (zdM.to r):=by
 rw[zdM]at h
 rcases fk h with ⟨h1,h⟩ | ⟨h1,h⟩
 ·cases h
  exact path (za1 (ng h1) ob) (by kernel_rfl)
 ·cases h
  exact path (za1 (ng h1) ob) (by kernel_rfl)
theorem zcP.ok {n:Nat} {t:Tab} (ht:TabOk t (run Tryd.prog own kp X n)):∀(p1:ByteArray) r,zcP t n p1=some r→run Tryd.prog own kp X (n+1) 67 [(Sr p1)] []=some ((Bo r),[]):=by
 intro p1 r h
 obtain⟨a1,rfl⟩:∃z_,z_=p1:=⟨_,rfl⟩
 rw[zcP]at h
 obtain⟨a2 | ⟨a3,a4,a5,a6⟩,h1,h⟩:=sm h
 ·cases h
  exact zi Tryd.func67 (zbj (lk (sub [1,0,1,0] (zt Tryd.f67)) (by kernel_rfl) (zb7.okL ht n n _ _ _ _ h1)) ob) (by kernel_rfl)
 ·obtain⟨a7,rfl⟩:∃z_,z_=r:=⟨_,rfl⟩
  have h2:=h
  exact zi Tryd.func67 (zbj (lk (sub [1,0,1,0] (zt Tryd.f67)) (by kernel_rfl) (zb7.okL ht n n _ _ _ _ h1)) (zau (zdM.ok ht n _ _ h2) ob)) (by kernel_rfl)
theorem cmp_Compare_int.ok {n:Nat} {t:Tab} (ht:TabOk t (run Tryd.prog own kp X n)):∀(p1:Int) (p2:Int) r,cmp_Compare_int t n p1 p2=some r→run Tryd.prog own kp X (n+1) 89 [(I6 p1),(I6 p2)] []=some ((I6 r),[]):=by
 intro p1 p2 r h
 obtain⟨a1,rfl⟩:∃z_,z_=p1:=⟨_,rfl⟩
 obtain⟨a2,rfl⟩:∃z_,z_=p2:=⟨_,rfl⟩
 rw[cmp_Compare_int]at h
 obtain⟨a3,h1,h⟩:=sm h
 obtain⟨a4,h2,h⟩:=sm h
 have o2 {os} (x:Obls (env Tryd.prog 89 Tryd.f89 (run Tryd.prog own kp X n)) n os):=zaa (ht.cmp_isNaN_int _ _ h1) (zaa (ht.cmp_isNaN_int _ _ h2) x)
 rcases fk h with ⟨h3,h⟩ | ⟨h3,h⟩
 ·rcases fk h with ⟨h4,h⟩ | ⟨h4,h⟩
  ·cases h
   exact zi Tryd.func89 (o2 (zk h3 (zk h4 ob))) (by kernel_rfl)
  ·cases h
   exact zi Tryd.func89 (o2 (zk h3 (zk h4 ob))) (by kernel_rfl)
 ·rcases fk h with ⟨h5,h⟩ | ⟨h5,h⟩
  ·cases h
   exact zi Tryd.func89 (o2 (zk h3 (zk h5 ob))) (by kernel_rfl)
  ·rcases fk h with ⟨h6,h⟩ | ⟨h6,h⟩
   ·cases h
    exact zi Tryd.func89 (o2 (zk h3 (zk h5 (zk h6 ob)))) (by kernel_rfl)
   ·rcases fk h with ⟨h7,h⟩ | ⟨h7,h⟩
    ·cases h
     exact zi Tryd.func89 (o2 (zk h3 (zk h5 (zk h6 (zk h7 ob))))) (by kernel_rfl)
    ·cases h
     exact zi Tryd.func89 (o2 (zk h3 (zk h5 (zk h6 (zk h7 ob))))) (by kernel_rfl)
theorem strings_Compare.ok {n:Nat} {t:Tab} (ht:TabOk t (run Tryd.prog own kp X n)):∀(p1:ByteArray) (p2:ByteArray) r,strings_Compare t n p1 p2=some r→run Tryd.prog own kp X (n+1) 90 [(Sr p1),(Sr p2)] []=some ((I6 r),[]):=by
 intro p1 p2 r h
 obtain⟨a1,rfl⟩:∃z_,z_=p1:=⟨_,rfl⟩
 obtain⟨a2,rfl⟩:∃z_,z_=p2:=⟨_,rfl⟩
 rw[strings_Compare]at h
 obtain⟨a3,rfl⟩:∃z_,z_=r:=⟨_,rfl⟩
 have h1:=h
 exact zi Tryd.func90 (zaa (ht.bytealg_CompareString _ _ _ h1) ob) (by kernel_rfl)
theorem zb8.okL (ht:TabOk t call) (n:Nat):∀(k:Nat) (a1:Int) (a2:List Int) (a3 a4:Int) (r:_),zb8 t n k a1 a2 a3 a4=some r→loopN (exec (env Tryd.prog 88 Tryd.f88 call) n (sub [1,1,0,1,0,0] (zt Tryd.f88))) k (mkSt 18 18 [(3,(I6 a1)),(6,(Sl 1 (zz a2))),(7,(I6 a3)),(8,(I6 a4))] [])=some (zb8.to r)
 | 0,a1,a2,a3,a4,r,h=>by rw[zb8]at h;cases h
 | k+1,a1,a2,a3,a4,r,h=>by
  rw[zb8]at h
  rcases fk h with ⟨h1,h⟩ | ⟨h1,h⟩
  ·obtain⟨h2,h⟩:=ck h
   obtain⟨a5,h3,h⟩:=sm h
   rcases fk h with ⟨h4,h⟩ | ⟨h4,h⟩
   ·cases h
    exact zx (path (zk h1 (zaq h2 (zan (zu zw h3) (zk h4 ob)))) (by kernel_rfl)) (fun h=>by cases h)
   ·exact zM (path (zk h1 (zaq h2 (zan (zu zw h3) (zk h4 ob)))) (by kernel_rfl)) (zb8.okL ht n k _ _ _ _ _ h)
  ·cases h
   exact zx (path (zk h1 ob) (by kernel_rfl)) (fun h=>by cases h)
theorem zdi.ok {n:Nat} {t:Tab} (ht:TabOk t (run Tryd.prog own kp X n)):∀(p1:List Int) r,zdi t n p1=some r→run Tryd.prog own kp X (n+1) 88 [(Sl 1 (zz p1))] []=some ((I6 r),[]):=by
 intro p1 r h
 obtain⟨a1,rfl⟩:∃z_,z_=p1:=⟨_,rfl⟩
 rw[zdi]at h
 obtain⟨a2 | ⟨a3,a4,a5,a6,a7⟩,h1,h⟩:=sm h
 ·cases h
  exact zi Tryd.func88 (zG (zo zw (l:=a1)) (zbj (lk (sub [1,1,0,1,0] (zt Tryd.f88)) (by kernel_rfl) (zb8.okL ht n n _ _ _ _ _ h1)) ob)) (by kernel_rfl)
 ·cases h
  exact zi Tryd.func88 (zG (zo zw (l:=a1)) (zbj (lk (sub [1,1,0,1,0] (zt Tryd.f88)) (by kernel_rfl) (zb8.okL ht n n _ _ _ _ _ h1)) ob)) (by kernel_rfl)
theorem zC.okL (ht:TabOk t call) (n:Nat):∀(k:Nat) (a1 a2:List zh) (a3:Int) (a4:List zh) (a5 a6:Int) (r:_),zC t n k a1 a2 a3 a4 a5 a6=some r→loopN (exec (env Tryd.prog 92 Tryd.f92 call) n (sub [1,0,1,0,0] (zt Tryd.f92))) k (mkSt 39 39 [(0,(Sl 5 (zh.ts a1))),(1,(Sl 5 (zh.ts a2))),(2,(.fn 91 [(.ref (.v (.int .i64 a3)))])),(11,(Sl 5 (zh.ts a4))),(12,(I6 a5)),(13,(I6 a6))] [])=some (zC.to r)
 | 0,a1,a2,a3,a4,a5,a6,r,h=>by rw[zC]at h;cases h
 | k+1,a1,a2,a3,a4,a5,a6,r,h=>by
  rw[zC]at h
  rcases fk h with ⟨h1,h⟩ | ⟨h1,h⟩
  ·obtain⟨h2,h⟩:=ck h
   obtain⟨⟨a7,a8,a9,a10,a11⟩,h3,h⟩:=sm h
   have o4 {os} (x:Obls (env Tryd.prog 92 Tryd.f92 call) n os):=zk h1 (zaq h2 (zan (zu zh.zl h3) (zG (zo zh.zl (l:=a2)) x)))
   rcases fk h with ⟨h4,h⟩ | ⟨h4,h⟩
   ·cases h
    exact zx (path (o4 (zk h4 ob)) (by kernel_rfl)) (fun h=>by cases h)
   ·obtain⟨⟨a12,a13,a14,a15,a16⟩,h5,h⟩:=sm h
    obtain⟨a17,h6,h⟩:=sm h
    rcases fk h with ⟨h7,h⟩ | ⟨h7,h⟩
    ·cases h
     exact zx (path (o4 (zk h4 (zaq h2 (zan (zu zh.zl h5) (zaa (ht.zaY _ _ _ _ h6) (zk h7 ob)))))) (by kernel_rfl)) (fun h=>by cases h)
    ·exact zM (path (o4 (zk h4 (zaq h2 (zan (zu zh.zl h5) (zaa (ht.zaY _ _ _ _ h6) (zk h7 ob)))))) (by kernel_rfl)) (zC.okL ht n k _ _ _ _ _ _ _ h)
  ·cases h
   exact zx (path (zk h1 ob) (by kernel_rfl)) (fun h=>by cases h)
theorem zat.ok (ht:TabOk t call) (n:Nat) (a1 a2:List zh) (r:_) (h:zat t n a1 a2=some r):exec (env Tryd.prog 92 Tryd.f92 call) n (sub [1,1] (zt Tryd.f92)) (mkSt 39 39 [(0,(Sl 5 (zh.ts a1))),(1,(Sl 5 (zh.ts a2)))] [])=some (zat.to r):=by
 rw[zat]at h
 rcases fk h with ⟨h1,h⟩ | ⟨h1,h⟩
 ·cases h
  exact path (zG (zo zh.zl (l:=a1)) (zG (zo zh.zl (l:=a2)) (zk h1 ob))) (by kernel_rfl)
 ·cases h
  exact path (zG (zo zh.zl (l:=a1)) (zG (zo zh.zl (l:=a2)) (zk h1 ob))) (by kernel_rfl)
theorem zJ.ok {n:Nat} {t:Tab} (ht:TabOk t (run Tryd.prog own kp X n)):∀(p1:List zh) (p2:List zh) (p3:Int) r,zJ t n p1 p2 p3=some r→run Tryd.prog own kp X (n+1) 92 [(Sl 5 (zh.ts p1)),(Sl 5 (zh.ts p2)),(.fn 91 [(.ref (.v (.int .i64 p3)))])] []=some ((I6 r),[]):=by
 intro p1 p2 p3 r h
 obtain⟨a1,rfl⟩:∃z_,z_=p1:=⟨_,rfl⟩
 obtain⟨a2,rfl⟩:∃z_,z_=p2:=⟨_,rfl⟩
 obtain⟨a3,rfl⟩:∃z_,z_=p3:=⟨_,rfl⟩
 rw[zJ]at h
 obtain⟨a4 | ⟨a5,a6,a7,a8,a9,a10,a11⟩,h1,h⟩:=sm h
 ·cases h
  exact zi Tryd.func92 (zG (zo zh.zl (l:=a1)) (zbj (lk (sub [1,0,1,0] (zt Tryd.f92)) (by kernel_rfl) (zC.okL ht n n _ _ _ _ _ _ _ h1)) ob)) (by kernel_rfl)
 ·obtain⟨a12,rfl⟩:∃z_,z_=r:=⟨_,rfl⟩
  have h2:=h
  exact zi Tryd.func92 (zG (zo zh.zl (l:=a1)) (zbj (lk (sub [1,0,1,0] (zt Tryd.f92)) (by kernel_rfl) (zC.okL ht n n _ _ _ _ _ _ _ h1)) (zau (zat.ok ht n _ _ _ h2) ob))) (by kernel_rfl)
theorem zcK.ok {n:Nat} {t:Tab} (ht:TabOk t (run Tryd.prog own kp X n)):∀(p1:ByteArray) r,zcK t n p1=some r→run Tryd.prog own kp X (n+1) 66 [(Sr p1)] []=some ((Bo r),[]):=by
 intro p1 r h
 obtain⟨a1,rfl⟩:∃z_,z_=p1:=⟨_,rfl⟩
 rw[zcK]at h
 obtain⟨a2,h1,h⟩:=sm h
 cases h
 exact zi Tryd.func66 (zaa (ht.zcP _ _ h1) ob) (by kernel_rfl)
theorem zaU.okL (ht:TabOk t call) (n:Nat):∀(k:Nat) (a1:List (List zh)) (a2:Int) (a3:List (List zh)) (a4 a5:Int) (r:_),zaU t n k a1 a2 a3 a4 a5=some r→loopN (exec (env Tryd.prog 94 Tryd.f94 call) n (sub [1,1,0,1,0,0] (zt Tryd.f94))) k (mkSt 36 36 [(0,(Sl 1 (zch a1))),(3,(I6 a2)),(9,(Sl 1 (zch a3))),(10,(I6 a4)),(11,(I6 a5))] [])=some (zaU.to r)
 | 0,a1,a2,a3,a4,a5,r,h=>by rw[zaU]at h;cases h
 | k+1,a1,a2,a3,a4,a5,r,h=>by
  rw[zaU]at h
  rcases fk h with ⟨h1,h⟩ | ⟨h1,h⟩
  ·obtain⟨h2,h⟩:=ck h
   obtain⟨a6,h3,h⟩:=sm h
   rcases fk h with ⟨h4,h⟩ | ⟨h4,h⟩
   ·cases h
   ·exact zM (path (zk h1 (zaq h2 (zan (zu zdO h3) (zG (zo zh.zl (l:=a6)) (zk h4 ob))))) (by kernel_rfl)) (zaU.okL ht n k _ _ _ _ _ _ h)
  ·cases h
   exact zx (path (zk h1 ob) (by kernel_rfl)) (fun h=>by cases h)
theorem zaV.okL (ht:TabOk t call) (n:Nat):∀(k:Nat) (a1:List zh) (a2:List (List zh)) (a3 a4:Int) (r:_),zaV t n k a1 a2 a3 a4=some r→loopN (exec (env Tryd.prog 94 Tryd.f94 call) n (sub [1,1,1,1,0,1,0,0] (zt Tryd.f94))) k (mkSt 36 36 [(6,(.t (.sl true 5 (zh.ts a1)))),(25,(Sl 1 (zch a2))),(26,(I6 a3)),(27,(I6 a4))] [])=some (zaV.to r)
 | 0,a1,a2,a3,a4,r,h=>by rw[zaV]at h;cases h
 | k+1,a1,a2,a3,a4,r,h=>by
  rw[zaV]at h
  rcases fk h with ⟨h1,h⟩ | ⟨h1,h⟩
  ·obtain⟨h2,h⟩:=ck h
   obtain⟨a5,h3,h⟩:=sm h
   obtain⟨h4,h⟩:=cl h
   exact zM (path (zk h1 (zaq h2 (zan (zu zdO h3) (zeT (zdT zh.zl h4) (zfb (zd7 zh.zl (a:=a1) (b:=a5)) ob))))) (by kernel_rfl)) (zaV.okL ht n k _ _ _ _ _ h)
  ·cases h
   exact zx (path (zk h1 ob) (by kernel_rfl)) (fun h=>by cases h)
theorem zbT.ok (ht:TabOk t call) (n:Nat) (a1:List (List zh)) (a2:Int) (r:_) (h:zbT t n a1 a2=some r):exec (env Tryd.prog 94 Tryd.f94 call) n (sub [1,1,1] (zt Tryd.f94)) (mkSt 36 36 [(0,(Sl 1 (zch a1))),(3,(I6 a2))] [])=some (zbT.to r):=by
 rw[zbT]at h
 obtain⟨a3,h1,h⟩:=sm h
 obtain⟨⟨a4,a5,a6,a7,a8⟩,h2,h⟩:=sm h
 cases h
 exact path (zaa (ht.zdW _ _ _ h1) (zG (zo zdO (l:=a1)) (zbj (lk (sub [1,1,1,1,0,1,0] (zt Tryd.f94)) (by kernel_rfl) (zaV.okL ht n n _ _ _ _ _ h2)) ob))) (by kernel_rfl)
theorem zav.ok {n:Nat} {t:Tab} (ht:TabOk t (run Tryd.prog own kp X n)):∀(p1:List (List zh)) r,zav t n p1=some r→run Tryd.prog own kp X (n+1) 94 [(Sl 1 (zch p1))] []=some ((Sl 5 (zh.ts r)),[]):=by
 intro p1 r h
 obtain⟨a1,rfl⟩:∃z_,z_=p1:=⟨_,rfl⟩
 rw[zav]at h
 obtain⟨⟨a2,a3,a4,a5,a6,a7⟩,h1,h⟩:=sm h
 obtain⟨a8,rfl⟩:∃z_,z_=r:=⟨_,rfl⟩
 have h2:=h
 exact zi Tryd.func94 (zG (zo zdO (l:=a1)) (zbj (lk (sub [1,1,0,1,0] (zt Tryd.f94)) (by kernel_rfl) (zaU.okL ht n n _ _ _ _ _ _ h1)) (zau (zbT.ok ht n _ _ _ h2) ob))) (by kernel_rfl)
theorem zcv.ok (ht:TabOk t call) (n:Nat) (a1:Int) (a2:Bool) (r:_) (h:zcv t n a1 a2=some r):exec (env Tryd.prog 95 Tryd.f95 call) n (sub [1,0,0,1,1,1,1,1] (zt Tryd.f95)) (mkSt 37 37 [(0,(I6 a1)),(20,(Bo a2))] [])=some (zcv.to r):=by
 rw[zcv]at h
 rcases fk h with ⟨h1,h⟩ | ⟨h1,h⟩
 ·cases h
  exact path (zk h1 ob) (by kernel_rfl)
 ·rcases fk h with ⟨h2,h⟩ | ⟨h2,h⟩
  ·cases h
   exact path (zk h1 (zk h2 ob)) (by kernel_rfl)
  ·rcases fk h with ⟨h3,h⟩ | ⟨h3,h⟩
   ·cases h
    exact path (zk h1 (zk h2 (zV h3 (zdp 1 ob)))) (by kernel_rfl)
   ·rcases fk h with ⟨h4,h⟩ | ⟨h4,h⟩
    ·cases h
     exact path (zk h1 (zk h2 (zV h3 (zk h4 ob)))) (by kernel_rfl)
    ·cases h
     exact path (zk h1 (zk h2 (zV h3 (zk h4 ob)))) (by kernel_rfl)
theorem zcw.ok (ht:TabOk t call) (n:Nat) (a1:Int) (a2:Bool) (r:_) (h:zcw t n a1 a2=some r):exec (env Tryd.prog 95 Tryd.f95 call) n (sub [1,0,0,1,1,1] (zt Tryd.f95)) (mkSt 37 37 [(0,(I6 a1)),(13,(Bo a2))] [])=some (zcw.to r):=by
 rw[zcw]at h
 rcases fk h with ⟨h1,h⟩ | ⟨h1,h⟩
 ·cases h
  exact path (zk h1 ob) (by kernel_rfl)
 ·rcases fk h with ⟨h2,h⟩ | ⟨h2,h⟩
  ·have h3:=h
   rcases r with ⟨a3,a4,a5,a6⟩ | _
   ·exact path (zk h1 (zV h2 (zau (zcv.ok ht n _ _ _ h3) ob))) (by kernel_rfl)
   ·exact path (zk h1 (zV h2 (zau (zcv.ok ht n _ _ _ h3) ob))) (by kernel_rfl)
  ·have h4:=h
   rcases r with ⟨a7,a8,a9,a10⟩ | _
   ·exact path (zk h1 (zV h2 (zau (zcv.ok ht n _ _ _ h4) ob))) (by kernel_rfl)
   ·exact path (zk h1 (zV h2 (zau (zcv.ok ht n _ _ _ h4) ob))) (by kernel_rfl)
theorem zbr.ok (ht:TabOk t call) (n:Nat) (a1:Int) (a2:Bool) (r:_) (h:zbr t n a1 a2=some r):exec (env Tryd.prog 95 Tryd.f95 call) n (sub [1,0,0,1] (zt Tryd.f95)) (mkSt 37 37 [(0,(I6 a1)),(6,(Bo a2))] [])=some (zbr.to r):=by
 rw[zbr]at h
 rcases fk h with ⟨h1,h⟩ | ⟨h1,h⟩
 ·cases h
  exact path (zk h1 ob) (by kernel_rfl)
 ·rcases fk h with ⟨h2,h⟩ | ⟨h2,h⟩
  ·have h3:=h
   rcases r with ⟨a3,a4,a5,a6⟩ | _
   ·exact path (zk h1 (zV h2 (zau (zcw.ok ht n _ _ _ h3) ob))) (by kernel_rfl)
   ·exact path (zk h1 (zV h2 (zau (zcw.ok ht n _ _ _ h3) ob))) (by kernel_rfl)
  ·have h4:=h
   rcases r with ⟨a7,a8,a9,a10⟩ | _
   ·exact path (zk h1 (zV h2 (zau (zcw.ok ht n _ _ _ h4) ob))) (by kernel_rfl)
   ·exact path (zk h1 (zV h2 (zau (zcw.ok ht n _ _ _ h4) ob))) (by kernel_rfl)
theorem zcr.ok {n:Nat} {t:Tab} (ht:TabOk t (run Tryd.prog own kp X n)):∀(p1:Int) r,zcr t n p1=some r→run Tryd.prog own kp X (n+1) 95 [(I6 p1)] []=some ((.tup [(.v (.int .i64 r.1)),(.v (.int .i64 r.2.1)),(.v (.int .i64 r.2.2.1)),(.v (.int .i64 r.2.2.2))]),[]):=by
 intro p1 r h
 obtain⟨a1,rfl⟩:∃z_,z_=p1:=⟨_,rfl⟩
 rw[zcr]at h
 rcases fk h with ⟨h1,h⟩ | ⟨h1,h⟩
 ·obtain⟨⟨a2,a3,a4,a5⟩ | _,h2,h⟩:=sm h
  ·cases h
   exact zi Tryd.func95 (zV h1 (zau (zbr.ok ht n _ _ _ h2) ob)) (by kernel_rfl)
  ·cases h
   exact zi Tryd.func95 (zV h1 (zau (zbr.ok ht n _ _ _ h2) ob)) (by kernel_rfl)
 ·obtain⟨⟨a6,a7,a8,a9⟩ | _,h3,h⟩:=sm h
  ·cases h
   exact zi Tryd.func95 (zV h1 (zau (zbr.ok ht n _ _ _ h3) ob)) (by kernel_rfl)
  ·cases h
   exact zi Tryd.func95 (zV h1 (zau (zbr.ok ht n _ _ _ h3) ob)) (by kernel_rfl)
theorem zQ.ok {n:Nat} {t:Tab} (ht:TabOk t (run Tryd.prog own kp X n)):∀(p1:List GPred) (p2:Int) r,zQ t n p1 p2=some r→run Tryd.prog own kp X (n+1) 98 [(Sl 3 (GPred.ts p1)),(.fn 96 [(.ref (.v (.int .i64 p2)))])] []=some ((Bo r),[]):=by
 intro p1 p2 r h
 obtain⟨a1,rfl⟩:∃z_,z_=p1:=⟨_,rfl⟩
 obtain⟨a2,rfl⟩:∃z_,z_=p2:=⟨_,rfl⟩
 rw[zQ]at h
 obtain⟨a3,h1,h⟩:=sm h
 cases h
 exact zi Tryd.func98 (zaa (ht.zah _ _ _ h1) ob) (by kernel_rfl)
theorem zW.ok {n:Nat} {t:Tab} (ht:TabOk t (run Tryd.prog own kp X n)):∀(p1:List zh) r,zW t n p1=some r→run Tryd.prog own kp X (n+1) 99 [(Sl 5 (zh.ts p1)),(.fn 97 [])] []=some ((Bo r),[]):=by
 intro p1 r h
 obtain⟨a1,rfl⟩:∃z_,z_=p1:=⟨_,rfl⟩
 rw[zW]at h
 obtain⟨a2,h1,h⟩:=sm h
 cases h
 exact zi Tryd.func99 (zaa (ht.zai _ _ h1) ob) (by kernel_rfl)
theorem zas.okL (ht:TabOk t call) (n:Nat):∀(k:Nat) (a1:List ByteArray) (a2:ByteArray) (a3 a4:Int) (r:_),zas t n k a1 a2 a3 a4=some r→loopN (exec (env Tryd.prog 100 Tryd.f100 call) n (sub [1,0,1,0,0] (zt Tryd.f100))) k (mkSt 19 19 [(0,(Sl 1 (texts a1))),(1,(Sr a2)),(7,(I6 a3)),(8,(I6 a4))] [])=some (zas.to r)
 | 0,a1,a2,a3,a4,r,h=>by rw[zas]at h;cases h
 | k+1,a1,a2,a3,a4,r,h=>by
  rw[zas]at h
  rcases fk h with ⟨h1,h⟩ | ⟨h1,h⟩
  ·obtain⟨h2,h⟩:=ck h
   obtain⟨a5,h3,h⟩:=sm h
   rcases fk h with ⟨h4,h⟩ | ⟨h4,h⟩
   ·cases h
    exact zx (path (zk h1 (zaq h2 (zan (zu zF h3) (zk h4 ob)))) (by kernel_rfl)) (fun h=>by cases h)
   ·exact zM (path (zk h1 (zaq h2 (zan (zu zF h3) (zk h4 ob)))) (by kernel_rfl)) (zas.okL ht n k _ _ _ _ _ h)
  ·cases h
   exact zx (path (zk h1 ob) (by kernel_rfl)) (fun h=>by cases h)
theorem slices_Index_string.ok {n:Nat} {t:Tab} (ht:TabOk t (run Tryd.prog own kp X n)):∀(p1:List ByteArray) (p2:ByteArray) r,slices_Index_string t n p1 p2=some r→run Tryd.prog own kp X (n+1) 100 [(Sl 1 (texts p1)),(Sr p2)] []=some ((I6 r),[]):=by
 intro p1 p2 r h
 obtain⟨a1,rfl⟩:∃z_,z_=p1:=⟨_,rfl⟩
 obtain⟨a2,rfl⟩:∃z_,z_=p2:=⟨_,rfl⟩
 rw[slices_Index_string]at h
 obtain⟨a3 | ⟨a4,a5,a6,a7,a8⟩,h1,h⟩:=sm h
 ·cases h
  exact zi Tryd.func100 (zG (zo zF (l:=a1)) (zbj (lk (sub [1,0,1,0] (zt Tryd.f100)) (by kernel_rfl) (zas.okL ht n n _ _ _ _ _ h1)) ob)) (by kernel_rfl)
 ·cases h
  exact zi Tryd.func100 (zG (zo zF (l:=a1)) (zbj (lk (sub [1,0,1,0] (zt Tryd.f100)) (by kernel_rfl) (zas.okL ht n n _ _ _ _ _ h1)) ob)) (by kernel_rfl)
theorem zK.okL (ht:TabOk t call) (n:Nat):∀(k:Nat) (a1:List Int) (a2 a3:Int) (r:_),zK t n k a1 a2 a3=some r→loopN (exec (env Tryd.prog 93 Tryd.f93 call) n (sub [1,0,1,0,0] (zt Tryd.f93))) k (mkSt 19 19 [(0,(Sl 1 (zz a1))),(1,(.fn 83 [])),(7,(I6 a2)),(8,(I6 a3))] [])=some (zK.to r)
 | 0,a1,a2,a3,r,h=>by rw[zK]at h;cases h
 | k+1,a1,a2,a3,r,h=>by
  rw[zK]at h
  rcases fk h with ⟨h1,h⟩ | ⟨h1,h⟩
  ·obtain⟨h2,h⟩:=ck h
   obtain⟨a4,h3,h⟩:=sm h
   obtain⟨a5,h4,h⟩:=sm h
   rcases fk h with ⟨h5,h⟩ | ⟨h5,h⟩
   ·cases h
    exact zx (path (zk h1 (zaq h2 (zan (zu zw h3) (zaa (ht.zbn _ _ h4) (zk h5 ob))))) (by kernel_rfl)) (fun h=>by cases h)
   ·exact zM (path (zk h1 (zaq h2 (zan (zu zw h3) (zaa (ht.zbn _ _ h4) (zk h5 ob))))) (by kernel_rfl)) (zK.okL ht n k _ _ _ _ h)
  ·cases h
   exact zx (path (zk h1 ob) (by kernel_rfl)) (fun h=>by cases h)
theorem zab.ok {n:Nat} {t:Tab} (ht:TabOk t (run Tryd.prog own kp X n)):∀(p1:List Int) r,zab t n p1=some r→run Tryd.prog own kp X (n+1) 93 [(Sl 1 (zz p1)),(.fn 83 [])] []=some ((I6 r),[]):=by
 intro p1 r h
 obtain⟨a1,rfl⟩:∃z_,z_=p1:=⟨_,rfl⟩
 rw[zab]at h
 obtain⟨a2 | ⟨a3,a4,a5,a6⟩,h1,h⟩:=sm h
 ·cases h
  exact zi Tryd.func93 (zG (zo zw (l:=a1)) (zbj (lk (sub [1,0,1,0] (zt Tryd.f93)) (by kernel_rfl) (zK.okL ht n n _ _ _ _ h1)) ob)) (by kernel_rfl)
 ·cases h
  exact zi Tryd.func93 (zG (zo zw (l:=a1)) (zbj (lk (sub [1,0,1,0] (zt Tryd.f93)) (by kernel_rfl) (zK.okL ht n n _ _ _ _ h1)) ob)) (by kernel_rfl)
theorem zaK.ok (ht:TabOk t call) (n:Nat) (a1:Int) (a2 a3:Bool) (r:_) (h:zaK t n a1 a2 a3=some r):exec (env Tryd.prog 80 Tryd.f80 call) n (sub [1,0,0,0,1] (zt Tryd.f80)) (mkSt 29 29 [(0,(.t (.v (.int .u8 a1)))),(1,(Bo a2)),(5,(Bo a3))] [])=some (zaK.to r):=by
 rw[zaK]at h
 rcases fk h with ⟨h1,h⟩ | ⟨h1,h⟩
 ·cases h
  exact path (zk h1 ob) (by kernel_rfl)
 ·rcases fk h with ⟨h2,h⟩ | ⟨h2,h⟩
  ·rcases fk h with ⟨h3,h⟩ | ⟨h3,h⟩
   ·cases h
    exact path (zk h1 (zV h2 (zk h3 ob))) (by kernel_rfl)
   ·cases h
    exact path (zk h1 (zV h2 (zk h3 ob))) (by kernel_rfl)
  ·cases h
   exact path (zk h1 (zV h2 (zk (rfl:false=false) ob))) (by kernel_rfl)
theorem zaL.ok (ht:TabOk t call) (n:Nat) (a1:Int) (a2 a3:Bool) (r:_) (h:zaL t n a1 a2 a3=some r):exec (env Tryd.prog 80 Tryd.f80 call) n (sub [1,0,0,1] (zt Tryd.f80)) (mkSt 29 29 [(0,(.t (.v (.int .u8 a1)))),(1,(Bo a2)),(5,(Bo a3))] [])=some (zaL.to r):=by
 rw[zaL]at h
 rcases fk h with ⟨h1,h⟩ | ⟨h1,h⟩
 ·cases h
  exact path (zk h1 ob) (by kernel_rfl)
 ·rcases fk h with ⟨h2,h⟩ | ⟨h2,h⟩
  ·rcases fk h with ⟨h3,h⟩ | ⟨h3,h⟩
   ·cases h
    exact path (zk h1 (zV h2 (zk h3 ob))) (by kernel_rfl)
   ·cases h
    exact path (zk h1 (zV h2 (zk h3 ob))) (by kernel_rfl)
  ·cases h
   exact path (zk h1 (zV h2 (zk (rfl:false=false) ob))) (by kernel_rfl)
theorem zc1.ok {n:Nat} {t:Tab} (ht:TabOk t (run Tryd.prog own kp X n)):∀(p1:Int) (p2:Bool) r,zc1 t n p1 p2=some r→run Tryd.prog own kp X (n+1) 80 [(.t (.v (.int .u8 p1))),(Bo p2)] []=some ((Bo r),[]):=by
 intro p1 p2 r h
 obtain⟨a1,rfl⟩:∃z_,z_=p1:=⟨_,rfl⟩
 obtain⟨a2,rfl⟩:∃z_,z_=p2:=⟨_,rfl⟩
 rw[zc1]at h
 rcases fk h with ⟨h1,h⟩ | ⟨h1,h⟩
 ·obtain⟨⟨a3,a4,a5⟩,h2,h⟩:=sm h
  obtain⟨a6 | _,h3,h⟩:=sm h
  ·cases h
   exact zi Tryd.func80 (zV h1 (zau (zaK.ok ht n _ _ _ _ h2) (zau (zaL.ok ht n _ _ _ _ h3) ob))) (by kernel_rfl)
  ·cases h
   exact zi Tryd.func80 (zV h1 (zau (zaK.ok ht n _ _ _ _ h2) (zau (zaL.ok ht n _ _ _ _ h3) ob))) (by kernel_rfl)
 ·obtain⟨⟨a7,a8,a9⟩,h4,h⟩:=sm h
  obtain⟨a10 | _,h5,h⟩:=sm h
  ·cases h
   exact zi Tryd.func80 (zV h1 (zau (zaK.ok ht n _ _ _ _ h4) (zau (zaL.ok ht n _ _ _ _ h5) ob))) (by kernel_rfl)
  ·cases h
   exact zi Tryd.func80 (zV h1 (zau (zaK.ok ht n _ _ _ _ h4) (zau (zaL.ok ht n _ _ _ _ h5) ob))) (by kernel_rfl)
theorem cmp_isNaN_int.ok {n:Nat} {t:Tab} (ht:TabOk t (run Tryd.prog own kp X n)):∀(p1:Int) r,cmp_isNaN_int t n p1=some r→run Tryd.prog own kp X (n+1) 101 [(I6 p1)] []=some ((Bo r),[]):=by
 intro p1 r h
 obtain⟨a1,rfl⟩:∃z_,z_=p1:=⟨_,rfl⟩
 rw[cmp_isNaN_int]at h
 cases h
 exact zi Tryd.func101 ob (by kernel_rfl)
theorem zaY.ok {n:Nat} {t:Tab} (ht:TabOk t (run Tryd.prog own kp X n)):∀(p1:zh) (p2:zh) (p3:Int) r,zaY t n p1 p2 p3=some r→run Tryd.prog own kp X (n+1) 91 [(.t (zh.t p1)),(.t (zh.t p2)),(.ref (.v (.int .i64 p3)))] []=some ((I6 r),[]):=by
 intro p1 p2 p3 r h
 obtain⟨a1,a2,a3,a4,a5⟩:=p1
 obtain⟨a6,a7,a8,a9,a10⟩:=p2
 obtain⟨a11,rfl⟩:∃z_,z_=p3:=⟨_,rfl⟩
 rw[zaY]at h
 obtain⟨a12,rfl⟩:∃z_,z_=r:=⟨_,rfl⟩
 have h1:=h
 exact zi Tryd.func91 (zaa (ht.zbp _ _ _ _ h1) ob) (by kernel_rfl)
theorem zR.okL (ht:TabOk t call) (n:Nat):∀(k:Nat) (a1:List GPred) (a2 a3 a4:Int) (r:_),zR t n k a1 a2 a3 a4=some r→loopN (exec (env Tryd.prog 104 Tryd.f104 call) n (sub [1,0,1,0,0] (zt Tryd.f104))) k (mkSt 19 19 [(0,(Sl 3 (GPred.ts a1))),(1,(.fn 96 [(.ref (.v (.int .i64 a2)))])),(7,(I6 a3)),(8,(I6 a4))] [])=some (zR.to r)
 | 0,a1,a2,a3,a4,r,h=>by rw[zR]at h;cases h
 | k+1,a1,a2,a3,a4,r,h=>by
  rw[zR]at h
  rcases fk h with ⟨h1,h⟩ | ⟨h1,h⟩
  ·obtain⟨h2,h⟩:=ck h
   obtain⟨⟨a5,a6,a7⟩,h3,h⟩:=sm h
   obtain⟨a8,h4,h⟩:=sm h
   rcases fk h with ⟨h5,h⟩ | ⟨h5,h⟩
   ·cases h
    exact zx (path (zk h1 (zaq h2 (zan (zu GPred.zl h3) (zaa (ht.zcf _ _ _ h4) (zk h5 ob))))) (by kernel_rfl)) (fun h=>by cases h)
   ·exact zM (path (zk h1 (zaq h2 (zan (zu GPred.zl h3) (zaa (ht.zcf _ _ _ h4) (zk h5 ob))))) (by kernel_rfl)) (zR.okL ht n k _ _ _ _ _ h)
  ·cases h
   exact zx (path (zk h1 ob) (by kernel_rfl)) (fun h=>by cases h)
theorem zah.ok {n:Nat} {t:Tab} (ht:TabOk t (run Tryd.prog own kp X n)):∀(p1:List GPred) (p2:Int) r,zah t n p1 p2=some r→run Tryd.prog own kp X (n+1) 104 [(Sl 3 (GPred.ts p1)),(.fn 96 [(.ref (.v (.int .i64 p2)))])] []=some ((I6 r),[]):=by
 intro p1 p2 r h
 obtain⟨a1,rfl⟩:∃z_,z_=p1:=⟨_,rfl⟩
 obtain⟨a2,rfl⟩:∃z_,z_=p2:=⟨_,rfl⟩
 rw[zah]at h
 obtain⟨a3 | ⟨a4,a5,a6,a7,a8⟩,h1,h⟩:=sm h
 ·cases h
  exact zi Tryd.func104 (zG (zo GPred.zl (l:=a1)) (zbj (lk (sub [1,0,1,0] (zt Tryd.f104)) (by kernel_rfl) (zR.okL ht n n _ _ _ _ _ h1)) ob)) (by kernel_rfl)
 ·cases h
  exact zi Tryd.func104 (zG (zo GPred.zl (l:=a1)) (zbj (lk (sub [1,0,1,0] (zt Tryd.f104)) (by kernel_rfl) (zR.okL ht n n _ _ _ _ _ h1)) ob)) (by kernel_rfl)
theorem zS.okL (ht:TabOk t call) (n:Nat):∀(k:Nat) (a1:List zh) (a2 a3:Int) (r:_),zS t n k a1 a2 a3=some r→loopN (exec (env Tryd.prog 105 Tryd.f105 call) n (sub [1,0,1,0,0] (zt Tryd.f105))) k (mkSt 19 19 [(0,(Sl 5 (zh.ts a1))),(1,(.fn 97 [])),(7,(I6 a2)),(8,(I6 a3))] [])=some (zS.to r)
 | 0,a1,a2,a3,r,h=>by rw[zS]at h;cases h
 | k+1,a1,a2,a3,r,h=>by
  rw[zS]at h
  rcases fk h with ⟨h1,h⟩ | ⟨h1,h⟩
  ·obtain⟨h2,h⟩:=ck h
   obtain⟨⟨a4,a5,a6,a7,a8⟩,h3,h⟩:=sm h
   obtain⟨a9,h4,h⟩:=sm h
   rcases fk h with ⟨h5,h⟩ | ⟨h5,h⟩
   ·cases h
    exact zx (path (zk h1 (zaq h2 (zan (zu zh.zl h3) (zaa (ht.zcg _ _ h4) (zk h5 ob))))) (by kernel_rfl)) (fun h=>by cases h)
   ·exact zM (path (zk h1 (zaq h2 (zan (zu zh.zl h3) (zaa (ht.zcg _ _ h4) (zk h5 ob))))) (by kernel_rfl)) (zS.okL ht n k _ _ _ _ h)
  ·cases h
   exact zx (path (zk h1 ob) (by kernel_rfl)) (fun h=>by cases h)
theorem zai.ok {n:Nat} {t:Tab} (ht:TabOk t (run Tryd.prog own kp X n)):∀(p1:List zh) r,zai t n p1=some r→run Tryd.prog own kp X (n+1) 105 [(Sl 5 (zh.ts p1)),(.fn 97 [])] []=some ((I6 r),[]):=by
 intro p1 r h
 obtain⟨a1,rfl⟩:∃z_,z_=p1:=⟨_,rfl⟩
 rw[zai]at h
 obtain⟨a2 | ⟨a3,a4,a5,a6⟩,h1,h⟩:=sm h
 ·cases h
  exact zi Tryd.func105 (zG (zo zh.zl (l:=a1)) (zbj (lk (sub [1,0,1,0] (zt Tryd.f105)) (by kernel_rfl) (zS.okL ht n n _ _ _ _ h1)) ob)) (by kernel_rfl)
 ·cases h
  exact zi Tryd.func105 (zG (zo zh.zl (l:=a1)) (zbj (lk (sub [1,0,1,0] (zt Tryd.f105)) (by kernel_rfl) (zS.okL ht n n _ _ _ _ h1)) ob)) (by kernel_rfl)
theorem zbn.ok {n:Nat} {t:Tab} (ht:TabOk t (run Tryd.prog own kp X n)):∀(p1:Int) r,zbn t n p1=some r→run Tryd.prog own kp X (n+1) 83 [(I6 p1)] []=some ((Bo r),[]):=by
 intro p1 r h
 obtain⟨a1,rfl⟩:∃z_,z_=p1:=⟨_,rfl⟩
 rw[zbn]at h
 cases h
 exact zi Tryd.func83 ob (by kernel_rfl)
theorem zcf.ok {n:Nat} {t:Tab} (ht:TabOk t (run Tryd.prog own kp X n)):∀(p1:GPred) (p2:Int) r,zcf t n p1 p2=some r→run Tryd.prog own kp X (n+1) 96 [(.t (GPred.t p1)),(.ref (.v (.int .i64 p2)))] []=some ((Bo r),[]):=by
 intro p1 p2 r h
 obtain⟨a1,a2,a3⟩:=p1
 obtain⟨a4,rfl⟩:∃z_,z_=p2:=⟨_,rfl⟩
 rw[zcf]at h
 obtain⟨a5,h1,h⟩:=sm h
 cases h
 exact zi Tryd.func96 (zaa (ht.zcq _ _ _ h1) ob) (by kernel_rfl)
theorem zcg.ok {n:Nat} {t:Tab} (ht:TabOk t (run Tryd.prog own kp X n)):∀(p1:zh) r,zcg t n p1=some r→run Tryd.prog own kp X (n+1) 97 [(.t (zh.t p1))] []=some ((Bo r),[]):=by
 intro p1 r h
 obtain⟨a1,a2,a3,a4,a5⟩:=p1
 rw[zcg]at h
 obtain⟨a6,h1,h⟩:=sm h
 cases h
 exact zi Tryd.func97 (zaa (ht.zbR _ _ h1) ob) (by kernel_rfl)
end Go.Proofs.YtgmidllbkjdnnaaDoor.W
