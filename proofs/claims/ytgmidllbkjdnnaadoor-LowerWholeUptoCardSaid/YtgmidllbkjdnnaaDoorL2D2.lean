/- The proofs of it, part 2. -/
import Derived.Test.YtgmidllbkjdnnaaDoorL2D1
namespace Go.Proofs.YtgmidllbkjdnnaaDoor.W
open Go.Proofs.YtgmidllbkjdnnaaDoor.Flat
set_option linter.unusedVariables false
set_option linter.unusedSimpArgs false
set_option smartUnfolding false
attribute [local irreducible] zaH zaI zaY za0 zaZ zbz zbf za2 zby zcP zbQ zaj zaw zbP zbm zdo quoI zcM zcN zda zbB zdc zcQ zcO zbq zcc zcs zc7 zcL zcK zcI strAt zaN
variable {t:Tab} {call:FuncId→List AV→List AV→Option (AV × List AV)}
theorem zcq.ok {n:Nat} {t:Tab} (ht:TabOk t (run Tryd.prog own kp X n)):∀(p1:GPred) r,zcq t n p1=some r→run Tryd.prog own kp X (n+1) 73 [(.t (GPred.t p1))] []=some ((Bo r),[]):=by
 intro p1 r h
 obtain⟨a1,a2,a3⟩:=p1
 rw[zcq]at h
 rcases fk h with ⟨h1,h⟩ | ⟨h1,h⟩
 ·cases h
  exact zl Tryd.func73 (zT h1 (zJ (zq zh.zk (l:=a2)) (zT h1 (zJ (zq GPred.zk (l:=a3)) (zT h1 ob))))) (by kernel_rfl)
 ·cases h
  exact zl Tryd.func73 (zaB h1 9 ob) (by kernel_rfl)
theorem zaj.ok (ht:TabOk t call) (n:Nat) (a1:Bool) (a2:Int) (a3:List ByteArray) (a4:List Int) (a5 a6:Int) (a7:ByteArray) (a8 a9:List zh) (a10:Int) (a11:List zh) (a12:List GPred) (a13:List (List GStep)) (a14:List GBy) (a15:List ByteArray) (r:_) (h:zaj t n a1 a2 a3 a4 a5 a6 a7 a8 a9 a10 a11 a12 a13 a14 a15=some r):exec (env Tryd.prog 70 Tryd.f70 call) n (sub [1,0,1,0,1,1,1,1,1] (zt Tryd.f70)) (mkSt 78 78 [(1,(.ptr 1 0 [] 0)),(64,(Bo a1))] [(1,(.t (.st [(.v (.int .i64 a2)),(.sl false 1 (texts a3)),(.sl false 1 (zz a4)),(.st [(.v (.int .i64 a5)),(.v (.int .i64 a6)),(.v (.string a7)),(.sl false 5 (zh.ts a8)),(.sl false 5 (zh.ts a9))]),(.st [(.v (.int .i64 a10)),(.sl false 5 (zh.ts a11)),(.sl false 3 (GPred.ts a12))]),(.sl false 1 (zo a13)),(.sl false 4 (GBy.ts a14)),(.sl false 1 (texts a15))])))])=some (zaj.to r):=by
 rw[zaj]at h
 rcases fk h with ⟨h1,h⟩ | ⟨h1,h⟩
 ·rcases fk h with ⟨h2,h⟩ | ⟨h2,h⟩
  ·cases h
   exact path (zi h1 (zaB h2 5 ob)) (by kernel_rfl)
  ·obtain⟨a16,h3,h⟩:=sm h
   cases h
   exact path (zi h1 (zT h2 (zX (ht.zF _ _ h3) (zaS h2 ob)))) (by kernel_rfl)
 ·cases h
  exact path (zi h1 ob) (by kernel_rfl)
theorem zbw.ok {n:Nat} {t:Tab} (ht:TabOk t (run Tryd.prog own kp X n)):∀(p1:GStep) r,zbw t n p1=some r→run Tryd.prog own kp X (n+1) 70 [(.t (GStep.t p1))] []=some ((Bo r),[]):=by
 intro p1 r h
 obtain⟨a1,a2,a3,⟨a4,a5,a6,a7,a8⟩,⟨a9,a10,a11⟩,a12,a13,a14⟩:=p1
 rw[zbw]at h
 rcases fk h with ⟨h1,h⟩ | ⟨h1,h⟩
 ·obtain⟨h2,h⟩:=ck h
  obtain⟨a15,h3,h⟩:=sm h
  rcases fk h with ⟨h4,h⟩ | ⟨h4,h⟩
  ·obtain⟨h5,h⟩:=ck h
   obtain⟨a16,h6,h⟩:=sm h
   rcases fk h with ⟨h7,h⟩ | ⟨h7,h⟩
   ·cases h
    exact zl Tryd.func70 (zi h1 (zah h2 (zW (zu zw h3) (zT h4 (zah h5 (zW (zu zw h6) (zT h4 (zaB h7 9 (zi h4 (zi h7 (zi h4 ob))))))))))) (by kernel_rfl)
   ·cases h
    exact zl Tryd.func70 (zi h1 (zah h2 (zW (zu zw h3) (zT h4 (zah h5 (zW (zu zw h6) (zT h4 (zT h7 (zah h5 (zW (zu zw h6) (zaJ h7 (zah h2 (zW (zu zw h3) (zaS h7 (zi h4 (zi h7 (zi h4 ob))))))))))))))))) (by kernel_rfl)
  ·cases h
   exact zl Tryd.func70 (zi h1 (zah h2 (zW (zu zw h3) (zaB h4 8 ob)))) (by kernel_rfl)
 ·rcases fk h with ⟨h8,h⟩ | ⟨h8,h⟩
  ·obtain⟨h9,h⟩:=ck h
   obtain⟨a17,h10,h⟩:=sm h
   have o4 {os} (x:Obls (env Tryd.prog 70 Tryd.f70 (run Tryd.prog own kp X n)) n os):=zi h1 (zi h8 (zah h9 (zW (zu zw h10) x)))
   rcases fk h with ⟨h11,h⟩ | ⟨h11,h⟩
   ·obtain⟨h12,h⟩:=ck h
    obtain⟨a18,h13,h⟩:=sm h
    have o12 {os} (x:Obls (env Tryd.prog 70 Tryd.f70 (run Tryd.prog own kp X n)) n os):=o4 (zT h11 (zah h12 (zW (zu zw h13) (zT h11 x))))
    rcases fk h with ⟨h14,h⟩ | ⟨h14,h⟩
    ·have o20 {os} (x:Obls (env Tryd.prog 70 Tryd.f70 (run Tryd.prog own kp X n)) n os):=o12 (zT h14 (zah h12 (zW (zu zw h13) (zT h14 x))))
     rcases fk h with ⟨h15,h⟩ | ⟨h15,h⟩
     ·rcases fk h with ⟨h16,h⟩ | ⟨h16,h⟩
      ·cases h
       exact zl Tryd.func70 (o20 (zT h15 (zJ (zq zy (l:=a12)) (zaS h15 (zaB h16 5 (zi h15 (zi h16 (zi h15 ob)))))))) (by kernel_rfl)
      ·cases h
       exact zl Tryd.func70 (o20 (zT h15 (zJ (zq zy (l:=a12)) (zaS h15 (zT h16 (zah h9 (zW (zu zw h10) (zaS h16 (zi h15 (zi h16 (zi h15 ob))))))))))) (by kernel_rfl)
     ·cases h
      exact zl Tryd.func70 (o20 (zaB h15 7 ob)) (by kernel_rfl)
    ·cases h
     exact zl Tryd.func70 (o12 (zaB h14 6 (zaB (rfl:false=false) 7 ob))) (by kernel_rfl)
   ·cases h
    exact zl Tryd.func70 (o4 (zaB h11 6 (zaB (rfl:false=false) 13 ob))) (by kernel_rfl)
  ·rcases fk h with ⟨h17,h⟩ | ⟨h17,h⟩
   ·obtain⟨a19 | _,h18,h⟩:=sm h
    ·cases h
     exact zl Tryd.func70 (zi h1 (zi h8 (zi h17 (zaq (zaj.ok ht n _ _ _ _ _ _ _ _ _ _ _ _ _ _ _ _ h18) ob)))) (by kernel_rfl)
    ·cases h
     exact zl Tryd.func70 (zi h1 (zi h8 (zi h17 (zaq (zaj.ok ht n _ _ _ _ _ _ _ _ _ _ _ _ _ _ _ _ h18) ob)))) (by kernel_rfl)
   ·rcases fk h with ⟨h19,h⟩ | ⟨h19,h⟩
    ·obtain⟨a20 | _,h20,h⟩:=sm h
     ·cases h
      exact zl Tryd.func70 (zi h1 (zi h8 (zi h17 (zi h19 (zaq (zaj.ok ht n _ _ _ _ _ _ _ _ _ _ _ _ _ _ _ _ h20) ob))))) (by kernel_rfl)
     ·cases h
      exact zl Tryd.func70 (zi h1 (zi h8 (zi h17 (zi h19 (zaq (zaj.ok ht n _ _ _ _ _ _ _ _ _ _ _ _ _ _ _ _ h20) ob))))) (by kernel_rfl)
    ·rcases fk h with ⟨h21,h⟩ | ⟨h21,h⟩
     ·obtain⟨a21 | _,h22,h⟩:=sm h
      ·cases h
       exact zl Tryd.func70 (zi h1 (zi h8 (zi h17 (zi h19 (zi h21 (zaq (zaj.ok ht n _ _ _ _ _ _ _ _ _ _ _ _ _ _ _ _ h22) ob)))))) (by kernel_rfl)
      ·cases h
       exact zl Tryd.func70 (zi h1 (zi h8 (zi h17 (zi h19 (zi h21 (zaq (zaj.ok ht n _ _ _ _ _ _ _ _ _ _ _ _ _ _ _ _ h22) ob)))))) (by kernel_rfl)
     ·obtain⟨a22 | _,h23,h⟩:=sm h
      ·cases h
       exact zl Tryd.func70 (zi h1 (zi h8 (zi h17 (zi h19 (zi h21 (zaq (zaj.ok ht n _ _ _ _ _ _ _ _ _ _ _ _ _ _ _ _ h23) ob)))))) (by kernel_rfl)
      ·cases h
       exact zl Tryd.func70 (zi h1 (zi h8 (zi h17 (zi h19 (zi h21 (zaq (zaj.ok ht n _ _ _ _ _ _ _ _ _ _ _ _ _ _ _ _ h23) ob)))))) (by kernel_rfl)
theorem zbu.ok (ht:TabOk t call) (n:Nat) (a1 a2:Int) (a3:ByteArray) (a4:List GStep) (a5:Bool) (r:_) (h:zbu t n a1 a2 a3 a4 a5=some r):exec (env Tryd.prog 75 Tryd.f75 call) n (sub [1,1] (zt Tryd.f75)) (mkSt 50 50 [(2,(I6 a1)),(3,(.ptr 3 0 [] 0))] [(3,(.t (.st [(.v (.int .i64 a2)),(.v (.string a3)),(.sl false 14 (GStep.ts a4)),(.v (.bool a5))])))])=some (zbu.to r):=by
 rw[zbu]at h
 rcases fk h with ⟨h1,h⟩ | ⟨h1,h⟩
 ·cases h
  exact path (zi h1 ob) (by kernel_rfl)
 ·rcases fk h with ⟨h2,h⟩ | ⟨h2,h⟩
  ·obtain⟨a6,rfl⟩:∃z_,z_=r:=⟨_,rfl⟩
   have h3:=h
   exact path (zi h1 (zi h2 (zX (ht.zcF _ _ h3) ob))) (by kernel_rfl)
  ·rcases fk h with ⟨h4,h⟩ | ⟨h4,h⟩
   ·obtain⟨a7,rfl⟩:∃z_,z_=r:=⟨_,rfl⟩
    have h5:=h
    exact path (zi h1 (zi h2 (zi h4 (zX (ht.zaX _ _ _ h5) ob)))) (by kernel_rfl)
   ·cases h
    exact path (zi h1 (zi h2 (zi h4 ob))) (by kernel_rfl)
theorem zdH.ok {n:Nat} {t:Tab} (ht:TabOk t (run Tryd.prog own kp X n)):∀(p1:GBy) (p2:Bool) (p3:Int) r,zdH t n p1 p2 p3=some r→run Tryd.prog own kp X (n+1) 75 [(.t (GBy.t p1)),(Bo p2),(I6 p3)] []=some ((Bo r),[]):=by
 intro p1 p2 p3 r h
 obtain⟨a1,a2,a3,a4⟩:=p1
 obtain⟨a5,rfl⟩:∃z_,z_=p2:=⟨_,rfl⟩
 obtain⟨a6,rfl⟩:∃z_,z_=p3:=⟨_,rfl⟩
 rw[zdH]at h
 rcases fk h with ⟨h1,h⟩ | ⟨h1,h⟩
 ·have o3 {os} (x:Obls (env Tryd.prog 75 Tryd.f75 (run Tryd.prog own kp X n)) n os):=zT h1 x
  rcases fk h with ⟨h2,h⟩ | ⟨h2,h⟩
  ·have o7 {os} (x:Obls (env Tryd.prog 75 Tryd.f75 (run Tryd.prog own kp X n)) n os):=o3 (zaJ (ng h2) x)
   rcases fk h with ⟨h3,h⟩ | ⟨h3,h⟩
   ·have o13 {os} (x:Obls (env Tryd.prog 75 Tryd.f75 (run Tryd.prog own kp X n)) n os):=o7 (zT h3 (zi (ng h2) (zi h3 (zi (ng h2) x))))
    rcases fk h with ⟨h4,h⟩ | ⟨h4,h⟩
    ·rcases fk h with ⟨h5,h⟩ | ⟨h5,h⟩
     ·have o25 {os} (x:Obls (env Tryd.prog 75 Tryd.f75 (run Tryd.prog own kp X n)) n os):=o13 (zaJ (ng h4) (zT h5 (zJ (zq GStep.zk (l:=a3)) (zi h5 (zi (ng h4) (zi h5 (zi (ng h4) x)))))))
      rcases fk h with ⟨h6,h⟩ | ⟨h6,h⟩
      ·cases h
       exact zl Tryd.func75 (o25 (zi h6 ob)) (by kernel_rfl)
      ·obtain⟨a7,rfl⟩:∃z_,z_=r:=⟨_,rfl⟩
       have h7:=h
       exact zl Tryd.func75 (o25 (zi h6 (zaq (zbu.ok ht n _ _ _ _ _ _ h7) ob))) (by kernel_rfl)
     ·obtain⟨a8,rfl⟩:∃z_,z_=r:=⟨_,rfl⟩
      have h8:=h
      exact zl Tryd.func75 (o13 (zaJ (ng h4) (zaJ h5 (zi (ng h4) (zi h5 (zi (ng h4) (zi (rfl:false=false) (zaq (zbu.ok ht n _ _ _ _ _ _ h8) ob)))))))) (by kernel_rfl)
    ·cases h
     exact zl Tryd.func75 (o13 (zaB (ng h4) 6 (zdF 1 ob))) (by kernel_rfl)
   ·have o17 {os} (x:Obls (env Tryd.prog 75 Tryd.f75 (run Tryd.prog own kp X n)) n os):=o7 (zT h3 (zi (ng h2) (zi h3 (zi (ng h2) (zaJ (rfl:false=false) x)))))
    rcases fk h with ⟨h9,h⟩ | ⟨h9,h⟩
    ·rcases fk h with ⟨h10,h⟩ | ⟨h10,h⟩
     ·cases h
      exact zl Tryd.func75 (o17 (zT h9 (zJ (zq GStep.zk (l:=a3)) (zi h9 (zi (rfl:false=false) (zi h9 (zi (rfl:false=false) (zi h10 ob)))))))) (by kernel_rfl)
     ·obtain⟨a9,rfl⟩:∃z_,z_=r:=⟨_,rfl⟩
      have h11:=h
      exact zl Tryd.func75 (o17 (zT h9 (zJ (zq GStep.zk (l:=a3)) (zi h9 (zi (rfl:false=false) (zi h9 (zi (rfl:false=false) (zi h10 (zaq (zbu.ok ht n _ _ _ _ _ _ h11) ob))))))))) (by kernel_rfl)
    ·obtain⟨a10,rfl⟩:∃z_,z_=r:=⟨_,rfl⟩
     have h12:=h
     exact zl Tryd.func75 (o17 (zaJ h9 (zi (rfl:false=false) (zi h9 (zaS (rfl:false=false) (zaq (zbu.ok ht n _ _ _ _ _ _ h12) ob)))))) (by kernel_rfl)
  ·cases h
   exact zl Tryd.func75 (o3 (zaB (ng h2) 6 (zdF 7 ob))) (by kernel_rfl)
 ·have o7 {os} (x:Obls (env Tryd.prog 75 Tryd.f75 (run Tryd.prog own kp X n)) n os):=zT h1 (zaJ (rfl:false=false) x)
  rcases fk h with ⟨h13,h⟩ | ⟨h13,h⟩
  ·have o13 {os} (x:Obls (env Tryd.prog 75 Tryd.f75 (run Tryd.prog own kp X n)) n os):=o7 (zT h13 (zi (rfl:false=false) (zi h13 (zi (rfl:false=false) x))))
   rcases fk h with ⟨h14,h⟩ | ⟨h14,h⟩
   ·rcases fk h with ⟨h15,h⟩ | ⟨h15,h⟩
    ·have o25 {os} (x:Obls (env Tryd.prog 75 Tryd.f75 (run Tryd.prog own kp X n)) n os):=o13 (zaJ (ng h14) (zT h15 (zJ (zq GStep.zk (l:=a3)) (zi h15 (zi (ng h14) (zi h15 (zi (ng h14) x)))))))
     rcases fk h with ⟨h16,h⟩ | ⟨h16,h⟩
     ·cases h
      exact zl Tryd.func75 (o25 (zi h16 ob)) (by kernel_rfl)
     ·obtain⟨a11,rfl⟩:∃z_,z_=r:=⟨_,rfl⟩
      have h17:=h
      exact zl Tryd.func75 (o25 (zi h16 (zaq (zbu.ok ht n _ _ _ _ _ _ h17) ob))) (by kernel_rfl)
    ·obtain⟨a12,rfl⟩:∃z_,z_=r:=⟨_,rfl⟩
     have h18:=h
     exact zl Tryd.func75 (o13 (zaJ (ng h14) (zaJ h15 (zi (ng h14) (zi h15 (zi (ng h14) (zi (rfl:false=false) (zaq (zbu.ok ht n _ _ _ _ _ _ h18) ob)))))))) (by kernel_rfl)
   ·cases h
    exact zl Tryd.func75 (o13 (zaB (ng h14) 6 (zdF 1 ob))) (by kernel_rfl)
  ·have o17 {os} (x:Obls (env Tryd.prog 75 Tryd.f75 (run Tryd.prog own kp X n)) n os):=o7 (zT h13 (zi (rfl:false=false) (zi h13 (zaB (rfl:false=false) 5 x))))
   rcases fk h with ⟨h19,h⟩ | ⟨h19,h⟩
   ·rcases fk h with ⟨h20,h⟩ | ⟨h20,h⟩
    ·cases h
     exact zl Tryd.func75 (o17 (zT h19 (zJ (zq GStep.zk (l:=a3)) (zi h19 (zi (rfl:false=false) (zi h19 (zi (rfl:false=false) (zi h20 ob)))))))) (by kernel_rfl)
    ·obtain⟨a13,rfl⟩:∃z_,z_=r:=⟨_,rfl⟩
     have h21:=h
     exact zl Tryd.func75 (o17 (zT h19 (zJ (zq GStep.zk (l:=a3)) (zi h19 (zi (rfl:false=false) (zi h19 (zi (rfl:false=false) (zi h20 (zaq (zbu.ok ht n _ _ _ _ _ _ h21) ob))))))))) (by kernel_rfl)
   ·obtain⟨a14,rfl⟩:∃z_,z_=r:=⟨_,rfl⟩
    have h22:=h
    exact zl Tryd.func75 (o17 (zaJ h19 (zi (rfl:false=false) (zi h19 (zaS (rfl:false=false) (zaq (zbu.ok ht n _ _ _ _ _ _ h22) ob)))))) (by kernel_rfl)
theorem zdi.ok (ht:TabOk t call) (n:Nat) (a1 a2:Int) (a3:ByteArray) (a4 a5:List zh) (a6 a7:Int) (a8:ByteArray) (a9 a10:List zh) (a11:Int) (r:_) (h:zdi t n a1 a2 a3 a4 a5 a6 a7 a8 a9 a10 a11=some r):exec (env Tryd.prog 78 Tryd.f78 call) n (sub [1,1] (zt Tryd.f78)) (mkSt 48 48 [(3,(.ptr 3 0 [] 0)),(4,(.ptr 4 0 [] 0)),(5,(.ptr 5 0 [] 0))] [(3,(.t (.st [(.v (.int .i64 a1)),(.v (.int .i64 a2)),(.v (.string a3)),(.sl false 5 (zh.ts a4)),(.sl false 5 (zh.ts a5))]))),(4,(.t (.st [(.v (.int .i64 a6)),(.v (.int .i64 a7)),(.v (.string a8)),(.sl false 5 (zh.ts a9)),(.sl false 5 (zh.ts a10))]))),(5,(I6 a11))])=some (zdi.to r):=by
 rw[zdi]at h
 obtain⟨a12,h1,h⟩:=sm h
 obtain⟨a13,h2,h⟩:=sm h
 obtain⟨a14,rfl⟩:∃z_,z_=r:=⟨_,rfl⟩
 have h3:=h
 exact path (zX (ht.zG _ _ _ _ h1) (zX (ht.zG _ _ _ _ h2) (zX (ht.zdg _ _ h3) ob))) (by kernel_rfl)
theorem zbk.ok {n:Nat} {t:Tab} (ht:TabOk t (run Tryd.prog own kp X n)):∀(p1:zh) (p2:zh) (p3:Int) r,zbk t n p1 p2 p3=some r→run Tryd.prog own kp X (n+1) 78 [(.t (zh.t p1)),(.t (zh.t p2)),(I6 p3)] []=some ((I6 r),[]):=by
 intro p1 p2 p3 r h
 obtain⟨a1,a2,a3,a4,a5⟩:=p1
 obtain⟨a6,a7,a8,a9,a10⟩:=p2
 obtain⟨a11,rfl⟩:∃z_,z_=p3:=⟨_,rfl⟩
 rw[zbk]at h
 obtain⟨a12,h1,h⟩:=sm h
 obtain⟨a13,h2,h⟩:=sm h
 obtain⟨a14,h3,h⟩:=sm h
 obtain⟨a15,h4,h⟩:=sm h
 have o4 {os} (x:Obls (env Tryd.prog 78 Tryd.f78 (run Tryd.prog own kp X n)) n os):=zX (ht.cmp_Compare_int _ _ _ h1) (zX (ht.cmp_Compare_int _ _ _ h2) (zX (ht.strings_Compare _ _ _ h3) (zX (ht.zdg _ _ h4) x)))
 rcases fk h with ⟨h5,h⟩ | ⟨h5,h⟩
 ·cases h
  exact zl Tryd.func78 (o4 (zT h5 (zdF 1 ob))) (by kernel_rfl)
 ·rcases fk h with ⟨h6,h⟩ | ⟨h6,h⟩
  ·cases h
   exact zl Tryd.func78 (o4 (zT h5 (zi h6 ob))) (by kernel_rfl)
  ·obtain⟨a16,rfl⟩:∃z_,z_=r:=⟨_,rfl⟩
   have h7:=h
   exact zl Tryd.func78 (o4 (zT h5 (zi h6 (zaq (zdi.ok ht n _ _ _ _ _ _ _ _ _ _ _ _ h7) ob)))) (by kernel_rfl)
theorem zQ.okL (ht:TabOk t call) (n:Nat):∀(k:Nat) (a1:List ByteArray) (a2 a3:Int) (r:_),zQ t n k a1 a2 a3=some r→loopN (exec (env Tryd.prog 81 Tryd.f81 call) n (sub [1,0,1,0,0] (zt Tryd.f81))) k (mkSt 19 19 [(0,(Sl 1 (texts a1))),(1,(.fn 66 [])),(7,(I6 a2)),(8,(I6 a3))] [])=some (zQ.to r)
 | 0,a1,a2,a3,r,h=>by rw[zQ]at h;cases h
 | k+1,a1,a2,a3,r,h=>by
  rw[zQ]at h
  rcases fk h with ⟨h1,h⟩ | ⟨h1,h⟩
  ·obtain⟨h2,h⟩:=ck h
   obtain⟨a4,h3,h⟩:=sm h
   obtain⟨a5,h4,h⟩:=sm h
   rcases fk h with ⟨h5,h⟩ | ⟨h5,h⟩
   ·cases h
    exact zx (path (zi h1 (zah h2 (zW (zu zV h3) (zX (ht.zcA _ _ h4) (zi h5 ob))))) (by kernel_rfl)) (fun h=>by cases h)
   ·exact zD (path (zi h1 (zah h2 (zW (zu zV h3) (zX (ht.zcA _ _ h4) (zi h5 ob))))) (by kernel_rfl)) (zQ.okL ht n k _ _ _ _ h)
  ·cases h
   exact zx (path (zi h1 ob) (by kernel_rfl)) (fun h=>by cases h)
theorem zae.ok {n:Nat} {t:Tab} (ht:TabOk t (run Tryd.prog own kp X n)):∀(p1:List ByteArray) r,zae t n p1=some r→run Tryd.prog own kp X (n+1) 81 [(Sl 1 (texts p1)),(.fn 66 [])] []=some ((I6 r),[]):=by
 intro p1 r h
 obtain⟨a1,rfl⟩:∃z_,z_=p1:=⟨_,rfl⟩
 rw[zae]at h
 obtain⟨a2 | ⟨a3,a4,a5,a6⟩,h1,h⟩:=sm h
 ·cases h
  exact zl Tryd.func81 (zJ (zq zV (l:=a1)) (za5 (lk (sub [1,0,1,0] (zt Tryd.f81)) (by kernel_rfl) (zQ.okL ht n n _ _ _ _ h1)) ob)) (by kernel_rfl)
 ·cases h
  exact zl Tryd.func81 (zJ (zq zV (l:=a1)) (za5 (lk (sub [1,0,1,0] (zt Tryd.f81)) (by kernel_rfl) (zQ.okL ht n n _ _ _ _ h1)) ob)) (by kernel_rfl)
theorem zaC.okL (ht:TabOk t call) (n:Nat):∀(k:Nat) (a1:Int) (a2:List zh) (a3 a4 a5 a6:Int) (a7:ByteArray) (a8 a9:List zh) (r:_),zaC t n k a1 a2 a3 a4 a5 a6 a7 a8 a9=some r→loopN (exec (env Tryd.prog 84 Tryd.f84 call) n (sub [1,1,1,1,1,1,0,1,0,0] (zt Tryd.f84))) k (mkSt 147 147 [(1,(I6 a1)),(2,(.ptr 2 0 [] 0)),(109,(Sl 5 (zh.ts a2))),(110,(I6 a3)),(111,(I6 a4))] [(2,(.t (.st [(.v (.int .i64 a5)),(.v (.int .i64 a6)),(.v (.string a7)),(.sl false 5 (zh.ts a8)),(.sl false 5 (zh.ts a9))])))])=some (zaC.to r)
 | 0,a1,a2,a3,a4,a5,a6,a7,a8,a9,r,h=>by rw[zaC]at h;cases h
 | k+1,a1,a2,a3,a4,a5,a6,a7,a8,a9,r,h=>by
  rw[zaC]at h
  rcases fk h with ⟨h1,h⟩ | ⟨h1,h⟩
  ·obtain⟨h2,h⟩:=ck h
   obtain⟨⟨a10,a11,a12,a13,a14⟩,h3,h⟩:=sm h
   obtain⟨a15,h4,h⟩:=sm h
   have o4 {os} (x:Obls (env Tryd.prog 84 Tryd.f84 call) n os):=zi h1 (zah h2 (zW (zu zh.zk h3) (zX (ht.zbl _ _ _ h4) x)))
   rcases fk h with ⟨h5,h⟩ | ⟨h5,h⟩
   ·rcases fk h with ⟨h6,h⟩ | ⟨h6,h⟩
    ·rcases fk h with ⟨h7,h⟩ | ⟨h7,h⟩
     ·have o15 {os} (x:Obls (env Tryd.prog 84 Tryd.f84 call) n os):=o4 (zi (ng h5) (zT h6 (zaJ h7 (zJ (zq zh.zk (l:=a8)) (zaS h7 x)))))
      rcases fk h with ⟨h8,h⟩ | ⟨h8,h⟩
      ·obtain⟨h9,h⟩:=ck h
       obtain⟨⟨a16,a17,a18,a19,a20⟩,h10,h⟩:=sm h
       obtain⟨a21,h11,h⟩:=sm h
       have o28 {os} (x:Obls (env Tryd.prog 84 Tryd.f84 call) n os):=o15 (zaB h8 5 (zah h9 (zW (zu zh.zk h10) (zT h8 (zX (ht.zdu _ _ _ h11) (zaS h8 x))))))
       rcases fk h with ⟨h12,h⟩ | ⟨h12,h⟩
       ·cases h
        exact zx (path (o28 (zi h12 ob)) (by kernel_rfl)) (fun h=>by cases h)
       ·exact zD (path (o28 (zi h12 ob)) (by kernel_rfl)) (zaC.okL ht n k _ _ _ _ _ _ _ _ _ _ h)
      ·exact zD (path (o15 (zaB h8 10 (zi (rfl:false=false) ob))) (by kernel_rfl)) (zaC.okL ht n k _ _ _ _ _ _ _ _ _ _ h)
     ·exact zD (path (o4 (zi (ng h5) (zT h6 (zaB h7 6 (zaB (rfl:false=false) 11 ob))))) (by kernel_rfl)) (zaC.okL ht n k _ _ _ _ _ _ _ _ _ _ h)
    ·exact zD (path (o4 (zi (ng h5) (zT h6 (zaB (rfl:false=false) 17 ob)))) (by kernel_rfl)) (zaC.okL ht n k _ _ _ _ _ _ _ _ _ _ h)
   ·cases h
    exact zx (path (o4 (zi (ng h5) ob)) (by kernel_rfl)) (fun h=>by cases h)
  ·cases h
   exact zx (path (zi h1 ob) (by kernel_rfl)) (fun h=>by cases h)
theorem za7.ok (ht:TabOk t call) (n:Nat) (a1 a2 a3:Int) (a4:ByteArray) (a5 a6:List zh) (r:_) (h:za7 t n a1 a2 a3 a4 a5 a6=some r):exec (env Tryd.prog 84 Tryd.f84 call) n (sub [1,1,1,1,1,1] (zt Tryd.f84)) (mkSt 147 147 [(1,(I6 a1)),(2,(.ptr 2 0 [] 0))] [(2,(.t (.st [(.v (.int .i64 a2)),(.v (.int .i64 a3)),(.v (.string a4)),(.sl false 5 (zh.ts a5)),(.sl false 5 (zh.ts a6))])))])=some (za7.to r):=by
 rw[za7]at h
 obtain⟨a7,h1,h⟩:=sm h
 obtain⟨a8 | ⟨a9,a10,a11,a12,a13,a14,a15,a16,a17,a18⟩,h2,h⟩:=sm h
 ·cases h
  exact path (zX (ht.zau _ _ h1) (zJ (zq zh.zk (l:=a7)) (za5 (lk (sub [1,1,1,1,1,1,0,1,0] (zt Tryd.f84)) (by kernel_rfl) (zaC.okL ht n n _ _ _ _ _ _ _ _ _ _ h2)) ob))) (by kernel_rfl)
 ·cases h
  exact path (zX (ht.zau _ _ h1) (zJ (zq zh.zk (l:=a7)) (za5 (lk (sub [1,1,1,1,1,1,0,1,0] (zt Tryd.f84)) (by kernel_rfl) (zaC.okL ht n n _ _ _ _ _ _ _ _ _ _ h2)) ob))) (by kernel_rfl)
theorem zbN.ok (ht:TabOk t call) (n:Nat) (a1 a2 a3:Int) (a4:ByteArray) (a5 a6:List zh) (r:_) (h:zbN t n a1 a2 a3 a4 a5 a6=some r):exec (env Tryd.prog 84 Tryd.f84 call) n (sub [1,1,1,1,1] (zt Tryd.f84)) (mkSt 147 147 [(1,(I6 a1)),(2,(.ptr 2 0 [] 0))] [(2,(.t (.st [(.v (.int .i64 a2)),(.v (.int .i64 a3)),(.v (.string a4)),(.sl false 5 (zh.ts a5)),(.sl false 5 (zh.ts a6))])))])=some (zbN.to r):=by
 rw[zbN]at h
 rcases fk h with ⟨h1,h⟩ | ⟨h1,h⟩
 ·cases h
  exact path (zJ (zq zh.zk (l:=a5)) (zaB h1 6 (zdF 7 ob))) (by kernel_rfl)
 ·have o5 {os} (x:Obls (env Tryd.prog 84 Tryd.f84 call) n os):=zJ (zq zh.zk (l:=a5)) (zaJ h1 x)
  rcases fk h with ⟨h2,h⟩ | ⟨h2,h⟩
  ·have o17 {os} (x:Obls (env Tryd.prog 84 Tryd.f84 call) n os):=o5 (zT h2 (zJ (zq zh.zk (l:=a6)) (zT h2 (zJ (zq zh.zk (l:=a5)) (zi h2 (zi h1 (zi h2 (zi h1 x))))))))
   rcases fk h with ⟨h3,h⟩ | ⟨h3,h⟩
   ·cases h
    exact path (o17 (zaB h3 6 (zdF 1 ob))) (by kernel_rfl)
   ·rcases fk h with ⟨h4,h⟩ | ⟨h4,h⟩
    ·rcases fk h with ⟨h5,h⟩ | ⟨h5,h⟩
     ·cases h
      exact path (o17 (zaJ h3 (zT h4 (zJ (zq zh.zk (l:=a6)) (zi h4 (zi h3 (zi h4 (zi h3 (zi h5 ob))))))))) (by kernel_rfl)
     ·obtain⟨a7,rfl⟩:∃z_,z_=r:=⟨_,rfl⟩
      have h6:=h
      exact path (o17 (zaJ h3 (zT h4 (zJ (zq zh.zk (l:=a6)) (zi h4 (zi h3 (zi h4 (zi h3 (zi h5 (zaq (za7.ok ht n _ _ _ _ _ _ _ h6) ob)))))))))) (by kernel_rfl)
    ·obtain⟨a8,rfl⟩:∃z_,z_=r:=⟨_,rfl⟩
     have h7:=h
     exact path (o17 (zaJ h3 (zaJ h4 (zi h3 (zi h4 (zi h3 (zi (rfl:false=false) (zaq (za7.ok ht n _ _ _ _ _ _ _ h7) ob)))))))) (by kernel_rfl)
  ·have o19 {os} (x:Obls (env Tryd.prog 84 Tryd.f84 call) n os):=o5 (zaB h2 7 (zi h1 (zi h2 (zi h1 (zaJ (rfl:false=false) x)))))
   rcases fk h with ⟨h8,h⟩ | ⟨h8,h⟩
   ·rcases fk h with ⟨h9,h⟩ | ⟨h9,h⟩
    ·cases h
     exact path (o19 (zT h8 (zJ (zq zh.zk (l:=a6)) (zi h8 (zi (rfl:false=false) (zi h8 (zi (rfl:false=false) (zi h9 ob)))))))) (by kernel_rfl)
    ·obtain⟨a9,rfl⟩:∃z_,z_=r:=⟨_,rfl⟩
     have h10:=h
     exact path (o19 (zT h8 (zJ (zq zh.zk (l:=a6)) (zi h8 (zi (rfl:false=false) (zi h8 (zi (rfl:false=false) (zi h9 (zaq (za7.ok ht n _ _ _ _ _ _ _ h10) ob))))))))) (by kernel_rfl)
   ·obtain⟨a10,rfl⟩:∃z_,z_=r:=⟨_,rfl⟩
    have h11:=h
    exact path (o19 (zaJ h8 (zi (rfl:false=false) (zi h8 (zaS (rfl:false=false) (zaq (za7.ok ht n _ _ _ _ _ _ _ h11) ob)))))) (by kernel_rfl)
theorem zbv.ok (ht:TabOk t call) (n:Nat) (a1:Int) (a2 a3:Bool) (a4 a5:Int) (a6:ByteArray) (a7 a8:List zh) (r:_) (h:zbv t n a1 a2 a3 a4 a5 a6 a7 a8=some r):exec (env Tryd.prog 84 Tryd.f84 call) n (sub [1,1,1,1] (zt Tryd.f84)) (mkSt 147 147 [(1,(I6 a1)),(2,(.ptr 2 0 [] 0)),(5,(Bo a2)),(6,(Bo a3))] [(2,(.t (.st [(.v (.int .i64 a4)),(.v (.int .i64 a5)),(.v (.string a6)),(.sl false 5 (zh.ts a7)),(.sl false 5 (zh.ts a8))])))])=some (zbv.to r):=by
 rw[zbv]at h
 rcases fk h with ⟨h1,h⟩ | ⟨h1,h⟩
 ·have o9 {os} (x:Obls (env Tryd.prog 84 Tryd.f84 call) n os):=zaJ (ng h1) (zaB (rfl:false=false) 5 x)
  rcases fk h with ⟨h2,h⟩ | ⟨h2,h⟩
  ·cases h
   exact path (o9 (zaB h2 6 (zdF 6 ob))) (by kernel_rfl)
  ·have o21 {os} (x:Obls (env Tryd.prog 84 Tryd.f84 call) n os):=o9 (zaS h2 (zi h1 (zi h2 (zi h1 (zi h2 (zdF 3 (zi h2 (zdF 1 (zi h2 x)))))))))
   rcases fk h with ⟨h3,h⟩ | ⟨h3,h⟩
   ·cases h
    exact path (o21 (zaB h3 5 (zdF 1 ob))) (by kernel_rfl)
   ·rcases fk h with ⟨h4,h⟩ | ⟨h4,h⟩
    ·obtain⟨a9,rfl⟩:∃z_,z_=r:=⟨_,rfl⟩
     have h5:=h
     exact path (o21 (zT h3 (zaB (ng h4) 8 (zi h3 (zi (ng h4) (zi h3 (zi (rfl:false=false) (zaq (zbN.ok ht n _ _ _ _ _ _ _ h5) ob)))))))) (by kernel_rfl)
    ·have o37 {os} (x:Obls (env Tryd.prog 84 Tryd.f84 call) n os):=o21 (zT h3 (zT (ng h4) (zJ (zq zh.zk (l:=a7)) (zT (ng h4) (zJ (zq zh.zk (l:=a8)) (zaS (ng h4) (zi h3 (zi (ng h4) (zi h3 x)))))))))
     rcases fk h with ⟨h6,h⟩ | ⟨h6,h⟩
     ·cases h
      exact path (o37 (zi h6 ob)) (by kernel_rfl)
     ·obtain⟨a10,rfl⟩:∃z_,z_=r:=⟨_,rfl⟩
      have h7:=h
      exact path (o37 (zi h6 (zaq (zbN.ok ht n _ _ _ _ _ _ _ h7) ob))) (by kernel_rfl)
 ·have o4 {os} (x:Obls (env Tryd.prog 84 Tryd.f84 call) n os):=zaJ (ng h1) x
  rcases fk h with ⟨h8,h⟩ | ⟨h8,h⟩
  ·have o9 {os} (x:Obls (env Tryd.prog 84 Tryd.f84 call) n os):=o4 (zaB (ng h8) 5 x)
   rcases fk h with ⟨h9,h⟩ | ⟨h9,h⟩
   ·cases h
    exact path (o9 (zaB h9 6 (zdF 6 ob))) (by kernel_rfl)
   ·have o15 {os} (x:Obls (env Tryd.prog 84 Tryd.f84 call) n os):=o9 (zaS h9 (zi h1 (zi h9 (zi h1 (zi h9 x)))))
    rcases fk h with ⟨h10,h⟩ | ⟨h10,h⟩
    ·rcases fk h with ⟨h11,h⟩ | ⟨h11,h⟩
     ·cases h
      exact path (o15 (zT h10 (zi h9 (zi h10 (zi h9 (zaB h11 5 (zdF 1 ob))))))) (by kernel_rfl)
     ·obtain⟨a11,rfl⟩:∃z_,z_=r:=⟨_,rfl⟩
      have h12:=h
      exact path (o15 (zT h10 (zi h9 (zi h10 (zi h9 (zT h11 (zaB (ng h10) 8 (zi h11 (zi (ng h10) (zi h11 (zi (rfl:false=false) (zaq (zbN.ok ht n _ _ _ _ _ _ _ h12) ob)))))))))))) (by kernel_rfl)
    ·have o37 {os} (x:Obls (env Tryd.prog 84 Tryd.f84 call) n os):=o15 (zT h10 (zi h9 (zi h10 (zi h9 (zT (rfl:false=false) (zT (ng h10) (zJ (zq zh.zk (l:=a7)) (zT (ng h10) (zJ (zq zh.zk (l:=a8)) (zaS (ng h10) (zi (rfl:false=false) (zi (ng h10) (zi (rfl:false=false) x)))))))))))))
     rcases fk h with ⟨h13,h⟩ | ⟨h13,h⟩
     ·cases h
      exact path (o37 (zi h13 ob)) (by kernel_rfl)
     ·obtain⟨a12,rfl⟩:∃z_,z_=r:=⟨_,rfl⟩
      have h14:=h
      exact path (o37 (zi h13 (zaq (zbN.ok ht n _ _ _ _ _ _ _ h14) ob))) (by kernel_rfl)
  ·cases h
   exact path (o4 (zaB (ng h8) 5 (zdF 12 ob))) (by kernel_rfl)
theorem zaN.ok (ht:TabOk t call) (n:Nat) (a1:Int) (a2 a3:Bool) (a4:Int) (a5:Bool) (a6 a7:Int) (a8:ByteArray) (a9 a10:List zh) (r:_) (h:zaN t n a1 a2 a3 a4 a5 a6 a7 a8 a9 a10=some r):exec (env Tryd.prog 84 Tryd.f84 call) n (sub [1,1,1,0,1,0,1,1,1,1,1] (zt Tryd.f84)) (mkSt 147 147 [(1,(I6 a1)),(2,(.ptr 2 0 [] 0)),(5,(Bo a2)),(6,(Bo a3)),(12,(I6 a4)),(25,(Bo a5))] [(2,(.t (.st [(.v (.int .i64 a6)),(.v (.int .i64 a7)),(.v (.string a8)),(.sl false 5 (zh.ts a9)),(.sl false 5 (zh.ts a10))])))])=some (zaN.to r):=by
 rw[zaN]at h
 rcases fk h with ⟨h1,h⟩ | ⟨h1,h⟩
 ·rcases fk h with ⟨h2,h⟩ | ⟨h2,h⟩
  ·cases h
   exact path (zi h1 (zi h2 ob)) (by kernel_rfl)
  ·cases h
   exact path (zi h1 (zi h2 ob)) (by kernel_rfl)
 ·rcases fk h with ⟨h3,h⟩ | ⟨h3,h⟩
  ·cases h
   exact path (zi h1 (zi h3 ob)) (by kernel_rfl)
  ·rcases fk h with ⟨h4,h⟩ | ⟨h4,h⟩
   ·cases h
    exact path (zi h1 (zi h3 (zaS h4 ob))) (by kernel_rfl)
   ·rcases fk h with ⟨h5,h⟩ | ⟨h5,h⟩
    ·cases h
     exact path (zi h1 (zi h3 (zi h4 (zaS h5 ob)))) (by kernel_rfl)
    ·rcases fk h with ⟨h6,h⟩ | ⟨h6,h⟩
     ·cases h
      exact path (zi h1 (zi h3 (zi h4 (zi h5 (zi h6 ob))))) (by kernel_rfl)
     ·cases h
      exact path (zi h1 (zi h3 (zi h4 (zi h5 (zi h6 ob))))) (by kernel_rfl)
theorem zbl.ok {n:Nat} {t:Tab} (ht:TabOk t (run Tryd.prog own kp X n)):∀(p1:zh) (p2:Int) r,zbl t n p1 p2=some r→run Tryd.prog own kp X (n+1) 84 [(.t (zh.t p1)),(I6 p2)] []=some ((Bo r),[]):=by
 intro p1 p2 r h
 obtain⟨a1,a2,a3,a4,a5⟩:=p1
 obtain⟨a6,rfl⟩:∃z_,z_=p2:=⟨_,rfl⟩
 rw[zbl]at h
 rcases fk h with ⟨h1,h⟩ | ⟨h1,h⟩
 ·cases h
  exact zl Tryd.func84 (zi h1 ob) (by kernel_rfl)
 ·rcases fk h with ⟨h2,h⟩ | ⟨h2,h⟩
  ·rcases fk h with ⟨h3,h⟩ | ⟨h3,h⟩
   ·cases h
    exact zl Tryd.func84 (zi h1 (zi h2 (zaJ h3 (zdF 1 ob)))) (by kernel_rfl)
   ·rcases fk h with ⟨h4,h⟩ | ⟨h4,h⟩
    ·cases h
     exact zl Tryd.func84 (zi h1 (zi h2 (zaJ h3 (zi h4 ob)))) (by kernel_rfl)
    ·obtain⟨a7,rfl⟩:∃z_,z_=r:=⟨_,rfl⟩
     have h5:=h
     exact zl Tryd.func84 (zi h1 (zi h2 (zaJ h3 (zi h4 (zaq (zbv.ok ht n _ _ _ _ _ _ _ _ _ h5) ob))))) (by kernel_rfl)
  ·rcases fk h with ⟨h6,h⟩ | ⟨h6,h⟩
   ·obtain⟨a8,rfl⟩:∃z_,z_=r:=⟨_,rfl⟩
    have h7:=h
    exact zl Tryd.func84 (zi h1 (zi h2 (zi h6 (zaq (zbv.ok ht n _ _ _ _ _ _ _ _ _ h7) ob)))) (by kernel_rfl)
   ·rcases fk h with ⟨h8,h⟩ | ⟨h8,h⟩
    ·obtain⟨a9 | ⟨a10,a11,a12,a13,a14,a15,a16,a17⟩,h9,h⟩:=sm h
     ·cases h
      exact zl Tryd.func84 (zi h1 (zi h2 (zi h6 (zi h8 (zaq (zaN.ok ht n _ _ _ _ _ _ _ _ _ _ _ h9) ob))))) (by kernel_rfl)
     ·obtain⟨a18,rfl⟩:∃z_,z_=r:=⟨_,rfl⟩
      have h10:=h
      exact zl Tryd.func84 (zi h1 (zi h2 (zi h6 (zi h8 (zaq (zaN.ok ht n _ _ _ _ _ _ _ _ _ _ _ h9) (zaq (zbv.ok ht n _ _ _ _ _ _ _ _ _ h10) ob)))))) (by kernel_rfl)
    ·obtain⟨a19 | ⟨a20,a21,a22,a23,a24,a25,a26,a27⟩,h11,h⟩:=sm h
     ·cases h
      exact zl Tryd.func84 (zi h1 (zi h2 (zi h6 (zi h8 (zaq (zaN.ok ht n _ _ _ _ _ _ _ _ _ _ _ h11) ob))))) (by kernel_rfl)
     ·obtain⟨a28,rfl⟩:∃z_,z_=r:=⟨_,rfl⟩
      have h12:=h
      exact zl Tryd.func84 (zi h1 (zi h2 (zi h6 (zi h8 (zaq (zaN.ok ht n _ _ _ _ _ _ _ _ _ _ _ h11) (zaq (zbv.ok ht n _ _ _ _ _ _ _ _ _ h12) ob)))))) (by kernel_rfl)
theorem zdv.ok (ht:TabOk t call) (n:Nat) (a1:Int) (a2:List zh) (a3:List GPred) (a4:Int) (r:_) (h:zdv t n a1 a2 a3 a4=some r):exec (env Tryd.prog 85 Tryd.f85 call) n (sub [1,1,1] (zt Tryd.f85)) (mkSt 62 62 [(2,(.ptr 2 0 [] 0)),(3,(.ptr 3 0 [] 0))] [(2,(.t (.st [(.v (.int .i64 a1)),(.sl false 5 (zh.ts a2)),(.sl false 3 (GPred.ts a3))]))),(3,(I6 a4))])=some (zdv.to r):=by
 rw[zdv]at h
 obtain⟨a5,h1,h⟩:=sm h
 rcases fk h with ⟨h2,h⟩ | ⟨h2,h⟩
 ·cases h
  exact path (zX (ht.zN _ _ _ h1) (zaB (ng h2) 6 ob)) (by kernel_rfl)
 ·obtain⟨a6,h3,h⟩:=sm h
  cases h
  exact path (zX (ht.zN _ _ _ h1) (zaJ (ng h2) (zX (ht.zS _ _ h3) (zaS (ng h2) ob)))) (by kernel_rfl)
theorem zca.ok {n:Nat} {t:Tab} (ht:TabOk t (run Tryd.prog own kp X n)):∀(p1:GPred) (p2:Int) r,zca t n p1 p2=some r→run Tryd.prog own kp X (n+1) 85 [(.t (GPred.t p1)),(I6 p2)] []=some ((Bo r),[]):=by
 intro p1 p2 r h
 obtain⟨a1,a2,a3⟩:=p1
 obtain⟨a4,rfl⟩:∃z_,z_=p2:=⟨_,rfl⟩
 rw[zca]at h
 obtain⟨⟨a5,a6,a7,a8⟩,h1,h⟩:=sm h
 rcases fk h with ⟨h2,h⟩ | ⟨h2,h⟩
 ·cases h
  exact zl Tryd.func85 (zX (ht.zcb _ _ h1) (zaB h2 6 (zdF 19 ob))) (by kernel_rfl)
 ·have o8 {os} (x:Obls (env Tryd.prog 85 Tryd.f85 (run Tryd.prog own kp X n)) n os):=zX (ht.zcb _ _ h1) (zT h2 (zJ (zq zh.zk (l:=a2)) (zT h2 x)))
  rcases fk h with ⟨h3,h⟩ | ⟨h3,h⟩
  ·cases h
   exact zl Tryd.func85 (o8 (zaB h3 6 (zdF 13 ob))) (by kernel_rfl)
  ·have o15 {os} (x:Obls (env Tryd.prog 85 Tryd.f85 (run Tryd.prog own kp X n)) n os):=o8 (zT h3 (zJ (zq zh.zk (l:=a2)) (zT h3 x)))
   rcases fk h with ⟨h4,h⟩ | ⟨h4,h⟩
   ·cases h
    exact zl Tryd.func85 (o15 (zaB h4 6 (zdF 7 ob))) (by kernel_rfl)
   ·have o22 {os} (x:Obls (env Tryd.prog 85 Tryd.f85 (run Tryd.prog own kp X n)) n os):=o15 (zT h4 (zJ (zq GPred.zk (l:=a3)) (zT h4 x)))
    rcases fk h with ⟨h5,h⟩ | ⟨h5,h⟩
    ·cases h
     exact zl Tryd.func85 (o22 (zaB h5 6 (zdF 1 ob))) (by kernel_rfl)
    ·rcases fk h with ⟨h6,h⟩ | ⟨h6,h⟩
     ·cases h
      exact zl Tryd.func85 (o22 (zT h5 (zJ (zq GPred.zk (l:=a3)) (zT h5 (zi h6 ob))))) (by kernel_rfl)
     ·obtain⟨a9,rfl⟩:∃z_,z_=r:=⟨_,rfl⟩
      have h7:=h
      exact zl Tryd.func85 (o22 (zT h5 (zJ (zq GPred.zk (l:=a3)) (zT h5 (zi h6 (zaq (zdv.ok ht n _ _ _ _ _ h7) ob)))))) (by kernel_rfl)
theorem slices_Contains_string.ok {n:Nat} {t:Tab} (ht:TabOk t (run Tryd.prog own kp X n)):∀(p1:List ByteArray) (p2:ByteArray) r,slices_Contains_string t n p1 p2=some r→run Tryd.prog own kp X (n+1) 86 [(Sl 1 (texts p1)),(Sr p2)] []=some ((Bo r),[]):=by
 intro p1 p2 r h
 obtain⟨a1,rfl⟩:∃z_,z_=p1:=⟨_,rfl⟩
 obtain⟨a2,rfl⟩:∃z_,z_=p2:=⟨_,rfl⟩
 rw[slices_Contains_string]at h
 obtain⟨a3,h1,h⟩:=sm h
 cases h
 exact zl Tryd.func86 (zX (ht.slices_Index_string _ _ _ h1) ob) (by kernel_rfl)
theorem zF.ok {n:Nat} {t:Tab} (ht:TabOk t (run Tryd.prog own kp X n)):∀(p1:List Int) r,zF t n p1=some r→run Tryd.prog own kp X (n+1) 82 [(Sl 1 (zz p1)),(.fn 83 [])] []=some ((Bo r),[]):=by
 intro p1 r h
 obtain⟨a1,rfl⟩:∃z_,z_=p1:=⟨_,rfl⟩
 rw[zF]at h
 obtain⟨a2,h1,h⟩:=sm h
 cases h
 exact zl Tryd.func82 (zX (ht.zU _ _ h1) ob) (by kernel_rfl)
theorem zbT.okL (ht:TabOk t call) (n:Nat):∀(k:Nat) (a1:ByteArray) (a2 a3:Int) (r:_),zbT t n k a1 a2 a3=some r→loopN (exec (env Tryd.prog 67 Tryd.f67 call) n (sub [1,0,1,0,0] (zt Tryd.f67))) k (mkSt 24 24 [(0,(Sr a1)),(5,(I6 a2)),(6,(I6 a3))] [])=some (zbT.to r)
 | 0,a1,a2,a3,r,h=>by rw[zbT]at h;cases h
 | k+1,a1,a2,a3,r,h=>by
  rw[zbT]at h
  rcases fk h with ⟨h1,h⟩ | ⟨h1,h⟩
  ·obtain⟨a4,h2,h⟩:=sm h
   obtain⟨a5,h3,h⟩:=sm h
   rcases fk h with ⟨h4,h⟩ | ⟨h4,h⟩
   ·exact zD (path (zi h1 (zJ (zhM (P:=Tryd.prog) (t:=9) (k:=.i64) (by kernel_rfl) h2) (zX (ht.zcS _ _ _ h3) (zi (ng h4) ob)))) (by kernel_rfl)) (zbT.okL ht n k _ _ _ _ h)
   ·cases h
    exact zx (path (zi h1 (zJ (zhM (P:=Tryd.prog) (t:=9) (k:=.i64) (by kernel_rfl) h2) (zX (ht.zcS _ _ _ h3) (zi (ng h4) ob)))) (by kernel_rfl)) (fun h=>by cases h)
  ·cases h
   exact zx (path (zi h1 ob) (by kernel_rfl)) (fun h=>by cases h)
theorem zdK.ok (ht:TabOk t call) (n:Nat) (a1:ByteArray) (r:_) (h:zdK t n a1=some r):exec (env Tryd.prog 67 Tryd.f67 call) n (sub [1,1] (zt Tryd.f67)) (mkSt 24 24 [(0,(Sr a1))] [])=some (zdK.to r):=by
 rw[zdK]at h
 rcases fk h with ⟨h1,h⟩ | ⟨h1,h⟩
 ·cases h
  exact path (zaJ (ng h1) ob) (by kernel_rfl)
 ·cases h
  exact path (zaJ (ng h1) ob) (by kernel_rfl)
theorem zcF.ok {n:Nat} {t:Tab} (ht:TabOk t (run Tryd.prog own kp X n)):∀(p1:ByteArray) r,zcF t n p1=some r→run Tryd.prog own kp X (n+1) 67 [(Sr p1)] []=some ((Bo r),[]):=by
 intro p1 r h
 obtain⟨a1,rfl⟩:∃z_,z_=p1:=⟨_,rfl⟩
 rw[zcF]at h
 obtain⟨a2 | ⟨a3,a4,a5,a6⟩,h1,h⟩:=sm h
 ·cases h
  exact zl Tryd.func67 (za5 (lk (sub [1,0,1,0] (zt Tryd.f67)) (by kernel_rfl) (zbT.okL ht n n _ _ _ _ h1)) ob) (by kernel_rfl)
 ·obtain⟨a7,rfl⟩:∃z_,z_=r:=⟨_,rfl⟩
  have h2:=h
  exact zl Tryd.func67 (za5 (lk (sub [1,0,1,0] (zt Tryd.f67)) (by kernel_rfl) (zbT.okL ht n n _ _ _ _ h1)) (zaq (zdK.ok ht n _ _ h2) ob)) (by kernel_rfl)
theorem cmp_Compare_int.ok {n:Nat} {t:Tab} (ht:TabOk t (run Tryd.prog own kp X n)):∀(p1:Int) (p2:Int) r,cmp_Compare_int t n p1 p2=some r→run Tryd.prog own kp X (n+1) 89 [(I6 p1),(I6 p2)] []=some ((I6 r),[]):=by
 intro p1 p2 r h
 obtain⟨a1,rfl⟩:∃z_,z_=p1:=⟨_,rfl⟩
 obtain⟨a2,rfl⟩:∃z_,z_=p2:=⟨_,rfl⟩
 rw[cmp_Compare_int]at h
 obtain⟨a3,h1,h⟩:=sm h
 obtain⟨a4,h2,h⟩:=sm h
 have o2 {os} (x:Obls (env Tryd.prog 89 Tryd.f89 (run Tryd.prog own kp X n)) n os):=zX (ht.cmp_isNaN_int _ _ h1) (zX (ht.cmp_isNaN_int _ _ h2) x)
 rcases fk h with ⟨h3,h⟩ | ⟨h3,h⟩
 ·rcases fk h with ⟨h4,h⟩ | ⟨h4,h⟩
  ·cases h
   exact zl Tryd.func89 (o2 (zi h3 (zi h4 ob))) (by kernel_rfl)
  ·cases h
   exact zl Tryd.func89 (o2 (zi h3 (zi h4 ob))) (by kernel_rfl)
 ·rcases fk h with ⟨h5,h⟩ | ⟨h5,h⟩
  ·cases h
   exact zl Tryd.func89 (o2 (zi h3 (zi h5 ob))) (by kernel_rfl)
  ·rcases fk h with ⟨h6,h⟩ | ⟨h6,h⟩
   ·cases h
    exact zl Tryd.func89 (o2 (zi h3 (zi h5 (zi h6 ob)))) (by kernel_rfl)
   ·rcases fk h with ⟨h7,h⟩ | ⟨h7,h⟩
    ·cases h
     exact zl Tryd.func89 (o2 (zi h3 (zi h5 (zi h6 (zi h7 ob))))) (by kernel_rfl)
    ·cases h
     exact zl Tryd.func89 (o2 (zi h3 (zi h5 (zi h6 (zi h7 ob))))) (by kernel_rfl)
theorem strings_Compare.ok {n:Nat} {t:Tab} (ht:TabOk t (run Tryd.prog own kp X n)):∀(p1:ByteArray) (p2:ByteArray) r,strings_Compare t n p1 p2=some r→run Tryd.prog own kp X (n+1) 90 [(Sr p1),(Sr p2)] []=some ((I6 r),[]):=by
 intro p1 p2 r h
 obtain⟨a1,rfl⟩:∃z_,z_=p1:=⟨_,rfl⟩
 obtain⟨a2,rfl⟩:∃z_,z_=p2:=⟨_,rfl⟩
 rw[strings_Compare]at h
 obtain⟨a3,rfl⟩:∃z_,z_=r:=⟨_,rfl⟩
 have h1:=h
 exact zl Tryd.func90 (zX (ht.bytealg_CompareString _ _ _ h1) ob) (by kernel_rfl)
theorem zbU.okL (ht:TabOk t call) (n:Nat):∀(k:Nat) (a1:Int) (a2:List Int) (a3 a4:Int) (r:_),zbU t n k a1 a2 a3 a4=some r→loopN (exec (env Tryd.prog 88 Tryd.f88 call) n (sub [1,1,0,1,0,0] (zt Tryd.f88))) k (mkSt 18 18 [(3,(I6 a1)),(6,(Sl 1 (zz a2))),(7,(I6 a3)),(8,(I6 a4))] [])=some (zbU.to r)
 | 0,a1,a2,a3,a4,r,h=>by rw[zbU]at h;cases h
 | k+1,a1,a2,a3,a4,r,h=>by
  rw[zbU]at h
  rcases fk h with ⟨h1,h⟩ | ⟨h1,h⟩
  ·obtain⟨h2,h⟩:=ck h
   obtain⟨a5,h3,h⟩:=sm h
   rcases fk h with ⟨h4,h⟩ | ⟨h4,h⟩
   ·cases h
    exact zx (path (zi h1 (zah h2 (zW (zu zw h3) (zi h4 ob)))) (by kernel_rfl)) (fun h=>by cases h)
   ·exact zD (path (zi h1 (zah h2 (zW (zu zw h3) (zi h4 ob)))) (by kernel_rfl)) (zbU.okL ht n k _ _ _ _ _ h)
  ·cases h
   exact zx (path (zi h1 ob) (by kernel_rfl)) (fun h=>by cases h)
theorem zdg.ok {n:Nat} {t:Tab} (ht:TabOk t (run Tryd.prog own kp X n)):∀(p1:List Int) r,zdg t n p1=some r→run Tryd.prog own kp X (n+1) 88 [(Sl 1 (zz p1))] []=some ((I6 r),[]):=by
 intro p1 r h
 obtain⟨a1,rfl⟩:∃z_,z_=p1:=⟨_,rfl⟩
 rw[zdg]at h
 obtain⟨a2 | ⟨a3,a4,a5,a6,a7⟩,h1,h⟩:=sm h
 ·cases h
  exact zl Tryd.func88 (zJ (zq zw (l:=a1)) (za5 (lk (sub [1,1,0,1,0] (zt Tryd.f88)) (by kernel_rfl) (zbU.okL ht n n _ _ _ _ _ h1)) ob)) (by kernel_rfl)
 ·cases h
  exact zl Tryd.func88 (zJ (zq zw (l:=a1)) (za5 (lk (sub [1,1,0,1,0] (zt Tryd.f88)) (by kernel_rfl) (zbU.okL ht n n _ _ _ _ _ h1)) ob)) (by kernel_rfl)
theorem zB.okL (ht:TabOk t call) (n:Nat):∀(k:Nat) (a1 a2:List zh) (a3:Int) (a4:List zh) (a5 a6:Int) (r:_),zB t n k a1 a2 a3 a4 a5 a6=some r→loopN (exec (env Tryd.prog 92 Tryd.f92 call) n (sub [1,0,1,0,0] (zt Tryd.f92))) k (mkSt 39 39 [(0,(Sl 5 (zh.ts a1))),(1,(Sl 5 (zh.ts a2))),(2,(.fn 91 [(.ref (.v (.int .i64 a3)))])),(11,(Sl 5 (zh.ts a4))),(12,(I6 a5)),(13,(I6 a6))] [])=some (zB.to r)
 | 0,a1,a2,a3,a4,a5,a6,r,h=>by rw[zB]at h;cases h
 | k+1,a1,a2,a3,a4,a5,a6,r,h=>by
  rw[zB]at h
  rcases fk h with ⟨h1,h⟩ | ⟨h1,h⟩
  ·obtain⟨h2,h⟩:=ck h
   obtain⟨⟨a7,a8,a9,a10,a11⟩,h3,h⟩:=sm h
   have o4 {os} (x:Obls (env Tryd.prog 92 Tryd.f92 call) n os):=zi h1 (zah h2 (zW (zu zh.zk h3) (zJ (zq zh.zk (l:=a2)) x)))
   rcases fk h with ⟨h4,h⟩ | ⟨h4,h⟩
   ·cases h
    exact zx (path (o4 (zi h4 ob)) (by kernel_rfl)) (fun h=>by cases h)
   ·obtain⟨⟨a12,a13,a14,a15,a16⟩,h5,h⟩:=sm h
    obtain⟨a17,h6,h⟩:=sm h
    rcases fk h with ⟨h7,h⟩ | ⟨h7,h⟩
    ·cases h
     exact zx (path (o4 (zi h4 (zah h2 (zW (zu zh.zk h5) (zX (ht.zaR _ _ _ _ h6) (zi h7 ob)))))) (by kernel_rfl)) (fun h=>by cases h)
    ·exact zD (path (o4 (zi h4 (zah h2 (zW (zu zh.zk h5) (zX (ht.zaR _ _ _ _ h6) (zi h7 ob)))))) (by kernel_rfl)) (zB.okL ht n k _ _ _ _ _ _ _ h)
  ·cases h
   exact zx (path (zi h1 ob) (by kernel_rfl)) (fun h=>by cases h)
theorem zao.ok (ht:TabOk t call) (n:Nat) (a1 a2:List zh) (r:_) (h:zao t n a1 a2=some r):exec (env Tryd.prog 92 Tryd.f92 call) n (sub [1,1] (zt Tryd.f92)) (mkSt 39 39 [(0,(Sl 5 (zh.ts a1))),(1,(Sl 5 (zh.ts a2)))] [])=some (zao.to r):=by
 rw[zao]at h
 rcases fk h with ⟨h1,h⟩ | ⟨h1,h⟩
 ·cases h
  exact path (zJ (zq zh.zk (l:=a1)) (zJ (zq zh.zk (l:=a2)) (zi h1 ob))) (by kernel_rfl)
 ·cases h
  exact path (zJ (zq zh.zk (l:=a1)) (zJ (zq zh.zk (l:=a2)) (zi h1 ob))) (by kernel_rfl)
theorem zG.ok {n:Nat} {t:Tab} (ht:TabOk t (run Tryd.prog own kp X n)):∀(p1:List zh) (p2:List zh) (p3:Int) r,zG t n p1 p2 p3=some r→run Tryd.prog own kp X (n+1) 92 [(Sl 5 (zh.ts p1)),(Sl 5 (zh.ts p2)),(.fn 91 [(.ref (.v (.int .i64 p3)))])] []=some ((I6 r),[]):=by
 intro p1 p2 p3 r h
 obtain⟨a1,rfl⟩:∃z_,z_=p1:=⟨_,rfl⟩
 obtain⟨a2,rfl⟩:∃z_,z_=p2:=⟨_,rfl⟩
 obtain⟨a3,rfl⟩:∃z_,z_=p3:=⟨_,rfl⟩
 rw[zG]at h
 obtain⟨a4 | ⟨a5,a6,a7,a8,a9,a10,a11⟩,h1,h⟩:=sm h
 ·cases h
  exact zl Tryd.func92 (zJ (zq zh.zk (l:=a1)) (za5 (lk (sub [1,0,1,0] (zt Tryd.f92)) (by kernel_rfl) (zB.okL ht n n _ _ _ _ _ _ _ h1)) ob)) (by kernel_rfl)
 ·obtain⟨a12,rfl⟩:∃z_,z_=r:=⟨_,rfl⟩
  have h2:=h
  exact zl Tryd.func92 (zJ (zq zh.zk (l:=a1)) (za5 (lk (sub [1,0,1,0] (zt Tryd.f92)) (by kernel_rfl) (zB.okL ht n n _ _ _ _ _ _ _ h1)) (zaq (zao.ok ht n _ _ _ h2) ob))) (by kernel_rfl)
theorem zcA.ok {n:Nat} {t:Tab} (ht:TabOk t (run Tryd.prog own kp X n)):∀(p1:ByteArray) r,zcA t n p1=some r→run Tryd.prog own kp X (n+1) 66 [(Sr p1)] []=some ((Bo r),[]):=by
 intro p1 r h
 obtain⟨a1,rfl⟩:∃z_,z_=p1:=⟨_,rfl⟩
 rw[zcA]at h
 obtain⟨a2,h1,h⟩:=sm h
 cases h
 exact zl Tryd.func66 (zX (ht.zcF _ _ h1) ob) (by kernel_rfl)
theorem zaO.okL (ht:TabOk t call) (n:Nat):∀(k:Nat) (a1:List (List zh)) (a2:Int) (a3:List (List zh)) (a4 a5:Int) (r:_),zaO t n k a1 a2 a3 a4 a5=some r→loopN (exec (env Tryd.prog 94 Tryd.f94 call) n (sub [1,1,0,1,0,0] (zt Tryd.f94))) k (mkSt 36 36 [(0,(Sl 1 (zb3 a1))),(3,(I6 a2)),(9,(Sl 1 (zb3 a3))),(10,(I6 a4)),(11,(I6 a5))] [])=some (zaO.to r)
 | 0,a1,a2,a3,a4,a5,r,h=>by rw[zaO]at h;cases h
 | k+1,a1,a2,a3,a4,a5,r,h=>by
  rw[zaO]at h
  rcases fk h with ⟨h1,h⟩ | ⟨h1,h⟩
  ·obtain⟨h2,h⟩:=ck h
   obtain⟨a6,h3,h⟩:=sm h
   rcases fk h with ⟨h4,h⟩ | ⟨h4,h⟩
   ·cases h
   ·exact zD (path (zi h1 (zah h2 (zW (zu zdL h3) (zJ (zq zh.zk (l:=a6)) (zi h4 ob))))) (by kernel_rfl)) (zaO.okL ht n k _ _ _ _ _ _ h)
  ·cases h
   exact zx (path (zi h1 ob) (by kernel_rfl)) (fun h=>by cases h)
theorem zaP.okL (ht:TabOk t call) (n:Nat):∀(k:Nat) (a1:List zh) (a2:List (List zh)) (a3 a4:Int) (r:_),zaP t n k a1 a2 a3 a4=some r→loopN (exec (env Tryd.prog 94 Tryd.f94 call) n (sub [1,1,1,1,0,1,0,0] (zt Tryd.f94))) k (mkSt 36 36 [(6,(.t (.sl true 5 (zh.ts a1)))),(25,(Sl 1 (zb3 a2))),(26,(I6 a3)),(27,(I6 a4))] [])=some (zaP.to r)
 | 0,a1,a2,a3,a4,r,h=>by rw[zaP]at h;cases h
 | k+1,a1,a2,a3,a4,r,h=>by
  rw[zaP]at h
  rcases fk h with ⟨h1,h⟩ | ⟨h1,h⟩
  ·obtain⟨h2,h⟩:=ck h
   obtain⟨a5,h3,h⟩:=sm h
   obtain⟨h4,h⟩:=cl h
   exact zD (path (zi h1 (zah h2 (zW (zu zdL h3) (zeG (zdP zh.zk h4) (zeY (zea zh.zk (a:=a1) (b:=a5)) ob))))) (by kernel_rfl)) (zaP.okL ht n k _ _ _ _ _ h)
  ·cases h
   exact zx (path (zi h1 ob) (by kernel_rfl)) (fun h=>by cases h)
theorem zbO.ok (ht:TabOk t call) (n:Nat) (a1:List (List zh)) (a2:Int) (r:_) (h:zbO t n a1 a2=some r):exec (env Tryd.prog 94 Tryd.f94 call) n (sub [1,1,1] (zt Tryd.f94)) (mkSt 36 36 [(0,(Sl 1 (zb3 a1))),(3,(I6 a2))] [])=some (zbO.to r):=by
 rw[zbO]at h
 obtain⟨a3,h1,h⟩:=sm h
 obtain⟨⟨a4,a5,a6,a7,a8⟩,h2,h⟩:=sm h
 cases h
 exact path (zX (ht.zdY _ _ _ h1) (zJ (zq zdL (l:=a1)) (za5 (lk (sub [1,1,1,1,0,1,0] (zt Tryd.f94)) (by kernel_rfl) (zaP.okL ht n n _ _ _ _ _ h2)) ob))) (by kernel_rfl)
theorem zau.ok {n:Nat} {t:Tab} (ht:TabOk t (run Tryd.prog own kp X n)):∀(p1:List (List zh)) r,zau t n p1=some r→run Tryd.prog own kp X (n+1) 94 [(Sl 1 (zb3 p1))] []=some ((Sl 5 (zh.ts r)),[]):=by
 intro p1 r h
 obtain⟨a1,rfl⟩:∃z_,z_=p1:=⟨_,rfl⟩
 rw[zau]at h
 obtain⟨⟨a2,a3,a4,a5,a6,a7⟩,h1,h⟩:=sm h
 obtain⟨a8,rfl⟩:∃z_,z_=r:=⟨_,rfl⟩
 have h2:=h
 exact zl Tryd.func94 (zJ (zq zdL (l:=a1)) (za5 (lk (sub [1,1,0,1,0] (zt Tryd.f94)) (by kernel_rfl) (zaO.okL ht n n _ _ _ _ _ _ h1)) (zaq (zbO.ok ht n _ _ _ h2) ob))) (by kernel_rfl)
theorem zcf.ok (ht:TabOk t call) (n:Nat) (a1:Int) (a2:Bool) (r:_) (h:zcf t n a1 a2=some r):exec (env Tryd.prog 95 Tryd.f95 call) n (sub [1,0,0,1,1,1,1,1] (zt Tryd.f95)) (mkSt 37 37 [(0,(I6 a1)),(20,(Bo a2))] [])=some (zcf.to r):=by
 rw[zcf]at h
 rcases fk h with ⟨h1,h⟩ | ⟨h1,h⟩
 ·cases h
  exact path (zi h1 ob) (by kernel_rfl)
 ·rcases fk h with ⟨h2,h⟩ | ⟨h2,h⟩
  ·cases h
   exact path (zi h1 (zi h2 ob)) (by kernel_rfl)
  ·rcases fk h with ⟨h3,h⟩ | ⟨h3,h⟩
   ·cases h
    exact path (zi h1 (zi h2 (zT h3 (zdF 1 ob)))) (by kernel_rfl)
   ·rcases fk h with ⟨h4,h⟩ | ⟨h4,h⟩
    ·cases h
     exact path (zi h1 (zi h2 (zT h3 (zi h4 ob)))) (by kernel_rfl)
    ·cases h
     exact path (zi h1 (zi h2 (zT h3 (zi h4 ob)))) (by kernel_rfl)
theorem zcg.ok (ht:TabOk t call) (n:Nat) (a1:Int) (a2:Bool) (r:_) (h:zcg t n a1 a2=some r):exec (env Tryd.prog 95 Tryd.f95 call) n (sub [1,0,0,1,1,1] (zt Tryd.f95)) (mkSt 37 37 [(0,(I6 a1)),(13,(Bo a2))] [])=some (zcg.to r):=by
 rw[zcg]at h
 rcases fk h with ⟨h1,h⟩ | ⟨h1,h⟩
 ·cases h
  exact path (zi h1 ob) (by kernel_rfl)
 ·rcases fk h with ⟨h2,h⟩ | ⟨h2,h⟩
  ·have h3:=h
   rcases r with ⟨a3,a4,a5,a6⟩ | _
   ·exact path (zi h1 (zT h2 (zaq (zcf.ok ht n _ _ _ h3) ob))) (by kernel_rfl)
   ·exact path (zi h1 (zT h2 (zaq (zcf.ok ht n _ _ _ h3) ob))) (by kernel_rfl)
  ·have h4:=h
   rcases r with ⟨a7,a8,a9,a10⟩ | _
   ·exact path (zi h1 (zT h2 (zaq (zcf.ok ht n _ _ _ h4) ob))) (by kernel_rfl)
   ·exact path (zi h1 (zT h2 (zaq (zcf.ok ht n _ _ _ h4) ob))) (by kernel_rfl)
theorem zbm.ok (ht:TabOk t call) (n:Nat) (a1:Int) (a2:Bool) (r:_) (h:zbm t n a1 a2=some r):exec (env Tryd.prog 95 Tryd.f95 call) n (sub [1,0,0,1] (zt Tryd.f95)) (mkSt 37 37 [(0,(I6 a1)),(6,(Bo a2))] [])=some (zbm.to r):=by
 rw[zbm]at h
 rcases fk h with ⟨h1,h⟩ | ⟨h1,h⟩
 ·cases h
  exact path (zi h1 ob) (by kernel_rfl)
 ·rcases fk h with ⟨h2,h⟩ | ⟨h2,h⟩
  ·have h3:=h
   rcases r with ⟨a3,a4,a5,a6⟩ | _
   ·exact path (zi h1 (zT h2 (zaq (zcg.ok ht n _ _ _ h3) ob))) (by kernel_rfl)
   ·exact path (zi h1 (zT h2 (zaq (zcg.ok ht n _ _ _ h3) ob))) (by kernel_rfl)
  ·have h4:=h
   rcases r with ⟨a7,a8,a9,a10⟩ | _
   ·exact path (zi h1 (zT h2 (zaq (zcg.ok ht n _ _ _ h4) ob))) (by kernel_rfl)
   ·exact path (zi h1 (zT h2 (zaq (zcg.ok ht n _ _ _ h4) ob))) (by kernel_rfl)
theorem zcb.ok {n:Nat} {t:Tab} (ht:TabOk t (run Tryd.prog own kp X n)):∀(p1:Int) r,zcb t n p1=some r→run Tryd.prog own kp X (n+1) 95 [(I6 p1)] []=some ((.tup [(.v (.int .i64 r.1)),(.v (.int .i64 r.2.1)),(.v (.int .i64 r.2.2.1)),(.v (.int .i64 r.2.2.2))]),[]):=by
 intro p1 r h
 obtain⟨a1,rfl⟩:∃z_,z_=p1:=⟨_,rfl⟩
 rw[zcb]at h
 rcases fk h with ⟨h1,h⟩ | ⟨h1,h⟩
 ·obtain⟨⟨a2,a3,a4,a5⟩ | _,h2,h⟩:=sm h
  ·cases h
   exact zl Tryd.func95 (zT h1 (zaq (zbm.ok ht n _ _ _ h2) ob)) (by kernel_rfl)
  ·cases h
   exact zl Tryd.func95 (zT h1 (zaq (zbm.ok ht n _ _ _ h2) ob)) (by kernel_rfl)
 ·obtain⟨⟨a6,a7,a8,a9⟩ | _,h3,h⟩:=sm h
  ·cases h
   exact zl Tryd.func95 (zT h1 (zaq (zbm.ok ht n _ _ _ h3) ob)) (by kernel_rfl)
  ·cases h
   exact zl Tryd.func95 (zT h1 (zaq (zbm.ok ht n _ _ _ h3) ob)) (by kernel_rfl)
theorem zN.ok {n:Nat} {t:Tab} (ht:TabOk t (run Tryd.prog own kp X n)):∀(p1:List GPred) (p2:Int) r,zN t n p1 p2=some r→run Tryd.prog own kp X (n+1) 98 [(Sl 3 (GPred.ts p1)),(.fn 96 [(.ref (.v (.int .i64 p2)))])] []=some ((Bo r),[]):=by
 intro p1 p2 r h
 obtain⟨a1,rfl⟩:∃z_,z_=p1:=⟨_,rfl⟩
 obtain⟨a2,rfl⟩:∃z_,z_=p2:=⟨_,rfl⟩
 rw[zN]at h
 obtain⟨a3,h1,h⟩:=sm h
 cases h
 exact zl Tryd.func98 (zX (ht.zaa _ _ _ h1) ob) (by kernel_rfl)
theorem zS.ok {n:Nat} {t:Tab} (ht:TabOk t (run Tryd.prog own kp X n)):∀(p1:List zh) r,zS t n p1=some r→run Tryd.prog own kp X (n+1) 99 [(Sl 5 (zh.ts p1)),(.fn 97 [])] []=some ((Bo r),[]):=by
 intro p1 r h
 obtain⟨a1,rfl⟩:∃z_,z_=p1:=⟨_,rfl⟩
 rw[zS]at h
 obtain⟨a2,h1,h⟩:=sm h
 cases h
 exact zl Tryd.func99 (zX (ht.zab _ _ h1) ob) (by kernel_rfl)
theorem zam.okL (ht:TabOk t call) (n:Nat):∀(k:Nat) (a1:List ByteArray) (a2:ByteArray) (a3 a4:Int) (r:_),zam t n k a1 a2 a3 a4=some r→loopN (exec (env Tryd.prog 100 Tryd.f100 call) n (sub [1,0,1,0,0] (zt Tryd.f100))) k (mkSt 19 19 [(0,(Sl 1 (texts a1))),(1,(Sr a2)),(7,(I6 a3)),(8,(I6 a4))] [])=some (zam.to r)
 | 0,a1,a2,a3,a4,r,h=>by rw[zam]at h;cases h
 | k+1,a1,a2,a3,a4,r,h=>by
  rw[zam]at h
  rcases fk h with ⟨h1,h⟩ | ⟨h1,h⟩
  ·obtain⟨h2,h⟩:=ck h
   obtain⟨a5,h3,h⟩:=sm h
   rcases fk h with ⟨h4,h⟩ | ⟨h4,h⟩
   ·cases h
    exact zx (path (zi h1 (zah h2 (zW (zu zV h3) (zi h4 ob)))) (by kernel_rfl)) (fun h=>by cases h)
   ·exact zD (path (zi h1 (zah h2 (zW (zu zV h3) (zi h4 ob)))) (by kernel_rfl)) (zam.okL ht n k _ _ _ _ _ h)
  ·cases h
   exact zx (path (zi h1 ob) (by kernel_rfl)) (fun h=>by cases h)
theorem slices_Index_string.ok {n:Nat} {t:Tab} (ht:TabOk t (run Tryd.prog own kp X n)):∀(p1:List ByteArray) (p2:ByteArray) r,slices_Index_string t n p1 p2=some r→run Tryd.prog own kp X (n+1) 100 [(Sl 1 (texts p1)),(Sr p2)] []=some ((I6 r),[]):=by
 intro p1 p2 r h
 obtain⟨a1,rfl⟩:∃z_,z_=p1:=⟨_,rfl⟩
 obtain⟨a2,rfl⟩:∃z_,z_=p2:=⟨_,rfl⟩
 rw[slices_Index_string]at h
 obtain⟨a3 | ⟨a4,a5,a6,a7,a8⟩,h1,h⟩:=sm h
 ·cases h
  exact zl Tryd.func100 (zJ (zq zV (l:=a1)) (za5 (lk (sub [1,0,1,0] (zt Tryd.f100)) (by kernel_rfl) (zam.okL ht n n _ _ _ _ _ h1)) ob)) (by kernel_rfl)
 ·cases h
  exact zl Tryd.func100 (zJ (zq zV (l:=a1)) (za5 (lk (sub [1,0,1,0] (zt Tryd.f100)) (by kernel_rfl) (zam.okL ht n n _ _ _ _ _ h1)) ob)) (by kernel_rfl)
theorem zH.okL (ht:TabOk t call) (n:Nat):∀(k:Nat) (a1:List Int) (a2 a3:Int) (r:_),zH t n k a1 a2 a3=some r→loopN (exec (env Tryd.prog 93 Tryd.f93 call) n (sub [1,0,1,0,0] (zt Tryd.f93))) k (mkSt 19 19 [(0,(Sl 1 (zz a1))),(1,(.fn 83 [])),(7,(I6 a2)),(8,(I6 a3))] [])=some (zH.to r)
 | 0,a1,a2,a3,r,h=>by rw[zH]at h;cases h
 | k+1,a1,a2,a3,r,h=>by
  rw[zH]at h
  rcases fk h with ⟨h1,h⟩ | ⟨h1,h⟩
  ·obtain⟨h2,h⟩:=ck h
   obtain⟨a4,h3,h⟩:=sm h
   obtain⟨a5,h4,h⟩:=sm h
   rcases fk h with ⟨h5,h⟩ | ⟨h5,h⟩
   ·cases h
    exact zx (path (zi h1 (zah h2 (zW (zu zw h3) (zX (ht.zbj _ _ h4) (zi h5 ob))))) (by kernel_rfl)) (fun h=>by cases h)
   ·exact zD (path (zi h1 (zah h2 (zW (zu zw h3) (zX (ht.zbj _ _ h4) (zi h5 ob))))) (by kernel_rfl)) (zH.okL ht n k _ _ _ _ h)
  ·cases h
   exact zx (path (zi h1 ob) (by kernel_rfl)) (fun h=>by cases h)
theorem zU.ok {n:Nat} {t:Tab} (ht:TabOk t (run Tryd.prog own kp X n)):∀(p1:List Int) r,zU t n p1=some r→run Tryd.prog own kp X (n+1) 93 [(Sl 1 (zz p1)),(.fn 83 [])] []=some ((I6 r),[]):=by
 intro p1 r h
 obtain⟨a1,rfl⟩:∃z_,z_=p1:=⟨_,rfl⟩
 rw[zU]at h
 obtain⟨a2 | ⟨a3,a4,a5,a6⟩,h1,h⟩:=sm h
 ·cases h
  exact zl Tryd.func93 (zJ (zq zw (l:=a1)) (za5 (lk (sub [1,0,1,0] (zt Tryd.f93)) (by kernel_rfl) (zH.okL ht n n _ _ _ _ h1)) ob)) (by kernel_rfl)
 ·cases h
  exact zl Tryd.func93 (zJ (zq zw (l:=a1)) (za5 (lk (sub [1,0,1,0] (zt Tryd.f93)) (by kernel_rfl) (zH.okL ht n n _ _ _ _ h1)) ob)) (by kernel_rfl)
theorem zaH.ok (ht:TabOk t call) (n:Nat) (a1:Int) (a2 a3:Bool) (r:_) (h:zaH t n a1 a2 a3=some r):exec (env Tryd.prog 80 Tryd.f80 call) n (sub [1,0,0,0,1] (zt Tryd.f80)) (mkSt 29 29 [(0,(.t (.v (.int .u8 a1)))),(1,(Bo a2)),(5,(Bo a3))] [])=some (zaH.to r):=by
 rw[zaH]at h
 rcases fk h with ⟨h1,h⟩ | ⟨h1,h⟩
 ·cases h
  exact path (zi h1 ob) (by kernel_rfl)
 ·rcases fk h with ⟨h2,h⟩ | ⟨h2,h⟩
  ·rcases fk h with ⟨h3,h⟩ | ⟨h3,h⟩
   ·cases h
    exact path (zi h1 (zT h2 (zi h3 ob))) (by kernel_rfl)
   ·cases h
    exact path (zi h1 (zT h2 (zi h3 ob))) (by kernel_rfl)
  ·cases h
   exact path (zi h1 (zT h2 (zi (rfl:false=false) ob))) (by kernel_rfl)
theorem zaI.ok (ht:TabOk t call) (n:Nat) (a1:Int) (a2 a3:Bool) (r:_) (h:zaI t n a1 a2 a3=some r):exec (env Tryd.prog 80 Tryd.f80 call) n (sub [1,0,0,1] (zt Tryd.f80)) (mkSt 29 29 [(0,(.t (.v (.int .u8 a1)))),(1,(Bo a2)),(5,(Bo a3))] [])=some (zaI.to r):=by
 rw[zaI]at h
 rcases fk h with ⟨h1,h⟩ | ⟨h1,h⟩
 ·cases h
  exact path (zi h1 ob) (by kernel_rfl)
 ·rcases fk h with ⟨h2,h⟩ | ⟨h2,h⟩
  ·rcases fk h with ⟨h3,h⟩ | ⟨h3,h⟩
   ·cases h
    exact path (zi h1 (zT h2 (zi h3 ob))) (by kernel_rfl)
   ·cases h
    exact path (zi h1 (zT h2 (zi h3 ob))) (by kernel_rfl)
  ·cases h
   exact path (zi h1 (zT h2 (zi (rfl:false=false) ob))) (by kernel_rfl)
theorem zcS.ok {n:Nat} {t:Tab} (ht:TabOk t (run Tryd.prog own kp X n)):∀(p1:Int) (p2:Bool) r,zcS t n p1 p2=some r→run Tryd.prog own kp X (n+1) 80 [(.t (.v (.int .u8 p1))),(Bo p2)] []=some ((Bo r),[]):=by
 intro p1 p2 r h
 obtain⟨a1,rfl⟩:∃z_,z_=p1:=⟨_,rfl⟩
 obtain⟨a2,rfl⟩:∃z_,z_=p2:=⟨_,rfl⟩
 rw[zcS]at h
 rcases fk h with ⟨h1,h⟩ | ⟨h1,h⟩
 ·obtain⟨⟨a3,a4,a5⟩,h2,h⟩:=sm h
  obtain⟨a6 | _,h3,h⟩:=sm h
  ·cases h
   exact zl Tryd.func80 (zT h1 (zaq (zaH.ok ht n _ _ _ _ h2) (zaq (zaI.ok ht n _ _ _ _ h3) ob))) (by kernel_rfl)
  ·cases h
   exact zl Tryd.func80 (zT h1 (zaq (zaH.ok ht n _ _ _ _ h2) (zaq (zaI.ok ht n _ _ _ _ h3) ob))) (by kernel_rfl)
 ·obtain⟨⟨a7,a8,a9⟩,h4,h⟩:=sm h
  obtain⟨a10 | _,h5,h⟩:=sm h
  ·cases h
   exact zl Tryd.func80 (zT h1 (zaq (zaH.ok ht n _ _ _ _ h4) (zaq (zaI.ok ht n _ _ _ _ h5) ob))) (by kernel_rfl)
  ·cases h
   exact zl Tryd.func80 (zT h1 (zaq (zaH.ok ht n _ _ _ _ h4) (zaq (zaI.ok ht n _ _ _ _ h5) ob))) (by kernel_rfl)
theorem cmp_isNaN_int.ok {n:Nat} {t:Tab} (ht:TabOk t (run Tryd.prog own kp X n)):∀(p1:Int) r,cmp_isNaN_int t n p1=some r→run Tryd.prog own kp X (n+1) 101 [(I6 p1)] []=some ((Bo r),[]):=by
 intro p1 r h
 obtain⟨a1,rfl⟩:∃z_,z_=p1:=⟨_,rfl⟩
 rw[cmp_isNaN_int]at h
 cases h
 exact zl Tryd.func101 ob (by kernel_rfl)
theorem zaR.ok {n:Nat} {t:Tab} (ht:TabOk t (run Tryd.prog own kp X n)):∀(p1:zh) (p2:zh) (p3:Int) r,zaR t n p1 p2 p3=some r→run Tryd.prog own kp X (n+1) 91 [(.t (zh.t p1)),(.t (zh.t p2)),(.ref (.v (.int .i64 p3)))] []=some ((I6 r),[]):=by
 intro p1 p2 p3 r h
 obtain⟨a1,a2,a3,a4,a5⟩:=p1
 obtain⟨a6,a7,a8,a9,a10⟩:=p2
 obtain⟨a11,rfl⟩:∃z_,z_=p3:=⟨_,rfl⟩
 rw[zaR]at h
 obtain⟨a12,rfl⟩:∃z_,z_=r:=⟨_,rfl⟩
 have h1:=h
 exact zl Tryd.func91 (zX (ht.zbk _ _ _ _ h1) ob) (by kernel_rfl)
theorem zO.okL (ht:TabOk t call) (n:Nat):∀(k:Nat) (a1:List GPred) (a2 a3 a4:Int) (r:_),zO t n k a1 a2 a3 a4=some r→loopN (exec (env Tryd.prog 104 Tryd.f104 call) n (sub [1,0,1,0,0] (zt Tryd.f104))) k (mkSt 19 19 [(0,(Sl 3 (GPred.ts a1))),(1,(.fn 96 [(.ref (.v (.int .i64 a2)))])),(7,(I6 a3)),(8,(I6 a4))] [])=some (zO.to r)
 | 0,a1,a2,a3,a4,r,h=>by rw[zO]at h;cases h
 | k+1,a1,a2,a3,a4,r,h=>by
  rw[zO]at h
  rcases fk h with ⟨h1,h⟩ | ⟨h1,h⟩
  ·obtain⟨h2,h⟩:=ck h
   obtain⟨⟨a5,a6,a7⟩,h3,h⟩:=sm h
   obtain⟨a8,h4,h⟩:=sm h
   rcases fk h with ⟨h5,h⟩ | ⟨h5,h⟩
   ·cases h
    exact zx (path (zi h1 (zah h2 (zW (zu GPred.zk h3) (zX (ht.zb0 _ _ _ h4) (zi h5 ob))))) (by kernel_rfl)) (fun h=>by cases h)
   ·exact zD (path (zi h1 (zah h2 (zW (zu GPred.zk h3) (zX (ht.zb0 _ _ _ h4) (zi h5 ob))))) (by kernel_rfl)) (zO.okL ht n k _ _ _ _ _ h)
  ·cases h
   exact zx (path (zi h1 ob) (by kernel_rfl)) (fun h=>by cases h)
theorem zaa.ok {n:Nat} {t:Tab} (ht:TabOk t (run Tryd.prog own kp X n)):∀(p1:List GPred) (p2:Int) r,zaa t n p1 p2=some r→run Tryd.prog own kp X (n+1) 104 [(Sl 3 (GPred.ts p1)),(.fn 96 [(.ref (.v (.int .i64 p2)))])] []=some ((I6 r),[]):=by
 intro p1 p2 r h
 obtain⟨a1,rfl⟩:∃z_,z_=p1:=⟨_,rfl⟩
 obtain⟨a2,rfl⟩:∃z_,z_=p2:=⟨_,rfl⟩
 rw[zaa]at h
 obtain⟨a3 | ⟨a4,a5,a6,a7,a8⟩,h1,h⟩:=sm h
 ·cases h
  exact zl Tryd.func104 (zJ (zq GPred.zk (l:=a1)) (za5 (lk (sub [1,0,1,0] (zt Tryd.f104)) (by kernel_rfl) (zO.okL ht n n _ _ _ _ _ h1)) ob)) (by kernel_rfl)
 ·cases h
  exact zl Tryd.func104 (zJ (zq GPred.zk (l:=a1)) (za5 (lk (sub [1,0,1,0] (zt Tryd.f104)) (by kernel_rfl) (zO.okL ht n n _ _ _ _ _ h1)) ob)) (by kernel_rfl)
theorem zP.okL (ht:TabOk t call) (n:Nat):∀(k:Nat) (a1:List zh) (a2 a3:Int) (r:_),zP t n k a1 a2 a3=some r→loopN (exec (env Tryd.prog 105 Tryd.f105 call) n (sub [1,0,1,0,0] (zt Tryd.f105))) k (mkSt 19 19 [(0,(Sl 5 (zh.ts a1))),(1,(.fn 97 [])),(7,(I6 a2)),(8,(I6 a3))] [])=some (zP.to r)
 | 0,a1,a2,a3,r,h=>by rw[zP]at h;cases h
 | k+1,a1,a2,a3,r,h=>by
  rw[zP]at h
  rcases fk h with ⟨h1,h⟩ | ⟨h1,h⟩
  ·obtain⟨h2,h⟩:=ck h
   obtain⟨⟨a4,a5,a6,a7,a8⟩,h3,h⟩:=sm h
   obtain⟨a9,h4,h⟩:=sm h
   rcases fk h with ⟨h5,h⟩ | ⟨h5,h⟩
   ·cases h
    exact zx (path (zi h1 (zah h2 (zW (zu zh.zk h3) (zX (ht.zb1 _ _ h4) (zi h5 ob))))) (by kernel_rfl)) (fun h=>by cases h)
   ·exact zD (path (zi h1 (zah h2 (zW (zu zh.zk h3) (zX (ht.zb1 _ _ h4) (zi h5 ob))))) (by kernel_rfl)) (zP.okL ht n k _ _ _ _ h)
  ·cases h
   exact zx (path (zi h1 ob) (by kernel_rfl)) (fun h=>by cases h)
theorem zab.ok {n:Nat} {t:Tab} (ht:TabOk t (run Tryd.prog own kp X n)):∀(p1:List zh) r,zab t n p1=some r→run Tryd.prog own kp X (n+1) 105 [(Sl 5 (zh.ts p1)),(.fn 97 [])] []=some ((I6 r),[]):=by
 intro p1 r h
 obtain⟨a1,rfl⟩:∃z_,z_=p1:=⟨_,rfl⟩
 rw[zab]at h
 obtain⟨a2 | ⟨a3,a4,a5,a6⟩,h1,h⟩:=sm h
 ·cases h
  exact zl Tryd.func105 (zJ (zq zh.zk (l:=a1)) (za5 (lk (sub [1,0,1,0] (zt Tryd.f105)) (by kernel_rfl) (zP.okL ht n n _ _ _ _ h1)) ob)) (by kernel_rfl)
 ·cases h
  exact zl Tryd.func105 (zJ (zq zh.zk (l:=a1)) (za5 (lk (sub [1,0,1,0] (zt Tryd.f105)) (by kernel_rfl) (zP.okL ht n n _ _ _ _ h1)) ob)) (by kernel_rfl)
theorem zbj.ok {n:Nat} {t:Tab} (ht:TabOk t (run Tryd.prog own kp X n)):∀(p1:Int) r,zbj t n p1=some r→run Tryd.prog own kp X (n+1) 83 [(I6 p1)] []=some ((Bo r),[]):=by
 intro p1 r h
 obtain⟨a1,rfl⟩:∃z_,z_=p1:=⟨_,rfl⟩
 rw[zbj]at h
 cases h
 exact zl Tryd.func83 ob (by kernel_rfl)
theorem zb0.ok {n:Nat} {t:Tab} (ht:TabOk t (run Tryd.prog own kp X n)):∀(p1:GPred) (p2:Int) r,zb0 t n p1 p2=some r→run Tryd.prog own kp X (n+1) 96 [(.t (GPred.t p1)),(.ref (.v (.int .i64 p2)))] []=some ((Bo r),[]):=by
 intro p1 p2 r h
 obtain⟨a1,a2,a3⟩:=p1
 obtain⟨a4,rfl⟩:∃z_,z_=p2:=⟨_,rfl⟩
 rw[zb0]at h
 obtain⟨a5,h1,h⟩:=sm h
 cases h
 exact zl Tryd.func96 (zX (ht.zca _ _ _ h1) ob) (by kernel_rfl)
theorem zb1.ok {n:Nat} {t:Tab} (ht:TabOk t (run Tryd.prog own kp X n)):∀(p1:zh) r,zb1 t n p1=some r→run Tryd.prog own kp X (n+1) 97 [(.t (zh.t p1))] []=some ((Bo r),[]):=by
 intro p1 r h
 obtain⟨a1,a2,a3,a4,a5⟩:=p1
 rw[zb1]at h
 obtain⟨a6,h1,h⟩:=sm h
 cases h
 exact zl Tryd.func97 (zX (ht.zbM _ _ h1) ob) (by kernel_rfl)
end Go.Proofs.YtgmidllbkjdnnaaDoor.W
