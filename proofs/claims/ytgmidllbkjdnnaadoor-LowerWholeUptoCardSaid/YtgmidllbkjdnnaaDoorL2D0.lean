/- The proofs of it, part 0. -/
import Derived.Test.YtgmidllbkjdnnaaDoorL2C
namespace Go.Proofs.YtgmidllbkjdnnaaDoor.W
open Go.Proofs.YtgmidllbkjdnnaaDoor.Flat
set_option linter.unusedVariables false
set_option linter.unusedSimpArgs false
set_option smartUnfolding false
attribute [local irreducible] zaH zaI zaY za0 zaZ zbz zbf za2 zby zcP zbQ zaj zaw zbP zbm zdo quoI zcM zcN zda zbB zdc zcQ zcO zbq zcc zcs zc7 zcL zcK zcI strAt zaN
variable {t:Tab} {call:FuncId→List AV→List AV→Option (AV × List AV)}
theorem zaE.okL (ht:TabOk t call) (n:Nat):∀(k:Nat) (a1:List GStep) (a2:Int) (a3:List Int) (a4:Int) (u5:GProg) (r:_),zaE t n k a1 a2 a3 a4 u5=some r→loopN (exec (env Tryd.prog 4 Tryd.f4 call) n (sub [1,1,1,1,1,1,0,1,0,0] (zt Tryd.f4))) k (mkSt 184 184 [(0,(Sl 14 (GStep.ts a1))),(3,(.ptr 3 0 [] 0)),(5,(I6 a2)),(6,(.t (.xl 1 (zz a3)))),(7,(I6 a4))] [(3,(.t (GProg.t u5)))])=some (zaE.to r)
 | 0,a1,a2,a3,a4,u5,r,h=>by rw[zaE]at h;cases h
 | k+1,a1,a2,a3,a4,⟨a5⟩,r,h=>by
  rw[zaE]at h
  rcases fk h with ⟨h1,h⟩ | ⟨h1,h⟩
  ·obtain⟨h2,h⟩:=cl h
   exact zD (path (zJ (zq zI (l:=a5)) (zi h1 (zeG (zdP zw h2) (zeY (zea zw (a:=a3) (b:=([0]:List Int))) ob)))) (by kernel_rfl)) (zaE.okL ht n k _ _ _ _ _ _ h)
  ·cases h
   exact zx (path (zJ (zq zI (l:=a5)) (zi h1 ob)) (by kernel_rfl)) (fun h=>by cases h)
theorem zaY.ok (ht:TabOk t call) (n:Nat) (a1:List GStep) (a2:Int) (a3:List Int) (a4 a5 a6:Int) (u7:GProg) (u8:GCode) (r:_) (h:zaY t n a1 a2 a3 a4 a5 a6 u7 u8=some r):exec (env Tryd.prog 4 Tryd.f4 call) n (sub [1,1,1,1,1,1,1,0,1,0,0,1,0,0,1,1,0,0,1,0,0,1,0,1,0,0,1,0,0,1] (zt Tryd.f4)) (mkSt 184 184 [(0,(Sl 14 (GStep.ts a1))),(3,(.ptr 3 0 [] 0)),(5,(I6 a2)),(6,(.t (.xl 1 (zz a3)))),(8,(I6 a4)),(9,(I6 a5)),(10,(.ptr 10 0 [] 0)),(11,(I6 a6))] [(3,(.t (GProg.t u7))),(10,(.t (GCode.t u8)))])=some (zaY.to r):=by
 obtain⟨a7⟩:=u7
 obtain⟨a8,a9,a10,⟨a11,a12,a13,a14,a15⟩,⟨a16,a17,a18⟩,a19,a20,a21⟩:=u8
 rw[zaY]at h
 obtain⟨h1,h⟩:=ck h
 obtain⟨a22,h2,h⟩:=sm h
 obtain⟨h3,h⟩:=ck h
 obtain⟨a23,h4,h⟩:=sm h
 cases h
 exact path (zah h1 (zW (zu zw h2) (zW (zdG (.xl 1 (zz a3))) (zah h3 (zW (zu zw h4) (zW (zfY 1 (zu zw h4) (zdG _)) (zW (zdG (.xl 1 (zz a3))) (zah h3 (zW (zu zw h4) (zW (zfY 1 (zu zw h4) (zdG _)) (zW (znw 1 zw (IntKind.wrap .i64 (a23+1)) h4 (zh4 _ (.v (.int .i64 (IntKind.wrap .i64 (a23+1)))))) ob))))))))))) (by kernel_rfl)
theorem zay.okL (ht:TabOk t call) (n:Nat):∀(k:Nat) (a1:List GStep) (a2:Int) (a3:List Int) (a4 a5 a6:Int) (u7:GProg) (u8:GCode) (r:_),zay t n k a1 a2 a3 a4 a5 a6 u7 u8=some r→loopN (exec (env Tryd.prog 4 Tryd.f4 call) n (sub [1,1,1,1,1,1,1,0,1,0,0,1,0,0,1,1,0,0,1,0,0,1,0,1,0,0] (zt Tryd.f4))) k (mkSt 184 184 [(0,(Sl 14 (GStep.ts a1))),(3,(.ptr 3 0 [] 0)),(5,(I6 a2)),(6,(.t (.xl 1 (zz a3)))),(8,(I6 a4)),(9,(I6 a5)),(10,(.ptr 10 0 [] 0)),(11,(I6 a6))] [(3,(.t (GProg.t u7))),(10,(.t (GCode.t u8)))])=some (zay.to r)
 | 0,a1,a2,a3,a4,a5,a6,u7,u8,r,h=>by rw[zay]at h;cases h
 | k+1,a1,a2,a3,a4,a5,a6,⟨a7⟩,⟨a8,a9,a10,⟨a11,a12,a13,a14,a15⟩,⟨a16,a17,a18⟩,a19,a20,a21⟩,r,h=>by
  rw[zay]at h
  rcases fk h with ⟨h1,h⟩ | ⟨h1,h⟩
  ·obtain⟨h2,h⟩:=ck h
   obtain⟨a22,h3,h⟩:=sm h
   have o4 {os} (x:Obls (env Tryd.prog 4 Tryd.f4 call) n os):=zJ (zq zw (l:=a19)) (zi h1 (zah h2 (zW (zu zw h3) x)))
   rcases fk h with ⟨h4,h⟩ | ⟨h4,h⟩
   ·cases h
    exact zx (path (o4 (zaB h4 10 (zdF 1 ob))) (by kernel_rfl)) (fun h=>by cases h)
   ·have o17 {os} (x:Obls (env Tryd.prog 4 Tryd.f4 call) n os):=o4 (zaJ h4 (zah h2 (zW (zu zw h3) (zaJ h4 (zJ (zq zI (l:=a7)) (zaS h4 x))))))
    rcases fk h with ⟨h5,h⟩ | ⟨h5,h⟩
    ·cases h
     exact zx (path (o17 (zi h5 ob)) (by kernel_rfl)) (fun h=>by cases h)
    ·obtain⟨⟨a23,a24,a25,a26,a27,a28,⟨a29⟩,⟨a30,a31,a32,⟨a33,a34,a35,a36,a37⟩,⟨a38,a39,a40⟩,a41,a42,a43⟩⟩,h6,h⟩:=sm h
     exact zD (path (o17 (zi h5 (zaq (zaY.ok ht n _ _ _ _ _ _ _ _ _ h6) ob))) (by kernel_rfl)) (zay.okL ht n k _ _ _ _ _ _ _ _ _ h)
  ·cases h
   exact zx (path (zJ (zq zw (l:=a19)) (zi h1 ob)) (by kernel_rfl)) (fun h=>by cases h)
theorem zaZ.ok (ht:TabOk t call) (n:Nat) (a1:List GStep) (a2:Int) (a3:List Int) (a4 a5 a6:Int) (u7:GProg) (u8:GCode) (r:_) (h:zaZ t n a1 a2 a3 a4 a5 a6 u7 u8=some r):exec (env Tryd.prog 4 Tryd.f4 call) n (sub [1,1,1,1,1,1,1,0,1,0,0,1,0,0,1,1,0,0,1,0,0,1,1,1,0,0,1,0,0,1,1] (zt Tryd.f4)) (mkSt 184 184 [(0,(Sl 14 (GStep.ts a1))),(3,(.ptr 3 0 [] 0)),(5,(I6 a2)),(6,(.t (.xl 1 (zz a3)))),(8,(I6 a4)),(9,(I6 a5)),(10,(.ptr 10 0 [] 0)),(12,(I6 a6))] [(3,(.t (GProg.t u7))),(10,(.t (GCode.t u8)))])=some (zaZ.to r):=by
 obtain⟨a7⟩:=u7
 obtain⟨a8,a9,a10,⟨a11,a12,a13,a14,a15⟩,⟨a16,a17,a18⟩,a19,a20,a21⟩:=u8
 rw[zaZ]at h
 obtain⟨h1,h⟩:=ck h
 obtain⟨⟨a22,a23,a24,a25⟩,h2,h⟩:=sm h
 obtain⟨h3,h⟩:=ck h
 obtain⟨a26,h4,h⟩:=sm h
 cases h
 exact path (zah h1 (zW (zu GKey.zk h2) (zW (zdG (.xl 1 (zz a3))) (zah h3 (zW (zu zw h4) (zW (zfY 1 (zu zw h4) (zdG _)) (zW (zdG (.xl 1 (zz a3))) (zah h3 (zW (zu zw h4) (zW (zfY 1 (zu zw h4) (zdG _)) (zW (znw 1 zw (IntKind.wrap .i64 (a26+1)) h4 (zh4 _ (.v (.int .i64 (IntKind.wrap .i64 (a26+1)))))) ob))))))))))) (by kernel_rfl)
theorem zar.okL (ht:TabOk t call) (n:Nat):∀(k:Nat) (a1:List GStep) (a2:Int) (a3:List Int) (a4 a5 a6:Int) (u7:GProg) (u8:GCode) (r:_),zar t n k a1 a2 a3 a4 a5 a6 u7 u8=some r→loopN (exec (env Tryd.prog 4 Tryd.f4 call) n (sub [1,1,1,1,1,1,1,0,1,0,0,1,0,0,1,1,0,0,1,0,0,1,1,1,0,0] (zt Tryd.f4))) k (mkSt 184 184 [(0,(Sl 14 (GStep.ts a1))),(3,(.ptr 3 0 [] 0)),(5,(I6 a2)),(6,(.t (.xl 1 (zz a3)))),(8,(I6 a4)),(9,(I6 a5)),(10,(.ptr 10 0 [] 0)),(12,(I6 a6))] [(3,(.t (GProg.t u7))),(10,(.t (GCode.t u8)))])=some (zar.to r)
 | 0,a1,a2,a3,a4,a5,a6,u7,u8,r,h=>by rw[zar]at h;cases h
 | k+1,a1,a2,a3,a4,a5,a6,⟨a7⟩,⟨a8,a9,a10,⟨a11,a12,a13,a14,a15⟩,⟨a16,a17,a18⟩,a19,a20,a21⟩,r,h=>by
  rw[zar]at h
  rcases fk h with ⟨h1,h⟩ | ⟨h1,h⟩
  ·obtain⟨h2,h⟩:=ck h
   obtain⟨⟨a22,a23,a24,a25⟩,h3,h⟩:=sm h
   have o4 {os} (x:Obls (env Tryd.prog 4 Tryd.f4 call) n os):=zJ (zq GKey.zk (l:=a20)) (zi h1 (zah h2 (zW (zu GKey.zk h3) x)))
   rcases fk h with ⟨h4,h⟩ | ⟨h4,h⟩
   ·exact zD (path (o4 (zi h4 ob)) (by kernel_rfl)) (zar.okL ht n k _ _ _ _ _ _ _ _ _ h)
   ·rcases fk h with ⟨h5,h⟩ | ⟨h5,h⟩
    ·cases h
     exact zx (path (o4 (zi h4 (zah h2 (zW (zu GKey.zk h3) (zaB h5 11 (zdF 1 ob)))))) (by kernel_rfl)) (fun h=>by cases h)
    ·have o21 {os} (x:Obls (env Tryd.prog 4 Tryd.f4 call) n os):=o4 (zi h4 (zah h2 (zW (zu GKey.zk h3) (zaJ h5 (zah h2 (zW (zu GKey.zk h3) (zaB h5 5 (zJ (zq zI (l:=a7)) (zaS h5 x)))))))))
     rcases fk h with ⟨h6,h⟩ | ⟨h6,h⟩
     ·cases h
      exact zx (path (o21 (zi h6 ob)) (by kernel_rfl)) (fun h=>by cases h)
     ·obtain⟨⟨a26,a27,a28,a29,a30,a31,⟨a32⟩,⟨a33,a34,a35,⟨a36,a37,a38,a39,a40⟩,⟨a41,a42,a43⟩,a44,a45,a46⟩⟩,h7,h⟩:=sm h
      exact zD (path (o21 (zi h6 (zaq (zaZ.ok ht n _ _ _ _ _ _ _ _ _ h7) ob))) (by kernel_rfl)) (zar.okL ht n k _ _ _ _ _ _ _ _ _ h)
  ·cases h
   exact zx (path (zJ (zq GKey.zk (l:=a20)) (zi h1 ob)) (by kernel_rfl)) (fun h=>by cases h)
theorem za0.ok (ht:TabOk t call) (n:Nat) (a1:List GStep) (a2:Int) (a3:List Int) (a4 a5:Int) (u6:GProg) (u7:GCode) (r:_) (h:za0 t n a1 a2 a3 a4 a5 u6 u7=some r):exec (env Tryd.prog 4 Tryd.f4 call) n (sub [1,1,1,1,1,1,1,0,1,0,0,1,0,0,1,1,0,0,1,0,0,1,1] (zt Tryd.f4)) (mkSt 184 184 [(0,(Sl 14 (GStep.ts a1))),(3,(.ptr 3 0 [] 0)),(5,(I6 a2)),(6,(.t (.xl 1 (zz a3)))),(8,(I6 a4)),(9,(I6 a5)),(10,(.ptr 10 0 [] 0))] [(3,(.t (GProg.t u6))),(10,(.t (GCode.t u7)))])=some (za0.to r):=by
 obtain⟨a6⟩:=u6
 obtain⟨a7,a8,a9,⟨a10,a11,a12,a13,a14⟩,⟨a15,a16,a17⟩,a18,a19,a20⟩:=u7
 rw[za0]at h
 obtain⟨a21 | ⟨a22,a23,a24,a25,a26,a27,a28,⟨a29⟩,⟨a30,a31,a32,⟨a33,a34,a35,a36,a37⟩,⟨a38,a39,a40⟩,a41,a42,a43⟩⟩,h1,h⟩:=sm h
 ·cases h
  exact path (za5 (lk (sub [1,1,1,1,1,1,1,0,1,0,0,1,0,0,1,1,0,0,1,0,0,1,1,1,0] (zt Tryd.f4)) (by kernel_rfl) (zar.okL ht n n _ _ _ _ _ _ _ _ _ h1)) ob) (by kernel_rfl)
 ·cases h
  exact path (za5 (lk (sub [1,1,1,1,1,1,1,0,1,0,0,1,0,0,1,1,0,0,1,0,0,1,1,1,0] (zt Tryd.f4)) (by kernel_rfl) (zar.okL ht n n _ _ _ _ _ _ _ _ _ h1)) ob) (by kernel_rfl)
theorem zaF.okL (ht:TabOk t call) (n:Nat):∀(k:Nat) (a1:List GStep) (a2:Int) (a3:List Int) (a4 a5:Int) (u6:GProg) (r:_),zaF t n k a1 a2 a3 a4 a5 u6=some r→loopN (exec (env Tryd.prog 4 Tryd.f4 call) n (sub [1,1,1,1,1,1,1,0,1,0,0,1,0,0,1,1,0,0] (zt Tryd.f4))) k (mkSt 184 184 [(0,(Sl 14 (GStep.ts a1))),(3,(.ptr 3 0 [] 0)),(5,(I6 a2)),(6,(.t (.xl 1 (zz a3)))),(8,(I6 a4)),(9,(I6 a5))] [(3,(.t (GProg.t u6)))])=some (zaF.to r)
 | 0,a1,a2,a3,a4,a5,u6,r,h=>by rw[zaF]at h;cases h
 | k+1,a1,a2,a3,a4,a5,⟨a6⟩,r,h=>by
  rw[zaF]at h
  obtain⟨h1,h⟩:=ck h
  obtain⟨a7,h2,h⟩:=sm h
  have o3 {os} (x:Obls (env Tryd.prog 4 Tryd.f4 call) n os):=zah h1 (zW (zu zI h2) (zJ (zq GCode.zk (l:=a7)) x))
  rcases fk h with ⟨h3,h⟩ | ⟨h3,h⟩
  ·obtain⟨h4,h⟩:=ck h
   obtain⟨⟨a8,a9,a10,⟨a11,a12,a13,a14,a15⟩,⟨a16,a17,a18⟩,a19,a20,a21⟩,h5,h⟩:=sm h
   have o8 {os} (x:Obls (env Tryd.prog 4 Tryd.f4 call) n os):=o3 (zi h3 (zah h1 (zW (zu zI h2) (zah h4 (zW (zu GCode.zk h5) x)))))
   obtain⟨a22 | ⟨a23,a24,a25,a26,a27,a28,a29,⟨a30⟩,⟨a31,a32,a33,⟨a34,a35,a36,a37,a38⟩,⟨a39,a40,a41⟩,a42,a43,a44⟩⟩,h6,h⟩:=sm h
   ·cases h
    exact zx (path (o8 (za5 (lk (sub [1,1,1,1,1,1,1,0,1,0,0,1,0,0,1,1,0,0,1,0,0,1,0,1,0] (zt Tryd.f4)) (by kernel_rfl) (zay.okL ht n n _ _ _ _ _ _ _ _ _ h6)) ob)) (by kernel_rfl)) (fun h=>by cases h)
   ·obtain⟨a45 | ⟨a46,a47,a48,a49,a50,⟨a51⟩⟩,h7,h⟩:=sm h
    ·cases h
     exact zx (path (o8 (za5 (lk (sub [1,1,1,1,1,1,1,0,1,0,0,1,0,0,1,1,0,0,1,0,0,1,0,1,0] (zt Tryd.f4)) (by kernel_rfl) (zay.okL ht n n _ _ _ _ _ _ _ _ _ h6)) (zaq (za0.ok ht n _ _ _ _ _ _ _ _ h7) ob))) (by kernel_rfl)) (fun h=>by cases h)
    ·exact zD (path (o8 (za5 (lk (sub [1,1,1,1,1,1,1,0,1,0,0,1,0,0,1,1,0,0,1,0,0,1,0,1,0] (zt Tryd.f4)) (by kernel_rfl) (zay.okL ht n n _ _ _ _ _ _ _ _ _ h6)) (zaq (za0.ok ht n _ _ _ _ _ _ _ _ h7) ob))) (by kernel_rfl)) (zaF.okL ht n k _ _ _ _ _ _ _ h)
  ·cases h
   exact zx (path (o3 (zi h3 ob)) (by kernel_rfl)) (fun h=>by cases h)
theorem zaG.okL (ht:TabOk t call) (n:Nat):∀(k:Nat) (a1:List GStep) (a2:Int) (a3:List Int) (a4:Int) (u5:GProg) (r:_),zaG t n k a1 a2 a3 a4 u5=some r→loopN (exec (env Tryd.prog 4 Tryd.f4 call) n (sub [1,1,1,1,1,1,1,0,1,0,0] (zt Tryd.f4))) k (mkSt 184 184 [(0,(Sl 14 (GStep.ts a1))),(3,(.ptr 3 0 [] 0)),(5,(I6 a2)),(6,(.t (.xl 1 (zz a3)))),(8,(I6 a4))] [(3,(.t (GProg.t u5)))])=some (zaG.to r)
 | 0,a1,a2,a3,a4,u5,r,h=>by rw[zaG]at h;cases h
 | k+1,a1,a2,a3,a4,⟨a5⟩,r,h=>by
  rw[zaG]at h
  rcases fk h with ⟨h1,h⟩ | ⟨h1,h⟩
  ·obtain⟨h2,h⟩:=ck h
   obtain⟨a6,h3,h⟩:=sm h
   obtain⟨a7 | ⟨a8,a9,a10,a11,a12,a13,⟨a14⟩⟩,h4,h⟩:=sm h
   ·cases h
    exact zx (path (zJ (zq zI (l:=a5)) (zi h1 (zah h2 (zW (zu zI h3) (zJ (zq GCode.zk (l:=a6)) (za5 (lk (sub [1,1,1,1,1,1,1,0,1,0,0,1,0,0,1,1,0] (zt Tryd.f4)) (by kernel_rfl) (zaF.okL ht n n _ _ _ _ _ _ _ h4)) ob)))))) (by kernel_rfl)) (fun h=>by cases h)
   ·exact zD (path (zJ (zq zI (l:=a5)) (zi h1 (zah h2 (zW (zu zI h3) (zJ (zq GCode.zk (l:=a6)) (za5 (lk (sub [1,1,1,1,1,1,1,0,1,0,0,1,0,0,1,1,0] (zt Tryd.f4)) (by kernel_rfl) (zaF.okL ht n n _ _ _ _ _ _ _ h4)) ob)))))) (by kernel_rfl)) (zaG.okL ht n k _ _ _ _ _ _ h)
  ·cases h
   exact zx (path (zJ (zq zI (l:=a5)) (zi h1 ob)) (by kernel_rfl)) (fun h=>by cases h)
theorem zaA.okL (ht:TabOk t call) (n:Nat):∀(k:Nat) (a1:List GStep) (a2:Int) (a3:List Int) (a4:Int) (u5:GProg) (r:_),zaA t n k a1 a2 a3 a4 u5=some r→loopN (exec (env Tryd.prog 4 Tryd.f4 call) n (sub [1,1,1,1,1,1,1,1,0,1,0,0] (zt Tryd.f4))) k (mkSt 184 184 [(0,(Sl 14 (GStep.ts a1))),(3,(.ptr 3 0 [] 0)),(5,(I6 a2)),(6,(.t (.xl 1 (zz a3)))),(13,(I6 a4))] [(3,(.t (GProg.t u5)))])=some (zaA.to r)
 | 0,a1,a2,a3,a4,u5,r,h=>by rw[zaA]at h;cases h
 | k+1,a1,a2,a3,a4,⟨a5⟩,r,h=>by
  rw[zaA]at h
  have o2 {os} (x:Obls (env Tryd.prog 4 Tryd.f4 call) n os):=zW (zdG (.xl 1 (zz a3))) (zJ (zq zw (l:=a3)) x)
  rcases fk h with ⟨h1,h⟩ | ⟨h1,h⟩
  ·obtain⟨h2,h⟩:=ck h
   obtain⟨a6,h3,h⟩:=sm h
   have o7 {os} (x:Obls (env Tryd.prog 4 Tryd.f4 call) n os):=o2 (zi h1 (zW (zdG (.xl 1 (zz a3))) (zah h2 (zW (zu zw h3) (zW (zfY 1 (zu zw h3) (zdG _)) x)))))
   rcases fk h with ⟨h4,h⟩ | ⟨h4,h⟩
   ·have o17 {os} (x:Obls (env Tryd.prog 4 Tryd.f4 call) n os):=o7 (zT (ng h4) (zW (zdG (.xl 1 (zz a3))) (zah h2 (zW (zu zw h3) (zi (ng h4) (zW (zfY 1 (zu zw h3) (zdG _)) (zaS (ng h4) x)))))))
    rcases fk h with ⟨h5,h⟩ | ⟨h5,h⟩
    ·cases h
     exact zx (path (o17 (zi h5 ob)) (by kernel_rfl)) (fun h=>by cases h)
    ·exact zD (path (o17 (zi h5 ob)) (by kernel_rfl)) (zaA.okL ht n k _ _ _ _ _ _ h)
   ·cases h
    exact zx (path (o7 (zaB (ng h4) 6 (zdF 1 ob))) (by kernel_rfl)) (fun h=>by cases h)
  ·cases h
   exact zx (path (o2 (zi h1 ob)) (by kernel_rfl)) (fun h=>by cases h)
theorem zch.ok (ht:TabOk t call) (n:Nat) (a1:List GStep) (a2:Int) (u3:GProg) (r:_) (h:zch t n a1 a2 u3=some r):exec (env Tryd.prog 4 Tryd.f4 call) n (sub [1,1,1,1,1,1,1,1,1] (zt Tryd.f4)) (mkSt 184 184 [(0,(Sl 14 (GStep.ts a1))),(3,(.ptr 3 0 [] 0)),(5,(I6 a2))] [(3,(.t (GProg.t u3)))])=some (zch.to r):=by
 obtain⟨a3⟩:=u3
 rw[zch]at h
 obtain⟨a4,h1,h⟩:=sm h
 rcases fk h with ⟨h2,h⟩ | ⟨h2,h⟩
 ·obtain⟨a5,h3,h⟩:=sm h
  have o10 {os} (x:Obls (env Tryd.prog 4 Tryd.f4 call) n os):=zX (ht.zcH _ _ h1) (zT h2 (zJ (zq zI (l:=a3)) (zaS h2 (zX (ht.zbb _ _ h3) (zaS h2 x)))))
  rcases fk h with ⟨h4,h⟩ | ⟨h4,h⟩
  ·obtain⟨a6,rfl⟩:∃z_,z_=r:=⟨_,rfl⟩
   have h5:=h
   exact path (o10 (zi h4 (zX (ht.zcy _ h5) (zi h4 ob)))) (by kernel_rfl)
  ·cases h
   exact path (o10 (zaS h4 ob)) (by kernel_rfl)
 ·cases h
  exact path (zX (ht.zcH _ _ h1) (zaB h2 7 (zaS (rfl:false=false) ob))) (by kernel_rfl)
theorem zci.ok (ht:TabOk t call) (n:Nat) (a1:List GStep) (a2:Int) (a3:List Int) (u4:GProg) (r:_) (h:zci t n a1 a2 a3 u4=some r):exec (env Tryd.prog 4 Tryd.f4 call) n (sub [1,1,1,1,1,1,1,1] (zt Tryd.f4)) (mkSt 184 184 [(0,(Sl 14 (GStep.ts a1))),(3,(.ptr 3 0 [] 0)),(5,(I6 a2)),(6,(.t (.xl 1 (zz a3))))] [(3,(.t (GProg.t u4)))])=some (zci.to r):=by
 obtain⟨a4⟩:=u4
 rw[zci]at h
 obtain⟨a5 | ⟨a6,a7,a8,a9,a10,⟨a11⟩⟩,h1,h⟩:=sm h
 ·cases h
  exact path (za5 (lk (sub [1,1,1,1,1,1,1,1,0,1,0] (zt Tryd.f4)) (by kernel_rfl) (zaA.okL ht n n _ _ _ _ _ _ h1)) ob) (by kernel_rfl)
 ·obtain⟨a12,rfl⟩:∃z_,z_=r:=⟨_,rfl⟩
  have h2:=h
  exact path (za5 (lk (sub [1,1,1,1,1,1,1,1,0,1,0] (zt Tryd.f4)) (by kernel_rfl) (zaA.okL ht n n _ _ _ _ _ _ h1)) (zaq (zch.ok ht n _ _ _ _ h2) ob)) (by kernel_rfl)
theorem zcx.ok (ht:TabOk t call) (n:Nat) (a1:List GStep) (a2:Int) (a3:List Int) (u4:GProg) (r:_) (h:zcx t n a1 a2 a3 u4=some r):exec (env Tryd.prog 4 Tryd.f4 call) n (sub [1,1,1,1,1,1,1] (zt Tryd.f4)) (mkSt 184 184 [(0,(Sl 14 (GStep.ts a1))),(3,(.ptr 3 0 [] 0)),(5,(I6 a2)),(6,(.t (.xl 1 (zz a3))))] [(3,(.t (GProg.t u4)))])=some (zcx.to r):=by
 obtain⟨a4⟩:=u4
 rw[zcx]at h
 obtain⟨a5 | ⟨a6,a7,a8,a9,a10,⟨a11⟩⟩,h1,h⟩:=sm h
 ·cases h
  exact path (za5 (lk (sub [1,1,1,1,1,1,1,0,1,0] (zt Tryd.f4)) (by kernel_rfl) (zaG.okL ht n n _ _ _ _ _ _ h1)) ob) (by kernel_rfl)
 ·obtain⟨a12,rfl⟩:∃z_,z_=r:=⟨_,rfl⟩
  have h2:=h
  exact path (za5 (lk (sub [1,1,1,1,1,1,1,0,1,0] (zt Tryd.f4)) (by kernel_rfl) (zaG.okL ht n n _ _ _ _ _ _ h1)) (zaq (zci.ok ht n _ _ _ _ _ h2) ob)) (by kernel_rfl)
theorem za8.ok {n:Nat} {t:Tab} (ht:TabOk t (run Tryd.prog own kp X n)):∀(p1:List GStep) r,za8 t n p1=some r→run Tryd.prog own kp X (n+1) 4 [(Sl 14 (GStep.ts p1))] []=some ((Bo r),[]):=by
 intro p1 r h
 obtain⟨a1,rfl⟩:∃z_,z_=p1:=⟨_,rfl⟩
 rw[za8]at h
 obtain⟨a2,h1,h⟩:=sm h
 rcases fk h with ⟨h2,h⟩ | ⟨h2,h⟩
 ·obtain⟨a3,rfl⟩:∃z_,z_=r:=⟨_,rfl⟩
  have h3:=h
  exact zl Tryd.func4 (zX (ht.zc1 _ _ h1) (zi h2 (zX (ht.zcy _ h3) ob))) (by kernel_rfl)
 ·obtain⟨⟨⟨a4⟩,a5⟩,h4,h⟩:=sm h
  rcases fk h with ⟨h5,h⟩ | ⟨h5,h⟩
  ·obtain⟨a6,rfl⟩:∃z_,z_=r:=⟨_,rfl⟩
   have h6:=h
   exact zl Tryd.func4 (zX (ht.zc1 _ _ h1) (zi h2 (zX (ht.zbV _ _ h4) (zi h5 (zX (ht.zcy _ h6) ob))))) (by kernel_rfl)
  ·obtain⟨⟨a7,a8,a9,a10,a11,⟨a12⟩⟩,h7,h⟩:=sm h
   obtain⟨a13,rfl⟩:∃z_,z_=r:=⟨_,rfl⟩
   have h8:=h
   exact zl Tryd.func4 (zX (ht.zc1 _ _ h1) (zi h2 (zX (ht.zbV _ _ h4) (zi h5 (za5 (lk (sub [1,1,1,1,1,1,0,1,0] (zt Tryd.f4)) (by kernel_rfl) (zaE.okL ht n n _ _ _ _ _ _ h7)) (zaq (zcx.ok ht n _ _ _ _ _ h8) ob)))))) (by kernel_rfl)
theorem zc1.ok {n:Nat} {t:Tab} (ht:TabOk t (run Tryd.prog own kp X n)):∀(p1:List GStep) r,zc1 t n p1=some r→run Tryd.prog own kp X (n+1) 6 [(Sl 14 (GStep.ts p1))] []=some ((Bo r),[]):=by
 intro p1 r h
 obtain⟨a1,rfl⟩:∃z_,z_=p1:=⟨_,rfl⟩
 rw[zc1]at h
 obtain⟨a2,h1,h⟩:=sm h
 cases h
 exact zl Tryd.func6 (zX (ht.zbA _ _ _ _ h1) ob) (by kernel_rfl)
theorem zdM.ok (ht:TabOk t call) (n:Nat) (a1 a2:List GStep) (u3:GProg) (r:_) (h:zdM t n a1 a2 u3=some r):exec (env Tryd.prog 8 Tryd.f8 call) n (sub [1,1,1,1,1,1,1] (zt Tryd.f8)) (mkSt 118 118 [(3,(Sl 14 (GStep.ts a1))),(4,(.ptr 4 0 [] 0)),(6,(Sl 14 (GStep.ts a2)))] [(4,(.t (GProg.t u3)))])=some (zdM.to r):=by
 obtain⟨a3⟩:=u3
 rw[zdM]at h
 obtain⟨h1,h⟩:=ck h
 obtain⟨a4,h2,h⟩:=sm h
 obtain⟨h3,h⟩:=ck h
 obtain⟨⟨a5,a6,a7,⟨a8,a9,a10,a11,a12⟩,⟨a13,a14,a15⟩,a16,a17,a18⟩,h4,h⟩:=sm h
 obtain⟨a19,h5,h⟩:=sm h
 have o6 {os} (x:Obls (env Tryd.prog 8 Tryd.f8 call) n os):=zah h1 (zW (zu zI h2) (zah h3 (zW (zu GCode.zk h4) (zah h1 (zW (zu zw h5) x)))))
 rcases fk h with ⟨h6,h⟩ | ⟨h6,h⟩
 ·obtain⟨h7,h⟩:=ck h
  obtain⟨a20,h8,h⟩:=sm h
  obtain⟨⟨a21,a22,a23,⟨a24,a25,a26,a27,a28⟩,⟨a29,a30,a31⟩,a32,a33,a34⟩,h9,h⟩:=sm h
  have o19 {os} (x:Obls (env Tryd.prog 8 Tryd.f8 call) n os):=o6 (zT h6 (zah h7 (zW (zu zI h8) (zaS h6 (zah h7 (zW (zu GCode.zk h9) (zaJ h6 x)))))))
  rcases fk h with ⟨h10,h⟩ | ⟨h10,h⟩
  ·obtain⟨h11,h⟩:=ck h
   obtain⟨a35,h12,h⟩:=sm h
   obtain⟨⟨a36,a37,a38,⟨a39,a40,a41,a42,a43⟩,⟨a44,a45,a46⟩,a47,a48,a49⟩,h13,h⟩:=sm h
   have o32 {os} (x:Obls (env Tryd.prog 8 Tryd.f8 call) n os):=o19 (zT h10 (zah h11 (zW (zu zI h12) (zaS h10 (zah h1 (zW (zu GCode.zk h13) (zaJ h10 x)))))))
   rcases fk h with ⟨h14,h⟩ | ⟨h14,h⟩
   ·obtain⟨a50,h15,h⟩:=sm h
    rcases fk h with ⟨h16,h⟩ | ⟨h16,h⟩
    ·obtain⟨a51,h17,h⟩:=sm h
     rcases fk h with ⟨h18,h⟩ | ⟨h18,h⟩
     ·obtain⟨a52,rfl⟩:∃z_,z_=r:=⟨_,rfl⟩
      have h19:=h
      exact path (o32 (zT h14 (zX (ht.zc2 _ _ _ h15) (zi h14 (zaS h16 (zX (ht.zdx _ _ h17) (zaS h16 (zT h18 (zX (ht.zdZ _ _ _ h19) (zi h18 ob)))))))))) (by kernel_rfl)
     ·cases h
      exact path (o32 (zT h14 (zX (ht.zc2 _ _ _ h15) (zi h14 (zaS h16 (zX (ht.zdx _ _ h17) (zaS h16 (zaJ h18 ob)))))))) (by kernel_rfl)
    ·cases h
     exact path (o32 (zT h14 (zX (ht.zc2 _ _ _ h15) (zi h14 (zaJ h16 (zaJ (rfl:false=false) ob)))))) (by kernel_rfl)
   ·cases h
    exact path (o32 (zaJ h14 (zaB (rfl:false=false) 8 ob))) (by kernel_rfl)
  ·cases h
   exact path (o19 (zaB h10 9 (zaB (rfl:false=false) 12 ob))) (by kernel_rfl)
 ·cases h
  exact path (o6 (zaB h6 9 (zaB (rfl:false=false) 21 ob))) (by kernel_rfl)
theorem zcy.ok {n:Nat} {t:Tab} (ht:TabOk t (run Tryd.prog own kp X n)):∀r,zcy t n=some r→run Tryd.prog own kp X (n+1) 8 [] []=some ((Bo r),[]):=by
 intro r h
 rw[zcy]at h
 obtain⟨⟨⟨a1⟩,a2⟩,h1,h⟩:=sm h
 obtain⟨⟨a3,a4⟩,h2,h⟩:=sm h
 have o2 {os} (x:Obls (env Tryd.prog 8 Tryd.f8 (run Tryd.prog own kp X n)) n os):=zX (ht.zbV _ _ h1) (zX (ht.zdq _ _ h2) x)
 rcases fk h with ⟨h3,h⟩ | ⟨h3,h⟩
 ·cases h
  exact zl Tryd.func8 (o2 (zT h3 (zdF 30 ob))) (by kernel_rfl)
 ·rcases fk h with ⟨h4,h⟩ | ⟨h4,h⟩
  ·cases h
   exact zl Tryd.func8 (o2 (zT h3 (zaB h4 5 (zdF 25 ob)))) (by kernel_rfl)
  ·have o11 {os} (x:Obls (env Tryd.prog 8 Tryd.f8 (run Tryd.prog own kp X n)) n os):=o2 (zT h3 (zT h4 (zJ (zq zI (l:=a1)) (zaS h4 x))))
   rcases fk h with ⟨h5,h⟩ | ⟨h5,h⟩
   ·cases h
    exact zl Tryd.func8 (o11 (zaB h5 7 (zdF 18 ob))) (by kernel_rfl)
   ·obtain⟨h6,h⟩:=ck h
    obtain⟨a5,h7,h⟩:=sm h
    have o21 {os} (x:Obls (env Tryd.prog 8 Tryd.f8 (run Tryd.prog own kp X n)) n os):=o11 (zT h5 (zah h6 (zW (zu zI h7) (zaS h5 (zJ (zq GCode.zk (l:=a5)) (zaS h5 x))))))
    rcases fk h with ⟨h8,h⟩ | ⟨h8,h⟩
    ·cases h
     exact zl Tryd.func8 (o21 (zaB h8 10 (zdF 8 ob))) (by kernel_rfl)
    ·obtain⟨h9,h⟩:=ck h
     obtain⟨⟨a6,a7,a8,⟨a9,a10,a11,a12,a13⟩,⟨a14,a15,a16⟩,a17,a18,a19⟩,h10,h⟩:=sm h
     have o36 {os} (x:Obls (env Tryd.prog 8 Tryd.f8 (run Tryd.prog own kp X n)) n os):=o21 (zT h8 (zah h6 (zW (zu zI h7) (zaS h8 (zah h9 (zW (zu GCode.zk h10) (zT h8 (zJ (zq zw (l:=a17)) (zaS h8 x)))))))))
     rcases fk h with ⟨h11,h⟩ | ⟨h11,h⟩
     ·cases h
      exact zl Tryd.func8 (o36 (zaB h11 7 (zdF 1 ob))) (by kernel_rfl)
     ·obtain⟨h12,h⟩:=ck h
      obtain⟨a20,h13,h⟩:=sm h
      have o46 {os} (x:Obls (env Tryd.prog 8 Tryd.f8 (run Tryd.prog own kp X n)) n os):=o36 (zT h11 (zah h12 (zW (zu zI h13) (zaS h11 (zJ (zq GCode.zk (l:=a20)) (zaS h11 x))))))
      rcases fk h with ⟨h14,h⟩ | ⟨h14,h⟩
      ·cases h
       exact zl Tryd.func8 (o46 (zi h14 ob)) (by kernel_rfl)
      ·obtain⟨a21,rfl⟩:∃z_,z_=r:=⟨_,rfl⟩
       have h15:=h
       exact zl Tryd.func8 (o46 (zi h14 (zaq (zdM.ok ht n _ _ _ _ h15) ob))) (by kernel_rfl)
theorem zbV.ok {n:Nat} {t:Tab} (ht:TabOk t (run Tryd.prog own kp X n)):∀(p1:List GStep) r,zbV t n p1=some r→run Tryd.prog own kp X (n+1) 9 [(Sl 14 (GStep.ts p1))] []=some ((.tup [(GProg.t r.1),(.v (.int .i64 r.2))]),[]):=by
 intro p1 r h
 obtain⟨a1,rfl⟩:∃z_,z_=p1:=⟨_,rfl⟩
 rw[zbV]at h
 obtain⟨a2,h1,h⟩:=sm h
 rcases fk h with ⟨h2,h⟩ | ⟨h2,h⟩
 ·cases h
  exact zl Tryd.func9 (zX (ht.zcB _ _ h1) (zi h2 (zeY (zd5 (l:=([]:List (List GCode)))) ob))) (by kernel_rfl)
 ·obtain⟨a3,h3,h⟩:=sm h
  obtain⟨⟨a4,⟨a5⟩⟩,h4,h⟩:=sm h
  cases h
  exact zl Tryd.func9 (zX (ht.zcB _ _ h1) (zi h2 (zX (ht.zdt _ _ h3) (zX (ht.zaL _ _ _ h4) (zeY (zd5 (l:=a5)) ob))))) (by kernel_rfl)
theorem zcH.ok {n:Nat} {t:Tab} (ht:TabOk t (run Tryd.prog own kp X n)):∀(p1:List GStep) r,zcH t n p1=some r→run Tryd.prog own kp X (n+1) 13 [(Sl 14 (GStep.ts p1))] []=some ((I6 r),[]):=by
 intro p1 r h
 obtain⟨a1,rfl⟩:∃z_,z_=p1:=⟨_,rfl⟩
 rw[zcH]at h
 obtain⟨a2,h1,h⟩:=sm h
 cases h
 exact zl Tryd.func13 (zX (ht.zbF _ _ _ _ h1) ob) (by kernel_rfl)
theorem zb4.okL (ht:TabOk t call) (n:Nat):∀(k:Nat) (a1:List GStep) (a2 a3 a4:Int) (r:_),zb4 t n k a1 a2 a3 a4=some r→loopN (exec (env Tryd.prog 14 Tryd.f14 call) n (sub [1,1,0,1,0,0,1,0,0,0,1,0,0] (zt Tryd.f14))) k (mkSt 67 67 [(0,(Sl 14 (GStep.ts a1))),(3,(I6 a2)),(4,(I6 a3)),(5,(I6 a4))] [])=some (zb4.to r)
 | 0,a1,a2,a3,a4,r,h=>by rw[zb4]at h;cases h
 | k+1,a1,a2,a3,a4,r,h=>by
  rw[zb4]at h
  obtain⟨h1,h⟩:=ck h
  obtain⟨⟨a5,a6,a7,⟨a8,a9,a10,a11,a12⟩,⟨a13,a14,a15⟩,a16,a17,a18⟩,h2,h⟩:=sm h
  rcases fk h with ⟨h3,h⟩ | ⟨h3,h⟩
  ·obtain⟨h4,h⟩:=ck h
   obtain⟨a19,h5,h⟩:=sm h
   obtain⟨a20,h6,h⟩:=sm h
   exact zD (path (zah h1 (zW (zu GStep.zk h2) (zJ (zq zy (l:=a16)) (zi h3 (zah h1 (zW (zu GStep.zk h2) (zah h4 (zW (zu zy h5) (zX (ht.zbb _ _ h6) ob))))))))) (by kernel_rfl)) (zb4.okL ht n k _ _ _ _ _ h)
  ·cases h
   exact zx (path (zah h1 (zW (zu GStep.zk h2) (zJ (zq zy (l:=a16)) (zi h3 ob)))) (by kernel_rfl)) (fun h=>by cases h)
theorem zbd.okL (ht:TabOk t call) (n:Nat):∀(k:Nat) (a1:List GStep) (a2 a3 a4:Int) (r:_),zbd t n k a1 a2 a3 a4=some r→loopN (exec (env Tryd.prog 14 Tryd.f14 call) n (sub [1,1,0,1,0,0,1,0,0,1,1,0,0] (zt Tryd.f14))) k (mkSt 67 67 [(0,(Sl 14 (GStep.ts a1))),(3,(I6 a2)),(4,(I6 a3)),(6,(I6 a4))] [])=some (zbd.to r)
 | 0,a1,a2,a3,a4,r,h=>by rw[zbd]at h;cases h
 | k+1,a1,a2,a3,a4,r,h=>by
  rw[zbd]at h
  obtain⟨h1,h⟩:=ck h
  obtain⟨⟨a5,a6,a7,⟨a8,a9,a10,a11,a12⟩,⟨a13,a14,a15⟩,a16,a17,a18⟩,h2,h⟩:=sm h
  have o3 {os} (x:Obls (env Tryd.prog 14 Tryd.f14 call) n os):=zah h1 (zW (zu GStep.zk h2) (zJ (zq GBy.zk (l:=a17)) x))
  rcases fk h with ⟨h3,h⟩ | ⟨h3,h⟩
  ·obtain⟨h4,h⟩:=ck h
   obtain⟨⟨a19,a20,a21,a22⟩,h5,h⟩:=sm h
   rcases fk h with ⟨h6,h⟩ | ⟨h6,h⟩
   ·obtain⟨a23,h7,h⟩:=sm h
    exact zD (path (o3 (zi h3 (zah h1 (zW (zu GStep.zk h2) (zah h4 (zW (zu GBy.zk h5) (zi h6 (zah h1 (zW (zu GStep.zk h2) (zah h4 (zW (zu GBy.zk h5) (zX (ht.zbb _ _ h7) ob)))))))))))) (by kernel_rfl)) (zbd.okL ht n k _ _ _ _ _ h)
   ·exact zD (path (o3 (zi h3 (zah h1 (zW (zu GStep.zk h2) (zah h4 (zW (zu GBy.zk h5) (zi h6 ob))))))) (by kernel_rfl)) (zbd.okL ht n k _ _ _ _ _ h)
  ·cases h
   exact zx (path (o3 (zi h3 ob)) (by kernel_rfl)) (fun h=>by cases h)
theorem zcI.ok (ht:TabOk t call) (n:Nat) (a1:List GStep) (a2 a3:Int) (r:_) (h:zcI t n a1 a2 a3=some r):exec (env Tryd.prog 14 Tryd.f14 call) n (sub [1,1,0,1,0,0,1,0,0,1] (zt Tryd.f14)) (mkSt 67 67 [(0,(Sl 14 (GStep.ts a1))),(3,(I6 a2)),(4,(I6 a3))] [])=some (zcI.to r):=by
 rw[zcI]at h
 obtain⟨⟨a4,a5,a6,a7,a8⟩,h1,h⟩:=sm h
 cases h
 exact path (za5 (lk (sub [1,1,0,1,0,0,1,0,0,1,1,0] (zt Tryd.f14)) (by kernel_rfl) (zbd.okL ht n n _ _ _ _ _ h1)) ob) (by kernel_rfl)
theorem zbD.okL (ht:TabOk t call) (n:Nat):∀(k:Nat) (a1:List GStep) (a2 a3:Int) (r:_),zbD t n k a1 a2 a3=some r→loopN (exec (env Tryd.prog 14 Tryd.f14 call) n (sub [1,1,0,1,0,0] (zt Tryd.f14))) k (mkSt 67 67 [(0,(Sl 14 (GStep.ts a1))),(3,(I6 a2)),(4,(I6 a3))] [])=some (zbD.to r)
 | 0,a1,a2,a3,r,h=>by rw[zbD]at h;cases h
 | k+1,a1,a2,a3,r,h=>by
  rw[zbD]at h
  rcases fk h with ⟨h1,h⟩ | ⟨h1,h⟩
  ·obtain⟨⟨a4,a5,a6,a7,a8⟩,h2,h⟩:=sm h
   obtain⟨⟨a9,a10,a11⟩,h3,h⟩:=sm h
   exact zD (path (zJ (zq GStep.zk (l:=a1)) (zi h1 (za5 (lk (sub [1,1,0,1,0,0,1,0,0,0,1,0] (zt Tryd.f14)) (by kernel_rfl) (zb4.okL ht n n _ _ _ _ _ h2)) (zaq (zcI.ok ht n _ _ _ _ h3) ob)))) (by kernel_rfl)) (zbD.okL ht n k _ _ _ _ h)
  ·cases h
   exact zx (path (zJ (zq GStep.zk (l:=a1)) (zi h1 ob)) (by kernel_rfl)) (fun h=>by cases h)
theorem zbb.ok {n:Nat} {t:Tab} (ht:TabOk t (run Tryd.prog own kp X n)):∀(p1:List GStep) r,zbb t n p1=some r→run Tryd.prog own kp X (n+1) 14 [(Sl 14 (GStep.ts p1))] []=some ((I6 r),[]):=by
 intro p1 r h
 obtain⟨a1,rfl⟩:∃z_,z_=p1:=⟨_,rfl⟩
 rw[zbb]at h
 obtain⟨⟨a2,a3,a4,a5⟩,h1,h⟩:=sm h
 cases h
 exact zl Tryd.func14 (za5 (lk (sub [1,1,0,1,0] (zt Tryd.f14)) (by kernel_rfl) (zbD.okL ht n n _ _ _ _ h1)) ob) (by kernel_rfl)
theorem zcs.ok (ht:TabOk t call) (n:Nat) (a1:List GStep) (a2 a3 a4 a5:Int) (a6:List (List GStep)) (a7:Int) (r:_) (h:zcs t n a1 a2 a3 a4 a5 a6 a7=some r):exec (env Tryd.prog 17 Tryd.f17 call) n (sub [1,1,0,1,0,0,1,0,0,1,1,1,1,0,0,1] (zt Tryd.f17)) (mkSt 80 80 [(0,(Sl 14 (GStep.ts a1))),(1,(I6 a2)),(2,(I6 a3)),(7,(I6 a4)),(8,(I6 a5)),(10,(Sl 1 (zo a6))),(11,(I6 a7))] [])=some (zcs.to r):=by
 rw[zcs]at h
 rcases fk h with ⟨h1,h⟩ | ⟨h1,h⟩
 ·cases h
  exact path (zi h1 ob) (by kernel_rfl)
 ·obtain⟨h2,h⟩:=ck h
  obtain⟨a8,h3,h⟩:=sm h
  obtain⟨a9,h4,h⟩:=sm h
  cases h
  exact path (zi h1 (zah h2 (zW (zu zy h3) (zX (ht.zbA _ _ _ _ h4) ob)))) (by kernel_rfl)
theorem za3.okL (ht:TabOk t call) (n:Nat):∀(k:Nat) (a1:List GStep) (a2 a3 a4 a5:Int) (a6:List (List GStep)) (a7:Int) (r:_),za3 t n k a1 a2 a3 a4 a5 a6 a7=some r→loopN (exec (env Tryd.prog 17 Tryd.f17 call) n (sub [1,1,0,1,0,0,1,0,0,1,1,1,1,0,0] (zt Tryd.f17))) k (mkSt 80 80 [(0,(Sl 14 (GStep.ts a1))),(1,(I6 a2)),(2,(I6 a3)),(7,(I6 a4)),(8,(I6 a5)),(10,(Sl 1 (zo a6))),(11,(I6 a7))] [])=some (za3.to r)
 | 0,a1,a2,a3,a4,a5,a6,a7,r,h=>by rw[za3]at h;cases h
 | k+1,a1,a2,a3,a4,a5,a6,a7,r,h=>by
  rw[za3]at h
  rcases fk h with ⟨h1,h⟩ | ⟨h1,h⟩
  ·have o5 {os} (x:Obls (env Tryd.prog 17 Tryd.f17 call) n os):=zJ (zq zy (l:=a6)) (zaJ h1 x)
   rcases fk h with ⟨h2,h⟩ | ⟨h2,h⟩
   ·obtain⟨a8 | ⟨a9,a10,a11,a12,a13,a14,a15⟩,h3,h⟩:=sm h
    ·cases h
     exact zx (path (o5 (zi h2 (zaq (zcs.ok ht n _ _ _ _ _ _ _ _ h3) ob))) (by kernel_rfl)) (fun h=>by cases h)
    ·exact zD (path (o5 (zi h2 (zaq (zcs.ok ht n _ _ _ _ _ _ _ _ h3) ob))) (by kernel_rfl)) (za3.okL ht n k _ _ _ _ _ _ _ _ h)
   ·cases h
    exact zx (path (o5 (zi h2 ob)) (by kernel_rfl)) (fun h=>by cases h)
  ·cases h
   exact zx (path (zJ (zq zy (l:=a6)) (zaJ h1 (zi (rfl:false=false) ob))) (by kernel_rfl)) (fun h=>by cases h)
theorem zcc.ok (ht:TabOk t call) (n:Nat) (a1:List GStep) (a2 a3 a4 a5:Int) (r:_) (h:zcc t n a1 a2 a3 a4 a5=some r):exec (env Tryd.prog 17 Tryd.f17 call) n (sub [1,1,0,1,0,0,1] (zt Tryd.f17)) (mkSt 80 80 [(0,(Sl 14 (GStep.ts a1))),(1,(I6 a2)),(2,(I6 a3)),(7,(I6 a4)),(8,(I6 a5))] [])=some (zcc.to r):=by
 rw[zcc]at h
 obtain⟨h1,h⟩:=ck h
 obtain⟨⟨a6,a7,a8,⟨a9,a10,a11,a12,a13⟩,⟨a14,a15,a16⟩,a17,a18,a19⟩,h2,h⟩:=sm h
 obtain⟨a20,h3,h⟩:=sm h
 obtain⟨a21,h4,h⟩:=sm h
 obtain⟨a22,h5,h⟩:=sm h
 have o8 {os} (x:Obls (env Tryd.prog 17 Tryd.f17 call) n os):=zah h1 (zW (zu GStep.zk h2) (zJ (zq zV (l:=a7)) (zJ (zq zw (l:=a8)) (zJ (zq zV (l:=a19)) (zX (ht.zbx _ _ _ h3) (zX (ht.zcz _ _ _ h4) (zX (ht.zcj _ _ h5) x)))))))
 obtain⟨a23 | ⟨a24,a25,a26,a27,a28,a29,a30,a31⟩,h6,h⟩:=sm h
 ·cases h
  exact path (o8 (za5 (lk (sub [1,1,0,1,0,0,1,0,0,1,1,1,1,0] (zt Tryd.f17)) (by kernel_rfl) (za3.okL ht n n _ _ _ _ _ _ _ _ h6)) ob)) (by kernel_rfl)
 ·cases h
  exact path (o8 (za5 (lk (sub [1,1,0,1,0,0,1,0,0,1,1,1,1,0] (zt Tryd.f17)) (by kernel_rfl) (za3.okL ht n n _ _ _ _ _ _ _ _ h6)) ob)) (by kernel_rfl)
theorem za4.okL (ht:TabOk t call) (n:Nat):∀(k:Nat) (a1:List GStep) (a2 a3 a4 a5:Int) (r:_),za4 t n k a1 a2 a3 a4 a5=some r→loopN (exec (env Tryd.prog 17 Tryd.f17 call) n (sub [1,1,0,1,0,0] (zt Tryd.f17))) k (mkSt 80 80 [(0,(Sl 14 (GStep.ts a1))),(1,(I6 a2)),(2,(I6 a3)),(7,(I6 a4)),(8,(I6 a5))] [])=some (za4.to r)
 | 0,a1,a2,a3,a4,a5,r,h=>by rw[za4]at h;cases h
 | k+1,a1,a2,a3,a4,a5,r,h=>by
  rw[za4]at h
  rcases fk h with ⟨h1,h⟩ | ⟨h1,h⟩
  ·rcases fk h with ⟨h2,h⟩ | ⟨h2,h⟩
   ·obtain⟨a6 | ⟨a7,a8,a9,a10,a11⟩,h3,h⟩:=sm h
    ·cases h
     exact zx (path (zJ (zq GStep.zk (l:=a1)) (zaJ h1 (zi h2 (zaq (zcc.ok ht n _ _ _ _ _ _ h3) ob)))) (by kernel_rfl)) (fun h=>by cases h)
    ·exact zD (path (zJ (zq GStep.zk (l:=a1)) (zaJ h1 (zi h2 (zaq (zcc.ok ht n _ _ _ _ _ _ h3) ob)))) (by kernel_rfl)) (za4.okL ht n k _ _ _ _ _ _ h)
   ·cases h
    exact zx (path (zJ (zq GStep.zk (l:=a1)) (zaJ h1 (zi h2 ob))) (by kernel_rfl)) (fun h=>by cases h)
  ·cases h
   exact zx (path (zJ (zq GStep.zk (l:=a1)) (zaJ h1 (zi (rfl:false=false) ob))) (by kernel_rfl)) (fun h=>by cases h)
theorem zbA.ok {n:Nat} {t:Tab} (ht:TabOk t (run Tryd.prog own kp X n)):∀(p1:List GStep) (p2:Int) (p3:Int) r,zbA t n p1 p2 p3=some r→run Tryd.prog own kp X (n+1) 17 [(Sl 14 (GStep.ts p1)),(I6 p2),(I6 p3)] []=some ((I6 r),[]):=by
 intro p1 p2 p3 r h
 obtain⟨a1,rfl⟩:∃z_,z_=p1:=⟨_,rfl⟩
 obtain⟨a2,rfl⟩:∃z_,z_=p2:=⟨_,rfl⟩
 obtain⟨a3,rfl⟩:∃z_,z_=p3:=⟨_,rfl⟩
 rw[zbA]at h
 obtain⟨a4 | ⟨a5,a6,a7,a8,a9,a10⟩,h1,h⟩:=sm h
 ·cases h
  exact zl Tryd.func17 (za5 (lk (sub [1,1,0,1,0] (zt Tryd.f17)) (by kernel_rfl) (za4.okL ht n n _ _ _ _ _ _ h1)) ob) (by kernel_rfl)
 ·cases h
  exact zl Tryd.func17 (za5 (lk (sub [1,1,0,1,0] (zt Tryd.f17)) (by kernel_rfl) (za4.okL ht n n _ _ _ _ _ _ h1)) ob) (by kernel_rfl)
theorem zdq.ok {n:Nat} {t:Tab} (ht:TabOk t (run Tryd.prog own kp X n)):∀(p1:GProg) r,zdq t n p1=some r→run Tryd.prog own kp X (n+1) 15 [(.t (GProg.t p1))] []=some ((.tup [(.sl false 14 (GStep.ts r.1)),(.v (.int .i64 r.2))]),[]):=by
 intro p1 r h
 obtain⟨a1⟩:=p1
 rw[zdq]at h
 obtain⟨⟨a2,a3,⟨a4,a5⟩⟩,h1,h⟩:=sm h
 rcases fk h with ⟨h2,h⟩ | ⟨h2,h⟩
 ·have o11 {os} (x:Obls (env Tryd.prog 15 Tryd.f15 (run Tryd.prog own kp X n)) n os):=zX (ht.zaK _ _ _ h1) (zaB (ng h2) 7 (zJ (zq zI (l:=a1)) (zaS (ng h2) x)))
  rcases fk h with ⟨h3,h⟩ | ⟨h3,h⟩
  ·cases h
   exact zl Tryd.func15 (o11 (zaJ h3 (zdF 1 ob))) (by kernel_rfl)
  ·obtain⟨a6,h4,h⟩:=sm h
   rcases fk h with ⟨h5,h⟩ | ⟨h5,h⟩
   ·cases h
    exact zl Tryd.func15 (o11 (zaS h3 (zX (ht.zcB _ _ h4) (zaS h3 (zi h5 ob))))) (by kernel_rfl)
   ·obtain⟨a7,h6,h⟩:=sm h
    cases h
    exact zl Tryd.func15 (o11 (zaS h3 (zX (ht.zcB _ _ h4) (zaS h3 (zi h5 (zX (ht.zdt _ _ h6) ob)))))) (by kernel_rfl)
 ·cases h
  exact zl Tryd.func15 (zX (ht.zaK _ _ _ h1) (zaB (ng h2) 9 (zdF 5 ob))) (by kernel_rfl)
theorem zcT.okL (ht:TabOk t call) (n:Nat):∀(k:Nat) (a1 a2:List GStep) (a3 a4 a5:Int) (a6:List ByteArray) (a7:List Int) (a8 a9:Int) (a10:ByteArray) (a11 a12:List zh) (a13:Int) (a14:List zh) (a15:List GPred) (a16:List (List GStep)) (a17:List GBy) (a18:List ByteArray) (a19:Int) (a20:List ByteArray) (a21:List Int) (a22 a23:Int) (a24:ByteArray) (a25 a26:List zh) (a27:Int) (a28:List zh) (a29:List GPred) (a30:List (List GStep)) (a31:List GBy) (a32:List ByteArray) (r:_),zcT t n k a1 a2 a3 a4 a5 a6 a7 a8 a9 a10 a11 a12 a13 a14 a15 a16 a17 a18 a19 a20 a21 a22 a23 a24 a25 a26 a27 a28 a29 a30 a31 a32=some r→loopN (exec (env Tryd.prog 12 Tryd.f12 call) n (sub [1,1,0,1,0,0,1,0,0,1,1,1,0,1,0,0] (zt Tryd.f12))) k (mkSt 177 177 [(0,(Sl 14 (GStep.ts a1))),(1,(Sl 14 (GStep.ts a2))),(5,(I6 a3)),(6,(.ptr 6 0 [] 0)),(7,(.ptr 7 0 [] 0)),(8,(I6 a4))] [(6,(.t (.st [(.v (.int .i64 a5)),(.sl false 1 (texts a6)),(.sl false 1 (zz a7)),(.st [(.v (.int .i64 a8)),(.v (.int .i64 a9)),(.v (.string a10)),(.sl false 5 (zh.ts a11)),(.sl false 5 (zh.ts a12))]),(.st [(.v (.int .i64 a13)),(.sl false 5 (zh.ts a14)),(.sl false 3 (GPred.ts a15))]),(.sl false 1 (zo a16)),(.sl false 4 (GBy.ts a17)),(.sl false 1 (texts a18))]))),(7,(.t (.st [(.v (.int .i64 a19)),(.sl false 1 (texts a20)),(.sl false 1 (zz a21)),(.st [(.v (.int .i64 a22)),(.v (.int .i64 a23)),(.v (.string a24)),(.sl false 5 (zh.ts a25)),(.sl false 5 (zh.ts a26))]),(.st [(.v (.int .i64 a27)),(.sl false 5 (zh.ts a28)),(.sl false 3 (GPred.ts a29))]),(.sl false 1 (zo a30)),(.sl false 4 (GBy.ts a31)),(.sl false 1 (texts a32))])))])=some (zcT.to r)
 | 0,a1,a2,a3,a4,a5,a6,a7,a8,a9,a10,a11,a12,a13,a14,a15,a16,a17,a18,a19,a20,a21,a22,a23,a24,a25,a26,a27,a28,a29,a30,a31,a32,r,h=>by rw[zcT]at h;cases h
 | k+1,a1,a2,a3,a4,a5,a6,a7,a8,a9,a10,a11,a12,a13,a14,a15,a16,a17,a18,a19,a20,a21,a22,a23,a24,a25,a26,a27,a28,a29,a30,a31,a32,r,h=>by
  rw[zcT]at h
  rcases fk h with ⟨h1,h⟩ | ⟨h1,h⟩
  ·obtain⟨h2,h⟩:=ck h
   obtain⟨a33,h3,h⟩:=sm h
   obtain⟨a34,h4,h⟩:=sm h
   obtain⟨a35,h5,h⟩:=sm h
   have o7 {os} (x:Obls (env Tryd.prog 12 Tryd.f12 call) n os):=zJ (zq zy (l:=a16)) (zi h1 (zah h2 (zW (zu zy h3) (zah h2 (zW (zu zy h4) (zX (ht.zc2 _ _ _ h5) x))))))
   rcases fk h with ⟨h6,h⟩ | ⟨h6,h⟩
   ·exact zD (path (o7 (zi (ng h6) ob)) (by kernel_rfl)) (zcT.okL ht n k _ _ _ _ _ _ _ _ _ _ _ _ _ _ _ _ _ _ _ _ _ _ _ _ _ _ _ _ _ _ _ _ _ h)
   ·cases h
    exact zx (path (o7 (zi (ng h6) ob)) (by kernel_rfl)) (fun h=>by cases h)
  ·cases h
   exact zx (path (zJ (zq zy (l:=a16)) (zi h1 ob)) (by kernel_rfl)) (fun h=>by cases h)
theorem zc6.okL (ht:TabOk t call) (n:Nat):∀(k:Nat) (a1 a2:List GStep) (a3 a4 a5:Int) (a6:List ByteArray) (a7:List Int) (a8 a9:Int) (a10:ByteArray) (a11 a12:List zh) (a13:Int) (a14:List zh) (a15:List GPred) (a16:List (List GStep)) (a17:List GBy) (a18:List ByteArray) (a19:Int) (a20:List ByteArray) (a21:List Int) (a22 a23:Int) (a24:ByteArray) (a25 a26:List zh) (a27:Int) (a28:List zh) (a29:List GPred) (a30:List (List GStep)) (a31:List GBy) (a32:List ByteArray) (r:_),zc6 t n k a1 a2 a3 a4 a5 a6 a7 a8 a9 a10 a11 a12 a13 a14 a15 a16 a17 a18 a19 a20 a21 a22 a23 a24 a25 a26 a27 a28 a29 a30 a31 a32=some r→loopN (exec (env Tryd.prog 12 Tryd.f12 call) n (sub [1,1,0,1,0,0,1,0,0,1,1,1,1,1,0,0] (zt Tryd.f12))) k (mkSt 177 177 [(0,(Sl 14 (GStep.ts a1))),(1,(Sl 14 (GStep.ts a2))),(5,(I6 a3)),(6,(.ptr 6 0 [] 0)),(7,(.ptr 7 0 [] 0)),(9,(I6 a4))] [(6,(.t (.st [(.v (.int .i64 a5)),(.sl false 1 (texts a6)),(.sl false 1 (zz a7)),(.st [(.v (.int .i64 a8)),(.v (.int .i64 a9)),(.v (.string a10)),(.sl false 5 (zh.ts a11)),(.sl false 5 (zh.ts a12))]),(.st [(.v (.int .i64 a13)),(.sl false 5 (zh.ts a14)),(.sl false 3 (GPred.ts a15))]),(.sl false 1 (zo a16)),(.sl false 4 (GBy.ts a17)),(.sl false 1 (texts a18))]))),(7,(.t (.st [(.v (.int .i64 a19)),(.sl false 1 (texts a20)),(.sl false 1 (zz a21)),(.st [(.v (.int .i64 a22)),(.v (.int .i64 a23)),(.v (.string a24)),(.sl false 5 (zh.ts a25)),(.sl false 5 (zh.ts a26))]),(.st [(.v (.int .i64 a27)),(.sl false 5 (zh.ts a28)),(.sl false 3 (GPred.ts a29))]),(.sl false 1 (zo a30)),(.sl false 4 (GBy.ts a31)),(.sl false 1 (texts a32))])))])=some (zc6.to r)
 | 0,a1,a2,a3,a4,a5,a6,a7,a8,a9,a10,a11,a12,a13,a14,a15,a16,a17,a18,a19,a20,a21,a22,a23,a24,a25,a26,a27,a28,a29,a30,a31,a32,r,h=>by rw[zc6]at h;cases h
 | k+1,a1,a2,a3,a4,a5,a6,a7,a8,a9,a10,a11,a12,a13,a14,a15,a16,a17,a18,a19,a20,a21,a22,a23,a24,a25,a26,a27,a28,a29,a30,a31,a32,r,h=>by
  rw[zc6]at h
  rcases fk h with ⟨h1,h⟩ | ⟨h1,h⟩
  ·obtain⟨h2,h⟩:=ck h
   obtain⟨⟨a33,a34,a35,a36⟩,h3,h⟩:=sm h
   obtain⟨⟨a37,a38,a39,a40⟩,h4,h⟩:=sm h
   have o6 {os} (x:Obls (env Tryd.prog 12 Tryd.f12 call) n os):=zJ (zq GBy.zk (l:=a17)) (zi h1 (zah h2 (zW (zu GBy.zk h3) (zah h2 (zW (zu GBy.zk h4) x)))))
   rcases fk h with ⟨h5,h⟩ | ⟨h5,h⟩
   ·cases h
    exact zx (path (o6 (zaB h5 14 (zdF 30 ob))) (by kernel_rfl)) (fun h=>by cases h)
   ·have o24 {os} (x:Obls (env Tryd.prog 12 Tryd.f12 call) n os):=o6 (zaJ h5 (zah h2 (zW (zu GBy.zk h3) (zaB h5 6 (zah h2 (zW (zu GBy.zk h4) (zaJ h5 x)))))))
    rcases fk h with ⟨h6,h⟩ | ⟨h6,h⟩
    ·have o42 {os} (x:Obls (env Tryd.prog 12 Tryd.f12 call) n os):=o24 (zaJ (ng h6) (zah h2 (zW (zu GBy.zk h3) (zaB (ng h6) 6 (zah h2 (zW (zu GBy.zk h4) (zaJ (ng h6) x)))))))
     rcases fk h with ⟨h7,h⟩ | ⟨h7,h⟩
     ·obtain⟨a41,h8,h⟩:=sm h
      have o62 {os} (x:Obls (env Tryd.prog 12 Tryd.f12 call) n os):=o42 (zaJ (ng h7) (zah h2 (zW (zu GBy.zk h3) (zaB (ng h7) 6 (zah h2 (zW (zu GBy.zk h4) (zT (ng h7) (zX (ht.zc2 _ _ _ h8) (zaS (ng h7) x)))))))))
      rcases fk h with ⟨h9,h⟩ | ⟨h9,h⟩
      ·exact zD (path (o62 (zi (ng h9) ob)) (by kernel_rfl)) (zc6.okL ht n k _ _ _ _ _ _ _ _ _ _ _ _ _ _ _ _ _ _ _ _ _ _ _ _ _ _ _ _ _ _ _ _ _ h)
      ·cases h
       exact zx (path (o62 (zi (ng h9) ob)) (by kernel_rfl)) (fun h=>by cases h)
     ·cases h
      exact zx (path (o42 (zaB (ng h7) 15 (zdF 1 ob))) (by kernel_rfl)) (fun h=>by cases h)
    ·cases h
     exact zx (path (o24 (zaB (ng h6) 14 (zdF 16 ob))) (by kernel_rfl)) (fun h=>by cases h)
  ·cases h
   exact zx (path (zJ (zq GBy.zk (l:=a17)) (zi h1 ob)) (by kernel_rfl)) (fun h=>by cases h)
theorem zdI.ok (ht:TabOk t call) (n:Nat) (a1 a2:List GStep) (a3 a4:Int) (a5:List ByteArray) (a6:List Int) (a7 a8:Int) (a9:ByteArray) (a10 a11:List zh) (a12:Int) (a13:List zh) (a14:List GPred) (a15:List (List GStep)) (a16:List GBy) (a17:List ByteArray) (a18:Int) (a19:List ByteArray) (a20:List Int) (a21 a22:Int) (a23:ByteArray) (a24 a25:List zh) (a26:Int) (a27:List zh) (a28:List GPred) (a29:List (List GStep)) (a30:List GBy) (a31:List ByteArray) (r:_) (h:zdI t n a1 a2 a3 a4 a5 a6 a7 a8 a9 a10 a11 a12 a13 a14 a15 a16 a17 a18 a19 a20 a21 a22 a23 a24 a25 a26 a27 a28 a29 a30 a31=some r):exec (env Tryd.prog 12 Tryd.f12 call) n (sub [1,1,0,1,0,0,1,0,0,1,1,1,1] (zt Tryd.f12)) (mkSt 177 177 [(0,(Sl 14 (GStep.ts a1))),(1,(Sl 14 (GStep.ts a2))),(5,(I6 a3)),(6,(.ptr 6 0 [] 0)),(7,(.ptr 7 0 [] 0))] [(6,(.t (.st [(.v (.int .i64 a4)),(.sl false 1 (texts a5)),(.sl false 1 (zz a6)),(.st [(.v (.int .i64 a7)),(.v (.int .i64 a8)),(.v (.string a9)),(.sl false 5 (zh.ts a10)),(.sl false 5 (zh.ts a11))]),(.st [(.v (.int .i64 a12)),(.sl false 5 (zh.ts a13)),(.sl false 3 (GPred.ts a14))]),(.sl false 1 (zo a15)),(.sl false 4 (GBy.ts a16)),(.sl false 1 (texts a17))]))),(7,(.t (.st [(.v (.int .i64 a18)),(.sl false 1 (texts a19)),(.sl false 1 (zz a20)),(.st [(.v (.int .i64 a21)),(.v (.int .i64 a22)),(.v (.string a23)),(.sl false 5 (zh.ts a24)),(.sl false 5 (zh.ts a25))]),(.st [(.v (.int .i64 a26)),(.sl false 5 (zh.ts a27)),(.sl false 3 (GPred.ts a28))]),(.sl false 1 (zo a29)),(.sl false 4 (GBy.ts a30)),(.sl false 1 (texts a31))])))])=some (zdI.to r):=by
 rw[zdI]at h
 obtain⟨a32 | ⟨a33,a34,a35,a36,a37,a38,a39,a40,a41,a42,a43,a44,a45,a46,a47,a48,a49,a50,a51,a52,a53,a54,a55,a56,a57,a58,a59,a60,a61,a62,a63,a64,a65⟩,h1,h⟩:=sm h
 ·cases h
  exact path (za5 (lk (sub [1,1,0,1,0,0,1,0,0,1,1,1,1,1,0] (zt Tryd.f12)) (by kernel_rfl) (zc6.okL ht n n _ _ _ _ _ _ _ _ _ _ _ _ _ _ _ _ _ _ _ _ _ _ _ _ _ _ _ _ _ _ _ _ _ h1)) ob) (by kernel_rfl)
 ·cases h
  exact path (za5 (lk (sub [1,1,0,1,0,0,1,0,0,1,1,1,1,1,0] (zt Tryd.f12)) (by kernel_rfl) (zc6.okL ht n n _ _ _ _ _ _ _ _ _ _ _ _ _ _ _ _ _ _ _ _ _ _ _ _ _ _ _ _ _ _ _ _ _ h1)) ob) (by kernel_rfl)
theorem zc7.ok (ht:TabOk t call) (n:Nat) (a1 a2:List GStep) (a3 a4:Int) (a5:List ByteArray) (a6:List Int) (a7 a8:Int) (a9:ByteArray) (a10 a11:List zh) (a12:Int) (a13:List zh) (a14:List GPred) (a15:List (List GStep)) (a16:List GBy) (a17:List ByteArray) (a18:Int) (a19:List ByteArray) (a20:List Int) (a21 a22:Int) (a23:ByteArray) (a24 a25:List zh) (a26:Int) (a27:List zh) (a28:List GPred) (a29:List (List GStep)) (a30:List GBy) (a31:List ByteArray) (r:_) (h:zc7 t n a1 a2 a3 a4 a5 a6 a7 a8 a9 a10 a11 a12 a13 a14 a15 a16 a17 a18 a19 a20 a21 a22 a23 a24 a25 a26 a27 a28 a29 a30 a31=some r):exec (env Tryd.prog 12 Tryd.f12 call) n (sub [1,1,0,1,0,0,1,0,0,1,1,1] (zt Tryd.f12)) (mkSt 177 177 [(0,(Sl 14 (GStep.ts a1))),(1,(Sl 14 (GStep.ts a2))),(5,(I6 a3)),(6,(.ptr 6 0 [] 0)),(7,(.ptr 7 0 [] 0))] [(6,(.t (.st [(.v (.int .i64 a4)),(.sl false 1 (texts a5)),(.sl false 1 (zz a6)),(.st [(.v (.int .i64 a7)),(.v (.int .i64 a8)),(.v (.string a9)),(.sl false 5 (zh.ts a10)),(.sl false 5 (zh.ts a11))]),(.st [(.v (.int .i64 a12)),(.sl false 5 (zh.ts a13)),(.sl false 3 (GPred.ts a14))]),(.sl false 1 (zo a15)),(.sl false 4 (GBy.ts a16)),(.sl false 1 (texts a17))]))),(7,(.t (.st [(.v (.int .i64 a18)),(.sl false 1 (texts a19)),(.sl false 1 (zz a20)),(.st [(.v (.int .i64 a21)),(.v (.int .i64 a22)),(.v (.string a23)),(.sl false 5 (zh.ts a24)),(.sl false 5 (zh.ts a25))]),(.st [(.v (.int .i64 a26)),(.sl false 5 (zh.ts a27)),(.sl false 3 (GPred.ts a28))]),(.sl false 1 (zo a29)),(.sl false 4 (GBy.ts a30)),(.sl false 1 (texts a31))])))])=some (zc7.to r):=by
 rw[zc7]at h
 obtain⟨a32 | ⟨a33,a34,a35,a36,a37,a38,a39,a40,a41,a42,a43,a44,a45,a46,a47,a48,a49,a50,a51,a52,a53,a54,a55,a56,a57,a58,a59,a60,a61,a62,a63,a64,a65⟩,h1,h⟩:=sm h
 ·cases h
  exact path (za5 (lk (sub [1,1,0,1,0,0,1,0,0,1,1,1,0,1,0] (zt Tryd.f12)) (by kernel_rfl) (zcT.okL ht n n _ _ _ _ _ _ _ _ _ _ _ _ _ _ _ _ _ _ _ _ _ _ _ _ _ _ _ _ _ _ _ _ _ h1)) ob) (by kernel_rfl)
 ·have h2:=h
  rcases r with a66 | ⟨a67,a68,a69⟩
  ·exact path (za5 (lk (sub [1,1,0,1,0,0,1,0,0,1,1,1,0,1,0] (zt Tryd.f12)) (by kernel_rfl) (zcT.okL ht n n _ _ _ _ _ _ _ _ _ _ _ _ _ _ _ _ _ _ _ _ _ _ _ _ _ _ _ _ _ _ _ _ _ h1)) (zaq (zdI.ok ht n _ _ _ _ _ _ _ _ _ _ _ _ _ _ _ _ _ _ _ _ _ _ _ _ _ _ _ _ _ _ _ _ h2) ob)) (by kernel_rfl)
  ·exact path (za5 (lk (sub [1,1,0,1,0,0,1,0,0,1,1,1,0,1,0] (zt Tryd.f12)) (by kernel_rfl) (zcT.okL ht n n _ _ _ _ _ _ _ _ _ _ _ _ _ _ _ _ _ _ _ _ _ _ _ _ _ _ _ _ _ _ _ _ _ h1)) (zaq (zdI.ok ht n _ _ _ _ _ _ _ _ _ _ _ _ _ _ _ _ _ _ _ _ _ _ _ _ _ _ _ _ _ _ _ _ h2) ob)) (by kernel_rfl)
theorem zc8.okL (ht:TabOk t call) (n:Nat):∀(k:Nat) (a1 a2:List GStep) (a3:Int) (r:_),zc8 t n k a1 a2 a3=some r→loopN (exec (env Tryd.prog 12 Tryd.f12 call) n (sub [1,1,0,1,0,0] (zt Tryd.f12))) k (mkSt 177 177 [(0,(Sl 14 (GStep.ts a1))),(1,(Sl 14 (GStep.ts a2))),(5,(I6 a3))] [])=some (zc8.to r)
 | 0,a1,a2,a3,r,h=>by rw[zc8]at h;cases h
 | k+1,a1,a2,a3,r,h=>by
  rw[zc8]at h
  rcases fk h with ⟨h1,h⟩ | ⟨h1,h⟩
  ·obtain⟨h2,h⟩:=ck h
   obtain⟨⟨a4,a5,a6,⟨a7,a8,a9,a10,a11⟩,⟨a12,a13,a14⟩,a15,a16,a17⟩,h3,h⟩:=sm h
   obtain⟨⟨a18,a19,a20,⟨a21,a22,a23,a24,a25⟩,⟨a26,a27,a28⟩,a29,a30,a31⟩,h4,h⟩:=sm h
   have o6 {os} (x:Obls (env Tryd.prog 12 Tryd.f12 call) n os):=zJ (zq GStep.zk (l:=a1)) (zi h1 (zah h2 (zW (zu GStep.zk h3) (zah h2 (zW (zu GStep.zk h4) x)))))
   rcases fk h with ⟨h5,h⟩ | ⟨h5,h⟩
   ·cases h
    exact zx (path (o6 (zaB h5 7 (zdF 45 ob))) (by kernel_rfl)) (fun h=>by cases h)
   ·obtain⟨a32,h6,h⟩:=sm h
    have o14 {os} (x:Obls (env Tryd.prog 12 Tryd.f12 call) n os):=o6 (zaB h5 5 (zX (ht.zb2 _ _ _ h6) (zaS h5 x)))
    rcases fk h with ⟨h7,h⟩ | ⟨h7,h⟩
    ·obtain⟨a33,h8,h⟩:=sm h
     have o22 {os} (x:Obls (env Tryd.prog 12 Tryd.f12 call) n os):=o14 (zaB (ng h7) 5 (zX (ht.zcd _ _ _ h8) (zaS (ng h7) x)))
     rcases fk h with ⟨h9,h⟩ | ⟨h9,h⟩
     ·obtain⟨a34,h10,h⟩:=sm h
      have o30 {os} (x:Obls (env Tryd.prog 12 Tryd.f12 call) n os):=o22 (zaB (ng h9) 5 (zX (ht.zb2 _ _ _ h10) (zaS (ng h9) x)))
      rcases fk h with ⟨h11,h⟩ | ⟨h11,h⟩
      ·obtain⟨a35,h12,h⟩:=sm h
       have o38 {os} (x:Obls (env Tryd.prog 12 Tryd.f12 call) n os):=o30 (zaB (ng h11) 5 (zX (ht.zdC _ _ _ h12) (zaS (ng h11) x)))
       rcases fk h with ⟨h13,h⟩ | ⟨h13,h⟩
       ·obtain⟨a36,h14,h⟩:=sm h
        have o46 {os} (x:Obls (env Tryd.prog 12 Tryd.f12 call) n os):=o38 (zaB (ng h13) 5 (zX (ht.zdD _ _ _ h14) (zaS (ng h13) x)))
        rcases fk h with ⟨h15,h⟩ | ⟨h15,h⟩
        ·have o56 {os} (x:Obls (env Tryd.prog 12 Tryd.f12 call) n os):=o46 (zT (ng h15) (zJ (zq zy (l:=a15)) (zT (ng h15) (zJ (zq zy (l:=a29)) (zaS (ng h15) x)))))
         rcases fk h with ⟨h16,h⟩ | ⟨h16,h⟩
         ·cases h
          exact zx (path (o56 (zaB h16 8 (zdF 1 ob))) (by kernel_rfl)) (fun h=>by cases h)
         ·have o66 {os} (x:Obls (env Tryd.prog 12 Tryd.f12 call) n os):=o56 (zT h16 (zJ (zq GBy.zk (l:=a16)) (zT h16 (zJ (zq GBy.zk (l:=a30)) (zaS h16 x)))))
          rcases fk h with ⟨h17,h⟩ | ⟨h17,h⟩
          ·cases h
           exact zx (path (o66 (zi h17 ob)) (by kernel_rfl)) (fun h=>by cases h)
          ·obtain⟨a37 | ⟨a38,a39,a40⟩,h18,h⟩:=sm h
           ·cases h
            exact zx (path (o66 (zi h17 (zaq (zc7.ok ht n _ _ _ _ _ _ _ _ _ _ _ _ _ _ _ _ _ _ _ _ _ _ _ _ _ _ _ _ _ _ _ _ h18) ob))) (by kernel_rfl)) (fun h=>by cases h)
           ·exact zD (path (o66 (zi h17 (zaq (zc7.ok ht n _ _ _ _ _ _ _ _ _ _ _ _ _ _ _ _ _ _ _ _ _ _ _ _ _ _ _ _ _ _ _ _ h18) ob))) (by kernel_rfl)) (zc8.okL ht n k _ _ _ _ h)
        ·cases h
         exact zx (path (o46 (zaB (ng h15) 8 (zdF 9 ob))) (by kernel_rfl)) (fun h=>by cases h)
       ·cases h
        exact zx (path (o38 (zaB (ng h13) 7 (zdF 17 ob))) (by kernel_rfl)) (fun h=>by cases h)
      ·cases h
       exact zx (path (o30 (zaB (ng h11) 7 (zdF 24 ob))) (by kernel_rfl)) (fun h=>by cases h)
     ·cases h
      exact zx (path (o22 (zaB (ng h9) 7 (zdF 31 ob))) (by kernel_rfl)) (fun h=>by cases h)
    ·cases h
     exact zx (path (o14 (zaB (ng h7) 7 (zdF 38 ob))) (by kernel_rfl)) (fun h=>by cases h)
  ·cases h
   exact zx (path (zJ (zq GStep.zk (l:=a1)) (zi h1 ob)) (by kernel_rfl)) (fun h=>by cases h)
theorem zc2.ok {n:Nat} {t:Tab} (ht:TabOk t (run Tryd.prog own kp X n)):∀(p1:List GStep) (p2:List GStep) r,zc2 t n p1 p2=some r→run Tryd.prog own kp X (n+1) 12 [(Sl 14 (GStep.ts p1)),(Sl 14 (GStep.ts p2))] []=some ((Bo r),[]):=by
 intro p1 p2 r h
 obtain⟨a1,rfl⟩:∃z_,z_=p1:=⟨_,rfl⟩
 obtain⟨a2,rfl⟩:∃z_,z_=p2:=⟨_,rfl⟩
 rw[zc2]at h
 rcases fk h with ⟨h1,h⟩ | ⟨h1,h⟩
 ·cases h
  exact zl Tryd.func12 (zJ (zq GStep.zk (l:=a1)) (zJ (zq GStep.zk (l:=a2)) (zi h1 ob))) (by kernel_rfl)
 ·obtain⟨a3 | ⟨a4,a5,a6,a7⟩,h2,h⟩:=sm h
  ·cases h
   exact zl Tryd.func12 (zJ (zq GStep.zk (l:=a1)) (zJ (zq GStep.zk (l:=a2)) (zi h1 (za5 (lk (sub [1,1,0,1,0] (zt Tryd.f12)) (by kernel_rfl) (zc8.okL ht n n _ _ _ _ h2)) ob)))) (by kernel_rfl)
  ·cases h
   exact zl Tryd.func12 (zJ (zq GStep.zk (l:=a1)) (zJ (zq GStep.zk (l:=a2)) (zi h1 (za5 (lk (sub [1,1,0,1,0] (zt Tryd.f12)) (by kernel_rfl) (zc8.okL ht n n _ _ _ _ h2)) ob)))) (by kernel_rfl)
theorem zdx.ok {n:Nat} {t:Tab} (ht:TabOk t (run Tryd.prog own kp X n)):∀(p1:GProg) r,zdx t n p1=some r→run Tryd.prog own kp X (n+1) 16 [(.t (GProg.t p1))] []=some ((I6 r),[]):=by
 intro p1 r h
 obtain⟨a1⟩:=p1
 rw[zdx]at h
 obtain⟨⟨a2,a3⟩,h1,h⟩:=sm h
 cases h
 exact zl Tryd.func16 (zX (ht.zdq _ _ h1) ob) (by kernel_rfl)
theorem zdZ.ok {n:Nat} {t:Tab} (ht:TabOk t (run Tryd.prog own kp X n)):∀(p1:GProg) (p2:GProg) r,zdZ t n p1 p2=some r→run Tryd.prog own kp X (n+1) 10 [(.t (GProg.t p1)),(.t (GProg.t p2))] []=some ((Bo r),[]):=by
 intro p1 p2 r h
 obtain⟨a1⟩:=p1
 obtain⟨a2⟩:=p2
 rw[zdZ]at h
 obtain⟨a3,rfl⟩:∃z_,z_=r:=⟨_,rfl⟩
 have h1:=h
 exact zl Tryd.func10 (zX (ht.zat _ _ _ h1) ob) (by kernel_rfl)
theorem zcB.ok {n:Nat} {t:Tab} (ht:TabOk t (run Tryd.prog own kp X n)):∀(p1:List GStep) r,zcB t n p1=some r→run Tryd.prog own kp X (n+1) 18 [(Sl 14 (GStep.ts p1))] []=some ((I6 r),[]):=by
 intro p1 r h
 obtain⟨a1,rfl⟩:∃z_,z_=p1:=⟨_,rfl⟩
 rw[zcB]at h
 obtain⟨a2,h1,h⟩:=sm h
 rcases fk h with ⟨h2,h⟩ | ⟨h2,h⟩
 ·cases h
  exact zl Tryd.func18 (zX (ht.zc3 _ _ h1) (zaJ h2 (zdF 1 ob))) (by kernel_rfl)
 ·obtain⟨a3,h3,h⟩:=sm h
  rcases fk h with ⟨h4,h⟩ | ⟨h4,h⟩
  ·cases h
   exact zl Tryd.func18 (zX (ht.zc3 _ _ h1) (zaS h2 (zX (ht.zaX _ _ _ h3) (zaS h2 (zi (ng h4) ob))))) (by kernel_rfl)
  ·cases h
   exact zl Tryd.func18 (zX (ht.zc3 _ _ h1) (zaS h2 (zX (ht.zaX _ _ _ h3) (zaS h2 (zi (ng h4) ob))))) (by kernel_rfl)
theorem zdt.ok {n:Nat} {t:Tab} (ht:TabOk t (run Tryd.prog own kp X n)):∀(p1:List GStep) r,zdt t n p1=some r→run Tryd.prog own kp X (n+1) 20 [(Sl 14 (GStep.ts p1))] []=some ((Sl 14 (GStep.ts r)),[]):=by
 intro p1 r h
 obtain⟨a1,rfl⟩:∃z_,z_=p1:=⟨_,rfl⟩
 rw[zdt]at h
 obtain⟨a2,rfl⟩:∃z_,z_=r:=⟨_,rfl⟩
 have h1:=h
 exact zl Tryd.func20 (zX (ht.zaV _ _ _ h1) ob) (by kernel_rfl)
theorem zaW.okL (ht:TabOk t call) (n:Nat):∀(k:Nat) (a1:Int) (a2:List GStep) (a3 a4:Int) (a5:List (List GStep)) (a6 a7:Int) (u8:GStep) (a22:Int) (a23:List ByteArray) (a24:List Int) (u12:zh) (u13:GPred) (a33:List Int) (a34:List GKey) (a35:List ByteArray) (u17:zR) (r:_),zaW t n k a1 a2 a3 a4 a5 a6 a7 u8 a22 a23 a24 u12 u13 a33 a34 a35 u17=some r→loopN (exec (env Tryd.prog 19 Tryd.f19 call) n (sub [1,1,1,0,1,0,0,1,1,0,0,1,1,0,1,0,0] (zt Tryd.f19))) k (mkSt 110 111 [(0,(.ptr 110 0 [] 0)),(5,(I6 a1)),(7,(.ptr 7 0 [] 0)),(8,(.ptr 8 0 [] 0)),(28,(Sl 14 (GStep.ts a2))),(29,(I6 a3)),(30,(I6 a4)),(48,(Sl 1 (zo a5))),(49,(I6 a6)),(50,(I6 a7))] [(7,(.t (GStep.t u8))),(8,(.t (.st [(.v (.int .i64 a22)),(.sl false 1 (texts a23)),(.sl false 1 (zz a24)),(zh.t u12),(GPred.t u13),(.xl 1 (zz a33)),(.xl 4 (GKey.ts a34)),(.sl false 1 (texts a35))]))),(110,(.t (zR.x u17)))])=some (zaW.to r)
 | 0,a1,a2,a3,a4,a5,a6,a7,u8,a22,a23,a24,u12,u13,a33,a34,a35,u17,r,h=>by rw[zaW]at h;cases h
 | k+1,a1,a2,a3,a4,a5,a6,a7,⟨a8,a9,a10,⟨a11,a12,a13,a14,a15⟩,⟨a16,a17,a18⟩,a19,a20,a21⟩,a22,a23,a24,⟨a25,a26,a27,a28,a29⟩,⟨a30,a31,a32⟩,a33,a34,a35,⟨a36⟩,r,h=>by
  rw[zaW]at h
  rcases fk h with ⟨h1,h⟩ | ⟨h1,h⟩
  ·obtain⟨h2,h⟩:=ck h
   obtain⟨a37,h3,h⟩:=sm h
   obtain⟨⟨a38,⟨a39⟩⟩,h4,h⟩:=sm h
   obtain⟨h5,h⟩:=cl h
   exact zD (path (zi h1 (zah h2 (zW (zu zy h3) (zX (ht.zaL _ _ _ h4) (zeG (zdP zw h5) (zeY (zea zw (a:=a33) (b:=([a38]:List Int))) ob)))))) (by kernel_rfl)) (zaW.okL ht n k _ _ _ _ _ _ _ _ _ _ _ _ _ _ _ _ _ _ h)
  ·cases h
   exact zx (path (zi h1 ob) (by kernel_rfl)) (fun h=>by cases h)
theorem zbp.ok (ht:TabOk t call) (n:Nat) (a1:Int) (a2:List GStep) (a3 a4:Int) (a5:List GBy) (a6 a7 a8:Int) (a9:List ByteArray) (a10:List Int) (u11:zh) (u12:GPred) (a19:List Int) (a20:List GKey) (a21:List ByteArray) (u16:GKey) (u17:zR) (r:_) (h:zbp t n a1 a2 a3 a4 a5 a6 a7 a8 a9 a10 u11 u12 a19 a20 a21 u16 u17=some r):exec (env Tryd.prog 19 Tryd.f19 call) n (sub [1,1,1,0,1,0,0,1,1,0,0,1,1,1,0,1,0,0,1,1,0,0,1,1,1] (zt Tryd.f19)) (mkSt 110 111 [(0,(.ptr 110 0 [] 0)),(5,(I6 a1)),(8,(.ptr 8 0 [] 0)),(13,(.ptr 13 0 [] 0)),(28,(Sl 14 (GStep.ts a2))),(29,(I6 a3)),(30,(I6 a4)),(64,(Sl 4 (GBy.ts a5))),(65,(I6 a6)),(66,(I6 a7))] [(8,(.t (.st [(.v (.int .i64 a8)),(.sl false 1 (texts a9)),(.sl false 1 (zz a10)),(zh.t u11),(GPred.t u12),(.xl 1 (zz a19)),(.xl 4 (GKey.ts a20)),(.sl false 1 (texts a21))]))),(13,(.t (GKey.t u16))),(110,(.t (zR.x u17)))])=some (zbp.to r):=by
 obtain⟨a11,a12,a13,a14,a15⟩:=u11
 obtain⟨a16,a17,a18⟩:=u12
 obtain⟨a22,a23,a24,a25⟩:=u16
 obtain⟨a26⟩:=u17
 rw[zbp]at h
 obtain⟨h1,h⟩:=cl h
 cases h
 exact path (zeG (zdP GKey.zk h1) (zeY (zea GKey.zk (a:=a20) (b:=([(GKey.mk a22 a23 a24 a25)]:List GKey))) ob)) (by kernel_rfl)
theorem zaz.okL (ht:TabOk t call) (n:Nat):∀(k:Nat) (a1:Int) (a2:List GStep) (a3 a4:Int) (a5:List GBy) (a6 a7 a8:Int) (a9:List ByteArray) (a10:List Int) (u11:zh) (u12:GPred) (a19:List Int) (a20:List GKey) (a21:List ByteArray) (u16:zR) (r:_),zaz t n k a1 a2 a3 a4 a5 a6 a7 a8 a9 a10 u11 u12 a19 a20 a21 u16=some r→loopN (exec (env Tryd.prog 19 Tryd.f19 call) n (sub [1,1,1,0,1,0,0,1,1,0,0,1,1,1,0,1,0,0] (zt Tryd.f19))) k (mkSt 110 111 [(0,(.ptr 110 0 [] 0)),(5,(I6 a1)),(8,(.ptr 8 0 [] 0)),(28,(Sl 14 (GStep.ts a2))),(29,(I6 a3)),(30,(I6 a4)),(64,(Sl 4 (GBy.ts a5))),(65,(I6 a6)),(66,(I6 a7))] [(8,(.t (.st [(.v (.int .i64 a8)),(.sl false 1 (texts a9)),(.sl false 1 (zz a10)),(zh.t u11),(GPred.t u12),(.xl 1 (zz a19)),(.xl 4 (GKey.ts a20)),(.sl false 1 (texts a21))]))),(110,(.t (zR.x u16)))])=some (zaz.to r)
 | 0,a1,a2,a3,a4,a5,a6,a7,a8,a9,a10,u11,u12,a19,a20,a21,u16,r,h=>by rw[zaz]at h;cases h
 | k+1,a1,a2,a3,a4,a5,a6,a7,a8,a9,a10,⟨a11,a12,a13,a14,a15⟩,⟨a16,a17,a18⟩,a19,a20,a21,⟨a22⟩,r,h=>by
  rw[zaz]at h
  rcases fk h with ⟨h1,h⟩ | ⟨h1,h⟩
  ·obtain⟨h2,h⟩:=ck h
   obtain⟨⟨a23,a24,a25,a26⟩,h3,h⟩:=sm h
   rcases fk h with ⟨h4,h⟩ | ⟨h4,h⟩
   ·obtain⟨⟨a27,⟨a28⟩⟩,h5,h⟩:=sm h
    obtain⟨⟨a29,a30,a31,a32,a33,a34,a35,a36,a37,a38,⟨a39,a40,a41,a42,a43⟩,⟨a44,a45,a46⟩,a47,a48,a49,⟨a50⟩⟩,h6,h⟩:=sm h
    exact zD (path (zi h1 (zah h2 (zW (zu GBy.zk h3) (zi h4 (zX (ht.zaL _ _ _ h5) (zaq (zbp.ok ht n _ _ _ _ _ _ _ _ _ _ _ _ _ _ _ _ _ _ h6) ob)))))) (by kernel_rfl)) (zaz.okL ht n k _ _ _ _ _ _ _ _ _ _ _ _ _ _ _ _ _ h)
   ·obtain⟨⟨a51,a52,a53,a54,a55,a56,a57,a58,a59,a60,⟨a61,a62,a63,a64,a65⟩,⟨a66,a67,a68⟩,a69,a70,a71,⟨a72⟩⟩,h7,h⟩:=sm h
    exact zD (path (zi h1 (zah h2 (zW (zu GBy.zk h3) (zi h4 (zaq (zbp.ok ht n _ _ _ _ _ _ _ _ _ _ _ _ _ _ _ _ _ _ h7) ob))))) (by kernel_rfl)) (zaz.okL ht n k _ _ _ _ _ _ _ _ _ _ _ _ _ _ _ _ _ h)
  ·cases h
   exact zx (path (zi h1 ob) (by kernel_rfl)) (fun h=>by cases h)
theorem zcm.ok (ht:TabOk t call) (n:Nat) (a1:Int) (a2:List GStep) (a3 a4:Int) (u5:GCode) (u6:zR) (r:_) (h:zcm t n a1 a2 a3 a4 u5 u6=some r):exec (env Tryd.prog 19 Tryd.f19 call) n (sub [1,1,1,0,1,0,0,1,1,0,0,1,1,1,1] (zt Tryd.f19)) (mkSt 110 111 [(0,(.ptr 110 0 [] 0)),(5,(I6 a1)),(8,(.ptr 8 0 [] 0)),(28,(Sl 14 (GStep.ts a2))),(29,(I6 a3)),(30,(I6 a4))] [(8,(.t (GCode.t u5))),(110,(.t (zR.x u6)))])=some (zcm.to r):=by
 obtain⟨a5,a6,a7,⟨a8,a9,a10,a11,a12⟩,⟨a13,a14,a15⟩,a16,a17,a18⟩:=u5
 obtain⟨a19⟩:=u6
 rw[zcm]at h
 obtain⟨h1,h⟩:=ck h
 obtain⟨a20,h2,h⟩:=sm h
 obtain⟨h3,h⟩:=cl h
 cases h
 exact path (zW (zhj (fs:=[(.xl 1 (zbc a19))]) (i:=0) rfl (zdG _)) (zah h1 (zW (zu zbo h2) (zW (zhj (fs:=[(.xl 1 (zbc a19))]) (i:=0) rfl (zfY 1 (zu zbo h2) (zdG _))) (zW (zhj (fs:=[(.xl 1 (zbc a19))]) (i:=0) rfl (zfY 1 (zu zbo h2) (zdG _))) (zW (znv (fs:=[(.xl 1 (zbc a19))]) (i:=0) rfl (zoa 1 zbo h2 (zh4 _ .op))) (zeG (zdP GCode.zk h3) (zeY (zea GCode.zk (a:=a20) (b:=([(GCode.mk a5 a6 a7 (zh.mk a8 a9 a10 a11 a12) (GPred.mk a13 a14 a15) a16 a17 a18)]:List GCode))) (zW (zhj (fs:=[(.xl 1 (List.set (zbc a19) ((a1:Int).toNat) .op))]) (i:=0) rfl (zdG _)) (zah h1 (zW (zkl (z:=.op) zbo h2) (zW (zhj (fs:=[(.xl 1 (List.set (zbc a19) ((a1:Int).toNat) .op))]) (i:=0) rfl (zoG 1 zbo h2 (zdG _))) (zW (znv (fs:=[(.xl 1 (List.set (zbc a19) ((a1:Int).toNat) .op))]) (i:=0) rfl (zoH 1 zbo (a20++([(GCode.mk a5 a6 a7 (zh.mk a8 a9 a10 a11 a12) (GPred.mk a13 a14 a15) a16 a17 a18)]:List GCode)) h2 (zh4 _ (.xl 14 (GCode.ts (a20++([(GCode.mk a5 a6 a7 (zh.mk a8 a9 a10 a11 a12) (GPred.mk a13 a14 a15) a16 a17 a18)]:List GCode))))))) ob))))))))))))) (by kernel_rfl)
theorem zcJ.ok (ht:TabOk t call) (n:Nat) (a1:Int) (a2:List GStep) (a3 a4:Int) (u5:GStep) (a19:Int) (a20:List ByteArray) (a21:List Int) (u9:zh) (u10:GPred) (a30:List Int) (a31:List GKey) (a32:List ByteArray) (u14:zR) (r:_) (h:zcJ t n a1 a2 a3 a4 u5 a19 a20 a21 u9 u10 a30 a31 a32 u14=some r):exec (env Tryd.prog 19 Tryd.f19 call) n (sub [1,1,1,0,1,0,0,1,1,0,0,1,1,1] (zt Tryd.f19)) (mkSt 110 111 [(0,(.ptr 110 0 [] 0)),(5,(I6 a1)),(7,(.ptr 7 0 [] 0)),(8,(.ptr 8 0 [] 0)),(28,(Sl 14 (GStep.ts a2))),(29,(I6 a3)),(30,(I6 a4))] [(7,(.t (GStep.t u5))),(8,(.t (.st [(.v (.int .i64 a19)),(.sl false 1 (texts a20)),(.sl false 1 (zz a21)),(zh.t u9),(GPred.t u10),(.xl 1 (zz a30)),(.xl 4 (GKey.ts a31)),(.sl false 1 (texts a32))]))),(110,(.t (zR.x u14)))])=some (zcJ.to r):=by
 obtain⟨a5,a6,a7,⟨a8,a9,a10,a11,a12⟩,⟨a13,a14,a15⟩,a16,a17,a18⟩:=u5
 obtain⟨a22,a23,a24,a25,a26⟩:=u9
 obtain⟨a27,a28,a29⟩:=u10
 obtain⟨a33⟩:=u14
 rw[zcJ]at h
 obtain⟨⟨a34,a35,a36,a37,a38,a39,a40,a41,a42,a43,a44,⟨a45,a46,a47,a48,a49⟩,⟨a50,a51,a52⟩,a53,a54,a55,⟨a56⟩⟩,h1,h⟩:=sm h
 obtain⟨a57,a58,a59,a60,⟨a61⟩⟩:=r
 have h2:=h
 exact path (zJ (zq GBy.zk (l:=a17)) (za5 (lk (sub [1,1,1,0,1,0,0,1,1,0,0,1,1,1,0,1,0] (zt Tryd.f19)) (by kernel_rfl) (zaz.okL ht n n _ _ _ _ _ _ _ _ _ _ _ _ _ _ _ _ _ h1)) (zeY (zgZ (l:=a53)) (zeY (GKey.zgu (l:=a54)) (zaq (zcm.ok ht n _ _ _ _ _ _ _ h2) ob))))) (by kernel_rfl)
theorem zaD.okL (ht:TabOk t call) (n:Nat):∀(k:Nat) (a1:Int) (a2:List GStep) (a3 a4:Int) (u5:zR) (r:_),zaD t n k a1 a2 a3 a4 u5=some r→loopN (exec (env Tryd.prog 19 Tryd.f19 call) n (sub [1,1,1,0,1,0,0] (zt Tryd.f19))) k (mkSt 110 111 [(0,(.ptr 110 0 [] 0)),(5,(I6 a1)),(28,(Sl 14 (GStep.ts a2))),(29,(I6 a3)),(30,(I6 a4))] [(110,(.t (zR.x u5)))])=some (zaD.to r)
 | 0,a1,a2,a3,a4,u5,r,h=>by rw[zaD]at h;cases h
 | k+1,a1,a2,a3,a4,⟨a5⟩,r,h=>by
  rw[zaD]at h
  rcases fk h with ⟨h1,h⟩ | ⟨h1,h⟩
  ·obtain⟨h2,h⟩:=ck h
   obtain⟨⟨a6,a7,a8,⟨a9,a10,a11,a12,a13⟩,⟨a14,a15,a16⟩,a17,a18,a19⟩,h3,h⟩:=sm h
   obtain⟨⟨a20,a21,a22,a23,a24,a25,a26,a27,⟨a28,a29,a30,⟨a31,a32,a33,a34,a35⟩,⟨a36,a37,a38⟩,a39,a40,a41⟩,a42,a43,a44,⟨a45,a46,a47,a48,a49⟩,⟨a50,a51,a52⟩,a53,a54,a55,⟨a56⟩⟩,h4,h⟩:=sm h
   obtain⟨⟨a57,a58,a59,a60,⟨a61⟩⟩,h5,h⟩:=sm h
   exact zD (path (zi h1 (zah h2 (zW (zu GStep.zk h3) (zJ (zq zy (l:=a17)) (za5 (lk (sub [1,1,1,0,1,0,0,1,1,0,0,1,1,0,1,0] (zt Tryd.f19)) (by kernel_rfl) (zaW.okL ht n n _ _ _ _ _ _ _ _ _ _ _ _ _ _ _ _ _ _ h4)) (zaq (zcJ.ok ht n _ _ _ _ _ _ _ _ _ _ _ _ _ _ _ h5) ob)))))) (by kernel_rfl)) (zaD.okL ht n k _ _ _ _ _ _ h)
  ·cases h
   exact zx (path (zi h1 ob) (by kernel_rfl)) (fun h=>by cases h)
theorem zaL.ok {n:Nat} {t:Tab} (ht:TabOk t (run Tryd.prog own kp X n)):∀(p1:List GStep) (p2:zR) r,zaL t n p1 p2=some r→run Tryd.prog own kp X (n+1) 19 [(.ptr 0 0 [] 0),(Sl 14 (GStep.ts p1))] [(.t (zR.x p2))]=some ((I6 r.1),[(.t (zR.x r.2))]):=by
 intro p1 p2 r h
 obtain⟨a1,rfl⟩:∃z_,z_=p1:=⟨_,rfl⟩
 obtain⟨a2⟩:=p2
 rw[zaL]at h
 obtain⟨h1,h⟩:=cl h
 obtain⟨⟨a3,a4,a5,a6,a7,⟨a8⟩⟩,h2,h⟩:=sm h
 cases h
 exact zl Tryd.func19 (zW (zhj (fs:=[(.xl 1 (zbc a2))]) (i:=0) rfl (zdG _)) (zJ (zq zbo (l:=a2)) (zeG (zdP zbo h1) (zeY (zea zbo (a:=a2) (b:=([([]:List GCode)]:List (List GCode)))) (zJ (zq GStep.zk (l:=a1)) (za5 (lk (sub [1,1,1,0,1,0] (zt Tryd.f19)) (by kernel_rfl) (zaD.okL ht n n _ _ _ _ _ _ h2)) ob)))))) (by kernel_rfl)
theorem zcK.ok (ht:TabOk t call) (n:Nat) (a1:List GStep) (a2 a3 a4 a5:Int) (a6:List (List GStep)) (a7:Int) (r:_) (h:zcK t n a1 a2 a3 a4 a5 a6 a7=some r):exec (env Tryd.prog 31 Tryd.f31 call) n (sub [1,1,0,1,0,0,1,0,0,1,1,1,0,0,1] (zt Tryd.f31)) (mkSt 57 57 [(0,(Sl 14 (GStep.ts a1))),(1,(I6 a2)),(2,(I6 a3)),(7,(I6 a4)),(8,(I6 a5)),(9,(Sl 1 (zo a6))),(10,(I6 a7))] [])=some (zcK.to r):=by
 rw[zcK]at h
 obtain⟨h1,h⟩:=ck h
 obtain⟨a8,h2,h⟩:=sm h
 obtain⟨a9,h3,h⟩:=sm h
 cases h
 exact path (zah h1 (zW (zu zy h2) (zX (ht.zbF _ _ _ _ h3) ob))) (by kernel_rfl)
theorem zbe.okL (ht:TabOk t call) (n:Nat):∀(k:Nat) (a1:List GStep) (a2 a3 a4 a5:Int) (a6:List (List GStep)) (a7:Int) (r:_),zbe t n k a1 a2 a3 a4 a5 a6 a7=some r→loopN (exec (env Tryd.prog 31 Tryd.f31 call) n (sub [1,1,0,1,0,0,1,0,0,1,1,1,0,0] (zt Tryd.f31))) k (mkSt 57 57 [(0,(Sl 14 (GStep.ts a1))),(1,(I6 a2)),(2,(I6 a3)),(7,(I6 a4)),(8,(I6 a5)),(9,(Sl 1 (zo a6))),(10,(I6 a7))] [])=some (zbe.to r)
 | 0,a1,a2,a3,a4,a5,a6,a7,r,h=>by rw[zbe]at h;cases h
 | k+1,a1,a2,a3,a4,a5,a6,a7,r,h=>by
  rw[zbe]at h
  rcases fk h with ⟨h1,h⟩ | ⟨h1,h⟩
  ·rcases fk h with ⟨h2,h⟩ | ⟨h2,h⟩
   ·rcases fk h with ⟨h3,h⟩ | ⟨h3,h⟩
    ·obtain⟨⟨a8,a9,a10,a11,a12,a13,a14⟩,h4,h⟩:=sm h
     exact zD (path (zJ (zq zy (l:=a6)) (zT h1 (zaJ h2 (zi h3 (zaq (zcK.ok ht n _ _ _ _ _ _ _ _ h4) ob))))) (by kernel_rfl)) (zbe.okL ht n k _ _ _ _ _ _ _ _ h)
    ·cases h
     exact zx (path (zJ (zq zy (l:=a6)) (zT h1 (zaJ h2 (zi h3 ob)))) (by kernel_rfl)) (fun h=>by cases h)
   ·cases h
    exact zx (path (zJ (zq zy (l:=a6)) (zT h1 (zaJ h2 (zi (rfl:false=false) ob)))) (by kernel_rfl)) (fun h=>by cases h)
  ·cases h
   exact zx (path (zJ (zq zy (l:=a6)) (zT h1 (zaB (rfl:false=false) 5 ob))) (by kernel_rfl)) (fun h=>by cases h)
theorem zcL.ok (ht:TabOk t call) (n:Nat) (a1:List GStep) (a2 a3 a4 a5:Int) (r:_) (h:zcL t n a1 a2 a3 a4 a5=some r):exec (env Tryd.prog 31 Tryd.f31 call) n (sub [1,1,0,1,0,0,1] (zt Tryd.f31)) (mkSt 57 57 [(0,(Sl 14 (GStep.ts a1))),(1,(I6 a2)),(2,(I6 a3)),(7,(I6 a4)),(8,(I6 a5))] [])=some (zcL.to r):=by
 rw[zcL]at h
 obtain⟨h1,h⟩:=ck h
 obtain⟨⟨a6,a7,a8,⟨a9,a10,a11,a12,a13⟩,⟨a14,a15,a16⟩,a17,a18,a19⟩,h2,h⟩:=sm h
 obtain⟨a20,h3,h⟩:=sm h
 obtain⟨⟨a21,a22,a23,a24,a25,a26,a27,a28⟩,h4,h⟩:=sm h
 cases h
 exact path (zah h1 (zW (zu GStep.zk h2) (zX (ht.zcj _ _ h3) (za5 (lk (sub [1,1,0,1,0,0,1,0,0,1,1,1,0] (zt Tryd.f31)) (by kernel_rfl) (zbe.okL ht n n _ _ _ _ _ _ _ _ h4)) ob)))) (by kernel_rfl)
theorem zbE.okL (ht:TabOk t call) (n:Nat):∀(k:Nat) (a1:List GStep) (a2 a3 a4 a5:Int) (r:_),zbE t n k a1 a2 a3 a4 a5=some r→loopN (exec (env Tryd.prog 31 Tryd.f31 call) n (sub [1,1,0,1,0,0] (zt Tryd.f31))) k (mkSt 57 57 [(0,(Sl 14 (GStep.ts a1))),(1,(I6 a2)),(2,(I6 a3)),(7,(I6 a4)),(8,(I6 a5))] [])=some (zbE.to r)
 | 0,a1,a2,a3,a4,a5,r,h=>by rw[zbE]at h;cases h
 | k+1,a1,a2,a3,a4,a5,r,h=>by
  rw[zbE]at h
  rcases fk h with ⟨h1,h⟩ | ⟨h1,h⟩
  ·rcases fk h with ⟨h2,h⟩ | ⟨h2,h⟩
   ·obtain⟨⟨a6,a7,a8,a9,a10⟩,h3,h⟩:=sm h
    exact zD (path (zJ (zq GStep.zk (l:=a1)) (zaJ h1 (zi h2 (zaq (zcL.ok ht n _ _ _ _ _ _ h3) ob)))) (by kernel_rfl)) (zbE.okL ht n k _ _ _ _ _ _ h)
   ·cases h
    exact zx (path (zJ (zq GStep.zk (l:=a1)) (zaJ h1 (zi h2 ob))) (by kernel_rfl)) (fun h=>by cases h)
  ·cases h
   exact zx (path (zJ (zq GStep.zk (l:=a1)) (zaJ h1 (zi (rfl:false=false) ob))) (by kernel_rfl)) (fun h=>by cases h)
theorem zbF.ok {n:Nat} {t:Tab} (ht:TabOk t (run Tryd.prog own kp X n)):∀(p1:List GStep) (p2:Int) (p3:Int) r,zbF t n p1 p2 p3=some r→run Tryd.prog own kp X (n+1) 31 [(Sl 14 (GStep.ts p1)),(I6 p2),(I6 p3)] []=some ((I6 r),[]):=by
 intro p1 p2 p3 r h
 obtain⟨a1,rfl⟩:∃z_,z_=p1:=⟨_,rfl⟩
 obtain⟨a2,rfl⟩:∃z_,z_=p2:=⟨_,rfl⟩
 obtain⟨a3,rfl⟩:∃z_,z_=p3:=⟨_,rfl⟩
 rw[zbF]at h
 obtain⟨⟨a4,a5,a6,a7,a8,a9⟩,h1,h⟩:=sm h
 cases h
 exact zl Tryd.func31 (za5 (lk (sub [1,1,0,1,0] (zt Tryd.f31)) (by kernel_rfl) (zbE.okL ht n n _ _ _ _ _ _ h1)) ob) (by kernel_rfl)
theorem zcM.ok (ht:TabOk t call) (n:Nat) (a1 a2 a3 a4 a5:Int) (a6:ByteArray) (a7 a8:List zh) (r:_) (h:zcM t n a1 a2 a3 a4 a5 a6 a7 a8=some r):exec (env Tryd.prog 33 Tryd.f33 call) n (sub [1,1,0,1,0,0,1] (zt Tryd.f33)) (mkSt 60 60 [(1,(I6 a1)),(2,(.ptr 2 0 [] 0)),(5,(I6 a2)),(6,(I6 a3))] [(2,(.t (.st [(.v (.int .i64 a4)),(.v (.int .i64 a5)),(.v (.string a6)),(.sl false 5 (zh.ts a7)),(.sl false 5 (zh.ts a8))])))])=some (zcM.to r):=by
 rw[zcM]at h
 obtain⟨h1,h⟩:=ck h
 obtain⟨⟨a9,a10,a11,a12,a13⟩,h2,h⟩:=sm h
 obtain⟨a14,h3,h⟩:=sm h
 cases h
 exact path (zah h1 (zW (zu zh.zk h2) (zX (ht.zbx _ _ _ h3) ob))) (by kernel_rfl)
theorem zbG.okL (ht:TabOk t call) (n:Nat):∀(k:Nat) (a1 a2 a3 a4 a5:Int) (a6:ByteArray) (a7 a8:List zh) (r:_),zbG t n k a1 a2 a3 a4 a5 a6 a7 a8=some r→loopN (exec (env Tryd.prog 33 Tryd.f33 call) n (sub [1,1,0,1,0,0] (zt Tryd.f33))) k (mkSt 60 60 [(1,(I6 a1)),(2,(.ptr 2 0 [] 0)),(5,(I6 a2)),(6,(I6 a3))] [(2,(.t (.st [(.v (.int .i64 a4)),(.v (.int .i64 a5)),(.v (.string a6)),(.sl false 5 (zh.ts a7)),(.sl false 5 (zh.ts a8))])))])=some (zbG.to r)
 | 0,a1,a2,a3,a4,a5,a6,a7,a8,r,h=>by rw[zbG]at h;cases h
 | k+1,a1,a2,a3,a4,a5,a6,a7,a8,r,h=>by
  rw[zbG]at h
  rcases fk h with ⟨h1,h⟩ | ⟨h1,h⟩
  ·rcases fk h with ⟨h2,h⟩ | ⟨h2,h⟩
   ·obtain⟨⟨a9,a10,a11,a12,a13,a14,a15,a16⟩,h3,h⟩:=sm h
    exact zD (path (zJ (zq zh.zk (l:=a7)) (zaJ h1 (zi h2 (zaq (zcM.ok ht n _ _ _ _ _ _ _ _ _ h3) ob)))) (by kernel_rfl)) (zbG.okL ht n k _ _ _ _ _ _ _ _ _ h)
   ·cases h
    exact zx (path (zJ (zq zh.zk (l:=a7)) (zaJ h1 (zi h2 ob))) (by kernel_rfl)) (fun h=>by cases h)
  ·cases h
   exact zx (path (zJ (zq zh.zk (l:=a7)) (zaJ h1 (zi (rfl:false=false) ob))) (by kernel_rfl)) (fun h=>by cases h)
theorem zcN.ok (ht:TabOk t call) (n:Nat) (a1 a2 a3 a4 a5:Int) (a6:ByteArray) (a7 a8:List zh) (r:_) (h:zcN t n a1 a2 a3 a4 a5 a6 a7 a8=some r):exec (env Tryd.prog 33 Tryd.f33 call) n (sub [1,1,1,0,1,0,0,1] (zt Tryd.f33)) (mkSt 60 60 [(1,(I6 a1)),(2,(.ptr 2 0 [] 0)),(5,(I6 a2)),(7,(I6 a3))] [(2,(.t (.st [(.v (.int .i64 a4)),(.v (.int .i64 a5)),(.v (.string a6)),(.sl false 5 (zh.ts a7)),(.sl false 5 (zh.ts a8))])))])=some (zcN.to r):=by
 rw[zcN]at h
 obtain⟨h1,h⟩:=ck h
 obtain⟨⟨a9,a10,a11,a12,a13⟩,h2,h⟩:=sm h
 obtain⟨a14,h3,h⟩:=sm h
 cases h
 exact path (zah h1 (zW (zu zh.zk h2) (zX (ht.zbx _ _ _ h3) ob))) (by kernel_rfl)
theorem zbH.okL (ht:TabOk t call) (n:Nat):∀(k:Nat) (a1 a2 a3 a4 a5:Int) (a6:ByteArray) (a7 a8:List zh) (r:_),zbH t n k a1 a2 a3 a4 a5 a6 a7 a8=some r→loopN (exec (env Tryd.prog 33 Tryd.f33 call) n (sub [1,1,1,0,1,0,0] (zt Tryd.f33))) k (mkSt 60 60 [(1,(I6 a1)),(2,(.ptr 2 0 [] 0)),(5,(I6 a2)),(7,(I6 a3))] [(2,(.t (.st [(.v (.int .i64 a4)),(.v (.int .i64 a5)),(.v (.string a6)),(.sl false 5 (zh.ts a7)),(.sl false 5 (zh.ts a8))])))])=some (zbH.to r)
 | 0,a1,a2,a3,a4,a5,a6,a7,a8,r,h=>by rw[zbH]at h;cases h
 | k+1,a1,a2,a3,a4,a5,a6,a7,a8,r,h=>by
  rw[zbH]at h
  rcases fk h with ⟨h1,h⟩ | ⟨h1,h⟩
  ·rcases fk h with ⟨h2,h⟩ | ⟨h2,h⟩
   ·obtain⟨⟨a9,a10,a11,a12,a13,a14,a15,a16⟩,h3,h⟩:=sm h
    exact zD (path (zJ (zq zh.zk (l:=a8)) (zaJ h1 (zi h2 (zaq (zcN.ok ht n _ _ _ _ _ _ _ _ _ h3) ob)))) (by kernel_rfl)) (zbH.okL ht n k _ _ _ _ _ _ _ _ _ h)
   ·cases h
    exact zx (path (zJ (zq zh.zk (l:=a8)) (zaJ h1 (zi h2 ob))) (by kernel_rfl)) (fun h=>by cases h)
  ·cases h
   exact zx (path (zJ (zq zh.zk (l:=a8)) (zaJ h1 (zi (rfl:false=false) ob))) (by kernel_rfl)) (fun h=>by cases h)
theorem zdy.ok (ht:TabOk t call) (n:Nat) (a1 a2 a3:Int) (a4:ByteArray) (a5 a6:List zh) (r:_) (h:zdy t n a1 a2 a3 a4 a5 a6=some r):exec (env Tryd.prog 33 Tryd.f33 call) n (sub [1,1,1,1] (zt Tryd.f33)) (mkSt 60 60 [(2,(.ptr 2 0 [] 0)),(5,(I6 a1))] [(2,(.t (.st [(.v (.int .i64 a2)),(.v (.int .i64 a3)),(.v (.string a4)),(.sl false 5 (zh.ts a5)),(.sl false 5 (zh.ts a6))])))])=some (zdy.to r):=by
 rw[zdy]at h
 obtain⟨a7,h1,h⟩:=sm h
 cases h
 exact path (zJ (zoE (P:=Tryd.prog) (t:=3) (x:=(.tmp 57)) (y:=(.const (.int .i64 20))) h1) ob) (by kernel_rfl)
theorem zdz.ok (ht:TabOk t call) (n:Nat) (a1 a2 a3 a4:Int) (a5:ByteArray) (a6 a7:List zh) (r:_) (h:zdz t n a1 a2 a3 a4 a5 a6 a7=some r):exec (env Tryd.prog 33 Tryd.f33 call) n (sub [1,1,1] (zt Tryd.f33)) (mkSt 60 60 [(1,(I6 a1)),(2,(.ptr 2 0 [] 0)),(5,(I6 a2))] [(2,(.t (.st [(.v (.int .i64 a3)),(.v (.int .i64 a4)),(.v (.string a5)),(.sl false 5 (zh.ts a6)),(.sl false 5 (zh.ts a7))])))])=some (zdz.to r):=by
 rw[zdz]at h
 obtain⟨⟨a8,a9,a10,a11,a12,a13,a14,a15,a16⟩,h1,h⟩:=sm h
 obtain⟨a17,rfl⟩:∃z_,z_=r:=⟨_,rfl⟩
 have h2:=h
 exact path (za5 (lk (sub [1,1,1,0,1,0] (zt Tryd.f33)) (by kernel_rfl) (zbH.okL ht n n _ _ _ _ _ _ _ _ _ h1)) (zaq (zdy.ok ht n _ _ _ _ _ _ _ h2) ob)) (by kernel_rfl)
theorem zbx.ok {n:Nat} {t:Tab} (ht:TabOk t (run Tryd.prog own kp X n)):∀(p1:zh) (p2:Int) r,zbx t n p1 p2=some r→run Tryd.prog own kp X (n+1) 33 [(.t (zh.t p1)),(I6 p2)] []=some ((I6 r),[]):=by
 intro p1 p2 r h
 obtain⟨a1,a2,a3,a4,a5⟩:=p1
 obtain⟨a6,rfl⟩:∃z_,z_=p2:=⟨_,rfl⟩
 rw[zbx]at h
 obtain⟨⟨a7,a8,a9,a10,a11,a12,a13,a14,a15⟩,h1,h⟩:=sm h
 obtain⟨a16,rfl⟩:∃z_,z_=r:=⟨_,rfl⟩
 have h2:=h
 exact zl Tryd.func33 (za5 (lk (sub [1,1,0,1,0] (zt Tryd.f33)) (by kernel_rfl) (zbG.okL ht n n _ _ _ _ _ _ _ _ _ h1)) (zaq (zdz.ok ht n _ _ _ _ _ _ _ _ h2) ob)) (by kernel_rfl)
theorem zcO.ok (ht:TabOk t call) (n:Nat) (a1 a2 a3 a4:Int) (a5:List zh) (a6:List GPred) (r:_) (h:zcO t n a1 a2 a3 a4 a5 a6=some r):exec (env Tryd.prog 34 Tryd.f34 call) n (sub [1,1,0,1,0,0,1] (zt Tryd.f34)) (mkSt 36 36 [(1,(I6 a1)),(2,(.ptr 2 0 [] 0)),(5,(I6 a2)),(6,(I6 a3))] [(2,(.t (.st [(.v (.int .i64 a4)),(.sl false 5 (zh.ts a5)),(.sl false 3 (GPred.ts a6))])))])=some (zcO.to r):=by
 rw[zcO]at h
 obtain⟨h1,h⟩:=ck h
 obtain⟨⟨a7,a8,a9⟩,h2,h⟩:=sm h
 obtain⟨a10,h3,h⟩:=sm h
 cases h
 exact path (zah h1 (zW (zu GPred.zk h2) (zX (ht.zcz _ _ _ h3) ob))) (by kernel_rfl)
theorem zbI.okL (ht:TabOk t call) (n:Nat):∀(k:Nat) (a1 a2 a3 a4:Int) (a5:List zh) (a6:List GPred) (r:_),zbI t n k a1 a2 a3 a4 a5 a6=some r→loopN (exec (env Tryd.prog 34 Tryd.f34 call) n (sub [1,1,0,1,0,0] (zt Tryd.f34))) k (mkSt 36 36 [(1,(I6 a1)),(2,(.ptr 2 0 [] 0)),(5,(I6 a2)),(6,(I6 a3))] [(2,(.t (.st [(.v (.int .i64 a4)),(.sl false 5 (zh.ts a5)),(.sl false 3 (GPred.ts a6))])))])=some (zbI.to r)
 | 0,a1,a2,a3,a4,a5,a6,r,h=>by rw[zbI]at h;cases h
 | k+1,a1,a2,a3,a4,a5,a6,r,h=>by
  rw[zbI]at h
  rcases fk h with ⟨h1,h⟩ | ⟨h1,h⟩
  ·rcases fk h with ⟨h2,h⟩ | ⟨h2,h⟩
   ·obtain⟨⟨a7,a8,a9,a10,a11,a12⟩,h3,h⟩:=sm h
    exact zD (path (zJ (zq GPred.zk (l:=a6)) (zaJ h1 (zi h2 (zaq (zcO.ok ht n _ _ _ _ _ _ _ h3) ob)))) (by kernel_rfl)) (zbI.okL ht n k _ _ _ _ _ _ _ h)
   ·cases h
    exact zx (path (zJ (zq GPred.zk (l:=a6)) (zaJ h1 (zi h2 ob))) (by kernel_rfl)) (fun h=>by cases h)
  ·cases h
   exact zx (path (zJ (zq GPred.zk (l:=a6)) (zaJ h1 (zi (rfl:false=false) ob))) (by kernel_rfl)) (fun h=>by cases h)
theorem zcz.ok {n:Nat} {t:Tab} (ht:TabOk t (run Tryd.prog own kp X n)):∀(p1:GPred) (p2:Int) r,zcz t n p1 p2=some r→run Tryd.prog own kp X (n+1) 34 [(.t (GPred.t p1)),(I6 p2)] []=some ((I6 r),[]):=by
 intro p1 p2 r h
 obtain⟨a1,a2,a3⟩:=p1
 obtain⟨a4,rfl⟩:∃z_,z_=p2:=⟨_,rfl⟩
 rw[zcz]at h
 obtain⟨a5,h1,h⟩:=sm h
 obtain⟨⟨a6,a7,a8,a9,a10,a11,a12⟩,h2,h⟩:=sm h
 cases h
 exact zl Tryd.func34 (zX (ht.zdm _ _ _ h1) (za5 (lk (sub [1,1,0,1,0] (zt Tryd.f34)) (by kernel_rfl) (zbI.okL ht n n _ _ _ _ _ _ _ h2)) ob)) (by kernel_rfl)
theorem zbq.ok (ht:TabOk t call) (n:Nat) (a1:List (List GStep)) (a2:Int) (a3:Bool) (a4:Int) (a5:List ByteArray) (a6:List Int) (a7 a8:Int) (a9:ByteArray) (a10 a11:List zh) (a12:Int) (a13:List zh) (a14:List GPred) (a15:List (List GStep)) (a16:List GBy) (a17:List ByteArray) (r:_) (h:zbq t n a1 a2 a3 a4 a5 a6 a7 a8 a9 a10 a11 a12 a13 a14 a15 a16 a17=some r):exec (env Tryd.prog 35 Tryd.f35 call) n (sub [1,1,1,0,1,0,0,1,0,0,1] (zt Tryd.f35)) (mkSt 43 43 [(1,(.ptr 1 0 [] 0)),(3,(.t (.sl true 1 (zo a1)))),(4,(I6 a2)),(32,(Bo a3))] [(1,(.t (.st [(.v (.int .i64 a4)),(.sl false 1 (texts a5)),(.sl false 1 (zz a6)),(.st [(.v (.int .i64 a7)),(.v (.int .i64 a8)),(.v (.string a9)),(.sl false 5 (zh.ts a10)),(.sl false 5 (zh.ts a11))]),(.st [(.v (.int .i64 a12)),(.sl false 5 (zh.ts a13)),(.sl false 3 (GPred.ts a14))]),(.sl false 1 (zo a15)),(.sl false 4 (GBy.ts a16)),(.sl false 1 (texts a17))])))])=some (zbq.to r):=by
 rw[zbq]at h
 rcases fk h with ⟨h1,h⟩ | ⟨h1,h⟩
 ·obtain⟨h2,h⟩:=ck h
  obtain⟨⟨a18,a19,a20,a21⟩,h3,h⟩:=sm h
  obtain⟨h4,h⟩:=cl h
  cases h
  exact path (zi h1 (zah h2 (zW (zu GBy.zk h3) (zeG (zdP zy h4) (zeY (zea zy (a:=a1) (b:=([a20]:List (List GStep)))) ob))))) (by kernel_rfl)
 ·cases h
  exact path (zi h1 ob) (by kernel_rfl)
theorem zbr.okL (ht:TabOk t call) (n:Nat):∀(k:Nat) (a1:List (List GStep)) (a2 a3:Int) (a4:List ByteArray) (a5:List Int) (a6 a7:Int) (a8:ByteArray) (a9 a10:List zh) (a11:Int) (a12:List zh) (a13:List GPred) (a14:List (List GStep)) (a15:List GBy) (a16:List ByteArray) (r:_),zbr t n k a1 a2 a3 a4 a5 a6 a7 a8 a9 a10 a11 a12 a13 a14 a15 a16=some r→loopN (exec (env Tryd.prog 35 Tryd.f35 call) n (sub [1,1,1,0,1,0,0] (zt Tryd.f35))) k (mkSt 43 43 [(1,(.ptr 1 0 [] 0)),(3,(.t (.sl true 1 (zo a1)))),(4,(I6 a2))] [(1,(.t (.st [(.v (.int .i64 a3)),(.sl false 1 (texts a4)),(.sl false 1 (zz a5)),(.st [(.v (.int .i64 a6)),(.v (.int .i64 a7)),(.v (.string a8)),(.sl false 5 (zh.ts a9)),(.sl false 5 (zh.ts a10))]),(.st [(.v (.int .i64 a11)),(.sl false 5 (zh.ts a12)),(.sl false 3 (GPred.ts a13))]),(.sl false 1 (zo a14)),(.sl false 4 (GBy.ts a15)),(.sl false 1 (texts a16))])))])=some (zbr.to r)
 | 0,a1,a2,a3,a4,a5,a6,a7,a8,a9,a10,a11,a12,a13,a14,a15,a16,r,h=>by rw[zbr]at h;cases h
 | k+1,a1,a2,a3,a4,a5,a6,a7,a8,a9,a10,a11,a12,a13,a14,a15,a16,r,h=>by
  rw[zbr]at h
  rcases fk h with ⟨h1,h⟩ | ⟨h1,h⟩
  ·obtain⟨h2,h⟩:=ck h
   obtain⟨⟨a17,a18,a19,a20⟩,h3,h⟩:=sm h
   rcases fk h with ⟨h4,h⟩ | ⟨h4,h⟩
   ·obtain⟨⟨a21,a22,a23,a24,a25,a26,a27,a28,a29,a30,a31,a32,a33,a34,a35,a36⟩,h5,h⟩:=sm h
    exact zD (path (zJ (zq GBy.zk (l:=a15)) (zi h1 (zah h2 (zW (zu GBy.zk h3) (zaB h4 9 (zaq (zbq.ok ht n _ _ _ _ _ _ _ _ _ _ _ _ _ _ _ _ _ _ h5) ob)))))) (by kernel_rfl)) (zbr.okL ht n k _ _ _ _ _ _ _ _ _ _ _ _ _ _ _ _ _ h)
   ·obtain⟨⟨a37,a38,a39,a40,a41,a42,a43,a44,a45,a46,a47,a48,a49,a50,a51,a52⟩,h6,h⟩:=sm h
    exact zD (path (zJ (zq GBy.zk (l:=a15)) (zi h1 (zah h2 (zW (zu GBy.zk h3) (zaJ h4 (zah h2 (zW (zu GBy.zk h3) (zT h4 (zJ (zq GStep.zk (l:=a19)) (zaS h4 (zaq (zbq.ok ht n _ _ _ _ _ _ _ _ _ _ _ _ _ _ _ _ _ _ h6) ob))))))))))) (by kernel_rfl)) (zbr.okL ht n k _ _ _ _ _ _ _ _ _ _ _ _ _ _ _ _ _ h)
  ·cases h
   exact zx (path (zJ (zq GBy.zk (l:=a15)) (zi h1 ob)) (by kernel_rfl)) (fun h=>by cases h)
theorem zcj.ok {n:Nat} {t:Tab} (ht:TabOk t (run Tryd.prog own kp X n)):∀(p1:GStep) r,zcj t n p1=some r→run Tryd.prog own kp X (n+1) 35 [(.t (GStep.t p1))] []=some ((Sl 1 (zo r)),[]):=by
 intro p1 r h
 obtain⟨a1,a2,a3,⟨a4,a5,a6,a7,a8⟩,⟨a9,a10,a11⟩,a12,a13,a14⟩:=p1
 rw[zcj]at h
 obtain⟨h1,h⟩:=cl h
 obtain⟨⟨a15,a16,a17,a18,a19,a20,a21,a22,a23,a24,a25,a26,a27,a28,a29,a30,a31⟩,h2,h⟩:=sm h
 cases h
 exact zl Tryd.func35 (zeG (zdP zy h1) (zeY (zea zy (a:=([]:List (List GStep))) (b:=a12)) (za5 (lk (sub [1,1,1,0,1,0] (zt Tryd.f35)) (by kernel_rfl) (zbr.okL ht n n _ _ _ _ _ _ _ _ _ _ _ _ _ _ _ _ _ h2)) ob))) (by kernel_rfl)
theorem za1.okL (ht:TabOk t call) (n:Nat):∀(k:Nat) (a1:List GStep) (a2:List GCode) (a3 a4:Int) (a5:List Int) (a6 a7:Int) (u8:GCode) (a22:Int) (a23:List ByteArray) (a24:List Int) (u12:zh) (u13:GPred) (a33:List (List GStep)) (a34:List GBy) (a35:List ByteArray) (u17:zC) (r:_),za1 t n k a1 a2 a3 a4 a5 a6 a7 u8 a22 a23 a24 u12 u13 a33 a34 a35 u17=some r→loopN (exec (env Tryd.prog 32 Tryd.f32 call) n (sub [1,1,1,1,0,1,0,0,1,1,0,0,1,1,0,1,0,0] (zt Tryd.f32))) k (mkSt 132 133 [(0,(.ptr 132 0 [] 0)),(6,(.t (.sl true 14 (GStep.ts a1)))),(8,(.ptr 8 0 [] 0)),(9,(.ptr 9 0 [] 0)),(47,(Sl 14 (GCode.ts a2))),(48,(I6 a3)),(49,(I6 a4)),(67,(Sl 1 (zz a5))),(68,(I6 a6)),(69,(I6 a7))] [(8,(.t (GCode.t u8))),(9,(.t (.st [(.v (.int .i64 a22)),(.sl false 1 (texts a23)),(.sl false 1 (zz a24)),(zh.t u12),(GPred.t u13),(.sl true 1 (zo a33)),(.sl true 4 (GBy.ts a34)),(.sl false 1 (texts a35))]))),(132,(.t (zC.t u17)))])=some (za1.to r)
 | 0,a1,a2,a3,a4,a5,a6,a7,u8,a22,a23,a24,u12,u13,a33,a34,a35,u17,r,h=>by rw[za1]at h;cases h
 | k+1,a1,a2,a3,a4,a5,a6,a7,⟨a8,a9,a10,⟨a11,a12,a13,a14,a15⟩,⟨a16,a17,a18⟩,a19,a20,a21⟩,a22,a23,a24,⟨a25,a26,a27,a28,a29⟩,⟨a30,a31,a32⟩,a33,a34,a35,⟨a36,a37⟩,r,h=>by
  rw[za1]at h
  rcases fk h with ⟨h1,h⟩ | ⟨h1,h⟩
  ·obtain⟨h2,h⟩:=ck h
   obtain⟨a38,h3,h⟩:=sm h
   obtain⟨⟨a39,a40,⟨a41,a42⟩⟩,h4,h⟩:=sm h
   rcases fk h with ⟨h5,h⟩ | ⟨h5,h⟩
   ·obtain⟨h6,h⟩:=cl h
    exact zD (path (zi h1 (zah h2 (zW (zu zw h3) (zX (ht.zaK _ _ _ h4) (zi (ng h5) (zeG (zdP zy h6) (zeY (zea zy (a:=a33) (b:=([a39]:List (List GStep)))) ob))))))) (by kernel_rfl)) (za1.okL ht n k _ _ _ _ _ _ _ _ _ _ _ _ _ _ _ _ _ _ h)
   ·cases h
    exact zx (path (zi h1 (zah h2 (zW (zu zw h3) (zX (ht.zaK _ _ _ h4) (zi (ng h5) ob))))) (by kernel_rfl)) (fun h=>by cases h)
  ·cases h
   exact zx (path (zi h1 ob) (by kernel_rfl)) (fun h=>by cases h)
theorem za2.ok (ht:TabOk t call) (n:Nat) (a1:List GStep) (a2:List GCode) (a3 a4:Int) (a5:List GKey) (a6 a7 a8:Int) (a9:List ByteArray) (a10:List Int) (u11:zh) (u12:GPred) (a19:List (List GStep)) (a20:List GBy) (a21:List ByteArray) (u16:GBy) (u17:zC) (r:_) (h:za2 t n a1 a2 a3 a4 a5 a6 a7 a8 a9 a10 u11 u12 a19 a20 a21 u16 u17=some r):exec (env Tryd.prog 32 Tryd.f32 call) n (sub [1,1,1,1,0,1,0,0,1,1,0,0,1,1,1,0,1,0,0,1,1,0,0,1,1,1] (zt Tryd.f32)) (mkSt 132 133 [(0,(.ptr 132 0 [] 0)),(6,(.t (.sl true 14 (GStep.ts a1)))),(9,(.ptr 9 0 [] 0)),(16,(.ptr 16 0 [] 0)),(47,(Sl 14 (GCode.ts a2))),(48,(I6 a3)),(49,(I6 a4)),(89,(Sl 4 (GKey.ts a5))),(90,(I6 a6)),(91,(I6 a7))] [(9,(.t (.st [(.v (.int .i64 a8)),(.sl false 1 (texts a9)),(.sl false 1 (zz a10)),(zh.t u11),(GPred.t u12),(.sl true 1 (zo a19)),(.sl true 4 (GBy.ts a20)),(.sl false 1 (texts a21))]))),(16,(.t (GBy.t u16))),(132,(.t (zC.t u17)))])=some (za2.to r):=by
 obtain⟨a11,a12,a13,a14,a15⟩:=u11
 obtain⟨a16,a17,a18⟩:=u12
 obtain⟨a22,a23,a24,a25⟩:=u16
 obtain⟨a26,a27⟩:=u17
 rw[za2]at h
 obtain⟨h1,h⟩:=cl h
 cases h
 exact path (zeG (zdP GBy.zk h1) (zeY (zea GBy.zk (a:=a20) (b:=([(GBy.mk a22 a23 a24 a25)]:List GBy))) ob)) (by kernel_rfl)
theorem zaQ.okL (ht:TabOk t call) (n:Nat):∀(k:Nat) (a1:List GStep) (a2:List GCode) (a3 a4:Int) (a5:List GKey) (a6 a7 a8:Int) (a9:List ByteArray) (a10:List Int) (u11:zh) (u12:GPred) (a19:List (List GStep)) (a20:List GBy) (a21:List ByteArray) (u16:zC) (r:_),zaQ t n k a1 a2 a3 a4 a5 a6 a7 a8 a9 a10 u11 u12 a19 a20 a21 u16=some r→loopN (exec (env Tryd.prog 32 Tryd.f32 call) n (sub [1,1,1,1,0,1,0,0,1,1,0,0,1,1,1,0,1,0,0] (zt Tryd.f32))) k (mkSt 132 133 [(0,(.ptr 132 0 [] 0)),(6,(.t (.sl true 14 (GStep.ts a1)))),(9,(.ptr 9 0 [] 0)),(47,(Sl 14 (GCode.ts a2))),(48,(I6 a3)),(49,(I6 a4)),(89,(Sl 4 (GKey.ts a5))),(90,(I6 a6)),(91,(I6 a7))] [(9,(.t (.st [(.v (.int .i64 a8)),(.sl false 1 (texts a9)),(.sl false 1 (zz a10)),(zh.t u11),(GPred.t u12),(.sl true 1 (zo a19)),(.sl true 4 (GBy.ts a20)),(.sl false 1 (texts a21))]))),(132,(.t (zC.t u16)))])=some (zaQ.to r)
 | 0,a1,a2,a3,a4,a5,a6,a7,a8,a9,a10,u11,u12,a19,a20,a21,u16,r,h=>by rw[zaQ]at h;cases h
 | k+1,a1,a2,a3,a4,a5,a6,a7,a8,a9,a10,⟨a11,a12,a13,a14,a15⟩,⟨a16,a17,a18⟩,a19,a20,a21,⟨a22,a23⟩,r,h=>by
  rw[zaQ]at h
  rcases fk h with ⟨h1,h⟩ | ⟨h1,h⟩
  ·obtain⟨h2,h⟩:=ck h
   obtain⟨⟨a24,a25,a26,a27⟩,h3,h⟩:=sm h
   rcases fk h with ⟨h4,h⟩ | ⟨h4,h⟩
   ·obtain⟨⟨a28,a29,⟨a30,a31⟩⟩,h5,h⟩:=sm h
    rcases fk h with ⟨h6,h⟩ | ⟨h6,h⟩
    ·obtain⟨⟨a32,a33,a34,a35,a36,a37,a38,a39,a40,a41,⟨a42,a43,a44,a45,a46⟩,⟨a47,a48,a49⟩,a50,a51,a52,⟨a53,a54⟩⟩,h7,h⟩:=sm h
     exact zD (path (zi h1 (zah h2 (zW (zu GKey.zk h3) (zi h4 (zX (ht.zaK _ _ _ h5) (zi (ng h6) (zaq (za2.ok ht n _ _ _ _ _ _ _ _ _ _ _ _ _ _ _ _ _ _ h7) ob))))))) (by kernel_rfl)) (zaQ.okL ht n k _ _ _ _ _ _ _ _ _ _ _ _ _ _ _ _ _ h)
    ·cases h
     exact zx (path (zi h1 (zah h2 (zW (zu GKey.zk h3) (zi h4 (zX (ht.zaK _ _ _ h5) (zi (ng h6) ob)))))) (by kernel_rfl)) (fun h=>by cases h)
   ·rcases fk h with ⟨h8,h⟩ | ⟨h8,h⟩
    ·cases h
     exact zx (path (zi h1 (zah h2 (zW (zu GKey.zk h3) (zi h4 (zi h8 ob))))) (by kernel_rfl)) (fun h=>by cases h)
    ·obtain⟨⟨a55,a56,a57,a58,a59,a60,a61,a62,a63,a64,⟨a65,a66,a67,a68,a69⟩,⟨a70,a71,a72⟩,a73,a74,a75,⟨a76,a77⟩⟩,h9,h⟩:=sm h
     exact zD (path (zi h1 (zah h2 (zW (zu GKey.zk h3) (zi h4 (zi h8 (zaq (za2.ok ht n _ _ _ _ _ _ _ _ _ _ _ _ _ _ _ _ _ _ h9) ob)))))) (by kernel_rfl)) (zaQ.okL ht n k _ _ _ _ _ _ _ _ _ _ _ _ _ _ _ _ _ h)
  ·cases h
   exact zx (path (zi h1 ob) (by kernel_rfl)) (fun h=>by cases h)
theorem zby.ok (ht:TabOk t call) (n:Nat) (a1:List GStep) (a2:List GCode) (a3 a4 a5:Int) (a6:List ByteArray) (a7:List Int) (u8:zh) (u9:GPred) (a16:List (List GStep)) (a17:List GBy) (a18:List ByteArray) (u13:zC) (r:_) (h:zby t n a1 a2 a3 a4 a5 a6 a7 u8 u9 a16 a17 a18 u13=some r):exec (env Tryd.prog 32 Tryd.f32 call) n (sub [1,1,1,1,0,1,0,0,1,1,0,0,1,1,1,1] (zt Tryd.f32)) (mkSt 132 133 [(0,(.ptr 132 0 [] 0)),(6,(.t (.sl true 14 (GStep.ts a1)))),(9,(.ptr 9 0 [] 0)),(47,(Sl 14 (GCode.ts a2))),(48,(I6 a3)),(49,(I6 a4))] [(9,(.t (.st [(.v (.int .i64 a5)),(.sl false 1 (texts a6)),(.sl false 1 (zz a7)),(zh.t u8),(GPred.t u9),(.sl true 1 (zo a16)),(.sl true 4 (GBy.ts a17)),(.sl false 1 (texts a18))]))),(132,(.t (zC.t u13)))])=some (zby.to r):=by
 obtain⟨a8,a9,a10,a11,a12⟩:=u8
 obtain⟨a13,a14,a15⟩:=u9
 obtain⟨a19,a20⟩:=u13
 rw[zby]at h
 obtain⟨h1,h⟩:=cl h
 cases h
 exact path (zeG (zdP GStep.zk h1) (zeY (zea GStep.zk (a:=a1) (b:=([(GStep.mk a5 a6 a7 (zh.mk a8 a9 a10 a11 a12) (GPred.mk a13 a14 a15) a16 a17 a18)]:List GStep))) ob)) (by kernel_rfl)
theorem zbf.ok (ht:TabOk t call) (n:Nat) (a1:List GStep) (a2:List GCode) (a3 a4:Int) (u5:GCode) (a19:Int) (a20:List ByteArray) (a21:List Int) (u9:zh) (u10:GPred) (a30:List (List GStep)) (a31:List GBy) (a32:List ByteArray) (u14:zC) (r:_) (h:zbf t n a1 a2 a3 a4 u5 a19 a20 a21 u9 u10 a30 a31 a32 u14=some r):exec (env Tryd.prog 32 Tryd.f32 call) n (sub [1,1,1,1,0,1,0,0,1,1,0,0,1,1,1] (zt Tryd.f32)) (mkSt 132 133 [(0,(.ptr 132 0 [] 0)),(6,(.t (.sl true 14 (GStep.ts a1)))),(8,(.ptr 8 0 [] 0)),(9,(.ptr 9 0 [] 0)),(47,(Sl 14 (GCode.ts a2))),(48,(I6 a3)),(49,(I6 a4))] [(8,(.t (GCode.t u5))),(9,(.t (.st [(.v (.int .i64 a19)),(.sl false 1 (texts a20)),(.sl false 1 (zz a21)),(zh.t u9),(GPred.t u10),(.sl true 1 (zo a30)),(.sl true 4 (GBy.ts a31)),(.sl false 1 (texts a32))]))),(132,(.t (zC.t u14)))])=some (zbf.to r):=by
 obtain⟨a5,a6,a7,⟨a8,a9,a10,a11,a12⟩,⟨a13,a14,a15⟩,a16,a17,a18⟩:=u5
 obtain⟨a22,a23,a24,a25,a26⟩:=u9
 obtain⟨a27,a28,a29⟩:=u10
 obtain⟨a33,a34⟩:=u14
 rw[zbf]at h
 obtain⟨⟨a35,a36,⟨a37,a38⟩⟩ | ⟨a39,a40,a41,a42,a43,a44,a45,a46,a47,a48,a49,⟨a50,a51,a52,a53,a54⟩,⟨a55,a56,a57⟩,a58,a59,a60,⟨a61,a62⟩⟩,h1,h⟩:=sm h
 ·cases h
  exact path (zJ (zq GKey.zk (l:=a17)) (za5 (lk (sub [1,1,1,1,0,1,0,0,1,1,0,0,1,1,1,0,1,0] (zt Tryd.f32)) (by kernel_rfl) (zaQ.okL ht n n _ _ _ _ _ _ _ _ _ _ _ _ _ _ _ _ _ h1)) ob)) (by kernel_rfl)
 ·obtain⟨⟨a63,a64,a65,a66,⟨a67,a68⟩⟩,h2,h⟩:=sm h
  cases h
  exact path (zJ (zq GKey.zk (l:=a17)) (za5 (lk (sub [1,1,1,1,0,1,0,0,1,1,0,0,1,1,1,0,1,0] (zt Tryd.f32)) (by kernel_rfl) (zaQ.okL ht n n _ _ _ _ _ _ _ _ _ _ _ _ _ _ _ _ _ h1)) (zaq (zby.ok ht n _ _ _ _ _ _ _ _ _ _ _ _ _ _ h2) ob))) (by kernel_rfl)
theorem zbg.okL (ht:TabOk t call) (n:Nat):∀(k:Nat) (a1:List GStep) (a2:List GCode) (a3 a4:Int) (u5:zC) (r:_),zbg t n k a1 a2 a3 a4 u5=some r→loopN (exec (env Tryd.prog 32 Tryd.f32 call) n (sub [1,1,1,1,0,1,0,0] (zt Tryd.f32))) k (mkSt 132 133 [(0,(.ptr 132 0 [] 0)),(6,(.t (.sl true 14 (GStep.ts a1)))),(47,(Sl 14 (GCode.ts a2))),(48,(I6 a3)),(49,(I6 a4))] [(132,(.t (zC.t u5)))])=some (zbg.to r)
 | 0,a1,a2,a3,a4,u5,r,h=>by rw[zbg]at h;cases h
 | k+1,a1,a2,a3,a4,⟨a5,a6⟩,r,h=>by
  rw[zbg]at h
  rcases fk h with ⟨h1,h⟩ | ⟨h1,h⟩
  ·obtain⟨h2,h⟩:=ck h
   obtain⟨⟨a7,a8,a9,⟨a10,a11,a12,a13,a14⟩,⟨a15,a16,a17⟩,a18,a19,a20⟩,h3,h⟩:=sm h
   have o4 {os} (x:Obls (env Tryd.prog 32 Tryd.f32 call) n os):=zi h1 (zah h2 (zW (zu GCode.zk h3) (zJ (zq zw (l:=a18)) x)))
   obtain⟨⟨a21,a22,⟨a23,a24⟩⟩ | ⟨a25,a26,a27,a28,a29,a30,a31,a32,⟨a33,a34,a35,⟨a36,a37,a38,a39,a40⟩,⟨a41,a42,a43⟩,a44,a45,a46⟩,a47,a48,a49,⟨a50,a51,a52,a53,a54⟩,⟨a55,a56,a57⟩,a58,a59,a60,⟨a61,a62⟩⟩,h4,h⟩:=sm h
   ·cases h
    exact zx (path (o4 (za5 (lk (sub [1,1,1,1,0,1,0,0,1,1,0,0,1,1,0,1,0] (zt Tryd.f32)) (by kernel_rfl) (za1.okL ht n n _ _ _ _ _ _ _ _ _ _ _ _ _ _ _ _ _ _ h4)) ob)) (by kernel_rfl)) (fun h=>by cases h)
   ·obtain⟨⟨a63,a64,⟨a65,a66⟩⟩ | ⟨a67,a68,a69,a70,⟨a71,a72⟩⟩,h5,h⟩:=sm h
    ·cases h
     exact zx (path (o4 (za5 (lk (sub [1,1,1,1,0,1,0,0,1,1,0,0,1,1,0,1,0] (zt Tryd.f32)) (by kernel_rfl) (za1.okL ht n n _ _ _ _ _ _ _ _ _ _ _ _ _ _ _ _ _ _ h4)) (zaq (zbf.ok ht n _ _ _ _ _ _ _ _ _ _ _ _ _ _ _ h5) ob))) (by kernel_rfl)) (fun h=>by cases h)
    ·exact zD (path (o4 (za5 (lk (sub [1,1,1,1,0,1,0,0,1,1,0,0,1,1,0,1,0] (zt Tryd.f32)) (by kernel_rfl) (za1.okL ht n n _ _ _ _ _ _ _ _ _ _ _ _ _ _ _ _ _ _ h4)) (zaq (zbf.ok ht n _ _ _ _ _ _ _ _ _ _ _ _ _ _ _ h5) ob))) (by kernel_rfl)) (zbg.okL ht n k _ _ _ _ _ _ h)
  ·cases h
   exact zx (path (zi h1 ob) (by kernel_rfl)) (fun h=>by cases h)
theorem zbz.ok (ht:TabOk t call) (n:Nat) (a1:Int) (u2:zC) (r:_) (h:zbz t n a1 u2=some r):exec (env Tryd.prog 32 Tryd.f32 call) n (sub [1,1] (zt Tryd.f32)) (mkSt 132 133 [(0,(.ptr 132 0 [] 0)),(1,(I6 a1))] [(132,(.t (zC.t u2)))])=some (zbz.to r):=by
 obtain⟨a2,a3⟩:=u2
 rw[zbz]at h
 obtain⟨h1,h⟩:=ck h
 obtain⟨a4,h2,h⟩:=sm h
 obtain⟨⟨a5,a6,⟨a7,a8⟩⟩ | ⟨a9,a10,a11,a12,a13,⟨a14,a15⟩⟩,h3,h⟩:=sm h
 ·cases h
  exact path (zah h1 (zW (zu zI h2) (zJ (zq GCode.zk (l:=a4)) (za5 (lk (sub [1,1,1,1,0,1,0] (zt Tryd.f32)) (by kernel_rfl) (zbg.okL ht n n _ _ _ _ _ _ h3)) ob)))) (by kernel_rfl)
 ·cases h
  exact path (zah h1 (zW (zu zI h2) (zJ (zq GCode.zk (l:=a4)) (za5 (lk (sub [1,1,1,1,0,1,0] (zt Tryd.f32)) (by kernel_rfl) (zbg.okL ht n n _ _ _ _ _ _ h3)) ob)))) (by kernel_rfl)
theorem zaK.ok {n:Nat} {t:Tab} (ht:TabOk t (run Tryd.prog own kp X n)):∀(p1:Int) (p2:zC) r,zaK t n p1 p2=some r→run Tryd.prog own kp X (n+1) 32 [(.ptr 0 0 [] 0),(I6 p1)] [(.t (zC.t p2))]=some ((.tup [(.sl false 14 (GStep.ts r.1)),(.v (.bool r.2.1))]),[(.t (zC.t r.2.2))]):=by
 intro p1 p2 r h
 obtain⟨a1,rfl⟩:∃z_,z_=p1:=⟨_,rfl⟩
 obtain⟨a2,a3⟩:=p2
 rw[zaK]at h
 rcases fk h with ⟨h1,h⟩ | ⟨h1,h⟩
 ·cases h
  exact zl Tryd.func32 (zaB h1 8 (zdF 1 ob)) (by kernel_rfl)
 ·rcases fk h with ⟨h2,h⟩ | ⟨h2,h⟩
  ·cases h
   exact zl Tryd.func32 (zaB h1 6 (zJ (zq zI (l:=a2)) (zaS h1 (zi h2 ob)))) (by kernel_rfl)
  ·obtain⟨⟨a4,a5,⟨a6,a7⟩⟩,h3,h⟩:=sm h
   cases h
   exact zl Tryd.func32 (zaB h1 6 (zJ (zq zI (l:=a2)) (zaS h1 (zi h2 (zaq (zbz.ok ht n _ _ _ h3) ob))))) (by kernel_rfl)
theorem zbs.okL (ht:TabOk t call) (n:Nat):∀(k:Nat) (a1 a2:List ByteArray) (a3:Int) (r:_),zbs t n k a1 a2 a3=some r→loopN (exec (env Tryd.prog 29 Tryd.f29 call) n (sub [1,1,0,1,0,0] (zt Tryd.f29))) k (mkSt 26 26 [(0,(Sl 1 (texts a1))),(1,(Sl 1 (texts a2))),(5,(I6 a3))] [])=some (zbs.to r)
 | 0,a1,a2,a3,r,h=>by rw[zbs]at h;cases h
 | k+1,a1,a2,a3,r,h=>by
  rw[zbs]at h
  rcases fk h with ⟨h1,h⟩ | ⟨h1,h⟩
  ·obtain⟨h2,h⟩:=ck h
   obtain⟨a4,h3,h⟩:=sm h
   obtain⟨a5,h4,h⟩:=sm h
   rcases fk h with ⟨h5,h⟩ | ⟨h5,h⟩
   ·exact zD (path (zJ (zq zV (l:=a1)) (zi h1 (zah h2 (zW (zu zV h3) (zah h2 (zW (zu zV h4) (zi (ng h5) ob))))))) (by kernel_rfl)) (zbs.okL ht n k _ _ _ _ h)
   ·cases h
    exact zx (path (zJ (zq zV (l:=a1)) (zi h1 (zah h2 (zW (zu zV h3) (zah h2 (zW (zu zV h4) (zi (ng h5) ob))))))) (by kernel_rfl)) (fun h=>by cases h)
  ·cases h
   exact zx (path (zJ (zq zV (l:=a1)) (zi h1 ob)) (by kernel_rfl)) (fun h=>by cases h)
theorem zb2.ok {n:Nat} {t:Tab} (ht:TabOk t (run Tryd.prog own kp X n)):∀(p1:List ByteArray) (p2:List ByteArray) r,zb2 t n p1 p2=some r→run Tryd.prog own kp X (n+1) 29 [(Sl 1 (texts p1)),(Sl 1 (texts p2))] []=some ((Bo r),[]):=by
 intro p1 p2 r h
 obtain⟨a1,rfl⟩:∃z_,z_=p1:=⟨_,rfl⟩
 obtain⟨a2,rfl⟩:∃z_,z_=p2:=⟨_,rfl⟩
 rw[zb2]at h
 rcases fk h with ⟨h1,h⟩ | ⟨h1,h⟩
 ·cases h
  exact zl Tryd.func29 (zJ (zq zV (l:=a1)) (zJ (zq zV (l:=a2)) (zi h1 ob))) (by kernel_rfl)
 ·obtain⟨a3 | ⟨a4,a5,a6,a7⟩,h2,h⟩:=sm h
  ·cases h
   exact zl Tryd.func29 (zJ (zq zV (l:=a1)) (zJ (zq zV (l:=a2)) (zi h1 (za5 (lk (sub [1,1,0,1,0] (zt Tryd.f29)) (by kernel_rfl) (zbs.okL ht n n _ _ _ _ h2)) ob)))) (by kernel_rfl)
  ·cases h
   exact zl Tryd.func29 (zJ (zq zV (l:=a1)) (zJ (zq zV (l:=a2)) (zi h1 (za5 (lk (sub [1,1,0,1,0] (zt Tryd.f29)) (by kernel_rfl) (zbs.okL ht n n _ _ _ _ h2)) ob)))) (by kernel_rfl)
theorem za6.okL (ht:TabOk t call) (n:Nat):∀(k:Nat) (a1 a2:List Int) (a3:Int) (r:_),za6 t n k a1 a2 a3=some r→loopN (exec (env Tryd.prog 30 Tryd.f30 call) n (sub [1,1,0,1,0,0] (zt Tryd.f30))) k (mkSt 26 26 [(0,(Sl 1 (zz a1))),(1,(Sl 1 (zz a2))),(5,(I6 a3))] [])=some (za6.to r)
 | 0,a1,a2,a3,r,h=>by rw[za6]at h;cases h
 | k+1,a1,a2,a3,r,h=>by
  rw[za6]at h
  rcases fk h with ⟨h1,h⟩ | ⟨h1,h⟩
  ·obtain⟨h2,h⟩:=ck h
   obtain⟨a4,h3,h⟩:=sm h
   obtain⟨a5,h4,h⟩:=sm h
   rcases fk h with ⟨h5,h⟩ | ⟨h5,h⟩
   ·cases h
    exact zx (path (zJ (zq zw (l:=a1)) (zi h1 (zah h2 (zW (zu zw h3) (zah h2 (zW (zu zw h4) (zi h5 ob))))))) (by kernel_rfl)) (fun h=>by cases h)
   ·exact zD (path (zJ (zq zw (l:=a1)) (zi h1 (zah h2 (zW (zu zw h3) (zah h2 (zW (zu zw h4) (zi h5 ob))))))) (by kernel_rfl)) (za6.okL ht n k _ _ _ _ h)
  ·cases h
   exact zx (path (zJ (zq zw (l:=a1)) (zi h1 ob)) (by kernel_rfl)) (fun h=>by cases h)
theorem zcd.ok {n:Nat} {t:Tab} (ht:TabOk t (run Tryd.prog own kp X n)):∀(p1:List Int) (p2:List Int) r,zcd t n p1 p2=some r→run Tryd.prog own kp X (n+1) 30 [(Sl 1 (zz p1)),(Sl 1 (zz p2))] []=some ((Bo r),[]):=by
 intro p1 p2 r h
 obtain⟨a1,rfl⟩:∃z_,z_=p1:=⟨_,rfl⟩
 obtain⟨a2,rfl⟩:∃z_,z_=p2:=⟨_,rfl⟩
 rw[zcd]at h
 rcases fk h with ⟨h1,h⟩ | ⟨h1,h⟩
 ·cases h
  exact zl Tryd.func30 (zJ (zq zw (l:=a1)) (zJ (zq zw (l:=a2)) (zi h1 ob))) (by kernel_rfl)
 ·obtain⟨a3 | ⟨a4,a5,a6,a7⟩,h2,h⟩:=sm h
  ·cases h
   exact zl Tryd.func30 (zJ (zq zw (l:=a1)) (zJ (zq zw (l:=a2)) (zi h1 (za5 (lk (sub [1,1,0,1,0] (zt Tryd.f30)) (by kernel_rfl) (za6.okL ht n n _ _ _ _ h2)) ob)))) (by kernel_rfl)
  ·cases h
   exact zl Tryd.func30 (zJ (zq zw (l:=a1)) (zJ (zq zw (l:=a2)) (zi h1 (za5 (lk (sub [1,1,0,1,0] (zt Tryd.f30)) (by kernel_rfl) (za6.okL ht n n _ _ _ _ h2)) ob)))) (by kernel_rfl)
theorem zdC.ok {n:Nat} {t:Tab} (ht:TabOk t (run Tryd.prog own kp X n)):∀(p1:zh) (p2:zh) r,zdC t n p1 p2=some r→run Tryd.prog own kp X (n+1) 27 [(.t (zh.t p1)),(.t (zh.t p2))] []=some ((Bo r),[]):=by
 intro p1 p2 r h
 obtain⟨a1,a2,a3,a4,a5⟩:=p1
 obtain⟨a6,a7,a8,a9,a10⟩:=p2
 rw[zdC]at h
 obtain⟨a11,h1,h⟩:=sm h
 cases h
 exact zl Tryd.func27 (zX (ht.zct _ _ _ _ h1) ob) (by kernel_rfl)
theorem zc9.okL (ht:TabOk t call) (n:Nat):∀(k:Nat) (a1 a2:Int) (a3:List zh) (a4:List GPred) (a5:Int) (a6:List zh) (a7:List GPred) (r:_),zc9 t n k a1 a2 a3 a4 a5 a6 a7=some r→loopN (exec (env Tryd.prog 28 Tryd.f28 call) n (sub [1,1,0,1,0,0] (zt Tryd.f28))) k (mkSt 47 47 [(2,(.ptr 2 0 [] 0)),(3,(.ptr 3 0 [] 0)),(5,(I6 a1))] [(2,(.t (.st [(.v (.int .i64 a2)),(.sl false 5 (zh.ts a3)),(.sl false 3 (GPred.ts a4))]))),(3,(.t (.st [(.v (.int .i64 a5)),(.sl false 5 (zh.ts a6)),(.sl false 3 (GPred.ts a7))])))])=some (zc9.to r)
 | 0,a1,a2,a3,a4,a5,a6,a7,r,h=>by rw[zc9]at h;cases h
 | k+1,a1,a2,a3,a4,a5,a6,a7,r,h=>by
  rw[zc9]at h
  rcases fk h with ⟨h1,h⟩ | ⟨h1,h⟩
  ·obtain⟨h2,h⟩:=ck h
   obtain⟨⟨a8,a9,a10⟩,h3,h⟩:=sm h
   obtain⟨⟨a11,a12,a13⟩,h4,h⟩:=sm h
   obtain⟨a14,h5,h⟩:=sm h
   have o7 {os} (x:Obls (env Tryd.prog 28 Tryd.f28 call) n os):=zJ (zq GPred.zk (l:=a4)) (zi h1 (zah h2 (zW (zu GPred.zk h3) (zah h2 (zW (zu GPred.zk h4) (zX (ht.zdD _ _ _ h5) x))))))
   rcases fk h with ⟨h6,h⟩ | ⟨h6,h⟩
   ·exact zD (path (o7 (zi (ng h6) ob)) (by kernel_rfl)) (zc9.okL ht n k _ _ _ _ _ _ _ _ h)
   ·cases h
    exact zx (path (o7 (zi (ng h6) ob)) (by kernel_rfl)) (fun h=>by cases h)
  ·cases h
   exact zx (path (zJ (zq GPred.zk (l:=a4)) (zi h1 ob)) (by kernel_rfl)) (fun h=>by cases h)
theorem zd0.ok (ht:TabOk t call) (n:Nat) (a1:Int) (a2:List zh) (a3:List GPred) (a4:Int) (a5:List zh) (a6:List GPred) (r:_) (h:zd0 t n a1 a2 a3 a4 a5 a6=some r):exec (env Tryd.prog 28 Tryd.f28 call) n (sub [1,1] (zt Tryd.f28)) (mkSt 47 47 [(2,(.ptr 2 0 [] 0)),(3,(.ptr 3 0 [] 0))] [(2,(.t (.st [(.v (.int .i64 a1)),(.sl false 5 (zh.ts a2)),(.sl false 3 (GPred.ts a3))]))),(3,(.t (.st [(.v (.int .i64 a4)),(.sl false 5 (zh.ts a5)),(.sl false 3 (GPred.ts a6))])))])=some (zd0.to r):=by
 rw[zd0]at h
 obtain⟨a7 | ⟨a8,a9,a10,a11,a12,a13,a14,a15⟩,h1,h⟩:=sm h
 ·cases h
  exact path (za5 (lk (sub [1,1,0,1,0] (zt Tryd.f28)) (by kernel_rfl) (zc9.okL ht n n _ _ _ _ _ _ _ _ h1)) ob) (by kernel_rfl)
 ·cases h
  exact path (za5 (lk (sub [1,1,0,1,0] (zt Tryd.f28)) (by kernel_rfl) (zc9.okL ht n n _ _ _ _ _ _ _ _ h1)) ob) (by kernel_rfl)
end Go.Proofs.YtgmidllbkjdnnaaDoor.W
