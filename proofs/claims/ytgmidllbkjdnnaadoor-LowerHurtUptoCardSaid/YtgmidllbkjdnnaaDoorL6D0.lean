/- The proofs of it, part 0. -/
import Derived.Test.YtgmidllbkjdnnaaDoorL6C
namespace Go.Proofs.YtgmidllbkjdnnaaDoor.W
open Go.Proofs.YtgmidllbkjdnnaaDoor.Flat
set_option linter.unusedVariables false
set_option linter.unusedSimpArgs false
set_option smartUnfolding false
attribute [local irreducible] zaJ zaK zaZ zaR zaI za7 zcw zbE zao zaC zbD zbd zc7 quoI zct zcu zcT zbr zcV zcx zcv zbh zb0 zcf zcQ remI strAt zaO
variable {t:Tab} {call:FuncId→List AV→List AV→Option (AV × List AV)}
theorem zaA.ok (ht:TabOk t call) (n:Nat) (u1:GProg) (r:_) (h:zaA t n u1=some r):exec (env Tryd.prog 5 Tryd.f5 call) n (sub [1,1,1,1,1,1] (zt Tryd.f5)) (mkSt 123 123 [(7,(.ptr 7 0 [] 0))] [(7,(.t (GProg.t u1)))])=some (zaA.to r):=by
 obtain⟨a1⟩:=u1
 rw[zaA]at h
 obtain⟨⟨a2,a3⟩,h1,h⟩:=sm h
 obtain⟨a4,h2,h⟩:=sm h
 have o2 {os} (x:Obls (env Tryd.prog 5 Tryd.f5 call) n os):=zZ (ht.za6 _ _ h1) (zZ (ht.zbt _ _ h2) x)
 rcases fk h with ⟨h3,h⟩ | ⟨h3,h⟩
 ·rcases fk h with ⟨h4,h⟩ | ⟨h4,h⟩
  ·rcases fk h with ⟨h5,h⟩ | ⟨h5,h⟩
   ·obtain⟨a5,rfl⟩:∃z_,z_=r:=⟨_,rfl⟩
    have h6:=h
    exact path (o2 (zV h3 (zaT h4 (zP (zq GStep.zl (l:=a2)) (zaT h4 (zi h5 (zZ (ht.zbJ _ h6) (zi h5 ob)))))))) (by kernel_rfl)
   ·cases h
    exact path (o2 (zV h3 (zaT h4 (zP (zq GStep.zl (l:=a2)) (zaT h4 (zaT h5 ob)))))) (by kernel_rfl)
  ·cases h
   exact path (o2 (zV h3 (zaV h4 (zaT (rfl:false=false) ob)))) (by kernel_rfl)
 ·cases h
  exact path (o2 (zV h3 (zaG (rfl:false=false) 6 ob))) (by kernel_rfl)
theorem zb8.ok (ht:TabOk t call) (n:Nat) (a1 a2:Int) (u3:GProg) (r:_) (h:zb8 t n a1 a2 u3=some r):exec (env Tryd.prog 5 Tryd.f5 call) n (sub [1,1,1,1] (zt Tryd.f5)) (mkSt 123 123 [(1,(I6 a1)),(2,(.t (.v (.int .u8 a2)))),(7,(.ptr 7 0 [] 0))] [(7,(.t (GProg.x u3)))])=some (zb8.to r):=by
 obtain⟨a3⟩:=u3
 rw[zb8]at h
 obtain⟨a4,h1,h⟩:=sm h
 obtain⟨a5,h2,h⟩:=sm h
 have o4 {os} (x:Obls (env Tryd.prog 5 Tryd.f5 call) n os):=zad (zdg (fs:=[(.xl 1 (zG a3))]) (i:=0) rfl (zcM _)) (zP (zq zA (l:=a3)) (zP (znp (P:=Tryd.prog) (t:=50) (x:=(.tmp 30)) (y:=(.tmp 34)) h1) (zP (znp (P:=Tryd.prog) (t:=5) (x:=(.tmp 37)) (y:=(.const (.int .u8 5))) h2) x)))
 rcases fk h with ⟨h3,h⟩ | ⟨h3,h⟩
 ·obtain⟨h4,h⟩:=cl h
  obtain⟨a6,rfl⟩:∃z_,z_=r:=⟨_,rfl⟩
  have h5:=h
  exact path (o4 (zi h3 (zd0 (zdd zA h4) (zea (zdG zA (a:=a3) (b:=([([]:List GCode)]:List (List GCode)))) (zea (zb7 (l:=(a3++([([]:List GCode)]:List (List GCode))))) (zaw (zaA.ok ht n _ _ h5) ob)))))) (by kernel_rfl)
 ·rcases fk h with ⟨h6,h⟩ | ⟨h6,h⟩
  ·obtain⟨h7,h⟩:=ck h
   obtain⟨a7,rfl⟩:∃z_,z_=r:=⟨_,rfl⟩
   have h8:=h
   exact path (o4 (zi h3 (zi h6 (zad (zdg (fs:=[(.xl 1 (zG a3))]) (i:=0) rfl (zcM _)) (zP (zq zA (l:=a3)) (zea (zb7 (l:=a3)) (zad (zdg (fs:=[(.sl false 1 (za0 a3))]) (i:=0) rfl (zcM _)) (zav (zjr zaj h7) (zea (znq zaj (l:=a3) (h:=((IntKind.wrap .i64 ((a3.length:Int)-1)):Int).toNat) (i:=(0:Int).toNat)) (zaw (zaA.ok ht n _ _ h8) ob)))))))))) (by kernel_rfl)
  ·rcases fk h with ⟨h9,h⟩ | ⟨h9,h⟩
   ·obtain⟨h10,h⟩:=ck h
    obtain⟨a8,h11,h⟩:=sm h
    obtain⟨h12,h⟩:=cl h
    obtain⟨a9,rfl⟩:∃z_,z_=r:=⟨_,rfl⟩
    have h13:=h
    exact path (o4 (zi h3 (zi h6 (zi h9 (zad (zdg (fs:=[(.xl 1 (zG a3))]) (i:=0) rfl (zcM _)) (zav h10 (zad (zu zA h11) (zad (zdg (fs:=[(.xl 1 (zG a3))]) (i:=0) rfl (zfJ 1 (zu zA h11) (zcM _))) (zad (zdg (fs:=[(.xl 1 (zG a3))]) (i:=0) rfl (zcM _)) (zP (zq zA (l:=a3)) (zad (zdg (fs:=[(.xl 1 (zG a3))]) (i:=0) rfl (zfJ 1 (zu zA h11) (zcM _))) (zad (zfK (fs:=[(.xl 1 (zG a3))]) (i:=0) rfl (zhI 1 zA h11 (zeU _ .op))) (zd0 (zdd GCode.zl h12) (zea (zdG GCode.zl (a:=a8) (b:=([(GCode.mk 28 ([]:List ByteArray) ([]:List Int) (zh.mk 0 0 ByteArray.empty ([]:List zh) ([]:List zh)) (GPred.mk 0 ([]:List zh) ([]:List GPred)) ([(IntKind.wrap .i64 ((a3.length:Int)-1))]:List Int) ([]:List GKey) ([]:List ByteArray))]:List GCode))) (zad (zdg (fs:=[(.xl 1 (List.set (zG a3) (((IntKind.wrap .i64 a4):Int).toNat) .op))]) (i:=0) rfl (zcM _)) (zav h10 (zad (zf3 (z:=.op) zA h11) (zad (zdg (fs:=[(.xl 1 (List.set (zG a3) (((IntKind.wrap .i64 a4):Int).toNat) .op))]) (i:=0) rfl (zj4 1 zA h11 (zcM _))) (zad (zfK (fs:=[(.xl 1 (List.set (zG a3) (((IntKind.wrap .i64 a4):Int).toNat) .op))]) (i:=0) rfl (zj5 1 zA (a8++([(GCode.mk 28 ([]:List ByteArray) ([]:List Int) (zh.mk 0 0 ByteArray.empty ([]:List zh) ([]:List zh)) (GPred.mk 0 ([]:List zh) ([]:List GPred)) ([(IntKind.wrap .i64 ((a3.length:Int)-1))]:List Int) ([]:List GKey) ([]:List ByteArray))]:List GCode)) h11 (zeU _ (.xl 14 (GCode.ts (a8++([(GCode.mk 28 ([]:List ByteArray) ([]:List Int) (zh.mk 0 0 ByteArray.empty ([]:List zh) ([]:List zh)) (GPred.mk 0 ([]:List zh) ([]:List GPred)) ([(IntKind.wrap .i64 ((a3.length:Int)-1))]:List Int) ([]:List GKey) ([]:List ByteArray))]:List GCode))))))) (zea (zb7 (l:=(a3.set ((IntKind.wrap .i64 a4):Int).toNat (a8++([(GCode.mk 28 ([]:List ByteArray) ([]:List Int) (zh.mk 0 0 ByteArray.empty ([]:List zh) ([]:List zh)) (GPred.mk 0 ([]:List zh) ([]:List GPred)) ([(IntKind.wrap .i64 ((a3.length:Int)-1))]:List Int) ([]:List GKey) ([]:List ByteArray))]:List GCode))))) (zaw (zaA.ok ht n _ _ h13) ob))))))))))))))))))))) (by kernel_rfl)
   ·rcases fk h with ⟨h14,h⟩ | ⟨h14,h⟩
    ·obtain⟨h15,h⟩:=ck h
     obtain⟨a10,h16,h⟩:=sm h
     obtain⟨h17,h⟩:=cl h
     obtain⟨a11,rfl⟩:∃z_,z_=r:=⟨_,rfl⟩
     have h18:=h
     exact path (o4 (zi h3 (zi h6 (zi h9 (zi h14 (zad (zdg (fs:=[(.xl 1 (zG a3))]) (i:=0) rfl (zcM _)) (zav h15 (zad (zu zA h16) (zad (zdg (fs:=[(.xl 1 (zG a3))]) (i:=0) rfl (zfJ 1 (zu zA h16) (zcM _))) (zad (zdg (fs:=[(.xl 1 (zG a3))]) (i:=0) rfl (zfJ 1 (zu zA h16) (zcM _))) (zad (zfK (fs:=[(.xl 1 (zG a3))]) (i:=0) rfl (zhI 1 zA h16 (zeU _ .op))) (zd0 (zdd GCode.zl h17) (zea (zdG GCode.zl (a:=a10) (b:=([(GCode.mk 28 ([]:List ByteArray) ([]:List Int) (zh.mk 0 0 ByteArray.empty ([]:List zh) ([]:List zh)) (GPred.mk 0 ([]:List zh) ([]:List GPred)) ([(IntKind.wrap .i64 a4)]:List Int) ([]:List GKey) ([]:List ByteArray))]:List GCode))) (zad (zdg (fs:=[(.xl 1 (List.set (zG a3) (((IntKind.wrap .i64 a4):Int).toNat) .op))]) (i:=0) rfl (zcM _)) (zav h15 (zad (zf3 (z:=.op) zA h16) (zad (zdg (fs:=[(.xl 1 (List.set (zG a3) (((IntKind.wrap .i64 a4):Int).toNat) .op))]) (i:=0) rfl (zj4 1 zA h16 (zcM _))) (zad (zfK (fs:=[(.xl 1 (List.set (zG a3) (((IntKind.wrap .i64 a4):Int).toNat) .op))]) (i:=0) rfl (zj5 1 zA (a10++([(GCode.mk 28 ([]:List ByteArray) ([]:List Int) (zh.mk 0 0 ByteArray.empty ([]:List zh) ([]:List zh)) (GPred.mk 0 ([]:List zh) ([]:List GPred)) ([(IntKind.wrap .i64 a4)]:List Int) ([]:List GKey) ([]:List ByteArray))]:List GCode)) h16 (zeU _ (.xl 14 (GCode.ts (a10++([(GCode.mk 28 ([]:List ByteArray) ([]:List Int) (zh.mk 0 0 ByteArray.empty ([]:List zh) ([]:List zh)) (GPred.mk 0 ([]:List zh) ([]:List GPred)) ([(IntKind.wrap .i64 a4)]:List Int) ([]:List GKey) ([]:List ByteArray))]:List GCode))))))) (zea (zb7 (l:=(a3.set ((IntKind.wrap .i64 a4):Int).toNat (a10++([(GCode.mk 28 ([]:List ByteArray) ([]:List Int) (zh.mk 0 0 ByteArray.empty ([]:List zh) ([]:List zh)) (GPred.mk 0 ([]:List zh) ([]:List GPred)) ([(IntKind.wrap .i64 a4)]:List Int) ([]:List GKey) ([]:List ByteArray))]:List GCode))))) (zaw (zaA.ok ht n _ _ h18) ob)))))))))))))))))))) (by kernel_rfl)
    ·obtain⟨h19,h⟩:=ck h
     obtain⟨a12,h20,h⟩:=sm h
     obtain⟨h21,h⟩:=cl h
     obtain⟨a13,rfl⟩:∃z_,z_=r:=⟨_,rfl⟩
     have h22:=h
     exact path (o4 (zi h3 (zi h6 (zi h9 (zi h14 (zad (zdg (fs:=[(.xl 1 (zG a3))]) (i:=0) rfl (zcM _)) (zav h19 (zad (zu zA h20) (zad (zdg (fs:=[(.xl 1 (zG a3))]) (i:=0) rfl (zfJ 1 (zu zA h20) (zcM _))) (zad (zdg (fs:=[(.xl 1 (zG a3))]) (i:=0) rfl (zfJ 1 (zu zA h20) (zcM _))) (zad (zfK (fs:=[(.xl 1 (zG a3))]) (i:=0) rfl (zhI 1 zA h20 (zeU _ .op))) (zd0 (zdd GCode.zl h21) (zea (zdG GCode.zl (a:=a12) (b:=([(GCode.mk 0 ([]:List ByteArray) ([]:List Int) (zh.mk 0 0 ByteArray.empty ([]:List zh) ([]:List zh)) (GPred.mk 0 ([]:List zh) ([]:List GPred)) ([]:List Int) ([]:List GKey) ([]:List ByteArray))]:List GCode))) (zad (zdg (fs:=[(.xl 1 (List.set (zG a3) (((IntKind.wrap .i64 a4):Int).toNat) .op))]) (i:=0) rfl (zcM _)) (zav h19 (zad (zf3 (z:=.op) zA h20) (zad (zdg (fs:=[(.xl 1 (List.set (zG a3) (((IntKind.wrap .i64 a4):Int).toNat) .op))]) (i:=0) rfl (zj4 1 zA h20 (zcM _))) (zad (zfK (fs:=[(.xl 1 (List.set (zG a3) (((IntKind.wrap .i64 a4):Int).toNat) .op))]) (i:=0) rfl (zj5 1 zA (a12++([(GCode.mk 0 ([]:List ByteArray) ([]:List Int) (zh.mk 0 0 ByteArray.empty ([]:List zh) ([]:List zh)) (GPred.mk 0 ([]:List zh) ([]:List GPred)) ([]:List Int) ([]:List GKey) ([]:List ByteArray))]:List GCode)) h20 (zeU _ (.xl 14 (GCode.ts (a12++([(GCode.mk 0 ([]:List ByteArray) ([]:List Int) (zh.mk 0 0 ByteArray.empty ([]:List zh) ([]:List zh)) (GPred.mk 0 ([]:List zh) ([]:List GPred)) ([]:List Int) ([]:List GKey) ([]:List ByteArray))]:List GCode))))))) (zea (zb7 (l:=(a3.set ((IntKind.wrap .i64 a4):Int).toNat (a12++([(GCode.mk 0 ([]:List ByteArray) ([]:List Int) (zh.mk 0 0 ByteArray.empty ([]:List zh) ([]:List zh)) (GPred.mk 0 ([]:List zh) ([]:List GPred)) ([]:List Int) ([]:List GKey) ([]:List ByteArray))]:List GCode))))) (zaw (zaA.ok ht n _ _ h22) ob)))))))))))))))))))) (by kernel_rfl)
theorem zbe.ok {n:Nat} {t:Tab} (ht:TabOk t (run Tryd.prog own kp X n)):∀(p1:List GStep) (p2:Int) (p3:Int) r,zbe t n p1 p2 p3=some r→run Tryd.prog own kp X (n+1) 5 [(Sl 14 (GStep.ts p1)),(I6 p2),(.t (.v (.int .u8 p3)))] []=some ((Bo r),[]):=by
 intro p1 p2 p3 r h
 obtain⟨a1,rfl⟩:∃z_,z_=p1:=⟨_,rfl⟩
 obtain⟨a2,rfl⟩:∃z_,z_=p2:=⟨_,rfl⟩
 obtain⟨a3,rfl⟩:∃z_,z_=p3:=⟨_,rfl⟩
 rw[zbe]at h
 obtain⟨a4,h1,h⟩:=sm h
 rcases fk h with ⟨h2,h⟩ | ⟨h2,h⟩
 ·obtain⟨a5,rfl⟩:∃z_,z_=r:=⟨_,rfl⟩
  have h3:=h
  exact zk Tryd.func5 (zZ (ht.zcI _ _ h1) (zi h2 (zZ (ht.zbJ _ h3) ob))) (by kernel_rfl)
 ·obtain⟨⟨⟨a6⟩,a7⟩,h4,h⟩:=sm h
  rcases fk h with ⟨h5,h⟩ | ⟨h5,h⟩
  ·obtain⟨a8,rfl⟩:∃z_,z_=r:=⟨_,rfl⟩
   have h6:=h
   exact zk Tryd.func5 (zZ (ht.zcI _ _ h1) (zi h2 (zZ (ht.zbK _ _ h4) (zaG h5 5 (zds 1 (zZ (ht.zbJ _ h6) ob)))))) (by kernel_rfl)
  ·have o10 {os} (x:Obls (env Tryd.prog 5 Tryd.f5 (run Tryd.prog own kp X n)) n os):=zZ (ht.zcI _ _ h1) (zi h2 (zZ (ht.zbK _ _ h4) (zV h5 (zad (zdg (fs:=[(.xl 1 (zG a6))]) (i:=0) rfl (zcM _)) (zP (zq zA (l:=a6)) (zaT h5 x))))))
   rcases fk h with ⟨h7,h⟩ | ⟨h7,h⟩
   ·obtain⟨a9,rfl⟩:∃z_,z_=r:=⟨_,rfl⟩
    have h8:=h
    exact zk Tryd.func5 (o10 (zi h7 (zZ (ht.zbJ _ h8) ob))) (by kernel_rfl)
   ·obtain⟨a10,rfl⟩:∃z_,z_=r:=⟨_,rfl⟩
    have h9:=h
    exact zk Tryd.func5 (o10 (zi h7 (zaw (zb8.ok ht n _ _ _ _ h9) ob))) (by kernel_rfl)
theorem zcI.ok {n:Nat} {t:Tab} (ht:TabOk t (run Tryd.prog own kp X n)):∀(p1:List GStep) r,zcI t n p1=some r→run Tryd.prog own kp X (n+1) 6 [(Sl 14 (GStep.ts p1))] []=some ((Bo r),[]):=by
 intro p1 r h
 obtain⟨a1,rfl⟩:∃z_,z_=p1:=⟨_,rfl⟩
 rw[zcI]at h
 obtain⟨a2,h1,h⟩:=sm h
 cases h
 exact zk Tryd.func6 (zZ (ht.zbp _ _ _ _ h1) ob) (by kernel_rfl)
theorem zdv.ok (ht:TabOk t call) (n:Nat) (a1 a2:List GStep) (u3:GProg) (r:_) (h:zdv t n a1 a2 u3=some r):exec (env Tryd.prog 8 Tryd.f8 call) n (sub [1,1,1,1,1,1,1] (zt Tryd.f8)) (mkSt 118 118 [(3,(Sl 14 (GStep.ts a1))),(4,(.ptr 4 0 [] 0)),(6,(Sl 14 (GStep.ts a2)))] [(4,(.t (GProg.t u3)))])=some (zdv.to r):=by
 obtain⟨a3⟩:=u3
 rw[zdv]at h
 obtain⟨h1,h⟩:=ck h
 obtain⟨a4,h2,h⟩:=sm h
 obtain⟨h3,h⟩:=ck h
 obtain⟨⟨a5,a6,a7,⟨a8,a9,a10,a11,a12⟩,⟨a13,a14,a15⟩,a16,a17,a18⟩,h4,h⟩:=sm h
 obtain⟨a19,h5,h⟩:=sm h
 have o6 {os} (x:Obls (env Tryd.prog 8 Tryd.f8 call) n os):=zav h1 (zad (zu zaj h2) (zav h3 (zad (zu GCode.zl h4) (zav h1 (zad (zu zy h5) x)))))
 rcases fk h with ⟨h6,h⟩ | ⟨h6,h⟩
 ·obtain⟨h7,h⟩:=ck h
  obtain⟨a20,h8,h⟩:=sm h
  obtain⟨⟨a21,a22,a23,⟨a24,a25,a26,a27,a28⟩,⟨a29,a30,a31⟩,a32,a33,a34⟩,h9,h⟩:=sm h
  have o19 {os} (x:Obls (env Tryd.prog 8 Tryd.f8 call) n os):=o6 (zV h6 (zav h7 (zad (zu zaj h8) (zaT h6 (zav h7 (zad (zu GCode.zl h9) (zaV h6 x)))))))
  rcases fk h with ⟨h10,h⟩ | ⟨h10,h⟩
  ·obtain⟨h11,h⟩:=ck h
   obtain⟨a35,h12,h⟩:=sm h
   obtain⟨⟨a36,a37,a38,⟨a39,a40,a41,a42,a43⟩,⟨a44,a45,a46⟩,a47,a48,a49⟩,h13,h⟩:=sm h
   have o32 {os} (x:Obls (env Tryd.prog 8 Tryd.f8 call) n os):=o19 (zV h10 (zav h11 (zad (zu zaj h12) (zaT h10 (zav h1 (zad (zu GCode.zl h13) (zaV h10 x)))))))
   rcases fk h with ⟨h14,h⟩ | ⟨h14,h⟩
   ·obtain⟨a50,h15,h⟩:=sm h
    rcases fk h with ⟨h16,h⟩ | ⟨h16,h⟩
    ·obtain⟨a51,h17,h⟩:=sm h
     rcases fk h with ⟨h18,h⟩ | ⟨h18,h⟩
     ·obtain⟨a52,rfl⟩:∃z_,z_=r:=⟨_,rfl⟩
      have h19:=h
      exact path (o32 (zV h14 (zZ (ht.zcJ _ _ _ h15) (zi h14 (zaT h16 (zZ (ht.zbt _ _ h17) (zaT h16 (zV h18 (zZ (ht.zdH _ _ _ h19) (zi h18 ob)))))))))) (by kernel_rfl)
     ·cases h
      exact path (o32 (zV h14 (zZ (ht.zcJ _ _ _ h15) (zi h14 (zaT h16 (zZ (ht.zbt _ _ h17) (zaT h16 (zaV h18 ob)))))))) (by kernel_rfl)
    ·cases h
     exact path (o32 (zV h14 (zZ (ht.zcJ _ _ _ h15) (zi h14 (zaV h16 (zaV (rfl:false=false) ob)))))) (by kernel_rfl)
   ·cases h
    exact path (o32 (zaV h14 (zaG (rfl:false=false) 8 ob))) (by kernel_rfl)
  ·cases h
   exact path (o19 (zaG h10 9 (zaG (rfl:false=false) 12 ob))) (by kernel_rfl)
 ·cases h
  exact path (o6 (zaG h6 9 (zaG (rfl:false=false) 21 ob))) (by kernel_rfl)
theorem zbJ.ok {n:Nat} {t:Tab} (ht:TabOk t (run Tryd.prog own kp X n)):∀r,zbJ t n=some r→run Tryd.prog own kp X (n+1) 8 [] []=some ((Bo r),[]):=by
 intro r h
 rw[zbJ]at h
 obtain⟨⟨⟨a1⟩,a2⟩,h1,h⟩:=sm h
 obtain⟨⟨a3,a4⟩,h2,h⟩:=sm h
 have o3 {os} (x:Obls (env Tryd.prog 8 Tryd.f8 (run Tryd.prog own kp X n)) n os):=zZ (ht.zbK _ _ h1) (zea (zb7 (l:=a1)) (zZ (ht.za6 _ _ h2) x))
 rcases fk h with ⟨h3,h⟩ | ⟨h3,h⟩
 ·cases h
  exact zk Tryd.func8 (o3 (zV h3 (zds 30 ob))) (by kernel_rfl)
 ·rcases fk h with ⟨h4,h⟩ | ⟨h4,h⟩
  ·cases h
   exact zk Tryd.func8 (o3 (zV h3 (zaG h4 5 (zds 25 ob)))) (by kernel_rfl)
  ·have o12 {os} (x:Obls (env Tryd.prog 8 Tryd.f8 (run Tryd.prog own kp X n)) n os):=o3 (zV h3 (zV h4 (zP (zq zaj (l:=a1)) (zaT h4 x))))
   rcases fk h with ⟨h5,h⟩ | ⟨h5,h⟩
   ·cases h
    exact zk Tryd.func8 (o12 (zaG h5 7 (zds 18 ob))) (by kernel_rfl)
   ·obtain⟨h6,h⟩:=ck h
    obtain⟨a5,h7,h⟩:=sm h
    have o22 {os} (x:Obls (env Tryd.prog 8 Tryd.f8 (run Tryd.prog own kp X n)) n os):=o12 (zV h5 (zav h6 (zad (zu zaj h7) (zaT h5 (zP (zq GCode.zl (l:=a5)) (zaT h5 x))))))
    rcases fk h with ⟨h8,h⟩ | ⟨h8,h⟩
    ·cases h
     exact zk Tryd.func8 (o22 (zaG h8 10 (zds 8 ob))) (by kernel_rfl)
    ·obtain⟨h9,h⟩:=ck h
     obtain⟨⟨a6,a7,a8,⟨a9,a10,a11,a12,a13⟩,⟨a14,a15,a16⟩,a17,a18,a19⟩,h10,h⟩:=sm h
     have o37 {os} (x:Obls (env Tryd.prog 8 Tryd.f8 (run Tryd.prog own kp X n)) n os):=o22 (zV h8 (zav h6 (zad (zu zaj h7) (zaT h8 (zav h9 (zad (zu GCode.zl h10) (zV h8 (zP (zq zy (l:=a17)) (zaT h8 x)))))))))
     rcases fk h with ⟨h11,h⟩ | ⟨h11,h⟩
     ·cases h
      exact zk Tryd.func8 (o37 (zaG h11 7 (zds 1 ob))) (by kernel_rfl)
     ·obtain⟨h12,h⟩:=ck h
      obtain⟨a20,h13,h⟩:=sm h
      have o47 {os} (x:Obls (env Tryd.prog 8 Tryd.f8 (run Tryd.prog own kp X n)) n os):=o37 (zV h11 (zav h12 (zad (zu zaj h13) (zaT h11 (zP (zq GCode.zl (l:=a20)) (zaT h11 x))))))
      rcases fk h with ⟨h14,h⟩ | ⟨h14,h⟩
      ·cases h
       exact zk Tryd.func8 (o47 (zi h14 ob)) (by kernel_rfl)
      ·obtain⟨a21,rfl⟩:∃z_,z_=r:=⟨_,rfl⟩
       have h15:=h
       exact zk Tryd.func8 (o47 (zi h14 (zaw (zdv.ok ht n _ _ _ _ h15) ob))) (by kernel_rfl)
theorem zbK.ok {n:Nat} {t:Tab} (ht:TabOk t (run Tryd.prog own kp X n)):∀(p1:List GStep) r,zbK t n p1=some r→run Tryd.prog own kp X (n+1) 9 [(Sl 14 (GStep.ts p1))] []=some ((.tup [(GProg.x r.1),(.v (.int .i64 r.2))]),[]):=by
 intro p1 r h
 obtain⟨a1,rfl⟩:∃z_,z_=p1:=⟨_,rfl⟩
 rw[zbK]at h
 obtain⟨a2,h1,h⟩:=sm h
 rcases fk h with ⟨h2,h⟩ | ⟨h2,h⟩
 ·cases h
  exact zk Tryd.func9 (zZ (ht.zcm _ _ h1) (zi h2 ob)) (by kernel_rfl)
 ·obtain⟨a3,h3,h⟩:=sm h
  obtain⟨⟨a4,⟨a5⟩⟩,h4,h⟩:=sm h
  cases h
  exact zk Tryd.func9 (zZ (ht.zcm _ _ h1) (zi h2 (zZ (ht.zdb _ _ h3) (zZ (ht.zaL _ _ _ h4) ob)))) (by kernel_rfl)
theorem za6.ok {n:Nat} {t:Tab} (ht:TabOk t (run Tryd.prog own kp X n)):∀(p1:GProg) r,za6 t n p1=some r→run Tryd.prog own kp X (n+1) 15 [(.t (GProg.t p1))] []=some ((.tup [(.sl false 14 (GStep.ts r.1)),(.v (.int .i64 r.2))]),[]):=by
 intro p1 r h
 obtain⟨a1⟩:=p1
 rw[za6]at h
 obtain⟨⟨a2,a3,⟨a4,a5⟩⟩,h1,h⟩:=sm h
 rcases fk h with ⟨h2,h⟩ | ⟨h2,h⟩
 ·have o11 {os} (x:Obls (env Tryd.prog 15 Tryd.f15 (run Tryd.prog own kp X n)) n os):=zZ (ht.zaf _ _ _ h1) (zaG (ng h2) 7 (zP (zq zaj (l:=a1)) (zaT (ng h2) x)))
  rcases fk h with ⟨h3,h⟩ | ⟨h3,h⟩
  ·cases h
   exact zk Tryd.func15 (o11 (zaV h3 (zds 1 ob))) (by kernel_rfl)
  ·obtain⟨a6,h4,h⟩:=sm h
   rcases fk h with ⟨h5,h⟩ | ⟨h5,h⟩
   ·cases h
    exact zk Tryd.func15 (o11 (zaT h3 (zZ (ht.zcm _ _ h4) (zaT h3 (zi h5 ob))))) (by kernel_rfl)
   ·obtain⟨a7,h6,h⟩:=sm h
    cases h
    exact zk Tryd.func15 (o11 (zaT h3 (zZ (ht.zcm _ _ h4) (zaT h3 (zi h5 (zZ (ht.zdb _ _ h6) ob)))))) (by kernel_rfl)
 ·cases h
  exact zk Tryd.func15 (zZ (ht.zaf _ _ _ h1) (zaG (ng h2) 9 (zds 5 ob))) (by kernel_rfl)
theorem zbt.ok {n:Nat} {t:Tab} (ht:TabOk t (run Tryd.prog own kp X n)):∀(p1:GProg) r,zbt t n p1=some r→run Tryd.prog own kp X (n+1) 16 [(.t (GProg.t p1))] []=some ((I6 r),[]):=by
 intro p1 r h
 obtain⟨a1⟩:=p1
 rw[zbt]at h
 obtain⟨⟨a2,a3⟩,h1,h⟩:=sm h
 cases h
 exact zk Tryd.func16 (zZ (ht.za6 _ _ h1) ob) (by kernel_rfl)
theorem zcf.ok (ht:TabOk t call) (n:Nat) (a1:List GStep) (a2 a3 a4 a5:Int) (a6:List (List GStep)) (a7:Int) (r:_) (h:zcf t n a1 a2 a3 a4 a5 a6 a7=some r):exec (env Tryd.prog 17 Tryd.f17 call) n (sub [1,1,0,1,0,0,1,0,0,1,1,1,1,0,0,1] (zt Tryd.f17)) (mkSt 80 80 [(0,(Sl 14 (GStep.ts a1))),(1,(I6 a2)),(2,(I6 a3)),(7,(I6 a4)),(8,(I6 a5)),(10,(Sl 1 (zo a6))),(11,(I6 a7))] [])=some (zcf.to r):=by
 rw[zcf]at h
 rcases fk h with ⟨h1,h⟩ | ⟨h1,h⟩
 ·cases h
  exact path (zi h1 ob) (by kernel_rfl)
 ·obtain⟨h2,h⟩:=ck h
  obtain⟨a8,h3,h⟩:=sm h
  obtain⟨a9,h4,h⟩:=sm h
  cases h
  exact path (zi h1 (zav h2 (zad (zu zw h3) (zZ (ht.zbp _ _ _ _ h4) ob)))) (by kernel_rfl)
theorem za1.okL (ht:TabOk t call) (n:Nat):∀(k:Nat) (a1:List GStep) (a2 a3 a4 a5:Int) (a6:List (List GStep)) (a7:Int) (r:_),za1 t n k a1 a2 a3 a4 a5 a6 a7=some r→loopN (exec (env Tryd.prog 17 Tryd.f17 call) n (sub [1,1,0,1,0,0,1,0,0,1,1,1,1,0,0] (zt Tryd.f17))) k (mkSt 80 80 [(0,(Sl 14 (GStep.ts a1))),(1,(I6 a2)),(2,(I6 a3)),(7,(I6 a4)),(8,(I6 a5)),(10,(Sl 1 (zo a6))),(11,(I6 a7))] [])=some (za1.to r)
 | 0,a1,a2,a3,a4,a5,a6,a7,r,h=>by rw[za1]at h;cases h
 | k+1,a1,a2,a3,a4,a5,a6,a7,r,h=>by
  rw[za1]at h
  rcases fk h with ⟨h1,h⟩ | ⟨h1,h⟩
  ·have o5 {os} (x:Obls (env Tryd.prog 17 Tryd.f17 call) n os):=zP (zq zw (l:=a6)) (zaV h1 x)
   rcases fk h with ⟨h2,h⟩ | ⟨h2,h⟩
   ·obtain⟨a8 | ⟨a9,a10,a11,a12,a13,a14,a15⟩,h3,h⟩:=sm h
    ·cases h
     exact zx (path (o5 (zi h2 (zaw (zcf.ok ht n _ _ _ _ _ _ _ _ h3) ob))) (by kernel_rfl)) (fun h=>by cases h)
    ·exact zT (path (o5 (zi h2 (zaw (zcf.ok ht n _ _ _ _ _ _ _ _ h3) ob))) (by kernel_rfl)) (za1.okL ht n k _ _ _ _ _ _ _ _ h)
   ·cases h
    exact zx (path (o5 (zi h2 ob)) (by kernel_rfl)) (fun h=>by cases h)
  ·cases h
   exact zx (path (zP (zq zw (l:=a6)) (zaV h1 (zi (rfl:false=false) ob))) (by kernel_rfl)) (fun h=>by cases h)
theorem zb0.ok (ht:TabOk t call) (n:Nat) (a1:List GStep) (a2 a3 a4 a5:Int) (r:_) (h:zb0 t n a1 a2 a3 a4 a5=some r):exec (env Tryd.prog 17 Tryd.f17 call) n (sub [1,1,0,1,0,0,1] (zt Tryd.f17)) (mkSt 80 80 [(0,(Sl 14 (GStep.ts a1))),(1,(I6 a2)),(2,(I6 a3)),(7,(I6 a4)),(8,(I6 a5))] [])=some (zb0.to r):=by
 rw[zb0]at h
 obtain⟨h1,h⟩:=ck h
 obtain⟨⟨a6,a7,a8,⟨a9,a10,a11,a12,a13⟩,⟨a14,a15,a16⟩,a17,a18,a19⟩,h2,h⟩:=sm h
 obtain⟨a20,h3,h⟩:=sm h
 obtain⟨a21,h4,h⟩:=sm h
 obtain⟨a22,h5,h⟩:=sm h
 have o8 {os} (x:Obls (env Tryd.prog 17 Tryd.f17 call) n os):=zav h1 (zad (zu GStep.zl h2) (zP (zq zX (l:=a7)) (zP (zq zy (l:=a8)) (zP (zq zX (l:=a19)) (zZ (ht.zbo _ _ _ h3) (zZ (ht.zck _ _ _ h4) (zZ (ht.zcN _ _ h5) x)))))))
 obtain⟨a23 | ⟨a24,a25,a26,a27,a28,a29,a30,a31⟩,h6,h⟩:=sm h
 ·cases h
  exact path (o8 (zbq (lk (sub [1,1,0,1,0,0,1,0,0,1,1,1,1,0] (zt Tryd.f17)) (by kernel_rfl) (za1.okL ht n n _ _ _ _ _ _ _ _ h6)) ob)) (by kernel_rfl)
 ·cases h
  exact path (o8 (zbq (lk (sub [1,1,0,1,0,0,1,0,0,1,1,1,1,0] (zt Tryd.f17)) (by kernel_rfl) (za1.okL ht n n _ _ _ _ _ _ _ _ h6)) ob)) (by kernel_rfl)
theorem za2.okL (ht:TabOk t call) (n:Nat):∀(k:Nat) (a1:List GStep) (a2 a3 a4 a5:Int) (r:_),za2 t n k a1 a2 a3 a4 a5=some r→loopN (exec (env Tryd.prog 17 Tryd.f17 call) n (sub [1,1,0,1,0,0] (zt Tryd.f17))) k (mkSt 80 80 [(0,(Sl 14 (GStep.ts a1))),(1,(I6 a2)),(2,(I6 a3)),(7,(I6 a4)),(8,(I6 a5))] [])=some (za2.to r)
 | 0,a1,a2,a3,a4,a5,r,h=>by rw[za2]at h;cases h
 | k+1,a1,a2,a3,a4,a5,r,h=>by
  rw[za2]at h
  rcases fk h with ⟨h1,h⟩ | ⟨h1,h⟩
  ·rcases fk h with ⟨h2,h⟩ | ⟨h2,h⟩
   ·obtain⟨a6 | ⟨a7,a8,a9,a10,a11⟩,h3,h⟩:=sm h
    ·cases h
     exact zx (path (zP (zq GStep.zl (l:=a1)) (zaV h1 (zi h2 (zaw (zb0.ok ht n _ _ _ _ _ _ h3) ob)))) (by kernel_rfl)) (fun h=>by cases h)
    ·exact zT (path (zP (zq GStep.zl (l:=a1)) (zaV h1 (zi h2 (zaw (zb0.ok ht n _ _ _ _ _ _ h3) ob)))) (by kernel_rfl)) (za2.okL ht n k _ _ _ _ _ _ h)
   ·cases h
    exact zx (path (zP (zq GStep.zl (l:=a1)) (zaV h1 (zi h2 ob))) (by kernel_rfl)) (fun h=>by cases h)
  ·cases h
   exact zx (path (zP (zq GStep.zl (l:=a1)) (zaV h1 (zi (rfl:false=false) ob))) (by kernel_rfl)) (fun h=>by cases h)
theorem zbp.ok {n:Nat} {t:Tab} (ht:TabOk t (run Tryd.prog own kp X n)):∀(p1:List GStep) (p2:Int) (p3:Int) r,zbp t n p1 p2 p3=some r→run Tryd.prog own kp X (n+1) 17 [(Sl 14 (GStep.ts p1)),(I6 p2),(I6 p3)] []=some ((I6 r),[]):=by
 intro p1 p2 p3 r h
 obtain⟨a1,rfl⟩:∃z_,z_=p1:=⟨_,rfl⟩
 obtain⟨a2,rfl⟩:∃z_,z_=p2:=⟨_,rfl⟩
 obtain⟨a3,rfl⟩:∃z_,z_=p3:=⟨_,rfl⟩
 rw[zbp]at h
 obtain⟨a4 | ⟨a5,a6,a7,a8,a9,a10⟩,h1,h⟩:=sm h
 ·cases h
  exact zk Tryd.func17 (zbq (lk (sub [1,1,0,1,0] (zt Tryd.f17)) (by kernel_rfl) (za2.okL ht n n _ _ _ _ _ _ h1)) ob) (by kernel_rfl)
 ·cases h
  exact zk Tryd.func17 (zbq (lk (sub [1,1,0,1,0] (zt Tryd.f17)) (by kernel_rfl) (za2.okL ht n n _ _ _ _ _ _ h1)) ob) (by kernel_rfl)
theorem zcA.okL (ht:TabOk t call) (n:Nat):∀(k:Nat) (a1 a2:List GStep) (a3 a4 a5:Int) (a6:List ByteArray) (a7:List Int) (a8 a9:Int) (a10:ByteArray) (a11 a12:List zh) (a13:Int) (a14:List zh) (a15:List GPred) (a16:List (List GStep)) (a17:List GBy) (a18:List ByteArray) (a19:Int) (a20:List ByteArray) (a21:List Int) (a22 a23:Int) (a24:ByteArray) (a25 a26:List zh) (a27:Int) (a28:List zh) (a29:List GPred) (a30:List (List GStep)) (a31:List GBy) (a32:List ByteArray) (r:_),zcA t n k a1 a2 a3 a4 a5 a6 a7 a8 a9 a10 a11 a12 a13 a14 a15 a16 a17 a18 a19 a20 a21 a22 a23 a24 a25 a26 a27 a28 a29 a30 a31 a32=some r→loopN (exec (env Tryd.prog 12 Tryd.f12 call) n (sub [1,1,0,1,0,0,1,0,0,1,1,1,0,1,0,0] (zt Tryd.f12))) k (mkSt 177 177 [(0,(Sl 14 (GStep.ts a1))),(1,(Sl 14 (GStep.ts a2))),(5,(I6 a3)),(6,(.ptr 6 0 [] 0)),(7,(.ptr 7 0 [] 0)),(8,(I6 a4))] [(6,(.t (.st [(.v (.int .i64 a5)),(.sl false 1 (texts a6)),(.sl false 1 (zB a7)),(.st [(.v (.int .i64 a8)),(.v (.int .i64 a9)),(.v (.string a10)),(.sl false 5 (zh.ts a11)),(.sl false 5 (zh.ts a12))]),(.st [(.v (.int .i64 a13)),(.sl false 5 (zh.ts a14)),(.sl false 3 (GPred.ts a15))]),(.sl false 1 (zo a16)),(.sl false 4 (GBy.ts a17)),(.sl false 1 (texts a18))]))),(7,(.t (.st [(.v (.int .i64 a19)),(.sl false 1 (texts a20)),(.sl false 1 (zB a21)),(.st [(.v (.int .i64 a22)),(.v (.int .i64 a23)),(.v (.string a24)),(.sl false 5 (zh.ts a25)),(.sl false 5 (zh.ts a26))]),(.st [(.v (.int .i64 a27)),(.sl false 5 (zh.ts a28)),(.sl false 3 (GPred.ts a29))]),(.sl false 1 (zo a30)),(.sl false 4 (GBy.ts a31)),(.sl false 1 (texts a32))])))])=some (zcA.to r)
 | 0,a1,a2,a3,a4,a5,a6,a7,a8,a9,a10,a11,a12,a13,a14,a15,a16,a17,a18,a19,a20,a21,a22,a23,a24,a25,a26,a27,a28,a29,a30,a31,a32,r,h=>by rw[zcA]at h;cases h
 | k+1,a1,a2,a3,a4,a5,a6,a7,a8,a9,a10,a11,a12,a13,a14,a15,a16,a17,a18,a19,a20,a21,a22,a23,a24,a25,a26,a27,a28,a29,a30,a31,a32,r,h=>by
  rw[zcA]at h
  rcases fk h with ⟨h1,h⟩ | ⟨h1,h⟩
  ·obtain⟨h2,h⟩:=ck h
   obtain⟨a33,h3,h⟩:=sm h
   obtain⟨a34,h4,h⟩:=sm h
   obtain⟨a35,h5,h⟩:=sm h
   have o7 {os} (x:Obls (env Tryd.prog 12 Tryd.f12 call) n os):=zP (zq zw (l:=a16)) (zi h1 (zav h2 (zad (zu zw h3) (zav h2 (zad (zu zw h4) (zZ (ht.zcJ _ _ _ h5) x))))))
   rcases fk h with ⟨h6,h⟩ | ⟨h6,h⟩
   ·exact zT (path (o7 (zi (ng h6) ob)) (by kernel_rfl)) (zcA.okL ht n k _ _ _ _ _ _ _ _ _ _ _ _ _ _ _ _ _ _ _ _ _ _ _ _ _ _ _ _ _ _ _ _ _ h)
   ·cases h
    exact zx (path (o7 (zi (ng h6) ob)) (by kernel_rfl)) (fun h=>by cases h)
  ·cases h
   exact zx (path (zP (zq zw (l:=a16)) (zi h1 ob)) (by kernel_rfl)) (fun h=>by cases h)
theorem zcP.okL (ht:TabOk t call) (n:Nat):∀(k:Nat) (a1 a2:List GStep) (a3 a4 a5:Int) (a6:List ByteArray) (a7:List Int) (a8 a9:Int) (a10:ByteArray) (a11 a12:List zh) (a13:Int) (a14:List zh) (a15:List GPred) (a16:List (List GStep)) (a17:List GBy) (a18:List ByteArray) (a19:Int) (a20:List ByteArray) (a21:List Int) (a22 a23:Int) (a24:ByteArray) (a25 a26:List zh) (a27:Int) (a28:List zh) (a29:List GPred) (a30:List (List GStep)) (a31:List GBy) (a32:List ByteArray) (r:_),zcP t n k a1 a2 a3 a4 a5 a6 a7 a8 a9 a10 a11 a12 a13 a14 a15 a16 a17 a18 a19 a20 a21 a22 a23 a24 a25 a26 a27 a28 a29 a30 a31 a32=some r→loopN (exec (env Tryd.prog 12 Tryd.f12 call) n (sub [1,1,0,1,0,0,1,0,0,1,1,1,1,1,0,0] (zt Tryd.f12))) k (mkSt 177 177 [(0,(Sl 14 (GStep.ts a1))),(1,(Sl 14 (GStep.ts a2))),(5,(I6 a3)),(6,(.ptr 6 0 [] 0)),(7,(.ptr 7 0 [] 0)),(9,(I6 a4))] [(6,(.t (.st [(.v (.int .i64 a5)),(.sl false 1 (texts a6)),(.sl false 1 (zB a7)),(.st [(.v (.int .i64 a8)),(.v (.int .i64 a9)),(.v (.string a10)),(.sl false 5 (zh.ts a11)),(.sl false 5 (zh.ts a12))]),(.st [(.v (.int .i64 a13)),(.sl false 5 (zh.ts a14)),(.sl false 3 (GPred.ts a15))]),(.sl false 1 (zo a16)),(.sl false 4 (GBy.ts a17)),(.sl false 1 (texts a18))]))),(7,(.t (.st [(.v (.int .i64 a19)),(.sl false 1 (texts a20)),(.sl false 1 (zB a21)),(.st [(.v (.int .i64 a22)),(.v (.int .i64 a23)),(.v (.string a24)),(.sl false 5 (zh.ts a25)),(.sl false 5 (zh.ts a26))]),(.st [(.v (.int .i64 a27)),(.sl false 5 (zh.ts a28)),(.sl false 3 (GPred.ts a29))]),(.sl false 1 (zo a30)),(.sl false 4 (GBy.ts a31)),(.sl false 1 (texts a32))])))])=some (zcP.to r)
 | 0,a1,a2,a3,a4,a5,a6,a7,a8,a9,a10,a11,a12,a13,a14,a15,a16,a17,a18,a19,a20,a21,a22,a23,a24,a25,a26,a27,a28,a29,a30,a31,a32,r,h=>by rw[zcP]at h;cases h
 | k+1,a1,a2,a3,a4,a5,a6,a7,a8,a9,a10,a11,a12,a13,a14,a15,a16,a17,a18,a19,a20,a21,a22,a23,a24,a25,a26,a27,a28,a29,a30,a31,a32,r,h=>by
  rw[zcP]at h
  rcases fk h with ⟨h1,h⟩ | ⟨h1,h⟩
  ·obtain⟨h2,h⟩:=ck h
   obtain⟨⟨a33,a34,a35,a36⟩,h3,h⟩:=sm h
   obtain⟨⟨a37,a38,a39,a40⟩,h4,h⟩:=sm h
   have o6 {os} (x:Obls (env Tryd.prog 12 Tryd.f12 call) n os):=zP (zq GBy.zl (l:=a17)) (zi h1 (zav h2 (zad (zu GBy.zl h3) (zav h2 (zad (zu GBy.zl h4) x)))))
   rcases fk h with ⟨h5,h⟩ | ⟨h5,h⟩
   ·cases h
    exact zx (path (o6 (zaG h5 14 (zds 30 ob))) (by kernel_rfl)) (fun h=>by cases h)
   ·have o24 {os} (x:Obls (env Tryd.prog 12 Tryd.f12 call) n os):=o6 (zaV h5 (zav h2 (zad (zu GBy.zl h3) (zaG h5 6 (zav h2 (zad (zu GBy.zl h4) (zaV h5 x)))))))
    rcases fk h with ⟨h6,h⟩ | ⟨h6,h⟩
    ·have o42 {os} (x:Obls (env Tryd.prog 12 Tryd.f12 call) n os):=o24 (zaV (ng h6) (zav h2 (zad (zu GBy.zl h3) (zaG (ng h6) 6 (zav h2 (zad (zu GBy.zl h4) (zaV (ng h6) x)))))))
     rcases fk h with ⟨h7,h⟩ | ⟨h7,h⟩
     ·obtain⟨a41,h8,h⟩:=sm h
      have o62 {os} (x:Obls (env Tryd.prog 12 Tryd.f12 call) n os):=o42 (zaV (ng h7) (zav h2 (zad (zu GBy.zl h3) (zaG (ng h7) 6 (zav h2 (zad (zu GBy.zl h4) (zV (ng h7) (zZ (ht.zcJ _ _ _ h8) (zaT (ng h7) x)))))))))
      rcases fk h with ⟨h9,h⟩ | ⟨h9,h⟩
      ·exact zT (path (o62 (zi (ng h9) ob)) (by kernel_rfl)) (zcP.okL ht n k _ _ _ _ _ _ _ _ _ _ _ _ _ _ _ _ _ _ _ _ _ _ _ _ _ _ _ _ _ _ _ _ _ h)
      ·cases h
       exact zx (path (o62 (zi (ng h9) ob)) (by kernel_rfl)) (fun h=>by cases h)
     ·cases h
      exact zx (path (o42 (zaG (ng h7) 15 (zds 1 ob))) (by kernel_rfl)) (fun h=>by cases h)
    ·cases h
     exact zx (path (o24 (zaG (ng h6) 14 (zds 16 ob))) (by kernel_rfl)) (fun h=>by cases h)
  ·cases h
   exact zx (path (zP (zq GBy.zl (l:=a17)) (zi h1 ob)) (by kernel_rfl)) (fun h=>by cases h)
theorem zdp.ok (ht:TabOk t call) (n:Nat) (a1 a2:List GStep) (a3 a4:Int) (a5:List ByteArray) (a6:List Int) (a7 a8:Int) (a9:ByteArray) (a10 a11:List zh) (a12:Int) (a13:List zh) (a14:List GPred) (a15:List (List GStep)) (a16:List GBy) (a17:List ByteArray) (a18:Int) (a19:List ByteArray) (a20:List Int) (a21 a22:Int) (a23:ByteArray) (a24 a25:List zh) (a26:Int) (a27:List zh) (a28:List GPred) (a29:List (List GStep)) (a30:List GBy) (a31:List ByteArray) (r:_) (h:zdp t n a1 a2 a3 a4 a5 a6 a7 a8 a9 a10 a11 a12 a13 a14 a15 a16 a17 a18 a19 a20 a21 a22 a23 a24 a25 a26 a27 a28 a29 a30 a31=some r):exec (env Tryd.prog 12 Tryd.f12 call) n (sub [1,1,0,1,0,0,1,0,0,1,1,1,1] (zt Tryd.f12)) (mkSt 177 177 [(0,(Sl 14 (GStep.ts a1))),(1,(Sl 14 (GStep.ts a2))),(5,(I6 a3)),(6,(.ptr 6 0 [] 0)),(7,(.ptr 7 0 [] 0))] [(6,(.t (.st [(.v (.int .i64 a4)),(.sl false 1 (texts a5)),(.sl false 1 (zB a6)),(.st [(.v (.int .i64 a7)),(.v (.int .i64 a8)),(.v (.string a9)),(.sl false 5 (zh.ts a10)),(.sl false 5 (zh.ts a11))]),(.st [(.v (.int .i64 a12)),(.sl false 5 (zh.ts a13)),(.sl false 3 (GPred.ts a14))]),(.sl false 1 (zo a15)),(.sl false 4 (GBy.ts a16)),(.sl false 1 (texts a17))]))),(7,(.t (.st [(.v (.int .i64 a18)),(.sl false 1 (texts a19)),(.sl false 1 (zB a20)),(.st [(.v (.int .i64 a21)),(.v (.int .i64 a22)),(.v (.string a23)),(.sl false 5 (zh.ts a24)),(.sl false 5 (zh.ts a25))]),(.st [(.v (.int .i64 a26)),(.sl false 5 (zh.ts a27)),(.sl false 3 (GPred.ts a28))]),(.sl false 1 (zo a29)),(.sl false 4 (GBy.ts a30)),(.sl false 1 (texts a31))])))])=some (zdp.to r):=by
 rw[zdp]at h
 obtain⟨a32 | ⟨a33,a34,a35,a36,a37,a38,a39,a40,a41,a42,a43,a44,a45,a46,a47,a48,a49,a50,a51,a52,a53,a54,a55,a56,a57,a58,a59,a60,a61,a62,a63,a64,a65⟩,h1,h⟩:=sm h
 ·cases h
  exact path (zbq (lk (sub [1,1,0,1,0,0,1,0,0,1,1,1,1,1,0] (zt Tryd.f12)) (by kernel_rfl) (zcP.okL ht n n _ _ _ _ _ _ _ _ _ _ _ _ _ _ _ _ _ _ _ _ _ _ _ _ _ _ _ _ _ _ _ _ _ h1)) ob) (by kernel_rfl)
 ·cases h
  exact path (zbq (lk (sub [1,1,0,1,0,0,1,0,0,1,1,1,1,1,0] (zt Tryd.f12)) (by kernel_rfl) (zcP.okL ht n n _ _ _ _ _ _ _ _ _ _ _ _ _ _ _ _ _ _ _ _ _ _ _ _ _ _ _ _ _ _ _ _ _ h1)) ob) (by kernel_rfl)
theorem zcQ.ok (ht:TabOk t call) (n:Nat) (a1 a2:List GStep) (a3 a4:Int) (a5:List ByteArray) (a6:List Int) (a7 a8:Int) (a9:ByteArray) (a10 a11:List zh) (a12:Int) (a13:List zh) (a14:List GPred) (a15:List (List GStep)) (a16:List GBy) (a17:List ByteArray) (a18:Int) (a19:List ByteArray) (a20:List Int) (a21 a22:Int) (a23:ByteArray) (a24 a25:List zh) (a26:Int) (a27:List zh) (a28:List GPred) (a29:List (List GStep)) (a30:List GBy) (a31:List ByteArray) (r:_) (h:zcQ t n a1 a2 a3 a4 a5 a6 a7 a8 a9 a10 a11 a12 a13 a14 a15 a16 a17 a18 a19 a20 a21 a22 a23 a24 a25 a26 a27 a28 a29 a30 a31=some r):exec (env Tryd.prog 12 Tryd.f12 call) n (sub [1,1,0,1,0,0,1,0,0,1,1,1] (zt Tryd.f12)) (mkSt 177 177 [(0,(Sl 14 (GStep.ts a1))),(1,(Sl 14 (GStep.ts a2))),(5,(I6 a3)),(6,(.ptr 6 0 [] 0)),(7,(.ptr 7 0 [] 0))] [(6,(.t (.st [(.v (.int .i64 a4)),(.sl false 1 (texts a5)),(.sl false 1 (zB a6)),(.st [(.v (.int .i64 a7)),(.v (.int .i64 a8)),(.v (.string a9)),(.sl false 5 (zh.ts a10)),(.sl false 5 (zh.ts a11))]),(.st [(.v (.int .i64 a12)),(.sl false 5 (zh.ts a13)),(.sl false 3 (GPred.ts a14))]),(.sl false 1 (zo a15)),(.sl false 4 (GBy.ts a16)),(.sl false 1 (texts a17))]))),(7,(.t (.st [(.v (.int .i64 a18)),(.sl false 1 (texts a19)),(.sl false 1 (zB a20)),(.st [(.v (.int .i64 a21)),(.v (.int .i64 a22)),(.v (.string a23)),(.sl false 5 (zh.ts a24)),(.sl false 5 (zh.ts a25))]),(.st [(.v (.int .i64 a26)),(.sl false 5 (zh.ts a27)),(.sl false 3 (GPred.ts a28))]),(.sl false 1 (zo a29)),(.sl false 4 (GBy.ts a30)),(.sl false 1 (texts a31))])))])=some (zcQ.to r):=by
 rw[zcQ]at h
 obtain⟨a32 | ⟨a33,a34,a35,a36,a37,a38,a39,a40,a41,a42,a43,a44,a45,a46,a47,a48,a49,a50,a51,a52,a53,a54,a55,a56,a57,a58,a59,a60,a61,a62,a63,a64,a65⟩,h1,h⟩:=sm h
 ·cases h
  exact path (zbq (lk (sub [1,1,0,1,0,0,1,0,0,1,1,1,0,1,0] (zt Tryd.f12)) (by kernel_rfl) (zcA.okL ht n n _ _ _ _ _ _ _ _ _ _ _ _ _ _ _ _ _ _ _ _ _ _ _ _ _ _ _ _ _ _ _ _ _ h1)) ob) (by kernel_rfl)
 ·have h2:=h
  rcases r with a66 | ⟨a67,a68,a69⟩
  ·exact path (zbq (lk (sub [1,1,0,1,0,0,1,0,0,1,1,1,0,1,0] (zt Tryd.f12)) (by kernel_rfl) (zcA.okL ht n n _ _ _ _ _ _ _ _ _ _ _ _ _ _ _ _ _ _ _ _ _ _ _ _ _ _ _ _ _ _ _ _ _ h1)) (zaw (zdp.ok ht n _ _ _ _ _ _ _ _ _ _ _ _ _ _ _ _ _ _ _ _ _ _ _ _ _ _ _ _ _ _ _ _ h2) ob)) (by kernel_rfl)
  ·exact path (zbq (lk (sub [1,1,0,1,0,0,1,0,0,1,1,1,0,1,0] (zt Tryd.f12)) (by kernel_rfl) (zcA.okL ht n n _ _ _ _ _ _ _ _ _ _ _ _ _ _ _ _ _ _ _ _ _ _ _ _ _ _ _ _ _ _ _ _ _ h1)) (zaw (zdp.ok ht n _ _ _ _ _ _ _ _ _ _ _ _ _ _ _ _ _ _ _ _ _ _ _ _ _ _ _ _ _ _ _ _ h2) ob)) (by kernel_rfl)
theorem zcR.okL (ht:TabOk t call) (n:Nat):∀(k:Nat) (a1 a2:List GStep) (a3:Int) (r:_),zcR t n k a1 a2 a3=some r→loopN (exec (env Tryd.prog 12 Tryd.f12 call) n (sub [1,1,0,1,0,0] (zt Tryd.f12))) k (mkSt 177 177 [(0,(Sl 14 (GStep.ts a1))),(1,(Sl 14 (GStep.ts a2))),(5,(I6 a3))] [])=some (zcR.to r)
 | 0,a1,a2,a3,r,h=>by rw[zcR]at h;cases h
 | k+1,a1,a2,a3,r,h=>by
  rw[zcR]at h
  rcases fk h with ⟨h1,h⟩ | ⟨h1,h⟩
  ·obtain⟨h2,h⟩:=ck h
   obtain⟨⟨a4,a5,a6,⟨a7,a8,a9,a10,a11⟩,⟨a12,a13,a14⟩,a15,a16,a17⟩,h3,h⟩:=sm h
   obtain⟨⟨a18,a19,a20,⟨a21,a22,a23,a24,a25⟩,⟨a26,a27,a28⟩,a29,a30,a31⟩,h4,h⟩:=sm h
   have o6 {os} (x:Obls (env Tryd.prog 12 Tryd.f12 call) n os):=zP (zq GStep.zl (l:=a1)) (zi h1 (zav h2 (zad (zu GStep.zl h3) (zav h2 (zad (zu GStep.zl h4) x)))))
   rcases fk h with ⟨h5,h⟩ | ⟨h5,h⟩
   ·cases h
    exact zx (path (o6 (zaG h5 7 (zds 45 ob))) (by kernel_rfl)) (fun h=>by cases h)
   ·obtain⟨a32,h6,h⟩:=sm h
    have o14 {os} (x:Obls (env Tryd.prog 12 Tryd.f12 call) n os):=o6 (zaG h5 5 (zZ (ht.zbR _ _ _ h6) (zaT h5 x)))
    rcases fk h with ⟨h7,h⟩ | ⟨h7,h⟩
    ·obtain⟨a33,h8,h⟩:=sm h
     have o22 {os} (x:Obls (env Tryd.prog 12 Tryd.f12 call) n os):=o14 (zaG (ng h7) 5 (zZ (ht.zb1 _ _ _ h8) (zaT (ng h7) x)))
     rcases fk h with ⟨h9,h⟩ | ⟨h9,h⟩
     ·obtain⟨a34,h10,h⟩:=sm h
      have o30 {os} (x:Obls (env Tryd.prog 12 Tryd.f12 call) n os):=o22 (zaG (ng h9) 5 (zZ (ht.zbR _ _ _ h10) (zaT (ng h9) x)))
      rcases fk h with ⟨h11,h⟩ | ⟨h11,h⟩
      ·obtain⟨a35,h12,h⟩:=sm h
       have o38 {os} (x:Obls (env Tryd.prog 12 Tryd.f12 call) n os):=o30 (zaG (ng h11) 5 (zZ (ht.zdl _ _ _ h12) (zaT (ng h11) x)))
       rcases fk h with ⟨h13,h⟩ | ⟨h13,h⟩
       ·obtain⟨a36,h14,h⟩:=sm h
        have o46 {os} (x:Obls (env Tryd.prog 12 Tryd.f12 call) n os):=o38 (zaG (ng h13) 5 (zZ (ht.zdm _ _ _ h14) (zaT (ng h13) x)))
        rcases fk h with ⟨h15,h⟩ | ⟨h15,h⟩
        ·have o56 {os} (x:Obls (env Tryd.prog 12 Tryd.f12 call) n os):=o46 (zV (ng h15) (zP (zq zw (l:=a15)) (zV (ng h15) (zP (zq zw (l:=a29)) (zaT (ng h15) x)))))
         rcases fk h with ⟨h16,h⟩ | ⟨h16,h⟩
         ·cases h
          exact zx (path (o56 (zaG h16 8 (zds 1 ob))) (by kernel_rfl)) (fun h=>by cases h)
         ·have o66 {os} (x:Obls (env Tryd.prog 12 Tryd.f12 call) n os):=o56 (zV h16 (zP (zq GBy.zl (l:=a16)) (zV h16 (zP (zq GBy.zl (l:=a30)) (zaT h16 x)))))
          rcases fk h with ⟨h17,h⟩ | ⟨h17,h⟩
          ·cases h
           exact zx (path (o66 (zi h17 ob)) (by kernel_rfl)) (fun h=>by cases h)
          ·obtain⟨a37 | ⟨a38,a39,a40⟩,h18,h⟩:=sm h
           ·cases h
            exact zx (path (o66 (zi h17 (zaw (zcQ.ok ht n _ _ _ _ _ _ _ _ _ _ _ _ _ _ _ _ _ _ _ _ _ _ _ _ _ _ _ _ _ _ _ _ h18) ob))) (by kernel_rfl)) (fun h=>by cases h)
           ·exact zT (path (o66 (zi h17 (zaw (zcQ.ok ht n _ _ _ _ _ _ _ _ _ _ _ _ _ _ _ _ _ _ _ _ _ _ _ _ _ _ _ _ _ _ _ _ h18) ob))) (by kernel_rfl)) (zcR.okL ht n k _ _ _ _ h)
        ·cases h
         exact zx (path (o46 (zaG (ng h15) 8 (zds 9 ob))) (by kernel_rfl)) (fun h=>by cases h)
       ·cases h
        exact zx (path (o38 (zaG (ng h13) 7 (zds 17 ob))) (by kernel_rfl)) (fun h=>by cases h)
      ·cases h
       exact zx (path (o30 (zaG (ng h11) 7 (zds 24 ob))) (by kernel_rfl)) (fun h=>by cases h)
     ·cases h
      exact zx (path (o22 (zaG (ng h9) 7 (zds 31 ob))) (by kernel_rfl)) (fun h=>by cases h)
    ·cases h
     exact zx (path (o14 (zaG (ng h7) 7 (zds 38 ob))) (by kernel_rfl)) (fun h=>by cases h)
  ·cases h
   exact zx (path (zP (zq GStep.zl (l:=a1)) (zi h1 ob)) (by kernel_rfl)) (fun h=>by cases h)
theorem zcJ.ok {n:Nat} {t:Tab} (ht:TabOk t (run Tryd.prog own kp X n)):∀(p1:List GStep) (p2:List GStep) r,zcJ t n p1 p2=some r→run Tryd.prog own kp X (n+1) 12 [(Sl 14 (GStep.ts p1)),(Sl 14 (GStep.ts p2))] []=some ((Bo r),[]):=by
 intro p1 p2 r h
 obtain⟨a1,rfl⟩:∃z_,z_=p1:=⟨_,rfl⟩
 obtain⟨a2,rfl⟩:∃z_,z_=p2:=⟨_,rfl⟩
 rw[zcJ]at h
 rcases fk h with ⟨h1,h⟩ | ⟨h1,h⟩
 ·cases h
  exact zk Tryd.func12 (zP (zq GStep.zl (l:=a1)) (zP (zq GStep.zl (l:=a2)) (zi h1 ob))) (by kernel_rfl)
 ·obtain⟨a3 | ⟨a4,a5,a6,a7⟩,h2,h⟩:=sm h
  ·cases h
   exact zk Tryd.func12 (zP (zq GStep.zl (l:=a1)) (zP (zq GStep.zl (l:=a2)) (zi h1 (zbq (lk (sub [1,1,0,1,0] (zt Tryd.f12)) (by kernel_rfl) (zcR.okL ht n n _ _ _ _ h2)) ob)))) (by kernel_rfl)
  ·cases h
   exact zk Tryd.func12 (zP (zq GStep.zl (l:=a1)) (zP (zq GStep.zl (l:=a2)) (zi h1 (zbq (lk (sub [1,1,0,1,0] (zt Tryd.f12)) (by kernel_rfl) (zcR.okL ht n n _ _ _ _ h2)) ob)))) (by kernel_rfl)
theorem zdH.ok {n:Nat} {t:Tab} (ht:TabOk t (run Tryd.prog own kp X n)):∀(p1:GProg) (p2:GProg) r,zdH t n p1 p2=some r→run Tryd.prog own kp X (n+1) 10 [(.t (GProg.t p1)),(.t (GProg.t p2))] []=some ((Bo r),[]):=by
 intro p1 p2 r h
 obtain⟨a1⟩:=p1
 obtain⟨a2⟩:=p2
 rw[zdH]at h
 obtain⟨a3,rfl⟩:∃z_,z_=r:=⟨_,rfl⟩
 have h1:=h
 exact zk Tryd.func10 (zZ (ht.zay _ _ _ h1) ob) (by kernel_rfl)
theorem zcm.ok {n:Nat} {t:Tab} (ht:TabOk t (run Tryd.prog own kp X n)):∀(p1:List GStep) r,zcm t n p1=some r→run Tryd.prog own kp X (n+1) 18 [(Sl 14 (GStep.ts p1))] []=some ((I6 r),[]):=by
 intro p1 r h
 obtain⟨a1,rfl⟩:∃z_,z_=p1:=⟨_,rfl⟩
 rw[zcm]at h
 obtain⟨a2,h1,h⟩:=sm h
 rcases fk h with ⟨h2,h⟩ | ⟨h2,h⟩
 ·cases h
  exact zk Tryd.func18 (zZ (ht.zcK _ _ h1) (zaV h2 (zds 1 ob))) (by kernel_rfl)
 ·obtain⟨a3,h3,h⟩:=sm h
  rcases fk h with ⟨h4,h⟩ | ⟨h4,h⟩
  ·cases h
   exact zk Tryd.func18 (zZ (ht.zcK _ _ h1) (zaT h2 (zZ (ht.zaY _ _ _ h3) (zaT h2 (zi (ng h4) ob))))) (by kernel_rfl)
  ·cases h
   exact zk Tryd.func18 (zZ (ht.zcK _ _ h1) (zaT h2 (zZ (ht.zaY _ _ _ h3) (zaT h2 (zi (ng h4) ob))))) (by kernel_rfl)
theorem zdb.ok {n:Nat} {t:Tab} (ht:TabOk t (run Tryd.prog own kp X n)):∀(p1:List GStep) r,zdb t n p1=some r→run Tryd.prog own kp X (n+1) 20 [(Sl 14 (GStep.ts p1))] []=some ((Sl 14 (GStep.ts r)),[]):=by
 intro p1 r h
 obtain⟨a1,rfl⟩:∃z_,z_=p1:=⟨_,rfl⟩
 rw[zdb]at h
 obtain⟨a2,rfl⟩:∃z_,z_=r:=⟨_,rfl⟩
 have h1:=h
 exact zk Tryd.func20 (zZ (ht.zaW _ _ _ h1) ob) (by kernel_rfl)
theorem zaX.okL (ht:TabOk t call) (n:Nat):∀(k:Nat) (a1:Int) (a2:List GStep) (a3 a4:Int) (a5:List (List GStep)) (a6 a7:Int) (u8:GStep) (a22:Int) (a23:List ByteArray) (a24:List Int) (u12:zh) (u13:GPred) (a33:List Int) (a34:List GKey) (a35:List ByteArray) (u17:zR) (r:_),zaX t n k a1 a2 a3 a4 a5 a6 a7 u8 a22 a23 a24 u12 u13 a33 a34 a35 u17=some r→loopN (exec (env Tryd.prog 19 Tryd.f19 call) n (sub [1,1,1,0,1,0,0,1,1,0,0,1,1,0,1,0,0] (zt Tryd.f19))) k (mkSt 110 111 [(0,(.ptr 110 0 [] 0)),(5,(I6 a1)),(7,(.ptr 7 0 [] 0)),(8,(.ptr 8 0 [] 0)),(28,(Sl 14 (GStep.ts a2))),(29,(I6 a3)),(30,(I6 a4)),(48,(Sl 1 (zo a5))),(49,(I6 a6)),(50,(I6 a7))] [(7,(.t (GStep.t u8))),(8,(.t (.st [(.v (.int .i64 a22)),(.sl false 1 (texts a23)),(.sl false 1 (zB a24)),(zh.t u12),(GPred.t u13),(.xl 1 (zB a33)),(.xl 4 (GKey.ts a34)),(.sl false 1 (texts a35))]))),(110,(.t (zR.x u17)))])=some (zaX.to r)
 | 0,a1,a2,a3,a4,a5,a6,a7,u8,a22,a23,a24,u12,u13,a33,a34,a35,u17,r,h=>by rw[zaX]at h;cases h
 | k+1,a1,a2,a3,a4,a5,a6,a7,⟨a8,a9,a10,⟨a11,a12,a13,a14,a15⟩,⟨a16,a17,a18⟩,a19,a20,a21⟩,a22,a23,a24,⟨a25,a26,a27,a28,a29⟩,⟨a30,a31,a32⟩,a33,a34,a35,⟨a36⟩,r,h=>by
  rw[zaX]at h
  rcases fk h with ⟨h1,h⟩ | ⟨h1,h⟩
  ·obtain⟨h2,h⟩:=ck h
   obtain⟨a37,h3,h⟩:=sm h
   obtain⟨⟨a38,⟨a39⟩⟩,h4,h⟩:=sm h
   obtain⟨h5,h⟩:=cl h
   exact zT (path (zi h1 (zav h2 (zad (zu zw h3) (zZ (ht.zaL _ _ _ h4) (zd0 (zdd zy h5) (zea (zdG zy (a:=a33) (b:=([a38]:List Int))) ob)))))) (by kernel_rfl)) (zaX.okL ht n k _ _ _ _ _ _ _ _ _ _ _ _ _ _ _ _ _ _ h)
  ·cases h
   exact zx (path (zi h1 ob) (by kernel_rfl)) (fun h=>by cases h)
theorem zbg.ok (ht:TabOk t call) (n:Nat) (a1:Int) (a2:List GStep) (a3 a4:Int) (a5:List GBy) (a6 a7 a8:Int) (a9:List ByteArray) (a10:List Int) (u11:zh) (u12:GPred) (a19:List Int) (a20:List GKey) (a21:List ByteArray) (u16:GKey) (u17:zR) (r:_) (h:zbg t n a1 a2 a3 a4 a5 a6 a7 a8 a9 a10 u11 u12 a19 a20 a21 u16 u17=some r):exec (env Tryd.prog 19 Tryd.f19 call) n (sub [1,1,1,0,1,0,0,1,1,0,0,1,1,1,0,1,0,0,1,1,0,0,1,1,1] (zt Tryd.f19)) (mkSt 110 111 [(0,(.ptr 110 0 [] 0)),(5,(I6 a1)),(8,(.ptr 8 0 [] 0)),(13,(.ptr 13 0 [] 0)),(28,(Sl 14 (GStep.ts a2))),(29,(I6 a3)),(30,(I6 a4)),(64,(Sl 4 (GBy.ts a5))),(65,(I6 a6)),(66,(I6 a7))] [(8,(.t (.st [(.v (.int .i64 a8)),(.sl false 1 (texts a9)),(.sl false 1 (zB a10)),(zh.t u11),(GPred.t u12),(.xl 1 (zB a19)),(.xl 4 (GKey.ts a20)),(.sl false 1 (texts a21))]))),(13,(.t (GKey.t u16))),(110,(.t (zR.x u17)))])=some (zbg.to r):=by
 obtain⟨a11,a12,a13,a14,a15⟩:=u11
 obtain⟨a16,a17,a18⟩:=u12
 obtain⟨a22,a23,a24,a25⟩:=u16
 obtain⟨a26⟩:=u17
 rw[zbg]at h
 obtain⟨h1,h⟩:=cl h
 cases h
 exact path (zd0 (zdd GKey.zl h1) (zea (zdG GKey.zl (a:=a20) (b:=([(GKey.mk a22 a23 a24 a25)]:List GKey))) ob)) (by kernel_rfl)
theorem zaE.okL (ht:TabOk t call) (n:Nat):∀(k:Nat) (a1:Int) (a2:List GStep) (a3 a4:Int) (a5:List GBy) (a6 a7 a8:Int) (a9:List ByteArray) (a10:List Int) (u11:zh) (u12:GPred) (a19:List Int) (a20:List GKey) (a21:List ByteArray) (u16:zR) (r:_),zaE t n k a1 a2 a3 a4 a5 a6 a7 a8 a9 a10 u11 u12 a19 a20 a21 u16=some r→loopN (exec (env Tryd.prog 19 Tryd.f19 call) n (sub [1,1,1,0,1,0,0,1,1,0,0,1,1,1,0,1,0,0] (zt Tryd.f19))) k (mkSt 110 111 [(0,(.ptr 110 0 [] 0)),(5,(I6 a1)),(8,(.ptr 8 0 [] 0)),(28,(Sl 14 (GStep.ts a2))),(29,(I6 a3)),(30,(I6 a4)),(64,(Sl 4 (GBy.ts a5))),(65,(I6 a6)),(66,(I6 a7))] [(8,(.t (.st [(.v (.int .i64 a8)),(.sl false 1 (texts a9)),(.sl false 1 (zB a10)),(zh.t u11),(GPred.t u12),(.xl 1 (zB a19)),(.xl 4 (GKey.ts a20)),(.sl false 1 (texts a21))]))),(110,(.t (zR.x u16)))])=some (zaE.to r)
 | 0,a1,a2,a3,a4,a5,a6,a7,a8,a9,a10,u11,u12,a19,a20,a21,u16,r,h=>by rw[zaE]at h;cases h
 | k+1,a1,a2,a3,a4,a5,a6,a7,a8,a9,a10,⟨a11,a12,a13,a14,a15⟩,⟨a16,a17,a18⟩,a19,a20,a21,⟨a22⟩,r,h=>by
  rw[zaE]at h
  rcases fk h with ⟨h1,h⟩ | ⟨h1,h⟩
  ·obtain⟨h2,h⟩:=ck h
   obtain⟨⟨a23,a24,a25,a26⟩,h3,h⟩:=sm h
   rcases fk h with ⟨h4,h⟩ | ⟨h4,h⟩
   ·obtain⟨⟨a27,⟨a28⟩⟩,h5,h⟩:=sm h
    obtain⟨⟨a29,a30,a31,a32,a33,a34,a35,a36,a37,a38,⟨a39,a40,a41,a42,a43⟩,⟨a44,a45,a46⟩,a47,a48,a49,⟨a50⟩⟩,h6,h⟩:=sm h
    exact zT (path (zi h1 (zav h2 (zad (zu GBy.zl h3) (zi h4 (zZ (ht.zaL _ _ _ h5) (zaw (zbg.ok ht n _ _ _ _ _ _ _ _ _ _ _ _ _ _ _ _ _ _ h6) ob)))))) (by kernel_rfl)) (zaE.okL ht n k _ _ _ _ _ _ _ _ _ _ _ _ _ _ _ _ _ h)
   ·obtain⟨⟨a51,a52,a53,a54,a55,a56,a57,a58,a59,a60,⟨a61,a62,a63,a64,a65⟩,⟨a66,a67,a68⟩,a69,a70,a71,⟨a72⟩⟩,h7,h⟩:=sm h
    exact zT (path (zi h1 (zav h2 (zad (zu GBy.zl h3) (zi h4 (zaw (zbg.ok ht n _ _ _ _ _ _ _ _ _ _ _ _ _ _ _ _ _ _ h7) ob))))) (by kernel_rfl)) (zaE.okL ht n k _ _ _ _ _ _ _ _ _ _ _ _ _ _ _ _ _ h)
  ·cases h
   exact zx (path (zi h1 ob) (by kernel_rfl)) (fun h=>by cases h)
theorem zb9.ok (ht:TabOk t call) (n:Nat) (a1:Int) (a2:List GStep) (a3 a4:Int) (u5:GCode) (u6:zR) (r:_) (h:zb9 t n a1 a2 a3 a4 u5 u6=some r):exec (env Tryd.prog 19 Tryd.f19 call) n (sub [1,1,1,0,1,0,0,1,1,0,0,1,1,1,1] (zt Tryd.f19)) (mkSt 110 111 [(0,(.ptr 110 0 [] 0)),(5,(I6 a1)),(8,(.ptr 8 0 [] 0)),(28,(Sl 14 (GStep.ts a2))),(29,(I6 a3)),(30,(I6 a4))] [(8,(.t (GCode.t u5))),(110,(.t (zR.x u6)))])=some (zb9.to r):=by
 obtain⟨a5,a6,a7,⟨a8,a9,a10,a11,a12⟩,⟨a13,a14,a15⟩,a16,a17,a18⟩:=u5
 obtain⟨a19⟩:=u6
 rw[zb9]at h
 obtain⟨h1,h⟩:=ck h
 obtain⟨a20,h2,h⟩:=sm h
 obtain⟨h3,h⟩:=cl h
 cases h
 exact path (zad (zdg (fs:=[(.xl 1 (zG a19))]) (i:=0) rfl (zcM _)) (zav h1 (zad (zu zA h2) (zad (zdg (fs:=[(.xl 1 (zG a19))]) (i:=0) rfl (zfJ 1 (zu zA h2) (zcM _))) (zad (zdg (fs:=[(.xl 1 (zG a19))]) (i:=0) rfl (zfJ 1 (zu zA h2) (zcM _))) (zad (zfK (fs:=[(.xl 1 (zG a19))]) (i:=0) rfl (zhI 1 zA h2 (zeU _ .op))) (zd0 (zdd GCode.zl h3) (zea (zdG GCode.zl (a:=a20) (b:=([(GCode.mk a5 a6 a7 (zh.mk a8 a9 a10 a11 a12) (GPred.mk a13 a14 a15) a16 a17 a18)]:List GCode))) (zad (zdg (fs:=[(.xl 1 (List.set (zG a19) ((a1:Int).toNat) .op))]) (i:=0) rfl (zcM _)) (zav h1 (zad (zf3 (z:=.op) zA h2) (zad (zdg (fs:=[(.xl 1 (List.set (zG a19) ((a1:Int).toNat) .op))]) (i:=0) rfl (zj4 1 zA h2 (zcM _))) (zad (zfK (fs:=[(.xl 1 (List.set (zG a19) ((a1:Int).toNat) .op))]) (i:=0) rfl (zj5 1 zA (a20++([(GCode.mk a5 a6 a7 (zh.mk a8 a9 a10 a11 a12) (GPred.mk a13 a14 a15) a16 a17 a18)]:List GCode)) h2 (zeU _ (.xl 14 (GCode.ts (a20++([(GCode.mk a5 a6 a7 (zh.mk a8 a9 a10 a11 a12) (GPred.mk a13 a14 a15) a16 a17 a18)]:List GCode))))))) ob))))))))))))) (by kernel_rfl)
theorem zcs.ok (ht:TabOk t call) (n:Nat) (a1:Int) (a2:List GStep) (a3 a4:Int) (u5:GStep) (a19:Int) (a20:List ByteArray) (a21:List Int) (u9:zh) (u10:GPred) (a30:List Int) (a31:List GKey) (a32:List ByteArray) (u14:zR) (r:_) (h:zcs t n a1 a2 a3 a4 u5 a19 a20 a21 u9 u10 a30 a31 a32 u14=some r):exec (env Tryd.prog 19 Tryd.f19 call) n (sub [1,1,1,0,1,0,0,1,1,0,0,1,1,1] (zt Tryd.f19)) (mkSt 110 111 [(0,(.ptr 110 0 [] 0)),(5,(I6 a1)),(7,(.ptr 7 0 [] 0)),(8,(.ptr 8 0 [] 0)),(28,(Sl 14 (GStep.ts a2))),(29,(I6 a3)),(30,(I6 a4))] [(7,(.t (GStep.t u5))),(8,(.t (.st [(.v (.int .i64 a19)),(.sl false 1 (texts a20)),(.sl false 1 (zB a21)),(zh.t u9),(GPred.t u10),(.xl 1 (zB a30)),(.xl 4 (GKey.ts a31)),(.sl false 1 (texts a32))]))),(110,(.t (zR.x u14)))])=some (zcs.to r):=by
 obtain⟨a5,a6,a7,⟨a8,a9,a10,a11,a12⟩,⟨a13,a14,a15⟩,a16,a17,a18⟩:=u5
 obtain⟨a22,a23,a24,a25,a26⟩:=u9
 obtain⟨a27,a28,a29⟩:=u10
 obtain⟨a33⟩:=u14
 rw[zcs]at h
 obtain⟨⟨a34,a35,a36,a37,a38,a39,a40,a41,a42,a43,a44,⟨a45,a46,a47,a48,a49⟩,⟨a50,a51,a52⟩,a53,a54,a55,⟨a56⟩⟩,h1,h⟩:=sm h
 obtain⟨a57,a58,a59,a60,⟨a61⟩⟩:=r
 have h2:=h
 exact path (zP (zq GBy.zl (l:=a17)) (zbq (lk (sub [1,1,1,0,1,0,0,1,1,0,0,1,1,1,0,1,0] (zt Tryd.f19)) (by kernel_rfl) (zaE.okL ht n n _ _ _ _ _ _ _ _ _ _ _ _ _ _ _ _ _ h1)) (zea (zgN (l:=a53)) (zea (GKey.zfN (l:=a54)) (zaw (zb9.ok ht n _ _ _ _ _ _ _ h2) ob))))) (by kernel_rfl)
theorem zaH.okL (ht:TabOk t call) (n:Nat):∀(k:Nat) (a1:Int) (a2:List GStep) (a3 a4:Int) (u5:zR) (r:_),zaH t n k a1 a2 a3 a4 u5=some r→loopN (exec (env Tryd.prog 19 Tryd.f19 call) n (sub [1,1,1,0,1,0,0] (zt Tryd.f19))) k (mkSt 110 111 [(0,(.ptr 110 0 [] 0)),(5,(I6 a1)),(28,(Sl 14 (GStep.ts a2))),(29,(I6 a3)),(30,(I6 a4))] [(110,(.t (zR.x u5)))])=some (zaH.to r)
 | 0,a1,a2,a3,a4,u5,r,h=>by rw[zaH]at h;cases h
 | k+1,a1,a2,a3,a4,⟨a5⟩,r,h=>by
  rw[zaH]at h
  rcases fk h with ⟨h1,h⟩ | ⟨h1,h⟩
  ·obtain⟨h2,h⟩:=ck h
   obtain⟨⟨a6,a7,a8,⟨a9,a10,a11,a12,a13⟩,⟨a14,a15,a16⟩,a17,a18,a19⟩,h3,h⟩:=sm h
   obtain⟨⟨a20,a21,a22,a23,a24,a25,a26,a27,⟨a28,a29,a30,⟨a31,a32,a33,a34,a35⟩,⟨a36,a37,a38⟩,a39,a40,a41⟩,a42,a43,a44,⟨a45,a46,a47,a48,a49⟩,⟨a50,a51,a52⟩,a53,a54,a55,⟨a56⟩⟩,h4,h⟩:=sm h
   obtain⟨⟨a57,a58,a59,a60,⟨a61⟩⟩,h5,h⟩:=sm h
   exact zT (path (zi h1 (zav h2 (zad (zu GStep.zl h3) (zP (zq zw (l:=a17)) (zbq (lk (sub [1,1,1,0,1,0,0,1,1,0,0,1,1,0,1,0] (zt Tryd.f19)) (by kernel_rfl) (zaX.okL ht n n _ _ _ _ _ _ _ _ _ _ _ _ _ _ _ _ _ _ h4)) (zaw (zcs.ok ht n _ _ _ _ _ _ _ _ _ _ _ _ _ _ _ h5) ob)))))) (by kernel_rfl)) (zaH.okL ht n k _ _ _ _ _ _ h)
  ·cases h
   exact zx (path (zi h1 ob) (by kernel_rfl)) (fun h=>by cases h)
theorem zaL.ok {n:Nat} {t:Tab} (ht:TabOk t (run Tryd.prog own kp X n)):∀(p1:List GStep) (p2:zR) r,zaL t n p1 p2=some r→run Tryd.prog own kp X (n+1) 19 [(.ptr 0 0 [] 0),(Sl 14 (GStep.ts p1))] [(.t (zR.x p2))]=some ((I6 r.1),[(.t (zR.x r.2))]):=by
 intro p1 p2 r h
 obtain⟨a1,rfl⟩:∃z_,z_=p1:=⟨_,rfl⟩
 obtain⟨a2⟩:=p2
 rw[zaL]at h
 obtain⟨h1,h⟩:=cl h
 obtain⟨⟨a3,a4,a5,a6,a7,⟨a8⟩⟩,h2,h⟩:=sm h
 cases h
 exact zk Tryd.func19 (zad (zdg (fs:=[(.xl 1 (zG a2))]) (i:=0) rfl (zcM _)) (zP (zq zA (l:=a2)) (zd0 (zdd zA h1) (zea (zdG zA (a:=a2) (b:=([([]:List GCode)]:List (List GCode)))) (zP (zq GStep.zl (l:=a1)) (zbq (lk (sub [1,1,1,0,1,0] (zt Tryd.f19)) (by kernel_rfl) (zaH.okL ht n n _ _ _ _ _ _ h2)) ob)))))) (by kernel_rfl)
theorem zam.okL (ht:TabOk t call) (n:Nat):∀(k:Nat) (a1:List GStep) (a2:List GCode) (a3 a4:Int) (a5:List Int) (a6 a7:Int) (u8:GCode) (a22:Int) (a23:List ByteArray) (a24:List Int) (u12:zh) (u13:GPred) (a33:List (List GStep)) (a34:List GBy) (a35:List ByteArray) (u17:zF) (r:_),zam t n k a1 a2 a3 a4 a5 a6 a7 u8 a22 a23 a24 u12 u13 a33 a34 a35 u17=some r→loopN (exec (env Tryd.prog 32 Tryd.f32 call) n (sub [1,1,1,1,0,1,0,0,1,1,0,0,1,1,0,1,0,0] (zt Tryd.f32))) k (mkSt 132 133 [(0,(.ptr 132 0 [] 0)),(6,(.t (.sl true 14 (GStep.ts a1)))),(8,(.ptr 8 0 [] 0)),(9,(.ptr 9 0 [] 0)),(47,(Sl 14 (GCode.ts a2))),(48,(I6 a3)),(49,(I6 a4)),(67,(Sl 1 (zB a5))),(68,(I6 a6)),(69,(I6 a7))] [(8,(.t (GCode.t u8))),(9,(.t (.st [(.v (.int .i64 a22)),(.sl false 1 (texts a23)),(.sl false 1 (zB a24)),(zh.t u12),(GPred.t u13),(.sl true 1 (zo a33)),(.sl true 4 (GBy.ts a34)),(.sl false 1 (texts a35))]))),(132,(.t (zF.t u17)))])=some (zam.to r)
 | 0,a1,a2,a3,a4,a5,a6,a7,u8,a22,a23,a24,u12,u13,a33,a34,a35,u17,r,h=>by rw[zam]at h;cases h
 | k+1,a1,a2,a3,a4,a5,a6,a7,⟨a8,a9,a10,⟨a11,a12,a13,a14,a15⟩,⟨a16,a17,a18⟩,a19,a20,a21⟩,a22,a23,a24,⟨a25,a26,a27,a28,a29⟩,⟨a30,a31,a32⟩,a33,a34,a35,⟨a36,a37⟩,r,h=>by
  rw[zam]at h
  rcases fk h with ⟨h1,h⟩ | ⟨h1,h⟩
  ·obtain⟨h2,h⟩:=ck h
   obtain⟨a38,h3,h⟩:=sm h
   obtain⟨⟨a39,a40,⟨a41,a42⟩⟩,h4,h⟩:=sm h
   rcases fk h with ⟨h5,h⟩ | ⟨h5,h⟩
   ·obtain⟨h6,h⟩:=cl h
    exact zT (path (zi h1 (zav h2 (zad (zu zy h3) (zZ (ht.zaf _ _ _ h4) (zi (ng h5) (zd0 (zdd zw h6) (zea (zdG zw (a:=a33) (b:=([a39]:List (List GStep)))) ob))))))) (by kernel_rfl)) (zam.okL ht n k _ _ _ _ _ _ _ _ _ _ _ _ _ _ _ _ _ _ h)
   ·cases h
    exact zx (path (zi h1 (zav h2 (zad (zu zy h3) (zZ (ht.zaf _ _ _ h4) (zi (ng h5) ob))))) (by kernel_rfl)) (fun h=>by cases h)
  ·cases h
   exact zx (path (zi h1 ob) (by kernel_rfl)) (fun h=>by cases h)
theorem zaI.ok (ht:TabOk t call) (n:Nat) (a1:List GStep) (a2:List GCode) (a3 a4:Int) (a5:List GKey) (a6 a7 a8:Int) (a9:List ByteArray) (a10:List Int) (u11:zh) (u12:GPred) (a19:List (List GStep)) (a20:List GBy) (a21:List ByteArray) (u16:GBy) (u17:zF) (r:_) (h:zaI t n a1 a2 a3 a4 a5 a6 a7 a8 a9 a10 u11 u12 a19 a20 a21 u16 u17=some r):exec (env Tryd.prog 32 Tryd.f32 call) n (sub [1,1,1,1,0,1,0,0,1,1,0,0,1,1,1,0,1,0,0,1,1,0,0,1,1,1] (zt Tryd.f32)) (mkSt 132 133 [(0,(.ptr 132 0 [] 0)),(6,(.t (.sl true 14 (GStep.ts a1)))),(9,(.ptr 9 0 [] 0)),(16,(.ptr 16 0 [] 0)),(47,(Sl 14 (GCode.ts a2))),(48,(I6 a3)),(49,(I6 a4)),(89,(Sl 4 (GKey.ts a5))),(90,(I6 a6)),(91,(I6 a7))] [(9,(.t (.st [(.v (.int .i64 a8)),(.sl false 1 (texts a9)),(.sl false 1 (zB a10)),(zh.t u11),(GPred.t u12),(.sl true 1 (zo a19)),(.sl true 4 (GBy.ts a20)),(.sl false 1 (texts a21))]))),(16,(.t (GBy.t u16))),(132,(.t (zF.t u17)))])=some (zaI.to r):=by
 obtain⟨a11,a12,a13,a14,a15⟩:=u11
 obtain⟨a16,a17,a18⟩:=u12
 obtain⟨a22,a23,a24,a25⟩:=u16
 obtain⟨a26,a27⟩:=u17
 rw[zaI]at h
 obtain⟨h1,h⟩:=cl h
 cases h
 exact path (zd0 (zdd GBy.zl h1) (zea (zdG GBy.zl (a:=a20) (b:=([(GBy.mk a22 a23 a24 a25)]:List GBy))) ob)) (by kernel_rfl)
theorem zU.okL (ht:TabOk t call) (n:Nat):∀(k:Nat) (a1:List GStep) (a2:List GCode) (a3 a4:Int) (a5:List GKey) (a6 a7 a8:Int) (a9:List ByteArray) (a10:List Int) (u11:zh) (u12:GPred) (a19:List (List GStep)) (a20:List GBy) (a21:List ByteArray) (u16:zF) (r:_),zU t n k a1 a2 a3 a4 a5 a6 a7 a8 a9 a10 u11 u12 a19 a20 a21 u16=some r→loopN (exec (env Tryd.prog 32 Tryd.f32 call) n (sub [1,1,1,1,0,1,0,0,1,1,0,0,1,1,1,0,1,0,0] (zt Tryd.f32))) k (mkSt 132 133 [(0,(.ptr 132 0 [] 0)),(6,(.t (.sl true 14 (GStep.ts a1)))),(9,(.ptr 9 0 [] 0)),(47,(Sl 14 (GCode.ts a2))),(48,(I6 a3)),(49,(I6 a4)),(89,(Sl 4 (GKey.ts a5))),(90,(I6 a6)),(91,(I6 a7))] [(9,(.t (.st [(.v (.int .i64 a8)),(.sl false 1 (texts a9)),(.sl false 1 (zB a10)),(zh.t u11),(GPred.t u12),(.sl true 1 (zo a19)),(.sl true 4 (GBy.ts a20)),(.sl false 1 (texts a21))]))),(132,(.t (zF.t u16)))])=some (zU.to r)
 | 0,a1,a2,a3,a4,a5,a6,a7,a8,a9,a10,u11,u12,a19,a20,a21,u16,r,h=>by rw[zU]at h;cases h
 | k+1,a1,a2,a3,a4,a5,a6,a7,a8,a9,a10,⟨a11,a12,a13,a14,a15⟩,⟨a16,a17,a18⟩,a19,a20,a21,⟨a22,a23⟩,r,h=>by
  rw[zU]at h
  rcases fk h with ⟨h1,h⟩ | ⟨h1,h⟩
  ·obtain⟨h2,h⟩:=ck h
   obtain⟨⟨a24,a25,a26,a27⟩,h3,h⟩:=sm h
   rcases fk h with ⟨h4,h⟩ | ⟨h4,h⟩
   ·obtain⟨⟨a28,a29,⟨a30,a31⟩⟩,h5,h⟩:=sm h
    rcases fk h with ⟨h6,h⟩ | ⟨h6,h⟩
    ·obtain⟨⟨a32,a33,a34,a35,a36,a37,a38,a39,a40,a41,⟨a42,a43,a44,a45,a46⟩,⟨a47,a48,a49⟩,a50,a51,a52,⟨a53,a54⟩⟩,h7,h⟩:=sm h
     exact zT (path (zi h1 (zav h2 (zad (zu GKey.zl h3) (zi h4 (zZ (ht.zaf _ _ _ h5) (zi (ng h6) (zaw (zaI.ok ht n _ _ _ _ _ _ _ _ _ _ _ _ _ _ _ _ _ _ h7) ob))))))) (by kernel_rfl)) (zU.okL ht n k _ _ _ _ _ _ _ _ _ _ _ _ _ _ _ _ _ h)
    ·cases h
     exact zx (path (zi h1 (zav h2 (zad (zu GKey.zl h3) (zi h4 (zZ (ht.zaf _ _ _ h5) (zi (ng h6) ob)))))) (by kernel_rfl)) (fun h=>by cases h)
   ·rcases fk h with ⟨h8,h⟩ | ⟨h8,h⟩
    ·cases h
     exact zx (path (zi h1 (zav h2 (zad (zu GKey.zl h3) (zi h4 (zi h8 ob))))) (by kernel_rfl)) (fun h=>by cases h)
    ·obtain⟨⟨a55,a56,a57,a58,a59,a60,a61,a62,a63,a64,⟨a65,a66,a67,a68,a69⟩,⟨a70,a71,a72⟩,a73,a74,a75,⟨a76,a77⟩⟩,h9,h⟩:=sm h
     exact zT (path (zi h1 (zav h2 (zad (zu GKey.zl h3) (zi h4 (zi h8 (zaw (zaI.ok ht n _ _ _ _ _ _ _ _ _ _ _ _ _ _ _ _ _ _ h9) ob)))))) (by kernel_rfl)) (zU.okL ht n k _ _ _ _ _ _ _ _ _ _ _ _ _ _ _ _ _ h)
  ·cases h
   exact zx (path (zi h1 ob) (by kernel_rfl)) (fun h=>by cases h)
theorem za7.ok (ht:TabOk t call) (n:Nat) (a1:List GStep) (a2:List GCode) (a3 a4 a5:Int) (a6:List ByteArray) (a7:List Int) (u8:zh) (u9:GPred) (a16:List (List GStep)) (a17:List GBy) (a18:List ByteArray) (u13:zF) (r:_) (h:za7 t n a1 a2 a3 a4 a5 a6 a7 u8 u9 a16 a17 a18 u13=some r):exec (env Tryd.prog 32 Tryd.f32 call) n (sub [1,1,1,1,0,1,0,0,1,1,0,0,1,1,1,1] (zt Tryd.f32)) (mkSt 132 133 [(0,(.ptr 132 0 [] 0)),(6,(.t (.sl true 14 (GStep.ts a1)))),(9,(.ptr 9 0 [] 0)),(47,(Sl 14 (GCode.ts a2))),(48,(I6 a3)),(49,(I6 a4))] [(9,(.t (.st [(.v (.int .i64 a5)),(.sl false 1 (texts a6)),(.sl false 1 (zB a7)),(zh.t u8),(GPred.t u9),(.sl true 1 (zo a16)),(.sl true 4 (GBy.ts a17)),(.sl false 1 (texts a18))]))),(132,(.t (zF.t u13)))])=some (za7.to r):=by
 obtain⟨a8,a9,a10,a11,a12⟩:=u8
 obtain⟨a13,a14,a15⟩:=u9
 obtain⟨a19,a20⟩:=u13
 rw[za7]at h
 obtain⟨h1,h⟩:=cl h
 cases h
 exact path (zd0 (zdd GStep.zl h1) (zea (zdG GStep.zl (a:=a1) (b:=([(GStep.mk a5 a6 a7 (zh.mk a8 a9 a10 a11 a12) (GPred.mk a13 a14 a15) a16 a17 a18)]:List GStep))) ob)) (by kernel_rfl)
theorem zaR.ok (ht:TabOk t call) (n:Nat) (a1:List GStep) (a2:List GCode) (a3 a4:Int) (u5:GCode) (a19:Int) (a20:List ByteArray) (a21:List Int) (u9:zh) (u10:GPred) (a30:List (List GStep)) (a31:List GBy) (a32:List ByteArray) (u14:zF) (r:_) (h:zaR t n a1 a2 a3 a4 u5 a19 a20 a21 u9 u10 a30 a31 a32 u14=some r):exec (env Tryd.prog 32 Tryd.f32 call) n (sub [1,1,1,1,0,1,0,0,1,1,0,0,1,1,1] (zt Tryd.f32)) (mkSt 132 133 [(0,(.ptr 132 0 [] 0)),(6,(.t (.sl true 14 (GStep.ts a1)))),(8,(.ptr 8 0 [] 0)),(9,(.ptr 9 0 [] 0)),(47,(Sl 14 (GCode.ts a2))),(48,(I6 a3)),(49,(I6 a4))] [(8,(.t (GCode.t u5))),(9,(.t (.st [(.v (.int .i64 a19)),(.sl false 1 (texts a20)),(.sl false 1 (zB a21)),(zh.t u9),(GPred.t u10),(.sl true 1 (zo a30)),(.sl true 4 (GBy.ts a31)),(.sl false 1 (texts a32))]))),(132,(.t (zF.t u14)))])=some (zaR.to r):=by
 obtain⟨a5,a6,a7,⟨a8,a9,a10,a11,a12⟩,⟨a13,a14,a15⟩,a16,a17,a18⟩:=u5
 obtain⟨a22,a23,a24,a25,a26⟩:=u9
 obtain⟨a27,a28,a29⟩:=u10
 obtain⟨a33,a34⟩:=u14
 rw[zaR]at h
 obtain⟨⟨a35,a36,⟨a37,a38⟩⟩ | ⟨a39,a40,a41,a42,a43,a44,a45,a46,a47,a48,a49,⟨a50,a51,a52,a53,a54⟩,⟨a55,a56,a57⟩,a58,a59,a60,⟨a61,a62⟩⟩,h1,h⟩:=sm h
 ·cases h
  exact path (zP (zq GKey.zl (l:=a17)) (zbq (lk (sub [1,1,1,1,0,1,0,0,1,1,0,0,1,1,1,0,1,0] (zt Tryd.f32)) (by kernel_rfl) (zU.okL ht n n _ _ _ _ _ _ _ _ _ _ _ _ _ _ _ _ _ h1)) ob)) (by kernel_rfl)
 ·obtain⟨⟨a63,a64,a65,a66,⟨a67,a68⟩⟩,h2,h⟩:=sm h
  cases h
  exact path (zP (zq GKey.zl (l:=a17)) (zbq (lk (sub [1,1,1,1,0,1,0,0,1,1,0,0,1,1,1,0,1,0] (zt Tryd.f32)) (by kernel_rfl) (zU.okL ht n n _ _ _ _ _ _ _ _ _ _ _ _ _ _ _ _ _ h1)) (zaw (za7.ok ht n _ _ _ _ _ _ _ _ _ _ _ _ _ _ h2) ob))) (by kernel_rfl)
theorem zan.okL (ht:TabOk t call) (n:Nat):∀(k:Nat) (a1:List GStep) (a2:List GCode) (a3 a4:Int) (u5:zF) (r:_),zan t n k a1 a2 a3 a4 u5=some r→loopN (exec (env Tryd.prog 32 Tryd.f32 call) n (sub [1,1,1,1,0,1,0,0] (zt Tryd.f32))) k (mkSt 132 133 [(0,(.ptr 132 0 [] 0)),(6,(.t (.sl true 14 (GStep.ts a1)))),(47,(Sl 14 (GCode.ts a2))),(48,(I6 a3)),(49,(I6 a4))] [(132,(.t (zF.t u5)))])=some (zan.to r)
 | 0,a1,a2,a3,a4,u5,r,h=>by rw[zan]at h;cases h
 | k+1,a1,a2,a3,a4,⟨a5,a6⟩,r,h=>by
  rw[zan]at h
  rcases fk h with ⟨h1,h⟩ | ⟨h1,h⟩
  ·obtain⟨h2,h⟩:=ck h
   obtain⟨⟨a7,a8,a9,⟨a10,a11,a12,a13,a14⟩,⟨a15,a16,a17⟩,a18,a19,a20⟩,h3,h⟩:=sm h
   have o4 {os} (x:Obls (env Tryd.prog 32 Tryd.f32 call) n os):=zi h1 (zav h2 (zad (zu GCode.zl h3) (zP (zq zy (l:=a18)) x)))
   obtain⟨⟨a21,a22,⟨a23,a24⟩⟩ | ⟨a25,a26,a27,a28,a29,a30,a31,a32,⟨a33,a34,a35,⟨a36,a37,a38,a39,a40⟩,⟨a41,a42,a43⟩,a44,a45,a46⟩,a47,a48,a49,⟨a50,a51,a52,a53,a54⟩,⟨a55,a56,a57⟩,a58,a59,a60,⟨a61,a62⟩⟩,h4,h⟩:=sm h
   ·cases h
    exact zx (path (o4 (zbq (lk (sub [1,1,1,1,0,1,0,0,1,1,0,0,1,1,0,1,0] (zt Tryd.f32)) (by kernel_rfl) (zam.okL ht n n _ _ _ _ _ _ _ _ _ _ _ _ _ _ _ _ _ _ h4)) ob)) (by kernel_rfl)) (fun h=>by cases h)
   ·obtain⟨⟨a63,a64,⟨a65,a66⟩⟩ | ⟨a67,a68,a69,a70,⟨a71,a72⟩⟩,h5,h⟩:=sm h
    ·cases h
     exact zx (path (o4 (zbq (lk (sub [1,1,1,1,0,1,0,0,1,1,0,0,1,1,0,1,0] (zt Tryd.f32)) (by kernel_rfl) (zam.okL ht n n _ _ _ _ _ _ _ _ _ _ _ _ _ _ _ _ _ _ h4)) (zaw (zaR.ok ht n _ _ _ _ _ _ _ _ _ _ _ _ _ _ _ h5) ob))) (by kernel_rfl)) (fun h=>by cases h)
    ·exact zT (path (o4 (zbq (lk (sub [1,1,1,1,0,1,0,0,1,1,0,0,1,1,0,1,0] (zt Tryd.f32)) (by kernel_rfl) (zam.okL ht n n _ _ _ _ _ _ _ _ _ _ _ _ _ _ _ _ _ _ h4)) (zaw (zaR.ok ht n _ _ _ _ _ _ _ _ _ _ _ _ _ _ _ h5) ob))) (by kernel_rfl)) (zan.okL ht n k _ _ _ _ _ _ h)
  ·cases h
   exact zx (path (zi h1 ob) (by kernel_rfl)) (fun h=>by cases h)
theorem zaZ.ok (ht:TabOk t call) (n:Nat) (a1:Int) (u2:zF) (r:_) (h:zaZ t n a1 u2=some r):exec (env Tryd.prog 32 Tryd.f32 call) n (sub [1,1] (zt Tryd.f32)) (mkSt 132 133 [(0,(.ptr 132 0 [] 0)),(1,(I6 a1))] [(132,(.t (zF.t u2)))])=some (zaZ.to r):=by
 obtain⟨a2,a3⟩:=u2
 rw[zaZ]at h
 obtain⟨h1,h⟩:=ck h
 obtain⟨a4,h2,h⟩:=sm h
 obtain⟨⟨a5,a6,⟨a7,a8⟩⟩ | ⟨a9,a10,a11,a12,a13,⟨a14,a15⟩⟩,h3,h⟩:=sm h
 ·cases h
  exact path (zav h1 (zad (zu zaj h2) (zP (zq GCode.zl (l:=a4)) (zbq (lk (sub [1,1,1,1,0,1,0] (zt Tryd.f32)) (by kernel_rfl) (zan.okL ht n n _ _ _ _ _ _ h3)) ob)))) (by kernel_rfl)
 ·cases h
  exact path (zav h1 (zad (zu zaj h2) (zP (zq GCode.zl (l:=a4)) (zbq (lk (sub [1,1,1,1,0,1,0] (zt Tryd.f32)) (by kernel_rfl) (zan.okL ht n n _ _ _ _ _ _ h3)) ob)))) (by kernel_rfl)
theorem zaf.ok {n:Nat} {t:Tab} (ht:TabOk t (run Tryd.prog own kp X n)):∀(p1:Int) (p2:zF) r,zaf t n p1 p2=some r→run Tryd.prog own kp X (n+1) 32 [(.ptr 0 0 [] 0),(I6 p1)] [(.t (zF.t p2))]=some ((.tup [(.sl false 14 (GStep.ts r.1)),(.v (.bool r.2.1))]),[(.t (zF.t r.2.2))]):=by
 intro p1 p2 r h
 obtain⟨a1,rfl⟩:∃z_,z_=p1:=⟨_,rfl⟩
 obtain⟨a2,a3⟩:=p2
 rw[zaf]at h
 rcases fk h with ⟨h1,h⟩ | ⟨h1,h⟩
 ·cases h
  exact zk Tryd.func32 (zaG h1 8 (zds 1 ob)) (by kernel_rfl)
 ·rcases fk h with ⟨h2,h⟩ | ⟨h2,h⟩
  ·cases h
   exact zk Tryd.func32 (zaG h1 6 (zP (zq zaj (l:=a2)) (zaT h1 (zi h2 ob)))) (by kernel_rfl)
  ·obtain⟨⟨a4,a5,⟨a6,a7⟩⟩,h3,h⟩:=sm h
   cases h
   exact zk Tryd.func32 (zaG h1 6 (zP (zq zaj (l:=a2)) (zaT h1 (zi h2 (zaw (zaZ.ok ht n _ _ _ h3) ob))))) (by kernel_rfl)
theorem zct.ok (ht:TabOk t call) (n:Nat) (a1 a2 a3 a4 a5:Int) (a6:ByteArray) (a7 a8:List zh) (r:_) (h:zct t n a1 a2 a3 a4 a5 a6 a7 a8=some r):exec (env Tryd.prog 33 Tryd.f33 call) n (sub [1,1,0,1,0,0,1] (zt Tryd.f33)) (mkSt 60 60 [(1,(I6 a1)),(2,(.ptr 2 0 [] 0)),(5,(I6 a2)),(6,(I6 a3))] [(2,(.t (.st [(.v (.int .i64 a4)),(.v (.int .i64 a5)),(.v (.string a6)),(.sl false 5 (zh.ts a7)),(.sl false 5 (zh.ts a8))])))])=some (zct.to r):=by
 rw[zct]at h
 obtain⟨h1,h⟩:=ck h
 obtain⟨⟨a9,a10,a11,a12,a13⟩,h2,h⟩:=sm h
 obtain⟨a14,h3,h⟩:=sm h
 cases h
 exact path (zav h1 (zad (zu zh.zl h2) (zZ (ht.zbo _ _ _ h3) ob))) (by kernel_rfl)
theorem zbu.okL (ht:TabOk t call) (n:Nat):∀(k:Nat) (a1 a2 a3 a4 a5:Int) (a6:ByteArray) (a7 a8:List zh) (r:_),zbu t n k a1 a2 a3 a4 a5 a6 a7 a8=some r→loopN (exec (env Tryd.prog 33 Tryd.f33 call) n (sub [1,1,0,1,0,0] (zt Tryd.f33))) k (mkSt 60 60 [(1,(I6 a1)),(2,(.ptr 2 0 [] 0)),(5,(I6 a2)),(6,(I6 a3))] [(2,(.t (.st [(.v (.int .i64 a4)),(.v (.int .i64 a5)),(.v (.string a6)),(.sl false 5 (zh.ts a7)),(.sl false 5 (zh.ts a8))])))])=some (zbu.to r)
 | 0,a1,a2,a3,a4,a5,a6,a7,a8,r,h=>by rw[zbu]at h;cases h
 | k+1,a1,a2,a3,a4,a5,a6,a7,a8,r,h=>by
  rw[zbu]at h
  rcases fk h with ⟨h1,h⟩ | ⟨h1,h⟩
  ·rcases fk h with ⟨h2,h⟩ | ⟨h2,h⟩
   ·obtain⟨⟨a9,a10,a11,a12,a13,a14,a15,a16⟩,h3,h⟩:=sm h
    exact zT (path (zP (zq zh.zl (l:=a7)) (zaV h1 (zi h2 (zaw (zct.ok ht n _ _ _ _ _ _ _ _ _ h3) ob)))) (by kernel_rfl)) (zbu.okL ht n k _ _ _ _ _ _ _ _ _ h)
   ·cases h
    exact zx (path (zP (zq zh.zl (l:=a7)) (zaV h1 (zi h2 ob))) (by kernel_rfl)) (fun h=>by cases h)
  ·cases h
   exact zx (path (zP (zq zh.zl (l:=a7)) (zaV h1 (zi (rfl:false=false) ob))) (by kernel_rfl)) (fun h=>by cases h)
theorem zcu.ok (ht:TabOk t call) (n:Nat) (a1 a2 a3 a4 a5:Int) (a6:ByteArray) (a7 a8:List zh) (r:_) (h:zcu t n a1 a2 a3 a4 a5 a6 a7 a8=some r):exec (env Tryd.prog 33 Tryd.f33 call) n (sub [1,1,1,0,1,0,0,1] (zt Tryd.f33)) (mkSt 60 60 [(1,(I6 a1)),(2,(.ptr 2 0 [] 0)),(5,(I6 a2)),(7,(I6 a3))] [(2,(.t (.st [(.v (.int .i64 a4)),(.v (.int .i64 a5)),(.v (.string a6)),(.sl false 5 (zh.ts a7)),(.sl false 5 (zh.ts a8))])))])=some (zcu.to r):=by
 rw[zcu]at h
 obtain⟨h1,h⟩:=ck h
 obtain⟨⟨a9,a10,a11,a12,a13⟩,h2,h⟩:=sm h
 obtain⟨a14,h3,h⟩:=sm h
 cases h
 exact path (zav h1 (zad (zu zh.zl h2) (zZ (ht.zbo _ _ _ h3) ob))) (by kernel_rfl)
theorem zbv.okL (ht:TabOk t call) (n:Nat):∀(k:Nat) (a1 a2 a3 a4 a5:Int) (a6:ByteArray) (a7 a8:List zh) (r:_),zbv t n k a1 a2 a3 a4 a5 a6 a7 a8=some r→loopN (exec (env Tryd.prog 33 Tryd.f33 call) n (sub [1,1,1,0,1,0,0] (zt Tryd.f33))) k (mkSt 60 60 [(1,(I6 a1)),(2,(.ptr 2 0 [] 0)),(5,(I6 a2)),(7,(I6 a3))] [(2,(.t (.st [(.v (.int .i64 a4)),(.v (.int .i64 a5)),(.v (.string a6)),(.sl false 5 (zh.ts a7)),(.sl false 5 (zh.ts a8))])))])=some (zbv.to r)
 | 0,a1,a2,a3,a4,a5,a6,a7,a8,r,h=>by rw[zbv]at h;cases h
 | k+1,a1,a2,a3,a4,a5,a6,a7,a8,r,h=>by
  rw[zbv]at h
  rcases fk h with ⟨h1,h⟩ | ⟨h1,h⟩
  ·rcases fk h with ⟨h2,h⟩ | ⟨h2,h⟩
   ·obtain⟨⟨a9,a10,a11,a12,a13,a14,a15,a16⟩,h3,h⟩:=sm h
    exact zT (path (zP (zq zh.zl (l:=a8)) (zaV h1 (zi h2 (zaw (zcu.ok ht n _ _ _ _ _ _ _ _ _ h3) ob)))) (by kernel_rfl)) (zbv.okL ht n k _ _ _ _ _ _ _ _ _ h)
   ·cases h
    exact zx (path (zP (zq zh.zl (l:=a8)) (zaV h1 (zi h2 ob))) (by kernel_rfl)) (fun h=>by cases h)
  ·cases h
   exact zx (path (zP (zq zh.zl (l:=a8)) (zaV h1 (zi (rfl:false=false) ob))) (by kernel_rfl)) (fun h=>by cases h)
theorem zdh.ok (ht:TabOk t call) (n:Nat) (a1 a2 a3:Int) (a4:ByteArray) (a5 a6:List zh) (r:_) (h:zdh t n a1 a2 a3 a4 a5 a6=some r):exec (env Tryd.prog 33 Tryd.f33 call) n (sub [1,1,1,1] (zt Tryd.f33)) (mkSt 60 60 [(2,(.ptr 2 0 [] 0)),(5,(I6 a1))] [(2,(.t (.st [(.v (.int .i64 a2)),(.v (.int .i64 a3)),(.v (.string a4)),(.sl false 5 (zh.ts a5)),(.sl false 5 (zh.ts a6))])))])=some (zdh.to r):=by
 rw[zdh]at h
 obtain⟨a7,h1,h⟩:=sm h
 cases h
 exact path (zP (zoK (P:=Tryd.prog) (t:=3) (x:=(.tmp 57)) (y:=(.const (.int .i64 20))) h1) ob) (by kernel_rfl)
theorem zdi.ok (ht:TabOk t call) (n:Nat) (a1 a2 a3 a4:Int) (a5:ByteArray) (a6 a7:List zh) (r:_) (h:zdi t n a1 a2 a3 a4 a5 a6 a7=some r):exec (env Tryd.prog 33 Tryd.f33 call) n (sub [1,1,1] (zt Tryd.f33)) (mkSt 60 60 [(1,(I6 a1)),(2,(.ptr 2 0 [] 0)),(5,(I6 a2))] [(2,(.t (.st [(.v (.int .i64 a3)),(.v (.int .i64 a4)),(.v (.string a5)),(.sl false 5 (zh.ts a6)),(.sl false 5 (zh.ts a7))])))])=some (zdi.to r):=by
 rw[zdi]at h
 obtain⟨⟨a8,a9,a10,a11,a12,a13,a14,a15,a16⟩,h1,h⟩:=sm h
 obtain⟨a17,rfl⟩:∃z_,z_=r:=⟨_,rfl⟩
 have h2:=h
 exact path (zbq (lk (sub [1,1,1,0,1,0] (zt Tryd.f33)) (by kernel_rfl) (zbv.okL ht n n _ _ _ _ _ _ _ _ _ h1)) (zaw (zdh.ok ht n _ _ _ _ _ _ _ h2) ob)) (by kernel_rfl)
theorem zbo.ok {n:Nat} {t:Tab} (ht:TabOk t (run Tryd.prog own kp X n)):∀(p1:zh) (p2:Int) r,zbo t n p1 p2=some r→run Tryd.prog own kp X (n+1) 33 [(.t (zh.t p1)),(I6 p2)] []=some ((I6 r),[]):=by
 intro p1 p2 r h
 obtain⟨a1,a2,a3,a4,a5⟩:=p1
 obtain⟨a6,rfl⟩:∃z_,z_=p2:=⟨_,rfl⟩
 rw[zbo]at h
 obtain⟨⟨a7,a8,a9,a10,a11,a12,a13,a14,a15⟩,h1,h⟩:=sm h
 obtain⟨a16,rfl⟩:∃z_,z_=r:=⟨_,rfl⟩
 have h2:=h
 exact zk Tryd.func33 (zbq (lk (sub [1,1,0,1,0] (zt Tryd.f33)) (by kernel_rfl) (zbu.okL ht n n _ _ _ _ _ _ _ _ _ h1)) (zaw (zdi.ok ht n _ _ _ _ _ _ _ _ h2) ob)) (by kernel_rfl)
theorem zcv.ok (ht:TabOk t call) (n:Nat) (a1 a2 a3 a4:Int) (a5:List zh) (a6:List GPred) (r:_) (h:zcv t n a1 a2 a3 a4 a5 a6=some r):exec (env Tryd.prog 34 Tryd.f34 call) n (sub [1,1,0,1,0,0,1] (zt Tryd.f34)) (mkSt 36 36 [(1,(I6 a1)),(2,(.ptr 2 0 [] 0)),(5,(I6 a2)),(6,(I6 a3))] [(2,(.t (.st [(.v (.int .i64 a4)),(.sl false 5 (zh.ts a5)),(.sl false 3 (GPred.ts a6))])))])=some (zcv.to r):=by
 rw[zcv]at h
 obtain⟨h1,h⟩:=ck h
 obtain⟨⟨a7,a8,a9⟩,h2,h⟩:=sm h
 obtain⟨a10,h3,h⟩:=sm h
 cases h
 exact path (zav h1 (zad (zu GPred.zl h2) (zZ (ht.zck _ _ _ h3) ob))) (by kernel_rfl)
theorem zbw.okL (ht:TabOk t call) (n:Nat):∀(k:Nat) (a1 a2 a3 a4:Int) (a5:List zh) (a6:List GPred) (r:_),zbw t n k a1 a2 a3 a4 a5 a6=some r→loopN (exec (env Tryd.prog 34 Tryd.f34 call) n (sub [1,1,0,1,0,0] (zt Tryd.f34))) k (mkSt 36 36 [(1,(I6 a1)),(2,(.ptr 2 0 [] 0)),(5,(I6 a2)),(6,(I6 a3))] [(2,(.t (.st [(.v (.int .i64 a4)),(.sl false 5 (zh.ts a5)),(.sl false 3 (GPred.ts a6))])))])=some (zbw.to r)
 | 0,a1,a2,a3,a4,a5,a6,r,h=>by rw[zbw]at h;cases h
 | k+1,a1,a2,a3,a4,a5,a6,r,h=>by
  rw[zbw]at h
  rcases fk h with ⟨h1,h⟩ | ⟨h1,h⟩
  ·rcases fk h with ⟨h2,h⟩ | ⟨h2,h⟩
   ·obtain⟨⟨a7,a8,a9,a10,a11,a12⟩,h3,h⟩:=sm h
    exact zT (path (zP (zq GPred.zl (l:=a6)) (zaV h1 (zi h2 (zaw (zcv.ok ht n _ _ _ _ _ _ _ h3) ob)))) (by kernel_rfl)) (zbw.okL ht n k _ _ _ _ _ _ _ h)
   ·cases h
    exact zx (path (zP (zq GPred.zl (l:=a6)) (zaV h1 (zi h2 ob))) (by kernel_rfl)) (fun h=>by cases h)
  ·cases h
   exact zx (path (zP (zq GPred.zl (l:=a6)) (zaV h1 (zi (rfl:false=false) ob))) (by kernel_rfl)) (fun h=>by cases h)
theorem zck.ok {n:Nat} {t:Tab} (ht:TabOk t (run Tryd.prog own kp X n)):∀(p1:GPred) (p2:Int) r,zck t n p1 p2=some r→run Tryd.prog own kp X (n+1) 34 [(.t (GPred.t p1)),(I6 p2)] []=some ((I6 r),[]):=by
 intro p1 p2 r h
 obtain⟨a1,a2,a3⟩:=p1
 obtain⟨a4,rfl⟩:∃z_,z_=p2:=⟨_,rfl⟩
 rw[zck]at h
 obtain⟨a5,h1,h⟩:=sm h
 obtain⟨⟨a6,a7,a8,a9,a10,a11,a12⟩,h2,h⟩:=sm h
 cases h
 exact zk Tryd.func34 (zZ (ht.zc5 _ _ _ h1) (zbq (lk (sub [1,1,0,1,0] (zt Tryd.f34)) (by kernel_rfl) (zbw.okL ht n n _ _ _ _ _ _ _ h2)) ob)) (by kernel_rfl)
theorem zbh.ok (ht:TabOk t call) (n:Nat) (a1:List (List GStep)) (a2:Int) (a3:Bool) (a4:Int) (a5:List ByteArray) (a6:List Int) (a7 a8:Int) (a9:ByteArray) (a10 a11:List zh) (a12:Int) (a13:List zh) (a14:List GPred) (a15:List (List GStep)) (a16:List GBy) (a17:List ByteArray) (r:_) (h:zbh t n a1 a2 a3 a4 a5 a6 a7 a8 a9 a10 a11 a12 a13 a14 a15 a16 a17=some r):exec (env Tryd.prog 35 Tryd.f35 call) n (sub [1,1,1,0,1,0,0,1,0,0,1] (zt Tryd.f35)) (mkSt 43 43 [(1,(.ptr 1 0 [] 0)),(3,(.t (.sl true 1 (zo a1)))),(4,(I6 a2)),(32,(Bo a3))] [(1,(.t (.st [(.v (.int .i64 a4)),(.sl false 1 (texts a5)),(.sl false 1 (zB a6)),(.st [(.v (.int .i64 a7)),(.v (.int .i64 a8)),(.v (.string a9)),(.sl false 5 (zh.ts a10)),(.sl false 5 (zh.ts a11))]),(.st [(.v (.int .i64 a12)),(.sl false 5 (zh.ts a13)),(.sl false 3 (GPred.ts a14))]),(.sl false 1 (zo a15)),(.sl false 4 (GBy.ts a16)),(.sl false 1 (texts a17))])))])=some (zbh.to r):=by
 rw[zbh]at h
 rcases fk h with ⟨h1,h⟩ | ⟨h1,h⟩
 ·obtain⟨h2,h⟩:=ck h
  obtain⟨⟨a18,a19,a20,a21⟩,h3,h⟩:=sm h
  obtain⟨h4,h⟩:=cl h
  cases h
  exact path (zi h1 (zav h2 (zad (zu GBy.zl h3) (zd0 (zdd zw h4) (zea (zdG zw (a:=a1) (b:=([a20]:List (List GStep)))) ob))))) (by kernel_rfl)
 ·cases h
  exact path (zi h1 ob) (by kernel_rfl)
theorem zbi.okL (ht:TabOk t call) (n:Nat):∀(k:Nat) (a1:List (List GStep)) (a2 a3:Int) (a4:List ByteArray) (a5:List Int) (a6 a7:Int) (a8:ByteArray) (a9 a10:List zh) (a11:Int) (a12:List zh) (a13:List GPred) (a14:List (List GStep)) (a15:List GBy) (a16:List ByteArray) (r:_),zbi t n k a1 a2 a3 a4 a5 a6 a7 a8 a9 a10 a11 a12 a13 a14 a15 a16=some r→loopN (exec (env Tryd.prog 35 Tryd.f35 call) n (sub [1,1,1,0,1,0,0] (zt Tryd.f35))) k (mkSt 43 43 [(1,(.ptr 1 0 [] 0)),(3,(.t (.sl true 1 (zo a1)))),(4,(I6 a2))] [(1,(.t (.st [(.v (.int .i64 a3)),(.sl false 1 (texts a4)),(.sl false 1 (zB a5)),(.st [(.v (.int .i64 a6)),(.v (.int .i64 a7)),(.v (.string a8)),(.sl false 5 (zh.ts a9)),(.sl false 5 (zh.ts a10))]),(.st [(.v (.int .i64 a11)),(.sl false 5 (zh.ts a12)),(.sl false 3 (GPred.ts a13))]),(.sl false 1 (zo a14)),(.sl false 4 (GBy.ts a15)),(.sl false 1 (texts a16))])))])=some (zbi.to r)
 | 0,a1,a2,a3,a4,a5,a6,a7,a8,a9,a10,a11,a12,a13,a14,a15,a16,r,h=>by rw[zbi]at h;cases h
 | k+1,a1,a2,a3,a4,a5,a6,a7,a8,a9,a10,a11,a12,a13,a14,a15,a16,r,h=>by
  rw[zbi]at h
  rcases fk h with ⟨h1,h⟩ | ⟨h1,h⟩
  ·obtain⟨h2,h⟩:=ck h
   obtain⟨⟨a17,a18,a19,a20⟩,h3,h⟩:=sm h
   rcases fk h with ⟨h4,h⟩ | ⟨h4,h⟩
   ·obtain⟨⟨a21,a22,a23,a24,a25,a26,a27,a28,a29,a30,a31,a32,a33,a34,a35,a36⟩,h5,h⟩:=sm h
    exact zT (path (zP (zq GBy.zl (l:=a15)) (zi h1 (zav h2 (zad (zu GBy.zl h3) (zaG h4 9 (zaw (zbh.ok ht n _ _ _ _ _ _ _ _ _ _ _ _ _ _ _ _ _ _ h5) ob)))))) (by kernel_rfl)) (zbi.okL ht n k _ _ _ _ _ _ _ _ _ _ _ _ _ _ _ _ _ h)
   ·obtain⟨⟨a37,a38,a39,a40,a41,a42,a43,a44,a45,a46,a47,a48,a49,a50,a51,a52⟩,h6,h⟩:=sm h
    exact zT (path (zP (zq GBy.zl (l:=a15)) (zi h1 (zav h2 (zad (zu GBy.zl h3) (zaV h4 (zav h2 (zad (zu GBy.zl h3) (zV h4 (zP (zq GStep.zl (l:=a19)) (zaT h4 (zaw (zbh.ok ht n _ _ _ _ _ _ _ _ _ _ _ _ _ _ _ _ _ _ h6) ob))))))))))) (by kernel_rfl)) (zbi.okL ht n k _ _ _ _ _ _ _ _ _ _ _ _ _ _ _ _ _ h)
  ·cases h
   exact zx (path (zP (zq GBy.zl (l:=a15)) (zi h1 ob)) (by kernel_rfl)) (fun h=>by cases h)
theorem zcN.ok {n:Nat} {t:Tab} (ht:TabOk t (run Tryd.prog own kp X n)):∀(p1:GStep) r,zcN t n p1=some r→run Tryd.prog own kp X (n+1) 35 [(.t (GStep.t p1))] []=some ((Sl 1 (zo r)),[]):=by
 intro p1 r h
 obtain⟨a1,a2,a3,⟨a4,a5,a6,a7,a8⟩,⟨a9,a10,a11⟩,a12,a13,a14⟩:=p1
 rw[zcN]at h
 obtain⟨h1,h⟩:=cl h
 obtain⟨⟨a15,a16,a17,a18,a19,a20,a21,a22,a23,a24,a25,a26,a27,a28,a29,a30,a31⟩,h2,h⟩:=sm h
 cases h
 exact zk Tryd.func35 (zd0 (zdd zw h1) (zea (zdG zw (a:=([]:List (List GStep))) (b:=a12)) (zbq (lk (sub [1,1,1,0,1,0] (zt Tryd.f35)) (by kernel_rfl) (zbi.okL ht n n _ _ _ _ _ _ _ _ _ _ _ _ _ _ _ _ _ h2)) ob))) (by kernel_rfl)
theorem zbj.okL (ht:TabOk t call) (n:Nat):∀(k:Nat) (a1 a2:List ByteArray) (a3:Int) (r:_),zbj t n k a1 a2 a3=some r→loopN (exec (env Tryd.prog 29 Tryd.f29 call) n (sub [1,1,0,1,0,0] (zt Tryd.f29))) k (mkSt 26 26 [(0,(Sl 1 (texts a1))),(1,(Sl 1 (texts a2))),(5,(I6 a3))] [])=some (zbj.to r)
 | 0,a1,a2,a3,r,h=>by rw[zbj]at h;cases h
 | k+1,a1,a2,a3,r,h=>by
  rw[zbj]at h
  rcases fk h with ⟨h1,h⟩ | ⟨h1,h⟩
  ·obtain⟨h2,h⟩:=ck h
   obtain⟨a4,h3,h⟩:=sm h
   obtain⟨a5,h4,h⟩:=sm h
   rcases fk h with ⟨h5,h⟩ | ⟨h5,h⟩
   ·exact zT (path (zP (zq zX (l:=a1)) (zi h1 (zav h2 (zad (zu zX h3) (zav h2 (zad (zu zX h4) (zi (ng h5) ob))))))) (by kernel_rfl)) (zbj.okL ht n k _ _ _ _ h)
   ·cases h
    exact zx (path (zP (zq zX (l:=a1)) (zi h1 (zav h2 (zad (zu zX h3) (zav h2 (zad (zu zX h4) (zi (ng h5) ob))))))) (by kernel_rfl)) (fun h=>by cases h)
  ·cases h
   exact zx (path (zP (zq zX (l:=a1)) (zi h1 ob)) (by kernel_rfl)) (fun h=>by cases h)
theorem zbR.ok {n:Nat} {t:Tab} (ht:TabOk t (run Tryd.prog own kp X n)):∀(p1:List ByteArray) (p2:List ByteArray) r,zbR t n p1 p2=some r→run Tryd.prog own kp X (n+1) 29 [(Sl 1 (texts p1)),(Sl 1 (texts p2))] []=some ((Bo r),[]):=by
 intro p1 p2 r h
 obtain⟨a1,rfl⟩:∃z_,z_=p1:=⟨_,rfl⟩
 obtain⟨a2,rfl⟩:∃z_,z_=p2:=⟨_,rfl⟩
 rw[zbR]at h
 rcases fk h with ⟨h1,h⟩ | ⟨h1,h⟩
 ·cases h
  exact zk Tryd.func29 (zP (zq zX (l:=a1)) (zP (zq zX (l:=a2)) (zi h1 ob))) (by kernel_rfl)
 ·obtain⟨a3 | ⟨a4,a5,a6,a7⟩,h2,h⟩:=sm h
  ·cases h
   exact zk Tryd.func29 (zP (zq zX (l:=a1)) (zP (zq zX (l:=a2)) (zi h1 (zbq (lk (sub [1,1,0,1,0] (zt Tryd.f29)) (by kernel_rfl) (zbj.okL ht n n _ _ _ _ h2)) ob)))) (by kernel_rfl)
  ·cases h
   exact zk Tryd.func29 (zP (zq zX (l:=a1)) (zP (zq zX (l:=a2)) (zi h1 (zbq (lk (sub [1,1,0,1,0] (zt Tryd.f29)) (by kernel_rfl) (zbj.okL ht n n _ _ _ _ h2)) ob)))) (by kernel_rfl)
theorem za3.okL (ht:TabOk t call) (n:Nat):∀(k:Nat) (a1 a2:List Int) (a3:Int) (r:_),za3 t n k a1 a2 a3=some r→loopN (exec (env Tryd.prog 30 Tryd.f30 call) n (sub [1,1,0,1,0,0] (zt Tryd.f30))) k (mkSt 26 26 [(0,(Sl 1 (zB a1))),(1,(Sl 1 (zB a2))),(5,(I6 a3))] [])=some (za3.to r)
 | 0,a1,a2,a3,r,h=>by rw[za3]at h;cases h
 | k+1,a1,a2,a3,r,h=>by
  rw[za3]at h
  rcases fk h with ⟨h1,h⟩ | ⟨h1,h⟩
  ·obtain⟨h2,h⟩:=ck h
   obtain⟨a4,h3,h⟩:=sm h
   obtain⟨a5,h4,h⟩:=sm h
   rcases fk h with ⟨h5,h⟩ | ⟨h5,h⟩
   ·cases h
    exact zx (path (zP (zq zy (l:=a1)) (zi h1 (zav h2 (zad (zu zy h3) (zav h2 (zad (zu zy h4) (zi h5 ob))))))) (by kernel_rfl)) (fun h=>by cases h)
   ·exact zT (path (zP (zq zy (l:=a1)) (zi h1 (zav h2 (zad (zu zy h3) (zav h2 (zad (zu zy h4) (zi h5 ob))))))) (by kernel_rfl)) (za3.okL ht n k _ _ _ _ h)
  ·cases h
   exact zx (path (zP (zq zy (l:=a1)) (zi h1 ob)) (by kernel_rfl)) (fun h=>by cases h)
theorem zb1.ok {n:Nat} {t:Tab} (ht:TabOk t (run Tryd.prog own kp X n)):∀(p1:List Int) (p2:List Int) r,zb1 t n p1 p2=some r→run Tryd.prog own kp X (n+1) 30 [(Sl 1 (zB p1)),(Sl 1 (zB p2))] []=some ((Bo r),[]):=by
 intro p1 p2 r h
 obtain⟨a1,rfl⟩:∃z_,z_=p1:=⟨_,rfl⟩
 obtain⟨a2,rfl⟩:∃z_,z_=p2:=⟨_,rfl⟩
 rw[zb1]at h
 rcases fk h with ⟨h1,h⟩ | ⟨h1,h⟩
 ·cases h
  exact zk Tryd.func30 (zP (zq zy (l:=a1)) (zP (zq zy (l:=a2)) (zi h1 ob))) (by kernel_rfl)
 ·obtain⟨a3 | ⟨a4,a5,a6,a7⟩,h2,h⟩:=sm h
  ·cases h
   exact zk Tryd.func30 (zP (zq zy (l:=a1)) (zP (zq zy (l:=a2)) (zi h1 (zbq (lk (sub [1,1,0,1,0] (zt Tryd.f30)) (by kernel_rfl) (za3.okL ht n n _ _ _ _ h2)) ob)))) (by kernel_rfl)
  ·cases h
   exact zk Tryd.func30 (zP (zq zy (l:=a1)) (zP (zq zy (l:=a2)) (zi h1 (zbq (lk (sub [1,1,0,1,0] (zt Tryd.f30)) (by kernel_rfl) (za3.okL ht n n _ _ _ _ h2)) ob)))) (by kernel_rfl)
theorem zdl.ok {n:Nat} {t:Tab} (ht:TabOk t (run Tryd.prog own kp X n)):∀(p1:zh) (p2:zh) r,zdl t n p1 p2=some r→run Tryd.prog own kp X (n+1) 27 [(.t (zh.t p1)),(.t (zh.t p2))] []=some ((Bo r),[]):=by
 intro p1 p2 r h
 obtain⟨a1,a2,a3,a4,a5⟩:=p1
 obtain⟨a6,a7,a8,a9,a10⟩:=p2
 rw[zdl]at h
 obtain⟨a11,h1,h⟩:=sm h
 cases h
 exact zk Tryd.func27 (zZ (ht.zcg _ _ _ _ h1) ob) (by kernel_rfl)
theorem zcS.okL (ht:TabOk t call) (n:Nat):∀(k:Nat) (a1 a2:Int) (a3:List zh) (a4:List GPred) (a5:Int) (a6:List zh) (a7:List GPred) (r:_),zcS t n k a1 a2 a3 a4 a5 a6 a7=some r→loopN (exec (env Tryd.prog 28 Tryd.f28 call) n (sub [1,1,0,1,0,0] (zt Tryd.f28))) k (mkSt 47 47 [(2,(.ptr 2 0 [] 0)),(3,(.ptr 3 0 [] 0)),(5,(I6 a1))] [(2,(.t (.st [(.v (.int .i64 a2)),(.sl false 5 (zh.ts a3)),(.sl false 3 (GPred.ts a4))]))),(3,(.t (.st [(.v (.int .i64 a5)),(.sl false 5 (zh.ts a6)),(.sl false 3 (GPred.ts a7))])))])=some (zcS.to r)
 | 0,a1,a2,a3,a4,a5,a6,a7,r,h=>by rw[zcS]at h;cases h
 | k+1,a1,a2,a3,a4,a5,a6,a7,r,h=>by
  rw[zcS]at h
  rcases fk h with ⟨h1,h⟩ | ⟨h1,h⟩
  ·obtain⟨h2,h⟩:=ck h
   obtain⟨⟨a8,a9,a10⟩,h3,h⟩:=sm h
   obtain⟨⟨a11,a12,a13⟩,h4,h⟩:=sm h
   obtain⟨a14,h5,h⟩:=sm h
   have o7 {os} (x:Obls (env Tryd.prog 28 Tryd.f28 call) n os):=zP (zq GPred.zl (l:=a4)) (zi h1 (zav h2 (zad (zu GPred.zl h3) (zav h2 (zad (zu GPred.zl h4) (zZ (ht.zdm _ _ _ h5) x))))))
   rcases fk h with ⟨h6,h⟩ | ⟨h6,h⟩
   ·exact zT (path (o7 (zi (ng h6) ob)) (by kernel_rfl)) (zcS.okL ht n k _ _ _ _ _ _ _ _ h)
   ·cases h
    exact zx (path (o7 (zi (ng h6) ob)) (by kernel_rfl)) (fun h=>by cases h)
  ·cases h
   exact zx (path (zP (zq GPred.zl (l:=a4)) (zi h1 ob)) (by kernel_rfl)) (fun h=>by cases h)
theorem zdI.ok (ht:TabOk t call) (n:Nat) (a1:Int) (a2:List zh) (a3:List GPred) (a4:Int) (a5:List zh) (a6:List GPred) (r:_) (h:zdI t n a1 a2 a3 a4 a5 a6=some r):exec (env Tryd.prog 28 Tryd.f28 call) n (sub [1,1] (zt Tryd.f28)) (mkSt 47 47 [(2,(.ptr 2 0 [] 0)),(3,(.ptr 3 0 [] 0))] [(2,(.t (.st [(.v (.int .i64 a1)),(.sl false 5 (zh.ts a2)),(.sl false 3 (GPred.ts a3))]))),(3,(.t (.st [(.v (.int .i64 a4)),(.sl false 5 (zh.ts a5)),(.sl false 3 (GPred.ts a6))])))])=some (zdI.to r):=by
 rw[zdI]at h
 obtain⟨a7 | ⟨a8,a9,a10,a11,a12,a13,a14,a15⟩,h1,h⟩:=sm h
 ·cases h
  exact path (zbq (lk (sub [1,1,0,1,0] (zt Tryd.f28)) (by kernel_rfl) (zcS.okL ht n n _ _ _ _ _ _ _ _ h1)) ob) (by kernel_rfl)
 ·cases h
  exact path (zbq (lk (sub [1,1,0,1,0] (zt Tryd.f28)) (by kernel_rfl) (zcS.okL ht n n _ _ _ _ _ _ _ _ h1)) ob) (by kernel_rfl)
theorem zdm.ok {n:Nat} {t:Tab} (ht:TabOk t (run Tryd.prog own kp X n)):∀(p1:GPred) (p2:GPred) r,zdm t n p1 p2=some r→run Tryd.prog own kp X (n+1) 28 [(.t (GPred.t p1)),(.t (GPred.t p2))] []=some ((Bo r),[]):=by
 intro p1 p2 r h
 obtain⟨a1,a2,a3⟩:=p1
 obtain⟨a4,a5,a6⟩:=p2
 rw[zdm]at h
 rcases fk h with ⟨h1,h⟩ | ⟨h1,h⟩
 ·cases h
  exact zk Tryd.func28 (zaG h1 7 (zds 9 ob)) (by kernel_rfl)
 ·obtain⟨a7,h2,h⟩:=sm h
  have o8 {os} (x:Obls (env Tryd.prog 28 Tryd.f28 (run Tryd.prog own kp X n)) n os):=zaG h1 5 (zZ (ht.zcU _ _ _ h2) (zaT h1 x))
  rcases fk h with ⟨h3,h⟩ | ⟨h3,h⟩
  ·have o18 {os} (x:Obls (env Tryd.prog 28 Tryd.f28 (run Tryd.prog own kp X n)) n os):=o8 (zV (ng h3) (zP (zq GPred.zl (l:=a3)) (zV (ng h3) (zP (zq GPred.zl (l:=a6)) (zaT (ng h3) x)))))
   rcases fk h with ⟨h4,h⟩ | ⟨h4,h⟩
   ·cases h
    exact zk Tryd.func28 (o18 (zi h4 ob)) (by kernel_rfl)
   ·obtain⟨a8,rfl⟩:∃z_,z_=r:=⟨_,rfl⟩
    have h5:=h
    exact zk Tryd.func28 (o18 (zi h4 (zaw (zdI.ok ht n _ _ _ _ _ _ _ h5) ob))) (by kernel_rfl)
  ·cases h
   exact zk Tryd.func28 (o8 (zaG (ng h3) 8 (zds 1 ob))) (by kernel_rfl)
theorem zak.okL (ht:TabOk t call) (n:Nat):∀(k:Nat) (a1 a2:List (List GCode)) (a3 a4:Int) (r:_),zak t n k a1 a2 a3 a4=some r→loopN (exec (env Tryd.prog 21 Tryd.f21 call) n (sub [1,1,0,1,0,0] (zt Tryd.f21))) k (mkSt 32 32 [(1,(Sl 1 (za0 a1))),(2,(.fn 22 [])),(15,(Sl 1 (za0 a2))),(16,(I6 a3)),(17,(I6 a4))] [])=some (zak.to r)
 | 0,a1,a2,a3,a4,r,h=>by rw[zak]at h;cases h
 | k+1,a1,a2,a3,a4,r,h=>by
  rw[zak]at h
  rcases fk h with ⟨h1,h⟩ | ⟨h1,h⟩
  ·obtain⟨h2,h⟩:=ck h
   obtain⟨a5,h3,h⟩:=sm h
   obtain⟨a6,h4,h⟩:=sm h
   obtain⟨a7,h5,h⟩:=sm h
   rcases fk h with ⟨h6,h⟩ | ⟨h6,h⟩
   ·exact zT (path (zi h1 (zav h2 (zad (zu zaj h3) (zav h2 (zad (zu zaj h4) (zZ (ht.zc6 _ _ _ h5) (zi (ng h6) ob))))))) (by kernel_rfl)) (zak.okL ht n k _ _ _ _ _ h)
   ·cases h
    exact zx (path (zi h1 (zav h2 (zad (zu zaj h3) (zav h2 (zad (zu zaj h4) (zZ (ht.zc6 _ _ _ h5) (zi (ng h6) ob))))))) (by kernel_rfl)) (fun h=>by cases h)
  ·cases h
   exact zx (path (zi h1 ob) (by kernel_rfl)) (fun h=>by cases h)
theorem zay.ok {n:Nat} {t:Tab} (ht:TabOk t (run Tryd.prog own kp X n)):∀(p1:List (List GCode)) (p2:List (List GCode)) r,zay t n p1 p2=some r→run Tryd.prog own kp X (n+1) 21 [(Sl 1 (za0 p1)),(Sl 1 (za0 p2)),(.fn 22 [])] []=some ((Bo r),[]):=by
 intro p1 p2 r h
 obtain⟨a1,rfl⟩:∃z_,z_=p1:=⟨_,rfl⟩
 obtain⟨a2,rfl⟩:∃z_,z_=p2:=⟨_,rfl⟩
 rw[zay]at h
 have o2 {os} (x:Obls (env Tryd.prog 21 Tryd.f21 (run Tryd.prog own kp X n)) n os):=zP (zq zaj (l:=a1)) (zP (zq zaj (l:=a2)) x)
 rcases fk h with ⟨h1,h⟩ | ⟨h1,h⟩
 ·cases h
  exact zk Tryd.func21 (o2 (zi h1 ob)) (by kernel_rfl)
 ·obtain⟨a3 | ⟨a4,a5,a6,a7,a8⟩,h2,h⟩:=sm h
  ·cases h
   exact zk Tryd.func21 (o2 (zi h1 (zP (zq zaj (l:=a1)) (zbq (lk (sub [1,1,0,1,0] (zt Tryd.f21)) (by kernel_rfl) (zak.okL ht n n _ _ _ _ _ h2)) ob)))) (by kernel_rfl)
  ·cases h
   exact zk Tryd.func21 (o2 (zi h1 (zP (zq zaj (l:=a1)) (zbq (lk (sub [1,1,0,1,0] (zt Tryd.f21)) (by kernel_rfl) (zak.okL ht n n _ _ _ _ _ h2)) ob)))) (by kernel_rfl)
theorem zcK.ok {n:Nat} {t:Tab} (ht:TabOk t (run Tryd.prog own kp X n)):∀(p1:List GStep) r,zcK t n p1=some r→run Tryd.prog own kp X (n+1) 36 [(Sl 14 (GStep.ts p1))] []=some ((I6 r),[]):=by
 intro p1 r h
 obtain⟨a1,rfl⟩:∃z_,z_=p1:=⟨_,rfl⟩
 rw[zcK]at h
 obtain⟨a2,rfl⟩:∃z_,z_=r:=⟨_,rfl⟩
 have h1:=h
 exact zk Tryd.func36 (zZ (ht.zbV _ _ _ _ h1) ob) (by kernel_rfl)
theorem zaY.ok {n:Nat} {t:Tab} (ht:TabOk t (run Tryd.prog own kp X n)):∀(p1:List GStep) (p2:Int) r,zaY t n p1 p2=some r→run Tryd.prog own kp X (n+1) 37 [(Sl 14 (GStep.ts p1)),(I6 p2)] []=some ((Bo r),[]):=by
 intro p1 p2 r h
 obtain⟨a1,rfl⟩:∃z_,z_=p1:=⟨_,rfl⟩
 obtain⟨a2,rfl⟩:∃z_,z_=p2:=⟨_,rfl⟩
 rw[zaY]at h
 rcases fk h with ⟨h1,h⟩ | ⟨h1,h⟩
 ·obtain⟨a3,h2,h⟩:=sm h
  cases h
  exact zk Tryd.func37 (zV h1 (zZ (ht.zK _ _ _ h2) (zaT h1 ob))) (by kernel_rfl)
 ·cases h
  exact zk Tryd.func37 (zaG h1 5 ob) (by kernel_rfl)
theorem zbT.okL (ht:TabOk t call) (n:Nat):∀(k:Nat) (a1:Int) (a2 a3:List GStep) (a4 a5:Int) (a6:List GBy) (a7 a8 a9:Int) (a10:List ByteArray) (a11:List Int) (a12 a13:Int) (a14:ByteArray) (a15 a16:List zh) (a17:Int) (a18:List zh) (a19:List GPred) (a20:List (List GStep)) (a21:List GBy) (a22:List ByteArray) (r:_),zbT t n k a1 a2 a3 a4 a5 a6 a7 a8 a9 a10 a11 a12 a13 a14 a15 a16 a17 a18 a19 a20 a21 a22=some r→loopN (exec (env Tryd.prog 38 Tryd.f38 call) n (sub [1,1,1,0,1,0,0,1,1,0,0,1,1,0,1,0,0] (zt Tryd.f38))) k (mkSt 73 73 [(1,(I6 a1)),(5,(.t (.sl true 14 (GStep.ts a2)))),(8,(.ptr 8 0 [] 0)),(13,(Sl 14 (GStep.ts a3))),(14,(I6 a4)),(15,(I6 a5)),(43,(Sl 4 (GBy.ts a6))),(44,(I6 a7)),(45,(I6 a8))] [(8,(.t (.st [(.v (.int .i64 a9)),(.sl true 1 (texts a10)),(.sl true 1 (zB a11)),(.st [(.v (.int .i64 a12)),(.v (.int .i64 a13)),(.v (.string a14)),(.sl false 5 (zh.ts a15)),(.sl false 5 (zh.ts a16))]),(.st [(.v (.int .i64 a17)),(.sl false 5 (zh.ts a18)),(.sl false 3 (GPred.ts a19))]),(.sl false 1 (zo a20)),(.sl true 4 (GBy.ts a21)),(.sl true 1 (texts a22))])))])=some (zbT.to r)
 | 0,a1,a2,a3,a4,a5,a6,a7,a8,a9,a10,a11,a12,a13,a14,a15,a16,a17,a18,a19,a20,a21,a22,r,h=>by rw[zbT]at h;cases h
 | k+1,a1,a2,a3,a4,a5,a6,a7,a8,a9,a10,a11,a12,a13,a14,a15,a16,a17,a18,a19,a20,a21,a22,r,h=>by
  rw[zbT]at h
  rcases fk h with ⟨h1,h⟩ | ⟨h1,h⟩
  ·obtain⟨h2,h⟩:=ck h
   obtain⟨⟨a23,a24,a25,a26⟩,h3,h⟩:=sm h
   obtain⟨a27,h4,h⟩:=sm h
   obtain⟨h5,h⟩:=cl h
   exact zT (path (zi h1 (zav h2 (zad (zu GBy.zl h3) (zZ (ht.zaW _ _ _ h4) (zd0 (zdd GBy.zl h5) (zea (zdG GBy.zl (a:=a21) (b:=([(GBy.mk a23 a24 a27 a26)]:List GBy))) ob)))))) (by kernel_rfl)) (zbT.okL ht n k _ _ _ _ _ _ _ _ _ _ _ _ _ _ _ _ _ _ _ _ _ _ _ h)
  ·cases h
   exact zx (path (zi h1 ob) (by kernel_rfl)) (fun h=>by cases h)
theorem zcw.ok (ht:TabOk t call) (n:Nat) (a1:Int) (a2 a3:List GStep) (a4 a5 a6:Int) (a7:List ByteArray) (a8:List Int) (a9 a10:Int) (a11:ByteArray) (a12 a13:List zh) (a14:Int) (a15:List zh) (a16:List GPred) (a17:List (List GStep)) (a18:List GBy) (a19:List ByteArray) (r:_) (h:zcw t n a1 a2 a3 a4 a5 a6 a7 a8 a9 a10 a11 a12 a13 a14 a15 a16 a17 a18 a19=some r):exec (env Tryd.prog 38 Tryd.f38 call) n (sub [1,1,1,0,1,0,0,1,1,0,0,1,1,1] (zt Tryd.f38)) (mkSt 73 73 [(1,(I6 a1)),(5,(.t (.sl true 14 (GStep.ts a2)))),(8,(.ptr 8 0 [] 0)),(13,(Sl 14 (GStep.ts a3))),(14,(I6 a4)),(15,(I6 a5))] [(8,(.t (.st [(.v (.int .i64 a6)),(.sl true 1 (texts a7)),(.sl true 1 (zB a8)),(.st [(.v (.int .i64 a9)),(.v (.int .i64 a10)),(.v (.string a11)),(.sl false 5 (zh.ts a12)),(.sl false 5 (zh.ts a13))]),(.st [(.v (.int .i64 a14)),(.sl false 5 (zh.ts a15)),(.sl false 3 (GPred.ts a16))]),(.sl false 1 (zo a17)),(.sl true 4 (GBy.ts a18)),(.sl true 1 (texts a19))])))])=some (zcw.to r):=by
 rw[zcw]at h
 obtain⟨h1,h⟩:=cl h
 cases h
 exact path (zd0 (zdd GStep.zl h1) (zea (zdG GStep.zl (a:=a2) (b:=([(GStep.mk a6 a7 a8 (zh.mk a9 a10 a11 a12 a13) (GPred.mk a14 a15 a16) a17 a18 a19)]:List GStep))) ob)) (by kernel_rfl)
theorem zbU.okL (ht:TabOk t call) (n:Nat):∀(k:Nat) (a1:Int) (a2 a3:List GStep) (a4 a5:Int) (r:_),zbU t n k a1 a2 a3 a4 a5=some r→loopN (exec (env Tryd.prog 38 Tryd.f38 call) n (sub [1,1,1,0,1,0,0] (zt Tryd.f38))) k (mkSt 73 73 [(1,(I6 a1)),(5,(.t (.sl true 14 (GStep.ts a2)))),(13,(Sl 14 (GStep.ts a3))),(14,(I6 a4)),(15,(I6 a5))] [])=some (zbU.to r)
 | 0,a1,a2,a3,a4,a5,r,h=>by rw[zbU]at h;cases h
 | k+1,a1,a2,a3,a4,a5,r,h=>by
  rw[zbU]at h
  rcases fk h with ⟨h1,h⟩ | ⟨h1,h⟩
  ·obtain⟨h2,h⟩:=ck h
   obtain⟨⟨a6,a7,a8,⟨a9,a10,a11,a12,a13⟩,⟨a14,a15,a16⟩,a17,a18,a19⟩,h3,h⟩:=sm h
   obtain⟨a20,h4,h⟩:=sm h
   obtain⟨a21,h5,h⟩:=sm h
   obtain⟨⟨a22,a23,a24,a25,a26⟩,h6,h⟩:=sm h
   obtain⟨⟨a27,a28,a29⟩,h7,h⟩:=sm h
   obtain⟨a30,h8,h⟩:=sm h
   obtain⟨a31,h9,h⟩:=sm h
   obtain⟨⟨a32,a33,a34,a35,a36,a37,a38,a39,a40,a41,a42,a43,a44,a45,a46,a47,a48,a49,a50,a51,a52,a53,a54⟩,h10,h⟩:=sm h
   obtain⟨⟨a55,a56,a57,a58,a59⟩,h11,h⟩:=sm h
   exact zT (path (zi h1 (zav h2 (zad (zu GStep.zl h3) (zZ (ht.slices_Clone_string _ _ h4) (zZ (ht.slices_Clone_int _ _ h5) (zZ (ht.zcn _ _ h6) (zZ (ht.zdj _ _ h7) (zZ (ht.slices_Clone_string _ _ h8) (zZ (ht.zcY _ _ _ h9) (zP (zq GBy.zl (l:=a18)) (zbq (lk (sub [1,1,1,0,1,0,0,1,1,0,0,1,1,0,1,0] (zt Tryd.f38)) (by kernel_rfl) (zbT.okL ht n n _ _ _ _ _ _ _ _ _ _ _ _ _ _ _ _ _ _ _ _ _ _ _ h10)) (zaw (zcw.ok ht n _ _ _ _ _ _ _ _ _ _ _ _ _ _ _ _ _ _ _ _ h11) ob)))))))))))) (by kernel_rfl)) (zbU.okL ht n k _ _ _ _ _ _ h)
  ·cases h
   exact zx (path (zi h1 ob) (by kernel_rfl)) (fun h=>by cases h)
theorem zaW.ok {n:Nat} {t:Tab} (ht:TabOk t (run Tryd.prog own kp X n)):∀(p1:List GStep) (p2:Int) r,zaW t n p1 p2=some r→run Tryd.prog own kp X (n+1) 38 [(Sl 14 (GStep.ts p1)),(I6 p2)] []=some ((Sl 14 (GStep.ts r)),[]):=by
 intro p1 p2 r h
 obtain⟨a1,rfl⟩:∃z_,z_=p1:=⟨_,rfl⟩
 obtain⟨a2,rfl⟩:∃z_,z_=p2:=⟨_,rfl⟩
 rw[zaW]at h
 rcases fk h with ⟨h1,h⟩ | ⟨h1,h⟩
 ·cases h
  exact zk Tryd.func38 (zi h1 ob) (by kernel_rfl)
 ·obtain⟨⟨a3,a4,a5,a6,a7,a8⟩,h2,h⟩:=sm h
  cases h
  exact zk Tryd.func38 (zi h1 (zP (zq GStep.zl (l:=a1)) (zbq (lk (sub [1,1,1,0,1,0] (zt Tryd.f38)) (by kernel_rfl) (zbU.okL ht n n _ _ _ _ _ _ h2)) ob))) (by kernel_rfl)
theorem zcT.ok (ht:TabOk t call) (n:Nat) (a1:List zh) (a2 a3 a4:Int) (r:_) (h:zcT t n a1 a2 a3 a4=some r):exec (env Tryd.prog 46 Tryd.f46 call) n (sub [1,1,0,1,0,0,1] (zt Tryd.f46)) (mkSt 29 29 [(0,(Sl 5 (zh.ts a1))),(1,(I6 a2)),(5,(I6 a3)),(6,(I6 a4))] [])=some (zcT.to r):=by
 rw[zcT]at h
 obtain⟨h1,h⟩:=ck h
 obtain⟨⟨a5,a6,a7,a8,a9⟩,h2,h⟩:=sm h
 obtain⟨a10,h3,h⟩:=sm h
 cases h
 exact path (zav h1 (zad (zu zh.zl h2) (zZ (ht.zbo _ _ _ h3) ob))) (by kernel_rfl)
theorem zb2.okL (ht:TabOk t call) (n:Nat):∀(k:Nat) (a1:List zh) (a2 a3 a4:Int) (r:_),zb2 t n k a1 a2 a3 a4=some r→loopN (exec (env Tryd.prog 46 Tryd.f46 call) n (sub [1,1,0,1,0,0] (zt Tryd.f46))) k (mkSt 29 29 [(0,(Sl 5 (zh.ts a1))),(1,(I6 a2)),(5,(I6 a3)),(6,(I6 a4))] [])=some (zb2.to r)
 | 0,a1,a2,a3,a4,r,h=>by rw[zb2]at h;cases h
 | k+1,a1,a2,a3,a4,r,h=>by
  rw[zb2]at h
  rcases fk h with ⟨h1,h⟩ | ⟨h1,h⟩
  ·rcases fk h with ⟨h2,h⟩ | ⟨h2,h⟩
   ·obtain⟨⟨a5,a6,a7,a8⟩,h3,h⟩:=sm h
    exact zT (path (zP (zq zh.zl (l:=a1)) (zaV h1 (zi h2 (zaw (zcT.ok ht n _ _ _ _ _ h3) ob)))) (by kernel_rfl)) (zb2.okL ht n k _ _ _ _ _ h)
   ·cases h
    exact zx (path (zP (zq zh.zl (l:=a1)) (zaV h1 (zi h2 ob))) (by kernel_rfl)) (fun h=>by cases h)
  ·cases h
   exact zx (path (zP (zq zh.zl (l:=a1)) (zaV h1 (zi (rfl:false=false) ob))) (by kernel_rfl)) (fun h=>by cases h)
theorem zc5.ok {n:Nat} {t:Tab} (ht:TabOk t (run Tryd.prog own kp X n)):∀(p1:List zh) (p2:Int) r,zc5 t n p1 p2=some r→run Tryd.prog own kp X (n+1) 46 [(Sl 5 (zh.ts p1)),(I6 p2)] []=some ((I6 r),[]):=by
 intro p1 p2 r h
 obtain⟨a1,rfl⟩:∃z_,z_=p1:=⟨_,rfl⟩
 obtain⟨a2,rfl⟩:∃z_,z_=p2:=⟨_,rfl⟩
 rw[zc5]at h
 obtain⟨⟨a3,a4,a5,a6,a7⟩,h1,h⟩:=sm h
 cases h
 exact zk Tryd.func46 (zbq (lk (sub [1,1,0,1,0] (zt Tryd.f46)) (by kernel_rfl) (zb2.okL ht n n _ _ _ _ _ h1)) ob) (by kernel_rfl)
theorem zbr.ok (ht:TabOk t call) (n:Nat) (a1 a2:Int) (a3:Bool) (a4 a5:Int) (a6:ByteArray) (a7 a8:List zh) (a9 a10:Int) (a11:ByteArray) (a12 a13:List zh) (r:_) (h:zbr t n a1 a2 a3 a4 a5 a6 a7 a8 a9 a10 a11 a12 a13=some r):exec (env Tryd.prog 44 Tryd.f44 call) n (sub [1,1,1,1,0,1] (zt Tryd.f44)) (mkSt 54 54 [(2,(I6 a1)),(3,(.ptr 3 0 [] 0)),(4,(.ptr 4 0 [] 0)),(7,(I6 a2)),(32,(Bo a3))] [(3,(.t (.st [(.v (.int .i64 a4)),(.v (.int .i64 a5)),(.v (.string a6)),(.sl false 5 (zh.ts a7)),(.sl false 5 (zh.ts a8))]))),(4,(.t (.st [(.v (.int .i64 a9)),(.v (.int .i64 a10)),(.v (.string a11)),(.sl false 5 (zh.ts a12)),(.sl false 5 (zh.ts a13))])))])=some (zbr.to r):=by
 rw[zbr]at h
 rcases fk h with ⟨h1,h⟩ | ⟨h1,h⟩
 ·obtain⟨a14,h2,h⟩:=sm h
  cases h
  exact path (zi h1 (zZ (ht.zdn _ _ _ _ h2) ob)) (by kernel_rfl)
 ·cases h
  exact path (zi h1 ob) (by kernel_rfl)
theorem zcB.ok (ht:TabOk t call) (n:Nat) (a1 a2:Int) (a3:Bool) (a4 a5:Int) (a6:ByteArray) (a7 a8:List zh) (a9 a10:Int) (a11:ByteArray) (a12 a13:List zh) (r:_) (h:zcB t n a1 a2 a3 a4 a5 a6 a7 a8 a9 a10 a11 a12 a13=some r):exec (env Tryd.prog 44 Tryd.f44 call) n (sub [1,1,1,1,1,0,1] (zt Tryd.f44)) (mkSt 54 54 [(2,(I6 a1)),(3,(.ptr 3 0 [] 0)),(4,(.ptr 4 0 [] 0)),(7,(I6 a2)),(45,(Bo a3))] [(3,(.t (.st [(.v (.int .i64 a4)),(.v (.int .i64 a5)),(.v (.string a6)),(.sl false 5 (zh.ts a7)),(.sl false 5 (zh.ts a8))]))),(4,(.t (.st [(.v (.int .i64 a9)),(.v (.int .i64 a10)),(.v (.string a11)),(.sl false 5 (zh.ts a12)),(.sl false 5 (zh.ts a13))])))])=some (zcB.to r):=by
 rw[zcB]at h
 rcases fk h with ⟨h1,h⟩ | ⟨h1,h⟩
 ·obtain⟨a14,rfl⟩:∃z_,z_=r:=⟨_,rfl⟩
  have h2:=h
  exact path (zi h1 (zZ (ht.zdn _ _ _ _ h2) ob)) (by kernel_rfl)
 ·cases h
  exact path (zi h1 ob) (by kernel_rfl)
theorem zcC.ok (ht:TabOk t call) (n:Nat) (a1 a2 a3 a4:Int) (a5:ByteArray) (a6 a7:List zh) (a8 a9:Int) (a10:ByteArray) (a11 a12:List zh) (r:_) (h:zcC t n a1 a2 a3 a4 a5 a6 a7 a8 a9 a10 a11 a12=some r):exec (env Tryd.prog 44 Tryd.f44 call) n (sub [1,1,1,1,1] (zt Tryd.f44)) (mkSt 54 54 [(2,(I6 a1)),(3,(.ptr 3 0 [] 0)),(4,(.ptr 4 0 [] 0)),(7,(I6 a2))] [(3,(.t (.st [(.v (.int .i64 a3)),(.v (.int .i64 a4)),(.v (.string a5)),(.sl false 5 (zh.ts a6)),(.sl false 5 (zh.ts a7))]))),(4,(.t (.st [(.v (.int .i64 a8)),(.v (.int .i64 a9)),(.v (.string a10)),(.sl false 5 (zh.ts a11)),(.sl false 5 (zh.ts a12))])))])=some (zcC.to r):=by
 rw[zcC]at h
 rcases fk h with ⟨h1,h⟩ | ⟨h1,h⟩
 ·obtain⟨a13,rfl⟩:∃z_,z_=r:=⟨_,rfl⟩
  have h2:=h
  exact path (zV h1 (zaw (zcB.ok ht n _ _ _ _ _ _ _ _ _ _ _ _ _ _ h2) ob)) (by kernel_rfl)
 ·obtain⟨a14,rfl⟩:∃z_,z_=r:=⟨_,rfl⟩
  have h3:=h
  exact path (zV h1 (zaw (zcB.ok ht n _ _ _ _ _ _ _ _ _ _ _ _ _ _ h3) ob)) (by kernel_rfl)
theorem zcD.ok (ht:TabOk t call) (n:Nat) (a1 a2 a3 a4:Int) (a5:ByteArray) (a6 a7:List zh) (a8 a9:Int) (a10:ByteArray) (a11 a12:List zh) (r:_) (h:zcD t n a1 a2 a3 a4 a5 a6 a7 a8 a9 a10 a11 a12=some r):exec (env Tryd.prog 44 Tryd.f44 call) n (sub [1,1,1,1] (zt Tryd.f44)) (mkSt 54 54 [(2,(I6 a1)),(3,(.ptr 3 0 [] 0)),(4,(.ptr 4 0 [] 0)),(7,(I6 a2))] [(3,(.t (.st [(.v (.int .i64 a3)),(.v (.int .i64 a4)),(.v (.string a5)),(.sl false 5 (zh.ts a6)),(.sl false 5 (zh.ts a7))]))),(4,(.t (.st [(.v (.int .i64 a8)),(.v (.int .i64 a9)),(.v (.string a10)),(.sl false 5 (zh.ts a11)),(.sl false 5 (zh.ts a12))])))])=some (zcD.to r):=by
 rw[zcD]at h
 rcases fk h with ⟨h1,h⟩ | ⟨h1,h⟩
 ·obtain⟨⟨a13,a14,a15,a16,a17,a18,a19,a20,a21,a22,a23,a24⟩,h2,h⟩:=sm h
  obtain⟨a25,rfl⟩:∃z_,z_=r:=⟨_,rfl⟩
  have h3:=h
  exact path (zV h1 (zaw (zbr.ok ht n _ _ _ _ _ _ _ _ _ _ _ _ _ _ h2) (zaw (zcC.ok ht n _ _ _ _ _ _ _ _ _ _ _ _ _ h3) ob))) (by kernel_rfl)
 ·obtain⟨⟨a26,a27,a28,a29,a30,a31,a32,a33,a34,a35,a36,a37⟩,h4,h⟩:=sm h
  obtain⟨a38,rfl⟩:∃z_,z_=r:=⟨_,rfl⟩
  have h5:=h
  exact path (zV h1 (zaw (zbr.ok ht n _ _ _ _ _ _ _ _ _ _ _ _ _ _ h4) (zaw (zcC.ok ht n _ _ _ _ _ _ _ _ _ _ _ _ _ h5) ob))) (by kernel_rfl)
end Go.Proofs.YtgmidllbkjdnnaaDoor.W
