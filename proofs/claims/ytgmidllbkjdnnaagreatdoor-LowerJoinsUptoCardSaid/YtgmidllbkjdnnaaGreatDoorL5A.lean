/- The data of this program as Lean has it, and as trees. -/
import Derived.Test.YtgmidllbkjdnnaaGreatDoorFlatM3
import Derived.Test.YtgmidllbkjdnnaaGreatDoorProg
namespace Go.Proofs.YtgmidllbkjdnnaaGreatDoor.W
open Go.Proofs.YtgmidllbkjdnnaaGreatDoor.Flat
set_option linter.unusedVariables false
set_option linter.unusedSimpArgs false
inductive zh where
  | mk (Kind:Int) (N:Int) (S:ByteArray) (L:List zh) (M:List zh)
mutual
def zh.t : zh → T
  | .mk a0 a1 a2 a3 a4=>.st [(.v (.int .i64 a0)),(.v (.int .i64 a1)),(.v (.string a2)),(.sl false 5 (zh.ts a3)),(.sl false 5 (zh.ts a4))]
def zh.ts : List zh → List T
  | []=>[]
  | x::xs=>x.t::zh.ts xs
end
theorem zh.zl : ∀ l, zh.ts l = l.map zh.t
  | []=>by rw[zh.ts];rfl
  | x::xs=>by rw[zh.ts,zh.zl xs,List.map_cons]
inductive GPred where
  | mk (Kind:Int) (V:List zh) (P:List GPred)
mutual
def GPred.t : GPred → T
  | .mk a0 a1 a2=>.st [(.v (.int .i64 a0)),(.sl false 5 (zh.ts a1)),(.sl false 3 (GPred.ts a2))]
def GPred.ts : List GPred → List T
  | []=>[]
  | x::xs=>x.t::GPred.ts xs
end
theorem GPred.zl : ∀ l, GPred.ts l = l.map GPred.t
  | []=>by rw[GPred.ts];rfl
  | x::xs=>by rw[GPred.ts,GPred.zl xs,List.map_cons]
mutual
inductive GStep where
  | mk (Op:Int) (S:List ByteArray) (N:List Int) (V:zh) (P:GPred) (T:List (List GStep)) (By:List GBy) (As:List ByteArray)
inductive GBy where
  | mk (Kind:Int) (Key:ByteArray) (T:List GStep) (Desc:Bool)
end
mutual
def GStep.t : GStep → T
  | .mk a0 a1 a2 a3 a4 a5 a6 a7=>.st [(.v (.int .i64 a0)),(.sl false 1 (texts a1)),(.sl false 1 (zA a2)),(zh.t a3),(GPred.t a4),(.sl false 1 (zo a5)),(.sl false 4 (GBy.ts a6)),(.sl false 1 (texts a7))]
def GStep.ts : List GStep → List T
  | []=>[]
  | x::xs=>x.t::GStep.ts xs
def GBy.t : GBy → T
  | .mk a0 a1 a2 a3=>.st [(.v (.int .i64 a0)),(.v (.string a1)),(.sl false 14 (GStep.ts a2)),(.v (.bool a3))]
def GBy.ts : List GBy → List T
  | []=>[]
  | x::xs=>x.t::GBy.ts xs
def zo : List (List GStep) → List T
  | []=>[]
  | x::xs=>(.sl false 14 (GStep.ts x))::zo xs
end
theorem GStep.zl : ∀ l, GStep.ts l = l.map GStep.t
  | []=>by rw[GStep.ts];rfl
  | x::xs=>by rw[GStep.ts,GStep.zl xs,List.map_cons]
theorem GBy.zl : ∀ l, GBy.ts l = l.map GBy.t
  | []=>by rw[GBy.ts];rfl
  | x::xs=>by rw[GBy.ts,GBy.zl xs,List.map_cons]
theorem zx : ∀ l, zo l = l.map fun x => (.sl false 14 (GStep.ts x))
  | []=>by rw[zo];rfl
  | x::xs=>by rw[zo,zx xs,List.map_cons]
inductive GKey where
  | mk (Kind:Int) (Key:ByteArray) (Kid:Int) (Desc:Bool)
def GKey.t : GKey → T
  | .mk a0 a1 a2 a3=>.st [(.v (.int .i64 a0)),(.v (.string a1)),(.v (.int .i64 a2)),(.v (.bool a3))]
def GKey.ts : List GKey → List T
  | []=>[]
  | x::xs=>x.t::GKey.ts xs
theorem GKey.zl : ∀ l, GKey.ts l = l.map GKey.t
  | []=>by rw[GKey.ts];rfl
  | x::xs=>by rw[GKey.ts,GKey.zl xs,List.map_cons]
inductive GCode where
  | mk (Op:Int) (S:List ByteArray) (N:List Int) (V:zh) (P:GPred) (Kids:List Int) (By:List GKey) (As:List ByteArray)
def GCode.t : GCode → T
  | .mk a0 a1 a2 a3 a4 a5 a6 a7=>.st [(.v (.int .i64 a0)),(.sl false 1 (texts a1)),(.sl false 1 (zA a2)),(zh.t a3),(GPred.t a4),(.sl false 1 (zA a5)),(.sl false 4 (GKey.ts a6)),(.sl false 1 (texts a7))]
def GCode.ts : List GCode → List T
  | []=>[]
  | x::xs=>x.t::GCode.ts xs
theorem GCode.zl : ∀ l, GCode.ts l = l.map GCode.t
  | []=>by rw[GCode.ts];rfl
  | x::xs=>by rw[GCode.ts,GCode.zl xs,List.map_cons]
inductive GProg where
  | mk (Rows:List (List GCode))
def zbl : List (List GCode) → List T
  | []=>[]
  | x::xs=>(.sl false 14 (GCode.ts x))::zbl xs
theorem zC : ∀ l, zbl l = l.map fun x => (.sl false 14 (GCode.ts x))
  | []=>by rw[zbl];rfl
  | x::xs=>by rw[zbl,zC xs,List.map_cons]
def GProg.t : GProg → T
  | .mk a0=>.st [(.sl false 1 (zbl a0))]
def GProg.ts : List GProg → List T
  | []=>[]
  | x::xs=>x.t::GProg.ts xs
theorem GProg.zl : ∀ l, GProg.ts l = l.map GProg.t
  | []=>by rw[GProg.ts];rfl
  | x::xs=>by rw[GProg.ts,GProg.zl xs,List.map_cons]
inductive zV where
  | mk (rows:List (List GCode))
def zV.t : zV → T
  | .mk a0=>.st [(.sl false 1 (zbl a0))]
def zV.ts : List zV → List T
  | []=>[]
  | x::xs=>x.t::zV.ts xs
theorem zV.zl : ∀ l, zV.ts l = l.map zV.t
  | []=>by rw[zV.ts];rfl
  | x::xs=>by rw[zV.ts,zV.zl xs,List.map_cons]
inductive zH where
  | mk (rows:List (List GCode)) (met:Int)
def zH.t : zH → T
  | .mk a0 a1=>.st [(.sl false 1 (zbl a0)),(.v (.int .i64 a1))]
def zH.ts : List zH → List T
  | []=>[]
  | x::xs=>x.t::zH.ts xs
theorem zH.zl : ∀ l, zH.ts l = l.map zH.t
  | []=>by rw[zH.ts];rfl
  | x::xs=>by rw[zH.ts,zH.zl xs,List.map_cons]
inductive GT122 where
  | mk (x0:Int) (x1:Int)
def GT122.t : GT122 → T
  | .mk a0 a1=>.st [(.v (.int .i64 a0)),(.v (.int .i64 a1))]
def GT122.ts : List GT122 → List T
  | []=>[]
  | x::xs=>x.t::GT122.ts xs
theorem GT122.zl : ∀ l, GT122.ts l = l.map GT122.t
  | []=>by rw[GT122.ts];rfl
  | x::xs=>by rw[GT122.ts,GT122.zl xs,List.map_cons]
inductive zm where
  | mk (s:GT122) (n:GT122) (t:GT122) (by_:GT122) (v:Bool) (p:Bool)
def zm.t : zm → T
  | .mk a0 a1 a2 a3 a4 a5=>.st [(GT122.t a0),(GT122.t a1),(GT122.t a2),(GT122.t a3),(.v (.bool a4)),(.v (.bool a5))]
def zm.ts : List zm → List T
  | []=>[]
  | x::xs=>x.t::zm.ts xs
theorem zm.zl : ∀ l, zm.ts l = l.map zm.t
  | []=>by rw[zm.ts];rfl
  | x::xs=>by rw[zm.ts,zm.zl xs,List.map_cons]
inductive GT125 where
  | mk (x0:zm) (x1:zm) (x2:zm) (x3:zm) (x4:zm) (x5:zm) (x6:zm) (x7:zm) (x8:zm) (x9:zm) (x10:zm) (x11:zm) (x12:zm) (x13:zm) (x14:zm) (x15:zm) (x16:zm) (x17:zm) (x18:zm) (x19:zm) (x20:zm) (x21:zm) (x22:zm) (x23:zm) (x24:zm) (x25:zm) (x26:zm) (x27:zm) (x28:zm) (x29:zm) (x30:zm) (x31:zm) (x32:zm) (x33:zm) (x34:zm) (x35:zm) (x36:zm) (x37:zm) (x38:zm) (x39:zm) (x40:zm) (x41:zm) (x42:zm) (x43:zm) (x44:zm) (x45:zm) (x46:zm) (x47:zm) (x48:zm) (x49:zm) (x50:zm) (x51:zm)
def GT125.t : GT125 → T
  | .mk a0 a1 a2 a3 a4 a5 a6 a7 a8 a9 a10 a11 a12 a13 a14 a15 a16 a17 a18 a19 a20 a21 a22 a23 a24 a25 a26 a27 a28 a29 a30 a31 a32 a33 a34 a35 a36 a37 a38 a39 a40 a41 a42 a43 a44 a45 a46 a47 a48 a49 a50 a51=>.st [(zm.t a0),(zm.t a1),(zm.t a2),(zm.t a3),(zm.t a4),(zm.t a5),(zm.t a6),(zm.t a7),(zm.t a8),(zm.t a9),(zm.t a10),(zm.t a11),(zm.t a12),(zm.t a13),(zm.t a14),(zm.t a15),(zm.t a16),(zm.t a17),(zm.t a18),(zm.t a19),(zm.t a20),(zm.t a21),(zm.t a22),(zm.t a23),(zm.t a24),(zm.t a25),(zm.t a26),(zm.t a27),(zm.t a28),(zm.t a29),(zm.t a30),(zm.t a31),(zm.t a32),(zm.t a33),(zm.t a34),(zm.t a35),(zm.t a36),(zm.t a37),(zm.t a38),(zm.t a39),(zm.t a40),(zm.t a41),(zm.t a42),(zm.t a43),(zm.t a44),(zm.t a45),(zm.t a46),(zm.t a47),(zm.t a48),(zm.t a49),(zm.t a50),(zm.t a51)]
def GT125.ts : List GT125 → List T
  | []=>[]
  | x::xs=>x.t::GT125.ts xs
theorem GT125.zl : ∀ l, GT125.ts l = l.map GT125.t
  | []=>by rw[GT125.ts];rfl
  | x::xs=>by rw[GT125.ts,GT125.zl xs,List.map_cons]
def zcB : List (List zh) → List T
  | []=>[]
  | x::xs=>(.sl false 5 (zh.ts x))::zcB xs
theorem zeC : ∀ l, zcB l = l.map fun x => (.sl false 5 (zh.ts x))
  | []=>by rw[zcB];rfl
  | x::xs=>by rw[zcB,zeC xs,List.map_cons]
mutual
def zh.x : zh → T
  | .mk a0 a1 a2 a3 a4=>.st [(.v (.int .i64 a0)),(.v (.int .i64 a1)),(.v (.string a2)),(.xl 5 (zh.xs a3)),(.xl 5 (zh.xs a4))]
def zh.xs : List zh → List T
  | []=>[]
  | x::xs=>x.x::zh.xs xs
end
theorem zh.zhu : ∀ l, zh.xs l = l.map zh.x
  | []=>by rw[zh.xs];rfl
  | x::xs=>by rw[zh.xs,zh.zhu xs,List.map_cons]
mutual
theorem zh.zh3 : ∀ a : zh, a.x.pub = a.t
  | .mk a0 a1 a2 a3 a4=>by rw[zh.x,zh.t];simp only[T.pub,pubs,zh.zfV]
theorem zh.zfV : ∀ {l : List zh}, pubs (zh.xs l) = zh.ts l
  | []=>by rw[zh.xs,zh.ts,pubs]
  | x::xs=>by rw[zh.xs,zh.ts,pubs,zh.zh3 x,zh.zfV]
end
theorem zh.zgR (a:zh):a.t.pub=a.t:=by
  obtain⟨a0,a1,a2,a3,a4⟩:=a
  rw[zh.t];simp only[T.pub,pubs]
theorem zh.zhv {l:List zh}:pubs (zh.ts l)=zh.ts l:=zht zh.zl zh.zl zh.zgR
mutual
def GPred.x : GPred → T
  | .mk a0 a1 a2=>.st [(.v (.int .i64 a0)),(.xl 5 (zh.xs a1)),(.xl 3 (GPred.xs a2))]
def GPred.xs : List GPred → List T
  | []=>[]
  | x::xs=>x.x::GPred.xs xs
end
theorem GPred.zhu : ∀ l, GPred.xs l = l.map GPred.x
  | []=>by rw[GPred.xs];rfl
  | x::xs=>by rw[GPred.xs,GPred.zhu xs,List.map_cons]
mutual
theorem GPred.zh3 : ∀ a : GPred, a.x.pub = a.t
  | .mk a0 a1 a2=>by rw[GPred.x,GPred.t];simp only[T.pub,pubs,GPred.zfV,zh.zfV]
theorem GPred.zfV : ∀ {l : List GPred}, pubs (GPred.xs l) = GPred.ts l
  | []=>by rw[GPred.xs,GPred.ts,pubs]
  | x::xs=>by rw[GPred.xs,GPred.ts,pubs,GPred.zh3 x,GPred.zfV]
end
theorem GPred.zgR (a:GPred):a.t.pub=a.t:=by
  obtain⟨a0,a1,a2⟩:=a
  rw[GPred.t];simp only[T.pub,pubs]
theorem GPred.zhv {l:List GPred}:pubs (GPred.ts l)=GPred.ts l:=zht GPred.zl GPred.zl GPred.zgR
theorem GKey.zgR (a:GKey):a.t.pub=a.t:=by
  obtain⟨a0,a1,a2,a3⟩:=a
  rw[GKey.t];simp only[T.pub,pubs]
theorem GKey.zhv {l:List GKey}:pubs (GKey.ts l)=GKey.ts l:=zht GKey.zl GKey.zl GKey.zgR
mutual
def GCode.x : GCode → T
  | .mk a0 a1 a2 a3 a4 a5 a6 a7=>.st [(.v (.int .i64 a0)),(.xl 1 (texts a1)),(.xl 1 (zA a2)),(zh.x a3),(GPred.x a4),(.xl 1 (zA a5)),(.xl 4 (GKey.ts a6)),(.xl 1 (texts a7))]
def GCode.xs : List GCode → List T
  | []=>[]
  | x::xs=>x.x::GCode.xs xs
def zbq : List (List GCode) → List T
  | []=>[]
  | x::xs=>(.xl 14 (GCode.ts x))::zbq xs
end
theorem GCode.zhu : ∀ l, GCode.xs l = l.map GCode.x
  | []=>by rw[GCode.xs];rfl
  | x::xs=>by rw[GCode.xs,GCode.zhu xs,List.map_cons]
theorem zbH : ∀ l, zbq l = l.map fun x => (.xl 14 (GCode.ts x))
  | []=>by rw[zbq];rfl
  | x::xs=>by rw[zbq,zbH xs,List.map_cons]
mutual
theorem GCode.zh3 : ∀ a : GCode, a.x.pub = a.t
  | .mk a0 a1 a2 a3 a4 a5 a6 a7=>by rw[GCode.x,GCode.t];simp only[T.pub,pubs,GKey.zhv,GPred.zh3,zh.zh3,zh1,zoh]
theorem GCode.zfV : ∀ {l : List GCode}, pubs (GCode.xs l) = GCode.ts l
  | []=>by rw[GCode.xs,GCode.ts,pubs]
  | x::xs=>by rw[GCode.xs,GCode.ts,pubs,GCode.zh3 x,GCode.zfV]
end
theorem GCode.zgR (a:GCode):a.t.pub=a.t:=by
  obtain⟨a0,a1,a2,a3,a4,a5,a6,a7⟩:=a
  rw[GCode.t];simp only[T.pub,pubs,GPred.zgR,zh.zgR]
theorem GCode.zhv {l:List GCode}:pubs (GCode.ts l)=GCode.ts l:=zht GCode.zl GCode.zl GCode.zgR
theorem zeT : ∀ {l : List (List GCode)}, pubs (zbq l) = zbl l
  | []=>by rw[zbq,zbl,pubs]
  | x::xs=>by rw[zbq,zbl,pubs,T.pub,GCode.zhv,zeT]
mutual
def zV.x : zV → T
  | .mk a0=>.st [(.xl 1 (zbq a0))]
def zV.xs : List zV → List T
  | []=>[]
  | x::xs=>x.x::zV.xs xs
end
theorem zV.zhu : ∀ l, zV.xs l = l.map zV.x
  | []=>by rw[zV.xs];rfl
  | x::xs=>by rw[zV.xs,zV.zhu xs,List.map_cons]
mutual
theorem zV.zh3 : ∀ a : zV, a.x.pub = a.t
  | .mk a0=>by rw[zV.x,zV.t];simp only[T.pub,pubs,zeT]
theorem zV.zfV : ∀ {l : List zV}, pubs (zV.xs l) = zV.ts l
  | []=>by rw[zV.xs,zV.ts,pubs]
  | x::xs=>by rw[zV.xs,zV.ts,pubs,zV.zh3 x,zV.zfV]
end
theorem zV.zgR (a:zV):a.t.pub=a.t:=by
  obtain⟨a0⟩:=a
  rw[zV.t];simp only[T.pub,pubs]
theorem zV.zhv {l:List zV}:pubs (zV.ts l)=zV.ts l:=zht zV.zl zV.zl zV.zgR
def gl0:List ByteArray:=[(ByteArray.mk #[]),(ByteArray.mk #[86]),(ByteArray.mk #[69]),(ByteArray.mk #[79,117,116]),(ByteArray.mk #[73,110]),(ByteArray.mk #[66,111,116,104]),(ByteArray.mk #[79,117,116,69]),(ByteArray.mk #[73,110,69]),(ByteArray.mk #[66,111,116,104,69]),(ByteArray.mk #[79,117,116,86]),(ByteArray.mk #[73,110,86]),(ByteArray.mk #[66,111,116,104,86]),(ByteArray.mk #[73,68]),(ByteArray.mk #[76,97,98,101,108]),(ByteArray.mk #[86,97,108,117,101,115]),(ByteArray.mk #[67,111,110,115,116,97,110,116]),(ByteArray.mk #[73,100,101,110,116,105,116,121]),(ByteArray.mk #[72,97,115,76,97,98,101,108]),(ByteArray.mk #[72,97,115]),(ByteArray.mk #[72,97,115,75,101,121]),(ByteArray.mk #[72,97,115,78,111,116]),(ByteArray.mk #[72,97,115,73,68]),(ByteArray.mk #[73,115]),(ByteArray.mk #[68,101,100,117,112]),(ByteArray.mk #[82,97,110,103,101]),(ByteArray.mk #[84,97,105,108]),(ByteArray.mk #[83,105,109,112,108,101]),(ByteArray.mk #[67,121,99,108,105,99]),(ByteArray.mk #[87,104,101,114,101]),(ByteArray.mk #[78,111,116,84,104,97,116]),(ByteArray.mk #[65,108,108,79,102]),(ByteArray.mk #[65,110,121,79,102]),(ByteArray.mk #[67,111,117,110,116]),(ByteArray.mk #[83,117,109]),(ByteArray.mk #[77,105,110]),(ByteArray.mk #[77,97,120]),(ByteArray.mk #[70,111,108,100]),(ByteArray.mk #[85,110,102,111,108,100]),(ByteArray.mk #[84,114,97,105,108]),(ByteArray.mk #[83,101,108,101,99,116]),(ByteArray.mk #[79,114,100,101,114]),(ByteArray.mk #[71,114,111,117,112]),(ByteArray.mk #[71,114,111,117,112,67,111,117,110,116]),(ByteArray.mk #[80,114,111,106,101,99,116]),(ByteArray.mk #[85,110,105,111,110]),(ByteArray.mk #[67,111,97,108,101,115,99,101]),(ByteArray.mk #[67,104,111,111,115,101]),(ByteArray.mk #[79,112,116,105,111,110,97,108]),(ByteArray.mk #[82,101,112,101,97,116]),(ByteArray.mk #[65,103,103,114,101,103,97,116,101]),(ByteArray.mk #[67,97,112]),(ByteArray.mk #[66,97,114,114,105,101,114])]
instance:Glob:=⟨fun g=>if g=0 then some (.st (texts gl0))else none⟩
set_option maxRecDepth 100000
def zh.In (a:zh):Prop:=∃n,TyT Tryz.prog n 42 a.t
theorem zh.of : ∀ (n : Nat) (x : T), TyT Tryz.prog n 42 x → ∃ a : zh, x = a.t ∧ zh.In a
  | n,x,h=>by
    have h0:=h
    obtain⟨m,xs,hn,rfl,h1⟩:=zfG Tryz.underlying42 h
    obtain⟨b0,xs0,rfl,c0,h2⟩:=zdx h1
    obtain⟨b1,xs1,rfl,c1,h3⟩:=zdx h2
    obtain⟨b2,xs2,rfl,c2,h4⟩:=zdx h3
    obtain⟨b3,xs3,rfl,c3,h5⟩:=zdx h4
    obtain⟨b4,xs4,rfl,c4,h6⟩:=zdx h5
    obtain rfl:=zh2 h6
    obtain⟨d0,rfl,_⟩:=zgn Tryz.underlying3 c0
    obtain⟨d1,rfl,_⟩:=zgn Tryz.underlying3 c1
    obtain⟨d2,rfl,_⟩:=zfF Tryz.underlying9 c2
    obtain⟨d3,rfl,_,_⟩:=zeA (Q:=(fun _=>True)) zh.zl Tryz.underlying40 (show _=5 from by kernel_rfl) (show _=80 from by kernel_rfl) (fun j hj y hy=>by obtain⟨a,e,_⟩:=zh.of j y hy;exact⟨a,e,trivial⟩) c3
    obtain⟨d4,rfl,_,_⟩:=zeA (Q:=(fun _=>True)) zh.zl Tryz.underlying40 (show _=5 from by kernel_rfl) (show _=80 from by kernel_rfl) (fun j hj y hy=>by obtain⟨a,e,_⟩:=zh.of j y hy;exact⟨a,e,trivial⟩) c4
    exact⟨.mk d0 d1 d2 d3 d4,rfl,n,h0⟩
  termination_by n=>n
  decreasing_by all_goals omega
theorem zh.zmi {a0:Int} {a1:Int} {a2:ByteArray} {a3:List zh} {a4:List zh} (h:zh.In (.mk a0 a1 a2 a3 a4)):((Lit.int .i64 a0).wf=true)∧((Lit.int .i64 a1).wf=true)∧(a2.size≤140737488351232)∧(a3.length * 80≤140737488351232∧∀w0∈a3,zh.In w0)∧(a4.length * 80≤140737488351232∧∀w0∈a4,zh.In w0):=by
  obtain⟨n,h⟩:=h
  rw[zh.t]at h
  obtain⟨m,h1⟩:=zgp Tryz.underlying42 h
  obtain⟨c0,c1,c2,c3,c4,_⟩:=h1
  exact⟨(zhc Tryz.underlying3 c0),(zhc Tryz.underlying3 c1),(zgo Tryz.underlying9 c2),⟨(zcY zh.zl Tryz.underlying40 (show _=80 from by kernel_rfl) c3).1,fun y hy=>(by obtain⟨m2,h2⟩:=(zcY zh.zl Tryz.underlying40 (show _=80 from by kernel_rfl) c3).2 y hy;exact⟨m2,h2⟩)⟩,⟨(zcY zh.zl Tryz.underlying40 (show _=80 from by kernel_rfl) c4).1,fun y hy=>(by obtain⟨m2,h2⟩:=(zcY zh.zl Tryz.underlying40 (show _=80 from by kernel_rfl) c4).2 y hy;exact⟨m2,h2⟩)⟩⟩
def GPred.In (a:GPred):Prop:=∃n,TyT Tryz.prog n 45 a.t
theorem GPred.of : ∀ (n : Nat) (x : T), TyT Tryz.prog n 45 x → ∃ a : GPred, x = a.t ∧ GPred.In a
  | n,x,h=>by
    have h0:=h
    obtain⟨m,xs,hn,rfl,h1⟩:=zfG Tryz.underlying45 h
    obtain⟨b0,xs0,rfl,c0,h2⟩:=zdx h1
    obtain⟨b1,xs1,rfl,c1,h3⟩:=zdx h2
    obtain⟨b2,xs2,rfl,c2,h4⟩:=zdx h3
    obtain rfl:=zh2 h4
    obtain⟨d0,rfl,_⟩:=zgn Tryz.underlying3 c0
    obtain⟨d1,rfl,_,_⟩:=zeA (Q:=(fun _=>True)) zh.zl Tryz.underlying40 (show _=5 from by kernel_rfl) (show _=80 from by kernel_rfl) (fun j hj y hy=>by obtain⟨a,e,_⟩:=zh.of j y hy;exact⟨a,e,trivial⟩) c1
    obtain⟨d2,rfl,_,_⟩:=zeA (Q:=(fun _=>True)) GPred.zl Tryz.underlying43 (show _=3 from by kernel_rfl) (show _=56 from by kernel_rfl) (fun j hj y hy=>by obtain⟨a,e,_⟩:=GPred.of j y hy;exact⟨a,e,trivial⟩) c2
    exact⟨.mk d0 d1 d2,rfl,n,h0⟩
  termination_by n=>n
  decreasing_by all_goals omega
theorem GPred.zmi {a0:Int} {a1:List zh} {a2:List GPred} (h:GPred.In (.mk a0 a1 a2)):((Lit.int .i64 a0).wf=true)∧(a1.length * 80≤140737488351232∧∀w0∈a1,zh.In w0)∧(a2.length * 56≤140737488351232∧∀w0∈a2,GPred.In w0):=by
  obtain⟨n,h⟩:=h
  rw[GPred.t]at h
  obtain⟨m,h1⟩:=zgp Tryz.underlying45 h
  obtain⟨c0,c1,c2,_⟩:=h1
  exact⟨(zhc Tryz.underlying3 c0),⟨(zcY zh.zl Tryz.underlying40 (show _=80 from by kernel_rfl) c1).1,fun y hy=>(by obtain⟨m2,h2⟩:=(zcY zh.zl Tryz.underlying40 (show _=80 from by kernel_rfl) c1).2 y hy;exact⟨m2,h2⟩)⟩,⟨(zcY GPred.zl Tryz.underlying43 (show _=56 from by kernel_rfl) c2).1,fun y hy=>(by obtain⟨m2,h2⟩:=(zcY GPred.zl Tryz.underlying43 (show _=56 from by kernel_rfl) c2).2 y hy;exact⟨m2,h2⟩)⟩⟩
def GStep.In (a:GStep):Prop:=∃n,TyT Tryz.prog n 59 a.t
def GBy.In (a:GBy):Prop:=∃n,TyT Tryz.prog n 78 a.t
mutual
theorem GStep.of : ∀ (n : Nat) (x : T), TyT Tryz.prog n 59 x → ∃ a : GStep, x = a.t ∧ GStep.In a
  | n,x,h=>by
    have h0:=h
    obtain⟨m,xs,hn,rfl,h1⟩:=zfG Tryz.underlying59 h
    obtain⟨b0,xs0,rfl,c0,h2⟩:=zdx h1
    obtain⟨b1,xs1,rfl,c1,h3⟩:=zdx h2
    obtain⟨b2,xs2,rfl,c2,h4⟩:=zdx h3
    obtain⟨b3,xs3,rfl,c3,h5⟩:=zdx h4
    obtain⟨b4,xs4,rfl,c4,h6⟩:=zdx h5
    obtain⟨b5,xs5,rfl,c5,h7⟩:=zdx h6
    obtain⟨b6,xs6,rfl,c6,h8⟩:=zdx h7
    obtain⟨b7,xs7,rfl,c7,h9⟩:=zdx h8
    obtain rfl:=zh2 h9
    obtain⟨d0,rfl,_⟩:=zgn Tryz.underlying3 c0
    obtain⟨d1,rfl,_,_⟩:=zeA (Q:=(fun _=>True)) zJ Tryz.underlying38 (show _=1 from by kernel_rfl) (show _=16 from by kernel_rfl) (fun j hj y hy=>by obtain⟨a,e,_⟩:=zfF Tryz.underlying9 hy;exact⟨a,e,trivial⟩) c1
    obtain⟨d2,rfl,_,_⟩:=zeA (Q:=(fun _=>True)) zz Tryz.underlying39 (show _=1 from by kernel_rfl) (show _=8 from by kernel_rfl) (fun j hj y hy=>by obtain⟨a,e,_⟩:=zgn Tryz.underlying3 hy;exact⟨a,e,trivial⟩) c2
    obtain⟨d3,rfl,_⟩:=zh.of m _ c3
    obtain⟨d4,rfl,_⟩:=GPred.of m _ c4
    obtain⟨d5,rfl,_,_⟩:=zeA (Q:=(fun _=>True)) zx Tryz.underlying56 (show _=1 from by kernel_rfl) (show _=24 from by kernel_rfl) (fun j hj y hy=>by obtain⟨a,e,_,_⟩:=zeA (Q:=(fun _=>True)) GStep.zl Tryz.underlying22 (show _=14 from by kernel_rfl) (show _=264 from by kernel_rfl) (fun j hj y hy=>by obtain⟨a,e,_⟩:=GStep.of j y hy;exact⟨a,e,trivial⟩) hy;exact⟨a,e,trivial⟩) c5
    obtain⟨d6,rfl,_,_⟩:=zeA (Q:=(fun _=>True)) GBy.zl Tryz.underlying57 (show _=4 from by kernel_rfl) (show _=56 from by kernel_rfl) (fun j hj y hy=>by obtain⟨a,e,_⟩:=GBy.of j y hy;exact⟨a,e,trivial⟩) c6
    obtain⟨d7,rfl,_,_⟩:=zeA (Q:=(fun _=>True)) zJ Tryz.underlying38 (show _=1 from by kernel_rfl) (show _=16 from by kernel_rfl) (fun j hj y hy=>by obtain⟨a,e,_⟩:=zfF Tryz.underlying9 hy;exact⟨a,e,trivial⟩) c7
    exact⟨.mk d0 d1 d2 d3 d4 d5 d6 d7,rfl,n,h0⟩
  termination_by n=>n
  decreasing_by all_goals omega
theorem GBy.of : ∀ (n : Nat) (x : T), TyT Tryz.prog n 78 x → ∃ a : GBy, x = a.t ∧ GBy.In a
  | n,x,h=>by
    have h0:=h
    obtain⟨m,xs,hn,rfl,h1⟩:=zfG Tryz.underlying78 h
    obtain⟨b0,xs0,rfl,c0,h2⟩:=zdx h1
    obtain⟨b1,xs1,rfl,c1,h3⟩:=zdx h2
    obtain⟨b2,xs2,rfl,c2,h4⟩:=zdx h3
    obtain⟨b3,xs3,rfl,c3,h5⟩:=zdx h4
    obtain rfl:=zh2 h5
    obtain⟨d0,rfl,_⟩:=zgn Tryz.underlying3 c0
    obtain⟨d1,rfl,_⟩:=zfF Tryz.underlying9 c1
    obtain⟨d2,rfl,_,_⟩:=zeA (Q:=(fun _=>True)) GStep.zl Tryz.underlying22 (show _=14 from by kernel_rfl) (show _=264 from by kernel_rfl) (fun j hj y hy=>by obtain⟨a,e,_⟩:=GStep.of j y hy;exact⟨a,e,trivial⟩) c2
    obtain⟨d3,rfl⟩:=zoR Tryz.underlying4 c3
    exact⟨.mk d0 d1 d2 d3,rfl,n,h0⟩
  termination_by n=>n
  decreasing_by all_goals omega
end
theorem GStep.zmi {a0:Int} {a1:List ByteArray} {a2:List Int} {a3:zh} {a4:GPred} {a5:List (List GStep)} {a6:List GBy} {a7:List ByteArray} (h:GStep.In (.mk a0 a1 a2 a3 a4 a5 a6 a7)):((Lit.int .i64 a0).wf=true)∧(a1.length * 16≤140737488351232∧∀w0∈a1,w0.size≤140737488351232)∧(a2.length * 8≤140737488351232∧∀w0∈a2,(Lit.int .i64 w0).wf=true)∧(zh.In a3)∧(GPred.In a4)∧(a5.length * 24≤140737488351232∧∀w0∈a5,w0.length * 264≤140737488351232∧∀w1∈w0,GStep.In w1)∧(a6.length * 56≤140737488351232∧∀w0∈a6,GBy.In w0)∧(a7.length * 16≤140737488351232∧∀w0∈a7,w0.size≤140737488351232):=by
  obtain⟨n,h⟩:=h
  rw[GStep.t]at h
  obtain⟨m,h1⟩:=zgp Tryz.underlying59 h
  obtain⟨c0,c1,c2,c3,c4,c5,c6,c7,_⟩:=h1
  exact⟨(zhc Tryz.underlying3 c0),⟨(zcY zJ Tryz.underlying38 (show _=16 from by kernel_rfl) c1).1,fun y hy=>(by obtain⟨m2,h2⟩:=(zcY zJ Tryz.underlying38 (show _=16 from by kernel_rfl) c1).2 y hy;exact(zgo Tryz.underlying9 h2))⟩,⟨(zcY zz Tryz.underlying39 (show _=8 from by kernel_rfl) c2).1,fun y hy=>(by obtain⟨m2,h2⟩:=(zcY zz Tryz.underlying39 (show _=8 from by kernel_rfl) c2).2 y hy;exact(zhc Tryz.underlying3 h2))⟩,⟨m,c3⟩,⟨m,c4⟩,⟨(zcY zx Tryz.underlying56 (show _=24 from by kernel_rfl) c5).1,fun y hy=>(by obtain⟨m2,h2⟩:=(zcY zx Tryz.underlying56 (show _=24 from by kernel_rfl) c5).2 y hy;exact⟨(zcY GStep.zl Tryz.underlying22 (show _=264 from by kernel_rfl) h2).1,fun y hy=>(by obtain⟨m2,h2⟩:=(zcY GStep.zl Tryz.underlying22 (show _=264 from by kernel_rfl) h2).2 y hy;exact⟨m2,h2⟩)⟩)⟩,⟨(zcY GBy.zl Tryz.underlying57 (show _=56 from by kernel_rfl) c6).1,fun y hy=>(by obtain⟨m2,h2⟩:=(zcY GBy.zl Tryz.underlying57 (show _=56 from by kernel_rfl) c6).2 y hy;exact⟨m2,h2⟩)⟩,⟨(zcY zJ Tryz.underlying38 (show _=16 from by kernel_rfl) c7).1,fun y hy=>(by obtain⟨m2,h2⟩:=(zcY zJ Tryz.underlying38 (show _=16 from by kernel_rfl) c7).2 y hy;exact(zgo Tryz.underlying9 h2))⟩⟩
theorem GBy.zmi {a0:Int} {a1:ByteArray} {a2:List GStep} {a3:Bool} (h:GBy.In (.mk a0 a1 a2 a3)):((Lit.int .i64 a0).wf=true)∧(a1.size≤140737488351232)∧(a2.length * 264≤140737488351232∧∀w0∈a2,GStep.In w0):=by
  obtain⟨n,h⟩:=h
  rw[GBy.t]at h
  obtain⟨m,h1⟩:=zgp Tryz.underlying78 h
  obtain⟨c0,c1,c2,c3,_⟩:=h1
  exact⟨(zhc Tryz.underlying3 c0),(zgo Tryz.underlying9 c1),⟨(zcY GStep.zl Tryz.underlying22 (show _=264 from by kernel_rfl) c2).1,fun y hy=>(by obtain⟨m2,h2⟩:=(zcY GStep.zl Tryz.underlying22 (show _=264 from by kernel_rfl) c2).2 y hy;exact⟨m2,h2⟩)⟩⟩
end Go.Proofs.YtgmidllbkjdnnaaGreatDoor.W
