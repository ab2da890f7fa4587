/- The functions of this program, over plain data. -/
import Derived.Test.YtgmidllbkjdnnaaGreatDoorL5A
import Derived.Lib.Bytealg
namespace Go.Proofs.YtgmidllbkjdnnaaGreatDoor.W
open Go.Proofs.YtgmidllbkjdnnaaGreatDoor.Flat
set_option linter.unusedVariables false
set_option linter.unusedSimpArgs false
structure Tab where
  zbE:(List GStep)→(List GStep)→Option Bool
  zdz:(List GStep)→Option Bool
  za5:Option Bool
  zdk:(List GStep)→Option Int
  zbY:(List GStep)→Option Int
  zdT:(List GStep)→Option Int
  zbh:(List GStep)→Option (GProg × Int)
  zb4:(List GStep)→Int→Int→Option Int
  zd9:GProg→Option ((List GStep) × Int)
  zdM:(List GStep)→(List GStep)→Option Bool
  zei:GProg→Option Int
  zeO:GProg→GProg→Option Bool
  zaT:(List GStep)→Int→Option Bool
  zb9:(List GStep)→Int→Int→Option Int
  zdn:(List GStep)→Int→Option Int
  zdo:(List GStep)→Option Int
  zed:(List GStep)→Option (List GStep)
  zaR:(List GStep)→zV→Option (Int × zV)
  zbZ:zh→Int→Option Int
  zdl:GPred→Int→Option Int
  zb0:GStep→Option (List (List GStep))
  zaP:Int→zH→Option ((List GStep) × Bool × zH)
  zcz:(List ByteArray)→(List ByteArray)→Option Bool
  zcT:(List Int)→(List Int)→Option Bool
  zcD:zh→zh→Option Bool
  zb5:GPred→GPred→Option Bool
  zaz:(List (List GCode))→(List (List GCode))→Option Bool
  zai:GStep→Option Bool
  zbB:(List ByteArray)→Option Bool
  zce:zh→Option Int
  zdB:GPred→Option Int
  zaU:Int→Option ByteArray
  zeb:GBy→Bool→Int→Option Bool
  zdN:(List GStep)→Option Int
  za9:(List GStep)→Int→Option Bool
  za6:(List GStep)→Int→Option (List GStep)
  zd6:(List zh)→Int→Option Int
  zaG:zh→zh→Int→Option Int
  zbO:(List zh)→(List zh)→Option Bool
  zd7:(List GCode)→(List GCode)→Option Bool
  zdc:(List Int)→Option Bool
  zdp:(List ByteArray)→Option Bool
  zb6:ByteArray→Option Bool
  za7:zh→Int→Option Bool
  zbp:GPred→Int→Option Bool
  zcK:(List GStep)→Int→Int→Option Int
  zP:(List GStep)→Int→Option Bool
  slices_Clone_string:(List ByteArray)→Option (List ByteArray)
  slices_Clone_int:(List Int)→Option (List Int)
  zdq:zh→Option zh
  zeq:GPred→Option GPred
  zdU:(List (List GStep))→Int→Option (List (List GStep))
  zbo:Int→Int→Option Int
  zdY:ByteArray→ByteArray→Option Int
  zdV:(List zh)→(List zh)→Int→Option Int
  zaH:(List GCode)→(List GCode)→Option Bool
  zdw:zh→Option Bool
  zeB:zh→zh→Option Int
  zdW:GStep→Option (List (List GStep))
  zaj:(List GStep)→Int→Option Int
  zdr:zh→Int→Option zh
  zdL:GPred→Int→Option GPred
  zeE:GCode→GCode→Option Bool
  zeM:(List (List GStep))→Option (List (List GStep))
  zcf:GStep→Int→Option Bool
  zct:(List zh)→Int→Option (List zh)
  slices_Equal_string:(List ByteArray)→(List ByteArray)→Option Bool
  slices_Equal_int:(List Int)→(List Int)→Option Bool
  zdg:(List GKey)→(List GKey)→Option Bool
  zbU:zh→zh→Option Bool
  zcM:GPred→GPred→Option Bool
  zer:GStep→Int→Option Bool
  zee:zh→zh→Option Int
  zay:(List zh)→(List zh)→Option Bool
  zaw:(List GPred)→(List GPred)→Option Bool
  zdZ:Int→Option ByteArray
  zcX:Option GT125
  zea:Int→GT122→Option Bool
  zB:(List ByteArray)→Option Bool
  zch:zh→Option Int
  zds:GPred→Option Int
  zcN:(List ByteArray)→Option Bool
  zc4:GPred→Option Bool
  zbX:GStep→Option Bool
  zet:GBy→Bool→Int→Option Bool
  zbC:zh→zh→Int→Option Int
  zan:(List ByteArray)→Option Int
  zbD:zh→Int→Option Bool
  zcO:GPred→Int→Option Bool
  slices_Contains_string:(List ByteArray)→ByteArray→Option Bool
  zK:(List Int)→Option Bool
  zdt:ByteArray→Option Bool
  cmp_Compare_int:Int→Int→Option Int
  strings_Compare:ByteArray→ByteArray→Option Int
  zdX:(List Int)→Option Int
  zL:(List zh)→(List zh)→Int→Option Int
  zdm:ByteArray→Option Bool
  zaC:(List (List zh))→Option (List zh)
  zcP:Int→Option (Int × Int × Int × Int)
  zR:(List GPred)→Int→Option Bool
  zY:(List zh)→Option Bool
  slices_Index_string:(List ByteArray)→ByteArray→Option Int
  zad:(List Int)→Option Int
  zdD:Int→Bool→Option Bool
  cmp_isNaN_int:Int→Option Bool
  bytealg_CompareString:ByteArray→ByteArray→Option Int
  za2:zh→zh→Int→Option Int
  zeN:(List zh)→Int→Option (List zh)
  zak:(List GPred)→Int→Option Int
  zal:(List zh)→Option Int
  zbA:Int→Option Bool
  zcx:GPred→Int→Option Bool
  zcy:zh→Option Bool
def zaB (t:Tab) (n:Nat):Nat→Int→GProg→GProg→GProg→Option (Bool⊕(Int × Bool × GProg × GProg × GProg))
 | 0,_,_,_,_=>none
 | k+1,a1,⟨a2⟩,⟨a3⟩,⟨a4⟩=>
 if (decide (a1 < (a2.length:Int)))=true then
 if (decide (0≤((IntKind.wrap .i64 (a1+1)):Int)))=true then
 (match a4[((IntKind.wrap .i64 (a1+1)):Int).toNat]? with
 | some a5=>
 if (decide (0≤(a1:Int)))=true then
 (match a2[(a1:Int).toNat]? with
 | some a6=>
 if ((a5.length:Int) !=(a6.length:Int))=true then
 some (.inl false)
 else
 if (decide (a1 > 0))=true then
 (match a3[(a1:Int).toNat]? with
 | some a7=>
 if ((a7.length:Int) !=(a6.length:Int))=true then
 some (.inl false)
 else
 zaB t n k (IntKind.wrap .i64 (a1+1)) (GProg.mk a2) (GProg.mk a3) (GProg.mk a4)
 | none=>none)
 else
 zaB t n k (IntKind.wrap .i64 (a1+1)) (GProg.mk a2) (GProg.mk a3) (GProg.mk a4)
 | none=>none)
 else none
 | none=>none)
 else none
 else
 some (.inr (a1,(decide (a1 < (a2.length:Int))),(GProg.mk a2),(GProg.mk a3),(GProg.mk a4)))
def zdh (t:Tab) (n:Nat):GProg→GProg→GProg→Option Bool
 | ⟨a1⟩,⟨a2⟩,⟨a3⟩=>
 (match zaB t n n 0 (GProg.mk a1) (GProg.mk a2) (GProg.mk a3)with
 | some (.inl a4)=>
 some a4
 | some (.inr (a5,a6,⟨a7⟩,⟨a8⟩,⟨a9⟩))=>
 t.za5
 | none=>none)
def zdi (t:Tab) (n:Nat):GProg→GProg→GProg→GProg→Option Bool
 | ⟨a1⟩,⟨a2⟩,⟨a3⟩,⟨a4⟩=>
 if (decide (0≤(0:Int)))=true then
 (match a3[(0:Int).toNat]? with
 | some a5=>
 (match a1[(0:Int).toNat]? with
 | some a6=>
 (match a2[(0:Int).toNat]? with
 | some a7=>
 if ((a5.length:Int) !=(IntKind.wrap .i64 ((a6.length:Int)+(a7.length:Int))))=true then
 some false
 else
 (match a4[(0:Int).toNat]? with
 | some a8=>
 if ((a8.length:Int) !=1)=true then
 some false
 else
 (match a8[(0:Int).toNat]? with
 | some ⟨a9,a10,a11,⟨a12,a13,a14,a15,a16⟩,⟨a17,a18,a19⟩,a20,a21,a22⟩=>
 if (a9 !=28)=true then
 some false
 else
 if ((a20.length:Int) !=1)=true then
 some false
 else
 (match a20[(0:Int).toNat]? with
 | some a23=>
 if (a23 !=1)=true then
 some false
 else
 zdh t n (GProg.mk a1) (GProg.mk a3) (GProg.mk a4)
 | none=>none)
 | none=>none)
 | none=>none)
 | none=>none)
 | none=>none)
 | none=>none)
 else none
def zdj (t:Tab) (n:Nat) (a1 a2:List GStep):Option Bool:=
 if (([]:List GStep).length+a1.length) * 264≤140737488355328 then
 if ((([]:List GStep)++a1).length+a2.length) * 264≤140737488355328 then
 (match t.zbh a1 with
 | some (⟨a3⟩,a4)=>
 (match t.zbh a2 with
 | some (⟨a5⟩,a6)=>
 (match t.zbh ((([]:List GStep)++a1)++a2)with
 | some (⟨a7⟩,a8)=>
 (match t.zbh ([(GStep.mk 28 ([]:List ByteArray) ([]:List Int) (zh.mk 0 0 ByteArray.empty ([]:List zh) ([]:List zh)) (GPred.mk 0 ([]:List zh) ([]:List GPred)) ([a1]:List (List GStep)) ([]:List GBy) ([]:List ByteArray))]:List GStep)with
 | some (⟨a9⟩,a10)=>
 if (a4 !=0)=true then
 some false
 else
 if (a6 !=0)=true then
 some false
 else
 if (a8 !=0)=true then
 some false
 else
 if (a10 !=0)=true then
 some false
 else
 if ((a3.length:Int)==0)=true then
 some false
 else
 if ((a5.length:Int)==0)=true then
 some false
 else
 if ((a7.length:Int) !=(IntKind.wrap .i64 ((IntKind.wrap .i64 ((a3.length:Int)+(a5.length:Int)))-1)))=true then
 some false
 else
 if ((a9.length:Int) !=(IntKind.wrap .i64 ((a3.length:Int)+1)))=true then
 some false
 else
 zdi t n (GProg.mk a3) (GProg.mk a5) (GProg.mk a7) (GProg.mk a9)
 | none=>none)
 | none=>none)
 | none=>none)
 | none=>none)
 else none
 else none
def zbE (t:Tab) (n:Nat):(List GStep)→(List GStep)→Option Bool
 | a1,a2=>
 (match t.zdz a1 with
 | some a3=>
 if a3=true then
 t.za5
 else
 (match t.zdz a2 with
 | some a5=>
 if a5=true then
 t.za5
 else
 (match t.zdk a1 with
 | some a7=>
 if (a7 !=0)=true then
 t.za5
 else
 (match t.zdk a2 with
 | some a9=>
 if (a9 !=0)=true then
 t.za5
 else
 (match t.zbY a1 with
 | some a11=>
 (match t.zbY a2 with
 | some a12=>
 if (decide ((IntKind.wrap .i64 (a11+a12)) > 390))=true then
 t.za5
 else
 (match t.zdT a1 with
 | some a14=>
 if (decide (a14 > 9))=true then
 t.za5
 else
 zdj t n a1 a2
 | none=>none)
 | none=>none)
 | none=>none)
 | none=>none)
 | none=>none)
 | none=>none)
 | none=>none)
def zdz (t:Tab) (n:Nat):(List GStep)→Option Bool
 | a1=>
 (match t.zb4 a1 1000 14 with
 | some a2=>
 some (decide (a2≥1000))
 | none=>none)
def zeD (t:Tab) (n:Nat):(List GStep)→(List GStep)→GProg→Option Bool
 | a1,a2,⟨a3⟩=>
 if (decide (0≤(0:Int)))=true then
 (match a3[(0:Int).toNat]? with
 | some a4=>
 if (decide (0≤(2:Int)))=true then
 (match a4[(2:Int).toNat]? with
 | some ⟨a5,a6,a7,⟨a8,a9,a10,a11,a12⟩,⟨a13,a14,a15⟩,a16,a17,a18⟩=>
 (match a16[(0:Int).toNat]? with
 | some a19=>
 if (a19==3)=true then
 if (decide (0≤(1:Int)))=true then
 (match a3[(1:Int).toNat]? with
 | some a20=>
 (match a20[(1:Int).toNat]? with
 | some ⟨a21,a22,a23,⟨a24,a25,a26,a27,a28⟩,⟨a29,a30,a31⟩,a32,a33,a34⟩=>
 if (a21==28)=true then
 if (decide (0≤(3:Int)))=true then
 (match a3[(3:Int).toNat]? with
 | some a35=>
 (match a35[(0:Int).toNat]? with
 | some ⟨a36,a37,a38,⟨a39,a40,a41,a42,a43⟩,⟨a44,a45,a46⟩,a47,a48,a49⟩=>
 if (a36==12)=true then
 (match t.zdM a1 a2 with
 | some a50=>
 if a50=true then
 (match t.zei (GProg.mk ([]:List (List GCode)))with
 | some a51=>
 if (a51==2)=true then
 t.zeO (GProg.mk a3) (GProg.mk a3)
 else
 some false
 | none=>none)
 else
 some false
 | none=>none)
 else
 some false
 | none=>none)
 | none=>none)
 else none
 else
 some false
 | none=>none)
 | none=>none)
 else none
 else
 some false
 | none=>none)
 | none=>none)
 else none
 | none=>none)
 else none
def za5 (t:Tab) (n:Nat):Option Bool:=
 (match t.zbh ([(GStep.mk 1 ([]:List ByteArray) ([]:List Int) (zh.mk 0 0 ByteArray.empty ([]:List zh) ([]:List zh)) (GPred.mk 0 ([]:List zh) ([]:List GPred)) ([]:List (List GStep)) ([]:List GBy) ([]:List ByteArray)),(GStep.mk 28 ([]:List ByteArray) ([]:List Int) (zh.mk 0 0 ByteArray.empty ([]:List zh) ([]:List zh)) (GPred.mk 0 ([]:List zh) ([]:List GPred)) ([([(GStep.mk 3 ([]:List ByteArray) ([]:List Int) (zh.mk 0 0 ByteArray.empty ([]:List zh) ([]:List zh)) (GPred.mk 0 ([]:List zh) ([]:List GPred)) ([]:List (List GStep)) ([]:List GBy) ([]:List ByteArray)),(GStep.mk 28 ([]:List ByteArray) ([]:List Int) (zh.mk 0 0 ByteArray.empty ([]:List zh) ([]:List zh)) (GPred.mk 0 ([]:List zh) ([]:List GPred)) ([([(GStep.mk 4 ([]:List ByteArray) ([]:List Int) (zh.mk 0 0 ByteArray.empty ([]:List zh) ([]:List zh)) (GPred.mk 0 ([]:List zh) ([]:List GPred)) ([]:List (List GStep)) ([]:List GBy) ([]:List ByteArray))]:List GStep)]:List (List GStep)) ([]:List GBy) ([]:List ByteArray))]:List GStep)]:List (List GStep)) ([]:List GBy) ([]:List ByteArray)),(GStep.mk 44 ([]:List ByteArray) ([]:List Int) (zh.mk 0 0 ByteArray.empty ([]:List zh) ([]:List zh)) (GPred.mk 0 ([]:List zh) ([]:List GPred)) ([([(GStep.mk 12 ([]:List ByteArray) ([]:List Int) (zh.mk 0 0 ByteArray.empty ([]:List zh) ([]:List zh)) (GPred.mk 0 ([]:List zh) ([]:List GPred)) ([]:List (List GStep)) ([]:List GBy) ([]:List ByteArray))]:List GStep)]:List (List GStep)) ([]:List GBy) ([]:List ByteArray))]:List GStep)with
 | some (⟨a1⟩,a2)=>
 (match t.zd9 (GProg.mk a1)with
 | some (a3,a4)=>
 if (a2 !=0)=true then
 some false
 else
 if (a4 !=0)=true then
 some false
 else
 if ((a1.length:Int) !=4)=true then
 some false
 else
 if (decide (0≤(0:Int)))=true then
 (match a1[(0:Int).toNat]? with
 | some a5=>
 if ((a5.length:Int) !=3)=true then
 some false
 else
 if (decide (0≤(2:Int)))=true then
 (match a5[(2:Int).toNat]? with
 | some ⟨a6,a7,a8,⟨a9,a10,a11,a12,a13⟩,⟨a14,a15,a16⟩,a17,a18,a19⟩=>
 if ((a17.length:Int) !=1)=true then
 some false
 else
 if (decide (0≤(1:Int)))=true then
 (match a1[(1:Int).toNat]? with
 | some a20=>
 if ((a20.length:Int) !=2)=true then
 some false
 else
 zeD t n ([(GStep.mk 1 ([]:List ByteArray) ([]:List Int) (zh.mk 0 0 ByteArray.empty ([]:List zh) ([]:List zh)) (GPred.mk 0 ([]:List zh) ([]:List GPred)) ([]:List (List GStep)) ([]:List GBy) ([]:List ByteArray)),(GStep.mk 28 ([]:List ByteArray) ([]:List Int) (zh.mk 0 0 ByteArray.empty ([]:List zh) ([]:List zh)) (GPred.mk 0 ([]:List zh) ([]:List GPred)) ([([(GStep.mk 3 ([]:List ByteArray) ([]:List Int) (zh.mk 0 0 ByteArray.empty ([]:List zh) ([]:List zh)) (GPred.mk 0 ([]:List zh) ([]:List GPred)) ([]:List (List GStep)) ([]:List GBy) ([]:List ByteArray)),(GStep.mk 28 ([]:List ByteArray) ([]:List Int) (zh.mk 0 0 ByteArray.empty ([]:List zh) ([]:List zh)) (GPred.mk 0 ([]:List zh) ([]:List GPred)) ([([(GStep.mk 4 ([]:List ByteArray) ([]:List Int) (zh.mk 0 0 ByteArray.empty ([]:List zh) ([]:List zh)) (GPred.mk 0 ([]:List zh) ([]:List GPred)) ([]:List (List GStep)) ([]:List GBy) ([]:List ByteArray))]:List GStep)]:List (List GStep)) ([]:List GBy) ([]:List ByteArray))]:List GStep)]:List (List GStep)) ([]:List GBy) ([]:List ByteArray)),(GStep.mk 44 ([]:List ByteArray) ([]:List Int) (zh.mk 0 0 ByteArray.empty ([]:List zh) ([]:List zh)) (GPred.mk 0 ([]:List zh) ([]:List GPred)) ([([(GStep.mk 12 ([]:List ByteArray) ([]:List Int) (zh.mk 0 0 ByteArray.empty ([]:List zh) ([]:List zh)) (GPred.mk 0 ([]:List zh) ([]:List GPred)) ([]:List (List GStep)) ([]:List GBy) ([]:List ByteArray))]:List GStep)]:List (List GStep)) ([]:List GBy) ([]:List ByteArray))]:List GStep) a3 (GProg.mk a1)
 | none=>none)
 else none
 | none=>none)
 else none
 | none=>none)
 else none
 | none=>none)
 | none=>none)
def zdk (t:Tab) (n:Nat):(List GStep)→Option Int
 | a1=>
 (match t.zbY a1 with
 | some a2=>
 if (decide (a2 > 400))=true then
 some 2
 else
 (match t.zaT a1 1 with
 | some a3=>
 if a3=true then
 some 0
 else
 some 2
 | none=>none)
 | none=>none)
def zbY (t:Tab) (n:Nat):(List GStep)→Option Int
 | a1=>
 (match t.zb9 a1 401 11 with
 | some a2=>
 some (if (401:Int) < a2 then 401 else a2)
 | none=>none)
def zdT (t:Tab) (n:Nat):(List GStep)→Option Int
 | a1=>
 t.zdn a1 11
def zbh (t:Tab) (n:Nat):(List GStep)→Option (GProg × Int)
 | a1=>
 (match t.zdo a1 with
 | some a2=>
 if (a2 !=0)=true then
 some ((GProg.mk ([]:List (List GCode))),a2)
 else
 (match t.zed a1 with
 | some a3=>
 (match t.zaR a3 (zV.mk ([]:List (List GCode)))with
 | some (a4,⟨a5⟩)=>
 some ((GProg.mk a5),0)
 | none=>none)
 | none=>none)
 | none=>none)
def zcQ (t:Tab) (n:Nat) (a1:List GStep) (a2 a3 a4 a5:Int) (a6:List (List GStep)) (a7:Int):Option (Int⊕((List GStep) × Int × Int × Int × Int × (List (List GStep)) × Int)):=
 if (decide (a3≤0))=true then
 some (.inl a2)
 else
 if (decide (0≤(a7:Int)))=true then
 (match a6[(a7:Int).toNat]? with
 | some a8=>
 (match t.zb4 a8 (IntKind.wrap .i64 (a2-a4)) (IntKind.wrap .i64 (a3-1))with
 | some a9=>
 some (.inr (a1,a2,a3,(IntKind.wrap .i64 (a4+a9)),a5,a6,(IntKind.wrap .i64 (a7+1))))
 | none=>none)
 | none=>none)
 else none
def zbe (t:Tab) (n:Nat):Nat→(List GStep)→Int→Int→Int→Int→(List (List GStep))→Int→Option (Int⊕((List GStep) × Int × Int × Int × Int × (List (List GStep)) × Int × Bool))
 | 0,_,_,_,_,_,_,_=>none
 | k+1,a1,a2,a3,a4,a5,a6,a7=>
 if (decide (a7 < (a6.length:Int)))=true then
 if (decide (a4 < a2))=true then
 (match zcQ t n a1 a2 a3 a4 a5 a6 a7 with
 | some (.inl a8)=>
 some (.inl a8)
 | some (.inr (a9,a10,a11,a12,a13,a14,a15))=>
 zbe t n k a9 a10 a11 a12 a13 a14 a15
 | none=>none)
 else
 some (.inr (a1,a2,a3,a4,a5,a6,a7,(decide (a4 < a2))))
 else
 some (.inr (a1,a2,a3,a4,a5,a6,a7,false))
def zcl (t:Tab) (n:Nat) (a1:List GStep) (a2 a3 a4 a5:Int):Option (Int⊕((List GStep) × Int × Int × Int × Int)):=
 if (decide (0≤(a5:Int)))=true then
 (match a1[(a5:Int).toNat]? with
 | some ⟨a6,a7,a8,⟨a9,a10,a11,a12,a13⟩,⟨a14,a15,a16⟩,a17,a18,a19⟩=>
 (match t.zbZ (zh.mk a9 a10 a11 a12 a13) a2 with
 | some a20=>
 (match t.zdl (GPred.mk a14 a15 a16) a2 with
 | some a21=>
 (match t.zb0 (GStep.mk a6 a7 a8 (zh.mk a9 a10 a11 a12 a13) (GPred.mk a14 a15 a16) a17 a18 a19)with
 | some a22=>
 (match zbe t n n a1 a2 a3 (IntKind.wrap .i64 ((IntKind.wrap .i64 ((IntKind.wrap .i64 ((IntKind.wrap .i64 ((IntKind.wrap .i64 ((IntKind.wrap .i64 (a4+1))+(a7.length:Int)))+(a8.length:Int)))+(a19.length:Int)))+a20))+a21)) a5 a22 0 with
 | some (.inl a23)=>
 some (.inl a23)
 | some (.inr (a24,a25,a26,a27,a28,a29,a30,a31))=>
 some (.inr (a24,a25,a26,a27,(IntKind.wrap .i64 (a28+1))))
 | none=>none)
 | none=>none)
 | none=>none)
 | none=>none)
 | none=>none)
 else none
def zbf (t:Tab) (n:Nat):Nat→(List GStep)→Int→Int→Int→Int→Option (Int⊕((List GStep) × Int × Int × Int × Int × Bool))
 | 0,_,_,_,_,_=>none
 | k+1,a1,a2,a3,a4,a5=>
 if (decide (a5 < (a1.length:Int)))=true then
 if (decide (a4 < a2))=true then
 (match zcl t n a1 a2 a3 a4 a5 with
 | some (.inl a6)=>
 some (.inl a6)
 | some (.inr (a7,a8,a9,a10,a11))=>
 zbf t n k a7 a8 a9 a10 a11
 | none=>none)
 else
 some (.inr (a1,a2,a3,a4,a5,(decide (a4 < a2))))
 else
 some (.inr (a1,a2,a3,a4,a5,false))
def zb4 (t:Tab) (n:Nat):(List GStep)→Int→Int→Option Int
 | a1,a2,a3=>
 (match zbf t n n a1 a2 a3 0 0 with
 | some (.inl a4)=>
 some a4
 | some (.inr (a5,a6,a7,a8,a9,a10))=>
 some a8
 | none=>none)
def zd9 (t:Tab) (n:Nat):GProg→Option ((List GStep) × Int)
 | ⟨a1⟩=>
 (match t.zaP 0 (zH.mk a1 0)with
 | some (a2,a3,⟨a4,a5⟩)=>
 if a3=true then
 if (decide (a5 < (a1.length:Int)))=true then
 some (([]:List GStep),2)
 else
 (match t.zdo a2 with
 | some a6=>
 if (a6 !=0)=true then
 some (([]:List GStep),2)
 else
 (match t.zed a2 with
 | some a7=>
 some (a7,0)
 | none=>none)
 | none=>none)
 else
 some (([]:List GStep),2)
 | none=>none)
def zdE (t:Tab) (n:Nat):Nat→(List GStep)→(List GStep)→Int→Int→Int→(List ByteArray)→(List Int)→Int→Int→ByteArray→(List zh)→(List zh)→Int→(List zh)→(List GPred)→(List (List GStep))→(List GBy)→(List ByteArray)→Int→(List ByteArray)→(List Int)→Int→Int→ByteArray→(List zh)→(List zh)→Int→(List zh)→(List GPred)→(List (List GStep))→(List GBy)→(List ByteArray)→Option (Bool⊕((List GStep) × (List GStep) × Int × Int × Bool × Int × (List ByteArray) × (List Int) × Int × Int × ByteArray × (List zh) × (List zh) × Int × (List zh) × (List GPred) × (List (List GStep)) × (List GBy) × (List ByteArray) × Int × (List ByteArray) × (List Int) × Int × Int × ByteArray × (List zh) × (List zh) × Int × (List zh) × (List GPred) × (List (List GStep)) × (List GBy) × (List ByteArray)))
 | 0,_,_,_,_,_,_,_,_,_,_,_,_,_,_,_,_,_,_,_,_,_,_,_,_,_,_,_,_,_,_,_,_=>none
 | k+1,a1,a2,a3,a4,a5,a6,a7,a8,a9,a10,a11,a12,a13,a14,a15,a16,a17,a18,a19,a20,a21,a22,a23,a24,a25,a26,a27,a28,a29,a30,a31,a32=>
 if (decide (a4 < (a16.length:Int)))=true then
 if (decide (0≤(a4:Int)))=true then
 (match a16[(a4:Int).toNat]? with
 | some a33=>
 (match a30[(a4:Int).toNat]? with
 | some a34=>
 (match t.zdM a33 a34 with
 | some a35=>
 if a35=true then
 zdE t n k a1 a2 a3 (IntKind.wrap .i64 (a4+1)) a5 a6 a7 a8 a9 a10 a11 a12 a13 a14 a15 a16 a17 a18 a19 a20 a21 a22 a23 a24 a25 a26 a27 a28 a29 a30 a31 a32
 else
 some (.inl false)
 | none=>none)
 | none=>none)
 | none=>none)
 else none
 else
 some (.inr (a1,a2,a3,a4,(decide (a4 < (a16.length:Int))),a5,a6,a7,a8,a9,a10,a11,a12,a13,a14,a15,a16,a17,a18,a19,a20,a21,a22,a23,a24,a25,a26,a27,a28,a29,a30,a31,a32))
def zdQ (t:Tab) (n:Nat):Nat→(List GStep)→(List GStep)→Int→Int→Int→(List ByteArray)→(List Int)→Int→Int→ByteArray→(List zh)→(List zh)→Int→(List zh)→(List GPred)→(List (List GStep))→(List GBy)→(List ByteArray)→Int→(List ByteArray)→(List Int)→Int→Int→ByteArray→(List zh)→(List zh)→Int→(List zh)→(List GPred)→(List (List GStep))→(List GBy)→(List ByteArray)→Option (Bool⊕((List GStep) × (List GStep) × Int × Int × Bool × Int × (List ByteArray) × (List Int) × Int × Int × ByteArray × (List zh) × (List zh) × Int × (List zh) × (List GPred) × (List (List GStep)) × (List GBy) × (List ByteArray) × Int × (List ByteArray) × (List Int) × Int × Int × ByteArray × (List zh) × (List zh) × Int × (List zh) × (List GPred) × (List (List GStep)) × (List GBy) × (List ByteArray)))
 | 0,_,_,_,_,_,_,_,_,_,_,_,_,_,_,_,_,_,_,_,_,_,_,_,_,_,_,_,_,_,_,_,_=>none
 | k+1,a1,a2,a3,a4,a5,a6,a7,a8,a9,a10,a11,a12,a13,a14,a15,a16,a17,a18,a19,a20,a21,a22,a23,a24,a25,a26,a27,a28,a29,a30,a31,a32=>
 if (decide (a4 < (a17.length:Int)))=true then
 if (decide (0≤(a4:Int)))=true then
 (match a17[(a4:Int).toNat]? with
 | some ⟨a33,a34,a35,a36⟩=>
 (match a31[(a4:Int).toNat]? with
 | some ⟨a37,a38,a39,a40⟩=>
 if (a33 !=a37)=true then
 some (.inl false)
 else
 if (a34.toList==a38.toList)=true then
 if (a36==a40)=true then
 (match t.zdM a35 a39 with
 | some a41=>
 if a41=true then
 zdQ t n k a1 a2 a3 (IntKind.wrap .i64 (a4+1)) a5 a6 a7 a8 a9 a10 a11 a12 a13 a14 a15 a16 a17 a18 a19 a20 a21 a22 a23 a24 a25 a26 a27 a28 a29 a30 a31 a32
 else
 some (.inl false)
 | none=>none)
 else
 some (.inl false)
 else
 some (.inl false)
 | none=>none)
 | none=>none)
 else none
 else
 some (.inr (a1,a2,a3,a4,(decide (a4 < (a17.length:Int))),a5,a6,a7,a8,a9,a10,a11,a12,a13,a14,a15,a16,a17,a18,a19,a20,a21,a22,a23,a24,a25,a26,a27,a28,a29,a30,a31,a32))
def zeu (t:Tab) (n:Nat) (a1 a2:List GStep) (a3 a4:Int) (a5:List ByteArray) (a6:List Int) (a7 a8:Int) (a9:ByteArray) (a10 a11:List zh) (a12:Int) (a13:List zh) (a14:List GPred) (a15:List (List GStep)) (a16:List GBy) (a17:List ByteArray) (a18:Int) (a19:List ByteArray) (a20:List Int) (a21 a22:Int) (a23:ByteArray) (a24 a25:List zh) (a26:Int) (a27:List zh) (a28:List GPred) (a29:List (List GStep)) (a30:List GBy) (a31:List ByteArray):Option (Bool⊕((List GStep) × (List GStep) × Int)):=
 (match zdQ t n n a1 a2 a3 0 a4 a5 a6 a7 a8 a9 a10 a11 a12 a13 a14 a15 a16 a17 a18 a19 a20 a21 a22 a23 a24 a25 a26 a27 a28 a29 a30 a31 with
 | some (.inl a32)=>
 some (.inl a32)
 | some (.inr (a33,a34,a35,a36,a37,a38,a39,a40,a41,a42,a43,a44,a45,a46,a47,a48,a49,a50,a51,a52,a53,a54,a55,a56,a57,a58,a59,a60,a61,a62,a63,a64,a65))=>
 some (.inr (a33,a34,a35))
 | none=>none)
def zdF (t:Tab) (n:Nat) (a1 a2:List GStep) (a3 a4:Int) (a5:List ByteArray) (a6:List Int) (a7 a8:Int) (a9:ByteArray) (a10 a11:List zh) (a12:Int) (a13:List zh) (a14:List GPred) (a15:List (List GStep)) (a16:List GBy) (a17:List ByteArray) (a18:Int) (a19:List ByteArray) (a20:List Int) (a21 a22:Int) (a23:ByteArray) (a24 a25:List zh) (a26:Int) (a27:List zh) (a28:List GPred) (a29:List (List GStep)) (a30:List GBy) (a31:List ByteArray):Option (Bool⊕((List GStep) × (List GStep) × Int)):=
 (match zdE t n n a1 a2 a3 0 a4 a5 a6 a7 a8 a9 a10 a11 a12 a13 a14 a15 a16 a17 a18 a19 a20 a21 a22 a23 a24 a25 a26 a27 a28 a29 a30 a31 with
 | some (.inl a32)=>
 some (.inl a32)
 | some (.inr (a33,a34,a35,a36,a37,a38,a39,a40,a41,a42,a43,a44,a45,a46,a47,a48,a49,a50,a51,a52,a53,a54,a55,a56,a57,a58,a59,a60,a61,a62,a63,a64,a65))=>
 zeu t n a33 a34 a35 a38 a39 a40 a41 a42 a43 a44 a45 a46 a47 a48 a49 a50 a51 a52 a53 a54 a55 a56 a57 a58 a59 a60 a61 a62 a63 a64 a65
 | none=>none)
def zdR (t:Tab) (n:Nat):Nat→(List GStep)→(List GStep)→Int→Option (Bool⊕((List GStep) × (List GStep) × Int × Bool))
 | 0,_,_,_=>none
 | k+1,a1,a2,a3=>
 if (decide (a3 < (a1.length:Int)))=true then
 if (decide (0≤(a3:Int)))=true then
 (match a1[(a3:Int).toNat]? with
 | some ⟨a4,a5,a6,⟨a7,a8,a9,a10,a11⟩,⟨a12,a13,a14⟩,a15,a16,a17⟩=>
 (match a2[(a3:Int).toNat]? with
 | some ⟨a18,a19,a20,⟨a21,a22,a23,a24,a25⟩,⟨a26,a27,a28⟩,a29,a30,a31⟩=>
 if (a4 !=a18)=true then
 some (.inl false)
 else
 (match t.zcz a5 a19 with
 | some a32=>
 if a32=true then
 (match t.zcT a6 a20 with
 | some a33=>
 if a33=true then
 (match t.zcz a17 a31 with
 | some a34=>
 if a34=true then
 (match t.zcD (zh.mk a7 a8 a9 a10 a11) (zh.mk a21 a22 a23 a24 a25)with
 | some a35=>
 if a35=true then
 (match t.zb5 (GPred.mk a12 a13 a14) (GPred.mk a26 a27 a28)with
 | some a36=>
 if a36=true then
 if ((a15.length:Int) !=(a29.length:Int))=true then
 some (.inl false)
 else
 if ((a16.length:Int) !=(a30.length:Int))=true then
 some (.inl false)
 else
 (match zdF t n a1 a2 a3 a4 a5 a6 a7 a8 a9 a10 a11 a12 a13 a14 a15 a16 a17 a18 a19 a20 a21 a22 a23 a24 a25 a26 a27 a28 a29 a30 a31 with
 | some (.inl a37)=>
 some (.inl a37)
 | some (.inr (a38,a39,a40))=>
 zdR t n k a38 a39 (IntKind.wrap .i64 (a40+1))
 | none=>none)
 else
 some (.inl false)
 | none=>none)
 else
 some (.inl false)
 | none=>none)
 else
 some (.inl false)
 | none=>none)
 else
 some (.inl false)
 | none=>none)
 else
 some (.inl false)
 | none=>none)
 | none=>none)
 | none=>none)
 else none
 else
 some (.inr (a1,a2,a3,(decide (a3 < (a1.length:Int)))))
def zdM (t:Tab) (n:Nat):(List GStep)→(List GStep)→Option Bool
 | a1,a2=>
 if ((a1.length:Int) !=(a2.length:Int))=true then
 some false
 else
 (match zdR t n n a1 a2 0 with
 | some (.inl a3)=>
 some a3
 | some (.inr (a4,a5,a6,a7))=>
 some true
 | none=>none)
def zei (t:Tab) (n:Nat):GProg→Option Int
 | ⟨a1⟩=>
 (match t.zd9 (GProg.mk a1)with
 | some (a2,a3)=>
 some a3
 | none=>none)
def zeO (t:Tab) (n:Nat):GProg→GProg→Option Bool
 | ⟨a1⟩,⟨a2⟩=>
 t.zaz a1 a2
def zbr (t:Tab) (n:Nat):Nat→(List GStep)→Int→Int→Int→Int→(List ByteArray)→(List Int)→Int→Int→ByteArray→(List zh)→(List zh)→Int→(List zh)→(List GPred)→(List (List GStep))→(List GBy)→(List ByteArray)→Option (Bool⊕((List GStep) × Int × Int × Int × Bool × Int × (List ByteArray) × (List Int) × Int × Int × ByteArray × (List zh) × (List zh) × Int × (List zh) × (List GPred) × (List (List GStep)) × (List GBy) × (List ByteArray)))
 | 0,_,_,_,_,_,_,_,_,_,_,_,_,_,_,_,_,_,_=>none
 | k+1,a1,a2,a3,a4,a5,a6,a7,a8,a9,a10,a11,a12,a13,a14,a15,a16,a17,a18=>
 if (decide (a4 < (a16.length:Int)))=true then
 if (decide (0≤(a4:Int)))=true then
 (match a16[(a4:Int).toNat]? with
 | some a19=>
 (match t.zaT a19 (IntKind.wrap .i64 (a2+1))with
 | some a20=>
 if a20=true then
 zbr t n k a1 a2 a3 (IntKind.wrap .i64 (a4+1)) a5 a6 a7 a8 a9 a10 a11 a12 a13 a14 a15 a16 a17 a18
 else
 some (.inl false)
 | none=>none)
 | none=>none)
 else none
 else
 some (.inr (a1,a2,a3,a4,(decide (a4 < (a16.length:Int))),a5,a6,a7,a8,a9,a10,a11,a12,a13,a14,a15,a16,a17,a18))
def zbI (t:Tab) (n:Nat):Nat→(List GStep)→Int→Int→Int→Int→(List ByteArray)→(List Int)→Int→Int→ByteArray→(List zh)→(List zh)→Int→(List zh)→(List GPred)→(List (List GStep))→(List GBy)→(List ByteArray)→Option (Bool⊕((List GStep) × Int × Int × Int × Bool × Int × (List ByteArray) × (List Int) × Int × Int × ByteArray × (List zh) × (List zh) × Int × (List zh) × (List GPred) × (List (List GStep)) × (List GBy) × (List ByteArray)))
 | 0,_,_,_,_,_,_,_,_,_,_,_,_,_,_,_,_,_,_=>none
 | k+1,a1,a2,a3,a4,a5,a6,a7,a8,a9,a10,a11,a12,a13,a14,a15,a16,a17,a18=>
 if (decide (a4 < (a17.length:Int)))=true then
 if (decide (0≤(a4:Int)))=true then
 (match a17[(a4:Int).toNat]? with
 | some ⟨a19,a20,a21,a22⟩=>
 (match t.zaU a5 with
 | some a23=>
 (match t.zeb (GBy.mk a19 a20 a21 a22) (a23.toList==(ByteArray.mk #[79,114,100,101,114]).toList) a2 with
 | some a24=>
 if a24=true then
 zbI t n k a1 a2 a3 (IntKind.wrap .i64 (a4+1)) a5 a6 a7 a8 a9 a10 a11 a12 a13 a14 a15 a16 a17 a18
 else
 some (.inl false)
 | none=>none)
 | none=>none)
 | none=>none)
 else none
 else
 some (.inr (a1,a2,a3,a4,(decide (a4 < (a17.length:Int))),a5,a6,a7,a8,a9,a10,a11,a12,a13,a14,a15,a16,a17,a18))
def zd4 (t:Tab) (n:Nat) (a1:List GStep) (a2 a3 a4:Int) (a5:List ByteArray) (a6:List Int) (a7 a8:Int) (a9:ByteArray) (a10 a11:List zh) (a12:Int) (a13:List zh) (a14:List GPred) (a15:List (List GStep)) (a16:List GBy) (a17:List ByteArray):Option (Bool⊕((List GStep) × Int × Int)):=
 (match zbI t n n a1 a2 a3 0 a4 a5 a6 a7 a8 a9 a10 a11 a12 a13 a14 a15 a16 a17 with
 | some (.inl a18)=>
 some (.inl a18)
 | some (.inr (a19,a20,a21,a22,a23,a24,a25,a26,a27,a28,a29,a30,a31,a32,a33,a34,a35,a36,a37))=>
 some (.inr (a19,a20,a21))
 | none=>none)
def zaK (t:Tab) (n:Nat) (a1:List GStep) (a2 a3 a4:Int) (a5:List ByteArray) (a6:List Int) (a7 a8:Int) (a9:ByteArray) (a10 a11:List zh) (a12:Int) (a13:List zh) (a14:List GPred) (a15:List (List GStep)) (a16:List GBy) (a17:List ByteArray):Option (Bool⊕((List GStep) × Int × Int)):=
 (match zbr t n n a1 a2 a3 0 a4 a5 a6 a7 a8 a9 a10 a11 a12 a13 a14 a15 a16 a17 with
 | some (.inl a18)=>
 some (.inl a18)
 | some (.inr (a19,a20,a21,a22,a23,a24,a25,a26,a27,a28,a29,a30,a31,a32,a33,a34,a35,a36,a37))=>
 zd4 t n a19 a20 a21 a24 a25 a26 a27 a28 a29 a30 a31 a32 a33 a34 a35 a36 a37
 | none=>none)
def zcC (t:Tab) (n:Nat) (a1:List GStep) (a2 a3 a4 a5:Int) (a6 a7:Bool) (a8:Int) (a9:List ByteArray) (a10:List Int) (a11 a12:Int) (a13:ByteArray) (a14 a15:List zh) (a16:Int) (a17:List zh) (a18:List GPred) (a19:List (List GStep)) (a20:List GBy) (a21:List ByteArray):Option (Bool⊕((List GStep) × Int × Int)):=
 if a6=true then
 if (a4 !=0)=true then
 some (.inl false)
 else
 if a7=true then
 if (a5 !=0)=true then
 some (.inl false)
 else
 zaK t n a1 a2 a3 a8 a9 a10 a11 a12 a13 a14 a15 a16 a17 a18 a19 a20 a21
 else
 (match t.zb5 (GPred.mk a16 a17 a18) (GPred.mk 0 ([]:List zh) ([]:List GPred))with
 | some a26=>
 if a26=true then
 zaK t n a1 a2 a3 a8 a9 a10 a11 a12 a13 a14 a15 a16 a17 a18 a19 a20 a21
 else
 some (.inl false)
 | none=>none)
 else
 (match t.zcD (zh.mk a11 a12 a13 a14 a15) (zh.mk 0 0 ByteArray.empty ([]:List zh) ([]:List zh))with
 | some a31=>
 if a31=true then
 if a7=true then
 if (a5 !=0)=true then
 some (.inl false)
 else
 zaK t n a1 a2 a3 a8 a9 a10 a11 a12 a13 a14 a15 a16 a17 a18 a19 a20 a21
 else
 (match t.zb5 (GPred.mk a16 a17 a18) (GPred.mk 0 ([]:List zh) ([]:List GPred))with
 | some a36=>
 if a36=true then
 zaK t n a1 a2 a3 a8 a9 a10 a11 a12 a13 a14 a15 a16 a17 a18 a19 a20 a21
 else
 some (.inl false)
 | none=>none)
 else
 some (.inl false)
 | none=>none)
def zbs (t:Tab) (n:Nat) (a1:List GStep) (a2 a3 a4:Int) (a5:List ByteArray) (a6:List Int) (a7 a8:Int) (a9:ByteArray) (a10 a11:List zh) (a12:Int) (a13:List zh) (a14:List GPred) (a15:List (List GStep)) (a16:List GBy) (a17:List ByteArray):Option (Bool⊕((List GStep) × Int × Int)):=
 (match t.zce (zh.mk a7 a8 a9 a10 a11)with
 | some a18=>
 (match t.zdB (GPred.mk a12 a13 a14)with
 | some a19=>
 (match t.zaU a4 with
 | some a20=>
 if (a20.toList==(ByteArray.mk #[72,97,115]).toList)=true then
 zcC t n a1 a2 a3 a18 a19 (a20.toList==(ByteArray.mk #[67,111,110,115,116,97,110,116]).toList) true a4 a5 a6 a7 a8 a9 a10 a11 a12 a13 a14 a15 a16 a17
 else
 zcC t n a1 a2 a3 a18 a19 (a20.toList==(ByteArray.mk #[67,111,110,115,116,97,110,116]).toList) (a20.toList==(ByteArray.mk #[73,115]).toList) a4 a5 a6 a7 a8 a9 a10 a11 a12 a13 a14 a15 a16 a17
 | none=>none)
 | none=>none)
 | none=>none)
def zbJ (t:Tab) (n:Nat):Nat→(List GStep)→Int→Int→Option (Bool⊕((List GStep) × Int × Int × Bool))
 | 0,_,_,_=>none
 | k+1,a1,a2,a3=>
 if (decide (a3 < (a1.length:Int)))=true then
 if (decide (0≤(a3:Int)))=true then
 (match a1[(a3:Int).toNat]? with
 | some ⟨a4,a5,a6,⟨a7,a8,a9,a10,a11⟩,⟨a12,a13,a14⟩,a15,a16,a17⟩=>
 (match t.zai (GStep.mk a4 a5 a6 (zh.mk a7 a8 a9 a10 a11) (GPred.mk a12 a13 a14) a15 a16 a17)with
 | some a18=>
 if a18=true then
 (match t.zbB a5 with
 | some a19=>
 if a19=true then
 (match t.zbB a17 with
 | some a20=>
 if a20=true then
 (match zbs t n a1 a2 a3 a4 a5 a6 a7 a8 a9 a10 a11 a12 a13 a14 a15 a16 a17 with
 | some (.inl a21)=>
 some (.inl a21)
 | some (.inr (a22,a23,a24))=>
 zbJ t n k a22 a23 (IntKind.wrap .i64 (a24+1))
 | none=>none)
 else
 some (.inl false)
 | none=>none)
 else
 some (.inl false)
 | none=>none)
 else
 some (.inl false)
 | none=>none)
 | none=>none)
 else none
 else
 some (.inr (a1,a2,a3,(decide (a3 < (a1.length:Int)))))
def zaT (t:Tab) (n:Nat):(List GStep)→Int→Option Bool
 | a1,a2=>
 if (decide (a2 > 11))=true then
 some false
 else
 (match zbJ t n n a1 a2 0 with
 | some (.inl a3)=>
 some a3
 | some (.inr (a4,a5,a6,a7))=>
 some true
 | none=>none)
def zc5 (t:Tab) (n:Nat) (a1:List GStep) (a2 a3 a4 a5:Int) (a6:List (List GStep)) (a7:Int):Option ((List GStep) × Int × Int × Int × Int × (List (List GStep)) × Int):=
 if (decide (0≤(a7:Int)))=true then
 (match a6[(a7:Int).toNat]? with
 | some a8=>
 (match t.zb9 a8 (IntKind.wrap .i64 (a2-a4)) (IntKind.wrap .i64 (a3-1))with
 | some a9=>
 some (a1,a2,a3,(IntKind.wrap .i64 (a4+a9)),a5,a6,(IntKind.wrap .i64 (a7+1)))
 | none=>none)
 | none=>none)
 else none
def zbt (t:Tab) (n:Nat):Nat→(List GStep)→Int→Int→Int→Int→(List (List GStep))→Int→Option ((List GStep) × Int × Int × Int × Int × (List (List GStep)) × Int × Bool)
 | 0,_,_,_,_,_,_,_=>none
 | k+1,a1,a2,a3,a4,a5,a6,a7=>
 if (decide (a7 < (a6.length:Int)))=true then
 if (decide (a3 > 0))=true then
 if (decide (a4 < a2))=true then
 (match zc5 t n a1 a2 a3 a4 a5 a6 a7 with
 | some (a8,a9,a10,a11,a12,a13,a14)=>
 zbt t n k a8 a9 a10 a11 a12 a13 a14
 | none=>none)
 else
 some (a1,a2,a3,a4,a5,a6,a7,(decide (a4 < a2)))
 else
 some (a1,a2,a3,a4,a5,a6,a7,false)
 else
 some (a1,a2,a3,a4,a5,a6,a7,false)
def zc6 (t:Tab) (n:Nat) (a1:List GStep) (a2 a3 a4 a5:Int):Option ((List GStep) × Int × Int × Int × Int):=
 if (decide (0≤(a5:Int)))=true then
 (match a1[(a5:Int).toNat]? with
 | some ⟨a6,a7,a8,⟨a9,a10,a11,a12,a13⟩,⟨a14,a15,a16⟩,a17,a18,a19⟩=>
 (match t.zb0 (GStep.mk a6 a7 a8 (zh.mk a9 a10 a11 a12 a13) (GPred.mk a14 a15 a16) a17 a18 a19)with
 | some a20=>
 (match zbt t n n a1 a2 a3 (IntKind.wrap .i64 (a4+1)) a5 a20 0 with
 | some (a21,a22,a23,a24,a25,a26,a27,a28)=>
 some (a21,a22,a23,a24,(IntKind.wrap .i64 (a25+1)))
 | none=>none)
 | none=>none)
 | none=>none)
 else none
def zb8 (t:Tab) (n:Nat):Nat→(List GStep)→Int→Int→Int→Int→Option ((List GStep) × Int × Int × Int × Int × Bool)
 | 0,_,_,_,_,_=>none
 | k+1,a1,a2,a3,a4,a5=>
 if (decide (a5 < (a1.length:Int)))=true then
 if (decide (a4 < a2))=true then
 (match zc6 t n a1 a2 a3 a4 a5 with
 | some (a6,a7,a8,a9,a10)=>
 zb8 t n k a6 a7 a8 a9 a10
 | none=>none)
 else
 some (a1,a2,a3,a4,a5,(decide (a4 < a2)))
 else
 some (a1,a2,a3,a4,a5,false)
def zb9 (t:Tab) (n:Nat):(List GStep)→Int→Int→Option Int
 | a1,a2,a3=>
 (match zb8 t n n a1 a2 a3 0 0 with
 | some (a4,a5,a6,a7,a8,a9)=>
 some a7
 | none=>none)
def zcR (t:Tab) (n:Nat):Nat→(List GStep)→Int→Int→Int→(List (List GStep))→Int→Option ((List GStep) × Int × Int × Int × (List (List GStep)) × Int × Bool)
 | 0,_,_,_,_,_,_=>none
 | k+1,a1,a2,a3,a4,a5,a6=>
 if (decide (a6 < (a5.length:Int)))=true then
 if (decide (0≤(a6:Int)))=true then
 (match a5[(a6:Int).toNat]? with
 | some a7=>
 (match t.zdn a7 (IntKind.wrap .i64 (a2-1))with
 | some a8=>
 zcR t n k a1 a2 (if a8 > a3 then a8 else a3) a4 a5 (IntKind.wrap .i64 (a6+1))
 | none=>none)
 | none=>none)
 else none
 else
 some (a1,a2,a3,a4,a5,a6,(decide (a6 < (a5.length:Int))))
def zdG (t:Tab) (n:Nat) (a1:List GStep) (a2 a3 a4:Int):Option ((List GStep) × Int × Int × Int):=
 if (decide (0≤(a4:Int)))=true then
 (match a1[(a4:Int).toNat]? with
 | some ⟨a5,a6,a7,⟨a8,a9,a10,a11,a12⟩,⟨a13,a14,a15⟩,a16,a17,a18⟩=>
 (match t.zb0 (GStep.mk a5 a6 a7 (zh.mk a8 a9 a10 a11 a12) (GPred.mk a13 a14 a15) a16 a17 a18)with
 | some a19=>
 (match zcR t n n a1 a2 a3 a4 a19 0 with
 | some (a20,a21,a22,a23,a24,a25,a26)=>
 some (a20,a21,a22,(IntKind.wrap .i64 (a23+1)))
 | none=>none)
 | none=>none)
 | none=>none)
 else none
def zcS (t:Tab) (n:Nat):Nat→(List GStep)→Int→Int→Int→Option ((List GStep) × Int × Int × Int × Bool)
 | 0,_,_,_,_=>none
 | k+1,a1,a2,a3,a4=>
 if (decide (a4 < (a1.length:Int)))=true then
 if (decide (a2 > 0))=true then
 (match zdG t n a1 a2 a3 a4 with
 | some (a5,a6,a7,a8)=>
 zcS t n k a5 a6 a7 a8
 | none=>none)
 else
 some (a1,a2,a3,a4,(decide (a2 > 0)))
 else
 some (a1,a2,a3,a4,false)
def zdn (t:Tab) (n:Nat):(List GStep)→Int→Option Int
 | a1,a2=>
 (match zcS t n n a1 a2 0 0 with
 | some (a3,a4,a5,a6,a7)=>
 some (IntKind.wrap .i64 (1+a5))
 | none=>none)
def zdo (t:Tab) (n:Nat):(List GStep)→Option Int
 | a1=>
 (match t.zdN a1 with
 | some a2=>
 if (decide (a2 > 400))=true then
 some 2
 else
 (match t.za9 a1 1 with
 | some a3=>
 if a3=true then
 some 0
 else
 some 2
 | none=>none)
 | none=>none)
def zed (t:Tab) (n:Nat):(List GStep)→Option (List GStep)
 | a1=>
 t.za6 a1 1
def za8 (t:Tab) (n:Nat):Nat→Int→(List GStep)→Int→Int→(List (List GStep))→Int→Int→GStep→Int→(List ByteArray)→(List Int)→zh→GPred→(List Int)→(List GKey)→(List ByteArray)→zV→Option (Int × (List GStep) × Int × Int × (List (List GStep)) × Int × Int × Bool × GStep × Int × (List ByteArray) × (List Int) × zh × GPred × (List Int) × (List GKey) × (List ByteArray) × zV)
 | 0,_,_,_,_,_,_,_,_,_,_,_,_,_,_,_,_,_=>none
 | k+1,a1,a2,a3,a4,a5,a6,a7,⟨a8,a9,a10,⟨a11,a12,a13,a14,a15⟩,⟨a16,a17,a18⟩,a19,a20,a21⟩,a22,a23,a24,⟨a25,a26,a27,a28,a29⟩,⟨a30,a31,a32⟩,a33,a34,a35,⟨a36⟩=>
 if (decide (a7 < a6))=true then
 if (decide (0≤(a7:Int)))=true then
 (match a5[(a7:Int).toNat]? with
 | some a37=>
 (match t.zaR a37 (zV.mk a36)with
 | some (a38,⟨a39⟩)=>
 if (a33.length+([a38]:List Int).length) * 8≤140737488355328 then
 za8 t n k a1 a2 a3 a4 a5 a6 (IntKind.wrap .i64 (a7+1)) (GStep.mk a8 a9 a10 (zh.mk a11 a12 a13 a14 a15) (GPred.mk a16 a17 a18) a19 a20 a21) a22 a23 a24 (zh.mk a25 a26 a27 a28 a29) (GPred.mk a30 a31 a32) (a33++([a38]:List Int)) a34 a35 (zV.mk a39)
 else none
 | none=>none)
 | none=>none)
 else none
 else
 some (a1,a2,a3,a4,a5,a6,a7,(decide (a7 < a6)),(GStep.mk a8 a9 a10 (zh.mk a11 a12 a13 a14 a15) (GPred.mk a16 a17 a18) a19 a20 a21),a22,a23,a24,(zh.mk a25 a26 a27 a28 a29),(GPred.mk a30 a31 a32),a33,a34,a35,(zV.mk a36))
def zbK (t:Tab) (n:Nat):Int→(List GStep)→Int→Int→(List GBy)→Int→Int→Int→(List ByteArray)→(List Int)→zh→GPred→(List Int)→(List GKey)→(List ByteArray)→GKey→zV→Option (Int × (List GStep) × Int × Int × (List GBy) × Int × Int × Int × (List ByteArray) × (List Int) × zh × GPred × (List Int) × (List GKey) × (List ByteArray) × zV)
 | a1,a2,a3,a4,a5,a6,a7,a8,a9,a10,⟨a11,a12,a13,a14,a15⟩,⟨a16,a17,a18⟩,a19,a20,a21,⟨a22,a23,a24,a25⟩,⟨a26⟩=>
 if (a20.length+([(GKey.mk a22 a23 a24 a25)]:List GKey).length) * 40≤140737488355328 then
 some (a1,a2,a3,a4,a5,a6,a7,a8,a9,a10,(zh.mk a11 a12 a13 a14 a15),(GPred.mk a16 a17 a18),a19,(a20++([(GKey.mk a22 a23 a24 a25)]:List GKey)),a21,(zV.mk a26))
 else none
def zaI (t:Tab) (n:Nat):Nat→Int→(List GStep)→Int→Int→(List GBy)→Int→Int→Int→(List ByteArray)→(List Int)→zh→GPred→(List Int)→(List GKey)→(List ByteArray)→zV→Option (Int × (List GStep) × Int × Int × (List GBy) × Int × Int × Bool × Int × (List ByteArray) × (List Int) × zh × GPred × (List Int) × (List GKey) × (List ByteArray) × zV)
 | 0,_,_,_,_,_,_,_,_,_,_,_,_,_,_,_,_=>none
 | k+1,a1,a2,a3,a4,a5,a6,a7,a8,a9,a10,⟨a11,a12,a13,a14,a15⟩,⟨a16,a17,a18⟩,a19,a20,a21,⟨a22⟩=>
 if (decide (a7 < a6))=true then
 if (decide (0≤(a7:Int)))=true then
 (match a5[(a7:Int).toNat]? with
 | some ⟨a23,a24,a25,a26⟩=>
 if (a23==3)=true then
 (match t.zaR a25 (zV.mk a22)with
 | some (a27,⟨a28⟩)=>
 (match zbK t n a1 a2 a3 a4 a5 a6 a7 a8 a9 a10 (zh.mk a11 a12 a13 a14 a15) (GPred.mk a16 a17 a18) a19 a20 a21 (GKey.mk a23 a24 a27 a26) (zV.mk a28)with
 | some (a29,a30,a31,a32,a33,a34,a35,a36,a37,a38,⟨a39,a40,a41,a42,a43⟩,⟨a44,a45,a46⟩,a47,a48,a49,⟨a50⟩)=>
 zaI t n k a29 a30 a31 a32 a33 a34 (IntKind.wrap .i64 (a35+1)) a36 a37 a38 (zh.mk a39 a40 a41 a42 a43) (GPred.mk a44 a45 a46) a47 a48 a49 (zV.mk a50)
 | none=>none)
 | none=>none)
 else
 (match zbK t n a1 a2 a3 a4 a5 a6 a7 a8 a9 a10 (zh.mk a11 a12 a13 a14 a15) (GPred.mk a16 a17 a18) a19 a20 a21 (GKey.mk a23 a24 0 a26) (zV.mk a22)with
 | some (a51,a52,a53,a54,a55,a56,a57,a58,a59,a60,⟨a61,a62,a63,a64,a65⟩,⟨a66,a67,a68⟩,a69,a70,a71,⟨a72⟩)=>
 zaI t n k a51 a52 a53 a54 a55 a56 (IntKind.wrap .i64 (a57+1)) a58 a59 a60 (zh.mk a61 a62 a63 a64 a65) (GPred.mk a66 a67 a68) a69 a70 a71 (zV.mk a72)
 | none=>none)
 | none=>none)
 else none
 else
 some (a1,a2,a3,a4,a5,a6,a7,(decide (a7 < a6)),a8,a9,a10,(zh.mk a11 a12 a13 a14 a15),(GPred.mk a16 a17 a18),a19,a20,a21,(zV.mk a22))
def zcZ (t:Tab) (n:Nat):Int→(List GStep)→Int→Int→GCode→zV→Option (Int × (List GStep) × Int × Int × zV)
 | a1,a2,a3,a4,⟨a5,a6,a7,⟨a8,a9,a10,a11,a12⟩,⟨a13,a14,a15⟩,a16,a17,a18⟩,⟨a19⟩=>
 if (decide (0≤(a1:Int)))=true then
 (match a19[(a1:Int).toNat]? with
 | some a20=>
 if (a20.length+([(GCode.mk a5 a6 a7 (zh.mk a8 a9 a10 a11 a12) (GPred.mk a13 a14 a15) a16 a17 a18)]:List GCode).length) * 264≤140737488355328 then
 some (a1,a2,a3,a4,(zV.mk (a19.set (a1:Int).toNat (a20++([(GCode.mk a5 a6 a7 (zh.mk a8 a9 a10 a11 a12) (GPred.mk a13 a14 a15) a16 a17 a18)]:List GCode)))))
 else none
 | none=>none)
 else none
def zdA (t:Tab) (n:Nat):Int→(List GStep)→Int→Int→GStep→Int→(List ByteArray)→(List Int)→zh→GPred→(List Int)→(List GKey)→(List ByteArray)→zV→Option (Int × (List GStep) × Int × Int × zV)
 | a1,a2,a3,a4,⟨a5,a6,a7,⟨a8,a9,a10,a11,a12⟩,⟨a13,a14,a15⟩,a16,a17,a18⟩,a19,a20,a21,⟨a22,a23,a24,a25,a26⟩,⟨a27,a28,a29⟩,a30,a31,a32,⟨a33⟩=>
 (match zaI t n n a1 a2 a3 a4 a17 (a17.length:Int) 0 a19 a20 a21 (zh.mk a22 a23 a24 a25 a26) (GPred.mk a27 a28 a29) a30 a31 a32 (zV.mk a33)with
 | some (a34,a35,a36,a37,a38,a39,a40,a41,a42,a43,a44,⟨a45,a46,a47,a48,a49⟩,⟨a50,a51,a52⟩,a53,a54,a55,⟨a56⟩)=>
 zcZ t n a34 a35 a36 a37 (GCode.mk a42 a43 a44 (zh.mk a45 a46 a47 a48 a49) (GPred.mk a50 a51 a52) a53 a54 a55) (zV.mk a56)
 | none=>none)
def zaO (t:Tab) (n:Nat):Nat→Int→(List GStep)→Int→Int→zV→Option (Int × (List GStep) × Int × Int × Bool × zV)
 | 0,_,_,_,_,_=>none
 | k+1,a1,a2,a3,a4,⟨a5⟩=>
 if (decide (a4 < a3))=true then
 if (decide (0≤(a4:Int)))=true then
 (match a2[(a4:Int).toNat]? with
 | some ⟨a6,a7,a8,⟨a9,a10,a11,a12,a13⟩,⟨a14,a15,a16⟩,a17,a18,a19⟩=>
 (match za8 t n n a1 a2 a3 a4 a17 (a17.length:Int) 0 (GStep.mk a6 a7 a8 (zh.mk a9 a10 a11 a12 a13) (GPred.mk a14 a15 a16) a17 a18 a19) a6 a7 a8 (zh.mk a9 a10 a11 a12 a13) (GPred.mk a14 a15 a16) ([]:List Int) ([]:List GKey) a19 (zV.mk a5)with
 | some (a20,a21,a22,a23,a24,a25,a26,a27,⟨a28,a29,a30,⟨a31,a32,a33,a34,a35⟩,⟨a36,a37,a38⟩,a39,a40,a41⟩,a42,a43,a44,⟨a45,a46,a47,a48,a49⟩,⟨a50,a51,a52⟩,a53,a54,a55,⟨a56⟩)=>
 (match zdA t n a20 a21 a22 a23 (GStep.mk a28 a29 a30 (zh.mk a31 a32 a33 a34 a35) (GPred.mk a36 a37 a38) a39 a40 a41) a42 a43 a44 (zh.mk a45 a46 a47 a48 a49) (GPred.mk a50 a51 a52) a53 a54 a55 (zV.mk a56)with
 | some (a57,a58,a59,a60,⟨a61⟩)=>
 zaO t n k a57 a58 a59 (IntKind.wrap .i64 (a60+1)) (zV.mk a61)
 | none=>none)
 | none=>none)
 | none=>none)
 else none
 else
 some (a1,a2,a3,a4,(decide (a4 < a3)),(zV.mk a5))
def zaR (t:Tab) (n:Nat):(List GStep)→zV→Option (Int × zV)
 | a1,⟨a2⟩=>
 if (a2.length+([([]:List GCode)]:List (List GCode)).length) * 24≤140737488355328 then
 (match zaO t n n (a2.length:Int) a1 (a1.length:Int) 0 (zV.mk (a2++([([]:List GCode)]:List (List GCode))))with
 | some (a3,a4,a5,a6,a7,⟨a8⟩)=>
 some (a3,(zV.mk a8))
 | none=>none)
 else none
def zc7 (t:Tab) (n:Nat) (a1 a2 a3 a4 a5:Int) (a6:ByteArray) (a7 a8:List zh):Option (Int × Int × Int × Int × Int × ByteArray × (List zh) × (List zh)):=
 if (decide (0≤(a3:Int)))=true then
 (match a7[(a3:Int).toNat]? with
 | some ⟨a9,a10,a11,a12,a13⟩=>
 (match t.zbZ (zh.mk a9 a10 a11 a12 a13) (IntKind.wrap .i64 (a1-a2))with
 | some a14=>
 some (a1,(IntKind.wrap .i64 (a2+a14)),(IntKind.wrap .i64 (a3+1)),a4,a5,a6,a7,a8)
 | none=>none)
 | none=>none)
 else none
def zca (t:Tab) (n:Nat):Nat→Int→Int→Int→Int→Int→ByteArray→(List zh)→(List zh)→Option (Int × Int × Int × Bool × Int × Int × ByteArray × (List zh) × (List zh))
 | 0,_,_,_,_,_,_,_,_=>none
 | k+1,a1,a2,a3,a4,a5,a6,a7,a8=>
 if (decide (a3 < (a7.length:Int)))=true then
 if (decide (a2 < a1))=true then
 (match zc7 t n a1 a2 a3 a4 a5 a6 a7 a8 with
 | some (a9,a10,a11,a12,a13,a14,a15,a16)=>
 zca t n k a9 a10 a11 a12 a13 a14 a15 a16
 | none=>none)
 else
 some (a1,a2,a3,(decide (a2 < a1)),a4,a5,a6,a7,a8)
 else
 some (a1,a2,a3,false,a4,a5,a6,a7,a8)
def zc8 (t:Tab) (n:Nat) (a1 a2 a3 a4 a5:Int) (a6:ByteArray) (a7 a8:List zh):Option (Int × Int × Int × Int × Int × ByteArray × (List zh) × (List zh)):=
 if (decide (0≤(a3:Int)))=true then
 (match a8[(a3:Int).toNat]? with
 | some ⟨a9,a10,a11,a12,a13⟩=>
 (match t.zbZ (zh.mk a9 a10 a11 a12 a13) (IntKind.wrap .i64 (a1-a2))with
 | some a14=>
 some (a1,(IntKind.wrap .i64 (a2+a14)),(IntKind.wrap .i64 (a3+1)),a4,a5,a6,a7,a8)
 | none=>none)
 | none=>none)
 else none
def zcb (t:Tab) (n:Nat):Nat→Int→Int→Int→Int→Int→ByteArray→(List zh)→(List zh)→Option (Int × Int × Int × Bool × Int × Int × ByteArray × (List zh) × (List zh))
 | 0,_,_,_,_,_,_,_,_=>none
 | k+1,a1,a2,a3,a4,a5,a6,a7,a8=>
 if (decide (a3 < (a8.length:Int)))=true then
 if (decide (a2 < a1))=true then
 (match zc8 t n a1 a2 a3 a4 a5 a6 a7 a8 with
 | some (a9,a10,a11,a12,a13,a14,a15,a16)=>
 zcb t n k a9 a10 a11 a12 a13 a14 a15 a16
 | none=>none)
 else
 some (a1,a2,a3,(decide (a2 < a1)),a4,a5,a6,a7,a8)
 else
 some (a1,a2,a3,false,a4,a5,a6,a7,a8)
def zej (t:Tab) (n:Nat) (a1 a2 a3:Int) (a4:ByteArray) (a5 a6:List zh):Option Int:=
 (match quoI .i64 (a4.size:Int) 20 with
 | some a7=>
 some (IntKind.wrap .i64 (a1+a7))
 | none=>none)
def zek (t:Tab) (n:Nat) (a1 a2 a3 a4:Int) (a5:ByteArray) (a6 a7:List zh):Option Int:=
 (match zcb t n n a1 a2 0 a3 a4 a5 a6 a7 with
 | some (a8,a9,a10,a11,a12,a13,a14,a15,a16)=>
 zej t n a9 a12 a13 a14 a15 a16
 | none=>none)
def zbZ (t:Tab) (n:Nat):zh→Int→Option Int
 | ⟨a1,a2,a3,a4,a5⟩,a6=>
 (match zca t n n a6 1 0 a1 a2 a3 a4 a5 with
 | some (a7,a8,a9,a10,a11,a12,a13,a14,a15)=>
 zek t n a7 a8 a11 a12 a13 a14 a15
 | none=>none)
def zc9 (t:Tab) (n:Nat) (a1 a2 a3 a4:Int) (a5:List zh) (a6:List GPred):Option (Int × Int × Int × Int × (List zh) × (List GPred)):=
 if (decide (0≤(a3:Int)))=true then
 (match a6[(a3:Int).toNat]? with
 | some ⟨a7,a8,a9⟩=>
 (match t.zdl (GPred.mk a7 a8 a9) (IntKind.wrap .i64 (a1-a2))with
 | some a10=>
 some (a1,(IntKind.wrap .i64 (a2+a10)),(IntKind.wrap .i64 (a3+1)),a4,a5,a6)
 | none=>none)
 | none=>none)
 else none
def zcc (t:Tab) (n:Nat):Nat→Int→Int→Int→Int→(List zh)→(List GPred)→Option (Int × Int × Int × Bool × Int × (List zh) × (List GPred))
 | 0,_,_,_,_,_,_=>none
 | k+1,a1,a2,a3,a4,a5,a6=>
 if (decide (a3 < (a6.length:Int)))=true then
 if (decide (a2 < a1))=true then
 (match zc9 t n a1 a2 a3 a4 a5 a6 with
 | some (a7,a8,a9,a10,a11,a12)=>
 zcc t n k a7 a8 a9 a10 a11 a12
 | none=>none)
 else
 some (a1,a2,a3,(decide (a2 < a1)),a4,a5,a6)
 else
 some (a1,a2,a3,false,a4,a5,a6)
def zdl (t:Tab) (n:Nat):GPred→Int→Option Int
 | ⟨a1,a2,a3⟩,a4=>
 (match t.zd6 a2 a4 with
 | some a5=>
 (match zcc t n n a4 (IntKind.wrap .i64 (1+a5)) 0 a1 a2 a3 with
 | some (a6,a7,a8,a9,a10,a11,a12)=>
 some a7
 | none=>none)
 | none=>none)
def zbu (t:Tab) (n:Nat) (a1:List (List GStep)) (a2:Int) (a3:Bool) (a4:Int) (a5:List ByteArray) (a6:List Int) (a7 a8:Int) (a9:ByteArray) (a10 a11:List zh) (a12:Int) (a13:List zh) (a14:List GPred) (a15:List (List GStep)) (a16:List GBy) (a17:List ByteArray):Option ((List (List GStep)) × Int × Int × (List ByteArray) × (List Int) × Int × Int × ByteArray × (List zh) × (List zh) × Int × (List zh) × (List GPred) × (List (List GStep)) × (List GBy) × (List ByteArray)):=
 if a3=true then
 if (decide (0≤(a2:Int)))=true then
 (match a16[(a2:Int).toNat]? with
 | some ⟨a18,a19,a20,a21⟩=>
 if (a1.length+([a20]:List (List GStep)).length) * 24≤140737488355328 then
 some ((a1++([a20]:List (List GStep))),a2,a4,a5,a6,a7,a8,a9,a10,a11,a12,a13,a14,a15,a16,a17)
 else none
 | none=>none)
 else none
 else
 some (a1,a2,a4,a5,a6,a7,a8,a9,a10,a11,a12,a13,a14,a15,a16,a17)
def zbL (t:Tab) (n:Nat):Nat→(List (List GStep))→Int→Int→(List ByteArray)→(List Int)→Int→Int→ByteArray→(List zh)→(List zh)→Int→(List zh)→(List GPred)→(List (List GStep))→(List GBy)→(List ByteArray)→Option ((List (List GStep)) × Int × Bool × Int × (List ByteArray) × (List Int) × Int × Int × ByteArray × (List zh) × (List zh) × Int × (List zh) × (List GPred) × (List (List GStep)) × (List GBy) × (List ByteArray))
 | 0,_,_,_,_,_,_,_,_,_,_,_,_,_,_,_,_=>none
 | k+1,a1,a2,a3,a4,a5,a6,a7,a8,a9,a10,a11,a12,a13,a14,a15,a16=>
 if (decide (a2 < (a15.length:Int)))=true then
 if (decide (0≤(a2:Int)))=true then
 (match a15[(a2:Int).toNat]? with
 | some ⟨a17,a18,a19,a20⟩=>
 if (a17==3)=true then
 (match zbu t n a1 a2 true a3 a4 a5 a6 a7 a8 a9 a10 a11 a12 a13 a14 a15 a16 with
 | some (a21,a22,a23,a24,a25,a26,a27,a28,a29,a30,a31,a32,a33,a34,a35,a36)=>
 zbL t n k a21 (IntKind.wrap .i64 (a22+1)) a23 a24 a25 a26 a27 a28 a29 a30 a31 a32 a33 a34 a35 a36
 | none=>none)
 else
 (match zbu t n a1 a2 (decide ((a19.length:Int) > 0)) a3 a4 a5 a6 a7 a8 a9 a10 a11 a12 a13 a14 a15 a16 with
 | some (a37,a38,a39,a40,a41,a42,a43,a44,a45,a46,a47,a48,a49,a50,a51,a52)=>
 zbL t n k a37 (IntKind.wrap .i64 (a38+1)) a39 a40 a41 a42 a43 a44 a45 a46 a47 a48 a49 a50 a51 a52
 | none=>none)
 | none=>none)
 else none
 else
 some (a1,a2,(decide (a2 < (a15.length:Int))),a3,a4,a5,a6,a7,a8,a9,a10,a11,a12,a13,a14,a15,a16)
def zb0 (t:Tab) (n:Nat):GStep→Option (List (List GStep))
 | ⟨a1,a2,a3,⟨a4,a5,a6,a7,a8⟩,⟨a9,a10,a11⟩,a12,a13,a14⟩=>
 if (([]:List (List GStep)).length+a12.length) * 24≤140737488355328 then
 (match zbL t n n (([]:List (List GStep))++a12) 0 a1 a2 a3 a4 a5 a6 a7 a8 a9 a10 a11 a12 a13 a14 with
 | some (a15,a16,a17,a18,a19,a20,a21,a22,a23,a24,a25,a26,a27,a28,a29,a30,a31)=>
 some a15
 | none=>none)
 else none
def zbb (t:Tab) (n:Nat):Nat→(List GStep)→(List GCode)→Int→Int→(List Int)→Int→Int→GCode→Int→(List ByteArray)→(List Int)→zh→GPred→(List (List GStep))→(List GBy)→(List ByteArray)→zH→Option (((List GStep) × Bool × zH)⊕((List GStep) × (List GCode) × Int × Int × (List Int) × Int × Int × Bool × GCode × Int × (List ByteArray) × (List Int) × zh × GPred × (List (List GStep)) × (List GBy) × (List ByteArray) × zH))
 | 0,_,_,_,_,_,_,_,_,_,_,_,_,_,_,_,_,_=>none
 | k+1,a1,a2,a3,a4,a5,a6,a7,⟨a8,a9,a10,⟨a11,a12,a13,a14,a15⟩,⟨a16,a17,a18⟩,a19,a20,a21⟩,a22,a23,a24,⟨a25,a26,a27,a28,a29⟩,⟨a30,a31,a32⟩,a33,a34,a35,⟨a36,a37⟩=>
 if (decide (a7 < a6))=true then
 if (decide (0≤(a7:Int)))=true then
 (match a5[(a7:Int).toNat]? with
 | some a38=>
 (match t.zaP a38 (zH.mk a36 a37)with
 | some (a39,a40,⟨a41,a42⟩)=>
 if a40=true then
 if (a33.length+([a39]:List (List GStep)).length) * 24≤140737488355328 then
 zbb t n k a1 a2 a3 a4 a5 a6 (IntKind.wrap .i64 (a7+1)) (GCode.mk a8 a9 a10 (zh.mk a11 a12 a13 a14 a15) (GPred.mk a16 a17 a18) a19 a20 a21) a22 a23 a24 (zh.mk a25 a26 a27 a28 a29) (GPred.mk a30 a31 a32) (a33++([a39]:List (List GStep))) a34 a35 (zH.mk a41 a42)
 else none
 else
 some (.inl (([]:List GStep),false,(zH.mk a41 a42)))
 | none=>none)
 | none=>none)
 else none
 else
 some (.inr (a1,a2,a3,a4,a5,a6,a7,(decide (a7 < a6)),(GCode.mk a8 a9 a10 (zh.mk a11 a12 a13 a14 a15) (GPred.mk a16 a17 a18) a19 a20 a21),a22,a23,a24,(zh.mk a25 a26 a27 a28 a29),(GPred.mk a30 a31 a32),a33,a34,a35,(zH.mk a36 a37)))
def za0 (t:Tab) (n:Nat):(List GStep)→(List GCode)→Int→Int→(List GKey)→Int→Int→Int→(List ByteArray)→(List Int)→zh→GPred→(List (List GStep))→(List GBy)→(List ByteArray)→GBy→zH→Option ((List GStep) × (List GCode) × Int × Int × (List GKey) × Int × Int × Int × (List ByteArray) × (List Int) × zh × GPred × (List (List GStep)) × (List GBy) × (List ByteArray) × zH)
 | a1,a2,a3,a4,a5,a6,a7,a8,a9,a10,⟨a11,a12,a13,a14,a15⟩,⟨a16,a17,a18⟩,a19,a20,a21,⟨a22,a23,a24,a25⟩,⟨a26,a27⟩=>
 if (a20.length+([(GBy.mk a22 a23 a24 a25)]:List GBy).length) * 56≤140737488355328 then
 some (a1,a2,a3,a4,a5,a6,a7,a8,a9,a10,(zh.mk a11 a12 a13 a14 a15),(GPred.mk a16 a17 a18),a19,(a20++([(GBy.mk a22 a23 a24 a25)]:List GBy)),a21,(zH.mk a26 a27))
 else none
def za1 (t:Tab) (n:Nat):Nat→(List GStep)→(List GCode)→Int→Int→(List GKey)→Int→Int→Int→(List ByteArray)→(List Int)→zh→GPred→(List (List GStep))→(List GBy)→(List ByteArray)→zH→Option (((List GStep) × Bool × zH)⊕((List GStep) × (List GCode) × Int × Int × (List GKey) × Int × Int × Bool × Int × (List ByteArray) × (List Int) × zh × GPred × (List (List GStep)) × (List GBy) × (List ByteArray) × zH))
 | 0,_,_,_,_,_,_,_,_,_,_,_,_,_,_,_,_=>none
 | k+1,a1,a2,a3,a4,a5,a6,a7,a8,a9,a10,⟨a11,a12,a13,a14,a15⟩,⟨a16,a17,a18⟩,a19,a20,a21,⟨a22,a23⟩=>
 if (decide (a7 < a6))=true then
 if (decide (0≤(a7:Int)))=true then
 (match a5[(a7:Int).toNat]? with
 | some ⟨a24,a25,a26,a27⟩=>
 if (a24==3)=true then
 (match t.zaP a26 (zH.mk a22 a23)with
 | some (a28,a29,⟨a30,a31⟩)=>
 if a29=true then
 (match za0 t n a1 a2 a3 a4 a5 a6 a7 a8 a9 a10 (zh.mk a11 a12 a13 a14 a15) (GPred.mk a16 a17 a18) a19 a20 a21 (GBy.mk a24 a25 a28 a27) (zH.mk a30 a31)with
 | some (a32,a33,a34,a35,a36,a37,a38,a39,a40,a41,⟨a42,a43,a44,a45,a46⟩,⟨a47,a48,a49⟩,a50,a51,a52,⟨a53,a54⟩)=>
 za1 t n k a32 a33 a34 a35 a36 a37 (IntKind.wrap .i64 (a38+1)) a39 a40 a41 (zh.mk a42 a43 a44 a45 a46) (GPred.mk a47 a48 a49) a50 a51 a52 (zH.mk a53 a54)
 | none=>none)
 else
 some (.inl (([]:List GStep),false,(zH.mk a30 a31)))
 | none=>none)
 else
 if (a26 !=0)=true then
 some (.inl (([]:List GStep),false,(zH.mk a22 a23)))
 else
 (match za0 t n a1 a2 a3 a4 a5 a6 a7 a8 a9 a10 (zh.mk a11 a12 a13 a14 a15) (GPred.mk a16 a17 a18) a19 a20 a21 (GBy.mk a24 a25 ([]:List GStep) a27) (zH.mk a22 a23)with
 | some (a55,a56,a57,a58,a59,a60,a61,a62,a63,a64,⟨a65,a66,a67,a68,a69⟩,⟨a70,a71,a72⟩,a73,a74,a75,⟨a76,a77⟩)=>
 za1 t n k a55 a56 a57 a58 a59 a60 (IntKind.wrap .i64 (a61+1)) a62 a63 a64 (zh.mk a65 a66 a67 a68 a69) (GPred.mk a70 a71 a72) a73 a74 a75 (zH.mk a76 a77)
 | none=>none)
 | none=>none)
 else none
 else
 some (.inr (a1,a2,a3,a4,a5,a6,a7,(decide (a7 < a6)),a8,a9,a10,(zh.mk a11 a12 a13 a14 a15),(GPred.mk a16 a17 a18),a19,a20,a21,(zH.mk a22 a23)))
def zbv (t:Tab) (n:Nat):(List GStep)→(List GCode)→Int→Int→Int→(List ByteArray)→(List Int)→zh→GPred→(List (List GStep))→(List GBy)→(List ByteArray)→zH→Option ((List GStep) × (List GCode) × Int × Int × zH)
 | a1,a2,a3,a4,a5,a6,a7,⟨a8,a9,a10,a11,a12⟩,⟨a13,a14,a15⟩,a16,a17,a18,⟨a19,a20⟩=>
 if (a1.length+([(GStep.mk a5 a6 a7 (zh.mk a8 a9 a10 a11 a12) (GPred.mk a13 a14 a15) a16 a17 a18)]:List GStep).length) * 264≤140737488355328 then
 some ((a1++([(GStep.mk a5 a6 a7 (zh.mk a8 a9 a10 a11 a12) (GPred.mk a13 a14 a15) a16 a17 a18)]:List GStep)),a2,a3,a4,(zH.mk a19 a20))
 else none
def zbc (t:Tab) (n:Nat):(List GStep)→(List GCode)→Int→Int→GCode→Int→(List ByteArray)→(List Int)→zh→GPred→(List (List GStep))→(List GBy)→(List ByteArray)→zH→Option (((List GStep) × Bool × zH)⊕((List GStep) × (List GCode) × Int × Int × zH))
 | a1,a2,a3,a4,⟨a5,a6,a7,⟨a8,a9,a10,a11,a12⟩,⟨a13,a14,a15⟩,a16,a17,a18⟩,a19,a20,a21,⟨a22,a23,a24,a25,a26⟩,⟨a27,a28,a29⟩,a30,a31,a32,⟨a33,a34⟩=>
 (match za1 t n n a1 a2 a3 a4 a17 (a17.length:Int) 0 a19 a20 a21 (zh.mk a22 a23 a24 a25 a26) (GPred.mk a27 a28 a29) a30 a31 a32 (zH.mk a33 a34)with
 | some (.inl (a35,a36,⟨a37,a38⟩))=>
 some (.inl (a35,a36,(zH.mk a37 a38)))
 | some (.inr (a39,a40,a41,a42,a43,a44,a45,a46,a47,a48,a49,⟨a50,a51,a52,a53,a54⟩,⟨a55,a56,a57⟩,a58,a59,a60,⟨a61,a62⟩))=>
 (match zbv t n a39 a40 a41 a42 a47 a48 a49 (zh.mk a50 a51 a52 a53 a54) (GPred.mk a55 a56 a57) a58 a59 a60 (zH.mk a61 a62)with
 | some (a63,a64,a65,a66,⟨a67,a68⟩)=>
 some (.inr (a63,a64,a65,a66,(zH.mk a67 a68)))
 | none=>none)
 | none=>none)
def zbw (t:Tab) (n:Nat):Nat→(List GStep)→(List GCode)→Int→Int→zH→Option (((List GStep) × Bool × zH)⊕((List GStep) × (List GCode) × Int × Int × Bool × zH))
 | 0,_,_,_,_,_=>none
 | k+1,a1,a2,a3,a4,⟨a5,a6⟩=>
 if (decide (a4 < a3))=true then
 if (decide (0≤(a4:Int)))=true then
 (match a2[(a4:Int).toNat]? with
 | some ⟨a7,a8,a9,⟨a10,a11,a12,a13,a14⟩,⟨a15,a16,a17⟩,a18,a19,a20⟩=>
 (match zbb t n n a1 a2 a3 a4 a18 (a18.length:Int) 0 (GCode.mk a7 a8 a9 (zh.mk a10 a11 a12 a13 a14) (GPred.mk a15 a16 a17) a18 a19 a20) a7 a8 a9 (zh.mk a10 a11 a12 a13 a14) (GPred.mk a15 a16 a17) ([]:List (List GStep)) ([]:List GBy) a20 (zH.mk a5 a6)with
 | some (.inl (a21,a22,⟨a23,a24⟩))=>
 some (.inl (a21,a22,(zH.mk a23 a24)))
 | some (.inr (a25,a26,a27,a28,a29,a30,a31,a32,⟨a33,a34,a35,⟨a36,a37,a38,a39,a40⟩,⟨a41,a42,a43⟩,a44,a45,a46⟩,a47,a48,a49,⟨a50,a51,a52,a53,a54⟩,⟨a55,a56,a57⟩,a58,a59,a60,⟨a61,a62⟩))=>
 (match zbc t n a25 a26 a27 a28 (GCode.mk a33 a34 a35 (zh.mk a36 a37 a38 a39 a40) (GPred.mk a41 a42 a43) a44 a45 a46) a47 a48 a49 (zh.mk a50 a51 a52 a53 a54) (GPred.mk a55 a56 a57) a58 a59 a60 (zH.mk a61 a62)with
 | some (.inl (a63,a64,⟨a65,a66⟩))=>
 some (.inl (a63,a64,(zH.mk a65 a66)))
 | some (.inr (a67,a68,a69,a70,⟨a71,a72⟩))=>
 zbw t n k a67 a68 a69 (IntKind.wrap .i64 (a70+1)) (zH.mk a71 a72)
 | none=>none)
 | none=>none)
 | none=>none)
 else none
 else
 some (.inr (a1,a2,a3,a4,(decide (a4 < a3)),(zH.mk a5 a6)))
def zbx (t:Tab) (n:Nat):Int→zH→Option ((List GStep) × Bool × zH)
 | a1,⟨a2,a3⟩=>
 if (decide (0≤(a1:Int)))=true then
 (match a2[(a1:Int).toNat]? with
 | some a4=>
 (match zbw t n n ([]:List GStep) a4 (a4.length:Int) 0 (zH.mk a2 (IntKind.wrap .i64 (a3+1)))with
 | some (.inl (a5,a6,⟨a7,a8⟩))=>
 some (a5,a6,(zH.mk a7 a8))
 | some (.inr (a9,a10,a11,a12,a13,⟨a14,a15⟩))=>
 some (a9,true,(zH.mk a14 a15))
 | none=>none)
 | none=>none)
 else none
def zaP (t:Tab) (n:Nat):Int→zH→Option ((List GStep) × Bool × zH)
 | a1,⟨a2,a3⟩=>
 if (a1 !=a3)=true then
 some (([]:List GStep),false,(zH.mk a2 a3))
 else
 if (decide (a1≥(a2.length:Int)))=true then
 some (([]:List GStep),false,(zH.mk a2 a3))
 else
 (match zbx t n a1 (zH.mk a2 a3)with
 | some (a4,a5,⟨a6,a7⟩)=>
 some (a4,a5,(zH.mk a6 a7))
 | none=>none)
def zbM (t:Tab) (n:Nat):Nat→(List ByteArray)→(List ByteArray)→Int→Option (Bool⊕((List ByteArray) × (List ByteArray) × Int × Bool))
 | 0,_,_,_=>none
 | k+1,a1,a2,a3=>
 if (decide (a3 < (a1.length:Int)))=true then
 if (decide (0≤(a3:Int)))=true then
 (match a1[(a3:Int).toNat]? with
 | some a4=>
 (match a2[(a3:Int).toNat]? with
 | some a5=>
 if (a4.toList==a5.toList)=true then
 zbM t n k a1 a2 (IntKind.wrap .i64 (a3+1))
 else
 some (.inl false)
 | none=>none)
 | none=>none)
 else none
 else
 some (.inr (a1,a2,a3,(decide (a3 < (a1.length:Int)))))
def zcz (t:Tab) (n:Nat):(List ByteArray)→(List ByteArray)→Option Bool
 | a1,a2=>
 if ((a1.length:Int) !=(a2.length:Int))=true then
 some false
 else
 (match zbM t n n a1 a2 0 with
 | some (.inl a3)=>
 some a3
 | some (.inr (a4,a5,a6,a7))=>
 some true
 | none=>none)
def zbi (t:Tab) (n:Nat):Nat→(List Int)→(List Int)→Int→Option (Bool⊕((List Int) × (List Int) × Int × Bool))
 | 0,_,_,_=>none
 | k+1,a1,a2,a3=>
 if (decide (a3 < (a1.length:Int)))=true then
 if (decide (0≤(a3:Int)))=true then
 (match a1[(a3:Int).toNat]? with
 | some a4=>
 (match a2[(a3:Int).toNat]? with
 | some a5=>
 if (a4 !=a5)=true then
 some (.inl false)
 else
 zbi t n k a1 a2 (IntKind.wrap .i64 (a3+1))
 | none=>none)
 | none=>none)
 else none
 else
 some (.inr (a1,a2,a3,(decide (a3 < (a1.length:Int)))))
def zcT (t:Tab) (n:Nat):(List Int)→(List Int)→Option Bool
 | a1,a2=>
 if ((a1.length:Int) !=(a2.length:Int))=true then
 some false
 else
 (match zbi t n n a1 a2 0 with
 | some (.inl a3)=>
 some a3
 | some (.inr (a4,a5,a6,a7))=>
 some true
 | none=>none)
def zcD (t:Tab) (n:Nat):zh→zh→Option Bool
 | ⟨a1,a2,a3,a4,a5⟩,⟨a6,a7,a8,a9,a10⟩=>
 (match t.zaG (zh.mk a1 a2 a3 a4 a5) (zh.mk a6 a7 a8 a9 a10) 1 with
 | some a11=>
 some (a11==0)
 | none=>none)
def zdH (t:Tab) (n:Nat):Nat→Int→Int→(List zh)→(List GPred)→Int→(List zh)→(List GPred)→Option (Bool⊕(Int × Bool × Int × (List zh) × (List GPred) × Int × (List zh) × (List GPred)))
 | 0,_,_,_,_,_,_,_=>none
 | k+1,a1,a2,a3,a4,a5,a6,a7=>
 if (decide (a1 < (a4.length:Int)))=true then
 if (decide (0≤(a1:Int)))=true then
 (match a4[(a1:Int).toNat]? with
 | some ⟨a8,a9,a10⟩=>
 (match a7[(a1:Int).toNat]? with
 | some ⟨a11,a12,a13⟩=>
 (match t.zb5 (GPred.mk a8 a9 a10) (GPred.mk a11 a12 a13)with
 | some a14=>
 if a14=true then
 zdH t n k (IntKind.wrap .i64 (a1+1)) a2 a3 a4 a5 a6 a7
 else
 some (.inl false)
 | none=>none)
 | none=>none)
 | none=>none)
 else none
 else
 some (.inr (a1,(decide (a1 < (a4.length:Int))),a2,a3,a4,a5,a6,a7))
def zev (t:Tab) (n:Nat) (a1:Int) (a2:List zh) (a3:List GPred) (a4:Int) (a5:List zh) (a6:List GPred):Option Bool:=
 (match zdH t n n 0 a1 a2 a3 a4 a5 a6 with
 | some (.inl a7)=>
 some a7
 | some (.inr (a8,a9,a10,a11,a12,a13,a14,a15))=>
 some true
 | none=>none)
def zb5 (t:Tab) (n:Nat):GPred→GPred→Option Bool
 | ⟨a1,a2,a3⟩,⟨a4,a5,a6⟩=>
 if (a1 !=a4)=true then
 some false
 else
 (match t.zbO a2 a5 with
 | some a7=>
 if a7=true then
 if ((a3.length:Int) !=(a6.length:Int))=true then
 some false
 else
 zev t n a1 a2 a3 a4 a5 a6
 else
 some false
 | none=>none)
def zao (t:Tab) (n:Nat):Nat→(List (List GCode))→(List (List GCode))→Int→Int→Option (Bool⊕((List (List GCode)) × (List (List GCode)) × Int × Int × Bool))
 | 0,_,_,_,_=>none
 | k+1,a1,a2,a3,a4=>
 if (decide (a4 < a3))=true then
 if (decide (0≤(a4:Int)))=true then
 (match a2[(a4:Int).toNat]? with
 | some a5=>
 (match a1[(a4:Int).toNat]? with
 | some a6=>
 (match t.zd7 a5 a6 with
 | some a7=>
 if a7=true then
 zao t n k a1 a2 a3 (IntKind.wrap .i64 (a4+1))
 else
 some (.inl false)
 | none=>none)
 | none=>none)
 | none=>none)
 else none
 else
 some (.inr (a1,a2,a3,a4,(decide (a4 < a3))))
def zaz (t:Tab) (n:Nat):(List (List GCode))→(List (List GCode))→Option Bool
 | a1,a2=>
 if ((a1.length:Int) !=(a2.length:Int))=true then
 some false
 else
 (match zao t n n a2 a1 (a1.length:Int) 0 with
 | some (.inl a3)=>
 some a3
 | some (.inr (a4,a5,a6,a7,a8))=>
 some true
 | none=>none)
def zcd (t:Tab) (n:Nat) (a1 a2 a3 a4:Int) (a5:Bool) (a6:ByteArray) (a7:Bool) (a8:Int) (a9:List ByteArray) (a10:List Int) (a11 a12:Int) (a13:ByteArray) (a14 a15:List zh) (a16:Int) (a17:List zh) (a18:List GPred) (a19:List (List GStep)) (a20:List GBy) (a21:List ByteArray):Option (Bool⊕Bool):=
 if a7=true then
 if (decide (a3 > 0))=true then
 if (decide (a3≤50))=true then
 some (.inl ((IntKind.wrap .i64 ((IntKind.wrap .i64 (a1+a2))+a4))==0))
 else
 some (.inl false)
 else
 some (.inl false)
 else
 if (a6.toList==(ByteArray.mk #[67,104,111,111,115,101]).toList)=true then
 if (a3==3)=true then
 some (.inl ((IntKind.wrap .i64 ((IntKind.wrap .i64 (a1+a2))+a4))==0))
 else
 some (.inl false)
 else
 if (a6.toList==(ByteArray.mk #[82,101,112,101,97,116]).toList)=true then
 if ((IntKind.wrap .i64 (a1+a4))==0)=true then
 if (a2==2)=true then
 if (decide (0≤(0:Int)))=true then
 (match a10[(0:Int).toNat]? with
 | some a22=>
 if (decide (a22≥(-1)))=true then
 if (decide (0≤(1:Int)))=true then
 (match a10[(1:Int).toNat]? with
 | some a23=>
 if (a23==0)=true then
 if (a3==2)=true then
 some (.inl true)
 else
 if (a3==1)=true then
 some (.inl (decide (a22≥0)))
 else
 some (.inl false)
 else
 if (a23==1)=true then
 if (a3==2)=true then
 some (.inl true)
 else
 if (a3==1)=true then
 some (.inl (decide (a22≥0)))
 else
 some (.inl false)
 else
 some (.inl false)
 | none=>none)
 else none
 else
 some (.inl false)
 | none=>none)
 else none
 else
 some (.inl false)
 else
 some (.inl false)
 else
 if (a6.toList==(ByteArray.mk #[79,114,100,101,114]).toList)=true then
 if ((IntKind.wrap .i64 ((IntKind.wrap .i64 (a1+a2))+a3))==0)=true then
 some (.inl (decide (a4≤50)))
 else
 some (.inl false)
 else
 if (a6.toList==(ByteArray.mk #[71,114,111,117,112]).toList)=true then
 if ((IntKind.wrap .i64 ((IntKind.wrap .i64 (a1+a2))+a3))==0)=true then
 some (.inl (decide (a4≤2)))
 else
 some (.inl false)
 else
 if (a6.toList==(ByteArray.mk #[71,114,111,117,112,67,111,117,110,116]).toList)=true then
 if ((IntKind.wrap .i64 ((IntKind.wrap .i64 (a1+a2))+a3))==0)=true then
 some (.inl (decide (a4≤1)))
 else
 some (.inl false)
 else
 if (a6.toList==(ByteArray.mk #[80,114,111,106,101,99,116]).toList)=true then
 if (decide (a1 > 0))=true then
 if ((IntKind.wrap .i64 (a2+a3))==0)=true then
 if (decide (a4≤a1))=true then
 (match t.zdp a9 with
 | some a24=>
 some (.inl a24)
 | none=>none)
 else
 some (.inl false)
 else
 some (.inl false)
 else
 some (.inl false)
 else
 some (.inr a5)
def zdv (t:Tab) (n:Nat) (a1 a2 a3 a4:Int) (a5:Bool) (a6:ByteArray) (a7:Bool) (a8:Int) (a9:List ByteArray) (a10:List Int) (a11 a12:Int) (a13:ByteArray) (a14 a15:List zh) (a16:Int) (a17:List zh) (a18:List GPred) (a19:List (List GStep)) (a20:List GBy) (a21:List ByteArray):Option (Bool⊕Bool):=
 if a7=true then
 if (a3==1)=true then
 some (.inl ((IntKind.wrap .i64 ((IntKind.wrap .i64 (a1+a2))+a4))==0))
 else
 some (.inl false)
 else
 if (a6.toList==(ByteArray.mk #[65,108,108,79,102]).toList)=true then
 zcd t n a1 a2 a3 a4 a5 a6 (a6.toList==(ByteArray.mk #[65,108,108,79,102]).toList) a8 a9 a10 a11 a12 a13 a14 a15 a16 a17 a18 a19 a20 a21
 else
 if (a6.toList==(ByteArray.mk #[65,110,121,79,102]).toList)=true then
 zcd t n a1 a2 a3 a4 a5 a6 (a6.toList==(ByteArray.mk #[65,110,121,79,102]).toList) a8 a9 a10 a11 a12 a13 a14 a15 a16 a17 a18 a19 a20 a21
 else
 if (a6.toList==(ByteArray.mk #[85,110,105,111,110]).toList)=true then
 zcd t n a1 a2 a3 a4 a5 a6 (a6.toList==(ByteArray.mk #[85,110,105,111,110]).toList) a8 a9 a10 a11 a12 a13 a14 a15 a16 a17 a18 a19 a20 a21
 else
 zcd t n a1 a2 a3 a4 a5 a6 (a6.toList==(ByteArray.mk #[67,111,97,108,101,115,99,101]).toList) a8 a9 a10 a11 a12 a13 a14 a15 a16 a17 a18 a19 a20 a21
def zbk (t:Tab) (n:Nat) (a1 a2 a3 a4:Int) (a5:Bool) (a6:ByteArray) (a7:Bool) (a8:Int) (a9:List ByteArray) (a10:List Int) (a11 a12:Int) (a13:ByteArray) (a14 a15:List zh) (a16:Int) (a17:List zh) (a18:List GPred) (a19:List (List GStep)) (a20:List GBy) (a21:List ByteArray):Option (Bool⊕Bool):=
 if a7=true then
 if (a1==1)=true then
 some (.inl ((IntKind.wrap .i64 ((IntKind.wrap .i64 (a2+a3))+a4))==0))
 else
 some (.inl false)
 else
 if (a6.toList==(ByteArray.mk #[72,97,115,73,68]).toList)=true then
 if (decide (a2 > 0))=true then
 if (decide (a2≤50))=true then
 some (.inl ((IntKind.wrap .i64 ((IntKind.wrap .i64 (a1+a3))+a4))==0))
 else
 some (.inl false)
 else
 some (.inl false)
 else
 if (a6.toList==(ByteArray.mk #[82,97,110,103,101]).toList)=true then
 if (a2==2)=true then
 if ((IntKind.wrap .i64 ((IntKind.wrap .i64 (a1+a3))+a4))==0)=true then
 if (decide (0≤(0:Int)))=true then
 (match a10[(0:Int).toNat]? with
 | some a22=>
 if (decide (a22≥0))=true then
 if (decide (0≤(1:Int)))=true then
 (match a10[(1:Int).toNat]? with
 | some a23=>
 if (a23==(-1))=true then
 some (.inl true)
 else
 some (.inl (decide (a22≤a23)))
 | none=>none)
 else none
 else
 some (.inl false)
 | none=>none)
 else none
 else
 some (.inl false)
 else
 some (.inl false)
 else
 if (a6.toList==(ByteArray.mk #[84,97,105,108]).toList)=true then
 if (a2==1)=true then
 if ((IntKind.wrap .i64 ((IntKind.wrap .i64 (a1+a3))+a4))==0)=true then
 (match t.zdc a10 with
 | some a24=>
 some (.inl a24)
 | none=>none)
 else
 some (.inl false)
 else
 some (.inl false)
 else
 if (a6.toList==(ByteArray.mk #[87,104,101,114,101]).toList)=true then
 zdv t n a1 a2 a3 a4 a5 a6 (a6.toList==(ByteArray.mk #[87,104,101,114,101]).toList) a8 a9 a10 a11 a12 a13 a14 a15 a16 a17 a18 a19 a20 a21
 else
 if (a6.toList==(ByteArray.mk #[78,111,116,84,104,97,116]).toList)=true then
 zdv t n a1 a2 a3 a4 a5 a6 (a6.toList==(ByteArray.mk #[78,111,116,84,104,97,116]).toList) a8 a9 a10 a11 a12 a13 a14 a15 a16 a17 a18 a19 a20 a21
 else
 zdv t n a1 a2 a3 a4 a5 a6 (a6.toList==(ByteArray.mk #[79,112,116,105,111,110,97,108]).toList) a8 a9 a10 a11 a12 a13 a14 a15 a16 a17 a18 a19 a20 a21
def zd5 (t:Tab) (n:Nat) (a1 a2 a3 a4:Int) (a5:Bool) (a6:ByteArray) (a7:Bool) (a8:Int) (a9:List ByteArray) (a10:List Int) (a11 a12:Int) (a13:ByteArray) (a14 a15:List zh) (a16:Int) (a17:List zh) (a18:List GPred) (a19:List (List GStep)) (a20:List GBy) (a21:List ByteArray):Option (Bool⊕Bool):=
 if a7=true then
 if (decide (a1 > 0))=true then
 some (.inl ((IntKind.wrap .i64 ((IntKind.wrap .i64 (a2+a3))+a4))==0))
 else
 some (.inl false)
 else
 if (a6.toList==(ByteArray.mk #[72,97,115]).toList)=true then
 zbk t n a1 a2 a3 a4 a5 a6 (a6.toList==(ByteArray.mk #[72,97,115]).toList) a8 a9 a10 a11 a12 a13 a14 a15 a16 a17 a18 a19 a20 a21
 else
 if (a6.toList==(ByteArray.mk #[72,97,115,75,101,121]).toList)=true then
 zbk t n a1 a2 a3 a4 a5 a6 (a6.toList==(ByteArray.mk #[72,97,115,75,101,121]).toList) a8 a9 a10 a11 a12 a13 a14 a15 a16 a17 a18 a19 a20 a21
 else
 if (a6.toList==(ByteArray.mk #[72,97,115,78,111,116]).toList)=true then
 zbk t n a1 a2 a3 a4 a5 a6 (a6.toList==(ByteArray.mk #[72,97,115,78,111,116]).toList) a8 a9 a10 a11 a12 a13 a14 a15 a16 a17 a18 a19 a20 a21
 else
 if (a6.toList==(ByteArray.mk #[65,103,103,114,101,103,97,116,101]).toList)=true then
 zbk t n a1 a2 a3 a4 a5 a6 (a6.toList==(ByteArray.mk #[65,103,103,114,101,103,97,116,101]).toList) a8 a9 a10 a11 a12 a13 a14 a15 a16 a17 a18 a19 a20 a21
 else
 zbk t n a1 a2 a3 a4 a5 a6 (a6.toList==(ByteArray.mk #[67,97,112]).toList) a8 a9 a10 a11 a12 a13 a14 a15 a16 a17 a18 a19 a20 a21
def zaJ (t:Tab) (n:Nat) (a1 a2 a3 a4:Int) (a5:Bool) (a6:ByteArray) (a7:Bool) (a8:Int) (a9:List ByteArray) (a10:List Int) (a11 a12:Int) (a13:ByteArray) (a14 a15:List zh) (a16:Int) (a17:List zh) (a18:List GPred) (a19:List (List GStep)) (a20:List GBy) (a21:List ByteArray):Option (Bool⊕Bool):=
 if a7=true then
 some (.inl ((IntKind.wrap .i64 ((IntKind.wrap .i64 (a2+a3))+a4))==0))
 else
 if (a6.toList==(ByteArray.mk #[72,97,115,76,97,98,101,108]).toList)=true then
 zd5 t n a1 a2 a3 a4 a5 a6 (a6.toList==(ByteArray.mk #[72,97,115,76,97,98,101,108]).toList) a8 a9 a10 a11 a12 a13 a14 a15 a16 a17 a18 a19 a20 a21
 else
 zd5 t n a1 a2 a3 a4 a5 a6 (a6.toList==(ByteArray.mk #[83,101,108,101,99,116]).toList) a8 a9 a10 a11 a12 a13 a14 a15 a16 a17 a18 a19 a20 a21
def zc0 (t:Tab) (n:Nat) (a1 a2 a3 a4:Int) (a5:Bool) (a6:ByteArray) (a7:Bool) (a8:Int) (a9:List ByteArray) (a10:List Int) (a11 a12:Int) (a13:ByteArray) (a14 a15:List zh) (a16:Int) (a17:List zh) (a18:List GPred) (a19:List (List GStep)) (a20:List GBy) (a21:List ByteArray):Option (Bool⊕Bool):=
 if a7=true then
 if ((IntKind.wrap .i64 ((IntKind.wrap .i64 (a1+a3))+a4))==0)=true then
 if (decide (a2≤50))=true then
 (match t.zdc a10 with
 | some a22=>
 some (.inl a22)
 | none=>none)
 else
 some (.inl false)
 else
 some (.inl false)
 else
 if (a6.toList==(ByteArray.mk #[79,117,116]).toList)=true then
 zaJ t n a1 a2 a3 a4 a5 a6 (a6.toList==(ByteArray.mk #[79,117,116]).toList) a8 a9 a10 a11 a12 a13 a14 a15 a16 a17 a18 a19 a20 a21
 else
 if (a6.toList==(ByteArray.mk #[73,110]).toList)=true then
 zaJ t n a1 a2 a3 a4 a5 a6 (a6.toList==(ByteArray.mk #[73,110]).toList) a8 a9 a10 a11 a12 a13 a14 a15 a16 a17 a18 a19 a20 a21
 else
 if (a6.toList==(ByteArray.mk #[66,111,116,104]).toList)=true then
 zaJ t n a1 a2 a3 a4 a5 a6 (a6.toList==(ByteArray.mk #[66,111,116,104]).toList) a8 a9 a10 a11 a12 a13 a14 a15 a16 a17 a18 a19 a20 a21
 else
 if (a6.toList==(ByteArray.mk #[79,117,116,69]).toList)=true then
 zaJ t n a1 a2 a3 a4 a5 a6 (a6.toList==(ByteArray.mk #[79,117,116,69]).toList) a8 a9 a10 a11 a12 a13 a14 a15 a16 a17 a18 a19 a20 a21
 else
 if (a6.toList==(ByteArray.mk #[73,110,69]).toList)=true then
 zaJ t n a1 a2 a3 a4 a5 a6 (a6.toList==(ByteArray.mk #[73,110,69]).toList) a8 a9 a10 a11 a12 a13 a14 a15 a16 a17 a18 a19 a20 a21
 else
 if (a6.toList==(ByteArray.mk #[66,111,116,104,69]).toList)=true then
 zaJ t n a1 a2 a3 a4 a5 a6 (a6.toList==(ByteArray.mk #[66,111,116,104,69]).toList) a8 a9 a10 a11 a12 a13 a14 a15 a16 a17 a18 a19 a20 a21
 else
 zaJ t n a1 a2 a3 a4 a5 a6 (a6.toList==(ByteArray.mk #[86,97,108,117,101,115]).toList) a8 a9 a10 a11 a12 a13 a14 a15 a16 a17 a18 a19 a20 a21
def zai (t:Tab) (n:Nat):GStep→Option Bool
 | ⟨a1,a2,a3,⟨a4,a5,a6,a7,a8⟩,⟨a9,a10,a11⟩,a12,a13,a14⟩=>
 (match t.zaU a1 with
 | some a15=>
 if (a15.toList==(ByteArray.mk #[]).toList)=true then
 some false
 else
 if (a15.toList==(ByteArray.mk #[86]).toList)=true then
 (match zc0 t n (a2.length:Int) (a3.length:Int) (a12.length:Int) (a13.length:Int) ((IntKind.wrap .i64 ((IntKind.wrap .i64 ((IntKind.wrap .i64 ((a2.length:Int)+(a3.length:Int)))+(a12.length:Int)))+(a13.length:Int)))==0) a15 (a15.toList==(ByteArray.mk #[86]).toList) a1 a2 a3 a4 a5 a6 a7 a8 a9 a10 a11 a12 a13 a14 with
 | some (.inl a16)=>
 some a16
 | some (.inr a17)=>
 some a17
 | none=>none)
 else
 (match zc0 t n (a2.length:Int) (a3.length:Int) (a12.length:Int) (a13.length:Int) ((IntKind.wrap .i64 ((IntKind.wrap .i64 ((IntKind.wrap .i64 ((a2.length:Int)+(a3.length:Int)))+(a12.length:Int)))+(a13.length:Int)))==0) a15 (a15.toList==(ByteArray.mk #[69]).toList) a1 a2 a3 a4 a5 a6 a7 a8 a9 a10 a11 a12 a13 a14 with
 | some (.inl a18)=>
 some a18
 | some (.inr a19)=>
 some a19
 | none=>none)
 | none=>none)
def zbN (t:Tab) (n:Nat):Nat→(List ByteArray)→Int→Option (Bool⊕((List ByteArray) × Int × Bool))
 | 0,_,_=>none
 | k+1,a1,a2=>
 if (decide (a2 < (a1.length:Int)))=true then
 if (decide (0≤(a2:Int)))=true then
 (match a1[(a2:Int).toNat]? with
 | some a3=>
 (match t.zb6 a3 with
 | some a4=>
 if a4=true then
 zbN t n k a1 (IntKind.wrap .i64 (a2+1))
 else
 some (.inl false)
 | none=>none)
 | none=>none)
 else none
 else
 some (.inr (a1,a2,(decide (a2 < (a1.length:Int)))))
def zbB (t:Tab) (n:Nat):(List ByteArray)→Option Bool
 | a1=>
 (match zbN t n n a1 0 with
 | some (.inl a2)=>
 some a2
 | some (.inr (a3,a4,a5))=>
 some (decide ((a3.length:Int)≤50))
 | none=>none)
def zce (t:Tab) (n:Nat):zh→Option Int
 | ⟨a1,a2,a3,a4,a5⟩=>
 (match t.za7 (zh.mk a1 a2 a3 a4 a5) 1 with
 | some a6=>
 if a6=true then
 some 0
 else
 some 2
 | none=>none)
def zdB (t:Tab) (n:Nat):GPred→Option Int
 | ⟨a1,a2,a3⟩=>
 (match t.zbp (GPred.mk a1 a2 a3) 1 with
 | some a4=>
 if a4=true then
 some 0
 else
 some 2
 | none=>none)
def zew (t:Tab) (n:Nat) (a1:Int) (a2:List ByteArray):Option ByteArray:=
 if (decide (0≤((IntKind.wrap .i64 (a1-1)):Int)))=true then
 (match a2[((IntKind.wrap .i64 (a1-1)):Int).toNat]? with
 | some a3=>
 some a3
 | none=>none)
 else none
def zef (t:Tab) (n:Nat) (a1:Int) (a2:List ByteArray):Option ByteArray:=
 if (decide (a1 < 1))=true then
 some (ByteArray.mk #[])
 else
 if (decide (a1 > (a2.length:Int)))=true then
 some (ByteArray.mk #[])
 else
 zew t n a1 a2
def zaU (t:Tab) (n:Nat):Int→Option ByteArray
 | a1=>
 zef t n a1 ([(ByteArray.mk #[86]),(ByteArray.mk #[69]),(ByteArray.mk #[79,117,116]),(ByteArray.mk #[73,110]),(ByteArray.mk #[66,111,116,104]),(ByteArray.mk #[79,117,116,69]),(ByteArray.mk #[73,110,69]),(ByteArray.mk #[66,111,116,104,69]),(ByteArray.mk #[79,117,116,86]),(ByteArray.mk #[73,110,86]),(ByteArray.mk #[66,111,116,104,86]),(ByteArray.mk #[73,68]),(ByteArray.mk #[76,97,98,101,108]),(ByteArray.mk #[86,97,108,117,101,115]),(ByteArray.mk #[67,111,110,115,116,97,110,116]),(ByteArray.mk #[73,100,101,110,116,105,116,121]),(ByteArray.mk #[72,97,115,76,97,98,101,108]),(ByteArray.mk #[72,97,115]),(ByteArray.mk #[72,97,115,75,101,121]),(ByteArray.mk #[72,97,115,78,111,116]),(ByteArray.mk #[72,97,115,73,68]),(ByteArray.mk #[73,115]),(ByteArray.mk #[68,101,100,117,112]),(ByteArray.mk #[82,97,110,103,101]),(ByteArray.mk #[84,97,105,108]),(ByteArray.mk #[83,105,109,112,108,101]),(ByteArray.mk #[67,121,99,108,105,99]),(ByteArray.mk #[87,104,101,114,101]),(ByteArray.mk #[78,111,116,84,104,97,116]),(ByteArray.mk #[65,108,108,79,102]),(ByteArray.mk #[65,110,121,79,102]),(ByteArray.mk #[67,111,117,110,116]),(ByteArray.mk #[83,117,109]),(ByteArray.mk #[77,105,110]),(ByteArray.mk #[77,97,120]),(ByteArray.mk #[70,111,108,100]),(ByteArray.mk #[85,110,102,111,108,100]),(ByteArray.mk #[84,114,97,105,108]),(ByteArray.mk #[83,101,108,101,99,116]),(ByteArray.mk #[79,114,100,101,114]),(ByteArray.mk #[71,114,111,117,112]),(ByteArray.mk #[71,114,111,117,112,67,111,117,110,116]),(ByteArray.mk #[80,114,111,106,101,99,116]),(ByteArray.mk #[85,110,105,111,110]),(ByteArray.mk #[67,111,97,108,101,115,99,101]),(ByteArray.mk #[67,104,111,111,115,101]),(ByteArray.mk #[79,112,116,105,111,110,97,108]),(ByteArray.mk #[82,101,112,101,97,116]),(ByteArray.mk #[65,103,103,114,101,103,97,116,101]),(ByteArray.mk #[67,97,112]),(ByteArray.mk #[66,97,114,114,105,101,114])]:List ByteArray)
def zel (t:Tab) (n:Nat) (a1 a2:Int) (a3:ByteArray) (a4:List GStep) (a5:Bool):Option Bool:=
 if (a2==1)=true then
 if (a3.toList==(ByteArray.mk #[]).toList)=true then
 some ((a4.length:Int)==0)
 else
 some false
 else
 if (a2==2)=true then
 (match t.zb6 a3 with
 | some a6=>
 if a6=true then
 some ((a4.length:Int)==0)
 else
 some false
 | none=>none)
 else
 if (a2==3)=true then
 if (a3.toList==(ByteArray.mk #[]).toList)=true then
 t.zaT a4 (IntKind.wrap .i64 (a1+1))
 else
 some false
 else
 some false
def zeb (t:Tab) (n:Nat):GBy→Bool→Int→Option Bool
 | ⟨a1,a2,a3,a4⟩,a5,a6=>
 if a4=true then
 if a5=true then
 zel t n a6 a1 a2 a3 a4
 else
 some false
 else
 zel t n a6 a1 a2 a3 a4
def zdN (t:Tab) (n:Nat):(List GStep)→Option Int
 | a1=>
 t.zcK a1 401 1
def za9 (t:Tab) (n:Nat):(List GStep)→Int→Option Bool
 | a1,a2=>
 if (decide (a2≤11))=true then
 (match t.zP a1 a2 with
 | some a3=>
 some (!a3)
 | none=>none)
 else
 some false
def zcE (t:Tab) (n:Nat):Nat→Int→(List GStep)→(List GStep)→Int→Int→(List GBy)→Int→Int→Int→(List ByteArray)→(List Int)→Int→Int→ByteArray→(List zh)→(List zh)→Int→(List zh)→(List GPred)→(List (List GStep))→(List GBy)→(List ByteArray)→Option (Int × (List GStep) × (List GStep) × Int × Int × (List GBy) × Int × Int × Bool × Int × (List ByteArray) × (List Int) × Int × Int × ByteArray × (List zh) × (List zh) × Int × (List zh) × (List GPred) × (List (List GStep)) × (List GBy) × (List ByteArray))
 | 0,_,_,_,_,_,_,_,_,_,_,_,_,_,_,_,_,_,_,_,_,_,_=>none
 | k+1,a1,a2,a3,a4,a5,a6,a7,a8,a9,a10,a11,a12,a13,a14,a15,a16,a17,a18,a19,a20,a21,a22=>
 if (decide (a8 < a7))=true then
 if (decide (0≤(a8:Int)))=true then
 (match a6[(a8:Int).toNat]? with
 | some ⟨a23,a24,a25,a26⟩=>
 (match t.za6 a25 (IntKind.wrap .i64 (a1+1))with
 | some a27=>
 if (a21.length+([(GBy.mk a23 a24 a27 a26)]:List GBy).length) * 56≤140737488355328 then
 zcE t n k a1 a2 a3 a4 a5 a6 a7 (IntKind.wrap .i64 (a8+1)) a9 a10 a11 a12 a13 a14 a15 a16 a17 a18 a19 a20 (a21++([(GBy.mk a23 a24 a27 a26)]:List GBy)) a22
 else none
 | none=>none)
 | none=>none)
 else none
 else
 some (a1,a2,a3,a4,a5,a6,a7,a8,(decide (a8 < a7)),a9,a10,a11,a12,a13,a14,a15,a16,a17,a18,a19,a20,a21,a22)
def zda (t:Tab) (n:Nat) (a1:Int) (a2 a3:List GStep) (a4 a5 a6:Int) (a7:List ByteArray) (a8:List Int) (a9 a10:Int) (a11:ByteArray) (a12 a13:List zh) (a14:Int) (a15:List zh) (a16:List GPred) (a17:List (List GStep)) (a18:List GBy) (a19:List ByteArray):Option (Int × (List GStep) × (List GStep) × Int × Int):=
 if (a2.length+([(GStep.mk a6 a7 a8 (zh.mk a9 a10 a11 a12 a13) (GPred.mk a14 a15 a16) a17 a18 a19)]:List GStep).length) * 264≤140737488355328 then
 some (a1,(a2++([(GStep.mk a6 a7 a8 (zh.mk a9 a10 a11 a12 a13) (GPred.mk a14 a15 a16) a17 a18 a19)]:List GStep)),a3,a4,a5)
 else none
def zcF (t:Tab) (n:Nat):Nat→Int→(List GStep)→(List GStep)→Int→Int→Option (Int × (List GStep) × (List GStep) × Int × Int × Bool)
 | 0,_,_,_,_,_=>none
 | k+1,a1,a2,a3,a4,a5=>
 if (decide (a5 < a4))=true then
 if (decide (0≤(a5:Int)))=true then
 (match a3[(a5:Int).toNat]? with
 | some ⟨a6,a7,a8,⟨a9,a10,a11,a12,a13⟩,⟨a14,a15,a16⟩,a17,a18,a19⟩=>
 (match t.slices_Clone_string a7 with
 | some a20=>
 (match t.slices_Clone_int a8 with
 | some a21=>
 (match t.zdq (zh.mk a9 a10 a11 a12 a13)with
 | some ⟨a22,a23,a24,a25,a26⟩=>
 (match t.zeq (GPred.mk a14 a15 a16)with
 | some ⟨a27,a28,a29⟩=>
 (match t.slices_Clone_string a19 with
 | some a30=>
 (match t.zdU a17 (IntKind.wrap .i64 (a1+1))with
 | some a31=>
 (match zcE t n n a1 a2 a3 a4 a5 a18 (a18.length:Int) 0 a6 a20 a21 a22 a23 a24 a25 a26 a27 a28 a29 a31 ([]:List GBy) a30 with
 | some (a32,a33,a34,a35,a36,a37,a38,a39,a40,a41,a42,a43,a44,a45,a46,a47,a48,a49,a50,a51,a52,a53,a54)=>
 (match zda t n a32 a33 a34 a35 a36 a41 a42 a43 a44 a45 a46 a47 a48 a49 a50 a51 a52 a53 a54 with
 | some (a55,a56,a57,a58,a59)=>
 zcF t n k a55 a56 a57 a58 (IntKind.wrap .i64 (a59+1))
 | none=>none)
 | none=>none)
 | none=>none)
 | none=>none)
 | none=>none)
 | none=>none)
 | none=>none)
 | none=>none)
 | none=>none)
 else none
 else
 some (a1,a2,a3,a4,a5,(decide (a5 < a4)))
def za6 (t:Tab) (n:Nat):(List GStep)→Int→Option (List GStep)
 | a1,a2=>
 if (decide (a2 > 12))=true then
 some ([]:List GStep)
 else
 (match zcF t n n a2 ([]:List GStep) a1 (a1.length:Int) 0 with
 | some (a3,a4,a5,a6,a7,a8)=>
 some a4
 | none=>none)
def zdI (t:Tab) (n:Nat) (a1:List zh) (a2 a3 a4:Int):Option ((List zh) × Int × Int × Int):=
 if (decide (0≤(a4:Int)))=true then
 (match a1[(a4:Int).toNat]? with
 | some ⟨a5,a6,a7,a8,a9⟩=>
 (match t.zbZ (zh.mk a5 a6 a7 a8 a9) (IntKind.wrap .i64 (a2-a3))with
 | some a10=>
 some (a1,a2,(IntKind.wrap .i64 (a3+a10)),(IntKind.wrap .i64 (a4+1)))
 | none=>none)
 | none=>none)
 else none
def zcU (t:Tab) (n:Nat):Nat→(List zh)→Int→Int→Int→Option ((List zh) × Int × Int × Int × Bool)
 | 0,_,_,_,_=>none
 | k+1,a1,a2,a3,a4=>
 if (decide (a4 < (a1.length:Int)))=true then
 if (decide (a3 < a2))=true then
 (match zdI t n a1 a2 a3 a4 with
 | some (a5,a6,a7,a8)=>
 zcU t n k a5 a6 a7 a8
 | none=>none)
 else
 some (a1,a2,a3,a4,(decide (a3 < a2)))
 else
 some (a1,a2,a3,a4,false)
def zd6 (t:Tab) (n:Nat):(List zh)→Int→Option Int
 | a1,a2=>
 (match zcU t n n a1 a2 0 0 with
 | some (a3,a4,a5,a6,a7)=>
 some a5
 | none=>none)
def zba (t:Tab) (n:Nat) (a1 a2:Int) (a3:Bool) (a4 a5:Int) (a6:ByteArray) (a7 a8:List zh) (a9 a10:Int) (a11:ByteArray) (a12 a13:List zh):Option (Int × Int × Int × Int × ByteArray × (List zh) × (List zh) × Int × Int × ByteArray × (List zh) × (List zh)):=
 if a3=true then
 (match t.zdV a7 a12 (IntKind.wrap .i64 (a1+1))with
 | some a14=>
 some (a1,a14,a4,a5,a6,a7,a8,a9,a10,a11,a12,a13)
 | none=>none)
 else
 some (a1,a2,a4,a5,a6,a7,a8,a9,a10,a11,a12,a13)
def zcG (t:Tab) (n:Nat) (a1 a2:Int) (a3:Bool) (a4 a5:Int) (a6:ByteArray) (a7 a8:List zh) (a9 a10:Int) (a11:ByteArray) (a12 a13:List zh):Option Int:=
 if a3=true then
 t.zdV a8 a13 (IntKind.wrap .i64 (a1+1))
 else
 some a2
def zcH (t:Tab) (n:Nat) (a1 a2 a3 a4:Int) (a5:ByteArray) (a6 a7:List zh) (a8 a9:Int) (a10:ByteArray) (a11 a12:List zh):Option Int:=
 if (a2==0)=true then
 zcG t n a1 a2 (decide (a1≤12)) a3 a4 a5 a6 a7 a8 a9 a10 a11 a12
 else
 zcG t n a1 a2 false a3 a4 a5 a6 a7 a8 a9 a10 a11 a12
def zcI (t:Tab) (n:Nat) (a1 a2 a3 a4:Int) (a5:ByteArray) (a6 a7:List zh) (a8 a9:Int) (a10:ByteArray) (a11 a12:List zh):Option Int:=
 if (a2==0)=true then
 (match zba t n a1 a2 (decide (a1≤12)) a3 a4 a5 a6 a7 a8 a9 a10 a11 a12 with
 | some (a13,a14,a15,a16,a17,a18,a19,a20,a21,a22,a23,a24)=>
 zcH t n a13 a14 a15 a16 a17 a18 a19 a20 a21 a22 a23 a24
 | none=>none)
 else
 (match zba t n a1 a2 false a3 a4 a5 a6 a7 a8 a9 a10 a11 a12 with
 | some (a26,a27,a28,a29,a30,a31,a32,a33,a34,a35,a36,a37)=>
 zcH t n a26 a27 a28 a29 a30 a31 a32 a33 a34 a35 a36 a37
 | none=>none)
def zcJ (t:Tab) (n:Nat) (a1 a2 a3 a4:Int) (a5:ByteArray) (a6 a7:List zh) (a8 a9:Int) (a10:ByteArray) (a11 a12:List zh):Option Int:=
 if (a2==0)=true then
 (match t.zdY a5 a10 with
 | some a13=>
 zcI t n a1 a13 a3 a4 a5 a6 a7 a8 a9 a10 a11 a12
 | none=>none)
 else
 zcI t n a1 a2 a3 a4 a5 a6 a7 a8 a9 a10 a11 a12
def zaG (t:Tab) (n:Nat):zh→zh→Int→Option Int
 | ⟨a1,a2,a3,a4,a5⟩,⟨a6,a7,a8,a9,a10⟩,a11=>
 (match t.zbo a1 a6 with
 | some a12=>
 if (a12==0)=true then
 (match t.zbo a2 a7 with
 | some a13=>
 zcJ t n a11 a13 a1 a2 a3 a4 a5 a6 a7 a8 a9 a10
 | none=>none)
 else
 zcJ t n a11 a12 a1 a2 a3 a4 a5 a6 a7 a8 a9 a10
 | none=>none)
def zbF (t:Tab) (n:Nat):Nat→(List zh)→(List zh)→Int→Option (Bool⊕((List zh) × (List zh) × Int × Bool))
 | 0,_,_,_=>none
 | k+1,a1,a2,a3=>
 if (decide (a3 < (a1.length:Int)))=true then
 if (decide (0≤(a3:Int)))=true then
 (match a1[(a3:Int).toNat]? with
 | some ⟨a4,a5,a6,a7,a8⟩=>
 (match a2[(a3:Int).toNat]? with
 | some ⟨a9,a10,a11,a12,a13⟩=>
 (match t.zcD (zh.mk a4 a5 a6 a7 a8) (zh.mk a9 a10 a11 a12 a13)with
 | some a14=>
 if a14=true then
 zbF t n k a1 a2 (IntKind.wrap .i64 (a3+1))
 else
 some (.inl false)
 | none=>none)
 | none=>none)
 | none=>none)
 else none
 else
 some (.inr (a1,a2,a3,(decide (a3 < (a1.length:Int)))))
def zbO (t:Tab) (n:Nat):(List zh)→(List zh)→Option Bool
 | a1,a2=>
 if ((a1.length:Int) !=(a2.length:Int))=true then
 some false
 else
 (match zbF t n n a1 a2 0 with
 | some (.inl a3)=>
 some a3
 | some (.inr (a4,a5,a6,a7))=>
 some true
 | none=>none)
def zd7 (t:Tab) (n:Nat):(List GCode)→(List GCode)→Option Bool
 | a1,a2=>
 t.zaH a1 a2
def zc1 (t:Tab) (n:Nat):Nat→(List Int)→Int→Option (Bool⊕((List Int) × Int × Bool))
 | 0,_,_=>none
 | k+1,a1,a2=>
 if (decide (a2 < (a1.length:Int)))=true then
 if (decide (0≤(a2:Int)))=true then
 (match a1[(a2:Int).toNat]? with
 | some a3=>
 if (decide (a3 < 0))=true then
 some (.inl false)
 else
 zc1 t n k a1 (IntKind.wrap .i64 (a2+1))
 | none=>none)
 else none
 else
 some (.inr (a1,a2,(decide (a2 < (a1.length:Int)))))
def zdc (t:Tab) (n:Nat):(List Int)→Option Bool
 | a1=>
 (match zc1 t n n a1 0 with
 | some (.inl a2)=>
 some a2
 | some (.inr (a3,a4,a5))=>
 some true
 | none=>none)
def zcm (t:Tab) (n:Nat):Nat→(List ByteArray)→Int→Int→Option (Bool⊕((List ByteArray) × Int × Int × Bool))
 | 0,_,_,_=>none
 | k+1,a1,a2,a3=>
 if (decide (a3 < a2))=true then
 if (decide (0≤(a2:Int)))=true then
 (match a1[(a2:Int).toNat]? with
 | some a4=>
 if (decide (0≤(a3:Int)))=true then
 (match a1[(a3:Int).toNat]? with
 | some a5=>
 if (a4.toList==a5.toList)=true then
 some (.inl false)
 else
 zcm t n k a1 a2 (IntKind.wrap .i64 (a3+1))
 | none=>none)
 else none
 | none=>none)
 else none
 else
 some (.inr (a1,a2,a3,(decide (a3 < a2))))
def zcn (t:Tab) (n:Nat):Nat→(List ByteArray)→Int→Option (Bool⊕((List ByteArray) × Int × Bool))
 | 0,_,_=>none
 | k+1,a1,a2=>
 if (decide (a2 < (a1.length:Int)))=true then
 (match zcm t n n a1 a2 0 with
 | some (.inl a3)=>
 some (.inl a3)
 | some (.inr (a4,a5,a6,a7))=>
 zcn t n k a4 (IntKind.wrap .i64 (a5+1))
 | none=>none)
 else
 some (.inr (a1,a2,(decide (a2 < (a1.length:Int)))))
def zdp (t:Tab) (n:Nat):(List ByteArray)→Option Bool
 | a1=>
 (match zcn t n n a1 0 with
 | some (.inl a2)=>
 some a2
 | some (.inr (a3,a4,a5))=>
 some true
 | none=>none)
def zac (t:Tab) (n:Nat) (a1:ByteArray) (a2 a3:Int) (a4:Bool):Option ((ByteArray × Int)⊕Bool):=
 if a4=true then
 some (.inl (a1,a2))
 else
 if (a2==0)=true then
 some (.inr false)
 else
 if (decide (a3 < 48))=true then
 some (.inr false)
 else
 if (decide (a3 > 57))=true then
 some (.inr false)
 else
 some (.inl (a1,a2))
def zau (t:Tab) (n:Nat):Nat→ByteArray→Int→Option (Bool⊕(ByteArray × Int × Bool))
 | 0,_,_=>none
 | k+1,a1,a2=>
 if (decide (a2 < (a1.size:Int)))=true then
 (match strAt a1 a2 with
 | some a3=>
 if (decide (a3≥97))=true then
 if (decide (a3≤122))=true then
 (match zac t n a1 a2 a3 true with
 | some (.inl (a4,a5))=>
 zau t n k a4 (IntKind.wrap .i64 (a5+1))
 | some (.inr a6)=>
 some (.inl a6)
 | none=>none)
 else
 if (decide (a3≥65))=true then
 if (decide (a3≤90))=true then
 (match zac t n a1 a2 a3 true with
 | some (.inl (a7,a8))=>
 zau t n k a7 (IntKind.wrap .i64 (a8+1))
 | some (.inr a9)=>
 some (.inl a9)
 | none=>none)
 else
 (match zac t n a1 a2 a3 (a3==95)with
 | some (.inl (a10,a11))=>
 zau t n k a10 (IntKind.wrap .i64 (a11+1))
 | some (.inr a12)=>
 some (.inl a12)
 | none=>none)
 else
 (match zac t n a1 a2 a3 (a3==95)with
 | some (.inl (a13,a14))=>
 zau t n k a13 (IntKind.wrap .i64 (a14+1))
 | some (.inr a15)=>
 some (.inl a15)
 | none=>none)
 else
 if (decide (a3≥65))=true then
 if (decide (a3≤90))=true then
 (match zac t n a1 a2 a3 true with
 | some (.inl (a16,a17))=>
 zau t n k a16 (IntKind.wrap .i64 (a17+1))
 | some (.inr a18)=>
 some (.inl a18)
 | none=>none)
 else
 (match zac t n a1 a2 a3 (a3==95)with
 | some (.inl (a19,a20))=>
 zau t n k a19 (IntKind.wrap .i64 (a20+1))
 | some (.inr a21)=>
 some (.inl a21)
 | none=>none)
 else
 (match zac t n a1 a2 a3 (a3==95)with
 | some (.inl (a22,a23))=>
 zau t n k a22 (IntKind.wrap .i64 (a23+1))
 | some (.inr a24)=>
 some (.inl a24)
 | none=>none)
 | none=>none)
 else
 some (.inr (a1,a2,(decide (a2 < (a1.size:Int)))))
def zex (t:Tab) (n:Nat) (a1:ByteArray):Option Bool:=
 if (decide ((a1.size:Int)≥1))=true then
 some (decide ((a1.size:Int)≤40))
 else
 some false
def zb6 (t:Tab) (n:Nat):ByteArray→Option Bool
 | a1=>
 (match zau t n n a1 0 with
 | some (.inl a2)=>
 some a2
 | some (.inr (a3,a4,a5))=>
 zex t n a3
 | none=>none)
def zaV (t:Tab) (n:Nat):Nat→Int→Int→Int→Int→ByteArray→(List zh)→(List zh)→Option (Bool⊕(Int × Int × Bool × Int × Int × ByteArray × (List zh) × (List zh)))
 | 0,_,_,_,_,_,_,_=>none
 | k+1,a1,a2,a3,a4,a5,a6,a7=>
 if (decide (a2 < (a6.length:Int)))=true then
 if (decide (0≤(a2:Int)))=true then
 (match a6[(a2:Int).toNat]? with
 | some ⟨a8,a9,a10,a11,a12⟩=>
 (match t.za7 (zh.mk a8 a9 a10 a11 a12) (IntKind.wrap .i64 (a1+1))with
 | some a13=>
 if a13=true then
 if (a3==7)=true then
 if (decide (a2 > 0))=true then
 if (decide (0≤((IntKind.wrap .i64 (a2-1)):Int)))=true then
 (match a6[((IntKind.wrap .i64 (a2-1)):Int).toNat]? with
 | some ⟨a14,a15,a16,a17,a18⟩=>
 (match t.zeB (zh.mk a14 a15 a16 a17 a18) (zh.mk a8 a9 a10 a11 a12)with
 | some a19=>
 if (a19 !=(-1))=true then
 some (.inl false)
 else
 zaV t n k a1 (IntKind.wrap .i64 (a2+1)) a3 a4 a5 a6 a7
 | none=>none)
 | none=>none)
 else none
 else
 zaV t n k a1 (IntKind.wrap .i64 (a2+1)) a3 a4 a5 a6 a7
 else
 zaV t n k a1 (IntKind.wrap .i64 (a2+1)) a3 a4 a5 a6 a7
 else
 some (.inl false)
 | none=>none)
 | none=>none)
 else none
 else
 some (.inr (a1,a2,(decide (a2 < (a6.length:Int))),a3,a4,a5,a6,a7))
def zbP (t:Tab) (n:Nat):Nat→Int→Int→Int→Int→ByteArray→(List zh)→(List zh)→Option (Bool⊕(Int × Int × Bool × Int × Int × ByteArray × (List zh) × (List zh)))
 | 0,_,_,_,_,_,_,_=>none
 | k+1,a1,a2,a3,a4,a5,a6,a7=>
 if (decide (a2 < (a7.length:Int)))=true then
 if (decide (0≤(a2:Int)))=true then
 (match a7[(a2:Int).toNat]? with
 | some ⟨a8,a9,a10,a11,a12⟩=>
 (match t.za7 (zh.mk a8 a9 a10 a11 a12) (IntKind.wrap .i64 (a1+1))with
 | some a13=>
 if a13=true then
 zbP t n k a1 (IntKind.wrap .i64 (a2+1)) a3 a4 a5 a6 a7
 else
 some (.inl false)
 | none=>none)
 | none=>none)
 else none
 else
 some (.inr (a1,a2,(decide (a2 < (a7.length:Int))),a3,a4,a5,a6,a7))
def zem (t:Tab) (n:Nat) (a1 a2 a3:Int) (a4:ByteArray) (a5 a6:List zh):Option Bool:=
 (match zbP t n n a1 0 a2 a3 a4 a5 a6 with
 | some (.inl a7)=>
 some a7
 | some (.inr (a8,a9,a10,a11,a12,a13,a14,a15))=>
 some true
 | none=>none)
def zen (t:Tab) (n:Nat) (a1 a2 a3:Int) (a4:ByteArray) (a5 a6:List zh):Option Bool:=
 (match zaV t n n a1 0 a2 a3 a4 a5 a6 with
 | some (.inl a7)=>
 some a7
 | some (.inr (a8,a9,a10,a11,a12,a13,a14,a15))=>
 zem t n a8 a11 a12 a13 a14 a15
 | none=>none)
def za7 (t:Tab) (n:Nat):zh→Int→Option Bool
 | ⟨a1,a2,a3,a4,a5⟩,a6=>
 if (decide (a6 > 12))=true then
 some false
 else
 (match t.zdw (zh.mk a1 a2 a3 a4 a5)with
 | some a7=>
 if a7=true then
 zen t n a6 a1 a2 a3 a4 a5
 else
 some false
 | none=>none)
def zbQ (t:Tab) (n:Nat) (a1 a2 a3:Int) (a4 a5:Bool) (a6:Int) (a7:List zh) (a8:List GPred):Option (Int × Int × Int × Bool × Int × (List zh) × (List GPred)):=
 if a5=true then
 if (a2==0)=true then
 if (decide (a3≥2))=true then
 some (a1,a2,a3,(decide (a3≤1000)),a6,a7,a8)
 else
 some (a1,a2,a3,false,a6,a7,a8)
 else
 some (a1,a2,a3,false,a6,a7,a8)
 else
 some (a1,a2,a3,a4,a6,a7,a8)
def zaW (t:Tab) (n:Nat) (a1 a2 a3:Int) (a4:Bool) (a5:Int) (a6:Bool) (a7:Int) (a8:List zh) (a9:List GPred):Option (Int × Int × Int × Bool × Int × (List zh) × (List GPred)):=
 if a6=true then
 if (decide (a2≤1000))=true then
 some (a1,a2,a3,(a3==0),a7,a8,a9)
 else
 some (a1,a2,a3,false,a7,a8,a9)
 else
 if (a5==12)=true then
 if (a2==0)=true then
 some (a1,a2,a3,(a3==1),a7,a8,a9)
 else
 some (a1,a2,a3,false,a7,a8,a9)
 else
 if (a5==13)=true then
 zbQ t n a1 a2 a3 a4 (a5==13) a7 a8 a9
 else
 zbQ t n a1 a2 a3 a4 (a5==14) a7 a8 a9
def zaD (t:Tab) (n:Nat) (a1 a2 a3:Int) (a4:Bool) (a5:Int) (a6:Bool) (a7:Int) (a8:List zh) (a9:List GPred):Option (Int × Int × Int × Bool × Int × (List zh) × (List GPred)):=
 if a6=true then
 if (a2==2)=true then
 some (a1,a2,a3,(a3==0),a7,a8,a9)
 else
 some (a1,a2,a3,false,a7,a8,a9)
 else
 if (a5==10)=true then
 zaW t n a1 a2 a3 a4 a5 (a5==10) a7 a8 a9
 else
 zaW t n a1 a2 a3 a4 a5 (a5==11) a7 a8 a9
def zZ (t:Tab) (n:Nat) (a1 a2 a3:Int) (a4:Bool) (a5:Int) (a6:Bool) (a7:Int) (a8:List zh) (a9:List GPred):Option (Int × Int × Int × Bool × Int × (List zh) × (List GPred)):=
 if a6=true then
 if (a2==1)=true then
 some (a1,a2,a3,(a3==0),a7,a8,a9)
 else
 some (a1,a2,a3,false,a7,a8,a9)
 else
 if (a5==7)=true then
 zaD t n a1 a2 a3 a4 a5 (a5==7) a7 a8 a9
 else
 if (a5==8)=true then
 zaD t n a1 a2 a3 a4 a5 (a5==8) a7 a8 a9
 else
 zaD t n a1 a2 a3 a4 a5 (a5==9) a7 a8 a9
def zbR (t:Tab) (n:Nat):Nat→Int→Int→Int→Int→Int→(List zh)→(List GPred)→Option (Bool⊕(Int × Int × Int × Int × Bool × Int × (List zh) × (List GPred)))
 | 0,_,_,_,_,_,_,_=>none
 | k+1,a1,a2,a3,a4,a5,a6,a7=>
 if (decide (a4 < a2))=true then
 if (decide (0≤(a4:Int)))=true then
 (match a6[(a4:Int).toNat]? with
 | some ⟨a8,a9,a10,a11,a12⟩=>
 (match t.zce (zh.mk a8 a9 a10 a11 a12)with
 | some a13=>
 if (a13 !=0)=true then
 some (.inl false)
 else
 zbR t n k a1 a2 a3 (IntKind.wrap .i64 (a4+1)) a5 a6 a7
 | none=>none)
 | none=>none)
 else none
 else
 some (.inr (a1,a2,a3,a4,(decide (a4 < a2)),a5,a6,a7))
def zbS (t:Tab) (n:Nat):Nat→Int→Int→Int→Int→(List zh)→(List GPred)→Option (Bool⊕(Int × Int × Int × Bool × Int × (List zh) × (List GPred)))
 | 0,_,_,_,_,_,_=>none
 | k+1,a1,a2,a3,a4,a5,a6=>
 if (decide (a3 < a2))=true then
 if (decide (0≤(a3:Int)))=true then
 (match a6[(a3:Int).toNat]? with
 | some ⟨a7,a8,a9⟩=>
 (match t.zbp (GPred.mk a7 a8 a9) (IntKind.wrap .i64 (a1+1))with
 | some a10=>
 if a10=true then
 zbS t n k a1 a2 (IntKind.wrap .i64 (a3+1)) a4 a5 a6
 else
 some (.inl false)
 | none=>none)
 | none=>none)
 else none
 else
 some (.inr (a1,a2,a3,(decide (a3 < a2)),a4,a5,a6))
def zeo (t:Tab) (n:Nat) (a1 a2 a3:Int) (a4:List zh) (a5:List GPred):Option Bool:=
 (match zbS t n n a1 a2 0 a3 a4 a5 with
 | some (.inl a6)=>
 some a6
 | some (.inr (a7,a8,a9,a10,a11,a12,a13))=>
 some true
 | none=>none)
def zdC (t:Tab) (n:Nat) (a1 a2 a3 a4:Int) (a5:List zh) (a6:List GPred):Option Bool:=
 (match zbR t n n a1 a2 a3 0 a4 a5 a6 with
 | some (.inl a7)=>
 some a7
 | some (.inr (a8,a9,a10,a11,a12,a13,a14,a15))=>
 zeo t n a8 a10 a13 a14 a15
 | none=>none)
def zaF (t:Tab) (n:Nat) (a1 a2 a3:Int) (a4:Bool) (a5:Int) (a6:List zh) (a7:List GPred):Option Bool:=
 if a4=true then
 if (decide (a1 > 12))=true then
 some false
 else
 zdC t n a1 a2 a3 a5 a6 a7
 else
 some false
def zbp (t:Tab) (n:Nat):GPred→Int→Option Bool
 | ⟨a1,a2,a3⟩,a4=>
 if (a1==1)=true then
 (match zZ t n a4 (a2.length:Int) (a3.length:Int) false a1 (a1==1) a1 a2 a3 with
 | some (a5,a6,a7,a8,a9,a10,a11)=>
 zaF t n a5 a6 a7 a8 a9 a10 a11
 | none=>none)
 else
 if (a1==2)=true then
 (match zZ t n a4 (a2.length:Int) (a3.length:Int) false a1 (a1==2) a1 a2 a3 with
 | some (a13,a14,a15,a16,a17,a18,a19)=>
 zaF t n a13 a14 a15 a16 a17 a18 a19
 | none=>none)
 else
 if (a1==3)=true then
 (match zZ t n a4 (a2.length:Int) (a3.length:Int) false a1 (a1==3) a1 a2 a3 with
 | some (a21,a22,a23,a24,a25,a26,a27)=>
 zaF t n a21 a22 a23 a24 a25 a26 a27
 | none=>none)
 else
 if (a1==4)=true then
 (match zZ t n a4 (a2.length:Int) (a3.length:Int) false a1 (a1==4) a1 a2 a3 with
 | some (a29,a30,a31,a32,a33,a34,a35)=>
 zaF t n a29 a30 a31 a32 a33 a34 a35
 | none=>none)
 else
 if (a1==5)=true then
 (match zZ t n a4 (a2.length:Int) (a3.length:Int) false a1 (a1==5) a1 a2 a3 with
 | some (a37,a38,a39,a40,a41,a42,a43)=>
 zaF t n a37 a38 a39 a40 a41 a42 a43
 | none=>none)
 else
 (match zZ t n a4 (a2.length:Int) (a3.length:Int) false a1 (a1==6) a1 a2 a3 with
 | some (a45,a46,a47,a48,a49,a50,a51)=>
 zaF t n a45 a46 a47 a48 a49 a50 a51
 | none=>none)
def zb2 (t:Tab) (n:Nat) (a1 a2 a3:Int) (a4 a5:List GStep) (a6 a7:Int) (a8:List (List GStep)) (a9 a10:Int) (a11:Bool):Option (Int × Int × Int × (List GStep) × Int × Int × (List (List GStep)) × Int × Int):=
 if a11=true then
 (match t.zcK a4 (IntKind.wrap .i64 (a1-a3)) (IntKind.wrap .i64 (a2+1))with
 | some a12=>
 some (a1,a2,(IntKind.wrap .i64 (a3+a12)),a5,a6,a7,a8,a9,a10)
 | none=>none)
 else
 some (a1,a2,a3,a5,a6,a7,a8,a9,a10)
def za3 (t:Tab) (n:Nat):Nat→Int→Int→Int→(List GStep)→Int→Int→(List (List GStep))→Int→Int→Option (Int × Int × Int × (List GStep) × Int × Int × (List (List GStep)) × Int × Int × Bool)
 | 0,_,_,_,_,_,_,_,_,_=>none
 | k+1,a1,a2,a3,a4,a5,a6,a7,a8,a9=>
 if (decide (a9 < a8))=true then
 if (decide (0≤(a9:Int)))=true then
 (match a7[(a9:Int).toNat]? with
 | some a10=>
 if (decide (a2≤11))=true then
 (match zb2 t n a1 a2 a3 a10 a4 a5 a6 a7 a8 a9 (decide (a3 < a1))with
 | some (a11,a12,a13,a14,a15,a16,a17,a18,a19)=>
 za3 t n k a11 a12 a13 a14 a15 a16 a17 a18 (IntKind.wrap .i64 (a19+1))
 | none=>none)
 else
 (match zb2 t n a1 a2 a3 a10 a4 a5 a6 a7 a8 a9 false with
 | some (a20,a21,a22,a23,a24,a25,a26,a27,a28)=>
 za3 t n k a20 a21 a22 a23 a24 a25 a26 a27 (IntKind.wrap .i64 (a28+1))
 | none=>none)
 | none=>none)
 else none
 else
 some (a1,a2,a3,a4,a5,a6,a7,a8,a9,(decide (a9 < a8)))
def zbm (t:Tab) (n:Nat):Nat→Int→Int→Int→(List GStep)→Int→Int→Option (Int⊕(Int × Int × Int × (List GStep) × Int × Int × Bool))
 | 0,_,_,_,_,_,_=>none
 | k+1,a1,a2,a3,a4,a5,a6=>
 if (decide (a6 < a5))=true then
 if (decide (0≤(a6:Int)))=true then
 (match a4[(a6:Int).toNat]? with
 | some ⟨a7,a8,a9,⟨a10,a11,a12,a13,a14⟩,⟨a15,a16,a17⟩,a18,a19,a20⟩=>
 if (decide ((IntKind.wrap .i64 (a3+1))≥a1))=true then
 some (.inl a1)
 else
 (match t.zdW (GStep.mk a7 a8 a9 (zh.mk a10 a11 a12 a13 a14) (GPred.mk a15 a16 a17) a18 a19 a20)with
 | some a21=>
 (match za3 t n n a1 a2 (IntKind.wrap .i64 (a3+1)) a4 a5 a6 a21 (a21.length:Int) 0 with
 | some (a22,a23,a24,a25,a26,a27,a28,a29,a30,a31)=>
 zbm t n k a22 a23 a24 a25 a26 (IntKind.wrap .i64 (a27+1))
 | none=>none)
 | none=>none)
 | none=>none)
 else none
 else
 some (.inr (a1,a2,a3,a4,a5,a6,(decide (a6 < a5))))
def zcK (t:Tab) (n:Nat):(List GStep)→Int→Int→Option Int
 | a1,a2,a3=>
 (match zbm t n n a2 a3 0 a1 (a1.length:Int) 0 with
 | some (.inl a4)=>
 some a4
 | some (.inr (a5,a6,a7,a8,a9,a10,a11))=>
 some a7
 | none=>none)
def zP (t:Tab) (n:Nat):(List GStep)→Int→Option Bool
 | a1,a2=>
 (match t.zaj a1 a2 with
 | some a3=>
 some (decide (a3≥0))
 | none=>none)
def zdq (t:Tab) (n:Nat):zh→Option zh
 | ⟨a1,a2,a3,a4,a5⟩=>
 t.zdr (zh.mk a1 a2 a3 a4 a5) 1
def zeq (t:Tab) (n:Nat):GPred→Option GPred
 | ⟨a1,a2,a3⟩=>
 t.zdL (GPred.mk a1 a2 a3) 1
def zdd (t:Tab) (n:Nat):Nat→Int→(List (List GStep))→(List (List GStep))→Int→Int→Option (Int × (List (List GStep)) × (List (List GStep)) × Int × Int × Bool)
 | 0,_,_,_,_,_=>none
 | k+1,a1,a2,a3,a4,a5=>
 if (decide (a5 < a4))=true then
 if (decide (0≤(a5:Int)))=true then
 (match a3[(a5:Int).toNat]? with
 | some a6=>
 (match t.za6 a6 a1 with
 | some a7=>
 if (a2.length+([a7]:List (List GStep)).length) * 24≤140737488355328 then
 zdd t n k a1 (a2++([a7]:List (List GStep))) a3 a4 (IntKind.wrap .i64 (a5+1))
 else none
 | none=>none)
 | none=>none)
 else none
 else
 some (a1,a2,a3,a4,a5,(decide (a5 < a4)))
def zdU (t:Tab) (n:Nat):(List (List GStep))→Int→Option (List (List GStep))
 | a1,a2=>
 (match zdd t n n a2 ([]:List (List GStep)) a1 (a1.length:Int) 0 with
 | some (a3,a4,a5,a6,a7,a8)=>
 some a4
 | none=>none)
def zbo (t:Tab) (n:Nat):Int→Int→Option Int
 | a1,a2=>
 if (decide (a1 < a2))=true then
 some (-1)
 else
 if (decide (a1 > a2))=true then
 some 1
 else
 some 0
def zcL (t:Tab) (n:Nat) (a1 a2:ByteArray) (a3:Int):Option (Int⊕(ByteArray × ByteArray × Int)):=
 (match strAt a1 a3 with
 | some a4=>
 (match strAt a2 a3 with
 | some a5=>
 if (a4 !=a5)=true then
 (match t.zbo (IntKind.wrap .i64 a4) (IntKind.wrap .i64 a5)with
 | some a6=>
 some (.inl a6)
 | none=>none)
 else
 some (.inr (a1,a2,(IntKind.wrap .i64 (a3+1))))
 | none=>none)
 | none=>none)
def zbT (t:Tab) (n:Nat):Nat→ByteArray→ByteArray→Int→Option (Int⊕(ByteArray × ByteArray × Int × Bool))
 | 0,_,_,_=>none
 | k+1,a1,a2,a3=>
 if (decide (a3 < (a1.size:Int)))=true then
 if (decide (a3 < (a2.size:Int)))=true then
 (match zcL t n a1 a2 a3 with
 | some (.inl a4)=>
 some (.inl a4)
 | some (.inr (a5,a6,a7))=>
 zbT t n k a5 a6 a7
 | none=>none)
 else
 some (.inr (a1,a2,a3,(decide (a3 < (a2.size:Int)))))
 else
 some (.inr (a1,a2,a3,false))
def zep (t:Tab) (n:Nat) (a1 a2:ByteArray):Option Int:=
 t.zbo (a1.size:Int) (a2.size:Int)
def zdY (t:Tab) (n:Nat):ByteArray→ByteArray→Option Int
 | a1,a2=>
 (match zbT t n n a1 a2 0 with
 | some (.inl a3)=>
 some a3
 | some (.inr (a4,a5,a6,a7))=>
 zep t n a4 a5
 | none=>none)
def zde (t:Tab) (n:Nat) (a1 a2:List zh) (a3 a4:Int):Option (Int⊕((List zh) × (List zh) × Int × Int)):=
 if (decide (0≤(a4:Int)))=true then
 (match a1[(a4:Int).toNat]? with
 | some ⟨a5,a6,a7,a8,a9⟩=>
 (match a2[(a4:Int).toNat]? with
 | some ⟨a10,a11,a12,a13,a14⟩=>
 (match t.zaG (zh.mk a5 a6 a7 a8 a9) (zh.mk a10 a11 a12 a13 a14) a3 with
 | some a15=>
 if (a15 !=0)=true then
 some (.inl a15)
 else
 some (.inr (a1,a2,a3,(IntKind.wrap .i64 (a4+1))))
 | none=>none)
 | none=>none)
 | none=>none)
 else none
def zco (t:Tab) (n:Nat):Nat→(List zh)→(List zh)→Int→Int→Option (Int⊕((List zh) × (List zh) × Int × Int × Bool))
 | 0,_,_,_,_=>none
 | k+1,a1,a2,a3,a4=>
 if (decide (a4 < (a1.length:Int)))=true then
 if (decide (a4 < (a2.length:Int)))=true then
 (match zde t n a1 a2 a3 a4 with
 | some (.inl a5)=>
 some (.inl a5)
 | some (.inr (a6,a7,a8,a9))=>
 zco t n k a6 a7 a8 a9
 | none=>none)
 else
 some (.inr (a1,a2,a3,a4,(decide (a4 < (a2.length:Int)))))
 else
 some (.inr (a1,a2,a3,a4,false))
def zey (t:Tab) (n:Nat) (a1 a2:List zh):Option Int:=
 t.zbo (a1.length:Int) (a2.length:Int)
def zdV (t:Tab) (n:Nat):(List zh)→(List zh)→Int→Option Int
 | a1,a2,a3=>
 (match zco t n n a1 a2 a3 0 with
 | some (.inl a4)=>
 some a4
 | some (.inr (a5,a6,a7,a8,a9))=>
 zey t n a5 a6
 | none=>none)
def zas (t:Tab) (n:Nat):Nat→(List GCode)→(List GCode)→Int→Int→Option (Bool⊕((List GCode) × (List GCode) × Int × Int × Bool))
 | 0,_,_,_,_=>none
 | k+1,a1,a2,a3,a4=>
 if (decide (a4 < a3))=true then
 if (decide (0≤(a4:Int)))=true then
 (match a2[(a4:Int).toNat]? with
 | some ⟨a5,a6,a7,⟨a8,a9,a10,a11,a12⟩,⟨a13,a14,a15⟩,a16,a17,a18⟩=>
 (match a1[(a4:Int).toNat]? with
 | some ⟨a19,a20,a21,⟨a22,a23,a24,a25,a26⟩,⟨a27,a28,a29⟩,a30,a31,a32⟩=>
 (match t.zeE (GCode.mk a5 a6 a7 (zh.mk a8 a9 a10 a11 a12) (GPred.mk a13 a14 a15) a16 a17 a18) (GCode.mk a19 a20 a21 (zh.mk a22 a23 a24 a25 a26) (GPred.mk a27 a28 a29) a30 a31 a32)with
 | some a33=>
 if a33=true then
 zas t n k a1 a2 a3 (IntKind.wrap .i64 (a4+1))
 else
 some (.inl false)
 | none=>none)
 | none=>none)
 | none=>none)
 else none
 else
 some (.inr (a1,a2,a3,a4,(decide (a4 < a3))))
def zaH (t:Tab) (n:Nat):(List GCode)→(List GCode)→Option Bool
 | a1,a2=>
 if ((a1.length:Int) !=(a2.length:Int))=true then
 some false
 else
 (match zas t n n a2 a1 (a1.length:Int) 0 with
 | some (.inl a3)=>
 some a3
 | some (.inr (a4,a5,a6,a7,a8))=>
 some true
 | none=>none)
def zcA (t:Tab) (n:Nat) (a1:Int) (a2:Bool) (a3 a4:Int) (a5:ByteArray) (a6 a7:List zh):Option (Bool⊕Unit):=
 if a2=true then
 if (a4==0)=true then
 if (a5.toList==(ByteArray.mk #[]).toList)=true then
 if (decide ((a6.length:Int)≤1000))=true then
 some (.inl ((a7.length:Int)==0))
 else
 some (.inl false)
 else
 some (.inl false)
 else
 some (.inl false)
 else
 if (a1==7)=true then
 if (a4==0)=true then
 if (a5.toList==(ByteArray.mk #[]).toList)=true then
 if (decide ((a6.length:Int)≤1000))=true then
 some (.inl ((a7.length:Int)==(a6.length:Int)))
 else
 some (.inl false)
 else
 some (.inl false)
 else
 some (.inl false)
 else
 some (.inr ())
def zbd (t:Tab) (n:Nat) (a1:Int) (a2:Bool) (a3 a4:Int) (a5:ByteArray) (a6 a7:List zh):Option (Bool⊕Unit):=
 if a2=true then
 if (decide (a4≥0))=true then
 if (a5.toList==(ByteArray.mk #[]).toList)=true then
 if ((a6.length:Int)==0)=true then
 some (.inl ((a7.length:Int)==0))
 else
 some (.inl false)
 else
 some (.inl false)
 else
 some (.inl false)
 else
 if (a1==6)=true then
 zcA t n a1 (a1==6) a3 a4 a5 a6 a7
 else
 zcA t n a1 (a1==8) a3 a4 a5 a6 a7
def zdw (t:Tab) (n:Nat):zh→Option Bool
 | ⟨a1,a2,a3,a4,a5⟩=>
 if (a1==1)=true then
 if (a2==0)=true then
 if (a3.toList==(ByteArray.mk #[]).toList)=true then
 if ((a4.length:Int)==0)=true then
 some ((a5.length:Int)==0)
 else
 some false
 else
 some false
 else
 if (a2==1)=true then
 if (a3.toList==(ByteArray.mk #[]).toList)=true then
 if ((a4.length:Int)==0)=true then
 some ((a5.length:Int)==0)
 else
 some false
 else
 some false
 else
 some false
 else
 if (a1==2)=true then
 if (a3.toList==(ByteArray.mk #[]).toList)=true then
 if ((a4.length:Int)==0)=true then
 some ((a5.length:Int)==0)
 else
 some false
 else
 some false
 else
 if (a1==3)=true then
 if (a2==0)=true then
 if (decide ((a3.size:Int)≤1000))=true then
 if ((a4.length:Int)==0)=true then
 some ((a5.length:Int)==0)
 else
 some false
 else
 some false
 else
 some false
 else
 if (a1==4)=true then
 (match zbd t n a1 (a1==4) a1 a2 a3 a4 a5 with
 | some (.inl a6)=>
 some a6
 | some (.inr ())=>
 some false
 | none=>none)
 else
 (match zbd t n a1 (a1==5) a1 a2 a3 a4 a5 with
 | some (.inl a7)=>
 some a7
 | some (.inr ())=>
 some false
 | none=>none)
def zeB (t:Tab) (n:Nat):zh→zh→Option Int
 | ⟨a1,a2,a3,a4,a5⟩,⟨a6,a7,a8,a9,a10⟩=>
 t.zaG (zh.mk a1 a2 a3 a4 a5) (zh.mk a6 a7 a8 a9 a10) 1
def zb3 (t:Tab) (n:Nat) (a1:List (List GStep)) (a2:List GBy) (a3 a4:Int) (a5:Bool) (a6:Int) (a7:ByteArray) (a8:List GStep) (a9:Bool):Option ((List (List GStep)) × (List GBy) × Int × Int):=
 if a5=true then
 if (a1.length+([a8]:List (List GStep)).length) * 24≤140737488355328 then
 some ((a1++([a8]:List (List GStep))),a2,a3,a4)
 else none
 else
 some (a1,a2,a3,a4)
def zcp (t:Tab) (n:Nat):Nat→(List (List GStep))→(List GBy)→Int→Int→Option ((List (List GStep)) × (List GBy) × Int × Int × Bool)
 | 0,_,_,_,_=>none
 | k+1,a1,a2,a3,a4=>
 if (decide (a4 < a3))=true then
 if (decide (0≤(a4:Int)))=true then
 (match a2[(a4:Int).toNat]? with
 | some ⟨a5,a6,a7,a8⟩=>
 if (a5==3)=true then
 (match zb3 t n a1 a2 a3 a4 true a5 a6 a7 a8 with
 | some (a9,a10,a11,a12)=>
 zcp t n k a9 a10 a11 (IntKind.wrap .i64 (a12+1))
 | none=>none)
 else
 (match zb3 t n a1 a2 a3 a4 (decide ((a7.length:Int) > 0)) a5 a6 a7 a8 with
 | some (a13,a14,a15,a16)=>
 zcp t n k a13 a14 a15 (IntKind.wrap .i64 (a16+1))
 | none=>none)
 | none=>none)
 else none
 else
 some (a1,a2,a3,a4,(decide (a4 < a3)))
def zdW (t:Tab) (n:Nat):GStep→Option (List (List GStep))
 | ⟨a1,a2,a3,⟨a4,a5,a6,a7,a8⟩,⟨a9,a10,a11⟩,a12,a13,a14⟩=>
 (match t.zeM a12 with
 | some a15=>
 (match zcp t n n a15 a13 (a13.length:Int) 0 with
 | some (a16,a17,a18,a19,a20)=>
 some a16
 | none=>none)
 | none=>none)
def zQ (t:Tab) (n:Nat):Nat→(List GStep)→Int→Int→Int→Option (Int⊕((List GStep) × Int × Int × Int × Bool))
 | 0,_,_,_,_=>none
 | k+1,a1,a2,a3,a4=>
 if (decide (a4 < a3))=true then
 if (decide (0≤(a4:Int)))=true then
 (match a1[(a4:Int).toNat]? with
 | some ⟨a5,a6,a7,⟨a8,a9,a10,a11,a12⟩,⟨a13,a14,a15⟩,a16,a17,a18⟩=>
 (match t.zcf (GStep.mk a5 a6 a7 (zh.mk a8 a9 a10 a11 a12) (GPred.mk a13 a14 a15) a16 a17 a18) a2 with
 | some a19=>
 if a19=true then
 some (.inl a4)
 else
 zQ t n k a1 a2 a3 (IntKind.wrap .i64 (a4+1))
 | none=>none)
 | none=>none)
 else none
 else
 some (.inr (a1,a2,a3,a4,(decide (a4 < a3))))
def zaj (t:Tab) (n:Nat):(List GStep)→Int→Option Int
 | a1,a2=>
 (match zQ t n n a1 a2 (a1.length:Int) 0 with
 | some (.inl a3)=>
 some a3
 | some (.inr (a4,a5,a6,a7,a8))=>
 some (-1)
 | none=>none)
def zdr (t:Tab) (n:Nat):zh→Int→Option zh
 | ⟨a1,a2,a3,a4,a5⟩,a6=>
 if (decide (a6 > 12))=true then
 some (zh.mk a1 a2 a3 ([]:List zh) ([]:List zh))
 else
 (match t.zct a4 (IntKind.wrap .i64 (a6+1))with
 | some a7=>
 (match t.zct a5 (IntKind.wrap .i64 (a6+1))with
 | some a8=>
 some (zh.mk a1 a2 a3 a7 a8)
 | none=>none)
 | none=>none)
def zdJ (t:Tab) (n:Nat):Nat→Int→(List zh)→Int→Int→Int→(List zh)→(List GPred)→Int→(List zh)→(List GPred)→Int→(List zh)→(List GPred)→Option (Int × (List zh) × Int × Int × Bool × Int × (List zh) × (List GPred) × Int × (List zh) × (List GPred) × Int × (List zh) × (List GPred))
 | 0,_,_,_,_,_,_,_,_,_,_,_,_,_=>none
 | k+1,a1,a2,a3,a4,a5,a6,a7,a8,a9,a10,a11,a12,a13=>
 if (decide (a4 < a3))=true then
 if (decide (0≤(a4:Int)))=true then
 (match a2[(a4:Int).toNat]? with
 | some ⟨a14,a15,a16,a17,a18⟩=>
 (match t.zdq (zh.mk a14 a15 a16 a17 a18)with
 | some ⟨a19,a20,a21,a22,a23⟩=>
 if (a12.length+([(zh.mk a19 a20 a21 a22 a23)]:List zh).length) * 80≤140737488355328 then
 zdJ t n k a1 a2 a3 (IntKind.wrap .i64 (a4+1)) a5 a6 a7 a8 a9 a10 a11 (a12++([(zh.mk a19 a20 a21 a22 a23)]:List zh)) a13
 else none
 | none=>none)
 | none=>none)
 else none
 else
 some (a1,a2,a3,a4,(decide (a4 < a3)),a5,a6,a7,a8,a9,a10,a11,a12,a13)
def zdK (t:Tab) (n:Nat):Nat→Int→(List GPred)→Int→Int→Int→(List zh)→(List GPred)→Int→(List zh)→(List GPred)→Option (Int × (List GPred) × Int × Int × Bool × Int × (List zh) × (List GPred) × Int × (List zh) × (List GPred))
 | 0,_,_,_,_,_,_,_,_,_,_=>none
 | k+1,a1,a2,a3,a4,a5,a6,a7,a8,a9,a10=>
 if (decide (a4 < a3))=true then
 if (decide (0≤(a4:Int)))=true then
 (match a2[(a4:Int).toNat]? with
 | some ⟨a11,a12,a13⟩=>
 (match t.zdL (GPred.mk a11 a12 a13) (IntKind.wrap .i64 (a1+1))with
 | some ⟨a14,a15,a16⟩=>
 if (a10.length+([(GPred.mk a14 a15 a16)]:List GPred).length) * 56≤140737488355328 then
 zdK t n k a1 a2 a3 (IntKind.wrap .i64 (a4+1)) a5 a6 a7 a8 a9 (a10++([(GPred.mk a14 a15 a16)]:List GPred))
 else none
 | none=>none)
 | none=>none)
 else none
 else
 some (a1,a2,a3,a4,(decide (a4 < a3)),a5,a6,a7,a8,a9,a10)
def zdS (t:Tab) (n:Nat) (a1 a2:Int) (a3:List zh) (a4:List GPred) (a5:Int) (a6:List zh) (a7:List GPred) (a8:Int) (a9:List zh) (a10:List GPred):Option (Int × (List zh) × (List GPred)):=
 (match zdK t n n a1 a4 (a4.length:Int) 0 a5 a6 a7 a8 a9 a10 with
 | some (a11,a12,a13,a14,a15,a16,a17,a18,a19,a20,a21)=>
 some (a19,a20,a21)
 | none=>none)
def zdL (t:Tab) (n:Nat):GPred→Int→Option GPred
 | ⟨a1,a2,a3⟩,a4=>
 if (decide (a4 > 12))=true then
 some (GPred.mk a1 ([]:List zh) ([]:List GPred))
 else
 (match zdJ t n n a4 a2 (a2.length:Int) 0 a1 a2 a3 0 ([]:List zh) ([]:List GPred) a1 ([]:List zh) ([]:List GPred)with
 | some (a5,a6,a7,a8,a9,a10,a11,a12,a13,a14,a15,a16,a17,a18)=>
 (match zdS t n a5 a10 a11 a12 a13 a14 a15 a16 a17 a18 with
 | some (a19,a20,a21)=>
 some (GPred.mk a19 a20 a21)
 | none=>none)
 | none=>none)
def zdf (t:Tab) (n:Nat):Bool→GCode→GCode→Option Bool
 | a1,⟨a2,a3,a4,⟨a5,a6,a7,a8,a9⟩,⟨a10,a11,a12⟩,a13,a14,a15⟩,⟨a16,a17,a18,⟨a19,a20,a21,a22,a23⟩,⟨a24,a25,a26⟩,a27,a28,a29⟩=>
 if a1=true then
 (match t.slices_Equal_int a13 a27 with
 | some a30=>
 if a30=true then
 (match t.zdg a14 a28 with
 | some a31=>
 if a31=true then
 (match t.zbU (zh.mk a5 a6 a7 a8 a9) (zh.mk a19 a20 a21 a22 a23)with
 | some a32=>
 if a32=true then
 t.zcM (GPred.mk a10 a11 a12) (GPred.mk a24 a25 a26)
 else
 some false
 | none=>none)
 else
 some false
 | none=>none)
 else
 some false
 | none=>none)
 else
 some false
def zeE (t:Tab) (n:Nat):GCode→GCode→Option Bool
 | ⟨a1,a2,a3,⟨a4,a5,a6,a7,a8⟩,⟨a9,a10,a11⟩,a12,a13,a14⟩,⟨a15,a16,a17,⟨a18,a19,a20,a21,a22⟩,⟨a23,a24,a25⟩,a26,a27,a28⟩=>
 if (a1==a15)=true then
 (match t.slices_Equal_string a2 a16 with
 | some a29=>
 if a29=true then
 (match t.slices_Equal_int a3 a17 with
 | some a30=>
 if a30=true then
 (match t.slices_Equal_string a14 a28 with
 | some a31=>
 zdf t n a31 (GCode.mk a1 a2 a3 (zh.mk a4 a5 a6 a7 a8) (GPred.mk a9 a10 a11) a12 a13 a14) (GCode.mk a15 a16 a17 (zh.mk a18 a19 a20 a21 a22) (GPred.mk a23 a24 a25) a26 a27 a28)
 | none=>none)
 else
 zdf t n false (GCode.mk a1 a2 a3 (zh.mk a4 a5 a6 a7 a8) (GPred.mk a9 a10 a11) a12 a13 a14) (GCode.mk a15 a16 a17 (zh.mk a18 a19 a20 a21 a22) (GPred.mk a23 a24 a25) a26 a27 a28)
 | none=>none)
 else
 zdf t n false (GCode.mk a1 a2 a3 (zh.mk a4 a5 a6 a7 a8) (GPred.mk a9 a10 a11) a12 a13 a14) (GCode.mk a15 a16 a17 (zh.mk a18 a19 a20 a21 a22) (GPred.mk a23 a24 a25) a26 a27 a28)
 | none=>none)
 else
 zdf t n false (GCode.mk a1 a2 a3 (zh.mk a4 a5 a6 a7 a8) (GPred.mk a9 a10 a11) a12 a13 a14) (GCode.mk a15 a16 a17 (zh.mk a18 a19 a20 a21 a22) (GPred.mk a23 a24 a25) a26 a27 a28)
def zcf (t:Tab) (n:Nat):GStep→Int→Option Bool
 | ⟨a1,a2,a3,⟨a4,a5,a6,a7,a8⟩,⟨a9,a10,a11⟩,a12,a13,a14⟩,a15=>
 (match t.zer (GStep.mk a1 a2 a3 (zh.mk a4 a5 a6 a7 a8) (GPred.mk a9 a10 a11) a12 a13 a14) a15 with
 | some a16=>
 some (!a16)
 | none=>none)
def zb7 (t:Tab) (n:Nat):Nat→Int→(List zh)→(List zh)→Int→Int→Option (Int × (List zh) × (List zh) × Int × Int × Bool)
 | 0,_,_,_,_,_=>none
 | k+1,a1,a2,a3,a4,a5=>
 if (decide (a5 < a4))=true then
 if (decide (0≤(a5:Int)))=true then
 (match a3[(a5:Int).toNat]? with
 | some ⟨a6,a7,a8,a9,a10⟩=>
 (match t.zdr (zh.mk a6 a7 a8 a9 a10) a1 with
 | some ⟨a11,a12,a13,a14,a15⟩=>
 if (a2.length+([(zh.mk a11 a12 a13 a14 a15)]:List zh).length) * 80≤140737488355328 then
 zb7 t n k a1 (a2++([(zh.mk a11 a12 a13 a14 a15)]:List zh)) a3 a4 (IntKind.wrap .i64 (a5+1))
 else none
 | none=>none)
 | none=>none)
 else none
 else
 some (a1,a2,a3,a4,a5,(decide (a5 < a4)))
def zct (t:Tab) (n:Nat):(List zh)→Int→Option (List zh)
 | a1,a2=>
 (match zb7 t n n a2 ([]:List zh) a1 (a1.length:Int) 0 with
 | some (a3,a4,a5,a6,a7,a8)=>
 some a4
 | none=>none)
def zaX (t:Tab) (n:Nat):Nat→(List ByteArray)→(List ByteArray)→Int→Int→Option (Bool⊕((List ByteArray) × (List ByteArray) × Int × Int × Bool))
 | 0,_,_,_,_=>none
 | k+1,a1,a2,a3,a4=>
 if (decide (a4 < a3))=true then
 if (decide (0≤(a4:Int)))=true then
 (match a1[(a4:Int).toNat]? with
 | some a5=>
 (match a2[(a4:Int).toNat]? with
 | some a6=>
 if (a5.toList==a6.toList)=true then
 zaX t n k a1 a2 a3 (IntKind.wrap .i64 (a4+1))
 else
 some (.inl false)
 | none=>none)
 | none=>none)
 else none
 else
 some (.inr (a1,a2,a3,a4,(decide (a4 < a3))))
def slices_Equal_string (t:Tab) (n:Nat):(List ByteArray)→(List ByteArray)→Option Bool
 | a1,a2=>
 if ((a1.length:Int) !=(a2.length:Int))=true then
 some false
 else
 (match zaX t n n a1 a2 (a1.length:Int) 0 with
 | some (.inl a3)=>
 some a3
 | some (.inr (a4,a5,a6,a7,a8))=>
 some true
 | none=>none)
def zby (t:Tab) (n:Nat):Nat→(List Int)→(List Int)→Int→Int→Option (Bool⊕((List Int) × (List Int) × Int × Int × Bool))
 | 0,_,_,_,_=>none
 | k+1,a1,a2,a3,a4=>
 if (decide (a4 < a3))=true then
 if (decide (0≤(a4:Int)))=true then
 (match a1[(a4:Int).toNat]? with
 | some a5=>
 (match a2[(a4:Int).toNat]? with
 | some a6=>
 if (a5 !=a6)=true then
 some (.inl false)
 else
 zby t n k a1 a2 a3 (IntKind.wrap .i64 (a4+1))
 | none=>none)
 | none=>none)
 else none
 else
 some (.inr (a1,a2,a3,a4,(decide (a4 < a3))))
def slices_Equal_int (t:Tab) (n:Nat):(List Int)→(List Int)→Option Bool
 | a1,a2=>
 if ((a1.length:Int) !=(a2.length:Int))=true then
 some false
 else
 (match zby t n n a1 a2 (a1.length:Int) 0 with
 | some (.inl a3)=>
 some a3
 | some (.inr (a4,a5,a6,a7,a8))=>
 some true
 | none=>none)
def zbz (t:Tab) (n:Nat):Nat→(List GKey)→(List GKey)→Int→Int→Option (Bool⊕((List GKey) × (List GKey) × Int × Int × Bool))
 | 0,_,_,_,_=>none
 | k+1,a1,a2,a3,a4=>
 if (decide (a4 < a3))=true then
 if (decide (0≤(a4:Int)))=true then
 (match a1[(a4:Int).toNat]? with
 | some ⟨a5,a6,a7,a8⟩=>
 (match a2[(a4:Int).toNat]? with
 | some ⟨a9,a10,a11,a12⟩=>
 if ((a5==a9)&&((a6.toList==a10.toList)&&((a7==a11)&&((a8==a12)&&true))))=true then
 zbz t n k a1 a2 a3 (IntKind.wrap .i64 (a4+1))
 else
 some (.inl false)
 | none=>none)
 | none=>none)
 else none
 else
 some (.inr (a1,a2,a3,a4,(decide (a4 < a3))))
def zdg (t:Tab) (n:Nat):(List GKey)→(List GKey)→Option Bool
 | a1,a2=>
 if ((a1.length:Int) !=(a2.length:Int))=true then
 some false
 else
 (match zbz t n n a1 a2 (a1.length:Int) 0 with
 | some (.inl a3)=>
 some a3
 | some (.inr (a4,a5,a6,a7,a8))=>
 some true
 | none=>none)
def zbU (t:Tab) (n:Nat):zh→zh→Option Bool
 | ⟨a1,a2,a3,a4,a5⟩,⟨a6,a7,a8,a9,a10⟩=>
 (match t.zee (zh.mk a1 a2 a3 a4 a5) (zh.mk a6 a7 a8 a9 a10)with
 | some a11=>
 some (a11==0)
 | none=>none)
def zcM (t:Tab) (n:Nat):GPred→GPred→Option Bool
 | ⟨a1,a2,a3⟩,⟨a4,a5,a6⟩=>
 if (a1==a4)=true then
 (match t.zay a2 a5 with
 | some a7=>
 if a7=true then
 t.zaw a3 a6
 else
 some false
 | none=>none)
 else
 some false
def zcu (t:Tab) (n:Nat) (a1:Int) (a2:Bool) (a3:Int) (a4:List ByteArray) (a5:List Int) (a6 a7:Int) (a8:ByteArray) (a9 a10:List zh) (a11:Int) (a12:List zh) (a13:List GPred) (a14:List (List GStep)) (a15:List GBy) (a16:List ByteArray):Option (Bool⊕(Int × Int × (List ByteArray) × (List Int) × Int × Int × ByteArray × (List zh) × (List zh) × Int × (List zh) × (List GPred) × (List (List GStep)) × (List GBy) × (List ByteArray))):=
 if a2=true then
 some (.inl false)
 else
 if (a3==43)=true then
 (match t.zcN a4 with
 | some a17=>
 if a17=true then
 some (.inl false)
 else
 if (decide ((a15.length:Int) > (a4.length:Int)))=true then
 some (.inl false)
 else
 some (.inr (a1,a3,a4,a5,a6,a7,a8,a9,a10,a11,a12,a13,a14,a15,a16))
 | none=>none)
 else
 some (.inr (a1,a3,a4,a5,a6,a7,a8,a9,a10,a11,a12,a13,a14,a15,a16))
def zcv (t:Tab) (n:Nat) (a1:Int) (a2:Bool) (a3:Int) (a4:List ByteArray) (a5:List Int) (a6 a7:Int) (a8:ByteArray) (a9 a10:List zh) (a11:Int) (a12:List zh) (a13:List GPred) (a14:List (List GStep)) (a15:List GBy) (a16:List ByteArray) (a17 a18 a19 a20 a21 a22 a23 a24:Int) (a25 a26:Bool):Option (Bool⊕(Int × Int × (List ByteArray) × (List Int) × Int × Int × ByteArray × (List zh) × (List zh) × Int × (List zh) × (List GPred) × (List (List GStep)) × (List GBy) × (List ByteArray))):=
 if a2=true then
 some (.inl false)
 else
 if a26=true then
 (match t.zds (GPred.mk a11 a12 a13)with
 | some a27=>
 if (a27 !=0)=true then
 zcu t n a1 true a3 a4 a5 a6 a7 a8 a9 a10 a11 a12 a13 a14 a15 a16
 else
 zcu t n a1 false a3 a4 a5 a6 a7 a8 a9 a10 a11 a12 a13 a14 a15 a16
 | none=>none)
 else
 (match t.zc4 (GPred.mk a11 a12 a13)with
 | some a60=>
 zcu t n a1 (!a60) a3 a4 a5 a6 a7 a8 a9 a10 a11 a12 a13 a14 a15 a16
 | none=>none)
def zcw (t:Tab) (n:Nat) (a1:Int) (a2:Bool) (a3:Int) (a4:List ByteArray) (a5:List Int) (a6 a7:Int) (a8:ByteArray) (a9 a10:List zh) (a11:Int) (a12:List zh) (a13:List GPred) (a14:List (List GStep)) (a15:List GBy) (a16:List ByteArray) (a17 a18 a19 a20 a21 a22 a23 a24:Int) (a25 a26:Bool):Option (Bool⊕(Int × Int × (List ByteArray) × (List Int) × Int × Int × ByteArray × (List zh) × (List zh) × Int × (List zh) × (List GPred) × (List (List GStep)) × (List GBy) × (List ByteArray))):=
 if a2=true then
 some (.inl false)
 else
 if a25=true then
 (match t.zch (zh.mk a6 a7 a8 a9 a10)with
 | some a27=>
 if (a27 !=0)=true then
 zcv t n a1 true a3 a4 a5 a6 a7 a8 a9 a10 a11 a12 a13 a14 a15 a16 a17 a18 a19 a20 a21 a22 a23 a24 a25 a26
 else
 zcv t n a1 false a3 a4 a5 a6 a7 a8 a9 a10 a11 a12 a13 a14 a15 a16 a17 a18 a19 a20 a21 a22 a23 a24 a25 a26
 | none=>none)
 else
 (match t.zbU (zh.mk a6 a7 a8 a9 a10) (zh.mk 0 0 ByteArray.empty ([]:List zh) ([]:List zh))with
 | some a60=>
 zcv t n a1 (!a60) a3 a4 a5 a6 a7 a8 a9 a10 a11 a12 a13 a14 a15 a16 a17 a18 a19 a20 a21 a22 a23 a24 a25 a26
 | none=>none)
def zaA (t:Tab) (n:Nat) (a1:Int) (a2:Bool) (a3:Int) (a4:List ByteArray) (a5:List Int) (a6 a7:Int) (a8:ByteArray) (a9 a10:List zh) (a11:Int) (a12:List zh) (a13:List GPred) (a14:List (List GStep)) (a15:List GBy) (a16:List ByteArray) (a17 a18 a19 a20 a21 a22 a23 a24:Int) (a25 a26:Bool):Option (Bool⊕(Int × Int × (List ByteArray) × (List Int) × Int × Int × ByteArray × (List zh) × (List zh) × Int × (List zh) × (List GPred) × (List (List GStep)) × (List GBy) × (List ByteArray))):=
 if a2=true then
 some (.inl false)
 else
 (match t.zB a4 with
 | some a27=>
 if a27=true then
 zcw t n a1 true a3 a4 a5 a6 a7 a8 a9 a10 a11 a12 a13 a14 a15 a16 a17 a18 a19 a20 a21 a22 a23 a24 a25 a26
 else
 (match t.zB a16 with
 | some a44=>
 if a44=true then
 zcw t n a1 true a3 a4 a5 a6 a7 a8 a9 a10 a11 a12 a13 a14 a15 a16 a17 a18 a19 a20 a21 a22 a23 a24 a25 a26
 else
 (match t.zbX (GStep.mk a3 a4 a5 (zh.mk a6 a7 a8 a9 a10) (GPred.mk a11 a12 a13) a14 a15 a16)with
 | some a61=>
 zcw t n a1 (!a61) a3 a4 a5 a6 a7 a8 a9 a10 a11 a12 a13 a14 a15 a16 a17 a18 a19 a20 a21 a22 a23 a24 a25 a26
 | none=>none)
 | none=>none)
 | none=>none)
def zc2 (t:Tab) (n:Nat):Nat→Int→(List (List GStep))→Int→Int→Int→(List ByteArray)→(List Int)→Int→Int→ByteArray→(List zh)→(List zh)→Int→(List zh)→(List GPred)→(List (List GStep))→(List GBy)→(List ByteArray)→Option (Bool⊕(Int × (List (List GStep)) × Int × Int × Bool × Int × (List ByteArray) × (List Int) × Int × Int × ByteArray × (List zh) × (List zh) × Int × (List zh) × (List GPred) × (List (List GStep)) × (List GBy) × (List ByteArray)))
 | 0,_,_,_,_,_,_,_,_,_,_,_,_,_,_,_,_,_,_=>none
 | k+1,a1,a2,a3,a4,a5,a6,a7,a8,a9,a10,a11,a12,a13,a14,a15,a16,a17,a18=>
 if (decide (a4 < a3))=true then
 if (decide (0≤(a4:Int)))=true then
 (match a2[(a4:Int).toNat]? with
 | some a19=>
 (match t.za9 a19 (IntKind.wrap .i64 (a1+1))with
 | some a20=>
 if a20=true then
 zc2 t n k a1 a2 a3 (IntKind.wrap .i64 (a4+1)) a5 a6 a7 a8 a9 a10 a11 a12 a13 a14 a15 a16 a17 a18
 else
 some (.inl false)
 | none=>none)
 | none=>none)
 else none
 else
 some (.inr (a1,a2,a3,a4,(decide (a4 < a3)),a5,a6,a7,a8,a9,a10,a11,a12,a13,a14,a15,a16,a17,a18))
def zc3 (t:Tab) (n:Nat):Nat→Int→(List GBy)→Int→Int→Int→(List ByteArray)→(List Int)→Int→Int→ByteArray→(List zh)→(List zh)→Int→(List zh)→(List GPred)→(List (List GStep))→(List GBy)→(List ByteArray)→Option (Bool⊕(Int × (List GBy) × Int × Int × Bool × Int × (List ByteArray) × (List Int) × Int × Int × ByteArray × (List zh) × (List zh) × Int × (List zh) × (List GPred) × (List (List GStep)) × (List GBy) × (List ByteArray)))
 | 0,_,_,_,_,_,_,_,_,_,_,_,_,_,_,_,_,_,_=>none
 | k+1,a1,a2,a3,a4,a5,a6,a7,a8,a9,a10,a11,a12,a13,a14,a15,a16,a17,a18=>
 if (decide (a4 < a3))=true then
 if (decide (0≤(a4:Int)))=true then
 (match a2[(a4:Int).toNat]? with
 | some ⟨a19,a20,a21,a22⟩=>
 (match t.zet (GBy.mk a19 a20 a21 a22) (a5==40) a1 with
 | some a23=>
 if a23=true then
 zc3 t n k a1 a2 a3 (IntKind.wrap .i64 (a4+1)) a5 a6 a7 a8 a9 a10 a11 a12 a13 a14 a15 a16 a17 a18
 else
 some (.inl false)
 | none=>none)
 | none=>none)
 else none
 else
 some (.inr (a1,a2,a3,a4,(decide (a4 < a3)),a5,a6,a7,a8,a9,a10,a11,a12,a13,a14,a15,a16,a17,a18))
def zeK (t:Tab) (n:Nat) (a1 a2:Int) (a3:List ByteArray) (a4:List Int) (a5 a6:Int) (a7:ByteArray) (a8 a9:List zh) (a10:Int) (a11:List zh) (a12:List GPred) (a13:List (List GStep)) (a14:List GBy) (a15:List ByteArray):Option Bool:=
 (match zc3 t n n a1 a14 (a14.length:Int) 0 a2 a3 a4 a5 a6 a7 a8 a9 a10 a11 a12 a13 a14 a15 with
 | some (.inl a16)=>
 some a16
 | some (.inr (a17,a18,a19,a20,a21,a22,a23,a24,a25,a26,a27,a28,a29,a30,a31,a32,a33,a34,a35))=>
 some true
 | none=>none)
def zcg (t:Tab) (n:Nat) (a1 a2:Int) (a3:List ByteArray) (a4:List Int) (a5 a6:Int) (a7:ByteArray) (a8 a9:List zh) (a10:Int) (a11:List zh) (a12:List GPred) (a13:List (List GStep)) (a14:List GBy) (a15:List ByteArray):Option Bool:=
 (match zc2 t n n a1 a13 (a13.length:Int) 0 a2 a3 a4 a5 a6 a7 a8 a9 a10 a11 a12 a13 a14 a15 with
 | some (.inl a16)=>
 some a16
 | some (.inr (a17,a18,a19,a20,a21,a22,a23,a24,a25,a26,a27,a28,a29,a30,a31,a32,a33,a34,a35))=>
 zeK t n a17 a22 a23 a24 a25 a26 a27 a28 a29 a30 a31 a32 a33 a34 a35
 | none=>none)
def zer (t:Tab) (n:Nat):GStep→Int→Option Bool
 | ⟨a1,a2,a3,⟨a4,a5,a6,a7,a8⟩,⟨a9,a10,a11⟩,a12,a13,a14⟩,a15=>
 (match t.zdZ a1 with
 | some a16=>
 if (a16.toList==(ByteArray.mk #[]).toList)=true then
 some false
 else
 (match t.zcX with
 | some ⟨⟨⟨a17,a18⟩,⟨a19,a20⟩,⟨a21,a22⟩,⟨a23,a24⟩,a25,a26⟩,⟨⟨a27,a28⟩,⟨a29,a30⟩,⟨a31,a32⟩,⟨a33,a34⟩,a35,a36⟩,⟨⟨a37,a38⟩,⟨a39,a40⟩,⟨a41,a42⟩,⟨a43,a44⟩,a45,a46⟩,⟨⟨a47,a48⟩,⟨a49,a50⟩,⟨a51,a52⟩,⟨a53,a54⟩,a55,a56⟩,⟨⟨a57,a58⟩,⟨a59,a60⟩,⟨a61,a62⟩,⟨a63,a64⟩,a65,a66⟩,⟨⟨a67,a68⟩,⟨a69,a70⟩,⟨a71,a72⟩,⟨a73,a74⟩,a75,a76⟩,⟨⟨a77,a78⟩,⟨a79,a80⟩,⟨a81,a82⟩,⟨a83,a84⟩,a85,a86⟩,⟨⟨a87,a88⟩,⟨a89,a90⟩,⟨a91,a92⟩,⟨a93,a94⟩,a95,a96⟩,⟨⟨a97,a98⟩,⟨a99,a100⟩,⟨a101,a102⟩,⟨a103,a104⟩,a105,a106⟩,⟨⟨a107,a108⟩,⟨a109,a110⟩,⟨a111,a112⟩,⟨a113,a114⟩,a115,a116⟩,⟨⟨a117,a118⟩,⟨a119,a120⟩,⟨a121,a122⟩,⟨a123,a124⟩,a125,a126⟩,⟨⟨a127,a128⟩,⟨a129,a130⟩,⟨a131,a132⟩,⟨a133,a134⟩,a135,a136⟩,⟨⟨a137,a138⟩,⟨a139,a140⟩,⟨a141,a142⟩,⟨a143,a144⟩,a145,a146⟩,⟨⟨a147,a148⟩,⟨a149,a150⟩,⟨a151,a152⟩,⟨a153,a154⟩,a155,a156⟩,⟨⟨a157,a158⟩,⟨a159,a160⟩,⟨a161,a162⟩,⟨a163,a164⟩,a165,a166⟩,⟨⟨a167,a168⟩,⟨a169,a170⟩,⟨a171,a172⟩,⟨a173,a174⟩,a175,a176⟩,⟨⟨a177,a178⟩,⟨a179,a180⟩,⟨a181,a182⟩,⟨a183,a184⟩,a185,a186⟩,⟨⟨a187,a188⟩,⟨a189,a190⟩,⟨a191,a192⟩,⟨a193,a194⟩,a195,a196⟩,⟨⟨a197,a198⟩,⟨a199,a200⟩,⟨a201,a202⟩,⟨a203,a204⟩,a205,a206⟩,⟨⟨a207,a208⟩,⟨a209,a210⟩,⟨a211,a212⟩,⟨a213,a214⟩,a215,a216⟩,⟨⟨a217,a218⟩,⟨a219,a220⟩,⟨a221,a222⟩,⟨a223,a224⟩,a225,a226⟩,⟨⟨a227,a228⟩,⟨a229,a230⟩,⟨a231,a232⟩,⟨a233,a234⟩,a235,a236⟩,⟨⟨a237,a238⟩,⟨a239,a240⟩,⟨a241,a242⟩,⟨a243,a244⟩,a245,a246⟩,⟨⟨a247,a248⟩,⟨a249,a250⟩,⟨a251,a252⟩,⟨a253,a254⟩,a255,a256⟩,⟨⟨a257,a258⟩,⟨a259,a260⟩,⟨a261,a262⟩,⟨a263,a264⟩,a265,a266⟩,⟨⟨a267,a268⟩,⟨a269,a270⟩,⟨a271,a272⟩,⟨a273,a274⟩,a275,a276⟩,⟨⟨a277,a278⟩,⟨a279,a280⟩,⟨a281,a282⟩,⟨a283,a284⟩,a285,a286⟩,⟨⟨a287,a288⟩,⟨a289,a290⟩,⟨a291,a292⟩,⟨a293,a294⟩,a295,a296⟩,⟨⟨a297,a298⟩,⟨a299,a300⟩,⟨a301,a302⟩,⟨a303,a304⟩,a305,a306⟩,⟨⟨a307,a308⟩,⟨a309,a310⟩,⟨a311,a312⟩,⟨a313,a314⟩,a315,a316⟩,⟨⟨a317,a318⟩,⟨a319,a320⟩,⟨a321,a322⟩,⟨a323,a324⟩,a325,a326⟩,⟨⟨a327,a328⟩,⟨a329,a330⟩,⟨a331,a332⟩,⟨a333,a334⟩,a335,a336⟩,⟨⟨a337,a338⟩,⟨a339,a340⟩,⟨a341,a342⟩,⟨a343,a344⟩,a345,a346⟩,⟨⟨a347,a348⟩,⟨a349,a350⟩,⟨a351,a352⟩,⟨a353,a354⟩,a355,a356⟩,⟨⟨a357,a358⟩,⟨a359,a360⟩,⟨a361,a362⟩,⟨a363,a364⟩,a365,a366⟩,⟨⟨a367,a368⟩,⟨a369,a370⟩,⟨a371,a372⟩,⟨a373,a374⟩,a375,a376⟩,⟨⟨a377,a378⟩,⟨a379,a380⟩,⟨a381,a382⟩,⟨a383,a384⟩,a385,a386⟩,⟨⟨a387,a388⟩,⟨a389,a390⟩,⟨a391,a392⟩,⟨a393,a394⟩,a395,a396⟩,⟨⟨a397,a398⟩,⟨a399,a400⟩,⟨a401,a402⟩,⟨a403,a404⟩,a405,a406⟩,⟨⟨a407,a408⟩,⟨a409,a410⟩,⟨a411,a412⟩,⟨a413,a414⟩,a415,a416⟩,⟨⟨a417,a418⟩,⟨a419,a420⟩,⟨a421,a422⟩,⟨a423,a424⟩,a425,a426⟩,⟨⟨a427,a428⟩,⟨a429,a430⟩,⟨a431,a432⟩,⟨a433,a434⟩,a435,a436⟩,⟨⟨a437,a438⟩,⟨a439,a440⟩,⟨a441,a442⟩,⟨a443,a444⟩,a445,a446⟩,⟨⟨a447,a448⟩,⟨a449,a450⟩,⟨a451,a452⟩,⟨a453,a454⟩,a455,a456⟩,⟨⟨a457,a458⟩,⟨a459,a460⟩,⟨a461,a462⟩,⟨a463,a464⟩,a465,a466⟩,⟨⟨a467,a468⟩,⟨a469,a470⟩,⟨a471,a472⟩,⟨a473,a474⟩,a475,a476⟩,⟨⟨a477,a478⟩,⟨a479,a480⟩,⟨a481,a482⟩,⟨a483,a484⟩,a485,a486⟩,⟨⟨a487,a488⟩,⟨a489,a490⟩,⟨a491,a492⟩,⟨a493,a494⟩,a495,a496⟩,⟨⟨a497,a498⟩,⟨a499,a500⟩,⟨a501,a502⟩,⟨a503,a504⟩,a505,a506⟩,⟨⟨a507,a508⟩,⟨a509,a510⟩,⟨a511,a512⟩,⟨a513,a514⟩,a515,a516⟩,⟨⟨a517,a518⟩,⟨a519,a520⟩,⟨a521,a522⟩,⟨a523,a524⟩,a525,a526⟩,⟨⟨a527,a528⟩,⟨a529,a530⟩,⟨a531,a532⟩,⟨a533,a534⟩,a535,a536⟩⟩=>
 if (decide (0≤(a1:Int)∧(a1:Int) < ((52:Nat):Int)))=true then
 (match ([(zm.mk (GT122.mk a17 a18) (GT122.mk a19 a20) (GT122.mk a21 a22) (GT122.mk a23 a24) a25 a26),(zm.mk (GT122.mk a27 a28) (GT122.mk a29 a30) (GT122.mk a31 a32) (GT122.mk a33 a34) a35 a36),(zm.mk (GT122.mk a37 a38) (GT122.mk a39 a40) (GT122.mk a41 a42) (GT122.mk a43 a44) a45 a46),(zm.mk (GT122.mk a47 a48) (GT122.mk a49 a50) (GT122.mk a51 a52) (GT122.mk a53 a54) a55 a56),(zm.mk (GT122.mk a57 a58) (GT122.mk a59 a60) (GT122.mk a61 a62) (GT122.mk a63 a64) a65 a66),(zm.mk (GT122.mk a67 a68) (GT122.mk a69 a70) (GT122.mk a71 a72) (GT122.mk a73 a74) a75 a76),(zm.mk (GT122.mk a77 a78) (GT122.mk a79 a80) (GT122.mk a81 a82) (GT122.mk a83 a84) a85 a86),(zm.mk (GT122.mk a87 a88) (GT122.mk a89 a90) (GT122.mk a91 a92) (GT122.mk a93 a94) a95 a96),(zm.mk (GT122.mk a97 a98) (GT122.mk a99 a100) (GT122.mk a101 a102) (GT122.mk a103 a104) a105 a106),(zm.mk (GT122.mk a107 a108) (GT122.mk a109 a110) (GT122.mk a111 a112) (GT122.mk a113 a114) a115 a116),(zm.mk (GT122.mk a117 a118) (GT122.mk a119 a120) (GT122.mk a121 a122) (GT122.mk a123 a124) a125 a126),(zm.mk (GT122.mk a127 a128) (GT122.mk a129 a130) (GT122.mk a131 a132) (GT122.mk a133 a134) a135 a136),(zm.mk (GT122.mk a137 a138) (GT122.mk a139 a140) (GT122.mk a141 a142) (GT122.mk a143 a144) a145 a146),(zm.mk (GT122.mk a147 a148) (GT122.mk a149 a150) (GT122.mk a151 a152) (GT122.mk a153 a154) a155 a156),(zm.mk (GT122.mk a157 a158) (GT122.mk a159 a160) (GT122.mk a161 a162) (GT122.mk a163 a164) a165 a166),(zm.mk (GT122.mk a167 a168) (GT122.mk a169 a170) (GT122.mk a171 a172) (GT122.mk a173 a174) a175 a176),(zm.mk (GT122.mk a177 a178) (GT122.mk a179 a180) (GT122.mk a181 a182) (GT122.mk a183 a184) a185 a186),(zm.mk (GT122.mk a187 a188) (GT122.mk a189 a190) (GT122.mk a191 a192) (GT122.mk a193 a194) a195 a196),(zm.mk (GT122.mk a197 a198) (GT122.mk a199 a200) (GT122.mk a201 a202) (GT122.mk a203 a204) a205 a206),(zm.mk (GT122.mk a207 a208) (GT122.mk a209 a210) (GT122.mk a211 a212) (GT122.mk a213 a214) a215 a216),(zm.mk (GT122.mk a217 a218) (GT122.mk a219 a220) (GT122.mk a221 a222) (GT122.mk a223 a224) a225 a226),(zm.mk (GT122.mk a227 a228) (GT122.mk a229 a230) (GT122.mk a231 a232) (GT122.mk a233 a234) a235 a236),(zm.mk (GT122.mk a237 a238) (GT122.mk a239 a240) (GT122.mk a241 a242) (GT122.mk a243 a244) a245 a246),(zm.mk (GT122.mk a247 a248) (GT122.mk a249 a250) (GT122.mk a251 a252) (GT122.mk a253 a254) a255 a256),(zm.mk (GT122.mk a257 a258) (GT122.mk a259 a260) (GT122.mk a261 a262) (GT122.mk a263 a264) a265 a266),(zm.mk (GT122.mk a267 a268) (GT122.mk a269 a270) (GT122.mk a271 a272) (GT122.mk a273 a274) a275 a276),(zm.mk (GT122.mk a277 a278) (GT122.mk a279 a280) (GT122.mk a281 a282) (GT122.mk a283 a284) a285 a286),(zm.mk (GT122.mk a287 a288) (GT122.mk a289 a290) (GT122.mk a291 a292) (GT122.mk a293 a294) a295 a296),(zm.mk (GT122.mk a297 a298) (GT122.mk a299 a300) (GT122.mk a301 a302) (GT122.mk a303 a304) a305 a306),(zm.mk (GT122.mk a307 a308) (GT122.mk a309 a310) (GT122.mk a311 a312) (GT122.mk a313 a314) a315 a316),(zm.mk (GT122.mk a317 a318) (GT122.mk a319 a320) (GT122.mk a321 a322) (GT122.mk a323 a324) a325 a326),(zm.mk (GT122.mk a327 a328) (GT122.mk a329 a330) (GT122.mk a331 a332) (GT122.mk a333 a334) a335 a336),(zm.mk (GT122.mk a337 a338) (GT122.mk a339 a340) (GT122.mk a341 a342) (GT122.mk a343 a344) a345 a346),(zm.mk (GT122.mk a347 a348) (GT122.mk a349 a350) (GT122.mk a351 a352) (GT122.mk a353 a354) a355 a356),(zm.mk (GT122.mk a357 a358) (GT122.mk a359 a360) (GT122.mk a361 a362) (GT122.mk a363 a364) a365 a366),(zm.mk (GT122.mk a367 a368) (GT122.mk a369 a370) (GT122.mk a371 a372) (GT122.mk a373 a374) a375 a376),(zm.mk (GT122.mk a377 a378) (GT122.mk a379 a380) (GT122.mk a381 a382) (GT122.mk a383 a384) a385 a386),(zm.mk (GT122.mk a387 a388) (GT122.mk a389 a390) (GT122.mk a391 a392) (GT122.mk a393 a394) a395 a396),(zm.mk (GT122.mk a397 a398) (GT122.mk a399 a400) (GT122.mk a401 a402) (GT122.mk a403 a404) a405 a406),(zm.mk (GT122.mk a407 a408) (GT122.mk a409 a410) (GT122.mk a411 a412) (GT122.mk a413 a414) a415 a416),(zm.mk (GT122.mk a417 a418) (GT122.mk a419 a420) (GT122.mk a421 a422) (GT122.mk a423 a424) a425 a426),(zm.mk (GT122.mk a427 a428) (GT122.mk a429 a430) (GT122.mk a431 a432) (GT122.mk a433 a434) a435 a436),(zm.mk (GT122.mk a437 a438) (GT122.mk a439 a440) (GT122.mk a441 a442) (GT122.mk a443 a444) a445 a446),(zm.mk (GT122.mk a447 a448) (GT122.mk a449 a450) (GT122.mk a451 a452) (GT122.mk a453 a454) a455 a456),(zm.mk (GT122.mk a457 a458) (GT122.mk a459 a460) (GT122.mk a461 a462) (GT122.mk a463 a464) a465 a466),(zm.mk (GT122.mk a467 a468) (GT122.mk a469 a470) (GT122.mk a471 a472) (GT122.mk a473 a474) a475 a476),(zm.mk (GT122.mk a477 a478) (GT122.mk a479 a480) (GT122.mk a481 a482) (GT122.mk a483 a484) a485 a486),(zm.mk (GT122.mk a487 a488) (GT122.mk a489 a490) (GT122.mk a491 a492) (GT122.mk a493 a494) a495 a496),(zm.mk (GT122.mk a497 a498) (GT122.mk a499 a500) (GT122.mk a501 a502) (GT122.mk a503 a504) a505 a506),(zm.mk (GT122.mk a507 a508) (GT122.mk a509 a510) (GT122.mk a511 a512) (GT122.mk a513 a514) a515 a516),(zm.mk (GT122.mk a517 a518) (GT122.mk a519 a520) (GT122.mk a521 a522) (GT122.mk a523 a524) a525 a526),(zm.mk (GT122.mk a527 a528) (GT122.mk a529 a530) (GT122.mk a531 a532) (GT122.mk a533 a534) a535 a536)]:List zm)[(a1:Int).toNat]? with
 | some ⟨⟨a537,a538⟩,⟨a539,a540⟩,⟨a541,a542⟩,⟨a543,a544⟩,a545,a546⟩=>
 (match t.zea (a2.length:Int) (GT122.mk a537 a538)with
 | some a547=>
 if a547=true then
 (match t.zea (a3.length:Int) (GT122.mk a539 a540)with
 | some a548=>
 if a548=true then
 (match t.zea (a12.length:Int) (GT122.mk a541 a542)with
 | some a549=>
 if a549=true then
 (match t.zea (a13.length:Int) (GT122.mk a543 a544)with
 | some a550=>
 if a550=true then
 (match zaA t n a15 (decide ((a14.length:Int) > 50)) a1 a2 a3 a4 a5 a6 a7 a8 a9 a10 a11 a12 a13 a14 a537 a538 a539 a540 a541 a542 a543 a544 a545 a546 with
 | some (.inl a551)=>
 some a551
 | some (.inr (a552,a553,a554,a555,a556,a557,a558,a559,a560,a561,a562,a563,a564,a565,a566))=>
 zcg t n a552 a553 a554 a555 a556 a557 a558 a559 a560 a561 a562 a563 a564 a565 a566
 | none=>none)
 else
 (match zaA t n a15 true a1 a2 a3 a4 a5 a6 a7 a8 a9 a10 a11 a12 a13 a14 a537 a538 a539 a540 a541 a542 a543 a544 a545 a546 with
 | some (.inl a568)=>
 some a568
 | some (.inr (a569,a570,a571,a572,a573,a574,a575,a576,a577,a578,a579,a580,a581,a582,a583))=>
 zcg t n a569 a570 a571 a572 a573 a574 a575 a576 a577 a578 a579 a580 a581 a582 a583
 | none=>none)
 | none=>none)
 else
 (match zaA t n a15 true a1 a2 a3 a4 a5 a6 a7 a8 a9 a10 a11 a12 a13 a14 a537 a538 a539 a540 a541 a542 a543 a544 a545 a546 with
 | some (.inl a585)=>
 some a585
 | some (.inr (a586,a587,a588,a589,a590,a591,a592,a593,a594,a595,a596,a597,a598,a599,a600))=>
 zcg t n a586 a587 a588 a589 a590 a591 a592 a593 a594 a595 a596 a597 a598 a599 a600
 | none=>none)
 | none=>none)
 else
 (match zaA t n a15 true a1 a2 a3 a4 a5 a6 a7 a8 a9 a10 a11 a12 a13 a14 a537 a538 a539 a540 a541 a542 a543 a544 a545 a546 with
 | some (.inl a602)=>
 some a602
 | some (.inr (a603,a604,a605,a606,a607,a608,a609,a610,a611,a612,a613,a614,a615,a616,a617))=>
 zcg t n a603 a604 a605 a606 a607 a608 a609 a610 a611 a612 a613 a614 a615 a616 a617
 | none=>none)
 | none=>none)
 else
 (match zaA t n a15 true a1 a2 a3 a4 a5 a6 a7 a8 a9 a10 a11 a12 a13 a14 a537 a538 a539 a540 a541 a542 a543 a544 a545 a546 with
 | some (.inl a619)=>
 some a619
 | some (.inr (a620,a621,a622,a623,a624,a625,a626,a627,a628,a629,a630,a631,a632,a633,a634))=>
 zcg t n a620 a621 a622 a623 a624 a625 a626 a627 a628 a629 a630 a631 a632 a633 a634
 | none=>none)
 | none=>none)
 | none=>none)
 else none
 | none=>none)
 | none=>none)
def zee (t:Tab) (n:Nat):zh→zh→Option Int
 | ⟨a1,a2,a3,a4,a5⟩,⟨a6,a7,a8,a9,a10⟩=>
 t.zbC (zh.mk a1 a2 a3 a4 a5) (zh.mk a6 a7 a8 a9 a10) 1
def zat (t:Tab) (n:Nat):Nat→(List zh)→(List zh)→Int→Int→Option (Bool⊕((List zh) × (List zh) × Int × Int × Bool))
 | 0,_,_,_,_=>none
 | k+1,a1,a2,a3,a4=>
 if (decide (a4 < a3))=true then
 if (decide (0≤(a4:Int)))=true then
 (match a2[(a4:Int).toNat]? with
 | some ⟨a5,a6,a7,a8,a9⟩=>
 (match a1[(a4:Int).toNat]? with
 | some ⟨a10,a11,a12,a13,a14⟩=>
 (match t.zbU (zh.mk a5 a6 a7 a8 a9) (zh.mk a10 a11 a12 a13 a14)with
 | some a15=>
 if a15=true then
 zat t n k a1 a2 a3 (IntKind.wrap .i64 (a4+1))
 else
 some (.inl false)
 | none=>none)
 | none=>none)
 | none=>none)
 else none
 else
 some (.inr (a1,a2,a3,a4,(decide (a4 < a3))))
def zay (t:Tab) (n:Nat):(List zh)→(List zh)→Option Bool
 | a1,a2=>
 if ((a1.length:Int) !=(a2.length:Int))=true then
 some false
 else
 (match zat t n n a2 a1 (a1.length:Int) 0 with
 | some (.inl a3)=>
 some a3
 | some (.inr (a4,a5,a6,a7,a8))=>
 some true
 | none=>none)
def zaf (t:Tab) (n:Nat):Nat→(List GPred)→(List GPred)→Int→Int→Option (Bool⊕((List GPred) × (List GPred) × Int × Int × Bool))
 | 0,_,_,_,_=>none
 | k+1,a1,a2,a3,a4=>
 if (decide (a4 < a3))=true then
 if (decide (0≤(a4:Int)))=true then
 (match a2[(a4:Int).toNat]? with
 | some ⟨a5,a6,a7⟩=>
 (match a1[(a4:Int).toNat]? with
 | some ⟨a8,a9,a10⟩=>
 (match t.zcM (GPred.mk a5 a6 a7) (GPred.mk a8 a9 a10)with
 | some a11=>
 if a11=true then
 zaf t n k a1 a2 a3 (IntKind.wrap .i64 (a4+1))
 else
 some (.inl false)
 | none=>none)
 | none=>none)
 | none=>none)
 else none
 else
 some (.inr (a1,a2,a3,a4,(decide (a4 < a3))))
def zaw (t:Tab) (n:Nat):(List GPred)→(List GPred)→Option Bool
 | a1,a2=>
 if ((a1.length:Int) !=(a2.length:Int))=true then
 some false
 else
 (match zaf t n n a2 a1 (a1.length:Int) 0 with
 | some (.inl a3)=>
 some a3
 | some (.inr (a4,a5,a6,a7,a8))=>
 some true
 | none=>none)
def zdZ (t:Tab) (n:Nat):Int→Option ByteArray
 | a1=>
 if (decide (a1 < 1))=true then
 some (ByteArray.mk #[])
 else
 if (decide (a1 > 51))=true then
 some (ByteArray.mk #[])
 else
 if (decide (0≤(a1:Int)∧(a1:Int) < ((52:Nat):Int)))=true then
 (match gl0[(a1:Int).toNat]? with
 | some a2=>
 some a2
 | none=>none)
 else none
def zcX (t:Tab) (n:Nat):Option GT125:=
 some (GT125.mk (zm.mk (GT122.mk 0 0) (GT122.mk 0 0) (GT122.mk 0 0) (GT122.mk 0 0) false false) (zm.mk (GT122.mk 0 0) (GT122.mk 0 50) (GT122.mk 0 0) (GT122.mk 0 0) false false) (zm.mk (GT122.mk 0 0) (GT122.mk 0 50) (GT122.mk 0 0) (GT122.mk 0 0) false false) (zm.mk (GT122.mk 0 50) (GT122.mk 0 0) (GT122.mk 0 0) (GT122.mk 0 0) false false) (zm.mk (GT122.mk 0 50) (GT122.mk 0 0) (GT122.mk 0 0) (GT122.mk 0 0) false false) (zm.mk (GT122.mk 0 50) (GT122.mk 0 0) (GT122.mk 0 0) (GT122.mk 0 0) false false) (zm.mk (GT122.mk 0 50) (GT122.mk 0 0) (GT122.mk 0 0) (GT122.mk 0 0) false false) (zm.mk (GT122.mk 0 50) (GT122.mk 0 0) (GT122.mk 0 0) (GT122.mk 0 0) false false) (zm.mk (GT122.mk 0 50) (GT122.mk 0 0) (GT122.mk 0 0) (GT122.mk 0 0) false false) (zm.mk (GT122.mk 0 0) (GT122.mk 0 0) (GT122.mk 0 0) (GT122.mk 0 0) false false) (zm.mk (GT122.mk 0 0) (GT122.mk 0 0) (GT122.mk 0 0) (GT122.mk 0 0) false false) (zm.mk (GT122.mk 0 0) (GT122.mk 0 0) (GT122.mk 0 0) (GT122.mk 0 0) false false) (zm.mk (GT122.mk 0 0) (GT122.mk 0 0) (GT122.mk 0 0) (GT122.mk 0 0) false false) (zm.mk (GT122.mk 0 0) (GT122.mk 0 0) (GT122.mk 0 0) (GT122.mk 0 0) false false) (zm.mk (GT122.mk 0 50) (GT122.mk 0 0) (GT122.mk 0 0) (GT122.mk 0 0) false false) (zm.mk (GT122.mk 0 0) (GT122.mk 0 0) (GT122.mk 0 0) (GT122.mk 0 0) true false) (zm.mk (GT122.mk 0 0) (GT122.mk 0 0) (GT122.mk 0 0) (GT122.mk 0 0) false false) (zm.mk (GT122.mk 1 50) (GT122.mk 0 0) (GT122.mk 0 0) (GT122.mk 0 0) false false) (zm.mk (GT122.mk 1 1) (GT122.mk 0 0) (GT122.mk 0 0) (GT122.mk 0 0) false true) (zm.mk (GT122.mk 1 1) (GT122.mk 0 0) (GT122.mk 0 0) (GT122.mk 0 0) false false) (zm.mk (GT122.mk 1 1) (GT122.mk 0 0) (GT122.mk 0 0) (GT122.mk 0 0) false false) (zm.mk (GT122.mk 0 0) (GT122.mk 1 50) (GT122.mk 0 0) (GT122.mk 0 0) false false) (zm.mk (GT122.mk 0 0) (GT122.mk 0 0) (GT122.mk 0 0) (GT122.mk 0 0) false true) (zm.mk (GT122.mk 0 0) (GT122.mk 0 0) (GT122.mk 0 0) (GT122.mk 0 0) false false) (zm.mk (GT122.mk 0 0) (GT122.mk 2 2) (GT122.mk 0 0) (GT122.mk 0 0) false false) (zm.mk (GT122.mk 0 0) (GT122.mk 1 1) (GT122.mk 0 0) (GT122.mk 0 0) false false) (zm.mk (GT122.mk 0 0) (GT122.mk 0 0) (GT122.mk 0 0) (GT122.mk 0 0) false false) (zm.mk (GT122.mk 0 0) (GT122.mk 0 0) (GT122.mk 0 0) (GT122.mk 0 0) false false) (zm.mk (GT122.mk 0 0) (GT122.mk 0 0) (GT122.mk 1 1) (GT122.mk 0 0) false false) (zm.mk (GT122.mk 0 0) (GT122.mk 0 0) (GT122.mk 1 1) (GT122.mk 0 0) false false) (zm.mk (GT122.mk 0 0) (GT122.mk 0 0) (GT122.mk 1 50) (GT122.mk 0 0) false false) (zm.mk (GT122.mk 0 0) (GT122.mk 0 0) (GT122.mk 1 50) (GT122.mk 0 0) false false) (zm.mk (GT122.mk 0 0) (GT122.mk 0 0) (GT122.mk 0 0) (GT122.mk 0 0) false false) (zm.mk (GT122.mk 0 0) (GT122.mk 0 0) (GT122.mk 0 0) (GT122.mk 0 0) false false) (zm.mk (GT122.mk 0 0) (GT122.mk 0 0) (GT122.mk 0 0) (GT122.mk 0 0) false false) (zm.mk (GT122.mk 0 0) (GT122.mk 0 0) (GT122.mk 0 0) (GT122.mk 0 0) false false) (zm.mk (GT122.mk 0 0) (GT122.mk 0 0) (GT122.mk 0 0) (GT122.mk 0 0) false false) (zm.mk (GT122.mk 0 0) (GT122.mk 0 0) (GT122.mk 0 0) (GT122.mk 0 0) false false) (zm.mk (GT122.mk 0 0) (GT122.mk 0 0) (GT122.mk 0 0) (GT122.mk 0 0) false false) (zm.mk (GT122.mk 1 50) (GT122.mk 0 0) (GT122.mk 0 0) (GT122.mk 0 0) false false) (zm.mk (GT122.mk 0 0) (GT122.mk 0 0) (GT122.mk 0 0) (GT122.mk 0 50) false false) (zm.mk (GT122.mk 0 0) (GT122.mk 0 0) (GT122.mk 0 0) (GT122.mk 0 2) false false) (zm.mk (GT122.mk 0 0) (GT122.mk 0 0) (GT122.mk 0 0) (GT122.mk 0 1) false false) (zm.mk (GT122.mk 1 50) (GT122.mk 0 0) (GT122.mk 0 0) (GT122.mk 0 50) false false) (zm.mk (GT122.mk 0 0) (GT122.mk 0 0) (GT122.mk 1 50) (GT122.mk 0 0) false false) (zm.mk (GT122.mk 0 0) (GT122.mk 0 0) (GT122.mk 1 50) (GT122.mk 0 0) false false) (zm.mk (GT122.mk 0 0) (GT122.mk 0 0) (GT122.mk 3 3) (GT122.mk 0 0) false false) (zm.mk (GT122.mk 0 0) (GT122.mk 0 0) (GT122.mk 1 1) (GT122.mk 0 0) false false) (zm.mk (GT122.mk 0 0) (GT122.mk 2 2) (GT122.mk 1 2) (GT122.mk 0 0) false false) (zm.mk (GT122.mk 1 1) (GT122.mk 0 0) (GT122.mk 0 0) (GT122.mk 0 0) false false) (zm.mk (GT122.mk 1 1) (GT122.mk 0 0) (GT122.mk 0 0) (GT122.mk 0 0) false false) (zm.mk (GT122.mk 0 0) (GT122.mk 0 0) (GT122.mk 0 0) (GT122.mk 0 0) false false))
def zea (t:Tab) (n:Nat):Int→GT122→Option Bool
 | a1,⟨a2,a3⟩=>
 if (decide (a1≥a2))=true then
 some (decide (a1≤a3))
 else
 some false
def zB (t:Tab) (n:Nat):(List ByteArray)→Option Bool
 | a1=>
 (match t.zan a1 with
 | some a2=>
 some (decide (a2≥0))
 | none=>none)
def zch (t:Tab) (n:Nat):zh→Option Int
 | ⟨a1,a2,a3,a4,a5⟩=>
 (match t.zbD (zh.mk a1 a2 a3 a4 a5) 1 with
 | some a6=>
 if a6=true then
 some 0
 else
 some 2
 | none=>none)
def zds (t:Tab) (n:Nat):GPred→Option Int
 | ⟨a1,a2,a3⟩=>
 (match t.zcO (GPred.mk a1 a2 a3) 1 with
 | some a4=>
 if a4=true then
 some 0
 else
 some 2
 | none=>none)
def zcq (t:Tab) (n:Nat):Nat→(List ByteArray)→(List ByteArray)→Int→Int→Option (Bool⊕((List ByteArray) × (List ByteArray) × Int × Int × Bool))
 | 0,_,_,_,_=>none
 | k+1,a1,a2,a3,a4=>
 if (decide (a4 < a3))=true then
 if (decide (0≤(a4:Int)))=true then
 (match a2[(a4:Int).toNat]? with
 | some a5=>
 if (decide (0≤(0:Int)∧(0:Int)≤(a4:Int)∧(a4:Int)≤(a1.length:Int)))=true then
 (match t.slices_Contains_string ((a1.take (a4:Int).toNat).drop (0:Int).toNat) a5 with
 | some a6=>
 if a6=true then
 some (.inl true)
 else
 zcq t n k a1 a2 a3 (IntKind.wrap .i64 (a4+1))
 | none=>none)
 else none
 | none=>none)
 else none
 else
 some (.inr (a1,a2,a3,a4,(decide (a4 < a3))))
def zcN (t:Tab) (n:Nat):(List ByteArray)→Option Bool
 | a1=>
 (match zcq t n n a1 a1 (a1.length:Int) 0 with
 | some (.inl a2)=>
 some a2
 | some (.inr (a3,a4,a5,a6,a7))=>
 some false
 | none=>none)
def zc4 (t:Tab) (n:Nat):GPred→Option Bool
 | ⟨a1,a2,a3⟩=>
 if (a1==0)=true then
 some ((IntKind.wrap .i64 ((a2.length:Int)+(a3.length:Int)))==0)
 else
 some false
def zaq (t:Tab) (n:Nat) (a1:Bool) (a2:Int) (a3:List ByteArray) (a4:List Int) (a5 a6:Int) (a7:ByteArray) (a8 a9:List zh) (a10:Int) (a11:List zh) (a12:List GPred) (a13:List (List GStep)) (a14:List GBy) (a15:List ByteArray):Option (Bool⊕Unit):=
 if a1=true then
 if (a2==21)=true then
 some (.inl true)
 else
 (match t.zK a4 with
 | some a16=>
 some (.inl (!a16))
 | none=>none)
 else
 some (.inr ())
def zbX (t:Tab) (n:Nat):GStep→Option Bool
 | ⟨a1,a2,a3,⟨a4,a5,a6,a7,a8⟩,⟨a9,a10,a11⟩,a12,a13,a14⟩=>
 if (a1==24)=true then
 if (decide (0≤(0:Int)))=true then
 (match a3[(0:Int).toNat]? with
 | some a15=>
 if (decide (a15≥0))=true then
 if (decide (0≤(1:Int)))=true then
 (match a3[(1:Int).toNat]? with
 | some a16=>
 if (a16==(-1))=true then
 some true
 else
 some (decide (a16≥a15))
 | none=>none)
 else none
 else
 some false
 | none=>none)
 else none
 else
 if (a1==48)=true then
 if (decide (0≤(0:Int)))=true then
 (match a3[(0:Int).toNat]? with
 | some a17=>
 if (decide (a17≥(-1)))=true then
 if (decide (0≤(1:Int)))=true then
 (match a3[(1:Int).toNat]? with
 | some a18=>
 if (decide (a18≥0))=true then
 if (decide (a18≤1))=true then
 if ((a12.length:Int)==2)=true then
 some true
 else
 some (decide (a17≥0))
 else
 some false
 else
 some false
 | none=>none)
 else none
 else
 some false
 | none=>none)
 else none
 else
 if (a1==1)=true then
 (match zaq t n (a1==1) a1 a2 a3 a4 a5 a6 a7 a8 a9 a10 a11 a12 a13 a14 with
 | some (.inl a19)=>
 some a19
 | some (.inr ())=>
 some true
 | none=>none)
 else
 if (a1==2)=true then
 (match zaq t n (a1==2) a1 a2 a3 a4 a5 a6 a7 a8 a9 a10 a11 a12 a13 a14 with
 | some (.inl a20)=>
 some a20
 | some (.inr ())=>
 some true
 | none=>none)
 else
 if (a1==21)=true then
 (match zaq t n (a1==21) a1 a2 a3 a4 a5 a6 a7 a8 a9 a10 a11 a12 a13 a14 with
 | some (.inl a21)=>
 some a21
 | some (.inr ())=>
 some true
 | none=>none)
 else
 (match zaq t n (a1==25) a1 a2 a3 a4 a5 a6 a7 a8 a9 a10 a11 a12 a13 a14 with
 | some (.inl a22)=>
 some a22
 | some (.inr ())=>
 some true
 | none=>none)
def zbV (t:Tab) (n:Nat) (a1 a2:Int) (a3:ByteArray) (a4:List GStep) (a5:Bool):Option Bool:=
 if (a2==1)=true then
 some true
 else
 if (a2==2)=true then
 t.zdt a3
 else
 if (a2==3)=true then
 t.za9 a4 (IntKind.wrap .i64 (a1+1))
 else
 some false
def zet (t:Tab) (n:Nat):GBy→Bool→Int→Option Bool
 | ⟨a1,a2,a3,a4⟩,a5,a6=>
 if a4=true then
 if a5=true then
 if (a1 !=2)=true then
 if (a2.toList==(ByteArray.mk #[]).toList)=true then
 if (a1 !=3)=true then
 if (decide ((a3.length:Int) > 0))=true then
 some false
 else
 zbV t n a6 a1 a2 a3 a4
 else
 zbV t n a6 a1 a2 a3 a4
 else
 some false
 else
 if (a1 !=3)=true then
 if (decide ((a3.length:Int) > 0))=true then
 some false
 else
 zbV t n a6 a1 a2 a3 a4
 else
 zbV t n a6 a1 a2 a3 a4
 else
 some false
 else
 if (a1 !=2)=true then
 if (a2.toList==(ByteArray.mk #[]).toList)=true then
 if (a1 !=3)=true then
 if (decide ((a3.length:Int) > 0))=true then
 some false
 else
 zbV t n a6 a1 a2 a3 a4
 else
 zbV t n a6 a1 a2 a3 a4
 else
 some false
 else
 if (a1 !=3)=true then
 if (decide ((a3.length:Int) > 0))=true then
 some false
 else
 zbV t n a6 a1 a2 a3 a4
 else
 zbV t n a6 a1 a2 a3 a4
def zd0 (t:Tab) (n:Nat) (a1 a2:Int) (a3:ByteArray) (a4 a5:List zh) (a6 a7:Int) (a8:ByteArray) (a9 a10:List zh) (a11:Int):Option Int:=
 (match t.zL a4 a9 a11 with
 | some a12=>
 (match t.zL a5 a10 a11 with
 | some a13=>
 t.zdX ([a12,a13]:List Int)
 | none=>none)
 | none=>none)
def zbC (t:Tab) (n:Nat):zh→zh→Int→Option Int
 | ⟨a1,a2,a3,a4,a5⟩,⟨a6,a7,a8,a9,a10⟩,a11=>
 (match t.cmp_Compare_int a1 a6 with
 | some a12=>
 (match t.cmp_Compare_int a2 a7 with
 | some a13=>
 (match t.strings_Compare a3 a8 with
 | some a14=>
 (match t.zdX ([a12,a13,a14]:List Int)with
 | some a15=>
 if (a15 !=0)=true then
 some a15
 else
 if (decide (a11 > 12))=true then
 some a15
 else
 zd0 t n a1 a2 a3 a4 a5 a6 a7 a8 a9 a10 a11
 | none=>none)
 | none=>none)
 | none=>none)
 | none=>none)
def zU (t:Tab) (n:Nat):Nat→(List ByteArray)→Int→Int→Option (Int⊕((List ByteArray) × Int × Int × Bool))
 | 0,_,_,_=>none
 | k+1,a1,a2,a3=>
 if (decide (a3 < a2))=true then
 if (decide (0≤(a3:Int)))=true then
 (match a1[(a3:Int).toNat]? with
 | some a4=>
 (match t.zdm a4 with
 | some a5=>
 if a5=true then
 some (.inl a3)
 else
 zU t n k a1 a2 (IntKind.wrap .i64 (a3+1))
 | none=>none)
 | none=>none)
 else none
 else
 some (.inr (a1,a2,a3,(decide (a3 < a2))))
def zan (t:Tab) (n:Nat):(List ByteArray)→Option Int
 | a1=>
 (match zU t n n a1 (a1.length:Int) 0 with
 | some (.inl a2)=>
 some a2
 | some (.inr (a3,a4,a5,a6))=>
 some (-1)
 | none=>none)
def zaL (t:Tab) (n:Nat):Nat→Int→(List zh)→Int→Int→Int→Int→ByteArray→(List zh)→(List zh)→Option (Bool⊕(Int × (List zh) × Int × Int × Bool × Int × Int × ByteArray × (List zh) × (List zh)))
 | 0,_,_,_,_,_,_,_,_,_=>none
 | k+1,a1,a2,a3,a4,a5,a6,a7,a8,a9=>
 if (decide (a4 < a3))=true then
 if (decide (0≤(a4:Int)))=true then
 (match a2[(a4:Int).toNat]? with
 | some ⟨a10,a11,a12,a13,a14⟩=>
 (match t.zbD (zh.mk a10 a11 a12 a13 a14) (IntKind.wrap .i64 (a1+1))with
 | some a15=>
 if a15=true then
 if (a5==7)=true then
 if (decide (a4 > 0))=true then
 if (decide (a4 < (a8.length:Int)))=true then
 if (decide (0≤((IntKind.wrap .i64 (a4-1)):Int)))=true then
 (match a8[((IntKind.wrap .i64 (a4-1)):Int).toNat]? with
 | some ⟨a16,a17,a18,a19,a20⟩=>
 (match t.zee (zh.mk a16 a17 a18 a19 a20) (zh.mk a10 a11 a12 a13 a14)with
 | some a21=>
 if (decide (a21≥0))=true then
 some (.inl false)
 else
 zaL t n k a1 a2 a3 (IntKind.wrap .i64 (a4+1)) a5 a6 a7 a8 a9
 | none=>none)
 | none=>none)
 else none
 else
 zaL t n k a1 a2 a3 (IntKind.wrap .i64 (a4+1)) a5 a6 a7 a8 a9
 else
 zaL t n k a1 a2 a3 (IntKind.wrap .i64 (a4+1)) a5 a6 a7 a8 a9
 else
 zaL t n k a1 a2 a3 (IntKind.wrap .i64 (a4+1)) a5 a6 a7 a8 a9
 else
 some (.inl false)
 | none=>none)
 | none=>none)
 else none
 else
 some (.inr (a1,a2,a3,a4,(decide (a4 < a3)),a5,a6,a7,a8,a9))
def zbj (t:Tab) (n:Nat) (a1 a2 a3:Int) (a4:ByteArray) (a5 a6:List zh):Option Bool:=
 (match t.zaC ([a5,a6]:List (List zh))with
 | some a7=>
 (match zaL t n n a1 a7 (a7.length:Int) 0 a2 a3 a4 a5 a6 with
 | some (.inl a8)=>
 some a8
 | some (.inr (a9,a10,a11,a12,a13,a14,a15,a16,a17,a18))=>
 some true
 | none=>none)
 | none=>none)
def zci (t:Tab) (n:Nat) (a1 a2 a3:Int) (a4:ByteArray) (a5 a6:List zh):Option Bool:=
 if (decide ((a5.length:Int) > 1000))=true then
 some false
 else
 if (a2==7)=true then
 if ((a6.length:Int) !=(a5.length:Int))=true then
 some false
 else
 if (a2 !=7)=true then
 if (decide ((a6.length:Int) > 0))=true then
 some false
 else
 zbj t n a1 a2 a3 a4 a5 a6
 else
 zbj t n a1 a2 a3 a4 a5 a6
 else
 if (a2 !=7)=true then
 if (decide ((a6.length:Int) > 0))=true then
 some false
 else
 zbj t n a1 a2 a3 a4 a5 a6
 else
 zbj t n a1 a2 a3 a4 a5 a6
def zbW (t:Tab) (n:Nat) (a1:Int) (a2 a3:Bool) (a4 a5:Int) (a6:ByteArray) (a7 a8:List zh):Option Bool:=
 if a3=true then
 if (decide ((a6.size:Int) > 1000))=true then
 some false
 else
 if (a5 !=0)=true then
 some false
 else
 if a2=true then
 zci t n a1 a4 a5 a6 a7 a8
 else
 if (decide ((IntKind.wrap .i64 ((a7.length:Int)+(a8.length:Int))) > 0))=true then
 some false
 else
 zci t n a1 a4 a5 a6 a7 a8
 else
 if (a6.toList==(ByteArray.mk #[]).toList)=true then
 if (decide ((a6.size:Int) > 1000))=true then
 some false
 else
 if a2=true then
 if (a5 !=0)=true then
 some false
 else
 zci t n a1 a4 a5 a6 a7 a8
 else
 if (decide ((IntKind.wrap .i64 ((a7.length:Int)+(a8.length:Int))) > 0))=true then
 some false
 else
 zci t n a1 a4 a5 a6 a7 a8
 else
 some false
def zaQ (t:Tab) (n:Nat) (a1:Int) (a2 a3:Bool) (a4:Int) (a5:Bool) (a6 a7:Int) (a8:ByteArray) (a9 a10:List zh):Option (Bool⊕(Int × Bool × Bool × Int × Int × ByteArray × (List zh) × (List zh))):=
 if a5=true then
 if (decide (a7 < 0))=true then
 some (.inl false)
 else
 some (.inr (a1,a2,a3,a6,a7,a8,a9,a10))
 else
 if (a4==3)=true then
 some (.inr (a1,a2,true,a6,a7,a8,a9,a10))
 else
 if (a4==6)=true then
 some (.inr (a1,true,a3,a6,a7,a8,a9,a10))
 else
 if (a4==8)=true then
 some (.inr (a1,true,a3,a6,a7,a8,a9,a10))
 else
 if (a4==7)=true then
 some (.inr (a1,true,a3,a6,a7,a8,a9,a10))
 else
 some (.inl false)
def zbD (t:Tab) (n:Nat):zh→Int→Option Bool
 | ⟨a1,a2,a3,a4,a5⟩,a6=>
 if (decide (a6 > 12))=true then
 some false
 else
 if (a1==1)=true then
 if (decide (a2 < 0))=true then
 some false
 else
 if (decide (a2 > 1))=true then
 some false
 else
 zbW t n a6 false false a1 a2 a3 a4 a5
 else
 if (a1==2)=true then
 zbW t n a6 false false a1 a2 a3 a4 a5
 else
 if (a1==4)=true then
 (match zaQ t n a6 false false a1 (a1==4) a1 a2 a3 a4 a5 with
 | some (.inl a9)=>
 some a9
 | some (.inr (a10,a11,a12,a13,a14,a15,a16,a17))=>
 zbW t n a10 a11 a12 a13 a14 a15 a16 a17
 | none=>none)
 else
 (match zaQ t n a6 false false a1 (a1==5) a1 a2 a3 a4 a5 with
 | some (.inl a19)=>
 some a19
 | some (.inr (a20,a21,a22,a23,a24,a25,a26,a27))=>
 zbW t n a20 a21 a22 a23 a24 a25 a26 a27
 | none=>none)
def zeg (t:Tab) (n:Nat) (a1:Int) (a2:List zh) (a3:List GPred) (a4:Int):Option Bool:=
 (match t.zR a3 a4 with
 | some a5=>
 if a5=true then
 some false
 else
 (match t.zY a2 with
 | some a6=>
 some (!a6)
 | none=>none)
 | none=>none)
def zcO (t:Tab) (n:Nat):GPred→Int→Option Bool
 | ⟨a1,a2,a3⟩,a4=>
 (match t.zcP a1 with
 | some (a5,a6,a7,a8)=>
 if (decide (a4 > 12))=true then
 some false
 else
 if (decide ((a2.length:Int) < a5))=true then
 some false
 else
 if (decide ((a2.length:Int) > a6))=true then
 some false
 else
 if (decide ((a3.length:Int) < a7))=true then
 some false
 else
 if (decide ((a3.length:Int) > a8))=true then
 some false
 else
 zeg t n a1 a2 a3 a4
 | none=>none)
def slices_Contains_string (t:Tab) (n:Nat):(List ByteArray)→ByteArray→Option Bool
 | a1,a2=>
 (match t.slices_Index_string a1 a2 with
 | some a3=>
 some (decide (a3≥0))
 | none=>none)
def zK (t:Tab) (n:Nat):(List Int)→Option Bool
 | a1=>
 (match t.zad a1 with
 | some a2=>
 some (decide (a2≥0))
 | none=>none)
def zcr (t:Tab) (n:Nat):Nat→ByteArray→Int→Int→Option (Bool⊕(ByteArray × Int × Int × Bool))
 | 0,_,_,_=>none
 | k+1,a1,a2,a3=>
 if (decide (a3 < a2))=true then
 (match strAt a1 a3 with
 | some a4=>
 (match t.zdD a4 (a3==0)with
 | some a5=>
 if a5=true then
 zcr t n k a1 a2 (IntKind.wrap .i64 (a3+1))
 else
 some (.inl false)
 | none=>none)
 | none=>none)
 else
 some (.inr (a1,a2,a3,(decide (a3 < a2))))
def zez (t:Tab) (n:Nat) (a1:ByteArray):Option Bool:=
 if (a1.toList==(ByteArray.mk #[]).toList)=true then
 some false
 else
 some (decide ((a1.size:Int)≤40))
def zdt (t:Tab) (n:Nat):ByteArray→Option Bool
 | a1=>
 (match zcr t n n a1 (a1.size:Int) 0 with
 | some (.inl a2)=>
 some a2
 | some (.inr (a3,a4,a5,a6))=>
 zez t n a3
 | none=>none)
def cmp_Compare_int (t:Tab) (n:Nat):Int→Int→Option Int
 | a1,a2=>
 (match t.cmp_isNaN_int a1 with
 | some a3=>
 (match t.cmp_isNaN_int a2 with
 | some a4=>
 if a3=true then
 if a4=true then
 some 0
 else
 some (-1)
 else
 if a4=true then
 some 1
 else
 if (decide (a1 < a2))=true then
 some (-1)
 else
 if (decide (a1 > a2))=true then
 some 1
 else
 some 0
 | none=>none)
 | none=>none)
def strings_Compare (t:Tab) (n:Nat):ByteArray→ByteArray→Option Int
 | a1,a2=>
 t.bytealg_CompareString a1 a2
def zcs (t:Tab) (n:Nat):Nat→Int→(List Int)→Int→Int→Option (Int⊕(Int × (List Int) × Int × Int × Bool))
 | 0,_,_,_,_=>none
 | k+1,a1,a2,a3,a4=>
 if (decide (a4 < a3))=true then
 if (decide (0≤(a4:Int)))=true then
 (match a2[(a4:Int).toNat]? with
 | some a5=>
 if (a5 !=a1)=true then
 some (.inl a5)
 else
 zcs t n k a1 a2 a3 (IntKind.wrap .i64 (a4+1))
 | none=>none)
 else none
 else
 some (.inr (a1,a2,a3,a4,(decide (a4 < a3))))
def zdX (t:Tab) (n:Nat):(List Int)→Option Int
 | a1=>
 (match zcs t n n 0 a1 (a1.length:Int) 0 with
 | some (.inl a2)=>
 some a2
 | some (.inr (a3,a4,a5,a6,a7))=>
 some a3
 | none=>none)
def zG (t:Tab) (n:Nat):Nat→(List zh)→(List zh)→Int→(List zh)→Int→Int→Option (Int⊕((List zh) × (List zh) × Int × (List zh) × Int × Int × Bool))
 | 0,_,_,_,_,_,_=>none
 | k+1,a1,a2,a3,a4,a5,a6=>
 if (decide (a6 < a5))=true then
 if (decide (0≤(a6:Int)))=true then
 (match a4[(a6:Int).toNat]? with
 | some ⟨a7,a8,a9,a10,a11⟩=>
 if (decide (a6≥(a2.length:Int)))=true then
 some (.inl 1)
 else
 (match a2[(a6:Int).toNat]? with
 | some ⟨a12,a13,a14,a15,a16⟩=>
 (match t.za2 (zh.mk a7 a8 a9 a10 a11) (zh.mk a12 a13 a14 a15 a16) a3 with
 | some a17=>
 if (a17 !=0)=true then
 some (.inl a17)
 else
 zG t n k a1 a2 a3 a4 a5 (IntKind.wrap .i64 (a6+1))
 | none=>none)
 | none=>none)
 | none=>none)
 else none
 else
 some (.inr (a1,a2,a3,a4,a5,a6,(decide (a6 < a5))))
def zax (t:Tab) (n:Nat) (a1 a2:List zh):Option Int:=
 if (decide ((a1.length:Int) < (a2.length:Int)))=true then
 some (-1)
 else
 some 0
def zL (t:Tab) (n:Nat):(List zh)→(List zh)→Int→Option Int
 | a1,a2,a3=>
 (match zG t n n a1 a2 a3 a1 (a1.length:Int) 0 with
 | some (.inl a4)=>
 some a4
 | some (.inr (a5,a6,a7,a8,a9,a10,a11))=>
 zax t n a5 a6
 | none=>none)
def zdm (t:Tab) (n:Nat):ByteArray→Option Bool
 | a1=>
 (match t.zdt a1 with
 | some a2=>
 some (!a2)
 | none=>none)
def zaY (t:Tab) (n:Nat):Nat→(List (List zh))→Int→(List (List zh))→Int→Int→Option ((List (List zh)) × Int × (List (List zh)) × Int × Int × Bool)
 | 0,_,_,_,_,_=>none
 | k+1,a1,a2,a3,a4,a5=>
 if (decide (a5 < a4))=true then
 if (decide (0≤(a5:Int)))=true then
 (match a3[(a5:Int).toNat]? with
 | some a6=>
 if (decide ((IntKind.wrap .i64 (a2+(a6.length:Int))) < 0))=true then
 none
 else
 zaY t n k a1 (IntKind.wrap .i64 (a2+(a6.length:Int))) a3 a4 (IntKind.wrap .i64 (a5+1))
 | none=>none)
 else none
 else
 some (a1,a2,a3,a4,a5,(decide (a5 < a4)))
def zaZ (t:Tab) (n:Nat):Nat→(List zh)→(List (List zh))→Int→Int→Option ((List zh) × (List (List zh)) × Int × Int × Bool)
 | 0,_,_,_,_=>none
 | k+1,a1,a2,a3,a4=>
 if (decide (a4 < a3))=true then
 if (decide (0≤(a4:Int)))=true then
 (match a2[(a4:Int).toNat]? with
 | some a5=>
 if (a1.length+a5.length) * 80≤140737488355328 then
 zaZ t n k (a1++a5) a2 a3 (IntKind.wrap .i64 (a4+1))
 else none
 | none=>none)
 else none
 else
 some (a1,a2,a3,a4,(decide (a4 < a3)))
def zcj (t:Tab) (n:Nat) (a1:List (List zh)) (a2:Int):Option (List zh):=
 (match t.zeN ([]:List zh) a2 with
 | some a3=>
 (match zaZ t n n a3 a1 (a1.length:Int) 0 with
 | some (a4,a5,a6,a7,a8)=>
 some a4
 | none=>none)
 | none=>none)
def zaC (t:Tab) (n:Nat):(List (List zh))→Option (List zh)
 | a1=>
 (match zaY t n n a1 0 a1 (a1.length:Int) 0 with
 | some (a2,a3,a4,a5,a6,a7)=>
 zcj t n a2 a3
 | none=>none)
def zcV (t:Tab) (n:Nat) (a1:Int) (a2:Bool):Option ((Int × Int × Int × Int)⊕Unit):=
 if a2=true then
 some (.inl (0,1000,0,0))
 else
 if (a1==12)=true then
 some (.inl (0,0,1,1))
 else
 if (a1==13)=true then
 some (.inl (0,0,2,1000))
 else
 if (a1==14)=true then
 some (.inl (0,0,2,1000))
 else
 some (.inr ())
def zcW (t:Tab) (n:Nat) (a1:Int) (a2:Bool):Option ((Int × Int × Int × Int)⊕Unit):=
 if a2=true then
 some (.inl (2,2,0,0))
 else
 if (a1==10)=true then
 zcV t n a1 true
 else
 zcV t n a1 (a1==11)
def zbn (t:Tab) (n:Nat) (a1:Int) (a2:Bool):Option ((Int × Int × Int × Int)⊕Unit):=
 if a2=true then
 some (.inl (1,1,0,0))
 else
 if (decide (a1≥7))=true then
 zcW t n a1 (decide (a1≤9))
 else
 zcW t n a1 false
def zcP (t:Tab) (n:Nat):Int→Option (Int × Int × Int × Int)
 | a1=>
 if (decide (a1≥1))=true then
 (match zbn t n a1 (decide (a1≤6))with
 | some (.inl (a2,a3,a4,a5))=>
 some (a2,a3,a4,a5)
 | some (.inr ())=>
 some (1,0,1,0)
 | none=>none)
 else
 (match zbn t n a1 false with
 | some (.inl (a6,a7,a8,a9))=>
 some (a6,a7,a8,a9)
 | some (.inr ())=>
 some (1,0,1,0)
 | none=>none)
def zR (t:Tab) (n:Nat):(List GPred)→Int→Option Bool
 | a1,a2=>
 (match t.zak a1 a2 with
 | some a3=>
 some (decide (a3≥0))
 | none=>none)
def zY (t:Tab) (n:Nat):(List zh)→Option Bool
 | a1=>
 (match t.zal a1 with
 | some a2=>
 some (decide (a2≥0))
 | none=>none)
def zav (t:Tab) (n:Nat):Nat→(List ByteArray)→ByteArray→Int→Int→Option (Int⊕((List ByteArray) × ByteArray × Int × Int × Bool))
 | 0,_,_,_,_=>none
 | k+1,a1,a2,a3,a4=>
 if (decide (a4 < a3))=true then
 if (decide (0≤(a4:Int)))=true then
 (match a1[(a4:Int).toNat]? with
 | some a5=>
 if (a2.toList==a5.toList)=true then
 some (.inl a4)
 else
 zav t n k a1 a2 a3 (IntKind.wrap .i64 (a4+1))
 | none=>none)
 else none
 else
 some (.inr (a1,a2,a3,a4,(decide (a4 < a3))))
def slices_Index_string (t:Tab) (n:Nat):(List ByteArray)→ByteArray→Option Int
 | a1,a2=>
 (match zav t n n a1 a2 (a1.length:Int) 0 with
 | some (.inl a3)=>
 some a3
 | some (.inr (a4,a5,a6,a7,a8))=>
 some (-1)
 | none=>none)
def zM (t:Tab) (n:Nat):Nat→(List Int)→Int→Int→Option (Int⊕((List Int) × Int × Int × Bool))
 | 0,_,_,_=>none
 | k+1,a1,a2,a3=>
 if (decide (a3 < a2))=true then
 if (decide (0≤(a3:Int)))=true then
 (match a1[(a3:Int).toNat]? with
 | some a4=>
 (match t.zbA a4 with
 | some a5=>
 if a5=true then
 some (.inl a3)
 else
 zM t n k a1 a2 (IntKind.wrap .i64 (a3+1))
 | none=>none)
 | none=>none)
 else none
 else
 some (.inr (a1,a2,a3,(decide (a3 < a2))))
def zad (t:Tab) (n:Nat):(List Int)→Option Int
 | a1=>
 (match zM t n n a1 (a1.length:Int) 0 with
 | some (.inl a2)=>
 some a2
 | some (.inr (a3,a4,a5,a6))=>
 some (-1)
 | none=>none)
def zaM (t:Tab) (n:Nat) (a1:Int) (a2 a3:Bool):Option (Int × Bool × Bool):=
 if a3=true then
 some (a1,a2,a3)
 else
 if (decide (a1≥65))=true then
 if (decide (a1≤90))=true then
 some (a1,a2,(decide (a1≤90)))
 else
 some (a1,a2,(a1==95))
 else
 some (a1,a2,(a1==95))
def zaN (t:Tab) (n:Nat) (a1:Int) (a2 a3:Bool):Option (Bool⊕Unit):=
 if a3=true then
 some (.inl true)
 else
 if (decide (a1≥48))=true then
 if (decide (a1≤57))=true then
 some (.inl (!a2))
 else
 some (.inr ())
 else
 some (.inr ())
def zdD (t:Tab) (n:Nat):Int→Bool→Option Bool
 | a1,a2=>
 if (decide (a1≥97))=true then
 (match zaM t n a1 a2 (decide (a1≤122))with
 | some (a3,a4,a5)=>
 (match zaN t n a3 a4 a5 with
 | some (.inl a6)=>
 some a6
 | some (.inr ())=>
 some false
 | none=>none)
 | none=>none)
 else
 (match zaM t n a1 a2 false with
 | some (a7,a8,a9)=>
 (match zaN t n a7 a8 a9 with
 | some (.inl a10)=>
 some a10
 | some (.inr ())=>
 some false
 | none=>none)
 | none=>none)
def cmp_isNaN_int (t:Tab) (n:Nat):Int→Option Bool
 | a1=>
 some (a1 !=a1)
def za2 (t:Tab) (n:Nat):zh→zh→Int→Option Int
 | ⟨a1,a2,a3,a4,a5⟩,⟨a6,a7,a8,a9,a10⟩,a11=>
 t.zbC (zh.mk a1 a2 a3 a4 a5) (zh.mk a6 a7 a8 a9 a10) (IntKind.wrap .i64 (a11+1))
def zS (t:Tab) (n:Nat):Nat→(List GPred)→Int→Int→Int→Option (Int⊕((List GPred) × Int × Int × Int × Bool))
 | 0,_,_,_,_=>none
 | k+1,a1,a2,a3,a4=>
 if (decide (a4 < a3))=true then
 if (decide (0≤(a4:Int)))=true then
 (match a1[(a4:Int).toNat]? with
 | some ⟨a5,a6,a7⟩=>
 (match t.zcx (GPred.mk a5 a6 a7) a2 with
 | some a8=>
 if a8=true then
 some (.inl a4)
 else
 zS t n k a1 a2 a3 (IntKind.wrap .i64 (a4+1))
 | none=>none)
 | none=>none)
 else none
 else
 some (.inr (a1,a2,a3,a4,(decide (a4 < a3))))
def zak (t:Tab) (n:Nat):(List GPred)→Int→Option Int
 | a1,a2=>
 (match zS t n n a1 a2 (a1.length:Int) 0 with
 | some (.inl a3)=>
 some a3
 | some (.inr (a4,a5,a6,a7,a8))=>
 some (-1)
 | none=>none)
def zT (t:Tab) (n:Nat):Nat→(List zh)→Int→Int→Option (Int⊕((List zh) × Int × Int × Bool))
 | 0,_,_,_=>none
 | k+1,a1,a2,a3=>
 if (decide (a3 < a2))=true then
 if (decide (0≤(a3:Int)))=true then
 (match a1[(a3:Int).toNat]? with
 | some ⟨a4,a5,a6,a7,a8⟩=>
 (match t.zcy (zh.mk a4 a5 a6 a7 a8)with
 | some a9=>
 if a9=true then
 some (.inl a3)
 else
 zT t n k a1 a2 (IntKind.wrap .i64 (a3+1))
 | none=>none)
 | none=>none)
 else none
 else
 some (.inr (a1,a2,a3,(decide (a3 < a2))))
def zal (t:Tab) (n:Nat):(List zh)→Option Int
 | a1=>
 (match zT t n n a1 (a1.length:Int) 0 with
 | some (.inl a2)=>
 some a2
 | some (.inr (a3,a4,a5,a6))=>
 some (-1)
 | none=>none)
def zbA (t:Tab) (n:Nat):Int→Option Bool
 | a1=>
 some (decide (a1 < 0))
def zcx (t:Tab) (n:Nat):GPred→Int→Option Bool
 | ⟨a1,a2,a3⟩,a4=>
 (match t.zcO (GPred.mk a1 a2 a3) (IntKind.wrap .i64 (a4+1))with
 | some a5=>
 some (!a5)
 | none=>none)
def zcy (t:Tab) (n:Nat):zh→Option Bool
 | ⟨a1,a2,a3,a4,a5⟩=>
 (match t.zch (zh.mk a1 a2 a3 a4 a5)with
 | some a6=>
 some (a6 !=0)
 | none=>none)
def tab:Nat→Tab
 | 0=>⟨fun _ _=>none,
 fun _=>none,
 none,
 fun _=>none,
 fun _=>none,
 fun _=>none,
 fun _=>none,
 fun _ _ _=>none,
 fun _=>none,
 fun _ _=>none,
 fun _=>none,
 fun _ _=>none,
 fun _ _=>none,
 fun _ _ _=>none,
 fun _ _=>none,
 fun _=>none,
 fun _=>none,
 fun _ _=>none,
 fun _ _=>none,
 fun _ _=>none,
 fun _=>none,
 fun _ _=>none,
 fun _ _=>none,
 fun _ _=>none,
 fun _ _=>none,
 fun _ _=>none,
 fun _ _=>none,
 fun _=>none,
 fun _=>none,
 fun _=>none,
 fun _=>none,
 fun _=>none,
 fun _ _ _=>none,
 fun _=>none,
 fun _ _=>none,
 fun _ _=>none,
 fun _ _=>none,
 fun _ _ _=>none,
 fun _ _=>none,
 fun _ _=>none,
 fun _=>none,
 fun _=>none,
 fun _=>none,
 fun _ _=>none,
 fun _ _=>none,
 fun _ _ _=>none,
 fun _ _=>none,
 fun _=>none,
 fun _=>none,
 fun _=>none,
 fun _=>none,
 fun _ _=>none,
 fun _ _=>none,
 fun _ _=>none,
 fun _ _ _=>none,
 fun _ _=>none,
 fun _=>none,
 fun _ _=>none,
 fun _=>none,
 fun _ _=>none,
 fun _ _=>none,
 fun _ _=>none,
 fun _ _=>none,
 fun _=>none,
 fun _ _=>none,
 fun _ _=>none,
 fun _ _=>none,
 fun _ _=>none,
 fun _ _=>none,
 fun _ _=>none,
 fun _ _=>none,
 fun _ _=>none,
 fun _ _=>none,
 fun _ _=>none,
 fun _ _=>none,
 fun _=>none,
 none,
 fun _ _=>none,
 fun _=>none,
 fun _=>none,
 fun _=>none,
 fun _=>none,
 fun _=>none,
 fun _=>none,
 fun _ _ _=>none,
 fun _ _ _=>none,
 fun _=>none,
 fun _ _=>none,
 fun _ _=>none,
 fun _ _=>none,
 fun _=>none,
 fun _=>none,
 fun _ _=>none,
 fun _ _=>none,
 fun _=>none,
 fun _ _ _=>none,
 fun _=>none,
 fun _=>none,
 fun _=>none,
 fun _ _=>none,
 fun _=>none,
 fun _ _=>none,
 fun _=>none,
 fun _ _=>none,
 fun _=>none,
 fun _ _=>none,
 fun _ _ _=>none,
 fun _ _=>none,
 fun _ _=>none,
 fun _=>none,
 fun _=>none,
 fun _ _=>none,
 fun _=>none⟩
 | n+1=>⟨zbE (tab n) n,
 zdz (tab n) n,
 za5 (tab n) n,
 zdk (tab n) n,
 zbY (tab n) n,
 zdT (tab n) n,
 zbh (tab n) n,
 zb4 (tab n) n,
 zd9 (tab n) n,
 zdM (tab n) n,
 zei (tab n) n,
 zeO (tab n) n,
 zaT (tab n) n,
 zb9 (tab n) n,
 zdn (tab n) n,
 zdo (tab n) n,
 zed (tab n) n,
 zaR (tab n) n,
 zbZ (tab n) n,
 zdl (tab n) n,
 zb0 (tab n) n,
 zaP (tab n) n,
 zcz (tab n) n,
 zcT (tab n) n,
 zcD (tab n) n,
 zb5 (tab n) n,
 zaz (tab n) n,
 zai (tab n) n,
 zbB (tab n) n,
 zce (tab n) n,
 zdB (tab n) n,
 zaU (tab n) n,
 zeb (tab n) n,
 zdN (tab n) n,
 za9 (tab n) n,
 za6 (tab n) n,
 zd6 (tab n) n,
 zaG (tab n) n,
 zbO (tab n) n,
 zd7 (tab n) n,
 zdc (tab n) n,
 zdp (tab n) n,
 zb6 (tab n) n,
 za7 (tab n) n,
 zbp (tab n) n,
 zcK (tab n) n,
 zP (tab n) n,
 fun a=>if decide (a.length * 16≤140737488355328)=true then some a else none,
 fun a=>if decide (a.length * 8≤140737488355328)=true then some a else none,
 zdq (tab n) n,
 zeq (tab n) n,
 zdU (tab n) n,
 zbo (tab n) n,
 zdY (tab n) n,
 zdV (tab n) n,
 zaH (tab n) n,
 zdw (tab n) n,
 zeB (tab n) n,
 zdW (tab n) n,
 zaj (tab n) n,
 zdr (tab n) n,
 zdL (tab n) n,
 zeE (tab n) n,
 fun a=>if decide (a.length * 24≤140737488355328)=true then some a else none,
 zcf (tab n) n,
 zct (tab n) n,
 slices_Equal_string (tab n) n,
 slices_Equal_int (tab n) n,
 zdg (tab n) n,
 zbU (tab n) n,
 zcM (tab n) n,
 zer (tab n) n,
 zee (tab n) n,
 zay (tab n) n,
 zaw (tab n) n,
 zdZ (tab n) n,
 zcX (tab n) n,
 zea (tab n) n,
 zB (tab n) n,
 zch (tab n) n,
 zds (tab n) n,
 zcN (tab n) n,
 zc4 (tab n) n,
 zbX (tab n) n,
 zet (tab n) n,
 zbC (tab n) n,
 zan (tab n) n,
 zbD (tab n) n,
 zcO (tab n) n,
 slices_Contains_string (tab n) n,
 zK (tab n) n,
 zdt (tab n) n,
 cmp_Compare_int (tab n) n,
 strings_Compare (tab n) n,
 zdX (tab n) n,
 zL (tab n) n,
 zdm (tab n) n,
 zaC (tab n) n,
 zcP (tab n) n,
 zR (tab n) n,
 zY (tab n) n,
 slices_Index_string (tab n) n,
 zad (tab n) n,
 zdD (tab n) n,
 cmp_isNaN_int (tab n) n,
 fun a b=>some (Lib.compareBytes a.data.toList b.data.toList),
 za2 (tab n) n,
 fun a n=>if a.isEmpty=true then if decide (0≤n∧n * 80≤140737488355328)=true then some ([]:List zh)else none else none,
 zak (tab n) n,
 zal (tab n) n,
 zbA (tab n) n,
 zcx (tab n) n,
 zcy (tab n) n⟩
end Go.Proofs.YtgmidllbkjdnnaaGreatDoor.W
