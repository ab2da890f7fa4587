/- What is told of library functions in another way holds. -/
import Derived.Test.YtgmidllbkjdnnaaGreatDoorL5C
import Derived.Test.YtgmidllbkjdnnaaGreatDoorChecked
import Derived.WalkKit
import Derived.Lib.Bytealg
import Derived.Lib.Walk
import Derived.Lib.SliceRun
import Derived.Lib.AppendZerosOnto
namespace Go.Proofs.YtgmidllbkjdnnaaGreatDoor.W
open Go.Proofs.YtgmidllbkjdnnaaGreatDoor.Flat Go.RowKit Go.Lib
set_option linter.unusedVariables false
set_option linter.unusedSimpArgs false
set_option maxRecDepth 100000
set_option maxHeartbeats 1000000 in
theorem zmG (n c:Nat) (w:World):Calls Tryz.prog 45 #[.slice none n c] w fun e w'=>e=.returned (.slice none 0 0)∧w'=w:=by
  have q:∀(w:World) (a:Option Addr) (n c n' c':Nat),(binOp .eql 38 (.slice a n c) (.slice none n' c')).run Tryz.prog w=.ok (.bool a.isNone) w:=fun w a n c n' c'=>Lib.run_eql_slice_nil w _ _ a n c n' c' Tryz.underlying38
  go_enter Tryz.func45,Tryz.ntmps45
  go_wp2
  go_ret
  exact⟨rfl,rfl⟩
set_option maxHeartbeats 4000000 in
set_option maxRecDepth 100000 in
theorem zlA (ad : Addr) (n c : Nat) (w w' : World) (v : Value) (hr : (Builtin.append_ #[38, 38] 38 #[.slice (some ⟨w.heap.size, 0, none⟩) 0 0, .slice (some ad) n c]).run Tryz.prog (w.alloc (.cells #[] 9)) = .ok v w') :
    Calls Tryz.prog 45 #[.slice (some ad) n c] w fun e w''=>e=.returned v∧w''=w':=by
  have q:∀(w:World) (a:Option Addr) (n c n' c':Nat),(binOp .eql 38 (.slice a n c) (.slice none n' c')).run Tryz.prog w=.ok (.bool a.isNone) w:=fun w a n c n' c'=>Lib.run_eql_slice_nil w _ _ a n c n' c' Tryz.underlying38
  go_enter Tryz.func45,Tryz.ntmps45
  go_wp2_with (at_builtin;refine Lib.wpList_append_run _ rfl _ _ _ _ rfl _ _ rfl rfl _ _ hr ?_)
  go_wp2
  go_ret
  exact⟨rfl,rfl⟩
theorem zqE {xs:List T} (hb:xs.length * 16≤140737488355328):zeQ Tryz.prog 45 [.t (.sl false 1 xs)] [] (.t (.sl true 1 xs)) []:=by
  obtain⟨ti,hti⟩:∃ti,Tryz.prog.info? 9=some ti:=⟨_,rfl⟩
  have e1:(Tryz.prog.info? 9).map (fun i=>(i.size,i.bytes,i.zero.isSome,i.zero.map fun z=>z.cells.size))=some (1,16,true,some 1):=by kernel_rfl
  rw[hti]at e1
  simp only[Option.map_some,Option.some.injEq,Prod.mk.injEq]at e1
  obtain⟨e2,e3,e4,e5⟩:=e1
  obtain⟨z,hz⟩:=Option.isSome_iff_exists.1 e4
  rw[hz]at e5
  simp only[Option.map_some,Option.some.injEq]at e5
  have k:=zjP false (t:=38) (el:=9) (ti:=ti) (z:=z) (xs:=xs) Tryz.func45 (by kernel_rfl) (by kernel_rfl) Tryz.underlying38 hti hz (by omega) (by omega) (by omega) zmG zlA (by rw[e3];exact hb)
  rw[e2]at k
  exact k
set_option maxHeartbeats 1000000 in
theorem zmH (n c:Nat) (w:World):Calls Tryz.prog 46 #[.slice none n c] w fun e w'=>e=.returned (.slice none 0 0)∧w'=w:=by
  have q:∀(w:World) (a:Option Addr) (n c n' c':Nat),(binOp .eql 39 (.slice a n c) (.slice none n' c')).run Tryz.prog w=.ok (.bool a.isNone) w:=fun w a n c n' c'=>Lib.run_eql_slice_nil w _ _ a n c n' c' Tryz.underlying39
  go_enter Tryz.func46,Tryz.ntmps46
  go_wp2
  go_ret
  exact⟨rfl,rfl⟩
set_option maxHeartbeats 4000000 in
set_option maxRecDepth 100000 in
theorem zlB (ad : Addr) (n c : Nat) (w w' : World) (v : Value) (hr : (Builtin.append_ #[39, 39] 39 #[.slice (some ⟨w.heap.size, 0, none⟩) 0 0, .slice (some ad) n c]).run Tryz.prog (w.alloc (.cells #[] 3)) = .ok v w') :
    Calls Tryz.prog 46 #[.slice (some ad) n c] w fun e w''=>e=.returned v∧w''=w':=by
  have q:∀(w:World) (a:Option Addr) (n c n' c':Nat),(binOp .eql 39 (.slice a n c) (.slice none n' c')).run Tryz.prog w=.ok (.bool a.isNone) w:=fun w a n c n' c'=>Lib.run_eql_slice_nil w _ _ a n c n' c' Tryz.underlying39
  go_enter Tryz.func46,Tryz.ntmps46
  go_wp2_with (at_builtin;refine Lib.wpList_append_run _ rfl _ _ _ _ rfl _ _ rfl rfl _ _ hr ?_)
  go_wp2
  go_ret
  exact⟨rfl,rfl⟩
theorem zqF {xs:List T} (hb:xs.length * 8≤140737488355328):zeQ Tryz.prog 46 [.t (.sl false 1 xs)] [] (.t (.sl true 1 xs)) []:=by
  obtain⟨ti,hti⟩:∃ti,Tryz.prog.info? 3=some ti:=⟨_,rfl⟩
  have e1:(Tryz.prog.info? 3).map (fun i=>(i.size,i.bytes,i.zero.isSome,i.zero.map fun z=>z.cells.size))=some (1,8,true,some 1):=by kernel_rfl
  rw[hti]at e1
  simp only[Option.map_some,Option.some.injEq,Prod.mk.injEq]at e1
  obtain⟨e2,e3,e4,e5⟩:=e1
  obtain⟨z,hz⟩:=Option.isSome_iff_exists.1 e4
  rw[hz]at e5
  simp only[Option.map_some,Option.some.injEq]at e5
  have k:=zjP false (t:=39) (el:=3) (ti:=ti) (z:=z) (xs:=xs) Tryz.func46 (by kernel_rfl) (by kernel_rfl) Tryz.underlying39 hti hz (by omega) (by omega) (by omega) zmH zlB (by rw[e3];exact hb)
  rw[e2]at k
  exact k
set_option maxHeartbeats 1000000 in
theorem zlC (n c:Nat) (w:World):Calls Tryz.prog 102 #[.slice none n c] w fun e w'=>e=.returned (.slice none 0 0)∧w'=w:=by
  have q:∀(w:World) (a:Option Addr) (n c n' c':Nat),(binOp .eql 56 (.slice a n c) (.slice none n' c')).run Tryz.prog w=.ok (.bool a.isNone) w:=fun w a n c n' c'=>Lib.run_eql_slice_nil w _ _ a n c n' c' Tryz.underlying56
  go_enter Tryz.func102,Tryz.ntmps102
  go_wp2
  go_ret
  exact⟨rfl,rfl⟩
set_option maxHeartbeats 4000000 in
set_option maxRecDepth 100000 in
theorem zkC (ad : Addr) (n c : Nat) (w w' : World) (v : Value) (hr : (Builtin.append_ #[56, 56] 56 #[.slice (some ⟨w.heap.size, 0, none⟩) 0 0, .slice (some ad) n c]).run Tryz.prog (w.alloc (.cells #[] 22)) = .ok v w') :
    Calls Tryz.prog 102 #[.slice (some ad) n c] w fun e w''=>e=.returned v∧w''=w':=by
  have q:∀(w:World) (a:Option Addr) (n c n' c':Nat),(binOp .eql 56 (.slice a n c) (.slice none n' c')).run Tryz.prog w=.ok (.bool a.isNone) w:=fun w a n c n' c'=>Lib.run_eql_slice_nil w _ _ a n c n' c' Tryz.underlying56
  go_enter Tryz.func102,Tryz.ntmps102
  go_wp2_with (at_builtin;refine Lib.wpList_append_run _ rfl _ _ _ _ rfl _ _ rfl rfl _ _ hr ?_)
  go_wp2
  go_ret
  exact⟨rfl,rfl⟩
theorem zp0 {xs:List T} (hb:xs.length * 24≤140737488355328):zeQ Tryz.prog 102 [.t (.sl false 1 xs)] [] (.t (.sl true 1 xs)) []:=by
  obtain⟨ti,hti⟩:∃ti,Tryz.prog.info? 22=some ti:=⟨_,rfl⟩
  have e1:(Tryz.prog.info? 22).map (fun i=>(i.size,i.bytes,i.zero.isSome,i.zero.map fun z=>z.cells.size))=some (1,24,true,some 1):=by kernel_rfl
  rw[hti]at e1
  simp only[Option.map_some,Option.some.injEq,Prod.mk.injEq]at e1
  obtain⟨e2,e3,e4,e5⟩:=e1
  obtain⟨z,hz⟩:=Option.isSome_iff_exists.1 e4
  rw[hz]at e5
  simp only[Option.map_some,Option.some.injEq]at e5
  have k:=zjP false (t:=56) (el:=22) (ti:=ti) (z:=z) (xs:=xs) Tryz.func102 (by kernel_rfl) (by kernel_rfl) Tryz.underlying56 hti hz (by omega) (by omega) (by omega) zlC zkC (by rw[e3];exact hb)
  rw[e2]at k
  exact k
set_option maxHeartbeats 8000000 in
set_option maxRecDepth 100000 in
theorem ziD (a0 : ByteArray) (a1 : ByteArray) (w : World) :
    Calls Tryz.prog 124 #[.string a0,.string a1] w fun e w'=>∃v,e=.returned v∧v=.int .i64 (Lib.compareBytes a0.data.toList a1.data.toList)∧Quiet w w':=by
  go_enter Tryz.func124,Tryz.ntmps124
  go_wp2
  rw[run_callFunc_extern Tryz.func128 (by kernel_rfl) (by kernel_rfl) (by kernel_rfl) (e:=Extern.BytealgCompare.compare) (by kernel_rfl),Lib.run_compareString]
  simp only[Result.andThen]
  rw[Oper.upon_value]
  go_wp2
  go_ret
  exact⟨_,rfl,rfl,⟨rfl,rfl,rfl⟩,Nat.le_refl _,fun _ _=>rfl⟩
theorem zp1 (a b:ByteArray):zeQ Tryz.prog 124 [.t (.v (.string a)),.t (.v (.string b))] [] (.t (.v (.int .i64 (Lib.compareBytes a.data.toList b.data.toList)))) []:=by
  intro w E β τ Ba vs gok hargs hptr hfb hBa hinj hsim
  obtain⟨hl,hat⟩:=args_at hsim
  have hl:vs.length=2:=hl
  obtain⟨v0,v1,rfl⟩:∃v0 v1,vs=[v0,v1]:=by
    match vs,hl with
    | [a,b],_=>exact⟨a,b,rfl⟩
  have h0:=hat 0 _ v0 rfl rfl
  have h1:=hat 1 _ v1 rfl rfl
  rw[RepV]at h0 h1
  obtain⟨rfl,_,_⟩:=zgf h0
  obtain⟨rfl,_,_⟩:=zgf h1
  refine zm5 Tryz.func124 (by kernel_rfl) (by kernel_rfl) ((ziD a b w).mono ?_)
  rintro e w' ⟨v,he,rfl,hq⟩
  exact⟨_,he,E,[],[],zmg hq hsim.z (by rw[RepV];exact zgg rfl _ _)⟩
set_option maxHeartbeats 4000000 in
set_option maxRecDepth 100000 in
theorem zlD (base : Option Addr) (c n : Nat) (w : World) (hc63 : c ≤ 9223372036854775807) (hn63 : n ≤ 9223372036854775807) (hroom : n ≤ c) :
    Calls Tryz.prog 125 #[.slice base 0 c,.int .i64 n] w fun e w'=>e=.returned (.slice base 0 c)∧w'=w:=by
  have h1:¬((n:Int) < 0):=by omega
  have h2:wrap64 ((c:Int)-((0:Nat):Int))=(c:Int)-((0:Nat):Int):=by unfold wrap64;omega
  have h3:wrap64 ((n:Int)-((c:Int)-((0:Nat):Int)))=(n:Int)-((c:Int)-((0:Nat):Int)):=by unfold wrap64;omega
  have h4:¬((n:Int)-((c:Int)-((0:Nat):Int)) > 0):=by omega
  go_enter Tryz.func125,Tryz.ntmps125
  go_wp2
  go_ret
  exact⟨rfl,rfl⟩
set_option maxHeartbeats 4000000 in
set_option maxRecDepth 100000 in
theorem zlE (i0 : TypeInfo) (z : Value) (hi0 : Tryz.prog.info? 42 = some i0) (hz0 : i0.zero = some z) (hs0 : 0 < i0.size) (hb0 : 0 < i0.bytes)
    (base:Option Addr) (c n:Nat) (cs:List Value) (w:World) (hroom:c < n) (hbig:n * i0.bytes≤140737488355328)
    (hcl:cs.length=c * i0.size) (hnil:base=none→c=0) (hcs:∀a,base=some a→∀(j:Nat) v,cs[j]?=some v→w.cell? (a.add j)=some v):
    Calls Tryz.prog 125 #[.slice base 0 c,.int .i64 n] w fun e w'=>∃c' cells,c'≤9223372036854775807∧e=.returned (.slice (some ⟨w.heap.size,0,none⟩) 0 c')∧w'=w.drew.alloc (.cells cells 42)∧c' * i0.size≤cells.size:=by
  have hn1:n * 1≤n * i0.bytes:=Nat.mul_le_mul_left _ hb0
  have h1:¬((n:Int) < 0):=by omega
  have h2:wrap64 ((c:Int)-((0:Nat):Int))=(c:Int)-((0:Nat):Int):=by unfold wrap64;omega
  have h3:wrap64 ((n:Int)-((c:Int)-((0:Nat):Int)))=(n:Int)-((c:Int)-((0:Nat):Int)):=by unfold wrap64;omega
  have h4:(n:Int)-((c:Int)-((0:Nat):Int)) > 0:=by omega
  have zE:∀w,(Go.sizeOf 42).run Tryz.prog w=.ok i0.size w:=fun w=>by simp[Go.sizeOf,typeInfo,hi0]
  have hck:c+(n-c)=n:=by omega
  have hold:(Builtin.firstCells i0.size c (.slice base c c)).run Tryz.prog w.drew=.ok cs.toArray w.drew:=by
    cases base with
    | none=>
      have h0:=hnil rfl
      subst h0
      have hc0:cs=[]:=List.length_eq_zero_iff.1 (by simpa using hcl)
      rw[hc0]
      exact run_firstCells_none w.drew i0.size 0 0 0
    | some a=>exact run_firstCells_some w.drew i0.size c a c c cs hcl (fun j v hj=>hcs a rfl j v hj)
  have hrz : ∀ ty, (Builtin.append_ #[40, 3] ty #[.slice base c c, .int .i64 ((n : Int) - ((c : Int) - ((0 : Nat) : Int)))]).run Tryz.prog w =
      .ok (.slice (some ⟨w.heap.size,0,none⟩) n (grownCap w n c 42)) (w.drew.alloc (.cells (cs.toArray++Builtin.zeroCells z.cells (n-c)++Builtin.zeroCells z.cells (grownCap w n c 42-n)) 42)):=fun ty=>by
    have h := Lib.run_append_grow_zeros w 40 3 ty 42 i0 z .i64 .i64 Tryz.underlying40 Tryz.underlying3 hi0 hz0 base c c cs hold (n - c) (by omega) hs0 (by omega) (by omega)
      (by have : (n - c) * i0.bytes ≤ n * i0.bytes := Nat.mul_le_mul_right _ (by omega)
          omega)
      (by rw[hck];exact growslice_fits hroom hbig)
    rw[hck]at h
    rw[show(n:Int)-((c:Int)-((0:Nat):Int))=((n-c:Nat):Int) by omega]
    exact h
  have hGn:n≤grownCap w n c 42:=grownCap_ge w _ _ _
  have hzs:z.cells.size=i0.size:=by
    have hi:Tryz.prog.info? 42=some i0:=hi0
    have h5:(Tryz.prog.info? 42).map (fun i=>(i.zero.map fun z=>z.cells.size==i.size))=some (some true):=by kernel_rfl
    rw[hi0]at h5
    simp[hz0]at h5
    exact h5
  have hsize:grownCap w n c 42 * i0.size≤(cs.toArray++Builtin.zeroCells z.cells (n-c)++Builtin.zeroCells z.cells (grownCap w n c 42-n)).size:=by
    have e1:grownCap w n c 42=c+(n-c)+(grownCap w n c 42-n):=by omega
    rw[Array.size_append,Array.size_append,size_zeroCells,size_zeroCells,hzs,List.size_toArray,hcl]
    rw[←Nat.add_mul,←Nat.add_mul,←e1]
    exact Nat.le_refl _
  obtain⟨G,hG⟩:∃G,G=grownCap w n c 42:=⟨_,rfl⟩
  rw[←hG]at hrz hGn hsize
  have hG63:G≤9223372036854775807:=by
    have:=grownCap_le_maxLen w n c 42 (by unfold maxLen;omega)
    rw[←hG]at this
    unfold maxLen at this
    omega
  generalize hcells:(cs.toArray++Builtin.zeroCells z.cells (n-c)++Builtin.zeroCells z.cells (G-n))=cells at hrz hsize
  clear hold hck hG hcs hcl hzs hcells
  go_enter Tryz.func125,Tryz.ntmps125
  cases base with
  | none=>
    have h0:=hnil rfl
    subst h0
    go_wp2_with (at_builtin;refine Lib.wpList_append_run _ rfl _ _ _ _ rfl _ _ rfl rfl _ _ (hrz _) ?_)
    all_goals (go_ret;first | exact⟨G,cells,hG63,rfl,rfl,hsize⟩ | exact⟨G,hG63,rfl,cells,rfl,hsize⟩)
  | some a=>
    obtain⟨ab,ao,asp⟩:=a
    go_wp2_with (at_builtin;refine Lib.wpList_append_run _ rfl _ _ _ _ rfl _ _ rfl rfl _ _ (hrz _) ?_)
    all_goals (go_ret;first | exact⟨G,cells,hG63,rfl,rfl,hsize⟩ | exact⟨G,hG63,rfl,cells,rfl,hsize⟩)
theorem zp2 {n:Int} (h0:0≤n) (hb:n * 80≤140737488355328):zeQ Tryz.prog 125 [.t (.sl true 5 []),.t (.v (.int .i64 n))] [] (.t (.sl true 5 [])) []:=by
  obtain⟨ti,hti⟩:∃ti,Tryz.prog.info? 42=some ti:=⟨_,rfl⟩
  have e1:(Tryz.prog.info? 42).map (fun i=>(i.size,i.bytes,i.zero.isSome))=some (5,80,true):=by kernel_rfl
  rw[hti]at e1
  simp only[Option.map_some,Option.some.injEq,Prod.mk.injEq]at e1
  obtain⟨e2,e3,e4⟩:=e1
  obtain⟨z,hz⟩:=Option.isSome_iff_exists.1 e4
  have k:=zpC (el:=42) (ti:=ti) (z:=z) (n:=n) Tryz.func125 (by kernel_rfl) (by kernel_rfl) (by omega) (by omega) (fun base c n w h1 h2 h3=>zlD base c n w h1 h2 h3) (fun base c n cs w h1 h2 h3 h4 h5=>zlE ti z hti hz (by omega) (by omega) base c n cs w h1 h2 h3 h4 h5) (fun _ _ _ _ _=>trivial) h0 (by rw[e3];exact hb)
  rw[e2]at k
  exact k
theorem zqY:∀(f:FuncId) (args fb:List AV) (r:AV) (outs:List AV),X f args fb=some (r,outs)→zeQ Tryz.prog f args fb r outs:=by
  intro f args fb r outs h
  unfold X at h
  by_cases h45:f=45
  · rw[if_pos h45]at h
    subst h45
    exact by
      split at h
      · split at h
        · rename_i xs
          by_cases hq:decide (xs.length * 16≤140737488355328)=true
          · rw[if_pos hq]at h
            cases h
            exact zqE (of_decide_eq_true hq)
          · rw[if_neg hq]at h;cases h
        · cases h
      · cases h
  rw[if_neg h45]at h
  by_cases h46:f=46
  · rw[if_pos h46]at h
    subst h46
    exact by
      split at h
      · split at h
        · rename_i xs
          by_cases hq:decide (xs.length * 8≤140737488355328)=true
          · rw[if_pos hq]at h
            cases h
            exact zqF (of_decide_eq_true hq)
          · rw[if_neg hq]at h;cases h
        · cases h
      · cases h
  rw[if_neg h46]at h
  by_cases h102:f=102
  · rw[if_pos h102]at h
    subst h102
    exact by
      split at h
      · split at h
        · rename_i xs
          by_cases hq:decide (xs.length * 24≤140737488355328)=true
          · rw[if_pos hq]at h
            cases h
            exact zp0 (of_decide_eq_true hq)
          · rw[if_neg hq]at h;cases h
        · cases h
      · cases h
  rw[if_neg h102]at h
  by_cases h124:f=124
  · rw[if_pos h124]at h
    subst h124
    exact by
      split at h
      · split at h
        · cases h;exact zp1 _ _
        · cases h
      · cases h
  rw[if_neg h124]at h
  by_cases h125:f=125
  · rw[if_pos h125]at h
    subst h125
    exact by
      split at h
      · split at h
        · rename_i n
          by_cases hq:decide (0≤n∧n * 80≤140737488355328)=true
          · rw[if_pos hq]at h
            cases h
            have hq:=of_decide_eq_true hq
            exact zp2 hq.1 hq.2
          · rw[if_neg hq]at h;cases h
        · cases h
      · cases h
  rw[if_neg h125]at h
  cases h
end Go.Proofs.YtgmidllbkjdnnaaGreatDoor.W
