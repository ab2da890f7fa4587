/- The statement LowerJoins (the second form), out of the plain statement over its function. -/
import Derived.Test.YtgmidllbkjdnnaaGreatDoorCards
import Derived.Test.YtgmidllbkjdnnaaGreatDoorTie
import Derived.Test.YtgmidllbkjdnnaaGreatDoorL5E
import Derived.Test.YtgmidllbkjdnnaaGreatDoorPureLowerJoins
import Derived.Test.YtgmidllbkjdnnaaGreatDoorL5X
import Derived.WalkKit
import Derived.ProofKit
import Derived.OpenShut
import Derived.ShutString
import Derived.ChangeOld
import Derived.Below
import Derived.SizedLaws
import Derived.Deep.DeepHandedRow
import Derived.Lib.LaidTab
import Derived.JoinedCond
import Derived.SevenTiedAt
namespace Go.Proofs.YtgmidllbkjdnnaaGreatDoor.lowerJoins
open Go.ChangeShapes Go.WideShapes Go.ChangeAt Go.RowKit Go.Proofs.YtgmidllbkjdnnaaGreatDoor.Flat Go.Proofs.YtgmidllbkjdnnaaGreatDoor.W
open Go.ChangeMaps (open_string shut_string)
set_option linter.unusedVariables false
theorem zqZ:ownKnob Tryz.prog.godebug=none:=by kernel_rfl
theorem laidOut:laidOutB Tryz.prog=true:=by kernel_rfl
theorem tys:tysOk Tryz.prog [3,4,9,22,38,39,40,42,43,45,56,57,59,78]=true:=by kernel_rfl
theorem zqg {H:Type} (d:DataW H):1≤Rows.uptoBulk d:=by
  cases d with
  | lit l=>cases l<;>simp[Rows.uptoBulk]
  | _=>simp[Rows.uptoBulk]
theorem zpu {H : Type} : ∀ l : List (DataW H), Rows.uptoBulkAll l = (l.map Rows.uptoBulk).sum
  | []=>by simp[Rows.uptoBulkAll]
  | d::l=>by rw[Rows.uptoBulkAll,zpu l,List.map_cons,List.sum_cons]
theorem zqh {H:Type} (b:List UInt8):b.length+1≤Rows.uptoBulk (DataW.lit (H:=H) (.string b)):=by simp[Rows.uptoBulk]
theorem zqi {H:Type} (l:List (DataW H)):(l.map Rows.uptoBulk).sum+1≤Rows.uptoBulk (.agg l):=by simp only[Rows.uptoBulk,zpu];omega
theorem zqS {H:Type} (l m:List (DataW H)):(l.map Rows.uptoBulk).sum+1≤Rows.uptoBulk (.slice l m):=by simp only[Rows.uptoBulk,zpu];omega
theorem glob {W:World} (h:laidMetH Tryz.prog Rows.lowerJoinsUptoRow.laid W):GlOk W [] []:=by
  obtain⟨q1,q2⟩:=zm6 (P:=Tryz.prog) (name:= "wayfarer/plan.names") (bs:=gl0) (rest:=[]) (show Tryz.prog.globalNamed "wayfarer/plan.names"=some 0 by kernel_rfl) (show(Tryz.prog.globals[0]?).map (·.type)=some 134 by kernel_rfl) Tryz.underlying134 Tryz.underlying9 (by kernel_rfl) (by kernel_rfl) (by decide) h
  intro g x hx
  have hx:(if g=0 then some (T.st (texts gl0))else none)=some x:=hx
  by_cases hg:g=0
  · rw[if_pos hg]at hx
    cases hx
    subst hg
    exact⟨⟨q1,by simp,by simp⟩,q2⟩
  · rw[if_neg hg]at hx;cases hx
noncomputable def laidWorld (os:Os):World:=
  { World.holding Tryz.prog os ⟨#[], #[], []⟩ with heap := (World.holding Tryz.prog os ⟨#[], #[], []⟩).heap.modify 0 fun
      | .cells _ t frozen=>.cells (gl0.map Value.string).toArray t frozen
      | o=>o}
theorem zpv (os:Os):laidMet Tryz.prog Rows.lowerJoinsUptoRow.laid ((laidWorld os).forCall (fun _ _=>0) ⟨#[], #[.slice none 0 0,.slice none 0 0],[]⟩).memory:=
  laidMet_of_run' 8 (by kernel_rfl) (by kernel_rfl)
theorem reads (os:Os) {H:Type} (enc:TypeId × Value→H):∃places,DataW.whole enc Tryz.prog ((laidWorld os).forCall (fun _ _=>0) ⟨#[], #[.slice none 0 0,.slice none 0 0],[]⟩).memory Tryz.f5.params.toList Rows.lowerJoinsSpec.vars false [.slice none 0 0,.slice none 0 0] 12=some ([.nil,.nil],[],places):=
  ⟨[],by kernel_rfl⟩
set_option maxRecDepth 100000 in
theorem lifted (os : Os) (started : os.Started) (H : Type) (enc : TypeId × Value → H) (F : Stop.Interp) :
    ReturnsInHanded {} Tryz.checked os 5 .any ((Rows.OpenSpec.upto Rows.lowerJoinsSpec).preRow enc Tryz.prog Tryz.f5 Rows.lowerJoinsUptoRow.domain false Rows.lowerJoinsUptoRow.laid) (((Rows.OpenSpec.upto Rows.lowerJoinsSpec).at F).post enc Tryz.prog Tryz.f5 false true false false):=by
  obtain⟨places,hx⟩:=reads os enc
  refine returnsInHanded_of_row (C := Tryz.checked) (s := Rows.OpenSpec.upto Rows.lowerJoinsSpec) zqZ started (by kernel_rfl) Tryz.func5
    (witness_row_at (enc := enc) (C := Tryz.checked) false (laidWorld os) #[.slice none 0 0, .slice none 0 0] rfl (by kernel_rfl) (by kernel_rfl) (by kernel_rfl)
      (OpenSpec.preRow_of_cond 12 hx (by kernel_rfl) (fun k hk=>by cases hk;kernel_rfl) (by kernel_rfl) (zpv os))) ?_
  intro W base args ds gs before hval0 hW hcnd hcond hsz0 hL _ _
  have hk:Rows.uptoSmall H (ds++gs)=true:=hcond _ rfl
  have gok:=glob hL
  clear hL
  have hsz:(DataW.weightsEach Tryz.prog (Tryz.f5.params.toList++Rows.lowerJoinsSpec.plain.varTypes Tryz.prog) (ds++gs)).all (·≤reachBytes)=true:=hsz0
  have hval:∀(j:Nat) t v,Tryz.f5.params[j]?=some t→args[j]?=some v→Value.okWide Tryz.prog W .any base t v:=hval0
  have hW':=hW
  obtain⟨p,q,hA0,hV,rfl,hfz,hnd⟩:=hW
  have hA:DataW.TrodAll enc Tryz.prog W 0 (fun _=>true) true Tryz.f5.params.toList args.toList ds p:=hA0
  rw[Tryz.params5]at hA hval hsz
  obtain⟨v0,vs0,d0,ds0,p0,q0,hargs,rfl,rfl,h0,r0⟩:=trodAll_cons hA
  obtain⟨v1,vs1,d1,ds1,p1,q1,rfl,rfl,rfl,h1,r1⟩:=trodAll_cons r0
  obtain⟨rfl,rfl,rfl⟩:=trodAll_nil r1
  obtain rfl:args= #[v0,v1]:=by cases args;simp_all
  obtain⟨rfl,rfl⟩:=trodVars_none hV
  have hb:Rows.uptoBulkAll ([d0,d1]++([]:List (DataW H)))≤1048576:=of_decide_eq_true hk
  rw[List.append_nil]at hb
  simp only[Rows.uptoBulkAll]at hb
  have k0:=h0
  have lt0:∀x∈p0,x.block < W.heap.size:=by obtain⟨m,hm⟩:=k0;exact DataW.trod_lt m _ _ _ hm
  have wt0:∀z∈d0.weights Tryz.prog 22,z≤reachBytes:=fun z hz=>by
    have:=List.all_eq_true.1 hsz z (DataW.weights_mem_each (j:=0) (t:=22) (d:=d0) rfl rfl z hz)
    simpa using this
  obtain⟨fu0,hf0⟩:=h0
  obtain⟨y0,rp0,ty0,bk0⟩:=zmb (u:=Rows.uptoBulk) zqg zqh zqi zqS tys fu0 22 (by decide) _ _ hf0 wt0
  dsimp only at bk0
  obtain⟨a0,len0,cap0,rfl⟩:=okWide_slice Tryz.underlying22 (hval 0 22 v0 rfl rfl)
  obtain⟨x0,rfl,_,_⟩:=zeA (Q:=(fun _=>True)) GStep.zl Tryz.underlying22 (show _=14 from by kernel_rfl) (show _=264 from by kernel_rfl) (fun j hj y hy=>by obtain⟨a,e,_⟩:=GStep.of j y hy;exact⟨a,e,trivial⟩) ty0
  have rt0:RepT W (pubE W) (.sl false 14 (GStep.ts x0)) (.slice a0 len0 cap0) []:=⟨_,rp0,rfl⟩
  have k1:=h1
  have lt1:∀x∈p1,x.block < W.heap.size:=by obtain⟨m,hm⟩:=k1;exact DataW.trod_lt m _ _ _ hm
  have wt1:∀z∈d1.weights Tryz.prog 22,z≤reachBytes:=fun z hz=>by
    have:=List.all_eq_true.1 hsz z (DataW.weights_mem_each (j:=1) (t:=22) (d:=d1) rfl rfl z hz)
    simpa using this
  obtain⟨fu1,hf1⟩:=h1
  obtain⟨y1,rp1,ty1,bk1⟩:=zmb (u:=Rows.uptoBulk) zqg zqh zqi zqS tys fu1 22 (by decide) _ _ hf1 wt1
  dsimp only at bk1
  obtain⟨a1,len1,cap1,rfl⟩:=okWide_slice Tryz.underlying22 (hval 1 22 v1 rfl rfl)
  obtain⟨x1,rfl,_,_⟩:=zeA (Q:=(fun _=>True)) GStep.zl Tryz.underlying22 (show _=14 from by kernel_rfl) (show _=264 from by kernel_rfl) (fun j hj y hy=>by obtain⟨a,e,_⟩:=GStep.of j y hy;exact⟨a,e,trivial⟩) ty1
  have rt1:RepT W (pubE W) (.sl false 14 (GStep.ts x1)) (.slice a1 len1 cap1) []:=⟨_,rp1,rfl⟩
  have hwt:wts [.sl false 14 (GStep.ts x0),.sl false 14 (GStep.ts x1)]≤1048576:=by simp only[wts];omega
  clear hA0 hval0 hsz0 hsz
  obtain⟨n,hn⟩:=Pure.LowerJoins x0 x1 hwt
  have hrun:=(zaa n).zbE _ _ true hn
  have hok:=zoI (Checked.mixed Tryz.checked) zqY n _ _ _ _ _ hrun
  refine(zoJ (ys:=[.sl false 14 (GStep.ts x0),.sl false 14 (GStep.ts x1)]) Tryz.func5 (by kernel_rfl) (by kernel_rfl) gok ⟨_,_,rfl,rt0,⟨_,_,rfl,rt1,rfl⟩⟩ hok).mono fun e W' ⟨he,bel⟩=> ?_
  subst he
  exact⟨_,rfl,_,_,_,[],_,[],hW',trodAll_mk1 (shut_bool Tryz.underlying4 _),(trodAll_cons_mk (Below.trod laidOut (by kernel_rfl) (of_decide_eq_true (by kernel_rfl)) k0 bel lt0) (trodAll_cons_mk (Below.trod laidOut (by kernel_rfl) (of_decide_eq_true (by kernel_rfl)) k1 bel lt1) trodAll_mk0)),rfl,bel.frame _,fun h=>by cases h⟩
theorem over:Rows.lowerJoinsUptoRow.holds Tryz.pinned (Rows.OpenSpec.upto Rows.lowerJoinsSpec):=
  OpenClaim.holds_of_cond 5 Tryz.f5 rfl rfl rfl rfl rfl rfl rfl ⟨rfl, rfl, rfl, rfl, rfl⟩ rfl rfl rfl rfl rfl (by kernel_rfl) Tryz.func5 (by kernel_rfl)
    (of_decide_eq_true (by kernel_rfl)) (by unfold Func.isWrapper;first | (rw[if_pos (by decide+kernel)];kernel_rfl) | (rw[if_neg (by decide+kernel)];exact⟨rfl,rfl⟩))
    (fun os started H enc _ F=>by rw[OpenClaim.pre_eq_preRow];exact lifted os started H enc F)
theorem plain (f : FuncId) (fn : Func) (hf : Tryz.pinned.checked.prog.funcNamed "wayfarer/wayfarerlaw21.LowerJoins" = some f) (hfn : Tryz.pinned.checked.prog.funcs[f]? = some fn) :
    false=Tryz.pinned.checked.prog.looks []∧∀(j:Nat) t,fn.params[j]?=some t→Tryz.pinned.checked.prog.wantsStandIn t=false:=by
  obtain rfl:f=5:=Option.some.inj ((show Tryz.prog.funcNamed "wayfarer/wayfarerlaw21.LowerJoins"=some 5 by kernel_rfl).symm.trans hf) |>.symm
  obtain rfl:fn=Tryz.f5:=(Option.some.inj (Tryz.func5.symm.trans hfn)).symm
  refine⟨by kernel_rfl,fun j t ht=> ?_⟩
  rw[Tryz.params5]at ht
  have hm:=Array.mem_of_getElem? ht
  have key:([22,22]:List TypeId).all (fun t=> !(Tryz.pinned.checked.prog.wantsStandIn t))=true:=by kernel_rfl
  have h4:=List.all_eq_true.1 key t (by simpa using hm)
  simpa using h4
theorem proved:Rows.LowerJoinsUptoCardSaid:=
  Claim7.holds_tied_plain_at .later [] _ _ _ _ over (fun _ h=>by cases h) (by kernel_rfl) (fun _ h=>by cases h) lowerJoinsUpto_row_tie rfl ⟨rfl,rfl⟩ (by kernel_rfl) rfl plain (by kernel_rfl)
#print axioms proved
end Go.Proofs.YtgmidllbkjdnnaaGreatDoor.lowerJoins
namespace Go.Proofs.YtgmidllbkjdnnaaGreatDoor
theorem lowerJoins_holds:Rows.LowerJoinsUptoCardSaid:=lowerJoins.proved
end Go.Proofs.YtgmidllbkjdnnaaGreatDoor
