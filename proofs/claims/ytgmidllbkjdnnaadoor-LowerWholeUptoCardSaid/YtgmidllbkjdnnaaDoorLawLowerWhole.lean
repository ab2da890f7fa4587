/- The statement LowerWhole (the second form), out of the plain statement over its function. -/
import Derived.Test.YtgmidllbkjdnnaaDoorCards
import Derived.Test.YtgmidllbkjdnnaaDoorTie
import Derived.Test.YtgmidllbkjdnnaaDoorL2E
import Derived.Test.YtgmidllbkjdnnaaDoorPureLowerWhole
import Derived.Test.YtgmidllbkjdnnaaDoorL2X
import Derived.WalkKit
import Derived.ProofKit
import Derived.OpenShut
import Derived.ShutString
import Derived.ChangeOld
import Derived.Below
import Derived.SizedLaws
import Derived.Deep.DeepHandedRow
import Derived.Lib.LaidTab
import Derived.JoinedCond
import Derived.SevenTiedAt
namespace Go.Proofs.YtgmidllbkjdnnaaDoor.lowerWhole
open Go.ChangeShapes Go.WideShapes Go.ChangeAt Go.RowKit Go.Proofs.YtgmidllbkjdnnaaDoor.Flat Go.Proofs.YtgmidllbkjdnnaaDoor.W
open Go.ChangeMaps (open_string shut_string)
set_option linter.unusedVariables false
theorem zo3:ownKnob Tryd.prog.godebug=none:=by kernel_rfl
theorem laidOut:laidOutB Tryd.prog=true:=by kernel_rfl
theorem tys:tysOk Tryd.prog [3,4,9,22,35,37,38,40,41,43,56,57,59,73]=true:=by kernel_rfl
theorem zoU {H:Type} (d:DataW H):1≤Rows.uptoBulk d:=by
  cases d with
  | lit l=>cases l<;>simp[Rows.uptoBulk]
  | _=>simp[Rows.uptoBulk]
theorem zn3 {H : Type} : ∀ l : List (DataW H), Rows.uptoBulkAll l = (l.map Rows.uptoBulk).sum
  | []=>by simp[Rows.uptoBulkAll]
  | d::l=>by rw[Rows.uptoBulkAll,zn3 l,List.map_cons,List.sum_cons]
theorem zoV {H:Type} (b:List UInt8):b.length+1≤Rows.uptoBulk (DataW.lit (H:=H) (.string b)):=by simp[Rows.uptoBulk]
theorem zoW {H:Type} (l:List (DataW H)):(l.map Rows.uptoBulk).sum+1≤Rows.uptoBulk (.agg l):=by simp only[Rows.uptoBulk,zn3];omega
theorem zo4 {H:Type} (l m:List (DataW H)):(l.map Rows.uptoBulk).sum+1≤Rows.uptoBulk (.slice l m):=by simp only[Rows.uptoBulk,zn3];omega
theorem glob {W:World} (h:laidMetH Tryd.prog Rows.lowerWholeUptoRow.laid W):GlOk W [] []:=by
  obtain⟨q1,q2⟩:=zl2 (P:=Tryd.prog) (name:= "wayfarer/plan.names") (bs:=gl0) (rest:=[]) (show Tryd.prog.globalNamed "wayfarer/plan.names"=some 0 by kernel_rfl) (show(Tryd.prog.globals[0]?).map (·.type)=some 121 by kernel_rfl) Tryd.underlying121 Tryd.underlying9 (by kernel_rfl) (by kernel_rfl) (by decide) h
  intro g x hx
  have hx:(if g=0 then some (T.st (texts gl0))else none)=some x:=hx
  by_cases hg:g=0
  · rw[if_pos hg]at hx
    cases hx
    subst hg
    exact⟨⟨q1,by simp,by simp⟩,q2⟩
  · rw[if_neg hg]at hx;cases hx
noncomputable def laidWorld (os:Os):World:=
  { World.holding Tryd.prog os ⟨#[], #[], []⟩ with heap := (World.holding Tryd.prog os ⟨#[], #[], []⟩).heap.modify 0 fun
      | .cells _ t frozen=>.cells (gl0.map Value.string).toArray t frozen
      | o=>o}
theorem zn4 (os:Os):laidMet Tryd.prog Rows.lowerWholeUptoRow.laid ((laidWorld os).forCall (fun _ _=>0) ⟨#[], #[.slice none 0 0],[]⟩).memory:=
  laidMet_of_run' 8 (by kernel_rfl) (by kernel_rfl)
theorem reads (os:Os) {H:Type} (enc:TypeId × Value→H):∃places,DataW.whole enc Tryd.prog ((laidWorld os).forCall (fun _ _=>0) ⟨#[], #[.slice none 0 0],[]⟩).memory Tryd.f4.params.toList Rows.lowerWholeSpec.vars false [.slice none 0 0] 12=some ([.nil],[],places):=
  ⟨[],by kernel_rfl⟩
set_option maxRecDepth 100000 in
theorem lifted (os : Os) (started : os.Started) (H : Type) (enc : TypeId × Value → H) (F : Stop.Interp) :
    ReturnsInHanded {} Tryd.checked os 4 .any ((Rows.OpenSpec.upto Rows.lowerWholeSpec).preRow enc Tryd.prog Tryd.f4 Rows.lowerWholeUptoRow.domain false Rows.lowerWholeUptoRow.laid) (((Rows.OpenSpec.upto Rows.lowerWholeSpec).at F).post enc Tryd.prog Tryd.f4 false true false false):=by
  obtain⟨places,hx⟩:=reads os enc
  refine returnsInHanded_of_row (C := Tryd.checked) (s := Rows.OpenSpec.upto Rows.lowerWholeSpec) zo3 started (by kernel_rfl) Tryd.func4
    (witness_row_at (enc := enc) (C := Tryd.checked) false (laidWorld os) #[.slice none 0 0] rfl (by kernel_rfl) (by kernel_rfl) (by kernel_rfl)
      (OpenSpec.preRow_of_cond 12 hx (by kernel_rfl) (fun k hk=>by cases hk;kernel_rfl) (by kernel_rfl) (zn4 os))) ?_
  intro W base args ds gs before hval0 hW hcnd hcond hsz0 hL _ _
  have hk:Rows.uptoSmall H (ds++gs)=true:=hcond _ rfl
  have gok:=glob hL
  clear hL
  have hsz:(DataW.weightsEach Tryd.prog (Tryd.f4.params.toList++Rows.lowerWholeSpec.plain.varTypes Tryd.prog) (ds++gs)).all (·≤reachBytes)=true:=hsz0
  have hval:∀(j:Nat) t v,Tryd.f4.params[j]?=some t→args[j]?=some v→Value.okWide Tryd.prog W .any base t v:=hval0
  have hW':=hW
  obtain⟨p,q,hA0,hV,rfl,hfz,hnd⟩:=hW
  have hA:DataW.TrodAll enc Tryd.prog W 0 (fun _=>true) true Tryd.f4.params.toList args.toList ds p:=hA0
  rw[Tryd.params4]at hA hval hsz
  obtain⟨v0,vs0,d0,ds0,p0,q0,hargs,rfl,rfl,h0,r0⟩:=trodAll_cons hA
  obtain⟨rfl,rfl,rfl⟩:=trodAll_nil r0
  obtain rfl:args= #[v0]:=by cases args;simp_all
  obtain⟨rfl,rfl⟩:=trodVars_none hV
  have hb:Rows.uptoBulkAll ([d0]++([]:List (DataW H)))≤1048576:=of_decide_eq_true hk
  rw[List.append_nil]at hb
  simp only[Rows.uptoBulkAll]at hb
  have k0:=h0
  have lt0:∀x∈p0,x.block < W.heap.size:=by obtain⟨m,hm⟩:=k0;exact DataW.trod_lt m _ _ _ hm
  have wt0:∀z∈d0.weights Tryd.prog 22,z≤reachBytes:=fun z hz=>by
    have:=List.all_eq_true.1 hsz z (DataW.weights_mem_each (j:=0) (t:=22) (d:=d0) rfl rfl z hz)
    simpa using this
  obtain⟨fu0,hf0⟩:=h0
  obtain⟨y0,rp0,ty0,bk0⟩:=zno (u:=Rows.uptoBulk) zoU zoV zoW zo4 tys fu0 22 (by decide) _ _ hf0 wt0
  dsimp only at bk0
  obtain⟨a0,len0,cap0,rfl⟩:=okWide_slice Tryd.underlying22 (hval 0 22 v0 rfl rfl)
  obtain⟨x0,rfl,_,_⟩:=zdS (Q:=(fun _=>True)) GStep.zk Tryd.underlying22 (show _=14 from by kernel_rfl) (show _=264 from by kernel_rfl) (fun j hj y hy=>by obtain⟨a,e,_⟩:=GStep.of j y hy;exact⟨a,e,trivial⟩) ty0
  have rt0:RepT W (pubE W) (.sl false 14 (GStep.ts x0)) (.slice a0 len0 cap0) []:=⟨_,rp0,rfl⟩
  have hwt:wts [.sl false 14 (GStep.ts x0)]≤1048576:=by simp only[wts];omega
  clear hA0 hval0 hsz0 hsz
  obtain⟨n,hn⟩:=Pure.LowerWhole x0 hwt
  have hrun:=(zac n).za8 _ true hn
  have hok:=znn (Checked.mixed Tryd.checked) zo2 n _ _ _ _ _ hrun
  refine(znp (ys:=[.sl false 14 (GStep.ts x0)]) Tryd.func4 (by kernel_rfl) (by kernel_rfl) gok ⟨_,_,rfl,rt0,rfl⟩ hok).mono fun e W' ⟨he,bel⟩=> ?_
  subst he
  exact⟨_,rfl,_,_,_,[],_,[],hW',trodAll_mk1 (shut_bool Tryd.underlying4 _),(trodAll_cons_mk (Below.trod laidOut (by kernel_rfl) (of_decide_eq_true (by kernel_rfl)) k0 bel lt0) trodAll_mk0),rfl,bel.frame _,fun h=>by cases h⟩
theorem over:Rows.lowerWholeUptoRow.holds Tryd.pinned (Rows.OpenSpec.upto Rows.lowerWholeSpec):=
  OpenClaim.holds_of_cond 4 Tryd.f4 rfl rfl rfl rfl rfl rfl rfl ⟨rfl, rfl, rfl, rfl, rfl⟩ rfl rfl rfl rfl rfl (by kernel_rfl) Tryd.func4 (by kernel_rfl)
    (of_decide_eq_true (by kernel_rfl)) (by unfold Func.isWrapper;first | (rw[if_pos (by decide+kernel)];kernel_rfl) | (rw[if_neg (by decide+kernel)];exact⟨rfl,rfl⟩))
    (fun os started H enc _ F=>by rw[OpenClaim.pre_eq_preRow];exact lifted os started H enc F)
theorem plain (f : FuncId) (fn : Func) (hf : Tryd.pinned.checked.prog.funcNamed "wayfarer/wayfarerlaw21.LowerWhole" = some f) (hfn : Tryd.pinned.checked.prog.funcs[f]? = some fn) :
    false=Tryd.pinned.checked.prog.looks []∧∀(j:Nat) t,fn.params[j]?=some t→Tryd.pinned.checked.prog.wantsStandIn t=false:=by
  obtain rfl:f=4:=Option.some.inj ((show Tryd.prog.funcNamed "wayfarer/wayfarerlaw21.LowerWhole"=some 4 by kernel_rfl).symm.trans hf) |>.symm
  obtain rfl:fn=Tryd.f4:=(Option.some.inj (Tryd.func4.symm.trans hfn)).symm
  refine⟨by kernel_rfl,fun j t ht=> ?_⟩
  rw[Tryd.params4]at ht
  have hm:=Array.mem_of_getElem? ht
  have key:([22]:List TypeId).all (fun t=> !(Tryd.pinned.checked.prog.wantsStandIn t))=true:=by kernel_rfl
  have h4:=List.all_eq_true.1 key t (by simpa using hm)
  simpa using h4
theorem proved:Rows.LowerWholeUptoCardSaid:=
  Claim7.holds_tied_plain_at .later [] _ _ _ _ over (fun _ h=>by cases h) (by kernel_rfl) (fun _ h=>by cases h) lowerWholeUpto_row_tie rfl ⟨rfl,rfl⟩ (by kernel_rfl) rfl plain (by kernel_rfl)
#print axioms proved
end Go.Proofs.YtgmidllbkjdnnaaDoor.lowerWhole
namespace Go.Proofs.YtgmidllbkjdnnaaDoor
theorem lowerWhole_holds:Rows.LowerWholeUptoCardSaid:=lowerWhole.proved
end Go.Proofs.YtgmidllbkjdnnaaDoor
