/- Several texts in one. -/
import Derived.Test.YtbphdcffpobcbaaGreatDoorMd
set_option linter.unusedSimpArgs false
set_option linter.unusedVariables false
set_option maxRecDepth 100000
set_option maxHeartbeats 16000000
namespace Go.Proofs.YtbphdcffpobcbaaGreatDoor
open Go.RowKit Go
theorem DPure.args {P:Program} {f:FuncId} {ds ds':List D} {K:D->List Blk->Prop} (hle : ∀ E w ι vs,RVs E w ι ds vs->RVs E w ι ds' vs) (h:DPure P f ds' K):DPure P f ds K:=⟨h.1,fun F w vs h1 hgl h2=>h.2 F w vs h1 hgl (hle _ _ _ _ h2)⟩
def CsLe:List C->List C->Prop
 | [],[]=>True
 | c::cs,e::es=>(e=c∨(c = .d .emp∧e = .d (.sl true [])))∧CsLe cs es
 | _,_=>False
theorem RC.emp_sl {E:Env} {w:World} {ι:Nms} {v:Value} (h:RC E w ι (.d .emp) v):RC E w ι (.d (.sl true [])) v:=RC.less (c := .d .emp) (c' := .d (.sl _ [])) (ι:=ι) h (.inr ⟨rfl,_,rfl⟩)
theorem CsLe.rcs {E:Env} {w:World} {ι:Nms} : ∀ {cs es:List C}, CsLe cs es -> ∀ {vs:List Value}, RCs E w ι cs vs->RCs E w ι es vs
 | [],[],_,[],_=>trivial
 | c::cs,e::es,h,v::vs,hv=>⟨by
   rcases h.1 with rfl | ⟨rfl,rfl⟩
   ·exact hv.1
   ·exact hv.1.emp_sl,CsLe.rcs h.2 hv.2⟩
 | [],[],_,_::_,hv=>hv.elim
 | _::_,_::_,_,[],hv=>hv.elim
 | [],_::_,h,_,_=>h.elim
 | _::_,[],h,_,_=>h.elim
end Go.Proofs.YtbphdcffpobcbaaGreatDoor
