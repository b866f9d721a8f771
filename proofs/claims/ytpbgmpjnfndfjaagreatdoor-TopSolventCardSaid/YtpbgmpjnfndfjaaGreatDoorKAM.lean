/- Lemmas that TopSolvent leans on, without conditions: RK Qtl. -/
import Derived.Test.YtpbgmpjnfndfjaaGreatDoorKAL
import Derived.ChangeSame
import Derived.Test.YtpbgmpjnfndfjaaGreatDoorRows
import Derived.Laws.StructEq
import Derived.ProofKit
import Derived.OpenShut
import Derived.Carry
import Derived.Deep.Slices
import Derived.Deep.Fields
import Derived.HandedShaped
import Derived.Stop.LaidErr
import Derived.Lib.LaidTab
import Derived.MakeChecks
import Derived.Deep.DeepHandedRow
import Derived.Lay
import Derived.StillTail
set_option maxRecDepth 100000
set_option linter.all false
namespace Go.Proofs.YtpbgmpjnfndfjaaGreatDoor
open Go.Proofs.Tryz renaming prog->ad
open Bool renaming true->ak,and_eq_true->aS,false->bk
open Region renaming ready->az,lexTailB->aF,lexHead->aQ,chainB->aT,sinkB->a2,binds->a3,Mode->a4
open DataW renaming TrodAll->aB
open Value renaming string->aD,bool->aL,agg->a6
open List renaming length_cons->aE
open Go renaming wpQuiet->aG,World->aH,Program->aP,getD_replicate_false->aU,Value->a0,ready_mono->a5,wpList->a7,TypeId->a8,Oper->a9,Act->bf,HeadInv->bj
open Go.RowKit
variable{l:List a9}{W w:aH}{Q:Exit->bf->aH->Prop}{a:bf}
namespace MY
theorem here:True:=trivial
open Go.WideShapes Go.ChangeShapes
section
variable {H:Type} {enc:a8×a0->H} {P:aP}
theorem VU{f:Func}{s:ChangeSpec}{c m d l:Bool}{W':aH}{args:Array a0}{v:a0}{ds o:List (DataW H)}{a x aO:List MemPlace}(y:DataW.Whole enc P f.params.toList s.vars c W args.toList ds o a)(k:∀(b:Nat) (n:Nat->Bool) (hd:Bool),aB enc P W' b n hd f.resultTypes.toList (v.resultList f.resultTypes.size) (s.fn H (ds++o)).results [])(e:∀n:Nat->Bool,(∀p∈a,n p.block=ak)->aB enc P W' 0 n ak f.params.toList args.toList (s.fn H (ds++o)).args x)(h:∀n:Nat->Bool,(∀p∈a,n p.block=ak)->DataW.TrodVars enc P W' n s.vars (s.fn H (ds++o)).vars aO)(i:a=x++aO)(A:Below W.1.size W W')(z:∀(j:Nat) (t:a8) (r:a0),f.resultTypes[j]?=some t->(v.resultList f.resultTypes.size)[j]?=some r->Value.okWide P W' .any 0 t r):s.post enc P f c m d l W args v W':=by have u:∀p∈a,p.block<W.1.size:=λp g=>y.lt p g;have hold:∀p∈a,(λb=>decide (b<W.1.size)) p.block=ak:=λp g=>by{simpa using u p g};refine⟨ds,o,a,[],x,aO,y,k _ _ _,e _ hold,h _ hold,World.keptBut_mono (λp g=>⟨g,?_⟩) (A.frame (·∈a)),λ_=>?_⟩;{rw[i,List.mem_append]at g;exact Or.inr g};obtain⟨_,_,_,_,_,C,B⟩:=y;refine⟨z,_,_,([]++x)++aO,⟨[]++x,aO,trodAll_append (e _ (λ_ _=>rfl)) (k _ _ _),h _ (λ_ _=>rfl),rfl,?_,?_⟩,?_⟩;{intro b w g;have q:MemPlace.cell b w∈a:=by{rw[i];simpa using g};rw[A.frozen (u _ q)];exact C b w q};{intro ha;have:=B ha;rw[i]at this;simpa using this};intro p g _;rw[i];simpa using g
end
end MY
namespace uy
theorem here:True:=trivial
open Go.ChangeShapes Go.WideShapes Go.ChangeAt Go.Deep bP ct
theorem Ky:ad.underlying 32=some (.struct (ad.fieldsOf 32)):=Ox
theorem Kx:ad.stoodInHeld 32=bk:=Ox
theorem VW:ad.eqGuardType ad.depth 32=bk:=Ox
theorem Kv:ad.fieldsOf 32=#[ad.fieldsOf 32|>.getD 0 default,ad.fieldsOf 32|>.getD 1 default,ad.fieldsOf 32|>.getD 2 default]:=Ox
theorem VX(b:Bool)(s t:ByteArray)(W:aH):(binOp .eql 32 (a6 #[aL b,aD s,aD t]) (a6 #[aL b,aD s,aD t])).run ad W=.ok (aL ak) W:=by rw[run_eql_struct,run_equalIn_agg W 9999 _ _ _ Ky Kx,Kv];simp[go_sem]
section
variable {H:Type} {enc:a8×a0->H} {P:aP} {w W W':aH} {base:Nat} {spare:Nat->Bool} {held:Bool}
theorem stay(k:laidOutB P=ak)(j:Below W.1.size W W')(i:Nat->Bool):∀(c:List a8) (e:List a0) (ds:List (DataW H)) (p:List MemPlace),(∀t∈c,P.readableRec t=ak/\t<P.types.size)->aB enc P W 0 (λ_=>ak) ak c e ds p->(∀x∈p,x.block<W.1.size)->(∀x∈p,i x.block=ak)->aB enc P W' 0 i ak c e ds p|[],[],[],p,_,h,_,_=>h|t::c,v::e,d::ds,p,f,h,b,hs=>by{obtain⟨m,l,h1,h2,rfl⟩:=h;refine⟨m,l,?_,?_,rfl⟩;{exact WideElems.Trod_stays k (f t Ow).1 (f t Ow).2 h1 (λx a=>j.same (b x (by simp[a]))) (λx a=>hs x (by simp[a]))};exact stay k j i c e ds l (λn g=>f n (by simp[g])) h2 (λx a=>b x (by simp[a])) (λx a=>hs x (by simp[a]))}|[],_::_,_,_,_,h,_,_=>by{cases h}|[],[],_::_,_,_,h,_,_=>by{cases h}|_::_,[],_,_,_,h,_,_=>by{cases h}|_::_,_::_,[],_,_,h,_,_=>by cases h
end
def laid:List (String×DataW Unit):=[("unicode/utf8.acceptRanges",Rows.laid_unicode_utf8_acceptRanges),("unicode/utf8.first",Rows.laid_unicode_utf8_first)]
theorem plain:(laid.all λx=>x.2.handleName?.isNone)=ak:=Ox
theorem VP(hs:W.ShapedOpen ad):Env W:=by refine⟨?_,Go.Proofs.cell_of_shapedOpen_int (zero:=#[Value.int IntKind.i64 0]) (t:=3) hs (of_decide_eq_true Ox) Ox rfl Ox Ox Tryz.underlying3⟩;obtain⟨o,_,a,_,_⟩:=hs.2 3 (of_decide_eq_true Ox) (of_decide_eq_true Ox);exact Nat.le_of_lt (Array.getElem?_eq_some_iff.1 a).1
end uy
namespace eO
section
variable {P:aP} {ops:Array a9} {md:a4} {C:aH->Prop}
def heads(P:aP)(md:a4)(ops:Array a9)(C:aH->Prop)(n:Nat)(L:Array Bool->bf->Prop):Nat->Array Bool->bf->Prop|0,done,a=>L done a|f+1,done,a=>az md ops done≠[]/\∀i∈az md ops done,i<n/\qOp P ops C i (heads P md ops C n L f (done.setIfInBounds i ak)) a
theorem GQ{n g:Nat}{L:Array Bool->bf->Prop}{Q':Exit->bf->aH->Prop}(c:∀done a w,C w->L done a->wpAny P md ops Q' g done a w):∀(f:Nat) (done:Array Bool) (a:bf) (w:aH),C w->heads P md ops C n L f done a->wpAny P md ops Q' (f+g) done a w|0,_,_,_,hw,h=>by{rw[Nat.zero_add];exact c _ _ _ hw h}|f+1,_,_,_,hw,h=>by rw[Nat.add_right_comm f 1 g];exact⟨λj=>Uj j h.1,λi k=>wpOp_of_qOp hw (λd w' b e=>GQ c f _ d w' b e) (h.2 i k).2⟩
theorem GM{n i:Nat}{y:a9}{v:a0}{L:Array Bool->bf->Prop}(B:ops[i]?=some y)(g:∀(j:Nat) (o:a9) cs b,ops[j]?=some o->o.op≠.select cs b)(hs:a2 md ops n=ak)(hc:aT md ops n=ak)(G:n<ops.size)(s:i<n)(F:∀done a,L done a->∀j∈az md ops done,n<=j):∀(f:Nat) (done:Array Bool) (a:bf),bj md ops n done->(∀j oj,ops[j]?=some oj->j≠i->done.getD j ak=bk->(∀e∈oj.after,a3 md e=ak->e.on≠i)->y.apart ops oj=ak)->i∈az md ops done->YieldsIn P ops C y v a->heads P md ops C n L f (done.setIfInBounds i ak) (a.put y.dst v)->heads P md ops C n L (f+1) done a|f,done,a,inv,d,z,hy,H=>by have x:=(mem_ready.1 z).1;have q:∀j∈az md ops done,j<n:=λj l=>by{rcases Nat.lt_or_ge j n with h|h;{exact h};exact Uj l (tail_waits hs hc G inv _ i rfl s x j h)};refine⟨λh=>(by rw[h]at z;cases z),λj l=>⟨q j l,?_⟩⟩;by_cases c:j=i;{subst c;exact hy.qOp B H};match f,H with|0,H=>{have h1:=F _ _ H j (a5 l c);have h2:=q j l;omega}|f+1,H=>have h1:=(H.2 j (a5 l c)).2;obtain⟨m,oj,p,r⟩:=mem_ready.1 l;have w:∀e∈oj.after,a3 md e=ak->e.on≠i:=λe K J A=>by{have h3:=r e K J;rw[A,getD_both x]at h3;cases h3};have h2:=qOp_put p (d j oj p c m w) (λcs b=>g i y cs b B) (λcs b=>g j oj cs b p) hy h1;refine qOp_mono (λI h3=>GM B g hs hc G s F f _ I (inv.set l (q j l)) ?_ (a5 z (Ne.symm c)) h3.1 ?_) h2;{intro k ok M D u E;refine d k ok M D ?_ E;by_cases t:j=k;{subst t;exact m};rwa[getD_set_ne ak t]at u};rw[Array.setIfInBounds_comm _ _ c];exact h3.2
theorem GN{n g:Nat}{f:bf->Prop}(b:Region.noSelect ops=ak)(hs:a2 md ops n=ak)(hc:aT md ops n=ak)(p:n<ops.size):∀(l:List a9) (k:Nat) (done:Array Bool) (a:bf),(∀j,j<l.length->l[j]?=ops[k+j]?)->k+l.length=n->bj md ops n done->aQ md ops g l.length k done=ak->aG P ops C f l a->heads P md ops C n (λd m=>Region.seqB md ops g n d=ak/\f m) l.length done a|[],k,done,a,_,i,_,c,h=>by{obtain rfl:k=n:=i;exact⟨c,h⟩}|o::l,k,done,a,hl,i,inv,c,h=>by have e:ops[k]?=some o:=(hl 0 (Nat.succ_pos _)).symm;simp only[aE,aQ,aS]at c;rw[aE]at i;have q:k∈az md ops done:=by{simpa using c.1.1};have t:qOp P ops C k (aG P ops C f l) a:=by{unfold qOp;rw[e];exact h};obtain⟨v,u,r⟩:=yieldsIn_of_qOp e t;refine GM e (Region.noSelect_spec b) hs hc p Oz (λd m s=>seqB_ready s.1) l.length done a inv (Region.free_spec e c.1.2) q u ?_;refine GN b hs hc p l (k+1) _ _ (λj w=>?_) Oz (inv.set q Oz) c.2 r;have h1:=hl (j+1) (by rw[aE];omega);rw[show k+1+j=k+(j+1) by omega];exact h1
theorem wp_region{B:Nat}(n:Nat)(u:P.follows .mixedOrders=ak)(m:aF .any l.toArray n=ak)(s:C {w with drawn:=w.drawn+1})(h:aG P l.toArray C (λi=>∀w',C w'->a7 P l.toArray Q (l.drop n) i w') (l.take n) a):(Code.region B l.toArray ak).wp P Q a w:=by simp only[aF,aS,decide_eq_true_eq]at m;obtain⟨⟨⟨⟨f,r⟩,hs⟩,hc⟩,e⟩:=m;have v:n<l.length:=by{simpa using r};have b:(l.take n).length=n:=by{rw[List.length_take];omega};have c:(l.drop n).length=l.toArray.size-n:=Ow;have inv:bj .any l.toArray n (Array.replicate l.toArray.size bk):=⟨Array.size_replicate,λj oj _ q=>(by rw[aU]at q;cases q),λt _ x=>getD_in (by simpa using x) (aU _ _)⟩;have H:=GN (md:=.any) (g:=l.toArray.size-n) f hs hc r (l.take n) 0 _ a (λj p=>by rw[b]at p;simp[p]) (by rw[b];omega) inv (by rw[b];exact e) h;refine wp_region_any u ?_;have h2:=GQ (Q':=Q) (g:=l.toArray.size-n) (λd i w' k o=>by have h3:=wpAny_of_seq (md:=.any) (Q':=Q) (l.drop n) n d i w' (λj=>by simp[List.getElem?_drop]) (by rw[c];exact o.1) (o.2 w' k);rwa[c]at h3) _ _ _ _ s H;rw[b,show n+(l.toArray.size-n)=l.toArray.size by omega]at h2;exact h2
end
theorem region{P:aP}{I:aH->Prop}{k:Nat}(n:Nat)(i:I {w with drawn:=w.drawn+1})(j:P.follows .mixedOrders=ak)(g:aF .any l.toArray n=ak)(h:aG P l.toArray (λw'=>∃x:aq.In I,w'=x.val) (λb=>∀x:aq.In I,a7 P l.toArray Q (l.drop n) b x.val) (l.take n) a):(Code.region k l.toArray ak).wp P Q a w:=by refine wp_region (C:=λw'=>∃x:aq.In I,w'=x.val) n j g ⟨⟨_,i⟩,rfl⟩ ?_;have d:∀(f:List a9) (b:bf),aG P l.toArray (λw'=>∃x:aq.In I,w'=x.val) (λb=>∀x:aq.In I,a7 P l.toArray Q (l.drop n) b x.val) f b->aG P l.toArray (λw'=>∃x:aq.In I,w'=x.val) (λb=>∀w',(∃x:aq.In I,w'=x.val)->a7 P l.toArray Q (l.drop n) b w') f b:=by{intro f;induction f with|nil=>{intro b c w' e;obtain⟨x,rfl⟩:=e;exact c x}|cons o rest ih=>intro b c;unfold aG at c|-;split;{rename_i e;rw[Uy e]at c;exact Oper.quiet_mono ih c};rename_i e;rw[Uz e]at c;exact ih _ c};exact d _ _ h
end eO
