/- Lemmas that TopSolvent leans on, without conditions: TcT TcU. -/
import Derived.Test.YtpbgmpjnfndfjaaGreatDoorKBJ
set_option linter.all false
namespace Go.Proofs.YtpbgmpjnfndfjaaGreatDoor
open List renaming length_append->ad,getElem?_eq_some_iff->ak,length_singleton->aE,getElem?_append_left->aG,flatMap_singleton->aP,flatMap_append->aS,length_set->aT,getElem?_append_right->aU
open Value renaming slice->az,string->aL,bool->a4
open Option renaming none->aB,some->aH
open Nat renaming lt_of_lt_of_le->aD,zero_add->a0,le_refl->a3,sub_self->a6,le_trans->a7
open Go renaming Value->aF,World->aQ,maxLen->a2,TypeId->a5,Addr->a8
open Go.RowKit bZ bw cQ eH
variable{hs p xs:List aF}{v:aF}{base c cp g n:Nat}{T:a5}{col:Nat->Nat}{rows:List (List Rat)}{r:List Rat}{W:aQ}
namespace kH
def eN(κ:Nat->Nat)(N c:Nat):Nat->Nat:=λb=>if b<N then κ b else c
theorem eN.old{κ:Nat->Nat}{N c b:Nat}(h:b<N):eN κ N c b=κ b:=Uy h
theorem eN.new{κ:Nat->Nat}{N c b:Nat}(h:N<=b):eN κ N c b=c:=Uz Oz
structure aM (d:Nat) (κ:Nat->Nat) (w:aQ) (aX:Nat->Nat) (w':aQ):Prop where
 ks:av (λb=>κ b=d) w w'
 co:∀b,b<w.1.size->aX b=κ b
section
variable {κ aX MT:Nat->Nat} {w w' jg:aQ} {c d:Nat}
theorem aM.below(h:Below w.1.size w w')(e d:Nat):aM d κ w (eN κ w.1.size e) w':=⟨av.fb h,λ_ a=>eN.old a⟩
theorem aM.set{p:a8}(a:κ p.block=d)(v:aF):aM d κ w κ (w.setCell p v):=⟨(av.refl _ w).setCell (.inl a) v,λ_ _=>rfl⟩
theorem aM.grown(hc:∀g,v.ownBlock=aH g->κ g=d)(b:w.grownBy w' v.ownBlock):aM d κ w (eN κ w.1.size d) w':=by have h:=av.ku b;exact⟨⟨h.os,h.tape,h.output,h.size,λk c f=>h.block k c (λe=>f (hc k e.symm))⟩,λ_ a=>eN.old a⟩
theorem aM.trans(h:aM d κ w aX w')(h2:aM d aX w' MT jg):aM d κ w MT jg:=⟨⟨h2.ks.os.trans h.ks.os,h2.ks.tape.trans h.ks.tape,h2.ks.output.trans h.ks.output,a7 h.ks.size h2.ks.size,λk a f=>(h2.ks.block k (aD a h.ks.size) (λe=>f (by rw[<-h.co k a];exact e))).trans (h.ks.block k a f)⟩,λb c=>(h2.co b (aD c h.ks.size)).trans (h.co b c)⟩
def fu(κ:Nat->Nat)(c:Nat)(w:aQ)(g:Nat)(T:a5)(L:List aF):Prop:=ai w g T L/\κ g=c
theorem fu.ah{L:List aF}(h:fu κ c w g T L)(hs:aM d κ w aX w')(a:c≠d):fu aX c w' g T L:=⟨hs.ks.aC h.1 (λe=>a (by rw[<-h.2];exact e)),by rw[hs.co g h.1.lt];exact h.2⟩
def fG(κ:Nat->Nat)(c:Nat)(w:aQ)(base:Nat)(T:a5)(sz:Nat)(v:aF)(n:Nat)(xs:List aF):Prop:=w.ownsRow base T sz v n xs/\∀g,v.ownBlock=aH g->κ g=c
theorem fG.ah{sz:Nat}(h:fG κ c w base T sz v n xs)(hs:aM d κ w aX w')(b:c≠d):fG aX c w' base T sz v n xs:=⟨ml h.1 hs.ks (λg a e=>b (by rw[<-h.2 g a];exact e)),λg a=>by rw[hs.co g (h.1.lt g a).2];exact h.2 g a⟩
theorem fG.nil(base:Nat)(T:a5)(sz:Nat):fG κ c w base T sz (az aB 0 0) 0 []:=⟨World.ownsRow_nil _ _ _ _,λg h=>by cases h⟩
theorem fG.push{sz m:Nat}{v':aF}(h:fG κ c w base T sz v n xs)(d:w'.ownsRow base T sz v' m p)(b:v'.ownBlock=v.ownBlock\/v'.ownBlock=aH w.1.size):fG (eN κ w.1.size c) c w' base T sz v' m p:=⟨d,λg a=>by rcases b with e|e;{rw[e]at a;rw[eN.old (h.1.lt g a).2];exact h.2 g a};rw[e]at a;injection a with a;subst a;exact eN.new (a3 _)⟩
def lK(κ col:Nat->Nat)(w:aQ)(hs:List aF)(rows:List (List Rat)):Prop:=∀(k:Nat) (r:List Rat),rows[k]?=aH r->∃g cp p,hs[k]?=aH (az (aH ⟨g,0,aB⟩) r.length cp)/\fu κ (col k) w g 32 (r.flatMap aw++p)
theorem lK.ah(h:lK κ col w hs rows)(b:aM d κ w aX w')(a:∀k,k<rows.length->col k≠d):lK aX col w' hs rows:=λk r c=>by obtain⟨g,cp,p,h1,h2⟩:=h k r c;exact⟨g,cp,p,h1,h2.ah b (a k (ak.1 c).1)⟩
theorem lK.nil:lK κ col w [] []:=λk r h=>by simp at h
theorem lK.push(h:lK κ col w hs rows)(j:hs.length=rows.length)(i:fu κ (col rows.length) w g 32 (r.flatMap aw++p)):lK κ col w (hs++[az (aH ⟨g,0,aB⟩) r.length cp]) (rows++[r]):=λk q a=>by by_cases d:k<rows.length;{rw[aG d]at a;obtain⟨f,c1,l,ap,e⟩:=h k q a;exact⟨f,c1,l,by rw[aG Oz];exact ap,e⟩};have c:=(ak.1 a).1;rw[ad,aE]at c;have b:k=rows.length:=Oz;subst b;rw[aU (a3 _),a6,List.getElem?_cons_zero]at a;injection a with a;subst a;exact⟨g,cp,p,by rw[<-j,aU (a3 _),a6];rfl,i⟩
def sU(κ:Nat->Nat)(cW w:aQ):Prop:=Below cW.1.size cW w/\∀b,b<cW.1.size->κ b=1000
theorem sU.ah{cW:aQ}(h:sU κ cW w)(hs:aM d κ w aX w')(hd:d≠1000):sU aX cW w':=⟨⟨hs.ks.os.trans h.1.os,hs.ks.tape.trans h.1.tape,hs.ks.output.trans h.1.output,a7 h.1.size hs.ks.size,λk a=>(hs.ks.block k (aD a h.1.size) (λe=>hd (e.symm.trans (h.2 k a)))).trans (h.1.block k a)⟩,λb c=>by rw[hs.co b (aD c h.1.size)];exact h.2 b c⟩
end
end kH
namespace kY
open bA bC bD bP aZ dS cV du dL gp gq iP jB kH
structure lE where
 uk:aF
 v1:aF
 v2:aF
 v3:aF
 v4:aF
 v5:aF
 v6:aF
 iJ:aF
 h1:List aF
 h2:List aF
 h3:List aF
 h4:List aF
 G:List (List Rat)
 D:List (List Rat)
 Z:List (List Rat)
 N:List (List Rat)
 Su:List Rat
 Re:List Rat
 Fu:List Bool
 dR:Nat
 jv:List aF
 jL:Nat
 rl:List aF
def lE.vals(d:lE):List aF:=[d.uk,d.v1,d.v2,d.v3,d.v4,d.v5,d.v6,d.iJ]
structure fC (κ:Nat->Nat) (cW:aQ) (base:Nat) (w:aQ) (aY:Nat) (d:lE):Prop where
 eX:sU κ cW w
 o:fu κ 0 w aY 70 d.vals
 bO:fG κ 1 w base 38 1 d.v1 d.G.length d.h1
 bB:lK κ (λ_=>11) w d.h1 d.G
 eo:fG κ 2 w base 38 1 d.v2 d.D.length d.h2
 cn:lK κ (λ_=>12) w d.h2 d.D
 fO:fG κ 3 w base 38 1 d.v3 d.Z.length d.h3
 jd:lK κ (λk=>100+k) w d.h3 d.Z
 kt:fG κ 4 w base 38 1 d.v4 d.N.length d.h4
 mL:lK κ (λk=>200+k) w d.h4 d.N
 fa:fG κ 5 w base 32 3 d.v5 d.Su.length (d.Su.flatMap aw)
 kf:fG κ 6 w base 32 3 d.v6 d.Re.length (d.Re.flatMap aw)
 iW:fG κ 7 w base 4 1 d.iJ d.Fu.length (d.Fu.flatMap eJ)
 pA:fu κ 10 w d.dR 32 d.jv
 res:fu κ 20 w d.jL 70 d.rl
 zl:d.Z.length<=16
 fq:d.N.length<=16
section
variable {α:Type} {sz:Nat} {vals:α->List aF} {P P' S:Nat->Prop} {w w':aQ} {A:Option a8} {l:List α} {rows:List (List Rat)}
def jy(sz:Nat)(vals:α->List aF)(P:Nat->Prop)(w:aQ)(A:Option a8)(l:List α):Prop:=l.length<=a2/\(0<l.length->∃b a,A=aH ⟨b,a,aB⟩/\b<w.1.size/\P b/\∀k x,l[k]?=aH x->∀j v,(vals x)[j]?=aH v->w.cell? ⟨b,a+k*sz+j,aB⟩=aH v)
theorem wE{b o:Nat}(c:av S w w')(a:b<w.1.size)(d:¬S b):w'.cell? ⟨b,o,aB⟩=w.cell? ⟨b,o,aB⟩:=World.cell?_of_block (c.block b a d)
theorem jy.ks(h:jy sz vals P w A l)(g:av S w w')(d:∀b,b<w.1.size->P b->¬S b/\P' b):jy sz vals P' w' A l:=⟨h.1,λi=>by obtain⟨b,c,e,a,f,hc⟩:=h.2 i;exact⟨b,c,e,aD a g.size,(d b a f).2,λk x n j v m=>(wE g a (d b a f).1).trans (hc k x n j v m)⟩⟩
theorem jy.row(h:jy sz vals P w A l):dY sz vals w.1.size w A l:=⟨h.1,λd=>by obtain⟨b,c,e,a,_,hc⟩:=h.2 d;exact⟨b,c,e,a,hc⟩⟩
def qG(P:Nat->Prop)(w:aQ)(A:Option a8)(rows:List (List Rat)):Prop:=rows.length<=a2/\(0<rows.length->∃b a,A=aH ⟨b,a,aB⟩/\b<w.1.size/\P b/\∀k r,rows[k]?=aH r->∃d c,jy 3 aw P w d r/\w.cell? ⟨b,a+k,aB⟩=aH (az d r.length c))
theorem qG.ks(h:qG P w A rows)(f:av S w w')(d:∀b,b<w.1.size->P b->¬S b/\P' b):qG P' w' A rows:=⟨h.1,λl=>by obtain⟨b,g,e,a,i,hc⟩:=h.2 l;refine⟨b,g,e,aD a f.size,(d b a i).2,λk t m=>?_⟩;obtain⟨j,c,h1,h2⟩:=hc k t m;exact⟨j,c,h1.ks f d,(wE f a (d b a i).1).trans h2⟩⟩
theorem Da{base c:Nat}{e:a5}(hs:∀x,(vals x).length=sz)(h:w.ownsRow base e sz (az A l.length c) l.length (l.flatMap vals))(p:l.length<=a2):jy sz vals (base<=·) w A l:=⟨p,λq=>by obtain⟨g,pad,m,n,d,_⟩:=mK h q;refine⟨g,0,m,d.lt,n,λk x f j v i=>?_⟩;rw[a0];have o:j<sz:=by{have:=(ak.1 i).1;rwa[hs]at this};have a:=(ak.1 f).1;refine d.cell ?_;have b:k*sz+j<l.length*sz:=by{have h1:(k+1)*sz<=l.length*sz:=Nat.mul_le_mul_right sz a;rw[Nat.succ_mul]at h1;omega};rw[aG (by rw[eA hs];exact b),eT hs l k x f j o,i]⟩
end
section
variable {κ aX:Nat->Nat} {cW w w':aQ} {base aY:Nat} {d:lE}
theorem fC.ah(h:fC κ cW base w aY d)(hs:aM 999 κ w aX w'):fC aX cW base w' aY d:=⟨h.eX.ah hs Oy,h.o.ah hs Oy,h.bO.ah hs Oy,h.bB.ah hs (λ_ _=>Oy),h.eo.ah hs Oy,h.cn.ah hs (λ_ _=>Oy),h.fO.ah hs Oy,h.jd.ah hs (λk a=>by have:=h.zl;omega),h.kt.ah hs Oy,h.mL.ah hs (λk a=>by have:=h.fq;omega),h.fa.ah hs Oy,h.kf.ah hs Oy,h.iW.ah hs Oy,h.pA.ah hs Oy,h.res.ah hs Oy,h.zl,h.fq⟩
theorem Sz{κ:Nat->Nat}{cW w:aQ}{A:Option a8}{rows:List (List Rat)}(a:sU κ cW w)(h:fG κ c w cW.1.size 38 1 (az A rows.length cp) rows.length hs)(u:lK κ col w hs rows)(hc:∀k,k<rows.length->col k≠1000)(s:rows.length<=a2)(q:∀r∈rows,r.length<=a2):qG (cW.1.size<=·) w A rows:=⟨s,λt=>by obtain⟨g,pad,n,o,m,_⟩:=mK h.1 t;refine⟨g,0,n,m.lt,o,λk r d=>?_⟩;obtain⟨l,c1,z,ap,b⟩:=u k r d;have e:=(ak.1 d).1;refine⟨_,c1,⟨q r (List.mem_of_getElem? d),λ_=>⟨l,0,rfl,b.1.lt,Nat.le_of_not_lt (λf=>hc k e (b.2.symm.trans (a.2 l f))),λi x p j v y=>?_⟩⟩,?_⟩;{rw[a0];exact n5 b.1 p y};rw[a0];exact m.cell (by rw[aG (ak.1 ap).1];exact ap)⟩
theorem Sy{c base cp:Nat}{A:Option a8}{rows:List (List Rat)}(h:fG κ c w base 38 1 (az A rows.length cp) rows.length hs)(i:lK κ col w hs rows)(f:rows.length<=a2)(d:∀r∈rows,r.length<=a2):jS w.1.size w A rows:=jH.done (A:=A) (c:=cp) (base:=base) ⟨hs,h.1,λk r b=>by obtain⟨g,cp,p,e,a⟩:=i k r b;exact⟨g,cp,p,e,a.1⟩⟩ f d
theorem fC.Nu(c:fu κ 11 w g 32 (r.flatMap aw++p))(i:d.h1.length=d.G.length)(h:fC κ cW base w aY d)(j:W.ownsRow base 38 1 v (d.G.length+1) (d.h1++[az (aH ⟨g,0,aB⟩) r.length cp]))(f:w.grownBy W d.v1.ownBlock)(e:v.ownBlock=d.v1.ownBlock\/v.ownBlock=aH w.1.size):fC (eN κ w.1.size 1) cW base (W.setCell ⟨aY,1,aB⟩ v) aY {d with v1:=v,h1:=d.h1++[az (aH ⟨g,0,aB⟩) r.length cp],G:=d.G++[r]}:=by have a:=aM.grown (h.bO.2) f;have ha:=h.o.ah a Oy;have b:aM 0 _ W _ (W.setCell ⟨aY,1,aB⟩ v):=aM.set (p:=⟨aY,1,aB⟩) ha.2 v;refine⟨(h.eX.ah a Oy).ah b Oy,⟨ha.1.set 1 v,ha.2⟩,?oj,?rj,(h.eo.ah a Oy).ah b Oy,(h.cn.ah a (λ_ _=>Oy)).ah b (λ_ _=>Oy),(h.fO.ah a Oy).ah b Oy,(h.jd.ah a (λk _=>by have:=h.zl;omega)).ah b (λk _=>Oz),(h.kt.ah a Oy).ah b Oy,(h.mL.ah a (λk _=>by have:=h.fq;omega)).ah b (λk _=>Oz),(h.fa.ah a Oy).ah b Oy,(h.kf.ah a Oy).ah b Oy,(h.iW.ah a Oy).ah b Oy,(h.pA.ah a Oy).ah b Oy,(h.res.ah a Oy).ah b Oy,h.zl,h.fq⟩;(case oj=>have h1:=(h.bO.push j e).ah b Oy;show fG _ _ _ _ _ _ _ (d.G++[r]).length _;rw[ad];exact h1);case rj=>exact((h.bB.push i c).ah a (λ_ _=>Oy)).ah b (λ_ _=>Oy)
theorem fC.Be(c:fu κ 12 w g 32 (r.flatMap aw++p))(i:d.h2.length=d.D.length)(h:fC κ cW base w aY d)(j:W.ownsRow base 38 1 v (d.D.length+1) (d.h2++[az (aH ⟨g,0,aB⟩) r.length cp]))(f:w.grownBy W d.v2.ownBlock)(e:v.ownBlock=d.v2.ownBlock\/v.ownBlock=aH w.1.size):fC (eN κ w.1.size 2) cW base (W.setCell ⟨aY,2,aB⟩ v) aY {d with v2:=v,h2:=d.h2++[az (aH ⟨g,0,aB⟩) r.length cp],D:=d.D++[r]}:=by have a:=aM.grown (h.eo.2) f;have ha:=h.o.ah a Oy;have b:aM 0 _ W _ (W.setCell ⟨aY,2,aB⟩ v):=aM.set (p:=⟨aY,2,aB⟩) ha.2 v;refine⟨(h.eX.ah a Oy).ah b Oy,⟨ha.1.set 2 v,ha.2⟩,(h.bO.ah a Oy).ah b Oy,(h.bB.ah a (λ_ _=>Oy)).ah b (λ_ _=>Oy),?oj,?rj,(h.fO.ah a Oy).ah b Oy,(h.jd.ah a (λk _=>by have:=h.zl;omega)).ah b (λk _=>Oz),(h.kt.ah a Oy).ah b Oy,(h.mL.ah a (λk _=>by have:=h.fq;omega)).ah b (λk _=>Oz),(h.fa.ah a Oy).ah b Oy,(h.kf.ah a Oy).ah b Oy,(h.iW.ah a Oy).ah b Oy,(h.pA.ah a Oy).ah b Oy,(h.res.ah a Oy).ah b Oy,h.zl,h.fq⟩;(case oj=>have h1:=(h.eo.push j e).ah b Oy;show fG _ _ _ _ _ _ _ (d.D++[r]).length _;rw[ad];exact h1);case rj=>exact((h.cn.push i c).ah a (λ_ _=>Oy)).ah b (λ_ _=>Oy)
theorem fC.Bf(c:fu κ (100+d.Z.length) w g 32 (r.flatMap aw++p))(j:d.h3.length=d.Z.length)(m:d.Z.length<16)(h:fC κ cW base w aY d)(l:W.ownsRow base 38 1 v (d.Z.length+1) (d.h3++[az (aH ⟨g,0,aB⟩) r.length cp]))(f:w.grownBy W d.v3.ownBlock)(e:v.ownBlock=d.v3.ownBlock\/v.ownBlock=aH w.1.size):fC (eN κ w.1.size 3) cW base (W.setCell ⟨aY,3,aB⟩ v) aY {d with v3:=v,h3:=d.h3++[az (aH ⟨g,0,aB⟩) r.length cp],Z:=d.Z++[r]}:=by have a:=aM.grown (h.fO.2) f;have ha:=h.o.ah a Oy;have b:aM 0 _ W _ (W.setCell ⟨aY,3,aB⟩ v):=aM.set (p:=⟨aY,3,aB⟩) ha.2 v;refine⟨(h.eX.ah a Oy).ah b Oy,⟨ha.1.set 3 v,ha.2⟩,(h.bO.ah a Oy).ah b Oy,(h.bB.ah a (λ_ _=>Oy)).ah b (λ_ _=>Oy),(h.eo.ah a Oy).ah b Oy,(h.cn.ah a (λ_ _=>Oy)).ah b (λ_ _=>Oy),?oj,?rj,(h.kt.ah a Oy).ah b Oy,(h.mL.ah a (λk _=>by have:=h.fq;omega)).ah b (λk _=>Oz),(h.fa.ah a Oy).ah b Oy,(h.kf.ah a Oy).ah b Oy,(h.iW.ah a Oy).ah b Oy,(h.pA.ah a Oy).ah b Oy,(h.res.ah a Oy).ah b Oy,?zl,h.fq⟩;(case oj=>have h1:=(h.fO.push l e).ah b Oy;show fG _ _ _ _ _ _ _ (d.Z++[r]).length _;rw[ad];exact h1);(case rj=>exact((h.jd.push j c).ah a (λk i=>by rw[ad,aE]at i;omega)).ah b (λk _=>Oz));case zl=>show(d.Z++[r]).length<=16;rw[ad,aE];omega
theorem fC.Nv(c:fu κ (200+d.N.length) w g 32 (r.flatMap aw++p))(j:d.h4.length=d.N.length)(m:d.N.length<16)(h:fC κ cW base w aY d)(l:W.ownsRow base 38 1 v (d.N.length+1) (d.h4++[az (aH ⟨g,0,aB⟩) r.length cp]))(f:w.grownBy W d.v4.ownBlock)(e:v.ownBlock=d.v4.ownBlock\/v.ownBlock=aH w.1.size):fC (eN κ w.1.size 4) cW base (W.setCell ⟨aY,4,aB⟩ v) aY {d with v4:=v,h4:=d.h4++[az (aH ⟨g,0,aB⟩) r.length cp],N:=d.N++[r]}:=by have a:=aM.grown (h.kt.2) f;have ha:=h.o.ah a Oy;have b:aM 0 _ W _ (W.setCell ⟨aY,4,aB⟩ v):=aM.set (p:=⟨aY,4,aB⟩) ha.2 v;refine⟨(h.eX.ah a Oy).ah b Oy,⟨ha.1.set 4 v,ha.2⟩,(h.bO.ah a Oy).ah b Oy,(h.bB.ah a (λ_ _=>Oy)).ah b (λ_ _=>Oy),(h.eo.ah a Oy).ah b Oy,(h.cn.ah a (λ_ _=>Oy)).ah b (λ_ _=>Oy),(h.fO.ah a Oy).ah b Oy,(h.jd.ah a (λk _=>by have:=h.zl;omega)).ah b (λk _=>Oz),?oj,?rj,(h.fa.ah a Oy).ah b Oy,(h.kf.ah a Oy).ah b Oy,(h.iW.ah a Oy).ah b Oy,(h.pA.ah a Oy).ah b Oy,(h.res.ah a Oy).ah b Oy,h.zl,?zl⟩;(case oj=>have h1:=(h.kt.push l e).ah b Oy;show fG _ _ _ _ _ _ _ (d.N++[r]).length _;rw[ad];exact h1);(case rj=>exact((h.mL.push j c).ah a (λk i=>by rw[ad,aE]at i;omega)).ah b (λk _=>Oz));case zl=>show(d.N++[r]).length<=16;rw[ad,aE];omega
theorem fC.Nw{q:Rat}(h:fC κ cW base w aY d)(f:W.ownsRow base 32 3 v (d.Su.length+1) (d.Su.flatMap aw++aw q))(e:w.grownBy W d.v5.ownBlock)(c:v.ownBlock=d.v5.ownBlock\/v.ownBlock=aH w.1.size):fC (eN κ w.1.size 5) cW base (W.setCell ⟨aY,5,aB⟩ v) aY {d with v5:=v,Su:=d.Su++[q]}:=by have a:=aM.grown (h.fa.2) e;have ha:=h.o.ah a Oy;have b:aM 0 _ W _ (W.setCell ⟨aY,5,aB⟩ v):=aM.set (p:=⟨aY,5,aB⟩) ha.2 v;refine⟨(h.eX.ah a Oy).ah b Oy,⟨ha.1.set 5 v,ha.2⟩,(h.bO.ah a Oy).ah b Oy,(h.bB.ah a (λ_ _=>Oy)).ah b (λ_ _=>Oy),(h.eo.ah a Oy).ah b Oy,(h.cn.ah a (λ_ _=>Oy)).ah b (λ_ _=>Oy),(h.fO.ah a Oy).ah b Oy,(h.jd.ah a (λk _=>by have:=h.zl;omega)).ah b (λk _=>Oz),(h.kt.ah a Oy).ah b Oy,(h.mL.ah a (λk _=>by have:=h.fq;omega)).ah b (λk _=>Oz),?oj,(h.kf.ah a Oy).ah b Oy,(h.iW.ah a Oy).ah b Oy,(h.pA.ah a Oy).ah b Oy,(h.res.ah a Oy).ah b Oy,h.zl,h.fq⟩;case oj=>have h1:=(h.fa.push f c).ah b Oy;show fG _ _ _ _ _ _ _ (d.Su++[q]).length ((d.Su++[q]).flatMap aw);rw[ad,aS,aP];exact h1
theorem fC.Nx{q:Rat}(h:fC κ cW base w aY d)(f:W.ownsRow base 32 3 v (d.Re.length+1) (d.Re.flatMap aw++aw q))(e:w.grownBy W d.v6.ownBlock)(c:v.ownBlock=d.v6.ownBlock\/v.ownBlock=aH w.1.size):fC (eN κ w.1.size 6) cW base (W.setCell ⟨aY,6,aB⟩ v) aY {d with v6:=v,Re:=d.Re++[q]}:=by have a:=aM.grown (h.kf.2) e;have ha:=h.o.ah a Oy;have b:aM 0 _ W _ (W.setCell ⟨aY,6,aB⟩ v):=aM.set (p:=⟨aY,6,aB⟩) ha.2 v;refine⟨(h.eX.ah a Oy).ah b Oy,⟨ha.1.set 6 v,ha.2⟩,(h.bO.ah a Oy).ah b Oy,(h.bB.ah a (λ_ _=>Oy)).ah b (λ_ _=>Oy),(h.eo.ah a Oy).ah b Oy,(h.cn.ah a (λ_ _=>Oy)).ah b (λ_ _=>Oy),(h.fO.ah a Oy).ah b Oy,(h.jd.ah a (λk _=>by have:=h.zl;omega)).ah b (λk _=>Oz),(h.kt.ah a Oy).ah b Oy,(h.mL.ah a (λk _=>by have:=h.fq;omega)).ah b (λk _=>Oz),(h.fa.ah a Oy).ah b Oy,?oj,(h.iW.ah a Oy).ah b Oy,(h.pA.ah a Oy).ah b Oy,(h.res.ah a Oy).ah b Oy,h.zl,h.fq⟩;case oj=>have h1:=(h.kf.push f c).ah b Oy;show fG _ _ _ _ _ _ _ (d.Re++[q]).length ((d.Re++[q]).flatMap aw);rw[ad,aS,aP];exact h1
theorem fC.Ny{q:Bool}(h:fC κ cW base w aY d)(f:W.ownsRow base 4 1 v (d.Fu.length+1) (d.Fu.flatMap eJ++eJ q))(e:w.grownBy W d.iJ.ownBlock)(c:v.ownBlock=d.iJ.ownBlock\/v.ownBlock=aH w.1.size):fC (eN κ w.1.size 7) cW base (W.setCell ⟨aY,7,aB⟩ v) aY {d with iJ:=v,Fu:=d.Fu++[q]}:=by have a:=aM.grown (h.iW.2) e;have ha:=h.o.ah a Oy;have b:aM 0 _ W _ (W.setCell ⟨aY,7,aB⟩ v):=aM.set (p:=⟨aY,7,aB⟩) ha.2 v;refine⟨(h.eX.ah a Oy).ah b Oy,⟨ha.1.set 7 v,ha.2⟩,(h.bO.ah a Oy).ah b Oy,(h.bB.ah a (λ_ _=>Oy)).ah b (λ_ _=>Oy),(h.eo.ah a Oy).ah b Oy,(h.cn.ah a (λ_ _=>Oy)).ah b (λ_ _=>Oy),(h.fO.ah a Oy).ah b Oy,(h.jd.ah a (λk _=>by have:=h.zl;omega)).ah b (λk _=>Oz),(h.kt.ah a Oy).ah b Oy,(h.mL.ah a (λk _=>by have:=h.fq;omega)).ah b (λk _=>Oz),(h.fa.ah a Oy).ah b Oy,(h.kf.ah a Oy).ah b Oy,?oj,(h.pA.ah a Oy).ah b Oy,(h.res.ah a Oy).ah b Oy,h.zl,h.fq⟩;case oj=>have h1:=(h.iW.push f c).ah b Oy;show fG _ _ _ _ _ _ _ (d.Fu++[q]).length ((d.Fu++[q]).flatMap eJ);rw[ad,aS,aP];exact h1
theorem fC.U5(h:fC κ cW base w aY d)(hs:aM (200+d.N.length) κ w aX w'):fC aX cW base w' aY d:=have b:=h.fq;⟨h.eX.ah hs Oz,h.o.ah hs Oz,h.bO.ah hs Oz,h.bB.ah hs (λ_ _=>Oz),h.eo.ah hs Oz,h.cn.ah hs (λ_ _=>Oz),h.fO.ah hs Oz,h.jd.ah hs (λk a=>by have:=h.zl;omega),h.kt.ah hs Oz,h.mL.ah hs (λk a=>Oz),h.fa.ah hs Oz,h.kf.ah hs Oz,h.iW.ah hs Oz,h.pA.ah hs Oz,h.res.ah hs Oz,h.zl,h.fq⟩
theorem D7{k:Nat}(a:κ g=c)(x y z:aF):aM c κ w κ (((w.setCell ⟨g,k,aB⟩ x).setCell ⟨g,k+1,aB⟩ y).setCell ⟨g,k+2,aB⟩ z):=((aM.set (p:=⟨g,k,aB⟩) a x).trans (aM.set (p:=⟨g,k+1,aB⟩) a y)).trans (aM.set (p:=⟨g,k+2,aB⟩) a z)
theorem Tb(h:ai w g T (r.flatMap aw++p))(hc:c<r.length)(q:Rat):ai (((w.setCell ⟨g,c*3,aB⟩ (a4 (af q))).setCell ⟨g,c*3+1,aB⟩ (aL (bs (nm q)))).setCell ⟨g,c*3+2,aB⟩ (aL (ag q))) g T ((r.set c q).flatMap aw++p):=by have e:r.set c q=au r.length (bV (λi=>r[i]?.getD 0) c q):=by{rw[<-oA,<-KR]};rw[KR r 0]at h;have h2:=mo h hc q;rw[e];exact h2
theorem fC.VN{i:Nat}{q:Rat}(h:fC κ cW base w aY d)(s:d.Z[i]?=aH r)(o:d.h3[i]?=aH (az (aH ⟨g,0,aB⟩) r.length cp))(b:fu κ (100+i) w g 32 (r.flatMap aw++p))(hc:c<r.length):fC κ cW base (((w.setCell ⟨g,c*3,aB⟩ (a4 (af q))).setCell ⟨g,c*3+1,aB⟩ (aL (bs (nm q)))).setCell ⟨g,c*3+2,aB⟩ (aL (ag q))) aY {d with Z:=d.Z.set i (r.set c q)}:=by have hs:aM (100+i) κ w κ _:=D7 (k:=c*3) b.2 (a4 (af q)) (aL (bs (nm q))) (aL (ag q));have f:=(ak.1 s).1;have t:=h.zl;refine⟨h.eX.ah hs Oz,h.o.ah hs Oz,h.bO.ah hs Oz,h.bB.ah hs (λ_ _=>Oz),h.eo.ah hs Oz,h.cn.ah hs (λ_ _=>Oz),?_,λk l j=>?_,h.kt.ah hs Oz,h.mL.ah hs (λk j=>Oz),h.fa.ah hs Oz,h.kf.ah hs Oz,h.iW.ah hs Oz,h.pA.ah hs Oz,h.res.ah hs Oz,?_,h.fq⟩;{show fG _ _ _ _ _ _ _ (d.Z.set i (r.set c q)).length _;rw[aT];exact h.fO.ah hs Oz};{by_cases e:k=i;{subst e;have a:(d.Z.set k (r.set c q))[k]?=aH l:=j;rw[List.getElem?_set_self f]at a;injection a with a;subst a;exact⟨g,cp,p,by rw[aT];exact o,Tb b.1 hc q,b.2⟩};have a:(d.Z.set i (r.set c q))[k]?=aH l:=j;rw[List.getElem?_set_ne (λh=>e h.symm)]at a;obtain⟨n,c1,u,ap,m⟩:=h.jd k l a;exact⟨n,c1,u,ap,m.ah hs (by show 100+k≠100+i;omega)⟩};show(d.Z.set i (r.set c q)).length<=16;rw[aT];exact t
end
end kY
