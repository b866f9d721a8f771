/- Lemmas that TopSolvent leans on, without conditions: RN. -/
import Derived.Test.YtpbgmpjnfndfjaaGreatDoorKAE
set_option linter.all false
namespace Go.Proofs.YtpbgmpjnfndfjaaGreatDoor
open List renaming getElem?_eq_some_iff->ad,length_take->aH,take_of_length_le->aP,length_set->a4,append_assoc->a9,getElem?_eq_getElem->bf,replicate->bq,length_cons->ck,getD_eq_getElem?_getD->cp,drop_drop->cr,getLast?_cons_cons->cy,drop_eq_nil_of_le->cA,getElem?_take->c5,cons_append->dn,map_const'->dx,drop_left->d0,map_set->d5,set->eG
open Nat renaming div_add_mod->ak,pow_succ->az,mul_le_mul_left->aB,mul_le_mul_right->aD,mul_comm->aE,pow_pos->aL,div_lt_iff_lt_mul->aQ,min_eq_left->aT,lt_of_le_of_lt->aU,eq_zero_or_pos->a0,le_trans->a2,mul_lt_mul_of_pos_right->a5,mod_lt->a6,lt_of_mul_lt_mul_right->a7,lt_of_mul_lt_mul_left->a8,strongRecOn->bk,le_div_iff_mul_le->bn,pow_le_pow_right->bt,pow_add->bE,mul_le_mul->b9,mul_assoc->ce,le_add_left->cm,add_mul_mod_self_left->cw,gcd_comm->cE,add_zero->cG,zero_le->cM,mul_mod_mul_left->cR,div_one->cX,add_mul_div_left->cZ,div_mul_le_self->c4,pos_of_ne_zero->de,lt_of_lt_of_le->df,mod_eq_of_lt->dq,gcd_dvd_left->dr,div_eq_of_lt->dw,testBit_and->dz,mul_add_div->dB,mul_succ->d8,lt_or_ge->d9,add_comm->ej,mod_one->eu
open Option renaming some->aF
open Ending renaming returned->aG
open Value renaming int->aS,slice->cl,string->cz,cells->d6,bool->er
open Bool renaming and_eq_true->a3,false_eq_true->cg,false->d7,true->eP
open Int renaming natCast_ediv->bj,natCast_dvd_natCast->cB,neg_mul->c0,neg_ediv_of_dvd->c6,natAbs_natCast->dg,natCast_mul->d1
open Rat renaming mkRat_self->cv,mkRat_mul_right->c3,lt_iff->c9,zero_mkRat->d2,num_mkRat->d4
open Go renaming World->cx,madeCells->c7,maxLen->d3,Value->eB
open UInt8 renaming ofNat->cD,toNat_inj->dk
open Go.RowKit
variable{B D M T U U0 V b b' base c diff e g i k m n r s top u v v2 x y z:Nat}{O W W' a l out pre:List Nat}{α:Type}{t:Bool}{w:cx}{xs:List eB}
namespace bp
def aj:List Nat->Nat|[]=>0|x::l=>x+4294967296*aj l
def Ok(l:List Nat):Prop:=∀x∈l,x<4294967296
def limbs(n:Nat):List Nat:=if n=0 then[]else n% 4294967296::limbs (n/4294967296)
termination_by n
decreasing_by omega
theorem kL:limbs 0=[]:=by rw[limbs,Uy rfl]
theorem tK(h:n≠0):limbs n=n% 4294967296::limbs (n/4294967296):=by rw[limbs,Uz h]
theorem Cy(a:x<4294967296)(h:x+4294967296*m≠0):limbs (x+4294967296*m)=x::limbs m:=by rw[tK h,show(x+4294967296*m)% 4294967296=x by omega,show(x+4294967296*m)/4294967296=m by omega]
theorem hJ(n:Nat):aj (limbs n)=n:=by induction n using bk with|ind n ih=>by_cases h:n=0;{subst h;rw[kL];rfl};rw[tK h,aj,ih _ Oz];omega
theorem Ok.nil:Ok []:=λ_ h=>by cases h
theorem Ok.cons(b:x<4294967296)(h:Ok l):Ok (x::l):=λy a=>by rcases List.mem_cons.1 a with rfl|a;{exact b};exact h y a
theorem Ok.head(h:Ok (x::l)):x<4294967296:=h x (List.mem_cons_self ..)
theorem Ok.tail(h:Ok (x::l)):Ok l:=λy a=>h y (List.mem_cons_of_mem _ a)
theorem Ok.append{m:List Nat}(h:Ok l)(a:Ok m):Ok (l++m):=λy b=>(List.mem_append.1 b).elim (h y) (a y)
theorem Ok.take(h:Ok l)(k:Nat):Ok (l.take k):=λy a=>h y (List.mem_of_mem_take a)
theorem Ok.drop(h:Ok l)(k:Nat):Ok (l.drop k):=λy a=>h y (List.mem_of_mem_drop a)
theorem Ok.set(h:Ok l)(k:Nat)(a:x<4294967296):Ok (l.set k x):=λy b=>by rcases List.mem_or_eq_of_mem_set b with h1|rfl;{exact h y h1};exact a
theorem Ok.at_(h:Ok l)(a:l[k]?=aF x):x<4294967296:=h x (List.mem_of_getElem? a)
theorem Ok.replicate(n:Nat):Ok (bq n 0):=λy a=>by rw[(List.mem_replicate.1 a).2];omega
theorem tJ(n:Nat):Ok (limbs n):=by induction n using bk with|ind n ih=>by_cases h:n=0;{subst h;rw[kL];exact Ok.nil};rw[tK h];exact Ok.cons Oz (ih _ Oz)
theorem sC(a b:List Nat):aj (a++b)=aj a+4294967296^a.length*aj b:=by induction a with|nil=>simp[aj]|cons x a ih=>simp only[dn,aj,ck,ih,az];grind
theorem sD(a:List Nat)(x:Nat):aj (a++[x])=aj a+4294967296^a.length*x:=by rw[sC];simp[aj]
theorem nD(l:List Nat)(k:Nat)(a:k<=l.length):aj l=aj (l.take k)+4294967296^k*aj (l.drop k):=by have h:=sC (l.take k) (l.drop k);rw[List.take_append_drop,aH,aT a]at h;exact h
theorem wK(n:Nat):aj (bq n 0)=0:=by induction n with|zero=>rfl|succ n ih=>rw[List.replicate_succ,aj,ih]
theorem kM(h:Ok l):aj l<4294967296^l.length:=by induction l with|nil=>simp[aj]|cons x l ih=>have h1:=ih h.tail;have h2:=h.head;simp only[aj,ck,az];omega
theorem zX{l:List α}{x:α}(a:l[k]?=aF x):l.take (k+1)=l.take k++[x]:=by rw[List.take_add_one,a];rfl
theorem drop_at{l:List α}{x:α}(a:l[k]?=aF x):l.drop k=x::l.drop (k+1):=by obtain⟨h,rfl⟩:=ad.1 a;exact List.drop_eq_getElem_cons h
theorem pv(a:l[k]?=aF x):aj (l.take (k+1))=aj (l.take k)+4294967296^k*x:=by have b:k<l.length:=(ad.1 a).1;rw[zX a,sD,aH,aT Oz]
theorem mH(a:l[k]?=aF x):aj (l.drop k)=x+4294967296*aj (l.drop (k+1)):=by rw[drop_at a,aj]
theorem uZ(a:l[k]?=aF x):aj (l.set k y)+4294967296^k*x=aj l+4294967296^k*y:=by induction l generalizing k with|nil=>simp at a|cons z l ih=>cases k with|zero=>{simp at a;subst a;simp[eG,aj];omega}|succ k=>have h:=ih (k:=k) (by simpa using a);simp only[eG,aj,az];grind
theorem Rs{b:List Nat}(ha:Ok a)(d:Ok b)(c:a.length=b.length)(h:aj a=aj b):a=b:=by induction a generalizing b with|nil=>{cases b with|nil=>rfl|cons _ _=>simp at c}|cons x a ih=>cases b with|nil=>simp at c|cons y b=>have h1:=ha.head;have h2:=d.head;simp only[aj]at h;obtain rfl:x=y:=Oz;rw[ih ha.tail d.tail (by simpa using c) Oz]
theorem Rg(h:Ok l)(hc:∀x,l.getLast?=aF x->x≠0):limbs (aj l)=l:=by induction l with|nil=>rw[aj,kL]|cons x l ih=>have c:=h.head;rcases l with _|⟨y,l⟩;{have b:x≠0:=hc x rfl;have h1:aj [x]=x+4294967296*0:=by{simp[aj]};rw[h1,Cy c Oz,kL]};have a:=ih h.tail (λz e=>hc z (by rw[cy];exact e));have b:aj (y::l)≠0:=by{intro d;rw[d,kL]at a;cases a};rw[aj,Cy c Oz,a]
theorem Ie:∀x,(limbs n).getLast?=aF x->x≠0:=by induction n using bk with|ind n ih=>intro x a;by_cases h:n=0;{subst h;rw[kL]at a;cases a};rw[tK h]at a;by_cases h1:n/4294967296=0;{rw[h1,kL]at a;simp at a;omega};have e:=tK h1;have h2:=ih (n/4294967296) Oz x;rw[e]at a h2;rw[cy]at a;exact h2 a
theorem Ig(h:n<4294967296^k):(limbs n).length<=k:=by induction k generalizing n with|zero=>{simp at h;subst h;rw[kL];simp}|succ k ih=>by_cases a:n=0;{subst a;rw[kL];simp};rw[tK a];have:=ih (n:=n/4294967296) (by rw[az]at h;omega);simp;omega
theorem wJ(n:Nat):n<4294967296^(limbs n).length:=by have h:=kM (tJ n);rwa[hJ]at h
theorem zP(h:Ok l)(d:m<=l.length)(g:aj (l.drop m)=0)(f:∀x,0<m->l[m-1]?=aF x->x≠0):l.take m=limbs (aj l):=by have e:aj l=aj (l.take m):=by{rw[nD l m d,g];simp};rw[e,Rg (h.take m)];intro x c;have b:0<m:=by{rcases a0 m with a|a;{subst a;simp at c};exact a};refine f x b ?_;rw[List.getLast?_eq_getElem?,aH,aT d,c5,Uy Oz]at c;exact c
theorem Iv(a:l[k]?=aF 0)(b:aj (l.drop (k+1))=0):aj (l.drop k)=0:=by rw[mH a,b]
theorem wH:(limbs n).length=0↔n=0:=by by_cases h:n=0;{subst h;rw[kL];simp};rw[tK h];simp[h]
theorem Ih(a:n≠0)(h:n<4294967296):limbs n=[n]:=by have:=Cy (x:=n) (m:=0) h Oz;rw[kL]at this;simpa using this
theorem yP(h:(limbs n).length=1):limbs n=[n]/\n≠0/\n<4294967296:=by have h1:n≠0:=λe=>by{subst e;rw[kL]at h;simp at h};have h2:=wJ n;rw[h]at h2;have h3:n<4294967296:=by{simpa using h2};exact⟨Ih h1 h3,h1,h3⟩
theorem yO(h:(limbs m).length<(limbs n).length):m<n:=by rcases d9 m n with h1|h1;{exact h1};have:=Ig (n:=n) (k:=(limbs m).length) (aU h1 (wJ m));omega
theorem yQ{b:List Nat}(ha:Ok a)(f:a.length=b.length)(hd:a.drop (k+1)=b.drop (k+1))(c:a[k]?=aF x)(e:b[k]?=aF y)(h:x<y):aj a<aj b:=by have g:k<a.length:=(ad.1 c).1;have ap:=nD a k Oz;have d:=nD b k Oz;rw[mH c]at ap;rw[mH e]at d;have h1:=kM (ha.take k);rw[aH,aT Oz]at h1;rw[hd]at ap;have h3:4294967296^k*(x+4294967296*aj (b.drop (k+1)))+4294967296^k<=4294967296^k*(y+4294967296*aj (b.drop (k+1))):=by{rw[<-d8];exact aB _ Oz};omega
end bp
namespace bu
open bp
def dE:List UInt8->Nat|[]=>0|c::l=>256^l.length*c.toNat+dE l
def bytesOf(n:Nat):List UInt8:=if n=0 then[]else bytesOf (n/256)++[cD (n% 256)]
termination_by n
decreasing_by omega
theorem mV:bytesOf 0=[]:=by rw[bytesOf,Uy rfl]
theorem Bm(h:n≠0):bytesOf n=bytesOf (n/256)++[cD (n% 256)]:=by rw[bytesOf,Uz h]
theorem Fg(a b:List UInt8):dE (a++b)=256^b.length*dE a+dE b:=by induction a with|nil=>simp[dE]|cons x a ih=>simp only[dn,dE,List.length_append,ih,bE];grind
theorem Fi(a:List UInt8)(c:UInt8):dE (a++[c])=256*dE a+c.toNat:=by rw[Fg];simp[dE]
theorem oM(l:List UInt8):dE l<256^l.length:=by induction l with|nil=>simp[dE]|cons c l ih=>have h:=c.toNat_lt;simp only[dE,ck,az];have h2:256^l.length*c.toNat<=256^l.length*255:=aB _ Oz;omega
theorem toNat_ofNat(h:n<256):(cD n).toNat=n:=by simp;omega
theorem lX(n:Nat):dE (bytesOf n)=n:=by induction n using bk with|ind n ih=>by_cases h:n=0;{subst h;rw[mV];rfl};rw[Bm h,Fi,ih _ Oz,toNat_ofNat Oz];omega
theorem Bn{c:UInt8}(h:256*m+c.toNat≠0):bytesOf (256*m+c.toNat)=bytesOf m++[c]:=by have hc:=c.toNat_lt;rw[Bm h,show(256*m+c.toNat)/256=m by omega,show(256*m+c.toNat)% 256=c.toNat by omega];simp
theorem FN(a b:List UInt8):(a++b).dropWhile (·==0)=if a.all (·==0)then b.dropWhile (·==0)else a.dropWhile (·==0)++b:=by induction a with|nil=>simp|cons x a ih=>by_cases h:x=0;{subst h;simpa using ih};simp[h]
theorem Fj(l:List UInt8):dE l=0↔l.all (·==0)=eP:=by induction l with|nil=>simp[dE]|cons c l ih=>have a:0<256^l.length:=aL Oz;simp only[dE,List.all_cons,a3,beq_iff_eq];rw[<-ih];constructor;{intro h;have h1:256^l.length*c.toNat=0:=Oz;rcases Nat.mul_eq_zero.1 h1 with h2|h2;{omega};exact⟨dk.1 (by simpa using h2),Oz⟩};rintro⟨rfl,h⟩;simp[h]
theorem FO(l:List UInt8):l.dropWhile (·==0)=bytesOf (dE l):=by induction h:l.length generalizing l with|zero=>{have:l=[]:=List.eq_nil_of_length_eq_zero h;subst this;simp[dE,mV]}|succ k ih=>have b:l≠[]:=λe=>by{subst e;simp at h};obtain⟨a,c,rfl⟩:∃a c,l=a++[c]:=⟨l.dropLast,l.getLast b,(List.dropLast_concat_getLast b).symm⟩;have i:a.length=k:=by{simpa using h};rw[FN,Fi];by_cases d:a.all (·==0)=eP;{rw[Uy d];have f:=(Fj a).2 d;rw[f];by_cases hc:c=0;{subst hc;simp[mV]};have g:c.toNat≠0:=λe=>hc (dk.1 (by simpa using e));have:=Bn (m:=0) (c:=c) Oz;rw[mV]at this;rw[this];simp[hc]};rw[Uz d,ih a i];have f:dE a≠0:=λe=>d ((Fj a).1 e);rw[Bn Oz]
theorem qQ(h:n<256^k):(bytesOf n).length<=k:=by induction k generalizing n with|zero=>{simp at h;subst h;rw[mV];simp}|succ k ih=>by_cases a:n=0;{subst a;rw[mV];simp};rw[Bm a];have:=ih (n:=n/256) (by rw[az]at h;omega);simp;omega
theorem ye{a:Nat}(h:bytesOf a=bytesOf b):a=b:=by rw[<-lX a,<-lX b,h]
theorem vY:bytesOf n=[]↔n=0:=by constructor;{intro h;have:=lX n;rw[h]at this;exact this.symm};rintro rfl;exact mV
theorem uH:bytesOf 1=[1]:=by have:=Bn (m:=0) (c:=1) Ow;rw[mV]at this;simpa using this
theorem Fh {l:List UInt8} {c:UInt8} (hk:l[k]?=aF c):dE (l.drop k)=256^(l.length-(k+1))*c.toNat+dE (l.drop (k+1)):=by
 rw[take_drop_at hk,dE,List.length_drop]
where
 take_drop_at {l:List UInt8} {k:Nat} {c:UInt8} (hk:l[k]?=aF c):l.drop k=c::l.drop (k+1):=bp.drop_at hk
theorem zi(j:Nat):256^(4*j)=4294967296^j:=by rw[Nat.pow_mul]
theorem Dq(i:Nat):256^i=4294967296^(i/4)*256^(i% 4):=by rw[<-zi,<-bE,ak]
theorem Ic(h:aj l<256^i)(a:l[i/4]?=aF x):x<256^(i% 4):=by have b:i/4<l.length:=(ad.1 a).1;have e:=nD l (i/4) Oz;rw[mH a]at e;rw[Dq]at h;have c:0<4294967296^(i/4):=aL Oz;have h1:4294967296^(i/4)*x<=aj l:=by{rw[e];refine a2 ?_ (cm _ _);exact aB _ Oz};exact a8 (aU h1 h)
theorem Iu(a:l[i/4]?=aF x):aj (l.set (i/4) (x+c*256^(i% 4)))=aj l+256^i*c:=by have h:=uZ (y:=x+c*256^(i% 4)) a;have e:=Dq i;grind
theorem Rr(a:Ok l)(b:l[i/4]?=aF x):aj l/256^i% 256=x/256^(i% 4)% 256:=by have d:i/4<l.length:=(ad.1 b).1;have e:=nD l (i/4) Oz;have h1:=kM (a.take (i/4));rw[aH,aT Oz]at h1;rw[mH b]at e;have h2:aj l/4294967296^(i/4)=x+4294967296*aj (l.drop (i/4+1)):=by{rw[e,ej,dB (aL Oz),dw h1,cG]};rw[Dq,<-Nat.div_div_eq_div_mul,h2];have h4:i% 4<4:=a6 _ Oz;have c:x<4294967296:=a.at_ b;generalize aj (l.drop (i/4+1))=m;rcases(by omega:i% 4=0\/i% 4=1\/i% 4=2\/i% 4=3)with h|h|h|h<;>rw[h]<;>simp<;>omega
end bu
namespace fH
open bp bu
def sz(n:Nat):Nat:=(limbs n).length
theorem Vo:sz 0=0:=by unfold sz;rw[kL];rfl
theorem Eg(n:Nat):n<4294967296^sz n:=wJ n
theorem Ef(h:n<4294967296^k):sz n<=k:=Ig h
theorem uf(h:m<=n):sz m<=sz n:=Ef (aU h (Eg n))
theorem Vn(m n:Nat):sz (m-n)<=sz m:=uf (Nat.sub_le _ _)
theorem Ee(m n:Nat):sz (m/n)<=sz m:=uf (Nat.div_le_self _ _)
theorem Eh(m n:Nat):sz (m% n)<=sz m:=uf (Nat.mod_le _ _)
theorem LX(h:0<n):sz (m.gcd n)<=sz n:=uf (Nat.gcd_le_right _ h)
theorem vy(h:n≠0):0<sz n:=by rcases a0 (sz n)with a|a;{exact Uj (wH.1 a) h};exact a
theorem LV{l:List UInt8}(h:l.length<=4*k):sz (dE l)<=k:=by refine Ef ?_;rw[<-zi];exact df (oM l) (bt Oz h)
end fH
namespace gT
open bp
def dJ(top u v1 v2:Nat):Nat:=min 4294967295 ((top*4294967296+u)/(v1*4294967296+v2))
theorem yx(top u v1 v2:Nat):dJ top u v1 v2<4294967296:=by unfold dJ;omega
theorem BG(top u v1 v2:Nat):dJ top u v1 v2*(v1*4294967296+v2)<=top*4294967296+u:=a2 (aD _ (Nat.min_le_right _ _)) (c4 _ _)
theorem Hp{v1:Nat}(b:0<v1)(h:g<4294967296)(a:g*(v1*4294967296+v2)<=top*4294967296+u):g<=dJ top u v1 v2:=by unfold dJ;have:=(bn (by omega:0<v1*4294967296+v2)).2 a;omega
theorem Gf{v1:Nat}(a:0<v1)(b:u<4294967296):dJ top u v1 v2<=top/v1:=by rw[bn a];have h:=BG top u v1 v2;have e:dJ top u v1 v2*(v1*4294967296+v2)=dJ top u v1 v2*v1*4294967296+dJ top u v1 v2*v2:=Oj;omega
theorem LB{v1:Nat}(b:2147483648<=v1)(a:top<(v1+1)*4294967296):top/v1<=4294967297:=by have:top/v1<4294967298:=(aQ Oz).2 Oz;omega
theorem Ge{v1:Nat}(b:g*v1+r=top)(hc:4294967296<=g\/r*4294967296+u<g*v2):dJ top u v1 v2<=g-1/\1<=g:=by rcases hc with hc|hc;{have:=yx top u v1 v2;omega};have c:=BG top u v1 v2;have e:g*(v1*4294967296+v2)=g*v1*4294967296+g*v2:=Oj;have a:dJ top u v1 v2*(v1*4294967296+v2)<g*(v1*4294967296+v2):=Oz;have:=a7 a;omega
theorem BH{v1:Nat}(a:0<v1)(b:g*v1+r=top)(h1:g<4294967296)(hc:g*v2<=r*4294967296+u):g<=dJ top u v1 v2:=by refine Hp a h1 ?_;have e:g*(v1*4294967296+v2)=g*v1*4294967296+g*v2:=Oj;omega
theorem Gd{v1:Nat}(b:0<v1)(f:top<(v1+1)*4294967296)(c:v2<4294967296)(d:g<=4294967296)(a:g*v1+r=top)(e:4294967296<=r):g<=dJ top u v1 v2:=by have h1:g<4294967296:=by{rcases(by omega:g<4294967296\/g=4294967296)with h|h;{exact h};subst h;omega};refine BH b a h1 ?_;have h2:g*v2<=4294967296*4294967296:=b9 Oz Oz;omega
theorem PB{v1 P D2:Nat}(i:top*4294967296+u=T)(h:v1*4294967296+v2=D2)(o:0<P)(r:0<v1)(p:k<P)(m:n<P)(c:T*P+k<(D2*P+n)*4294967296):(T*P+k)/(D2*P+n)<=dJ top u v1 v2/\dJ top u v1 v2<=(T*P+k)/(D2*P+n)+1:=by have l:4294967296<=D2:=Oz;have b:0<D2*P+n:=by{have:=Nat.mul_pos (by omega:0<D2) o;omega};have j:=BG top u v1 v2;have t:=yx top u v1 v2;rw[i,h]at j;constructor;{have v:(T*P+k)/(D2*P+n)*(D2*P+n)<=T*P+k:=c4 _ _;have d:(T*P+k)/(D2*P+n)<4294967296:=(aQ b).2 (by rw[aE 4294967296];exact c);generalize (T*P+k)/(D2*P+n)=q at*;refine Hp r d ?_;rw[i,h];have e:q*(D2*P+n)=q*D2*P+q*n:=Oj;have h2:q*D2*P<(T+1)*P:=by{rw[Nat.succ_mul];omega};have:=a7 h2;omega};generalize dJ top u v1 v2=g at*;rcases a0 g with f|f;{rw[f];exact cM _};obtain⟨a,rfl⟩:∃a,g=a+1:=⟨g-1,Oz⟩;have:a<=(T*P+k)/(D2*P+n):=by{rw[bn b];have h1:a*n<=D2*P:=by{have:=b9 (by omega:a<=D2) (by omega:n<=P);exact this};have h2:(a+1)*D2*P<=T*P:=aD _ j;have ap:a*(D2*P+n)=a*D2*P+a*n:=Oj;have s:(a+1)*D2*P=a*D2*P+D2*P:=Oj;omega};exact Nat.succ_le_succ this
theorem LH{q:Nat}(a:0<D)(f:U/D=q)(d:g=q\/g=q+1)(h:n+g*D=U+b*M)(c:b=0):g=q/\n=U% D:=by subst c;have e:=ak U D;have i:=a6 U a;rw[f]at e;rcases d with rfl|rfl;{refine⟨rfl,?_⟩;have:g*D=D*g:=aE _ _;omega};have:(q+1)*D=D*q+D:=Oj;omega
theorem LD{q:Nat}(a:0<D)(f:U/D=q)(d:g=q\/g=q+1)(j:n<M)(h:n+g*D=U+b*M)(c:b=1):g=q+1/\n+D=U% D+M:=by subst c;have e:=ak U D;have i:=a6 U a;rw[f]at e;rcases d with rfl|rfl;{have:g*D=D*g:=aE _ _;omega};have:(q+1)*D=D*q+D:=Oj;omega
end gT
namespace fA
open bp bu fH
theorem Fm(h:Ok l)(a:l.length=sz (aj l)):l=limbs (aj l):=Rs h (tJ _) a (by rw[hJ])
theorem pow_pos(k:Nat):0<4294967296^k:=aL Oz
theorem ow(h:l.length<=k):aj (l.take k)=aj l:=by rw[aP h]
theorem Rt(h:l.length<=k):aj (l.take (k+1))=aj (l.take k):=by rw[ow h,ow Oz]
def iG(l:List Nat)(k:Nat):Nat:=l.getD k 0
theorem r3(h:l[k]?=aF x):iG l k=x:=by unfold iG;rw[cp,h];rfl
theorem v8(h:l.length<=k):iG l k=0:=by unfold iG;rw[cp,List.getElem?_eq_none h];rfl
theorem Br(h:Ok l)(k:Nat):iG l k<4294967296:=by by_cases a:k<l.length;{rw[r3 (bf a)];exact h _ (List.getElem_mem a)};rw[v8 Oz];omega
theorem yR(l:List Nat)(k:Nat):aj (l.take (k+1))=aj (l.take k)+4294967296^k*iG l k:=by by_cases a:k<l.length;{rw[pv (bf a),r3 (bf a)]};rw[Rt Oz,v8 Oz];simp
theorem take_len(h:k<=l.length):(l.take k).length=k:=by rw[aH,aT h]
theorem Ng{b:List Nat}(h:aj out+c*4294967296^i=aj (a.take i)+aj (b.take i))(d:out.length=i):aj (out++[(iG a i+iG b i+c)% 4294967296])+(iG a i+iG b i+c)/4294967296*4294967296^(i+1)=aj (a.take (i+1))+aj (b.take (i+1)):=by rw[sD,yR,yR,d,az];have e:=ak (iG a i+iG b i+c) 4294967296;generalize (iG a i+iG b i+c)% 4294967296=r at e|-;generalize (iG a i+iG b i+c)/4294967296=q at e|-;grind
theorem Vd{b:List Nat}(h:aj out+aj (b.take i)=aj (a.take i)+c*4294967296^i)(d:out.length=i)(e:x+iG b i+c=iG a i+n*4294967296):aj (out++[x])+aj (b.take (i+1))=aj (a.take (i+1))+n*4294967296^(i+1):=by rw[sD,yR,yR,d,az];grind
theorem Eu(h:aj l<4294967296^k)(b:l[k]?=aF x):x=0:=by have c:k<l.length:=(ad.1 b).1;have e:=nD l k Oz;rw[mH b]at e;rcases a0 x with a|a;{exact a};have:4294967296^k*1<=4294967296^k*(x+4294967296*aj (l.drop (k+1))):=aB _ Oz;omega
theorem R5{b:List Nat}{j:Nat}(h:aj O+c*4294967296^(i+j)=V+u*aj (b.take j)*4294967296^i)(d:O[i+j]?=aF x)(a:b[j]?=aF v):aj (O.set (i+j) ((u*v+x+c)% 4294967296))+(u*v+x+c)/4294967296*4294967296^(i+(j+1))=V+u*aj (b.take (j+1))*4294967296^i:=by have hs:=uZ (y:=(u*v+x+c)% 4294967296) d;have e:=ak (u*v+x+c) 4294967296;rw[pv a,show i+(j+1)=(i+j)+1 by omega,az,bE]at*;generalize (u*v+x+c)% 4294967296=r at e hs|-;generalize (u*v+x+c)/4294967296=q at e hs|-;grind
theorem R4(h:aj O+c*4294967296^k=V)(a:O[k]?=aF 0):aj (O.set k c)=V:=by have hs:=uZ (y:=c) a;rw[Nat.mul_zero,cG]at hs;rw[hs,<-h,aE]
theorem wY(a:u<4294967296)(b:v<4294967296)(d:x<4294967296)(hc:c<4294967296):u*v+x+c<18446744073709551616/\(u*v+x+c)/4294967296<4294967296:=by have h1:u*v<=4294967295*4294967295:=b9 Oz Oz;omega
theorem FK{d:Nat}(h:aj (a.drop (i+1))=d*aj out+r)(b:a[i]?=aF x):aj (a.drop i)=d*aj ((r*4294967296+x)/d::out)+(r*4294967296+x)% d:=by rw[mH b,aj,h];have e:=ak (r*4294967296+x) d;generalize (r*4294967296+x)% d=m at e|-;generalize (r*4294967296+x)/d=q at e|-;grind
theorem FJ{d:Nat}(b:x<4294967296)(a:r<d)(hd:d<4294967296):r*4294967296+x<18446744073709551616/\(r*4294967296+x)/d<4294967296/\(r*4294967296+x)% d<d:=by refine⟨Oz,(aQ Oz).2 ?_,a6 _ Oz⟩;have:(r+1)*4294967296<=d*4294967296:=aD _ a;omega
end fA
namespace fU
open bp bu fH fA gT
def km(g:Nat)(d W W':List Nat)(k c b:Nat):Prop:=W'.length=W.length/\W'.drop k=W.drop k/\aj (W'.take k)+g*aj (d.take k)=aj (W.take k)+(c+b)*4294967296^k
theorem km.start(g:Nat)(d W:List Nat):km g d W W 0 0 0:=⟨rfl,rfl,by simp[aj]⟩
theorem sj{b:List Nat}(h:a.drop k=b.drop k):a[k]?=b[k]?:=by have:=congrArg (λl=>l[0]?) h;simpa[List.getElem?_drop]using this
theorem rC(h:k<l.length):(l.set k y).take (k+1)=l.take k++[y]:=by rw[zX (x:=y) (by rw[List.getElem?_set_self h]),List.take_set_of_le (Nat.le_refl _)]
theorem Bw:(l.set k y).drop (k+1)=l.drop (k+1):=by rw[List.drop_set_of_lt Oz]
theorem FQ{b:List Nat}(h:a.drop k=b.drop k):a.drop (k+1)=b.drop (k+1):=by rw[<-cr,<-cr,h]
theorem km.step{d:List Nat}(h:km g d W W' k c b)(f:d[k]?=aF v)(a:W[k]?=aF x)(hd:diff+(g*v+c)% 4294967296+b=x+b'*4294967296):km g d W (W'.set k diff) (k+1) ((g*v+c)/4294967296) b':=by obtain⟨h1,h2,h3⟩:=h;have i:k<W.length:=(ad.1 a).1;refine⟨by rw[a4,h1],by rw[Bw];exact FQ h2,?_⟩;rw[rC Oz,sD,take_len Oz,pv f,pv a,az];have e:=ak (g*v+c) 4294967296;generalize (g*v+c)% 4294967296=lo at*;generalize (g*v+c)/4294967296=hi at*;grind
theorem km.last{d:List Nat}(h:km g d W W' n c b)(m:d.length=n)(f:W.length=n+1)(j:W[n]?=aF x)(hd:diff+c+b=x+b'*4294967296):aj (W'.set n diff)+g*aj d=aj W+b'*4294967296^(n+1)/\(W'.set n diff).length=n+1:=by obtain⟨h1,h2,h3⟩:=h;have i:(W'.set n diff).length=n+1:=by{rw[a4,h1,f]};refine⟨?_,i⟩;have ap:aj (W'.set n diff)=aj (W'.take n)+4294967296^n*diff:=by{have:=rC (l:=W') (k:=n) (y:=diff) Oz;rw[aP Oz]at this;rw[this,sD,take_len Oz]};have a:aj W=aj (W.take n)+4294967296^n*x:=by{rw[<-pv j,aP Oz]};have e:aj (d.take n)=aj d:=ow Oz;rw[ap,a,<-e,az];grind
def nj(d W W':List Nat)(k c:Nat):Prop:=W'.length=W.length/\W'.drop k=W.drop k/\aj (W'.take k)+c*4294967296^k=aj (W.take k)+aj (d.take k)
theorem nj.start(d W:List Nat):nj d W W 0 0:=⟨rfl,rfl,by simp[aj]⟩
theorem nj.step{d:List Nat}(h:nj d W W' k c)(b:d[k]?=aF v)(a:W[k]?=aF x):nj d W (W'.set k ((x+v+c)% 4294967296)) (k+1) ((x+v+c)/4294967296):=by obtain⟨h1,h2,h3⟩:=h;have f:k<W.length:=(ad.1 a).1;refine⟨by rw[a4,h1],by rw[Bw];exact FQ h2,?_⟩;rw[rC Oz,sD,take_len Oz,pv b,pv a,az];have e:=ak (x+v+c) 4294967296;generalize (x+v+c)% 4294967296=lo at*;generalize (x+v+c)/4294967296=hi at*;grind
theorem nj.last{d:List Nat}(h:nj d W W' n c)(i:d.length=n)(f:W.length=n+1)(g:W[n]?=aF x):aj (W'.set n ((x+c)% 4294967296))+(x+c)/4294967296*4294967296^(n+1)=aj W+aj d/\(W'.set n ((x+c)% 4294967296)).length=n+1:=by obtain⟨h1,h2,h3⟩:=h;refine⟨?_,by rw[a4,h1,f]⟩;have ap:aj (W'.set n ((x+c)% 4294967296))=aj (W'.take n)+4294967296^n*((x+c)% 4294967296):=by{have:=rC (l:=W') (k:=n) (y:=(x+c)% 4294967296) Oz;rw[aP (by rw[a4];omega)]at this;rw[this,sD,take_len Oz]};have a:aj W=aj (W.take n)+4294967296^n*x:=by{rw[<-pv g,aP Oz]};have b:aj (d.take n)=aj d:=ow Oz;have e:=ak (x+c) 4294967296;rw[ap,a,<-b,az];generalize (x+c)% 4294967296=lo at*;generalize (x+c)/4294967296=hi at*;grind
theorem Vw(c:l.length=k+2)(a:l[k+1]?=aF x)(b:l[k]?=aF y):aj l=(x*4294967296+y)*4294967296^k+aj (l.take k):=by have h:=nD l k Oz;rw[mH b,mH a,cA Oz,aj]at h;grind
theorem Vx(d:l.length=k+3)(a:l[k+2]?=aF x)(b:l[k+1]?=aF y)(c:l[k]?=aF z):aj l=((x*4294967296+y)*4294967296+z)*4294967296^k+aj (l.take k):=by have h:=nD l k Oz;rw[mH c,mH b,mH a,cA Oz,aj]at h;grind
theorem Px{P t D2:Nat}(h:t<P):(D2*P+t)*4294967296<=(D2+1)*4294967296*P:=by have:t*4294967296<=P*4294967296:=aD _ Oz;grind
theorem Gh{d:List Nat}{v1:Nat}(a:Ok d)(f:Ok W)(hd:d.length=k+2)(n:W.length=k+3)(p:W[k+2]?=aF x)(q:W[k+1]?=aF y)(r:W[k]?=aF z)(g:d[k+1]?=aF v1)(c:d[k]?=aF v2)(h1:2147483648<=v1)(b:aj W<aj d*4294967296):aj W/aj d<=dJ (x*4294967296+y) z v1 v2/\dJ (x*4294967296+y) z v1 v2<=aj W/aj d+1/\x*4294967296+y<(v1+1)*4294967296:=by have ap:=Vw hd g c;have l:=Vx n p q r;have e:=kM (a.take k);have i:=kM (f.take k);rw[take_len Oz]at e i;have o:=pow_pos k;rw[ap,l]at b|-;obtain⟨h2,h3⟩:=PB (top:=x*4294967296+y) (u:=z) (v1:=v1) (v2:=v2) rfl rfl o Oz i e b;refine⟨h2,h3,?_⟩;rcases d9 (x*4294967296+y) ((v1+1)*4294967296)with h|h;{exact h};exfalso;have j:v2<4294967296:=a.at_ c;have h4:(v1*4294967296+v2+1)*4294967296<=(x*4294967296+y)*4294967296+z:=by{have m:v1*4294967296+v2+1<=x*4294967296+y:=Oz;exact a2 (aD 4294967296 m) (Nat.le_add_right _ _)};have s:(v1*4294967296+v2+1)*4294967296*4294967296^k<=((x*4294967296+y)*4294967296+z)*4294967296^k:=aD (4294967296^k) h4;have t:=Px (D2:=v1*4294967296+v2) e;omega
end fU
namespace fX
open bp bu fH fA gT fU
theorem Ib{P:Nat}(h:aj l<4294967296^i*P)(a:l[i]?=aF x):x<P:=by have b:i<l.length:=(ad.1 a).1;have e:=nD l i Oz;rw[mH a]at e;have h1:4294967296^i*x<=aj l:=by{rw[e];exact a2 (aB _ Oz) (cm _ _)};exact a8 (aU h1 h)
theorem wX(s:Nat)(hs:s<=32):4294967296=2^s*2^(32-s):=by rw[<-bE,show s+(32-s)=32 by omega]
theorem yY(h:x<2^s):x|||2^s*m=x+2^s*m:=by rw[Nat.or_comm,<-Nat.two_pow_add_eq_or_of_lt h,ej]
theorem JA{a:Nat}(hs:s<=32)(h:x<2^s):x|||(a*2^s)% 4294967296=x+(a*2^s)% 4294967296:=by have e:(a*2^s)% 4294967296=2^s*(a% 2^(32-s)):=by{rw[wX s hs,aE a,cR]};rw[e,yY h]
theorem La{a:Nat}(hs:s<=31)(h:x<2^s)(ha:a<4294967296):x+(a*2^s)% 4294967296<4294967296/\(a*2^s)/4294967296<2^s/\a*2^s<18446744073709551616:=by have e:(a*2^s)% 4294967296=2^s*(a% 2^(32-s)):=by{rw[wX s Oz,aE a,cR]};have h1:a% 2^(32-s)<2^(32-s):=a6 _ (aL Oz);have c:2^s<=2^31:=bt Oz hs;have b:(2:Nat)^31=2147483648:=rfl;refine⟨?_,?_,?_⟩;{rw[e];have h2:2^s*(a% 2^(32-s))+2^s<=2^s*2^(32-s):=by{rw[<-d8];exact aB _ h1};rw[<-wX s Oz]at h2;omega};{refine(aQ Oz).2 ?_;rw[aE (2^s)];exact a5 ha (aL Oz)};have:a*2^s<=4294967295*2147483648:=b9 Oz Oz;omega
theorem Lb(h:aj out=aj (a.take i)*2^s)(c:a[i]?=aF v)(d:out[i]?=aF x)(f:out[i+1]?=aF 0):aj ((out.set i (x+(v*2^s)% 4294967296)).set (i+1) ((v*2^s)/4294967296))=aj (a.take (i+1))*2^s:=by have h1:=uZ (y:=x+(v*2^s)% 4294967296) d;have b:(out.set i (x+(v*2^s)% 4294967296))[i+1]?=aF 0:=by{rw[List.getElem?_set_ne Oz];exact f};have h2:=uZ (y:=(v*2^s)/4294967296) b;rw[pv c];have e:=ak (v*2^s) 4294967296;rw[az]at h2;generalize v*2^s% 4294967296=lo at*;generalize v*2^s/4294967296=hi at*;grind
theorem UB(h:aj out=aj (a.take i)*2^s)(b:a[i]?=aF v)(c:out[i]?=aF x)(d:(v*2^s)/4294967296=0):aj (out.set i (x+(v*2^s)% 4294967296))=aj (a.take (i+1))*2^s:=by have h1:=uZ (y:=x+(v*2^s)% 4294967296) c;rw[pv b];have e:=ak (v*2^s) 4294967296;rw[d]at e;generalize v*2^s% 4294967296=lo at*;grind
theorem Lc(b:Ok a)(c:i<=a.length):aj (a.take i)*2^s<4294967296^i*2^s:=by have h:=kM (b.take i);rw[take_len c]at h;exact a5 h (aL Oz)
def mO(s:Nat):List Nat->List Nat|[]=>[]|x::l=>(x+4294967296*iG l 0)/2^s% 4294967296::mO s l
theorem MB(s:Nat)(l:List Nat):(mO s l).length=l.length:=by induction l with|nil=>rfl|cons x l ih=>simp[mO,ih]
theorem Mz(s:Nat)(h:l[k]?=aF x):(mO s l)[k]?=aF ((x+4294967296*iG l (k+1))/2^s% 4294967296):=by induction l generalizing k with|nil=>simp at h|cons y l ih=>cases k with|zero=>{simp at h;subst h;simp[mO,iG]}|succ k=>have:=ih (k:=k) (by simpa using h);simpa[mO,iG]using this
theorem O'(hs:s<=32):aj l% 2^s=iG l 0% 2^s:=by cases l with|nil=>simp[aj,iG]|cons x l=>rw[aj,wX s hs,ce,cw];simp[iG]
theorem MC(hs:s<=31)(h:Ok l):aj (mO s l)=aj l/2^s:=by induction l with|nil=>simp[mO,aj]|cons x l ih=>rw[mO,aj,aj,ih h.tail];have b:0<2^s:=aL Oz;have k:=h.head;have g:=O' (l:=l) (s:=s) Oz;have ap:=ak (aj l) (2^s);have a:=ak (iG l 0) (2^s);rw[<-g]at a;have d:=a6 (aj l) b;generalize aj l% 2^s=r at ap a d;generalize aj l/2^s=j at ap|-;generalize iG l 0/2^s=i at a;have e:x+4294967296*aj l=x+4294967296*r+2^s*(4294967296*j):=by{rw[<-ap];grind};have f:x+4294967296*iG l 0=x+4294967296*r+2^s*(4294967296*i):=by{rw[<-a];grind};rw[e,f,cZ _ _ b,cZ _ _ b,cw];have c:(x+4294967296*r)/2^s<4294967296:=by{refine(aQ b).2 ?_;have:4294967296*(r+1)<=4294967296*2^s:=aB _ d;omega};rw[dq c]
def jZ(U0 D:Nat)(u a:List Nat)(i:Nat):Prop:=U0=aj a*4294967296^i*D+aj u/\aj (u.drop i)<D
theorem jZ.step{d:List Nat}(h:jZ U0 D (pre++W++l) d (i+1))(b:pre.length=i)(c:aj l=0)(a:aj W'=aj W% D)(e:0<D):jZ U0 D (pre++W'++l) (aj W/D::d) i:=by obtain⟨h1,_⟩:=h;have g:=a6 (aj W) e;have f:=ak (aj W) D;constructor;{rw[h1,a9,a9,sC,sC,sC,sC,c,b,aj,a,az];generalize aj W% D=r at*;generalize aj W/D=q at*;grind};rw[a9,<-b,d0,sC,c,a];omega
theorem jZ.MK{m:List Nat}(h:jZ U0 D (pre++W++a) m (i+1))(j:pre.length=i)(f:W.length=n+1)(d:Ok (pre++W++a))(o:D<4294967296^n):aj a=0/\aj W<D*4294967296:=by obtain⟨_,h2⟩:=h;obtain⟨x,b,rfl⟩:∃x b,W=x::b:=by{cases W with|nil=>simp at f|cons x l=>exact⟨x,l,rfl⟩};have e:(pre++x::b++a).drop (i+1)=b++a:=by{rw[a9,<-j,<-cr,d0];rfl};rw[e,sC]at h2;have k:b.length=n:=by{simpa using f};have p:x<4294967296:=d x Ow;have g:aj a=0:=by{rcases a0 (aj a)with c|c;{exact c};have:4294967296^b.length*1<=4294967296^b.length*aj a:=aB _ c;rw[k]at this h2;omega};refine⟨g,?_⟩;rw[g]at h2;rw[aj];have:(aj b+1)*4294967296<=D*4294967296:=aD _ Oz;omega
theorem jZ.start{u:List Nat}(ha:Ok a)(c:aj u=U0)(h:U0=aj a*2^s)(hs:s<=31)(i:a.length+1=m+n)(j:u.length=m+n)(k:0<n)(g:2147483648*4294967296^(n-1)<=D):jZ U0 D u [] m:=by refine⟨by rw[c];simp[aj],?_⟩;have e:=nD u m Oz;have b:=kM ha;have h1:4294967296^m*aj (u.drop m)<4294967296^m*D:=by{have h2:4294967296^m*aj (u.drop m)<=aj a*2^s:=by{rw[<-h,<-c,e];exact cm _ _};have h3:aj a*2^s<4294967296^a.length*2^s:=a5 b (aL Oz);have h4:4294967296^a.length=4294967296^m*4294967296^(n-1):=by{rw[<-bE];congr 1;omega};have d:2^s<=2147483648:=bt Oz hs;have f:4294967296^m*4294967296^(n-1)*2^s<=4294967296^m*D:=by{rw[ce];refine aB _ (a2 ?_ g);rw[aE];exact aD _ d};rw[h4]at h3;exact aU h2 (df h3 f)};exact a8 h1
theorem jZ.finish{A:Nat}{u:List Nat}(h:jZ (A*2^s) (n*2^s) u l 0):aj l=A/n/\aj u/2^s=A% n:=by obtain⟨h1,h2⟩:=h;have b:0<2^s:=aL Oz;simp only[Nat.pow_zero,Nat.mul_one,List.drop_zero]at h1 h2;have a:2^s∣aj u:=by{have e:aj u=2^s*A-2^s*(aj l*n):=by{have:aj l*(n*2^s)=2^s*(aj l*n):=Oj;have:A*2^s=2^s*A:=aE _ _;omega};rw[e,<-Nat.mul_sub];exact Nat.dvd_mul_right _ _};obtain⟨r,c⟩:=a;rw[c]at h1 h2;have h3:A=n*aj l+r:=by{have:2^s*A=2^s*(n*aj l+r):=Oj;exact Nat.eq_of_mul_eq_mul_left b this};have h4:r<n:=by{rw[aE]at h2;exact a7 h2};rw[c,Nat.mul_div_cancel_left _ b];constructor;{rw[h3,dB Oz,dw h4,cG]};rw[h3,Nat.mul_add_mod,dq h4]
end fX
namespace bC
open bp bu
def dM(neg:Bool)(n:Nat):Int:=if neg then-(n:Int)else n
theorem DM(neg:Bool)(n:Nat):(dM neg n).natAbs=n:=by cases neg<;>simp[dM]
def af(q:Rat):Bool:=decide (q.num<0)
def qU(q:Rat):List UInt8:=bytesOf q.num.natAbs
def lM(q:Rat):List UInt8:=if q.den=1 then[]else bytesOf q.den
def pj(den:List UInt8):Nat:=if den=[]then 1 else dE den
def gL(neg:Bool)(num den:List UInt8):Bool:=decide (num=bytesOf (dE num))&&decide (den=bytesOf (dE den))&&(if num=[]then !neg&&decide (den=[])else decide (den=[])||(decide (den≠[1])&&decide ((dE num).gcd (dE den)=1)))
def eD(neg:Bool)(num den:List UInt8):Rat:=if gL neg num den then mkRat (dM neg (dE num)) (pj den)else 0
theorem CM(neg:Bool)(n d:Nat)(hd:d≠0):(mkRat (dM neg n) d).num.natAbs=n/n.gcd d:=by rw[d4,Uz hd,DM,cE];cases neg;{simp only[dM,cg,if_false,<-bj,dg]};have h:((n.gcd d:Nat):Int)∣(n:Int):=cB.2 (dr _ _);simp only[dM,if_true,c6 h,Int.natAbs_neg,<-bj,dg]
theorem IW(neg:Bool)(n d:Nat)(hd:d≠0):(mkRat (dM neg n) d).den=d/n.gcd d:=by rw[Rat.den_mkRat,Uz hd,DM,cE]
theorem Pd{d:Nat}(a:n≠0):n/n.gcd d≠0:=by have h1:=Nat.gcd_pos_of_pos_left d (de a);have h2:=Nat.gcd_le_left d (de a);exact Nat.pos_iff_ne_zero.1 (Nat.div_pos h2 h1)
theorem IY(neg:Bool)(n d:Nat)(hd:d≠0):af (mkRat (dM neg n) d)=(neg&&decide (n≠0)):=by have ha:=CM neg n d hd;by_cases a:n=0;{subst a;have:(mkRat (dM neg 0) d)=0:=by{cases neg<;>simp[dM,d2]};rw[this];cases neg<;>rfl};have b:=Pd (d:=d) a;have h1:(mkRat (dM neg n) d).num=(dM neg n)/((n.gcd d:Nat):Int):=by{rw[d4,Uz hd,DM,cE]};unfold af;cases neg;{have:¬((mkRat (dM d7 n) d).num<0):=by{rw[h1];simp only[dM,cg,if_false,<-bj];omega};simp[this]};have h:((n.gcd d:Nat):Int)∣(n:Int):=cB.2 (dr _ _);have:(mkRat (dM eP n) d).num<0:=by{rw[h1];simp only[dM,if_true,c6 h,<-bj];omega};simp[this,a]
theorem DN(q:Rat):dM (af q) q.num.natAbs=q.num:=by unfold dM af;by_cases h:q.num<0;{simp[h];omega};simp[h];omega
theorem IZ(q:Rat):mkRat (dM (af q) q.num.natAbs) q.den=q:=by rw[DN,cv]
theorem By(q:Rat):pj (lM q)=q.den:=by unfold pj lM;by_cases h:q.den=1;{simp[h]};rw[Uz h,Uz (by rw[vY];exact q.den_nz),lX]
theorem ME(q:Rat):gL (af q) (qU q) (lM q)=eP:=by have a:q.num.natAbs.gcd q.den=1:=q.reduced;unfold gL;simp only[a3,decide_eq_true_eq];refine⟨⟨?_,?_⟩,?_⟩;{unfold qU;rw[lX]};{unfold lM;by_cases h:q.den=1;{simp[h,dE,mV]};rw[Uz h,lX]};by_cases h:qU q=[];{rw[Uy h];have b:q.num.natAbs=0:=vY.1 h;rw[b,Nat.gcd_zero_left]at a;have h1:¬q.num<0:=Oz;simp[af,lM,a,h1]};rw[Uz h];by_cases h1:q.den=1;{simp[lM,h1]};have h2:lM q=bytesOf q.den:=by{unfold lM;rw[Uz h1]};have h3:bytesOf q.den≠[1]:=λe=>h1 (ye (e.trans uH.symm));rw[h2];simp[h3,qU,lX,a]
theorem PI(q:Rat):eD (af q) (qU q) (lM q)=q:=by unfold eD;rw[Uy (ME q),By];unfold qU;rw[lX,IZ]
theorem Pr{neg:Bool}{num den:List UInt8}(h:gL neg num den=eP):af (eD neg num den)=neg/\qU (eD neg num den)=num/\lM (eD neg num den)=den:=by have e:eD neg num den=mkRat (dM neg (dE num)) (pj den):=by{unfold eD;rw[Uy h]};rw[e];unfold gL at h;simp only[a3,decide_eq_true_eq]at h;obtain⟨⟨h1,h2⟩,h3⟩:=h;have a:pj den≠0:=by{unfold pj;split;{omega};intro bL;rw[bL,mV]at h2;contradiction};rw[IY _ _ _ a];unfold qU lM;rw[CM _ _ _ a,IW _ _ _ a];by_cases c:num=[];{rw[Uy c]at h3;subst c;simp only[a3,decide_eq_true_eq,Bool.not_eq_true']at h3;obtain⟨rfl,rfl⟩:=h3;simp[dE,pj,mV]};rw[Uz c]at h3;have g:dE num≠0:=λbL=>by{rw[bL,mV]at h1;exact c h1};refine⟨by simp[g],?_⟩;by_cases b:den=[];{subst b;simp only[pj,if_true,Nat.gcd_one_right,cX];exact⟨h1.symm,trivial⟩};have d:pj den=dE den:=by{unfold pj;rw[Uz b]};simp only[b,decide_false,Bool.false_or,a3,decide_eq_true_eq]at h3;rw[d,h3.2,cX,cX];refine⟨h1.symm,?_⟩;rw[Uz (λf=>h3.1 (by rw[h2,f,uH]))];exact h2.symm
theorem Gb:af 0=d7/\qU 0=[]/\lM 0=[]:=by refine⟨rfl,?_,rfl⟩;show bytesOf 0=[];exact mV
end bC
namespace bD
open bp bu bC
def nm(q:Rat):Nat:=q.num.natAbs
def mk(s:Bool)(n d:Nat):Rat:=mkRat (dM s n) d
theorem qj(q:Rat):mk (af q) (nm q) q.den=q:=IZ q
theorem CO(s:Bool)(n d:Nat)(a:k≠0):mk s (n*k) (d*k)=mk s n d:=by unfold mk;have e:dM s (n*k)=dM s n*(k:Int):=by{cases s<;>simp[dM,c0]};rw[e,c3 a]
theorem Jh(s:Bool)(n d:Nat)(hd:d≠0):nm (mk s n d)=n/n.gcd d:=CM s n d hd
theorem yl(s:Bool)(n d:Nat)(hd:d≠0):(mk s n d).den=d/n.gcd d:=IW s n d hd
theorem Sd(s:Bool)(n d:Nat)(hd:d≠0):af (mk s n d)=(s&&decide (n≠0)):=IY s n d hd
theorem tM{q:Rat}:nm q=0↔q=0:=by unfold nm;rw[Int.natAbs_eq_zero,Rat.num_eq_zero]
theorem Ji{q:Rat}(h:af q=eP):nm q≠0:=by unfold af at h;unfold nm;have:q.num<0:=by{simpa using h};omega
theorem CN(s t:Bool)(x y d:Nat)(hd:d≠0):mk s x d+mk t y d=mkRat (dM s x+dM t y) d:=by unfold mk;rw[Rat.mkRat_add_mkRat _ _ hd hd,<-Int.add_mul,c3 hd]
theorem IQ(s:Bool)(x y d:Nat)(hd:d≠0):mk s x d+mk s y d=mk s (x+y) d:=by rw[CN _ _ _ _ _ hd,mk];congr 1;cases s<;>simp[dM]<;>omega
theorem IU{s:Bool}(a:s≠t)(x y d:Nat)(hd:d≠0)(h:y<=x):mk s x d+mk t y d=mk s (x-y) d:=by rw[CN _ _ _ _ _ hd,mk];congr 1;cases s<;>cases t<;>simp[dM]at* <;>omega
theorem IV{s:Bool}(a:s≠t)(x y d:Nat)(hd:d≠0)(h:x<y):mk s x d+mk t y d=mk t (y-x) d:=by rw[CN _ _ _ _ _ hd,mk];congr 1;cases s<;>cases t<;>simp[dM]at* <;>omega
theorem JB(a b:Rat):mk (af a) (nm a*b.den) (a.den*b.den)=a/\mk (af b) (nm b*a.den) (a.den*b.den)=b:=by constructor;{rw[CO _ _ _ b.den_nz,qj]};rw[aE a.den,CO _ _ _ a.den_nz,qj]
theorem IX(s t:Bool)(x y d e:Nat):mk s x d*mk t y e=mk (s !=t) (x*y) (d*e):=by unfold mk;rw[Rat.mkRat_mul_mkRat];congr 1;cases s<;>cases t<;>simp[dM,c0,Int.mul_neg]
theorem mul_eq(a b:Rat):mk (af a !=af b) (nm a*nm b) (a.den*b.den)=a*b:=by rw[<-IX,qj,qj]
theorem mk_zero(s:Bool)(d:Nat):mk s 0 d=0:=by unfold mk;cases s<;>simp[dM,d2]
theorem mk_one(s:Bool)(n:Nat):mk s n 1=((dM s n:Int):Rat):=by unfold mk;rw[Rat.mkRat_one]
theorem Pu{a b c:Rat}(d:b≠0)(h:c*b=a):c=a/b:=Oj
theorem div_eq(a b:Rat)(c:b≠0):mk (af a !=af b) (nm a*b.den) (a.den*nm b)=a/b:=by have d:nm b≠0:=λe=>c (tM.1 e);have h1:mk (af a !=af b) (nm a*b.den) (a.den*nm b)*b=a:=by{(conv=>lhs;rhs;rw[<-qj b]);rw[IX];have e:((af a !=af b)!=af b)=af a:=by{cases af a<;>cases af b<;>rfl};rw[e,ce,ce,show b.den*nm b=nm b*b.den from aE _ _,CO _ _ _ (Nat.mul_ne_zero d b.den_nz),qj]};exact Pu c h1
def eC(a b:Rat):Int:=if a<b then-1 else if a=b then 0 else 1
def eF(a:Rat):Int:=eC a 0
theorem zD(a:Rat):eF a=if nm a=0 then 0 else if af a then-1 else 1:=by unfold eF eC;by_cases b:a=0;{subst b;rw[Uy (tM.2 rfl)];have h1:¬((0:Rat)<0):=Oj;rw[Uz h1,Uy rfl]};rw[Uz (λe=>b (tM.1 e)),Uz b];have h1:a<0↔a.num<0:=by{rw[c9];simp};unfold af;by_cases h2:a.num<0;{rw[Uy (h1.2 h2)];simp[h2]};rw[Uz (λe=>h2 (h1.1 e))];simp[h2]
theorem OC(a b:Rat):eC a b=if a.num*b.den<b.num*a.den then-1 else if a.num*b.den=b.num*a.den then 0 else 1:=by unfold eC;by_cases h:a.num*b.den<b.num*a.den;{rw[Uy ((c9 a b).2 h),Uy h]};rw[Uz (λe=>h ((c9 a b).1 e)),Uz h];by_cases h2:a=b;{subst h2;simp};have h3:a.num*b.den≠b.num*a.den:=by{intro e;apply h2;have ha:=cv a;have c:=cv b;rw[<-ha,<-c,Rat.mkRat_eq_iff a.den_nz b.den_nz];exact e};rw[Uz h2,Uz h3]
theorem Ur(a b:Rat)(h:eF a<eF b):eC a b= -1:=by unfold eF eC at*;split at h<;>split at h<;>(try split at h)<;>(try split at h)<;>first|omega|(rw[Uy];grind)
theorem Us(a b:Rat)(h:eF b<eF a):eC a b=1:=by unfold eF eC at*;split at h<;>split at h<;>(try split at h)<;>(try split at h)<;>first|omega|(rw[Uz,Uz]<;>grind)
theorem Fw(a b:Rat)(h:eF a=eF b):eC a b=(if af a then-1 else 1)*(if nm a*b.den<nm b*a.den then-1 else if nm a*b.den=nm b*a.den then 0 else 1):=by rw[OC];rw[zD,zD]at h;have c:=DN a;have d:=DN b;have hs:nm a=0/\nm b=0\/af a=af b:=by{by_cases h1:nm a=0<;>by_cases h2:nm b=0<;>cases h3:af a<;>cases h4:af b<;>simp[h1,h2,h3,h4]at h|-};have e:a.num=dM (af a) (nm a):=c.symm;have f:b.num=dM (af b) (nm b):=d.symm;rw[e,f];rcases hs with⟨h1,h2⟩|hs;{have g:af a=d7:=by{cases hn:af a;{rfl};exact Uj h1 (Ji hn)};have i:af b=d7:=by{cases hn:af b;{rfl};exact Uj h2 (Ji hn)};rw[h1,h2,g,i];simp[dM]};rw[<-hs];cases af a;{simp only[dM,cg,if_false,<-d1];generalize nm a*b.den=x;generalize nm b*a.den=y;by_cases h1:x<y;{rw[Uy Oz,Uy h1];rfl};rw[Uz Oz,Uz h1];by_cases h2:x=y;{rw[Uy Oz,Uy h2];rfl};rw[Uz Oz,Uz h2];rfl};simp only[dM,if_true,c0,<-d1];generalize nm a*b.den=x;generalize nm b*a.den=y;by_cases h1:x<y;{rw[Uz Oz,Uz Oz,Uy h1];rfl};by_cases h2:x=y;{rw[Uz Oz,Uy Oz,Uz h1,Uy h2];rfl};rw[Uy Oz,Uz h1,Uz h2];rfl
end bD
namespace ux
open bp bu bC bD
theorem RY(n d:Nat)(hd:d≠0):mk d7 n d*(d:Rat)=(n:Rat):=by unfold mk;rw[Rat.mkRat_eq_div];have h:(d:Rat)≠0:=by{intro e;have:((d:Nat):Rat)=((0:Nat):Rat):=e;exact hd (Rat.natCast_inj.1 this)};have e:((dM d7 n:Int):Rat)=(n:Rat):=by{simp[dM,Rat.intCast_natCast]};rw[e];grind
end ux
namespace jT
theorem vA(h:n<4294967296):n.testBit 31=decide (2147483648<=n):=by rw[Nat.testBit_eq_decide_div_mod_eq];rw[show(2:Nat)^31=2147483648 from rfl];by_cases h1:2147483648<=n;{rw[show n/2147483648=1 by omega];simp[h1]};rw[show n/2147483648=0 by omega];simp[h1]
theorem Jp(h:n<4294967296):(4294967295-n).testBit 31= !n.testBit 31:=by rw[vA h,vA Oz];by_cases h1:2147483648<=n;{have:¬2147483648<=4294967295-n:=Oz;simp[h1,this]};have:2147483648<=4294967295-n:=Oz;simp[h1,this]
theorem Sr{a:Nat}(ha:a<4294967296)(c:b<4294967296):a|||b<4294967296:=Nat.or_lt_two_pow (n:=32) ha c
theorem x8{a:Nat}(c:b<4294967296):a&&&b<4294967296:=Nat.and_lt_two_pow (n:=32) a c
theorem ML{a:Nat}(ha:a<4294967296)(c:b<4294967296):a^^^b<4294967296:=Nat.xor_lt_two_pow (n:=32) ha c
theorem Vv(h:n<4294967296):n/2147483648=if n.testBit 31 then 1 else 0:=by rw[vA h];by_cases h1:2147483648<=n;{simp[h1];omega};simp[h1];omega
theorem NR{d:Nat}(c:x<4294967296)(f:y<4294967296)(g:b<=1)(hd:d=(x+8589934592-y-b)% 4294967296):(((4294967295-x)&&&y)|||((4294967295-(x^^^y))&&&d))/2147483648=if x<y+b then 1 else 0:=by have a:d<4294967296:=Oz;have e:=ML c f;rw[Vv (Sr (x8 f) (x8 a)),Nat.testBit_or,dz,dz,Jp c,Jp e,Nat.testBit_xor,vA c,vA f,vA a];by_cases h1:2147483648<=x<;>by_cases h2:2147483648<=y<;>by_cases h3:2147483648<=d<;>by_cases h4:x<y+b<;>simp[h1,h2,h3,h4]<;>omega
theorem NS{d:Nat}(c:x<4294967296)(e:y<4294967296)(a:b<=1)(hd:d=(x+8589934592-y-b)% 4294967296):d+y+b=x+(if x<y+b then 1 else 0)*4294967296:=by split<;>omega
end jT
namespace bA
open bp bu fH fA
theorem ae{p:Prop}(h:p):Hid p:=h
def jw(l:List Nat):List eB:=l.map λ(x:Nat)=>aS .u32 (x:Int)
def bv(l:List UInt8):List eB:=l.map λc=>aS .u8 (c.toNat:Int)
theorem En(l:List Nat):(jw l).length=l.length:=by simp[jw]
theorem Fe(l:List UInt8):(bv l).length=l.length:=by simp[bv]
theorem N0(a b:List UInt8):bv (a++b)=bv a++bv b:=by simp[bv]
theorem mQ(l:List Nat)(k x:Nat):(jw l).set k (aS .u32 (x:Int))=jw (l.set k x):=by simp[jw,d5]
theorem N3(l:List UInt8)(k:Nat)(c:UInt8):(bv l).set k (aS .u8 (c.toNat:Int))=bv (l.set k c):=by simp[bv,d5]
theorem mP(h:l[k]?=aF x):(jw l)[k]?=aF (aS .u32 (x:Int)):=by simp[jw,h]
theorem Fc{l:List UInt8}{c:UInt8}(h:l[k]?=aF c):(bv l)[k]?=aF (aS .u8 (c.toNat:Int)):=by simp[bv,h]
theorem ox(n:Nat):(c7 (aS .u32 0).cells (n*1)).toList=jw (bq n 0):=by simp[c7,d6,jw,eu,dx]
theorem Rz(n:Nat):(c7 (aS .u8 0).cells (n*1)).toList=bv (bq n 0):=by simp[c7,d6,bv,eu,dx]
def cJ(w:cx)(B:Nat)(A:Option Addr)(l:List Nat):Prop:=Ok l/\l.length<=d3/\(0<l.length->∃b a,A=aF ⟨b,a,none⟩/\b<B/\∀(k x:Nat),l[k]?=aF x->w.cell? ⟨b,a+k,none⟩=aF (aS .u32 (x:Int)))
section
variable {w w':cx} {B B':Nat} {A:Option Addr} {l:List Nat}
theorem cJ.ok(h:cJ w B A l):Ok l:=h.1
theorem cJ.len(h:cJ w B A l):l.length<=9223372036854775807:=by have:=h.2.1;unfold d3 at this;omega
theorem cJ.below(h:cJ w B A l)(d:Below B w w'):cJ w' B A l:=⟨h.1,h.2.1,λg=>by obtain⟨b,c,e,a,hc⟩:=h.2.2 g;exact⟨b,c,e,a,λk x f=>(d.cell (p:=⟨b,c+k,none⟩) a).trans (hc k x f)⟩⟩
theorem cJ.mono(h:cJ w B A l)(f:B<=B'):cJ w B' A l:=⟨h.1,h.2.1,λd=>by obtain⟨b,a,e,c,hc⟩:=h.2.2 d;exact⟨b,a,e,Oz,hc⟩⟩
theorem cJ.next(h:cJ w w.1.size A l)(a:Below w.1.size w w'):cJ w' w'.1.size A l:=(h.below a).mono a.size
theorem cJ.nil:cJ w B A []:=⟨Ok.nil,cM _,λh=>by simp at h⟩
theorem cJ.take(h:cJ w B A l)(k:Nat):cJ w B A (l.take k):=by refine⟨h.1.take k,a2 (List.length_take_le' ..) h.2.1,λf=>?_⟩;obtain⟨b,d,e,c,hc⟩:=h.2.2 (by rw[aH]at f;omega);refine⟨b,d,e,c,λj x a=>hc j x ?_⟩;rw[c5]at a;split at a;{exact a};cases a
theorem cJ.mj(h:w.ownsRow base T 1 (cl A n c) n (jw l))(p:Ok l):cJ w w.1.size A l:=by have o:n=l.length:=by{have:=h.1;rw[En]at this;omega};subst o;have m:l.length<=d3:=by{rcases h.2 with⟨_,f⟩|⟨g,cap,cur,hv,_,_,d,a,_⟩;{rw[f];exact cM _};exact a2 d a};refine⟨p,m,λq=>?_⟩;obtain⟨g,r,i,_,b⟩:=h.form q;cases i;refine⟨g,0,rfl,b,λk x e=>?_⟩;have j:k<l.length:=(ad.1 e).1;rw[Nat.zero_add];exact(h.cellAt k Oz).trans (mP e)
end
theorem fL{size:Nat}{v:eB}(h:w.ownsRow base e size v n xs):∃A c,v=cl A n c:=by rcases h.2 with⟨rfl,rfl⟩|⟨g,cap,cur,rfl,_⟩;{exact⟨_,_,rfl⟩};exact⟨_,_,rfl⟩
theorem ri{size:Nat}{A:Option Addr}(h:w.ownsRow B e size (cl A n c) n xs):n<=c/\c<=d3:=by rcases h.2 with⟨a,_⟩|⟨g,cap,cur,a,_,_,d,b,_⟩;{injection a with _ h1 h2;omega};injection a with _ h1 h2;omega
theorem gE{w':cx}{size:Nat}{e:TypeId}{v:eB}(h:w.ownsRow base e size v n xs)(a:Below w.1.size w w'):w'.ownsRow base e size v n xs:=h.kept (row:=none) ⟨a.os,a.tape,a.output,a.size,λi b _=>a.block i b⟩ (by cases hv:v.ownBlock<;>simp)
theorem ja{W U:cx}(h:Below w.1.size w W)(h2:Below W.1.size W U):Below w.1.size w U:=h.trans (h2.mono h.size)
theorem below_drewN{a:cx}(h:Below B a w)(n:Nat):Below B a (w.drewN n):=⟨h.os,h.tape,h.output,h.size,h.block⟩
theorem pE{k:IntKind}{a b:Int}(h:a=b):aG (aS k a)=aG (aS k b):=by rw[h]
theorem oY{a b:Bool}(h:a=b):aG (er a)=aG (er b):=by rw[h]
theorem DI{a b:ByteArray}(h:a=b):aG (cz a)=aG (cz b):=by rw[h]
def bs(n:Nat):ByteArray:=⟨(bytesOf n).toArray⟩
def nv(s:ByteArray):Nat:=dE s.1.1
theorem ib(n:Nat):nv (bs n)=n:=by unfold nv bs;simp[lX]
theorem qP(n:Nat):(bs n).size=(bytesOf n).length:=by simp[bs,ByteArray.size]
def ur(l:List Nat)(w:cx)(e:Ending)(w':cx):Prop:=∃A c,e=aG (cl A l.length c)/\l.length<=c/\c<=d3/\cJ w' w'.1.size A l/\Below w.1.size w w'
def nT(s:ByteArray)(w:cx)(e:Ending)(w':cx):Prop:=e=aG (cz s)/\Below w.1.size w w'
end bA
